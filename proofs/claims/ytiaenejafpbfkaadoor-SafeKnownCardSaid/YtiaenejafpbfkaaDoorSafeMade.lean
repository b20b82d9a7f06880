/- Where targets lead, in the document's words; the law SafeMade. -/
import Derived.Test.YtiaenejafpbfkaaDoorInside
import Derived.Test.YtiaenejafpbfkaaDoorRow
namespace Go.Proofs.YtiaenejafpbfkaaDoor
open Go Go.Proofs.YtiaenejafpbfkaaDoor.Sx F
set_option linter.unusedVariables false
set_option linter.unusedSimpArgs false

theorem names2_c (s : Th (List UInt8)) (hs : (s .o).length ≤ 1099511627776) {d : Nat} {K : ARes → BL → Prop} (hr : ∀ l : Th (List (List UInt8)), l .o = splitC 47 (s .o) → K (.ret (strs l)) .nil) : CallAt PT r15_Names [.str s] d .nil K := by
  refine r15_Names.of rfl rfl ?_
  cbv
  refine names_c s hs fun l hl => ?_
  cbv
  exact hr _ hl
theorem inside21_c (p t : Th (List UInt8)) (hp : (p .o).length ≤ 1099511627776) (ht : (t .o).length ≤ 1099511627776) {d : Nat} {K : ARes → BL → Prop} (hr : ∀ b : Th Bool, b .o = insideS (p .o) (t .o) → K (.ret (.bool b)) .nil) :
    CallAt PT r21_Inside [.str p, .str t] d .nil K := by
  refine CallAt.res ?_
  refine r21_Inside.of rfl rfl ?_
  cbv
  have no : insideS (p .o) (t .o) = false → ∀ {y : AV}, Same y (.bool fun _ => false) → ∃ r', SameR (.ret y) r' ∧ K r' .nil := fun h1 y h2 => ⟨_, .ret h2, hr _ h1.symm⟩
  refine path15_c p hp fun b1 hb1 => ?_
  cbv
  refine br_rev (br_nbool (fun h1 => ?_) (fun h1 => ?_))
  · rw [hb1] at h1
    cbv
    exact no (by unfold insideS; rw [h1]; rfl) (.ff rfl)
  rw [hb1] at h1
  cbv
  refine br_rev (br_dec (fun h2 => ?_) (fun h2 => ?_))
  · have h2 : t .o = [] := h2
    cbv
    exact no (by unfold insideS; simp [h2]) (.ff rfl)
  have h2 : ¬ t .o = [] := h2
  have h2l : 0 < (t .o).length := List.length_pos_iff.2 h2
  cbv
  refine safe ⟨Int.le_refl _, zi_lt.2 h2l⟩ ?_
  refine br_dec (fun h3 => ?_) (fun h3 => ?_)
  · have h3 : (t .o).getD 0 0 = 47 := byte_is (k := 47) (by decide) h3
    cbv
    exact no (by unfold insideS; simp only [h3]; simp) (.ff rfl)
  have h3 : ¬ (t .o).getD 0 0 = 47 := fun q => h3 (by show zi ((t .o).getD 0 0).toNat = 47; rw [q]; rfl)
  cbv
  refine loop_rule (X := Nat) 1000 [0, 1] [] (fun k => .cons 5 (.int .i64 fun _ => zi k) .nil) (fun _ => .nil) (fun k => k ≤ (t .o).length ∧ (0 : UInt8) ∉ (t .o).take k) (fun k => (t .o).length - k) 0 ?_ ⟨Nat.zero_le _, by simp⟩ ?_
  · cbv
    (repeat' (first | exact True.intro | exact Same.refl _ | exact SameB.refl _ | exact ⟨rfl⟩ | exact Same.int rfl | exact Same.str rfl | exact Same.bool rfl | (refine Same.int ?_; simp only [List.length_append, List.length_cons, List.length_nil, zi]; omega) | (refine SameB.row' rfl fun i hi => ?_; first | rfl | exact absurd hi (Nat.not_lt_zero _)) | refine And.intro ?_ ?_ | refine SameB.cells ?_ | exact SameC.nil | refine SameC.cons ?_ ?_ | exact Same.nsl rfl | exact Same.tt rfl | exact Same.ff rfl))
  rintro k0 ⟨hk0, n0⟩
  cbv
  ((try refine br_rev ?_); (first | refine br_dec (fun h5 => ?_) (fun h5 => ?_) | refine br_ndec (fun h5 => ?_) (fun h5 => ?_) | refine br_nbool (fun h5 => ?_) (fun h5 => ?_) | refine br_bool (fun h5 => ?_) (fun h5 => ?_)); all_goals (try dsimp only at h5); all_goals (try with_reducible replace h5 := zi_lt.1 h5); all_goals (try with_reducible replace h5 := not_zlt h5))
  · have hz := zi_toNat k0
    have hby : (t .o).getD (zi k0).toNat 0 = (t .o)[k0] := by rw [hz, List.getD_eq_getElem?_getD, List.getElem?_eq_getElem h5]; rfl
    cbv
    refine safe ⟨zi_nonneg _, zi_lt.2 h5⟩ ?_
    refine br_dec (fun h6 => ?_) (fun h6 => ?_)
    · have h6 : (t .o)[k0] = 0 := byte_is (k := 0) (by decide) (hby ▸ h6)
      have : (0 : UInt8) ∈ t .o := h6 ▸ List.getElem_mem h5
      cbv
      exact no (by unfold insideS; simp [this]) (.ff rfl)
    · have h6 : (t .o)[k0] ≠ 0 := fun q => h6 (by show zi ((t .o).getD (zi k0).toNat 0).toNat = 0; rw [hby, q]; rfl)
      cbv
      refine ⟨k0 + 1, ⟨h5, ?_⟩, by omega, ?_⟩
      · rw [List.take_add_one, List.getElem?_eq_getElem h5]
        simp only [Option.toList_some, List.mem_append, List.mem_singleton, not_or]
        exact ⟨n0, fun q => h6 q.symm⟩
      cbv
      rw [zi_succ (by omega)]
      (repeat' (first | exact True.intro | exact Same.refl _ | exact SameB.refl _ | exact ⟨rfl⟩ | exact Same.int rfl | exact Same.str rfl | exact Same.bool rfl | (refine Same.int ?_; simp only [List.length_append, List.length_cons, List.length_nil, zi]; omega) | (refine SameB.row' rfl fun i hi => ?_; first | rfl | exact absurd hi (Nat.not_lt_zero _)) | refine And.intro ?_ ?_ | refine SameB.cells ?_ | exact SameC.nil | refine SameC.cons ?_ ?_ | exact Same.nsl rfl | exact Same.tt rfl | exact Same.ff rfl))
  rw [List.take_of_length_le h5] at n0
  have hni : insideS (p .o) (t .o) = !goS (splitC 47 (t .o)) (zi ((p .o).count 47)) := by
    unfold insideS
    rw [h1]
    have e3 : ¬ (t .o)[0]?.getD 0 = 47 := by simpa [List.getD_eq_getElem?_getD] using h3
    simp [h2, e3, n0]
  have hcl : (p .o).count 47 ≤ (p .o).length := List.count_le_length
  cbv
  refine names2_c p hp fun lp hlp => ?_
  have hdp : IntKind.i64.wrap (zi (lp .o).length - 1) = zi ((p .o).count 47) := by rw [hlp, splitC_len, wrap_in (by unfold zi; omega)]; unfold zi; omega
  cbv
  refine names2_c t ht fun l hl => ?_
  have hll : (l .o).length ≤ 1099511627777 := by rw [hl, splitC_len]; have : (t .o).count 47 ≤ _ := List.count_le_length; omega
  rw [← hl] at hni
  cbv
  refine loop_rule (X := Nat × Int) 1000 [7] [] (fun x => .cons 6 (.int .i64 fun _ => x.2) (.cons 8 (.int .i64 fun _ => zi x.1) .nil)) (fun _ => .nil) (fun x => x.1 ≤ (l .o).length ∧ (0 ≤ x.2 ∧ x.2 ≤ 1099511627776 + zi x.1) ∧ goS (l .o) (zi ((p .o).count 47)) = goS ((l .o).drop x.1) x.2) (fun x => (l .o).length - x.1) (0, zi ((p .o).count 47)) ?_ ⟨Nat.zero_le _, by show 0 ≤ zi ((p .o).count 47) ∧ zi ((p .o).count 47) ≤ 1099511627776 + zi 0; unfold zi; omega, rfl⟩ ?_
  · cbv
    rw [hdp]
    (repeat' (first | exact True.intro | exact Same.refl _ | exact SameB.refl _ | exact ⟨rfl⟩ | exact Same.int rfl | exact Same.str rfl | exact Same.bool rfl | (refine Same.int ?_; simp only [List.length_append, List.length_cons, List.length_nil, zi]; omega) | (refine SameB.row' rfl fun i hi => ?_; first | rfl | exact absurd hi (Nat.not_lt_zero _)) | refine And.intro ?_ ?_ | refine SameB.cells ?_ | exact SameC.nil | refine SameC.cons ?_ ?_ | exact Same.nsl rfl | exact Same.tt rfl | exact Same.ff rfl))
  · rintro ⟨k, e⟩ ⟨hk, he, hgo⟩
    dsimp only at hk he hgo
    have he : 0 ≤ e ∧ e ≤ 1099511627776 + (k : Int) := he
    have hz := zi_toNat k
    cbv
    ((try refine br_rev ?_); (first | refine br_dec (fun h6 => ?_) (fun h6 => ?_) | refine br_ndec (fun h6 => ?_) (fun h6 => ?_) | refine br_nbool (fun h6 => ?_) (fun h6 => ?_) | refine br_bool (fun h6 => ?_) (fun h6 => ?_)); all_goals (try dsimp only at h6); all_goals (try with_reducible replace h6 := zi_lt.1 h6); all_goals (try with_reducible replace h6 := not_zlt h6))
    · rw [goS_drop _ _ h6] at hgo
      cbv
      refine safe ⟨zi_nonneg _, zi_lt.2 h6⟩ ?_
      have hx : (l .o).getD (zi k).toNat [] = (l .o).getD k [] := by rw [hz]
      refine br_dec (fun h2 => ?_) (fun h2 => ?_)
      · have h2 : (l .o).getD k [] = [46, 46] := hx ▸ h2
        have hw : IntKind.i64.wrap (e - 1) = e - 1 := wrap_in (by omega)
        have hst : stepG ((l .o).getD k []) e = (e - 1) := by unfold stepG; rw [if_pos h2]
        rw [hst] at hgo
        cbv
        refine br_dec (fun h5 => ?_) (fun h5 => ?_)
        · have h5 : (e - 1) < 0 := by first | exact h5 | (rw [← hw]; exact h5)
          cbv
          exact no (by rw [hni, hgo, if_pos h5]; rfl) (.ff rfl)
        · have h5 : ¬ (e - 1) < 0 := by first | exact h5 | (rw [← hw]; exact h5)
          rw [if_neg h5] at hgo
          cbv
          refine ⟨(k + 1, (e - 1)), ⟨h6, ⟨by show (0 : Int) ≤ (e - 1); omega, by show (e - 1) ≤ 1099511627776 + zi (k + 1); unfold zi; omega⟩, hgo⟩, by show (l .o).length - (k + 1) < (l .o).length - k; omega, ?_⟩
          cbv
          rw [zi_succ (by omega)]
          (repeat' (first | exact True.intro | exact Same.refl _ | exact SameB.refl _ | exact ⟨rfl⟩ | exact Same.int rfl | exact Same.str rfl | exact Same.bool rfl | (refine Same.int ?_; simp only [List.length_append, List.length_cons, List.length_nil, zi]; omega) | (refine SameB.row' rfl fun i hi => ?_; first | rfl | exact absurd hi (Nat.not_lt_zero _)) | refine And.intro ?_ ?_ | refine SameB.cells ?_ | exact SameC.nil | refine SameC.cons ?_ ?_ | exact Same.nsl rfl | exact Same.tt rfl | exact Same.ff rfl))
          all_goals exact Same.int hw
      have h2 : ¬ (l .o).getD k [] = [46, 46] := hx ▸ h2
      cbv
      refine br_dec (fun h3 => ?_) (fun h3 => ?_)
      · have h3 : (l .o).getD k [] = [46] := hx ▸ h3
        have hw : e = e := rfl
        have hst : stepG ((l .o).getD k []) e = e := by unfold stepG; rw [if_neg h2, if_pos (.inl h3)]
        rw [hst] at hgo
        cbv
        refine br_dec (fun h5 => ?_) (fun h5 => ?_)
        · have h5 : e < 0 := by first | exact h5 | (rw [← hw]; exact h5)
          cbv
          exact no (by rw [hni, hgo, if_pos h5]; rfl) (.ff rfl)
        · have h5 : ¬ e < 0 := by first | exact h5 | (rw [← hw]; exact h5)
          rw [if_neg h5] at hgo
          cbv
          refine ⟨(k + 1, e), ⟨h6, ⟨by show (0 : Int) ≤ e; omega, by show e ≤ 1099511627776 + zi (k + 1); unfold zi; omega⟩, hgo⟩, by show (l .o).length - (k + 1) < (l .o).length - k; omega, ?_⟩
          cbv
          rw [zi_succ (by omega)]
          (repeat' (first | exact True.intro | exact Same.refl _ | exact SameB.refl _ | exact ⟨rfl⟩ | exact Same.int rfl | exact Same.str rfl | exact Same.bool rfl | (refine Same.int ?_; simp only [List.length_append, List.length_cons, List.length_nil, zi]; omega) | (refine SameB.row' rfl fun i hi => ?_; first | rfl | exact absurd hi (Nat.not_lt_zero _)) | refine And.intro ?_ ?_ | refine SameB.cells ?_ | exact SameC.nil | refine SameC.cons ?_ ?_ | exact Same.nsl rfl | exact Same.tt rfl | exact Same.ff rfl))
          all_goals exact Same.int hw
      have h3 : ¬ (l .o).getD k [] = [46] := hx ▸ h3
      cbv
      refine br_dec (fun h4 => ?_) (fun h4 => ?_)
      · have h4 : (l .o).getD k [] = [] := hx ▸ h4
        have hw : e = e := rfl
        have hst : stepG ((l .o).getD k []) e = e := by unfold stepG; rw [if_neg h2, if_pos (.inr h4)]
        rw [hst] at hgo
        cbv
        refine br_dec (fun h5 => ?_) (fun h5 => ?_)
        · have h5 : e < 0 := by first | exact h5 | (rw [← hw]; exact h5)
          cbv
          exact no (by rw [hni, hgo, if_pos h5]; rfl) (.ff rfl)
        · have h5 : ¬ e < 0 := by first | exact h5 | (rw [← hw]; exact h5)
          rw [if_neg h5] at hgo
          cbv
          refine ⟨(k + 1, e), ⟨h6, ⟨by show (0 : Int) ≤ e; omega, by show e ≤ 1099511627776 + zi (k + 1); unfold zi; omega⟩, hgo⟩, by show (l .o).length - (k + 1) < (l .o).length - k; omega, ?_⟩
          cbv
          rw [zi_succ (by omega)]
          (repeat' (first | exact True.intro | exact Same.refl _ | exact SameB.refl _ | exact ⟨rfl⟩ | exact Same.int rfl | exact Same.str rfl | exact Same.bool rfl | (refine Same.int ?_; simp only [List.length_append, List.length_cons, List.length_nil, zi]; omega) | (refine SameB.row' rfl fun i hi => ?_; first | rfl | exact absurd hi (Nat.not_lt_zero _)) | refine And.intro ?_ ?_ | refine SameB.cells ?_ | exact SameC.nil | refine SameC.cons ?_ ?_ | exact Same.nsl rfl | exact Same.tt rfl | exact Same.ff rfl))
          all_goals exact Same.int hw
      have h4 : ¬ (l .o).getD k [] = [] := hx ▸ h4
      have hw : IntKind.i64.wrap (e + 1) = e + 1 := wrap_in (by omega)
      have hst : stepG ((l .o).getD k []) e = (e + 1) := by unfold stepG; rw [if_neg h2, if_neg (fun q => q.elim h3 h4)]
      rw [hst] at hgo
      cbv
      refine br_dec (fun h5 => ?_) (fun h5 => ?_)
      · have h5 : (e + 1) < 0 := by first | exact h5 | (rw [← hw]; exact h5)
        cbv
        exact no (by rw [hni, hgo, if_pos h5]; rfl) (.ff rfl)
      · have h5 : ¬ (e + 1) < 0 := by first | exact h5 | (rw [← hw]; exact h5)
        rw [if_neg h5] at hgo
        cbv
        refine ⟨(k + 1, (e + 1)), ⟨h6, ⟨by show (0 : Int) ≤ (e + 1); omega, by show (e + 1) ≤ 1099511627776 + zi (k + 1); unfold zi; omega⟩, hgo⟩, by show (l .o).length - (k + 1) < (l .o).length - k; omega, ?_⟩
        cbv
        rw [zi_succ (by omega)]
        (repeat' (first | exact True.intro | exact Same.refl _ | exact SameB.refl _ | exact ⟨rfl⟩ | exact Same.int rfl | exact Same.str rfl | exact Same.bool rfl | (refine Same.int ?_; simp only [List.length_append, List.length_cons, List.length_nil, zi]; omega) | (refine SameB.row' rfl fun i hi => ?_; first | rfl | exact absurd hi (Nat.not_lt_zero _)) | refine And.intro ?_ ?_ | refine SameB.cells ?_ | exact SameC.nil | refine SameC.cons ?_ ?_ | exact Same.nsl rfl | exact Same.tt rfl | exact Same.ff rfl))
        all_goals exact Same.int hw
    · rw [List.drop_of_length_le h6] at hgo
      cbv
      exact ⟨_, .ret (y := .bool fun _ => true) (.tt rfl), hr _ (by rw [hni, hgo]; rfl)⟩

/-! ### entries -/
def safeS (e : Entry) : Bool := if e.kind = 2 then pathS e.path && pathS e.target && !decide (e.target = e.path) else if e.kind = 3 then insideS e.path e.target else pathS e.path
theorem sentry_c (e : Th Entry) (hp : (e .o).path.length ≤ 1099511627776) (ht : (e .o).target.length ≤ 1099511627776) {d : Nat} {K : ARes → BL → Prop} (hr : ∀ b : Th Bool, b .o = safeS (e .o) → K (.ret (.bool b)) .nil) : CallAt PT safe_Entry [Entry.av e] d .nil K := by
  refine CallAt.res ?_
  refine safe_Entry.of rfl rfl ?_
  cbv
  refine br_dec (fun h1 => ?_) (fun h1 => ?_)
  · have h1 : (e .o).kind = 2 := h1
    cbv
    refine spath_c (fun _ => (e .o).path) hp fun b1 hb1 => ?_
    cbv
    refine br_bool (fun h2 => ?_) (fun h2 => ?_)
    rotate_left
    · rw [hb1] at h2
      cbv
      exact ⟨_, .ret (y := .bool fun _ => false) (.ff rfl), hr _ (by unfold safeS; rw [if_pos h1, h2]; rfl)⟩
    rw [hb1] at h2
    cbv
    refine spath_c (fun _ => (e .o).target) ht fun b3 hb3 => ?_
    cbv
    refine br_bool (fun h3 => ?_) (fun h3 => ?_)
    rotate_left
    · rw [hb3] at h3
      cbv
      exact ⟨_, .ret (y := .bool fun _ => false) (.ff rfl), hr _ (by unfold safeS; rw [if_pos h1, h2, h3]; rfl)⟩
    rw [hb3] at h3
    cbv
    exact ⟨_, .ret (Same.refl _), hr _ (by unfold safeS; rw [if_pos h1, h2, h3]; rfl)⟩
  have h1 : ¬ (e .o).kind = 2 := h1
  cbv
  refine br_dec (fun h2 => ?_) (fun h2 => ?_)
  · have h2 : (e .o).kind = 3 := h2
    cbv
    refine inside_c (fun _ => (e .o).path) (fun _ => (e .o).target) hp ht fun b hb => ?_
    cbv
    exact ⟨_, .ret (Same.refl _), hr _ (by unfold safeS; rw [if_neg h1, if_pos h2]; exact hb)⟩
  · have h2 : ¬ (e .o).kind = 3 := h2
    cbv
    refine spath_c (fun _ => (e .o).path) hp fun b hb => ?_
    cbv
    exact ⟨_, .ret (Same.refl _), hr _ (by unfold safeS; rw [if_neg h1, if_neg h2]; exact hb)⟩

theorem awake22_c {d : Nat} {K : ARes → BL → Prop} (hr : ∀ b : Th Bool, b .o = true → K (.ret (.bool b)) .nil) : CallAt PT l22_awake [] d .nil K := by
  refine l22_awake.of rfl rfl ?_
  cbv
  refine inside_c (fun _ => [97, 47, 98]) (fun _ => [46, 46, 47, 99]) (by decide) (by decide) fun b1 hb1 => ?_
  cbv
  have k1 : b1 .o = true := hb1.trans (by decide +kernel)
  (first | refine br_is (k1) ?_ | refine br_not (k1) ?_ | refine br_rev (br_is (k1) ?_) | refine br_rev (br_not (k1) ?_))
  cbv
  refine inside_c (fun _ => [97]) (fun _ => [46, 46, 47, 99]) (by decide) (by decide) fun b2 hb2 => ?_
  cbv
  have k2 : (!b2 .o) = true := by rw [hb2]; decide +kernel
  (first | refine br_is (k2) ?_ | refine br_not (k2) ?_ | refine br_rev (br_is (k2) ?_) | refine br_rev (br_not (k2) ?_))
  cbv
  refine spath_c (fun _ => [97]) (by decide) fun b3 hb3 => ?_
  cbv
  exact hr b3 (hb3.trans (by decide +kernel))

def tgtN (n : Int) : List UInt8 := ([fun _ => [46, 46], fun _ => [97], fun _ => [46], fun _ => [], fun _ => [98], fun _ => [46, 46], fun _ => [99], fun _ => [46, 46, 46]] : List (Th (List UInt8))).getD (n.tmod 8).toNat (fun _ => [46, 46]) .o
theorem tgtN_len (n : Int) : (tgtN n).length ≤ 3 := by
  unfold tgtN
  generalize (n.tmod 8).toNat = j
  match j with
  | 0 | 1 | 2 | 3 | 4 | 5 | 6 | 7 => decide
  | j + 8 => exact (by decide : (2 : Nat) ≤ 3)
theorem target_c (ns : Th (List Int)) (hns : isBytes (ns .o)) (hs : short (ns .o)) {d : Nat} {K : ARes → BL → Prop} (hr : ∀ s : Th (List UInt8), (s .o).length ≤ 100 → K (.ret (.str s)) .nil) : CallAt PT l22_Target [byteI ns] d .nil K := by
  obtain ⟨g, hg⟩ : ∃ g : Nat → Int, ∀ i, (ns .o).getD i 0 = g i := ⟨fun i => (ns .o).getD i 0, fun _ => rfl⟩
  refine CallAt.args (.cons (y := .sl 1 (fun _ => (ns .o).length) fun i => .cons (.int .u8 fun _ => g (i .o)) .nil) (.sl rfl fun i hi => by simp only [hg]) .nil) ?_
  refine l22_Target.of rfl rfl ?_
  cbv
  refine loop_rule (X := Nat × List UInt8) 1000 [0] [] (fun x => .cons 3 (.str fun _ => x.2) (.cons 4 (.int .i64 fun _ => zi x.1) .nil)) (fun _ => .nil) (fun x => x.1 ≤ 12 ∧ x.2.length ≤ 4 * x.1) (fun x => 12 - x.1) (0, []) ?_ ⟨Nat.zero_le _, Nat.le_refl _⟩ ?_
  · cbv
    (repeat' (first | exact True.intro | exact Same.refl _ | exact SameB.refl _ | exact ⟨rfl⟩ | exact Same.int rfl | exact Same.str rfl | exact Same.bool rfl | (refine Same.int ?_; simp only [List.length_append, List.length_cons, List.length_nil, zi]; omega) | (refine SameB.row' rfl fun i hi => ?_; first | rfl | exact absurd hi (Nat.not_lt_zero _)) | refine And.intro ?_ ?_ | refine SameB.cells ?_ | exact SameC.nil | refine SameC.cons ?_ ?_ | exact Same.nsl rfl | exact Same.tt rfl | exact Same.ff rfl))
  · rintro ⟨i, s⟩ ⟨hi, hsl⟩
    dsimp only at hi hsl
    cbv
    ((try refine br_rev ?_); (first | refine br_dec (fun h1 => ?_) (fun h1 => ?_) | refine br_ndec (fun h1 => ?_) (fun h1 => ?_) | refine br_nbool (fun h1 => ?_) (fun h1 => ?_) | refine br_bool (fun h1 => ?_) (fun h1 => ?_)); all_goals (try dsimp only at h1); all_goals (try with_reducible replace h1 := zi_lt.1 h1); all_goals (try with_reducible replace h1 := not_zlt h1))
    · cbv
      ((try refine br_rev ?_); (first | refine br_dec (fun h2 => ?_) (fun h2 => ?_) | refine br_ndec (fun h2 => ?_) (fun h2 => ?_) | refine br_nbool (fun h2 => ?_) (fun h2 => ?_) | refine br_bool (fun h2 => ?_) (fun h2 => ?_)); all_goals (try dsimp only at h2); all_goals (try with_reducible replace h2 := zi_lt.1 h2); all_goals (try with_reducible replace h2 := not_zlt h2))
      · have h2 : i < 12 := h2
        have hb : 0 ≤ g (zi i).toNat ∧ g (zi i).toNat < 256 := by rw [← hg]; exact byte_at hns
        have htl := tgtN_len (g (zi i).toNat)
        have h8 : 0 ≤ (g (zi i).toNat).tmod 8 ∧ (g (zi i).toNat).tmod 8 < 8 := ⟨Int.tmod_nonneg _ hb.1, Int.tmod_lt_of_pos _ (by decide)⟩
        cbv
        refine br_dec (fun h3 => ?_) (fun h3 => ?_)
        · cbv
          refine safe (by show s.length + 1 ≤ 9223372036854775807; omega) ?_
          refine safe ⟨zi_nonneg _, zi_lt.2 h1⟩ ?_
          refine safe (by decide) ?_
          refine safe h8 ?_
          refine safe (by show ((g (zi i).toNat).tmod 8).toNat < 8; omega) ?_
          refine safe (by show (s ++ [47]).length + (tgtN (g (zi i).toNat)).length ≤ 9223372036854775807; (try simp only [List.length_append, List.length_cons, List.length_nil]); omega) ?_
          refine ⟨(i + 1, s ++ [47] ++ tgtN (g (zi i).toNat)), ⟨h2, by show (s ++ [47] ++ tgtN (g (zi i).toNat)).length ≤ 4 * (i + 1); simp only [List.length_append, List.length_cons, List.length_nil]; omega⟩, by show 12 - (i + 1) < 12 - i; omega, ?_⟩
          cbv
          rw [zi_succ (by omega)]
          (repeat' (first | exact True.intro | exact Same.refl _ | exact SameB.refl _ | exact ⟨rfl⟩ | exact Same.int rfl | exact Same.str rfl | exact Same.bool rfl | (refine Same.int ?_; simp only [List.length_append, List.length_cons, List.length_nil, zi]; omega) | (refine SameB.row' rfl fun i hi => ?_; first | rfl | exact absurd hi (Nat.not_lt_zero _)) | refine And.intro ?_ ?_ | refine SameB.cells ?_ | exact SameC.nil | refine SameC.cons ?_ ?_ | exact Same.nsl rfl | exact Same.tt rfl | exact Same.ff rfl))
        · cbv
          refine safe ⟨zi_nonneg _, zi_lt.2 h1⟩ ?_
          refine safe (by decide) ?_
          refine safe h8 ?_
          refine safe (by show ((g (zi i).toNat).tmod 8).toNat < 8; omega) ?_
          refine safe (by show (s).length + (tgtN (g (zi i).toNat)).length ≤ 9223372036854775807; (try simp only [List.length_append, List.length_cons, List.length_nil]); omega) ?_
          refine ⟨(i + 1, s ++ tgtN (g (zi i).toNat)), ⟨h2, by show (s ++ tgtN (g (zi i).toNat)).length ≤ 4 * (i + 1); simp only [List.length_append, List.length_cons, List.length_nil]; omega⟩, by show 12 - (i + 1) < 12 - i; omega, ?_⟩
          cbv
          rw [zi_succ (by omega)]
          (repeat' (first | exact True.intro | exact Same.refl _ | exact SameB.refl _ | exact ⟨rfl⟩ | exact Same.int rfl | exact Same.str rfl | exact Same.bool rfl | (refine Same.int ?_; simp only [List.length_append, List.length_cons, List.length_nil, zi]; omega) | (refine SameB.row' rfl fun i hi => ?_; first | rfl | exact absurd hi (Nat.not_lt_zero _)) | refine And.intro ?_ ?_ | refine SameB.cells ?_ | exact SameC.nil | refine SameC.cons ?_ ?_ | exact Same.nsl rfl | exact Same.tt rfl | exact Same.ff rfl))
      · cbv
        exact hr _ (by dsimp only; omega)
    · cbv
      exact hr _ (by dsimp only; omega)

theorem safeMade_c (ps ns : Th (List Int)) (hps : isBytes (ps .o)) (hs1 : short (ps .o)) (hns : isBytes (ns .o)) (hs2 : short (ns .o)) : CallAt PT l22_SafeMade [byteI ps, byteI ns] 9999 .nil Yes := by
  refine l22_SafeMade.of rfl rfl ?_
  cbv
  refine path_c ps hps hs1 fun p hp => ?_
  cbv
  refine target_c ns hns hs2 fun t ht => ?_
  have hp' : (p .o).length ≤ 1099511627776 := by omega
  have ht' : (t .o).length ≤ 1099511627776 := by omega
  cbv
  refine inside_c p t hp' ht' fun b1 hb1 => ?_
  cbv
  refine inside21_c p t hp' ht' fun b2 hb2 => ?_
  cbv
  have k1 : (b1 .o == b2 .o) = true := by rw [hb1, hb2]; simp
  (first | refine br_is (k1) ?_ | refine br_not (k1) ?_ | refine br_rev (br_is (k1) ?_) | refine br_rev (br_not (k1) ?_))
  cbv
  refine CallAt.args (.cons (y := Entry.av fun _ => ⟨p .o, 3, ⟨0, 0, 0, 0, 0, [], [], [], ⟨0, 0, 0, false, 0⟩, 0⟩, [], t .o, 0, 0⟩) ?_ .nil) ?_
  · (repeat' (first | exact Same.refl _ | exact SameC.nil | refine SameC.cons ?_ ?_ | refine Same.agg ?_ | refine Same.tup ?_ | exact Same.nsl rfl | exact Same.tt rfl | exact Same.ff rfl | exact Same.int rfl | exact Same.str rfl | exact Same.bool rfl | refine Same.sl rfl ?_))
  refine sentry_c (fun _ => ⟨p .o, 3, ⟨0, 0, 0, 0, 0, [], [], [], ⟨0, 0, 0, false, 0⟩, 0⟩, [], t .o, 0, 0⟩) hp' ht' fun b3 hb3 => ?_
  cbv
  refine inside21_c p t hp' ht' fun b4 hb4 => ?_
  cbv
  have k2 : (b3 .o == b4 .o) = true := by
    rw [hb3, hb4]
    unfold safeS
    rw [if_neg (by show ¬ (3 : Int) = 2; decide), if_pos rfl]
    simp
  (first | refine br_is (k2) ?_ | refine br_not (k2) ?_ | refine br_rev (br_is (k2) ?_) | refine br_rev (br_not (k2) ?_))
  cbv
  refine awake22_c fun b hb => ?_
  cbv
  exact ⟨b, rfl, hb⟩
end Go.Proofs.YtiaenejafpbfkaaDoor

/- Where targets lead: walked. -/
import Derived.Test.YtiaenejafpbfkaaDoorSafe
namespace Go.Proofs.YtiaenejafpbfkaaDoor
open Go Go.Proofs.YtiaenejafpbfkaaDoor.Sx F
set_option linter.unusedVariables false
set_option linter.unusedSimpArgs false

/-- What ends a look. -/
def outV (i : Th Int) : AV := .ifc 56 (.agg (.cons (.int .i64 i) .nil))
theorem goS_drop (l : List (List UInt8)) (k : Nat) (hk : k < l.length) (d : Int) : goS (l.drop k) d = if stepG (l.getD k []) d < 0 then true else goS (l.drop (k + 1)) (stepG (l.getD k []) d) := by
  rw [← List.getElem_cons_drop hk, goS, List.getD_eq_getElem?_getD, List.getElem?_eq_getElem hk]; rfl

theorem wrap_in {x : Int} (h : -9223372036854775808 ≤ x ∧ x ≤ 9223372036854775807) : IntKind.i64.wrap x = x := by rw [IntKind.wrap_i64]; omega
theorem gone_c (t : Th (List UInt8)) (dp : Th Int) (ht : (t .o).length ≤ 1099511627776) (hd : 0 ≤ dp .o ∧ dp .o ≤ 1099511627776) {d : Nat} {K : ARes → BL → Prop} (hr : goS (splitC 47 (t .o)) (dp .o) = false → K (.ret (.tup .nil)) .nil)
    (hp : ∀ i, goS (splitC 47 (t .o)) (dp .o) = true → K (.pan (outV i)) .nil) : CallAt PT safe_gone [.str t, .int .i64 dp] d .nil K := by
  refine safe_gone.of rfl rfl ?_
  cbv
  refine split_c t 47 ht fun l hl => ?_
  have hll : (l .o).length ≤ 1099511627777 := by rw [hl, splitC_len]; have : (t .o).count 47 ≤ _ := List.count_le_length; omega
  rw [← hl] at hr hp
  cbv
  refine loop_rule (X := Nat × Int) 1000 [7, 8] [] (fun x => .cons 1 (.int .i64 fun _ => x.2) (.cons 9 (.int .i64 fun _ => zi x.1) .nil)) (fun _ => .nil) (fun x => x.1 ≤ (l .o).length ∧ (0 ≤ x.2 ∧ x.2 ≤ 1099511627776 + zi x.1) ∧ goS (l .o) (dp .o) = goS ((l .o).drop x.1) x.2) (fun x => (l .o).length - x.1) (0, dp .o) ?_ ⟨Nat.zero_le _, by show 0 ≤ dp .o ∧ dp .o ≤ 1099511627776 + zi 0; unfold zi; omega, rfl⟩ ?_
  · cbv
    (repeat' (first | exact True.intro | exact Same.refl _ | exact SameB.refl _ | exact ⟨rfl⟩ | exact Same.int rfl | exact Same.str rfl | exact Same.bool rfl | (refine Same.int ?_; simp only [List.length_append, List.length_cons, List.length_nil, zi]; omega) | (refine SameB.row' rfl fun i hi => ?_; first | rfl | exact absurd hi (Nat.not_lt_zero _)) | refine And.intro ?_ ?_ | refine SameB.cells ?_ | exact SameC.nil | refine SameC.cons ?_ ?_ | exact Same.nsl rfl | exact Same.tt rfl | exact Same.ff rfl))
  · rintro ⟨k, e⟩ ⟨hk, he, hgo⟩
    dsimp only at hk he hgo
    have he : 0 ≤ e ∧ e ≤ 1099511627776 + (k : Int) := he
    have hz := zi_toNat k
    cbv
    ((try refine br_rev ?_); (first | refine br_dec (fun h1 => ?_) (fun h1 => ?_) | refine br_ndec (fun h1 => ?_) (fun h1 => ?_) | refine br_nbool (fun h1 => ?_) (fun h1 => ?_) | refine br_bool (fun h1 => ?_) (fun h1 => ?_)); all_goals (try dsimp only at h1); all_goals (try with_reducible replace h1 := zi_lt.1 h1); all_goals (try with_reducible replace h1 := not_zlt h1))
    · rw [goS_drop _ _ h1] at hgo
      cbv
      refine safe ⟨zi_nonneg _, zi_lt.2 h1⟩ ?_
      have hx : (l .o).getD (zi k).toNat [] = (l .o).getD k [] := by rw [hz]
      refine br_dec (fun h2 => ?_) (fun h2 => ?_)
      · have h2 : (l .o).getD k [] = [46, 46] := hx ▸ h2
        have hw : IntKind.i64.wrap (e - 1) = e - 1 := wrap_in (by omega)
        have hst : stepG ((l .o).getD k []) e = (e - 1) := by unfold stepG; rw [if_pos h2]
        rw [hst] at hgo
        cbv
        refine br_dec (fun h5 => ?_) (fun h5 => ?_)
        · have h5 : (e - 1) < 0 := by first | exact h5 | (rw [← hw]; exact h5)
          cbv
          exact hp _ (by rw [hgo, if_pos h5])
        · have h5 : ¬ (e - 1) < 0 := by first | exact h5 | (rw [← hw]; exact h5)
          rw [if_neg h5] at hgo
          cbv
          refine ⟨(k + 1, (e - 1)), ⟨h1, ⟨by show (0 : Int) ≤ (e - 1); omega, by show (e - 1) ≤ 1099511627776 + zi (k + 1); unfold zi; omega⟩, hgo⟩, by show (l .o).length - (k + 1) < (l .o).length - k; omega, ?_⟩
          cbv
          rw [zi_succ (by omega)]
          (repeat' (first | exact True.intro | exact Same.refl _ | exact SameB.refl _ | exact ⟨rfl⟩ | exact Same.int rfl | exact Same.str rfl | exact Same.bool rfl | (refine Same.int ?_; simp only [List.length_append, List.length_cons, List.length_nil, zi]; omega) | (refine SameB.row' rfl fun i hi => ?_; first | rfl | exact absurd hi (Nat.not_lt_zero _)) | refine And.intro ?_ ?_ | refine SameB.cells ?_ | exact SameC.nil | refine SameC.cons ?_ ?_ | exact Same.nsl rfl | exact Same.tt rfl | exact Same.ff rfl))
          all_goals exact Same.int hw
      have h2 : ¬ (l .o).getD k [] = [46, 46] := hx ▸ h2
      cbv
      refine br_dec (fun h3 => ?_) (fun h3 => ?_)
      · have h3 : (l .o).getD k [] = [46] := hx ▸ h3
        have hw : e = e := rfl
        have hst : stepG ((l .o).getD k []) e = e := by unfold stepG; rw [if_neg h2, if_pos (.inl h3)]
        rw [hst] at hgo
        cbv
        refine br_dec (fun h5 => ?_) (fun h5 => ?_)
        · have h5 : e < 0 := by first | exact h5 | (rw [← hw]; exact h5)
          cbv
          exact hp _ (by rw [hgo, if_pos h5])
        · have h5 : ¬ e < 0 := by first | exact h5 | (rw [← hw]; exact h5)
          rw [if_neg h5] at hgo
          cbv
          refine ⟨(k + 1, e), ⟨h1, ⟨by show (0 : Int) ≤ e; omega, by show e ≤ 1099511627776 + zi (k + 1); unfold zi; omega⟩, hgo⟩, by show (l .o).length - (k + 1) < (l .o).length - k; omega, ?_⟩
          cbv
          rw [zi_succ (by omega)]
          (repeat' (first | exact True.intro | exact Same.refl _ | exact SameB.refl _ | exact ⟨rfl⟩ | exact Same.int rfl | exact Same.str rfl | exact Same.bool rfl | (refine Same.int ?_; simp only [List.length_append, List.length_cons, List.length_nil, zi]; omega) | (refine SameB.row' rfl fun i hi => ?_; first | rfl | exact absurd hi (Nat.not_lt_zero _)) | refine And.intro ?_ ?_ | refine SameB.cells ?_ | exact SameC.nil | refine SameC.cons ?_ ?_ | exact Same.nsl rfl | exact Same.tt rfl | exact Same.ff rfl))
          all_goals exact Same.int hw
      have h3 : ¬ (l .o).getD k [] = [46] := hx ▸ h3
      cbv
      refine br_dec (fun h4 => ?_) (fun h4 => ?_)
      · have h4 : (l .o).getD k [] = [] := hx ▸ h4
        have hw : e = e := rfl
        have hst : stepG ((l .o).getD k []) e = e := by unfold stepG; rw [if_neg h2, if_pos (.inr h4)]
        rw [hst] at hgo
        cbv
        refine br_dec (fun h5 => ?_) (fun h5 => ?_)
        · have h5 : e < 0 := by first | exact h5 | (rw [← hw]; exact h5)
          cbv
          exact hp _ (by rw [hgo, if_pos h5])
        · have h5 : ¬ e < 0 := by first | exact h5 | (rw [← hw]; exact h5)
          rw [if_neg h5] at hgo
          cbv
          refine ⟨(k + 1, e), ⟨h1, ⟨by show (0 : Int) ≤ e; omega, by show e ≤ 1099511627776 + zi (k + 1); unfold zi; omega⟩, hgo⟩, by show (l .o).length - (k + 1) < (l .o).length - k; omega, ?_⟩
          cbv
          rw [zi_succ (by omega)]
          (repeat' (first | exact True.intro | exact Same.refl _ | exact SameB.refl _ | exact ⟨rfl⟩ | exact Same.int rfl | exact Same.str rfl | exact Same.bool rfl | (refine Same.int ?_; simp only [List.length_append, List.length_cons, List.length_nil, zi]; omega) | (refine SameB.row' rfl fun i hi => ?_; first | rfl | exact absurd hi (Nat.not_lt_zero _)) | refine And.intro ?_ ?_ | refine SameB.cells ?_ | exact SameC.nil | refine SameC.cons ?_ ?_ | exact Same.nsl rfl | exact Same.tt rfl | exact Same.ff rfl))
          all_goals exact Same.int hw
      have h4 : ¬ (l .o).getD k [] = [] := hx ▸ h4
      have hw : IntKind.i64.wrap (e + 1) = e + 1 := wrap_in (by omega)
      have hst : stepG ((l .o).getD k []) e = (e + 1) := by unfold stepG; rw [if_neg h2, if_neg (fun q => q.elim h3 h4)]
      rw [hst] at hgo
      cbv
      refine br_dec (fun h5 => ?_) (fun h5 => ?_)
      · have h5 : (e + 1) < 0 := by first | exact h5 | (rw [← hw]; exact h5)
        cbv
        exact hp _ (by rw [hgo, if_pos h5])
      · have h5 : ¬ (e + 1) < 0 := by first | exact h5 | (rw [← hw]; exact h5)
        rw [if_neg h5] at hgo
        cbv
        refine ⟨(k + 1, (e + 1)), ⟨h1, ⟨by show (0 : Int) ≤ (e + 1); omega, by show (e + 1) ≤ 1099511627776 + zi (k + 1); unfold zi; omega⟩, hgo⟩, by show (l .o).length - (k + 1) < (l .o).length - k; omega, ?_⟩
        cbv
        rw [zi_succ (by omega)]
        (repeat' (first | exact True.intro | exact Same.refl _ | exact SameB.refl _ | exact ⟨rfl⟩ | exact Same.int rfl | exact Same.str rfl | exact Same.bool rfl | (refine Same.int ?_; simp only [List.length_append, List.length_cons, List.length_nil, zi]; omega) | (refine SameB.row' rfl fun i hi => ?_; first | rfl | exact absurd hi (Nat.not_lt_zero _)) | refine And.intro ?_ ?_ | refine SameB.cells ?_ | exact SameC.nil | refine SameC.cons ?_ ?_ | exact Same.nsl rfl | exact Same.tt rfl | exact Same.ff rfl))
        all_goals exact Same.int hw
    · rw [List.drop_of_length_le h1] at hgo
      cbv
      exact hr hgo

theorem spath_c (s : Th (List UInt8)) (hs : (s .o).length ≤ 1099511627776) {d : Nat} {K : ARes → BL → Prop} (hr : ∀ b : Th Bool, b .o = pathS (s .o) → K (.ret (.bool b)) .nil) : CallAt PT safe_Path [.str s] d .nil K := by
  refine safe_Path.of rfl rfl ?_
  cbv
  refine path_c1 s hs fun b hb => ?_
  cbv
  exact hr _ hb
theorem endF_c {K : BL → Prop} (h : K (.cons 10000 (.cells (.cons .ff .nil)) .nil)) : DefAt PT safe_Inside_1 false [.nif, .ptr 10000 0] (.cons 10000 (.cells (.cons .ff .nil)) .nil) K := by
  refine safe_Inside_1.of rfl rfl (fun _ => rfl) ?_
  cbv
  exact h
theorem endT_c {K : BL → Prop} (h : K (.cons 10000 (.cells (.cons .tt .nil)) .nil)) : DefAt PT safe_Inside_1 false [.nif, .ptr 10000 0] (.cons 10000 (.cells (.cons .tt .nil)) .nil) K := by
  refine safe_Inside_1.of rfl rfl (fun _ => rfl) ?_
  cbv
  exact h
theorem endS_c (i : Th Int) {K : BL → Prop} (h : K (.cons 10000 (.cells (.cons .ff .nil)) .nil)) : DefAt PT safe_Inside_1 true [outV i, .ptr 10000 0] (.cons 10000 (.cells (.cons .ff .nil)) .nil) K := by
  refine safe_Inside_1.of rfl rfl (fun h => by cases h) ?_
  cbv
  exact h
theorem inside_c (p t : Th (List UInt8)) (hp : (p .o).length ≤ 1099511627776) (ht : (t .o).length ≤ 1099511627776) {d : Nat} {K : ARes → BL → Prop} (hr : ∀ b : Th Bool, b .o = insideS (p .o) (t .o) → K (.ret (.bool b)) .nil) :
    CallAt PT safe_Inside [.str p, .str t] d .nil K := by
  refine CallAt.res ?_
  refine safe_Inside.of rfl rfl ?_
  cbv
  refine spath_c p hp fun b1 hb1 => ?_
  cbv
  refine br_rev (br_nbool (fun h1 => ?_) (fun h1 => ?_))
  · rw [hb1] at h1
    cbv
    refine DefAt.use [(10000, 4)] [.nif, .ptr 10000 0] (by kernel_rfl) rfl (endF_c ?_)
    cbv
    exact ⟨_, .ret (.ff rfl), hr (fun _ => false) (by unfold insideS; rw [h1]; rfl)⟩
  rw [hb1] at h1
  cbv
  refine br_rev (br_dec (fun h2 => ?_) (fun h2 => ?_))
  · have h2 : t .o = [] := h2
    cbv
    refine DefAt.use [(10000, 4)] [.nif, .ptr 10000 0] (by kernel_rfl) rfl (endF_c ?_)
    cbv
    exact ⟨_, .ret (.ff rfl), hr (fun _ => false) (by unfold insideS; simp [h2])⟩
  have h2 : ¬ t .o = [] := h2
  have h2l : 0 < (t .o).length := List.length_pos_iff.2 h2
  cbv
  refine safe ⟨Int.le_refl _, zi_lt.2 h2l⟩ ?_
  refine br_rev (br_dec (fun h3 => ?_) (fun h3 => ?_))
  · have h3 : (t .o).getD 0 0 = 47 := byte_is (k := 47) (by decide) h3
    cbv
    refine DefAt.use [(10000, 4)] [.nif, .ptr 10000 0] (by kernel_rfl) rfl (endF_c ?_)
    cbv
    exact ⟨_, .ret (.ff rfl), hr (fun _ => false) (by unfold insideS; simp only [h3]; simp)⟩
  have h3 : ¬ (t .o).getD 0 0 = 47 := fun q => h3 (by show zi ((t .o).getD 0 0).toNat = 47; rw [q]; rfl)
  cbv
  refine contains1_c t 0 fun b4 hb4 => ?_
  cbv
  refine br_bool (fun h4 => ?_) (fun h4 => ?_)
  · rw [hb4] at h4
    have h4 := of_decide_eq_true h4
    cbv
    refine DefAt.use [(10000, 4)] [.nif, .ptr 10000 0] (by kernel_rfl) rfl (endF_c ?_)
    cbv
    exact ⟨_, .ret (.ff rfl), hr (fun _ => false) (by unfold insideS; simp [h4])⟩
  rw [hb4] at h4
  have h4 := of_decide_eq_false h4
  cbv
  refine count1_c p 47 fun n hn => ?_
  cbv
  have hni : insideS (p .o) (t .o) = !goS (splitC 47 (t .o)) (n .o) := by
    unfold insideS
    rw [hn, h1]
    have e3 : ¬ (t .o)[0]?.getD 0 = 47 := by simpa [List.getD_eq_getElem?_getD] using h3
    simp [h2, e3, h4]
  have hcl : (p .o).count 47 ≤ (p .o).length := List.count_le_length
  refine gone_c t n ht (by rw [hn]; unfold zi; omega) (fun h5 => ?_) fun i h5 => ?_
  · cbv
    refine DefAt.use [(10000, 4)] [.nif, .ptr 10000 0] (by kernel_rfl) rfl (endT_c ?_)
    cbv
    exact ⟨_, .ret (.tt rfl), hr (fun _ => true) (by rw [hni, h5]; rfl)⟩
  · cbv
    refine DefAt.use [(10000, 4)] [outV i, .ptr 10000 0] (by kernel_rfl) rfl (endS_c i ?_)
    cbv
    exact ⟨_, .ret (.ff rfl), hr (fun _ => false) (by rw [hni, h5]; rfl)⟩
end Go.Proofs.YtiaenejafpbfkaaDoor

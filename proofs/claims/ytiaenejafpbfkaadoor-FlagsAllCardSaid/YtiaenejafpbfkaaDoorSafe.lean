/- Splitting, paths, where targets lead: walked. -/
import Derived.Test.YtiaenejafpbfkaaDoorSplit
import Derived.Test.YtiaenejafpbfkaaDoorStrs
import Derived.Test.YtiaenejafpbfkaaDoorNam
namespace Go.Proofs.YtiaenejafpbfkaaDoor
open Go Go.Proofs.YtiaenejafpbfkaaDoor.Sx F
set_option linter.unusedVariables false
set_option linter.unusedSimpArgs false

def strCh (s : Th (List UInt8)) : AV := .cons (.str s) .nil
def strs (l : Th (List (List UInt8))) : AV := .sl 1 (fun _ => (l .o).length) fun i => strCh fun _ => (l .o).getD (i .o) []

theorem set_rep (ps : List (List UInt8)) (v : List UInt8) (k : Nat) (hk : 0 < k) : (ps ++ List.replicate k []).set ps.length v = (ps ++ [v]) ++ List.replicate (k - 1) [] := by
  obtain ⟨j, rfl⟩ : ∃ j, k = j + 1 := ⟨k - 1, by omega⟩
  simp [List.replicate_succ]
theorem genSplit_c (s : Th (List UInt8)) (c : UInt8) (hs : (s .o).length ≤ 1099511627776) {d : Nat} {K : ARes → BL → Prop} (hr : ∀ l : Th (List (List UInt8)), l .o = splitC c (s .o) → K (.ret (strs l)) .nil) :
    CallAt PT strings_genSplit [.str s, .str fun _ => [c], .int .i64 fun _ => 0, .int .i64 fun _ => -1] d .nil K := by
  refine CallAt.res ?_
  refine strings_genSplit.of rfl rfl ?_
  have hcl : (s .o).count c ≤ (s .o).length := List.count_le_length
  cbv
  refine br_not (by decide) ?_
  refine br_not (by simp) ?_
  refine br_is (by decide) ?_
  refine count1_c s c fun n hn => ?_
  cbv
  have e1 : IntKind.i64.wrap (zi (s .o).length + 1) = zi ((s .o).length + 1) := zi_succ (by omega)
  have e2 : IntKind.i64.wrap (n .o + 1) = zi ((s .o).count c + 1) := by rw [hn]; exact zi_succ (by omega)
  have e3 : (if zi ((s .o).length + 1) < zi ((s .o).count c + 1) then zi ((s .o).length + 1) else zi ((s .o).count c + 1)) = zi ((s .o).count c + 1) := if_neg (by unfold zi; omega)
  have e4 : IntKind.i64.wrap (zi ((s .o).count c + 1) - 1) = zi ((s .o).count c) := by rw [IntKind.wrap_i64]; unfold zi; omega
  rw [e1, e2, e3, e4]
  refine safe (by show 0 ≤ zi _ ∧ zi _ ≤ zi _ ∧ (16 : Int) * zi _ ≤ 281474976710656 ∧ zi _ ≤ 9223372036854775807; unfold zi; omega) ?_
  refine loop_rule (X := List (List UInt8) × List UInt8) 1000 [1, 2, 3, 9] [] (fun x => .cons 0 (.str fun _ => x.2) (.cons 10 (.int .i64 fun _ => zi x.1.length) .nil)) (fun x => .cons 31 (rowB 1 strCh [] fun _ => x.1 ++ List.replicate ((s .o).count c + 1 - x.1.length) []) .nil)
    (fun x => splitC c (s .o) = x.1 ++ splitC c x.2 ∧ x.2.length ≤ (s .o).length) (fun x => (s .o).count c + 1 - x.1.length) ([], s .o) ?_ ⟨rfl, Nat.le_refl _⟩ ?_
  · cbv
    (repeat' (first | exact True.intro | exact Same.refl _ | exact SameB.refl _ | exact ⟨rfl⟩ | exact Same.int rfl | exact Same.str rfl | exact Same.bool rfl | (refine Same.int ?_; simp only [List.length_append, List.length_cons, List.length_nil, zi]; omega) | (refine SameB.row' rfl fun i hi => ?_; first | rfl | exact absurd hi (Nat.not_lt_zero _)) | refine And.intro ?_ ?_ | refine SameB.cells ?_ | exact SameC.nil | refine SameC.cons ?_ ?_ | exact Same.nsl rfl | exact Same.tt rfl | exact Same.ff rfl))
    all_goals
      refine SameB.row' ?_ fun i hi => ?_
      · show (zi ((s .o).count c + 1)).toNat = (List.replicate ((s .o).count c + 1 - 0) ([] : List UInt8)).length
        rw [List.length_replicate, zi_toNat]; rfl
      · show (AV.cons (.str fun _ => []) .nil) = strCh fun _ => (List.replicate ((s .o).count c + 1 - 0) ([] : List UInt8)).getD i []
        unfold strCh
        congr 2
        funext _
        rw [List.getD_eq_getElem?_getD, List.getElem?_replicate]
        split <;> rfl
  · rintro ⟨ps, rest⟩ ⟨hsp, hrl⟩
    dsimp only at hsp hrl
    have hlen := congrArg List.length hsp
    rw [splitC_len, List.length_append, splitC_len] at hlen
    have hk : 0 < (s .o).count c + 1 - ps.length := by omega
    have hrow : (ps ++ List.replicate ((s .o).count c + 1 - ps.length) ([] : List UInt8)).length = (s .o).count c + 1 := by rw [List.length_append, List.length_replicate]; omega
    have hin : 0 ≤ zi ps.length ∧ zi ps.length < zi (ps ++ List.replicate ((s .o).count c + 1 - ps.length) ([] : List UInt8)).length := ⟨zi_nonneg _, zi_lt.2 (by rw [hrow]; omega)⟩
    have hput : (zi ps.length).toNat < (ps ++ List.replicate ((s .o).count c + 1 - ps.length) ([] : List UInt8)).length := by rw [hrow, zi_toNat]; omega
    have hsucc : IntKind.i64.wrap (zi ps.length + 1) = zi (ps.length + 1) := zi_succ (by omega)
    have hrep : ∀ v : List UInt8, (ps ++ List.replicate ((s .o).count c + 1 - ps.length) []).set (zi ps.length).toNat v = (ps ++ [v]) ++ List.replicate ((s .o).count c + 1 - ps.length - 1) [] := fun v => by rw [zi_toNat]; exact set_rep ps v _ hk
    have fin : splitC c (s .o) = ps ++ [rest] → (True → (0 : Int) ≤ 0 ∧ 0 ≤ IntKind.i64.wrap (zi ps.length + 1) ∧ IntKind.i64.wrap (zi ps.length + 1) ≤ zi (ps ++ List.replicate ((s .o).count c + 1 - ps.length) ([] : List UInt8)).length) ∧
        ∃ r', SameR (.ret (.sl 1 (fun _ => (IntKind.i64.wrap (zi ps.length + 1) - 0).toNat) fun i => strCh fun _ => ((ps ++ List.replicate ((s .o).count c + 1 - ps.length) []).set (zi ps.length).toNat rest).getD ((0 : Int).toNat + i .o) [])) r' ∧ K r' .nil := fun h => by
      refine ⟨fun _ => ⟨Int.le_refl _, by rw [hsucc]; exact zi_nonneg _, by rw [hsucc, hrow]; unfold zi; omega⟩, _, .ret (y := strs fun _ => ps ++ [rest]) (.sl ?_ fun i hi => ?_), hr _ h.symm⟩
      · show (IntKind.i64.wrap (zi ps.length + 1) - 0).toNat = (ps ++ [rest]).length
        rw [hsucc, List.length_append]; unfold zi; simp
      · have hi : i < ps.length + 1 := by have : i < (IntKind.i64.wrap (zi ps.length + 1) - 0).toNat := hi; rw [hsucc] at this; unfold zi at this; omega
        show (strCh fun _ => ((ps ++ List.replicate ((s .o).count c + 1 - ps.length) []).set (zi ps.length).toNat rest).getD (0 + i) []) = strCh fun _ => (ps ++ [rest]).getD i []
        rw [hrep, Nat.zero_add]
        congr 1
        funext _
        simp only [List.getD_eq_getElem?_getD]
        rw [List.getElem?_append_left (by simp; omega)]
    cbv
    ((try refine br_rev ?_); (first | refine br_dec (fun h1 => ?_) (fun h1 => ?_) | refine br_ndec (fun h1 => ?_) (fun h1 => ?_) | refine br_nbool (fun h1 => ?_) (fun h1 => ?_) | refine br_bool (fun h1 => ?_) (fun h1 => ?_)); all_goals (try dsimp only at h1); all_goals (try with_reducible replace h1 := zi_lt.1 h1); all_goals (try with_reducible replace h1 := not_zlt h1))
    · cbv
      refine strIndex1_c (fun _ => rest) c fun m hm => ?_
      cbv
      refine br_dec (fun h2 => ?_) (fun h2 => ?_)
      · have hno : c ∉ rest := index_none (hm ▸ h2)
        have hps : splitC c (s .o) = ps ++ [rest] := by rw [hsp, splitC_no hno]
        cbv
        refine safe hin ?_
        refine put_rows strCh [] (ps ++ List.replicate ((s .o).count c + 1 - ps.length) []) rest rfl (fun i hi => rfl) hput rfl ?_
        cbv
        exact fin hps
      · obtain ⟨m', hm1, hm2, hm3, hm4⟩ := index_at (hm ▸ h2)
        have hmz : m .o = zi m' := hm.trans hm1
        have hw0 : IntKind.i64.wrap (m .o + 0) = zi m' := by rw [hmz, IntKind.wrap_i64]; unfold zi; omega
        have hw1 : IntKind.i64.wrap (m .o + zi [c].length) = zi (m' + 1) := by rw [hmz]; exact zi_succ (by omega)
        cbv
        refine safe (by show (0 : Int) ≤ 0 ∧ 0 ≤ IntKind.i64.wrap (m .o + 0) ∧ IntKind.i64.wrap (m .o + 0) ≤ zi rest.length; rw [hw0]; unfold zi; omega) ?_
        refine safe hin ?_
        refine put_rows strCh [] (ps ++ List.replicate ((s .o).count c + 1 - ps.length) []) (List.drop (0 : Int).toNat (List.take (IntKind.i64.wrap (m .o + 0)).toNat rest)) rfl (fun i hi => rfl) hput rfl ?_
        cbv
        refine safe (by show 0 ≤ IntKind.i64.wrap (m .o + zi [c].length) ∧ IntKind.i64.wrap (m .o + zi [c].length) ≤ zi rest.length ∧ zi rest.length ≤ zi rest.length; rw [hw1]; unfold zi; omega) ?_
        refine ⟨(ps ++ [rest.take m'], rest.drop (m' + 1)), ⟨?_, ?_⟩, ?_, ?_⟩
        · show splitC c (s .o) = (ps ++ [rest.take m']) ++ splitC c (rest.drop (m' + 1))
          rw [hsp]
          conv => lhs; rw [hm3]
          rw [splitC_at _ _ hm4, List.append_assoc]; rfl
        · show (rest.drop (m' + 1)).length ≤ _
          rw [List.length_drop]; omega
        · show (s .o).count c + 1 - (ps ++ [rest.take m']).length < (s .o).count c + 1 - ps.length
          simp only [List.length_append, List.length_cons, List.length_nil]; omega
        cbv
        (repeat' (first | exact True.intro | exact Same.refl _ | exact SameB.refl _ | exact ⟨rfl⟩ | exact Same.int rfl | exact Same.str rfl | exact Same.bool rfl | (refine Same.int ?_; simp only [List.length_append, List.length_cons, List.length_nil, zi]; omega) | (refine SameB.row' rfl fun i hi => ?_; first | rfl | exact absurd hi (Nat.not_lt_zero _)) | refine And.intro ?_ ?_ | refine SameB.cells ?_ | exact SameC.nil | refine SameC.cons ?_ ?_ | exact Same.nsl rfl | exact Same.tt rfl | exact Same.ff rfl))
        · refine Same.str ?_
          show List.drop (IntKind.i64.wrap (m .o + zi [c].length)).toNat (List.take (zi rest.length).toNat rest) = rest.drop (m' + 1)
          rw [hw1, zi_toNat, zi_toNat, List.take_length]
        · refine Same.int ?_
          show IntKind.i64.wrap (zi ps.length + 1) = zi (ps ++ [rest.take m']).length
          rw [hsucc, List.length_append]; rfl
        · refine SameB.row' ?_ fun i hi => ?_
          · show (ps ++ List.replicate ((s .o).count c + 1 - ps.length) ([] : List UInt8)).length = ((ps ++ [rest.take m']) ++ List.replicate ((s .o).count c + 1 - (ps ++ [rest.take m']).length) []).length
            rw [hrow]; simp only [List.length_append, List.length_replicate, List.length_cons, List.length_nil]; omega
          · show (strCh fun _ => ((ps ++ List.replicate ((s .o).count c + 1 - ps.length) []).set (zi ps.length).toNat (List.drop (0 : Int).toNat (List.take (IntKind.i64.wrap (m .o + 0)).toNat rest))).getD i []) = strCh fun _ => ((ps ++ [rest.take m']) ++ List.replicate ((s .o).count c + 1 - (ps ++ [rest.take m']).length) []).getD i []
            rw [hrep, hw0, zi_toNat]
            simp only [List.length_append, List.length_cons, List.length_nil, Int.toNat_zero, List.drop_zero, Nat.sub_sub, Nat.zero_add]
    · have hno : c ∉ rest := fun q => by have := List.count_pos_iff.2 q; omega
      have hps : splitC c (s .o) = ps ++ [rest] := by rw [hsp, splitC_no hno]
      cbv
      refine safe hin ?_
      refine put_rows strCh [] (ps ++ List.replicate ((s .o).count c + 1 - ps.length) []) rest rfl (fun i hi => rfl) hput rfl ?_
      cbv
      exact fin hps

theorem split_c (s : Th (List UInt8)) (c : UInt8) (hs : (s .o).length ≤ 1099511627776) {d : Nat} {K : ARes → BL → Prop} (hr : ∀ l : Th (List (List UInt8)), l .o = splitC c (s .o) → K (.ret (strs l)) .nil) :
    CallAt PT strings_Split [.str s, .str fun _ => [c]] d .nil K := by
  refine strings_Split.of rfl rfl ?_
  cbv
  refine genSplit_c s c hs fun l hl => ?_
  cbv
  exact hr _ hl
theorem name_c1 (x : Th (List UInt8)) {d : Nat} {K : ARes → BL → Prop} (hr : ∀ b : Th Bool, b .o = nameB (x .o) → K (.ret (.bool b)) .nil) : CallAt PT entry_name [.str x] d .nil K := by
  refine CallAt.res ?_
  refine entry_name.of rfl rfl ?_
  cbv
  have fin : ∀ (b : Bool) {y : AV}, b = nameB (x .o) → Same y (.bool fun _ => b) → ∃ r', SameR (.ret y) r' ∧ K r' .nil := fun b y h1 h2 => ⟨_, .ret h2, hr _ h1⟩
  refine br_ndec (fun h1 => ?_) (fun h1 => ?_)
  rotate_left
  · cbv
    exact fin false (by unfold nameB; simp [h1]) (.ff rfl)
  cbv
  refine br_dec (fun h2 => ?_) (fun h2 => ?_)
  rotate_left
  · cbv
    have h2' : ¬ (x .o).length ≤ 255 := fun q => h2 (by show zi _ ≤ 255; unfold zi; omega)
    exact fin false (by unfold nameB; simp [h2']) (.ff rfl)
  have h2' : (x .o).length ≤ 255 := by have : zi (x .o).length ≤ 255 := h2; unfold zi at this; omega
  cbv
  refine br_ndec (fun h3 => ?_) (fun h3 => ?_)
  rotate_left
  · cbv
    have h3 : x .o = [46] := h3
    exact fin false (by unfold nameB; simp [h3]) (.ff rfl)
  cbv
  refine ⟨_, .ret (Same.refl _), hr _ ?_⟩
  show (!decide (x .o = [46, 46])) = _
  unfold nameB
  simp [h1, h2', h3]
theorem path_c1 (s : Th (List UInt8)) (hs : (s .o).length ≤ 1099511627776) {d : Nat} {K : ARes → BL → Prop} (hr : ∀ b : Th Bool, b .o = pathS (s .o) → K (.ret (.bool b)) .nil) : CallAt PT entry_Path [.str s] d .nil K := by
  refine CallAt.res ?_
  refine entry_Path.of rfl rfl ?_
  cbv
  refine split_c s 47 hs fun l hl => ?_
  have hll : (l .o).length ≤ 1099511627777 := by rw [hl, splitC_len]; have : (s .o).count 47 ≤ _ := List.count_le_length; omega
  cbv
  have hpc : pathS (s .o) = ((l .o).all nameB && decide ((s .o).length ≤ 4096) && decide ((l .o).length ≤ 64) && !decide ((0 : UInt8) ∈ s .o)) := by rw [hl]; rfl
  have fin : ∀ (b : Bool) {y : AV}, b = pathS (s .o) → Same y (.bool fun _ => b) → ∃ r', SameR (.ret y) r' ∧ K r' .nil := fun b y h1 h2 => ⟨_, .ret h2, hr _ h1⟩
  refine loop_rule (X := Nat) 1000 [0, 3, 8, 9] [] (fun k => .cons 10 (.int .i64 fun _ => zi k) .nil) (fun _ => .nil) (fun k => k ≤ (l .o).length ∧ ∀ j, j < k → nameB ((l .o).getD j []) = true) (fun k => (l .o).length - k) 0 ?_ ⟨Nat.zero_le _, fun j hj => by omega⟩ ?_
  · cbv
    (repeat' (first | exact True.intro | exact Same.refl _ | exact SameB.refl _ | exact ⟨rfl⟩ | exact Same.int rfl | exact Same.str rfl | exact Same.bool rfl | (refine Same.int ?_; simp only [List.length_append, List.length_cons, List.length_nil, zi]; omega) | (refine SameB.row' rfl fun i hi => ?_; first | rfl | exact absurd hi (Nat.not_lt_zero _)) | refine And.intro ?_ ?_ | refine SameB.cells ?_ | exact SameC.nil | refine SameC.cons ?_ ?_ | exact Same.nsl rfl | exact Same.tt rfl | exact Same.ff rfl))
  · rintro k ⟨hk, hall⟩
    have hz := zi_toNat k
    cbv
    ((try refine br_rev ?_); (first | refine br_dec (fun h1 => ?_) (fun h1 => ?_) | refine br_ndec (fun h1 => ?_) (fun h1 => ?_) | refine br_nbool (fun h1 => ?_) (fun h1 => ?_) | refine br_bool (fun h1 => ?_) (fun h1 => ?_)); all_goals (try dsimp only at h1); all_goals (try with_reducible replace h1 := zi_lt.1 h1); all_goals (try with_reducible replace h1 := not_zlt h1))
    · cbv
      refine safe ⟨zi_nonneg _, zi_lt.2 h1⟩ ?_
      refine name_c1 (fun _ => (l .o).getD (zi k).toNat []) fun b hb => ?_
      have hb : b .o = nameB ((l .o).getD k []) := by rw [hb, hz]
      cbv
      refine br_nbool (fun h2 => ?_) (fun h2 => ?_)
      · cbv
        refine fin false ?_ (.ff rfl)
        have hm : (l .o).getD k [] ∈ l .o := by rw [List.getD_eq_getElem?_getD, List.getElem?_eq_getElem h1]; exact List.getElem_mem h1
        have : (l .o).all nameB = false := by
          rw [List.all_eq_false]
          exact ⟨_, hm, by rw [← hb, h2]; decide⟩
        rw [hpc, this]; rfl
      · cbv
        refine ⟨k + 1, ⟨h1, fun j hj => ?_⟩, by omega, ?_⟩
        · by_cases e : j = k
          · rw [e, ← hb, h2]
          · exact hall j (by omega)
        · cbv
          rw [zi_succ (by omega)]
          (repeat' (first | exact True.intro | exact Same.refl _ | exact SameB.refl _ | exact ⟨rfl⟩ | exact Same.int rfl | exact Same.str rfl | exact Same.bool rfl | (refine Same.int ?_; simp only [List.length_append, List.length_cons, List.length_nil, zi]; omega) | (refine SameB.row' rfl fun i hi => ?_; first | rfl | exact absurd hi (Nat.not_lt_zero _)) | refine And.intro ?_ ?_ | refine SameB.cells ?_ | exact SameC.nil | refine SameC.cons ?_ ?_ | exact Same.nsl rfl | exact Same.tt rfl | exact Same.ff rfl))
    · have hall' : (l .o).all nameB = true := by
        rw [List.all_eq_true]
        intro x hx
        obtain ⟨i, hi, rfl⟩ := List.mem_iff_getElem.1 hx
        have := hall i (by omega)
        rwa [List.getD_eq_getElem?_getD, List.getElem?_eq_getElem hi] at this
      rw [hall', Bool.true_and] at hpc
      cbv
      refine br_dec (fun h2 => ?_) (fun h2 => ?_)
      rotate_left
      · cbv
        have h2' : ¬ (s .o).length ≤ 4096 := fun q => h2 (by show zi _ ≤ 4096; unfold zi; omega)
        exact fin false (by rw [hpc]; simp [h2']) (.ff rfl)
      have h2' : (s .o).length ≤ 4096 := by have : zi (s .o).length ≤ 4096 := h2; unfold zi at this; omega
      cbv
      refine br_dec (fun h3 => ?_) (fun h3 => ?_)
      rotate_left
      · cbv
        have h3' : ¬ (l .o).length ≤ 64 := fun q => h3 (by show zi _ ≤ 64; unfold zi; omega)
        exact fin false (by rw [hpc]; simp [h3']) (.ff rfl)
      have h3' : (l .o).length ≤ 64 := by have : zi (l .o).length ≤ 64 := h3; unfold zi at this; omega
      cbv
      refine contains1_c s 0 fun b hb => ?_
      cbv
      refine ⟨_, .ret (Same.refl _), hr _ ?_⟩
      show (!b .o) = _
      rw [hb, hpc]
      simp [h2', h3']
theorem split_el {c : UInt8} : ∀ {s p : List UInt8}, p ∈ splitC c s → p.length ≤ s.length
  | [], p, hp => by
    have : p = [] := by simpa [splitC] using hp
    subst this; exact Nat.le_refl _
  | y :: r, p, hp => by
    unfold splitC at hp
    by_cases h : y = c
    · rw [if_pos h] at hp
      rcases List.mem_cons.1 hp with rfl | hp
      · exact Nat.zero_le _
      · have := split_el hp; simp only [List.length_cons]; omega
    · rw [if_neg h] at hp
      cases hs : splitC c r with
      | nil => have := splitC_len c r; rw [hs] at this; simp at this
      | cons a t =>
        rw [hs] at hp
        rcases List.mem_cons.1 hp with rfl | hp
        · have := split_el (c := c) (s := r) (p := a) (by rw [hs]; simp)
          simp only [List.length_cons]; omega
        · have := split_el (c := c) (s := r) (p := p) (by rw [hs]; simp [hp])
          simp only [List.length_cons]; omega
theorem byte_is {x : UInt8} {k : Nat} (hk : k < 256) (h : zi x.toNat = (k : Int)) : x = UInt8.ofNat k := by
  have : x.toNat = k := by unfold zi at h; omega
  rw [← this]; simp
theorem zin (k : Nat) (n : Nat) : (zi k = (n : Int)) = (k = n) := by unfold zi; rw [eq_iff_iff]; omega
/-- gripsackref15.names. -/
theorem names_c (s : Th (List UInt8)) (hs : (s .o).length ≤ 1099511627776) {d : Nat} {K : ARes → BL → Prop} (hr : ∀ l : Th (List (List UInt8)), l .o = splitC 47 (s .o) → K (.ret (strs l)) .nil) : CallAt PT r15_names [.str s] d .nil K := by
  refine CallAt.res ?_
  refine r15_names.of rfl rfl ?_
  cbv
  refine nil_tmp 3 9000 1 (fun i => strCh fun _ => ([] : List (List UInt8)).getD (i .o) []) rfl rfl ?_
  refine loop_at (X := Nat × Nat × List (List UInt8)) 1000 [0] [] (fun _ x => .cons 3 (.row 9000) (.cons 4 (.int .i64 fun _ => zi x.2.1) (.cons 5 (.int .i64 fun _ => zi x.1) .nil))) (fun _ x => .cons 9000 (rowB 1 strCh [] fun _ => x.2.2) .nil)
    (fun x => x.2.2.length ≤ x.1 ∧ ((x.1 ≤ (s .o).length ∧ x.2.1 ≤ x.1 ∧ splitC 47 (s .o) = x.2.2 ++ splitC 47 ((s .o).drop x.2.1) ∧ (47 : UInt8) ∉ ((s .o).take x.1).drop x.2.1) ∨ (x.1 = (s .o).length + 1 ∧ splitC 47 (s .o) = x.2.2)))
    (fun x => (s .o).length + 1 - x.1) (0, 0, []) ?_ ⟨Nat.le_refl _, .inl ⟨Nat.zero_le _, Nat.le_refl _, rfl, by simp⟩⟩ ?_
  · cbv
    (repeat' (first | exact True.intro | exact Same.refl _ | exact SameB.refl _ | exact ⟨rfl⟩ | exact Same.int rfl | exact Same.str rfl | exact Same.bool rfl | (refine Same.int ?_; simp only [List.length_append, List.length_cons, List.length_nil, zi]; omega) | (refine SameB.row' rfl fun i hi => ?_; first | rfl | exact absurd hi (Nat.not_lt_zero _)) | refine And.intro ?_ ?_ | refine SameB.cells ?_ | exact SameC.nil | refine SameC.cons ?_ ?_ | exact Same.nsl rfl | exact Same.tt rfl | exact Same.ff rfl))
  · rintro ⟨i, from', ps⟩ ⟨hpl, hR⟩
    dsimp only at hpl hR
    cbv
    refine br_dec (fun h1 => ?_) (fun h1 => ?_)
    · have h1 : i ≤ (s .o).length := by have : zi i ≤ zi (s .o).length := h1; unfold zi at this; omega
      rcases hR with ⟨_, hfi, hsp, hno⟩ | ⟨q, _⟩
      rotate_left
      · omega
      have hzi : (zi i).toNat = i := zi_toNat i
      have hzf : (zi from').toNat = from' := zi_toNat from'
      have hsl : True → 0 ≤ zi from' ∧ zi from' ≤ zi i ∧ zi i ≤ zi (s .o).length := fun _ => by unfold zi; omega
      have add : (i = (s .o).length ∨ ∃ h : i < (s .o).length, (s .o)[i] = 47) → ((ps ++ [List.drop (zi from').toNat (List.take (zi i).toNat (s .o))]).length ≤ i + 1 ∧
          ((i + 1 ≤ (s .o).length ∧ i + 1 ≤ i + 1 ∧ splitC 47 (s .o) = (ps ++ [List.drop (zi from').toNat (List.take (zi i).toNat (s .o))]) ++ splitC 47 ((s .o).drop (i + 1)) ∧ (47 : UInt8) ∉ ((s .o).take (i + 1)).drop (i + 1)) ∨ (i + 1 = (s .o).length + 1 ∧ splitC 47 (s .o) = ps ++ [List.drop (zi from').toNat (List.take (zi i).toNat (s .o))]))) := by
        rw [hzi, hzf]
        intro h
        refine ⟨by rw [List.length_append]; simp; omega, ?_⟩
        rcases h with h | ⟨h, hc⟩
        · right
          refine ⟨by omega, ?_⟩
          rw [h, List.take_length] at hno ⊢
          rw [hsp, splitC_no hno]
        · left
          refine ⟨h, Nat.le_refl _, ?_, ?_⟩
          · have e : (s .o).drop from' = ((s .o).take i).drop from' ++ 47 :: (s .o).drop (i + 1) := by
              have e1 : s .o = (s .o).take i ++ 47 :: (s .o).drop (i + 1) := by
                rw [← hc, List.getElem_cons_drop, List.take_append_drop]
              conv => lhs; rw [e1]
              rw [List.drop_append_of_le_length (by rw [List.length_take]; omega)]
            rw [hsp, e, splitC_at _ _ hno, List.append_assoc]; rfl
          · rw [List.drop_take]; simp
      have stay : ∀ h : i < (s .o).length, (s .o)[i] ≠ 47 → (ps.length ≤ i + 1 ∧ ((i + 1 ≤ (s .o).length ∧ from' ≤ i + 1 ∧ splitC 47 (s .o) = ps ++ splitC 47 ((s .o).drop from') ∧ (47 : UInt8) ∉ ((s .o).take (i + 1)).drop from') ∨ (i + 1 = (s .o).length + 1 ∧ splitC 47 (s .o) = ps))) := by
        intro h hc
        refine ⟨by omega, .inl ⟨h, by omega, hsp, ?_⟩⟩
        rw [List.take_add_one, List.getElem?_eq_getElem h, List.drop_append_of_le_length (by rw [List.length_take]; omega)]
        simp only [Option.toList_some, List.mem_append, List.mem_singleton, not_or]
        exact ⟨hno, fun q => hc q.symm⟩
      cbv
      refine br_rev (br_dec (fun h2 => ?_) (fun h2 => ?_))
      · have h2 : i = (s .o).length := by have : zi i = zi (s .o).length := h2; exact zi_inj.1 this
        cbv
        refine ⟨hsl, ?_⟩
        refine app_one strCh [] ps (List.drop (zi from').toNat (List.take (zi i).toNat (s .o))) rfl (fun i hi => rfl) rfl rfl (by omega) ?_
        cbv
        refine ⟨(i + 1, i + 1, ps ++ [List.drop (zi from').toNat (List.take (zi i).toNat (s .o))]), add (.inl h2), by show (s .o).length + 1 - (i + 1) < (s .o).length + 1 - i; omega, ?_⟩
        cbv
        rw [zi_succ (by omega)]
        (repeat' (first | exact True.intro | exact Same.refl _ | exact SameB.refl _ | exact ⟨rfl⟩ | exact Same.int rfl | exact Same.str rfl | exact Same.bool rfl | (refine Same.int ?_; simp only [List.length_append, List.length_cons, List.length_nil, zi]; omega) | (refine SameB.row' rfl fun i hi => ?_; first | rfl | exact absurd hi (Nat.not_lt_zero _)) | refine And.intro ?_ ?_ | refine SameB.cells ?_ | exact SameC.nil | refine SameC.cons ?_ ?_ | exact Same.nsl rfl | exact Same.tt rfl | exact Same.ff rfl))
      · have h2 : i < (s .o).length := by have : ¬ zi i = zi (s .o).length := h2; unfold zi at this; omega
        cbv
        refine safe ⟨zi_nonneg _, zi_lt.2 h2⟩ ?_
        have hby : (s .o).getD (zi i).toNat 0 = (s .o)[i] := by rw [hzi, List.getD_eq_getElem?_getD, List.getElem?_eq_getElem h2]; rfl
        refine br_dec (fun h3 => ?_) (fun h3 => ?_)
        · have h3 : (s .o)[i] = 47 := byte_is (k := 47) (by decide) (hby ▸ h3)
          cbv
          refine ⟨hsl, ?_⟩
          refine app_one strCh [] ps (List.drop (zi from').toNat (List.take (zi i).toNat (s .o))) rfl (fun i hi => rfl) rfl rfl (by omega) ?_
          cbv
          refine ⟨(i + 1, i + 1, ps ++ [List.drop (zi from').toNat (List.take (zi i).toNat (s .o))]), add (.inr ⟨h2, h3⟩), by show (s .o).length + 1 - (i + 1) < (s .o).length + 1 - i; omega, ?_⟩
          cbv
          rw [zi_succ (by omega)]
          (repeat' (first | exact True.intro | exact Same.refl _ | exact SameB.refl _ | exact ⟨rfl⟩ | exact Same.int rfl | exact Same.str rfl | exact Same.bool rfl | (refine Same.int ?_; simp only [List.length_append, List.length_cons, List.length_nil, zi]; omega) | (refine SameB.row' rfl fun i hi => ?_; first | rfl | exact absurd hi (Nat.not_lt_zero _)) | refine And.intro ?_ ?_ | refine SameB.cells ?_ | exact SameC.nil | refine SameC.cons ?_ ?_ | exact Same.nsl rfl | exact Same.tt rfl | exact Same.ff rfl))
        · have h3 : (s .o)[i] ≠ 47 := fun q => h3 (by show zi ((s .o).getD (zi i).toNat 0).toNat = 47; rw [hby, q]; rfl)
          cbv
          refine ⟨(i + 1, from', ps), stay h2 h3, by show (s .o).length + 1 - (i + 1) < (s .o).length + 1 - i; omega, ?_⟩
          cbv
          rw [zi_succ (by omega)]
          (repeat' (first | exact True.intro | exact Same.refl _ | exact SameB.refl _ | exact ⟨rfl⟩ | exact Same.int rfl | exact Same.str rfl | exact Same.bool rfl | (refine Same.int ?_; simp only [List.length_append, List.length_cons, List.length_nil, zi]; omega) | (refine SameB.row' rfl fun i hi => ?_; first | rfl | exact absurd hi (Nat.not_lt_zero _)) | refine And.intro ?_ ?_ | refine SameB.cells ?_ | exact SameC.nil | refine SameC.cons ?_ ?_ | exact Same.nsl rfl | exact Same.tt rfl | exact Same.ff rfl))
    · have h1 : (s .o).length < i := by have : ¬ zi i ≤ zi (s .o).length := h1; unfold zi at this; omega
      rcases hR with ⟨q, _⟩ | ⟨_, hsp⟩
      · omega
      cbv
      exact ⟨_, .ret (y := strs fun _ => ps) (Same.refl _), hr _ hsp.symm⟩
theorem may15_c (x : Th (List UInt8)) (hs : (x .o).length ≤ 1099511627776) {d : Nat} {K : ARes → BL → Prop} (hr : ∀ b : Th Bool, b .o = name15 (x .o) → K (.ret (.bool b)) .nil) : CallAt PT r15_MayName [.str x] d .nil K := by
  refine CallAt.res ?_
  refine r15_MayName.of rfl rfl ?_
  cbv
  have fin : ∀ (b : Bool) {y : AV}, b = name15 (x .o) → Same y (.bool fun _ => b) → ∃ r', SameR (.ret y) r' ∧ K r' .nil := fun b y h1 h2 => ⟨_, .ret h2, hr _ h1⟩
  refine br_rev (br_dec (fun h1 => ?_) (fun h1 => ?_))
  · have h1 : x .o = [] := by have : zi (x .o).length = 0 := h1; unfold zi at this; exact List.eq_nil_of_length_eq_zero (by omega)
    cbv
    exact fin false (by unfold name15 nameB; simp [h1]) (.ff rfl)
  have h1 : x .o ≠ [] := fun q => h1 (by show zi (x .o).length = 0; rw [q]; rfl)
  cbv
  refine br_rev (br_dec (fun h2 => ?_) (fun h2 => ?_))
  · have h2 : ¬ (x .o).length ≤ 255 := by have : 255 < zi (x .o).length := h2; unfold zi at this; omega
    cbv
    exact fin false (by unfold name15 nameB; simp [h2]) (.ff rfl)
  have h2 : (x .o).length ≤ 255 := by have : ¬ 255 < zi (x .o).length := h2; unfold zi at this; omega
  cbv
  refine br_rev (br_dec (fun h3 => ?_) (fun h3 => ?_))
  · have h3 : x .o = [46] := h3
    cbv
    exact fin false (by unfold name15 nameB; simp [h3]) (.ff rfl)
  have h3 : ¬ x .o = [46] := h3
  cbv
  refine br_dec (fun h4 => ?_) (fun h4 => ?_)
  · have h4 : x .o = [46, 46] := h4
    cbv
    exact fin false (by unfold name15 nameB; simp [h4]) (.ff rfl)
  have h4 : ¬ x .o = [46, 46] := h4
  cbv
  have hnb : nameB (x .o) = true := by unfold nameB; simp [h1, h2, h3, h4]
  refine loop_rule (X := Nat) 1000 [0] [] (fun k => .cons 3 (.int .i64 fun _ => zi k) .nil) (fun _ => .nil) (fun k => k ≤ (x .o).length ∧ (0 : UInt8) ∉ (x .o).take k ∧ (47 : UInt8) ∉ (x .o).take k) (fun k => (x .o).length - k) 0 ?_ ⟨Nat.zero_le _, by simp, by simp⟩ ?_
  · cbv
    (repeat' (first | exact True.intro | exact Same.refl _ | exact SameB.refl _ | exact ⟨rfl⟩ | exact Same.int rfl | exact Same.str rfl | exact Same.bool rfl | (refine Same.int ?_; simp only [List.length_append, List.length_cons, List.length_nil, zi]; omega) | (refine SameB.row' rfl fun i hi => ?_; first | rfl | exact absurd hi (Nat.not_lt_zero _)) | refine And.intro ?_ ?_ | refine SameB.cells ?_ | exact SameC.nil | refine SameC.cons ?_ ?_ | exact Same.nsl rfl | exact Same.tt rfl | exact Same.ff rfl))
  · rintro k ⟨hk, n0, n47⟩
    have hz := zi_toNat k
    cbv
    ((try refine br_rev ?_); (first | refine br_dec (fun h5 => ?_) (fun h5 => ?_) | refine br_ndec (fun h5 => ?_) (fun h5 => ?_) | refine br_nbool (fun h5 => ?_) (fun h5 => ?_) | refine br_bool (fun h5 => ?_) (fun h5 => ?_)); all_goals (try dsimp only at h5); all_goals (try with_reducible replace h5 := zi_lt.1 h5); all_goals (try with_reducible replace h5 := not_zlt h5))
    · have hby : (x .o).getD (zi k).toNat 0 = (x .o)[k] := by rw [hz, List.getD_eq_getElem?_getD, List.getElem?_eq_getElem h5]; rfl
      cbv
      refine safe ⟨zi_nonneg _, zi_lt.2 h5⟩ ?_
      refine br_rev (br_dec (fun h6 => ?_) (fun h6 => ?_))
      · have h6 : (x .o)[k] = 0 := byte_is (k := 0) (by decide) (hby ▸ h6)
        cbv
        refine fin false ?_ (.ff rfl)
        have : (0 : UInt8) ∈ x .o := h6 ▸ List.getElem_mem h5
        unfold name15; simp [this]
      · have h6 : (x .o)[k] ≠ 0 := fun q => h6 (by show zi ((x .o).getD (zi k).toNat 0).toNat = 0; rw [hby, q]; rfl)
        cbv
        refine safe ⟨zi_nonneg _, zi_lt.2 h5⟩ ?_
        refine br_dec (fun h7 => ?_) (fun h7 => ?_)
        · have h7 : (x .o)[k] = 47 := byte_is (k := 47) (by decide) (hby ▸ h7)
          cbv
          refine fin false ?_ (.ff rfl)
          have : (47 : UInt8) ∈ x .o := h7 ▸ List.getElem_mem h5
          unfold name15; simp [this]
        · have h7 : (x .o)[k] ≠ 47 := fun q => h7 (by show zi ((x .o).getD (zi k).toNat 0).toNat = 47; rw [hby, q]; rfl)
          cbv
          refine ⟨k + 1, ⟨h5, ?_, ?_⟩, by omega, ?_⟩
          · rw [List.take_add_one, List.getElem?_eq_getElem h5]
            simp only [Option.toList_some, List.mem_append, List.mem_singleton, not_or]
            exact ⟨n0, fun q => h6 q.symm⟩
          · rw [List.take_add_one, List.getElem?_eq_getElem h5]
            simp only [Option.toList_some, List.mem_append, List.mem_singleton, not_or]
            exact ⟨n47, fun q => h7 q.symm⟩
          cbv
          rw [zi_succ (by omega)]
          (repeat' (first | exact True.intro | exact Same.refl _ | exact SameB.refl _ | exact ⟨rfl⟩ | exact Same.int rfl | exact Same.str rfl | exact Same.bool rfl | (refine Same.int ?_; simp only [List.length_append, List.length_cons, List.length_nil, zi]; omega) | (refine SameB.row' rfl fun i hi => ?_; first | rfl | exact absurd hi (Nat.not_lt_zero _)) | refine And.intro ?_ ?_ | refine SameB.cells ?_ | exact SameC.nil | refine SameC.cons ?_ ?_ | exact Same.nsl rfl | exact Same.tt rfl | exact Same.ff rfl))
    · rw [List.take_of_length_le h5] at n0 n47
      cbv
      exact fin true (by unfold name15; simp [hnb, n0, n47]) (.tt rfl)
theorem path15_c (s : Th (List UInt8)) (hs : (s .o).length ≤ 1099511627776) {d : Nat} {K : ARes → BL → Prop} (hr : ∀ b : Th Bool, b .o = pathS (s .o) → K (.ret (.bool b)) .nil) : CallAt PT r15_Path [.str s] d .nil K := by
  refine CallAt.res ?_
  refine r15_Path.of rfl rfl ?_
  cbv
  have fin : ∀ (b : Bool) {y : AV}, b = path15 (s .o) → Same y (.bool fun _ => b) → ∃ r', SameR (.ret y) r' ∧ K r' .nil := fun b y h1 h2 => ⟨_, .ret h2, hr _ (h1.trans (path15_eq _))⟩
  refine br_rev (br_dec (fun h1 => ?_) (fun h1 => ?_))
  · have h1 : s .o = [] := by have : zi (s .o).length = 0 := h1; unfold zi at this; exact List.eq_nil_of_length_eq_zero (by omega)
    cbv
    exact fin false (by unfold path15; simp [h1]) (.ff rfl)
  have h1 : s .o ≠ [] := fun q => h1 (by show zi (s .o).length = 0; rw [q]; rfl)
  cbv
  refine br_dec (fun h2 => ?_) (fun h2 => ?_)
  · have h2 : ¬ (s .o).length ≤ 4096 := by have : 4096 < zi (s .o).length := h2; unfold zi at this; omega
    cbv
    exact fin false (by unfold path15; simp [h2]) (.ff rfl)
  have h2 : (s .o).length ≤ 4096 := by have : ¬ 4096 < zi (s .o).length := h2; unfold zi at this; omega
  cbv
  refine names_c s hs fun l hl => ?_
  have hll : (l .o).length ≤ 4097 := by rw [hl, splitC_len]; have : (s .o).count 47 ≤ _ := List.count_le_length; omega
  have hel : ∀ j, ((l .o).getD j []).length ≤ 4096 := fun j => by
    rw [List.getD_eq_getElem?_getD]
    by_cases hj : j < (l .o).length
    · rw [List.getElem?_eq_getElem hj]
      exact Nat.le_trans (split_el (c := 47) (s := s .o) (by rw [← hl]; exact List.getElem_mem hj)) h2
    · rw [List.getElem?_eq_none (by omega)]; exact Nat.zero_le _
  cbv
  refine loop_rule (X := Nat) 1000 [0, 3] [] (fun k => .cons 4 (.int .i64 fun _ => zi k) .nil) (fun _ => .nil) (fun k => k ≤ (l .o).length ∧ ∀ j, j < k → name15 ((l .o).getD j []) = true) (fun k => (l .o).length - k) 0 ?_ ⟨Nat.zero_le _, fun j hj => by omega⟩ ?_
  · cbv
    (repeat' (first | exact True.intro | exact Same.refl _ | exact SameB.refl _ | exact ⟨rfl⟩ | exact Same.int rfl | exact Same.str rfl | exact Same.bool rfl | (refine Same.int ?_; simp only [List.length_append, List.length_cons, List.length_nil, zi]; omega) | (refine SameB.row' rfl fun i hi => ?_; first | rfl | exact absurd hi (Nat.not_lt_zero _)) | refine And.intro ?_ ?_ | refine SameB.cells ?_ | exact SameC.nil | refine SameC.cons ?_ ?_ | exact Same.nsl rfl | exact Same.tt rfl | exact Same.ff rfl))
  · rintro k ⟨hk, hall⟩
    have hz := zi_toNat k
    cbv
    ((try refine br_rev ?_); (first | refine br_dec (fun h3 => ?_) (fun h3 => ?_) | refine br_ndec (fun h3 => ?_) (fun h3 => ?_) | refine br_nbool (fun h3 => ?_) (fun h3 => ?_) | refine br_bool (fun h3 => ?_) (fun h3 => ?_)); all_goals (try dsimp only at h3); all_goals (try with_reducible replace h3 := zi_lt.1 h3); all_goals (try with_reducible replace h3 := not_zlt h3))
    · cbv
      refine safe ⟨zi_nonneg _, zi_lt.2 h3⟩ ?_
      refine may15_c (fun _ => (l .o).getD (zi k).toNat []) (Nat.le_trans (hel _) (by decide)) fun b hb => ?_
      have hb : b .o = name15 ((l .o).getD k []) := by rw [hb, hz]
      cbv
      refine br_nbool (fun h4 => ?_) (fun h4 => ?_)
      · cbv
        refine fin false ?_ (.ff rfl)
        have hm : (l .o).getD k [] ∈ l .o := by rw [List.getD_eq_getElem?_getD, List.getElem?_eq_getElem h3]; exact List.getElem_mem h3
        have : (splitC 47 (s .o)).all name15 = false := by
          rw [← hl, List.all_eq_false]
          exact ⟨_, hm, by rw [← hb, h4]; decide⟩
        unfold path15
        rw [this]; simp
      · cbv
        refine ⟨k + 1, ⟨h3, fun j hj => ?_⟩, by omega, ?_⟩
        · by_cases e : j = k
          · rw [e, ← hb, h4]
          · exact hall j (by omega)
        · cbv
          rw [zi_succ (by omega)]
          (repeat' (first | exact True.intro | exact Same.refl _ | exact SameB.refl _ | exact ⟨rfl⟩ | exact Same.int rfl | exact Same.str rfl | exact Same.bool rfl | (refine Same.int ?_; simp only [List.length_append, List.length_cons, List.length_nil, zi]; omega) | (refine SameB.row' rfl fun i hi => ?_; first | rfl | exact absurd hi (Nat.not_lt_zero _)) | refine And.intro ?_ ?_ | refine SameB.cells ?_ | exact SameC.nil | refine SameC.cons ?_ ?_ | exact Same.nsl rfl | exact Same.tt rfl | exact Same.ff rfl))
    · have hall' : (splitC 47 (s .o)).all name15 = true := by
        rw [← hl, List.all_eq_true]
        intro x hx
        obtain ⟨i, hi, rfl⟩ := List.mem_iff_getElem.1 hx
        have := hall i (by omega)
        rwa [List.getD_eq_getElem?_getD, List.getElem?_eq_getElem hi] at this
      cbv
      refine ⟨_, .ret (Same.refl _), hr _ ?_⟩
      rw [← path15_eq]
      unfold path15
      rw [hall', ← hl]
      show decide (zi (l .o).length ≤ 64) = _
      simp only [h1, h2, ne_eq, not_false_eq_true, decide_true, Bool.true_and]
      rw [decide_eq_decide]; unfold zi; omega
end Go.Proofs.YtiaenejafpbfkaaDoor

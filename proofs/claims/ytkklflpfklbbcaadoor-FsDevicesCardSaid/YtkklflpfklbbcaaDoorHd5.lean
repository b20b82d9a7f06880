/- Texts laid together: Safe, Ino, Fsa, Fsb, CmpS, Fsf, Fsg, Fsc, Fsd, Fse, Fsh, Fsi, Fsj, InsD, Kds, Syh, Nme, Nmf, Dlt, Fsl, Rmv, Chg, Mk1, ChgMake, Ref2, RightMade, May. -/
import Derived.Shelf.Spec.SlicesInsertGrow
import Derived.Deep.RegionLaw
import Derived.Test.YtkklflpfklbbcaaDoorHd4
/- Splitting, paths, where targets lead: walked. -/
namespace Go.Proofs.YtkklflpfklbbcaaDoor
open Go Go.Proofs.YtkklflpfklbbcaaDoor.Sx F
set_option linter.unusedVariables false
set_option linter.unusedSimpArgs false
theorem set_rep (ps : List (List UInt8)) (v : List UInt8) (k : Nat) (hk : 0 < k) : (ps ++ List.replicate k []).set ps.length v = (ps ++ [v]) ++ List.replicate (k - 1) [] := by
  obtain ⟨j, rfl⟩ : ∃ j, k = j + 1 := ⟨k - 1, by omega⟩
  simp [List.replicate_succ]
theorem genSplit_c (s : Th (List UInt8)) (c : UInt8) (hs : (s .o).length ≤ 1099511627776) {d : Nat} {K : ARes → BL → Prop} (hr : ∀ l : Th (List (List UInt8)), l .o = splitC c (s .o) → K (.ret (strs l)) .nil) :
    CallAt PT strings_genSplit [.str s, .str fun _ => [c], .int .i64 fun _ => 0, .int .i64 fun _ => -1] d .nil K := by
  refine CallAt.res ?_
  refine strings_genSplit.of rfl rfl ?_
  have hcl : (s .o).count c ≤ (s .o).length := List.count_le_length
  cbv
  refine br_not (by decide) ?_
  refine br_not (by simp) ?_
  refine br_is (by decide) ?_
  refine count1_c s c fun n hn => ?_
  cbv
  have e1 : IntKind.i64.wrap (zi (s .o).length + 1) = zi ((s .o).length + 1) := zi_succ (by omega)
  have e2 : IntKind.i64.wrap (n .o + 1) = zi ((s .o).count c + 1) := by rw [hn]; exact zi_succ (by omega)
  have e3 : (if zi ((s .o).length + 1) < zi ((s .o).count c + 1) then zi ((s .o).length + 1) else zi ((s .o).count c + 1)) = zi ((s .o).count c + 1) := if_neg (by unfold zi; omega)
  have e4 : IntKind.i64.wrap (zi ((s .o).count c + 1) - 1) = zi ((s .o).count c) := by rw [IntKind.wrap_i64]; unfold zi; omega
  rw [e1, e2, e3, e4]
  refine safe (by show 0 ≤ zi _ ∧ zi _ ≤ zi _ ∧ (16 : Int) * zi _ ≤ 281474976710656 ∧ zi _ ≤ 9223372036854775807; unfold zi; omega) ?_
  refine loop_rule (X := List (List UInt8) × List UInt8) 1000 [1, 2, 3, 9] [] (fun x => .cons 0 (.str fun _ => x.2) (.cons 10 (.int .i64 fun _ => zi x.1.length) .nil)) (fun x => .cons 31 (rowB 1 strCh [] fun _ => x.1 ++ List.replicate ((s .o).count c + 1 - x.1.length) []) .nil)
    (fun x => splitC c (s .o) = x.1 ++ splitC c x.2 ∧ x.2.length ≤ (s .o).length) (fun x => (s .o).count c + 1 - x.1.length) ([], s .o) ?_ ⟨rfl, Nat.le_refl _⟩ ?_
  · cbv
    (repeat' (first | exact True.intro | exact Same.refl _ | exact SameB.refl _ | exact ⟨rfl⟩ | exact Same.int rfl | exact Same.str rfl | exact Same.bool rfl | (refine Same.int ?_; simp only [List.length_append, List.length_cons, List.length_nil, zi]; omega) | (refine SameB.row' rfl fun i hi => ?_; first | rfl | exact absurd hi (Nat.not_lt_zero _)) | refine And.intro ?_ ?_ | refine SameB.cells ?_ | exact SameC.nil | refine SameC.cons ?_ ?_ | exact Same.nsl rfl | exact Same.tt rfl | exact Same.ff rfl))
    all_goals
      refine SameB.row' ?_ fun i hi => ?_
      · show (zi ((s .o).count c + 1)).toNat = (List.replicate ((s .o).count c + 1 - 0) ([] : List UInt8)).length
        rw [List.length_replicate, zi_toNat]; rfl
      · show (AV.cons (.str fun _ => []) .nil) = strCh fun _ => (List.replicate ((s .o).count c + 1 - 0) ([] : List UInt8)).getD i []
        unfold strCh
        congr 2
        funext _
        rw [List.getD_eq_getElem?_getD, List.getElem?_replicate]
        split <;> rfl
  · rintro ⟨ps, rest⟩ ⟨hsp, hrl⟩
    dsimp only at hsp hrl
    have hlen := congrArg List.length hsp
    rw [splitC_len, List.length_append, splitC_len] at hlen
    have hk : 0 < (s .o).count c + 1 - ps.length := by omega
    have hrow : (ps ++ List.replicate ((s .o).count c + 1 - ps.length) ([] : List UInt8)).length = (s .o).count c + 1 := by rw [List.length_append, List.length_replicate]; omega
    have hin : 0 ≤ zi ps.length ∧ zi ps.length < zi (ps ++ List.replicate ((s .o).count c + 1 - ps.length) ([] : List UInt8)).length := ⟨zi_nonneg _, zi_lt.2 (by rw [hrow]; omega)⟩
    have hput : (zi ps.length).toNat < (ps ++ List.replicate ((s .o).count c + 1 - ps.length) ([] : List UInt8)).length := by rw [hrow, zi_toNat]; omega
    have hsucc : IntKind.i64.wrap (zi ps.length + 1) = zi (ps.length + 1) := zi_succ (by omega)
    have hrep : ∀ v : List UInt8, (ps ++ List.replicate ((s .o).count c + 1 - ps.length) []).set (zi ps.length).toNat v = (ps ++ [v]) ++ List.replicate ((s .o).count c + 1 - ps.length - 1) [] := fun v => by rw [zi_toNat]; exact set_rep ps v _ hk
    have fin : splitC c (s .o) = ps ++ [rest] → (True → (0 : Int) ≤ 0 ∧ 0 ≤ IntKind.i64.wrap (zi ps.length + 1) ∧ IntKind.i64.wrap (zi ps.length + 1) ≤ zi (ps ++ List.replicate ((s .o).count c + 1 - ps.length) ([] : List UInt8)).length) ∧
        ∃ r', SameR (.ret (.sl 1 (fun _ => (IntKind.i64.wrap (zi ps.length + 1) - 0).toNat) fun i => strCh fun _ => ((ps ++ List.replicate ((s .o).count c + 1 - ps.length) []).set (zi ps.length).toNat rest).getD ((0 : Int).toNat + i .o) [])) r' ∧ K r' .nil := fun h => by
      refine ⟨fun _ => ⟨Int.le_refl _, by rw [hsucc]; exact zi_nonneg _, by rw [hsucc, hrow]; unfold zi; omega⟩, _, .ret (y := strs fun _ => ps ++ [rest]) (.sl ?_ fun i hi => ?_), hr _ h.symm⟩
      · show (IntKind.i64.wrap (zi ps.length + 1) - 0).toNat = (ps ++ [rest]).length
        rw [hsucc, List.length_append]; unfold zi; simp
      · have hi : i < ps.length + 1 := by have : i < (IntKind.i64.wrap (zi ps.length + 1) - 0).toNat := hi; rw [hsucc] at this; unfold zi at this; omega
        show (strCh fun _ => ((ps ++ List.replicate ((s .o).count c + 1 - ps.length) []).set (zi ps.length).toNat rest).getD (0 + i) []) = strCh fun _ => (ps ++ [rest]).getD i []
        rw [hrep, Nat.zero_add]
        congr 1
        funext _
        simp only [List.getD_eq_getElem?_getD]
        rw [List.getElem?_append_left (by simp; omega)]
    cbv
    ((try refine br_rev ?_); (first | refine br_dec (fun h1 => ?_) (fun h1 => ?_) | refine br_ndec (fun h1 => ?_) (fun h1 => ?_) | refine br_nbool (fun h1 => ?_) (fun h1 => ?_) | refine br_bool (fun h1 => ?_) (fun h1 => ?_)); all_goals (try dsimp only at h1); all_goals (try with_reducible replace h1 := zi_lt.1 h1); all_goals (try with_reducible replace h1 := not_zlt h1))
    · cbv
      refine strIndex1_c (fun _ => rest) c fun m hm => ?_
      cbv
      refine br_dec (fun h2 => ?_) (fun h2 => ?_)
      · have hno : c ∉ rest := index_none (hm ▸ h2)
        have hps : splitC c (s .o) = ps ++ [rest] := by rw [hsp, splitC_no hno]
        cbv
        refine safe hin ?_
        refine put_rows strCh [] (ps ++ List.replicate ((s .o).count c + 1 - ps.length) []) rest rfl (fun i hi => rfl) hput rfl ?_
        cbv
        exact fin hps
      · obtain ⟨m', hm1, hm2, hm3, hm4⟩ := index_at (hm ▸ h2)
        have hmz : m .o = zi m' := hm.trans hm1
        have hw0 : IntKind.i64.wrap (m .o + 0) = zi m' := by rw [hmz, IntKind.wrap_i64]; unfold zi; omega
        have hw1 : IntKind.i64.wrap (m .o + zi [c].length) = zi (m' + 1) := by rw [hmz]; exact zi_succ (by omega)
        cbv
        refine safe (by show (0 : Int) ≤ 0 ∧ 0 ≤ IntKind.i64.wrap (m .o + 0) ∧ IntKind.i64.wrap (m .o + 0) ≤ zi rest.length; rw [hw0]; unfold zi; omega) ?_
        refine safe hin ?_
        refine put_rows strCh [] (ps ++ List.replicate ((s .o).count c + 1 - ps.length) []) (List.drop (0 : Int).toNat (List.take (IntKind.i64.wrap (m .o + 0)).toNat rest)) rfl (fun i hi => rfl) hput rfl ?_
        cbv
        refine safe (by show 0 ≤ IntKind.i64.wrap (m .o + zi [c].length) ∧ IntKind.i64.wrap (m .o + zi [c].length) ≤ zi rest.length ∧ zi rest.length ≤ zi rest.length; rw [hw1]; unfold zi; omega) ?_
        refine ⟨(ps ++ [rest.take m'], rest.drop (m' + 1)), ⟨?_, ?_⟩, ?_, ?_⟩
        · show splitC c (s .o) = (ps ++ [rest.take m']) ++ splitC c (rest.drop (m' + 1))
          rw [hsp]
          conv => lhs; rw [hm3]
          rw [splitC_at _ _ hm4, List.append_assoc]; rfl
        · show (rest.drop (m' + 1)).length ≤ _
          rw [List.length_drop]; omega
        · show (s .o).count c + 1 - (ps ++ [rest.take m']).length < (s .o).count c + 1 - ps.length
          simp only [List.length_append, List.length_cons, List.length_nil]; omega
        cbv
        (repeat' (first | exact True.intro | exact Same.refl _ | exact SameB.refl _ | exact ⟨rfl⟩ | exact Same.int rfl | exact Same.str rfl | exact Same.bool rfl | (refine Same.int ?_; simp only [List.length_append, List.length_cons, List.length_nil, zi]; omega) | (refine SameB.row' rfl fun i hi => ?_; first | rfl | exact absurd hi (Nat.not_lt_zero _)) | refine And.intro ?_ ?_ | refine SameB.cells ?_ | exact SameC.nil | refine SameC.cons ?_ ?_ | exact Same.nsl rfl | exact Same.tt rfl | exact Same.ff rfl))
        · refine Same.str ?_
          show List.drop (IntKind.i64.wrap (m .o + zi [c].length)).toNat (List.take (zi rest.length).toNat rest) = rest.drop (m' + 1)
          rw [hw1, zi_toNat, zi_toNat, List.take_length]
        · refine Same.int ?_
          show IntKind.i64.wrap (zi ps.length + 1) = zi (ps ++ [rest.take m']).length
          rw [hsucc, List.length_append]; rfl
        · refine SameB.row' ?_ fun i hi => ?_
          · show (ps ++ List.replicate ((s .o).count c + 1 - ps.length) ([] : List UInt8)).length = ((ps ++ [rest.take m']) ++ List.replicate ((s .o).count c + 1 - (ps ++ [rest.take m']).length) []).length
            rw [hrow]; simp only [List.length_append, List.length_replicate, List.length_cons, List.length_nil]; omega
          · show (strCh fun _ => ((ps ++ List.replicate ((s .o).count c + 1 - ps.length) []).set (zi ps.length).toNat (List.drop (0 : Int).toNat (List.take (IntKind.i64.wrap (m .o + 0)).toNat rest))).getD i []) = strCh fun _ => ((ps ++ [rest.take m']) ++ List.replicate ((s .o).count c + 1 - (ps ++ [rest.take m']).length) []).getD i []
            rw [hrep, hw0, zi_toNat]
            simp only [List.length_append, List.length_cons, List.length_nil, Int.toNat_zero, List.drop_zero, Nat.sub_sub, Nat.zero_add]
    · have hno : c ∉ rest := fun q => by have := List.count_pos_iff.2 q; omega
      have hps : splitC c (s .o) = ps ++ [rest] := by rw [hsp, splitC_no hno]
      cbv
      refine safe hin ?_
      refine put_rows strCh [] (ps ++ List.replicate ((s .o).count c + 1 - ps.length) []) rest rfl (fun i hi => rfl) hput rfl ?_
      cbv
      exact fin hps
theorem split_c (s : Th (List UInt8)) (c : UInt8) (hs : (s .o).length ≤ 1099511627776) {d : Nat} {K : ARes → BL → Prop} (hr : ∀ l : Th (List (List UInt8)), l .o = splitC c (s .o) → K (.ret (strs l)) .nil) :
    CallAt PT strings_Split [.str s, .str fun _ => [c]] d .nil K := by
  refine strings_Split.of rfl rfl ?_
  cbv
  refine genSplit_c s c hs fun l hl => ?_
  cbv
  exact hr _ hl
theorem name_c1 (x : Th (List UInt8)) {d : Nat} {K : ARes → BL → Prop} (hr : ∀ b : Th Bool, b .o = nameB (x .o) → K (.ret (.bool b)) .nil) : CallAt PT entry_name [.str x] d .nil K := by
  refine CallAt.res ?_
  refine entry_name.of rfl rfl ?_
  cbv
  have fin : ∀ (b : Bool) {y : AV}, b = nameB (x .o) → Same y (.bool fun _ => b) → ∃ r', SameR (.ret y) r' ∧ K r' .nil := fun b y h1 h2 => ⟨_, .ret h2, hr _ h1⟩
  refine br_ndec (fun h1 => ?_) (fun h1 => ?_)
  rotate_left
  · cbv
    exact fin false (by unfold nameB; simp [h1]) (.ff rfl)
  cbv
  refine br_dec (fun h2 => ?_) (fun h2 => ?_)
  rotate_left
  · cbv
    have h2' : ¬ (x .o).length ≤ 255 := fun q => h2 (by show zi _ ≤ 255; unfold zi; omega)
    exact fin false (by unfold nameB; simp [h2']) (.ff rfl)
  have h2' : (x .o).length ≤ 255 := by have : zi (x .o).length ≤ 255 := h2; unfold zi at this; omega
  cbv
  refine br_ndec (fun h3 => ?_) (fun h3 => ?_)
  rotate_left
  · cbv
    have h3 : x .o = [46] := h3
    exact fin false (by unfold nameB; simp [h3]) (.ff rfl)
  cbv
  refine ⟨_, .ret (Same.refl _), hr _ ?_⟩
  show (!decide (x .o = [46, 46])) = _
  unfold nameB
  simp [h1, h2', h3]
theorem path_c1 (s : Th (List UInt8)) (hs : (s .o).length ≤ 1099511627776) {d : Nat} {K : ARes → BL → Prop} (hr : ∀ b : Th Bool, b .o = pathS (s .o) → K (.ret (.bool b)) .nil) : CallAt PT entry_Path [.str s] d .nil K := by
  refine CallAt.res ?_
  refine entry_Path.of rfl rfl ?_
  cbv
  refine split_c s 47 hs fun l hl => ?_
  have hll : (l .o).length ≤ 1099511627777 := by rw [hl, splitC_len]; have : (s .o).count 47 ≤ _ := List.count_le_length; omega
  cbv
  have hpc : pathS (s .o) = ((l .o).all nameB && decide ((s .o).length ≤ 4096) && decide ((l .o).length ≤ 64) && !decide ((0 : UInt8) ∈ s .o)) := by rw [hl]; rfl
  have fin : ∀ (b : Bool) {y : AV}, b = pathS (s .o) → Same y (.bool fun _ => b) → ∃ r', SameR (.ret y) r' ∧ K r' .nil := fun b y h1 h2 => ⟨_, .ret h2, hr _ h1⟩
  refine loop_rule (X := Nat) 1000 [0, 3, 8, 9] [] (fun k => .cons 10 (.int .i64 fun _ => zi k) .nil) (fun _ => .nil) (fun k => k ≤ (l .o).length ∧ ∀ j, j < k → nameB ((l .o).getD j []) = true) (fun k => (l .o).length - k) 0 ?_ ⟨Nat.zero_le _, fun j hj => by omega⟩ ?_
  · cbv
    (repeat' (first | exact True.intro | exact Same.refl _ | exact SameB.refl _ | exact ⟨rfl⟩ | exact Same.int rfl | exact Same.str rfl | exact Same.bool rfl | (refine Same.int ?_; simp only [List.length_append, List.length_cons, List.length_nil, zi]; omega) | (refine SameB.row' rfl fun i hi => ?_; first | rfl | exact absurd hi (Nat.not_lt_zero _)) | refine And.intro ?_ ?_ | refine SameB.cells ?_ | exact SameC.nil | refine SameC.cons ?_ ?_ | exact Same.nsl rfl | exact Same.tt rfl | exact Same.ff rfl))
  · rintro k ⟨hk, hall⟩
    have hz := zi_toNat k
    cbv
    ((try refine br_rev ?_); (first | refine br_dec (fun h1 => ?_) (fun h1 => ?_) | refine br_ndec (fun h1 => ?_) (fun h1 => ?_) | refine br_nbool (fun h1 => ?_) (fun h1 => ?_) | refine br_bool (fun h1 => ?_) (fun h1 => ?_)); all_goals (try dsimp only at h1); all_goals (try with_reducible replace h1 := zi_lt.1 h1); all_goals (try with_reducible replace h1 := not_zlt h1))
    · cbv
      refine safe ⟨zi_nonneg _, zi_lt.2 h1⟩ ?_
      refine name_c1 (fun _ => (l .o).getD (zi k).toNat []) fun b hb => ?_
      have hb : b .o = nameB ((l .o).getD k []) := by rw [hb, hz]
      cbv
      refine br_nbool (fun h2 => ?_) (fun h2 => ?_)
      · cbv
        refine fin false ?_ (.ff rfl)
        have hm : (l .o).getD k [] ∈ l .o := by rw [List.getD_eq_getElem?_getD, List.getElem?_eq_getElem h1]; exact List.getElem_mem h1
        have : (l .o).all nameB = false := by
          rw [List.all_eq_false]
          exact ⟨_, hm, by rw [← hb, h2]; decide⟩
        rw [hpc, this]; rfl
      · cbv
        refine ⟨k + 1, ⟨h1, fun j hj => ?_⟩, by omega, ?_⟩
        · by_cases e : j = k
          · rw [e, ← hb, h2]
          · exact hall j (by omega)
        · cbv
          rw [zi_succ (by omega)]
          (repeat' (first | exact True.intro | exact Same.refl _ | exact SameB.refl _ | exact ⟨rfl⟩ | exact Same.int rfl | exact Same.str rfl | exact Same.bool rfl | (refine Same.int ?_; simp only [List.length_append, List.length_cons, List.length_nil, zi]; omega) | (refine SameB.row' rfl fun i hi => ?_; first | rfl | exact absurd hi (Nat.not_lt_zero _)) | refine And.intro ?_ ?_ | refine SameB.cells ?_ | exact SameC.nil | refine SameC.cons ?_ ?_ | exact Same.nsl rfl | exact Same.tt rfl | exact Same.ff rfl))
    · have hall' : (l .o).all nameB = true := by
        rw [List.all_eq_true]
        intro x hx
        obtain ⟨i, hi, rfl⟩ := List.mem_iff_getElem.1 hx
        have := hall i (by omega)
        rwa [List.getD_eq_getElem?_getD, List.getElem?_eq_getElem hi] at this
      rw [hall', Bool.true_and] at hpc
      cbv
      refine br_dec (fun h2 => ?_) (fun h2 => ?_)
      rotate_left
      · cbv
        have h2' : ¬ (s .o).length ≤ 4096 := fun q => h2 (by show zi _ ≤ 4096; unfold zi; omega)
        exact fin false (by rw [hpc]; simp [h2']) (.ff rfl)
      have h2' : (s .o).length ≤ 4096 := by have : zi (s .o).length ≤ 4096 := h2; unfold zi at this; omega
      cbv
      refine br_dec (fun h3 => ?_) (fun h3 => ?_)
      rotate_left
      · cbv
        have h3' : ¬ (l .o).length ≤ 64 := fun q => h3 (by show zi _ ≤ 64; unfold zi; omega)
        exact fin false (by rw [hpc]; simp [h3']) (.ff rfl)
      have h3' : (l .o).length ≤ 64 := by have : zi (l .o).length ≤ 64 := h3; unfold zi at this; omega
      cbv
      refine contains1_c s 0 fun b hb => ?_
      cbv
      refine ⟨_, .ret (Same.refl _), hr _ ?_⟩
      show (!b .o) = _
      rw [hb, hpc]
      simp [h2', h3']
theorem split_el {c : UInt8} : ∀ {s p : List UInt8}, p ∈ splitC c s → p.length ≤ s.length
  | [], p, hp => by
    have : p = [] := by simpa [splitC] using hp
    subst this; exact Nat.le_refl _
  | y :: r, p, hp => by
    unfold splitC at hp
    by_cases h : y = c
    · rw [if_pos h] at hp
      rcases List.mem_cons.1 hp with rfl | hp
      · exact Nat.zero_le _
      · have := split_el hp; simp only [List.length_cons]; omega
    · rw [if_neg h] at hp
      cases hs : splitC c r with
      | nil => have := splitC_len c r; rw [hs] at this; simp at this
      | cons a t =>
        rw [hs] at hp
        rcases List.mem_cons.1 hp with rfl | hp
        · have := split_el (c := c) (s := r) (p := a) (by rw [hs]; simp)
          simp only [List.length_cons]; omega
        · have := split_el (c := c) (s := r) (p := p) (by rw [hs]; simp [hp])
          simp only [List.length_cons]; omega
theorem byte_is {x : UInt8} {k : Nat} (hk : k < 256) (h : zi x.toNat = (k : Int)) : x = UInt8.ofNat k := by
  have : x.toNat = k := by unfold zi at h; omega
  rw [← this]; simp
/-- gripsackref15.names. -/
theorem names_c (s : Th (List UInt8)) (hs : (s .o).length ≤ 1099511627776) {d : Nat} {K : ARes → BL → Prop} (hr : ∀ l : Th (List (List UInt8)), l .o = splitC 47 (s .o) → K (.ret (strs l)) .nil) : CallAt PT r15_names [.str s] d .nil K := by
  refine CallAt.res ?_
  refine r15_names.of rfl rfl ?_
  cbv
  refine nil_tmp 3 9000 1 (fun i => strCh fun _ => ([] : List (List UInt8)).getD (i .o) []) rfl rfl ?_
  refine loop_at (X := Nat × Nat × List (List UInt8)) 1000 [0] [] (fun _ x => .cons 3 (.row 9000) (.cons 4 (.int .i64 fun _ => zi x.2.1) (.cons 5 (.int .i64 fun _ => zi x.1) .nil))) (fun _ x => .cons 9000 (rowB 1 strCh [] fun _ => x.2.2) .nil)
    (fun x => x.2.2.length ≤ x.1 ∧ ((x.1 ≤ (s .o).length ∧ x.2.1 ≤ x.1 ∧ splitC 47 (s .o) = x.2.2 ++ splitC 47 ((s .o).drop x.2.1) ∧ (47 : UInt8) ∉ ((s .o).take x.1).drop x.2.1) ∨ (x.1 = (s .o).length + 1 ∧ splitC 47 (s .o) = x.2.2)))
    (fun x => (s .o).length + 1 - x.1) (0, 0, []) ?_ ⟨Nat.le_refl _, .inl ⟨Nat.zero_le _, Nat.le_refl _, rfl, by simp⟩⟩ ?_
  · cbv
    (repeat' (first | exact True.intro | exact Same.refl _ | exact SameB.refl _ | exact ⟨rfl⟩ | exact Same.int rfl | exact Same.str rfl | exact Same.bool rfl | (refine Same.int ?_; simp only [List.length_append, List.length_cons, List.length_nil, zi]; omega) | (refine SameB.row' rfl fun i hi => ?_; first | rfl | exact absurd hi (Nat.not_lt_zero _)) | refine And.intro ?_ ?_ | refine SameB.cells ?_ | exact SameC.nil | refine SameC.cons ?_ ?_ | exact Same.nsl rfl | exact Same.tt rfl | exact Same.ff rfl))
  · rintro ⟨i, from', ps⟩ ⟨hpl, hR⟩
    dsimp only at hpl hR
    cbv
    refine br_dec (fun h1 => ?_) (fun h1 => ?_)
    · have h1 : i ≤ (s .o).length := by have : zi i ≤ zi (s .o).length := h1; unfold zi at this; omega
      rcases hR with ⟨_, hfi, hsp, hno⟩ | ⟨q, _⟩
      rotate_left
      · omega
      have hzi : (zi i).toNat = i := zi_toNat i
      have hzf : (zi from').toNat = from' := zi_toNat from'
      have hsl : True → 0 ≤ zi from' ∧ zi from' ≤ zi i ∧ zi i ≤ zi (s .o).length := fun _ => by unfold zi; omega
      have add : (i = (s .o).length ∨ ∃ h : i < (s .o).length, (s .o)[i] = 47) → ((ps ++ [List.drop (zi from').toNat (List.take (zi i).toNat (s .o))]).length ≤ i + 1 ∧
          ((i + 1 ≤ (s .o).length ∧ i + 1 ≤ i + 1 ∧ splitC 47 (s .o) = (ps ++ [List.drop (zi from').toNat (List.take (zi i).toNat (s .o))]) ++ splitC 47 ((s .o).drop (i + 1)) ∧ (47 : UInt8) ∉ ((s .o).take (i + 1)).drop (i + 1)) ∨ (i + 1 = (s .o).length + 1 ∧ splitC 47 (s .o) = ps ++ [List.drop (zi from').toNat (List.take (zi i).toNat (s .o))]))) := by
        rw [hzi, hzf]
        intro h
        refine ⟨by rw [List.length_append]; simp; omega, ?_⟩
        rcases h with h | ⟨h, hc⟩
        · right
          refine ⟨by omega, ?_⟩
          rw [h, List.take_length] at hno ⊢
          rw [hsp, splitC_no hno]
        · left
          refine ⟨h, Nat.le_refl _, ?_, ?_⟩
          · have e : (s .o).drop from' = ((s .o).take i).drop from' ++ 47 :: (s .o).drop (i + 1) := by
              have e1 : s .o = (s .o).take i ++ 47 :: (s .o).drop (i + 1) := by
                rw [← hc, List.getElem_cons_drop, List.take_append_drop]
              conv => lhs; rw [e1]
              rw [List.drop_append_of_le_length (by rw [List.length_take]; omega)]
            rw [hsp, e, splitC_at _ _ hno, List.append_assoc]; rfl
          · rw [List.drop_take]; simp
      have stay : ∀ h : i < (s .o).length, (s .o)[i] ≠ 47 → (ps.length ≤ i + 1 ∧ ((i + 1 ≤ (s .o).length ∧ from' ≤ i + 1 ∧ splitC 47 (s .o) = ps ++ splitC 47 ((s .o).drop from') ∧ (47 : UInt8) ∉ ((s .o).take (i + 1)).drop from') ∨ (i + 1 = (s .o).length + 1 ∧ splitC 47 (s .o) = ps))) := by
        intro h hc
        refine ⟨by omega, .inl ⟨h, by omega, hsp, ?_⟩⟩
        rw [List.take_add_one, List.getElem?_eq_getElem h, List.drop_append_of_le_length (by rw [List.length_take]; omega)]
        simp only [Option.toList_some, List.mem_append, List.mem_singleton, not_or]
        exact ⟨hno, fun q => hc q.symm⟩
      cbv
      refine br_rev (br_dec (fun h2 => ?_) (fun h2 => ?_))
      · have h2 : i = (s .o).length := by have : zi i = zi (s .o).length := h2; exact zi_inj.1 this
        cbv
        refine ⟨hsl, ?_⟩
        refine app_one strCh [] ps (List.drop (zi from').toNat (List.take (zi i).toNat (s .o))) rfl (fun i hi => rfl) rfl rfl (by omega) ?_
        cbv
        refine ⟨(i + 1, i + 1, ps ++ [List.drop (zi from').toNat (List.take (zi i).toNat (s .o))]), add (.inl h2), by show (s .o).length + 1 - (i + 1) < (s .o).length + 1 - i; omega, ?_⟩
        cbv
        rw [zi_succ (by omega)]
        (repeat' (first | exact True.intro | exact Same.refl _ | exact SameB.refl _ | exact ⟨rfl⟩ | exact Same.int rfl | exact Same.str rfl | exact Same.bool rfl | (refine Same.int ?_; simp only [List.length_append, List.length_cons, List.length_nil, zi]; omega) | (refine SameB.row' rfl fun i hi => ?_; first | rfl | exact absurd hi (Nat.not_lt_zero _)) | refine And.intro ?_ ?_ | refine SameB.cells ?_ | exact SameC.nil | refine SameC.cons ?_ ?_ | exact Same.nsl rfl | exact Same.tt rfl | exact Same.ff rfl))
      · have h2 : i < (s .o).length := by have : ¬ zi i = zi (s .o).length := h2; unfold zi at this; omega
        cbv
        refine safe ⟨zi_nonneg _, zi_lt.2 h2⟩ ?_
        have hby : (s .o).getD (zi i).toNat 0 = (s .o)[i] := by rw [hzi, List.getD_eq_getElem?_getD, List.getElem?_eq_getElem h2]; rfl
        refine br_dec (fun h3 => ?_) (fun h3 => ?_)
        · have h3 : (s .o)[i] = 47 := byte_is (k := 47) (by decide) (hby ▸ h3)
          cbv
          refine ⟨hsl, ?_⟩
          refine app_one strCh [] ps (List.drop (zi from').toNat (List.take (zi i).toNat (s .o))) rfl (fun i hi => rfl) rfl rfl (by omega) ?_
          cbv
          refine ⟨(i + 1, i + 1, ps ++ [List.drop (zi from').toNat (List.take (zi i).toNat (s .o))]), add (.inr ⟨h2, h3⟩), by show (s .o).length + 1 - (i + 1) < (s .o).length + 1 - i; omega, ?_⟩
          cbv
          rw [zi_succ (by omega)]
          (repeat' (first | exact True.intro | exact Same.refl _ | exact SameB.refl _ | exact ⟨rfl⟩ | exact Same.int rfl | exact Same.str rfl | exact Same.bool rfl | (refine Same.int ?_; simp only [List.length_append, List.length_cons, List.length_nil, zi]; omega) | (refine SameB.row' rfl fun i hi => ?_; first | rfl | exact absurd hi (Nat.not_lt_zero _)) | refine And.intro ?_ ?_ | refine SameB.cells ?_ | exact SameC.nil | refine SameC.cons ?_ ?_ | exact Same.nsl rfl | exact Same.tt rfl | exact Same.ff rfl))
        · have h3 : (s .o)[i] ≠ 47 := fun q => h3 (by show zi ((s .o).getD (zi i).toNat 0).toNat = 47; rw [hby, q]; rfl)
          cbv
          refine ⟨(i + 1, from', ps), stay h2 h3, by show (s .o).length + 1 - (i + 1) < (s .o).length + 1 - i; omega, ?_⟩
          cbv
          rw [zi_succ (by omega)]
          (repeat' (first | exact True.intro | exact Same.refl _ | exact SameB.refl _ | exact ⟨rfl⟩ | exact Same.int rfl | exact Same.str rfl | exact Same.bool rfl | (refine Same.int ?_; simp only [List.length_append, List.length_cons, List.length_nil, zi]; omega) | (refine SameB.row' rfl fun i hi => ?_; first | rfl | exact absurd hi (Nat.not_lt_zero _)) | refine And.intro ?_ ?_ | refine SameB.cells ?_ | exact SameC.nil | refine SameC.cons ?_ ?_ | exact Same.nsl rfl | exact Same.tt rfl | exact Same.ff rfl))
    · have h1 : (s .o).length < i := by have : ¬ zi i ≤ zi (s .o).length := h1; unfold zi at this; omega
      rcases hR with ⟨q, _⟩ | ⟨_, hsp⟩
      · omega
      cbv
      exact ⟨_, .ret (y := strs fun _ => ps) (Same.refl _), hr _ hsp.symm⟩
theorem may15_c (x : Th (List UInt8)) (hs : (x .o).length ≤ 1099511627776) {d : Nat} {K : ARes → BL → Prop} (hr : ∀ b : Th Bool, b .o = name15 (x .o) → K (.ret (.bool b)) .nil) : CallAt PT r15_MayName [.str x] d .nil K := by
  refine CallAt.res ?_
  refine r15_MayName.of rfl rfl ?_
  cbv
  have fin : ∀ (b : Bool) {y : AV}, b = name15 (x .o) → Same y (.bool fun _ => b) → ∃ r', SameR (.ret y) r' ∧ K r' .nil := fun b y h1 h2 => ⟨_, .ret h2, hr _ h1⟩
  refine br_rev (br_dec (fun h1 => ?_) (fun h1 => ?_))
  · have h1 : x .o = [] := by have : zi (x .o).length = 0 := h1; unfold zi at this; exact List.eq_nil_of_length_eq_zero (by omega)
    cbv
    exact fin false (by unfold name15 nameB; simp [h1]) (.ff rfl)
  have h1 : x .o ≠ [] := fun q => h1 (by show zi (x .o).length = 0; rw [q]; rfl)
  cbv
  refine br_rev (br_dec (fun h2 => ?_) (fun h2 => ?_))
  · have h2 : ¬ (x .o).length ≤ 255 := by have : 255 < zi (x .o).length := h2; unfold zi at this; omega
    cbv
    exact fin false (by unfold name15 nameB; simp [h2]) (.ff rfl)
  have h2 : (x .o).length ≤ 255 := by have : ¬ 255 < zi (x .o).length := h2; unfold zi at this; omega
  cbv
  refine br_rev (br_dec (fun h3 => ?_) (fun h3 => ?_))
  · have h3 : x .o = [46] := h3
    cbv
    exact fin false (by unfold name15 nameB; simp [h3]) (.ff rfl)
  have h3 : ¬ x .o = [46] := h3
  cbv
  refine br_dec (fun h4 => ?_) (fun h4 => ?_)
  · have h4 : x .o = [46, 46] := h4
    cbv
    exact fin false (by unfold name15 nameB; simp [h4]) (.ff rfl)
  have h4 : ¬ x .o = [46, 46] := h4
  cbv
  have hnb : nameB (x .o) = true := by unfold nameB; simp [h1, h2, h3, h4]
  refine loop_rule (X := Nat) 1000 [0] [] (fun k => .cons 3 (.int .i64 fun _ => zi k) .nil) (fun _ => .nil) (fun k => k ≤ (x .o).length ∧ (0 : UInt8) ∉ (x .o).take k ∧ (47 : UInt8) ∉ (x .o).take k) (fun k => (x .o).length - k) 0 ?_ ⟨Nat.zero_le _, by simp, by simp⟩ ?_
  · cbv
    (repeat' (first | exact True.intro | exact Same.refl _ | exact SameB.refl _ | exact ⟨rfl⟩ | exact Same.int rfl | exact Same.str rfl | exact Same.bool rfl | (refine Same.int ?_; simp only [List.length_append, List.length_cons, List.length_nil, zi]; omega) | (refine SameB.row' rfl fun i hi => ?_; first | rfl | exact absurd hi (Nat.not_lt_zero _)) | refine And.intro ?_ ?_ | refine SameB.cells ?_ | exact SameC.nil | refine SameC.cons ?_ ?_ | exact Same.nsl rfl | exact Same.tt rfl | exact Same.ff rfl))
  · rintro k ⟨hk, n0, n47⟩
    have hz := zi_toNat k
    cbv
    ((try refine br_rev ?_); (first | refine br_dec (fun h5 => ?_) (fun h5 => ?_) | refine br_ndec (fun h5 => ?_) (fun h5 => ?_) | refine br_nbool (fun h5 => ?_) (fun h5 => ?_) | refine br_bool (fun h5 => ?_) (fun h5 => ?_)); all_goals (try dsimp only at h5); all_goals (try with_reducible replace h5 := zi_lt.1 h5); all_goals (try with_reducible replace h5 := not_zlt h5))
    · have hby : (x .o).getD (zi k).toNat 0 = (x .o)[k] := by rw [hz, List.getD_eq_getElem?_getD, List.getElem?_eq_getElem h5]; rfl
      cbv
      refine safe ⟨zi_nonneg _, zi_lt.2 h5⟩ ?_
      refine br_rev (br_dec (fun h6 => ?_) (fun h6 => ?_))
      · have h6 : (x .o)[k] = 0 := byte_is (k := 0) (by decide) (hby ▸ h6)
        cbv
        refine fin false ?_ (.ff rfl)
        have : (0 : UInt8) ∈ x .o := h6 ▸ List.getElem_mem h5
        unfold name15; simp [this]
      · have h6 : (x .o)[k] ≠ 0 := fun q => h6 (by show zi ((x .o).getD (zi k).toNat 0).toNat = 0; rw [hby, q]; rfl)
        cbv
        refine safe ⟨zi_nonneg _, zi_lt.2 h5⟩ ?_
        refine br_dec (fun h7 => ?_) (fun h7 => ?_)
        · have h7 : (x .o)[k] = 47 := byte_is (k := 47) (by decide) (hby ▸ h7)
          cbv
          refine fin false ?_ (.ff rfl)
          have : (47 : UInt8) ∈ x .o := h7 ▸ List.getElem_mem h5
          unfold name15; simp [this]
        · have h7 : (x .o)[k] ≠ 47 := fun q => h7 (by show zi ((x .o).getD (zi k).toNat 0).toNat = 47; rw [hby, q]; rfl)
          cbv
          refine ⟨k + 1, ⟨h5, ?_, ?_⟩, by omega, ?_⟩
          · rw [List.take_add_one, List.getElem?_eq_getElem h5]
            simp only [Option.toList_some, List.mem_append, List.mem_singleton, not_or]
            exact ⟨n0, fun q => h6 q.symm⟩
          · rw [List.take_add_one, List.getElem?_eq_getElem h5]
            simp only [Option.toList_some, List.mem_append, List.mem_singleton, not_or]
            exact ⟨n47, fun q => h7 q.symm⟩
          cbv
          rw [zi_succ (by omega)]
          (repeat' (first | exact True.intro | exact Same.refl _ | exact SameB.refl _ | exact ⟨rfl⟩ | exact Same.int rfl | exact Same.str rfl | exact Same.bool rfl | (refine Same.int ?_; simp only [List.length_append, List.length_cons, List.length_nil, zi]; omega) | (refine SameB.row' rfl fun i hi => ?_; first | rfl | exact absurd hi (Nat.not_lt_zero _)) | refine And.intro ?_ ?_ | refine SameB.cells ?_ | exact SameC.nil | refine SameC.cons ?_ ?_ | exact Same.nsl rfl | exact Same.tt rfl | exact Same.ff rfl))
    · rw [List.take_of_length_le h5] at n0 n47
      cbv
      exact fin true (by unfold name15; simp [hnb, n0, n47]) (.tt rfl)
theorem path15_c (s : Th (List UInt8)) (hs : (s .o).length ≤ 1099511627776) {d : Nat} {K : ARes → BL → Prop} (hr : ∀ b : Th Bool, b .o = pathS (s .o) → K (.ret (.bool b)) .nil) : CallAt PT r15_Path [.str s] d .nil K := by
  refine CallAt.res ?_
  refine r15_Path.of rfl rfl ?_
  cbv
  have fin : ∀ (b : Bool) {y : AV}, b = path15 (s .o) → Same y (.bool fun _ => b) → ∃ r', SameR (.ret y) r' ∧ K r' .nil := fun b y h1 h2 => ⟨_, .ret h2, hr _ (h1.trans (path15_eq _))⟩
  refine br_rev (br_dec (fun h1 => ?_) (fun h1 => ?_))
  · have h1 : s .o = [] := by have : zi (s .o).length = 0 := h1; unfold zi at this; exact List.eq_nil_of_length_eq_zero (by omega)
    cbv
    exact fin false (by unfold path15; simp [h1]) (.ff rfl)
  have h1 : s .o ≠ [] := fun q => h1 (by show zi (s .o).length = 0; rw [q]; rfl)
  cbv
  refine br_dec (fun h2 => ?_) (fun h2 => ?_)
  · have h2 : ¬ (s .o).length ≤ 4096 := by have : 4096 < zi (s .o).length := h2; unfold zi at this; omega
    cbv
    exact fin false (by unfold path15; simp [h2]) (.ff rfl)
  have h2 : (s .o).length ≤ 4096 := by have : ¬ 4096 < zi (s .o).length := h2; unfold zi at this; omega
  cbv
  refine names_c s hs fun l hl => ?_
  have hll : (l .o).length ≤ 4097 := by rw [hl, splitC_len]; have : (s .o).count 47 ≤ _ := List.count_le_length; omega
  have hel : ∀ j, ((l .o).getD j []).length ≤ 4096 := fun j => by
    rw [List.getD_eq_getElem?_getD]
    by_cases hj : j < (l .o).length
    · rw [List.getElem?_eq_getElem hj]
      exact Nat.le_trans (split_el (c := 47) (s := s .o) (by rw [← hl]; exact List.getElem_mem hj)) h2
    · rw [List.getElem?_eq_none (by omega)]; exact Nat.zero_le _
  cbv
  refine loop_rule (X := Nat) 1000 [0, 3] [] (fun k => .cons 4 (.int .i64 fun _ => zi k) .nil) (fun _ => .nil) (fun k => k ≤ (l .o).length ∧ ∀ j, j < k → name15 ((l .o).getD j []) = true) (fun k => (l .o).length - k) 0 ?_ ⟨Nat.zero_le _, fun j hj => by omega⟩ ?_
  · cbv
    (repeat' (first | exact True.intro | exact Same.refl _ | exact SameB.refl _ | exact ⟨rfl⟩ | exact Same.int rfl | exact Same.str rfl | exact Same.bool rfl | (refine Same.int ?_; simp only [List.length_append, List.length_cons, List.length_nil, zi]; omega) | (refine SameB.row' rfl fun i hi => ?_; first | rfl | exact absurd hi (Nat.not_lt_zero _)) | refine And.intro ?_ ?_ | refine SameB.cells ?_ | exact SameC.nil | refine SameC.cons ?_ ?_ | exact Same.nsl rfl | exact Same.tt rfl | exact Same.ff rfl))
  · rintro k ⟨hk, hall⟩
    have hz := zi_toNat k
    cbv
    ((try refine br_rev ?_); (first | refine br_dec (fun h3 => ?_) (fun h3 => ?_) | refine br_ndec (fun h3 => ?_) (fun h3 => ?_) | refine br_nbool (fun h3 => ?_) (fun h3 => ?_) | refine br_bool (fun h3 => ?_) (fun h3 => ?_)); all_goals (try dsimp only at h3); all_goals (try with_reducible replace h3 := zi_lt.1 h3); all_goals (try with_reducible replace h3 := not_zlt h3))
    · cbv
      refine safe ⟨zi_nonneg _, zi_lt.2 h3⟩ ?_
      refine may15_c (fun _ => (l .o).getD (zi k).toNat []) (Nat.le_trans (hel _) (by decide)) fun b hb => ?_
      have hb : b .o = name15 ((l .o).getD k []) := by rw [hb, hz]
      cbv
      refine br_nbool (fun h4 => ?_) (fun h4 => ?_)
      · cbv
        refine fin false ?_ (.ff rfl)
        have hm : (l .o).getD k [] ∈ l .o := by rw [List.getD_eq_getElem?_getD, List.getElem?_eq_getElem h3]; exact List.getElem_mem h3
        have : (splitC 47 (s .o)).all name15 = false := by
          rw [← hl, List.all_eq_false]
          exact ⟨_, hm, by rw [← hb, h4]; decide⟩
        unfold path15
        rw [this]; simp
      · cbv
        refine ⟨k + 1, ⟨h3, fun j hj => ?_⟩, by omega, ?_⟩
        · by_cases e : j = k
          · rw [e, ← hb, h4]
          · exact hall j (by omega)
        · cbv
          rw [zi_succ (by omega)]
          (repeat' (first | exact True.intro | exact Same.refl _ | exact SameB.refl _ | exact ⟨rfl⟩ | exact Same.int rfl | exact Same.str rfl | exact Same.bool rfl | (refine Same.int ?_; simp only [List.length_append, List.length_cons, List.length_nil, zi]; omega) | (refine SameB.row' rfl fun i hi => ?_; first | rfl | exact absurd hi (Nat.not_lt_zero _)) | refine And.intro ?_ ?_ | refine SameB.cells ?_ | exact SameC.nil | refine SameC.cons ?_ ?_ | exact Same.nsl rfl | exact Same.tt rfl | exact Same.ff rfl))
    · have hall' : (splitC 47 (s .o)).all name15 = true := by
        rw [← hl, List.all_eq_true]
        intro x hx
        obtain ⟨i, hi, rfl⟩ := List.mem_iff_getElem.1 hx
        have := hall i (by omega)
        rwa [List.getD_eq_getElem?_getD, List.getElem?_eq_getElem hi] at this
      cbv
      refine ⟨_, .ret (Same.refl _), hr _ ?_⟩
      rw [← path15_eq]
      unfold path15
      rw [hall', ← hl]
      show decide (zi (l .o).length ≤ 64) = _
      simp only [h1, h2, ne_eq, not_false_eq_true, decide_true, Bool.true_and]
      rw [decide_eq_decide]; unfold zi; omega
end Go.Proofs.YtkklflpfklbbcaaDoor
/- A file system, as the executor tells of it. -/
namespace Go.Proofs.YtkklflpfklbbcaaDoor
open Go Go.Proofs.YtkklflpfklbbcaaDoor.Sx
set_option linter.unusedVariables false
/-- A name in a directory. -/
structure Dent where
  name : List UInt8
  ino : Int
def Dent.z : Dent := ⟨[], 0⟩
def Dent.ch (a : Th Dent) : AV := .cons (.str fun _ => (a .o).name) (.cons (.int .i64 fun _ => (a .o).ino) .nil)
def Dent.av (a : Th Dent) : AV := .agg (Dent.ch a)
def dents (l : Th (List Dent)) : AV := .sl 2 (fun _ => (l .o).length) fun i => Dent.ch fun _ => (l .o).getD (i .o) Dent.z
/-- A node. -/
structure Ino where
  kind : Int
  mt : Meta
  data : List UInt8
  target : List UInt8
  major : Int
  minor : Int
  kids : List Dent
def metaO : Meta := ⟨0, 0, 0, 0, 0, [], [], [], ⟨0, 0, 0, false, 0⟩, 0⟩
def Ino.z : Ino := ⟨0, metaO, [], [], 0, 0, []⟩
def Ino.ch (n : Th Ino) : AV :=
  .cons (.int .i64 fun _ => (n .o).kind)
  (.cons (.int .i64 fun _ => (n .o).mt.mode) (.cons (.int .i64 fun _ => (n .o).mt.uid) (.cons (.int .i64 fun _ => (n .o).mt.gid) (.cons (.int .i64 fun _ => (n .o).mt.sec) (.cons (.int .i64 fun _ => (n .o).mt.nano)
  (.cons (aces fun _ => (n .o).mt.acl) (.cons (aces fun _ => (n .o).mt.dflt) (.cons (xattrs fun _ => (n .o).mt.xs)
  (.cons (.int .i64 fun _ => (n .o).mt.caps.ver) (.cons (.int .u64 fun _ => (n .o).mt.caps.perm) (.cons (.int .u64 fun _ => (n .o).mt.caps.inh) (.cons (.bool fun _ => (n .o).mt.caps.eff) (.cons (.int .i64 fun _ => (n .o).mt.caps.root)
  (.cons (.int .i64 fun _ => (n .o).mt.flags)
  (.cons (.str fun _ => (n .o).data) (.cons (.str fun _ => (n .o).target) (.cons (.int .i64 fun _ => (n .o).major) (.cons (.int .i64 fun _ => (n .o).minor) (.cons (dents fun _ => (n .o).kids) .nil)))))))))))))))))))
def Ino.av (n : Th Ino) : AV := .agg (Ino.ch n)
def inos (l : Th (List Ino)) : AV := .sl 20 (fun _ => (l .o).length) fun i => Ino.ch fun _ => (l .o).getD (i .o) Ino.z
structure FS where
  nodes : List Ino
  room : Int
  op : Int
  faults : List Int
def FS.ch (f : Th FS) : AV := .cons (inos fun _ => (f .o).nodes) (.cons (.int .i64 fun _ => (f .o).room) (.cons (.int .i64 fun _ => (f .o).op) (.cons (ints fun _ => (f .o).faults) .nil)))
def FS.av (f : Th FS) : AV := .agg (FS.ch f)
def kidS (l : List Dent) (n : List UInt8) : Int := match l.find? fun d => decide (d.name = n) with | some d => d.ino | none => -1
theorem kidS_at : ∀ (l : List Dent) (n : List UInt8) (k : Nat), k < l.length → (∀ j, j < k → (l.getD j Dent.z).name ≠ n) → (l.getD k Dent.z).name = n → kidS l n = (l.getD k Dent.z).ino
  | [], n, k, hk, _, _ => by simp at hk
  | d :: r, n, 0, _, _, h => by
    have h : d.name = n := h
    unfold kidS
    rw [List.find?_cons_of_pos (by simp [h])]
    rfl
  | d :: r, n, k + 1, hk, hj, h => by
    have h0 : d.name ≠ n := hj 0 (by omega)
    have := kidS_at r n k (by simpa using hk) (fun j hj' => by simpa using hj (j + 1) (by omega)) (by simpa using h)
    unfold kidS at this ⊢
    rw [List.find?_cons_of_neg (by simp [h0])]
    simpa using this
theorem kidS_no {l : List Dent} {n : List UInt8} (h : ∀ j, j < l.length → (l.getD j Dent.z).name ≠ n) : kidS l n = -1 := by
  unfold kidS
  rw [List.find?_eq_none.2 fun d hd => by
    obtain ⟨j, hj, rfl⟩ := List.getElem_of_mem hd
    have := h j hj
    rw [List.getD_eq_getElem?_getD, List.getElem?_eq_getElem hj] at this
    simpa using this]
theorem kidS_mem {l : List Dent} {n : List UInt8} (h : 0 ≤ kidS l n) : ∃ d ∈ l, d.name = n ∧ d.ino = kidS l n := by
  unfold kidS at h ⊢
  cases e : l.find? fun d => decide (d.name = n) with
  | none => rw [e] at h; exact absurd h (by decide)
  | some d => exact ⟨d, List.mem_of_find?_eq_some e, by simpa using List.find?_some e, rfl⟩
/-- Of few nodes, whose names lead to nodes. -/
structure FsOk (f : FS) : Prop where
  ne : 0 < f.nodes.length
  few : f.nodes.length ≤ 1000
  kids : ∀ n ∈ f.nodes, n.kids.length ≤ 1000 ∧ ∀ d ∈ n.kids, d.ino < f.nodes.length
  acl : ∀ n ∈ f.nodes, n.mt.acl.length ≤ 1000
  faults : f.faults.length ≤ 1000
theorem node_mem {l : List Ino} {k : Nat} (h : k < l.length) : l.getD k Ino.z ∈ l := by
  rw [List.getD_eq_getElem?_getD, List.getElem?_eq_getElem h]
  exact List.getElem_mem h
end Go.Proofs.YtkklflpfklbbcaaDoor
/- A file system, by the document: where names lead. -/
namespace Go.Proofs.YtkklflpfklbbcaaDoor
open Go Go.Proofs.YtkklflpfklbbcaaDoor.Sx F
set_option linter.unusedVariables false
set_option linter.unusedSimpArgs false
theorem kid18_c (n : Th Ino) (s : Th (List UInt8)) (hk : (n .o).kids.length ≤ 1000) {d : Nat} {K : ARes → BL → Prop} (hr : ∀ k : Th Int, k .o = kidS (n .o).kids (s .o) → K (.ret (.int .i64 k)) .nil) : CallAt PT r18_kid [Ino.av n, .str s] d .nil K := by
  refine CallAt.res ?_
  refine r18_kid.of rfl rfl ?_
  cbv
  refine loop_at (X := Nat) 1000 [1, 2] [2] (fun _ k => .cons 5 (.int .i64 fun _ => zi k) .nil) (fun _ _ => .nil) (fun k => k ≤ (n .o).kids.length ∧ ∀ j, j < k → ((n .o).kids.getD j Dent.z).name ≠ s .o) (fun k => (n .o).kids.length - k) 0 ?_ ⟨Nat.zero_le _, fun j hj => by omega⟩ ?_
  · cbv
    (repeat' (first | exact True.intro | exact Same.refl _ | exact SameB.refl _ | exact ⟨rfl⟩ | exact Same.int rfl | exact Same.str rfl | exact Same.bool rfl | (refine Same.int ?_; simp only [List.length_append, List.length_cons, List.length_nil, zi]; omega) | (refine SameB.row' rfl fun i hi => ?_; first | rfl | exact absurd hi (Nat.not_lt_zero _)) | refine And.intro ?_ ?_ | refine SameB.cells ?_ | exact SameC.nil | refine SameC.cons ?_ ?_ | exact Same.nsl rfl | exact Same.tt rfl | exact Same.ff rfl))
  · rintro k ⟨hk', hj⟩
    have hz := zi_toNat k
    cbv
    refine br_zlt (fun h1 => ?_) (fun h1 => ?_)
    · have h1 : k < (n .o).kids.length := h1
      cbv
      refine safe ⟨zi_nonneg _, zi_lt.2 h1⟩ ?_
      refine br_dec (fun h2 => ?_) (fun h2 => ?_)
      · have h2 : ((n .o).kids.getD (zi k).toNat Dent.z).name = s .o := h2
        rw [hz] at h2
        cbv
        refine safe ⟨zi_nonneg _, zi_lt.2 h1⟩ ?_
        exact ⟨_, .ret (.refl _), hr _ (by show ((n .o).kids.getD (zi k).toNat Dent.z).ino = _; rw [hz]; exact (kidS_at _ _ k h1 hj h2).symm)⟩
      · have h2 : ¬ ((n .o).kids.getD (zi k).toNat Dent.z).name = s .o := h2
        rw [hz] at h2
        cbv
        refine ⟨k + 1, ⟨h1, fun j hj' => ?_⟩, by omega, ?_⟩
        · by_cases e : j = k
          · rw [e]; exact h2
          · exact hj j (by omega)
        · cbv
          rw [zi_succ (by omega)]
          (repeat' (first | exact True.intro | exact Same.refl _ | exact SameB.refl _ | exact ⟨rfl⟩ | exact Same.int rfl | exact Same.str rfl | exact Same.bool rfl | (refine Same.int ?_; simp only [List.length_append, List.length_cons, List.length_nil, zi]; omega) | (refine SameB.row' rfl fun i hi => ?_; first | rfl | exact absurd hi (Nat.not_lt_zero _)) | refine And.intro ?_ ?_ | refine SameB.cells ?_ | exact SameC.nil | refine SameC.cons ?_ ?_ | exact Same.nsl rfl | exact Same.tt rfl | exact Same.ff rfl))
    · have h1 : (n .o).kids.length ≤ k := h1
      cbv
      exact ⟨_, .ret (.refl _), hr (fun _ => -1) (kidS_no fun j hj' => hj j (by omega)).symm⟩
def partsS (p : List UInt8) : Option (List (List UInt8)) := if p = [] then some [] else if pathS p then some (splitC 47 p) else none
theorem names18_c (s : Th (List UInt8)) (hs : (s .o).length ≤ 1099511627776) {d : Nat} {K : ARes → BL → Prop} (hr : ∀ l : Th (List (List UInt8)), l .o = splitC 47 (s .o) → K (.ret (strs l)) .nil) : CallAt PT r15_Names [.str s] d .nil K := by
  refine r15_Names.of rfl rfl ?_
  cbv
  refine names_c s hs fun l hl => ?_
  cbv
  exact hr l hl
theorem parts18_c (p : Th (List UInt8)) (hp : (p .o).length ≤ 100000) {d : Nat} {K : ARes → BL → Prop}
    (h1 : ∀ l : Th (List (List UInt8)), partsS (p .o) = some (l .o) → K (.ret (.agg (.cons (strs l) (.cons .tt .nil)))) .nil)
    (h2 : partsS (p .o) = none → K (.ret (.agg (.cons .nsl (.cons .ff .nil)))) .nil) : CallAt PT r18_Parts [.str p] d .nil K := by
  refine CallAt.res ?_
  refine r18_Parts.of rfl rfl ?_
  cbv
  refine br_dec (fun q1 => ?_) (fun q1 => ?_)
  · have q1 : p .o = [] := q1
    cbv
    exact ⟨_, .ret (.agg (.cons (.nsl rfl) (.cons (Same.refl _) .nil))), h1 (fun _ => []) (by unfold partsS; rw [if_pos q1])⟩
  · have q1 : ¬ p .o = [] := q1
    cbv
    refine path15_c p (by omega) fun b hb => ?_
    cbv
    refine br_nbool (fun q2 => ?_) (fun q2 => ?_)
    · have q2 : pathS (p .o) = false := hb.symm.trans q2
      cbv
      exact ⟨_, .ret (.refl _), h2 (by unfold partsS; rw [if_neg q1, q2]; rfl)⟩
    · have q2 : pathS (p .o) = true := hb.symm.trans q2
      cbv
      refine names18_c p (by omega) fun l hl => ?_
      cbv
      exact ⟨_, .ret (.refl _), h1 l (by unfold partsS; rw [if_neg q1, q2, if_pos rfl, hl])⟩
theorem parts_len {p : List UInt8} {l : List (List UInt8)} (h : partsS p = some l) : l.length ≤ 64 := by
  unfold partsS at h
  split at h
  · cases h; exact Nat.zero_le _
  · split at h
    · rename_i q
      cases h
      unfold pathS at q
      simp only [Bool.and_eq_true, decide_eq_true_eq] at q
      exact q.1.2
    · cases h
def downS (f : FS) (c : Cred) : List (List UInt8) → Nat → Int × Int
  | [], k => ((k : Int), 0)
  | s :: r, k => if (f.nodes.getD k Ino.z).kind ≠ 6 then (0, 10) else if Can9 (f.nodes.getD k Ino.z).mt c 1 = false then (0, 7) else
      if kidS (f.nodes.getD k Ino.z).kids s < 0 then (0, 2) else downS f c r (kidS (f.nodes.getD k Ino.z).kids s).toNat
theorem down_lt {f : FS} (hf : FsOk f) {c : Cred} : ∀ (l : List (List UInt8)) (k : Nat), k < f.nodes.length → ∀ n, downS f c l k = (n, 0) → 0 ≤ n ∧ n.toNat < f.nodes.length
  | [], k, hk, n, h => by
    unfold downS at h
    cases h
    exact ⟨by omega, by simpa using hk⟩
  | s :: r, k, hk, n, h => by
    unfold downS at h
    split at h
    · cases h
    · split at h
      · cases h
      · split at h
        · cases h
        · rename_i h3
          obtain ⟨d, hd, _, e⟩ := kidS_mem (Int.not_lt.1 h3)
          have := (hf.kids _ (node_mem hk)).2 d hd
          exact down_lt hf r _ (by omega) n h
theorem down18_c (f : Th FS) (c : Th Cred) (l : Th (List (List UInt8))) (hf : FsOk (f .o)) (hc : short (c .o).groups) (hl : (l .o).length ≤ 100000) {d : Nat} {K : ARes → BL → Prop}
    (hr : ∀ n e : Th Int, downS (f .o) (c .o) (l .o) 0 = (n .o, e .o) → K (.ret (.agg (.cons (.int .i64 n) (.cons (.int .i64 e) .nil)))) .nil) : CallAt PT r18_down [FS.av f, Cred.av c, strs l] d .nil K := by
  refine CallAt.res ?_
  generalize hV : downS (f .o) (c .o) (l .o) 0 = V at hr
  refine r18_down.of rfl rfl ?_
  cbv
  refine loop_at (X := Nat × Nat) 1000 [2, 3, 4, 6] [3, 4, 6] (fun _ x => .cons 7 (.int .i64 fun _ => zi x.2) (.cons 8 (.int .i64 fun _ => zi x.1) .nil)) (fun _ _ => .nil) (fun x => x.1 ≤ (l .o).length ∧ x.2 < (f .o).nodes.length ∧ downS (f .o) (c .o) ((l .o).drop x.1) x.2 = V) (fun x => (l .o).length - x.1) (0, 0) ?_ ⟨Nat.zero_le _, hf.ne, hV⟩ ?_
  · cbv
    (repeat' (first | exact True.intro | exact Same.refl _ | exact SameB.refl _ | exact ⟨rfl⟩ | exact Same.int rfl | exact Same.str rfl | exact Same.bool rfl | (refine Same.int ?_; simp only [List.length_append, List.length_cons, List.length_nil, zi]; omega) | (refine SameB.row' rfl fun i hi => ?_; first | rfl | exact absurd hi (Nat.not_lt_zero _)) | refine And.intro ?_ ?_ | refine SameB.cells ?_ | exact SameC.nil | refine SameC.cons ?_ ?_ | exact Same.nsl rfl | exact Same.tt rfl | exact Same.ff rfl))
  · rintro ⟨k, at'⟩ ⟨hk, hat, hd⟩
    dsimp only at hk hat hd
    have hz := zi_toNat k
    have hz2 := zi_toNat at'
    have hacl := hf.acl _ (node_mem hat)
    have hkids := hf.kids _ (node_mem hat)
    cbv
    refine br_zlt (fun h1 => ?_) (fun h1 => ?_)
    · have h1 : k < (l .o).length := h1
      rw [List.drop_eq_getElem_cons h1] at hd
      unfold downS at hd
      rw [show (l .o)[k] = (l .o).getD k [] by rw [List.getD_eq_getElem?_getD, List.getElem?_eq_getElem h1]; rfl] at hd
      cbv
      refine safe ⟨zi_nonneg _, zi_lt.2 hat⟩ ?_
      rw [hz2]
      generalize (f .o).nodes.getD at' Ino.z = n at hd hacl hkids
      cbv
      refine br_ndec (fun h2 => ?_) (fun h2 => ?_)
      · have h2 : ¬ n.kind = 6 := h2
        rw [if_pos h2] at hd
        cbv
        exact ⟨_, .ret (.refl _), hr (fun _ => 0) (fun _ => 10) hd.symm⟩
      have h2 : n.kind = 6 := h2
      rw [if_neg (by simpa using h2)] at hd
      cbv
      refine Can9_c (fun _ => n.mt) c (fun _ => 1) (by show short n.mt.acl; unfold short; omega) hc fun b hb => ?_
      have hb : b .o = Can9 n.mt (c .o) 1 := hb
      cbv
      refine br_nbool (fun h3 => ?_) (fun h3 => ?_)
      · have h3 : Can9 n.mt (c .o) 1 = false := hb.symm.trans h3
        rw [if_pos h3] at hd
        cbv
        exact ⟨_, .ret (.refl _), hr (fun _ => 0) (fun _ => 7) hd.symm⟩
      have h3 : Can9 n.mt (c .o) 1 = true := hb.symm.trans h3
      rw [if_neg (by rw [h3]; simp)] at hd
      cbv
      refine safe ⟨zi_nonneg _, zi_lt.2 h1⟩ ?_
      rw [hz]
      refine kid18_c (fun _ => n) (fun _ => (l .o).getD k []) hkids.1 fun i hi => ?_
      have hi : i .o = kidS n.kids ((l .o).getD k []) := hi
      rw [← hi] at hd
      cbv
      refine br_dec (fun h4 => ?_) (fun h4 => ?_)
      · have h4 : i .o < 0 := h4
        rw [if_pos h4] at hd
        cbv
        exact ⟨_, .ret (.refl _), hr (fun _ => 0) (fun _ => 2) hd.symm⟩
      have h4 : ¬ i .o < 0 := h4
      rw [if_neg h4] at hd
      obtain ⟨dd, hd1, _, hd2⟩ := kidS_mem (l := n.kids) (n := (l .o).getD k []) (by rw [← hi]; omega)
      have hlt := hkids.2 dd hd1
      rw [hd2, ← hi] at hlt
      have hiz : i .o = zi (i .o).toNat := by unfold zi; omega
      cbv
      refine ⟨(k + 1, (i .o).toNat), ⟨h1, (Int.toNat_lt (Int.not_lt.1 h4)).2 hlt, hd⟩, by show (l .o).length - (k + 1) < (l .o).length - k; omega, ?_⟩
      cbv
      rw [zi_succ (by omega)]
      (repeat' (first | exact True.intro | exact Same.refl _ | exact SameB.refl _ | exact ⟨rfl⟩ | exact Same.int rfl | exact Same.str rfl | exact Same.bool rfl | (refine Same.int ?_; simp only [List.length_append, List.length_cons, List.length_nil, zi]; omega) | (refine SameB.row' rfl fun i hi => ?_; first | rfl | exact absurd hi (Nat.not_lt_zero _)) | refine And.intro ?_ ?_ | refine SameB.cells ?_ | exact SameC.nil | refine SameC.cons ?_ ?_ | exact Same.nsl rfl | exact Same.tt rfl | exact Same.ff rfl))
      all_goals exact Same.int hiz
    · have h1 : (l .o).length ≤ k := h1
      rw [List.drop_of_length_le h1] at hd
      cbv
      exact ⟨_, .ret (.refl _), hr (fun _ => zi at') (fun _ => 0) hd.symm⟩
end Go.Proofs.YtkklflpfklbbcaaDoor
/- A file system, by the document: the parts of what changes one. -/
namespace Go.Proofs.YtkklflpfklbbcaaDoor
open Go Go.Proofs.YtkklflpfklbbcaaDoor.Sx F
set_option linter.unusedVariables false
set_option linter.unusedSimpArgs false
def writeS (m : Meta) (c : Cred) : Bool := Can9 m c 3 && decide (band m.flags 1 = 0)
def shutS (m : Meta) : Bool := !decide (band m.flags 3 = 0)
theorem write18_c (m : Th Meta) (c : Th Cred) (hm : short (m .o).acl) (hc : short (c .o).groups) {d : Nat} {K : ARes → BL → Prop} (hr : ∀ b : Th Bool, b .o = writeS (m .o) (c .o) → K (.ret (.bool b)) .nil) : CallAt PT r18_write [Meta.av m, Cred.av c] d .nil K := by
  refine CallAt.res ?_
  refine r18_write.of rfl rfl ?_
  cbv
  refine Can9_c m c (fun _ => 3) hm hc fun b hb => ?_
  have hb : b .o = Can9 (m .o) (c .o) 3 := hb
  cbv
  refine br_bool (fun h => ?_) (fun h => ?_)
  · cbv
    exact ⟨_, .ret (.refl _), hr _ (by unfold writeS; rw [← hb, h]; rfl)⟩
  · cbv
    exact ⟨_, .ret (.ff rfl), hr (fun _ => false) (by unfold writeS; rw [← hb, h]; rfl)⟩
theorem shut18_c (m : Th Meta) {d : Nat} {K : ARes → BL → Prop} (hr : ∀ b : Th Bool, b .o = shutS (m .o) → K (.ret (.bool b)) .nil) : CallAt PT r18_shut [Meta.av m] d .nil K := by
  refine r18_shut.of rfl rfl ?_
  cbv
  exact hr _ rfl
/-- A file system, and an error. -/
def nextAv (f : Th FS) (e : Th Int) : AV := .agg (.cons (inos fun _ => (f .o).nodes) (.cons (.int .i64 fun _ => (f .o).room) (.cons (.int .i64 fun _ => (f .o).op) (.cons (ints fun _ => (f .o).faults) (.cons (.int .i64 e) .nil)))))
theorem refused_c (f : Th FS) (e : Th Int) {d : Nat} {K : ARes → BL → Prop} (hr : K (.ret (nextAv f e)) .nil) : CallAt PT r18_refused [FS.av f, .int .i64 e] d .nil K := by
  refine r18_refused.of rfl rfl ?_
  cbv
  exact hr
def askS (f : FS) : FS := { f with op := IntKind.i64.wrap (f.op + 1) }
def askE (f : FS) : Int := if IntKind.i64.wrap (f.op + 1) ∈ f.faults then 8 else 0
theorem asked_c (f : Th FS) (hf : FsOk (f .o)) {d : Nat} {K : ARes → BL → Prop} (hr : ∀ e : Th Int, e .o = askE (f .o) → K (.ret (nextAv (fun _ => askS (f .o)) e)) .nil) : CallAt PT r18_asked [FS.av f] d .nil K := by
  refine CallAt.res ?_
  refine r18_asked.of rfl rfl ?_
  cbv
  refine loop_at (X := Nat) 1000 [1, 2] [1, 2] (fun _ k => .cons 3 (.int .i64 fun _ => zi k) .nil) (fun _ _ => .nil) (fun k => k ≤ (f .o).faults.length ∧ ∀ j, j < k → (f .o).faults.getD j 0 ≠ IntKind.i64.wrap ((f .o).op + 1)) (fun k => (f .o).faults.length - k) 0 ?_ ⟨Nat.zero_le _, fun j hj => by omega⟩ ?_
  · cbv
    (repeat' (first | exact True.intro | exact Same.refl _ | exact SameB.refl _ | exact ⟨rfl⟩ | exact Same.int rfl | exact Same.str rfl | exact Same.bool rfl | (refine Same.int ?_; simp only [List.length_append, List.length_cons, List.length_nil, zi]; omega) | (refine SameB.row' rfl fun i hi => ?_; first | rfl | exact absurd hi (Nat.not_lt_zero _)) | refine And.intro ?_ ?_ | refine SameB.cells ?_ | exact SameC.nil | refine SameC.cons ?_ ?_ | exact Same.nsl rfl | exact Same.tt rfl | exact Same.ff rfl))
  · rintro k ⟨hk, hj⟩
    have hz := zi_toNat k
    have hfl := hf.faults
    cbv
    refine br_zlt (fun h1 => ?_) (fun h1 => ?_)
    · have h1 : k < (f .o).faults.length := h1
      cbv
      refine safe ⟨zi_nonneg _, zi_lt.2 h1⟩ ?_
      refine br_dec (fun h2 => ?_) (fun h2 => ?_)
      · have h2 : (f .o).faults.getD (zi k).toNat 0 = IntKind.i64.wrap ((f .o).op + 1) := h2
        rw [hz] at h2
        cbv
        exact ⟨_, .ret (.refl _), hr (fun _ => 8) (by
          unfold askE
          rw [if_pos]
          rw [← h2, List.getD_eq_getElem?_getD, List.getElem?_eq_getElem h1]
          exact List.getElem_mem h1)⟩
      · have h2 : ¬ (f .o).faults.getD (zi k).toNat 0 = IntKind.i64.wrap ((f .o).op + 1) := h2
        rw [hz] at h2
        cbv
        refine ⟨k + 1, ⟨h1, fun j hj' => ?_⟩, by omega, ?_⟩
        · by_cases e : j = k
          · rw [e]; exact h2
          · exact hj j (by omega)
        · cbv
          rw [zi_succ (by omega)]
          (repeat' (first | exact True.intro | exact Same.refl _ | exact SameB.refl _ | exact ⟨rfl⟩ | exact Same.int rfl | exact Same.str rfl | exact Same.bool rfl | (refine Same.int ?_; simp only [List.length_append, List.length_cons, List.length_nil, zi]; omega) | (refine SameB.row' rfl fun i hi => ?_; first | rfl | exact absurd hi (Nat.not_lt_zero _)) | refine And.intro ?_ ?_ | refine SameB.cells ?_ | exact SameC.nil | refine SameC.cons ?_ ?_ | exact Same.nsl rfl | exact Same.tt rfl | exact Same.ff rfl))
    · have h1 : (f .o).faults.length ≤ k := h1
      cbv
      exact ⟨_, .ret (.refl _), hr (fun _ => 0) (by
        unfold askE
        rw [if_neg]
        intro q
        obtain ⟨j, hj', e⟩ := List.getElem_of_mem q
        refine hj j (by omega) ?_
        rw [List.getD_eq_getElem?_getD, List.getElem?_eq_getElem hj']
        exact e)⟩
/-- Cell by cell. -/
inductive SameM : AV → AV → Prop
  | nil : SameM .nil .nil
  | cons {x y r s : AV} (h : Same x y) (t : SameM r s) : SameM (.cons x r) (.cons y s)
theorem sameC_mem {x y : AV} (h : SameM x y) : ∀ E b o, MemC E x b o → MemC E y b o := by
  induction h with
  | nil => exact fun _ _ _ h => h
  | cons h1 _ ih =>
    intro E b o hm
    obtain ⟨⟨v, q1, q2, q3⟩, q4⟩ := hm
    exact ⟨⟨v, q1, q2, h1.rp _ _ q3⟩, ih _ _ _ q4⟩
/-- A list told by elements that say no less. -/
theorem Same.slC {sz : Nat} {n n' : Th Nat} {g g' : Th Nat → AV} (h : n .o = n' .o) (hg : ∀ i, i < n .o → SameM (g fun _ => i) (g' fun _ => i) ∧ (g' fun _ => i).okE ∧ (g' fun _ => i).len = sz) : Same (.sl sz n g) (.sl sz n' g') := by
  refine ⟨fun E v hv => ?_, fun _ h => h⟩
  obtain ⟨a, cap, h1, h2, h3⟩ := hv
  refine ⟨a, cap, by rw [← h]; exact h1, by rw [← h]; exact h2, fun i hi => ?_⟩
  obtain ⟨_, b, o, q1, q2⟩ := h3 i (by rw [h]; exact hi)
  obtain ⟨r1, r2, r3⟩ := hg i (by rw [h]; exact hi)
  exact ⟨⟨r2, r3⟩, b, o, q1, sameC_mem r1 _ _ _ q2⟩
theorem ino_ok (n : Th Ino) : (Ino.ch n).okE ∧ (Ino.ch n).len = 20 := by
  refine ⟨⟨?_, rfl⟩, rfl⟩
  simp [Ino.ch, AV.still, aces, xattrs, dents, Ace.ch, Xattr.ch, Dent.ch]
theorem FsOk.ask {f : FS} (h : FsOk f) : FsOk (askS f) := ⟨h.ne, h.few, h.kids, h.acl, h.faults⟩
def rootS : Ino := ⟨6, { metaZ with mode := 493 }, [], [], 0, 0, []⟩
def newS (room : Int) : FS := ⟨[rootS], if 0 < room then room else 0, 0, []⟩
theorem new18_c (room : Th Int) {d : Nat} {K : ARes → BL → Prop} (hr : ∀ f : Th FS, f .o = newS (room .o) → K (.ret (FS.av f)) .nil) : CallAt PT r18_New [.int .i64 room] d .nil K := by
  refine CallAt.res ?_
  refine r18_New.of rfl rfl ?_
  cbv
  refine plain_c (fun _ => 493) (fun _ => 0) (fun _ => 0) fun m hm => ?_
  have hm : m .o = { metaZ with mode := 493 } := hm
  cbv
  refine ⟨_, .ret (.agg (.cons (Same.slC (n' := fun _ => 1) (g' := fun i => Ino.ch fun _ => [rootS].getD (i .o) Ino.z) rfl fun i hi => ?_) (.cons (.refl _) (.cons (.refl _) (.cons (.nsl rfl) .nil))))), hr (fun _ => newS (room .o)) rfl⟩
  have hi : i < 1 := hi
  obtain rfl : i = 0 := by omega
  refine ⟨?_, ino_ok _⟩
  simp only [hm]
  exact .cons (.refl _) (.cons (.refl _) (.cons (.refl _) (.cons (.refl _) (.cons (.refl _) (.cons (.refl _) (.cons (.refl _) (.cons (.refl _) (.cons (.refl _) (.cons (.refl _) (.cons (.refl _) (.cons (.refl _) (.cons (.refl _) (.cons (.refl _) (.cons (.refl _) (.cons (.refl _) (.cons (.refl _) (.cons (.refl _) (.cons (.refl _) (.cons (.nsl rfl) .nil)))))))))))))))))))
end Go.Proofs.YtkklflpfklbbcaaDoor
/- strings.Compare: by the kit's law of what has no body. -/
namespace Go.Proofs.YtkklflpfklbbcaaDoor
open Go Go.RowKit
set_option linter.unusedVariables false
set_option linter.unusedSimpArgs false
set_option maxHeartbeats 1000000 in
set_option maxRecDepth 100000 in
theorem cmpString_calls (a b : ByteArray) (w : World) :
    Calls Tryd.prog 69 #[.string a, .string b] w fun e w' => e = .returned (.int .i64 (Lib.compareBytes a.data.toList b.data.toList)) ∧ w' = w := by
  go_enter Tryd.func69, Tryd.ntmps69
  go_wp2
  rw [run_callFunc_extern Tryd.func80 (by kernel_rfl) (by kernel_rfl) (by kernel_rfl) (e := Extern.BytealgCompare.compare) (by kernel_rfl), Lib.run_compareString]
  simp only [Result.andThen]
  rw [Oper.upon_value]
  go_wp2
  go_ret
  exact ⟨rfl, rfl⟩
open Go.Proofs.YtkklflpfklbbcaaDoor.Sx F
def cmpS (a b : List UInt8) : Int := if strLt a b then -1 else if a = b then 0 else 1
theorem compareBytes_is : ∀ a b : List UInt8, Lib.compareBytes a b = cmpS a b
  | [], [] => rfl
  | [], _ :: _ => rfl
  | _ :: _, [] => rfl
  | a :: r, b :: s => by
    have ih := compareBytes_is r s
    unfold cmpS at ih ⊢
    unfold Lib.compareBytes
    rw [ih]
    have e : strLt (a :: r) (b :: s) = (decide (a < b) || (a == b && strLt r s)) := rfl
    rw [e]
    by_cases h : a < b
    · simp [h]
    · by_cases h2 : b < a
      · have hne : ¬ a = b := fun q => by subst q; exact h h2
        simp [h, h2, hne]
      · have he : a = b := UInt8.le_antisymm (UInt8.not_lt.1 h2) (UInt8.not_lt.1 h)
        subst he
        simp [h]
theorem cmpString_c (s t : Th (List UInt8)) {d : Nat} {K : ARes → BL → Prop} (hr : ∀ n : Th Int, n .o = cmpS (s .o) (t .o) → K (.ret (.int .i64 n)) .nil) : CallAt PT 69 [.str s, .str t] d .nil K := by
  rw [show t = fun _ => t .o from (funext fun | .o => rfl)]
  exact two_strs (by kernel_rfl) s (t .o) (.ret (.int .i64 fun _ => Lib.compareBytes (s .o) (t .o))) rfl (fun e => e = .returned (.int .i64 (Lib.compareBytes (s .o) (t .o)))) (fun w => cmpString_calls _ _ w) (fun E e he => by subst he; rfl) (hr _ (compareBytes_is _ _))
theorem compareS_c (s t : Th (List UInt8)) {d : Nat} {K : ARes → BL → Prop} (hr : ∀ n : Th Int, n .o = cmpS (s .o) (t .o) → K (.ret (.int .i64 n)) .nil) : CallAt PT strings_Compare [.str s, .str t] d .nil K := by
  refine strings_Compare.of rfl rfl ?_
  cbv
  refine cmpString_c s t fun n hn => ?_
  cbv
  exact hr n hn
end Go.Proofs.YtkklflpfklbbcaaDoor
/- The program's file system: what reads. -/
namespace Go.Proofs.YtkklflpfklbbcaaDoor
open Go Go.Proofs.YtkklflpfklbbcaaDoor.Sx F
set_option linter.unusedVariables false
set_option linter.unusedSimpArgs false
theorem err19_c (e : Th Int) {d : Nat} {K : ARes → BL → Prop} (hr : K (.ret (.int .i64 e)) .nil) : CallAt PT l1_Err [.int .i64 e] d .nil K := by
  refine l1_Err.of rfl rfl ?_
  cbv
  exact hr
def rootC : Cred := ⟨0, 0, [], 127⟩
theorem rootc_c {d : Nat} {K : ARes → BL → Prop} (hr : K (.ret (Cred.av fun _ => rootC)) .nil) : CallAt PT l19_Root [] d .nil K := by
  refine CallAt.res ?_
  refine l19_Root.of rfl rfl ?_
  cbv
  exact ⟨_, .ret (.agg (.cons (.refl _) (.cons (.refl _) (.cons (.nsl rfl) (.cons (.refl _) .nil))))), hr⟩
/-- What ends a call. -/
def failV (e : Th Int) : AV := .ifc 101 (.agg (.cons (.int .i64 e) .nil))
theorem mustF_c (b : Th Bool) (e : Th Int) {d : Nat} {K : ARes → BL → Prop} (h1 : b .o = true → K (.ret (.tup .nil)) .nil) (h2 : b .o = false → K (.pan (failV e)) .nil) : CallAt PT fs_must [.bool b, .int .i64 e] d .nil K := by
  refine fs_must.of rfl rfl ?_
  cbv
  refine br_nbool (fun h => ?_) (fun h => ?_)
  · cbv
    exact h2 h
  · cbv
    exact h1 h
/-- Who asks, of what: read only. -/
def callI (f : Th FS) (c : Th Cred) : AV := .iptr (.cons (inos fun _ => (f .o).nodes) (.cons (.int .i64 fun _ => (f .o).room) (.cons (.int .i64 fun _ => (f .o).op) (.cons (ints fun _ => (f .o).faults)
  (.cons (.int .i64 fun _ => (c .o).uid) (.cons (.int .i64 fun _ => (c .o).gid) (.cons (ints fun _ => (c .o).groups) (.cons (.int .i64 fun _ => (c .o).powers) .nil))))))))
theorem can19_c (f : Th FS) (c : Th Cred) (k : Nat) (w : Th Int) (hf : FsOk (f .o)) (hk : k < (f .o).nodes.length) (hc : short (c .o).groups) {d : Nat} {K : ARes → BL → Prop} (hr : ∀ b : Th Bool, b .o = CanS ((f .o).nodes.getD k Ino.z).mt (c .o) (w .o) → K (.ret (.bool b)) .nil) : CallAt PT fs_call_can [callI f c, .int .i64 fun _ => zi k, .int .i64 w] d .nil K := by
  refine fs_call_can.of rfl rfl ?_
  have hkz := zi_toNat k
  have hacl := hf.acl _ (node_mem hk)
  cbv
  refine safe ⟨zi_nonneg _, zi_lt.2 hk⟩ ?_
  simp only [hkz]
  generalize (f .o).nodes.getD k Ino.z = n at hr hacl
  refine Can_c (fun _ => n.mt) c w (by show short n.mt.acl; unfold short; omega) hc fun b hb => ?_
  cbv
  exact hr b hb
theorem partsP_c (p : Th (List UInt8)) (hp : (p .o).length ≤ 100000) {d : Nat} {K : ARes → BL → Prop}
    (h1 : ∀ l : Th (List (List UInt8)), partsS (p .o) = some (l .o) → K (.ret (.tup (.cons (strs l) (.cons .tt .nil)))) .nil)
    (h2 : partsS (p .o) = none → K (.ret (.tup (.cons .nsl (.cons .ff .nil)))) .nil) : CallAt PT fs_Parts [.str p] d .nil K := by
  refine CallAt.res ?_
  refine fs_Parts.of rfl rfl ?_
  cbv
  refine br_dec (fun q1 => ?_) (fun q1 => ?_)
  · have q1 : p .o = [] := q1
    cbv
    exact ⟨_, .ret (.tup (.cons (.nsl rfl) (.cons (Same.refl _) .nil))), h1 (fun _ => []) (by unfold partsS; rw [if_pos q1])⟩
  · have q1 : ¬ p .o = [] := q1
    cbv
    refine path_c1 p (by omega) fun b hb => ?_
    cbv
    refine br_nbool (fun q2 => ?_) (fun q2 => ?_)
    · have q2 : pathS (p .o) = false := hb.symm.trans q2
      cbv
      exact ⟨_, .ret (.refl _), h2 (by unfold partsS; rw [if_neg q1, q2]; rfl)⟩
    · have q2 : pathS (p .o) = true := hb.symm.trans q2
      cbv
      refine split_c p 47 (by omega) fun l hl => ?_
      cbv
      exact ⟨_, .ret (.refl _), h1 l (by unfold partsS; rw [if_neg q1, q2, if_pos rfl, hl])⟩
def ltD (x y : Dent) : Prop := strLt x.name y.name = true
/-- The place of a name. -/
structure AtD (l : List Dent) (s : List UInt8) (k : Nat) : Prop where
  le : k ≤ l.length
  lo : ∀ j, j < k → strLt (l.getD j Dent.z).name s = true
  hi : ∀ j, k ≤ j → j < l.length → ¬ strLt (l.getD j Dent.z).name s = true
theorem up_atD {l : List Dent} (h : l.Pairwise ltD) {i j : Nat} (hij : i < j) (hj : j < l.length) : strLt (l.getD i Dent.z).name (l.getD j Dent.z).name = true := by
  have := List.pairwise_iff_getElem.1 h i j (by omega) hj hij
  rw [List.getD_eq_getElem?_getD, List.getD_eq_getElem?_getD, List.getElem?_eq_getElem (by omega), List.getElem?_eq_getElem hj]
  exact this
theorem lt_downD {l : List Dent} (h : l.Pairwise ltD) {s : List UInt8} {k : Nat} (hk : k < l.length) (hs : strLt (l.getD k Dent.z).name s = true) : ∀ j, j ≤ k → strLt (l.getD j Dent.z).name s = true := fun j hj => by
  rcases Nat.lt_or_ge j k with q | q
  · exact lt_trans' (up_atD h q hk) hs
  · obtain rfl : j = k := by omega
    exact hs
def cmpDn : AV := .fn (.func fs_call_kid_1) .nil .nil
theorem cmpD_c (x : Th Dent) (b : Th (List UInt8)) {d : Nat} {K : ARes → BL → Prop} (hr : ∀ n : Th Int, n .o = cmpS (x .o).name (b .o) → K (.ret (.int .i64 n)) .nil) : CallAt PT fs_call_kid_1 [Dent.av x, .str b] d .nil K := by
  refine fs_call_kid_1.of rfl rfl ?_
  cbv
  refine compareS_c (fun _ => (x .o).name) b fun n hn => ?_
  cbv
  exact hr n hn
theorem half_eqD {a b : Nat} (h : a + b < 4611686018427387904) : IntKind.i64.wrap ((IntKind.u64.wrap (IntKind.i64.wrap (zi a + zi b))).fdiv (2 ^ min (Int.toNat 1) IntKind.u64.bits)) = zi ((a + b) / 2) := by
  have e1 : IntKind.i64.wrap (zi a + zi b) = zi (a + b) := by rw [IntKind.wrap_i64]; unfold zi; omega
  have e2 : IntKind.u64.wrap (zi (a + b)) = zi (a + b) := by rw [IntKind.wrap_u64]; unfold zi; omega
  rw [e1, e2, show min (Int.toNat 1) IntKind.u64.bits = 1 from rfl, show ((2 : Int) ^ 1) = 2 from rfl, Int.fdiv_eq_ediv_of_nonneg _ (by decide), IntKind.wrap_i64]
  unfold zi; omega
theorem searchD_c (l : Th (List Dent)) (s : Th (List UInt8)) (hl : (l .o).length ≤ 1000000) (hup : (l .o).Pairwise ltD) {d : Nat} {K : ARes → BL → Prop}
    (hr : ∀ k : Nat, AtD (l .o) (s .o) k → ∀ b : Th Bool, (b .o = true ↔ k < (l .o).length ∧ ((l .o).getD k Dent.z).name = s .o) → K (.ret (.tup (.cons (.int .i64 fun _ => zi k) (.cons (.bool b) .nil)))) .nil) : CallAt PT slices_BinarySearchFunc_api_Dirent_api_Dirent_string [dents l, .str s, cmpDn] d .nil K := by
  refine CallAt.res ?_
  refine slices_BinarySearchFunc_api_Dirent_api_Dirent_string.of rfl rfl ?_
  cbv
  refine loop_at (X := Nat × Nat) 1000 [0, 1, 2, 8] [] (fun _ x => .cons 9 (.int .i64 fun _ => zi x.1) (.cons 10 (.int .i64 fun _ => zi x.2) .nil)) (fun _ _ => .nil)
    (fun x => x.1 ≤ x.2 ∧ x.2 ≤ (l .o).length ∧ (∀ j, j < x.1 → strLt ((l .o).getD j Dent.z).name (s .o) = true) ∧ ∀ j, x.2 ≤ j → j < (l .o).length → ¬ strLt ((l .o).getD j Dent.z).name (s .o) = true) (fun x => x.2 - x.1) (0, (l .o).length) ?_ ⟨Nat.zero_le _, Nat.le_refl _, fun j hj => absurd hj (Nat.not_lt_zero _), fun j h1 h2 => by have h1 : (l .o).length ≤ j := h1; omega⟩ ?_
  · cbv
    (repeat' (first | exact True.intro | exact Same.refl _ | exact SameB.refl _ | exact ⟨rfl⟩ | exact Same.int rfl | exact Same.str rfl | exact Same.bool rfl | (refine Same.int ?_; simp only [List.length_append, List.length_cons, List.length_nil, zi]; omega) | (refine SameB.row' rfl fun i hi => ?_; first | rfl | exact absurd hi (Nat.not_lt_zero _)) | refine And.intro ?_ ?_ | refine SameB.cells ?_ | exact SameC.nil | refine SameC.cons ?_ ?_ | exact Same.nsl rfl | exact Same.tt rfl | exact Same.ff rfl))
  · rintro ⟨i, j⟩ ⟨h1, h2, h3, h4⟩
    dsimp only at h1 h2 h3 h4
    cbv
    refine br_zlt (fun h5 => ?_) (fun h5 => ?_)
    · have h5 : i < j := h5
      cbv
      refine safe (by decide) ?_
      rw [half_eqD (by omega)]
      have hm : (i + j) / 2 < (l .o).length := by omega
      have hm1 : i ≤ (i + j) / 2 := by omega
      have hm2 : (i + j) / 2 < j := by omega
      generalize (i + j) / 2 = m at hm hm1 hm2
      refine safe ⟨zi_nonneg _, zi_lt.2 hm⟩ ?_
      refine cmpD_c (fun _ => (l .o).getD (zi m).toNat Dent.z) s fun n hn => ?_
      have hn : n .o = cmpS ((l .o).getD m Dent.z).name (s .o) := by rw [hn, zi_toNat]
      cbv
      refine br_dec (fun h6 => ?_) (fun h6 => ?_)
      · have h6 : strLt ((l .o).getD m Dent.z).name (s .o) = true := by
          have h6 : n .o < 0 := h6
          rw [hn] at h6
          unfold cmpS at h6
          split at h6
          · assumption
          · split at h6 <;> exact absurd h6 (by decide)
        cbv
        refine ⟨(m + 1, j), ⟨by show m + 1 ≤ j; omega, h2, fun q hq => lt_downD hup hm h6 q (by have hq : q < m + 1 := hq; omega), h4⟩, by show j - (m + 1) < j - i; omega, ?_⟩
        cbv
        rw [zi_succ (by omega)]
        (repeat' (first | exact True.intro | exact Same.refl _ | exact SameB.refl _ | exact ⟨rfl⟩ | exact Same.int rfl | exact Same.str rfl | exact Same.bool rfl | (refine Same.int ?_; simp only [List.length_append, List.length_cons, List.length_nil, zi]; omega) | (refine SameB.row' rfl fun i hi => ?_; first | rfl | exact absurd hi (Nat.not_lt_zero _)) | refine And.intro ?_ ?_ | refine SameB.cells ?_ | exact SameC.nil | refine SameC.cons ?_ ?_ | exact Same.nsl rfl | exact Same.tt rfl | exact Same.ff rfl))
      · have h6 : ¬ strLt ((l .o).getD m Dent.z).name (s .o) = true := fun q => h6 (by
          show n .o < 0
          rw [hn]; unfold cmpS; rw [if_pos q]; decide)
        cbv
        refine ⟨(i, m), ⟨hm1, by show m ≤ _; omega, h3, fun q hq hql q2 => h6 (lt_downD hup hql q2 m hq)⟩, by show m - i < j - i; omega, ?_⟩
        cbv
        (repeat' (first | exact True.intro | exact Same.refl _ | exact SameB.refl _ | exact ⟨rfl⟩ | exact Same.int rfl | exact Same.str rfl | exact Same.bool rfl | (refine Same.int ?_; simp only [List.length_append, List.length_cons, List.length_nil, zi]; omega) | (refine SameB.row' rfl fun i hi => ?_; first | rfl | exact absurd hi (Nat.not_lt_zero _)) | refine And.intro ?_ ?_ | refine SameB.cells ?_ | exact SameC.nil | refine SameC.cons ?_ ?_ | exact Same.nsl rfl | exact Same.tt rfl | exact Same.ff rfl))
    · have h5 : j ≤ i := h5
      obtain rfl : i = j := by omega
      have hat : AtD (l .o) (s .o) i := ⟨h2, h3, h4⟩
      cbv
      refine br_zlt (fun h6 => ?_) (fun h6 => ?_)
      · have h6 : i < (l .o).length := h6
        cbv
        refine safe ⟨zi_nonneg _, zi_lt.2 h6⟩ ?_
        refine cmpD_c (fun _ => (l .o).getD (zi i).toNat Dent.z) s fun n hn => ?_
        have hn : n .o = cmpS ((l .o).getD i Dent.z).name (s .o) := by rw [hn, zi_toNat]
        cbv
        refine ⟨_, .ret (.refl _), hr i hat _ ?_⟩
        show decide (n .o = 0) = true ↔ _
        rw [decide_eq_true_eq, hn]
        unfold cmpS
        rw [if_neg (h4 i (Nat.le_refl _) h6)]
        split
        · rename_i q; exact ⟨fun _ => ⟨h6, q⟩, fun _ => rfl⟩
        · rename_i q; exact ⟨fun w => absurd w (by decide), fun w => (q w.2).elim⟩
      · have h6 : (l .o).length ≤ i := h6
        cbv
        exact ⟨_, .ret (.tup (.cons (.refl _) (.cons (.ff rfl) .nil))), hr i hat (fun _ => false) ⟨fun w => (by cases w), fun w => by omega⟩⟩
/-- Names that rise, in each directory. -/
def UpF (f : FS) : Prop := ∀ n ∈ f.nodes, n.kids.Pairwise ltD
theorem lt_neD {x y : List UInt8} (h : strLt x y = true) : x ≠ y := fun e => by rw [e, lt_irr] at h; cases h
theorem kidS_found {l : List Dent} {s : List UInt8} {k : Nat} (h : AtD l s k) (hk : k < l.length) (e : (l.getD k Dent.z).name = s) : kidS l s = (l.getD k Dent.z).ino := kidS_at l s k hk (fun j hj => lt_neD (h.lo j hj)) e
theorem kidS_none {l : List Dent} {s : List UInt8} {k : Nat} (hup : l.Pairwise ltD) (h : AtD l s k) (e : ¬ (k < l.length ∧ (l.getD k Dent.z).name = s)) : kidS l s = -1 := by
  refine kidS_no fun j hj q => ?_
  rcases Nat.lt_trichotomy j k with w | w | w
  · exact lt_neD (h.lo j w) q
  · subst w; exact e ⟨hj, q⟩
  · have h1 := up_atD hup w hj
    rw [q] at h1
    exact h.hi k (Nat.le_refl _) (by omega) h1
theorem kid19_c (f : Th FS) (c : Th Cred) (k : Nat) (s : Th (List UInt8)) (hf : FsOk (f .o)) (hup : UpF (f .o)) (hk : k < (f .o).nodes.length) {d : Nat} {K : ARes → BL → Prop}
    (hr : ∀ i : Nat, AtD ((f .o).nodes.getD k Ino.z).kids (s .o) i → ∀ b : Th Bool, (b .o = true ↔ i < ((f .o).nodes.getD k Ino.z).kids.length ∧ (((f .o).nodes.getD k Ino.z).kids.getD i Dent.z).name = s .o) → K (.ret (.tup (.cons (.int .i64 fun _ => zi i) (.cons (.bool b) .nil)))) .nil) :
    CallAt PT fs_call_kid [callI f c, .int .i64 fun _ => zi k, .str s] d .nil K := by
  refine fs_call_kid.of rfl rfl ?_
  have hkz := zi_toNat k
  have hkids := (hf.kids _ (node_mem hk)).1
  have hu := hup _ (node_mem hk)
  cbv
  refine safe ⟨zi_nonneg _, zi_lt.2 hk⟩ ?_
  simp only [hkz]
  generalize (f .o).nodes.getD k Ino.z = n at hr hkids hu
  refine searchD_c (fun _ => n.kids) s (by show n.kids.length ≤ _; omega) hu fun i hi b hb => ?_
  cbv
  exact hr i hi b hb
theorem dent_mem {l : List Dent} {k : Nat} (h : k < l.length) : l.getD k Dent.z ∈ l := by
  rw [List.getD_eq_getElem?_getD, List.getElem?_eq_getElem h]
  exact List.getElem_mem h
/-- Who may go into each node by the one may by the other. -/
def SameCan (f : FS) (c : Cred) (w : Int) : Prop := ∀ n ∈ f.nodes, CanS n.mt c w = Can9 n.mt c w
theorem find19_c (f : Th FS) (c : Th Cred) (l : Th (List (List UInt8))) (hf : FsOk (f .o)) (hup : UpF (f .o)) (hcan : SameCan (f .o) (c .o) 1) (hino : ∀ n ∈ (f .o).nodes, ∀ d ∈ n.kids, 0 ≤ d.ino) (hc : short (c .o).groups) (hl : (l .o).length ≤ 100000) {d : Nat} {K : ARes → BL → Prop}
    (h1 : ∀ n : Nat, downS (f .o) (c .o) (l .o) 0 = (zi n, 0) → n < (f .o).nodes.length → K (.ret (.int .i64 fun _ => zi n)) .nil)
    (h2 : ∀ e : Th Int, downS (f .o) (c .o) (l .o) 0 = (0, e .o) → e .o ≠ 0 → K (.pan (failV e)) .nil) : CallAt PT fs_call_find [callI f c, strs l] d .nil K := by
  refine CallAt.res ?_
  generalize hV : downS (f .o) (c .o) (l .o) 0 = V at h1 h2
  refine fs_call_find.of rfl rfl ?_
  cbv
  refine loop_at (X := Nat × Nat) 1000 [0, 10, 11] [] (fun _ x => .cons 5 (.int .i64 fun _ => zi x.2) (.cons 12 (.int .i64 fun _ => zi x.1) .nil)) (fun _ _ => .nil) (fun x => x.1 ≤ (l .o).length ∧ x.2 < (f .o).nodes.length ∧ downS (f .o) (c .o) ((l .o).drop x.1) x.2 = V) (fun x => (l .o).length - x.1) (0, 0) ?_ ⟨Nat.zero_le _, hf.ne, hV⟩ ?_
  · cbv
    (repeat' (first | exact True.intro | exact Same.refl _ | exact SameB.refl _ | exact ⟨rfl⟩ | exact Same.int rfl | exact Same.str rfl | exact Same.bool rfl | (refine Same.int ?_; simp only [List.length_append, List.length_cons, List.length_nil, zi]; omega) | (refine SameB.row' rfl fun i hi => ?_; first | rfl | exact absurd hi (Nat.not_lt_zero _)) | refine And.intro ?_ ?_ | refine SameB.cells ?_ | exact SameC.nil | refine SameC.cons ?_ ?_ | exact Same.nsl rfl | exact Same.tt rfl | exact Same.ff rfl))
  · rintro ⟨k, at'⟩ ⟨hk, hat, hd⟩
    dsimp only at hk hat hd
    have hz := zi_toNat k
    have hz2 := zi_toNat at'
    have hkids := hf.kids _ (node_mem hat)
    have hcn := hcan _ (node_mem hat)
    have hin := hino _ (node_mem hat)
    have hupn := hup _ (node_mem hat)
    cbv
    refine br_zlt (fun r1 => ?_) (fun r1 => ?_)
    · have r1 : k < (l .o).length := r1
      rw [List.drop_eq_getElem_cons r1] at hd
      unfold downS at hd
      rw [show (l .o)[k] = (l .o).getD k [] by rw [List.getD_eq_getElem?_getD, List.getElem?_eq_getElem r1]; rfl] at hd
      cbv
      refine safe ⟨zi_nonneg _, zi_lt.2 r1⟩ ?_
      simp only [hz]
      generalize (l .o).getD k [] = s at hd
      refine safe ⟨zi_nonneg _, zi_lt.2 hat⟩ ?_
      simp only [hz2]
      refine mustF_c (fun _ => decide (((f .o).nodes.getD at' Ino.z).kind = 6)) (fun _ => 10) (fun r2 => ?_) (fun r2 => ?_)
      rotate_left
      · have r2 : ¬ ((f .o).nodes.getD at' Ino.z).kind = 6 := of_decide_eq_false r2
        rw [if_pos r2] at hd
        cbv
        exact ⟨_, .pan (Same.refl _), h2 (fun _ => 10) hd.symm (by decide)⟩
      have r2 : ((f .o).nodes.getD at' Ino.z).kind = 6 := of_decide_eq_true r2
      rw [if_neg (by simpa using r2)] at hd
      cbv
      refine can19_c f c at' (fun _ => 1) hf hat hc fun b hb => ?_
      have hb : b .o = Can9 ((f .o).nodes.getD at' Ino.z).mt (c .o) 1 := hb.trans hcn
      rw [← hb] at hd
      cbv
      refine mustF_c b (fun _ => 7) (fun r3 => ?_) (fun r3 => ?_)
      rotate_left
      · rw [if_pos r3] at hd
        cbv
        exact ⟨_, .pan (Same.refl _), h2 (fun _ => 7) hd.symm (by decide)⟩
      rw [if_neg (by rw [r3]; simp)] at hd
      cbv
      refine kid19_c f c at' (fun _ => s) hf hup hat fun i hi b2 hb2 => ?_
      cbv
      refine mustF_c b2 (fun _ => 2) (fun r4 => ?_) (fun r4 => ?_)
      rotate_left
      · have e : kidS ((f .o).nodes.getD at' Ino.z).kids s = -1 := kidS_none hupn hi fun q => by rw [hb2.2 q] at r4; cases r4
        rw [e, if_pos (by decide)] at hd
        cbv
        exact ⟨_, .pan (Same.refl _), h2 (fun _ => 2) hd.symm (by decide)⟩
      obtain ⟨r5, r6⟩ := hb2.1 r4
      have e : kidS ((f .o).nodes.getD at' Ino.z).kids s = (((f .o).nodes.getD at' Ino.z).kids.getD i Dent.z).ino := kidS_found hi r5 r6
      have hm : ((f .o).nodes.getD at' Ino.z).kids.getD i Dent.z ∈ ((f .o).nodes.getD at' Ino.z).kids := dent_mem r5
      have g0 := hin _ hm
      have g1 := hkids.2 _ hm
      rw [e, if_neg (Int.not_lt.2 g0)] at hd
      have hiz := zi_toNat i
      cbv
      refine safe ⟨zi_nonneg _, zi_lt.2 hat⟩ ?_
      simp only [hz2]
      refine safe ⟨zi_nonneg _, zi_lt.2 r5⟩ ?_
      simp only [hiz]
      have hq : (((f .o).nodes.getD at' Ino.z).kids.getD i Dent.z).ino = zi (((f .o).nodes.getD at' Ino.z).kids.getD i Dent.z).ino.toNat := (Int.toNat_of_nonneg g0).symm
      cbv
      refine ⟨(k + 1, (((f .o).nodes.getD at' Ino.z).kids.getD i Dent.z).ino.toNat), ⟨r1, (Int.toNat_lt g0).2 g1, hd⟩, by show (l .o).length - (k + 1) < (l .o).length - k; omega, ?_⟩
      cbv
      rw [zi_succ (by omega)]
      (repeat' (first | exact True.intro | exact Same.refl _ | exact SameB.refl _ | exact ⟨rfl⟩ | exact Same.int rfl | exact Same.str rfl | exact Same.bool rfl | (refine Same.int ?_; simp only [List.length_append, List.length_cons, List.length_nil, zi]; omega) | (refine SameB.row' rfl fun i hi => ?_; first | rfl | exact absurd hi (Nat.not_lt_zero _)) | refine And.intro ?_ ?_ | refine SameB.cells ?_ | exact SameC.nil | refine SameC.cons ?_ ?_ | exact Same.nsl rfl | exact Same.tt rfl | exact Same.ff rfl))
      all_goals exact Same.int hq
    · have r1 : (l .o).length ≤ k := r1
      rw [List.drop_of_length_le r1] at hd
      cbv
      exact ⟨_, .ret (.refl _), h1 at' hd.symm hat⟩
end Go.Proofs.YtkklflpfklbbcaaDoor
/- The program's file system: Find. -/
namespace Go.Proofs.YtkklflpfklbbcaaDoor
open Go Go.Proofs.YtkklflpfklbbcaaDoor.Sx F
set_option linter.unusedVariables false
set_option linter.unusedSimpArgs false
/-- What a walk wants of a file system, and of who asks. -/
structure Walk (f : FS) (c : Cred) : Prop where
  ok : FsOk f
  up : UpF f
  can : ∀ w, SameCan f c w
  ino : ∀ n ∈ f.nodes, ∀ d ∈ n.kids, 0 ≤ d.ino
  grp : short c.groups
def lookS (f : FS) (c : Cred) (p : List UInt8) : Int × Int := match partsS p with
  | none => (0, 1)
  | some l => downS f c l 0
theorem path19_c (f : Th FS) (c : Th Cred) (p : Th (List UInt8)) (hW : Walk (f .o) (c .o)) (hp : (p .o).length ≤ 100000) {d : Nat} {K : ARes → BL → Prop}
    (h1 : ∀ n : Nat, lookS (f .o) (c .o) (p .o) = (zi n, 0) → n < (f .o).nodes.length → K (.ret (.int .i64 fun _ => zi n)) .nil)
    (h2 : ∀ e : Th Int, lookS (f .o) (c .o) (p .o) = (0, e .o) → e .o ≠ 0 → K (.pan (failV e)) .nil) : CallAt PT fs_call_path [callI f c, .str p] d .nil K := by
  refine CallAt.res ?_
  refine fs_call_path.of rfl rfl ?_
  unfold lookS at h1 h2
  cbv
  refine partsP_c p hp (fun l hl => ?_) (fun hl => ?_)
  · rw [hl] at h1 h2
    have hll := parts_len hl
    cbv
    refine CallAt.args (.cons (Same.tt rfl) (.cons (Same.refl _) .nil)) (mustF_c (fun _ => true) (fun _ => 1) (fun _ => ?_) (fun h => by cases h))
    cbv
    refine find19_c f c l hW.ok hW.up (hW.can 1) hW.ino hW.grp (by omega) (fun n q1 q2 => ?_) (fun e q1 q2 => ?_)
    · cbv
      exact ⟨_, .ret (.refl _), h1 n q1 q2⟩
    · cbv
      exact ⟨_, .pan (.refl _), h2 e q1 q2⟩
  · rw [hl] at h2
    cbv
    refine CallAt.args (.cons (Same.ff rfl) (.cons (Same.refl _) .nil)) (mustF_c (fun _ => false) (fun _ => 1) (fun h => by cases h) (fun _ => ?_))
    cbv
    exact ⟨_, .pan (.refl _), h2 (fun _ => 1) rfl (by decide)⟩
def fboxes (f : Th FS) (c : Th Cred) (p : Th (List UInt8)) (n : Th Int) : BL := .cons 10000 (.cells (FS.ch f)) (.cons 10001 (.cells (Cred.ch c)) (.cons 10002 (.cells (.cons (.str p) .nil)) (.cons 10003 (.cells (.cons (.int .i64 n) .nil)) .nil)))
theorem find1_c (f : Th FS) (c : Th Cred) (p : Th (List UInt8)) (hW : Walk (f .o) (c .o)) (hp : (p .o).length ≤ 100000) {d : Nat} {K : ARes → BL → Prop}
    (h1 : ∀ n : Nat, lookS (f .o) (c .o) (p .o) = (zi n, 0) → n < (f .o).nodes.length → K (.ret (.tup .nil)) (fboxes f c p fun _ => zi n))
    (h2 : ∀ e : Th Int, lookS (f .o) (c .o) (p .o) = (0, e .o) → e .o ≠ 0 → K (.pan (failV e)) (fboxes f c p fun _ => 0)) : CallAt PT fs_Find_1 [.ptr 10000 0, .ptr 10001 0, .ptr 10002 0, .ptr 10003 0] d (fboxes f c p fun _ => 0) K := by
  refine fs_Find_1.of rfl rfl ?_
  cbv
  refine path19_c f c p hW hp (fun n q1 q2 => ?_) (fun e q1 q2 => ?_)
  · cbv
    exact h1 n q1 q2
  · cbv
    exact h2 e q1 q2
theorem caughtN_c (e : Th Int) {K : BL → Prop} (h : K (.cons 10000 (.cells (.cons (.int .i64 e) .nil)) .nil)) : DefAt PT fs_caught_1 false [.nif, .ptr 10000 0] (.cons 10000 (.cells (.cons (.int .i64 e) .nil)) .nil) K := by
  refine fs_caught_1.of rfl rfl (fun _ => rfl) ?_
  cbv
  exact h
theorem caughtP_c (e e0 : Th Int) {K : BL → Prop} (h : K (.cons 10000 (.cells (.cons (.int .i64 e) .nil)) .nil)) : DefAt PT fs_caught_1 true [failV e, .ptr 10000 0] (.cons 10000 (.cells (.cons (.int .i64 e0) .nil)) .nil) K := by
  refine fs_caught_1.of rfl rfl (fun h => by cases h) ?_
  cbv
  exact h
theorem findC_c (f : Th FS) (c : Th Cred) (p : Th (List UInt8)) (hW : Walk (f .o) (c .o)) (hp : (p .o).length ≤ 100000) {d : Nat} {K : ARes → BL → Prop}
    (h1 : ∀ n : Nat, lookS (f .o) (c .o) (p .o) = (zi n, 0) → n < (f .o).nodes.length → K (.ret (.int .i64 fun _ => 0)) (fboxes f c p fun _ => zi n))
    (h2 : ∀ e : Th Int, lookS (f .o) (c .o) (p .o) = (0, e .o) → e .o ≠ 0 → K (.ret (.int .i64 e)) (fboxes f c p fun _ => 0)) :
    CallAt PT fs_caught [.fn (.func fs_Find_1) .nil (.cons (.ptr 10000 0) (.cons (.ptr 10001 0) (.cons (.ptr 10002 0) (.cons (.ptr 10003 0) .nil))))] d (fboxes f c p fun _ => 0) K := by
  refine CallAt.res ?_
  refine fs_caught.of rfl rfl ?_
  cbv
  refine CallAt.frameP [(10000, 10000), (10001, 10001), (10002, 10002), (10003, 10003)] [.ptr 10000 0, .ptr 10001 0, .ptr 10002 0, .ptr 10003 0] (by kernel_rfl) rfl fun K1 hK1 => ?_
  cbv
  refine find1_c f c p hW hp (fun n q1 q2 => hK1 _ _ ?_) (fun e q1 q2 => hK1 _ _ ?_)
  · cbv
    refine DefAt.use [(10000, 2)] [.nif, .ptr 10000 0] (by kernel_rfl) rfl (caughtN_c _ ?_)
    cbv
    exact ⟨_, .ret (.refl _), h1 n q1 q2⟩
  · cbv
    refine DefAt.use [(10000, 2)] [failV e, .ptr 10000 0] (by kernel_rfl) rfl (caughtP_c e _ ?_)
    cbv
    exact ⟨_, .ret (.refl _), h2 e q1 q2⟩
theorem findP_c (f : Th FS) (c : Th Cred) (p : Th (List UInt8)) (hW : Walk (f .o) (c .o)) (hp : (p .o).length ≤ 100000) {d : Nat} {K : ARes → BL → Prop}
    (hr : ∀ n e : Th Int, lookS (f .o) (c .o) (p .o) = (n .o, e .o) → K (.ret (.tup (.cons (.int .i64 n) (.cons (.int .i64 e) .nil)))) .nil) : CallAt PT fs_Find [FS.av f, Cred.av c, .str p] d .nil K := by
  refine CallAt.res ?_
  refine fs_Find.of rfl rfl ?_
  cbv
  refine CallAt.frameP [(10000, 3), (10001, 4), (10002, 5), (10003, 8)] [.fn (.func fs_Find_1) .nil (.cons (.ptr 10000 0) (.cons (.ptr 10001 0) (.cons (.ptr 10002 0) (.cons (.ptr 10003 0) .nil))))] (by kernel_rfl) rfl fun K1 hK1 => ?_
  cbv
  refine findC_c f c p hW hp (fun n q1 q2 => hK1 _ _ ?_) (fun e q1 q2 => hK1 _ _ ?_)
  · cbv
    refine br_ndec (fun h => (h rfl).elim) (fun _ => ?_)
    cbv
    exact ⟨_, .ret (.refl _), hr (fun _ => zi n) (fun _ => 0) q1⟩
  · cbv
    refine br_ndec (fun _ => ?_) (fun h => (q2 h).elim)
    cbv
    exact ⟨_, .ret (.refl _), hr (fun _ => 0) e q1⟩
theorem newP_c (room : Th Int) {d : Nat} {K : ARes → BL → Prop} (hr : ∀ f : Th FS, f .o = newS (room .o) → K (.ret (FS.av f)) .nil) : CallAt PT fs_New [.int .i64 room] d .nil K := by
  refine CallAt.res ?_
  refine fs_New.of rfl rfl ?_
  cbv
  refine ⟨_, .ret (.agg (.cons (Same.slC (n' := fun _ => 1) (g' := fun i => Ino.ch fun _ => [rootS].getD (i .o) Ino.z) rfl fun i hi => ?_) (.cons (.refl _) (.cons (.refl _) (.cons (.nsl rfl) .nil))))), hr (fun _ => newS (room .o)) rfl⟩
  have hi : i < 1 := hi
  obtain rfl : i = 0 := by omega
  refine ⟨?_, ino_ok _⟩
  exact .cons (.refl _) (.cons (.refl _) (.cons (.refl _) (.cons (.refl _) (.cons (.refl _) (.cons (.refl _) (.cons (.nsl rfl) (.cons (.nsl rfl) (.cons (.nsl rfl) (.cons (.refl _) (.cons (.refl _) (.cons (.refl _) (.cons (.ff rfl) (.cons (.refl _) (.cons (.refl _) (.cons (.refl _) (.cons (.refl _) (.cons (.refl _) (.cons (.refl _) (.cons (.nsl rfl) .nil)))))))))))))))))))
end Go.Proofs.YtkklflpfklbbcaaDoor
/- A file system, by the document: a node another one, a name more. -/
namespace Go.Proofs.YtkklflpfklbbcaaDoor
open Go Go.Proofs.YtkklflpfklbbcaaDoor.Sx F
set_option linter.unusedVariables false
set_option linter.unusedSimpArgs false
def withS (f : FS) (k : Nat) (n : Ino) : FS := { f with nodes := f.nodes.set k n }
theorem with18_c (f : Th FS) (k : Th Int) (n : Th Ino) (hf : FsOk (f .o)) (hk : 0 ≤ k .o ∧ (k .o).toNat < (f .o).nodes.length) {d : Nat} {K : ARes → BL → Prop} (hr : K (.ret (FS.av fun _ => withS (f .o) (k .o).toNat (n .o))) .nil) : CallAt PT r18_with [FS.av f, .int .i64 k, Ino.av n] d .nil K := by
  refine CallAt.res ?_
  refine r18_with.of rfl rfl ?_
  have hfew := hf.few
  cbv
  refine app_rows0 Ino.ch Ino.z (f .o).nodes rfl rfl (fun i hi => rfl) (by omega) ?_
  cbv
  refine safe ⟨hk.1, by show k .o < zi (f .o).nodes.length; unfold zi; omega⟩ ?_
  refine put_rows Ino.ch Ino.z (f .o).nodes (n .o) rfl (fun i hi => rfl) hk.2 rfl ?_
  cbv
  exact ⟨_, .ret (.agg (.cons (Same.sl (by show (f .o).nodes.length = ((f .o).nodes.set _ _).length; rw [List.length_set]) fun i hi => rfl) (.cons (.refl _) (.cons (.refl _) (.cons (.refl _) .nil))))), hr⟩
/-- A name more, in order. -/
def putD (d : Dent) : List Dent → List Dent
  | [] => [d]
  | x :: r => if strLt x.name d.name = true then x :: putD d r else d :: x :: r
theorem putD_at (d : Dent) : ∀ (l : List Dent) (k : Nat), k ≤ l.length → (∀ j, j < k → strLt (l.getD j Dent.z).name d.name = true) → (k < l.length → ¬ strLt (l.getD k Dent.z).name d.name = true) → putD d l = l.take k ++ d :: l.drop k
  | [], k, hk, _, _ => by simp at hk; subst hk; rfl
  | x :: r, 0, _, _, h => by
    have h : ¬ strLt x.name d.name = true := h (by simp)
    unfold putD
    rw [if_neg h]
    rfl
  | x :: r, k + 1, hk, hj, h => by
    have h0 : strLt x.name d.name = true := hj 0 (by omega)
    have := putD_at d r k (by simpa using hk) (fun j hj' => by simpa using hj (j + 1) (by omega)) (fun q => by simpa using h (by simpa using q))
    unfold putD
    rw [if_pos h0, this]
    rfl
theorem put18_c (n : Th Ino) (s : Th (List UInt8)) (k : Th Int) (hn : (n .o).kids.length ≤ 1000) {d : Nat} {K : ARes → BL → Prop} (hr : K (.ret (Ino.av fun _ => { n .o with kids := putD ⟨s .o, k .o⟩ (n .o).kids })) .nil) : CallAt PT r18_put [Ino.av n, .str s, .int .i64 k] d .nil K := by
  refine CallAt.res ?_
  refine r18_put.of rfl rfl ?_
  cbv
  refine nil_tmp 7 9000 2 (fun i => Dent.ch fun _ => ([] : List Dent).getD (i .o) Dent.z) rfl rfl ?_
  refine loop_at (X := Nat) 1000 [1, 2, 3, 6] [3, 6] (fun _ j => .cons 7 (.row 9000) (.cons 8 (.int .i64 fun _ => zi j) .nil)) (fun _ j => .cons 9000 (rowB 2 Dent.ch Dent.z fun _ => (n .o).kids.take j) .nil) (fun j => j ≤ (n .o).kids.length ∧ ∀ i, i < j → strLt ((n .o).kids.getD i Dent.z).name (s .o) = true) (fun j => (n .o).kids.length - j) 0 ?_ ⟨Nat.zero_le _, fun j hj => by omega⟩ ?_
  · cbv
    (repeat' (first | exact True.intro | exact Same.refl _ | exact SameB.refl _ | exact ⟨rfl⟩ | exact Same.int rfl | exact Same.str rfl | exact Same.bool rfl | (refine Same.int ?_; simp only [List.length_append, List.length_cons, List.length_nil, zi]; omega) | (refine SameB.row' rfl fun i hi => ?_; first | rfl | exact absurd hi (Nat.not_lt_zero _)) | refine And.intro ?_ ?_ | refine SameB.cells ?_ | exact SameC.nil | refine SameC.cons ?_ ?_ | exact Same.nsl rfl | exact Same.tt rfl | exact Same.ff rfl))
  · rintro j ⟨hj, hjl⟩
    have fin : (j < (n .o).kids.length → ¬ strLt ((n .o).kids.getD j Dent.z).name (s .o) = true) → putD ⟨s .o, k .o⟩ (n .o).kids = (n .o).kids.take j ++ ⟨s .o, k .o⟩ :: (n .o).kids.drop j := putD_at ⟨s .o, k .o⟩ _ j hj hjl
    have hjz := zi_toNat j
    have htk : ((n .o).kids.take j).length = j := by rw [List.length_take]; omega
    cbv
    ((try refine br_rev ?_); (first | refine br_dec (fun h1 => ?_) (fun h1 => ?_) | refine br_ndec (fun h1 => ?_) (fun h1 => ?_) | refine br_nbool (fun h1 => ?_) (fun h1 => ?_) | refine br_bool (fun h1 => ?_) (fun h1 => ?_)); all_goals (try dsimp only at h1); all_goals (try with_reducible replace h1 := zi_lt.1 h1); all_goals (try with_reducible replace h1 := not_zlt h1)) <;> cbv
    focus (refine safe ⟨zi_nonneg _, zi_lt.2 (by omega)⟩ ?_; cbv; ((try refine br_rev ?_); (first | refine br_dec (fun h2 => ?_) (fun h2 => ?_) | refine br_ndec (fun h2 => ?_) (fun h2 => ?_) | refine br_nbool (fun h2 => ?_) (fun h2 => ?_) | refine br_bool (fun h2 => ?_) (fun h2 => ?_)); all_goals (try dsimp only at h2); all_goals (try with_reducible replace h2 := zi_lt.1 h2); all_goals (try with_reducible replace h2 := not_zlt h2)) <;> cbv)
    · rw [hjz] at h2
      refine safe ⟨zi_nonneg _, zi_lt.2 h1⟩ ?_
      rw [hjz]
      refine app_one Dent.ch Dent.z ((n .o).kids.take j) ((n .o).kids.getD j Dent.z) rfl (fun i hi => rfl) rfl rfl (by omega) ?_
      have hts : (n .o).kids.take j ++ [(n .o).kids.getD j Dent.z] = (n .o).kids.take (j + 1) := by
        rw [List.take_succ_eq_append_getElem h1, List.getD_eq_getElem?_getD, List.getElem?_eq_getElem h1]
        rfl
      rw [hts]
      cbv
      refine ⟨j + 1, ⟨h1, fun i hi' => ?_⟩, by omega, ?_⟩
      · by_cases he : i = j
        · rw [he]; exact h2
        · exact hjl i (by omega)
      · cbv
        rw [zi_succ (by omega)]
        (repeat' (first | exact True.intro | exact Same.refl _ | exact SameB.refl _ | exact ⟨rfl⟩ | exact Same.int rfl | exact Same.str rfl | exact Same.bool rfl | (refine Same.int ?_; simp only [List.length_append, List.length_cons, List.length_nil, zi]; omega) | (refine SameB.row' rfl fun i hi => ?_; first | rfl | exact absurd hi (Nat.not_lt_zero _)) | refine And.intro ?_ ?_ | refine SameB.cells ?_ | exact SameC.nil | refine SameC.cons ?_ ?_ | exact Same.nsl rfl | exact Same.tt rfl | exact Same.ff rfl))
    focus (rw [hjz] at h2; replace fin := fin fun _ => by rw [show strLt ((n .o).kids.getD j Dent.z).name (s .o) = false from h2]; decide)
    rotate_left
    focus (replace fin := fin fun q => by omega)
    all_goals
      refine app_one Dent.ch Dent.z ((n .o).kids.take j) ⟨s .o, k .o⟩ rfl (fun i hi => rfl) rfl rfl (by omega) ?_
      cbv
      refine safe ⟨zi_nonneg _, zi_le.2 hj, Int.le_refl _⟩ ?_
      refine app_rows Dent.ch Dent.z ((n .o).kids.take j ++ [⟨s .o, k .o⟩]) ((n .o).kids.drop j) rfl (fun i hi => rfl) (by simp [zi]) (fun i hi => by simp only [getD_drop]; rfl) (by simp only [List.length_append, List.length_drop, List.length_cons, List.length_nil, htk]; omega) ?_
      rw [show (n .o).kids.take j ++ [(⟨s .o, k .o⟩ : Dent)] ++ (n .o).kids.drop j = putD ⟨s .o, k .o⟩ (n .o).kids by rw [fin]; simp]
      cbv
      exact ⟨_, .ret (.refl _), hr⟩
end Go.Proofs.YtkklflpfklbbcaaDoor
/- What a node has beside its Meta: by the document. -/
namespace Go.Proofs.YtkklflpfklbbcaaDoor
open Go Go.Proofs.YtkklflpfklbbcaaDoor.Sx F
set_option linter.unusedVariables false
set_option linter.unusedSimpArgs false
theorem device_c (k : Th Int) {d : Nat} {K : ARes → BL → Prop} (hr : ∀ b : Th Bool, (b .o = true ↔ k .o = 4 ∨ k .o = 5) → K (.ret (.bool b)) .nil) : CallAt PT r15_device [.int .i64 k] d .nil K := by
  refine CallAt.res ?_
  refine r15_device.of rfl rfl ?_
  cbv
  refine ⟨fun h => ?_, fun h => ?_⟩
  · have h : ¬ k .o = 4 := of_decide_eq_false h
    cbv
    exact ⟨_, .ret (.refl _), hr _ (by show decide (k .o = 5) = true ↔ _; rw [decide_eq_true_eq]; omega)⟩
  · have h : k .o = 4 := of_decide_eq_true h
    cbv
    exact ⟨_, .ret (.tt rfl), hr (fun _ => true) (by simp [h])⟩
structure Body (k : Int) (data target : List UInt8) (ma mi : Int) : Prop where
  len : data.length ≤ 65536
  file : k = 1 ∨ data = []
  big : 0 ≤ ma ∧ ma ≤ 2097151
  small : 0 ≤ mi ∧ mi ≤ 2097151
  dev : k = 4 ∨ k = 5 ∨ ma + mi = 0
  link : k = 3 → target ≠ [] ∧ target.length ≤ 4096 ∧ ¬ (0 : UInt8) ∈ target
  none : k ≠ 3 → target = []
theorem body_c (k : Th Int) (data target : Th (List UInt8)) (ma mi : Th Int) (hk : k .o ≠ 2) (ht : (target .o).length ≤ 100000) {d : Nat} {K : ARes → BL → Prop} (hr : ∀ b : Th Bool, (b .o = true ↔ Body (k .o) (data .o) (target .o) (ma .o) (mi .o)) → K (.ret (.bool b)) .nil) : CallAt PT r15_MayBody [.int .i64 k, .str data, .str target, .int .i64 ma, .int .i64 mi] d .nil K := by
  refine CallAt.res ?_
  have no : ¬ Body (k .o) (data .o) (target .o) (ma .o) (mi .o) → ∃ r', SameR (.ret .ff) r' ∧ K r' .nil := fun h => ⟨_, .ret (.ff rfl), hr (fun _ => false) ⟨fun q => (by cases q), fun q => (h q).elim⟩⟩
  refine r15_MayBody.of rfl rfl ?_
  cbv
  refine ⟨fun h1 => ?_, fun h1 => ?_⟩
  rotate_left
  · have h1 : 65536 < zi (data .o).length := of_decide_eq_true h1
    cbv
    exact no fun q => by have := q.len; unfold zi at h1; omega
  have h1 : ¬ 65536 < zi (data .o).length := of_decide_eq_false h1
  cbv
  refine br_ndec ?wa ?wb
  case' wa =>
    intro h2
    have h2 : ¬ k .o = 1 := h2
    cbv
    refine ⟨fun h3 => ?_, fun h3 => by
      have h3 : ¬ data .o = [] := by have h3 : (!decide (data .o = [])) = true := h3; simpa using h3
      cbv
      exact no fun q => by
        rcases q.file with q | q
        · exact h2 q
        · exact h3 q⟩
    have hfile : k .o = 1 ∨ data .o = [] := .inr (by have h3 : (!decide (data .o = [])) = false := h3; simpa using h3)
    cbv
  case' wb =>
    intro h2
    have hfile : k .o = 1 ∨ data .o = [] := .inl h2
    cbv
  all_goals
    refine ⟨fun h4 => ?_, fun h4 => by
      have h4 : ma .o < 0 := of_decide_eq_true h4
      cbv
      exact no fun q => by have := q.big; omega⟩
    have h4 : ¬ ma .o < 0 := of_decide_eq_false h4
    cbv
    refine ⟨fun h5 => ?_, fun h5 => by
      have h5 : 2097151 < ma .o := of_decide_eq_true h5
      cbv
      exact no fun q => by have := q.big; omega⟩
    have h5 : ¬ 2097151 < ma .o := of_decide_eq_false h5
    cbv
    refine ⟨fun h6 => ?_, fun h6 => by
      have h6 : mi .o < 0 := of_decide_eq_true h6
      cbv
      exact no fun q => by have := q.small; omega⟩
    have h6 : ¬ mi .o < 0 := of_decide_eq_false h6
    cbv
    refine ⟨fun h7 => ?_, fun h7 => by
      have h7 : 2097151 < mi .o := of_decide_eq_true h7
      cbv
      exact no fun q => by have := q.small; omega⟩
    have h7 : ¬ 2097151 < mi .o := of_decide_eq_false h7
    cbv
    refine device_c k fun b hb => ?_
    cbv
    refine br_nbool (fun h8 => ?_) (fun h8 => ?_)
    have h8 : ¬ (k .o = 4 ∨ k .o = 5) := fun q => by rw [hb.2 q] at h8; cases h8
    have hww : IntKind.i64.wrap (ma .o + mi .o) = ma .o + mi .o := by rw [IntKind.wrap_i64]; omega
    cbv
    simp only [hww]
    refine br_ndec (fun h9 => by
      have h9 : ¬ ma .o + mi .o = 0 := h9
      cbv
      exact no fun q => by rcases q.dev with q | q | q <;> omega) (fun h9 => ?_)
    have hdev : k .o = 4 ∨ k .o = 5 ∨ ma .o + mi .o = 0 := .inr (.inr h9)
    cbv
    rotate_left
    have hdev : k .o = 4 ∨ k .o = 5 ∨ ma .o + mi .o = 0 := (hb.1 h8).imp id .inl
    cbv
    all_goals
      refine br_not (decide_eq_false hk) ?_
      cbv
      refine br_dec (fun h10 => ?_) (fun h10 => ?_)
      · have h10 : k .o = 3 := h10
        cbv
        refine ⟨fun h11 => ?_, fun h11 => by
          have h11 : zi (target .o).length = 0 := of_decide_eq_true h11
          cbv
          exact no fun q => (q.link h10).1 (List.length_eq_zero_iff.1 (by unfold zi at h11; omega))⟩
        have h11 : ¬ zi (target .o).length = 0 := of_decide_eq_false h11
        cbv
        refine br_dec (fun h12 => by
          have h12 : 4096 < zi (target .o).length := h12
          cbv
          exact no fun q => by have := (q.link h10).2.1; unfold zi at h12; omega) (fun h12 => ?_)
        have h12 : ¬ 4096 < zi (target .o).length := h12
        cbv
        refine loop_at (X := Nat) 1000 [2] [] (fun _ i => .cons 11 (.int .i64 fun _ => zi i) .nil) (fun _ _ => .nil) (fun i => i ≤ (target .o).length ∧ ∀ j, j < i → (target .o).getD j 0 ≠ 0) (fun i => (target .o).length - i) 0 ?_ ⟨Nat.zero_le _, fun j hj => by omega⟩ ?_
        · cbv
          (repeat' (first | exact True.intro | exact Same.refl _ | exact SameB.refl _ | exact ⟨rfl⟩ | exact Same.int rfl | exact Same.str rfl | exact Same.bool rfl | (refine Same.int ?_; simp only [List.length_append, List.length_cons, List.length_nil, zi]; omega) | (refine SameB.row' rfl fun i hi => ?_; first | rfl | exact absurd hi (Nat.not_lt_zero _)) | refine And.intro ?_ ?_ | refine SameB.cells ?_ | exact SameC.nil | refine SameC.cons ?_ ?_ | exact Same.nsl rfl | exact Same.tt rfl | exact Same.ff rfl))
        · rintro i ⟨hi, hj⟩
          have hz := zi_toNat i
          cbv
          refine br_zlt (fun h13 => ?_) (fun h13 => ?_)
          · have h13 : i < (target .o).length := h13
            cbv
            refine safe ⟨zi_nonneg _, zi_lt.2 h13⟩ ?_
            refine br_dec (fun h14 => ?_) (fun h14 => ?_)
            · have h14 : zi ((target .o).getD (zi i).toNat 0).toNat = 0 := h14
              rw [hz] at h14
              cbv
              exact no fun q => (q.link h10).2.2 (by
                rw [show (0 : UInt8) = (target .o).getD i 0 from (UInt8.toNat_inj.1 (by show ((target .o).getD i 0).toNat = 0; unfold zi at h14; omega)).symm, List.getD_eq_getElem?_getD, List.getElem?_eq_getElem h13]
                exact List.getElem_mem h13)
            · have h14 : ¬ zi ((target .o).getD (zi i).toNat 0).toNat = 0 := h14
              rw [hz] at h14
              cbv
              refine ⟨i + 1, ⟨h13, fun j hj' => ?_⟩, by omega, ?_⟩
              · by_cases e : j = i
                · rw [e]; exact fun q => h14 (by rw [q]; rfl)
                · exact hj j (by omega)
              · cbv
                rw [zi_succ (by omega)]
                (repeat' (first | exact True.intro | exact Same.refl _ | exact SameB.refl _ | exact ⟨rfl⟩ | exact Same.int rfl | exact Same.str rfl | exact Same.bool rfl | (refine Same.int ?_; simp only [List.length_append, List.length_cons, List.length_nil, zi]; omega) | (refine SameB.row' rfl fun i hi => ?_; first | rfl | exact absurd hi (Nat.not_lt_zero _)) | refine And.intro ?_ ?_ | refine SameB.cells ?_ | exact SameC.nil | refine SameC.cons ?_ ?_ | exact Same.nsl rfl | exact Same.tt rfl | exact Same.ff rfl))
          · have h13 : (target .o).length ≤ i := h13
            cbv
            exact ⟨_, .ret (.tt rfl), hr (fun _ => true) ⟨fun _ => ⟨by unfold zi at h1; omega, hfile, by omega, by omega, hdev, fun _ => ⟨fun q => h11 (by rw [q]; rfl), by unfold zi at h12; omega, fun q => by
              obtain ⟨j, hj1, hj2⟩ := List.getElem_of_mem q
              refine hj j (by omega) ?_
              rw [List.getD_eq_getElem?_getD, List.getElem?_eq_getElem hj1]
              exact hj2⟩, fun q => (q h10).elim⟩, fun _ => rfl⟩⟩
      · have h10 : ¬ k .o = 3 := h10
        cbv
        exact ⟨_, .ret (.refl _), hr _ (by
          show decide (target .o = []) = true ↔ _
          rw [decide_eq_true_eq]
          exact ⟨fun q => ⟨by unfold zi at h1; omega, hfile, by omega, by omega, hdev, fun q' => (h10 q').elim, fun _ => q⟩, fun q => q.none h10⟩)⟩
end Go.Proofs.YtkklflpfklbbcaaDoor
/- A file system, by the document: Make. -/
namespace Go.Proofs.YtkklflpfklbbcaaDoor
open Go Go.Proofs.YtkklflpfklbbcaaDoor.Sx F
set_option linter.unusedVariables false
set_option linter.unusedSimpArgs false
def bodyS (k : Int) (data target : List UInt8) (ma mi : Int) : Bool := decide (data.length ≤ 65536) && (decide (k = 1) || decide (data = [])) && decide (0 ≤ ma ∧ ma ≤ 2097151) && decide (0 ≤ mi ∧ mi ≤ 2097151) && decide (k = 4 ∨ k = 5 ∨ ma + mi = 0) &&
  (if k = 3 then decide (target ≠ []) && decide (target.length ≤ 4096) && !decide ((0 : UInt8) ∈ target) else decide (target = []))
theorem bodyS_iff {k : Int} {data target : List UInt8} {ma mi : Int} : bodyS k data target ma mi = true ↔ Body k data target ma mi := by
  unfold bodyS
  constructor
  · intro h
    simp only [Bool.and_eq_true, Bool.or_eq_true, decide_eq_true_eq] at h
    obtain ⟨⟨⟨⟨⟨h1, h2⟩, h3⟩, h4⟩, h5⟩, h6⟩ := h
    refine ⟨h1, h2, h3, h4, h5, fun q => ?_, fun q => ?_⟩
    · rw [if_pos q] at h6
      simpa [and_assoc] using h6
    · rw [if_neg q] at h6
      simpa using h6
  · intro h
    simp only [Bool.and_eq_true, Bool.or_eq_true, decide_eq_true_eq]
    refine ⟨⟨⟨⟨⟨h.len, h.file⟩, h.big⟩, h.small⟩, h.dev⟩, ?_⟩
    split
    · rename_i q
      have := h.link q
      simpa [and_assoc] using this
    · rename_i q
      simpa using h.none q
/-- May a node be made? -/
def mayMk (n : Ino) : Bool := !decide (n.kind = 2) && !decide (n.kind < 1) && !decide (7 < n.kind) && !decide (n.mt.mode < 0) && !decide (4095 < n.mt.mode) && bodyS n.kind n.data n.target n.major n.minor
/-- The first node that is none. -/
def freeS : List Ino → Nat
  | [] => 0
  | n :: r => if n.kind = 0 then 0 else freeS r + 1
theorem freeS_at : ∀ (l : List Ino) (k : Nat), k ≤ l.length → (∀ j, j < k → (l.getD j Ino.z).kind ≠ 0) → (k < l.length → (l.getD k Ino.z).kind = 0) → freeS l = k
  | [], k, hk, _, _ => by simp at hk; subst hk; rfl
  | n :: r, 0, _, _, h => by
    have h : n.kind = 0 := h (by simp)
    unfold freeS
    rw [if_pos h]
  | n :: r, k + 1, hk, hj, h => by
    have h0 : n.kind ≠ 0 := hj 0 (by omega)
    have := freeS_at r k (by simpa using hk) (fun j hj' => by simpa using hj (j + 1) (by omega)) (fun q => by simpa using h (by simpa using q))
    unfold freeS
    rw [if_neg h0, this]
/-- What is made of what was asked. -/
def madeS (c : Cred) (n : Ino) : Ino := ⟨n.kind, { metaZ with mode := if n.kind = 3 then 511 else n.mt.mode, uid := c.uid, gid := c.gid }, n.data, n.target, n.major, n.minor, []⟩
def make2 (f : FS) (c : Cred) (s : List UInt8) (n : Ino) (p : Nat) : FS × Int :=
  if (f.nodes.getD p Ino.z).kind ≠ 6 then (f, 10) else
  if writeS (f.nodes.getD p Ino.z).mt c = false then (f, 7) else
  if 0 ≤ kidS (f.nodes.getD p Ino.z).kids s then (f, 3) else
  if (n.kind = 4 ∨ n.kind = 5) ∧ band c.powers 16 = 0 then (f, 7) else
  if 64 ≤ freeS f.nodes ∨ f.room < (n.data.length : Int) then (f, 9) else
  ({ f with nodes := ((f.nodes ++ if freeS f.nodes = f.nodes.length then [Ino.z] else []).set (freeS f.nodes) (madeS c n)).set p { f.nodes.getD p Ino.z with kids := putD ⟨s, (freeS f.nodes : Int)⟩ (f.nodes.getD p Ino.z).kids }, room := f.room - (n.data.length : Int) }, 0)
def make1 (f : FS) (c : Cred) (l : List (List UInt8)) (n : Ino) : FS × Int :=
  if askE f ≠ 0 then (askS f, askE f) else
  if (downS (askS f) c l.dropLast 0).2 ≠ 0 then (askS f, (downS (askS f) c l.dropLast 0).2) else
  make2 (askS f) c (l.getD (l.length - 1) []) n (downS (askS f) c l.dropLast 0).1.toNat
def makeS (f : FS) (c : Cred) (p : List UInt8) (n : Ino) : FS × Int := match partsS p with
  | none => (f, 1)
  | some l => if l = [] then (f, 1) else if mayMk n = false then (f, 1) else make1 f c l n
theorem splitC_pos (c : UInt8) (s : List UInt8) : splitC c s ≠ [] := by
  cases s with
  | nil => simp [splitC]
  | cons a r => unfold splitC; split <;> (try split) <;> simp
theorem sameM_list {x y : AV} (h : SameM x y) : ∀ E l, ListC E x l → ListC E y l := by
  induction h with
  | nil => exact fun _ _ h => h
  | cons h1 _ ih =>
    intro E l hl
    obtain ⟨v, r, rfl, q1, q2⟩ := listC_cons.1 hl
    exact listC_cons.2 ⟨v, r, rfl, h1.rp _ _ q1, ih _ _ q2⟩
theorem fits_ino {x : AV} {n : Th Ino} (h : SameM x (Ino.ch n)) : Fits x (Ino.ch n) := ⟨fun _ => (ino_ok n).1, sameM_list h⟩
theorem th_eta' {α : Type} (x : Th α) : (fun _ => x .o) = x := funext fun | .o => rfl
/-- Behind an append of one node, told cell by cell. -/
theorem app_ino {bytes : Nat} {n m : Th Nat} {g gy : Th Nat → AV} {K : Th Nat → (Th Nat → AV) → Prop} (xs : List Ino) (y : Ino) (hn : n .o = xs.length) (hg : ∀ i, i < xs.length → g (fun _ => i) = Ino.ch fun _ => xs.getD i Ino.z)
    (hm : m .o = 1) (hy : SameM (gy fun _ => 0) (Ino.ch fun _ => y)) (hroom : (xs.length + 1) * bytes ≤ 140737488355328)
    (h : K (fun _ => (xs ++ [y]).length) fun i => Ino.ch fun _ => (xs ++ [y]).getD (i .o) Ino.z) : AppAt bytes n m g gy K := by
  refine ⟨by rw [hn, hm]; exact hroom, _, _, by rw [hn, hm]; simp, fun i hi => ?_, fun j hj => ?_, h⟩
  · refine Fits.of_eq ((hg i (by omega)).trans ?_)
    congr 1
    funext _
    simp only [List.getD_eq_getElem?_getD]
    rw [List.getElem?_append_left (by omega)]
  · obtain rfl : j = 0 := by omega
    have e : (xs ++ [y]).getD (n .o + 0) Ino.z = y := by rw [hn, List.getD_eq_getElem?_getD, List.getElem?_append_right (by omega)]; simp
    show Fits _ (Ino.ch fun _ => (xs ++ [y]).getD (n .o + 0) Ino.z)
    rw [e]
    exact fits_ino hy
/-- Behind a store of a node, told cell by cell. -/
theorem put_ino {n i : Th Nat} {g : Th Nat → AV} {c : AV} {K : (Th Nat → AV) → Prop} (xs : List Ino) (v : Ino) (hn : n .o = xs.length) (hg : ∀ i, i < xs.length → g (fun _ => i) = Ino.ch fun _ => xs.getD i Ino.z)
    (hi : i .o < xs.length) (hc : SameM c (Ino.ch fun _ => v)) (h : K fun j => Ino.ch fun _ => (xs.set (i .o) v).getD (j .o) Ino.z) : PutAt n i g (some c) K := by
  refine ⟨by rw [hn]; exact hi, _, _, rfl, fun j hj hne => ?_, ?_, h⟩
  · refine Fits.of_eq ((hg j (by omega)).trans ?_)
    congr 1
    funext _
    simp only [List.getD_eq_getElem?_getD]
    rw [List.getElem?_set_ne (Ne.symm hne)]
  · have e : (xs.set (i .o) v).getD (i .o) Ino.z = v := by rw [List.getD_eq_getElem?_getD, List.getElem?_set_self hi]; rfl
    show Fits _ (Ino.ch fun _ => (xs.set (i .o) v).getD (i .o) Ino.z)
    rw [e]
    exact fits_ino hc
theorem set_snoc {α : Type} (xs : List α) (z y : α) : (xs ++ [z]).set xs.length y = xs ++ [y] := by simp
set_option maxHeartbeats 4000000 in
theorem make18_c (f : Th FS) (c : Th Cred) (p : Th (List UInt8)) (n : Th Ino) (hf : FsOk (f .o)) (hc : short (c .o).groups) (hp : (p .o).length ≤ 100000) (hn1 : (n .o).target.length ≤ 100000) (hn2 : (n .o).data.length ≤ 100000) (hroom : -1000000 ≤ (f .o).room ∧ (f .o).room ≤ 1000000) {d : Nat} {K : ARes → BL → Prop}
    (hr : ∀ (g : Th FS) (e : Th Int), makeS (f .o) (c .o) (p .o) (n .o) = (g .o, e .o) → K (.ret (nextAv g e)) .nil) : CallAt PT r18_Make [FS.av f, Cred.av c, .str p, Ino.av n] d .nil K := by
  refine CallAt.res ?_
  generalize hV : makeS (f .o) (c .o) (p .o) (n .o) = V at hr
  unfold makeS at hV
  refine r18_Make.of rfl rfl ?_
  cbv
  refine parts18_c p hp (fun l hl => ?_) (fun hl => ?_)
  rotate_left
  · rw [hl] at hV
    cbv
    refine refused_c f (fun _ => 1) ?_
    cbv
    exact ⟨_, .ret (.refl _), hr f (fun _ => 1) hV.symm⟩
  rw [hl] at hV
  have hV : (if l .o = [] then (f .o, 1) else if mayMk (n .o) = false then (f .o, 1) else make1 (f .o) (c .o) (l .o) (n .o)) = V := hV
  cbv
  refine ⟨fun h1 => ?_, fun h1 => ?_⟩
  rotate_left
  · have h1 : l .o = [] := List.length_eq_zero_iff.1 (by have h1 : zi (l .o).length = 0 := of_decide_eq_true h1; unfold zi at h1; omega)
    rw [if_pos h1] at hV
    cbv
    refine refused_c f (fun _ => 1) ?_
    cbv
    exact ⟨_, .ret (.refl _), hr f (fun _ => 1) hV.symm⟩
  have h1 : l .o ≠ [] := fun q => by have h1 : ¬ zi (l .o).length = 0 := of_decide_eq_false h1; rw [q] at h1; exact h1 rfl
  rw [if_neg h1] at hV
  have bad : mayMk (n .o) = false → (f .o, 1) = V := fun q => by rw [if_pos q] at hV; exact hV
  cbv
  refine ⟨fun h2 => ?_, fun h2 => ?_⟩
  rotate_left
  · have h2 : (n .o).kind = 2 := of_decide_eq_true h2
    cbv
    refine refused_c f (fun _ => 1) ?_
    cbv
    exact ⟨_, .ret (.refl _), hr f (fun _ => 1) (bad (by unfold mayMk; simp [h2])).symm⟩
  have h2 : ¬ (n .o).kind = 2 := of_decide_eq_false h2
  cbv
  refine ⟨fun h3 => ?_, fun h3 => ?_⟩
  rotate_left
  · have h3 : (n .o).kind < 1 := of_decide_eq_true h3
    cbv
    refine refused_c f (fun _ => 1) ?_
    cbv
    exact ⟨_, .ret (.refl _), hr f (fun _ => 1) (bad (by unfold mayMk; simp [h3])).symm⟩
  have h3 : ¬ (n .o).kind < 1 := of_decide_eq_false h3
  cbv
  refine ⟨fun h4 => ?_, fun h4 => ?_⟩
  rotate_left
  · have h4 : 7 < (n .o).kind := of_decide_eq_true h4
    cbv
    refine refused_c f (fun _ => 1) ?_
    cbv
    exact ⟨_, .ret (.refl _), hr f (fun _ => 1) (bad (by unfold mayMk; simp [h4])).symm⟩
  have h4 : ¬ 7 < (n .o).kind := of_decide_eq_false h4
  cbv
  refine ⟨fun h5 => ?_, fun h5 => ?_⟩
  rotate_left
  · have h5 : (n .o).mt.mode < 0 := of_decide_eq_true h5
    cbv
    refine refused_c f (fun _ => 1) ?_
    cbv
    exact ⟨_, .ret (.refl _), hr f (fun _ => 1) (bad (by unfold mayMk; simp [h5])).symm⟩
  have h5 : ¬ (n .o).mt.mode < 0 := of_decide_eq_false h5
  cbv
  refine ⟨fun h6 => ?_, fun h6 => ?_⟩
  rotate_left
  · have h6 : 4095 < (n .o).mt.mode := of_decide_eq_true h6
    cbv
    refine refused_c f (fun _ => 1) ?_
    cbv
    exact ⟨_, .ret (.refl _), hr f (fun _ => 1) (bad (by unfold mayMk; simp [h6])).symm⟩
  have h6 : ¬ 4095 < (n .o).mt.mode := of_decide_eq_false h6
  cbv
  refine body_c (fun _ => (n .o).kind) (fun _ => (n .o).data) (fun _ => (n .o).target) (fun _ => (n .o).major) (fun _ => (n .o).minor) h2 hn1 fun b hb => ?_
  have hb : b .o = bodyS (n .o).kind (n .o).data (n .o).target (n .o).major (n .o).minor := by
    have hb := hb.trans bodyS_iff.symm
    exact Bool.eq_iff_iff.2 hb
  cbv
  refine br_nbool (fun h7 => ?_) (fun h7 => ?_)
  · rw [hb] at h7
    cbv
    refine refused_c f (fun _ => 1) ?_
    cbv
    exact ⟨_, .ret (.refl _), hr f (fun _ => 1) (bad (by unfold mayMk; rw [h7, Bool.and_false])).symm⟩
  have hmk : mayMk (n .o) = true := by
    rw [hb] at h7
    unfold mayMk
    rw [h7]
    simp [h2, h3, h4, h5, h6]
  rw [if_neg (by rw [hmk]; simp)] at hV
  unfold make1 at hV
  cbv
  refine asked_c f hf fun e0 he0 => ?_
  rw [← he0] at hV
  cbv
  refine br_ndec (fun h8 => ?_) (fun h8 => ?_)
  · have h8 : ¬ e0 .o = 0 := h8
    rw [if_pos h8] at hV
    cbv
    exact ⟨_, .ret (.refl _), hr (fun _ => askS (f .o)) e0 hV.symm⟩
  have h8 : e0 .o = 0 := h8
  rw [if_neg (by simpa using h8)] at hV
  have hl0 : 0 < (l .o).length := List.length_pos_iff.2 h1
  have hl64 : (l .o).length ≤ 64 := parts_len hl
  have hw : IntKind.i64.wrap (zi (l .o).length - 1) = zi ((l .o).length - 1) := by rw [IntKind.wrap_i64]; unfold zi; omega
  have hwz := zi_toNat ((l .o).length - 1)
  have hdl : (l .o).dropLast.length = (l .o).length - 1 := List.length_dropLast
  cbv
  simp only [hw]
  refine safe ⟨zi_nonneg _, zi_lt.2 (by omega)⟩ ?_
  refine safe ⟨Int.le_refl _, zi_nonneg _, zi_le.2 (by omega)⟩ ?_
  simp only [hwz]
  refine CallAt.args (.cons (Same.refl _) (.cons (Same.refl _) (.cons (Same.sl (n' := fun _ => (l .o).dropLast.length) (g' := fun i => strCh fun _ => (l .o).dropLast.getD (i .o) []) (by rw [hdl]; show (zi ((l .o).length - 1) - 0).toNat = _; rw [Int.sub_zero, hwz]) fun i hi => ?_) .nil))) (down18_c (fun _ => askS (f .o)) c (fun _ => (l .o).dropLast) hf.ask hc (by rw [hdl]; omega) fun a e1 ha => ?_)
  · have hi : i < (zi ((l .o).length - 1) - 0).toNat := hi
    rw [Int.sub_zero, hwz] at hi
    show (strCh fun _ => (l .o).getD (0 + i) []) = strCh fun _ => (l .o).dropLast.getD i []
    rw [Nat.zero_add, List.getD_eq_getElem?_getD, List.getD_eq_getElem?_getD, List.getElem?_dropLast, if_pos hi]
  have ha : downS (askS (f .o)) (c .o) (l .o).dropLast 0 = (a .o, e1 .o) := ha
  rw [ha] at hV
  have hF := hf.ask
  generalize (l .o).getD ((l .o).length - 1) [] = s at hV
  cbv
  refine br_ndec (fun h9 => ?_) (fun h9 => ?_)
  · have h9 : ¬ e1 .o = 0 := h9
    have hV : (if ¬ e1 .o = 0 then (askS (f .o), e1 .o) else make2 (askS (f .o)) (c .o) s (n .o) (a .o).toNat) = V := hV
    rw [if_pos h9] at hV
    cbv
    refine refused_c (fun _ => askS (f .o)) e1 ?_
    cbv
    exact ⟨_, .ret (.refl _), hr (fun _ => askS (f .o)) e1 hV.symm⟩
  have h9 : e1 .o = 0 := h9
  have hV : (if ¬ e1 .o = 0 then (askS (f .o), e1 .o) else make2 (askS (f .o)) (c .o) s (n .o) (a .o).toNat) = V := hV
  rw [if_neg (by simpa using h9)] at hV
  rw [h9] at ha
  obtain ⟨ha0, ha1⟩ := down_lt hF _ 0 hF.ne _ ha
  have hrF : -1000000 ≤ (askS (f .o)).room ∧ (askS (f .o)).room ≤ 1000000 := hroom
  generalize askS (f .o) = F at hV hF ha1 hrF
  obtain ⟨k, hk⟩ : ∃ k : Nat, a .o = zi k := ⟨(a .o).toNat, by unfold zi; omega⟩
  rw [hk, zi_toNat] at ha1 hV
  have hkz := zi_toNat k
  have hacl := hF.acl _ (node_mem ha1)
  have hkids := hF.kids _ (node_mem ha1)
  have hfew := hF.few
  unfold make2 at hV
  cbv
  simp only [hk]
  refine safe ⟨zi_nonneg _, zi_lt.2 ha1⟩ ?_
  simp only [hkz]
  generalize hdn : F.nodes.getD k Ino.z = dn at hV hacl hkids
  cbv
  refine br_ndec (fun q1 => ?_) (fun q1 => ?_)
  · have q1 : ¬ dn.kind = 6 := q1
    rw [if_pos q1] at hV
    cbv
    refine refused_c (fun _ => F) (fun _ => 10) ?_
    cbv
    exact ⟨_, .ret (.refl _), hr (fun _ => F) (fun _ => 10) hV.symm⟩
  have q1 : dn.kind = 6 := q1
  rw [if_neg (by simpa using q1)] at hV
  cbv
  refine write18_c (fun _ => dn.mt) c (by show short dn.mt.acl; unfold short; omega) hc fun b1 hb1 => ?_
  have hb1 : b1 .o = writeS dn.mt (c .o) := hb1
  rw [← hb1] at hV
  cbv
  refine br_nbool (fun q2 => ?_) (fun q2 => ?_)
  · rw [if_pos q2] at hV
    cbv
    refine refused_c (fun _ => F) (fun _ => 7) ?_
    cbv
    exact ⟨_, .ret (.refl _), hr (fun _ => F) (fun _ => 7) hV.symm⟩
  rw [if_neg (by rw [q2]; simp)] at hV
  cbv
  refine kid18_c (fun _ => dn) (fun _ => s) hkids.1 fun i0 hi0 => ?_
  have hi0 : i0 .o = kidS dn.kids s := hi0
  rw [← hi0] at hV
  cbv
  refine br_dec (fun q3 => ?_) (fun q3 => ?_)
  · have q3 : 0 ≤ i0 .o := q3
    rw [if_pos q3] at hV
    cbv
    refine refused_c (fun _ => F) (fun _ => 3) ?_
    cbv
    exact ⟨_, .ret (.refl _), hr (fun _ => F) (fun _ => 3) hV.symm⟩
  have q3 : ¬ 0 ≤ i0 .o := q3
  rw [if_neg q3] at hV
  cbv
  have has : ∀ {d : Nat} {K : ARes → BL → Prop}, (∀ b : Th Bool, b .o = !decide (band (c .o).powers 16 = 0) → K (.ret (.bool b)) .nil) → CallAt PT r18_has [Cred.av c, .int .i64 fun _ => 16] d .nil K := fun h => has9_c c (fun _ => 16) h
  refine ⟨fun q4 => ?_, fun q4 => ?_⟩
  have q4 : ¬ (n .o).kind = 4 := of_decide_eq_false q4
  cbv
  refine br_dec (fun q5 => ?_) (fun q5 => ?_)
  have hk45 : (n .o).kind = 4 ∨ (n .o).kind = 5 := .inr q5
  cbv
  rotate_left
  have hno : ¬ (((n .o).kind = 4 ∨ (n .o).kind = 5) ∧ band (c .o).powers 16 = 0) := fun q => q.1.elim q4 q5
  cbv
  rotate_left
  have hk45 : (n .o).kind = 4 ∨ (n .o).kind = 5 := .inl (of_decide_eq_true q4)
  cbv
  refine has fun b2 hb2 => ?_
  cbv
  refine br_nbool (fun q6 => by
    have hy : ((n .o).kind = 4 ∨ (n .o).kind = 5) ∧ band (c .o).powers 16 = 0 := ⟨hk45, by rw [hb2] at q6; simpa using q6⟩
    rw [if_pos hy] at hV
    cbv
    refine refused_c (fun _ => F) (fun _ => 7) ?_
    cbv
    exact ⟨_, .ret (.refl _), hr (fun _ => F) (fun _ => 7) hV.symm⟩) (fun q6 => ?_)
  have hno : ¬ (((n .o).kind = 4 ∨ (n .o).kind = 5) ∧ band (c .o).powers 16 = 0) := fun q => by rw [hb2, q.2] at q6; cases q6
  cbv
  rotate_left
  refine has fun b2 hb2 => ?_
  cbv
  refine br_nbool (fun q6 => by
    have hy : ((n .o).kind = 4 ∨ (n .o).kind = 5) ∧ band (c .o).powers 16 = 0 := ⟨hk45, by rw [hb2] at q6; simpa using q6⟩
    rw [if_pos hy] at hV
    cbv
    refine refused_c (fun _ => F) (fun _ => 7) ?_
    cbv
    exact ⟨_, .ret (.refl _), hr (fun _ => F) (fun _ => 7) hV.symm⟩) (fun q6 => ?_)
  have hno : ¬ (((n .o).kind = 4 ∨ (n .o).kind = 5) ∧ band (c .o).powers 16 = 0) := fun q => by rw [hb2, q.2] at q6; cases q6
  cbv
  rotate_left
  all_goals
    rw [if_neg hno] at hV
    refine loop_at (X := Nat) 1000 [4, 5, 7, 8, 11, 12, 13] [4, 5, 7, 8, 12, 13] (fun _ j => .cons 14 (.int .i64 fun _ => zi j) .nil) (fun _ _ => .nil) (fun j => j ≤ F.nodes.length ∧ ∀ i, i < j → (F.nodes.getD i Ino.z).kind ≠ 0) (fun j => F.nodes.length - j) 0 ?_ ⟨Nat.zero_le _, fun j hj => by omega⟩ ?_
    · cbv
      (repeat' (first | exact True.intro | exact Same.refl _ | exact SameB.refl _ | exact ⟨rfl⟩ | exact Same.int rfl | exact Same.str rfl | exact Same.bool rfl | (refine Same.int ?_; simp only [List.length_append, List.length_cons, List.length_nil, zi]; omega) | (refine SameB.row' rfl fun i hi => ?_; first | rfl | exact absurd hi (Nat.not_lt_zero _)) | refine And.intro ?_ ?_ | refine SameB.cells ?_ | exact SameC.nil | refine SameC.cons ?_ ?_ | exact Same.nsl rfl | exact Same.tt rfl | exact Same.ff rfl))
    · rintro j ⟨hj, hjl⟩
      have hjz := zi_toNat j
      cbv
      refine br_zlt (fun r1 => ?_) (fun r1 => ?_)
      have r1 : j < F.nodes.length := r1
      cbv
      refine safe ⟨zi_nonneg _, zi_lt.2 r1⟩ ?_
      simp only [hjz]
      refine br_ndec (fun r2 => by
        have r2 : ¬ (F.nodes.getD j Ino.z).kind = 0 := r2
        cbv
        refine ⟨j + 1, ⟨r1, fun i hi' => ?_⟩, by omega, ?_⟩
        · by_cases e : i = j
          · rw [e]; exact r2
          · exact hjl i (by omega)
        · cbv
          rw [zi_succ (by omega)]
          (repeat' (first | exact True.intro | exact Same.refl _ | exact SameB.refl _ | exact ⟨rfl⟩ | exact Same.int rfl | exact Same.str rfl | exact Same.bool rfl | (refine Same.int ?_; simp only [List.length_append, List.length_cons, List.length_nil, zi]; omega) | (refine SameB.row' rfl fun i hi => ?_; first | rfl | exact absurd hi (Nat.not_lt_zero _)) | refine And.intro ?_ ?_ | refine SameB.cells ?_ | exact SameC.nil | refine SameC.cons ?_ ?_ | exact Same.nsl rfl | exact Same.tt rfl | exact Same.ff rfl))) (fun r2 => ?_)
      have fin : freeS F.nodes = j := freeS_at _ j hj hjl fun _ => r2
      cbv
      rotate_left
      have fin : freeS F.nodes = j := freeS_at _ j hj hjl fun q => by omega
      cbv
      all_goals
        have r1' : j ≤ F.nodes.length := hj
        rw [fin] at hV
        refine ⟨fun r3 => ?_, fun r3 => by
          have r3 : (64 : Int) ≤ zi j := of_decide_eq_true r3
          rw [if_pos (.inl (by unfold zi at r3; omega))] at hV
          cbv
          refine refused_c (fun _ => F) (fun _ => 9) ?_
          cbv
          exact ⟨_, .ret (.refl _), hr (fun _ => F) (fun _ => 9) hV.symm⟩⟩
        have r3 : ¬ (64 : Int) ≤ zi j := of_decide_eq_false r3
        cbv
        refine br_dec (fun r4 => by
          have r4 : F.room < zi (n .o).data.length := r4
          rw [if_pos (.inr r4)] at hV
          cbv
          refine refused_c (fun _ => F) (fun _ => 9) ?_
          cbv
          exact ⟨_, .ret (.refl _), hr (fun _ => F) (fun _ => 9) hV.symm⟩) (fun r4 => ?_)
        have r4 : ¬ F.room < zi (n .o).data.length := r4
        rw [if_neg (fun q => q.elim (fun q => r3 (by unfold zi; omega)) r4)] at hV
        cbv
        refine plain_c (fun _ => (n .o).mt.mode) (fun _ => (c .o).uid) (fun _ => (c .o).gid) fun m hm => ?_
        have hm : m .o = { metaZ with mode := (n .o).mt.mode, uid := (c .o).uid, gid := (c .o).gid } := hm
        obtain rfl : m = fun _ => { metaZ with mode := (n .o).mt.mode, uid := (c .o).uid, gid := (c .o).gid } := by rw [← hm, th_eta']
        cbv
        obtain ⟨X, hX⟩ : ∃ X, X = madeS (c .o) (n .o) := ⟨_, rfl⟩
        have hX3 : (n .o).kind = 3 → X = ⟨(n .o).kind, { metaZ with mode := 511, uid := (c .o).uid, gid := (c .o).gid }, (n .o).data, (n .o).target, (n .o).major, (n .o).minor, []⟩ := fun q => by rw [hX]; unfold madeS; rw [if_pos q]
        have hXn : ¬ (n .o).kind = 3 → X = ⟨(n .o).kind, { metaZ with mode := (n .o).mt.mode, uid := (c .o).uid, gid := (c .o).gid }, (n .o).data, (n .o).target, (n .o).major, (n .o).minor, []⟩ := fun q => by rw [hX]; unfold madeS; rw [if_neg q]
        rw [← hX] at hV
        clear hX
        refine br_dec (fun r5 => ?_) (fun r5 => ?_)
        have hXX := hX3 r5
        rotate_left
        have hXX := hXn r5
        all_goals
          clear hX3 hXn
          cbv
          refine app_rows0 Ino.ch Ino.z F.nodes rfl rfl (fun i hi => rfl) (by omega) ?_
          cbv
          first
          | (have r1A : j < F.nodes.length := r1
             refine br_not (decide_eq_false (p := zi j = zi F.nodes.length) (fun q => by unfold zi at q; omega)) ?_
             cbv
             refine safe ⟨zi_nonneg _, zi_lt.2 r1A⟩ ?_
             refine put_ino F.nodes X rfl (fun i hi => rfl) (by show (zi j).toNat < F.nodes.length; rw [hjz]; exact r1A) (by rw [hXX]; exact SameM.cons (.refl _) (.cons (.refl _) (.cons (.refl _) (.cons (.refl _) (.cons (.refl _) (.cons (.refl _) (.cons (.refl _) (.cons (.refl _) (.cons (.refl _) (.cons (.refl _) (.cons (.refl _) (.cons (.refl _) (.cons (.refl _) (.cons (.refl _) (.cons (.refl _) (.cons (.refl _) (.cons (.refl _) (.cons (.refl _) (.cons (.refl _) (.cons (.nsl rfl) .nil)))))))))))))))))))) ?_
             rw [hjz]
             rw [if_neg (by omega), List.append_nil] at hV
             cbv
             refine put18_c (fun _ => dn) (fun _ => s) (fun _ => zi j) hkids.1 ?_
             cbv
             simp only [hk, hkz]
             refine safe ⟨zi_nonneg _, zi_lt.2 ha1⟩ ?_
             refine put_rows Ino.ch Ino.z (F.nodes.set j X) { dn with kids := putD ⟨s, zi j⟩ dn.kids } (by show F.nodes.length = (F.nodes.set j X).length; rw [List.length_set]) (fun i hi => rfl) (by show k < (F.nodes.set j X).length; exact (by rw [List.length_set]; exact ha1)) rfl ?_
             have hwr : IntKind.i64.wrap (F.room - zi (n .o).data.length) = F.room - zi (n .o).data.length := by rw [IntKind.wrap_i64]; unfold zi; omega
             cbv
             simp only [hwr]
             exact ⟨_, .ret (.agg (.cons (Same.sl (n' := fun _ => ((F.nodes.set j X).set k { dn with kids := putD ⟨s, zi j⟩ dn.kids }).length) (g' := fun i => Ino.ch fun _ => ((F.nodes.set j X).set k { dn with kids := putD ⟨s, zi j⟩ dn.kids }).getD (i .o) Ino.z) (by show F.nodes.length = ((F.nodes.set j X).set k _).length; rw [List.length_set, List.length_set]) fun i hi => rfl) (.cons (.refl _) (.cons (.refl _) (.cons (.refl _) (.cons (.refl _) .nil)))))), hr (fun _ => ⟨(F.nodes.set j X).set k { dn with kids := putD ⟨s, zi j⟩ dn.kids }, F.room - zi (n .o).data.length, F.op, F.faults⟩) (fun _ => 0) hV.symm⟩
             done)
          | (have r1B : F.nodes.length ≤ j := r1
             obtain rfl : j = F.nodes.length := by omega
             refine br_is (decide_eq_true rfl) ?_
             cbv
             refine app_ino F.nodes X rfl (fun i hi => rfl) rfl (by rw [hXX]; exact SameM.cons (.refl _) (.cons (.refl _) (.cons (.refl _) (.cons (.refl _) (.cons (.refl _) (.cons (.refl _) (.cons (.refl _) (.cons (.refl _) (.cons (.refl _) (.cons (.refl _) (.cons (.refl _) (.cons (.refl _) (.cons (.refl _) (.cons (.refl _) (.cons (.refl _) (.cons (.refl _) (.cons (.refl _) (.cons (.refl _) (.cons (.refl _) (.cons (.nsl rfl) .nil)))))))))))))))))))) (by omega) ?_
             rw [if_pos rfl, set_snoc] at hV
             cbv
             refine put18_c (fun _ => dn) (fun _ => s) (fun _ => zi F.nodes.length) hkids.1 ?_
             cbv
             simp only [hk, hkz]
             refine safe ⟨zi_nonneg _, zi_lt.2 (by show k < (F.nodes ++ [X]).length; rw [List.length_append]; omega)⟩ ?_
             refine put_rows Ino.ch Ino.z (F.nodes ++ [X]) { dn with kids := putD ⟨s, zi F.nodes.length⟩ dn.kids } rfl (fun i hi => rfl) (by show k < (F.nodes ++ [X]).length; exact (by rw [List.length_append]; omega)) rfl ?_
             have hwr : IntKind.i64.wrap (F.room - zi (n .o).data.length) = F.room - zi (n .o).data.length := by rw [IntKind.wrap_i64]; unfold zi; omega
             cbv
             simp only [hwr]
             exact ⟨_, .ret (.agg (.cons (Same.sl (n' := fun _ => ((F.nodes ++ [X]).set k { dn with kids := putD ⟨s, zi F.nodes.length⟩ dn.kids }).length) (g' := fun i => Ino.ch fun _ => ((F.nodes ++ [X]).set k { dn with kids := putD ⟨s, zi F.nodes.length⟩ dn.kids }).getD (i .o) Ino.z) (by show (F.nodes ++ [X]).length = ((F.nodes ++ [X]).set k _).length; rw [List.length_set]) fun i hi => rfl) (.cons (.refl _) (.cons (.refl _) (.cons (.refl _) (.cons (.refl _) .nil)))))), hr (fun _ => ⟨(F.nodes ++ [X]).set k { dn with kids := putD ⟨s, zi F.nodes.length⟩ dn.kids }, F.room - zi (n .o).data.length, F.op, F.faults⟩) (fun _ => 0) hV.symm⟩
             done)
end Go.Proofs.YtkklflpfklbbcaaDoor
/- The program's file system: what Make wants. -/
namespace Go.Proofs.YtkklflpfklbbcaaDoor
open Go Go.Proofs.YtkklflpfklbbcaaDoor.Sx F
set_option linter.unusedVariables false
set_option linter.unusedSimpArgs false
theorem cloneI_of {xs : List AV} {d : Nat} {K : ARes → BL → Prop} (hn : xs.length = 1) (h : awp ⟨PT, 8, exitO PT slices_Clone_api_Inode_api_Inode.rs d K⟩ 10000 [.code slices_Clone_api_Inode_api_Inode.rc] ⟨params 0 xs, .nil, .nil⟩) : CallAt PT slices_Clone_api_Inode_api_Inode xs d .nil K :=
  call_of_awp_o 10000 Tryd.func52 rfl (by kernel_rfl) (by kernel_rfl) (by kernel_rfl) (by rw [hn]; decide) h
theorem cloneI_c (l : Th (List Ino)) (h0 : 0 < (l .o).length) (hl : (l .o).length ≤ 1000) {d : Nat} {K : ARes → BL → Prop} (hr : K (.ret (.row d)) (.cons d (rowB 20 Ino.ch Ino.z l) .nil)) : CallAt PT slices_Clone_api_Inode_api_Inode [inos l] d .nil K := by
  refine cloneI_of rfl ?_
  cbv
  intro b hb
  refine br_bool (fun h => ?_) (fun h => ?_)
  · exfalso
    have : (l .o).length = 0 := hb h
    omega
  · cbv
    refine app_rows0 Ino.ch Ino.z (l .o) rfl rfl (fun i hi => rfl) (by omega) ?_
    cbv
    exact hr
theorem cloneD_of {xs : List AV} {d : Nat} {K : ARes → BL → Prop} (hn : xs.length = 1) (h : awp ⟨PT, 8, exitO PT slices_Clone_api_Dirent_api_Dirent.rs d K⟩ 10000 [.code slices_Clone_api_Dirent_api_Dirent.rc] ⟨params 0 xs, .nil, .nil⟩) : CallAt PT slices_Clone_api_Dirent_api_Dirent xs d .nil K :=
  call_of_awp_o 10000 Tryd.func70 rfl (by kernel_rfl) (by kernel_rfl) (by kernel_rfl) (by rw [hn]; decide) h
theorem cloneD_c (l : Th (List Dent)) (hl : (l .o).length ≤ 1000) {d : Nat} {K : ARes → BL → Prop} (h0 : (l .o).length = 0 → K (.ret .nsl) .nil) (hr : K (.ret (.row d)) (.cons d (rowB 2 Dent.ch Dent.z l) .nil)) : CallAt PT slices_Clone_api_Dirent_api_Dirent [dents l] d .nil K := by
  refine cloneD_of rfl ?_
  cbv
  intro b hb
  refine br_bool (fun h => ?_) (fun h => ?_)
  · cbv
    exact h0 (hb h)
  · cbv
    refine app_rows0 Dent.ch Dent.z (l .o) rfl rfl (fun i hi => rfl) (by omega) ?_
    cbv
    exact hr
theorem power19_c (f : Th FS) (c : Th Cred) (p : Th Int) {d : Nat} {K : ARes → BL → Prop} (hr : ∀ b : Th Bool, b .o = decide (0 < band (c .o).powers (p .o)) → K (.ret (.bool b)) .nil) : CallAt PT fs_call_power [callI f c, .int .i64 p] d .nil K := by
  refine fs_call_power.of rfl rfl ?_
  cbv
  exact hr _ rfl
theorem mayWrite19_c (f : Th FS) (c : Th Cred) (k : Nat) (hf : FsOk (f .o)) (hk : k < (f .o).nodes.length) (hc : short (c .o).groups) {d : Nat} {K : ARes → BL → Prop} (hr : ∀ b : Th Bool, b .o = (CanS ((f .o).nodes.getD k Ino.z).mt (c .o) 3 && decide (band ((f .o).nodes.getD k Ino.z).mt.flags 1 = 0)) → K (.ret (.bool b)) .nil) : CallAt PT fs_call_mayWrite [callI f c, .int .i64 fun _ => zi k] d .nil K := by
  refine CallAt.res ?_
  refine fs_call_mayWrite.of rfl rfl ?_
  have hkz := zi_toNat k
  cbv
  refine can19_c f c k (fun _ => 3) hf hk hc fun b hb => ?_
  have hb : b .o = CanS ((f .o).nodes.getD k Ino.z).mt (c .o) 3 := hb
  cbv
  refine br_bool (fun h => ?_) (fun h => ?_)
  · cbv
    refine safe ⟨zi_nonneg _, zi_lt.2 hk⟩ ?_
    simp only [hkz]
    exact ⟨_, .ret (.refl _), hr _ (by rw [← hb, h]; rfl)⟩
  · cbv
    exact ⟨_, .ret (.ff rfl), hr (fun _ => false) (by rw [← hb, h]; rfl)⟩
end Go.Proofs.YtkklflpfklbbcaaDoor
/- The program's file system: a free node. -/
namespace Go.Proofs.YtkklflpfklbbcaaDoor
open Go Go.Proofs.YtkklflpfklbbcaaDoor.Sx F
set_option linter.unusedVariables false
set_option linter.unusedSimpArgs false
/-- Who asks, of what: to be changed; the nodes stand in row r. -/
def callC (f : Th FS) (c : Th Cred) (r : Nat) : AV := .cons (.row r) (.cons (.int .i64 fun _ => (f .o).room) (.cons (.int .i64 fun _ => (f .o).op) (.cons (ints fun _ => (f .o).faults)
  (.cons (.int .i64 fun _ => (c .o).uid) (.cons (.int .i64 fun _ => (c .o).gid) (.cons (ints fun _ => (c .o).groups) (.cons (.int .i64 fun _ => (c .o).powers) .nil)))))))
def callB (f : Th FS) (c : Th Cred) : BL := .cons 10000 (.cells (callC f c 10001)) (.cons 10001 (rowB 20 Ino.ch Ino.z fun _ => (f .o).nodes) .nil)
def usedS (l : List Ino) : Nat := l.countP fun n => !decide (n.kind = 0)
def fullS (l : List Ino) : List Ino := if freeS l = l.length then l ++ [Ino.z] else l
theorem freeS_le : ∀ l : List Ino, freeS l ≤ l.length
  | [] => Nat.le_refl _
  | n :: r => by
    have := freeS_le r
    unfold freeS
    split
    · exact Nat.zero_le _
    · simpa using this
theorem freeS_snoc : ∀ (l : List Ino) (n : Ino), freeS (l ++ [n]) = if freeS l < l.length then freeS l else if n.kind = 0 then l.length else l.length + 1
  | [], n => by simp [freeS]
  | x :: r, n => by
    have ih := freeS_snoc r n
    rw [List.cons_append]
    by_cases h : x.kind = 0
    · have e1 : ∀ q, freeS (x :: q) = 0 := fun q => by show (if x.kind = 0 then 0 else freeS q + 1) = 0; rw [if_pos h]
      rw [e1, e1, if_pos (by simp)]
    · have e1 : ∀ q, freeS (x :: q) = freeS q + 1 := fun q => by show (if x.kind = 0 then 0 else freeS q + 1) = _; rw [if_neg h]
      rw [e1, e1, ih, List.length_cons]
      by_cases h2 : freeS r < r.length
      · rw [if_pos h2, if_pos (show freeS r + 1 < r.length + 1 by omega)]
      · rw [if_neg h2, if_neg (show ¬ freeS r + 1 < r.length + 1 by omega)]
        by_cases h3 : n.kind = 0
        · rw [if_pos h3, if_pos h3]
        · rw [if_neg h3, if_neg h3]
/-- The first that is none among those that were seen. -/
def seenS (l : List Ino) : Int := if freeS l < l.length then zi (freeS l) else -1
theorem free19_c (f : Th FS) (c : Th Cred) (size : Th Int) (hf : FsOk (f .o)) {d : Nat} {K : ARes → BL → Prop}
    (h1 : usedS (f .o).nodes < 64 → size .o ≤ (f .o).room → K (.ret (.int .i64 fun _ => zi (freeS (f .o).nodes))) (.cons 10000 (.cells (callC f c 10001)) (.cons 10001 (rowB 20 Ino.ch Ino.z fun _ => fullS (f .o).nodes) .nil)))
    (h2 : ¬ (usedS (f .o).nodes < 64 ∧ size .o ≤ (f .o).room) → K (.pan (failV fun _ => 9)) (callB f c)) : CallAt PT fs_call_free [.ptr 10000 0, .int .i64 size] d (callB f c) K := by
  refine fs_call_free.of rfl rfl ?_
  have hfew := hf.few
  cbv
  refine loop_at (X := Nat) 1000 [0, 1, 13, 14] [10000, 10001] (fun _ k => .cons 5 (.int .i64 fun _ => zi (usedS ((f .o).nodes.take k))) (.cons 6 (.int .i64 fun _ => seenS ((f .o).nodes.take k)) (.cons 15 (.int .i64 fun _ => zi k) .nil))) (fun _ _ => .nil) (fun k => k ≤ (f .o).nodes.length) (fun k => (f .o).nodes.length - k) 0 ?_ (Nat.zero_le _) ?_
  · cbv
    (repeat' (first | exact True.intro | exact Same.refl _ | exact SameB.refl _ | exact ⟨rfl⟩ | exact Same.int rfl | exact Same.str rfl | exact Same.bool rfl | (refine Same.int ?_; simp only [List.length_append, List.length_cons, List.length_nil, zi]; omega) | (refine SameB.row' rfl fun i hi => ?_; first | rfl | exact absurd hi (Nat.not_lt_zero _)) | refine And.intro ?_ ?_ | refine SameB.cells ?_ | exact SameC.nil | refine SameC.cons ?_ ?_ | exact Same.nsl rfl | exact Same.tt rfl | exact Same.ff rfl))
  · intro k hk
    have hk : k ≤ (f .o).nodes.length := hk
    have hkz := zi_toNat k
    cbv
    refine br_zlt (fun r1 => ?_) (fun r1 => ?_)
    · have r1 : k < (f .o).nodes.length := r1
      have htk : ((f .o).nodes.take k).length = k := by rw [List.length_take]; omega
      have hts : (f .o).nodes.take (k + 1) = (f .o).nodes.take k ++ [(f .o).nodes.getD k Ino.z] := by
        rw [List.take_succ_eq_append_getElem r1, List.getD_eq_getElem?_getD, List.getElem?_eq_getElem r1]
        rfl
      have hu : usedS ((f .o).nodes.take (k + 1)) = usedS ((f .o).nodes.take k) + if ((f .o).nodes.getD k Ino.z).kind = 0 then 0 else 1 := by
        rw [hts]
        unfold usedS
        rw [List.countP_append, List.countP_singleton]
        split <;> simp_all
      have hul : usedS ((f .o).nodes.take k) ≤ k := Nat.le_trans List.countP_le_length (by omega)
      have hs : seenS ((f .o).nodes.take (k + 1)) = if seenS ((f .o).nodes.take k) < 0 ∧ ((f .o).nodes.getD k Ino.z).kind = 0 then zi k else seenS ((f .o).nodes.take k) := by
        have hfl := freeS_le ((f .o).nodes.take k)
        rw [hts]
        unfold seenS
        rw [freeS_snoc, List.length_append, htk]
        rw [htk] at hfl
        simp only [List.length_cons, List.length_nil]
        unfold zi
        split <;> (try split) <;> (try split) <;> (try split) <;> (try split) <;> simp_all <;> omega
      generalize hN : (f .o).nodes.getD k Ino.z = n at hts hu hs
      have hzs : IntKind.i64.wrap (zi k + 1) = zi (k + 1) := zi_succ (by omega)
      have hus : IntKind.i64.wrap (zi (usedS ((f .o).nodes.take k)) + 1) = zi (usedS ((f .o).nodes.take k) + 1) := zi_succ (by omega)
      cbv
      refine safe ⟨zi_nonneg _, zi_lt.2 r1⟩ ?_
      refine safe (by show (zi k).toNat < (f .o).nodes.length; rw [hkz]; exact r1) ?_
      refine br_ndec (fun r2 => ?_) (fun r2 => ?_)
      · have r2 : ¬ n.kind = 0 := by
          have r2 : ¬ ((f .o).nodes.getD (zi k).toNat Ino.z).kind = 0 := r2
          rwa [hkz, hN] at r2
        rw [if_neg r2] at hu
        rw [if_neg (fun q => r2 q.2)] at hs
        cbv
        refine ⟨k + 1, r1, by show (f .o).nodes.length - (k + 1) < (f .o).nodes.length - k; omega, ?_⟩
        cbv
        rw [hu, hs]
        simp only [hzs, hus]
        (repeat' (first | exact True.intro | exact Same.refl _ | exact SameB.refl _ | exact ⟨rfl⟩ | exact Same.int rfl | exact Same.str rfl | exact Same.bool rfl | (refine Same.int ?_; simp only [List.length_append, List.length_cons, List.length_nil, zi]; omega) | (refine SameB.row' rfl fun i hi => ?_; first | rfl | exact absurd hi (Nat.not_lt_zero _)) | refine And.intro ?_ ?_ | refine SameB.cells ?_ | exact SameC.nil | refine SameC.cons ?_ ?_ | exact Same.nsl rfl | exact Same.tt rfl | exact Same.ff rfl))
      · have r2 : n.kind = 0 := by
          have r2 : ((f .o).nodes.getD (zi k).toNat Ino.z).kind = 0 := r2
          rwa [hkz, hN] at r2
        rw [if_pos r2, Nat.add_zero] at hu
        cbv
        refine br_dec (fun r3 => ?_) (fun r3 => ?_)
        · have r3 : seenS ((f .o).nodes.take k) < 0 := r3
          rw [if_pos ⟨r3, r2⟩] at hs
          cbv
          refine ⟨k + 1, r1, by show (f .o).nodes.length - (k + 1) < (f .o).nodes.length - k; omega, ?_⟩
          cbv
          rw [hu, hs]
          simp only [hzs]
          (repeat' (first | exact True.intro | exact Same.refl _ | exact SameB.refl _ | exact ⟨rfl⟩ | exact Same.int rfl | exact Same.str rfl | exact Same.bool rfl | (refine Same.int ?_; simp only [List.length_append, List.length_cons, List.length_nil, zi]; omega) | (refine SameB.row' rfl fun i hi => ?_; first | rfl | exact absurd hi (Nat.not_lt_zero _)) | refine And.intro ?_ ?_ | refine SameB.cells ?_ | exact SameC.nil | refine SameC.cons ?_ ?_ | exact Same.nsl rfl | exact Same.tt rfl | exact Same.ff rfl))
        · have r3 : ¬ seenS ((f .o).nodes.take k) < 0 := r3
          rw [if_neg (fun q => r3 q.1)] at hs
          cbv
          refine ⟨k + 1, r1, by show (f .o).nodes.length - (k + 1) < (f .o).nodes.length - k; omega, ?_⟩
          cbv
          rw [hu, hs]
          simp only [hzs]
          (repeat' (first | exact True.intro | exact Same.refl _ | exact SameB.refl _ | exact ⟨rfl⟩ | exact Same.int rfl | exact Same.str rfl | exact Same.bool rfl | (refine Same.int ?_; simp only [List.length_append, List.length_cons, List.length_nil, zi]; omega) | (refine SameB.row' rfl fun i hi => ?_; first | rfl | exact absurd hi (Nat.not_lt_zero _)) | refine And.intro ?_ ?_ | refine SameB.cells ?_ | exact SameC.nil | refine SameC.cons ?_ ?_ | exact Same.nsl rfl | exact Same.tt rfl | exact Same.ff rfl))
    · have r1 : (f .o).nodes.length ≤ k := r1
      rw [List.take_of_length_le r1]
      have hfl := freeS_le (f .o).nodes
      cbv
      refine br_dec (fun r2 => ?_) (fun r2 => ?_)
      · have r2 : usedS (f .o).nodes < 64 := by have r2 : zi (usedS (f .o).nodes) < 64 := r2; unfold zi at r2; omega
        cbv
        refine mustF_c (fun _ => decide (size .o ≤ (f .o).room)) (fun _ => 9) (fun r3 => ?_) (fun r3 => ?_)
        rotate_left
        · have r3 : ¬ size .o ≤ (f .o).room := of_decide_eq_false r3
          cbv
          exact h2 fun q => r3 q.2
        have r3 : size .o ≤ (f .o).room := of_decide_eq_true r3
        cbv
        refine br_dec (fun r4 => ?_) (fun r4 => ?_)
        · have r4 : seenS (f .o).nodes < 0 := r4
          have e : freeS (f .o).nodes = (f .o).nodes.length := by
            unfold seenS at r4
            split at r4
            · unfold zi at r4; omega
            · omega
          have h1 := h1 r2 r3
          unfold fullS at h1
          rw [if_pos e, e] at h1
          cbv
          refine app_ino (f .o).nodes Ino.z rfl (fun i hi => rfl) rfl ?_ (by omega) ?_
          · exact .cons (.refl _) (.cons (.refl _) (.cons (.refl _) (.cons (.refl _) (.cons (.refl _) (.cons (.refl _) (.cons (.nsl rfl) (.cons (.nsl rfl) (.cons (.nsl rfl) (.cons (.refl _) (.cons (.refl _) (.cons (.refl _) (.cons (.ff rfl) (.cons (.refl _) (.cons (.refl _) (.cons (.refl _) (.cons (.refl _) (.cons (.refl _) (.cons (.refl _) (.cons (.nsl rfl) .nil)))))))))))))))))))
          · cbv
            exact h1
        · have r4 : ¬ seenS (f .o).nodes < 0 := r4
          have hlt : freeS (f .o).nodes < (f .o).nodes.length := by
            unfold seenS at r4
            split at r4
            · assumption
            · exact absurd (by decide) r4
          have e : seenS (f .o).nodes = zi (freeS (f .o).nodes) := by unfold seenS; rw [if_pos hlt]
          have h1 := h1 r2 r3
          unfold fullS at h1
          rw [if_neg (by omega), ← e] at h1
          cbv
          exact h1
      · have r2 : ¬ usedS (f .o).nodes < 64 := fun q => r2 (by show zi (usedS (f .o).nodes) < 64; unfold zi; omega)
        cbv
        refine CallAt.args (.cons (Same.ff rfl) (.cons (Same.refl _) .nil)) (mustF_c (fun _ => false) (fun _ => 9) (fun h => by cases h) (fun _ => ?_))
        cbv
        exact h2 fun q => r2 q.1
end Go.Proofs.YtkklflpfklbbcaaDoor
/- The program's file system: what may be made. -/
namespace Go.Proofs.YtkklflpfklbbcaaDoor
open Go Go.Proofs.YtkklflpfklbbcaaDoor.Sx F
set_option linter.unusedVariables false
set_option linter.unusedSimpArgs false
theorem parts19_c (n : Th Ino) (hk : (n .o).kind ≠ 2) {d : Nat} {K : ARes → BL → Prop} (hr : ∀ b : Th Bool, (b .o = true ↔ Body (n .o).kind (n .o).data (n .o).target (n .o).major (n .o).minor) → K (.ret (.bool b)) .nil) : CallAt PT fs_mayParts [Ino.av n] d .nil K := by
  refine CallAt.res ?_
  refine fs_mayParts.of rfl rfl ?_
  cbv
  refine go_on 1000 ?_
  cbv
  refine cut_rule (X := Th Bool) 1000 1000 [1, 2] [1] (fun b => .cons 3 (.bool b) .nil) (fun _ => .nil) (fun b => b .o = true ↔ (n .o).kind = 4 ∨ (n .o).kind = 5) ?_ fun b3 hb3 => ?_
  · cbv
    refine ⟨fun h => ?_, fun h => ?_⟩
    · have h : ¬ (n .o).kind = 4 := of_decide_eq_false h
      cbv
      refine ⟨fun _ => decide ((n .o).kind = 5), ?_, ?_⟩
      · show decide _ = true ↔ _
        rw [decide_eq_true_eq]; omega
      · cbv
        (repeat' (first | exact True.intro | exact Same.refl _ | exact SameB.refl _ | exact ⟨rfl⟩ | exact Same.int rfl | exact Same.str rfl | exact Same.bool rfl | (refine Same.int ?_; simp only [List.length_append, List.length_cons, List.length_nil, zi]; omega) | (refine SameB.row' rfl fun i hi => ?_; first | rfl | exact absurd hi (Nat.not_lt_zero _)) | refine And.intro ?_ ?_ | refine SameB.cells ?_ | exact SameC.nil | refine SameC.cons ?_ ?_ | exact Same.nsl rfl | exact Same.tt rfl | exact Same.ff rfl))
    · have h : (n .o).kind = 4 := of_decide_eq_true h
      cbv
      refine ⟨fun _ => true, by simp [h], ?_⟩
      cbv
      (repeat' (first | exact True.intro | exact Same.refl _ | exact SameB.refl _ | exact ⟨rfl⟩ | exact Same.int rfl | exact Same.str rfl | exact Same.bool rfl | (refine Same.int ?_; simp only [List.length_append, List.length_cons, List.length_nil, zi]; omega) | (refine SameB.row' rfl fun i hi => ?_; first | rfl | exact absurd hi (Nat.not_lt_zero _)) | refine And.intro ?_ ?_ | refine SameB.cells ?_ | exact SameC.nil | refine SameC.cons ?_ ?_ | exact Same.nsl rfl | exact Same.tt rfl | exact Same.ff rfl))
  cbv
  refine cut_rule (X := Th Bool) 1000 1000 [1, 2, 3] [1] (fun b => .cons 4 (.bool b) .nil) (fun _ => .nil) (fun b => b .o = true ↔ (0 ≤ (n .o).major ∧ (n .o).major ≤ 2097151) ∧ (0 ≤ (n .o).minor ∧ (n .o).minor ≤ 2097151) ∧ ((n .o).kind = 4 ∨ (n .o).kind = 5 ∨ (n .o).major + (n .o).minor = 0)) ?_ fun b4 hb4 => ?_
  · cbv
    refine br_dec (fun h1 => ?_) (fun h1 => ?_)
    · have h1 : 0 ≤ (n .o).major ∧ 0 ≤ (n .o).minor := by
        have h1 : 0 ≤ if (n .o).minor < (n .o).major then (n .o).minor else (n .o).major := h1
        split at h1 <;> omega
      cbv
      refine br_dec (fun h2 => ?_) (fun h2 => ?_)
      · have h2 : (n .o).major ≤ 2097151 ∧ (n .o).minor ≤ 2097151 := by
          have h2 : (if (n .o).major < (n .o).minor then (n .o).minor else (n .o).major) ≤ 2097151 := h2
          split at h2 <;> omega
        cbv
        refine ⟨fun h3 => ?_, fun h3 => ?_⟩
        · have h3 : ¬ ((n .o).kind = 4 ∨ (n .o).kind = 5) := fun q => by rw [hb3.2 q] at h3; cases h3
          cbv
          refine br_dec (fun h4 => ?_) (fun h4 => ?_)
          · have h4 : (n .o).major = 0 := h4
            cbv
            refine ⟨fun _ => decide ((n .o).minor = 0), ?_, ?_⟩
            · show decide _ = true ↔ _
              rw [decide_eq_true_eq]; omega
            · cbv
              (repeat' (first | exact True.intro | exact Same.refl _ | exact SameB.refl _ | exact ⟨rfl⟩ | exact Same.int rfl | exact Same.str rfl | exact Same.bool rfl | (refine Same.int ?_; simp only [List.length_append, List.length_cons, List.length_nil, zi]; omega) | (refine SameB.row' rfl fun i hi => ?_; first | rfl | exact absurd hi (Nat.not_lt_zero _)) | refine And.intro ?_ ?_ | refine SameB.cells ?_ | exact SameC.nil | refine SameC.cons ?_ ?_ | exact Same.nsl rfl | exact Same.tt rfl | exact Same.ff rfl))
          · have h4 : ¬ (n .o).major = 0 := h4
            cbv
            refine ⟨fun _ => false, iff_of_false (by simp) (fun q => by omega), ?_⟩
            cbv
            (repeat' (first | exact True.intro | exact Same.refl _ | exact SameB.refl _ | exact ⟨rfl⟩ | exact Same.int rfl | exact Same.str rfl | exact Same.bool rfl | (refine Same.int ?_; simp only [List.length_append, List.length_cons, List.length_nil, zi]; omega) | (refine SameB.row' rfl fun i hi => ?_; first | rfl | exact absurd hi (Nat.not_lt_zero _)) | refine And.intro ?_ ?_ | refine SameB.cells ?_ | exact SameC.nil | refine SameC.cons ?_ ?_ | exact Same.nsl rfl | exact Same.tt rfl | exact Same.ff rfl))
        · have h3 : (n .o).kind = 4 ∨ (n .o).kind = 5 := hb3.1 h3
          cbv
          refine ⟨fun _ => true, iff_of_true rfl ⟨by omega, by omega, by omega⟩, ?_⟩
          cbv
          (repeat' (first | exact True.intro | exact Same.refl _ | exact SameB.refl _ | exact ⟨rfl⟩ | exact Same.int rfl | exact Same.str rfl | exact Same.bool rfl | (refine Same.int ?_; simp only [List.length_append, List.length_cons, List.length_nil, zi]; omega) | (refine SameB.row' rfl fun i hi => ?_; first | rfl | exact absurd hi (Nat.not_lt_zero _)) | refine And.intro ?_ ?_ | refine SameB.cells ?_ | exact SameC.nil | refine SameC.cons ?_ ?_ | exact Same.nsl rfl | exact Same.tt rfl | exact Same.ff rfl))
      · have h2 : ¬ ((n .o).major ≤ 2097151 ∧ (n .o).minor ≤ 2097151) := fun q => h2 (by
          show (if (n .o).major < (n .o).minor then (n .o).minor else (n .o).major) ≤ 2097151
          split <;> omega)
        cbv
        refine ⟨fun _ => false, iff_of_false (by simp) (fun q => by omega), ?_⟩
        cbv
        (repeat' (first | exact True.intro | exact Same.refl _ | exact SameB.refl _ | exact ⟨rfl⟩ | exact Same.int rfl | exact Same.str rfl | exact Same.bool rfl | (refine Same.int ?_; simp only [List.length_append, List.length_cons, List.length_nil, zi]; omega) | (refine SameB.row' rfl fun i hi => ?_; first | rfl | exact absurd hi (Nat.not_lt_zero _)) | refine And.intro ?_ ?_ | refine SameB.cells ?_ | exact SameC.nil | refine SameC.cons ?_ ?_ | exact Same.nsl rfl | exact Same.tt rfl | exact Same.ff rfl))
    · have h1 : ¬ (0 ≤ (n .o).major ∧ 0 ≤ (n .o).minor) := fun q => h1 (by
        show 0 ≤ if (n .o).minor < (n .o).major then (n .o).minor else (n .o).major
        split <;> omega)
      cbv
      refine ⟨fun _ => false, iff_of_false (by simp) (fun q => by omega), ?_⟩
      cbv
      (repeat' (first | exact True.intro | exact Same.refl _ | exact SameB.refl _ | exact ⟨rfl⟩ | exact Same.int rfl | exact Same.str rfl | exact Same.bool rfl | (refine Same.int ?_; simp only [List.length_append, List.length_cons, List.length_nil, zi]; omega) | (refine SameB.row' rfl fun i hi => ?_; first | rfl | exact absurd hi (Nat.not_lt_zero _)) | refine And.intro ?_ ?_ | refine SameB.cells ?_ | exact SameC.nil | refine SameC.cons ?_ ?_ | exact Same.nsl rfl | exact Same.tt rfl | exact Same.ff rfl))
  cbv
  refine cut_rule (X := Th Bool) 1000 1000 [1, 2, 4] [1] (fun b => .cons 5 (.bool b) .nil) (fun _ => .nil) (fun b => b .o = true ↔ (n .o).data.length ≤ 65536 ∧ ((n .o).kind = 1 ∨ (n .o).data = [])) ?_ fun b5 hb5 => ?_
  · cbv
    refine ⟨fun h1 => ?_, fun h1 => ?_⟩
    · have h1 : ¬ (n .o).data = [] := of_decide_eq_false h1
      cbv
      refine br_dec (fun h2 => ?_) (fun h2 => ?_)
      · have h2 : (n .o).kind = 1 := h2
        cbv
        refine ⟨fun _ => decide (zi (n .o).data.length ≤ 65536), ?_, ?_⟩
        · show decide _ = true ↔ _
          rw [decide_eq_true_eq]
          unfold zi
          exact ⟨fun q => ⟨by omega, .inl h2⟩, fun q => by have := q.1; omega⟩
        · cbv
          (repeat' (first | exact True.intro | exact Same.refl _ | exact SameB.refl _ | exact ⟨rfl⟩ | exact Same.int rfl | exact Same.str rfl | exact Same.bool rfl | (refine Same.int ?_; simp only [List.length_append, List.length_cons, List.length_nil, zi]; omega) | (refine SameB.row' rfl fun i hi => ?_; first | rfl | exact absurd hi (Nat.not_lt_zero _)) | refine And.intro ?_ ?_ | refine SameB.cells ?_ | exact SameC.nil | refine SameC.cons ?_ ?_ | exact Same.nsl rfl | exact Same.tt rfl | exact Same.ff rfl))
      · have h2 : ¬ (n .o).kind = 1 := h2
        cbv
        refine ⟨fun _ => false, iff_of_false (by simp) (fun q => q.2.elim h2 h1), ?_⟩
        cbv
        (repeat' (first | exact True.intro | exact Same.refl _ | exact SameB.refl _ | exact ⟨rfl⟩ | exact Same.int rfl | exact Same.str rfl | exact Same.bool rfl | (refine Same.int ?_; simp only [List.length_append, List.length_cons, List.length_nil, zi]; omega) | (refine SameB.row' rfl fun i hi => ?_; first | rfl | exact absurd hi (Nat.not_lt_zero _)) | refine And.intro ?_ ?_ | refine SameB.cells ?_ | exact SameC.nil | refine SameC.cons ?_ ?_ | exact Same.nsl rfl | exact Same.tt rfl | exact Same.ff rfl))
    · have h1 : (n .o).data = [] := of_decide_eq_true h1
      cbv
      refine ⟨fun _ => true, iff_of_true rfl ⟨by rw [h1]; exact Nat.zero_le _, .inr h1⟩, ?_⟩
      cbv
      (repeat' (first | exact True.intro | exact Same.refl _ | exact SameB.refl _ | exact ⟨rfl⟩ | exact Same.int rfl | exact Same.str rfl | exact Same.bool rfl | (refine Same.int ?_; simp only [List.length_append, List.length_cons, List.length_nil, zi]; omega) | (refine SameB.row' rfl fun i hi => ?_; first | rfl | exact absurd hi (Nat.not_lt_zero _)) | refine And.intro ?_ ?_ | refine SameB.cells ?_ | exact SameC.nil | refine SameC.cons ?_ ?_ | exact Same.nsl rfl | exact Same.tt rfl | exact Same.ff rfl))
  cbv
  refine go_on 1000 ?_
  cbv
  refine go_on 1000 ?_
  cbv
  refine br_dec (fun h6 => ?_) (fun h6 => ?_)
  · have h6 : (n .o).kind = 3 := h6
    cbv
    refine cut_rule (X := Th Bool) 1000 1000 [1, 2, 4, 5] [1] (fun b => .cons 6 (.bool b) .nil) (fun _ => .nil) (fun b => b .o = true ↔ (n .o).target ≠ [] ∧ (n .o).target.length ≤ 4096 ∧ ¬ (0 : UInt8) ∈ (n .o).target) ?_ fun b6 hb6 => ?_
    · cbv
      refine br_ndec (fun h7 => ?_) (fun h7 => ?_)
      · have h7 : ¬ (n .o).target = [] := h7
        cbv
        refine br_dec (fun h8 => ?_) (fun h8 => ?_)
        · have h8 : (n .o).target.length ≤ 4096 := by have h8 : zi (n .o).target.length ≤ 4096 := h8; unfold zi at h8; omega
          cbv
          refine contains1_c (fun _ => (n .o).target) 0 fun b7 hb7 => ?_
          have hb7 : b7 .o = decide ((0 : UInt8) ∈ (n .o).target) := hb7
          cbv
          refine ⟨fun _ => !b7 .o, ?_, ?_⟩
          · show (!b7 .o) = true ↔ _
            rw [hb7]
            simp [h7, h8]
          · cbv
            (repeat' (first | exact True.intro | exact Same.refl _ | exact SameB.refl _ | exact ⟨rfl⟩ | exact Same.int rfl | exact Same.str rfl | exact Same.bool rfl | (refine Same.int ?_; simp only [List.length_append, List.length_cons, List.length_nil, zi]; omega) | (refine SameB.row' rfl fun i hi => ?_; first | rfl | exact absurd hi (Nat.not_lt_zero _)) | refine And.intro ?_ ?_ | refine SameB.cells ?_ | exact SameC.nil | refine SameC.cons ?_ ?_ | exact Same.nsl rfl | exact Same.tt rfl | exact Same.ff rfl))
        · have h8 : ¬ (n .o).target.length ≤ 4096 := fun q => h8 (by show zi (n .o).target.length ≤ 4096; unfold zi; omega)
          cbv
          refine ⟨fun _ => false, iff_of_false (by simp) (fun q => h8 q.2.1), ?_⟩
          cbv
          (repeat' (first | exact True.intro | exact Same.refl _ | exact SameB.refl _ | exact ⟨rfl⟩ | exact Same.int rfl | exact Same.str rfl | exact Same.bool rfl | (refine Same.int ?_; simp only [List.length_append, List.length_cons, List.length_nil, zi]; omega) | (refine SameB.row' rfl fun i hi => ?_; first | rfl | exact absurd hi (Nat.not_lt_zero _)) | refine And.intro ?_ ?_ | refine SameB.cells ?_ | exact SameC.nil | refine SameC.cons ?_ ?_ | exact Same.nsl rfl | exact Same.tt rfl | exact Same.ff rfl))
      · have h7 : (n .o).target = [] := h7
        cbv
        refine ⟨fun _ => false, iff_of_false (by simp) (fun q => q.1 h7), ?_⟩
        cbv
        (repeat' (first | exact True.intro | exact Same.refl _ | exact SameB.refl _ | exact ⟨rfl⟩ | exact Same.int rfl | exact Same.str rfl | exact Same.bool rfl | (refine Same.int ?_; simp only [List.length_append, List.length_cons, List.length_nil, zi]; omega) | (refine SameB.row' rfl fun i hi => ?_; first | rfl | exact absurd hi (Nat.not_lt_zero _)) | refine And.intro ?_ ?_ | refine SameB.cells ?_ | exact SameC.nil | refine SameC.cons ?_ ?_ | exact Same.nsl rfl | exact Same.tt rfl | exact Same.ff rfl))
    cbv
    refine go_on 1000 ?_
    cbv
    refine br_bool (fun g1 => ?_) (fun g1 => ?_)
    · have g1 := hb4.1 g1
      cbv
      refine br_bool (fun g2 => ?_) (fun g2 => ?_)
      · have g2 := hb5.1 g2
        cbv
        exact ⟨_, .ret (.refl _), hr b6 (hb6.trans ⟨fun q => ⟨g2.1, g2.2, g1.1, g1.2.1, g1.2.2, fun _ => q, fun w => (w h6).elim⟩, fun q => q.link h6⟩)⟩
      · have g2 : ¬ _ := fun q => by rw [hb5.2 q] at g2; cases g2
        cbv
        exact ⟨_, .ret (.ff rfl), hr (fun _ => false) ⟨fun q => (by cases q), fun q => (g2 ⟨q.len, q.file⟩).elim⟩⟩
    · have g1 : ¬ _ := fun q => by rw [hb4.2 q] at g1; cases g1
      cbv
      exact ⟨_, .ret (.ff rfl), hr (fun _ => false) ⟨fun q => (by cases q), fun q => (g1 ⟨q.big, q.small, q.dev⟩).elim⟩⟩
  · have h6 : ¬ (n .o).kind = 3 := h6
    cbv
    refine go_on 1000 ?_
    cbv
    refine br_bool (fun g1 => ?_) (fun g1 => ?_)
    · have g1 := hb4.1 g1
      cbv
      refine br_bool (fun g2 => ?_) (fun g2 => ?_)
      · have g2 := hb5.1 g2
        cbv
        exact ⟨_, .ret (.refl _), hr (fun _ => decide ((n .o).target = [])) ((by show decide _ = true ↔ _; rw [decide_eq_true_eq]; exact ⟨fun q => ⟨g2.1, g2.2, g1.1, g1.2.1, g1.2.2, fun w => (h6 w).elim, fun _ => q⟩, fun q => q.none h6⟩))⟩
      · have g2 : ¬ _ := fun q => by rw [hb5.2 q] at g2; cases g2
        cbv
        exact ⟨_, .ret (.ff rfl), hr (fun _ => false) ⟨fun q => (by cases q), fun q => (g2 ⟨q.len, q.file⟩).elim⟩⟩
    · have g1 : ¬ _ := fun q => by rw [hb4.2 q] at g1; cases g1
      cbv
      exact ⟨_, .ret (.ff rfl), hr (fun _ => false) ⟨fun q => (by cases q), fun q => (g1 ⟨q.big, q.small, q.dev⟩).elim⟩⟩
theorem mayMake19_c (n : Th Ino) {d : Nat} {K : ARes → BL → Prop} (hr : ∀ b : Th Bool, b .o = mayMk (n .o) → K (.ret (.bool b)) .nil) : CallAt PT fs_mayMake [Ino.av n] d .nil K := by
  refine CallAt.res ?_
  have no : mayMk (n .o) = false → ∃ r', SameR (.ret .ff) r' ∧ K r' .nil := fun h => ⟨_, .ret (.ff rfl), hr (fun _ => false) h.symm⟩
  refine fs_mayMake.of rfl rfl ?_
  cbv
  refine go_on 1000 ?_
  cbv
  refine cut_rule (X := Th Bool) 1000 1000 [1, 2] [1] (fun b => .cons 3 (.bool b) .nil) (fun _ => .nil) (fun b => b .o = true ↔ (n .o).kind ≠ 2 ∧ 1 ≤ (n .o).kind ∧ (n .o).kind ≤ 7) ?_ fun b3 hb3 => ?_
  · cbv
    refine ⟨fun h1 => ?_, fun h1 => ?_⟩
    · have h1 : ¬ (n .o).kind = 1 := of_decide_eq_false h1
      cbv
      refine br_dec (fun h2 => ?_) (fun h2 => ?_)
      · have h2 : 3 ≤ (n .o).kind := h2
        cbv
        refine ⟨fun _ => decide ((n .o).kind ≤ 7), ?_, ?_⟩
        · show decide _ = true ↔ _
          rw [decide_eq_true_eq]; omega
        · cbv
          (repeat' (first | exact True.intro | exact Same.refl _ | exact SameB.refl _ | exact ⟨rfl⟩ | exact Same.int rfl | exact Same.str rfl | exact Same.bool rfl | (refine Same.int ?_; simp only [List.length_append, List.length_cons, List.length_nil, zi]; omega) | (refine SameB.row' rfl fun i hi => ?_; first | rfl | exact absurd hi (Nat.not_lt_zero _)) | refine And.intro ?_ ?_ | refine SameB.cells ?_ | exact SameC.nil | refine SameC.cons ?_ ?_ | exact Same.nsl rfl | exact Same.tt rfl | exact Same.ff rfl))
      · have h2 : ¬ 3 ≤ (n .o).kind := h2
        cbv
        refine ⟨fun _ => false, iff_of_false (by simp) (fun q => by omega), ?_⟩
        cbv
        (repeat' (first | exact True.intro | exact Same.refl _ | exact SameB.refl _ | exact ⟨rfl⟩ | exact Same.int rfl | exact Same.str rfl | exact Same.bool rfl | (refine Same.int ?_; simp only [List.length_append, List.length_cons, List.length_nil, zi]; omega) | (refine SameB.row' rfl fun i hi => ?_; first | rfl | exact absurd hi (Nat.not_lt_zero _)) | refine And.intro ?_ ?_ | refine SameB.cells ?_ | exact SameC.nil | refine SameC.cons ?_ ?_ | exact Same.nsl rfl | exact Same.tt rfl | exact Same.ff rfl))
    · have h1 : (n .o).kind = 1 := of_decide_eq_true h1
      cbv
      refine ⟨fun _ => true, iff_of_true rfl ⟨by omega, by omega, by omega⟩, ?_⟩
      cbv
      (repeat' (first | exact True.intro | exact Same.refl _ | exact SameB.refl _ | exact ⟨rfl⟩ | exact Same.int rfl | exact Same.str rfl | exact Same.bool rfl | (refine Same.int ?_; simp only [List.length_append, List.length_cons, List.length_nil, zi]; omega) | (refine SameB.row' rfl fun i hi => ?_; first | rfl | exact absurd hi (Nat.not_lt_zero _)) | refine And.intro ?_ ?_ | refine SameB.cells ?_ | exact SameC.nil | refine SameC.cons ?_ ?_ | exact Same.nsl rfl | exact Same.tt rfl | exact Same.ff rfl))
  cbv
  refine go_on 1000 ?_
  cbv
  refine br_bool (fun h1 => ?_) (fun h1 => ?_)
  rotate_left
  · have h1 : ¬ ((n .o).kind ≠ 2 ∧ 1 ≤ (n .o).kind ∧ (n .o).kind ≤ 7) := fun q => by rw [hb3.2 q] at h1; cases h1
    cbv
    refine no ?_
    unfold mayMk
    by_cases q1 : (n .o).kind = 2
    · simp [q1]
    · by_cases q2 : (n .o).kind < 1
      · simp [q2]
      · simp [show 7 < (n .o).kind by omega]
  have h1 := hb3.1 h1
  cbv
  refine br_dec (fun h2 => ?_) (fun h2 => ?_)
  rotate_left
  · have h2 : (n .o).mt.mode < 0 := by have h2 : ¬ 0 ≤ (n .o).mt.mode := h2; omega
    cbv
    exact no (by unfold mayMk; simp [h2])
  have h2 : 0 ≤ (n .o).mt.mode := h2
  cbv
  refine br_dec (fun h3 => ?_) (fun h3 => ?_)
  rotate_left
  · have h3 : 4095 < (n .o).mt.mode := by have h3 : ¬ (n .o).mt.mode ≤ 4095 := h3; omega
    cbv
    exact no (by unfold mayMk; simp [h3])
  have h3 : (n .o).mt.mode ≤ 4095 := h3
  cbv
  refine parts19_c n h1.1 fun b hb => ?_
  have hb : b .o = bodyS (n .o).kind (n .o).data (n .o).target (n .o).major (n .o).minor := Bool.eq_iff_iff.2 (hb.trans bodyS_iff.symm)
  cbv
  exact ⟨_, .ret (.refl _), hr b (by
    rw [hb]
    unfold mayMk
    simp [h1.1, show ¬ (n .o).kind < 1 by omega, show ¬ 7 < (n .o).kind by omega, show ¬ (n .o).mt.mode < 0 by omega, show ¬ 4095 < (n .o).mt.mode by omega])⟩
theorem above19_c (f : Th FS) (c : Th Cred) (p : Th (List UInt8)) (l : List (List UInt8)) (hW : Walk (f .o) (c .o)) (hp : (p .o).length ≤ 100000) (hl : partsS (p .o) = some l) (hl0 : 0 < l.length) {d : Nat} {K : ARes → BL → Prop}
    (h1 : ∀ n : Nat, downS (f .o) (c .o) l.dropLast 0 = (zi n, 0) → n < (f .o).nodes.length → K (.ret (.tup (.cons (.int .i64 fun _ => zi n) (.cons (.str fun _ => l.getD (l.length - 1) []) .nil)))) .nil)
    (h2 : ∀ e : Th Int, downS (f .o) (c .o) l.dropLast 0 = (0, e .o) → e .o ≠ 0 → K (.pan (failV e)) .nil) : CallAt PT fs_call_above [callI f c, .str p] d .nil K := by
  refine CallAt.res ?_
  refine fs_call_above.of rfl rfl ?_
  have hl64 := parts_len hl
  have hw : IntKind.i64.wrap (zi l.length - 1) = zi (l.length - 1) := by rw [IntKind.wrap_i64]; unfold zi; omega
  have hwz := zi_toNat (l.length - 1)
  have hdl : l.dropLast.length = l.length - 1 := List.length_dropLast
  cbv
  refine partsP_c p hp (fun l' hl' => ?_) (fun hl' => by rw [hl] at hl'; cases hl')
  have hll : l' .o = l := Option.some.inj (hl'.symm.trans hl)
  cbv
  simp only [hll, hw]
  refine safe ⟨Int.le_refl _, zi_nonneg _, zi_le.2 (by omega)⟩ ?_
  refine safe ⟨zi_nonneg _, zi_lt.2 (by omega)⟩ ?_
  simp only [hwz]
  refine CallAt.args (.cons (Same.refl _) (.cons (Same.sl (n' := fun _ => l.dropLast.length) (g' := fun i => strCh fun _ => l.dropLast.getD (i .o) []) (by rw [hdl]; show (zi (l.length - 1) - 0).toNat = _; rw [Int.sub_zero, hwz]) fun i hi => ?_) .nil)) (find19_c f c (fun _ => l.dropLast) hW.ok hW.up (hW.can 1) hW.ino hW.grp (by rw [hdl]; omega) (fun n q1 q2 => ?_) (fun e q1 q2 => ?_))
  · have hi : i < (zi (l.length - 1) - 0).toNat := hi
    rw [Int.sub_zero, hwz] at hi
    show (strCh fun _ => l.getD (0 + i) []) = strCh fun _ => l.dropLast.getD i []
    rw [Nat.zero_add, List.getD_eq_getElem?_getD, List.getD_eq_getElem?_getD, List.getElem?_dropLast, if_pos hi]
  · cbv
    exact ⟨_, .ret (.refl _), h1 n q1 q2⟩
  · cbv
    exact ⟨_, .pan (.refl _), h2 e q1 q2⟩
end Go.Proofs.YtkklflpfklbbcaaDoor
/- slices.Insert of one name in a directory, at the machine's level. -/
namespace Go.Proofs.YtkklflpfklbbcaaDoor
open Go Go.RowKit Go.Shelf Go.Lib
open Go.Proofs.YtkklflpfklbbcaaDoor.Sx F
set_option linter.unusedVariables false
set_option linter.unusedSimpArgs false
theorem run_copy_soft {P : Program} {w : World} {dT sT ty elem : TypeId} {i : TypeInfo} (hu : P.underlying dT = some (.slice elem)) (hi : P.info? elem = some i) (b o dLen dCap : Nat) (a : Addr) (sLen sCap : Nat) (cs : List Value) (hn : cs.length = Nat.min sLen dLen * i.size)
    (hsrc : ∀ j v, cs[j]? = some v → w.cell? (a.add j) = some v) {cur : Array Value} {t : TypeId} {fr : Nat × Nat} (hg : w.heap[b]? = some (.cells cur t fr)) (hs : Soft0 cur.size fr) (hf : o + cs.length ≤ cur.size) (h1 : ∀ v ∈ cs, v.oneCell' = true) :
    (Builtin.copy_ #[dT, sT] ty #[.slice (some ⟨b, o, none⟩) dLen dCap, .slice (some a) sLen sCap]).run P w = .ok (goInt (Nat.min sLen dLen)) (w.setRow b (cur.toList.take o ++ cs ++ cur.toList.drop (o + cs.length)).toArray) := by
  have hl := run_firstCells_some (P := P) w i.size (Nat.min sLen dLen) a sLen sCap cs hn hsrc
  have hst := run_storeCells_soft P b o t fr cs 0 cur w hg hs (by simpa using hf) h1
  simp only [Nat.add_zero] at hst
  simp [Builtin.copy_, run_underlying hu, Builtin.lenOf, sizeOf, typeInfo, hi, hl, hst]
def insF : Nat := 60
theorem insInfo : ∃ i, Tryd.prog.info? 99 = some i ∧ i.zero = some (.agg #[.string ⟨#[]⟩, .int .i64 0]) ∧ i.size = 2 ∧ i.bytes = 24 := info_parts (by kernel_rfl)
/-- How a call ends that has made xs of a row. -/
structure InsR (w : World) (v : Value) (b m : Nat) (xs : List Value) (e : Ending) (w' : World) : Prop where
  ex : ∃ v' b', e = .returned v' ∧ RowOk w' 2 v' m xs b' ∧ Sx.Grown w w' v b ∧ (v' ≠ nilV → (v ≠ nilV ∧ b' = b) ∨ (w.heap.size ≤ b' ∧ b' < w'.heap.size))
set_option maxHeartbeats 4000000 in
set_option maxRecDepth 100000 in
theorem ins_end (v : Value) (n : Nat) (xs : List Value) (b : Nat) (w : World) (hv : RowOk w 2 v n xs b) (hxl : xs.length = n * 2) (a : Addr) (vc : Nat) (vs : List Value) (hvl : vs.length = 2) (hvs : ∀ j u, vs[j]? = some u → w.cell? (a.add j) = some u) (h1v : ∀ u ∈ vs, u.oneCell' = true) (hn : n ≤ 1000) :
    Calls Tryd.prog insF #[v, .int .i64 n, .slice (some a) 1 vc] w (InsR w v b (n + 1) (xs ++ vs)) := by
  obtain ⟨i0, hi, hz, hs, hb⟩ := insInfo
  have key := fun ty => run_append_row (P := Tryd.prog) (w := w) (ty := ty) Tryd.underlying44 hi hz (by rw [hs]; rfl) (v := v) (n := n) (xs := xs) (b := b) (by rw [hs]; exact hv) (by rw [hs]; exact hxl) (yv := .slice (some a) 1 vc) (m := 1) (news := vs) (by rw [hs]; exact hvl)
    (.inl ⟨a, vc, rfl, hvs⟩) h1v (by rw [hb]; omega) (by omega)
  rw [hs] at key
  unfold insF
  obtain ⟨v', w', b', hrun, hrow, hgr, hnew⟩ := key 44
  have hfin : InsR w v b (n + 1) (xs ++ vs) (.returned v') w' := ⟨_, _, rfl, hrow, hgr, hnew⟩
  clear hrow hgr hnew key
  rcases hv with ⟨rfl, rfl, rfl⟩ | ⟨cap, cur, e', rfl, hg, hnc, hcm, hcs, htake⟩
  · unfold nilV at hrun hfin ⊢
    go_enter Tryd.func60, Tryd.ntmps60
    go_wp2_with (at_builtin; refine Lib.wpList_append_run _ rfl _ _ _ _ rfl _ _ rfl rfl _ _ hrun ?_)
    go_ret
    exact hfin
  · go_enter Tryd.func60, Tryd.ntmps60
    go_wp2_with (at_builtin; refine Lib.wpList_append_run _ rfl _ _ _ _ rfl _ _ rfl rfl _ _ hrun ?_)
    · obtain rfl : cap = n := by assumption
      go_ret
      exact hfin
    · go_ret
      exact hfin
theorem run_overlaps_row {P : Program} (w : World) (tS tR e : TypeId) (ht : P.underlying tS = some (.slice e)) (size : Nat) (hz : ∀ w, (Go.sizeOf e).run P w = .ok size w)
    (a b : Addr) (la ca lb cb : Nat) (hne : a.block ≠ b.block) (tA tB : TypeId) (kA kB : Nat) (hsa : w.shape? a.block = some (tA, kA)) (hsb : w.shape? b.block = some (tB, kB)) (hkA : kA ≠ 0) (hkB : kB ≠ 0)
    (hfb : w.frozen? b = false) (hfe : w.frozen? { block := b.block, off := kB } = false) :
    (Extern.SlicesOverlaps.overlaps #[tS, tS] #[tR] #[.slice (some a) la ca, .slice (some b) lb cb]).run P w = .ok (.bool false) w := by
  have hnb : (a.block != b.block) = true := by simpa using hne
  have hnb' : (a.block == b.block) = false := by simpa using hne
  change Sem.run P (α := Value) (do
    let some t := (#[tS, tS] : Array TypeId)[0]? | stuck "slices.overlaps: no parameter types"
    let .slice elem ← underlying t | stuck "slices.overlaps: slice type expected"
    let size ← sizeOf elem
    match (some a : Option Addr), (some b : Option Addr) with
    | some a, some b =>
      if la = 0 ∨ lb = 0 ∨ size = 0 then pure (Value.bool false)
      else if a.block != b.block && (← frozen a) && (← frozen b) then unsupported .addressObserved
      else do
        if a.block != b.block then do
          noView a; noView b
          if ← mayBeOne a b then return Value.bool ((← choose (.extern "sameAddr.stringBytes" 2)) == 1)
        pure (Value.bool (a.block == b.block && a.off < b.off + lb * size && b.off < a.off + la * size))
    | _, _ => pure (Value.bool false)) w = _
  by_cases h0 : la = 0 ∨ lb = 0 ∨ size = 0
  · simp [run_underlying ht, hz, h0]
  · cases kB with
    | zero => exact absurd rfl hkB
    | succ kB =>
      obtain ⟨k, rfl⟩ : ∃ k, kA = k + 1 := ⟨kA - 1, by omega⟩
      cases hfa : w.frozen? a <;> simp [run_underlying ht, hz, h0, hnb, hnb', frozen, noView, viewAt, mayBeOne, stringish, shape, Sem.run, hsa, hsb, hfa, hfb, hfe]
theorem shape_row {w : World} {b : Nat} {cur : Array Value} {t : TypeId} {fr : Nat × Nat} (h : w.heap[b]? = some (.cells cur t fr)) : w.shape? b = some (t, cur.size) := by simp [World.shape?, h]
theorem cells_block {w : World} {b o : Nat} {v : Value} (h : w.cell? ⟨b, o, none⟩ = some v) : ∃ cur t fr, w.heap[b]? = some (.cells cur t fr) ∧ o < cur.size := by
  unfold World.cell? at h
  simp only at h
  split at h
  · rename_i cur t fr hq
    exact ⟨cur, t, fr, hq, (Array.getElem?_eq_some_iff.1 h).1⟩
  · cases h
theorem froz_off {w : World} {b : Nat} {cur : Array Value} {t : TypeId} {fr : Nat × Nat} (h : w.heap[b]? = some (.cells cur t fr)) (hs : fr.1 = fr.2) (o : Nat) : w.frozen? ⟨b, o, none⟩ = false := by
  obtain ⟨lo, hi⟩ := fr
  simp only at hs
  subst hs
  simp only [World.frozen?, h, Bool.and_eq_false_iff, decide_eq_false_iff_not]
  omega
set_option maxHeartbeats 4000000 in
set_option maxRecDepth 100000 in
theorem ins_shift (n i cap : Nat) (cur : List Value) (e' : TypeId) (b : Nat) (w : World) (hg : Hs w b cur e' 2) (hnc : n < cap) (hcm : cap ≤ maxLen) (hcs : cur.length = cap * 2) (hin : i < n) (h1c : ∀ u ∈ cur.take (n * 2), u.oneCell' = true)
    (vb vo vc : Nat) (vs : List Value) (hvl : vs.length = 2) (hvs : ∀ j u, vs[j]? = some u → w.cell? ⟨vb, vo + j, none⟩ = some u) (h1v : ∀ u ∈ vs, u.oneCell' = true) (hn : n ≤ 1000) (hvb : vb ≠ b) :
    Calls Tryd.prog insF #[.slice (some ⟨b, 0, none⟩) n cap, .int .i64 i, .slice (some ⟨vb, vo, none⟩) 1 vc] w (InsR w (.slice (some ⟨b, 0, none⟩) n cap) b (n + 1) ((cur.take (n * 2)).take (i * 2) ++ vs ++ (cur.take (n * 2)).drop (i * 2))) := by
  obtain ⟨i0, hi, hz, hs, hb⟩ := insInfo
  obtain ⟨fr, hgh, hsoft⟩ := hg.ex
  have hfr : fr.1 = fr.2 := hsoft.resolve_right (fun q => by have := q.1; omega)
  have hsz : ∀ w, (Go.sizeOf 99).run Tryd.prog w = .ok 2 w := fun w => by simp [Go.sizeOf, typeInfo, hi, hs]
  have hut := Tryd.underlying44
  obtain ⟨cv, tv', frv, hvh, hvo⟩ := cells_block (hvs 0 _ (List.getElem?_eq_getElem (by omega)))
  have hcl : cur.toArray.size = cap * 2 := by simpa using hcs
  have hov : ∀ lb cb, (callFunc 71 #[.slice (some ⟨vb, vo, none⟩) 1 vc, .slice (some ⟨b, (i + 1) * 2, none⟩) lb cb]).run Tryd.prog w = .ok (.value (.bool false)) w := fun lb cb => by
    rw [run_callFunc_extern Tryd.func71 (by kernel_rfl) (by kernel_rfl) (by kernel_rfl) (e := Extern.SlicesOverlaps.overlaps #[44, 44] #[4]) (by kernel_rfl),
      run_overlaps_row w 44 4 99 hut 2 hsz ⟨vb, vo, none⟩ ⟨b, (i + 1) * 2, none⟩ 1 vc lb cb hvb _ _ _ _ (shape_row hvh) (shape_row hgh) (by omega) (by omega) (froz_off hgh hfr _) (froz_off hgh hfr _)]
    rfl
  obtain ⟨cs1, hcs1⟩ : ∃ cs1, cs1 = (cur.drop (i * 2)).take ((n - i) * 2) := ⟨_, rfl⟩
  have hl1 : cs1.length = (n - i) * 2 := by rw [hcs1, List.length_take, List.length_drop]; omega
  have h1s : ∀ u ∈ cs1, u.oneCell' = true := fun u hu => h1c u (by
    rw [hcs1] at hu
    have e : (cur.drop (i * 2)).take ((n - i) * 2) = (cur.take (n * 2)).drop (i * 2) := by rw [List.drop_take, Nat.sub_mul]
    rw [e] at hu
    exact List.mem_of_mem_drop hu)
  have hcp1 : ∀ ty dc sc, (Builtin.copy_ #[44, 44] ty #[.slice (some ⟨b, (i + 1) * 2, none⟩) (n - i) dc, .slice (some ⟨b, i * 2, none⟩) (n + 1 - i) sc]).run Tryd.prog w.drew = .ok (goInt ((n - i : Nat) : Int)) (w.drew.setRow b (cur.take ((i + 1) * 2) ++ cs1 ++ cur.drop ((i + 1) * 2 + cs1.length)).toArray) := fun ty dc sc => by
    have hm : Nat.min (n + 1 - i) (n - i) = n - i := by simp only [Nat.min_def]; split <;> omega
    have h := run_copy_soft (P := Tryd.prog) (w := w.drew) (dT := 44) (sT := 44) (ty := ty) hut hi b ((i + 1) * 2) (n - i) dc ⟨b, i * 2, none⟩ (n + 1 - i) sc cs1 (by rw [hm, hs, hl1]) (fun j v hj => by
      rw [addr_add]
      show w.cell? _ = _
      rw [hg.cell]
      rw [hcs1, List.getElem?_take] at hj
      split at hj
      · rw [List.getElem?_drop] at hj; exact hj
      · cases hj) (cur := cur.toArray) (t := e') (fr := fr) hgh (.inl hfr) (by rw [hcl, hl1]; omega) h1s
    rw [hm] at h
    exact h
  obtain ⟨cur1, hcur1⟩ : ∃ cur1, cur1 = cur.take ((i + 1) * 2) ++ cs1 ++ cur.drop ((i + 1) * 2 + cs1.length) := ⟨_, rfl⟩
  rw [← hcur1] at hcp1
  have hl2 : cur1.length = cap * 2 := by rw [hcur1]; simp only [List.length_append, List.length_take, List.length_drop]; omega
  obtain ⟨W1, hW1⟩ : ∃ W1, W1 = w.drew.setRow b cur1.toArray := ⟨_, rfl⟩
  rw [← hW1] at hcp1
  have hg1 : W1.heap[b]? = some (.cells cur1.toArray e' fr) := by rw [hW1]; exact setRow_heap w.drew b _ _ e' fr hgh
  have hcp2 : ∀ ty dc, (Builtin.copy_ #[44, 44] ty #[.slice (some ⟨b, i * 2, none⟩) (n + 1 - i) dc, .slice (some ⟨vb, vo, none⟩) 1 vc]).run Tryd.prog W1 = .ok (goInt 1) (W1.setRow b (cur1.take (i * 2) ++ vs ++ cur1.drop (i * 2 + vs.length)).toArray) := fun ty dc => by
    have hm : Nat.min 1 (n + 1 - i) = 1 := by simp only [Nat.min_def]; split <;> omega
    have h := run_copy_soft (P := Tryd.prog) (w := W1) (dT := 44) (sT := 44) (ty := ty) hut hi b (i * 2) (n + 1 - i) dc ⟨vb, vo, none⟩ 1 vc vs (by rw [hm, hs, hvl]) (fun j v hj => by
      rw [addr_add, ← hvs j v hj]
      refine World.cell?_of_block (w := w) ?_
      show W1.heap[vb]? = _
      rw [hW1]
      exact setRow_other w.drew b vb _ hvb) (cur := cur1.toArray) (t := e') (fr := fr) hg1 (.inl hfr) (by simp only [List.size_toArray]; omega) h1v
    rw [hm] at h
    exact h
  have hw1 : IntKind.i64.wrap ((i : Int) + 1) = (i : Int) + 1 := by rw [IntKind.wrap_i64]; omega
  have hw2 : IntKind.i64.wrap ((n : Int) + 1) = (n : Int) + 1 := by rw [IntKind.wrap_i64]; omega
  have hb1 : (0 : Int) ≤ (i : Int) + 1 := by omega
  have htn : ((i : Int) + 1).toNat = i + 1 := by omega
  have htn2 : ((n : Int) + 1).toNat = n + 1 := by omega
  have hz2 : ¬ ((i : Int) = (n : Int)) := by omega
  have hb2 : ¬ (cap = i + 1) := by omega
  have hb3 : (i : Int) ≤ (n : Int) + 1 := by omega
  have hb4 : ¬ (cap = i) := by omega
  have hinle : i ≤ n := by omega
  have hcm' : cap ≤ 9223372036854775807 := by unfold maxLen at hcm; omega
  have hfin : InsR w (.slice (some ⟨b, 0, none⟩) n cap) b (n + 1) ((cur.take (n * 2)).take (i * 2) ++ vs ++ (cur.take (n * 2)).drop (i * 2)) (.returned (.slice (some ⟨b, 0, none⟩) (n + 1) cap)) (W1.setRow b (cur1.take (i * 2) ++ vs ++ cur1.drop (i * 2 + vs.length)).toArray) := by
    have hvn : (Value.slice (some ⟨b, 0, none⟩) n cap) ≠ nilV := by simp [nilV]
    have hlen2 : (cur1.take (i * 2) ++ vs ++ cur1.drop (i * 2 + vs.length)).length = cap * 2 := by simp only [List.length_append, List.length_take, List.length_drop]; omega
    refine ⟨_, b, rfl, .inr ⟨cap, _, e', rfl, ⟨fr, setRow_heap W1 b _ _ e' fr hg1, .inl hfr⟩, by omega, hcm, hlen2, ?_⟩, ⟨by rw [hW1]; rfl, by rw [hW1]; rfl, by rw [hW1]; rfl, by rw [hW1]; simp [World.setRow], fun k hk hne => ?_⟩, fun _ => .inl ⟨hvn, rfl⟩⟩
    · have e1 : cur1.take (i * 2) = cur.take (i * 2) := by
        rw [hcur1, List.append_assoc, List.take_append_of_le_length (by rw [List.length_take]; omega), List.take_take, Nat.min_eq_left (by omega)]
      have e2 : cur1.drop (i * 2 + vs.length) = cs1 ++ cur.drop ((i + 1) * 2 + cs1.length) := by
        have e3 : (cur.take ((i + 1) * 2)).length = i * 2 + vs.length := by rw [List.length_take]; omega
        rw [hcur1, List.append_assoc, ← e3, List.drop_left]
      have e4 : (cur.take (n * 2)).drop (i * 2) = cs1 := by rw [hcs1, List.drop_take, Nat.sub_mul]
      rw [e1, e2, e4, List.take_take, Nat.min_eq_left (by omega : i * 2 ≤ n * 2), ← List.append_assoc]
      exact List.take_left' (by simp only [List.length_append, List.length_take]; omega)
    · rw [setRow_other W1 b k _ (hne hvn), hW1]
      exact setRow_other w.drew b k _ (hne hvn)
  generalize (cur.take (n * 2)).take (i * 2) ++ vs ++ (cur.take (n * 2)).drop (i * 2) = XS at hfin ⊢
  generalize (cur1.take (i * 2) ++ vs ++ cur1.drop (i * 2 + vs.length)).toArray = cur2 at hfin hcp2
  clear hcs1 hcur1 hg1 h1s
  subst hW1
  unfold insF
  go_enter Tryd.func60, Tryd.ntmps60
  go_wp2_with (simp only [hov])
  go_region_law (refine step_copy_runI rfl _ _ 44 44 rfl _ _ (by simp [Act.eval, Act.put]) (by simp [Act.eval, Act.put]) (hcp1 _ _ _) ?_)
  go_wp2_with (at_builtin; refine wpList_copy_runI _ rfl _ _ 44 44 rfl _ _ rfl rfl (hcp2 _ _) ?_)
  go_ret
  exact hfin
set_option maxHeartbeats 4000000 in
set_option maxRecDepth 100000 in
theorem ins_grow (n i cap : Nat) (cur : List Value) (e' : TypeId) (b : Nat) (w : World) (hg : Hs w b cur e' 2) (hnc : n ≤ cap) (hcn : cap < n + 1) (hcs : cur.length = cap * 2) (hin : i < n) (h1c : ∀ u ∈ cur.take (n * 2), u.oneCell' = true)
    (vb vo vc : Nat) (vs : List Value) (hvl : vs.length = 2) (hvs : ∀ j u, vs[j]? = some u → w.cell? ⟨vb, vo + j, none⟩ = some u) (h1v : ∀ u ∈ vs, u.oneCell' = true) (hn : n ≤ 1000) :
    Calls Tryd.prog insF #[.slice (some ⟨b, 0, none⟩) n cap, .int .i64 i, .slice (some ⟨vb, vo, none⟩) 1 vc] w (InsR w (.slice (some ⟨b, 0, none⟩) n cap) b (n + 1) ((cur.take (n * 2)).take (i * 2) ++ vs ++ (cur.take (n * 2)).drop (i * 2))) := by
  obtain ⟨i0, hi, hz, hs, hb⟩ := insInfo
  have hut := Tryd.underlying44
  have hut3 := Tryd.underlying3
  have hbw := hg.lt
  obtain ⟨cv, tv', frv, hvh, hvo⟩ := cells_block (hvs 0 _ (List.getElem?_eq_getElem (by omega)))
  have hvw : vb < w.heap.size := (Array.getElem?_eq_some_iff.1 hvh).1
  have hkk : (n : Int) + 1 - (i : Int) = ((n + 1 - i : Nat) : Int) := by omega
  have hik : i + (n + 1 - i) = n + 1 := by omega
  have hold : (Builtin.firstCells i0.size i (.slice (some ⟨b, 0, none⟩) i cap)).run Tryd.prog w.drew = .ok (cur.take (i * 2)).toArray w.drew := by
    rw [hs]
    exact run_firstCells_some w.drew 2 i ⟨b, 0, none⟩ i cap (cur.take (i * 2)) (by rw [List.length_take]; omega) (fun j v hj => by
      rw [addr_add, Nat.zero_add]
      show w.cell? _ = _
      rw [hg.cell]
      rw [List.getElem?_take] at hj
      split at hj
      · exact hj
      · cases hj)
  obtain ⟨G, hG⟩ : ∃ G, G = grownCap w (n + 1) cap 99 := ⟨_, rfl⟩
  obtain ⟨ROW, hROW⟩ : ∃ ROW : Array Value, ROW = (cur.take (i * 2)).toArray ++ Builtin.zeroCells (Value.agg #[.string ⟨#[]⟩, .int .i64 0]).cells (n + 1 - i) ++ Builtin.zeroCells (Value.agg #[.string ⟨#[]⟩, .int .i64 0]).cells (G - (n + 1)) := ⟨_, rfl⟩
  have hGn : n + 1 ≤ G := by rw [hG]; exact grownCap_ge w _ _ _
  have hGm : G ≤ maxLen := by rw [hG]; exact grownCap_le_maxLen w (n + 1) cap _ (by unfold maxLen; omega)
  have hG63 : G ≤ 9223372036854775807 := by unfold maxLen at hGm; omega
  have hRl : ROW.size = G * 2 := by
    have hz2 : (Value.agg #[.string ⟨#[]⟩, .int .i64 0]).cells.size = 2 := rfl
    rw [hROW]
    simp only [Array.size_append, List.size_toArray, size_zeroCells, hz2, List.length_take]
    omega
  have hrz : ∀ ty, (Builtin.append_ #[44, 3] ty #[.slice (some ⟨b, 0, none⟩) i cap, .int .i64 ((n : Int) + 1 - (i : Int))]).run Tryd.prog w =
      .ok (.slice (some ⟨w.heap.size, 0, none⟩) (n + 1) G) ((w.alloc (.cells ROW 99)).drew) := fun ty => by
    have h := Lib.run_append_grow_zeros w 44 3 ty 99 i0 _ .i64 .i64 hut hut3 hi hz (some ⟨b, 0, none⟩) i cap (cur.take (i * 2)) hold (n + 1 - i) (by omega) (by omega) (by omega) (by omega) (by rw [hb]; omega) (by rw [hb, hik]; exact growslice_fits hcn (by omega))
    rw [hik, ← hG, ← hROW] at h
    rw [hkk]
    exact h
  obtain ⟨cs1, hcs1⟩ : ∃ cs1, cs1 = (cur.drop (i * 2)).take ((n - i) * 2) := ⟨_, rfl⟩
  have hl1 : cs1.length = (n - i) * 2 := by rw [hcs1, List.length_take, List.length_drop]; omega
  have h1s : ∀ u ∈ cs1, u.oneCell' = true := fun u hu => h1c u (by
    rw [hcs1] at hu
    have e : (cur.drop (i * 2)).take ((n - i) * 2) = (cur.take (n * 2)).drop (i * 2) := by rw [List.drop_take, Nat.sub_mul]
    rw [e] at hu
    exact List.mem_of_mem_drop hu)
  obtain ⟨W1, hW1⟩ : ∃ W1, W1 = (w.alloc (.cells ROW 99)).drew := ⟨_, rfl⟩
  have hold1 : ∀ k, k < w.heap.size → W1.heap[k]? = w.heap[k]? := fun k hk => by rw [hW1]; exact Lib.alloc_old w _ k hk
  have hnew1 : W1.heap[w.heap.size]? = some (.cells ROW 99 (0, 0)) := by rw [hW1]; exact heap_alloc_new w _
  obtain ⟨row1, hrow1⟩ : ∃ row1 : List Value, row1 = ROW.toList.take (i * 2) ++ vs ++ ROW.toList.drop (i * 2 + vs.length) := ⟨_, rfl⟩
  have hr1l : row1.length = G * 2 := by rw [hrow1]; simp only [List.length_append, List.length_take, List.length_drop, Array.length_toList]; omega
  have hcpA : ∀ ty dc, (Builtin.copy_ #[44, 44] ty #[.slice (some ⟨w.heap.size, i * 2, none⟩) (n + 1 - i) dc, .slice (some ⟨vb, vo, none⟩) 1 vc]).run Tryd.prog W1 = .ok (goInt 1) (W1.setRow w.heap.size row1.toArray) := fun ty dc => by
    have hm : Nat.min 1 (n + 1 - i) = 1 := by simp only [Nat.min_def]; split <;> omega
    have h := run_copy_soft (P := Tryd.prog) (w := W1) (dT := 44) (sT := 44) (ty := ty) hut hi w.heap.size (i * 2) (n + 1 - i) dc ⟨vb, vo, none⟩ 1 vc vs (by rw [hm, hs, hvl]) (fun j v hj => by
      rw [addr_add, ← hvs j v hj]
      exact World.cell?_of_block (w := w) (hold1 vb hvw)) hnew1 (.inl rfl) (by omega) h1v
    rw [hm, ← hrow1] at h
    exact h
  obtain ⟨W2, hW2⟩ : ∃ W2, W2 = (W1.setRow w.heap.size row1.toArray).drew := ⟨_, rfl⟩
  have hold2 : ∀ k, k < w.heap.size → W2.heap[k]? = w.heap[k]? := fun k hk => by
    rw [hW2]
    exact (setRow_other W1 w.heap.size k _ (by omega)).trans (hold1 k hk)
  have hnew2 : W2.heap[w.heap.size]? = some (.cells row1.toArray 99 (0, 0)) := by rw [hW2]; exact setRow_heap W1 w.heap.size _ _ _ _ hnew1
  obtain ⟨row2, hrow2⟩ : ∃ row2 : List Value, row2 = row1.take ((i + 1) * 2) ++ cs1 ++ row1.drop ((i + 1) * 2 + cs1.length) := ⟨_, rfl⟩
  have hr2l : row2.length = G * 2 := by rw [hrow2]; simp only [List.length_append, List.length_take, List.length_drop]; omega
  have hcpB : ∀ ty dc sc, (Builtin.copy_ #[44, 44] ty #[.slice (some ⟨w.heap.size, (i + 1) * 2, none⟩) (n - i) dc, .slice (some ⟨b, i * 2, none⟩) (n - i) sc]).run Tryd.prog W2 = .ok (goInt ((n - i : Nat) : Int)) (W2.setRow w.heap.size row2.toArray) := fun ty dc sc => by
    have hm : Nat.min (n - i) (n - i) = n - i := by simp only [Nat.min_def]; split <;> omega
    have h := run_copy_soft (P := Tryd.prog) (w := W2) (dT := 44) (sT := 44) (ty := ty) hut hi w.heap.size ((i + 1) * 2) (n - i) dc ⟨b, i * 2, none⟩ (n - i) sc cs1 (by rw [hm, hs, hl1]) (fun j v hj => by
      rw [addr_add]
      refine (World.cell?_of_block (w := w) (hold2 b hbw)).trans ?_
      rw [hg.cell]
      rw [hcs1, List.getElem?_take] at hj
      split at hj
      · rw [List.getElem?_drop] at hj; exact hj
      · cases hj) hnew2 (.inl rfl) (by simp only [List.size_toArray]; omega) h1s
    rw [hm] at h
    rw [hrow2]
    exact h
  have hfin : InsR w (.slice (some ⟨b, 0, none⟩) n cap) b (n + 1) ((cur.take (n * 2)).take (i * 2) ++ vs ++ (cur.take (n * 2)).drop (i * 2)) (.returned (.slice (some ⟨w.heap.size, 0, none⟩) (n + 1) G)) (W2.setRow w.heap.size row2.toArray) := by
    have hsz2 : W2.heap.size = w.heap.size + 1 := by rw [hW2, hW1]; simp [World.setRow]
    refine ⟨_, w.heap.size, rfl, .inr ⟨G, row2, _, rfl, Hs.mk0 (setRow_heap W2 w.heap.size _ _ _ _ hnew2), hGn, hGm, hr2l, ?_⟩, ⟨by rw [hW2, hW1]; rfl, by rw [hW2, hW1]; rfl, by rw [hW2, hW1]; rfl, by simp [World.setRow, hsz2], fun k hk _ => (setRow_other W2 w.heap.size k _ (by omega)).trans (hold2 k hk)⟩, fun _ => .inr ⟨Nat.le_refl _, by simp [World.setRow, hsz2]⟩⟩
    have e0 : ROW.toList.take (i * 2) = cur.take (i * 2) := by
      rw [hROW]
      simp only [Array.toList_append, List.append_assoc]
      exact List.take_left' (by rw [List.length_take]; omega)
    have e1 : row1.take ((i + 1) * 2) = cur.take (i * 2) ++ vs := by
      rw [hrow1, e0]
      exact List.take_left' (by simp only [List.length_append, List.length_take]; omega)
    have e4 : (cur.take (n * 2)).drop (i * 2) = cs1 := by rw [hcs1, List.drop_take, Nat.sub_mul]
    rw [hrow2, e1, e4, List.take_take, Nat.min_eq_left (by omega : i * 2 ≤ n * 2)]
    exact List.take_left' (by simp only [List.length_append, List.length_take]; omega)
  generalize (cur.take (n * 2)).take (i * 2) ++ vs ++ (cur.take (n * 2)).drop (i * 2) = XS at hfin ⊢
  have hz3 : (cap : Int) < (n : Int) + 1 := by omega
  have hw1 : IntKind.i64.wrap ((i : Int) + 1) = (i : Int) + 1 := by rw [IntKind.wrap_i64]; omega
  have hw2 : IntKind.i64.wrap ((n : Int) + 1) = (n : Int) + 1 := by rw [IntKind.wrap_i64]; omega
  have hw3 : IntKind.i64.wrap ((n : Int) + 1 - (i : Int)) = (n : Int) + 1 - (i : Int) := by rw [IntKind.wrap_i64]; omega
  have hb1 : (0 : Int) ≤ (i : Int) + 1 := by omega
  have htn : ((i : Int) + 1).toNat = i + 1 := by omega
  have hz2 : ¬ ((i : Int) = (n : Int)) := by omega
  have hb2 : ¬ (G = i + 1) := by omega
  have hb3 : (i : Int) ≤ (n : Int) + 1 := by omega
  have hb4 : ¬ (cap = i) := by omega
  have hb5 : ¬ (G = i) := by omega
  have hb6 : (i : Int) ≤ (n : Int) := by omega
  have hinle : i ≤ n := by omega
  have hcm' : cap ≤ 9223372036854775807 := by omega
  clear hrow1 hrow2 hROW hG hkk hik hold hnew1 hnew2 hold1 hold2 hRl hcs1
  subst hW2
  subst hW1
  generalize row1.toArray = A1 at hcpA hcpB hfin
  generalize row2.toArray = A2 at hcpB hfin
  unfold insF
  go_enter Tryd.func60, Tryd.ntmps60
  go_wp2_with (first
    | (at_builtin; refine Lib.wpList_append_run _ rfl _ _ _ _ rfl _ _ rfl rfl _ _ (hrz _) ?_)
    | (at_builtin; refine wpList_copy_runI _ rfl _ _ 44 44 rfl _ _ rfl rfl (hcpA _ _) ?_))
  go_region_law (refine step_copy_runI rfl _ _ 44 44 rfl _ _ (by simp [Act.eval, Act.put]) (by simp [Act.eval, Act.put]) (hcpB _ _ _) ?_)
  go_wp2
  go_ret
  exact hfin
end Go.Proofs.YtkklflpfklbbcaaDoor
/- The program's file system: a directory's names in memory of their own, at the machine's level. -/
namespace Go.Proofs.YtkklflpfklbbcaaDoor
open Go Go.RowKit Go.Shelf Go.Lib
open Go.Proofs.YtkklflpfklbbcaaDoor.Sx F
set_option linter.unusedVariables false
set_option linter.unusedSimpArgs false
theorem seg_set (l : List Value) (o : Nat) (v : Value) (h : o < l.length) : l.take (o + 0) ++ [v] ++ l.drop (o + 0 + [v].length) = l.set o v := by
  rw [List.set_eq_take_append_cons_drop, if_pos h]
  simp
theorem store_row {P : Program} {w : World} {g o : Nat} {l : List Value} {e : TypeId} {sz : Nat} (h : Hs w g l e sz) (ho : o < l.length) {v : Value} (hv : v.oneCell' = true) :
    (storeCells ⟨g, o, none⟩ [v]).run P w = .ok () (w.setRow g (l.set o v).toArray) := by
  obtain ⟨fr, h1, h2⟩ := h.ex
  rw [run_storeCells_soft P g o e fr [v] 0 l.toArray w h1 (by simpa using h2.to0) (by simp; omega) (by simpa using hv)]
  congr 3
  exact seg_set l o v ho
set_option maxHeartbeats 4000000 in
set_option maxRecDepth 100000 in
theorem kids_m (w : World) (b0 b1 k n cap : Nat) (cur : List Value) (e1 : TypeId) (h0 : w.cell? ⟨b0, 0, none⟩ = some (.slice (some ⟨b1, 0, none⟩) n cap)) (hk : k < n) (kv : Value) (h1 : w.cell? ⟨b1, k * 20 + 19, none⟩ = some kv) (hkc : k * 20 + 19 < cur.length)
    (Q : Value → World → Prop) (hcl : Calls Tryd.prog slices_Clone_api_Dirent_api_Dirent #[kv] w fun e w2 => ∃ v2, e = .returned v2 ∧ v2.oneCell' = true ∧ Hs w2 b1 cur e1 20 ∧ Q v2 w2) :
    Calls Tryd.prog 59 #[.pointer (some ⟨b0, 0, none⟩), .int .i64 k] w fun e w' => e = .returned (.pointer (some ⟨b1, k * 20 + 19, none⟩)) ∧ ∃ v2 w2, v2.oneCell' = true ∧ Hs w2 b1 cur e1 20 ∧ Q v2 w2 ∧ w' = w2.setRow b1 (cur.set (k * 20 + 19) v2).toArray := by
  go_enter Tryd.func59, Tryd.ntmps59
  go_wp2_with fail
  refine hcl.mono ?_
  rintro e w2 ⟨v2, rfl, hv2, hc2, hQ⟩
  have hst := store_row (P := Tryd.prog) hc2 hkc hv2
  generalize hW : w2.setRow b1 (cur.set (k * 20 + 19) v2).toArray = W at hst
  go_wp2_with fail
  all_goals
    rw [hst]
    go_wp2_with fail
    go_ret
    exact ⟨rfl, _, _, hv2, hc2, hQ, hW.symm⟩
end Go.Proofs.YtkklflpfklbbcaaDoor
/- A symbolic executor for the model's code: a piece of a function by hand, at the machine's level; a cell of a row that comes to hold what was made meanwhile. -/
namespace Go.Proofs.YtkklflpfklbbcaaDoor.Sx
open Go Go.RowKit
set_option linter.unusedSimpArgs false
set_option linter.unusedVariables false
theorem arr_eta (t : Array Value) (n : Nat) (h : t.size = n) : t = ((List.range n).map fun i => t.getD i undef).toArray := by
  apply Array.ext
  · simp [h]
  · intro i h1 h2
    have h3 : i < n := by simpa [h] using h2
    simp [Array.getD_eq_getD_getElem?, Array.getElem?_eq_getElem h1]
theorem wp_seq_pile {C : Cx} {R : Env → St → Act → Prop} {rel : Code → RC → Prop} {c c2 : Code} {rc : RC} {k : List It} {Q : Exit → Act → World → Prop} {a : Act} {w : World} (h : Cont C R rel (.code rc :: k) .normal a w) (hc : rel c rc)
    (hk : ∀ a w, Cont C R rel k .normal a w → c2.wp (C.P .o) Q a w) (hx : ∀ e a w, e ≠ .normal → Cont C R rel k e a w → Q e a w) : (Code.seq c c2).wp (C.P .o) Q a w := by
  refine wp_seq (wp_mono (h c hc) fun e a w hq => ?_)
  cases e with
  | normal => exact hk a w hq
  | _ => exact hx _ a w (by simp) hq
/-- How a function ends for who called it, at its body's end. -/
def BodyQ (P : Program) (fn : Func) (R : Ending → World → Prop) : Exit → Act → World → Prop
  | .normal, a, w => a.defers = [] ∧ ∃ v, (results fn a.tmps).run P w = .ok v w ∧ R (.returned v) w
  | .ret, a, w => a.defers = [] ∧ ∃ v, (results fn a.tmps).run P w = .ok v w ∧ R (.returned v) w
  | .panic ch, a, w => a.defers = [] ∧ R (.panicked ch) w
  | _, _, _ => False
theorem bodyQ_of {P : Th Program} {fn : Func} {rs : List RRes} {K : ARes → BL → Prop} {E : Env} {B : BL} {d : Nat} (hB : onlyOuter B = true) (hrs : rRess (P .o) fn.results.toList = some rs) (e : Exit) (a : Act) (w : World)
    (hq : Cont ⟨P, fn.ntmps, exitX rs K⟩ (Rel fn.ntmps E B) (fun c' c => res (P .o) fn.ntmps c' = some c.erase) [] e a w) : BodyQ (P .o) fn (OutOk E B d K) e a w := by
  have hB' := onlyOuter_spec hB
  have hret : ∀ {E' : Env} {s : St}, Rel fn.ntmps E B E' s a → E'.w = w → exitX rs K none s → a.defers = [] ∧ ∃ v, (results fn a.tmps).run (P .o) w = .ok v w ∧ OutOk E B d K (.returned v) w := by
    rintro E' s hr rfl hX
    unfold exitX at hX
    try simp only at hX
    split at hX
    · rename_i hdf
      have hd := hr.df
      rw [hdf] at hd
      refine ⟨hd, ?_⟩
      cases hv : retv s rs with
      | none => rw [hv] at hX; exact hX.elim
      | some v =>
        rw [hv] at hX
        obtain ⟨z, h1, h2⟩ := results_run hr.si hrs hv
        exact ⟨z, h1, fin_sound (mk := .ret) (e := .returned z) hB' hr (fun _ _ h => h) hX h2 fun E'' v' h' => h'⟩
    · exact hX.elim
  cases e with
  | normal => obtain ⟨E', s, hr, he, hX⟩ := hq; exact hret hr he hX
  | ret => obtain ⟨E', s, hr, he, hX⟩ := hq; exact hret hr he hX
  | panic ch =>
    obtain ⟨E', s, v, x, hr, rfl, rfl, hv, hl, hX⟩ := hq
    unfold exitX at hX
    try simp only at hX
    split at hX
    · rename_i hdf
      have hd' := hr.df
      rw [hdf] at hd'
      exact ⟨hd', fin_sound (mk := .pan) (e := .panicked [{ v := x, recovered := false }]) hB' hr (fun _ _ h => h) hX hv fun E'' v' h' => ⟨x, rfl, h'⟩⟩
    · exact hX.elim
  | _ => exact hq.elim
/-- As exitX, but the end must not come by a return. -/
def exitP (rs : List RRes) (K : ARes → BL → Prop) (v : Option AV) (s : St) : Prop := match v with | none => False | some v => exitX rs K (some v) s
theorem cont_exitP {P : Th Program} {N : Nat} {rs : List RRes} {K : ARes → BL → Prop} {R : Env → St → Act → Prop} {rel : Code → RC → Prop} {I : St → Prop} {e : Exit} {a : Act} {w : World} (he : e ≠ .normal) (h : Cont ⟨P, N, exitP rs K⟩ R rel [.inv I] e a w) :
    Cont ⟨P, N, exitX rs K⟩ R rel [] e a w := by
  have h : Cont ⟨P, N, exitP rs K⟩ R rel [] e a w := by
    cases e with
    | normal => exact (he rfl).elim
    | _ => exact h
  cases e with
  | normal => exact (he rfl).elim
  | ret => obtain ⟨_, _, _, _, hX⟩ := h; exact hX.elim
  | panic ch => exact h
  | _ => exact h
theorem cont_inv {C : Cx} {R : Env → St → Act → Prop} {rel : Code → RC → Prop} {I : St → Prop} {e : Exit} {a : Act} {w : World} : ∀ (l : List RC), e ≠ .normal → Cont C R rel (l.map It.code ++ [.inv I]) e a w → Cont C R rel [.inv I] e a w
  | [], _, h => h
  | c :: l, he, h => by
    refine cont_inv l he ?_
    cases e with
    | normal => exact (he rfl).elim
    | _ => exact h
/-- The first statements. -/
def RC.heads : Nat → RC → List RC
  | k + 1, .seq a b => a :: b.heads k
  | _, _ => []
/-- What is behind them. -/
def RC.rest : Nat → RC → RC
  | k + 1, .seq _ b => b.rest k
  | _, c => c
def seqs : List Code → Code → Code
  | [], r => r
  | c :: l, r => .seq c (seqs l r)
theorem wp_pile {P : Th Program} {N : Nat} {rs : List RRes} {K : ARes → BL → Prop} {R : Env → St → Act → Prop} {I : St → Prop} {Q : Exit → Act → World → Prop} {rest : Code} (hx : ∀ e a w, e ≠ .normal → Cont ⟨P, N, exitX rs K⟩ R (fun c' c => res (P .o) N c' = some c.erase) [] e a w → Q e a w)
    (hrest : ∀ a w, (∃ E s, R E s a ∧ E.w = w ∧ I s) → rest.wp (P .o) Q a w) : ∀ (cs : List Code) (l : List RC) (a : Act) (w : World), cs.map (res (P .o) N) = l.map (fun c => some c.erase) →
    Cont ⟨P, N, exitP rs K⟩ R (fun c' c => res (P .o) N c' = some c.erase) (l.map It.code ++ [.inv I]) .normal a w → (seqs cs rest).wp (P .o) Q a w
  | [], [], a, w, _, h => hrest a w h
  | [], _ :: _, _, _, hr, _ => by cases hr
  | _ :: _, [], _, _, hr, _ => by cases hr
  | c :: cs, rc :: l, a, w, hr, h => by
    simp only [List.map_cons, List.cons.injEq] at hr
    exact wp_seq_pile h hr.1 (fun a w hk => wp_pile hx hrest cs l a w hr.2 hk) fun e a w he hk => hx e a w he (cont_exitP he (cont_inv l he hk))
/-- A FUNCTION'S CONTRACT: the first statements by the executor, the rest by hand. -/
theorem call_of_hand {P : Th Program} {f : Nat} {fn : Func} {cs : List Code} {rest : Code} {l : List RC} {rs : List RRes} {asL0 : List AV} {d : Nat} {B : BL} {K : ARes → BL → Prop} (F : Nat) (I : St → Prop)
    (hf : (P .o).funcs[f]? = some fn) (hb : fn.body = some (seqs cs rest)) (hc : callable (P .o) f = true) (hres : cs.map (res (P .o) fn.ntmps) = l.map (fun c => some c.erase)) (hrs : rRess (P .o) fn.results.toList = some rs)
    (hn : asL0.length ≤ fn.ntmps) (hB : onlyOuter B = true) (h : awp ⟨P, fn.ntmps, exitP rs K⟩ F (l.map It.code ++ [.inv I]) ⟨params 0 asL0, B, .nil⟩)
    (hrest : ∀ E E' s a, Inv E B → ¬ B.liveAt d → Rel fn.ntmps E B E' s a → I s → rest.wp (P .o) (BodyQ (P .o) fn (OutOk E B d K)) a E'.w) : CallAt P f asL0 d B K := by
  refine ⟨hc, fun E vs hinv hvs hloc hdead => calls_of_wp hf hb ?_⟩
  have hB' := onlyOuter_spec hB
  have hlen := chain_len asL0 vs hvs
  have hrel : Rel fn.ntmps E B E ⟨params 0 asL0, B, .nil⟩ { tmps := vs.toArray ++ Array.replicate (fn.ntmps - vs.toArray.size) undef, defers := [] } := by
    refine ⟨fun k => ?_, hinv, fun k y hy => hloc y (params_locs asL0 0 k y hy), ?_, rfl, fun y hy => hy.elim, .refl _ _ _⟩
    · have := params_get (E := E) asL0 0 vs (List.replicate (fn.ntmps - vs.length) undef) hvs (fun u hu => (List.mem_replicate.1 hu).2) k
      rw [Nat.zero_add] at this
      rw [show (vs.toArray ++ Array.replicate (fn.ntmps - vs.toArray.size) undef).getD k undef = (vs ++ List.replicate (fn.ntmps - vs.length) undef).getD k undef from by
        rw [Array.getD_eq_getD_getElem?, List.getD_eq_getElem?_getD]
        congr 1
        rw [← Array.getElem?_toList]
        simp]
      exact this
    · simp [hlen]; omega
  have hw := (awp_sound F _ _ h).run E B hB' E _ hrel
  refine wp_mono (wp_pile (Q := BodyQ (P .o) fn (OutOk E B d K)) (fun e a w _ hq => bodyQ_of hB hrs e a w hq) ?_ cs l _ _ hres hw) fun e a w hq => ?_
  · rintro a w ⟨E', s, hr, rfl, hI⟩
    exact hrest E E' s a hinv hdead hr hI
  · cases e <;> first | exact hq | exact hq.elim
theorem Inv.congr {E : Env} {B B' : BL} (h : Inv E B) (hb : ∀ x, B.get x = B'.get x) : Inv E B' := by
  have hs : ∀ x, solidAt E B' x → solidAt E B x := fun x hx => by unfold solidAt at hx ⊢; rw [hb]; exact hx
  exact ⟨fun d => by rw [← hb]; exact h.blk d, fun d d' h1 h2 => h.dist d d' (hs d h1) (hs d' h2), fun d hd => h.live d (hs d hd), h.ibd, fun d x hx => by rw [← hb] at hx; have := h.nm d x hx; unfold BL.liveAt at this ⊢; rw [← hb]; exact this⟩
theorem Post.congr {E E' : Env} {B B' B'' : BL} {D : Nat → Prop} (h : Post E B E' B' D) (hb : ∀ x, B'.get x = B''.get x) : Post E B E' B'' D := by
  have hl : ∀ x, B''.liveAt x ↔ B'.liveAt x := fun x => by unfold BL.liveAt; rw [hb]
  have hs : ∀ x, solidAt E' B'' x → solidAt E' B' x := fun x hx => by unfold solidAt at hx ⊢; rw [hb]; exact hx
  exact ⟨h.le, h.same, fun x hx hr => by rw [← hb]; exact h.kind x hx hr, h.os, h.tape, h.output, h.size, h.old, fun x hx => h.dom x ((hl x).1 hx), fun x hx => h.new x (hs x hx), fun x hx => (hl x).2 (h.keep x hx), h.imm⟩
/-- One cell of a row comes to hold what was made meanwhile in the blocks S. -/
theorem nest {E : Env} {B : BL} {d sz : Nat} {n : Th Nat} {g g' : Th Nat → AV} {cap : Nat} {cur : List Value} {e : TypeId} (hinv : Inv E B) (hb : B.get d = .row sz n g) (hrv : E.rv d = .slice (some ⟨E.ρ d, 0, none⟩) (n .o) cap)
    (hnc : n .o ≤ cap) (hcm : cap ≤ maxLen) (hcl : cur.length = cap * sz) {w' : World} {v : Value} {j : Nat} (hw' : Hs w' (E.ρ d) (cur.set j v) e sz)
    (h1 : w'.os = E.w.os) (h2 : w'.tape = E.w.tape) (h3 : w'.output = E.w.output) (h4 : E.w.heap.size ≤ w'.heap.size) (h5 : ∀ b, b < E.w.heap.size → b ≠ E.ρ d → w'.heap[b]? = E.w.heap[b]?)
    (S : Nat → Prop) (hS : ∀ b, S b → E.w.heap.size ≤ b ∧ b < w'.heap.size)
    (hg' : ∀ E' : Env, E'.w = w' → E.Le E' → (∀ b o, S b → E'.I b o) → ∀ i, i < n .o → (g' fun _ => i).okE ∧ ListC E' (g' fun _ => i) (((cur.set j v).drop (i * sz)).take sz)) :
    ∃ E', E'.w = w' ∧ E'.ρ = E.ρ ∧ E'.rv = E.rv ∧ Inv E' (.cons d (.row sz n g') B) ∧ Post E B E' (.cons d (.row sz n g') B) (fun _ => False) := by
  let E' : Env := ⟨E.ρ, E.rv, fun b o => E.I b o ∨ S b, w'⟩
  have hd : solidAt E B d := by unfold solidAt; rw [hb]; show E.rv d ≠ _; rw [hrv]; simp
  have hnI : ∀ o, ¬ E.I (E.ρ d) o := (hinv.live d hd).2
  have hle : E.Le E' := ⟨fun _ _ h => .inl h, fun b o hi => cell_heap (h5 b (hinv.ibd b o hi) fun he => hnI o (he ▸ hi))⟩
  have hget : ∀ x, (BL.cons d (.row sz n g') B).get x = if d = x then .row sz n g' else B.get x := fun x => BL.get_cons _ _ _ _
  have hlive : ∀ x, (BL.cons d (.row sz n g') B).liveAt x ↔ B.liveAt x := by
    intro x
    unfold BL.liveAt
    rw [hget]
    split
    · rename_i hx; subst hx; rw [hb]; exact Iff.rfl
    · rfl
  have hsol : ∀ x, solidAt E' (BL.cons d (.row sz n g') B) x → solidAt E B x := by
    intro x hx
    by_cases hxd : d = x
    · subst hxd; exact hd
    · unfold solidAt at hx
      rw [hget, if_neg hxd] at hx
      exact (solid_same rfl).1 hx
  refine ⟨E', rfl, rfl, rfl, ⟨fun x => ?_, fun x y hx hy => hinv.dist x y (hsol x hx) (hsol y hy), fun x hx => ?_, fun b o hb' => ?_, fun x y hy => ?_⟩, ⟨hle, fun _ _ _ => ⟨rfl, rfl⟩, fun x _ hr => ?_, h1, h2, h3, h4, fun b hb' hn => h5 b hb' fun he => hn d hd he.symm, fun x hx => .inl ((hlive x).1 hx), fun x hx => .inl ⟨hsol x hx, rfl⟩, fun x hx => (hlive x).2 hx, fun b o hi => hi.imp id fun h => (hS b h).1⟩⟩
  · rw [hget]
    split
    · rename_i hx
      subst hx
      exact .inr ⟨cap, cur.set j v, e, hrv, hw', hnc, hcm, by rw [List.length_set]; exact hcl, fun i hi => hg' E' rfl hle (fun b o h => .inr h) i hi⟩
    · rename_i hx
      exact blk_mono hle (hinv.blk x) rfl rfl (fun hs => h5 _ (hinv.live x hs).1 fun he => hinv.dist x d hs hd (Ne.symm hx) he) fun _ _ => ⟨rfl, rfl⟩
  · have := hinv.live x (hsol x hx)
    refine ⟨Nat.lt_of_lt_of_le this.1 h4, fun o ho => ?_⟩
    rcases ho with ho | ho
    · exact this.2 o ho
    · exact absurd this.1 (by have := (hS _ ho).1; show ¬ E.ρ x < _; exact Nat.not_lt.2 this)
  · rcases hb' with hb' | hb'
    · exact Nat.lt_of_lt_of_le (hinv.ibd b o hb') h4
    · exact (hS b hb').2
  · rw [hget] at hy
    split at hy
    · exact hy.elim
    · exact (hlive y).2 (hinv.nm x y hy)
  · rw [hget]
    split
    · rename_i hx; subst hx; rw [hb] at hr; exact hr
    · exact hr
end Go.Proofs.YtkklflpfklbbcaaDoor.Sx
/- The program's file system: one more name in a directory, at the machine's level. -/
namespace Go.Proofs.YtkklflpfklbbcaaDoor
open Go Go.RowKit Go.Shelf Go.Lib
open Go.Proofs.YtkklflpfklbbcaaDoor.Sx F
set_option linter.unusedVariables false
set_option linter.unusedSimpArgs false
/-- slices.Insert of one element of two cells, wherever. -/
theorem insD_m (v : Value) (n i : Nat) (xs : List Value) (b : Nat) (w : World) (hrow : RowOk w 2 v n xs b) (hxl : xs.length = n * 2) (hin : i ≤ n) (hn : n ≤ 1000) (h1c : ∀ u ∈ xs, u.oneCell' = true)
    (vb vo vc : Nat) (vv : List Value) (hvl : vv.length = 2) (hvs : ∀ j u, vv[j]? = some u → w.cell? ⟨vb, vo + j, none⟩ = some u) (h1v : ∀ u ∈ vv, u.oneCell' = true) (hvb : v ≠ nilV → vb ≠ b) :
    Calls Tryd.prog insF #[v, .int .i64 i, .slice (some ⟨vb, vo, none⟩) 1 vc] w (InsR w v b (n + 1) (xs.take (i * 2) ++ vv ++ xs.drop (i * 2))) := by
  by_cases he : i = n
  · subst he
    have h := ins_end v i xs b w hrow hxl ⟨vb, vo, none⟩ vc vv hvl (fun j u hj => by rw [addr_add]; exact hvs j u hj) h1v hn
    rw [List.take_of_length_le (by omega), List.drop_of_length_le (by omega), List.append_nil]
    exact h
  · have hlt : i < n := by omega
    rcases hrow with ⟨rfl, h0, _⟩ | ⟨cap, cur, e', rfl, hg', hnc, hcm, hcs, htake⟩
    · omega
    · rw [← htake] at h1c ⊢
      by_cases hroom : n < cap
      · exact ins_shift n i cap cur e' b w hg' hroom hcm hcs hlt h1c vb vo vc vv hvl hvs h1v hn (hvb (by simp [nilV]))
      · exact ins_grow n i cap cur e' b w hg' hnc (by omega) hcs hlt h1c vb vo vc vv hvl hvs h1v hn
/-- A node's cells, but for its names. -/
theorem ino_split {E : Env} {n : Th Ino} {l : List Value} (h : ListC E (Ino.ch n) l) : ∃ l0 kv, l = l0 ++ [kv] ∧ l0.length = 19 ∧ Rp E (dents fun _ => (n .o).kids) kv ∧
    ∀ (E' : Env) (ks : List Dent) (kv' : Value), E.Le E' → Rp E' (dents fun _ => ks) kv' → ListC E' (Ino.ch fun _ => { n .o with kids := ks }) (l0 ++ [kv']) := by
  have hl := listC_len h
  obtain ⟨v0, r, rfl, h0, h⟩ := listC_cons.1 h
  obtain ⟨v1, r, rfl, h1, h⟩ := listC_cons.1 h
  obtain ⟨v2, r, rfl, h2, h⟩ := listC_cons.1 h
  obtain ⟨v3, r, rfl, h3, h⟩ := listC_cons.1 h
  obtain ⟨v4, r, rfl, h4, h⟩ := listC_cons.1 h
  obtain ⟨v5, r, rfl, h5, h⟩ := listC_cons.1 h
  obtain ⟨v6, r, rfl, h6, h⟩ := listC_cons.1 h
  obtain ⟨v7, r, rfl, h7, h⟩ := listC_cons.1 h
  obtain ⟨v8, r, rfl, h8, h⟩ := listC_cons.1 h
  obtain ⟨v9, r, rfl, h9, h⟩ := listC_cons.1 h
  obtain ⟨v10, r, rfl, h10, h⟩ := listC_cons.1 h
  obtain ⟨v11, r, rfl, h11, h⟩ := listC_cons.1 h
  obtain ⟨v12, r, rfl, h12, h⟩ := listC_cons.1 h
  obtain ⟨v13, r, rfl, h13, h⟩ := listC_cons.1 h
  obtain ⟨v14, r, rfl, h14, h⟩ := listC_cons.1 h
  obtain ⟨v15, r, rfl, h15, h⟩ := listC_cons.1 h
  obtain ⟨v16, r, rfl, h16, h⟩ := listC_cons.1 h
  obtain ⟨v17, r, rfl, h17, h⟩ := listC_cons.1 h
  obtain ⟨v18, r, rfl, h18, h⟩ := listC_cons.1 h
  obtain ⟨v19, r, rfl, h19, h⟩ := listC_cons.1 h
  rw [listC_nil.1 h]
  refine ⟨[v0, v1, v2, v3, v4, v5, v6, v7, v8, v9, v10, v11, v12, v13, v14, v15, v16, v17, v18], v19, rfl, rfl, h19, fun E' ks kv' hle hk => ?_⟩
  have m : ∀ {x : AV} {v : Value}, (∀ y, ¬ x.locs y) → Rp E x v → Rp E' x v := fun hx hv => (rp_mono hle _ fun y hy => (hx y hy).elim).1 _ hv
  refine ⟨_, _, rfl, m (fun _ h => h) h0, _, _, rfl, m (fun _ h => h) h1, _, _, rfl, m (fun _ h => h) h2, _, _, rfl, m (fun _ h => h) h3, _, _, rfl, m (fun _ h => h) h4, _, _, rfl, m (fun _ h => h) h5, _, _, rfl, m (fun _ h => h) h6, _, _, rfl, m (fun _ h => h) h7, _, _, rfl, m (fun _ h => h) h8, _, _, rfl, m (fun _ h => h) h9, _, _, rfl, m (fun _ h => h) h10, _, _, rfl, m (fun _ h => h) h11, _, _, rfl, m (fun _ h => h) h12, _, _, rfl, m (fun _ h => h) h13, _, _, rfl, m (fun _ h => h) h14, _, _, rfl, m (fun _ h => h) h15, _, _, rfl, m (fun _ h => h) h16, _, _, rfl, m (fun _ h => h) h17, _, _, rfl, m (fun _ h => h) h18, _, _, rfl, hk, rfl⟩
/-- Names in a row, whatever the memory. -/
theorem dents_row {E : Env} {w : World} {v : Value} {m : Nat} {xs : List Value} {b : Nat} (l : List Dent) (hm : m = l.length) (h : RowOk w 2 v m xs b) (hw : E.w = w) (hI : v ≠ nilV → ∀ o, E.I b o) (hx : ∀ j, j < l.length → ListC E (Dent.ch fun _ => l.getD j Dent.z) ((xs.drop (j * 2)).take 2)) : Rp E (dents fun _ => l) v := by
  subst hm
  rcases h with ⟨rfl, h0, rfl⟩ | ⟨cap, cur, e, rfl, hg, hnc, hcm, hcl, rfl⟩
  · refine ⟨none, 0, by show _ = Value.slice none l.length 0; rw [h0]; rfl, by show l.length ≤ 0; omega, fun i hi => by have hi : i < l.length := hi; omega⟩
  · refine ⟨_, cap, rfl, hnc, fun i hi => ⟨⟨⟨⟨trivial, trivial, trivial⟩, rfl⟩, rfl⟩, b, 0, rfl, ?_⟩⟩
    have hi : i < l.length := hi
    refine memC_of_list _ _ _ _ (hx i hi) fun j u hj => ⟨?_, hI (by simp [nilV]) _⟩
    rw [hw, hg.cell]
    rw [List.getElem?_take] at hj
    split at hj
    · rw [List.getElem?_drop, List.getElem?_take] at hj
      split at hj
      · rw [← hj]; congr 1; omega
      · cases hj
    · cases hj
/-- slices.Clone of names, at the machine's level. -/
theorem cloneD_m {E : Env} {w : World} (hw : E.w = w) (hI : ∀ b o, E.I b o → b < w.heap.size) (l : List Dent) (hl : l.length ≤ 1000) (kv : Value) (hk : Rp E (dents fun _ => l) kv) :
    Calls Tryd.prog slices_Clone_api_Dirent_api_Dirent #[kv] w fun e w2 => ∃ v2 b2 xs, e = .returned v2 ∧ RowOk w2 2 v2 l.length xs b2 ∧ xs.length = l.length * 2 ∧ (v2 ≠ nilV → w.heap.size ≤ b2 ∧ b2 < w2.heap.size) ∧ Below w.heap.size w w2 ∧ ∀ (E' : Env) j, j < l.length → ListC E' (Dent.ch fun _ => l.getD j Dent.z) ((xs.drop (j * 2)).take 2) := by
  subst hw
  have hdead : ∀ x, ¬ BL.nil.liveAt x := fun x hx => by simp [BL.liveAt, BL.get, Blk.live] at hx
  have hnil : Inv E .nil := ⟨fun d => trivial, fun d d' hd => (hdead d (solid_live hd)).elim, fun d hd => (hdead d (solid_live hd)).elim, hI, fun d x hx => hx.elim⟩
  have h : CallAt PT slices_Clone_api_Dirent_api_Dirent [dents fun _ => l] 0 .nil fun r B' => (r = .ret .nsl ∧ B' = .nil ∧ l.length = 0) ∨ (r = .ret (.row 0) ∧ B' = .cons 0 (rowB 2 Dent.ch Dent.z fun _ => l) .nil) :=
    cloneD_c (fun _ => l) hl (fun h0 => .inl ⟨rfl, rfl, h0⟩) (.inr ⟨rfl, rfl⟩)
  refine (h.run E [kv] hnil ⟨_, _, rfl, hk, rfl⟩ (fun x hx => (by simp [chain, AV.locs, dents] at hx)) (hdead _)).mono ?_
  rintro e w' ⟨E', r, B', rfl, hK, hend, hi, hp, _⟩
  have hbel : Below E.w.heap.size E.w E'.w := ⟨hp.os, hp.tape, hp.output, hp.size, fun b hb => hp.old b hb fun x hx => (hdead x (solid_live hx)).elim⟩
  rcases hK with ⟨rfl, rfl, h0⟩ | ⟨rfl, rfl⟩
  · cases e with
    | returned v =>
      obtain rfl : v = .slice none 0 0 := hend
      exact ⟨_, 0, [], rfl, .inl ⟨rfl, h0, rfl⟩, by rw [h0]; rfl, fun q => (q rfl).elim, hbel, fun _ j hj => by omega⟩
    | _ => exact hend.elim
  · cases e with
    | returned v =>
      obtain ⟨rfl, _⟩ : v = E'.rv 0 ∧ _ := hend
      have hb := hi.blk 0
      have hg : (BL.cons 0 (rowB 2 Dent.ch Dent.z fun _ => l) .nil).get 0 = rowB 2 Dent.ch Dent.z fun _ => l := rfl
      rw [hg] at hb
      obtain ⟨xs, q1, q2, q3⟩ := row_list hb
      refine ⟨_, _, xs, rfl, q1, q2, fun q => ?_, hbel, fun E2 j hj => ?_⟩
      · have hs : solidAt E' (.cons 0 (rowB 2 Dent.ch Dent.z fun _ => l) .nil) 0 := by unfold solidAt; rw [hg]; exact q
        rcases hp.new 0 hs with ⟨q4, _⟩ | q4
        · exact (hdead _ (solid_live q4)).elim
        · exact ⟨q4, (hi.live 0 hs).1⟩
      · exact (flat_spec (Dent.ch fun _ => l.getD j Dent.z) rfl).2.1 _ (q3 j hj).2
    | _ => exact hend.elim
theorem seg_insD {xs vs : List Value} {i j : Nat} (hv : vs.length = 2) (hi : i * 2 ≤ xs.length) (hj : (j + 1) * 2 ≤ xs.length + 2) :
    ((xs.take (i * 2) ++ vs ++ xs.drop (i * 2)).drop (j * 2)).take 2 = if j < i then (xs.drop (j * 2)).take 2 else if j = i then vs else (xs.drop ((j - 1) * 2)).take 2 := by
  have hl : (xs.take (i * 2)).length = i * 2 := by rw [List.length_take]; omega
  by_cases h1 : j < i
  · rw [if_pos h1, List.append_assoc, List.drop_append_of_le_length (by omega), List.take_append_of_le_length (by rw [List.length_drop]; omega), List.drop_take, List.take_take, Nat.min_eq_left (by omega)]
  · rw [if_neg h1]
    by_cases h2 : j = i
    · subst h2
      rw [if_pos rfl, List.append_assoc, List.drop_left' hl, List.take_left' hv]
    · rw [if_neg h2, List.drop_append, List.drop_eq_nil_of_le (by rw [List.length_append]; omega), List.nil_append, List.length_append, hl, hv, List.drop_drop]
      congr 2
      omega
theorem ins_elems {E : Env} {l : List Dent} {xs : List Value} {i : Nat} {x : Dent} (hxl : xs.length = l.length * 2) (hi : i ≤ l.length) (hx : ∀ j, j < l.length → ListC E (Dent.ch fun _ => l.getD j Dent.z) ((xs.drop (j * 2)).take 2)) :
    ∀ j, j < (l.take i ++ x :: l.drop i).length → ListC E (Dent.ch fun _ => (l.take i ++ x :: l.drop i).getD j Dent.z) (((xs.take (i * 2) ++ [Value.string ⟨x.name.toArray⟩, Value.int .i64 x.ino] ++ xs.drop (i * 2)).drop (j * 2)).take 2) := by
  intro j hj
  have hll : (l.take i ++ x :: l.drop i).length = l.length + 1 := by simp only [List.length_append, List.length_take, List.length_cons, List.length_drop]; omega
  rw [hll] at hj
  rw [seg_insD rfl (by omega) (by omega)]
  by_cases h1 : j < i
  · have e : (l.take i ++ x :: l.drop i).getD j Dent.z = l.getD j Dent.z := by
      simp only [List.getD_eq_getElem?_getD]
      rw [List.getElem?_append_left (by rw [List.length_take]; omega), List.getElem?_take, if_pos h1]
    rw [if_pos h1, e]
    exact hx j (by omega)
  · rw [if_neg h1]
    by_cases h2 : j = i
    · subst h2
      have e : (l.take j ++ x :: l.drop j).getD j Dent.z = x := by
        simp only [List.getD_eq_getElem?_getD]
        rw [List.getElem?_append_right (by rw [List.length_take]; omega), List.length_take, Nat.min_eq_left hi, Nat.sub_self]
        rfl
      rw [if_pos rfl, e]
      exact ⟨_, _, rfl, rfl, _, _, rfl, rfl, rfl⟩
    · have e : (l.take i ++ x :: l.drop i).getD j Dent.z = l.getD (j - 1) Dent.z := by
        simp only [List.getD_eq_getElem?_getD]
        rw [List.getElem?_append_right (by rw [List.length_take]; omega), List.length_take, Nat.min_eq_left hi]
        obtain ⟨q, hq⟩ : ∃ q, j - i = q + 1 := ⟨j - i - 1, by omega⟩
        rw [hq, List.getElem?_cons_succ, List.getElem?_drop]
        congr 2
        omega
      rw [if_neg h2, e]
      exact hx (j - 1) (by omega)
theorem row_oneCell {w : World} {sz : Nat} {v : Value} {n : Nat} {xs : List Value} {b : Nat} (h : RowOk w sz v n xs b) : v.oneCell' = true := by
  rcases h with ⟨rfl, _⟩ | ⟨_, _, _, rfl, _⟩ <;> rfl
theorem rowOk_of {w w' : World} {sz : Nat} {v : Value} {n : Nat} {xs : List Value} {b : Nat} (h : RowOk w sz v n xs b) (hw : v ≠ nilV → w'.heap[b]? = w.heap[b]?) : RowOk w' sz v n xs b := by
  rcases h with h | ⟨cap, cur, e, rfl, hg, h⟩
  · exact .inl h
  · exact .inr ⟨cap, cur, e, rfl, hg.of (hw (by simp [nilV])), h⟩
theorem seg_set20 {cur : List Value} {i k : Nat} {v : Value} : (((cur.set (k * 20 + 19) v).drop (i * 20)).take 20) = if i = k then (((cur.drop (k * 20)).take 20).set 19 v) else (cur.drop (i * 20)).take 20 := by
  split
  · rename_i h
    subst h
    rw [List.drop_set, if_neg (by omega), List.take_set, show i * 20 + 19 - i * 20 = 19 by omega]
  · rename_i h
    rw [List.drop_set]
    split
    · rfl
    · rw [List.take_set, List.set_eq_of_length_le (by rw [List.length_take]; omega)]
/-- The nodes, with other names of one of them, in the row's cells. -/
theorem inos_set {E : Env} {E' : Env} (hle : E.Le E') {nodes : List Ino} {k : Nat} {ks : List Dent} {cur : List Value} {v : Value} (hk : k < nodes.length)
    (hel : ∀ i, i < nodes.length → ListC E (Ino.ch fun _ => nodes.getD i Ino.z) ((cur.drop (i * 20)).take 20)) (hv : Rp E' (dents fun _ => ks) v) :
    ∀ i, i < nodes.length → ListC E' (Ino.ch fun _ => (nodes.set k { nodes.getD k Ino.z with kids := ks }).getD i Ino.z) (((cur.set (k * 20 + 19) v).drop (i * 20)).take 20) := by
  intro i hi
  rw [seg_set20]
  by_cases h : i = k
  · subst h
    rw [if_pos rfl]
    obtain ⟨lk, kv, hsplit, hlk, _, hmk⟩ := ino_split (hel i hi)
    rw [hsplit, List.set_append_right _ _ (by omega), hlk]
    have e : (nodes.set i { nodes.getD i Ino.z with kids := ks }).getD i Ino.z = { nodes.getD i Ino.z with kids := ks } := by
      rw [List.getD_eq_getElem?_getD, List.getElem?_set_self hi]; rfl
    rw [e]
    exact hmk E' ks v hle hv
  · rw [if_neg h]
    have e : (nodes.set k { nodes.getD k Ino.z with kids := ks }).getD i Ino.z = nodes.getD i Ino.z := by
      rw [List.getD_eq_getElem?_getD, List.getElem?_set_ne (Ne.symm h), ← List.getD_eq_getElem?_getD]
    rw [e]
    exact (rp_mono hle _ fun y hy => ((AV.still_locs _).1 (ino_ok _).1.1 y hy).elim).2.1 _ (hel i hi)
end Go.Proofs.YtkklflpfklbbcaaDoor
/- The program's file system: one more name in a directory. -/
namespace Go.Proofs.YtkklflpfklbbcaaDoor
open Go Go.RowKit Go.Shelf Go.Lib
open Go.Proofs.YtkklflpfklbbcaaDoor.Sx F
set_option linter.unusedVariables false
set_option linter.unusedSimpArgs false
/-- A directory's names, others. -/
def kidsS (f : FS) (k : Nat) (l : List Dent) : FS := { f with nodes := f.nodes.set k { f.nodes.getD k Ino.z with kids := l } }
/-- Where the call's name stands. -/
def midN (f : Th FS) (c : Th Cred) (k : Nat) (s : Th (List UInt8)) (to : Th Int) (S : St) : Prop := ∃ i : Nat, AtD ((f .o).nodes.getD k Ino.z).kids (s .o) i ∧ ¬ (i < ((f .o).nodes.getD k Ino.z).kids.length ∧ (((f .o).nodes.getD k Ino.z).kids.getD i Dent.z).name = s .o) ∧
  S.t.get 0 = .ptr 10000 0 ∧ S.t.get 1 = .int .i64 (fun _ => zi k) ∧ S.t.get 2 = .str s ∧ S.t.get 3 = .int .i64 to ∧ S.t.get 8 = .int .i64 (fun _ => zi i) ∧ S.b = callB f c ∧ S.df = .nil
theorem nodes_get {f : Th FS} {c : Th Cred} {l : List Ino} {n : Th Nat} (hn : n .o = l.length := by rfl) : ∀ x, (BL.cons 10001 (.row 20 n fun j => Ino.ch fun _ => l.getD (j .o) Ino.z) (callB f c)).get x = (callB (fun _ => { f .o with nodes := l }) c).get x := by
  have e : n = fun _ => l.length := funext fun | .o => hn
  subst e
  intro x
  by_cases h1 : x = 10001
  · subst h1; rfl
  · by_cases h0 : x = 10000
    · subst h0; rfl
    · simp [BL.get_cons, callB, Ne.symm h1, Ne.symm h0]
set_option maxHeartbeats 4000000 in
set_option maxRecDepth 100000 in
theorem nameF_c (f : Th FS) (c : Th Cred) (k : Nat) (s : Th (List UInt8)) (to : Th Int) (hf : FsOk (f .o)) (hup : UpF (f .o)) (hk : k < (f .o).nodes.length) (hino : ∀ n ∈ (f .o).nodes, ∀ d ∈ n.kids, 0 ≤ d.ino) {d : Nat} {K : ARes → BL → Prop}
    (h1 : 0 ≤ kidS ((f .o).nodes.getD k Ino.z).kids (s .o) → K (.pan (failV fun _ => 3)) (callB f c))
    (h2 : kidS ((f .o).nodes.getD k Ino.z).kids (s .o) = -1 → K (.ret (.tup .nil)) (callB (fun _ => kidsS (f .o) k (putD ⟨s .o, to .o⟩ ((f .o).nodes.getD k Ino.z).kids)) c)) :
    CallAt PT fs_call_name [.ptr 10000 0, .int .i64 fun _ => zi k, .str s, .int .i64 to] d (callB f c) K := by
  refine call_of_hand (cs := [_, _]) (l := fs_call_name.rc.heads 2) (rs := fs_call_name.rs) 1000 (midN f c k s to) Tryd.func41 rfl (by kernel_rfl) (by kernel_rfl) (by kernel_rfl) (by show 4 ≤ _; decide) rfl ?_ ?_
  · cbv
    refine kid19_c f c k s hf hup hk fun i hi b hb => ?_
    cbv
    refine mustF_c (fun _ => !b .o) (fun _ => 3) (fun q => ?_) (fun q => ?_)
    · cbv
      refine ⟨i, hi, fun w => ?_, rfl, rfl, rfl, rfl, rfl, rfl, rfl⟩
      have q : (!b .o) = true := q
      rw [hb.2 w] at q
      cases q
    · cbv
      have q : (!b .o) = false := q
      obtain ⟨r1, r2⟩ := hb.1 (by simpa using q)
      exact h1 (by rw [kidS_found hi r1 r2]; exact hino _ (node_mem hk) _ (dent_mem r1))
  · rintro E E' S ⟨tmps, defers⟩ hinv hdead hR ⟨i, hat, hno, t0, t1, t2, t3, t8, hSb, hSd⟩
    have F0 : tmps.getD 0 undef = .pointer (some ⟨E'.ρ 10000, 0, none⟩) := by have := hR.tmps 0; rw [t0] at this; exact this
    have F1 : tmps.getD 1 undef = .int .i64 k := by have := hR.tmps 1; rw [t1] at this; exact this
    have F2 : tmps.getD 2 undef = .string ⟨(s .o).toArray⟩ := by have := hR.tmps 2; rw [t2] at this; exact this
    have F3 : tmps.getD 3 undef = .int .i64 (to .o) := by have := hR.tmps 3; rw [t3] at this; exact this
    have F8 : tmps.getD 8 undef = .int .i64 i := by have := hR.tmps 8; rw [t8] at this; exact this
    have hdf : defers = [] := by have := hR.df; rw [hSd] at this; exact this
    subst hdf
    have hsz : tmps.size = 35 := hR.sz
    have heta := arr_eta tmps 35 hsz
    obtain ⟨h, hh⟩ : ∃ h : Nat → Value, h = fun i => tmps.getD i undef := ⟨_, rfl⟩
    have heta : tmps = ((List.range 35).map h).toArray := by rw [hh]; exact heta
    replace F0 : h 0 = .pointer (some ⟨E'.ρ 10000, 0, none⟩) := by rw [hh]; exact F0
    replace F1 : h 1 = .int .i64 k := by rw [hh]; exact F1
    replace F2 : h 2 = .string ⟨(s .o).toArray⟩ := by rw [hh]; exact F2
    replace F3 : h 3 = .int .i64 (to .o) := by rw [hh]; exact F3
    replace F8 : h 8 = .int .i64 i := by rw [hh]; exact F8
    have hInv := hR.inv
    have hpost := hR.post
    rw [hSb] at hInv hpost
    clear hh hR
    subst heta
    obtain ⟨l0, e0, hb0, hl0⟩ : ∃ l e, E'.w.heap[E'.ρ 10000]? = some (.cells (List.toArray l) e (0, 0)) ∧ ListC E' (callC f c 10001) l := hInv.blk 10000
    obtain ⟨NV, l1, rfl, ⟨hNV, _⟩, hl1⟩ := listC_cons.1 hl0
    have hb1 : BlkRp E' 10001 (rowB 20 Ino.ch Ino.z fun _ => (f .o).nodes) := hInv.blk 10001
    rcases hb1 with ⟨_, q⟩ | ⟨cap, cur, e1, hrv, hs1, hnc, hcm, hcl, hel⟩
    · have q : (f .o).nodes.length = 0 := q
      omega
    have hnc : (f .o).nodes.length ≤ cap := hnc
    have hkel : ListC E' (Ino.ch fun _ => (f .o).nodes.getD k Ino.z) ((cur.drop (k * 20)).take 20) := (hel k hk).2
    obtain ⟨lk, kv, hsplit, hlk, hkv, hmk⟩ := ino_split hkel
    have hmul : (k + 1) * 20 ≤ cap * 20 := Nat.mul_le_mul_right _ (by omega)
    have hkc : k * 20 + 19 < cur.length := by omega
    have hkvc : cur[k * 20 + 19]? = some kv := by
      have e : ((cur.drop (k * 20)).take 20)[19]? = some kv := by rw [hsplit, List.getElem?_append_right (by omega), hlk]; rfl
      rw [List.getElem?_take_of_lt (by decide), List.getElem?_drop] at e
      exact e
    have hr01 : E'.ρ 10000 ≠ E'.ρ 10001 := hInv.dist 10000 10001 trivial (by show E'.rv 10001 ≠ _; rw [hrv]; simp) (by decide)
    have hl01 : E'.ρ 10000 < E'.w.heap.size := (hInv.live 10000 trivial).1
    have hlt1 : E'.ρ 10001 < E'.w.heap.size := hs1.lt
    have hkids := (hf.kids _ (node_mem hk)).1
    have hcl0 : E'.w.cell? ⟨E'.ρ 10000, 0, none⟩ = some (.slice (some ⟨E'.ρ 10001, 0, none⟩) (f .o).nodes.length cap) := by
      rw [← show NV = Value.slice (some ⟨E'.ρ 10001, 0, none⟩) (f .o).nodes.length cap from hNV.trans hrv]
      simp [World.cell?, hb0]
    show Code.wp (PT .o) _ _ ⟨#[h 0, h 1, h 2, h 3, h 4, h 5, h 6, h 7, h 8, h 9, h 10, h 11, h 12, h 13, h 14, h 15, h 16, h 17, h 18, h 19, h 20, h 21, h 22, h 23, h 24, h 25, h 26, h 27, h 28, h 29, h 30, h 31, h 32, h 33, h 34], []⟩ _
    rw [F0, F1, F2, F3, F8]
    show Code.wp Tryd.prog _ _ _ _
    go_wp2_with fail
    refine (kids_m E'.w _ _ k _ cap cur e1 hcl0 hk kv (by rw [hs1.cell]; exact hkvc) hkc (fun v2 w2 => ∃ b2 xs, RowOk w2 2 v2 ((f .o).nodes.getD k Ino.z).kids.length xs b2 ∧ xs.length = ((f .o).nodes.getD k Ino.z).kids.length * 2 ∧ (v2 ≠ nilV → E'.w.heap.size ≤ b2 ∧ b2 < w2.heap.size) ∧ Below E'.w.heap.size E'.w w2 ∧
        ∀ (E2 : Env) j, j < ((f .o).nodes.getD k Ino.z).kids.length → ListC E2 (Dent.ch fun _ => ((f .o).nodes.getD k Ino.z).kids.getD j Dent.z) ((xs.drop (j * 2)).take 2)) ?_).mono ?_
    · refine (cloneD_m rfl hInv.ibd _ hkids kv hkv).mono ?_
      rintro e w2 ⟨v2, b2, xs, rfl, q1, q2, q3, q4, q5⟩
      refine ⟨v2, rfl, ?_, hs1.of (q4.block _ hlt1), b2, xs, q1, q2, q3, q4, q5⟩
      rcases q1 with ⟨rfl, _⟩ | ⟨_, _, _, rfl, _⟩ <;> rfl
    have hupk := hup _ (node_mem hk)
    rintro e w1 ⟨rfl, v2, w2, hv2, hs2, ⟨b2, xs, q1, q2, q3, q4, q5⟩, rfl⟩
    generalize ((f .o).nodes.getD k Ino.z).kids = ks at *
    obtain ⟨W3, hW3⟩ : ∃ W3, W3 = w2.setRow (E'.ρ 10001) (cur.set (k * 20 + 19) v2).toArray := ⟨_, rfl⟩
    have hs3 : Hs W3 (E'.ρ 10001) (cur.set (k * 20 + 19) v2) e1 20 := by rw [hW3]; exact hs2.setRow (by simp)
    have hoth3 : ∀ b, b ≠ E'.ρ 10001 → W3.heap[b]? = w2.heap[b]? := fun b hb => by rw [hW3]; exact setRow_other w2 _ b _ hb
    have hsz3 : W3.heap.size = w2.heap.size := by rw [hW3]; simp [World.setRow]
    have hq0 : W3.os = w2.os ∧ W3.tape = w2.tape ∧ W3.output = w2.output := by rw [hW3]; exact ⟨rfl, rfl, rfl⟩
    have hc3 : W3.cell? ⟨E'.ρ 10001, k * 20 + 19, none⟩ = some v2 := by rw [hs3.cell]; simp [hkc]
    rw [← hW3]
    clear hW3
    go_wp2_with fail
    obtain ⟨W4, hW4⟩ : ∃ W4, W4 = W3.alloc (Obj.cells #[Value.string { data := (s O1.o).toArray }, Value.int IntKind.i64 (to O1.o)] 99) := ⟨_, rfl⟩
    have hold4 : ∀ b, b < w2.heap.size → W4.heap[b]? = W3.heap[b]? := fun b hb => by rw [hW4]; exact heap_alloc_old W3 _ (by omega)
    have hnew4 : W4.heap[w2.heap.size]? = some (.cells #[Value.string { data := (s O1.o).toArray }, Value.int IntKind.i64 (to O1.o)] 99 (0, 0)) := by rw [hW4, ← hsz3]; exact heap_alloc_new W3 _
    have hsz4 : W4.heap.size = w2.heap.size + 1 := by rw [hW4, ← hsz3]; simp
    have hr4 : W4.os = W3.os ∧ W4.tape = W3.tape ∧ W4.output = W3.output := by rw [hW4]; exact ⟨rfl, rfl, rfl⟩
    rw [← hW4]
    clear hW4
    have hb2 : v2 ≠ nilV → b2 ≠ E'.ρ 10001 := fun q => by have := q3 q; omega
    have hrow4 : RowOk W4 2 v2 ks.length xs b2 := rowOk_of q1 fun q => by rw [hold4 b2 (q3 q).2, hoth3 b2 (hb2 q)]
    have hws := q4.size
    refine (insD_m v2 ks.length i xs b2 W4 hrow4 q2 hat.le hkids (fun u hu => rows_one (gy := fun j => Dent.ch fun _ => ks.getD (j .o) Dent.z) (E := E') q2 (fun j hj => ⟨⟨⟨trivial, trivial, trivial⟩, rfl⟩, q5 E' j hj⟩) u hu) w2.heap.size 0 1 [.string ⟨(s .o).toArray⟩, .int .i64 (to .o)] rfl (fun j u hj => ?_) (by intro u hu; simp at hu; rcases hu with rfl | rfl <;> rfl) ?_).mono ?_
    · unfold World.cell?
      simp only [hnew4]
      rw [Nat.zero_add]
      simpa using hj
    · intro q
      have := (q3 q).2
      omega
    rintro e w5 ⟨v5, b5, rfl, hrow5, hgr, hnew5⟩
    have hlt1' : E'.ρ 10001 < W4.heap.size := by omega
    have hs5 : Hs w5 (E'.ρ 10001) (cur.set (k * 20 + 19) v2) e1 20 := hs3.of (by rw [hgr.old _ hlt1' fun q => Ne.symm (hb2 q), hold4 _ (by omega)])
    have hst := store_row (P := Tryd.prog) hs5 (by rw [List.length_set]; exact hkc) (row_oneCell hrow5)
    rw [List.set_set] at hst
    have hs6 : Hs (w5.setRow (E'.ρ 10001) (cur.set (k * 20 + 19) v5).toArray) (E'.ρ 10001) (cur.set (k * 20 + 19) v5) e1 20 := hs5.setRow (by simp)
    have hoth6 : ∀ b, b ≠ E'.ρ 10001 → (w5.setRow (E'.ρ 10001) (cur.set (k * 20 + 19) v5).toArray).heap[b]? = w5.heap[b]? := fun b hb => setRow_other w5 _ b _ hb
    have hsz6 : (w5.setRow (E'.ρ 10001) (cur.set (k * 20 + 19) v5).toArray).heap.size = w5.heap.size := by simp [World.setRow]
    have hq6 : (w5.setRow (E'.ρ 10001) (cur.set (k * 20 + 19) v5).toArray).os = w5.os ∧ (w5.setRow (E'.ρ 10001) (cur.set (k * 20 + 19) v5).toArray).tape = w5.tape ∧ (w5.setRow (E'.ρ 10001) (cur.set (k * 20 + 19) v5).toArray).output = w5.output := ⟨rfl, rfl, rfl⟩
    generalize w5.setRow (E'.ρ 10001) (cur.set (k * 20 + 19) v5).toArray = W6 at hst hs6 hoth6 hsz6 hq6
    have hput : ks.take i ++ ⟨s .o, to .o⟩ :: ks.drop i = putD ⟨s .o, to .o⟩ ks := (putD_at ⟨s .o, to .o⟩ ks i hat.le hat.lo fun q => hat.hi i (Nat.le_refl _) q).symm
    have hb5 : v5 ≠ nilV → E'.w.heap.size ≤ b5 ∧ b5 < W6.heap.size ∧ b5 ≠ E'.ρ 10001 := fun q => by
      have hgs := hgr.size
      rcases hnew5 q with ⟨q6, rfl⟩ | ⟨q6, q7⟩
      · have := q3 q6
        omega
      · omega
    go_wp2_with fail
    all_goals
      rw [hst]
      go_wp2_with fail
    all_goals
      obtain ⟨E6, hE6, hρ6, hrv6, hinv6, hpost6⟩ := nest (g' := fun j => Ino.ch fun _ => ((f .o).nodes.set k { (f .o).nodes.getD k Ino.z with kids := putD ⟨s .o, to .o⟩ ks }).getD (j .o) Ino.z) hInv (show (callB f c).get 10001 = rowB 20 Ino.ch Ino.z fun _ => (f .o).nodes from rfl) hrv hnc hcm hcl hs6
        (by rw [hq6.1, hgr.os, hr4.1, hq0.1, q4.os]) (by rw [hq6.2.1, hgr.tape, hr4.2.1, hq0.2.1, q4.tape]) (by rw [hq6.2.2, hgr.output, hr4.2.2, hq0.2.2, q4.output]) (by have := hgr.size; omega)
        (fun b hb hne => by rw [hoth6 b hne, hgr.old b (by omega) (fun q => by rcases hb5' : decide (b = b2) with _ | _; exact of_decide_eq_false hb5'; have := q3 q; have := of_decide_eq_true hb5'; omega), hold4 b (by omega), hoth3 b hne, q4.block b hb])
        (fun b => v5 ≠ nilV ∧ b = b5) (fun b ⟨q, e⟩ => by have := hb5 q; omega)
        (fun E2 hE2 hle hS j hj => ⟨(ino_ok _).1, inos_set hle hk (fun j hj => (hel j hj).2) (dents_row _ (by rw [← hput]; simp only [List.length_append, List.length_take, List.length_cons, List.length_drop]; have := hat.le; omega) (rowOk_of hrow5 fun q => hoth6 b5 (hb5 q).2.2) hE2 (fun q o => hS b5 o ⟨q, rfl⟩) (by rw [← hput]; exact ins_elems q2 hat.le (q5 E2))) j hj⟩)
      subst hE6
      refine bodyQ_of (rs := fs_call_name.rs) rfl (by kernel_rfl) .normal _ _ ⟨E6, ⟨.nil, callB (fun _ => kidsS (f .o) k (putD ⟨s .o, to .o⟩ ks)) c, .nil⟩, ⟨fun _ => trivial, hinv6.congr ?_, fun _ _ h => h.elim, rfl, rfl, fun _ h => h.elim, (hpost.trans hpost6 fun _ h => h.elim).congr ?_⟩, rfl, ?_⟩
      rotate_left 2
      · cbv
        exact h2 (kidS_none hupk hat hno)
      · exact nodes_get (by show (f .o).nodes.length = _; rw [List.length_set])
      · exact nodes_get (by show (f .o).nodes.length = _; rw [List.length_set])
end Go.Proofs.YtkklflpfklbbcaaDoor
/- slices.DeleteFunc of a directory's names. -/
namespace Go.Proofs.YtkklflpfklbbcaaDoor
open Go Go.Proofs.YtkklflpfklbbcaaDoor.Sx F
set_option linter.unusedVariables false
set_option linter.unusedSimpArgs false
end Go.Proofs.YtkklflpfklbbcaaDoor
/- The program's file system: who asks, and what is asked for reading only. -/
namespace Go.Proofs.YtkklflpfklbbcaaDoor
open Go Go.Proofs.YtkklflpfklbbcaaDoor.Sx F
set_option linter.unusedVariables false
set_option linter.unusedSimpArgs false
end Go.Proofs.YtkklflpfklbbcaaDoor
/- The program's file system: Remove's closure. -/
namespace Go.Proofs.YtkklflpfklbbcaaDoor
open Go Go.RowKit Go.Shelf Go.Lib
open Go.Proofs.YtkklflpfklbbcaaDoor.Sx F
set_option linter.unusedVariables false
set_option linter.unusedSimpArgs false
end Go.Proofs.YtkklflpfklbbcaaDoor
/- The program's file system: a call that changes one, as the document has it. -/
namespace Go.Proofs.YtkklflpfklbbcaaDoor
open Go Go.Proofs.YtkklflpfklbbcaaDoor.Sx F
set_option linter.unusedVariables false
set_option linter.unusedSimpArgs false
/-- A call that changes a file system, if it may be: what is done ends with an error, or yields another one. -/
def chgS (f : FS) (may : Bool) (d : FS → Int ⊕ FS) : FS × Int := if may = false then (f, 1) else if askE f ≠ 0 then (askS f, askE f) else match d (askS f) with | .inl e => (askS f, e) | .inr g => (g, 0)
def isPath (p : List UInt8) : Bool := (partsS p).isSome
/-- Some paths' names, walked. -/
def allP (l : List (List UInt8)) : Bool := l.all isPath
theorem allP_take {l : List (List UInt8)} {k : Nat} (hk : k < l.length) : allP (l.take (k + 1)) = (allP (l.take k) && isPath (l.getD k [])) := by
  unfold allP
  rw [List.take_succ_eq_append_getElem hk, List.all_append, List.getD_eq_getElem?_getD, List.getElem?_eq_getElem hk]
  simp
theorem chg_may {f : FS} {may : Bool} {d : FS → Int ⊕ FS} (h : may = false) : chgS f may d = (f, 1) := by unfold chgS; rw [if_pos h]
theorem chg_ask {f : FS} {may : Bool} {d : FS → Int ⊕ FS} (h : may = true) (he : askE f = 8) : chgS f may d = (askS f, 8) := by
  unfold chgS
  rw [if_neg (by rw [h]; simp), if_pos (by rw [he]; decide), he]
theorem chg_err {f : FS} {may : Bool} {d : FS → Int ⊕ FS} {e : Int} (h : may = true) (he : askE f = 0) (hd : d (askS f) = .inl e) : chgS f may d = (askS f, e) := by
  unfold chgS
  rw [if_neg (by rw [h]; simp), if_neg (by rw [he]; simp), hd]
theorem chg_ok {f g : FS} {may : Bool} {d : FS → Int ⊕ FS} (h : may = true) (he : askE f = 0) (hd : d (askS f) = .inr g) : chgS f may d = (g, 0) := by
  unfold chgS
  rw [if_neg (by rw [h]; simp), if_neg (by rw [he]; simp), hd]
theorem Walk.ask {f : FS} {c : Cred} (h : Walk f c) : Walk (askS f) c := ⟨h.ok.ask, h.up, h.can, h.ino, h.grp⟩
def preRm (p : List UInt8) : Prop := p ≠ [] ∧ isPath p = true
theorem pre_parts {p : List UInt8} (h : preRm p) : ∃ l, partsS p = some l ∧ 0 < l.length := by
  obtain ⟨h1, h2⟩ := h
  unfold isPath at h2
  obtain ⟨l, hl⟩ := Option.isSome_iff_exists.1 h2
  refine ⟨l, hl, ?_⟩
  unfold partsS at hl
  rw [if_neg h1] at hl
  split at hl
  · cases hl; exact List.length_pos_iff.2 (splitC_pos _ _)
  · cases hl
end Go.Proofs.YtkklflpfklbbcaaDoor
/- The program's file system: Make's closure. -/
namespace Go.Proofs.YtkklflpfklbbcaaDoor
open Go Go.Proofs.YtkklflpfklbbcaaDoor.Sx F
set_option linter.unusedVariables false
set_option linter.unusedSimpArgs false
def mkP (f : FS) (c : Cred) (k : Nat) (s : List UInt8) (n : Ino) : Int ⊕ FS :=
  if (f.nodes.getD k Ino.z).kind ≠ 6 then .inl 10 else
  if (CanS (f.nodes.getD k Ino.z).mt c 3 && decide (band (f.nodes.getD k Ino.z).mt.flags 1 = 0)) = false then .inl 7 else
  if 0 ≤ kidS (f.nodes.getD k Ino.z).kids s then .inl 3 else
  if (n.kind = 4 ∨ n.kind = 5) ∧ ¬ 0 < band c.powers 16 then .inl 7 else
  if ¬ (usedS f.nodes < 64 ∧ (n.data.length : Int) ≤ f.room) then .inl 9 else
  .inr { f with nodes := ((fullS f.nodes).set (freeS f.nodes) (madeS c n)).set k { f.nodes.getD k Ino.z with kids := putD ⟨s, (freeS f.nodes : Int)⟩ (f.nodes.getD k Ino.z).kids }, room := f.room - (n.data.length : Int) }
def mkD (c : Cred) (p : List UInt8) (n : Ino) (f : FS) : Int ⊕ FS := match partsS p with
  | none => .inl 1
  | some l => if (downS f c l.dropLast 0).2 ≠ 0 then .inl (downS f c l.dropLast 0).2 else mkP f c (downS f c l.dropLast 0).1.toNat (l.getD (l.length - 1) []) n
theorem mkP_err {f : FS} {c : Cred} {k : Nat} {s : List UInt8} {n : Ino} {e : Int} (h : mkP f c k s n = .inl e) : e ≠ 0 := by
  unfold mkP at h
  split at h
  · cases h; decide
  · split at h
    · cases h; decide
    · split at h
      · cases h; decide
      · split at h
        · cases h; decide
        · split at h
          · cases h; decide
          · cases h
def BMk (f : Th FS) (c : Th Cred) (p : Th (List UInt8)) (n : Th Ino) : BL := .cons 10000 (.cells (callC f c 10001)) (.cons 10001 (rowB 20 Ino.ch Ino.z fun _ => (f .o).nodes) (.cons 10002 (.cells (.cons (.str p) .nil)) (.cons 10003 (.cells (Ino.ch n)) (.cons 10004 (.cells (Cred.ch c)) .nil))))
theorem used_full : ∀ l : List Ino, freeS l = l.length → usedS l = l.length
  | [], _ => rfl
  | n :: r, h => by
    unfold freeS at h
    split at h
    · simp at h
    · rename_i q
      have := used_full r (by simpa using h)
      unfold usedS at this ⊢
      rw [List.countP_cons_of_pos (by simpa using q), this, List.length_cons]
theorem free_lt_full (l : List Ino) : freeS l < (fullS l).length := by
  have := freeS_le l
  unfold fullS
  split
  · rename_i h; rw [List.length_append, h]; simp
  · omega
theorem full_get {l : List Ino} {k : Nat} (h : k < l.length) : (fullS l).getD k Ino.z = l.getD k Ino.z := by
  unfold fullS
  split
  · simp only [List.getD_eq_getElem?_getD]; rw [List.getElem?_append_left h]
  · rfl
theorem free_kind : ∀ (l : List Ino), freeS l < l.length → (l.getD (freeS l) Ino.z).kind = 0
  | [], h => by simp at h
  | n :: r, h => by
    unfold freeS at h ⊢
    split
    · rename_i q; simpa using q
    · rename_i q
      rw [if_neg q] at h
      simpa using free_kind r (by simpa using h)
theorem full_kind (l : List Ino) : ((fullS l).getD (freeS l) Ino.z).kind = 0 := by
  have := freeS_le l
  unfold fullS
  split
  · rename_i h
    rw [h, List.getD_eq_getElem?_getD, List.getElem?_append_right (Nat.le_refl _), Nat.sub_self]
    rfl
  · exact free_kind l (by omega)
theorem full_len (l : List Ino) : l.length ≤ (fullS l).length ∧ (usedS l < 64 → l.length ≤ 1000 → (fullS l).length ≤ 1000) := by
  unfold fullS
  split
  · rename_i h
    have := used_full l h
    rw [List.length_append]
    exact ⟨by omega, fun _ _ => by simp; omega⟩
  · exact ⟨Nat.le_refl _, fun _ h => h⟩
theorem full_mem {l : List Ino} {n : Ino} (h : n ∈ fullS l) : n ∈ l ∨ n = Ino.z := by
  unfold fullS at h
  split at h
  · rcases List.mem_append.1 h with h | h
    · exact .inl h
    · exact .inr (by simpa using h)
  · exact .inl h
/-- With one node more, or another one. -/
structure Less (f g : FS) : Prop where
  len : f.nodes.length ≤ g.nodes.length
  few : g.nodes.length ≤ 1000
  faults : g.faults = f.faults
  nodes : ∀ n ∈ g.nodes, n ∈ f.nodes ∨ (n.kids = [] ∧ n.mt.acl = [])
theorem Less.ok {f g : FS} (h : Less f g) (hf : FsOk f) : FsOk g := by
  have hl := h.len
  refine ⟨Nat.lt_of_lt_of_le hf.ne h.len, h.few, fun n hn => ?_, fun n hn => ?_, by rw [h.faults]; exact hf.faults⟩
  · rcases h.nodes n hn with q | ⟨q, _⟩
    · have := hf.kids n q
      exact ⟨this.1, fun d hd => by have := this.2 d hd; omega⟩
    · rw [q]; exact ⟨Nat.zero_le _, fun d hd => by cases hd⟩
  · rcases h.nodes n hn with q | ⟨_, q⟩
    · exact hf.acl n q
    · rw [q]; exact Nat.zero_le _
theorem Less.up {f g : FS} (h : Less f g) (hf : UpF f) : UpF g := fun n hn => by
  rcases h.nodes n hn with q | ⟨q, _⟩
  · exact hf n q
  · rw [q]; exact List.Pairwise.nil
set_option maxHeartbeats 4000000 in
theorem opMake_c (f : Th FS) (c : Th Cred) (p : Th (List UInt8)) (n : Th Ino) (hW : Walk (f .o) (c .o)) (hp : (p .o).length ≤ 100000) (hn : (n .o).data.length ≤ 1000000) (hroom : -1000000 ≤ (f .o).room ∧ (f .o).room ≤ 1000000000) (hpre : preRm (p .o)) {d : Nat} {K : ARes → BL → Prop}
    (h1 : ∀ e : Th Int, mkD (c .o) (p .o) (n .o) (f .o) = .inl (e .o) → e .o ≠ 0 → K (.pan (failV e)) (BMk f c p n))
    (h2 : ∀ g : Th FS, mkD (c .o) (p .o) (n .o) (f .o) = .inr (g .o) → K (.ret (.tup .nil)) (BMk g c p n)) :
    CallAt PT fs_Make_1 [.ptr 10000 0, .ptr 10002 0, .ptr 10003 0, .ptr 10004 0] d (BMk f c p n) K := by
  obtain ⟨l, hl, hl0⟩ := pre_parts hpre
  have hS : mkD (c .o) (p .o) (n .o) (f .o) = if (downS (f .o) (c .o) l.dropLast 0).2 ≠ 0 then .inl (downS (f .o) (c .o) l.dropLast 0).2 else mkP (f .o) (c .o) (downS (f .o) (c .o) l.dropLast 0).1.toNat (l.getD (l.length - 1) []) (n .o) := by unfold mkD; rw [hl]
  refine fs_Make_1.of rfl rfl ?_
  cbv
  refine above19_c f c p l hW hp hl hl0 (fun k q1 q2 => ?_) (fun e q1 q2 => ?_)
  rotate_left
  · cbv
    exact h1 e (by rw [hS, q1, if_pos q2]) q2
  replace hS : mkD (c .o) (p .o) (n .o) (f .o) = mkP (f .o) (c .o) k (l.getD (l.length - 1) []) (n .o) := by rw [hS, q1, if_neg (by simp)]; dsimp only; rw [zi_toNat]
  replace h1 : ∀ e : Th Int, mkP (f .o) (c .o) k (l.getD (l.length - 1) []) (n .o) = .inl (e .o) → K (.pan (failV e)) (BMk f c p n) := fun e h => h1 e (hS.trans h) (mkP_err h)
  replace h2 : ∀ g : Th FS, mkP (f .o) (c .o) k (l.getD (l.length - 1) []) (n .o) = .inr (g .o) → K (.ret (.tup .nil)) (BMk g c p n) := fun g h => h2 g (hS.trans h)
  clear hS
  generalize l.getD (l.length - 1) [] = s at h1 h2 ⊢
  unfold mkP at h1 h2
  have hkz := zi_toNat k
  cbv
  refine safe ⟨zi_nonneg _, zi_lt.2 q2⟩ ?_
  refine safe (by rw [hkz]; exact q2) ?_
  simp only [hkz]
  refine mustF_c (fun _ => decide (((f .o).nodes.getD k Ino.z).kind = 6)) (fun _ => 10) (fun r1 => ?_) (fun r1 => ?_)
  rotate_left
  · have r1 : ¬ ((f .o).nodes.getD k Ino.z).kind = 6 := of_decide_eq_false r1
    rw [if_pos r1] at h1
    cbv
    exact h1 (fun _ => 10) rfl
  have r1 : ((f .o).nodes.getD k Ino.z).kind = 6 := of_decide_eq_true r1
  rw [if_neg (by simpa using r1)] at h1 h2
  cbv
  refine mayWrite19_c f c k hW.ok q2 hW.grp fun bw hbw => ?_
  rw [← hbw] at h1 h2
  cbv
  refine mustF_c bw (fun _ => 7) (fun r2 => ?_) (fun r2 => ?_)
  rotate_left
  · rw [if_pos r2] at h1
    cbv
    exact h1 (fun _ => 7) rfl
  rw [if_neg (by rw [r2]; simp)] at h1 h2
  cbv
  refine kid19_c f c k (fun _ => s) hW.ok hW.up q2 fun i hi b hb => ?_
  cbv
  refine mustF_c (fun _ => !b .o) (fun _ => 3) (fun r3 => ?_) (fun r3 => ?_)
  rotate_left
  · have r3 : b .o = true := by have r3 : (!b .o) = false := r3; simpa using r3
    obtain ⟨r4, r5⟩ := hb.1 r3
    have e : 0 ≤ kidS ((f .o).nodes.getD k Ino.z).kids s := by rw [kidS_found hi r4 r5]; exact hW.ino _ (node_mem q2) _ (dent_mem r4)
    rw [if_pos e] at h1
    cbv
    exact h1 (fun _ => 3) rfl
  have r3 : ¬ (i < ((f .o).nodes.getD k Ino.z).kids.length ∧ (((f .o).nodes.getD k Ino.z).kids.getD i Dent.z).name = s) := fun q => by
    have r3 : (!b .o) = true := r3
    rw [hb.2 q] at r3; cases r3
  have hkid : kidS ((f .o).nodes.getD k Ino.z).kids s = -1 := kidS_none (hW.up _ (node_mem q2)) hi r3
  rw [hkid, if_neg (by decide)] at h1 h2
  have hlen := full_len (f .o).nodes
  have hfl := free_lt_full (f .o).nodes
  have hff := full_get q2
  have hfk := full_kind (f .o).nodes
  have hfz := zi_toNat (freeS (f .o).nodes)
  have hne : freeS (f .o).nodes ≠ k := fun q => by rw [q, hff] at hfk; rw [hfk] at r1; cases r1
  have hwr : IntKind.i64.wrap ((f .o).room - zi (n .o).data.length) = (f .o).room - zi (n .o).data.length := by rw [IntKind.wrap_i64]; unfold zi; omega
  have hgk : ∀ X : Ino, (((fullS (f .o).nodes).set (freeS (f .o).nodes) X).getD k Ino.z) = (f .o).nodes.getD k Ino.z := fun X => by
    rw [← hff]
    simp only [List.getD_eq_getElem?_getD]
    rw [List.getElem?_set_ne hne]
  cbv
  have h12 : (n .o).kind ≠ 4 → (n .o).kind ≠ 5 → ¬ (((n .o).kind = 4 ∨ (n .o).kind = 5) ∧ ¬ 0 < band (c .o).powers 16) := fun a b q => q.1.elim a b
  have h13 : 0 < band (c .o).powers 16 → ¬ (((n .o).kind = 4 ∨ (n .o).kind = 5) ∧ ¬ 0 < band (c .o).powers 16) := fun a q => q.2 a
  refine ⟨fun s1 => ?_, fun s1 => ?_⟩
  · have s1 : ¬ (n .o).kind = 4 := by have s1 : (!decide ((n .o).kind = 4)) = true := s1; simpa using s1
    cbv
    refine ⟨fun s2 => ?_, fun s2 => ?_⟩
    · have s2 : (n .o).kind = 5 := by have s2 : (!decide ((n .o).kind = 5)) = false := s2; simpa using s2
      have hdev : (n .o).kind = 4 ∨ (n .o).kind = 5 := .inr s2
      cbv
      refine power19_c f c (fun _ => 16) fun b16 hb16 => ?_
      have hb16 : b16 .o = decide (0 < band (c .o).powers 16) := hb16
      cbv
      refine mustF_c b16 (fun _ => 7) (fun s3 => ?_) (fun s3 => ?_)
      rotate_left
      · rw [if_pos ⟨hdev, of_decide_eq_false (hb16.symm.trans s3)⟩] at h1
        cbv
        exact h1 (fun _ => 7) rfl
      have hno := h13 (of_decide_eq_true (hb16.symm.trans s3))
      rw [if_neg hno] at h1 h2
      cbv
      refine CallAt.frameP [(10000, 10000), (10001, 10001)] [.ptr 10000 0, .int .i64 fun _ => zi (n .o).data.length] (by kernel_rfl) rfl fun K1 hK1 => ?_
      cbv
      refine free19_c f c (fun _ => zi (n .o).data.length) hW.ok (fun u1 u2 => hK1 _ _ ?_) (fun u1 => hK1 _ _ ?_)
      rotate_left
      · have u1 : ¬ (usedS (f .o).nodes < 64 ∧ ((n .o).data.length : Int) ≤ (f .o).room) := u1
        rw [if_pos u1] at h1
        cbv
        exact h1 (fun _ => 9) rfl
      have u2 : ((n .o).data.length : Int) ≤ (f .o).room := u2
      rw [if_neg (by simpa using ⟨u1, u2⟩)] at h1 h2
      replace hlen : (f .o).nodes.length ≤ (fullS (f .o).nodes).length ∧ (fullS (f .o).nodes).length ≤ 1000 := ⟨hlen.1, hlen.2 u1 hW.ok.few⟩
      generalize hFS : fullS (f .o).nodes = N at hlen hfl hff hfk hgk h2
      generalize hFR : freeS (f .o).nodes = j at hfl hfk hfz hne hgk h2
      obtain ⟨X, hX⟩ : ∃ X, X = madeS (c .o) (n .o) := ⟨_, rfl⟩
      have hmade : ∀ m : Int, (if (n .o).kind = 3 then 511 else (n .o).mt.mode) = m → X = ⟨(n .o).kind, { metaZ with mode := m, uid := (c .o).uid, gid := (c .o).gid }, (n .o).data, (n .o).target, (n .o).major, (n .o).minor, []⟩ := fun m q => by rw [hX]; unfold madeS; rw [q]
      have hXk : X.kids = [] ∧ X.mt.acl = [] := by rw [hX]; exact ⟨rfl, rfl⟩
      rw [← hX] at h2
      obtain ⟨G, hG⟩ : ∃ G : FS, G = { f .o with nodes := N.set j X, room := (f .o).room - zi (n .o).data.length } := ⟨_, rfl⟩
      have hLess : Less (f .o) G := by
        rw [hG]
        refine ⟨by show _ ≤ (List.set _ _ _).length; rw [List.length_set]; exact hlen.1, by show (List.set _ _ _).length ≤ _; rw [List.length_set]; exact hlen.2, rfl, fun x hx => ?_⟩
        rcases List.mem_or_eq_of_mem_set hx with q | rfl
        · rw [← hFS] at q
          rcases full_mem q with q | rfl
          · exact .inl q
          · exact .inr ⟨rfl, rfl⟩
        · exact .inr hXk
      have hGk : G.nodes.getD k Ino.z = (f .o).nodes.getD k Ino.z := by rw [hG]; exact hgk X
      have hGl : k < G.nodes.length := Nat.lt_of_lt_of_le q2 hLess.len
      have hGino : ∀ x ∈ G.nodes, ∀ d ∈ x.kids, 0 ≤ d.ino := fun x hx => by
        rcases hLess.nodes x hx with q | ⟨q, _⟩
        · exact hW.ino x q
        · rw [q]; exact fun d hd => by cases hd
      cbv
      refine br_dec (fun v1 => ?_) (fun v1 => ?_)
      · have v1 : (n .o).kind = 3 := v1
        have hmade := hmade 511 (if_pos v1)
        cbv
        simp only [hFR, hFS]
        refine safe ⟨zi_nonneg _, zi_lt.2 hfl⟩ ?_
        refine put_ino N X rfl (fun i hi => rfl) (by show (zi j).toNat < N.length; rw [hfz]; exact hfl) (by rw [hmade]; exact SameM.cons (.refl _) (.cons (.refl _) (.cons (.refl _) (.cons (.refl _) (.cons (.refl _) (.cons (.refl _) (.cons (.nsl rfl) (.cons (.nsl rfl) (.cons (.nsl rfl) (.cons (.refl _) (.cons (.refl _) (.cons (.refl _) (.cons (.ff rfl) (.cons (.refl _) (.cons (.refl _) (.cons (.refl _) (.cons (.refl _) (.cons (.refl _) (.cons (.refl _) (.cons (.nsl rfl) .nil)))))))))))))))))))) ?_
        cbv
        simp only [hfz, hwr]
        rw [show (fun _ : O1 => N.length) = fun _ => (N.set j X).length from funext fun _ => List.length_set.symm]
        refine CallAt.frameP [(10000, 10000), (10001, 10001)] [.ptr 10000 0, .int .i64 fun _ => zi k, .str fun _ => s, .int .i64 fun _ => zi j] (by kernel_rfl) rfl fun K1 hK1 => ?_
        cbv
        subst hG
        refine nameF_c (fun _ => { f .o with nodes := N.set j X, room := (f .o).room - zi (n .o).data.length }) c k (fun _ => s) (fun _ => zi j) (hLess.ok hW.ok) (hLess.up hW.up) hGl hGino (fun q => ?_) (fun q => hK1 _ _ ?_)
        · exfalso
          dsimp only at q hGk
          rw [hGk, hkid] at q
          exact absurd q (by decide)
        · cbv
          have hGk : (N.set j X).getD k Ino.z = (f .o).nodes.getD k Ino.z := hGk
          have h2 := h2 (fun _ => kidsS { f .o with nodes := N.set j X, room := (f .o).room - zi (n .o).data.length } k (putD ⟨s, zi j⟩ ((f .o).nodes.getD k Ino.z).kids)) (by unfold kidsS; dsimp only; rw [hGk]; rfl)
          rw [← hGk] at h2
          exact h2
      · have v1 : ¬ (n .o).kind = 3 := v1
        have hmade := hmade (n .o).mt.mode (if_neg v1)
        cbv
        simp only [hFR, hFS]
        refine safe ⟨zi_nonneg _, zi_lt.2 hfl⟩ ?_
        refine put_ino N X rfl (fun i hi => rfl) (by show (zi j).toNat < N.length; rw [hfz]; exact hfl) (by rw [hmade]; exact SameM.cons (.refl _) (.cons (.refl _) (.cons (.refl _) (.cons (.refl _) (.cons (.refl _) (.cons (.refl _) (.cons (.nsl rfl) (.cons (.nsl rfl) (.cons (.nsl rfl) (.cons (.refl _) (.cons (.refl _) (.cons (.refl _) (.cons (.ff rfl) (.cons (.refl _) (.cons (.refl _) (.cons (.refl _) (.cons (.refl _) (.cons (.refl _) (.cons (.refl _) (.cons (.nsl rfl) .nil)))))))))))))))))))) ?_
        cbv
        simp only [hfz, hwr]
        rw [show (fun _ : O1 => N.length) = fun _ => (N.set j X).length from funext fun _ => List.length_set.symm]
        refine CallAt.frameP [(10000, 10000), (10001, 10001)] [.ptr 10000 0, .int .i64 fun _ => zi k, .str fun _ => s, .int .i64 fun _ => zi j] (by kernel_rfl) rfl fun K1 hK1 => ?_
        cbv
        subst hG
        refine nameF_c (fun _ => { f .o with nodes := N.set j X, room := (f .o).room - zi (n .o).data.length }) c k (fun _ => s) (fun _ => zi j) (hLess.ok hW.ok) (hLess.up hW.up) hGl hGino (fun q => ?_) (fun q => hK1 _ _ ?_)
        · exfalso
          dsimp only at q hGk
          rw [hGk, hkid] at q
          exact absurd q (by decide)
        · cbv
          have hGk : (N.set j X).getD k Ino.z = (f .o).nodes.getD k Ino.z := hGk
          have h2 := h2 (fun _ => kidsS { f .o with nodes := N.set j X, room := (f .o).room - zi (n .o).data.length } k (putD ⟨s, zi j⟩ ((f .o).nodes.getD k Ino.z).kids)) (by unfold kidsS; dsimp only; rw [hGk]; rfl)
          rw [← hGk] at h2
          exact h2
    · have s2 : ¬ (n .o).kind = 5 := by have s2 : (!decide ((n .o).kind = 5)) = true := s2; simpa using s2
      have hno := h12 s1 s2
      cbv
      refine CallAt.args (.cons (Same.tt rfl) (.cons (Same.refl _) .nil)) (mustF_c (fun _ => true) (fun _ => 7) (fun _ => ?_) (fun h => by cases h))
      rw [if_neg hno] at h1 h2
      cbv
      refine CallAt.frameP [(10000, 10000), (10001, 10001)] [.ptr 10000 0, .int .i64 fun _ => zi (n .o).data.length] (by kernel_rfl) rfl fun K1 hK1 => ?_
      cbv
      refine free19_c f c (fun _ => zi (n .o).data.length) hW.ok (fun u1 u2 => hK1 _ _ ?_) (fun u1 => hK1 _ _ ?_)
      rotate_left
      · have u1 : ¬ (usedS (f .o).nodes < 64 ∧ ((n .o).data.length : Int) ≤ (f .o).room) := u1
        rw [if_pos u1] at h1
        cbv
        exact h1 (fun _ => 9) rfl
      have u2 : ((n .o).data.length : Int) ≤ (f .o).room := u2
      rw [if_neg (by simpa using ⟨u1, u2⟩)] at h1 h2
      replace hlen : (f .o).nodes.length ≤ (fullS (f .o).nodes).length ∧ (fullS (f .o).nodes).length ≤ 1000 := ⟨hlen.1, hlen.2 u1 hW.ok.few⟩
      generalize hFS : fullS (f .o).nodes = N at hlen hfl hff hfk hgk h2
      generalize hFR : freeS (f .o).nodes = j at hfl hfk hfz hne hgk h2
      obtain ⟨X, hX⟩ : ∃ X, X = madeS (c .o) (n .o) := ⟨_, rfl⟩
      have hmade : ∀ m : Int, (if (n .o).kind = 3 then 511 else (n .o).mt.mode) = m → X = ⟨(n .o).kind, { metaZ with mode := m, uid := (c .o).uid, gid := (c .o).gid }, (n .o).data, (n .o).target, (n .o).major, (n .o).minor, []⟩ := fun m q => by rw [hX]; unfold madeS; rw [q]
      have hXk : X.kids = [] ∧ X.mt.acl = [] := by rw [hX]; exact ⟨rfl, rfl⟩
      rw [← hX] at h2
      obtain ⟨G, hG⟩ : ∃ G : FS, G = { f .o with nodes := N.set j X, room := (f .o).room - zi (n .o).data.length } := ⟨_, rfl⟩
      have hLess : Less (f .o) G := by
        rw [hG]
        refine ⟨by show _ ≤ (List.set _ _ _).length; rw [List.length_set]; exact hlen.1, by show (List.set _ _ _).length ≤ _; rw [List.length_set]; exact hlen.2, rfl, fun x hx => ?_⟩
        rcases List.mem_or_eq_of_mem_set hx with q | rfl
        · rw [← hFS] at q
          rcases full_mem q with q | rfl
          · exact .inl q
          · exact .inr ⟨rfl, rfl⟩
        · exact .inr hXk
      have hGk : G.nodes.getD k Ino.z = (f .o).nodes.getD k Ino.z := by rw [hG]; exact hgk X
      have hGl : k < G.nodes.length := Nat.lt_of_lt_of_le q2 hLess.len
      have hGino : ∀ x ∈ G.nodes, ∀ d ∈ x.kids, 0 ≤ d.ino := fun x hx => by
        rcases hLess.nodes x hx with q | ⟨q, _⟩
        · exact hW.ino x q
        · rw [q]; exact fun d hd => by cases hd
      cbv
      refine br_dec (fun v1 => ?_) (fun v1 => ?_)
      · have v1 : (n .o).kind = 3 := v1
        have hmade := hmade 511 (if_pos v1)
        cbv
        simp only [hFR, hFS]
        refine safe ⟨zi_nonneg _, zi_lt.2 hfl⟩ ?_
        refine put_ino N X rfl (fun i hi => rfl) (by show (zi j).toNat < N.length; rw [hfz]; exact hfl) (by rw [hmade]; exact SameM.cons (.refl _) (.cons (.refl _) (.cons (.refl _) (.cons (.refl _) (.cons (.refl _) (.cons (.refl _) (.cons (.nsl rfl) (.cons (.nsl rfl) (.cons (.nsl rfl) (.cons (.refl _) (.cons (.refl _) (.cons (.refl _) (.cons (.ff rfl) (.cons (.refl _) (.cons (.refl _) (.cons (.refl _) (.cons (.refl _) (.cons (.refl _) (.cons (.refl _) (.cons (.nsl rfl) .nil)))))))))))))))))))) ?_
        cbv
        simp only [hfz, hwr]
        rw [show (fun _ : O1 => N.length) = fun _ => (N.set j X).length from funext fun _ => List.length_set.symm]
        refine CallAt.frameP [(10000, 10000), (10001, 10001)] [.ptr 10000 0, .int .i64 fun _ => zi k, .str fun _ => s, .int .i64 fun _ => zi j] (by kernel_rfl) rfl fun K1 hK1 => ?_
        cbv
        subst hG
        refine nameF_c (fun _ => { f .o with nodes := N.set j X, room := (f .o).room - zi (n .o).data.length }) c k (fun _ => s) (fun _ => zi j) (hLess.ok hW.ok) (hLess.up hW.up) hGl hGino (fun q => ?_) (fun q => hK1 _ _ ?_)
        · exfalso
          dsimp only at q hGk
          rw [hGk, hkid] at q
          exact absurd q (by decide)
        · cbv
          have hGk : (N.set j X).getD k Ino.z = (f .o).nodes.getD k Ino.z := hGk
          have h2 := h2 (fun _ => kidsS { f .o with nodes := N.set j X, room := (f .o).room - zi (n .o).data.length } k (putD ⟨s, zi j⟩ ((f .o).nodes.getD k Ino.z).kids)) (by unfold kidsS; dsimp only; rw [hGk]; rfl)
          rw [← hGk] at h2
          exact h2
      · have v1 : ¬ (n .o).kind = 3 := v1
        have hmade := hmade (n .o).mt.mode (if_neg v1)
        cbv
        simp only [hFR, hFS]
        refine safe ⟨zi_nonneg _, zi_lt.2 hfl⟩ ?_
        refine put_ino N X rfl (fun i hi => rfl) (by show (zi j).toNat < N.length; rw [hfz]; exact hfl) (by rw [hmade]; exact SameM.cons (.refl _) (.cons (.refl _) (.cons (.refl _) (.cons (.refl _) (.cons (.refl _) (.cons (.refl _) (.cons (.nsl rfl) (.cons (.nsl rfl) (.cons (.nsl rfl) (.cons (.refl _) (.cons (.refl _) (.cons (.refl _) (.cons (.ff rfl) (.cons (.refl _) (.cons (.refl _) (.cons (.refl _) (.cons (.refl _) (.cons (.refl _) (.cons (.refl _) (.cons (.nsl rfl) .nil)))))))))))))))))))) ?_
        cbv
        simp only [hfz, hwr]
        rw [show (fun _ : O1 => N.length) = fun _ => (N.set j X).length from funext fun _ => List.length_set.symm]
        refine CallAt.frameP [(10000, 10000), (10001, 10001)] [.ptr 10000 0, .int .i64 fun _ => zi k, .str fun _ => s, .int .i64 fun _ => zi j] (by kernel_rfl) rfl fun K1 hK1 => ?_
        cbv
        subst hG
        refine nameF_c (fun _ => { f .o with nodes := N.set j X, room := (f .o).room - zi (n .o).data.length }) c k (fun _ => s) (fun _ => zi j) (hLess.ok hW.ok) (hLess.up hW.up) hGl hGino (fun q => ?_) (fun q => hK1 _ _ ?_)
        · exfalso
          dsimp only at q hGk
          rw [hGk, hkid] at q
          exact absurd q (by decide)
        · cbv
          have hGk : (N.set j X).getD k Ino.z = (f .o).nodes.getD k Ino.z := hGk
          have h2 := h2 (fun _ => kidsS { f .o with nodes := N.set j X, room := (f .o).room - zi (n .o).data.length } k (putD ⟨s, zi j⟩ ((f .o).nodes.getD k Ino.z).kids)) (by unfold kidsS; dsimp only; rw [hGk]; rfl)
          rw [← hGk] at h2
          exact h2
  · have s1 : (n .o).kind = 4 := by have s1 : (!decide ((n .o).kind = 4)) = false := s1; simpa using s1
    have hdev : (n .o).kind = 4 ∨ (n .o).kind = 5 := .inl s1
    cbv
    refine power19_c f c (fun _ => 16) fun b16 hb16 => ?_
    have hb16 : b16 .o = decide (0 < band (c .o).powers 16) := hb16
    cbv
    refine mustF_c b16 (fun _ => 7) (fun s3 => ?_) (fun s3 => ?_)
    rotate_left
    · rw [if_pos ⟨hdev, of_decide_eq_false (hb16.symm.trans s3)⟩] at h1
      cbv
      exact h1 (fun _ => 7) rfl
    have hno := h13 (of_decide_eq_true (hb16.symm.trans s3))
    rw [if_neg hno] at h1 h2
    cbv
    refine CallAt.frameP [(10000, 10000), (10001, 10001)] [.ptr 10000 0, .int .i64 fun _ => zi (n .o).data.length] (by kernel_rfl) rfl fun K1 hK1 => ?_
    cbv
    refine free19_c f c (fun _ => zi (n .o).data.length) hW.ok (fun u1 u2 => hK1 _ _ ?_) (fun u1 => hK1 _ _ ?_)
    rotate_left
    · have u1 : ¬ (usedS (f .o).nodes < 64 ∧ ((n .o).data.length : Int) ≤ (f .o).room) := u1
      rw [if_pos u1] at h1
      cbv
      exact h1 (fun _ => 9) rfl
    have u2 : ((n .o).data.length : Int) ≤ (f .o).room := u2
    rw [if_neg (by simpa using ⟨u1, u2⟩)] at h1 h2
    replace hlen : (f .o).nodes.length ≤ (fullS (f .o).nodes).length ∧ (fullS (f .o).nodes).length ≤ 1000 := ⟨hlen.1, hlen.2 u1 hW.ok.few⟩
    generalize hFS : fullS (f .o).nodes = N at hlen hfl hff hfk hgk h2
    generalize hFR : freeS (f .o).nodes = j at hfl hfk hfz hne hgk h2
    obtain ⟨X, hX⟩ : ∃ X, X = madeS (c .o) (n .o) := ⟨_, rfl⟩
    have hmade : ∀ m : Int, (if (n .o).kind = 3 then 511 else (n .o).mt.mode) = m → X = ⟨(n .o).kind, { metaZ with mode := m, uid := (c .o).uid, gid := (c .o).gid }, (n .o).data, (n .o).target, (n .o).major, (n .o).minor, []⟩ := fun m q => by rw [hX]; unfold madeS; rw [q]
    have hXk : X.kids = [] ∧ X.mt.acl = [] := by rw [hX]; exact ⟨rfl, rfl⟩
    rw [← hX] at h2
    obtain ⟨G, hG⟩ : ∃ G : FS, G = { f .o with nodes := N.set j X, room := (f .o).room - zi (n .o).data.length } := ⟨_, rfl⟩
    have hLess : Less (f .o) G := by
      rw [hG]
      refine ⟨by show _ ≤ (List.set _ _ _).length; rw [List.length_set]; exact hlen.1, by show (List.set _ _ _).length ≤ _; rw [List.length_set]; exact hlen.2, rfl, fun x hx => ?_⟩
      rcases List.mem_or_eq_of_mem_set hx with q | rfl
      · rw [← hFS] at q
        rcases full_mem q with q | rfl
        · exact .inl q
        · exact .inr ⟨rfl, rfl⟩
      · exact .inr hXk
    have hGk : G.nodes.getD k Ino.z = (f .o).nodes.getD k Ino.z := by rw [hG]; exact hgk X
    have hGl : k < G.nodes.length := Nat.lt_of_lt_of_le q2 hLess.len
    have hGino : ∀ x ∈ G.nodes, ∀ d ∈ x.kids, 0 ≤ d.ino := fun x hx => by
      rcases hLess.nodes x hx with q | ⟨q, _⟩
      · exact hW.ino x q
      · rw [q]; exact fun d hd => by cases hd
    cbv
    refine br_dec (fun v1 => ?_) (fun v1 => ?_)
    · have v1 : (n .o).kind = 3 := v1
      have hmade := hmade 511 (if_pos v1)
      cbv
      simp only [hFR, hFS]
      refine safe ⟨zi_nonneg _, zi_lt.2 hfl⟩ ?_
      refine put_ino N X rfl (fun i hi => rfl) (by show (zi j).toNat < N.length; rw [hfz]; exact hfl) (by rw [hmade]; exact SameM.cons (.refl _) (.cons (.refl _) (.cons (.refl _) (.cons (.refl _) (.cons (.refl _) (.cons (.refl _) (.cons (.nsl rfl) (.cons (.nsl rfl) (.cons (.nsl rfl) (.cons (.refl _) (.cons (.refl _) (.cons (.refl _) (.cons (.ff rfl) (.cons (.refl _) (.cons (.refl _) (.cons (.refl _) (.cons (.refl _) (.cons (.refl _) (.cons (.refl _) (.cons (.nsl rfl) .nil)))))))))))))))))))) ?_
      cbv
      simp only [hfz, hwr]
      rw [show (fun _ : O1 => N.length) = fun _ => (N.set j X).length from funext fun _ => List.length_set.symm]
      refine CallAt.frameP [(10000, 10000), (10001, 10001)] [.ptr 10000 0, .int .i64 fun _ => zi k, .str fun _ => s, .int .i64 fun _ => zi j] (by kernel_rfl) rfl fun K1 hK1 => ?_
      cbv
      subst hG
      refine nameF_c (fun _ => { f .o with nodes := N.set j X, room := (f .o).room - zi (n .o).data.length }) c k (fun _ => s) (fun _ => zi j) (hLess.ok hW.ok) (hLess.up hW.up) hGl hGino (fun q => ?_) (fun q => hK1 _ _ ?_)
      · exfalso
        dsimp only at q hGk
        rw [hGk, hkid] at q
        exact absurd q (by decide)
      · cbv
        have hGk : (N.set j X).getD k Ino.z = (f .o).nodes.getD k Ino.z := hGk
        have h2 := h2 (fun _ => kidsS { f .o with nodes := N.set j X, room := (f .o).room - zi (n .o).data.length } k (putD ⟨s, zi j⟩ ((f .o).nodes.getD k Ino.z).kids)) (by unfold kidsS; dsimp only; rw [hGk]; rfl)
        rw [← hGk] at h2
        exact h2
    · have v1 : ¬ (n .o).kind = 3 := v1
      have hmade := hmade (n .o).mt.mode (if_neg v1)
      cbv
      simp only [hFR, hFS]
      refine safe ⟨zi_nonneg _, zi_lt.2 hfl⟩ ?_
      refine put_ino N X rfl (fun i hi => rfl) (by show (zi j).toNat < N.length; rw [hfz]; exact hfl) (by rw [hmade]; exact SameM.cons (.refl _) (.cons (.refl _) (.cons (.refl _) (.cons (.refl _) (.cons (.refl _) (.cons (.refl _) (.cons (.nsl rfl) (.cons (.nsl rfl) (.cons (.nsl rfl) (.cons (.refl _) (.cons (.refl _) (.cons (.refl _) (.cons (.ff rfl) (.cons (.refl _) (.cons (.refl _) (.cons (.refl _) (.cons (.refl _) (.cons (.refl _) (.cons (.refl _) (.cons (.nsl rfl) .nil)))))))))))))))))))) ?_
      cbv
      simp only [hfz, hwr]
      rw [show (fun _ : O1 => N.length) = fun _ => (N.set j X).length from funext fun _ => List.length_set.symm]
      refine CallAt.frameP [(10000, 10000), (10001, 10001)] [.ptr 10000 0, .int .i64 fun _ => zi k, .str fun _ => s, .int .i64 fun _ => zi j] (by kernel_rfl) rfl fun K1 hK1 => ?_
      cbv
      subst hG
      refine nameF_c (fun _ => { f .o with nodes := N.set j X, room := (f .o).room - zi (n .o).data.length }) c k (fun _ => s) (fun _ => zi j) (hLess.ok hW.ok) (hLess.up hW.up) hGl hGino (fun q => ?_) (fun q => hK1 _ _ ?_)
      · exfalso
        dsimp only at q hGk
        rw [hGk, hkid] at q
        exact absurd q (by decide)
      · cbv
        have hGk : (N.set j X).getD k Ino.z = (f .o).nodes.getD k Ino.z := hGk
        have h2 := h2 (fun _ => kidsS { f .o with nodes := N.set j X, room := (f .o).room - zi (n .o).data.length } k (putD ⟨s, zi j⟩ ((f .o).nodes.getD k Ino.z).kids)) (by unfold kidsS; dsimp only; rw [hGk]; rfl)
        rw [← hGk] at h2
        exact h2
end Go.Proofs.YtkklflpfklbbcaaDoor
/- The program's file system: Make. -/
namespace Go.Proofs.YtkklflpfklbbcaaDoor
open Go Go.Proofs.YtkklflpfklbbcaaDoor.Sx F
set_option linter.unusedVariables false
set_option linter.unusedSimpArgs false
def BMake (f : Th FS) (c : Th Cred) (p : Th (List UInt8)) (n : Th Ino) : BL := (.cons 10000 (.cells (.cons (.fn (.func fs_Make_1) .nil (.cons (.ptr 10002 0) (.cons (.ptr 10003 0) (.cons (.ptr 10004 0) .nil)))) .nil)) (.cons 10001 (.cells (.cons (.ptr 10005 0) .nil)) (.cons 10002 (.cells (.cons (.str p) .nil)) (.cons 10003 (.cells (Ino.ch n)) (.cons 10004 (.cells (Cred.ch c)) (.cons 10005 (.cells (callC f c 10006)) (.cons 10006 (rowB 20 Ino.ch Ino.z fun _ => (f .o).nodes) .nil)))))))
def CMake (c : Th Cred) (p : Th (List UInt8)) (n : Th Ino) : BL := (.cons 10000 (.cells (.cons (.str p) .nil)) (.cons 10001 (.cells (Ino.ch n)) (.cons 10002 (.cells (Cred.ch c)) .nil)))
theorem chg1Make_c (f : Th FS) (c : Th Cred) (p : Th (List UInt8)) (n : Th Ino) (hW : Walk (f .o) (c .o)) (hp : (p .o).length ≤ 100000) (hn : (n .o).data.length ≤ 1000000) (hroom : -1000000 ≤ (f .o).room ∧ (f .o).room ≤ 1000000000) (hpre : preRm (p .o)) {d : Nat} {K : ARes → BL → Prop}
    (h1 : ∀ e : Th Int, (mkD (c .o) (p .o) (n .o)) (f .o) = .inl (e .o) → e .o ≠ 0 → K (.pan (failV e)) (BMake f c p n))
    (h2 : ∀ g : Th FS, (mkD (c .o) (p .o) (n .o)) (f .o) = .inr (g .o) → K (.ret (.tup .nil)) (BMake g c p n)) : CallAt PT fs_change_1 [.ptr 10000 0, .ptr 10001 0] d (BMake f c p n) K := by
  refine fs_change_1.of rfl rfl ?_
  cbv
  refine CallAt.frameP [(10000, 10005), (10001, 10006), (10002, 10002), (10003, 10003), (10004, 10004)] [.ptr 10000 0, .ptr 10002 0, .ptr 10003 0, .ptr 10004 0] (by kernel_rfl) rfl fun K1 hK1 => ?_
  cbv
  refine opMake_c f c p n hW hp hn hroom hpre (fun e q1 q2 => hK1 _ _ ?_) (fun g q1 => hK1 _ _ ?_)
  · cbv
    exact h1 e q1 q2
  · cbv
    exact h2 g q1
theorem caughtMake_c (f : Th FS) (c : Th Cred) (p : Th (List UInt8)) (n : Th Ino) (hW : Walk (f .o) (c .o)) (hp : (p .o).length ≤ 100000) (hn : (n .o).data.length ≤ 1000000) (hroom : -1000000 ≤ (f .o).room ∧ (f .o).room ≤ 1000000000) (hpre : preRm (p .o)) {d : Nat} {K : ARes → BL → Prop}
    (h1 : ∀ e : Th Int, (mkD (c .o) (p .o) (n .o)) (f .o) = .inl (e .o) → e .o ≠ 0 → K (.ret (.int .i64 e)) (BMake f c p n))
    (h2 : ∀ g : Th FS, (mkD (c .o) (p .o) (n .o)) (f .o) = .inr (g .o) → K (.ret (.int .i64 fun _ => 0)) (BMake g c p n)) : CallAt PT fs_caught [.fn (.func fs_change_1) .nil (.cons (.ptr 10000 0) (.cons (.ptr 10001 0) .nil))] d (BMake f c p n) K := by
  refine CallAt.res ?_
  refine fs_caught.of rfl rfl ?_
  cbv
  refine CallAt.frameP [(10000, 10000), (10001, 10001), (10002, 10002), (10003, 10003), (10004, 10004), (10005, 10005), (10006, 10006)] [.ptr 10000 0, .ptr 10001 0] (by kernel_rfl) rfl fun K1 hK1 => ?_
  cbv
  refine chg1Make_c f c p n hW hp hn hroom hpre (fun e q1 q2 => hK1 _ _ ?_) (fun g q1 => hK1 _ _ ?_)
  · cbv
    refine DefAt.use [(10000, 2)] [failV e, .ptr 10000 0] (by kernel_rfl) rfl (caughtP_c e _ ?_)
    cbv
    exact ⟨_, .ret (.refl _), h1 e q1 q2⟩
  · cbv
    refine DefAt.use [(10000, 2)] [.nif, .ptr 10000 0] (by kernel_rfl) rfl (caughtN_c _ ?_)
    cbv
    exact ⟨_, .ret (.refl _), h2 g q1⟩
theorem changeMake_c (f : Th FS) (c : Th Cred) (p : Th (List UInt8)) (n : Th Ino) (may : Th Bool) (l : Th (List (List UInt8))) (hl : (l .o).length ≤ 4 ∧ ∀ p ∈ l .o, p.length ≤ 100000) (hW : Walk (f .o) (c .o)) (hp : (p .o).length ≤ 100000) (hn : (n .o).data.length ≤ 1000000) (hroom : -1000000 ≤ (f .o).room ∧ (f .o).room ≤ 1000000000) (hpre : may .o = true → allP (l .o) = true → preRm (p .o)) {d : Nat} (hd : d < 10000) {K : ARes → BL → Prop}
    (hr : ∀ (g : Th FS) (e : Th Int), chgS (f .o) (may .o && allP (l .o)) (mkD (c .o) (p .o) (n .o)) = (g .o, e .o) → K (.ret (.tup (.cons (FS.av g) (.cons (.int .i64 e) .nil)))) (CMake c p n)) :
    CallAt PT fs_change [FS.av f, Cred.av c, .bool may, (.fn (.func fs_Make_1) .nil (.cons (.ptr 10000 0) (.cons (.ptr 10001 0) (.cons (.ptr 10002 0) .nil)))), strs l] d (CMake c p n) K := by
  refine CallAt.res ?_
  refine fs_change.of rfl rfl ?_
  cbv
  refine loop_at (X := Nat) 1000 [0, 1, 3, 5, 6, 8, 10, 11, 18, 19] [5, 6, 8, 10, 10000, 10001, 10002] (fun _ k => .cons 2 (.bool fun _ => may .o && allP ((l .o).take k)) (.cons 20 (.int .i64 fun _ => zi k) .nil)) (fun _ _ => .nil) (fun k => k ≤ (l .o).length) (fun k => (l .o).length - k) 0 ?_ (Nat.zero_le _) ?_
  · cbv
    (repeat' (first | exact True.intro | exact Same.refl _ | exact SameB.refl _ | exact ⟨rfl⟩ | exact Same.int rfl | exact Same.str rfl | exact Same.bool rfl | (refine Same.int ?_; simp only [List.length_append, List.length_cons, List.length_nil, zi]; omega) | (refine SameB.row' rfl fun i hi => ?_; first | rfl | exact absurd hi (Nat.not_lt_zero _)) | refine And.intro ?_ ?_ | refine SameB.cells ?_ | exact SameC.nil | refine SameC.cons ?_ ?_ | exact Same.nsl rfl | exact Same.tt rfl | exact Same.ff rfl))
    all_goals exact Same.bool (by show may .o = (may .o && true); rw [Bool.and_true])
  · intro k hk
    have hk : k ≤ (l .o).length := hk
    have hkz := zi_toNat k
    cbv
    refine br_zlt (fun r1 => ?_) (fun r1 => ?_)
    · have r1 : k < (l .o).length := r1
      have hat := allP_take r1
      have hpl : ((l .o).getD k []).length ≤ 100000 := hl.2 _ (by rw [List.getD_eq_getElem?_getD, List.getElem?_eq_getElem r1]; exact List.getElem_mem r1)
      cbv
      refine safe ⟨zi_nonneg _, zi_lt.2 r1⟩ ?_
      simp only [hkz]
      refine partsP_c (fun _ => (l .o).getD k []) hpl (fun q hq => ?_) (fun hq => ?_)
      · have hok : isPath ((l .o).getD k []) = true := by unfold isPath; rw [hq]; rfl
        have hat : (may .o && allP ((l .o).take k)) = (may .o && allP ((l .o).take (k + 1))) := by rw [hat, hok, Bool.and_true]
        cbv
        refine ⟨fun r2 => ?_, fun r2 => ?_⟩
        · have r2 : (may .o && allP ((l .o).take k)) = true := r2
          rw [hat] at r2
          cbv
          refine ⟨k + 1, r1, by omega, ?_⟩
          cbv
          rw [zi_succ (by omega)]
          (repeat' (first | exact True.intro | exact Same.refl _ | exact SameB.refl _ | exact ⟨rfl⟩ | exact Same.int rfl | exact Same.str rfl | exact Same.bool rfl | (refine Same.int ?_; simp only [List.length_append, List.length_cons, List.length_nil, zi]; omega) | (refine SameB.row' rfl fun i hi => ?_; first | rfl | exact absurd hi (Nat.not_lt_zero _)) | refine And.intro ?_ ?_ | refine SameB.cells ?_ | exact SameC.nil | refine SameC.cons ?_ ?_ | exact Same.nsl rfl | exact Same.tt rfl | exact Same.ff rfl))
          all_goals exact Same.tt r2
        · have r2 : (may .o && allP ((l .o).take k)) = false := r2
          rw [hat] at r2
          cbv
          refine ⟨k + 1, r1, by omega, ?_⟩
          cbv
          rw [zi_succ (by omega)]
          (repeat' (first | exact True.intro | exact Same.refl _ | exact SameB.refl _ | exact ⟨rfl⟩ | exact Same.int rfl | exact Same.str rfl | exact Same.bool rfl | (refine Same.int ?_; simp only [List.length_append, List.length_cons, List.length_nil, zi]; omega) | (refine SameB.row' rfl fun i hi => ?_; first | rfl | exact absurd hi (Nat.not_lt_zero _)) | refine And.intro ?_ ?_ | refine SameB.cells ?_ | exact SameC.nil | refine SameC.cons ?_ ?_ | exact Same.nsl rfl | exact Same.tt rfl | exact Same.ff rfl))
          all_goals exact Same.ff r2
      · have hok : isPath ((l .o).getD k []) = false := by unfold isPath; rw [hq]; rfl
        have hat : (may .o && allP ((l .o).take (k + 1))) = false := by rw [hat, hok, Bool.and_false, Bool.and_false]
        cbv
        refine ⟨fun r2 => ?_, fun r2 => ?_⟩
        all_goals
          cbv
          refine ⟨k + 1, r1, by omega, ?_⟩
          cbv
          rw [zi_succ (by omega)]
          (repeat' (first | exact True.intro | exact Same.refl _ | exact SameB.refl _ | exact ⟨rfl⟩ | exact Same.int rfl | exact Same.str rfl | exact Same.bool rfl | (refine Same.int ?_; simp only [List.length_append, List.length_cons, List.length_nil, zi]; omega) | (refine SameB.row' rfl fun i hi => ?_; first | rfl | exact absurd hi (Nat.not_lt_zero _)) | refine And.intro ?_ ?_ | refine SameB.cells ?_ | exact SameC.nil | refine SameC.cons ?_ ?_ | exact Same.nsl rfl | exact Same.tt rfl | exact Same.ff rfl))
          all_goals exact Same.ff hat
    · obtain rfl : k = (l .o).length := Nat.le_antisymm hk r1
      rw [List.take_length]
      cbv
      refine br_nbool (fun r2 => ?_) (fun r2 => ?_)
      · cbv
        exact ⟨_, .ret (.refl _), hr f (fun _ => 1) (chg_may r2)⟩
      have r2 : (may .o && allP (l .o)) = true := r2
      have hpre := hpre (Bool.and_eq_true_iff.1 r2).1 (Bool.and_eq_true_iff.1 r2).2
      have hfl := hW.ok.faults
      cbv
      refine contains_int_c (fun _ => (f .o).faults) (fun _ => IntKind.i64.wrap ((f .o).op + 1)) (by unfold short; omega) fun b hb => ?_
      have hb : b .o = decide (IntKind.i64.wrap ((f .o).op + 1) ∈ (f .o).faults) := hb
      cbv
      refine br_bool (fun r3 => ?_) (fun r3 => ?_)
      · have he : askE (f .o) = 8 := by unfold askE; rw [if_pos (of_decide_eq_true (hb.symm.trans r3))]
        cbv
        exact ⟨_, .ret (.refl _), hr (fun _ => askS (f .o)) (fun _ => 8) (chg_ask r2 he)⟩
      have he : askE (f .o) = 0 := by unfold askE; rw [if_neg (of_decide_eq_false (hb.symm.trans r3))]
      cbv
      refine cloneI_c (fun _ => (f .o).nodes) hW.ok.ne hW.ok.few ?_
      cbv
      refine CallAt.frameP [(10000, 8), (10001, 16), (10002, 10000), (10003, 10001), (10004, 10002), (10005, 50), (10006, 54)] [.fn (.func fs_change_1) .nil (.cons (.ptr 10000 0) (.cons (.ptr 10001 0) .nil))] (by kernel_rfl) rfl fun K1 hK1 => ?_
      cbv
      refine caughtMake_c (fun _ => askS (f .o)) c p n hW.ask hp hn hroom hpre (fun e q1 q2 => hK1 _ _ ?_) (fun g q1 => hK1 _ _ ?_)
      · cbv
        refine br_ndec (fun _ => ?_) (fun h => (q2 h).elim)
        cbv
        exact ⟨_, .ret (.refl _), hr (fun _ => askS (f .o)) e (chg_err r2 he q1)⟩
      · cbv
        refine br_ndec (fun h => (h rfl).elim) (fun _ => ?_)
        cbv
        exact ⟨_, .ret (.refl _), hr g (fun _ => 0) (chg_ok r2 he q1)⟩
theorem make_c (f : Th FS) (c : Th Cred) (p : Th (List UInt8)) (n : Th Ino) (hW : Walk (f .o) (c .o)) (hp : (p .o).length ≤ 100000) (hn : (n .o).data.length ≤ 1000000) (hroom : -1000000 ≤ (f .o).room ∧ (f .o).room ≤ 1000000000) {d : Nat} {K : ARes → BL → Prop}
    (hr : ∀ (g : Th FS) (e : Th Int), chgS (f .o) (!decide (p .o = []) && mayMk (n .o) && isPath (p .o)) (mkD (c .o) (p .o) (n .o)) = (g .o, e .o) → K (.ret (.tup (.cons (FS.av g) (.cons (.int .i64 e) .nil)))) .nil) :
    CallAt PT fs_Make [FS.av f, Cred.av c, .str p, Ino.av n] d .nil K := by
  refine CallAt.res ?_
  refine fs_Make.of rfl rfl ?_
  cbv
  refine ⟨fun s1 => ?_, fun s1 => ?_⟩
  · have s1 : (!decide (p .o = [])) = true := s1
    cbv
    refine mayMake19_c n fun b hb => ?_
    cbv
    refine CallAt.args (as' := [FS.av f, Cred.av c, .bool fun _ => b .o, (.fn (.func fs_Make_1) .nil (.cons (.ptr 6 0) (.cons (.ptr 7 0) (.cons (.ptr 5 0) .nil)))), strs fun _ => [p .o]]) (.cons (.refl _) (.cons (.refl _) (.cons (.refl _) (.cons (.refl _) (.cons (Same.sl rfl fun i hi => ?_) .nil))))) ?_
    · obtain rfl : i = 0 := by have hi : i < 1 := hi; omega
      rfl
    refine CallAt.frameP [(10000, 6), (10001, 7), (10002, 5)] [FS.av f, Cred.av c, .bool fun _ => b .o, (.fn (.func fs_Make_1) .nil (.cons (.ptr 10000 0) (.cons (.ptr 10001 0) (.cons (.ptr 10002 0) .nil)))), strs fun _ => [p .o]] (by kernel_rfl) rfl fun K1 hK1 => ?_
    cbv
    refine changeMake_c f c p n (fun _ => b .o) (fun _ => [p .o]) ⟨by show 1 ≤ 4; decide, fun q hq => by simp at hq; rw [hq]; exact hp⟩ hW hp hn hroom (fun h1 h2 => ⟨by simpa using s1, by simpa [allP] using h2⟩) (by decide) fun g e q => hK1 _ _ ?_
    cbv
    exact ⟨_, .ret (.refl _), hr g e (by rw [← q]; rw [s1, ← hb]; simp [allP])⟩
  · have s1 : (!decide (p .o = [])) = false := s1
    cbv
    refine CallAt.args (as' := [FS.av f, Cred.av c, .bool fun _ => false, (.fn (.func fs_Make_1) .nil (.cons (.ptr 6 0) (.cons (.ptr 7 0) (.cons (.ptr 5 0) .nil)))), strs fun _ => [p .o]]) (.cons (.refl _) (.cons (.refl _) (.cons (Same.ff rfl) (.cons (.refl _) (.cons (Same.sl rfl fun i hi => ?_) .nil))))) ?_
    · obtain rfl : i = 0 := by have hi : i < 1 := hi; omega
      rfl
    refine CallAt.frameP [(10000, 6), (10001, 7), (10002, 5)] [FS.av f, Cred.av c, .bool fun _ => false, (.fn (.func fs_Make_1) .nil (.cons (.ptr 10000 0) (.cons (.ptr 10001 0) (.cons (.ptr 10002 0) .nil)))), strs fun _ => [p .o]] (by kernel_rfl) rfl fun K1 hK1 => ?_
    cbv
    refine changeMake_c f c p n (fun _ => false) (fun _ => [p .o]) ⟨by show 1 ≤ 4; decide, fun q hq => by simp at hq; rw [hq]; exact hp⟩ hW hp hn hroom (fun h1 h2 => by cases h1) (by decide) fun g e q => hK1 _ _ ?_
    cbv
    exact ⟨_, .ret (.refl _), hr g e (by rw [← q]; rw [s1]; simp [allP])⟩
end Go.Proofs.YtkklflpfklbbcaaDoor
/- The document's mode that gives nobody more, walked; and that it is the program's. -/
namespace Go.Proofs.YtkklflpfklbbcaaDoor
open Go Go.Proofs.YtkklflpfklbbcaaDoor.Sx F
set_option linter.unusedVariables false
set_option linter.unusedSimpArgs false
end Go.Proofs.YtkklflpfklbbcaaDoor
/- The law RightMade, walked: the program's rights are the document's, of what is made by numbers. -/
namespace Go.Proofs.YtkklflpfklbbcaaDoor
open Go Go.Proofs.YtkklflpfklbbcaaDoor.Sx F
set_option linter.unusedVariables false
set_option linter.unusedSimpArgs false
def grpL (m : Meta) (c : Cred) (mask : Int) : List Ace → List Int
  | [] => []
  | a :: r => if (a.tag = 3 ∧ inS c m.gid = true) ∨ (a.tag = 4 ∧ inS c a.id = true) then band a.perm mask :: grpL m c mask r else grpL m c mask r
theorem goP_user (m : Meta) (c : Cred) (mask : Int) : ∀ l : List Ace, goP m c mask l = match user9 c l with
    | some p => .inl (band p mask)
    | none => .inr (grpL m c mask l)
  | [] => rfl
  | a :: r => by
    have ih := goP_user m c mask r
    unfold goP user9 grpL
    by_cases q1 : a.tag = 2 ∧ a.id = c.uid
    · rw [if_pos q1, if_pos q1]
    · rw [if_neg q1, if_neg q1]
      by_cases q2 : (a.tag = 3 ∧ inS c m.gid = true) ∨ (a.tag = 4 ∧ inS c a.id = true)
      · rw [if_pos q2, if_pos q2, ih]
        cases user9 c r <;> rfl
      · rw [if_neg q2, if_neg q2, ih]
theorem grp9_any (m : Meta) (c : Cred) (w mask : Int) (fin : Bool) : ∀ (l : List Ace) (s : Bool), grp9 m c w mask fin l s = ((grpL m c mask l).any (hasS w) || (!(s || !(grpL m c mask l).isEmpty) && fin))
  | [], s => by simp [grp9, grpL]
  | a :: r, s => by
    unfold grp9 grpL
    split
    · rw [List.any_cons]
      by_cases q : hasS w (band a.perm mask) = true
      · rw [if_pos q, q]; simp
      · rw [if_neg q, grp9_any]
        simp [q]
    · exact grp9_any m c w mask fin r s
theorem mask9_eq {l : List Ace} (h : Good l) : maskS l = some (mask9 l) := by
  unfold maskS mask9 permR
  rcases ixP_find (fun a : Ace => decide (a.tag = 5)) Ace.z l with ⟨h1, h2⟩ | ⟨k, h1, h2, h3⟩
  · rw [if_neg (by omega)]
    have : permS l 5 = none := by unfold permS; rw [h2]; rfl
    rw [this]
    rfl
  · have := zi_nonneg k
    rw [if_pos (by omega)]
    obtain ⟨p, hp, q⟩ := perm_some h (t := 5) ⟨_, List.mem_of_find?_eq_some h3, by simpa using List.find?_some h3⟩
    rw [hp]
    simp only [Option.getD_some]
    rw [if_neg (by omega)]
theorem band_pos (x y : Int) (h0 : 0 ≤ y) (h1 : y < 4611686018427387904) : decide (0 < band x y) = !decide (band x y = 0) := by
  have := (band_le (x := x) h0 h1).1
  by_cases q : band x y = 0
  · simp [q]
  · have : 0 < band x y := by omega
    simp [q, this]
theorem can9_law {m : Meta} (h : Good (ofS m)) (he : of9 m = ofS m) (c : Cred) (w : Int) : Can9 m c w = CanS m c w := by
  have hpos := band_pos c.powers 2 (by decide) (by decide)
  unfold Can9 CanS
  rw [hpos, canS_rep h, he]
  by_cases hw : w < 0 ∨ 7 < w
  · rw [if_pos hw]
    rcases hw with q | q <;> simp [q]
  · rw [if_neg hw]
    have w1 : ¬ w < 0 := fun q => hw (.inl q)
    have w2 : ¬ 7 < w := fun q => hw (.inr q)
    by_cases hp : band c.powers 2 = 0
    · rw [if_neg (by simpa using hp)]
      simp only [w1, w2, hp, decide_false, decide_true, Bool.or_false, Bool.not_false, Bool.true_and, Bool.not_true, Bool.false_or, Option.getD_some]
      obtain ⟨p1, e1, _⟩ := perm_some h h.own
      obtain ⟨p6, e6, _⟩ := perm_some h h.oth
      unfold repS
      rw [mask9_eq h, e1, e6]
      unfold permR
      rw [e1, e6]
      simp only [Option.getD_some]
      by_cases hu : m.uid = c.uid
      · rw [if_pos hu, if_pos hu]; simp
      · rw [if_neg hu, if_neg hu, goP_user]
        cases user9 c (ofS m) with
        | some p => simp
        | none =>
          simp only
          rw [grp9_any]
          cases grpL m c (mask9 (ofS m)) (ofS m) with
          | nil => simp
          | cons p P => simp
    · rw [if_pos hp]
      simp [w1, w2, hp]
end Go.Proofs.YtkklflpfklbbcaaDoor
/- Which lists may be: r9.MayAcl walked, as far as the rights want it. -/
namespace Go.Proofs.YtkklflpfklbbcaaDoor
open Go Go.Proofs.YtkklflpfklbbcaaDoor.Sx F
set_option linter.unusedVariables false
set_option linter.unusedSimpArgs false
theorem band_mod9 (x : Int) : band x 511 = x % 512 := by
  have he : band x 511 = IntKind.i64.wrap ((BitVec.ofInt 64 x &&& BitVec.ofInt 64 511).toNat : Int) := rfl
  rw [he, BitVec.toNat_and, show (BitVec.ofInt 64 511).toNat = 2 ^ 9 - 1 from rfl, Nat.and_two_pow_sub_one_eq_mod, BitVec.toNat_ofInt, IntKind.wrap_i64]
  omega
theorem band_mod3 (x : Int) : band x 7 = x % 8 := by
  have he : band x 7 = IntKind.i64.wrap ((BitVec.ofInt 64 x &&& BitVec.ofInt 64 7).toNat : Int) := rfl
  rw [he, BitVec.toNat_and, show (BitVec.ofInt 64 7).toNat = 2 ^ 3 - 1 from rfl, Nat.and_two_pow_sub_one_eq_mod, BitVec.toNat_ofInt, IntKind.wrap_i64]
  omega
theorem mode_eq' (n : Int) : mode9 n = fromMode n := by
  unfold mode9 fromMode
  simp only [band_mod9, band_mod3]
  rw [show ((2 : Int) ^ 6) = 64 from rfl, show ((2 : Int) ^ 3) = 8 from rfl]
  rw [Int.fdiv_eq_ediv_of_nonneg _ (by decide), Int.fdiv_eq_ediv_of_nonneg _ (by decide), Int.fdiv_eq_ediv_of_nonneg _ (by decide), Int.fdiv_eq_ediv_of_nonneg _ (by decide)]
  rw [show n / 64 % 8 = n % 512 / 64 by omega, show n / 8 % 8 = n % 512 / 8 % 8 by omega, show n % 8 = n % 512 % 8 by omega]
theorem of9_eq (m : Meta) : of9 m = ofS m := by
  unfold of9 ofS
  rw [mode_eq']
end Go.Proofs.YtkklflpfklbbcaaDoor

/- The law PlanFewer, walked: names that are strict are left out. -/
import Derived.Test.YteeikiekofopnaaPlan
namespace Go.Proofs.Yteeikiekofopnaa
open Go Go.Proofs.Yteeikiekofopnaa.Sx F
set_option linter.unusedVariables false
set_option linter.unusedSimpArgs false

def preS (p s : List UInt8) : Bool := decide (p.length ≤ s.length) && decide (s.take p.length = p)
theorem pre1_c (s p : Th (List UInt8)) {d : Nat} {K : ARes → BL → Prop} (hr : ∀ b : Th Bool, b .o = preS (p .o) (s .o) → K (.ret (.bool b)) .nil) : CallAt PT internal_stringslite_HasPrefix [.str s, .str p] d .nil K := by
  refine CallAt.res ?_
  refine internal_stringslite_HasPrefix.of rfl rfl ?_
  cbv
  ((try refine br_rev ?_); (first | refine br_dec (fun h1 => ?_) (fun h1 => ?_) | refine br_ndec (fun h1 => ?_) (fun h1 => ?_) | refine br_nbool (fun h1 => ?_) (fun h1 => ?_) | refine br_bool (fun h1 => ?_) (fun h1 => ?_)); all_goals (try dsimp only at h1); all_goals (try with_reducible replace h1 := zi_lt.1 h1); all_goals (try with_reducible replace h1 := not_zlt h1)) <;> cbv
  · have h1' : (p .o).length ≤ (s .o).length := zi_le.1 h1
    refine safe ⟨Int.le_refl _, zi_nonneg _, h1⟩ ?_
    exact ⟨_, .ret (.refl _), hr _ (by
      unfold preS
      rw [decide_eq_true h1', Bool.true_and]
      show decide (List.drop (0 : Int).toNat (List.take (zi (p .o).length).toNat (s .o)) = p .o) = _
      rw [zi_toNat]
      rfl)⟩
  · have h1' : ¬ (p .o).length ≤ (s .o).length := fun q => h1 (zi_le.2 q)
    exact ⟨_, .ret (.ff rfl), hr (fun _ => false) (by unfold preS; rw [decide_eq_false h1']; rfl)⟩
theorem pre_c (s p : Th (List UInt8)) {d : Nat} {K : ARes → BL → Prop} (hr : ∀ b : Th Bool, b .o = preS (p .o) (s .o) → K (.ret (.bool b)) .nil) : CallAt PT strings_HasPrefix [.str s, .str p] d .nil K := by
  refine strings_HasPrefix.of rfl rfl ?_
  cbv
  refine pre1_c s p fun b hb => ?_
  cbv
  exact hr b hb
def trustedS : List UInt8 := [116, 114, 117, 115, 116, 101, 100, 46]
def securityS : List UInt8 := [115, 101, 99, 117, 114, 105, 116, 121, 46]
def strictS (x : Xattr) : Bool := preS trustedS x.name || preS securityS x.name
def fewerS (l : List Xattr) : List Xattr := l.filter fun x => !strictS x
theorem fewer_step (l : List Xattr) (k : Nat) (h : k < l.length) : fewerS (l.take (k + 1)) = if strictS (l.getD k Xattr.z) = true then fewerS (l.take k) else fewerS (l.take k) ++ [l.getD k Xattr.z] := by
  unfold fewerS
  rw [List.take_add_one, List.filter_append, List.getD_eq_getElem?_getD, List.getElem?_eq_getElem h]
  simp only [Option.toList_some, Option.getD_some]
  by_cases q : strictS l[k] = true
  · rw [if_pos q]; simp [q]
  · rw [if_neg q]; simp [q]
theorem fewer_len (l : List Xattr) : (fewerS l).length ≤ l.length := List.length_filter_le _ _
theorem fewer_c (l : Th (List Xattr)) (hl : (l .o).length ≤ 1000) {d : Nat} {K : ARes → BL → Prop} (hr : ∀ r : Th (List Xattr), r .o = fewerS (l .o) → K (.ret (xattrs r)) .nil) : CallAt PT plan_Fewer [xattrs l] d .nil K := by
  refine plan_Fewer.of rfl rfl ?_
  cbv
  refine nil_tmp 3 9000 2 (fun _ => .nil) rfl rfl ?_
  refine loop_at (X := Nat) 1000 [3, 6, 7] [] (fun _ k => .cons 8 (.int .i64 fun _ => zi k) .nil) (fun _ k => .cons 9000 (rowB 2 Xattr.ch Xattr.z fun _ => fewerS ((l .o).take k)) .nil) (fun k => k ≤ (l .o).length) (fun k => (l .o).length - k) 0 ?_ (Nat.zero_le _) ?_
  · cbv
    (repeat' (first | exact True.intro | exact Same.refl _ | exact SameB.refl _ | exact ⟨rfl⟩ | exact Same.int rfl | exact Same.str rfl | exact Same.bool rfl | (refine Same.int ?_; simp only [List.length_append, List.length_cons, List.length_nil, zi]; omega) | (refine SameB.row' rfl fun i hi => ?_; first | rfl | exact absurd hi (Nat.not_lt_zero _)) | refine And.intro ?_ ?_))
  · intro k hk
    have succ := zi_succ (k := k) (by omega)
    have hz := zi_toNat k
    cbv
    ((try refine br_rev ?_); (first | refine br_dec (fun h1 => ?_) (fun h1 => ?_) | refine br_ndec (fun h1 => ?_) (fun h1 => ?_) | refine br_nbool (fun h1 => ?_) (fun h1 => ?_) | refine br_bool (fun h1 => ?_) (fun h1 => ?_)); all_goals (try dsimp only at h1); all_goals (try with_reducible replace h1 := zi_lt.1 h1); all_goals (try with_reducible replace h1 := not_zlt h1)) <;> cbv
    · have hst := fewer_step (l .o) k h1
      have hfl := fewer_len ((l .o).take k)
      have htl : ((l .o).take k).length ≤ k := by rw [List.length_take]; omega
      refine safe ⟨zi_nonneg _, zi_lt.2 h1⟩ ?_
      refine pre_c (fun _ => ((l .o).getD (zi k).toNat Xattr.z).name) (fun _ => trustedS) fun b1 hb1 => ?_
      have hb1 : b1 .o = preS trustedS ((l .o).getD k Xattr.z).name := by rw [hb1]; show preS trustedS ((l .o).getD (zi k).toNat Xattr.z).name = _; rw [hz]
      cbv
      refine br_nbool (fun h2 => ?_) (fun h2 => ?_)
      · have h2 : b1 .o = false := h2
        cbv
        refine pre_c (fun _ => ((l .o).getD (zi k).toNat Xattr.z).name) (fun _ => securityS) fun b2 hb2 => ?_
        have hb2 : b2 .o = preS securityS ((l .o).getD k Xattr.z).name := by rw [hb2]; show preS securityS ((l .o).getD (zi k).toNat Xattr.z).name = _; rw [hz]
        cbv
        refine br_nbool (fun h3 => ?_) (fun h3 => ?_)
        · have h3 : b2 .o = false := h3
          have hs : ¬ strictS ((l .o).getD k Xattr.z) = true := by unfold strictS; rw [← hb1, ← hb2, h2, h3]; decide
          rw [if_neg hs] at hst
          cbv
          refine app_one Xattr.ch Xattr.z (fewerS ((l .o).take k)) ((l .o).getD (zi k).toNat Xattr.z) rfl (fun i hi => rfl) rfl rfl (by omega) ?_
          cbv
          refine ⟨k + 1, h1, by omega, ?_⟩
          cbv
          rw [hst, hz]
          (repeat' (first | exact True.intro | exact Same.refl _ | exact SameB.refl _ | exact ⟨rfl⟩ | exact Same.int rfl | exact Same.str rfl | exact Same.bool rfl | (refine Same.int ?_; simp only [List.length_append, List.length_cons, List.length_nil, zi]; omega) | (refine SameB.row' rfl fun i hi => ?_; first | rfl | exact absurd hi (Nat.not_lt_zero _)) | refine And.intro ?_ ?_))
          all_goals exact Same.int succ
        · have h3 : b2 .o = true := h3
          have hs : strictS ((l .o).getD k Xattr.z) = true := by unfold strictS; rw [← hb1, ← hb2, h3]; simp
          rw [if_pos hs] at hst
          cbv
          refine ⟨k + 1, h1, by omega, ?_⟩
          cbv
          rw [hst]
          (repeat' (first | exact True.intro | exact Same.refl _ | exact SameB.refl _ | exact ⟨rfl⟩ | exact Same.int rfl | exact Same.str rfl | exact Same.bool rfl | (refine Same.int ?_; simp only [List.length_append, List.length_cons, List.length_nil, zi]; omega) | (refine SameB.row' rfl fun i hi => ?_; first | rfl | exact absurd hi (Nat.not_lt_zero _)) | refine And.intro ?_ ?_))
          all_goals exact Same.int succ
      · have h2 : b1 .o = true := h2
        have hs : strictS ((l .o).getD k Xattr.z) = true := by unfold strictS; rw [← hb1, h2]; rfl
        rw [if_pos hs] at hst
        cbv
        refine ⟨k + 1, h1, by omega, ?_⟩
        cbv
        rw [hst]
        (repeat' (first | exact True.intro | exact Same.refl _ | exact SameB.refl _ | exact ⟨rfl⟩ | exact Same.int rfl | exact Same.str rfl | exact Same.bool rfl | (refine Same.int ?_; simp only [List.length_append, List.length_cons, List.length_nil, zi]; omega) | (refine SameB.row' rfl fun i hi => ?_; first | rfl | exact absurd hi (Nat.not_lt_zero _)) | refine And.intro ?_ ?_))
        all_goals exact Same.int succ
    · exact hr (fun _ => fewerS ((l .o).take k)) (by rw [List.take_of_length_le (by omega)])

theorem strict_iff (x : Xattr) : strictS x = true ↔ (8 ≤ x.name.length ∧ x.name.take 8 = trustedS) ∨ (9 ≤ x.name.length ∧ x.name.take 9 = securityS) := by
  unfold strictS preS
  rw [show trustedS.length = 8 from rfl, show securityS.length = 9 from rfl]
  simp only [Bool.or_eq_true, Bool.and_eq_true, decide_eq_true_eq]

theorem planFewer_c (ns : Th (List Int)) (hns : isBytes (ns .o)) (hs1 : (ns .o).length ≤ 140737488355328) : CallAt PT l23_PlanFewer [byteI ns] 9999 .nil Yes := by
  refine l23_PlanFewer.of rfl rfl ?_
  cbv
  refine l13_c ns hns hs1 fun l hl => ?_
  cbv
  refine fewer_c l (by omega) fun m hm => ?_
  cbv
  have hml : (m .o).length ≤ 6 := by rw [hm]; exact Nat.le_trans (fewer_len _) hl
  refine loop_rule (X := Nat) 1000 [3, 4] [] (fun i => .cons 5 (.int .i64 fun _ => zi (fewerS ((l .o).take i)).length) (.cons 6 (.int .i64 fun _ => zi i) .nil)) (fun _ => .nil) (fun i => i ≤ (l .o).length) (fun i => (l .o).length - i) 0 ?_ (Nat.zero_le _) ?_
  · cbv
    (repeat' (first | exact True.intro | exact Same.refl _ | exact SameB.refl _ | exact ⟨rfl⟩ | exact Same.int rfl | exact Same.str rfl | exact Same.bool rfl | (refine Same.int ?_; simp only [List.length_append, List.length_cons, List.length_nil, zi]; omega) | (refine SameB.row' rfl fun i hi => ?_; first | rfl | exact absurd hi (Nat.not_lt_zero _)) | refine And.intro ?_ ?_))
  · intro i hi
    have succ := zi_succ (k := i) (by omega)
    have hz := zi_toNat i
    cbv
    ((try refine br_rev ?_); (first | refine br_dec (fun h1 => ?_) (fun h1 => ?_) | refine br_ndec (fun h1 => ?_) (fun h1 => ?_) | refine br_nbool (fun h1 => ?_) (fun h1 => ?_) | refine br_bool (fun h1 => ?_) (fun h1 => ?_)); all_goals (try dsimp only at h1); all_goals (try with_reducible replace h1 := zi_lt.1 h1); all_goals (try with_reducible replace h1 := not_zlt h1)) <;> cbv
    · have hst := fewer_step (l .o) i h1
      refine safe ⟨zi_nonneg _, zi_lt.2 h1⟩ ?_
      have hiff := strict_iff ((l .o).getD i Xattr.z)
      have hlt : ¬ strictS ((l .o).getD i Xattr.z) = true → (fewerS ((l .o).take i)).length < (m .o).length ∧ (m .o).getD (fewerS ((l .o).take i)).length Xattr.z = (l .o).getD i Xattr.z := by
        intro q
        rw [if_neg q] at hst
        have hml' : m .o = (fewerS ((l .o).take i) ++ [(l .o).getD i Xattr.z]) ++ fewerS ((l .o).drop (i + 1)) := by
          rw [hm, ← hst]
          unfold fewerS
          rw [← List.filter_append, List.take_append_drop]
        rw [hml']
        refine ⟨by simp, ?_⟩
        rw [List.getD_eq_getElem?_getD, List.getElem?_append_left (by simp), List.getElem?_append_right (Nat.le_refl _), Nat.sub_self]
        rfl
      generalize hA : (l .o).getD i Xattr.z = A at hst hiff hlt
      have hA' : (l .o).getD (zi i).toNat Xattr.z = A := by rw [hz]; exact hA
      ((try refine br_rev ?_); (first | refine br_dec (fun h2 => ?_) (fun h2 => ?_) | refine br_ndec (fun h2 => ?_) (fun h2 => ?_) | refine br_nbool (fun h2 => ?_) (fun h2 => ?_) | refine br_bool (fun h2 => ?_) (fun h2 => ?_)); all_goals (try dsimp only at h2); all_goals (try with_reducible replace h2 := zi_lt.1 h2); all_goals (try with_reducible replace h2 := not_zlt h2))
      · have h2' : 8 ≤ A.name.length := by rw [← hA']; exact (zi_le (a := 8)).1 h2
        cbv
        refine safe ⟨Int.le_refl _, by decide, h2⟩ ?_
        ((try refine br_rev ?_); (first | refine br_dec (fun h3 => ?_) (fun h3 => ?_) | refine br_ndec (fun h3 => ?_) (fun h3 => ?_) | refine br_nbool (fun h3 => ?_) (fun h3 => ?_) | refine br_bool (fun h3 => ?_) (fun h3 => ?_)); all_goals (try dsimp only at h3); all_goals (try with_reducible replace h3 := zi_lt.1 h3); all_goals (try with_reducible replace h3 := not_zlt h3))
        · have h3' : A.name.take 8 = trustedS := by rw [← hA']; exact h3
          have hs := hiff.2 (.inl ⟨h2', h3'⟩)
          rw [if_pos hs] at hst
          cbv
          refine ⟨i + 1, h1, by omega, ?_⟩
          cbv
          rw [hst]
          (repeat' (first | exact True.intro | exact Same.refl _ | exact SameB.refl _ | exact ⟨rfl⟩ | exact Same.int rfl | exact Same.str rfl | exact Same.bool rfl | (refine Same.int ?_; simp only [List.length_append, List.length_cons, List.length_nil, zi]; omega) | (refine SameB.row' rfl fun i hi => ?_; first | rfl | exact absurd hi (Nat.not_lt_zero _)) | refine And.intro ?_ ?_))
          all_goals exact Same.int succ
        · have h3' : ¬ A.name.take 8 = trustedS := by rw [← hA']; exact h3
          cbv
          ((try refine br_rev ?_); (first | refine br_dec (fun h4 => ?_) (fun h4 => ?_) | refine br_ndec (fun h4 => ?_) (fun h4 => ?_) | refine br_nbool (fun h4 => ?_) (fun h4 => ?_) | refine br_bool (fun h4 => ?_) (fun h4 => ?_)); all_goals (try dsimp only at h4); all_goals (try with_reducible replace h4 := zi_lt.1 h4); all_goals (try with_reducible replace h4 := not_zlt h4))
          · have h4' : 9 ≤ A.name.length := by rw [← hA']; exact (zi_le (a := 9)).1 h4
            cbv
            refine safe ⟨Int.le_refl _, by decide, h4⟩ ?_
            ((try refine br_rev ?_); (first | refine br_dec (fun h5 => ?_) (fun h5 => ?_) | refine br_ndec (fun h5 => ?_) (fun h5 => ?_) | refine br_nbool (fun h5 => ?_) (fun h5 => ?_) | refine br_bool (fun h5 => ?_) (fun h5 => ?_)); all_goals (try dsimp only at h5); all_goals (try with_reducible replace h5 := zi_lt.1 h5); all_goals (try with_reducible replace h5 := not_zlt h5))
            · have h5' : A.name.take 9 = securityS := by rw [← hA']; exact h5
              have hs := hiff.2 (.inr ⟨h4', h5'⟩)
              rw [if_pos hs] at hst
              cbv
              refine ⟨i + 1, h1, by omega, ?_⟩
              cbv
              rw [hst]
              (repeat' (first | exact True.intro | exact Same.refl _ | exact SameB.refl _ | exact ⟨rfl⟩ | exact Same.int rfl | exact Same.str rfl | exact Same.bool rfl | (refine Same.int ?_; simp only [List.length_append, List.length_cons, List.length_nil, zi]; omega) | (refine SameB.row' rfl fun i hi => ?_; first | rfl | exact absurd hi (Nat.not_lt_zero _)) | refine And.intro ?_ ?_))
              all_goals exact Same.int succ
            · have h5' : ¬ A.name.take 9 = securityS := by rw [← hA']; exact h5
              have hs : ¬ strictS A = true := fun q => (hiff.1 q).elim (fun q => h3' q.2) fun q => h5' q.2
              rw [if_neg hs] at hst
              cbv
              refine br_rev (br_dec (fun q => absurd (zi_le.1 q) (by have := (hlt hs).1; omega)) (fun _ => ?_))
              cbv
              refine safe ⟨zi_nonneg _, zi_lt.2 (hlt hs).1⟩ ?_
              refine safe ⟨zi_nonneg _, zi_lt.2 h1⟩ ?_
              have e : (m .o).getD (zi (fewerS ((l .o).take i)).length).toNat Xattr.z = (l .o).getD (zi i).toNat Xattr.z := by rw [zi_toNat, (hlt hs).2, hA']
              have succ2 := zi_succ (k := (fewerS ((l .o).take i)).length) (by have := (hlt hs).1; omega)
              refine br_nbool (fun q => absurd q (by dsimp only; rw [e]; simp)) (fun _ => ?_)
              cbv
              refine ⟨i + 1, h1, by omega, ?_⟩
              cbv
              rw [hst]
              (repeat' (first | exact True.intro | exact Same.refl _ | exact SameB.refl _ | exact ⟨rfl⟩ | exact Same.int rfl | exact Same.str rfl | exact Same.bool rfl | (refine Same.int ?_; simp only [List.length_append, List.length_cons, List.length_nil, zi]; omega) | (refine SameB.row' rfl fun i hi => ?_; first | rfl | exact absurd hi (Nat.not_lt_zero _)) | refine And.intro ?_ ?_))
              all_goals first | exact Same.int succ | exact Same.int (by rw [List.length_append]; exact succ2)
          · have h4' : ¬ 9 ≤ A.name.length := by rw [← hA']; exact fun q => h4 ((zi_le (a := 9)).2 q)
            have hs : ¬ strictS A = true := fun q => (hiff.1 q).elim (fun q => h3' q.2) fun q => h4' q.1
            rw [if_neg hs] at hst
            cbv
            refine br_rev (br_dec (fun q => absurd (zi_le.1 q) (by have := (hlt hs).1; omega)) (fun _ => ?_))
            cbv
            refine safe ⟨zi_nonneg _, zi_lt.2 (hlt hs).1⟩ ?_
            refine safe ⟨zi_nonneg _, zi_lt.2 h1⟩ ?_
            have e : (m .o).getD (zi (fewerS ((l .o).take i)).length).toNat Xattr.z = (l .o).getD (zi i).toNat Xattr.z := by rw [zi_toNat, (hlt hs).2, hA']
            have succ2 := zi_succ (k := (fewerS ((l .o).take i)).length) (by have := (hlt hs).1; omega)
            refine br_nbool (fun q => absurd q (by dsimp only; rw [e]; simp)) (fun _ => ?_)
            cbv
            refine ⟨i + 1, h1, by omega, ?_⟩
            cbv
            rw [hst]
            (repeat' (first | exact True.intro | exact Same.refl _ | exact SameB.refl _ | exact ⟨rfl⟩ | exact Same.int rfl | exact Same.str rfl | exact Same.bool rfl | (refine Same.int ?_; simp only [List.length_append, List.length_cons, List.length_nil, zi]; omega) | (refine SameB.row' rfl fun i hi => ?_; first | rfl | exact absurd hi (Nat.not_lt_zero _)) | refine And.intro ?_ ?_))
            all_goals first | exact Same.int succ | exact Same.int (by rw [List.length_append]; exact succ2)
      · have h2' : ¬ 8 ≤ A.name.length := by rw [← hA']; exact fun q => h2 ((zi_le (a := 8)).2 q)
        cbv
        ((try refine br_rev ?_); (first | refine br_dec (fun h4 => ?_) (fun h4 => ?_) | refine br_ndec (fun h4 => ?_) (fun h4 => ?_) | refine br_nbool (fun h4 => ?_) (fun h4 => ?_) | refine br_bool (fun h4 => ?_) (fun h4 => ?_)); all_goals (try dsimp only at h4); all_goals (try with_reducible replace h4 := zi_lt.1 h4); all_goals (try with_reducible replace h4 := not_zlt h4))
        · have h4' : 9 ≤ A.name.length := by rw [← hA']; exact (zi_le (a := 9)).1 h4
          cbv
          refine safe ⟨Int.le_refl _, by decide, h4⟩ ?_
          ((try refine br_rev ?_); (first | refine br_dec (fun h5 => ?_) (fun h5 => ?_) | refine br_ndec (fun h5 => ?_) (fun h5 => ?_) | refine br_nbool (fun h5 => ?_) (fun h5 => ?_) | refine br_bool (fun h5 => ?_) (fun h5 => ?_)); all_goals (try dsimp only at h5); all_goals (try with_reducible replace h5 := zi_lt.1 h5); all_goals (try with_reducible replace h5 := not_zlt h5))
          · have h5' : A.name.take 9 = securityS := by rw [← hA']; exact h5
            have hs := hiff.2 (.inr ⟨h4', h5'⟩)
            rw [if_pos hs] at hst
            cbv
            refine ⟨i + 1, h1, by omega, ?_⟩
            cbv
            rw [hst]
            (repeat' (first | exact True.intro | exact Same.refl _ | exact SameB.refl _ | exact ⟨rfl⟩ | exact Same.int rfl | exact Same.str rfl | exact Same.bool rfl | (refine Same.int ?_; simp only [List.length_append, List.length_cons, List.length_nil, zi]; omega) | (refine SameB.row' rfl fun i hi => ?_; first | rfl | exact absurd hi (Nat.not_lt_zero _)) | refine And.intro ?_ ?_))
            all_goals exact Same.int succ
          · have h5' : ¬ A.name.take 9 = securityS := by rw [← hA']; exact h5
            have hs : ¬ strictS A = true := fun q => (hiff.1 q).elim (fun q => h2' q.1) fun q => h5' q.2
            rw [if_neg hs] at hst
            cbv
            refine br_rev (br_dec (fun q => absurd (zi_le.1 q) (by have := (hlt hs).1; omega)) (fun _ => ?_))
            cbv
            refine safe ⟨zi_nonneg _, zi_lt.2 (hlt hs).1⟩ ?_
            refine safe ⟨zi_nonneg _, zi_lt.2 h1⟩ ?_
            have e : (m .o).getD (zi (fewerS ((l .o).take i)).length).toNat Xattr.z = (l .o).getD (zi i).toNat Xattr.z := by rw [zi_toNat, (hlt hs).2, hA']
            have succ2 := zi_succ (k := (fewerS ((l .o).take i)).length) (by have := (hlt hs).1; omega)
            refine br_nbool (fun q => absurd q (by dsimp only; rw [e]; simp)) (fun _ => ?_)
            cbv
            refine ⟨i + 1, h1, by omega, ?_⟩
            cbv
            rw [hst]
            (repeat' (first | exact True.intro | exact Same.refl _ | exact SameB.refl _ | exact ⟨rfl⟩ | exact Same.int rfl | exact Same.str rfl | exact Same.bool rfl | (refine Same.int ?_; simp only [List.length_append, List.length_cons, List.length_nil, zi]; omega) | (refine SameB.row' rfl fun i hi => ?_; first | rfl | exact absurd hi (Nat.not_lt_zero _)) | refine And.intro ?_ ?_))
            all_goals first | exact Same.int succ | exact Same.int (by rw [List.length_append]; exact succ2)
        · have h4' : ¬ 9 ≤ A.name.length := by rw [← hA']; exact fun q => h4 ((zi_le (a := 9)).2 q)
          have hs : ¬ strictS A = true := fun q => (hiff.1 q).elim (fun q => h2' q.1) fun q => h4' q.1
          rw [if_neg hs] at hst
          cbv
          refine br_rev (br_dec (fun q => absurd (zi_le.1 q) (by have := (hlt hs).1; omega)) (fun _ => ?_))
          cbv
          refine safe ⟨zi_nonneg _, zi_lt.2 (hlt hs).1⟩ ?_
          refine safe ⟨zi_nonneg _, zi_lt.2 h1⟩ ?_
          have e : (m .o).getD (zi (fewerS ((l .o).take i)).length).toNat Xattr.z = (l .o).getD (zi i).toNat Xattr.z := by rw [zi_toNat, (hlt hs).2, hA']
          have succ2 := zi_succ (k := (fewerS ((l .o).take i)).length) (by have := (hlt hs).1; omega)
          refine br_nbool (fun q => absurd q (by dsimp only; rw [e]; simp)) (fun _ => ?_)
          cbv
          refine ⟨i + 1, h1, by omega, ?_⟩
          cbv
          rw [hst]
          (repeat' (first | exact True.intro | exact Same.refl _ | exact SameB.refl _ | exact ⟨rfl⟩ | exact Same.int rfl | exact Same.str rfl | exact Same.bool rfl | (refine Same.int ?_; simp only [List.length_append, List.length_cons, List.length_nil, zi]; omega) | (refine SameB.row' rfl fun i hi => ?_; first | rfl | exact absurd hi (Nat.not_lt_zero _)) | refine And.intro ?_ ?_))
          all_goals first | exact Same.int succ | exact Same.int (by rw [List.length_append]; exact succ2)
    · have hk : fewerS ((l .o).take i) = m .o := by rw [List.take_of_length_le (by omega), hm]
      refine br_dec (fun _ => ?_) (fun q => absurd (by rw [hk]) q)
      cbv
      refine fewer_c m (by omega) fun r1 hr1 => ?_
      cbv
      have hr1' : r1 .o = m .o := by rw [hr1, hm]; unfold fewerS; rw [List.filter_filter]; simp
      refine br_dec (fun _ => ?_) (fun q => absurd (by rw [hr1']) q)
      cbv
      have one : ∀ nm : List UInt8, SameL [AV.sl 2 (fun _ => 1) fun i => elemAt 2 (.cons (.str fun _ => nm) (.cons (.str fun _ => []) .nil)) (i .o)] [xattrs fun _ => [⟨nm, []⟩]] := fun nm =>
        .cons (.sl rfl fun i hi => by
          have hi : i < 1 := hi
          match i, hi with
          | 0, _ => rfl) .nil
      refine CallAt.args (one _) ?_
      refine fewer_c (fun _ => [⟨_, []⟩]) (by show 1 ≤ 1000; decide) fun r2 hr2 => ?_
      cbv
      refine br_dec (fun _ => ?_) (fun q => absurd (show zi (r2 .o).length = 0 by rw [hr2]; decide +kernel) q)
      cbv
      refine CallAt.args (one _) ?_
      refine fewer_c (fun _ => [⟨_, []⟩]) (by show 1 ≤ 1000; decide) fun r3 hr3 => ?_
      cbv
      refine br_dec (fun _ => ?_) (fun q => absurd (show zi (r3 .o).length = 1 by rw [hr3]; decide +kernel) q)
      cbv
      refine awake23_c fun b6 hb6 => ?_
      cbv
      exact ⟨b6, rfl, hb6⟩
end Go.Proofs.Yteeikiekofopnaa

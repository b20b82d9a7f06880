/- The law PlanFewer, walked: names that are strict are left out. -/
import Derived.Test.YtgjlkcdnlndlnaaPlan
namespace Go.Proofs.Ytgjlkcdnlndlnaa
open Go Go.Proofs.Ytgjlkcdnlndlnaa.Sx F
set_option linter.unusedVariables false
set_option linter.unusedSimpArgs false

def preS (p s : List UInt8) : Bool := decide (p.length ≤ s.length) && decide (s.take p.length = p)
theorem pre1_c (s p : Th (List UInt8)) {d : Nat} {K : ARes → BL → Prop} (hr : ∀ b : Th Bool, b .o = preS (p .o) (s .o) → K (.ret (.bool b)) .nil) : CallAt PT internal_stringslite_HasPrefix [.str s, .str p] d .nil K := by
  refine CallAt.res ?_
  refine internal_stringslite_HasPrefix.of rfl rfl ?_
  cbv
  ((try refine br_rev ?_); (first | refine br_dec (fun h1 => ?_) (fun h1 => ?_) | refine br_ndec (fun h1 => ?_) (fun h1 => ?_) | refine br_nbool (fun h1 => ?_) (fun h1 => ?_) | refine br_bool (fun h1 => ?_) (fun h1 => ?_)); all_goals (try dsimp only at h1); all_goals (try with_reducible replace h1 := zi_lt.1 h1); all_goals (try with_reducible replace h1 := not_zlt h1)) <;> cbv
  · have h1' : (p .o).length ≤ (s .o).length := zi_le.1 h1
    refine safe ⟨Int.le_refl _, zi_nonneg _, h1⟩ ?_
    exact ⟨_, .ret (.refl _), hr _ (by
      unfold preS
      rw [decide_eq_true h1', Bool.true_and]
      show decide (List.drop (0 : Int).toNat (List.take (zi (p .o).length).toNat (s .o)) = p .o) = _
      rw [zi_toNat]
      rfl)⟩
  · have h1' : ¬ (p .o).length ≤ (s .o).length := fun q => h1 (zi_le.2 q)
    exact ⟨_, .ret (.ff rfl), hr (fun _ => false) (by unfold preS; rw [decide_eq_false h1']; rfl)⟩
theorem pre_c (s p : Th (List UInt8)) {d : Nat} {K : ARes → BL → Prop} (hr : ∀ b : Th Bool, b .o = preS (p .o) (s .o) → K (.ret (.bool b)) .nil) : CallAt PT strings_HasPrefix [.str s, .str p] d .nil K := by
  refine strings_HasPrefix.of rfl rfl ?_
  cbv
  refine pre1_c s p fun b hb => ?_
  cbv
  exact hr b hb
def trustedS : List UInt8 := [116, 114, 117, 115, 116, 101, 100, 46]
def securityS : List UInt8 := [115, 101, 99, 117, 114, 105, 116, 121, 46]
def strictS (x : Xattr) : Bool := preS trustedS x.name || preS securityS x.name
def fewerS (l : List Xattr) : List Xattr := l.filter fun x => !strictS x
theorem fewer_step (l : List Xattr) (k : Nat) (h : k < l.length) : fewerS (l.take (k + 1)) = if strictS (l.getD k Xattr.z) = true then fewerS (l.take k) else fewerS (l.take k) ++ [l.getD k Xattr.z] := by
  unfold fewerS
  rw [List.take_add_one, List.filter_append, List.getD_eq_getElem?_getD, List.getElem?_eq_getElem h]
  simp only [Option.toList_some, Option.getD_some]
  by_cases q : strictS l[k] = true
  · rw [if_pos q]; simp [q]
  · rw [if_neg q]; simp [q]
theorem fewer_len (l : List Xattr) : (fewerS l).length ≤ l.length := List.length_filter_le _ _
theorem fewer_c (l : Th (List Xattr)) (hl : (l .o).length ≤ 1000) {d : Nat} {K : ARes → BL → Prop} (hr : ∀ r : Th (List Xattr), r .o = fewerS (l .o) → K (.ret (xattrs r)) .nil) : CallAt PT plan_Fewer [xattrs l] d .nil K := by
  refine plan_Fewer.of rfl rfl ?_
  cbv
  refine nil_tmp 3 9000 2 (fun _ => .nil) rfl rfl ?_
  refine loop_at (X := Nat) 1000 [3, 6, 7] [] (fun _ k => .cons 8 (.int .i64 fun _ => zi k) .nil) (fun _ k => .cons 9000 (rowB 2 Xattr.ch Xattr.z fun _ => fewerS ((l .o).take k)) .nil) (fun k => k ≤ (l .o).length) (fun k => (l .o).length - k) 0 ?_ (Nat.zero_le _) ?_
  · cbv
    (repeat' (first | exact True.intro | exact Same.refl _ | exact SameB.refl _ | exact ⟨rfl⟩ | exact Same.int rfl | exact Same.str rfl | exact Same.bool rfl | (refine Same.int ?_; simp only [List.length_append, List.length_cons, List.length_nil, zi]; omega) | (refine SameB.row' rfl fun i hi => ?_; first | rfl | exact absurd hi (Nat.not_lt_zero _)) | refine And.intro ?_ ?_ | refine SameB.cells ?_ | exact SameC.nil | refine SameC.cons ?_ ?_ | exact Same.nsl rfl | exact Same.tt rfl | exact Same.ff rfl))
  · intro k hk
    have succ := zi_succ (k := k) (by omega)
    have hz := zi_toNat k
    cbv
    ((try refine br_rev ?_); (first | refine br_dec (fun h1 => ?_) (fun h1 => ?_) | refine br_ndec (fun h1 => ?_) (fun h1 => ?_) | refine br_nbool (fun h1 => ?_) (fun h1 => ?_) | refine br_bool (fun h1 => ?_) (fun h1 => ?_)); all_goals (try dsimp only at h1); all_goals (try with_reducible replace h1 := zi_lt.1 h1); all_goals (try with_reducible replace h1 := not_zlt h1)) <;> cbv
    · have hst := fewer_step (l .o) k h1
      have hfl := fewer_len ((l .o).take k)
      have htl : ((l .o).take k).length ≤ k := by rw [List.length_take]; omega
      refine safe ⟨zi_nonneg _, zi_lt.2 h1⟩ ?_
      refine pre_c (fun _ => ((l .o).getD (zi k).toNat Xattr.z).name) (fun _ => trustedS) fun b1 hb1 => ?_
      have hb1 : b1 .o = preS trustedS ((l .o).getD k Xattr.z).name := by rw [hb1]; show preS trustedS ((l .o).getD (zi k).toNat Xattr.z).name = _; rw [hz]
      cbv
      refine br_nbool (fun h2 => ?_) (fun h2 => ?_)
      · have h2 : b1 .o = false := h2
        cbv
        refine pre_c (fun _ => ((l .o).getD (zi k).toNat Xattr.z).name) (fun _ => securityS) fun b2 hb2 => ?_
        have hb2 : b2 .o = preS securityS ((l .o).getD k Xattr.z).name := by rw [hb2]; show preS securityS ((l .o).getD (zi k).toNat Xattr.z).name = _; rw [hz]
        cbv
        refine br_nbool (fun h3 => ?_) (fun h3 => ?_)
        · have h3 : b2 .o = false := h3
          have hs : ¬ strictS ((l .o).getD k Xattr.z) = true := by unfold strictS; rw [← hb1, ← hb2, h2, h3]; decide
          rw [if_neg hs] at hst
          cbv
          refine app_one Xattr.ch Xattr.z (fewerS ((l .o).take k)) ((l .o).getD (zi k).toNat Xattr.z) rfl (fun i hi => rfl) rfl rfl (by omega) ?_
          cbv
          refine ⟨k + 1, h1, by omega, ?_⟩
          cbv
          rw [hst, hz]
          (repeat' (first | exact True.intro | exact Same.refl _ | exact SameB.refl _ | exact ⟨rfl⟩ | exact Same.int rfl | exact Same.str rfl | exact Same.bool rfl | (refine Same.int ?_; simp only [List.length_append, List.length_cons, List.length_nil, zi]; omega) | (refine SameB.row' rfl fun i hi => ?_; first | rfl | exact absurd hi (Nat.not_lt_zero _)) | refine And.intro ?_ ?_ | refine SameB.cells ?_ | exact SameC.nil | refine SameC.cons ?_ ?_ | exact Same.nsl rfl | exact Same.tt rfl | exact Same.ff rfl))
          all_goals exact Same.int succ
        · have h3 : b2 .o = true := h3
          have hs : strictS ((l .o).getD k Xattr.z) = true := by unfold strictS; rw [← hb1, ← hb2, h3]; simp
          rw [if_pos hs] at hst
          cbv
          refine ⟨k + 1, h1, by omega, ?_⟩
          cbv
          rw [hst]
          (repeat' (first | exact True.intro | exact Same.refl _ | exact SameB.refl _ | exact ⟨rfl⟩ | exact Same.int rfl | exact Same.str rfl | exact Same.bool rfl | (refine Same.int ?_; simp only [List.length_append, List.length_cons, List.length_nil, zi]; omega) | (refine SameB.row' rfl fun i hi => ?_; first | rfl | exact absurd hi (Nat.not_lt_zero _)) | refine And.intro ?_ ?_ | refine SameB.cells ?_ | exact SameC.nil | refine SameC.cons ?_ ?_ | exact Same.nsl rfl | exact Same.tt rfl | exact Same.ff rfl))
          all_goals exact Same.int succ
      · have h2 : b1 .o = true := h2
        have hs : strictS ((l .o).getD k Xattr.z) = true := by unfold strictS; rw [← hb1, h2]; rfl
        rw [if_pos hs] at hst
        cbv
        refine ⟨k + 1, h1, by omega, ?_⟩
        cbv
        rw [hst]
        (repeat' (first | exact True.intro | exact Same.refl _ | exact SameB.refl _ | exact ⟨rfl⟩ | exact Same.int rfl | exact Same.str rfl | exact Same.bool rfl | (refine Same.int ?_; simp only [List.length_append, List.length_cons, List.length_nil, zi]; omega) | (refine SameB.row' rfl fun i hi => ?_; first | rfl | exact absurd hi (Nat.not_lt_zero _)) | refine And.intro ?_ ?_ | refine SameB.cells ?_ | exact SameC.nil | refine SameC.cons ?_ ?_ | exact Same.nsl rfl | exact Same.tt rfl | exact Same.ff rfl))
        all_goals exact Same.int succ
    · exact hr (fun _ => fewerS ((l .o).take k)) (by rw [List.take_of_length_le (by omega)])

theorem strict_iff (x : Xattr) : strictS x = true ↔ (8 ≤ x.name.length ∧ x.name.take 8 = trustedS) ∨ (9 ≤ x.name.length ∧ x.name.take 9 = securityS) := by
  unfold strictS preS
  rw [show trustedS.length = 8 from rfl, show securityS.length = 9 from rfl]
  simp only [Bool.or_eq_true, Bool.and_eq_true, decide_eq_true_eq]

end Go.Proofs.Ytgjlkcdnlndlnaa

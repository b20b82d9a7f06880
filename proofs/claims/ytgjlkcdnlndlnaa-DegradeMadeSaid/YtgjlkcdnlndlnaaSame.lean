/- Sameness of what is said of nodes. -/
import Derived.Test.YtgjlkcdnlndlnaaRef21
namespace Go.Proofs.Ytgjlkcdnlndlnaa
open Go Go.Proofs.Ytgjlkcdnlndlnaa.Sx F
set_option linter.unusedVariables false
set_option linter.unusedSimpArgs false

theorem sameA_c (a b : Th (List Ace)) (ha : short (a .o)) {d : Nat} {K : ARes → BL → Prop} (hr : ∀ r : Th Bool, (r .o = true ↔ a .o = b .o) → K (.ret (.bool r)) .nil) : CallAt PT r9_SameAcl [aces a, aces b] d .nil K := by
  refine CallAt.res ?_
  refine r9_SameAcl.of rfl rfl ?_
  cbv
  have no : ∀ {x : AV}, a .o ≠ b .o → Same x (.bool fun _ => false) → ∃ r', SameR (.ret x) r' ∧ K r' .nil := fun h1 h2 => ⟨_, .ret h2, hr _ ⟨fun q => (by cases q), fun q => (h1 q).elim⟩⟩
  refine br_ndec (fun h1 => ?_) (fun h1 => ?_)
  · cbv
    exact no (fun q => h1 (by rw [q])) (.ff rfl)
  · have h1 : (a .o).length = (b .o).length := zi_inj.1 h1
    cbv
    refine loop_rule (X := Nat) 1000 [0, 1] [] (fun k => .cons 5 (.int .i64 fun _ => zi k) .nil) (fun _ => .nil) (fun k => k ≤ (a .o).length ∧ ∀ j, j < k → (a .o).getD j Ace.z = (b .o).getD j Ace.z) (fun k => (a .o).length - k) 0 ?_ ⟨Nat.zero_le _, fun j hj => by omega⟩ ?_
    · cbv
      (repeat' (first | exact True.intro | exact Same.refl _ | exact SameB.refl _ | exact ⟨rfl⟩ | exact Same.int rfl | exact Same.str rfl | exact Same.bool rfl | (refine Same.int ?_; simp only [List.length_append, List.length_cons, List.length_nil, zi]; omega) | (refine SameB.row' rfl fun i hi => ?_; first | rfl | exact absurd hi (Nat.not_lt_zero _)) | refine And.intro ?_ ?_ | refine SameB.cells ?_ | exact SameC.nil | refine SameC.cons ?_ ?_ | exact Same.nsl rfl | exact Same.tt rfl | exact Same.ff rfl))
    · rintro k ⟨hk, heq⟩
      have hz := zi_toNat k
      cbv
      ((try refine br_rev ?_); (first | refine br_dec (fun h2 => ?_) (fun h2 => ?_) | refine br_ndec (fun h2 => ?_) (fun h2 => ?_) | refine br_nbool (fun h2 => ?_) (fun h2 => ?_) | refine br_bool (fun h2 => ?_) (fun h2 => ?_)); all_goals (try dsimp only at h2); all_goals (try with_reducible replace h2 := zi_lt.1 h2); all_goals (try with_reducible replace h2 := not_zlt h2))
      · cbv
        refine safe ⟨zi_nonneg _, zi_lt.2 h2⟩ ?_
        refine safe ⟨zi_nonneg _, zi_lt.2 (by omega)⟩ ?_
        refine br_nbool (fun h3 => ?_) (fun h3 => ?_)
        · cbv
          refine no (list_ne_getD Ace.z k fun q => ?_) (.ff rfl)
          rw [hz, q] at h3
          simp at h3
        · rw [hz] at h3
          simp only [Bool.and_eq_true, decide_eq_true_eq] at h3
          have h3' : (a .o).getD k Ace.z = (b .o).getD k Ace.z := by
            have e1 := h3.1
            have e2 := h3.2.1
            have e3 := h3.2.2.1
            generalize (a .o).getD k Ace.z = p at e1 e2 e3 ⊢
            generalize (b .o).getD k Ace.z = q at e1 e2 e3 ⊢
            cases p; cases q
            simp only at e1 e2 e3
            rw [e1, e2, e3]
          cbv
          refine ⟨k + 1, ⟨h2, fun j hj => ?_⟩, by omega, ?_⟩
          · by_cases e : j = k
            · rw [e]; exact h3'
            · exact heq j (by omega)
          · cbv
            rw [zi_succ (by unfold short at ha; omega)]
            (repeat' (first | exact True.intro | exact Same.refl _ | exact SameB.refl _ | exact ⟨rfl⟩ | exact Same.int rfl | exact Same.str rfl | exact Same.bool rfl | (refine Same.int ?_; simp only [List.length_append, List.length_cons, List.length_nil, zi]; omega) | (refine SameB.row' rfl fun i hi => ?_; first | rfl | exact absurd hi (Nat.not_lt_zero _)) | refine And.intro ?_ ?_ | refine SameB.cells ?_ | exact SameC.nil | refine SameC.cons ?_ ?_ | exact Same.nsl rfl | exact Same.tt rfl | exact Same.ff rfl))
      · cbv
        exact ⟨_, .ret (y := .bool fun _ => true) (.tt rfl), hr _ ⟨fun _ => list_ext_getD Ace.z h1 fun j hj => heq j (by omega), fun _ => rfl⟩⟩

theorem sameM_c (a b : Th Meta) (h1 : short (a .o).acl) (h2 : short (a .o).dflt) (h3 : short (a .o).xs) {d : Nat} {K : ARes → BL → Prop} (hr : ∀ r : Th Bool, (r .o = true ↔ a .o = b .o) → K (.ret (.bool r)) .nil) :
    CallAt PT r9_SameMeta [Meta.av a, Meta.av b] d .nil K := by
  refine CallAt.res ?_
  refine r9_SameMeta.of rfl rfl ?_
  have no : ∀ {x : AV}, a .o ≠ b .o → Same x (.bool fun _ => false) → ∃ r', SameR (.ret x) r' ∧ K r' .nil := fun h1 h2 => ⟨_, .ret h2, hr _ ⟨fun q => (by cases q), fun q => (h1 q).elim⟩⟩
  cbv
  refine br_dec (fun q1 => ?_) (fun q1 => ?_)
  rotate_left
  · cbv
    exact no (fun q => q1 (by rw [q])) (.ff rfl)
  cbv
  refine br_dec (fun q2 => ?_) (fun q2 => ?_)
  rotate_left
  · cbv
    exact no (fun q => q2 (by rw [q])) (.ff rfl)
  cbv
  refine br_dec (fun q3 => ?_) (fun q3 => ?_)
  rotate_left
  · cbv
    exact no (fun q => q3 (by rw [q])) (.ff rfl)
  cbv
  refine br_bool (fun q4 => ?_) (fun q4 => ?_)
  rotate_left
  · cbv
    exact no (fun q => by rw [q] at q4; simp at q4) (.ff rfl)
  simp only [Bool.and_eq_true, decide_eq_true_eq] at q4
  cbv
  refine sameA_c (fun _ => (a .o).acl) (fun _ => (b .o).acl) h1 fun rq5 hrq5 => ?_
  cbv
  refine br_bool (fun q5 => ?_) (fun q5 => ?_)
  rotate_left
  · cbv
    exact no (fun q => by rw [hrq5.2 (by rw [q])] at q5; cases q5) (.ff rfl)
  replace q5 : (a .o).acl = (b .o).acl := hrq5.1 q5
  cbv
  refine sameA_c (fun _ => (a .o).dflt) (fun _ => (b .o).dflt) h2 fun rq6 hrq6 => ?_
  cbv
  refine br_bool (fun q6 => ?_) (fun q6 => ?_)
  rotate_left
  · cbv
    exact no (fun q => by rw [hrq6.2 (by rw [q])] at q6; cases q6) (.ff rfl)
  replace q6 : (a .o).dflt = (b .o).dflt := hrq6.1 q6
  cbv
  refine sameX_c (fun _ => (a .o).xs) (fun _ => (b .o).xs) h3 fun rq7 hrq7 => ?_
  cbv
  refine br_bool (fun q7 => ?_) (fun q7 => ?_)
  rotate_left
  · cbv
    exact no (fun q => by rw [hrq7.2 (by rw [q])] at q7; cases q7) (.ff rfl)
  replace q7 : (a .o).xs = (b .o).xs := hrq7.1 q7
  cbv
  refine br_bool (fun q8 => ?_) (fun q8 => ?_)
  rotate_left
  · cbv
    exact no (fun q => by rw [q] at q8; simp at q8) (.ff rfl)
  simp only [Bool.and_eq_true, decide_eq_true_eq, beq_iff_eq] at q8
  cbv
  refine ⟨_, .ret (Same.refl _), hr _ ⟨fun q9 => ?_, fun q => ?_⟩⟩
  · replace q9 : (a .o).flags = (b .o).flags := of_decide_eq_true q9
    have c1 := q8.1
    have c2 := q8.2.1
    have c3 := q8.2.2.1
    have c4 := q8.2.2.2.1
    have c5 := q8.2.2.2.2.1
    have m4 := q4.1
    have m5 := q4.2.1
    generalize a .o = x at *
    generalize b .o = y at *
    obtain ⟨_, _, _, _, _, _, _, _, ⟨_, _, _, _, _⟩, _⟩ := x
    obtain ⟨_, _, _, _, _, _, _, _, ⟨_, _, _, _, _⟩, _⟩ := y
    simp only at *
    subst q1 q2 q3 m4 m5 q5 q6 q7 c1 c2 c3 c4 c5 q9
    rfl
  · show decide ((a .o).flags = (b .o).flags) = true
    rw [q]; simp
end Go.Proofs.Ytgjlkcdnlndlnaa

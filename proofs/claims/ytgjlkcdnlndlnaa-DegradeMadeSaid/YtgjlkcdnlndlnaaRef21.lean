/- The document's plan, walked; the law PlanMade. -/
import Derived.Test.YtgjlkcdnlndlnaaOrder
namespace Go.Proofs.Ytgjlkcdnlndlnaa
open Go Go.Proofs.Ytgjlkcdnlndlnaa.Sx F
set_option linter.unusedVariables false
set_option linter.unusedSimpArgs false

def modeS (less : Int) (m : Meta) (o : Bool) : Int := if o = true then bor (bnot m.mode 511) less else band m.mode 448
theorem pmode_c (m : Th Meta) (o : Th Bool) (hm : short (m .o).acl) {d : Nat} {K : ARes → BL → Prop} (hr : ∀ (n : Th Int) (f : Th Bool), n .o = modeS (LessS (m .o)) (m .o) (o .o) → f .o = o .o → K (.ret (.tup (.cons (.int .i64 n) (.cons (.bool f) .nil)))) .nil) :
    CallAt PT plan_Mode [Meta.av m, .bool o] d .nil K := by
  refine CallAt.res ?_
  refine plan_Mode.of rfl rfl ?_
  cbv
  refine br_nbool (fun h1 => ?_) (fun h1 => ?_)
  · cbv
    exact ⟨_, .ret (.tup (.cons (.int (b := fun _ => modeS (LessS (m .o)) (m .o) (o .o)) (by unfold modeS; rw [h1]; rfl)) (.cons (.ff h1) .nil))), hr _ _ rfl rfl⟩
  · cbv
    refine Less_c m hm fun n hn => ?_
    cbv
    exact ⟨_, .ret (.tup (.cons (.int (b := fun _ => modeS (LessS (m .o)) (m .o) (o .o)) (by unfold modeS; rw [h1, ← hn]; rfl)) (.cons (.tt h1) .nil))), hr _ _ rfl rfl⟩
theorem mode21_c (m : Th Meta) (o : Th Bool) (hm : short (m .o).acl) {d : Nat} {K : ARes → BL → Prop} (hr : ∀ (n : Th Int) (f : Th Bool), n .o = modeS (Less9 (m .o)) (m .o) (o .o) → f .o = o .o → K (.ret (.tup (.cons (.int .i64 n) (.cons (.bool f) .nil)))) .nil) :
    CallAt PT r21_Mode [Meta.av m, .bool o] d .nil K := by
  refine CallAt.res ?_
  refine r21_Mode.of rfl rfl ?_
  cbv
  refine br_bool (fun h1 => ?_) (fun h1 => ?_)
  · cbv
    refine Less9_c m hm fun n hn => ?_
    cbv
    exact ⟨_, .ret (.tup (.cons (.int (b := fun _ => modeS (Less9 (m .o)) (m .o) (o .o)) (by unfold modeS; rw [h1, ← hn]; rfl)) (.cons (.tt h1) .nil))), hr _ _ rfl rfl⟩
  · cbv
    exact ⟨_, .ret (.tup (.cons (.int (b := fun _ => modeS (Less9 (m .o)) (m .o) (o .o)) (by unfold modeS; rw [h1]; rfl)) (.cons (.ff h1) .nil))), hr _ _ rfl rfl⟩
theorem stage21_c (k : Th Int) {d : Nat} {K : ARes → BL → Prop} (hr : ∀ n : Th Int, n .o = (if k .o = 6 then 448 else if k .o = 3 then 511 else 0) → K (.ret (.int .i64 n)) .nil) : CallAt PT r21_Stage [.int .i64 k] d .nil K := by
  refine r21_Stage.of rfl rfl ?_
  cbv
  ((try refine br_rev ?_); (first | refine br_dec (fun h1 => ?_) (fun h1 => ?_) | refine br_ndec (fun h1 => ?_) (fun h1 => ?_) | refine br_nbool (fun h1 => ?_) (fun h1 => ?_) | refine br_bool (fun h1 => ?_) (fun h1 => ?_)); all_goals (try dsimp only at h1); all_goals (try with_reducible replace h1 := zi_lt.1 h1); all_goals (try with_reducible replace h1 := not_zlt h1)) <;> cbv
  · exact hr (fun _ => 448) (by rw [if_pos h1])
  · ((try refine br_rev ?_); (first | refine br_dec (fun h2 => ?_) (fun h2 => ?_) | refine br_ndec (fun h2 => ?_) (fun h2 => ?_) | refine br_nbool (fun h2 => ?_) (fun h2 => ?_) | refine br_bool (fun h2 => ?_) (fun h2 => ?_)); all_goals (try dsimp only at h2); all_goals (try with_reducible replace h2 := zi_lt.1 h2); all_goals (try with_reducible replace h2 := not_zlt h2)) <;> cbv
    · exact hr (fun _ => 511) (by rw [if_neg h1, if_pos h2])
    · exact hr (fun _ => 0) (by rw [if_neg h1, if_neg h2])

theorem preS_8 (s : List UInt8) (p : List UInt8) (n : Nat) (hp : p.length = n) : preS p s = (decide (zi n ≤ zi s.length) && decide (((s.take (zi n).toNat).drop (0 : Int).toNat) = p)) := by
  unfold preS
  rw [hp, zi_toNat]
  congr 1
  unfold zi
  rw [decide_eq_decide]; omega
theorem strict_c (s : Th (List UInt8)) {d : Nat} {K : ARes → BL → Prop} (hr : ∀ b : Th Bool, b .o = (preS trustedS (s .o) || preS securityS (s .o)) → K (.ret (.bool b)) .nil) : CallAt PT r18_Strict [.str s] d .nil K := by
  refine CallAt.res ?_
  refine r18_Strict.of rfl rfl ?_
  cbv
  rw [preS_8 (s .o) trustedS 8 rfl, preS_8 (s .o) securityS 9 rfl] at hr
  have fin : ∀ (b : Th Bool) {x : AV}, b .o = _ → Same x (.bool b) → ∃ r', SameR (.ret x) r' ∧ K r' .nil := fun b x h1 h2 => ⟨_, .ret h2, hr b h1⟩
  refine br_bool (fun h1 => ?_) (fun h1 => ?_)
  · cbv
    refine safe ⟨Int.le_refl _, by decide, of_decide_eq_true h1⟩ ?_
    refine br_rev (br_bool (fun h2 => ?_) (fun h2 => ?_))
    · cbv
      exact fin (fun _ => true) (by rw [show decide (zi 8 ≤ zi (s .o).length) = true from h1, show decide (((s .o).take (zi 8).toNat).drop (0 : Int).toNat = trustedS) = true from h2]; rfl) (.tt rfl)
    · have e1 : (decide (zi 8 ≤ zi (s .o).length) && decide (((s .o).take (zi 8).toNat).drop (0 : Int).toNat = trustedS)) = false := by
        rw [show decide (((s .o).take (zi 8).toNat).drop (0 : Int).toNat = trustedS) = false from h2, Bool.and_false]
      rw [e1] at fin
      cbv
      refine br_bool (fun h3 => ?_) (fun h3 => ?_)
      · cbv
        refine safe ⟨Int.le_refl _, by decide, of_decide_eq_true h3⟩ ?_
        exact fin _ (by rw [show decide (zi 9 ≤ zi (s .o).length) = true from h3]; rfl) (.refl _)
      · cbv
        exact fin (fun _ => false) (by rw [show decide (zi 9 ≤ zi (s .o).length) = false from h3]; rfl) (.ff rfl)
  · have e1 : (decide (zi 8 ≤ zi (s .o).length) && decide (((s .o).take (zi 8).toNat).drop (0 : Int).toNat = trustedS)) = false := by
      rw [show decide (zi 8 ≤ zi (s .o).length) = false from h1, Bool.false_and]
    rw [e1] at fin
    cbv
    refine br_bool (fun h3 => ?_) (fun h3 => ?_)
    · cbv
      refine safe ⟨Int.le_refl _, by decide, of_decide_eq_true h3⟩ ?_
      exact fin _ (by rw [show decide (zi 9 ≤ zi (s .o).length) = true from h3]; rfl) (.refl _)
    · cbv
      exact fin (fun _ => false) (by rw [show decide (zi 9 ≤ zi (s .o).length) = false from h3]; rfl) (.ff rfl)

theorem fewer21_c (l : Th (List Xattr)) (hl : (l .o).length ≤ 1000) {d : Nat} {K : ARes → BL → Prop} (hr : ∀ r : Th (List Xattr), r .o = fewerS (l .o) → K (.ret (xattrs r)) .nil) : CallAt PT r21_Fewer [xattrs l] d .nil K := by
  refine r21_Fewer.of rfl rfl ?_
  cbv
  refine nil_tmp 3 9000 2 (fun _ => .nil) rfl rfl ?_
  refine loop_at (X := Nat) 1000 [0, 3] [] (fun _ k => .cons 4 (.int .i64 fun _ => zi k) .nil) (fun _ k => .cons 9000 (rowB 2 Xattr.ch Xattr.z fun _ => fewerS ((l .o).take k)) .nil) (fun k => k ≤ (l .o).length) (fun k => (l .o).length - k) 0 ?_ (Nat.zero_le _) ?_
  · cbv
    (repeat' (first | exact True.intro | exact Same.refl _ | exact SameB.refl _ | exact ⟨rfl⟩ | exact Same.int rfl | exact Same.str rfl | exact Same.bool rfl | (refine Same.int ?_; simp only [List.length_append, List.length_cons, List.length_nil, zi]; omega) | (refine SameB.row' rfl fun i hi => ?_; first | rfl | exact absurd hi (Nat.not_lt_zero _)) | refine And.intro ?_ ?_ | refine SameB.cells ?_ | exact SameC.nil | refine SameC.cons ?_ ?_ | exact Same.nsl rfl | exact Same.tt rfl | exact Same.ff rfl))
  · intro k hk
    have succ := zi_succ (k := k) (by omega)
    have hz := zi_toNat k
    cbv
    ((try refine br_rev ?_); (first | refine br_dec (fun h1 => ?_) (fun h1 => ?_) | refine br_ndec (fun h1 => ?_) (fun h1 => ?_) | refine br_nbool (fun h1 => ?_) (fun h1 => ?_) | refine br_bool (fun h1 => ?_) (fun h1 => ?_)); all_goals (try dsimp only at h1); all_goals (try with_reducible replace h1 := zi_lt.1 h1); all_goals (try with_reducible replace h1 := not_zlt h1)) <;> cbv
    · have hst := fewer_step (l .o) k h1
      have hfl := fewer_len ((l .o).take k)
      have htl : ((l .o).take k).length ≤ k := by rw [List.length_take]; omega
      refine safe ⟨zi_nonneg _, zi_lt.2 h1⟩ ?_
      refine strict_c (fun _ => ((l .o).getD (zi k).toNat Xattr.z).name) fun b hb => ?_
      have hb : b .o = strictS ((l .o).getD k Xattr.z) := by rw [hb, hz]; rfl
      cbv
      refine br_nbool (fun h2 => ?_) (fun h2 => ?_)
      · have h2 : b .o = false := h2
        rw [if_neg (by rw [← hb, h2]; decide)] at hst
        cbv
        refine safe ⟨zi_nonneg _, zi_lt.2 h1⟩ ?_
        refine app_one Xattr.ch Xattr.z (fewerS ((l .o).take k)) ((l .o).getD (zi k).toNat Xattr.z) rfl (fun i hi => rfl) rfl rfl (by omega) ?_
        cbv
        refine ⟨k + 1, h1, by omega, ?_⟩
        cbv
        rw [hst, hz]
        (repeat' (first | exact True.intro | exact Same.refl _ | exact SameB.refl _ | exact ⟨rfl⟩ | exact Same.int rfl | exact Same.str rfl | exact Same.bool rfl | (refine Same.int ?_; simp only [List.length_append, List.length_cons, List.length_nil, zi]; omega) | (refine SameB.row' rfl fun i hi => ?_; first | rfl | exact absurd hi (Nat.not_lt_zero _)) | refine And.intro ?_ ?_ | refine SameB.cells ?_ | exact SameC.nil | refine SameC.cons ?_ ?_ | exact Same.nsl rfl | exact Same.tt rfl | exact Same.ff rfl))
        all_goals exact Same.int succ
      · have h2 : b .o = true := h2
        rw [if_pos (by rw [← hb, h2])] at hst
        cbv
        refine ⟨k + 1, h1, by omega, ?_⟩
        cbv
        rw [hst]
        (repeat' (first | exact True.intro | exact Same.refl _ | exact SameB.refl _ | exact ⟨rfl⟩ | exact Same.int rfl | exact Same.str rfl | exact Same.bool rfl | (refine Same.int ?_; simp only [List.length_append, List.length_cons, List.length_nil, zi]; omega) | (refine SameB.row' rfl fun i hi => ?_; first | rfl | exact absurd hi (Nat.not_lt_zero _)) | refine And.intro ?_ ?_ | refine SameB.cells ?_ | exact SameC.nil | refine SameC.cons ?_ ?_ | exact Same.nsl rfl | exact Same.tt rfl | exact Same.ff rfl))
        all_goals exact Same.int succ
    · exact hr (fun _ => fewerS ((l .o).take k)) (by rw [List.take_of_length_le (by omega)])

theorem list_ext_getD {α : Type} {a b : List α} (z : α) (hl : a.length = b.length) (h : ∀ j, j < a.length → a.getD j z = b.getD j z) : a = b := by
  apply List.ext_getElem hl
  intro i h1 h2
  have := h i h1
  simpa [List.getD_eq_getElem?_getD, List.getElem?_eq_getElem h1, List.getElem?_eq_getElem h2] using this
/-- Two lists that differ in a place. -/
theorem list_ne_getD {α : Type} {a b : List α} (z : α) (j : Nat) (h : a.getD j z ≠ b.getD j z) : a ≠ b := fun e => h (by rw [e])

theorem sameX_c (a b : Th (List Xattr)) (ha : short (a .o)) {d : Nat} {K : ARes → BL → Prop} (hr : ∀ r : Th Bool, (r .o = true ↔ a .o = b .o) → K (.ret (.bool r)) .nil) : CallAt PT r9_SameXattrs [xattrs a, xattrs b] d .nil K := by
  refine CallAt.res ?_
  refine r9_SameXattrs.of rfl rfl ?_
  cbv
  have no : ∀ {x : AV}, a .o ≠ b .o → Same x (.bool fun _ => false) → ∃ r', SameR (.ret x) r' ∧ K r' .nil := fun h1 h2 => ⟨_, .ret h2, hr _ ⟨fun q => (by cases q), fun q => (h1 q).elim⟩⟩
  refine br_ndec (fun h1 => ?_) (fun h1 => ?_)
  · cbv
    exact no (fun q => h1 (by rw [q])) (.ff rfl)
  · have h1 : (a .o).length = (b .o).length := zi_inj.1 h1
    cbv
    refine loop_rule (X := Nat) 1000 [0, 1] [] (fun k => .cons 5 (.int .i64 fun _ => zi k) .nil) (fun _ => .nil) (fun k => k ≤ (a .o).length ∧ ∀ j, j < k → (a .o).getD j Xattr.z = (b .o).getD j Xattr.z) (fun k => (a .o).length - k) 0 ?_ ⟨Nat.zero_le _, fun j hj => by omega⟩ ?_
    · cbv
      (repeat' (first | exact True.intro | exact Same.refl _ | exact SameB.refl _ | exact ⟨rfl⟩ | exact Same.int rfl | exact Same.str rfl | exact Same.bool rfl | (refine Same.int ?_; simp only [List.length_append, List.length_cons, List.length_nil, zi]; omega) | (refine SameB.row' rfl fun i hi => ?_; first | rfl | exact absurd hi (Nat.not_lt_zero _)) | refine And.intro ?_ ?_ | refine SameB.cells ?_ | exact SameC.nil | refine SameC.cons ?_ ?_ | exact Same.nsl rfl | exact Same.tt rfl | exact Same.ff rfl))
    · rintro k ⟨hk, heq⟩
      have hz := zi_toNat k
      cbv
      ((try refine br_rev ?_); (first | refine br_dec (fun h2 => ?_) (fun h2 => ?_) | refine br_ndec (fun h2 => ?_) (fun h2 => ?_) | refine br_nbool (fun h2 => ?_) (fun h2 => ?_) | refine br_bool (fun h2 => ?_) (fun h2 => ?_)); all_goals (try dsimp only at h2); all_goals (try with_reducible replace h2 := zi_lt.1 h2); all_goals (try with_reducible replace h2 := not_zlt h2))
      · cbv
        refine safe ⟨zi_nonneg _, zi_lt.2 h2⟩ ?_
        refine safe ⟨zi_nonneg _, zi_lt.2 (by omega)⟩ ?_
        refine br_nbool (fun h3 => ?_) (fun h3 => ?_)
        · cbv
          refine no (list_ne_getD Xattr.z k fun q => ?_) (.ff rfl)
          rw [hz, q] at h3
          simp at h3
        · rw [hz] at h3
          simp only [Bool.and_eq_true, decide_eq_true_eq] at h3
          have h3' : (a .o).getD k Xattr.z = (b .o).getD k Xattr.z := by
            have e1 := h3.1
            have e2 := h3.2.1
            generalize (a .o).getD k Xattr.z = p at e1 e2 ⊢
            generalize (b .o).getD k Xattr.z = q at e1 e2 ⊢
            cases p; cases q
            simp only at e1 e2
            rw [e1, e2]
          cbv
          refine ⟨k + 1, ⟨h2, fun j hj => ?_⟩, by omega, ?_⟩
          · by_cases e : j = k
            · rw [e]; exact h3'
            · exact heq j (by omega)
          · cbv
            rw [zi_succ (by unfold short at ha; omega)]
            (repeat' (first | exact True.intro | exact Same.refl _ | exact SameB.refl _ | exact ⟨rfl⟩ | exact Same.int rfl | exact Same.str rfl | exact Same.bool rfl | (refine Same.int ?_; simp only [List.length_append, List.length_cons, List.length_nil, zi]; omega) | (refine SameB.row' rfl fun i hi => ?_; first | rfl | exact absurd hi (Nat.not_lt_zero _)) | refine And.intro ?_ ?_ | refine SameB.cells ?_ | exact SameC.nil | refine SameC.cons ?_ ?_ | exact Same.nsl rfl | exact Same.tt rfl | exact Same.ff rfl))
      · cbv
        exact ⟨_, .ret (y := .bool fun _ => true) (.tt rfl), hr _ ⟨fun _ => list_ext_getD Xattr.z h1 fun j hj => heq j (by omega), fun _ => rfl⟩⟩

def optA (b : Bool) (x : Int) : List Int := match b with | true => [x] | false => []
theorem mkA_opt (a b c d e f g : Bool) : mkA a b c d e f g = optA a 10 ++ [2] ++ optA b 3 ++ optA c 4 ++ optA d 5 ++ optA e 6 ++ optA f 7 ++ [8] ++ optA g 9 := by
  cases a <;> cases b <;> cases c <;> cases d <;> cases e <;> cases f <;> cases g <;> rfl
theorem optA_len (b : Bool) (x : Int) : (optA b x).length ≤ 1 := by cases b <;> simp [optA]
theorem attrs21_c (e : Th Entry) {d : Nat} {K : ARes → BL → Prop} (hr : ∀ r : Th (List Int), r .o = attrsS (e .o) → K (.ret (ints r)) .nil) : CallAt PT r21_Attrs [Entry.av e] d .nil K := by
  refine CallAt.res ?_
  refine r21_Attrs.of rfl rfl ?_
  cbv
  refine go_on 1000 ?_
  cbv
  ((try refine br_rev ?_); (first | refine br_dec (fun h1 => ?_) (fun h1 => ?_) | refine br_ndec (fun h1 => ?_) (fun h1 => ?_) | refine br_nbool (fun h1 => ?_) (fun h1 => ?_) | refine br_bool (fun h1 => ?_) (fun h1 => ?_)); all_goals (try dsimp only at h1); all_goals (try with_reducible replace h1 := zi_lt.1 h1); all_goals (try with_reducible replace h1 := not_zlt h1)) <;> cbv
  · exact ⟨_, .ret (y := ints fun _ => []) (.nsl rfl), hr _ (by unfold attrsS; rw [if_pos h1])⟩
  · refine nil_tmp 3 9000 1 (fun i => intCh fun _ => ([] : List Int).getD (i .o) 0) rfl rfl ?_
    have q10 := optA_len (hasA (e .o) 10) 10
    have q3 := optA_len (hasA (e .o) 3) 3
    have q4 := optA_len (hasA (e .o) 4) 4
    have q5 := optA_len (hasA (e .o) 5) 5
    have q6 := optA_len (hasA (e .o) 6) 6
    have q7 := optA_len (hasA (e .o) 7) 7
    have q9 := optA_len (hasA (e .o) 9) 9
    refine cut_rule (X := Unit) 1000 1000 [1] [1] (fun _ => .cons 3 (.row 9000) .nil) (fun _ => .cons 9000 (rowB 1 intCh 0 fun _ => optA (hasA (e .o) 10) 10) .nil) (fun _ => True) ?_ fun _ _ => ?_
    · cbv
      refine br_dec (fun h2 => ?_) (fun h2 => ?_)
      · have e1 : hasA (e .o) 10 = true := decide_eq_true h2
        cbv
        refine app_one intCh 0 ([]) 10 rfl (fun i hi => rfl) rfl rfl (by decide) ?_
        cbv
        refine ⟨(), trivial, ?_⟩
        cbv
        rw [e1]
        (repeat' (first | exact True.intro | exact Same.refl _ | exact SameB.refl _ | exact ⟨rfl⟩ | exact Same.int rfl | exact Same.str rfl | exact Same.bool rfl | (refine Same.int ?_; simp only [List.length_append, List.length_cons, List.length_nil, zi]; omega) | (refine SameB.row' rfl fun i hi => ?_; first | rfl | exact absurd hi (Nat.not_lt_zero _)) | refine And.intro ?_ ?_ | refine SameB.cells ?_ | exact SameC.nil | refine SameC.cons ?_ ?_ | exact Same.nsl rfl | exact Same.tt rfl | exact Same.ff rfl))
      · have e1 : hasA (e .o) 10 = false := decide_eq_false h2
        cbv
        refine ⟨(), trivial, ?_⟩
        cbv
        rw [e1]
        (repeat' (first | exact True.intro | exact Same.refl _ | exact SameB.refl _ | exact ⟨rfl⟩ | exact Same.int rfl | exact Same.str rfl | exact Same.bool rfl | (refine Same.int ?_; simp only [List.length_append, List.length_cons, List.length_nil, zi]; omega) | (refine SameB.row' rfl fun i hi => ?_; first | rfl | exact absurd hi (Nat.not_lt_zero _)) | refine And.intro ?_ ?_ | refine SameB.cells ?_ | exact SameC.nil | refine SameC.cons ?_ ?_ | exact Same.nsl rfl | exact Same.tt rfl | exact Same.ff rfl))
        all_goals exact SameB.row' (by simp [optA]) fun i hi => by simp [optA]
    cbv
    refine app_one intCh 0 (optA (hasA (e .o) 10) 10) 2 rfl (fun i hi => rfl) rfl rfl (by omega) ?_
    cbv
    refine cut_rule (X := Unit) 1000 1000 [1] [1] (fun _ => .cons 3 (.row 9000) .nil) (fun _ => .cons 9000 (rowB 1 intCh 0 fun _ => optA (hasA (e .o) 10) 10 ++ [2] ++ optA (hasA (e .o) 3) 3) .nil) (fun _ => True) ?_ fun _ _ => ?_
    · cbv
      refine br_ndec (fun h2 => ?_) (fun h2 => ?_)
      · have e1 : hasA (e .o) 3 = true := by show (!decide _) = true; rw [decide_eq_false h2]; rfl
        cbv
        refine app_one intCh 0 (optA (hasA (e .o) 10) 10 ++ [2]) 3 rfl (fun i hi => rfl) rfl rfl (by simp only [List.length_append, List.length_cons, List.length_nil]; omega) ?_
        cbv
        refine ⟨(), trivial, ?_⟩
        cbv
        rw [e1]
        (repeat' (first | exact True.intro | exact Same.refl _ | exact SameB.refl _ | exact ⟨rfl⟩ | exact Same.int rfl | exact Same.str rfl | exact Same.bool rfl | (refine Same.int ?_; simp only [List.length_append, List.length_cons, List.length_nil, zi]; omega) | (refine SameB.row' rfl fun i hi => ?_; first | rfl | exact absurd hi (Nat.not_lt_zero _)) | refine And.intro ?_ ?_ | refine SameB.cells ?_ | exact SameC.nil | refine SameC.cons ?_ ?_ | exact Same.nsl rfl | exact Same.tt rfl | exact Same.ff rfl))
      · have e1 : hasA (e .o) 3 = false := by show (!decide _) = false; rw [decide_eq_true h2]; rfl
        cbv
        refine ⟨(), trivial, ?_⟩
        cbv
        rw [e1]
        (repeat' (first | exact True.intro | exact Same.refl _ | exact SameB.refl _ | exact ⟨rfl⟩ | exact Same.int rfl | exact Same.str rfl | exact Same.bool rfl | (refine Same.int ?_; simp only [List.length_append, List.length_cons, List.length_nil, zi]; omega) | (refine SameB.row' rfl fun i hi => ?_; first | rfl | exact absurd hi (Nat.not_lt_zero _)) | refine And.intro ?_ ?_ | refine SameB.cells ?_ | exact SameC.nil | refine SameC.cons ?_ ?_ | exact Same.nsl rfl | exact Same.tt rfl | exact Same.ff rfl))
        all_goals exact SameB.row' (by simp [optA]) fun i hi => by simp [optA]
    cbv
    refine cut_rule (X := Unit) 1000 1000 [1] [1] (fun _ => .cons 3 (.row 9000) .nil) (fun _ => .cons 9000 (rowB 1 intCh 0 fun _ => optA (hasA (e .o) 10) 10 ++ [2] ++ optA (hasA (e .o) 3) 3 ++ optA (hasA (e .o) 4) 4) .nil) (fun _ => True) ?_ fun _ _ => ?_
    · cbv
      refine br_dec (fun h2 => ?_) (fun h2 => ?_)
      · have e1 : hasA (e .o) 4 = true := (zpos_dec _).symm.trans (decide_eq_true h2)
        cbv
        refine app_one intCh 0 (optA (hasA (e .o) 10) 10 ++ [2] ++ optA (hasA (e .o) 3) 3) 4 rfl (fun i hi => rfl) rfl rfl (by simp only [List.length_append, List.length_cons, List.length_nil]; omega) ?_
        cbv
        refine ⟨(), trivial, ?_⟩
        cbv
        rw [e1]
        (repeat' (first | exact True.intro | exact Same.refl _ | exact SameB.refl _ | exact ⟨rfl⟩ | exact Same.int rfl | exact Same.str rfl | exact Same.bool rfl | (refine Same.int ?_; simp only [List.length_append, List.length_cons, List.length_nil, zi]; omega) | (refine SameB.row' rfl fun i hi => ?_; first | rfl | exact absurd hi (Nat.not_lt_zero _)) | refine And.intro ?_ ?_ | refine SameB.cells ?_ | exact SameC.nil | refine SameC.cons ?_ ?_ | exact Same.nsl rfl | exact Same.tt rfl | exact Same.ff rfl))
      · have e1 : hasA (e .o) 4 = false := (zpos_dec _).symm.trans (decide_eq_false h2)
        cbv
        refine ⟨(), trivial, ?_⟩
        cbv
        rw [e1]
        (repeat' (first | exact True.intro | exact Same.refl _ | exact SameB.refl _ | exact ⟨rfl⟩ | exact Same.int rfl | exact Same.str rfl | exact Same.bool rfl | (refine Same.int ?_; simp only [List.length_append, List.length_cons, List.length_nil, zi]; omega) | (refine SameB.row' rfl fun i hi => ?_; first | rfl | exact absurd hi (Nat.not_lt_zero _)) | refine And.intro ?_ ?_ | refine SameB.cells ?_ | exact SameC.nil | refine SameC.cons ?_ ?_ | exact Same.nsl rfl | exact Same.tt rfl | exact Same.ff rfl))
        all_goals exact SameB.row' (by simp [optA]) fun i hi => by simp [optA]
    cbv
    refine cut_rule (X := Unit) 1000 1000 [1] [1] (fun _ => .cons 3 (.row 9000) .nil) (fun _ => .cons 9000 (rowB 1 intCh 0 fun _ => optA (hasA (e .o) 10) 10 ++ [2] ++ optA (hasA (e .o) 3) 3 ++ optA (hasA (e .o) 4) 4 ++ optA (hasA (e .o) 5) 5) .nil) (fun _ => True) ?_ fun _ _ => ?_
    · cbv
      refine br_dec (fun h2 => ?_) (fun h2 => ?_)
      · have e1 : hasA (e .o) 5 = true := (zpos_dec _).symm.trans (decide_eq_true h2)
        cbv
        refine app_one intCh 0 (optA (hasA (e .o) 10) 10 ++ [2] ++ optA (hasA (e .o) 3) 3 ++ optA (hasA (e .o) 4) 4) 5 rfl (fun i hi => rfl) rfl rfl (by simp only [List.length_append, List.length_cons, List.length_nil]; omega) ?_
        cbv
        refine ⟨(), trivial, ?_⟩
        cbv
        rw [e1]
        (repeat' (first | exact True.intro | exact Same.refl _ | exact SameB.refl _ | exact ⟨rfl⟩ | exact Same.int rfl | exact Same.str rfl | exact Same.bool rfl | (refine Same.int ?_; simp only [List.length_append, List.length_cons, List.length_nil, zi]; omega) | (refine SameB.row' rfl fun i hi => ?_; first | rfl | exact absurd hi (Nat.not_lt_zero _)) | refine And.intro ?_ ?_ | refine SameB.cells ?_ | exact SameC.nil | refine SameC.cons ?_ ?_ | exact Same.nsl rfl | exact Same.tt rfl | exact Same.ff rfl))
      · have e1 : hasA (e .o) 5 = false := (zpos_dec _).symm.trans (decide_eq_false h2)
        cbv
        refine ⟨(), trivial, ?_⟩
        cbv
        rw [e1]
        (repeat' (first | exact True.intro | exact Same.refl _ | exact SameB.refl _ | exact ⟨rfl⟩ | exact Same.int rfl | exact Same.str rfl | exact Same.bool rfl | (refine Same.int ?_; simp only [List.length_append, List.length_cons, List.length_nil, zi]; omega) | (refine SameB.row' rfl fun i hi => ?_; first | rfl | exact absurd hi (Nat.not_lt_zero _)) | refine And.intro ?_ ?_ | refine SameB.cells ?_ | exact SameC.nil | refine SameC.cons ?_ ?_ | exact Same.nsl rfl | exact Same.tt rfl | exact Same.ff rfl))
        all_goals exact SameB.row' (by simp [optA]) fun i hi => by simp [optA]
    cbv
    refine cut_rule (X := Unit) 1000 1000 [1] [1] (fun _ => .cons 3 (.row 9000) .nil) (fun _ => .cons 9000 (rowB 1 intCh 0 fun _ => optA (hasA (e .o) 10) 10 ++ [2] ++ optA (hasA (e .o) 3) 3 ++ optA (hasA (e .o) 4) 4 ++ optA (hasA (e .o) 5) 5 ++ optA (hasA (e .o) 6) 6) .nil) (fun _ => True) ?_ fun _ _ => ?_
    · cbv
      refine br_dec (fun h2 => ?_) (fun h2 => ?_)
      · have e1 : hasA (e .o) 6 = true := (zpos_dec _).symm.trans (decide_eq_true h2)
        cbv
        refine app_one intCh 0 (optA (hasA (e .o) 10) 10 ++ [2] ++ optA (hasA (e .o) 3) 3 ++ optA (hasA (e .o) 4) 4 ++ optA (hasA (e .o) 5) 5) 6 rfl (fun i hi => rfl) rfl rfl (by simp only [List.length_append, List.length_cons, List.length_nil]; omega) ?_
        cbv
        refine ⟨(), trivial, ?_⟩
        cbv
        rw [e1]
        (repeat' (first | exact True.intro | exact Same.refl _ | exact SameB.refl _ | exact ⟨rfl⟩ | exact Same.int rfl | exact Same.str rfl | exact Same.bool rfl | (refine Same.int ?_; simp only [List.length_append, List.length_cons, List.length_nil, zi]; omega) | (refine SameB.row' rfl fun i hi => ?_; first | rfl | exact absurd hi (Nat.not_lt_zero _)) | refine And.intro ?_ ?_ | refine SameB.cells ?_ | exact SameC.nil | refine SameC.cons ?_ ?_ | exact Same.nsl rfl | exact Same.tt rfl | exact Same.ff rfl))
      · have e1 : hasA (e .o) 6 = false := (zpos_dec _).symm.trans (decide_eq_false h2)
        cbv
        refine ⟨(), trivial, ?_⟩
        cbv
        rw [e1]
        (repeat' (first | exact True.intro | exact Same.refl _ | exact SameB.refl _ | exact ⟨rfl⟩ | exact Same.int rfl | exact Same.str rfl | exact Same.bool rfl | (refine Same.int ?_; simp only [List.length_append, List.length_cons, List.length_nil, zi]; omega) | (refine SameB.row' rfl fun i hi => ?_; first | rfl | exact absurd hi (Nat.not_lt_zero _)) | refine And.intro ?_ ?_ | refine SameB.cells ?_ | exact SameC.nil | refine SameC.cons ?_ ?_ | exact Same.nsl rfl | exact Same.tt rfl | exact Same.ff rfl))
        all_goals exact SameB.row' (by simp [optA]) fun i hi => by simp [optA]
    cbv
    refine cut_rule (X := Unit) 1000 1000 [1] [1] (fun _ => .cons 3 (.row 9000) .nil) (fun _ => .cons 9000 (rowB 1 intCh 0 fun _ => optA (hasA (e .o) 10) 10 ++ [2] ++ optA (hasA (e .o) 3) 3 ++ optA (hasA (e .o) 4) 4 ++ optA (hasA (e .o) 5) 5 ++ optA (hasA (e .o) 6) 6 ++ optA (hasA (e .o) 7) 7) .nil) (fun _ => True) ?_ fun _ _ => ?_
    · cbv
      refine br_ndec (fun h2 => ?_) (fun h2 => ?_)
      · have e1 : hasA (e .o) 7 = true := by show (!decide _) = true; rw [decide_eq_false h2]; rfl
        cbv
        refine app_one intCh 0 (optA (hasA (e .o) 10) 10 ++ [2] ++ optA (hasA (e .o) 3) 3 ++ optA (hasA (e .o) 4) 4 ++ optA (hasA (e .o) 5) 5 ++ optA (hasA (e .o) 6) 6) 7 rfl (fun i hi => rfl) rfl rfl (by simp only [List.length_append, List.length_cons, List.length_nil]; omega) ?_
        cbv
        refine ⟨(), trivial, ?_⟩
        cbv
        rw [e1]
        (repeat' (first | exact True.intro | exact Same.refl _ | exact SameB.refl _ | exact ⟨rfl⟩ | exact Same.int rfl | exact Same.str rfl | exact Same.bool rfl | (refine Same.int ?_; simp only [List.length_append, List.length_cons, List.length_nil, zi]; omega) | (refine SameB.row' rfl fun i hi => ?_; first | rfl | exact absurd hi (Nat.not_lt_zero _)) | refine And.intro ?_ ?_ | refine SameB.cells ?_ | exact SameC.nil | refine SameC.cons ?_ ?_ | exact Same.nsl rfl | exact Same.tt rfl | exact Same.ff rfl))
      · have e1 : hasA (e .o) 7 = false := by show (!decide _) = false; rw [decide_eq_true h2]; rfl
        cbv
        refine ⟨(), trivial, ?_⟩
        cbv
        rw [e1]
        (repeat' (first | exact True.intro | exact Same.refl _ | exact SameB.refl _ | exact ⟨rfl⟩ | exact Same.int rfl | exact Same.str rfl | exact Same.bool rfl | (refine Same.int ?_; simp only [List.length_append, List.length_cons, List.length_nil, zi]; omega) | (refine SameB.row' rfl fun i hi => ?_; first | rfl | exact absurd hi (Nat.not_lt_zero _)) | refine And.intro ?_ ?_ | refine SameB.cells ?_ | exact SameC.nil | refine SameC.cons ?_ ?_ | exact Same.nsl rfl | exact Same.tt rfl | exact Same.ff rfl))
        all_goals exact SameB.row' (by simp [optA]) fun i hi => by simp [optA]
    cbv
    refine app_one intCh 0 (optA (hasA (e .o) 10) 10 ++ [2] ++ optA (hasA (e .o) 3) 3 ++ optA (hasA (e .o) 4) 4 ++ optA (hasA (e .o) 5) 5 ++ optA (hasA (e .o) 6) 6 ++ optA (hasA (e .o) 7) 7) 8 rfl (fun i hi => rfl) rfl rfl (by simp only [List.length_append, List.length_cons, List.length_nil]; omega) ?_
    cbv
    refine cut_rule (X := Unit) 1000 1000 [1] [1] (fun _ => .cons 3 (.row 9000) .nil) (fun _ => .cons 9000 (rowB 1 intCh 0 fun _ => optA (hasA (e .o) 10) 10 ++ [2] ++ optA (hasA (e .o) 3) 3 ++ optA (hasA (e .o) 4) 4 ++ optA (hasA (e .o) 5) 5 ++ optA (hasA (e .o) 6) 6 ++ optA (hasA (e .o) 7) 7 ++ [8] ++ optA (hasA (e .o) 9) 9) .nil) (fun _ => True) ?_ fun _ _ => ?_
    · cbv
      refine br_ndec (fun h2 => ?_) (fun h2 => ?_)
      · have e1 : hasA (e .o) 9 = true := by show (!decide _) = true; rw [decide_eq_false h2]; rfl
        cbv
        refine app_one intCh 0 (optA (hasA (e .o) 10) 10 ++ [2] ++ optA (hasA (e .o) 3) 3 ++ optA (hasA (e .o) 4) 4 ++ optA (hasA (e .o) 5) 5 ++ optA (hasA (e .o) 6) 6 ++ optA (hasA (e .o) 7) 7 ++ [8]) 9 rfl (fun i hi => rfl) rfl rfl (by simp only [List.length_append, List.length_cons, List.length_nil]; omega) ?_
        cbv
        refine ⟨(), trivial, ?_⟩
        cbv
        rw [e1]
        (repeat' (first | exact True.intro | exact Same.refl _ | exact SameB.refl _ | exact ⟨rfl⟩ | exact Same.int rfl | exact Same.str rfl | exact Same.bool rfl | (refine Same.int ?_; simp only [List.length_append, List.length_cons, List.length_nil, zi]; omega) | (refine SameB.row' rfl fun i hi => ?_; first | rfl | exact absurd hi (Nat.not_lt_zero _)) | refine And.intro ?_ ?_ | refine SameB.cells ?_ | exact SameC.nil | refine SameC.cons ?_ ?_ | exact Same.nsl rfl | exact Same.tt rfl | exact Same.ff rfl))
      · have e1 : hasA (e .o) 9 = false := by show (!decide _) = false; rw [decide_eq_true h2]; rfl
        cbv
        refine ⟨(), trivial, ?_⟩
        cbv
        rw [e1]
        (repeat' (first | exact True.intro | exact Same.refl _ | exact SameB.refl _ | exact ⟨rfl⟩ | exact Same.int rfl | exact Same.str rfl | exact Same.bool rfl | (refine Same.int ?_; simp only [List.length_append, List.length_cons, List.length_nil, zi]; omega) | (refine SameB.row' rfl fun i hi => ?_; first | rfl | exact absurd hi (Nat.not_lt_zero _)) | refine And.intro ?_ ?_ | refine SameB.cells ?_ | exact SameC.nil | refine SameC.cons ?_ ?_ | exact Same.nsl rfl | exact Same.tt rfl | exact Same.ff rfl))
        all_goals exact SameB.row' (by simp [optA]) fun i hi => by simp [optA]
    cbv
    exact ⟨_, .ret (y := ints fun _ => attrsS (e .o)) (.sl (by unfold attrsS; rw [if_neg h1, filter_mkA _ rfl rfl, mkA_opt]) fun i hi => by unfold attrsS; rw [if_neg h1, filter_mkA _ rfl rfl, mkA_opt]; rfl), hr _ rfl⟩
end Go.Proofs.Ytgjlkcdnlndlnaa

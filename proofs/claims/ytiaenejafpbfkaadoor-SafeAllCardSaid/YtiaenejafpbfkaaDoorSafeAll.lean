/- The law SafeAll, walked. -/
import Derived.Test.YtiaenejafpbfkaaDoorSafeMade
import Derived.Test.YtiaenejafpbfkaaDoorArg
namespace Go.Proofs.YtiaenejafpbfkaaDoor
open Go Go.Proofs.YtiaenejafpbfkaaDoor.Sx F
set_option linter.unusedVariables false
set_option linter.unusedSimpArgs false

theorem safe21_c (e : Th Entry) (hp : (e .o).path.length ≤ 1099511627776) (ht : (e .o).target.length ≤ 1099511627776) {d : Nat} {K : ARes → BL → Prop} (hr : ∀ b : Th Bool, b .o = safeS (e .o) → K (.ret (.bool b)) .nil) : CallAt PT r21_Safe [Entry.av e] d .nil K := by
  refine CallAt.res ?_
  refine r21_Safe.of rfl rfl ?_
  cbv
  refine path15_c (fun _ => (e .o).path) hp fun b1 hb1 => ?_
  cbv
  refine br_nbool (fun h0 => ?_) (fun h0 => ?_)
  · rw [hb1] at h0
    cbv
    refine ⟨_, .ret (y := .bool fun _ => false) (.ff rfl), hr _ ?_⟩
    unfold safeS insideS
    rw [h0]
    split
    · rfl
    · split <;> rfl
  rw [hb1] at h0
  cbv
  refine br_dec (fun h1 => ?_) (fun h1 => ?_)
  · have h1 : (e .o).kind = 2 := h1
    cbv
    refine path15_c (fun _ => (e .o).target) ht fun b3 hb3 => ?_
    cbv
    refine br_bool (fun h3 => ?_) (fun h3 => ?_)
    rotate_left
    · rw [hb3] at h3
      cbv
      exact ⟨_, .ret (y := .bool fun _ => false) (.ff rfl), hr _ (by unfold safeS; rw [if_pos h1, h0, h3]; rfl)⟩
    rw [hb3] at h3
    cbv
    exact ⟨_, .ret (Same.refl _), hr _ (by unfold safeS; rw [if_pos h1, h0, h3]; rfl)⟩
  have h1 : ¬ (e .o).kind = 2 := h1
  cbv
  refine br_dec (fun h2 => ?_) (fun h2 => ?_)
  · have h2 : (e .o).kind = 3 := h2
    cbv
    refine inside21_c (fun _ => (e .o).path) (fun _ => (e .o).target) hp ht fun b hb => ?_
    cbv
    exact ⟨_, .ret (Same.refl _), hr _ (by unfold safeS; rw [if_neg h1, if_pos h2]; exact hb)⟩
  · have h2 : ¬ (e .o).kind = 3 := h2
    cbv
    exact ⟨_, .ret (y := .bool fun _ => true) (.tt rfl), hr _ (by unfold safeS; rw [if_neg h1, if_neg h2, h0])⟩

/-! ### what is too heavy: some answer -/
theorem few_c (l : Th (List Xattr)) {d : Nat} {K : ARes → BL → Prop} (hr : ∀ b : Th Bool, K (.ret (.bool b)) .nil) : CallAt PT l13_Few [xattrs l] d .nil K := by
  refine CallAt.res ?_
  refine l13_Few.of rfl rfl ?_
  cbv
  refine loop_rule (X := Nat) 1000 [0] [] (fun k => .cons 3 (.int .i64 fun _ => zi k) .nil) (fun _ => .nil) (fun k => k ≤ 40) (fun k => 40 - k) 0 ?_ (by decide) ?_
  · cbv
    (repeat' (first | exact True.intro | exact Same.refl _ | exact SameB.refl _ | exact ⟨rfl⟩ | exact Same.int rfl | exact Same.str rfl | exact Same.bool rfl | (refine Same.int ?_; simp only [List.length_append, List.length_cons, List.length_nil, zi]; omega) | (refine SameB.row' rfl fun i hi => ?_; first | rfl | exact absurd hi (Nat.not_lt_zero _)) | refine And.intro ?_ ?_ | refine SameB.cells ?_ | exact SameC.nil | refine SameC.cons ?_ ?_ | exact Same.nsl rfl | exact Same.tt rfl | exact Same.ff rfl))
  · rintro k hk
    cbv
    ((try refine br_rev ?_); (first | refine br_dec (fun h1 => ?_) (fun h1 => ?_) | refine br_ndec (fun h1 => ?_) (fun h1 => ?_) | refine br_nbool (fun h1 => ?_) (fun h1 => ?_) | refine br_bool (fun h1 => ?_) (fun h1 => ?_)); all_goals (try dsimp only at h1); all_goals (try with_reducible replace h1 := zi_lt.1 h1); all_goals (try with_reducible replace h1 := not_zlt h1))
    · cbv
      ((try refine br_rev ?_); (first | refine br_dec (fun h2 => ?_) (fun h2 => ?_) | refine br_ndec (fun h2 => ?_) (fun h2 => ?_) | refine br_nbool (fun h2 => ?_) (fun h2 => ?_) | refine br_bool (fun h2 => ?_) (fun h2 => ?_)); all_goals (try dsimp only at h2); all_goals (try with_reducible replace h2 := zi_lt.1 h2); all_goals (try with_reducible replace h2 := not_zlt h2))
      · have h2 : k < 40 := h2
        cbv
        refine safe ⟨zi_nonneg _, zi_lt.2 h1⟩ ?_
        refine br_rev (br_dec (fun h3 => ?_) (fun h3 => ?_))
        · cbv
          exact ⟨_, .ret (y := .bool fun _ => false) (.ff rfl), hr _⟩
        cbv
        refine safe ⟨zi_nonneg _, zi_lt.2 h1⟩ ?_
        refine br_dec (fun h4 => ?_) (fun h4 => ?_)
        · cbv
          exact ⟨_, .ret (y := .bool fun _ => false) (.ff rfl), hr _⟩
        cbv
        refine ⟨k + 1, h2, by omega, ?_⟩
        cbv
        rw [zi_succ (by omega)]
        (repeat' (first | exact True.intro | exact Same.refl _ | exact SameB.refl _ | exact ⟨rfl⟩ | exact Same.int rfl | exact Same.str rfl | exact Same.bool rfl | (refine Same.int ?_; simp only [List.length_append, List.length_cons, List.length_nil, zi]; omega) | (refine SameB.row' rfl fun i hi => ?_; first | rfl | exact absurd hi (Nat.not_lt_zero _)) | refine And.intro ?_ ?_ | refine SameB.cells ?_ | exact SameC.nil | refine SameC.cons ?_ ?_ | exact Same.nsl rfl | exact Same.tt rfl | exact Same.ff rfl))
      · cbv
        exact ⟨_, .ret (Same.refl _), hr _⟩
    · cbv
      exact ⟨_, .ret (Same.refl _), hr _⟩
theorem heavy14_c (m : Th Meta) {d : Nat} {K : ARes → BL → Prop} (hr : ∀ b : Th Bool, K (.ret (.bool b)) .nil) : CallAt PT l14_Heavy [Meta.av m] d .nil K := by
  refine CallAt.res ?_
  refine l14_Heavy.of rfl rfl ?_
  cbv
  refine br_rev (br_dec (fun h1 => ?_) (fun h1 => ?_))
  · cbv
    exact ⟨_, .ret (y := .bool fun _ => true) (.tt rfl), hr _⟩
  cbv
  refine br_rev (br_dec (fun h2 => ?_) (fun h2 => ?_))
  · cbv
    exact ⟨_, .ret (y := .bool fun _ => true) (.tt rfl), hr _⟩
  cbv
  refine few_c (fun _ => (m .o).xs) fun b => ?_
  cbv
  exact ⟨_, .ret (Same.refl _), hr _⟩
theorem heavy15_c (e : Th Entry) {d : Nat} {K : ARes → BL → Prop} (hr : ∀ b : Th Bool, (b .o = false → (e .o).path.length ≤ 5000 ∧ (e .o).target.length ≤ 5000) → K (.ret (.bool b)) .nil) : CallAt PT l15_Heavy [Entry.av e] d .nil K := by
  refine CallAt.res ?_
  refine l15_Heavy.of rfl rfl ?_
  cbv
  have fin : ∀ {y : AV}, Same y (.bool fun _ => true) → ∃ r', SameR (.ret y) r' ∧ K r' .nil := fun h2 => ⟨_, .ret h2, hr _ fun q => by cases q⟩
  refine br_rev (br_dec (fun h1 => ?_) (fun h1 => ?_))
  · cbv
    exact fin (.tt rfl)
  have h1 : (e .o).path.length ≤ 5000 := by have : ¬ 5000 < zi (e .o).path.length := h1; unfold zi at this; omega
  cbv
  refine br_rev (br_dec (fun h2 => ?_) (fun h2 => ?_))
  · cbv
    exact fin (.tt rfl)
  cbv
  refine br_rev (br_dec (fun h3 => ?_) (fun h3 => ?_))
  · cbv
    exact fin (.tt rfl)
  have h3 : (e .o).target.length ≤ 5000 := by have : ¬ 5000 < zi (e .o).target.length := h3; unfold zi at this; omega
  cbv
  refine heavy14_c (fun _ => (e .o).mt) fun b => ?_
  cbv
  exact ⟨_, .ret (Same.refl _), hr _ fun _ => ⟨h1, h3⟩⟩

theorem safeAll_c (p t : Th (List UInt8)) (e : Th Entry) (he : short (e .o).mt.acl) : CallAt PT l22_SafeAll [.str p, .str t, Entry.av e] 9999 .nil Yes := by
  refine l22_SafeAll.of rfl rfl ?_
  cbv
  refine br_rev (br_dec (fun h1 => ?_) (fun h1 => ?_))
  · cbv
    refine awake22_c fun b hb => ?_
    cbv
    exact ⟨b, rfl, hb⟩
  have h1 : (p .o).length ≤ 1099511627776 := by have : ¬ 5000 < zi (p .o).length := h1; unfold zi at this; omega
  cbv
  refine br_rev (br_dec (fun h2 => ?_) (fun h2 => ?_))
  · cbv
    refine awake22_c fun b hb => ?_
    cbv
    exact ⟨b, rfl, hb⟩
  have h2 : (t .o).length ≤ 1099511627776 := by have : ¬ 5000 < zi (t .o).length := h2; unfold zi at this; omega
  cbv
  refine heavy15_c e fun b hb => ?_
  cbv
  refine br_bool (fun h3 => ?_) (fun h3 => ?_)
  · cbv
    refine awake22_c fun b hb => ?_
    cbv
    exact ⟨b, rfl, hb⟩
  obtain ⟨h4, h5⟩ := hb h3
  have h4 : (e .o).path.length ≤ 1099511627776 := by omega
  have h5 : (e .o).target.length ≤ 1099511627776 := by omega
  cbv
  refine spath_c p h1 fun b1 hb1 => ?_
  cbv
  refine path15_c p h1 fun b2 hb2 => ?_
  cbv
  have k1 : (b1 .o == b2 .o) = true := by rw [hb1, hb2]; simp
  (first | refine br_is (k1) ?_ | refine br_not (k1) ?_ | refine br_rev (br_is (k1) ?_) | refine br_rev (br_not (k1) ?_))
  cbv
  refine inside_c p t h1 h2 fun b3 hb3 => ?_
  cbv
  refine inside21_c p t h1 h2 fun b4 hb4 => ?_
  cbv
  have k2 : (b3 .o == b4 .o) = true := by rw [hb3, hb4]; simp
  (first | refine br_is (k2) ?_ | refine br_not (k2) ?_ | refine br_rev (br_is (k2) ?_) | refine br_rev (br_not (k2) ?_))
  cbv
  refine sentry_c e h4 h5 fun b5 hb5 => ?_
  cbv
  refine safe21_c e h4 h5 fun b6 hb6 => ?_
  cbv
  have k3 : (b5 .o == b6 .o) = true := by rw [hb5, hb6]; simp
  (first | refine br_is (k3) ?_ | refine br_not (k3) ?_ | refine br_rev (br_is (k3) ?_) | refine br_rev (br_not (k3) ?_))
  cbv
  refine awake22_c fun b7 hb7 => ?_
  cbv
  exact ⟨b7, rfl, hb7⟩
end Go.Proofs.YtiaenejafpbfkaaDoor

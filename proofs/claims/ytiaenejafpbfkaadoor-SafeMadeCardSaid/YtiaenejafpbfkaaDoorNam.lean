/- What the laws make by numbers: names, paths. -/
import Derived.Test.YtiaenejafpbfkaaDoorByt
import Derived.Test.YtiaenejafpbfkaaDoorRc
namespace Go.Proofs.YtiaenejafpbfkaaDoor
open Go Go.Proofs.YtiaenejafpbfkaaDoor.Sx F
set_option linter.unusedVariables false
set_option linter.unusedSimpArgs false

theorem name_c (n : Th Int) (hn : 0 ≤ n .o ∧ n .o < 256) {d : Nat} {K : ARes → BL → Prop} (hr : ∀ s : Th (List UInt8), (s .o).length ≤ 80 → K (.ret (.str s)) .nil) : CallAt PT l15_name [.int .u8 n] d .nil K := by
  refine l15_name.of rfl rfl ?_
  cbv
  refine safe (by decide) ?_
  have h8 : 0 ≤ (n .o).tmod 8 ∧ (n .o).tmod 8 < 8 := ⟨Int.tmod_nonneg _ hn.1, Int.tmod_lt_of_pos _ (by decide)⟩
  refine safe h8 ?_
  refine safe (by show ((n .o).tmod 8).toNat < 8; omega) ?_
  have hl8 : ∀ j : Nat, (([fun _ : O1 => [97], fun _ => [98], fun _ => [100, 105, 114], fun _ => [120, 32, 121], fun _ => [255], fun _ => [108, 111, 110, 103], fun _ => [195, 164], fun _ => [99]] : List (Th (List UInt8))).getD j (fun _ => [97]) .o).length ≤ 4 := by
    intro j
    match j with
    | 0 | 1 | 2 | 3 | 4 | 5 | 6 | 7 => decide
    | j + 8 => exact (by decide : (1 : Nat) ≤ 4)
  have hl := hl8 ((n .o).tmod 8).toNat
  ((try refine br_rev ?_); (first | refine br_dec (fun h1 => ?_) (fun h1 => ?_) | refine br_ndec (fun h1 => ?_) (fun h1 => ?_) | refine br_nbool (fun h1 => ?_) (fun h1 => ?_) | refine br_bool (fun h1 => ?_) (fun h1 => ?_)); all_goals (try dsimp only at h1); all_goals (try with_reducible replace h1 := zi_lt.1 h1); all_goals (try with_reducible replace h1 := not_zlt h1))
  · cbv
    have hw : IntKind.i64.wrap (IntKind.i64.wrap (n .o) - 190) = n .o - 190 := by rw [IntKind.wrap_i64, IntKind.wrap_i64]; omega
    refine loop_at (X := Nat × List UInt8) 1000 [0] [] (fun _ x => .cons 4 (.str fun _ => x.2) (.cons 5 (.int .i64 fun _ => zi x.1) .nil)) (fun _ _ => .nil) (fun x => x.1 ≤ 66 ∧ x.2.length ≤ 4 + x.1) (fun x => 70 - x.1) (0, _) ?_ ⟨Nat.zero_le _, hl⟩ ?_
    · cbv
      (repeat' (first | exact True.intro | exact Same.refl _ | exact SameB.refl _ | exact ⟨rfl⟩ | exact Same.int rfl | exact Same.str rfl | exact Same.bool rfl | (refine Same.int ?_; simp only [List.length_append, List.length_cons, List.length_nil, zi]; omega) | (refine SameB.row' rfl fun i hi => ?_; first | rfl | exact absurd hi (Nat.not_lt_zero _)) | refine And.intro ?_ ?_ | refine SameB.cells ?_ | exact SameC.nil | refine SameC.cons ?_ ?_ | exact Same.nsl rfl | exact Same.tt rfl | exact Same.ff rfl))
    · rintro ⟨i, s⟩ ⟨hi, hs⟩
      dsimp only at hi hs
      cbv
      ((try refine br_rev ?_); (first | refine br_dec (fun h2 => ?_) (fun h2 => ?_) | refine br_ndec (fun h2 => ?_) (fun h2 => ?_) | refine br_nbool (fun h2 => ?_) (fun h2 => ?_) | refine br_bool (fun h2 => ?_) (fun h2 => ?_)); all_goals (try dsimp only at h2); all_goals (try with_reducible replace h2 := zi_lt.1 h2); all_goals (try with_reducible replace h2 := not_zlt h2))
      · have h2 : zi i < n .o - 190 := by rw [← hw]; exact h2
        have h2' : i < 66 := by unfold zi at h2; omega
        (cbv; repeat (refine safe (by first | decide | (simp only [zi] at *; omega) | assumption | (dsimp only; omega) | (dsimp only at *; simp only [List.length_append, List.length_cons, List.length_nil, zi] at *; omega)) ?_; cbv))
        refine ⟨(i + 1, s ++ [122]), ⟨h2', ?_⟩, ?_, ?_⟩
        · show (s ++ [122]).length ≤ 4 + (i + 1)
          simp only [List.length_append, List.length_cons, List.length_nil]; omega
        · show 70 - (i + 1) < 70 - i
          omega
        cbv
        rw [zi_succ (by omega)]
        (repeat' (first | exact True.intro | exact Same.refl _ | exact SameB.refl _ | exact ⟨rfl⟩ | exact Same.int rfl | exact Same.str rfl | exact Same.bool rfl | (refine Same.int ?_; simp only [List.length_append, List.length_cons, List.length_nil, zi]; omega) | (refine SameB.row' rfl fun i hi => ?_; first | rfl | exact absurd hi (Nat.not_lt_zero _)) | refine And.intro ?_ ?_ | refine SameB.cells ?_ | exact SameC.nil | refine SameC.cons ?_ ?_ | exact Same.nsl rfl | exact Same.tt rfl | exact Same.ff rfl))
      · cbv
        exact hr _ (by dsimp only; omega)
  · cbv
    exact hr _ (Nat.le_trans hl (by decide))

theorem path_c (ns : Th (List Int)) (hns : isBytes (ns .o)) (hs : short (ns .o)) {d : Nat} {K : ARes → BL → Prop} (hr : ∀ s : Th (List UInt8), (s .o).length ≤ 700 → K (.ret (.str s)) .nil) : CallAt PT l15_Path [byteI ns] d .nil K := by
  refine l15_Path.of rfl rfl ?_
  cbv
  refine loop_at (X := Nat × List UInt8) 1000 [0] [] (fun _ x => .cons 3 (.str fun _ => x.2) (.cons 4 (.int .i64 fun _ => zi x.1) .nil)) (fun _ _ => .nil) (fun x => x.1 ≤ 8 ∧ x.2.length ≤ 1 + 81 * x.1) (fun x => 8 - x.1) (0, [112]) ?_ ⟨Nat.zero_le _, by decide⟩ ?_
  · cbv
    (repeat' (first | exact True.intro | exact Same.refl _ | exact SameB.refl _ | exact ⟨rfl⟩ | exact Same.int rfl | exact Same.str rfl | exact Same.bool rfl | (refine Same.int ?_; simp only [List.length_append, List.length_cons, List.length_nil, zi]; omega) | (refine SameB.row' rfl fun i hi => ?_; first | rfl | exact absurd hi (Nat.not_lt_zero _)) | refine And.intro ?_ ?_ | refine SameB.cells ?_ | exact SameC.nil | refine SameC.cons ?_ ?_ | exact Same.nsl rfl | exact Same.tt rfl | exact Same.ff rfl))
  · rintro ⟨i, s⟩ ⟨hi, hsl⟩
    dsimp only at hi hsl
    cbv
    ((try refine br_rev ?_); (first | refine br_dec (fun h1 => ?_) (fun h1 => ?_) | refine br_ndec (fun h1 => ?_) (fun h1 => ?_) | refine br_nbool (fun h1 => ?_) (fun h1 => ?_) | refine br_bool (fun h1 => ?_) (fun h1 => ?_)); all_goals (try dsimp only at h1); all_goals (try with_reducible replace h1 := zi_lt.1 h1); all_goals (try with_reducible replace h1 := not_zlt h1))
    · cbv
      ((try refine br_rev ?_); (first | refine br_dec (fun h2 => ?_) (fun h2 => ?_) | refine br_ndec (fun h2 => ?_) (fun h2 => ?_) | refine br_nbool (fun h2 => ?_) (fun h2 => ?_) | refine br_bool (fun h2 => ?_) (fun h2 => ?_)); all_goals (try dsimp only at h2); all_goals (try with_reducible replace h2 := zi_lt.1 h2); all_goals (try with_reducible replace h2 := not_zlt h2))
      · have h2' : i < 8 := h2
        (cbv; repeat (refine safe (by first | decide | (simp only [zi] at *; omega) | assumption | (dsimp only; omega) | (dsimp only at *; simp only [List.length_append, List.length_cons, List.length_nil, zi] at *; omega)) ?_; cbv))
        refine name_c (fun _ => (ns .o).getD (zi i).toNat 0) (byte_at hns) fun t ht => ?_
        cbv
        refine safe (by dsimp only; simp only [List.length_append, List.length_cons, List.length_nil]; omega) ?_
        refine ⟨(i + 1, s ++ [47] ++ t .o), ⟨h2', ?_⟩, ?_, ?_⟩
        · show (s ++ [47] ++ t .o).length ≤ 1 + 81 * (i + 1)
          simp only [List.length_append, List.length_cons, List.length_nil]; omega
        · show 8 - (i + 1) < 8 - i
          omega
        cbv
        rw [zi_succ (by omega)]
        (repeat' (first | exact True.intro | exact Same.refl _ | exact SameB.refl _ | exact ⟨rfl⟩ | exact Same.int rfl | exact Same.str rfl | exact Same.bool rfl | (refine Same.int ?_; simp only [List.length_append, List.length_cons, List.length_nil, zi]; omega) | (refine SameB.row' rfl fun i hi => ?_; first | rfl | exact absurd hi (Nat.not_lt_zero _)) | refine And.intro ?_ ?_ | refine SameB.cells ?_ | exact SameC.nil | refine SameC.cons ?_ ?_ | exact Same.nsl rfl | exact Same.tt rfl | exact Same.ff rfl))
      · cbv
        exact hr _ (by dsimp only; omega)
    · cbv
      exact hr _ (by dsimp only; omega)
end Go.Proofs.YtiaenejafpbfkaaDoor

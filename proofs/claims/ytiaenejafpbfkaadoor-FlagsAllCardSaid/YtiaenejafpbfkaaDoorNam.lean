/- What the laws make by numbers: names, paths. -/
import Derived.Test.YtiaenejafpbfkaaDoorByt
import Derived.Test.YtiaenejafpbfkaaDoorRc
namespace Go.Proofs.YtiaenejafpbfkaaDoor
open Go Go.Proofs.YtiaenejafpbfkaaDoor.Sx F
set_option linter.unusedVariables false
set_option linter.unusedSimpArgs false

/-- A name that the laws make. -/
structure NameOk (s : List UInt8) : Prop where
  len : s.length ≤ 80
  ne : s ≠ []
  no0 : (0 : UInt8) ∉ s
  no46 : (46 : UInt8) ∉ s
  no47 : (47 : UInt8) ∉ s
theorem NameOk.snoc {s : List UInt8} {x : UInt8} (h : NameOk s) (hl : s.length < 80) (h0 : x ≠ 0) (h1 : x ≠ 46) (h2 : x ≠ 47) : NameOk (s ++ [x]) := by
  refine ⟨by rw [List.length_append]; simp; omega, by simp, ?_, ?_, ?_⟩ <;> simp only [List.mem_append, List.mem_singleton, not_or]
  · exact ⟨h.no0, fun q => h0 q.symm⟩
  · exact ⟨h.no46, fun q => h1 q.symm⟩
  · exact ⟨h.no47, fun q => h2 q.symm⟩
theorem name_x (n : Th Int) (hn : 0 ≤ n .o ∧ n .o < 256) {d : Nat} {K : ARes → BL → Prop} (hr : ∀ s : Th (List UInt8), NameOk (s .o) → K (.ret (.str s)) .nil) : CallAt PT l15_name [.int .u8 n] d .nil K := by
  refine l15_name.of rfl rfl ?_
  cbv
  refine safe (by decide) ?_
  have h8 : 0 ≤ (n .o).tmod 8 ∧ (n .o).tmod 8 < 8 := ⟨Int.tmod_nonneg _ hn.1, Int.tmod_lt_of_pos _ (by decide)⟩
  refine safe h8 ?_
  refine safe (by show ((n .o).tmod 8).toNat < 8; omega) ?_
  have hl8 : ∀ j : Nat, (([fun _ : O1 => [97], fun _ => [98], fun _ => [100, 105, 114], fun _ => [120, 32, 121], fun _ => [255], fun _ => [108, 111, 110, 103], fun _ => [195, 164], fun _ => [99]] : List (Th (List UInt8))).getD j (fun _ => [97]) .o).length ≤ 4 := by
    intro j
    match j with
    | 0 | 1 | 2 | 3 | 4 | 5 | 6 | 7 => decide
    | j + 8 => exact (by decide : (1 : Nat) ≤ 4)
  have hok8 : ∀ j : Nat, NameOk (([fun _ : O1 => [97], fun _ => [98], fun _ => [100, 105, 114], fun _ => [120, 32, 121], fun _ => [255], fun _ => [108, 111, 110, 103], fun _ => [195, 164], fun _ => [99]] : List (Th (List UInt8))).getD j (fun _ => [97]) .o) := by
    intro j
    match j with
    | 0 | 1 | 2 | 3 | 4 | 5 | 6 | 7 => exact ⟨by decide, by decide, by decide, by decide, by decide⟩
    | j + 8 => exact ⟨by show (1 : Nat) ≤ 80; decide, by show ([97] : List UInt8) ≠ []; decide, by show (0 : UInt8) ∉ [97]; decide, by show (46 : UInt8) ∉ [97]; decide, by show (47 : UInt8) ∉ [97]; decide⟩
  have hl := hl8 ((n .o).tmod 8).toNat
  have hok := hok8 ((n .o).tmod 8).toNat
  ((try refine br_rev ?_); (first | refine br_dec (fun h1 => ?_) (fun h1 => ?_) | refine br_ndec (fun h1 => ?_) (fun h1 => ?_) | refine br_nbool (fun h1 => ?_) (fun h1 => ?_) | refine br_bool (fun h1 => ?_) (fun h1 => ?_)); all_goals (try dsimp only at h1); all_goals (try with_reducible replace h1 := zi_lt.1 h1); all_goals (try with_reducible replace h1 := not_zlt h1))
  · cbv
    have hw : IntKind.i64.wrap (IntKind.i64.wrap (n .o) - 190) = n .o - 190 := by rw [IntKind.wrap_i64, IntKind.wrap_i64]; omega
    refine loop_at (X := Nat × List UInt8) 1000 [0] [] (fun _ x => .cons 4 (.str fun _ => x.2) (.cons 5 (.int .i64 fun _ => zi x.1) .nil)) (fun _ _ => .nil) (fun x => x.1 ≤ 66 ∧ x.2.length ≤ 4 + x.1 ∧ NameOk x.2) (fun x => 70 - x.1) (0, _) ?_ ⟨Nat.zero_le _, hl, hok⟩ ?_
    · cbv
      (repeat' (first | exact True.intro | exact Same.refl _ | exact SameB.refl _ | exact ⟨rfl⟩ | exact Same.int rfl | exact Same.str rfl | exact Same.bool rfl | (refine Same.int ?_; simp only [List.length_append, List.length_cons, List.length_nil, zi]; omega) | (refine SameB.row' rfl fun i hi => ?_; first | rfl | exact absurd hi (Nat.not_lt_zero _)) | refine And.intro ?_ ?_ | refine SameB.cells ?_ | exact SameC.nil | refine SameC.cons ?_ ?_ | exact Same.nsl rfl | exact Same.tt rfl | exact Same.ff rfl))
    · rintro ⟨i, s⟩ ⟨hi, hs, hso⟩
      dsimp only at hi hs hso
      cbv
      ((try refine br_rev ?_); (first | refine br_dec (fun h2 => ?_) (fun h2 => ?_) | refine br_ndec (fun h2 => ?_) (fun h2 => ?_) | refine br_nbool (fun h2 => ?_) (fun h2 => ?_) | refine br_bool (fun h2 => ?_) (fun h2 => ?_)); all_goals (try dsimp only at h2); all_goals (try with_reducible replace h2 := zi_lt.1 h2); all_goals (try with_reducible replace h2 := not_zlt h2))
      · have h2 : zi i < n .o - 190 := by rw [← hw]; exact h2
        have h2' : i < 66 := by unfold zi at h2; omega
        (cbv; repeat (refine safe (by first | decide | (simp only [zi] at *; omega) | assumption | (dsimp only; omega) | (dsimp only at *; simp only [List.length_append, List.length_cons, List.length_nil, zi] at *; omega)) ?_; cbv))
        refine ⟨(i + 1, s ++ [122]), ⟨h2', ?_, hso.snoc (by omega) (by decide) (by decide) (by decide)⟩, ?_, ?_⟩
        · show (s ++ [122]).length ≤ 4 + (i + 1)
          simp only [List.length_append, List.length_cons, List.length_nil]; omega
        · show 70 - (i + 1) < 70 - i
          omega
        cbv
        rw [zi_succ (by omega)]
        (repeat' (first | exact True.intro | exact Same.refl _ | exact SameB.refl _ | exact ⟨rfl⟩ | exact Same.int rfl | exact Same.str rfl | exact Same.bool rfl | (refine Same.int ?_; simp only [List.length_append, List.length_cons, List.length_nil, zi]; omega) | (refine SameB.row' rfl fun i hi => ?_; first | rfl | exact absurd hi (Nat.not_lt_zero _)) | refine And.intro ?_ ?_ | refine SameB.cells ?_ | exact SameC.nil | refine SameC.cons ?_ ?_ | exact Same.nsl rfl | exact Same.tt rfl | exact Same.ff rfl))
      · cbv
        exact hr _ hso
  · cbv
    exact hr _ hok
theorem name_c (n : Th Int) (hn : 0 ≤ n .o ∧ n .o < 256) {d : Nat} {K : ARes → BL → Prop} (hr : ∀ s : Th (List UInt8), (s .o).length ≤ 80 → K (.ret (.str s)) .nil) : CallAt PT l15_name [.int .u8 n] d .nil K :=
  name_x n hn fun s hs => hr s hs.len
/-- A path that the laws make: by its names. -/
inductive PathN : Nat → List UInt8 → Prop
  | one : PathN 0 [112]
  | more {k : Nat} {s t : List UInt8} (h : PathN k s) (ht : NameOk t) : PathN (k + 1) (s ++ [47] ++ t)

theorem path_x (ns : Th (List Int)) (hns : isBytes (ns .o)) (hs : short (ns .o)) {d : Nat} {K : ARes → BL → Prop} (hr : ∀ s : Th (List UInt8), (s .o).length ≤ 700 → (∃ k, k ≤ 8 ∧ PathN k (s .o)) → K (.ret (.str s)) .nil) : CallAt PT l15_Path [byteI ns] d .nil K := by
  refine l15_Path.of rfl rfl ?_
  cbv
  refine loop_at (X := Nat × List UInt8) 1000 [0] [] (fun _ x => .cons 3 (.str fun _ => x.2) (.cons 4 (.int .i64 fun _ => zi x.1) .nil)) (fun _ _ => .nil) (fun x => x.1 ≤ 8 ∧ x.2.length ≤ 1 + 81 * x.1 ∧ PathN x.1 x.2) (fun x => 8 - x.1) (0, [112]) ?_ ⟨Nat.zero_le _, by decide, .one⟩ ?_
  · cbv
    (repeat' (first | exact True.intro | exact Same.refl _ | exact SameB.refl _ | exact ⟨rfl⟩ | exact Same.int rfl | exact Same.str rfl | exact Same.bool rfl | (refine Same.int ?_; simp only [List.length_append, List.length_cons, List.length_nil, zi]; omega) | (refine SameB.row' rfl fun i hi => ?_; first | rfl | exact absurd hi (Nat.not_lt_zero _)) | refine And.intro ?_ ?_ | refine SameB.cells ?_ | exact SameC.nil | refine SameC.cons ?_ ?_ | exact Same.nsl rfl | exact Same.tt rfl | exact Same.ff rfl))
  · rintro ⟨i, s⟩ ⟨hi, hsl, hpn⟩
    dsimp only at hi hsl hpn
    cbv
    ((try refine br_rev ?_); (first | refine br_dec (fun h1 => ?_) (fun h1 => ?_) | refine br_ndec (fun h1 => ?_) (fun h1 => ?_) | refine br_nbool (fun h1 => ?_) (fun h1 => ?_) | refine br_bool (fun h1 => ?_) (fun h1 => ?_)); all_goals (try dsimp only at h1); all_goals (try with_reducible replace h1 := zi_lt.1 h1); all_goals (try with_reducible replace h1 := not_zlt h1))
    · cbv
      ((try refine br_rev ?_); (first | refine br_dec (fun h2 => ?_) (fun h2 => ?_) | refine br_ndec (fun h2 => ?_) (fun h2 => ?_) | refine br_nbool (fun h2 => ?_) (fun h2 => ?_) | refine br_bool (fun h2 => ?_) (fun h2 => ?_)); all_goals (try dsimp only at h2); all_goals (try with_reducible replace h2 := zi_lt.1 h2); all_goals (try with_reducible replace h2 := not_zlt h2))
      · have h2' : i < 8 := h2
        (cbv; repeat (refine safe (by first | decide | (simp only [zi] at *; omega) | assumption | (dsimp only; omega) | (dsimp only at *; simp only [List.length_append, List.length_cons, List.length_nil, zi] at *; omega)) ?_; cbv))
        refine name_x (fun _ => (ns .o).getD (zi i).toNat 0) (byte_at hns) fun t hto => ?_
        have ht := hto.len
        cbv
        refine safe (by dsimp only; simp only [List.length_append, List.length_cons, List.length_nil]; omega) ?_
        refine ⟨(i + 1, s ++ [47] ++ t .o), ⟨h2', ?_, hpn.more hto⟩, ?_, ?_⟩
        · show (s ++ [47] ++ t .o).length ≤ 1 + 81 * (i + 1)
          simp only [List.length_append, List.length_cons, List.length_nil]; omega
        · show 8 - (i + 1) < 8 - i
          omega
        cbv
        rw [zi_succ (by omega)]
        (repeat' (first | exact True.intro | exact Same.refl _ | exact SameB.refl _ | exact ⟨rfl⟩ | exact Same.int rfl | exact Same.str rfl | exact Same.bool rfl | (refine Same.int ?_; simp only [List.length_append, List.length_cons, List.length_nil, zi]; omega) | (refine SameB.row' rfl fun i hi => ?_; first | rfl | exact absurd hi (Nat.not_lt_zero _)) | refine And.intro ?_ ?_ | refine SameB.cells ?_ | exact SameC.nil | refine SameC.cons ?_ ?_ | exact Same.nsl rfl | exact Same.tt rfl | exact Same.ff rfl))
      · cbv
        exact hr _ (by dsimp only; omega) ⟨i, hi, hpn⟩
    · cbv
      exact hr _ (by dsimp only; omega) ⟨i, hi, hpn⟩
theorem path_c (ns : Th (List Int)) (hns : isBytes (ns .o)) (hs : short (ns .o)) {d : Nat} {K : ARes → BL → Prop} (hr : ∀ s : Th (List UInt8), (s .o).length ≤ 700 → K (.ret (.str s)) .nil) : CallAt PT l15_Path [byteI ns] d .nil K :=
  path_x ns hns hs fun s h1 _ => hr s h1
end Go.Proofs.YtiaenejafpbfkaaDoor

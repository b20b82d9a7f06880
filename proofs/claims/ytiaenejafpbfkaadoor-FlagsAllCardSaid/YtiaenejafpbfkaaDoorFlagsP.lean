/- flags.Parse: walked. -/
import Derived.Test.YtiaenejafpbfkaaDoorFlags9
namespace Go.Proofs.YtiaenejafpbfkaaDoor
open Go Go.Proofs.YtiaenejafpbfkaaDoor.Sx F
set_option linter.unusedVariables false
set_option linter.unusedSimpArgs false

/-- What slices.Index answers of l, v. -/
def IX (l : List (List UInt8)) (v : List UInt8) (n : Int) : Prop := (∃ m : Nat, m < l.length ∧ n = m ∧ l.getD m [] = v ∧ ∀ j : Nat, j < m → l.getD j [] ≠ v) ∨ (n = -1 ∧ ∀ j : Nat, j < l.length → l.getD j [] ≠ v)
theorem indexS_c (l : Th (List (List UInt8))) (v : Th (List UInt8)) (hl : (l .o).length ≤ 1000000) {d : Nat} {K : ARes → BL → Prop} (hr : ∀ n : Th Int, IX (l .o) (v .o) (n .o) → K (.ret (.int .i64 n)) .nil) : CallAt PT slices_Index_string_string [strs l, .str v] d .nil K := by
  refine CallAt.res ?_
  refine slices_Index_string_string.of rfl rfl ?_
  cbv
  refine loop_at (X := Nat) 1000 [0, 1, 7] [] (fun _ x => .cons 8 (.int .i64 fun _ => zi x) .nil) (fun _ x => .nil)
    (fun x => x ≤ (l .o).length ∧ ∀ j : Nat, j < x → (l .o).getD j [] ≠ v .o) (fun x => (l .o).length - x) 0 ?_ ⟨Nat.zero_le _, fun j hj => absurd hj (Nat.not_lt_zero _)⟩ ?_
  · cbv
    (repeat' (first | exact True.intro | exact Same.refl _ | exact SameB.refl _ | exact ⟨rfl⟩ | exact Same.int rfl | exact Same.str rfl | exact Same.bool rfl | (refine Same.int ?_; simp only [List.length_append, List.length_cons, List.length_nil, zi]; omega) | (refine SameB.row' rfl fun i hi => ?_; first | rfl | exact absurd hi (Nat.not_lt_zero _)) | refine And.intro ?_ ?_ | refine SameB.cells ?_ | exact SameC.nil | refine SameC.cons ?_ ?_ | exact Same.nsl rfl | exact Same.tt rfl | exact Same.ff rfl))
  · rintro i ⟨h2, h3⟩
    cbv
    refine br_zlt (fun h4 => ?_) (fun h4 => ?_)
    · cbv
      refine safe ⟨zi_nonneg _, zi_lt.2 h4⟩ ?_
      have e : (zi i).toNat = i := zi_toNat i
      refine br_dec (fun h5 => ?_) (fun h5 => ?_)
      · have h5 : v .o = (l .o).getD (zi i).toNat [] := h5
        rw [e] at h5
        cbv
        exact ⟨_, .ret (Same.refl _), hr _ (.inl ⟨i, h4, rfl, h5.symm, h3⟩)⟩
      · have h5 : ¬ v .o = (l .o).getD (zi i).toNat [] := h5
        rw [e] at h5
        cbv
        refine ⟨i + 1, ⟨h4, fun j hj => ?_⟩, by show (l .o).length - (i + 1) < (l .o).length - i; omega, ?_⟩
        · rcases Nat.lt_or_ge j i with q | q
          · exact h3 j q
          · obtain rfl : j = i := by omega
            exact fun e => h5 e.symm
        cbv
        rw [zi_succ (by omega)]
        (repeat' (first | exact True.intro | exact Same.refl _ | exact SameB.refl _ | exact ⟨rfl⟩ | exact Same.int rfl | exact Same.str rfl | exact Same.bool rfl | (refine Same.int ?_; simp only [List.length_append, List.length_cons, List.length_nil, zi]; omega) | (refine SameB.row' rfl fun i hi => ?_; first | rfl | exact absurd hi (Nat.not_lt_zero _)) | refine And.intro ?_ ?_ | refine SameB.cells ?_ | exact SameC.nil | refine SameC.cons ?_ ?_ | exact Same.nsl rfl | exact Same.tt rfl | exact Same.ff rfl))
    · cbv
      exact ⟨_, .ret (Same.refl _), hr _ (.inr ⟨rfl, fun j hj => h3 j (by omega)⟩)⟩
theorem fendT_c (n : Th Int) {K : BL → Prop} (h : K (.cons 10000 (.cells (.cons (.int .i64 n) .nil)) (.cons 10001 (.cells (.cons .tt .nil)) .nil))) : DefAt PT flags_Parse_1 false [.nif, .ptr 10000 0, .ptr 10001 0] (.cons 10000 (.cells (.cons (.int .i64 n) .nil)) (.cons 10001 (.cells (.cons .tt .nil)) .nil)) K := by
  refine flags_Parse_1.of rfl rfl (fun _ => rfl) ?_
  cbv
  exact h
theorem fendF_c (n : Th Int) {K : BL → Prop} (h : K (.cons 10000 (.cells (.cons (.int .i64 n) .nil)) (.cons 10001 (.cells (.cons .ff .nil)) .nil))) : DefAt PT flags_Parse_1 false [.nif, .ptr 10000 0, .ptr 10001 0] (.cons 10000 (.cells (.cons (.int .i64 n) .nil)) (.cons 10001 (.cells (.cons .ff .nil)) .nil)) K := by
  refine flags_Parse_1.of rfl rfl (fun _ => rfl) ?_
  cbv
  exact h
end Go.Proofs.YtiaenejafpbfkaaDoor

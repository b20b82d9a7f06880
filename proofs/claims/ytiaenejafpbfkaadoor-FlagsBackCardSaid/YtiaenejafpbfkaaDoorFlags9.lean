/- The document's flags: walked. -/
import Derived.Test.YtiaenejafpbfkaaDoorFlags
namespace Go.Proofs.YtiaenejafpbfkaaDoor
open Go Go.Proofs.YtiaenejafpbfkaaDoor.Sx F
set_option linter.unusedVariables false
set_option linter.unusedSimpArgs false

theorem mayflags9_c (n : Th Int) {d : Nat} {K : ARes → BL → Prop} (hr : ∀ b : Th Bool, b .o = mayF (n .o) → K (.ret (.bool b)) .nil) : CallAt PT r9_MayFlags [.int .i64 n] d .nil K := by
  refine CallAt.res ?_
  refine r9_MayFlags.of rfl rfl ?_
  cbv
  refine ⟨fun hc => ?_, fun hc => ?_⟩
  · cbv
    have h0 : decide (0 ≤ n .o) = true := hc
    refine ⟨_, .ret (Same.refl _), hr _ ?_⟩
    show decide (n .o ≤ 15) = _
    rw [mayF, h0, Bool.true_and]
    exact decide_eq_decide.2 ⟨fun h => by omega, fun h => by omega⟩
  · cbv
    have h0 : decide (0 ≤ n .o) = false := hc
    refine ⟨_, .ret (.ff rfl), hr (fun _ => false) ?_⟩
    show false = _
    rw [mayF, h0]
    rfl
def bitR (n : Int) (i : Nat) : Bool := decide (abits .and .i64 (n.fdiv (2 ^ min (zi i).toNat IntKind.i64.bits)) 1 = 1)
def textR (n : Int) : Nat → List UInt8
  | 0 => []
  | k + 1 => if bitR n k then (if textR n k = [] then [] else textR n k ++ [44]) ++ wordsF.getD (zi k).toNat [] else textR n k
theorem word_len (k : Nat) : (wordsF.getD k []).length ≤ 7 := by
  match k with
  | 0 => decide
  | 1 => decide
  | 2 => decide
  | 3 => decide
  | k + 4 => exact Nat.zero_le _
theorem textR_len (n : Int) : ∀ k, (textR n k).length ≤ 8 * k
  | 0 => Nat.le_refl _
  | k + 1 => by
    have := textR_len n k
    have := word_len (zi k).toNat
    unfold textR
    split
    · rw [List.length_append]
      split
      · simp only [List.length_nil]; omega
      · rw [List.length_append]; simp only [List.length_cons, List.length_nil]; omega
    · omega
theorem textR_eq : ∀ n < 16, textR (n : Nat) 4 = Lib.join (textL (n : Nat) 4) [44] := by decide +kernel
theorem textflags9_c (n : Th Int) {d : Nat} {K : ARes → BL → Prop} (hr : ∀ s : Th (List UInt8), s .o = textF (n .o) → K (.ret (.str s)) .nil) : CallAt PT r9_TextFlags [.int .i64 n] d .nil K := by
  refine CallAt.res ?_
  refine r9_TextFlags.of rfl rfl ?_
  cbv
  refine mayflags9_c n fun b hb => ?_
  cbv
  refine ⟨fun h1 => ?_, fun h1 => ?_⟩
  · cbv
    have h1 : (!b .o) = true := h1
    refine ⟨_, .ret (Same.refl _), hr _ ?_⟩
    show [] = _
    rw [hb] at h1
    have : mayF (n .o) = false := by simpa using h1
    rw [textF, this]; rfl
  have hm : mayF (n .o) = true := by
    have h1 : (!b .o) = false := h1
    rw [hb] at h1
    simpa using h1
  cbv
  refine loop_at (X := Nat × List UInt8) 1000 [0, 4] [] (fun _ x => .cons 3 (.str fun _ => x.2) (.cons 5 (.int .i64 fun _ => zi x.1) .nil)) (fun _ x => .cons 9 (rowB 1 strCh [] fun _ => wordsF) .nil)
    (fun x => x.1 ≤ 4 ∧ x.2 = textR (n .o) x.1) (fun x => 4 - x.1) (0, []) ?_ ⟨Nat.zero_le _, rfl⟩ ?_
  · cbv
    refine ⟨by (repeat' (first | exact True.intro | exact Same.refl _ | exact SameB.refl _ | exact ⟨rfl⟩ | exact Same.int rfl | exact Same.str rfl | exact Same.bool rfl | (refine Same.int ?_; simp only [List.length_append, List.length_cons, List.length_nil, zi]; omega) | (refine SameB.row' rfl fun i hi => ?_; first | rfl | exact absurd hi (Nat.not_lt_zero _)) | refine And.intro ?_ ?_ | refine SameB.cells ?_ | exact SameC.nil | refine SameC.cons ?_ ?_ | exact Same.nsl rfl | exact Same.tt rfl | exact Same.ff rfl)), ⟨SameB.row' rfl fun i hi => ?_, True.intro⟩, by (repeat' (first | exact True.intro | exact Same.refl _ | exact SameB.refl _ | exact ⟨rfl⟩ | exact Same.int rfl | exact Same.str rfl | exact Same.bool rfl | (refine Same.int ?_; simp only [List.length_append, List.length_cons, List.length_nil, zi]; omega) | (refine SameB.row' rfl fun i hi => ?_; first | rfl | exact absurd hi (Nat.not_lt_zero _)) | refine And.intro ?_ ?_ | refine SameB.cells ?_ | exact SameC.nil | refine SameC.cons ?_ ?_ | exact Same.nsl rfl | exact Same.tt rfl | exact Same.ff rfl))⟩
    have hi : i < 4 := hi
    match i, hi with
    | 0, _ => rfl
    | 1, _ => rfl
    | 2, _ => rfl
    | 3, _ => rfl
  · rintro ⟨i, l⟩ ⟨h2, h3⟩
    dsimp only at h2 h3
    have hl : l.length ≤ 8 * i := h3 ▸ textR_len _ _
    have hw := word_len (zi i).toNat
    cbv
    refine br_dec (fun h4 => ?_) (fun h4 => ?_)
    · have h4 : i < 4 := by have : zi i < 4 := h4; unfold zi at this; omega
      cbv
      refine ⟨fun _ => zi_nonneg _, ?_⟩
      refine ⟨fun h5 => ?_, fun h5 => ?_⟩
      · have h5 : bitR (n .o) i = true := h5
        refine br_ndec (fun h6 => ?_) (fun h6 => ?_)
        · have h6 : ¬ l = [] := h6
          cbv
          refine safe (by show l.length + 1 ≤ _; omega) ?_
          refine safe ⟨zi_nonneg _, zi_lt.2 h4⟩ ?_
          refine safe (by show (zi i).toNat < 4; rw [zi_toNat]; exact h4) ?_
          refine safe (by show (l ++ [44]).length + (wordsF.getD (zi i).toNat []).length ≤ _; rw [List.length_append]; simp only [List.length_cons, List.length_nil]; omega) ?_
          refine ⟨(i + 1, l ++ [44] ++ wordsF.getD (zi i).toNat []), ⟨h4, by rw [textR, h5, ← h3, if_neg h6]; rfl⟩, by show 4 - (i + 1) < 4 - i; omega, ?_⟩
          cbv
          rw [zi_succ (by omega)]
          (repeat' (first | exact True.intro | exact Same.refl _ | exact SameB.refl _ | exact ⟨rfl⟩ | exact Same.int rfl | exact Same.str rfl | exact Same.bool rfl | (refine Same.int ?_; simp only [List.length_append, List.length_cons, List.length_nil, zi]; omega) | (refine SameB.row' rfl fun i hi => ?_; first | rfl | exact absurd hi (Nat.not_lt_zero _)) | refine And.intro ?_ ?_ | refine SameB.cells ?_ | exact SameC.nil | refine SameC.cons ?_ ?_ | exact Same.nsl rfl | exact Same.tt rfl | exact Same.ff rfl))
        · have h6 : l = [] := h6
          cbv
          refine safe ⟨zi_nonneg _, zi_lt.2 h4⟩ ?_
          refine safe (by show (zi i).toNat < 4; rw [zi_toNat]; exact h4) ?_
          refine safe (by show l.length + (wordsF.getD (zi i).toNat []).length ≤ _; omega) ?_
          refine ⟨(i + 1, l ++ wordsF.getD (zi i).toNat []), ⟨h4, by rw [textR, h5, ← h3, if_pos h6, h6]; rfl⟩, by show 4 - (i + 1) < 4 - i; omega, ?_⟩
          cbv
          rw [zi_succ (by omega)]
          (repeat' (first | exact True.intro | exact Same.refl _ | exact SameB.refl _ | exact ⟨rfl⟩ | exact Same.int rfl | exact Same.str rfl | exact Same.bool rfl | (refine Same.int ?_; simp only [List.length_append, List.length_cons, List.length_nil, zi]; omega) | (refine SameB.row' rfl fun i hi => ?_; first | rfl | exact absurd hi (Nat.not_lt_zero _)) | refine And.intro ?_ ?_ | refine SameB.cells ?_ | exact SameC.nil | refine SameC.cons ?_ ?_ | exact Same.nsl rfl | exact Same.tt rfl | exact Same.ff rfl))
      · have h5 : bitR (n .o) i = false := h5
        cbv
        refine ⟨(i + 1, l), ⟨h4, by rw [textR, h5, h3]; rfl⟩, by show 4 - (i + 1) < 4 - i; omega, ?_⟩
        cbv
        rw [zi_succ (by omega)]
        (repeat' (first | exact True.intro | exact Same.refl _ | exact SameB.refl _ | exact ⟨rfl⟩ | exact Same.int rfl | exact Same.str rfl | exact Same.bool rfl | (refine Same.int ?_; simp only [List.length_append, List.length_cons, List.length_nil, zi]; omega) | (refine SameB.row' rfl fun i hi => ?_; first | rfl | exact absurd hi (Nat.not_lt_zero _)) | refine And.intro ?_ ?_ | refine SameB.cells ?_ | exact SameC.nil | refine SameC.cons ?_ ?_ | exact Same.nsl rfl | exact Same.tt rfl | exact Same.ff rfl))
    · have h4 : ¬ i < 4 := fun q => h4 (by show zi i < 4; unfold zi; omega)
      obtain rfl : i = 4 := by omega
      cbv
      refine ⟨_, .ret (Same.refl _), hr _ ?_⟩
      have hn : 0 ≤ n .o ∧ n .o < 16 := by simpa [mayF] using hm
      obtain ⟨m, hmm⟩ : ∃ m : Nat, n .o = (m : Int) := ⟨(n .o).toNat, by omega⟩
      show l = _
      rw [textF, hm, h3, hmm]
      exact textR_eq m (by omega)
/-- What r9.ParseFlags answers: the first number whose text it is, else -1. -/
def PF (s : List UInt8) (n : Int) : Prop := (∃ m : Nat, m < 16 ∧ n = m ∧ textF m = s ∧ ∀ j : Nat, j < m → textF j ≠ s) ∨ (n = -1 ∧ ∀ j : Nat, j < 16 → textF j ≠ s)
theorem parseflags9_c (s : Th (List UInt8)) {d : Nat} {K : ARes → BL → Prop} (hr : ∀ n : Th Int, PF (s .o) (n .o) → K (.ret (.int .i64 n)) .nil) : CallAt PT r9_ParseFlags [.str s] d .nil K := by
  refine CallAt.res ?_
  refine r9_ParseFlags.of rfl rfl ?_
  cbv
  refine loop_at (X := Nat) 1000 [0] [] (fun _ x => .cons 3 (.int .i64 fun _ => zi x) .nil) (fun _ x => .nil)
    (fun x => x ≤ 16 ∧ ∀ j : Nat, j < x → textF j ≠ s .o) (fun x => 16 - x) 0 ?_ ⟨Nat.zero_le _, fun j hj => absurd hj (Nat.not_lt_zero _)⟩ ?_
  · cbv
    (repeat' (first | exact True.intro | exact Same.refl _ | exact SameB.refl _ | exact ⟨rfl⟩ | exact Same.int rfl | exact Same.str rfl | exact Same.bool rfl | (refine Same.int ?_; simp only [List.length_append, List.length_cons, List.length_nil, zi]; omega) | (refine SameB.row' rfl fun i hi => ?_; first | rfl | exact absurd hi (Nat.not_lt_zero _)) | refine And.intro ?_ ?_ | refine SameB.cells ?_ | exact SameC.nil | refine SameC.cons ?_ ?_ | exact Same.nsl rfl | exact Same.tt rfl | exact Same.ff rfl))
  · rintro i ⟨h2, h3⟩
    cbv
    refine br_dec (fun h4 => ?_) (fun h4 => ?_)
    · have h4 : i < 16 := by have : zi i < 16 := h4; unfold zi at this; omega
      cbv
      refine textflags9_c (fun _ => zi i) fun t ht => ?_
      cbv
      refine br_dec (fun h5 => ?_) (fun h5 => ?_)
      · have h5 : t .o = s .o := h5
        cbv
        exact ⟨_, .ret (Same.refl _), hr _ (.inl ⟨i, h4, rfl, by rw [← h5, ht]; rfl, h3⟩)⟩
      · have h5 : ¬ t .o = s .o := h5
        cbv
        refine ⟨i + 1, ⟨h4, fun j hj => ?_⟩, by show 16 - (i + 1) < 16 - i; omega, ?_⟩
        · rcases Nat.lt_or_ge j i with q | q
          · exact h3 j q
          · obtain rfl : j = i := by omega
            exact fun e => h5 (by rw [ht]; exact e)
        cbv
        rw [zi_succ (by omega)]
        (repeat' (first | exact True.intro | exact Same.refl _ | exact SameB.refl _ | exact ⟨rfl⟩ | exact Same.int rfl | exact Same.str rfl | exact Same.bool rfl | (refine Same.int ?_; simp only [List.length_append, List.length_cons, List.length_nil, zi]; omega) | (refine SameB.row' rfl fun i hi => ?_; first | rfl | exact absurd hi (Nat.not_lt_zero _)) | refine And.intro ?_ ?_ | refine SameB.cells ?_ | exact SameC.nil | refine SameC.cons ?_ ?_ | exact Same.nsl rfl | exact Same.tt rfl | exact Same.ff rfl))
    · have h4 : ¬ i < 16 := fun q => h4 (by show zi i < 16; unfold zi; omega)
      cbv
      exact ⟨_, .ret (Same.refl _), hr _ (.inr ⟨rfl, fun j hj => h3 j (by omega)⟩)⟩
end Go.Proofs.YtiaenejafpbfkaaDoor

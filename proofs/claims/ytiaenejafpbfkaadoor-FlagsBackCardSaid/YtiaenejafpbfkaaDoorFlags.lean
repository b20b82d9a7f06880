/- Flags as text: walked. -/
import Derived.Test.YtiaenejafpbfkaaDoorJoinC
import Derived.Test.YtiaenejafpbfkaaDoorRcF
namespace Go.Proofs.YtiaenejafpbfkaaDoor
open Go Go.Proofs.YtiaenejafpbfkaaDoor.Sx F
set_option linter.unusedVariables false
set_option linter.unusedSimpArgs false

def wordsF : List (List UInt8) := [[117, 99, 104, 103], [117, 97, 112, 112, 110, 100], [110, 111, 100, 117, 109, 112], [111, 112, 97, 113, 117, 101]]
theorem fnames_c {d : Nat} {K : ARes → BL → Prop} (hr : K (.ret (strs fun _ => wordsF)) .nil) : CallAt PT flags_names [] d .nil K := by
  refine CallAt.res ?_
  refine flags_names.of rfl rfl ?_
  cbv
  refine ⟨_, .ret (y := strs fun _ => wordsF) (.sl rfl fun i hi => ?_), hr⟩
  have hi : i < 4 := hi
  match i, hi with
  | 0, _ => rfl
  | 1, _ => rfl
  | 2, _ => rfl
  | 3, _ => rfl
def mayF (n : Int) : Bool := decide (0 ≤ n) && decide (n < 16)
theorem fmay_c (n : Th Int) {d : Nat} {K : ARes → BL → Prop} (hr : ∀ b : Th Bool, b .o = mayF (n .o) → K (.ret (.bool b)) .nil) : CallAt PT flags_May [.int .i64 n] d .nil K := by
  refine CallAt.res ?_
  refine flags_May.of rfl rfl ?_
  cbv
  refine ⟨fun hc => ?_, fun hc => ?_⟩
  · cbv
    refine fnames_c ?_
    cbv
    refine ⟨fun _ => (by decide : (0 : Int) ≤ zi wordsF.length), ?_⟩
    refine ⟨_, .ret (Same.refl _), hr _ ?_⟩
    have e : IntKind.i64.wrap (1 * 2 ^ min (zi wordsF.length).toNat IntKind.i64.bits) = 16 := by decide
    have h0 : decide (0 ≤ n .o) = true := hc
    show decide (n .o < IntKind.i64.wrap (1 * 2 ^ min (zi wordsF.length).toNat IntKind.i64.bits)) = _
    rw [e, mayF, h0]
    rfl
  · cbv
    have h0 : decide (0 ≤ n .o) = false := hc
    refine ⟨_, .ret (.ff rfl), hr (fun _ => false) ?_⟩
    show false = _
    rw [mayF, h0]
    rfl
def bitF (n : Int) (i : Nat) : Bool := decide (0 < abits .and .i64 (n.fdiv (2 ^ min (zi i).toNat IntKind.i64.bits)) 1)
def textL (n : Int) : Nat → List (List UInt8)
  | 0 => []
  | k + 1 => if bitF n k then textL n k ++ [wordsF.getD (zi k).toNat []] else textL n k
def textF (n : Int) : List UInt8 := if mayF n then Lib.join (textL n 4) [44] else []
theorem textL_len (n : Int) : ∀ k, (textL n k).length ≤ k
  | 0 => Nat.le_refl _
  | k + 1 => by
    have := textL_len n k
    unfold textL
    split
    · rw [List.length_append]; simp; omega
    · omega
theorem text_short : ∀ n < 16, (Lib.join (textL (n : Nat) 4) [44]).length ≤ 100 := by decide +kernel
theorem ftext_c (n : Th Int) {d : Nat} {K : ARes → BL → Prop} (hr : ∀ s : Th (List UInt8), s .o = textF (n .o) → K (.ret (.str s)) .nil) : CallAt PT flags_Text [.int .i64 n] d .nil K := by
  refine CallAt.res ?_
  refine flags_Text.of rfl rfl ?_
  cbv
  refine fmay_c n fun b hb => ?_
  cbv
  refine ⟨fun h1 => ?_, fun h1 => ?_⟩
  · cbv
    have h1 : (!b .o) = true := h1
    refine ⟨_, .ret (Same.refl _), hr _ ?_⟩
    show [] = _
    rw [hb] at h1
    have : mayF (n .o) = false := by simpa using h1
    rw [textF, this]; rfl
  have hm : mayF (n .o) = true := by
    have h1 : (!b .o) = false := h1
    rw [hb] at h1
    simpa using h1
  cbv
  refine fnames_c ?_
  cbv
  refine nil_tmp 3 9000 1 (fun i => strCh fun _ => ([] : List (List UInt8)).getD (i .o) []) rfl rfl ?_
  refine loop_at (X := Nat × List (List UInt8)) 1000 [0, 9, 10] [] (fun _ x => .cons 3 (.row 9000) (.cons 11 (.int .i64 fun _ => zi x.1) .nil)) (fun _ x => .cons 9000 (rowB 1 strCh [] fun _ => x.2) .nil)
    (fun x => x.1 ≤ 4 ∧ x.2 = textL (n .o) x.1) (fun x => 4 - x.1) (0, []) ?_ ⟨Nat.zero_le _, rfl⟩ ?_
  · cbv
    (repeat' (first | exact True.intro | exact Same.refl _ | exact SameB.refl _ | exact ⟨rfl⟩ | exact Same.int rfl | exact Same.str rfl | exact Same.bool rfl | (refine Same.int ?_; simp only [List.length_append, List.length_cons, List.length_nil, zi]; omega) | (refine SameB.row' rfl fun i hi => ?_; first | rfl | exact absurd hi (Nat.not_lt_zero _)) | refine And.intro ?_ ?_ | refine SameB.cells ?_ | exact SameC.nil | refine SameC.cons ?_ ?_ | exact Same.nsl rfl | exact Same.tt rfl | exact Same.ff rfl))
  · rintro ⟨i, l⟩ ⟨h2, h3⟩
    dsimp only at h2 h3
    have hl : l.length ≤ i := h3 ▸ textL_len _ _
    cbv
    refine br_zlt (fun h4 => ?_) (fun h4 => ?_)
    · have h4 : i < 4 := h4
      cbv
      refine safe ⟨zi_nonneg _, zi_lt.2 h4⟩ ?_
      refine ⟨fun _ => zi_nonneg _, ?_⟩
      refine ⟨fun h5 => ?_, fun h5 => ?_⟩
      · have h5 : bitF (n .o) i = true := h5
        cbv
        refine app_one strCh [] l (wordsF.getD (zi i).toNat []) rfl (fun i hi => rfl) rfl rfl (by omega) ?_
        cbv
        refine ⟨(i + 1, l ++ [wordsF.getD (zi i).toNat []]), ⟨h4, by rw [textL, h5, h3]; rfl⟩, by show 4 - (i + 1) < 4 - i; omega, ?_⟩
        cbv
        rw [zi_succ (by omega)]
        (repeat' (first | exact True.intro | exact Same.refl _ | exact SameB.refl _ | exact ⟨rfl⟩ | exact Same.int rfl | exact Same.str rfl | exact Same.bool rfl | (refine Same.int ?_; simp only [List.length_append, List.length_cons, List.length_nil, zi]; omega) | (refine SameB.row' rfl fun i hi => ?_; first | rfl | exact absurd hi (Nat.not_lt_zero _)) | refine And.intro ?_ ?_ | refine SameB.cells ?_ | exact SameC.nil | refine SameC.cons ?_ ?_ | exact Same.nsl rfl | exact Same.tt rfl | exact Same.ff rfl))
      · have h5 : bitF (n .o) i = false := h5
        cbv
        refine ⟨(i + 1, l), ⟨h4, by rw [textL, h5, h3]; rfl⟩, by show 4 - (i + 1) < 4 - i; omega, ?_⟩
        cbv
        rw [zi_succ (by omega)]
        (repeat' (first | exact True.intro | exact Same.refl _ | exact SameB.refl _ | exact ⟨rfl⟩ | exact Same.int rfl | exact Same.str rfl | exact Same.bool rfl | (refine Same.int ?_; simp only [List.length_append, List.length_cons, List.length_nil, zi]; omega) | (refine SameB.row' rfl fun i hi => ?_; first | rfl | exact absurd hi (Nat.not_lt_zero _)) | refine And.intro ?_ ?_ | refine SameB.cells ?_ | exact SameC.nil | refine SameC.cons ?_ ?_ | exact Same.nsl rfl | exact Same.tt rfl | exact Same.ff rfl))
    · have h4 : 4 ≤ i := h4
      obtain rfl : i = 4 := by omega
      cbv
      refine join_c (fun _ => l) [44] (by show l.length ≤ _; omega) ?_ fun s hs => ?_
      · show (Lib.join l [44]).length ≤ _
        have hn : 0 ≤ n .o ∧ n .o < 16 := by simpa [mayF] using hm
        obtain ⟨m, hmm⟩ : ∃ m : Nat, n .o = (m : Int) := ⟨(n .o).toNat, by omega⟩
        rw [h3, hmm]
        exact Nat.le_trans (text_short m (by omega)) (by decide)
      cbv
      refine ⟨_, .ret (Same.refl _), hr _ ?_⟩
      rw [textF, hm, ← h3]
      exact hs
end Go.Proofs.YtiaenejafpbfkaaDoor

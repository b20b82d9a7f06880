/- The laws of flags: walked. -/
import Derived.Test.YtiaenejafpbfkaaDoorFlagsQ
import Derived.Test.YtiaenejafpbfkaaDoorRow
import Derived.Test.YtiaenejafpbfkaaDoorArg
namespace Go.Proofs.YtiaenejafpbfkaaDoor
open Go Go.Proofs.YtiaenejafpbfkaaDoor.Sx F
set_option linter.unusedVariables false
set_option linter.unusedSimpArgs false

theorem textF_inj : ∀ m < 16, ∀ j < 16, textF (m : Nat) = textF (j : Nat) → m = j := by decide +kernel
theorem FP.good {s : List UInt8} {n : Int} {b : Bool} (h : FP s n b) (m : Nat) (hm : m < 16) (e : textF m = s) : n = m ∧ b = true := by
  rcases h with ⟨j, hj, rfl, ht, hb⟩ | ⟨_, _, hn⟩
  · rw [← e] at ht
    rw [textF_inj j hj m hm ht]
    exact ⟨rfl, hb⟩
  · exact absurd e (hn m hm)
theorem FP.none {s : List UInt8} {n : Int} {b : Bool} (h : FP s n b) (e : ∀ j < 16, textF (j : Nat) ≠ s) : n = 0 ∧ b = false := by
  rcases h with ⟨j, hj, rfl, ht, hb⟩ | ⟨h1, h2, _⟩
  · exact absurd ht (e j hj)
  · exact ⟨h1, h2⟩
theorem textF_five : textF 5 = [117, 99, 104, 103, 44, 110, 111, 100, 117, 109, 112] := by decide +kernel
theorem awake12_c {d : Nat} {K : ARes → BL → Prop} (hr : ∀ b : Th Bool, b .o = true → K (.ret (.bool b)) .nil) : CallAt PT l12_awake [] d .nil K := by
  refine CallAt.res ?_
  refine l12_awake.of rfl rfl ?_
  cbv
  refine fparse_c (fun _ => [117, 99, 104, 103, 44, 110, 111, 100, 117, 109, 112]) (by decide) fun n b h => ?_
  obtain ⟨h1, h2⟩ := h.good 5 (by decide) textF_five
  cbv
  refine ftext_c (fun _ => 5) fun t ht => ?_
  have ht : t .o = [117, 99, 104, 103, 44, 110, 111, 100, 117, 109, 112] := ht.trans textF_five
  cbv
  have k1 : decide (t .o = [117, 99, 104, 103, 44, 110, 111, 100, 117, 109, 112]) = true := by rw [ht]; decide
  (first | refine br_is (k1) ?_ | refine br_not (k1) ?_ | refine br_rev (br_is (k1) ?_) | refine br_rev (br_not (k1) ?_))
  cbv
  (first | refine br_is (h2) ?_ | refine br_not (h2) ?_ | refine br_rev (br_is (h2) ?_) | refine br_rev (br_not (h2) ?_))
  cbv
  refine ⟨_, .ret (Same.refl _), hr _ ?_⟩
  simp [h1]
theorem flagsAll_c (n : Th Int) (s : Th (List UInt8)) : CallAt PT l12_FlagsAll [.int .i64 n, .str s] 9999 .nil Yes := by
  refine l12_FlagsAll.of rfl rfl ?_
  cbv
  refine br_dec (fun h1 => ?_) (fun h1 => ?_)
  · cbv
    refine awake12_c fun b hb => ?_
    cbv
    exact ⟨b, rfl, hb⟩
  have h1 : (s .o).length ≤ 100 := by have : ¬ 100 < zi (s .o).length := h1; unfold zi at this; omega
  cbv
  refine fparse_c s (by omega) fun x ok h2 => ?_
  cbv
  refine parseflags9_c s fun y h3 => ?_
  cbv
  refine fmay_c n fun b1 hb1 => ?_
  cbv
  refine mayflags9_c n fun b2 hb2 => ?_
  cbv
  have k1 : (b1 .o == b2 .o) = true := by rw [hb1, hb2]; simp
  (first | refine br_is (k1) ?_ | refine br_not (k1) ?_ | refine br_rev (br_is (k1) ?_) | refine br_rev (br_not (k1) ?_))
  cbv
  refine ftext_c n fun t1 ht1 => ?_
  cbv
  refine textflags9_c n fun t2 ht2 => ?_
  cbv
  have k2 : decide (t1 .o = t2 .o) = true := by rw [ht1, ht2]; simp
  (first | refine br_is (k2) ?_ | refine br_not (k2) ?_ | refine br_rev (br_is (k2) ?_) | refine br_rev (br_not (k2) ?_))
  have k3 : ok .o = decide (0 ≤ y .o) ∧ x .o = if 0 < y .o then y .o else 0 := by
    rcases h3 with ⟨m, hm, h4, h5, _⟩ | ⟨h4, h5⟩
    · obtain ⟨h6, h7⟩ := h2.good m hm h5
      rw [h6, h7, h4]
      refine ⟨by simp, ?_⟩
      split <;> omega
    · obtain ⟨h6, h7⟩ := h2.none h5
      rw [h6, h7, h4]
      exact ⟨rfl, rfl⟩
  cbv
  have k4 : (ok .o == decide (0 ≤ y .o)) = true := by rw [k3.1]; simp
  (first | refine br_is (k4) ?_ | refine br_not (k4) ?_ | refine br_rev (br_is (k4) ?_) | refine br_rev (br_not (k4) ?_))
  cbv
  have k5 : decide (x .o = if y .o < 0 then 0 else y .o) = true := by
    rw [k3.2]
    apply decide_eq_true
    split <;> split <;> omega
  (first | refine br_is (k5) ?_ | refine br_not (k5) ?_ | refine br_rev (br_is (k5) ?_) | refine br_rev (br_not (k5) ?_))
  cbv
  refine awake12_c fun b hb => ?_
  cbv
  exact ⟨b, rfl, hb⟩
theorem textF_bad : ∀ j < 16, textF (j : Nat) ≠ [110, 111, 100, 117, 109, 112, 44, 117, 99, 104, 103] ∧ textF (j : Nat) ≠ [117, 99, 104, 103, 44, 117, 99, 104, 103] ∧ textF (j : Nat) ≠ [85, 67, 72, 71] := by decide +kernel
theorem textF_end : ∀ m < 16, ∀ j < 16, textF (j : Nat) ≠ textF (m : Nat) ++ [44] := by decide +kernel
theorem textF_len : ∀ m < 16, (textF (m : Nat)).length ≤ 100 := by decide +kernel
theorem mod16 {a : Int} (ha : 0 ≤ a ∧ a < 256) : ∃ m : Nat, m < 16 ∧ (IntKind.i64.wrap a).tmod 16 = m := by
  have : IntKind.i64.wrap a = a := by rw [IntKind.wrap_i64]; omega
  rw [this]
  rw [Int.tmod_eq_emod_of_nonneg ha.1]
  exact ⟨(a % 16).toNat, by omega, by omega⟩
theorem mayF_nat {m : Nat} (h : m < 16) : mayF (m : Int) = true := by
  unfold mayF
  rw [decide_eq_true (by omega : (0 : Int) ≤ m), decide_eq_true (by omega : (m : Int) < 16)]
  rfl
theorem flagsBack_c (a b : Th Int) (ha : 0 ≤ a .o ∧ a .o < 256) (hb : 0 ≤ b .o ∧ b .o < 256) : CallAt PT l12_FlagsBack [.int .u8 a, .int .u8 b] 9999 .nil Yes := by
  obtain ⟨m, hm, em⟩ := mod16 ha
  obtain ⟨j, hj, ej⟩ := mod16 hb
  refine l12_FlagsBack.of rfl rfl ?_
  cbv
  refine safe (by decide) ?_
  refine safe (by decide) ?_
  refine ftext_c _ fun s hs => ?_
  have hs : s .o = textF m := by rw [hs]; show textF ((IntKind.i64.wrap (a .o)).tmod 16) = _; rw [em]
  have hsl : (s .o).length ≤ 100 := by rw [hs]; exact textF_len m hm
  cbv
  refine fparse_c s (by omega) fun x ok h1 => ?_
  obtain ⟨hx, hok⟩ := h1.good m hm hs.symm
  cbv
  refine fparse_c _ (by decide) fun y1 order h2 => ?_
  have h2 := (h2.none fun j hj => (textF_bad j hj).1).2
  cbv
  refine fparse_c _ (by decide) fun y2 twice h3 => ?_
  have h3 := (h3.none fun j hj => (textF_bad j hj).2.1).2
  cbv
  refine safe (by show (s .o).length + 1 ≤ _; omega) ?_
  refine fparse_c _ (by show (s .o ++ [44]).length ≤ _; rw [List.length_append, List.length_singleton]; omega) fun y3 en h4 => ?_
  have h4 := (h4.none fun j hj => by show _ ≠ s .o ++ [44]; rw [hs]; exact textF_end m hm j hj).2
  cbv
  refine fparse_c _ (by decide) fun y4 great h5 => ?_
  have h5 := (h5.none fun j hj => (textF_bad j hj).2.2).2
  cbv
  (first | refine br_is (hok) ?_ | refine br_not (hok) ?_ | refine br_rev (br_is (hok) ?_) | refine br_rev (br_not (hok) ?_))
  cbv
  have k1 : decide (x .o = (IntKind.i64.wrap (a .o)).tmod 16) = true := by rw [hx, em]; simp
  (first | refine br_is (k1) ?_ | refine br_not (k1) ?_ | refine br_rev (br_is (k1) ?_) | refine br_rev (br_not (k1) ?_))
  cbv
  refine ftext_c _ fun t ht => ?_
  have ht : t .o = textF j := by rw [ht]; show textF ((IntKind.i64.wrap (b .o)).tmod 16) = _; rw [ej]
  cbv
  have k2 : (decide (t .o = s .o) == decide ((IntKind.i64.wrap (b .o)).tmod 16 = (IntKind.i64.wrap (a .o)).tmod 16)) = true := by
    rw [ht, hs, em, ej, beq_iff_eq]
    refine decide_eq_decide.2 ⟨fun h => by rw [textF_inj j hj m hm h], fun h => by rw [h]⟩
  (first | refine br_is (k2) ?_ | refine br_not (k2) ?_ | refine br_rev (br_is (k2) ?_) | refine br_rev (br_not (k2) ?_))
  cbv
  have k3 : (!order .o) = true := by rw [h2]; rfl
  (first | refine br_is (k3) ?_ | refine br_not (k3) ?_ | refine br_rev (br_is (k3) ?_) | refine br_rev (br_not (k3) ?_))
  cbv
  have k4 : (!twice .o) = true := by rw [h3]; rfl
  (first | refine br_is (k4) ?_ | refine br_not (k4) ?_ | refine br_rev (br_is (k4) ?_) | refine br_rev (br_not (k4) ?_))
  cbv
  have k5 : (!en .o) = true := by rw [h4]; rfl
  (first | refine br_is (k5) ?_ | refine br_not (k5) ?_ | refine br_rev (br_is (k5) ?_) | refine br_rev (br_not (k5) ?_))
  cbv
  have k6 : (!great .o) = true := by rw [h5]; rfl
  (first | refine br_is (k6) ?_ | refine br_not (k6) ?_ | refine br_rev (br_is (k6) ?_) | refine br_rev (br_not (k6) ?_))
  cbv
  refine fmay_c _ fun b1 hb1 => ?_
  have hb1 : b1 .o = mayF (IntKind.i64.wrap ((IntKind.i64.wrap (a .o)).tmod 16 + 16)) := hb1
  have hb1 : (!b1 .o) = true := by
    rw [hb1, em, IntKind.wrap_i64]
    have e : decide (((m : Int) + 16 + 9223372036854775808) % 18446744073709551616 - 9223372036854775808 < 16) = false := decide_eq_false (by omega)
    simp [mayF, e]
  cbv
  (first | refine br_is (hb1) ?_ | refine br_not (hb1) ?_ | refine br_rev (br_is (hb1) ?_) | refine br_rev (br_not (hb1) ?_))
  cbv
  refine fmay_c _ fun b2 hb2 => ?_
  have hb2 : b2 .o = mayF (IntKind.i64.wrap (-1 - (IntKind.i64.wrap (a .o)).tmod 16)) := hb2
  have hb2 : (!b2 .o) = true := by
    rw [hb2, em, IntKind.wrap_i64]
    have e : decide (0 ≤ (-1 - (m : Int) + 9223372036854775808) % 18446744073709551616 - 9223372036854775808) = false := decide_eq_false (by omega)
    rw [mayF, e]; rfl
  cbv
  (first | refine br_is (hb2) ?_ | refine br_not (hb2) ?_ | refine br_rev (br_is (hb2) ?_) | refine br_rev (br_not (hb2) ?_))
  cbv
  refine awake12_c fun b hb => ?_
  cbv
  exact ⟨b, rfl, hb⟩
theorem flagsWords_c (n : Th Int) (hn : 0 ≤ n .o ∧ n .o < 256) : CallAt PT l12_FlagsWords [.int .u8 n] 9999 .nil Yes := by
  obtain ⟨m, hm, em⟩ := mod16 hn
  refine l12_FlagsWords.of rfl rfl ?_
  cbv
  refine safe (by decide) ?_
  refine loop_at (X := Nat × List UInt8) 1000 [4] [] (fun _ x => .cons 3 (.row 9) (.cons 5 (.str fun _ => x.2) (.cons 6 (.int .i64 fun _ => zi x.1) .nil))) (fun _ x => .cons 9 (rowB 1 strCh [] fun _ => wordsF) .nil)
    (fun x => x.1 ≤ 4 ∧ x.2 = textR m x.1) (fun x => 4 - x.1) (0, []) ?_ ⟨Nat.zero_le _, rfl⟩ ?_
  · cbv
    refine ⟨by (repeat' (first | exact True.intro | exact Same.refl _ | exact SameB.refl _ | exact ⟨rfl⟩ | exact Same.int rfl | exact Same.str rfl | exact Same.bool rfl | (refine Same.int ?_; simp only [List.length_append, List.length_cons, List.length_nil, zi]; omega) | (refine SameB.row' rfl fun i hi => ?_; first | rfl | exact absurd hi (Nat.not_lt_zero _)) | refine And.intro ?_ ?_ | refine SameB.cells ?_ | exact SameC.nil | refine SameC.cons ?_ ?_ | exact Same.nsl rfl | exact Same.tt rfl | exact Same.ff rfl)), ⟨SameB.row' rfl fun i hi => ?_, True.intro⟩, by (repeat' (first | exact True.intro | exact Same.refl _ | exact SameB.refl _ | exact ⟨rfl⟩ | exact Same.int rfl | exact Same.str rfl | exact Same.bool rfl | (refine Same.int ?_; simp only [List.length_append, List.length_cons, List.length_nil, zi]; omega) | (refine SameB.row' rfl fun i hi => ?_; first | rfl | exact absurd hi (Nat.not_lt_zero _)) | refine And.intro ?_ ?_ | refine SameB.cells ?_ | exact SameC.nil | refine SameC.cons ?_ ?_ | exact Same.nsl rfl | exact Same.tt rfl | exact Same.ff rfl))⟩
    have hi : i < 4 := hi
    match i, hi with
    | 0, _ => rfl
    | 1, _ => rfl
    | 2, _ => rfl
    | 3, _ => rfl
  · rintro ⟨i, l⟩ ⟨h2, h3⟩
    dsimp only at h2 h3
    have hl : l.length ≤ 8 * i := h3 ▸ textR_len _ _
    have hw := word_len (zi i).toNat
    cbv
    refine br_dec (fun h4 => ?_) (fun h4 => ?_)
    · have h4 : i < 4 := by have : zi i < 4 := h4; unfold zi at this; omega
      cbv
      refine ⟨fun _ => zi_nonneg _, ?_⟩
      refine ⟨fun h5 => ?_, fun h5 => ?_⟩
      · have h5 : bitR m i = true := by have h5 : bitR ((IntKind.i64.wrap (n .o)).tmod 16) i = true := h5; rw [em] at h5; exact h5
        refine br_ndec (fun h6 => ?_) (fun h6 => ?_)
        · have h6 : ¬ l = [] := h6
          cbv
          refine safe (by show l.length + 1 ≤ _; omega) ?_
          refine safe ⟨zi_nonneg _, zi_lt.2 h4⟩ ?_
          refine safe (by show (zi i).toNat < 4; rw [zi_toNat]; exact h4) ?_
          refine safe (by show (l ++ [44]).length + (wordsF.getD (zi i).toNat []).length ≤ _; rw [List.length_append]; simp only [List.length_cons, List.length_nil]; omega) ?_
          refine ⟨(i + 1, l ++ [44] ++ wordsF.getD (zi i).toNat []), ⟨h4, by rw [textR, h5, ← h3, if_neg h6]; rfl⟩, by show 4 - (i + 1) < 4 - i; omega, ?_⟩
          cbv
          rw [zi_succ (by omega)]
          (repeat' (first | exact True.intro | exact Same.refl _ | exact SameB.refl _ | exact ⟨rfl⟩ | exact Same.int rfl | exact Same.str rfl | exact Same.bool rfl | (refine Same.int ?_; simp only [List.length_append, List.length_cons, List.length_nil, zi]; omega) | (refine SameB.row' rfl fun i hi => ?_; first | rfl | exact absurd hi (Nat.not_lt_zero _)) | refine And.intro ?_ ?_ | refine SameB.cells ?_ | exact SameC.nil | refine SameC.cons ?_ ?_ | exact Same.nsl rfl | exact Same.tt rfl | exact Same.ff rfl))
        · have h6 : l = [] := h6
          cbv
          refine safe ⟨zi_nonneg _, zi_lt.2 h4⟩ ?_
          refine safe (by show (zi i).toNat < 4; rw [zi_toNat]; exact h4) ?_
          refine safe (by show l.length + (wordsF.getD (zi i).toNat []).length ≤ _; omega) ?_
          refine ⟨(i + 1, l ++ wordsF.getD (zi i).toNat []), ⟨h4, by rw [textR, h5, ← h3, if_pos h6, h6]; rfl⟩, by show 4 - (i + 1) < 4 - i; omega, ?_⟩
          cbv
          rw [zi_succ (by omega)]
          (repeat' (first | exact True.intro | exact Same.refl _ | exact SameB.refl _ | exact ⟨rfl⟩ | exact Same.int rfl | exact Same.str rfl | exact Same.bool rfl | (refine Same.int ?_; simp only [List.length_append, List.length_cons, List.length_nil, zi]; omega) | (refine SameB.row' rfl fun i hi => ?_; first | rfl | exact absurd hi (Nat.not_lt_zero _)) | refine And.intro ?_ ?_ | refine SameB.cells ?_ | exact SameC.nil | refine SameC.cons ?_ ?_ | exact Same.nsl rfl | exact Same.tt rfl | exact Same.ff rfl))
      · have h5 : bitR m i = false := by have h5 : bitR ((IntKind.i64.wrap (n .o)).tmod 16) i = false := h5; rw [em] at h5; exact h5
        cbv
        refine ⟨(i + 1, l), ⟨h4, by rw [textR, h5, h3]; rfl⟩, by show 4 - (i + 1) < 4 - i; omega, ?_⟩
        cbv
        rw [zi_succ (by omega)]
        (repeat' (first | exact True.intro | exact Same.refl _ | exact SameB.refl _ | exact ⟨rfl⟩ | exact Same.int rfl | exact Same.str rfl | exact Same.bool rfl | (refine Same.int ?_; simp only [List.length_append, List.length_cons, List.length_nil, zi]; omega) | (refine SameB.row' rfl fun i hi => ?_; first | rfl | exact absurd hi (Nat.not_lt_zero _)) | refine And.intro ?_ ?_ | refine SameB.cells ?_ | exact SameC.nil | refine SameC.cons ?_ ?_ | exact Same.nsl rfl | exact Same.tt rfl | exact Same.ff rfl))
    · have h4 : ¬ i < 4 := fun q => h4 (by show zi i < 4; unfold zi; omega)
      obtain rfl : i = 4 := by omega
      have h5 : l = textF m := by
        rw [h3, textR_eq m hm, textF]
        rw [mayF_nat hm]; rfl
      cbv
      refine fparse_c (fun _ => l) (by show l.length ≤ _; omega) fun x ok hp => ?_
      obtain ⟨hx, hok⟩ := hp.good m hm h5.symm
      cbv
      refine ftext_c _ fun t ht => ?_
      have ht : t .o = textF m := by rw [ht]; show textF ((IntKind.i64.wrap (n .o)).tmod 16) = _; rw [em]
      cbv
      have k1 : decide (t .o = l) = true := by rw [ht, h5]; simp
      (first | refine br_is (k1) ?_ | refine br_not (k1) ?_ | refine br_rev (br_is (k1) ?_) | refine br_rev (br_not (k1) ?_))
      cbv
      (first | refine br_is (hok) ?_ | refine br_not (hok) ?_ | refine br_rev (br_is (hok) ?_) | refine br_rev (br_not (hok) ?_))
      cbv
      have k2 : decide (x .o = (IntKind.i64.wrap (n .o)).tmod 16) = true := by rw [hx, em]; simp
      (first | refine br_is (k2) ?_ | refine br_not (k2) ?_ | refine br_rev (br_is (k2) ?_) | refine br_rev (br_not (k2) ?_))
      cbv
      refine fmay_c _ fun b1 hb1 => ?_
      have hb1 : b1 .o = true := by
        rw [hb1]; show mayF ((IntKind.i64.wrap (n .o)).tmod 16) = true
        rw [em]; exact mayF_nat hm
      cbv
      (first | refine br_is (hb1) ?_ | refine br_not (hb1) ?_ | refine br_rev (br_is (hb1) ?_) | refine br_rev (br_not (hb1) ?_))
      cbv
      refine ftext_c _ fun u hu => ?_
      have hu : u .o = [] := by
        rw [hu]; show textF (IntKind.i64.wrap ((IntKind.i64.wrap (n .o)).tmod 16 + 16)) = []
        rw [em, IntKind.wrap_i64]
        have e : decide (((m : Int) + 16 + 9223372036854775808) % 18446744073709551616 - 9223372036854775808 < 16) = false := decide_eq_false (by omega)
        simp [textF, mayF, e]
      cbv
      have k3 : decide (u .o = []) = true := by rw [hu]; rfl
      (first | refine br_is (k3) ?_ | refine br_not (k3) ?_ | refine br_rev (br_is (k3) ?_) | refine br_rev (br_not (k3) ?_))
      cbv
      refine awake12_c fun b hb => ?_
      cbv
      exact ⟨b, rfl, hb⟩
end Go.Proofs.YtiaenejafpbfkaaDoor

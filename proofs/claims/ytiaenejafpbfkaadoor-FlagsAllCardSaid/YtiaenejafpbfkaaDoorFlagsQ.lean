/- flags.Parse: walked. -/
import Derived.Test.YtiaenejafpbfkaaDoorFlagsP
namespace Go.Proofs.YtiaenejafpbfkaaDoor
open Go Go.Proofs.YtiaenejafpbfkaaDoor.Sx F
set_option linter.unusedVariables false
set_option linter.unusedSimpArgs false

/-- A word's place. -/
def idxF (w : List UInt8) : Int := if w = [117, 99, 104, 103] then 0 else if w = [117, 97, 112, 112, 110, 100] then 1 else if w = [110, 111, 100, 117, 109, 112] then 2 else if w = [111, 112, 97, 113, 117, 101] then 3 else -1
theorem IX.idx {v : List UInt8} {n : Int} (h : IX wordsF v n) : n = idxF v := by
  rcases h with ⟨m, hm, rfl, hv, _⟩ | ⟨rfl, hn⟩
  · have hm : m < 4 := hm
    subst hv
    match m, hm with
    | 0, _ => decide
    | 1, _ => decide
    | 2, _ => decide
    | 3, _ => decide
  · have h0 : v ≠ [117, 99, 104, 103] := fun e => hn 0 (by decide) e.symm
    have h1 : v ≠ [117, 97, 112, 112, 110, 100] := fun e => hn 1 (by decide) e.symm
    have h2 : v ≠ [110, 111, 100, 117, 109, 112] := fun e => hn 2 (by decide) e.symm
    have h3 : v ≠ [111, 112, 97, 113, 117, 101] := fun e => hn 3 (by decide) e.symm
    rw [idxF, if_neg h0, if_neg h1, if_neg h2, if_neg h3]
def orF (n : Int) (w : List UInt8) : Int := abits .or .i64 n (IntKind.i64.wrap (1 * 2 ^ min (idxF w).toNat IntKind.i64.bits))
def foldF : List (List UInt8) → Int → Int
  | [], n => n
  | w :: r, n => foldF r (orF n w)
theorem foldF_ok : ∀ m < 16, m = 0 ∨ (foldF (splitC 44 (textF (m : Nat))) 0 = m ∧ ∀ w ∈ splitC 44 (textF (m : Nat)), 0 ≤ idxF w) := by decide +kernel
/-- What flags.Parse answers. -/
def FP (s : List UInt8) (n : Int) (b : Bool) : Prop := (∃ m : Nat, m < 16 ∧ n = m ∧ textF m = s ∧ b = true) ∨ (n = 0 ∧ b = false ∧ ∀ j : Nat, j < 16 → textF j ≠ s)
theorem textF_zero : textF 0 = [] := by decide +kernel
theorem textF_may {n : Int} (h : textF n ≠ []) : ∃ m : Nat, m < 16 ∧ n = m := by
  have hm : mayF n = true := by
    cases e : mayF n with
    | true => rfl
    | false => exact absurd (by rw [textF, e]; rfl) h
  have hn : 0 ≤ n ∧ n < 16 := by simpa [mayF] using hm
  exact ⟨n.toNat, by omega, by omega⟩
def noFlagV (s : Th (List UInt8)) : AV := .ifc 63 (.agg (.cons (.str s) .nil))
theorem fendS_c (s : Th (List UInt8)) (n : Th Int) {K : BL → Prop} (h : K (.cons 10000 (.cells (.cons (.int .i64 fun _ => 0) .nil)) (.cons 10001 (.cells (.cons .ff .nil)) .nil))) : DefAt PT flags_Parse_1 true [noFlagV s, .ptr 10000 0, .ptr 10001 0] (.cons 10000 (.cells (.cons (.int .i64 n) .nil)) (.cons 10001 (.cells (.cons .ff .nil)) .nil)) K := by
  refine flags_Parse_1.of rfl rfl (fun h => by cases h) ?_
  cbv
  exact h
theorem foldF_drop (l : List (List UInt8)) (k : Nat) (hk : k < l.length) (n : Int) : foldF (l.drop k) n = foldF (l.drop (k + 1)) (orF n (l.getD k [])) := by
  rw [← List.getElem_cons_drop hk, foldF, List.getD_eq_getElem?_getD, List.getElem?_eq_getElem hk]; rfl
theorem fparse_c (s : Th (List UInt8)) (hs : (s .o).length ≤ 100000) {d : Nat} {K : ARes → BL → Prop} (hr : ∀ n : Th Int, ∀ b : Th Bool, FP (s .o) (n .o) (b .o) → K (.ret (.tup (.cons (.int .i64 n) (.cons (.bool b) .nil)))) .nil) : CallAt PT flags_Parse [.str s] d .nil K := by
  refine CallAt.res ?_
  refine flags_Parse.of rfl rfl ?_
  cbv
  refine br_dec (fun h1 => ?_) (fun h1 => ?_)
  · have h1 : s .o = [] := h1
    cbv
    refine DefAt.use [(10000, 2), (10001, 3)] [.nif, .ptr 10000 0, .ptr 10001 0] (by kernel_rfl) rfl (fendT_c _ ?_)
    cbv
    exact ⟨_, .ret (.tup (.cons (.int rfl) (.cons (.tt rfl) .nil))), hr (fun _ => 0) (fun _ => true) (.inl ⟨0, by decide, rfl, by rw [h1]; exact textF_zero, rfl⟩)⟩
  · have h1 : ¬ s .o = [] := h1
    cbv
    refine split_c s 44 (by omega) fun l hl => ?_
    have hll : (l .o).length ≤ 100001 := by rw [hl, splitC_len]; have : (s .o).count 44 ≤ _ := List.count_le_length; omega
    cbv
    refine loop_at (X := Nat × Int) 1000 [0, 2, 3, 11, 12] [3] (fun _ x => .cons 13 (.int .i64 fun _ => zi x.1) .nil) (fun _ x => .cons 2 (.cells (.cons (.int .i64 fun _ => x.2) .nil)) .nil)
      (fun x => x.1 ≤ (l .o).length ∧ foldF (l .o) 0 = foldF ((l .o).drop x.1) x.2) (fun x => (l .o).length - x.1) (0, 0) ?_ ⟨Nat.zero_le _, rfl⟩ ?_
    · cbv
      (repeat' (first | exact True.intro | exact Same.refl _ | exact SameB.refl _ | exact ⟨rfl⟩ | exact Same.int rfl | exact Same.str rfl | exact Same.bool rfl | (refine Same.int ?_; simp only [List.length_append, List.length_cons, List.length_nil, zi]; omega) | (refine SameB.row' rfl fun i hi => ?_; first | rfl | exact absurd hi (Nat.not_lt_zero _)) | refine And.intro ?_ ?_ | refine SameB.cells ?_ | exact SameC.nil | refine SameC.cons ?_ ?_ | exact Same.nsl rfl | exact Same.tt rfl | exact Same.ff rfl))
    · rintro ⟨i, n⟩ ⟨h2, h3⟩
      dsimp only at h2 h3
      have e : (zi i).toNat = i := zi_toNat i
      cbv
      refine br_zlt (fun h4 => ?_) (fun h4 => ?_)
      · rw [foldF_drop _ _ h4] at h3
        cbv
        refine safe ⟨zi_nonneg _, zi_lt.2 h4⟩ ?_
        refine fnames_c ?_
        cbv
        refine indexS_c (fun _ => wordsF) (fun _ => (l .o).getD (zi i).toNat []) (by decide) fun q hq => ?_
        have hq : q .o = idxF ((l .o).getD i []) := by have := IX.idx hq; rw [e] at this; exact this
        cbv
        refine br_dec (fun h5 => ?_) (fun h5 => ?_)
        · have h5 : q .o < 0 := h5
          cbv
          refine DefAt.use [(10000, 2), (10001, 3)] [noFlagV _, .ptr 10000 0, .ptr 10001 0] (by kernel_rfl) rfl (fendS_c _ _ ?_)
          cbv
          refine ⟨_, .ret (.tup (.cons (.int rfl) (.cons (.ff rfl) .nil))), hr (fun _ => 0) (fun _ => false) (.inr ⟨rfl, rfl, fun j hj hjs => ?_⟩)⟩
          rcases foldF_ok j hj with rfl | ⟨_, hw⟩
          · exact h1 (by rw [← hjs]; exact textF_zero)
          · rw [hjs, ← hl] at hw
            have := hw ((l .o).getD i []) (by rw [List.getD_eq_getElem?_getD, List.getElem?_eq_getElem h4]; exact List.getElem_mem h4)
            omega
        · have h5 : ¬ q .o < 0 := h5
          cbv
          refine ⟨fun _ => (by omega : 0 ≤ q .o), ?_⟩
          refine ⟨(i + 1, orF n ((l .o).getD i [])), ⟨h4, h3⟩, by show (l .o).length - (i + 1) < (l .o).length - i; omega, ?_⟩
          cbv
          rw [zi_succ (by omega)]
          (repeat' (first | exact True.intro | exact Same.refl _ | exact SameB.refl _ | exact ⟨rfl⟩ | exact Same.int rfl | exact Same.str rfl | exact Same.bool rfl | (refine Same.int ?_; simp only [List.length_append, List.length_cons, List.length_nil, zi]; omega) | (refine SameB.row' rfl fun i hi => ?_; first | rfl | exact absurd hi (Nat.not_lt_zero _)) | refine And.intro ?_ ?_ | refine SameB.cells ?_ | exact SameC.nil | refine SameC.cons ?_ ?_ | exact Same.nsl rfl | exact Same.tt rfl | exact Same.ff rfl))
          all_goals (refine Same.int ?_; show abits _ _ _ _ = orF _ _; rw [orF, ← hq])
      · rw [List.drop_of_length_le h4, foldF] at h3
        cbv
        refine ftext_c (fun _ => n) fun t ht => ?_
        have ht : t .o = textF n := ht
        cbv
        refine br_ndec (fun h5 => ?_) (fun h5 => ?_)
        · have h5 : ¬ t .o = s .o := h5
          cbv
          refine DefAt.use [(10000, 2), (10001, 3)] [.nif, .ptr 10000 0, .ptr 10001 0] (by kernel_rfl) rfl (fendF_c _ ?_)
          cbv
          refine ⟨_, .ret (.tup (.cons (.int rfl) (.cons (.ff rfl) .nil))), hr (fun _ => 0) (fun _ => false) (.inr ⟨rfl, rfl, fun j hj hjs => ?_⟩)⟩
          rcases foldF_ok j hj with rfl | ⟨hf, _⟩
          · exact h1 (by rw [← hjs]; exact textF_zero)
          · rw [hjs, ← hl, h3] at hf
            exact h5 (by rw [ht, hf, hjs])
        · have h5 : t .o = s .o := h5
          rw [ht] at h5
          obtain ⟨m, hm, rfl⟩ := textF_may (n := n) (by rw [h5]; exact h1)
          cbv
          refine DefAt.use [(10000, 2), (10001, 3)] [.nif, .ptr 10000 0, .ptr 10001 0] (by kernel_rfl) rfl (fendT_c _ ?_)
          cbv
          exact ⟨_, .ret (.tup (.cons (.int rfl) (.cons (.tt rfl) .nil))), hr (fun _ => (m : Int)) (fun _ => true) (.inl ⟨m, hm, rfl, h5, rfl⟩)⟩
end Go.Proofs.YtiaenejafpbfkaaDoor

/- The pieces of a text between bytes: plain. -/
import Derived.Lib.Bytealg
import Derived.Test.YtiaenejafpbfkaaDoorDat
namespace Go.Proofs.YtiaenejafpbfkaaDoor
open Go Go.Proofs.YtiaenejafpbfkaaDoor.Sx
set_option linter.unusedVariables false
set_option linter.unusedSimpArgs false

/-- The pieces of a text between the bytes c. -/
def splitC (c : UInt8) : List UInt8 → List (List UInt8)
  | [] => [[]]
  | x :: r => if x = c then [] :: splitC c r else match splitC c r with
    | [] => [[x]]
    | h :: t => (x :: h) :: t
theorem splitC_len (c : UInt8) (s : List UInt8) : (splitC c s).length = s.count c + 1 := by
  induction s with
  | nil => rfl
  | cons x r ih =>
    unfold splitC
    by_cases h : x = c
    · rw [if_pos h, List.length_cons, ih, h, List.count_cons_self]
    · rw [if_neg h, List.count_cons_of_ne h]
      cases hs : splitC c r with
      | nil => rw [hs] at ih; simp at ih
      | cons a t => rw [hs] at ih; simpa using ih
theorem splitC_no {c : UInt8} : ∀ {s : List UInt8}, c ∉ s → splitC c s = [s]
  | [], _ => rfl
  | x :: r, h => by
    unfold splitC
    rw [if_neg (fun e => h (by simp [e])), splitC_no (fun q => h (by simp [q]))]
theorem splitC_at {c : UInt8} : ∀ (a b : List UInt8), c ∉ a → splitC c (a ++ c :: b) = a :: splitC c b
  | [], b, _ => by
    show splitC c (c :: b) = _
    rw [splitC, if_pos rfl]
  | x :: r, b, h => by
    show splitC c (x :: (r ++ c :: b)) = _
    rw [splitC, if_neg (fun e => h (by simp [e])), splitC_at r b (fun q => h (by simp [q]))]
theorem mem_split {c : UInt8} : ∀ {s : List UInt8} {p : List UInt8} {x : UInt8}, p ∈ splitC c s → x ∈ p → x ∈ s ∧ x ≠ c
  | [], p, x, hp, hx => by
    have : p = [] := by simpa [splitC] using hp
    subst this
    cases hx
  | y :: r, p, x, hp, hx => by
    unfold splitC at hp
    by_cases h : y = c
    · rw [if_pos h] at hp
      rcases List.mem_cons.1 hp with rfl | hp
      · cases hx
      · have := mem_split hp hx
        exact ⟨by simp [this.1], this.2⟩
    · rw [if_neg h] at hp
      cases hs : splitC c r with
      | nil => have := splitC_len c r; rw [hs] at this; simp at this
      | cons a t =>
        rw [hs] at hp
        rcases List.mem_cons.1 hp with rfl | hp
        · rcases List.mem_cons.1 hx with rfl | hx
          · exact ⟨by simp, h⟩
          · have := mem_split (c := c) (s := r) (p := a) (x := x) (by rw [hs]; simp) hx
            exact ⟨by simp [this.1], this.2⟩
        · have := mem_split (c := c) (s := r) (p := p) (x := x) (by rw [hs]; simp [hp]) hx
          exact ⟨by simp [this.1], this.2⟩
theorem split_mem {c : UInt8} : ∀ {s : List UInt8} {x : UInt8}, x ∈ s → x ≠ c → ∃ p ∈ splitC c s, x ∈ p
  | [], x, hx, _ => by cases hx
  | y :: r, x, hx, hc => by
    unfold splitC
    by_cases h : y = c
    · rw [if_pos h]
      rcases List.mem_cons.1 hx with rfl | hx
      · exact absurd h hc
      · obtain ⟨p, hp, hxp⟩ := split_mem hx hc
        exact ⟨p, by simp [hp], hxp⟩
    · rw [if_neg h]
      cases hs : splitC c r with
      | nil => have := splitC_len c r; rw [hs] at this; simp at this
      | cons a t =>
        rcases List.mem_cons.1 hx with rfl | hx
        · exact ⟨x :: a, by simp, by simp⟩
        · obtain ⟨p, hp, hxp⟩ := split_mem hx hc
          rw [hs] at hp
          rcases List.mem_cons.1 hp with rfl | hp
          · exact ⟨y :: p, by simp, by simp [hxp]⟩
          · exact ⟨p, by simp [hp], hxp⟩
theorem index_none {s : List UInt8} {c : UInt8} (h : Lib.indexByte s c < 0) : c ∉ s := by
  induction s with
  | nil => simp
  | cons b l ih =>
    have hg := Lib.indexByte_ge l c
    unfold Lib.indexByte at h
    by_cases e : b = c
    · rw [if_pos (by simpa using e)] at h; omega
    · rw [if_neg (by simpa using e)] at h
      split at h
      · rename_i h2
        have h2 : Lib.indexByte l c = -1 := by simpa using h2
        have := ih (by omega)
        simp only [List.mem_cons, not_or]
        exact ⟨fun q => e q.symm, this⟩
      · omega
theorem index_at {s : List UInt8} {c : UInt8} (h : ¬ Lib.indexByte s c < 0) : ∃ m : Nat, Lib.indexByte s c = (m : Int) ∧ m < s.length ∧ s = s.take m ++ c :: s.drop (m + 1) ∧ c ∉ s.take m := by
  induction s with
  | nil => exact absurd (by show (-1 : Int) < 0; decide) h
  | cons b l ih =>
    have hg := Lib.indexByte_ge l c
    unfold Lib.indexByte at h ⊢
    by_cases e : b = c
    · rw [if_pos (by simpa using e)]
      exact ⟨0, rfl, by simp, by simp [e], by simp⟩
    · rw [if_neg (by simpa using e)] at h ⊢
      split at h
      · omega
      · rename_i h2
        rw [if_neg h2]
        have h2 : Lib.indexByte l c ≠ -1 := by simpa using h2
        obtain ⟨m, h3, h4, h5, h6⟩ := ih (by omega)
        refine ⟨m + 1, by rw [h3]; simp, by simp; omega, ?_, ?_⟩
        · simp only [List.take_succ_cons, List.drop_succ_cons, List.cons_append]
          rw [← h5]
        · simp only [List.take_succ_cons, List.mem_cons, not_or]
          exact ⟨fun q => e q.symm, h6⟩

/-! ### paths -/
def nameB (x : List UInt8) : Bool := decide (x ≠ []) && decide (x.length ≤ 255) && decide (x ≠ [46]) && decide (x ≠ [46, 46])
def pathS (s : List UInt8) : Bool := (splitC 47 s).all nameB && decide (s.length ≤ 4096) && decide ((splitC 47 s).length ≤ 64) && !decide ((0 : UInt8) ∈ s)
def name15 (x : List UInt8) : Bool := nameB x && !decide ((0 : UInt8) ∈ x) && !decide ((47 : UInt8) ∈ x)
def path15 (s : List UInt8) : Bool := decide (s ≠ []) && decide (s.length ≤ 4096) && (splitC 47 s).all name15 && decide ((splitC 47 s).length ≤ 64)
theorem path15_eq (s : List UInt8) : path15 s = pathS s := by
  rw [Bool.eq_iff_iff]
  unfold path15 pathS
  simp only [Bool.and_eq_true, decide_eq_true_eq, List.all_eq_true, Bool.not_eq_true', decide_eq_false_iff_not]
  constructor
  · rintro ⟨⟨⟨h1, h2⟩, h3⟩, h4⟩
    refine ⟨⟨⟨fun x hx => ?_, h2⟩, h4⟩, fun h0 => ?_⟩
    · have := h3 x hx
      unfold name15 at this
      simp only [Bool.and_eq_true] at this
      exact this.1.1
    · obtain ⟨p, hp, hx⟩ := split_mem (c := 47) h0 (by decide)
      have := h3 p hp
      unfold name15 at this
      simp only [Bool.and_eq_true, Bool.not_eq_true', decide_eq_false_iff_not] at this
      exact this.1.2 hx
  · rintro ⟨⟨⟨h1, h2⟩, h3⟩, h4⟩
    refine ⟨⟨⟨fun e => ?_, h2⟩, fun x hx => ?_⟩, h3⟩
    · subst e
      have := h1 [] (by simp [splitC])
      simp [nameB] at this
    · unfold name15
      simp only [Bool.and_eq_true, Bool.not_eq_true', decide_eq_false_iff_not]
      exact ⟨⟨h1 x hx, fun q => h4 (mem_split hx q).1⟩, fun q => (mem_split hx q).2 rfl⟩

/-! ### where a target leads -/
def stepG (x : List UInt8) (d : Int) : Int := if x = [46, 46] then d - 1 else if x = [46] ∨ x = [] then d else d + 1
def goS : List (List UInt8) → Int → Bool
  | [], _ => false
  | x :: r, d => if stepG x d < 0 then true else goS r (stepG x d)
def insideS (p t : List UInt8) : Bool := pathS p && decide (t ≠ []) && decide (t.getD 0 0 ≠ 47) && !decide ((0 : UInt8) ∈ t) && !goS (splitC 47 t) (zi (p.count 47))
end Go.Proofs.YtiaenejafpbfkaaDoor

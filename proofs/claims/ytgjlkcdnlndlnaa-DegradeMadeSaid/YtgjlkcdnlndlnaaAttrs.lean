/- What is tried of an entry: plan.Attrs, walked. -/
import Derived.Test.YtgjlkcdnlndlnaaEnt
import Derived.Test.YtgjlkcdnlndlnaaFewer
namespace Go.Proofs.Ytgjlkcdnlndlnaa
open Go Go.Proofs.Ytgjlkcdnlndlnaa.Sx F
set_option linter.unusedVariables false
set_option linter.unusedSimpArgs false

theorem zpos_dec (n : Nat) : decide (0 < zi n) = decide (0 < n) := by unfold zi; rw [decide_eq_decide]; omega
def hasA (e : Entry) (a : Int) : Bool :=
  if a = 10 then decide (e.kind = 6) else if a = 3 then !decide (e.kind = 3) else if a = 4 then decide (0 < e.mt.acl.length) else if a = 5 then decide (0 < e.mt.dflt.length) else if a = 6 then decide (0 < e.mt.xs.length)
  else if a = 7 then !decide (e.mt.caps.ver = 0) else if a = 9 then !decide (e.mt.flags = 0) else true
def BE (e : Th Entry) : BL := .cons 10001 (.cells (Entry.ch e)) .nil
def BB (l : Th (List Int)) (e : Th Entry) : BL := .cons 10001 (.cells (Entry.ch e)) (.cons 10000 (rowB 1 intCh 0 l) .nil)
/-- What is kept of the first j. -/
def keptA (e : Entry) (L : List Int) (j : Nat) : List Int := (L.take j).filter (hasA e)
theorem keptA_le (e : Entry) (L : List Int) (j : Nat) : (keptA e L j).length ≤ j := by
  unfold keptA
  refine Nat.le_trans (List.length_filter_le _ _) ?_
  rw [List.length_take]; omega
theorem keptA_succ (e : Entry) (L : List Int) (j : Nat) (h : j < L.length) : keptA e L (j + 1) = if hasA e (L.getD j 0) = true then keptA e L j ++ [L.getD j 0] else keptA e L j := by
  unfold keptA
  rw [List.take_add_one, List.filter_append, List.getD_eq_getElem?_getD, List.getElem?_eq_getElem h]
  simp only [Option.toList_some, Option.getD_some]
  by_cases q : hasA e L[j] = true
  · rw [if_pos q]; simp [q]
  · rw [if_neg q]; simp [q]
theorem keptA_all (e : Entry) (L : List Int) (k : Nat) (hk : k ≤ L.length) (h : ∀ j, j < k → hasA e (L.getD j 0) = true) : keptA e L k = L.take k := by
  unfold keptA
  rw [List.filter_eq_self]
  intro x hx
  obtain ⟨i, hi, rfl⟩ := List.getElem_of_mem hx
  rw [List.length_take] at hi
  have := h i (by omega)
  rw [List.getD_eq_getElem?_getD, List.getElem?_eq_getElem (by omega)] at this
  simpa using this
/-- The row as it is when the first j have been looked at. -/
structure DelI (e : Entry) (L : List Int) (j : Nat) (R : List Int) : Prop where
  len : R.length = L.length
  done : R.take (keptA e L j).length = keptA e L j
  rest : R.drop j = L.drop j
theorem DelI.at {e : Entry} {L R : List Int} {j : Nat} (h : DelI e L j R) : R.getD j 0 = L.getD j 0 := by
  have := congrArg (·.getD 0 0) h.rest
  simpa [List.getD_eq_getElem?_getD, List.getElem?_drop] using this
theorem DelI.skip {e : Entry} {L R : List Int} {j : Nat} (h : DelI e L j R) (hj : j < L.length) (hp : hasA e (L.getD j 0) = false) : DelI e L (j + 1) R := by
  have hk : keptA e L (j + 1) = keptA e L j := by rw [keptA_succ e L j hj, if_neg (by rw [hp]; simp)]
  refine ⟨h.len, by rw [hk]; exact h.done, ?_⟩
  rw [← List.drop_drop, ← List.drop_drop, h.rest]
theorem DelI.keep {e : Entry} {L R : List Int} {j : Nat} (h : DelI e L j R) (hj : j < L.length) (hp : hasA e (L.getD j 0) = true) (hi : (keptA e L j).length ≤ j) : DelI e L (j + 1) (R.set (keptA e L j).length (L.getD j 0)) ∧ (keptA e L (j + 1)).length = (keptA e L j).length + 1 := by
  have hk : keptA e L (j + 1) = keptA e L j ++ [L.getD j 0] := by rw [keptA_succ e L j hj, if_pos hp]
  have hl := h.len
  refine ⟨⟨by rw [List.length_set]; exact h.len, ?_, ?_⟩, by rw [hk, List.length_append]; rfl⟩
  · rw [hk, List.length_append, List.length_singleton, List.take_add_one, List.take_set_of_le (Nat.le_refl _), h.done, List.getElem?_set_self (by omega)]
    rfl
  · rw [List.drop_set_of_lt (by omega), ← List.drop_drop, ← List.drop_drop, h.rest]

def attrsAll : List Int := [10, 2, 3, 4, 5, 6, 7, 8, 9]
def attrsS (e : Entry) : List Int := if e.kind = 2 then [] else attrsAll.filter (hasA e)
end Go.Proofs.Ytgjlkcdnlndlnaa

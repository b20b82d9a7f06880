/- A symbolic executor for the model's code: laws that walks lean on, the second part. -/
import Derived.Test.YtiaenejafpbfkaaDoorSxp
namespace Go.Proofs.YtiaenejafpbfkaaDoor.Sx
open Go
set_option linter.unusedSimpArgs false
set_option linter.unusedVariables false

/-! ### loops told by what stands ahead of them -/
def Blk.cs : Blk → AV | .cells c => c | _ => .nil
/-- The chain with cell n another one. -/
def AV.put : AV → Nat → AV → AV
  | .cons _ t, 0, v => .cons v t
  | .cons h t, n + 1, v => .cons h (t.put n v)
  | c, _, _ => c
theorem loop_at {C : Cx} {b : RC} {k : List It} {s : St} {X : Type} (F : Nat) (ks bs : List Nat) (T : St → X → AL) (B : St → X → BL) (R : X → Prop) (m : X → Nat) (x0 : X)
    (h0 : fit s (s.head ks bs (T s x0) (B s x0))) (hR : R x0)
    (step : ∀ x, R x → awp C F (.code b :: .inv (fun s' => ∃ x', R x' ∧ m x' < m x ∧ fit s' (s.head ks bs (T s x') (B s x'))) :: k) (s.head ks bs (T s x) (B s x))) :
    Sound C (.code (.loop b) :: k) s := loop_rule F ks bs (T s) (B s) R m x0 h0 hR step

/-! ### ways -/
theorem br_zlt {a b : Nat} [Decidable (zi a < zi b)] {P Q : Prop} (h1 : a < b → P) (h2 : b ≤ a → Q) : (decide (zi a < zi b) = true → P) ∧ (decide (zi a < zi b) = false → Q) :=
  ⟨fun h => h1 (zi_lt.1 (of_decide_eq_true h)), fun h => h2 (Nat.le_of_not_lt fun q => of_decide_eq_false h (zi_lt.2 q))⟩
theorem not_zlt {a b : Nat} (h : ¬ zi a < zi b) : b ≤ a := Nat.le_of_not_lt fun q => h (zi_lt.2 q)
theorem br_dec {p : Prop} [Decidable p] {P Q : Prop} (h1 : p → P) (h2 : ¬ p → Q) : (decide p = true → P) ∧ (decide p = false → Q) :=
  ⟨fun h => h1 (of_decide_eq_true h), fun h => h2 (of_decide_eq_false h)⟩
theorem br_ndec {p : Prop} [Decidable p] {P Q : Prop} (h1 : ¬ p → P) (h2 : p → Q) : ((!decide p) = true → P) ∧ ((!decide p) = false → Q) :=
  ⟨fun h => h1 (of_decide_eq_false (by simpa using h)), fun h => h2 (of_decide_eq_true (by simpa using h))⟩
theorem br_bool {b : Bool} {P Q : Prop} (h1 : b = true → P) (h2 : b = false → Q) : (b = true → P) ∧ (b = false → Q) := ⟨h1, h2⟩
theorem br_nbool {b : Bool} {P Q : Prop} (h1 : b = false → P) (h2 : b = true → Q) : ((!b) = true → P) ∧ ((!b) = false → Q) :=
  ⟨fun h => h1 (by simpa using h), fun h => h2 (by simpa using h)⟩
/-- Two truths that are one. -/
theorem br_neq {a b : Bool} {P Q : Prop} (e : a = b) (h2 : Q) : ((!(a == b)) = true → P) ∧ ((!(a == b)) = false → Q) := ⟨fun h => by subst e; simp at h, fun _ => h2⟩
theorem br_eq {a b : Bool} {P Q : Prop} (e : a = b) (h2 : P) : ((a == b) = true → P) ∧ ((a == b) = false → Q) := ⟨fun _ => h2, fun h => by subst e; simp at h⟩
theorem br_is {a : Bool} {P Q : Prop} (e : a = true) (h2 : P) : (a = true → P) ∧ (a = false → Q) := ⟨fun _ => h2, fun h => by rw [e] at h; cases h⟩
theorem br_not {a : Bool} {P Q : Prop} (e : a = false) (h2 : Q) : (a = true → P) ∧ (a = false → Q) := ⟨fun h => (by rw [e] at h; cases h), fun _ => h2⟩
theorem br_rev {b : Bool} {P Q : Prop} (h : (b = true → Q) ∧ (b = false → P)) : (b = false → P) ∧ (b = true → Q) := ⟨h.2, h.1⟩
theorem safe {p Q : Prop} (h1 : p) (h2 : Q) : (True → p) ∧ Q := ⟨fun _ => h1, h2⟩

/-! ### rows of like elements -/
section
variable {α : Type}
/-- A row of elements, each told by ch. -/
def lst (sz : Nat) (ch : Th α → AV) (z : α) (l : Th (List α)) : AV := .sl sz (fun _ => (l .o).length) fun i => ch fun _ => (l .o).getD (i .o) z
def rowB (sz : Nat) (ch : Th α → AV) (z : α) (l : Th (List α)) : Blk := .row sz (fun _ => (l .o).length) fun i => ch fun _ => (l .o).getD (i .o) z
theorem Fits.of_eq {x y : AV} (h : x = y) : Fits x y := h ▸ ⟨id, fun _ _ h => h⟩
/-- Behind an append: the elements one behind the other. -/
theorem app_rows {bytes : Nat} {n m : Th Nat} {g gy : Th Nat → AV} {K : Th Nat → (Th Nat → AV) → Prop} (ch : Th α → AV) (z : α) (xs ys : List α) (hn : n .o = xs.length) (hg : ∀ i, i < xs.length → g (fun _ => i) = ch fun _ => xs.getD i z)
    (hm : m .o = ys.length) (hy : ∀ i, i < ys.length → gy (fun _ => i) = ch fun _ => ys.getD i z) (hroom : (xs.length + ys.length) * bytes ≤ 140737488355328)
    (h : K (fun _ => (xs ++ ys).length) fun i => ch fun _ => (xs ++ ys).getD (i .o) z) : AppAt bytes n m g gy K := by
  refine ⟨by rw [hn, hm]; exact hroom, _, _, by rw [hn, hm]; simp, fun i hi => ?_, fun j hj => ?_, h⟩
  · refine Fits.of_eq ((hg i (by omega)).trans ?_)
    congr 1
    funext _
    simp only [List.getD_eq_getElem?_getD]
    rw [List.getElem?_append_left (by omega)]
  · refine Fits.of_eq ((hy j (by omega)).trans ?_)
    congr 1
    funext _
    simp only [List.getD_eq_getElem?_getD]
    rw [hn, List.getElem?_append_right (by omega), Nat.add_sub_cancel_left]
theorem app_one {bytes : Nat} {n m : Th Nat} {g gy : Th Nat → AV} {K : Th Nat → (Th Nat → AV) → Prop} (ch : Th α → AV) (z : α) (xs : List α) (y : α) (hn : n .o = xs.length) (hg : ∀ i, i < xs.length → g (fun _ => i) = ch fun _ => xs.getD i z)
    (hm : m .o = 1) (hy : gy (fun _ => 0) = ch fun _ => y) (hroom : (xs.length + 1) * bytes ≤ 140737488355328)
    (h : K (fun _ => (xs ++ [y]).length) fun i => ch fun _ => (xs ++ [y]).getD (i .o) z) : AppAt bytes n m g gy K :=
  app_rows ch z xs [y] hn hg hm (fun i hi => by
    have : i = 0 := by simpa using hi
    subst this
    exact hy) hroom h
/-- Behind a store into element i. -/
theorem put_rows {n i : Th Nat} {g : Th Nat → AV} {c : Option AV} {K : (Th Nat → AV) → Prop} (ch : Th α → AV) (z : α) (xs : List α) (v : α) (hn : n .o = xs.length) (hg : ∀ i, i < xs.length → g (fun _ => i) = ch fun _ => xs.getD i z)
    (hi : i .o < xs.length) (hc : c = some (ch fun _ => v)) (h : K fun j => ch fun _ => (xs.set (i .o) v).getD (j .o) z) : PutAt n i g c K := by
  refine ⟨by rw [hn]; exact hi, _, _, hc, fun j hj hne => ?_, ?_, h⟩
  · refine Fits.of_eq ((hg j (by omega)).trans ?_)
    congr 1
    funext _
    simp only [List.getD_eq_getElem?_getD]
    rw [List.getElem?_set_ne (Ne.symm hne)]
  · refine Fits.of_eq ?_
    congr 1
    funext _
    simp only [List.getD_eq_getElem?_getD]
    rw [List.getElem?_set_self hi]
    rfl
theorem getD_drop (l : List α) (k i : Nat) (z : α) : (l.drop k).getD i z = l.getD (k + i) z := by simp [List.getD_eq_getElem?_getD, List.getElem?_drop]
theorem getD_take (l : List α) (k i : Nat) (z : α) (h : i < k) : (l.take k).getD i z = l.getD i z := by simp [List.getD_eq_getElem?_getD, List.getElem?_take, h]
end

end Go.Proofs.YtiaenejafpbfkaaDoor.Sx

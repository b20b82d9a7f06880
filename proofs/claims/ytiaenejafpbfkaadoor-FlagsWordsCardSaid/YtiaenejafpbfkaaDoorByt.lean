/- Bytes as numbers; entries: data. -/
import Derived.Test.YtiaenejafpbfkaaDoorDat
import Derived.Test.YtiaenejafpbfkaaDoorSxy
namespace Go.Proofs.YtiaenejafpbfkaaDoor
open Go Go.Proofs.YtiaenejafpbfkaaDoor.Sx
set_option linter.unusedVariables false
set_option linter.unusedSimpArgs false

def isBytes (l : List Int) : Prop := ∀ x ∈ l, 0 ≤ x ∧ x < 256
theorem byte_at {l : List Int} (h : isBytes l) {k : Nat} : 0 ≤ l.getD k 0 ∧ l.getD k 0 < 256 := by
  rw [List.getD_eq_getElem?_getD]
  by_cases hk : k < l.length
  · rw [List.getElem?_eq_getElem hk]; exact h _ (List.getElem_mem hk)
  · rw [List.getElem?_eq_none (by omega)]; simp
theorem rest_of {x : Int} (h : 0 ≤ x ∧ x < 256) {m : Int} (hm : 0 < m) : 0 ≤ (IntKind.i64.wrap x).tmod m ∧ (IntKind.i64.wrap x).tmod m < m := by
  have : IntKind.i64.wrap x = x := by rw [IntKind.wrap_i64]; omega
  rw [this]
  exact ⟨Int.tmod_nonneg _ h.1, Int.tmod_lt_of_pos _ hm⟩
def byteI (l : Th (List Int)) : AV := .sl 1 (fun _ => (l .o).length) fun i => .cons (.int .u8 fun _ => (l .o).getD (i .o) 0) .nil
def intCh (a : Th Int) : AV := .cons (.int .i64 a) .nil

theorem wrap_byte {x : Int} (h : 0 ≤ x ∧ x < 256) : IntKind.i64.wrap x = x := by rw [IntKind.wrap_i64]; omega
/-- Behind a row of nothing. -/
theorem app_rows0 {α : Type} {bytes : Nat} {n m : Th Nat} {g gy : Th Nat → AV} {K : Th Nat → (Th Nat → AV) → Prop} (ch : Th α → AV) (z : α) (ys : List α) (hn : n .o = 0)
    (hm : m .o = ys.length) (hy : ∀ i, i < ys.length → gy (fun _ => i) = ch fun _ => ys.getD i z) (hroom : ys.length * bytes ≤ 140737488355328)
    (h : K (fun _ => ys.length) fun i => ch fun _ => ys.getD (i .o) z) : AppAt bytes n m g gy K :=
  app_rows ch z [] ys hn (fun i hi => absurd hi (Nat.not_lt_zero _)) hm hy (by simpa using hroom) h

structure Entry where
  path : List UInt8
  kind : Int
  mt : Meta
  data : List UInt8
  target : List UInt8
  major : Int
  minor : Int
def Entry.ch (e : Th Entry) : AV := .cons (.str fun _ => (e .o).path) (.cons (.int .i64 fun _ => (e .o).kind) ((Meta.ch fun _ => (e .o).mt).app
  (.cons (.str fun _ => (e .o).data) (.cons (.str fun _ => (e .o).target) (.cons (.int .i64 fun _ => (e .o).major) (.cons (.int .i64 fun _ => (e .o).minor) .nil))))))
def Entry.av (e : Th Entry) : AV := .agg (Entry.ch e)

end Go.Proofs.YtiaenejafpbfkaaDoor

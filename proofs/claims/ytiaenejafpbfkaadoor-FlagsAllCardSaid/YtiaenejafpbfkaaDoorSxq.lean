/- A symbolic executor for the model's code: what an append does to a row of one's own. -/
import Derived.Test.YtiaenejafpbfkaaDoorSxi
import Derived.Laws.AppendOwn
namespace Go.Proofs.YtiaenejafpbfkaaDoor.Sx
open Go
set_option linter.unusedSimpArgs false
set_option linter.unusedVariables false

def nilV : Value := .slice none 0 0
/-- v is a row of n elements of sz cells, in a block of its own, or nil. -/
def RowOk (w : World) (sz : Nat) (v : Value) (n : Nat) (xs : List Value) (b : Nat) : Prop :=
  (v = nilV ∧ n = 0 ∧ xs = []) ∨ ∃ cap cur e, v = .slice (some ⟨b, 0, none⟩) n cap ∧ Hs w b cur e ∧ n ≤ cap ∧ cap ≤ maxLen ∧ cur.length = cap * sz ∧ cur.take (n * sz) = xs
/-- Nothing but row b (if v is one) may have turned. -/
structure Grown (w w' : World) (v : Value) (b : Nat) : Prop where
  os : w'.os = w.os
  tape : w'.tape = w.tape
  output : w'.output = w.output
  size : w.heap.size ≤ w'.heap.size
  old : ∀ k, k < w.heap.size → (v ≠ nilV → k ≠ b) → w'.heap[k]? = w.heap[k]?

theorem heap_drew (w : World) (o : Obj) (k : Nat) (h : k < w.heap.size) : (w.drew.alloc o).heap[k]? = w.heap[k]? := alloc_old w.drew o h
theorem heap_drew_new (w : World) (o : Obj) : (w.drew.alloc o).heap[w.heap.size]? = some o := alloc_new w.drew o
theorem size_drew (w : World) (o : Obj) : (w.drew.alloc o).heap.size = w.heap.size + 1 := alloc_size w.drew o

section
variable {P : Program} {w : World}

theorem run_append_row {t ty e : TypeId} {i : TypeInfo} {z : Value} (ht : P.underlying t = some (.slice e)) (hi : P.info? e = some i) (hz : i.zero = some z) (hzs : z.cells.size = i.size)
    {v : Value} {n : Nat} {xs : List Value} {b : Nat} (hv : RowOk w i.size v n xs b) (hxl : xs.length = n * i.size) {yv : Value} {m : Nat} {news : List Value} (hl : news.length = m * i.size)
    (hy : (∃ a c, yv = .slice (some a) m c ∧ ∀ j u, news[j]? = some u → w.cell? (a.add j) = some u) ∨ (m = 0 ∧ ∃ c, yv = .slice none 0 c)) (h1 : ∀ u ∈ news, u.oneCell' = true) (hbytes : (n + m) * i.bytes ≤ 140737488355328) (hb : 0 < i.bytes) :
    ∃ v' w' b', (Builtin.append_ #[t, t] ty #[v, yv]).run P w = .ok v' w' ∧ RowOk w' i.size v' (n + m) (xs ++ news) b' ∧ Grown w w' v b ∧ (v' ≠ nilV → (v ≠ nilV ∧ b' = b) ∨ (w.heap.size ≤ b' ∧ b' < w'.heap.size)) := by
  have hnm : n + m ≤ 140737488355328 := Nat.le_trans (Nat.le_mul_of_pos_right _ hb) hbytes
  have h63 : n + m ≤ maxLen := by unfold maxLen; omega
  have hlen : (xs ++ news).length = (n + m) * i.size := by rw [List.length_append, hxl, hl, Nat.add_mul]
  have grown : ∀ (old : Nat), old < n + m →
      RowOk (w.drew.alloc (.cells (xs.toArray ++ news.toArray ++ Builtin.zeroCells z.cells (grownCap w (n + m) old e - (n + m))) e)) i.size (.slice (some ⟨w.heap.size, 0, none⟩) (n + m) (grownCap w (n + m) old e)) (n + m) (xs ++ news) w.heap.size ∧
      Grown w (w.drew.alloc (.cells (xs.toArray ++ news.toArray ++ Builtin.zeroCells z.cells (grownCap w (n + m) old e - (n + m))) e)) v b := by
    intro old ho
    have hge := grownCap_ge w (n + m) old e
    have hcm : grownCap w (n + m) old e ≤ maxLen := grownCap_le_maxLen w (n + m) old e h63
    refine ⟨.inr ⟨_, (xs.toArray ++ news.toArray ++ Builtin.zeroCells z.cells (grownCap w (n + m) old e - (n + m))).toList, e, rfl, Hs.mk0 (by rw [heap_drew_new]), hge, hcm, ?_, ?_⟩, ⟨rfl, rfl, rfl, by rw [size_drew]; omega, fun k hk _ => heap_drew w _ k hk⟩⟩
    · simp only [Array.length_toList, Array.size_append, List.size_toArray, size_zeroCells, hzs, hxl, hl, ← Nat.add_mul]
      congr 1
      omega
    · simp only [Array.toList_append, List.append_assoc]
      rw [← List.append_assoc, ← hlen]
      exact List.take_left
  rcases hy with ⟨a, c, rfl, hcell⟩ | ⟨rfl, c, rfl⟩
  · rcases hv with ⟨rfl, rfl, rfl⟩ | ⟨cap, cur, e', rfl, hg, hnc, hcm, hcs, htake⟩
    · by_cases hm : m = 0
      · subst hm
        have hn : news = [] := List.eq_nil_of_length_eq_zero (by simpa using hl)
        subst hn
        refine ⟨nilV, w, b, ?_, .inl ⟨rfl, rfl, rfl⟩, ⟨rfl, rfl, rfl, Nat.le_refl _, fun _ _ _ => rfl⟩, fun h => (h rfl).elim⟩
        simp [nilV, Builtin.append_, run_underlying ht, sizeOf, typeInfo, hi, Builtin.lenOf, Builtin.firstCells, loadCells, loadCellsFrom]
      · have hr := run_append_nil (P := P) w t ty e i z ht hi hz a m c news hl hcell (by omega) (by omega) (by simp only [Nat.zero_add] at hbytes; omega)
        have hgr := grown 0 (by omega)
        simp only [Nat.zero_add, List.nil_append, Array.empty_append] at hgr ⊢
        exact ⟨_, _, _, hr, hgr.1, hgr.2, fun _ => .inr ⟨Nat.le_refl _, by rw [size_drew]; omega⟩⟩
    · have hvn : (Value.slice (some ⟨b, 0, none⟩) n cap) ≠ nilV := by simp [nilV]
      by_cases hroom : n + m ≤ cap
      · have hfit : n * i.size + news.length ≤ cur.toArray.size := by rw [hl, List.size_toArray, hcs, ← Nat.add_mul]; exact Nat.mul_le_mul_right _ hroom
        have hf := run_firstCells_some (P := P) w i.size m a m c news hl hcell
        obtain ⟨fr, hgh, hsoft⟩ := hg.ex
        have hst := run_storeCells_soft P b (n * i.size) e' fr news 0 cur.toArray w hgh (by simpa using hsoft) (by simpa using hfit) h1
        simp only [Nat.add_zero] at hst
        refine ⟨.slice (some ⟨b, 0, none⟩) (n + m) cap, w.setRow b (cur.take (n * i.size) ++ news ++ cur.drop (n * i.size + news.length)).toArray, b, ?_, .inr ⟨cap, _, e', rfl, hg.setRow (by simp only [List.size_toArray] at hfit; simp only [List.length_append, List.length_take, List.length_drop]; omega), hroom, hcm, ?_, ?_⟩, ⟨rfl, rfl, rfl, by simp [World.setRow], fun k _ hk => setRow_other w b k _ (hk hvn)⟩, fun _ => .inl ⟨hvn, rfl⟩⟩
        · simp [Builtin.append_, run_underlying ht, sizeOf, typeInfo, hi, Builtin.lenOf, hroom, hf, Addr.add_lit, hst]
        · simp only [List.size_toArray] at hfit
          simp only [List.length_append, List.length_take, List.length_drop]
          omega
        · rw [htake, ← hlen]
          exact List.take_left
      · have holds : ∀ j u, xs[j]? = some u → w.cell? ((⟨b, 0, none⟩ : Addr).add j) = some u := by
          intro j u hj
          rw [addr_add, Nat.zero_add, hg.cell]
          rw [← htake, List.getElem?_take] at hj
          split at hj
          · exact hj
          · cases hj
        have hr := run_append_grow (P := P) w t ty e i z ht hi hz ⟨b, 0, none⟩ n cap xs hxl holds a m c news hl hcell (by omega) (by omega) (growslice_fits (by omega) hbytes)
        have hgr := grown cap (by omega)
        exact ⟨_, _, _, hr, hgr.1, hgr.2, fun _ => .inr ⟨Nat.le_refl _, by rw [size_drew]; omega⟩⟩
  · have hn : news = [] := List.eq_nil_of_length_eq_zero (by simpa using hl)
    subst hn
    rcases hv with ⟨rfl, rfl, rfl⟩ | ⟨cap, cur, e', rfl, hg, hnc, hcm, hcs, htake⟩
    · refine ⟨nilV, w, b, ?_, .inl ⟨rfl, rfl, rfl⟩, ⟨rfl, rfl, rfl, Nat.le_refl _, fun _ _ _ => rfl⟩, fun h => (h rfl).elim⟩
      simp [nilV, Builtin.append_, run_underlying ht, sizeOf, typeInfo, hi, Builtin.lenOf, Builtin.firstCells]
    · have hvn : (Value.slice (some ⟨b, 0, none⟩) n cap) ≠ nilV := by simp [nilV]
      refine ⟨.slice (some ⟨b, 0, none⟩) n cap, w, b, ?_, .inr ⟨cap, cur, e', rfl, hg, hnc, hcm, hcs, by simpa using htake⟩, ⟨rfl, rfl, rfl, Nat.le_refl _, fun _ _ _ => rfl⟩, fun _ => .inl ⟨hvn, rfl⟩⟩
      simp [Builtin.append_, run_underlying ht, sizeOf, typeInfo, hi, Builtin.lenOf, Builtin.firstCells, hnc, storeCells]
end

end Go.Proofs.YtiaenejafpbfkaaDoor.Sx

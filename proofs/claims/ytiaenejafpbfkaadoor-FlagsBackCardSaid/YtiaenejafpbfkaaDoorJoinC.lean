/- strings.Join: the kit's contract, brought over. -/
import Derived.Test.YtiaenejafpbfkaaDoorJn
import Derived.Test.YtiaenejafpbfkaaDoorSafe
namespace Go.Proofs.YtiaenejafpbfkaaDoor
open Go Go.Proofs.YtiaenejafpbfkaaDoor.Sx F
set_option linter.unusedVariables false
set_option linter.unusedSimpArgs false

theorem join_c (l : Th (List (List UInt8))) (sep : List UInt8) (hl : (l .o).length ≤ 1000000) (hj : (Lib.join (l .o) sep).length ≤ 140737488355328) {d : Nat} {K : ARes → BL → Prop} (hr : ∀ s : Th (List UInt8), s .o = Lib.join (l .o) sep → K (.ret (.str s)) .nil) :
    CallAt PT 42 [strs l, .str fun _ => sep] d .nil K := by
  refine CallAt.of_below (by kernel_rfl) fun E vs hb hv => ?_
  obtain ⟨v1, r1, rfl, h1, v2, r2, rfl, h2, rfl⟩ : ∃ v1 r1, vs = v1 :: r1 ∧ Rp E (strs l) v1 ∧ ∃ v2 r2, r1 = v2 :: r2 ∧ Rp E (.str fun _ => sep) v2 ∧ r2 = [] := hv
  obtain rfl : v2 = .string ⟨sep.toArray⟩ := h2
  obtain ⟨ad, cap, rfl, hcap, hc⟩ : ∃ ad cap, v1 = .slice ad (l .o).length cap ∧ (l .o).length ≤ cap ∧ ∀ i, i < (l .o).length → ((strCh fun _ => (l .o).getD i []).okE ∧ (strCh fun _ => (l .o).getD i []).len = 1) ∧ ∃ b o, ad = some ⟨b, o, none⟩ ∧ MemC E (strCh fun _ => (l .o).getD i []) b (o + i * 1) := h1
  rcases Nat.eq_zero_or_pos (l .o).length with h0 | h0
  · rw [h0]
    refine (Tryd.strings_Join_none ad cap ⟨sep.toArray⟩ E.w).mono ?_
    rintro e w' ⟨rfl, rfl⟩
    have he : l .o = [] := List.eq_nil_of_length_eq_zero h0
    exact ⟨.ret (.str fun _ => Lib.join (l .o) sep), rfl, by rw [he]; rfl, hr _ rfl, RowKit.Below.refl _ _⟩
  · obtain ⟨_, b, o, rfl, hm⟩ := hc 0 h0
    have hbb : b < E.w.heap.size := by
      obtain ⟨⟨v, _, hi, _⟩, _⟩ := hm
      exact hb _ _ hi
    have hmap : ((l .o).map fun p => (⟨p.toArray⟩ : ByteArray)).map (·.data.toList) = l .o := by
      rw [List.map_map]
      have : ((fun x : ByteArray => x.data.toList) ∘ fun p : List UInt8 => (⟨p.toArray⟩ : ByteArray)) = id := by funext p; simp
      rw [this, List.map_id]
    have key := Tryd.strings_Join b o cap ((l .o).map fun p => (⟨p.toArray⟩ : ByteArray)) ⟨sep.toArray⟩ E.w (fun j x hx => by
      rw [List.getElem?_map] at hx
      have hjl : j < (l .o).length := by
        rcases Nat.lt_or_ge j (l .o).length with q | q
        · exact q
        · rw [List.getElem?_eq_none q] at hx; cases hx
      rw [List.getElem?_eq_getElem hjl] at hx
      obtain rfl : (⟨((l .o)[j]).toArray⟩ : ByteArray) = x := Option.some.inj hx
      obtain ⟨_, b', o', e, hm'⟩ := hc j hjl
      cases e
      obtain ⟨⟨u1, k1, _, q1⟩, _⟩ := hm'
      obtain rfl : u1 = .string ⟨((l .o).getD j []).toArray⟩ := q1
      rw [Nat.mul_one] at k1
      rw [k1, List.getD_eq_getElem?_getD, List.getElem?_eq_getElem hjl]; rfl) hbb (by rw [List.length_map]; omega) (by rw [List.length_map]; exact hcap) (by rw [hmap]; exact hj)
    rw [List.length_map, hmap] at key
    refine key.mono ?_
    rintro e w' ⟨rfl, hbl⟩
    exact ⟨.ret (.str fun _ => Lib.join (l .o) sep), rfl, rfl, hr _ rfl, hbl⟩
end Go.Proofs.YtiaenejafpbfkaaDoor

/- Texts laid together: Ins, InsC, Xq, Xr, Xt, Xv, Xy, Xz. -/
import Derived.Shelf.Spec.SlicesInsertGrow
import Derived.Deep.RegionLaw
import Derived.Test.YtjjddmbnfkmfdaaXC4
/- slices.Insert of one name with its value, at the machine's level. -/
namespace Go.Proofs.Ytjjddmbnfkmfdaa
open Go Go.RowKit Go.Shelf Go.Lib
open Go.Proofs.Ytjjddmbnfkmfdaa.Sx F
set_option linter.unusedVariables false
set_option linter.unusedSimpArgs false
theorem run_copy_soft {P : Program} {w : World} {dT sT ty elem : TypeId} {i : TypeInfo} (hu : P.underlying dT = some (.slice elem)) (hi : P.info? elem = some i) (b o dLen dCap : Nat) (a : Addr) (sLen sCap : Nat) (cs : List Value) (hn : cs.length = Nat.min sLen dLen * i.size)
    (hsrc : ∀ j v, cs[j]? = some v → w.cell? (a.add j) = some v) {cur : Array Value} {t : TypeId} {fr : Nat × Nat} (hg : w.heap[b]? = some (.cells cur t fr)) (hs : Soft0 cur.size fr) (hf : o + cs.length ≤ cur.size) (h1 : ∀ v ∈ cs, v.oneCell' = true) :
    (Builtin.copy_ #[dT, sT] ty #[.slice (some ⟨b, o, none⟩) dLen dCap, .slice (some a) sLen sCap]).run P w = .ok (goInt (Nat.min sLen dLen)) (w.setRow b (cur.toList.take o ++ cs ++ cur.toList.drop (o + cs.length)).toArray) := by
  have hl := run_firstCells_some (P := P) w i.size (Nat.min sLen dLen) a sLen sCap cs hn hsrc
  have hst := run_storeCells_soft P b o t fr cs 0 cur w hg hs (by simpa using hf) h1
  simp only [Nat.add_zero] at hst
  simp [Builtin.copy_, run_underlying hu, Builtin.lenOf, sizeOf, typeInfo, hi, hl, hst]
theorem insInfo : ∃ i, Try.prog.info? 42 = some i ∧ i.zero = some (.agg #[.string ⟨#[]⟩, .string ⟨#[]⟩]) ∧ i.size = 2 ∧ i.bytes = 32 := info_parts (by kernel_rfl)
/-- How a call ends that has made xs of a row. -/
structure InsR (w : World) (v : Value) (b m : Nat) (xs : List Value) (e : Ending) (w' : World) : Prop where
  ex : ∃ v' b', e = .returned v' ∧ RowOk w' 2 v' m xs b' ∧ Sx.Grown w w' v b ∧ (v' ≠ nilV → (v ≠ nilV ∧ b' = b) ∨ (w.heap.size ≤ b' ∧ b' < w'.heap.size))
set_option maxHeartbeats 4000000 in
set_option maxRecDepth 100000 in
theorem ins_end (v : Value) (n : Nat) (xs : List Value) (b : Nat) (w : World) (hv : RowOk w 2 v n xs b) (hxl : xs.length = n * 2) (a : Addr) (vc : Nat) (vs : List Value) (hvl : vs.length = 2) (hvs : ∀ j u, vs[j]? = some u → w.cell? (a.add j) = some u) (h1v : ∀ u ∈ vs, u.oneCell' = true) (hn : n ≤ 1000) :
    Calls Try.prog insF #[v, .int .i64 n, .slice (some a) 1 vc] w (InsR w v b (n + 1) (xs ++ vs)) := by
  obtain ⟨i0, hi, hz, hs, hb⟩ := insInfo
  have key := fun ty => run_append_row (P := Try.prog) (w := w) (ty := ty) Try.underlying22 hi hz (by rw [hs]; rfl) (v := v) (n := n) (xs := xs) (b := b) (by rw [hs]; exact hv) (by rw [hs]; exact hxl) (yv := .slice (some a) 1 vc) (m := 1) (news := vs) (by rw [hs]; exact hvl)
    (.inl ⟨a, vc, rfl, hvs⟩) h1v (by rw [hb]; omega) (by omega)
  rw [hs] at key
  unfold insF
  obtain ⟨v', w', b', hrun, hrow, hgr, hnew⟩ := key 22
  have hfin : InsR w v b (n + 1) (xs ++ vs) (.returned v') w' := ⟨_, _, rfl, hrow, hgr, hnew⟩
  clear hrow hgr hnew key
  rcases hv with ⟨rfl, rfl, rfl⟩ | ⟨cap, cur, e', rfl, hg, hnc, hcm, hcs, htake⟩
  · unfold nilV at hrun hfin ⊢
    go_enter Try.func26, Try.ntmps26
    go_wp2_with (at_builtin; refine Lib.wpList_append_run _ rfl _ _ _ _ rfl _ _ rfl rfl _ _ hrun ?_)
    go_ret
    exact hfin
  · go_enter Try.func26, Try.ntmps26
    go_wp2_with (at_builtin; refine Lib.wpList_append_run _ rfl _ _ _ _ rfl _ _ rfl rfl _ _ hrun ?_)
    · obtain rfl : cap = n := by assumption
      go_ret
      exact hfin
    · go_ret
      exact hfin
theorem run_overlaps_row {P : Program} (w : World) (tS tR e : TypeId) (ht : P.underlying tS = some (.slice e)) (size : Nat) (hz : ∀ w, (Go.sizeOf e).run P w = .ok size w)
    (a b : Addr) (la ca lb cb : Nat) (hne : a.block ≠ b.block) (tA tB : TypeId) (kA kB : Nat) (hsa : w.shape? a.block = some (tA, kA)) (hsb : w.shape? b.block = some (tB, kB)) (hkA : kA ≠ 0) (hkB : kB ≠ 0)
    (hfb : w.frozen? b = false) (hfe : w.frozen? { block := b.block, off := kB } = false) :
    (Extern.SlicesOverlaps.overlaps #[tS, tS] #[tR] #[.slice (some a) la ca, .slice (some b) lb cb]).run P w = .ok (.bool false) w := by
  have hnb : (a.block != b.block) = true := by simpa using hne
  have hnb' : (a.block == b.block) = false := by simpa using hne
  change Sem.run P (α := Value) (do
    let some t := (#[tS, tS] : Array TypeId)[0]? | stuck "slices.overlaps: no parameter types"
    let .slice elem ← underlying t | stuck "slices.overlaps: slice type expected"
    let size ← sizeOf elem
    match (some a : Option Addr), (some b : Option Addr) with
    | some a, some b =>
      if la = 0 ∨ lb = 0 ∨ size = 0 then pure (Value.bool false)
      else if a.block != b.block && (← frozen a) && (← frozen b) then unsupported .addressObserved
      else do
        if a.block != b.block then do
          noView a; noView b
          if ← mayBeOne a b then return Value.bool ((← choose (.extern "sameAddr.stringBytes" 2)) == 1)
        pure (Value.bool (a.block == b.block && a.off < b.off + lb * size && b.off < a.off + la * size))
    | _, _ => pure (Value.bool false)) w = _
  by_cases h0 : la = 0 ∨ lb = 0 ∨ size = 0
  · simp [run_underlying ht, hz, h0]
  · cases kB with
    | zero => exact absurd rfl hkB
    | succ kB =>
      obtain ⟨k, rfl⟩ : ∃ k, kA = k + 1 := ⟨kA - 1, by omega⟩
      cases hfa : w.frozen? a <;> simp [run_underlying ht, hz, h0, hnb, hnb', frozen, noView, viewAt, mayBeOne, stringish, shape, Sem.run, hsa, hsb, hfa, hfb, hfe]
theorem shape_row {w : World} {b : Nat} {cur : Array Value} {t : TypeId} {fr : Nat × Nat} (h : w.heap[b]? = some (.cells cur t fr)) : w.shape? b = some (t, cur.size) := by simp [World.shape?, h]
theorem cells_block {w : World} {b o : Nat} {v : Value} (h : w.cell? ⟨b, o, none⟩ = some v) : ∃ cur t fr, w.heap[b]? = some (.cells cur t fr) ∧ o < cur.size := by
  unfold World.cell? at h
  simp only at h
  split at h
  · rename_i cur t fr hq
    exact ⟨cur, t, fr, hq, (Array.getElem?_eq_some_iff.1 h).1⟩
  · cases h
theorem froz_off {w : World} {b : Nat} {cur : Array Value} {t : TypeId} {fr : Nat × Nat} (h : w.heap[b]? = some (.cells cur t fr)) (hs : fr.1 = fr.2) (o : Nat) : w.frozen? ⟨b, o, none⟩ = false := by
  obtain ⟨lo, hi⟩ := fr
  simp only at hs
  subst hs
  simp only [World.frozen?, h, Bool.and_eq_false_iff, decide_eq_false_iff_not]
  omega
set_option maxHeartbeats 4000000 in
set_option maxRecDepth 100000 in
theorem ins_shift (n i cap : Nat) (cur : List Value) (e' : TypeId) (b : Nat) (w : World) (hg : Hs w b cur e' 2) (hnc : n < cap) (hcm : cap ≤ maxLen) (hcs : cur.length = cap * 2) (hin : i < n) (h1c : ∀ u ∈ cur.take (n * 2), u.oneCell' = true)
    (vb vo vc : Nat) (vs : List Value) (hvl : vs.length = 2) (hvs : ∀ j u, vs[j]? = some u → w.cell? ⟨vb, vo + j, none⟩ = some u) (h1v : ∀ u ∈ vs, u.oneCell' = true) (hn : n ≤ 1000) (hvb : vb ≠ b) :
    Calls Try.prog insF #[.slice (some ⟨b, 0, none⟩) n cap, .int .i64 i, .slice (some ⟨vb, vo, none⟩) 1 vc] w (InsR w (.slice (some ⟨b, 0, none⟩) n cap) b (n + 1) ((cur.take (n * 2)).take (i * 2) ++ vs ++ (cur.take (n * 2)).drop (i * 2))) := by
  obtain ⟨i0, hi, hz, hs, hb⟩ := insInfo
  obtain ⟨fr, hgh, hsoft⟩ := hg.ex
  have hfr : fr.1 = fr.2 := hsoft.resolve_right (fun q => by have := q.1; omega)
  have hsz : ∀ w, (Go.sizeOf 42).run Try.prog w = .ok 2 w := fun w => by simp [Go.sizeOf, typeInfo, hi, hs]
  have hut := Try.underlying22
  obtain ⟨cv, tv', frv, hvh, hvo⟩ := cells_block (hvs 0 _ (List.getElem?_eq_getElem (by omega)))
  have hcl : cur.toArray.size = cap * 2 := by simpa using hcs
  have hov : ∀ lb cb, (callFunc 43 #[.slice (some ⟨vb, vo, none⟩) 1 vc, .slice (some ⟨b, (i + 1) * 2, none⟩) lb cb]).run Try.prog w = .ok (.value (.bool false)) w := fun lb cb => by
    rw [run_callFunc_extern Try.func43 (by kernel_rfl) (by kernel_rfl) (by kernel_rfl) (e := Extern.SlicesOverlaps.overlaps #[22, 22] #[4]) (by kernel_rfl),
      run_overlaps_row w 22 4 42 hut 2 hsz ⟨vb, vo, none⟩ ⟨b, (i + 1) * 2, none⟩ 1 vc lb cb hvb _ _ _ _ (shape_row hvh) (shape_row hgh) (by omega) (by omega) (froz_off hgh hfr _) (froz_off hgh hfr _)]
    rfl
  obtain ⟨cs1, hcs1⟩ : ∃ cs1, cs1 = (cur.drop (i * 2)).take ((n - i) * 2) := ⟨_, rfl⟩
  have hl1 : cs1.length = (n - i) * 2 := by rw [hcs1, List.length_take, List.length_drop]; omega
  have h1s : ∀ u ∈ cs1, u.oneCell' = true := fun u hu => h1c u (by
    rw [hcs1] at hu
    have e : (cur.drop (i * 2)).take ((n - i) * 2) = (cur.take (n * 2)).drop (i * 2) := by rw [List.drop_take, Nat.sub_mul]
    rw [e] at hu
    exact List.mem_of_mem_drop hu)
  have hcp1 : ∀ ty dc sc, (Builtin.copy_ #[22, 22] ty #[.slice (some ⟨b, (i + 1) * 2, none⟩) (n - i) dc, .slice (some ⟨b, i * 2, none⟩) (n + 1 - i) sc]).run Try.prog w.drew = .ok (goInt ((n - i : Nat) : Int)) (w.drew.setRow b (cur.take ((i + 1) * 2) ++ cs1 ++ cur.drop ((i + 1) * 2 + cs1.length)).toArray) := fun ty dc sc => by
    have hm : Nat.min (n + 1 - i) (n - i) = n - i := by simp only [Nat.min_def]; split <;> omega
    have h := run_copy_soft (P := Try.prog) (w := w.drew) (dT := 22) (sT := 22) (ty := ty) hut hi b ((i + 1) * 2) (n - i) dc ⟨b, i * 2, none⟩ (n + 1 - i) sc cs1 (by rw [hm, hs, hl1]) (fun j v hj => by
      rw [addr_add]
      show w.cell? _ = _
      rw [hg.cell]
      rw [hcs1, List.getElem?_take] at hj
      split at hj
      · rw [List.getElem?_drop] at hj; exact hj
      · cases hj) (cur := cur.toArray) (t := e') (fr := fr) hgh (.inl hfr) (by rw [hcl, hl1]; omega) h1s
    rw [hm] at h
    exact h
  obtain ⟨cur1, hcur1⟩ : ∃ cur1, cur1 = cur.take ((i + 1) * 2) ++ cs1 ++ cur.drop ((i + 1) * 2 + cs1.length) := ⟨_, rfl⟩
  rw [← hcur1] at hcp1
  have hl2 : cur1.length = cap * 2 := by rw [hcur1]; simp only [List.length_append, List.length_take, List.length_drop]; omega
  obtain ⟨W1, hW1⟩ : ∃ W1, W1 = w.drew.setRow b cur1.toArray := ⟨_, rfl⟩
  rw [← hW1] at hcp1
  have hg1 : W1.heap[b]? = some (.cells cur1.toArray e' fr) := by rw [hW1]; exact setRow_heap w.drew b _ _ e' fr hgh
  have hcp2 : ∀ ty dc, (Builtin.copy_ #[22, 22] ty #[.slice (some ⟨b, i * 2, none⟩) (n + 1 - i) dc, .slice (some ⟨vb, vo, none⟩) 1 vc]).run Try.prog W1 = .ok (goInt 1) (W1.setRow b (cur1.take (i * 2) ++ vs ++ cur1.drop (i * 2 + vs.length)).toArray) := fun ty dc => by
    have hm : Nat.min 1 (n + 1 - i) = 1 := by simp only [Nat.min_def]; split <;> omega
    have h := run_copy_soft (P := Try.prog) (w := W1) (dT := 22) (sT := 22) (ty := ty) hut hi b (i * 2) (n + 1 - i) dc ⟨vb, vo, none⟩ 1 vc vs (by rw [hm, hs, hvl]) (fun j v hj => by
      rw [addr_add, ← hvs j v hj]
      refine World.cell?_of_block (w := w) ?_
      show W1.heap[vb]? = _
      rw [hW1]
      exact setRow_other w.drew b vb _ hvb) (cur := cur1.toArray) (t := e') (fr := fr) hg1 (.inl hfr) (by simp only [List.size_toArray]; omega) h1v
    rw [hm] at h
    exact h
  have hw1 : IntKind.i64.wrap ((i : Int) + 1) = (i : Int) + 1 := by rw [IntKind.wrap_i64]; omega
  have hw2 : IntKind.i64.wrap ((n : Int) + 1) = (n : Int) + 1 := by rw [IntKind.wrap_i64]; omega
  have hb1 : (0 : Int) ≤ (i : Int) + 1 := by omega
  have htn : ((i : Int) + 1).toNat = i + 1 := by omega
  have htn2 : ((n : Int) + 1).toNat = n + 1 := by omega
  have hz2 : ¬ ((i : Int) = (n : Int)) := by omega
  have hb2 : ¬ (cap = i + 1) := by omega
  have hb3 : (i : Int) ≤ (n : Int) + 1 := by omega
  have hb4 : ¬ (cap = i) := by omega
  have hinle : i ≤ n := by omega
  have hcm' : cap ≤ 9223372036854775807 := by unfold maxLen at hcm; omega
  have hfin : InsR w (.slice (some ⟨b, 0, none⟩) n cap) b (n + 1) ((cur.take (n * 2)).take (i * 2) ++ vs ++ (cur.take (n * 2)).drop (i * 2)) (.returned (.slice (some ⟨b, 0, none⟩) (n + 1) cap)) (W1.setRow b (cur1.take (i * 2) ++ vs ++ cur1.drop (i * 2 + vs.length)).toArray) := by
    have hvn : (Value.slice (some ⟨b, 0, none⟩) n cap) ≠ nilV := by simp [nilV]
    have hlen2 : (cur1.take (i * 2) ++ vs ++ cur1.drop (i * 2 + vs.length)).length = cap * 2 := by simp only [List.length_append, List.length_take, List.length_drop]; omega
    refine ⟨_, b, rfl, .inr ⟨cap, _, e', rfl, ⟨fr, setRow_heap W1 b _ _ e' fr hg1, .inl hfr⟩, by omega, hcm, hlen2, ?_⟩, ⟨by rw [hW1]; rfl, by rw [hW1]; rfl, by rw [hW1]; rfl, by rw [hW1]; simp [World.setRow], fun k hk hne => ?_⟩, fun _ => .inl ⟨hvn, rfl⟩⟩
    · have e1 : cur1.take (i * 2) = cur.take (i * 2) := by
        rw [hcur1, List.append_assoc, List.take_append_of_le_length (by rw [List.length_take]; omega), List.take_take, Nat.min_eq_left (by omega)]
      have e2 : cur1.drop (i * 2 + vs.length) = cs1 ++ cur.drop ((i + 1) * 2 + cs1.length) := by
        have e3 : (cur.take ((i + 1) * 2)).length = i * 2 + vs.length := by rw [List.length_take]; omega
        rw [hcur1, List.append_assoc, ← e3, List.drop_left]
      have e4 : (cur.take (n * 2)).drop (i * 2) = cs1 := by rw [hcs1, List.drop_take, Nat.sub_mul]
      rw [e1, e2, e4, List.take_take, Nat.min_eq_left (by omega : i * 2 ≤ n * 2), ← List.append_assoc]
      exact List.take_left' (by simp only [List.length_append, List.length_take]; omega)
    · rw [setRow_other W1 b k _ (hne hvn), hW1]
      exact setRow_other w.drew b k _ (hne hvn)
  generalize (cur.take (n * 2)).take (i * 2) ++ vs ++ (cur.take (n * 2)).drop (i * 2) = XS at hfin ⊢
  generalize (cur1.take (i * 2) ++ vs ++ cur1.drop (i * 2 + vs.length)).toArray = cur2 at hfin hcp2
  clear hcs1 hcur1 hg1 h1s
  subst hW1
  unfold insF
  go_enter Try.func26, Try.ntmps26
  go_wp2_with (simp only [hov])
  go_region_law (refine step_copy_runI rfl _ _ 22 22 rfl _ _ (by simp [Act.eval, Act.put]) (by simp [Act.eval, Act.put]) (hcp1 _ _ _) ?_)
  go_wp2_with (at_builtin; refine wpList_copy_runI _ rfl _ _ 22 22 rfl _ _ rfl rfl (hcp2 _ _) ?_)
  go_ret
  exact hfin
set_option maxHeartbeats 4000000 in
set_option maxRecDepth 100000 in
theorem ins_grow (n i cap : Nat) (cur : List Value) (e' : TypeId) (b : Nat) (w : World) (hg : Hs w b cur e' 2) (hnc : n ≤ cap) (hcn : cap < n + 1) (hcs : cur.length = cap * 2) (hin : i < n) (h1c : ∀ u ∈ cur.take (n * 2), u.oneCell' = true)
    (vb vo vc : Nat) (vs : List Value) (hvl : vs.length = 2) (hvs : ∀ j u, vs[j]? = some u → w.cell? ⟨vb, vo + j, none⟩ = some u) (h1v : ∀ u ∈ vs, u.oneCell' = true) (hn : n ≤ 1000) :
    Calls Try.prog insF #[.slice (some ⟨b, 0, none⟩) n cap, .int .i64 i, .slice (some ⟨vb, vo, none⟩) 1 vc] w (InsR w (.slice (some ⟨b, 0, none⟩) n cap) b (n + 1) ((cur.take (n * 2)).take (i * 2) ++ vs ++ (cur.take (n * 2)).drop (i * 2))) := by
  obtain ⟨i0, hi, hz, hs, hb⟩ := insInfo
  have hut := Try.underlying22
  have hut3 := Try.underlying3
  have hbw := hg.lt
  obtain ⟨cv, tv', frv, hvh, hvo⟩ := cells_block (hvs 0 _ (List.getElem?_eq_getElem (by omega)))
  have hvw : vb < w.heap.size := (Array.getElem?_eq_some_iff.1 hvh).1
  have hkk : (n : Int) + 1 - (i : Int) = ((n + 1 - i : Nat) : Int) := by omega
  have hik : i + (n + 1 - i) = n + 1 := by omega
  have hold : (Builtin.firstCells i0.size i (.slice (some ⟨b, 0, none⟩) i cap)).run Try.prog w.drew = .ok (cur.take (i * 2)).toArray w.drew := by
    rw [hs]
    exact run_firstCells_some w.drew 2 i ⟨b, 0, none⟩ i cap (cur.take (i * 2)) (by rw [List.length_take]; omega) (fun j v hj => by
      rw [addr_add, Nat.zero_add]
      show w.cell? _ = _
      rw [hg.cell]
      rw [List.getElem?_take] at hj
      split at hj
      · exact hj
      · cases hj)
  obtain ⟨G, hG⟩ : ∃ G, G = grownCap w (n + 1) cap 42 := ⟨_, rfl⟩
  obtain ⟨ROW, hROW⟩ : ∃ ROW : Array Value, ROW = (cur.take (i * 2)).toArray ++ Builtin.zeroCells (Value.agg #[.string ⟨#[]⟩, .string ⟨#[]⟩]).cells (n + 1 - i) ++ Builtin.zeroCells (Value.agg #[.string ⟨#[]⟩, .string ⟨#[]⟩]).cells (G - (n + 1)) := ⟨_, rfl⟩
  have hGn : n + 1 ≤ G := by rw [hG]; exact grownCap_ge w _ _ _
  have hGm : G ≤ maxLen := by rw [hG]; exact grownCap_le_maxLen w (n + 1) cap _ (by unfold maxLen; omega)
  have hG63 : G ≤ 9223372036854775807 := by unfold maxLen at hGm; omega
  have hRl : ROW.size = G * 2 := by
    have hz2 : (Value.agg #[.string ⟨#[]⟩, .string ⟨#[]⟩]).cells.size = 2 := rfl
    rw [hROW]
    simp only [Array.size_append, List.size_toArray, size_zeroCells, hz2, List.length_take]
    omega
  have hrz : ∀ ty, (Builtin.append_ #[22, 3] ty #[.slice (some ⟨b, 0, none⟩) i cap, .int .i64 ((n : Int) + 1 - (i : Int))]).run Try.prog w =
      .ok (.slice (some ⟨w.heap.size, 0, none⟩) (n + 1) G) ((w.alloc (.cells ROW 42)).drew) := fun ty => by
    have h := Lib.run_append_grow_zeros w 22 3 ty 42 i0 _ .i64 .i64 hut hut3 hi hz (some ⟨b, 0, none⟩) i cap (cur.take (i * 2)) hold (n + 1 - i) (by omega) (by omega) (by omega) (by omega) (by rw [hb]; omega) (by rw [hb, hik]; exact growslice_fits hcn (by omega))
    rw [hik, ← hG, ← hROW] at h
    rw [hkk]
    exact h
  obtain ⟨cs1, hcs1⟩ : ∃ cs1, cs1 = (cur.drop (i * 2)).take ((n - i) * 2) := ⟨_, rfl⟩
  have hl1 : cs1.length = (n - i) * 2 := by rw [hcs1, List.length_take, List.length_drop]; omega
  have h1s : ∀ u ∈ cs1, u.oneCell' = true := fun u hu => h1c u (by
    rw [hcs1] at hu
    have e : (cur.drop (i * 2)).take ((n - i) * 2) = (cur.take (n * 2)).drop (i * 2) := by rw [List.drop_take, Nat.sub_mul]
    rw [e] at hu
    exact List.mem_of_mem_drop hu)
  obtain ⟨W1, hW1⟩ : ∃ W1, W1 = (w.alloc (.cells ROW 42)).drew := ⟨_, rfl⟩
  have hold1 : ∀ k, k < w.heap.size → W1.heap[k]? = w.heap[k]? := fun k hk => by rw [hW1]; exact Lib.alloc_old w _ k hk
  have hnew1 : W1.heap[w.heap.size]? = some (.cells ROW 42 (0, 0)) := by rw [hW1]; exact heap_alloc_new w _
  obtain ⟨row1, hrow1⟩ : ∃ row1 : List Value, row1 = ROW.toList.take (i * 2) ++ vs ++ ROW.toList.drop (i * 2 + vs.length) := ⟨_, rfl⟩
  have hr1l : row1.length = G * 2 := by rw [hrow1]; simp only [List.length_append, List.length_take, List.length_drop, Array.length_toList]; omega
  have hcpA : ∀ ty dc, (Builtin.copy_ #[22, 22] ty #[.slice (some ⟨w.heap.size, i * 2, none⟩) (n + 1 - i) dc, .slice (some ⟨vb, vo, none⟩) 1 vc]).run Try.prog W1 = .ok (goInt 1) (W1.setRow w.heap.size row1.toArray) := fun ty dc => by
    have hm : Nat.min 1 (n + 1 - i) = 1 := by simp only [Nat.min_def]; split <;> omega
    have h := run_copy_soft (P := Try.prog) (w := W1) (dT := 22) (sT := 22) (ty := ty) hut hi w.heap.size (i * 2) (n + 1 - i) dc ⟨vb, vo, none⟩ 1 vc vs (by rw [hm, hs, hvl]) (fun j v hj => by
      rw [addr_add, ← hvs j v hj]
      exact World.cell?_of_block (w := w) (hold1 vb hvw)) hnew1 (.inl rfl) (by omega) h1v
    rw [hm, ← hrow1] at h
    exact h
  obtain ⟨W2, hW2⟩ : ∃ W2, W2 = (W1.setRow w.heap.size row1.toArray).drew := ⟨_, rfl⟩
  have hold2 : ∀ k, k < w.heap.size → W2.heap[k]? = w.heap[k]? := fun k hk => by
    rw [hW2]
    exact (setRow_other W1 w.heap.size k _ (by omega)).trans (hold1 k hk)
  have hnew2 : W2.heap[w.heap.size]? = some (.cells row1.toArray 42 (0, 0)) := by rw [hW2]; exact setRow_heap W1 w.heap.size _ _ _ _ hnew1
  obtain ⟨row2, hrow2⟩ : ∃ row2 : List Value, row2 = row1.take ((i + 1) * 2) ++ cs1 ++ row1.drop ((i + 1) * 2 + cs1.length) := ⟨_, rfl⟩
  have hr2l : row2.length = G * 2 := by rw [hrow2]; simp only [List.length_append, List.length_take, List.length_drop]; omega
  have hcpB : ∀ ty dc sc, (Builtin.copy_ #[22, 22] ty #[.slice (some ⟨w.heap.size, (i + 1) * 2, none⟩) (n - i) dc, .slice (some ⟨b, i * 2, none⟩) (n - i) sc]).run Try.prog W2 = .ok (goInt ((n - i : Nat) : Int)) (W2.setRow w.heap.size row2.toArray) := fun ty dc sc => by
    have hm : Nat.min (n - i) (n - i) = n - i := by simp only [Nat.min_def]; split <;> omega
    have h := run_copy_soft (P := Try.prog) (w := W2) (dT := 22) (sT := 22) (ty := ty) hut hi w.heap.size ((i + 1) * 2) (n - i) dc ⟨b, i * 2, none⟩ (n - i) sc cs1 (by rw [hm, hs, hl1]) (fun j v hj => by
      rw [addr_add]
      refine (World.cell?_of_block (w := w) (hold2 b hbw)).trans ?_
      rw [hg.cell]
      rw [hcs1, List.getElem?_take] at hj
      split at hj
      · rw [List.getElem?_drop] at hj; exact hj
      · cases hj) hnew2 (.inl rfl) (by simp only [List.size_toArray]; omega) h1s
    rw [hm] at h
    rw [hrow2]
    exact h
  have hfin : InsR w (.slice (some ⟨b, 0, none⟩) n cap) b (n + 1) ((cur.take (n * 2)).take (i * 2) ++ vs ++ (cur.take (n * 2)).drop (i * 2)) (.returned (.slice (some ⟨w.heap.size, 0, none⟩) (n + 1) G)) (W2.setRow w.heap.size row2.toArray) := by
    have hsz2 : W2.heap.size = w.heap.size + 1 := by rw [hW2, hW1]; simp [World.setRow]
    refine ⟨_, w.heap.size, rfl, .inr ⟨G, row2, _, rfl, Hs.mk0 (setRow_heap W2 w.heap.size _ _ _ _ hnew2), hGn, hGm, hr2l, ?_⟩, ⟨by rw [hW2, hW1]; rfl, by rw [hW2, hW1]; rfl, by rw [hW2, hW1]; rfl, by simp [World.setRow, hsz2], fun k hk _ => (setRow_other W2 w.heap.size k _ (by omega)).trans (hold2 k hk)⟩, fun _ => .inr ⟨Nat.le_refl _, by simp [World.setRow, hsz2]⟩⟩
    have e0 : ROW.toList.take (i * 2) = cur.take (i * 2) := by
      rw [hROW]
      simp only [Array.toList_append, List.append_assoc]
      exact List.take_left' (by rw [List.length_take]; omega)
    have e1 : row1.take ((i + 1) * 2) = cur.take (i * 2) ++ vs := by
      rw [hrow1, e0]
      exact List.take_left' (by simp only [List.length_append, List.length_take]; omega)
    have e4 : (cur.take (n * 2)).drop (i * 2) = cs1 := by rw [hcs1, List.drop_take, Nat.sub_mul]
    rw [hrow2, e1, e4, List.take_take, Nat.min_eq_left (by omega : i * 2 ≤ n * 2)]
    exact List.take_left' (by simp only [List.length_append, List.length_take]; omega)
  generalize (cur.take (n * 2)).take (i * 2) ++ vs ++ (cur.take (n * 2)).drop (i * 2) = XS at hfin ⊢
  have hz3 : (cap : Int) < (n : Int) + 1 := by omega
  have hw1 : IntKind.i64.wrap ((i : Int) + 1) = (i : Int) + 1 := by rw [IntKind.wrap_i64]; omega
  have hw2 : IntKind.i64.wrap ((n : Int) + 1) = (n : Int) + 1 := by rw [IntKind.wrap_i64]; omega
  have hw3 : IntKind.i64.wrap ((n : Int) + 1 - (i : Int)) = (n : Int) + 1 - (i : Int) := by rw [IntKind.wrap_i64]; omega
  have hb1 : (0 : Int) ≤ (i : Int) + 1 := by omega
  have htn : ((i : Int) + 1).toNat = i + 1 := by omega
  have hz2 : ¬ ((i : Int) = (n : Int)) := by omega
  have hb2 : ¬ (G = i + 1) := by omega
  have hb3 : (i : Int) ≤ (n : Int) + 1 := by omega
  have hb4 : ¬ (cap = i) := by omega
  have hb5 : ¬ (G = i) := by omega
  have hb6 : (i : Int) ≤ (n : Int) := by omega
  have hinle : i ≤ n := by omega
  have hcm' : cap ≤ 9223372036854775807 := by omega
  clear hrow1 hrow2 hROW hG hkk hik hold hnew1 hnew2 hold1 hold2 hRl hcs1
  subst hW2
  subst hW1
  generalize row1.toArray = A1 at hcpA hcpB hfin
  generalize row2.toArray = A2 at hcpB hfin
  unfold insF
  go_enter Try.func26, Try.ntmps26
  go_wp2_with (first
    | (at_builtin; refine Lib.wpList_append_run _ rfl _ _ _ _ rfl _ _ rfl rfl _ _ (hrz _) ?_)
    | (at_builtin; refine wpList_copy_runI _ rfl _ _ 22 22 rfl _ _ rfl rfl (hcpA _ _) ?_))
  go_region_law (refine step_copy_runI rfl _ _ 22 22 rfl _ _ (by simp [Act.eval, Act.put]) (by simp [Act.eval, Act.put]) (hcpB _ _ _) ?_)
  go_wp2
  go_ret
  exact hfin
end Go.Proofs.Ytjjddmbnfkmfdaa
/- slices.Insert of one name with its value: the contract. -/
namespace Go.Proofs.Ytjjddmbnfkmfdaa
open Go Go.Proofs.Ytjjddmbnfkmfdaa.Sx F
set_option linter.unusedVariables false
set_option linter.unusedSimpArgs false
theorem seg_ins {xs vs : List Value} {i j : Nat} (hv : vs.length = 2) (hi : i * 2 ≤ xs.length) (hj : (j + 1) * 2 ≤ xs.length + 2) :
    ((xs.take (i * 2) ++ vs ++ xs.drop (i * 2)).drop (j * 2)).take 2 = if j < i then (xs.drop (j * 2)).take 2 else if j = i then vs else (xs.drop ((j - 1) * 2)).take 2 := by
  have hl : (xs.take (i * 2)).length = i * 2 := by rw [List.length_take]; omega
  by_cases h1 : j < i
  · rw [if_pos h1, List.append_assoc, List.drop_append_of_le_length (by omega), List.take_append_of_le_length (by rw [List.length_drop]; omega), List.drop_take, List.take_take, Nat.min_eq_left (by omega)]
  · rw [if_neg h1]
    by_cases h2 : j = i
    · subst h2
      rw [if_pos rfl, List.append_assoc, List.drop_left' hl, List.take_left' hv]
    · rw [if_neg h2, List.drop_append, List.drop_eq_nil_of_le (by rw [List.length_append]; omega), List.nil_append, List.length_append, hl, hv, List.drop_drop]
      congr 2
      omega
theorem ins_c : InsC fun _ _ => True := by
  intro l i x m nn g gy iv K _ hil hl hm hg hiv hnn hgy hK
  have hll : (l.take i ++ x :: l.drop i).length = l.length + 1 := by simp only [List.length_append, List.length_take, List.length_cons, List.length_drop]; omega
  refine ⟨_, _, hK, fun E vs v xs b hI hvs hrow hxl hel => ?_⟩
  obtain ⟨u1, r1, rfl, hu1, u2, r2, rfl, hu2, hr2⟩ : ∃ u1 r1, vs = u1 :: r1 ∧ Rp E (.int .i64 iv) u1 ∧ ∃ u2 r2, r1 = u2 :: r2 ∧ Rp E (.sl 2 nn gy) u2 ∧ r2 = [] := hvs
  subst hr2
  obtain rfl : u1 = .int .i64 i := by rw [show u1 = _ from hu1, hiv]; rfl
  obtain ⟨a, vc, rfl, hvc, hmem⟩ := hu2
  obtain ⟨_, vb, vo, rfl, hmc⟩ := hmem 0 (by omega)
  rw [hgy, hnn] at *
  rw [Nat.zero_mul, Nat.add_zero] at hmc
  obtain ⟨⟨w1, c1, i1, p1⟩, ⟨w2, c2, i2, p2⟩, _⟩ := hmc
  obtain rfl : w1 = .string ⟨x.name.toArray⟩ := p1
  obtain rfl : w2 = .string ⟨x.value.toArray⟩ := p2
  rw [hm] at hrow hxl hel
  have hvs2 : ∀ j u, ([.string ⟨x.name.toArray⟩, .string ⟨x.value.toArray⟩] : List Value)[j]? = some u → E.w.cell? ⟨vb, vo + j, none⟩ = some u := fun j u hj => by
    match j, hj with
    | 0, hj => simp at hj; subst hj; exact c1
    | 1, hj => simp at hj; subst hj; exact c2
  have h1v : ∀ u ∈ ([.string ⟨x.name.toArray⟩, .string ⟨x.value.toArray⟩] : List Value), u.oneCell' = true := by
    intro u hu
    simp at hu
    rcases hu with rfl | rfl <;> rfl
  have h1c : ∀ u ∈ xs, u.oneCell' = true := rows_one hxl hel
  have hvne : v ≠ nilV → vb ≠ b := fun q => (hI vb vo i1).2 q
  obtain ⟨vv, hvv⟩ : ∃ vv, vv = ([.string ⟨x.name.toArray⟩, .string ⟨x.value.toArray⟩] : List Value) := ⟨_, rfl⟩
  rw [← hvv] at hvs2 h1v
  have hvl : vv.length = 2 := by rw [hvv]; rfl
  have key : Calls Try.prog insF #[v, .int .i64 i, .slice (some ⟨vb, vo, none⟩) 1 vc] E.w (InsR E.w v b (l.length + 1) (xs.take (i * 2) ++ vv ++ xs.drop (i * 2))) := by
    by_cases hin : i = l.length
    · subst hin
      have h := ins_end v l.length xs b E.w hrow hxl ⟨vb, vo, none⟩ vc vv hvl (fun j u hj => by rw [addr_add]; exact hvs2 j u hj) h1v hl
      rw [List.take_of_length_le (by omega), List.drop_of_length_le (by omega), List.append_nil]
      exact h
    · have hlt : i < l.length := by omega
      rcases hrow with ⟨rfl, h0, _⟩ | ⟨cap, cur, e', rfl, hg', hnc, hcm, hcs, htake⟩
      · omega
      · have hvb := hvne (by simp [nilV])
        rw [← htake] at h1c ⊢
        by_cases hroom : l.length < cap
        · exact ins_shift l.length i cap cur e' b E.w hg' hroom hcm hcs hlt h1c vb vo vc vv hvl hvs2 h1v hl hvb
        · exact ins_grow l.length i cap cur e' b E.w hg' hnc (by omega) hcs hlt h1c vb vo vc vv hvl hvs2 h1v hl
  refine key.mono ?_
  rintro e w' ⟨v', b', he, hro, hgr, hnew⟩
  refine ⟨v', _, b', he, by rw [hll]; exact hro, hgr, hnew, fun j hj => ?_⟩
  rw [hll] at hj
  rw [seg_ins hvl (by omega) (by omega)]
  refine ⟨⟨⟨⟨trivial, trivial, trivial⟩, rfl⟩, rfl⟩, ?_⟩
  show ListC E (Xattr.ch fun _ => (l.take i ++ x :: l.drop i).getD j Xattr.z) _
  by_cases h1 : j < i
  · have e : (l.take i ++ x :: l.drop i).getD j Xattr.z = l.getD j Xattr.z := by
      simp only [List.getD_eq_getElem?_getD]
      rw [List.getElem?_append_left (by rw [List.length_take]; omega), List.getElem?_take, if_pos h1]
    rw [if_pos h1, e, ← hg j (by omega)]
    exact (hel j (by omega)).2
  · rw [if_neg h1]
    by_cases h2 : j = i
    · subst h2
      have e : (l.take j ++ x :: l.drop j).getD j Xattr.z = x := by
        simp only [List.getD_eq_getElem?_getD]
        rw [List.getElem?_append_right (by rw [List.length_take]; omega), List.length_take, Nat.min_eq_left hil, Nat.sub_self]
        rfl
      rw [if_pos rfl, e, hvv]
      exact ⟨_, _, rfl, rfl, _, _, rfl, rfl, rfl⟩
    · have e : (l.take i ++ x :: l.drop i).getD j Xattr.z = l.getD (j - 1) Xattr.z := by
        simp only [List.getD_eq_getElem?_getD]
        rw [List.getElem?_append_right (by rw [List.length_take]; omega), List.length_take, Nat.min_eq_left hil]
        obtain ⟨q, hq⟩ : ∃ q, j - i = q + 1 := ⟨j - i - 1, by omega⟩
        rw [hq, List.getElem?_cons_succ, List.getElem?_drop]
        congr 2
        omega
      rw [if_neg h2, e, ← hg (j - 1) (by omega)]
      exact (hel (j - 1) (by omega)).2
end Go.Proofs.Ytjjddmbnfkmfdaa
/- Names with values: alike, and their records. -/
namespace Go.Proofs.Ytjjddmbnfkmfdaa
open Go Go.Proofs.Ytjjddmbnfkmfdaa.Sx F
set_option linter.unusedVariables false
set_option linter.unusedSimpArgs false
theorem list_ext_getD {α : Type} {a b : List α} (z : α) (hl : a.length = b.length) (h : ∀ j, j < a.length → a.getD j z = b.getD j z) : a = b := by
  apply List.ext_getElem hl
  intro i h1 h2
  have := h i h1
  simpa [List.getD_eq_getElem?_getD, List.getElem?_eq_getElem h1, List.getElem?_eq_getElem h2] using this
/-- Two lists that differ in a place. -/
theorem list_ne_getD {α : Type} {a b : List α} (z : α) (j : Nat) (h : a.getD j z ≠ b.getD j z) : a ≠ b := fun e => h (by rw [e])
theorem eqX_c (a b : Th (List Xattr)) (ha : short (a .o)) {d : Nat} {K : ARes → BL → Prop} (hr : ∀ r : Th Bool, (r .o = true ↔ a .o = b .o) → K (.ret (.bool r)) .nil) : CallAt PT slices_Equal_api_Xattr_api_Xattr [xattrs a, xattrs b] d .nil K := by
  refine CallAt.res ?_
  refine slices_Equal_api_Xattr_api_Xattr.of rfl rfl ?_
  cbv
  have no : ∀ {x : AV}, a .o ≠ b .o → Same x (.bool fun _ => false) → ∃ r', SameR (.ret x) r' ∧ K r' .nil := fun h1 h2 => ⟨_, .ret h2, hr _ ⟨fun q => (by cases q), fun q => (h1 q).elim⟩⟩
  refine br_ndec (fun h1 => ?_) (fun h1 => ?_)
  · cbv
    exact no (fun q => h1 (by rw [q])) (.ff rfl)
  · have h1 : (a .o).length = (b .o).length := zi_inj.1 h1
    cbv
    refine loop_at (X := Nat) 1000 [0, 1, 12] [] (fun _ k => .cons 13 (.int .i64 fun _ => zi k) .nil) (fun _ _ => .nil) (fun k => k ≤ (a .o).length ∧ ∀ j, j < k → (a .o).getD j Xattr.z = (b .o).getD j Xattr.z) (fun k => (a .o).length - k) 0 ?_ ⟨Nat.zero_le _, fun j hj => by omega⟩ ?_
    · cbv
      (repeat' (first | exact True.intro | exact Same.refl _ | exact SameB.refl _ | exact ⟨rfl⟩ | exact Same.int rfl | exact Same.str rfl | exact Same.bool rfl | (refine Same.int ?_; simp only [List.length_append, List.length_cons, List.length_nil, zi]; omega) | (refine SameB.row' rfl fun i hi => ?_; first | rfl | exact absurd hi (Nat.not_lt_zero _)) | refine And.intro ?_ ?_ | refine SameB.cells ?_ | exact SameC.nil | refine SameC.cons ?_ ?_ | exact Same.nsl rfl | exact Same.tt rfl | exact Same.ff rfl))
    · rintro k ⟨hk, heq⟩
      have hz := zi_toNat k
      cbv
      ((try refine br_rev ?_); (first | refine br_dec (fun h2 => ?_) (fun h2 => ?_) | refine br_ndec (fun h2 => ?_) (fun h2 => ?_) | refine br_nbool (fun h2 => ?_) (fun h2 => ?_) | refine br_bool (fun h2 => ?_) (fun h2 => ?_)); all_goals (try dsimp only at h2); all_goals (try with_reducible replace h2 := zi_lt.1 h2); all_goals (try with_reducible replace h2 := not_zlt h2))
      · cbv
        refine safe ⟨zi_nonneg _, zi_lt.2 h2⟩ ?_
        refine safe ⟨zi_nonneg _, zi_lt.2 (by omega)⟩ ?_
        refine br_nbool (fun h3 => ?_) (fun h3 => ?_)
        · cbv
          refine no (list_ne_getD Xattr.z k fun q => ?_) (.ff rfl)
          rw [hz, q] at h3
          simp at h3
        · rw [hz] at h3
          simp only [Bool.and_eq_true, decide_eq_true_eq] at h3
          have h3' : (a .o).getD k Xattr.z = (b .o).getD k Xattr.z := by
            have e1 := h3.1
            have e2 := h3.2.1
            generalize (a .o).getD k Xattr.z = p at e1 e2 ⊢
            generalize (b .o).getD k Xattr.z = q at e1 e2 ⊢
            cases p; cases q
            simp only at e1 e2
            rw [e1, e2]
          cbv
          refine ⟨k + 1, ⟨h2, fun j hj => ?_⟩, by omega, ?_⟩
          · by_cases e : j = k
            · rw [e]; exact h3'
            · exact heq j (by omega)
          · cbv
            rw [zi_succ (by unfold short at ha; omega)]
            (repeat' (first | exact True.intro | exact Same.refl _ | exact SameB.refl _ | exact ⟨rfl⟩ | exact Same.int rfl | exact Same.str rfl | exact Same.bool rfl | (refine Same.int ?_; simp only [List.length_append, List.length_cons, List.length_nil, zi]; omega) | (refine SameB.row' rfl fun i hi => ?_; first | rfl | exact absurd hi (Nat.not_lt_zero _)) | refine And.intro ?_ ?_ | refine SameB.cells ?_ | exact SameC.nil | refine SameC.cons ?_ ?_ | exact Same.nsl rfl | exact Same.tt rfl | exact Same.ff rfl))
      · cbv
        exact ⟨_, .ret (y := .bool fun _ => true) (.tt rfl), hr _ ⟨fun _ => list_ext_getD Xattr.z h1 fun j hj => heq j (by omega), fun _ => rfl⟩⟩
theorem xsame_c (a b : Th (List Xattr)) (ha : short (a .o)) {d : Nat} {K : ARes → BL → Prop} (hr : ∀ r : Th Bool, (r .o = true ↔ a .o = b .o) → K (.ret (.bool r)) .nil) : CallAt PT xattr_Same [xattrs a, xattrs b] d .nil K := by
  refine xattr_Same.of rfl rfl ?_
  cbv
  refine eqX_c a b ha fun r h => ?_
  cbv
  exact hr r h
theorem err_c (e : Th Int) {d : Nat} {K : ARes → BL → Prop} (hr : K (.ret (.int .i64 e)) .nil) : CallAt PT l1_Err [.int .i64 e] d .nil K := by
  refine l1_Err.of rfl rfl ?_
  cbv
  exact hr
def recX (x : Xattr) : List Xattr := (if (61 : UInt8) ∈ x.name then [] else [⟨schS ++ x.name, x.value⟩]) ++ [⟨libS ++ escS x.name, sixtyS x.value⟩]
def recsX (l : List Xattr) : List Xattr := l.flatMap recX
theorem recsX_step {l : List Xattr} {k : Nat} (h : k < l.length) : recsX (l.take (k + 1)) = recsX (l.take k) ++ recX (l.getD k Xattr.z) := by
  unfold recsX
  rw [List.take_succ_eq_append_getElem h, List.flatMap_append, List.getD_eq_getElem?_getD, List.getElem?_eq_getElem h]
  simp
theorem recX_len (x : Xattr) : (recX x).length ≤ 2 := by unfold recX; split <;> simp
theorem recsX_len : ∀ l : List Xattr, (recsX l).length ≤ 2 * l.length
  | [] => Nat.le_refl _
  | x :: r => by
    have h1 := recsX_len r
    have h2 := recX_len x
    simp only [recsX, List.flatMap_cons, List.length_append, List.length_cons] at h1 ⊢
    omega
theorem recs_c (l : Th (List Xattr)) (hl : short (l .o)) (hx : longX (l .o)) {d : Nat} {K : ARes → BL → Prop} (hr : ∀ r : Th (List Xattr), (XsOk (l .o) → r .o = recsX (l .o)) → (¬ XsOk (l .o) → r .o = []) → K (.ret (xattrs r)) .nil) : CallAt PT xattr_Recs [xattrs l] d .nil K := by
  refine CallAt.res ?_
  refine xattr_Recs.of rfl rfl ?_
  cbv
  refine xsmay_c l hl hx fun b hb => ?_
  cbv
  refine br_nbool (fun q1 => ?_) (fun q1 => ?_)
  all_goals cbv
  · exact ⟨_, .ret (y := xattrs fun _ => []) (.nsl rfl), hr _ (fun q => by have := hb.2 q; rw [this] at q1; cases q1) fun _ => rfl⟩
  have ok := hb.1 q1
  have hlen := ok.len
  refine nil_tmp 3 9000 2 (fun i => Xattr.ch fun _ => ([] : List Xattr).getD (i .o) Xattr.z) rfl rfl ?_
  refine loop_at (X := Nat × List Xattr) 1000 [9, 10] [] (fun _ x => .cons 3 (.row 9000) (.cons 11 (.int .i64 fun _ => zi x.1) .nil)) (fun _ x => .cons 9000 (rowB 2 Xattr.ch Xattr.z fun _ => x.2) .nil)
    (fun x => x.1 ≤ (l .o).length ∧ x.2 = recsX ((l .o).take x.1)) (fun x => (l .o).length - x.1) (0, []) ?_ ⟨by simp, rfl⟩ ?_
  · cbv
    (repeat' (first | exact True.intro | exact Same.refl _ | exact SameB.refl _ | exact ⟨rfl⟩ | exact Same.int rfl | exact Same.str rfl | exact Same.bool rfl | (refine Same.int ?_; simp only [List.length_append, List.length_cons, List.length_nil, zi]; omega) | (refine SameB.row' rfl fun i hi => ?_; first | rfl | exact absurd hi (Nat.not_lt_zero _)) | refine And.intro ?_ ?_ | refine SameB.cells ?_ | exact SameC.nil | refine SameC.cons ?_ ?_ | exact Same.nsl rfl | exact Same.tt rfl | exact Same.ff rfl))
  · rintro ⟨k, out⟩ ⟨hk, ho⟩
    dsimp only at hk ho
    have hol : out.length ≤ 2 * k := by have := recsX_len ((l .o).take k); rw [List.length_take] at this; rw [ho]; omega
    cbv
    refine br_zlt (fun h1 => ?_) (fun h1 => ?_)
    rotate_left
    · have h1 : (l .o).length ≤ k := h1
      cbv
      exact ⟨_, .ret (.refl _), hr (fun _ => out) (fun _ => by rw [ho, List.take_of_length_le h1]) fun q => (q ok).elim⟩
    · have h1 : k < (l .o).length := h1
      have hxk := ok.to.ok k h1
      have hz := zi_toNat k
      have hn : ((l .o).getD k Xattr.z).name.length ≤ 238 := Nat.le_trans (escS_ge _) hxk.2.1
      have hv : ((l .o).getD k Xattr.z).value.length ≤ 4096 := hxk.2.2.2
      have he := hxk.2.1
      have hstep := recsX_step h1
      rw [← ho] at hstep
      have hxe : ∃ x, x = (l .o).getD k Xattr.z := ⟨_, rfl⟩
      obtain ⟨x, hxx⟩ := hxe
      rw [← hxx] at hxk hn hv he hstep
      cbv
      dsimp only
      rw [hz]
      refine safe ⟨zi_nonneg _, zi_lt.2 h1⟩ ?_
      simp only [← hxx]
      refine contains1_c (fun _ => x.name) 61 fun b2 hb2 => ?_
      have hb2 : b2 .o = true ↔ (61 : UInt8) ∈ x.name := by rw [hb2, decide_eq_true_eq]
      cbv
      refine br_nbool (fun q2 => ?_) (fun q2 => ?_)
      all_goals cbv
      · have hq : ¬ (61 : UInt8) ∈ x.name := fun q => by have := hb2.2 q; rw [this] at q2; cases q2
        have hrx : recX x = [⟨schS ++ x.name, x.value⟩] ++ [⟨libS ++ escS x.name, sixtyS x.value⟩] := by unfold recX; rw [if_neg hq]
        refine safe (by (try dsimp only); simp only [List.length_cons, List.length_nil]; omega) ?_
        obtain ⟨x1, hx1⟩ : ∃ x1 : Xattr, x1 = ⟨schS ++ x.name, x.value⟩ := ⟨_, rfl⟩
        refine app_one Xattr.ch Xattr.z out x1 rfl (fun i hi => rfl) rfl (by rw [hx1]; rfl) (by omega) ?_
        cbv
        refine esc_c (fun _ => x.name) (by (try dsimp only); omega) fun e he' => ?_
        have he' : e .o = escS x.name := he'
        cbv
        refine safe (by (try dsimp only); rw [he']; simp only [List.length_cons, List.length_nil]; omega) ?_
        refine sixPut_c (fun _ => x.value) (by (try dsimp only); omega) fun u hu => ?_
        have hu : u .o = sixtyS x.value := hu
        cbv
        obtain ⟨x2, hx2⟩ : ∃ x2 : Xattr, x2 = ⟨libS ++ escS x.name, sixtyS x.value⟩ := ⟨_, rfl⟩
        refine app_one Xattr.ch Xattr.z (out ++ [x1]) x2 rfl (fun i hi => rfl) rfl (by rw [hx2, ← he', ← hu]; rfl) (by (try simp only [List.length_append, List.length_cons, List.length_nil]); omega) ?_
        cbv
        refine ⟨(k + 1, (out ++ [x1]) ++ [x2]), ⟨h1, by show (out ++ [x1]) ++ [x2] = _; rw [hstep, hrx, hx1, hx2, List.append_assoc]⟩, by show _ - (k + 1) < _ - k; omega, ?_⟩
        cbv
        rw [zi_succ (by omega)]
        (repeat' (first | exact True.intro | exact Same.refl _ | exact SameB.refl _ | exact ⟨rfl⟩ | exact Same.int rfl | exact Same.str rfl | exact Same.bool rfl | (refine Same.int ?_; simp only [List.length_append, List.length_cons, List.length_nil, zi]; omega) | (refine SameB.row' rfl fun i hi => ?_; first | rfl | exact absurd hi (Nat.not_lt_zero _)) | refine And.intro ?_ ?_ | refine SameB.cells ?_ | exact SameC.nil | refine SameC.cons ?_ ?_ | exact Same.nsl rfl | exact Same.tt rfl | exact Same.ff rfl))
      · have hq : (61 : UInt8) ∈ x.name := hb2.1 q2
        have hrx : recX x = [⟨libS ++ escS x.name, sixtyS x.value⟩] := by unfold recX; rw [if_pos hq]; rfl
        refine esc_c (fun _ => x.name) (by (try dsimp only); omega) fun e he' => ?_
        have he' : e .o = escS x.name := he'
        cbv
        refine safe (by (try dsimp only); rw [he']; simp only [List.length_cons, List.length_nil]; omega) ?_
        refine sixPut_c (fun _ => x.value) (by (try dsimp only); omega) fun u hu => ?_
        have hu : u .o = sixtyS x.value := hu
        cbv
        obtain ⟨x2, hx2⟩ : ∃ x2 : Xattr, x2 = ⟨libS ++ escS x.name, sixtyS x.value⟩ := ⟨_, rfl⟩
        refine app_one Xattr.ch Xattr.z out x2 rfl (fun i hi => rfl) rfl (by rw [hx2, ← he', ← hu]; rfl) (by (try simp only [List.length_append, List.length_cons, List.length_nil]); omega) ?_
        cbv
        refine ⟨(k + 1, out ++ [x2]), ⟨h1, by show out ++ [x2] = _; rw [hstep, hrx, hx2]⟩, by show _ - (k + 1) < _ - k; omega, ?_⟩
        cbv
        rw [zi_succ (by omega)]
        (repeat' (first | exact True.intro | exact Same.refl _ | exact SameB.refl _ | exact ⟨rfl⟩ | exact Same.int rfl | exact Same.str rfl | exact Same.bool rfl | (refine Same.int ?_; simp only [List.length_append, List.length_cons, List.length_nil, zi]; omega) | (refine SameB.row' rfl fun i hi => ?_; first | rfl | exact absurd hi (Nat.not_lt_zero _)) | refine And.intro ?_ ?_ | refine SameB.cells ?_ | exact SameC.nil | refine SameC.cons ?_ ?_ | exact Same.nsl rfl | exact Same.tt rfl | exact Same.ff rfl))
end Go.Proofs.Ytjjddmbnfkmfdaa
/- Names with values: what their records say; the example. -/
namespace Go.Proofs.Ytjjddmbnfkmfdaa
open Go Go.Proofs.Ytjjddmbnfkmfdaa.Sx F
set_option linter.unusedVariables false
set_option linter.unusedSimpArgs false
theorem isPre_app (p s : List UInt8) : isPre p (p ++ s) = true := by unfold isPre; rw [List.take_left]; simp
theorem read_sch (n v : List UInt8) : readX (schS ++ n) v = some (some ⟨n, v⟩) := by
  unfold readX
  rw [if_pos (isPre_app _ _)]
  rfl
theorem sch_lib (s : List UInt8) : isPre schS (libS ++ s) = false := by
  unfold isPre
  refine decide_eq_false fun q => ?_
  have h : ((libS ++ s).take schS.length).head? = schS.head? := by rw [q]
  revert h
  simp [libS, schS]
theorem read_lib (n v : List UInt8) : readX (libS ++ escS n) (sixtyS v) = some (some ⟨n, v⟩) := by
  unfold readX
  rw [if_neg (by rw [sch_lib]; simp), if_pos (isPre_app _ _)]
  have : (libS ++ escS n).drop 17 = escS n := rfl
  rw [this, unE_esc, unX_six]
theorem fold_read : ∀ (rs ys a : List Xattr), rs.map (fun r => readX r.name r.value) = ys.map (fun y => some (some y)) → rs.foldl stepX (some a) = some (ys.foldl (fun a y => addX y a) a)
  | [], [], a, _ => rfl
  | [], _ :: _, a, h => by cases h
  | _ :: _, [], a, h => by cases h
  | r :: rs, y :: ys, a, h => by
    simp only [List.map_cons, List.cons.injEq] at h
    have hs : stepX (some a) r = some (addX y a) := by
      unfold stepX
      simp only [h.1]
    rw [List.foldl_cons, List.foldl_cons, hs]
    exact fold_read rs ys _ h.2
/-- What each record of a list is of. -/
def ofX (x : Xattr) : List Xattr := if (61 : UInt8) ∈ x.name then [x] else [x, x]
theorem recX_read (x : Xattr) : (recX x).map (fun r => readX r.name r.value) = (ofX x).map (fun y => some (some y)) := by
  unfold recX ofX
  split
  · simp only [List.nil_append, List.map_cons, List.map_nil, read_lib]
  · simp only [List.singleton_append, List.map_cons, List.map_nil, read_lib, read_sch]
theorem recsX_read : ∀ l : List Xattr, (recsX l).map (fun r => readX r.name r.value) = (l.flatMap ofX).map (fun y => some (some y))
  | [] => rfl
  | x :: r => by
    have h1 := recsX_read r
    have h2 := recX_read x
    unfold recsX at h1 ⊢
    rw [List.flatMap_cons, List.flatMap_cons, List.map_append, List.map_append, h1, h2]
theorem ofX_mem {x y : Xattr} (h : y ∈ ofX x) : y = x := by
  unfold ofX at h
  split at h <;> simp at h <;> exact h
theorem ofX_self (x : Xattr) : x ∈ ofX x := by unfold ofX; split <;> simp
theorem XsOk.up {l : List Xattr} (h : XsOk l) : l.Pairwise ltX := by
  have step : ∀ j, j + 1 < l.length → strLt (l.getD j Xattr.z).name (l.getD (j + 1) Xattr.z).name = true := fun j hj => by
    have h1 := h.to.up j hj
    unfold leS at h1
    rw [Bool.or_eq_false_iff] at h1
    exact lt_tri h1.1 (of_decide_eq_false h1.2)
  have far : ∀ m i, i + m + 1 < l.length → strLt (l.getD i Xattr.z).name (l.getD (i + m + 1) Xattr.z).name = true := by
    intro m
    induction m with
    | zero => intro i hi; exact step i hi
    | succ m ih => intro i hi; exact lt_trans' (ih i (by omega)) (step (i + m + 1) hi)
  refine List.pairwise_iff_getElem.2 fun i j hi hj hij => ?_
  have := far (j - i - 1) i (by omega)
  rw [show i + (j - i - 1) + 1 = j by omega, List.getD_eq_getElem?_getD, List.getD_eq_getElem?_getD, List.getElem?_eq_getElem hi, List.getElem?_eq_getElem hj] at this
  exact this
theorem foldX_recs {l : List Xattr} (h : l.Pairwise ltX) : foldX (recsX l) = some l := by
  unfold foldX
  rw [fold_read _ _ _ (recsX_read l), fold_all h _ (fun y hy => by
    obtain ⟨x, hx, hy⟩ := List.mem_flatMap.1 hy
    rw [ofX_mem hy]; exact hx) fun x hx => List.mem_flatMap.2 ⟨x, hx, ofX_self x⟩]
theorem recX_small {x : Xattr} (h : XOk x) : ∀ r ∈ recX x, SmallX 1000000 r := by
  obtain ⟨h1, h2, h3, h4⟩ := h
  have h5 := escS_le x.name
  have h6 := sixty_len x.value
  intro r hr
  unfold recX at hr
  rcases List.mem_append.1 hr with hr | hr
  · split at hr
    · cases hr
    · rw [List.mem_singleton.1 hr]
      exact ⟨by show (schS ++ x.name).length ≤ _; rw [List.length_append, show schS.length = 13 from rfl]; omega, by show x.value.length ≤ _; omega⟩
  · rw [List.mem_singleton.1 hr]
    exact ⟨by show (libS ++ escS x.name).length ≤ _; rw [List.length_append, show libS.length = 17 from rfl]; omega, by show (sixtyS x.value).length ≤ _; omega⟩
theorem XsOk.all {l : List Xattr} (h : XsOk l) : ∀ x ∈ l, XOk x := fun x hx => by
  obtain ⟨j, hj, rfl⟩ := List.getElem_of_mem hx
  have := h.to.ok j hj
  rw [List.getD_eq_getElem?_getD, List.getElem?_eq_getElem hj] at this
  exact this
theorem recsX_small {l : List Xattr} (h : XsOk l) : ∀ r ∈ recsX l, SmallX 1000000 r := fun r hr => by
  obtain ⟨x, hx, hr⟩ := List.mem_flatMap.1 hr
  exact recX_small (h.all x hx) r hr
def exX : Xattr := ⟨[117, 115, 101, 114, 46, 97], [98]⟩
theorem exX_ok : XsOk [exX] := by
  refine ⟨⟨fun j hj => ?_, fun j hj => by simp at hj⟩, by decide⟩
  obtain rfl : j = 0 := by simpa using hj
  refine ⟨by decide, by decide, by decide, by decide⟩
theorem exX_same : Same (AV.sl 2 (fun _ => 1) fun i => elemAt 2 ((AV.str fun _ => [117, 115, 101, 114, 46, 97]).cons ((AV.str fun _ => [98]).cons AV.nil)) (i .o)) (xattrs fun _ => [exX]) := by
  refine .sl rfl fun i hi => ?_
  obtain rfl : i = 0 := by
    have hi : i < 1 := hi
    omega
  rfl
theorem awake13_c {d : Nat} {K : ARes → BL → Prop} (hr : ∀ b : Th Bool, b .o = true → K (.ret (.bool b)) .nil) : CallAt PT l13_awake [] d .nil K := by
  refine l13_awake.of rfl rfl ?_
  have one : ∀ {f : Nat} {d : Nat} {B : BL} {K : ARes → BL → Prop}, CallAt PT f [xattrs fun _ => [exX]] d B K → CallAt PT f [AV.sl 2 (fun _ => 1) fun i => elemAt 2 ((AV.str fun _ => [117, 115, 101, 114, 46, 97]).cons ((AV.str fun _ => [98]).cons AV.nil)) (i .o)] d B K := fun h =>
    CallAt.args (.cons exX_same .nil) h
  have hlx : longX [exX] := fun x hx => by rw [List.mem_singleton.1 hx]; decide
  have hre : recsX [exX] = [⟨schS ++ exX.name, exX.value⟩, ⟨libS ++ escS exX.name, sixtyS exX.value⟩] := by
    unfold recsX recX
    rw [List.flatMap_cons, if_neg (by decide)]
    rfl
  cbv
  refine one (recs_c (fun _ => [exX]) (by unfold short; decide) hlx fun r h1 _ => ?_)
  have h1 : r .o = recsX [exX] := h1 exX_ok
  have hrl : (r .o).length = 2 := by rw [h1, hre]; rfl
  have hfx : foldX (r .o) = some [exX] := by rw [h1]; exact foldX_recs exX_ok.up
  cbv
  refine xfrom_c ins_c r (by omega) (fun x hx => by rw [h1] at hx; exact recsX_small exX_ok x hx) (fun _ _ _ _ _ _ _ _ => trivial) (fun l hl hok => ?_) (fun h => (h _ hfx exX_ok).elim)
  have hl : l .o = [exX] := by rw [hfx] at hl; exact (Option.some.inj hl).symm
  cbv
  refine one (recs_c (fun _ => [exX]) (by unfold short; decide) hlx fun r2 h2 _ => ?_)
  have h2 : r2 .o = recsX [exX] := h2 exX_ok
  have h2l : zi (r2 .o).length = 2 := by rw [h2, hre]; rfl
  cbv
  refine br_is (decide_eq_true h2l) ?_
  cbv
  refine err_c (fun _ => 0) ?_
  cbv
  refine br_is (decide_eq_true (rfl : (0 : Int) = 0)) ?_
  cbv
  refine CallAt.args (.cons (Same.refl _) (.cons exX_same .nil)) (xsame_c l (fun _ => [exX]) (by rw [hl]; unfold short; decide) fun b hb => ?_)
  cbv
  exact hr b (hb.2 hl)
end Go.Proofs.Ytjjddmbnfkmfdaa
/- Names with values out of records, by the document: r9.IsXattr, r9.FromRecs; l13.Few. -/
namespace Go.Proofs.Ytjjddmbnfkmfdaa
open Go Go.Proofs.Ytjjddmbnfkmfdaa.Sx F
set_option linter.unusedVariables false
set_option linter.unusedSimpArgs false
end Go.Proofs.Ytjjddmbnfkmfdaa
/- Law XattrBack: in plain Lean. -/
namespace Go.Proofs.Ytjjddmbnfkmfdaa
open Go Go.Proofs.Ytjjddmbnfkmfdaa.Sx F
set_option linter.unusedVariables false
set_option linter.unusedSimpArgs false
theorem escS_three : ∀ t : List UInt8, (escS t).length ≤ 3 * t.length
  | [] => Nat.le_refl _
  | c :: r => by
    have ih := escS_three r
    have : (escB c).length ≤ 3 := by unfold escB; split <;> simp
    simp only [escS, List.flatMap_cons, List.length_append, List.length_cons] at ih ⊢
    omega
theorem MadeX.ok {x : Xattr} (h : MadeX x) : XOk x := by
  obtain ⟨h1, h2, h3, h4⟩ := h
  have := escS_three x.name
  exact ⟨h2, by omega, h3, by omega⟩
theorem pair_at {l : List Xattr} (h : l.Pairwise ltX) {i j : Nat} (hij : i < j) (hj : j < l.length) : ltX (l.getD i Xattr.z) (l.getD j Xattr.z) := by
  have := List.pairwise_iff_getElem.1 h i j (by omega) hj hij
  rw [List.getD_eq_getElem?_getD, List.getD_eq_getElem?_getD, List.getElem?_eq_getElem hj, List.getElem?_eq_getElem (by omega : i < l.length)]
  exact this
theorem xsOk_of {l : List Xattr} (h1 : ∀ x ∈ l, XOk x) (h2 : l.Pairwise ltX) (h3 : l.length ≤ 32) : XsOk l := by
  refine ⟨⟨fun j hj => ?_, fun j hj => ?_⟩, h3⟩
  · rw [List.getD_eq_getElem?_getD, List.getElem?_eq_getElem hj]
    exact h1 _ (List.getElem_mem hj)
  · have q := pair_at h2 (Nat.lt_succ_self j) hj
    unfold leS
    rw [Bool.or_eq_false_iff]
    exact ⟨ltX_not q, decide_eq_false fun e => ltX_ne q e.symm⟩
theorem MadeXs.ok {l : List Xattr} (h : MadeXs l) : XsOk l := xsOk_of (fun x hx => (h.made x hx).ok) h.up (Nat.le_trans h.len (by decide))
def comX : Xattr := ⟨[99, 111, 109, 109, 101, 110, 116], [120]⟩
def backL (rs : List Xattr) (j : Nat) : List Xattr := (rs.drop j).reverse.flatMap fun r => [r, comX]
end Go.Proofs.Ytjjddmbnfkmfdaa
/- Records and names with values, handed back as rows of one's own. -/
namespace Go.Proofs.Ytjjddmbnfkmfdaa
open Go Go.Proofs.Ytjjddmbnfkmfdaa.Sx F
set_option linter.unusedVariables false
set_option linter.unusedSimpArgs false
theorem recs_ofO {xs : List AV} {d : Nat} {K : ARes → BL → Prop} (hn : xs.length = 1) (h : awp ⟨PT, 41, exitO PT xattr_Recs.rs d K⟩ 10000 [.code xattr_Recs.rc] ⟨params 0 xs, .nil, .nil⟩) : CallAt PT xattr_Recs xs d .nil K :=
  call_of_awp_o 10000 Try.func14 rfl (by kernel_rfl) (by kernel_rfl) (by kernel_rfl) (by rw [hn]; decide) h
theorem from_ofO {xs : List AV} {d : Nat} {K : ARes → BL → Prop} (hn : xs.length = 1) (h : awp ⟨PT, 46, exitO PT xattr_From.rs d K⟩ 10000 [.code xattr_From.rc] ⟨params 0 xs, .nil, .nil⟩) : CallAt PT xattr_From xs d .nil K :=
  call_of_awp_o 10000 Try.func9 rfl (by kernel_rfl) (by kernel_rfl) (by kernel_rfl) (by rw [hn]; decide) h
theorem recsO_c (l : Th (List Xattr)) (hl : short (l .o)) (hx : longX (l .o)) (ok : XsOk (l .o)) {d : Nat} {K : ARes → BL → Prop} (hr : K (.ret (.row d)) (.cons d (rowB 2 Xattr.ch Xattr.z fun _ => recsX (l .o)) .nil)) : CallAt PT xattr_Recs [xattrs l] d .nil K := by
  refine recs_ofO rfl ?_
  cbv
  refine xsmay_c l hl hx fun b hb => ?_
  cbv
  refine br_nbool (fun q1 => ?_) (fun q1 => ?_)
  all_goals cbv
  · exfalso
    have := hb.2 ok
    rw [this] at q1
    cases q1
  have hlen := ok.len
  refine nil_tmp 3 9000 2 (fun i => Xattr.ch fun _ => ([] : List Xattr).getD (i .o) Xattr.z) rfl rfl ?_
  refine loop_at (X := Nat × List Xattr) 1000 [9, 10] [] (fun _ x => .cons 3 (.row 9000) (.cons 11 (.int .i64 fun _ => zi x.1) .nil)) (fun _ x => .cons 9000 (rowB 2 Xattr.ch Xattr.z fun _ => x.2) .nil)
    (fun x => x.1 ≤ (l .o).length ∧ x.2 = recsX ((l .o).take x.1)) (fun x => (l .o).length - x.1) (0, []) ?_ ⟨by simp, rfl⟩ ?_
  · cbv
    (repeat' (first | exact True.intro | exact Same.refl _ | exact SameB.refl _ | exact ⟨rfl⟩ | exact Same.int rfl | exact Same.str rfl | exact Same.bool rfl | (refine Same.int ?_; simp only [List.length_append, List.length_cons, List.length_nil, zi]; omega) | (refine SameB.row' rfl fun i hi => ?_; first | rfl | exact absurd hi (Nat.not_lt_zero _)) | refine And.intro ?_ ?_ | refine SameB.cells ?_ | exact SameC.nil | refine SameC.cons ?_ ?_ | exact Same.nsl rfl | exact Same.tt rfl | exact Same.ff rfl))
  · rintro ⟨k, out⟩ ⟨hk, ho⟩
    dsimp only at hk ho
    have hol : out.length ≤ 2 * k := by have := recsX_len ((l .o).take k); rw [List.length_take] at this; rw [ho]; omega
    cbv
    refine br_zlt (fun h1 => ?_) (fun h1 => ?_)
    rotate_left
    · have h1 : (l .o).length ≤ k := h1
      rw [List.take_of_length_le h1] at ho
      rw [← ho] at hr
      cbv
      exact hr
    · have h1 : k < (l .o).length := h1
      have hxk := ok.to.ok k h1
      have hz := zi_toNat k
      have hn : ((l .o).getD k Xattr.z).name.length ≤ 238 := Nat.le_trans (escS_ge _) hxk.2.1
      have hv : ((l .o).getD k Xattr.z).value.length ≤ 4096 := hxk.2.2.2
      have he := hxk.2.1
      have hstep := recsX_step h1
      rw [← ho] at hstep
      have hxe : ∃ x, x = (l .o).getD k Xattr.z := ⟨_, rfl⟩
      obtain ⟨x, hxx⟩ := hxe
      rw [← hxx] at hxk hn hv he hstep
      cbv
      dsimp only
      rw [hz]
      refine safe ⟨zi_nonneg _, zi_lt.2 h1⟩ ?_
      simp only [← hxx]
      refine contains1_c (fun _ => x.name) 61 fun b2 hb2 => ?_
      have hb2 : b2 .o = true ↔ (61 : UInt8) ∈ x.name := by rw [hb2, decide_eq_true_eq]
      cbv
      refine br_nbool (fun q2 => ?_) (fun q2 => ?_)
      all_goals cbv
      · have hq : ¬ (61 : UInt8) ∈ x.name := fun q => by have := hb2.2 q; rw [this] at q2; cases q2
        have hrx : recX x = [⟨schS ++ x.name, x.value⟩] ++ [⟨libS ++ escS x.name, sixtyS x.value⟩] := by unfold recX; rw [if_neg hq]
        refine safe (by (try dsimp only); simp only [List.length_cons, List.length_nil]; omega) ?_
        obtain ⟨x1, hx1⟩ : ∃ x1 : Xattr, x1 = ⟨schS ++ x.name, x.value⟩ := ⟨_, rfl⟩
        refine app_one Xattr.ch Xattr.z out x1 rfl (fun i hi => rfl) rfl (by rw [hx1]; rfl) (by omega) ?_
        cbv
        refine esc_c (fun _ => x.name) (by (try dsimp only); omega) fun e he' => ?_
        have he' : e .o = escS x.name := he'
        cbv
        refine safe (by (try dsimp only); rw [he']; simp only [List.length_cons, List.length_nil]; omega) ?_
        refine sixPut_c (fun _ => x.value) (by (try dsimp only); omega) fun u hu => ?_
        have hu : u .o = sixtyS x.value := hu
        cbv
        obtain ⟨x2, hx2⟩ : ∃ x2 : Xattr, x2 = ⟨libS ++ escS x.name, sixtyS x.value⟩ := ⟨_, rfl⟩
        refine app_one Xattr.ch Xattr.z (out ++ [x1]) x2 rfl (fun i hi => rfl) rfl (by rw [hx2, ← he', ← hu]; rfl) (by (try simp only [List.length_append, List.length_cons, List.length_nil]); omega) ?_
        cbv
        refine ⟨(k + 1, (out ++ [x1]) ++ [x2]), ⟨h1, by show (out ++ [x1]) ++ [x2] = _; rw [hstep, hrx, hx1, hx2, List.append_assoc]⟩, by show _ - (k + 1) < _ - k; omega, ?_⟩
        cbv
        rw [zi_succ (by omega)]
        (repeat' (first | exact True.intro | exact Same.refl _ | exact SameB.refl _ | exact ⟨rfl⟩ | exact Same.int rfl | exact Same.str rfl | exact Same.bool rfl | (refine Same.int ?_; simp only [List.length_append, List.length_cons, List.length_nil, zi]; omega) | (refine SameB.row' rfl fun i hi => ?_; first | rfl | exact absurd hi (Nat.not_lt_zero _)) | refine And.intro ?_ ?_ | refine SameB.cells ?_ | exact SameC.nil | refine SameC.cons ?_ ?_ | exact Same.nsl rfl | exact Same.tt rfl | exact Same.ff rfl))
      · have hq : (61 : UInt8) ∈ x.name := hb2.1 q2
        have hrx : recX x = [⟨libS ++ escS x.name, sixtyS x.value⟩] := by unfold recX; rw [if_pos hq]; try rfl
        refine esc_c (fun _ => x.name) (by (try dsimp only); omega) fun e he' => ?_
        have he' : e .o = escS x.name := he'
        cbv
        refine safe (by (try dsimp only); rw [he']; simp only [List.length_cons, List.length_nil]; omega) ?_
        refine sixPut_c (fun _ => x.value) (by (try dsimp only); omega) fun u hu => ?_
        have hu : u .o = sixtyS x.value := hu
        cbv
        obtain ⟨x2, hx2⟩ : ∃ x2 : Xattr, x2 = ⟨libS ++ escS x.name, sixtyS x.value⟩ := ⟨_, rfl⟩
        refine app_one Xattr.ch Xattr.z out x2 rfl (fun i hi => rfl) rfl (by rw [hx2, ← he', ← hu]; rfl) (by (try simp only [List.length_append, List.length_cons, List.length_nil]); omega) ?_
        cbv
        refine ⟨(k + 1, out ++ [x2]), ⟨h1, by show out ++ [x2] = _; rw [hstep, hrx, hx2]⟩, by show _ - (k + 1) < _ - k; omega, ?_⟩
        cbv
        rw [zi_succ (by omega)]
        (repeat' (first | exact True.intro | exact Same.refl _ | exact SameB.refl _ | exact ⟨rfl⟩ | exact Same.int rfl | exact Same.str rfl | exact Same.bool rfl | (refine Same.int ?_; simp only [List.length_append, List.length_cons, List.length_nil, zi]; omega) | (refine SameB.row' rfl fun i hi => ?_; first | rfl | exact absurd hi (Nat.not_lt_zero _)) | refine And.intro ?_ ?_ | refine SameB.cells ?_ | exact SameC.nil | refine SameC.cons ?_ ?_ | exact Same.nsl rfl | exact Same.tt rfl | exact Same.ff rfl))
theorem xfromO_c (rs : Th (List Xattr)) (hrs : (rs .o).length ≤ 1000) (hsm : ∀ r ∈ rs .o, SmallX 1000000 r) {d : Nat} {K : ARes → BL → Prop}
    (h1 : ∀ l : List Xattr, foldX (rs .o) = some l → XsOk l → K (.ret (.tup (.cons (.row d) (.cons (.int .i64 fun _ => 0) .nil)))) (.cons d (rowB 2 Xattr.ch Xattr.z fun _ => l) .nil))
    (h2 : (∀ l, foldX (rs .o) = some l → ¬ XsOk l) → K (.ret (.tup (.cons .nsl (.cons (.int .i64 fun _ => 4) .nil)))) .nil) : CallAt PT xattr_From [xattrs rs] d .nil K := by
  refine from_ofO rfl ?_
  cbv
  refine nil_cell 2 0 9000 2 (fun i => Xattr.ch fun _ => ([] : List Xattr).getD (i .o) Xattr.z) rfl rfl rfl ?_
  refine loop_at (X := Nat × List Xattr) 1000 [0, 2, 3, 10, 11, 12] [2, 3] (fun _ x => .cons 13 (.int .i64 fun _ => zi x.1) .nil) (fun _ x => .cons 9000 (rowB 2 Xattr.ch Xattr.z fun _ => x.2) .nil)
    (fun x => x.1 ≤ (rs .o).length ∧ foldX ((rs .o).take x.1) = some x.2 ∧ x.2.Pairwise ltX ∧ x.2.length ≤ x.1 ∧ ∀ y ∈ x.2, SmallX 1000000 y) (fun x => (rs .o).length - x.1) (0, []) ?_ ⟨Nat.zero_le _, rfl, List.Pairwise.nil, Nat.le_refl _, fun y hy => by cases hy⟩ ?_
  · cbv
    (repeat' (first | exact True.intro | exact Same.refl _ | exact SameB.refl _ | exact ⟨rfl⟩ | exact Same.int rfl | exact Same.str rfl | exact Same.bool rfl | (refine Same.int ?_; simp only [List.length_append, List.length_cons, List.length_nil, zi]; omega) | (refine SameB.row' rfl fun i hi => ?_; first | rfl | exact absurd hi (Nat.not_lt_zero _)) | refine And.intro ?_ ?_ | refine SameB.cells ?_ | exact SameC.nil | refine SameC.cons ?_ ?_ | exact Same.nsl rfl | exact Same.tt rfl | exact Same.ff rfl))
  · rintro ⟨k, acc⟩ ⟨hk, hf, hup, hlen, hacc⟩
    dsimp only at hk hf hup hlen hacc
    have hz := zi_toNat k
    cbv
    refine br_zlt (fun h4 => ?_) (fun h4 => ?_)
    · have h4 : k < (rs .o).length := h4
      have hmem : (rs .o).getD k Xattr.z ∈ rs .o := by
        rw [List.getD_eq_getElem?_getD, List.getElem?_eq_getElem h4]; exact List.getElem_mem h4
      have hr := hsm _ hmem
      have hf1 : foldX ((rs .o).take (k + 1)) = stepX (some acc) ((rs .o).getD k Xattr.z) := by
        rw [List.take_succ_eq_append_getElem h4]
        unfold foldX at hf ⊢
        rw [List.foldl_append, hf]
        rw [List.getD_eq_getElem?_getD, List.getElem?_eq_getElem h4]
        rfl
      generalize hrr : (rs .o).getD k Xattr.z = r at hr hf1
      have hst : stepX (some acc) r = match readX r.name r.value with | none => none | some none => some acc | some (some x) => some (addX x acc) := rfl
      cbv
      refine safe ⟨zi_nonneg _, zi_lt.2 h4⟩ ?_
      refine xread_c (fun _ => ((rs .o).getD (zi k).toNat Xattr.z).name) (fun _ => ((rs .o).getD (zi k).toNat Xattr.z).value) (by rw [hz, hrr]; exact hr.name) (by rw [hz, hrr]; exact hr.value) (fun n u hx => ?_) (fun hx => ?_) (fun hx => ?_)
      · rw [hz, hrr] at hx
        rw [hx] at hst
        cbv
        refine search_c (fun _ => acc) n (by omega) hup fun i hi b hb => ?_
        have hxs := readX_small hr.name hr.value hx
        have hadd := addX_at ⟨n .o, u .o⟩ acc i hi.le hi.lo (fun q => hi.hi i (Nat.le_refl _) q)
        have hnew : ∀ y ∈ addX ⟨n .o, u .o⟩ acc, SmallX 1000000 y := fun y hy => (addX_mem hy).elim (fun e => e ▸ hxs) (hacc y)
        have hnl := addX_len ⟨n .o, u .o⟩ acc
        have hnu := addX_up ⟨n .o, u .o⟩ acc hup
        have hil := hi.le
        cbv
        refine br_bool (fun h5 => ?_) (fun h5 => ?_)
        · have h5 : i < acc.length ∧ (acc.getD i Xattr.z).name = n .o := hb.1 h5
          rw [if_pos h5] at hadd
          have hset : addX ⟨n .o, u .o⟩ acc = acc.set i ⟨n .o, u .o⟩ := by rw [hadd, List.set_eq_take_append_cons_drop, if_pos h5.1]
          cbv
          refine safe ⟨zi_nonneg _, zi_lt.2 h5.1⟩ ?_
          refine put_rows Xattr.ch Xattr.z acc ⟨n .o, u .o⟩ rfl (fun j hj => rfl) (by show (zi i).toNat < _; rw [zi_toNat]; exact h5.1) rfl ?_
          rw [zi_toNat, ← hset]
          have hll : acc.length = (addX ⟨n .o, u .o⟩ acc).length := by rw [hset, List.length_set]
          cbv
          refine ⟨(k + 1, addX ⟨n .o, u .o⟩ acc), ⟨h4, hf1.trans hst, hnu, by show (addX _ acc).length ≤ k + 1; omega, hnew⟩, by show (rs .o).length - (k + 1) < (rs .o).length - k; omega, ?_⟩
          cbv
          rw [zi_succ (by omega)]
          (repeat' (first | exact True.intro | exact Same.refl _ | exact SameB.refl _ | exact ⟨rfl⟩ | exact Same.int rfl | exact Same.str rfl | exact Same.bool rfl | (refine Same.int ?_; simp only [List.length_append, List.length_cons, List.length_nil, zi]; omega) | (refine SameB.row' rfl fun i hi => ?_; first | rfl | exact absurd hi (Nat.not_lt_zero _)) | refine And.intro ?_ ?_ | refine SameB.cells ?_ | exact SameC.nil | refine SameC.cons ?_ ?_ | exact Same.nsl rfl | exact Same.tt rfl | exact Same.ff rfl))
          all_goals (refine SameB.row' hll fun j hj => rfl)
        · have h5 : ¬ (i < acc.length ∧ (acc.getD i Xattr.z).name = n .o) := fun q => by have := hb.2 q; rw [this] at h5; cases h5
          rw [if_neg h5] at hadd
          cbv
          refine ins_c acc i ⟨n .o, u .o⟩ trivial hil (by omega) rfl (fun j hj => rfl) rfl rfl rfl ?_
          rw [← hadd]
          cbv
          refine ⟨(k + 1, addX ⟨n .o, u .o⟩ acc), ⟨h4, hf1.trans hst, hnu, by show (addX _ acc).length ≤ k + 1; omega, hnew⟩, by show (rs .o).length - (k + 1) < (rs .o).length - k; omega, ?_⟩
          cbv
          rw [zi_succ (by omega)]
          (repeat' (first | exact True.intro | exact Same.refl _ | exact SameB.refl _ | exact ⟨rfl⟩ | exact Same.int rfl | exact Same.str rfl | exact Same.bool rfl | (refine Same.int ?_; simp only [List.length_append, List.length_cons, List.length_nil, zi]; omega) | (refine SameB.row' rfl fun i hi => ?_; first | rfl | exact absurd hi (Nat.not_lt_zero _)) | refine And.intro ?_ ?_ | refine SameB.cells ?_ | exact SameC.nil | refine SameC.cons ?_ ?_ | exact Same.nsl rfl | exact Same.tt rfl | exact Same.ff rfl))
      · rw [hz, hrr] at hx
        rw [hx] at hst
        cbv
        refine ⟨(k + 1, acc), ⟨h4, hf1.trans hst, hup, by show acc.length ≤ k + 1; omega, hacc⟩, by show (rs .o).length - (k + 1) < (rs .o).length - k; omega, ?_⟩
        cbv
        rw [zi_succ (by omega)]
        (repeat' (first | exact True.intro | exact Same.refl _ | exact SameB.refl _ | exact ⟨rfl⟩ | exact Same.int rfl | exact Same.str rfl | exact Same.bool rfl | (refine Same.int ?_; simp only [List.length_append, List.length_cons, List.length_nil, zi]; omega) | (refine SameB.row' rfl fun i hi => ?_; first | rfl | exact absurd hi (Nat.not_lt_zero _)) | refine And.intro ?_ ?_ | refine SameB.cells ?_ | exact SameC.nil | refine SameC.cons ?_ ?_ | exact Same.nsl rfl | exact Same.tt rfl | exact Same.ff rfl))
      · rw [hz, hrr] at hx
        rw [hx] at hst
        have hnone : foldX (rs .o) = none := by
          have e : rs .o = (rs .o).take (k + 1) ++ (rs .o).drop (k + 1) := (List.take_append_drop _ _).symm
          have h := hf1.trans hst
          unfold foldX at h ⊢
          rw [e, List.foldl_append, h, stepX_none]
        cbv
        refine DefAt.use [(10000, 2), (10001, 3), (10002, 9000)] [noValV _, .ptr 10000 0, .ptr 10001 0] (by kernel_rfl) rfl (xendP_c _ _ _ _ ?_)
        cbv
        exact h2 fun l hl => by rw [hnone] at hl; cases hl
    · have h4 : (rs .o).length ≤ k := h4
      rw [List.take_of_length_le h4] at hf
      cbv
      refine xsmay_c (fun _ => acc) (by unfold short; omega) (fun y hy => by have := (hacc y hy).name; omega) fun b hb => ?_
      cbv
      refine br_nbool (fun h5 => ?_) (fun h5 => ?_)
      · have h5 : ¬ XsOk acc := fun q => by have := hb.2 q; rw [this] at h5; cases h5
        cbv
        refine DefAt.use [(10000, 2), (10001, 3)] [.nif, .ptr 10000 0, .ptr 10001 0] (by kernel_rfl) rfl (xendN_c _ ?_)
        cbv
        exact h2 fun l hl => by rw [hf] at hl; cases hl; exact h5
      · have h5 : XsOk acc := hb.1 h5
        cbv
        refine DefAt.use [(10000, 2), (10001, 3), (10002, 9000)] [.nif, .ptr 10000 0, .ptr 10001 0] (by kernel_rfl) rfl (xendR_c _ _ _ ?_)
        cbv
        exact h1 acc hf h5
end Go.Proofs.Ytjjddmbnfkmfdaa
/- Law XattrLast. -/
namespace Go.Proofs.Ytjjddmbnfkmfdaa
open Go Go.Proofs.Ytjjddmbnfkmfdaa.Sx F
set_option linter.unusedVariables false
set_option linter.unusedSimpArgs false
theorem addX_self (a : Xattr) : ∀ l : List Xattr, a ∈ addX a l
  | [] => by simp [addX]
  | x :: r => by
    unfold addX
    split
    · exact List.mem_cons_of_mem _ (addX_self a r)
    · split <;> simp
def zN : List UInt8 := [117, 115, 101, 114, 46, 122]
def zA : Xattr := ⟨schS ++ zN, [102, 105, 114, 115, 116]⟩
def zB (v : List UInt8) : Xattr := ⟨libS ++ zN, sixtyS v⟩
theorem zA_read : readX zA.name zA.value = some (some ⟨zN, [102, 105, 114, 115, 116]⟩) := read_sch zN _
theorem zB_read (v : List UInt8) : readX (zB v).name (zB v).value = some (some ⟨zN, v⟩) := read_lib zN v
def lastX (l : List Xattr) (v : List UInt8) : List Xattr := addX ⟨zN, v⟩ (addX ⟨zN, [102, 105, 114, 115, 116]⟩ l)
theorem foldX_snoc (rs : List Xattr) (r : Xattr) : foldX (rs ++ [r]) = stepX (foldX rs) r := by unfold foldX; rw [List.foldl_append]; rfl
theorem last_fold {l : List Xattr} (h : l.Pairwise ltX) (v : List UInt8) : foldX (recsX l ++ [zA, zB v]) = some (lastX l v) := by
  rw [show recsX l ++ [zA, zB v] = (recsX l ++ [zA]) ++ [zB v] by simp, foldX_snoc, foldX_snoc, foldX_recs h]
  unfold stepX
  simp only [zA_read, zB_read]
  rfl
theorem xOk_z {v : List UInt8} (h : v.length ≤ 4096) : XOk ⟨zN, v⟩ := ⟨by show zN ≠ []; decide, by show (escS zN).length ≤ 238; decide, by show ¬ (0 : UInt8) ∈ zN; decide, h⟩
theorem lastX_ok {l : List Xattr} (h : MadeXs l) {v : List UInt8} (hv : v.length ≤ 200) : XsOk (lastX l v) := by
  refine xsOk_of (fun x hx => ?_) (addX_up _ _ (addX_up _ _ h.up)) ?_
  · rcases addX_mem hx with rfl | hx
    · exact xOk_z (by omega)
    · rcases addX_mem hx with rfl | hx
      · exact xOk_z (by decide)
      · exact (h.made x hx).ok
  · have h1 := addX_len ⟨zN, v⟩ (addX ⟨zN, [102, 105, 114, 115, 116]⟩ l)
    have h2 := addX_len ⟨zN, [102, 105, 114, 115, 116]⟩ l
    have h3 := h.len
    unfold lastX
    omega
def badL : List Xattr := [⟨schS, []⟩, ⟨libS, []⟩, ⟨libS ++ [97, 37], []⟩, ⟨libS ++ [97], [89]⟩, ⟨libS ++ [97], [89, 82, 61, 61]⟩]
theorem lib_read (n v : List UInt8) : readX (libS ++ n) v = match unE n, unX v with
    | some n, some u => some (some ⟨n, u⟩)
    | _, _ => none := by
  unfold readX
  rw [if_neg (by rw [sch_lib]; simp), if_pos (isPre_app _ _)]
  have : (libS ++ n).drop 17 = n := rfl
  rw [this]
  try rfl
theorem unE_bad : unE [97, 37] = none := by
  unfold unE
  rw [decE_plain (by decide), decE_bad (fun a b r' h => by cases h)]
  rfl
theorem unX_bad1 : unX [89] = none := by decide +kernel
theorem unX_bad2 : unX [89, 82, 61, 61] = none := by decide +kernel
theorem bad_read : ∀ k, k < 5 → readX (badL.getD k Xattr.z).name (badL.getD k Xattr.z).value = none ∨ ∃ u, readX (badL.getD k Xattr.z).name (badL.getD k Xattr.z).value = some (some ⟨[], u⟩)
  | 0, _ => .inr ⟨[], read_sch [] []⟩
  | 1, _ => .inr ⟨[], read_lib [] []⟩
  | 2, _ => .inl (by show readX (libS ++ [97, 37]) [] = none; rw [lib_read, unE_bad])
  | 3, _ => .inl (by show readX (libS ++ [97]) [89] = none; rw [lib_read, unX_bad1]; split <;> simp_all)
  | 4, _ => .inl (by show readX (libS ++ [97]) [89, 82, 61, 61] = none; rw [lib_read, unX_bad2]; split <;> simp_all)
theorem bad_small : ∀ k, SmallX 1000000 (badL.getD k Xattr.z)
  | 0 | 1 | 2 | 3 | 4 => ⟨by decide, by decide⟩
  | k + 5 => ⟨Nat.zero_le _, Nat.zero_le _⟩
theorem bad_fold {rs x : List Xattr} (h : foldX rs = some x) {k : Nat} (hk : k < 5) : ∀ l, foldX (rs ++ [badL.getD k Xattr.z]) = some l → ¬ XsOk l := by
  intro l hl hok
  rw [foldX_snoc, h] at hl
  unfold stepX at hl
  rcases bad_read k hk with q | ⟨u, q⟩
  · simp only [q] at hl
    cases hl
  · simp only [q] at hl
    cases hl
    exact (hok.all _ (addX_self ⟨[], u⟩ x)).1 rfl
theorem aops_cat (C : Cx) (b : List ROp) (K : St → Prop) : ∀ (a : List ROp) (s : St), aops C (a ++ b) s K = aops C a s fun s' => aops C b s' K
  | [], s => rfl
  | o :: r, s => by
    have ih := aops_cat C b K r
    rw [List.cons_append]
    unfold aops
    simp only [ih]
theorem cut_at {C : Cx} {ops : List ROp} {k : List It} {s : St} (F n : Nat) (h : ∀ K1 : St → Prop, (∀ s', aops C (ops.drop n) s' (fun s'' => awp C F k s'') → K1 s') → aops C (ops.take n) s K1) : Sound C (.code (.reg ops) :: k) s :=
  go_on (F + 1) (by
    show aops C ops s fun s'' => awp C F k s''
    have e : ops = ops.take n ++ ops.drop n := (List.take_append_drop n ops).symm
    conv => arg 2; rw [e]
    rw [aops_cat]
    exact h _ fun s' hs => hs)
theorem rem_small {n : Int} (hn : 0 ≤ n ∧ n < 256) (m : Nat) (hm : 0 < m) : ∃ j : Nat, j < m ∧ (IntKind.i64.wrap n).tmod (m : Int) = (j : Int) := by
  have e : IntKind.i64.wrap n = n := by rw [IntKind.wrap_i64]; omega
  refine ⟨n.toNat % m, Nat.mod_lt _ hm, ?_⟩
  rw [e, Int.natCast_emod, Int.toNat_of_nonneg hn.1, Int.tmod_eq_emod_of_nonneg hn.1]
def isZ (v : List UInt8) (x : List Xattr) : Bool := x.any fun y => decide (y.name = zN) && decide (y.value = v)
theorem isZ_step (v : List UInt8) {x : List Xattr} {k : Nat} (h : k < x.length) : isZ v (x.take (k + 1)) = (isZ v (x.take k) || (decide ((x.getD k Xattr.z).name = zN) && decide ((x.getD k Xattr.z).value = v))) := by
  unfold isZ
  rw [List.take_succ_eq_append_getElem h, List.any_append, List.getD_eq_getElem?_getD, List.getElem?_eq_getElem h]
  simp
theorem isZ_mem {v : List UInt8} {x : List Xattr} (h : (⟨zN, v⟩ : Xattr) ∈ x) : isZ v x = true := by
  unfold isZ
  exact List.any_eq_true.2 ⟨_, h, by simp⟩
set_option maxRecDepth 100000 in
set_option maxHeartbeats 4000000 in
theorem xattrLast_c (ns : Th (List Int)) (v : Th (List UInt8)) (which : Th Int) (hns : isBytes (ns .o)) (hs : (ns .o).length ≤ 140737488355328) (hw : 0 ≤ which .o ∧ which .o < 256) : CallAt PT l13_XattrLast [byteI ns, .str v, .int .u8 which] 9999 .nil Yes := by
  refine l13_XattrLast.of rfl rfl ?_
  cbv
  refine br_dec (fun h0 => ?_) (fun h0 => ?_)
  · cbv
    refine awake13_c fun b hb => ?_
    cbv
    exact ⟨b, rfl, hb⟩
  have h0 : (v .o).length ≤ 200 := by have h0 : ¬ (200 < zi (v .o).length) := h0; unfold zi at h0; omega
  cbv
  refine l13e_c ns hns hs fun l hl _ => ?_
  have hok := hl.ok
  have hup := hl.up
  have hl6 := hl.len
  have hlong : longX (l .o) := fun x hx => by have := (hl.made x hx).1; omega
  have hsh : short (l .o) := by unfold short; omega
  have hrl := recsX_len (l .o)
  have hsm : ∀ r ∈ recsX (l .o), SmallX 1000000 r := recsX_small hok
  cbv
  refine recsO_c l hsh hlong hok ?_
  cbv
  refine r1sixty_c v (by omega) fun u hu => ?_
  cbv
  refine app_rows Xattr.ch Xattr.z (recsX (l .o)) [zA, zB (v .o)] rfl (fun i hi => rfl) rfl (fun i hi => by
    have hi : i < 2 := hi
    obtain rfl | rfl : i = 0 ∨ i = 1 := by omega
    · rfl
    · show AV.cons _ (.cons (.str u) .nil) = AV.cons _ (.cons (.str fun _ => sixtyS (v .o)) .nil)
      rw [← hu]
      rfl) (by show (_ + 2) * 32 ≤ _; omega) ?_
  cbv
  have hrs : (recsX (l .o) ++ [zA, zB (v .o)]).length ≤ 14 := by rw [List.length_append]; show _ + 2 ≤ _; omega
  have hf := last_fold hup (v .o)
  have hxo := lastX_ok hl h0
  have hsm1 : ∀ r ∈ recsX (l .o) ++ [zA, zB (v .o)], SmallX 1000000 r := fun r hr => by
    have h6 := sixty_len (v .o)
    rcases List.mem_append.1 hr with q | q
    · exact hsm r q
    · rcases List.mem_cons.1 q with q | q
      · rw [q]; exact ⟨by decide, by decide⟩
      · rw [List.mem_singleton.1 q]; exact ⟨by show (libS ++ zN).length ≤ _; decide, by show (sixtyS _).length ≤ _; omega⟩
  have hmem : (⟨zN, v .o⟩ : Xattr) ∈ lastX (l .o) (v .o) := addX_self _ _
  generalize recsX (l .o) ++ [zA, zB (v .o)] = rs at hrs hf hsm1
  generalize lastX (l .o) (v .o) = x at hf hxo hmem
  refine xfromO_c (fun _ => rs) (by show rs.length ≤ _; omega) hsm1 (fun y hy hyo => ?_) (fun h => (h _ hf hxo).elim)
  obtain rfl : x = y := Option.some.inj (hf.symm.trans hy)
  have hx1 : 0 < x.length := List.length_pos_of_mem hmem
  have hx32 := hxo.len
  cbv
  refine safe (fun i hi => rfl) ?_
  refine err_c _ ?_
  cbv
  refine ⟨fun _ => ?_, fun h => by cases h⟩
  cbv
  refine br_dec (fun h1 => ?_) (fun h1 => ?_)
  · exfalso
    have h1 : zi x.length < 1 := h1
    unfold zi at h1
    omega
  cbv
  refine loop_at (X := Nat) 1000 [1, 2, 8, 9] [23, 32] (fun _ k => .cons 11 (.bool fun _ => isZ (v .o) (x.take k)) (.cons 12 (.int .i64 fun _ => zi k) .nil)) (fun _ _ => .nil) (fun k => k ≤ x.length) (fun k => x.length - k) 0 ?_ (Nat.zero_le _) ?_
  · cbv
    (repeat' (first | exact True.intro | exact Same.refl _ | exact SameB.refl _ | exact ⟨rfl⟩ | exact Same.int rfl | exact Same.str rfl | exact Same.bool rfl | (refine Same.int ?_; simp only [List.length_append, List.length_cons, List.length_nil, zi]; omega) | (refine SameB.row' rfl fun i hi => ?_; first | rfl | exact absurd hi (Nat.not_lt_zero _)) | refine And.intro ?_ ?_ | refine SameB.cells ?_ | exact SameC.nil | refine SameC.cons ?_ ?_ | exact Same.nsl rfl | exact Same.tt rfl | exact Same.ff rfl))
  · intro k hk
    have hk : k ≤ x.length := hk
    have hz := zi_toNat k
    cbv
    refine br_zlt (fun h2 => ?_) (fun h2 => ?_)
    · have h2 : k < x.length := h2
      have htm := isZ_step (v .o) h2
      cbv
      refine ⟨fun h3 => ?_, fun h3 => ?_⟩
      · have h3 : isZ (v .o) (x.take k) = false := h3
        rw [h3, Bool.false_or] at htm
        cbv
        refine safe ⟨zi_nonneg _, zi_lt.2 h2⟩ ?_
        refine safe (by show (zi k).toNat < x.length; rw [hz]; exact h2) ?_
        cbv
        rw [hz]
        refine br_dec (fun h4 => ?_) (fun h4 => ?_)
        · have h4 : (x.getD k Xattr.z).name = zN := h4
          rw [decide_eq_true h4, Bool.true_and] at htm
          cbv
          refine safe ⟨zi_nonneg _, zi_lt.2 h2⟩ ?_
          refine safe (by show (zi k).toNat < x.length; rw [hz]; exact h2) ?_
          cbv
          refine ⟨k + 1, h2, by show x.length - (k + 1) < x.length - k; omega, ?_⟩
          cbv
          rw [zi_succ (by omega)]
          (repeat' (first | exact True.intro | exact Same.refl _ | exact SameB.refl _ | exact ⟨rfl⟩ | exact Same.int rfl | exact Same.str rfl | exact Same.bool rfl | (refine Same.int ?_; simp only [List.length_append, List.length_cons, List.length_nil, zi]; omega) | (refine SameB.row' rfl fun i hi => ?_; first | rfl | exact absurd hi (Nat.not_lt_zero _)) | refine And.intro ?_ ?_ | refine SameB.cells ?_ | exact SameC.nil | refine SameC.cons ?_ ?_ | exact Same.nsl rfl | exact Same.tt rfl | exact Same.ff rfl))
          all_goals (refine Same.bool ?_; rw [hz]; exact htm.symm)
        · have h4 : ¬ (x.getD k Xattr.z).name = zN := h4
          rw [decide_eq_false h4, Bool.false_and] at htm
          cbv
          refine ⟨k + 1, h2, by show x.length - (k + 1) < x.length - k; omega, ?_⟩
          cbv
          rw [zi_succ (by omega)]
          (repeat' (first | exact True.intro | exact Same.refl _ | exact SameB.refl _ | exact ⟨rfl⟩ | exact Same.int rfl | exact Same.str rfl | exact Same.bool rfl | (refine Same.int ?_; simp only [List.length_append, List.length_cons, List.length_nil, zi]; omega) | (refine SameB.row' rfl fun i hi => ?_; first | rfl | exact absurd hi (Nat.not_lt_zero _)) | refine And.intro ?_ ?_ | refine SameB.cells ?_ | exact SameC.nil | refine SameC.cons ?_ ?_ | exact Same.nsl rfl | exact Same.tt rfl | exact Same.ff rfl))
          all_goals exact Same.ff htm
      · have h3 : isZ (v .o) (x.take k) = true := h3
        rw [h3, Bool.true_or] at htm
        cbv
        refine ⟨k + 1, h2, by show x.length - (k + 1) < x.length - k; omega, ?_⟩
        cbv
        rw [zi_succ (by omega)]
        (repeat' (first | exact True.intro | exact Same.refl _ | exact SameB.refl _ | exact ⟨rfl⟩ | exact Same.int rfl | exact Same.str rfl | exact Same.bool rfl | (refine Same.int ?_; simp only [List.length_append, List.length_cons, List.length_nil, zi]; omega) | (refine SameB.row' rfl fun i hi => ?_; first | rfl | exact absurd hi (Nat.not_lt_zero _)) | refine And.intro ?_ ?_ | refine SameB.cells ?_ | exact SameC.nil | refine SameC.cons ?_ ?_ | exact Same.nsl rfl | exact Same.tt rfl | exact Same.ff rfl))
        all_goals exact Same.tt htm
    · have h2 : x.length ≤ k := h2
      obtain rfl : k = x.length := by omega
      have his : isZ (v .o) (x.take x.length) = true := by rw [List.take_length]; exact isZ_mem hmem
      cbv
      obtain ⟨bl, hbl⟩ : ∃ bl : List Xattr, bl = badL := ⟨_, rfl⟩
      have hbl5 : bl.length = 5 := by rw [hbl]; rfl
      refine row_told 72 (fun _ => bl.length) (fun i => Xattr.ch fun _ => bl.getD (i .o) Xattr.z) rfl hbl5.symm (fun i hi => ?_) ?_
      · have hi : i < 5 := hi
        rw [hbl]
        obtain rfl | rfl | rfl | rfl | rfl : i = 0 ∨ i = 1 ∨ i = 2 ∨ i = 3 ∨ i = 4 := by omega
        all_goals exact Fits.of_eq rfl
      refine cut_at 1000 7 fun K1 hK1 => ?_
      cbv
      refine safe (by show zi bl.length ≠ 0; rw [hbl5]; decide) ?_
      refine hK1 _ ?_
      obtain ⟨j, hj, hje⟩ := rem_small hw 5 (by decide)
      have hje : (IntKind.i64.wrap (which .o)).tmod (zi bl.length) = zi j := by rw [hbl5]; exact hje
      have hjz := zi_toNat j
      simp only [hje]
      cbv
      refine safe ⟨zi_nonneg _, zi_lt.2 (by rw [hbl5]; exact hj)⟩ ?_
      refine safe (by show (zi j).toNat < bl.length; rw [hjz, hbl5]; exact hj) ?_
      simp only [hjz]
      have hbf : ∀ l, foldX (rs ++ [bl.getD j Xattr.z]) = some l → ¬ XsOk l := by rw [hbl]; exact bad_fold hf hj
      have hbs : SmallX 1000000 (bl.getD j Xattr.z) := by rw [hbl]; exact bad_small j
      have hsm2 : ∀ r ∈ rs ++ [bl.getD j Xattr.z], SmallX 1000000 r := fun r hr => by
        rcases List.mem_append.1 hr with q | q
        · exact hsm1 r q
        · rw [List.mem_singleton.1 q]; exact hbs
      have hl2 : (rs ++ [bl.getD j Xattr.z]).length ≤ 15 := by rw [List.length_append]; show _ + 1 ≤ _; omega
      refine app_one Xattr.ch Xattr.z rs (bl.getD j Xattr.z) rfl (fun i hi => rfl) rfl rfl (by omega) ?_
      generalize rs ++ [bl.getD j Xattr.z] = rs2 at hbf hsm2 hl2
      cbv
      refine xfromO_c (fun _ => rs2) (by show rs2.length ≤ _; omega) hsm2 (fun y hy hyo => (hbf _ hy hyo).elim) fun _ => ?_
      cbv
      refine br_is his ?_
      cbv
      refine err_c _ ?_
      cbv
      refine br_is (by decide) ?_
      cbv
      refine br_is (by decide) ?_
      cbv
      refine awake13_c fun b hb => ?_
      cbv
      exact ⟨b, rfl, hb⟩
end Go.Proofs.Ytjjddmbnfkmfdaa

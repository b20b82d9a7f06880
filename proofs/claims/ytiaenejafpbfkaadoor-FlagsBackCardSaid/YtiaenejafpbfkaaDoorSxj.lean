/- A symbolic executor for the model's code: every operation does as the model does, the third part. -/
import Derived.Test.YtiaenejafpbfkaaDoorSxq
import Derived.Great.BuildSlice
import Derived.Lib.ConvBytes
import Derived.Laws.MakeOwn
namespace Go.Proofs.YtiaenejafpbfkaaDoor.Sx
open Go
set_option linter.unusedSimpArgs false
set_option linter.unusedVariables false

def isQuiet : RO → Bool
  | .alloc _ => false | .box _ => false | .bslice _ _ _ _ => false | .append _ _ _ _ => false | .s2s _ => false | .mks _ _ _ _ _ => false | .store _ _ _ => false | .call _ _ => false | .callv _ _ => false | .panic _ => false | .defer _ _ => false | .peek _ _ => false | .isNil _ _ => false | .clr _ _ _ => false | .allocR _ _ _ => false
  | _ => true

theorem aop_quiet {C : Cx} {ro : RO} {dst : Option Nat} {s : St} {K : St → Prop} (hq : isQuiet ro = true) (h : aop C ro dst s K) : ∃ v, (qev s ro).gives v ∧ K (s.setO dst v) := by
  have key : (match qev s ro with | .bad => False | .ok v => K (s.setO dst v) | .cond p v => (True → p .o) ∧ K (s.setO dst v)) → ∃ v, (qev s ro).gives v ∧ K (s.setO dst v) := by
    intro h
    split at h
    · exact h.elim
    · rename_i v hv; exact ⟨v, .inl hv, h⟩
    · rename_i p v hv; exact ⟨v, .inr ⟨p, hv, h.1 trivial⟩, h.2⟩
  cases ro <;> simp only [isQuiet, Bool.false_eq_true] at hq <;> exact key h

theorem rOp_quiet {P : Program} {op : Op} {ro : RO} (h : rOp P op = some ro) : isQuiet ro = true := by
  unfold rOp at h
  repeat' split at h
  all_goals first
    | (cases h; done)
    | (obtain ⟨y, _, rfl⟩ := opt_map h; rfl)
    | (cases h; rfl)
    | (cases h; split <;> rfl)

section
variable {C : Cx} {E0 : Env} {B0 : BL} {E : Env} {s : St} {a : Act} {o : Oper} {K : St → Prop} {next : Act → World → Prop} {Qc : Exit → Act → World → Prop}

theorem liveAt_not {B : BL} {d : Nat} (h : (B.get d).live = false) : ¬ B.liveAt d := by simp [BL.liveAt, h]
theorem fresh_spec {d : Nat} (h : fresh s d = true) : ¬ s.b.liveAt d ∧ d < 10000 := by
  unfold fresh at h
  split at h
  · cases h
  · rename_i hl; exact ⟨liveAt_not hl, by simpa [ltB] using h⟩

def UponOk (C : Cx) (E0 : Env) (B0 : BL) (a : Act) (K : St → Prop) (next : Act → World → Prop) (Qc : Exit → Act → World → Prop) : Prop :=
  (∀ E' s' a', Rel C.N E0 B0 E' s' a' → K s' → next a' E'.w) ∧
  (∀ E' s' v x, Rel C.N E0 B0 E' s' a → Rp E' v x → (∀ y, v.locs y → s'.b.liveAt y) → C.X (some v) s' → Qc (.panic [{ v := x, recovered := false }]) a E'.w)

theorem quiet_sound (h : Rel C.N E0 B0 E s a) (hB0 : ∀ x, x < 10000 → ¬ B0.liveAt x) {ro : RO} (hr : rOp (C.P .o) o.op = some ro) (hN : ∀ d, o.dst = some d → d < C.N) (ha : aop C ro o.dst s K)
    (hk : UponOk C E0 B0 a K next Qc) : o.wp (C.P .o) a E.w next Qc := by
  obtain ⟨v, hg, hK⟩ := aop_quiet (rOp_quiet hr) ha
  obtain ⟨z, h1, h2⟩ := qev_sound h.si hr hg
  unfold Oper.wp
  rw [h1]
  exact hk.1 E _ _ (h.value hB0 hN h2 (qev_locs h hr hg)) hK

theorem cells_of {c : AV} {v : Value} (h : rCells v = some c) : ListC E c v.cells.toList ∧ ∀ y, ¬ c.locs y := by
  unfold rCells at h
  split at h
  · rename_i x hx
    obtain ⟨h1, h2⟩ := cval_sound (E := E) hx
    obtain ⟨h3, _, h4⟩ := cells_sound h1 h
    exact ⟨h3, fun y hy => (AV.still_locs _).1 h2 y ((h4 y).1 hy)⟩
  · cases h

theorem alloc_sound (h : Rel C.N E0 B0 E s a) (hB0 : ∀ x, x < 10000 → ¬ B0.liveAt x) {t : TypeId} (ho : o.op = .alloc t) {i : TypeInfo} {z : Value} {c : AV} (hi : (C.P .o).info? t = some i) (hz : i.zero = some z) (hc : rCells z = some c)
    (hN : ∀ d, o.dst = some d → d < C.N) (ha : aop C (.alloc c) o.dst s K) (hk : UponOk C E0 B0 a K next Qc) : o.wp (C.P .o) a E.w next Qc := by
  simp only [aop] at ha
  split at ha
  · rename_i d hd
    split at ha
    · rename_i hf
      obtain ⟨hdead, hlt⟩ := fresh_spec hf
      obtain ⟨hcl, hl⟩ := cells_of (E := E) hc
      obtain ⟨E', hw, hR⟩ := h.alloc hB0 (hN d hd) hdead hlt hcl (fun y hy => (hl y hy).elim) t
      have hrun : (execOp a.eval o).run (C.P .o) E.w = .ok (.value (.pointer (some ⟨E.w.heap.size, 0, none⟩))) (E.w.alloc (.cells z.cells t)) := by
        unfold execOp
        simp only [ho]
        simp [Instr.alloc, zeroValue, typeInfo, hi, hz, newVar, newRow, newObj, Sem.run]
      unfold Oper.wp
      rw [hrun]
      have hw' : E'.w = E.w.alloc (.cells z.cells t) := by simpa using hw
      show next (a.put o.dst _) _
      rw [← hw', hd]
      exact hk.1 E' _ _ hR ha
    · exact ha.elim
  · exact ha.elim

theorem box_sound (h : Rel C.N E0 B0 E s a) (hB0 : ∀ x, x < 10000 → ¬ B0.liveAt x) {t : TypeId} {x : Operand} {x' : Opd} (ho : o.op = .box t x) (hx : rOpd x = some x')
    (hN : ∀ d, o.dst = some d → d < C.N) (ha : aop C (.box x') o.dst s K) (hk : UponOk C E0 B0 a K next Qc) : o.wp (C.P .o) a E.w next Qc := by
  simp only [aop] at ha
  split at ha
  · rename_i d c hd hc
    split at ha
    · rename_i hf
      obtain ⟨hdead, hlt⟩ := fresh_spec hf
      obtain ⟨hcl, _, hl⟩ := cells_sound (opd_sound h.si hx) hc
      obtain ⟨E', hw, hR⟩ := h.alloc hB0 (hN d hd) hdead hlt hcl (fun y hy => opd_locs h hx ((hl y).1 hy)) t
      have hrun : (execOp a.eval o).run (C.P .o) E.w = .ok (.value (.pointer (some ⟨E.w.heap.size, 0, none⟩))) (E.w.alloc (.cells (a.eval x).cells t)) := by
        unfold execOp
        simp only [ho]
        simp [Instr.box, newVar, newRow, newObj, Sem.run]
      unfold Oper.wp
      rw [hrun]
      have hw' : E'.w = E.w.alloc (.cells (a.eval x).cells t) := by simpa using hw
      show next (a.put o.dst _) _
      rw [← hw', hd]
      exact hk.1 E' _ _ hR ha
    · exact ha.elim
  · exact ha.elim

theorem stillB_spec (x : AV) (h : x.stillB = true) : x.still := by
  induction x with
  | cons a b iha ihb => unfold AV.stillB at h; split at h; · rename_i ha; exact ⟨iha ha, ihb h⟩
                        · cases h
  | fn f a b iha ihb => unfold AV.stillB at h; split at h; · rename_i ha; exact ⟨iha ha, ihb h⟩
                        · cases h
  | iptr c ih => exact ih h
  | ifc t v ih => exact ih h
  | agg c ih => exact ih h
  | tup c ih => exact ih h
  | row d => cases h
  | ptr d o => cases h
  | rptr d s i o => cases h
  | win d s i o => cases h
  | _ => trivial

theorem over_scals (c : AV) : ∀ (n : Nat) (y r : AV), c.scals = true → y.scals = true → c.over n y = some r → r.scals = true := by
  induction c with
  | cons h t _ iht =>
    intro n y r hc hy ho
    unfold AV.scals at hc
    split at hc
    rotate_left
    · cases hc
    rename_i hh
    cases n with
    | succ n =>
      simp only [AV.over] at ho
      split at ho
      · rename_i r' hr
        cases ho
        unfold AV.scals
        rw [hh]
        exact iht n y r' hc hy hr
      · cases ho
    | zero =>
      cases y with
      | nil =>
        have : r = .cons h t := by simp [AV.over] at ho; exact ho.symm
        subst this
        unfold AV.scals
        rw [hh]
        exact hc
      | cons p q =>
        simp only [AV.over] at ho
        split at ho
        · rename_i r' hr
          cases ho
          unfold AV.scals at hy
          split at hy
          · rename_i ha
            unfold AV.scals
            rw [ha]
            exact iht 0 q r' hc hy hr
          · cases hy
        · cases ho
      | _ => simp [AV.over] at ho
  | nil =>
    intro n y r hc hy ho
    cases n <;> cases y <;> simp [AV.over] at ho
    subst ho; rfl
  | _ => intro n y r hc hy ho; unfold AV.scals at hc; cases hc
theorem seg_put_same {α : Type} {cur vals : List α} {sz i off : Nat} (hl : i * sz + sz ≤ cur.length) (h : off + vals.length ≤ sz) :
    ((cur.take (i * sz + off) ++ vals ++ cur.drop (i * sz + off + vals.length)).drop (i * sz)).take sz = ((cur.drop (i * sz)).take sz).take off ++ vals ++ ((cur.drop (i * sz)).take sz).drop (off + vals.length) := by
  generalize i * sz = L at hl ⊢
  apply List.ext_getElem?
  intro k
  simp only [List.getElem?_take, List.getElem?_drop, List.getElem?_append, List.length_append, List.length_take, List.length_drop]
  repeat' split
  all_goals first | omega | rfl | (congr 1; omega) | (symm; apply List.getElem?_eq_none; omega) | (apply List.getElem?_eq_none; omega)
theorem seg_put_other {α : Type} {cur vals : List α} {sz i j off : Nat} (hl : i * sz + sz ≤ cur.length) (h : off + vals.length ≤ sz) (hj : j ≠ i) :
    ((cur.take (i * sz + off) ++ vals ++ cur.drop (i * sz + off + vals.length)).drop (j * sz)).take sz = (cur.drop (j * sz)).take sz := by
  have hc : j * sz + sz ≤ i * sz ∨ i * sz + sz ≤ j * sz := by
    rcases Nat.lt_or_gt_of_ne hj with q | q
    · left; have := Nat.mul_le_mul_right sz q; rw [Nat.succ_mul] at this; exact this
    · right; have := Nat.mul_le_mul_right sz q; rw [Nat.succ_mul] at this; exact this
  generalize i * sz = L at hl hc ⊢
  generalize j * sz = M at hc ⊢
  apply List.ext_getElem?
  intro k
  simp only [List.getElem?_take, List.getElem?_drop, List.getElem?_append, List.length_append, List.length_take, List.length_drop]
  repeat' split
  all_goals first | omega | rfl | (congr 1; omega) | (symm; apply List.getElem?_eq_none; omega) | (apply List.getElem?_eq_none; omega)
theorem rep_seg {α : Type} {z : List α} {sz : Nat} (hz : z.length = sz) : ∀ {m j : Nat}, j < m → ((List.replicate m z).flatten.drop (j * sz)).take sz = z
  | 0, j, hj => by omega
  | m + 1, 0, _ => by simp [List.replicate_succ, ← hz]
  | m + 1, j + 1, hj => by
    rw [List.replicate_succ, List.flatten_cons, Nat.succ_mul, Nat.add_comm, ← List.drop_drop, List.drop_left' hz]
    exact rep_seg hz (by omega)

theorem store_sound (h : Rel C.N E0 B0 E s a) (hB0 : ∀ x, x < 10000 → ¬ B0.liveAt x) {t : TypeId} {x y : Operand} {x' y' : Opd} {i : TypeInfo} (ho : o.op = .store t x y) (hi : (C.P .o).info? t = some i) (hx : rOpd x = some x') (hy : rOpd y = some y')
    (hdst : o.dst = none) (ha : aop C (.store i.size x' y') o.dst s K) (hk : UponOk C E0 B0 a K next Qc) : o.wp (C.P .o) a E.w next Qc := by
  simp only [aop] at ha
  split at ha
  · rename_i d off vc hp hc
    split at ha
    · rename_i c hb
      split at ha
      · rename_i c' hlen hov
        have hxs := opd_sound h.si hx
        rw [hp] at hxs
        simp only [Rp] at hxs
        obtain ⟨hcl, hone, hl⟩ := cells_sound (opd_sound h.si hy) hc
        have hB := h.inv.blk d
        rw [hb] at hB
        obtain ⟨l, e, h1, h2⟩ := hB
        obtain ⟨h3, h4, h5⟩ := over_sound c off vc c' l _ h2 hcl hov
        have hdl : solidAt E s.b d := by unfold solidAt; rw [hb]; trivial
        obtain ⟨E', hw, hR⟩ := h.setBlk hB0 hdl (l.take off ++ (a.eval y).cells.toList ++ l.drop (off + (a.eval y).cells.toList.length)) (.cells c') rfl (by rw [hb]; rfl)
          (fun z hz => (h5 z hz).elim (fun q => h.inv.nm d z (by rw [hb]; exact q)) fun q => opd_locs h hy ((hl z).1 q))
          (fun E' hw hρ hrv hle => ⟨_, e, by rw [hw, hρ]; exact setRow_heap _ _ _ _ _ _ h1, (rp_mono hle c' fun z _ => ⟨by rw [hρ], by rw [hrv]⟩).2.1 _ h4⟩)
        have hvl : (a.eval y).cells.size = i.size := by
          have q1 := listC_len hcl
          have q2 : vc.len = i.size := by simpa using hlen
          simpa [q2] using q1
        have hst := run_storeCells_at (P := C.P .o) (E.ρ d) off e (a.eval y).cells.toList 0 l.toArray E.w h1 (by simpa using h3) hone
        have hrun : (execOp a.eval o).run (C.P .o) E.w = .ok .skip (E.w.setRow (E.ρ d) (l.take off ++ (a.eval y).cells.toList ++ l.drop (off + (a.eval y).cells.toList.length)).toArray) := by
          unfold execOp
          simp only [ho, hxs]
          simp only [Instr.storeAt, Instr.sureAddr, storeVar, Sem.run_bind, Sem.run_pure, Result.andThen_ok, run_sizeOf hi, hvl, ne_eq, not_true_eq_false, if_false]
          rw [hst]
          simp
        unfold Oper.wp
        rw [hrun]
        show next (a.put o.dst undef) _
        rw [← hw, hdst]
        exact hk.1 E' _ _ hR ha
      · exact ha.elim
    · exact ha.elim
  · rename_i d sz' n off vc hp hc
    split at ha
    rotate_left
    · exact ha.elim
    rename_i sz n' g hb
    split at ha
    rotate_left
    · exact ha.elim
    rename_i hsz hlen hst hsc
    have hszz : sz' = sz := by simpa using hsz
    subst hszz
    obtain ⟨hroom, g', c', hov, hg1, hg2, hK⟩ := ha
    have hxs := opd_sound h.si hx
    rw [hp] at hxs
    simp only [Rp] at hxs
    obtain ⟨hcl, hone, hl⟩ := cells_sound (opd_sound h.si hy) hc
    have hvl : (a.eval y).cells.size = i.size := by
      have q1 := listC_len hcl
      have q2 : vc.len = i.size := by simpa using hlen
      simpa [q2] using q1
    have hB := h.inv.blk d
    rw [hb] at hB
    rcases hB with ⟨_, h0⟩ | ⟨cap, cur, e, h1, h2, h3, h4, h5, h6⟩
    · rw [h0] at hroom; exact (Nat.not_lt_zero _ hroom).elim
    have hdl : solidAt E s.b d := by unfold solidAt; rw [hb]; show E.rv d ≠ _; rw [h1]; simp
    have hseg := row_elem h5 h3 hroom
    obtain ⟨ko, kl, kloc⟩ := over_sound _ off vc c' _ _ (h6 _ hroom).2 hcl hov
    rw [hseg] at ko
    have hin : n .o * sz' + sz' ≤ cur.length := by
      rw [h5]
      have : (n .o + 1) * sz' ≤ cap * sz' := Nat.mul_le_mul_right _ (by omega)
      rw [Nat.add_mul] at this; omega
    have hvll : (a.eval y).cells.toList.length = i.size := by simpa using hvl
    have hlen' : (cur.take (n .o * sz' + off) ++ (a.eval y).cells.toList ++ cur.drop (n .o * sz' + off + (a.eval y).cells.toList.length)).length = cur.length := by
      simp only [List.length_append, List.length_take, List.length_drop]; omega
    have hc'ok : c'.okE := ⟨(AV.still_locs _).2 fun z hz => (kloc z hz).elim ((AV.still_locs _).1 (h6 _ hroom).1.1 z) ((AV.still_locs _).1 (stillB_spec vc hst) z), over_scals _ off vc c' (h6 _ hroom).1.2 hsc hov⟩
    obtain ⟨E', hw, hR⟩ := h.setBlk hB0 hdl (cur.take (n .o * sz' + off) ++ (a.eval y).cells.toList ++ cur.drop (n .o * sz' + off + (a.eval y).cells.toList.length)) (.row sz' n' g') rfl (by rw [hb]; rfl)
      (fun z hz => hz.elim)
      (fun E' hw hρ hrv hle => by
        refine .inr ⟨cap, _, e, by rw [hrv, hρ]; exact h1, by rw [hw, hρ]; exact h2.setRow hlen', h3, h4, by rw [hlen']; exact h5, fun j hj => ?_⟩
        by_cases he : j = n .o
        · subst he
          refine ⟨hg2.ok hc'ok, hg2.rp E' _ ?_⟩
          rw [seg_put_same hin (by omega)]
          exact (rp_mono hle c' fun z hz => ((AV.still_locs _).1 hc'ok.1 z hz).elim).2.1 _ kl
        · have hf := hg1 j hj he
          refine ⟨hf.ok (h6 j hj).1, hf.rp E' _ ?_⟩
          rw [seg_put_other hin (by omega) he]
          exact (rp_mono hle _ fun z hz => ((AV.still_locs _).1 (h6 j hj).1.1 z hz).elim).2.1 _ (h6 j hj).2)
    obtain ⟨fr, hgh, hsoft⟩ := h2.ex
    have hst' := run_storeCells_soft (C.P .o) (E.ρ d) (n .o * sz' + off) e fr (a.eval y).cells.toList 0 cur.toArray E.w hgh (by simpa using hsoft) (by simp only [List.size_toArray]; omega) hone
    have hrun : (execOp a.eval o).run (C.P .o) E.w = .ok .skip (E.w.setRow (E.ρ d) (cur.take (n .o * sz' + off) ++ (a.eval y).cells.toList ++ cur.drop (n .o * sz' + off + (a.eval y).cells.toList.length)).toArray) := by
      unfold execOp
      simp only [ho, hxs]
      simp only [Instr.storeAt, Instr.sureAddr, storeVar, Sem.run_bind, Sem.run_pure, Result.andThen_ok, run_sizeOf hi, hvl, ne_eq, not_true_eq_false, if_false]
      rw [hst']
      simp
    unfold Oper.wp
    rw [hrun]
    show next (a.put o.dst undef) _
    rw [← hw, hdst]
    exact hk.1 E' _ _ hR hK
  · exact ha.elim

theorem mks_sound (h : Rel C.N E0 B0 E s a) (hB0 : ∀ x, x < 10000 → ¬ B0.liveAt x) {t e : TypeId} {l c : Operand} (ho : o.op = .makeSlice t l c) {i : TypeInfo} {z : Value} {cz : AV} {l' c' : Opd}
    (hu : (C.P .o).underlying t = some (.slice e)) (hi : (C.P .o).info? e = some i) (hz : i.zero = some z) (hcz : rCells z = some cz) (hl : rOpd l = some l') (hc : rOpd c = some c') (hcond : z.cells.size = i.size ∧ (cz.stillB = true ∧ cz.scals = true) ∧ i.size ≠ 0)
    (hN : ∀ d, o.dst = some d → d < C.N) (ha : aop C (.mks i.size i.bytes cz l' c') o.dst s K) (hk : UponOk C E0 B0 a K next Qc) : o.wp (C.P .o) a E.w next Qc := by
  have hls := opd_sound h.si hl
  have hcs := opd_sound h.si hc
  simp only [aop] at ha
  split at ha
  rotate_left
  · exact ha.elim
  rename_i d k1 n k2 m hd he1 he2
  rw [he1] at hls
  rw [he2] at hcs
  have hls : a.eval l = .int k1 (n .o) := hls
  have hcs : a.eval c = .int k2 (m .o) := hcs
  split at ha
  rotate_left
  · exact ha.elim
  rename_i hf
  obtain ⟨hdead, hlt⟩ := fresh_spec hf
  obtain ⟨hp, hK⟩ := ha
  obtain ⟨h1, h2, h3, h4⟩ := hp trivial
  obtain ⟨hzc, _⟩ := cells_of (E := E) hcz
  have hzne : z.cells.size ≠ 0 := by rw [hcond.1]; exact hcond.2.2
  have hmade : (madeCells z.cells ((m .o).toNat * i.size)).toList = (List.replicate (m .o).toNat z.cells.toList).flatten := by
    unfold madeCells
    rw [← hcond.1]
    exact range_zero _ _ hzne
  have hmlen : (madeCells z.cells ((m .o).toNat * i.size)).toList.length = (m .o).toNat * i.size := by simp [size_madeCells]
  have hok : cz.okE := ⟨stillB_spec cz hcond.2.1.1, hcond.2.1.2⟩
  obtain ⟨E', hw, hR⟩ := h.newBlk hB0 (hN d hd) hdead hlt (madeCells z.cells ((m .o).toNat * i.size)).toList e (.slice (some ⟨E.w.heap.size, 0, none⟩) (n .o).toNat (m .o).toNat) (.row i.size (fun _ => (n .o).toNat) fun _ => cz) (.row d) (.slice (some ⟨E.w.heap.size, 0, none⟩) (n .o).toNat (m .o).toNat)
    rfl (fun y hy => hy.elim) (fun y hy => hy) (fun E' hw hle hρ hrv hs => by
      refine ⟨.inr ⟨(m .o).toNat, _, e, by rw [hrv, hρ], by rw [hρ, hw]; exact Hs.mk0 (alloc_new _ _), by show (n .o).toNat ≤ _; omega, by unfold maxLen; omega, hmlen, fun j hj => ⟨hok, ?_⟩⟩, hrv.symm, _, _, _, rfl⟩
      have hj : j < (n .o).toNat := hj
      rw [hmade, rep_seg (by simpa using hcond.1) (by omega : j < (m .o).toNat)]
      exact (rp_mono hle _ fun y hy => ((AV.still_locs _).1 hok.1 y hy).elim).2.1 _ hzc)
  have hrun : (execOp a.eval o).run (C.P .o) E.w = .ok (.value (.slice (some ⟨E.w.heap.size, 0, none⟩) (n .o).toNat (m .o).toNat)) (E.w.alloc (.cells (madeCells z.cells ((m .o).toNat * i.size)) e)) := by
    unfold execOp
    simp only [ho]
    rw [run_valueOf, hls, hcs, run_make E.w t e i z hu hi hz k1 k2 (n .o) (m .o) h1 h2 h3 h4]
    rfl
  unfold Oper.wp
  rw [hrun]
  have hw' : E'.w = E.w.alloc (.cells (madeCells z.cells ((m .o).toNat * i.size)) e) := by simpa using hw
  show next (a.put o.dst _) _
  rw [← hw', hd]
  exact hk.1 E' _ _ hR hK

/-- Another memory, in which a new block is shut for good. -/
theorem Rel.newImm (h : Rel C.N E0 B0 E s a) {w' : World} (h1 : w'.os = E.w.os) (h2 : w'.tape = E.w.tape) (h3 : w'.output = E.w.output) (h4 : w'.heap.size = E.w.heap.size + 1) (h5 : ∀ b, b < E.w.heap.size → w'.heap[b]? = E.w.heap[b]?) :
    Rel C.N E0 B0 ⟨E.ρ, E.rv, fun b o => E.I b o ∨ b = E.w.heap.size, w'⟩ s a := by
  have hle : E.Le ⟨E.ρ, E.rv, fun b o => E.I b o ∨ b = E.w.heap.size, w'⟩ := ⟨fun _ _ h => .inl h, fun b o hi => by unfold World.cell?; rw [h5 b (h.inv.ibd b o hi)]⟩
  have hsol : ∀ x, solidAt ⟨E.ρ, E.rv, fun b o => E.I b o ∨ b = E.w.heap.size, w'⟩ s.b x ↔ solidAt E s.b x := fun x => solid_same rfl
  have hpost : Post E s.b ⟨E.ρ, E.rv, fun b o => E.I b o ∨ b = E.w.heap.size, w'⟩ s.b (fun _ => False) :=
    ⟨hle, fun _ _ _ => ⟨rfl, rfl⟩, fun _ _ h => h, h1, h2, h3, by show _ ≤ w'.heap.size; omega, fun b hb _ => h5 b hb, fun _ h => .inl h, fun x hx => .inl ⟨(hsol x).1 hx, rfl⟩, fun _ h => h, fun b o hb => hb.imp id fun q => by omega⟩
  refine h.step (a := a) (dst := none) (v := .any) (x := undef) hpost (fun _ h => h.elim) (fun _ _ => ⟨rfl, rfl⟩) ⟨fun x => ?_, fun x y hx hy => h.inv.dist x y ((hsol x).1 hx) ((hsol y).1 hy), fun x hx => ?_, fun b o hb => ?_, h.inv.nm⟩ (fun _ h => by cases h) trivial (fun y hy => hy.elim)
  · exact blk_mono hle (h.inv.blk x) rfl rfl (fun hs => h5 _ (h.inv.live x hs).1) fun _ _ => ⟨rfl, rfl⟩
  · have := h.inv.live x ((hsol x).1 hx)
    refine ⟨by show E.ρ x < w'.heap.size; omega, fun o q => q.elim (this.2 o) fun q => ?_⟩
    have q : E.ρ x = E.w.heap.size := q
    omega
  · show b < w'.heap.size
    rcases hb with hb | hb
    · have := h.inv.ibd b o hb; omega
    · have hb : b = E.w.heap.size := hb
      omega

theorem s2b_sound (h : Rel C.N E0 B0 E s a) (hB0 : ∀ x, x < 10000 → ¬ B0.liveAt x) {src dst e : TypeId} {x : Operand} {x' : Opd} (ho : o.op = .convert src dst x) (hs : (C.P .o).underlying src = some .string) (hd : (C.P .o).underlying dst = some (.slice e)) (he : (C.P .o).underlying e = some (.int .u8))
    (hx : rOpd x = some x') (hN : ∀ d, o.dst = some d → d < C.N) (ha : aop C (.s2b x') o.dst s K) (hk : UponOk C E0 B0 a K next Qc) : o.wp (C.P .o) a E.w next Qc := by
  obtain ⟨v, hg, hK⟩ := aop_quiet rfl ha
  have hxs := opd_sound h.si hx
  simp only [qev] at hg
  unfold as2b at hg
  split at hg
  rotate_left
  · exact (gives_bad.1 hg).elim
  rename_i st hst
  rw [gives_ok] at hg
  subst hg
  rw [hst] at hxs
  have hxs : a.eval x = .string ⟨(st .o).toArray⟩ := hxs
  have hsz : (⟨(st .o).toArray⟩ : ByteArray).size = (st .o).length := by simp [ByteArray.size]
  have hR := h.newImm (w' := Lib.bytesWorld E.w e ⟨(st .o).toArray⟩) (by simp [Lib.bytesWorld, World.freeze, World.alloc, World.drew, -World.alloc_eq, -World.drew_eq]) (by simp [Lib.bytesWorld, World.freeze, World.alloc, World.drew, -World.alloc_eq, -World.drew_eq])
    (by simp [Lib.bytesWorld, World.freeze, World.alloc, World.drew, -World.alloc_eq, -World.drew_eq]) (Lib.bytesWorld_size _ _ _) fun b hb => Lib.bytesWorld_at_old _ _ _ b hb
  have hrun : (execOp a.eval o).run (C.P .o) E.w = .ok (.value (.slice (some ⟨E.w.heap.size, 0, none⟩) (st .o).length (grownCap E.w (st .o).length 0 e))) (Lib.bytesWorld E.w e ⟨(st .o).toArray⟩) := by
    unfold execOp
    simp only [ho]
    rw [run_valueOf, hxs, Lib.run_convert_string_bytes E.w src dst e _ hs hd he, hsz]
    rfl
  unfold Oper.wp
  rw [hrun]
  show next (a.put o.dst _) _
  refine hk.1 _ _ _ (hR.value hB0 hN (v := .sl 1 (fun _ => (st .o).length) (byteRow st)) ?_ fun y hy => hy.elim) hK
  refine ⟨_, _, rfl, grownCap_ge E.w (st .o).length 0 e, fun i hi => ⟨⟨⟨⟨trivial, trivial⟩, rfl⟩, rfl⟩, _, _, rfl, ⟨_, ?_, .inr rfl, rfl⟩, trivial⟩⟩
  have := Lib.bytesWorld_cell E.w e ⟨(st .o).toArray⟩ i (by rw [hsz]; exact hi)
  simpa [zi] using this

/-- The cells of a live block as they were, in another memory. -/
theorem Rel.touch (h : Rel C.N E0 B0 E s a) {d : Nat} (hd : solidAt E s.b d) {w' : World} (h1 : w'.os = E.w.os) (h2 : w'.tape = E.w.tape) (h3 : w'.output = E.w.output) (h4 : w'.heap.size = E.w.heap.size) (h5 : ∀ k, k ≠ E.ρ d → w'.heap[k]? = E.w.heap[k]?)
    (hE : BlkRp ⟨E.ρ, E.rv, E.I, w'⟩ d (s.b.get d)) : Rel C.N E0 B0 ⟨E.ρ, E.rv, E.I, w'⟩ s a := by
  have hle : E.Le ⟨E.ρ, E.rv, E.I, w'⟩ := ⟨fun _ _ h => h, fun b o hi => by
    have : b ≠ E.ρ d := fun he => (h.inv.live d hd).2 o (he ▸ hi)
    unfold World.cell?
    rw [h5 b this]⟩
  have hsol : ∀ x, solidAt ⟨E.ρ, E.rv, E.I, w'⟩ s.b x ↔ solidAt E s.b x := fun x => solid_same rfl
  have hpost : Post E s.b ⟨E.ρ, E.rv, E.I, w'⟩ s.b (fun _ => False) :=
    ⟨hle, fun _ _ _ => ⟨rfl, rfl⟩, fun _ _ h => h, h1, h2, h3, by show _ ≤ w'.heap.size; omega, fun b hb hn => h5 b fun he => hn d hd he.symm, fun _ h => .inl h, fun x hx => .inl ⟨(hsol x).1 hx, rfl⟩, fun _ h => h, fun _ _ h => .inl h⟩
  refine h.step (a := a) (dst := none) (v := .any) (x := undef) hpost (fun _ h => h.elim) (fun _ _ => ⟨rfl, rfl⟩) ⟨fun x => ?_, fun x y hx hy => h.inv.dist x y ((hsol x).1 hx) ((hsol y).1 hy), fun x hx => ?_, fun b o hb => by show b < w'.heap.size; have := h.inv.ibd b o hb; omega, h.inv.nm⟩ (fun _ h => by cases h) trivial (fun y hy => hy.elim)
  · by_cases hx : x = d
    · subst hx; exact hE
    · exact blk_mono hle (h.inv.blk x) rfl rfl (fun hs => h5 _ (h.inv.dist x d hs hd hx)) fun _ _ => ⟨rfl, rfl⟩
  · have := h.inv.live x ((hsol x).1 hx)
    exact ⟨by show E.ρ x < w'.heap.size; omega, this.2⟩

theorem s2s_sound (h : Rel C.N E0 B0 E s a) (hB0 : ∀ x, x < 10000 → ¬ B0.liveAt x) {src dst e e1 : TypeId} {x : Operand} {x' : Opd} (ho : o.op = .convert src dst x) (hs : (C.P .o).underlying src = some (.slice e1)) (hd : (C.P .o).underlying dst = some (.slice e)) (he : (C.P .o).underlying e = some (.int .u8)) (hsd : src = dst)
    (hx : rOpd x = some x') (hN : ∀ d, o.dst = some d → d < C.N) (ha : aop C (.s2s x') o.dst s K) (hk : UponOk C E0 B0 a K next Qc) : o.wp (C.P .o) a E.w next Qc := by
  have hxs := opd_sound h.si hx
  simp only [aop] at ha
  split at ha
  rotate_left
  · exact ha.elim
  rename_i p hp
  split at ha
  rotate_left
  · exact ha.elim
  rename_i sz n g hb hlt
  obtain ⟨hn, hK⟩ := ha
  have hn := hn trivial
  rw [hp] at hxs
  have hpl : s.b.liveAt p := by unfold BL.liveAt; rw [hb]; rfl
  have hB := h.inv.blk p
  rw [hb] at hB
  rcases hB with ⟨_, h0⟩ | ⟨cap, cur, e', h1, h2, h3, h4, h5, h6⟩
  · omega
  have hsol : solidAt E s.b p := by unfold solidAt; rw [hb]; show E.rv p ≠ _; rw [h1]; simp
  obtain ⟨fr, hgh, hsoft⟩ := h2.ex
  have hxv : a.eval x = .slice (some ⟨E.ρ p, 0, none⟩) (n .o) cap := hxs.1.trans h1
  have hrun : (execOp a.eval o).run (C.P .o) E.w = .ok (.value (.slice (some ⟨E.ρ p, 0, none⟩) (n .o) cap)) (E.w.freeze ⟨E.ρ p, cur.length, none⟩ 1) := by
    unfold execOp
    simp only [ho]
    rw [run_valueOf, hxv]
    subst hsd
    have hee : e1 = e := by have := hs.symm.trans hd; simpa using this
    subst hee
    have hsh : E.w.shape? (E.ρ p) = some (e', cur.length) := by simp [World.shape?, hgh]
    simp [convert, run_underlying hs, run_underlying hd, run_underlying he, markStringish, hsh]
  have hheap : ∀ k, (E.w.freeze ⟨E.ρ p, cur.length, none⟩ 1).heap[k]? = if k = E.ρ p then some (.cells cur.toArray e' (if fr.1 == fr.2 then (cur.length, cur.length + 1) else (min fr.1 cur.length, max fr.2 (cur.length + 1)))) else E.w.heap[k]? := by
    intro k
    obtain ⟨lo, hi⟩ := fr
    unfold World.freeze
    rw [if_neg (by decide)]
    show (E.w.heap.modify (E.ρ p) _)[k]? = _
    rw [Array.getElem?_modify]
    by_cases hk' : E.ρ p = k
    · subst hk'
      rw [if_pos rfl, if_pos rfl, hgh]
      rfl
    · rw [if_neg hk', if_neg (Ne.symm hk')]
  have hsz : (E.w.freeze ⟨E.ρ p, cur.length, none⟩ 1).heap.size = E.w.heap.size := by simp [World.freeze]
  have hR : Rel C.N E0 B0 ⟨E.ρ, E.rv, E.I, E.w.freeze ⟨E.ρ p, cur.length, none⟩ 1⟩ s a := by
    have hf : ∀ (w : World), (w.freeze ⟨E.ρ p, cur.length, none⟩ 1).os = w.os ∧ (w.freeze ⟨E.ρ p, cur.length, none⟩ 1).tape = w.tape ∧ (w.freeze ⟨E.ρ p, cur.length, none⟩ 1).output = w.output := fun w => ⟨rfl, rfl, rfl⟩
    refine h.touch hsol (hf _).1 (hf _).2.1 (hf _).2.2 hsz (fun k hk' => by rw [hheap, if_neg hk']) ?_
    rw [hb]
    refine .inr ⟨cap, cur, e', h1, ⟨_, by show (E.w.freeze _ _).heap[E.ρ p]? = _; rw [hheap, if_pos rfl], ?_⟩, h3, h4, h5, fun i hi => ⟨(h6 i hi).1, ?_⟩⟩
    · unfold Soft at hsoft ⊢
      split
      · right; exact Nat.le_refl _
      · rename_i hne
        have hne : fr.1 ≠ fr.2 := by simpa using hne
        right
        simp only
        have := hsoft.resolve_left hne
        omega
    · have hle : E.Le ⟨E.ρ, E.rv, E.I, E.w.freeze ⟨E.ρ p, cur.length, none⟩ 1⟩ := ⟨fun _ _ h => h, fun b o hi => by
        have : b ≠ E.ρ p := fun he => (h.inv.live p hsol).2 o (he ▸ hi)
        unfold World.cell?
        show (match (E.w.freeze _ _).heap[b]? with | some (.cells cs _ _) => _ | _ => _) = _
        rw [hheap, if_neg this]
        rfl⟩
      exact (rp_mono hle _ fun z hz => ((AV.still_locs _).1 (h6 i hi).1.1 z hz).elim).2.1 _ (h6 i hi).2
  unfold Oper.wp
  rw [hrun]
  show next (a.put o.dst _) _
  exact hk.1 _ _ _ (hR.value hB0 hN (v := .row p) ⟨h1.symm, _, _, _, rfl⟩ fun y hy => by have : y = p := hy; subst this; exact hpl) hK

theorem build_sound (h : Rel C.N E0 B0 E s a) (hB0 : ∀ x, x < 10000 → ¬ B0.liveAt x) {t : TypeId} {ps : Array (Nat × Operand)} (ho : o.op = .build t ps) {z : Value} {place : Nat → Option (Nat × Nat)} {ro : RO}
    (hb : ∀ parts, (C.P .o).built t parts = Instr.fill place z.cells parts) (hr : rBuild z place ps = some ro)
    (hN : ∀ d, o.dst = some d → d < C.N) (ha : aop C ro o.dst s K) (hk : UponOk C E0 B0 a K next Qc) : o.wp (C.P .o) a E.w next Qc := by
  unfold rBuild at hr
  split at hr
  · rename_i c qs hc hq
    cases hr
    obtain ⟨v, hg, hK⟩ := aop_quiet rfl ha
    simp only [qev] at hg
    split at hg
    · rename_i c' hf
      rw [gives_ok] at hg
      subst hg
      obtain ⟨hcl, hl⟩ := cells_of (E := E) hc
      obtain ⟨cs', h1, h2, h3⟩ := fill_sound h.si ps.toList qs c c' z.cells hq hcl hf
      have hrun : (execOp a.eval o).run (C.P .o) E.w = .ok (.value (.agg cs')) E.w := by
        unfold execOp
        simp only [ho]
        refine value_of (run_build E.w t _ cs' ?_)
        rw [hb, ← h1]
        simp
      unfold Oper.wp
      rw [hrun]
      exact hk.1 E _ _ (h.value hB0 hN (rp_agg.2 ⟨cs'.toList, by simp, h2⟩) fun y hy => (h3 y hy).elim (fun q => (hl y q).elim) fun ⟨x, hx, hxl⟩ => parts_locs h _ _ hq x hx y hxl) hK
    · exact (gives_bad.1 hg).elim
  · cases hr

theorem drop_still : ∀ (n : Nat) (c : AV), c.still → (c.drop n).still := fun n c h => (AV.still_locs _).2 fun d hd => (AV.still_locs _).1 h d (drop_locs n c d hd)
theorem take_still {n : Nat} {c r : AV} (h : c.take n = some r) (hc : c.still) : r.still := (AV.still_locs _).2 fun d hd => (AV.still_locs _).1 hc d (take_locs n c r h d hd)

theorem take_some : ∀ (n : Nat) (c : AV) (l : List Value), ListC E c l → n ≤ l.length → ∃ r, c.take n = some r
  | 0, c, l, _, _ => ⟨.nil, by cases c <;> rfl⟩
  | n + 1, .cons p q, l, h, hn => by
    obtain ⟨x, r, rfl, _, h2⟩ := listC_cons.1 h
    obtain ⟨r', hr⟩ := take_some n q r h2 (by simpa using hn)
    exact ⟨.cons p r', by simp [AV.take, hr]⟩
  | n + 1, .nil, l, h, hn => by rw [listC_nil.1 h] at hn; simp at hn
  | n + 1, .any, l, h, _ | n + 1, .int _ _, l, h, _ | n + 1, .bool _, l, h, _ | n + 1, .tt, l, h, _ | n + 1, .ff, l, h, _ | n + 1, .str _, l, h, _ | n + 1, .sl _ _ _, l, h, _ | n + 1, .nsl, l, h, _
  | n + 1, .row _, l, h, _ | n + 1, .ptr _ _, l, h, _ | n + 1, .iptr _, l, h, _ | n + 1, .rptr _ _ _ _, l, h, _ | n + 1, .win _ _ _ _, l, h, _ | n + 1, .nptr, l, h, _ | n + 1, .fn _ _ _, l, h, _ | n + 1, .nfn, l, h, _ | n + 1, .nif, l, h, _
  | n + 1, .ifc _ _, l, h, _ | n + 1, .agg _, l, h, _ | n + 1, .tup _, l, h, _ => by simp only [ListC] at h

/-- Elements of a row of cells. -/
theorem drop_scals : ∀ (n : Nat) (c : AV), c.scals = true → (c.drop n).scals = true
  | 0, c, h => by unfold AV.drop; exact h
  | n + 1, .cons p q, h => by
    unfold AV.scals at h
    split at h
    · exact drop_scals n q h
    · cases h
  | n + 1, .nil, h => h
theorem take_scals : ∀ (n : Nat) (c r : AV), c.scals = true → c.take n = some r → r.scals = true
  | 0, c, r, _, h => by
    have : r = .nil := by cases c <;> simp [AV.take] at h <;> exact h.symm
    subst this; rfl
  | n + 1, .cons p q, r, h, ht => by
    unfold AV.scals at h
    split at h
    · rename_i hp
      simp only [AV.take] at ht
      split at ht
      · rename_i r' hr
        cases ht
        simp only [AV.scals, hp]
        exact take_scals n q r' h hr
      · cases ht
    · cases h
  | n + 1, .nil, r, _, h => by simp [AV.take] at h
theorem elemAt0_sound {c : AV} {l : List Value} (h : ListC E c l) (hs : c.still) (hc : c.scals = true) (sz i : Nat) (hi : i * sz + sz ≤ l.length) : (elemAt0 sz c i).okE ∧ ListC E (elemAt0 sz c i) ((l.drop (i * sz)).take sz) := by
  unfold elemAt0
  obtain ⟨r, hr⟩ := take_some sz _ _ (listC_drop (i * sz) c l h) (by simp; omega)
  rw [hr]
  exact ⟨⟨take_still hr (drop_still _ _ hs), take_scals _ _ _ (drop_scals _ _ hc) hr⟩, (listC_take _ _ _ _ (listC_drop (i * sz) c l h) hr).1⟩
theorem elemAt0_succ (x c : AV) (i : Nat) : elemAt0 1 (.cons x c) (i + 1) = elemAt0 1 c i := by
  unfold elemAt0
  rw [Nat.mul_one, Nat.mul_one]
  rfl
theorem strsOf_at : ∀ (c : AV) (L : List (Th (List UInt8))), strsOf c = some L → c.len = L.length ∧ ∀ i t, i < L.length → elemAt0 1 c i = .cons (.str fun _ => (L.getD i t) .o) .nil := by
  intro c
  induction c with
  | nil => intro L h; cases h; exact ⟨rfl, fun i t hi => absurd hi (Nat.not_lt_zero _)⟩
  | cons x r _ ih =>
    intro L h
    cases x with
    | str u =>
      simp only [strsOf] at h
      split at h
      · rename_i L' hL'
        cases h
        obtain ⟨h1, h2⟩ := ih L' hL'
        refine ⟨by simp [AV.len, h1], fun i t hi => ?_⟩
        cases i with
        | zero =>
          have : (fun _ => u .o : Th (List UInt8)) = u := funext fun | .o => rfl
          show elemAt0 1 _ 0 = .cons (.str fun _ => u .o) .nil
          rw [this]
          cases r <;> rfl
        | succ i =>
          rw [elemAt0_succ]
          exact h2 i t (by simpa using hi)
      · cases h
    | _ => simp [strsOf] at h
  | _ => intro L h; simp [strsOf] at h
theorem intsOf_at (k : IntKind) : ∀ (c : AV) (L : List (Th Int)), intsOf k c = some L → c.len = L.length ∧ ∀ i t, i < L.length → elemAt0 1 c i = .cons (.int k fun _ => (L.getD i t) .o) .nil := by
  intro c
  induction c with
  | nil => intro L h; cases h; exact ⟨rfl, fun i t hi => absurd hi (Nat.not_lt_zero _)⟩
  | cons x r _ ih =>
    intro L h
    cases x with
    | int k' u =>
      simp only [intsOf] at h
      split at h
      · rename_i hk
        have hk : k' = k := by simpa using hk
        subst hk
        split at h
        · rename_i L' hL'
          cases h
          obtain ⟨h1, h2⟩ := ih L' hL'
          refine ⟨by simp [AV.len, h1], fun i t hi => ?_⟩
          cases i with
          | zero =>
            have : (fun _ => u .o : Th Int) = u := funext fun | .o => rfl
            show elemAt0 1 _ 0 = .cons (.int k' fun _ => u .o) .nil
            rw [this]
            cases r <;> rfl
          | succ i =>
            rw [elemAt0_succ]
            exact h2 i t (by simpa using hi)
        · cases h
      · cases h
    | _ => simp [intsOf] at h
  | _ => intro L h; simp [intsOf] at h
theorem elemAt_eq {sz : Nat} {c : AV} {i : Nat} (hi : i * sz + sz ≤ c.len) : elemAt sz c i = elemAt0 sz c i := by
  unfold elemAt
  split
  · rename_i t r
    split
    · rename_i L hL
      have h := strsOf_at (.cons (.str t) r) (t :: L) (by simp [strsOf, hL])
      exact (h.2 i t (by rw [← h.1]; omega)).symm
    · rfl
  · rename_i k t r
    split
    · rename_i L hL
      have h := intsOf_at k (.cons (.int k t) r) (t :: L) (by simp [intsOf, hL])
      exact (h.2 i t (by rw [← h.1]; omega)).symm
    · rfl
  · rfl
theorem elemAt_sound {c : AV} {l : List Value} (h : ListC E c l) (hs : c.still) (hc : c.scals = true) (sz i : Nat) (hi : i * sz + sz ≤ l.length) : (elemAt sz c i).okE ∧ ListC E (elemAt sz c i) ((l.drop (i * sz)).take sz) := by
  rw [elemAt_eq (by rw [← listC_len h]; exact hi)]
  exact elemAt0_sound h hs hc sz i hi

theorem over_len : ∀ (z : AV) (k : Nat) (y z' : AV), z.over k y = some z' → z'.len = z.len := by
  intro z
  induction z with
  | cons p q _ ih2 =>
    intro k y z' ho
    cases k with
    | succ k =>
      simp only [AV.over] at ho
      split at ho
      · rename_i r' hr'; cases ho; simp [AV.len, ih2 _ _ _ hr']
      · cases ho
    | zero =>
      cases y <;> simp only [AV.over, Option.some.injEq, reduceCtorEq] at ho
      · subst ho; rfl
      · split at ho
        · rename_i r' hr'; cases ho; simp [AV.len, ih2 _ _ _ hr']
        · cases ho
  | _ =>
    intro k y z' ho
    cases k <;> cases y <;> simp only [AV.over, Option.some.injEq, reduceCtorEq] at ho <;> (subst ho; rfl)
theorem fillc_len : ∀ (qs : List (Nat × Nat × Opd)) (z c : AV), fillc s z qs = some c → c.len = z.len
  | [], z, c, hf => by cases hf; rfl
  | (o', n', x') :: r, z, c, hf => by
    unfold fillc at hf
    split at hf
    · split at hf
      · split at hf
        · rename_i z' hov
          rw [fillc_len r z' c hf, over_len _ _ _ _ hov]
        · cases hf
      · cases hf
    · cases hf

theorem bslice_sound (h : Rel C.N E0 B0 E s a) (hB0 : ∀ x, x < 10000 → ¬ B0.liveAt x) {t e : TypeId} {n : Nat} {ps : Array (Nat × Operand)} (ho : o.op = .buildSlice t n ps) {i : TypeInfo} {z : Value} {c : AV} {qs : List (Nat × Nat × Opd)}
    (hu : (C.P .o).underlying t = some (.slice e)) (hi : (C.P .o).info? e = some i) (hz : i.zero = some z) (hc : rCells z = some c) (hq : rParts (fun j => some (j * i.size, i.size)) ps.toList = some qs)
    (hcond : (n * i.size ≤ 2 ^ 24 ∧ z.cells.size = i.size) ∧ ((n = 0 ∧ ps.size = 0) ∨ n * i.size ≠ 0))
    (hN : ∀ d, o.dst = some d → d < C.N) (ha : aop C (.bslice i.size c n qs) o.dst s K) (hk : UponOk C E0 B0 a K next Qc) : o.wp (C.P .o) a E.w next Qc := by
  simp only [aop] at ha
  split at ha
  · rename_i d c' hd hf
    split at ha
    · rename_i hfr hst hsc
      obtain ⟨hdead, hlt⟩ := fresh_spec hfr
      obtain ⟨hcl, hl⟩ := cells_of (E := E) hc
      have hzs : z.cells.toList.length = i.size := by simpa using hcond.1.2
      have hrep := rep_sound E hcl n
      have hlen0 : (List.replicate n z.cells.toList).flatten.length = n * i.size := by simp [List.length_flatten, hcond.1.2]
      have hsmall : n ≤ maxLen := by
        have h2 : i.size ≠ 0 ∨ n = 0 := by
          rcases hcond.2 with ⟨h0, _⟩ | h0
          · exact .inr h0
          · exact .inl fun hz => h0 (by rw [hz]; simp)
        rcases h2 with h2 | h2
        · have h1 := hcond.1.1
          have : n ≤ n * i.size := Nat.le_mul_of_pos_right n (by omega)
          unfold maxLen; omega
        · subst h2; exact Nat.zero_le _
      -- what is filled
      have hex : ∃ cs : Array Value, (Instr.buildSlice t n (ps.map fun p => (p.1, a.eval p.2))).run (C.P .o) E.w = .ok (.slice (some ⟨E.w.heap.size, 0, none⟩) n n) (E.w.alloc (.cells cs e)) ∧ ListC E c' cs.toList := by
        rcases hcond.2 with ⟨h0, hp⟩ | h0
        · subst h0
          have : ps = #[] := by apply Array.ext'; simpa using hp
          subst this
          cases hq
          simp only [fillc, rep, Option.some.injEq] at hf
          subst hf
          refine ⟨#[], ?_, listC_nil.2 rfl⟩
          have h0 : Array.range 0 = #[] := by apply Array.ext'; simp
          simp [Instr.buildSlice, run_underlying hu, sizeOf, typeInfo, hi, Instr.fill, newRow, newObj, Sem.run, h0]
        · have hzs' : z.cells.size = i.size := hcond.1.2
          have hzne : z.cells.size ≠ 0 := by rw [hzs']; intro hh; exact h0 (by rw [hh]; simp)
          obtain ⟨cs', h1, h2, _⟩ := fill_sound h.si ps.toList qs (rep c n) c' ((Array.range (n * z.cells.size)).map (z.cells[· % z.cells.size]!)) hq (by rw [range_zero _ _ hzne]; exact hrep) hf
          refine ⟨cs', run_buildSlice E.w t e n _ cs' i z hu hi hz (by omega) (by omega) ?_, h2⟩
          rw [← h1, hzs']
          simp
      obtain ⟨cs, hrun0, hcs⟩ := hex
      have hcslen : cs.toList.length = n * i.size := by rw [listC_len hcs, fillc_len _ _ _ hf, ← listC_len hrep, hlen0]
      have hcsz : cs.size = n * i.size := by simpa using hcslen
      have hstill := stillB_spec c' hst
      obtain ⟨E', hw, hR⟩ := h.newBlk hB0 (hN d hd) hdead hlt cs.toList e (.slice (some ⟨E.w.heap.size, 0, none⟩) n n) (.row i.size (fun _ => n) fun j => elemAt i.size c' (j .o)) (.row d) (.slice (some ⟨E.w.heap.size, 0, none⟩) n n)
        rfl (fun y hy => hy.elim) (fun y hy => hy) (fun E' hw hle hρ hrv hs => by
          refine ⟨.inr ⟨n, cs.toList, e, by rw [hrv, hρ], by rw [hρ, hw]; exact Hs.mk0 (alloc_new _ _), Nat.le_refl _, hsmall, hcslen, fun j hj => ?_⟩, hrv.symm, _, _, _, rfl⟩
          have hj' : j * i.size + i.size ≤ cs.toList.length := by
            rw [hcslen]
            have : (j + 1) * i.size ≤ n * i.size := Nat.mul_le_mul_right _ hj
            rw [Nat.add_mul] at this; omega
          obtain ⟨h1, h2⟩ := elemAt_sound hcs hstill hsc i.size j hj'
          exact ⟨h1, (rp_mono hle _ fun y hy => ((AV.still_locs _).1 h1.1 y hy).elim).2.1 _ h2⟩)
      have hrun : (execOp a.eval o).run (C.P .o) E.w = .ok (.value (.slice (some ⟨E.w.heap.size, 0, none⟩) n n)) (E.w.alloc (.cells cs e)) := by
        unfold execOp
        simp only [ho]
        rw [run_valueOf]
        have : (ps.map fun (x : Nat × Operand) => (x.1, a.eval x.2)) = ps.map fun p => (p.1, a.eval p.2) := rfl
        rw [show (ps.map fun x => match x with | (i, x) => (i, a.eval x)) = ps.map fun p => (p.1, a.eval p.2) from rfl, hrun0]
        rfl
      unfold Oper.wp
      rw [hrun]
      have hw' : E'.w = E.w.alloc (.cells cs e) := by simpa using hw
      show next (a.put o.dst _) _
      rw [← hw', hd]
      exact hk.1 E' _ _ hR ha
    · exact ha.elim
  · exact ha.elim

/-! ### calls -/
theorem kill_locs (d : Nat) (x : AV) (z : Nat) : (x.kill d).locs z → x.locs z ∧ z ≠ d := by
  induction x with
  | row x => intro h; unfold AV.kill at h; split at h
             · exact h.elim
             · rename_i hx; exact ⟨h, by rw [show z = x from h]; exact hx⟩
  | ptr x o => intro h; unfold AV.kill at h; split at h
               · exact h.elim
               · rename_i hx; exact ⟨h, by rw [show z = x from h]; exact hx⟩
  | rptr x s i o => intro h; unfold AV.kill at h; split at h
                    · exact h.elim
                    · rename_i hx; exact ⟨h, by rw [show z = x from h]; exact hx⟩
  | win x s i o => intro h; unfold AV.kill at h; split at h
                   · exact h.elim
                   · rename_i hx; exact ⟨h, by rw [show z = x from h]; exact hx⟩
  | iptr c ih => exact ih
  | fn f a b iha ihb => intro h; rcases h with h | h; exact ⟨.inl (iha h).1, (iha h).2⟩; exact ⟨.inr (ihb h).1, (ihb h).2⟩
  | ifc t v ih => exact ih
  | agg c ih => exact ih
  | tup c ih => exact ih
  | cons a b iha ihb => intro h; rcases h with h | h; exact ⟨.inl (iha h).1, (iha h).2⟩; exact ⟨.inr (ihb h).1, (ihb h).2⟩
  | _ => intro h; exact h.elim
theorem kills_locs : ∀ (l : List Nat) (x : AV) (z : Nat), (x.kills l).locs z → x.locs z ∧ z ∉ l
  | [], x, z, h => by cases x <;> exact ⟨h, by simp⟩
  | d :: r, x, z, h => by
    have h : ((x.kill d).kills r).locs z := by cases x <;> exact h
    obtain ⟨h1, h2⟩ := kills_locs r _ z h
    obtain ⟨h3, h4⟩ := kill_locs d x z h1
    exact ⟨h3, by simp [h4, h2]⟩
theorem kills_nil (x : AV) : x.kills [] = x := by cases x <;> rfl
theorem kills_cons (x : AV) (d : Nat) (r : List Nat) : x.kills (d :: r) = (x.kill d).kills r := by cases x <;> rfl
theorem rp_kills : ∀ (l : List Nat) (x : AV), (∀ v, Rp E x v → Rp E (x.kills l) v) ∧ (∀ m, ListC E x m → ListC E (x.kills l) m)
  | [], x => by rw [kills_nil]; exact ⟨fun _ h => h, fun _ h => h⟩
  | d :: r, x => by
    rw [kills_cons]
    have h := rp_kills r (x.kill d)
    exact ⟨fun v hv => h.1 v ((rp_kill d x).1 v hv), fun m hm => h.2 m ((rp_kill d x).2.1 m hm)⟩
theorem al_kill_get (d : Nat) : ∀ (l : AL) (k : Nat), (l.kill d).get k = (l.get k).kill d
  | .nil, k => rfl
  | .cons k' v r, k => by
    show (AL.cons k' (v.kill d) (r.kill d)).get k = _
    rw [AL.get_cons, AL.get_cons]
    split
    · rfl
    · exact al_kill_get d r k
theorem al_kills_get : ∀ (ds : List Nat) (l : AL) (k : Nat), (l.kills ds).get k = (l.get k).kills ds
  | [], l, k => by rw [kills_nil]; cases l <;> rfl
  | d :: r, l, k => by
    have : l.kills (d :: r) = (l.kill d).kills r := by cases l <;> rfl
    rw [this, al_kills_get r, al_kill_get, kills_cons]
theorem bl_kill_get (d : Nat) : ∀ (l : BL) (k : Nat), (l.kill d).get k = (l.get k).kill d
  | .nil, k => rfl
  | .cons k' v r, k => by
    show (BL.cons k' (v.kill d) (r.kill d)).get k = _
    rw [BL.get_cons, BL.get_cons]
    split
    · rfl
    · exact bl_kill_get d r k
def Blk.kills : Blk → List Nat → Blk | .cells c, l => .cells (c.kills l) | b, _ => b
theorem bl_kills_get : ∀ (ds : List Nat) (l : BL) (k : Nat), (l.kills ds).get k = (l.get k).kills ds
  | [], l, k => by
    have : l.kills [] = l := by cases l <;> rfl
    rw [this]
    cases l.get k <;> simp [Blk.kills, kills_nil]
  | d :: r, l, k => by
    have : l.kills (d :: r) = (l.kill d).kills r := by cases l <;> rfl
    rw [this, bl_kills_get r, bl_kill_get]
    cases l.get k <;> simp [Blk.kills, Blk.kill, kills_cons]
theorem df_kill (d : Nat) : ∀ (x : AV) (l : List Deferred), DfRp E x l → DfRp E (x.kill d) l := by
  intro x
  induction x with
  | nil => intro l hl; exact hl
  | cons a b iha ihb =>
    intro l hl
    cases a with
    | fn f as caps =>
      obtain ⟨x, z, t, h1, h2, h3, h4⟩ := hl
      exact ⟨x, z, t, h1, (rp_kill d caps).2.1 _ h2, (rp_kill d as).2.1 _ h3, ihb _ h4⟩
    | _ => exact hl.elim
  | _ => intro l hl; exact hl.elim
theorem df_kills : ∀ (ds : List Nat) (x : AV) (l : List Deferred), DfRp E x l → DfRp E (x.kills ds) l
  | [], x, l, h => by rw [kills_nil]; exact h
  | d :: r, x, l, h => by rw [kills_cons]; exact df_kills r _ l (df_kill d x l h)

theorem pick_get (l r : BL) (x : Nat) : ∀ ks : List Nat, (l.pick ks r).get x = if x ∈ ks then l.get x else r.get x
  | [] => by simp [BL.pick]
  | k :: ks => by
    show (BL.cons k (l.get k) (l.pick ks r)).get x = _
    rw [BL.get_cons, pick_get l r x ks]
    by_cases h : k = x
    · subst h; simp
    · simp [h, Ne.symm h]
theorem among_locs {l : List Nat} (x : AV) (h : x.among l = true) : ∀ z, x.locs z → z ∈ l := by
  induction x with
  | row x => intro z hz; rw [show z = x from hz]; simpa [AV.among] using h
  | ptr x o => intro z hz; rw [show z = x from hz]; simpa [AV.among] using h
  | rptr x s i o => intro z hz; rw [show z = x from hz]; simpa [AV.among] using h
  | win x s i o => intro z hz; rw [show z = x from hz]; simpa [AV.among] using h
  | iptr c ih => exact ih h
  | fn f a b iha ihb => unfold AV.among at h; split at h
                        · rename_i h1; intro z hz; exact hz.elim (iha h1 z) (ihb h z)
                        · cases h
  | ifc t v ih => exact ih h
  | agg c ih => exact ih h
  | tup c ih => exact ih h
  | cons a b iha ihb => unfold AV.among at h; split at h
                        · rename_i h1; intro z hz; exact hz.elim (iha h1 z) (ihb h z)
                        · cases h
  | _ => intro z hz; exact hz.elim
theorem closed_spec {B : BL} {l : List Nat} : ∀ {r : List Nat}, closed B l r = true → ∀ x ∈ r, B.liveAt x ∧ ∀ z, (B.get x).locs z → z ∈ l
  | [], _, x, hx => by simp at hx
  | y :: r, h, x, hx => by
    unfold closed at h
    split at h
    · rename_i h1 h2
      rcases List.mem_cons.1 hx with rfl | hx
      · refine ⟨h1, fun z hz => ?_⟩
        cases hb : B.get x with
        | cells c => rw [hb] at h2 hz; exact among_locs c h2 z hz
        | no => rw [hb] at hz; exact hz.elim
        | row _ _ _ => rw [hb] at hz; exact hz.elim
      · exact closed_spec h x hx
    · cases h
theorem rowsOf_mem {B : BL} {x : Nat} : ∀ {l : List Nat}, x ∈ rowsOf B l ↔ x ∈ l ∧ (B.get x).isRow = true
  | [] => by simp [rowsOf]
  | y :: r => by
    unfold rowsOf
    split
    · rename_i hy
      rw [List.mem_cons, List.mem_cons, rowsOf_mem]
      constructor
      · rintro (rfl | ⟨h1, h2⟩)
        · exact ⟨.inl rfl, hy⟩
        · exact ⟨.inr h1, h2⟩
      · rintro ⟨rfl | h1, h2⟩
        · exact .inl rfl
        · exact .inr ⟨h1, h2⟩
    · rename_i hy
      rw [List.mem_cons, rowsOf_mem]
      constructor
      · rintro ⟨h1, h2⟩; exact ⟨.inr h1, h2⟩
      · rintro ⟨rfl | h1, h2⟩
        · rw [hy] at h2; cases h2
        · exact ⟨h1, h2⟩

theorem get_dead {B : BL} {x : Nat} (h : ¬ B.liveAt x) : B.get x = .no := by
  unfold BL.liveAt at h
  cases hb : B.get x <;> rw [hb] at h <;> simp [Blk.live] at h ⊢

/-- Some blocks alone, that name no others. -/
theorem Inv.pick {E : Env} {B : BL} (h : Inv E B) {cs : List Nat} (hcl : closed B cs cs = true) : Inv E (B.pick cs .nil) := by
  have hget : ∀ x, (B.pick cs .nil).get x = if x ∈ cs then B.get x else .no := fun x => pick_get _ _ _ _
  have hsol : ∀ x, solidAt E (B.pick cs .nil) x → solidAt E B x := by
    intro x hx
    unfold solidAt at hx
    rw [hget] at hx
    split at hx
    · exact hx
    · exact hx.elim
  refine ⟨fun d => ?_, fun d d' hd hd' => h.dist d d' (hsol d hd) (hsol d' hd'), fun d hd => h.live d (hsol d hd), h.ibd, fun d x hx => ?_⟩
  · rw [hget]
    split
    · exact h.blk d
    · trivial
  · rw [hget] at hx
    split at hx
    · rename_i hd
      have := (closed_spec hcl d hd).2 x hx
      unfold BL.liveAt
      rw [hget, if_pos this]
      exact (closed_spec hcl x this).1
    · exact hx.elim

/-- Behind a run that was handed some blocks. -/
theorem Rel.after (h : Rel C.N E0 B0 E s a) {cs : List Nat} (hcl : closed s.b cs cs = true) {d : Nat} (hd : ¬ s.b.liveAt d) (hlt : d < 10000) {E' : Env} {B' : BL} (hinv : Inv E' B') (hpost : Post E (s.b.pick cs .nil) E' B' (· = d)) :
    Rel C.N E0 B0 E' (s.after d cs B') a ∧ ∀ x, B'.liveAt x → (s.after d cs B').b.liveAt x := by
  have hpick : ∀ x, (s.b.pick cs .nil).get x = if x ∈ cs then s.b.get x else .no := fun x => pick_get _ _ _ _
  have hdc : d ∉ cs := fun hx => hd (closed_spec hcl d hx).1
  generalize hM : rowsOf s.b cs = M
  have hMm : ∀ x, x ∈ M ↔ x ∈ cs ∧ (s.b.get x).isRow = true := fun x => by rw [← hM]; exact rowsOf_mem
  have hdead : s.b.get d = .no := get_dead hd
  -- the blocks behind
  have hget : ∀ x, (s.after d cs B').b.get x = if x = d ∨ x ∈ cs then B'.get x else (s.b.get x).kills M := by
    intro x
    unfold St.after
    simp only [hM]
    split
    · rw [BL.get_cons, pick_get, bl_kills_get]
      by_cases h1 : d = x
      · subst h1; simp
      · simp [h1, Ne.symm h1]
    · rename_i hl
      rw [pick_get, bl_kills_get]
      by_cases h1 : x = d
      · subst h1
        have : B'.get x = .no := get_dead (by simp [BL.liveAt, hl])
        rw [if_neg hdc, if_pos (.inl rfl), this, hdead]; rfl
      · simp [h1]
  generalize hB : (s.after d cs B').b = B'' at hget
  have hkk : ∀ x, ((s.b.get x).kills M).isRow = (s.b.get x).isRow := fun x => by cases s.b.get x <;> rfl
  have hkl : ∀ x, ((s.b.get x).kills M).live = (s.b.get x).live := fun x => by cases s.b.get x <;> rfl
  have hks : ∀ (F : Env) x, solid F x ((s.b.get x).kills M) ↔ solid F x (s.b.get x) := fun F x => by cases s.b.get x <;> exact Iff.rfl
  have hout : ∀ x, ¬ (x = d ∨ x ∈ cs) → E'.ρ x = E.ρ x ∧ E'.rv x = E.rv x := fun x hx => hpost.same x (fun q => hx (.inl q)) (by rw [hpick, if_neg (fun q => hx (.inr q))]; rfl)
  have hpsol : ∀ x, solidAt E (s.b.pick cs .nil) x → x ∈ cs ∧ solidAt E s.b x := by
    intro x hx
    unfold solidAt at hx
    rw [hpick] at hx
    split at hx
    · rename_i hc; exact ⟨hc, hx⟩
    · exact hx.elim
  have hin : ∀ x, (x = d ∨ x ∈ cs) → (solidAt E' B'' x ↔ solidAt E' B' x) := fun x hx => by unfold solidAt; rw [hget, if_pos hx]
  have houts : ∀ x, ¬ (x = d ∨ x ∈ cs) → (solidAt E' B'' x ↔ solidAt E s.b x) := fun x hx => by
    unfold solidAt
    rw [hget, if_neg hx, hks]
    exact solid_same (hout x hx).2
  have hlin : ∀ x, (x = d ∨ x ∈ cs) → (B''.liveAt x ↔ B'.liveAt x) := fun x hx => by unfold BL.liveAt; rw [hget, if_pos hx]
  have hlout : ∀ x, ¬ (x = d ∨ x ∈ cs) → (B''.liveAt x ↔ s.b.liveAt x) := fun x hx => by unfold BL.liveAt; rw [hget, if_neg hx, hkl]
  have hplive : ∀ x, (s.b.pick cs .nil).liveAt x → x ∈ cs := by
    intro x hx
    unfold BL.liveAt at hx
    rw [hpick] at hx
    split at hx
    · assumption
    · simp [Blk.live] at hx
  have hB'l : ∀ x, B'.liveAt x → (x = d ∨ x ∈ cs) := fun x hx => (hpost.dom x hx).elim (fun q => .inr (hplive x q)) .inl
  have hkeep : ∀ x, s.b.liveAt x → B''.liveAt x := by
    intro x hx
    by_cases hc : x = d ∨ x ∈ cs
    · refine (hlin x hc).2 (hpost.keep x ?_)
      rcases hc with hc | hc
      · exact (hd (hc ▸ hx)).elim
      · unfold BL.liveAt; rw [hpick, if_pos hc]; exact hx
    · exact (hlout x hc).2 hx
  have hnew : ∀ x, solidAt E' B'' x → (solidAt E s.b x ∧ E'.ρ x = E.ρ x) ∨ E.w.heap.size ≤ E'.ρ x := by
    intro x hx
    by_cases hc : x = d ∨ x ∈ cs
    · exact (hpost.new x ((hin x hc).1 hx)).imp (fun ⟨h1, h2⟩ => ⟨(hpsol x h1).2, h2⟩) id
    · exact .inl ⟨(houts x hc).1 hx, (hout x hc).1⟩
  have hold : ∀ b, b < E.w.heap.size → (∀ x ∈ cs, solidAt E s.b x → E.ρ x ≠ b) → E'.w.heap[b]? = E.w.heap[b]? := fun b hb hn => hpost.old b hb fun x hx => hn x (hpsol x hx).1 (hpsol x hx).2
  have hpost2 : Post E s.b E' B'' (· = d) := by
    refine ⟨hpost.le, fun x hx hr => hpost.same x hx ?_, fun x hx hr => ?_, hpost.os, hpost.tape, hpost.output, hpost.size, fun b hb hn => hold b hb fun x _ hs => hn x hs, fun x hx => ?_, hnew, hkeep, hpost.imm⟩
    · rw [hpick]; split
      · exact hr
      · rfl
    · rw [hget]
      split
      · rename_i hc
        refine hpost.kind x hx ?_
        rw [hpick]; split
        · exact hr
        · rfl
      · rw [hkk]; exact hr
    · by_cases hc : x = d ∨ x ∈ cs
      · rcases hpost.dom x ((hlin x hc).1 hx) with h1 | h1
        · exact .inl (closed_spec hcl x (hplive x h1)).1
        · exact .inr h1
      · exact .inl ((hlout x hc).1 hx)
  have hinv2 : Inv E' B'' := by
    refine ⟨fun x => ?_, fun x y hx hy hxy => ?_, fun x hx => ?_, hinv.ibd, fun x z hz => ?_⟩
    · rw [hget]
      split
      · exact hinv.blk x
      · rename_i hc
        have hbk : BlkRp E x ((s.b.get x).kills M) := by
          have := h.inv.blk x
          cases hb : s.b.get x with
          | no => trivial
          | row _ _ _ => rw [hb] at this; exact this
          | cells c =>
            rw [hb] at this
            obtain ⟨l, e, h1, h2⟩ := this
            exact ⟨l, e, h1, (rp_kills M c).2 _ h2⟩
        refine blk_mono hpost.le hbk (hout x hc).1 (hout x hc).2 (fun hs => ?_) fun y hy => ?_
        · have hs' : solidAt E s.b x := (hks E x).1 hs
          exact hold _ (h.inv.live x hs').1 fun y hyc hys => h.inv.dist y x hys hs' fun q => hc (.inr (q ▸ hyc))
        · have hy' : (s.b.get x).locs y ∧ y ∉ M := by
            cases hb : s.b.get x with
            | cells c => rw [hb] at hy; exact kills_locs M c y hy
            | no => rw [hb] at hy; exact hy.elim
            | row _ _ _ => rw [hb] at hy; exact hy.elim
          have hyl := h.inv.nm x y hy'.1
          by_cases hyc : y ∈ cs
          · refine hpost.same y (fun q => hd (q ▸ hyl)) ?_
            rw [hpick, if_pos hyc]
            cases hr : (s.b.get y).isRow with
            | false => rfl
            | true => exact (hy'.2 ((hMm y).2 ⟨hyc, hr⟩)).elim
          · exact hout y fun q => q.elim (fun q => hd (q ▸ hyl)) hyc
    · by_cases hcx : x = d ∨ x ∈ cs <;> by_cases hcy : y = d ∨ y ∈ cs
      · exact hinv.dist x y ((hin x hcx).1 hx) ((hin y hcy).1 hy) hxy
      · have hy' := (houts y hcy).1 hy
        rw [(hout y hcy).1]
        rcases hpost.new x ((hin x hcx).1 hx) with ⟨h1, h2⟩ | h1
        · rw [h2]; exact h.inv.dist x y (hpsol x h1).2 hy' hxy
        · have := (h.inv.live y hy').1; omega
      · have hx' := (houts x hcx).1 hx
        rw [(hout x hcx).1]
        rcases hpost.new y ((hin y hcy).1 hy) with ⟨h1, h2⟩ | h1
        · rw [h2]; exact h.inv.dist x y hx' (hpsol y h1).2 hxy
        · have := (h.inv.live x hx').1; omega
      · rw [(hout x hcx).1, (hout y hcy).1]
        exact h.inv.dist x y ((houts x hcx).1 hx) ((houts y hcy).1 hy) hxy
    · by_cases hc : x = d ∨ x ∈ cs
      · exact hinv.live x ((hin x hc).1 hx)
      · have hx' := (houts x hc).1 hx
        rw [(hout x hc).1]
        refine ⟨Nat.lt_of_lt_of_le (h.inv.live x hx').1 hpost.size, fun o ho => ?_⟩
        rcases hpost.imm _ o ho with h1 | h1
        · exact (h.inv.live x hx').2 o h1
        · have := (h.inv.live x hx').1; omega
    · rw [hget] at hz
      split at hz
      · have := hinv.nm x z hz
        exact (hlin z (hB'l z this)).2 this
      · have : (s.b.get x).locs z := by
          cases hb : s.b.get x with
          | cells c => rw [hb] at hz; exact (kills_locs M c z hz).1
          | no => rw [hb] at hz; exact hz.elim
          | row _ _ _ => rw [hb] at hz; exact hz.elim
        exact hkeep z (h.inv.nm x z this)
  have h1 : Rel C.N E0 B0 E ⟨s.t.kills M, s.b, s.df.kills M⟩ a := by
    refine ⟨fun k => ?_, h.inv, fun k z hz => ?_, h.sz, df_kills M _ _ h.df, fun z hz => h.dn z (kills_locs M _ z hz).1, h.post⟩
    · show Rp E ((s.t.kills M).get k) _
      rw [al_kills_get]
      exact (rp_kills M _).1 _ (h.tmps k)
    · change ((s.t.kills M).get k).locs z at hz
      rw [al_kills_get] at hz
      exact h.tn k z (kills_locs M _ z hz).1
  have h2 := h1.step (a := a) (dst := none) (v := .any) (x := undef) hpost2 (fun x hx => by rw [hx]; exact hlt) (fun y hy => ?_) hinv2 (fun _ h => by cases h) trivial (fun y hy => hy.elim)
  · have hs : s.after d cs B' = ⟨s.t.kills M, B'', s.df.kills M⟩ := by
      rw [← hB]; unfold St.after; simp only [hM]
    rw [hs]
    exact ⟨h2, fun x hx => (hlin x (hB'l x hx)).2 hx⟩
  · have hy' : s.b.liveAt y ∧ y ∉ M := by
      rcases hy with ⟨n, hy⟩ | hy
      · change ((s.t.kills M).get n).locs y at hy
        rw [al_kills_get] at hy
        exact ⟨h.tn n y (kills_locs M _ y hy).1, (kills_locs M _ y hy).2⟩
      · exact ⟨h.dn y (kills_locs M _ y hy).1, (kills_locs M _ y hy).2⟩
    by_cases hyc : y ∈ cs
    · refine hpost.same y (fun q => hd (q ▸ hy'.1)) ?_
      rw [hpick, if_pos hyc]
      cases hr : (s.b.get y).isRow with
      | false => rfl
      | true => exact (hy'.2 ((hMm y).2 ⟨hyc, hr⟩)).elim
    · exact hout y fun q => q.elim (fun q => hd (q ▸ hy'.1)) hyc

theorem cell_heap {w w' : World} {b o : Nat} (h : w'.heap[b]? = w.heap[b]?) : w'.cell? ⟨b, o, none⟩ = w.cell? ⟨b, o, none⟩ := by
  unfold World.cell?
  simp only [h]

/-- Another memory in which all that was there is as it was. -/
theorem Rel.world (h : Rel C.N E0 B0 E s a) {w' : World} (h1 : w'.os = E.w.os) (h2 : w'.tape = E.w.tape) (h3 : w'.output = E.w.output) (h4 : E.w.heap.size ≤ w'.heap.size) (h5 : ∀ b, b < E.w.heap.size → w'.heap[b]? = E.w.heap[b]?) :
    Rel C.N E0 B0 ⟨E.ρ, E.rv, E.I, w'⟩ s a := by
  have hle : E.Le ⟨E.ρ, E.rv, E.I, w'⟩ := ⟨fun _ _ h => h, fun b o hi => cell_heap (h5 b (h.inv.ibd b o hi))⟩
  have hsol : ∀ x, solidAt ⟨E.ρ, E.rv, E.I, w'⟩ s.b x ↔ solidAt E s.b x := fun x => solid_same rfl
  have hpost : Post E s.b ⟨E.ρ, E.rv, E.I, w'⟩ s.b (fun _ => False) :=
    ⟨hle, fun _ _ _ => ⟨rfl, rfl⟩, fun _ _ h => h, h1, h2, h3, h4, fun b hb _ => h5 b hb, fun _ h => .inl h, fun x hx => .inl ⟨(hsol x).1 hx, rfl⟩, fun _ h => h, fun _ _ h => .inl h⟩
  refine h.step (a := a) (dst := none) (v := .any) (x := undef) hpost (fun _ h => h.elim) (fun _ _ => ⟨rfl, rfl⟩) ⟨fun x => ?_, fun x y hx hy => h.inv.dist x y ((hsol x).1 hx) ((hsol y).1 hy), fun x hx => ?_, fun b o hb => Nat.lt_of_lt_of_le (h.inv.ibd b o hb) h4, h.inv.nm⟩ (fun _ h => by cases h) trivial (fun y hy => hy.elim)
  · exact blk_mono hle (h.inv.blk x) rfl rfl (fun hs => h5 _ (h.inv.live x hs).1) fun _ _ => ⟨rfl, rfl⟩
  · have := h.inv.live x ((hsol x).1 hx)
    exact ⟨Nat.lt_of_lt_of_le this.1 h4, this.2⟩

theorem flat_spec {E E' : Env} (x : AV) (h : x.flat = true) : (∀ v, Rp E x v → Rp E' x v) ∧ (∀ l, ListC E x l → ListC E' x l) ∧ ∀ y, ¬ x.locs y := by
  induction x with
  | ifc t v ih =>
    obtain ⟨h1, _, h3⟩ := ih h
    exact ⟨fun v hv => by obtain ⟨y, h4, h5⟩ := hv; exact ⟨y, h4, h1 _ h5⟩, fun _ h => h.elim, h3⟩
  | agg c ih =>
    obtain ⟨_, h2, h3⟩ := ih h
    exact ⟨fun v hv => by obtain ⟨l, h4, h5⟩ := hv; exact ⟨l, h4, h2 _ h5⟩, fun _ h => h.elim, h3⟩
  | tup c ih =>
    obtain ⟨_, h2, h3⟩ := ih h
    exact ⟨fun v hv => by obtain ⟨l, h4, h5⟩ := hv; exact ⟨l, h4, h2 _ h5⟩, fun _ h => h.elim, h3⟩
  | cons p q ihp ihq =>
    unfold AV.flat at h
    split at h
    · rename_i hp
      obtain ⟨h1, _, h3⟩ := ihp hp
      obtain ⟨_, h5, h6⟩ := ihq h
      exact ⟨fun _ h => h.elim, fun l hl => by obtain ⟨x, r, h7, h8, h9⟩ := hl; exact ⟨x, r, h7, h1 _ h8, h5 _ h9⟩, fun y hy => hy.elim (h3 y) (h6 y)⟩
    · cases h
  | int k n => exact ⟨fun _ h => h, fun _ h => h.elim, fun _ h => h⟩
  | bool b => exact ⟨fun _ h => h, fun _ h => h.elim, fun _ h => h⟩
  | tt => exact ⟨fun _ h => h, fun _ h => h.elim, fun _ h => h⟩
  | ff => exact ⟨fun _ h => h, fun _ h => h.elim, fun _ h => h⟩
  | str s => exact ⟨fun _ h => h, fun _ h => h.elim, fun _ h => h⟩
  | nsl => exact ⟨fun _ h => h, fun _ h => h.elim, fun _ h => h⟩
  | nptr => exact ⟨fun _ h => h, fun _ h => h.elim, fun _ h => h⟩
  | nfn => exact ⟨fun _ h => h, fun _ h => h.elim, fun _ h => h⟩
  | nif => exact ⟨fun _ h => h, fun _ h => h.elim, fun _ h => h⟩
  | nil => exact ⟨fun _ h => h.elim, fun _ h => h, fun _ h => h⟩
  | _ => cases h

/-- What is to hold behind a call. -/
def EndQ (a : Act) (dst : Option Nat) (next : Act → World → Prop) (Qc : Exit → Act → World → Prop) : Ending → World → Prop
  | .returned v, w'' => next (a.put dst v) w''
  | .panicked chain, w'' => Qc (.panic chain) a w''
  | .outgrown, _ => LetsOut Qc
theorem ares_sound {E' : Env} {s' : St} {r : ARes} {e : Ending} (hR : Rel C.N E0 B0 E' s' a) (hB0 : ∀ x, x < 10000 → ¬ B0.liveAt x) (hN : ∀ d, o.dst = some d → d < C.N) (hend : Ends E' r e) (hl : ∀ x, r.locs x → s'.b.liveAt x)
    (ha : ares C r o.dst s' K) (hk : UponOk C E0 B0 a K next Qc) : EndQ a o.dst next Qc e E'.w := by
  cases r with
  | ret v =>
    cases e with
    | returned x => exact hk.1 E' _ _ (hR.value hB0 hN hend hl) ha
    | panicked ch => exact hend.elim
    | outgrown => exact hend.elim
  | pan v =>
    cases e with
    | returned x => exact hend.elim
    | panicked ch =>
      obtain ⟨x, rfl, hx⟩ := hend
      exact hk.2 E' s' v x hR hx hl ha
    | outgrown => exact hend.elim

theorem acall2_sound {s0 : St} {E1 : Env} (h0 : Rel C.N E0 B0 E s0 a) (h : Rel C.N E0 B0 E1 s a) (hw : E1.w = E.w) (hle : E.Le E1) (hB0 : ∀ x, x < 10000 → ¬ B0.liveAt x) {f : Nat} {as : List AV} {vs : List Value} {cs : List Nat} (hvs : ListC E1 (chain as) vs)
    (hN : ∀ d, o.dst = some d → d < C.N) {ds : List Nat} (ha : acall2 C f as o.dst ds s0 s cs K) (hk : UponOk C E0 B0 a K next Qc) : callable (C.P .o) f = true ∧ Calls (C.P .o) f vs.toArray E.w (EndQ a o.dst next Qc) := by
  unfold acall2 at ha
  split at ha
  · rename_i hfr ham hcl
    obtain ⟨hdead, hlt⟩ := fresh_spec hfr
    have hpl : ∀ x ∈ cs, (s.b.pick cs .nil).liveAt x := fun x hx => by
      unfold BL.liveAt
      rw [pick_get, if_pos hx]
      exact (closed_spec hcl x hx).1
    have hinv1 := h.inv.pick hcl
    have hl1 : ∀ x, (chain as).locs x → (s.b.pick cs .nil).liveAt x := fun x hx => hpl x (among_locs _ ham x hx)
    have hd1 : ¬ (s.b.pick cs .nil).liveAt (o.dst.getD 9999) := fun hx => by
      unfold BL.liveAt at hx
      rw [pick_get] at hx
      split at hx
      · rename_i hc; exact hdead (closed_spec hcl _ hc).1
      · simp [BL.get, Blk.live] at hx
    split at ha
    · refine ⟨ha.can, ?_⟩
      rw [← hw]
      refine (ha.run E1 vs hinv1 hvs hl1 hd1).mono ?_
      rintro e w' ⟨E', r, B', rfl, hK, hend, hinv, hpost, hrl⟩
      split at hK
      · rename_i hflat
        have hold : ∀ b, b < E.w.heap.size → E'.w.heap[b]? = E.w.heap[b]? := fun b hb => by
          rw [← hw]
          exact hpost.old b (by rw [hw]; exact hb) fun x hx => by
            have := solid_live hx
            simp [BL.liveAt, BL.get, Blk.live] at this
        have hR := h0.world (w' := E'.w) (by rw [hpost.os, hw]) (by rw [hpost.tape, hw]) (by rw [hpost.output, hw]) (by rw [← hw]; exact hpost.size) hold
        have hend' : Ends ⟨E.ρ, E.rv, E.I, E'.w⟩ r e := by
          cases r with
          | ret v => cases e with
            | returned x => exact (flat_spec v hflat).1 _ hend
            | panicked ch => exact hend.elim
            | outgrown => exact hend.elim
          | pan v => cases e with
            | returned x => exact hend.elim
            | panicked ch => obtain ⟨x, h1, h2⟩ := hend; exact ⟨x, h1, (flat_spec v hflat).1 _ h2⟩
            | outgrown => exact hend.elim
        exact ares_sound (E' := ⟨E.ρ, E.rv, E.I, E'.w⟩) hR hB0 hN hend' (fun x hx => by
          cases r with
          | ret v => exact ((flat_spec (E := E) (E' := E) v hflat).2.2 x hx).elim
          | pan v => exact ((flat_spec (E := E) (E' := E) v hflat).2.2 x hx).elim) hK hk
      · obtain ⟨hR, hl⟩ := h.after hcl hdead hlt hinv hpost
        exact ares_sound hR hB0 hN hend (fun x hx => hl x (hrl x hx)) hK hk
    · refine ⟨ha.can, ?_⟩
      rw [← hw]
      refine (ha.run E1 vs hinv1 hvs hl1 hd1).mono ?_
      rintro e w' ⟨E', r, B', rfl, hK, hend, hinv, hpost, hrl⟩
      obtain ⟨hR, hl⟩ := h.after hcl hdead hlt hinv hpost
      exact ares_sound hR hB0 hN hend (fun x hx => hl x (hrl x hx)) hK hk
  · exact ha.elim

theorem callable_spec {P : Program} {f : Nat} (h : callable P f = true) : ∃ fn, P.funcs[f]? = some fn ∧ fn.body.isSome = true ∧ fn.name ≠ "runtime.NumGoroutine" := by
  unfold callable at h
  split at h
  · rename_i fn hfn
    simp only [Bool.and_eq_true, bne_iff_ne, ne_eq] at h
    exact ⟨fn, hfn, h.1, h.2⟩
  · cases h

theorem run_callFunc {P : Program} {w : World} {f : Nat} (h : callable P f = true) (args : Array Value) : (callFunc f args).run P w = .ok (.enter f args) w := by
  obtain ⟨fn, h1, h2, h3⟩ := callable_spec h
  unfold callFunc
  have h4 : fn.body.isNone = false := by cases hb : fn.body <;> simp [hb] at h2 ⊢
  simp only [program, Sem.run_bind, Sem.run, Result.andThen_ok, h1]
  have h5 : (fn.name == "runtime.NumGoroutine") = false := by simpa using h3
  simp [h4, h5]

theorem nil_app (y : AV) : AV.nil.app y = y := by cases y <;> rfl

theorem chain_app : ∀ (l m : List AV), chain (l ++ m) = (chain l).app (chain m)
  | [], m => (nil_app _).symm
  | x :: l, m => by simp [chain, AV.app, chain_app l m]

theorem unchain_sound {c : AV} : ∀ {l : List Value}, ListC E c l → ListC E (chain (unchain c)) l ∧ (∀ y, (chain (unchain c)).locs y ↔ c.locs y) := by
  induction c with
  | nil => intro l h; exact ⟨h, fun y => Iff.rfl⟩
  | cons p q _ ih =>
    intro l h
    obtain ⟨x, r, rfl, h1, h2⟩ := listC_cons.1 h
    obtain ⟨h3, h4⟩ := ih h2
    exact ⟨listC_cons.2 ⟨x, r, rfl, h1, h3⟩, fun y => or_congr Iff.rfl (h4 y)⟩
  | _ => intro l h; simp only [ListC] at h

theorem callf_sound (h : Rel C.N E0 B0 E s a) (hB0 : ∀ x, x < 10000 → ¬ B0.liveAt x) {f : Nat} {args : Array Operand} {ts : Array TypeId} {q : List Opd} (ho : o.op = .call { callee := .value (.func f), args := args, argTypes := ts })
    (hc : callable (C.P .o) f = true) (hq : rOpds args.toList = some q) (hN : ∀ d, o.dst = some d → d < C.N) (ha : aop C (.call f q) o.dst s K) (hk : UponOk C E0 B0 a K next Qc) : o.wp (C.P .o) a E.w next Qc := by
  simp only [aop, acallS, acall, acall1] at ha
  obtain ⟨E1, hw, hle, _, _, h1⟩ := h.shutL hB0 ((chain (evs s q)).rows [])
  have hvs := opds_sound h1.si _ _ hq
  have hrun : (execOp a.eval o).run (C.P .o) E.w = .ok (.enter f (args.toList.map a.eval).toArray) E.w := by
    unfold execOp
    simp only [ho, resolve, Act.eval, Deferred.ofValue, Sem.run_bind, Sem.run_pure, Result.andThen_ok, invoke]
    rw [run_callFunc hc]
    congr 2
    apply Array.ext'
    simp
  unfold Oper.wp
  rw [hrun]
  exact (acall2_sound h h1 hw hle hB0 hvs hN ha hk).2.mono fun e w'' he => by cases e <;> exact he

theorem callv_sound (h : Rel C.N E0 B0 E s a) (hB0 : ∀ x, x < 10000 → ¬ B0.liveAt x) {t : Nat} {args : Array Operand} {ts : Array TypeId} {q : List Opd} (ho : o.op = .call { callee := .value (.tmp t), args := args, argTypes := ts })
    (hq : rOpds args.toList = some q) (hN : ∀ d, o.dst = some d → d < C.N) (ha : aop C (.callv (.tmp t) q) o.dst s K) (hk : UponOk C E0 B0 a K next Qc) : o.wp (C.P .o) a E.w next Qc := by
  simp only [aop, acallvS] at ha
  obtain ⟨E1, hw, hle, _, _, h1⟩ := h.shutL hB0 (((Opd.tmp t).ev s).rows ((chain (evs s q)).rows []))
  unfold acallv at ha
  split at ha
  · rename_i f first caps hfv
    simp only [acall, acall1] at ha
    have hvs := opds_sound h1.si _ _ hq
    have hfn := opd_sound h1.si (x := .tmp t) (y := .tmp t) rfl
    rw [hfv] at hfn
    obtain ⟨l, m, h2, h3, h4⟩ := hfn
    have hall : ListC E1 (chain (unchain first ++ (evs (s.shutL (((Opd.tmp t).ev s).rows ((chain (evs s q)).rows []))) q ++ unchain caps))) (l ++ (args.toList.map a.eval ++ m)) := by
      rw [chain_app, chain_app]
      exact listC_app (unchain_sound h3).1 (listC_app hvs (unchain_sound h4).1)
    obtain ⟨hcan, hcalls⟩ := acall2_sound h h1 hw hle hB0 hall hN ha hk
    have hrun : (execOp a.eval o).run (C.P .o) E.w = .ok (.enter f (l ++ (args.toList.map a.eval ++ m)).toArray) E.w := by
      unfold execOp
      simp only [ho, resolve, h2, Deferred.ofValue, Sem.run_bind, Sem.run_pure, Result.andThen_ok, invoke]
      rw [run_callFunc hcan]
      congr 2
      apply Array.ext'
      simp
    unfold Oper.wp
    rw [hrun]
    exact hcalls.mono fun e w'' he => by cases e <;> exact he
  · exact ha.elim

/-- All that names place p is forgotten. -/
theorem Rel.kill (h : Rel C.N E0 B0 E s a) (p : Nat) : Rel C.N E0 B0 E ⟨s.t.kill p, s.b.kill p, s.df.kill p⟩ a := by
  have hk : ∀ x, ((s.b.kill p).get x).live = (s.b.get x).live ∧ ((s.b.kill p).get x).isRow = (s.b.get x).isRow ∧ (solid E x ((s.b.kill p).get x) ↔ solid E x (s.b.get x)) ∧ ∀ z, ((s.b.kill p).get x).locs z → (s.b.get x).locs z := by
    intro x
    rw [bl_kill_get]
    cases s.b.get x with
    | cells c => exact ⟨rfl, rfl, Iff.rfl, fun z hz => (kill_locs p c z hz).1⟩
    | _ => exact ⟨rfl, rfl, Iff.rfl, fun z hz => hz⟩
  have hl : ∀ x, (s.b.kill p).liveAt x ↔ s.b.liveAt x := fun x => by unfold BL.liveAt; rw [(hk x).1]
  have hs : ∀ x, solidAt E (s.b.kill p) x ↔ solidAt E s.b x := fun x => (hk x).2.2.1
  have hp := h.post
  refine ⟨fun k => ?_, ⟨fun x => ?_, fun x y hx hy => h.inv.dist x y ((hs x).1 hx) ((hs y).1 hy), fun x hx => h.inv.live x ((hs x).1 hx), h.inv.ibd, fun x z hz => (hl z).2 (h.inv.nm x z ((hk x).2.2.2 z hz))⟩, fun k z hz => ?_, h.sz, df_kill p _ _ h.df, fun z hz => (hl z).2 (h.dn z (kill_locs p _ z hz).1),
    ⟨hp.le, hp.same, fun x hx hr => by rw [(hk x).2.1]; exact hp.kind x hx hr, hp.os, hp.tape, hp.output, hp.size, hp.old, fun x hx => hp.dom x ((hl x).1 hx), fun x hx => hp.new x ((hs x).1 hx), fun x hx => (hl x).2 (hp.keep x hx), hp.imm⟩⟩
  · show Rp E ((s.t.kill p).get k) _
    rw [al_kill_get]
    exact (rp_kill p _).1 _ (h.tmps k)
  · rw [bl_kill_get]
    have := h.inv.blk x
    cases hb : s.b.get x with
    | no => trivial
    | row _ _ _ => rw [hb] at this; exact this
    | cells c =>
      rw [hb] at this
      obtain ⟨l, e, h1, h2⟩ := this
      exact ⟨l, e, h1, (rp_kill p c).2.1 _ h2⟩
  · change ((s.t.kill p).get k).locs z at hz
    rw [al_kill_get] at hz
    exact (hl z).2 (h.tn k z (kill_locs p _ z hz).1)

/-- Place p, which nothing names, comes to hold another row. -/
theorem Rel.move (h : Rel C.N E0 B0 E s a) {p : Nat} (hp : (s.b.get p).isRow = true ∨ (¬ s.b.liveAt p ∧ p < 10000)) (hp' : (s.b.get p).isRow = true → True) {w' : World} {rv' : Value} {ρ' : Nat} (h1 : w'.os = E.w.os) (h2 : w'.tape = E.w.tape) (h3 : w'.output = E.w.output) (h4 : E.w.heap.size ≤ w'.heap.size)
    (hold : ∀ k, k < E.w.heap.size → (solidAt E s.b p → k ≠ E.ρ p) → w'.heap[k]? = E.w.heap[k]?) {sz : Nat} {n' : Th Nat} {g' : Th Nat → AV} (hnew : rv' ≠ .slice none 0 0 → (solidAt E s.b p ∧ ρ' = E.ρ p) ∨ (E.w.heap.size ≤ ρ' ∧ ρ' < w'.heap.size))
    (hnm : ∀ k, ¬ (s.t.get k).locs p) (hnd : ¬ s.df.locs p) (hnb : ∀ x, ¬ (s.b.get x).locs p)
    (hblk : ∀ E' : Env, E'.w = w' → E.Le E' → E'.ρ p = ρ' → E'.rv p = rv' → BlkRp E' p (.row sz n' g')) :
    ∃ E', E'.w = w' ∧ E.Le E' ∧ E'.ρ p = ρ' ∧ E'.rv p = rv' ∧ Rel C.N E0 B0 E' (s.put p (.row sz n' g')) a := by
  let E' : Env := ⟨fun x => if x = p then ρ' else E.ρ x, fun x => if x = p then rv' else E.rv x, E.I, w'⟩
  have hle : E.Le E' := ⟨fun _ _ h => h, fun b o hi => cell_heap (hold b (h.inv.ibd b o hi) fun hs he => (h.inv.live p hs).2 o (he ▸ hi))⟩
  have hne : ∀ y, y ≠ p → E'.ρ y = E.ρ y ∧ E'.rv y = E.rv y := fun y hy => by simp [E', hy]
  have hpe : E'.ρ p = ρ' ∧ E'.rv p = rv' := by simp [E']
  have hget : ∀ x, (BL.cons p (.row sz n' g') s.b).get x = if p = x then .row sz n' g' else s.b.get x := fun x => BL.get_cons _ _ _ _
  have hsolp : solidAt E' (.cons p (.row sz n' g') s.b) p → rv' ≠ .slice none 0 0 := by
    intro hx
    unfold solidAt at hx
    rw [hget, if_pos rfl] at hx
    have hx : E'.rv p ≠ _ := hx
    rw [hpe.2] at hx; exact hx
  have hsol : ∀ x, x ≠ p → (solidAt E' (.cons p (.row sz n' g') s.b) x ↔ solidAt E s.b x) := by
    intro x hx
    unfold solidAt
    rw [hget, if_neg (Ne.symm hx)]
    exact solid_same (hne x hx).2
  have hlive : ∀ x, (BL.cons p (.row sz n' g') s.b).liveAt x ↔ (s.b.liveAt x ∨ x = p) := by
    intro x
    unfold BL.liveAt
    rw [hget]
    split
    · rename_i hx; subst hx; simp [Blk.live]
    · rename_i hx; simp [Ne.symm hx]
  have hpost : Post E s.b E' (.cons p (.row sz n' g') s.b) (fun x => x = p ∧ x < 10000 ∧ ¬ s.b.liveAt p) := by
    have hD : ∀ x, ¬ (x = p ∧ x < 10000 ∧ ¬ s.b.liveAt p) → (s.b.get x).isRow = false → x ≠ p := by
      intro x hx hr he
      subst he
      rcases hp with h5 | h5
      · rw [hr] at h5; cases h5
      · exact hx ⟨rfl, h5.2, h5.1⟩
    refine ⟨hle, fun x hx hr => hne x (hD x hx hr), fun x hx hr => ?_, h1, h2, h3, h4, fun b hb hn => hold b hb fun hs he => hn p hs he.symm, fun x hx => ?_, fun x hx => ?_, fun x hx => (hlive x).2 (.inl hx), fun _ _ h => .inl h⟩
    · rw [hget, if_neg (Ne.symm (hD x hx hr))]; exact hr
    · rcases (hlive x).1 hx with h5 | h5
      · exact .inl h5
      · rcases hp with h6 | h6
        · left; rw [h5]; unfold BL.liveAt; cases hb : s.b.get p <;> rw [hb] at h6 <;> first | rfl | cases h6
        · exact .inr ⟨h5, by rw [h5]; exact h6.2, h6.1⟩
    · by_cases hxp : x = p
      · subst hxp
        rcases hnew (hsolp hx) with ⟨h5, h6⟩ | ⟨h5, _⟩
        · exact .inl ⟨h5, by rw [hpe.1]; exact h6⟩
        · exact .inr (by rw [hpe.1]; exact h5)
      · exact .inl ⟨(hsol x hxp).1 hx, (hne x hxp).1⟩
  refine ⟨E', rfl, hle, hpe.1, hpe.2, h.step (a := a) hpost (fun x hx => hx.2.1) (fun y hy => hne y fun he => ?_) ⟨fun x => ?_, fun x y hx hy hxy => ?_, fun x hx => ?_, fun b o hb => Nat.lt_of_lt_of_le (h.inv.ibd b o hb) h4, fun x z hz => ?_⟩ (dst := none) (v := .any) (x := undef) (fun _ h => by cases h) trivial (fun y hy => hy.elim)⟩
  · subst he; rcases hy with ⟨n, hy⟩ | hy
    · exact hnm n hy
    · exact hnd hy
  · rw [hget]
    split
    · rename_i hx; subst hx; exact hblk E' rfl hle hpe.1 hpe.2
    · rename_i hx
      have hxp : x ≠ p := Ne.symm hx
      refine blk_mono hle (h.inv.blk x) (hne x hxp).1 (hne x hxp).2 (fun hs => hold _ (h.inv.live x hs).1 fun hsp => h.inv.dist x p hs hsp hxp) fun y hy => hne y fun he => hnb x (he ▸ hy)
  · have side : ∀ x y, x = p → y ≠ p → solidAt E' (.cons p (.row sz n' g') s.b) x → solidAt E' (.cons p (.row sz n' g') s.b) y → E'.ρ x ≠ E'.ρ y := by
      intro x y hxp hyp hx hy
      subst hxp
      have hy' := (hsol y hyp).1 hy
      rw [hpe.1, (hne y hyp).1]
      rcases hnew (hsolp hx) with ⟨h5, h6⟩ | ⟨h5, _⟩
      · rw [h6]; exact h.inv.dist x y h5 hy' (Ne.symm hyp)
      · have := (h.inv.live y hy').1; omega
    by_cases hxp : x = p <;> by_cases hyp : y = p
    · exact (hxy (hxp.trans hyp.symm)).elim
    · exact side x y hxp hyp hx hy
    · exact fun q => side y x hyp hxp hy hx q.symm
    · rw [(hne x hxp).1, (hne y hyp).1]
      exact h.inv.dist x y ((hsol x hxp).1 hx) ((hsol y hyp).1 hy) hxy
  · by_cases hxp : x = p
    · subst hxp
      rw [hpe.1]
      rcases hnew (hsolp hx) with ⟨h5, h6⟩ | ⟨h5, h6⟩
      · rw [h6]; exact ⟨Nat.lt_of_lt_of_le (h.inv.live x h5).1 h4, (h.inv.live x h5).2⟩
      · exact ⟨h6, fun o ho => by have := h.inv.ibd _ _ ho; omega⟩
    · rw [(hne x hxp).1]
      have := h.inv.live x ((hsol x hxp).1 hx)
      exact ⟨Nat.lt_of_lt_of_le this.1 h4, this.2⟩
  · rw [hget] at hz
    split at hz
    · exact hz.elim
    · exact (hlive z).2 (.inl (h.inv.nm x z hz))

theorem seg_take {xs ys cur : List Value} {sz n m i : Nat} (hx : xs.length = n * sz) (hc : cur.take ((n + m) * sz) = xs ++ ys) (hi : i < n + m) :
    (cur.drop (i * sz)).take sz = if i < n then (xs.drop (i * sz)).take sz else (ys.drop ((i - n) * sz)).take sz := by
  have h1 : (i + 1) * sz ≤ (n + m) * sz := Nat.mul_le_mul_right _ hi
  rw [Nat.add_mul, Nat.one_mul] at h1
  have h2 : (cur.drop (i * sz)).take sz = ((cur.take ((n + m) * sz)).drop (i * sz)).take sz := by
    rw [List.drop_take, List.take_take, Nat.min_eq_left (by omega)]
  rw [h2, hc]
  split
  · rename_i h
    have h3 : (i + 1) * sz ≤ n * sz := Nat.mul_le_mul_right _ h
    rw [Nat.add_mul, Nat.one_mul] at h3
    rw [List.drop_append_of_le_length (by omega), List.take_append_of_le_length (by rw [List.length_drop]; omega)]
  · rename_i h
    have h3 : n * sz ≤ i * sz := Nat.mul_le_mul_right _ (by omega)
    rw [List.drop_append, List.drop_eq_nil_of_le (by omega), List.nil_append, hx, Nat.sub_mul]

/-- What is appended, in the machine. -/
theorem ysee_sound {sz : Nat} (hI : Inv E s.b) {x : AV} {yv : Value} (hx : Rp E x yv) {m : Th Nat} {gy : Th Nat → AV} (hs : ysee s sz x = some (m, gy)) :
    ∃ news : List Value, news.length = m .o * sz ∧ (∀ j, j < m .o → (gy fun _ => j).okE ∧ ListC E (gy fun _ => j) ((news.drop (j * sz)).take sz)) ∧
      ((∃ a c, yv = .slice (some a) (m .o) c ∧ ∀ j u, news[j]? = some u → E.w.cell? (a.add j) = some u) ∨ (m .o = 0 ∧ ∃ c, yv = .slice none 0 c)) := by
  unfold ysee at hs
  split at hs
  · cases hs
    exact ⟨[], by simp, fun j hj => absurd hj (Nat.not_lt_zero _), .inr ⟨rfl, 0, hx⟩⟩
  · rename_i sz' n g
    split at hs
    · rename_i hsz
      have : sz = sz' := by simpa using hsz
      subst this
      cases hs
      obtain ⟨a, cap, rfl, _, h3⟩ := hx
      by_cases h0 : m .o = 0
      · cases a with
        | none => exact ⟨[], by simp [h0], fun j hj => absurd hj (by rw [h0]; exact Nat.not_lt_zero _), .inr ⟨h0, cap, by rw [h0]⟩⟩
        | some A => exact ⟨[], by simp [h0], fun j hj => absurd hj (by rw [h0]; exact Nat.not_lt_zero _), .inl ⟨A, cap, rfl, fun j u hj => by simp at hj⟩⟩
      · obtain ⟨_, b, o', ha, _⟩ := h3 0 (by omega)
        subst ha
        -- the elements, one behind the other
        have build : ∀ k, k ≤ m .o → ∃ l : List Value, l.length = k * sz ∧ (∀ j, j < k → ListC E (gy fun _ => j) ((l.drop (j * sz)).take sz)) ∧ ∀ j u, l[j]? = some u → E.w.cell? ⟨b, o' + j, none⟩ = some u := by
          intro k
          induction k with
          | zero => intro _; exact ⟨[], by simp, fun j hj => absurd hj (Nat.not_lt_zero _), fun j u hj => by simp at hj⟩
          | succ k ih =>
            intro hk
            obtain ⟨l, h4, h5, h6⟩ := ih (by omega)
            obtain ⟨⟨_, h7⟩, b1, o1, he, hm⟩ := h3 k (by omega)
            simp only [Option.some.injEq, Addr.mk.injEq] at he
            obtain ⟨rfl, rfl, _⟩ := he
            obtain ⟨l1, h8, h9⟩ := at_of_mem _ _ _ hm
            have h10 : l1.length = sz := by rw [← listC_len' h8]; exact h7
            refine ⟨l ++ l1, by rw [List.length_append, h4, h10, Nat.add_mul, Nat.one_mul], fun j hj => ?_, fun j u hj => ?_⟩
            · by_cases hjk : j < k
              · have h11 : (j + 1) * sz ≤ k * sz := Nat.mul_le_mul_right _ hjk
                rw [Nat.add_mul, Nat.one_mul] at h11
                rw [List.drop_append_of_le_length (by omega), List.take_append_of_le_length (by rw [List.length_drop]; omega)]
                exact h5 j hjk
              · have : j = k := by omega
                subst this
                rw [← h4, List.drop_left, ← h10, List.take_length]
                exact h8
            · rw [List.getElem?_append] at hj
              split at hj
              · exact h6 j u hj
              · rename_i hlt
                have := h9 _ u hj
                rw [← this]
                congr 2
                omega
        obtain ⟨news, h4, h5, h6⟩ := build _ (Nat.le_refl _)
        exact ⟨news, h4, fun j hj => ⟨(h3 j hj).1.1, h5 j hj⟩, .inl ⟨_, cap, rfl, fun j u hj => by rw [addr_add]; exact h6 j u hj⟩⟩
    · cases hs
  · rename_i d
    split at hs
    · rename_i sz' n g hb
      split at hs
      · rename_i hsz
        have : sz = sz' := by simpa using hsz
        subst this
        cases hs
        have hB := hI.blk d
        rw [hb] at hB
        rcases hB with ⟨h1, h2⟩ | ⟨cap, cur, e, h1, h2, h3, h4, h5, h6⟩
        · exact ⟨[], by simp [h2], fun j hj => absurd hj (by rw [h2]; exact Nat.not_lt_zero _), .inr ⟨h2, 0, hx.1.trans h1⟩⟩
        · have h7 : m .o * sz ≤ cap * sz := Nat.mul_le_mul_right _ h3
          refine ⟨cur.take (m .o * sz), by rw [List.length_take]; omega, fun j hj => ⟨(h6 j hj).1, ?_⟩, .inl ⟨_, cap, hx.1.trans h1, fun j u hj => ?_⟩⟩
          · have h8 : (j + 1) * sz ≤ m .o * sz := Nat.mul_le_mul_right _ hj
            rw [Nat.add_mul, Nat.one_mul] at h8
            rw [List.drop_take, List.take_take, Nat.min_eq_left (by omega)]
            exact (h6 j hj).2
          · rw [addr_add, Nat.zero_add, h2.cell]
            rw [List.getElem?_take] at hj
            split at hj
            · exact hj
            · cases hj
      · cases hs
    · cases hs
  · cases hs

theorem append_core (h : Rel C.N E0 B0 E s a) {p : Nat} (hp : (s.b.get p).isRow = true ∨ (¬ s.b.liveAt p ∧ p < 10000)) (hnm : ∀ k, ¬ (s.t.get k).locs p) (hnd : ¬ s.df.locs p) (hnb : ∀ x, ¬ (s.b.get x).locs p)
    {t ty e : TypeId} {i : TypeInfo} {z : Value} (ht : (C.P .o).underlying t = some (.slice e)) (hi : (C.P .o).info? e = some i) (hz : i.zero = some z) (hzs : z.cells.size = i.size) (hb : 0 < i.bytes)
    {v yv : Value} {n m : Th Nat} {g gy : Th Nat → AV} {xs news : List Value} {b : Nat} (hv : RowOk E.w i.size v (n .o) xs b) (hxl : xs.length = n .o * i.size) (hxe : ∀ j, j < n .o → (g fun _ => j).okE ∧ ListC E (g fun _ => j) ((xs.drop (j * i.size)).take i.size))
    (hvb : v ≠ nilV → solidAt E s.b p ∧ b = E.ρ p) (hvn : solidAt E s.b p → v ≠ nilV)
    (hl : news.length = m .o * i.size) (hne : ∀ j, j < m .o → (gy fun _ => j).okE ∧ ListC E (gy fun _ => j) ((news.drop (j * i.size)).take i.size))
    (hy : (∃ a c, yv = .slice (some a) (m .o) c ∧ ∀ j u, news[j]? = some u → E.w.cell? (a.add j) = some u) ∨ (m .o = 0 ∧ ∃ c, yv = .slice none 0 c)) (h1 : ∀ u ∈ news, u.oneCell' = true)
    (hroom : (n .o + m .o) * i.bytes ≤ 140737488355328) {n' : Th Nat} {g' : Th Nat → AV} (hn' : n' .o = n .o + m .o) (hg1 : ∀ j, j < n .o → Fits (g fun _ => j) (g' fun _ => j)) (hg2 : ∀ j, j < m .o → Fits (gy fun _ => j) (g' fun _ => n .o + j)) :
    ∃ v' E', (Builtin.append_ #[t, t] ty #[v, yv]).run (C.P .o) E.w = .ok v' E'.w ∧ E.Le E' ∧ E'.rv p = v' ∧ (∃ A N c, v' = .slice A N c) ∧ Rel C.N E0 B0 E' (s.put p (.row i.size n' g')) a := by
  obtain ⟨v', w', b', hrun, hrow, hgr, hnew⟩ := run_append_row ht hi hz hzs hv hxl hl hy h1 hroom hb (ty := ty)
  have hsl : ∃ A N c, v' = .slice A N c := by
    rcases hrow with ⟨h, _⟩ | ⟨cap, cur, e', h, _⟩
    · exact ⟨none, 0, 0, h⟩
    · exact ⟨_, _, _, h⟩
  obtain ⟨E', hw, hle, hρ, hrv, hR⟩ := h.move (w' := w') (rv' := v') (ρ' := b') (sz := i.size) (n' := n') (g' := g') hp (fun _ => trivial) hgr.os hgr.tape hgr.output hgr.size (fun k hk hs => hgr.old k hk fun hvv => by rw [(hvb hvv).2]; exact hs (hvb hvv).1)
    (fun hv' => (hnew hv').imp (fun ⟨h2, h3⟩ => ⟨(hvb h2).1, by rw [h3]; exact (hvb h2).2⟩) id) hnm hnd hnb (fun E' hw hle hρ hrv => by
      rcases hrow with ⟨h2, h3, _⟩ | ⟨cap, cur, e', h2, h3, h4, h5, h6, h7⟩
      · exact .inl ⟨by rw [hrv]; exact h2, by rw [hn']; exact h3⟩
      · refine .inr ⟨cap, cur, e', by rw [hrv, hρ, hn']; exact h2, by rw [hw, hρ]; exact h3, by rw [hn']; exact h4, h5, h6, fun j hj => ?_⟩
        rw [hn'] at hj
        rw [seg_take hxl h7 hj]
        split
        · rename_i hjn
          obtain ⟨h8, h9⟩ := hxe j hjn
          have h10 := (hg1 j hjn).ok h8
          exact ⟨h10, (rp_mono hle _ fun y hy => ((AV.still_locs _).1 h10.1 y hy).elim).2.1 _ ((hg1 j hjn).rp E _ h9)⟩
        · rename_i hjn
          have hjm : j - n .o < m .o := by omega
          obtain ⟨h8, h9⟩ := hne (j - n .o) hjm
          have h11 := hg2 (j - n .o) hjm
          rw [show n .o + (j - n .o) = j by omega] at h11
          have h10 := h11.ok h8
          exact ⟨h10, (rp_mono hle _ fun y hy => ((AV.still_locs _).1 h10.1 y hy).elim).2.1 _ (h11.rp E _ h9)⟩)
  exact ⟨v', E', by rw [hw]; exact hrun, hle, hrv, hsl, hR⟩

theorem scals_one : ∀ (c : AV) (l : List Value), ListC E c l → c.scals = true → ∀ u ∈ l, u.oneCell' = true := by
  intro c
  induction c with
  | nil => intro l hl _; rw [listC_nil.1 hl]; simp
  | cons p q _ ih =>
    intro l hl hs
    obtain ⟨y, r, rfl, h1, h2⟩ := listC_cons.1 hl
    unfold AV.scals at hs
    split at hs
    · rename_i hp
      intro u hu
      rcases List.mem_cons.1 hu with rfl | hu
      · exact rp_scal h1 hp
      · exact ih r h2 hs u hu
    · cases hs
  | _ => intro l hl _; simp only [ListC] at hl
theorem rows_one {news : List Value} {m sz : Nat} {gy : Th Nat → AV} (hl : news.length = m * sz) (h : ∀ j, j < m → (gy fun _ => j).okE ∧ ListC E (gy fun _ => j) ((news.drop (j * sz)).take sz)) : ∀ u ∈ news, u.oneCell' = true := by
  intro u hu
  obtain ⟨k, hk, rfl⟩ := List.getElem_of_mem hu
  have hsz : 0 < sz := by
    rcases Nat.eq_zero_or_pos sz with h0 | h0
    · subst h0; simp at hl; rw [hl] at hk; simp at hk
    · exact h0
  have hj : k / sz < m := by rw [Nat.div_lt_iff_lt_mul hsz]; omega
  obtain ⟨h1, h2⟩ := h (k / sz) hj
  refine scals_one _ _ h2 h1.2 _ ?_
  rw [List.mem_iff_getElem?]
  refine ⟨k % sz, ?_⟩
  rw [List.getElem?_take, if_pos (Nat.mod_lt _ hsz), List.getElem?_drop, Nat.mul_comm, Nat.div_add_mod]
  exact List.getElem?_eq_getElem hk

theorem append_sound (h : Rel C.N E0 B0 E s a) (hB0 : ∀ x, x < 10000 → ¬ B0.liveAt x) {args : Array Operand} {ts : Array TypeId} {x y : Operand} {x' y' : Opd} {t e : TypeId} {i : TypeInfo} {z : Value} (ho : o.op = .call { callee := .builtin .append, args := args, argTypes := ts })
    (hargs : args.toList = [x, y]) (hts : ts.toList = [t, t]) (ht : (C.P .o).underlying t = some (.slice e)) (hi : (C.P .o).info? e = some i) (hz : i.zero = some z) (hx : rOpd x = some x') (hy : rOpd y = some y') (hzs : z.cells.size = i.size) (hb : 0 < i.bytes)
    (hN : ∀ d, o.dst = some d → d < C.N) (ha : aop C (.append i.size i.bytes x' y') o.dst s K) (hk : UponOk C E0 B0 a K next Qc) : o.wp (C.P .o) a E.w next Qc := by
  have hrun : ∀ v w', (Builtin.append_ #[t, t] o.type #[a.eval x, a.eval y]).run (C.P .o) E.w = .ok v w' → (execOp a.eval o).run (C.P .o) E.w = .ok (.value v) w' := by
    intro v w' hr
    have h1 : args = #[x, y] := by apply Array.ext'; simpa using hargs
    have h2 : ts = #[t, t] := by apply Array.ext'; simpa using hts
    unfold execOp
    simp only [ho, h1, h2, resolve, Sem.run_bind, Sem.run_pure, Result.andThen_ok, invoke, builtin]
    simp only [List.map_toArray, List.map_cons, List.map_nil] at hr ⊢
    rw [hr]
    rfl
  have hxs := opd_sound h.si hx
  have hys := opd_sound h.si hy
  simp only [aop] at ha
  split at ha
  rotate_left
  · exact ha.elim
  rename_i d m gy hd hsee
  obtain ⟨news, hl, hne, hyv⟩ := ysee_sound h.inv hys hsee
  have hone := rows_one hl hne
  split at ha
  · rename_i hxe
    rw [hxe] at hxs
    split at ha
    · rename_i hfr
      obtain ⟨hdead, hlt⟩ := fresh_spec hfr
      obtain ⟨n', g', hn', hg1, hg2, hK⟩ := ha.ex
      have hnoT : ∀ k, ¬ (s.t.get k).locs d := fun k hk' => hdead (h.tn k d hk')
      have hsn : ¬ solidAt E s.b d := fun hs => hdead (solid_live hs)
      obtain ⟨v', E', hr, hle, hrv, hsl, hR⟩ := append_core (ty := o.type) (b := 0) (xs := []) (n := fun _ => 0) (g := fun _ => .nil) (v := a.eval x) (yv := a.eval y) (news := news) (m := m) (gy := gy) (n' := n') (g' := g') h (.inr ⟨hdead, hlt⟩) hnoT (fun hd' => hdead (h.dn d hd')) (fun k hk' => hdead (h.inv.nm k d hk')) ht hi hz hzs hb
        (.inl ⟨hxs, rfl, rfl⟩) (by simp) (fun j hj => absurd hj (Nat.not_lt_zero _)) (fun hv => (hv hxs).elim) (fun hs => (hsn hs).elim) hl hne hyv hone ha.room hn' hg1 hg2
      unfold Oper.wp
      rw [hrun _ _ hr]
      show next (a.put o.dst _) _
      rw [hd]
      refine hk.1 E' _ _ (hR.value hB0 (dst := some d) (v := .row d) (x := v') (fun d' he => by cases he; exact hN d hd) ⟨hrv.symm, hsl⟩ fun y hy' => ?_) hK
      have : y = d := hy'
      subst this
      simp [BL.liveAt, St.put, BL.get_cons, Blk.live]
    · exact ha.elim
  · rename_i p hxe
    rw [hxe] at hxs
    split at ha
    rotate_left
    · exact ha.elim
    rename_i sz' n g hbp hpl
    split at ha
    rotate_left
    · exact ha.elim
    rename_i hsz
    have hsz' : i.size = sz' := by simpa using hsz
    subst hsz'
    obtain ⟨n', g', hn', hg1, hg2, hK⟩ := ha.ex
    have hB := h.inv.blk p
    rw [hbp] at hB
    have hkill := h.kill p
    have hpk : (s.b.kill p).get p = .row i.size n g := by rw [bl_kill_get, hbp]; rfl
    have hsolp : solidAt E (s.b.kill p) p ↔ E.rv p ≠ nilV := by unfold solidAt; rw [hpk]; exact Iff.rfl
    have hvx : a.eval x = E.rv p := hxs.1
    have hrow : ∃ xs, RowOk E.w i.size (a.eval x) (n .o) xs (E.ρ p) ∧ xs.length = n .o * i.size ∧ ∀ j, j < n .o → (g fun _ => j).okE ∧ ListC E (g fun _ => j) ((xs.drop (j * i.size)).take i.size) := by
      rw [hvx]
      rcases hB with ⟨h1, h2⟩ | ⟨cap, cur, e', h1, h2, h3, h4, h5, h6⟩
      · exact ⟨[], .inl ⟨h1, h2, rfl⟩, by simp [h2], fun j hj => absurd hj (by rw [h2]; exact Nat.not_lt_zero _)⟩
      · have h7 : n .o * i.size ≤ cap * i.size := Nat.mul_le_mul_right _ h3
        refine ⟨cur.take (n .o * i.size), .inr ⟨cap, cur, e', h1, h2, h3, h4, h5, rfl⟩, by rw [List.length_take]; omega, fun j hj => ⟨(h6 j hj).1, ?_⟩⟩
        have h8 : (j + 1) * i.size ≤ n .o * i.size := Nat.mul_le_mul_right _ hj
        rw [Nat.add_mul, Nat.one_mul] at h8
        rw [List.drop_take, List.take_take, Nat.min_eq_left (by omega)]
        exact (h6 j hj).2
    obtain ⟨xs, hr1, hr2, hr3⟩ := hrow
    obtain ⟨v', E', hr, hle, hrv, hsl, hR⟩ := append_core (ty := o.type) (b := E.ρ p) (xs := xs) (n := n) (g := g) (v := a.eval x) (yv := a.eval y) (news := news) (m := m) (gy := gy) (n' := n') (g' := g') hkill (p := p) (.inl (by rw [hpk]; rfl))
      (fun k hk' => by rw [al_kill_get] at hk'; exact (kill_locs p _ p hk').2 rfl) (fun hd' => (kill_locs p _ p hd').2 rfl)
      (fun k hk' => by
        rw [bl_kill_get] at hk'
        cases hb' : s.b.get k with
        | cells c => rw [hb'] at hk'; exact (kill_locs p c p hk').2 rfl
        | no => rw [hb'] at hk'; exact hk'
        | row _ _ _ => rw [hb'] at hk'; exact hk') ht hi hz hzs hb hr1 hr2 hr3 (fun hv => ⟨hsolp.2 (by rw [← hvx]; exact hv), rfl⟩) (fun hs => by rw [hvx]; exact hsolp.1 hs) hl hne hyv hone ha.room hn' hg1 hg2
    unfold Oper.wp
    rw [hrun _ _ hr]
    show next (a.put o.dst _) _
    rw [hd]
    refine hk.1 E' _ _ (hR.value hB0 (dst := some d) (v := .row p) (x := v') (fun d' he => by cases he; exact hN d hd) ⟨hrv.symm, hsl⟩ fun y hy' => ?_) hK
    have : y = p := hy'
    subst this
    simp [BL.liveAt, St.put, BL.get_cons, Blk.live]
  · exact ha.elim

theorem isNil_sound (h : Rel C.N E0 B0 E s a) (hB0 : ∀ x, x < 10000 → ¬ B0.liveAt x) {op : BinOp} {e : Bool} {t el yt : TypeId} {x : Operand} {x' : Opd} (ho : o.op = .binOp op t x (.const (.slice none 0 0)) yt) (he : isEql op = some e) (hu : (C.P .o).underlying t = some (.slice el)) (hx : rOpd x = some x')
    (hN : ∀ d, o.dst = some d → d < C.N) (ha : aop C (.isNil e x') o.dst s K) (hk : UponOk C E0 B0 a K next Qc) : o.wp (C.P .o) a E.w next Qc := by
  have hxs := opd_sound h.si hx
  have run : ∀ (A : Option Addr) (n c : Nat), a.eval x = .slice A n c → (execOp a.eval o).run (C.P .o) E.w = .ok (.value (.bool (if e = true then A.isNone else !A.isNone))) E.w := by
    intro A n c hv
    unfold execOp
    simp only [ho]
    have hey : a.eval (.const (.slice none 0 0)) = .slice none 0 0 := rfl
    rw [hv, hey]
    refine value_of (run_eqs he (b := A.isNone) (by unfold eqGuard; cases op <;> simp) (by simp) (by simp) (by simp) (by simp) ?_)
    rw [equal_eq]
    generalize 9999 = d
    cases A <;> simp [Op.equalIn, run_underlying hu]
  have fin : ∀ (A : Option Addr) (n c : Nat) (v : AV), a.eval x = .slice A n c → Rp E v (.bool (if e = true then A.isNone else !A.isNone)) → (∀ y, ¬ v.locs y) → K (s.setO o.dst v) → o.wp (C.P .o) a E.w next Qc := by
    intro A n c v hv hr hl hK
    unfold Oper.wp
    rw [run A n c hv]
    exact hk.1 E _ _ (h.value hB0 hN hr fun y hy => (hl y hy).elim) hK
  have hbool : ∀ A : Option Addr, (if e = true then A.isNone else !A.isNone) = e → A = none := by
    intro A q
    cases e <;> cases A <;> simp at q ⊢
  simp only [aop] at ha
  split at ha
  · rename_i hv
    rw [hv] at hxs
    refine fin none 0 0 _ hxs ?_ ?_ ha
    · cases e <;> rfl
    · cases e <;> exact fun y hy => hy.elim
  · rename_i sz n g hv
    rw [hv] at hxs
    obtain ⟨A, cap, h1, h2, h3⟩ := hxs
    refine fin A (n .o) cap (.bool fun _ => if e = true then A.isNone else !A.isNone) h1 rfl (fun y hy => hy.elim) (ha _ fun q => ?_)
    have hA := hbool A q
    rcases Nat.eq_zero_or_pos (n .o) with h0 | h0
    · exact h0
    · obtain ⟨_, b, off, h4, _⟩ := h3 0 h0
      rw [hA] at h4; cases h4
  · rename_i p hv
    rw [hv] at hxs
    split at ha
    · rename_i sz n g hb
      have hbl := h.inv.blk p
      rw [hb] at hbl
      rcases hbl with ⟨h1, h2⟩ | ⟨cap, cur, ee, h1, _⟩
      · exact fin none 0 0 (.bool fun _ => if e = true then (none : Option Addr).isNone else !(none : Option Addr).isNone) (hxs.1.trans h1) rfl (fun y hy => hy.elim) (ha _ fun _ => h2)
      · exact fin (some ⟨E.ρ p, 0, none⟩) (n .o) cap (.bool fun _ => if e = true then (some (⟨E.ρ p, 0, none⟩ : Addr)).isNone else !(some (⟨E.ρ p, 0, none⟩ : Addr)).isNone) (hxs.1.trans h1) rfl (fun y hy => hy.elim) (ha _ fun q => by have := hbool _ q; cases this)
    · exact ha.elim
  · exact ha.elim

theorem seg_clr {α : Type} {cur z : List α} {sz lo n j : Nat} (hz : z.length = sz) (hl : (lo + n) * sz ≤ cur.length) (h1 : lo ≤ j) (h2 : j < lo + n) :
    ((cur.take (lo * sz) ++ (List.replicate n z).flatten ++ cur.drop (lo * sz + (List.replicate n z).flatten.length)).drop (j * sz)).take sz = z := by
  have hs := rep_seg hz (m := n) (j := j - lo) (by omega)
  have hfl : (List.replicate n z).flatten.length = n * sz := by simp [List.length_flatten, hz]
  have hj : j * sz = lo * sz + (j - lo) * sz := by rw [← Nat.add_mul]; congr 1; omega
  have hk : (j - lo) * sz + sz ≤ n * sz := by rw [← Nat.succ_mul]; exact Nat.mul_le_mul_right _ (by omega)
  rw [Nat.add_mul] at hl
  rw [hj]
  conv => rhs; rw [← hs]
  rw [hfl]
  generalize (j - lo) * sz = K at hk ⊢
  generalize (List.replicate n z).flatten = B at hfl ⊢
  generalize lo * sz = L at hl ⊢
  generalize n * sz = M at hfl hk hl ⊢
  apply List.ext_getElem?
  intro k
  simp only [List.getElem?_take, List.getElem?_drop, List.getElem?_append, List.length_append, List.length_take, List.length_drop]
  repeat' split
  all_goals first | omega | rfl | (congr 1; omega) | (symm; apply List.getElem?_eq_none; omega) | (apply List.getElem?_eq_none; omega)
theorem seg_far {α : Type} {cur vals : List α} {sz lo n j : Nat} (hv : vals.length = n * sz) (hl : (lo + n) * sz ≤ cur.length) (hj : j < lo ∨ lo + n ≤ j) :
    ((cur.take (lo * sz) ++ vals ++ cur.drop (lo * sz + vals.length)).drop (j * sz)).take sz = (cur.drop (j * sz)).take sz := by
  have hc : j * sz + sz ≤ lo * sz ∨ lo * sz + n * sz ≤ j * sz := by
    rcases hj with q | q
    · left; have := Nat.mul_le_mul_right sz q; rw [Nat.succ_mul] at this; exact this
    · right; have := Nat.mul_le_mul_right sz q; rw [Nat.add_mul] at this; exact this
  rw [Nat.add_mul] at hl
  rw [hv]
  generalize lo * sz = L at hl hc ⊢
  generalize n * sz = M at hv hl hc ⊢
  generalize j * sz = J at hc ⊢
  apply List.ext_getElem?
  intro k
  simp only [List.getElem?_take, List.getElem?_drop, List.getElem?_append, List.length_append, List.length_take, List.length_drop]
  repeat' split
  all_goals first | omega | rfl | (congr 1; omega) | (symm; apply List.getElem?_eq_none; omega) | (apply List.getElem?_eq_none; omega)
theorem zeroCells_eq {z : Array Value} (n : Nat) (hz : z.size ≠ 0) : (Builtin.zeroCells z n).toList = (List.replicate n z.toList).flatten := by
  unfold Builtin.zeroCells
  exact range_zero z n hz

/-- A row told otherwise. -/
theorem Rel.reblk (h : Rel C.N E0 B0 E s a) {b sz sz' : Nat} {m m' : Th Nat} {g g' : Th Nat → AV} (hb : s.b.get b = .row sz m g) (hc : BlkRp E b (.row sz m g) → BlkRp E b (.row sz' m' g')) :
    Rel C.N E0 B0 E (s.put b (.row sz' m' g')) a := by
  have hget : ∀ x, (BL.cons b (.row sz' m' g') s.b).get x = if b = x then .row sz' m' g' else s.b.get x := fun x => rfl
  have hlv : ∀ x, (BL.cons b (.row sz' m' g') s.b).liveAt x ↔ s.b.liveAt x := by
    intro x
    unfold BL.liveAt
    rw [hget]
    split
    · rename_i e; subst e; rw [hb]; exact Iff.rfl
    · exact Iff.rfl
  have hsol : ∀ x, solidAt E (BL.cons b (.row sz' m' g') s.b) x ↔ solidAt E s.b x := by
    intro x
    unfold solidAt
    rw [hget]
    split
    · rename_i e; subst e; rw [hb]; exact Iff.rfl
    · exact Iff.rfl
  have hp := h.post
  refine ⟨h.tmps, ⟨fun x => ?_, fun x y hx hy => h.inv.dist x y ((hsol x).1 hx) ((hsol y).1 hy), fun x hx => h.inv.live x ((hsol x).1 hx), h.inv.ibd, fun x z hz => ?_⟩, fun k z hz => (hlv z).2 (h.tn k z hz), h.sz, h.df, fun z hz => (hlv z).2 (h.dn z hz),
    ⟨hp.le, hp.same, fun x hx hr => ?_, hp.os, hp.tape, hp.output, hp.size, hp.old, fun x hx => hp.dom x ((hlv x).1 hx), fun x hx => hp.new x ((hsol x).1 hx), fun x hx => (hlv x).2 (hp.keep x hx), hp.imm⟩⟩
  · show BlkRp E x ((BL.cons b (.row sz' m' g') s.b).get x)
    rw [hget]
    split
    · rename_i e
      subst e
      have := h.inv.blk b
      rw [hb] at this
      exact hc this
    · exact h.inv.blk x
  · have hz : ((BL.cons b (.row sz' m' g') s.b).get x).locs z := hz
    rw [hget] at hz
    split at hz
    · exact hz.elim
    · exact (hlv z).2 (h.inv.nm x z hz)
  · show ((BL.cons b (.row sz' m' g') s.b).get x).isRow = false
    rw [hget]
    split
    · rename_i e
      subst e
      have := hp.kind b hx hr
      rw [hb] at this
      cases this
    · exact hp.kind x hx hr
theorem clr_sound (h : Rel C.N E0 B0 E s a) (hB0 : ∀ x, x < 10000 → ¬ B0.liveAt x) {args : Array Operand} {ts : Array TypeId} {x : Operand} {x' : Opd} {t e : TypeId} {i : TypeInfo} {z : Value} {c : AV}
    (ho : o.op = .call { callee := .builtin .clear, args := args, argTypes := ts }) (hargs : args.toList = [x]) (hts : ts.toList = [t]) (hu : (C.P .o).underlying t = some (.slice e)) (hi : (C.P .o).info? e = some i) (hz : i.zero = some z) (hx : rOpd x = some x')
    (hc : rCells z = some c) (hcond : z.cells.size = i.size ∧ i.size ≠ 0 ∧ c.stillB = true ∧ c.scals = true) (hN : ∀ d, o.dst = some d → d < C.N) (ha : aop C (.clr i.size c x') o.dst s K) (hk : UponOk C E0 B0 a K next Qc) : o.wp (C.P .o) a E.w next Qc := by
  have hxs := opd_sound h.si hx
  simp only [aop] at ha
  split at ha
  rotate_left
  · exact ha.elim
  rename_i d sz1 lo n hw
  rw [hw] at hxs
  split at ha
  rotate_left
  · exact ha.elim
  rename_i sz2 m g hb
  split at ha
  rotate_left
  · exact ha.elim
  rename_i hs1 hs2
  have e1 : i.size = sz1 := by simpa using hs1
  have e2 : i.size = sz2 := by simpa using hs2
  subst e1; subst e2
  obtain ⟨hroom, g', hg1, hg2, hK⟩ := ha
  obtain ⟨hzc, _⟩ := cells_of (E := E) hc
  have hok : c.okE := ⟨stillB_spec c hcond.2.2.1, hcond.2.2.2⟩
  have hzl : z.cells.toList.length = i.size := by simpa using hcond.1
  have hzne : z.cells.size ≠ 0 := by rw [hcond.1]; exact hcond.2.1
  have hzero : (zeroValue e).run (C.P .o) E.w = .ok z E.w := by simp [zeroValue, typeInfo, hi, hz]
  obtain ⟨ah, hah⟩ : ∃ v, v = a.eval x := ⟨_, rfl⟩
  rw [← hah] at hxs
  have hex : ∀ v w', (Builtin.clear_ #[t] o.type #[ah]).run (C.P .o) E.w = .ok v w' → (execOp a.eval o).run (C.P .o) E.w = .ok (.value v) w' := by
    intro v w' hr
    have h1 : args = #[x] := by apply Array.ext'; simpa using hargs
    have h2 : ts = #[t] := by apply Array.ext'; simpa using hts
    rw [hah] at hr
    unfold execOp
    simp only [ho, h1, h2, resolve, Sem.run_bind, Sem.run_pure, Result.andThen_ok, invoke, builtin]
    simp only [List.map_toArray, List.map_cons, List.map_nil] at hr ⊢
    rw [hr]
    rfl
  have hB := h.inv.blk d
  rw [hb] at hB
  have fin : ∀ (w' : World) (E' : Env), (Builtin.clear_ #[t] o.type #[ah]).run (C.P .o) E.w = .ok (.tuple #[]) w' → E'.w = w' → Rel C.N E0 B0 E' (s.put d (.row i.size m g')) a → o.wp (C.P .o) a E.w next Qc := by
    intro w' E' hr hw hR
    unfold Oper.wp
    rw [hex _ _ hr]
    show next (a.put o.dst _) _
    rw [← hw]
    exact hk.1 E' _ _ (hR.value hB0 hN (v := .tup .nil) (x := .tuple #[]) (rp_tup.2 ⟨[], rfl, listC_nil.2 rfl⟩) fun y hy => hy.elim) hK
  have empty : n .o = 0 → ∃ E', E'.w = E.w ∧ Rel C.N E0 B0 E' (s.put d (.row i.size m g')) a := by
    intro hn
    exact ⟨E, rfl, h.reblk hb (fun hF => by
      rcases hF with h1 | ⟨cap, cur, ee, h1, h2, h3, h4, h5, h6⟩
      · exact .inl h1
      · exact .inr ⟨cap, cur, ee, h1, h2, h3, h4, h5, fun j hj => by
          have hf := hg1 j hj (by omega)
          exact ⟨hf.ok (h6 j hj).1, hf.rp E _ (h6 j hj).2⟩⟩)⟩
  by_cases hn : n .o = 0
  · obtain ⟨E', h1, h2⟩ := empty hn
    refine fin E.w E' ?_ h1 h2
    rcases hxs with ⟨_, _, _, rfl⟩ | ⟨A, m', c', p, _, _, rfl, _⟩
    · unfold Builtin.clear_
      simp [run_underlying hu]
    · rw [hn]
      unfold Builtin.clear_
      simp [run_underlying hu]
  rcases hxs with ⟨_, _, h0, _⟩ | ⟨A, m', c', p, h1, h2, rfl, h3⟩
  · exact (hn h0).elim
  rcases hB with ⟨h5, _⟩ | ⟨cap, cur, ee, h5, h6, h7, h8, h9, h10⟩
  · rw [h1] at h5; cases h5
  rw [h1] at h5; cases h5
  have h3 := h3 (.inl hn)
  subst h3
  have hflen : (List.replicate (n .o) z.cells.toList).flatten.length = n .o * i.size := by simp [List.length_flatten, hcond.1]
  have hin : (lo .o + n .o) * i.size ≤ cur.length := by rw [h9]; exact Nat.mul_le_mul_right _ (by omega)
  have hin' := hin
  rw [Nat.add_mul] at hin'
  have hone : ∀ u ∈ (List.replicate (n .o) z.cells.toList).flatten, u.oneCell' = true := by
    intro u hu'
    obtain ⟨l, hl, hul⟩ := List.mem_flatten.1 hu'
    rw [List.eq_of_mem_replicate hl] at hul
    exact scals_one c _ hzc hcond.2.2.2 u hul
  have hlen' : (cur.take (lo .o * i.size) ++ (List.replicate (n .o) z.cells.toList).flatten ++ cur.drop (lo .o * i.size + (List.replicate (n .o) z.cells.toList).flatten.length)).length = cur.length := by
    simp only [List.length_append, List.length_take, List.length_drop, hflen]; omega
  have hdl : solidAt E s.b d := by unfold solidAt; rw [hb]; show E.rv d ≠ _; rw [h1]; simp
  obtain ⟨E', hw, hR⟩ := h.setBlk hB0 hdl (cur.take (lo .o * i.size) ++ (List.replicate (n .o) z.cells.toList).flatten ++ cur.drop (lo .o * i.size + (List.replicate (n .o) z.cells.toList).flatten.length)) (.row i.size m g') rfl (by rw [hb]; rfl)
    (fun z hz => hz.elim)
    (fun E' hw hρ hrv hle => by
      refine .inr ⟨c', _, ee, by rw [hrv, hρ]; exact h1, by rw [hw, hρ]; exact h6.setRow hlen', h7, h8, by rw [hlen']; exact h9, fun j hj => ?_⟩
      by_cases hjr : j < lo .o ∨ lo .o + n .o ≤ j
      · have hf := hg1 j hj hjr
        refine ⟨hf.ok (h10 j hj).1, hf.rp E' _ ?_⟩
        rw [seg_far hflen hin hjr]
        exact (rp_mono hle _ fun z hz => ((AV.still_locs _).1 (h10 j hj).1.1 z hz).elim).2.1 _ (h10 j hj).2
      · have hf := hg2 j (by omega) (by omega)
        refine ⟨hf.ok hok, hf.rp E' _ ?_⟩
        rw [seg_clr hzl hin (by omega) (by omega)]
        exact (rp_mono hle _ fun z hz => ((AV.still_locs _).1 hok.1 z hz).elim).2.1 _ hzc)
  obtain ⟨fr, hgh, hsoft⟩ := h6.ex
  have hst' := run_storeCells_soft (C.P .o) (E.ρ d) (lo .o * i.size) ee fr (List.replicate (n .o) z.cells.toList).flatten 0 cur.toArray E.w hgh (by simpa using hsoft) (by simp only [List.size_toArray, hflen]; omega) hone
  refine fin _ E' ?_ hw hR
  obtain ⟨k, hk'⟩ : ∃ k, n .o = k + 1 := ⟨n .o - 1, by omega⟩
  rw [hk'] at hst' ⊢
  unfold Builtin.clear_
  simp only [List.getElem?_toArray, List.getElem?_cons_zero, Sem.run_bind, run_underlying hu, Result.andThen_ok, addr_add, Nat.zero_add, hzero, zeroCells_eq _ hzne, hst']
  simp

theorem allocR_sound (h : Rel C.N E0 B0 E s a) (hB0 : ∀ x, x < 10000 → ¬ B0.liveAt x) {t e : TypeId} {n : Nat} (ho : o.op = .alloc t) {i ie : TypeInfo} {z : Value} {c : AV} (hi : (C.P .o).info? t = some i) (hz : i.zero = some z) (hc : rCells z = some c)
    (hcond : c.len = n * ie.size ∧ n ≤ 2 ^ 24) (hN : ∀ d, o.dst = some d → d < C.N) (ha : aop C (.allocR ie.size n c) o.dst s K) (hk : UponOk C E0 B0 a K next Qc) : o.wp (C.P .o) a E.w next Qc := by
  simp only [aop] at ha
  split at ha
  rotate_left
  · exact ha.elim
  rename_i d hd
  split at ha
  rotate_left
  · exact ha.elim
  rename_i hf hst hsc
  obtain ⟨hdead, hlt⟩ := fresh_spec hf
  obtain ⟨hcl, _⟩ := cells_of (E := E) hc
  have hlen : z.cells.toList.length = n * ie.size := by rw [← listC_len' hcl]; exact hcond.1
  obtain ⟨E', hw, hR⟩ := h.newBlk hB0 (hN d hd) hdead hlt z.cells.toList t (.slice (some ⟨E.w.heap.size, 0, none⟩) n n) (.row ie.size (fun _ => n) fun i => elemAt ie.size c (i .o)) (.ptr d 0) (.pointer (some ⟨E.w.heap.size, 0, none⟩))
    rfl (fun y hy => hy.elim) (fun y hy => hy) (fun E' hw hle hρ hrv hs => by
      refine ⟨.inr ⟨n, _, t, by rw [hrv, hρ], by rw [hρ, hw]; exact Hs.mk0 (alloc_new _ _), Nat.le_refl _, by unfold maxLen; omega, hlen, fun j hj => ?_⟩, by simp [Rp, hρ]⟩
      have hj : j < n := hj
      have hjs : j * ie.size + ie.size ≤ z.cells.toList.length := by rw [hlen, ← Nat.succ_mul]; exact Nat.mul_le_mul_right _ hj
      have hcl' := (rp_mono hle c fun y hy => ((AV.still_locs _).1 (stillB_spec c hst) y hy).elim).2.1 _ hcl
      exact elemAt_sound hcl' (stillB_spec c hst) hsc ie.size j hjs)
  have hrun : (execOp a.eval o).run (C.P .o) E.w = .ok (.value (.pointer (some ⟨E.w.heap.size, 0, none⟩))) (E.w.alloc (.cells z.cells t)) := by
    unfold execOp
    simp only [ho]
    simp [Instr.alloc, zeroValue, typeInfo, hi, hz, newVar, newRow, newObj, Sem.run]
  unfold Oper.wp
  rw [hrun]
  have hw' : E'.w = E.w.alloc (.cells z.cells t) := by simpa using hw
  show next (a.put o.dst _) _
  rw [← hw', hd]
  exact hk.1 E' _ _ hR ha

theorem panic_sound (h : Rel C.N E0 B0 E s a) {x : Operand} {x' : Opd} (ho : o.op = .panic x) (hx : rOpd x = some x') (ha : aop C (.panic x') o.dst s K) (hk : UponOk C E0 B0 a K next Qc) : o.wp (C.P .o) a E.w next Qc := by
  simp only [aop] at ha
  split at ha
  · rename_i t v hv
    have hxs := opd_sound h.si hx
    rw [hv] at hxs
    obtain ⟨y, h1, h2⟩ := hxs
    have hrun : (execOp a.eval o).run (C.P .o) E.w = .halt (.panic (.iface t y)) E.w := by
      unfold execOp
      simp only [ho, h1]
      simp [Instr.panic, goPanic, Sem.run]
    unfold Oper.wp
    rw [hrun]
    exact hk.2 E s (.ifc t v) (.iface t y) h ⟨y, rfl, h2⟩ (fun z hz => opd_locs h hx (by rw [hv]; exact hz)) ha
  · exact ha.elim

theorem defer_sound (h : Rel C.N E0 B0 E s a) {x : Operand} {args : Array Operand} {ts : Array TypeId} {x' : Opd} {q : List Opd} (ho : o.op = .defer { callee := .value x, args := args, argTypes := ts }) (hx : rOpd x = some x') (hq : rOpds args.toList = some q)
    (ha : aop C (.defer x' q) o.dst s K) (hk : UponOk C E0 B0 a K next Qc) : o.wp (C.P .o) a E.w next Qc := by
  simp only [aop] at ha
  split at ha
  · rename_i f first caps hd hv
    have hxs := opd_sound h.si hx
    rw [hv] at hxs
    obtain ⟨l, m, h1, h2, h3⟩ := hxs
    have hvs := opds_sound h.si _ _ hq
    have hxl : ∀ y, (AV.fn f first caps).locs y → s.b.liveAt y := fun y hy => opd_locs h hx (by rw [hv]; exact hy)
    have hrun : (execOp a.eval o).run (C.P .o) E.w = .ok (.defer { target := .fn f m.toArray, args := (l ++ args.toList.map a.eval).toArray }) E.w := by
      unfold execOp
      simp only [ho, resolve, h1, Deferred.ofValue, Sem.run_bind, Sem.run_pure, Result.andThen_ok]
      congr 3
      apply Array.ext'
      simp
    unfold Oper.wp
    rw [hrun, ]
    show next (({ a with defers := _ :: a.defers } : Act).put o.dst undef) _
    rw [hd]
    refine hk.1 E ⟨s.t, s.b, .cons (.fn f (first.app (chain (evs s q))) caps) s.df⟩ _ ⟨h.tmps, h.inv, h.tn, h.sz, ⟨m, l ++ args.toList.map a.eval, a.defers, rfl, h3, listC_app h2 hvs, h.df⟩, fun y hy => ?_, h.post⟩ ha
    rcases hy with (hy | hy) | hy
    · rcases app_locs hy with hy | hy
      · exact hxl y (.inl hy)
      · exact opds_locs h _ _ hq hy
    · exact hxl y (.inr hy)
    · exact h.dn y hy
  · exact ha.elim

theorem aop_sound (h : Rel C.N E0 B0 E s a) (hB0 : ∀ x, x < 10000 → ¬ B0.liveAt x) {ro : RO} (hr : rOpX (C.P .o) o.op = some ro) (hN : ∀ d, o.dst = some d → d < C.N) (hst : (∃ t x y, o.op = .store t x y) → o.dst = none)
    (ha : aop C ro o.dst s K) (hk : UponOk C E0 B0 a K next Qc) : o.wp (C.P .o) a E.w next Qc := by
  unfold rOpX at hr
  split at hr
  · rename_i t ho
    split at hr
    · rename_i n e i hu hi
      split at hr
      · rename_i z ie hz hie
        split at hr
        · rename_i c hc
          split at hr
          · rename_i hcond
            cases hr
            exact allocR_sound (e := e) h hB0 ho hi hz hc hcond hN ha hk
          · cases hr
        · cases hr
      · cases hr
    · rename_i i hi hnu
      split at hr
      · rename_i z hz
        split at hr
        · rename_i c hc
          cases hr
          exact alloc_sound h hB0 ho hi hz hc hN ha hk
        · cases hr
      · cases hr
    · cases hr
  · rename_i t x ho
    obtain ⟨y, hy, rfl⟩ := opt_map hr
    exact box_sound h hB0 ho hy hN ha hk
  · rename_i t ps ho
    split at hr
    · rename_i it n e hi hu
      split at hr
      · rename_i z ie hz hie
        exact build_sound h hB0 ho (fun parts => by simp [Program.built, hi, hu, hz, hie]) hr hN ha hk
      · cases hr
    · rename_i it fields hi hu
      split at hr
      · rename_i z places hz hpl
        exact build_sound h hB0 ho (fun parts => by simp only [Program.built, hi, hu, hz, hpl]) hr hN ha hk
      · cases hr
    · cases hr
  · rename_i t n ps ho
    split at hr
    · rename_i e hu
      split at hr
      · rename_i i hi
        split at hr
        · rename_i z hz
          split at hr
          · rename_i c qs hc hq
            split at hr
            · rename_i hcond
              cases hr
              exact bslice_sound h hB0 ho hu hi hz hc hq hcond hN ha hk
            · cases hr
          · cases hr
        · cases hr
      · cases hr
    · cases hr
  · rename_i t x y ho
    split at hr
    · rename_i i x' y' hi hx hy
      cases hr
      exact store_sound h hB0 ho hi hx hy (hst ⟨t, x, y, ho⟩) ha hk
    · cases hr
  · rename_i args ts ho
    split at hr
    · rename_i x y t t' hargs hts
      split at hr
      · rename_i htt
        subst htt
        split at hr
        · rename_i e hu
          split at hr
          · rename_i i hi
            split at hr
            · rename_i z x' y' hz hx hy
              split at hr
              · rename_i hcond
                cases hr
                exact append_sound h hB0 ho hargs hts hu hi hz hx hy hcond.1 hcond.2 hN ha hk
              · cases hr
            · cases hr
          · cases hr
        · cases hr
      · cases hr
    · cases hr
  · rename_i args ts ho
    split at hr
    · rename_i x t hargs hts
      split at hr
      · rename_i e hu
        split at hr
        · rename_i i hi
          split at hr
          · rename_i z x' hz hx
            split at hr
            · rename_i c hc
              split at hr
              · rename_i hcond
                cases hr
                exact clr_sound h hB0 ho hargs hts hu hi hz hx hc hcond hN ha hk
              · cases hr
            · cases hr
          · cases hr
        · cases hr
      · cases hr
    · cases hr
  · rename_i f args ts ho
    split at hr
    · rename_i hc
      obtain ⟨q, hq, rfl⟩ := opt_map hr
      exact callf_sound h hB0 ho hc hq hN ha hk
    · cases hr
  · rename_i t args ts ho
    obtain ⟨q, hq, rfl⟩ := opt_map hr
    exact callv_sound h hB0 ho hq hN ha hk
  · rename_i x ho
    obtain ⟨y, hy, rfl⟩ := opt_map hr
    exact panic_sound h ho hy ha hk
  · rename_i x args ts ho
    split at hr
    · rename_i x' q hx hq
      cases hr
      exact defer_sound h ho hx hq ha hk
    · cases hr
  · rename_i t l c ho
    split at hr
    · rename_i e hu
      split at hr
      · rename_i i hi
        split at hr
        · rename_i z hz
          split at hr
          · rename_i cz l' c' hcz hl hc
            split at hr
            · rename_i hcond
              cases hr
              exact mks_sound h hB0 ho hu hi hz hcz hl hc hcond hN ha hk
            · cases hr
          · cases hr
        · cases hr
      · cases hr
    · cases hr
  · rename_i op t x y yt ho
    split at hr
    · rename_i e el he hu
      obtain ⟨q, hq, rfl⟩ := opt_map hr
      exact isNil_sound h hB0 ho he hu hq hN ha hk
    · exact quiet_sound h hB0 (ho ▸ hr) hN ha hk
  · rename_i src dst x ho
    split at hr
    · rename_i e hs hd
      split at hr
      · rename_i he
        obtain ⟨y, hy, rfl⟩ := opt_map hr
        exact s2b_sound h hB0 ho hs hd (isU8_spec he) hy hN ha hk
      · cases hr
    · rename_i e1 e hs hd
      split at hr
      · rename_i he
        obtain ⟨y, hy, rfl⟩ := opt_map hr
        exact s2s_sound h hB0 ho hs hd (isU8_spec he.1) he.2 hy hN ha hk
      · cases hr
    · exact quiet_sound h hB0 (ho ▸ hr) hN ha hk
  · exact quiet_sound h hB0 hr hN ha hk

theorem rOpX_call {P : Program} {op : Op} {f : Nat} {q : List Opd} (h : rOpX P op = some (.call f q)) : ∃ as ts, op = .call { callee := .value (.func f), args := as, argTypes := ts } ∧ callable P f = true ∧ rOpds as.toList = some q := by
  unfold rOpX at h
  split at h
  all_goals try unfold rBuild at h
  all_goals (repeat' split at h)
  all_goals first
    | (cases h; done)
    | (have := rOp_quiet h; cases this; done)
    | (obtain ⟨y, _, he⟩ := opt_map h; cases he; done)
    | (obtain ⟨y, hy, he⟩ := opt_map h; cases he; exact ⟨_, _, rfl, by assumption, hy⟩)
/-! ### calls that are handed what they are for reading only -/
theorem frz_sound {E : Env} {B : BL} (hB : ∀ d, BlkRp E d (B.get d)) (hI : ∀ b o, E.I b o → b < E.w.heap.size) {h : Nat → Nat → Option AV}
    (hh : ∀ d o y, h d o = some y → ∀ v, Rp E (.ptr d o) v → Rp ⟨E.ρ, E.rv, fun b _ => b < E.w.heap.size, E.w⟩ y v) (x : AV) :
    ∀ y, x.frz B h = some y → (∀ v, Rp E x v → Rp ⟨E.ρ, E.rv, fun b _ => b < E.w.heap.size, E.w⟩ y v) ∧ (∀ l, ListC E x l → ListC ⟨E.ρ, E.rv, fun b _ => b < E.w.heap.size, E.w⟩ y l) ∧ (∀ b o, MemC E x b o → MemC ⟨E.ρ, E.rv, fun b _ => b < E.w.heap.size, E.w⟩ y b o) := by
  have hle : E.Le ⟨E.ρ, E.rv, fun b _ => b < E.w.heap.size, E.w⟩ := ⟨fun b o hi => hI b o hi, fun _ _ _ => rfl⟩
  induction x with
  | row d =>
    intro y hy
    refine ⟨fun v hv => ?_, fun _ h => h.elim, fun _ _ h => h.elim⟩
    unfold AV.frz at hy
    split at hy
    · rename_i sz n g hb
      cases hy
      have hbl := hB d
      rw [hb] at hbl
      rcases hbl with ⟨h1, h2⟩ | ⟨cap, cur, e, h1, h2, h3, h4, h5, h6⟩
      · exact ⟨none, 0, by rw [h2]; exact hv.1.trans h1, by rw [h2]; exact Nat.le_refl _, fun i hi => by rw [h2] at hi; exact absurd hi (Nat.not_lt_zero _)⟩
      · refine ⟨_, cap, hv.1.trans h1, h3, fun i hi => ⟨⟨(h6 i hi).1, by rw [listC_len' (h6 i hi).2]; exact row_elem h5 h3 hi⟩, E.ρ d, 0, rfl, ?_⟩⟩
        refine memC_of_list' _ _ _ _ ((rp_mono hle _ fun _ _ => ⟨rfl, rfl⟩).2.1 _ (h6 i hi).2) fun j u hj => ⟨?_, h2.lt⟩
        show E.w.cell? _ = _
        rw [h2.cell]
        rw [List.getElem?_take] at hj
        split at hj
        · rw [List.getElem?_drop] at hj; rw [← hj]; congr 1; omega
        · cases hj
    · cases hy
  | ptr d o => intro y hy; exact ⟨fun v hv => hh d o y hy v hv, fun _ h => h.elim, fun _ _ h => h.elim⟩
  | rptr d sz i o => intro y hy; cases hy
  | win d sz i o => intro y hy; cases hy
  | iptr c ih =>
    intro y hy
    refine ⟨fun v hv => ?_, fun _ h => h.elim, fun _ _ h => h.elim⟩
    unfold AV.frz at hy
    split at hy
    · rename_i c' hc
      cases hy
      obtain ⟨b, o, h1, h2⟩ := hv
      exact ⟨b, o, h1, (ih _ hc).2.2 _ _ h2⟩
    · cases hy
  | ifc t v ih =>
    intro y hy
    refine ⟨fun v hv => ?_, fun _ h => h.elim, fun _ _ h => h.elim⟩
    unfold AV.frz at hy
    split at hy
    · rename_i c' hc
      cases hy
      obtain ⟨y, h1, h2⟩ := hv
      exact ⟨y, h1, (ih _ hc).1 _ h2⟩
    · cases hy
  | agg c ih =>
    intro y hy
    refine ⟨fun v hv => ?_, fun _ h => h.elim, fun _ _ h => h.elim⟩
    unfold AV.frz at hy
    split at hy
    · rename_i c' hc
      cases hy
      obtain ⟨l, h1, h2⟩ := rp_agg.1 hv
      exact rp_agg.2 ⟨l, h1, (ih _ hc).2.1 _ h2⟩
    · cases hy
  | tup c ih =>
    intro y hy
    refine ⟨fun v hv => ?_, fun _ h => h.elim, fun _ _ h => h.elim⟩
    unfold AV.frz at hy
    split at hy
    · rename_i c' hc
      cases hy
      obtain ⟨l, h1, h2⟩ := rp_tup.1 hv
      exact rp_tup.2 ⟨l, h1, (ih _ hc).2.1 _ h2⟩
    · cases hy
  | fn f a b iha ihb =>
    intro y hy
    refine ⟨fun v hv => ?_, fun _ h => h.elim, fun _ _ h => h.elim⟩
    unfold AV.frz at hy
    split at hy
    · rename_i a' b' ha hb
      cases hy
      obtain ⟨l, m, h1, h2, h3⟩ := hv
      exact ⟨l, m, h1, (iha _ ha).2.1 _ h2, (ihb _ hb).2.1 _ h3⟩
    · cases hy
  | cons a b iha ihb =>
    intro y hy
    unfold AV.frz at hy
    split at hy
    · rename_i a' b' ha hb
      cases hy
      refine ⟨fun _ h => h.elim, fun l hl => ?_, fun b o hm => ?_⟩
      · obtain ⟨x, r, h1, h2, h3⟩ := hl
        exact ⟨x, r, h1, (iha _ ha).1 _ h2, (ihb _ hb).2.1 _ h3⟩
      · obtain ⟨⟨v, h1, h2, h3⟩, h4⟩ := hm
        exact ⟨⟨v, h1, hI _ _ h2, (iha _ ha).1 _ h3⟩, (ihb _ hb).2.2 _ _ h4⟩
    · cases hy
  | _ => intro y hy; cases hy; exact rp_mono hle _ fun _ _ => ⟨rfl, rfl⟩
theorem frz_locs {B : BL} {h : Nat → Nat → Option AV} (hh : ∀ d o y, h d o = some y → ∀ z, ¬ y.locs z) (x : AV) : ∀ y, x.frz B h = some y → ∀ z, ¬ y.locs z := by
  induction x with
  | row d =>
    intro y hy z hz
    unfold AV.frz at hy
    split at hy
    · cases hy; exact hz
    · cases hy
  | ptr d o => intro y hy; exact hh d o y hy
  | rptr d sz i o => intro y hy; cases hy
  | win d sz i o => intro y hy; cases hy
  | iptr c ih | ifc t v ih | agg c ih | tup c ih =>
    intro y hy
    unfold AV.frz at hy
    split at hy
    · rename_i c' hc; cases hy; exact fun z hz => ih c' hc z hz
    · cases hy
  | fn f a b iha ihb | cons a b iha ihb =>
    intro y hy z hz
    unfold AV.frz at hy
    split at hy
    · rename_i a' b' ha hb; cases hy; exact hz.elim (iha _ ha z) (ihb _ hb z)
    · cases hy
  | _ => intro y hy z hz; cases hy; exact hz
theorem memC_of_cells {E : Env} {g : Nat} {l : List Value} {e : TypeId} {c : AV} (h1 : E.w.heap[g]? = some (.cells l.toArray e (0, 0))) (hc : ListC ⟨E.ρ, E.rv, fun b _ => b < E.w.heap.size, E.w⟩ c l) : MemC ⟨E.ρ, E.rv, fun b _ => b < E.w.heap.size, E.w⟩ c g 0 :=
  memC_of_list' _ _ _ _ hc fun j u hj => ⟨by show E.w.cell? _ = _; rw [cell_of_heap h1, Nat.zero_add]; exact hj, (Array.getElem?_eq_some_iff.1 h1).1⟩
theorem frzP_sound {E : Env} {B : BL} (hB : ∀ d, BlkRp E d (B.get d)) (hI : ∀ b o, E.I b o → b < E.w.heap.size) : ∀ (k d o : Nat) (y : AV), frzP B k d o = some y → (∀ v, Rp E (.ptr d o) v → Rp ⟨E.ρ, E.rv, fun b _ => b < E.w.heap.size, E.w⟩ y v) ∧ ∀ z, ¬ y.locs z
  | 0, d, o, y, h => by cases h
  | k + 1, d, o, y, h => by
    unfold frzP at h
    split at h
    · rename_i c hb
      split at h
      · rename_i c' hc
        cases h
        have hbl := hB d
        rw [hb] at hbl
        obtain ⟨l, e, h1, h2⟩ := hbl
        have h3 := (frz_sound hB hI (fun d o y q => (frzP_sound hB hI k d o y q).1) c c' hc).2.1 _ h2
        refine ⟨fun v hv => ?_, fun z hz => frz_locs (fun d o y q => (frzP_sound hB hI k d o y q).2) c c' hc z (drop_locs _ _ z hz)⟩
        refine ⟨E.ρ d, o, hv, ?_⟩
        have := memC_drop o c' _ 0 (memC_of_cells h1 h3)
        rwa [Nat.zero_add] at this
      · cases h
    · cases h

theorem peek_sound (h : Rel C.N E0 B0 E s a) (hB0 : ∀ x, x < 10000 → ¬ B0.liveAt x) {f : Nat} {args : Array Operand} {ts : Array TypeId} {q : List Opd} (ho : o.op = .call { callee := .value (.func f), args := args, argTypes := ts }) (hcal : callable (C.P .o) f = true) (hq : rOpds args.toList = some q)
    (hN : ∀ d, o.dst = some d → d < C.N) (ha : aop C (.peek f q) o.dst s K) (hk : UponOk C E0 B0 a K next Qc) : o.wp (C.P .o) a E.w next Qc := by
  have hvs := opds_sound h.si _ _ hq
  simp only [aop] at ha
  split at ha
  rotate_left
  · exact ha.elim
  rename_i c hf hc
  have h1 := (frz_sound h.inv.blk h.inv.ibd (fun d o y q => (frzP_sound h.inv.blk h.inv.ibd 8 d o y q).1) _ c hc).2.1 _ hvs
  have h2 := frz_locs (fun d o y q => (frzP_sound h.inv.blk h.inv.ibd 8 d o y q).2) _ c hc
  obtain ⟨h3, h4⟩ := unchain_sound h1
  have hdead : ∀ x, ¬ BL.nil.liveAt x := fun x hx => by simp [BL.liveAt, BL.get, Blk.live] at hx
  have hnil : Inv ⟨E.ρ, E.rv, fun b _ => b < E.w.heap.size, E.w⟩ .nil := ⟨fun d => trivial, fun d d' hd => (hdead d (solid_live hd)).elim, fun d hd => (hdead d (solid_live hd)).elim, fun b o hb => hb, fun d x hx => hx.elim⟩
  have hrun : (execOp a.eval o).run (C.P .o) E.w = .ok (.enter f (args.toList.map a.eval).toArray) E.w := by
    unfold execOp
    simp only [ho, resolve, Act.eval, Deferred.ofValue, Sem.run_bind, Sem.run_pure, Result.andThen_ok, invoke]
    rw [run_callFunc hcal]
    congr 2
    apply Array.ext'
    simp
  unfold Oper.wp
  rw [hrun]
  refine (ha.run _ _ hnil h3 (fun x hx => (h2 x ((h4 x).1 hx)).elim) (hdead _)).mono ?_
  rintro e w' ⟨E', r, B', rfl, hK, hend, hinv, hpost, hl⟩
  split at hK
  rotate_left
  · exact hK.elim
  rename_i hfl
  have hold : ∀ b, b < E.w.heap.size → E'.w.heap[b]? = E.w.heap[b]? := fun b hb => hpost.old b hb fun x hx => (hdead x (solid_live hx)).elim
  have hR := h.world hpost.os hpost.tape hpost.output hpost.size hold
  have hflat : ∀ v, r = .ret v → v.flat = true := fun v hv => by subst hv; exact hfl
  cases r with
  | ret v =>
    obtain ⟨k1, _, k3⟩ := flat_spec (E := E') (E' := ⟨E.ρ, E.rv, E.I, E'.w⟩) v hfl
    cases e with
    | returned x => exact hk.1 ⟨E.ρ, E.rv, E.I, E'.w⟩ _ _ (hR.value hB0 hN (k1 _ hend) fun y hy => (k3 y hy).elim) hK
    | _ => exact hend.elim
  | pan v =>
    obtain ⟨k1, _, k3⟩ := flat_spec (E := E') (E' := ⟨E.ρ, E.rv, E.I, E'.w⟩) v hfl
    cases e with
    | panicked ch =>
      obtain ⟨x, rfl, hx⟩ := hend
      exact hk.2 ⟨E.ρ, E.rv, E.I, E'.w⟩ _ _ _ hR (k1 _ hx) (fun y hy => (k3 y hy).elim) hK
    | _ => exact hend.elim

theorem aop_soundE (h : Rel C.N E0 B0 E s a) (hB0 : ∀ x, x < 10000 → ¬ B0.liveAt x) {ro : RO} (hr : rOpX (C.P .o) o.op = some ro.erase) (hN : ∀ d, o.dst = some d → d < C.N) (hst : (∃ t x y, o.op = .store t x y) → o.dst = none)
    (ha : aop C ro o.dst s K) (hk : UponOk C E0 B0 a K next Qc) : o.wp (C.P .o) a E.w next Qc := by
  cases ro with
  | peek f args =>
    have hr : rOpX (C.P .o) o.op = some (.call f args) := hr
    obtain ⟨as, ts, ho, hc, hq⟩ := rOpX_call hr
    exact peek_sound h hB0 ho hc hq hN ha hk
  | _ => exact aop_sound h hB0 hr hN hst ha hk

end

end Go.Proofs.YtiaenejafpbfkaaDoor.Sx

/- Texts laid together: Sxj, Sxr, Sxs, Sxt, Sxu, Sxv. -/
import Derived.Great.BuildSlice
import Derived.Lib.ConvBytes
import Derived.Laws.MakeOwn
import Derived.Orders
import Derived.Test.YtkklflpfklbbcaaDoorHd1
/- A symbolic executor for the model's code: every operation does as the model does, the third part. -/
namespace Go.Proofs.YtkklflpfklbbcaaDoor.Sx
open Go
set_option linter.unusedSimpArgs false
set_option linter.unusedVariables false
def isQuiet : RO → Bool
  | .alloc _ => false | .box _ => false | .bslice _ _ _ _ => false | .append _ _ _ _ => false | .s2s _ => false | .mks _ _ _ _ _ => false | .store _ _ _ => false | .call _ _ => false | .callv _ _ => false | .panic _ => false | .defer _ _ => false | .peek _ _ => false | .isNil _ _ => false | .clr _ _ _ => false | .allocR _ _ _ => false | .s2r _ => false | .appS _ _ => false | .sliceA _ _ _ => false | .growc _ _ _ _ => false
  | _ => true
theorem aop_quiet {C : Cx} {ro : RO} {dst : Option Nat} {s : St} {K : St → Prop} (hq : isQuiet ro = true) (h : aop C ro dst s K) : ∃ v, (qev s ro).gives v ∧ K (s.setO dst v) := by
  have key : (match qev s ro with | .bad => False | .ok v => K (s.setO dst v) | .cond p v => (True → p .o) ∧ K (s.setO dst v)) → ∃ v, (qev s ro).gives v ∧ K (s.setO dst v) := by
    intro h
    split at h
    · exact h.elim
    · rename_i v hv; exact ⟨v, .inl hv, h⟩
    · rename_i p v hv; exact ⟨v, .inr ⟨p, hv, h.1 trivial⟩, h.2⟩
  cases ro <;> simp only [isQuiet, Bool.false_eq_true] at hq <;> exact key h
theorem rOp_quiet {P : Program} {op : Op} {ro : RO} (h : rOp P op = some ro) : isQuiet ro = true := by
  unfold rOp at h
  repeat' split at h
  all_goals first
    | (cases h; done)
    | (obtain ⟨y, _, rfl⟩ := opt_map h; rfl)
    | (cases h; rfl)
    | (cases h; split <;> rfl)
theorem rOp_s2b {P : Program} {op : Op} {x : Opd} (h : rOp P op = some (.s2b x)) : False := by
  unfold rOp at h
  repeat' split at h
  all_goals first
    | (cases h; done)
    | (obtain ⟨y, _, he⟩ := opt_map h; cases he; done)
    | (split at h <;> cases h; done)
section
variable {C : Cx} {E0 : Env} {B0 : BL} {E : Env} {s : St} {a : Act} {o : Oper} {K : St → Prop} {next : Act → World → Prop} {Qc : Exit → Act → World → Prop}
theorem liveAt_not {B : BL} {d : Nat} (h : (B.get d).live = false) : ¬ B.liveAt d := by simp [BL.liveAt, h]
theorem fresh_spec {d : Nat} (h : fresh s d = true) : ¬ s.b.liveAt d ∧ d < 10000 := by
  unfold fresh at h
  split at h
  · cases h
  · rename_i hl; exact ⟨liveAt_not hl, by simpa [ltB] using h⟩
def UponOk (C : Cx) (E0 : Env) (B0 : BL) (a : Act) (K : St → Prop) (next : Act → World → Prop) (Qc : Exit → Act → World → Prop) : Prop :=
  (∀ E' s' a', Rel C.N E0 B0 E' s' a' → K s' → next a' E'.w) ∧
  (∀ E' s' v x, Rel C.N E0 B0 E' s' a → Rp E' v x → (∀ y, v.locs y → s'.b.liveAt y) → C.X (some v) s' → Qc (.panic [{ v := x, recovered := false }]) a E'.w)
theorem quiet_sound (h : Rel C.N E0 B0 E s a) (hB0 : ∀ x, x < 10000 → ¬ B0.liveAt x) {ro : RO} (hr : rOp (C.P .o) o.op = some ro) (hN : ∀ d, o.dst = some d → d < C.N) (ha : aop C ro o.dst s K)
    (hk : UponOk C E0 B0 a K next Qc) : o.wp (C.P .o) a E.w next Qc := by
  obtain ⟨v, hg, hK⟩ := aop_quiet (rOp_quiet hr) ha
  obtain ⟨z, h1, h2⟩ := qev_sound h.si hr hg
  unfold Oper.wp
  rw [h1]
  exact hk.1 E _ _ (h.value hB0 hN h2 (qev_locs h hr hg)) hK
theorem cells_of {c : AV} {v : Value} (h : rCells v = some c) : ListC E c v.cells.toList ∧ ∀ y, ¬ c.locs y := by
  unfold rCells at h
  split at h
  · rename_i x hx
    obtain ⟨h1, h2⟩ := cval_sound (E := E) hx
    obtain ⟨h3, _, h4⟩ := cells_sound h1 h
    exact ⟨h3, fun y hy => (AV.still_locs _).1 h2 y ((h4 y).1 hy)⟩
  · cases h
theorem alloc_sound (h : Rel C.N E0 B0 E s a) (hB0 : ∀ x, x < 10000 → ¬ B0.liveAt x) {t : TypeId} (ho : o.op = .alloc t) {i : TypeInfo} {z : Value} {c : AV} (hi : (C.P .o).info? t = some i) (hz : i.zero = some z) (hc : rCells z = some c)
    (hN : ∀ d, o.dst = some d → d < C.N) (ha : aop C (.alloc c) o.dst s K) (hk : UponOk C E0 B0 a K next Qc) : o.wp (C.P .o) a E.w next Qc := by
  simp only [aop] at ha
  split at ha
  · rename_i d hd
    split at ha
    · rename_i hf
      obtain ⟨hdead, hlt⟩ := fresh_spec hf
      obtain ⟨hcl, hl⟩ := cells_of (E := E) hc
      obtain ⟨E', hw, hR⟩ := h.alloc hB0 (hN d hd) hdead hlt hcl (fun y hy => (hl y hy).elim) t
      have hrun : (execOp a.eval o).run (C.P .o) E.w = .ok (.value (.pointer (some ⟨E.w.heap.size, 0, none⟩))) (E.w.alloc (.cells z.cells t)) := by
        unfold execOp
        simp only [ho]
        simp [Instr.alloc, zeroValue, typeInfo, hi, hz, newVar, newRow, newObj, Sem.run]
      unfold Oper.wp
      rw [hrun]
      have hw' : E'.w = E.w.alloc (.cells z.cells t) := by simpa using hw
      show next (a.put o.dst _) _
      rw [← hw', hd]
      exact hk.1 E' _ _ hR ha
    · exact ha.elim
  · exact ha.elim
theorem box_sound (h : Rel C.N E0 B0 E s a) (hB0 : ∀ x, x < 10000 → ¬ B0.liveAt x) {t : TypeId} {x : Operand} {x' : Opd} (ho : o.op = .box t x) (hx : rOpd x = some x')
    (hN : ∀ d, o.dst = some d → d < C.N) (ha : aop C (.box x') o.dst s K) (hk : UponOk C E0 B0 a K next Qc) : o.wp (C.P .o) a E.w next Qc := by
  simp only [aop] at ha
  split at ha
  · rename_i d c hd hc
    split at ha
    · rename_i hf
      obtain ⟨hdead, hlt⟩ := fresh_spec hf
      obtain ⟨hcl, _, hl⟩ := cells_sound (opd_sound h.si hx) hc
      obtain ⟨E', hw, hR⟩ := h.alloc hB0 (hN d hd) hdead hlt hcl (fun y hy => opd_locs h hx ((hl y).1 hy)) t
      have hrun : (execOp a.eval o).run (C.P .o) E.w = .ok (.value (.pointer (some ⟨E.w.heap.size, 0, none⟩))) (E.w.alloc (.cells (a.eval x).cells t)) := by
        unfold execOp
        simp only [ho]
        simp [Instr.box, newVar, newRow, newObj, Sem.run]
      unfold Oper.wp
      rw [hrun]
      have hw' : E'.w = E.w.alloc (.cells (a.eval x).cells t) := by simpa using hw
      show next (a.put o.dst _) _
      rw [← hw', hd]
      exact hk.1 E' _ _ hR ha
    · exact ha.elim
  · exact ha.elim
theorem stillB_spec (x : AV) (h : x.stillB = true) : x.still := by
  induction x with
  | cons a b iha ihb => unfold AV.stillB at h; split at h; · rename_i ha; exact ⟨iha ha, ihb h⟩
                        · cases h
  | fn f a b iha ihb => unfold AV.stillB at h; split at h; · rename_i ha; exact ⟨iha ha, ihb h⟩
                        · cases h
  | iptr c ih => exact ih h
  | ifc t v ih => exact ih h
  | agg c ih => exact ih h
  | tup c ih => exact ih h
  | row d => cases h
  | ptr d o => cases h
  | rptr d s i o => cases h
  | win d s i o => cases h
  | _ => trivial
theorem over_scals (c : AV) : ∀ (n : Nat) (y r : AV), c.scals = true → y.scals = true → c.over n y = some r → r.scals = true := by
  induction c with
  | cons h t _ iht =>
    intro n y r hc hy ho
    unfold AV.scals at hc
    split at hc
    rotate_left
    · cases hc
    rename_i hh
    cases n with
    | succ n =>
      simp only [AV.over] at ho
      split at ho
      · rename_i r' hr
        cases ho
        unfold AV.scals
        rw [hh]
        exact iht n y r' hc hy hr
      · cases ho
    | zero =>
      cases y with
      | nil =>
        have : r = .cons h t := by simp [AV.over] at ho; exact ho.symm
        subst this
        unfold AV.scals
        rw [hh]
        exact hc
      | cons p q =>
        simp only [AV.over] at ho
        split at ho
        · rename_i r' hr
          cases ho
          unfold AV.scals at hy
          split at hy
          · rename_i ha
            unfold AV.scals
            rw [ha]
            exact iht 0 q r' hc hy hr
          · cases hy
        · cases ho
      | _ => simp [AV.over] at ho
  | nil =>
    intro n y r hc hy ho
    cases n <;> cases y <;> simp [AV.over] at ho
    subst ho; rfl
  | _ => intro n y r hc hy ho; unfold AV.scals at hc; cases hc
theorem seg_put_same {α : Type} {cur vals : List α} {sz i off : Nat} (hl : i * sz + sz ≤ cur.length) (h : off + vals.length ≤ sz) :
    ((cur.take (i * sz + off) ++ vals ++ cur.drop (i * sz + off + vals.length)).drop (i * sz)).take sz = ((cur.drop (i * sz)).take sz).take off ++ vals ++ ((cur.drop (i * sz)).take sz).drop (off + vals.length) := by
  generalize i * sz = L at hl ⊢
  apply List.ext_getElem?
  intro k
  simp only [List.getElem?_take, List.getElem?_drop, List.getElem?_append, List.length_append, List.length_take, List.length_drop]
  repeat' split
  all_goals first | omega | rfl | (congr 1; omega) | (symm; apply List.getElem?_eq_none; omega) | (apply List.getElem?_eq_none; omega)
theorem seg_put_other {α : Type} {cur vals : List α} {sz i j off : Nat} (hl : i * sz + sz ≤ cur.length) (h : off + vals.length ≤ sz) (hj : j ≠ i) :
    ((cur.take (i * sz + off) ++ vals ++ cur.drop (i * sz + off + vals.length)).drop (j * sz)).take sz = (cur.drop (j * sz)).take sz := by
  have hc : j * sz + sz ≤ i * sz ∨ i * sz + sz ≤ j * sz := by
    rcases Nat.lt_or_gt_of_ne hj with q | q
    · left; have := Nat.mul_le_mul_right sz q; rw [Nat.succ_mul] at this; exact this
    · right; have := Nat.mul_le_mul_right sz q; rw [Nat.succ_mul] at this; exact this
  generalize i * sz = L at hl hc ⊢
  generalize j * sz = M at hc ⊢
  apply List.ext_getElem?
  intro k
  simp only [List.getElem?_take, List.getElem?_drop, List.getElem?_append, List.length_append, List.length_take, List.length_drop]
  repeat' split
  all_goals first | omega | rfl | (congr 1; omega) | (symm; apply List.getElem?_eq_none; omega) | (apply List.getElem?_eq_none; omega)
theorem rep_seg {α : Type} {z : List α} {sz : Nat} (hz : z.length = sz) : ∀ {m j : Nat}, j < m → ((List.replicate m z).flatten.drop (j * sz)).take sz = z
  | 0, j, hj => by omega
  | m + 1, 0, _ => by simp [List.replicate_succ, ← hz]
  | m + 1, j + 1, hj => by
    rw [List.replicate_succ, List.flatten_cons, Nat.succ_mul, Nat.add_comm, ← List.drop_drop, List.drop_left' hz]
    exact rep_seg hz (by omega)
theorem store_sound (h : Rel C.N E0 B0 E s a) (hB0 : ∀ x, x < 10000 → ¬ B0.liveAt x) {t : TypeId} {x y : Operand} {x' y' : Opd} {i : TypeInfo} (ho : o.op = .store t x y) (hi : (C.P .o).info? t = some i) (hx : rOpd x = some x') (hy : rOpd y = some y')
    (hdst : o.dst = none) (ha : aop C (.store i.size x' y') o.dst s K) (hk : UponOk C E0 B0 a K next Qc) : o.wp (C.P .o) a E.w next Qc := by
  simp only [aop] at ha
  split at ha
  · rename_i d off vc hp hc
    split at ha
    · rename_i c hb
      split at ha
      · rename_i c' hlen hov
        have hxs := opd_sound h.si hx
        rw [hp] at hxs
        simp only [Rp] at hxs
        obtain ⟨hcl, hone, hl⟩ := cells_sound (opd_sound h.si hy) hc
        have hB := h.inv.blk d
        rw [hb] at hB
        obtain ⟨l, e, h1, h2⟩ := hB
        obtain ⟨h3, h4, h5⟩ := over_sound c off vc c' l _ h2 hcl hov
        have hdl : solidAt E s.b d := by unfold solidAt; rw [hb]; trivial
        obtain ⟨E', hw, hR⟩ := h.setBlk hB0 hdl (l.take off ++ (a.eval y).cells.toList ++ l.drop (off + (a.eval y).cells.toList.length)) (.cells c') rfl (by rw [hb]; rfl)
          (fun z hz => (h5 z hz).elim (fun q => h.inv.nm d z (by rw [hb]; exact q)) fun q => opd_locs h hy ((hl z).1 q))
          (fun E' hw hρ hrv hle => ⟨_, e, by rw [hw, hρ]; exact setRow_heap _ _ _ _ _ _ h1, (rp_mono hle c' fun z _ => ⟨by rw [hρ], by rw [hrv]⟩).2.1 _ h4⟩)
        have hvl : (a.eval y).cells.size = i.size := by
          have q1 := listC_len hcl
          have q2 : vc.len = i.size := by simpa using hlen
          simpa [q2] using q1
        have hst := run_storeCells_at (P := C.P .o) (E.ρ d) off e (a.eval y).cells.toList 0 l.toArray E.w h1 (by simpa using h3) hone
        have hrun : (execOp a.eval o).run (C.P .o) E.w = .ok .skip (E.w.setRow (E.ρ d) (l.take off ++ (a.eval y).cells.toList ++ l.drop (off + (a.eval y).cells.toList.length)).toArray) := by
          unfold execOp
          simp only [ho, hxs]
          simp only [Instr.storeAt, Instr.sureAddr, storeVar, Sem.run_bind, Sem.run_pure, Result.andThen_ok, run_sizeOf hi, hvl, ne_eq, not_true_eq_false, if_false]
          rw [hst]
          simp
        unfold Oper.wp
        rw [hrun]
        show next (a.put o.dst undef) _
        rw [← hw, hdst]
        exact hk.1 E' _ _ hR ha
      · exact ha.elim
    · exact ha.elim
  · rename_i d sz' n off vc hp hc
    split at ha
    rotate_left
    · exact ha.elim
    rename_i sz n' g hb
    split at ha
    rotate_left
    · exact ha.elim
    rename_i hsz hlen hst hsc
    have hszz : sz' = sz := by simpa using hsz
    subst hszz
    obtain ⟨hroom, g', c', hov, hg1, hg2, hK⟩ := ha
    have hxs := opd_sound h.si hx
    rw [hp] at hxs
    simp only [Rp] at hxs
    obtain ⟨hcl, hone, hl⟩ := cells_sound (opd_sound h.si hy) hc
    have hvl : (a.eval y).cells.size = i.size := by
      have q1 := listC_len hcl
      have q2 : vc.len = i.size := by simpa using hlen
      simpa [q2] using q1
    have hB := h.inv.blk d
    rw [hb] at hB
    rcases hB with ⟨_, h0⟩ | ⟨cap, cur, e, h1, h2, h3, h4, h5, h6⟩
    · rw [h0] at hroom; exact (Nat.not_lt_zero _ hroom).elim
    have hdl : solidAt E s.b d := by unfold solidAt; rw [hb]; show E.rv d ≠ _; rw [h1]; simp
    have hseg := row_elem h5 h3 hroom
    obtain ⟨ko, kl, kloc⟩ := over_sound _ off vc c' _ _ (h6 _ hroom).2 hcl hov
    rw [hseg] at ko
    have hin : n .o * sz' + sz' ≤ cur.length := by
      rw [h5]
      have : (n .o + 1) * sz' ≤ cap * sz' := Nat.mul_le_mul_right _ (by omega)
      rw [Nat.add_mul] at this; omega
    have hvll : (a.eval y).cells.toList.length = i.size := by simpa using hvl
    have hlen' : (cur.take (n .o * sz' + off) ++ (a.eval y).cells.toList ++ cur.drop (n .o * sz' + off + (a.eval y).cells.toList.length)).length = cur.length := by
      simp only [List.length_append, List.length_take, List.length_drop]; omega
    have hc'ok : c'.okE := ⟨(AV.still_locs _).2 fun z hz => (kloc z hz).elim ((AV.still_locs _).1 (h6 _ hroom).1.1 z) ((AV.still_locs _).1 (stillB_spec vc hst) z), over_scals _ off vc c' (h6 _ hroom).1.2 hsc hov⟩
    obtain ⟨E', hw, hR⟩ := h.setBlk hB0 hdl (cur.take (n .o * sz' + off) ++ (a.eval y).cells.toList ++ cur.drop (n .o * sz' + off + (a.eval y).cells.toList.length)) (.row sz' n' g') rfl (by rw [hb]; rfl)
      (fun z hz => hz.elim)
      (fun E' hw hρ hrv hle => by
        refine .inr ⟨cap, _, e, by rw [hrv, hρ]; exact h1, by rw [hw, hρ]; exact h2.setRow hlen', h3, h4, by rw [hlen']; exact h5, fun j hj => ?_⟩
        by_cases he : j = n .o
        · subst he
          refine ⟨hg2.ok hc'ok, hg2.rp E' _ ?_⟩
          rw [seg_put_same hin (by omega)]
          exact (rp_mono hle c' fun z hz => ((AV.still_locs _).1 hc'ok.1 z hz).elim).2.1 _ kl
        · have hf := hg1 j hj he
          refine ⟨hf.ok (h6 j hj).1, hf.rp E' _ ?_⟩
          rw [seg_put_other hin (by omega) he]
          exact (rp_mono hle _ fun z hz => ((AV.still_locs _).1 (h6 j hj).1.1 z hz).elim).2.1 _ (h6 j hj).2)
    obtain ⟨fr, hgh, hsoft⟩ := h2.ex
    have hst' := run_storeCells_soft (C.P .o) (E.ρ d) (n .o * sz' + off) e fr (a.eval y).cells.toList 0 cur.toArray E.w hgh (by simpa using hsoft.to0) (by simp only [List.size_toArray]; omega) hone
    have hrun : (execOp a.eval o).run (C.P .o) E.w = .ok .skip (E.w.setRow (E.ρ d) (cur.take (n .o * sz' + off) ++ (a.eval y).cells.toList ++ cur.drop (n .o * sz' + off + (a.eval y).cells.toList.length)).toArray) := by
      unfold execOp
      simp only [ho, hxs]
      simp only [Instr.storeAt, Instr.sureAddr, storeVar, Sem.run_bind, Sem.run_pure, Result.andThen_ok, run_sizeOf hi, hvl, ne_eq, not_true_eq_false, if_false]
      rw [hst']
      simp
    unfold Oper.wp
    rw [hrun]
    show next (a.put o.dst undef) _
    rw [← hw, hdst]
    exact hk.1 E' _ _ hR hK
  · exact ha.elim
theorem mks_sound (h : Rel C.N E0 B0 E s a) (hB0 : ∀ x, x < 10000 → ¬ B0.liveAt x) {t e : TypeId} {l c : Operand} (ho : o.op = .makeSlice t l c) {i : TypeInfo} {z : Value} {cz : AV} {l' c' : Opd}
    (hu : (C.P .o).underlying t = some (.slice e)) (hi : (C.P .o).info? e = some i) (hz : i.zero = some z) (hcz : rCells z = some cz) (hl : rOpd l = some l') (hc : rOpd c = some c') (hcond : z.cells.size = i.size ∧ (cz.stillB = true ∧ cz.scals = true) ∧ i.size ≠ 0)
    (hN : ∀ d, o.dst = some d → d < C.N) (ha : aop C (.mks i.size i.bytes cz l' c') o.dst s K) (hk : UponOk C E0 B0 a K next Qc) : o.wp (C.P .o) a E.w next Qc := by
  have hls := opd_sound h.si hl
  have hcs := opd_sound h.si hc
  simp only [aop] at ha
  split at ha
  rotate_left
  · exact ha.elim
  rename_i d k1 n k2 m hd he1 he2
  rw [he1] at hls
  rw [he2] at hcs
  have hls : a.eval l = .int k1 (n .o) := hls
  have hcs : a.eval c = .int k2 (m .o) := hcs
  split at ha
  rotate_left
  · exact ha.elim
  rename_i hf
  obtain ⟨hdead, hlt⟩ := fresh_spec hf
  obtain ⟨hp, hK⟩ := ha
  obtain ⟨h1, h2, h3, h4⟩ := hp trivial
  obtain ⟨hzc, _⟩ := cells_of (E := E) hcz
  have hzne : z.cells.size ≠ 0 := by rw [hcond.1]; exact hcond.2.2
  have hmade : (madeCells z.cells ((m .o).toNat * i.size)).toList = (List.replicate (m .o).toNat z.cells.toList).flatten := by
    unfold madeCells
    rw [← hcond.1]
    exact range_zero _ _ hzne
  have hmlen : (madeCells z.cells ((m .o).toNat * i.size)).toList.length = (m .o).toNat * i.size := by simp [size_madeCells]
  have hok : cz.okE := ⟨stillB_spec cz hcond.2.1.1, hcond.2.1.2⟩
  obtain ⟨E', hw, hR⟩ := h.newBlk hB0 (hN d hd) hdead hlt (madeCells z.cells ((m .o).toNat * i.size)).toList e (.slice (some ⟨E.w.heap.size, 0, none⟩) (n .o).toNat (m .o).toNat) (.row i.size (fun _ => (n .o).toNat) fun _ => cz) (.row d) (.slice (some ⟨E.w.heap.size, 0, none⟩) (n .o).toNat (m .o).toNat)
    rfl (fun y hy => hy.elim) (fun y hy => hy) (fun E' hw hle hρ hrv hs => by
      refine ⟨.inr ⟨(m .o).toNat, _, e, by rw [hrv, hρ], by rw [hρ, hw]; exact Hs.mk0 (alloc_new _ _), by show (n .o).toNat ≤ _; omega, by unfold maxLen; omega, hmlen, fun j hj => ⟨hok, ?_⟩⟩, hrv.symm, _, _, _, rfl⟩
      have hj : j < (n .o).toNat := hj
      rw [hmade, rep_seg (by simpa using hcond.1) (by omega : j < (m .o).toNat)]
      exact (rp_mono hle _ fun y hy => ((AV.still_locs _).1 hok.1 y hy).elim).2.1 _ hzc)
  have hrun : (execOp a.eval o).run (C.P .o) E.w = .ok (.value (.slice (some ⟨E.w.heap.size, 0, none⟩) (n .o).toNat (m .o).toNat)) (E.w.alloc (.cells (madeCells z.cells ((m .o).toNat * i.size)) e)) := by
    unfold execOp
    simp only [ho]
    rw [run_valueOf, hls, hcs, run_make E.w t e i z hu hi hz k1 k2 (n .o) (m .o) h1 h2 h3 h4]
    rfl
  unfold Oper.wp
  rw [hrun]
  have hw' : E'.w = E.w.alloc (.cells (madeCells z.cells ((m .o).toNat * i.size)) e) := by simpa using hw
  show next (a.put o.dst _) _
  rw [← hw', hd]
  exact hk.1 E' _ _ hR hK
/-- Another memory, in which a new block is shut for good. -/
theorem Rel.newImm (h : Rel C.N E0 B0 E s a) {w' : World} (h1 : w'.os = E.w.os) (h2 : w'.tape = E.w.tape) (h3 : w'.output = E.w.output) (h4 : w'.heap.size = E.w.heap.size + 1) (h5 : ∀ b, b < E.w.heap.size → w'.heap[b]? = E.w.heap[b]?) :
    Rel C.N E0 B0 ⟨E.ρ, E.rv, fun b o => E.I b o ∨ b = E.w.heap.size, w'⟩ s a := by
  have hle : E.Le ⟨E.ρ, E.rv, fun b o => E.I b o ∨ b = E.w.heap.size, w'⟩ := ⟨fun _ _ h => .inl h, fun b o hi => by unfold World.cell?; rw [h5 b (h.inv.ibd b o hi)]⟩
  have hsol : ∀ x, solidAt ⟨E.ρ, E.rv, fun b o => E.I b o ∨ b = E.w.heap.size, w'⟩ s.b x ↔ solidAt E s.b x := fun x => solid_same rfl
  have hpost : Post E s.b ⟨E.ρ, E.rv, fun b o => E.I b o ∨ b = E.w.heap.size, w'⟩ s.b (fun _ => False) :=
    ⟨hle, fun _ _ _ => ⟨rfl, rfl⟩, fun _ _ h => h, h1, h2, h3, by show _ ≤ w'.heap.size; omega, fun b hb _ => h5 b hb, fun _ h => .inl h, fun x hx => .inl ⟨(hsol x).1 hx, rfl⟩, fun _ h => h, fun b o hb => hb.imp id fun q => by omega⟩
  refine h.step (a := a) (dst := none) (v := .any) (x := undef) hpost (fun _ h => h.elim) (fun _ _ => ⟨rfl, rfl⟩) ⟨fun x => ?_, fun x y hx hy => h.inv.dist x y ((hsol x).1 hx) ((hsol y).1 hy), fun x hx => ?_, fun b o hb => ?_, h.inv.nm⟩ (fun _ h => by cases h) trivial (fun y hy => hy.elim)
  · exact blk_mono hle (h.inv.blk x) rfl rfl (fun hs => h5 _ (h.inv.live x hs).1) fun _ _ => ⟨rfl, rfl⟩
  · have := h.inv.live x ((hsol x).1 hx)
    refine ⟨by show E.ρ x < w'.heap.size; omega, fun o q => q.elim (this.2 o) fun q => ?_⟩
    have q : E.ρ x = E.w.heap.size := q
    omega
  · show b < w'.heap.size
    rcases hb with hb | hb
    · have := h.inv.ibd b o hb; omega
    · have hb : b = E.w.heap.size := hb
      omega
theorem s2b_sound (h : Rel C.N E0 B0 E s a) (hB0 : ∀ x, x < 10000 → ¬ B0.liveAt x) {src dst e : TypeId} {x : Operand} {x' : Opd} (ho : o.op = .convert src dst x) (hs : (C.P .o).underlying src = some .string) (hd : (C.P .o).underlying dst = some (.slice e)) (he : (C.P .o).underlying e = some (.int .u8))
    (hx : rOpd x = some x') (hN : ∀ d, o.dst = some d → d < C.N) (ha : aop C (.s2b x') o.dst s K) (hk : UponOk C E0 B0 a K next Qc) : o.wp (C.P .o) a E.w next Qc := by
  obtain ⟨v, hg, hK⟩ := aop_quiet rfl ha
  have hxs := opd_sound h.si hx
  simp only [qev] at hg
  unfold as2b at hg
  split at hg
  rotate_left
  · exact (gives_bad.1 hg).elim
  rename_i st hst
  rw [gives_ok] at hg
  subst hg
  rw [hst] at hxs
  have hxs : a.eval x = .string ⟨(st .o).toArray⟩ := hxs
  have hsz : (⟨(st .o).toArray⟩ : ByteArray).size = (st .o).length := by simp [ByteArray.size]
  have hR := h.newImm (w' := Lib.bytesWorld E.w e ⟨(st .o).toArray⟩) (by simp [Lib.bytesWorld, World.freeze, World.alloc, World.drew, -World.alloc_eq, -World.drew_eq]) (by simp [Lib.bytesWorld, World.freeze, World.alloc, World.drew, -World.alloc_eq, -World.drew_eq])
    (by simp [Lib.bytesWorld, World.freeze, World.alloc, World.drew, -World.alloc_eq, -World.drew_eq]) (Lib.bytesWorld_size _ _ _) fun b hb => Lib.bytesWorld_at_old _ _ _ b hb
  have hrun : (execOp a.eval o).run (C.P .o) E.w = .ok (.value (.slice (some ⟨E.w.heap.size, 0, none⟩) (st .o).length (grownCap E.w (st .o).length 0 e))) (Lib.bytesWorld E.w e ⟨(st .o).toArray⟩) := by
    unfold execOp
    simp only [ho]
    rw [run_valueOf, hxs, Lib.run_convert_string_bytes E.w src dst e _ hs hd he, hsz]
    rfl
  unfold Oper.wp
  rw [hrun]
  show next (a.put o.dst _) _
  refine hk.1 _ _ _ (hR.value hB0 hN (v := .sl 1 (fun _ => (st .o).length) (byteRow st)) ?_ fun y hy => hy.elim) hK
  refine ⟨_, _, rfl, grownCap_ge E.w (st .o).length 0 e, fun i hi => ⟨⟨⟨⟨trivial, trivial⟩, rfl⟩, rfl⟩, _, _, rfl, ⟨_, ?_, .inr rfl, rfl⟩, trivial⟩⟩
  have := Lib.bytesWorld_cell E.w e ⟨(st .o).toArray⟩ i (by rw [hsz]; exact hi)
  simpa [zi] using this
/-- A text's bytes as a row of one's own. -/
theorem s2r_sound (h : Rel C.N E0 B0 E s a) (hB0 : ∀ x, x < 10000 → ¬ B0.liveAt x) {src dst e : TypeId} {x : Operand} {x' : Opd} (ho : o.op = .convert src dst x) (hs : (C.P .o).underlying src = some .string) (hd : (C.P .o).underlying dst = some (.slice e)) (he : (C.P .o).underlying e = some (.int .u8))
    (hx : rOpd x = some x') (hN : ∀ d, o.dst = some d → d < C.N) (ha : aop C (.s2r x') o.dst s K) (hk : UponOk C E0 B0 a K next Qc) : o.wp (C.P .o) a E.w next Qc := by
  have hxs := opd_sound h.si hx
  simp only [aop] at ha
  split at ha
  rotate_left
  · exact ha.elim
  rename_i d st hdst hst
  split at ha
  rotate_left
  · exact ha.elim
  rename_i hf
  obtain ⟨hdead, hlt⟩ := fresh_spec hf
  obtain ⟨hp, hK⟩ := ha
  have hlen := hp trivial
  rw [hst] at hxs
  have hxs : a.eval x = .string ⟨(st .o).toArray⟩ := hxs
  have hsz : (⟨(st .o).toArray⟩ : ByteArray).size = (st .o).length := by simp [ByteArray.size]
  obtain ⟨E', hw, hR⟩ := h.newBlkW hB0 (hN d hdst) hdead hlt (w' := Lib.bytesWorld E.w e ⟨(st .o).toArray⟩) (by simp [Lib.bytesWorld, World.freeze, World.alloc, World.drew, -World.alloc_eq, -World.drew_eq]) (by simp [Lib.bytesWorld, World.freeze, World.alloc, World.drew, -World.alloc_eq, -World.drew_eq])
    (by simp [Lib.bytesWorld, World.freeze, World.alloc, World.drew, -World.alloc_eq, -World.drew_eq]) (Lib.bytesWorld_size _ _ _) (fun b hb => Lib.bytesWorld_at_old _ _ _ b hb)
    (.slice (some ⟨E.w.heap.size, 0, none⟩) (st .o).length (grownCap E.w (st .o).length 0 e)) (.row 1 (fun _ => (st .o).length) (byteRow st)) (.row d) (.slice (some ⟨E.w.heap.size, 0, none⟩) (st .o).length (grownCap E.w (st .o).length 0 e))
    rfl (fun y hy => hy.elim) (fun y hy => hy) (fun E' hw hle hρ hrv hs' => by
      refine ⟨.inr ⟨grownCap E.w (st .o).length 0 e, (Lib.bytesCells E.w e ⟨(st .o).toArray⟩).toList, e, by rw [hrv, hρ], ⟨_, by rw [hρ, hw, Lib.bytesWorld_at_new], .inr (by simp)⟩, grownCap_ge E.w _ 0 e, grownCap_le_maxLen E.w _ 0 e hlen, ?_, fun i hi => ⟨⟨⟨trivial, trivial⟩, rfl⟩, ?_⟩⟩, hrv.symm, _, _, _, rfl⟩
      · have := grownCap_ge E.w (st .o).length 0 e
        simp [Lib.bytesCells, ByteArray.size]; omega
      · have hi : i < (st .o).length := hi
        have e1 : ((Lib.bytesCells E.w e ⟨(st .o).toArray⟩).toList.drop (i * 1)).take 1 = [.int .u8 (zi ((st .o).getD i 0).toNat)] := by
          rw [Nat.mul_one]
          have hl : i < (Lib.bytesCells E.w e ⟨(st .o).toArray⟩).toList.length := by simp [Lib.bytesCells]; omega
          rw [List.drop_eq_getElem_cons hl, List.take_succ_cons, List.take_zero]
          congr 1
          simp [Lib.bytesCells, Array.getElem_append, hi, List.getD_eq_getElem?_getD, zi]
        rw [e1]
        exact ⟨_, _, rfl, rfl, rfl⟩)
  have hrun : (execOp a.eval o).run (C.P .o) E.w = .ok (.value (.slice (some ⟨E.w.heap.size, 0, none⟩) (st .o).length (grownCap E.w (st .o).length 0 e))) (Lib.bytesWorld E.w e ⟨(st .o).toArray⟩) := by
    unfold execOp
    simp only [ho]
    rw [run_valueOf, hxs, Lib.run_convert_string_bytes E.w src dst e _ hs hd he, hsz]
    rfl
  unfold Oper.wp
  rw [hrun]
  show next (a.put o.dst _) _
  rw [← hw, hdst]
  exact hk.1 E' _ _ hR hK
/-- The cells of a live block as they were, in another memory. -/
theorem Rel.touch (h : Rel C.N E0 B0 E s a) {d : Nat} (hd : solidAt E s.b d) {w' : World} (h1 : w'.os = E.w.os) (h2 : w'.tape = E.w.tape) (h3 : w'.output = E.w.output) (h4 : w'.heap.size = E.w.heap.size) (h5 : ∀ k, k ≠ E.ρ d → w'.heap[k]? = E.w.heap[k]?)
    (hE : BlkRp ⟨E.ρ, E.rv, E.I, w'⟩ d (s.b.get d)) : Rel C.N E0 B0 ⟨E.ρ, E.rv, E.I, w'⟩ s a := by
  have hle : E.Le ⟨E.ρ, E.rv, E.I, w'⟩ := ⟨fun _ _ h => h, fun b o hi => by
    have : b ≠ E.ρ d := fun he => (h.inv.live d hd).2 o (he ▸ hi)
    unfold World.cell?
    rw [h5 b this]⟩
  have hsol : ∀ x, solidAt ⟨E.ρ, E.rv, E.I, w'⟩ s.b x ↔ solidAt E s.b x := fun x => solid_same rfl
  have hpost : Post E s.b ⟨E.ρ, E.rv, E.I, w'⟩ s.b (fun _ => False) :=
    ⟨hle, fun _ _ _ => ⟨rfl, rfl⟩, fun _ _ h => h, h1, h2, h3, by show _ ≤ w'.heap.size; omega, fun b hb hn => h5 b fun he => hn d hd he.symm, fun _ h => .inl h, fun x hx => .inl ⟨(hsol x).1 hx, rfl⟩, fun _ h => h, fun _ _ h => .inl h⟩
  refine h.step (a := a) (dst := none) (v := .any) (x := undef) hpost (fun _ h => h.elim) (fun _ _ => ⟨rfl, rfl⟩) ⟨fun x => ?_, fun x y hx hy => h.inv.dist x y ((hsol x).1 hx) ((hsol y).1 hy), fun x hx => ?_, fun b o hb => by show b < w'.heap.size; have := h.inv.ibd b o hb; omega, h.inv.nm⟩ (fun _ h => by cases h) trivial (fun y hy => hy.elim)
  · by_cases hx : x = d
    · subst hx; exact hE
    · exact blk_mono hle (h.inv.blk x) rfl rfl (fun hs => h5 _ (h.inv.dist x d hs hd hx)) fun _ _ => ⟨rfl, rfl⟩
  · have := h.inv.live x ((hsol x).1 hx)
    exact ⟨by show E.ρ x < w'.heap.size; omega, this.2⟩
theorem s2s_sound (h : Rel C.N E0 B0 E s a) (hB0 : ∀ x, x < 10000 → ¬ B0.liveAt x) {src dst e e1 : TypeId} {x : Operand} {x' : Opd} (ho : o.op = .convert src dst x) (hs : (C.P .o).underlying src = some (.slice e1)) (hd : (C.P .o).underlying dst = some (.slice e)) (he : (C.P .o).underlying e = some (.int .u8)) (hsd : src = dst)
    (hx : rOpd x = some x') (hN : ∀ d, o.dst = some d → d < C.N) (ha : aop C (.s2s x') o.dst s K) (hk : UponOk C E0 B0 a K next Qc) : o.wp (C.P .o) a E.w next Qc := by
  have hxs := opd_sound h.si hx
  simp only [aop] at ha
  split at ha
  rotate_left
  · exact ha.elim
  rename_i p hp
  split at ha
  rotate_left
  · exact ha.elim
  rename_i sz n g hb hlt
  split at ha
  rotate_left
  · exact ha.elim
  rename_i hsz1
  have hsz1 : sz = 1 := by simpa using hsz1
  obtain ⟨hn, hK⟩ := ha
  have hn := hn trivial
  rw [hp] at hxs
  have hpl : s.b.liveAt p := by unfold BL.liveAt; rw [hb]; rfl
  have hB := h.inv.blk p
  rw [hb] at hB
  rcases hB with ⟨_, h0⟩ | ⟨cap, cur, e', h1, h2, h3, h4, h5, h6⟩
  · omega
  have hsol : solidAt E s.b p := by unfold solidAt; rw [hb]; show E.rv p ≠ _; rw [h1]; simp
  obtain ⟨fr, hgh, hsoft⟩ := h2.ex
  have hxv : a.eval x = .slice (some ⟨E.ρ p, 0, none⟩) (n .o) cap := hxs.1.trans h1
  have hrun : (execOp a.eval o).run (C.P .o) E.w = .ok (.value (.slice (some ⟨E.ρ p, 0, none⟩) (n .o) cap)) (E.w.freeze ⟨E.ρ p, cur.length, none⟩ 1) := by
    unfold execOp
    simp only [ho]
    rw [run_valueOf, hxv]
    subst hsd
    have hee : e1 = e := by have := hs.symm.trans hd; simpa using this
    subst hee
    have hsh : E.w.shape? (E.ρ p) = some (e', cur.length) := by simp [World.shape?, hgh]
    simp [convert, run_underlying hs, run_underlying hd, run_underlying he, markStringish, hsh]
  have hheap : ∀ k, (E.w.freeze ⟨E.ρ p, cur.length, none⟩ 1).heap[k]? = if k = E.ρ p then some (.cells cur.toArray e' (if fr.1 == fr.2 then (cur.length, cur.length + 1) else (min fr.1 cur.length, max fr.2 (cur.length + 1)))) else E.w.heap[k]? := by
    intro k
    obtain ⟨lo, hi⟩ := fr
    unfold World.freeze
    rw [if_neg (by decide)]
    show (E.w.heap.modify (E.ρ p) _)[k]? = _
    rw [Array.getElem?_modify]
    by_cases hk' : E.ρ p = k
    · subst hk'
      rw [if_pos rfl, if_pos rfl, hgh]
      rfl
    · rw [if_neg hk', if_neg (Ne.symm hk')]
  have hsz : (E.w.freeze ⟨E.ρ p, cur.length, none⟩ 1).heap.size = E.w.heap.size := by simp [World.freeze]
  have hR : Rel C.N E0 B0 ⟨E.ρ, E.rv, E.I, E.w.freeze ⟨E.ρ p, cur.length, none⟩ 1⟩ s a := by
    have hf : ∀ (w : World), (w.freeze ⟨E.ρ p, cur.length, none⟩ 1).os = w.os ∧ (w.freeze ⟨E.ρ p, cur.length, none⟩ 1).tape = w.tape ∧ (w.freeze ⟨E.ρ p, cur.length, none⟩ 1).output = w.output := fun w => ⟨rfl, rfl, rfl⟩
    refine h.touch hsol (hf _).1 (hf _).2.1 (hf _).2.2 hsz (fun k hk' => by rw [hheap, if_neg hk']) ?_
    rw [hb]
    refine .inr ⟨cap, cur, e', h1, ⟨_, by show (E.w.freeze _ _).heap[E.ρ p]? = _; rw [hheap, if_pos rfl], ?_⟩, h3, h4, h5, fun i hi => ⟨(h6 i hi).1, ?_⟩⟩
    · unfold Soft at hsoft ⊢
      split
      · right; exact ⟨hsz1, Nat.le_refl _⟩
      · rename_i hne
        have hne : fr.1 ≠ fr.2 := by simpa using hne
        right
        simp only
        have := (hsoft.resolve_left hne).2
        refine ⟨hsz1, ?_⟩
        omega
    · have hle : E.Le ⟨E.ρ, E.rv, E.I, E.w.freeze ⟨E.ρ p, cur.length, none⟩ 1⟩ := ⟨fun _ _ h => h, fun b o hi => by
        have : b ≠ E.ρ p := fun he => (h.inv.live p hsol).2 o (he ▸ hi)
        unfold World.cell?
        show (match (E.w.freeze _ _).heap[b]? with | some (.cells cs _ _) => _ | _ => _) = _
        rw [hheap, if_neg this]
        rfl⟩
      exact (rp_mono hle _ fun z hz => ((AV.still_locs _).1 (h6 i hi).1.1 z hz).elim).2.1 _ (h6 i hi).2
  unfold Oper.wp
  rw [hrun]
  show next (a.put o.dst _) _
  exact hk.1 _ _ _ (hR.value hB0 hN (v := .row p) ⟨h1.symm, _, _, _, rfl⟩ fun y hy => by have : y = p := hy; subst this; exact hpl) hK
theorem build_sound (h : Rel C.N E0 B0 E s a) (hB0 : ∀ x, x < 10000 → ¬ B0.liveAt x) {t : TypeId} {ps : Array (Nat × Operand)} (ho : o.op = .build t ps) {z : Value} {place : Nat → Option (Nat × Nat)} {ro : RO}
    (hb : ∀ parts, (C.P .o).built t parts = Instr.fill place z.cells parts) (hr : rBuild z place ps = some ro)
    (hN : ∀ d, o.dst = some d → d < C.N) (ha : aop C ro o.dst s K) (hk : UponOk C E0 B0 a K next Qc) : o.wp (C.P .o) a E.w next Qc := by
  unfold rBuild at hr
  split at hr
  · rename_i c qs hc hq
    cases hr
    obtain ⟨v, hg, hK⟩ := aop_quiet rfl ha
    simp only [qev] at hg
    split at hg
    · rename_i c' hf
      rw [gives_ok] at hg
      subst hg
      obtain ⟨hcl, hl⟩ := cells_of (E := E) hc
      obtain ⟨cs', h1, h2, h3⟩ := fill_sound h.si ps.toList qs c c' z.cells hq hcl hf
      have hrun : (execOp a.eval o).run (C.P .o) E.w = .ok (.value (.agg cs')) E.w := by
        unfold execOp
        simp only [ho]
        refine value_of (run_build E.w t _ cs' ?_)
        rw [hb, ← h1]
        simp
      unfold Oper.wp
      rw [hrun]
      exact hk.1 E _ _ (h.value hB0 hN (rp_agg.2 ⟨cs'.toList, by simp, h2⟩) fun y hy => (h3 y hy).elim (fun q => (hl y q).elim) fun ⟨x, hx, hxl⟩ => parts_locs h _ _ hq x hx y hxl) hK
    · exact (gives_bad.1 hg).elim
  · cases hr
theorem drop_still : ∀ (n : Nat) (c : AV), c.still → (c.drop n).still := fun n c h => (AV.still_locs _).2 fun d hd => (AV.still_locs _).1 h d (drop_locs n c d hd)
theorem take_still {n : Nat} {c r : AV} (h : c.take n = some r) (hc : c.still) : r.still := (AV.still_locs _).2 fun d hd => (AV.still_locs _).1 hc d (take_locs n c r h d hd)
theorem take_some : ∀ (n : Nat) (c : AV) (l : List Value), ListC E c l → n ≤ l.length → ∃ r, c.take n = some r
  | 0, c, l, _, _ => ⟨.nil, by cases c <;> rfl⟩
  | n + 1, .cons p q, l, h, hn => by
    obtain ⟨x, r, rfl, _, h2⟩ := listC_cons.1 h
    obtain ⟨r', hr⟩ := take_some n q r h2 (by simpa using hn)
    exact ⟨.cons p r', by simp [AV.take, hr]⟩
  | n + 1, .nil, l, h, hn => by rw [listC_nil.1 h] at hn; simp at hn
  | n + 1, .any, l, h, _ | n + 1, .int _ _, l, h, _ | n + 1, .bool _, l, h, _ | n + 1, .tt, l, h, _ | n + 1, .ff, l, h, _ | n + 1, .str _, l, h, _ | n + 1, .sl _ _ _, l, h, _ | n + 1, .nsl, l, h, _
  | n + 1, .row _, l, h, _ | n + 1, .ptr _ _, l, h, _ | n + 1, .iptr _, l, h, _ | n + 1, .rptr _ _ _ _, l, h, _ | n + 1, .win _ _ _ _, l, h, _ | n + 1, .nptr, l, h, _ | n + 1, .fn _ _ _, l, h, _ | n + 1, .nfn, l, h, _ | n + 1, .nif, l, h, _
  | n + 1, .ifc _ _, l, h, _ | n + 1, .agg _, l, h, _ | n + 1, .tup _, l, h, _ => by simp only [ListC] at h
/-- Elements of a row of cells. -/
theorem drop_scals : ∀ (n : Nat) (c : AV), c.scals = true → (c.drop n).scals = true
  | 0, c, h => by unfold AV.drop; exact h
  | n + 1, .cons p q, h => by
    unfold AV.scals at h
    split at h
    · exact drop_scals n q h
    · cases h
  | n + 1, .nil, h => h
theorem take_scals : ∀ (n : Nat) (c r : AV), c.scals = true → c.take n = some r → r.scals = true
  | 0, c, r, _, h => by
    have : r = .nil := by cases c <;> simp [AV.take] at h <;> exact h.symm
    subst this; rfl
  | n + 1, .cons p q, r, h, ht => by
    unfold AV.scals at h
    split at h
    · rename_i hp
      simp only [AV.take] at ht
      split at ht
      · rename_i r' hr
        cases ht
        simp only [AV.scals, hp]
        exact take_scals n q r' h hr
      · cases ht
    · cases h
  | n + 1, .nil, r, _, h => by simp [AV.take] at h
theorem elemAt0_sound {c : AV} {l : List Value} (h : ListC E c l) (hs : c.still) (hc : c.scals = true) (sz i : Nat) (hi : i * sz + sz ≤ l.length) : (elemAt0 sz c i).okE ∧ ListC E (elemAt0 sz c i) ((l.drop (i * sz)).take sz) := by
  unfold elemAt0
  obtain ⟨r, hr⟩ := take_some sz _ _ (listC_drop (i * sz) c l h) (by simp; omega)
  rw [hr]
  exact ⟨⟨take_still hr (drop_still _ _ hs), take_scals _ _ _ (drop_scals _ _ hc) hr⟩, (listC_take _ _ _ _ (listC_drop (i * sz) c l h) hr).1⟩
theorem elemAt0_succ (x c : AV) (i : Nat) : elemAt0 1 (.cons x c) (i + 1) = elemAt0 1 c i := by
  unfold elemAt0
  rw [Nat.mul_one, Nat.mul_one]
  rfl
theorem strsOf_at : ∀ (c : AV) (L : List (Th (List UInt8))), strsOf c = some L → c.len = L.length ∧ ∀ i t, i < L.length → elemAt0 1 c i = .cons (.str fun _ => (L.getD i t) .o) .nil := by
  intro c
  induction c with
  | nil => intro L h; cases h; exact ⟨rfl, fun i t hi => absurd hi (Nat.not_lt_zero _)⟩
  | cons x r _ ih =>
    intro L h
    cases x with
    | str u =>
      simp only [strsOf] at h
      split at h
      · rename_i L' hL'
        cases h
        obtain ⟨h1, h2⟩ := ih L' hL'
        refine ⟨by simp [AV.len, h1], fun i t hi => ?_⟩
        cases i with
        | zero =>
          have : (fun _ => u .o : Th (List UInt8)) = u := funext fun | .o => rfl
          show elemAt0 1 _ 0 = .cons (.str fun _ => u .o) .nil
          rw [this]
          cases r <;> rfl
        | succ i =>
          rw [elemAt0_succ]
          exact h2 i t (by simpa using hi)
      · cases h
    | _ => simp [strsOf] at h
  | _ => intro L h; simp [strsOf] at h
theorem intsOf_at (k : IntKind) : ∀ (c : AV) (L : List (Th Int)), intsOf k c = some L → c.len = L.length ∧ ∀ i t, i < L.length → elemAt0 1 c i = .cons (.int k fun _ => (L.getD i t) .o) .nil := by
  intro c
  induction c with
  | nil => intro L h; cases h; exact ⟨rfl, fun i t hi => absurd hi (Nat.not_lt_zero _)⟩
  | cons x r _ ih =>
    intro L h
    cases x with
    | int k' u =>
      simp only [intsOf] at h
      split at h
      · rename_i hk
        have hk : k' = k := by simpa using hk
        subst hk
        split at h
        · rename_i L' hL'
          cases h
          obtain ⟨h1, h2⟩ := ih L' hL'
          refine ⟨by simp [AV.len, h1], fun i t hi => ?_⟩
          cases i with
          | zero =>
            have : (fun _ => u .o : Th Int) = u := funext fun | .o => rfl
            show elemAt0 1 _ 0 = .cons (.int k' fun _ => u .o) .nil
            rw [this]
            cases r <;> rfl
          | succ i =>
            rw [elemAt0_succ]
            exact h2 i t (by simpa using hi)
        · cases h
      · cases h
    | _ => simp [intsOf] at h
  | _ => intro L h; simp [intsOf] at h
theorem elemAt_eq {sz : Nat} {c : AV} {i : Nat} (hi : i * sz + sz ≤ c.len) : elemAt sz c i = elemAt0 sz c i := by
  unfold elemAt
  split
  · rename_i t r
    split
    · rename_i L hL
      have h := strsOf_at (.cons (.str t) r) (t :: L) (by simp [strsOf, hL])
      exact (h.2 i t (by rw [← h.1]; omega)).symm
    · rfl
  · rename_i k t r
    split
    · rename_i L hL
      have h := intsOf_at k (.cons (.int k t) r) (t :: L) (by simp [intsOf, hL])
      exact (h.2 i t (by rw [← h.1]; omega)).symm
    · rfl
  · rfl
theorem elemAt_sound {c : AV} {l : List Value} (h : ListC E c l) (hs : c.still) (hc : c.scals = true) (sz i : Nat) (hi : i * sz + sz ≤ l.length) : (elemAt sz c i).okE ∧ ListC E (elemAt sz c i) ((l.drop (i * sz)).take sz) := by
  rw [elemAt_eq (by rw [← listC_len h]; exact hi)]
  exact elemAt0_sound h hs hc sz i hi
theorem over_len : ∀ (z : AV) (k : Nat) (y z' : AV), z.over k y = some z' → z'.len = z.len := by
  intro z
  induction z with
  | cons p q _ ih2 =>
    intro k y z' ho
    cases k with
    | succ k =>
      simp only [AV.over] at ho
      split at ho
      · rename_i r' hr'; cases ho; simp [AV.len, ih2 _ _ _ hr']
      · cases ho
    | zero =>
      cases y <;> simp only [AV.over, Option.some.injEq, reduceCtorEq] at ho
      · subst ho; rfl
      · split at ho
        · rename_i r' hr'; cases ho; simp [AV.len, ih2 _ _ _ hr']
        · cases ho
  | _ =>
    intro k y z' ho
    cases k <;> cases y <;> simp only [AV.over, Option.some.injEq, reduceCtorEq] at ho <;> (subst ho; rfl)
theorem fillc_len : ∀ (qs : List (Nat × Nat × Opd)) (z c : AV), fillc s z qs = some c → c.len = z.len
  | [], z, c, hf => by cases hf; rfl
  | (o', n', x') :: r, z, c, hf => by
    unfold fillc at hf
    split at hf
    · split at hf
      · split at hf
        · rename_i z' hov
          rw [fillc_len r z' c hf, over_len _ _ _ _ hov]
        · cases hf
      · cases hf
    · cases hf
theorem bslice_sound (h : Rel C.N E0 B0 E s a) (hB0 : ∀ x, x < 10000 → ¬ B0.liveAt x) {t e : TypeId} {n : Nat} {ps : Array (Nat × Operand)} (ho : o.op = .buildSlice t n ps) {i : TypeInfo} {z : Value} {c : AV} {qs : List (Nat × Nat × Opd)}
    (hu : (C.P .o).underlying t = some (.slice e)) (hi : (C.P .o).info? e = some i) (hz : i.zero = some z) (hc : rCells z = some c) (hq : rParts (fun j => some (j * i.size, i.size)) ps.toList = some qs)
    (hcond : (n * i.size ≤ 2 ^ 24 ∧ z.cells.size = i.size) ∧ ((n = 0 ∧ ps.size = 0) ∨ n * i.size ≠ 0))
    (hN : ∀ d, o.dst = some d → d < C.N) (ha : aop C (.bslice i.size c n qs) o.dst s K) (hk : UponOk C E0 B0 a K next Qc) : o.wp (C.P .o) a E.w next Qc := by
  simp only [aop] at ha
  split at ha
  · rename_i d c' hd hf
    split at ha
    · rename_i hfr hst hsc
      obtain ⟨hdead, hlt⟩ := fresh_spec hfr
      obtain ⟨hcl, hl⟩ := cells_of (E := E) hc
      have hzs : z.cells.toList.length = i.size := by simpa using hcond.1.2
      have hrep := rep_sound E hcl n
      have hlen0 : (List.replicate n z.cells.toList).flatten.length = n * i.size := by simp [List.length_flatten, hcond.1.2]
      have hsmall : n ≤ maxLen := by
        have h2 : i.size ≠ 0 ∨ n = 0 := by
          rcases hcond.2 with ⟨h0, _⟩ | h0
          · exact .inr h0
          · exact .inl fun hz => h0 (by rw [hz]; simp)
        rcases h2 with h2 | h2
        · have h1 := hcond.1.1
          have : n ≤ n * i.size := Nat.le_mul_of_pos_right n (by omega)
          unfold maxLen; omega
        · subst h2; exact Nat.zero_le _
      -- what is filled
      have hex : ∃ cs : Array Value, (Instr.buildSlice t n (ps.map fun p => (p.1, a.eval p.2))).run (C.P .o) E.w = .ok (.slice (some ⟨E.w.heap.size, 0, none⟩) n n) (E.w.alloc (.cells cs e)) ∧ ListC E c' cs.toList := by
        rcases hcond.2 with ⟨h0, hp⟩ | h0
        · subst h0
          have : ps = #[] := by apply Array.ext'; simpa using hp
          subst this
          cases hq
          simp only [fillc, rep, Option.some.injEq] at hf
          subst hf
          refine ⟨#[], ?_, listC_nil.2 rfl⟩
          have h0 : Array.range 0 = #[] := by apply Array.ext'; simp
          simp [Instr.buildSlice, run_underlying hu, sizeOf, typeInfo, hi, Instr.fill, newRow, newObj, Sem.run, h0]
        · have hzs' : z.cells.size = i.size := hcond.1.2
          have hzne : z.cells.size ≠ 0 := by rw [hzs']; intro hh; exact h0 (by rw [hh]; simp)
          obtain ⟨cs', h1, h2, _⟩ := fill_sound h.si ps.toList qs (rep c n) c' ((Array.range (n * z.cells.size)).map (z.cells[· % z.cells.size]!)) hq (by rw [range_zero _ _ hzne]; exact hrep) hf
          refine ⟨cs', run_buildSlice E.w t e n _ cs' i z hu hi hz (by omega) (by omega) ?_, h2⟩
          rw [← h1, hzs']
          simp
      obtain ⟨cs, hrun0, hcs⟩ := hex
      have hcslen : cs.toList.length = n * i.size := by rw [listC_len hcs, fillc_len _ _ _ hf, ← listC_len hrep, hlen0]
      have hcsz : cs.size = n * i.size := by simpa using hcslen
      have hstill := stillB_spec c' hst
      obtain ⟨E', hw, hR⟩ := h.newBlk hB0 (hN d hd) hdead hlt cs.toList e (.slice (some ⟨E.w.heap.size, 0, none⟩) n n) (.row i.size (fun _ => n) fun j => elemAt i.size c' (j .o)) (.row d) (.slice (some ⟨E.w.heap.size, 0, none⟩) n n)
        rfl (fun y hy => hy.elim) (fun y hy => hy) (fun E' hw hle hρ hrv hs => by
          refine ⟨.inr ⟨n, cs.toList, e, by rw [hrv, hρ], by rw [hρ, hw]; exact Hs.mk0 (alloc_new _ _), Nat.le_refl _, hsmall, hcslen, fun j hj => ?_⟩, hrv.symm, _, _, _, rfl⟩
          have hj' : j * i.size + i.size ≤ cs.toList.length := by
            rw [hcslen]
            have : (j + 1) * i.size ≤ n * i.size := Nat.mul_le_mul_right _ hj
            rw [Nat.add_mul] at this; omega
          obtain ⟨h1, h2⟩ := elemAt_sound hcs hstill hsc i.size j hj'
          exact ⟨h1, (rp_mono hle _ fun y hy => ((AV.still_locs _).1 h1.1 y hy).elim).2.1 _ h2⟩)
      have hrun : (execOp a.eval o).run (C.P .o) E.w = .ok (.value (.slice (some ⟨E.w.heap.size, 0, none⟩) n n)) (E.w.alloc (.cells cs e)) := by
        unfold execOp
        simp only [ho]
        rw [run_valueOf]
        have : (ps.map fun (x : Nat × Operand) => (x.1, a.eval x.2)) = ps.map fun p => (p.1, a.eval p.2) := rfl
        rw [show (ps.map fun x => match x with | (i, x) => (i, a.eval x)) = ps.map fun p => (p.1, a.eval p.2) from rfl, hrun0]
        rfl
      unfold Oper.wp
      rw [hrun]
      have hw' : E'.w = E.w.alloc (.cells cs e) := by simpa using hw
      show next (a.put o.dst _) _
      rw [← hw', hd]
      exact hk.1 E' _ _ hR ha
    · exact ha.elim
  · exact ha.elim
theorem kill_locs (d : Nat) (x : AV) (z : Nat) : (x.kill d).locs z → x.locs z ∧ z ≠ d := by
  induction x with
  | row x => intro h; unfold AV.kill at h; split at h
             · exact h.elim
             · rename_i hx; exact ⟨h, by rw [show z = x from h]; exact hx⟩
  | ptr x o => intro h; unfold AV.kill at h; split at h
               · exact h.elim
               · rename_i hx; exact ⟨h, by rw [show z = x from h]; exact hx⟩
  | rptr x s i o => intro h; unfold AV.kill at h; split at h
                    · exact h.elim
                    · rename_i hx; exact ⟨h, by rw [show z = x from h]; exact hx⟩
  | win x s i o => intro h; unfold AV.kill at h; split at h
                   · exact h.elim
                   · rename_i hx; exact ⟨h, by rw [show z = x from h]; exact hx⟩
  | iptr c ih => exact ih
  | fn f a b iha ihb => intro h; rcases h with h | h; exact ⟨.inl (iha h).1, (iha h).2⟩; exact ⟨.inr (ihb h).1, (ihb h).2⟩
  | ifc t v ih => exact ih
  | agg c ih => exact ih
  | tup c ih => exact ih
  | cons a b iha ihb => intro h; rcases h with h | h; exact ⟨.inl (iha h).1, (iha h).2⟩; exact ⟨.inr (ihb h).1, (ihb h).2⟩
  | _ => intro h; exact h.elim
theorem kills_locs : ∀ (l : List Nat) (x : AV) (z : Nat), (x.kills l).locs z → x.locs z ∧ z ∉ l
  | [], x, z, h => by cases x <;> exact ⟨h, by simp⟩
  | d :: r, x, z, h => by
    have h : ((x.kill d).kills r).locs z := by cases x <;> exact h
    obtain ⟨h1, h2⟩ := kills_locs r _ z h
    obtain ⟨h3, h4⟩ := kill_locs d x z h1
    exact ⟨h3, by simp [h4, h2]⟩
theorem kills_nil (x : AV) : x.kills [] = x := by cases x <;> rfl
theorem kills_cons (x : AV) (d : Nat) (r : List Nat) : x.kills (d :: r) = (x.kill d).kills r := by cases x <;> rfl
theorem rp_kills : ∀ (l : List Nat) (x : AV), (∀ v, Rp E x v → Rp E (x.kills l) v) ∧ (∀ m, ListC E x m → ListC E (x.kills l) m)
  | [], x => by rw [kills_nil]; exact ⟨fun _ h => h, fun _ h => h⟩
  | d :: r, x => by
    rw [kills_cons]
    have h := rp_kills r (x.kill d)
    exact ⟨fun v hv => h.1 v ((rp_kill d x).1 v hv), fun m hm => h.2 m ((rp_kill d x).2.1 m hm)⟩
theorem al_kill_get (d : Nat) : ∀ (l : AL) (k : Nat), (l.kill d).get k = (l.get k).kill d
  | .nil, k => rfl
  | .cons k' v r, k => by
    show (AL.cons k' (v.kill d) (r.kill d)).get k = _
    rw [AL.get_cons, AL.get_cons]
    split
    · rfl
    · exact al_kill_get d r k
theorem al_kills_get : ∀ (ds : List Nat) (l : AL) (k : Nat), (l.kills ds).get k = (l.get k).kills ds
  | [], l, k => by rw [kills_nil]; cases l <;> rfl
  | d :: r, l, k => by
    have : l.kills (d :: r) = (l.kill d).kills r := by cases l <;> rfl
    rw [this, al_kills_get r, al_kill_get, kills_cons]
theorem bl_kill_get (d : Nat) : ∀ (l : BL) (k : Nat), (l.kill d).get k = (l.get k).kill d
  | .nil, k => rfl
  | .cons k' v r, k => by
    show (BL.cons k' (v.kill d) (r.kill d)).get k = _
    rw [BL.get_cons, BL.get_cons]
    split
    · rfl
    · exact bl_kill_get d r k
def Blk.kills : Blk → List Nat → Blk | .cells c, l => .cells (c.kills l) | b, _ => b
theorem bl_kills_get : ∀ (ds : List Nat) (l : BL) (k : Nat), (l.kills ds).get k = (l.get k).kills ds
  | [], l, k => by
    have : l.kills [] = l := by cases l <;> rfl
    rw [this]
    cases l.get k <;> simp [Blk.kills, kills_nil]
  | d :: r, l, k => by
    have : l.kills (d :: r) = (l.kill d).kills r := by cases l <;> rfl
    rw [this, bl_kills_get r, bl_kill_get]
    cases l.get k <;> simp [Blk.kills, Blk.kill, kills_cons]
theorem df_kill (d : Nat) : ∀ (x : AV) (l : List Deferred), DfRp E x l → DfRp E (x.kill d) l := by
  intro x
  induction x with
  | nil => intro l hl; exact hl
  | cons a b iha ihb =>
    intro l hl
    cases a with
    | fn f asL0 caps =>
      obtain ⟨x, z, t, h1, h2, h3, h4⟩ := hl
      exact ⟨x, z, t, h1, (rp_kill d caps).2.1 _ h2, (rp_kill d asL0).2.1 _ h3, ihb _ h4⟩
    | _ => exact hl.elim
  | _ => intro l hl; exact hl.elim
theorem df_kills : ∀ (ds : List Nat) (x : AV) (l : List Deferred), DfRp E x l → DfRp E (x.kills ds) l
  | [], x, l, h => by rw [kills_nil]; exact h
  | d :: r, x, l, h => by rw [kills_cons]; exact df_kills r _ l (df_kill d x l h)
theorem pick_get (l r : BL) (x : Nat) : ∀ ks : List Nat, (l.pick ks r).get x = if x ∈ ks then l.get x else r.get x
  | [] => by simp [BL.pick]
  | k :: ks => by
    show (BL.cons k (l.get k) (l.pick ks r)).get x = _
    rw [BL.get_cons, pick_get l r x ks]
    by_cases h : k = x
    · subst h; simp
    · simp [h, Ne.symm h]
theorem among_locs {l : List Nat} (x : AV) (h : x.among l = true) : ∀ z, x.locs z → z ∈ l := by
  induction x with
  | row x => intro z hz; rw [show z = x from hz]; simpa [AV.among] using h
  | ptr x o => intro z hz; rw [show z = x from hz]; simpa [AV.among] using h
  | rptr x s i o => intro z hz; rw [show z = x from hz]; simpa [AV.among] using h
  | win x s i o => intro z hz; rw [show z = x from hz]; simpa [AV.among] using h
  | iptr c ih => exact ih h
  | fn f a b iha ihb => unfold AV.among at h; split at h
                        · rename_i h1; intro z hz; exact hz.elim (iha h1 z) (ihb h z)
                        · cases h
  | ifc t v ih => exact ih h
  | agg c ih => exact ih h
  | tup c ih => exact ih h
  | cons a b iha ihb => unfold AV.among at h; split at h
                        · rename_i h1; intro z hz; exact hz.elim (iha h1 z) (ihb h z)
                        · cases h
  | _ => intro z hz; exact hz.elim
theorem closed_spec {B : BL} {l : List Nat} : ∀ {r : List Nat}, closed B l r = true → ∀ x ∈ r, B.liveAt x ∧ ∀ z, (B.get x).locs z → z ∈ l
  | [], _, x, hx => by simp at hx
  | y :: r, h, x, hx => by
    unfold closed at h
    split at h
    · rename_i h1 h2
      rcases List.mem_cons.1 hx with rfl | hx
      · refine ⟨h1, fun z hz => ?_⟩
        cases hb : B.get x with
        | cells c => rw [hb] at h2 hz; exact among_locs c h2 z hz
        | no => rw [hb] at hz; exact hz.elim
        | row _ _ _ => rw [hb] at hz; exact hz.elim
      · exact closed_spec h x hx
    · cases h
theorem rowsOf_mem {B : BL} {x : Nat} : ∀ {l : List Nat}, x ∈ rowsOf B l ↔ x ∈ l ∧ (B.get x).isRow = true
  | [] => by simp [rowsOf]
  | y :: r => by
    unfold rowsOf
    split
    · rename_i hy
      rw [List.mem_cons, List.mem_cons, rowsOf_mem]
      constructor
      · rintro (rfl | ⟨h1, h2⟩)
        · exact ⟨.inl rfl, hy⟩
        · exact ⟨.inr h1, h2⟩
      · rintro ⟨rfl | h1, h2⟩
        · exact .inl rfl
        · exact .inr ⟨h1, h2⟩
    · rename_i hy
      rw [List.mem_cons, rowsOf_mem]
      constructor
      · rintro ⟨h1, h2⟩; exact ⟨.inr h1, h2⟩
      · rintro ⟨rfl | h1, h2⟩
        · rw [hy] at h2; cases h2
        · exact ⟨h1, h2⟩
theorem get_dead {B : BL} {x : Nat} (h : ¬ B.liveAt x) : B.get x = .no := by
  unfold BL.liveAt at h
  cases hb : B.get x <;> rw [hb] at h <;> simp [Blk.live] at h ⊢
/-- Some blocks alone, that name no others. -/
theorem Inv.pick {E : Env} {B : BL} (h : Inv E B) {cs : List Nat} (hcl : closed B cs cs = true) : Inv E (B.pick cs .nil) := by
  have hget : ∀ x, (B.pick cs .nil).get x = if x ∈ cs then B.get x else .no := fun x => pick_get _ _ _ _
  have hsol : ∀ x, solidAt E (B.pick cs .nil) x → solidAt E B x := by
    intro x hx
    unfold solidAt at hx
    rw [hget] at hx
    split at hx
    · exact hx
    · exact hx.elim
  refine ⟨fun d => ?_, fun d d' hd hd' => h.dist d d' (hsol d hd) (hsol d' hd'), fun d hd => h.live d (hsol d hd), h.ibd, fun d x hx => ?_⟩
  · rw [hget]
    split
    · exact h.blk d
    · trivial
  · rw [hget] at hx
    split at hx
    · rename_i hd
      have := (closed_spec hcl d hd).2 x hx
      unfold BL.liveAt
      rw [hget, if_pos this]
      exact (closed_spec hcl x this).1
    · exact hx.elim
/-- Behind a run that was handed some blocks. -/
theorem Rel.after (h : Rel C.N E0 B0 E s a) {cs : List Nat} (hcl : closed s.b cs cs = true) {d : Nat} (hd : ¬ s.b.liveAt d) (hlt : d < 10000) {E' : Env} {B' : BL} (hinv : Inv E' B') (hpost : Post E (s.b.pick cs .nil) E' B' (· = d)) :
    Rel C.N E0 B0 E' (s.after d cs B') a ∧ ∀ x, B'.liveAt x → (s.after d cs B').b.liveAt x := by
  have hpick : ∀ x, (s.b.pick cs .nil).get x = if x ∈ cs then s.b.get x else .no := fun x => pick_get _ _ _ _
  have hdc : d ∉ cs := fun hx => hd (closed_spec hcl d hx).1
  generalize hM : rowsOf s.b cs = M
  have hMm : ∀ x, x ∈ M ↔ x ∈ cs ∧ (s.b.get x).isRow = true := fun x => by rw [← hM]; exact rowsOf_mem
  have hdead : s.b.get d = .no := get_dead hd
  -- the blocks behind
  have hget : ∀ x, (s.after d cs B').b.get x = if x = d ∨ x ∈ cs then B'.get x else (s.b.get x).kills M := by
    intro x
    unfold St.after
    simp only [hM]
    split
    · rw [BL.get_cons, pick_get, bl_kills_get]
      by_cases h1 : d = x
      · subst h1; simp
      · simp [h1, Ne.symm h1]
    · rename_i hl
      rw [pick_get, bl_kills_get]
      by_cases h1 : x = d
      · subst h1
        have : B'.get x = .no := get_dead (by simp [BL.liveAt, hl])
        rw [if_neg hdc, if_pos (.inl rfl), this, hdead]; rfl
      · simp [h1]
  generalize hB : (s.after d cs B').b = B'' at hget
  have hkk : ∀ x, ((s.b.get x).kills M).isRow = (s.b.get x).isRow := fun x => by cases s.b.get x <;> rfl
  have hkl : ∀ x, ((s.b.get x).kills M).live = (s.b.get x).live := fun x => by cases s.b.get x <;> rfl
  have hks : ∀ (F : Env) x, solid F x ((s.b.get x).kills M) ↔ solid F x (s.b.get x) := fun F x => by cases s.b.get x <;> exact Iff.rfl
  have hout : ∀ x, ¬ (x = d ∨ x ∈ cs) → E'.ρ x = E.ρ x ∧ E'.rv x = E.rv x := fun x hx => hpost.same x (fun q => hx (.inl q)) (by rw [hpick, if_neg (fun q => hx (.inr q))]; rfl)
  have hpsol : ∀ x, solidAt E (s.b.pick cs .nil) x → x ∈ cs ∧ solidAt E s.b x := by
    intro x hx
    unfold solidAt at hx
    rw [hpick] at hx
    split at hx
    · rename_i hc; exact ⟨hc, hx⟩
    · exact hx.elim
  have hin : ∀ x, (x = d ∨ x ∈ cs) → (solidAt E' B'' x ↔ solidAt E' B' x) := fun x hx => by unfold solidAt; rw [hget, if_pos hx]
  have houts : ∀ x, ¬ (x = d ∨ x ∈ cs) → (solidAt E' B'' x ↔ solidAt E s.b x) := fun x hx => by
    unfold solidAt
    rw [hget, if_neg hx, hks]
    exact solid_same (hout x hx).2
  have hlin : ∀ x, (x = d ∨ x ∈ cs) → (B''.liveAt x ↔ B'.liveAt x) := fun x hx => by unfold BL.liveAt; rw [hget, if_pos hx]
  have hlout : ∀ x, ¬ (x = d ∨ x ∈ cs) → (B''.liveAt x ↔ s.b.liveAt x) := fun x hx => by unfold BL.liveAt; rw [hget, if_neg hx, hkl]
  have hplive : ∀ x, (s.b.pick cs .nil).liveAt x → x ∈ cs := by
    intro x hx
    unfold BL.liveAt at hx
    rw [hpick] at hx
    split at hx
    · assumption
    · simp [Blk.live] at hx
  have hB'l : ∀ x, B'.liveAt x → (x = d ∨ x ∈ cs) := fun x hx => (hpost.dom x hx).elim (fun q => .inr (hplive x q)) .inl
  have hkeep : ∀ x, s.b.liveAt x → B''.liveAt x := by
    intro x hx
    by_cases hc : x = d ∨ x ∈ cs
    · refine (hlin x hc).2 (hpost.keep x ?_)
      rcases hc with hc | hc
      · exact (hd (hc ▸ hx)).elim
      · unfold BL.liveAt; rw [hpick, if_pos hc]; exact hx
    · exact (hlout x hc).2 hx
  have hnew : ∀ x, solidAt E' B'' x → (solidAt E s.b x ∧ E'.ρ x = E.ρ x) ∨ E.w.heap.size ≤ E'.ρ x := by
    intro x hx
    by_cases hc : x = d ∨ x ∈ cs
    · exact (hpost.new x ((hin x hc).1 hx)).imp (fun ⟨h1, h2⟩ => ⟨(hpsol x h1).2, h2⟩) id
    · exact .inl ⟨(houts x hc).1 hx, (hout x hc).1⟩
  have hold : ∀ b, b < E.w.heap.size → (∀ x ∈ cs, solidAt E s.b x → E.ρ x ≠ b) → E'.w.heap[b]? = E.w.heap[b]? := fun b hb hn => hpost.old b hb fun x hx => hn x (hpsol x hx).1 (hpsol x hx).2
  have hpost2 : Post E s.b E' B'' (· = d) := by
    refine ⟨hpost.le, fun x hx hr => hpost.same x hx ?_, fun x hx hr => ?_, hpost.os, hpost.tape, hpost.output, hpost.size, fun b hb hn => hold b hb fun x _ hs => hn x hs, fun x hx => ?_, hnew, hkeep, hpost.imm⟩
    · rw [hpick]; split
      · exact hr
      · rfl
    · rw [hget]
      split
      · rename_i hc
        refine hpost.kind x hx ?_
        rw [hpick]; split
        · exact hr
        · rfl
      · rw [hkk]; exact hr
    · by_cases hc : x = d ∨ x ∈ cs
      · rcases hpost.dom x ((hlin x hc).1 hx) with h1 | h1
        · exact .inl (closed_spec hcl x (hplive x h1)).1
        · exact .inr h1
      · exact .inl ((hlout x hc).1 hx)
  have hinv2 : Inv E' B'' := by
    refine ⟨fun x => ?_, fun x y hx hy hxy => ?_, fun x hx => ?_, hinv.ibd, fun x z hz => ?_⟩
    · rw [hget]
      split
      · exact hinv.blk x
      · rename_i hc
        have hbk : BlkRp E x ((s.b.get x).kills M) := by
          have := h.inv.blk x
          cases hb : s.b.get x with
          | no => trivial
          | row _ _ _ => rw [hb] at this; exact this
          | cells c =>
            rw [hb] at this
            obtain ⟨l, e, h1, h2⟩ := this
            exact ⟨l, e, h1, (rp_kills M c).2 _ h2⟩
        refine blk_mono hpost.le hbk (hout x hc).1 (hout x hc).2 (fun hs => ?_) fun y hy => ?_
        · have hs' : solidAt E s.b x := (hks E x).1 hs
          exact hold _ (h.inv.live x hs').1 fun y hyc hys => h.inv.dist y x hys hs' fun q => hc (.inr (q ▸ hyc))
        · have hy' : (s.b.get x).locs y ∧ y ∉ M := by
            cases hb : s.b.get x with
            | cells c => rw [hb] at hy; exact kills_locs M c y hy
            | no => rw [hb] at hy; exact hy.elim
            | row _ _ _ => rw [hb] at hy; exact hy.elim
          have hyl := h.inv.nm x y hy'.1
          by_cases hyc : y ∈ cs
          · refine hpost.same y (fun q => hd (q ▸ hyl)) ?_
            rw [hpick, if_pos hyc]
            cases hr : (s.b.get y).isRow with
            | false => rfl
            | true => exact (hy'.2 ((hMm y).2 ⟨hyc, hr⟩)).elim
          · exact hout y fun q => q.elim (fun q => hd (q ▸ hyl)) hyc
    · by_cases hcx : x = d ∨ x ∈ cs <;> by_cases hcy : y = d ∨ y ∈ cs
      · exact hinv.dist x y ((hin x hcx).1 hx) ((hin y hcy).1 hy) hxy
      · have hy' := (houts y hcy).1 hy
        rw [(hout y hcy).1]
        rcases hpost.new x ((hin x hcx).1 hx) with ⟨h1, h2⟩ | h1
        · rw [h2]; exact h.inv.dist x y (hpsol x h1).2 hy' hxy
        · have := (h.inv.live y hy').1; omega
      · have hx' := (houts x hcx).1 hx
        rw [(hout x hcx).1]
        rcases hpost.new y ((hin y hcy).1 hy) with ⟨h1, h2⟩ | h1
        · rw [h2]; exact h.inv.dist x y hx' (hpsol y h1).2 hxy
        · have := (h.inv.live x hx').1; omega
      · rw [(hout x hcx).1, (hout y hcy).1]
        exact h.inv.dist x y ((houts x hcx).1 hx) ((houts y hcy).1 hy) hxy
    · by_cases hc : x = d ∨ x ∈ cs
      · exact hinv.live x ((hin x hc).1 hx)
      · have hx' := (houts x hc).1 hx
        rw [(hout x hc).1]
        refine ⟨Nat.lt_of_lt_of_le (h.inv.live x hx').1 hpost.size, fun o ho => ?_⟩
        rcases hpost.imm _ o ho with h1 | h1
        · exact (h.inv.live x hx').2 o h1
        · have := (h.inv.live x hx').1; omega
    · rw [hget] at hz
      split at hz
      · have := hinv.nm x z hz
        exact (hlin z (hB'l z this)).2 this
      · have : (s.b.get x).locs z := by
          cases hb : s.b.get x with
          | cells c => rw [hb] at hz; exact (kills_locs M c z hz).1
          | no => rw [hb] at hz; exact hz.elim
          | row _ _ _ => rw [hb] at hz; exact hz.elim
        exact hkeep z (h.inv.nm x z this)
  have h1 : Rel C.N E0 B0 E ⟨s.t.kills M, s.b, s.df.kills M⟩ a := by
    refine ⟨fun k => ?_, h.inv, fun k z hz => ?_, h.sz, df_kills M _ _ h.df, fun z hz => h.dn z (kills_locs M _ z hz).1, h.post⟩
    · show Rp E ((s.t.kills M).get k) _
      rw [al_kills_get]
      exact (rp_kills M _).1 _ (h.tmps k)
    · change ((s.t.kills M).get k).locs z at hz
      rw [al_kills_get] at hz
      exact h.tn k z (kills_locs M _ z hz).1
  have h2 := h1.step (a := a) (dst := none) (v := .any) (x := undef) hpost2 (fun x hx => by rw [hx]; exact hlt) (fun y hy => ?_) hinv2 (fun _ h => by cases h) trivial (fun y hy => hy.elim)
  · have hs : s.after d cs B' = ⟨s.t.kills M, B'', s.df.kills M⟩ := by
      rw [← hB]; unfold St.after; simp only [hM]
    rw [hs]
    exact ⟨h2, fun x hx => (hlin x (hB'l x hx)).2 hx⟩
  · have hy' : s.b.liveAt y ∧ y ∉ M := by
      rcases hy with ⟨n, hy⟩ | hy
      · change ((s.t.kills M).get n).locs y at hy
        rw [al_kills_get] at hy
        exact ⟨h.tn n y (kills_locs M _ y hy).1, (kills_locs M _ y hy).2⟩
      · exact ⟨h.dn y (kills_locs M _ y hy).1, (kills_locs M _ y hy).2⟩
    by_cases hyc : y ∈ cs
    · refine hpost.same y (fun q => hd (q ▸ hy'.1)) ?_
      rw [hpick, if_pos hyc]
      cases hr : (s.b.get y).isRow with
      | false => rfl
      | true => exact (hy'.2 ((hMm y).2 ⟨hyc, hr⟩)).elim
    · exact hout y fun q => q.elim (fun q => hd (q ▸ hy'.1)) hyc
theorem cell_heap {w w' : World} {b o : Nat} (h : w'.heap[b]? = w.heap[b]?) : w'.cell? ⟨b, o, none⟩ = w.cell? ⟨b, o, none⟩ := by
  unfold World.cell?
  simp only [h]
/-- Another memory in which all that was there is as it was. -/
theorem Rel.world (h : Rel C.N E0 B0 E s a) {w' : World} (h1 : w'.os = E.w.os) (h2 : w'.tape = E.w.tape) (h3 : w'.output = E.w.output) (h4 : E.w.heap.size ≤ w'.heap.size) (h5 : ∀ b, b < E.w.heap.size → w'.heap[b]? = E.w.heap[b]?) :
    Rel C.N E0 B0 ⟨E.ρ, E.rv, E.I, w'⟩ s a := by
  have hle : E.Le ⟨E.ρ, E.rv, E.I, w'⟩ := ⟨fun _ _ h => h, fun b o hi => cell_heap (h5 b (h.inv.ibd b o hi))⟩
  have hsol : ∀ x, solidAt ⟨E.ρ, E.rv, E.I, w'⟩ s.b x ↔ solidAt E s.b x := fun x => solid_same rfl
  have hpost : Post E s.b ⟨E.ρ, E.rv, E.I, w'⟩ s.b (fun _ => False) :=
    ⟨hle, fun _ _ _ => ⟨rfl, rfl⟩, fun _ _ h => h, h1, h2, h3, h4, fun b hb _ => h5 b hb, fun _ h => .inl h, fun x hx => .inl ⟨(hsol x).1 hx, rfl⟩, fun _ h => h, fun _ _ h => .inl h⟩
  refine h.step (a := a) (dst := none) (v := .any) (x := undef) hpost (fun _ h => h.elim) (fun _ _ => ⟨rfl, rfl⟩) ⟨fun x => ?_, fun x y hx hy => h.inv.dist x y ((hsol x).1 hx) ((hsol y).1 hy), fun x hx => ?_, fun b o hb => Nat.lt_of_lt_of_le (h.inv.ibd b o hb) h4, h.inv.nm⟩ (fun _ h => by cases h) trivial (fun y hy => hy.elim)
  · exact blk_mono hle (h.inv.blk x) rfl rfl (fun hs => h5 _ (h.inv.live x hs).1) fun _ _ => ⟨rfl, rfl⟩
  · have := h.inv.live x ((hsol x).1 hx)
    exact ⟨Nat.lt_of_lt_of_le this.1 h4, this.2⟩
theorem flat_spec {E E' : Env} (x : AV) (h : x.flat = true) : (∀ v, Rp E x v → Rp E' x v) ∧ (∀ l, ListC E x l → ListC E' x l) ∧ ∀ y, ¬ x.locs y := by
  induction x with
  | ifc t v ih =>
    obtain ⟨h1, _, h3⟩ := ih h
    exact ⟨fun v hv => by obtain ⟨y, h4, h5⟩ := hv; exact ⟨y, h4, h1 _ h5⟩, fun _ h => h.elim, h3⟩
  | agg c ih =>
    obtain ⟨_, h2, h3⟩ := ih h
    exact ⟨fun v hv => by obtain ⟨l, h4, h5⟩ := hv; exact ⟨l, h4, h2 _ h5⟩, fun _ h => h.elim, h3⟩
  | tup c ih =>
    obtain ⟨_, h2, h3⟩ := ih h
    exact ⟨fun v hv => by obtain ⟨l, h4, h5⟩ := hv; exact ⟨l, h4, h2 _ h5⟩, fun _ h => h.elim, h3⟩
  | cons p q ihp ihq =>
    unfold AV.flat at h
    split at h
    · rename_i hp
      obtain ⟨h1, _, h3⟩ := ihp hp
      obtain ⟨_, h5, h6⟩ := ihq h
      exact ⟨fun _ h => h.elim, fun l hl => by obtain ⟨x, r, h7, h8, h9⟩ := hl; exact ⟨x, r, h7, h1 _ h8, h5 _ h9⟩, fun y hy => hy.elim (h3 y) (h6 y)⟩
    · cases h
  | int k n => exact ⟨fun _ h => h, fun _ h => h.elim, fun _ h => h⟩
  | bool b => exact ⟨fun _ h => h, fun _ h => h.elim, fun _ h => h⟩
  | tt => exact ⟨fun _ h => h, fun _ h => h.elim, fun _ h => h⟩
  | ff => exact ⟨fun _ h => h, fun _ h => h.elim, fun _ h => h⟩
  | str s => exact ⟨fun _ h => h, fun _ h => h.elim, fun _ h => h⟩
  | nsl => exact ⟨fun _ h => h, fun _ h => h.elim, fun _ h => h⟩
  | nptr => exact ⟨fun _ h => h, fun _ h => h.elim, fun _ h => h⟩
  | nfn => exact ⟨fun _ h => h, fun _ h => h.elim, fun _ h => h⟩
  | nif => exact ⟨fun _ h => h, fun _ h => h.elim, fun _ h => h⟩
  | nil => exact ⟨fun _ h => h.elim, fun _ h => h, fun _ h => h⟩
  | _ => cases h
/-- What is to hold behind a call. -/
def EndQ (a : Act) (dst : Option Nat) (next : Act → World → Prop) (Qc : Exit → Act → World → Prop) : Ending → World → Prop
  | .returned v, w'' => next (a.put dst v) w''
  | .panicked chain, w'' => Qc (.panic chain) a w''
  | .outgrown, _ => LetsOut Qc
theorem ares_sound {E' : Env} {s' : St} {r : ARes} {e : Ending} (hR : Rel C.N E0 B0 E' s' a) (hB0 : ∀ x, x < 10000 → ¬ B0.liveAt x) (hN : ∀ d, o.dst = some d → d < C.N) (hend : Ends E' r e) (hl : ∀ x, r.locs x → s'.b.liveAt x)
    (ha : ares C r o.dst s' K) (hk : UponOk C E0 B0 a K next Qc) : EndQ a o.dst next Qc e E'.w := by
  cases r with
  | ret v =>
    cases e with
    | returned x => exact hk.1 E' _ _ (hR.value hB0 hN hend hl) ha
    | panicked ch => exact hend.elim
    | outgrown => exact hend.elim
  | pan v =>
    cases e with
    | returned x => exact hend.elim
    | panicked ch =>
      obtain ⟨x, rfl, hx⟩ := hend
      exact hk.2 E' s' v x hR hx hl ha
    | outgrown => exact hend.elim
/-- Place p, which nothing names, comes to hold another row. -/
theorem Rel.move (h : Rel C.N E0 B0 E s a) {p : Nat} (hp : (s.b.get p).isRow = true ∨ (¬ s.b.liveAt p ∧ p < 10000)) (hp' : (s.b.get p).isRow = true → True) {w' : World} {rv' : Value} {ρ' : Nat} (h1 : w'.os = E.w.os) (h2 : w'.tape = E.w.tape) (h3 : w'.output = E.w.output) (h4 : E.w.heap.size ≤ w'.heap.size)
    (hold : ∀ k, k < E.w.heap.size → (solidAt E s.b p → k ≠ E.ρ p) → w'.heap[k]? = E.w.heap[k]?) {sz : Nat} {n' : Th Nat} {g' : Th Nat → AV} (hnew : rv' ≠ .slice none 0 0 → (solidAt E s.b p ∧ ρ' = E.ρ p) ∨ (E.w.heap.size ≤ ρ' ∧ ρ' < w'.heap.size))
    (hnm : ∀ k, ¬ (s.t.get k).locs p) (hnd : ¬ s.df.locs p) (hnb : ∀ x, ¬ (s.b.get x).locs p)
    (hblk : ∀ E' : Env, E'.w = w' → E.Le E' → E'.ρ p = ρ' → E'.rv p = rv' → BlkRp E' p (.row sz n' g')) :
    ∃ E', E'.w = w' ∧ E.Le E' ∧ E'.ρ p = ρ' ∧ E'.rv p = rv' ∧ Rel C.N E0 B0 E' (s.put p (.row sz n' g')) a := by
  let E' : Env := ⟨fun x => if x = p then ρ' else E.ρ x, fun x => if x = p then rv' else E.rv x, E.I, w'⟩
  have hle : E.Le E' := ⟨fun _ _ h => h, fun b o hi => cell_heap (hold b (h.inv.ibd b o hi) fun hs he => (h.inv.live p hs).2 o (he ▸ hi))⟩
  have hne : ∀ y, y ≠ p → E'.ρ y = E.ρ y ∧ E'.rv y = E.rv y := fun y hy => by simp [E', hy]
  have hpe : E'.ρ p = ρ' ∧ E'.rv p = rv' := by simp [E']
  have hget : ∀ x, (BL.cons p (.row sz n' g') s.b).get x = if p = x then .row sz n' g' else s.b.get x := fun x => BL.get_cons _ _ _ _
  have hsolp : solidAt E' (.cons p (.row sz n' g') s.b) p → rv' ≠ .slice none 0 0 := by
    intro hx
    unfold solidAt at hx
    rw [hget, if_pos rfl] at hx
    have hx : E'.rv p ≠ _ := hx
    rw [hpe.2] at hx; exact hx
  have hsol : ∀ x, x ≠ p → (solidAt E' (.cons p (.row sz n' g') s.b) x ↔ solidAt E s.b x) := by
    intro x hx
    unfold solidAt
    rw [hget, if_neg (Ne.symm hx)]
    exact solid_same (hne x hx).2
  have hlive : ∀ x, (BL.cons p (.row sz n' g') s.b).liveAt x ↔ (s.b.liveAt x ∨ x = p) := by
    intro x
    unfold BL.liveAt
    rw [hget]
    split
    · rename_i hx; subst hx; simp [Blk.live]
    · rename_i hx; simp [Ne.symm hx]
  have hpost : Post E s.b E' (.cons p (.row sz n' g') s.b) (fun x => x = p ∧ x < 10000 ∧ ¬ s.b.liveAt p) := by
    have hD : ∀ x, ¬ (x = p ∧ x < 10000 ∧ ¬ s.b.liveAt p) → (s.b.get x).isRow = false → x ≠ p := by
      intro x hx hr he
      subst he
      rcases hp with h5 | h5
      · rw [hr] at h5; cases h5
      · exact hx ⟨rfl, h5.2, h5.1⟩
    refine ⟨hle, fun x hx hr => hne x (hD x hx hr), fun x hx hr => ?_, h1, h2, h3, h4, fun b hb hn => hold b hb fun hs he => hn p hs he.symm, fun x hx => ?_, fun x hx => ?_, fun x hx => (hlive x).2 (.inl hx), fun _ _ h => .inl h⟩
    · rw [hget, if_neg (Ne.symm (hD x hx hr))]; exact hr
    · rcases (hlive x).1 hx with h5 | h5
      · exact .inl h5
      · rcases hp with h6 | h6
        · left; rw [h5]; unfold BL.liveAt; cases hb : s.b.get p <;> rw [hb] at h6 <;> first | rfl | cases h6
        · exact .inr ⟨h5, by rw [h5]; exact h6.2, h6.1⟩
    · by_cases hxp : x = p
      · subst hxp
        rcases hnew (hsolp hx) with ⟨h5, h6⟩ | ⟨h5, _⟩
        · exact .inl ⟨h5, by rw [hpe.1]; exact h6⟩
        · exact .inr (by rw [hpe.1]; exact h5)
      · exact .inl ⟨(hsol x hxp).1 hx, (hne x hxp).1⟩
  refine ⟨E', rfl, hle, hpe.1, hpe.2, h.step (a := a) hpost (fun x hx => hx.2.1) (fun y hy => hne y fun he => ?_) ⟨fun x => ?_, fun x y hx hy hxy => ?_, fun x hx => ?_, fun b o hb => Nat.lt_of_lt_of_le (h.inv.ibd b o hb) h4, fun x z hz => ?_⟩ (dst := none) (v := .any) (x := undef) (fun _ h => by cases h) trivial (fun y hy => hy.elim)⟩
  · subst he; rcases hy with ⟨n, hy⟩ | hy
    · exact hnm n hy
    · exact hnd hy
  · rw [hget]
    split
    · rename_i hx; subst hx; exact hblk E' rfl hle hpe.1 hpe.2
    · rename_i hx
      have hxp : x ≠ p := Ne.symm hx
      refine blk_mono hle (h.inv.blk x) (hne x hxp).1 (hne x hxp).2 (fun hs => hold _ (h.inv.live x hs).1 fun hsp => h.inv.dist x p hs hsp hxp) fun y hy => hne y fun he => hnb x (he ▸ hy)
  · have side : ∀ x y, x = p → y ≠ p → solidAt E' (.cons p (.row sz n' g') s.b) x → solidAt E' (.cons p (.row sz n' g') s.b) y → E'.ρ x ≠ E'.ρ y := by
      intro x y hxp hyp hx hy
      subst hxp
      have hy' := (hsol y hyp).1 hy
      rw [hpe.1, (hne y hyp).1]
      rcases hnew (hsolp hx) with ⟨h5, h6⟩ | ⟨h5, _⟩
      · rw [h6]; exact h.inv.dist x y h5 hy' (Ne.symm hyp)
      · have := (h.inv.live y hy').1; omega
    by_cases hxp : x = p <;> by_cases hyp : y = p
    · exact (hxy (hxp.trans hyp.symm)).elim
    · exact side x y hxp hyp hx hy
    · exact fun q => side y x hyp hxp hy hx q.symm
    · rw [(hne x hxp).1, (hne y hyp).1]
      exact h.inv.dist x y ((hsol x hxp).1 hx) ((hsol y hyp).1 hy) hxy
  · by_cases hxp : x = p
    · subst hxp
      rw [hpe.1]
      rcases hnew (hsolp hx) with ⟨h5, h6⟩ | ⟨h5, h6⟩
      · rw [h6]; exact ⟨Nat.lt_of_lt_of_le (h.inv.live x h5).1 h4, (h.inv.live x h5).2⟩
      · exact ⟨h6, fun o ho => by have := h.inv.ibd _ _ ho; omega⟩
    · rw [(hne x hxp).1]
      have := h.inv.live x ((hsol x hxp).1 hx)
      exact ⟨Nat.lt_of_lt_of_le this.1 h4, this.2⟩
  · rw [hget] at hz
    split at hz
    · exact hz.elim
    · exact (hlive z).2 (.inl (h.inv.nm x z hz))
theorem acall2_sound {s0 : St} {E1 : Env} (h0 : Rel C.N E0 B0 E s0 a) (h : Rel C.N E0 B0 E1 s a) (hw : E1.w = E.w) (hle : E.Le E1) (hB0 : ∀ x, x < 10000 → ¬ B0.liveAt x) {f : Nat} {asL0 : List AV} {vs : List Value} {cs : List Nat} (hvs : ListC E1 (chain asL0) vs)
    (hN : ∀ d, o.dst = some d → d < C.N) {ds : List Nat} (ha : acall2 C f asL0 o.dst ds s0 s cs K) (hk : UponOk C E0 B0 a K next Qc) : callable (C.P .o) f = true ∧ Calls (C.P .o) f vs.toArray E.w (EndQ a o.dst next Qc) := by
  unfold acall2 at ha
  split at ha
  · rename_i hfr ham hcl
    obtain ⟨hdead, hlt⟩ := fresh_spec hfr
    have hpl : ∀ x ∈ cs, (s.b.pick cs .nil).liveAt x := fun x hx => by
      unfold BL.liveAt
      rw [pick_get, if_pos hx]
      exact (closed_spec hcl x hx).1
    have hinv1 := h.inv.pick hcl
    have hl1 : ∀ x, (chain asL0).locs x → (s.b.pick cs .nil).liveAt x := fun x hx => hpl x (among_locs _ ham x hx)
    have hd1 : ¬ (s.b.pick cs .nil).liveAt (o.dst.getD 9999) := fun hx => by
      unfold BL.liveAt at hx
      rw [pick_get] at hx
      split at hx
      · rename_i hc; exact hdead (closed_spec hcl _ hc).1
      · simp [BL.get, Blk.live] at hx
    split at ha
    · refine ⟨ha.can, ?_⟩
      rw [← hw]
      refine (ha.run E1 vs hinv1 hvs hl1 hd1).mono ?_
      rintro e w' ⟨E', r, B', rfl, hK, hend, hinv, hpost, hrl⟩
      split at hK
      · rename_i hflat
        have hold : ∀ b, b < E.w.heap.size → E'.w.heap[b]? = E.w.heap[b]? := fun b hb => by
          rw [← hw]
          exact hpost.old b (by rw [hw]; exact hb) fun x hx => by
            have := solid_live hx
            simp [BL.liveAt, BL.get, Blk.live] at this
        have hR := h0.world (w' := E'.w) (by rw [hpost.os, hw]) (by rw [hpost.tape, hw]) (by rw [hpost.output, hw]) (by rw [← hw]; exact hpost.size) hold
        have hend' : Ends ⟨E.ρ, E.rv, E.I, E'.w⟩ r e := by
          cases r with
          | ret v => cases e with
            | returned x => exact (flat_spec v hflat).1 _ hend
            | panicked ch => exact hend.elim
            | outgrown => exact hend.elim
          | pan v => cases e with
            | returned x => exact hend.elim
            | panicked ch => obtain ⟨x, h1, h2⟩ := hend; exact ⟨x, h1, (flat_spec v hflat).1 _ h2⟩
            | outgrown => exact hend.elim
        exact ares_sound (E' := ⟨E.ρ, E.rv, E.I, E'.w⟩) hR hB0 hN hend' (fun x hx => by
          cases r with
          | ret v => exact ((flat_spec (E := E) (E' := E) v hflat).2.2 x hx).elim
          | pan v => exact ((flat_spec (E := E) (E' := E) v hflat).2.2 x hx).elim) hK hk
      · split at hK
        · rename_i hown
          split at hK
          · rename_i sz n g hfr0 hrow
            obtain ⟨hflat, hK⟩ := hK
            have hflat := hflat trivial
            obtain ⟨hdead0, _⟩ := fresh_spec hfr0
            have hnil : ∀ x, ¬ solidAt E1 .nil x := fun x hx => by
              have := solid_live hx
              simp [BL.liveAt, BL.get, Blk.live] at this
            have hold : ∀ b, b < E.w.heap.size → E'.w.heap[b]? = E.w.heap[b]? := fun b hb => by
              rw [← hw]
              exact hpost.old b (by rw [hw]; exact hb) fun x hx => (hnil x hx).elim
            have hbl := hinv.blk (o.dst.getD 9999)
            rw [hrow] at hbl
            have hdn : ∀ k, ¬ (s0.t.get k).locs (o.dst.getD 9999) := fun k hk' => hdead0 (h0.tn k _ hk')
            obtain ⟨E2, hw2, hle2, hρ2, hrv2, hR2⟩ := h0.move (p := o.dst.getD 9999) (.inr ⟨hdead0, hlt⟩) (fun _ => trivial) (w' := E'.w) (rv' := E'.rv (o.dst.getD 9999)) (ρ' := E'.ρ (o.dst.getD 9999)) (sz := sz) (n' := n) (g' := g)
              (by rw [hpost.os, hw]) (by rw [hpost.tape, hw]) (by rw [hpost.output, hw]) (by rw [← hw]; exact hpost.size) (fun k hk' _ => hold k hk')
              (fun hv => .inr (by
                have hs : solidAt E' B' (o.dst.getD 9999) := by unfold solidAt; rw [hrow]; exact hv
                refine ⟨?_, (hinv.live _ hs).1⟩
                rcases hpost.new _ hs with ⟨q, _⟩ | q
                · exact (hnil _ q).elim
                · rw [← hw]; exact q))
              hdn (fun hd => hdead0 (h0.dn _ hd)) (fun x hx => hdead0 (h0.inv.nm x _ hx))
              (fun G hGw _ hGρ hGrv => by
                rcases hbl with ⟨q1, q2⟩ | ⟨cap, cur, e', q1, q2, q3, q4, q5, q6⟩
                · exact .inl ⟨hGrv.trans q1, q2⟩
                · exact .inr ⟨cap, cur, e', by rw [hGrv, hGρ]; exact q1, by rw [hGw, hGρ]; exact q2, q3, q4, q5, fun i hi => ⟨(q6 i hi).1, (flat_spec _ (hflat i hi)).2.1 _ (q6 i hi).2⟩⟩)
            have hrow2 : ∀ x, Rp E' (.row (o.dst.getD 9999)) x → Rp E2 (.row (o.dst.getD 9999)) x := fun x hx => ⟨hx.1.trans hrv2.symm, hx.2⟩
            have hlive2 : (s0.put (o.dst.getD 9999) (.row sz n g)).b.liveAt (o.dst.getD 9999) := by simp [St.put, BL.liveAt, BL.get_cons, Blk.live]
            rw [← hw2]
            cases r with
            | pan v => cases hown
            | ret v =>
              cases v with
              | row x =>
                obtain rfl : x = o.dst.getD 9999 := by simpa [ARes.own] using hown
                cases e with
                | returned y => exact ares_sound (E' := E2) hR2 hB0 hN (r := .ret (.row _)) (e := .returned y) (hrow2 y hend) (fun x hx => by obtain rfl : x = o.dst.getD 9999 := hx; exact hlive2) hK hk
                | _ => exact hend.elim
              | tup c =>
                cases c with
                | cons b q =>
                  cases b with
                  | row x =>
                    have hown2 : (match x == o.dst.getD 9999 with | true => q.flat | false => false) = true := hown
                    clear hown
                    split at hown2
                    · rename_i hxd
                      obtain rfl : x = o.dst.getD 9999 := by simpa using hxd
                      obtain ⟨f1, f2, f3⟩ := flat_spec (E := E') (E' := E2) q hown2
                      cases e with
                      | returned y =>
                        refine ares_sound (E' := E2) hR2 hB0 hN (r := .ret (.tup (.cons (.row _) q))) (e := .returned y) ?_ (fun x hx => ?_) hK hk
                        · obtain ⟨l, hl1, hl2⟩ := hend
                          obtain ⟨y1, l1, hl3, hl4, hl5⟩ := listC_cons.1 hl2
                          exact ⟨l, hl1, listC_cons.2 ⟨y1, l1, hl3, hrow2 y1 hl4, f2 _ hl5⟩⟩
                        · rcases hx with hx | hx
                          · obtain rfl : x = o.dst.getD 9999 := hx; exact hlive2
                          · exact (f3 x hx).elim
                      | _ => exact hend.elim
                    · cases hown2
                  | _ => cases hown
                | _ => cases hown
              | _ => cases hown
          · exact hK.elim
        · obtain ⟨hR, hl⟩ := h.after hcl hdead hlt hinv hpost
          exact ares_sound hR hB0 hN hend (fun x hx => hl x (hrl x hx)) hK hk
    · refine ⟨ha.can, ?_⟩
      rw [← hw]
      refine (ha.run E1 vs hinv1 hvs hl1 hd1).mono ?_
      rintro e w' ⟨E', r, B', rfl, hK, hend, hinv, hpost, hrl⟩
      obtain ⟨hR, hl⟩ := h.after hcl hdead hlt hinv hpost
      exact ares_sound hR hB0 hN hend (fun x hx => hl x (hrl x hx)) hK hk
  · exact ha.elim
theorem callable_spec {P : Program} {f : Nat} (h : callable P f = true) : ∃ fn, P.funcs[f]? = some fn ∧ fn.body.isSome = true ∧ fn.name ≠ "runtime.NumGoroutine" := by
  unfold callable at h
  split at h
  · rename_i fn hfn
    simp only [Bool.and_eq_true, bne_iff_ne, ne_eq] at h
    exact ⟨fn, hfn, h.1, h.2⟩
  · cases h
theorem run_callFunc {P : Program} {w : World} {f : Nat} (h : callable P f = true) (args : Array Value) : (callFunc f args).run P w = .ok (.enter f args) w := by
  obtain ⟨fn, h1, h2, h3⟩ := callable_spec h
  unfold callFunc
  have h4 : fn.body.isNone = false := by cases hb : fn.body <;> simp [hb] at h2 ⊢
  simp only [program, Sem.run_bind, Sem.run, Result.andThen_ok, h1]
  have h5 : (fn.name == "runtime.NumGoroutine") = false := by simpa using h3
  simp [h4, h5]
theorem nil_app (y : AV) : AV.nil.app y = y := by cases y <;> rfl
theorem chain_app : ∀ (l m : List AV), chain (l ++ m) = (chain l).app (chain m)
  | [], m => (nil_app _).symm
  | x :: l, m => by simp [chain, AV.app, chain_app l m]
theorem unchain_sound {c : AV} : ∀ {l : List Value}, ListC E c l → ListC E (chain (unchain c)) l ∧ (∀ y, (chain (unchain c)).locs y ↔ c.locs y) := by
  induction c with
  | nil => intro l h; exact ⟨h, fun y => Iff.rfl⟩
  | cons p q _ ih =>
    intro l h
    obtain ⟨x, r, rfl, h1, h2⟩ := listC_cons.1 h
    obtain ⟨h3, h4⟩ := ih h2
    exact ⟨listC_cons.2 ⟨x, r, rfl, h1, h3⟩, fun y => or_congr Iff.rfl (h4 y)⟩
  | _ => intro l h; simp only [ListC] at h
theorem callf_sound (h : Rel C.N E0 B0 E s a) (hB0 : ∀ x, x < 10000 → ¬ B0.liveAt x) {f : Nat} {args : Array Operand} {ts : Array TypeId} {q : List Opd} (ho : o.op = .call { callee := .value (.func f), args := args, argTypes := ts })
    (hc : callable (C.P .o) f = true) (hq : rOpds args.toList = some q) (hN : ∀ d, o.dst = some d → d < C.N) (ha : aop C (.call f q) o.dst s K) (hk : UponOk C E0 B0 a K next Qc) : o.wp (C.P .o) a E.w next Qc := by
  simp only [aop, acallS, acall, acall1] at ha
  obtain ⟨E1, hw, hle, _, _, h1⟩ := h.shutL hB0 ((chain (evs s q)).rows [])
  have hvs := opds_sound h1.si _ _ hq
  have hrun : (execOp a.eval o).run (C.P .o) E.w = .ok (.enter f (args.toList.map a.eval).toArray) E.w := by
    unfold execOp
    simp only [ho, resolve, Act.eval, Deferred.ofValue, Sem.run_bind, Sem.run_pure, Result.andThen_ok, invoke]
    rw [run_callFunc hc]
    congr 2
    apply Array.ext'
    simp
  unfold Oper.wp
  rw [hrun]
  exact (acall2_sound h h1 hw hle hB0 hvs hN ha hk).2.mono fun e w'' he => by cases e <;> exact he
theorem callv_sound (h : Rel C.N E0 B0 E s a) (hB0 : ∀ x, x < 10000 → ¬ B0.liveAt x) {t : Nat} {args : Array Operand} {ts : Array TypeId} {q : List Opd} (ho : o.op = .call { callee := .value (.tmp t), args := args, argTypes := ts })
    (hq : rOpds args.toList = some q) (hN : ∀ d, o.dst = some d → d < C.N) (ha : aop C (.callv (.tmp t) q) o.dst s K) (hk : UponOk C E0 B0 a K next Qc) : o.wp (C.P .o) a E.w next Qc := by
  simp only [aop, acallvS] at ha
  obtain ⟨E1, hw, hle, _, _, h1⟩ := h.shutL hB0 (((Opd.tmp t).ev s).rows ((chain (evs s q)).rows []))
  unfold acallv at ha
  split at ha
  · rename_i f first caps hfv
    simp only [acall, acall1] at ha
    have hvs := opds_sound h1.si _ _ hq
    have hfn := opd_sound h1.si (x := .tmp t) (y := .tmp t) rfl
    rw [hfv] at hfn
    obtain ⟨l, m, h2, h3, h4⟩ := hfn
    have hall : ListC E1 (chain (unchain first ++ (evs (s.shutL (((Opd.tmp t).ev s).rows ((chain (evs s q)).rows []))) q ++ unchain caps))) (l ++ (args.toList.map a.eval ++ m)) := by
      rw [chain_app, chain_app]
      exact listC_app (unchain_sound h3).1 (listC_app hvs (unchain_sound h4).1)
    obtain ⟨hcan, hcalls⟩ := acall2_sound h h1 hw hle hB0 hall hN ha hk
    have hrun : (execOp a.eval o).run (C.P .o) E.w = .ok (.enter f (l ++ (args.toList.map a.eval ++ m)).toArray) E.w := by
      unfold execOp
      simp only [ho, resolve, h2, Deferred.ofValue, Sem.run_bind, Sem.run_pure, Result.andThen_ok, invoke]
      rw [run_callFunc hcan]
      congr 2
      apply Array.ext'
      simp
    unfold Oper.wp
    rw [hrun]
    exact hcalls.mono fun e w'' he => by cases e <;> exact he
  · exact ha.elim
/-- All that names place p is forgotten. -/
theorem Rel.kill (h : Rel C.N E0 B0 E s a) (p : Nat) : Rel C.N E0 B0 E ⟨s.t.kill p, s.b.kill p, s.df.kill p⟩ a := by
  have hk : ∀ x, ((s.b.kill p).get x).live = (s.b.get x).live ∧ ((s.b.kill p).get x).isRow = (s.b.get x).isRow ∧ (solid E x ((s.b.kill p).get x) ↔ solid E x (s.b.get x)) ∧ ∀ z, ((s.b.kill p).get x).locs z → (s.b.get x).locs z := by
    intro x
    rw [bl_kill_get]
    cases s.b.get x with
    | cells c => exact ⟨rfl, rfl, Iff.rfl, fun z hz => (kill_locs p c z hz).1⟩
    | _ => exact ⟨rfl, rfl, Iff.rfl, fun z hz => hz⟩
  have hl : ∀ x, (s.b.kill p).liveAt x ↔ s.b.liveAt x := fun x => by unfold BL.liveAt; rw [(hk x).1]
  have hs : ∀ x, solidAt E (s.b.kill p) x ↔ solidAt E s.b x := fun x => (hk x).2.2.1
  have hp := h.post
  refine ⟨fun k => ?_, ⟨fun x => ?_, fun x y hx hy => h.inv.dist x y ((hs x).1 hx) ((hs y).1 hy), fun x hx => h.inv.live x ((hs x).1 hx), h.inv.ibd, fun x z hz => (hl z).2 (h.inv.nm x z ((hk x).2.2.2 z hz))⟩, fun k z hz => ?_, h.sz, df_kill p _ _ h.df, fun z hz => (hl z).2 (h.dn z (kill_locs p _ z hz).1),
    ⟨hp.le, hp.same, fun x hx hr => by rw [(hk x).2.1]; exact hp.kind x hx hr, hp.os, hp.tape, hp.output, hp.size, hp.old, fun x hx => hp.dom x ((hl x).1 hx), fun x hx => hp.new x ((hs x).1 hx), fun x hx => (hl x).2 (hp.keep x hx), hp.imm⟩⟩
  · show Rp E ((s.t.kill p).get k) _
    rw [al_kill_get]
    exact (rp_kill p _).1 _ (h.tmps k)
  · rw [bl_kill_get]
    have := h.inv.blk x
    cases hb : s.b.get x with
    | no => trivial
    | row _ _ _ => rw [hb] at this; exact this
    | cells c =>
      rw [hb] at this
      obtain ⟨l, e, h1, h2⟩ := this
      exact ⟨l, e, h1, (rp_kill p c).2.1 _ h2⟩
  · change ((s.t.kill p).get k).locs z at hz
    rw [al_kill_get] at hz
    exact (hl z).2 (h.tn k z (kill_locs p _ z hz).1)
theorem seg_take {xs ys cur : List Value} {sz n m i : Nat} (hx : xs.length = n * sz) (hc : cur.take ((n + m) * sz) = xs ++ ys) (hi : i < n + m) :
    (cur.drop (i * sz)).take sz = if i < n then (xs.drop (i * sz)).take sz else (ys.drop ((i - n) * sz)).take sz := by
  have h1 : (i + 1) * sz ≤ (n + m) * sz := Nat.mul_le_mul_right _ hi
  rw [Nat.add_mul, Nat.one_mul] at h1
  have h2 : (cur.drop (i * sz)).take sz = ((cur.take ((n + m) * sz)).drop (i * sz)).take sz := by
    rw [List.drop_take, List.take_take, Nat.min_eq_left (by omega)]
  rw [h2, hc]
  split
  · rename_i h
    have h3 : (i + 1) * sz ≤ n * sz := Nat.mul_le_mul_right _ h
    rw [Nat.add_mul, Nat.one_mul] at h3
    rw [List.drop_append_of_le_length (by omega), List.take_append_of_le_length (by rw [List.length_drop]; omega)]
  · rename_i h
    have h3 : n * sz ≤ i * sz := Nat.mul_le_mul_right _ (by omega)
    rw [List.drop_append, List.drop_eq_nil_of_le (by omega), List.nil_append, hx, Nat.sub_mul]
/-- What is appended, in the machine. -/
theorem ysee_sound {sz : Nat} (hI : Inv E s.b) {x : AV} {yv : Value} (hx : Rp E x yv) {m : Th Nat} {gy : Th Nat → AV} (hs : ysee s sz x = some (m, gy)) :
    ∃ news : List Value, news.length = m .o * sz ∧ (∀ j, j < m .o → (gy fun _ => j).okE ∧ ListC E (gy fun _ => j) ((news.drop (j * sz)).take sz)) ∧
      ((∃ a c, yv = .slice (some a) (m .o) c ∧ ∀ j u, news[j]? = some u → E.w.cell? (a.add j) = some u) ∨ (m .o = 0 ∧ ∃ c, yv = .slice none 0 c)) := by
  unfold ysee at hs
  split at hs
  · cases hs
    exact ⟨[], by simp, fun j hj => absurd hj (Nat.not_lt_zero _), .inr ⟨rfl, 0, hx⟩⟩
  · rename_i sz' n g
    split at hs
    · rename_i hsz
      have : sz = sz' := by simpa using hsz
      subst this
      cases hs
      obtain ⟨a, cap, rfl, _, h3⟩ := hx
      by_cases h0 : m .o = 0
      · cases a with
        | none => exact ⟨[], by simp [h0], fun j hj => absurd hj (by rw [h0]; exact Nat.not_lt_zero _), .inr ⟨h0, cap, by rw [h0]⟩⟩
        | some A => exact ⟨[], by simp [h0], fun j hj => absurd hj (by rw [h0]; exact Nat.not_lt_zero _), .inl ⟨A, cap, rfl, fun j u hj => by simp at hj⟩⟩
      · obtain ⟨_, b, o', ha, _⟩ := h3 0 (by omega)
        subst ha
        -- the elements, one behind the other
        have build : ∀ k, k ≤ m .o → ∃ l : List Value, l.length = k * sz ∧ (∀ j, j < k → ListC E (gy fun _ => j) ((l.drop (j * sz)).take sz)) ∧ ∀ j u, l[j]? = some u → E.w.cell? ⟨b, o' + j, none⟩ = some u := by
          intro k
          induction k with
          | zero => intro _; exact ⟨[], by simp, fun j hj => absurd hj (Nat.not_lt_zero _), fun j u hj => by simp at hj⟩
          | succ k ih =>
            intro hk
            obtain ⟨l, h4, h5, h6⟩ := ih (by omega)
            obtain ⟨⟨_, h7⟩, b1, o1, he, hm⟩ := h3 k (by omega)
            simp only [Option.some.injEq, Addr.mk.injEq] at he
            obtain ⟨rfl, rfl, _⟩ := he
            obtain ⟨l1, h8, h9⟩ := at_of_mem _ _ _ hm
            have h10 : l1.length = sz := by rw [← listC_len' h8]; exact h7
            refine ⟨l ++ l1, by rw [List.length_append, h4, h10, Nat.add_mul, Nat.one_mul], fun j hj => ?_, fun j u hj => ?_⟩
            · by_cases hjk : j < k
              · have h11 : (j + 1) * sz ≤ k * sz := Nat.mul_le_mul_right _ hjk
                rw [Nat.add_mul, Nat.one_mul] at h11
                rw [List.drop_append_of_le_length (by omega), List.take_append_of_le_length (by rw [List.length_drop]; omega)]
                exact h5 j hjk
              · have : j = k := by omega
                subst this
                rw [← h4, List.drop_left, ← h10, List.take_length]
                exact h8
            · rw [List.getElem?_append] at hj
              split at hj
              · exact h6 j u hj
              · rename_i hlt
                have := h9 _ u hj
                rw [← this]
                congr 2
                omega
        obtain ⟨news, h4, h5, h6⟩ := build _ (Nat.le_refl _)
        exact ⟨news, h4, fun j hj => ⟨(h3 j hj).1.1, h5 j hj⟩, .inl ⟨_, cap, rfl, fun j u hj => by rw [addr_add]; exact h6 j u hj⟩⟩
    · cases hs
  · rename_i d
    split at hs
    · rename_i sz' n g hb
      split at hs
      · rename_i hsz
        have : sz = sz' := by simpa using hsz
        subst this
        cases hs
        have hB := hI.blk d
        rw [hb] at hB
        rcases hB with ⟨h1, h2⟩ | ⟨cap, cur, e, h1, h2, h3, h4, h5, h6⟩
        · exact ⟨[], by simp [h2], fun j hj => absurd hj (by rw [h2]; exact Nat.not_lt_zero _), .inr ⟨h2, 0, hx.1.trans h1⟩⟩
        · have h7 : m .o * sz ≤ cap * sz := Nat.mul_le_mul_right _ h3
          refine ⟨cur.take (m .o * sz), by rw [List.length_take]; omega, fun j hj => ⟨(h6 j hj).1, ?_⟩, .inl ⟨_, cap, hx.1.trans h1, fun j u hj => ?_⟩⟩
          · have h8 : (j + 1) * sz ≤ m .o * sz := Nat.mul_le_mul_right _ hj
            rw [Nat.add_mul, Nat.one_mul] at h8
            rw [List.drop_take, List.take_take, Nat.min_eq_left (by omega)]
            exact (h6 j hj).2
          · rw [addr_add, Nat.zero_add, h2.cell]
            rw [List.getElem?_take] at hj
            split at hj
            · exact hj
            · cases hj
      · cases hs
    · cases hs
  · cases hs
theorem append_core (h : Rel C.N E0 B0 E s a) {p : Nat} (hp : (s.b.get p).isRow = true ∨ (¬ s.b.liveAt p ∧ p < 10000)) (hnm : ∀ k, ¬ (s.t.get k).locs p) (hnd : ¬ s.df.locs p) (hnb : ∀ x, ¬ (s.b.get x).locs p)
    {t ty e : TypeId} {i : TypeInfo} {z : Value} (ht : (C.P .o).underlying t = some (.slice e)) (hi : (C.P .o).info? e = some i) (hz : i.zero = some z) (hzs : z.cells.size = i.size) (hb : 0 < i.bytes)
    {v yv : Value} {n m : Th Nat} {g gy : Th Nat → AV} {xs news : List Value} {b : Nat} (hv : RowOk E.w i.size v (n .o) xs b) (hxl : xs.length = n .o * i.size) (hxe : ∀ j, j < n .o → (g fun _ => j).okE ∧ ListC E (g fun _ => j) ((xs.drop (j * i.size)).take i.size))
    (hvb : v ≠ nilV → solidAt E s.b p ∧ b = E.ρ p) (hvn : solidAt E s.b p → v ≠ nilV)
    (hl : news.length = m .o * i.size) (hne : ∀ j, j < m .o → (gy fun _ => j).okE ∧ ListC E (gy fun _ => j) ((news.drop (j * i.size)).take i.size))
    (hy : (∃ a c, yv = .slice (some a) (m .o) c ∧ ∀ j u, news[j]? = some u → E.w.cell? (a.add j) = some u) ∨ (m .o = 0 ∧ ∃ c, yv = .slice none 0 c)) (h1 : ∀ u ∈ news, u.oneCell' = true)
    (hroom : (n .o + m .o) * i.bytes ≤ 140737488355328) {n' : Th Nat} {g' : Th Nat → AV} (hn' : n' .o = n .o + m .o) (hg1 : ∀ j, j < n .o → Fits (g fun _ => j) (g' fun _ => j)) (hg2 : ∀ j, j < m .o → Fits (gy fun _ => j) (g' fun _ => n .o + j)) :
    ∃ v' E', (Builtin.append_ #[t, t] ty #[v, yv]).run (C.P .o) E.w = .ok v' E'.w ∧ E.Le E' ∧ E'.rv p = v' ∧ (∃ A N c, v' = .slice A N c) ∧ Rel C.N E0 B0 E' (s.put p (.row i.size n' g')) a := by
  obtain ⟨v', w', b', hrun, hrow, hgr, hnew⟩ := run_append_row ht hi hz hzs hv hxl hl hy h1 hroom hb (ty := ty)
  have hsl : ∃ A N c, v' = .slice A N c := by
    rcases hrow with ⟨h, _⟩ | ⟨cap, cur, e', h, _⟩
    · exact ⟨none, 0, 0, h⟩
    · exact ⟨_, _, _, h⟩
  obtain ⟨E', hw, hle, hρ, hrv, hR⟩ := h.move (w' := w') (rv' := v') (ρ' := b') (sz := i.size) (n' := n') (g' := g') hp (fun _ => trivial) hgr.os hgr.tape hgr.output hgr.size (fun k hk hs => hgr.old k hk fun hvv => by rw [(hvb hvv).2]; exact hs (hvb hvv).1)
    (fun hv' => (hnew hv').imp (fun ⟨h2, h3⟩ => ⟨(hvb h2).1, by rw [h3]; exact (hvb h2).2⟩) id) hnm hnd hnb (fun E' hw hle hρ hrv => by
      rcases hrow with ⟨h2, h3, _⟩ | ⟨cap, cur, e', h2, h3, h4, h5, h6, h7⟩
      · exact .inl ⟨by rw [hrv]; exact h2, by rw [hn']; exact h3⟩
      · refine .inr ⟨cap, cur, e', by rw [hrv, hρ, hn']; exact h2, by rw [hw, hρ]; exact h3, by rw [hn']; exact h4, h5, h6, fun j hj => ?_⟩
        rw [hn'] at hj
        rw [seg_take hxl h7 hj]
        split
        · rename_i hjn
          obtain ⟨h8, h9⟩ := hxe j hjn
          have h10 := (hg1 j hjn).ok h8
          exact ⟨h10, (rp_mono hle _ fun y hy => ((AV.still_locs _).1 h10.1 y hy).elim).2.1 _ ((hg1 j hjn).rp E _ h9)⟩
        · rename_i hjn
          have hjm : j - n .o < m .o := by omega
          obtain ⟨h8, h9⟩ := hne (j - n .o) hjm
          have h11 := hg2 (j - n .o) hjm
          rw [show n .o + (j - n .o) = j by omega] at h11
          have h10 := h11.ok h8
          exact ⟨h10, (rp_mono hle _ fun y hy => ((AV.still_locs _).1 h10.1 y hy).elim).2.1 _ (h11.rp E _ h9)⟩)
  exact ⟨v', E', by rw [hw]; exact hrun, hle, hrv, hsl, hR⟩
theorem scals_one : ∀ (c : AV) (l : List Value), ListC E c l → c.scals = true → ∀ u ∈ l, u.oneCell' = true := by
  intro c
  induction c with
  | nil => intro l hl _; rw [listC_nil.1 hl]; simp
  | cons p q _ ih =>
    intro l hl hs
    obtain ⟨y, r, rfl, h1, h2⟩ := listC_cons.1 hl
    unfold AV.scals at hs
    split at hs
    · rename_i hp
      intro u hu
      rcases List.mem_cons.1 hu with rfl | hu
      · exact rp_scal h1 hp
      · exact ih r h2 hs u hu
    · cases hs
  | _ => intro l hl _; simp only [ListC] at hl
theorem rows_one {news : List Value} {m sz : Nat} {gy : Th Nat → AV} (hl : news.length = m * sz) (h : ∀ j, j < m → (gy fun _ => j).okE ∧ ListC E (gy fun _ => j) ((news.drop (j * sz)).take sz)) : ∀ u ∈ news, u.oneCell' = true := by
  intro u hu
  obtain ⟨k, hk, rfl⟩ := List.getElem_of_mem hu
  have hsz : 0 < sz := by
    rcases Nat.eq_zero_or_pos sz with h0 | h0
    · subst h0; simp at hl; rw [hl] at hk; simp at hk
    · exact h0
  have hj : k / sz < m := by rw [Nat.div_lt_iff_lt_mul hsz]; omega
  obtain ⟨h1, h2⟩ := h (k / sz) hj
  refine scals_one _ _ h2 h1.2 _ ?_
  rw [List.mem_iff_getElem?]
  refine ⟨k % sz, ?_⟩
  rw [List.getElem?_take, if_pos (Nat.mod_lt _ hsz), List.getElem?_drop, Nat.mul_comm, Nat.div_add_mod]
  exact List.getElem?_eq_getElem hk
theorem append_sound (h : Rel C.N E0 B0 E s a) (hB0 : ∀ x, x < 10000 → ¬ B0.liveAt x) {args : Array Operand} {ts : Array TypeId} {x y : Operand} {x' y' : Opd} {t e : TypeId} {i : TypeInfo} {z : Value} (ho : o.op = .call { callee := .builtin .append, args := args, argTypes := ts })
    (hargs : args.toList = [x, y]) (hts : ts.toList = [t, t]) (ht : (C.P .o).underlying t = some (.slice e)) (hi : (C.P .o).info? e = some i) (hz : i.zero = some z) (hx : rOpd x = some x') (hy : rOpd y = some y') (hzs : z.cells.size = i.size) (hb : 0 < i.bytes)
    (hN : ∀ d, o.dst = some d → d < C.N) (ha : aop C (.append i.size i.bytes x' y') o.dst s K) (hk : UponOk C E0 B0 a K next Qc) : o.wp (C.P .o) a E.w next Qc := by
  have hrun : ∀ v w', (Builtin.append_ #[t, t] o.type #[a.eval x, a.eval y]).run (C.P .o) E.w = .ok v w' → (execOp a.eval o).run (C.P .o) E.w = .ok (.value v) w' := by
    intro v w' hr
    have h1 : args = #[x, y] := by apply Array.ext'; simpa using hargs
    have h2 : ts = #[t, t] := by apply Array.ext'; simpa using hts
    unfold execOp
    simp only [ho, h1, h2, resolve, Sem.run_bind, Sem.run_pure, Result.andThen_ok, invoke, builtin]
    simp only [List.map_toArray, List.map_cons, List.map_nil] at hr ⊢
    rw [hr]
    rfl
  have hxs := opd_sound h.si hx
  have hys := opd_sound h.si hy
  simp only [aop] at ha
  split at ha
  rotate_left
  · exact ha.elim
  rename_i d m gy hd hsee
  obtain ⟨news, hl, hne, hyv⟩ := ysee_sound h.inv hys hsee
  have hone := rows_one hl hne
  split at ha
  · rename_i hxe
    rw [hxe] at hxs
    split at ha
    · rename_i hfr
      obtain ⟨hdead, hlt⟩ := fresh_spec hfr
      obtain ⟨n', g', hn', hg1, hg2, hK⟩ := ha.ex
      have hnoT : ∀ k, ¬ (s.t.get k).locs d := fun k hk' => hdead (h.tn k d hk')
      have hsn : ¬ solidAt E s.b d := fun hs => hdead (solid_live hs)
      obtain ⟨v', E', hr, hle, hrv, hsl, hR⟩ := append_core (ty := o.type) (b := 0) (xs := []) (n := fun _ => 0) (g := fun _ => .nil) (v := a.eval x) (yv := a.eval y) (news := news) (m := m) (gy := gy) (n' := n') (g' := g') h (.inr ⟨hdead, hlt⟩) hnoT (fun hd' => hdead (h.dn d hd')) (fun k hk' => hdead (h.inv.nm k d hk')) ht hi hz hzs hb
        (.inl ⟨hxs, rfl, rfl⟩) (by simp) (fun j hj => absurd hj (Nat.not_lt_zero _)) (fun hv => (hv hxs).elim) (fun hs => (hsn hs).elim) hl hne hyv hone ha.room hn' hg1 hg2
      unfold Oper.wp
      rw [hrun _ _ hr]
      show next (a.put o.dst _) _
      rw [hd]
      refine hk.1 E' _ _ (hR.value hB0 (dst := some d) (v := .row d) (x := v') (fun d' he => by cases he; exact hN d hd) ⟨hrv.symm, hsl⟩ fun y hy' => ?_) hK
      have : y = d := hy'
      subst this
      simp [BL.liveAt, St.put, BL.get_cons, Blk.live]
    · exact ha.elim
  · rename_i p hxe
    rw [hxe] at hxs
    split at ha
    rotate_left
    · exact ha.elim
    rename_i sz' n g hbp hpl
    split at ha
    rotate_left
    · exact ha.elim
    rename_i hsz
    have hsz' : i.size = sz' := by simpa using hsz
    subst hsz'
    obtain ⟨n', g', hn', hg1, hg2, hK⟩ := ha.ex
    have hB := h.inv.blk p
    rw [hbp] at hB
    have hkill := h.kill p
    have hpk : (s.b.kill p).get p = .row i.size n g := by rw [bl_kill_get, hbp]; rfl
    have hsolp : solidAt E (s.b.kill p) p ↔ E.rv p ≠ nilV := by unfold solidAt; rw [hpk]; exact Iff.rfl
    have hvx : a.eval x = E.rv p := hxs.1
    have hrow : ∃ xs, RowOk E.w i.size (a.eval x) (n .o) xs (E.ρ p) ∧ xs.length = n .o * i.size ∧ ∀ j, j < n .o → (g fun _ => j).okE ∧ ListC E (g fun _ => j) ((xs.drop (j * i.size)).take i.size) := by
      rw [hvx]
      rcases hB with ⟨h1, h2⟩ | ⟨cap, cur, e', h1, h2, h3, h4, h5, h6⟩
      · exact ⟨[], .inl ⟨h1, h2, rfl⟩, by simp [h2], fun j hj => absurd hj (by rw [h2]; exact Nat.not_lt_zero _)⟩
      · have h7 : n .o * i.size ≤ cap * i.size := Nat.mul_le_mul_right _ h3
        refine ⟨cur.take (n .o * i.size), .inr ⟨cap, cur, e', h1, h2, h3, h4, h5, rfl⟩, by rw [List.length_take]; omega, fun j hj => ⟨(h6 j hj).1, ?_⟩⟩
        have h8 : (j + 1) * i.size ≤ n .o * i.size := Nat.mul_le_mul_right _ hj
        rw [Nat.add_mul, Nat.one_mul] at h8
        rw [List.drop_take, List.take_take, Nat.min_eq_left (by omega)]
        exact (h6 j hj).2
    obtain ⟨xs, hr1, hr2, hr3⟩ := hrow
    obtain ⟨v', E', hr, hle, hrv, hsl, hR⟩ := append_core (ty := o.type) (b := E.ρ p) (xs := xs) (n := n) (g := g) (v := a.eval x) (yv := a.eval y) (news := news) (m := m) (gy := gy) (n' := n') (g' := g') hkill (p := p) (.inl (by rw [hpk]; rfl))
      (fun k hk' => by rw [al_kill_get] at hk'; exact (kill_locs p _ p hk').2 rfl) (fun hd' => (kill_locs p _ p hd').2 rfl)
      (fun k hk' => by
        rw [bl_kill_get] at hk'
        cases hb' : s.b.get k with
        | cells c => rw [hb'] at hk'; exact (kill_locs p c p hk').2 rfl
        | no => rw [hb'] at hk'; exact hk'
        | row _ _ _ => rw [hb'] at hk'; exact hk') ht hi hz hzs hb hr1 hr2 hr3 (fun hv => ⟨hsolp.2 (by rw [← hvx]; exact hv), rfl⟩) (fun hs => by rw [hvx]; exact hsolp.1 hs) hl hne hyv hone ha.room hn' hg1 hg2
    unfold Oper.wp
    rw [hrun _ _ hr]
    show next (a.put o.dst _) _
    rw [hd]
    refine hk.1 E' _ _ (hR.value hB0 (dst := some d) (v := .row p) (x := v') (fun d' he => by cases he; exact hN d hd) ⟨hrv.symm, hsl⟩ fun y hy' => ?_) hK
    have : y = p := hy'
    subst this
    simp [BL.liveAt, St.put, BL.get_cons, Blk.live]
  · exact ha.elim
/-- A row's elements as a list. -/
theorem row_list {E : Env} {p sz : Nat} {n : Th Nat} {g : Th Nat → AV} (hB : BlkRp E p (.row sz n g)) : ∃ xs, RowOk E.w sz (E.rv p) (n .o) xs (E.ρ p) ∧ xs.length = n .o * sz ∧ ∀ j, j < n .o → (g fun _ => j).okE ∧ ListC E (g fun _ => j) ((xs.drop (j * sz)).take sz) := by
  rcases hB with ⟨h1, h2⟩ | ⟨cap, cur, e', h1, h2, h3, h4, h5, h6⟩
  · exact ⟨[], .inl ⟨h1, h2, rfl⟩, by simp [h2], fun j hj => absurd hj (by rw [h2]; exact Nat.not_lt_zero _)⟩
  · have h7 : n .o * sz ≤ cap * sz := Nat.mul_le_mul_right _ h3
    refine ⟨cur.take (n .o * sz), .inr ⟨cap, cur, e', h1, h2, h3, h4, h5, rfl⟩, by rw [List.length_take]; omega, fun j hj => ⟨(h6 j hj).1, ?_⟩⟩
    have h8 : (j + 1) * sz ≤ n .o * sz := Nat.mul_le_mul_right _ hj
    rw [Nat.add_mul, Nat.one_mul] at h8
    rw [List.drop_take, List.take_take, Nat.min_eq_left (by omega)]
    exact (h6 j hj).2
/-- A row that has come to stand elsewhere, maybe: what is told of it. -/
theorem grow_core (h : Rel C.N E0 B0 E s a) {p sz : Nat} (hp : (s.b.get p).isRow = true ∨ (¬ s.b.liveAt p ∧ p < 10000)) (hnm : ∀ k, ¬ (s.t.get k).locs p) (hnd : ¬ s.df.locs p) (hnb : ∀ x, ¬ (s.b.get x).locs p)
    {v v' : Value} {b b' : Nat} {w' : World} {xs' : List Value} (hvb : v ≠ nilV → solidAt E s.b p ∧ b = E.ρ p) {n' : Th Nat} {g' : Th Nat → AV}
    (hrow : RowOk w' sz v' (n' .o) xs' b') (hgr : Grown E.w w' v b) (hnew : v' ≠ nilV → (v ≠ nilV ∧ b' = b) ∨ (E.w.heap.size ≤ b' ∧ b' < w'.heap.size))
    (hel : ∀ j, j < n' .o → (g' fun _ => j).okE ∧ ListC E (g' fun _ => j) ((xs'.drop (j * sz)).take sz)) :
    ∃ E', E'.w = w' ∧ E.Le E' ∧ E'.rv p = v' ∧ (∃ A N c, v' = .slice A N c) ∧ Rel C.N E0 B0 E' (s.put p (.row sz n' g')) a := by
  have hsl : ∃ A N c, v' = .slice A N c := by
    rcases hrow with ⟨h, _⟩ | ⟨cap, cur, e', h, _⟩
    · exact ⟨none, 0, 0, h⟩
    · exact ⟨_, _, _, h⟩
  obtain ⟨E', hw, hle, hρ, hrv, hR⟩ := h.move (w' := w') (rv' := v') (ρ' := b') (sz := sz) (n' := n') (g' := g') hp (fun _ => trivial) hgr.os hgr.tape hgr.output hgr.size (fun k hk hs => hgr.old k hk fun hvv => by rw [(hvb hvv).2]; exact hs (hvb hvv).1)
    (fun hv' => (hnew hv').imp (fun ⟨h2, h3⟩ => ⟨(hvb h2).1, by rw [h3]; exact (hvb h2).2⟩) id) hnm hnd hnb (fun E' hw hle hρ hrv => by
      rcases hrow with ⟨h2, h3, _⟩ | ⟨cap, cur, e', h2, h3, h4, h5, h6, h7⟩
      · exact .inl ⟨by rw [hrv]; exact h2, h3⟩
      · refine .inr ⟨cap, cur, e', by rw [hrv, hρ]; exact h2, by rw [hw, hρ]; exact h3, h4, h5, h6, fun j hj => ?_⟩
        obtain ⟨h8, h9⟩ := hel j hj
        have h10 : (j + 1) * sz ≤ n' .o * sz := Nat.mul_le_mul_right _ hj
        rw [Nat.add_mul, Nat.one_mul] at h10
        rw [← h7, List.drop_take, List.take_take, Nat.min_eq_left (by omega)] at h9
        exact ⟨h8, (rp_mono hle _ fun y hy => ((AV.still_locs _).1 h8.1 y hy).elim).2.1 _ h9⟩)
  exact ⟨E', hw, hle, hrv, hsl, hR⟩
theorem bytes_news (t : List UInt8) : (Lib.strCells ⟨t.toArray⟩).length = t.length ∧ ∀ (E : Env) (f : Th (List UInt8)), f .o = t → ∀ j, j < t.length → (byteRow f fun _ => j).okE ∧ ListC E (byteRow f fun _ => j) (((Lib.strCells ⟨t.toArray⟩).drop (j * 1)).take 1) := by
  have hl : (Lib.strCells ⟨t.toArray⟩).length = t.length := by simp [Lib.strCells]
  refine ⟨hl, fun E f hf j hj => ⟨⟨⟨trivial, trivial⟩, rfl⟩, ?_⟩⟩
  have h1 : j * 1 < (Lib.strCells ⟨t.toArray⟩).length := by omega
  rw [List.drop_eq_getElem_cons h1, List.take_succ_cons, List.take_zero]
  refine ⟨_, _, rfl, ?_, rfl⟩
  show _ = Value.int .u8 (zi ((f .o).getD j 0).toNat)
  simp only [Lib.strCells, Nat.mul_one, List.getElem_map, hf, List.getD_eq_getElem?_getD, List.getElem?_eq_getElem hj, Option.getD_some, zi]
theorem appS_core (h : Rel C.N E0 B0 E s a) {p : Nat} (hp : (s.b.get p).isRow = true ∨ (¬ s.b.liveAt p ∧ p < 10000)) (hnm : ∀ k, ¬ (s.t.get k).locs p) (hnd : ¬ s.df.locs p) (hnb : ∀ x, ¬ (s.b.get x).locs p)
    {t u ty e : TypeId} {i : TypeInfo} {z : Value} (ht : (C.P .o).underlying t = some (.slice e)) (hu : (C.P .o).underlying u = some .string) (hi : (C.P .o).info? e = some i) (hz : i.zero = some z) (hzs : z.cells.size = i.size) (h1z : i.size = 1) (hb : i.bytes = 1)
    {v : Value} {n : Th Nat} {g : Th Nat → AV} {xs : List Value} {b : Nat} (hv : RowOk E.w 1 v (n .o) xs b) (hxl : xs.length = n .o * 1) (hxe : ∀ j, j < n .o → (g fun _ => j).okE ∧ ListC E (g fun _ => j) ((xs.drop (j * 1)).take 1))
    (hvb : v ≠ nilV → solidAt E s.b p ∧ b = E.ρ p) (st : Th (List UInt8))
    (hroom : (n .o + (st .o).length) * 1 ≤ 140737488355328) {n' : Th Nat} {g' : Th Nat → AV} (hn' : n' .o = n .o + (st .o).length) (hg1 : ∀ j, j < n .o → Fits (g fun _ => j) (g' fun _ => j)) (hg2 : ∀ j, j < (st .o).length → Fits (byteRow st fun _ => j) (g' fun _ => n .o + j)) :
    ∃ v' E', (Builtin.append_ #[t, u] ty #[v, .string ⟨(st .o).toArray⟩]).run (C.P .o) E.w = .ok v' E'.w ∧ E.Le E' ∧ E'.rv p = v' ∧ (∃ A N c, v' = .slice A N c) ∧ Rel C.N E0 B0 E' (s.put p (.row 1 n' g')) a := by
  have hss : (⟨(st .o).toArray⟩ : ByteArray).size = (st .o).length := by simp [ByteArray.size]
  obtain ⟨v', w', b', hrun, hrow, hgr, hnew⟩ := run_append_rowS (ty := ty) ht hu hi hz hzs h1z (by rw [h1z]; exact hv) (by rw [h1z]; exact hxl) ⟨(st .o).toArray⟩ (by rw [hss, hb]; exact hroom) (by omega)
  obtain ⟨hnl, hne⟩ := bytes_news (st .o)
  rw [hss, h1z] at hrow
  have hrow' : RowOk w' 1 v' (n' .o) (xs ++ Lib.strCells ⟨(st .o).toArray⟩) b' := by rw [hn']; exact hrow
  obtain ⟨E', hw, hle, hrv, hsl, hR⟩ := grow_core h hp hnm hnd hnb hvb hrow' hgr hnew (fun j hj => by
    rw [hn'] at hj
    have hxl' : xs.length = n .o := by omega
    by_cases hjn : j < n .o
    · obtain ⟨h8, h9⟩ := hxe j hjn
      rw [List.drop_append_of_le_length (by omega), List.take_append_of_le_length (by rw [List.length_drop]; omega)]
      exact ⟨(hg1 j hjn).ok h8, (hg1 j hjn).rp E _ h9⟩
    · have hjm : j - n .o < (st .o).length := by omega
      obtain ⟨h8, h9⟩ := hne E st rfl (j - n .o) hjm
      have h11 := hg2 (j - n .o) hjm
      rw [show n .o + (j - n .o) = j by omega] at h11
      rw [List.drop_append, List.drop_eq_nil_of_le (by omega), List.nil_append, show j * 1 - xs.length = (j - n .o) * 1 by omega]
      exact ⟨h11.ok h8, h11.rp E _ h9⟩)
  exact ⟨v', E', by rw [hw]; exact hrun, hle, hrv, hsl, hR⟩
theorem appS_sound (h : Rel C.N E0 B0 E s a) (hB0 : ∀ x, x < 10000 → ¬ B0.liveAt x) {args : Array Operand} {ts : Array TypeId} {x y : Operand} {x' y' : Opd} {t u e : TypeId} {i : TypeInfo} {z : Value} (ho : o.op = .call { callee := .builtin .append, args := args, argTypes := ts })
    (hargs : args.toList = [x, y]) (hts : ts.toList = [t, u]) (ht : (C.P .o).underlying t = some (.slice e)) (hu : (C.P .o).underlying u = some .string) (hi : (C.P .o).info? e = some i) (hz : i.zero = some z) (hx : rOpd x = some x') (hy : rOpd y = some y') (hzs : z.cells.size = i.size) (h1z : i.size = 1) (hb : i.bytes = 1)
    (hN : ∀ d, o.dst = some d → d < C.N) (ha : aop C (.appS x' y') o.dst s K) (hk : UponOk C E0 B0 a K next Qc) : o.wp (C.P .o) a E.w next Qc := by
  have hrun : ∀ v w', (Builtin.append_ #[t, u] o.type #[a.eval x, a.eval y]).run (C.P .o) E.w = .ok v w' → (execOp a.eval o).run (C.P .o) E.w = .ok (.value v) w' := by
    intro v w' hr
    have h1 : args = #[x, y] := by apply Array.ext'; simpa using hargs
    have h2 : ts = #[t, u] := by apply Array.ext'; simpa using hts
    unfold execOp
    simp only [ho, h1, h2, resolve, Sem.run_bind, Sem.run_pure, Result.andThen_ok, invoke, builtin]
    simp only [List.map_toArray, List.map_cons, List.map_nil] at hr ⊢
    rw [hr]
    rfl
  have hxs := opd_sound h.si hx
  have hys := opd_sound h.si hy
  simp only [aop] at ha
  split at ha
  rotate_left
  · exact ha.elim
  rename_i d st hd hst
  rw [hst] at hys
  have hys : a.eval y = .string ⟨(st .o).toArray⟩ := hys
  rw [hys] at hrun
  split at ha
  · rename_i hxe
    rw [hxe] at hxs
    split at ha
    · rename_i hfr
      obtain ⟨hdead, hlt⟩ := fresh_spec hfr
      obtain ⟨n', g', hn', hg1, hg2, hK⟩ := ha.ex
      have hnoT : ∀ k, ¬ (s.t.get k).locs d := fun k hk' => hdead (h.tn k d hk')
      have hsn : ¬ solidAt E s.b d := fun hs => hdead (solid_live hs)
      obtain ⟨v', E', hr, hle, hrv, hsl, hR⟩ := appS_core (ty := o.type) (b := 0) (xs := []) (n := fun _ => 0) (g := fun _ => .nil) (v := a.eval x) (n' := n') (g' := g') h (.inr ⟨hdead, hlt⟩) hnoT (fun hd' => hdead (h.dn d hd')) (fun k hk' => hdead (h.inv.nm k d hk')) ht hu hi hz hzs h1z hb
        (.inl ⟨hxs, rfl, rfl⟩) (by simp) (fun j hj => absurd hj (Nat.not_lt_zero _)) (fun hv => (hv hxs).elim) st ha.room hn' hg1 hg2
      unfold Oper.wp
      rw [hrun _ _ hr]
      show next (a.put o.dst _) _
      rw [hd]
      refine hk.1 E' _ _ (hR.value hB0 (dst := some d) (v := .row d) (x := v') (fun d' he => by cases he; exact hN d hd) ⟨hrv.symm, hsl⟩ fun y hy' => ?_) hK
      have : y = d := hy'
      subst this
      simp [BL.liveAt, St.put, BL.get_cons, Blk.live]
    · exact ha.elim
  · rename_i p hxe
    rw [hxe] at hxs
    split at ha
    rotate_left
    · exact ha.elim
    rename_i sz' n g hbp
    split at ha
    rotate_left
    · exact ha.elim
    rename_i hsz
    have hsz' : sz' = 1 := by simpa using hsz
    subst hsz'
    obtain ⟨n', g', hn', hg1, hg2, hK⟩ := ha.ex
    have hB := h.inv.blk p
    rw [hbp] at hB
    have hkill := h.kill p
    have hpk : (s.b.kill p).get p = .row 1 n g := by rw [bl_kill_get, hbp]; rfl
    have hsolp : solidAt E (s.b.kill p) p ↔ E.rv p ≠ nilV := by unfold solidAt; rw [hpk]; exact Iff.rfl
    have hvx : a.eval x = E.rv p := hxs.1
    have hrow : ∃ xs, RowOk E.w 1 (a.eval x) (n .o) xs (E.ρ p) ∧ xs.length = n .o * 1 ∧ ∀ j, j < n .o → (g fun _ => j).okE ∧ ListC E (g fun _ => j) ((xs.drop (j * 1)).take 1) := by
      rw [hvx]
      exact row_list hB
    obtain ⟨xs, hr1, hr2, hr3⟩ := hrow
    obtain ⟨v', E', hr, hle, hrv, hsl, hR⟩ := appS_core (ty := o.type) (b := E.ρ p) (xs := xs) (n := n) (g := g) (v := a.eval x) (n' := n') (g' := g') hkill (p := p) (.inl (by rw [hpk]; rfl))
      (fun k hk' => by rw [al_kill_get] at hk'; exact (kill_locs p _ p hk').2 rfl) (fun hd' => (kill_locs p _ p hd').2 rfl)
      (fun k hk' => by
        rw [bl_kill_get] at hk'
        cases hb' : s.b.get k with
        | cells c => rw [hb'] at hk'; exact (kill_locs p c p hk').2 rfl
        | no => rw [hb'] at hk'; exact hk'
        | row _ _ _ => rw [hb'] at hk'; exact hk') ht hu hi hz hzs h1z hb hr1 hr2 hr3 (fun hv => ⟨hsolp.2 (by rw [← hvx]; exact hv), rfl⟩) st ha.room hn' hg1 hg2
    unfold Oper.wp
    rw [hrun _ _ hr]
    show next (a.put o.dst _) _
    rw [hd]
    refine hk.1 E' _ _ (hR.value hB0 (dst := some d) (v := .row p) (x := v') (fun d' he => by cases he; exact hN d hd) ⟨hrv.symm, hsl⟩ fun y hy' => ?_) hK
    have : y = p := hy'
    subst this
    simp [BL.liveAt, St.put, BL.get_cons, Blk.live]
  · exact ha.elim
/-- A local array sliced, all of it: it is shut for good. -/
theorem sliceA_sound (h : Rel C.N E0 B0 E s a) (hB0 : ∀ x, x < 10000 → ¬ B0.liveAt x) {t e : TypeId} {len : Nat} {x : Operand} {x' : Opd} {i : TypeInfo} (ho : o.op = .slice t x none none none) (hu : (C.P .o).underlying t = some (.array len e)) (hi : (C.P .o).info? e = some i) (hx : rOpd x = some x') (h0 : 0 < len)
    (hN : ∀ d, o.dst = some d → d < C.N) (ha : aop C (.sliceA i.size len x') o.dst s K) (hk : UponOk C E0 B0 a K next Qc) : o.wp (C.P .o) a E.w next Qc := by
  have hxs := opd_sound h.si hx
  simp only [aop] at ha
  split at ha
  rotate_left
  · exact ha.elim
  rename_i d off hxe
  rw [hxe] at hxs
  split at ha
  rotate_left
  · exact ha.elim
  rename_i sz' n g hb
  split at ha
  rotate_left
  · exact ha.elim
  rename_i hsz hoff hlt
  have hsz' : i.size = sz' := by simpa using hsz
  have hoff' : off = 0 := by simpa using hoff
  have hlt' : d < 10000 := by simpa [ltB] using hlt
  subst hsz'
  subst hoff'
  obtain ⟨hn, hK⟩ := ha
  have hn := hn trivial
  obtain ⟨E', hw, hle, hρ, hrv, hR, hsl⟩ := h.shut1v hB0 d
  have hbl := h.inv.blk d
  rw [hb] at hbl
  have hv : a.eval x = .pointer (some ⟨E.ρ d, 0, none⟩) := hxs
  have hrp : Rp E' (.sl i.size n g) (.slice (some ⟨E.ρ d, 0, none⟩) len len) := by
    rcases hbl with ⟨h1, h2⟩ | ⟨cap, cur, e', h1, h2, h3, h4, h5, h6⟩
    · omega
    · obtain ⟨A, cp, k1, k2, k3⟩ := hsl _ _ _ hb hlt' (E.rv d) ⟨rfl, _, _, _, h1⟩
      rw [h1] at k1
      cases k1
      exact ⟨_, len, by rw [hn], by rw [hn]; exact Nat.le_refl _, k3⟩
  have hrun : (execOp a.eval o).run (C.P .o) E.w = .ok (.value (.slice (some ⟨E.ρ d, 0, none⟩) len len)) E.w := by
    have e1 : (C.P .o).arrayLen t = len := by simp [Program.arrayLen, hu]
    have e2 : (C.P .o).elem t = e := by simp [Program.elem, hu]
    have := run_sliceAt_array_all (P := C.P .o) E.w t ⟨E.ρ d, 0, none⟩ (by rw [e1, e2]; exact hu)
    rw [e1, e2, run_sizeOf hi] at this
    unfold execOp
    simp only [ho, Option.map_none, hv]
    rw [run_valueOf, this]
    simp [slicedAt, addr_add]
  unfold Oper.wp
  rw [hrun]
  show next (a.put o.dst _) _
  rw [← hw]
  exact hk.1 E' _ _ (hR.value hB0 hN (v := .sl i.size n g) hrp fun y hy => hy.elim) hK
theorem isNil_sound (h : Rel C.N E0 B0 E s a) (hB0 : ∀ x, x < 10000 → ¬ B0.liveAt x) {op : BinOp} {e : Bool} {t el yt : TypeId} {x : Operand} {x' : Opd} (ho : o.op = .binOp op t x (.const (.slice none 0 0)) yt) (he : isEql op = some e) (hu : (C.P .o).underlying t = some (.slice el)) (hx : rOpd x = some x')
    (hN : ∀ d, o.dst = some d → d < C.N) (ha : aop C (.isNil e x') o.dst s K) (hk : UponOk C E0 B0 a K next Qc) : o.wp (C.P .o) a E.w next Qc := by
  have hxs := opd_sound h.si hx
  have run : ∀ (A : Option Addr) (n c : Nat), a.eval x = .slice A n c → (execOp a.eval o).run (C.P .o) E.w = .ok (.value (.bool (if e = true then A.isNone else !A.isNone))) E.w := by
    intro A n c hv
    unfold execOp
    simp only [ho]
    have hey : a.eval (.const (.slice none 0 0)) = .slice none 0 0 := rfl
    rw [hv, hey]
    refine value_of (run_eqs he (b := A.isNone) (by unfold eqGuard; cases op <;> simp) (by simp) (by simp) (by simp) (by simp) ?_)
    rw [equal_eq]
    generalize 9999 = d
    cases A <;> simp [Op.equalIn, run_underlying hu]
  have fin : ∀ (A : Option Addr) (n c : Nat) (v : AV), a.eval x = .slice A n c → Rp E v (.bool (if e = true then A.isNone else !A.isNone)) → (∀ y, ¬ v.locs y) → K (s.setO o.dst v) → o.wp (C.P .o) a E.w next Qc := by
    intro A n c v hv hr hl hK
    unfold Oper.wp
    rw [run A n c hv]
    exact hk.1 E _ _ (h.value hB0 hN hr fun y hy => (hl y hy).elim) hK
  have hbool : ∀ A : Option Addr, (if e = true then A.isNone else !A.isNone) = e → A = none := by
    intro A q
    cases e <;> cases A <;> simp at q ⊢
  simp only [aop] at ha
  split at ha
  · rename_i hv
    rw [hv] at hxs
    refine fin none 0 0 _ hxs ?_ ?_ ha
    · cases e <;> rfl
    · cases e <;> exact fun y hy => hy.elim
  · rename_i sz n g hv
    rw [hv] at hxs
    obtain ⟨A, cap, h1, h2, h3⟩ := hxs
    refine fin A (n .o) cap (.bool fun _ => if e = true then A.isNone else !A.isNone) h1 rfl (fun y hy => hy.elim) (ha _ fun q => ?_)
    have hA := hbool A q
    rcases Nat.eq_zero_or_pos (n .o) with h0 | h0
    · exact h0
    · obtain ⟨_, b, off, h4, _⟩ := h3 0 h0
      rw [hA] at h4; cases h4
  · rename_i p hv
    rw [hv] at hxs
    split at ha
    · rename_i sz n g hb
      have hbl := h.inv.blk p
      rw [hb] at hbl
      rcases hbl with ⟨h1, h2⟩ | ⟨cap, cur, ee, h1, _⟩
      · exact fin none 0 0 (.bool fun _ => if e = true then (none : Option Addr).isNone else !(none : Option Addr).isNone) (hxs.1.trans h1) rfl (fun y hy => hy.elim) (ha _ fun _ => h2)
      · exact fin (some ⟨E.ρ p, 0, none⟩) (n .o) cap (.bool fun _ => if e = true then (some (⟨E.ρ p, 0, none⟩ : Addr)).isNone else !(some (⟨E.ρ p, 0, none⟩ : Addr)).isNone) (hxs.1.trans h1) rfl (fun y hy => hy.elim) (ha _ fun q => by have := hbool _ q; cases this)
    · exact ha.elim
  · exact ha.elim
theorem seg_clr {α : Type} {cur z : List α} {sz lo n j : Nat} (hz : z.length = sz) (hl : (lo + n) * sz ≤ cur.length) (h1 : lo ≤ j) (h2 : j < lo + n) :
    ((cur.take (lo * sz) ++ (List.replicate n z).flatten ++ cur.drop (lo * sz + (List.replicate n z).flatten.length)).drop (j * sz)).take sz = z := by
  have hs := rep_seg hz (m := n) (j := j - lo) (by omega)
  have hfl : (List.replicate n z).flatten.length = n * sz := by simp [List.length_flatten, hz]
  have hj : j * sz = lo * sz + (j - lo) * sz := by rw [← Nat.add_mul]; congr 1; omega
  have hk : (j - lo) * sz + sz ≤ n * sz := by rw [← Nat.succ_mul]; exact Nat.mul_le_mul_right _ (by omega)
  rw [Nat.add_mul] at hl
  rw [hj]
  conv => rhs; rw [← hs]
  rw [hfl]
  generalize (j - lo) * sz = K at hk ⊢
  generalize (List.replicate n z).flatten = B at hfl ⊢
  generalize lo * sz = L at hl ⊢
  generalize n * sz = M at hfl hk hl ⊢
  apply List.ext_getElem?
  intro k
  simp only [List.getElem?_take, List.getElem?_drop, List.getElem?_append, List.length_append, List.length_take, List.length_drop]
  repeat' split
  all_goals first | omega | rfl | (congr 1; omega) | (symm; apply List.getElem?_eq_none; omega) | (apply List.getElem?_eq_none; omega)
theorem seg_far {α : Type} {cur vals : List α} {sz lo n j : Nat} (hv : vals.length = n * sz) (hl : (lo + n) * sz ≤ cur.length) (hj : j < lo ∨ lo + n ≤ j) :
    ((cur.take (lo * sz) ++ vals ++ cur.drop (lo * sz + vals.length)).drop (j * sz)).take sz = (cur.drop (j * sz)).take sz := by
  have hc : j * sz + sz ≤ lo * sz ∨ lo * sz + n * sz ≤ j * sz := by
    rcases hj with q | q
    · left; have := Nat.mul_le_mul_right sz q; rw [Nat.succ_mul] at this; exact this
    · right; have := Nat.mul_le_mul_right sz q; rw [Nat.add_mul] at this; exact this
  rw [Nat.add_mul] at hl
  rw [hv]
  generalize lo * sz = L at hl hc ⊢
  generalize n * sz = M at hv hl hc ⊢
  generalize j * sz = J at hc ⊢
  apply List.ext_getElem?
  intro k
  simp only [List.getElem?_take, List.getElem?_drop, List.getElem?_append, List.length_append, List.length_take, List.length_drop]
  repeat' split
  all_goals first | omega | rfl | (congr 1; omega) | (symm; apply List.getElem?_eq_none; omega) | (apply List.getElem?_eq_none; omega)
theorem zeroCells_eq {z : Array Value} (n : Nat) (hz : z.size ≠ 0) : (Builtin.zeroCells z n).toList = (List.replicate n z.toList).flatten := by
  unfold Builtin.zeroCells
  exact range_zero z n hz
/-- A row told otherwise. -/
theorem Rel.reblk (h : Rel C.N E0 B0 E s a) {b sz sz' : Nat} {m m' : Th Nat} {g g' : Th Nat → AV} (hb : s.b.get b = .row sz m g) (hc : BlkRp E b (.row sz m g) → BlkRp E b (.row sz' m' g')) :
    Rel C.N E0 B0 E (s.put b (.row sz' m' g')) a := by
  have hget : ∀ x, (BL.cons b (.row sz' m' g') s.b).get x = if b = x then .row sz' m' g' else s.b.get x := fun x => rfl
  have hlv : ∀ x, (BL.cons b (.row sz' m' g') s.b).liveAt x ↔ s.b.liveAt x := by
    intro x
    unfold BL.liveAt
    rw [hget]
    split
    · rename_i e; subst e; rw [hb]; exact Iff.rfl
    · exact Iff.rfl
  have hsol : ∀ x, solidAt E (BL.cons b (.row sz' m' g') s.b) x ↔ solidAt E s.b x := by
    intro x
    unfold solidAt
    rw [hget]
    split
    · rename_i e; subst e; rw [hb]; exact Iff.rfl
    · exact Iff.rfl
  have hp := h.post
  refine ⟨h.tmps, ⟨fun x => ?_, fun x y hx hy => h.inv.dist x y ((hsol x).1 hx) ((hsol y).1 hy), fun x hx => h.inv.live x ((hsol x).1 hx), h.inv.ibd, fun x z hz => ?_⟩, fun k z hz => (hlv z).2 (h.tn k z hz), h.sz, h.df, fun z hz => (hlv z).2 (h.dn z hz),
    ⟨hp.le, hp.same, fun x hx hr => ?_, hp.os, hp.tape, hp.output, hp.size, hp.old, fun x hx => hp.dom x ((hlv x).1 hx), fun x hx => hp.new x ((hsol x).1 hx), fun x hx => (hlv x).2 (hp.keep x hx), hp.imm⟩⟩
  · show BlkRp E x ((BL.cons b (.row sz' m' g') s.b).get x)
    rw [hget]
    split
    · rename_i e
      subst e
      have := h.inv.blk b
      rw [hb] at this
      exact hc this
    · exact h.inv.blk x
  · have hz : ((BL.cons b (.row sz' m' g') s.b).get x).locs z := hz
    rw [hget] at hz
    split at hz
    · exact hz.elim
    · exact (hlv z).2 (h.inv.nm x z hz)
  · show ((BL.cons b (.row sz' m' g') s.b).get x).isRow = false
    rw [hget]
    split
    · rename_i e
      subst e
      have := hp.kind b hx hr
      rw [hb] at this
      cases this
    · exact hp.kind x hx hr
theorem clr_sound (h : Rel C.N E0 B0 E s a) (hB0 : ∀ x, x < 10000 → ¬ B0.liveAt x) {args : Array Operand} {ts : Array TypeId} {x : Operand} {x' : Opd} {t e : TypeId} {i : TypeInfo} {z : Value} {c : AV}
    (ho : o.op = .call { callee := .builtin .clear, args := args, argTypes := ts }) (hargs : args.toList = [x]) (hts : ts.toList = [t]) (hu : (C.P .o).underlying t = some (.slice e)) (hi : (C.P .o).info? e = some i) (hz : i.zero = some z) (hx : rOpd x = some x')
    (hc : rCells z = some c) (hcond : z.cells.size = i.size ∧ i.size ≠ 0 ∧ c.stillB = true ∧ c.scals = true) (hN : ∀ d, o.dst = some d → d < C.N) (ha : aop C (.clr i.size c x') o.dst s K) (hk : UponOk C E0 B0 a K next Qc) : o.wp (C.P .o) a E.w next Qc := by
  have hxs := opd_sound h.si hx
  simp only [aop] at ha
  split at ha
  rotate_left
  · exact ha.elim
  rename_i d sz1 lo n hw
  rw [hw] at hxs
  split at ha
  rotate_left
  · exact ha.elim
  rename_i sz2 m g hb
  split at ha
  rotate_left
  · exact ha.elim
  rename_i hs1 hs2
  have e1 : i.size = sz1 := by simpa using hs1
  have e2 : i.size = sz2 := by simpa using hs2
  subst e1; subst e2
  obtain ⟨hroom, g', hg1, hg2, hK⟩ := ha
  obtain ⟨hzc, _⟩ := cells_of (E := E) hc
  have hok : c.okE := ⟨stillB_spec c hcond.2.2.1, hcond.2.2.2⟩
  have hzl : z.cells.toList.length = i.size := by simpa using hcond.1
  have hzne : z.cells.size ≠ 0 := by rw [hcond.1]; exact hcond.2.1
  have hzero : (zeroValue e).run (C.P .o) E.w = .ok z E.w := by simp [zeroValue, typeInfo, hi, hz]
  obtain ⟨ah, hah⟩ : ∃ v, v = a.eval x := ⟨_, rfl⟩
  rw [← hah] at hxs
  have hex : ∀ v w', (Builtin.clear_ #[t] o.type #[ah]).run (C.P .o) E.w = .ok v w' → (execOp a.eval o).run (C.P .o) E.w = .ok (.value v) w' := by
    intro v w' hr
    have h1 : args = #[x] := by apply Array.ext'; simpa using hargs
    have h2 : ts = #[t] := by apply Array.ext'; simpa using hts
    rw [hah] at hr
    unfold execOp
    simp only [ho, h1, h2, resolve, Sem.run_bind, Sem.run_pure, Result.andThen_ok, invoke, builtin]
    simp only [List.map_toArray, List.map_cons, List.map_nil] at hr ⊢
    rw [hr]
    rfl
  have hB := h.inv.blk d
  rw [hb] at hB
  have fin : ∀ (w' : World) (E' : Env), (Builtin.clear_ #[t] o.type #[ah]).run (C.P .o) E.w = .ok (.tuple #[]) w' → E'.w = w' → Rel C.N E0 B0 E' (s.put d (.row i.size m g')) a → o.wp (C.P .o) a E.w next Qc := by
    intro w' E' hr hw hR
    unfold Oper.wp
    rw [hex _ _ hr]
    show next (a.put o.dst _) _
    rw [← hw]
    exact hk.1 E' _ _ (hR.value hB0 hN (v := .tup .nil) (x := .tuple #[]) (rp_tup.2 ⟨[], rfl, listC_nil.2 rfl⟩) fun y hy => hy.elim) hK
  have empty : n .o = 0 → ∃ E', E'.w = E.w ∧ Rel C.N E0 B0 E' (s.put d (.row i.size m g')) a := by
    intro hn
    exact ⟨E, rfl, h.reblk hb (fun hF => by
      rcases hF with h1 | ⟨cap, cur, ee, h1, h2, h3, h4, h5, h6⟩
      · exact .inl h1
      · exact .inr ⟨cap, cur, ee, h1, h2, h3, h4, h5, fun j hj => by
          have hf := hg1 j hj (by omega)
          exact ⟨hf.ok (h6 j hj).1, hf.rp E _ (h6 j hj).2⟩⟩)⟩
  by_cases hn : n .o = 0
  · obtain ⟨E', h1, h2⟩ := empty hn
    refine fin E.w E' ?_ h1 h2
    rcases hxs with ⟨_, _, _, rfl⟩ | ⟨A, m', c', p, _, _, rfl, _⟩
    · unfold Builtin.clear_
      simp [run_underlying hu]
    · rw [hn]
      unfold Builtin.clear_
      simp [run_underlying hu]
  rcases hxs with ⟨_, _, h0, _⟩ | ⟨A, m', c', p, h1, h2, rfl, h3⟩
  · exact (hn h0).elim
  rcases hB with ⟨h5, _⟩ | ⟨cap, cur, ee, h5, h6, h7, h8, h9, h10⟩
  · rw [h1] at h5; cases h5
  rw [h1] at h5; cases h5
  have h3 := h3 (.inl hn)
  subst h3
  have hflen : (List.replicate (n .o) z.cells.toList).flatten.length = n .o * i.size := by simp [List.length_flatten, hcond.1]
  have hin : (lo .o + n .o) * i.size ≤ cur.length := by rw [h9]; exact Nat.mul_le_mul_right _ (by omega)
  have hin' := hin
  rw [Nat.add_mul] at hin'
  have hone : ∀ u ∈ (List.replicate (n .o) z.cells.toList).flatten, u.oneCell' = true := by
    intro u hu'
    obtain ⟨l, hl, hul⟩ := List.mem_flatten.1 hu'
    rw [List.eq_of_mem_replicate hl] at hul
    exact scals_one c _ hzc hcond.2.2.2 u hul
  have hlen' : (cur.take (lo .o * i.size) ++ (List.replicate (n .o) z.cells.toList).flatten ++ cur.drop (lo .o * i.size + (List.replicate (n .o) z.cells.toList).flatten.length)).length = cur.length := by
    simp only [List.length_append, List.length_take, List.length_drop, hflen]; omega
  have hdl : solidAt E s.b d := by unfold solidAt; rw [hb]; show E.rv d ≠ _; rw [h1]; simp
  obtain ⟨E', hw, hR⟩ := h.setBlk hB0 hdl (cur.take (lo .o * i.size) ++ (List.replicate (n .o) z.cells.toList).flatten ++ cur.drop (lo .o * i.size + (List.replicate (n .o) z.cells.toList).flatten.length)) (.row i.size m g') rfl (by rw [hb]; rfl)
    (fun z hz => hz.elim)
    (fun E' hw hρ hrv hle => by
      refine .inr ⟨c', _, ee, by rw [hrv, hρ]; exact h1, by rw [hw, hρ]; exact h6.setRow hlen', h7, h8, by rw [hlen']; exact h9, fun j hj => ?_⟩
      by_cases hjr : j < lo .o ∨ lo .o + n .o ≤ j
      · have hf := hg1 j hj hjr
        refine ⟨hf.ok (h10 j hj).1, hf.rp E' _ ?_⟩
        rw [seg_far hflen hin hjr]
        exact (rp_mono hle _ fun z hz => ((AV.still_locs _).1 (h10 j hj).1.1 z hz).elim).2.1 _ (h10 j hj).2
      · have hf := hg2 j (by omega) (by omega)
        refine ⟨hf.ok hok, hf.rp E' _ ?_⟩
        rw [seg_clr hzl hin (by omega) (by omega)]
        exact (rp_mono hle _ fun z hz => ((AV.still_locs _).1 hok.1 z hz).elim).2.1 _ hzc)
  obtain ⟨fr, hgh, hsoft⟩ := h6.ex
  have hst' := run_storeCells_soft (C.P .o) (E.ρ d) (lo .o * i.size) ee fr (List.replicate (n .o) z.cells.toList).flatten 0 cur.toArray E.w hgh (by simpa using hsoft.to0) (by simp only [List.size_toArray, hflen]; omega) hone
  refine fin _ E' ?_ hw hR
  obtain ⟨k, hk'⟩ : ∃ k, n .o = k + 1 := ⟨n .o - 1, by omega⟩
  rw [hk'] at hst' ⊢
  unfold Builtin.clear_
  simp only [List.getElem?_toArray, List.getElem?_cons_zero, Sem.run_bind, run_underlying hu, Result.andThen_ok, addr_add, Nat.zero_add, hzero, zeroCells_eq _ hzne, hst']
  simp
theorem allocR_sound (h : Rel C.N E0 B0 E s a) (hB0 : ∀ x, x < 10000 → ¬ B0.liveAt x) {t e : TypeId} {n : Nat} (ho : o.op = .alloc t) {i ie : TypeInfo} {z : Value} {c : AV} (hi : (C.P .o).info? t = some i) (hz : i.zero = some z) (hc : rCells z = some c)
    (hcond : c.len = n * ie.size ∧ n ≤ 2 ^ 24) (hN : ∀ d, o.dst = some d → d < C.N) (ha : aop C (.allocR ie.size n c) o.dst s K) (hk : UponOk C E0 B0 a K next Qc) : o.wp (C.P .o) a E.w next Qc := by
  simp only [aop] at ha
  split at ha
  rotate_left
  · exact ha.elim
  rename_i d hd
  split at ha
  rotate_left
  · exact ha.elim
  rename_i hf hst hsc
  obtain ⟨hdead, hlt⟩ := fresh_spec hf
  obtain ⟨hcl, _⟩ := cells_of (E := E) hc
  have hlen : z.cells.toList.length = n * ie.size := by rw [← listC_len' hcl]; exact hcond.1
  obtain ⟨E', hw, hR⟩ := h.newBlk hB0 (hN d hd) hdead hlt z.cells.toList t (.slice (some ⟨E.w.heap.size, 0, none⟩) n n) (.row ie.size (fun _ => n) fun i => elemAt ie.size c (i .o)) (.ptr d 0) (.pointer (some ⟨E.w.heap.size, 0, none⟩))
    rfl (fun y hy => hy.elim) (fun y hy => hy) (fun E' hw hle hρ hrv hs => by
      refine ⟨.inr ⟨n, _, t, by rw [hrv, hρ], by rw [hρ, hw]; exact Hs.mk0 (alloc_new _ _), Nat.le_refl _, by unfold maxLen; omega, hlen, fun j hj => ?_⟩, by simp [Rp, hρ]⟩
      have hj : j < n := hj
      have hjs : j * ie.size + ie.size ≤ z.cells.toList.length := by rw [hlen, ← Nat.succ_mul]; exact Nat.mul_le_mul_right _ hj
      have hcl' := (rp_mono hle c fun y hy => ((AV.still_locs _).1 (stillB_spec c hst) y hy).elim).2.1 _ hcl
      exact elemAt_sound hcl' (stillB_spec c hst) hsc ie.size j hjs)
  have hrun : (execOp a.eval o).run (C.P .o) E.w = .ok (.value (.pointer (some ⟨E.w.heap.size, 0, none⟩))) (E.w.alloc (.cells z.cells t)) := by
    unfold execOp
    simp only [ho]
    simp [Instr.alloc, zeroValue, typeInfo, hi, hz, newVar, newRow, newObj, Sem.run]
  unfold Oper.wp
  rw [hrun]
  have hw' : E'.w = E.w.alloc (.cells z.cells t) := by simpa using hw
  show next (a.put o.dst _) _
  rw [← hw', hd]
  exact hk.1 E' _ _ hR ha
theorem panic_sound (h : Rel C.N E0 B0 E s a) {x : Operand} {x' : Opd} (ho : o.op = .panic x) (hx : rOpd x = some x') (ha : aop C (.panic x') o.dst s K) (hk : UponOk C E0 B0 a K next Qc) : o.wp (C.P .o) a E.w next Qc := by
  simp only [aop] at ha
  split at ha
  · rename_i t v hv
    have hxs := opd_sound h.si hx
    rw [hv] at hxs
    obtain ⟨y, h1, h2⟩ := hxs
    have hrun : (execOp a.eval o).run (C.P .o) E.w = .halt (.panic (.iface t y)) E.w := by
      unfold execOp
      simp only [ho, h1]
      simp [Instr.panic, goPanic, Sem.run]
    unfold Oper.wp
    rw [hrun]
    exact hk.2 E s (.ifc t v) (.iface t y) h ⟨y, rfl, h2⟩ (fun z hz => opd_locs h hx (by rw [hv]; exact hz)) ha
  · exact ha.elim
theorem defer_sound (h : Rel C.N E0 B0 E s a) {x : Operand} {args : Array Operand} {ts : Array TypeId} {x' : Opd} {q : List Opd} (ho : o.op = .defer { callee := .value x, args := args, argTypes := ts }) (hx : rOpd x = some x') (hq : rOpds args.toList = some q)
    (ha : aop C (.defer x' q) o.dst s K) (hk : UponOk C E0 B0 a K next Qc) : o.wp (C.P .o) a E.w next Qc := by
  simp only [aop] at ha
  split at ha
  · rename_i f first caps hd hv
    have hxs := opd_sound h.si hx
    rw [hv] at hxs
    obtain ⟨l, m, h1, h2, h3⟩ := hxs
    have hvs := opds_sound h.si _ _ hq
    have hxl : ∀ y, (AV.fn f first caps).locs y → s.b.liveAt y := fun y hy => opd_locs h hx (by rw [hv]; exact hy)
    have hrun : (execOp a.eval o).run (C.P .o) E.w = .ok (.defer { target := .fn f m.toArray, args := (l ++ args.toList.map a.eval).toArray }) E.w := by
      unfold execOp
      simp only [ho, resolve, h1, Deferred.ofValue, Sem.run_bind, Sem.run_pure, Result.andThen_ok]
      congr 3
      apply Array.ext'
      simp
    unfold Oper.wp
    rw [hrun, ]
    show next (({ a with defers := _ :: a.defers } : Act).put o.dst undef) _
    rw [hd]
    refine hk.1 E ⟨s.t, s.b, .cons (.fn f (first.app (chain (evs s q))) caps) s.df⟩ _ ⟨h.tmps, h.inv, h.tn, h.sz, ⟨m, l ++ args.toList.map a.eval, a.defers, rfl, h3, listC_app h2 hvs, h.df⟩, fun y hy => ?_, h.post⟩ ha
    rcases hy with (hy | hy) | hy
    · rcases app_locs hy with hy | hy
      · exact hxl y (.inl hy)
      · exact opds_locs h _ _ hq hy
    · exact hxl y (.inr hy)
    · exact h.dn y hy
  · exact ha.elim
theorem aop_sound (h : Rel C.N E0 B0 E s a) (hB0 : ∀ x, x < 10000 → ¬ B0.liveAt x) {ro : RO} (hr : rOpX (C.P .o) o.op = some ro) (hN : ∀ d, o.dst = some d → d < C.N) (hst : (∃ t x y, o.op = .store t x y) → o.dst = none)
    (ha : aop C ro o.dst s K) (hk : UponOk C E0 B0 a K next Qc) : o.wp (C.P .o) a E.w next Qc := by
  unfold rOpX at hr
  split at hr
  · rename_i t ho
    split at hr
    · rename_i n e i hu hi
      split at hr
      · rename_i z ie hz hie
        split at hr
        · rename_i c hc
          split at hr
          · rename_i hcond
            cases hr
            exact allocR_sound (e := e) h hB0 ho hi hz hc hcond hN ha hk
          · cases hr
        · cases hr
      · cases hr
    · rename_i i hi hnu
      split at hr
      · rename_i z hz
        split at hr
        · rename_i c hc
          cases hr
          exact alloc_sound h hB0 ho hi hz hc hN ha hk
        · cases hr
      · cases hr
    · cases hr
  · rename_i t x ho
    obtain ⟨y, hy, rfl⟩ := opt_map hr
    exact box_sound h hB0 ho hy hN ha hk
  · rename_i t ps ho
    split at hr
    · rename_i it n e hi hu
      split at hr
      · rename_i z ie hz hie
        exact build_sound h hB0 ho (fun parts => by simp [Program.built, hi, hu, hz, hie]) hr hN ha hk
      · cases hr
    · rename_i it fields hi hu
      split at hr
      · rename_i z places hz hpl
        exact build_sound h hB0 ho (fun parts => by simp only [Program.built, hi, hu, hz, hpl]) hr hN ha hk
      · cases hr
    · cases hr
  · rename_i t n ps ho
    split at hr
    · rename_i e hu
      split at hr
      · rename_i i hi
        split at hr
        · rename_i z hz
          split at hr
          · rename_i c qs hc hq
            split at hr
            · rename_i hcond
              cases hr
              exact bslice_sound h hB0 ho hu hi hz hc hq hcond hN ha hk
            · cases hr
          · cases hr
        · cases hr
      · cases hr
    · cases hr
  · rename_i t x y ho
    split at hr
    · rename_i i x' y' hi hx hy
      cases hr
      exact store_sound h hB0 ho hi hx hy (hst ⟨t, x, y, ho⟩) ha hk
    · cases hr
  · rename_i t x ho
    split at hr
    · rename_i n e hu
      split at hr
      · rename_i i x' hi hx
        split at hr
        · rename_i h0
          cases hr
          exact sliceA_sound h hB0 ho hu hi hx h0 hN ha hk
        · cases hr
      · cases hr
    · exact quiet_sound h hB0 (ho ▸ hr) hN ha hk
  · rename_i args ts ho
    split at hr
    · rename_i x y t t' hargs hts
      split at hr
      · rename_i htt
        subst htt
        split at hr
        · rename_i e hu
          split at hr
          · rename_i i hi
            split at hr
            · rename_i z x' y' hz hx hy
              split at hr
              · rename_i hcond
                cases hr
                exact append_sound h hB0 ho hargs hts hu hi hz hx hy hcond.1 hcond.2 hN ha hk
              · cases hr
            · cases hr
          · cases hr
        · cases hr
      · split at hr
        · rename_i e hu hus
          split at hr
          · rename_i i hi
            split at hr
            · rename_i z x' y' hz hx hy
              split at hr
              · rename_i hcond
                cases hr
                exact appS_sound h hB0 ho hargs hts hu hus hi hz hx hy hcond.1 hcond.2.2.1 hcond.2.2.2 hN ha hk
              · cases hr
            · cases hr
          · cases hr
        · cases hr
    · cases hr
  · rename_i args ts ho
    split at hr
    · rename_i x t hargs hts
      split at hr
      · rename_i e hu
        split at hr
        · rename_i i hi
          split at hr
          · rename_i z x' hz hx
            split at hr
            · rename_i c hc
              split at hr
              · rename_i hcond
                cases hr
                exact clr_sound h hB0 ho hargs hts hu hi hz hx hc hcond hN ha hk
              · cases hr
            · cases hr
          · cases hr
        · cases hr
      · cases hr
    · cases hr
  · rename_i f args ts ho
    split at hr
    · rename_i hc
      obtain ⟨q, hq, rfl⟩ := opt_map hr
      exact callf_sound h hB0 ho hc hq hN ha hk
    · cases hr
  · rename_i t args ts ho
    obtain ⟨q, hq, rfl⟩ := opt_map hr
    exact callv_sound h hB0 ho hq hN ha hk
  · rename_i x ho
    obtain ⟨y, hy, rfl⟩ := opt_map hr
    exact panic_sound h ho hy ha hk
  · rename_i x args ts ho
    split at hr
    · rename_i x' q hx hq
      cases hr
      exact defer_sound h ho hx hq ha hk
    · cases hr
  · rename_i t l c ho
    split at hr
    · rename_i e hu
      split at hr
      · rename_i i hi
        split at hr
        · rename_i z hz
          split at hr
          · rename_i cz l' c' hcz hl hc
            split at hr
            · rename_i hcond
              cases hr
              exact mks_sound h hB0 ho hu hi hz hcz hl hc hcond hN ha hk
            · cases hr
          · cases hr
        · cases hr
      · cases hr
    · cases hr
  · rename_i op t x y yt ho
    split at hr
    · rename_i e el he hu
      obtain ⟨q, hq, rfl⟩ := opt_map hr
      exact isNil_sound h hB0 ho he hu hq hN ha hk
    · exact quiet_sound h hB0 (ho ▸ hr) hN ha hk
  · rename_i src dst x ho
    split at hr
    · rename_i e hs hd
      split at hr
      · rename_i he
        obtain ⟨y, hy, rfl⟩ := opt_map hr
        exact s2b_sound h hB0 ho hs hd (isU8_spec he) hy hN ha hk
      · cases hr
    · rename_i e1 e hs hd
      split at hr
      · rename_i he
        obtain ⟨y, hy, rfl⟩ := opt_map hr
        exact s2s_sound h hB0 ho hs hd (isU8_spec he.1) he.2 hy hN ha hk
      · cases hr
    · exact quiet_sound h hB0 (ho ▸ hr) hN ha hk
  · exact quiet_sound h hB0 hr hN ha hk
theorem rOpX_call {P : Program} {op : Op} {f : Nat} {q : List Opd} (h : rOpX P op = some (.call f q)) : ∃ asL0 ts, op = .call { callee := .value (.func f), args := asL0, argTypes := ts } ∧ callable P f = true ∧ rOpds asL0.toList = some q := by
  unfold rOpX at h
  split at h
  all_goals try unfold rBuild at h
  all_goals (repeat' split at h)
  all_goals first
    | (cases h; done)
    | (have := rOp_quiet h; cases this; done)
    | (obtain ⟨y, _, he⟩ := opt_map h; cases he; done)
    | (obtain ⟨y, hy, he⟩ := opt_map h; cases he; exact ⟨_, _, rfl, by assumption, hy⟩)
theorem rOpX_s2b {P : Program} {op : Op} {x : Opd} (h : rOpX P op = some (.s2b x)) : ∃ src dst e y, op = .convert src dst y ∧ P.underlying src = some .string ∧ P.underlying dst = some (.slice e) ∧ P.underlying e = some (.int .u8) ∧ rOpd y = some x := by
  unfold rOpX at h
  split at h
  all_goals try unfold rBuild at h
  all_goals (repeat' split at h)
  all_goals first
    | (cases h; done)
    | (have := rOp_s2b h; cases this; done)
    | (obtain ⟨y, _, he⟩ := opt_map h; cases he; done)
    | (obtain ⟨y, hy, he⟩ := opt_map h; cases he; exact ⟨_, _, _, _, rfl, by assumption, by assumption, isU8_spec (by assumption), hy⟩)
theorem frz_sound {E : Env} {B : BL} (hB : ∀ d, BlkRp E d (B.get d)) {J : Nat → Nat → Prop} (hI : ∀ b o, E.I b o → J b o) (hS : ∀ d, solid E d (B.get d) → ∀ o, J (E.ρ d) o) {h : Nat → Nat → Option AV}
    (hh : ∀ d o y, h d o = some y → ∀ v, Rp E (.ptr d o) v → Rp ⟨E.ρ, E.rv, J, E.w⟩ y v) (x : AV) :
    ∀ y, x.frz B h = some y → (∀ v, Rp E x v → Rp ⟨E.ρ, E.rv, J, E.w⟩ y v) ∧ (∀ l, ListC E x l → ListC ⟨E.ρ, E.rv, J, E.w⟩ y l) ∧ (∀ b o, MemC E x b o → MemC ⟨E.ρ, E.rv, J, E.w⟩ y b o) := by
  have hle : E.Le ⟨E.ρ, E.rv, J, E.w⟩ := ⟨fun b o hi => hI b o hi, fun _ _ _ => rfl⟩
  induction x with
  | row d =>
    intro y hy
    refine ⟨fun v hv => ?_, fun _ h => h.elim, fun _ _ h => h.elim⟩
    unfold AV.frz at hy
    split at hy
    · rename_i sz n g hb
      cases hy
      have hbl := hB d
      rw [hb] at hbl
      have hSd := hS d
      rw [hb] at hSd
      rcases hbl with ⟨h1, h2⟩ | ⟨cap, cur, e, h1, h2, h3, h4, h5, h6⟩
      · exact ⟨none, 0, by rw [h2]; exact hv.1.trans h1, by rw [h2]; exact Nat.le_refl _, fun i hi => by rw [h2] at hi; exact absurd hi (Nat.not_lt_zero _)⟩
      · refine ⟨_, cap, hv.1.trans h1, h3, fun i hi => ⟨⟨(h6 i hi).1, by rw [listC_len' (h6 i hi).2]; exact row_elem h5 h3 hi⟩, E.ρ d, 0, rfl, ?_⟩⟩
        refine memC_of_list' _ _ _ _ ((rp_mono hle _ fun _ _ => ⟨rfl, rfl⟩).2.1 _ (h6 i hi).2) fun j u hj => ⟨?_, hSd (by show E.rv d ≠ _; rw [h1]; simp) _⟩
        show E.w.cell? _ = _
        rw [h2.cell]
        rw [List.getElem?_take] at hj
        split at hj
        · rw [List.getElem?_drop] at hj; rw [← hj]; congr 1; omega
        · cases hj
    · cases hy
  | ptr d o => intro y hy; exact ⟨fun v hv => hh d o y hy v hv, fun _ h => h.elim, fun _ _ h => h.elim⟩
  | rptr d sz i o => intro y hy; cases hy
  | win d sz i o => intro y hy; cases hy
  | iptr c ih =>
    intro y hy
    refine ⟨fun v hv => ?_, fun _ h => h.elim, fun _ _ h => h.elim⟩
    unfold AV.frz at hy
    split at hy
    · rename_i c' hc
      cases hy
      obtain ⟨b, o, h1, h2⟩ := hv
      exact ⟨b, o, h1, (ih _ hc).2.2 _ _ h2⟩
    · cases hy
  | ifc t v ih =>
    intro y hy
    refine ⟨fun v hv => ?_, fun _ h => h.elim, fun _ _ h => h.elim⟩
    unfold AV.frz at hy
    split at hy
    · rename_i c' hc
      cases hy
      obtain ⟨y, h1, h2⟩ := hv
      exact ⟨y, h1, (ih _ hc).1 _ h2⟩
    · cases hy
  | agg c ih =>
    intro y hy
    refine ⟨fun v hv => ?_, fun _ h => h.elim, fun _ _ h => h.elim⟩
    unfold AV.frz at hy
    split at hy
    · rename_i c' hc
      cases hy
      obtain ⟨l, h1, h2⟩ := rp_agg.1 hv
      exact rp_agg.2 ⟨l, h1, (ih _ hc).2.1 _ h2⟩
    · cases hy
  | tup c ih =>
    intro y hy
    refine ⟨fun v hv => ?_, fun _ h => h.elim, fun _ _ h => h.elim⟩
    unfold AV.frz at hy
    split at hy
    · rename_i c' hc
      cases hy
      obtain ⟨l, h1, h2⟩ := rp_tup.1 hv
      exact rp_tup.2 ⟨l, h1, (ih _ hc).2.1 _ h2⟩
    · cases hy
  | fn f a b iha ihb =>
    intro y hy
    refine ⟨fun v hv => ?_, fun _ h => h.elim, fun _ _ h => h.elim⟩
    unfold AV.frz at hy
    split at hy
    · rename_i a' b' ha hb
      cases hy
      obtain ⟨l, m, h1, h2, h3⟩ := hv
      exact ⟨l, m, h1, (iha _ ha).2.1 _ h2, (ihb _ hb).2.1 _ h3⟩
    · cases hy
  | cons a b iha ihb =>
    intro y hy
    unfold AV.frz at hy
    split at hy
    · rename_i a' b' ha hb
      cases hy
      refine ⟨fun _ h => h.elim, fun l hl => ?_, fun b o hm => ?_⟩
      · obtain ⟨x, r, h1, h2, h3⟩ := hl
        exact ⟨x, r, h1, (iha _ ha).1 _ h2, (ihb _ hb).2.1 _ h3⟩
      · obtain ⟨⟨v, h1, h2, h3⟩, h4⟩ := hm
        exact ⟨⟨v, h1, hI _ _ h2, (iha _ ha).1 _ h3⟩, (ihb _ hb).2.2 _ _ h4⟩
    · cases hy
  | _ => intro y hy; cases hy; exact rp_mono hle _ fun _ _ => ⟨rfl, rfl⟩
theorem frz_locs {B : BL} {h : Nat → Nat → Option AV} (hh : ∀ d o y, h d o = some y → ∀ z, ¬ y.locs z) (x : AV) : ∀ y, x.frz B h = some y → ∀ z, ¬ y.locs z := by
  induction x with
  | row d =>
    intro y hy z hz
    unfold AV.frz at hy
    split at hy
    · cases hy; exact hz
    · cases hy
  | ptr d o => intro y hy; exact hh d o y hy
  | rptr d sz i o => intro y hy; cases hy
  | win d sz i o => intro y hy; cases hy
  | iptr c ih | ifc t v ih | agg c ih | tup c ih =>
    intro y hy
    unfold AV.frz at hy
    split at hy
    · rename_i c' hc; cases hy; exact fun z hz => ih c' hc z hz
    · cases hy
  | fn f a b iha ihb | cons a b iha ihb =>
    intro y hy z hz
    unfold AV.frz at hy
    split at hy
    · rename_i a' b' ha hb; cases hy; exact hz.elim (iha _ ha z) (ihb _ hb z)
    · cases hy
  | _ => intro y hy z hz; cases hy; exact hz
theorem memC_of_cells {E : Env} {g : Nat} {l : List Value} {e : TypeId} {c : AV} {J : Nat → Nat → Prop} (hJ : ∀ o, J g o) (h1 : E.w.heap[g]? = some (.cells l.toArray e (0, 0))) (hc : ListC ⟨E.ρ, E.rv, J, E.w⟩ c l) : MemC ⟨E.ρ, E.rv, J, E.w⟩ c g 0 :=
  memC_of_list' _ _ _ _ hc fun j u hj => ⟨by show E.w.cell? _ = _; rw [cell_of_heap h1, Nat.zero_add]; exact hj, hJ _⟩
theorem frzP_sound {E : Env} {B : BL} (hB : ∀ d, BlkRp E d (B.get d)) {J : Nat → Nat → Prop} (hI : ∀ b o, E.I b o → J b o) (hS : ∀ d, solid E d (B.get d) → ∀ o, J (E.ρ d) o) : ∀ (k d o : Nat) (y : AV), frzP B k d o = some y → (∀ v, Rp E (.ptr d o) v → Rp ⟨E.ρ, E.rv, J, E.w⟩ y v) ∧ ∀ z, ¬ y.locs z
  | 0, d, o, y, h => by cases h
  | k + 1, d, o, y, h => by
    unfold frzP at h
    split at h
    · rename_i c hb
      split at h
      · rename_i c' hc
        cases h
        have hbl := hB d
        rw [hb] at hbl
        have hSd := hS d (by rw [hb]; trivial)
        obtain ⟨l, e, h1, h2⟩ := hbl
        have h3 := (frz_sound hB hI hS (fun d o y q => (frzP_sound hB hI hS k d o y q).1) c c' hc).2.1 _ h2
        refine ⟨fun v hv => ?_, fun z hz => frz_locs (fun d o y q => (frzP_sound hB hI hS k d o y q).2) c c' hc z (drop_locs _ _ z hz)⟩
        refine ⟨E.ρ d, o, hv, ?_⟩
        have := memC_drop o c' _ 0 (memC_of_cells hSd h1 h3)
        rwa [Nat.zero_add] at this
      · cases h
    · cases h
theorem peek_sound (h : Rel C.N E0 B0 E s a) (hB0 : ∀ x, x < 10000 → ¬ B0.liveAt x) {f : Nat} {args : Array Operand} {ts : Array TypeId} {q : List Opd} (ho : o.op = .call { callee := .value (.func f), args := args, argTypes := ts }) (hcal : callable (C.P .o) f = true) (hq : rOpds args.toList = some q)
    (hN : ∀ d, o.dst = some d → d < C.N) (ha : aop C (.peek f q) o.dst s K) (hk : UponOk C E0 B0 a K next Qc) : o.wp (C.P .o) a E.w next Qc := by
  have hvs := opds_sound h.si _ _ hq
  simp only [aop] at ha
  split at ha
  rotate_left
  · exact ha.elim
  rename_i c hf hc
  have hS0 : ∀ d, solid E d (s.b.get d) → ∀ _o : Nat, E.ρ d < E.w.heap.size := fun d hd _ => (h.inv.live d hd).1
  have h1 := (frz_sound (J := fun b _ => b < E.w.heap.size) h.inv.blk h.inv.ibd hS0 (fun d o y q => (frzP_sound h.inv.blk h.inv.ibd hS0 8 d o y q).1) _ c hc).2.1 _ hvs
  have h2 := frz_locs (fun d o y q => (frzP_sound (J := fun b _ => b < E.w.heap.size) h.inv.blk h.inv.ibd hS0 8 d o y q).2) _ c hc
  obtain ⟨h3, h4⟩ := unchain_sound h1
  have hdead : ∀ x, ¬ BL.nil.liveAt x := fun x hx => by simp [BL.liveAt, BL.get, Blk.live] at hx
  have hnil : Inv ⟨E.ρ, E.rv, fun b _ => b < E.w.heap.size, E.w⟩ .nil := ⟨fun d => trivial, fun d d' hd => (hdead d (solid_live hd)).elim, fun d hd => (hdead d (solid_live hd)).elim, fun b o hb => hb, fun d x hx => hx.elim⟩
  have hrun : (execOp a.eval o).run (C.P .o) E.w = .ok (.enter f (args.toList.map a.eval).toArray) E.w := by
    unfold execOp
    simp only [ho, resolve, Act.eval, Deferred.ofValue, Sem.run_bind, Sem.run_pure, Result.andThen_ok, invoke]
    rw [run_callFunc hcal]
    congr 2
    apply Array.ext'
    simp
  unfold Oper.wp
  rw [hrun]
  refine (ha.run _ _ hnil h3 (fun x hx => (h2 x ((h4 x).1 hx)).elim) (hdead _)).mono ?_
  rintro e w' ⟨E', r, B', rfl, hK, hend, hinv, hpost, hl⟩
  split at hK
  rotate_left
  · exact hK.elim
  rename_i hfl
  have hold : ∀ b, b < E.w.heap.size → E'.w.heap[b]? = E.w.heap[b]? := fun b hb => hpost.old b hb fun x hx => (hdead x (solid_live hx)).elim
  have hR := h.world hpost.os hpost.tape hpost.output hpost.size hold
  have hflat : ∀ v, r = .ret v → v.flat = true := fun v hv => by subst hv; exact hfl
  cases r with
  | ret v =>
    obtain ⟨k1, _, k3⟩ := flat_spec (E := E') (E' := ⟨E.ρ, E.rv, E.I, E'.w⟩) v hfl
    cases e with
    | returned x => exact hk.1 ⟨E.ρ, E.rv, E.I, E'.w⟩ _ _ (hR.value hB0 hN (k1 _ hend) fun y hy => (k3 y hy).elim) hK
    | _ => exact hend.elim
  | pan v =>
    obtain ⟨k1, _, k3⟩ := flat_spec (E := E') (E' := ⟨E.ρ, E.rv, E.I, E'.w⟩) v hfl
    cases e with
    | panicked ch =>
      obtain ⟨x, rfl, hx⟩ := hend
      exact hk.2 ⟨E.ρ, E.rv, E.I, E'.w⟩ _ _ _ hR (k1 _ hx) (fun y hy => (k3 y hy).elim) hK
    | _ => exact hend.elim
theorem rOpds_cons {x : Opd} {l : List Operand} {q : List Opd} (h : rOpds l = some (x :: q)) : ∃ y r, l = y :: r ∧ rOpd y = some x ∧ rOpds r = some q := by
  cases l with
  | nil => cases h
  | cons y r =>
    unfold rOpds at h
    split at h
    · rename_i a b h1 h2; cases h; exact ⟨y, r, rfl, h1, h2⟩
    · cases h
/-- A call that is handed a row and yields it anew. -/
theorem growc_sound (h : Rel C.N E0 B0 E s a) (hB0 : ∀ x, x < 10000 → ¬ B0.liveAt x) {f sz : Nat} {x : Opd} {args : Array Operand} {ts : Array TypeId} {q : List Opd} (ho : o.op = .call { callee := .value (.func f), args := args, argTypes := ts }) (hcal : callable (C.P .o) f = true) (hq : rOpds args.toList = some (x :: q))
    (hN : ∀ d, o.dst = some d → d < C.N) (ha : aop C (.growc f sz x q) o.dst s K) (hk : UponOk C E0 B0 a K next Qc) : o.wp (C.P .o) a E.w next Qc := by
  obtain ⟨y, ys, hl, hy, hq'⟩ := rOpds_cons hq
  have hxs := opd_sound h.si hy
  have hvs := opds_sound h.si _ _ hq'
  simp only [aop] at ha
  split at ha
  rotate_left
  · exact ha.elim
  rename_i d p hd hxe
  rw [hxe] at hxs
  split at ha
  rotate_left
  · exact ha.elim
  rename_i sz' n g c hbp hc
  split at ha
  rotate_left
  · exact ha.elim
  rename_i hsz
  have hsz' : sz = sz' := by simpa using hsz
  subst hsz'
  have hgp : ∀ d, (BL.cons p .no s.b).get d = if p = d then .no else s.b.get d := fun d => rfl
  have hBp : ∀ d, BlkRp E d ((BL.cons p .no s.b).get d) := by
    intro d
    rw [hgp]
    split
    · trivial
    · exact h.inv.blk d
  have hsolp0 : solidAt E s.b p ↔ E.rv p ≠ nilV := by unfold solidAt; rw [hbp]; exact Iff.rfl
  let J : Nat → Nat → Prop := fun b _ => b < E.w.heap.size ∧ (a.eval y ≠ nilV → b ≠ E.ρ p)
  have hvx : a.eval y = E.rv p := hxs.1
  have hI0 : ∀ b o, E.I b o → J b o := fun b o hi => ⟨h.inv.ibd b o hi, fun hv he => (h.inv.live p (hsolp0.2 (by rw [← hvx]; exact hv))).2 o (he ▸ hi)⟩
  have hS0 : ∀ d, solid E d ((BL.cons p .no s.b).get d) → ∀ o, J (E.ρ d) o := by
    intro d hd o
    rw [hgp] at hd
    split at hd
    · exact hd.elim
    · rename_i hne
      exact ⟨(h.inv.live d hd).1, fun hv => h.inv.dist d p hd (hsolp0.2 (by rw [← hvx]; exact hv)) (Ne.symm hne)⟩
  have h1 := (frz_sound hBp hI0 hS0 (fun d o y q => (frzP_sound hBp hI0 hS0 8 d o y q).1) _ c hc).2.1 _ hvs
  obtain ⟨h3, _⟩ := unchain_sound h1
  obtain ⟨n', g', hK, hG⟩ := ha.ex
  have hB := h.inv.blk p
  rw [hbp] at hB
  obtain ⟨xs, hr1, hr2, hr3⟩ := row_list hB
  have hrun : (execOp a.eval o).run (C.P .o) E.w = .ok (.enter f (args.toList.map a.eval).toArray) E.w := by
    unfold execOp
    simp only [ho, resolve, Act.eval, Deferred.ofValue, Sem.run_bind, Sem.run_pure, Result.andThen_ok, invoke]
    rw [run_callFunc hcal]
    congr 2
    apply Array.ext'
    simp
  unfold Oper.wp
  rw [hrun, hl]
  have hle : E.Le ⟨E.ρ, E.rv, J, E.w⟩ := ⟨fun b o hi => hI0 b o hi, fun _ _ _ => rfl⟩
  refine (hG ⟨E.ρ, E.rv, J, E.w⟩ (ys.map a.eval) (a.eval y) xs (E.ρ p) (fun b' o hb => hb) h3 (by rw [hvx]; exact hr1) hr2 (fun j hj => ⟨(hr3 j hj).1, (rp_mono hle _ fun _ _ => ⟨rfl, rfl⟩).2.1 _ (hr3 j hj).2⟩)).mono ?_
  rintro e w' ⟨v', xs', b', rfl, hrow, hgr, hnew, hel⟩
  have hkill := h.kill p
  have hpk : (s.b.kill p).get p = .row sz n g := by rw [bl_kill_get, hbp]; rfl
  have hsolp : solidAt E (s.b.kill p) p ↔ E.rv p ≠ nilV := by unfold solidAt; rw [hpk]; exact Iff.rfl
  obtain ⟨E', hw, hle', hrv, hsl, hR⟩ := grow_core (E := E) (b := E.ρ p) (v := a.eval y) (n' := n') (g' := g') hkill (p := p) (.inl (by rw [hpk]; rfl))
      (fun k hk' => by rw [al_kill_get] at hk'; exact (kill_locs p _ p hk').2 rfl) (fun hd' => (kill_locs p _ p hd').2 rfl)
      (fun k hk' => by
        rw [bl_kill_get] at hk'
        cases hb' : s.b.get k with
        | cells c => rw [hb'] at hk'; exact (kill_locs p c p hk').2 rfl
        | no => rw [hb'] at hk'; exact hk'
        | row _ _ _ => rw [hb'] at hk'; exact hk') (fun hv => ⟨hsolp.2 (by rw [← hvx]; exact hv), rfl⟩) hrow hgr hnew (fun j hj => ⟨(hel j hj).1.1, (flat_spec _ (hel j hj).1.2).2.1 _ (hel j hj).2⟩)
  subst hw
  show next (a.put o.dst _) _
  rw [hd]
  refine hk.1 E' _ _ (hR.value hB0 (dst := some d) (v := .row p) (x := v') (fun d' he => by cases he; exact hN d hd) ⟨hrv.symm, hsl⟩ fun y hy' => ?_) hK
  have : y = p := hy'
  subst this
  simp [BL.liveAt, St.put, BL.get_cons, Blk.live]
theorem aop_soundE (h : Rel C.N E0 B0 E s a) (hB0 : ∀ x, x < 10000 → ¬ B0.liveAt x) {ro : RO} (hr : rOpX (C.P .o) o.op = some ro.erase) (hN : ∀ d, o.dst = some d → d < C.N) (hst : (∃ t x y, o.op = .store t x y) → o.dst = none)
    (ha : aop C ro o.dst s K) (hk : UponOk C E0 B0 a K next Qc) : o.wp (C.P .o) a E.w next Qc := by
  cases ro with
  | peek f args =>
    have hr : rOpX (C.P .o) o.op = some (.call f args) := hr
    obtain ⟨asL0, ts, ho, hc, hq⟩ := rOpX_call hr
    exact peek_sound h hB0 ho hc hq hN ha hk
  | s2r x =>
    have hr : rOpX (C.P .o) o.op = some (.s2b x) := hr
    obtain ⟨src, dst, e, y, ho, h1, h2, h3, h4⟩ := rOpX_s2b hr
    exact s2r_sound h hB0 ho h1 h2 h3 h4 hN ha hk
  | growc f sz x args =>
    have hr : rOpX (C.P .o) o.op = some (.call f (x :: args)) := hr
    obtain ⟨asL0, ts, ho, hc, hq⟩ := rOpX_call hr
    exact growc_sound h hB0 ho hc hq hN ha hk
  | _ => exact aop_sound h hB0 hr hN hst ha hk
end
end Go.Proofs.YtkklflpfklbbcaaDoor.Sx
/- A symbolic executor for the model's code: regions whose order of evaluation is left open. -/
namespace Go.Proofs.YtkklflpfklbbcaaDoor.Sx
open Go
set_option linter.unusedSimpArgs false
set_option linter.unusedVariables false
def RO.opds : RO → List Opd
  | .mov x => [x] | .pick c a b => [c, a, b] | .bin _ _ x y => [x, y] | .un _ x => [x] | .load1 x => [x] | .loadA _ x => [x] | .fld _ x => [x] | .field1 _ x => [x] | .fieldA _ _ x => [x]
  | .idx _ x i => [x, i] | .idxS x i => [x, i] | .len x => [x] | .lenS x => [x] | .mm _ xs => xs | .sliceS x lo hi => x :: (lo.toList ++ hi.toList) | .slice _ x lo hi => x :: (lo.toList ++ hi.toList)
  | .mkfn _ a b => a ++ b | .mkif _ x => [x] | .assert _ _ x => [x] | .ext _ x => [x] | .conv _ x => [x] | .build _ ps => ps.map (·.2.2) | .alloc _ => [] | .box x => [x] | .bslice _ _ _ ps => ps.map (·.2.2)
  | .append _ _ x y => [x, y] | .store _ a v => [a, v] | .call _ args => args | .callv f args => f :: args | .panic x => [x] | .defer f args => f :: args | .chk x => [x] | .b2s x => [x] | .s2b x => [x] | .s2s x => [x] | .mks _ _ _ l c => [l, c] | .peek _ args => args | .isNil _ x => [x] | .clr _ _ x => [x] | .allocR _ _ _ => [] | .idxA _ _ x i => [x, i] | .s2r x => [x] | .appS x y => [x, y] | .sliceA _ _ x => [x] | .growc _ _ x args => x :: args
/-- The operand through which memory is read. -/
def RO.rd : RO → Option Opd
  | .load1 x => some x | .loadA _ x => some x | .idx _ x _ => some x | .idxA _ _ x _ => some x | .slice _ x _ _ => some x | .len x => some x | .b2s x => some x | _ => none
def place : AV → Option Nat | .ptr d _ => some d | .rptr d _ _ _ => some d | .win d _ _ _ => some d | .row d => some d | _ => none
def rdp (s : St) (op : RO) : Option Nat := match op.rd with | some x => place (x.ev s) | none => none
def isNew : RO → Bool | .alloc _ => true | .box _ => true | .bslice _ _ _ _ => true | .mks _ _ _ _ _ => true | _ => false
section
variable {s r : St}
theorem evs_congr : ∀ l : List Opd, (∀ x ∈ l, x.ev r = x.ev s) → evs r l = evs s l
  | [], _ => rfl
  | x :: l, h => by simp only [evs]; rw [h x (by simp), evs_congr l fun y hy => h y (by simp [hy])]
theorem evo_congr : ∀ o : Option Opd, (∀ x ∈ o.toList, x.ev r = x.ev s) → evo r o = evo s o
  | none, _ => rfl
  | some x, h => by simp only [evo]; rw [h x (by simp)]
theorem fillc_congr : ∀ (ps : List (Nat × Nat × Opd)) (z : AV), (∀ x ∈ ps.map (·.2.2), x.ev r = x.ev s) → fillc r z ps = fillc s z ps
  | [], z, _ => rfl
  | (o, n, x) :: q, z, h => by
    have hx : x.ev r = x.ev s := h x (by simp)
    unfold fillc
    rw [hx]
    split
    · split
      · split
        · exact fillc_congr q _ fun y hy => h y (by simp at hy ⊢; exact .inr hy)
        · rfl
      · rfl
    · rfl
theorem aload_congr {f : AV → Option AV} {x : AV} (h : ∀ d, place x = some d → r.b.get d = s.b.get d) : aload f r x = aload f s x := by
  unfold aload
  split
  · rfl
  · rename_i d o; rw [h d rfl]
  · rename_i d sz i o; rw [h d rfl]
  · rfl
theorem aidx_congr {sz : Nat} {x i : AV} (h : ∀ d, place x = some d → r.b.get d = s.b.get d) : aidx sz r x i = aidx sz s x i := by
  unfold aidx
  split
  · rfl
  · rename_i d k a; rw [h d rfl]
  · rename_i d sz1 lo n k a; rw [h d rfl]
  · rfl
theorem aidxA_congr {sz len : Nat} {x i : AV} (h : ∀ d, place x = some d → r.b.get d = s.b.get d) : aidxA sz len r x i = aidxA sz len s x i := by
  unfold aidxA
  split
  · rename_i d k a; rw [h d rfl]
  · rename_i d sz' i' off k a; rw [h d rfl]
  · rfl
theorem aslice_congr {sz : Nat} {x : AV} {lo hi : Option AV} (h : ∀ d, place x = some d → r.b.get d = s.b.get d) : aslice sz r x lo hi = aslice sz s x lo hi := by
  unfold aslice
  split
  · rfl
  · rename_i d; rw [h d rfl]
  · rfl
theorem alen_congr {x : AV} (h : ∀ d, place x = some d → r.b.get d = s.b.get d) : alen r x = alen s x := by
  unfold alen
  split
  · rfl
  · rfl
  · rename_i d; rw [h d rfl]
  · rename_i d _ _ _; rw [h d rfl]
  · rfl
theorem ab2s_congr {x : AV} (h : ∀ d, place x = some d → r.b.get d = s.b.get d) : ab2s r x = ab2s s x := by
  unfold ab2s
  split
  · rfl
  · rfl
  · rename_i d; rw [h d rfl]
  · rfl
theorem qev_congr {op : RO} (h : ∀ x ∈ op.opds, x.ev r = x.ev s) (hb : ∀ d, rdp s op = some d → r.b.get d = s.b.get d) : qev r op = qev s op := by
  cases op
  case load1 x => simp only [qev]; rw [h x (by simp [RO.opds])]; exact aload_congr hb
  case loadA n x => simp only [qev]; rw [h x (by simp [RO.opds])]; exact aload_congr hb
  case idx sz x i => simp only [qev]; rw [h x (by simp [RO.opds]), h i (by simp [RO.opds])]; exact aidx_congr hb
  case len x => simp only [qev]; rw [h x (by simp [RO.opds])]; exact alen_congr hb
  case idxA sz len x i => simp only [qev]; rw [h x (by simp [RO.opds]), h i (by simp [RO.opds])]; exact aidxA_congr hb
  case b2s x => simp only [qev]; rw [h x (by simp [RO.opds])]; exact ab2s_congr hb
  case mm mx xs => simp only [qev]; rw [evs_congr xs h]
  case mkfn f a b => simp only [qev]; rw [evs_congr a fun x hx => h x (by simp [RO.opds, hx]), evs_congr b fun x hx => h x (by simp [RO.opds, hx])]
  case build z ps => simp only [qev]; rw [fillc_congr ps z h]
  case sliceS x lo hi => simp only [qev]; rw [h x (by simp [RO.opds]), evo_congr lo fun y hy => h y (by simp only [RO.opds, List.mem_cons, List.mem_append]; exact .inr (.inl hy)), evo_congr hi fun y hy => h y (by simp only [RO.opds, List.mem_cons, List.mem_append]; exact .inr (.inr hy))]
  case slice sz x lo hi => simp only [qev]; rw [h x (by simp [RO.opds]), evo_congr lo fun y hy => h y (by simp only [RO.opds, List.mem_cons, List.mem_append]; exact .inr (.inl hy)), evo_congr hi fun y hy => h y (by simp only [RO.opds, List.mem_cons, List.mem_append]; exact .inr (.inr hy))]; exact aslice_congr hb
  all_goals (simp only [RO.opds, List.mem_cons, List.not_mem_nil, or_false, forall_eq_or_imp, forall_eq] at h; simp only [qev, h])
/-- What is read is there. -/
theorem gives_live {op : RO} {v : AV} (hg : (qev s op).gives v) {d : Nat} (hd : rdp s op = some d) : s.b.liveAt d := by
  have hl : ∀ f x, (aload f s x).gives v → place x = some d → s.b.liveAt d := by
    intro f x hg hp
    unfold aload at hg
    split at hg
    · cases hp
    · rename_i d' o
      cases hp
      split at hg
      · rename_i c hc; simp [BL.liveAt, hc, Blk.live]
      · exact (gives_bad.1 hg).elim
    · rename_i d' sz i o
      cases hp
      split at hg
      · rename_i c hc; simp [BL.liveAt, hc, Blk.live]
      · exact (gives_bad.1 hg).elim
    · exact (gives_bad.1 hg).elim
  cases op
  case load1 x => exact hl _ _ hg hd
  case loadA n x => exact hl _ _ hg hd
  case idx sz x i =>
    have hd : place (x.ev s) = some d := hd
    simp only [qev] at hg
    unfold aidx at hg
    split at hg
    · rename_i he _; rw [he] at hd; cases hd
    · rename_i d' k a he hi
      rw [he] at hd
      cases hd
      split at hg
      · rename_i c hc; simp [BL.liveAt, hc, Blk.live]
      · exact (gives_bad.1 hg).elim
    · rename_i d' sz1 lo n k a he hi
      rw [he] at hd
      cases hd
      split at hg
      · rename_i c hc; simp [BL.liveAt, hc, Blk.live]
      · exact (gives_bad.1 hg).elim
    · exact (gives_bad.1 hg).elim
  case idxA sz len x i =>
    have hd : place (x.ev s) = some d := hd
    simp only [qev] at hg
    unfold aidxA at hg
    split at hg
    · rename_i d' k a he hi
      rw [he] at hd
      cases hd
      split at hg
      · rename_i c hc; simp [BL.liveAt, hc, Blk.live]
      · exact (gives_bad.1 hg).elim
    · rename_i d' sz' i' off k a he hi
      rw [he] at hd
      cases hd
      split at hg
      · rename_i c hc; simp [BL.liveAt, hc, Blk.live]
      · exact (gives_bad.1 hg).elim
    · exact (gives_bad.1 hg).elim
  case slice sz x lo hi =>
    have hd : place (x.ev s) = some d := hd
    simp only [qev] at hg
    unfold aslice at hg
    split at hg
    · rename_i he; rw [he] at hd; cases hd
    · rename_i d' he
      rw [he] at hd
      cases hd
      split at hg
      · rename_i c hc; simp [BL.liveAt, hc, Blk.live]
      · exact (gives_bad.1 hg).elim
    · exact (gives_bad.1 hg).elim
  case len x =>
    have hd : place (x.ev s) = some d := hd
    simp only [qev] at hg
    unfold alen at hg
    split at hg
    · rename_i he; rw [he] at hd; cases hd
    · rename_i he; rw [he] at hd; cases hd
    · rename_i d' he
      rw [he] at hd
      cases hd
      split at hg
      · rename_i c hc; simp [BL.liveAt, hc, Blk.live]
      · exact (gives_bad.1 hg).elim
    · rename_i d' _ _ _ he
      rw [he] at hd
      cases hd
      split at hg
      · rename_i c hc; simp [BL.liveAt, hc, Blk.live]
      · exact (gives_bad.1 hg).elim
    · exact (gives_bad.1 hg).elim
  case b2s x =>
    have hd : place (x.ev s) = some d := hd
    simp only [qev] at hg
    unfold ab2s at hg
    split at hg
    · rename_i he; rw [he] at hd; cases hd
    · rename_i he; rw [he] at hd; cases hd
    · rename_i d' he
      rw [he] at hd
      cases hd
      split at hg
      · rename_i c hc; simp [BL.liveAt, hc, Blk.live]
      · exact (gives_bad.1 hg).elim
    · exact (gives_bad.1 hg).elim
  all_goals cases hd
/-- What an operation that makes a block makes, at place d. -/
def anew (s : St) : RO → Nat → Option (AV × Blk)
  | .alloc z, d => some (.ptr d 0, .cells z)
  | .box x, d => match (x.ev s).cells with | some c => some (.ptr d 0, .cells c) | none => none
  | .bslice sz z n ps, d => match fillc s (rep z n) ps with
    | some c => match c.stillB, c.scals with
      | true, true => some (.row d, .row sz (fun _ => n) fun i => elemAt sz c (i .o))
      | _, _ => none
    | none => none
  | .mks sz _ z l c, d => match l.ev s, c.ev s with
    | .int _ a, .int _ _ => some (.row d, .row sz (fun _ => (a .o).toNat) fun _ => z)
    | _, _ => none
  | _, _ => none
/-- What it asks. -/
def acond (s : St) : RO → Prop
  | .mks _ bytes _ l c => match l.ev s, c.ev s with
    | .int _ a, .int _ b => 0 ≤ a .o ∧ a .o ≤ b .o ∧ (bytes : Int) * b .o ≤ 281474976710656 ∧ b .o ≤ 9223372036854775807
    | _, _ => True
  | _ => True
theorem acond_congr {op : RO} (h : ∀ x ∈ op.opds, x.ev r = x.ev s) : acond r op = acond s op := by
  cases op <;> simp only [acond]
  case mks sz by' z l c => rw [h l (by simp [RO.opds]), h c (by simp [RO.opds])]
theorem anew_congr {op : RO} {d : Nat} (h : ∀ x ∈ op.opds, x.ev r = x.ev s) : anew r op d = anew s op d := by
  cases op <;> simp only [anew]
  case mks sz by' z l c => rw [h l (by simp [RO.opds]), h c (by simp [RO.opds])]
  case box x => rw [h x (by simp [RO.opds])]
  case bslice sz z n ps => rw [fillc_congr ps _ h]
theorem aop_new {C : Cx} {op : RO} {dst : Option Nat} {K : St → Prop} (hn : isNew op = true) (h : aop C op dst s K) :
    ∃ d v b, dst = some d ∧ fresh s d = true ∧ anew s op d = some (v, b) ∧ acond s op ∧ K (s.new d v b) := by
  cases op <;> simp only [isNew, Bool.false_eq_true] at hn
  case alloc z =>
    simp only [aop] at h
    split at h
    · split at h
      · rename_i d _ hf; exact ⟨d, _, _, rfl, hf, rfl, trivial, h⟩
      · exact h.elim
    · exact h.elim
  case box x =>
    simp only [aop] at h
    split at h
    · rename_i d c hc
      split at h
      · rename_i hf; exact ⟨d, _, _, rfl, hf, by simp only [anew, hc], trivial, h⟩
      · exact h.elim
    · exact h.elim
  case bslice sz z n ps =>
    simp only [aop] at h
    split at h
    · rename_i d c hc
      split at h
      · rename_i hf h1 h2; exact ⟨d, _, _, rfl, hf, by simp only [anew, hc, h1, h2], trivial, h⟩
      · exact h.elim
    · exact h.elim
  case mks sz by' z l c =>
    simp only [aop] at h
    split at h
    · rename_i d k1 a k2 b he1 he2
      split at h
      · rename_i hf
        exact ⟨d, _, _, rfl, hf, by simp only [anew, he1, he2], by simp only [acond, he1, he2]; exact h.1 trivial, h.2⟩
      · exact h.elim
    · exact h.elim
theorem aop_new_mk {C : Cx} {op : RO} {d : Nat} {K : St → Prop} {v : AV} {b : Blk} (hf : fresh s d = true) (ha : anew s op d = some (v, b)) (hc : acond s op) (h : K (s.new d v b)) : aop C op (some d) s K := by
  cases op <;> simp only [anew, reduceCtorEq] at ha
  case alloc z => cases ha; simp only [aop, hf]; exact h
  case box x =>
    split at ha
    · rename_i c hcc; cases ha; simp only [aop, hcc, hf]; exact h
    · cases ha
  case bslice sz z n ps =>
    split at ha
    · rename_i c hcc
      split at ha
      · rename_i h1 h2; cases ha; simp only [aop, hcc, hf, h1, h2]; exact h
      · cases ha
    · cases ha
  case mks sz by' z l c =>
    split at ha
    · rename_i k1 a k2 b he1 he2
      cases ha
      simp only [acond, he1, he2] at hc
      simp only [aop, he1, he2, hf]
      exact ⟨fun _ => hc, h⟩
    · cases ha
theorem aop_quiet_mk {C : Cx} {op : RO} {dst : Option Nat} {K : St → Prop} {v : AV} (hq : isQuiet op = true) (hg : (qev s op).gives v) (h : K (s.setO dst v)) : aop C op dst s K := by
  have key : (match qev s op with | .bad => False | .ok v => K (s.setO dst v) | .cond p v => (True → p .o) ∧ K (s.setO dst v)) := by
    rcases hg with h1 | ⟨p, h1, h2⟩
    · rw [h1]; exact h
    · rw [h1]; exact ⟨fun _ => h2, h⟩
  cases op <;> simp only [isQuiet, Bool.false_eq_true] at hq <;> exact key
def AV.avoid (p : Nat) : AV → Bool
  | .row x => !(x == p)
  | .ptr x _ => !(x == p)
  | .rptr x _ _ _ => !(x == p)
  | .win x _ _ _ => !(x == p)
  | .iptr c => c.avoid p
  | .fn _ a b => match a.avoid p with | true => b.avoid p | false => false
  | .ifc _ v => v.avoid p
  | .agg c => c.avoid p
  | .tup c => c.avoid p
  | .cons h t => match h.avoid p with | true => t.avoid p | false => false
  | _ => true
def Blk.avoid (p : Nat) : Blk → Bool | .cells c => c.avoid p | _ => true
theorem avoid_kill {p : Nat} (x : AV) (h : x.avoid p = true) : x.kill p = x := by
  induction x with
  | row x => simp [AV.avoid] at h; simp [AV.kill, h]
  | ptr x o => simp [AV.avoid] at h; simp [AV.kill, h]
  | rptr x s i o => simp [AV.avoid] at h; simp [AV.kill, h]
  | win x s i o => simp [AV.avoid] at h; simp [AV.kill, h]
  | iptr c ih => simp [AV.kill, ih h]
  | fn f a b iha ihb => unfold AV.avoid at h; split at h
                        · rename_i ha; simp [AV.kill, iha ha, ihb h]
                        · cases h
  | ifc t v ih => simp [AV.kill, ih h]
  | agg c ih => simp [AV.kill, ih h]
  | tup c ih => simp [AV.kill, ih h]
  | cons a b iha ihb => unfold AV.avoid at h; split at h
                        · rename_i ha; simp [AV.kill, iha ha, ihb h]
                        · cases h
  | _ => rfl
theorem avoid_blk {p : Nat} (b : Blk) (h : b.avoid p = true) : b.kill p = b := by
  cases b with
  | cells c => simp [Blk.kill, avoid_kill c h]
  | _ => rfl
end
/-- Forget what an operation that may be late yields. -/
def strip1 (u : ROp) (s : St) : St := match u.dst with
  | some d => match isNew u.op with
    | true => ⟨.cons d .any (s.t.kill d), .cons d .no (s.b.kill d), s.df.kill d⟩
    | false => ⟨.cons d .any s.t, s.b, s.df⟩
  | none => s
def strip : List ROp → St → St | [], s => s | u :: r, s => strip r (strip1 u s)
def aresU (C : Cx) (us : List ROp) (r : ARes) (dst : Option Nat) (s : St) (K : St → Prop) : Prop := match r with
  | .ret v => K (s.setO dst v)
  | .pan v => match v.flat with | true => C.X (some v) (strip us s) | false => False
/-- What may be read later is as it was. -/
def keepK (s : St) (cs : List Nat) (B' : BL) (Q : Prop) : List ROp → Prop
  | [] => Q
  | u :: r => match rdp s u.op with
    | some x => match cs.contains x with
      | true => B'.get x = s.b.get x ∧ keepK s cs B' Q r
      | false => keepK s cs B' Q r
    | none => keepK s cs B' Q r
/-- No block that may yet be to come is among these. -/
def clear (cs : List Nat) : List ROp → Bool
  | [] => true
  | u :: r => match isNew u.op, u.dst with
    | true, some d => match cs.contains d with | true => false | false => clear cs r
    | _, _ => clear cs r
def acallU2 (C : Cx) (us : List ROp) (f : Nat) (asL0 : List AV) (dst : Option Nat) (s : St) (cs : List Nat) (K : St → Prop) : Prop :=
  match fresh s (dst.getD 9999), (chain asL0).among cs, closed s.b cs cs, rowsOf s.b cs, clear (dst.getD 9999 :: cs) us with
  | true, true, true, [], true => CallAt C.P f asL0 (dst.getD 9999) (s.b.pick cs .nil) fun r B' => keepK s cs B' (aresU C us r dst (s.after (dst.getD 9999) cs B') K) us
  | _, _, _, _, _ => False
def acallU1 (C : Cx) (us : List ROp) (f : Nat) (asL0 : List AV) (dst : Option Nat) (s : St) (K : St → Prop) : Prop := acallU2 C us f asL0 dst s (reach s.b 100 ((chain asL0).ids []) []) K
def acallL2 (C : Cx) (us : List ROp) (f : Nat) (asL0 : List AV) (dst : Option Nat) (s0 s : St) (cs : List Nat) (K : St → Prop) : Prop :=
  match fresh s (dst.getD 9999), (chain asL0).among cs, closed s.b cs cs, cs with
  | true, true, true, [] => CallAt C.P f asL0 (dst.getD 9999) .nil fun r B' => match r.flat with
    | true => aresU C us r dst s0 K
    | false => False
  | _, _, _, _ => False
def acallL1 (C : Cx) (us : List ROp) (f : Nat) (asL0 : List AV) (dst : Option Nat) (ds : List Nat) (s0 s : St) (K : St → Prop) : Prop :=
  match clear ds us with
  | true => acallL2 C us f asL0 dst s0 s (reach s.b 100 ((chain asL0).ids []) []) K
  | false => False
def acallU (C : Cx) (us : List ROp) (f : Nat) (asL0 : St → List AV) (dst : Option Nat) (s : St) (K : St → Prop) : List Nat → Prop
  | [] => acallU1 C us f (asL0 s) dst s K
  | d :: ds => acallL1 C us f (asL0 (s.shutL (d :: ds))) dst (d :: ds) s (s.shutL (d :: ds)) K
def acallvU (C : Cx) (us : List ROp) (f : Opd) (args : List Opd) (dst : Option Nat) (ds : List Nat) (s : St) (K : St → Prop) : Prop :=
  match f.ev (s.shutL ds) with
  | .fn (.func g) first caps => acallU C us g (fun s => unchain first ++ (evs s args ++ unchain caps)) dst s K ds
  | _ => False
def evsAvoid (s : St) (p : Nat) : List Opd → Bool
  | [] => true
  | x :: r => match (x.ev s).avoid p with | true => evsAvoid s p r | false => false
/-- Row p may grow while these are to come. -/
def okGrow (s : St) (p : Nat) : List ROp → Bool
  | [] => true
  | u :: r => match evsAvoid s p u.op.opds, (match u.dst with | some d => (match (s.t.get d).avoid p with | true => (s.b.get d).avoid p | false => false) | none => true), (match rdp s u.op with | some x => (s.b.get x).avoid p | none => true) with
    | true, true, true => okGrow s p r
    | _, _, _ => false
def okApp (us : List ROp) (s : St) (x y : Opd) : Bool :=
  match (match place (y.ev s) with | some d => clear [d] us | none => true) with
  | true => match x.ev s with
    | .row p => match clear [p] us with | true => okGrow s p us | false => false
    | _ => true
  | false => false
/-- What is yet to come does not look where a store goes. -/
def noRd (s : St) (d : Nat) : List ROp → Bool
  | [] => true
  | u :: r => match (match rdp s u.op with | some x => x == d | none => false) with | true => false | false => noRd s d r
def okPut (us : List ROp) (s : St) (x : Opd) : Bool := match x.ev s with
  | .ptr d _ => match clear [d] us with | true => noRd s d us | false => false
  | .rptr d _ _ _ => match clear [d] us with | true => noRd s d us | false => false
  | _ => false
/-- Without the blocks that may yet be to come. -/
def stripB : List ROp → BL → BL
  | [], B => B
  | u :: r, B => match isNew u.op, u.dst with
    | true, some d => .cons d .no (stripB r B)
    | _, _ => stripB r B
def adopU (C : Cx) (us : List ROp) (o : RO) (dst : Option Nat) (s : St) (K : St → Prop) : Prop :=
  match o with
  | .call f args => acallU C us f (evs · args) dst s K ((chain (evs s args)).rows [])
  | .callv f args => acallvU C us f args dst ((f.ev s).rows ((chain (evs s args)).rows [])) s K
  | .peek f args => match fresh s (dst.getD 9999), (chain (evs s args)).frz (stripB us s.b) (frzP (stripB us s.b) 8) with
    | true, some c => CallAt C.P f (unchain c) (dst.getD 9999) .nil fun r _ => match r.flat with
      | true => aresU C us r dst s K
      | false => False
    | _, _ => False
  | .append sz bytes x y => match okApp us s x y with | true => aop C (.append sz bytes x y) dst s K | false => False
  | .mov x => K (s.setO dst (x.ev s))
  | .store sz x y => match okPut us s x with | true => aop C (.store sz x y) dst s K | false => False
  | _ => False
def adop (C : Cx) (us : List ROp) (o : RO) (dst : Option Nat) (s : St) (K : St → Prop) : Prop := match us with
  | [] => aop C o dst s K
  | u :: r => adopU C (u :: r) o dst s K
def pickD (all : List DOp) : List Nat → List ROp
  | [] => []
  | i :: r => match all[i]? with | some x => x.o :: pickD all r | none => pickD all r
def adops (C : Cx) (all : List DOp) : List DOp → St → (St → Prop) → Prop
  | [], s, K => K s
  | q :: r, s, K => match q.o.guard with
    | none => adop C (pickD all q.us) q.o.op q.o.dst s fun s' => adops C all r s' K
    | some (t, b) => match s.t.get t with
      | .tt => match b with
        | true => adop C (pickD all q.us) q.o.op q.o.dst s fun s' => adops C all r s' K
        | false => adops C all r (s.setO q.o.dst (.tup .nil)) K
      | .ff => match b with
        | false => adop C (pickD all q.us) q.o.op q.o.dst s fun s' => adops C all r s' K
        | true => adops C all r (s.setO q.o.dst (.tup .nil)) K
      | .bool x => (x .o = b → adop C (pickD all q.us) q.o.op q.o.dst (s.set t (tv b)) fun s' => adops C all r s' K) ∧ (x .o = !b → adops C all r ((s.set t (tv !b)).setO q.o.dst (.tup .nil)) K)
      | .tup .nil => adops C all r (s.setO q.o.dst (.tup .nil)) K
      | _ => False
end Go.Proofs.YtkklflpfklbbcaaDoor.Sx
/- A symbolic executor for the model's code: regions whose order of evaluation is left open: operations that come late. -/
namespace Go.Proofs.YtkklflpfklbbcaaDoor.Sx
open Go
set_option linter.unusedSimpArgs false
set_option linter.unusedVariables false
/-- An operation that is yet to come in the machine. -/
structure Pd where
  i : Nat
  o : ROp
  nw : Bool
def wants (s : St) : Option (Nat × Bool) → Option Bool
  | none => some true
  | some (t, b) => match s.t.get t with | .tt => some b | .ff => some (!b) | .tup .nil => some false | _ => none
def Tel (v v' : AV) : Prop := v' = v ∨ ∃ b : Th Bool, v = .bool b ∧ v' = tv (b .o)
structure PdNew (s : St) (u : ROp) : Prop where
  w : wants s u.guard = some true
  n : isNew u.op = true
  c : acond s u.op
  e : ∃ d v b, u.dst = some d ∧ anew s u.op d = some (v, b) ∧ s.t.get d = v ∧ s.b.get d = b ∧ d < 10000
inductive PdVal (s : St) (u : ROp) : Prop
  | no (w : wants s u.guard = some false) (e : ∀ d, u.dst = some d → s.t.get d = .tup .nil)
  | yes (w : wants s u.guard = some true) (q : isQuiet u.op = true) (v : AV) (g : (qev s u.op).gives v) (e : ∀ d, u.dst = some d → Tel v (s.t.get d))
def PdOk (s : St) (u : Pd) : Prop := match u.nw with | true => PdNew s u.o | false => PdVal s u.o
/-- r is s without what is yet to come. -/
structure Sim (pd : List Pd) (s r : St) : Prop where
  t : ∀ k, (∀ u ∈ pd, u.o.dst ≠ some k) → r.t.get k = s.t.get k
  b : ∀ x, (∀ u ∈ pd, u.nw = true → u.o.dst ≠ some x) → r.b.get x = s.b.get x
  no : ∀ u ∈ pd, u.nw = true → ∀ x, u.o.dst = some x → r.b.get x = .no
  df : r.df = s.df
  ok : ∀ u ∈ pd, PdOk s u
def usesO (op : RO) (t : Nat) : Bool := op.opds.any fun x => match x with | .tmp n => n == t | _ => false
def usesG (g : Option (Nat × Bool)) (t : Nat) : Bool := match g with | some (k, _) => k == t | none => false
def uses (o : ROp) (t : Nat) : Bool := usesO o.op t || usesG o.guard t
def touches (o : ROp) (t : Nat) : Bool := uses o t || (match o.dst with | some d => d == t | none => false)
section
variable {s r s' : St}
theorem usesO_not {op : RO} {t : Nat} (h : usesO op t = false) {x : Opd} (hx : x ∈ op.opds) : x ≠ .tmp t := by
  rintro rfl
  simp only [usesO, List.any_eq_false] at h
  have := h _ hx
  simp at this
theorem ev_eq {x : Opd} (h : ∀ k, x = .tmp k → r.t.get k = s.t.get k) : x.ev r = x.ev s := by
  cases x with
  | tmp k => exact h k rfl
  | val v => rfl
theorem evs_same {op : RO} (h : ∀ k, usesO op k = true → r.t.get k = s.t.get k) : ∀ x ∈ op.opds, x.ev r = x.ev s := by
  intro x hx
  refine ev_eq fun k hk => h k ?_
  subst hk
  simp only [usesO, List.any_eq_true]
  exact ⟨_, hx, by simp⟩
theorem wants_same {g : Option (Nat × Bool)} (h : ∀ k, usesG g k = true → r.t.get k = s.t.get k) : wants r g = wants s g := by
  cases g with
  | none => rfl
  | some p => obtain ⟨t, b⟩ := p; simp only [wants]; rw [h t (by simp [usesG])]
/-- What is yet to come, told of another state. -/
theorem PdOk.to {u : Pd} (h : PdOk s u) (hu : ∀ k, touches u.o k = true → s'.t.get k = s.t.get k) (hr : ∀ x, rdp s u.o.op = some x → s.b.liveAt x → s'.b.get x = s.b.get x)
    (hn : u.nw = true → ∀ d, u.o.dst = some d → s'.b.get d = s.b.get d) : PdOk s' u := by
  have hO : ∀ k, usesO u.o.op k = true → s'.t.get k = s.t.get k := fun k hk => hu k (by simp [touches, uses, hk])
  have hG : ∀ k, usesG u.o.guard k = true → s'.t.get k = s.t.get k := fun k hk => hu k (by simp [touches, uses, hk])
  have hD : ∀ d, u.o.dst = some d → s'.t.get d = s.t.get d := fun d hd => hu d (by simp [touches, hd])
  have he := evs_same hO
  have hw := wants_same hG
  unfold PdOk at h ⊢
  split at h
  · rename_i hnw
    obtain ⟨w, n, c, d, v, b, h1, h2, h3, h4, h5⟩ := h
    exact ⟨hw.trans w, n, (by rw [acond_congr he]; exact c), d, v, b, h1, (anew_congr he).trans h2, (hD d h1).trans h3, (hn hnw d h1).trans h4, h5⟩
  · cases h with
    | no w e => exact .no (hw.trans w) fun d hd => (hD d hd).trans (e d hd)
    | yes w q v g e =>
      have hq : qev s' u.o.op = qev s u.o.op := qev_congr he fun d hd => hr d hd (gives_live g hd)
      exact .yes (hw.trans w) q v (hq ▸ g) fun d hd => hD d hd ▸ e d hd
theorem set_get (d : Nat) (v : AV) (k : Nat) : (s.set d v).t.get k = if d = k then v else s.t.get k := rfl
theorem setO_get (d : Option Nat) (v : AV) (k : Nat) : (s.setO d v).t.get k = if d = some k then v else s.t.get k := by
  cases d with
  | none => simp [St.setO]
  | some d => simp only [St.setO, Option.some.injEq]; rfl
theorem setO_b (d : Option Nat) (v : AV) : (s.setO d v).b = s.b := by cases d <;> rfl
theorem setO_df (d : Option Nat) (v : AV) : (s.setO d v).df = s.df := by cases d <;> rfl
theorem PdOk.setO {u : Pd} (h : PdOk s u) {d : Option Nat} {v : AV} (hd : ∀ k, d = some k → touches u.o k = false) : PdOk (s.setO d v) u := by
  refine h.to (fun k hk => ?_) (fun x _ _ => by rw [setO_b]) (fun _ x _ => by rw [setO_b])
  rw [setO_get, if_neg]
  intro he
  rw [hd k he] at hk
  cases hk
/-- s and r have the same temporary set. -/
theorem Sim.setO {pd : List Pd} (h : Sim pd s r) {d : Option Nat} {v : AV} (hd : ∀ u ∈ pd, ∀ k, d = some k → touches u.o k = false) : Sim pd (s.setO d v) (r.setO d v) := by
  refine ⟨fun k hk => ?_, fun x hx => ?_, fun u hu hn x hx => ?_, ?_, fun u hu => (h.ok u hu).setO (hd u hu)⟩
  · rw [setO_get, setO_get, h.t k hk]
  · rw [setO_b, setO_b, h.b x hx]
  · rw [setO_b]; exact h.no u hu hn x hx
  · rw [setO_df, setO_df, h.df]
/-- A value that s has, and r has not yet. -/
theorem Sim.late {pd : List Pd} (h : Sim pd s r) {u : ROp} {i : Nat} {v : AV} (hd : ∀ w ∈ pd, ∀ k, u.dst = some k → touches w.o k = false) (hok : PdOk (s.setO u.dst v) ⟨i, u, false⟩) : Sim (⟨i, u, false⟩ :: pd) (s.setO u.dst v) r := by
  refine ⟨fun k hk => ?_, fun x hx => ?_, fun w hw hn x hx => ?_, ?_, fun w hw => ?_⟩
  · rw [setO_get, if_neg (hk _ (List.mem_cons_self ..))]
    exact h.t k fun w hw => hk w (List.mem_cons_of_mem _ hw)
  · rw [setO_b]; exact h.b x fun w hw => hx w (List.mem_cons_of_mem _ hw)
  · rcases List.mem_cons.1 hw with rfl | hw
    · cases hn
    · exact h.no w hw hn x hx
  · rw [setO_df]; exact h.df
  · rcases List.mem_cons.1 hw with rfl | hw
    · exact hok
    · exact (h.ok w hw).setO (hd w hw)
theorem new_get (d : Nat) (v : AV) (b : Blk) (k : Nat) : (s.new d v b).t.get k = if d = k then v else s.t.get k := rfl
theorem new_b (d : Nat) (v : AV) (b : Blk) (k : Nat) : (s.new d v b).b.get k = if d = k then b else s.b.get k := rfl
theorem dead_no {B : BL} {d : Nat} (h : ¬ B.liveAt d) : B.get d = .no := by
  unfold BL.liveAt at h
  cases hb : B.get d with
  | no => rfl
  | _ => rw [hb] at h; exact absurd rfl h
theorem PdOk.new {u : Pd} (h : PdOk s u) {d : Nat} {v : AV} {b : Blk} (hf : ¬ s.b.liveAt d) (hd : touches u.o d = false) : PdOk (s.new d v b) u := by
  refine h.to (fun k hk => ?_) (fun x _ hx => ?_) (fun _ x hx => ?_)
  · rw [new_get, if_neg]; rintro rfl; rw [hd] at hk; cases hk
  · rw [new_b, if_neg]; rintro rfl; exact hf hx
  · rw [new_b, if_neg]
    rintro rfl
    simp [touches, hx] at hd
theorem Sim.lateNew {pd : List Pd} (h : Sim pd s r) {u : ROp} {i d : Nat} {v : AV} {b : Blk} (hu : u.dst = some d) (hf : ¬ s.b.liveAt d) (hd : ∀ w ∈ pd, touches w.o d = false) (hok : PdOk (s.new d v b) ⟨i, u, true⟩) : Sim (⟨i, u, true⟩ :: pd) (s.new d v b) r := by
  refine ⟨fun k hk => ?_, fun x hx => ?_, fun w hw hn x hx => ?_, h.df, fun w hw => ?_⟩
  · rw [new_get, if_neg (fun e : d = k => hk _ (List.mem_cons_self ..) (by rw [← e]; exact hu))]
    exact h.t k fun w hw => hk w (List.mem_cons_of_mem _ hw)
  · rw [new_b, if_neg (fun e : d = x => hx _ (List.mem_cons_self ..) rfl (by rw [← e]; exact hu))]
    exact h.b x fun w hw => hx w (List.mem_cons_of_mem _ hw)
  · rcases List.mem_cons.1 hw with rfl | hw
    · have : d = x := by simpa [hu] using hx
      subst this
      rw [h.b d fun w hw _ e => by have := hd w hw; simp [touches, e] at this]
      exact dead_no hf
    · exact h.no w hw hn x hx
  · rcases List.mem_cons.1 hw with rfl | hw
    · exact hok
    · exact (h.ok w hw).new hf (hd w hw)
theorem Sim.new {pd : List Pd} (h : Sim pd s r) {d : Nat} {v : AV} {b : Blk} (hf : ¬ s.b.liveAt d) (hd : ∀ w ∈ pd, touches w.o d = false) : Sim pd (s.new d v b) (r.new d v b) := by
  refine ⟨fun k hk => ?_, fun x hx => ?_, fun w hw hn x hx => ?_, h.df, fun w hw => (h.ok w hw).new hf (hd w hw)⟩
  · rw [new_get, new_get, h.t k hk]
  · rw [new_b, new_b, h.b x hx]
  · rw [new_b, if_neg]
    · exact h.no w hw hn x hx
    · rintro rfl; have := hd w hw; simp [touches, hx] at this
/-- A place that nothing to come is to fill. -/
theorem Sim.dead {pd : List Pd} (h : Sim pd s r) {d : Nat} (hd : ∀ w ∈ pd, touches w.o d = false) : r.b.get d = s.b.get d :=
  h.b d fun w hw _ e => by have := hd w hw; simp [touches, e] at this
/-- What is known of a guard. -/
theorem Sim.know {pd : List Pd} (h : Sim pd s r) {t : Nat} {x : Th Bool} (ht : s.t.get t = .bool x) (hu : ∀ w ∈ pd, usesO w.o.op t = false) :
    Sim pd (s.set t (tv (x .o))) r ∨ (r.t.get t = .bool x ∧ Sim pd (s.set t (tv (x .o))) (r.set t (tv (x .o)))) := by
  have hok : ∀ w ∈ pd, PdOk (s.set t (tv (x .o))) w := by
    intro w hw
    have h0 := h.ok w hw
    have hg : ∀ {b}, wants s w.o.guard = some b → ∀ k, usesG w.o.guard k = true → k ≠ t := by
      intro b hb k hk e
      subst e
      unfold usesG at hk
      split at hk
      · rename_i g c hg
        have : g = k := by simpa using hk
        subst this
        rw [hg] at hb
        simp [wants, ht] at hb
      · cases hk
    have hO := hu w hw
    have he : ∀ y ∈ w.o.op.opds, y.ev (s.set t (tv (x .o))) = y.ev s := by
      intro y hy
      refine ev_eq fun k hk => ?_
      rw [set_get, if_neg]
      rintro rfl
      exact usesO_not hO hy hk
    have hw' : ∀ {b}, wants s w.o.guard = some b → wants (s.set t (tv (x .o))) w.o.guard = wants s w.o.guard := fun hb => wants_same fun k hk => by
      rw [set_get, if_neg fun e => hg hb k hk e.symm]
    unfold PdOk at h0 ⊢
    split at h0
    · obtain ⟨w1, n, c, d, v, b, h1, h2, h3, h4, h5⟩ := h0
      refine ⟨(hw' w1).trans w1, n, (by rw [acond_congr he]; exact c), d, v, b, h1, (anew_congr he).trans h2, ?_, h4, h5⟩
      rw [set_get, if_neg]
      · exact h3
      · rintro rfl
        rw [ht] at h3
        subst h3
        cases hop : w.o.op <;> rw [hop] at h2 <;> simp only [anew, reduceCtorEq, Option.some.injEq, Prod.mk.injEq, false_and] at h2
        · split at h2 <;> simp at h2
        · split at h2
          · split at h2 <;> simp at h2
          · cases h2
        · split at h2 <;> simp at h2
    · cases h0 with
      | no w1 e =>
        refine .no ((hw' w1).trans w1) fun d hd => ?_
        rw [set_get, if_neg]
        · exact e d hd
        · rintro rfl; have := e t hd; rw [ht] at this; cases this
      | yes w1 q v g e =>
        have hq : qev (s.set t (tv (x .o))) w.o.op = qev s w.o.op := qev_congr he fun d hd => rfl
        refine .yes ((hw' w1).trans w1) q v (hq ▸ g) fun d hd => ?_
        rw [set_get]
        split
        · rename_i htd
          subst htd
          rcases e t hd with h1 | ⟨b, h1, h2⟩
          · exact .inr ⟨x, h1.symm.trans ht, rfl⟩
          · rw [ht] at h2; cases hb : b .o <;> rw [hb] at h2 <;> cases h2
        · exact e d hd
  by_cases hp : ∃ u ∈ pd, u.o.dst = some t
  · refine .inl ⟨fun k hk => ?_, h.b, h.no, h.df, hok⟩
    obtain ⟨u, hu, hd⟩ := hp
    rw [set_get, if_neg]
    · exact h.t k hk
    · rintro rfl; exact hk u hu hd
  · have hp : ∀ u ∈ pd, u.o.dst ≠ some t := fun u hu e => hp ⟨u, hu, e⟩
    refine .inr ⟨(h.t t hp).trans ht, fun k hk => ?_, h.b, h.no, h.df, hok⟩
    rw [set_get, set_get, h.t k hk]
end
section
variable {N : Nat} {E0 : Env} {B0 : BL} {E : Env} {s r : St} {a : Act}
/-- Two states that tell the same. -/
theorem Rel.congr (h : Rel N E0 B0 E r a) (ht : ∀ k, r.t.get k = s.t.get k) (hb : ∀ x, r.b.get x = s.b.get x) (hd : r.df = s.df) : Rel N E0 B0 E s a := by
  have hl : ∀ x, s.b.liveAt x ↔ r.b.liveAt x := fun x => by unfold BL.liveAt; rw [hb x]
  have hs : ∀ x, solidAt E s.b x ↔ solidAt E r.b x := fun x => by unfold solidAt; rw [hb x]
  have hp := h.post
  exact ⟨fun k => ht k ▸ h.tmps k, ⟨fun x => hb x ▸ h.inv.blk x, fun x y hx hy => h.inv.dist x y ((hs x).1 hx) ((hs y).1 hy), fun x hx => h.inv.live x ((hs x).1 hx), h.inv.ibd, fun x z hz => (hl z).2 (h.inv.nm x z (by rw [hb x]; exact hz))⟩,
    fun k z hz => (hl z).2 (h.tn k z (by rw [ht k]; exact hz)), h.sz, hd ▸ h.df, fun z hz => (hl z).2 (h.dn z (by rw [hd]; exact hz)),
    ⟨hp.le, hp.same, fun x hx hr => by rw [← hb x]; exact hp.kind x hx hr, hp.os, hp.tape, hp.output, hp.size, hp.old, fun x hx => hp.dom x ((hl x).1 hx), fun x hx => hp.new x ((hs x).1 hx), fun x hx => (hl x).2 (hp.keep x hx), hp.imm⟩⟩
/-- A slot forgotten. -/
theorem Rel.forget (h : Rel N E0 B0 E s a) (d : Nat) : Rel N E0 B0 E (s.set d .any) a := by
  refine ⟨fun n => ?_, h.inv, fun n y hy => ?_, h.sz, h.df, h.dn, h.post⟩
  · show Rp E ((AL.cons d .any s.t).get n) _
    rw [AL.get_cons]
    split
    · trivial
    · exact h.tmps n
  · change ((AL.cons d .any s.t).get n).locs y at hy
    rw [AL.get_cons] at hy
    split at hy
    · exact hy.elim
    · exact h.tn n y hy
/-- A block of one's own that nothing names, forgotten. -/
theorem Rel.drop (h : Rel N E0 B0 E s a) {d : Nat} (hB0 : ¬ B0.liveAt d) (ht : ∀ k, ¬ (s.t.get k).locs d) (hd : ¬ s.df.locs d) (hb : ∀ x, ¬ (s.b.get x).locs d) : Rel N E0 B0 E ⟨s.t, .cons d .no s.b, s.df⟩ a := by
  have hg : ∀ x, (BL.cons d .no s.b).get x = if d = x then .no else s.b.get x := fun x => rfl
  have hl : ∀ x, (BL.cons d .no s.b).liveAt x → s.b.liveAt x := fun x hx => by
    unfold BL.liveAt at hx ⊢
    rw [hg] at hx
    split at hx
    · cases hx
    · exact hx
  have hl' : ∀ x, x ≠ d → s.b.liveAt x → (BL.cons d .no s.b).liveAt x := fun x hn hx => by unfold BL.liveAt at hx ⊢; rw [hg, if_neg (Ne.symm hn)]; exact hx
  have hs : ∀ x, solidAt E (.cons d .no s.b) x → solidAt E s.b x := fun x hx => by
    unfold solidAt at hx ⊢
    rw [hg] at hx
    split at hx
    · exact hx.elim
    · exact hx
  have hp := h.post
  refine ⟨h.tmps, ⟨fun x => ?_, fun x y hx hy => h.inv.dist x y (hs x hx) (hs y hy), fun x hx => h.inv.live x (hs x hx), h.inv.ibd, fun x z hz => ?_⟩, fun k z hz => hl' z (fun e => ht k (e ▸ hz)) (h.tn k z hz), h.sz, h.df, fun z hz => hl' z (fun e => hd (e ▸ hz)) (h.dn z hz),
    ⟨hp.le, hp.same, fun x hx hr => ?_, hp.os, hp.tape, hp.output, hp.size, hp.old, fun x hx => hp.dom x (hl x hx), fun x hx => hp.new x (hs x hx), fun x hx => hl' x (fun e => hB0 (e ▸ hx)) (hp.keep x hx), hp.imm⟩⟩
  · rw [hg]
    split
    · trivial
    · exact h.inv.blk x
  · have hz : ((BL.cons d .no s.b).get x).locs z := hz
    rw [hg] at hz
    split at hz
    · exact hz.elim
    · exact hl' z (fun e => hb x (e ▸ hz)) (h.inv.nm x z hz)
  · show ((BL.cons d .no s.b).get x).isRow = false
    rw [hg]
    split
    · rfl
    · exact hp.kind x hx hr
end
end Go.Proofs.YtkklflpfklbbcaaDoor.Sx
/- A symbolic executor for the model's code: regions whose order of evaluation is left open: calls and appends ahead of what comes late. -/
namespace Go.Proofs.YtkklflpfklbbcaaDoor.Sx
open Go
set_option linter.unusedSimpArgs false
set_option linter.unusedVariables false
/-- The states' like, where a panic is told without what may come late. -/
def Cx.late (C : Cx) (us : List ROp) (pd : List Pd) : Cx := ⟨C.P, C.N, fun p r' => ∃ s' v, p = some v ∧ v.flat = true ∧ Sim pd s' r' ∧ C.X p (strip us s')⟩
def Klate (K : St → Prop) (pd : List Pd) (r' : St) : Prop := ∃ s', K s' ∧ Sim pd s' r'
theorem clear_spec {cs : List Nat} : ∀ {us : List ROp}, clear cs us = true → ∀ u ∈ us, isNew u.op = true → ∀ d, u.dst = some d → d ∉ cs
  | [], _, u, hu => by simp at hu
  | w :: us, h, u, hu => by
    intro hn d hd hm
    unfold clear at h
    split at h
    · rename_i d' h1 h2
      split at h
      · cases h
      · rename_i h3
        rcases List.mem_cons.1 hu with rfl | hu
        · rw [h2] at hd; cases hd; simp at h3; exact h3 hm
        · exact clear_spec h u hu hn d hd hm
    · rename_i h1
      rcases List.mem_cons.1 hu with rfl | hu
      · exact h1 d hn hd
      · exact clear_spec h u hu hn d hd hm
theorem reach_seen {B : BL} : ∀ (f : Nat) (l seen : List Nat) (y : Nat), y ∈ seen → y ∈ reach B f l seen
  | 0, l, seen, y, h => h
  | f + 1, [], seen, y, h => h
  | f + 1, x :: r, seen, y, h => by
    unfold reach
    split
    · exact reach_seen f r seen y h
    · exact reach_seen f _ _ y (List.mem_cons_of_mem _ h)
theorem reach_congr {B B' : BL} : ∀ (f : Nat) (l seen : List Nat), (∀ x ∈ reach B f l seen, B'.get x = B.get x) → reach B' f l seen = reach B f l seen
  | 0, l, seen, h => rfl
  | f + 1, [], seen, h => rfl
  | f + 1, x :: r, seen, h => by
    unfold reach at h ⊢
    split
    · rename_i hs; rw [hs] at h; exact reach_congr f r seen h
    · rename_i hs
      rw [hs] at h
      simp only at h
      rw [h x (reach_seen f _ _ x (by simp))]
      exact reach_congr f _ _ h
theorem closed_congr {B B' : BL} {l : List Nat} : ∀ {r : List Nat}, (∀ x ∈ r, B'.get x = B.get x) → closed B' l r = closed B l r
  | [], _ => rfl
  | x :: r, h => by
    unfold closed
    rw [h x (by simp), closed_congr (r := r) fun y hy => h y (by simp [hy])]
theorem pick_congr {B B' R : BL} : ∀ {r : List Nat}, (∀ x ∈ r, B'.get x = B.get x) → B'.pick r R = B.pick r R
  | [], _ => rfl
  | x :: r, h => by
    unfold BL.pick
    rw [h x (by simp), pick_congr (r := r) fun y hy => h y (by simp [hy])]
theorem rowsOf_congr {B B' : BL} : ∀ {r : List Nat}, (∀ x ∈ r, B'.get x = B.get x) → rowsOf B' r = rowsOf B r
  | [], _ => rfl
  | x :: r, h => by
    unfold rowsOf
    rw [h x (by simp), rowsOf_congr (r := r) fun y hy => h y (by simp [hy])]
theorem al_kills_nil (l : AL) : l.kills [] = l := by cases l <;> rfl
theorem bl_kills_nil (l : BL) : l.kills [] = l := by cases l <;> rfl
section
variable {C : Cx} {pd : List Pd} {us : List ROp} {s r : St} {K : St → Prop} {dst : Option Nat}
theorem after_t {d : Nat} {cs : List Nat} {B' : BL} (h : rowsOf s.b cs = []) : (s.after d cs B').t = s.t := by unfold St.after; rw [h]; exact al_kills_nil _
theorem after_df {d : Nat} {cs : List Nat} {B' : BL} (h : rowsOf s.b cs = []) : (s.after d cs B').df = s.df := by unfold St.after; rw [h]; exact kills_nil _
theorem after_b {d : Nat} {cs : List Nat} {B' : BL} (h : rowsOf s.b cs = []) (x : Nat) : (s.after d cs B').b.get x = if (B'.get d).live = true ∧ d = x then B'.get d else if x ∈ cs then B'.get x else s.b.get x := by
  unfold St.after
  rw [h]
  simp only [bl_kills_nil]
  split
  · rename_i hl
    rw [BL.get_cons, pick_get]
    by_cases hx : d = x
    · rw [if_pos hx, if_pos ⟨hl, hx⟩]
    · simp [hl, hx]
  · rename_i hl
    rw [pick_get]
    simp [hl]
theorem keepK_spec {cs : List Nat} {B' : BL} {Q : Prop} : ∀ {us : List ROp}, keepK s cs B' Q us → Q ∧ ∀ u ∈ us, ∀ x, rdp s u.op = some x → x ∈ cs → B'.get x = s.b.get x
  | [], h => ⟨h, fun u hu => by simp at hu⟩
  | w :: us, h => by
    unfold keepK at h
    split at h
    · rename_i x hx
      split at h
      · obtain ⟨h1, h2⟩ := h
        obtain ⟨h3, h4⟩ := keepK_spec h2
        refine ⟨h3, fun u hu y hy hm => ?_⟩
        rcases List.mem_cons.1 hu with rfl | hu
        · rw [hx] at hy; cases hy; exact h1
        · exact h4 u hu y hy hm
      · rename_i hc
        obtain ⟨h3, h4⟩ := keepK_spec h
        refine ⟨h3, fun u hu y hy hm => ?_⟩
        rcases List.mem_cons.1 hu with rfl | hu
        · rw [hx] at hy; cases hy; simp at hc; exact (hc hm).elim
        · exact h4 u hu y hy hm
    · rename_i hx
      obtain ⟨h3, h4⟩ := keepK_spec h
      refine ⟨h3, fun u hu y hy hm => ?_⟩
      rcases List.mem_cons.1 hu with rfl | hu
      · rw [hx] at hy; cases hy
      · exact h4 u hu y hy hm
theorem pd_new {u : Pd} (h : PdOk s u) (hn : u.nw = true) : isNew u.o.op = true := by
  unfold PdOk at h; rw [hn] at h; exact h.n
theorem aresU_late {v : ARes} (hS : Sim pd s r) (hd : ∀ u ∈ pd, ∀ k, dst = some k → touches u.o k = false) (h : aresU C us v dst s K) : ares (C.late us pd) v dst r (Klate K pd) := by
  cases v with
  | ret v => exact ⟨_, h, hS.setO hd⟩
  | pan v =>
    simp only [aresU] at h
    split at h
    · rename_i hf; exact ⟨s, v, rfl, hf, hS, h⟩
    · exact h.elim
/-- States alike in some temporaries and places. -/
structure Agree (T X : Nat → Prop) (s r : St) : Prop where
  t : ∀ k, T k → r.t.get k = s.t.get k
  b : ∀ x, X x → r.b.get x = s.b.get x
theorem Agree.shut1 {T X : Nat → Prop} (h : Agree T X s r) {d : Nat} (hd : X d) : Agree T X (s.shut1 d) (r.shut1 d) := by
  unfold St.shut1
  rw [h.b d hd]
  split
  · refine ⟨fun k hk => ?_, fun x hx => ?_⟩
    · simp only [al_fz]; rw [h.t k hk]
    · show (BL.cons d .no _).get x = (BL.cons d .no _).get x
      rw [BL.get_cons, BL.get_cons, bl_fz, bl_fz, h.b x hx]
  · exact h
theorem Agree.shutL {T X : Nat → Prop} : ∀ {ds : List Nat} {s r : St}, Agree T X s r → (∀ d ∈ ds, X d) → Agree T X (s.shutL ds) (r.shutL ds)
  | [], s, r, h, _ => h
  | d :: ds, s, r, h, hd => Agree.shutL (ds := ds) (s := s.shut1 d) (r := r.shut1 d) (h.shut1 (hd d (by simp))) fun y hy => hd y (by simp [hy])
theorem acallU2_late {E0 : Env} {B0 : BL} {f : Nat} {asL0 : List AV} {cs : List Nat} (hS : Sim pd s r) (hus : ∀ u ∈ pd, u.o ∈ us) (hd : ∀ u ∈ pd, ∀ k, dst = some k → touches u.o k = false)
    (hcs : ∀ x ∈ cs, x ∈ cs) (h : acallU2 C us f asL0 dst s cs K) : acall2 (C.late us pd) f asL0 dst [] r r cs (Klate K pd) ∧ ∀ x ∈ cs, r.b.get x = s.b.get x := by
  unfold acallU2 at h
  split at h
  rotate_left
  · exact h.elim
  rename_i h1 h2 h3 h4 h5
  have hcl := clear_spec h5
  have hne : ∀ u ∈ pd, u.nw = true → ∀ x, u.o.dst = some x → x ∉ dst.getD 9999 :: cs := fun u hu hn x hx => hcl u.o (hus u hu) (pd_new (hS.ok u hu) hn) x hx
  have hget : ∀ x ∈ dst.getD 9999 :: cs, r.b.get x = s.b.get x := fun x hx => hS.b x fun u hu hn e => hne u hu hn x e hx
  have hcs' : ∀ x ∈ cs, r.b.get x = s.b.get x := fun x hx => hget x (List.mem_cons_of_mem _ hx)
  refine ⟨?_, hcs'⟩
  unfold acall2
  have hf : fresh r (dst.getD 9999) = fresh s (dst.getD 9999) := by unfold fresh; rw [hget _ (List.mem_cons_self ..)]
  rw [hf, h1, h2, closed_congr hcs', h3]
  simp only
  rw [pick_congr hcs']
  have hr4 : rowsOf r.b cs = [] := (rowsOf_congr hcs').trans h4
  refine h.mono fun v B' hk => ?_
  obtain ⟨h6, h7⟩ := keepK_spec hk
  refine aresU_late ?_ hd h6
  obtain ⟨hdead, _⟩ := fresh_spec h1
  refine ⟨fun k hk' => by rw [after_t h4, after_t hr4]; exact hS.t k hk', fun x hx => by rw [after_b h4, after_b hr4, hS.b x hx], fun u hu hn x hx => ?_, by rw [after_df h4, after_df hr4, hS.df], fun u hu => ?_⟩
  · have := hne u hu hn x hx
    rw [after_b hr4, if_neg (fun q => this (by rw [← q.2]; simp)), if_neg (fun q => this (List.mem_cons_of_mem _ q))]
    exact hS.no u hu hn x hx
  · refine (hS.ok u hu).to (fun k _ => by rw [after_t h4]) (fun x hx hl => ?_) fun hn x hx => ?_
    · rw [after_b h4, if_neg (fun q => hdead (by rw [q.2]; exact hl))]
      split
      · rename_i hm; exact h7 u.o (hus u hu) x hx hm
      · rfl
    · have := hne u hu hn x hx
      rw [after_b h4, if_neg (fun q => this (by rw [← q.2]; simp)), if_neg (fun q => this (List.mem_cons_of_mem _ q))]
theorem acallU_late {f : Nat} {asL0 : St → List AV} {ds : List Nat} (hS : Sim pd s r) (hus : ∀ u ∈ pd, u.o ∈ us) (hd : ∀ u ∈ pd, ∀ k, dst = some k → touches u.o k = false)
    (has : ∀ s' r', Agree (fun k => ∀ u ∈ pd, u.o.dst ≠ some k) (fun x => ∀ u ∈ pd, u.nw = true → u.o.dst ≠ some x) s' r' → asL0 r' = asL0 s')
    (h : acallU C us f asL0 dst s K ds) : acall (C.late us pd) f asL0 dst ds r (r.shutL ds) (Klate K pd) := by
  have hA : Agree (fun k => ∀ u ∈ pd, u.o.dst ≠ some k) (fun x => ∀ u ∈ pd, u.nw = true → u.o.dst ≠ some x) s r := ⟨hS.t, hS.b⟩
  unfold acall acall1
  unfold acallU at h
  split at h
  · unfold acallU1 at h
    show acall2 _ _ (asL0 r) _ _ _ r (reach r.b 100 ((chain (asL0 r)).ids []) []) _
    rw [has s r hA]
    obtain ⟨h1, h2⟩ := acallU2_late (E0 := ⟨fun _ => 0, fun _ => undef, fun _ _ => False, default⟩) (B0 := .nil) hS hus hd (fun _ h => h) h
    rw [reach_congr 100 _ _ h2]
    exact h1
  · rename_i d0 ds
    unfold acallL1 at h
    split at h
    rotate_left
    · exact h.elim
    rename_i hcl
    have hne : ∀ x ∈ d0 :: ds, ∀ u ∈ pd, u.nw = true → u.o.dst ≠ some x := fun x hx u hu hn e => clear_spec hcl u.o (hus u hu) (pd_new (hS.ok u hu) hn) x e hx
    have hA1 := hA.shutL hne
    rw [has _ _ hA1]
    unfold acallL2 at h
    split at h
    rotate_left
    · exact h.elim
    rename_i h1 h2 h3 h4
    rw [reach_congr (B := (s.shutL (d0 :: ds)).b) 100 _ _ (fun x hx => by rw [h4] at hx; simp at hx), h4]
    unfold acall2
    have hfr : fresh (r.shutL (d0 :: ds)) (dst.getD 9999) = fresh (s.shutL (d0 :: ds)) (dst.getD 9999) ∨ fresh (r.shutL (d0 :: ds)) (dst.getD 9999) = true := by
      unfold fresh
      by_cases hx : ∀ u ∈ pd, u.nw = true → u.o.dst ≠ some (dst.getD 9999)
      · rw [hA1.b _ hx]; exact .inl rfl
      · right
        have hno : r.b.get (dst.getD 9999) = .no := by
          rcases Classical.not_forall.1 hx with ⟨u, hx⟩
          rcases Classical.not_imp.1 hx with ⟨hu, hx⟩
          rcases Classical.not_imp.1 hx with ⟨hn, hx⟩
          exact hS.no u hu hn _ (Classical.not_not.1 hx)
        have hlt := (fresh_spec h1).2
        have : ∀ (ds : List Nat) (q : St), q.b.get (dst.getD 9999) = .no → ((q.shutL ds).b.get (dst.getD 9999)).live = false := by
          intro ds
          induction ds with
          | nil => intro q hq; show (q.b.get _).live = false; rw [hq]; rfl
          | cons d ds ih =>
            intro q hq
            refine ih (q.shut1 d) ?_
            unfold St.shut1
            split
            · show (BL.cons d .no _).get _ = _
              rw [BL.get_cons, bl_fz, hq]
              split <;> rfl
            · exact hq
        rw [this _ r hno]
        simp only [ltB]
        simpa using hlt
    have hf : fresh (r.shutL (d0 :: ds)) (dst.getD 9999) = true := hfr.elim (fun q => q.trans h1) id
    rw [h4] at h2
    rw [hf, h2]
    simp only [closed]
    refine h.mono fun v B' hk => ?_
    split at hk
    · rename_i hfl
      rw [hfl]
      exact aresU_late hS hd hk
    · exact hk.elim
theorem AppAt.mono {bytes : Nat} {n m : Th Nat} {g gy : Th Nat → AV} {K K' : Th Nat → (Th Nat → AV) → Prop} (h : AppAt bytes n m g gy K) (hk : ∀ n' g', K n' g' → K' n' g') : AppAt bytes n m g gy K' := by
  obtain ⟨h1, n', g', h2, h3, h4, h5⟩ := h
  exact ⟨h1, n', g', h2, h3, h4, hk _ _ h5⟩
theorem evsAvoid_spec {p : Nat} : ∀ {l : List Opd}, evsAvoid s p l = true → ∀ x ∈ l, (x.ev s).avoid p = true
  | [], _, x, hx => by simp at hx
  | y :: l, h, x, hx => by
    unfold evsAvoid at h
    split at h
    · rename_i hy
      rcases List.mem_cons.1 hx with rfl | hx
      · exact hy
      · exact evsAvoid_spec h x hx
    · cases h
theorem place_avoid {p x : Nat} {v : AV} (h : v.avoid p = true) (hp : place v = some x) : x ≠ p := by
  unfold place at hp
  split at hp <;> simp_all [AV.avoid]
theorem okGrow_spec {p : Nat} : ∀ {us : List ROp}, okGrow s p us = true → ∀ u ∈ us, (∀ x ∈ u.op.opds, (x.ev s).avoid p = true) ∧ (∀ d, u.dst = some d → (s.t.get d).avoid p = true ∧ (s.b.get d).avoid p = true) ∧ ∀ x, rdp s u.op = some x → (s.b.get x).avoid p = true
  | [], _, u, hu => by simp at hu
  | w :: us, h, u, hu => by
    unfold okGrow at h
    split at h
    · rename_i h1 h2 h3
      rcases List.mem_cons.1 hu with rfl | hu
      · refine ⟨evsAvoid_spec h1, fun d hd => ?_, fun x hx => ?_⟩
        · rw [hd] at h2
          simp only at h2
          split at h2
          · rename_i h4; exact ⟨h4, h2⟩
          · cases h2
        · rw [hx] at h3; exact h3
      · exact okGrow_spec h u hu
    · cases h
theorem Sim.grow {p : Nat} {b : Blk} (hS : Sim pd s r) (hus : ∀ u ∈ pd, u.o ∈ us) (hg : okGrow s p us = true) (hc : clear [p] us = true) : Sim pd (s.grow p b) (r.grow p b) := by
  have hne : ∀ u ∈ pd, u.nw = true → ∀ x, u.o.dst = some x → x ≠ p := fun u hu hn x hx e => clear_spec hc u.o (hus u hu) (pd_new (hS.ok u hu) hn) x hx (by simp [e])
  refine ⟨fun k hk => ?_, fun x hx => ?_, fun u hu hn x hx => ?_, ?_, fun u hu => ?_⟩
  · show (r.t.kill p).get k = (s.t.kill p).get k
    rw [al_kill_get, al_kill_get, hS.t k hk]
  · show (BL.cons p b (r.b.kill p)).get x = (BL.cons p b (s.b.kill p)).get x
    rw [BL.get_cons, BL.get_cons, bl_kill_get, bl_kill_get, hS.b x hx]
  · show (BL.cons p b (r.b.kill p)).get x = _
    rw [BL.get_cons, if_neg (Ne.symm (hne u hu hn x hx)), bl_kill_get, hS.no u hu hn x hx]; rfl
  · show r.df.kill p = s.df.kill p
    rw [hS.df]
  · obtain ⟨g1, g2, g3⟩ := okGrow_spec hg u.o (hus u hu)
    have hok := hS.ok u hu
    have hw : ∃ w, wants s u.o.guard = some w := by
      unfold PdOk at hok
      split at hok
      · exact ⟨_, hok.w⟩
      · cases hok with
        | no w _ => exact ⟨_, w⟩
        | yes w _ _ _ _ => exact ⟨_, w⟩
    refine hok.to (fun k hk => ?_) (fun x hx hl => ?_) fun hn x hx => ?_
    · show (s.t.kill p).get k = _
      rw [al_kill_get]
      unfold touches uses at hk
      simp only [Bool.or_eq_true] at hk
      rcases hk with (hk | hk) | hk
      · simp only [usesO, List.any_eq_true] at hk
        obtain ⟨x, hx, hx'⟩ := hk
        cases x with
        | tmp n => have : n = k := by simpa using hx'
                   subst this; exact avoid_kill _ (g1 _ hx)
        | val v => simp at hx'
      · obtain ⟨w, hw⟩ := hw
        unfold usesG at hk
        split at hk
        · rename_i t b hg'
          have : t = k := by simpa using hk
          subst this
          rw [hg'] at hw
          simp only [wants] at hw
          split at hw
          · rename_i he; rw [he]; rfl
          · rename_i he; rw [he]; rfl
          · rename_i he; rw [he]; rfl
          · cases hw
        · cases hk
      · split at hk
        · rename_i d hd
          have : d = k := by simpa using hk
          subst this
          exact avoid_kill _ (g2 d hd).1
        · cases hk
    · show (BL.cons p b (s.b.kill p)).get x = _
      rw [BL.get_cons, if_neg, bl_kill_get, avoid_blk _ (g3 x hx)]
      unfold rdp at hx
      split at hx
      · rename_i y hy
        refine Ne.symm (place_avoid (g1 y ?_) hx)
        cases hop : u.o.op <;> rw [hop] at hy <;> simp only [RO.rd, reduceCtorEq, Option.some.injEq] at hy <;> subst hy <;> simp [RO.opds]
      · cases hx
    · show (BL.cons p b (s.b.kill p)).get x = _
      rw [BL.get_cons, if_neg (Ne.symm (hne u hu hn x hx)), bl_kill_get, avoid_blk _ (g2 x hx).2]
theorem append_late {sz bytes : Nat} {x y : Opd} (hS : Sim pd s r) (hus : ∀ u ∈ pd, u.o ∈ us) (hd : ∀ u ∈ pd, ∀ k, dst = some k → touches u.o k = false) (hx : x.ev r = x.ev s) (hy : y.ev r = y.ev s)
    (hok : okApp us s x y = true) (h : aop C (.append sz bytes x y) dst s K) : aop (C.late us pd) (.append sz bytes x y) dst r (Klate K pd) := by
  unfold okApp at hok
  split at hok
  rotate_left
  · cases hok
  rename_i h1
  have hysee : ysee r sz (y.ev s) = ysee s sz (y.ev s) := by
    unfold ysee
    split
    · rfl
    · rfl
    · rename_i d he
      rw [he] at h1
      have h1 : clear [d] us = true := h1
      rw [hS.b d fun u hu hn e => clear_spec h1 u.o (hus u hu) (pd_new (hS.ok u hu) hn) d e (by simp)]
    · rfl
  simp only [aop] at h ⊢
  rw [hy, hx, hysee]
  split at h
  rotate_left
  · exact h.elim
  rename_i d m gy he2
  have hdd : ∀ u ∈ pd, touches u.o d = false := fun u hu => hd u hu d rfl
  split at h
  · rename_i hxe
    split at h
    · rename_i hf
      have hfr : fresh r d = fresh s d := by unfold fresh; rw [hS.dead hdd]
      simp only [he2, hxe, hfr, hf]
      exact h.mono fun n' g' hk => ⟨_, hk, hS.new (fresh_spec hf).1 hdd⟩
    · exact h.elim
  · rename_i p hxe
    rw [hxe] at hok
    simp only at hok
    split at hok
    rotate_left
    · cases hok
    rename_i hcp
    have hbp : r.b.get p = s.b.get p := hS.b p fun u hu hn e => clear_spec hcp u.o (hus u hu) (pd_new (hS.ok u hu) hn) p e (by simp)
    split at h
    rotate_left
    · exact h.elim
    rename_i sz' n g h2 h3
    split at h
    · rename_i h4
      simp only [he2, hxe, hbp, h2, h3, h4]
      exact h.mono fun n' g' hk => ⟨_, hk, (hS.grow hus hok hcp).setO (d := some d) (fun u hu k hk' => by cases hk'; exact hdd u hu)⟩
    · exact h.elim
  · exact h.elim
theorem noRd_spec {d : Nat} : ∀ {us : List ROp}, noRd s d us = true → ∀ u ∈ us, rdp s u.op ≠ some d
  | [], _, u, hu => by simp at hu
  | w :: us, h, u, hu => by
    unfold noRd at h
    split at h
    · cases h
    · rename_i h1
      rcases List.mem_cons.1 hu with rfl | hu
      · intro e
        rw [e] at h1
        simp at h1
      · exact noRd_spec h u hu
theorem Sim.put {d : Nat} {b : Blk} (hS : Sim pd s r) (hc : ∀ u ∈ pd, u.nw = true → u.o.dst ≠ some d) (hr : ∀ u ∈ pd, rdp s u.o.op ≠ some d) : Sim pd (s.put d b) (r.put d b) := by
  refine ⟨hS.t, fun x hx => ?_, fun u hu hn x hx => ?_, hS.df, fun u hu => (hS.ok u hu).to (fun _ _ => rfl) (fun x hx _ => ?_) fun hn x hx => ?_⟩
  · show (BL.cons d b r.b).get x = (BL.cons d b s.b).get x
    rw [BL.get_cons, BL.get_cons, hS.b x hx]
  · show (BL.cons d b r.b).get x = .no
    rw [BL.get_cons, if_neg (fun e : d = x => hc u hu hn (e.symm ▸ hx))]
    exact hS.no u hu hn x hx
  · show (BL.cons d b s.b).get x = _
    rw [BL.get_cons, if_neg (fun e : d = x => hr u hu (e.symm ▸ hx))]
  · show (BL.cons d b s.b).get x = _
    rw [BL.get_cons, if_neg (fun e : d = x => hc u hu hn (e.symm ▸ hx))]
theorem PutAt.mono {n i : Th Nat} {g : Th Nat → AV} {z : Option AV} {K K' : (Th Nat → AV) → Prop} (h : PutAt n i g z K) (hk : ∀ g', K g' → K' g') : PutAt n i g z K' := by
  obtain ⟨g', c', h1, h2, h3, h4⟩ := h.ex
  exact ⟨h.room, g', c', h1, h2, h3, hk _ h4⟩
theorem store_late {sz : Nat} {x y : Opd} (hS : Sim pd s r) (hus : ∀ u ∈ pd, u.o ∈ us) (hx : x.ev r = x.ev s) (hy : y.ev r = y.ev s) (hok : okPut us s x = true) (h : aop C (.store sz x y) dst s K) :
    aop (C.late us pd) (.store sz x y) dst r (Klate K pd) := by
  have key : ∀ d, clear [d] us = true → noRd s d us = true → r.b.get d = s.b.get d ∧ ∀ b, Sim pd (s.put d b) (r.put d b) := fun d h1 h2 => by
    have hc : ∀ u ∈ pd, u.nw = true → u.o.dst ≠ some d := fun u hu hn e => clear_spec h1 u.o (hus u hu) (pd_new (hS.ok u hu) hn) d e (by simp)
    exact ⟨hS.b d hc, fun b => hS.put hc fun u hu => noRd_spec h2 u.o (hus u hu)⟩
  simp only [aop] at h ⊢
  rw [hx, hy]
  unfold okPut at hok
  split at h
  · rename_i d o vc he1 he2
    rw [he1] at hok
    simp only at hok
    split at hok
    rotate_left
    · cases hok
    rename_i hcl
    obtain ⟨hb, hp⟩ := key d hcl hok
    simp only [he1, he2, hb]
    split at h
    · rename_i c hc
      split at h
      · rename_i c' h1 h2
        exact ⟨_, h, hp _⟩
      · exact h.elim
    · exact h.elim
  · rename_i d sz' i off vc he1 he2
    rw [he1] at hok
    simp only at hok
    split at hok
    rotate_left
    · cases hok
    rename_i hcl
    obtain ⟨hb, hp⟩ := key d hcl hok
    simp only [he1, he2, hb]
    split at h
    · rename_i sz'' n g hc
      split at h
      · rename_i h1 h2 h3 h4
        exact h.mono fun g' hk => ⟨_, hk, hp _⟩
      · exact h.elim
    · exact h.elim
  · exact h.elim
/-- A call, an append or a store ahead of what comes late. -/
theorem frz_mono {B B' : BL} (hB : ∀ d, (B.get d).live = true → B'.get d = B.get d) {h h' : Nat → Nat → Option AV} (hh : ∀ d o y, h d o = some y → h' d o = some y) (x : AV) : ∀ y, x.frz B h = some y → x.frz B' h' = some y := by
  induction x with
  | row d =>
    intro y hy
    unfold AV.frz at hy ⊢
    split at hy
    · rename_i sz n g hb
      rw [hB d (by rw [hb]; rfl), hb]
      exact hy
    · cases hy
  | ptr d o => exact fun y hy => hh d o y hy
  | rptr d s i o => intro y hy; cases hy
  | win d s i o => intro y hy; cases hy
  | iptr c ih =>
    intro y hy
    unfold AV.frz at hy ⊢
    split at hy
    · rename_i c' hc; rw [ih _ hc]; exact hy
    · cases hy
  | ifc t v ih =>
    intro y hy
    unfold AV.frz at hy ⊢
    split at hy
    · rename_i c' hc; rw [ih _ hc]; exact hy
    · cases hy
  | agg c ih =>
    intro y hy
    unfold AV.frz at hy ⊢
    split at hy
    · rename_i c' hc; rw [ih _ hc]; exact hy
    · cases hy
  | tup c ih =>
    intro y hy
    unfold AV.frz at hy ⊢
    split at hy
    · rename_i c' hc; rw [ih _ hc]; exact hy
    · cases hy
  | fn f a b iha ihb =>
    intro y hy
    unfold AV.frz at hy ⊢
    split at hy
    · rename_i a' b' ha hb; rw [iha _ ha, ihb _ hb]; exact hy
    · cases hy
  | cons a b iha ihb =>
    intro y hy
    unfold AV.frz at hy ⊢
    split at hy
    · rename_i a' b' ha hb; rw [iha _ ha, ihb _ hb]; exact hy
    · cases hy
  | _ => exact fun y hy => hy
theorem frzP_mono {B B' : BL} (hB : ∀ d, (B.get d).live = true → B'.get d = B.get d) : ∀ (k d o : Nat) (y : AV), frzP B k d o = some y → frzP B' k d o = some y
  | 0, _, _, _, h => by cases h
  | k + 1, d, o, y, h => by
    unfold frzP at h ⊢
    split at h
    · rename_i c hb
      rw [hB d (by rw [hb]; rfl), hb]
      split at h
      · rename_i c' hc
        simp only [frz_mono hB (frzP_mono hB k) c c' hc]
        exact h
      · cases h
    · cases h
theorem stripB_get {B : BL} {d : Nat} : ∀ {us : List ROp}, ((stripB us B).get d).live = true → (stripB us B).get d = B.get d ∧ ∀ u ∈ us, isNew u.op = true → u.dst ≠ some d
  | [], _ => ⟨rfl, fun _ h => by simp at h⟩
  | u :: r, h => by
    unfold stripB at h ⊢
    split at h
    · rename_i x hn hd
      rw [BL.get_cons] at h ⊢
      split at h
      · simp [Blk.live] at h
      · rename_i hne
        obtain ⟨h1, h2⟩ := stripB_get h
        refine ⟨by rw [if_neg hne]; exact h1, fun v hv hnv => ?_⟩
        rcases List.mem_cons.1 hv with rfl | hv
        · rw [hd]; exact fun e => hne (Option.some.inj e)
        · exact h2 v hv hnv
    · rename_i hno
      obtain ⟨h1, h2⟩ := stripB_get h
      refine ⟨h1, fun v hv hnv e => ?_⟩
      rcases List.mem_cons.1 hv with rfl | hv
      · exact hno _ hnv e
      · exact h2 v hv hnv e
theorem adopU_late {o : RO} (hS : Sim pd s r) (hus : ∀ u ∈ pd, u.o ∈ us) (hd : ∀ u ∈ pd, ∀ k, dst = some k → touches u.o k = false) (ho : ∀ u ∈ pd, ∀ k, u.o.dst = some k → usesO o k = false)
    (h : adopU C us o dst s K) : aop (C.late us pd) o dst r (Klate K pd) := by
  have hev : ∀ (s' r' : St), Agree (fun k => ∀ u ∈ pd, u.o.dst ≠ some k) (fun x => ∀ u ∈ pd, u.nw = true → u.o.dst ≠ some x) s' r' → ∀ x ∈ o.opds, x.ev r' = x.ev s' := by
    intro s' r' hA x hx
    refine ev_eq fun k hk => hA.t k fun u hu e => ?_
    subst hk
    exact usesO_not (ho u hu k e) hx rfl
  have hA : Agree (fun k => ∀ u ∈ pd, u.o.dst ≠ some k) (fun x => ∀ u ∈ pd, u.nw = true → u.o.dst ≠ some x) s r := ⟨hS.t, hS.b⟩
  cases o <;> simp only [adopU] at h <;> first | exact h.elim | skip
  case append sz bytes x y =>
    split at h
    · rename_i hok
      exact append_late hS hus hd (hev s r hA x (by simp [RO.opds])) (hev s r hA y (by simp [RO.opds])) hok h
    · exact h.elim
  case store sz x y =>
    split at h
    · rename_i hok
      exact store_late hS hus (hev s r hA x (by simp [RO.opds])) (hev s r hA y (by simp [RO.opds])) hok h
    · exact h.elim
  case mov x =>
    show Klate K pd (r.setO dst (x.ev r))
    rw [hev s r hA x (by simp [RO.opds])]
    exact ⟨_, h, hS.setO hd⟩
  case call f args =>
    have he := evs_congr args (hev s r hA)
    show acallS _ f args dst ((chain (evs r args)).rows []) r _
    rw [he]
    exact acallU_late hS hus hd (fun s' r' hA' => evs_congr args (hev s' r' hA')) h
  case peek f args =>
    have he := evs_congr args (hev s r hA)
    split at h
    rotate_left
    · exact h.elim
    rename_i c hf hc
    have hB : ∀ d, ((stripB us s.b).get d).live = true → r.b.get d = (stripB us s.b).get d := fun d hd => by
      obtain ⟨h1, h2⟩ := stripB_get hd
      rw [h1]
      exact hS.b d fun u hu hn => h2 u.o (hus u hu) (pd_new (hS.ok u hu) hn)
    have hfr : fresh r (dst.getD 9999) = true := by
      obtain ⟨q1, q2⟩ := fresh_spec hf
      have hno : r.b.get (dst.getD 9999) = .no := by
        by_cases q : ∃ u ∈ pd, u.nw = true ∧ u.o.dst = some (dst.getD 9999)
        · obtain ⟨u, hu, hn, e⟩ := q
          exact hS.no u hu hn _ e
        · rw [hS.b _ fun u hu hn e => q ⟨u, hu, hn, e⟩]
          exact dead_no q1
      unfold fresh
      rw [hno]
      simp [Blk.live, ltB, q2]
    show (match fresh r (dst.getD 9999), (chain (evs r args)).frz r.b (frzP r.b 8) with
      | true, some c => CallAt C.P f (unchain c) (dst.getD 9999) .nil fun r' _ => match r'.flat with
        | true => ares (C.late us pd) r' dst r (Klate K pd)
        | false => False
      | _, _ => False)
    rw [he, hfr, frz_mono hB (frzP_mono hB 8) _ c hc]
    refine h.mono fun r' B' hq => ?_
    revert hq
    try dsimp only
    cases r'.flat with
    | true => exact fun hq => aresU_late hS hd hq
    | false => exact fun hq => hq.elim
  case callv f args =>
    have he := evs_congr args fun x hx => hev s r hA x (by simp [RO.opds, hx])
    have hf := hev s r hA f (by simp [RO.opds])
    show acallvS _ f args dst ((f.ev r).rows ((chain (evs r args)).rows [])) r _
    rw [he, hf]
    unfold acallvS acallv
    unfold acallvU at h
    split at h
    · rename_i g first caps hfe
      have hds : ∀ x ∈ ((f.ev s).rows ((chain (evs s args)).rows [])), ∀ u ∈ pd, u.nw = true → u.o.dst ≠ some x := by
        unfold acallU at h
        split at h
        · intro x hx; rename_i hn; rw [hn] at hx; simp at hx
        · rename_i d0 ds hn
          unfold acallL1 at h
          split at h
          · rename_i hcl
            rw [hn]
            exact fun x hx u hu hnw e => clear_spec hcl u.o (hus u hu) (pd_new (hS.ok u hu) hnw) x e hx
          · exact h.elim
      have hf1 := hev _ _ (hA.shutL hds) f (by simp [RO.opds])
      rw [hf1, hfe]
      refine acallU_late hS hus hd (fun s' r' hA' => ?_) h
      rw [evs_congr args fun x hx => hev s' r' hA' x (by simp [RO.opds, hx])]
    · exact h.elim
end
end Go.Proofs.YtkklflpfklbbcaaDoor.Sx
/- A symbolic executor for the model's code: regions whose order of evaluation is left open: the order that is walked, and what is asked of it. -/
namespace Go.Proofs.YtkklflpfklbbcaaDoor.Sx
open Go
set_option linter.unusedSimpArgs false
set_option linter.unusedVariables false
def isStore : Op → Bool | .store _ _ _ => true | _ => false
def rGuard (ops : Array Oper) (N : Nat) : Option (Nat × Bool) → Option (Option (Nat × Bool))
  | none => some none
  | some (j, b) => match ops[j]? with
    | some o => match o.dst with
      | some t => if t < N then some (some (t, b)) else none
      | none => none
    | none => none
def okDst (N : Nat) (o : Oper) : Bool := match o.dst with | some d => decide (d < N) && !isStore o.op | none => true
def rOper (P : Program) (N : Nat) (ops : Array Oper) (o : Oper) : Option ROp :=
  match rOpX P o.op, rGuard ops N o.guard, okDst N o with
  | some ro, some g, true => some ⟨o.dst, ro, g⟩
  | _, _, _ => none
def aft (ops : Array Oper) (i : Nat) : List Nat := match ops[i]? with
  | some o => (o.after.toList.filter fun e => Region.binds .any e).map (·.on)
  | none => []
inductive Must (ops : Array Oper) : Nat → Nat → Prop
  | one {i j : Nat} (h : j ∈ aft ops i) : Must ops i j
  | on {i k j : Nat} (h : k ∈ aft ops i) (h' : Must ops k j) : Must ops i j
def orAll (acc : List Nat) : List Nat → Nat
  | [] => 0
  | k :: r => (2 ^ k ||| acc.getD k 0) ||| orAll acc r
def mskGo (ops : Array Oper) : Nat → Nat → List Nat → List Nat
  | 0, _, acc => acc
  | t + 1, i, acc => mskGo ops t (i + 1) (acc ++ [orAll acc (aft ops i)])
def msk (ops : Array Oper) : List Nat := mskGo ops ops.size 0 []
theorem orAll_spec {acc : List Nat} {j : Nat} : ∀ {l : List Nat}, (orAll acc l).testBit j = true → ∃ k ∈ l, j = k ∨ (acc.getD k 0).testBit j = true
  | [], h => by simp [orAll] at h
  | k :: r, h => by
    unfold orAll at h
    rw [Nat.testBit_or, Nat.testBit_or, Nat.testBit_two_pow] at h
    simp only [Bool.or_eq_true, decide_eq_true_eq] at h
    rcases h with (h | h) | h
    · exact ⟨k, by simp, .inl h.symm⟩
    · exact ⟨k, by simp, .inr h⟩
    · obtain ⟨k', h1, h2⟩ := orAll_spec h
      exact ⟨k', by simp [h1], h2⟩
theorem mskGo_spec {ops : Array Oper} : ∀ (t i : Nat) (acc : List Nat), acc.length = i → (∀ k j, (acc.getD k 0).testBit j = true → Must ops k j) → ∀ k j, ((mskGo ops t i acc).getD k 0).testBit j = true → Must ops k j
  | 0, i, acc, _, h, k, j, hj => h k j hj
  | t + 1, i, acc, hi, h, k, j, hj => by
    refine mskGo_spec t (i + 1) _ (by simp [hi]) (fun k j hj => ?_) k j hj
    by_cases hk : k < i
    · rw [List.getD_eq_getElem?_getD, List.getElem?_append_left (by omega), ← List.getD_eq_getElem?_getD] at hj
      exact h k j hj
    · by_cases hk' : k = i
      · subst hk'
        rw [List.getD_eq_getElem?_getD, List.getElem?_append_right (by omega), hi, Nat.sub_self] at hj
        obtain ⟨q, h1, h2⟩ := orAll_spec (show (orAll acc (aft ops k)).testBit j = true from hj)
        rcases h2 with rfl | h2
        · exact .one h1
        · exact .on h1 (h _ _ h2)
      · rw [List.getD_eq_getElem?_getD, List.getElem?_eq_none (by simp; omega)] at hj
        simp at hj
def inM (m : List Nat) (i j : Nat) : Bool := (m.getD i 0).testBit j
theorem inM_spec {ops : Array Oper} {i j : Nat} (h : inM (msk ops) i j = true) : Must ops i j :=
  mskGo_spec ops.size 0 [] rfl (fun k j h => by simp at h) i j h
def isAssign : Op → Bool | .assign _ => true | _ => false
def canonGo : Nat → Nat → List (Nat × Bool × Nat) → List Nat
  | 0, _, _ => []
  | f + 1, em, l =>
    let rdy := l.filter fun x => x.2.2 &&& em == x.2.2
    match rdy.find? (·.2.1), rdy with
    | some x, _ => x.1 :: canonGo f (em ||| 2 ^ x.1) (l.filter fun y => !(y.1 == x.1))
    | none, x :: _ => x.1 :: canonGo f (em ||| 2 ^ x.1) (l.filter fun y => !(y.1 == x.1))
    | none, [] => []
def orBits : List Nat → Nat | [] => 0 | k :: r => 2 ^ k ||| orBits r
def rdTmp (op : RO) : Bool := match op.rd with | some (.val _) => false | _ => true
def floats (o : Oper) (x : ROp) : Bool := (!isAssign o.op && rdTmp x.op) && (isQuiet x.op || isNew x.op)
/-- One behind the other: those that may float, and are not sure to have come. -/
def lates (m : List Nat) (i : Nat) : Nat → List (Nat × DOp) → List Nat
  | _, [] => []
  | k, p :: r => match p.2.fl && !inM m i p.1 with | true => k :: lates m i (k + 1) r | false => lates m i (k + 1) r
def layGo (P : Program) (N : Nat) (ops : Array Oper) (m : List Nat) : List Nat → List (Nat × DOp) → Option (List (Nat × DOp))
  | [], pre => some pre
  | i :: r, pre => match ops[i]? with
    | some o => match rOper P N ops o with
      | some x => layGo P N ops m r (pre ++ [(i, ⟨x, floats o x, match floats o x with | true => [] | false => lates m i 0 pre⟩)])
      | none => none
    | none => none
def apartB (p q : ROp) : Bool := (match q.dst with | some d => !touches p d | none => true) && (match q.guard with | some (t, _) => !Sx.usesO p.op t | none => true)
def okOne (ops : Array Oper) (m : List Nat) (all : List (Nat × DOp)) (pre : List (Nat × DOp)) (x : Nat × DOp) : Bool :=
  (pre.all fun p => match p.2.fl with
    | false => inM m x.1 p.1
    | true => match x.2.fl with
      | true => apartB p.2.o x.2.o
      | false => inM m x.1 p.1 || apartB p.2.o x.2.o) &&
  ((aft ops x.1).all fun j => pre.any fun p => p.1 == j) &&
  (all.all fun p => !p.2.fl || p.1 == x.1 || (match p.2.o.dst with | some d => !uses x.2.o d || inM m x.1 p.1 | none => true)) &&
  !(pre.any fun p => p.1 == x.1) &&
  (x.2.us == match x.2.fl with | true => [] | false => lates m x.1 0 pre) &&
  (match x.2.fl, x.2.o.dst with | true, some d => !uses x.2.o d | _, _ => true) &&
  (match x.2.o.dst with | some d => decide (d < 10000) | none => true)
def okGo (ops : Array Oper) (m : List Nat) (all : List (Nat × DOp)) : List (Nat × DOp) → List (Nat × DOp) → Bool
  | _, [] => true
  | pre, x :: r => okOne ops m all pre x && okGo ops m all (pre ++ [x]) r
def resDL (P : Program) (N : Nat) (ops : Array Oper) : Option (List (Nat × DOp)) :=
  match layGo P N ops (msk ops) (canonGo ops.size 0 ((ops.toList.zipIdx.map fun (o, i) => (i, (match rOper P N ops o with | some x => floats o x | none => false), orBits (aft ops i))))) [] with
  | some L => match ((List.range ops.size).all fun i => L.any fun x => x.1 == i) && okGo ops (msk ops) L [] L with
    | true => some L
    | false => none
  | none => none
def resD (P : Program) (N : Nat) (ops : Array Oper) : Option (List DOp) := (resDL P N ops).map fun l => l.map (·.2)
theorem layGo_spec {P : Program} {N : Nat} {ops : Array Oper} {m : List Nat} : ∀ (l : List Nat) (pre L : List (Nat × DOp)), layGo P N ops m l pre = some L → ∀ x ∈ L, x ∈ pre ∨ ∃ o, ops[x.1]? = some o ∧ rOper P N ops o = some x.2.o ∧ x.2.fl = floats o x.2.o
  | [], pre, L, h, x, hx => by cases h; exact .inl hx
  | i :: r, pre, L, h, x, hx => by
    unfold layGo at h
    split at h
    · rename_i o ho
      split at h
      · rename_i y hy
        rcases layGo_spec r _ L h x hx with h1 | h1
        · rcases List.mem_append.1 h1 with h1 | h1
          · exact .inl h1
          · have : x = _ := List.mem_singleton.1 h1
            subst this
            exact .inr ⟨o, ho, hy, rfl⟩
        · exact .inr h1
      · cases h
    · cases h
theorem okGo_spec {ops : Array Oper} {m : List Nat} {all : List (Nat × DOp)} : ∀ (l pre : List (Nat × DOp)), okGo ops m all pre l = true → ∀ mid x post, l = mid ++ x :: post → okOne ops m all (pre ++ mid) x = true
  | [], pre, _, mid, x, post, h => by cases mid <;> simp at h
  | y :: l, pre, h, mid, x, post, he => by
    simp only [okGo, Bool.and_eq_true] at h
    cases mid with
    | nil =>
      simp only [List.nil_append, List.cons.injEq] at he
      obtain ⟨rfl, _⟩ := he
      simpa using h.1
    | cons z mid =>
      simp only [List.cons_append, List.cons.injEq] at he
      obtain ⟨rfl, he⟩ := he
      have := okGo_spec l _ h.2 mid x post he
      simpa using this
theorem lates_spec {m : List Nat} {i : Nat} : ∀ (l : List (Nat × DOp)) (k q : Nat) (p : Nat × DOp), l[q]? = some p → p.2.fl = true → inM m i p.1 = false → k + q ∈ lates m i k l
  | [], k, q, p, h, _, _ => by simp at h
  | y :: l, k, 0, p, h, h1, h2 => by
    have : y = p := by simpa using h
    subst this
    simp [lates, h1, h2]
  | y :: l, k, q + 1, p, h, h1, h2 => by
    have := lates_spec l (k + 1) q p (by simpa using h) h1 h2
    rw [show k + (q + 1) = k + 1 + q by omega]
    unfold lates
    split
    · exact List.mem_cons_of_mem _ this
    · exact this
theorem pickD_spec {all : List DOp} : ∀ (l : List Nat) (k : Nat) (x : DOp), k ∈ l → all[k]? = some x → x.o ∈ pickD all l
  | [], k, x, h, _ => by simp at h
  | i :: l, k, x, h, hx => by
    unfold pickD
    rcases List.mem_cons.1 h with rfl | h
    · rw [hx]; simp
    · have := pickD_spec l k x h hx
      split
      · exact List.mem_cons_of_mem _ this
      · exact this
def Apart (p q : ROp) : Prop := (∀ d, q.dst = some d → touches p d = false) ∧ ∀ t b, q.guard = some (t, b) → usesO p.op t = false
theorem apartB_spec {p q : ROp} (h : apartB p q = true) : Apart p q := by
  unfold apartB at h
  simp only [Bool.and_eq_true] at h
  refine ⟨fun d hd => ?_, fun t b hg => ?_⟩
  · have := h.1; rw [hd] at this; simpa using this
  · have := h.2; rw [hg] at this; simpa using this
/-- The order that is walked. -/
structure Good0 (P : Program) (N : Nat) (ops : Array Oper) (L : List (Nat × DOp)) : Prop where
  res : ∀ x ∈ L, ∃ o, ops[x.1]? = some o ∧ rOper P N ops o = some x.2.o ∧ x.2.fl = floats o x.2.o
  cover : ∀ i, i < ops.size → ∃ x ∈ L, x.1 = i
  fresh : ∀ pre x post, L = pre ++ x :: post → ∀ p ∈ pre, p.1 ≠ x.1
  ser : ∀ pre x post, L = pre ++ x :: post → ∀ p ∈ pre, p.2.fl = false → Must ops x.1 p.1
  top : ∀ pre x post, L = pre ++ x :: post → ∀ j ∈ aft ops x.1, ∃ p ∈ pre, p.1 = j
  apF : ∀ pre x post, L = pre ++ x :: post → x.2.fl = true → ∀ p ∈ pre, p.2.fl = true → Apart p.2.o x.2.o
  apS : ∀ pre x post, L = pre ++ x :: post → x.2.fl = false → ∀ p ∈ pre, p.2.fl = true → Must ops x.1 p.1 ∨ (Apart p.2.o x.2.o ∧ p.2.o ∈ pickD (L.map (·.2)) x.2.us)
  dep : ∀ x ∈ L, ∀ p ∈ L, p.2.fl = true → p.1 ≠ x.1 → ∀ d, p.2.o.dst = some d → uses x.2.o d = true → Must ops x.1 p.1
  flus : ∀ x ∈ L, x.2.fl = true → x.2.us = []
  self : ∀ x ∈ L, x.2.fl = true → ∀ d, x.2.o.dst = some d → uses x.2.o d = true → False
  low : ∀ x ∈ L, ∀ d, x.2.o.dst = some d → d < 10000
theorem resD_good0 {P : Program} {N : Nat} {ops : Array Oper} {l : List DOp} (h : resD P N ops = some l) : ∃ L, l = L.map (·.2) ∧ Good0 P N ops L := by
  unfold resD at h
  cases hL : resDL P N ops with
  | none => rw [hL] at h; cases h
  | some L =>
    rw [hL] at h
    cases h
    refine ⟨L, rfl, ?_⟩
    unfold resDL at hL
    split at hL
    · rename_i L' hlay
      split at hL
      · rename_i hok
        cases hL
        simp only [Bool.and_eq_true] at hok
        obtain ⟨hc, hg⟩ := hok
        have one : ∀ pre x post, L = pre ++ x :: post → okOne ops (msk ops) L pre x = true := fun pre x post he => by simpa using okGo_spec L [] hg pre x post he
        have ex : ∀ x ∈ L, ∃ pre post, L = pre ++ x :: post := fun x hx => List.append_of_mem hx
        have prts : ∀ pre x post, L = pre ++ x :: post → _ := fun pre x post he => by
          have := one pre x post he
          unfold okOne at this
          simp only [Bool.and_eq_true] at this
          exact this
        refine ⟨fun x hx => (layGo_spec _ _ _ hlay x hx).elim (fun q => by simp at q) id, fun i hi => ?_, fun pre x post he p hp e => ?_, fun pre x post he p hp hf => ?_, fun pre x post he j hj => ?_, fun pre x post he hx p hp hf => ?_, fun pre x post he hx p hp hf => ?_, fun x hx p hp hf hne d hd hu => ?_, fun x hx hf => ?_, fun x hx hf d hd hu => ?_, fun x hx d hd => ?_⟩
        · have := List.all_eq_true.1 hc i (by simpa using hi)
          obtain ⟨x, h1, h2⟩ := List.any_eq_true.1 this
          exact ⟨x, h1, by simpa using h2⟩
        · have := (prts pre x post he).1.1.1.2
          simp only [Bool.not_eq_true', List.any_eq_false] at this
          exact this p hp (by simpa using e)
        · have := List.all_eq_true.1 (prts pre x post he).1.1.1.1.1.1 p hp
          rw [hf] at this
          exact inM_spec this
        · have := List.all_eq_true.1 (prts pre x post he).1.1.1.1.1.2 j hj
          obtain ⟨p, h1, h2⟩ := List.any_eq_true.1 this
          exact ⟨p, h1, by simpa using h2⟩
        · have := List.all_eq_true.1 (prts pre x post he).1.1.1.1.1.1 p hp
          rw [hf, hx] at this
          exact apartB_spec this
        · have h1 := List.all_eq_true.1 (prts pre x post he).1.1.1.1.1.1 p hp
          rw [hf, hx] at h1
          cases hm : inM (msk ops) x.1 p.1 with
          | true => exact .inl (inM_spec hm)
          | false =>
            rw [hm] at h1
            refine .inr ⟨apartB_spec (by simpa using h1), ?_⟩
            have h2 := (prts pre x post he).1.1.2
            rw [hx] at h2
            have h2 : x.2.us = lates (msk ops) x.1 0 pre := by simpa using h2
            rw [h2]
            obtain ⟨q, hq, hpq⟩ := List.mem_iff_getElem.1 hp
            have h3 := lates_spec pre 0 q p (by rw [List.getElem?_eq_getElem hq, hpq]) hf hm
            refine pickD_spec _ q p.2 (by simpa using h3) ?_
            rw [List.getElem?_map, he, List.getElem?_append_left hq, List.getElem?_eq_getElem hq, hpq]
            rfl
        · obtain ⟨pre, post, he⟩ := ex x hx
          have := List.all_eq_true.1 (prts pre x post he).1.1.1.1.2 p hp
          have hne' : (p.1 == x.1) = false := by simpa using hne
          simp only [hf, hd, hu, hne', Bool.not_true, Bool.false_or] at this
          exact inM_spec this
        · obtain ⟨pre, post, he⟩ := ex x hx
          have h2 := (prts pre x post he).1.1.2
          rw [hf] at h2
          simpa using h2
        · obtain ⟨pre, post, he⟩ := ex x hx
          have h2 := (prts pre x post he).1.2
          rw [hf, hd] at h2
          simp only [hu, Bool.not_true] at h2
          cases h2
        · obtain ⟨pre, post, he⟩ := ex x hx
          have h2 := (prts pre x post he).2
          rw [hd] at h2
          simpa using h2
      · cases hL
    · cases hL
/-- The same, with words that a call is handed what it is for reading only. -/
structure Good (P : Program) (N : Nat) (ops : Array Oper) (L : List (Nat × DOp)) : Prop where
  res : ∀ x ∈ L, ∃ o, ops[x.1]? = some o ∧ rOper P N ops o = some x.2.o.eraseP ∧ x.2.fl = floats o x.2.o.eraseP
  cover : ∀ i, i < ops.size → ∃ x ∈ L, x.1 = i
  fresh : ∀ pre x post, L = pre ++ x :: post → ∀ p ∈ pre, p.1 ≠ x.1
  ser : ∀ pre x post, L = pre ++ x :: post → ∀ p ∈ pre, p.2.fl = false → Must ops x.1 p.1
  top : ∀ pre x post, L = pre ++ x :: post → ∀ j ∈ aft ops x.1, ∃ p ∈ pre, p.1 = j
  apF : ∀ pre x post, L = pre ++ x :: post → x.2.fl = true → ∀ p ∈ pre, p.2.fl = true → Apart p.2.o x.2.o
  apS : ∀ pre x post, L = pre ++ x :: post → x.2.fl = false → ∀ p ∈ pre, p.2.fl = true → Must ops x.1 p.1 ∨ (Apart p.2.o x.2.o ∧ p.2.o ∈ pickD (L.map (·.2)) x.2.us)
  dep : ∀ x ∈ L, ∀ p ∈ L, p.2.fl = true → p.1 ≠ x.1 → ∀ d, p.2.o.dst = some d → uses x.2.o d = true → Must ops x.1 p.1
  flus : ∀ x ∈ L, x.2.fl = true → x.2.us = []
  self : ∀ x ∈ L, x.2.fl = true → ∀ d, x.2.o.dst = some d → uses x.2.o d = true → False
  low : ∀ x ∈ L, ∀ d, x.2.o.dst = some d → d < 10000
theorem eraseP_usesO (op : RO) (t : Nat) : Sx.usesO op.eraseP t = Sx.usesO op t := by cases op <;> rfl
theorem eraseP_uses (o : ROp) (t : Nat) : uses o.eraseP t = uses o t := by simp only [uses, ROp.eraseP, eraseP_usesO]
theorem eraseP_touches (o : ROp) (t : Nat) : touches o.eraseP t = touches o t := by simp only [touches, eraseP_uses]; rfl
theorem eraseP_float {o : Oper} {x : ROp} (h : floats o x.eraseP = true) : x.eraseP = x := by
  unfold floats at h
  simp only [Bool.and_eq_true, Bool.or_eq_true] at h
  obtain ⟨d, op, g⟩ := x
  cases op <;> first | rfl | (rcases h.2 with h | h <;> simp [ROp.eraseP, RO.eraseP, isQuiet, isNew] at h)
theorem eraseP_rd (op : RO) : op.eraseP.rd = op.rd := by cases op <;> rfl
theorem pickD_er {all : List DOp} : ∀ {l : List Nat} {u : ROp}, u ∈ pickD (all.map DOp.eraseP) l → ∃ v ∈ pickD all l, v.eraseP = u
  | [], u, h => by simp [pickD] at h
  | i :: r, u, h => by
    unfold pickD at h ⊢
    rw [List.getElem?_map] at h
    cases hi : all[i]? with
    | none =>
      rw [hi] at h
      exact pickD_er h
    | some x =>
      rw [hi] at h
      rcases List.mem_cons.1 h with rfl | h
      · exact ⟨x.o, List.mem_cons_self .., rfl⟩
      · obtain ⟨v, h1, h2⟩ := pickD_er h
        exact ⟨v, List.mem_cons_of_mem _ h1, h2⟩
def er (x : Nat × DOp) : Nat × DOp := (x.1, x.2.eraseP)
theorem Good.of {P : Program} {N : Nat} {ops : Array Oper} {L : List (Nat × DOp)} (h : Good0 P N ops (L.map er)) : Good P N ops L := by
  have hm : ∀ {x}, x ∈ L → er x ∈ L.map er := fun h => List.mem_map_of_mem h
  have hs : ∀ {pre x post}, L = pre ++ x :: post → L.map er = pre.map er ++ er x :: post.map er := fun h => by rw [h]; simp
  have hu : ∀ (x : Nat × DOp) d, uses (er x).2.o d = uses x.2.o d := fun x d => eraseP_uses _ _
  have hAp : ∀ {p x : Nat × DOp}, Apart (er p).2.o (er x).2.o → Apart p.2.o x.2.o := fun {p x} q => ⟨fun d hd => by have := q.1 d hd; rw [show touches (er p).2.o d = touches p.2.o d from eraseP_touches _ _] at this; exact this, fun t b hg => by have := q.2 t b hg; rw [show Sx.usesO (er p).2.o.op t = Sx.usesO p.2.o.op t from eraseP_usesO _ _] at this; exact this⟩
  have hfl : ∀ {x : Nat × DOp}, x ∈ L → x.2.fl = true → x.2.o.eraseP = x.2.o := fun {x} hx hf => by
    obtain ⟨o, _, _, q⟩ := h.res (er x) (hm hx)
    exact eraseP_float (o := o) (by rw [show floats o x.2.o.eraseP = floats o (er x).2.o from rfl, ← q]; exact hf)
  refine ⟨fun x hx => h.res (er x) (hm hx), fun i hi => ?_, fun pre x post he p hp => h.fresh _ _ _ (hs he) (er p) (List.mem_map_of_mem hp), fun pre x post he p hp hf => h.ser _ _ _ (hs he) (er p) (List.mem_map_of_mem hp) hf, fun pre x post he j hj => ?_,
    fun pre x post he hx p hp hf => hAp (h.apF _ _ _ (hs he) hx (er p) (List.mem_map_of_mem hp) hf), fun pre x post he hx p hp hf => ?_, fun x hx p hp hf hne d hd hq => h.dep (er x) (hm hx) (er p) (hm hp) hf hne d hd (by rw [hu]; exact hq), fun x hx hf => h.flus (er x) (hm hx) hf, fun x hx hf d hd hq => h.self (er x) (hm hx) hf d hd (by rw [hu]; exact hq), fun x hx d hd => h.low (er x) (hm hx) d hd⟩
  · obtain ⟨y, h1, h2⟩ := h.cover i hi
    obtain ⟨x, h3, rfl⟩ := List.mem_map.1 h1
    exact ⟨x, h3, h2⟩
  · obtain ⟨y, h1, h2⟩ := h.top _ _ _ (hs he) j hj
    obtain ⟨x, h3, rfl⟩ := List.mem_map.1 h1
    exact ⟨x, h3, h2⟩
  · refine (h.apS _ _ _ (hs he) hx (er p) (List.mem_map_of_mem hp) hf).imp id fun ⟨q1, q2⟩ => ⟨hAp q1, ?_⟩
    rw [show (L.map er).map (·.2) = (L.map (·.2)).map DOp.eraseP by simp [er]] at q2
    obtain ⟨v, h1, h2⟩ := pickD_er q2
    have hpL : p ∈ L := by rw [he]; simp [hp]
    have h3 : v.eraseP = p.2.o := h2.trans (hfl hpL hf)
    have h4 : v = p.2.o := by
      have hk := (h.res (er p) (hm hpL))
      obtain ⟨o, _, _, q⟩ := hk
      have hfo : floats o v.eraseP = true := by rw [h3, ← hfl hpL hf, show floats o p.2.o.eraseP = floats o (er p).2.o from rfl, ← q]; exact hf
      rw [← eraseP_float hfo]; exact h3
    rw [← h4]
    exact h1
theorem resD_good {P : Program} {N : Nat} {ops : Array Oper} {l : List DOp} (h : resD P N ops = some (l.map DOp.eraseP)) : ∃ L, l = L.map (·.2) ∧ Good P N ops L := by
  obtain ⟨L0, h1, h2⟩ := resD_good0 h
  have hlen : L0.length = l.length := by have := congrArg List.length h1; simpa using this.symm
  refine ⟨(L0.map (·.1)).zip l, ?_, Good.of ?_⟩
  · exact (List.map_snd_zip (by simp [hlen])).symm
  · have : ((L0.map (·.1)).zip l).map er = L0 := by
      apply List.ext_getElem
      · simp [hlen]
      · intro i q1 q2
        have q3 : i < l.length := by simpa [hlen] using q1
        have e := congrArg (·[i]?) h1
        simp only [List.getElem?_map, List.getElem?_eq_getElem q3, List.getElem?_eq_getElem q2, Option.map_some, Option.some.injEq] at e
        simp only [List.getElem_map, List.getElem_zip, er]
        exact Prod.ext rfl e
    rw [this]
    exact h2
end Go.Proofs.YtkklflpfklbbcaaDoor.Sx
/- A symbolic executor for the model's code: regions whose order of evaluation is left open: whatever order the machine takes. -/
namespace Go.Proofs.YtkklflpfklbbcaaDoor.Sx
open Go
set_option linter.unusedSimpArgs false
set_option linter.unusedVariables false
theorem tv_rp (E : Env) (b : Bool) : Rp E (tv b) (.bool b) := by cases b <;> rfl
theorem tv_locs (b : Bool) (y : Nat) : ¬ (tv b).locs y := by cases b <;> exact fun h => h
/-- What a slot holds, told otherwise. -/
theorem Rel.retell {N : Nat} {E0 : Env} {B0 : BL} {E : Env} {s : St} {a : Act} (h : Rel N E0 B0 E s a) {d : Nat} {v : AV} (hv : Rp E v (a.tmps.getD d undef)) (hl : ∀ y, ¬ v.locs y) : Rel N E0 B0 E (s.set d v) a := by
  refine ⟨fun n => ?_, h.inv, fun n y hy => ?_, h.sz, h.df, h.dn, h.post⟩
  · show Rp E ((AL.cons d v s.t).get n) _
    rw [AL.get_cons]
    split
    · rename_i hn; subst hn; exact hv
    · exact h.tmps n
  · change ((AL.cons d v s.t).get n).locs y at hy
    rw [AL.get_cons] at hy
    split at hy
    · exact (hl y hy).elim
    · exact h.tn n y hy
theorem yielded_of {ops : Array Oper} {N j t : Nat} {b b' : Bool} {tmps : Array Value} (hg : rGuard ops N (some (j, b)) = some (some (t, b'))) (hN : tmps.size = N) {x : Bool} (hv : tmps.getD t undef = .bool x) : b' = b ∧ t < N ∧ yielded ops tmps j = some x := by
  simp only [rGuard] at hg
  split at hg
  · rename_i o ho
    split at hg
    · rename_i t' ht
      split at hg
      · rename_i hlt
        cases hg
        refine ⟨rfl, hlt, ?_⟩
        unfold yielded
        simp only [ho, Option.bind_some, ht]
        have : tmps[t]? = some (.bool x) := by
          rw [Array.getD_eq_getD_getElem?] at hv
          have hlt' : t < tmps.size := by rw [hN]; exact hlt
          rw [Array.getElem?_eq_getElem hlt'] at hv ⊢
          simpa using hv
        simp [this]
      · cases hg
    · cases hg
  · cases hg
theorem unwanted_of {ops : Array Oper} {N j t : Nat} {b b' : Bool} {tmps : Array Value} {o : Oper} (hg : rGuard ops N (some (j, b)) = some (some (t, b'))) (hN : tmps.size = N) (hv : tmps.getD t undef = .tuple #[]) (ho : o.guard = some (j, b)) : Region.wanted o (yielded ops tmps) = false := by
  simp only [rGuard] at hg
  split at hg
  · rename_i o' ho'
    split at hg
    · rename_i t' ht
      split at hg
      · rename_i hlt
        cases hg
        have : yielded ops tmps j = none := by
          unfold yielded
          simp only [ho', Option.bind_some, ht]
          have : tmps[t]? = some (.tuple #[]) := by
            rw [Array.getD_eq_getD_getElem?] at hv
            have hlt' : t < tmps.size := by rw [hN]; exact hlt
            rw [Array.getElem?_eq_getElem hlt'] at hv ⊢
            simpa using hv
          simp [this]
        simp [Region.wanted, ho, this]
      · cases hg
    · cases hg
  · cases hg
section
variable {C : Cx} {E0 : Env} {B0 : BL} {E : Env} {s r : St} {a : Act} {ops : Array Oper}
/-- One operation of a region, its guard known. -/
theorem aop_soundP {o : Oper} {K : St → Prop} {next : Act → World → Prop} {Qc : Exit → Act → World → Prop} {s : St} (h : Rel C.N E0 B0 E s a) (hB0 : ∀ x, x < 10000 → ¬ B0.liveAt x) {ro : RO} (hr : rOpX (C.P .o) o.op = some ro.eraseP) (hN : ∀ d, o.dst = some d → d < C.N) (hst : (∃ t x y, o.op = .store t x y) → o.dst = none)
    (ha : aop C ro o.dst s K) (hk : UponOk C E0 B0 a K next Qc) : o.wp (C.P .o) a E.w next Qc := by
  cases ro with
  | peek f args => exact aop_soundE h hB0 (ro := .peek f args) hr hN hst ha hk
  | _ => exact aop_sound h hB0 hr hN hst ha hk
theorem exec1 (h : Rel C.N E0 B0 E r a) (hB0 : ∀ x, x < 10000 → ¬ B0.liveAt x) {i : Nat} {o : Oper} {x : ROp} (hi : ops[i]? = some o) (hx : rOper (C.P .o) C.N ops o = some x.eraseP) {w : Bool} (hw : wants r x.guard = some w) {K : St → Prop} {next : Act → World → Prop} {Qc : Exit → Act → World → Prop}
    (h1 : w = true → aop C x.op x.dst r K) (h0 : w = false → K (r.setO x.dst (.tup .nil))) (hk : UponOk C E0 B0 a K next Qc) : wpOp (C.P .o) ops Qc i next a E.w := by
  unfold rOper at hx
  split at hx
  rotate_left
  · cases hx
  rename_i ro g hro hgd hdst
  obtain ⟨xd, xo, xg⟩ := x
  simp only [ROp.eraseP, Option.some.injEq, ROp.mk.injEq] at hx
  obtain ⟨rfl, rfl, rfl⟩ := hx
  have hN : ∀ d, o.dst = some d → d < C.N := by
    intro d hd
    unfold okDst at hdst
    rw [hd] at hdst
    simp only [Bool.and_eq_true, decide_eq_true_eq] at hdst
    exact hdst.1
  have hst : (∃ t x y, o.op = .store t x y) → o.dst = none := by
    rintro ⟨t, x, y, ho⟩
    unfold okDst at hdst
    cases hd : o.dst with
    | none => rfl
    | some d => rw [hd] at hdst; simp [ho, isStore] at hdst
  have hwanted : Region.wanted o (yielded ops a.tmps) = w := by
    simp only at hw
    cases hog : o.guard with
    | none =>
      have : g = none := by rw [hog] at hgd; cases hgd; rfl
      subst this
      simp only [wants, Option.some.injEq] at hw
      subst hw
      simp [Region.wanted, hog]
    | some jb =>
      obtain ⟨j, b⟩ := jb
      rw [hog] at hgd
      obtain ⟨t, b', rfl⟩ : ∃ t b', g = some (t, b') := by
        simp only [rGuard] at hgd
        split at hgd
        · split at hgd
          · split at hgd
            · cases hgd; exact ⟨_, _, rfl⟩
            · cases hgd
          · cases hgd
        · cases hgd
      have hval := h.tmps t
      simp only [wants] at hw
      split at hw
      · rename_i he
        rw [he] at hval
        obtain ⟨rfl, _, h3⟩ := yielded_of hgd h.sz (x := true) hval
        cases hw
        simp [Region.wanted, hog, h3]
      · rename_i he
        rw [he] at hval
        obtain ⟨rfl, _, h3⟩ := yielded_of hgd h.sz (x := false) hval
        cases hw
        cases b' <;> simp [Region.wanted, hog, h3]
      · rename_i he
        rw [he] at hval
        cases hw
        obtain ⟨l, hl, hn⟩ := rp_tup.1 hval
        rw [listC_nil.1 hn] at hl
        exact unwanted_of hgd h.sz hl hog
      · cases hw
  unfold wpOp
  simp only [hi]
  rw [hwanted]
  cases w with
  | true =>
    rw [if_pos rfl]
    exact .inl (aop_soundP h hB0 hro hN hst (h1 rfl) hk)
  | false =>
    rw [if_neg (by simp)]
    exact hk.1 E _ _ (h.value hB0 hN (v := .tup .nil) (x := undef) (rp_tup.2 ⟨[], rfl, listC_nil.2 rfl⟩) (fun y hy => hy.elim)) (h0 rfl)
theorem strip1_rel (hB0 : ∀ x, x < 10000 → ¬ B0.liveAt x) {u : ROp} (hu : ∀ d, u.dst = some d → d < 10000) (h : Rel C.N E0 B0 E r a) : Rel C.N E0 B0 E (strip1 u r) a := by
  unfold strip1
  split
  · rename_i d hd
    split
    · have hk := h.kill d
      have hf := hk.forget d
      refine Rel.drop (s := ⟨.cons d .any (r.t.kill d), r.b.kill d, r.df.kill d⟩) hf (hB0 d (hu d hd)) (fun k => ?_) (fun q => (kill_locs d _ d q).2 rfl) fun x q => ?_
      · show ¬ ((AL.cons d .any (r.t.kill d)).get k).locs d
        rw [AL.get_cons]
        split
        · exact fun q => q
        · rw [al_kill_get]; exact fun q => (kill_locs d _ d q).2 rfl
      · have q : ((r.b.kill d).get x).locs d := q
        rw [bl_kill_get] at q
        cases hb : r.b.get x with
        | cells c => rw [hb] at q; exact (kill_locs d c d q).2 rfl
        | no => rw [hb] at q; exact q
        | row _ _ _ => rw [hb] at q; exact q
    · exact h.forget d
  · exact h
theorem strip_rel (hB0 : ∀ x, x < 10000 → ¬ B0.liveAt x) : ∀ (us : List ROp) {r : St}, (∀ u ∈ us, ∀ d, u.dst = some d → d < 10000) → Rel C.N E0 B0 E r a → Rel C.N E0 B0 E (strip us r) a
  | [], r, _, h => h
  | u :: us, r, hu, h => strip_rel hB0 us (fun w hw => hu w (by simp [hw])) (strip1_rel hB0 (hu u (by simp)) h)
/-- Alike but for some. -/
structure But (T X : Nat → Prop) (s r : St) : Prop where
  t : ∀ k, ¬ T k → r.t.get k = s.t.get k
  b : ∀ x, ¬ X x → r.b.get x = s.b.get x
  df : r.df = s.df
theorem But.strip1 {T X : Nat → Prop} (h : But T X s r) (u : ROp) : But (fun k => T k ∧ u.dst ≠ some k) (fun x => X x ∧ ¬ (isNew u.op = true ∧ u.dst = some x)) (strip1 u s) (strip1 u r) := by
  unfold Sx.strip1
  split
  · rename_i d hd
    split
    · rename_i hn
      refine ⟨fun k hk => ?_, fun x hx => ?_, ?_⟩
      · show (AL.cons d .any (r.t.kill d)).get k = (AL.cons d .any (s.t.kill d)).get k
        rw [AL.get_cons, AL.get_cons]
        split
        · rfl
        · rename_i hne
          rw [al_kill_get, al_kill_get, h.t k fun q => hk ⟨q, fun e => by rw [hd] at e; exact hne (Option.some.inj e)⟩]
      · show (BL.cons d .no (r.b.kill d)).get x = (BL.cons d .no (s.b.kill d)).get x
        rw [BL.get_cons, BL.get_cons]
        split
        · rfl
        · rename_i hne
          rw [bl_kill_get, bl_kill_get, h.b x fun q => hx ⟨q, fun e => by rw [hd] at e; exact hne (Option.some.inj e.2)⟩]
      · show r.df.kill d = s.df.kill d
        rw [h.df]
    · rename_i hn
      refine ⟨fun k hk => ?_, fun x hx => h.b x fun q => hx ⟨q, fun e => by rw [hn] at e; cases e.1⟩, h.df⟩
      show (AL.cons d .any r.t).get k = (AL.cons d .any s.t).get k
      rw [AL.get_cons, AL.get_cons]
      split
      · rfl
      · rename_i hne
        exact h.t k fun q => hk ⟨q, fun e => by rw [hd] at e; exact hne (Option.some.inj e)⟩
  · rename_i hd
    exact ⟨fun k hk => h.t k fun q => hk ⟨q, by rw [hd]; exact fun e => by cases e⟩, fun x hx => h.b x fun q => hx ⟨q, fun e => by rw [hd] at e; cases e.2⟩, h.df⟩
theorem But.strip : ∀ (us : List ROp) {T X : Nat → Prop} {s r : St}, But T X s r → But (fun k => T k ∧ ∀ u ∈ us, u.dst ≠ some k) (fun x => X x ∧ ∀ u ∈ us, ¬ (isNew u.op = true ∧ u.dst = some x)) (Sx.strip us s) (Sx.strip us r)
  | [], T, X, s, r, h => ⟨fun k hk => h.t k fun q => hk ⟨q, by simp⟩, fun x hx => h.b x fun q => hx ⟨q, by simp⟩, h.df⟩
  | u :: us, T, X, s, r, h => by
    have := But.strip us (h.strip1 u)
    refine ⟨fun k hk => this.t k fun q => hk ⟨q.1.1, fun w hw => ?_⟩, fun x hx => this.b x fun q => hx ⟨q.1.1, fun w hw => ?_⟩, this.df⟩
    · rcases List.mem_cons.1 hw with rfl | hw
      · exact q.1.2
      · exact q.2 w hw
    · rcases List.mem_cons.1 hw with rfl | hw
      · exact q.1.2
      · exact q.2 w hw
theorem late_rel (hB0 : ∀ x, x < 10000 → ¬ B0.liveAt x) {pd : List Pd} {us : List ROp} (hS : Sim pd s r) (hus : ∀ u ∈ pd, u.o ∈ us) (hlt : ∀ u ∈ us, ∀ d, u.dst = some d → d < 10000) (h : Rel C.N E0 B0 E r a) : Rel C.N E0 B0 E (strip us s) a := by
  have hb : But (fun k => ∃ u ∈ pd, u.o.dst = some k) (fun x => ∃ u ∈ pd, u.nw = true ∧ u.o.dst = some x) s r :=
    ⟨fun k hk => hS.t k fun u hu e => hk ⟨u, hu, e⟩, fun x hx => hS.b x fun u hu hn e => hx ⟨u, hu, hn, e⟩, hS.df⟩
  have := But.strip us hb
  refine (strip_rel hB0 us hlt h).congr (fun k => this.t k ?_) (fun x => this.b x ?_) this.df
  · rintro ⟨⟨u, hu, e⟩, h2⟩; exact h2 u.o (hus u hu) e
  · rintro ⟨⟨u, hu, hn, e⟩, h2⟩; exact h2 u.o (hus u hu) ⟨pd_new (hS.ok u hu) hn, e⟩
def Ls (l : Array Bool) (i : Nat) : Prop := l.getD i false = true
theorem ls_set {l : Array Bool} {i j : Nat} (hi : i < l.size) : Ls (l.setIfInBounds i true) j ↔ j = i ∨ Ls l j := by
  unfold Ls
  by_cases h : i = j
  · subst h; simp [hi]
  · rw [getD_set_ne false h]; simp [Ne.symm h]
theorem ls_lt {l : Array Bool} {i : Nat} (h : Ls l i) : i < l.size := by
  rcases Nat.lt_or_ge i l.size with h' | h'
  · exact h'
  · unfold Ls at h; simp [h'] at h
def Closed (ops : Array Oper) (l : Array Bool) : Prop := ∀ i, Ls l i → ∀ j ∈ aft ops i, Ls l j
theorem must_ls {l : Array Bool} (hc : Closed ops l) {i j : Nat} (h : Must ops i j) : (∀ k ∈ aft ops i, Ls l k) → Ls l j := by
  induction h with
  | one h => exact fun hk => hk _ h
  | on h _ ih => exact fun hk => ih (hc _ (hk _ h))
theorem ready_iff {l : Array Bool} (hsz : l.size = ops.size) {i : Nat} : i ∈ Region.ready .any ops l ↔ i < ops.size ∧ ¬ Ls l i ∧ ∀ j ∈ aft ops i, Ls l j := by
  rw [mem_ready]
  unfold aft Ls
  constructor
  · rintro ⟨h1, o, ho, h2⟩
    have hlt : i < ops.size := (Array.getElem?_eq_some_iff.1 ho).1
    refine ⟨hlt, ?_, fun j hj => ?_⟩
    · have : i < l.size := by omega
      simp [this] at h1 ⊢
      exact h1
    · rw [ho] at hj
      simp only [List.mem_map, List.mem_filter] at hj
      obtain ⟨e, ⟨he, hb⟩, rfl⟩ := hj
      exact h2 e (by simpa using he) hb
  · rintro ⟨hlt, h1, h2⟩
    refine ⟨?_, ops[i], Array.getElem?_eq_getElem hlt, fun e he hb => ?_⟩
    · have : i < l.size := by omega
      simp [this] at h1 ⊢
      exact h1
    · rw [Array.getElem?_eq_getElem hlt] at h2
      exact h2 e.on (List.mem_map.2 ⟨e, List.mem_filter.2 ⟨by simpa using he, hb⟩, rfl⟩)
def left (l : Array Bool) (n : Nat) : Nat := ((List.range n).filter fun i => !l.getD i false).length
theorem left_set {l : Array Bool} {i : Nat} (hi : i < l.size) (hn : ¬ Ls l i) : ∀ n, left (l.setIfInBounds i true) n + (if i < n then 1 else 0) = left l n
  | 0 => by simp [left]
  | n + 1 => by
    have ih := left_set hi hn n
    unfold left at ih ⊢
    have e1 : ∀ f : Nat → Bool, (List.filter f [n]).length = if f n = true then 1 else 0 := by intro f; cases h : f n <;> simp [List.filter_cons, h]
    rw [List.range_succ, List.filter_append, List.filter_append, List.length_append, List.length_append, e1, e1]
    by_cases h : i = n
    · subst h
      have h1 : l.getD i false = false := by unfold Ls at hn; simpa using hn
      have h2 : (l.setIfInBounds i true).getD i false = true := (ls_set hi).2 (.inl rfl)
      rw [if_neg (Nat.lt_irrefl i)] at ih
      rw [h1, h2, if_pos (Nat.lt_succ_self i), if_neg (by simp), if_pos (by simp)]
      omega
    · have h3 := getD_set_ne (listed := l) false h
      rw [h3]
      by_cases h4 : i < n
      · rw [if_pos h4] at ih; rw [if_pos (show i < n + 1 by omega)]; omega
      · rw [if_neg h4] at ih; rw [if_neg (show ¬ i < n + 1 by omega)]; omega
theorem left_zero {l : Array Bool} {n : Nat} (h : left l n = 0) : ∀ i, i < n → Ls l i := by
  intro i hi
  unfold left at h
  have := List.length_eq_zero_iff.1 h
  rw [List.filter_eq_nil_iff] at this
  have := this i (by simpa using hi)
  unfold Ls
  simpa using this
end
section
variable {C : Cx} {E0 : Env} {B0 : BL} {ops : Array Oper} {L : List (Nat × DOp)} {K : St → Prop}
/-- How the machine stands: those ahead have been walked, and have come but for those in pd. -/
structure Stand (L pre post : List (Nat × DOp)) (pd : List Pd) (l : Array Bool) : Prop where
  spl : L = pre ++ post
  cl : Closed ops l
  ahead : ∀ x ∈ post, ¬ Ls l x.1
  ser : ∀ x ∈ pre, x.2.fl = false → Ls l x.1
  late : ∀ u ∈ pd, (∃ x ∈ pre, x.1 = u.i ∧ x.2.o = u.o ∧ x.2.fl = true) ∧ ¬ Ls l u.i
  all : ∀ x ∈ pre, ¬ Ls l x.1 → ∃ u ∈ pd, u.i = x.1
  uniq : ∀ u ∈ pd, ∀ w ∈ pd, u.i = w.i → u = w
theorem floats_spec {o : Oper} {x : ROp} (h : floats o x = true) : isQuiet x.op = true ∨ isNew x.op = true := by
  unfold floats at h; simp only [Bool.and_eq_true, Bool.or_eq_true] at h; exact h.2
theorem floats_rd {o : Oper} {x : ROp} (h : floats o x = true) {y : Opd} (hy : x.op.rd = some y) : ∃ k, y = .tmp k := by
  unfold floats at h
  simp only [Bool.and_eq_true] at h
  have := h.1.2
  unfold rdTmp at this
  rw [hy] at this
  cases y with
  | tmp k => exact ⟨k, rfl⟩
  | val v => cases this
/-- The walk goes one further, past one that may float; the machine stays. -/
theorem walk1 (hL : Good (C.P .o) C.N ops L) {pre post : List (Nat × DOp)} {x : Nat × DOp} {pd : List Pd} {l : Array Bool} (hst : Stand (ops := ops) L pre (x :: post) pd l) (hf : x.2.fl = true) {s r : St} (hS : Sim pd s r)
    {E : Env} {a : Act} (hR : Rel C.N E0 B0 E r a) (hK : adops C (L.map (·.2)) (x.2 :: post.map (·.2)) s K) :
    ∃ nw s' r', Stand (ops := ops) L (pre ++ [x]) post (⟨x.1, x.2.o, nw⟩ :: pd) l ∧ Sim (⟨x.1, x.2.o, nw⟩ :: pd) s' r' ∧ Rel C.N E0 B0 E r' a ∧ adops C (L.map (·.2)) (post.map (·.2)) s' K := by
  have hmem : x ∈ L := by rw [hst.spl]; simp
  have hap : ∀ u ∈ pd, Apart u.o x.2.o := by
    intro u hu
    obtain ⟨⟨p, h1, h2, h3, h4⟩, _⟩ := hst.late u hu
    rw [← h3]
    exact hL.apF pre x post hst.spl hf p h1 h4
  have hself : ∀ d, x.2.o.dst = some d → True := fun _ _ => trivial
  obtain ⟨oo, hoo, hro, hfl⟩ := hL.res x hmem
  have hkind : isQuiet x.2.o.op = true ∨ isNew x.2.o.op = true := by
    have hq := hfl.symm.trans hf
    have := floats_spec hq
    rw [eraseP_float hq] at this
    exact this
  have hstand : ∀ nw, Stand (ops := ops) L (pre ++ [x]) post (⟨x.1, x.2.o, nw⟩ :: pd) l := by
    intro nw
    refine ⟨by rw [hst.spl]; simp, hst.cl, fun y hy => hst.ahead y (by simp [hy]), fun y hy hyf => ?_, fun u hu => ?_, fun y hy hn => ?_, fun u hu w hw he => ?_⟩
    · rcases List.mem_append.1 hy with hy | hy
      · exact hst.ser y hy hyf
      · have := List.mem_singleton.1 hy; subst this; rw [hf] at hyf; cases hyf
    · rcases List.mem_cons.1 hu with rfl | hu
      · exact ⟨⟨x, by simp, rfl, rfl, hf⟩, hst.ahead x (by simp)⟩
      · obtain ⟨⟨p, h1, h2⟩, h3⟩ := hst.late u hu
        exact ⟨⟨p, by simp [h1], h2⟩, h3⟩
    · rcases List.mem_append.1 hy with hy | hy
      · obtain ⟨u, h1, h2⟩ := hst.all y hy hn
        exact ⟨u, by simp [h1], h2⟩
      · have := List.mem_singleton.1 hy; subst this; exact ⟨_, List.mem_cons_self .., rfl⟩
    · have other : ∀ v ∈ pd, v.i ≠ x.1 := by
        intro v hv
        obtain ⟨⟨p, h1, h2, _⟩, _⟩ := hst.late v hv
        rw [← h2]
        exact hL.fresh pre x post hst.spl p h1
      rcases List.mem_cons.1 hu with rfl | hu <;> rcases List.mem_cons.1 hw with rfl | hw
      · rfl
      · exact (other w hw he.symm).elim
      · exact (other u hu he).elim
      · exact hst.uniq u hu w hw he
  have hus : pickD (L.map (·.2)) x.2.us = [] := by rw [hL.flus x hmem hf]; rfl
  -- its own place is not among what it looks at
  have hnoself : ∀ d, x.2.o.dst = some d → uses x.2.o d = false := by
    intro d hd
    cases hu : uses x.2.o d with
    | false => rfl
    | true => exact (hL.self x hmem hf d hd hu).elim
  have touch : ∀ {s0 : St} {v : AV}, (∀ k, uses x.2.o k = true → (s0.setO x.2.o.dst v).t.get k = s0.t.get k) := by
    intro s0 v k hk
    rw [setO_get, if_neg]
    intro he
    rw [hnoself k he] at hk
    cases hk
  have hTouch : ∀ u ∈ pd, ∀ k, x.2.o.dst = some k → touches u.o k = false := fun u hu k hk => (hap u hu).1 k hk
  -- wanted
  have yes : ∀ {s r : St}, Sim pd s r → Rel C.N E0 B0 E r a → wants s x.2.o.guard = some true → aop C x.2.o.op x.2.o.dst s (fun s' => adops C (L.map (·.2)) (post.map (·.2)) s' K) →
      ∃ nw s' r', Stand (ops := ops) L (pre ++ [x]) post (⟨x.1, x.2.o, nw⟩ :: pd) l ∧ Sim (⟨x.1, x.2.o, nw⟩ :: pd) s' r' ∧ Rel C.N E0 B0 E r' a ∧ adops C (L.map (·.2)) (post.map (·.2)) s' K := by
    intro s r hS hR hw ha
    rcases hkind with hq | hn
    · obtain ⟨v, hg, hk⟩ := aop_quiet hq ha
      refine ⟨false, _, r, hstand _, hS.late hTouch ?_, hR, hk⟩
      refine PdVal.yes ?_ hq v ?_ ?_
      · rw [← hw]; exact wants_same fun k hk => touch k (by simp [uses, hk])
      · have : qev (s.setO x.2.o.dst v) x.2.o.op = qev s x.2.o.op := qev_congr (evs_same fun k hk => touch k (by simp [uses, hk])) fun d _ => by rw [setO_b]
        rw [this]; exact hg
      · intro d hd
        rw [setO_get, if_pos hd]
        exact .inl rfl
    · obtain ⟨d, v, b, hd, hf, han, hcn, hk⟩ := aop_new hn ha
      obtain ⟨hdead, hlt⟩ := fresh_spec hf
      refine ⟨true, _, r, hstand _, hS.lateNew hd hdead (fun u hu => hTouch u hu d hd) ?_, hR, hk⟩
      have tg : ∀ k, uses x.2.o k = true → (s.new d v b).t.get k = s.t.get k := by
        intro k hk
        rw [new_get, if_neg]
        rintro rfl
        rw [hnoself _ hd] at hk
        cases hk
      have hcn' : acond (s.new d v b) x.2.o.op := by
        rw [acond_congr (s := s) (r := s.new d v b) (op := x.2.o.op) (evs_same fun k hk => tg k (by simp [uses, hk]))]
        exact hcn
      refine ⟨?_, hn, hcn', d, v, b, hd, ?_, ?_, ?_, hlt⟩
      · rw [← hw]; exact wants_same fun k hk => tg k (by simp [uses, hk])
      · rw [← han]; exact anew_congr (evs_same fun k hk => tg k (by simp [uses, hk]))
      · rw [new_get, if_pos rfl]
      · rw [new_b, if_pos rfl]
  -- unwanted
  have no : ∀ {s r : St}, Sim pd s r → Rel C.N E0 B0 E r a → wants s x.2.o.guard = some false → adops C (L.map (·.2)) (post.map (·.2)) (s.setO x.2.o.dst (.tup .nil)) K →
      ∃ nw s' r', Stand (ops := ops) L (pre ++ [x]) post (⟨x.1, x.2.o, nw⟩ :: pd) l ∧ Sim (⟨x.1, x.2.o, nw⟩ :: pd) s' r' ∧ Rel C.N E0 B0 E r' a ∧ adops C (L.map (·.2)) (post.map (·.2)) s' K := by
    intro s r hS hR hw hk
    refine ⟨false, _, r, hstand _, hS.late hTouch ?_, hR, hk⟩
    refine PdVal.no ?_ fun d hd => by rw [setO_get, if_pos hd]
    rw [← hw]; exact wants_same fun k hk => touch k (by simp [uses, hk])
  rw [adops] at hK
  rw [hus] at hK
  split at hK
  · rename_i hg
    exact yes hS hR (by rw [hg]; rfl) hK
  · rename_i t b hg
    split at hK
    · rename_i ht
      split at hK
      · exact yes hS hR (by rw [hg]; simp [wants, ht]) hK
      · exact no hS hR (by rw [hg]; simp [wants, ht]) hK
    · rename_i ht
      split at hK
      · exact yes hS hR (by rw [hg]; simp [wants, ht]) hK
      · exact no hS hR (by rw [hg]; simp [wants, ht]) hK
    · rename_i q ht
      have hkn := hS.know ht fun u hu => (hap u hu).2 t b hg
      have hkr : ∃ r', Sim pd (s.set t (tv (q .o))) r' ∧ Rel C.N E0 B0 E r' a := by
        rcases hkn with h1 | ⟨h1, h2⟩
        · exact ⟨r, h1, hR⟩
        · refine ⟨_, h2, hR.retell ?_ (tv_locs _)⟩
          have := hR.tmps t
          rw [h1] at this
          have this : a.tmps.getD t undef = .bool (q .o) := this
          rw [this]
          exact tv_rp E _
      obtain ⟨r', h1, h2⟩ := hkr
      by_cases hb : q .o = b
      · rw [hb] at h1
        refine yes h1 h2 ?_ (hK.1 hb)
        rw [hg]
        simp only [wants]
        rw [set_get, if_pos rfl]
        cases b <;> rfl
      · have hb' : q .o = !b := by revert hb; cases q .o <;> cases b <;> simp
        rw [hb'] at h1
        refine no h1 h2 ?_ (hK.2 hb')
        rw [hg]
        simp only [wants]
        rw [set_get, if_pos rfl]
        cases b <;> rfl
    · rename_i ht
      exact no hS hR (by rw [hg]; simp [wants, ht]) hK
    · exact hK.elim
end
end Go.Proofs.YtkklflpfklbbcaaDoor.Sx

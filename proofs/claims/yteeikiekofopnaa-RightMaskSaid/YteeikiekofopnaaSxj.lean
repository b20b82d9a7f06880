/- A symbolic executor for the model's code: every operation does as the model does, the third part. -/
import Derived.Test.YteeikiekofopnaaSxi
import Derived.Great.BuildSlice
namespace Go.Proofs.Yteeikiekofopnaa.Sx
open Go
set_option linter.unusedSimpArgs false
set_option linter.unusedVariables false

def isQuiet : RO → Bool
  | .alloc _ => false | .box _ => false | .bslice _ _ _ _ => false | .append _ _ _ _ => false | .store _ _ _ => false | .call _ _ => false | .callv _ _ => false | .panic _ => false | .defer _ _ => false
  | _ => true

theorem aop_quiet {C : Cx} {ro : RO} {dst : Option Nat} {s : St} {K : St → Prop} (hq : isQuiet ro = true) (h : aop C ro dst s K) : ∃ v, (qev s ro).gives v ∧ K (s.setO dst v) := by
  have key : (match qev s ro with | .bad => False | .ok v => K (s.setO dst v) | .cond p v => (True → p .o) ∧ K (s.setO dst v)) → ∃ v, (qev s ro).gives v ∧ K (s.setO dst v) := by
    intro h
    split at h
    · exact h.elim
    · rename_i v hv; exact ⟨v, .inl hv, h⟩
    · rename_i p v hv; exact ⟨v, .inr ⟨p, hv, h.1 trivial⟩, h.2⟩
  cases ro <;> simp only [isQuiet, Bool.false_eq_true] at hq <;> exact key h

theorem rOp_quiet {P : Program} {op : Op} {ro : RO} (h : rOp P op = some ro) : isQuiet ro = true := by
  unfold rOp at h
  repeat' split at h
  all_goals first
    | (cases h; done)
    | (obtain ⟨y, _, rfl⟩ := opt_map h; rfl)
    | (cases h; rfl)
    | (cases h; split <;> rfl)

section
variable {C : Cx} {E0 : Env} {B0 : BL} {E : Env} {s : St} {a : Act} {o : Oper} {K : St → Prop} {next : Act → World → Prop} {Qc : Exit → Act → World → Prop}

theorem liveAt_not {B : BL} {d : Nat} (h : (B.get d).live = false) : ¬ B.liveAt d := by simp [BL.liveAt, h]
theorem fresh_spec {d : Nat} (h : fresh s d = true) : ¬ s.b.liveAt d ∧ d < 10000 := by
  unfold fresh at h
  split at h
  · cases h
  · rename_i hl; exact ⟨liveAt_not hl, by simpa [ltB] using h⟩

def UponOk (C : Cx) (E0 : Env) (B0 : BL) (a : Act) (K : St → Prop) (next : Act → World → Prop) (Qc : Exit → Act → World → Prop) : Prop :=
  (∀ E' s' a', Rel C.N E0 B0 E' s' a' → K s' → next a' E'.w) ∧
  (∀ E' s' v x, Rel C.N E0 B0 E' s' a → Rp E' v x → (∀ y, v.locs y → s'.b.liveAt y) → C.X (some v) s' → Qc (.panic [{ v := x, recovered := false }]) a E'.w)

theorem quiet_sound (h : Rel C.N E0 B0 E s a) (hB0 : ∀ x, x < 10000 → ¬ B0.liveAt x) {ro : RO} (hr : rOp (C.P .o) o.op = some ro) (hN : ∀ d, o.dst = some d → d < C.N) (ha : aop C ro o.dst s K)
    (hk : UponOk C E0 B0 a K next Qc) : o.wp (C.P .o) a E.w next Qc := by
  obtain ⟨v, hg, hK⟩ := aop_quiet (rOp_quiet hr) ha
  obtain ⟨z, h1, h2⟩ := qev_sound h.si hr hg
  unfold Oper.wp
  rw [h1]
  exact hk.1 E _ _ (h.value hB0 hN h2 (qev_locs h hr hg)) hK

theorem cells_of {c : AV} {v : Value} (h : rCells v = some c) : ListC E c v.cells.toList ∧ ∀ y, ¬ c.locs y := by
  unfold rCells at h
  split at h
  · rename_i x hx
    obtain ⟨h1, h2⟩ := cval_sound (E := E) hx
    obtain ⟨h3, _, h4⟩ := cells_sound h1 h
    exact ⟨h3, fun y hy => (AV.still_locs _).1 h2 y ((h4 y).1 hy)⟩
  · cases h

theorem alloc_sound (h : Rel C.N E0 B0 E s a) (hB0 : ∀ x, x < 10000 → ¬ B0.liveAt x) {t : TypeId} (ho : o.op = .alloc t) {i : TypeInfo} {z : Value} {c : AV} (hi : (C.P .o).info? t = some i) (hz : i.zero = some z) (hc : rCells z = some c)
    (hN : ∀ d, o.dst = some d → d < C.N) (ha : aop C (.alloc c) o.dst s K) (hk : UponOk C E0 B0 a K next Qc) : o.wp (C.P .o) a E.w next Qc := by
  simp only [aop] at ha
  split at ha
  · rename_i d hd
    split at ha
    · rename_i hf
      obtain ⟨hdead, hlt⟩ := fresh_spec hf
      obtain ⟨hcl, hl⟩ := cells_of (E := E) hc
      obtain ⟨E', hw, hR⟩ := h.alloc hB0 (hN d hd) hdead hlt hcl (fun y hy => (hl y hy).elim) t
      have hrun : (execOp a.eval o).run (C.P .o) E.w = .ok (.value (.pointer (some ⟨E.w.heap.size, 0, none⟩))) (E.w.alloc (.cells z.cells t)) := by
        unfold execOp
        simp only [ho]
        simp [Instr.alloc, zeroValue, typeInfo, hi, hz, newVar, newRow, newObj, Sem.run]
      unfold Oper.wp
      rw [hrun]
      have hw' : E'.w = E.w.alloc (.cells z.cells t) := by simpa using hw
      show next (a.put o.dst _) _
      rw [← hw', hd]
      exact hk.1 E' _ _ hR ha
    · exact ha.elim
  · exact ha.elim

theorem box_sound (h : Rel C.N E0 B0 E s a) (hB0 : ∀ x, x < 10000 → ¬ B0.liveAt x) {t : TypeId} {x : Operand} {x' : Opd} (ho : o.op = .box t x) (hx : rOpd x = some x')
    (hN : ∀ d, o.dst = some d → d < C.N) (ha : aop C (.box x') o.dst s K) (hk : UponOk C E0 B0 a K next Qc) : o.wp (C.P .o) a E.w next Qc := by
  simp only [aop] at ha
  split at ha
  · rename_i d c hd hc
    split at ha
    · rename_i hf
      obtain ⟨hdead, hlt⟩ := fresh_spec hf
      obtain ⟨hcl, _, hl⟩ := cells_sound (opd_sound h.si hx) hc
      obtain ⟨E', hw, hR⟩ := h.alloc hB0 (hN d hd) hdead hlt hcl (fun y hy => opd_locs h hx ((hl y).1 hy)) t
      have hrun : (execOp a.eval o).run (C.P .o) E.w = .ok (.value (.pointer (some ⟨E.w.heap.size, 0, none⟩))) (E.w.alloc (.cells (a.eval x).cells t)) := by
        unfold execOp
        simp only [ho]
        simp [Instr.box, newVar, newRow, newObj, Sem.run]
      unfold Oper.wp
      rw [hrun]
      have hw' : E'.w = E.w.alloc (.cells (a.eval x).cells t) := by simpa using hw
      show next (a.put o.dst _) _
      rw [← hw', hd]
      exact hk.1 E' _ _ hR ha
    · exact ha.elim
  · exact ha.elim

theorem store_sound (h : Rel C.N E0 B0 E s a) (hB0 : ∀ x, x < 10000 → ¬ B0.liveAt x) {t : TypeId} {x y : Operand} {x' y' : Opd} {i : TypeInfo} (ho : o.op = .store t x y) (hi : (C.P .o).info? t = some i) (hx : rOpd x = some x') (hy : rOpd y = some y')
    (hdst : o.dst = none) (ha : aop C (.store i.size x' y') o.dst s K) (hk : UponOk C E0 B0 a K next Qc) : o.wp (C.P .o) a E.w next Qc := by
  simp only [aop] at ha
  split at ha
  · rename_i d off vc hp hc
    split at ha
    · rename_i c hb
      split at ha
      · rename_i c' hlen hov
        have hxs := opd_sound h.si hx
        rw [hp] at hxs
        simp only [Rp] at hxs
        obtain ⟨hcl, hone, hl⟩ := cells_sound (opd_sound h.si hy) hc
        have hB := h.inv.blk d
        rw [hb] at hB
        obtain ⟨l, e, h1, h2⟩ := hB
        obtain ⟨h3, h4, h5⟩ := over_sound c off vc c' l _ h2 hcl hov
        have hdl : s.b.liveAt d := by simp [BL.liveAt, hb, Blk.live]
        obtain ⟨E', hw, hR⟩ := h.setBlk hB0 hdl (l.take off ++ (a.eval y).cells.toList ++ l.drop (off + (a.eval y).cells.toList.length)) (.cells c') rfl
          (fun z hz => (h5 z hz).elim (fun q => h.inv.nm d z (by rw [hb]; exact q)) fun q => opd_locs h hy ((hl z).1 q))
          (fun E' hw hρ hrv hle => ⟨_, e, by rw [hw, hρ]; exact setRow_heap _ _ _ _ _ _ h1, (rp_mono hle c' fun z _ => ⟨by rw [hρ], by rw [hrv]⟩).2.1 _ h4⟩)
        have hvl : (a.eval y).cells.size = i.size := by
          have q1 := listC_len hcl
          have q2 : vc.len = i.size := by simpa using hlen
          simpa [q2] using q1
        have hst := run_storeCells_at (P := C.P .o) (E.ρ d) off e (a.eval y).cells.toList 0 l.toArray E.w h1 (by simpa using h3) hone
        have hrun : (execOp a.eval o).run (C.P .o) E.w = .ok .skip (E.w.setRow (E.ρ d) (l.take off ++ (a.eval y).cells.toList ++ l.drop (off + (a.eval y).cells.toList.length)).toArray) := by
          unfold execOp
          simp only [ho, hxs]
          simp only [Instr.storeAt, Instr.sureAddr, storeVar, Sem.run_bind, Sem.run_pure, Result.andThen_ok, run_sizeOf hi, hvl, ne_eq, not_true_eq_false, if_false]
          rw [hst]
          simp
        unfold Oper.wp
        rw [hrun]
        show next (a.put o.dst undef) _
        rw [← hw, hdst]
        exact hk.1 E' _ _ hR ha
      · exact ha.elim
    · exact ha.elim
  · exact ha.elim

theorem build_sound (h : Rel C.N E0 B0 E s a) (hB0 : ∀ x, x < 10000 → ¬ B0.liveAt x) {t : TypeId} {ps : Array (Nat × Operand)} (ho : o.op = .build t ps) {z : Value} {place : Nat → Option (Nat × Nat)} {ro : RO}
    (hb : ∀ parts, (C.P .o).built t parts = Instr.fill place z.cells parts) (hr : rBuild z place ps = some ro)
    (hN : ∀ d, o.dst = some d → d < C.N) (ha : aop C ro o.dst s K) (hk : UponOk C E0 B0 a K next Qc) : o.wp (C.P .o) a E.w next Qc := by
  unfold rBuild at hr
  split at hr
  · rename_i c qs hc hq
    cases hr
    obtain ⟨v, hg, hK⟩ := aop_quiet rfl ha
    simp only [qev] at hg
    split at hg
    · rename_i c' hf
      rw [gives_ok] at hg
      subst hg
      obtain ⟨hcl, hl⟩ := cells_of (E := E) hc
      obtain ⟨cs', h1, h2, h3⟩ := fill_sound h.si ps.toList qs c c' z.cells hq hcl hf
      have hrun : (execOp a.eval o).run (C.P .o) E.w = .ok (.value (.agg cs')) E.w := by
        unfold execOp
        simp only [ho]
        refine value_of (run_build E.w t _ cs' ?_)
        rw [hb, ← h1]
        simp
      unfold Oper.wp
      rw [hrun]
      exact hk.1 E _ _ (h.value hB0 hN (rp_agg.2 ⟨cs'.toList, by simp, h2⟩) fun y hy => (h3 y hy).elim (fun q => (hl y q).elim) fun ⟨x, hx, hxl⟩ => parts_locs h _ _ hq x hx y hxl) hK
    · exact (gives_bad.1 hg).elim
  · cases hr

theorem stillB_spec (x : AV) (h : x.stillB = true) : x.still := by
  induction x with
  | cons a b iha ihb => unfold AV.stillB at h; split at h; · rename_i ha; exact ⟨iha ha, ihb h⟩
                        · cases h
  | fn f a b iha ihb => unfold AV.stillB at h; split at h; · rename_i ha; exact ⟨iha ha, ihb h⟩
                        · cases h
  | iptr c ih => exact ih h
  | ifc t v ih => exact ih h
  | agg c ih => exact ih h
  | tup c ih => exact ih h
  | row d => cases h
  | ptr d o => cases h
  | rptr d s i o => cases h
  | _ => trivial

theorem drop_still : ∀ (n : Nat) (c : AV), c.still → (c.drop n).still := fun n c h => (AV.still_locs _).2 fun d hd => (AV.still_locs _).1 h d (drop_locs n c d hd)
theorem take_still {n : Nat} {c r : AV} (h : c.take n = some r) (hc : c.still) : r.still := (AV.still_locs _).2 fun d hd => (AV.still_locs _).1 hc d (take_locs n c r h d hd)

theorem take_some : ∀ (n : Nat) (c : AV) (l : List Value), ListC E c l → n ≤ l.length → ∃ r, c.take n = some r
  | 0, c, l, _, _ => ⟨.nil, by cases c <;> rfl⟩
  | n + 1, .cons p q, l, h, hn => by
    obtain ⟨x, r, rfl, _, h2⟩ := listC_cons.1 h
    obtain ⟨r', hr⟩ := take_some n q r h2 (by simpa using hn)
    exact ⟨.cons p r', by simp [AV.take, hr]⟩
  | n + 1, .nil, l, h, hn => by rw [listC_nil.1 h] at hn; simp at hn
  | n + 1, .any, l, h, _ | n + 1, .int _ _, l, h, _ | n + 1, .bool _, l, h, _ | n + 1, .tt, l, h, _ | n + 1, .ff, l, h, _ | n + 1, .str _, l, h, _ | n + 1, .sl _ _ _, l, h, _ | n + 1, .nsl, l, h, _
  | n + 1, .row _, l, h, _ | n + 1, .ptr _ _, l, h, _ | n + 1, .iptr _, l, h, _ | n + 1, .rptr _ _ _ _, l, h, _ | n + 1, .nptr, l, h, _ | n + 1, .fn _ _ _, l, h, _ | n + 1, .nfn, l, h, _ | n + 1, .nif, l, h, _
  | n + 1, .ifc _ _, l, h, _ | n + 1, .agg _, l, h, _ | n + 1, .tup _, l, h, _ => by simp only [ListC] at h

/-- Elements of a row of cells. -/
theorem elemAt_sound {c : AV} {l : List Value} (h : ListC E c l) (hs : c.still) (sz i : Nat) (hi : i * sz + sz ≤ l.length) : (elemAt sz c i).still ∧ ListC E (elemAt sz c i) ((l.drop (i * sz)).take sz) := by
  unfold elemAt
  obtain ⟨r, hr⟩ := take_some sz _ _ (listC_drop (i * sz) c l h) (by simp; omega)
  rw [hr]
  exact ⟨take_still hr (drop_still _ _ hs), (listC_take _ _ _ _ (listC_drop (i * sz) c l h) hr).1⟩

theorem over_len : ∀ (z : AV) (k : Nat) (y z' : AV), z.over k y = some z' → z'.len = z.len := by
  intro z
  induction z with
  | cons p q _ ih2 =>
    intro k y z' ho
    cases k with
    | succ k =>
      simp only [AV.over] at ho
      split at ho
      · rename_i r' hr'; cases ho; simp [AV.len, ih2 _ _ _ hr']
      · cases ho
    | zero =>
      cases y <;> simp only [AV.over, Option.some.injEq, reduceCtorEq] at ho
      · subst ho; rfl
      · split at ho
        · rename_i r' hr'; cases ho; simp [AV.len, ih2 _ _ _ hr']
        · cases ho
  | _ =>
    intro k y z' ho
    cases k <;> cases y <;> simp only [AV.over, Option.some.injEq, reduceCtorEq] at ho <;> (subst ho; rfl)
theorem fillc_len : ∀ (qs : List (Nat × Nat × Opd)) (z c : AV), fillc s z qs = some c → c.len = z.len
  | [], z, c, hf => by cases hf; rfl
  | (o', n', x') :: r, z, c, hf => by
    unfold fillc at hf
    split at hf
    · split at hf
      · split at hf
        · rename_i z' hov
          rw [fillc_len r z' c hf, over_len _ _ _ _ hov]
        · cases hf
      · cases hf
    · cases hf

theorem bslice_sound (h : Rel C.N E0 B0 E s a) (hB0 : ∀ x, x < 10000 → ¬ B0.liveAt x) {t e : TypeId} {n : Nat} {ps : Array (Nat × Operand)} (ho : o.op = .buildSlice t n ps) {i : TypeInfo} {z : Value} {c : AV} {qs : List (Nat × Nat × Opd)}
    (hu : (C.P .o).underlying t = some (.slice e)) (hi : (C.P .o).info? e = some i) (hz : i.zero = some z) (hc : rCells z = some c) (hq : rParts (fun j => some (j * i.size, i.size)) ps.toList = some qs)
    (hcond : (n * i.size ≤ 2 ^ 24 ∧ z.cells.size = i.size) ∧ ((n = 0 ∧ ps.size = 0) ∨ n * i.size ≠ 0))
    (hN : ∀ d, o.dst = some d → d < C.N) (ha : aop C (.bslice i.size c n qs) o.dst s K) (hk : UponOk C E0 B0 a K next Qc) : o.wp (C.P .o) a E.w next Qc := by
  simp only [aop] at ha
  split at ha
  · rename_i d c' hd hf
    split at ha
    · rename_i hfr hst
      obtain ⟨hdead, hlt⟩ := fresh_spec hfr
      obtain ⟨hcl, hl⟩ := cells_of (E := E) hc
      have hzs : z.cells.toList.length = i.size := by simpa using hcond.1.2
      have hrep := rep_sound E hcl n
      have hlen0 : (List.replicate n z.cells.toList).flatten.length = n * i.size := by simp [List.length_flatten, hcond.1.2]
      have hsmall : n ≤ maxLen := by
        have h2 : i.size ≠ 0 ∨ n = 0 := by
          rcases hcond.2 with ⟨h0, _⟩ | h0
          · exact .inr h0
          · exact .inl fun hz => h0 (by rw [hz]; simp)
        rcases h2 with h2 | h2
        · have h1 := hcond.1.1
          have : n ≤ n * i.size := Nat.le_mul_of_pos_right n (by omega)
          unfold maxLen; omega
        · subst h2; exact Nat.zero_le _
      -- what is filled
      have hex : ∃ cs : Array Value, (Instr.buildSlice t n (ps.map fun p => (p.1, a.eval p.2))).run (C.P .o) E.w = .ok (.slice (some ⟨E.w.heap.size, 0, none⟩) n n) (E.w.alloc (.cells cs e)) ∧ ListC E c' cs.toList := by
        rcases hcond.2 with ⟨h0, hp⟩ | h0
        · subst h0
          have : ps = #[] := by apply Array.ext'; simpa using hp
          subst this
          cases hq
          simp only [fillc, rep, Option.some.injEq] at hf
          subst hf
          refine ⟨#[], ?_, listC_nil.2 rfl⟩
          have h0 : Array.range 0 = #[] := by apply Array.ext'; simp
          simp [Instr.buildSlice, run_underlying hu, sizeOf, typeInfo, hi, Instr.fill, newRow, newObj, Sem.run, h0]
        · have hzs' : z.cells.size = i.size := hcond.1.2
          have hzne : z.cells.size ≠ 0 := by rw [hzs']; intro hh; exact h0 (by rw [hh]; simp)
          obtain ⟨cs', h1, h2, _⟩ := fill_sound h.si ps.toList qs (rep c n) c' ((Array.range (n * z.cells.size)).map (z.cells[· % z.cells.size]!)) hq (by rw [range_zero _ _ hzne]; exact hrep) hf
          refine ⟨cs', run_buildSlice E.w t e n _ cs' i z hu hi hz (by omega) (by omega) ?_, h2⟩
          rw [← h1, hzs']
          simp
      obtain ⟨cs, hrun0, hcs⟩ := hex
      have hcslen : cs.toList.length = n * i.size := by rw [listC_len hcs, fillc_len _ _ _ hf, ← listC_len hrep, hlen0]
      have hcsz : cs.size = n * i.size := by simpa using hcslen
      have hstill := stillB_spec c' hst
      obtain ⟨E', hw, hR⟩ := h.newBlk hB0 (hN d hd) hdead hlt cs.toList e (.slice (some ⟨E.w.heap.size, 0, none⟩) n n) (.row i.size (fun _ => n) fun j => elemAt i.size c' (j .o)) (.row d) (.slice (some ⟨E.w.heap.size, 0, none⟩) n n)
        rfl (fun y hy => hy.elim) (fun y hy => hy) (fun E' hw hle hρ hrv hs => by
          refine ⟨⟨n, cs.toList, e, by rw [hrv, hρ], by rw [hρ, hw]; exact alloc_new _ _, Nat.le_refl _, hsmall, hcslen, fun j hj => ?_⟩, hrv.symm, _, _, _, rfl⟩
          have hj' : j * i.size + i.size ≤ cs.toList.length := by
            rw [hcslen]
            have : (j + 1) * i.size ≤ n * i.size := Nat.mul_le_mul_right _ hj
            rw [Nat.add_mul] at this; omega
          obtain ⟨h1, h2⟩ := elemAt_sound hcs hstill i.size j hj'
          exact ⟨h1, (rp_mono hle _ fun y hy => ((AV.still_locs _).1 h1 y hy).elim).2.1 _ h2⟩)
      have hrun : (execOp a.eval o).run (C.P .o) E.w = .ok (.value (.slice (some ⟨E.w.heap.size, 0, none⟩) n n)) (E.w.alloc (.cells cs e)) := by
        unfold execOp
        simp only [ho]
        rw [run_valueOf]
        have : (ps.map fun (x : Nat × Operand) => (x.1, a.eval x.2)) = ps.map fun p => (p.1, a.eval p.2) := rfl
        rw [show (ps.map fun x => match x with | (i, x) => (i, a.eval x)) = ps.map fun p => (p.1, a.eval p.2) from rfl, hrun0]
        rfl
      unfold Oper.wp
      rw [hrun]
      have hw' : E'.w = E.w.alloc (.cells cs e) := by simpa using hw
      show next (a.put o.dst _) _
      rw [← hw', hd]
      exact hk.1 E' _ _ hR ha
    · exact ha.elim
  · exact ha.elim

/-- What a call does, as the caller sees it. -/
theorem call_step (h : Rel C.N E0 B0 E s a) (hB0 : ∀ x, x < 10000 → ¬ B0.liveAt x) {f : Nat} {as : List AV} {vs : List Value} (hf : fresh s (o.dst.getD 9999) = true) (hvs : ListC E (chain as) vs) (hloc : ∀ y, (chain as).locs y → s.b.liveAt y)
    (hN : ∀ d, o.dst = some d → d < C.N)
    (ha : CallAt C.P f as (o.dst.getD 9999) s.b fun r B' => match r with
        | .ret v => K ((⟨s.t, B', s.df⟩ : St).setO o.dst v)
        | .pan v => C.X (some v) ⟨s.t, B', s.df⟩)
    (hk : UponOk C E0 B0 a K next Qc) : Calls (C.P .o) f vs.toArray E.w fun
      | .returned v, w'' => next (a.put o.dst v) w''
      | .panicked chain, w'' => Qc (.panic chain) a w''
      | .outgrown, _ => LetsOut Qc := by
  obtain ⟨hdead, hlt⟩ := fresh_spec hf
  refine (ha.run E vs h.inv hvs hloc hdead).mono ?_
  rintro e w' ⟨E', r, B', rfl, hK, hend, hinv, hpost, hrl⟩
  cases r with
  | ret v =>
    cases e with
    | returned x => exact hk.1 E' _ _ (h.step hpost (fun x hx => by subst hx; exact ⟨hlt, hdead⟩) hB0 hinv hN hend hrl) hK
    | panicked ch => exact hend.elim
    | outgrown => exact hend.elim
  | pan v =>
    cases e with
    | returned x => exact hend.elim
    | panicked ch =>
      obtain ⟨x, rfl, hx⟩ := hend
      exact hk.2 E' ⟨s.t, B', s.df⟩ v x (h.step (dst := none) (v := .any) (x := undef) hpost (fun x hx => by subst hx; exact ⟨hlt, hdead⟩) hB0 hinv (fun _ h => by cases h) trivial (fun y hy => hy.elim)) hx hrl hK
    | outgrown => exact hend.elim

theorem callable_spec {P : Program} {f : Nat} (h : callable P f = true) : ∃ fn, P.funcs[f]? = some fn ∧ fn.body.isSome = true ∧ fn.name ≠ "runtime.NumGoroutine" := by
  unfold callable at h
  split at h
  · rename_i fn hfn
    simp only [Bool.and_eq_true, bne_iff_ne, ne_eq] at h
    exact ⟨fn, hfn, h.1, h.2⟩
  · cases h

theorem run_callFunc {P : Program} {w : World} {f : Nat} (h : callable P f = true) (args : Array Value) : (callFunc f args).run P w = .ok (.enter f args) w := by
  obtain ⟨fn, h1, h2, h3⟩ := callable_spec h
  unfold callFunc
  have h4 : fn.body.isNone = false := by cases hb : fn.body <;> simp [hb] at h2 ⊢
  simp only [program, Sem.run_bind, Sem.run, Result.andThen_ok, h1]
  have h5 : (fn.name == "runtime.NumGoroutine") = false := by simpa using h3
  simp [h4, h5]

theorem nil_app (y : AV) : AV.nil.app y = y := by cases y <;> rfl

theorem chain_app : ∀ (l m : List AV), chain (l ++ m) = (chain l).app (chain m)
  | [], m => (nil_app _).symm
  | x :: l, m => by simp [chain, AV.app, chain_app l m]

theorem unchain_sound {c : AV} : ∀ {l : List Value}, ListC E c l → ListC E (chain (unchain c)) l ∧ (∀ y, (chain (unchain c)).locs y ↔ c.locs y) := by
  induction c with
  | nil => intro l h; exact ⟨h, fun y => Iff.rfl⟩
  | cons p q _ ih =>
    intro l h
    obtain ⟨x, r, rfl, h1, h2⟩ := listC_cons.1 h
    obtain ⟨h3, h4⟩ := ih h2
    exact ⟨listC_cons.2 ⟨x, r, rfl, h1, h3⟩, fun y => or_congr Iff.rfl (h4 y)⟩
  | _ => intro l h; simp only [ListC] at h

theorem callf_sound (h : Rel C.N E0 B0 E s a) (hB0 : ∀ x, x < 10000 → ¬ B0.liveAt x) {f : Nat} {args : Array Operand} {ts : Array TypeId} {q : List Opd} (ho : o.op = .call { callee := .value (.func f), args := args, argTypes := ts })
    (hc : callable (C.P .o) f = true) (hq : rOpds args.toList = some q) (hN : ∀ d, o.dst = some d → d < C.N) (ha : aop C (.call f q) o.dst s K) (hk : UponOk C E0 B0 a K next Qc) : o.wp (C.P .o) a E.w next Qc := by
  simp only [aop] at ha
  obtain ⟨E', hw, h⟩ := h.shutL hB0 ((chain (evs s q)).rows [])
  generalize s.shutL ((chain (evs s q)).rows []) = s at ha h
  rw [← hw]
  unfold acall at ha
  split at ha
  · rename_i hf
    have hvs := opds_sound h.si _ _ hq
    have hrun : (execOp a.eval o).run (C.P .o) E'.w = .ok (.enter f (args.toList.map a.eval).toArray) E'.w := by
      unfold execOp
      simp only [ho, resolve, Act.eval, Deferred.ofValue, Sem.run_bind, Sem.run_pure, Result.andThen_ok, invoke]
      rw [run_callFunc hc]
      congr 2
      apply Array.ext'
      simp
    unfold Oper.wp
    rw [hrun]
    exact call_step h hB0 hf hvs (fun y hy => opds_locs h _ _ hq hy) hN ha hk
  · exact ha.elim

theorem callv_sound (h : Rel C.N E0 B0 E s a) (hB0 : ∀ x, x < 10000 → ¬ B0.liveAt x) {t : Nat} {args : Array Operand} {ts : Array TypeId} {q : List Opd} (ho : o.op = .call { callee := .value (.tmp t), args := args, argTypes := ts })
    (hq : rOpds args.toList = some q) (hN : ∀ d, o.dst = some d → d < C.N) (ha : aop C (.callv (.tmp t) q) o.dst s K) (hk : UponOk C E0 B0 a K next Qc) : o.wp (C.P .o) a E.w next Qc := by
  simp only [aop] at ha
  obtain ⟨E', hw, h⟩ := h.shutL hB0 (((Opd.tmp t).ev s).rows ((chain (evs s q)).rows []))
  generalize s.shutL (((Opd.tmp t).ev s).rows ((chain (evs s q)).rows [])) = s at ha h
  rw [← hw]
  unfold acallv at ha
  split at ha
  · rename_i f first caps hfv
    unfold acall at ha
    split at ha
    · rename_i hf
      have hvs := opds_sound h.si _ _ hq
      have hfn := opd_sound h.si (x := .tmp t) (y := .tmp t) rfl
      rw [hfv] at hfn
      obtain ⟨l, m, h1, h2, h3⟩ := hfn
      obtain ⟨h4, h5⟩ := unchain_sound h2
      obtain ⟨h6, h7⟩ := unchain_sound h3
      have hfl : ∀ y, (AV.fn (.func f) first caps).locs y → s.b.liveAt y := fun y hy => opd_locs h (x := .tmp t) (y := .tmp t) rfl (by rw [hfv]; exact hy)
      have hall : ListC E' (chain (unchain first ++ (evs s q ++ unchain caps))) (l ++ (args.toList.map a.eval ++ m)) := by
        rw [chain_app, chain_app]
        exact listC_app h4 (listC_app hvs h6)
      have hrun : (execOp a.eval o).run (C.P .o) E'.w = .ok (.enter f (l ++ (args.toList.map a.eval ++ m)).toArray) E'.w := by
        unfold execOp
        simp only [ho, resolve, h1, Deferred.ofValue, Sem.run_bind, Sem.run_pure, Result.andThen_ok, invoke]
        rw [run_callFunc ha.can]
        congr 2
        apply Array.ext'
        simp
      unfold Oper.wp
      rw [hrun]
      refine call_step h hB0 hf hall (fun y hy => ?_) hN ha hk
      rw [chain_app, chain_app] at hy
      rcases app_locs hy with hy | hy
      · exact hfl y (.inl ((h5 y).1 hy))
      · rcases app_locs hy with hy | hy
        · exact opds_locs h _ _ hq hy
        · exact hfl y (.inr ((h7 y).1 hy))
    · exact ha.elim
  · exact ha.elim

theorem panic_sound (h : Rel C.N E0 B0 E s a) {x : Operand} {x' : Opd} (ho : o.op = .panic x) (hx : rOpd x = some x') (ha : aop C (.panic x') o.dst s K) (hk : UponOk C E0 B0 a K next Qc) : o.wp (C.P .o) a E.w next Qc := by
  simp only [aop] at ha
  split at ha
  · rename_i t v hv
    have hxs := opd_sound h.si hx
    rw [hv] at hxs
    obtain ⟨y, h1, h2⟩ := hxs
    have hrun : (execOp a.eval o).run (C.P .o) E.w = .halt (.panic (.iface t y)) E.w := by
      unfold execOp
      simp only [ho, h1]
      simp [Instr.panic, goPanic, Sem.run]
    unfold Oper.wp
    rw [hrun]
    exact hk.2 E s (.ifc t v) (.iface t y) h ⟨y, rfl, h2⟩ (fun z hz => opd_locs h hx (by rw [hv]; exact hz)) ha
  · exact ha.elim

theorem defer_sound (h : Rel C.N E0 B0 E s a) {x : Operand} {args : Array Operand} {ts : Array TypeId} {x' : Opd} {q : List Opd} (ho : o.op = .defer { callee := .value x, args := args, argTypes := ts }) (hx : rOpd x = some x') (hq : rOpds args.toList = some q)
    (ha : aop C (.defer x' q) o.dst s K) (hk : UponOk C E0 B0 a K next Qc) : o.wp (C.P .o) a E.w next Qc := by
  simp only [aop] at ha
  split at ha
  · rename_i f first caps hd hv
    have hxs := opd_sound h.si hx
    rw [hv] at hxs
    obtain ⟨l, m, h1, h2, h3⟩ := hxs
    have hvs := opds_sound h.si _ _ hq
    have hxl : ∀ y, (AV.fn f first caps).locs y → s.b.liveAt y := fun y hy => opd_locs h hx (by rw [hv]; exact hy)
    have hrun : (execOp a.eval o).run (C.P .o) E.w = .ok (.defer { target := .fn f m.toArray, args := (l ++ args.toList.map a.eval).toArray }) E.w := by
      unfold execOp
      simp only [ho, resolve, h1, Deferred.ofValue, Sem.run_bind, Sem.run_pure, Result.andThen_ok]
      congr 3
      apply Array.ext'
      simp
    unfold Oper.wp
    rw [hrun, ]
    show next (({ a with defers := _ :: a.defers } : Act).put o.dst undef) _
    rw [hd]
    refine hk.1 E ⟨s.t, s.b, .cons (.fn f (first.app (chain (evs s q))) caps) s.df⟩ _ ⟨h.tmps, h.inv, h.tn, h.sz, ⟨m, l ++ args.toList.map a.eval, a.defers, rfl, h3, listC_app h2 hvs, h.df⟩, fun y hy => ?_, h.post⟩ ha
    rcases hy with (hy | hy) | hy
    · rcases app_locs hy with hy | hy
      · exact hxl y (.inl hy)
      · exact opds_locs h _ _ hq hy
    · exact hxl y (.inr hy)
    · exact h.dn y hy
  · exact ha.elim

theorem aop_sound (h : Rel C.N E0 B0 E s a) (hB0 : ∀ x, x < 10000 → ¬ B0.liveAt x) {ro : RO} (hr : rOpX (C.P .o) o.op = some ro) (hN : ∀ d, o.dst = some d → d < C.N) (hst : (∃ t x y, o.op = .store t x y) → o.dst = none)
    (ha : aop C ro o.dst s K) (hk : UponOk C E0 B0 a K next Qc) : o.wp (C.P .o) a E.w next Qc := by
  unfold rOpX at hr
  split at hr
  · rename_i t ho
    split at hr
    · rename_i i hi
      split at hr
      · rename_i z hz
        split at hr
        · rename_i c hc
          cases hr
          exact alloc_sound h hB0 ho hi hz hc hN ha hk
        · cases hr
      · cases hr
    · cases hr
  · rename_i t x ho
    obtain ⟨y, hy, rfl⟩ := opt_map hr
    exact box_sound h hB0 ho hy hN ha hk
  · rename_i t ps ho
    split at hr
    · rename_i it n e hi hu
      split at hr
      · rename_i z ie hz hie
        exact build_sound h hB0 ho (fun parts => by simp [Program.built, hi, hu, hz, hie]) hr hN ha hk
      · cases hr
    · rename_i it fields hi hu
      split at hr
      · rename_i z places hz hpl
        exact build_sound h hB0 ho (fun parts => by simp only [Program.built, hi, hu, hz, hpl]) hr hN ha hk
      · cases hr
    · cases hr
  · rename_i t n ps ho
    split at hr
    · rename_i e hu
      split at hr
      · rename_i i hi
        split at hr
        · rename_i z hz
          split at hr
          · rename_i c qs hc hq
            split at hr
            · rename_i hcond
              cases hr
              exact bslice_sound h hB0 ho hu hi hz hc hq hcond hN ha hk
            · cases hr
          · cases hr
        · cases hr
      · cases hr
    · cases hr
  · rename_i t x y ho
    split at hr
    · rename_i i x' y' hi hx hy
      cases hr
      exact store_sound h hB0 ho hi hx hy (hst ⟨t, x, y, ho⟩) ha hk
    · cases hr
  · rename_i f args ts ho
    split at hr
    · rename_i hc
      obtain ⟨q, hq, rfl⟩ := opt_map hr
      exact callf_sound h hB0 ho hc hq hN ha hk
    · cases hr
  · rename_i t args ts ho
    obtain ⟨q, hq, rfl⟩ := opt_map hr
    exact callv_sound h hB0 ho hq hN ha hk
  · rename_i x ho
    obtain ⟨y, hy, rfl⟩ := opt_map hr
    exact panic_sound h ho hy ha hk
  · rename_i x args ts ho
    split at hr
    · rename_i x' q hx hq
      cases hr
      exact defer_sound h ho hx hq ha hk
    · cases hr
  · exact quiet_sound h hB0 hr hN ha hk

end

end Go.Proofs.Yteeikiekofopnaa.Sx

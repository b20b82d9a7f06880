/- A symbolic executor for the model's code: regions whose order of evaluation is left open: operations that come late. -/
import Derived.Test.YtiaenejafpbfkaaDoorSxr
namespace Go.Proofs.YtiaenejafpbfkaaDoor.Sx
open Go
set_option linter.unusedSimpArgs false
set_option linter.unusedVariables false

/-- An operation that is yet to come in the machine. -/
structure Pd where
  i : Nat
  o : ROp
  nw : Bool

def wants (s : St) : Option (Nat × Bool) → Option Bool
  | none => some true
  | some (t, b) => match s.t.get t with | .tt => some b | .ff => some (!b) | .tup .nil => some false | _ => none
def Tel (v v' : AV) : Prop := v' = v ∨ ∃ b : Th Bool, v = .bool b ∧ v' = tv (b .o)
structure PdNew (s : St) (u : ROp) : Prop where
  w : wants s u.guard = some true
  n : isNew u.op = true
  c : acond s u.op
  e : ∃ d v b, u.dst = some d ∧ anew s u.op d = some (v, b) ∧ s.t.get d = v ∧ s.b.get d = b ∧ d < 10000
inductive PdVal (s : St) (u : ROp) : Prop
  | no (w : wants s u.guard = some false) (e : ∀ d, u.dst = some d → s.t.get d = .tup .nil)
  | yes (w : wants s u.guard = some true) (q : isQuiet u.op = true) (v : AV) (g : (qev s u.op).gives v) (e : ∀ d, u.dst = some d → Tel v (s.t.get d))
def PdOk (s : St) (u : Pd) : Prop := match u.nw with | true => PdNew s u.o | false => PdVal s u.o

/-- r is s without what is yet to come. -/
structure Sim (pd : List Pd) (s r : St) : Prop where
  t : ∀ k, (∀ u ∈ pd, u.o.dst ≠ some k) → r.t.get k = s.t.get k
  b : ∀ x, (∀ u ∈ pd, u.nw = true → u.o.dst ≠ some x) → r.b.get x = s.b.get x
  no : ∀ u ∈ pd, u.nw = true → ∀ x, u.o.dst = some x → r.b.get x = .no
  df : r.df = s.df
  ok : ∀ u ∈ pd, PdOk s u

def usesO (op : RO) (t : Nat) : Bool := op.opds.any fun x => match x with | .tmp n => n == t | _ => false
def usesG (g : Option (Nat × Bool)) (t : Nat) : Bool := match g with | some (k, _) => k == t | none => false
def uses (o : ROp) (t : Nat) : Bool := usesO o.op t || usesG o.guard t
def touches (o : ROp) (t : Nat) : Bool := uses o t || (match o.dst with | some d => d == t | none => false)

section
variable {s r s' : St}

theorem usesO_not {op : RO} {t : Nat} (h : usesO op t = false) {x : Opd} (hx : x ∈ op.opds) : x ≠ .tmp t := by
  rintro rfl
  simp only [usesO, List.any_eq_false] at h
  have := h _ hx
  simp at this
theorem ev_eq {x : Opd} (h : ∀ k, x = .tmp k → r.t.get k = s.t.get k) : x.ev r = x.ev s := by
  cases x with
  | tmp k => exact h k rfl
  | val v => rfl
theorem evs_same {op : RO} (h : ∀ k, usesO op k = true → r.t.get k = s.t.get k) : ∀ x ∈ op.opds, x.ev r = x.ev s := by
  intro x hx
  refine ev_eq fun k hk => h k ?_
  subst hk
  simp only [usesO, List.any_eq_true]
  exact ⟨_, hx, by simp⟩
theorem wants_same {g : Option (Nat × Bool)} (h : ∀ k, usesG g k = true → r.t.get k = s.t.get k) : wants r g = wants s g := by
  cases g with
  | none => rfl
  | some p => obtain ⟨t, b⟩ := p; simp only [wants]; rw [h t (by simp [usesG])]

/-- What is yet to come, told of another state. -/
theorem PdOk.to {u : Pd} (h : PdOk s u) (hu : ∀ k, touches u.o k = true → s'.t.get k = s.t.get k) (hr : ∀ x, rdp s u.o.op = some x → s.b.liveAt x → s'.b.get x = s.b.get x)
    (hn : u.nw = true → ∀ d, u.o.dst = some d → s'.b.get d = s.b.get d) : PdOk s' u := by
  have hO : ∀ k, usesO u.o.op k = true → s'.t.get k = s.t.get k := fun k hk => hu k (by simp [touches, uses, hk])
  have hG : ∀ k, usesG u.o.guard k = true → s'.t.get k = s.t.get k := fun k hk => hu k (by simp [touches, uses, hk])
  have hD : ∀ d, u.o.dst = some d → s'.t.get d = s.t.get d := fun d hd => hu d (by simp [touches, hd])
  have he := evs_same hO
  have hw := wants_same hG
  unfold PdOk at h ⊢
  split at h
  · rename_i hnw
    obtain ⟨w, n, c, d, v, b, h1, h2, h3, h4, h5⟩ := h
    exact ⟨hw.trans w, n, (by rw [acond_congr he]; exact c), d, v, b, h1, (anew_congr he).trans h2, (hD d h1).trans h3, (hn hnw d h1).trans h4, h5⟩
  · cases h with
    | no w e => exact .no (hw.trans w) fun d hd => (hD d hd).trans (e d hd)
    | yes w q v g e =>
      have hq : qev s' u.o.op = qev s u.o.op := qev_congr he fun d hd => hr d hd (gives_live g hd)
      exact .yes (hw.trans w) q v (hq ▸ g) fun d hd => hD d hd ▸ e d hd

theorem set_get (d : Nat) (v : AV) (k : Nat) : (s.set d v).t.get k = if d = k then v else s.t.get k := rfl
theorem setO_get (d : Option Nat) (v : AV) (k : Nat) : (s.setO d v).t.get k = if d = some k then v else s.t.get k := by
  cases d with
  | none => simp [St.setO]
  | some d => simp only [St.setO, Option.some.injEq]; rfl
theorem setO_b (d : Option Nat) (v : AV) : (s.setO d v).b = s.b := by cases d <;> rfl
theorem setO_df (d : Option Nat) (v : AV) : (s.setO d v).df = s.df := by cases d <;> rfl

theorem PdOk.setO {u : Pd} (h : PdOk s u) {d : Option Nat} {v : AV} (hd : ∀ k, d = some k → touches u.o k = false) : PdOk (s.setO d v) u := by
  refine h.to (fun k hk => ?_) (fun x _ _ => by rw [setO_b]) (fun _ x _ => by rw [setO_b])
  rw [setO_get, if_neg]
  intro he
  rw [hd k he] at hk
  cases hk

/-- s and r have the same temporary set. -/
theorem Sim.setO {pd : List Pd} (h : Sim pd s r) {d : Option Nat} {v : AV} (hd : ∀ u ∈ pd, ∀ k, d = some k → touches u.o k = false) : Sim pd (s.setO d v) (r.setO d v) := by
  refine ⟨fun k hk => ?_, fun x hx => ?_, fun u hu hn x hx => ?_, ?_, fun u hu => (h.ok u hu).setO (hd u hu)⟩
  · rw [setO_get, setO_get, h.t k hk]
  · rw [setO_b, setO_b, h.b x hx]
  · rw [setO_b]; exact h.no u hu hn x hx
  · rw [setO_df, setO_df, h.df]

/-- A value that s has, and r has not yet. -/
theorem Sim.late {pd : List Pd} (h : Sim pd s r) {u : ROp} {i : Nat} {v : AV} (hd : ∀ w ∈ pd, ∀ k, u.dst = some k → touches w.o k = false) (hok : PdOk (s.setO u.dst v) ⟨i, u, false⟩) : Sim (⟨i, u, false⟩ :: pd) (s.setO u.dst v) r := by
  refine ⟨fun k hk => ?_, fun x hx => ?_, fun w hw hn x hx => ?_, ?_, fun w hw => ?_⟩
  · rw [setO_get, if_neg (hk _ (List.mem_cons_self ..))]
    exact h.t k fun w hw => hk w (List.mem_cons_of_mem _ hw)
  · rw [setO_b]; exact h.b x fun w hw => hx w (List.mem_cons_of_mem _ hw)
  · rcases List.mem_cons.1 hw with rfl | hw
    · cases hn
    · exact h.no w hw hn x hx
  · rw [setO_df]; exact h.df
  · rcases List.mem_cons.1 hw with rfl | hw
    · exact hok
    · exact (h.ok w hw).setO (hd w hw)

theorem new_get (d : Nat) (v : AV) (b : Blk) (k : Nat) : (s.new d v b).t.get k = if d = k then v else s.t.get k := rfl
theorem new_b (d : Nat) (v : AV) (b : Blk) (k : Nat) : (s.new d v b).b.get k = if d = k then b else s.b.get k := rfl
theorem dead_no {B : BL} {d : Nat} (h : ¬ B.liveAt d) : B.get d = .no := by
  unfold BL.liveAt at h
  cases hb : B.get d with
  | no => rfl
  | _ => rw [hb] at h; exact absurd rfl h
theorem PdOk.new {u : Pd} (h : PdOk s u) {d : Nat} {v : AV} {b : Blk} (hf : ¬ s.b.liveAt d) (hd : touches u.o d = false) : PdOk (s.new d v b) u := by
  refine h.to (fun k hk => ?_) (fun x _ hx => ?_) (fun _ x hx => ?_)
  · rw [new_get, if_neg]; rintro rfl; rw [hd] at hk; cases hk
  · rw [new_b, if_neg]; rintro rfl; exact hf hx
  · rw [new_b, if_neg]
    rintro rfl
    simp [touches, hx] at hd
theorem Sim.lateNew {pd : List Pd} (h : Sim pd s r) {u : ROp} {i d : Nat} {v : AV} {b : Blk} (hu : u.dst = some d) (hf : ¬ s.b.liveAt d) (hd : ∀ w ∈ pd, touches w.o d = false) (hok : PdOk (s.new d v b) ⟨i, u, true⟩) : Sim (⟨i, u, true⟩ :: pd) (s.new d v b) r := by
  refine ⟨fun k hk => ?_, fun x hx => ?_, fun w hw hn x hx => ?_, h.df, fun w hw => ?_⟩
  · rw [new_get, if_neg (fun e : d = k => hk _ (List.mem_cons_self ..) (by rw [← e]; exact hu))]
    exact h.t k fun w hw => hk w (List.mem_cons_of_mem _ hw)
  · rw [new_b, if_neg (fun e : d = x => hx _ (List.mem_cons_self ..) rfl (by rw [← e]; exact hu))]
    exact h.b x fun w hw => hx w (List.mem_cons_of_mem _ hw)
  · rcases List.mem_cons.1 hw with rfl | hw
    · have : d = x := by simpa [hu] using hx
      subst this
      rw [h.b d fun w hw _ e => by have := hd w hw; simp [touches, e] at this]
      exact dead_no hf
    · exact h.no w hw hn x hx
  · rcases List.mem_cons.1 hw with rfl | hw
    · exact hok
    · exact (h.ok w hw).new hf (hd w hw)
theorem Sim.new {pd : List Pd} (h : Sim pd s r) {d : Nat} {v : AV} {b : Blk} (hf : ¬ s.b.liveAt d) (hd : ∀ w ∈ pd, touches w.o d = false) : Sim pd (s.new d v b) (r.new d v b) := by
  refine ⟨fun k hk => ?_, fun x hx => ?_, fun w hw hn x hx => ?_, h.df, fun w hw => (h.ok w hw).new hf (hd w hw)⟩
  · rw [new_get, new_get, h.t k hk]
  · rw [new_b, new_b, h.b x hx]
  · rw [new_b, if_neg]
    · exact h.no w hw hn x hx
    · rintro rfl; have := hd w hw; simp [touches, hx] at this
/-- A place that nothing to come is to fill. -/
theorem Sim.dead {pd : List Pd} (h : Sim pd s r) {d : Nat} (hd : ∀ w ∈ pd, touches w.o d = false) : r.b.get d = s.b.get d :=
  h.b d fun w hw _ e => by have := hd w hw; simp [touches, e] at this

/-- What is known of a guard. -/
theorem Sim.know {pd : List Pd} (h : Sim pd s r) {t : Nat} {x : Th Bool} (ht : s.t.get t = .bool x) (hu : ∀ w ∈ pd, usesO w.o.op t = false) :
    Sim pd (s.set t (tv (x .o))) r ∨ (r.t.get t = .bool x ∧ Sim pd (s.set t (tv (x .o))) (r.set t (tv (x .o)))) := by
  have hok : ∀ w ∈ pd, PdOk (s.set t (tv (x .o))) w := by
    intro w hw
    have h0 := h.ok w hw
    have hg : ∀ {b}, wants s w.o.guard = some b → ∀ k, usesG w.o.guard k = true → k ≠ t := by
      intro b hb k hk e
      subst e
      unfold usesG at hk
      split at hk
      · rename_i g c hg
        have : g = k := by simpa using hk
        subst this
        rw [hg] at hb
        simp [wants, ht] at hb
      · cases hk
    have hO := hu w hw
    have he : ∀ y ∈ w.o.op.opds, y.ev (s.set t (tv (x .o))) = y.ev s := by
      intro y hy
      refine ev_eq fun k hk => ?_
      rw [set_get, if_neg]
      rintro rfl
      exact usesO_not hO hy hk
    have hw' : ∀ {b}, wants s w.o.guard = some b → wants (s.set t (tv (x .o))) w.o.guard = wants s w.o.guard := fun hb => wants_same fun k hk => by
      rw [set_get, if_neg fun e => hg hb k hk e.symm]
    unfold PdOk at h0 ⊢
    split at h0
    · obtain ⟨w1, n, c, d, v, b, h1, h2, h3, h4, h5⟩ := h0
      refine ⟨(hw' w1).trans w1, n, (by rw [acond_congr he]; exact c), d, v, b, h1, (anew_congr he).trans h2, ?_, h4, h5⟩
      rw [set_get, if_neg]
      · exact h3
      · rintro rfl
        rw [ht] at h3
        subst h3
        cases hop : w.o.op <;> rw [hop] at h2 <;> simp only [anew, reduceCtorEq, Option.some.injEq, Prod.mk.injEq, false_and] at h2
        · split at h2 <;> simp at h2
        · split at h2
          · split at h2 <;> simp at h2
          · cases h2
        · split at h2 <;> simp at h2
    · cases h0 with
      | no w1 e =>
        refine .no ((hw' w1).trans w1) fun d hd => ?_
        rw [set_get, if_neg]
        · exact e d hd
        · rintro rfl; have := e t hd; rw [ht] at this; cases this
      | yes w1 q v g e =>
        have hq : qev (s.set t (tv (x .o))) w.o.op = qev s w.o.op := qev_congr he fun d hd => rfl
        refine .yes ((hw' w1).trans w1) q v (hq ▸ g) fun d hd => ?_
        rw [set_get]
        split
        · rename_i htd
          subst htd
          rcases e t hd with h1 | ⟨b, h1, h2⟩
          · exact .inr ⟨x, h1.symm.trans ht, rfl⟩
          · rw [ht] at h2; cases hb : b .o <;> rw [hb] at h2 <;> cases h2
        · exact e d hd
  by_cases hp : ∃ u ∈ pd, u.o.dst = some t
  · refine .inl ⟨fun k hk => ?_, h.b, h.no, h.df, hok⟩
    obtain ⟨u, hu, hd⟩ := hp
    rw [set_get, if_neg]
    · exact h.t k hk
    · rintro rfl; exact hk u hu hd
  · have hp : ∀ u ∈ pd, u.o.dst ≠ some t := fun u hu e => hp ⟨u, hu, e⟩
    refine .inr ⟨(h.t t hp).trans ht, fun k hk => ?_, h.b, h.no, h.df, hok⟩
    rw [set_get, set_get, h.t k hk]
end

section
variable {N : Nat} {E0 : Env} {B0 : BL} {E : Env} {s r : St} {a : Act}

/-- Two states that tell the same. -/
theorem Rel.congr (h : Rel N E0 B0 E r a) (ht : ∀ k, r.t.get k = s.t.get k) (hb : ∀ x, r.b.get x = s.b.get x) (hd : r.df = s.df) : Rel N E0 B0 E s a := by
  have hl : ∀ x, s.b.liveAt x ↔ r.b.liveAt x := fun x => by unfold BL.liveAt; rw [hb x]
  have hs : ∀ x, solidAt E s.b x ↔ solidAt E r.b x := fun x => by unfold solidAt; rw [hb x]
  have hp := h.post
  exact ⟨fun k => ht k ▸ h.tmps k, ⟨fun x => hb x ▸ h.inv.blk x, fun x y hx hy => h.inv.dist x y ((hs x).1 hx) ((hs y).1 hy), fun x hx => h.inv.live x ((hs x).1 hx), h.inv.ibd, fun x z hz => (hl z).2 (h.inv.nm x z (by rw [hb x]; exact hz))⟩,
    fun k z hz => (hl z).2 (h.tn k z (by rw [ht k]; exact hz)), h.sz, hd ▸ h.df, fun z hz => (hl z).2 (h.dn z (by rw [hd]; exact hz)),
    ⟨hp.le, hp.same, fun x hx hr => by rw [← hb x]; exact hp.kind x hx hr, hp.os, hp.tape, hp.output, hp.size, hp.old, fun x hx => hp.dom x ((hl x).1 hx), fun x hx => hp.new x ((hs x).1 hx), fun x hx => (hl x).2 (hp.keep x hx), hp.imm⟩⟩

/-- A slot forgotten. -/
theorem Rel.forget (h : Rel N E0 B0 E s a) (d : Nat) : Rel N E0 B0 E (s.set d .any) a := by
  refine ⟨fun n => ?_, h.inv, fun n y hy => ?_, h.sz, h.df, h.dn, h.post⟩
  · show Rp E ((AL.cons d .any s.t).get n) _
    rw [AL.get_cons]
    split
    · trivial
    · exact h.tmps n
  · change ((AL.cons d .any s.t).get n).locs y at hy
    rw [AL.get_cons] at hy
    split at hy
    · exact hy.elim
    · exact h.tn n y hy
/-- A block of one's own that nothing names, forgotten. -/
theorem Rel.drop (h : Rel N E0 B0 E s a) {d : Nat} (hB0 : ¬ B0.liveAt d) (ht : ∀ k, ¬ (s.t.get k).locs d) (hd : ¬ s.df.locs d) (hb : ∀ x, ¬ (s.b.get x).locs d) : Rel N E0 B0 E ⟨s.t, .cons d .no s.b, s.df⟩ a := by
  have hg : ∀ x, (BL.cons d .no s.b).get x = if d = x then .no else s.b.get x := fun x => rfl
  have hl : ∀ x, (BL.cons d .no s.b).liveAt x → s.b.liveAt x := fun x hx => by
    unfold BL.liveAt at hx ⊢
    rw [hg] at hx
    split at hx
    · cases hx
    · exact hx
  have hl' : ∀ x, x ≠ d → s.b.liveAt x → (BL.cons d .no s.b).liveAt x := fun x hn hx => by unfold BL.liveAt at hx ⊢; rw [hg, if_neg (Ne.symm hn)]; exact hx
  have hs : ∀ x, solidAt E (.cons d .no s.b) x → solidAt E s.b x := fun x hx => by
    unfold solidAt at hx ⊢
    rw [hg] at hx
    split at hx
    · exact hx.elim
    · exact hx
  have hp := h.post
  refine ⟨h.tmps, ⟨fun x => ?_, fun x y hx hy => h.inv.dist x y (hs x hx) (hs y hy), fun x hx => h.inv.live x (hs x hx), h.inv.ibd, fun x z hz => ?_⟩, fun k z hz => hl' z (fun e => ht k (e ▸ hz)) (h.tn k z hz), h.sz, h.df, fun z hz => hl' z (fun e => hd (e ▸ hz)) (h.dn z hz),
    ⟨hp.le, hp.same, fun x hx hr => ?_, hp.os, hp.tape, hp.output, hp.size, hp.old, fun x hx => hp.dom x (hl x hx), fun x hx => hp.new x (hs x hx), fun x hx => hl' x (fun e => hB0 (e ▸ hx)) (hp.keep x hx), hp.imm⟩⟩
  · rw [hg]
    split
    · trivial
    · exact h.inv.blk x
  · have hz : ((BL.cons d .no s.b).get x).locs z := hz
    rw [hg] at hz
    split at hz
    · exact hz.elim
    · exact hl' z (fun e => hb x (e ▸ hz)) (h.inv.nm x z hz)
  · show ((BL.cons d .no s.b).get x).isRow = false
    rw [hg]
    split
    · rfl
    · exact hp.kind x hx hr
end

end Go.Proofs.YtiaenejafpbfkaaDoor.Sx

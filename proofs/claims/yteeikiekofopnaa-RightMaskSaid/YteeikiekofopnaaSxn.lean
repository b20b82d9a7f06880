/- A symbolic executor for the model's code: calls with other names for what is handed in, deferred functions. -/
import Derived.Test.YteeikiekofopnaaSxm
import Derived.Recover
namespace Go.Proofs.Yteeikiekofopnaa.Sx
open Go
set_option linter.unusedSimpArgs false
set_option linter.unusedVariables false

/-- Something that is done with values in a world. -/
abbrev Does := List Value → World → (Ending → World → Prop) → Prop
def Does.Mono (D : Does) : Prop := ∀ vs w R R', (∀ e w', R e w' → R' e w') → D vs w R → D vs w R'
def RunAt (D : Does) (as : List AV) (d : Nat) (B : BL) (K : ARes → BL → Prop) : Prop :=
  ∀ (E : Env) (vs : List Value), Inv E B → ListC E (chain as) vs → (∀ x, (chain as).locs x → B.liveAt x) → ¬ B.liveAt d → D vs E.w (OutOk E B d K)

theorem CallAt.runAt {P : Th Program} {f : Nat} {as : List AV} {d : Nat} {B : BL} {K : ARes → BL → Prop} (h : CallAt P f as d B K) : RunAt (fun vs w R => Calls (P .o) f vs.toArray w R) as d B K := h.run

/-! ### other names -/
def lk : List (Nat × Nat) → Nat → Option Nat
  | [], _ => none
  | (o, c) :: r, x => if o = x then some c else lk r x
def ren (ps : List (Nat × Nat)) : AV → AV
  | .ptr d o => match lk ps d with | some c => .ptr c o | none => .ptr d o
  | .rptr d sz i o => match lk ps d with | some c => .rptr c sz i o | none => .rptr d sz i o
  | .row d => match lk ps d with | some c => .row c | none => .row d
  | .iptr c => .iptr (ren ps c)
  | .fn f a b => .fn f (ren ps a) (ren ps b)
  | .ifc t v => .ifc t (ren ps v)
  | .agg c => .agg (ren ps c)
  | .tup c => .tup (ren ps c)
  | .cons h t => .cons (ren ps h) (ren ps t)
  | x => x
def rens (ps : List (Nat × Nat)) : List AV → List AV | [] => [] | x :: r => ren ps x :: rens ps r
theorem chain_rens (ps : List (Nat × Nat)) : ∀ as, chain (rens ps as) = ren ps (chain as)
  | [] => rfl
  | x :: r => by simp [rens, chain, ren, chain_rens ps r]
/-- All places that a value names are among the pairs. -/
def inPs (ps : List (Nat × Nat)) : AV → Bool
  | .ptr d _ => (lk ps d).isSome
  | .rptr d _ _ _ => (lk ps d).isSome
  | .row d => (lk ps d).isSome
  | .iptr c => inPs ps c
  | .fn _ a b => match inPs ps a with | true => inPs ps b | false => false
  | .ifc _ v => inPs ps v
  | .agg c => inPs ps c
  | .tup c => inPs ps c
  | .cons h t => match inPs ps h with | true => inPs ps t | false => false
  | _ => true
def calleeB : List (Nat × Nat) → BL → BL
  | [], _ => .nil
  | (o, c) :: r, B => .cons o (B.get c) (calleeB r B)
def backB : List (Nat × Nat) → BL → BL → BL
  | [], B, _ => B
  | (o, c) :: r, B, B' => .cons c (B'.get o) (backB r B B')
def Blk.stillB : Blk → Bool | .cells c => c.stillB | _ => true
/-- The pairs are apart; each names a live block that names nothing. -/
def okPs (B : BL) : List (Nat × Nat) → List Nat → List Nat → Bool
  | [], _, _ => true
  | (o, c) :: r, os, cs => match (B.get c).live, (B.get c).stillB, os.contains o, cs.contains c with
    | true, true, false, false => okPs B r (o :: os) (c :: cs)
    | _, _, _, _ => false
def stillPs (B' : BL) : List (Nat × Nat) → Bool
  | [] => true
  | (o, _) :: r => match (B'.get o).stillB, (B'.get o).live with | true, true => stillPs B' r | _, _ => false
def ARes.stillB : ARes → Bool | .ret v => v.stillB | .pan v => v.stillB

theorem lk_get {ps : List (Nat × Nat)} {B : BL} {x c : Nat} (h : lk ps x = some c) : (calleeB ps B).get x = B.get c := by
  induction ps with
  | nil => cases h
  | cons p r ih =>
    obtain ⟨o, c'⟩ := p
    unfold lk at h
    unfold calleeB
    rw [BL.get_cons]
    split at h
    · rename_i he; cases h; rw [if_pos he]
    · rename_i he; rw [if_neg he]; exact ih h
theorem lk_none {ps : List (Nat × Nat)} {B : BL} {x : Nat} (h : lk ps x = none) : (calleeB ps B).get x = .no := by
  induction ps with
  | nil => rfl
  | cons p r ih =>
    obtain ⟨o, c'⟩ := p
    unfold lk at h
    unfold calleeB
    rw [BL.get_cons]
    split at h
    · cases h
    · rename_i he; rw [if_neg he]; exact ih h

theorem okPs_spec {B : BL} : ∀ {ps : List (Nat × Nat)} {os cs : List Nat}, okPs B ps os cs = true →
    (∀ x c, lk ps x = some c → B.liveAt c ∧ (B.get c).stillB = true ∧ x ∉ os ∧ c ∉ cs) ∧ (∀ x y c, lk ps x = some c → lk ps y = some c → x = y)
  | [], os, cs, _ => ⟨fun x c h => (by cases h), fun x y c h => (by cases h)⟩
  | (o, c') :: r, os, cs, h => by
    unfold okPs at h
    split at h
    · rename_i h1 h2 h3 h4
      obtain ⟨h5, h6⟩ := okPs_spec h
      have h3' : o ∉ os := by simpa using h3
      have h4' : c' ∉ cs := by simpa using h4
      refine ⟨fun x c hx => ?_, fun x y c hx hy => ?_⟩
      · unfold lk at hx
        split at hx
        · rename_i he; cases hx; subst he; exact ⟨h1, h2, h3', h4'⟩
        · obtain ⟨a, b, c1, d⟩ := h5 x c hx
          exact ⟨a, b, fun q => c1 (List.mem_cons_of_mem _ q), fun q => d (List.mem_cons_of_mem _ q)⟩
      · unfold lk at hx hy
        split at hx
        · rename_i he
          cases hx
          split at hy
          · rename_i he'; exact he.symm.trans he'
          · exact absurd (List.mem_cons_self) (h5 y _ hy).2.2.2
        · split at hy
          · cases hy; exact absurd (List.mem_cons_self) (h5 x _ hx).2.2.2
          · exact h6 x y c hx hy
    · cases h

theorem backB_get {B B' : BL} : ∀ {ps : List (Nat × Nat)} {os cs : List Nat}, okPs B ps os cs = true → ∀ c, (∃ x, lk ps x = some c ∧ (backB ps B B').get c = B'.get x) ∨ ((backB ps B B').get c = B.get c ∧ ∀ x, lk ps x ≠ some c)
  | [], _, _, _, c => .inr ⟨rfl, fun x h => (by cases h)⟩
  | (o, c') :: r, os, cs, h, c => by
    unfold okPs at h
    split at h
    · obtain ⟨h5, _⟩ := okPs_spec h
      unfold backB
      rw [BL.get_cons]
      by_cases hc : c' = c
      · subst hc; exact .inl ⟨o, by simp [lk], by simp⟩
      · rw [if_neg hc]
        rcases backB_get h c with ⟨x, h1, h2⟩ | ⟨h1, h2⟩
        · have : ¬ o = x := fun q => (h5 x c h1).2.2.1 (q ▸ List.mem_cons_self)
          exact .inl ⟨x, by simp [lk, this, h1], h2⟩
        · refine .inr ⟨h1, fun x hx => ?_⟩
          unfold lk at hx
          split at hx
          · cases hx; exact hc rfl
          · exact h2 x hx
    · cases h

theorem stillPs_spec {B' : BL} : ∀ {ps : List (Nat × Nat)}, stillPs B' ps = true → ∀ x c, lk ps x = some c → (B'.get x).stillB = true ∧ (B'.get x).live = true
  | [], _, x, c, h => by cases h
  | (o, c') :: r, h, x, c, hx => by
    unfold stillPs at h
    split at h
    · rename_i h1 h2
      unfold lk at hx
      split at hx
      · rename_i he; subst he; exact ⟨h1, h2⟩
      · exact stillPs_spec h x c hx
    · cases h

theorem blk_still {b : Blk} (h : b.stillB = true) (y : Nat) : ¬ b.locs y := by
  cases b with
  | cells c => exact (AV.still_locs _).1 (stillB_spec c h) y
  | _ => exact fun h => h

theorem ren_rp {E E0 : Env} {ps : List (Nat × Nat)} (hle : E.Le E0) (hρ : ∀ x c, lk ps x = some c → E0.ρ x = E.ρ c ∧ E0.rv x = E.rv c) (x : AV) (hin : inPs ps x = true) :
    (∀ v, Rp E (ren ps x) v → Rp E0 x v) ∧ (∀ l, ListC E (ren ps x) l → ListC E0 x l) ∧ (∀ b o, MemC E (ren ps x) b o → MemC E0 x b o) := by
  induction x with
  | ptr d o =>
    refine ⟨fun v hv => ?_, fun _ h => ?_, fun _ _ h => ?_⟩
    · unfold inPs at hin
      cases hl : lk ps d with
      | none => simp [hl] at hin
      | some c => simp only [ren, hl, Rp] at hv ⊢; rw [(hρ d c hl).1]; exact hv
    · unfold ren at h; split at h <;> simp only [ListC] at h
    · unfold ren at h; split at h <;> simp only [MemC] at h
  | rptr d sz i o =>
    refine ⟨fun v hv => ?_, fun _ h => ?_, fun _ _ h => ?_⟩
    · unfold inPs at hin
      cases hl : lk ps d with
      | none => simp [hl] at hin
      | some c => simp only [ren, hl, Rp] at hv ⊢; rw [(hρ d c hl).1]; exact hv
    · unfold ren at h; split at h <;> simp only [ListC] at h
    · unfold ren at h; split at h <;> simp only [MemC] at h
  | row d =>
    refine ⟨fun v hv => ?_, fun _ h => ?_, fun _ _ h => ?_⟩
    · unfold inPs at hin
      cases hl : lk ps d with
      | none => simp [hl] at hin
      | some c => simp only [ren, hl, Rp] at hv ⊢; rw [(hρ d c hl).2]; exact hv
    · unfold ren at h; split at h <;> simp only [ListC] at h
    · unfold ren at h; split at h <;> simp only [MemC] at h
  | iptr c ih =>
    refine ⟨fun v hv => ?_, fun _ h => h.elim, fun _ _ h => h.elim⟩
    obtain ⟨b, o, h1, h2⟩ := hv
    exact ⟨b, o, h1, (ih hin).2.2 _ _ h2⟩
  | fn f a b iha ihb =>
    refine ⟨fun v hv => ?_, fun _ h => h.elim, fun _ _ h => h.elim⟩
    unfold inPs at hin
    split at hin
    · rename_i ha
      obtain ⟨l, m, h1, h2, h3⟩ := hv
      exact ⟨l, m, h1, (iha ha).2.1 _ h2, (ihb hin).2.1 _ h3⟩
    · cases hin
  | ifc t v ih =>
    refine ⟨fun v hv => ?_, fun _ h => h.elim, fun _ _ h => h.elim⟩
    obtain ⟨y, h1, h2⟩ := hv
    exact ⟨y, h1, (ih hin).1 _ h2⟩
  | agg c ih =>
    refine ⟨fun v hv => ?_, fun _ h => h.elim, fun _ _ h => h.elim⟩
    obtain ⟨l, h1, h2⟩ := rp_agg.1 hv
    exact rp_agg.2 ⟨l, h1, (ih hin).2.1 _ h2⟩
  | tup c ih =>
    refine ⟨fun v hv => ?_, fun _ h => h.elim, fun _ _ h => h.elim⟩
    obtain ⟨l, h1, h2⟩ := rp_tup.1 hv
    exact rp_tup.2 ⟨l, h1, (ih hin).2.1 _ h2⟩
  | cons a b iha ihb =>
    unfold inPs at hin
    split at hin
    · rename_i ha
      refine ⟨fun _ h => h.elim, fun l hl => ?_, fun b' o hm => ?_⟩
      · obtain ⟨x, r, h1, h2, h3⟩ := hl
        exact ⟨x, r, h1, (iha ha).1 _ h2, (ihb hin).2.1 _ h3⟩
      · obtain ⟨⟨v, h1, h2, h3⟩, h4⟩ := hm
        exact ⟨⟨v, (hle.cell _ _ h2).trans h1, hle.sub _ _ h2, (iha ha).1 _ h3⟩, (ihb hin).2.2 _ _ h4⟩
    · cases hin
  | _ => exact rp_mono hle _ fun y hy => hy.elim

theorem inPs_locs {ps : List (Nat × Nat)} (x : AV) (h : inPs ps x = true) : ∀ y, x.locs y → (lk ps y).isSome = true := by
  induction x with
  | ptr d o => intro y hy; exact (show y = d from hy) ▸ h
  | rptr d s i o => intro y hy; exact (show y = d from hy) ▸ h
  | row d => intro y hy; exact (show y = d from hy) ▸ h
  | iptr c ih => exact ih h
  | fn f a b iha ihb =>
    unfold inPs at h
    split at h
    · rename_i ha; exact fun y hy => hy.elim (iha ha y) (ihb h y)
    · cases h
  | ifc t v ih => exact ih h
  | agg c ih => exact ih h
  | tup c ih => exact ih h
  | cons a b iha ihb =>
    unfold inPs at h
    split at h
    · rename_i ha; exact fun y hy => hy.elim (iha ha y) (ihb h y)
    · cases h
  | _ => exact fun y hy => hy.elim

theorem run_use {D : Does} (hD : D.Mono) {ps : List (Nat × Nat)} {as0 : List AV} {d : Nat} {B : BL} {K : ARes → BL → Prop} (hok : okPs B ps [] [] = true) (hin : inPs ps (chain as0) = true) (hdn : lk ps d = none)
    (h : RunAt D as0 d (calleeB ps B) fun r B' => r.stillB = true ∧ stillPs B' ps = true ∧ K r (backB ps B B')) : RunAt D (rens ps as0) d B K := by
  intro E vs hinv hvs hloc hd
  obtain ⟨hp1, hp2⟩ := okPs_spec hok
  let E0 : Env := ⟨fun x => match lk ps x with | some c => E.ρ c | none => E.ρ x, fun x => match lk ps x with | some c => E.rv c | none => E.rv x, E.I, E.w⟩
  have hle : E.Le E0 := ⟨fun _ _ h => h, fun _ _ _ => rfl⟩
  have hρ : ∀ x c, lk ps x = some c → E0.ρ x = E.ρ c ∧ E0.rv x = E.rv c := fun x c hx => by simp [E0, hx]
  have hlive : ∀ x, (calleeB ps B).liveAt x → ∃ c, lk ps x = some c := by
    intro x hx
    cases hl : lk ps x with
    | some c => exact ⟨c, rfl⟩
    | none => unfold BL.liveAt at hx; rw [lk_none hl] at hx; cases hx
  have hinv0 : Inv E0 (calleeB ps B) := by
    refine ⟨fun x => ?_, fun x y hx hy hne => ?_, fun x hx => ?_, hinv.ibd, fun x y hy => ?_⟩
    · cases hl : lk ps x with
      | none => rw [lk_none hl]; trivial
      | some c =>
        rw [lk_get hl]
        have hb := hinv.blk c
        have hst := blk_still (hp1 x c hl).2.1
        cases hB : B.get c with
        | no => trivial
        | cells ch =>
          rw [hB] at hb hst
          obtain ⟨l, e, h1, h2⟩ := hb
          exact ⟨l, e, by rw [(hρ x c hl).1]; exact h1, (rp_mono hle ch fun y hy => (hst y hy).elim).2.1 _ h2⟩
        | row sz n g =>
          rw [hB] at hb
          obtain ⟨cap, cur, e, h1, h2, h3, h4, h5, h6⟩ := hb
          exact ⟨cap, cur, e, by rw [(hρ x c hl).1, (hρ x c hl).2]; exact h1, by rw [(hρ x c hl).1]; exact h2, h3, h4, h5, fun i hi => ⟨(h6 i hi).1, (rp_mono hle _ fun y hy => ((AV.still_locs _).1 (h6 i hi).1 y hy).elim).2.1 _ (h6 i hi).2⟩⟩
    · obtain ⟨c, hc⟩ := hlive x hx
      obtain ⟨c', hc'⟩ := hlive y hy
      rw [(hρ x c hc).1, (hρ y c' hc').1]
      exact hinv.dist c c' (hp1 x c hc).1 (hp1 y c' hc').1 fun q => hne (hp2 x y c hc (q ▸ hc'))
    · obtain ⟨c, hc⟩ := hlive x hx
      rw [(hρ x c hc).1]
      exact hinv.live c (hp1 x c hc).1
    · cases hl : lk ps x with
      | none => rw [lk_none hl] at hy; exact hy.elim
      | some c => rw [lk_get hl] at hy; exact (blk_still (hp1 x c hl).2.1 y hy).elim
  have hd0 : ¬ (calleeB ps B).liveAt d := fun hx => by obtain ⟨c, hc⟩ := hlive d hx; rw [hdn] at hc; cases hc
  rw [chain_rens] at hvs
  refine hD _ _ _ _ ?_ (h E0 vs hinv0 ((ren_rp hle hρ _ hin).2.1 _ hvs) (fun x hx => ?_) hd0)
  · rintro e w' ⟨E0', r, B0', rfl, ⟨hr, hst, hK⟩, hend, hinv', hpost, hrl⟩
    have hs := stillPs_spec hst
    let E' : Env := ⟨E.ρ, E.rv, E0'.I, E0'.w⟩
    have hle' : E0'.Le E' := ⟨fun _ _ h => h, fun _ _ _ => rfl⟩
    have hle2 : E.Le E' := ⟨fun b o hi => hpost.le.sub b o hi, fun b o hi => hpost.le.cell b o hi⟩
    have hne : ∀ x c, lk ps x = some c → x ≠ d := fun x c hx q => by rw [q, hdn] at hx; cases hx
    have hρ' : ∀ x c, lk ps x = some c → E0'.ρ x = E.ρ c ∧ E0'.rv x = E.rv c := fun x c hx => by
      have h1 := hpost.same x (hne x c hx)
      exact ⟨h1.1.trans (hρ x c hx).1, h1.2.trans (hρ x c hx).2⟩
    have hliveB : ∀ c, (backB ps B B0').liveAt c ↔ B.liveAt c := by
      intro c
      unfold BL.liveAt
      rcases backB_get (B' := B0') hok c with ⟨x, h1, h2⟩ | ⟨h1, _⟩
      · rw [h2]; exact ⟨fun _ => (hp1 x c h1).1, fun _ => (hs x c h1).2⟩
      · rw [h1]
    refine ⟨E', r, backB ps B B0', rfl, hK, ?_, ⟨fun c => ?_, fun c c' hc hc' hne' => hinv.dist c c' ((hliveB c).1 hc) ((hliveB c').1 hc') hne', fun c hc => ?_, hinv'.ibd, fun c y hy => ?_⟩, ?_, fun x hx => ?_⟩
    · cases r with
      | ret v => cases e with
        | returned x => exact (rp_mono hle' v fun y hy => ((AV.still_locs _).1 (stillB_spec v hr) y hy).elim).1 _ hend
        | _ => exact hend
      | pan v => cases e with
        | panicked ch => obtain ⟨x, h1, h2⟩ := hend; exact ⟨x, h1, (rp_mono hle' v fun y hy => ((AV.still_locs _).1 (stillB_spec v hr) y hy).elim).1 _ h2⟩
        | _ => exact hend
    · rcases backB_get (B' := B0') hok c with ⟨x, h1, h2⟩ | ⟨h1, h2⟩
      · rw [h2]
        have hb := hinv'.blk x
        have hst' := blk_still (hs x c h1).1
        have hxx := hρ' x c h1
        cases hB : B0'.get x with
        | no => trivial
        | cells ch =>
          rw [hB] at hb hst'
          obtain ⟨l, e, h3, h4⟩ := hb
          exact ⟨l, e, by show E0'.w.heap[E.ρ c]? = _; rw [← hxx.1]; exact h3, (rp_mono hle' ch fun y hy => (hst' y hy).elim).2.1 _ h4⟩
        | row sz n g =>
          rw [hB] at hb
          obtain ⟨cap, cur, e, h3, h4, h5, h6, h7, h8⟩ := hb
          exact ⟨cap, cur, e, by show E.rv c = .slice (some ⟨E.ρ c, 0, none⟩) _ _; rw [← hxx.1, ← hxx.2]; exact h3, by show E0'.w.heap[E.ρ c]? = _; rw [← hxx.1]; exact h4, h5, h6, h7, fun i hi => ⟨(h8 i hi).1, (rp_mono hle' _ fun y hy => ((AV.still_locs _).1 (h8 i hi).1 y hy).elim).2.1 _ (h8 i hi).2⟩⟩
      · rw [h1]
        cases hB : B.get c with
        | no => trivial
        | _ =>
          have hcl : B.liveAt c := by simp [BL.liveAt, hB, Blk.live]
          rw [← hB]
          refine blk_mono hle2 (hinv.blk c) rfl rfl (hpost.old (E.ρ c) (hinv.live c hcl).1 fun x hx q => ?_) fun _ _ => ⟨rfl, rfl⟩
          obtain ⟨c', hc'⟩ := hlive x hx
          rw [(hρ x c' hc').1] at q
          by_cases he : c' = c
          · subst he; exact h2 x hc'
          · exact hinv.dist c' c (hp1 x c' hc').1 hcl he q
    · have hcl := (hliveB c).1 hc
      refine ⟨Nat.lt_of_lt_of_le (hinv.live c hcl).1 hpost.size, fun o ho => ?_⟩
      rcases hpost.imm _ _ ho with h1 | h1
      · exact (hinv.live c hcl).2 o h1
      · have := (hinv.live c hcl).1
        have h1 : E.w.heap.size ≤ E.ρ c := h1
        omega
    · rcases backB_get (B' := B0') hok c with ⟨x, h1, h2⟩ | ⟨h1, _⟩
      · rw [h2] at hy; exact (blk_still (hs x c h1).1 y hy).elim
      · rw [h1] at hy; exact (hliveB y).2 (hinv.nm c y hy)
    · refine ⟨hle2, fun _ _ => ⟨rfl, rfl⟩, hpost.os, hpost.tape, hpost.output, hpost.size, fun b hb hn => hpost.old b hb fun x hx q => ?_, fun c hc => .inl ((hliveB c).1 hc), fun c hc => (hliveB c).2 hc, hpost.imm⟩
      obtain ⟨c, hc⟩ := hlive x hx
      rw [(hρ x c hc).1] at q
      exact hn c (hp1 x c hc).1 q
    · cases r with
      | ret v => exact ((AV.still_locs _).1 (stillB_spec v hr) x hx).elim
      | pan v => exact ((AV.still_locs _).1 (stillB_spec v hr) x hx).elim
  · have hs := inPs_locs _ hin x hx
    cases hl : lk ps x with
    | none => rw [hl] at hs; cases hs
    | some c => unfold BL.liveAt; rw [lk_get hl]; exact (hp1 x c hl).1

/-- A CALL, BY A CONTRACT WITH OTHER NAMES FOR WHAT IS HANDED IN: what the caller has beside stays as it is. -/
theorem CallAt.use {P : Th Program} {f : Nat} {as : List AV} {d : Nat} {B : BL} {K : ARes → BL → Prop} (ps : List (Nat × Nat)) (as0 : List AV) (hok : okPs B ps [] [] = true) (hin : inPs ps (chain as0) = true) (hdn : lk ps d = none)
    (has : as = rens ps as0)
    (h : CallAt P f as0 d (calleeB ps B) fun r B' => r.stillB = true ∧ stillPs B' ps = true ∧ K r (backB ps B B')) : CallAt P f as d B K :=
  ⟨h.can, has ▸ run_use (fun vs w R R' hr hc => hc.mono hr) hok hin hdn h.runAt⟩

end Go.Proofs.Yteeikiekofopnaa.Sx

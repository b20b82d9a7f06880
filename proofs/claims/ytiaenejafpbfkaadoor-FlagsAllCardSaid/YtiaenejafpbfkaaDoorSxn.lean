/- A symbolic executor for the model's code: calls with other names for what is handed in, deferred functions. -/
import Derived.Test.YtiaenejafpbfkaaDoorSxm
import Derived.Recover
namespace Go.Proofs.YtiaenejafpbfkaaDoor.Sx
open Go
set_option linter.unusedSimpArgs false
set_option linter.unusedVariables false

/-- Something that is done with values in a world. -/
abbrev Does := List Value → World → (Ending → World → Prop) → Prop
def Does.Mono (D : Does) : Prop := ∀ vs w R R', (∀ e w', R e w' → R' e w') → D vs w R → D vs w R'
def RunAt (D : Does) (as : List AV) (d : Nat) (B : BL) (K : ARes → BL → Prop) : Prop :=
  ∀ (E : Env) (vs : List Value), Inv E B → ListC E (chain as) vs → (∀ x, (chain as).locs x → B.liveAt x) → ¬ B.liveAt d → D vs E.w (OutOk E B d K)

theorem CallAt.runAt {P : Th Program} {f : Nat} {as : List AV} {d : Nat} {B : BL} {K : ARes → BL → Prop} (h : CallAt P f as d B K) : RunAt (fun vs w R => Calls (P .o) f vs.toArray w R) as d B K := h.run

/-! ### other names -/
def lk : List (Nat × Nat) → Nat → Option Nat
  | [], _ => none
  | (o, c) :: r, x => match o == x with | true => some c | false => lk r x
/-- The new name of a place. -/
def sg (ps : List (Nat × Nat)) (x : Nat) : Nat := match lk ps x with | some c => c | none => x
def swap : List (Nat × Nat) → List (Nat × Nat) | [] => [] | (o, c) :: r => (c, o) :: swap r
def fsts : List (Nat × Nat) → List Nat | [] => [] | (o, _) :: r => o :: fsts r
def snds : List (Nat × Nat) → List Nat | [] => [] | (_, c) :: r => c :: snds r
def ren (ps : List (Nat × Nat)) : AV → AV
  | .ptr d o => .ptr (sg ps d) o
  | .rptr d sz i o => .rptr (sg ps d) sz i o
  | .win d sz i o => .win (sg ps d) sz i o
  | .row d => .row (sg ps d)
  | .iptr c => .iptr (ren ps c)
  | .fn f a b => .fn f (ren ps a) (ren ps b)
  | .ifc t v => .ifc t (ren ps v)
  | .agg c => .agg (ren ps c)
  | .tup c => .tup (ren ps c)
  | .cons h t => .cons (ren ps h) (ren ps t)
  | x => x
def rens (ps : List (Nat × Nat)) : List AV → List AV | [] => [] | x :: r => ren ps x :: rens ps r
theorem chain_rens (ps : List (Nat × Nat)) : ∀ as, chain (rens ps as) = ren ps (chain as)
  | [] => rfl
  | x :: r => by simp [rens, chain, ren, chain_rens ps r]
def Blk.ren (ps : List (Nat × Nat)) : Blk → Blk | .cells c => .cells (Sx.ren ps c) | b => b
def ARes.ren (ps : List (Nat × Nat)) : ARes → ARes | .ret v => .ret (Sx.ren ps v) | .pan v => .pan (Sx.ren ps v)
/-- The blocks as the function sees them: outer name, own name. -/
def calleeL (qs : List (Nat × Nat)) (B : BL) : List (Nat × Nat) → BL
  | [] => .nil
  | (o, c) :: r => .cons o ((B.get c).ren qs) (calleeL qs B r)
def calleeB (ps : List (Nat × Nat)) (B : BL) : BL := calleeL (swap ps) B ps
def backL (ps : List (Nat × Nat)) (B' : BL) : List (Nat × Nat) → BL
  | [] => .nil
  | (o, c) :: r => .cons c ((B'.get o).ren ps) (backL ps B' r)
def backB (ps : List (Nat × Nat)) (d : Nat) (B' : BL) : BL := match (B'.get d).live with
  | true => .cons d ((B'.get d).ren ps) (backL ps B' ps)
  | false => backL ps B' ps
def nodup : List Nat → Bool | [] => true | x :: r => match r.contains x with | true => false | false => nodup r
/-- Does B have no block beside these? -/
def covers (cs : List Nat) (B : BL) : BL → Bool
  | .nil => true
  | .cons k _ r => match (B.get k).live, cs.contains k with | true, false => false | _, _ => covers cs B r
def okPs (B : BL) (ps : List (Nat × Nat)) (d : Nat) : Bool := match nodup (fsts ps), nodup (snds ps), closed B (snds ps) (snds ps), covers (snds ps) B B, (fsts ps).contains d with
  | true, true, true, true, false => true
  | _, _, _, _, _ => false

theorem lk_mem {x c : Nat} : ∀ {ps : List (Nat × Nat)}, lk ps x = some c → (x, c) ∈ ps
  | (o, c') :: r, h => by
    unfold lk at h
    split at h
    · rename_i he
      have : o = x := by simpa using he
      subst this
      rw [Option.some.inj h]; simp
    · exact List.mem_cons_of_mem _ (lk_mem h)
theorem mem_fsts {x c : Nat} : ∀ {ps : List (Nat × Nat)}, (x, c) ∈ ps → x ∈ fsts ps
  | (o, c') :: r, h => by
    rcases List.mem_cons.1 h with h | h
    · simp only [Prod.mk.injEq] at h; simp [fsts, h.1]
    · simp [fsts, mem_fsts h]
theorem mem_snds {x c : Nat} : ∀ {ps : List (Nat × Nat)}, (x, c) ∈ ps → c ∈ snds ps
  | (o, c') :: r, h => by
    rcases List.mem_cons.1 h with h | h
    · simp only [Prod.mk.injEq] at h; simp [snds, h.2]
    · simp [snds, mem_snds h]
theorem lk_of_mem {x c : Nat} : ∀ {ps : List (Nat × Nat)}, nodup (fsts ps) = true → (x, c) ∈ ps → lk ps x = some c
  | (o, c') :: r, hn, h => by
    unfold fsts nodup at hn
    split at hn
    · cases hn
    · rename_i ho
      have ho : o ∉ fsts r := by simpa using ho
      unfold lk
      rcases List.mem_cons.1 h with h | h
      · simp only [Prod.mk.injEq] at h
        rw [h.1, h.2]; simp
      · have : (o == x) = false := by
          simp only [beq_eq_false_iff_ne, ne_eq]
          intro he; subst he; exact ho (mem_fsts h)
        rw [this]
        exact lk_of_mem hn h
theorem swap_mem {x c : Nat} : ∀ {ps : List (Nat × Nat)}, (x, c) ∈ ps ↔ (c, x) ∈ swap ps
  | [] => by simp [swap]
  | (o, c') :: r => by
    simp only [swap, List.mem_cons, Prod.mk.injEq, swap_mem (ps := r)]
    constructor <;> (rintro (⟨h1, h2⟩ | h); exact .inl ⟨h2, h1⟩; exact .inr h)
theorem fsts_swap : ∀ ps : List (Nat × Nat), fsts (swap ps) = snds ps
  | [] => rfl
  | (o, c) :: r => by simp [swap, fsts, snds, fsts_swap r]
theorem snds_mem {c : Nat} : ∀ {ps : List (Nat × Nat)}, c ∈ snds ps → ∃ o, (o, c) ∈ ps
  | (o, c') :: r, h => by
    simp only [snds, List.mem_cons] at h
    rcases h with h | h
    · exact ⟨o, by simp [h]⟩
    · obtain ⟨o', h'⟩ := snds_mem h; exact ⟨o', List.mem_cons_of_mem _ h'⟩
theorem fsts_mem {x : Nat} : ∀ {ps : List (Nat × Nat)}, x ∈ fsts ps → ∃ c, (x, c) ∈ ps
  | (o, c') :: r, h => by
    simp only [fsts, List.mem_cons] at h
    rcases h with h | h
    · exact ⟨c', by simp [h]⟩
    · obtain ⟨o', h'⟩ := fsts_mem h; exact ⟨o', List.mem_cons_of_mem _ h'⟩
theorem lk_none_of {x : Nat} {ps : List (Nat × Nat)} (h : x ∉ fsts ps) : lk ps x = none := by
  cases hl : lk ps x with
  | none => rfl
  | some c => exact (h (mem_fsts (lk_mem hl))).elim
theorem covers_spec {cs : List Nat} {B : BL} : ∀ {l : BL}, covers cs B l = true → ∀ x, l.has x = true → B.liveAt x → x ∈ cs
  | .nil, _, x, h, _ => by cases h
  | .cons k v r, h, x, hx, hl => by
    unfold covers at h
    unfold BL.has at hx
    split at h
    · cases h
    · rename_i hne
      split at hx
      · rename_i hk
        have hk : k = x := by simpa using hk
        subst hk
        unfold BL.liveAt at hl
        cases hc : cs.contains k with
        | true => simpa using hc
        | false => exact (hne hl hc).elim
      · exact covers_spec h x hx hl
theorem live_has {B : BL} {x : Nat} (h : B.liveAt x) : B.has x = true := by
  cases hh : B.has x with
  | true => rfl
  | false => unfold BL.liveAt at h; rw [has_not hh] at h; cases h

/-- Values under other names. -/
theorem ren_fwd {E E0 : Env} {ps : List (Nat × Nat)} (hle : E.Le E0) (x : AV) (h : ∀ y, x.locs y → E0.ρ (sg ps y) = E.ρ y ∧ E0.rv (sg ps y) = E.rv y) :
    (∀ v, Rp E x v → Rp E0 (ren ps x) v) ∧ (∀ l, ListC E x l → ListC E0 (ren ps x) l) ∧ (∀ b o, MemC E x b o → MemC E0 (ren ps x) b o) := by
  induction x with
  | ptr d o => exact ⟨fun v hv => by simp only [ren, Rp] at hv ⊢; rw [(h d rfl).1]; exact hv, fun _ h => h.elim, fun _ _ h => h.elim⟩
  | rptr d sz i o => exact ⟨fun v hv => by simp only [ren, Rp] at hv ⊢; rw [(h d rfl).1]; exact hv, fun _ h => h.elim, fun _ _ h => h.elim⟩
  | win d sz i o => exact ⟨fun v hv => by simp only [ren, Rp] at hv ⊢; rw [(h d rfl).2]; exact hv, fun _ h => h.elim, fun _ _ h => h.elim⟩
  | row d => exact ⟨fun v hv => by simp only [ren, Rp] at hv ⊢; rw [(h d rfl).2]; exact hv, fun _ h => h.elim, fun _ _ h => h.elim⟩
  | iptr c ih =>
    refine ⟨fun v hv => ?_, fun _ h => h.elim, fun _ _ h => h.elim⟩
    obtain ⟨b, o, h1, h2⟩ := hv
    exact ⟨b, o, h1, (ih h).2.2 _ _ h2⟩
  | fn f a b iha ihb =>
    refine ⟨fun v hv => ?_, fun _ h => h.elim, fun _ _ h => h.elim⟩
    obtain ⟨l, m, h1, h2, h3⟩ := hv
    exact ⟨l, m, h1, (iha fun y hy => h y (.inl hy)).2.1 _ h2, (ihb fun y hy => h y (.inr hy)).2.1 _ h3⟩
  | ifc t v ih =>
    refine ⟨fun v hv => ?_, fun _ h => h.elim, fun _ _ h => h.elim⟩
    obtain ⟨y, h1, h2⟩ := hv
    exact ⟨y, h1, (ih h).1 _ h2⟩
  | agg c ih =>
    refine ⟨fun v hv => ?_, fun _ h => h.elim, fun _ _ h => h.elim⟩
    obtain ⟨l, h1, h2⟩ := rp_agg.1 hv
    exact rp_agg.2 ⟨l, h1, (ih h).2.1 _ h2⟩
  | tup c ih =>
    refine ⟨fun v hv => ?_, fun _ h => h.elim, fun _ _ h => h.elim⟩
    obtain ⟨l, h1, h2⟩ := rp_tup.1 hv
    exact rp_tup.2 ⟨l, h1, (ih h).2.1 _ h2⟩
  | cons a b iha ihb =>
    refine ⟨fun _ h => h.elim, fun l hl => ?_, fun b' o hm => ?_⟩
    · obtain ⟨x, r, h1, h2, h3⟩ := hl
      exact ⟨x, r, h1, (iha fun y hy => h y (.inl hy)).1 _ h2, (ihb fun y hy => h y (.inr hy)).2.1 _ h3⟩
    · obtain ⟨⟨v, h1, h2, h3⟩, h4⟩ := hm
      exact ⟨⟨v, (hle.cell _ _ h2).trans h1, hle.sub _ _ h2, (iha fun y hy => h y (.inl hy)).1 _ h3⟩, (ihb fun y hy => h y (.inr hy)).2.2 _ _ h4⟩
  | _ => exact rp_mono hle _ fun y hy => hy.elim
theorem ren_locs {ps : List (Nat × Nat)} (x : AV) (z : Nat) : (ren ps x).locs z → ∃ y, x.locs y ∧ z = sg ps y := by
  induction x with
  | ptr d o => exact fun h => ⟨d, rfl, h⟩
  | rptr d s i o => exact fun h => ⟨d, rfl, h⟩
  | win d s i o => exact fun h => ⟨d, rfl, h⟩
  | row d => exact fun h => ⟨d, rfl, h⟩
  | iptr c ih => exact ih
  | fn f a b iha ihb => intro h; rcases h with h | h; (obtain ⟨y, h1, h2⟩ := iha h; exact ⟨y, .inl h1, h2⟩); (obtain ⟨y, h1, h2⟩ := ihb h; exact ⟨y, .inr h1, h2⟩)
  | ifc t v ih => exact ih
  | agg c ih => exact ih
  | tup c ih => exact ih
  | cons a b iha ihb => intro h; rcases h with h | h; (obtain ⟨y, h1, h2⟩ := iha h; exact ⟨y, .inl h1, h2⟩); (obtain ⟨y, h1, h2⟩ := ihb h; exact ⟨y, .inr h1, h2⟩)
  | _ => intro h; exact h.elim

theorem calleeL_get (qs : List (Nat × Nat)) (B : BL) (x : Nat) : ∀ ps : List (Nat × Nat), (calleeL qs B ps).get x = match lk ps x with | some c => (B.get c).ren qs | none => .no
  | [] => rfl
  | (o, c) :: r => by
    show (BL.cons o ((B.get c).ren qs) (calleeL qs B r)).get x = _
    rw [BL.get_cons]
    unfold lk
    by_cases h : o = x
    · rw [if_pos h]; simp [h]
    · have : (o == x) = false := by simpa using h
      rw [if_neg h, this]
      exact calleeL_get qs B x r
theorem backL_get (ps : List (Nat × Nat)) (B' : BL) (x : Nat) : ∀ l : List (Nat × Nat), (backL ps B' l).get x = match lk (swap l) x with | some o => (B'.get o).ren ps | none => .no
  | [] => rfl
  | (o, c) :: r => by
    show (BL.cons c ((B'.get o).ren ps) (backL ps B' r)).get x = _
    rw [BL.get_cons]
    unfold swap lk
    by_cases h : c = x
    · rw [if_pos h]; simp [h]
    · have : (c == x) = false := by simpa using h
      rw [if_neg h, this]
      exact backL_get ps B' x r

theorem blk_ren {ps : List (Nat × Nat)} (b : Blk) : (b.ren ps).isRow = b.isRow ∧ (b.ren ps).live = b.live := by cases b <;> exact ⟨rfl, rfl⟩
/-- A block under another name. -/
theorem blk_fwd {E E0 : Env} {ps : List (Nat × Nat)} (hle : E.Le E0) (hw : E0.w = E.w) {x z : Nat} {b : Blk} (hb : BlkRp E x b) (hρ : E0.ρ z = E.ρ x ∧ E0.rv z = E.rv x) (h : ∀ y, b.locs y → E0.ρ (sg ps y) = E.ρ y ∧ E0.rv (sg ps y) = E.rv y) : BlkRp E0 z (b.ren ps) := by
  cases b with
  | no => trivial
  | cells c =>
    obtain ⟨l, e, h1, h2⟩ := hb
    exact ⟨l, e, by rw [hρ.1, hw]; exact h1, (ren_fwd hle c h).2.1 _ h2⟩
  | row sz n g =>
    rcases hb with ⟨h0, h1⟩ | ⟨cap, cur, e, h1, h2, h3, h4, h5, h6⟩
    · exact .inl ⟨by rw [hρ.2]; exact h0, h1⟩
    · exact .inr ⟨cap, cur, e, by rw [hρ.1, hρ.2]; exact h1, by rw [hρ.1, hw]; exact h2, h3, h4, h5, fun i hi => ⟨(h6 i hi).1, (rp_mono hle _ fun y hy => ((AV.still_locs _).1 (h6 i hi).1.1 y hy).elim).2.1 _ (h6 i hi).2⟩⟩
theorem solid_fwd {E E0 : Env} {ps : List (Nat × Nat)} {x z : Nat} {b : Blk} (h : E0.rv z = E.rv x) : solid E0 z (b.ren ps) ↔ solid E x b := by
  cases b with
  | row sz n g => show E0.rv z ≠ _ ↔ E.rv x ≠ _; rw [h]
  | _ => exact Iff.rfl

theorem run_use {D : Does} (hD : D.Mono) {ps : List (Nat × Nat)} {as as0 : List AV} {d : Nat} {B : BL} {K : ARes → BL → Prop} (hok : okPs B ps d = true) (has : rens (swap ps) as = as0)
    (h : RunAt D as0 d (calleeB ps B) fun r B' => K (r.ren ps) (backB ps d B')) : RunAt D as d B K := by
  intro E vs hinv hvs hloc hd
  unfold okPs at hok
  split at hok
  rotate_left
  · cases hok
  rename_i hn1 hn2 hcl hcov hdo
  have hdo : d ∉ fsts ps := by simpa using hdo
  have hcl := fun x hx => closed_spec hcl x hx
  have hcs : ∀ x, B.liveAt x → x ∈ snds ps := fun x hx => covers_spec hcov x (live_has hx) hx
  have hdc : d ∉ snds ps := fun hx => hd (hcl d hx).1
  have hn2' : nodup (fsts (swap ps)) = true := by rw [fsts_swap]; exact hn2
  -- pairs
  have hp1 : ∀ o c, (o, c) ∈ ps → lk ps o = some c ∧ lk (swap ps) c = some o := fun o c hm => ⟨lk_of_mem hn1 hm, lk_of_mem hn2' (swap_mem.1 hm)⟩
  let E0 : Env := ⟨fun x => E.ρ (sg ps x), fun x => E.rv (sg ps x), E.I, E.w⟩
  have hle : E.Le E0 := ⟨fun _ _ h => h, fun _ _ _ => rfl⟩
  have hE0 : ∀ o c, (o, c) ∈ ps → E0.ρ o = E.ρ c ∧ E0.rv o = E.rv c := fun o c hm => by simp [E0, sg, (hp1 o c hm).1]
  have hin : ∀ y, B.liveAt y → E0.ρ (sg (swap ps) y) = E.ρ y ∧ E0.rv (sg (swap ps) y) = E.rv y := by
    intro y hy
    obtain ⟨o, hm⟩ := snds_mem (hcs y hy)
    have : sg (swap ps) y = o := by simp [sg, (hp1 o y hm).2]
    rw [this]; exact hE0 o y hm
  have hB0 : ∀ x, (calleeB ps B).get x = match lk ps x with | some c => (B.get c).ren (swap ps) | none => .no := fun x => calleeL_get _ _ _ _
  have hB0m : ∀ o c, (o, c) ∈ ps → (calleeB ps B).get o = (B.get c).ren (swap ps) := fun o c hm => by rw [hB0, (hp1 o c hm).1]
  have hB0l : ∀ x, (calleeB ps B).liveAt x → ∃ c, (x, c) ∈ ps := by
    intro x hx
    unfold BL.liveAt at hx
    rw [hB0] at hx
    split at hx
    · rename_i c hc; exact ⟨c, lk_mem hc⟩
    · cases hx
  have hB0l' : ∀ o c, (o, c) ∈ ps → (calleeB ps B).liveAt o := fun o c hm => by
    unfold BL.liveAt
    rw [hB0m o c hm, (blk_ren _).2]
    exact (hcl c (mem_snds hm)).1
  have hsol0 : ∀ o c, (o, c) ∈ ps → (solidAt E0 (calleeB ps B) o ↔ solidAt E B c) := fun o c hm => by
    unfold solidAt
    rw [hB0m o c hm]
    exact solid_fwd (hE0 o c hm).2
  have hlocs0 : ∀ (x : AV), (∀ y, x.locs y → B.liveAt y) → ∀ z, (ren (swap ps) x).locs z → (calleeB ps B).liveAt z := by
    intro x hx z hz
    obtain ⟨y, h1, rfl⟩ := ren_locs x z hz
    obtain ⟨o, hm⟩ := snds_mem (hcs y (hx y h1))
    have : sg (swap ps) y = o := by simp [sg, (hp1 o y hm).2]
    rw [this]; exact hB0l' o y hm
  have hinv0 : Inv E0 (calleeB ps B) := by
    refine ⟨fun x => ?_, fun x y hx hy hne => ?_, fun x hx => ?_, hinv.ibd, fun x y hy => ?_⟩
    · cases hl : lk ps x with
      | none => rw [hB0, hl]; trivial
      | some c =>
        have hm := lk_mem hl
        rw [hB0m x c hm]
        exact blk_fwd hle rfl (hinv.blk c) (hE0 x c hm) fun y hy => hin y (hinv.nm c y hy)
    · obtain ⟨c, hc⟩ := hB0l x (solid_live hx)
      obtain ⟨c', hc'⟩ := hB0l y (solid_live hy)
      rw [(hE0 x c hc).1, (hE0 y c' hc').1]
      refine hinv.dist c c' ((hsol0 x c hc).1 hx) ((hsol0 y c' hc').1 hy) fun q => hne ?_
      subst q
      have h1 := (hp1 x c hc).2
      rw [(hp1 y c hc').2] at h1
      exact (Option.some.inj h1).symm
    · obtain ⟨c, hc⟩ := hB0l x (solid_live hx)
      rw [(hE0 x c hc).1]
      exact hinv.live c ((hsol0 x c hc).1 hx)
    · cases hl : lk ps x with
      | none => rw [hB0, hl] at hy; exact hy.elim
      | some c =>
        rw [hB0m x c (lk_mem hl)] at hy
        cases hb : B.get c with
        | no => rw [hb] at hy; exact hy.elim
        | row _ _ _ => rw [hb] at hy; exact hy.elim
        | cells ch =>
          rw [hb] at hy
          exact hlocs0 ch (fun y hy => hinv.nm c y (by rw [hb]; exact hy)) y hy
  have hd0 : ¬ (calleeB ps B).liveAt d := fun hx => by obtain ⟨c, hc⟩ := hB0l d hx; exact hdo (mem_fsts hc)
  subst has
  refine hD _ _ _ _ ?_ (h E0 vs hinv0 (by rw [chain_rens]; exact (ren_fwd hle _ fun y hy => hin y (hloc y hy)).2.1 _ hvs) (fun x hx => by rw [chain_rens] at hx; exact hlocs0 _ hloc x hx) hd0)
  rintro e w' ⟨E0', r, B0', rfl, hK, hend, hinv', hpost, hrl⟩
  let E' : Env := ⟨fun y => match lk (swap ps) y with | some o => E0'.ρ o | none => if y = d then E0'.ρ d else E.ρ y, fun y => match lk (swap ps) y with | some o => E0'.rv o | none => if y = d then E0'.rv d else E.rv y, E0'.I, E0'.w⟩
  have hle' : E0'.Le E' := ⟨fun _ _ h => h, fun _ _ _ => rfl⟩
  have hEm : ∀ o c, (o, c) ∈ ps → E'.ρ c = E0'.ρ o ∧ E'.rv c = E0'.rv o := fun o c hm => by simp [E', (hp1 o c hm).2]
  have hEd : E'.ρ d = E0'.ρ d ∧ E'.rv d = E0'.rv d := by simp [E', lk_none_of (show d ∉ fsts (swap ps) by rw [fsts_swap]; exact hdc)]
  have hEo : ∀ y, y ≠ d → y ∉ snds ps → E'.ρ y = E.ρ y ∧ E'.rv y = E.rv y := fun y h1 h2 => by simp [E', lk_none_of (show y ∉ fsts (swap ps) by rw [fsts_swap]; exact h2), h1]
  have hsgd : sg ps d = d := by simp [sg, lk_none_of hdo]
  have hout : ∀ z, B0'.liveAt z → E'.ρ (sg ps z) = E0'.ρ z ∧ E'.rv (sg ps z) = E0'.rv z := by
    intro z hz
    rcases hpost.dom z hz with h1 | h1
    · obtain ⟨c, hm⟩ := hB0l z h1
      have : sg ps z = c := by simp [sg, (hp1 z c hm).1]
      rw [this]; exact hEm z c hm
    · rw [h1, hsgd]; exact hEd
  have hBget : ∀ x, (backB ps d B0').get x = if x = d then (B0'.get d).ren ps else match lk (swap ps) x with | some o => (B0'.get o).ren ps | none => .no := by
    intro x
    unfold backB
    split
    · rw [BL.get_cons, backL_get]
      by_cases h1 : d = x
      · rw [if_pos h1, if_pos h1.symm]
      · rw [if_neg h1, if_neg (Ne.symm h1)]
    · rename_i hl
      rw [backL_get]
      by_cases h1 : x = d
      · rw [if_pos h1, h1, lk_none_of (show d ∉ fsts (swap ps) by rw [fsts_swap]; exact hdc), get_dead (by simp [BL.liveAt, hl] : ¬ B0'.liveAt d)]
        rfl
      · rw [if_neg h1]
  have hBm : ∀ o c, (o, c) ∈ ps → (backB ps d B0').get c = (B0'.get o).ren ps := fun o c hm => by
    rw [hBget, if_neg (fun q : c = d => hdc (q ▸ mem_snds hm)), (hp1 o c hm).2]
  have hBd : (backB ps d B0').get d = (B0'.get d).ren ps := by rw [hBget, if_pos rfl]
  have hBl : ∀ x, (backB ps d B0').liveAt x → x = d ∨ ∃ o, (o, x) ∈ ps := by
    intro x hx
    by_cases h1 : x = d
    · exact .inl h1
    · right
      unfold BL.liveAt at hx
      rw [hBget, if_neg h1] at hx
      split at hx
      · rename_i o ho; exact ⟨o, swap_mem.2 (lk_mem ho)⟩
      · cases hx
  have hBlm : ∀ o c, (o, c) ∈ ps → ((backB ps d B0').liveAt c ↔ B0'.liveAt o) := fun o c hm => by unfold BL.liveAt; rw [hBm o c hm, (blk_ren _).2]
  have hBld : (backB ps d B0').liveAt d ↔ B0'.liveAt d := by unfold BL.liveAt; rw [hBd, (blk_ren _).2]
  have hsolm : ∀ o c, (o, c) ∈ ps → (solidAt E' (backB ps d B0') c ↔ solidAt E0' B0' o) := fun o c hm => by
    unfold solidAt
    rw [hBm o c hm]
    exact solid_fwd (hEm o c hm).2
  have hsold : solidAt E' (backB ps d B0') d ↔ solidAt E0' B0' d := by unfold solidAt; rw [hBd]; exact solid_fwd hEd.2
  have hlocs' : ∀ (x : AV), (∀ y, x.locs y → B0'.liveAt y) → ∀ z, (ren ps x).locs z → (backB ps d B0').liveAt z := by
    intro x hx z hz
    obtain ⟨y, h1, rfl⟩ := ren_locs x z hz
    rcases hpost.dom y (hx y h1) with h2 | h2
    · obtain ⟨c, hm⟩ := hB0l y h2
      have : sg ps y = c := by simp [sg, (hp1 y c hm).1]
      rw [this]; exact (hBlm y c hm).2 (hx y h1)
    · rw [h2, hsgd]; exact hBld.2 (h2 ▸ hx y h1)
  have hnmb : ∀ o z, ((B0'.get o).ren ps).locs z → (backB ps d B0').liveAt z := by
    intro o z hz
    cases hb : B0'.get o with
    | no => rw [hb] at hz; exact hz.elim
    | row _ _ _ => rw [hb] at hz; exact hz.elim
    | cells ch => rw [hb] at hz; exact hlocs' ch (fun y hy => hinv'.nm o y (by rw [hb]; exact hy)) z hz
  -- where a solid place stands
  have hsolid : ∀ x, solidAt E' (backB ps d B0') x → ∃ o, solidAt E0' B0' o ∧ E'.ρ x = E0'.ρ o ∧ ((x = d ∧ o = d) ∨ (o, x) ∈ ps) := by
    intro x hx
    rcases hBl x (solid_live hx) with h1 | ⟨o, hm⟩
    · subst h1; exact ⟨x, hsold.1 hx, hEd.1, .inl ⟨rfl, rfl⟩⟩
    · exact ⟨o, (hsolm o x hm).1 hx, (hEm o x hm).1, .inr hm⟩
  have hren : ∀ v : AV, (∀ y, v.locs y → B0'.liveAt y) → ∀ x, Rp E0' v x → Rp E' (ren ps v) x := fun v hv x hx => (ren_fwd hle' v fun y hy => hout y (hv y hy)).1 x hx
  refine ⟨E', r.ren ps, backB ps d B0', rfl, hK, ?_, ⟨fun x => ?_, fun x y hx hy hne => ?_, fun x hx => ?_, hinv'.ibd, fun x z hz => ?_⟩, ?_, fun x hx => ?_⟩
  · cases r with
    | ret v => cases e with
      | returned x => exact hren v hrl x hend
      | _ => exact hend
    | pan v => cases e with
      | panicked ch => obtain ⟨x, h1, h2⟩ := hend; exact ⟨x, h1, hren v hrl x h2⟩
      | _ => exact hend
  · rw [hBget]
    split
    · rename_i h1
      subst h1
      exact blk_fwd hle' rfl (hinv'.blk x) hEd fun y hy => hout y (hinv'.nm x y hy)
    · split
      · rename_i o ho
        exact blk_fwd hle' rfl (hinv'.blk o) (hEm o x (swap_mem.2 (lk_mem ho))) fun y hy => hout y (hinv'.nm o y hy)
      · trivial
  · obtain ⟨o, h1, h2, h3⟩ := hsolid x hx
    obtain ⟨o', h4, h5, h6⟩ := hsolid y hy
    rw [h2, h5]
    refine hinv'.dist o o' h1 h4 fun q => hne ?_
    subst q
    rcases h3 with ⟨h3, h3'⟩ | h3 <;> rcases h6 with ⟨h6, h6'⟩ | h6
    · exact h3.trans h6.symm
    · exact (hdo (h3' ▸ mem_fsts h6)).elim
    · exact (hdo (h6' ▸ mem_fsts h3)).elim
    · have := (hp1 o x h3).1
      rw [(hp1 o y h6).1] at this
      exact (Option.some.inj this).symm
  · obtain ⟨o, h1, h2, _⟩ := hsolid x hx
    rw [h2]
    exact hinv'.live o h1
  · rw [hBget] at hz
    split at hz
    · exact hnmb d z hz
    · split at hz
      · rename_i o ho; exact hnmb o z hz
      · exact hz.elim
  · refine ⟨⟨fun b o hi => hpost.le.sub b o hi, fun b o hi => hpost.le.cell b o hi⟩, fun x hx hr => ?_, fun x hx hr => ?_, hpost.os, hpost.tape, hpost.output, hpost.size, fun b hb hn => hpost.old b hb fun x hx q => ?_, fun x hx => ?_, fun x hx => ?_, fun x hx => ?_, hpost.imm⟩
    · by_cases hc : x ∈ snds ps
      · obtain ⟨o, hm⟩ := snds_mem hc
        have hod : o ≠ d := fun q => hdo (q ▸ mem_fsts hm)
        have h1 := hpost.same o hod (by rw [hB0m o x hm, (blk_ren _).1]; exact hr)
        have h2 := hE0 o x hm
        have h3 := hEm o x hm
        exact ⟨h3.1.trans (h1.1.trans h2.1), h3.2.trans (h1.2.trans h2.2)⟩
      · exact hEo x hx hc
    · by_cases hc : x ∈ snds ps
      · obtain ⟨o, hm⟩ := snds_mem hc
        have hod : o ≠ d := fun q => hdo (q ▸ mem_fsts hm)
        rw [hBm o x hm, (blk_ren _).1]
        exact hpost.kind o hod (by rw [hB0m o x hm, (blk_ren _).1]; exact hr)
      · rw [hBget, if_neg hx, lk_none_of (show x ∉ fsts (swap ps) by rw [fsts_swap]; exact hc)]; rfl
    · obtain ⟨c, hm⟩ := hB0l x (solid_live hx)
      rw [(hE0 x c hm).1] at q
      exact hn c ((hsol0 x c hm).1 hx) q
    · rcases hBl x hx with h1 | ⟨o, hm⟩
      · exact .inr h1
      · exact .inl (hcl x (mem_snds hm)).1
    · obtain ⟨o, h1, h2, h3⟩ := hsolid x hx
      rcases h3 with ⟨h3, h3'⟩ | hm
      · subst h3'
        rcases hpost.new o h1 with ⟨h4, _⟩ | h4
        · exact (hd0 (solid_live h4)).elim
        · exact .inr (by rw [h2]; exact h4)
      · rcases hpost.new o h1 with ⟨h4, h5⟩ | h4
        · exact .inl ⟨(hsol0 o x hm).1 h4, by rw [h2, h5]; exact (hE0 o x hm).1⟩
        · exact .inr (by rw [h2]; exact h4)
    · obtain ⟨o, hm⟩ := snds_mem (hcs x hx)
      exact (hBlm o x hm).2 (hpost.keep o (hB0l' o x hm))
  · cases r with
    | ret v => exact hlocs' v hrl x hx
    | pan v => exact hlocs' v hrl x hx

/-- A CALL, BY A CONTRACT WITH OTHER NAMES FOR WHAT IS HANDED IN. -/
theorem CallAt.use {P : Th Program} {f : Nat} {as : List AV} {d : Nat} {B : BL} {K : ARes → BL → Prop} (ps : List (Nat × Nat)) (as0 : List AV) (hok : okPs B ps d = true) (has : rens (swap ps) as = as0)
    (h : CallAt P f as0 d (calleeB ps B) fun r B' => K (r.ren ps) (backB ps d B')) : CallAt P f as d B K :=
  ⟨h.can, run_use (fun vs w R R' hr hc => hc.mono hr) hok has h.runAt⟩

end Go.Proofs.YtiaenejafpbfkaaDoor.Sx

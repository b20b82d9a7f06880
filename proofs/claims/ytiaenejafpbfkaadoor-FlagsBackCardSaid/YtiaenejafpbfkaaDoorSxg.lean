/- A symbolic executor for the model's code: operations that make or write memory, calls, panics. -/
import Derived.Test.YtiaenejafpbfkaaDoorSxf
import Derived.Laws.CopyRow
namespace Go.Proofs.YtiaenejafpbfkaaDoor.Sx
open Go
set_option linter.unusedSimpArgs false
set_option linter.unusedVariables false

def DfRp (E : Env) : AV → List Deferred → Prop
  | .nil, l => l = []
  | .cons (.fn f as caps) r, l => ∃ x y t, l = { target := .fn f (List.toArray x), args := (List.toArray y) } :: t ∧ ListC E caps x ∧ ListC E as y ∧ DfRp E r t
  | _, _ => False

theorem dfRp_mono {E E' : Env} (h : E.Le E') : (x : AV) → (∀ d, x.locs d → E'.ρ d = E.ρ d ∧ E'.rv d = E.rv d) → ∀ l, DfRp E x l → DfRp E' x l := by
  intro x
  induction x with
  | nil => intro _ l hl; exact hl
  | cons a b iha ihb =>
    intro hloc l hl
    cases a with
    | fn f as caps =>
      obtain ⟨x, y, t, h1, h2, h3, h4⟩ := hl
      exact ⟨x, y, t, h1, (rp_mono h caps fun d hd => hloc d (.inl (.inr hd))).2.1 _ h2, (rp_mono h as fun d hd => hloc d (.inl (.inl hd))).2.1 _ h3, ihb (fun d hd => hloc d (.inr hd)) _ h4⟩
    | _ => exact hl.elim
  | _ => intro _ l hl; exact hl.elim

structure Rel (N : Nat) (E0 : Env) (B0 : BL) (E : Env) (s : St) (a : Act) : Prop where
  tmps : ∀ d, Rp E (s.t.get d) (a.tmps.getD d undef)
  inv : Inv E s.b
  tn : ∀ d x, (s.t.get d).locs x → s.b.liveAt x
  sz : a.tmps.size = N
  df : DfRp E s.df a.defers
  dn : ∀ x, s.df.locs x → s.b.liveAt x
  post : Post E0 B0 E s.b (· < 10000)

theorem Rel.si {N : Nat} {E0 : Env} {B0 : BL} {E : Env} {s : St} {a : Act} (h : Rel N E0 B0 E s a) : SI E s a := ⟨h.tmps, h.inv.blk⟩

section
variable {N : Nat} {E0 : Env} {B0 : BL} {E : Env} {s : St} {a : Act} {P : Program}

theorem getD_set (l : Array Value) (d n : Nat) (v u : Value) (hd : d < l.size) : (l.setIfInBounds d v).getD n u = if d = n then v else l.getD n u := by
  rw [Array.getD_eq_getD_getElem?, Array.getD_eq_getD_getElem?, Array.getElem?_setIfInBounds]
  split
  · simp [hd]
  · rfl

/-- One step further: a value for a place. -/
theorem Rel.step (h : Rel N E0 B0 E s a) {E' : Env} {B' : BL} {D : Nat → Prop} (hpost : Post E s.b E' B' D) (hD : ∀ x, D x → x < 10000) (hsame : ∀ y, (∃ n, (s.t.get n).locs y) ∨ s.df.locs y → E'.ρ y = E.ρ y ∧ E'.rv y = E.rv y) (hinv : Inv E' B')
    {dst : Option Nat} {v : AV} {x : Value} (hN : ∀ d, dst = some d → d < N) (hv : Rp E' v x) (hl : ∀ y, v.locs y → B'.liveAt y) : Rel N E0 B0 E' ((⟨s.t, B', s.df⟩ : St).setO dst v) (a.put dst x) := by
  have hold : ∀ n, Rp E' (s.t.get n) (a.tmps.getD n undef) := fun n => (rp_mono hpost.le _ fun y hy => hsame y (.inl ⟨n, hy⟩)).1 _ (h.tmps n)
  have hdf := dfRp_mono hpost.le s.df (fun y hy => hsame y (.inr hy)) _ h.df
  have hp := h.post.trans hpost hD
  cases dst with
  | none => exact ⟨hold, hinv, fun n y hy => hpost.keep y (h.tn n y hy), h.sz, hdf, fun y hy => hpost.keep y (h.dn y hy), hp⟩
  | some d =>
    have hd := hN d rfl
    refine ⟨fun n => ?_, hinv, fun n y hy => ?_, ?_, hdf, fun y hy => hpost.keep y (h.dn y hy), hp⟩
    · show Rp E' ((AL.cons d v s.t).get n) ((a.tmps.setIfInBounds d x).getD n undef)
      rw [getD_set _ _ _ _ _ (by rw [h.sz]; exact hd)]
      unfold AL.get
      split
      · exact hv
      · exact hold n
    · change ((AL.cons d v s.t).get n).locs y at hy
      unfold AL.get at hy
      split at hy
      · exact hl y hy
      · exact hpost.keep y (h.tn n y hy)
    · show (a.tmps.setIfInBounds d x).size = N
      simpa using h.sz

/-- Nothing but a value. -/
theorem Rel.value (h : Rel N E0 B0 E s a) (hB0 : ∀ x, x < 10000 → ¬ B0.liveAt x) {dst : Option Nat} {v : AV} {x : Value} (hN : ∀ d, dst = some d → d < N) (hv : Rp E v x) (hl : ∀ y, v.locs y → s.b.liveAt y) :
    Rel N E0 B0 E (s.setO dst v) (a.put dst x) :=
  h.step (D := fun _ => False) (.refl _ _ _) (fun _ h => h.elim) (fun _ _ => ⟨rfl, rfl⟩) h.inv hN hv hl

theorem cells_sound {x c : AV} {v : Value} (h : Rp E x v) (hc : x.cells = some c) : ListC E c v.cells.toList ∧ (∀ u ∈ v.cells.toList, u.oneCell' = true) ∧ (∀ y, c.locs y ↔ x.locs y) := by
  have scals : ∀ (c : AV) (l : List Value), ListC E c l → c.scals = true → ∀ u ∈ l, u.oneCell' = true := by
    intro c
    induction c with
    | nil => intro l hl _; rw [listC_nil.1 hl]; simp
    | cons p q _ ih =>
      intro l hl hs
      obtain ⟨y, r, rfl, h1, h2⟩ := listC_cons.1 hl
      unfold AV.scals at hs
      split at hs
      · rename_i hp
        intro u hu
        rcases List.mem_cons.1 hu with rfl | hu
        · exact rp_scal h1 hp
        · exact ih r h2 hs u hu
      · cases hs
    | _ => intro l hl _; simp only [ListC] at hl
  unfold AV.cells at hc
  split at hc
  · split at hc
    · rename_i c' hs
      cases hc
      obtain ⟨l, rfl, hl⟩ := rp_agg.1 h
      exact ⟨by simpa [Value.cells] using hl, by simpa [Value.cells] using scals _ l hl hs, fun y => Iff.rfl⟩
    · cases hc
  · split at hc
    · rename_i hs
      cases hc
      have h1 := rp_scal h hs
      have : v.cells = #[v] := by cases v <;> simp [Value.oneCell', Value.cells] at h1 ⊢
      rw [this]
      refine ⟨listC_cons.2 ⟨v, [], rfl, h, listC_nil.2 rfl⟩, by simpa using h1, fun y => ?_⟩
      simp [AV.locs]
    · cases hc

theorem alloc_old (w : World) (o : Obj) {k : Nat} (h : k < w.heap.size) : (w.alloc o).heap[k]? = w.heap[k]? := by
  show (w.heap.push o)[k]? = _
  rw [Array.getElem?_push, if_neg (by omega)]
theorem alloc_new (w : World) (o : Obj) : (w.alloc o).heap[w.heap.size]? = some o := by
  show (w.heap.push o)[w.heap.size]? = _
  simp
theorem alloc_size (w : World) (o : Obj) : (w.alloc o).heap.size = w.heap.size + 1 := by
  show (w.heap.push o).size = _
  simp

/-- What a block reads as stays so. -/
theorem blk_mono {E E' : Env} (hle : E.Le E') {x : Nat} {b : Blk} (hb : BlkRp E x b) (hρ : E'.ρ x = E.ρ x) (hrv : E'.rv x = E.rv x) (hh : solid E x b → E'.w.heap[E.ρ x]? = E.w.heap[E.ρ x]?) (hl : ∀ y, b.locs y → E'.ρ y = E.ρ y ∧ E'.rv y = E.rv y) : BlkRp E' x b := by
  cases b with
  | no => trivial
  | cells c =>
    obtain ⟨l, e, h1, h2⟩ := hb
    exact ⟨l, e, by rw [hρ]; exact (hh trivial).trans h1, (rp_mono hle c hl).2.1 _ h2⟩
  | row sz n g =>
    rcases hb with ⟨h0, h1⟩ | ⟨cap, cur, e, h1, h2, h3, h4, h5, h6⟩
    · exact .inl ⟨by rw [hrv]; exact h0, h1⟩
    · have hs : solid E x (.row sz n g) := by show E.rv x ≠ _; rw [h1]; simp
      refine .inr ⟨cap, cur, e, by rw [hrv, hρ]; exact h1, by rw [hρ]; exact h2.of (hh hs), h3, h4, h5, fun i hi => ⟨(h6 i hi).1, (rp_mono hle _ fun y hy => ((AV.still_locs _).1 (h6 i hi).1.1 y hy).elim).2.1 _ (h6 i hi).2⟩⟩

theorem solid_same {E E' : Env} {x : Nat} {b : Blk} (hrv : E'.rv x = E.rv x) : solid E' x b ↔ solid E x b := by
  cases b with
  | row sz n g => show E'.rv x ≠ _ ↔ E.rv x ≠ _; rw [hrv]
  | _ => exact Iff.rfl

/-- A new block at place d. -/
theorem Rel.newBlk (h : Rel N E0 B0 E s a) (hB0 : ∀ x, x < 10000 → ¬ B0.liveAt x) {d : Nat} (hN : d < N) (hd : ¬ s.b.liveAt d) (hlt : d < 10000) (l : List Value) (e : TypeId) (rv : Value) (b : Blk) (v : AV) (x : Value)
    (hbl : b.live = true) (hloc : ∀ y, b.locs y → s.b.liveAt y) (hvl : ∀ y, v.locs y → y = d)
    (hE : ∀ E' : Env, E'.w = E.w.alloc (.cells l.toArray e) → E.Le E' → E'.ρ d = E.w.heap.size → E'.rv d = rv → (∀ y, s.b.liveAt y → E'.ρ y = E.ρ y ∧ E'.rv y = E.rv y) → BlkRp E' d b ∧ Rp E' v x) :
    ∃ E', E'.w = E.w.alloc (.cells l.toArray e) ∧ Rel N E0 B0 E' (s.new d v b) (a.put (some d) x) := by
  let E' : Env := ⟨fun x => if x = d then E.w.heap.size else E.ρ x, fun x => if x = d then rv else E.rv x, E.I, E.w.alloc (.cells l.toArray e)⟩
  have hle : E.Le E' := ⟨fun _ _ h => h, fun b o hi => World.cell?_alloc_lt _ _ _ (h.inv.ibd b o hi)⟩
  have hne : ∀ y, y ≠ d → E'.ρ y = E.ρ y ∧ E'.rv y = E.rv y := fun y hy => by simp [E', hy]
  have hsame : ∀ y, s.b.liveAt y → E'.ρ y = E.ρ y ∧ E'.rv y = E.rv y := fun y hy => hne y fun he => hd (he ▸ hy)
  have hdρ : E'.ρ d = E.w.heap.size := by simp [E']
  have hsz : E'.w.heap.size = E.w.heap.size + 1 := alloc_size _ _
  have hget : ∀ x, (BL.cons d b s.b).get x = if d = x then b else s.b.get x := fun x => BL.get_cons _ _ _ _
  have hlive : ∀ x, (BL.cons d b s.b).liveAt x ↔ (s.b.liveAt x ∨ x = d) := by
    intro x
    unfold BL.liveAt
    rw [hget]
    split
    · rename_i hx; subst hx; simp [hbl]
    · rename_i hx; simp [Ne.symm hx]
  have hsol : ∀ x, solidAt E' (BL.cons d b s.b) x → (solidAt E s.b x ∧ x ≠ d) ∨ x = d := by
    intro x hx
    by_cases hxd : x = d
    · exact .inr hxd
    · unfold solidAt at hx
      rw [hget, if_neg (Ne.symm hxd)] at hx
      exact .inl ⟨(solid_same (hne x hxd).2).1 hx, hxd⟩
  have hpost : Post E s.b E' (.cons d b s.b) (· = d) := by
    refine ⟨hle, fun x hx _ => hne x hx, fun x hx hr => by rw [hget, if_neg (Ne.symm hx)]; exact hr, rfl, rfl, rfl, by omega, fun b hb _ => alloc_old _ _ hb, fun x hx => (hlive x).1 hx, fun x hx => ?_, fun x hx => (hlive x).2 (.inl hx), fun _ _ h => .inl h⟩
    rcases hsol x hx with ⟨h1, h2⟩ | h1
    · exact .inl ⟨h1, (hne x h2).1⟩
    · subst h1; exact .inr (by rw [hdρ]; exact Nat.le_refl _)
  obtain ⟨hb1, hv1⟩ := hE E' rfl hle hdρ (by simp [E']) hsame
  refine ⟨E', rfl, h.step hpost (fun x hx => by rw [hx]; exact hlt) (fun y hy => hsame y (hy.elim (fun ⟨n, q⟩ => h.tn n y q) (h.dn y))) ⟨fun x => ?_, fun x y hx hy hxy => ?_, fun x hx => ?_, fun b o hb => ?_, fun x y hy => ?_⟩ (dst := some d) (v := v) (fun d' h => by cases h; exact hN) hv1 (fun y hy => (hlive y).2 (.inr (hvl y hy)))⟩
  · rw [hget]
    split
    · rename_i hx; subst hx; exact hb1
    · rename_i hx
      exact blk_mono hle (h.inv.blk x) (hne x (Ne.symm hx)).1 (hne x (Ne.symm hx)).2 (fun hs => alloc_old _ _ (h.inv.live x hs).1) fun y hy => hsame y (h.inv.nm x y hy)
  · rcases hsol x hx with ⟨h1, h2⟩ | h1 <;> rcases hsol y hy with ⟨h3, h4⟩ | h3
    · rw [(hne x h2).1, (hne y h4).1]; exact h.inv.dist x y h1 h3 hxy
    · rw [h3, (hne x h2).1, hdρ]; have := (h.inv.live x h1).1; omega
    · rw [h1, (hne y h4).1, hdρ]; have := (h.inv.live y h3).1; omega
    · exact (hxy (h1.trans h3.symm)).elim
  · rcases hsol x hx with ⟨h1, h2⟩ | h1
    · rw [(hne x h2).1]
      exact ⟨by have := (h.inv.live x h1).1; omega, (h.inv.live x h1).2⟩
    · rw [h1, hdρ]
      exact ⟨by omega, fun o ho => by have := h.inv.ibd _ _ ho; omega⟩
  · have := h.inv.ibd b o hb; omega
  · rw [hget] at hy
    split at hy
    · exact (hlive y).2 (.inl (hloc y hy))
    · exact (hlive y).2 (.inl (h.inv.nm x y hy))

/-- A new block of cells at place d. -/
theorem Rel.alloc (h : Rel N E0 B0 E s a) (hB0 : ∀ x, x < 10000 → ¬ B0.liveAt x) {d : Nat} (hN : d < N) (hd : ¬ s.b.liveAt d) (hlt : d < 10000) {c : AV} {l : List Value} (hc : ListC E c l) (hcl : ∀ y, c.locs y → s.b.liveAt y) (e : TypeId) :
    ∃ E', E'.w = E.w.alloc (.cells l.toArray e) ∧ Rel N E0 B0 E' (s.new d (.ptr d 0) (.cells c)) (a.put (some d) (.pointer (some ⟨E.w.heap.size, 0, none⟩))) :=
  h.newBlk hB0 hN hd hlt l e undef (.cells c) (.ptr d 0) _ rfl hcl (fun y hy => hy) fun E' hw hle hρ _ hs =>
    ⟨⟨l, e, by rw [hρ, hw]; exact alloc_new _ _, (rp_mono hle c fun y hy => hs y (hcl y hy)).2.1 _ hc⟩, by simp [Rp, hρ]⟩

/-- The cells of a live block are other ones. -/
theorem Rel.setBlk (h : Rel N E0 B0 E s a) (hB0 : ∀ x, x < 10000 → ¬ B0.liveAt x) {d : Nat} (hd : solidAt E s.b d) (l' : List Value) (b : Blk) (hbl : b.live = true) (hbr : b.isRow = (s.b.get d).isRow) (hloc : ∀ y, b.locs y → s.b.liveAt y)
    (hE : ∀ E' : Env, E'.w = E.w.setRow (E.ρ d) l'.toArray → E'.ρ = E.ρ → E'.rv = E.rv → E.Le E' → BlkRp E' d b) :
    ∃ E', E'.w = E.w.setRow (E.ρ d) l'.toArray ∧ Rel N E0 B0 E' (s.put d b) a := by
  let E' : Env := ⟨E.ρ, E.rv, E.I, E.w.setRow (E.ρ d) l'.toArray⟩
  have hsz : E'.w.heap.size = E.w.heap.size := by simp [E', World.setRow]
  have hle : E.Le E' := ⟨fun _ _ h => h, fun b o hi => by
    refine cell_setRow_other _ _ _ _ fun he => ?_
    simp only at he
    exact (h.inv.live d hd).2 o (he ▸ hi)⟩
  have hget : ∀ x, (BL.cons d b s.b).get x = if d = x then b else s.b.get x := fun x => BL.get_cons _ _ _ _
  have hlive : ∀ x, (BL.cons d b s.b).liveAt x ↔ s.b.liveAt x := by
    intro x
    unfold BL.liveAt
    rw [hget]
    split
    · rename_i hx; subst hx; simp [hbl]; exact solid_live hd
    · rfl
  have hsol : ∀ x, solidAt E' (BL.cons d b s.b) x → solidAt E s.b x := by
    intro x hx
    by_cases hxd : d = x
    · subst hxd; exact hd
    · unfold solidAt at hx
      rw [hget, if_neg hxd] at hx
      exact (solid_same rfl).1 hx
  have hpost : Post E s.b E' (.cons d b s.b) (fun _ => False) := by
    refine ⟨hle, fun _ _ _ => ⟨rfl, rfl⟩, fun x _ hr => ?_, rfl, rfl, rfl, by omega, fun k hk hn => setRow_other _ _ _ _ fun he => hn d hd he.symm, fun x hx => .inl ((hlive x).1 hx), fun x hx => .inl ⟨hsol x hx, rfl⟩, fun x hx => (hlive x).2 hx, fun _ _ h => .inl h⟩
    rw [hget]
    split
    · rename_i hx; subst hx; rw [hbr]; exact hr
    · exact hr
  have hb1 := hE E' rfl rfl rfl hle
  refine ⟨E', rfl, h.step (a := a) hpost (fun _ h => h.elim) (fun _ _ => ⟨rfl, rfl⟩) (dst := none) (v := .any) (x := undef) ⟨fun x => ?_, fun x y hx hy hne => h.inv.dist x y (hsol x hx) (hsol y hy) hne, fun x hx => ?_, fun b o hb => by have := h.inv.ibd b o hb; omega, fun x y hy => ?_⟩ (fun _ h => by cases h) trivial (fun y hy => hy.elim)⟩
  · rw [hget]
    split
    · rename_i hx; subst hx; exact hb1
    · rename_i hx
      exact blk_mono hle (h.inv.blk x) rfl rfl (fun hs => setRow_other _ _ _ _ (h.inv.dist x d hs hd (Ne.symm hx))) fun _ _ => ⟨rfl, rfl⟩
  · have := h.inv.live x (hsol x hx)
    exact ⟨by rw [hsz]; exact this.1, this.2⟩
  · rw [hget] at hy
    split at hy
    · exact (hlive y).2 (hloc y hy)
    · exact (hlive y).2 (h.inv.nm x y hy)

theorem listC_app {c d : AV} : ∀ {l m : List Value}, ListC E c l → ListC E d m → ListC E (c.app d) (l ++ m) := by
  induction c with
  | nil => intro l m h1 h2; rw [listC_nil.1 h1]; exact h2
  | cons p q _ ih =>
    intro l m h1 h2
    obtain ⟨x, r, rfl, h3, h4⟩ := listC_cons.1 h1
    exact listC_cons.2 ⟨x, r ++ m, rfl, h3, ih h4 h2⟩
  | _ => intro l m h1 _; simp only [ListC] at h1

theorem app_locs {c d : AV} {y : Nat} : (c.app d).locs y → c.locs y ∨ d.locs y := by
  induction c with
  | cons p q _ ih => intro h; rcases h with h | h; exact .inl (.inl h); exact (ih h).imp .inr id
  | _ => exact .inr

theorem listC_len {c : AV} : ∀ {l : List Value}, ListC E c l → l.length = c.len := by
  induction c with
  | nil => intro l h; rw [listC_nil.1 h]; rfl
  | cons p q _ ih => intro l h; obtain ⟨x, r, rfl, _, h4⟩ := listC_cons.1 h; simp [AV.len, ih h4]
  | _ => intro l h; simp only [ListC] at h

theorem over_sound : ∀ (c : AV) (n : Nat) (y r : AV) (l m : List Value), ListC E c l → ListC E y m → c.over n y = some r →
    n + m.length ≤ l.length ∧ ListC E r (l.take n ++ m ++ l.drop (n + m.length)) ∧ (∀ z, r.locs z → c.locs z ∨ y.locs z) := by
  intro c
  induction c with
  | cons p q _ ih =>
    intro n y r l m h1 h2 h
    obtain ⟨x, l, rfl, h3, h4⟩ := listC_cons.1 h1
    cases n with
    | succ n =>
      simp only [AV.over] at h
      split at h
      · rename_i r' hr
        cases h
        obtain ⟨h5, h6, h7⟩ := ih n y r' l m h4 h2 hr
        refine ⟨by simp; omega, ?_, fun z hz => ?_⟩
        · have : (x :: l).drop (n + 1 + m.length) = l.drop (n + m.length) := by rw [show n + 1 + m.length = (n + m.length) + 1 by omega]; rfl
          rw [this]
          exact listC_cons.2 ⟨x, _, by simp, h3, h6⟩
        · rcases hz with hz | hz
          · exact .inl (.inl hz)
          · exact (h7 z hz).imp .inr id
      · cases h
    | zero =>
      cases y with
      | nil =>
        simp only [AV.over, Option.some.injEq] at h
        subst h
        rw [listC_nil.1 h2]
        exact ⟨by simp, by simpa using h1, fun z hz => .inl hz⟩
      | cons u y =>
        obtain ⟨xu, m, rfl, h8, h9⟩ := listC_cons.1 h2
        simp only [AV.over] at h
        split at h
        · rename_i r' hr
          cases h
          obtain ⟨h5, h6, h7⟩ := ih 0 y r' l m h4 h9 hr
          refine ⟨by simp at h5 ⊢; omega, ?_, fun z hz => ?_⟩
          · simp only [Nat.zero_add, List.take_zero, List.nil_append, List.length_cons, List.drop_succ_cons] at h6 ⊢
            exact listC_cons.2 ⟨xu, _, by simp, h8, h6⟩
          · rcases hz with hz | hz
            · exact .inr (.inl hz)
            · exact (h7 z hz).imp .inr .inr
        · cases h
      | _ => simp only [ListC] at h2
  | nil =>
    intro n y r l m h1 h2 h
    cases n with
    | succ n => simp [AV.over] at h
    | zero =>
      cases y with
      | nil =>
        simp only [AV.over, Option.some.injEq] at h
        subst h
        rw [listC_nil.1 h2]
        exact ⟨by simp, by simpa using h1, fun z hz => .inl hz⟩
      | cons u y => simp [AV.over] at h
      | _ => simp only [ListC] at h2
  | _ => intro n y r l m h1; simp only [ListC] at h1

/-! ### rows shut for good -/
theorem rp_fz {d : Nat} {y : AV} (hy : ∀ v, Rp E (.row d) v → Rp E y v) (x : AV) : (∀ v, Rp E x v → Rp E (x.fz d y) v) ∧ (∀ l, ListC E x l → ListC E (x.fz d y) l) ∧ (∀ b o, MemC E x b o → MemC E (x.fz d y) b o) := by
  induction x with
  | row x =>
    refine ⟨fun v hv => ?_, fun _ h => h.elim, fun _ _ h => h.elim⟩
    unfold AV.fz
    split
    · rename_i h; have : x = d := by simpa using h
      subst this; exact hy v hv
    · exact hv
  | ptr x o => refine ⟨fun v hv => ?_, fun _ h => h.elim, fun _ _ h => h.elim⟩; unfold AV.fz; split; exact trivial; exact hv
  | rptr x s i o => refine ⟨fun v hv => ?_, fun _ h => h.elim, fun _ _ h => h.elim⟩; unfold AV.fz; split; exact trivial; exact hv
  | win x s i o => refine ⟨fun v hv => ?_, fun _ h => h.elim, fun _ _ h => h.elim⟩; unfold AV.fz; split; exact trivial; exact hv
  | iptr c ih =>
    refine ⟨fun v hv => ?_, fun _ h => h.elim, fun _ _ h => h.elim⟩
    obtain ⟨b, o, h1, h2⟩ := hv
    exact ⟨b, o, h1, ih.2.2 _ _ h2⟩
  | fn f a b iha ihb =>
    refine ⟨fun v hv => ?_, fun _ h => h.elim, fun _ _ h => h.elim⟩
    obtain ⟨l, m, h1, h2, h3⟩ := hv
    exact ⟨l, m, h1, iha.2.1 _ h2, ihb.2.1 _ h3⟩
  | ifc t v ih =>
    refine ⟨fun v hv => ?_, fun _ h => h.elim, fun _ _ h => h.elim⟩
    obtain ⟨z, h1, h2⟩ := hv
    exact ⟨z, h1, ih.1 _ h2⟩
  | agg c ih =>
    refine ⟨fun v hv => ?_, fun _ h => h.elim, fun _ _ h => h.elim⟩
    obtain ⟨l, h1, h2⟩ := hv
    exact ⟨l, h1, ih.2.1 _ h2⟩
  | tup c ih =>
    refine ⟨fun v hv => ?_, fun _ h => h.elim, fun _ _ h => h.elim⟩
    obtain ⟨l, h1, h2⟩ := hv
    exact ⟨l, h1, ih.2.1 _ h2⟩
  | cons a b iha ihb =>
    refine ⟨fun _ h => h.elim, fun l hv => ?_, fun b' o hv => ?_⟩
    · obtain ⟨x, r, h1, h2, h3⟩ := hv
      exact ⟨x, r, h1, iha.1 _ h2, ihb.2.1 _ h3⟩
    · obtain ⟨⟨v, h1, h2, h3⟩, h4⟩ := hv
      exact ⟨⟨v, h1, h2, iha.1 _ h3⟩, ihb.2.2 _ _ h4⟩
  | nil => exact ⟨fun _ h => h.elim, fun _ h => h, fun _ _ _ => trivial⟩
  | sl sz n g ih => exact ⟨fun _ h => h, fun _ h => h.elim, fun _ _ h => h.elim⟩
  | any => exact ⟨fun _ h => h, fun _ h => h.elim, fun _ _ h => h.elim⟩
  | int k n => exact ⟨fun _ h => h, fun _ h => h.elim, fun _ _ h => h.elim⟩
  | bool b => exact ⟨fun _ h => h, fun _ h => h.elim, fun _ _ h => h.elim⟩
  | tt => exact ⟨fun _ h => h, fun _ h => h.elim, fun _ _ h => h.elim⟩
  | ff => exact ⟨fun _ h => h, fun _ h => h.elim, fun _ _ h => h.elim⟩
  | str s => exact ⟨fun _ h => h, fun _ h => h.elim, fun _ _ h => h.elim⟩
  | nsl => exact ⟨fun _ h => h, fun _ h => h.elim, fun _ _ h => h.elim⟩
  | nptr => exact ⟨fun _ h => h, fun _ h => h.elim, fun _ _ h => h.elim⟩
  | nfn => exact ⟨fun _ h => h, fun _ h => h.elim, fun _ _ h => h.elim⟩
  | nif => exact ⟨fun _ h => h, fun _ h => h.elim, fun _ _ h => h.elim⟩

theorem fz_locs {d : Nat} {y : AV} (hy : ∀ z, ¬ y.locs z) (x : AV) (z : Nat) : (x.fz d y).locs z → x.locs z ∧ z ≠ d := by
  have key : ∀ {a b : Nat}, (a == b) = false → a ≠ b := fun h => by simpa using h
  induction x with
  | row x => intro h; unfold AV.fz at h; split at h
             · exact (hy z h).elim
             · rename_i hx; exact ⟨h, by rw [show z = x from h]; exact key hx⟩
  | ptr x o => intro h; unfold AV.fz at h; split at h
               · exact h.elim
               · rename_i hx; exact ⟨h, by rw [show z = x from h]; exact key hx⟩
  | rptr x s i o => intro h; unfold AV.fz at h; split at h
                    · exact h.elim
                    · rename_i hx; exact ⟨h, by rw [show z = x from h]; exact key hx⟩
  | win x s i o => intro h; unfold AV.fz at h; split at h
                   · exact h.elim
                   · rename_i hx; exact ⟨h, by rw [show z = x from h]; exact key hx⟩
  | iptr c ih => exact ih
  | fn f a b iha ihb => intro h; rcases h with h | h; exact ⟨.inl (iha h).1, (iha h).2⟩; exact ⟨.inr (ihb h).1, (ihb h).2⟩
  | ifc t v ih => exact ih
  | agg c ih => exact ih
  | tup c ih => exact ih
  | cons a b iha ihb => intro h; rcases h with h | h; exact ⟨.inl (iha h).1, (iha h).2⟩; exact ⟨.inr (ihb h).1, (ihb h).2⟩
  | _ => intro h; exact h.elim

theorem al_fz {d : Nat} {y : AV} : ∀ (l : AL) (k : Nat), (l.fz d y).get k = (l.get k).fz d y
  | .nil, k => rfl
  | .cons k' v r, k => by
    show (AL.cons k' (v.fz d y) (r.fz d y)).get k = _
    rw [AL.get_cons, AL.get_cons]
    split
    · rfl
    · exact al_fz r k
theorem bl_fz {d : Nat} {y : AV} : ∀ (l : BL) (k : Nat), (l.fz d y).get k = (l.get k).fz d y
  | .nil, k => rfl
  | .cons k' v r, k => by
    show (BL.cons k' (v.fz d y) (r.fz d y)).get k = _
    rw [BL.get_cons, BL.get_cons]
    split
    · rfl
    · exact bl_fz r k

theorem df_fz {d : Nat} {y : AV} (hy : ∀ v, Rp E (.row d) v → Rp E y v) : (x : AV) → ∀ l, DfRp E x l → DfRp E (x.fz d y) l := by
  intro x
  induction x with
  | nil => intro l hl; exact hl
  | cons a b iha ihb =>
    intro l hl
    cases a with
    | fn f as caps =>
      obtain ⟨x, z, t, h1, h2, h3, h4⟩ := hl
      exact ⟨x, z, t, h1, (rp_fz hy caps).2.1 _ h2, (rp_fz hy as).2.1 _ h3, ihb _ h4⟩
    | _ => exact hl.elim
  | _ => intro l hl; exact hl.elim

theorem blk_fz_live {d : Nat} {y : AV} (b : Blk) : (b.fz d y).live = b.live := by cases b <;> rfl

theorem memC_of_list' : ∀ (c : AV) (l : List Value) (b o : Nat), ListC E c l → (∀ j v, l[j]? = some v → E.w.cell? ⟨b, o + j, none⟩ = some v ∧ E.I b (o + j)) → MemC E c b o := by
  intro c
  induction c with
  | nil => intro l b o _ _; simp only [MemC]
  | cons p q _ ih =>
    intro l b o h hc
    obtain ⟨x, r, rfl, h1, h2⟩ := listC_cons.1 h
    simp only [MemC]
    refine ⟨⟨x, (hc 0 x rfl).1, (hc 0 x rfl).2, h1⟩, ih r b (o + 1) h2 fun j v hj => ?_⟩
    have := hc (j + 1) v (by simpa using hj)
    rw [show o + 1 + j = o + (j + 1) by omega]; exact this
  | _ => intro l b o h _; simp only [ListC] at h

theorem Rel.shut1 (h : Rel N E0 B0 E s a) (hB0 : ∀ x, x < 10000 → ¬ B0.liveAt x) (d : Nat) : ∃ E', E'.w = E.w ∧ E.Le E' ∧ E'.ρ = E.ρ ∧ E'.rv = E.rv ∧ Rel N E0 B0 E' (s.shut1 d) a := by
  unfold St.shut1
  split
  · rename_i sz n g hd hb
    have hd : d < 10000 := by simpa using hd
    have hdl : s.b.liveAt d := by simp [BL.liveAt, hb, Blk.live]
    have hbl := h.inv.blk d
    rw [hb] at hbl
    let E' : Env := ⟨E.ρ, E.rv, fun b o => E.I b o ∨ (solidAt E s.b d ∧ b = E.ρ d), E.w⟩
    have hle : E.Le E' := ⟨fun _ _ h => .inl h, fun _ _ _ => rfl⟩
    have mono : ∀ x : AV, (∀ v, Rp E x v → Rp E' x v) ∧ (∀ l, ListC E x l → ListC E' x l) ∧ (∀ b o, MemC E x b o → MemC E' x b o) := fun x => rp_mono hle x fun _ _ => ⟨rfl, rfl⟩
    have hy : ∀ v, Rp E' (.row d) v → Rp E' (.sl sz n g) v := by
      intro v hv
      rcases hbl with ⟨h1, h2⟩ | ⟨cap, cur, e, h1, h2, h3, h4, h5, h6⟩
      · exact ⟨none, 0, by rw [h2]; exact hv.1.trans h1, by rw [h2]; exact Nat.le_refl _, fun i hi => by rw [h2] at hi; exact absurd hi (Nat.not_lt_zero _)⟩
      · refine ⟨_, cap, hv.1.trans h1, h3, fun i hi => ⟨⟨(h6 i hi).1, by rw [listC_len' (h6 i hi).2]; exact row_elem h5 h3 hi⟩, E.ρ d, 0, rfl, ?_⟩⟩
        have hso : solidAt E s.b d := by unfold solidAt; rw [hb]; show E.rv d ≠ _; rw [h1]; simp
        refine memC_of_list' _ _ _ _ ((mono _).2.1 _ (h6 i hi).2) fun j u hj => ⟨?_, .inr ⟨hso, rfl⟩⟩
        show E.w.cell? _ = _
        rw [h2.cell]
        rw [List.getElem?_take] at hj
        split at hj
        · rw [List.getElem?_drop] at hj; rw [← hj]; congr 1; omega
        · cases hj
    have hyl : ∀ z, ¬ (AV.sl sz n g).locs z := fun z hz => hz
    have hget : ∀ x, (BL.cons d .no (s.b.fz d (.sl sz n g))).get x = if d = x then .no else (s.b.get x).fz d (.sl sz n g) := by
      intro x; rw [BL.get_cons, bl_fz]
    have hlive : ∀ x, (BL.cons d .no (s.b.fz d (.sl sz n g))).liveAt x ↔ (s.b.liveAt x ∧ x ≠ d) := by
      intro x
      unfold BL.liveAt
      rw [hget]
      split
      · rename_i hx; subst hx; simp [Blk.live]
      · rename_i hx; rw [blk_fz_live]; simp [Ne.symm hx]
    have hsol : ∀ x, solidAt E' (BL.cons d .no (s.b.fz d (.sl sz n g))) x → solidAt E s.b x ∧ x ≠ d := by
      intro x hx
      unfold solidAt at hx
      rw [hget] at hx
      split at hx
      · exact hx.elim
      · rename_i hne
        refine ⟨?_, Ne.symm hne⟩
        unfold solidAt
        cases hB : s.b.get x <;> rw [hB] at hx <;> exact hx
    refine ⟨E', rfl, hle, rfl, rfl, ⟨fun k => ?_, ⟨fun x => ?_, fun x x' hx hx' hne => h.inv.dist x x' (hsol x hx).1 (hsol x' hx').1 hne, fun x hx => ?_, fun b o hi => ?_, fun x z hz => ?_⟩, fun k z hz => ?_, h.sz, df_fz hy _ _ (dfRp_mono hle s.df (fun _ _ => ⟨rfl, rfl⟩) _ h.df), fun z hz => ?_, ?_⟩⟩
    · show Rp E' ((s.t.fz d (.sl sz n g)).get k) _
      rw [al_fz]
      exact (rp_fz hy _).1 _ ((mono _).1 _ (h.tmps k))
    · rw [hget]
      split
      · trivial
      · have hx := h.inv.blk x
        cases hB : s.b.get x with
        | no => trivial
        | cells c =>
          rw [hB] at hx
          obtain ⟨l, e', h7, h8⟩ := hx
          exact ⟨l, e', h7, (rp_fz hy c).2.1 _ ((mono c).2.1 _ h8)⟩
        | row sz' n' g' =>
          rw [hB] at hx
          rcases hx with hx | ⟨cap', cur', e', k1, k2, k3, k4, k5, k6⟩
          · exact .inl hx
          · exact .inr ⟨cap', cur', e', k1, k2, k3, k4, k5, fun i hi => ⟨(k6 i hi).1, (mono _).2.1 _ (k6 i hi).2⟩⟩
    · obtain ⟨hx, hne⟩ := hsol x hx
      refine ⟨(h.inv.live x hx).1, fun o ho => ?_⟩
      rcases ho with ho | ⟨hso, ho⟩
      · exact (h.inv.live x hx).2 o ho
      · exact h.inv.dist x d hx hso hne ho
    · rcases hi with hi | ⟨hso, hi⟩
      · exact h.inv.ibd b o hi
      · rw [hi]; exact (h.inv.live d hso).1
    · rw [hget] at hz
      split at hz
      · exact hz.elim
      · rename_i hx
        cases hB : s.b.get x with
        | cells c =>
          rw [hB] at hz
          obtain ⟨hz1, hz2⟩ := fz_locs hyl c z hz
          exact (hlive z).2 ⟨h.inv.nm x z (by rw [hB]; exact hz1), hz2⟩
        | no => rw [hB] at hz; exact hz.elim
        | row _ _ _ => rw [hB] at hz; exact hz.elim
    · change ((s.t.fz d (.sl sz n g)).get k).locs z at hz
      rw [al_fz] at hz
      obtain ⟨hz1, hz2⟩ := fz_locs hyl _ z hz
      exact (hlive z).2 ⟨h.tn k z hz1, hz2⟩
    · obtain ⟨hz1, hz2⟩ := fz_locs hyl _ z hz
      exact (hlive z).2 ⟨h.dn z hz1, hz2⟩
    · have hp := h.post
      refine ⟨hp.le.trans hle, hp.same, fun x hx hr => ?_, hp.os, hp.tape, hp.output, hp.size, hp.old, fun x hx => hp.dom x ((hlive x).1 hx).1, fun x hx => hp.new x (hsol x hx).1, fun x hx => (hlive x).2 ⟨hp.keep x hx, fun he => hB0 x (he ▸ hd) hx⟩, fun b o hi => ?_⟩
      · have h7 := hp.kind x hx hr
        rw [hget]
        split
        · rfl
        · cases hB : s.b.get x <;> rw [hB] at h7 <;> first | rfl | cases h7
      · rcases hi with hi | ⟨hso, hi⟩
        · exact hp.imm b o hi
        · rcases hp.new d hso with h7 | h7
          · exact (hB0 d hd (solid_live h7.1)).elim
          · exact .inr (by rw [hi]; exact h7)
  · exact ⟨E, rfl, .refl E, rfl, rfl, h⟩

theorem Rel.shutL (hB0 : ∀ x, x < 10000 → ¬ B0.liveAt x) : ∀ (l : List Nat) {E : Env} {s : St}, Rel N E0 B0 E s a → ∃ E', E'.w = E.w ∧ E.Le E' ∧ E'.ρ = E.ρ ∧ E'.rv = E.rv ∧ Rel N E0 B0 E' (s.shutL l) a
  | [], E, s, h => ⟨E, rfl, .refl E, rfl, rfl, h⟩
  | d :: r, E, s, h => by
    obtain ⟨E1, h1, h2, h3, h4, h5⟩ := h.shut1 hB0 d
    obtain ⟨E2, k1, k2, k3, k4, k5⟩ := Rel.shutL hB0 r h5
    exact ⟨E2, k1.trans h1, h2.trans k2, k3.trans h3, k4.trans h4, k5⟩

end

end Go.Proofs.YtiaenejafpbfkaaDoor.Sx

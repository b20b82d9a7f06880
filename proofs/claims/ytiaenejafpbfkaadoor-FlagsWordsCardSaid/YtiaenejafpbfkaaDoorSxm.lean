/- A symbolic executor for the model's code: a function's contract out of its body's abstract weakest precondition. -/
import Derived.Test.YtiaenejafpbfkaaDoorSxl
namespace Go.Proofs.YtiaenejafpbfkaaDoor.Sx
open Go
set_option linter.unusedSimpArgs false
set_option linter.unusedVariables false

inductive RRes : Type | tmp (t : Nat) | cell1 (t : Nat) | cellA (t n : Nat)
def rRes (P : Program) : ResultVar → Option RRes
  | .tmp t => some (.tmp t)
  | .cell t ty => match P.underlying ty, P.info? ty with
    | some d, some i => some (if aggD d = true then .cellA t i.size else .cell1 t)
    | _, _ => none
def rRess (P : Program) : List ResultVar → Option (List RRes)
  | [] => some []
  | x :: r => match rRes P x, rRess P r with | some y, some q => some (y :: q) | _, _ => none
def okQ : QR → Option AV | .ok v => some v | _ => none
def readRes (s : St) : RRes → Option AV
  | .tmp t => some (s.t.get t)
  | .cell1 t => okQ (aload first s (s.t.get t))
  | .cellA t n => okQ (aload (takeA n) s (s.t.get t))
def readRess (s : St) : List RRes → Option AV
  | [] => some .nil
  | x :: r => match readRes s x, readRess s r with | some v, some c => some (.cons v c) | _, _ => none
def retv (s : St) (rs : List RRes) : Option AV := match readRess s rs with
  | some (.cons v .nil) => some v
  | some c => some (.tup c)
  | none => none

/-- The same without places of one's own: rows are shut for good. -/
def freeze (B : BL) : AV → Option AV
  | .row d => match ltB d 10000 with
    | true => match B.get d with | .row sz n g => some (.sl sz n g) | _ => none
    | false => some (.row d)
  | .ptr d o => match ltB d 10000 with | true => none | false => some (.ptr d o)
  | .rptr d sz i o => match ltB d 10000 with | true => none | false => some (.rptr d sz i o)
  | .win d sz i o => match ltB d 10000 with | true => none | false => some (.win d sz i o)
  | .iptr c => match freeze B c with | some c => some (.iptr c) | none => none
  | .ifc t v => match freeze B v with | some v => some (.ifc t v) | none => none
  | .agg c => match freeze B c with | some c => some (.agg c) | none => none
  | .tup c => match freeze B c with | some c => some (.tup c) | none => none
  | .fn f a b => match freeze B a, freeze B b with | some a, some b => some (.fn f a b) | _, _ => none
  | .cons h t => match freeze B h, freeze B t with | some h, some t => some (.cons h t) | _, _ => none
  | x => some x
/-- A block laid into a row of blocks that rise. -/
def BL.ins (k : Nat) (v : Blk) : BL → BL
  | .nil => .cons k v .nil
  | .cons k' v' r => match k == k' with
    | true => .cons k v r
    | false => match ltB k k' with
      | true => .cons k v (.cons k' v' r)
      | false => .cons k' v' (r.ins k v)
def freezeK (B : BL) : Blk → Option Blk
  | .cells c => match freeze B c with | some c => some (.cells c) | none => none
  | b => some b
/-- What is not one's own, rising, each once, with one's own rows in it shut for good. -/
def outerF (B : BL) : BL → Option BL
  | .nil => some .nil
  | .cons k _ r => match ltB k 10000 with
    | true => outerF B r
    | false => match freezeK B (B.get k), outerF B r with | some v, some r => some (r.ins k v) | _, _ => none
theorem ins_get (k : Nat) (v : Blk) (x : Nat) : ∀ B : BL, (B.ins k v).get x = if k = x then v else B.get x
  | .nil => rfl
  | .cons k' v' r => by
    unfold BL.ins
    split
    · rename_i h
      have h : k = k' := by simpa using h
      subst h
      rw [BL.get_cons, BL.get_cons]
      split <;> rfl
    · rename_i h
      have h : k ≠ k' := by simpa using h
      split
      · rw [BL.get_cons]
      · rw [BL.get_cons, BL.get_cons, ins_get k v x r]
        by_cases h1 : k' = x
        · rw [if_pos h1, if_neg (by omega), if_pos h1]
        · rw [if_neg h1, if_neg h1]
def okOut (B : BL) (v : AV) : Bool := match v.okL B with | true => BL.okL B B | false => false
def fin (K : ARes → BL → Prop) (mk : AV → ARes) (s : St) (v : Option AV) : Prop := match v with
  | some v => match freeze s.b v, outerF s.b s.b with
    | some v, some B => match okOut B v with | true => K (mk v) B | false => False
    | _, _ => False
  | none => False
def exitX (rs : List RRes) (K : ARes → BL → Prop) : Option AV → St → Prop
  | none, s => match s.df with | .nil => fin K .ret s (retv s rs) | _ => False
  | some v, s => match s.df with | .nil => fin K .pan s (some v) | _ => False

def params (k : Nat) : List AV → AL
  | [] => .nil
  | x :: r => .cons k x (params (k + 1) r)
def onlyOuter : BL → Bool
  | .nil => true
  | .cons k _ r => match ltB k 10000 with | true => false | false => onlyOuter r

theorem onlyOuter_spec : ∀ {B : BL}, onlyOuter B = true → ∀ x, x < 10000 → ¬ B.liveAt x
  | .nil, _, x, _ => by simp [BL.liveAt, BL.get, Blk.live]
  | .cons k v r, h, x, hx => by
    unfold onlyOuter at h
    split at h
    · cases h
    · rename_i hk
      have : ¬ k = x := by intro he; subst he; simp [ltB, hx] at hk
      unfold BL.liveAt
      rw [BL.get_cons, if_neg this]
      exact onlyOuter_spec h x hx

def BL.has : BL → Nat → Bool | .nil, _ => false | .cons k _ r, x => match k == x with | true => true | false => r.has x
theorem has_not : ∀ {B : BL} {x : Nat}, B.has x = false → B.get x = .no
  | .nil, _, _ => rfl
  | .cons k v r, x, h => by
    unfold BL.has at h
    split at h
    · cases h
    · rename_i hk
      rw [BL.get_cons, if_neg (by simpa using hk)]
      exact has_not h
theorem outerF_key (B : BL) : ∀ (l l' : BL), outerF B l = some l' → ∀ x, (x < 10000 → l'.get x = .no) ∧ (¬ x < 10000 → (l.has x = true → freezeK B (B.get x) = some (l'.get x)) ∧ (l.has x = false → l'.get x = .no))
  | .nil, l', h, x => by cases h; exact ⟨fun _ => rfl, fun _ => ⟨fun h => (by cases h), fun _ => rfl⟩⟩
  | .cons k v r, l', h, x => by
    unfold outerF at h
    split at h
    · rename_i hk
      have hk' : k < 10000 := by simpa [ltB] using hk
      obtain ⟨h1, h2⟩ := outerF_key B r l' h x
      refine ⟨h1, fun hx => ?_⟩
      have hne : (k == x) = false := by simp; omega
      simp only [BL.has, hne]
      exact h2 hx
    · rename_i hk
      have hk' : ¬ k < 10000 := by simpa [ltB] using hk
      split at h
      · rename_i v' r' hv hr
        cases h
        obtain ⟨h1, h2⟩ := outerF_key B r r' hr x
        rw [ins_get]
        refine ⟨fun hx => ?_, fun hx => ?_⟩
        · rw [if_neg (by omega)]; exact h1 hx
        · by_cases hkx : k = x
          · subst hkx
            simp only [BL.has, beq_self_eq_true, if_true]
            exact ⟨fun _ => hv, fun h => by cases h⟩
          · have hne : (k == x) = false := by simpa using hkx
            rw [if_neg hkx]
            simp only [BL.has, hne]
            exact h2 hx
      · cases h
theorem outerF_get {B l' : BL} (h : outerF B B = some l') (x : Nat) : (x < 10000 → l'.get x = .no) ∧ (¬ x < 10000 → freezeK B (B.get x) = some (l'.get x)) := by
  obtain ⟨h1, h2⟩ := outerF_key B B l' h x
  refine ⟨h1, fun hx => ?_⟩
  cases hh : B.has x with
  | true => exact (h2 hx).1 hh
  | false => rw [has_not hh, (h2 hx).2 hh]; rfl

theorem params_get {E : Env} : ∀ (as : List AV) (k : Nat) (vs : List Value) (rest : List Value), ListC E (chain as) vs → (∀ u ∈ rest, u = undef) → ∀ d, Rp E ((params k as).get (k + d)) ((vs ++ rest).getD d undef)
  | [], k, vs, rest, h, hr, d => trivial
  | x :: r, k, vs, rest, h, hr, d => by
    obtain ⟨v, m, rfl, h1, h2⟩ := listC_cons.1 h
    unfold params
    rw [AL.get_cons]
    cases d with
    | zero => rw [if_pos (by simp)]; simpa using h1
    | succ d =>
      rw [if_neg (by omega)]
      have := params_get r (k + 1) m rest h2 hr d
      rw [show k + 1 + d = k + (d + 1) by omega] at this
      simpa using this
theorem params_lt : ∀ (as : List AV) (k d : Nat), d < k → (params k as).get d = .any
  | [], _, _, _ => rfl
  | x :: r, k, d, h => by
    unfold params
    rw [AL.get_cons, if_neg (by omega)]
    exact params_lt r (k + 1) d (by omega)
theorem params_locs : ∀ (as : List AV) (k d y : Nat), ((params k as).get d).locs y → (chain as).locs y
  | [], _, _, _, h => h.elim
  | x :: r, k, d, y, h => by
    unfold params at h
    rw [AL.get_cons] at h
    split at h
    · exact .inl h
    · exact .inr (params_locs r (k + 1) d y h)

theorem chain_len {E : Env} : ∀ (as : List AV) (vs : List Value), ListC E (chain as) vs → vs.length = as.length
  | [], vs, h => by rw [listC_nil.1 h]; rfl
  | x :: r, vs, h => by obtain ⟨v, m, rfl, _, h2⟩ := listC_cons.1 h; simp [chain_len r m h2]

theorem memC_of_list {E : Env} : ∀ (c : AV) (l : List Value) (b o : Nat), ListC E c l → (∀ j v, l[j]? = some v → E.w.cell? ⟨b, o + j, none⟩ = some v ∧ E.I b (o + j)) → MemC E c b o := by
  intro c
  induction c with
  | nil => intro l b o _ _; simp only [MemC]
  | cons p q _ ih =>
    intro l b o h hc
    obtain ⟨x, r, rfl, h1, h2⟩ := listC_cons.1 h
    simp only [MemC]
    refine ⟨⟨x, (hc 0 x rfl).1, (hc 0 x rfl).2, h1⟩, ih r b (o + 1) h2 fun j v hj => ?_⟩
    have := hc (j + 1) v (by simpa using hj)
    rw [show o + 1 + j = o + (j + 1) by omega]; exact this
  | _ => intro l b o h _; simp only [ListC] at h

/-- Every block of one's own is shut. -/
def Env.shut (E : Env) (B : BL) : Env := ⟨E.ρ, E.rv, fun b o => E.I b o ∨ ∃ x, x < 10000 ∧ solidAt E B x ∧ E.ρ x = b, E.w⟩
theorem Env.shut_le (E : Env) (B : BL) : E.Le (E.shut B) := ⟨fun _ _ h => .inl h, fun _ _ _ => rfl⟩

theorem freeze_sound {E : Env} {B : BL} (hB : ∀ d, BlkRp E d (B.get d)) (x : AV) : ∀ y, freeze B x = some y → (∀ v, Rp E x v → Rp (E.shut B) y v) ∧ (∀ l, ListC E x l → ListC (E.shut B) y l) ∧ (∀ b o, MemC E x b o → MemC (E.shut B) y b o) := by
  have hle := E.shut_le B
  induction x with
  | row d =>
    intro y h
    refine ⟨fun v hv => ?_, fun _ h => h.elim, fun _ _ h => h.elim⟩
    unfold freeze at h
    split at h
    · rename_i hd
      have hd' : d < 10000 := by simpa [ltB] using hd
      split at h
      · rename_i sz n g hb
        cases h
        have hbl := hB d
        rw [hb] at hbl
        rcases hbl with ⟨h1, h2⟩ | ⟨cap, cur, e, h1, h2, h3, h4, h5, h6⟩
        · exact ⟨none, 0, by rw [h2]; exact hv.1.trans h1, by rw [h2]; exact Nat.le_refl _, fun i hi => by rw [h2] at hi; exact absurd hi (Nat.not_lt_zero _)⟩
        have hlive : solidAt E B d := by unfold solidAt; rw [hb]; show E.rv d ≠ _; rw [h1]; simp
        refine ⟨_, cap, hv.1.trans h1, h3, fun i hi => ⟨⟨(h6 i hi).1, by rw [listC_len' (h6 i hi).2]; exact row_elem h5 h3 hi⟩, E.ρ d, 0, rfl, ?_⟩⟩
        refine memC_of_list _ _ _ _ ((rp_mono hle _ fun _ _ => ⟨rfl, rfl⟩).2.1 _ (h6 i hi).2) fun j u hj => ⟨?_, .inr ⟨d, hd', hlive, rfl⟩⟩
        show E.w.cell? _ = _
        rw [h2.cell]
        rw [List.getElem?_take] at hj
        split at hj
        · rw [List.getElem?_drop] at hj; rw [← hj]; congr 1; omega
        · cases hj
      · cases h
    · cases h; exact hv
  | ptr d o =>
    intro y h
    refine ⟨fun v hv => ?_, fun _ h => h.elim, fun _ _ h => h.elim⟩
    unfold freeze at h
    split at h
    · cases h
    · cases h; exact hv
  | rptr d sz i o =>
    intro y h
    refine ⟨fun v hv => ?_, fun _ h => h.elim, fun _ _ h => h.elim⟩
    unfold freeze at h
    split at h
    · cases h
    · cases h; exact hv
  | win d sz i o =>
    intro y h
    refine ⟨fun v hv => ?_, fun _ h => h.elim, fun _ _ h => h.elim⟩
    unfold freeze at h
    split at h
    · cases h
    · cases h; exact hv
  | iptr c ih =>
    intro y h
    refine ⟨fun v hv => ?_, fun _ h => h.elim, fun _ _ h => h.elim⟩
    unfold freeze at h
    split at h
    · rename_i c' hc
      cases h
      obtain ⟨b, o, h1, h2⟩ := hv
      exact ⟨b, o, h1, (ih _ hc).2.2 _ _ h2⟩
    · cases h
  | ifc t v ih =>
    intro y h
    refine ⟨fun v hv => ?_, fun _ h => h.elim, fun _ _ h => h.elim⟩
    unfold freeze at h
    split at h
    · rename_i c' hc
      cases h
      obtain ⟨y, h1, h2⟩ := hv
      exact ⟨y, h1, (ih _ hc).1 _ h2⟩
    · cases h
  | agg c ih =>
    intro y h
    refine ⟨fun v hv => ?_, fun _ h => h.elim, fun _ _ h => h.elim⟩
    unfold freeze at h
    split at h
    · rename_i c' hc
      cases h
      obtain ⟨l, h1, h2⟩ := rp_agg.1 hv
      exact rp_agg.2 ⟨l, h1, (ih _ hc).2.1 _ h2⟩
    · cases h
  | tup c ih =>
    intro y h
    refine ⟨fun v hv => ?_, fun _ h => h.elim, fun _ _ h => h.elim⟩
    unfold freeze at h
    split at h
    · rename_i c' hc
      cases h
      obtain ⟨l, h1, h2⟩ := rp_tup.1 hv
      exact rp_tup.2 ⟨l, h1, (ih _ hc).2.1 _ h2⟩
    · cases h
  | fn f a b iha ihb =>
    intro y h
    refine ⟨fun v hv => ?_, fun _ h => h.elim, fun _ _ h => h.elim⟩
    unfold freeze at h
    split at h
    · rename_i a' b' ha hb
      cases h
      obtain ⟨l, m, h1, h2, h3⟩ := hv
      exact ⟨l, m, h1, (iha _ ha).2.1 _ h2, (ihb _ hb).2.1 _ h3⟩
    · cases h
  | cons a b iha ihb =>
    intro y h
    unfold freeze at h
    split at h
    · rename_i a' b' ha hb
      cases h
      refine ⟨fun _ h => h.elim, fun l hl => ?_, fun b o hm => ?_⟩
      · obtain ⟨x, r, h1, h2, h3⟩ := hl
        exact ⟨x, r, h1, (iha _ ha).1 _ h2, (ihb _ hb).2.1 _ h3⟩
      · obtain ⟨⟨v, h1, h2, h3⟩, h4⟩ := hm
        exact ⟨⟨v, h1, .inl h2, (iha _ ha).1 _ h3⟩, (ihb _ hb).2.2 _ _ h4⟩
    · cases h
  | _ => intro y h; cases h; exact rp_mono hle _ fun _ _ => ⟨rfl, rfl⟩

theorem okQ_gives {q : QR} {v : AV} (h : okQ q = some v) : q.gives v := by
  unfold okQ at h
  split at h
  · cases h; exact gives_ok.2 rfl
  · cases h

/-- A result, read. -/
def resOne (tmps : Array Value) : ResultVar → Sem Value
  | .tmp t => pure (tmps.getD t undef)
  | .cell a t => do loadVar t (← asAddr (tmps.getD a undef))
theorem results_one (fn : Func) (tmps : Array Value) : results fn tmps = (do let vs ← fn.results.mapM (resOne tmps); pure (if h : vs.size = 1 then vs[0] else .tuple vs)) := rfl

theorem readRes_sound {P : Program} {E : Env} {s : St} {a : Act} (hS : SI E s a) {x : ResultVar} {y : RRes} (hr : rRes P x = some y) {v : AV} (hv : readRes s y = some v) :
    ∃ z, (resOne a.tmps x).run P E.w = .ok z E.w ∧ Rp E v z := by
  cases x with
  | tmp t =>
    cases hr
    cases hv
    exact ⟨_, rfl, hS.tmps t⟩
  | cell t ty =>
    simp only [rRes] at hr
    split at hr
    · rename_i d i hu hi
      cases hr
      have hld : ∀ (b o : Nat), a.tmps.getD t undef = .pointer (some ⟨b, o, none⟩) → (resOne a.tmps (.cell t ty)).run P E.w = (Instr.loadAt ty (.pointer (some ⟨b, o, none⟩))).run P E.w := by
        intro b o h
        simp only [resOne, h]
        simp [asAddr, Instr.loadAt, Instr.sureAddr]
      split at hv
      · rename_i had
        obtain ⟨p, hp⟩ := gives_load (okQ_gives hv)
        obtain ⟨b, o, h1, l, h2, h3, h4⟩ := aload_sound hS (k := some i.size) (fun b o c v h hf => loads_take h hf) (hS.tmps t) hp
        exact ⟨_, (hld b o h1).trans (run_loadA hu had hi h2 h3), h4⟩
      · rename_i had
        obtain ⟨p, hp⟩ := gives_load (okQ_gives hv)
        obtain ⟨b, o, h1, y, h2, h3⟩ := aload_sound hS (k := none) (fun b o c v h hf => loads_first h hf) (hS.tmps t) hp
        exact ⟨_, (hld b o h1).trans (run_load1 hu (by simpa using had) h2), h3⟩
    · cases hr

theorem readRess_sound {P : Program} {E : Env} {s : St} {a : Act} (hS : SI E s a) : ∀ (l : List ResultVar) (q : List RRes) (c : AV), rRess P l = some q → readRess s q = some c →
    ∃ zs, (l.mapM (resOne a.tmps)).run P E.w = .ok zs E.w ∧ ListC E c zs
  | [], q, c, hr, hc => by cases hr; cases hc; exact ⟨[], rfl, listC_nil.2 rfl⟩
  | x :: l, q, c, hr, hc => by
    unfold rRess at hr
    split at hr
    · rename_i y q' hy hq
      cases hr
      unfold readRess at hc
      split at hc
      · rename_i v c' hv hc'
        cases hc
        obtain ⟨z, h1, h2⟩ := readRes_sound hS hy hv
        obtain ⟨zs, h3, h4⟩ := readRess_sound hS l q' c' hq hc'
        refine ⟨z :: zs, ?_, listC_cons.2 ⟨z, zs, rfl, h2, h4⟩⟩
        rw [List.mapM_cons]
        simp only [Sem.run_bind, h1, h3, Result.andThen_ok, Sem.run_pure]
      · cases hc
    · cases hr

theorem results_run {P : Program} {fn : Func} {E : Env} {s : St} {a : Act} (hS : SI E s a) {rs : List RRes} (hr : rRess P fn.results.toList = some rs) {v : AV} (hv : retv s rs = some v) :
    ∃ z, (results fn a.tmps).run P E.w = .ok z E.w ∧ Rp E v z := by
  unfold retv at hv
  have fold : ∀ zs : List Value, (fn.results.toList.mapM (resOne a.tmps)).run P E.w = .ok zs E.w →
      (results fn a.tmps).run P E.w = .ok (if h : zs.toArray.size = 1 then zs.toArray[0] else .tuple zs.toArray) E.w := by
    intro zs hz
    rw [results_one, Array.mapM_eq_mapM_toList]
    simp only [Sem.run_bind, Sem.run_map]
    rw [hz]
    simp only [Result.andThen_ok, Sem.run_pure]
  split at hv
  · rename_i v' hc
    cases hv
    obtain ⟨zs, h1, h2⟩ := readRess_sound hS _ _ _ hr hc
    obtain ⟨z, r, rfl, h3, h4⟩ := listC_cons.1 h2
    rw [listC_nil.1 h4] at h1
    exact ⟨z, by simpa using fold _ h1, h3⟩
  · rename_i c hne hc
    cases hv
    obtain ⟨zs, h1, h2⟩ := readRess_sound hS _ _ _ hr hc
    refine ⟨.tuple zs.toArray, ?_, rp_tup.2 ⟨zs, rfl, h2⟩⟩
    rw [fold _ h1]
    have : ¬ zs.toArray.size = 1 := by
      intro h
      cases zs with
      | nil => simp at h
      | cons z r =>
        have hr' : r = [] := by simpa using h
        subst hr'
        cases c with
        | cons p q =>
          obtain ⟨_, _, he, _, h4⟩ := listC_cons.1 h2
          cases he
          cases q with
          | nil => exact hne _ rfl
          | cons _ _ => obtain ⟨_, _, he, _⟩ := listC_cons.1 h4; cases he
          | _ => simp only [ListC] at h4
        | nil => have := listC_nil.1 h2; simp at this
        | _ => simp only [ListC] at h2
    rw [dif_neg this]
  · cases hv

theorem readRess_locs {N : Nat} {E0 : Env} {B0 : BL} {E : Env} {s : St} {a : Act} (h : Rel N E0 B0 E s a) {x : RRes} {v : AV} (hv : readRes s x = some v) : ∀ y, v.locs y → s.b.liveAt y := by
  cases x with
  | tmp t => cases hv; exact h.tn t
  | cell1 t => exact fun y hy => aload_locs h (fun c v hf => first_locs hf) (h.tn t) (okQ_gives hv) hy
  | cellA t n => exact fun y hy => aload_locs h (fun c v hf => takeA_locs hf) (h.tn t) (okQ_gives hv) hy

/-- How a function ends, for who called it. -/
def OutOk (E : Env) (B : BL) (d : Nat) (K : ARes → BL → Prop) (e : Ending) (w' : World) : Prop :=
  ∃ E' r B', E'.w = w' ∧ K r B' ∧ Ends E' r e ∧ Inv E' B' ∧ Post E B E' B' (· = d) ∧ (∀ x, r.locs x → B'.liveAt x)

/-- The outer blocks at a function's end. -/
theorem outer_end {N : Nat} {E : Env} {B : BL} {E' : Env} {s : St} {a : Act} (hB : ∀ x, x < 10000 → ¬ B.liveAt x) (h : Rel N E B E' s a) {B'' : BL} (ho : outerF s.b s.b = some B'') (hbl : BL.okL B'' B'' = true) (d : Nat) :
    let F : Env := ⟨fun x => if x < 10000 then E.ρ x else E'.ρ x, fun x => if x < 10000 then E.rv x else E'.rv x, (E'.shut s.b).I, E'.w⟩
    (∀ v : AV, (∀ y, v.locs y → B''.liveAt y) → (∀ x, Rp (E'.shut s.b) v x → Rp F v x) ∧ (∀ l, ListC (E'.shut s.b) v l → ListC F v l)) ∧ Inv F B'' ∧ Post E B F B'' (· = d) := by
  intro F
  have hbl' := bl_okL hbl
  have hsh := E'.shut_le s.b
  have hFout : ∀ x, ¬ x < 10000 → F.ρ x = E'.ρ x ∧ F.rv x = E'.rv x := fun x hx => by simp [F, hx]
  have hFin : ∀ x, x < 10000 → F.ρ x = E.ρ x ∧ F.rv x = E.rv x := fun x hx => by simp [F, hx]
  have hle : (E'.shut s.b).Le F := ⟨fun _ _ h => h, fun _ _ _ => rfl⟩
  have hlout : ∀ x, B''.liveAt x → ¬ x < 10000 := by
    intro x hx hlt
    unfold BL.liveAt at hx
    rw [(outerF_get ho x).1 hlt] at hx
    simp [Blk.live] at hx
  have hk : ∀ x, ¬ x < 10000 → (B''.get x).isRow = (s.b.get x).isRow ∧ (B''.get x).live = (s.b.get x).live ∧ ∀ G : Env, (solid G x (B''.get x) ↔ solid G x (s.b.get x)) := by
    intro x hx
    have := (outerF_get ho x).2 hx
    cases hb : s.b.get x with
    | no => rw [hb] at this; rw [← Option.some.inj this]; exact ⟨rfl, rfl, fun _ => Iff.rfl⟩
    | row _ _ _ => rw [hb] at this; rw [← Option.some.inj this]; exact ⟨rfl, rfl, fun _ => Iff.rfl⟩
    | cells c =>
      rw [hb] at this
      unfold freezeK at this
      simp only at this
      split at this
      · rw [← Option.some.inj this]; exact ⟨rfl, rfl, fun _ => Iff.rfl⟩
      · cases this
  have hsol : ∀ x, solidAt F B'' x → ¬ x < 10000 ∧ solidAt E' s.b x := by
    intro x hx
    have hlt := hlout x (solid_live hx)
    refine ⟨hlt, ?_⟩
    unfold solidAt at hx ⊢
    exact (solid_same (hFout x hlt).2).1 (((hk x hlt).2.2 F).1 hx)
  have mono : ∀ v : AV, (∀ y, v.locs y → B''.liveAt y) → (∀ x, Rp (E'.shut s.b) v x → Rp F v x) ∧ (∀ l, ListC (E'.shut s.b) v l → ListC F v l) := fun v hv =>
    have := rp_mono hle v fun y hy => hFout y (hlout y (hv y hy))
    ⟨this.1, this.2.1⟩
  refine ⟨mono, ⟨fun x => ?_, fun x y hx hy hne => ?_, fun x hx => ?_, fun b o hi => ?_, hbl'⟩, ?_⟩
  · by_cases hlt : x < 10000
    · rw [(outerF_get ho x).1 hlt]; trivial
    · have hg := (outerF_get ho x).2 hlt
      have hb := h.inv.blk x
      cases hB : s.b.get x with
      | no => rw [hB] at hg; rw [← Option.some.inj hg]; trivial
      | row sz n g =>
        rw [hB] at hg hb
        have hg' : B''.get x = .row sz n g := (Option.some.inj hg).symm
        rw [hg']
        exact blk_mono (E := E') (E' := F) ⟨fun _ _ h => Or.inl h, fun _ _ _ => rfl⟩ hb (hFout x hlt).1 (hFout x hlt).2 (fun _ => rfl) (fun y hy => hy.elim)
      | cells c =>
        rw [hB] at hg hb
        unfold freezeK at hg
        simp only at hg
        split at hg
        · rename_i c' hc
          have hg' : B''.get x = .cells c' := (Option.some.inj hg).symm
          rw [hg']
          obtain ⟨l, e, h1, h2⟩ := hb
          exact ⟨l, e, by rw [(hFout x hlt).1]; exact h1, (mono c' fun y hy => hbl' x y (by rw [hg']; exact hy)).2 _ ((freeze_sound h.inv.blk c c' hc).2.1 _ h2)⟩
        · cases hg
  · obtain ⟨h1, h2⟩ := hsol x hx
    obtain ⟨h3, h4⟩ := hsol y hy
    rw [(hFout x h1).1, (hFout y h3).1]
    exact h.inv.dist x y h2 h4 hne
  · obtain ⟨h1, h2⟩ := hsol x hx
    rw [(hFout x h1).1]
    refine ⟨(h.inv.live x h2).1, fun o ho => ?_⟩
    rcases ho with ho | ⟨z, hz, hzl, he⟩
    · exact (h.inv.live x h2).2 o ho
    · exact h.inv.dist z x hzl h2 (fun q => h1 (q ▸ hz)) he
  · rcases hi with hi | ⟨z, hz, hzl, rfl⟩
    · exact h.inv.ibd b o hi
    · exact (h.inv.live z hzl).1
  · have hp := h.post
    refine ⟨⟨fun b o hi => .inl (hp.le.sub b o hi), fun b o hi => hp.le.cell b o hi⟩, fun x hx hr => ?_, fun x hx hr => ?_, hp.os, hp.tape, hp.output, hp.size, hp.old, fun x hx => ?_, fun x hx => ?_, fun x hx => ?_, fun b o hi => ?_⟩
    · by_cases hlt : x < 10000
      · exact hFin x hlt
      · rw [(hFout x hlt).1, (hFout x hlt).2]; exact hp.same x hlt hr
    · by_cases hlt : x < 10000
      · rw [(outerF_get ho x).1 hlt]; rfl
      · rw [(hk x hlt).1]; exact hp.kind x hlt hr
    · have hlt := hlout x hx
      have : s.b.liveAt x := by unfold BL.liveAt at hx ⊢; rw [← (hk x hlt).2.1]; exact hx
      exact (hp.dom x this).elim .inl fun q => (hlt q).elim
    · obtain ⟨h1, h2⟩ := hsol x hx
      rw [(hFout x h1).1]
      exact hp.new x h2
    · have hlt : ¬ x < 10000 := fun q => hB x q hx
      have := hp.keep x hx
      unfold BL.liveAt at this ⊢
      rw [(hk x hlt).2.1]; exact this
    · rcases hi with hi | ⟨z, hz, hzl, rfl⟩
      · exact hp.imm b o hi
      · rcases hp.new z hzl with ⟨h3, _⟩ | h3
        · exact (hB z hz (solid_live h3)).elim
        · exact .inr h3

theorem fin_sound {N : Nat} {E : Env} {B : BL} {E' : Env} {s : St} {a : Act} (hB : ∀ x, x < 10000 → ¬ B.liveAt x) (h : Rel N E B E' s a) {K : ARes → BL → Prop} {mk : AV → ARes} (hmk : ∀ v x, (mk v).locs x → v.locs x)
    {v : AV} (hf : fin K mk s (some v)) {x : Value} (hx : Rp E' v x) {e : Ending} (he : ∀ E'' v, Rp E'' v x → Ends E'' (mk v) e) {d : Nat} : OutOk E B d K e E'.w := by
  unfold fin at hf
  simp only at hf
  split at hf
  · rename_i v' B'' hfr ho
    split at hf
    · rename_i hok
      have hv' := (freeze_sound h.inv.blk v v' hfr).1 x hx
      unfold okOut at hok
      split at hok
      · rename_i hvl
        have hvl' := okL_spec v' hvl
        obtain ⟨h1, h2, h3⟩ := outer_end hB h ho hok d
        exact ⟨⟨fun x => if x < 10000 then E.ρ x else E'.ρ x, fun x => if x < 10000 then E.rv x else E'.rv x, (E'.shut s.b).I, E'.w⟩, mk v', B'', rfl, hf, he _ v' ((h1 v' hvl').1 x hv'), h2, h3, fun y hy => hvl' y (hmk v' y hy)⟩
      · cases hok
    · exact hf.elim
  · exact hf.elim

/-- A FUNCTION'S CONTRACT, of a function that defers nothing. -/
theorem call_of_awp {P : Th Program} {f : Nat} {fn : Func} {code : Code} {rc : RC} {rs : List RRes} {as : List AV} {d : Nat} {B : BL} {K : ARes → BL → Prop} (F : Nat)
    (hf : (P .o).funcs[f]? = some fn) (hb : fn.body = some code) (hc : callable (P .o) f = true) (hres : res (P .o) fn.ntmps code = some rc.erase) (hrs : rRess (P .o) fn.results.toList = some rs)
    (hn : as.length ≤ fn.ntmps) (hB : onlyOuter B = true) (h : awp ⟨P, fn.ntmps, exitX rs K⟩ F [.code rc] ⟨params 0 as, B, .nil⟩) : CallAt P f as d B K := by
  refine ⟨hc, fun E vs hinv hvs hloc hdead => calls_of_wp hf hb ?_⟩
  have hB' := onlyOuter_spec hB
  have hlen := chain_len as vs hvs
  have hrel : Rel fn.ntmps E B E ⟨params 0 as, B, .nil⟩ { tmps := vs.toArray ++ Array.replicate (fn.ntmps - vs.toArray.size) undef, defers := [] } := by
    refine ⟨fun k => ?_, hinv, fun k y hy => hloc y (params_locs as 0 k y hy), ?_, rfl, fun y hy => hy.elim, .refl _ _ _⟩
    · have := params_get (E := E) as 0 vs (List.replicate (fn.ntmps - vs.length) undef) hvs (fun u hu => (List.mem_replicate.1 hu).2) k
      rw [Nat.zero_add] at this
      rw [show (vs.toArray ++ Array.replicate (fn.ntmps - vs.toArray.size) undef).getD k undef = (vs ++ List.replicate (fn.ntmps - vs.length) undef).getD k undef from by
        rw [Array.getD_eq_getD_getElem?, List.getD_eq_getElem?_getD]
        congr 1
        rw [← Array.getElem?_toList]
        simp]
      exact this
    · simp [hlen]; omega
  have hw := (awp_sound F _ _ h).run E B hB' E _ hrel code hres
  refine wp_mono hw fun e a w hq => ?_
  have hret : ∀ {E' : Env} {s : St}, Rel fn.ntmps E B E' s a → E'.w = w → exitX rs K none s → a.defers = [] ∧ ∃ v, (results fn a.tmps).run (P .o) w = .ok v w ∧ OutOk E B d K (.returned v) w := by
    rintro E' s hr rfl hX
    unfold exitX at hX
    simp only at hX
    split at hX
    · rename_i hdf
      have hd := hr.df
      rw [hdf] at hd
      refine ⟨hd, ?_⟩
      cases hv : retv s rs with
      | none => rw [hv] at hX; exact hX.elim
      | some v =>
        rw [hv] at hX
        obtain ⟨z, h1, h2⟩ := results_run hr.si hrs hv
        exact ⟨z, h1, fin_sound (mk := .ret) (e := .returned z) hB' hr (fun _ _ h => h) hX h2 fun E'' v' h' => h'⟩
    · exact hX.elim
  cases e with
  | normal => obtain ⟨E', s, hr, he, hX⟩ := hq; exact hret hr he hX
  | ret => obtain ⟨E', s, hr, he, hX⟩ := hq; exact hret hr he hX
  | panic ch =>
    obtain ⟨E', s, v, x, hr, rfl, rfl, hv, hl, hX⟩ := hq
    unfold exitX at hX
    simp only at hX
    split at hX
    · rename_i hdf
      have hd' := hr.df
      rw [hdf] at hd'
      exact ⟨hd', fin_sound (mk := .pan) (e := .panicked [{ v := x, recovered := false }]) hB' hr (fun _ _ h => h) hX hv fun E'' v' h' => ⟨x, rfl, h'⟩⟩
    · exact hX.elim
  | _ => exact hq.elim

end Go.Proofs.YtiaenejafpbfkaaDoor.Sx

/- A symbolic executor for the model's code: deferred functions that recover. -/
import Derived.Test.YtiaenejafpbfkaaDoorSxn
namespace Go.Proofs.YtiaenejafpbfkaaDoor.Sx
open Go
set_option linter.unusedSimpArgs false
set_option linter.unusedVariables false

def modeIn (panics : Bool) (x : Value) : FrameMode := match panics with | true => .panicking [{ v := x, recovered := false }] | false => .returning
def modeOut (panics : Bool) (x : Value) : FrameMode := match panics with | true => .panicking [{ v := x, recovered := true }] | false => .returning
/-- A deferred call, made while nothing (nif) or a panic with a value goes on; with a panic it recovers it. The first of its values is the panic's. -/
def doD (P : Th Program) (f : Nat) (panics : Bool) : Does := fun vs w R => match vs with
  | [] => False
  | x :: vs => CallsD (P .o) f vs.toArray (modeIn panics x) w fun e u' w' =>
      u' = (modeOut panics x) ∧ R e w'
theorem doD_mono (P : Th Program) (f : Nat) (p : Bool) : (doD P f p).Mono := by
  intro vs w R R' hr h
  unfold doD at h ⊢
  split at h
  · exact h.elim
  · exact h.mono fun e u' w' ⟨h1, h2⟩ => ⟨h1, hr _ _ h2⟩

/-- A contract of a deferred function. -/
structure DefAt (P : Th Program) (f : Nat) (panics : Bool) (as : List AV) (B : BL) (K : BL → Prop) : Prop where
  can : callable (P .o) f = true
  run : RunAt (doD P f panics) as 9998 B fun r B' => match r with | .ret _ => K B' | .pan _ => False

theorem DefAt.use {P : Th Program} {f : Nat} {p : Bool} {as : List AV} {B : BL} {K : BL → Prop} (ps : List (Nat × Nat)) (as0 : List AV) (hok : okPs B ps 9998 = true) (has : rens (swap ps) as = as0)
    (h : DefAt P f p as0 (calleeB ps B) fun B' => K (backB ps 9998 B')) : DefAt P f p as B K := by
  refine ⟨h.can, run_use (doD_mono P f p) hok has ?_⟩
  intro E vs h1 h2 h3 h4
  refine doD_mono P f p _ _ _ _ ?_ (h.run E vs h1 h2 h3 h4)
  rintro e w' ⟨E', r, B', a, hK, hend, c⟩
  cases r with
  | ret v => exact ⟨E', .ret v, B', a, hK, hend, c⟩
  | pan v => exact hK.elim

/-- How a deferred function ends, for its own walk. -/
def exitC (K : BL → Prop) : Option AV → St → Prop
  | none, s => match s.df with
    | .nil => match outerF s.b s.b with
      | some B => match BL.okL B B with | true => K B | false => False
      | none => False
    | _ => False
  | some _, _ => False

/-- The contract of a deferred function whose first region asks for the panic ('r := recover()'). -/
theorem def_of_awp {P : Th Program} {f : Nat} {fn : Func} {id t5 t1 : Nat} {ty1 ty2 : TypeId} {p1 p2 : String} {e1 e2 : Array Edge} {rest : Code} {rc : RC} {pv : AV} {as : List AV} {B : BL} {K : BL → Prop} {panics : Bool} (F : Nat)
    (hf : (P .o).funcs[f]? = some fn) (hb : fn.body = some (.seq (.region id #[⟨some t5, .call { callee := .builtin .recover, args := #[], argTypes := #[] }, ty1, p1, e1, none⟩, ⟨some t1, .assign (.tmp t5), ty2, p2, e2, none⟩] false) rest))
    (hc : callable (P .o) f = true) (hres : res (P .o) fn.ntmps rest = some rc.erase) (hrs : fn.results = #[])
    (hn : as.length ≤ fn.ntmps) (h5 : t5 < fn.ntmps) (h1 : t1 < fn.ntmps) (hB : onlyOuter B = true) (hpv : panics = false → pv = .nif)
    (h : awp ⟨P, fn.ntmps, exitC K⟩ F [.code rc] ⟨.cons t1 pv (.cons t5 pv (params 0 as)), B, .nil⟩) : DefAt P f panics (pv :: as) B K := by
  refine ⟨hc, fun E vs hinv hvs hloc hdead => ?_⟩
  obtain ⟨x, vs, rfl, hx, hvs⟩ := listC_cons.1 hvs
  have hB' := onlyOuter_spec hB
  have hlen := chain_len as vs hvs
  have hx0 : panics = false → x = .nilIface := fun hp => by rw [hpv hp] at hx; exact hx
  have hrel0 : Rel fn.ntmps E B E ⟨params 0 as, B, .nil⟩ { tmps := vs.toArray ++ Array.replicate (fn.ntmps - vs.toArray.size) undef, defers := [] } := by
    refine ⟨fun k => ?_, hinv, fun k y hy => hloc y (.inr (params_locs as 0 k y hy)), ?_, rfl, fun y hy => hy.elim, .refl _ _ _⟩
    · have := params_get (E := E) as 0 vs (List.replicate (fn.ntmps - vs.length) undef) hvs (fun u hu => (List.mem_replicate.1 hu).2) k
      rw [Nat.zero_add] at this
      rw [show (vs.toArray ++ Array.replicate (fn.ntmps - vs.toArray.size) undef).getD k undef = (vs ++ List.replicate (fn.ntmps - vs.length) undef).getD k undef from by
        rw [Array.getD_eq_getD_getElem?, List.getD_eq_getElem?_getD]
        congr 1
        rw [← Array.getElem?_toList]
        simp]
      exact this
    · simp [hlen]; omega
  have hpl : ∀ y, pv.locs y → B.liveAt y := fun y hy => hloc y (.inl hy)
  have hrel := (hrel0.value hB' (dst := some t5) (v := pv) (x := x) (fun d hd => by cases hd; exact h5) hx hpl).value hB' (dst := some t1) (v := pv) (x := x) (fun d hd => by cases hd; exact h1) hx hpl
  have hw := (awp_sound F _ _ h).run E B hB' E _ hrel rest hres
  show CallsD (P .o) f vs.toArray _ E.w _
  refine callsD_of_wpS hf hb fun c₀ cs hmode => wpS_seq (wpS_region ?_)
  simp only [List.range, List.range.loop, List.size_toArray, List.length_cons, List.length_nil, Nat.zero_add, Nat.reduceAdd]
  -- the first operation: recover
  have hsz : (vs.toArray ++ Array.replicate (fn.ntmps - vs.toArray.size) undef).size = fn.ntmps := hrel0.sz
  generalize (vs.toArray ++ Array.replicate (fn.ntmps - vs.toArray.size) undef) = T at hrel0 hrel hw hsz ⊢
  have hput1 : ∀ (tmps : Array Value), tmps.size = fn.ntmps → (Act.eval (Act.put { tmps := tmps, defers := [] } (some t5) x)) (.tmp t5) = x := by
    intro tmps hs
    show (tmps.setIfInBounds t5 x).getD t5 undef = x
    rw [getD_set _ _ _ _ _ (by rw [hs]; exact h5), if_pos rfl]
  have fin : ∀ (u' : FrameMode) (cs' : List Frame), u' = (modeOut panics x) → cs' = { c₀ with mode := u' } :: cs →
      rest.wpS (P .o) (bodyPostS (P .o) fn c₀ cs fun e u' w' => u' = (modeOut panics x) ∧ OutOk E B 9998 (fun r B' => match r with | .ret _ => K B' | .pan _ => False) e w')
        ((Act.put (Act.put { tmps := T, defers := [] } (some t5) x) (some t1) x)) cs' E.w := by
    intro u' cs' hu hcs
    refine wpS_of_wp (wp_mono hw fun e a w hq => ?_)
    have hret : ∀ {E' : Env} {s : St}, Rel fn.ntmps E B E' s a → E'.w = w → exitC K none s → a.defers = [] ∧ ∃ u', cs' = { c₀ with mode := u' } :: cs ∧ ∃ v, (results fn a.tmps).run (P .o) w = .ok v w ∧
        (u' = (modeOut panics x) ∧ OutOk E B 9998 (fun r B' => match r with | .ret _ => K B' | .pan _ => False) (.returned v) w) := by
      rintro E' s hr rfl hX
      unfold exitC at hX
      simp only at hX
      split at hX
      · rename_i hdf
        have hd := hr.df
        rw [hdf] at hd
        refine ⟨hd, u', hcs, .tuple #[], results_none hrs _ _ _, hu, ?_⟩
        refine fin_sound (mk := .ret) (e := .returned (.tuple #[])) (v := .tup .nil) hB' hr (fun _ _ h => h) (K := fun r B' => match r with | .ret _ => K B' | .pan _ => False) ?_ (rp_tup.2 ⟨[], rfl, listC_nil.2 rfl⟩) fun E'' v' h' => h'
        unfold fin
        simp only [freeze, okOut, AV.okL]
        split at hX
        · rename_i B'' ho
          rw [ho]; exact hX
        · exact hX.elim
      · exact hX.elim
    cases e with
    | normal => obtain ⟨E', s, hr, he, hX⟩ := hq; exact hret hr he hX
    | ret => obtain ⟨E', s, hr, he, hX⟩ := hq; exact hret hr he hX
    | panic ch => obtain ⟨E', s, v, x, hr, rfl, rfl, hv, hl, hX⟩ := hq; exact hX.elim
    | _ => exact hq.elim
  have second : ∀ cs' a, a = Act.put { tmps := T, defers := [] } (some t5) x → (∃ u', u' = (modeOut panics x) ∧ cs' = { c₀ with mode := u' } :: cs) →
      wpOpsS (P .o) #[⟨some t5, .call { callee := .builtin .recover, args := #[], argTypes := #[] }, ty1, p1, e1, none⟩, ⟨some t1, .assign (.tmp t5), ty2, p2, e2, none⟩]
        (Exit.thenS (rest.wpS (P .o) (bodyPostS (P .o) fn c₀ cs fun e u' w' => u' = (modeOut panics x) ∧ OutOk E B 9998 (fun r B' => match r with | .ret _ => K B' | .pan _ => False) e w')) (bodyPostS (P .o) fn c₀ cs fun e u' w' => u' = (modeOut panics x) ∧ OutOk E B 9998 (fun r B' => match r with | .ret _ => K B' | .pan _ => False) e w')) [1] a cs' E.w := by
    rintro cs' a rfl ⟨u', hu, hcs⟩
    have he := hput1 _ hsz
    have hrun : (execOp (Act.eval (Act.put { tmps := T, defers := [] } (some t5) x)) ⟨some t1, .assign (.tmp t5), ty2, p2, e2, none⟩).run (P .o) E.w = .ok (.value x) E.w := by
      unfold execOp
      simp only [he]
      rfl
    simp only [wpOpsS, List.getElem?_toArray, List.getElem?_cons_succ, List.getElem?_cons_zero, Region.wanted, if_true]
    rw [hrun]
    exact fin u' cs' hu hcs
  have hrec : (execOp (Act.eval { tmps := T, defers := [] }) ⟨some t5, .call { callee := .builtin .recover, args := #[], argTypes := #[] }, ty1, p1, e1, none⟩).run (P .o) E.w = .ok .recover E.w := by
    unfold execOp
    simp [resolve, invoke, builtin]
  unfold wpOpsS
  simp only [List.getElem?_toArray, List.getElem?_cons_zero, Region.wanted, if_true]
  rw [hrec]
  have hmode' : c₀.mode = modeIn panics x := hmode
  cases panics with
  | true =>
    have : recoverD (c₀ :: cs) = some (x, { c₀ with mode := .panicking [{ v := x, recovered := true }] } :: cs) := by
      simp [recoverD, hmode', modeIn]
    simp only [this]
    exact second _ _ rfl ⟨_, rfl, rfl⟩
  | false =>
    have : recoverD (c₀ :: cs) = none := by simp [recoverD, hmode', modeIn]
    simp only [this]
    have h0 := hx0 rfl
    subst h0
    refine second _ _ rfl ⟨.returning, rfl, ?_⟩
    have : c₀ = { c₀ with mode := .returning } := by
      have hm : c₀.mode = .returning := hmode'
      cases c₀; simp at hm; subst hm; rfl
    rw [← this]

/-- How a function ends that may have deferred one call. -/
def exitD2 (P : Th Program) (rs : List RRes) (K : ARes → BL → Prop) (b : Bool) (pv : AV) (s : St) (g : Nat) (as : List AV) (cs : List Nat) : Prop :=
  match (chain (pv :: as)).among cs, closed s.b cs cs with
  | true, true => DefAt P g b (pv :: as) (s.b.pick cs .nil) fun B' => fin K .ret ⟨(s.after 9998 cs B').t, (s.after 9998 cs B').b, .nil⟩ (retv ⟨(s.after 9998 cs B').t, (s.after 9998 cs B').b, .nil⟩ rs)
  | _, _ => False
def exitD1 (P : Th Program) (rs : List RRes) (K : ARes → BL → Prop) (b : Bool) (pv : AV) (s : St) (g : Nat) (as : List AV) : Prop :=
  exitD2 P rs K b pv s g as (reach s.b 100 ((chain (pv :: as)).ids []) [])
def exitD (P : Th Program) (rs : List RRes) (K : ARes → BL → Prop) (p : Option AV) (s : St) : Prop :=
  match s.df with
  | .nil => exitX rs K p s
  | .cons (.fn (.func g) first caps) .nil => match fresh s 9998 with
    | true => match p with
      | none => exitD1 P rs K false .nif s g (unchain first ++ unchain caps)
      | some v => exitD1 P rs K true v s g (unchain first ++ unchain caps)
    | false => False
  | _ => False

theorem leaves_of {P : Th Program} {N : Nat} {fn : Func} {E : Env} {B : BL} {E' : Env} {s : St} {a : Act} {d : Nat} (hB : ∀ x, x < 10000 → ¬ B.liveAt x) (h : Rel N E B E' s a) {rs : List RRes} {K : ARes → BL → Prop} (hrs : rRess (P .o) fn.results.toList = some rs)
    {g : Nat} {first caps pv : AV} (hdf : s.df = .cons (.fn (.func g) first caps) .nil) (hfr : fresh s 9998 = true) {panics : Bool} {x : Value} (hx : Rp E' pv x) (hpl : ∀ y, pv.locs y → s.b.liveAt y) {cs : List Nat}
    (hD : exitD2 P rs K panics pv s g (unchain first ++ unchain caps) cs) :
    Leaves (P .o) fn a.tmps (OutOk E B d K) a.defers (modeIn panics x) E'.w := by
  unfold exitD2 at hD
  split at hD
  rotate_left
  · exact hD.elim
  rename_i ham hcl
  have hd := h.df
  rw [hdf] at hd
  obtain ⟨m, l, t, h1, h2, h3, h4⟩ := hd
  have ht : t = [] := h4
  subst ht
  rw [h1]
  obtain ⟨h5, h6⟩ := unchain_sound h3
  obtain ⟨h7, h8⟩ := unchain_sound h2
  obtain ⟨hdead, hlt⟩ := fresh_spec hfr
  have hall : ListC E' (chain (pv :: (unchain first ++ unchain caps))) (x :: (l ++ m)) := listC_cons.2 ⟨x, _, rfl, hx, by rw [chain_app]; exact listC_app h5 h7⟩
  have hplive : ∀ y ∈ cs, (s.b.pick cs .nil).liveAt y := fun y hy => by
    unfold BL.liveAt
    rw [pick_get, if_pos hy]
    exact (closed_spec hcl y hy).1
  refine leaves_cons (f := g) (args := (l ++ m).toArray) (by cases panics <;> simp [modeIn]) ?_ ?_
  · unfold invoke
    simp only
    rw [run_callFunc hD.can]
    congr 2
    apply Array.ext'
    simp
  · have hrun := hD.run E' (x :: (l ++ m)) (h.inv.pick hcl) hall (fun y hy => hplive y (among_locs _ ham y hy)) (fun hy => ?_)
    · refine CallsD.mono hrun ?_
      rintro e u' w' ⟨hu, E'', r, B', rfl, hK, hend, hinv, hpost, _⟩
      cases r with
      | pan v => exact hK.elim
      | ret v =>
        cases e with
        | returned z =>
          have hset : settle u' = .returning := by subst hu; cases panics <;> simp [settle, modeOut]
          simp only [hset]
          have hr := (Rel.after (C := ⟨P, N, fun _ _ => True⟩) h hcl hdead hlt hinv hpost).1
          have hr' : Rel N E B E'' ⟨(s.after 9998 cs B').t, (s.after 9998 cs B').b, .nil⟩ { a with defers := [] } := ⟨hr.tmps, hr.inv, hr.tn, hr.sz, rfl, fun y hy => hy.elim, hr.post⟩
          cases hv : retv ⟨(s.after 9998 cs B').t, (s.after 9998 cs B').b, .nil⟩ rs with
          | none => rw [hv] at hK; exact hK.elim
          | some v =>
            rw [hv] at hK
            obtain ⟨z, h9, h10⟩ := results_run hr'.si hrs hv
            exact ⟨z, h9, fin_sound (mk := .ret) (e := .returned z) hB hr' (fun _ _ h => h) hK h10 fun E'' v' h' => h'⟩
        | _ => exact hend.elim
    · unfold BL.liveAt at hy
      rw [pick_get] at hy
      split at hy
      · rename_i hc; exact hdead (closed_spec hcl _ hc).1
      · simp [BL.get, Blk.live] at hy

/-- A FUNCTION'S CONTRACT, of a function that may defer one call. -/
theorem call_of_awp_d {P : Th Program} {f : Nat} {fn : Func} {code : Code} {rc : RC} {rs : List RRes} {as : List AV} {d : Nat} {B : BL} {K : ARes → BL → Prop} (F : Nat)
    (hf : (P .o).funcs[f]? = some fn) (hb : fn.body = some code) (hc : callable (P .o) f = true) (hres : res (P .o) fn.ntmps code = some rc.erase) (hrs : rRess (P .o) fn.results.toList = some rs)
    (hn : as.length ≤ fn.ntmps) (hB : onlyOuter B = true) (h : awp ⟨P, fn.ntmps, exitD P rs K⟩ F [.code rc] ⟨params 0 as, B, .nil⟩) : CallAt P f as d B K := by
  refine ⟨hc, fun E vs hinv hvs hloc hdead => calls_of_wp_defers hf hb ?_⟩
  have hB' := onlyOuter_spec hB
  have hlen := chain_len as vs hvs
  have hrel : Rel fn.ntmps E B E ⟨params 0 as, B, .nil⟩ { tmps := vs.toArray ++ Array.replicate (fn.ntmps - vs.toArray.size) undef, defers := [] } := by
    refine ⟨fun k => ?_, hinv, fun k y hy => hloc y (params_locs as 0 k y hy), ?_, rfl, fun y hy => hy.elim, .refl _ _ _⟩
    · have := params_get (E := E) as 0 vs (List.replicate (fn.ntmps - vs.length) undef) hvs (fun u hu => (List.mem_replicate.1 hu).2) k
      rw [Nat.zero_add] at this
      rw [show (vs.toArray ++ Array.replicate (fn.ntmps - vs.toArray.size) undef).getD k undef = (vs ++ List.replicate (fn.ntmps - vs.length) undef).getD k undef from by
        rw [Array.getD_eq_getD_getElem?, List.getD_eq_getElem?_getD]
        congr 1
        rw [← Array.getElem?_toList]
        simp]
      exact this
    · simp [hlen]; omega
  have hw := (awp_sound F _ _ h).run E B hB' E _ hrel code hres
  refine wp_mono hw fun e a w hq => ?_
  have hret : ∀ {E' : Env} {s : St}, Rel fn.ntmps E B E' s a → E'.w = w → exitD P rs K none s → Leaves (P .o) fn a.tmps (OutOk E B d K) a.defers .returning w := by
    rintro E' s hr rfl hX
    unfold exitD at hX
    split at hX
    · rename_i hdf
      unfold exitX at hX
      simp only [hdf] at hX
      have hd := hr.df
      rw [hdf] at hd
      have hd' : a.defers = [] := hd
      rw [hd']
      cases hv : retv s rs with
      | none => rw [hv] at hX; exact hX.elim
      | some v =>
        rw [hv] at hX
        obtain ⟨z, h1, h2⟩ := results_run hr.si hrs hv
        exact ⟨z, h1, fin_sound (mk := .ret) (e := .returned z) hB' hr (fun _ _ h => h) hX h2 fun E'' v' h' => h'⟩
    · rename_i g first caps hdf
      split at hX
      · rename_i hfr
        exact leaves_of (panics := false) (x := .nilIface) hB' hr hrs hdf hfr (pv := .nif) (by simp [Rp]) (fun y hy => hy.elim) hX
      · exact hX.elim
    · exact hX.elim
  cases e with
  | normal => obtain ⟨E', s, hr, he, hX⟩ := hq; exact hret hr he hX
  | ret => obtain ⟨E', s, hr, he, hX⟩ := hq; exact hret hr he hX
  | panic ch =>
    obtain ⟨E', s, v, x, hr, rfl, rfl, hv, hl, hX⟩ := hq
    show Leaves (P .o) fn a.tmps (OutOk E B d K) a.defers (.panicking [{ v := x, recovered := false }]) E'.w
    have hX : exitD P rs K (some v) s := hX
    unfold exitD at hX
    split at hX
    · rename_i hdf
      unfold exitX at hX
      simp only [hdf] at hX
      have hd := hr.df
      rw [hdf] at hd
      have hd' : a.defers = [] := hd
      rw [hd']
      exact fin_sound (mk := .pan) (e := .panicked [{ v := x, recovered := false }]) hB' hr (fun _ _ h => h) hX hv fun E'' v' h' => ⟨x, rfl, h'⟩
    · rename_i g first caps hdf
      split at hX
      · rename_i hfr
        exact leaves_of (panics := true) (x := x) hB' hr hrs hdf hfr hv hl hX
      · exact hX.elim
    · exact hX.elim
  | _ => exact hq.elim

end Go.Proofs.YtiaenejafpbfkaaDoor.Sx

/- Texts laid together: Sxw, Sxk, Sxl, Sxm, Sxn, Sxo, Sxp, Sxz, Sxy, Sxx. -/
import Derived.Recover
import Derived.Below
import Derived.Test.YtkklflpfklbbcaaDoorHd2
/- A symbolic executor for the model's code: regions whose order of evaluation is left open: the rule. -/
namespace Go.Proofs.YtkklflpfklbbcaaDoor.Sx
open Go
set_option linter.unusedSimpArgs false
set_option linter.unusedVariables false
section
variable {C : Cx} {E0 : Env} {B0 : BL} {ops : Array Oper} {L : List (Nat × DOp)} {K : St → Prop}
/-- What an operation looks at has come. -/
theorem looked (hL : Good (C.P .o) C.N ops L) {pre post : List (Nat × DOp)} {pd : List Pd} {l : Array Bool} (hst : Stand (ops := ops) L pre post pd l) {x : Nat × DOp} (hx : x ∈ L) (hr : ∀ j ∈ aft ops x.1, Ls l j) (hself : ∀ w ∈ pd, w.i = x.1 → ∀ k, w.o.dst = some k → uses x.2.o k = true → False)
    {w : Pd} (hw : w ∈ pd) {k : Nat} (hk : w.o.dst = some k) : uses x.2.o k = false := by
  cases hu : uses x.2.o k with
  | false => rfl
  | true =>
    obtain ⟨⟨p, h1, h2, h3, h4⟩, h5⟩ := hst.late w hw
    by_cases he : w.i = x.1
    · exact (hself w hw he k hk hu).elim
    · have := hL.dep x hx p (by rw [hst.spl]; simp [h1]) h4 (by rw [h2]; exact he) k (by rw [h3]; exact hk) hu
      rw [h2] at this
      exact (h5 (must_ls hst.cl this hr)).elim
/-- The machine carries out one that is late. -/
theorem late1 (hL : Good (C.P .o) C.N ops L) (hB0 : ∀ x, x < 10000 → ¬ B0.liveAt x) {pre post : List (Nat × DOp)} {pd : List Pd} {l : Array Bool} (hst : Stand (ops := ops) L pre post pd l) {s r : St} (hS : Sim pd s r) {E : Env} {a : Act} (hR : Rel C.N E0 B0 E r a)
    {u : Pd} (hu : u ∈ pd) (hr : ∀ j ∈ aft ops u.i, Ls l j) {next : Act → World → Prop} {Qc : Exit → Act → World → Prop} (hn : ∀ E' r' a', Rel C.N E0 B0 E' r' a' → Sim (pd.filter fun w => !(w.i == u.i)) s r' → next a' E'.w) : wpOp (C.P .o) ops Qc u.i next a E.w := by
  obtain ⟨⟨x, hxp, hxi, hxo, hxf⟩, hnl⟩ := hst.late u hu
  have hx : x ∈ L := by rw [hst.spl]; simp [hxp]
  obtain ⟨oo, hoo, hro, hfl⟩ := hL.res x hx
  have hself : ∀ w ∈ pd, w.i = x.1 → ∀ k, w.o.dst = some k → uses x.2.o k = true → False := by
    intro w hw he k hk hq
    have := hst.uniq w hw u hu (he.trans hxi)
    subst this
    exact hL.self x hx hxf k (by rw [hxo]; exact hk) hq
  have hlk : ∀ k, uses u.o k = true → r.t.get k = s.t.get k := by
    intro k hk
    refine hS.t k fun w hw e => ?_
    have := looked hL hst hx (by rw [hxi]; exact hr) hself hw e
    rw [hxo, hk] at this
    cases this
  have hev := evs_same (op := u.o.op) fun k hk => hlk k (by simp [uses, hk])
  have hwt : wants r u.o.guard = wants s u.o.guard := wants_same fun k hk => hlk k (by simp [uses, hk])
  have hmem : ∀ {w}, w ∈ (pd.filter fun w => !(w.i == u.i)) ↔ w ∈ pd ∧ w.i ≠ u.i := by
    intro w; rw [List.mem_filter]; simp
  -- what is not late any more
  have hsim : ∀ r', (∀ k, u.o.dst ≠ some k → r'.t.get k = r.t.get k) → (∀ d, u.o.dst = some d → r'.t.get d = s.t.get d) → (∀ y, (u.nw = true → u.o.dst ≠ some y) → r'.b.get y = r.b.get y) → (u.nw = true → ∀ d, u.o.dst = some d → r'.b.get d = s.b.get d) → r'.df = r.df →
      Sim (pd.filter fun w => !(w.i == u.i)) s r' := by
    intro r' h1 h2 h3 h4 h5
    have hdist : ∀ w ∈ pd, w.i ≠ u.i → ∀ d, u.o.dst = some d → w.o.dst ≠ some d := by
      intro w hw hne d hd e
      obtain ⟨⟨y, hyp, hyi, hyo, hyf⟩, _⟩ := hst.late w hw
      have hy : y ∈ L := by rw [hst.spl]; simp [hyp]
      have apd : ∀ {a b : Nat × DOp}, a ∈ L → b ∈ L → a.2.fl = true → b.2.fl = true → a.1 ≠ b.1 → (∃ p q, L = p ++ b :: q ∧ a ∈ p) → ∀ d, a.2.o.dst = some d → b.2.o.dst = some d → False := by
        intro a b ha hb hfa hfb hab ⟨p, q, he, hap⟩ d hda hdb
        have := (hL.apF p b q he hfb a hap hfa).1 d hdb
        simp [touches, hda] at this
      obtain ⟨p, q, he⟩ := List.append_of_mem hx
      have hy' := hy
      rw [he] at hy'
      have hne' : y.1 ≠ x.1 := by rw [hyi, hxi]; exact hne
      rcases List.mem_append.1 hy' with h | h
      · exact apd hy hx hyf hxf hne' ⟨p, q, he, h⟩ d (by rw [hyo]; exact e) (by rw [hxo]; exact hd)
      · rcases List.mem_cons.1 h with h | h
        · exact hne' (by rw [h])
        · obtain ⟨p2, q2, he2⟩ := List.append_of_mem h
          exact apd hx hy hxf hyf (Ne.symm hne') ⟨p ++ x :: p2, q2, by rw [he, he2]; simp, by simp⟩ d (by rw [hxo]; exact hd) (by rw [hyo]; exact e)
    refine ⟨fun k hk => ?_, fun y hy => ?_, fun w hw hnw y hy => ?_, h5.trans hS.df, fun w hw => hS.ok w (hmem.1 hw).1⟩
    · by_cases hd : u.o.dst = some k
      · exact h2 k hd
      · rw [h1 k hd]
        refine hS.t k fun w hw e => ?_
        by_cases hwi : w.i = u.i
        · have := hst.uniq w hw u hu hwi; subst this; exact hd e
        · exact hk w (hmem.2 ⟨hw, hwi⟩) e
    · by_cases hd : u.nw = true ∧ u.o.dst = some y
      · exact h4 hd.1 y hd.2
      · rw [h3 y fun q e => hd ⟨q, e⟩]
        refine hS.b y fun w hw hnw e => ?_
        by_cases hwi : w.i = u.i
        · have := hst.uniq w hw u hu hwi; subst this; exact hd ⟨hnw, e⟩
        · exact hy w (hmem.2 ⟨hw, hwi⟩) hnw e
    · obtain ⟨hw, hne⟩ := hmem.1 hw
      rw [h3 y fun _ e => hdist w hw hne y e hy]
      exact hS.no w hw hnw y hy
  have hok := hS.ok u hu
  have hro' : rOper (C.P .o) C.N ops oo = some u.o.eraseP := by rw [← hxo]; exact hro
  rw [← hxi]
  unfold PdOk at hok
  split at hok
  · rename_i hnw
    obtain ⟨w, n, cn, d, v, b, h1, h2, h3, h4, h5⟩ := hok
    have hno := hS.no u hu hnw d h1
    refine exec1 (C := ⟨C.P, C.N, fun _ _ => False⟩) (K := fun r' => r' = r.new d v b) hR hB0 hoo hro' (w := true) (hwt.trans w) (fun _ => ?_) (fun q => by cases q) ⟨fun E' s' a' hR' hK' => ?_, fun E' s' v x hR' _ _ hX => ?_⟩
    · rw [h1]
      refine aop_new_mk ?_ ((anew_congr hev).trans h2) (by rw [acond_congr hev]; exact cn) rfl
      unfold fresh
      rw [hno]
      simp [Blk.live, ltB, h5]
    · subst hK'
      refine hn E' _ a' hR' (hsim _ (fun k hk => ?_) (fun d' hd' => ?_) (fun y hy => ?_) (fun _ d' hd' => ?_) rfl)
      · rw [new_get, if_neg (fun e => hk (by rw [h1, e]))]
      · have : d = d' := by rw [h1] at hd'; exact Option.some.inj hd'
        subst this; rw [new_get, if_pos rfl, h3]
      · rw [new_b, if_neg (fun e => hy hnw (by rw [h1, e]))]
      · have : d = d' := by rw [h1] at hd'; exact Option.some.inj hd'
        subst this; rw [new_b, if_pos rfl, h4]
    · exact hX.elim
  · rename_i hnw
    cases hok with
    | no w e =>
      refine exec1 (C := ⟨C.P, C.N, fun _ _ => False⟩) (K := fun r' => r' = r.setO u.o.dst (.tup .nil)) hR hB0 hoo hro' (w := false) (hwt.trans w) (fun q => by cases q) (fun _ => rfl) ⟨fun E' s' a' hR' hK' => ?_, fun E' s' v x hR' _ _ hX => hX.elim⟩
      subst hK'
      refine hn E' _ a' hR' (hsim _ (fun k hk => ?_) (fun d' hd' => ?_) (fun y hy => ?_) (fun q => ?_) ?_)
      · rw [setO_get, if_neg hk]
      · rw [setO_get, if_pos hd', e d' hd']
      · rw [setO_b]
      · rw [hnw] at q; cases q
      · rw [setO_df]
    | yes w q v g e =>
      have hq : qev r u.o.op = qev s u.o.op := by
        refine qev_congr hev fun y hy => hS.b y fun z hz hzn e => ?_
        have hno := hS.no z hz hzn y e
        unfold rdp at hy
        split at hy
        · rename_i o ho
          obtain ⟨k, rfl⟩ := floats_rd (hfl.symm.trans hxf) (by rw [hxo]; exact (eraseP_rd _).trans ho)
          have hk : usesO u.o.op k = true := by
            simp only [usesO, List.any_eq_true]
            refine ⟨.tmp k, ?_, by simp⟩
            cases hop : u.o.op <;> rw [hop] at ho <;> simp only [RO.rd, reduceCtorEq, Option.some.injEq] at ho <;> subst ho <;> simp [RO.opds]
          have hy : place (s.t.get k) = some y := hy
          rw [← hlk k (by simp [uses, hk])] at hy
          have hlive := hR.tn k y (by unfold place at hy; split at hy <;> first | (cases hy; rename_i he; rw [he]; rfl) | cases hy)
          simp [BL.liveAt, hno, Blk.live] at hlive
        · cases hy
      refine exec1 (C := ⟨C.P, C.N, fun _ _ => False⟩) (K := fun r' => r' = r.setO u.o.dst v) hR hB0 hoo hro' (w := true) (hwt.trans w) (fun _ => aop_quiet_mk q (hq ▸ g) rfl) (fun q => by cases q) ⟨fun E' s' a' hR' hK' => ?_, fun E' s' v x hR' _ _ hX => hX.elim⟩
      subst hK'
      have hsimv : (∀ d, u.o.dst = some d → s.t.get d = v) → next a' E'.w := by
        intro hv
        refine hn E' _ a' hR' (hsim _ (fun k hk => ?_) (fun d' hd' => ?_) (fun y hy => ?_) (fun q => ?_) ?_)
        · rw [setO_get, if_neg hk]
        · rw [setO_get, if_pos hd', hv d' hd']
        · rw [setO_b]
        · rw [hnw] at q; cases q
        · rw [setO_df]
      cases hd : u.o.dst with
      | none => exact hsimv fun d hd' => by rw [hd] at hd'; cases hd'
      | some d =>
        rcases e d hd with h1 | ⟨b, h1, h2⟩
        · exact hsimv fun d' hd' => by rw [hd] at hd'; cases hd'; exact h1
        · have hR'' : Rel C.N E0 B0 E' ((r.setO u.o.dst v).set d (tv (b .o))) a' := by
            refine hR'.retell ?_ (tv_locs _)
            have := hR'.tmps d
            rw [setO_get, if_pos hd, h1] at this
            have this : a'.tmps.getD d undef = .bool (b .o) := this
            rw [this]
            exact tv_rp E' _
          refine hn E' _ a' hR'' (hsim _ (fun k hk => ?_) (fun d' hd' => ?_) (fun y hy => ?_) (fun q => ?_) ?_)
          · rw [set_get, if_neg (fun e => hk (by rw [hd, e])), setO_get, if_neg hk]
          · have : d = d' := by rw [hd] at hd'; exact Option.some.inj hd'
            subst this; rw [set_get, if_pos rfl, h2]
          · show (r.setO _ _).b.get y = _
            rw [setO_b]
          · rw [hnw] at q; cases q
          · show (r.setO _ _).df = _
            rw [setO_df]
/-- The walk goes on, past some that may float. -/
theorem walks (hL : Good (C.P .o) C.N ops L) {post : List (Nat × DOp)} {l : Array Bool} : ∀ (mid : List (Nat × DOp)) {pre : List (Nat × DOp)} {pd : List Pd}, (∀ p ∈ mid, p.2.fl = true) → Stand (ops := ops) L pre (mid ++ post) pd l → ∀ {s r : St}, Sim pd s r →
    ∀ {E : Env} {a : Act}, Rel C.N E0 B0 E r a → adops C (L.map (·.2)) ((mid ++ post).map (·.2)) s K →
    ∃ pd' s' r', Stand (ops := ops) L (pre ++ mid) post pd' l ∧ Sim pd' s' r' ∧ Rel C.N E0 B0 E r' a ∧ adops C (L.map (·.2)) (post.map (·.2)) s' K
  | [], pre, pd, _, hst, s, r, hS, E, a, hR, hK => ⟨pd, s, r, by simpa using hst, hS, hR, hK⟩
  | x :: mid, pre, pd, hf, hst, s, r, hS, E, a, hR, hK => by
    obtain ⟨nw, s', r', h1, h2, h3, h4⟩ := walk1 hL hst (hf x (by simp)) hS hR hK
    obtain ⟨pd', s'', r'', k1, k2, k3, k4⟩ := walks hL mid (fun p hp => hf p (by simp [hp])) h1 h2 h3 h4
    exact ⟨pd', s'', r'', by simpa using k1, k2, k3, k4⟩
theorem first_un {l : Array Bool} : ∀ (L : List (Nat × DOp)), (∃ x ∈ L, ¬ Ls l x.1) → ∃ p x q, L = p ++ x :: q ∧ ¬ Ls l x.1 ∧ ∀ y ∈ p, Ls l y.1
  | [], h => by obtain ⟨x, hx, _⟩ := h; simp at hx
  | y :: L, h => by
    by_cases hy : Ls l y.1
    · obtain ⟨x, hx, hn⟩ := h
      rcases List.mem_cons.1 hx with rfl | hx
      · exact (hn hy).elim
      · obtain ⟨p, z, q, h1, h2, h3⟩ := first_un L ⟨x, hx, hn⟩
        refine ⟨y :: p, z, q, by rw [h1]; rfl, h2, fun w hw => ?_⟩
        rcases List.mem_cons.1 hw with rfl | hw
        · exact hy
        · exact h3 w hw
    · exact ⟨[], y, L, rfl, hy, by simp⟩
theorem stand_set (hL : Good (C.P .o) C.N ops L) {pre post : List (Nat × DOp)} {pd : List Pd} {l : Array Bool} (hst : Stand (ops := ops) L pre post pd l) {u : Pd} (hu : u ∈ pd) (hlt : u.i < l.size) (hr : ∀ j ∈ aft ops u.i, Ls l j) :
    Stand (ops := ops) L pre post (pd.filter fun w => !(w.i == u.i)) (l.setIfInBounds u.i true) := by
  have hs := fun j => ls_set (l := l) (i := u.i) (j := j) hlt
  have hmem : ∀ {w}, w ∈ (pd.filter fun w => !(w.i == u.i)) ↔ w ∈ pd ∧ w.i ≠ u.i := by
    intro w; rw [List.mem_filter]; simp
  obtain ⟨⟨x, hxp, hxi, _⟩, _⟩ := hst.late u hu
  refine ⟨hst.spl, fun i hi j hj => ?_, fun y hy q => ?_, fun y hy hf => (hs _).2 (.inr (hst.ser y hy hf)), fun w hw => ?_, fun y hy hn => ?_, fun w hw v hv => hst.uniq w (hmem.1 hw).1 v (hmem.1 hv).1⟩
  · rcases (hs _).1 hi with rfl | hi
    · exact (hs _).2 (.inr (hr j hj))
    · exact (hs _).2 (.inr (hst.cl i hi j hj))
  · rcases (hs _).1 q with he | q
    · obtain ⟨p2, q2, he2⟩ := List.append_of_mem hy
      refine hL.fresh (pre ++ p2) y q2 (by rw [hst.spl, he2]; simp) x (by simp [hxp]) ?_
      rw [hxi, he]
    · exact hst.ahead y hy q
  · obtain ⟨hw, hne⟩ := hmem.1 hw
    obtain ⟨h1, h2⟩ := hst.late w hw
    exact ⟨h1, fun q => (hs _).1 q |>.elim hne h2⟩
  · have hn' : ¬ Ls l y.1 := fun q => hn ((hs _).2 (.inr q))
    obtain ⟨w, hw, he⟩ := hst.all y hy hn'
    exact ⟨w, hmem.2 ⟨hw, fun e => hn ((hs _).2 (.inl (he.symm.trans e)))⟩, he⟩
/-- THE RULE: whatever order the machine takes. -/
theorem draw_go (hL : Good (C.P .o) C.N ops L) (hB0 : ∀ x, x < 10000 → ¬ B0.liveAt x) {Qc : Exit → Act → World → Prop}
    (hn : ∀ E' s' a', Rel C.N E0 B0 E' s' a' → K s' → Qc .normal a' E'.w)
    (hp : ∀ E' s' v x a', Rel C.N E0 B0 E' s' a' → Rp E' v x → (∀ y, v.locs y → s'.b.liveAt y) → C.X (some v) s' → Qc (.panic [{ v := x, recovered := false }]) a' E'.w) :
    ∀ (n : Nat) (l : Array Bool) (pre post : List (Nat × DOp)) (pd : List Pd) (s r : St) (E : Env) (a : Act), left l ops.size = n → l.size = ops.size → Stand (ops := ops) L pre post pd l → Sim pd s r → Rel C.N E0 B0 E r a →
      adops C (L.map (·.2)) (post.map (·.2)) s K → wpAny (C.P .o) .any ops Qc n l a E.w := by
  have done : ∀ (l : Array Bool) (pre post : List (Nat × DOp)) (pd : List Pd) (s r : St) (E : Env) (a : Act), Stand (ops := ops) L pre post pd l → Sim pd s r → Rel C.N E0 B0 E r a → adops C (L.map (·.2)) (post.map (·.2)) s K → (∀ x ∈ L, Ls l x.1) → Qc .normal a E.w := by
    intro l pre post pd s r E a hst hS hR hK hall
    have h1 : post = [] := by
      cases post with
      | nil => rfl
      | cons x q => exact (hst.ahead x (by simp) (hall x (by rw [hst.spl]; simp))).elim
    have h2 : pd = [] := by
      cases pd with
      | nil => rfl
      | cons u q =>
        obtain ⟨⟨x, hx, hi, _⟩, hnl⟩ := hst.late u (by simp)
        exact (hnl (hi ▸ hall x (by rw [hst.spl]; simp [hx]))).elim
    subst h1
    subst h2
    exact hn E s a (hR.congr (fun k => hS.t k (by simp)) (fun x => hS.b x (by simp)) hS.df) hK
  have none_ready : ∀ (l : Array Bool), l.size = ops.size → Region.ready .any ops l = [] → ∀ x ∈ L, Ls l x.1 := by
    intro l hsz hr x hx
    apply Classical.byContradiction
    intro hx'
    obtain ⟨p, y, q, h1, h2, h3⟩ := first_un L ⟨x, hx, hx'⟩
    obtain ⟨o, ho, _⟩ := hL.res y (by rw [h1]; simp)
    have : y.1 ∈ Region.ready .any ops l := (ready_iff hsz).2 ⟨(Array.getElem?_eq_some_iff.1 ho).1, h2, fun j hj => by
      obtain ⟨z, hz, he⟩ := hL.top p y q h1 j hj
      exact he ▸ h3 z hz⟩
    rw [hr] at this
    cases this
  intro n
  induction n with
  | zero =>
    intro l pre post pd s r E a hln hsz hst hS hR hK
    have hall := left_zero hln
    refine ⟨?_, done l pre post pd s r E a hst hS hR hK fun x hx => ?_⟩
    · cases hr : Region.ready .any ops l with
      | nil => rfl
      | cons i q =>
        have := (ready_iff hsz (i := i)).1 (by rw [hr]; simp)
        exact (this.2.1 (hall i this.1)).elim
    · obtain ⟨o, ho, _⟩ := hL.res x hx
      exact hall _ (Array.getElem?_eq_some_iff.1 ho).1
  | succ n ih =>
    intro l pre post pd s r E a hln hsz hst hS hR hK
    refine ⟨fun hr => done l pre post pd s r E a hst hS hR hK (none_ready l hsz hr), fun i hi => ?_⟩
    obtain ⟨hlt, hnl, haft⟩ := (ready_iff hsz).1 hi
    obtain ⟨x, hx, rfl⟩ := hL.cover i hlt
    have hlt' : x.1 < l.size := by omega
    have hln' : left (l.setIfInBounds x.1 true) ops.size = n := by
      have := left_set hlt' hnl ops.size
      rw [if_pos hlt] at this
      omega
    -- one that is late comes
    have come : ∀ {pre post : List (Nat × DOp)} {pd : List Pd} {s r : St}, Stand (ops := ops) L pre post pd l → Sim pd s r → Rel C.N E0 B0 E r a → adops C (L.map (·.2)) (post.map (·.2)) s K → x ∈ pre →
        wpOp (C.P .o) ops Qc x.1 (wpAny (C.P .o) .any ops Qc n (l.setIfInBounds x.1 true)) a E.w := by
      intro pre post pd s r hst hS hR hK hxp
      obtain ⟨u, hu, he⟩ := hst.all x hxp hnl
      rw [← he] at hlt' hln' haft ⊢
      exact late1 hL hB0 hst hS hR hu haft fun E' r' a' hR' hS' => ih _ pre post _ s r' E' a' hln' (by simpa using hsz) (stand_set hL hst hu hlt' haft) hS' hR' hK
    have hsp := hst.spl
    by_cases hxp : x ∈ pre
    · exact come hst hS hR hK hxp
    have hxq : x ∈ post := by rw [hsp] at hx; exact (List.mem_append.1 hx).resolve_left hxp
    obtain ⟨mid, rest, he⟩ := List.append_of_mem hxq
    subst he
    have hmid : ∀ p ∈ mid, p.2.fl = true := by
      intro p hp'
      cases hf : p.2.fl with
      | true => rfl
      | false =>
        have := hL.ser (pre ++ mid) x rest (by rw [hsp]; simp) p (by simp [hp']) hf
        exact (hst.ahead p (by simp [hp']) (must_ls hst.cl this haft)).elim
    obtain ⟨pd', s', r', k1, k2, k3, k4⟩ := walks hL mid hmid hst hS hR hK
    cases hxf : x.2.fl with
    | true =>
      obtain ⟨nw, s'', r'', m1, m2, m3, m4⟩ := walk1 hL k1 hxf k2 k3 k4
      exact come m1 m2 m3 m4 (by simp)
    | false =>
      obtain ⟨oo, hoo, hro, hfl⟩ := hL.res x hx
      have hus : ∀ u ∈ pd', Apart u.o x.2.o ∧ u.o ∈ pickD (L.map (·.2)) x.2.us := by
        intro u hu
        obtain ⟨⟨p, h1, h2, h3, h4⟩, h5⟩ := k1.late u hu
        rcases hL.apS (pre ++ mid) x rest k1.spl hxf p h1 h4 with h | h
        · rw [h2] at h; exact (h5 (must_ls k1.cl h haft)).elim
        · rw [← h3]; exact h
      have hself : ∀ w ∈ pd', w.i = x.1 → ∀ k, w.o.dst = some k → uses x.2.o k = true → False := by
        intro w hw he
        obtain ⟨⟨p, h1, h2, _⟩, _⟩ := k1.late w hw
        exact (hL.fresh (pre ++ mid) x rest k1.spl p h1 (h2.trans he)).elim
      have hlk : ∀ u ∈ pd', ∀ k, u.o.dst = some k → uses x.2.o k = false := fun u hu k hk => looked hL k1 hx haft hself hu hk
      have hT : ∀ u ∈ pd', ∀ k, x.2.o.dst = some k → touches u.o k = false := fun u hu k hk => (hus u hu).1.1 k hk
      have hstand : Stand (ops := ops) L (pre ++ mid ++ [x]) rest pd' (l.setIfInBounds x.1 true) := by
        have hs := fun j => ls_set (l := l) (i := x.1) (j := j) hlt'
        refine ⟨by rw [k1.spl]; simp, fun i hi j hj => ?_, fun y hy q => ?_, fun y hy hf => ?_, fun w hw => ?_, fun y hy hn => ?_, k1.uniq⟩
        · rcases (hs _).1 hi with rfl | hi
          · exact (hs _).2 (.inr (haft j hj))
          · exact (hs _).2 (.inr (k1.cl i hi j hj))
        · rcases (hs _).1 q with e | q
          · obtain ⟨p2, q2, he2⟩ := List.append_of_mem hy
            exact hL.fresh (pre ++ mid ++ x :: p2) y q2 (by rw [k1.spl, he2]; simp) x (by simp) e.symm
          · exact k1.ahead y (by simp [hy]) q
        · rcases List.mem_append.1 hy with hy | hy
          · exact (hs _).2 (.inr (k1.ser y hy hf))
          · have := List.mem_singleton.1 hy; subst this; exact (hs _).2 (.inl rfl)
        · obtain ⟨⟨p, h1, h2, h3⟩, h5⟩ := k1.late w hw
          refine ⟨⟨p, by simp only [List.append_assoc, List.mem_append] at h1 ⊢; exact h1.elim .inl fun q => .inr (.inl q), h2, h3⟩, fun q => ((hs _).1 q).elim (fun e => hL.fresh (pre ++ mid) x rest k1.spl p h1 (h2.trans e)) h5⟩
        · rcases List.mem_append.1 hy with hy | hy
          · exact k1.all y hy fun q => hn ((hs _).2 (.inr q))
          · have := List.mem_singleton.1 hy; subst this; exact (hn ((hs _).2 (.inl rfl))).elim
      have go : ∀ {E' : Env} {s2 r2 : St} {a' : Act}, Sim pd' s2 r2 → Rel C.N E0 B0 E' r2 a' → adops C (L.map (·.2)) (rest.map (·.2)) s2 K → wpAny (C.P .o) .any ops Qc n (l.setIfInBounds x.1 true) a' E'.w :=
        fun h1 h2 h3 => ih _ _ rest pd' _ _ _ _ hln' (by simpa using hsz) hstand h1 h2 h3
      have yes : ∀ {s r : St}, Sim pd' s r → Rel C.N E0 B0 E r a → wants s x.2.o.guard = some true → adop C (pickD (L.map (·.2)) x.2.us) x.2.o.op x.2.o.dst s (fun s' => adops C (L.map (·.2)) (rest.map (·.2)) s' K) →
          wpOp (C.P .o) ops Qc x.1 (wpAny (C.P .o) .any ops Qc n (l.setIfInBounds x.1 true)) a E.w := by
        intro s r hS hR hw ha
        have hwr : wants r x.2.o.guard = some true := by
          rw [← hw]
          exact wants_same fun k hk => hS.t k fun u hu e => by have := hlk u hu k e; simp [uses, hk] at this
        unfold adop at ha
        split at ha
        · rename_i hnil
          have hpd : pd' = [] := by
            cases pd' with
            | nil => rfl
            | cons u q => have := (hus u (by simp)).2; rw [hnil] at this; simp at this
          subst hpd
          have hRs := hR.congr (s := s) (fun k => hS.t k (by simp)) (fun y => hS.b y (by simp)) hS.df
          exact exec1 hRs hB0 hoo hro hw (fun _ => ha) (fun q => by cases q) ⟨fun E' s' a' hR' hK' => go (s2 := s') (r2 := s') ⟨fun _ _ => rfl, fun _ _ => rfl, fun _ h => by simp at h, rfl, fun _ h => by simp at h⟩ hR' hK', fun E' s' v y hR' hv hl hX => hp E' s' v y a hR' hv hl hX⟩
        · rename_i u0 us0 hcons
          rw [hcons] at hus
          have hlow : ∀ u ∈ u0 :: us0, ∀ d, u.dst = some d → d < 10000 := by
            rw [← hcons]
            have : ∀ (is : List Nat), ∀ u ∈ pickD (L.map (·.2)) is, ∃ y ∈ L, y.2.o = u := by
              intro is
              induction is with
              | nil => intro u hu; simp [pickD] at hu
              | cons i is ih2 =>
                intro u hu
                unfold pickD at hu
                split at hu
                · rename_i z hz
                  rcases List.mem_cons.1 hu with rfl | hu
                  · rw [List.getElem?_map] at hz
                    cases hz' : L[i]? with
                    | none => rw [hz'] at hz; cases hz
                    | some w => rw [hz'] at hz; cases hz; exact ⟨w, List.mem_of_getElem? hz', rfl⟩
                  · exact ih2 u hu
                · exact ih2 u hu
            intro u hu d hd
            obtain ⟨y, hy, rfl⟩ := this _ u hu
            exact hL.low y hy d hd
          have hao := adopU_late hS (fun u hu => (hus u hu).2) hT (fun u hu k hk => by have := hlk u hu k hk; simp only [uses, Bool.or_eq_false_iff] at this; exact this.1) ha
          refine exec1 (C := C.late (u0 :: us0) pd') hR hB0 hoo hro hwr (fun _ => hao) (fun q => by cases q) ⟨fun E' s' a' hR' hK' => ?_, fun E' s' v y hR' hv hl hX => ?_⟩
          · obtain ⟨s2, h1, h2⟩ := hK'
            exact go h2 hR' h1
          · obtain ⟨s2, v', h1, h2, h3, h4⟩ := hX
            cases h1
            have := late_rel hB0 h3 (fun u hu => (hus u hu).2) hlow hR'
            exact hp E' _ v y a this hv (fun z hz => ((flat_spec (E := E') (E' := E') v h2).2.2 z hz).elim) h4
      have no : ∀ {s r : St}, Sim pd' s r → Rel C.N E0 B0 E r a → wants s x.2.o.guard = some false → adops C (L.map (·.2)) (rest.map (·.2)) (s.setO x.2.o.dst (.tup .nil)) K →
          wpOp (C.P .o) ops Qc x.1 (wpAny (C.P .o) .any ops Qc n (l.setIfInBounds x.1 true)) a E.w := by
        intro s r hS hR hw hk
        have hwr : wants r x.2.o.guard = some false := by
          rw [← hw]
          exact wants_same fun k hk => hS.t k fun u hu e => by have := hlk u hu k e; simp [uses, hk] at this
        refine exec1 (C := ⟨C.P, C.N, fun _ _ => False⟩) (K := fun r' => r' = r.setO x.2.o.dst (.tup .nil)) hR hB0 hoo hro hwr (fun q => by cases q) (fun _ => rfl) ⟨fun E' s' a' hR' hK' => ?_, fun E' s' v y hR' _ _ hX => hX.elim⟩
        subst hK'
        exact go (hS.setO hT) hR' hk
      have k4 : adops C (L.map (·.2)) (x.2 :: rest.map (·.2)) s' K := k4
      rw [adops] at k4
      split at k4
      · rename_i hg
        exact yes k2 k3 (by rw [hg]; rfl) k4
      · rename_i t b hg
        split at k4
        · rename_i ht
          split at k4
          · exact yes k2 k3 (by rw [hg]; simp [wants, ht]) k4
          · exact no k2 k3 (by rw [hg]; simp [wants, ht]) k4
        · rename_i ht
          split at k4
          · exact yes k2 k3 (by rw [hg]; simp [wants, ht]) k4
          · exact no k2 k3 (by rw [hg]; simp [wants, ht]) k4
        · rename_i q ht
          have hkn := k2.know ht fun u hu => (hus u hu).1.2 t b hg
          have hkr : ∃ r2, Sim pd' (s'.set t (tv (q .o))) r2 ∧ Rel C.N E0 B0 E r2 a := by
            rcases hkn with h1 | ⟨h1, h2⟩
            · exact ⟨r', h1, k3⟩
            · refine ⟨_, h2, k3.retell ?_ (tv_locs _)⟩
              have := k3.tmps t
              rw [h1] at this
              have this : a.tmps.getD t undef = .bool (q .o) := this
              rw [this]
              exact tv_rp E _
          obtain ⟨r2, h1, h2⟩ := hkr
          by_cases hb : q .o = b
          · rw [hb] at h1
            refine yes h1 h2 ?_ (k4.1 hb)
            rw [hg]
            simp only [wants]
            rw [set_get, if_pos rfl]
            cases b <;> rfl
          · have hb' : q .o = !b := by revert hb; cases q .o <;> cases b <;> simp
            rw [hb'] at h1
            refine no h1 h2 ?_ (k4.2 hb')
            rw [hg]
            simp only [wants]
            rw [set_get, if_pos rfl]
            cases b <;> rfl
        · rename_i ht
          exact no k2 k3 (by rw [hg]; simp [wants, ht]) k4
        · exact k4.elim
/-- A region whose order is left open. -/
theorem adops_sound {Qc : Exit → Act → World → Prop} (hB0 : ∀ x, x < 10000 → ¬ B0.liveAt x) (hm : (C.P .o).follows .mixedOrders = true)
    (hn : ∀ E' s' a', Rel C.N E0 B0 E' s' a' → K s' → Qc .normal a' E'.w)
    (hp : ∀ E' s' v x a', Rel C.N E0 B0 E' s' a' → Rp E' v x → (∀ y, v.locs y → s'.b.liveAt y) → C.X (some v) s' → Qc (.panic [{ v := x, recovered := false }]) a' E'.w)
    {l : List DOp} (hr : resD (C.P .o) C.N ops = some (l.map DOp.eraseP)) {E : Env} {s : St} {a : Act} (hR : Rel C.N E0 B0 E s a) (hK : adops C l l s K) (id : Nat) : (Code.region id ops true).wp (C.P .o) Qc a E.w := by
  obtain ⟨L, rfl, hL⟩ := resD_good hr
  refine wp_region_any hm ?_
  have hR' : Rel C.N E0 B0 ⟨E.ρ, E.rv, E.I, { E.w with drawn := E.w.drawn + 1 }⟩ s a := hR.world rfl rfl rfl (Nat.le_refl _) fun b _ => rfl
  have hls : ∀ i, ¬ Ls (Array.replicate ops.size false) i := by
    intro i h
    have := ls_lt h
    unfold Ls at h
    simp at this
    simp [this] at h
  have hleft : left (Array.replicate ops.size false) ops.size = ops.size := by
    have : ∀ n, left (Array.replicate ops.size false) n = n := by
      intro n
      unfold left
      rw [List.filter_eq_self.2, List.length_range]
      intro i _
      have := hls i
      unfold Ls at this
      simpa using this
    exact this _
  exact draw_go hL hB0 hn hp ops.size _ [] L [] s s _ a hleft (by simp) ⟨rfl, fun i h => (hls i h).elim, fun x _ => hls _, fun x h => by simp at h, fun u h => by simp at h, fun x h => by simp at h, fun u h => by simp at h⟩
    ⟨fun _ _ => rfl, fun _ _ => rfl, fun _ h => by simp at h, rfl, fun _ h => by simp at h⟩ hR' hK
end
end Go.Proofs.YtkklflpfklbbcaaDoor.Sx
/- A symbolic executor for the model's code: regions, and the abstract weakest precondition is sound. -/
namespace Go.Proofs.YtkklflpfklbbcaaDoor.Sx
open Go
set_option linter.unusedSimpArgs false
set_option linter.unusedVariables false
def rOpers (P : Program) (N : Nat) (ops : Array Oper) : List Oper → Option (List ROp)
  | [] => some []
  | o :: r => match rOper P N ops o, rOpers P N ops r with
    | some x, some q => some (x :: q)
    | _, _ => none
def res (P : Program) (N : Nat) : Code → Option RC
  | .skip => some .skip
  | .region _ ops false => (rOpers P N ops ops.toList).map .reg
  | .region _ ops true => if P.follows .mixedOrders = true then (resD P N ops).map .regd else none
  | .seq a b => match res P N a, res P N b with | some a, some b => some (.seq a b) | _, _ => none
  | .cond c a b => match rOpd c, res P N a, res P N b with | some c, some a, some b => some (.cond c a b) | _, _, _ => none
  | .block id b => (res P N b).map (.block id)
  | .loop b => (res P N b).map .loop
  | .exit id => some (.exit id)
  | .ret => some .ret
  | _ => none
theorem res_inv {P : Program} {N : Nat} {c : Code} {r : RC} (h : res P N c = some r) : match r with
    | .skip => c = .skip
    | .reg rl => ∃ id ops, c = .region id ops false ∧ rOpers P N ops ops.toList = some rl
    | .regd rl => ∃ id ops, c = .region id ops true ∧ P.follows .mixedOrders = true ∧ resD P N ops = some rl
    | .seq x y => ∃ x' y', c = .seq x' y' ∧ res P N x' = some x ∧ res P N y' = some y
    | .cond o x y => ∃ o' x' y', c = .cond o' x' y' ∧ rOpd o' = some o ∧ res P N x' = some x ∧ res P N y' = some y
    | .block id x => ∃ x', c = .block id x' ∧ res P N x' = some x
    | .loop x => ∃ x', c = .loop x' ∧ res P N x' = some x
    | .exit id => c = .exit id
    | .ret => c = .ret
    | .mark _ => False := by
  cases c with
  | skip => simp only [res] at h; cases h; rfl
  | region id ops draw =>
    cases draw with
    | true =>
      simp only [res] at h
      split at h
      · rename_i hm; obtain ⟨q, hq, rfl⟩ := opt_map h; exact ⟨id, ops, rfl, hm, hq⟩
      · cases h
    | false => simp only [res] at h; obtain ⟨q, hq, rfl⟩ := opt_map h; exact ⟨id, ops, rfl, hq⟩
  | seq a b =>
    simp only [res] at h
    split at h
    · rename_i x y hx hy; cases h; exact ⟨a, b, rfl, hx, hy⟩
    · cases h
  | cond o a b =>
    simp only [res] at h
    split at h
    · rename_i o' x y ho hx hy; cases h; exact ⟨o, a, b, rfl, ho, hx, hy⟩
    · cases h
  | block id b => simp only [res] at h; obtain ⟨q, hq, rfl⟩ := opt_map h; exact ⟨b, rfl, hq⟩
  | loop b => simp only [res] at h; obtain ⟨q, hq, rfl⟩ := opt_map h; exact ⟨b, rfl, hq⟩
  | exit id => simp only [res] at h; cases h; rfl
  | ret => simp only [res] at h; cases h; rfl
  | _ => simp [res] at h
/-- Whatever state of the machine fits s: control at a pile of items ends as it is to. -/
structure Sound (C : Cx) (k : List It) (s : St) : Prop where
  run : ∀ (E0 : Env) (B0 : BL), (∀ x, x < 10000 → ¬ B0.liveAt x) → ∀ (E : Env) (a : Act), Rel C.N E0 B0 E s a → Cont C (Rel C.N E0 B0) (fun c' c => res (C.P .o) C.N c' = some c.erase) k .normal a E.w
def awp (C : Cx) : Nat → List It → St → Prop
  | 0, _, _ => False
  | f + 1, [], s => C.X none s
  | f + 1, .code c :: k, s =>
    match c with
    | .skip => awp C f k s
    | .reg ops => aops C ops s fun s' => awp C f k s'
    | .regd ops => adops C ops ops s fun s' => awp C f k s'
    | .seq a b => awp C f (.code a :: .code b :: k) s
    | .cond c a b => match c.ev s with
      | .tt => awp C f (.code a :: k) s
      | .ff => awp C f (.code b :: k) s
      | .bool x => (x .o = true → awp C f (.code a :: k) (s.know c true)) ∧ (x .o = false → awp C f (.code b :: k) (s.know c false))
      | _ => False
    | .block id b => awp C f (.code b :: .blk id :: k) s
    | .loop b => Sound C (.code (.loop b) :: k) s
    | .exit id => match outOf id k with | some k' => awp C f k' s | none => False
    | .ret => C.X none s
    | .mark c => Sound C (.code c :: k) s
  | f + 1, .blk _ :: k, s => awp C f k s
  | f + 1, .inv I :: k, s => I s
section
variable {C : Cx} {E0 : Env} {B0 : BL}
theorem aops_sound {ops : Array Oper} {Qc : Exit → Act → World → Prop} {K : St → Prop} (hB0 : ∀ x, x < 10000 → ¬ B0.liveAt x)
    (hn : ∀ E' s' a', Rel C.N E0 B0 E' s' a' → K s' → Qc .normal a' E'.w)
    (hp : ∀ E' s' v x a', Rel C.N E0 B0 E' s' a' → Rp E' v x → (∀ y, v.locs y → s'.b.liveAt y) → C.X (some v) s' → Qc (.panic [{ v := x, recovered := false }]) a' E'.w) :
    ∀ (l : List Oper) (rl : List ROp) (E : Env) (s : St) (a : Act), rOpers (C.P .o) C.N ops l = some (eraseL rl) → Rel C.N E0 B0 E s a → aops C rl s K → wpList (C.P .o) ops Qc l a E.w
  | [], rl, E, s, a, hr, h, ha => by
    cases rl with
    | nil => exact hn E s a h ha
    | cons x q => cases hr
  | o :: l, rl, E, s, a, hr, h, ha => by
    unfold rOpers at hr
    split at hr
    · rename_i x q0 hx hq
      obtain ⟨X, q, rfl, hX, rfl⟩ : ∃ X Q, rl = X :: Q ∧ X.erase = x ∧ eraseL Q = q0 := by
        cases rl with
        | nil => cases hr
        | cons X Q => cases hr; exact ⟨X, Q, rfl, rfl, rfl⟩
      unfold rOper at hx
      split at hx
      · rename_i ro0 g0 hro hgd hdst
        cases hx
        obtain ⟨Xd, ro, g⟩ := X
        simp only [ROp.erase, ROp.mk.injEq] at hX
        obtain ⟨rfl, rfl, rfl⟩ := hX
        have hN : ∀ d, o.dst = some d → d < C.N := by
          intro d hd
          unfold okDst at hdst
          rw [hd] at hdst
          simp only [Bool.and_eq_true, decide_eq_true_eq] at hdst
          exact hdst.1
        have hst : (∃ t x y, o.op = .store t x y) → o.dst = none := by
          rintro ⟨t, x, y, ho⟩
          unfold okDst at hdst
          cases hd : o.dst with
          | none => rfl
          | some d => rw [hd] at hdst; simp [ho, isStore] at hdst
        have hrun : ∀ {s' : St} {a' : Act}, Rel C.N E0 B0 E s' a' → a' = a → aop C ro o.dst s' (fun s' => aops C q s' K) → o.wp (C.P .o) a E.w (wpList (C.P .o) ops Qc l) Qc := by
          intro s' a' hR he ha
          subst he
          exact aop_soundE hR hB0 hro hN hst ha ⟨fun E' s'' a'' hR' hK => aops_sound hB0 hn hp l q E' s'' a'' hq hR' hK, fun E' s'' v x hR' hv hl hX => hp E' s'' v x _ hR' hv hl hX⟩
        have hskip : ∀ {s' : St}, Rel C.N E0 B0 E s' a → aops C q (s'.setO o.dst (.tup .nil)) K → wpList (C.P .o) ops Qc l (a.put o.dst undef) E.w := by
          intro s' hR ha
          exact aops_sound hB0 hn hp l q E _ _ hq (hR.value hB0 hN (v := .tup .nil) (x := undef) (rp_tup.2 ⟨[], rfl, listC_nil.2 rfl⟩) (fun y hy => hy.elim)) ha
        unfold aops at ha
        cases hog : o.guard with
        | none =>
          have : g = none := by rw [hog] at hgd; cases hgd; rfl
          subst this
          unfold wpList
          rw [if_pos (by simp [Region.wanted, hog])]
          obtain ⟨E1, hw1, hR1⟩ : ∃ E1, E1.w = E.w ∧ Rel C.N E0 B0 E1 (s.pre ro) a := by
            unfold St.pre
            split
            · split
              · rename_i p _
                split
                · obtain ⟨E1, h1, _, _, _, h2⟩ := h.shut1 hB0 p
                  exact ⟨E1, h1, h2⟩
                · exact ⟨E, rfl, h⟩
              · exact ⟨E, rfl, h⟩
            · exact ⟨E, rfl, h⟩
          have := aop_soundE hR1 hB0 hro hN hst ha ⟨fun E' s'' a'' hR' hK => aops_sound hB0 hn hp l q E' s'' a'' hq hR' hK, fun E' s'' v x hR' hv hl hX => hp E' s'' v x _ hR' hv hl hX⟩
          rw [hw1] at this
          exact .inl this
        | some jb =>
          obtain ⟨j, b⟩ := jb
          rw [hog] at hgd
          obtain ⟨t, b', rfl⟩ : ∃ t b', g = some (t, b') := by
            simp only [rGuard] at hgd
            split at hgd
            · split at hgd
              · split at hgd
                · cases hgd; exact ⟨_, _, rfl⟩
                · cases hgd
              · cases hgd
            · cases hgd
          have hval := h.tmps t
          simp only at ha
          have want : ∀ (x : Bool), a.tmps.getD t undef = .bool x → b' = b ∧ Region.wanted o (yielded ops a.tmps) = (x == b) := by
            intro x hx
            obtain ⟨h1, h2, h3⟩ := yielded_of hgd h.sz hx
            refine ⟨h1, ?_⟩
            simp only [Region.wanted, hog, h3]
            cases x <;> cases b <;> rfl
          unfold wpList
          split at ha
          · rename_i he
            rw [he] at hval
            obtain ⟨rfl, hw⟩ := want true hval
            rw [hw]
            cases b' with
            | true => rw [if_pos (by simp)]; exact .inl (hrun h rfl ha)
            | false => rw [if_neg (by simp)]; exact hskip h ha
          · rename_i he
            rw [he] at hval
            obtain ⟨rfl, hw⟩ := want false hval
            rw [hw]
            cases b' with
            | true => rw [if_neg (by simp)]; exact hskip h ha
            | false => rw [if_pos (by simp)]; exact .inl (hrun h rfl ha)
          · rename_i x he
            rw [he] at hval
            have hval' : a.tmps.getD t undef = .bool (x .o) := hval
            obtain ⟨rfl, hw⟩ := want (x .o) hval'
            rw [hw]
            by_cases hxb : x .o = b'
            · rw [if_pos (by simp [hxb])]
              exact .inl (hrun (h.retell (v := tv b') (by rw [hval', hxb]; exact tv_rp E b') (tv_locs b')) rfl (ha.1 hxb))
            · have hxb' : x .o = !b' := by cases hx' : x .o <;> cases b' <;> simp_all
              rw [if_neg (by simp [hxb])]
              exact hskip (h.retell (v := tv !b') (by rw [hval', hxb']; exact tv_rp E _) (tv_locs _)) (ha.2 hxb')
          · rename_i he
            rw [he] at hval
            obtain ⟨u, hu, hu'⟩ := rp_tup.1 hval
            rw [listC_nil.1 hu'] at hu
            rw [if_neg (by rw [unwanted_of hgd h.sz hu hog]; exact Bool.false_ne_true)]
            exact hskip h ha
          · exact ha.elim
      · cases hx
    · cases hr
variable {rel : Code → RC → Prop} {R : Env → St → Act → Prop}
theorem cont_panic (k : List It) (ch : List PanicEntry) (a : Act) (w : World) : Cont C R rel k (.panic ch) a w = Cont C R rel [] (.panic ch) a w := by
  induction k with
  | nil => rfl
  | cons i k ih => cases i <;> exact ih
theorem cont_ret (k : List It) (a : Act) (w : World) : Cont C R rel k .ret a w = Cont C R rel [] .ret a w := by
  induction k with
  | nil => rfl
  | cons i k ih => cases i <;> exact ih
theorem cont_exit {id : Nat} : ∀ (k k' : List It) (a : Act) (w : World), outOf id k = some k' → Cont C R rel k' .normal a w → Cont C R rel k (.exit id) a w
  | .blk id' :: k, k', a, w, h, hc => by
    unfold outOf at h
    split at h
    · rename_i he
      cases h
      have : id' = id := by simpa using he
      show if id = id' then _ else _
      rw [if_pos this.symm]; exact hc
    · rename_i he
      have : ¬ id = id' := by simpa using Ne.symm (by simpa using he : id' ≠ id)
      show if id = id' then _ else _
      rw [if_neg this]; exact cont_exit k k' a w h hc
  | .code c :: k, k', a, w, h, hc => cont_exit k k' a w h hc
  | .inv I :: k, k', a, w, h, hc => cont_exit k k' a w h hc
theorem awp_sound : ∀ (f : Nat) (k : List It) (s : St), awp C f k s → Sound C k s
  | 0, _, _, h => h.elim
  | f + 1, [], s, h => ⟨fun E0 B0 hB0 E a hR => ⟨E, s, hR, rfl, h⟩⟩
  | f + 1, .blk id :: k, s, h => ⟨fun E0 B0 hB0 E a hR => (awp_sound f k s h).run E0 B0 hB0 E a hR⟩
  | f + 1, .inv I :: k, s, h => ⟨fun E0 B0 hB0 E a hR => ⟨E, s, hR, rfl, h⟩⟩
  | f + 1, .code c :: k, s, h => by
    cases c with
    | skip =>
      simp only [awp] at h
      refine ⟨fun E0 B0 hB0 E a hR c' hc' => ?_⟩
      have he : c' = .skip := res_inv hc'
      subst he
      exact wp_skip ((awp_sound f k s h).run E0 B0 hB0 E a hR)
    | reg rl =>
      simp only [awp] at h
      refine ⟨fun E0 B0 hB0 E a hR c' hc' => ?_⟩
      obtain ⟨id, ops, rfl, hq⟩ := res_inv hc'
      refine wp_region_list (aops_sound hB0 (fun E' s' a' hR' hK => (awp_sound f k s' hK).run E0 B0 hB0 E' a' hR') (fun E' s' v x a' hR' hv hl hX => ?_) ops.toList rl E s a hq hR h)
      rw [cont_panic]
      exact ⟨E', s', v, x, hR', rfl, rfl, hv, hl, hX⟩
    | regd rl =>
      simp only [awp] at h
      refine ⟨fun E0 B0 hB0 E a hR c' hc' => ?_⟩
      obtain ⟨id, ops, rfl, hm, hq⟩ := res_inv hc'
      refine adops_sound hB0 hm (fun E' s' a' hR' hK => (awp_sound f k s' hK).run E0 B0 hB0 E' a' hR') (fun E' s' v x a' hR' hv hl hX => ?_) hq hR h id
      rw [cont_panic]
      exact ⟨E', s', v, x, hR', rfl, rfl, hv, hl, hX⟩
    | seq x y =>
      simp only [awp] at h
      refine ⟨fun E0 B0 hB0 E a hR c' hc' => ?_⟩
      obtain ⟨x', y', rfl, hx, hy⟩ := res_inv hc'
      have := (awp_sound f _ s h).run E0 B0 hB0 E a hR x' hx
      exact wp_seq (wp_mono this fun e a w hq => by cases e <;> first | exact hq y' hy | exact hq)
    | cond c x y =>
      simp only [awp] at h
      refine ⟨fun E0 B0 hB0 E a hR c' hc' => ?_⟩
      obtain ⟨oc, x', y', rfl, hc, hx, hy⟩ := res_inv hc'
      have hcv := opd_sound hR.si hc
      split at h
      · rename_i he
        rw [he] at hcv
        exact wp_cond_true hcv ((awp_sound f _ s h).run E0 B0 hB0 E a hR x' hx)
      · rename_i he
        rw [he] at hcv
        exact wp_cond_false hcv ((awp_sound f _ s h).run E0 B0 hB0 E a hR y' hy)
      · rename_i b he
        rw [he] at hcv
        have hknow : ∀ v, b .o = v → Rel C.N E0 B0 E (s.know c v) a := by
          intro v hv
          unfold St.know
          cases c with
          | val _ => exact hR
          | tmp t =>
            refine hR.retell (v := tv v) ?_ (tv_locs v)
            have : oc = .tmp t := by
              unfold rOpd at hc
              split at hc
              · cases hc; rfl
              · rename_i w; cases hw : cval w <;> simp [hw] at hc
              · cases hc
              · cases hc
            subst this
            have h2 : a.tmps.getD t undef = .bool (b .o) := hcv
            rw [h2, hv]; exact tv_rp E v
        refine wp_cond_split hcv (fun ht => ?_) (fun hf => ?_)
        · exact (awp_sound f _ _ (h.1 ht)).run E0 B0 hB0 E a (hknow true ht) x' hx
        · exact (awp_sound f _ _ (h.2 hf)).run E0 B0 hB0 E a (hknow false hf) y' hy
      · exact h.elim
    | block id x =>
      simp only [awp] at h
      refine ⟨fun E0 B0 hB0 E a hR c' hc' => ?_⟩
      obtain ⟨x', rfl, hx⟩ := res_inv hc'
      have := (awp_sound f _ s h).run E0 B0 hB0 E a hR x' hx
      exact wp_block (wp_mono this fun e a w hq => by cases e <;> exact hq)
    | loop x => simp only [awp] at h; exact h
    | mark x =>
      simp only [awp] at h
      exact ⟨fun E0 B0 hB0 E a hR c' hc' => h.run E0 B0 hB0 E a hR c' hc'⟩
    | exit id =>
      simp only [awp] at h
      refine ⟨fun E0 B0 hB0 E a hR c' hc' => ?_⟩
      have he : c' = .exit id := res_inv hc'
      subst he
      split at h
      · rename_i k' hk'
        exact wp_exit (cont_exit k k' a E.w hk' ((awp_sound f k' s h).run E0 B0 hB0 E a hR))
      · exact h.elim
    | ret =>
      simp only [awp] at h
      refine ⟨fun E0 B0 hB0 E a hR c' hc' => ?_⟩
      have he : c' = .ret := res_inv hc'
      subst he
      exact wp_ret (by rw [cont_ret]; exact ⟨E, s, hR, rfl, h⟩)
end
end Go.Proofs.YtkklflpfklbbcaaDoor.Sx
/- A symbolic executor for the model's code: loops, cuts, functions. -/
namespace Go.Proofs.YtkklflpfklbbcaaDoor.Sx
open Go
set_option linter.unusedSimpArgs false
set_option linter.unusedVariables false
/-- y says no more than x. -/
structure Same (x y : AV) : Prop where
  rp : ∀ E v, Rp E x v → Rp E y v
  locs : ∀ z, y.locs z → x.locs z
theorem Same.refl (x : AV) : Same x x := ⟨fun _ _ h => h, fun _ h => h⟩
theorem Same.any (x : AV) : Same x .any := ⟨fun _ _ _ => trivial, fun _ h => h.elim⟩
theorem Same.of_eq {x y : AV} (h : x = y) : Same x y := h ▸ .refl x
theorem Same.int {k : IntKind} {a b : Th Int} (h : a .o = b .o) : Same (.int k a) (.int k b) := ⟨fun _ v hv => by simp only [Rp] at hv ⊢; rw [hv, h], fun _ h => h⟩
theorem Same.bool {a b : Th Bool} (h : a .o = b .o) : Same (.bool a) (.bool b) := ⟨fun _ v hv => by simp only [Rp] at hv ⊢; rw [hv, h], fun _ h => h⟩
theorem Same.tt {b : Th Bool} (h : b .o = true) : Same .tt (.bool b) := ⟨fun _ v hv => by simp only [Rp] at hv ⊢; rw [hv, h], fun _ h => h⟩
theorem Same.ff {b : Th Bool} (h : b .o = false) : Same .ff (.bool b) := ⟨fun _ v hv => by simp only [Rp] at hv ⊢; rw [hv, h], fun _ h => h⟩
theorem Same.str {a b : Th (List UInt8)} (h : a .o = b .o) : Same (.str a) (.str b) := ⟨fun _ v hv => by simp only [Rp] at hv ⊢; rw [hv, h], fun _ h => h⟩
theorem Same.sl {sz : Nat} {n n' : Th Nat} {g g' : Th Nat → AV} (h : n .o = n' .o) (hg : ∀ i, i < n .o → g (fun _ => i) = g' fun _ => i) : Same (.sl sz n g) (.sl sz n' g') := by
  refine ⟨fun E v hv => ?_, fun _ h => h⟩
  obtain ⟨a, cap, h1, h2, h3⟩ := hv
  refine ⟨a, cap, by rw [← h]; exact h1, by rw [← h]; exact h2, fun i hi => ?_⟩
  have := h3 i (by rw [h]; exact hi)
  rw [hg i (by rw [h]; exact hi)] at this
  exact this
theorem Same.nsl {sz : Nat} {n : Th Nat} {g : Th Nat → AV} (h : n .o = 0) : Same .nsl (.sl sz n g) :=
  ⟨fun E v hv => ⟨none, 0, by rw [h]; exact hv, by rw [h]; exact Nat.le_refl _, fun i hi => by rw [h] at hi; omega⟩, fun _ h => h⟩
theorem Same.trans {x y z : AV} (h : Same x y) (k : Same y z) : Same x z := ⟨fun E v hv => k.rp E v (h.rp E v hv), fun w hw => h.locs w (k.locs w hw)⟩
structure SameB (b b' : Blk) : Prop where
  rp : ∀ E d, BlkRp E d b → BlkRp E d b'
  sol : ∀ E d, solid E d b' → solid E d b
  row : b.isRow = false → b'.isRow = false
  locs : ∀ z, b'.locs z → b.locs z
theorem SameB.refl (b : Blk) : SameB b b := ⟨fun _ _ h => h, fun _ _ h => h, fun h => h, fun _ h => h⟩
theorem SameB.rowAny {sz : Nat} {n n' : Th Nat} {g g' : Th Nat → AV} (h : n .o = n' .o) (hg : ∀ i, i < n .o → Fits (g fun _ => i) (g' fun _ => i)) : SameB (.row sz n g) (.row sz n' g') := by
  refine ⟨fun E d hb => ?_, fun _ _ h => h, fun h => h, fun _ h => h⟩
  rcases hb with ⟨h0, h1⟩ | ⟨cap, cur, e, h1, h2, h3, h4, h5, h6⟩
  · exact .inl ⟨h0, by rw [← h]; exact h1⟩
  · exact .inr ⟨cap, cur, e, by rw [← h]; exact h1, h2, by rw [← h]; exact h3, h4, h5, fun i hi => ⟨(hg i (by rw [h]; exact hi)).ok (h6 i (by rw [h]; exact hi)).1, (hg i (by rw [h]; exact hi)).rp E _ (h6 i (by rw [h]; exact hi)).2⟩⟩
theorem SameB.row' {sz : Nat} {n n' : Th Nat} {g g' : Th Nat → AV} (h : n .o = n' .o) (hg : ∀ i, i < n .o → g (fun _ => i) = g' fun _ => i) : SameB (.row sz n g) (.row sz n' g') :=
  .rowAny h fun i hi => by rw [← hg i hi]; exact ⟨fun h => h, fun _ _ h => h⟩
/-- Cells, each the same. -/
structure SameC (c c' : AV) : Prop where
  rp : ∀ E l, ListC E c l → ListC E c' l
  locs : ∀ z, c'.locs z → c.locs z
theorem SameC.nil : SameC .nil .nil := ⟨fun _ _ h => h, fun _ h => h⟩
theorem SameC.cons {x y c d : AV} (h : Same x y) (k : SameC c d) : SameC (.cons x c) (.cons y d) :=
  ⟨fun E l hl => by obtain ⟨v, r, rfl, h1, h2⟩ := listC_cons.1 hl; exact listC_cons.2 ⟨v, r, rfl, h.rp _ _ h1, k.rp _ _ h2⟩, fun z hz => hz.elim (fun q => .inl (h.locs z q)) fun q => .inr (k.locs z q)⟩
theorem SameC.refl (c : AV) : SameC c c := ⟨fun _ _ h => h, fun _ h => h⟩
theorem SameB.cells {c c' : AV} (h : SameC c c') : SameB (.cells c) (.cells c') :=
  ⟨fun E d hb => by obtain ⟨l, e, h1, h2⟩ := hb; exact ⟨l, e, h1, h.rp _ _ h2⟩, fun _ _ h => h, fun h => h, h.locs⟩
theorem Same.agg {c c' : AV} (h : SameC c c') : Same (.agg c) (.agg c') :=
  ⟨fun E v hv => by obtain ⟨l, h1, h2⟩ := rp_agg.1 hv; exact rp_agg.2 ⟨l, h1, h.rp _ _ h2⟩, h.locs⟩
theorem Same.tup {c c' : AV} (h : SameC c c') : Same (.tup c) (.tup c') :=
  ⟨fun E v hv => by obtain ⟨l, h1, h2⟩ := rp_tup.1 hv; exact rp_tup.2 ⟨l, h1, h.rp _ _ h2⟩, h.locs⟩
/-- All places that a value names are live. -/
def AV.okL (B : BL) : AV → Bool
  | .row d => (B.get d).live
  | .ptr d _ => (B.get d).live
  | .rptr d _ _ _ => (B.get d).live
  | .win d _ _ _ => (B.get d).live
  | .iptr c => c.okL B
  | .fn _ a b => match a.okL B with | true => b.okL B | false => false
  | .ifc _ v => v.okL B
  | .agg c => c.okL B
  | .tup c => c.okL B
  | .cons h t => match h.okL B with | true => t.okL B | false => false
  | _ => true
theorem okL_spec {B : BL} (x : AV) (h : x.okL B = true) : ∀ y, x.locs y → B.liveAt y := by
  induction x with
  | row d => intro y hy; exact (show y = d from hy) ▸ h
  | ptr d o => intro y hy; exact (show y = d from hy) ▸ h
  | rptr d s i o => intro y hy; exact (show y = d from hy) ▸ h
  | win d s i o => intro y hy; exact (show y = d from hy) ▸ h
  | iptr c ih => exact ih h
  | fn f a b iha ihb =>
    unfold AV.okL at h
    split at h
    · rename_i ha; exact fun y hy => hy.elim (iha ha y) (ihb h y)
    · cases h
  | ifc t v ih => exact ih h
  | agg c ih => exact ih h
  | tup c ih => exact ih h
  | cons a b iha ihb =>
    unfold AV.okL at h
    split at h
    · rename_i ha; exact fun y hy => hy.elim (iha ha y) (ihb h y)
    · cases h
  | _ => exact fun y hy => hy.elim
def Blk.okL (B : BL) : Blk → Bool | .cells c => c.okL B | _ => true
def AL.okL (B : BL) : AL → Bool
  | .nil => true
  | .cons _ v r => match v.okL B with | true => r.okL B | false => false
def BL.okL (B : BL) : BL → Bool
  | .nil => true
  | .cons _ v r => match v.okL B with | true => BL.okL B r | false => false
theorem al_okL {B : BL} : ∀ {l : AL}, l.okL B = true → ∀ d y, (l.get d).locs y → B.liveAt y
  | .nil, _, d, y, hy => hy.elim
  | .cons k v r, h, d, y, hy => by
    unfold AL.okL at h
    split at h
    · rename_i hv
      rw [AL.get_cons] at hy
      split at hy
      · exact okL_spec v hv y hy
      · exact al_okL h d y hy
    · cases h
theorem bl_okL {B : BL} : ∀ {l : BL}, BL.okL B l = true → ∀ d y, (l.get d).locs y → B.liveAt y
  | .nil, _, d, y, hy => hy.elim
  | .cons k v r, h, d, y, hy => by
    unfold BL.okL at h
    split at h
    · rename_i hv
      rw [BL.get_cons] at hy
      split at hy
      · cases v with
        | cells c => exact okL_spec c hv y hy
        | _ => exact hy.elim
      · exact bl_okL h d y hy
    · cases h
/-- The outer places of B are live in B'. -/
def keepsOuter (B B' : BL) : BL → Bool
  | .nil => true
  | .cons k _ r => match ltB k 10000, (B.get k).live, (B'.get k).live with
    | false, true, false => false
    | _, _, _ => keepsOuter B B' r
theorem keepsOuter_spec {B B' : BL} : ∀ {l : BL}, keepsOuter B B' l = true → ∀ x, ¬ x < 10000 → (l.get x).live = true → (B.get x).live = true → (B'.get x).live = true
  | .nil, _, x, _, hl, _ => by simp [BL.get, Blk.live] at hl
  | .cons k v r, h, x, hx, hl, hB => by
    unfold keepsOuter at h
    rw [BL.get_cons] at hl
    split at hl
    · rename_i hk
      subst hk
      cases hq : (B'.get k).live with
      | true => rfl
      | false => simp [hq, hB, ltB, hx] at h
    · refine keepsOuter_spec (l := r) ?_ x hx hl hB
      split at h
      · cases h
      · exact h
def fitT (s : AL) : AL → Prop
  | .nil => True
  | .cons k v r => Same (s.get k) v ∧ fitT s r
def fitB (s : BL) : BL → Prop
  | .nil => True
  | .cons k v r => SameB (s.get k) v ∧ (s.get k).live = v.live ∧ fitB s r
def okAll (s s' : St) : Bool := match s'.t.okL s'.b, BL.okL s'.b s'.b, s'.df.okL s'.b with
  | true, true, true => keepsOuter s.b s'.b s.b
  | _, _, _ => false
structure SameD (x y : AV) : Prop where eq : x = y
/-- A state that fits s fits s', too. -/
def fit (s s' : St) : Prop := match okAll s s' with
  | true => fitT s.t s'.t ∧ fitB s.b s'.b ∧ SameD s.df s'.df
  | false => False
theorem fitT_spec {s : AL} : ∀ {l : AL}, fitT s l → ∀ E d v, Rp E (s.get d) v → Rp E (l.get d) v
  | .nil, _, _, _, _, _ => trivial
  | .cons k x r, h, E, d, v, hv => by
    rw [AL.get_cons]
    split
    · rename_i hk; subst hk; exact h.1.rp E v hv
    · exact fitT_spec h.2 E d v hv
theorem fitB_spec {s : BL} : ∀ {l : BL}, fitB s l → (∀ E d, BlkRp E d (s.get d) → BlkRp E d (l.get d)) ∧ (∀ d, (l.get d).live = true → (s.get d).live = true) ∧ (∀ E d, solid E d (l.get d) → solid E d (s.get d)) ∧ ∀ d, (s.get d).isRow = false → (l.get d).isRow = false
  | .nil, _ => ⟨fun _ _ _ => trivial, fun _ h => by simp [BL.get, Blk.live] at h, fun _ _ h => h.elim, fun _ _ => rfl⟩
  | .cons k x r, h => by
    obtain ⟨h1, h2, h3, h4⟩ := fitB_spec h.2.2
    refine ⟨fun E d hb => ?_, fun d hd => ?_, fun E d hd => ?_, fun d hd => ?_⟩
    · rw [BL.get_cons]
      split
      · rename_i hk; subst hk; exact h.1.rp E _ hb
      · exact h1 E d hb
    · rw [BL.get_cons] at hd
      split at hd
      · rename_i hk; subst hk; rw [h.2.1]; exact hd
      · exact h2 d hd
    · rw [BL.get_cons] at hd
      split at hd
      · rename_i hk; subst hk; exact h.1.sol E _ hd
      · exact h3 E d hd
    · rw [BL.get_cons]
      split
      · rename_i hk; subst hk; exact h.1.row hd
      · exact h4 d hd
theorem Rel.fit {N : Nat} {E0 : Env} {B0 : BL} {E : Env} {s s' : St} {a : Act} (hB0 : ∀ x, x < 10000 → ¬ B0.liveAt x) (h : Rel N E0 B0 E s a) (hf : fit s s') : Rel N E0 B0 E s' a := by
  unfold Sx.fit at hf
  split at hf
  · rename_i hok
    obtain ⟨h1, h2, h3⟩ := hf
    have h3 := h3.eq
    obtain ⟨h4, h5, h6, h7⟩ := fitB_spec h2
    unfold okAll at hok
    split at hok
    · rename_i ht hb hd
      have hkeep := fun x => keepsOuter_spec hok x
      refine ⟨fun d => fitT_spec h1 E d _ (h.tmps d), ⟨fun d => h4 E d (h.inv.blk d), fun d d' hd1 hd2 hne => h.inv.dist d d' (h6 E d hd1) (h6 E d' hd2) hne, fun d hd1 => h.inv.live d (h6 E d hd1), h.inv.ibd, bl_okL hb⟩, al_okL ht, h.sz, h3 ▸ h.df, okL_spec _ hd, ?_⟩
      refine ⟨h.post.le, h.post.same, fun x hx hr => h7 x (h.post.kind x hx hr), h.post.os, h.post.tape, h.post.output, h.post.size, h.post.old, fun x hx => h.post.dom x (h5 x hx), fun x hx => h.post.new x (h6 E x hx), fun x hx => ?_, h.post.imm⟩
      by_cases hlt : x < 10000
      · exact (hB0 x hlt hx).elim
      · have hl := h.post.keep x hx
        exact hkeep x hlt hl hl
    · cases hok
  · exact hf.elim
/-- A loop's rule with an order on what the head is told by. -/
theorem wp_loop' {P : Program} {c : Code} {Q : Exit → Act → World → Prop} (I : Nat → Act → World → Prop) (round : ∀ n a w, I n a w → c.wp P (Exit.then (fun a' w' => ∃ m, m < n ∧ I m a' w') Q) a w) {n : Nat} {a : Act} {w : World} (h₀ : I n a w) :
    (Code.loop c).wp P Q a w := by
  intro b k cs
  have key : ∀ n a w, I n a w → ∃ e a' w', Q e a' w' ∧ Arrives P (lone (b.at a (.code c :: .inLoop c :: k)) cs w) b k cs e a' w' := by
    intro n
    induction n using Nat.strongRecOn with
    | _ n ih =>
      intro a w hI
      obtain ⟨e, a₁, w₁, hq, harr⟩ := round n a w hI b (.inLoop c :: k) cs
      cases e with
      | normal =>
        obtain ⟨m, hlt, hI₁⟩ := hq
        obtain ⟨e₂, a₂, w₂, hq₂, harr₂⟩ := ih m hlt a₁ w₁ hI₁
        exact ⟨e₂, a₂, w₂, hq₂, .of_steps (Steps.trans harr (.one step_inLoop)) harr₂⟩
      | exit id => exact ⟨_, a₁, w₁, hq, .pass (x := .inLoop c) rfl (fun _ _ => .inl (by simp)) harr⟩
      | goto l => exact ⟨_, a₁, w₁, hq, .pass (x := .inLoop c) rfl (fun _ _ => .inl (by simp)) harr⟩
      | ret => exact ⟨_, a₁, w₁, hq, .pass (x := .inLoop c) rfl (fun _ _ => .inl (by simp)) harr⟩
      | panic ch => exact ⟨_, a₁, w₁, hq, .pass (x := .inLoop c) rfl (fun _ _ => .inl (by simp)) harr⟩
      | outgrown => exact ⟨_, a₁, w₁, hq, .pass (x := .inLoop c) rfl (fun _ _ => .inl (by simp)) harr⟩
  obtain ⟨e, a', w', hq, harr⟩ := key n a w h₀
  exact ⟨e, a', w', hq, .of_steps (.one step_loop) harr⟩
def AL.pick (l : AL) : List Nat → AL → AL
  | [], r => r
  | k :: ks, r => .cons k (l.get k) (l.pick ks r)
/-- The state at a head: some slots and blocks as they are in s, others told anew. -/
def St.head (s : St) (ks bs : List Nat) (t : AL) (b : BL) : St := ⟨s.t.pick ks t, s.b.pick bs b, s.df⟩
theorem loop_rule {C : Cx} {b : RC} {k : List It} {s : St} {X : Type} (F : Nat) (ks bs : List Nat) (T : X → AL) (B : X → BL) (R : X → Prop) (m : X → Nat) (x0 : X)
    (h0 : fit s (s.head ks bs (T x0) (B x0))) (hR : R x0)
    (step : ∀ x, R x → awp C F (.code b :: .inv (fun s' => ∃ x', R x' ∧ m x' < m x ∧ fit s' (s.head ks bs (T x') (B x'))) :: k) (s.head ks bs (T x) (B x))) :
    Sound C (.code (.loop b) :: k) s := by
  refine ⟨fun E0 B0 hB0 E a hr c' hc' => ?_⟩
  obtain ⟨b', rfl, hb⟩ := res_inv hc'
  refine wp_loop' (fun n a w => ∃ x E, R x ∧ m x = n ∧ Rel C.N E0 B0 E (s.head ks bs (T x) (B x)) a ∧ E.w = w) ?_ (n := m x0) ⟨x0, E, hR, rfl, hr.fit hB0 h0, rfl⟩
  rintro n a w ⟨x, E, hRx, rfl, hrel, rfl⟩
  have := (awp_sound F _ _ (step x hRx)).run E0 B0 hB0 E a hrel b' hb
  refine wp_mono this fun e a w hq => ?_
  cases e with
  | normal =>
    obtain ⟨E', s', hr', rfl, x', h1, h2, h3⟩ := hq
    exact ⟨m x', h2, x', E', h1, rfl, hr'.fit hB0 h3, rfl⟩
  | _ => exact hq
theorem cut_rule {C : Cx} {b : RC} {k : List It} {s : St} {X : Type} (F F' : Nat) (ks bs : List Nat) (T : X → AL) (B : X → BL) (R : X → Prop)
    (h1 : awp C F (.code b :: .inv (fun s' => ∃ x, R x ∧ fit s' (s.head ks bs (T x) (B x))) :: k) s)
    (h2 : ∀ x, R x → awp C F' k (s.head ks bs (T x) (B x))) : Sound C (.code b :: k) s := by
  refine ⟨fun E0 B0 hB0 E a hr c' hc' => ?_⟩
  have := (awp_sound F _ _ h1).run E0 B0 hB0 E a hr c' hc'
  refine wp_mono this fun e a w hq => ?_
  cases e with
  | normal =>
    obtain ⟨E', s', hr', rfl, x, h3, h4⟩ := hq
    exact (awp_sound F' _ _ (h2 x h3)).run E0 B0 hB0 E' a (hr'.fit hB0 h4)
  | _ => exact hq
/-- Without a cut. -/
theorem go_on {C : Cx} {k : List It} {s : St} (F : Nat) (h : awp C F k s) : Sound C k s := awp_sound F k s h
/-- Place d holds a row that is nil. -/
theorem Rel.nilRow {N : Nat} {E0 : Env} {B0 : BL} {E : Env} {s : St} {a : Act} (h : Rel N E0 B0 E s a) (hB0 : ∀ x, x < 10000 → ¬ B0.liveAt x) {d sz : Nat} {g : Th Nat → AV} (hf : fresh s d = true) :
    ∃ E', E'.w = E.w ∧ E'.rv d = .slice none 0 0 ∧ Rel N E0 B0 E' ⟨s.t, .cons d (.row sz (fun _ => 0) g) s.b, s.df⟩ a := by
  obtain ⟨hdead, hlt⟩ := fresh_spec hf
  let E' : Env := ⟨E.ρ, fun x => if x = d then .slice none 0 0 else E.rv x, E.I, E.w⟩
  have hrv : ∀ x, s.b.liveAt x → E'.ρ x = E.ρ x ∧ E'.rv x = E.rv x := fun x hx => ⟨rfl, if_neg fun e : x = d => hdead (by rw [← e]; exact hx)⟩
  have hle : E.Le E' := ⟨fun _ _ h => h, fun _ _ _ => rfl⟩
  have hget : ∀ x, (BL.cons d (.row sz (fun _ => 0) g) s.b).get x = if d = x then .row sz (fun _ => 0) g else s.b.get x := fun x => rfl
  have hd : E'.rv d = .slice none 0 0 := if_pos rfl
  have hsol : ∀ x, solidAt E' (BL.cons d (.row sz (fun _ => 0) g) s.b) x → solidAt E s.b x := by
    intro x hx
    unfold solidAt at hx ⊢
    rw [hget] at hx
    split at hx
    · rename_i e; subst e; exact (hx hd).elim
    · rename_i hne
      exact (solid_same (if_neg (Ne.symm hne))).1 hx
  have hlive : ∀ x, s.b.liveAt x → (BL.cons d (.row sz (fun _ => 0) g) s.b).liveAt x := by
    intro x hx
    unfold BL.liveAt at hx ⊢
    rw [hget, if_neg]
    · exact hx
    · rintro rfl; exact hdead hx
  refine ⟨E', rfl, hd, ?_⟩
  refine h.step (a := a) (dst := none) (v := .any) (x := undef) (D := (· = d)) ⟨hle, fun x hx _ => ⟨rfl, if_neg hx⟩, fun x hx hr => ?_, rfl, rfl, rfl, Nat.le_refl _, fun _ _ _ => rfl, fun x hx => ?_, fun x hx => .inl ⟨hsol x hx, rfl⟩, hlive, fun _ _ h => .inl h⟩ (fun x hx => by rw [hx]; exact hlt)
    (fun y hy => hrv y (hy.elim (fun ⟨n, hn⟩ => h.tn n y hn) (h.dn y))) ⟨fun x => ?_, fun x y hx hy => h.inv.dist x y (hsol x hx) (hsol y hy), fun x hx => h.inv.live x (hsol x hx), h.inv.ibd, fun x y hy => ?_⟩ (fun _ h => by cases h) trivial (fun y hy => hy.elim)
  · rw [hget, if_neg (Ne.symm hx)]; exact hr
  · by_cases e : d = x
    · exact .inr e.symm
    · left
      unfold BL.liveAt at hx ⊢
      rw [hget, if_neg e] at hx
      exact hx
  · rw [hget]
    split
    · rename_i e; subst e; exact .inl ⟨hd, rfl⟩
    · rename_i hne
      by_cases hl : s.b.liveAt x
      · exact blk_mono hle (h.inv.blk x) rfl (hrv x hl).2 (fun _ => rfl) fun y hy => hrv y (h.inv.nm x y hy)
      · have : s.b.get x = .no := by
          unfold BL.liveAt at hl
          cases hb : s.b.get x with
          | no => rfl
          | _ => rw [hb] at hl; exact absurd rfl hl
        rw [this]; trivial
  · rw [hget] at hy
    split at hy
    · exact hy.elim
    · exact hlive y (h.inv.nm x y hy)
/-- Slot t, which is nil, is a row that may grow, at place d. -/
theorem nil_tmp {C : Cx} {k : List It} {s : St} (t d sz : Nat) (g : Th Nat → AV) (ht : s.t.get t = .nsl) (hf : fresh s d = true)
    (h : Sound C k ⟨.cons t (.row d) s.t, .cons d (.row sz (fun _ => 0) g) s.b, s.df⟩) : Sound C k s := by
  refine ⟨fun E0 B0 hB0 E a hR => ?_⟩
  obtain ⟨E', hw, hrv, hR'⟩ := hR.nilRow hB0 (sz := sz) (g := g) hf
  have hv := hR.tmps t
  rw [ht] at hv
  have hv : a.tmps.getD t undef = .slice none 0 0 := hv
  have hR2 : Rel C.N E0 B0 E' ⟨.cons t (.row d) s.t, .cons d (.row sz (fun _ => 0) g) s.b, s.df⟩ a := by
    refine ⟨fun n => ?_, hR'.inv, fun n y hy => ?_, hR'.sz, hR'.df, hR'.dn, hR'.post⟩
    · show Rp E' ((AL.cons t (.row d) s.t).get n) _
      rw [AL.get_cons]
      split
      · rename_i hn; subst hn; exact ⟨hv.trans hrv.symm, none, 0, 0, hv⟩
      · exact hR'.tmps n
    · change ((AL.cons t (.row d) s.t).get n).locs y at hy
      rw [AL.get_cons] at hy
      split at hy
      · have : y = d := hy
        subst this
        simp [BL.liveAt, BL.get_cons, Blk.live]
      · exact hR'.tn n y hy
  have := h.run E0 B0 hB0 E' a hR2
  rw [hw] at this
  exact this
end Go.Proofs.YtkklflpfklbbcaaDoor.Sx
/- A symbolic executor for the model's code: a function's contract out of its body's abstract weakest precondition. -/
namespace Go.Proofs.YtkklflpfklbbcaaDoor.Sx
open Go
set_option linter.unusedSimpArgs false
set_option linter.unusedVariables false
inductive RRes : Type | tmp (t : Nat) | cell1 (t : Nat) | cellA (t n : Nat)
def rRes (P : Program) : ResultVar → Option RRes
  | .tmp t => some (.tmp t)
  | .cell t ty => match P.underlying ty, P.info? ty with
    | some d, some i => some (if aggD d = true then .cellA t i.size else .cell1 t)
    | _, _ => none
def rRess (P : Program) : List ResultVar → Option (List RRes)
  | [] => some []
  | x :: r => match rRes P x, rRess P r with | some y, some q => some (y :: q) | _, _ => none
def okQ : QR → Option AV | .ok v => some v | _ => none
def readRes (s : St) : RRes → Option AV
  | .tmp t => some (s.t.get t)
  | .cell1 t => okQ (aload first s (s.t.get t))
  | .cellA t n => okQ (aload (takeA n) s (s.t.get t))
def readRess (s : St) : List RRes → Option AV
  | [] => some .nil
  | x :: r => match readRes s x, readRess s r with | some v, some c => some (.cons v c) | _, _ => none
def retv (s : St) (rs : List RRes) : Option AV := match readRess s rs with
  | some (.cons v .nil) => some v
  | some c => some (.tup c)
  | none => none
/-- The same without places of one's own: rows are shut for good. -/
def freeze (B : BL) : AV → Option AV
  | .row d => match ltB d 10000 with
    | true => match B.get d with | .row sz n g => some (.sl sz n g) | _ => none
    | false => some (.row d)
  | .ptr d o => match ltB d 10000 with | true => none | false => some (.ptr d o)
  | .rptr d sz i o => match ltB d 10000 with | true => none | false => some (.rptr d sz i o)
  | .win d sz i o => match ltB d 10000 with | true => none | false => some (.win d sz i o)
  | .iptr c => match freeze B c with | some c => some (.iptr c) | none => none
  | .ifc t v => match freeze B v with | some v => some (.ifc t v) | none => none
  | .agg c => match freeze B c with | some c => some (.agg c) | none => none
  | .tup c => match freeze B c with | some c => some (.tup c) | none => none
  | .fn f a b => match freeze B a, freeze B b with | some a, some b => some (.fn f a b) | _, _ => none
  | .cons h t => match freeze B h, freeze B t with | some h, some t => some (.cons h t) | _, _ => none
  | x => some x
/-- A block laid into a row of blocks that rise. -/
def BL.ins (k : Nat) (v : Blk) : BL → BL
  | .nil => .cons k v .nil
  | .cons k' v' r => match k == k' with
    | true => .cons k v r
    | false => match ltB k k' with
      | true => .cons k v (.cons k' v' r)
      | false => .cons k' v' (r.ins k v)
def freezeK (B : BL) : Blk → Option Blk
  | .cells c => match freeze B c with | some c => some (.cells c) | none => none
  | b => some b
/-- What is not one's own, rising, each once, with one's own rows in it shut for good. -/
def outerF (B : BL) : BL → Option BL
  | .nil => some .nil
  | .cons k _ r => match ltB k 10000 with
    | true => outerF B r
    | false => match freezeK B (B.get k), outerF B r with | some v, some r => some (r.ins k v) | _, _ => none
theorem ins_get (k : Nat) (v : Blk) (x : Nat) : ∀ B : BL, (B.ins k v).get x = if k = x then v else B.get x
  | .nil => rfl
  | .cons k' v' r => by
    unfold BL.ins
    split
    · rename_i h
      have h : k = k' := by simpa using h
      subst h
      rw [BL.get_cons, BL.get_cons]
      split <;> rfl
    · rename_i h
      have h : k ≠ k' := by simpa using h
      split
      · rw [BL.get_cons]
      · rw [BL.get_cons, BL.get_cons, ins_get k v x r]
        by_cases h1 : k' = x
        · rw [if_pos h1, if_neg (by omega), if_pos h1]
        · rw [if_neg h1, if_neg h1]
def okOut (B : BL) (v : AV) : Bool := match v.okL B with | true => BL.okL B B | false => false
def fin (K : ARes → BL → Prop) (mk : AV → ARes) (s : St) (v : Option AV) : Prop := match v with
  | some v => match freeze s.b v, outerF s.b s.b with
    | some v, some B => match okOut B v with | true => K (mk v) B | false => False
    | _, _ => False
  | none => False
def exitX (rs : List RRes) (K : ARes → BL → Prop) : Option AV → St → Prop
  | none, s => match s.df with | .nil => fin K .ret s (retv s rs) | _ => False
  | some v, s => match s.df with | .nil => fin K .pan s (some v) | _ => False
def params (k : Nat) : List AV → AL
  | [] => .nil
  | x :: r => .cons k x (params (k + 1) r)
def onlyOuter : BL → Bool
  | .nil => true
  | .cons k _ r => match ltB k 10000 with | true => false | false => onlyOuter r
theorem onlyOuter_spec : ∀ {B : BL}, onlyOuter B = true → ∀ x, x < 10000 → ¬ B.liveAt x
  | .nil, _, x, _ => by simp [BL.liveAt, BL.get, Blk.live]
  | .cons k v r, h, x, hx => by
    unfold onlyOuter at h
    split at h
    · cases h
    · rename_i hk
      have : ¬ k = x := by intro he; subst he; simp [ltB, hx] at hk
      unfold BL.liveAt
      rw [BL.get_cons, if_neg this]
      exact onlyOuter_spec h x hx
def BL.has : BL → Nat → Bool | .nil, _ => false | .cons k _ r, x => match k == x with | true => true | false => r.has x
theorem has_not : ∀ {B : BL} {x : Nat}, B.has x = false → B.get x = .no
  | .nil, _, _ => rfl
  | .cons k v r, x, h => by
    unfold BL.has at h
    split at h
    · cases h
    · rename_i hk
      rw [BL.get_cons, if_neg (by simpa using hk)]
      exact has_not h
theorem outerF_key (B : BL) : ∀ (l l' : BL), outerF B l = some l' → ∀ x, (x < 10000 → l'.get x = .no) ∧ (¬ x < 10000 → (l.has x = true → freezeK B (B.get x) = some (l'.get x)) ∧ (l.has x = false → l'.get x = .no))
  | .nil, l', h, x => by cases h; exact ⟨fun _ => rfl, fun _ => ⟨fun h => (by cases h), fun _ => rfl⟩⟩
  | .cons k v r, l', h, x => by
    unfold outerF at h
    split at h
    · rename_i hk
      have hk' : k < 10000 := by simpa [ltB] using hk
      obtain ⟨h1, h2⟩ := outerF_key B r l' h x
      refine ⟨h1, fun hx => ?_⟩
      have hne : (k == x) = false := by simp; omega
      simp only [BL.has, hne]
      exact h2 hx
    · rename_i hk
      have hk' : ¬ k < 10000 := by simpa [ltB] using hk
      split at h
      · rename_i v' r' hv hr
        cases h
        obtain ⟨h1, h2⟩ := outerF_key B r r' hr x
        rw [ins_get]
        refine ⟨fun hx => ?_, fun hx => ?_⟩
        · rw [if_neg (by omega)]; exact h1 hx
        · by_cases hkx : k = x
          · subst hkx
            simp only [BL.has, beq_self_eq_true, if_true]
            exact ⟨fun _ => hv, fun h => by cases h⟩
          · have hne : (k == x) = false := by simpa using hkx
            rw [if_neg hkx]
            simp only [BL.has, hne]
            exact h2 hx
      · cases h
theorem outerF_get {B l' : BL} (h : outerF B B = some l') (x : Nat) : (x < 10000 → l'.get x = .no) ∧ (¬ x < 10000 → freezeK B (B.get x) = some (l'.get x)) := by
  obtain ⟨h1, h2⟩ := outerF_key B B l' h x
  refine ⟨h1, fun hx => ?_⟩
  cases hh : B.has x with
  | true => exact (h2 hx).1 hh
  | false => rw [has_not hh, (h2 hx).2 hh]; rfl
theorem params_get {E : Env} : ∀ (asL0 : List AV) (k : Nat) (vs : List Value) (rest : List Value), ListC E (chain asL0) vs → (∀ u ∈ rest, u = undef) → ∀ d, Rp E ((params k asL0).get (k + d)) ((vs ++ rest).getD d undef)
  | [], k, vs, rest, h, hr, d => trivial
  | x :: r, k, vs, rest, h, hr, d => by
    obtain ⟨v, m, rfl, h1, h2⟩ := listC_cons.1 h
    unfold params
    rw [AL.get_cons]
    cases d with
    | zero => rw [if_pos (by simp)]; simpa using h1
    | succ d =>
      rw [if_neg (by omega)]
      have := params_get r (k + 1) m rest h2 hr d
      rw [show k + 1 + d = k + (d + 1) by omega] at this
      simpa using this
theorem params_locs : ∀ (asL0 : List AV) (k d y : Nat), ((params k asL0).get d).locs y → (chain asL0).locs y
  | [], _, _, _, h => h.elim
  | x :: r, k, d, y, h => by
    unfold params at h
    rw [AL.get_cons] at h
    split at h
    · exact .inl h
    · exact .inr (params_locs r (k + 1) d y h)
theorem chain_len {E : Env} : ∀ (asL0 : List AV) (vs : List Value), ListC E (chain asL0) vs → vs.length = asL0.length
  | [], vs, h => by rw [listC_nil.1 h]; rfl
  | x :: r, vs, h => by obtain ⟨v, m, rfl, _, h2⟩ := listC_cons.1 h; simp [chain_len r m h2]
theorem memC_of_list {E : Env} : ∀ (c : AV) (l : List Value) (b o : Nat), ListC E c l → (∀ j v, l[j]? = some v → E.w.cell? ⟨b, o + j, none⟩ = some v ∧ E.I b (o + j)) → MemC E c b o := by
  intro c
  induction c with
  | nil => intro l b o _ _; simp only [MemC]
  | cons p q _ ih =>
    intro l b o h hc
    obtain ⟨x, r, rfl, h1, h2⟩ := listC_cons.1 h
    simp only [MemC]
    refine ⟨⟨x, (hc 0 x rfl).1, (hc 0 x rfl).2, h1⟩, ih r b (o + 1) h2 fun j v hj => ?_⟩
    have := hc (j + 1) v (by simpa using hj)
    rw [show o + 1 + j = o + (j + 1) by omega]; exact this
  | _ => intro l b o h _; simp only [ListC] at h
/-- Every block of one's own is shut. -/
def Env.shut (E : Env) (B : BL) : Env := ⟨E.ρ, E.rv, fun b o => E.I b o ∨ ∃ x, x < 10000 ∧ solidAt E B x ∧ E.ρ x = b, E.w⟩
theorem Env.shut_le (E : Env) (B : BL) : E.Le (E.shut B) := ⟨fun _ _ h => .inl h, fun _ _ _ => rfl⟩
theorem freeze_sound {E : Env} {B : BL} (hB : ∀ d, BlkRp E d (B.get d)) (x : AV) : ∀ y, freeze B x = some y → (∀ v, Rp E x v → Rp (E.shut B) y v) ∧ (∀ l, ListC E x l → ListC (E.shut B) y l) ∧ (∀ b o, MemC E x b o → MemC (E.shut B) y b o) := by
  have hle := E.shut_le B
  induction x with
  | row d =>
    intro y h
    refine ⟨fun v hv => ?_, fun _ h => h.elim, fun _ _ h => h.elim⟩
    unfold freeze at h
    split at h
    · rename_i hd
      have hd' : d < 10000 := by simpa [ltB] using hd
      split at h
      · rename_i sz n g hb
        cases h
        have hbl := hB d
        rw [hb] at hbl
        rcases hbl with ⟨h1, h2⟩ | ⟨cap, cur, e, h1, h2, h3, h4, h5, h6⟩
        · exact ⟨none, 0, by rw [h2]; exact hv.1.trans h1, by rw [h2]; exact Nat.le_refl _, fun i hi => by rw [h2] at hi; exact absurd hi (Nat.not_lt_zero _)⟩
        have hlive : solidAt E B d := by unfold solidAt; rw [hb]; show E.rv d ≠ _; rw [h1]; simp
        refine ⟨_, cap, hv.1.trans h1, h3, fun i hi => ⟨⟨(h6 i hi).1, by rw [listC_len' (h6 i hi).2]; exact row_elem h5 h3 hi⟩, E.ρ d, 0, rfl, ?_⟩⟩
        refine memC_of_list _ _ _ _ ((rp_mono hle _ fun _ _ => ⟨rfl, rfl⟩).2.1 _ (h6 i hi).2) fun j u hj => ⟨?_, .inr ⟨d, hd', hlive, rfl⟩⟩
        show E.w.cell? _ = _
        rw [h2.cell]
        rw [List.getElem?_take] at hj
        split at hj
        · rw [List.getElem?_drop] at hj; rw [← hj]; congr 1; omega
        · cases hj
      · cases h
    · cases h; exact hv
  | ptr d o =>
    intro y h
    refine ⟨fun v hv => ?_, fun _ h => h.elim, fun _ _ h => h.elim⟩
    unfold freeze at h
    split at h
    · cases h
    · cases h; exact hv
  | rptr d sz i o =>
    intro y h
    refine ⟨fun v hv => ?_, fun _ h => h.elim, fun _ _ h => h.elim⟩
    unfold freeze at h
    split at h
    · cases h
    · cases h; exact hv
  | win d sz i o =>
    intro y h
    refine ⟨fun v hv => ?_, fun _ h => h.elim, fun _ _ h => h.elim⟩
    unfold freeze at h
    split at h
    · cases h
    · cases h; exact hv
  | iptr c ih =>
    intro y h
    refine ⟨fun v hv => ?_, fun _ h => h.elim, fun _ _ h => h.elim⟩
    unfold freeze at h
    split at h
    · rename_i c' hc
      cases h
      obtain ⟨b, o, h1, h2⟩ := hv
      exact ⟨b, o, h1, (ih _ hc).2.2 _ _ h2⟩
    · cases h
  | ifc t v ih =>
    intro y h
    refine ⟨fun v hv => ?_, fun _ h => h.elim, fun _ _ h => h.elim⟩
    unfold freeze at h
    split at h
    · rename_i c' hc
      cases h
      obtain ⟨y, h1, h2⟩ := hv
      exact ⟨y, h1, (ih _ hc).1 _ h2⟩
    · cases h
  | agg c ih =>
    intro y h
    refine ⟨fun v hv => ?_, fun _ h => h.elim, fun _ _ h => h.elim⟩
    unfold freeze at h
    split at h
    · rename_i c' hc
      cases h
      obtain ⟨l, h1, h2⟩ := rp_agg.1 hv
      exact rp_agg.2 ⟨l, h1, (ih _ hc).2.1 _ h2⟩
    · cases h
  | tup c ih =>
    intro y h
    refine ⟨fun v hv => ?_, fun _ h => h.elim, fun _ _ h => h.elim⟩
    unfold freeze at h
    split at h
    · rename_i c' hc
      cases h
      obtain ⟨l, h1, h2⟩ := rp_tup.1 hv
      exact rp_tup.2 ⟨l, h1, (ih _ hc).2.1 _ h2⟩
    · cases h
  | fn f a b iha ihb =>
    intro y h
    refine ⟨fun v hv => ?_, fun _ h => h.elim, fun _ _ h => h.elim⟩
    unfold freeze at h
    split at h
    · rename_i a' b' ha hb
      cases h
      obtain ⟨l, m, h1, h2, h3⟩ := hv
      exact ⟨l, m, h1, (iha _ ha).2.1 _ h2, (ihb _ hb).2.1 _ h3⟩
    · cases h
  | cons a b iha ihb =>
    intro y h
    unfold freeze at h
    split at h
    · rename_i a' b' ha hb
      cases h
      refine ⟨fun _ h => h.elim, fun l hl => ?_, fun b o hm => ?_⟩
      · obtain ⟨x, r, h1, h2, h3⟩ := hl
        exact ⟨x, r, h1, (iha _ ha).1 _ h2, (ihb _ hb).2.1 _ h3⟩
      · obtain ⟨⟨v, h1, h2, h3⟩, h4⟩ := hm
        exact ⟨⟨v, h1, .inl h2, (iha _ ha).1 _ h3⟩, (ihb _ hb).2.2 _ _ h4⟩
    · cases h
  | _ => intro y h; cases h; exact rp_mono hle _ fun _ _ => ⟨rfl, rfl⟩
theorem okQ_gives {q : QR} {v : AV} (h : okQ q = some v) : q.gives v := by
  unfold okQ at h
  split at h
  · cases h; exact gives_ok.2 rfl
  · cases h
/-- A result, read. -/
def resOne (tmps : Array Value) : ResultVar → Sem Value
  | .tmp t => pure (tmps.getD t undef)
  | .cell a t => do loadVar t (← asAddr (tmps.getD a undef))
theorem results_one (fn : Func) (tmps : Array Value) : results fn tmps = (do let vs ← fn.results.mapM (resOne tmps); pure (if h : vs.size = 1 then vs[0] else .tuple vs)) := rfl
theorem readRes_sound {P : Program} {E : Env} {s : St} {a : Act} (hS : SI E s a) {x : ResultVar} {y : RRes} (hr : rRes P x = some y) {v : AV} (hv : readRes s y = some v) :
    ∃ z, (resOne a.tmps x).run P E.w = .ok z E.w ∧ Rp E v z := by
  cases x with
  | tmp t =>
    cases hr
    cases hv
    exact ⟨_, rfl, hS.tmps t⟩
  | cell t ty =>
    simp only [rRes] at hr
    split at hr
    · rename_i d i hu hi
      cases hr
      have hld : ∀ (b o : Nat), a.tmps.getD t undef = .pointer (some ⟨b, o, none⟩) → (resOne a.tmps (.cell t ty)).run P E.w = (Instr.loadAt ty (.pointer (some ⟨b, o, none⟩))).run P E.w := by
        intro b o h
        simp only [resOne, h]
        simp [asAddr, Instr.loadAt, Instr.sureAddr]
      split at hv
      · rename_i had
        obtain ⟨p, hp⟩ := gives_load (okQ_gives hv)
        obtain ⟨b, o, h1, l, h2, h3, h4⟩ := aload_sound hS (k := some i.size) (fun b o c v h hf => loads_take h hf) (hS.tmps t) hp
        exact ⟨_, (hld b o h1).trans (run_loadA hu had hi h2 h3), h4⟩
      · rename_i had
        obtain ⟨p, hp⟩ := gives_load (okQ_gives hv)
        obtain ⟨b, o, h1, y, h2, h3⟩ := aload_sound hS (k := none) (fun b o c v h hf => loads_first h hf) (hS.tmps t) hp
        exact ⟨_, (hld b o h1).trans (run_load1 hu (by simpa using had) h2), h3⟩
    · cases hr
theorem readRess_sound {P : Program} {E : Env} {s : St} {a : Act} (hS : SI E s a) : ∀ (l : List ResultVar) (q : List RRes) (c : AV), rRess P l = some q → readRess s q = some c →
    ∃ zs, (l.mapM (resOne a.tmps)).run P E.w = .ok zs E.w ∧ ListC E c zs
  | [], q, c, hr, hc => by cases hr; cases hc; exact ⟨[], rfl, listC_nil.2 rfl⟩
  | x :: l, q, c, hr, hc => by
    unfold rRess at hr
    split at hr
    · rename_i y q' hy hq
      cases hr
      unfold readRess at hc
      split at hc
      · rename_i v c' hv hc'
        cases hc
        obtain ⟨z, h1, h2⟩ := readRes_sound hS hy hv
        obtain ⟨zs, h3, h4⟩ := readRess_sound hS l q' c' hq hc'
        refine ⟨z :: zs, ?_, listC_cons.2 ⟨z, zs, rfl, h2, h4⟩⟩
        rw [List.mapM_cons]
        simp only [Sem.run_bind, h1, h3, Result.andThen_ok, Sem.run_pure]
      · cases hc
    · cases hr
theorem results_run {P : Program} {fn : Func} {E : Env} {s : St} {a : Act} (hS : SI E s a) {rs : List RRes} (hr : rRess P fn.results.toList = some rs) {v : AV} (hv : retv s rs = some v) :
    ∃ z, (results fn a.tmps).run P E.w = .ok z E.w ∧ Rp E v z := by
  unfold retv at hv
  have fold : ∀ zs : List Value, (fn.results.toList.mapM (resOne a.tmps)).run P E.w = .ok zs E.w →
      (results fn a.tmps).run P E.w = .ok (if h : zs.toArray.size = 1 then zs.toArray[0] else .tuple zs.toArray) E.w := by
    intro zs hz
    rw [results_one, Array.mapM_eq_mapM_toList]
    simp only [Sem.run_bind, Sem.run_map]
    rw [hz]
    simp only [Result.andThen_ok, Sem.run_pure]
  split at hv
  · rename_i v' hc
    cases hv
    obtain ⟨zs, h1, h2⟩ := readRess_sound hS _ _ _ hr hc
    obtain ⟨z, r, rfl, h3, h4⟩ := listC_cons.1 h2
    rw [listC_nil.1 h4] at h1
    exact ⟨z, by simpa using fold _ h1, h3⟩
  · rename_i c hne hc
    cases hv
    obtain ⟨zs, h1, h2⟩ := readRess_sound hS _ _ _ hr hc
    refine ⟨.tuple zs.toArray, ?_, rp_tup.2 ⟨zs, rfl, h2⟩⟩
    rw [fold _ h1]
    have : ¬ zs.toArray.size = 1 := by
      intro h
      cases zs with
      | nil => simp at h
      | cons z r =>
        have hr' : r = [] := by simpa using h
        subst hr'
        cases c with
        | cons p q =>
          obtain ⟨_, _, he, _, h4⟩ := listC_cons.1 h2
          cases he
          cases q with
          | nil => exact hne _ rfl
          | cons _ _ => obtain ⟨_, _, he, _⟩ := listC_cons.1 h4; cases he
          | _ => simp only [ListC] at h4
        | nil => have := listC_nil.1 h2; simp at this
        | _ => simp only [ListC] at h2
    rw [dif_neg this]
  · cases hv
/-- How a function ends, for who called it. -/
def OutOk (E : Env) (B : BL) (d : Nat) (K : ARes → BL → Prop) (e : Ending) (w' : World) : Prop :=
  ∃ E' r B', E'.w = w' ∧ K r B' ∧ Ends E' r e ∧ Inv E' B' ∧ Post E B E' B' (· = d) ∧ (∀ x, r.locs x → B'.liveAt x)
/-- The outer blocks at a function's end. -/
theorem outer_end {N : Nat} {E : Env} {B : BL} {E' : Env} {s : St} {a : Act} (hB : ∀ x, x < 10000 → ¬ B.liveAt x) (h : Rel N E B E' s a) {B'' : BL} (ho : outerF s.b s.b = some B'') (hbl : BL.okL B'' B'' = true) (d : Nat) :
    let F : Env := ⟨fun x => if x < 10000 then E.ρ x else E'.ρ x, fun x => if x < 10000 then E.rv x else E'.rv x, (E'.shut s.b).I, E'.w⟩
    (∀ v : AV, (∀ y, v.locs y → B''.liveAt y) → (∀ x, Rp (E'.shut s.b) v x → Rp F v x) ∧ (∀ l, ListC (E'.shut s.b) v l → ListC F v l)) ∧ Inv F B'' ∧ Post E B F B'' (· = d) := by
  intro F
  have hbl' := bl_okL hbl
  have hsh := E'.shut_le s.b
  have hFout : ∀ x, ¬ x < 10000 → F.ρ x = E'.ρ x ∧ F.rv x = E'.rv x := fun x hx => by simp [F, hx]
  have hFin : ∀ x, x < 10000 → F.ρ x = E.ρ x ∧ F.rv x = E.rv x := fun x hx => by simp [F, hx]
  have hle : (E'.shut s.b).Le F := ⟨fun _ _ h => h, fun _ _ _ => rfl⟩
  have hlout : ∀ x, B''.liveAt x → ¬ x < 10000 := by
    intro x hx hlt
    unfold BL.liveAt at hx
    rw [(outerF_get ho x).1 hlt] at hx
    simp [Blk.live] at hx
  have hk : ∀ x, ¬ x < 10000 → (B''.get x).isRow = (s.b.get x).isRow ∧ (B''.get x).live = (s.b.get x).live ∧ ∀ G : Env, (solid G x (B''.get x) ↔ solid G x (s.b.get x)) := by
    intro x hx
    have := (outerF_get ho x).2 hx
    cases hb : s.b.get x with
    | no => rw [hb] at this; rw [← Option.some.inj this]; exact ⟨rfl, rfl, fun _ => Iff.rfl⟩
    | row _ _ _ => rw [hb] at this; rw [← Option.some.inj this]; exact ⟨rfl, rfl, fun _ => Iff.rfl⟩
    | cells c =>
      rw [hb] at this
      unfold freezeK at this
      simp only at this
      split at this
      · rw [← Option.some.inj this]; exact ⟨rfl, rfl, fun _ => Iff.rfl⟩
      · cases this
  have hsol : ∀ x, solidAt F B'' x → ¬ x < 10000 ∧ solidAt E' s.b x := by
    intro x hx
    have hlt := hlout x (solid_live hx)
    refine ⟨hlt, ?_⟩
    unfold solidAt at hx ⊢
    exact (solid_same (hFout x hlt).2).1 (((hk x hlt).2.2 F).1 hx)
  have mono : ∀ v : AV, (∀ y, v.locs y → B''.liveAt y) → (∀ x, Rp (E'.shut s.b) v x → Rp F v x) ∧ (∀ l, ListC (E'.shut s.b) v l → ListC F v l) := fun v hv =>
    have := rp_mono hle v fun y hy => hFout y (hlout y (hv y hy))
    ⟨this.1, this.2.1⟩
  refine ⟨mono, ⟨fun x => ?_, fun x y hx hy hne => ?_, fun x hx => ?_, fun b o hi => ?_, hbl'⟩, ?_⟩
  · by_cases hlt : x < 10000
    · rw [(outerF_get ho x).1 hlt]; trivial
    · have hg := (outerF_get ho x).2 hlt
      have hb := h.inv.blk x
      cases hB : s.b.get x with
      | no => rw [hB] at hg; rw [← Option.some.inj hg]; trivial
      | row sz n g =>
        rw [hB] at hg hb
        have hg' : B''.get x = .row sz n g := (Option.some.inj hg).symm
        rw [hg']
        exact blk_mono (E := E') (E' := F) ⟨fun _ _ h => Or.inl h, fun _ _ _ => rfl⟩ hb (hFout x hlt).1 (hFout x hlt).2 (fun _ => rfl) (fun y hy => hy.elim)
      | cells c =>
        rw [hB] at hg hb
        unfold freezeK at hg
        simp only at hg
        split at hg
        · rename_i c' hc
          have hg' : B''.get x = .cells c' := (Option.some.inj hg).symm
          rw [hg']
          obtain ⟨l, e, h1, h2⟩ := hb
          exact ⟨l, e, by rw [(hFout x hlt).1]; exact h1, (mono c' fun y hy => hbl' x y (by rw [hg']; exact hy)).2 _ ((freeze_sound h.inv.blk c c' hc).2.1 _ h2)⟩
        · cases hg
  · obtain ⟨h1, h2⟩ := hsol x hx
    obtain ⟨h3, h4⟩ := hsol y hy
    rw [(hFout x h1).1, (hFout y h3).1]
    exact h.inv.dist x y h2 h4 hne
  · obtain ⟨h1, h2⟩ := hsol x hx
    rw [(hFout x h1).1]
    refine ⟨(h.inv.live x h2).1, fun o ho => ?_⟩
    rcases ho with ho | ⟨z, hz, hzl, he⟩
    · exact (h.inv.live x h2).2 o ho
    · exact h.inv.dist z x hzl h2 (fun q => h1 (q ▸ hz)) he
  · rcases hi with hi | ⟨z, hz, hzl, rfl⟩
    · exact h.inv.ibd b o hi
    · exact (h.inv.live z hzl).1
  · have hp := h.post
    refine ⟨⟨fun b o hi => .inl (hp.le.sub b o hi), fun b o hi => hp.le.cell b o hi⟩, fun x hx hr => ?_, fun x hx hr => ?_, hp.os, hp.tape, hp.output, hp.size, hp.old, fun x hx => ?_, fun x hx => ?_, fun x hx => ?_, fun b o hi => ?_⟩
    · by_cases hlt : x < 10000
      · exact hFin x hlt
      · rw [(hFout x hlt).1, (hFout x hlt).2]; exact hp.same x hlt hr
    · by_cases hlt : x < 10000
      · rw [(outerF_get ho x).1 hlt]; rfl
      · rw [(hk x hlt).1]; exact hp.kind x hlt hr
    · have hlt := hlout x hx
      have : s.b.liveAt x := by unfold BL.liveAt at hx ⊢; rw [← (hk x hlt).2.1]; exact hx
      exact (hp.dom x this).elim .inl fun q => (hlt q).elim
    · obtain ⟨h1, h2⟩ := hsol x hx
      rw [(hFout x h1).1]
      exact hp.new x h2
    · have hlt : ¬ x < 10000 := fun q => hB x q hx
      have := hp.keep x hx
      unfold BL.liveAt at this ⊢
      rw [(hk x hlt).2.1]; exact this
    · rcases hi with hi | ⟨z, hz, hzl, rfl⟩
      · exact hp.imm b o hi
      · rcases hp.new z hzl with ⟨h3, _⟩ | h3
        · exact (hB z hz (solid_live h3)).elim
        · exact .inr h3
theorem fin_sound {N : Nat} {E : Env} {B : BL} {E' : Env} {s : St} {a : Act} (hB : ∀ x, x < 10000 → ¬ B.liveAt x) (h : Rel N E B E' s a) {K : ARes → BL → Prop} {mk : AV → ARes} (hmk : ∀ v x, (mk v).locs x → v.locs x)
    {v : AV} (hf : fin K mk s (some v)) {x : Value} (hx : Rp E' v x) {e : Ending} (he : ∀ E'' v, Rp E'' v x → Ends E'' (mk v) e) {d : Nat} : OutOk E B d K e E'.w := by
  unfold fin at hf
  simp only at hf
  split at hf
  · rename_i v' B'' hfr ho
    split at hf
    · rename_i hok
      have hv' := (freeze_sound h.inv.blk v v' hfr).1 x hx
      unfold okOut at hok
      split at hok
      · rename_i hvl
        have hvl' := okL_spec v' hvl
        obtain ⟨h1, h2, h3⟩ := outer_end hB h ho hok d
        exact ⟨⟨fun x => if x < 10000 then E.ρ x else E'.ρ x, fun x => if x < 10000 then E.rv x else E'.rv x, (E'.shut s.b).I, E'.w⟩, mk v', B'', rfl, hf, he _ v' ((h1 v' hvl').1 x hv'), h2, h3, fun y hy => hvl' y (hmk v' y hy)⟩
      · cases hok
    · exact hf.elim
  · exact hf.elim
/-- A FUNCTION'S CONTRACT, of a function that defers nothing. -/
theorem call_of_awp {P : Th Program} {f : Nat} {fn : Func} {code : Code} {rc : RC} {rs : List RRes} {asL0 : List AV} {d : Nat} {B : BL} {K : ARes → BL → Prop} (F : Nat)
    (hf : (P .o).funcs[f]? = some fn) (hb : fn.body = some code) (hc : callable (P .o) f = true) (hres : res (P .o) fn.ntmps code = some rc.erase) (hrs : rRess (P .o) fn.results.toList = some rs)
    (hn : asL0.length ≤ fn.ntmps) (hB : onlyOuter B = true) (h : awp ⟨P, fn.ntmps, exitX rs K⟩ F [.code rc] ⟨params 0 asL0, B, .nil⟩) : CallAt P f asL0 d B K := by
  refine ⟨hc, fun E vs hinv hvs hloc hdead => calls_of_wp hf hb ?_⟩
  have hB' := onlyOuter_spec hB
  have hlen := chain_len asL0 vs hvs
  have hrel : Rel fn.ntmps E B E ⟨params 0 asL0, B, .nil⟩ { tmps := vs.toArray ++ Array.replicate (fn.ntmps - vs.toArray.size) undef, defers := [] } := by
    refine ⟨fun k => ?_, hinv, fun k y hy => hloc y (params_locs asL0 0 k y hy), ?_, rfl, fun y hy => hy.elim, .refl _ _ _⟩
    · have := params_get (E := E) asL0 0 vs (List.replicate (fn.ntmps - vs.length) undef) hvs (fun u hu => (List.mem_replicate.1 hu).2) k
      rw [Nat.zero_add] at this
      rw [show (vs.toArray ++ Array.replicate (fn.ntmps - vs.toArray.size) undef).getD k undef = (vs ++ List.replicate (fn.ntmps - vs.length) undef).getD k undef from by
        rw [Array.getD_eq_getD_getElem?, List.getD_eq_getElem?_getD]
        congr 1
        rw [← Array.getElem?_toList]
        simp]
      exact this
    · simp [hlen]; omega
  have hw := (awp_sound F _ _ h).run E B hB' E _ hrel code hres
  refine wp_mono hw fun e a w hq => ?_
  have hret : ∀ {E' : Env} {s : St}, Rel fn.ntmps E B E' s a → E'.w = w → exitX rs K none s → a.defers = [] ∧ ∃ v, (results fn a.tmps).run (P .o) w = .ok v w ∧ OutOk E B d K (.returned v) w := by
    rintro E' s hr rfl hX
    unfold exitX at hX
    try simp only at hX
    split at hX
    · rename_i hdf
      have hd := hr.df
      rw [hdf] at hd
      refine ⟨hd, ?_⟩
      cases hv : retv s rs with
      | none => rw [hv] at hX; exact hX.elim
      | some v =>
        rw [hv] at hX
        obtain ⟨z, h1, h2⟩ := results_run hr.si hrs hv
        exact ⟨z, h1, fin_sound (mk := .ret) (e := .returned z) hB' hr (fun _ _ h => h) hX h2 fun E'' v' h' => h'⟩
    · exact hX.elim
  cases e with
  | normal => obtain ⟨E', s, hr, he, hX⟩ := hq; exact hret hr he hX
  | ret => obtain ⟨E', s, hr, he, hX⟩ := hq; exact hret hr he hX
  | panic ch =>
    obtain ⟨E', s, v, x, hr, rfl, rfl, hv, hl, hX⟩ := hq
    unfold exitX at hX
    try simp only at hX
    split at hX
    · rename_i hdf
      have hd' := hr.df
      rw [hdf] at hd'
      exact ⟨hd', fin_sound (mk := .pan) (e := .panicked [{ v := x, recovered := false }]) hB' hr (fun _ _ h => h) hX hv fun E'' v' h' => ⟨x, rfl, h'⟩⟩
    · exact hX.elim
  | _ => exact hq.elim
end Go.Proofs.YtkklflpfklbbcaaDoor.Sx
/- A symbolic executor for the model's code: calls with other names for what is handed in, deferred functions. -/
namespace Go.Proofs.YtkklflpfklbbcaaDoor.Sx
open Go
set_option linter.unusedSimpArgs false
set_option linter.unusedVariables false
/-- Something that is done with values in a world. -/
abbrev Does := List Value → World → (Ending → World → Prop) → Prop
def Does.Mono (D : Does) : Prop := ∀ vs w R R', (∀ e w', R e w' → R' e w') → D vs w R → D vs w R'
def RunAt (D : Does) (asL0 : List AV) (d : Nat) (B : BL) (K : ARes → BL → Prop) : Prop :=
  ∀ (E : Env) (vs : List Value), Inv E B → ListC E (chain asL0) vs → (∀ x, (chain asL0).locs x → B.liveAt x) → ¬ B.liveAt d → D vs E.w (OutOk E B d K)
theorem CallAt.runAt {P : Th Program} {f : Nat} {asL0 : List AV} {d : Nat} {B : BL} {K : ARes → BL → Prop} (h : CallAt P f asL0 d B K) : RunAt (fun vs w R => Calls (P .o) f vs.toArray w R) asL0 d B K := h.run
def lk : List (Nat × Nat) → Nat → Option Nat
  | [], _ => none
  | (o, c) :: r, x => match o == x with | true => some c | false => lk r x
/-- The new name of a place. -/
def sg (ps : List (Nat × Nat)) (x : Nat) : Nat := match lk ps x with | some c => c | none => x
def swap : List (Nat × Nat) → List (Nat × Nat) | [] => [] | (o, c) :: r => (c, o) :: swap r
def fsts : List (Nat × Nat) → List Nat | [] => [] | (o, _) :: r => o :: fsts r
def snds : List (Nat × Nat) → List Nat | [] => [] | (_, c) :: r => c :: snds r
def ren (ps : List (Nat × Nat)) : AV → AV
  | .ptr d o => .ptr (sg ps d) o
  | .rptr d sz i o => .rptr (sg ps d) sz i o
  | .win d sz i o => .win (sg ps d) sz i o
  | .row d => .row (sg ps d)
  | .iptr c => .iptr (ren ps c)
  | .fn f a b => .fn f (ren ps a) (ren ps b)
  | .ifc t v => .ifc t (ren ps v)
  | .agg c => .agg (ren ps c)
  | .tup c => .tup (ren ps c)
  | .cons h t => .cons (ren ps h) (ren ps t)
  | x => x
def rens (ps : List (Nat × Nat)) : List AV → List AV | [] => [] | x :: r => ren ps x :: rens ps r
theorem chain_rens (ps : List (Nat × Nat)) : ∀ asL0, chain (rens ps asL0) = ren ps (chain asL0)
  | [] => rfl
  | x :: r => by simp [rens, chain, ren, chain_rens ps r]
def Blk.ren (ps : List (Nat × Nat)) : Blk → Blk | .cells c => .cells (Sx.ren ps c) | b => b
def ARes.ren (ps : List (Nat × Nat)) : ARes → ARes | .ret v => .ret (Sx.ren ps v) | .pan v => .pan (Sx.ren ps v)
/-- The blocks as the function sees them: outer name, own name. -/
def calleeL (qs : List (Nat × Nat)) (B : BL) : List (Nat × Nat) → BL
  | [] => .nil
  | (o, c) :: r => .cons o ((B.get c).ren qs) (calleeL qs B r)
def calleeB (ps : List (Nat × Nat)) (B : BL) : BL := calleeL (swap ps) B ps
def backL (ps : List (Nat × Nat)) (B' : BL) : List (Nat × Nat) → BL
  | [] => .nil
  | (o, c) :: r => .cons c ((B'.get o).ren ps) (backL ps B' r)
def backB (ps : List (Nat × Nat)) (d : Nat) (B' : BL) : BL := match (B'.get d).live with
  | true => .cons d ((B'.get d).ren ps) (backL ps B' ps)
  | false => backL ps B' ps
def nodup : List Nat → Bool | [] => true | x :: r => match r.contains x with | true => false | false => nodup r
/-- Does B have no block beside these? -/
def covers (cs : List Nat) (B : BL) : BL → Bool
  | .nil => true
  | .cons k _ r => match (B.get k).live, cs.contains k with | true, false => false | _, _ => covers cs B r
def okPs (B : BL) (ps : List (Nat × Nat)) (d : Nat) : Bool := match nodup (fsts ps), nodup (snds ps), closed B (snds ps) (snds ps), covers (snds ps) B B, (fsts ps).contains d with
  | true, true, true, true, false => true
  | _, _, _, _, _ => false
theorem lk_mem {x c : Nat} : ∀ {ps : List (Nat × Nat)}, lk ps x = some c → (x, c) ∈ ps
  | (o, c') :: r, h => by
    unfold lk at h
    split at h
    · rename_i he
      have : o = x := by simpa using he
      subst this
      rw [Option.some.inj h]; simp
    · exact List.mem_cons_of_mem _ (lk_mem h)
theorem mem_fsts {x c : Nat} : ∀ {ps : List (Nat × Nat)}, (x, c) ∈ ps → x ∈ fsts ps
  | (o, c') :: r, h => by
    rcases List.mem_cons.1 h with h | h
    · simp only [Prod.mk.injEq] at h; simp [fsts, h.1]
    · simp [fsts, mem_fsts h]
theorem mem_snds {x c : Nat} : ∀ {ps : List (Nat × Nat)}, (x, c) ∈ ps → c ∈ snds ps
  | (o, c') :: r, h => by
    rcases List.mem_cons.1 h with h | h
    · simp only [Prod.mk.injEq] at h; simp [snds, h.2]
    · simp [snds, mem_snds h]
theorem lk_of_mem {x c : Nat} : ∀ {ps : List (Nat × Nat)}, nodup (fsts ps) = true → (x, c) ∈ ps → lk ps x = some c
  | (o, c') :: r, hn, h => by
    unfold fsts nodup at hn
    split at hn
    · cases hn
    · rename_i ho
      have ho : o ∉ fsts r := by simpa using ho
      unfold lk
      rcases List.mem_cons.1 h with h | h
      · simp only [Prod.mk.injEq] at h
        rw [h.1, h.2]; simp
      · have : (o == x) = false := by
          simp only [beq_eq_false_iff_ne, ne_eq]
          intro he; subst he; exact ho (mem_fsts h)
        rw [this]
        exact lk_of_mem hn h
theorem swap_mem {x c : Nat} : ∀ {ps : List (Nat × Nat)}, (x, c) ∈ ps ↔ (c, x) ∈ swap ps
  | [] => by simp [swap]
  | (o, c') :: r => by
    simp only [swap, List.mem_cons, Prod.mk.injEq, swap_mem (ps := r)]
    constructor <;> (rintro (⟨h1, h2⟩ | h); exact .inl ⟨h2, h1⟩; exact .inr h)
theorem fsts_swap : ∀ ps : List (Nat × Nat), fsts (swap ps) = snds ps
  | [] => rfl
  | (o, c) :: r => by simp [swap, fsts, snds, fsts_swap r]
theorem snds_mem {c : Nat} : ∀ {ps : List (Nat × Nat)}, c ∈ snds ps → ∃ o, (o, c) ∈ ps
  | (o, c') :: r, h => by
    simp only [snds, List.mem_cons] at h
    rcases h with h | h
    · exact ⟨o, by simp [h]⟩
    · obtain ⟨o', h'⟩ := snds_mem h; exact ⟨o', List.mem_cons_of_mem _ h'⟩
theorem lk_none_of {x : Nat} {ps : List (Nat × Nat)} (h : x ∉ fsts ps) : lk ps x = none := by
  cases hl : lk ps x with
  | none => rfl
  | some c => exact (h (mem_fsts (lk_mem hl))).elim
theorem covers_spec {cs : List Nat} {B : BL} : ∀ {l : BL}, covers cs B l = true → ∀ x, l.has x = true → B.liveAt x → x ∈ cs
  | .nil, _, x, h, _ => by cases h
  | .cons k v r, h, x, hx, hl => by
    unfold covers at h
    unfold BL.has at hx
    split at h
    · cases h
    · rename_i hne
      split at hx
      · rename_i hk
        have hk : k = x := by simpa using hk
        subst hk
        unfold BL.liveAt at hl
        cases hc : cs.contains k with
        | true => simpa using hc
        | false => exact (hne hl hc).elim
      · exact covers_spec h x hx hl
theorem live_has {B : BL} {x : Nat} (h : B.liveAt x) : B.has x = true := by
  cases hh : B.has x with
  | true => rfl
  | false => unfold BL.liveAt at h; rw [has_not hh] at h; cases h
/-- Values under other names. -/
theorem ren_fwd {E E0 : Env} {ps : List (Nat × Nat)} (hle : E.Le E0) (x : AV) (h : ∀ y, x.locs y → E0.ρ (sg ps y) = E.ρ y ∧ E0.rv (sg ps y) = E.rv y) :
    (∀ v, Rp E x v → Rp E0 (ren ps x) v) ∧ (∀ l, ListC E x l → ListC E0 (ren ps x) l) ∧ (∀ b o, MemC E x b o → MemC E0 (ren ps x) b o) := by
  induction x with
  | ptr d o => exact ⟨fun v hv => by simp only [ren, Rp] at hv ⊢; rw [(h d rfl).1]; exact hv, fun _ h => h.elim, fun _ _ h => h.elim⟩
  | rptr d sz i o => exact ⟨fun v hv => by simp only [ren, Rp] at hv ⊢; rw [(h d rfl).1]; exact hv, fun _ h => h.elim, fun _ _ h => h.elim⟩
  | win d sz i o => exact ⟨fun v hv => by simp only [ren, Rp] at hv ⊢; rw [(h d rfl).2]; exact hv, fun _ h => h.elim, fun _ _ h => h.elim⟩
  | row d => exact ⟨fun v hv => by simp only [ren, Rp] at hv ⊢; rw [(h d rfl).2]; exact hv, fun _ h => h.elim, fun _ _ h => h.elim⟩
  | iptr c ih =>
    refine ⟨fun v hv => ?_, fun _ h => h.elim, fun _ _ h => h.elim⟩
    obtain ⟨b, o, h1, h2⟩ := hv
    exact ⟨b, o, h1, (ih h).2.2 _ _ h2⟩
  | fn f a b iha ihb =>
    refine ⟨fun v hv => ?_, fun _ h => h.elim, fun _ _ h => h.elim⟩
    obtain ⟨l, m, h1, h2, h3⟩ := hv
    exact ⟨l, m, h1, (iha fun y hy => h y (.inl hy)).2.1 _ h2, (ihb fun y hy => h y (.inr hy)).2.1 _ h3⟩
  | ifc t v ih =>
    refine ⟨fun v hv => ?_, fun _ h => h.elim, fun _ _ h => h.elim⟩
    obtain ⟨y, h1, h2⟩ := hv
    exact ⟨y, h1, (ih h).1 _ h2⟩
  | agg c ih =>
    refine ⟨fun v hv => ?_, fun _ h => h.elim, fun _ _ h => h.elim⟩
    obtain ⟨l, h1, h2⟩ := rp_agg.1 hv
    exact rp_agg.2 ⟨l, h1, (ih h).2.1 _ h2⟩
  | tup c ih =>
    refine ⟨fun v hv => ?_, fun _ h => h.elim, fun _ _ h => h.elim⟩
    obtain ⟨l, h1, h2⟩ := rp_tup.1 hv
    exact rp_tup.2 ⟨l, h1, (ih h).2.1 _ h2⟩
  | cons a b iha ihb =>
    refine ⟨fun _ h => h.elim, fun l hl => ?_, fun b' o hm => ?_⟩
    · obtain ⟨x, r, h1, h2, h3⟩ := hl
      exact ⟨x, r, h1, (iha fun y hy => h y (.inl hy)).1 _ h2, (ihb fun y hy => h y (.inr hy)).2.1 _ h3⟩
    · obtain ⟨⟨v, h1, h2, h3⟩, h4⟩ := hm
      exact ⟨⟨v, (hle.cell _ _ h2).trans h1, hle.sub _ _ h2, (iha fun y hy => h y (.inl hy)).1 _ h3⟩, (ihb fun y hy => h y (.inr hy)).2.2 _ _ h4⟩
  | _ => exact rp_mono hle _ fun y hy => hy.elim
theorem ren_locs {ps : List (Nat × Nat)} (x : AV) (z : Nat) : (ren ps x).locs z → ∃ y, x.locs y ∧ z = sg ps y := by
  induction x with
  | ptr d o => exact fun h => ⟨d, rfl, h⟩
  | rptr d s i o => exact fun h => ⟨d, rfl, h⟩
  | win d s i o => exact fun h => ⟨d, rfl, h⟩
  | row d => exact fun h => ⟨d, rfl, h⟩
  | iptr c ih => exact ih
  | fn f a b iha ihb => intro h; rcases h with h | h; (obtain ⟨y, h1, h2⟩ := iha h; exact ⟨y, .inl h1, h2⟩); (obtain ⟨y, h1, h2⟩ := ihb h; exact ⟨y, .inr h1, h2⟩)
  | ifc t v ih => exact ih
  | agg c ih => exact ih
  | tup c ih => exact ih
  | cons a b iha ihb => intro h; rcases h with h | h; (obtain ⟨y, h1, h2⟩ := iha h; exact ⟨y, .inl h1, h2⟩); (obtain ⟨y, h1, h2⟩ := ihb h; exact ⟨y, .inr h1, h2⟩)
  | _ => intro h; exact h.elim
theorem calleeL_get (qs : List (Nat × Nat)) (B : BL) (x : Nat) : ∀ ps : List (Nat × Nat), (calleeL qs B ps).get x = match lk ps x with | some c => (B.get c).ren qs | none => .no
  | [] => rfl
  | (o, c) :: r => by
    show (BL.cons o ((B.get c).ren qs) (calleeL qs B r)).get x = _
    rw [BL.get_cons]
    unfold lk
    by_cases h : o = x
    · rw [if_pos h]; simp [h]
    · have : (o == x) = false := by simpa using h
      rw [if_neg h, this]
      exact calleeL_get qs B x r
theorem backL_get (ps : List (Nat × Nat)) (B' : BL) (x : Nat) : ∀ l : List (Nat × Nat), (backL ps B' l).get x = match lk (swap l) x with | some o => (B'.get o).ren ps | none => .no
  | [] => rfl
  | (o, c) :: r => by
    show (BL.cons c ((B'.get o).ren ps) (backL ps B' r)).get x = _
    rw [BL.get_cons]
    unfold swap lk
    by_cases h : c = x
    · rw [if_pos h]; simp [h]
    · have : (c == x) = false := by simpa using h
      rw [if_neg h, this]
      exact backL_get ps B' x r
theorem blk_ren {ps : List (Nat × Nat)} (b : Blk) : (b.ren ps).isRow = b.isRow ∧ (b.ren ps).live = b.live := by cases b <;> exact ⟨rfl, rfl⟩
/-- A block under another name. -/
theorem blk_fwd {E E0 : Env} {ps : List (Nat × Nat)} (hle : E.Le E0) (hw : E0.w = E.w) {x z : Nat} {b : Blk} (hb : BlkRp E x b) (hρ : E0.ρ z = E.ρ x ∧ E0.rv z = E.rv x) (h : ∀ y, b.locs y → E0.ρ (sg ps y) = E.ρ y ∧ E0.rv (sg ps y) = E.rv y) : BlkRp E0 z (b.ren ps) := by
  cases b with
  | no => trivial
  | cells c =>
    obtain ⟨l, e, h1, h2⟩ := hb
    exact ⟨l, e, by rw [hρ.1, hw]; exact h1, (ren_fwd hle c h).2.1 _ h2⟩
  | row sz n g =>
    rcases hb with ⟨h0, h1⟩ | ⟨cap, cur, e, h1, h2, h3, h4, h5, h6⟩
    · exact .inl ⟨by rw [hρ.2]; exact h0, h1⟩
    · exact .inr ⟨cap, cur, e, by rw [hρ.1, hρ.2]; exact h1, by rw [hρ.1, hw]; exact h2, h3, h4, h5, fun i hi => ⟨(h6 i hi).1, (rp_mono hle _ fun y hy => ((AV.still_locs _).1 (h6 i hi).1.1 y hy).elim).2.1 _ (h6 i hi).2⟩⟩
theorem solid_fwd {E E0 : Env} {ps : List (Nat × Nat)} {x z : Nat} {b : Blk} (h : E0.rv z = E.rv x) : solid E0 z (b.ren ps) ↔ solid E x b := by
  cases b with
  | row sz n g => show E0.rv z ≠ _ ↔ E.rv x ≠ _; rw [h]
  | _ => exact Iff.rfl
theorem run_use {D : Does} (hD : D.Mono) {ps : List (Nat × Nat)} {asL0 as0 : List AV} {d : Nat} {B : BL} {K : ARes → BL → Prop} (hok : okPs B ps d = true) (has : rens (swap ps) asL0 = as0)
    (h : RunAt D as0 d (calleeB ps B) fun r B' => K (r.ren ps) (backB ps d B')) : RunAt D asL0 d B K := by
  intro E vs hinv hvs hloc hd
  unfold okPs at hok
  split at hok
  rotate_left
  · cases hok
  rename_i hn1 hn2 hcl hcov hdo
  have hdo : d ∉ fsts ps := by simpa using hdo
  have hcl := fun x hx => closed_spec hcl x hx
  have hcs : ∀ x, B.liveAt x → x ∈ snds ps := fun x hx => covers_spec hcov x (live_has hx) hx
  have hdc : d ∉ snds ps := fun hx => hd (hcl d hx).1
  have hn2' : nodup (fsts (swap ps)) = true := by rw [fsts_swap]; exact hn2
  -- pairs
  have hp1 : ∀ o c, (o, c) ∈ ps → lk ps o = some c ∧ lk (swap ps) c = some o := fun o c hm => ⟨lk_of_mem hn1 hm, lk_of_mem hn2' (swap_mem.1 hm)⟩
  let E0 : Env := ⟨fun x => E.ρ (sg ps x), fun x => E.rv (sg ps x), E.I, E.w⟩
  have hle : E.Le E0 := ⟨fun _ _ h => h, fun _ _ _ => rfl⟩
  have hE0 : ∀ o c, (o, c) ∈ ps → E0.ρ o = E.ρ c ∧ E0.rv o = E.rv c := fun o c hm => by simp [E0, sg, (hp1 o c hm).1]
  have hin : ∀ y, B.liveAt y → E0.ρ (sg (swap ps) y) = E.ρ y ∧ E0.rv (sg (swap ps) y) = E.rv y := by
    intro y hy
    obtain ⟨o, hm⟩ := snds_mem (hcs y hy)
    have : sg (swap ps) y = o := by simp [sg, (hp1 o y hm).2]
    rw [this]; exact hE0 o y hm
  have hB0 : ∀ x, (calleeB ps B).get x = match lk ps x with | some c => (B.get c).ren (swap ps) | none => .no := fun x => calleeL_get _ _ _ _
  have hB0m : ∀ o c, (o, c) ∈ ps → (calleeB ps B).get o = (B.get c).ren (swap ps) := fun o c hm => by rw [hB0, (hp1 o c hm).1]
  have hB0l : ∀ x, (calleeB ps B).liveAt x → ∃ c, (x, c) ∈ ps := by
    intro x hx
    unfold BL.liveAt at hx
    rw [hB0] at hx
    split at hx
    · rename_i c hc; exact ⟨c, lk_mem hc⟩
    · cases hx
  have hB0l' : ∀ o c, (o, c) ∈ ps → (calleeB ps B).liveAt o := fun o c hm => by
    unfold BL.liveAt
    rw [hB0m o c hm, (blk_ren _).2]
    exact (hcl c (mem_snds hm)).1
  have hsol0 : ∀ o c, (o, c) ∈ ps → (solidAt E0 (calleeB ps B) o ↔ solidAt E B c) := fun o c hm => by
    unfold solidAt
    rw [hB0m o c hm]
    exact solid_fwd (hE0 o c hm).2
  have hlocs0 : ∀ (x : AV), (∀ y, x.locs y → B.liveAt y) → ∀ z, (ren (swap ps) x).locs z → (calleeB ps B).liveAt z := by
    intro x hx z hz
    obtain ⟨y, h1, rfl⟩ := ren_locs x z hz
    obtain ⟨o, hm⟩ := snds_mem (hcs y (hx y h1))
    have : sg (swap ps) y = o := by simp [sg, (hp1 o y hm).2]
    rw [this]; exact hB0l' o y hm
  have hinv0 : Inv E0 (calleeB ps B) := by
    refine ⟨fun x => ?_, fun x y hx hy hne => ?_, fun x hx => ?_, hinv.ibd, fun x y hy => ?_⟩
    · cases hl : lk ps x with
      | none => rw [hB0, hl]; trivial
      | some c =>
        have hm := lk_mem hl
        rw [hB0m x c hm]
        exact blk_fwd hle rfl (hinv.blk c) (hE0 x c hm) fun y hy => hin y (hinv.nm c y hy)
    · obtain ⟨c, hc⟩ := hB0l x (solid_live hx)
      obtain ⟨c', hc'⟩ := hB0l y (solid_live hy)
      rw [(hE0 x c hc).1, (hE0 y c' hc').1]
      refine hinv.dist c c' ((hsol0 x c hc).1 hx) ((hsol0 y c' hc').1 hy) fun q => hne ?_
      subst q
      have h1 := (hp1 x c hc).2
      rw [(hp1 y c hc').2] at h1
      exact (Option.some.inj h1).symm
    · obtain ⟨c, hc⟩ := hB0l x (solid_live hx)
      rw [(hE0 x c hc).1]
      exact hinv.live c ((hsol0 x c hc).1 hx)
    · cases hl : lk ps x with
      | none => rw [hB0, hl] at hy; exact hy.elim
      | some c =>
        rw [hB0m x c (lk_mem hl)] at hy
        cases hb : B.get c with
        | no => rw [hb] at hy; exact hy.elim
        | row _ _ _ => rw [hb] at hy; exact hy.elim
        | cells ch =>
          rw [hb] at hy
          exact hlocs0 ch (fun y hy => hinv.nm c y (by rw [hb]; exact hy)) y hy
  have hd0 : ¬ (calleeB ps B).liveAt d := fun hx => by obtain ⟨c, hc⟩ := hB0l d hx; exact hdo (mem_fsts hc)
  subst has
  refine hD _ _ _ _ ?_ (h E0 vs hinv0 (by rw [chain_rens]; exact (ren_fwd hle _ fun y hy => hin y (hloc y hy)).2.1 _ hvs) (fun x hx => by rw [chain_rens] at hx; exact hlocs0 _ hloc x hx) hd0)
  rintro e w' ⟨E0', r, B0', rfl, hK, hend, hinv', hpost, hrl⟩
  let E' : Env := ⟨fun y => match lk (swap ps) y with | some o => E0'.ρ o | none => if y = d then E0'.ρ d else E.ρ y, fun y => match lk (swap ps) y with | some o => E0'.rv o | none => if y = d then E0'.rv d else E.rv y, E0'.I, E0'.w⟩
  have hle' : E0'.Le E' := ⟨fun _ _ h => h, fun _ _ _ => rfl⟩
  have hEm : ∀ o c, (o, c) ∈ ps → E'.ρ c = E0'.ρ o ∧ E'.rv c = E0'.rv o := fun o c hm => by simp [E', (hp1 o c hm).2]
  have hEd : E'.ρ d = E0'.ρ d ∧ E'.rv d = E0'.rv d := by simp [E', lk_none_of (show d ∉ fsts (swap ps) by rw [fsts_swap]; exact hdc)]
  have hEo : ∀ y, y ≠ d → y ∉ snds ps → E'.ρ y = E.ρ y ∧ E'.rv y = E.rv y := fun y h1 h2 => by simp [E', lk_none_of (show y ∉ fsts (swap ps) by rw [fsts_swap]; exact h2), h1]
  have hsgd : sg ps d = d := by simp [sg, lk_none_of hdo]
  have hout : ∀ z, B0'.liveAt z → E'.ρ (sg ps z) = E0'.ρ z ∧ E'.rv (sg ps z) = E0'.rv z := by
    intro z hz
    rcases hpost.dom z hz with h1 | h1
    · obtain ⟨c, hm⟩ := hB0l z h1
      have : sg ps z = c := by simp [sg, (hp1 z c hm).1]
      rw [this]; exact hEm z c hm
    · rw [h1, hsgd]; exact hEd
  have hBget : ∀ x, (backB ps d B0').get x = if x = d then (B0'.get d).ren ps else match lk (swap ps) x with | some o => (B0'.get o).ren ps | none => .no := by
    intro x
    unfold backB
    split
    · rw [BL.get_cons, backL_get]
      by_cases h1 : d = x
      · rw [if_pos h1, if_pos h1.symm]
      · rw [if_neg h1, if_neg (Ne.symm h1)]
    · rename_i hl
      rw [backL_get]
      by_cases h1 : x = d
      · rw [if_pos h1, h1, lk_none_of (show d ∉ fsts (swap ps) by rw [fsts_swap]; exact hdc), get_dead (by simp [BL.liveAt, hl] : ¬ B0'.liveAt d)]
        rfl
      · rw [if_neg h1]
  have hBm : ∀ o c, (o, c) ∈ ps → (backB ps d B0').get c = (B0'.get o).ren ps := fun o c hm => by
    rw [hBget, if_neg (fun q : c = d => hdc (q ▸ mem_snds hm)), (hp1 o c hm).2]
  have hBd : (backB ps d B0').get d = (B0'.get d).ren ps := by rw [hBget, if_pos rfl]
  have hBl : ∀ x, (backB ps d B0').liveAt x → x = d ∨ ∃ o, (o, x) ∈ ps := by
    intro x hx
    by_cases h1 : x = d
    · exact .inl h1
    · right
      unfold BL.liveAt at hx
      rw [hBget, if_neg h1] at hx
      split at hx
      · rename_i o ho; exact ⟨o, swap_mem.2 (lk_mem ho)⟩
      · cases hx
  have hBlm : ∀ o c, (o, c) ∈ ps → ((backB ps d B0').liveAt c ↔ B0'.liveAt o) := fun o c hm => by unfold BL.liveAt; rw [hBm o c hm, (blk_ren _).2]
  have hBld : (backB ps d B0').liveAt d ↔ B0'.liveAt d := by unfold BL.liveAt; rw [hBd, (blk_ren _).2]
  have hsolm : ∀ o c, (o, c) ∈ ps → (solidAt E' (backB ps d B0') c ↔ solidAt E0' B0' o) := fun o c hm => by
    unfold solidAt
    rw [hBm o c hm]
    exact solid_fwd (hEm o c hm).2
  have hsold : solidAt E' (backB ps d B0') d ↔ solidAt E0' B0' d := by unfold solidAt; rw [hBd]; exact solid_fwd hEd.2
  have hlocs' : ∀ (x : AV), (∀ y, x.locs y → B0'.liveAt y) → ∀ z, (ren ps x).locs z → (backB ps d B0').liveAt z := by
    intro x hx z hz
    obtain ⟨y, h1, rfl⟩ := ren_locs x z hz
    rcases hpost.dom y (hx y h1) with h2 | h2
    · obtain ⟨c, hm⟩ := hB0l y h2
      have : sg ps y = c := by simp [sg, (hp1 y c hm).1]
      rw [this]; exact (hBlm y c hm).2 (hx y h1)
    · rw [h2, hsgd]; exact hBld.2 (h2 ▸ hx y h1)
  have hnmb : ∀ o z, ((B0'.get o).ren ps).locs z → (backB ps d B0').liveAt z := by
    intro o z hz
    cases hb : B0'.get o with
    | no => rw [hb] at hz; exact hz.elim
    | row _ _ _ => rw [hb] at hz; exact hz.elim
    | cells ch => rw [hb] at hz; exact hlocs' ch (fun y hy => hinv'.nm o y (by rw [hb]; exact hy)) z hz
  -- where a solid place stands
  have hsolid : ∀ x, solidAt E' (backB ps d B0') x → ∃ o, solidAt E0' B0' o ∧ E'.ρ x = E0'.ρ o ∧ ((x = d ∧ o = d) ∨ (o, x) ∈ ps) := by
    intro x hx
    rcases hBl x (solid_live hx) with h1 | ⟨o, hm⟩
    · subst h1; exact ⟨x, hsold.1 hx, hEd.1, .inl ⟨rfl, rfl⟩⟩
    · exact ⟨o, (hsolm o x hm).1 hx, (hEm o x hm).1, .inr hm⟩
  have hren : ∀ v : AV, (∀ y, v.locs y → B0'.liveAt y) → ∀ x, Rp E0' v x → Rp E' (ren ps v) x := fun v hv x hx => (ren_fwd hle' v fun y hy => hout y (hv y hy)).1 x hx
  refine ⟨E', r.ren ps, backB ps d B0', rfl, hK, ?_, ⟨fun x => ?_, fun x y hx hy hne => ?_, fun x hx => ?_, hinv'.ibd, fun x z hz => ?_⟩, ?_, fun x hx => ?_⟩
  · cases r with
    | ret v => cases e with
      | returned x => exact hren v hrl x hend
      | _ => exact hend
    | pan v => cases e with
      | panicked ch => obtain ⟨x, h1, h2⟩ := hend; exact ⟨x, h1, hren v hrl x h2⟩
      | _ => exact hend
  · rw [hBget]
    split
    · rename_i h1
      subst h1
      exact blk_fwd hle' rfl (hinv'.blk x) hEd fun y hy => hout y (hinv'.nm x y hy)
    · split
      · rename_i o ho
        exact blk_fwd hle' rfl (hinv'.blk o) (hEm o x (swap_mem.2 (lk_mem ho))) fun y hy => hout y (hinv'.nm o y hy)
      · trivial
  · obtain ⟨o, h1, h2, h3⟩ := hsolid x hx
    obtain ⟨o', h4, h5, h6⟩ := hsolid y hy
    rw [h2, h5]
    refine hinv'.dist o o' h1 h4 fun q => hne ?_
    subst q
    rcases h3 with ⟨h3, h3'⟩ | h3 <;> rcases h6 with ⟨h6, h6'⟩ | h6
    · exact h3.trans h6.symm
    · exact (hdo (h3' ▸ mem_fsts h6)).elim
    · exact (hdo (h6' ▸ mem_fsts h3)).elim
    · have := (hp1 o x h3).1
      rw [(hp1 o y h6).1] at this
      exact (Option.some.inj this).symm
  · obtain ⟨o, h1, h2, _⟩ := hsolid x hx
    rw [h2]
    exact hinv'.live o h1
  · rw [hBget] at hz
    split at hz
    · exact hnmb d z hz
    · split at hz
      · rename_i o ho; exact hnmb o z hz
      · exact hz.elim
  · refine ⟨⟨fun b o hi => hpost.le.sub b o hi, fun b o hi => hpost.le.cell b o hi⟩, fun x hx hr => ?_, fun x hx hr => ?_, hpost.os, hpost.tape, hpost.output, hpost.size, fun b hb hn => hpost.old b hb fun x hx q => ?_, fun x hx => ?_, fun x hx => ?_, fun x hx => ?_, hpost.imm⟩
    · by_cases hc : x ∈ snds ps
      · obtain ⟨o, hm⟩ := snds_mem hc
        have hod : o ≠ d := fun q => hdo (q ▸ mem_fsts hm)
        have h1 := hpost.same o hod (by rw [hB0m o x hm, (blk_ren _).1]; exact hr)
        have h2 := hE0 o x hm
        have h3 := hEm o x hm
        exact ⟨h3.1.trans (h1.1.trans h2.1), h3.2.trans (h1.2.trans h2.2)⟩
      · exact hEo x hx hc
    · by_cases hc : x ∈ snds ps
      · obtain ⟨o, hm⟩ := snds_mem hc
        have hod : o ≠ d := fun q => hdo (q ▸ mem_fsts hm)
        rw [hBm o x hm, (blk_ren _).1]
        exact hpost.kind o hod (by rw [hB0m o x hm, (blk_ren _).1]; exact hr)
      · rw [hBget, if_neg hx, lk_none_of (show x ∉ fsts (swap ps) by rw [fsts_swap]; exact hc)]; rfl
    · obtain ⟨c, hm⟩ := hB0l x (solid_live hx)
      rw [(hE0 x c hm).1] at q
      exact hn c ((hsol0 x c hm).1 hx) q
    · rcases hBl x hx with h1 | ⟨o, hm⟩
      · exact .inr h1
      · exact .inl (hcl x (mem_snds hm)).1
    · obtain ⟨o, h1, h2, h3⟩ := hsolid x hx
      rcases h3 with ⟨h3, h3'⟩ | hm
      · subst h3'
        rcases hpost.new o h1 with ⟨h4, _⟩ | h4
        · exact (hd0 (solid_live h4)).elim
        · exact .inr (by rw [h2]; exact h4)
      · rcases hpost.new o h1 with ⟨h4, h5⟩ | h4
        · exact .inl ⟨(hsol0 o x hm).1 h4, by rw [h2, h5]; exact (hE0 o x hm).1⟩
        · exact .inr (by rw [h2]; exact h4)
    · obtain ⟨o, hm⟩ := snds_mem (hcs x hx)
      exact (hBlm o x hm).2 (hpost.keep o (hB0l' o x hm))
  · cases r with
    | ret v => exact hlocs' v hrl x hx
    | pan v => exact hlocs' v hrl x hx
/-- A CALL, BY A CONTRACT WITH OTHER NAMES FOR WHAT IS HANDED IN. -/
theorem CallAt.use {P : Th Program} {f : Nat} {asL0 : List AV} {d : Nat} {B : BL} {K : ARes → BL → Prop} (ps : List (Nat × Nat)) (as0 : List AV) (hok : okPs B ps d = true) (has : rens (swap ps) asL0 = as0)
    (h : CallAt P f as0 d (calleeB ps B) fun r B' => K (r.ren ps) (backB ps d B')) : CallAt P f asL0 d B K :=
  ⟨h.can, run_use (fun vs w R R' hr hc => hc.mono hr) hok has h.runAt⟩
end Go.Proofs.YtkklflpfklbbcaaDoor.Sx
/- A symbolic executor for the model's code: deferred functions that recover. -/
namespace Go.Proofs.YtkklflpfklbbcaaDoor.Sx
open Go
set_option linter.unusedSimpArgs false
set_option linter.unusedVariables false
def modeIn (panics : Bool) (x : Value) : FrameMode := match panics with | true => .panicking [{ v := x, recovered := false }] | false => .returning
def modeOut (panics : Bool) (x : Value) : FrameMode := match panics with | true => .panicking [{ v := x, recovered := true }] | false => .returning
/-- A deferred call, made while nothing (nif) or a panic with a value goes on; with a panic it recovers it. The first of its values is the panic's. -/
def doD (P : Th Program) (f : Nat) (panics : Bool) : Does := fun vs w R => match vs with
  | [] => False
  | x :: vs => CallsD (P .o) f vs.toArray (modeIn panics x) w fun e u' w' =>
      u' = (modeOut panics x) ∧ R e w'
theorem doD_mono (P : Th Program) (f : Nat) (p : Bool) : (doD P f p).Mono := by
  intro vs w R R' hr h
  unfold doD at h ⊢
  split at h
  · exact h.elim
  · exact h.mono fun e u' w' ⟨h1, h2⟩ => ⟨h1, hr _ _ h2⟩
/-- A contract of a deferred function. -/
structure DefAt (P : Th Program) (f : Nat) (panics : Bool) (asL0 : List AV) (B : BL) (K : BL → Prop) : Prop where
  can : callable (P .o) f = true
  run : RunAt (doD P f panics) asL0 9998 B fun r B' => match r with | .ret _ => K B' | .pan _ => False
theorem DefAt.use {P : Th Program} {f : Nat} {p : Bool} {asL0 : List AV} {B : BL} {K : BL → Prop} (ps : List (Nat × Nat)) (as0 : List AV) (hok : okPs B ps 9998 = true) (has : rens (swap ps) asL0 = as0)
    (h : DefAt P f p as0 (calleeB ps B) fun B' => K (backB ps 9998 B')) : DefAt P f p asL0 B K := by
  refine ⟨h.can, run_use (doD_mono P f p) hok has ?_⟩
  intro E vs h1 h2 h3 h4
  refine doD_mono P f p _ _ _ _ ?_ (h.run E vs h1 h2 h3 h4)
  rintro e w' ⟨E', r, B', a, hK, hend, c⟩
  cases r with
  | ret v => exact ⟨E', .ret v, B', a, hK, hend, c⟩
  | pan v => exact hK.elim
/-- How a deferred function ends, for its own walk. -/
def exitC (K : BL → Prop) : Option AV → St → Prop
  | none, s => match s.df with
    | .nil => match outerF s.b s.b with
      | some B => match BL.okL B B with | true => K B | false => False
      | none => False
    | _ => False
  | some _, _ => False
/-- The contract of a deferred function whose first region asks for the panic ('r := recover()'). -/
theorem def_of_awp {P : Th Program} {f : Nat} {fn : Func} {id t5 t1 : Nat} {ty1 ty2 : TypeId} {p1 p2 : String} {e1 e2 : Array Edge} {rest : Code} {rc : RC} {pv : AV} {asL0 : List AV} {B : BL} {K : BL → Prop} {panics : Bool} (F : Nat)
    (hf : (P .o).funcs[f]? = some fn) (hb : fn.body = some (.seq (.region id #[⟨some t5, .call { callee := .builtin .recover, args := #[], argTypes := #[] }, ty1, p1, e1, none⟩, ⟨some t1, .assign (.tmp t5), ty2, p2, e2, none⟩] false) rest))
    (hc : callable (P .o) f = true) (hres : res (P .o) fn.ntmps rest = some rc.erase) (hrs : fn.results = #[])
    (hn : asL0.length ≤ fn.ntmps) (h5 : t5 < fn.ntmps) (h1 : t1 < fn.ntmps) (hB : onlyOuter B = true) (hpv : panics = false → pv = .nif)
    (h : awp ⟨P, fn.ntmps, exitC K⟩ F [.code rc] ⟨.cons t1 pv (.cons t5 pv (params 0 asL0)), B, .nil⟩) : DefAt P f panics (pv :: asL0) B K := by
  refine ⟨hc, fun E vs hinv hvs hloc hdead => ?_⟩
  obtain ⟨x, vs, rfl, hx, hvs⟩ := listC_cons.1 hvs
  have hB' := onlyOuter_spec hB
  have hlen := chain_len asL0 vs hvs
  have hx0 : panics = false → x = .nilIface := fun hp => by rw [hpv hp] at hx; exact hx
  have hrel0 : Rel fn.ntmps E B E ⟨params 0 asL0, B, .nil⟩ { tmps := vs.toArray ++ Array.replicate (fn.ntmps - vs.toArray.size) undef, defers := [] } := by
    refine ⟨fun k => ?_, hinv, fun k y hy => hloc y (.inr (params_locs asL0 0 k y hy)), ?_, rfl, fun y hy => hy.elim, .refl _ _ _⟩
    · have := params_get (E := E) asL0 0 vs (List.replicate (fn.ntmps - vs.length) undef) hvs (fun u hu => (List.mem_replicate.1 hu).2) k
      rw [Nat.zero_add] at this
      rw [show (vs.toArray ++ Array.replicate (fn.ntmps - vs.toArray.size) undef).getD k undef = (vs ++ List.replicate (fn.ntmps - vs.length) undef).getD k undef from by
        rw [Array.getD_eq_getD_getElem?, List.getD_eq_getElem?_getD]
        congr 1
        rw [← Array.getElem?_toList]
        simp]
      exact this
    · simp [hlen]; omega
  have hpl : ∀ y, pv.locs y → B.liveAt y := fun y hy => hloc y (.inl hy)
  have hrel := (hrel0.value hB' (dst := some t5) (v := pv) (x := x) (fun d hd => by cases hd; exact h5) hx hpl).value hB' (dst := some t1) (v := pv) (x := x) (fun d hd => by cases hd; exact h1) hx hpl
  have hw := (awp_sound F _ _ h).run E B hB' E _ hrel rest hres
  show CallsD (P .o) f vs.toArray _ E.w _
  refine callsD_of_wpS hf hb fun c₀ cs hmode => wpS_seq (wpS_region ?_)
  simp only [List.range, List.range.loop, List.size_toArray, List.length_cons, List.length_nil, Nat.zero_add, Nat.reduceAdd]
  -- the first operation: recover
  have hsz : (vs.toArray ++ Array.replicate (fn.ntmps - vs.toArray.size) undef).size = fn.ntmps := hrel0.sz
  generalize (vs.toArray ++ Array.replicate (fn.ntmps - vs.toArray.size) undef) = T at hrel0 hrel hw hsz ⊢
  have hput1 : ∀ (tmps : Array Value), tmps.size = fn.ntmps → (Act.eval (Act.put { tmps := tmps, defers := [] } (some t5) x)) (.tmp t5) = x := by
    intro tmps hs
    show (tmps.setIfInBounds t5 x).getD t5 undef = x
    rw [getD_set _ _ _ _ _ (by rw [hs]; exact h5), if_pos rfl]
  have fin : ∀ (u' : FrameMode) (cs' : List Frame), u' = (modeOut panics x) → cs' = { c₀ with mode := u' } :: cs →
      rest.wpS (P .o) (bodyPostS (P .o) fn c₀ cs fun e u' w' => u' = (modeOut panics x) ∧ OutOk E B 9998 (fun r B' => match r with | .ret _ => K B' | .pan _ => False) e w')
        ((Act.put (Act.put { tmps := T, defers := [] } (some t5) x) (some t1) x)) cs' E.w := by
    intro u' cs' hu hcs
    refine wpS_of_wp (wp_mono hw fun e a w hq => ?_)
    have hret : ∀ {E' : Env} {s : St}, Rel fn.ntmps E B E' s a → E'.w = w → exitC K none s → a.defers = [] ∧ ∃ u', cs' = { c₀ with mode := u' } :: cs ∧ ∃ v, (results fn a.tmps).run (P .o) w = .ok v w ∧
        (u' = (modeOut panics x) ∧ OutOk E B 9998 (fun r B' => match r with | .ret _ => K B' | .pan _ => False) (.returned v) w) := by
      rintro E' s hr rfl hX
      unfold exitC at hX
      try simp only at hX
      split at hX
      · rename_i hdf
        have hd := hr.df
        rw [hdf] at hd
        refine ⟨hd, u', hcs, .tuple #[], results_none hrs _ _ _, hu, ?_⟩
        refine fin_sound (mk := .ret) (e := .returned (.tuple #[])) (v := .tup .nil) hB' hr (fun _ _ h => h) (K := fun r B' => match r with | .ret _ => K B' | .pan _ => False) ?_ (rp_tup.2 ⟨[], rfl, listC_nil.2 rfl⟩) fun E'' v' h' => h'
        unfold fin
        simp only [freeze, okOut, AV.okL]
        split at hX
        · rename_i B'' ho
          rw [ho]; exact hX
        · exact hX.elim
      · exact hX.elim
    cases e with
    | normal => obtain ⟨E', s, hr, he, hX⟩ := hq; exact hret hr he hX
    | ret => obtain ⟨E', s, hr, he, hX⟩ := hq; exact hret hr he hX
    | panic ch => obtain ⟨E', s, v, x, hr, rfl, rfl, hv, hl, hX⟩ := hq; exact hX.elim
    | _ => exact hq.elim
  have second : ∀ cs' a, a = Act.put { tmps := T, defers := [] } (some t5) x → (∃ u', u' = (modeOut panics x) ∧ cs' = { c₀ with mode := u' } :: cs) →
      wpOpsS (P .o) #[⟨some t5, .call { callee := .builtin .recover, args := #[], argTypes := #[] }, ty1, p1, e1, none⟩, ⟨some t1, .assign (.tmp t5), ty2, p2, e2, none⟩]
        (Exit.thenS (rest.wpS (P .o) (bodyPostS (P .o) fn c₀ cs fun e u' w' => u' = (modeOut panics x) ∧ OutOk E B 9998 (fun r B' => match r with | .ret _ => K B' | .pan _ => False) e w')) (bodyPostS (P .o) fn c₀ cs fun e u' w' => u' = (modeOut panics x) ∧ OutOk E B 9998 (fun r B' => match r with | .ret _ => K B' | .pan _ => False) e w')) [1] a cs' E.w := by
    rintro cs' a rfl ⟨u', hu, hcs⟩
    have he := hput1 _ hsz
    have hrun : (execOp (Act.eval (Act.put { tmps := T, defers := [] } (some t5) x)) ⟨some t1, .assign (.tmp t5), ty2, p2, e2, none⟩).run (P .o) E.w = .ok (.value x) E.w := by
      unfold execOp
      simp only [he]
      rfl
    simp only [wpOpsS, List.getElem?_toArray, List.getElem?_cons_succ, List.getElem?_cons_zero, Region.wanted, if_true]
    rw [hrun]
    exact fin u' cs' hu hcs
  have hrec : (execOp (Act.eval { tmps := T, defers := [] }) ⟨some t5, .call { callee := .builtin .recover, args := #[], argTypes := #[] }, ty1, p1, e1, none⟩).run (P .o) E.w = .ok .recover E.w := by
    unfold execOp
    simp [resolve, invoke, builtin]
  unfold wpOpsS
  simp only [List.getElem?_toArray, List.getElem?_cons_zero, Region.wanted, if_true]
  rw [hrec]
  have hmode' : c₀.mode = modeIn panics x := hmode
  cases panics with
  | true =>
    have : recoverD (c₀ :: cs) = some (x, { c₀ with mode := .panicking [{ v := x, recovered := true }] } :: cs) := by
      simp [recoverD, hmode', modeIn]
    simp only [this]
    exact second _ _ rfl ⟨_, rfl, rfl⟩
  | false =>
    have : recoverD (c₀ :: cs) = none := by simp [recoverD, hmode', modeIn]
    simp only [this]
    have h0 := hx0 rfl
    subst h0
    refine second _ _ rfl ⟨.returning, rfl, ?_⟩
    have : c₀ = { c₀ with mode := .returning } := by
      have hm : c₀.mode = .returning := hmode'
      cases c₀; simp at hm; subst hm; rfl
    rw [← this]
/-- How a function ends that may have deferred one call. -/
def exitD2 (P : Th Program) (rs : List RRes) (K : ARes → BL → Prop) (b : Bool) (pv : AV) (s : St) (g : Nat) (asL0 : List AV) (cs : List Nat) : Prop :=
  match (chain (pv :: asL0)).among cs, closed s.b cs cs with
  | true, true => DefAt P g b (pv :: asL0) (s.b.pick cs .nil) fun B' => fin K .ret ⟨(s.after 9998 cs B').t, (s.after 9998 cs B').b, .nil⟩ (retv ⟨(s.after 9998 cs B').t, (s.after 9998 cs B').b, .nil⟩ rs)
  | _, _ => False
def exitD1 (P : Th Program) (rs : List RRes) (K : ARes → BL → Prop) (b : Bool) (pv : AV) (s : St) (g : Nat) (asL0 : List AV) : Prop :=
  exitD2 P rs K b pv s g asL0 (reach s.b 100 ((chain (pv :: asL0)).ids []) [])
def exitD (P : Th Program) (rs : List RRes) (K : ARes → BL → Prop) (p : Option AV) (s : St) : Prop :=
  match s.df with
  | .nil => exitX rs K p s
  | .cons (.fn (.func g) first caps) .nil => match fresh s 9998 with
    | true => match p with
      | none => exitD1 P rs K false .nif s g (unchain first ++ unchain caps)
      | some v => exitD1 P rs K true v s g (unchain first ++ unchain caps)
    | false => False
  | _ => False
theorem leaves_of {P : Th Program} {N : Nat} {fn : Func} {E : Env} {B : BL} {E' : Env} {s : St} {a : Act} {d : Nat} (hB : ∀ x, x < 10000 → ¬ B.liveAt x) (h : Rel N E B E' s a) {rs : List RRes} {K : ARes → BL → Prop} (hrs : rRess (P .o) fn.results.toList = some rs)
    {g : Nat} {first caps pv : AV} (hdf : s.df = .cons (.fn (.func g) first caps) .nil) (hfr : fresh s 9998 = true) {panics : Bool} {x : Value} (hx : Rp E' pv x) (hpl : ∀ y, pv.locs y → s.b.liveAt y) {cs : List Nat}
    (hD : exitD2 P rs K panics pv s g (unchain first ++ unchain caps) cs) :
    Leaves (P .o) fn a.tmps (OutOk E B d K) a.defers (modeIn panics x) E'.w := by
  unfold exitD2 at hD
  split at hD
  rotate_left
  · exact hD.elim
  rename_i ham hcl
  have hd := h.df
  rw [hdf] at hd
  obtain ⟨m, l, t, h1, h2, h3, h4⟩ := hd
  have ht : t = [] := h4
  subst ht
  rw [h1]
  obtain ⟨h5, h6⟩ := unchain_sound h3
  obtain ⟨h7, h8⟩ := unchain_sound h2
  obtain ⟨hdead, hlt⟩ := fresh_spec hfr
  have hall : ListC E' (chain (pv :: (unchain first ++ unchain caps))) (x :: (l ++ m)) := listC_cons.2 ⟨x, _, rfl, hx, by rw [chain_app]; exact listC_app h5 h7⟩
  have hplive : ∀ y ∈ cs, (s.b.pick cs .nil).liveAt y := fun y hy => by
    unfold BL.liveAt
    rw [pick_get, if_pos hy]
    exact (closed_spec hcl y hy).1
  refine leaves_cons (f := g) (args := (l ++ m).toArray) (by cases panics <;> simp [modeIn]) ?_ ?_
  · unfold invoke
    simp only
    rw [run_callFunc hD.can]
    congr 2
    apply Array.ext'
    simp
  · have hrun := hD.run E' (x :: (l ++ m)) (h.inv.pick hcl) hall (fun y hy => hplive y (among_locs _ ham y hy)) (fun hy => ?_)
    · refine CallsD.mono hrun ?_
      rintro e u' w' ⟨hu, E'', r, B', rfl, hK, hend, hinv, hpost, _⟩
      cases r with
      | pan v => exact hK.elim
      | ret v =>
        cases e with
        | returned z =>
          have hset : settle u' = .returning := by subst hu; cases panics <;> simp [settle, modeOut]
          simp only [hset]
          have hr := (Rel.after (C := ⟨P, N, fun _ _ => True⟩) h hcl hdead hlt hinv hpost).1
          have hr' : Rel N E B E'' ⟨(s.after 9998 cs B').t, (s.after 9998 cs B').b, .nil⟩ { a with defers := [] } := ⟨hr.tmps, hr.inv, hr.tn, hr.sz, rfl, fun y hy => hy.elim, hr.post⟩
          cases hv : retv ⟨(s.after 9998 cs B').t, (s.after 9998 cs B').b, .nil⟩ rs with
          | none => rw [hv] at hK; exact hK.elim
          | some v =>
            rw [hv] at hK
            obtain ⟨z, h9, h10⟩ := results_run hr'.si hrs hv
            exact ⟨z, h9, fin_sound (mk := .ret) (e := .returned z) hB hr' (fun _ _ h => h) hK h10 fun E'' v' h' => h'⟩
        | _ => exact hend.elim
    · unfold BL.liveAt at hy
      rw [pick_get] at hy
      split at hy
      · rename_i hc; exact hdead (closed_spec hcl _ hc).1
      · simp [BL.get, Blk.live] at hy
/-- A FUNCTION'S CONTRACT, of a function that may defer one call. -/
theorem call_of_awp_d {P : Th Program} {f : Nat} {fn : Func} {code : Code} {rc : RC} {rs : List RRes} {asL0 : List AV} {d : Nat} {B : BL} {K : ARes → BL → Prop} (F : Nat)
    (hf : (P .o).funcs[f]? = some fn) (hb : fn.body = some code) (hc : callable (P .o) f = true) (hres : res (P .o) fn.ntmps code = some rc.erase) (hrs : rRess (P .o) fn.results.toList = some rs)
    (hn : asL0.length ≤ fn.ntmps) (hB : onlyOuter B = true) (h : awp ⟨P, fn.ntmps, exitD P rs K⟩ F [.code rc] ⟨params 0 asL0, B, .nil⟩) : CallAt P f asL0 d B K := by
  refine ⟨hc, fun E vs hinv hvs hloc hdead => calls_of_wp_defers hf hb ?_⟩
  have hB' := onlyOuter_spec hB
  have hlen := chain_len asL0 vs hvs
  have hrel : Rel fn.ntmps E B E ⟨params 0 asL0, B, .nil⟩ { tmps := vs.toArray ++ Array.replicate (fn.ntmps - vs.toArray.size) undef, defers := [] } := by
    refine ⟨fun k => ?_, hinv, fun k y hy => hloc y (params_locs asL0 0 k y hy), ?_, rfl, fun y hy => hy.elim, .refl _ _ _⟩
    · have := params_get (E := E) asL0 0 vs (List.replicate (fn.ntmps - vs.length) undef) hvs (fun u hu => (List.mem_replicate.1 hu).2) k
      rw [Nat.zero_add] at this
      rw [show (vs.toArray ++ Array.replicate (fn.ntmps - vs.toArray.size) undef).getD k undef = (vs ++ List.replicate (fn.ntmps - vs.length) undef).getD k undef from by
        rw [Array.getD_eq_getD_getElem?, List.getD_eq_getElem?_getD]
        congr 1
        rw [← Array.getElem?_toList]
        simp]
      exact this
    · simp [hlen]; omega
  have hw := (awp_sound F _ _ h).run E B hB' E _ hrel code hres
  refine wp_mono hw fun e a w hq => ?_
  have hret : ∀ {E' : Env} {s : St}, Rel fn.ntmps E B E' s a → E'.w = w → exitD P rs K none s → Leaves (P .o) fn a.tmps (OutOk E B d K) a.defers .returning w := by
    rintro E' s hr rfl hX
    unfold exitD at hX
    split at hX
    · rename_i hdf
      unfold exitX at hX
      simp only [hdf] at hX
      have hd := hr.df
      rw [hdf] at hd
      have hd' : a.defers = [] := hd
      rw [hd']
      cases hv : retv s rs with
      | none => rw [hv] at hX; exact hX.elim
      | some v =>
        rw [hv] at hX
        obtain ⟨z, h1, h2⟩ := results_run hr.si hrs hv
        exact ⟨z, h1, fin_sound (mk := .ret) (e := .returned z) hB' hr (fun _ _ h => h) hX h2 fun E'' v' h' => h'⟩
    · rename_i g first caps hdf
      split at hX
      · rename_i hfr
        exact leaves_of (panics := false) (x := .nilIface) hB' hr hrs hdf hfr (pv := .nif) (by simp [Rp]) (fun y hy => hy.elim) hX
      · exact hX.elim
    · exact hX.elim
  cases e with
  | normal => obtain ⟨E', s, hr, he, hX⟩ := hq; exact hret hr he hX
  | ret => obtain ⟨E', s, hr, he, hX⟩ := hq; exact hret hr he hX
  | panic ch =>
    obtain ⟨E', s, v, x, hr, rfl, rfl, hv, hl, hX⟩ := hq
    show Leaves (P .o) fn a.tmps (OutOk E B d K) a.defers (.panicking [{ v := x, recovered := false }]) E'.w
    have hX : exitD P rs K (some v) s := hX
    unfold exitD at hX
    split at hX
    · rename_i hdf
      unfold exitX at hX
      simp only [hdf] at hX
      have hd := hr.df
      rw [hdf] at hd
      have hd' : a.defers = [] := hd
      rw [hd']
      exact fin_sound (mk := .pan) (e := .panicked [{ v := x, recovered := false }]) hB' hr (fun _ _ h => h) hX hv fun E'' v' h' => ⟨x, rfl, h'⟩
    · rename_i g first caps hdf
      split at hX
      · rename_i hfr
        exact leaves_of (panics := true) (x := x) hB' hr hrs hdf hfr hv hl hX
      · exact hX.elim
    · exact hX.elim
  | _ => exact hq.elim
end Go.Proofs.YtkklflpfklbbcaaDoor.Sx
/- A symbolic executor for the model's code: laws that walks lean on. -/
namespace Go.Proofs.YtkklflpfklbbcaaDoor.Sx
open Go
set_option linter.unusedSimpArgs false
set_option linter.unusedVariables false
theorem zi_lt {a b : Nat} : zi a < zi b ↔ a < b := by unfold zi; omega
theorem zi_le {a b : Nat} : zi a ≤ zi b ↔ a ≤ b := by unfold zi; omega
theorem zi_inj {a b : Nat} : zi a = zi b ↔ a = b := by unfold zi; omega
theorem zi_toNat (n : Nat) : (zi n).toNat = n := by unfold zi; omega
theorem zi_nonneg (n : Nat) : 0 ≤ zi n := by unfold zi; omega
theorem zi_succ {k : Nat} (h : k < 9223372036854775807) : IntKind.i64.wrap (zi k + 1) = zi (k + 1) := by
  rw [IntKind.wrap_i64]; unfold zi; omega
/-- Values, each the same. -/
inductive SameL : List AV → List AV → Prop
  | nil : SameL [] []
  | cons {x y : AV} {l m : List AV} (h : Same x y) (k : SameL l m) : SameL (x :: l) (y :: m)
theorem SameL.chain {l m : List AV} (h : SameL l m) : SameC (Sx.chain l) (Sx.chain m) := by
  induction h with
  | nil => exact .nil
  | cons h _ ih => exact .cons h ih
/-- Other arguments, of which more is known. -/
theorem CallAt.args {P : Th Program} {f : Nat} {asL0 as' : List AV} {d : Nat} {B : BL} {K : ARes → BL → Prop} (hs : SameL asL0 as') (h : CallAt P f as' d B K) : CallAt P f asL0 d B K :=
  ⟨h.can, fun E vs h1 h2 h3 h4 => h.run E vs h1 (hs.chain.rp _ _ h2) (fun x hx => h3 x (hs.chain.locs x hx)) h4⟩
/-- r' says no more than r. -/
inductive SameR : ARes → ARes → Prop
  | ret {x y : AV} (h : Same x y) : SameR (.ret x) (.ret y)
  | pan {x y : AV} (h : Same x y) : SameR (.pan x) (.pan y)
/-- A result told otherwise. -/
theorem CallAt.res {P : Th Program} {f : Nat} {asL0 : List AV} {d : Nat} {B : BL} {K : ARes → BL → Prop} (h : CallAt P f asL0 d B fun r B' => ∃ r', SameR r r' ∧ K r' B') : CallAt P f asL0 d B K := by
  refine ⟨h.can, fun E vs h1 h2 h3 h4 => (h.run E vs h1 h2 h3 h4).mono ?_⟩
  rintro e w' ⟨E', r, B', a, ⟨r', hs, hK⟩, hend, hi, hp, hl⟩
  refine ⟨E', r', B', a, hK, ?_, hi, hp, ?_⟩
  · cases hs with
    | ret hs => cases e with
      | returned x => exact hs.rp _ _ hend
      | _ => exact hend.elim
    | pan hs => cases e with
      | panicked ch => obtain ⟨x, h7, h8⟩ := hend; exact ⟨x, h7, hs.rp _ _ h8⟩
      | _ => exact hend.elim
  · intro x hx
    cases hs with
    | ret hs => exact hl x (hs.locs x hx)
    | pan hs => exact hl x (hs.locs x hx)
/-- A call that is handed places, under the names that its contract has for them. -/
theorem CallAt.frameP {P : Th Program} {f : Nat} {asL0 : List AV} {d : Nat} {B : BL} {K : ARes → BL → Prop} (ps : List (Nat × Nat)) (as0 : List AV) (hok : okPs B ps d = true) (has : rens (swap ps) asL0 = as0)
    (h : ∀ K' : ARes → BL → Prop, (∀ r B', K (r.ren ps) (backB ps d B') → K' r B') → CallAt P f as0 d (calleeB ps B) K') : CallAt P f asL0 d B K := by
  refine CallAt.use ps as0 hok has ?_
  exact h _ fun r B' hK => hK
namespace R
def t (n : Nat) : Opd := .tmp n
def i (n : Int) : Opd := .val (.int .i64 fun _ => n)
def u (n : Int) : Opd := .val (.int .u8 fun _ => n)
def tt : Opd := .val .tt
def ff : Opd := .val .ff
def q (d : Nat) (o : RO) : ROp := ⟨some d, o, none⟩
def e (o : RO) : ROp := ⟨none, o, none⟩
def g (d : Nat) (o : RO) (k : Nat) (b : Bool) : ROp := ⟨some d, o, some (k, b)⟩
def f (o : ROp) : DOp := ⟨o, true, []⟩
def s (o : ROp) (us : List Nat) : DOp := ⟨o, false, us⟩
def z (n : Int) : AV := .int .i64 fun _ => n
end R
end Go.Proofs.YtkklflpfklbbcaaDoor.Sx
/- A symbolic executor for the model's code: laws that walks lean on, the second part. -/
namespace Go.Proofs.YtkklflpfklbbcaaDoor.Sx
open Go
set_option linter.unusedSimpArgs false
set_option linter.unusedVariables false
def Blk.cs : Blk → AV | .cells c => c | _ => .nil
/-- The chain with cell n another one. -/
def AV.put : AV → Nat → AV → AV
  | .cons _ t, 0, v => .cons v t
  | .cons h t, n + 1, v => .cons h (t.put n v)
  | c, _, _ => c
theorem loop_at {C : Cx} {b : RC} {k : List It} {s : St} {X : Type} (F : Nat) (ks bs : List Nat) (T : St → X → AL) (B : St → X → BL) (R : X → Prop) (m : X → Nat) (x0 : X)
    (h0 : fit s (s.head ks bs (T s x0) (B s x0))) (hR : R x0)
    (step : ∀ x, R x → awp C F (.code b :: .inv (fun s' => ∃ x', R x' ∧ m x' < m x ∧ fit s' (s.head ks bs (T s x') (B s x'))) :: k) (s.head ks bs (T s x) (B s x))) :
    Sound C (.code (.loop b) :: k) s := loop_rule F ks bs (T s) (B s) R m x0 h0 hR step
theorem br_zlt {a b : Nat} [Decidable (zi a < zi b)] {P Q : Prop} (h1 : a < b → P) (h2 : b ≤ a → Q) : (decide (zi a < zi b) = true → P) ∧ (decide (zi a < zi b) = false → Q) :=
  ⟨fun h => h1 (zi_lt.1 (of_decide_eq_true h)), fun h => h2 (Nat.le_of_not_lt fun q => of_decide_eq_false h (zi_lt.2 q))⟩
theorem not_zlt {a b : Nat} (h : ¬ zi a < zi b) : b ≤ a := Nat.le_of_not_lt fun q => h (zi_lt.2 q)
theorem br_dec {p : Prop} [Decidable p] {P Q : Prop} (h1 : p → P) (h2 : ¬ p → Q) : (decide p = true → P) ∧ (decide p = false → Q) :=
  ⟨fun h => h1 (of_decide_eq_true h), fun h => h2 (of_decide_eq_false h)⟩
theorem br_ndec {p : Prop} [Decidable p] {P Q : Prop} (h1 : ¬ p → P) (h2 : p → Q) : ((!decide p) = true → P) ∧ ((!decide p) = false → Q) :=
  ⟨fun h => h1 (of_decide_eq_false (by simpa using h)), fun h => h2 (of_decide_eq_true (by simpa using h))⟩
theorem br_bool {b : Bool} {P Q : Prop} (h1 : b = true → P) (h2 : b = false → Q) : (b = true → P) ∧ (b = false → Q) := ⟨h1, h2⟩
theorem br_nbool {b : Bool} {P Q : Prop} (h1 : b = false → P) (h2 : b = true → Q) : ((!b) = true → P) ∧ ((!b) = false → Q) :=
  ⟨fun h => h1 (by simpa using h), fun h => h2 (by simpa using h)⟩
theorem br_is {a : Bool} {P Q : Prop} (e : a = true) (h2 : P) : (a = true → P) ∧ (a = false → Q) := ⟨fun _ => h2, fun h => by rw [e] at h; cases h⟩
theorem br_not {a : Bool} {P Q : Prop} (e : a = false) (h2 : Q) : (a = true → P) ∧ (a = false → Q) := ⟨fun h => (by rw [e] at h; cases h), fun _ => h2⟩
theorem br_rev {b : Bool} {P Q : Prop} (h : (b = true → Q) ∧ (b = false → P)) : (b = false → P) ∧ (b = true → Q) := ⟨h.2, h.1⟩
theorem safe {p Q : Prop} (h1 : p) (h2 : Q) : (True → p) ∧ Q := ⟨fun _ => h1, h2⟩
section
variable {α : Type}
def rowB (sz : Nat) (ch : Th α → AV) (z : α) (l : Th (List α)) : Blk := .row sz (fun _ => (l .o).length) fun i => ch fun _ => (l .o).getD (i .o) z
theorem Fits.of_eq {x y : AV} (h : x = y) : Fits x y := h ▸ ⟨id, fun _ _ h => h⟩
/-- Behind an append: the elements one behind the other. -/
theorem app_rows {bytes : Nat} {n m : Th Nat} {g gy : Th Nat → AV} {K : Th Nat → (Th Nat → AV) → Prop} (ch : Th α → AV) (z : α) (xs ys : List α) (hn : n .o = xs.length) (hg : ∀ i, i < xs.length → g (fun _ => i) = ch fun _ => xs.getD i z)
    (hm : m .o = ys.length) (hy : ∀ i, i < ys.length → gy (fun _ => i) = ch fun _ => ys.getD i z) (hroom : (xs.length + ys.length) * bytes ≤ 140737488355328)
    (h : K (fun _ => (xs ++ ys).length) fun i => ch fun _ => (xs ++ ys).getD (i .o) z) : AppAt bytes n m g gy K := by
  refine ⟨by rw [hn, hm]; exact hroom, _, _, by rw [hn, hm]; simp, fun i hi => ?_, fun j hj => ?_, h⟩
  · refine Fits.of_eq ((hg i (by omega)).trans ?_)
    congr 1
    funext _
    simp only [List.getD_eq_getElem?_getD]
    rw [List.getElem?_append_left (by omega)]
  · refine Fits.of_eq ((hy j (by omega)).trans ?_)
    congr 1
    funext _
    simp only [List.getD_eq_getElem?_getD]
    rw [hn, List.getElem?_append_right (by omega), Nat.add_sub_cancel_left]
theorem app_one {bytes : Nat} {n m : Th Nat} {g gy : Th Nat → AV} {K : Th Nat → (Th Nat → AV) → Prop} (ch : Th α → AV) (z : α) (xs : List α) (y : α) (hn : n .o = xs.length) (hg : ∀ i, i < xs.length → g (fun _ => i) = ch fun _ => xs.getD i z)
    (hm : m .o = 1) (hy : gy (fun _ => 0) = ch fun _ => y) (hroom : (xs.length + 1) * bytes ≤ 140737488355328)
    (h : K (fun _ => (xs ++ [y]).length) fun i => ch fun _ => (xs ++ [y]).getD (i .o) z) : AppAt bytes n m g gy K :=
  app_rows ch z xs [y] hn hg hm (fun i hi => by
    have : i = 0 := by simpa using hi
    subst this
    exact hy) hroom h
/-- Behind a store into element i. -/
theorem put_rows {n i : Th Nat} {g : Th Nat → AV} {c : Option AV} {K : (Th Nat → AV) → Prop} (ch : Th α → AV) (z : α) (xs : List α) (v : α) (hn : n .o = xs.length) (hg : ∀ i, i < xs.length → g (fun _ => i) = ch fun _ => xs.getD i z)
    (hi : i .o < xs.length) (hc : c = some (ch fun _ => v)) (h : K fun j => ch fun _ => (xs.set (i .o) v).getD (j .o) z) : PutAt n i g c K := by
  refine ⟨by rw [hn]; exact hi, _, _, hc, fun j hj hne => ?_, ?_, h⟩
  · refine Fits.of_eq ((hg j (by omega)).trans ?_)
    congr 1
    funext _
    simp only [List.getD_eq_getElem?_getD]
    rw [List.getElem?_set_ne (Ne.symm hne)]
  · refine Fits.of_eq ?_
    congr 1
    funext _
    simp only [List.getD_eq_getElem?_getD]
    rw [List.getElem?_set_self hi]
    rfl
theorem getD_drop (l : List α) (k i : Nat) (z : α) : (l.drop k).getD i z = l.getD (k + i) z := by simp [List.getD_eq_getElem?_getD, List.getElem?_drop]
end
end Go.Proofs.YtkklflpfklbbcaaDoor.Sx
/- A symbolic executor for the model's code: rows that stay open where they are handed on; contracts out of the machine's own laws. -/
namespace Go.Proofs.YtkklflpfklbbcaaDoor.Sx
open Go Go.RowKit
set_option linter.unusedSimpArgs false
set_option linter.unusedVariables false
theorem fzr_locs {d q : Nat} (x : AV) (z : Nat) : (x.fz d (.row q)).locs z → z = q ∨ (x.locs z ∧ z ≠ d) := by
  have key : ∀ {a b : Nat}, (a == b) = false → a ≠ b := fun h => by simpa using h
  induction x with
  | row x => intro h; unfold AV.fz at h; split at h
             · exact .inl h
             · rename_i hx; exact .inr ⟨h, by rw [show z = x from h]; exact key hx⟩
  | ptr x o => intro h; unfold AV.fz at h; split at h
               · exact h.elim
               · rename_i hx; exact .inr ⟨h, by rw [show z = x from h]; exact key hx⟩
  | rptr x s i o => intro h; unfold AV.fz at h; split at h
                    · exact h.elim
                    · rename_i hx; exact .inr ⟨h, by rw [show z = x from h]; exact key hx⟩
  | win x s i o => intro h; unfold AV.fz at h; split at h
                   · exact h.elim
                   · rename_i hx; exact .inr ⟨h, by rw [show z = x from h]; exact key hx⟩
  | iptr c ih => exact ih
  | fn f a b iha ihb => exact fun h => h.elim (fun h => (iha h).imp id fun q => ⟨.inl q.1, q.2⟩) fun h => (ihb h).imp id fun q => ⟨.inr q.1, q.2⟩
  | ifc t v ih => exact ih
  | agg c ih => exact ih
  | tup c ih => exact ih
  | cons a b iha ihb => exact fun h => h.elim (fun h => (iha h).imp id fun q => ⟨.inl q.1, q.2⟩) fun h => (ihb h).imp id fun q => ⟨.inr q.1, q.2⟩
  | _ => intro h; exact h.elim
/-- A row of one's own under another number (from 9500 on: it stays open where it is handed on). -/
theorem Rel.keep {N : Nat} {E0 : Env} {B0 : BL} {E : Env} {s : St} {a : Act} (h : Rel N E0 B0 E s a) (hB0 : ∀ x, x < 10000 → ¬ B0.liveAt x) {p q sz : Nat} {n : Th Nat} {g : Th Nat → AV} (hb : s.b.get p = .row sz n g) (hp : p < 10000) (hf : fresh s q = true) :
    ∃ E', E'.w = E.w ∧ Rel N E0 B0 E' ⟨s.t.fz p (.row q), .cons q (.row sz n g) (.cons p .no (s.b.fz p (.row q))), s.df.fz p (.row q)⟩ a := by
  obtain ⟨hdead, hlt⟩ := fresh_spec hf
  have hpl : s.b.liveAt p := by simp [BL.liveAt, hb, Blk.live]
  have hqp : q ≠ p := fun e => hdead (e ▸ hpl)
  let E' : Env := ⟨fun x => if x = q then E.ρ p else E.ρ x, fun x => if x = q then E.rv p else E.rv x, E.I, E.w⟩
  have hle : E.Le E' := ⟨fun _ _ h => h, fun _ _ _ => rfl⟩
  have hne : ∀ x, x ≠ q → E'.ρ x = E.ρ x ∧ E'.rv x = E.rv x := fun x hx => by simp [E', hx]
  have hq : E'.ρ q = E.ρ p ∧ E'.rv q = E.rv p := by simp [E']
  have hnl : ∀ y, s.b.liveAt y → E'.ρ y = E.ρ y ∧ E'.rv y = E.rv y := fun y hy => hne y fun e => hdead (e ▸ hy)
  have hy : ∀ v, Rp E' (.row p) v → Rp E' (.row q) v := fun v hv => ⟨by rw [hq.2, ← (hne p (Ne.symm hqp)).2]; exact hv.1, hv.2⟩
  have hget : ∀ x, (BL.cons q (.row sz n g) (.cons p .no (s.b.fz p (.row q)))).get x = if q = x then .row sz n g else if p = x then .no else (s.b.get x).fz p (.row q) := by
    intro x; rw [BL.get_cons, BL.get_cons, bl_fz]
  have hlive : ∀ x, (BL.cons q (.row sz n g) (.cons p .no (s.b.fz p (.row q)))).liveAt x ↔ (x = q ∨ (s.b.liveAt x ∧ x ≠ p)) := by
    intro x
    unfold BL.liveAt
    rw [hget]
    split
    · rename_i e; simp [Blk.live, e.symm]
    · rename_i e
      split
      · rename_i e2; subst e2; simp [Blk.live, Ne.symm e]
      · rename_i e2; rw [blk_fz_live]; simp [Ne.symm e, Ne.symm e2]
  have hsol : ∀ x, solidAt E' (BL.cons q (.row sz n g) (.cons p .no (s.b.fz p (.row q)))) x → (x = q ∧ solidAt E s.b p ∧ E'.ρ x = E.ρ p) ∨ (x ≠ p ∧ x ≠ q ∧ solidAt E s.b x ∧ E'.ρ x = E.ρ x) := by
    intro x hx
    unfold solidAt at hx
    rw [hget] at hx
    split at hx
    · rename_i e
      subst e
      refine .inl ⟨rfl, ?_, hq.1⟩
      unfold solidAt
      rw [hb]
      show E.rv p ≠ _
      rw [← hq.2]
      exact hx
    · rename_i e
      split at hx
      · exact hx.elim
      · rename_i e2
        refine .inr ⟨Ne.symm e2, Ne.symm e, ?_, (hne x (Ne.symm e)).1⟩
        unfold solidAt
        cases hB : s.b.get x with
        | no => rw [hB] at hx; exact hx
        | cells c => trivial
        | row _ _ _ => rw [hB] at hx; show E.rv x ≠ _; rw [← (hne x (Ne.symm e)).2]; exact hx
  have mono : ∀ x : AV, (∀ y, x.locs y → s.b.liveAt y) → (∀ v, Rp E x v → Rp E' x v) ∧ (∀ l, ListC E x l → ListC E' x l) ∧ (∀ b o, MemC E x b o → MemC E' x b o) := fun x hx => rp_mono hle x fun y hy => hnl y (hx y hy)
  have hold : ∀ x b, BlkRp E x b → x ≠ q → (∀ y, b.locs y → s.b.liveAt y) → BlkRp E' x b := fun x b hb hx hl => blk_mono hle hb (hne x hx).1 (hne x hx).2 (fun _ => rfl) fun y hy => hnl y (hl y hy)
  refine ⟨E', rfl, ⟨fun k => ?_, ⟨fun x => ?_, fun x y hx hy hxy => ?_, fun x hx => ?_, h.inv.ibd, fun x z hz => ?_⟩, fun k z hz => ?_, h.sz, df_fz hy _ _ (dfRp_mono hle s.df (fun y hy => hnl y (h.dn y hy)) _ h.df), fun z hz => ?_, ?_⟩⟩
  · show Rp E' ((s.t.fz p (.row q)).get k) _
    rw [al_fz]
    exact (rp_fz hy _).1 _ ((mono _ (h.tn k)).1 _ (h.tmps k))
  · show BlkRp E' x ((BL.cons q (.row sz n g) (.cons p .no (s.b.fz p (.row q)))).get x)
    rw [hget]
    split
    · rename_i e
      subst e
      have := h.inv.blk p
      rw [hb] at this
      rcases this with ⟨h1, h2⟩ | ⟨cap, cur, e', k1, k2, k3, k4, k5, k6⟩
      · exact .inl ⟨hq.2.trans h1, h2⟩
      · exact .inr ⟨cap, cur, e', by rw [hq.1, hq.2]; exact k1, by rw [hq.1]; exact k2, k3, k4, k5, fun i hi => ⟨(k6 i hi).1, (rp_mono hle _ fun y hy => ((AV.still_locs _).1 (k6 i hi).1.1 y hy).elim).2.1 _ (k6 i hi).2⟩⟩
    · rename_i e
      split
      · trivial
      · have hx := hold x _ (h.inv.blk x) (Ne.symm e) (h.inv.nm x)
        cases hB : s.b.get x with
        | no => trivial
        | cells c =>
          rw [hB] at hx
          obtain ⟨l, e', h7, h8⟩ := hx
          exact ⟨l, e', h7, (rp_fz hy c).2.1 _ h8⟩
        | row _ _ _ => rw [hB] at hx; exact hx
  · rcases hsol x hx with ⟨e1, e2, e3⟩ | ⟨e1, e0, e2, e3⟩ <;> rcases hsol y hy with ⟨k1, k2, k3⟩ | ⟨k1, k0, k2, k3⟩
    · exact (hxy (e1.trans k1.symm)).elim
    · rw [e3, k3]; exact h.inv.dist p y e2 k2 (Ne.symm k1)
    · rw [e3, k3]; exact h.inv.dist x p e2 k2 e1
    · rw [e3, k3]; exact h.inv.dist x y e2 k2 hxy
  · rcases hsol x hx with ⟨e1, e2, e3⟩ | ⟨e1, e0, e2, e3⟩
    · rw [e3]; exact h.inv.live p e2
    · rw [e3]; exact h.inv.live x e2
  · have hz : ((BL.cons q (.row sz n g) (.cons p .no (s.b.fz p (.row q)))).get x).locs z := hz
    rw [hget] at hz
    split at hz
    · exact hz.elim
    · split at hz
      · exact hz.elim
      · cases hB : s.b.get x with
        | cells c =>
          rw [hB] at hz
          refine (hlive z).2 ((fzr_locs c z hz).imp id fun q => ⟨h.inv.nm x z (by rw [hB]; exact q.1), q.2⟩)
        | no => rw [hB] at hz; exact hz.elim
        | row _ _ _ => rw [hB] at hz; exact hz.elim
  · change ((s.t.fz p (.row q)).get k).locs z at hz
    rw [al_fz] at hz
    exact (hlive z).2 ((fzr_locs _ z hz).imp id fun q => ⟨h.tn k z q.1, q.2⟩)
  · exact (hlive z).2 ((fzr_locs _ z hz).imp id fun q => ⟨h.dn z q.1, q.2⟩)
  · have hp' := h.post
    have hout : ∀ x, ¬ x < 10000 → x ≠ q ∧ x ≠ p := fun x hx => ⟨fun e => hx (e ▸ hlt), fun e => hx (e ▸ hp)⟩
    refine ⟨hp'.le.trans hle, fun x hx hr => ?_, fun x hx hr => ?_, hp'.os, hp'.tape, hp'.output, hp'.size, hp'.old, fun x hx => ?_, fun x hx => ?_, fun x hx => ?_, hp'.imm⟩
    · have h1 := hp'.same x hx hr
      have h2 := hne x (hout x hx).1
      exact ⟨h2.1.trans h1.1, h2.2.trans h1.2⟩
    · have h7 := hp'.kind x hx hr
      show ((BL.cons q (.row sz n g) (.cons p .no (s.b.fz p (.row q)))).get x).isRow = false
      rw [hget, if_neg (Ne.symm (hout x hx).1), if_neg (Ne.symm (hout x hx).2)]
      cases hB : s.b.get x <;> rw [hB] at h7 <;> first | rfl | cases h7
    · rcases (hlive x).1 hx with e | ⟨h1, _⟩
      · exact .inr (e ▸ hlt)
      · exact hp'.dom x h1
    · rcases hsol x hx with ⟨e1, e2, e3⟩ | ⟨e1, e0, e2, e3⟩
      · rcases hp'.new p e2 with ⟨h1, _⟩ | h1
        · exact (hB0 p hp (solid_live h1)).elim
        · exact .inr (by rw [e3]; exact h1)
      · rw [e3]; exact hp'.new x e2
    · have hx' : ¬ x < 10000 := fun e => hB0 x e hx
      exact (hlive x).2 (.inr ⟨hp'.keep x hx, (hout x hx').2⟩)
/-- A contract out of what the machine does: a call that turns nothing that lay there, and yields what names nothing in memory. -/
theorem CallAt.of_below {P : Th Program} {f : Nat} {asL0 : List AV} {d : Nat} {B : BL} {K : ARes → BL → Prop} (hc : callable (P .o) f = true)
    (h : ∀ (E : Env) (vs : List Value), (∀ b o, E.I b o → b < E.w.heap.size) → ListC E (chain asL0) vs → Calls (P .o) f vs.toArray E.w fun e w' => ∃ r, r.flat = true ∧ Ends E r e ∧ K r B ∧ Below E.w.heap.size E.w w') : CallAt P f asL0 d B K := by
  refine ⟨hc, fun E vs hinv hvs hl hd => (h E vs hinv.ibd hvs).mono ?_⟩
  rintro e w' ⟨r, hfl, hend, hK, hb⟩
  have hle : E.Le ⟨E.ρ, E.rv, E.I, w'⟩ := ⟨fun _ _ h => h, fun b o hi => hb.cell (p := ⟨b, o, none⟩) (hinv.ibd b o hi)⟩
  have hsol : ∀ x, solidAt ⟨E.ρ, E.rv, E.I, w'⟩ B x ↔ solidAt E B x := fun x => solid_same rfl
  have hends : Ends ⟨E.ρ, E.rv, E.I, w'⟩ r e := by
    cases r with
    | ret v => cases e with
      | returned x => exact (flat_spec v hfl).1 _ hend
      | _ => exact hend.elim
    | pan v => cases e with
      | panicked ch => obtain ⟨x, k1, k2⟩ := hend; exact ⟨x, k1, (flat_spec v hfl).1 _ k2⟩
      | _ => exact hend.elim
  refine ⟨⟨E.ρ, E.rv, E.I, w'⟩, r, B, rfl, hK, hends, ⟨fun x => ?_, fun x y hx hy => hinv.dist x y ((hsol x).1 hx) ((hsol y).1 hy), fun x hx => ?_, fun b o hi => Nat.lt_of_lt_of_le (hinv.ibd b o hi) hb.size, hinv.nm⟩,
    ⟨hle, fun _ _ _ => ⟨rfl, rfl⟩, fun _ _ h => h, hb.os, hb.tape, hb.output, hb.size, fun b hlt _ => hb.block b hlt, fun _ h => .inl h, fun x hx => .inl ⟨(hsol x).1 hx, rfl⟩, fun _ h => h, fun _ _ h => .inl h⟩, fun x hx => ?_⟩
  · exact blk_mono hle (hinv.blk x) rfl rfl (fun hs => hb.block _ (hinv.live x hs).1) fun _ _ => ⟨rfl, rfl⟩
  · have := hinv.live x ((hsol x).1 hx)
    exact ⟨Nat.lt_of_lt_of_le this.1 hb.size, this.2⟩
  · cases r with
    | ret v => exact ((flat_spec (E := E) (E' := E) v hfl).2.2 x hx).elim
    | pan v => exact ((flat_spec (E := E) (E' := E) v hfl).2.2 x hx).elim
end Go.Proofs.YtkklflpfklbbcaaDoor.Sx
/- A symbolic executor for the model's code: functions that hand back a row of one's own. -/
namespace Go.Proofs.YtkklflpfklbbcaaDoor.Sx
open Go
set_option linter.unusedSimpArgs false
set_option linter.unusedVariables false
/-- A row of one's own, told to who called it as place d. -/
theorem own_end {N : Nat} {E E' : Env} {s : St} {a : Act} (h : Rel N E .nil E' s a) {p sz : Nat} {n : Th Nat} {g : Th Nat → AV} (hb : s.b.get p = .row sz n g) (d : Nat) :
    let F : Env := ⟨fun x => if x = d then E'.ρ p else E.ρ x, fun x => if x = d then E'.rv p else E.rv x, E'.I, E'.w⟩
    Inv F (.cons d (.row sz n g) .nil) ∧ Post E .nil F (.cons d (.row sz n g) .nil) (· = d) := by
  intro F
  have hle : E'.Le F := ⟨fun _ _ h => h, fun _ _ _ => rfl⟩
  have hFd : F.ρ d = E'.ρ p ∧ F.rv d = E'.rv p := by simp [F]
  have hFn : ∀ x, x ≠ d → F.ρ x = E.ρ x ∧ F.rv x = E.rv x := fun x hx => by simp [F, hx]
  have hget : ∀ x, (BL.cons d (.row sz n g) .nil).get x = if d = x then .row sz n g else .no := fun x => rfl
  have hlive : ∀ x, (BL.cons d (.row sz n g) .nil).liveAt x → x = d := by
    intro x hx
    unfold BL.liveAt at hx
    rw [hget] at hx
    split at hx
    · rename_i e; exact e.symm
    · simp [Blk.live] at hx
  have hsol : ∀ x, solidAt F (.cons d (.row sz n g) .nil) x → x = d ∧ solidAt E' s.b p := by
    intro x hx
    have e := hlive x (solid_live hx)
    subst e
    refine ⟨rfl, ?_⟩
    unfold solidAt at hx ⊢
    rw [hget, if_pos rfl] at hx
    rw [hb]
    have hx : F.rv x ≠ _ := hx
    rw [hFd.2] at hx
    exact hx
  have hdead : ∀ x, ¬ BL.nil.liveAt x := fun x hx => by simp [BL.liveAt, BL.get, Blk.live] at hx
  have hbp := h.inv.blk p
  rw [hb] at hbp
  refine ⟨⟨fun x => ?_, fun x y hx hy hne => ?_, fun x hx => ?_, h.inv.ibd, fun x y hy => ?_⟩, ?_⟩
  · rw [hget]
    split
    · rename_i e
      subst e
      rcases hbp with ⟨q1, q2⟩ | ⟨cap, cur, e', q1, q2, q3, q4, q5, q6⟩
      · exact .inl ⟨hFd.2.trans q1, q2⟩
      · exact .inr ⟨cap, cur, e', by rw [hFd.2, hFd.1]; exact q1, by rw [hFd.1]; exact q2, q3, q4, q5, fun i hi => ⟨(q6 i hi).1, (rp_mono hle _ fun y hy => ((AV.still_locs _).1 (q6 i hi).1.1 y hy).elim).2.1 _ (q6 i hi).2⟩⟩
    · trivial
  · exact (hne ((hsol x hx).1.trans (hsol y hy).1.symm)).elim
  · obtain ⟨rfl, hs⟩ := hsol x hx
    rw [hFd.1]
    exact h.inv.live p hs
  · rw [hget] at hy
    split at hy
    · exact hy.elim
    · exact hy.elim
  · have hp := h.post
    refine ⟨⟨hp.le.sub, hp.le.cell⟩, fun x hx _ => hFn x hx, fun x hx _ => ?_, hp.os, hp.tape, hp.output, hp.size, hp.old, fun x hx => .inr (hlive x hx), fun x hx => ?_, fun x hx => (hdead x hx).elim, hp.imm⟩
    · rw [hget, if_neg (Ne.symm hx)]; rfl
    · obtain ⟨rfl, hs⟩ := hsol x hx
      rw [hFd.1]
      rcases hp.new p hs with ⟨q, _⟩ | q
      · exact (hdead p (solid_live q)).elim
      · exact .inr q
/-- A result, where a row of one's own stays open, as place d. -/
def finO (d : Nat) (K : ARes → BL → Prop) (s : St) (v : Option AV) : Prop := match v with
  | some v => match v with
    | .row p => match s.b.get p with
      | .row sz n g => K (.ret (.row d)) (.cons d (.row sz n g) .nil)
      | _ => False
    | .tup c => match c with
      | .cons (.row p) q => match s.b.get p, q.flat with
        | .row sz n g, true => K (.ret (.tup (.cons (.row d) q))) (.cons d (.row sz n g) .nil)
        | _, _ => False
      | c => fin K .ret s (some (.tup c))
    | v => fin K .ret s (some v)
  | none => False
theorem finO_sound {N : Nat} {E E' : Env} {s : St} {a : Act} (h : Rel N E .nil E' s a) {d : Nat} {K : ARes → BL → Prop} {v : AV} (hf : finO d K s (some v)) {z : Value} (hx : Rp E' v z) : OutOk E .nil d K (.returned z) E'.w := by
  have hB : ∀ x, x < 10000 → ¬ BL.nil.liveAt x := fun x _ hx => by simp [BL.liveAt, BL.get, Blk.live] at hx
  unfold finO at hf
  simp only at hf
  split at hf
  · rename_i p
    split at hf
    · rename_i sz n g hb
      obtain ⟨h1, h2⟩ := own_end h hb d
      refine ⟨⟨fun x => if x = d then E'.ρ p else E.ρ x, fun x => if x = d then E'.rv p else E.rv x, E'.I, E'.w⟩, .ret (.row d), .cons d (.row sz n g) .nil, rfl, hf, ?_, h1, h2, fun x hx => ?_⟩
      · obtain ⟨q1, q2⟩ := hx
        exact ⟨by simpa using q1, q2⟩
      · obtain rfl : x = d := hx
        simp [BL.liveAt, BL.get_cons, Blk.live]
    · exact hf.elim
  · rename_i c
    split at hf
    · rename_i p q
      split at hf
      · rename_i sz n g hb hq
        obtain ⟨h1, h2⟩ := own_end h hb d
        obtain ⟨l, hl1, hl2⟩ := hx
        obtain ⟨y1, l1, hl3, hl4, hl5⟩ := listC_cons.1 hl2
        obtain ⟨q1, q2⟩ := hl4
        refine ⟨⟨fun x => if x = d then E'.ρ p else E.ρ x, fun x => if x = d then E'.rv p else E.rv x, E'.I, E'.w⟩, .ret (.tup (.cons (.row d) q)), .cons d (.row sz n g) .nil, rfl, hf, ⟨l, hl1, listC_cons.2 ⟨y1, l1, hl3, ⟨by simpa using q1, q2⟩, (flat_spec q hq).2.1 _ hl5⟩⟩, h1, h2, fun x hx => ?_⟩
        rcases hx with hx | hx
        · obtain rfl : x = d := hx
          simp [BL.liveAt, BL.get_cons, Blk.live]
        · exact ((flat_spec (E := E) (E' := E) q hq).2.2 x hx).elim
      · exact hf.elim
    · exact fin_sound (mk := .ret) (e := .returned z) hB h (fun _ _ h => h) hf hx fun E'' v' h' => h'
  · exact fin_sound (mk := .ret) (e := .returned z) hB h (fun _ _ h => h) hf hx fun E'' v' h' => h'
/-- How a function ends that may have deferred one call. -/
def exitO2 (P : Th Program) (rs : List RRes) (d : Nat) (K : ARes → BL → Prop) (b : Bool) (pv : AV) (s : St) (g : Nat) (asL0 : List AV) (cs : List Nat) : Prop :=
  match (chain (pv :: asL0)).among cs, closed s.b cs cs with
  | true, true => DefAt P g b (pv :: asL0) (s.b.pick cs .nil) fun B' => finO d K ⟨(s.after 9998 cs B').t, (s.after 9998 cs B').b, .nil⟩ (retv ⟨(s.after 9998 cs B').t, (s.after 9998 cs B').b, .nil⟩ rs)
  | _, _ => False
def exitO1 (P : Th Program) (rs : List RRes) (d : Nat) (K : ARes → BL → Prop) (b : Bool) (pv : AV) (s : St) (g : Nat) (asL0 : List AV) : Prop :=
  exitO2 P rs d K b pv s g asL0 (reach s.b 100 ((chain (pv :: asL0)).ids []) [])
def exitO (P : Th Program) (rs : List RRes) (d : Nat) (K : ARes → BL → Prop) (p : Option AV) (s : St) : Prop :=
  match s.df with
  | .nil => match p with | none => finO d K s (retv s rs) | some v => fin K .pan s (some v)
  | .cons (.fn (.func g) first caps) .nil => match fresh s 9998 with
    | true => match p with
      | none => exitO1 P rs d K false .nif s g (unchain first ++ unchain caps)
      | some v => exitO1 P rs d K true v s g (unchain first ++ unchain caps)
    | false => False
  | _ => False
theorem leavesO_of {P : Th Program} {N : Nat} {fn : Func} {E : Env} {E' : Env} {s : St} {a : Act} {d : Nat} (h : Rel N E .nil E' s a) {rs : List RRes} {K : ARes → BL → Prop} (hrs : rRess (P .o) fn.results.toList = some rs)
    {g : Nat} {first caps pv : AV} (hdf : s.df = .cons (.fn (.func g) first caps) .nil) (hfr : fresh s 9998 = true) {panics : Bool} {x : Value} (hx : Rp E' pv x) (hpl : ∀ y, pv.locs y → s.b.liveAt y) {cs : List Nat}
    (hD : exitO2 P rs d K panics pv s g (unchain first ++ unchain caps) cs) :
    Leaves (P .o) fn a.tmps (OutOk E .nil d K) a.defers (modeIn panics x) E'.w := by
  unfold exitO2 at hD
  split at hD
  rotate_left
  · exact hD.elim
  rename_i ham hcl
  have hd := h.df
  rw [hdf] at hd
  obtain ⟨m, l, t, h1, h2, h3, h4⟩ := hd
  have ht : t = [] := h4
  subst ht
  rw [h1]
  obtain ⟨h5, h6⟩ := unchain_sound h3
  obtain ⟨h7, h8⟩ := unchain_sound h2
  obtain ⟨hdead, hlt⟩ := fresh_spec hfr
  have hall : ListC E' (chain (pv :: (unchain first ++ unchain caps))) (x :: (l ++ m)) := listC_cons.2 ⟨x, _, rfl, hx, by rw [chain_app]; exact listC_app h5 h7⟩
  have hplive : ∀ y ∈ cs, (s.b.pick cs .nil).liveAt y := fun y hy => by
    unfold BL.liveAt
    rw [pick_get, if_pos hy]
    exact (closed_spec hcl y hy).1
  refine leaves_cons (f := g) (args := (l ++ m).toArray) (by cases panics <;> simp [modeIn]) ?_ ?_
  · unfold invoke
    simp only
    rw [run_callFunc hD.can]
    congr 2
    apply Array.ext'
    simp
  · have hrun := hD.run E' (x :: (l ++ m)) (h.inv.pick hcl) hall (fun y hy => hplive y (among_locs _ ham y hy)) (fun hy => ?_)
    · refine CallsD.mono hrun ?_
      rintro e u' w' ⟨hu, E'', r, B', rfl, hK, hend, hinv, hpost, _⟩
      cases r with
      | pan v => exact hK.elim
      | ret v =>
        cases e with
        | returned z =>
          have hset : settle u' = .returning := by subst hu; cases panics <;> simp [settle, modeOut]
          simp only [hset]
          have hr := (Rel.after (C := ⟨P, N, fun _ _ => True⟩) h hcl hdead hlt hinv hpost).1
          have hr' : Rel N E .nil E'' ⟨(s.after 9998 cs B').t, (s.after 9998 cs B').b, .nil⟩ { a with defers := [] } := ⟨hr.tmps, hr.inv, hr.tn, hr.sz, rfl, fun y hy => hy.elim, hr.post⟩
          cases hv : retv ⟨(s.after 9998 cs B').t, (s.after 9998 cs B').b, .nil⟩ rs with
          | none => rw [hv] at hK; exact hK.elim
          | some v =>
            rw [hv] at hK
            obtain ⟨z, h9, h10⟩ := results_run hr'.si hrs hv
            exact ⟨z, h9, finO_sound hr' hK h10⟩
        | _ => exact hend.elim
    · unfold BL.liveAt at hy
      rw [pick_get] at hy
      split at hy
      · rename_i hc; exact hdead (closed_spec hcl _ hc).1
      · simp [BL.get, Blk.live] at hy
/-- A FUNCTION'S CONTRACT, of a function that may defer one call. -/
theorem call_of_awp_o {P : Th Program} {f : Nat} {fn : Func} {code : Code} {rc : RC} {rs : List RRes} {asL0 : List AV} {d : Nat} {K : ARes → BL → Prop} (F : Nat)
    (hf : (P .o).funcs[f]? = some fn) (hb : fn.body = some code) (hc : callable (P .o) f = true) (hres : res (P .o) fn.ntmps code = some rc.erase) (hrs : rRess (P .o) fn.results.toList = some rs)
    (hn : asL0.length ≤ fn.ntmps) (h : awp ⟨P, fn.ntmps, exitO P rs d K⟩ F [.code rc] ⟨params 0 asL0, .nil, .nil⟩) : CallAt P f asL0 d .nil K := by
  refine ⟨hc, fun E vs hinv hvs hloc hdead => calls_of_wp_defers hf hb ?_⟩
  have hB' : ∀ x, x < 10000 → ¬ BL.nil.liveAt x := fun x _ hx => by simp [BL.liveAt, BL.get, Blk.live] at hx
  have hlen := chain_len asL0 vs hvs
  have hrel : Rel fn.ntmps E .nil E ⟨params 0 asL0, .nil, .nil⟩ { tmps := vs.toArray ++ Array.replicate (fn.ntmps - vs.toArray.size) undef, defers := [] } := by
    refine ⟨fun k => ?_, hinv, fun k y hy => hloc y (params_locs asL0 0 k y hy), ?_, rfl, fun y hy => hy.elim, .refl _ _ _⟩
    · have := params_get (E := E) asL0 0 vs (List.replicate (fn.ntmps - vs.length) undef) hvs (fun u hu => (List.mem_replicate.1 hu).2) k
      rw [Nat.zero_add] at this
      rw [show (vs.toArray ++ Array.replicate (fn.ntmps - vs.toArray.size) undef).getD k undef = (vs ++ List.replicate (fn.ntmps - vs.length) undef).getD k undef from by
        rw [Array.getD_eq_getD_getElem?, List.getD_eq_getElem?_getD]
        congr 1
        rw [← Array.getElem?_toList]
        simp]
      exact this
    · simp [hlen]; omega
  have hw := (awp_sound F _ _ h).run E .nil hB' E _ hrel code hres
  refine wp_mono hw fun e a w hq => ?_
  have hret : ∀ {E' : Env} {s : St}, Rel fn.ntmps E .nil E' s a → E'.w = w → exitO P rs d K none s → Leaves (P .o) fn a.tmps (OutOk E .nil d K) a.defers .returning w := by
    rintro E' s hr rfl hX
    unfold exitO at hX
    split at hX
    · rename_i hdf
      try simp only at hX
      have hd := hr.df
      rw [hdf] at hd
      have hd' : a.defers = [] := hd
      rw [hd']
      cases hv : retv s rs with
      | none => rw [hv] at hX; exact hX.elim
      | some v =>
        rw [hv] at hX
        obtain ⟨z, h1, h2⟩ := results_run hr.si hrs hv
        exact ⟨z, h1, finO_sound hr hX h2⟩
    · rename_i g first caps hdf
      split at hX
      · rename_i hfr
        exact leavesO_of (panics := false) (x := .nilIface) hr hrs hdf hfr (pv := .nif) (by simp [Rp]) (fun y hy => hy.elim) hX
      · exact hX.elim
    · exact hX.elim
  cases e with
  | normal => obtain ⟨E', s, hr, he, hX⟩ := hq; exact hret hr he hX
  | ret => obtain ⟨E', s, hr, he, hX⟩ := hq; exact hret hr he hX
  | panic ch =>
    obtain ⟨E', s, v, x, hr, rfl, rfl, hv, hl, hX⟩ := hq
    show Leaves (P .o) fn a.tmps (OutOk E .nil d K) a.defers (.panicking [{ v := x, recovered := false }]) E'.w
    have hX : exitO P rs d K (some v) s := hX
    unfold exitO at hX
    split at hX
    · rename_i hdf
      try simp only at hX
      have hd := hr.df
      rw [hdf] at hd
      have hd' : a.defers = [] := hd
      rw [hd']
      exact fin_sound (mk := .pan) (e := .panicked [{ v := x, recovered := false }]) hB' hr (fun _ _ h => h) hX hv fun E'' v' h' => ⟨x, rfl, h'⟩
    · rename_i g first caps hdf
      split at hX
      · rename_i hfr
        exact leavesO_of (panics := true) (x := x) hr hrs hdf hfr hv hl hX
      · exact hX.elim
    · exact hX.elim
  | _ => exact hq.elim
end Go.Proofs.YtkklflpfklbbcaaDoor.Sx

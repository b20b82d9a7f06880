/- A symbolic executor for the model's code: regions whose order of evaluation is left open: the rule. -/
import Derived.Test.YtiaenejafpbfkaaDoorSxv
namespace Go.Proofs.YtiaenejafpbfkaaDoor.Sx
open Go
set_option linter.unusedSimpArgs false
set_option linter.unusedVariables false

section
variable {C : Cx} {E0 : Env} {B0 : BL} {ops : Array Oper} {L : List (Nat × DOp)} {K : St → Prop}

theorem good_inj {P : Program} {N : Nat} (hL : Good P N ops L) {x y : Nat × DOp} (hx : x ∈ L) (hy : y ∈ L) (h : x.1 = y.1) : x = y := by
  obtain ⟨pre, post, he⟩ := List.append_of_mem hx
  rw [he] at hy
  rcases List.mem_append.1 hy with h1 | h1
  · exact (hL.fresh pre x post he y h1 h.symm).elim
  · rcases List.mem_cons.1 h1 with h1 | h1
    · exact h1.symm
    · obtain ⟨p2, q2, he2⟩ := List.append_of_mem h1
      exact (hL.fresh (pre ++ x :: p2) y q2 (by rw [he, he2]; simp) x (by simp) h).elim

/-- What an operation looks at has come. -/
theorem looked (hL : Good (C.P .o) C.N ops L) {pre post : List (Nat × DOp)} {pd : List Pd} {l : Array Bool} (hst : Stand (ops := ops) L pre post pd l) {x : Nat × DOp} (hx : x ∈ L) (hr : ∀ j ∈ aft ops x.1, Ls l j) (hself : ∀ w ∈ pd, w.i = x.1 → ∀ k, w.o.dst = some k → uses x.2.o k = true → False)
    {w : Pd} (hw : w ∈ pd) {k : Nat} (hk : w.o.dst = some k) : uses x.2.o k = false := by
  cases hu : uses x.2.o k with
  | false => rfl
  | true =>
    obtain ⟨⟨p, h1, h2, h3, h4⟩, h5⟩ := hst.late w hw
    by_cases he : w.i = x.1
    · exact (hself w hw he k hk hu).elim
    · have := hL.dep x hx p (by rw [hst.spl]; simp [h1]) h4 (by rw [h2]; exact he) k (by rw [h3]; exact hk) hu
      rw [h2] at this
      exact (h5 (must_ls hst.cl this hr)).elim

/-- The machine carries out one that is late. -/
theorem late1 (hL : Good (C.P .o) C.N ops L) (hB0 : ∀ x, x < 10000 → ¬ B0.liveAt x) {pre post : List (Nat × DOp)} {pd : List Pd} {l : Array Bool} (hst : Stand (ops := ops) L pre post pd l) {s r : St} (hS : Sim pd s r) {E : Env} {a : Act} (hR : Rel C.N E0 B0 E r a)
    {u : Pd} (hu : u ∈ pd) (hr : ∀ j ∈ aft ops u.i, Ls l j) {next : Act → World → Prop} {Qc : Exit → Act → World → Prop} (hn : ∀ E' r' a', Rel C.N E0 B0 E' r' a' → Sim (pd.filter fun w => !(w.i == u.i)) s r' → next a' E'.w) : wpOp (C.P .o) ops Qc u.i next a E.w := by
  obtain ⟨⟨x, hxp, hxi, hxo, hxf⟩, hnl⟩ := hst.late u hu
  have hx : x ∈ L := by rw [hst.spl]; simp [hxp]
  obtain ⟨oo, hoo, hro, hfl⟩ := hL.res x hx
  have hself : ∀ w ∈ pd, w.i = x.1 → ∀ k, w.o.dst = some k → uses x.2.o k = true → False := by
    intro w hw he k hk hq
    have := hst.uniq w hw u hu (he.trans hxi)
    subst this
    exact hL.self x hx hxf k (by rw [hxo]; exact hk) hq
  have hlk : ∀ k, uses u.o k = true → r.t.get k = s.t.get k := by
    intro k hk
    refine hS.t k fun w hw e => ?_
    have := looked hL hst hx (by rw [hxi]; exact hr) hself hw e
    rw [hxo, hk] at this
    cases this
  have hev := evs_same (op := u.o.op) fun k hk => hlk k (by simp [uses, hk])
  have hwt : wants r u.o.guard = wants s u.o.guard := wants_same fun k hk => hlk k (by simp [uses, hk])
  have hmem : ∀ {w}, w ∈ (pd.filter fun w => !(w.i == u.i)) ↔ w ∈ pd ∧ w.i ≠ u.i := by
    intro w; rw [List.mem_filter]; simp
  -- what is not late any more
  have hsim : ∀ r', (∀ k, u.o.dst ≠ some k → r'.t.get k = r.t.get k) → (∀ d, u.o.dst = some d → r'.t.get d = s.t.get d) → (∀ y, (u.nw = true → u.o.dst ≠ some y) → r'.b.get y = r.b.get y) → (u.nw = true → ∀ d, u.o.dst = some d → r'.b.get d = s.b.get d) → r'.df = r.df →
      Sim (pd.filter fun w => !(w.i == u.i)) s r' := by
    intro r' h1 h2 h3 h4 h5
    have hdist : ∀ w ∈ pd, w.i ≠ u.i → ∀ d, u.o.dst = some d → w.o.dst ≠ some d := by
      intro w hw hne d hd e
      obtain ⟨⟨y, hyp, hyi, hyo, hyf⟩, _⟩ := hst.late w hw
      have hy : y ∈ L := by rw [hst.spl]; simp [hyp]
      have apd : ∀ {a b : Nat × DOp}, a ∈ L → b ∈ L → a.2.fl = true → b.2.fl = true → a.1 ≠ b.1 → (∃ p q, L = p ++ b :: q ∧ a ∈ p) → ∀ d, a.2.o.dst = some d → b.2.o.dst = some d → False := by
        intro a b ha hb hfa hfb hab ⟨p, q, he, hap⟩ d hda hdb
        have := (hL.apF p b q he hfb a hap hfa).1 d hdb
        simp [touches, hda] at this
      obtain ⟨p, q, he⟩ := List.append_of_mem hx
      have hy' := hy
      rw [he] at hy'
      have hne' : y.1 ≠ x.1 := by rw [hyi, hxi]; exact hne
      rcases List.mem_append.1 hy' with h | h
      · exact apd hy hx hyf hxf hne' ⟨p, q, he, h⟩ d (by rw [hyo]; exact e) (by rw [hxo]; exact hd)
      · rcases List.mem_cons.1 h with h | h
        · exact hne' (by rw [h])
        · obtain ⟨p2, q2, he2⟩ := List.append_of_mem h
          exact apd hx hy hxf hyf (Ne.symm hne') ⟨p ++ x :: p2, q2, by rw [he, he2]; simp, by simp⟩ d (by rw [hxo]; exact hd) (by rw [hyo]; exact e)
    refine ⟨fun k hk => ?_, fun y hy => ?_, fun w hw hnw y hy => ?_, h5.trans hS.df, fun w hw => hS.ok w (hmem.1 hw).1⟩
    · by_cases hd : u.o.dst = some k
      · exact h2 k hd
      · rw [h1 k hd]
        refine hS.t k fun w hw e => ?_
        by_cases hwi : w.i = u.i
        · have := hst.uniq w hw u hu hwi; subst this; exact hd e
        · exact hk w (hmem.2 ⟨hw, hwi⟩) e
    · by_cases hd : u.nw = true ∧ u.o.dst = some y
      · exact h4 hd.1 y hd.2
      · rw [h3 y fun q e => hd ⟨q, e⟩]
        refine hS.b y fun w hw hnw e => ?_
        by_cases hwi : w.i = u.i
        · have := hst.uniq w hw u hu hwi; subst this; exact hd ⟨hnw, e⟩
        · exact hy w (hmem.2 ⟨hw, hwi⟩) hnw e
    · obtain ⟨hw, hne⟩ := hmem.1 hw
      rw [h3 y fun _ e => hdist w hw hne y e hy]
      exact hS.no w hw hnw y hy
  have hok := hS.ok u hu
  have hro' : rOper (C.P .o) C.N ops oo = some u.o := by rw [← hxo]; exact hro
  rw [← hxi]
  unfold PdOk at hok
  split at hok
  · rename_i hnw
    obtain ⟨w, n, cn, d, v, b, h1, h2, h3, h4, h5⟩ := hok
    have hno := hS.no u hu hnw d h1
    refine exec1 (C := ⟨C.P, C.N, fun _ _ => False⟩) (K := fun r' => r' = r.new d v b) hR hB0 hoo hro' (w := true) (hwt.trans w) (fun _ => ?_) (fun q => by cases q) ⟨fun E' s' a' hR' hK' => ?_, fun E' s' v x hR' _ _ hX => ?_⟩
    · rw [h1]
      refine aop_new_mk ?_ ((anew_congr hev).trans h2) (by rw [acond_congr hev]; exact cn) rfl
      unfold fresh
      rw [hno]
      simp [Blk.live, ltB, h5]
    · subst hK'
      refine hn E' _ a' hR' (hsim _ (fun k hk => ?_) (fun d' hd' => ?_) (fun y hy => ?_) (fun _ d' hd' => ?_) rfl)
      · rw [new_get, if_neg (fun e => hk (by rw [h1, e]))]
      · have : d = d' := by rw [h1] at hd'; exact Option.some.inj hd'
        subst this; rw [new_get, if_pos rfl, h3]
      · rw [new_b, if_neg (fun e => hy hnw (by rw [h1, e]))]
      · have : d = d' := by rw [h1] at hd'; exact Option.some.inj hd'
        subst this; rw [new_b, if_pos rfl, h4]
    · exact hX.elim
  · rename_i hnw
    cases hok with
    | no w e =>
      refine exec1 (C := ⟨C.P, C.N, fun _ _ => False⟩) (K := fun r' => r' = r.setO u.o.dst (.tup .nil)) hR hB0 hoo hro' (w := false) (hwt.trans w) (fun q => by cases q) (fun _ => rfl) ⟨fun E' s' a' hR' hK' => ?_, fun E' s' v x hR' _ _ hX => hX.elim⟩
      subst hK'
      refine hn E' _ a' hR' (hsim _ (fun k hk => ?_) (fun d' hd' => ?_) (fun y hy => ?_) (fun q => ?_) ?_)
      · rw [setO_get, if_neg hk]
      · rw [setO_get, if_pos hd', e d' hd']
      · rw [setO_b]
      · rw [hnw] at q; cases q
      · rw [setO_df]
    | yes w q v g e =>
      have hq : qev r u.o.op = qev s u.o.op := by
        refine qev_congr hev fun y hy => hS.b y fun z hz hzn e => ?_
        have hno := hS.no z hz hzn y e
        unfold rdp at hy
        split at hy
        · rename_i o ho
          obtain ⟨k, rfl⟩ := floats_rd (by rw [← hxo]; exact hfl.symm.trans hxf) ho
          have hk : usesO u.o.op k = true := by
            simp only [usesO, List.any_eq_true]
            refine ⟨.tmp k, ?_, by simp⟩
            cases hop : u.o.op <;> rw [hop] at ho <;> simp only [RO.rd, reduceCtorEq, Option.some.injEq] at ho <;> subst ho <;> simp [RO.opds]
          have hy : place (s.t.get k) = some y := hy
          rw [← hlk k (by simp [uses, hk])] at hy
          have hlive := hR.tn k y (by unfold place at hy; split at hy <;> first | (cases hy; rename_i he; rw [he]; rfl) | cases hy)
          simp [BL.liveAt, hno, Blk.live] at hlive
        · cases hy
      refine exec1 (C := ⟨C.P, C.N, fun _ _ => False⟩) (K := fun r' => r' = r.setO u.o.dst v) hR hB0 hoo hro' (w := true) (hwt.trans w) (fun _ => aop_quiet_mk q (hq ▸ g) rfl) (fun q => by cases q) ⟨fun E' s' a' hR' hK' => ?_, fun E' s' v x hR' _ _ hX => hX.elim⟩
      subst hK'
      have hsimv : (∀ d, u.o.dst = some d → s.t.get d = v) → next a' E'.w := by
        intro hv
        refine hn E' _ a' hR' (hsim _ (fun k hk => ?_) (fun d' hd' => ?_) (fun y hy => ?_) (fun q => ?_) ?_)
        · rw [setO_get, if_neg hk]
        · rw [setO_get, if_pos hd', hv d' hd']
        · rw [setO_b]
        · rw [hnw] at q; cases q
        · rw [setO_df]
      cases hd : u.o.dst with
      | none => exact hsimv fun d hd' => by rw [hd] at hd'; cases hd'
      | some d =>
        rcases e d hd with h1 | ⟨b, h1, h2⟩
        · exact hsimv fun d' hd' => by rw [hd] at hd'; cases hd'; exact h1
        · have hR'' : Rel C.N E0 B0 E' ((r.setO u.o.dst v).set d (tv (b .o))) a' := by
            refine hR'.retell ?_ (tv_locs _)
            have := hR'.tmps d
            rw [setO_get, if_pos hd, h1] at this
            have this : a'.tmps.getD d undef = .bool (b .o) := this
            rw [this]
            exact tv_rp E' _
          refine hn E' _ a' hR'' (hsim _ (fun k hk => ?_) (fun d' hd' => ?_) (fun y hy => ?_) (fun q => ?_) ?_)
          · rw [set_get, if_neg (fun e => hk (by rw [hd, e])), setO_get, if_neg hk]
          · have : d = d' := by rw [hd] at hd'; exact Option.some.inj hd'
            subst this; rw [set_get, if_pos rfl, h2]
          · show (r.setO _ _).b.get y = _
            rw [setO_b]
          · rw [hnw] at q; cases q
          · show (r.setO _ _).df = _
            rw [setO_df]

/-- The walk goes on, past some that may float. -/
theorem walks (hL : Good (C.P .o) C.N ops L) {post : List (Nat × DOp)} {l : Array Bool} : ∀ (mid : List (Nat × DOp)) {pre : List (Nat × DOp)} {pd : List Pd}, (∀ p ∈ mid, p.2.fl = true) → Stand (ops := ops) L pre (mid ++ post) pd l → ∀ {s r : St}, Sim pd s r →
    ∀ {E : Env} {a : Act}, Rel C.N E0 B0 E r a → adops C (L.map (·.2)) ((mid ++ post).map (·.2)) s K →
    ∃ pd' s' r', Stand (ops := ops) L (pre ++ mid) post pd' l ∧ Sim pd' s' r' ∧ Rel C.N E0 B0 E r' a ∧ adops C (L.map (·.2)) (post.map (·.2)) s' K
  | [], pre, pd, _, hst, s, r, hS, E, a, hR, hK => ⟨pd, s, r, by simpa using hst, hS, hR, hK⟩
  | x :: mid, pre, pd, hf, hst, s, r, hS, E, a, hR, hK => by
    obtain ⟨nw, s', r', h1, h2, h3, h4⟩ := walk1 hL hst (hf x (by simp)) hS hR hK
    obtain ⟨pd', s'', r'', k1, k2, k3, k4⟩ := walks hL mid (fun p hp => hf p (by simp [hp])) h1 h2 h3 h4
    exact ⟨pd', s'', r'', by simpa using k1, k2, k3, k4⟩

theorem first_un {l : Array Bool} : ∀ (L : List (Nat × DOp)), (∃ x ∈ L, ¬ Ls l x.1) → ∃ p x q, L = p ++ x :: q ∧ ¬ Ls l x.1 ∧ ∀ y ∈ p, Ls l y.1
  | [], h => by obtain ⟨x, hx, _⟩ := h; simp at hx
  | y :: L, h => by
    by_cases hy : Ls l y.1
    · obtain ⟨x, hx, hn⟩ := h
      rcases List.mem_cons.1 hx with rfl | hx
      · exact (hn hy).elim
      · obtain ⟨p, z, q, h1, h2, h3⟩ := first_un L ⟨x, hx, hn⟩
        refine ⟨y :: p, z, q, by rw [h1]; rfl, h2, fun w hw => ?_⟩
        rcases List.mem_cons.1 hw with rfl | hw
        · exact hy
        · exact h3 w hw
    · exact ⟨[], y, L, rfl, hy, by simp⟩

theorem stand_set (hL : Good (C.P .o) C.N ops L) {pre post : List (Nat × DOp)} {pd : List Pd} {l : Array Bool} (hst : Stand (ops := ops) L pre post pd l) {u : Pd} (hu : u ∈ pd) (hlt : u.i < l.size) (hr : ∀ j ∈ aft ops u.i, Ls l j) :
    Stand (ops := ops) L pre post (pd.filter fun w => !(w.i == u.i)) (l.setIfInBounds u.i true) := by
  have hs := fun j => ls_set (l := l) (i := u.i) (j := j) hlt
  have hmem : ∀ {w}, w ∈ (pd.filter fun w => !(w.i == u.i)) ↔ w ∈ pd ∧ w.i ≠ u.i := by
    intro w; rw [List.mem_filter]; simp
  obtain ⟨⟨x, hxp, hxi, _⟩, _⟩ := hst.late u hu
  refine ⟨hst.spl, fun i hi j hj => ?_, fun y hy q => ?_, fun y hy hf => (hs _).2 (.inr (hst.ser y hy hf)), fun w hw => ?_, fun y hy hn => ?_, fun w hw v hv => hst.uniq w (hmem.1 hw).1 v (hmem.1 hv).1⟩
  · rcases (hs _).1 hi with rfl | hi
    · exact (hs _).2 (.inr (hr j hj))
    · exact (hs _).2 (.inr (hst.cl i hi j hj))
  · rcases (hs _).1 q with he | q
    · obtain ⟨p2, q2, he2⟩ := List.append_of_mem hy
      refine hL.fresh (pre ++ p2) y q2 (by rw [hst.spl, he2]; simp) x (by simp [hxp]) ?_
      rw [hxi, he]
    · exact hst.ahead y hy q
  · obtain ⟨hw, hne⟩ := hmem.1 hw
    obtain ⟨h1, h2⟩ := hst.late w hw
    exact ⟨h1, fun q => (hs _).1 q |>.elim hne h2⟩
  · have hn' : ¬ Ls l y.1 := fun q => hn ((hs _).2 (.inr q))
    obtain ⟨w, hw, he⟩ := hst.all y hy hn'
    exact ⟨w, hmem.2 ⟨hw, fun e => hn ((hs _).2 (.inl (he.symm.trans e)))⟩, he⟩

/-- THE RULE: whatever order the machine takes. -/
theorem draw_go (hL : Good (C.P .o) C.N ops L) (hB0 : ∀ x, x < 10000 → ¬ B0.liveAt x) {Qc : Exit → Act → World → Prop}
    (hn : ∀ E' s' a', Rel C.N E0 B0 E' s' a' → K s' → Qc .normal a' E'.w)
    (hp : ∀ E' s' v x a', Rel C.N E0 B0 E' s' a' → Rp E' v x → (∀ y, v.locs y → s'.b.liveAt y) → C.X (some v) s' → Qc (.panic [{ v := x, recovered := false }]) a' E'.w) :
    ∀ (n : Nat) (l : Array Bool) (pre post : List (Nat × DOp)) (pd : List Pd) (s r : St) (E : Env) (a : Act), left l ops.size = n → l.size = ops.size → Stand (ops := ops) L pre post pd l → Sim pd s r → Rel C.N E0 B0 E r a →
      adops C (L.map (·.2)) (post.map (·.2)) s K → wpAny (C.P .o) .any ops Qc n l a E.w := by
  have done : ∀ (l : Array Bool) (pre post : List (Nat × DOp)) (pd : List Pd) (s r : St) (E : Env) (a : Act), Stand (ops := ops) L pre post pd l → Sim pd s r → Rel C.N E0 B0 E r a → adops C (L.map (·.2)) (post.map (·.2)) s K → (∀ x ∈ L, Ls l x.1) → Qc .normal a E.w := by
    intro l pre post pd s r E a hst hS hR hK hall
    have h1 : post = [] := by
      cases post with
      | nil => rfl
      | cons x q => exact (hst.ahead x (by simp) (hall x (by rw [hst.spl]; simp))).elim
    have h2 : pd = [] := by
      cases pd with
      | nil => rfl
      | cons u q =>
        obtain ⟨⟨x, hx, hi, _⟩, hnl⟩ := hst.late u (by simp)
        exact (hnl (hi ▸ hall x (by rw [hst.spl]; simp [hx]))).elim
    subst h1
    subst h2
    exact hn E s a (hR.congr (fun k => hS.t k (by simp)) (fun x => hS.b x (by simp)) hS.df) hK
  have none_ready : ∀ (l : Array Bool), l.size = ops.size → Region.ready .any ops l = [] → ∀ x ∈ L, Ls l x.1 := by
    intro l hsz hr x hx
    apply Classical.byContradiction
    intro hx'
    obtain ⟨p, y, q, h1, h2, h3⟩ := first_un L ⟨x, hx, hx'⟩
    obtain ⟨o, ho, _⟩ := hL.res y (by rw [h1]; simp)
    have : y.1 ∈ Region.ready .any ops l := (ready_iff hsz).2 ⟨(Array.getElem?_eq_some_iff.1 ho).1, h2, fun j hj => by
      obtain ⟨z, hz, he⟩ := hL.top p y q h1 j hj
      exact he ▸ h3 z hz⟩
    rw [hr] at this
    cases this
  intro n
  induction n with
  | zero =>
    intro l pre post pd s r E a hln hsz hst hS hR hK
    have hall := left_zero hln
    refine ⟨?_, done l pre post pd s r E a hst hS hR hK fun x hx => ?_⟩
    · cases hr : Region.ready .any ops l with
      | nil => rfl
      | cons i q =>
        have := (ready_iff hsz (i := i)).1 (by rw [hr]; simp)
        exact (this.2.1 (hall i this.1)).elim
    · obtain ⟨o, ho, _⟩ := hL.res x hx
      exact hall _ (Array.getElem?_eq_some_iff.1 ho).1
  | succ n ih =>
    intro l pre post pd s r E a hln hsz hst hS hR hK
    refine ⟨fun hr => done l pre post pd s r E a hst hS hR hK (none_ready l hsz hr), fun i hi => ?_⟩
    obtain ⟨hlt, hnl, haft⟩ := (ready_iff hsz).1 hi
    obtain ⟨x, hx, rfl⟩ := hL.cover i hlt
    have hlt' : x.1 < l.size := by omega
    have hln' : left (l.setIfInBounds x.1 true) ops.size = n := by
      have := left_set hlt' hnl ops.size
      rw [if_pos hlt] at this
      omega
    -- one that is late comes
    have come : ∀ {pre post : List (Nat × DOp)} {pd : List Pd} {s r : St}, Stand (ops := ops) L pre post pd l → Sim pd s r → Rel C.N E0 B0 E r a → adops C (L.map (·.2)) (post.map (·.2)) s K → x ∈ pre →
        wpOp (C.P .o) ops Qc x.1 (wpAny (C.P .o) .any ops Qc n (l.setIfInBounds x.1 true)) a E.w := by
      intro pre post pd s r hst hS hR hK hxp
      obtain ⟨u, hu, he⟩ := hst.all x hxp hnl
      rw [← he] at hlt' hln' haft ⊢
      exact late1 hL hB0 hst hS hR hu haft fun E' r' a' hR' hS' => ih _ pre post _ s r' E' a' hln' (by simpa using hsz) (stand_set hL hst hu hlt' haft) hS' hR' hK
    have hsp := hst.spl
    by_cases hxp : x ∈ pre
    · exact come hst hS hR hK hxp
    have hxq : x ∈ post := by rw [hsp] at hx; exact (List.mem_append.1 hx).resolve_left hxp
    obtain ⟨mid, rest, he⟩ := List.append_of_mem hxq
    subst he
    have hmid : ∀ p ∈ mid, p.2.fl = true := by
      intro p hp'
      cases hf : p.2.fl with
      | true => rfl
      | false =>
        have := hL.ser (pre ++ mid) x rest (by rw [hsp]; simp) p (by simp [hp']) hf
        exact (hst.ahead p (by simp [hp']) (must_ls hst.cl this haft)).elim
    obtain ⟨pd', s', r', k1, k2, k3, k4⟩ := walks hL mid hmid hst hS hR hK
    cases hxf : x.2.fl with
    | true =>
      obtain ⟨nw, s'', r'', m1, m2, m3, m4⟩ := walk1 hL k1 hxf k2 k3 k4
      exact come m1 m2 m3 m4 (by simp)
    | false =>
      obtain ⟨oo, hoo, hro, hfl⟩ := hL.res x hx
      have hus : ∀ u ∈ pd', Apart u.o x.2.o ∧ u.o ∈ pickD (L.map (·.2)) x.2.us := by
        intro u hu
        obtain ⟨⟨p, h1, h2, h3, h4⟩, h5⟩ := k1.late u hu
        rcases hL.apS (pre ++ mid) x rest k1.spl hxf p h1 h4 with h | h
        · rw [h2] at h; exact (h5 (must_ls k1.cl h haft)).elim
        · rw [← h3]; exact h
      have hself : ∀ w ∈ pd', w.i = x.1 → ∀ k, w.o.dst = some k → uses x.2.o k = true → False := by
        intro w hw he
        obtain ⟨⟨p, h1, h2, _⟩, _⟩ := k1.late w hw
        exact (hL.fresh (pre ++ mid) x rest k1.spl p h1 (h2.trans he)).elim
      have hlk : ∀ u ∈ pd', ∀ k, u.o.dst = some k → uses x.2.o k = false := fun u hu k hk => looked hL k1 hx haft hself hu hk
      have hT : ∀ u ∈ pd', ∀ k, x.2.o.dst = some k → touches u.o k = false := fun u hu k hk => (hus u hu).1.1 k hk
      have hstand : Stand (ops := ops) L (pre ++ mid ++ [x]) rest pd' (l.setIfInBounds x.1 true) := by
        have hs := fun j => ls_set (l := l) (i := x.1) (j := j) hlt'
        refine ⟨by rw [k1.spl]; simp, fun i hi j hj => ?_, fun y hy q => ?_, fun y hy hf => ?_, fun w hw => ?_, fun y hy hn => ?_, k1.uniq⟩
        · rcases (hs _).1 hi with rfl | hi
          · exact (hs _).2 (.inr (haft j hj))
          · exact (hs _).2 (.inr (k1.cl i hi j hj))
        · rcases (hs _).1 q with e | q
          · obtain ⟨p2, q2, he2⟩ := List.append_of_mem hy
            exact hL.fresh (pre ++ mid ++ x :: p2) y q2 (by rw [k1.spl, he2]; simp) x (by simp) e.symm
          · exact k1.ahead y (by simp [hy]) q
        · rcases List.mem_append.1 hy with hy | hy
          · exact (hs _).2 (.inr (k1.ser y hy hf))
          · have := List.mem_singleton.1 hy; subst this; exact (hs _).2 (.inl rfl)
        · obtain ⟨⟨p, h1, h2, h3⟩, h5⟩ := k1.late w hw
          refine ⟨⟨p, by simp only [List.append_assoc, List.mem_append] at h1 ⊢; exact h1.elim .inl fun q => .inr (.inl q), h2, h3⟩, fun q => ((hs _).1 q).elim (fun e => hL.fresh (pre ++ mid) x rest k1.spl p h1 (h2.trans e)) h5⟩
        · rcases List.mem_append.1 hy with hy | hy
          · exact k1.all y hy fun q => hn ((hs _).2 (.inr q))
          · have := List.mem_singleton.1 hy; subst this; exact (hn ((hs _).2 (.inl rfl))).elim
      have go : ∀ {E' : Env} {s2 r2 : St} {a' : Act}, Sim pd' s2 r2 → Rel C.N E0 B0 E' r2 a' → adops C (L.map (·.2)) (rest.map (·.2)) s2 K → wpAny (C.P .o) .any ops Qc n (l.setIfInBounds x.1 true) a' E'.w :=
        fun h1 h2 h3 => ih _ _ rest pd' _ _ _ _ hln' (by simpa using hsz) hstand h1 h2 h3
      have yes : ∀ {s r : St}, Sim pd' s r → Rel C.N E0 B0 E r a → wants s x.2.o.guard = some true → adop C (pickD (L.map (·.2)) x.2.us) x.2.o.op x.2.o.dst s (fun s' => adops C (L.map (·.2)) (rest.map (·.2)) s' K) →
          wpOp (C.P .o) ops Qc x.1 (wpAny (C.P .o) .any ops Qc n (l.setIfInBounds x.1 true)) a E.w := by
        intro s r hS hR hw ha
        have hwr : wants r x.2.o.guard = some true := by
          rw [← hw]
          exact wants_same fun k hk => hS.t k fun u hu e => by have := hlk u hu k e; simp [uses, hk] at this
        unfold adop at ha
        split at ha
        · rename_i hnil
          have hpd : pd' = [] := by
            cases pd' with
            | nil => rfl
            | cons u q => have := (hus u (by simp)).2; rw [hnil] at this; simp at this
          subst hpd
          have hRs := hR.congr (s := s) (fun k => hS.t k (by simp)) (fun y => hS.b y (by simp)) hS.df
          exact exec1 hRs hB0 hoo hro hw (fun _ => ha) (fun q => by cases q) ⟨fun E' s' a' hR' hK' => go (s2 := s') (r2 := s') ⟨fun _ _ => rfl, fun _ _ => rfl, fun _ h => by simp at h, rfl, fun _ h => by simp at h⟩ hR' hK', fun E' s' v y hR' hv hl hX => hp E' s' v y a hR' hv hl hX⟩
        · rename_i u0 us0 hcons
          rw [hcons] at hus
          have hlow : ∀ u ∈ u0 :: us0, ∀ d, u.dst = some d → d < 10000 := by
            rw [← hcons]
            have : ∀ (is : List Nat), ∀ u ∈ pickD (L.map (·.2)) is, ∃ y ∈ L, y.2.o = u := by
              intro is
              induction is with
              | nil => intro u hu; simp [pickD] at hu
              | cons i is ih2 =>
                intro u hu
                unfold pickD at hu
                split at hu
                · rename_i z hz
                  rcases List.mem_cons.1 hu with rfl | hu
                  · rw [List.getElem?_map] at hz
                    cases hz' : L[i]? with
                    | none => rw [hz'] at hz; cases hz
                    | some w => rw [hz'] at hz; cases hz; exact ⟨w, List.mem_of_getElem? hz', rfl⟩
                  · exact ih2 u hu
                · exact ih2 u hu
            intro u hu d hd
            obtain ⟨y, hy, rfl⟩ := this _ u hu
            exact hL.low y hy d hd
          have hao := adopU_late hS (fun u hu => (hus u hu).2) hT (fun u hu k hk => by have := hlk u hu k hk; simp only [uses, Bool.or_eq_false_iff] at this; exact this.1) ha
          refine exec1 (C := C.late (u0 :: us0) pd') hR hB0 hoo hro hwr (fun _ => hao) (fun q => by cases q) ⟨fun E' s' a' hR' hK' => ?_, fun E' s' v y hR' hv hl hX => ?_⟩
          · obtain ⟨s2, h1, h2⟩ := hK'
            exact go h2 hR' h1
          · obtain ⟨s2, v', h1, h2, h3, h4⟩ := hX
            cases h1
            have := late_rel hB0 h3 (fun u hu => (hus u hu).2) hlow hR'
            exact hp E' _ v y a this hv (fun z hz => ((flat_spec (E := E') (E' := E') v h2).2.2 z hz).elim) h4
      have no : ∀ {s r : St}, Sim pd' s r → Rel C.N E0 B0 E r a → wants s x.2.o.guard = some false → adops C (L.map (·.2)) (rest.map (·.2)) (s.setO x.2.o.dst (.tup .nil)) K →
          wpOp (C.P .o) ops Qc x.1 (wpAny (C.P .o) .any ops Qc n (l.setIfInBounds x.1 true)) a E.w := by
        intro s r hS hR hw hk
        have hwr : wants r x.2.o.guard = some false := by
          rw [← hw]
          exact wants_same fun k hk => hS.t k fun u hu e => by have := hlk u hu k e; simp [uses, hk] at this
        refine exec1 (C := ⟨C.P, C.N, fun _ _ => False⟩) (K := fun r' => r' = r.setO x.2.o.dst (.tup .nil)) hR hB0 hoo hro hwr (fun q => by cases q) (fun _ => rfl) ⟨fun E' s' a' hR' hK' => ?_, fun E' s' v y hR' _ _ hX => hX.elim⟩
        subst hK'
        exact go (hS.setO hT) hR' hk
      have k4 : adops C (L.map (·.2)) (x.2 :: rest.map (·.2)) s' K := k4
      rw [adops] at k4
      split at k4
      · rename_i hg
        exact yes k2 k3 (by rw [hg]; rfl) k4
      · rename_i t b hg
        split at k4
        · rename_i ht
          split at k4
          · exact yes k2 k3 (by rw [hg]; simp [wants, ht]) k4
          · exact no k2 k3 (by rw [hg]; simp [wants, ht]) k4
        · rename_i ht
          split at k4
          · exact yes k2 k3 (by rw [hg]; simp [wants, ht]) k4
          · exact no k2 k3 (by rw [hg]; simp [wants, ht]) k4
        · rename_i q ht
          have hkn := k2.know ht fun u hu => (hus u hu).1.2 t b hg
          have hkr : ∃ r2, Sim pd' (s'.set t (tv (q .o))) r2 ∧ Rel C.N E0 B0 E r2 a := by
            rcases hkn with h1 | ⟨h1, h2⟩
            · exact ⟨r', h1, k3⟩
            · refine ⟨_, h2, k3.retell ?_ (tv_locs _)⟩
              have := k3.tmps t
              rw [h1] at this
              have this : a.tmps.getD t undef = .bool (q .o) := this
              rw [this]
              exact tv_rp E _
          obtain ⟨r2, h1, h2⟩ := hkr
          by_cases hb : q .o = b
          · rw [hb] at h1
            refine yes h1 h2 ?_ (k4.1 hb)
            rw [hg]
            simp only [wants]
            rw [set_get, if_pos rfl]
            cases b <;> rfl
          · have hb' : q .o = !b := by revert hb; cases q .o <;> cases b <;> simp
            rw [hb'] at h1
            refine no h1 h2 ?_ (k4.2 hb')
            rw [hg]
            simp only [wants]
            rw [set_get, if_pos rfl]
            cases b <;> rfl
        · rename_i ht
          exact no k2 k3 (by rw [hg]; simp [wants, ht]) k4
        · exact k4.elim

/-- A region whose order is left open. -/
theorem adops_sound {Qc : Exit → Act → World → Prop} (hB0 : ∀ x, x < 10000 → ¬ B0.liveAt x) (hm : (C.P .o).follows .mixedOrders = true)
    (hn : ∀ E' s' a', Rel C.N E0 B0 E' s' a' → K s' → Qc .normal a' E'.w)
    (hp : ∀ E' s' v x a', Rel C.N E0 B0 E' s' a' → Rp E' v x → (∀ y, v.locs y → s'.b.liveAt y) → C.X (some v) s' → Qc (.panic [{ v := x, recovered := false }]) a' E'.w)
    {l : List DOp} (hr : resD (C.P .o) C.N ops = some l) {E : Env} {s : St} {a : Act} (hR : Rel C.N E0 B0 E s a) (hK : adops C l l s K) (id : Nat) : (Code.region id ops true).wp (C.P .o) Qc a E.w := by
  obtain ⟨L, rfl, hL⟩ := resD_good hr
  refine wp_region_any hm ?_
  have hR' : Rel C.N E0 B0 ⟨E.ρ, E.rv, E.I, { E.w with drawn := E.w.drawn + 1 }⟩ s a := hR.world rfl rfl rfl (Nat.le_refl _) fun b _ => rfl
  have hls : ∀ i, ¬ Ls (Array.replicate ops.size false) i := by
    intro i h
    have := ls_lt h
    unfold Ls at h
    simp at this
    simp [this] at h
  have hleft : left (Array.replicate ops.size false) ops.size = ops.size := by
    have : ∀ n, left (Array.replicate ops.size false) n = n := by
      intro n
      unfold left
      rw [List.filter_eq_self.2, List.length_range]
      intro i _
      have := hls i
      unfold Ls at this
      simpa using this
    exact this _
  exact draw_go hL hB0 hn hp ops.size _ [] L [] s s _ a hleft (by simp) ⟨rfl, fun i h => (hls i h).elim, fun x _ => hls _, fun x h => by simp at h, fun u h => by simp at h, fun x h => by simp at h, fun u h => by simp at h⟩
    ⟨fun _ _ => rfl, fun _ _ => rfl, fun _ h => by simp at h, rfl, fun _ h => by simp at h⟩ hR' hK
end

end Go.Proofs.YtiaenejafpbfkaaDoor.Sx

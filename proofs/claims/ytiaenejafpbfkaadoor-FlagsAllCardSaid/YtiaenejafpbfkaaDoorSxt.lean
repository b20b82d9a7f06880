/- A symbolic executor for the model's code: regions whose order of evaluation is left open: calls and appends ahead of what comes late. -/
import Derived.Test.YtiaenejafpbfkaaDoorSxs
namespace Go.Proofs.YtiaenejafpbfkaaDoor.Sx
open Go
set_option linter.unusedSimpArgs false
set_option linter.unusedVariables false

/-- The states' like, where a panic is told without what may come late. -/
def Cx.late (C : Cx) (us : List ROp) (pd : List Pd) : Cx := ⟨C.P, C.N, fun p r' => ∃ s' v, p = some v ∧ v.flat = true ∧ Sim pd s' r' ∧ C.X p (strip us s')⟩
def Klate (K : St → Prop) (pd : List Pd) (r' : St) : Prop := ∃ s', K s' ∧ Sim pd s' r'

theorem clear_spec {cs : List Nat} : ∀ {us : List ROp}, clear cs us = true → ∀ u ∈ us, isNew u.op = true → ∀ d, u.dst = some d → d ∉ cs
  | [], _, u, hu => by simp at hu
  | w :: us, h, u, hu => by
    intro hn d hd hm
    unfold clear at h
    split at h
    · rename_i d' h1 h2
      split at h
      · cases h
      · rename_i h3
        rcases List.mem_cons.1 hu with rfl | hu
        · rw [h2] at hd; cases hd; simp at h3; exact h3 hm
        · exact clear_spec h u hu hn d hd hm
    · rename_i h1
      rcases List.mem_cons.1 hu with rfl | hu
      · exact h1 d hn hd
      · exact clear_spec h u hu hn d hd hm

theorem reach_seen {B : BL} : ∀ (f : Nat) (l seen : List Nat) (y : Nat), y ∈ seen → y ∈ reach B f l seen
  | 0, l, seen, y, h => h
  | f + 1, [], seen, y, h => h
  | f + 1, x :: r, seen, y, h => by
    unfold reach
    split
    · exact reach_seen f r seen y h
    · exact reach_seen f _ _ y (List.mem_cons_of_mem _ h)
theorem reach_congr {B B' : BL} : ∀ (f : Nat) (l seen : List Nat), (∀ x ∈ reach B f l seen, B'.get x = B.get x) → reach B' f l seen = reach B f l seen
  | 0, l, seen, h => rfl
  | f + 1, [], seen, h => rfl
  | f + 1, x :: r, seen, h => by
    unfold reach at h ⊢
    split
    · rename_i hs; rw [hs] at h; exact reach_congr f r seen h
    · rename_i hs
      rw [hs] at h
      simp only at h
      rw [h x (reach_seen f _ _ x (by simp))]
      exact reach_congr f _ _ h
theorem closed_congr {B B' : BL} {l : List Nat} : ∀ {r : List Nat}, (∀ x ∈ r, B'.get x = B.get x) → closed B' l r = closed B l r
  | [], _ => rfl
  | x :: r, h => by
    unfold closed
    rw [h x (by simp), closed_congr (r := r) fun y hy => h y (by simp [hy])]
theorem pick_congr {B B' R : BL} : ∀ {r : List Nat}, (∀ x ∈ r, B'.get x = B.get x) → B'.pick r R = B.pick r R
  | [], _ => rfl
  | x :: r, h => by
    unfold BL.pick
    rw [h x (by simp), pick_congr (r := r) fun y hy => h y (by simp [hy])]
theorem rowsOf_congr {B B' : BL} : ∀ {r : List Nat}, (∀ x ∈ r, B'.get x = B.get x) → rowsOf B' r = rowsOf B r
  | [], _ => rfl
  | x :: r, h => by
    unfold rowsOf
    rw [h x (by simp), rowsOf_congr (r := r) fun y hy => h y (by simp [hy])]
theorem al_kills_nil (l : AL) : l.kills [] = l := by cases l <;> rfl
theorem bl_kills_nil (l : BL) : l.kills [] = l := by cases l <;> rfl

section
variable {C : Cx} {pd : List Pd} {us : List ROp} {s r : St} {K : St → Prop} {dst : Option Nat}

theorem after_t {d : Nat} {cs : List Nat} {B' : BL} (h : rowsOf s.b cs = []) : (s.after d cs B').t = s.t := by unfold St.after; rw [h]; exact al_kills_nil _
theorem after_df {d : Nat} {cs : List Nat} {B' : BL} (h : rowsOf s.b cs = []) : (s.after d cs B').df = s.df := by unfold St.after; rw [h]; exact kills_nil _
theorem after_b {d : Nat} {cs : List Nat} {B' : BL} (h : rowsOf s.b cs = []) (x : Nat) : (s.after d cs B').b.get x = if (B'.get d).live = true ∧ d = x then B'.get d else if x ∈ cs then B'.get x else s.b.get x := by
  unfold St.after
  rw [h]
  simp only [bl_kills_nil]
  split
  · rename_i hl
    rw [BL.get_cons, pick_get]
    by_cases hx : d = x
    · rw [if_pos hx, if_pos ⟨hl, hx⟩]
    · simp [hl, hx]
  · rename_i hl
    rw [pick_get]
    simp [hl]

theorem keepK_spec {cs : List Nat} {B' : BL} {Q : Prop} : ∀ {us : List ROp}, keepK s cs B' Q us → Q ∧ ∀ u ∈ us, ∀ x, rdp s u.op = some x → x ∈ cs → B'.get x = s.b.get x
  | [], h => ⟨h, fun u hu => by simp at hu⟩
  | w :: us, h => by
    unfold keepK at h
    split at h
    · rename_i x hx
      split at h
      · obtain ⟨h1, h2⟩ := h
        obtain ⟨h3, h4⟩ := keepK_spec h2
        refine ⟨h3, fun u hu y hy hm => ?_⟩
        rcases List.mem_cons.1 hu with rfl | hu
        · rw [hx] at hy; cases hy; exact h1
        · exact h4 u hu y hy hm
      · rename_i hc
        obtain ⟨h3, h4⟩ := keepK_spec h
        refine ⟨h3, fun u hu y hy hm => ?_⟩
        rcases List.mem_cons.1 hu with rfl | hu
        · rw [hx] at hy; cases hy; simp at hc; exact (hc hm).elim
        · exact h4 u hu y hy hm
    · rename_i hx
      obtain ⟨h3, h4⟩ := keepK_spec h
      refine ⟨h3, fun u hu y hy hm => ?_⟩
      rcases List.mem_cons.1 hu with rfl | hu
      · rw [hx] at hy; cases hy
      · exact h4 u hu y hy hm

theorem pd_new {u : Pd} (h : PdOk s u) (hn : u.nw = true) : isNew u.o.op = true := by
  unfold PdOk at h; rw [hn] at h; exact h.n

theorem aresU_late {v : ARes} (hS : Sim pd s r) (hd : ∀ u ∈ pd, ∀ k, dst = some k → touches u.o k = false) (h : aresU C us v dst s K) : ares (C.late us pd) v dst r (Klate K pd) := by
  cases v with
  | ret v => exact ⟨_, h, hS.setO hd⟩
  | pan v =>
    simp only [aresU] at h
    split at h
    · rename_i hf; exact ⟨s, v, rfl, hf, hS, h⟩
    · exact h.elim

/-- States alike in some temporaries and places. -/
structure Agree (T X : Nat → Prop) (s r : St) : Prop where
  t : ∀ k, T k → r.t.get k = s.t.get k
  b : ∀ x, X x → r.b.get x = s.b.get x
theorem Agree.shut1 {T X : Nat → Prop} (h : Agree T X s r) {d : Nat} (hd : X d) : Agree T X (s.shut1 d) (r.shut1 d) := by
  unfold St.shut1
  rw [h.b d hd]
  split
  · refine ⟨fun k hk => ?_, fun x hx => ?_⟩
    · simp only [al_fz]; rw [h.t k hk]
    · show (BL.cons d .no _).get x = (BL.cons d .no _).get x
      rw [BL.get_cons, BL.get_cons, bl_fz, bl_fz, h.b x hx]
  · exact h
theorem Agree.shutL {T X : Nat → Prop} : ∀ {ds : List Nat} {s r : St}, Agree T X s r → (∀ d ∈ ds, X d) → Agree T X (s.shutL ds) (r.shutL ds)
  | [], s, r, h, _ => h
  | d :: ds, s, r, h, hd => Agree.shutL (ds := ds) (s := s.shut1 d) (r := r.shut1 d) (h.shut1 (hd d (by simp))) fun y hy => hd y (by simp [hy])

theorem acallU2_late {E0 : Env} {B0 : BL} {f : Nat} {as : List AV} {cs : List Nat} (hS : Sim pd s r) (hus : ∀ u ∈ pd, u.o ∈ us) (hd : ∀ u ∈ pd, ∀ k, dst = some k → touches u.o k = false)
    (hcs : ∀ x ∈ cs, x ∈ cs) (h : acallU2 C us f as dst s cs K) : acall2 (C.late us pd) f as dst [] r r cs (Klate K pd) ∧ ∀ x ∈ cs, r.b.get x = s.b.get x := by
  unfold acallU2 at h
  split at h
  rotate_left
  · exact h.elim
  rename_i h1 h2 h3 h4 h5
  have hcl := clear_spec h5
  have hne : ∀ u ∈ pd, u.nw = true → ∀ x, u.o.dst = some x → x ∉ dst.getD 9999 :: cs := fun u hu hn x hx => hcl u.o (hus u hu) (pd_new (hS.ok u hu) hn) x hx
  have hget : ∀ x ∈ dst.getD 9999 :: cs, r.b.get x = s.b.get x := fun x hx => hS.b x fun u hu hn e => hne u hu hn x e hx
  have hcs' : ∀ x ∈ cs, r.b.get x = s.b.get x := fun x hx => hget x (List.mem_cons_of_mem _ hx)
  refine ⟨?_, hcs'⟩
  unfold acall2
  have hf : fresh r (dst.getD 9999) = fresh s (dst.getD 9999) := by unfold fresh; rw [hget _ (List.mem_cons_self ..)]
  rw [hf, h1, h2, closed_congr hcs', h3]
  simp only
  rw [pick_congr hcs']
  have hr4 : rowsOf r.b cs = [] := (rowsOf_congr hcs').trans h4
  refine h.mono fun v B' hk => ?_
  obtain ⟨h6, h7⟩ := keepK_spec hk
  refine aresU_late ?_ hd h6
  obtain ⟨hdead, _⟩ := fresh_spec h1
  refine ⟨fun k hk' => by rw [after_t h4, after_t hr4]; exact hS.t k hk', fun x hx => by rw [after_b h4, after_b hr4, hS.b x hx], fun u hu hn x hx => ?_, by rw [after_df h4, after_df hr4, hS.df], fun u hu => ?_⟩
  · have := hne u hu hn x hx
    rw [after_b hr4, if_neg (fun q => this (by rw [← q.2]; simp)), if_neg (fun q => this (List.mem_cons_of_mem _ q))]
    exact hS.no u hu hn x hx
  · refine (hS.ok u hu).to (fun k _ => by rw [after_t h4]) (fun x hx hl => ?_) fun hn x hx => ?_
    · rw [after_b h4, if_neg (fun q => hdead (by rw [q.2]; exact hl))]
      split
      · rename_i hm; exact h7 u.o (hus u hu) x hx hm
      · rfl
    · have := hne u hu hn x hx
      rw [after_b h4, if_neg (fun q => this (by rw [← q.2]; simp)), if_neg (fun q => this (List.mem_cons_of_mem _ q))]

theorem acallU_late {f : Nat} {as : St → List AV} {ds : List Nat} (hS : Sim pd s r) (hus : ∀ u ∈ pd, u.o ∈ us) (hd : ∀ u ∈ pd, ∀ k, dst = some k → touches u.o k = false)
    (has : ∀ s' r', Agree (fun k => ∀ u ∈ pd, u.o.dst ≠ some k) (fun x => ∀ u ∈ pd, u.nw = true → u.o.dst ≠ some x) s' r' → as r' = as s')
    (h : acallU C us f as dst s K ds) : acall (C.late us pd) f as dst ds r (r.shutL ds) (Klate K pd) := by
  have hA : Agree (fun k => ∀ u ∈ pd, u.o.dst ≠ some k) (fun x => ∀ u ∈ pd, u.nw = true → u.o.dst ≠ some x) s r := ⟨hS.t, hS.b⟩
  unfold acall acall1
  unfold acallU at h
  split at h
  · unfold acallU1 at h
    show acall2 _ _ (as r) _ _ _ r (reach r.b 100 ((chain (as r)).ids []) []) _
    rw [has s r hA]
    obtain ⟨h1, h2⟩ := acallU2_late (E0 := ⟨fun _ => 0, fun _ => undef, fun _ _ => False, default⟩) (B0 := .nil) hS hus hd (fun _ h => h) h
    rw [reach_congr 100 _ _ h2]
    exact h1
  · rename_i d0 ds
    unfold acallL1 at h
    split at h
    rotate_left
    · exact h.elim
    rename_i hcl
    have hne : ∀ x ∈ d0 :: ds, ∀ u ∈ pd, u.nw = true → u.o.dst ≠ some x := fun x hx u hu hn e => clear_spec hcl u.o (hus u hu) (pd_new (hS.ok u hu) hn) x e hx
    have hA1 := hA.shutL hne
    rw [has _ _ hA1]
    unfold acallL2 at h
    split at h
    rotate_left
    · exact h.elim
    rename_i h1 h2 h3 h4
    rw [reach_congr (B := (s.shutL (d0 :: ds)).b) 100 _ _ (fun x hx => by rw [h4] at hx; simp at hx), h4]
    unfold acall2
    have hfr : fresh (r.shutL (d0 :: ds)) (dst.getD 9999) = fresh (s.shutL (d0 :: ds)) (dst.getD 9999) ∨ fresh (r.shutL (d0 :: ds)) (dst.getD 9999) = true := by
      unfold fresh
      by_cases hx : ∀ u ∈ pd, u.nw = true → u.o.dst ≠ some (dst.getD 9999)
      · rw [hA1.b _ hx]; exact .inl rfl
      · right
        have hno : r.b.get (dst.getD 9999) = .no := by
          rcases Classical.not_forall.1 hx with ⟨u, hx⟩
          rcases Classical.not_imp.1 hx with ⟨hu, hx⟩
          rcases Classical.not_imp.1 hx with ⟨hn, hx⟩
          exact hS.no u hu hn _ (Classical.not_not.1 hx)
        have hlt := (fresh_spec h1).2
        have : ∀ (ds : List Nat) (q : St), q.b.get (dst.getD 9999) = .no → ((q.shutL ds).b.get (dst.getD 9999)).live = false := by
          intro ds
          induction ds with
          | nil => intro q hq; show (q.b.get _).live = false; rw [hq]; rfl
          | cons d ds ih =>
            intro q hq
            refine ih (q.shut1 d) ?_
            unfold St.shut1
            split
            · show (BL.cons d .no _).get _ = _
              rw [BL.get_cons, bl_fz, hq]
              split <;> rfl
            · exact hq
        rw [this _ r hno]
        simp only [ltB]
        simpa using hlt
    have hf : fresh (r.shutL (d0 :: ds)) (dst.getD 9999) = true := hfr.elim (fun q => q.trans h1) id
    rw [h4] at h2
    rw [hf, h2]
    simp only [closed]
    refine h.mono fun v B' hk => ?_
    split at hk
    · rename_i hfl
      rw [hfl]
      exact aresU_late hS hd hk
    · exact hk.elim

theorem AppAt.mono {bytes : Nat} {n m : Th Nat} {g gy : Th Nat → AV} {K K' : Th Nat → (Th Nat → AV) → Prop} (h : AppAt bytes n m g gy K) (hk : ∀ n' g', K n' g' → K' n' g') : AppAt bytes n m g gy K' := by
  obtain ⟨h1, n', g', h2, h3, h4, h5⟩ := h
  exact ⟨h1, n', g', h2, h3, h4, hk _ _ h5⟩

theorem evsAvoid_spec {p : Nat} : ∀ {l : List Opd}, evsAvoid s p l = true → ∀ x ∈ l, (x.ev s).avoid p = true
  | [], _, x, hx => by simp at hx
  | y :: l, h, x, hx => by
    unfold evsAvoid at h
    split at h
    · rename_i hy
      rcases List.mem_cons.1 hx with rfl | hx
      · exact hy
      · exact evsAvoid_spec h x hx
    · cases h
theorem place_avoid {p x : Nat} {v : AV} (h : v.avoid p = true) (hp : place v = some x) : x ≠ p := by
  unfold place at hp
  split at hp <;> simp_all [AV.avoid]
theorem okGrow_spec {p : Nat} : ∀ {us : List ROp}, okGrow s p us = true → ∀ u ∈ us, (∀ x ∈ u.op.opds, (x.ev s).avoid p = true) ∧ (∀ d, u.dst = some d → (s.t.get d).avoid p = true ∧ (s.b.get d).avoid p = true) ∧ ∀ x, rdp s u.op = some x → (s.b.get x).avoid p = true
  | [], _, u, hu => by simp at hu
  | w :: us, h, u, hu => by
    unfold okGrow at h
    split at h
    · rename_i h1 h2 h3
      rcases List.mem_cons.1 hu with rfl | hu
      · refine ⟨evsAvoid_spec h1, fun d hd => ?_, fun x hx => ?_⟩
        · rw [hd] at h2
          simp only at h2
          split at h2
          · rename_i h4; exact ⟨h4, h2⟩
          · cases h2
        · rw [hx] at h3; exact h3
      · exact okGrow_spec h u hu
    · cases h

theorem Sim.grow {p : Nat} {b : Blk} (hS : Sim pd s r) (hus : ∀ u ∈ pd, u.o ∈ us) (hg : okGrow s p us = true) (hc : clear [p] us = true) : Sim pd (s.grow p b) (r.grow p b) := by
  have hne : ∀ u ∈ pd, u.nw = true → ∀ x, u.o.dst = some x → x ≠ p := fun u hu hn x hx e => clear_spec hc u.o (hus u hu) (pd_new (hS.ok u hu) hn) x hx (by simp [e])
  refine ⟨fun k hk => ?_, fun x hx => ?_, fun u hu hn x hx => ?_, ?_, fun u hu => ?_⟩
  · show (r.t.kill p).get k = (s.t.kill p).get k
    rw [al_kill_get, al_kill_get, hS.t k hk]
  · show (BL.cons p b (r.b.kill p)).get x = (BL.cons p b (s.b.kill p)).get x
    rw [BL.get_cons, BL.get_cons, bl_kill_get, bl_kill_get, hS.b x hx]
  · show (BL.cons p b (r.b.kill p)).get x = _
    rw [BL.get_cons, if_neg (Ne.symm (hne u hu hn x hx)), bl_kill_get, hS.no u hu hn x hx]; rfl
  · show r.df.kill p = s.df.kill p
    rw [hS.df]
  · obtain ⟨g1, g2, g3⟩ := okGrow_spec hg u.o (hus u hu)
    have hok := hS.ok u hu
    have hw : ∃ w, wants s u.o.guard = some w := by
      unfold PdOk at hok
      split at hok
      · exact ⟨_, hok.w⟩
      · cases hok with
        | no w _ => exact ⟨_, w⟩
        | yes w _ _ _ _ => exact ⟨_, w⟩
    refine hok.to (fun k hk => ?_) (fun x hx hl => ?_) fun hn x hx => ?_
    · show (s.t.kill p).get k = _
      rw [al_kill_get]
      unfold touches uses at hk
      simp only [Bool.or_eq_true] at hk
      rcases hk with (hk | hk) | hk
      · simp only [usesO, List.any_eq_true] at hk
        obtain ⟨x, hx, hx'⟩ := hk
        cases x with
        | tmp n => have : n = k := by simpa using hx'
                   subst this; exact avoid_kill _ (g1 _ hx)
        | val v => simp at hx'
      · obtain ⟨w, hw⟩ := hw
        unfold usesG at hk
        split at hk
        · rename_i t b hg'
          have : t = k := by simpa using hk
          subst this
          rw [hg'] at hw
          simp only [wants] at hw
          split at hw
          · rename_i he; rw [he]; rfl
          · rename_i he; rw [he]; rfl
          · rename_i he; rw [he]; rfl
          · cases hw
        · cases hk
      · split at hk
        · rename_i d hd
          have : d = k := by simpa using hk
          subst this
          exact avoid_kill _ (g2 d hd).1
        · cases hk
    · show (BL.cons p b (s.b.kill p)).get x = _
      rw [BL.get_cons, if_neg, bl_kill_get, avoid_blk _ (g3 x hx)]
      unfold rdp at hx
      split at hx
      · rename_i y hy
        refine Ne.symm (place_avoid (g1 y ?_) hx)
        cases hop : u.o.op <;> rw [hop] at hy <;> simp only [RO.rd, reduceCtorEq, Option.some.injEq] at hy <;> subst hy <;> simp [RO.opds]
      · cases hx
    · show (BL.cons p b (s.b.kill p)).get x = _
      rw [BL.get_cons, if_neg (Ne.symm (hne u hu hn x hx)), bl_kill_get, avoid_blk _ (g2 x hx).2]

theorem append_late {sz bytes : Nat} {x y : Opd} (hS : Sim pd s r) (hus : ∀ u ∈ pd, u.o ∈ us) (hd : ∀ u ∈ pd, ∀ k, dst = some k → touches u.o k = false) (hx : x.ev r = x.ev s) (hy : y.ev r = y.ev s)
    (hok : okApp us s x y = true) (h : aop C (.append sz bytes x y) dst s K) : aop (C.late us pd) (.append sz bytes x y) dst r (Klate K pd) := by
  unfold okApp at hok
  split at hok
  rotate_left
  · cases hok
  rename_i h1
  have hysee : ysee r sz (y.ev s) = ysee s sz (y.ev s) := by
    unfold ysee
    split
    · rfl
    · rfl
    · rename_i d he
      rw [he] at h1
      have h1 : clear [d] us = true := h1
      rw [hS.b d fun u hu hn e => clear_spec h1 u.o (hus u hu) (pd_new (hS.ok u hu) hn) d e (by simp)]
    · rfl
  simp only [aop] at h ⊢
  rw [hy, hx, hysee]
  split at h
  rotate_left
  · exact h.elim
  rename_i d m gy he2
  have hdd : ∀ u ∈ pd, touches u.o d = false := fun u hu => hd u hu d rfl
  split at h
  · rename_i hxe
    split at h
    · rename_i hf
      have hfr : fresh r d = fresh s d := by unfold fresh; rw [hS.dead hdd]
      simp only [he2, hxe, hfr, hf]
      exact h.mono fun n' g' hk => ⟨_, hk, hS.new (fresh_spec hf).1 hdd⟩
    · exact h.elim
  · rename_i p hxe
    rw [hxe] at hok
    simp only at hok
    split at hok
    rotate_left
    · cases hok
    rename_i hcp
    have hbp : r.b.get p = s.b.get p := hS.b p fun u hu hn e => clear_spec hcp u.o (hus u hu) (pd_new (hS.ok u hu) hn) p e (by simp)
    split at h
    rotate_left
    · exact h.elim
    rename_i sz' n g h2 h3
    split at h
    · rename_i h4
      simp only [he2, hxe, hbp, h2, h3, h4]
      exact h.mono fun n' g' hk => ⟨_, hk, (hS.grow hus hok hcp).setO (d := some d) (fun u hu k hk' => by cases hk'; exact hdd u hu)⟩
    · exact h.elim
  · exact h.elim

theorem noRd_spec {d : Nat} : ∀ {us : List ROp}, noRd s d us = true → ∀ u ∈ us, rdp s u.op ≠ some d
  | [], _, u, hu => by simp at hu
  | w :: us, h, u, hu => by
    unfold noRd at h
    split at h
    · cases h
    · rename_i h1
      rcases List.mem_cons.1 hu with rfl | hu
      · intro e
        rw [e] at h1
        simp at h1
      · exact noRd_spec h u hu
theorem Sim.put {d : Nat} {b : Blk} (hS : Sim pd s r) (hc : ∀ u ∈ pd, u.nw = true → u.o.dst ≠ some d) (hr : ∀ u ∈ pd, rdp s u.o.op ≠ some d) : Sim pd (s.put d b) (r.put d b) := by
  refine ⟨hS.t, fun x hx => ?_, fun u hu hn x hx => ?_, hS.df, fun u hu => (hS.ok u hu).to (fun _ _ => rfl) (fun x hx _ => ?_) fun hn x hx => ?_⟩
  · show (BL.cons d b r.b).get x = (BL.cons d b s.b).get x
    rw [BL.get_cons, BL.get_cons, hS.b x hx]
  · show (BL.cons d b r.b).get x = .no
    rw [BL.get_cons, if_neg (fun e : d = x => hc u hu hn (e.symm ▸ hx))]
    exact hS.no u hu hn x hx
  · show (BL.cons d b s.b).get x = _
    rw [BL.get_cons, if_neg (fun e : d = x => hr u hu (e.symm ▸ hx))]
  · show (BL.cons d b s.b).get x = _
    rw [BL.get_cons, if_neg (fun e : d = x => hc u hu hn (e.symm ▸ hx))]
theorem PutAt.mono {n i : Th Nat} {g : Th Nat → AV} {z : Option AV} {K K' : (Th Nat → AV) → Prop} (h : PutAt n i g z K) (hk : ∀ g', K g' → K' g') : PutAt n i g z K' := by
  obtain ⟨g', c', h1, h2, h3, h4⟩ := h.ex
  exact ⟨h.room, g', c', h1, h2, h3, hk _ h4⟩
theorem store_late {sz : Nat} {x y : Opd} (hS : Sim pd s r) (hus : ∀ u ∈ pd, u.o ∈ us) (hx : x.ev r = x.ev s) (hy : y.ev r = y.ev s) (hok : okPut us s x = true) (h : aop C (.store sz x y) dst s K) :
    aop (C.late us pd) (.store sz x y) dst r (Klate K pd) := by
  have key : ∀ d, clear [d] us = true → noRd s d us = true → r.b.get d = s.b.get d ∧ ∀ b, Sim pd (s.put d b) (r.put d b) := fun d h1 h2 => by
    have hc : ∀ u ∈ pd, u.nw = true → u.o.dst ≠ some d := fun u hu hn e => clear_spec h1 u.o (hus u hu) (pd_new (hS.ok u hu) hn) d e (by simp)
    exact ⟨hS.b d hc, fun b => hS.put hc fun u hu => noRd_spec h2 u.o (hus u hu)⟩
  simp only [aop] at h ⊢
  rw [hx, hy]
  unfold okPut at hok
  split at h
  · rename_i d o vc he1 he2
    rw [he1] at hok
    simp only at hok
    split at hok
    rotate_left
    · cases hok
    rename_i hcl
    obtain ⟨hb, hp⟩ := key d hcl hok
    simp only [he1, he2, hb]
    split at h
    · rename_i c hc
      split at h
      · rename_i c' h1 h2
        exact ⟨_, h, hp _⟩
      · exact h.elim
    · exact h.elim
  · rename_i d sz' i off vc he1 he2
    rw [he1] at hok
    simp only at hok
    split at hok
    rotate_left
    · cases hok
    rename_i hcl
    obtain ⟨hb, hp⟩ := key d hcl hok
    simp only [he1, he2, hb]
    split at h
    · rename_i sz'' n g hc
      split at h
      · rename_i h1 h2 h3 h4
        exact h.mono fun g' hk => ⟨_, hk, hp _⟩
      · exact h.elim
    · exact h.elim
  · exact h.elim

/-- A call, an append or a store ahead of what comes late. -/
theorem adopU_late {o : RO} (hS : Sim pd s r) (hus : ∀ u ∈ pd, u.o ∈ us) (hd : ∀ u ∈ pd, ∀ k, dst = some k → touches u.o k = false) (ho : ∀ u ∈ pd, ∀ k, u.o.dst = some k → usesO o k = false)
    (h : adopU C us o dst s K) : aop (C.late us pd) o dst r (Klate K pd) := by
  have hev : ∀ (s' r' : St), Agree (fun k => ∀ u ∈ pd, u.o.dst ≠ some k) (fun x => ∀ u ∈ pd, u.nw = true → u.o.dst ≠ some x) s' r' → ∀ x ∈ o.opds, x.ev r' = x.ev s' := by
    intro s' r' hA x hx
    refine ev_eq fun k hk => hA.t k fun u hu e => ?_
    subst hk
    exact usesO_not (ho u hu k e) hx rfl
  have hA : Agree (fun k => ∀ u ∈ pd, u.o.dst ≠ some k) (fun x => ∀ u ∈ pd, u.nw = true → u.o.dst ≠ some x) s r := ⟨hS.t, hS.b⟩
  cases o <;> simp only [adopU] at h <;> first | exact h.elim | skip
  case append sz bytes x y =>
    split at h
    · rename_i hok
      exact append_late hS hus hd (hev s r hA x (by simp [RO.opds])) (hev s r hA y (by simp [RO.opds])) hok h
    · exact h.elim
  case store sz x y =>
    split at h
    · rename_i hok
      exact store_late hS hus (hev s r hA x (by simp [RO.opds])) (hev s r hA y (by simp [RO.opds])) hok h
    · exact h.elim
  case mov x =>
    show Klate K pd (r.setO dst (x.ev r))
    rw [hev s r hA x (by simp [RO.opds])]
    exact ⟨_, h, hS.setO hd⟩
  case call f args =>
    have he := evs_congr args (hev s r hA)
    show acallS _ f args dst ((chain (evs r args)).rows []) r _
    rw [he]
    exact acallU_late hS hus hd (fun s' r' hA' => evs_congr args (hev s' r' hA')) h
  case callv f args =>
    have he := evs_congr args fun x hx => hev s r hA x (by simp [RO.opds, hx])
    have hf := hev s r hA f (by simp [RO.opds])
    show acallvS _ f args dst ((f.ev r).rows ((chain (evs r args)).rows [])) r _
    rw [he, hf]
    unfold acallvS acallv
    unfold acallvU at h
    split at h
    · rename_i g first caps hfe
      have hds : ∀ x ∈ ((f.ev s).rows ((chain (evs s args)).rows [])), ∀ u ∈ pd, u.nw = true → u.o.dst ≠ some x := by
        unfold acallU at h
        split at h
        · intro x hx; rename_i hn; rw [hn] at hx; simp at hx
        · rename_i d0 ds hn
          unfold acallL1 at h
          split at h
          · rename_i hcl
            rw [hn]
            exact fun x hx u hu hnw e => clear_spec hcl u.o (hus u hu) (pd_new (hS.ok u hu) hnw) x e hx
          · exact h.elim
      have hf1 := hev _ _ (hA.shutL hds) f (by simp [RO.opds])
      rw [hf1, hfe]
      refine acallU_late hS hus hd (fun s' r' hA' => ?_) h
      rw [evs_congr args fun x hx => hev s' r' hA' x (by simp [RO.opds, hx])]
    · exact h.elim
end

end Go.Proofs.YtiaenejafpbfkaaDoor.Sx

/- A symbolic executor for the model's code: regions whose order of evaluation is left open: whatever order the machine takes. -/
import Derived.Test.YtiaenejafpbfkaaDoorSxu
namespace Go.Proofs.YtiaenejafpbfkaaDoor.Sx
open Go
set_option linter.unusedSimpArgs false
set_option linter.unusedVariables false

theorem tv_rp (E : Env) (b : Bool) : Rp E (tv b) (.bool b) := by cases b <;> rfl
theorem tv_locs (b : Bool) (y : Nat) : ¬ (tv b).locs y := by cases b <;> exact fun h => h

/-- What a slot holds, told otherwise. -/
theorem Rel.retell {N : Nat} {E0 : Env} {B0 : BL} {E : Env} {s : St} {a : Act} (h : Rel N E0 B0 E s a) {d : Nat} {v : AV} (hv : Rp E v (a.tmps.getD d undef)) (hl : ∀ y, ¬ v.locs y) : Rel N E0 B0 E (s.set d v) a := by
  refine ⟨fun n => ?_, h.inv, fun n y hy => ?_, h.sz, h.df, h.dn, h.post⟩
  · show Rp E ((AL.cons d v s.t).get n) _
    rw [AL.get_cons]
    split
    · rename_i hn; subst hn; exact hv
    · exact h.tmps n
  · change ((AL.cons d v s.t).get n).locs y at hy
    rw [AL.get_cons] at hy
    split at hy
    · exact (hl y hy).elim
    · exact h.tn n y hy

theorem yielded_of {ops : Array Oper} {N j t : Nat} {b b' : Bool} {tmps : Array Value} (hg : rGuard ops N (some (j, b)) = some (some (t, b'))) (hN : tmps.size = N) {x : Bool} (hv : tmps.getD t undef = .bool x) : b' = b ∧ t < N ∧ yielded ops tmps j = some x := by
  simp only [rGuard] at hg
  split at hg
  · rename_i o ho
    split at hg
    · rename_i t' ht
      split at hg
      · rename_i hlt
        cases hg
        refine ⟨rfl, hlt, ?_⟩
        unfold yielded
        simp only [ho, Option.bind_some, ht]
        have : tmps[t]? = some (.bool x) := by
          rw [Array.getD_eq_getD_getElem?] at hv
          have hlt' : t < tmps.size := by rw [hN]; exact hlt
          rw [Array.getElem?_eq_getElem hlt'] at hv ⊢
          simpa using hv
        simp [this]
      · cases hg
    · cases hg
  · cases hg

theorem unwanted_of {ops : Array Oper} {N j t : Nat} {b b' : Bool} {tmps : Array Value} {o : Oper} (hg : rGuard ops N (some (j, b)) = some (some (t, b'))) (hN : tmps.size = N) (hv : tmps.getD t undef = .tuple #[]) (ho : o.guard = some (j, b)) : Region.wanted o (yielded ops tmps) = false := by
  simp only [rGuard] at hg
  split at hg
  · rename_i o' ho'
    split at hg
    · rename_i t' ht
      split at hg
      · rename_i hlt
        cases hg
        have : yielded ops tmps j = none := by
          unfold yielded
          simp only [ho', Option.bind_some, ht]
          have : tmps[t]? = some (.tuple #[]) := by
            rw [Array.getD_eq_getD_getElem?] at hv
            have hlt' : t < tmps.size := by rw [hN]; exact hlt
            rw [Array.getElem?_eq_getElem hlt'] at hv ⊢
            simpa using hv
          simp [this]
        simp [Region.wanted, ho, this]
      · cases hg
    · cases hg
  · cases hg

section
variable {C : Cx} {E0 : Env} {B0 : BL} {E : Env} {s r : St} {a : Act} {ops : Array Oper}

/-- One operation of a region, its guard known. -/
theorem exec1 (h : Rel C.N E0 B0 E r a) (hB0 : ∀ x, x < 10000 → ¬ B0.liveAt x) {i : Nat} {o : Oper} {x : ROp} (hi : ops[i]? = some o) (hx : rOper (C.P .o) C.N ops o = some x) {w : Bool} (hw : wants r x.guard = some w) {K : St → Prop} {next : Act → World → Prop} {Qc : Exit → Act → World → Prop}
    (h1 : w = true → aop C x.op x.dst r K) (h0 : w = false → K (r.setO x.dst (.tup .nil))) (hk : UponOk C E0 B0 a K next Qc) : wpOp (C.P .o) ops Qc i next a E.w := by
  unfold rOper at hx
  split at hx
  rotate_left
  · cases hx
  rename_i ro g hro hgd hdst
  cases hx
  have hN : ∀ d, o.dst = some d → d < C.N := by
    intro d hd
    unfold okDst at hdst
    rw [hd] at hdst
    simp only [Bool.and_eq_true, decide_eq_true_eq] at hdst
    exact hdst.1
  have hst : (∃ t x y, o.op = .store t x y) → o.dst = none := by
    rintro ⟨t, x, y, ho⟩
    unfold okDst at hdst
    cases hd : o.dst with
    | none => rfl
    | some d => rw [hd] at hdst; simp [ho, isStore] at hdst
  have hwanted : Region.wanted o (yielded ops a.tmps) = w := by
    simp only at hw
    cases hog : o.guard with
    | none =>
      have : g = none := by rw [hog] at hgd; cases hgd; rfl
      subst this
      simp only [wants, Option.some.injEq] at hw
      subst hw
      simp [Region.wanted, hog]
    | some jb =>
      obtain ⟨j, b⟩ := jb
      rw [hog] at hgd
      obtain ⟨t, b', rfl⟩ : ∃ t b', g = some (t, b') := by
        simp only [rGuard] at hgd
        split at hgd
        · split at hgd
          · split at hgd
            · cases hgd; exact ⟨_, _, rfl⟩
            · cases hgd
          · cases hgd
        · cases hgd
      have hval := h.tmps t
      simp only [wants] at hw
      split at hw
      · rename_i he
        rw [he] at hval
        obtain ⟨rfl, _, h3⟩ := yielded_of hgd h.sz (x := true) hval
        cases hw
        simp [Region.wanted, hog, h3]
      · rename_i he
        rw [he] at hval
        obtain ⟨rfl, _, h3⟩ := yielded_of hgd h.sz (x := false) hval
        cases hw
        cases b' <;> simp [Region.wanted, hog, h3]
      · rename_i he
        rw [he] at hval
        cases hw
        obtain ⟨l, hl, hn⟩ := rp_tup.1 hval
        rw [listC_nil.1 hn] at hl
        exact unwanted_of hgd h.sz hl hog
      · cases hw
  unfold wpOp
  simp only [hi]
  rw [hwanted]
  cases w with
  | true =>
    rw [if_pos rfl]
    exact .inl (aop_sound h hB0 hro hN hst (h1 rfl) hk)
  | false =>
    rw [if_neg (by simp)]
    exact hk.1 E _ _ (h.value hB0 hN (v := .tup .nil) (x := undef) (rp_tup.2 ⟨[], rfl, listC_nil.2 rfl⟩) (fun y hy => hy.elim)) (h0 rfl)

/-! ### what may come late is forgotten at a panic -/
theorem strip1_rel (hB0 : ∀ x, x < 10000 → ¬ B0.liveAt x) {u : ROp} (hu : ∀ d, u.dst = some d → d < 10000) (h : Rel C.N E0 B0 E r a) : Rel C.N E0 B0 E (strip1 u r) a := by
  unfold strip1
  split
  · rename_i d hd
    split
    · have hk := h.kill d
      have hf := hk.forget d
      refine Rel.drop (s := ⟨.cons d .any (r.t.kill d), r.b.kill d, r.df.kill d⟩) hf (hB0 d (hu d hd)) (fun k => ?_) (fun q => (kill_locs d _ d q).2 rfl) fun x q => ?_
      · show ¬ ((AL.cons d .any (r.t.kill d)).get k).locs d
        rw [AL.get_cons]
        split
        · exact fun q => q
        · rw [al_kill_get]; exact fun q => (kill_locs d _ d q).2 rfl
      · have q : ((r.b.kill d).get x).locs d := q
        rw [bl_kill_get] at q
        cases hb : r.b.get x with
        | cells c => rw [hb] at q; exact (kill_locs d c d q).2 rfl
        | no => rw [hb] at q; exact q
        | row _ _ _ => rw [hb] at q; exact q
    · exact h.forget d
  · exact h
theorem strip_rel (hB0 : ∀ x, x < 10000 → ¬ B0.liveAt x) : ∀ (us : List ROp) {r : St}, (∀ u ∈ us, ∀ d, u.dst = some d → d < 10000) → Rel C.N E0 B0 E r a → Rel C.N E0 B0 E (strip us r) a
  | [], r, _, h => h
  | u :: us, r, hu, h => strip_rel hB0 us (fun w hw => hu w (by simp [hw])) (strip1_rel hB0 (hu u (by simp)) h)
/-- Alike but for some. -/
structure But (T X : Nat → Prop) (s r : St) : Prop where
  t : ∀ k, ¬ T k → r.t.get k = s.t.get k
  b : ∀ x, ¬ X x → r.b.get x = s.b.get x
  df : r.df = s.df
theorem But.strip1 {T X : Nat → Prop} (h : But T X s r) (u : ROp) : But (fun k => T k ∧ u.dst ≠ some k) (fun x => X x ∧ ¬ (isNew u.op = true ∧ u.dst = some x)) (strip1 u s) (strip1 u r) := by
  unfold Sx.strip1
  split
  · rename_i d hd
    split
    · rename_i hn
      refine ⟨fun k hk => ?_, fun x hx => ?_, ?_⟩
      · show (AL.cons d .any (r.t.kill d)).get k = (AL.cons d .any (s.t.kill d)).get k
        rw [AL.get_cons, AL.get_cons]
        split
        · rfl
        · rename_i hne
          rw [al_kill_get, al_kill_get, h.t k fun q => hk ⟨q, fun e => by rw [hd] at e; exact hne (Option.some.inj e)⟩]
      · show (BL.cons d .no (r.b.kill d)).get x = (BL.cons d .no (s.b.kill d)).get x
        rw [BL.get_cons, BL.get_cons]
        split
        · rfl
        · rename_i hne
          rw [bl_kill_get, bl_kill_get, h.b x fun q => hx ⟨q, fun e => by rw [hd] at e; exact hne (Option.some.inj e.2)⟩]
      · show r.df.kill d = s.df.kill d
        rw [h.df]
    · rename_i hn
      refine ⟨fun k hk => ?_, fun x hx => h.b x fun q => hx ⟨q, fun e => by rw [hn] at e; cases e.1⟩, h.df⟩
      show (AL.cons d .any r.t).get k = (AL.cons d .any s.t).get k
      rw [AL.get_cons, AL.get_cons]
      split
      · rfl
      · rename_i hne
        exact h.t k fun q => hk ⟨q, fun e => by rw [hd] at e; exact hne (Option.some.inj e)⟩
  · rename_i hd
    exact ⟨fun k hk => h.t k fun q => hk ⟨q, by rw [hd]; exact fun e => by cases e⟩, fun x hx => h.b x fun q => hx ⟨q, fun e => by rw [hd] at e; cases e.2⟩, h.df⟩
theorem But.strip : ∀ (us : List ROp) {T X : Nat → Prop} {s r : St}, But T X s r → But (fun k => T k ∧ ∀ u ∈ us, u.dst ≠ some k) (fun x => X x ∧ ∀ u ∈ us, ¬ (isNew u.op = true ∧ u.dst = some x)) (Sx.strip us s) (Sx.strip us r)
  | [], T, X, s, r, h => ⟨fun k hk => h.t k fun q => hk ⟨q, by simp⟩, fun x hx => h.b x fun q => hx ⟨q, by simp⟩, h.df⟩
  | u :: us, T, X, s, r, h => by
    have := But.strip us (h.strip1 u)
    refine ⟨fun k hk => this.t k fun q => hk ⟨q.1.1, fun w hw => ?_⟩, fun x hx => this.b x fun q => hx ⟨q.1.1, fun w hw => ?_⟩, this.df⟩
    · rcases List.mem_cons.1 hw with rfl | hw
      · exact q.1.2
      · exact q.2 w hw
    · rcases List.mem_cons.1 hw with rfl | hw
      · exact q.1.2
      · exact q.2 w hw
theorem late_rel (hB0 : ∀ x, x < 10000 → ¬ B0.liveAt x) {pd : List Pd} {us : List ROp} (hS : Sim pd s r) (hus : ∀ u ∈ pd, u.o ∈ us) (hlt : ∀ u ∈ us, ∀ d, u.dst = some d → d < 10000) (h : Rel C.N E0 B0 E r a) : Rel C.N E0 B0 E (strip us s) a := by
  have hb : But (fun k => ∃ u ∈ pd, u.o.dst = some k) (fun x => ∃ u ∈ pd, u.nw = true ∧ u.o.dst = some x) s r :=
    ⟨fun k hk => hS.t k fun u hu e => hk ⟨u, hu, e⟩, fun x hx => hS.b x fun u hu hn e => hx ⟨u, hu, hn, e⟩, hS.df⟩
  have := But.strip us hb
  refine (strip_rel hB0 us hlt h).congr (fun k => this.t k ?_) (fun x => this.b x ?_) this.df
  · rintro ⟨⟨u, hu, e⟩, h2⟩; exact h2 u.o (hus u hu) e
  · rintro ⟨⟨u, hu, hn, e⟩, h2⟩; exact h2 u.o (hus u hu) ⟨pd_new (hS.ok u hu) hn, e⟩

/-! ### listing -/
def Ls (l : Array Bool) (i : Nat) : Prop := l.getD i false = true
theorem ls_set {l : Array Bool} {i j : Nat} (hi : i < l.size) : Ls (l.setIfInBounds i true) j ↔ j = i ∨ Ls l j := by
  unfold Ls
  by_cases h : i = j
  · subst h; simp [hi]
  · rw [getD_set_ne false h]; simp [Ne.symm h]
theorem ls_lt {l : Array Bool} {i : Nat} (h : Ls l i) : i < l.size := by
  rcases Nat.lt_or_ge i l.size with h' | h'
  · exact h'
  · unfold Ls at h; simp [h'] at h
def Closed (ops : Array Oper) (l : Array Bool) : Prop := ∀ i, Ls l i → ∀ j ∈ aft ops i, Ls l j
theorem must_ls {l : Array Bool} (hc : Closed ops l) {i j : Nat} (h : Must ops i j) : (∀ k ∈ aft ops i, Ls l k) → Ls l j := by
  induction h with
  | one h => exact fun hk => hk _ h
  | on h _ ih => exact fun hk => ih (hc _ (hk _ h))
theorem ready_iff {l : Array Bool} (hsz : l.size = ops.size) {i : Nat} : i ∈ Region.ready .any ops l ↔ i < ops.size ∧ ¬ Ls l i ∧ ∀ j ∈ aft ops i, Ls l j := by
  rw [mem_ready]
  unfold aft Ls
  constructor
  · rintro ⟨h1, o, ho, h2⟩
    have hlt : i < ops.size := (Array.getElem?_eq_some_iff.1 ho).1
    refine ⟨hlt, ?_, fun j hj => ?_⟩
    · have : i < l.size := by omega
      simp [this] at h1 ⊢
      exact h1
    · rw [ho] at hj
      simp only [List.mem_map, List.mem_filter] at hj
      obtain ⟨e, ⟨he, hb⟩, rfl⟩ := hj
      exact h2 e (by simpa using he) hb
  · rintro ⟨hlt, h1, h2⟩
    refine ⟨?_, ops[i], Array.getElem?_eq_getElem hlt, fun e he hb => ?_⟩
    · have : i < l.size := by omega
      simp [this] at h1 ⊢
      exact h1
    · rw [Array.getElem?_eq_getElem hlt] at h2
      exact h2 e.on (List.mem_map.2 ⟨e, List.mem_filter.2 ⟨by simpa using he, hb⟩, rfl⟩)
def left (l : Array Bool) (n : Nat) : Nat := ((List.range n).filter fun i => !l.getD i false).length
theorem left_set {l : Array Bool} {i : Nat} (hi : i < l.size) (hn : ¬ Ls l i) : ∀ n, left (l.setIfInBounds i true) n + (if i < n then 1 else 0) = left l n
  | 0 => by simp [left]
  | n + 1 => by
    have ih := left_set hi hn n
    unfold left at ih ⊢
    have e1 : ∀ f : Nat → Bool, (List.filter f [n]).length = if f n = true then 1 else 0 := by intro f; cases h : f n <;> simp [List.filter_cons, h]
    rw [List.range_succ, List.filter_append, List.filter_append, List.length_append, List.length_append, e1, e1]
    by_cases h : i = n
    · subst h
      have h1 : l.getD i false = false := by unfold Ls at hn; simpa using hn
      have h2 : (l.setIfInBounds i true).getD i false = true := (ls_set hi).2 (.inl rfl)
      rw [if_neg (Nat.lt_irrefl i)] at ih
      rw [h1, h2, if_pos (Nat.lt_succ_self i), if_neg (by simp), if_pos (by simp)]
      omega
    · have h3 := getD_set_ne (listed := l) false h
      rw [h3]
      by_cases h4 : i < n
      · rw [if_pos h4] at ih; rw [if_pos (show i < n + 1 by omega)]; omega
      · rw [if_neg h4] at ih; rw [if_neg (show ¬ i < n + 1 by omega)]; omega
theorem left_zero {l : Array Bool} {n : Nat} (h : left l n = 0) : ∀ i, i < n → Ls l i := by
  intro i hi
  unfold left at h
  have := List.length_eq_zero_iff.1 h
  rw [List.filter_eq_nil_iff] at this
  have := this i (by simpa using hi)
  unfold Ls
  simpa using this
end

/-! ### the rule -/
section
variable {C : Cx} {E0 : Env} {B0 : BL} {ops : Array Oper} {L : List (Nat × DOp)} {K : St → Prop}

/-- How the machine stands: those ahead have been walked, and have come but for those in pd. -/
structure Stand (L pre post : List (Nat × DOp)) (pd : List Pd) (l : Array Bool) : Prop where
  spl : L = pre ++ post
  cl : Closed ops l
  ahead : ∀ x ∈ post, ¬ Ls l x.1
  ser : ∀ x ∈ pre, x.2.fl = false → Ls l x.1
  late : ∀ u ∈ pd, (∃ x ∈ pre, x.1 = u.i ∧ x.2.o = u.o ∧ x.2.fl = true) ∧ ¬ Ls l u.i
  all : ∀ x ∈ pre, ¬ Ls l x.1 → ∃ u ∈ pd, u.i = x.1
  uniq : ∀ u ∈ pd, ∀ w ∈ pd, u.i = w.i → u = w

theorem floats_spec {o : Oper} {x : ROp} (h : floats o x = true) : isQuiet x.op = true ∨ isNew x.op = true := by
  unfold floats at h; simp only [Bool.and_eq_true, Bool.or_eq_true] at h; exact h.2
theorem floats_rd {o : Oper} {x : ROp} (h : floats o x = true) {y : Opd} (hy : x.op.rd = some y) : ∃ k, y = .tmp k := by
  unfold floats at h
  simp only [Bool.and_eq_true] at h
  have := h.1.2
  unfold rdTmp at this
  rw [hy] at this
  cases y with
  | tmp k => exact ⟨k, rfl⟩
  | val v => cases this

/-- The walk goes one further, past one that may float; the machine stays. -/
theorem walk1 (hL : Good (C.P .o) C.N ops L) {pre post : List (Nat × DOp)} {x : Nat × DOp} {pd : List Pd} {l : Array Bool} (hst : Stand (ops := ops) L pre (x :: post) pd l) (hf : x.2.fl = true) {s r : St} (hS : Sim pd s r)
    {E : Env} {a : Act} (hR : Rel C.N E0 B0 E r a) (hK : adops C (L.map (·.2)) (x.2 :: post.map (·.2)) s K) :
    ∃ nw s' r', Stand (ops := ops) L (pre ++ [x]) post (⟨x.1, x.2.o, nw⟩ :: pd) l ∧ Sim (⟨x.1, x.2.o, nw⟩ :: pd) s' r' ∧ Rel C.N E0 B0 E r' a ∧ adops C (L.map (·.2)) (post.map (·.2)) s' K := by
  have hmem : x ∈ L := by rw [hst.spl]; simp
  have hap : ∀ u ∈ pd, Apart u.o x.2.o := by
    intro u hu
    obtain ⟨⟨p, h1, h2, h3, h4⟩, _⟩ := hst.late u hu
    rw [← h3]
    exact hL.apF pre x post hst.spl hf p h1 h4
  have hself : ∀ d, x.2.o.dst = some d → True := fun _ _ => trivial
  obtain ⟨oo, hoo, hro, hfl⟩ := hL.res x hmem
  have hkind := floats_spec (hfl ▸ hf)
  have hstand : ∀ nw, Stand (ops := ops) L (pre ++ [x]) post (⟨x.1, x.2.o, nw⟩ :: pd) l := by
    intro nw
    refine ⟨by rw [hst.spl]; simp, hst.cl, fun y hy => hst.ahead y (by simp [hy]), fun y hy hyf => ?_, fun u hu => ?_, fun y hy hn => ?_, fun u hu w hw he => ?_⟩
    · rcases List.mem_append.1 hy with hy | hy
      · exact hst.ser y hy hyf
      · have := List.mem_singleton.1 hy; subst this; rw [hf] at hyf; cases hyf
    · rcases List.mem_cons.1 hu with rfl | hu
      · exact ⟨⟨x, by simp, rfl, rfl, hf⟩, hst.ahead x (by simp)⟩
      · obtain ⟨⟨p, h1, h2⟩, h3⟩ := hst.late u hu
        exact ⟨⟨p, by simp [h1], h2⟩, h3⟩
    · rcases List.mem_append.1 hy with hy | hy
      · obtain ⟨u, h1, h2⟩ := hst.all y hy hn
        exact ⟨u, by simp [h1], h2⟩
      · have := List.mem_singleton.1 hy; subst this; exact ⟨_, List.mem_cons_self .., rfl⟩
    · have other : ∀ v ∈ pd, v.i ≠ x.1 := by
        intro v hv
        obtain ⟨⟨p, h1, h2, _⟩, _⟩ := hst.late v hv
        rw [← h2]
        exact hL.fresh pre x post hst.spl p h1
      rcases List.mem_cons.1 hu with rfl | hu <;> rcases List.mem_cons.1 hw with rfl | hw
      · rfl
      · exact (other w hw he.symm).elim
      · exact (other u hu he).elim
      · exact hst.uniq u hu w hw he
  have hus : pickD (L.map (·.2)) x.2.us = [] := by rw [hL.flus x hmem hf]; rfl
  -- its own place is not among what it looks at
  have hnoself : ∀ d, x.2.o.dst = some d → uses x.2.o d = false := by
    intro d hd
    cases hu : uses x.2.o d with
    | false => rfl
    | true => exact (hL.self x hmem hf d hd hu).elim
  have touch : ∀ {s0 : St} {v : AV}, (∀ k, uses x.2.o k = true → (s0.setO x.2.o.dst v).t.get k = s0.t.get k) := by
    intro s0 v k hk
    rw [setO_get, if_neg]
    intro he
    rw [hnoself k he] at hk
    cases hk
  have hTouch : ∀ u ∈ pd, ∀ k, x.2.o.dst = some k → touches u.o k = false := fun u hu k hk => (hap u hu).1 k hk
  -- wanted
  have yes : ∀ {s r : St}, Sim pd s r → Rel C.N E0 B0 E r a → wants s x.2.o.guard = some true → aop C x.2.o.op x.2.o.dst s (fun s' => adops C (L.map (·.2)) (post.map (·.2)) s' K) →
      ∃ nw s' r', Stand (ops := ops) L (pre ++ [x]) post (⟨x.1, x.2.o, nw⟩ :: pd) l ∧ Sim (⟨x.1, x.2.o, nw⟩ :: pd) s' r' ∧ Rel C.N E0 B0 E r' a ∧ adops C (L.map (·.2)) (post.map (·.2)) s' K := by
    intro s r hS hR hw ha
    rcases hkind with hq | hn
    · obtain ⟨v, hg, hk⟩ := aop_quiet hq ha
      refine ⟨false, _, r, hstand _, hS.late hTouch ?_, hR, hk⟩
      refine PdVal.yes ?_ hq v ?_ ?_
      · rw [← hw]; exact wants_same fun k hk => touch k (by simp [uses, hk])
      · have : qev (s.setO x.2.o.dst v) x.2.o.op = qev s x.2.o.op := qev_congr (evs_same fun k hk => touch k (by simp [uses, hk])) fun d _ => by rw [setO_b]
        rw [this]; exact hg
      · intro d hd
        rw [setO_get, if_pos hd]
        exact .inl rfl
    · obtain ⟨d, v, b, hd, hf, han, hcn, hk⟩ := aop_new hn ha
      obtain ⟨hdead, hlt⟩ := fresh_spec hf
      refine ⟨true, _, r, hstand _, hS.lateNew hd hdead (fun u hu => hTouch u hu d hd) ?_, hR, hk⟩
      have tg : ∀ k, uses x.2.o k = true → (s.new d v b).t.get k = s.t.get k := by
        intro k hk
        rw [new_get, if_neg]
        rintro rfl
        rw [hnoself _ hd] at hk
        cases hk
      have hcn' : acond (s.new d v b) x.2.o.op := by
        rw [acond_congr (s := s) (r := s.new d v b) (op := x.2.o.op) (evs_same fun k hk => tg k (by simp [uses, hk]))]
        exact hcn
      refine ⟨?_, hn, hcn', d, v, b, hd, ?_, ?_, ?_, hlt⟩
      · rw [← hw]; exact wants_same fun k hk => tg k (by simp [uses, hk])
      · rw [← han]; exact anew_congr (evs_same fun k hk => tg k (by simp [uses, hk]))
      · rw [new_get, if_pos rfl]
      · rw [new_b, if_pos rfl]
  -- unwanted
  have no : ∀ {s r : St}, Sim pd s r → Rel C.N E0 B0 E r a → wants s x.2.o.guard = some false → adops C (L.map (·.2)) (post.map (·.2)) (s.setO x.2.o.dst (.tup .nil)) K →
      ∃ nw s' r', Stand (ops := ops) L (pre ++ [x]) post (⟨x.1, x.2.o, nw⟩ :: pd) l ∧ Sim (⟨x.1, x.2.o, nw⟩ :: pd) s' r' ∧ Rel C.N E0 B0 E r' a ∧ adops C (L.map (·.2)) (post.map (·.2)) s' K := by
    intro s r hS hR hw hk
    refine ⟨false, _, r, hstand _, hS.late hTouch ?_, hR, hk⟩
    refine PdVal.no ?_ fun d hd => by rw [setO_get, if_pos hd]
    rw [← hw]; exact wants_same fun k hk => touch k (by simp [uses, hk])
  rw [adops] at hK
  rw [hus] at hK
  split at hK
  · rename_i hg
    exact yes hS hR (by rw [hg]; rfl) hK
  · rename_i t b hg
    split at hK
    · rename_i ht
      split at hK
      · exact yes hS hR (by rw [hg]; simp [wants, ht]) hK
      · exact no hS hR (by rw [hg]; simp [wants, ht]) hK
    · rename_i ht
      split at hK
      · exact yes hS hR (by rw [hg]; simp [wants, ht]) hK
      · exact no hS hR (by rw [hg]; simp [wants, ht]) hK
    · rename_i q ht
      have hkn := hS.know ht fun u hu => (hap u hu).2 t b hg
      have hkr : ∃ r', Sim pd (s.set t (tv (q .o))) r' ∧ Rel C.N E0 B0 E r' a := by
        rcases hkn with h1 | ⟨h1, h2⟩
        · exact ⟨r, h1, hR⟩
        · refine ⟨_, h2, hR.retell ?_ (tv_locs _)⟩
          have := hR.tmps t
          rw [h1] at this
          have this : a.tmps.getD t undef = .bool (q .o) := this
          rw [this]
          exact tv_rp E _
      obtain ⟨r', h1, h2⟩ := hkr
      by_cases hb : q .o = b
      · rw [hb] at h1
        refine yes h1 h2 ?_ (hK.1 hb)
        rw [hg]
        simp only [wants]
        rw [set_get, if_pos rfl]
        cases b <;> rfl
      · have hb' : q .o = !b := by revert hb; cases q .o <;> cases b <;> simp
        rw [hb'] at h1
        refine no h1 h2 ?_ (hK.2 hb')
        rw [hg]
        simp only [wants]
        rw [set_get, if_pos rfl]
        cases b <;> rfl
    · rename_i ht
      exact no hS hR (by rw [hg]; simp [wants, ht]) hK
    · exact hK.elim
end

end Go.Proofs.YtiaenejafpbfkaaDoor.Sx

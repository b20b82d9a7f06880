/- A symbolic executor for the model's code: loops, cuts, functions. -/
import Derived.Test.YteeikiekofopnaaSxk
namespace Go.Proofs.Yteeikiekofopnaa.Sx
open Go
set_option linter.unusedSimpArgs false
set_option linter.unusedVariables false

/-- y says no more than x. -/
structure Same (x y : AV) : Prop where
  rp : ∀ E v, Rp E x v → Rp E y v
  locs : ∀ z, y.locs z → x.locs z

theorem Same.refl (x : AV) : Same x x := ⟨fun _ _ h => h, fun _ h => h⟩
theorem Same.any (x : AV) : Same x .any := ⟨fun _ _ _ => trivial, fun _ h => h.elim⟩
theorem Same.of_eq {x y : AV} (h : x = y) : Same x y := h ▸ .refl x
theorem Same.int {k : IntKind} {a b : Th Int} (h : a .o = b .o) : Same (.int k a) (.int k b) := ⟨fun _ v hv => by simp only [Rp] at hv ⊢; rw [hv, h], fun _ h => h⟩
theorem Same.bool {a b : Th Bool} (h : a .o = b .o) : Same (.bool a) (.bool b) := ⟨fun _ v hv => by simp only [Rp] at hv ⊢; rw [hv, h], fun _ h => h⟩
theorem Same.tt {b : Th Bool} (h : b .o = true) : Same .tt (.bool b) := ⟨fun _ v hv => by simp only [Rp] at hv ⊢; rw [hv, h], fun _ h => h⟩
theorem Same.ff {b : Th Bool} (h : b .o = false) : Same .ff (.bool b) := ⟨fun _ v hv => by simp only [Rp] at hv ⊢; rw [hv, h], fun _ h => h⟩
theorem Same.str {a b : Th (List UInt8)} (h : a .o = b .o) : Same (.str a) (.str b) := ⟨fun _ v hv => by simp only [Rp] at hv ⊢; rw [hv, h], fun _ h => h⟩
theorem Same.sl {sz : Nat} {n n' : Th Nat} {g g' : Th Nat → AV} (h : n .o = n' .o) (hg : ∀ i, i < n .o → g (fun _ => i) = g' fun _ => i) : Same (.sl sz n g) (.sl sz n' g') := by
  refine ⟨fun E v hv => ?_, fun _ h => h⟩
  obtain ⟨a, cap, h1, h2, h3⟩ := hv
  refine ⟨a, cap, by rw [← h]; exact h1, by rw [← h]; exact h2, fun i hi => ?_⟩
  have := h3 i (by rw [h]; exact hi)
  rw [hg i (by rw [h]; exact hi)] at this
  exact this
theorem Same.nsl {sz : Nat} {n : Th Nat} {g : Th Nat → AV} (h : n .o = 0) : Same .nsl (.sl sz n g) :=
  ⟨fun E v hv => ⟨none, 0, by rw [h]; exact hv, by rw [h]; exact Nat.le_refl _, fun i hi => by rw [h] at hi; omega⟩, fun _ h => h⟩
theorem Same.trans {x y z : AV} (h : Same x y) (k : Same y z) : Same x z := ⟨fun E v hv => k.rp E v (h.rp E v hv), fun w hw => h.locs w (k.locs w hw)⟩

structure SameB (b b' : Blk) : Prop where
  rp : ∀ E d, BlkRp E d b → BlkRp E d b'
  locs : ∀ z, b'.locs z → b.locs z
theorem SameB.refl (b : Blk) : SameB b b := ⟨fun _ _ h => h, fun _ h => h⟩
theorem SameB.row {sz : Nat} {n n' : Th Nat} {g g' : Th Nat → AV} (h : n .o = n' .o) (hg : ∀ i, i < n .o → g (fun _ => i) = g' fun _ => i) : SameB (.row sz n g) (.row sz n' g') := by
  refine ⟨fun E d hb => ?_, fun _ h => h⟩
  obtain ⟨cap, cur, e, h1, h2, h3, h4, h5, h6⟩ := hb
  refine ⟨cap, cur, e, by rw [← h]; exact h1, h2, by rw [← h]; exact h3, h4, h5, fun i hi => ?_⟩
  have := h6 i (by rw [h]; exact hi)
  rw [hg i (by rw [h]; exact hi)] at this
  exact this
/-- Cells, each the same. -/
structure SameC (c c' : AV) : Prop where
  rp : ∀ E l, ListC E c l → ListC E c' l
  locs : ∀ z, c'.locs z → c.locs z
theorem SameC.nil : SameC .nil .nil := ⟨fun _ _ h => h, fun _ h => h⟩
theorem SameC.cons {x y c d : AV} (h : Same x y) (k : SameC c d) : SameC (.cons x c) (.cons y d) :=
  ⟨fun E l hl => by obtain ⟨v, r, rfl, h1, h2⟩ := listC_cons.1 hl; exact listC_cons.2 ⟨v, r, rfl, h.rp _ _ h1, k.rp _ _ h2⟩, fun z hz => hz.elim (fun q => .inl (h.locs z q)) fun q => .inr (k.locs z q)⟩
theorem SameC.refl (c : AV) : SameC c c := ⟨fun _ _ h => h, fun _ h => h⟩
theorem SameB.cells {c c' : AV} (h : SameC c c') : SameB (.cells c) (.cells c') :=
  ⟨fun E d hb => by obtain ⟨l, e, h1, h2⟩ := hb; exact ⟨l, e, h1, h.rp _ _ h2⟩, h.locs⟩
theorem Same.agg {c c' : AV} (h : SameC c c') : Same (.agg c) (.agg c') :=
  ⟨fun E v hv => by obtain ⟨l, h1, h2⟩ := rp_agg.1 hv; exact rp_agg.2 ⟨l, h1, h.rp _ _ h2⟩, h.locs⟩
theorem Same.tup {c c' : AV} (h : SameC c c') : Same (.tup c) (.tup c') :=
  ⟨fun E v hv => by obtain ⟨l, h1, h2⟩ := rp_tup.1 hv; exact rp_tup.2 ⟨l, h1, h.rp _ _ h2⟩, h.locs⟩

/-- All places that a value names are live. -/
def AV.okL (B : BL) : AV → Bool
  | .row d => (B.get d).live
  | .ptr d _ => (B.get d).live
  | .rptr d _ _ _ => (B.get d).live
  | .iptr c => c.okL B
  | .fn _ a b => match a.okL B with | true => b.okL B | false => false
  | .ifc _ v => v.okL B
  | .agg c => c.okL B
  | .tup c => c.okL B
  | .cons h t => match h.okL B with | true => t.okL B | false => false
  | _ => true
theorem okL_spec {B : BL} (x : AV) (h : x.okL B = true) : ∀ y, x.locs y → B.liveAt y := by
  induction x with
  | row d => intro y hy; exact (show y = d from hy) ▸ h
  | ptr d o => intro y hy; exact (show y = d from hy) ▸ h
  | rptr d s i o => intro y hy; exact (show y = d from hy) ▸ h
  | iptr c ih => exact ih h
  | fn f a b iha ihb =>
    unfold AV.okL at h
    split at h
    · rename_i ha; exact fun y hy => hy.elim (iha ha y) (ihb h y)
    · cases h
  | ifc t v ih => exact ih h
  | agg c ih => exact ih h
  | tup c ih => exact ih h
  | cons a b iha ihb =>
    unfold AV.okL at h
    split at h
    · rename_i ha; exact fun y hy => hy.elim (iha ha y) (ihb h y)
    · cases h
  | _ => exact fun y hy => hy.elim
def Blk.okL (B : BL) : Blk → Bool | .cells c => c.okL B | _ => true
def AL.okL (B : BL) : AL → Bool
  | .nil => true
  | .cons _ v r => match v.okL B with | true => r.okL B | false => false
def BL.okL (B : BL) : BL → Bool
  | .nil => true
  | .cons _ v r => match v.okL B with | true => BL.okL B r | false => false
theorem al_okL {B : BL} : ∀ {l : AL}, l.okL B = true → ∀ d y, (l.get d).locs y → B.liveAt y
  | .nil, _, d, y, hy => hy.elim
  | .cons k v r, h, d, y, hy => by
    unfold AL.okL at h
    split at h
    · rename_i hv
      rw [AL.get_cons] at hy
      split at hy
      · exact okL_spec v hv y hy
      · exact al_okL h d y hy
    · cases h
theorem bl_okL {B : BL} : ∀ {l : BL}, BL.okL B l = true → ∀ d y, (l.get d).locs y → B.liveAt y
  | .nil, _, d, y, hy => hy.elim
  | .cons k v r, h, d, y, hy => by
    unfold BL.okL at h
    split at h
    · rename_i hv
      rw [BL.get_cons] at hy
      split at hy
      · cases v with
        | cells c => exact okL_spec c hv y hy
        | _ => exact hy.elim
      · exact bl_okL h d y hy
    · cases h
/-- The outer places of B are live in B'. -/
def keepsOuter (B B' : BL) : BL → Bool
  | .nil => true
  | .cons k _ r => match ltB k 10000, (B.get k).live, (B'.get k).live with
    | false, true, false => false
    | _, _, _ => keepsOuter B B' r
theorem keepsOuter_spec {B B' : BL} : ∀ {l : BL}, keepsOuter B B' l = true → ∀ x, ¬ x < 10000 → (l.get x).live = true → (B.get x).live = true → (B'.get x).live = true
  | .nil, _, x, _, hl, _ => by simp [BL.get, Blk.live] at hl
  | .cons k v r, h, x, hx, hl, hB => by
    unfold keepsOuter at h
    rw [BL.get_cons] at hl
    split at hl
    · rename_i hk
      subst hk
      cases hq : (B'.get k).live with
      | true => rfl
      | false => simp [hq, hB, ltB, hx] at h
    · refine keepsOuter_spec (l := r) ?_ x hx hl hB
      split at h
      · cases h
      · exact h

def fitT (s : AL) : AL → Prop
  | .nil => True
  | .cons k v r => Same (s.get k) v ∧ fitT s r
def fitB (s : BL) : BL → Prop
  | .nil => True
  | .cons k v r => SameB (s.get k) v ∧ (s.get k).live = v.live ∧ fitB s r
def okAll (s s' : St) : Bool := match s'.t.okL s'.b, BL.okL s'.b s'.b, s'.df.okL s'.b with
  | true, true, true => keepsOuter s.b s'.b s.b
  | _, _, _ => false
structure SameD (x y : AV) : Prop where eq : x = y
/-- A state that fits s fits s', too. -/
def fit (s s' : St) : Prop := match okAll s s' with
  | true => fitT s.t s'.t ∧ fitB s.b s'.b ∧ SameD s.df s'.df
  | false => False

theorem fitT_spec {s : AL} : ∀ {l : AL}, fitT s l → ∀ E d v, Rp E (s.get d) v → Rp E (l.get d) v
  | .nil, _, _, _, _, _ => trivial
  | .cons k x r, h, E, d, v, hv => by
    rw [AL.get_cons]
    split
    · rename_i hk; subst hk; exact h.1.rp E v hv
    · exact fitT_spec h.2 E d v hv
theorem fitB_spec {s : BL} : ∀ {l : BL}, fitB s l → (∀ E d, BlkRp E d (s.get d) → BlkRp E d (l.get d)) ∧ (∀ d, (l.get d).live = true → (s.get d).live = true)
  | .nil, _ => ⟨fun _ _ _ => trivial, fun _ h => by simp [BL.get, Blk.live] at h⟩
  | .cons k x r, h => by
    obtain ⟨h1, h2⟩ := fitB_spec h.2.2
    refine ⟨fun E d hb => ?_, fun d hd => ?_⟩
    · rw [BL.get_cons]
      split
      · rename_i hk; subst hk; exact h.1.rp E _ hb
      · exact h1 E d hb
    · rw [BL.get_cons] at hd
      split at hd
      · rename_i hk; subst hk; rw [h.2.1]; exact hd
      · exact h2 d hd

theorem Rel.fit {N : Nat} {E0 : Env} {B0 : BL} {E : Env} {s s' : St} {a : Act} (hB0 : ∀ x, x < 10000 → ¬ B0.liveAt x) (h : Rel N E0 B0 E s a) (hf : fit s s') : Rel N E0 B0 E s' a := by
  unfold Sx.fit at hf
  split at hf
  · rename_i hok
    obtain ⟨h1, h2, h3⟩ := hf
    have h3 := h3.eq
    obtain ⟨h4, h5⟩ := fitB_spec h2
    unfold okAll at hok
    split at hok
    · rename_i ht hb hd
      have hkeep := fun x => keepsOuter_spec hok x
      refine ⟨fun d => fitT_spec h1 E d _ (h.tmps d), ⟨fun d => h4 E d (h.inv.blk d), fun d d' hd1 hd2 hne => h.inv.dist d d' (h5 d hd1) (h5 d' hd2) hne, fun d hd1 => h.inv.live d (h5 d hd1), h.inv.ibd, bl_okL hb⟩, al_okL ht, h.sz, h3 ▸ h.df, okL_spec _ hd, ?_⟩
      refine ⟨h.post.le, h.post.same, h.post.os, h.post.tape, h.post.output, h.post.size, h.post.old, fun x hx => h.post.dom x (h5 x hx), fun x hx => ?_, h.post.imm⟩
      by_cases hlt : x < 10000
      · exact (hB0 x hlt hx).elim
      · have hl := h.post.keep x hx
        exact hkeep x hlt hl hl
    · cases hok
  · exact hf.elim

/-! ### rules -/
/-- A loop's rule with an order on what the head is told by. -/
theorem wp_loop' {P : Program} {c : Code} {Q : Exit → Act → World → Prop} (I : Nat → Act → World → Prop) (round : ∀ n a w, I n a w → c.wp P (Exit.then (fun a' w' => ∃ m, m < n ∧ I m a' w') Q) a w) {n : Nat} {a : Act} {w : World} (h₀ : I n a w) :
    (Code.loop c).wp P Q a w := by
  intro b k cs
  have key : ∀ n a w, I n a w → ∃ e a' w', Q e a' w' ∧ Arrives P (lone (b.at a (.code c :: .inLoop c :: k)) cs w) b k cs e a' w' := by
    intro n
    induction n using Nat.strongRecOn with
    | _ n ih =>
      intro a w hI
      obtain ⟨e, a₁, w₁, hq, harr⟩ := round n a w hI b (.inLoop c :: k) cs
      cases e with
      | normal =>
        obtain ⟨m, hlt, hI₁⟩ := hq
        obtain ⟨e₂, a₂, w₂, hq₂, harr₂⟩ := ih m hlt a₁ w₁ hI₁
        exact ⟨e₂, a₂, w₂, hq₂, .of_steps (Steps.trans harr (.one step_inLoop)) harr₂⟩
      | exit id => exact ⟨_, a₁, w₁, hq, .pass (x := .inLoop c) rfl (fun _ _ => .inl (by simp)) harr⟩
      | goto l => exact ⟨_, a₁, w₁, hq, .pass (x := .inLoop c) rfl (fun _ _ => .inl (by simp)) harr⟩
      | ret => exact ⟨_, a₁, w₁, hq, .pass (x := .inLoop c) rfl (fun _ _ => .inl (by simp)) harr⟩
      | panic ch => exact ⟨_, a₁, w₁, hq, .pass (x := .inLoop c) rfl (fun _ _ => .inl (by simp)) harr⟩
      | outgrown => exact ⟨_, a₁, w₁, hq, .pass (x := .inLoop c) rfl (fun _ _ => .inl (by simp)) harr⟩
  obtain ⟨e, a', w', hq, harr⟩ := key n a w h₀
  exact ⟨e, a', w', hq, .of_steps (.one step_loop) harr⟩

def AL.pick (l : AL) : List Nat → AL → AL
  | [], r => r
  | k :: ks, r => .cons k (l.get k) (l.pick ks r)
def BL.pick (l : BL) : List Nat → BL → BL
  | [], r => r
  | k :: ks, r => .cons k (l.get k) (l.pick ks r)
/-- The state at a head: some slots and blocks as they are in s, others told anew. -/
def St.head (s : St) (ks bs : List Nat) (t : AL) (b : BL) : St := ⟨s.t.pick ks t, s.b.pick bs b, s.df⟩

theorem loop_rule {C : Cx} {b : RC} {k : List It} {s : St} {X : Type} (F : Nat) (ks bs : List Nat) (T : X → AL) (B : X → BL) (R : X → Prop) (m : X → Nat) (x0 : X)
    (h0 : fit s (s.head ks bs (T x0) (B x0))) (hR : R x0)
    (step : ∀ x, R x → awp C F (.code b :: .inv (fun s' => ∃ x', R x' ∧ m x' < m x ∧ fit s' (s.head ks bs (T x') (B x'))) :: k) (s.head ks bs (T x) (B x))) :
    Sound C (.code (.loop b) :: k) s := by
  refine ⟨fun E0 B0 hB0 E a hr c' hc' => ?_⟩
  obtain ⟨b', rfl, hb⟩ := res_inv hc'
  refine wp_loop' (fun n a w => ∃ x E, R x ∧ m x = n ∧ Rel C.N E0 B0 E (s.head ks bs (T x) (B x)) a ∧ E.w = w) ?_ (n := m x0) ⟨x0, E, hR, rfl, hr.fit hB0 h0, rfl⟩
  rintro n a w ⟨x, E, hRx, rfl, hrel, rfl⟩
  have := (awp_sound F _ _ (step x hRx)).run E0 B0 hB0 E a hrel b' hb
  refine wp_mono this fun e a w hq => ?_
  cases e with
  | normal =>
    obtain ⟨E', s', hr', rfl, x', h1, h2, h3⟩ := hq
    exact ⟨m x', h2, x', E', h1, rfl, hr'.fit hB0 h3, rfl⟩
  | _ => exact hq

theorem cut_rule {C : Cx} {b : RC} {k : List It} {s : St} {X : Type} (F F' : Nat) (ks bs : List Nat) (T : X → AL) (B : X → BL) (R : X → Prop)
    (h1 : awp C F (.code b :: .inv (fun s' => ∃ x, R x ∧ fit s' (s.head ks bs (T x) (B x))) :: k) s)
    (h2 : ∀ x, R x → awp C F' k (s.head ks bs (T x) (B x))) : Sound C (.code b :: k) s := by
  refine ⟨fun E0 B0 hB0 E a hr c' hc' => ?_⟩
  have := (awp_sound F _ _ h1).run E0 B0 hB0 E a hr c' hc'
  refine wp_mono this fun e a w hq => ?_
  cases e with
  | normal =>
    obtain ⟨E', s', hr', rfl, x, h3, h4⟩ := hq
    exact (awp_sound F' _ _ (h2 x h3)).run E0 B0 hB0 E' a (hr'.fit hB0 h4)
  | _ => exact hq

/-- Without a cut. -/
theorem go_on {C : Cx} {k : List It} {s : St} (F : Nat) (h : awp C F k s) : Sound C k s := awp_sound F k s h

end Go.Proofs.Yteeikiekofopnaa.Sx

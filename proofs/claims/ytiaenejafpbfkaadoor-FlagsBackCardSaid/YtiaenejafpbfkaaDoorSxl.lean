/- A symbolic executor for the model's code: loops, cuts, functions. -/
import Derived.Test.YtiaenejafpbfkaaDoorSxk
namespace Go.Proofs.YtiaenejafpbfkaaDoor.Sx
open Go
set_option linter.unusedSimpArgs false
set_option linter.unusedVariables false

/-- y says no more than x. -/
structure Same (x y : AV) : Prop where
  rp : ∀ E v, Rp E x v → Rp E y v
  locs : ∀ z, y.locs z → x.locs z

theorem Same.refl (x : AV) : Same x x := ⟨fun _ _ h => h, fun _ h => h⟩
theorem Same.any (x : AV) : Same x .any := ⟨fun _ _ _ => trivial, fun _ h => h.elim⟩
theorem Same.of_eq {x y : AV} (h : x = y) : Same x y := h ▸ .refl x
theorem Same.int {k : IntKind} {a b : Th Int} (h : a .o = b .o) : Same (.int k a) (.int k b) := ⟨fun _ v hv => by simp only [Rp] at hv ⊢; rw [hv, h], fun _ h => h⟩
theorem Same.bool {a b : Th Bool} (h : a .o = b .o) : Same (.bool a) (.bool b) := ⟨fun _ v hv => by simp only [Rp] at hv ⊢; rw [hv, h], fun _ h => h⟩
theorem Same.tt {b : Th Bool} (h : b .o = true) : Same .tt (.bool b) := ⟨fun _ v hv => by simp only [Rp] at hv ⊢; rw [hv, h], fun _ h => h⟩
theorem Same.ff {b : Th Bool} (h : b .o = false) : Same .ff (.bool b) := ⟨fun _ v hv => by simp only [Rp] at hv ⊢; rw [hv, h], fun _ h => h⟩
theorem Same.str {a b : Th (List UInt8)} (h : a .o = b .o) : Same (.str a) (.str b) := ⟨fun _ v hv => by simp only [Rp] at hv ⊢; rw [hv, h], fun _ h => h⟩
theorem Same.sl {sz : Nat} {n n' : Th Nat} {g g' : Th Nat → AV} (h : n .o = n' .o) (hg : ∀ i, i < n .o → g (fun _ => i) = g' fun _ => i) : Same (.sl sz n g) (.sl sz n' g') := by
  refine ⟨fun E v hv => ?_, fun _ h => h⟩
  obtain ⟨a, cap, h1, h2, h3⟩ := hv
  refine ⟨a, cap, by rw [← h]; exact h1, by rw [← h]; exact h2, fun i hi => ?_⟩
  have := h3 i (by rw [h]; exact hi)
  rw [hg i (by rw [h]; exact hi)] at this
  exact this
theorem Same.nsl {sz : Nat} {n : Th Nat} {g : Th Nat → AV} (h : n .o = 0) : Same .nsl (.sl sz n g) :=
  ⟨fun E v hv => ⟨none, 0, by rw [h]; exact hv, by rw [h]; exact Nat.le_refl _, fun i hi => by rw [h] at hi; omega⟩, fun _ h => h⟩
theorem Same.trans {x y z : AV} (h : Same x y) (k : Same y z) : Same x z := ⟨fun E v hv => k.rp E v (h.rp E v hv), fun w hw => h.locs w (k.locs w hw)⟩

structure SameB (b b' : Blk) : Prop where
  rp : ∀ E d, BlkRp E d b → BlkRp E d b'
  sol : ∀ E d, solid E d b' → solid E d b
  row : b.isRow = false → b'.isRow = false
  locs : ∀ z, b'.locs z → b.locs z
theorem SameB.refl (b : Blk) : SameB b b := ⟨fun _ _ h => h, fun _ _ h => h, fun h => h, fun _ h => h⟩
theorem SameB.rowAny {sz : Nat} {n n' : Th Nat} {g g' : Th Nat → AV} (h : n .o = n' .o) (hg : ∀ i, i < n .o → Fits (g fun _ => i) (g' fun _ => i)) : SameB (.row sz n g) (.row sz n' g') := by
  refine ⟨fun E d hb => ?_, fun _ _ h => h, fun h => h, fun _ h => h⟩
  rcases hb with ⟨h0, h1⟩ | ⟨cap, cur, e, h1, h2, h3, h4, h5, h6⟩
  · exact .inl ⟨h0, by rw [← h]; exact h1⟩
  · exact .inr ⟨cap, cur, e, by rw [← h]; exact h1, h2, by rw [← h]; exact h3, h4, h5, fun i hi => ⟨(hg i (by rw [h]; exact hi)).ok (h6 i (by rw [h]; exact hi)).1, (hg i (by rw [h]; exact hi)).rp E _ (h6 i (by rw [h]; exact hi)).2⟩⟩
theorem SameB.row' {sz : Nat} {n n' : Th Nat} {g g' : Th Nat → AV} (h : n .o = n' .o) (hg : ∀ i, i < n .o → g (fun _ => i) = g' fun _ => i) : SameB (.row sz n g) (.row sz n' g') :=
  .rowAny h fun i hi => by rw [← hg i hi]; exact ⟨fun h => h, fun _ _ h => h⟩
/-- Cells, each the same. -/
structure SameC (c c' : AV) : Prop where
  rp : ∀ E l, ListC E c l → ListC E c' l
  locs : ∀ z, c'.locs z → c.locs z
theorem SameC.nil : SameC .nil .nil := ⟨fun _ _ h => h, fun _ h => h⟩
theorem SameC.cons {x y c d : AV} (h : Same x y) (k : SameC c d) : SameC (.cons x c) (.cons y d) :=
  ⟨fun E l hl => by obtain ⟨v, r, rfl, h1, h2⟩ := listC_cons.1 hl; exact listC_cons.2 ⟨v, r, rfl, h.rp _ _ h1, k.rp _ _ h2⟩, fun z hz => hz.elim (fun q => .inl (h.locs z q)) fun q => .inr (k.locs z q)⟩
theorem SameC.refl (c : AV) : SameC c c := ⟨fun _ _ h => h, fun _ h => h⟩
theorem SameB.cells {c c' : AV} (h : SameC c c') : SameB (.cells c) (.cells c') :=
  ⟨fun E d hb => by obtain ⟨l, e, h1, h2⟩ := hb; exact ⟨l, e, h1, h.rp _ _ h2⟩, fun _ _ h => h, fun h => h, h.locs⟩
theorem Same.agg {c c' : AV} (h : SameC c c') : Same (.agg c) (.agg c') :=
  ⟨fun E v hv => by obtain ⟨l, h1, h2⟩ := rp_agg.1 hv; exact rp_agg.2 ⟨l, h1, h.rp _ _ h2⟩, h.locs⟩
theorem Same.tup {c c' : AV} (h : SameC c c') : Same (.tup c) (.tup c') :=
  ⟨fun E v hv => by obtain ⟨l, h1, h2⟩ := rp_tup.1 hv; exact rp_tup.2 ⟨l, h1, h.rp _ _ h2⟩, h.locs⟩

/-- All places that a value names are live. -/
def AV.okL (B : BL) : AV → Bool
  | .row d => (B.get d).live
  | .ptr d _ => (B.get d).live
  | .rptr d _ _ _ => (B.get d).live
  | .win d _ _ _ => (B.get d).live
  | .iptr c => c.okL B
  | .fn _ a b => match a.okL B with | true => b.okL B | false => false
  | .ifc _ v => v.okL B
  | .agg c => c.okL B
  | .tup c => c.okL B
  | .cons h t => match h.okL B with | true => t.okL B | false => false
  | _ => true
theorem okL_spec {B : BL} (x : AV) (h : x.okL B = true) : ∀ y, x.locs y → B.liveAt y := by
  induction x with
  | row d => intro y hy; exact (show y = d from hy) ▸ h
  | ptr d o => intro y hy; exact (show y = d from hy) ▸ h
  | rptr d s i o => intro y hy; exact (show y = d from hy) ▸ h
  | win d s i o => intro y hy; exact (show y = d from hy) ▸ h
  | iptr c ih => exact ih h
  | fn f a b iha ihb =>
    unfold AV.okL at h
    split at h
    · rename_i ha; exact fun y hy => hy.elim (iha ha y) (ihb h y)
    · cases h
  | ifc t v ih => exact ih h
  | agg c ih => exact ih h
  | tup c ih => exact ih h
  | cons a b iha ihb =>
    unfold AV.okL at h
    split at h
    · rename_i ha; exact fun y hy => hy.elim (iha ha y) (ihb h y)
    · cases h
  | _ => exact fun y hy => hy.elim
def Blk.okL (B : BL) : Blk → Bool | .cells c => c.okL B | _ => true
def AL.okL (B : BL) : AL → Bool
  | .nil => true
  | .cons _ v r => match v.okL B with | true => r.okL B | false => false
def BL.okL (B : BL) : BL → Bool
  | .nil => true
  | .cons _ v r => match v.okL B with | true => BL.okL B r | false => false
theorem al_okL {B : BL} : ∀ {l : AL}, l.okL B = true → ∀ d y, (l.get d).locs y → B.liveAt y
  | .nil, _, d, y, hy => hy.elim
  | .cons k v r, h, d, y, hy => by
    unfold AL.okL at h
    split at h
    · rename_i hv
      rw [AL.get_cons] at hy
      split at hy
      · exact okL_spec v hv y hy
      · exact al_okL h d y hy
    · cases h
theorem bl_okL {B : BL} : ∀ {l : BL}, BL.okL B l = true → ∀ d y, (l.get d).locs y → B.liveAt y
  | .nil, _, d, y, hy => hy.elim
  | .cons k v r, h, d, y, hy => by
    unfold BL.okL at h
    split at h
    · rename_i hv
      rw [BL.get_cons] at hy
      split at hy
      · cases v with
        | cells c => exact okL_spec c hv y hy
        | _ => exact hy.elim
      · exact bl_okL h d y hy
    · cases h
/-- The outer places of B are live in B'. -/
def keepsOuter (B B' : BL) : BL → Bool
  | .nil => true
  | .cons k _ r => match ltB k 10000, (B.get k).live, (B'.get k).live with
    | false, true, false => false
    | _, _, _ => keepsOuter B B' r
theorem keepsOuter_spec {B B' : BL} : ∀ {l : BL}, keepsOuter B B' l = true → ∀ x, ¬ x < 10000 → (l.get x).live = true → (B.get x).live = true → (B'.get x).live = true
  | .nil, _, x, _, hl, _ => by simp [BL.get, Blk.live] at hl
  | .cons k v r, h, x, hx, hl, hB => by
    unfold keepsOuter at h
    rw [BL.get_cons] at hl
    split at hl
    · rename_i hk
      subst hk
      cases hq : (B'.get k).live with
      | true => rfl
      | false => simp [hq, hB, ltB, hx] at h
    · refine keepsOuter_spec (l := r) ?_ x hx hl hB
      split at h
      · cases h
      · exact h

def fitT (s : AL) : AL → Prop
  | .nil => True
  | .cons k v r => Same (s.get k) v ∧ fitT s r
def fitB (s : BL) : BL → Prop
  | .nil => True
  | .cons k v r => SameB (s.get k) v ∧ (s.get k).live = v.live ∧ fitB s r
def okAll (s s' : St) : Bool := match s'.t.okL s'.b, BL.okL s'.b s'.b, s'.df.okL s'.b with
  | true, true, true => keepsOuter s.b s'.b s.b
  | _, _, _ => false
structure SameD (x y : AV) : Prop where eq : x = y
/-- A state that fits s fits s', too. -/
def fit (s s' : St) : Prop := match okAll s s' with
  | true => fitT s.t s'.t ∧ fitB s.b s'.b ∧ SameD s.df s'.df
  | false => False

theorem fitT_spec {s : AL} : ∀ {l : AL}, fitT s l → ∀ E d v, Rp E (s.get d) v → Rp E (l.get d) v
  | .nil, _, _, _, _, _ => trivial
  | .cons k x r, h, E, d, v, hv => by
    rw [AL.get_cons]
    split
    · rename_i hk; subst hk; exact h.1.rp E v hv
    · exact fitT_spec h.2 E d v hv
theorem fitB_spec {s : BL} : ∀ {l : BL}, fitB s l → (∀ E d, BlkRp E d (s.get d) → BlkRp E d (l.get d)) ∧ (∀ d, (l.get d).live = true → (s.get d).live = true) ∧ (∀ E d, solid E d (l.get d) → solid E d (s.get d)) ∧ ∀ d, (s.get d).isRow = false → (l.get d).isRow = false
  | .nil, _ => ⟨fun _ _ _ => trivial, fun _ h => by simp [BL.get, Blk.live] at h, fun _ _ h => h.elim, fun _ _ => rfl⟩
  | .cons k x r, h => by
    obtain ⟨h1, h2, h3, h4⟩ := fitB_spec h.2.2
    refine ⟨fun E d hb => ?_, fun d hd => ?_, fun E d hd => ?_, fun d hd => ?_⟩
    · rw [BL.get_cons]
      split
      · rename_i hk; subst hk; exact h.1.rp E _ hb
      · exact h1 E d hb
    · rw [BL.get_cons] at hd
      split at hd
      · rename_i hk; subst hk; rw [h.2.1]; exact hd
      · exact h2 d hd
    · rw [BL.get_cons] at hd
      split at hd
      · rename_i hk; subst hk; exact h.1.sol E _ hd
      · exact h3 E d hd
    · rw [BL.get_cons]
      split
      · rename_i hk; subst hk; exact h.1.row hd
      · exact h4 d hd

theorem Rel.fit {N : Nat} {E0 : Env} {B0 : BL} {E : Env} {s s' : St} {a : Act} (hB0 : ∀ x, x < 10000 → ¬ B0.liveAt x) (h : Rel N E0 B0 E s a) (hf : fit s s') : Rel N E0 B0 E s' a := by
  unfold Sx.fit at hf
  split at hf
  · rename_i hok
    obtain ⟨h1, h2, h3⟩ := hf
    have h3 := h3.eq
    obtain ⟨h4, h5, h6, h7⟩ := fitB_spec h2
    unfold okAll at hok
    split at hok
    · rename_i ht hb hd
      have hkeep := fun x => keepsOuter_spec hok x
      refine ⟨fun d => fitT_spec h1 E d _ (h.tmps d), ⟨fun d => h4 E d (h.inv.blk d), fun d d' hd1 hd2 hne => h.inv.dist d d' (h6 E d hd1) (h6 E d' hd2) hne, fun d hd1 => h.inv.live d (h6 E d hd1), h.inv.ibd, bl_okL hb⟩, al_okL ht, h.sz, h3 ▸ h.df, okL_spec _ hd, ?_⟩
      refine ⟨h.post.le, h.post.same, fun x hx hr => h7 x (h.post.kind x hx hr), h.post.os, h.post.tape, h.post.output, h.post.size, h.post.old, fun x hx => h.post.dom x (h5 x hx), fun x hx => h.post.new x (h6 E x hx), fun x hx => ?_, h.post.imm⟩
      by_cases hlt : x < 10000
      · exact (hB0 x hlt hx).elim
      · have hl := h.post.keep x hx
        exact hkeep x hlt hl hl
    · cases hok
  · exact hf.elim

/-! ### rules -/
/-- A loop's rule with an order on what the head is told by. -/
theorem wp_loop' {P : Program} {c : Code} {Q : Exit → Act → World → Prop} (I : Nat → Act → World → Prop) (round : ∀ n a w, I n a w → c.wp P (Exit.then (fun a' w' => ∃ m, m < n ∧ I m a' w') Q) a w) {n : Nat} {a : Act} {w : World} (h₀ : I n a w) :
    (Code.loop c).wp P Q a w := by
  intro b k cs
  have key : ∀ n a w, I n a w → ∃ e a' w', Q e a' w' ∧ Arrives P (lone (b.at a (.code c :: .inLoop c :: k)) cs w) b k cs e a' w' := by
    intro n
    induction n using Nat.strongRecOn with
    | _ n ih =>
      intro a w hI
      obtain ⟨e, a₁, w₁, hq, harr⟩ := round n a w hI b (.inLoop c :: k) cs
      cases e with
      | normal =>
        obtain ⟨m, hlt, hI₁⟩ := hq
        obtain ⟨e₂, a₂, w₂, hq₂, harr₂⟩ := ih m hlt a₁ w₁ hI₁
        exact ⟨e₂, a₂, w₂, hq₂, .of_steps (Steps.trans harr (.one step_inLoop)) harr₂⟩
      | exit id => exact ⟨_, a₁, w₁, hq, .pass (x := .inLoop c) rfl (fun _ _ => .inl (by simp)) harr⟩
      | goto l => exact ⟨_, a₁, w₁, hq, .pass (x := .inLoop c) rfl (fun _ _ => .inl (by simp)) harr⟩
      | ret => exact ⟨_, a₁, w₁, hq, .pass (x := .inLoop c) rfl (fun _ _ => .inl (by simp)) harr⟩
      | panic ch => exact ⟨_, a₁, w₁, hq, .pass (x := .inLoop c) rfl (fun _ _ => .inl (by simp)) harr⟩
      | outgrown => exact ⟨_, a₁, w₁, hq, .pass (x := .inLoop c) rfl (fun _ _ => .inl (by simp)) harr⟩
  obtain ⟨e, a', w', hq, harr⟩ := key n a w h₀
  exact ⟨e, a', w', hq, .of_steps (.one step_loop) harr⟩

def AL.pick (l : AL) : List Nat → AL → AL
  | [], r => r
  | k :: ks, r => .cons k (l.get k) (l.pick ks r)
/-- The state at a head: some slots and blocks as they are in s, others told anew. -/
def St.head (s : St) (ks bs : List Nat) (t : AL) (b : BL) : St := ⟨s.t.pick ks t, s.b.pick bs b, s.df⟩

theorem loop_rule {C : Cx} {b : RC} {k : List It} {s : St} {X : Type} (F : Nat) (ks bs : List Nat) (T : X → AL) (B : X → BL) (R : X → Prop) (m : X → Nat) (x0 : X)
    (h0 : fit s (s.head ks bs (T x0) (B x0))) (hR : R x0)
    (step : ∀ x, R x → awp C F (.code b :: .inv (fun s' => ∃ x', R x' ∧ m x' < m x ∧ fit s' (s.head ks bs (T x') (B x'))) :: k) (s.head ks bs (T x) (B x))) :
    Sound C (.code (.loop b) :: k) s := by
  refine ⟨fun E0 B0 hB0 E a hr c' hc' => ?_⟩
  obtain ⟨b', rfl, hb⟩ := res_inv hc'
  refine wp_loop' (fun n a w => ∃ x E, R x ∧ m x = n ∧ Rel C.N E0 B0 E (s.head ks bs (T x) (B x)) a ∧ E.w = w) ?_ (n := m x0) ⟨x0, E, hR, rfl, hr.fit hB0 h0, rfl⟩
  rintro n a w ⟨x, E, hRx, rfl, hrel, rfl⟩
  have := (awp_sound F _ _ (step x hRx)).run E0 B0 hB0 E a hrel b' hb
  refine wp_mono this fun e a w hq => ?_
  cases e with
  | normal =>
    obtain ⟨E', s', hr', rfl, x', h1, h2, h3⟩ := hq
    exact ⟨m x', h2, x', E', h1, rfl, hr'.fit hB0 h3, rfl⟩
  | _ => exact hq

theorem cut_rule {C : Cx} {b : RC} {k : List It} {s : St} {X : Type} (F F' : Nat) (ks bs : List Nat) (T : X → AL) (B : X → BL) (R : X → Prop)
    (h1 : awp C F (.code b :: .inv (fun s' => ∃ x, R x ∧ fit s' (s.head ks bs (T x) (B x))) :: k) s)
    (h2 : ∀ x, R x → awp C F' k (s.head ks bs (T x) (B x))) : Sound C (.code b :: k) s := by
  refine ⟨fun E0 B0 hB0 E a hr c' hc' => ?_⟩
  have := (awp_sound F _ _ h1).run E0 B0 hB0 E a hr c' hc'
  refine wp_mono this fun e a w hq => ?_
  cases e with
  | normal =>
    obtain ⟨E', s', hr', rfl, x, h3, h4⟩ := hq
    exact (awp_sound F' _ _ (h2 x h3)).run E0 B0 hB0 E' a (hr'.fit hB0 h4)
  | _ => exact hq

/-- Without a cut. -/
theorem go_on {C : Cx} {k : List It} {s : St} (F : Nat) (h : awp C F k s) : Sound C k s := awp_sound F k s h

/-! ### nil as a row that may grow -/
/-- Place d holds a row that is nil. -/
theorem Rel.nilRow {N : Nat} {E0 : Env} {B0 : BL} {E : Env} {s : St} {a : Act} (h : Rel N E0 B0 E s a) (hB0 : ∀ x, x < 10000 → ¬ B0.liveAt x) {d sz : Nat} {g : Th Nat → AV} (hf : fresh s d = true) :
    ∃ E', E'.w = E.w ∧ E'.rv d = .slice none 0 0 ∧ Rel N E0 B0 E' ⟨s.t, .cons d (.row sz (fun _ => 0) g) s.b, s.df⟩ a := by
  obtain ⟨hdead, hlt⟩ := fresh_spec hf
  let E' : Env := ⟨E.ρ, fun x => if x = d then .slice none 0 0 else E.rv x, E.I, E.w⟩
  have hrv : ∀ x, s.b.liveAt x → E'.ρ x = E.ρ x ∧ E'.rv x = E.rv x := fun x hx => ⟨rfl, if_neg fun e : x = d => hdead (by rw [← e]; exact hx)⟩
  have hle : E.Le E' := ⟨fun _ _ h => h, fun _ _ _ => rfl⟩
  have hget : ∀ x, (BL.cons d (.row sz (fun _ => 0) g) s.b).get x = if d = x then .row sz (fun _ => 0) g else s.b.get x := fun x => rfl
  have hd : E'.rv d = .slice none 0 0 := if_pos rfl
  have hsol : ∀ x, solidAt E' (BL.cons d (.row sz (fun _ => 0) g) s.b) x → solidAt E s.b x := by
    intro x hx
    unfold solidAt at hx ⊢
    rw [hget] at hx
    split at hx
    · rename_i e; subst e; exact (hx hd).elim
    · rename_i hne
      exact (solid_same (if_neg (Ne.symm hne))).1 hx
  have hlive : ∀ x, s.b.liveAt x → (BL.cons d (.row sz (fun _ => 0) g) s.b).liveAt x := by
    intro x hx
    unfold BL.liveAt at hx ⊢
    rw [hget, if_neg]
    · exact hx
    · rintro rfl; exact hdead hx
  refine ⟨E', rfl, hd, ?_⟩
  refine h.step (a := a) (dst := none) (v := .any) (x := undef) (D := (· = d)) ⟨hle, fun x hx _ => ⟨rfl, if_neg hx⟩, fun x hx hr => ?_, rfl, rfl, rfl, Nat.le_refl _, fun _ _ _ => rfl, fun x hx => ?_, fun x hx => .inl ⟨hsol x hx, rfl⟩, hlive, fun _ _ h => .inl h⟩ (fun x hx => by rw [hx]; exact hlt)
    (fun y hy => hrv y (hy.elim (fun ⟨n, hn⟩ => h.tn n y hn) (h.dn y))) ⟨fun x => ?_, fun x y hx hy => h.inv.dist x y (hsol x hx) (hsol y hy), fun x hx => h.inv.live x (hsol x hx), h.inv.ibd, fun x y hy => ?_⟩ (fun _ h => by cases h) trivial (fun y hy => hy.elim)
  · rw [hget, if_neg (Ne.symm hx)]; exact hr
  · by_cases e : d = x
    · exact .inr e.symm
    · left
      unfold BL.liveAt at hx ⊢
      rw [hget, if_neg e] at hx
      exact hx
  · rw [hget]
    split
    · rename_i e; subst e; exact .inl ⟨hd, rfl⟩
    · rename_i hne
      by_cases hl : s.b.liveAt x
      · exact blk_mono hle (h.inv.blk x) rfl (hrv x hl).2 (fun _ => rfl) fun y hy => hrv y (h.inv.nm x y hy)
      · have : s.b.get x = .no := by
          unfold BL.liveAt at hl
          cases hb : s.b.get x with
          | no => rfl
          | _ => rw [hb] at hl; exact absurd rfl hl
        rw [this]; trivial
  · rw [hget] at hy
    split at hy
    · exact hy.elim
    · exact hlive y (h.inv.nm x y hy)
/-- The cells of a block told otherwise. -/
theorem Rel.recell {N : Nat} {E0 : Env} {B0 : BL} {E : Env} {s : St} {a : Act} (h : Rel N E0 B0 E s a) {b : Nat} {c c' : AV} (hb : s.b.get b = .cells c) (hc : ∀ l, ListC E c l → ListC E c' l) (hl : ∀ y, c'.locs y → s.b.liveAt y) :
    Rel N E0 B0 E ⟨s.t, .cons b (.cells c') s.b, s.df⟩ a := by
  have hget : ∀ x, (BL.cons b (.cells c') s.b).get x = if b = x then .cells c' else s.b.get x := fun x => rfl
  have hbl : s.b.liveAt b := by unfold BL.liveAt; rw [hb]; rfl
  have hlv : ∀ x, (BL.cons b (.cells c') s.b).liveAt x ↔ s.b.liveAt x := by
    intro x
    unfold BL.liveAt
    rw [hget]
    split
    · rename_i e; subst e; rw [hb]; exact Iff.rfl
    · exact Iff.rfl
  have hsol : ∀ x, solidAt E (BL.cons b (.cells c') s.b) x ↔ solidAt E s.b x := by
    intro x
    unfold solidAt
    rw [hget]
    split
    · rename_i e; subst e; rw [hb]; exact Iff.rfl
    · exact Iff.rfl
  have hp := h.post
  refine ⟨h.tmps, ⟨fun x => ?_, fun x y hx hy => h.inv.dist x y ((hsol x).1 hx) ((hsol y).1 hy), fun x hx => h.inv.live x ((hsol x).1 hx), h.inv.ibd, fun x z hz => ?_⟩, fun k z hz => (hlv z).2 (h.tn k z hz), h.sz, h.df, fun z hz => (hlv z).2 (h.dn z hz),
    ⟨hp.le, hp.same, fun x hx hr => ?_, hp.os, hp.tape, hp.output, hp.size, hp.old, fun x hx => hp.dom x ((hlv x).1 hx), fun x hx => hp.new x ((hsol x).1 hx), fun x hx => (hlv x).2 (hp.keep x hx), hp.imm⟩⟩
  · rw [hget]
    split
    · rename_i e
      subst e
      have := h.inv.blk b
      rw [hb] at this
      obtain ⟨l, e, h1, h2⟩ := this
      exact ⟨l, e, h1, hc l h2⟩
    · exact h.inv.blk x
  · have hz : ((BL.cons b (.cells c') s.b).get x).locs z := hz
    rw [hget] at hz
    split at hz
    · exact (hlv z).2 (hl z hz)
    · exact (hlv z).2 (h.inv.nm x z hz)
  · show ((BL.cons b (.cells c') s.b).get x).isRow = false
    rw [hget]
    split
    · rfl
    · exact hp.kind x hx hr
def AV.setNsl : AV → Nat → Nat → Option AV
  | .cons .nsl t, 0, d => some (.cons (.row d) t)
  | .cons h t, n + 1, d => match t.setNsl n d with | some r => some (.cons h r) | none => none
  | _, _, _ => none
theorem setNsl_sound {E : Env} {d : Nat} (hd : E.rv d = .slice none 0 0) : ∀ (n : Nat) (c c' : AV), c.setNsl n d = some c' → (∀ l, ListC E c l → ListC E c' l) ∧ ∀ y, c'.locs y → c.locs y ∨ y = d
  | 0, .cons h t, c', hc => by
    cases h <;> simp [AV.setNsl] at hc
    subst hc
    refine ⟨fun l hl => ?_, fun y hy => hy.elim .inr fun q => .inl (.inr q)⟩
    obtain ⟨x, r, rfl, h1, h2⟩ := listC_cons.1 hl
    have h1 : x = .slice none 0 0 := h1
    exact listC_cons.2 ⟨x, r, rfl, ⟨h1.trans hd.symm, none, 0, 0, h1⟩, h2⟩
  | n + 1, .cons h t, c', hc => by
    simp only [AV.setNsl] at hc
    split at hc
    · rename_i r hr
      cases hc
      obtain ⟨h1, h2⟩ := setNsl_sound hd n t r hr
      refine ⟨fun l hl => ?_, fun y hy => hy.elim (fun q => .inl (.inl q)) fun q => (h2 y q).imp .inr id⟩
      obtain ⟨x, q, rfl, k1, k2⟩ := listC_cons.1 hl
      exact listC_cons.2 ⟨x, q, rfl, k1, h1 _ k2⟩
    · cases hc
  | n, .nil, c', hc => by cases n <;> simp [AV.setNsl] at hc
  | n, .any, c', hc | n, .int _ _, c', hc | n, .bool _, c', hc | n, .tt, c', hc | n, .ff, c', hc | n, .str _, c', hc | n, .sl _ _ _, c', hc | n, .nsl, c', hc
  | n, .row _, c', hc | n, .ptr _ _, c', hc | n, .iptr _, c', hc | n, .rptr _ _ _ _, c', hc | n, .win _ _ _ _, c', hc | n, .nptr, c', hc | n, .fn _ _ _, c', hc | n, .nfn, c', hc | n, .nif, c', hc
  | n, .ifc _ _, c', hc | n, .agg _, c', hc | n, .tup _, c', hc => by cases n <;> simp [AV.setNsl] at hc
/-- Cell o of block b, which is nil, is a row that may grow, at place d. -/
theorem nil_cell {C : Cx} {k : List It} {s : St} (b o d sz : Nat) (g : Th Nat → AV) {c c' : AV} (hb : s.b.get b = .cells c) (hf : fresh s d = true) (hc : c.setNsl o d = some c')
    (h : Sound C k ⟨s.t, .cons b (.cells c') (.cons d (.row sz (fun _ => 0) g) s.b), s.df⟩) : Sound C k s := by
  refine ⟨fun E0 B0 hB0 E a hR => ?_⟩
  obtain ⟨E', hw, hrv, hR'⟩ := hR.nilRow hB0 (sz := sz) (g := g) hf
  obtain ⟨h1, h2⟩ := setNsl_sound hrv o c c' hc
  have hne : d ≠ b := by rintro rfl; obtain ⟨hdead, _⟩ := fresh_spec hf; exact hdead (by unfold BL.liveAt; rw [hb]; rfl)
  have hlv : ∀ y, s.b.liveAt y → (BL.cons d (.row sz (fun _ => 0) g) s.b).liveAt y := fun y hy => by
    unfold BL.liveAt at hy ⊢
    rw [BL.get_cons]
    split
    · rfl
    · exact hy
  have := hR'.recell (b := b) (c := c) (c' := c') (by show (BL.cons d _ s.b).get b = _; rw [BL.get_cons, if_neg hne]; exact hb) h1 fun y hy => (h2 y hy).elim (fun q => hlv y (hR.inv.nm b y (by rw [hb]; exact q))) fun q => by subst q; simp [BL.liveAt, BL.get_cons, Blk.live]
  have := h.run E0 B0 hB0 E' a this
  rw [hw] at this
  exact this
/-- Slot t, which is nil, is a row that may grow, at place d. -/
theorem nil_tmp {C : Cx} {k : List It} {s : St} (t d sz : Nat) (g : Th Nat → AV) (ht : s.t.get t = .nsl) (hf : fresh s d = true)
    (h : Sound C k ⟨.cons t (.row d) s.t, .cons d (.row sz (fun _ => 0) g) s.b, s.df⟩) : Sound C k s := by
  refine ⟨fun E0 B0 hB0 E a hR => ?_⟩
  obtain ⟨E', hw, hrv, hR'⟩ := hR.nilRow hB0 (sz := sz) (g := g) hf
  have hv := hR.tmps t
  rw [ht] at hv
  have hv : a.tmps.getD t undef = .slice none 0 0 := hv
  have hR2 : Rel C.N E0 B0 E' ⟨.cons t (.row d) s.t, .cons d (.row sz (fun _ => 0) g) s.b, s.df⟩ a := by
    refine ⟨fun n => ?_, hR'.inv, fun n y hy => ?_, hR'.sz, hR'.df, hR'.dn, hR'.post⟩
    · show Rp E' ((AL.cons t (.row d) s.t).get n) _
      rw [AL.get_cons]
      split
      · rename_i hn; subst hn; exact ⟨hv.trans hrv.symm, none, 0, 0, hv⟩
      · exact hR'.tmps n
    · change ((AL.cons t (.row d) s.t).get n).locs y at hy
      rw [AL.get_cons] at hy
      split at hy
      · have : y = d := hy
        subst this
        simp [BL.liveAt, BL.get_cons, Blk.live]
      · exact hR'.tn n y hy
  have := h.run E0 B0 hB0 E' a hR2
  rw [hw] at this
  exact this

end Go.Proofs.YtiaenejafpbfkaaDoor.Sx

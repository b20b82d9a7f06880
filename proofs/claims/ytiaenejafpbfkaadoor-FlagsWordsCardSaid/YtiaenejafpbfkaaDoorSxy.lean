/- A symbolic executor for the model's code: rows that stay open where they are handed on; contracts out of the machine's own laws. -/
import Derived.Test.YtiaenejafpbfkaaDoorSxz
import Derived.Below
namespace Go.Proofs.YtiaenejafpbfkaaDoor.Sx
open Go Go.RowKit
set_option linter.unusedSimpArgs false
set_option linter.unusedVariables false

theorem fzr_locs {d q : Nat} (x : AV) (z : Nat) : (x.fz d (.row q)).locs z → z = q ∨ (x.locs z ∧ z ≠ d) := by
  have key : ∀ {a b : Nat}, (a == b) = false → a ≠ b := fun h => by simpa using h
  induction x with
  | row x => intro h; unfold AV.fz at h; split at h
             · exact .inl h
             · rename_i hx; exact .inr ⟨h, by rw [show z = x from h]; exact key hx⟩
  | ptr x o => intro h; unfold AV.fz at h; split at h
               · exact h.elim
               · rename_i hx; exact .inr ⟨h, by rw [show z = x from h]; exact key hx⟩
  | rptr x s i o => intro h; unfold AV.fz at h; split at h
                    · exact h.elim
                    · rename_i hx; exact .inr ⟨h, by rw [show z = x from h]; exact key hx⟩
  | win x s i o => intro h; unfold AV.fz at h; split at h
                   · exact h.elim
                   · rename_i hx; exact .inr ⟨h, by rw [show z = x from h]; exact key hx⟩
  | iptr c ih => exact ih
  | fn f a b iha ihb => exact fun h => h.elim (fun h => (iha h).imp id fun q => ⟨.inl q.1, q.2⟩) fun h => (ihb h).imp id fun q => ⟨.inr q.1, q.2⟩
  | ifc t v ih => exact ih
  | agg c ih => exact ih
  | tup c ih => exact ih
  | cons a b iha ihb => exact fun h => h.elim (fun h => (iha h).imp id fun q => ⟨.inl q.1, q.2⟩) fun h => (ihb h).imp id fun q => ⟨.inr q.1, q.2⟩
  | _ => intro h; exact h.elim

/-- A row of one's own under another number (from 9500 on: it stays open where it is handed on). -/
theorem Rel.keep {N : Nat} {E0 : Env} {B0 : BL} {E : Env} {s : St} {a : Act} (h : Rel N E0 B0 E s a) (hB0 : ∀ x, x < 10000 → ¬ B0.liveAt x) {p q sz : Nat} {n : Th Nat} {g : Th Nat → AV} (hb : s.b.get p = .row sz n g) (hp : p < 10000) (hf : fresh s q = true) :
    ∃ E', E'.w = E.w ∧ Rel N E0 B0 E' ⟨s.t.fz p (.row q), .cons q (.row sz n g) (.cons p .no (s.b.fz p (.row q))), s.df.fz p (.row q)⟩ a := by
  obtain ⟨hdead, hlt⟩ := fresh_spec hf
  have hpl : s.b.liveAt p := by simp [BL.liveAt, hb, Blk.live]
  have hqp : q ≠ p := fun e => hdead (e ▸ hpl)
  let E' : Env := ⟨fun x => if x = q then E.ρ p else E.ρ x, fun x => if x = q then E.rv p else E.rv x, E.I, E.w⟩
  have hle : E.Le E' := ⟨fun _ _ h => h, fun _ _ _ => rfl⟩
  have hne : ∀ x, x ≠ q → E'.ρ x = E.ρ x ∧ E'.rv x = E.rv x := fun x hx => by simp [E', hx]
  have hq : E'.ρ q = E.ρ p ∧ E'.rv q = E.rv p := by simp [E']
  have hnl : ∀ y, s.b.liveAt y → E'.ρ y = E.ρ y ∧ E'.rv y = E.rv y := fun y hy => hne y fun e => hdead (e ▸ hy)
  have hy : ∀ v, Rp E' (.row p) v → Rp E' (.row q) v := fun v hv => ⟨by rw [hq.2, ← (hne p (Ne.symm hqp)).2]; exact hv.1, hv.2⟩
  have hget : ∀ x, (BL.cons q (.row sz n g) (.cons p .no (s.b.fz p (.row q)))).get x = if q = x then .row sz n g else if p = x then .no else (s.b.get x).fz p (.row q) := by
    intro x; rw [BL.get_cons, BL.get_cons, bl_fz]
  have hlive : ∀ x, (BL.cons q (.row sz n g) (.cons p .no (s.b.fz p (.row q)))).liveAt x ↔ (x = q ∨ (s.b.liveAt x ∧ x ≠ p)) := by
    intro x
    unfold BL.liveAt
    rw [hget]
    split
    · rename_i e; simp [Blk.live, e.symm]
    · rename_i e
      split
      · rename_i e2; subst e2; simp [Blk.live, Ne.symm e]
      · rename_i e2; rw [blk_fz_live]; simp [Ne.symm e, Ne.symm e2]
  have hsol : ∀ x, solidAt E' (BL.cons q (.row sz n g) (.cons p .no (s.b.fz p (.row q)))) x → (x = q ∧ solidAt E s.b p ∧ E'.ρ x = E.ρ p) ∨ (x ≠ p ∧ x ≠ q ∧ solidAt E s.b x ∧ E'.ρ x = E.ρ x) := by
    intro x hx
    unfold solidAt at hx
    rw [hget] at hx
    split at hx
    · rename_i e
      subst e
      refine .inl ⟨rfl, ?_, hq.1⟩
      unfold solidAt
      rw [hb]
      show E.rv p ≠ _
      rw [← hq.2]
      exact hx
    · rename_i e
      split at hx
      · exact hx.elim
      · rename_i e2
        refine .inr ⟨Ne.symm e2, Ne.symm e, ?_, (hne x (Ne.symm e)).1⟩
        unfold solidAt
        cases hB : s.b.get x with
        | no => rw [hB] at hx; exact hx
        | cells c => trivial
        | row _ _ _ => rw [hB] at hx; show E.rv x ≠ _; rw [← (hne x (Ne.symm e)).2]; exact hx
  have mono : ∀ x : AV, (∀ y, x.locs y → s.b.liveAt y) → (∀ v, Rp E x v → Rp E' x v) ∧ (∀ l, ListC E x l → ListC E' x l) ∧ (∀ b o, MemC E x b o → MemC E' x b o) := fun x hx => rp_mono hle x fun y hy => hnl y (hx y hy)
  have hold : ∀ x b, BlkRp E x b → x ≠ q → (∀ y, b.locs y → s.b.liveAt y) → BlkRp E' x b := fun x b hb hx hl => blk_mono hle hb (hne x hx).1 (hne x hx).2 (fun _ => rfl) fun y hy => hnl y (hl y hy)
  refine ⟨E', rfl, ⟨fun k => ?_, ⟨fun x => ?_, fun x y hx hy hxy => ?_, fun x hx => ?_, h.inv.ibd, fun x z hz => ?_⟩, fun k z hz => ?_, h.sz, df_fz hy _ _ (dfRp_mono hle s.df (fun y hy => hnl y (h.dn y hy)) _ h.df), fun z hz => ?_, ?_⟩⟩
  · show Rp E' ((s.t.fz p (.row q)).get k) _
    rw [al_fz]
    exact (rp_fz hy _).1 _ ((mono _ (h.tn k)).1 _ (h.tmps k))
  · show BlkRp E' x ((BL.cons q (.row sz n g) (.cons p .no (s.b.fz p (.row q)))).get x)
    rw [hget]
    split
    · rename_i e
      subst e
      have := h.inv.blk p
      rw [hb] at this
      rcases this with ⟨h1, h2⟩ | ⟨cap, cur, e', k1, k2, k3, k4, k5, k6⟩
      · exact .inl ⟨hq.2.trans h1, h2⟩
      · exact .inr ⟨cap, cur, e', by rw [hq.1, hq.2]; exact k1, by rw [hq.1]; exact k2, k3, k4, k5, fun i hi => ⟨(k6 i hi).1, (rp_mono hle _ fun y hy => ((AV.still_locs _).1 (k6 i hi).1.1 y hy).elim).2.1 _ (k6 i hi).2⟩⟩
    · rename_i e
      split
      · trivial
      · have hx := hold x _ (h.inv.blk x) (Ne.symm e) (h.inv.nm x)
        cases hB : s.b.get x with
        | no => trivial
        | cells c =>
          rw [hB] at hx
          obtain ⟨l, e', h7, h8⟩ := hx
          exact ⟨l, e', h7, (rp_fz hy c).2.1 _ h8⟩
        | row _ _ _ => rw [hB] at hx; exact hx
  · rcases hsol x hx with ⟨e1, e2, e3⟩ | ⟨e1, e0, e2, e3⟩ <;> rcases hsol y hy with ⟨k1, k2, k3⟩ | ⟨k1, k0, k2, k3⟩
    · exact (hxy (e1.trans k1.symm)).elim
    · rw [e3, k3]; exact h.inv.dist p y e2 k2 (Ne.symm k1)
    · rw [e3, k3]; exact h.inv.dist x p e2 k2 e1
    · rw [e3, k3]; exact h.inv.dist x y e2 k2 hxy
  · rcases hsol x hx with ⟨e1, e2, e3⟩ | ⟨e1, e0, e2, e3⟩
    · rw [e3]; exact h.inv.live p e2
    · rw [e3]; exact h.inv.live x e2
  · have hz : ((BL.cons q (.row sz n g) (.cons p .no (s.b.fz p (.row q)))).get x).locs z := hz
    rw [hget] at hz
    split at hz
    · exact hz.elim
    · split at hz
      · exact hz.elim
      · cases hB : s.b.get x with
        | cells c =>
          rw [hB] at hz
          refine (hlive z).2 ((fzr_locs c z hz).imp id fun q => ⟨h.inv.nm x z (by rw [hB]; exact q.1), q.2⟩)
        | no => rw [hB] at hz; exact hz.elim
        | row _ _ _ => rw [hB] at hz; exact hz.elim
  · change ((s.t.fz p (.row q)).get k).locs z at hz
    rw [al_fz] at hz
    exact (hlive z).2 ((fzr_locs _ z hz).imp id fun q => ⟨h.tn k z q.1, q.2⟩)
  · exact (hlive z).2 ((fzr_locs _ z hz).imp id fun q => ⟨h.dn z q.1, q.2⟩)
  · have hp' := h.post
    have hout : ∀ x, ¬ x < 10000 → x ≠ q ∧ x ≠ p := fun x hx => ⟨fun e => hx (e ▸ hlt), fun e => hx (e ▸ hp)⟩
    refine ⟨hp'.le.trans hle, fun x hx hr => ?_, fun x hx hr => ?_, hp'.os, hp'.tape, hp'.output, hp'.size, hp'.old, fun x hx => ?_, fun x hx => ?_, fun x hx => ?_, hp'.imm⟩
    · have h1 := hp'.same x hx hr
      have h2 := hne x (hout x hx).1
      exact ⟨h2.1.trans h1.1, h2.2.trans h1.2⟩
    · have h7 := hp'.kind x hx hr
      show ((BL.cons q (.row sz n g) (.cons p .no (s.b.fz p (.row q)))).get x).isRow = false
      rw [hget, if_neg (Ne.symm (hout x hx).1), if_neg (Ne.symm (hout x hx).2)]
      cases hB : s.b.get x <;> rw [hB] at h7 <;> first | rfl | cases h7
    · rcases (hlive x).1 hx with e | ⟨h1, _⟩
      · exact .inr (e ▸ hlt)
      · exact hp'.dom x h1
    · rcases hsol x hx with ⟨e1, e2, e3⟩ | ⟨e1, e0, e2, e3⟩
      · rcases hp'.new p e2 with ⟨h1, _⟩ | h1
        · exact (hB0 p hp (solid_live h1)).elim
        · exact .inr (by rw [e3]; exact h1)
      · rw [e3]; exact hp'.new x e2
    · have hx' : ¬ x < 10000 := fun e => hB0 x e hx
      exact (hlive x).2 (.inr ⟨hp'.keep x hx, (hout x hx').2⟩)

/-- Row d is shut. -/
theorem shut_row {C : Cx} {k : List It} {s : St} (d : Nat) (h : Sound C k (s.shut1 d)) : Sound C k s := by
  refine ⟨fun E0 B0 hB0 E a hR => ?_⟩
  obtain ⟨E', hw, _, _, _, hR'⟩ := hR.shut1 hB0 d
  have := h.run E0 B0 hB0 E' a hR'
  rw [hw] at this
  exact this
/-- Row p stays open where it is handed on, as place q (from 9500 on). -/
theorem keep_row {C : Cx} {k : List It} {s : St} (p q : Nat) {sz : Nat} {n : Th Nat} {g : Th Nat → AV} (hb : s.b.get p = .row sz n g) (hp : ltB p 10000 = true) (hf : fresh s q = true)
    (h : Sound C k ⟨s.t.fz p (.row q), .cons q (.row sz n g) (.cons p .no (s.b.fz p (.row q))), s.df.fz p (.row q)⟩) : Sound C k s := by
  refine ⟨fun E0 B0 hB0 E a hR => ?_⟩
  obtain ⟨E', hw, hR'⟩ := hR.keep hB0 hb (by simpa [ltB] using hp) hf
  have := h.run E0 B0 hB0 E' a hR'
  rw [hw] at this
  exact this

/-- A call that hands back the beginning of a row that it was handed: the row is cut. -/
theorem CallAt.trim {P : Th Program} {f : Nat} {as : List AV} {d : Nat} {B : BL} {K : ARes → BL → Prop} (p : Nat) (hp : (B.get p).isRow = true) (hpd : p ≠ d)
    (h : CallAt P f as d B fun r B' => K r B' ∨ ∃ sz n g lo m, r = .ret (.win p sz lo m) ∧ lo .o = 0 ∧ m .o ≤ n .o ∧ B'.get p = .row sz n g ∧ (∀ x, ¬ (B'.get x).locs p) ∧ K (.ret (.row p)) (.cons p (.row sz m g) B')) : CallAt P f as d B K := by
  refine ⟨h.can, fun E vs h1 h2 h3 h4 => (h.run E vs h1 h2 h3 h4).mono ?_⟩
  rintro e w' ⟨E', r, B', rfl, hor, hend, hi, hpo, hl⟩
  rcases hor with hK | ⟨sz, n, g, lo, m, rfl, hlo, hm, hB', hnm, hK⟩
  · exact ⟨E', r, B', rfl, hK, hend, hi, hpo, hl⟩
  obtain ⟨v, rfl, hv⟩ : ∃ v, e = .returned v ∧ WinV (E'.rv p) sz (lo .o) (m .o) v := by
    cases e with
    | returned v => exact ⟨v, rfl, hend⟩
    | _ => exact hend.elim
  have hbl := hi.blk p
  rw [hB'] at hbl
  let F : Env := ⟨E'.ρ, fun x => if x = p then v else E'.rv x, E'.I, E'.w⟩
  have hle : E'.Le F := ⟨fun _ _ h => h, fun _ _ _ => rfl⟩
  have hne : ∀ x, x ≠ p → F.ρ x = E'.ρ x ∧ F.rv x = E'.rv x := fun x hx => by simp [F, hx]
  have hFp : F.rv p = v := by simp [F]
  have hget : ∀ x, (BL.cons p (.row sz m g) B').get x = if p = x then .row sz m g else B'.get x := fun x => rfl
  have hrow : BlkRp F p (.row sz m g) ∧ (∃ A n' c, v = .slice A n' c) ∧ (v = .slice none 0 0 ↔ E'.rv p = .slice none 0 0) := by
    rcases hv with ⟨k1, k2, k3, rfl⟩ | ⟨A, mm, c, q, k1, k2, rfl, k3⟩
    · exact ⟨.inl ⟨hFp, k3⟩, ⟨_, _, _, rfl⟩, by rw [k1]⟩
    · have k3 := k3 (.inr hlo)
      rcases hbl with ⟨j1, _⟩ | ⟨cap, cur, ee, j1, j2, j3, j4, j5, j6⟩
      · rw [k1] at j1; cases j1
      · rw [k1] at j1; cases j1
        rw [hlo] at k3 k2
        simp only [Nat.zero_mul, addr_add] at k3
        subst k3
        refine ⟨.inr ⟨c, cur, ee, by rw [hFp, hlo]; rfl, j2, by omega, j4, j5, fun i hi' => ⟨(j6 i (by omega)).1, (rp_mono hle _ fun y hy => ((AV.still_locs _).1 (j6 i (by omega)).1.1 y hy).elim).2.1 _ (j6 i (by omega)).2⟩⟩, ⟨_, _, _, rfl⟩, by rw [k1]; simp⟩
  have hlv : ∀ x, (BL.cons p (.row sz m g) B').liveAt x ↔ B'.liveAt x := by
    intro x
    unfold BL.liveAt
    rw [hget]
    split
    · rename_i e; subst e; rw [hB']; exact Iff.rfl
    · exact Iff.rfl
  have hsol : ∀ x, solidAt F (BL.cons p (.row sz m g) B') x ↔ solidAt E' B' x := by
    intro x
    unfold solidAt
    rw [hget]
    split
    · rename_i e
      subst e
      rw [hB']
      show F.rv p ≠ _ ↔ E'.rv p ≠ _
      rw [hFp]
      exact not_congr hrow.2.2
    · rename_i e
      exact solid_same (hne x (Ne.symm e)).2
  refine ⟨F, .ret (.row p), .cons p (.row sz m g) B', rfl, hK, ⟨hFp.symm, hrow.2.1⟩, ⟨fun x => ?_, fun x y hx hy => hi.dist x y ((hsol x).1 hx) ((hsol y).1 hy), fun x hx => hi.live x ((hsol x).1 hx), hi.ibd, fun x z hz => ?_⟩,
    ⟨hpo.le.trans hle, fun x hx hr => ?_, fun x hx hr => ?_, hpo.os, hpo.tape, hpo.output, hpo.size, hpo.old, fun x hx => hpo.dom x ((hlv x).1 hx), fun x hx => hpo.new x ((hsol x).1 hx), fun x hx => (hlv x).2 (hpo.keep x hx), hpo.imm⟩, fun x hx => (hlv x).2 ?_⟩
  · rw [hget]
    split
    · rename_i e; subst e; exact hrow.1
    · rename_i e
      exact blk_mono hle (hi.blk x) rfl (hne x (Ne.symm e)).2 (fun _ => rfl) fun y hy => hne y fun e => hnm x (e ▸ hy)
  · rw [hget] at hz
    split at hz
    · exact hz.elim
    · exact (hlv z).2 (hi.nm x z hz)
  · have h1 := hpo.same x hx hr
    have h2 := hne x fun e => by rw [e, hp] at hr; cases hr
    exact ⟨h2.1.trans h1.1, h2.2.trans h1.2⟩
  · rw [hget]
    split
    · rename_i e; rw [← e, hp] at hr; cases hr
    · exact hpo.kind x hx hr
  · have : x = p := hx
    subst this
    unfold BL.liveAt
    rw [hB']; rfl

/-- A contract out of what the machine does: a call that turns nothing that lay there, and yields what names nothing in memory. -/
theorem CallAt.of_below {P : Th Program} {f : Nat} {as : List AV} {d : Nat} {B : BL} {K : ARes → BL → Prop} (hc : callable (P .o) f = true)
    (h : ∀ (E : Env) (vs : List Value), (∀ b o, E.I b o → b < E.w.heap.size) → ListC E (chain as) vs → Calls (P .o) f vs.toArray E.w fun e w' => ∃ r, r.flat = true ∧ Ends E r e ∧ K r B ∧ Below E.w.heap.size E.w w') : CallAt P f as d B K := by
  refine ⟨hc, fun E vs hinv hvs hl hd => (h E vs hinv.ibd hvs).mono ?_⟩
  rintro e w' ⟨r, hfl, hend, hK, hb⟩
  have hle : E.Le ⟨E.ρ, E.rv, E.I, w'⟩ := ⟨fun _ _ h => h, fun b o hi => hb.cell (p := ⟨b, o, none⟩) (hinv.ibd b o hi)⟩
  have hsol : ∀ x, solidAt ⟨E.ρ, E.rv, E.I, w'⟩ B x ↔ solidAt E B x := fun x => solid_same rfl
  have hends : Ends ⟨E.ρ, E.rv, E.I, w'⟩ r e := by
    cases r with
    | ret v => cases e with
      | returned x => exact (flat_spec v hfl).1 _ hend
      | _ => exact hend.elim
    | pan v => cases e with
      | panicked ch => obtain ⟨x, k1, k2⟩ := hend; exact ⟨x, k1, (flat_spec v hfl).1 _ k2⟩
      | _ => exact hend.elim
  refine ⟨⟨E.ρ, E.rv, E.I, w'⟩, r, B, rfl, hK, hends, ⟨fun x => ?_, fun x y hx hy => hinv.dist x y ((hsol x).1 hx) ((hsol y).1 hy), fun x hx => ?_, fun b o hi => Nat.lt_of_lt_of_le (hinv.ibd b o hi) hb.size, hinv.nm⟩,
    ⟨hle, fun _ _ _ => ⟨rfl, rfl⟩, fun _ _ h => h, hb.os, hb.tape, hb.output, hb.size, fun b hlt _ => hb.block b hlt, fun _ h => .inl h, fun x hx => .inl ⟨(hsol x).1 hx, rfl⟩, fun _ h => h, fun _ _ h => .inl h⟩, fun x hx => ?_⟩
  · exact blk_mono hle (hinv.blk x) rfl rfl (fun hs => hb.block _ (hinv.live x hs).1) fun _ _ => ⟨rfl, rfl⟩
  · have := hinv.live x ((hsol x).1 hx)
    exact ⟨Nat.lt_of_lt_of_le this.1 hb.size, this.2⟩
  · cases r with
    | ret v => exact ((flat_spec (E := E) (E' := E) v hfl).2.2 x hx).elim
    | pan v => exact ((flat_spec (E := E) (E' := E) v hfl).2.2 x hx).elim

/-- A row told otherwise. -/
theorem row_told {C : Cx} {k : List It} {s : St} (p : Nat) {sz : Nat} {n : Th Nat} {g : Th Nat → AV} (n' : Th Nat) (g' : Th Nat → AV) (hb : s.b.get p = .row sz n g) (hn : n .o = n' .o) (hg : ∀ i, i < n .o → Fits (g fun _ => i) (g' fun _ => i))
    (h : Sound C k (s.put p (.row sz n' g'))) : Sound C k s :=
  ⟨fun E0 B0 hB0 E a hR => h.run E0 B0 hB0 E a (hR.reblk hb fun q => (SameB.rowAny hn hg).rp E p q)⟩

/-- Behind the clearing of a piece of a row. -/
theorem clr_rows {α : Type} {m lo n : Th Nat} {g : Th Nat → AV} {z : AV} {K : (Th Nat → AV) → Prop} (ch : Th α → AV) (z0 : α) (xs : List α) (hm : m .o = xs.length) (hg : ∀ i, i < xs.length → g (fun _ => i) = ch fun _ => xs.getD i z0) (hz : z = ch fun _ => z0)
    (hroom : lo .o + n .o ≤ xs.length) (h : K fun j => ch fun _ => if lo .o ≤ j .o ∧ j .o < lo .o + n .o then z0 else xs.getD (j .o) z0) : ClrAt m lo n g z K := by
  refine ⟨by rw [hm]; exact hroom, _, fun j hj hne => ?_, fun j h1 h2 => ?_, h⟩
  · refine Fits.of_eq ((hg j (by omega)).trans ?_)
    show (ch fun _ => xs.getD j z0) = ch fun _ => if lo .o ≤ j ∧ j < lo .o + n .o then z0 else xs.getD j z0
    rw [if_neg (by omega)]
  · refine Fits.of_eq (hz.trans ?_)
    show (ch fun _ => z0) = ch fun _ => if lo .o ≤ j ∧ j < lo .o + n .o then z0 else xs.getD j z0
    rw [if_pos ⟨h1, h2⟩]
end Go.Proofs.YtiaenejafpbfkaaDoor.Sx

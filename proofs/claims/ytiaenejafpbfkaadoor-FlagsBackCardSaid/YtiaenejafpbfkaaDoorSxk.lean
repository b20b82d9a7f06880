/- A symbolic executor for the model's code: regions, and the abstract weakest precondition is sound. -/
import Derived.Test.YtiaenejafpbfkaaDoorSxw
namespace Go.Proofs.YtiaenejafpbfkaaDoor.Sx
open Go
set_option linter.unusedSimpArgs false
set_option linter.unusedVariables false

def rOpers (P : Program) (N : Nat) (ops : Array Oper) : List Oper → Option (List ROp)
  | [] => some []
  | o :: r => match rOper P N ops o, rOpers P N ops r with
    | some x, some q => some (x :: q)
    | _, _ => none
def res (P : Program) (N : Nat) : Code → Option RC
  | .skip => some .skip
  | .region _ ops false => (rOpers P N ops ops.toList).map .reg
  | .region _ ops true => if P.follows .mixedOrders = true then (resD P N ops).map .regd else none
  | .seq a b => match res P N a, res P N b with | some a, some b => some (.seq a b) | _, _ => none
  | .cond c a b => match rOpd c, res P N a, res P N b with | some c, some a, some b => some (.cond c a b) | _, _, _ => none
  | .block id b => (res P N b).map (.block id)
  | .loop b => (res P N b).map .loop
  | .exit id => some (.exit id)
  | .ret => some .ret
  | _ => none

theorem res_inv {P : Program} {N : Nat} {c : Code} {r : RC} (h : res P N c = some r) : match r with
    | .skip => c = .skip
    | .reg rl => ∃ id ops, c = .region id ops false ∧ rOpers P N ops ops.toList = some rl
    | .regd rl => ∃ id ops, c = .region id ops true ∧ P.follows .mixedOrders = true ∧ resD P N ops = some rl
    | .seq x y => ∃ x' y', c = .seq x' y' ∧ res P N x' = some x ∧ res P N y' = some y
    | .cond o x y => ∃ o' x' y', c = .cond o' x' y' ∧ rOpd o' = some o ∧ res P N x' = some x ∧ res P N y' = some y
    | .block id x => ∃ x', c = .block id x' ∧ res P N x' = some x
    | .loop x => ∃ x', c = .loop x' ∧ res P N x' = some x
    | .exit id => c = .exit id
    | .ret => c = .ret
    | .mark _ => False := by
  cases c with
  | skip => simp only [res] at h; cases h; rfl
  | region id ops draw =>
    cases draw with
    | true =>
      simp only [res] at h
      split at h
      · rename_i hm; obtain ⟨q, hq, rfl⟩ := opt_map h; exact ⟨id, ops, rfl, hm, hq⟩
      · cases h
    | false => simp only [res] at h; obtain ⟨q, hq, rfl⟩ := opt_map h; exact ⟨id, ops, rfl, hq⟩
  | seq a b =>
    simp only [res] at h
    split at h
    · rename_i x y hx hy; cases h; exact ⟨a, b, rfl, hx, hy⟩
    · cases h
  | cond o a b =>
    simp only [res] at h
    split at h
    · rename_i o' x y ho hx hy; cases h; exact ⟨o, a, b, rfl, ho, hx, hy⟩
    · cases h
  | block id b => simp only [res] at h; obtain ⟨q, hq, rfl⟩ := opt_map h; exact ⟨b, rfl, hq⟩
  | loop b => simp only [res] at h; obtain ⟨q, hq, rfl⟩ := opt_map h; exact ⟨b, rfl, hq⟩
  | exit id => simp only [res] at h; cases h; rfl
  | ret => simp only [res] at h; cases h; rfl
  | _ => simp [res] at h

/-- Whatever state of the machine fits s: control at a pile of items ends as it is to. -/
structure Sound (C : Cx) (k : List It) (s : St) : Prop where
  run : ∀ (E0 : Env) (B0 : BL), (∀ x, x < 10000 → ¬ B0.liveAt x) → ∀ (E : Env) (a : Act), Rel C.N E0 B0 E s a → Cont C (Rel C.N E0 B0) (fun c' c => res (C.P .o) C.N c' = some c.erase) k .normal a E.w

def awp (C : Cx) : Nat → List It → St → Prop
  | 0, _, _ => False
  | f + 1, [], s => C.X none s
  | f + 1, .code c :: k, s =>
    match c with
    | .skip => awp C f k s
    | .reg ops => aops C ops s fun s' => awp C f k s'
    | .regd ops => adops C ops ops s fun s' => awp C f k s'
    | .seq a b => awp C f (.code a :: .code b :: k) s
    | .cond c a b => match c.ev s with
      | .tt => awp C f (.code a :: k) s
      | .ff => awp C f (.code b :: k) s
      | .bool x => (x .o = true → awp C f (.code a :: k) (s.know c true)) ∧ (x .o = false → awp C f (.code b :: k) (s.know c false))
      | _ => False
    | .block id b => awp C f (.code b :: .blk id :: k) s
    | .loop b => Sound C (.code (.loop b) :: k) s
    | .exit id => match outOf id k with | some k' => awp C f k' s | none => False
    | .ret => C.X none s
    | .mark c => Sound C (.code c :: k) s
  | f + 1, .blk _ :: k, s => awp C f k s
  | f + 1, .inv I :: k, s => I s

section
variable {C : Cx} {E0 : Env} {B0 : BL}

theorem aops_sound {ops : Array Oper} {Qc : Exit → Act → World → Prop} {K : St → Prop} (hB0 : ∀ x, x < 10000 → ¬ B0.liveAt x)
    (hn : ∀ E' s' a', Rel C.N E0 B0 E' s' a' → K s' → Qc .normal a' E'.w)
    (hp : ∀ E' s' v x a', Rel C.N E0 B0 E' s' a' → Rp E' v x → (∀ y, v.locs y → s'.b.liveAt y) → C.X (some v) s' → Qc (.panic [{ v := x, recovered := false }]) a' E'.w) :
    ∀ (l : List Oper) (rl : List ROp) (E : Env) (s : St) (a : Act), rOpers (C.P .o) C.N ops l = some (eraseL rl) → Rel C.N E0 B0 E s a → aops C rl s K → wpList (C.P .o) ops Qc l a E.w
  | [], rl, E, s, a, hr, h, ha => by
    cases rl with
    | nil => exact hn E s a h ha
    | cons x q => cases hr
  | o :: l, rl, E, s, a, hr, h, ha => by
    unfold rOpers at hr
    split at hr
    · rename_i x q0 hx hq
      obtain ⟨X, q, rfl, hX, rfl⟩ : ∃ X Q, rl = X :: Q ∧ X.erase = x ∧ eraseL Q = q0 := by
        cases rl with
        | nil => cases hr
        | cons X Q => cases hr; exact ⟨X, Q, rfl, rfl, rfl⟩
      unfold rOper at hx
      split at hx
      · rename_i ro0 g0 hro hgd hdst
        cases hx
        obtain ⟨Xd, ro, g⟩ := X
        simp only [ROp.erase, ROp.mk.injEq] at hX
        obtain ⟨rfl, rfl, rfl⟩ := hX
        have hN : ∀ d, o.dst = some d → d < C.N := by
          intro d hd
          unfold okDst at hdst
          rw [hd] at hdst
          simp only [Bool.and_eq_true, decide_eq_true_eq] at hdst
          exact hdst.1
        have hst : (∃ t x y, o.op = .store t x y) → o.dst = none := by
          rintro ⟨t, x, y, ho⟩
          unfold okDst at hdst
          cases hd : o.dst with
          | none => rfl
          | some d => rw [hd] at hdst; simp [ho, isStore] at hdst
        have hrun : ∀ {s' : St} {a' : Act}, Rel C.N E0 B0 E s' a' → a' = a → aop C ro o.dst s' (fun s' => aops C q s' K) → o.wp (C.P .o) a E.w (wpList (C.P .o) ops Qc l) Qc := by
          intro s' a' hR he ha
          subst he
          exact aop_soundE hR hB0 hro hN hst ha ⟨fun E' s'' a'' hR' hK => aops_sound hB0 hn hp l q E' s'' a'' hq hR' hK, fun E' s'' v x hR' hv hl hX => hp E' s'' v x _ hR' hv hl hX⟩
        have hskip : ∀ {s' : St}, Rel C.N E0 B0 E s' a → aops C q (s'.setO o.dst (.tup .nil)) K → wpList (C.P .o) ops Qc l (a.put o.dst undef) E.w := by
          intro s' hR ha
          exact aops_sound hB0 hn hp l q E _ _ hq (hR.value hB0 hN (v := .tup .nil) (x := undef) (rp_tup.2 ⟨[], rfl, listC_nil.2 rfl⟩) (fun y hy => hy.elim)) ha
        unfold aops at ha
        cases hog : o.guard with
        | none =>
          have : g = none := by rw [hog] at hgd; cases hgd; rfl
          subst this
          unfold wpList
          rw [if_pos (by simp [Region.wanted, hog])]
          obtain ⟨E1, hw1, hR1⟩ : ∃ E1, E1.w = E.w ∧ Rel C.N E0 B0 E1 (s.pre ro) a := by
            unfold St.pre
            split
            · split
              · rename_i p _
                split
                · obtain ⟨E1, h1, _, _, _, h2⟩ := h.shut1 hB0 p
                  exact ⟨E1, h1, h2⟩
                · exact ⟨E, rfl, h⟩
              · exact ⟨E, rfl, h⟩
            · exact ⟨E, rfl, h⟩
          have := aop_soundE hR1 hB0 hro hN hst ha ⟨fun E' s'' a'' hR' hK => aops_sound hB0 hn hp l q E' s'' a'' hq hR' hK, fun E' s'' v x hR' hv hl hX => hp E' s'' v x _ hR' hv hl hX⟩
          rw [hw1] at this
          exact .inl this
        | some jb =>
          obtain ⟨j, b⟩ := jb
          rw [hog] at hgd
          obtain ⟨t, b', rfl⟩ : ∃ t b', g = some (t, b') := by
            simp only [rGuard] at hgd
            split at hgd
            · split at hgd
              · split at hgd
                · cases hgd; exact ⟨_, _, rfl⟩
                · cases hgd
              · cases hgd
            · cases hgd
          have hval := h.tmps t
          simp only at ha
          have want : ∀ (x : Bool), a.tmps.getD t undef = .bool x → b' = b ∧ Region.wanted o (yielded ops a.tmps) = (x == b) := by
            intro x hx
            obtain ⟨h1, h2, h3⟩ := yielded_of hgd h.sz hx
            refine ⟨h1, ?_⟩
            simp only [Region.wanted, hog, h3]
            cases x <;> cases b <;> rfl
          unfold wpList
          split at ha
          · rename_i he
            rw [he] at hval
            obtain ⟨rfl, hw⟩ := want true hval
            rw [hw]
            cases b' with
            | true => rw [if_pos (by simp)]; exact .inl (hrun h rfl ha)
            | false => rw [if_neg (by simp)]; exact hskip h ha
          · rename_i he
            rw [he] at hval
            obtain ⟨rfl, hw⟩ := want false hval
            rw [hw]
            cases b' with
            | true => rw [if_neg (by simp)]; exact hskip h ha
            | false => rw [if_pos (by simp)]; exact .inl (hrun h rfl ha)
          · rename_i x he
            rw [he] at hval
            have hval' : a.tmps.getD t undef = .bool (x .o) := hval
            obtain ⟨rfl, hw⟩ := want (x .o) hval'
            rw [hw]
            by_cases hxb : x .o = b'
            · rw [if_pos (by simp [hxb])]
              exact .inl (hrun (h.retell (v := tv b') (by rw [hval', hxb]; exact tv_rp E b') (tv_locs b')) rfl (ha.1 hxb))
            · have hxb' : x .o = !b' := by cases hx' : x .o <;> cases b' <;> simp_all
              rw [if_neg (by simp [hxb])]
              exact hskip (h.retell (v := tv !b') (by rw [hval', hxb']; exact tv_rp E _) (tv_locs _)) (ha.2 hxb')
          · rename_i he
            rw [he] at hval
            obtain ⟨u, hu, hu'⟩ := rp_tup.1 hval
            rw [listC_nil.1 hu'] at hu
            rw [if_neg (by rw [unwanted_of hgd h.sz hu hog]; exact Bool.false_ne_true)]
            exact hskip h ha
          · exact ha.elim
      · cases hx
    · cases hr

variable {rel : Code → RC → Prop} {R : Env → St → Act → Prop}

theorem cont_panic (k : List It) (ch : List PanicEntry) (a : Act) (w : World) : Cont C R rel k (.panic ch) a w = Cont C R rel [] (.panic ch) a w := by
  induction k with
  | nil => rfl
  | cons i k ih => cases i <;> exact ih
theorem cont_ret (k : List It) (a : Act) (w : World) : Cont C R rel k .ret a w = Cont C R rel [] .ret a w := by
  induction k with
  | nil => rfl
  | cons i k ih => cases i <;> exact ih
theorem cont_exit {id : Nat} : ∀ (k k' : List It) (a : Act) (w : World), outOf id k = some k' → Cont C R rel k' .normal a w → Cont C R rel k (.exit id) a w
  | .blk id' :: k, k', a, w, h, hc => by
    unfold outOf at h
    split at h
    · rename_i he
      cases h
      have : id' = id := by simpa using he
      show if id = id' then _ else _
      rw [if_pos this.symm]; exact hc
    · rename_i he
      have : ¬ id = id' := by simpa using Ne.symm (by simpa using he : id' ≠ id)
      show if id = id' then _ else _
      rw [if_neg this]; exact cont_exit k k' a w h hc
  | .code c :: k, k', a, w, h, hc => cont_exit k k' a w h hc
  | .inv I :: k, k', a, w, h, hc => cont_exit k k' a w h hc

theorem awp_sound : ∀ (f : Nat) (k : List It) (s : St), awp C f k s → Sound C k s
  | 0, _, _, h => h.elim
  | f + 1, [], s, h => ⟨fun E0 B0 hB0 E a hR => ⟨E, s, hR, rfl, h⟩⟩
  | f + 1, .blk id :: k, s, h => ⟨fun E0 B0 hB0 E a hR => (awp_sound f k s h).run E0 B0 hB0 E a hR⟩
  | f + 1, .inv I :: k, s, h => ⟨fun E0 B0 hB0 E a hR => ⟨E, s, hR, rfl, h⟩⟩
  | f + 1, .code c :: k, s, h => by
    cases c with
    | skip =>
      simp only [awp] at h
      refine ⟨fun E0 B0 hB0 E a hR c' hc' => ?_⟩
      have he : c' = .skip := res_inv hc'
      subst he
      exact wp_skip ((awp_sound f k s h).run E0 B0 hB0 E a hR)
    | reg rl =>
      simp only [awp] at h
      refine ⟨fun E0 B0 hB0 E a hR c' hc' => ?_⟩
      obtain ⟨id, ops, rfl, hq⟩ := res_inv hc'
      refine wp_region_list (aops_sound hB0 (fun E' s' a' hR' hK => (awp_sound f k s' hK).run E0 B0 hB0 E' a' hR') (fun E' s' v x a' hR' hv hl hX => ?_) ops.toList rl E s a hq hR h)
      rw [cont_panic]
      exact ⟨E', s', v, x, hR', rfl, rfl, hv, hl, hX⟩
    | regd rl =>
      simp only [awp] at h
      refine ⟨fun E0 B0 hB0 E a hR c' hc' => ?_⟩
      obtain ⟨id, ops, rfl, hm, hq⟩ := res_inv hc'
      refine adops_sound hB0 hm (fun E' s' a' hR' hK => (awp_sound f k s' hK).run E0 B0 hB0 E' a' hR') (fun E' s' v x a' hR' hv hl hX => ?_) hq hR h id
      rw [cont_panic]
      exact ⟨E', s', v, x, hR', rfl, rfl, hv, hl, hX⟩
    | seq x y =>
      simp only [awp] at h
      refine ⟨fun E0 B0 hB0 E a hR c' hc' => ?_⟩
      obtain ⟨x', y', rfl, hx, hy⟩ := res_inv hc'
      have := (awp_sound f _ s h).run E0 B0 hB0 E a hR x' hx
      exact wp_seq (wp_mono this fun e a w hq => by cases e <;> first | exact hq y' hy | exact hq)
    | cond c x y =>
      simp only [awp] at h
      refine ⟨fun E0 B0 hB0 E a hR c' hc' => ?_⟩
      obtain ⟨oc, x', y', rfl, hc, hx, hy⟩ := res_inv hc'
      have hcv := opd_sound hR.si hc
      split at h
      · rename_i he
        rw [he] at hcv
        exact wp_cond_true hcv ((awp_sound f _ s h).run E0 B0 hB0 E a hR x' hx)
      · rename_i he
        rw [he] at hcv
        exact wp_cond_false hcv ((awp_sound f _ s h).run E0 B0 hB0 E a hR y' hy)
      · rename_i b he
        rw [he] at hcv
        have hknow : ∀ v, b .o = v → Rel C.N E0 B0 E (s.know c v) a := by
          intro v hv
          unfold St.know
          cases c with
          | val _ => exact hR
          | tmp t =>
            refine hR.retell (v := tv v) ?_ (tv_locs v)
            have : oc = .tmp t := by
              unfold rOpd at hc
              split at hc
              · cases hc; rfl
              · rename_i w; cases hw : cval w <;> simp [hw] at hc
              · cases hc
              · cases hc
            subst this
            have h2 : a.tmps.getD t undef = .bool (b .o) := hcv
            rw [h2, hv]; exact tv_rp E v
        refine wp_cond_split hcv (fun ht => ?_) (fun hf => ?_)
        · exact (awp_sound f _ _ (h.1 ht)).run E0 B0 hB0 E a (hknow true ht) x' hx
        · exact (awp_sound f _ _ (h.2 hf)).run E0 B0 hB0 E a (hknow false hf) y' hy
      · exact h.elim
    | block id x =>
      simp only [awp] at h
      refine ⟨fun E0 B0 hB0 E a hR c' hc' => ?_⟩
      obtain ⟨x', rfl, hx⟩ := res_inv hc'
      have := (awp_sound f _ s h).run E0 B0 hB0 E a hR x' hx
      exact wp_block (wp_mono this fun e a w hq => by cases e <;> exact hq)
    | loop x => simp only [awp] at h; exact h
    | mark x =>
      simp only [awp] at h
      exact ⟨fun E0 B0 hB0 E a hR c' hc' => h.run E0 B0 hB0 E a hR c' hc'⟩
    | exit id =>
      simp only [awp] at h
      refine ⟨fun E0 B0 hB0 E a hR c' hc' => ?_⟩
      have he : c' = .exit id := res_inv hc'
      subst he
      split at h
      · rename_i k' hk'
        exact wp_exit (cont_exit k k' a E.w hk' ((awp_sound f k' s h).run E0 B0 hB0 E a hR))
      · exact h.elim
    | ret =>
      simp only [awp] at h
      refine ⟨fun E0 B0 hB0 E a hR c' hc' => ?_⟩
      have he : c' = .ret := res_inv hc'
      subst he
      exact wp_ret (by rw [cont_ret]; exact ⟨E, s, hR, rfl, h⟩)

end

end Go.Proofs.YtiaenejafpbfkaaDoor.Sx

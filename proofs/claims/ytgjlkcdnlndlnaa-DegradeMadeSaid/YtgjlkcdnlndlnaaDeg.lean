/- What a report says of a node: walked. -/
import Derived.Test.YtgjlkcdnlndlnaaRef21
import Derived.Test.YtgjlkcdnlndlnaaDegRes
namespace Go.Proofs.Ytgjlkcdnlndlnaa
open Go Go.Proofs.Ytgjlkcdnlndlnaa.Sx F
set_option linter.unusedVariables false
set_option linter.unusedSimpArgs false

def Item.ch (x : Th Item) : AV := .cons (.str fun _ => (x .o).path) (.cons (.int .i64 fun _ => (x .o).attr) (.cons (.int .i64 fun _ => (x .o).res) .nil))
def items (l : Th (List Item)) : AV := .sl 3 (fun _ => (l .o).length) fun i => Item.ch fun _ => (l .o).getD (i .o) Item.z

/-- degrade.Result. -/
theorem degRes_c (l : Th (List Item)) (p : Th (List UInt8)) (a : Th Int) (hl : (l .o).length ≤ 140737488351232) {d : Nat} {K : ARes → BL → Prop} (hr : ∀ n : Th Int, n .o = lastR (l .o) (p .o) (a .o) → K (.ret (.int .i64 n)) .nil) :
    CallAt PT 27 [items l, .str p, .int .i64 a] d .nil K := by
  refine CallAt.of_below (by kernel_rfl) fun E vs hb hv => ?_
  obtain ⟨v1, r1, rfl, h1, v2, r2, rfl, h2, v3, r3, rfl, h3, rfl⟩ : ∃ v1 r1, vs = v1 :: r1 ∧ Rp E (items l) v1 ∧ ∃ v2 r2, r1 = v2 :: r2 ∧ Rp E (.str p) v2 ∧ ∃ v3 r3, r2 = v3 :: r3 ∧ Rp E (.int .i64 a) v3 ∧ r3 = [] := hv
  obtain rfl : v2 = .string ⟨(p .o).toArray⟩ := h2
  obtain rfl : v3 = .int .i64 (a .o) := h3
  obtain ⟨ad, cap, rfl, hcap, hc⟩ : ∃ ad cap, v1 = .slice ad (l .o).length cap ∧ (l .o).length ≤ cap ∧ ∀ i, i < (l .o).length → ((Item.ch fun _ => (l .o).getD i Item.z).okE ∧ (Item.ch fun _ => (l .o).getD i Item.z).len = 3) ∧ ∃ b o, ad = some ⟨b, o, none⟩ ∧ MemC E (Item.ch fun _ => (l .o).getD i Item.z) b (o + i * 3) := h1
  refine (result_calls ad cap (l .o) hl (p .o) (a .o) E.w fun hz => ?_).mono ?_
  · obtain ⟨_, b, o, rfl, hm⟩ := hc 0 (by omega)
    refine ⟨b, o, rfl, ?_, fun j hj => ?_⟩
    · obtain ⟨⟨v, _, hi, _⟩, _⟩ := hm
      exact hb _ _ hi
    · obtain ⟨_, b', o', e, hm'⟩ := hc j hj
      cases e
      obtain ⟨⟨u1, k1, _, q1⟩, ⟨u2, k2, _, q2⟩, ⟨u3, k3, _, q3⟩, _⟩ := hm'
      obtain rfl : u1 = .string ⟨((l .o).getD j Item.z).path.toArray⟩ := q1
      obtain rfl : u2 = .int .i64 ((l .o).getD j Item.z).attr := q2
      obtain rfl : u3 = .int .i64 ((l .o).getD j Item.z).res := q3
      simp only [List.getD_eq_getElem?_getD] at k1 k2 k3
      exact ⟨k1, k2, k3⟩
  · rintro e w' ⟨rfl, hbl⟩
    exact ⟨.ret (.int .i64 fun _ => lastR (l .o) (p .o) (a .o)), rfl, rfl, hr _ rfl, hbl⟩

/-- What the teller holds. -/
def Teller.av (e : Th Entry) (c : Th Cred) (l : Th (List Item)) : AV := .agg ((Entry.ch e).app ((Cred.ch c).app (.cons (items l) .nil)))

theorem is_c (e : Th Entry) (c : Th Cred) (l : Th (List Item)) (a r : Th Int) (hl : (l .o).length ≤ 140737488351232) {d : Nat} {K : ARes → BL → Prop} (hr : ∀ b : Th Bool, b .o = decide (lastR (l .o) (e .o).path (a .o) = r .o) → K (.ret (.bool b)) .nil) :
    CallAt PT degrade_teller_is [Teller.av e c l, .int .i64 a, .int .i64 r] d .nil K := by
  refine degrade_teller_is.of rfl rfl ?_
  cbv
  refine degRes_c l (fun _ => (e .o).path) a hl fun n hn => ?_
  cbv
  exact hr _ (by show decide (n .o = r .o) = _; rw [hn])

theorem cloneA_c (l : Th (List Ace)) (hl : (l .o).length * 24 ≤ 140737488355328) {d : Nat} {K : ARes → BL → Prop} (hr : ∀ r : Th (List Ace), r .o = l .o → K (.ret (aces r)) .nil) : CallAt PT slices_Clone_api_Ace_api_Ace [aces l] d .nil K := by
  refine CallAt.res ?_
  refine slices_Clone_api_Ace_api_Ace.of rfl rfl ?_
  cbv
  intro b hb
  cbv
  refine br_bool (fun h1 => ?_) (fun h1 => ?_)
  · cbv
    exact ⟨_, .ret (y := aces fun _ => []) (.nsl rfl), hr _ (List.eq_nil_of_length_eq_zero (hb h1)).symm⟩
  · cbv
    refine app_rows0 Ace.ch Ace.z (l .o) rfl rfl (fun i hi => rfl) hl ?_
    cbv
    exact ⟨_, .ret (Same.refl _), hr l rfl⟩
theorem cloneX_c (l : Th (List Xattr)) (hl : (l .o).length * 32 ≤ 140737488355328) {d : Nat} {K : ARes → BL → Prop} (hr : ∀ r : Th (List Xattr), r .o = l .o → K (.ret (xattrs r)) .nil) : CallAt PT slices_Clone_api_Xattr_api_Xattr [xattrs l] d .nil K := by
  refine CallAt.res ?_
  refine slices_Clone_api_Xattr_api_Xattr.of rfl rfl ?_
  cbv
  intro b hb
  cbv
  refine br_bool (fun h1 => ?_) (fun h1 => ?_)
  · cbv
    exact ⟨_, .ret (y := xattrs fun _ => []) (.nsl rfl), hr _ (List.eq_nil_of_length_eq_zero (hb h1)).symm⟩
  · cbv
    refine app_rows0 Xattr.ch Xattr.z (l .o) rfl rfl (fun i hi => rfl) hl ?_
    cbv
    exact ⟨_, .ret (Same.refl _), hr l rfl⟩

/-- gripsackref21.Result. -/
theorem lastR_drop (l : List Item) (p : List UInt8) (a : Int) {k : Nat} (hk : k ≤ l.length) (h : ∀ j, k ≤ j → j < l.length → hit p a (l.getD j Item.z) = false) : lastR l p a = lastR (l.take k) p a := by
  unfold lastR
  conv => lhs; rw [← List.take_append_drop k l]
  rw [List.reverse_append, List.find?_append, List.find?_eq_none.2 fun x hx => ?_]
  · rfl
  · obtain ⟨i, hi, rfl⟩ := List.mem_iff_getElem.1 (List.mem_reverse.1 hx)
    simp only [List.length_drop] at hi
    have := h (k + i) (by omega) (by omega)
    simpa [hit, List.getD_eq_getElem?_getD, List.getElem?_eq_getElem (show k + i < l.length by omega)] using this
theorem lastR_take (l : List Item) (p : List UInt8) (a : Int) {k : Nat} (hk : k < l.length) (h : hit p a (l.getD k Item.z) = true) : lastR (l.take (k + 1)) p a = (l.getD k Item.z).res := by
  unfold lastR
  have : l.getD k Item.z = l[k] := by simp [List.getD_eq_getElem?_getD, List.getElem?_eq_getElem hk]
  rw [this] at h ⊢
  rw [List.take_add_one, List.getElem?_eq_getElem hk]
  have h' : decide (l[k].path = p ∧ l[k].attr = a) = true := h
  simp only [Option.toList_some, List.reverse_append, List.reverse_cons, List.reverse_nil, List.nil_append, List.cons_append, List.find?_cons, h', Option.map_some, Option.getD_some]
theorem res21_c (l : Th (List Item)) (p : Th (List UInt8)) (a : Th Int) (hl : (l .o).length ≤ 140737488351232) {d : Nat} {K : ARes → BL → Prop} (hr : ∀ n : Th Int, n .o = lastR (l .o) (p .o) (a .o) → K (.ret (.int .i64 n)) .nil) :
    CallAt PT r21_Result [items l, .str p, .int .i64 a] d .nil K := by
  refine CallAt.res ?_
  refine r21_Result.of rfl rfl ?_
  cbv
  have hw : ∀ k : Nat, k ≤ (l .o).length → IntKind.i64.wrap (zi k - 1) = zi k - 1 := fun k hk => by rw [IntKind.wrap_i64]; unfold zi; omega
  refine loop_rule (X := Nat) 1000 [0, 1, 2] [] (fun k => .cons 7 (.int .i64 fun _ => zi k - 1) .nil) (fun _ => .nil) (fun k => k ≤ (l .o).length ∧ ∀ j, k ≤ j → j < (l .o).length → hit (p .o) (a .o) ((l .o).getD j Item.z) = false) (fun k => k) (l .o).length ?_ ⟨Nat.le_refl _, fun j h1 h2 => by omega⟩ ?_
  · cbv
    rw [hw _ (Nat.le_refl _)]
    (repeat' (first | exact True.intro | exact Same.refl _ | exact SameB.refl _ | exact ⟨rfl⟩ | exact Same.int rfl | exact Same.str rfl | exact Same.bool rfl | (refine Same.int ?_; simp only [List.length_append, List.length_cons, List.length_nil, zi]; omega) | (refine SameB.row' rfl fun i hi => ?_; first | rfl | exact absurd hi (Nat.not_lt_zero _)) | refine And.intro ?_ ?_ | refine SameB.cells ?_ | exact SameC.nil | refine SameC.cons ?_ ?_ | exact Same.nsl rfl | exact Same.tt rfl | exact Same.ff rfl))
  · rintro k ⟨hk, hno⟩
    cbv
    ((try refine br_rev ?_); (first | refine br_dec (fun h1 => ?_) (fun h1 => ?_) | refine br_ndec (fun h1 => ?_) (fun h1 => ?_) | refine br_nbool (fun h1 => ?_) (fun h1 => ?_) | refine br_bool (fun h1 => ?_) (fun h1 => ?_)); all_goals (try dsimp only at h1); all_goals (try with_reducible replace h1 := zi_lt.1 h1); all_goals (try with_reducible replace h1 := not_zlt h1))
    · have hk1 : 0 < k := by unfold zi at h1; omega
      have hz : (zi k - 1).toNat = k - 1 := by unfold zi; omega
      cbv
      have hin : 0 ≤ zi k - 1 ∧ zi k - 1 < zi (l .o).length := ⟨h1, by unfold zi; omega⟩
      have on : hit (p .o) (a .o) ((l .o).getD (k - 1) Item.z) = false → ∀ j, k - 1 ≤ j → j < (l .o).length → hit (p .o) (a .o) ((l .o).getD j Item.z) = false := fun q j hj hl' => by
        by_cases e : j = k - 1
        · rw [e]; exact q
        · exact hno j (by omega) hl'
      have hs1 : zi k - 1 = zi (k - 1) := by unfold zi; omega
      refine safe hin ?_
      refine br_bool (fun h2 => ?_) (fun h2 => ?_)
      · have h2 : ((l .o).getD (k - 1) Item.z).path = p .o := by rw [← hz]; exact of_decide_eq_true h2
        cbv
        refine safe hin ?_
        refine br_dec (fun h3 => ?_) (fun h3 => ?_)
        · have h3 : ((l .o).getD (k - 1) Item.z).attr = a .o := by rw [← hz]; exact h3
          cbv
          refine safe hin ?_
          refine ⟨_, .ret (Same.int (b := fun _ => lastR (l .o) (p .o) (a .o)) ?_), hr _ rfl⟩
          show ((l .o).getD (zi k - 1).toNat Item.z).res = _
          rw [hz, lastR_drop (l .o) (p .o) (a .o) hk hno]
          have := lastR_take (l .o) (p .o) (a .o) (k := k - 1) (by omega) (decide_eq_true ⟨h2, h3⟩)
          rw [← this, show k - 1 + 1 = k by omega]
        · have h3 : ¬ ((l .o).getD (k - 1) Item.z).attr = a .o := by rw [← hz]; exact h3
          cbv
          refine ⟨k - 1, ⟨by omega, on (decide_eq_false fun q => h3 q.2)⟩, by omega, ?_⟩
          cbv
          rw [hs1, hw (k - 1) (by omega)]
          (repeat' (first | exact True.intro | exact Same.refl _ | exact SameB.refl _ | exact ⟨rfl⟩ | exact Same.int rfl | exact Same.str rfl | exact Same.bool rfl | (refine Same.int ?_; simp only [List.length_append, List.length_cons, List.length_nil, zi]; omega) | (refine SameB.row' rfl fun i hi => ?_; first | rfl | exact absurd hi (Nat.not_lt_zero _)) | refine And.intro ?_ ?_ | refine SameB.cells ?_ | exact SameC.nil | refine SameC.cons ?_ ?_ | exact Same.nsl rfl | exact Same.tt rfl | exact Same.ff rfl))
      · have h2 : ¬ ((l .o).getD (k - 1) Item.z).path = p .o := by rw [← hz]; exact of_decide_eq_false h2
        cbv
        refine ⟨k - 1, ⟨by omega, on (decide_eq_false fun q => h2 q.1)⟩, by omega, ?_⟩
        cbv
        rw [hs1, hw (k - 1) (by omega)]
        (repeat' (first | exact True.intro | exact Same.refl _ | exact SameB.refl _ | exact ⟨rfl⟩ | exact Same.int rfl | exact Same.str rfl | exact Same.bool rfl | (refine Same.int ?_; simp only [List.length_append, List.length_cons, List.length_nil, zi]; omega) | (refine SameB.row' rfl fun i hi => ?_; first | rfl | exact absurd hi (Nat.not_lt_zero _)) | refine And.intro ?_ ?_ | refine SameB.cells ?_ | exact SameC.nil | refine SameC.cons ?_ ?_ | exact Same.nsl rfl | exact Same.tt rfl | exact Same.ff rfl))
    · have hk0 : k = 0 := by unfold zi at h1; omega
      subst hk0
      cbv
      exact ⟨_, .ret (Same.int (b := fun _ => lastR (l .o) (p .o) (a .o)) (by rw [lastR_drop (l .o) (p .o) (a .o) (Nat.zero_le _) hno]; rfl)), hr _ rfl⟩

/-- The mode of what a report tells. -/
def stageS (k : Int) : Int := if k = 6 then 448 else if k = 3 then 511 else 0
def tmodeS (e : Entry) (c : Cred) (l : List Item) : Int :=
  if e.kind = 3 then 511 else if lastR l e.path 3 = 2 then modeS (LessS e.mt) e.mt false
  else if ¬ lastR l e.path 3 = 1 then (if lastR l e.path 10 = 1 then 0 else stageS e.kind)
  else if e.kind = 1 ∧ inS c e.mt.gid = false ∧ band c.powers 4 = 0 then bnot (if lastR l e.path 4 = 1 then e.mt.mode else modeS (LessS e.mt) e.mt true) 1024
  else if lastR l e.path 4 = 1 then e.mt.mode else modeS (LessS e.mt) e.mt true
structure TellOk (e : Entry) (c : Cred) (l : List Item) : Prop where
  acl : short e.mt.acl
  grp : short c.groups
  len : l.length ≤ 140737488351232

theorem tmode_c (e : Th Entry) (c : Th Cred) (l : Th (List Item)) (h : TellOk (e .o) (c .o) (l .o)) {d : Nat} {K : ARes → BL → Prop} (hr : ∀ n : Th Int, n .o = tmodeS (e .o) (c .o) (l .o) → K (.ret (.int .i64 n)) .nil) :
    CallAt PT degrade_teller_mode [Teller.av e c l] d .nil K := by
  refine degrade_teller_mode.of rfl rfl ?_
  cbv
  refine br_dec (fun h1 => ?_) (fun h1 => ?_)
  · cbv
    exact hr _ (by unfold tmodeS; rw [if_pos h1])
  cbv
  refine is_c e c l (fun _ => 3) (fun _ => 2) h.len fun b hb => ?_
  cbv
  refine br_bool (fun h2 => ?_) (fun h2 => ?_)
  · rw [hb] at h2
    have h2 := of_decide_eq_true h2
    cbv
    refine pmode_ff (fun _ => (e .o).mt) fun n hn => ?_
    cbv
    exact hr _ (by unfold tmodeS; rw [if_neg h1, if_pos h2]; exact hn)
  rw [hb] at h2
  have h2 := of_decide_eq_false h2
  cbv
  refine is_c e c l (fun _ => 3) (fun _ => 1) h.len fun b hb => ?_
  cbv
  refine br_nbool (fun h3 => ?_) (fun h3 => ?_)
  · rw [hb] at h3
    have h3 := of_decide_eq_false h3
    cbv
    refine is_c e c l (fun _ => 10) (fun _ => 1) h.len fun b hb => ?_
    cbv
    refine br_bool (fun h4 => ?_) (fun h4 => ?_)
    · rw [hb] at h4
      have h4 := of_decide_eq_true h4
      cbv
      exact hr _ (by unfold tmodeS; rw [if_neg h1, if_neg h2, if_pos h3, if_pos h4])
    · rw [hb] at h4
      have h4 := of_decide_eq_false h4
      cbv
      refine stage_c (fun _ => (e .o).kind) fun n hn => ?_
      cbv
      exact hr _ (by unfold tmodeS; rw [if_neg h1, if_neg h2, if_pos h3, if_neg h4]; exact hn)
  rw [hb] at h3
  have h3 := of_decide_eq_true h3
  cbv
  refine pmode_tt (fun _ => (e .o).mt) h.acl fun n hn => ?_
  cbv
  refine is_c e c l (fun _ => 4) (fun _ => 1) h.len fun b hb => ?_
  cbv
  have hn' : n .o = modeS (LessS (e .o).mt) (e .o).mt true := hn
  refine br_bool (fun h4 => ?_) (fun h4 => ?_)
  all_goals
    rw [hb] at h4
    simp only [decide_eq_true_eq, decide_eq_false_iff_not] at h4
    cbv
    refine br_dec (fun h5 => ?_) (fun h5 => ?_)
    · have h5 : (e .o).kind = 1 := h5
      cbv
      refine in_c c (fun _ => (e .o).mt.gid) h.grp fun b6 hb6 => ?_
      cbv
      refine br_nbool (fun h6 => ?_) (fun h6 => ?_)
      · rw [hb6] at h6
        cbv
        refine br_dec (fun h7 => ?_) (fun h7 => ?_)
        · have h7 : band (c .o).powers 4 = 0 := h7
          cbv
          exact hr _ (by unfold tmodeS; rw [if_neg h1, if_neg h2, if_neg (fun q : ¬ _ => q h3), if_pos ⟨h5, h6, h7⟩, ← hn']; first | (rw [if_pos h4]; rfl) | (rw [if_neg h4]; rfl))
        · have h7 : ¬ band (c .o).powers 4 = 0 := h7
          cbv
          exact hr _ (by unfold tmodeS; rw [if_neg h1, if_neg h2, if_neg (fun q : ¬ _ => q h3), if_neg (fun q => h7 q.2.2), ← hn']; first | rw [if_pos h4] | rw [if_neg h4])
      · rw [hb6] at h6
        cbv
        exact hr _ (by unfold tmodeS; rw [if_neg h1, if_neg h2, if_neg (fun q : ¬ _ => q h3), if_neg (fun q => by rw [q.2.1] at h6; cases h6), ← hn']; first | rw [if_pos h4] | rw [if_neg h4])
    · have h5 : ¬ (e .o).kind = 1 := h5
      cbv
      exact hr _ (by unfold tmodeS; rw [if_neg h1, if_neg h2, if_neg (fun q : ¬ _ => q h3), if_neg (fun q => h5 q.1), ← hn']; first | rw [if_pos h4] | rw [if_neg h4])

def putOwner (e : Entry) (m : Meta) : Meta := { m with uid := e.mt.uid, gid := e.mt.gid }
def putAcl (e : Entry) (m : Meta) : Meta := { m with acl := e.mt.acl }
def putDflt (e : Entry) (m : Meta) : Meta := { m with dflt := e.mt.dflt }
def putXs (l : List Xattr) (m : Meta) : Meta := { m with xs := l }
def putCaps (e : Entry) (m : Meta) : Meta := { m with caps := e.mt.caps }
def putTime (e : Entry) (m : Meta) : Meta := { m with sec := e.mt.sec, nano := e.mt.nano }
def putFlags (f : Int) (m : Meta) : Meta := { m with flags := f }
def deg0 (e : Entry) (c : Cred) (l : List Item) : Meta := { metaZ with mode := tmodeS e c l, uid := c.uid, gid := c.gid }
def deg1 (e : Entry) (c : Cred) (l : List Item) : Meta := if lastR l e.path 2 = 1 then putOwner e (deg0 e c l) else deg0 e c l
def deg2 (e : Entry) (c : Cred) (l : List Item) : Meta := if lastR l e.path 4 = 1 then putAcl e (deg1 e c l) else deg1 e c l
def deg3 (e : Entry) (c : Cred) (l : List Item) : Meta := if lastR l e.path 5 = 1 then putDflt e (deg2 e c l) else deg2 e c l
def deg4 (e : Entry) (c : Cred) (l : List Item) : Meta := if lastR l e.path 6 = 1 then putXs e.mt.xs (deg3 e c l) else if lastR l e.path 6 = 2 then putXs (fewerS e.mt.xs) (deg3 e c l) else deg3 e c l
def deg5 (e : Entry) (c : Cred) (l : List Item) : Meta := if lastR l e.path 7 = 1 then putCaps e (deg4 e c l) else deg4 e c l
def deg6 (e : Entry) (c : Cred) (l : List Item) : Meta := if lastR l e.path 8 = 1 then putTime e (deg5 e c l) else deg5 e c l
def degS (e : Entry) (c : Cred) (l : List Item) : Meta := if lastR l e.path 9 = 1 then putFlags e.mt.flags (deg6 e c l) else if lastR l e.path 9 = 2 then putFlags (band e.mt.flags 12) (deg6 e c l) else deg6 e c l
structure DegOk (e : Entry) (c : Cred) (l : List Item) : Prop extends TellOk e c l where
  acl24 : e.mt.acl.length * 24 ≤ 140737488355328
  dflt24 : e.mt.dflt.length * 24 ≤ 140737488355328
  xs : e.mt.xs.length ≤ 1000

theorem deg_c (e : Th Entry) (c : Th Cred) (l : Th (List Item)) (h : DegOk (e .o) (c .o) (l .o)) {d : Nat} {K : ARes → BL → Prop} (hr : ∀ m : Th Meta, m .o = degS (e .o) (c .o) (l .o) → K (.ret (Meta.av m)) .nil) :
    CallAt PT degrade_Meta [Entry.av e, Cred.av c, items l] d .nil K := by
  refine CallAt.res ?_
  refine degrade_Meta.of rfl rfl ?_
  cbv
  refine tmode_c e c l h.toTellOk fun n hn => ?_
  cbv
  have q1 : ∀ {p : Prop} [Decidable p] (a b : Meta), p → (if p then a else b) = a := fun _ _ q => if_pos q
  refine cut_rule (X := Unit) 1000 1000 [6, 7, 8, 9] [6, 7, 8] (fun _ => .nil) (fun _ => .cons 9 (.cells (Meta.ch fun _ => deg1 (e .o) (c .o) (l .o))) .nil) (fun _ => True) ?_ fun _ _ => ?_
  · cbv
    refine is_c e c l (fun _ => 2) (fun _ => 1) h.len fun b hb => ?_
    cbv
    refine br_bool (fun h1 => ?_) (fun h1 => ?_)
    · have e1 : deg1 (e .o) (c .o) (l .o) = putOwner (e .o) (deg0 (e .o) (c .o) (l .o)) := if_pos (by rw [hb] at h1; exact of_decide_eq_true h1)
      cbv
      refine ⟨(), trivial, ?_⟩
      cbv
      rw [e1]
      (repeat' (first | exact True.intro | exact Same.refl _ | exact SameB.refl _ | exact ⟨rfl⟩ | exact Same.int rfl | exact Same.str rfl | exact Same.bool rfl | (refine Same.int ?_; simp only [List.length_append, List.length_cons, List.length_nil, zi]; omega) | (refine SameB.row' rfl fun i hi => ?_; first | rfl | exact absurd hi (Nat.not_lt_zero _)) | refine And.intro ?_ ?_ | refine SameB.cells ?_ | exact SameC.nil | refine SameC.cons ?_ ?_ | exact Same.nsl rfl | exact Same.tt rfl | exact Same.ff rfl))
      all_goals exact Same.int hn
    · have e1 : deg1 (e .o) (c .o) (l .o) = deg0 (e .o) (c .o) (l .o) := if_neg (by rw [hb] at h1; exact of_decide_eq_false h1)
      cbv
      refine ⟨(), trivial, ?_⟩
      cbv
      rw [e1]
      (repeat' (first | exact True.intro | exact Same.refl _ | exact SameB.refl _ | exact ⟨rfl⟩ | exact Same.int rfl | exact Same.str rfl | exact Same.bool rfl | (refine Same.int ?_; simp only [List.length_append, List.length_cons, List.length_nil, zi]; omega) | (refine SameB.row' rfl fun i hi => ?_; first | rfl | exact absurd hi (Nat.not_lt_zero _)) | refine And.intro ?_ ?_ | refine SameB.cells ?_ | exact SameC.nil | refine SameC.cons ?_ ?_ | exact Same.nsl rfl | exact Same.tt rfl | exact Same.ff rfl))
      all_goals exact Same.int hn
  cbv
  refine cut_rule (X := Unit) 1000 1000 [6, 7, 8, 9] [6, 7, 8] (fun _ => .nil) (fun _ => .cons 9 (.cells (Meta.ch fun _ => deg2 (e .o) (c .o) (l .o))) .nil) (fun _ => True) ?_ fun _ _ => ?_
  · cbv
    refine is_c e c l (fun _ => 4) (fun _ => 1) h.len fun b hb => ?_
    cbv
    refine br_bool (fun h1 => ?_) (fun h1 => ?_)
    · have e1 : deg2 (e .o) (c .o) (l .o) = putAcl (e .o) (deg1 (e .o) (c .o) (l .o)) := if_pos (by rw [hb] at h1; exact of_decide_eq_true h1)
      cbv
      refine cloneA_c (fun _ => (e .o).mt.acl) h.acl24 fun q hq => ?_
      cbv
      refine ⟨(), trivial, ?_⟩
      cbv
      rw [e1]
      rw [hq]
      (repeat' (first | exact True.intro | exact Same.refl _ | exact SameB.refl _ | exact ⟨rfl⟩ | exact Same.int rfl | exact Same.str rfl | exact Same.bool rfl | (refine Same.int ?_; simp only [List.length_append, List.length_cons, List.length_nil, zi]; omega) | (refine SameB.row' rfl fun i hi => ?_; first | rfl | exact absurd hi (Nat.not_lt_zero _)) | refine And.intro ?_ ?_ | refine SameB.cells ?_ | exact SameC.nil | refine SameC.cons ?_ ?_ | exact Same.nsl rfl | exact Same.tt rfl | exact Same.ff rfl))
    · have e1 : deg2 (e .o) (c .o) (l .o) = deg1 (e .o) (c .o) (l .o) := if_neg (by rw [hb] at h1; exact of_decide_eq_false h1)
      cbv
      refine ⟨(), trivial, ?_⟩
      cbv
      rw [e1]
      (repeat' (first | exact True.intro | exact Same.refl _ | exact SameB.refl _ | exact ⟨rfl⟩ | exact Same.int rfl | exact Same.str rfl | exact Same.bool rfl | (refine Same.int ?_; simp only [List.length_append, List.length_cons, List.length_nil, zi]; omega) | (refine SameB.row' rfl fun i hi => ?_; first | rfl | exact absurd hi (Nat.not_lt_zero _)) | refine And.intro ?_ ?_ | refine SameB.cells ?_ | exact SameC.nil | refine SameC.cons ?_ ?_ | exact Same.nsl rfl | exact Same.tt rfl | exact Same.ff rfl))
  cbv
  refine cut_rule (X := Unit) 1000 1000 [6, 7, 8, 9] [6, 7, 8] (fun _ => .nil) (fun _ => .cons 9 (.cells (Meta.ch fun _ => deg3 (e .o) (c .o) (l .o))) .nil) (fun _ => True) ?_ fun _ _ => ?_
  · cbv
    refine is_c e c l (fun _ => 5) (fun _ => 1) h.len fun b hb => ?_
    cbv
    refine br_bool (fun h1 => ?_) (fun h1 => ?_)
    · have e1 : deg3 (e .o) (c .o) (l .o) = putDflt (e .o) (deg2 (e .o) (c .o) (l .o)) := if_pos (by rw [hb] at h1; exact of_decide_eq_true h1)
      cbv
      refine cloneA_c (fun _ => (e .o).mt.dflt) h.dflt24 fun q hq => ?_
      cbv
      refine ⟨(), trivial, ?_⟩
      cbv
      rw [e1]
      rw [hq]
      (repeat' (first | exact True.intro | exact Same.refl _ | exact SameB.refl _ | exact ⟨rfl⟩ | exact Same.int rfl | exact Same.str rfl | exact Same.bool rfl | (refine Same.int ?_; simp only [List.length_append, List.length_cons, List.length_nil, zi]; omega) | (refine SameB.row' rfl fun i hi => ?_; first | rfl | exact absurd hi (Nat.not_lt_zero _)) | refine And.intro ?_ ?_ | refine SameB.cells ?_ | exact SameC.nil | refine SameC.cons ?_ ?_ | exact Same.nsl rfl | exact Same.tt rfl | exact Same.ff rfl))
    · have e1 : deg3 (e .o) (c .o) (l .o) = deg2 (e .o) (c .o) (l .o) := if_neg (by rw [hb] at h1; exact of_decide_eq_false h1)
      cbv
      refine ⟨(), trivial, ?_⟩
      cbv
      rw [e1]
      (repeat' (first | exact True.intro | exact Same.refl _ | exact SameB.refl _ | exact ⟨rfl⟩ | exact Same.int rfl | exact Same.str rfl | exact Same.bool rfl | (refine Same.int ?_; simp only [List.length_append, List.length_cons, List.length_nil, zi]; omega) | (refine SameB.row' rfl fun i hi => ?_; first | rfl | exact absurd hi (Nat.not_lt_zero _)) | refine And.intro ?_ ?_ | refine SameB.cells ?_ | exact SameC.nil | refine SameC.cons ?_ ?_ | exact Same.nsl rfl | exact Same.tt rfl | exact Same.ff rfl))
  cbv
  refine cut_rule (X := Unit) 1000 1000 [6, 7, 8, 9] [6, 7, 8] (fun _ => .nil) (fun _ => .cons 9 (.cells (Meta.ch fun _ => deg4 (e .o) (c .o) (l .o))) .nil) (fun _ => True) ?_ fun _ _ => ?_
  · cbv
    refine is_c e c l (fun _ => 6) (fun _ => 1) h.len fun b hb => ?_
    cbv
    refine br_bool (fun h1 => ?_) (fun h1 => ?_)
    · have e1 : deg4 (e .o) (c .o) (l .o) = putXs (e .o).mt.xs (deg3 (e .o) (c .o) (l .o)) := if_pos (by rw [hb] at h1; exact of_decide_eq_true h1)
      cbv
      refine cloneX_c (fun _ => (e .o).mt.xs) (by have := h.xs; omega) fun q hq => ?_
      cbv
      refine ⟨(), trivial, ?_⟩
      cbv
      rw [e1]
      rw [hq]
      (repeat' (first | exact True.intro | exact Same.refl _ | exact SameB.refl _ | exact ⟨rfl⟩ | exact Same.int rfl | exact Same.str rfl | exact Same.bool rfl | (refine Same.int ?_; simp only [List.length_append, List.length_cons, List.length_nil, zi]; omega) | (refine SameB.row' rfl fun i hi => ?_; first | rfl | exact absurd hi (Nat.not_lt_zero _)) | refine And.intro ?_ ?_ | refine SameB.cells ?_ | exact SameC.nil | refine SameC.cons ?_ ?_ | exact Same.nsl rfl | exact Same.tt rfl | exact Same.ff rfl))
    · have h1 : ¬ lastR (l .o) (e .o).path 6 = 1 := by rw [hb] at h1; exact of_decide_eq_false h1
      cbv
      refine is_c e c l (fun _ => 6) (fun _ => 2) h.len fun b hb => ?_
      cbv
      refine br_bool (fun h2 => ?_) (fun h2 => ?_)
      · have e1 : deg4 (e .o) (c .o) (l .o) = putXs (fewerS (e .o).mt.xs) (deg3 (e .o) (c .o) (l .o)) := (if_neg h1).trans (if_pos (by rw [hb] at h2; exact of_decide_eq_true h2))
        cbv
        refine fewer_c (fun _ => (e .o).mt.xs) h.xs fun q hq => ?_
        cbv
        refine ⟨(), trivial, ?_⟩
        cbv
        rw [e1]
        rw [hq]
        (repeat' (first | exact True.intro | exact Same.refl _ | exact SameB.refl _ | exact ⟨rfl⟩ | exact Same.int rfl | exact Same.str rfl | exact Same.bool rfl | (refine Same.int ?_; simp only [List.length_append, List.length_cons, List.length_nil, zi]; omega) | (refine SameB.row' rfl fun i hi => ?_; first | rfl | exact absurd hi (Nat.not_lt_zero _)) | refine And.intro ?_ ?_ | refine SameB.cells ?_ | exact SameC.nil | refine SameC.cons ?_ ?_ | exact Same.nsl rfl | exact Same.tt rfl | exact Same.ff rfl))
      · have e1 : deg4 (e .o) (c .o) (l .o) = deg3 (e .o) (c .o) (l .o) := (if_neg h1).trans (if_neg (by rw [hb] at h2; exact of_decide_eq_false h2))
        cbv
        refine ⟨(), trivial, ?_⟩
        cbv
        rw [e1]
        (repeat' (first | exact True.intro | exact Same.refl _ | exact SameB.refl _ | exact ⟨rfl⟩ | exact Same.int rfl | exact Same.str rfl | exact Same.bool rfl | (refine Same.int ?_; simp only [List.length_append, List.length_cons, List.length_nil, zi]; omega) | (refine SameB.row' rfl fun i hi => ?_; first | rfl | exact absurd hi (Nat.not_lt_zero _)) | refine And.intro ?_ ?_ | refine SameB.cells ?_ | exact SameC.nil | refine SameC.cons ?_ ?_ | exact Same.nsl rfl | exact Same.tt rfl | exact Same.ff rfl))
  cbv
  refine cut_rule (X := Unit) 1000 1000 [6, 7, 8, 9] [6, 7, 8] (fun _ => .nil) (fun _ => .cons 9 (.cells (Meta.ch fun _ => deg5 (e .o) (c .o) (l .o))) .nil) (fun _ => True) ?_ fun _ _ => ?_
  · cbv
    refine is_c e c l (fun _ => 7) (fun _ => 1) h.len fun b hb => ?_
    cbv
    refine br_bool (fun h1 => ?_) (fun h1 => ?_)
    · have e1 : deg5 (e .o) (c .o) (l .o) = putCaps (e .o) (deg4 (e .o) (c .o) (l .o)) := if_pos (by rw [hb] at h1; exact of_decide_eq_true h1)
      cbv
      refine ⟨(), trivial, ?_⟩
      cbv
      rw [e1]
      (repeat' (first | exact True.intro | exact Same.refl _ | exact SameB.refl _ | exact ⟨rfl⟩ | exact Same.int rfl | exact Same.str rfl | exact Same.bool rfl | (refine Same.int ?_; simp only [List.length_append, List.length_cons, List.length_nil, zi]; omega) | (refine SameB.row' rfl fun i hi => ?_; first | rfl | exact absurd hi (Nat.not_lt_zero _)) | refine And.intro ?_ ?_ | refine SameB.cells ?_ | exact SameC.nil | refine SameC.cons ?_ ?_ | exact Same.nsl rfl | exact Same.tt rfl | exact Same.ff rfl))
    · have e1 : deg5 (e .o) (c .o) (l .o) = deg4 (e .o) (c .o) (l .o) := if_neg (by rw [hb] at h1; exact of_decide_eq_false h1)
      cbv
      refine ⟨(), trivial, ?_⟩
      cbv
      rw [e1]
      (repeat' (first | exact True.intro | exact Same.refl _ | exact SameB.refl _ | exact ⟨rfl⟩ | exact Same.int rfl | exact Same.str rfl | exact Same.bool rfl | (refine Same.int ?_; simp only [List.length_append, List.length_cons, List.length_nil, zi]; omega) | (refine SameB.row' rfl fun i hi => ?_; first | rfl | exact absurd hi (Nat.not_lt_zero _)) | refine And.intro ?_ ?_ | refine SameB.cells ?_ | exact SameC.nil | refine SameC.cons ?_ ?_ | exact Same.nsl rfl | exact Same.tt rfl | exact Same.ff rfl))
  cbv
  refine cut_rule (X := Unit) 1000 1000 [6, 7, 8, 9] [6, 7, 8] (fun _ => .nil) (fun _ => .cons 9 (.cells (Meta.ch fun _ => deg6 (e .o) (c .o) (l .o))) .nil) (fun _ => True) ?_ fun _ _ => ?_
  · cbv
    refine is_c e c l (fun _ => 8) (fun _ => 1) h.len fun b hb => ?_
    cbv
    refine br_bool (fun h1 => ?_) (fun h1 => ?_)
    · have e1 : deg6 (e .o) (c .o) (l .o) = putTime (e .o) (deg5 (e .o) (c .o) (l .o)) := if_pos (by rw [hb] at h1; exact of_decide_eq_true h1)
      cbv
      refine ⟨(), trivial, ?_⟩
      cbv
      rw [e1]
      (repeat' (first | exact True.intro | exact Same.refl _ | exact SameB.refl _ | exact ⟨rfl⟩ | exact Same.int rfl | exact Same.str rfl | exact Same.bool rfl | (refine Same.int ?_; simp only [List.length_append, List.length_cons, List.length_nil, zi]; omega) | (refine SameB.row' rfl fun i hi => ?_; first | rfl | exact absurd hi (Nat.not_lt_zero _)) | refine And.intro ?_ ?_ | refine SameB.cells ?_ | exact SameC.nil | refine SameC.cons ?_ ?_ | exact Same.nsl rfl | exact Same.tt rfl | exact Same.ff rfl))
    · have e1 : deg6 (e .o) (c .o) (l .o) = deg5 (e .o) (c .o) (l .o) := if_neg (by rw [hb] at h1; exact of_decide_eq_false h1)
      cbv
      refine ⟨(), trivial, ?_⟩
      cbv
      rw [e1]
      (repeat' (first | exact True.intro | exact Same.refl _ | exact SameB.refl _ | exact ⟨rfl⟩ | exact Same.int rfl | exact Same.str rfl | exact Same.bool rfl | (refine Same.int ?_; simp only [List.length_append, List.length_cons, List.length_nil, zi]; omega) | (refine SameB.row' rfl fun i hi => ?_; first | rfl | exact absurd hi (Nat.not_lt_zero _)) | refine And.intro ?_ ?_ | refine SameB.cells ?_ | exact SameC.nil | refine SameC.cons ?_ ?_ | exact Same.nsl rfl | exact Same.tt rfl | exact Same.ff rfl))
  cbv
  refine cut_rule (X := Unit) 1000 1000 [6, 7, 8, 9] [6, 7, 8] (fun _ => .nil) (fun _ => .cons 9 (.cells (Meta.ch fun _ => degS (e .o) (c .o) (l .o))) .nil) (fun _ => True) ?_ fun _ _ => ?_
  · cbv
    refine is_c e c l (fun _ => 9) (fun _ => 1) h.len fun b hb => ?_
    cbv
    refine br_bool (fun h1 => ?_) (fun h1 => ?_)
    · have e1 : degS (e .o) (c .o) (l .o) = putFlags (e .o).mt.flags (deg6 (e .o) (c .o) (l .o)) := if_pos (by rw [hb] at h1; exact of_decide_eq_true h1)
      cbv
      refine ⟨(), trivial, ?_⟩
      cbv
      rw [e1]

      (repeat' (first | exact True.intro | exact Same.refl _ | exact SameB.refl _ | exact ⟨rfl⟩ | exact Same.int rfl | exact Same.str rfl | exact Same.bool rfl | (refine Same.int ?_; simp only [List.length_append, List.length_cons, List.length_nil, zi]; omega) | (refine SameB.row' rfl fun i hi => ?_; first | rfl | exact absurd hi (Nat.not_lt_zero _)) | refine And.intro ?_ ?_ | refine SameB.cells ?_ | exact SameC.nil | refine SameC.cons ?_ ?_ | exact Same.nsl rfl | exact Same.tt rfl | exact Same.ff rfl))
    · have h1 : ¬ lastR (l .o) (e .o).path 9 = 1 := by rw [hb] at h1; exact of_decide_eq_false h1
      cbv
      refine is_c e c l (fun _ => 9) (fun _ => 2) h.len fun b hb => ?_
      cbv
      refine br_bool (fun h2 => ?_) (fun h2 => ?_)
      · have e1 : degS (e .o) (c .o) (l .o) = putFlags (band (e .o).mt.flags 12) (deg6 (e .o) (c .o) (l .o)) := (if_neg h1).trans (if_pos (by rw [hb] at h2; exact of_decide_eq_true h2))
        cbv
        refine ⟨(), trivial, ?_⟩
        cbv
        rw [e1]

        (repeat' (first | exact True.intro | exact Same.refl _ | exact SameB.refl _ | exact ⟨rfl⟩ | exact Same.int rfl | exact Same.str rfl | exact Same.bool rfl | (refine Same.int ?_; simp only [List.length_append, List.length_cons, List.length_nil, zi]; omega) | (refine SameB.row' rfl fun i hi => ?_; first | rfl | exact absurd hi (Nat.not_lt_zero _)) | refine And.intro ?_ ?_ | refine SameB.cells ?_ | exact SameC.nil | refine SameC.cons ?_ ?_ | exact Same.nsl rfl | exact Same.tt rfl | exact Same.ff rfl))
      · have e1 : degS (e .o) (c .o) (l .o) = deg6 (e .o) (c .o) (l .o) := (if_neg h1).trans (if_neg (by rw [hb] at h2; exact of_decide_eq_false h2))
        cbv
        refine ⟨(), trivial, ?_⟩
        cbv
        rw [e1]
        (repeat' (first | exact True.intro | exact Same.refl _ | exact SameB.refl _ | exact ⟨rfl⟩ | exact Same.int rfl | exact Same.str rfl | exact Same.bool rfl | (refine Same.int ?_; simp only [List.length_append, List.length_cons, List.length_nil, zi]; omega) | (refine SameB.row' rfl fun i hi => ?_; first | rfl | exact absurd hi (Nat.not_lt_zero _)) | refine And.intro ?_ ?_ | refine SameB.cells ?_ | exact SameC.nil | refine SameC.cons ?_ ?_ | exact Same.nsl rfl | exact Same.tt rfl | exact Same.ff rfl))
  cbv
  exact ⟨_, .ret (y := Meta.av fun _ => degS (e .o) (c .o) (l .o)) (Same.refl _), hr _ rfl⟩
end Go.Proofs.Ytgjlkcdnlndlnaa

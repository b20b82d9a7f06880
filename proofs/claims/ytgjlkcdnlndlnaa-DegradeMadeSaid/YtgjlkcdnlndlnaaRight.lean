/- The package right, walked: what each function answers. -/
import Derived.Test.YtgjlkcdnlndlnaaDat
import Derived.Test.YtgjlkcdnlndlnaaRc
namespace Go.Proofs.Ytgjlkcdnlndlnaa
open Go Go.Proofs.Ytgjlkcdnlndlnaa.Sx F

def band (a b : Int) : Int := abits .and .i64 a b
def permS (l : List Ace) (t : Int) : Option Int := (l.find? fun a => decide (a.tag = t)).map (·.perm)
def maskS (l : List Ace) : Option Int := if 0 ≤ ixP (fun a : Ace => decide (a.tag = 5)) l then permS l 5 else some 7
def fromMode (m : Int) : List Ace := [⟨1, 0, (band m 511).fdiv (2 ^ 6)⟩, ⟨3, 0, band ((band m 511).fdiv (2 ^ 3)) 7⟩, ⟨6, 0, band (band m 511) 7⟩]
def ofS (m : Meta) : List Ace := if 0 < m.acl.length then m.acl else fromMode m.mode
def inS (c : Cred) (g : Int) : Bool := decide (c.gid = g) || decide (g ∈ c.groups)

theorem ixP_find {α : Type} (p : α → Bool) (z : α) (l : List α) : (ixP p l < 0 ∧ l.find? p = none) ∨ (∃ k, ixP p l = zi k ∧ k < l.length ∧ l.find? p = some (l.getD k z)) := by
  induction l with
  | nil => exact .inl ⟨by simp [ixP], rfl⟩
  | cons y r ih =>
    by_cases h : p y = true
    · exact .inr ⟨0, by simp [ixP, h, zi], by simp, by simp [h]⟩
    · rcases ih with ⟨h1, h2⟩ | ⟨k, h1, h2, h3⟩
      · exact .inl ⟨by simp [ixP, h, h1], by simp [h, h2]⟩
      · refine .inr ⟨k + 1, ?_, by simpa using h2, by simp [h, h3]⟩
        simp only [ixP, h, h1, Bool.false_eq_true, if_false]
        unfold zi
        rw [if_neg (by omega)]
        omega

/-! ### the functions -/
theorem mask1_c (a : Th Ace) {d : Nat} {K : ARes → BL → Prop} (hr : ∀ b : Th Bool, b .o = decide ((a .o).tag = 5) → K (.ret (.bool b)) .nil) : CallAt PT right_list_mask_1 [Ace.av a] d .nil K := by
  refine right_list_mask_1.of rfl rfl ?_
  cbv
  exact (hr _ rfl)

theorem perm1_c (a : Th Ace) (t : Th Int) {d : Nat} {K : ARes → BL → Prop}
    (hr : ∀ b : Th Bool, b .o = decide ((a .o).tag = t .o) → K (.ret (.bool b)) (.cons 10000 (.cells (.cons (.int .i64 t) .nil)) .nil)) : CallAt PT right_list_perm_1 [Ace.av a, .ptr 10000 0] d (.cons 10000 (.cells (.cons (.int .i64 t) .nil)) .nil) K := by
  refine right_list_perm_1.of rfl rfl ?_
  cbv
  exact hr _ rfl

theorem index_mask_c (l : Th (List Ace)) (hl : short (l .o)) {d : Nat} {K : ARes → BL → Prop} (hr : ∀ n : Th Int, n .o = ixP (fun a : Ace => decide (a.tag = 5)) (l .o) → K (.ret (.int .i64 n)) .nil) :
    CallAt PT slices_IndexFunc_right_list_api_Ace [aces l, .fn (.func right_list_mask_1) .nil .nil] d .nil K := by
  refine slices_IndexFunc_right_list_api_Ace.of rfl rfl ?_
  cbv
  refine loop_rule (X := Nat) 1000 [0, 1, 7] [] (fun k => .cons 8 (.int .i64 fun _ => zi k) .nil) (fun _ => .nil) (fun k => k ≤ (l .o).length ∧ ∀ j, j < k → decide (((l .o).getD j Ace.z).tag = 5) = false) (fun k => (l .o).length - k) 0 ?_ ⟨Nat.zero_le _, fun j hj => by omega⟩ ?_
  · cbv
    exact ⟨⟨.refl _, .refl _, .refl _, .int rfl, trivial⟩, ⟨rfl⟩⟩
  · intro k hk
    cbv
    refine ⟨fun h1 => ?_, fun h1 => ?_⟩
    · have h1 : k < (l .o).length := zi_lt.1 (of_decide_eq_true h1)
      cbv
      refine ⟨fun _ => ⟨zi_nonneg _, zi_lt.2 h1⟩, ?_⟩
      refine mask1_c (fun _ => (l .o).getD (zi k).toNat Ace.z) fun b hb => ?_
      rw [zi_toNat] at hb
      cbv
      refine ⟨fun h2 => ?_, fun h2 => ?_⟩
      · cbv
        exact (hr _ (ixP_at _ Ace.z _ k h1 hk.2 (hb.symm.trans h2)).symm)
      · cbv
        refine ⟨k + 1, ⟨h1, ?_⟩, by omega, ?_⟩
        · intro j hj
          by_cases he : j = k
          · subst he; exact hb.symm.trans h2
          · exact hk.2 j (by omega)
        · cbv
          exact ⟨⟨.refl _, .refl _, .refl _, .int (zi_succ (by unfold short at hl; omega)), trivial⟩, ⟨rfl⟩⟩
    · have h1 : ¬ k < (l .o).length := fun q => of_decide_eq_false h1 (zi_lt.2 q)
      cbv
      exact (hr _ (ixP_no _ Ace.z _ fun j hj => hk.2 j (by omega)).symm)

theorem index_perm_c (l : Th (List Ace)) (t : Th Int) (hl : short (l .o)) {d : Nat} {K : ARes → BL → Prop} (hr : ∀ n : Th Int, n .o = ixP (fun a : Ace => decide (a.tag = t .o)) (l .o) → K (.ret (.int .i64 n)) (.cons 10000 (.cells (.cons (.int .i64 t) .nil)) .nil)) :
    CallAt PT slices_IndexFunc_right_list_api_Ace [aces l, .fn (.func right_list_perm_1) .nil (.cons (.ptr 10000 0) .nil)] d (.cons 10000 (.cells (.cons (.int .i64 t) .nil)) .nil) K := by
  refine slices_IndexFunc_right_list_api_Ace.of rfl rfl ?_
  cbv
  refine loop_rule (X := Nat) 1000 [0, 1, 7] [10000] (fun k => .cons 8 (.int .i64 fun _ => zi k) .nil) (fun _ => .nil) (fun k => k ≤ (l .o).length ∧ ∀ j, j < k → decide (((l .o).getD j Ace.z).tag = t .o) = false) (fun k => (l .o).length - k) 0 ?_ ⟨Nat.zero_le _, fun j hj => by omega⟩ ?_
  · cbv
    exact ⟨⟨.refl _, .refl _, .refl _, .int rfl, trivial⟩, ⟨.refl _, trivial⟩, ⟨rfl⟩⟩
  · intro k hk
    cbv
    refine ⟨fun h1 => ?_, fun h1 => ?_⟩
    · have h1 : k < (l .o).length := zi_lt.1 (of_decide_eq_true h1)
      cbv
      refine ⟨fun _ => ⟨zi_nonneg _, zi_lt.2 h1⟩, ?_⟩
      refine perm1_c (fun _ => (l .o).getD (zi k).toNat Ace.z) t fun b hb => ?_
      rw [zi_toNat] at hb
      cbv
      refine ⟨fun h2 => ?_, fun h2 => ?_⟩
      · cbv
        exact hr _ (ixP_at _ Ace.z _ k h1 hk.2 (hb.symm.trans h2)).symm
      · cbv
        refine ⟨k + 1, ⟨h1, ?_⟩, by omega, ?_⟩
        · intro j hj
          by_cases he : j = k
          · subst he; exact hb.symm.trans h2
          · exact hk.2 j (by omega)
        · cbv
          exact ⟨⟨.refl _, .refl _, .refl _, .int (zi_succ (by unfold short at hl; omega)), trivial⟩, ⟨.refl _, trivial⟩, ⟨rfl⟩⟩
    · have h1 : ¬ k < (l .o).length := fun q => of_decide_eq_false h1 (zi_lt.2 q)
      cbv
      exact hr _ (ixP_no _ Ace.z _ fun j hj => hk.2 j (by omega)).symm

theorem contains_mask_c (l : Th (List Ace)) (hl : short (l .o)) {d : Nat} {K : ARes → BL → Prop} (hr : ∀ b : Th Bool, b .o = decide (0 ≤ ixP (fun a : Ace => decide (a.tag = 5)) (l .o)) → K (.ret (.bool b)) .nil) :
    CallAt PT slices_ContainsFunc_right_list_api_Ace [aces l, .fn (.func right_list_mask_1) .nil .nil] d .nil K := by
  refine slices_ContainsFunc_right_list_api_Ace.of rfl rfl ?_
  cbv
  refine index_mask_c l hl fun n hn => ?_
  cbv
  exact (hr _ (by show decide (0 ≤ n .o) = _; rw [hn]))

/-- What is raised where a part lacks. -/
def lacks (t : Th Int) : AV := .ifc 138 (.agg (.cons (.int .i64 t) .nil))

theorem perm_c (l : Th (List Ace)) (t : Th Int) (hl : short (l .o)) {d : Nat} {K : ARes → BL → Prop} (hr : ∀ n : Th Int, permS (l .o) (t .o) = some (n .o) → K (.ret (.int .i64 n)) .nil) (hp : permS (l .o) (t .o) = none → K (.pan (lacks t)) .nil) :
    CallAt PT right_list_perm [aces l, .int .i64 t] d .nil K := by
  refine right_list_perm.of rfl rfl ?_
  cbv
  refine CallAt.frameP [(10000, 3)] [aces l, .fn (.func right_list_perm_1) .nil (.cons (.ptr 10000 0) .nil)] (by kernel_rfl) rfl fun K1 hK1 => ?_
  cbv
  refine index_perm_c l t hl fun n hn => hK1 _ _ ?_
  cbv
  have hfind := ixP_find (fun a : Ace => decide (a.tag = t .o)) Ace.z (l .o)
  refine ⟨fun h1 => ?_, fun h1 => ?_⟩
  · have h1 : n .o < 0 := of_decide_eq_true h1
    cbv
    refine (hp ?_)
    rcases hfind with ⟨_, h2⟩ | ⟨k, h2, _, _⟩
    · unfold permS; rw [h2]; rfl
    · rw [hn, h2] at h1; have := zi_nonneg k; omega
  · have h1 : ¬ n .o < 0 := of_decide_eq_false h1
    rcases hfind with ⟨h2, _⟩ | ⟨k, h2, h3, h4⟩
    · exact (h1 (hn ▸ h2)).elim
    · rw [h2] at hn
      cbv
      refine ⟨fun _ => by rw [hn]; exact ⟨zi_nonneg _, zi_lt.2 h3⟩, ?_⟩
      refine (hr _ ?_)
      show _ = some ((l .o).getD (n .o).toNat Ace.z).perm
      rw [hn, zi_toNat]
      unfold permS
      rw [h4]
      rfl

theorem mask_c (l : Th (List Ace)) (hl : short (l .o)) {d : Nat} {K : ARes → BL → Prop} (hr : ∀ n : Th Int, maskS (l .o) = some (n .o) → K (.ret (.int .i64 n)) .nil) (hp : ∀ t, maskS (l .o) = none → K (.pan (lacks t)) .nil) :
    CallAt PT right_list_mask [aces l] d .nil K := by
  refine right_list_mask.of rfl rfl ?_
  cbv
  refine contains_mask_c l hl fun b hb => ?_
  cbv
  refine ⟨fun h1 => ?_, fun h1 => ?_⟩
  · have hm : maskS (l .o) = permS (l .o) 5 := by unfold maskS; rw [if_pos (of_decide_eq_true (hb.symm.trans h1))]
    cbv
    refine perm_c l (fun _ => 5) hl (fun n hn => ?_) fun hn => ?_
    · cbv
      exact (hr _ (hm.trans hn))
    · cbv
      exact (hp _ (hm.trans hn))
  · have hm : maskS (l .o) = some 7 := by unfold maskS; rw [if_neg (of_decide_eq_false (hb.symm.trans h1))]
    cbv
    exact (hr _ hm)

theorem from_c (m : Th Int) {d : Nat} {K : ARes → BL → Prop} (hr : ∀ l : Th (List Ace), l .o = fromMode (m .o) → K (.ret (aces l)) .nil) : CallAt PT acl_From [.int .i64 m] d .nil K := by
  refine CallAt.res ?_
  refine acl_From.of rfl rfl ?_
  cbv
  refine ⟨fun _ => by decide, fun _ => by decide, ?_⟩
  refine ⟨_, .ret (.sl ?_ ?_), (hr (fun _ => fromMode (m .o)) rfl)⟩
  · rfl
  · intro i hi
    have hi : i < 3 := hi
    match i, hi with
    | 0, _ => rfl
    | 1, _ => rfl
    | 2, _ => rfl

theorem of_c (m : Th Meta) {d : Nat} {K : ARes → BL → Prop} (hr : ∀ l : Th (List Ace), l .o = ofS (m .o) → K (.ret (aces l)) .nil) : CallAt PT right_of [Meta.av m] d .nil K := by
  refine right_of.of rfl rfl ?_
  cbv
  refine ⟨fun h1 => ?_, fun h1 => ?_⟩
  · have h1 : 0 < ((m .o).acl).length := zi_lt.1 (of_decide_eq_true h1)
    cbv
    refine (hr (fun _ => (m .o).acl) ?_)
    unfold ofS; rw [if_pos h1]
  · have h1 : ¬ 0 < ((m .o).acl).length := fun q => of_decide_eq_false h1 (zi_lt.2 q)
    cbv
    refine from_c (fun _ => (m .o).mode) fun l hl => ?_
    cbv
    refine (hr l ?_)
    unfold ofS; rw [if_neg h1, hl]

theorem index_int_c (l : Th (List Int)) (x : Th Int) (hl : short (l .o)) {d : Nat} {K : ARes → BL → Prop} (hr : ∀ n : Th Int, n .o = ixP (fun a => decide (x .o = a)) (l .o) → K (.ret (.int .i64 n)) .nil) : CallAt PT slices_Index_int_int [ints l, .int .i64 x] d .nil K := by
  refine slices_Index_int_int.of rfl rfl ?_
  cbv
  refine loop_rule (X := Nat) 1000 [0, 1, 7] [] (fun k => .cons 8 (.int .i64 fun _ => zi k) .nil) (fun _ => .nil) (fun k => k ≤ (l .o).length ∧ ∀ j, j < k → decide (x .o = (l .o).getD j 0) = false) (fun k => (l .o).length - k) 0 ?_ ⟨Nat.zero_le _, fun j hj => by omega⟩ ?_
  · cbv
    exact ⟨⟨.refl _, .refl _, .refl _, .int rfl, trivial⟩, ⟨rfl⟩⟩
  · intro k hk
    cbv
    refine ⟨fun h1 => ?_, fun h1 => ?_⟩
    · have h1 : k < (l .o).length := zi_lt.1 (of_decide_eq_true h1)
      cbv
      refine ⟨fun _ => ⟨zi_nonneg _, zi_lt.2 h1⟩, fun h2 => ?_, fun h2 => ?_⟩
      · cbv
        have h2 : decide (x .o = (l .o).getD (zi k).toNat 0) = true := h2
        rw [zi_toNat] at h2
        exact (hr _ (ixP_at _ 0 _ k h1 hk.2 h2).symm)
      · cbv
        have h2 : decide (x .o = (l .o).getD (zi k).toNat 0) = false := h2
        rw [zi_toNat] at h2
        refine ⟨k + 1, ⟨h1, ?_⟩, by omega, ?_⟩
        · intro j hj
          by_cases he : j = k
          · subst he; exact h2
          · exact hk.2 j (by omega)
        · cbv
          exact ⟨⟨.refl _, .refl _, .refl _, .int (zi_succ (by unfold short at hl; omega)), trivial⟩, ⟨rfl⟩⟩
    · have h1 : ¬ k < (l .o).length := fun q => of_decide_eq_false h1 (zi_lt.2 q)
      cbv
      exact (hr _ (ixP_no _ 0 _ fun j hj => hk.2 j (by omega)).symm)

theorem contains_int_c (l : Th (List Int)) (x : Th Int) (hl : short (l .o)) {d : Nat} {K : ARes → BL → Prop} (hr : ∀ b : Th Bool, b .o = decide (x .o ∈ l .o) → K (.ret (.bool b)) .nil) : CallAt PT slices_Contains_int_int [ints l, .int .i64 x] d .nil K := by
  refine slices_Contains_int_int.of rfl rfl ?_
  cbv
  refine index_int_c l x hl fun n hn => ?_
  cbv
  refine (hr _ ?_)
  show decide (0 ≤ n .o) = _
  rw [hn]
  rcases ixP_find (fun a => decide (x .o = a)) 0 (l .o) with ⟨h1, h2⟩ | ⟨k, h1, h2, h3⟩
  · rw [decide_eq_decide]
    refine ⟨fun h => by omega, fun h => ?_⟩
    have := List.find?_eq_none.1 h2 _ h
    simp at this
  · rw [h1, decide_eq_decide]
    refine ⟨fun _ => ?_, fun _ => zi_nonneg k⟩
    have h4 := List.find?_some h3
    have h5 := List.mem_of_find?_eq_some h3
    rw [← of_decide_eq_true h4] at h5
    exact h5

theorem in_c (c : Th Cred) (g : Th Int) (hl : short (c .o).groups) {d : Nat} {K : ARes → BL → Prop} (hr : ∀ b : Th Bool, b .o = inS (c .o) (g .o) → K (.ret (.bool b)) .nil) : CallAt PT right_In [Cred.av c, .int .i64 g] d .nil K := by
  refine CallAt.res ?_
  refine right_In.of rfl rfl ?_
  cbv
  refine ⟨fun h1 => ?_, fun h1 => ?_⟩
  · refine contains_int_c (fun _ => (c .o).groups) g hl fun b hb => ?_
    cbv
    refine ⟨_, .ret (.refl _), (hr b ?_)⟩
    unfold inS
    rw [hb, show decide ((c .o).gid = g .o) = false from h1]
    rfl
  · cbv
    refine ⟨_, .ret (.tt rfl), (hr (fun _ => true) ?_)⟩
    unfold inS
    rw [show decide ((c .o).gid = g .o) = true from h1]
    rfl

/-! ### who can what -/
def hasS (w p : Int) : Bool := decide (band p w = w)
/-- What the parts for named ones, and the group, say: a user's own part ends it. -/
def goS (m : Meta) (c : Cred) (w mask : Int) : List Ace → Bool → Bool → Bool ⊕ (Bool × Bool)
  | [], me, any => .inr (me, any)
  | a :: r, me, any =>
    if a.tag = 2 ∧ a.id = c.uid then .inl (hasS w (band a.perm mask))
    else if (a.tag = 3 ∧ inS c m.gid = true) ∨ (a.tag = 4 ∧ inS c a.id = true) then goS m c w mask r true (any || hasS w (band a.perm mask))
    else goS m c w mask r me any
def canS (m : Meta) (c : Cred) (w : Int) : Option Bool :=
  if m.uid = c.uid then (permS (ofS m) 1).map (hasS w)
  else (maskS (ofS m)).bind fun mask => match goS m c w mask (ofS m) false false with
    | .inl b => some b
    | .inr (true, any) => some any
    | .inr (false, _) => (permS (ofS m) 6).map (hasS w)

theorem ofS_short {m : Meta} (h : short m.acl) : short (ofS m) := by
  unfold ofS
  split
  · exact h
  · show 3 ≤ _; decide

theorem drop_cons {α : Type} (l : List α) (z : α) (k : Nat) (h : k < l.length) : l.drop k = l.getD k z :: l.drop (k + 1) := by
  rw [List.drop_eq_getElem_cons h, List.getD_eq_getElem?_getD, List.getElem?_eq_getElem h]
  rfl

/-! ### the look that may end early -/
/-- What the walk knows beside: the meta data, who asks, the right wanted. -/
def boxes (m : Th Meta) (c : Th Cred) (w : Th Int) : BL := .cons 10000 (.cells (Meta.ch m)) (.cons 10001 (.cells (Cred.ch c)) (.cons 10002 (.cells (.cons (.int .i64 w) .nil)) .nil))

/-- Who asks, by powers or by a list. -/
def CanS (m : Meta) (c : Cred) (w : Int) : Bool := !(decide (w < 0) || decide (7 < w)) && (decide (0 < band c.powers 2) || (canS m c w).getD false)
end Go.Proofs.Ytgjlkcdnlndlnaa

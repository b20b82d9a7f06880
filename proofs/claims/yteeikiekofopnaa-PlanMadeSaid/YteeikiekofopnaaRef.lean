/- The document's answers on rights, walked. -/
import Derived.Test.YteeikiekofopnaaLess
namespace Go.Proofs.Yteeikiekofopnaa
open Go Go.Proofs.Yteeikiekofopnaa.Sx F
set_option linter.unusedVariables false
set_option linter.unusedSimpArgs false

def permR (l : List Ace) (t : Int) : Int := (permS l t).getD (-1)
theorem permS_cons (a : Ace) (r : List Ace) (t : Int) : permS (a :: r) t = if a.tag = t then some a.perm else permS r t := by
  unfold permS
  by_cases h : a.tag = t <;> simp [h]
theorem perm9_c (l : Th (List Ace)) (t : Th Int) (hl : short (l .o)) {d : Nat} {K : ARes → BL → Prop} (hr : ∀ n : Th Int, n .o = permR (l .o) (t .o) → K (.ret (.int .i64 n)) .nil) : CallAt PT r9_Perm [aces l, .int .i64 t] d .nil K := by
  refine r9_Perm.of rfl rfl ?_
  cbv
  refine loop_rule (X := Nat) 1000 [0, 1] [] (fun k => .cons 5 (.int .i64 fun _ => zi k) .nil) (fun _ => .nil) (fun k => k ≤ (l .o).length ∧ permS (l .o) (t .o) = permS ((l .o).drop k) (t .o)) (fun k => (l .o).length - k) 0 ?_ ⟨Nat.zero_le _, rfl⟩ ?_
  · cbv
    (repeat' (first | exact True.intro | exact Same.refl _ | exact SameB.refl _ | exact ⟨rfl⟩ | exact Same.int rfl | exact Same.str rfl | exact Same.bool rfl | (refine Same.int ?_; simp only [List.length_append, List.length_cons, List.length_nil, zi]; omega) | (refine SameB.row' rfl fun i hi => ?_; first | rfl | exact absurd hi (Nat.not_lt_zero _)) | refine And.intro ?_ ?_))
  · rintro k ⟨hk, hp⟩
    have succ := zi_succ (k := k) (by unfold short at hl; omega)
    cbv
    ((try refine br_rev ?_); (first | refine br_dec (fun h1 => ?_) (fun h1 => ?_) | refine br_ndec (fun h1 => ?_) (fun h1 => ?_) | refine br_nbool (fun h1 => ?_) (fun h1 => ?_) | refine br_bool (fun h1 => ?_) (fun h1 => ?_)); all_goals (try dsimp only at h1); all_goals (try with_reducible replace h1 := zi_lt.1 h1); all_goals (try with_reducible replace h1 := not_zlt h1)) <;> cbv
    · rw [drop_cons _ Ace.z _ h1, permS_cons] at hp
      refine safe ⟨zi_nonneg _, zi_lt.2 h1⟩ ?_
      have hz := zi_toNat k
      ((try refine br_rev ?_); (first | refine br_dec (fun h2 => ?_) (fun h2 => ?_) | refine br_ndec (fun h2 => ?_) (fun h2 => ?_) | refine br_nbool (fun h2 => ?_) (fun h2 => ?_) | refine br_bool (fun h2 => ?_) (fun h2 => ?_)); all_goals (try dsimp only at h2); all_goals (try with_reducible replace h2 := zi_lt.1 h2); all_goals (try with_reducible replace h2 := not_zlt h2)) <;> cbv
      · rw [hz] at h2
        refine safe ⟨zi_nonneg _, zi_lt.2 h1⟩ ?_
        exact hr _ (by unfold permR; rw [hp, if_pos h2]; show ((l .o).getD (zi k).toNat Ace.z).perm = _; rw [hz]; rfl)
      · rw [hz] at h2
        rw [if_neg h2] at hp
        refine ⟨k + 1, ⟨h1, hp⟩, by omega, ?_⟩
        cbv
        (repeat' (first | exact True.intro | exact Same.refl _ | exact SameB.refl _ | exact ⟨rfl⟩ | exact Same.int rfl | exact Same.str rfl | exact Same.bool rfl | (refine Same.int ?_; simp only [List.length_append, List.length_cons, List.length_nil, zi]; omega) | (refine SameB.row' rfl fun i hi => ?_; first | rfl | exact absurd hi (Nat.not_lt_zero _)) | refine And.intro ?_ ?_))
        all_goals exact Same.int succ
    · rw [List.drop_eq_nil_of_le (by omega)] at hp
      exact hr (fun _ => -1) (by unfold permR; rw [hp]; rfl)
theorem in9_c (c : Th Cred) (g : Th Int) (hl : short (c .o).groups) {d : Nat} {K : ARes → BL → Prop} (hr : ∀ b : Th Bool, b .o = inS (c .o) (g .o) → K (.ret (.bool b)) .nil) : CallAt PT r18_In [Cred.av c, .int .i64 g] d .nil K := by
  refine r18_In.of rfl rfl ?_
  cbv
  refine loop_rule (X := Nat × Bool) 1000 [1, 2] [2] (fun x => .cons 5 (.bool fun _ => x.2) (.cons 6 (.int .i64 fun _ => zi x.1) .nil)) (fun _ => .nil) (fun x => x.1 ≤ (c .o).groups.length ∧ x.2 = (decide ((c .o).gid = g .o) || decide (g .o ∈ (c .o).groups.take x.1))) (fun x => (c .o).groups.length - x.1) (0, decide ((c .o).gid = g .o)) ?_ ⟨Nat.zero_le _, by simp⟩ ?_
  · cbv
    (repeat' (first | exact True.intro | exact Same.refl _ | exact SameB.refl _ | exact ⟨rfl⟩ | exact Same.int rfl | exact Same.str rfl | exact Same.bool rfl | (refine Same.int ?_; simp only [List.length_append, List.length_cons, List.length_nil, zi]; omega) | (refine SameB.row' rfl fun i hi => ?_; first | rfl | exact absurd hi (Nat.not_lt_zero _)) | refine And.intro ?_ ?_))
  · rintro ⟨k, b⟩ ⟨hk, hb⟩
    dsimp only at hk hb
    have succ := zi_succ (k := k) (by unfold short at hl; omega)
    have hz := zi_toNat k
    cbv
    ((try refine br_rev ?_); (first | refine br_dec (fun h1 => ?_) (fun h1 => ?_) | refine br_ndec (fun h1 => ?_) (fun h1 => ?_) | refine br_nbool (fun h1 => ?_) (fun h1 => ?_) | refine br_bool (fun h1 => ?_) (fun h1 => ?_)); all_goals (try dsimp only at h1); all_goals (try with_reducible replace h1 := zi_lt.1 h1); all_goals (try with_reducible replace h1 := not_zlt h1)) <;> cbv
    · have hstep : (decide ((c .o).gid = g .o) || decide (g .o ∈ (c .o).groups.take (k + 1))) = (b || decide ((c .o).groups.getD k 0 = g .o)) := by
        rw [hb, List.take_add_one, List.getD_eq_getElem?_getD, List.getElem?_eq_getElem h1]
        simp only [List.mem_append, Option.toList_some, List.mem_singleton, Option.getD_some, Bool.or_assoc, Bool.decide_or]
        congr 2
        exact decide_eq_decide.2 eq_comm
      refine br_rev (br_bool (fun h2 => ?_) (fun h2 => ?_))
      · replace h2 : b = true := h2
        cbv
        refine ⟨(k + 1, true), ⟨h1, by show true = _; rw [hstep, h2]; rfl⟩, by show _ - (k + 1) < _ - k; omega, ?_⟩
        cbv
        (repeat' (first | exact True.intro | exact Same.refl _ | exact SameB.refl _ | exact ⟨rfl⟩ | exact Same.int rfl | exact Same.str rfl | exact Same.bool rfl | (refine Same.int ?_; simp only [List.length_append, List.length_cons, List.length_nil, zi]; omega) | (refine SameB.row' rfl fun i hi => ?_; first | rfl | exact absurd hi (Nat.not_lt_zero _)) | refine And.intro ?_ ?_))
        all_goals first | exact Same.int succ | exact Same.tt rfl
      · replace h2 : b = false := h2
        cbv
        refine safe ⟨zi_nonneg _, zi_lt.2 h1⟩ ?_
        refine ⟨(k + 1, decide ((c .o).groups.getD k 0 = g .o)), ⟨h1, by show decide _ = _; rw [hstep, h2]; rfl⟩, by show _ - (k + 1) < _ - k; omega, ?_⟩
        cbv
        (repeat' (first | exact True.intro | exact Same.refl _ | exact SameB.refl _ | exact ⟨rfl⟩ | exact Same.int rfl | exact Same.str rfl | exact Same.bool rfl | (refine Same.int ?_; simp only [List.length_append, List.length_cons, List.length_nil, zi]; omega) | (refine SameB.row' rfl fun i hi => ?_; first | rfl | exact absurd hi (Nat.not_lt_zero _)) | refine And.intro ?_ ?_))
        all_goals first | exact Same.int succ | exact Same.bool (by show decide ((c .o).groups.getD (zi k).toNat 0 = g .o) = decide ((c .o).groups.getD k 0 = g .o); rw [hz])
    · exact hr _ (by show b = _; rw [hb, List.take_of_length_le (by omega)]; rfl)
theorem has9_c (c : Th Cred) (p : Th Int) {d : Nat} {K : ARes → BL → Prop} (hr : ∀ b : Th Bool, b .o = !decide (band (c .o).powers (p .o) = 0) → K (.ret (.bool b)) .nil) : CallAt PT r18_has [Cred.av c, .int .i64 p] d .nil K := by
  refine r18_has.of rfl rfl ?_
  cbv
  exact hr _ rfl
theorem owner9_c (m : Th Meta) (c : Th Cred) {d : Nat} {K : ARes → BL → Prop} (hr : ∀ b : Th Bool, b .o = (decide ((m .o).uid = (c .o).uid) || !decide (band (c .o).powers 4 = 0)) → K (.ret (.bool b)) .nil) : CallAt PT r18_Owner [Meta.av m, Cred.av c] d .nil K := by
  refine CallAt.res ?_
  refine r18_Owner.of rfl rfl ?_
  cbv
  ((try refine br_rev ?_); (first | refine br_dec (fun h1 => ?_) (fun h1 => ?_) | refine br_ndec (fun h1 => ?_) (fun h1 => ?_) | refine br_nbool (fun h1 => ?_) (fun h1 => ?_) | refine br_bool (fun h1 => ?_) (fun h1 => ?_)); all_goals (try dsimp only at h1); all_goals (try with_reducible replace h1 := zi_lt.1 h1); all_goals (try with_reducible replace h1 := not_zlt h1))
  · cbv
    exact ⟨_, .ret (.tt rfl), hr (fun _ => true) (by simp [h1])⟩
  · cbv
    refine has9_c c (fun _ => 4) fun b hb => ?_
    cbv
    exact ⟨_, .ret (.refl _), hr _ (by rw [hb]; simp [h1])⟩
def mode9 (m : Int) : List Ace := [⟨1, 0, band (m.fdiv (2 ^ 6)) 7⟩, ⟨3, 0, band (m.fdiv (2 ^ 3)) 7⟩, ⟨6, 0, band m 7⟩]
theorem from9_c (m : Th Int) {d : Nat} {K : ARes → BL → Prop} (hr : ∀ l : Th (List Ace), l .o = mode9 (m .o) → K (.ret (aces l)) .nil) : CallAt PT r9_FromMode [.int .i64 m] d .nil K := by
  refine CallAt.res ?_
  refine r9_FromMode.of rfl rfl ?_
  cbv
  refine ⟨fun _ => by decide, fun _ => by decide, ?_⟩
  refine ⟨_, .ret (.sl ?_ ?_), (hr (fun _ => mode9 (m .o)) rfl)⟩
  · rfl
  · intro i hi
    have hi : i < 3 := hi
    match i, hi with
    | 0, _ => rfl
    | 1, _ => rfl
    | 2, _ => rfl
def of9 (m : Meta) : List Ace := if 0 < m.acl.length then m.acl else mode9 m.mode
theorem list9_c (m : Th Meta) {d : Nat} {K : ARes → BL → Prop} (hr : ∀ l : Th (List Ace), l .o = of9 (m .o) → K (.ret (aces l)) .nil) : CallAt PT r18_list [Meta.av m] d .nil K := by
  refine r18_list.of rfl rfl ?_
  cbv
  refine ⟨fun h1 => ?_, fun h1 => ?_⟩
  · have h1 : 0 < ((m .o).acl).length := zi_lt.1 (of_decide_eq_true h1)
    cbv
    refine (hr (fun _ => (m .o).acl) ?_)
    unfold of9; rw [if_pos h1]
  · have h1 : ¬ 0 < ((m .o).acl).length := fun q => of_decide_eq_false h1 (zi_lt.2 q)
    cbv
    refine from9_c (fun _ => (m .o).mode) fun l hl => ?_
    cbv
    refine (hr l ?_)
    unfold of9; rw [if_neg h1, hl]

def user9 (c : Cred) : List Ace → Option Int
  | [] => none
  | a :: r => if a.tag = 2 ∧ a.id = c.uid then some a.perm else user9 c r
def grp9 (m : Meta) (c : Cred) (w mask : Int) (fin : Bool) : List Ace → Bool → Bool
  | [], s => !s && fin
  | a :: r, s =>
    if (a.tag = 3 ∧ inS c m.gid = true) ∨ (a.tag = 4 ∧ inS c a.id = true) then
      if hasS w (band a.perm mask) = true then true else grp9 m c w mask fin r true
    else grp9 m c w mask fin r s
def mask9 (l : List Ace) : Int := if permR l 5 < 0 then 7 else permR l 5
def Can9 (m : Meta) (c : Cred) (w : Int) : Bool :=
  if w < 0 ∨ 7 < w then false else if ¬ band c.powers 2 = 0 then true
  else if m.uid = c.uid then hasS w (permR (of9 m) 1)
  else match user9 c (of9 m) with
    | some p => hasS w (band p (mask9 (of9 m)))
    | none => grp9 m c w (mask9 (of9 m)) (hasS w (permR (of9 m) 6)) (of9 m) false
theorem of9_short {m : Meta} (h : short m.acl) : short (of9 m) := by
  unfold of9
  split
  · exact h
  · show 3 ≤ _; decide

theorem Can9_c (m : Th Meta) (c : Th Cred) (w : Th Int) (hm : short (m .o).acl) (hc : short (c .o).groups) {d : Nat} {K : ARes → BL → Prop} (hr : ∀ b : Th Bool, b .o = Can9 (m .o) (c .o) (w .o) → K (.ret (.bool b)) .nil) :
    CallAt PT r18_Can [Meta.av m, Cred.av c, .int .i64 w] d .nil K := by
  refine CallAt.res ?_
  refine r18_Can.of rfl rfl ?_
  cbv
  refine br_rev (br_dec (fun h1 => ?_) (fun h1 => ?_))
  · cbv
    exact ⟨_, .ret (.ff rfl), hr (fun _ => false) (by unfold Can9; rw [if_pos (.inl h1)])⟩
  cbv
  refine br_dec (fun h2 => ?_) (fun h2 => ?_)
  · cbv
    exact ⟨_, .ret (.ff rfl), hr (fun _ => false) (by unfold Can9; rw [if_pos (.inr h2)])⟩
  have hw : ¬ (w .o < 0 ∨ 7 < w .o) := fun q => q.elim h1 h2
  cbv
  refine has9_c c (fun _ => 2) fun b1 hb1 => ?_
  cbv
  refine br_bool (fun h3 => ?_) (fun h3 => ?_)
  · cbv
    exact ⟨_, .ret (.tt rfl), hr (fun _ => true) (by unfold Can9; rw [if_neg hw, if_pos (by rw [hb1] at h3; simpa using h3)])⟩
  have hp : band (c .o).powers 2 = 0 := by
    have h3 : b1 .o = false := h3
    rw [hb1] at h3
    simpa using h3
  cbv
  refine list9_c m fun l hl => ?_
  have hls : short (l .o) := by rw [hl]; exact of9_short hm
  cbv
  refine br_dec (fun h4 => ?_) (fun h4 => ?_)
  · cbv
    refine perm9_c l (fun _ => 1) hls fun n hn => ?_
    cbv
    exact ⟨_, .ret (.refl _), hr _ (by unfold Can9; rw [if_neg hw, if_neg (by simpa using hp), if_pos h4, ← hl, ← hn]; rfl)⟩
  cbv
  refine perm9_c l (fun _ => 5) hls fun n hn => ?_
  cbv
  have key : ∀ (mk : Th Int), mk .o = mask9 (l .o) → Can9 (m .o) (c .o) (w .o) = match user9 (c .o) (l .o) with
    | some p => hasS (w .o) (band p (mk .o))
    | none => grp9 (m .o) (c .o) (w .o) (mk .o) (hasS (w .o) (permR (l .o) 6)) (l .o) false := by
    intro mk hmk
    unfold Can9
    rw [if_neg hw, if_neg (by simpa using hp), if_neg h4, ← hl, hmk]
  refine br_dec (fun h5 => ?_) (fun h5 => ?_)
  · skip
    have hcan := key (fun _ => 7 : Th Int) (by unfold mask9; rw [← hn, if_pos h5])
    cbv
    refine loop_rule (X := Nat) 1000 [2, 3, 4, 7, 8] [3, 4] (fun k => .cons 9 (.int .i64 fun _ => zi k) .nil) (fun _ => .nil) (fun k => k ≤ (l .o).length ∧ user9 (c .o) (l .o) = user9 (c .o) ((l .o).drop k)) (fun k => (l .o).length - k) 0 ?_ ⟨Nat.zero_le _, rfl⟩ ?_
    · cbv
      (repeat' (first | exact True.intro | exact Same.refl _ | exact SameB.refl _ | exact ⟨rfl⟩ | exact Same.int rfl | exact Same.str rfl | exact Same.bool rfl | (refine Same.int ?_; simp only [List.length_append, List.length_cons, List.length_nil, zi]; omega) | (refine SameB.row' rfl fun i hi => ?_; first | rfl | exact absurd hi (Nat.not_lt_zero _)) | refine And.intro ?_ ?_))
    · rintro k ⟨hk, hu⟩
      have succ := zi_succ (k := k) (by unfold short at hls; omega)
      have hz := zi_toNat k
      cbv
      ((try refine br_rev ?_); (first | refine br_dec (fun h6 => ?_) (fun h6 => ?_) | refine br_ndec (fun h6 => ?_) (fun h6 => ?_) | refine br_nbool (fun h6 => ?_) (fun h6 => ?_) | refine br_bool (fun h6 => ?_) (fun h6 => ?_)); all_goals (try dsimp only at h6); all_goals (try with_reducible replace h6 := zi_lt.1 h6); all_goals (try with_reducible replace h6 := not_zlt h6)) <;> cbv
      · rw [drop_cons _ Ace.z _ h6, user9] at hu
        have hi : (0 : Int) ≤ zi k ∧ zi k < zi (l .o).length := ⟨zi_nonneg _, zi_lt.2 h6⟩
        refine safe hi ?_
        ((try refine br_rev ?_); (first | refine br_dec (fun h7 => ?_) (fun h7 => ?_) | refine br_ndec (fun h7 => ?_) (fun h7 => ?_) | refine br_nbool (fun h7 => ?_) (fun h7 => ?_) | refine br_bool (fun h7 => ?_) (fun h7 => ?_)); all_goals (try dsimp only at h7); all_goals (try with_reducible replace h7 := zi_lt.1 h7); all_goals (try with_reducible replace h7 := not_zlt h7))
        · rw [hz] at h7
          cbv
          refine safe hi ?_
          ((try refine br_rev ?_); (first | refine br_dec (fun h8 => ?_) (fun h8 => ?_) | refine br_ndec (fun h8 => ?_) (fun h8 => ?_) | refine br_nbool (fun h8 => ?_) (fun h8 => ?_) | refine br_bool (fun h8 => ?_) (fun h8 => ?_)); all_goals (try dsimp only at h8); all_goals (try with_reducible replace h8 := zi_lt.1 h8); all_goals (try with_reducible replace h8 := not_zlt h8))
          · rw [hz] at h8
            rw [if_pos ⟨h7, h8⟩] at hu
            rw [hu] at hcan
            cbv
            refine safe hi ?_
            exact ⟨_, .ret (.refl _), hr _ (by rw [hcan]; show hasS (w .o) (band ((l .o).getD (zi k).toNat Ace.z).perm ((fun _ => 7 : Th Int) .o)) = _; rw [hz])⟩
          · rw [hz] at h8
            rw [if_neg (fun q => h8 q.2)] at hu
            cbv
            refine ⟨k + 1, ⟨h6, hu⟩, by omega, ?_⟩
            cbv
            (repeat' (first | exact True.intro | exact Same.refl _ | exact SameB.refl _ | exact ⟨rfl⟩ | exact Same.int rfl | exact Same.str rfl | exact Same.bool rfl | (refine Same.int ?_; simp only [List.length_append, List.length_cons, List.length_nil, zi]; omega) | (refine SameB.row' rfl fun i hi => ?_; first | rfl | exact absurd hi (Nat.not_lt_zero _)) | refine And.intro ?_ ?_))
            all_goals exact Same.int succ
        · rw [hz] at h7
          rw [if_neg (fun q => h7 q.1)] at hu
          cbv
          refine ⟨k + 1, ⟨h6, hu⟩, by omega, ?_⟩
          cbv
          (repeat' (first | exact True.intro | exact Same.refl _ | exact SameB.refl _ | exact ⟨rfl⟩ | exact Same.int rfl | exact Same.str rfl | exact Same.bool rfl | (refine Same.int ?_; simp only [List.length_append, List.length_cons, List.length_nil, zi]; omega) | (refine SameB.row' rfl fun i hi => ?_; first | rfl | exact absurd hi (Nat.not_lt_zero _)) | refine And.intro ?_ ?_))
          all_goals exact Same.int succ
      · rw [List.drop_eq_nil_of_le (by omega)] at hu
        rw [hu] at hcan
        clear hk succ hz h6 hu
        dsimp only [user9] at hcan
        refine loop_rule (X := Nat × Bool) 1000 [2, 3, 4, 7, 8] [3, 4] (fun x => .cons 10 (.bool fun _ => x.2) (.cons 11 (.int .i64 fun _ => zi x.1) .nil)) (fun _ => .nil)
          (fun x => x.1 ≤ (l .o).length ∧ grp9 (m .o) (c .o) (w .o) ((fun _ => 7 : Th Int) .o) (hasS (w .o) (permR (l .o) 6)) (l .o) false = grp9 (m .o) (c .o) (w .o) ((fun _ => 7 : Th Int) .o) (hasS (w .o) (permR (l .o) 6)) ((l .o).drop x.1) x.2) (fun x => (l .o).length - x.1) (0, false) ?_ ⟨Nat.zero_le _, rfl⟩ ?_
        · cbv
          (repeat' (first | exact True.intro | exact Same.refl _ | exact SameB.refl _ | exact ⟨rfl⟩ | exact Same.int rfl | exact Same.str rfl | exact Same.bool rfl | (refine Same.int ?_; simp only [List.length_append, List.length_cons, List.length_nil, zi]; omega) | (refine SameB.row' rfl fun i hi => ?_; first | rfl | exact absurd hi (Nat.not_lt_zero _)) | refine And.intro ?_ ?_))
          all_goals exact ff_bool
        · rintro ⟨k, s⟩ ⟨hk, hgr⟩
          dsimp only at hk hgr
          have succ := zi_succ (k := k) (by unfold short at hls; omega)
          cbv
          ((try refine br_rev ?_); (first | refine br_dec (fun h6 => ?_) (fun h6 => ?_) | refine br_ndec (fun h6 => ?_) (fun h6 => ?_) | refine br_nbool (fun h6 => ?_) (fun h6 => ?_) | refine br_bool (fun h6 => ?_) (fun h6 => ?_)); all_goals (try dsimp only at h6); all_goals (try with_reducible replace h6 := zi_lt.1 h6); all_goals (try with_reducible replace h6 := not_zlt h6)) <;> cbv
          · rw [drop_cons _ Ace.z _ h6, grp9] at hgr
            have hi : (0 : Int) ≤ zi k ∧ zi k < zi (l .o).length := ⟨zi_nonneg _, zi_lt.2 h6⟩
            have next : ∀ s', grp9 (m .o) (c .o) (w .o) ((fun _ => 7 : Th Int) .o) (hasS (w .o) (permR (l .o) 6)) (l .o) false = grp9 (m .o) (c .o) (w .o) ((fun _ => 7 : Th Int) .o) (hasS (w .o) (permR (l .o) 6)) ((l .o).drop (k + 1)) s' → k + 1 ≤ (l .o).length ∧ grp9 (m .o) (c .o) (w .o) ((fun _ => 7 : Th Int) .o) (hasS (w .o) (permR (l .o) 6)) (l .o) false = grp9 (m .o) (c .o) (w .o) ((fun _ => 7 : Th Int) .o) (hasS (w .o) (permR (l .o) 6)) ((l .o).drop (k + 1)) s' := fun s' q => ⟨h6, q⟩
            have less : (l .o).length - (k + 1) < (l .o).length - k := by omega
            refine safe hi ?_
            ((try refine br_rev ?_); (first | refine br_dec (fun h7 => ?_) (fun h7 => ?_) | refine br_ndec (fun h7 => ?_) (fun h7 => ?_) | refine br_nbool (fun h7 => ?_) (fun h7 => ?_) | refine br_bool (fun h7 => ?_) (fun h7 => ?_)); all_goals (try dsimp only at h7); all_goals (try with_reducible replace h7 := zi_lt.1 h7); all_goals (try with_reducible replace h7 := not_zlt h7))
            · replace h7 : ((l .o).getD k Ace.z).tag = 3 := by simpa only [zi_toNat] using h7
              cbv
              refine in9_c c (fun _ => (m .o).gid) hc fun b2 hb2 => ?_
              cbv
              ((try refine br_rev ?_); (first | refine br_dec (fun h8 => ?_) (fun h8 => ?_) | refine br_ndec (fun h8 => ?_) (fun h8 => ?_) | refine br_nbool (fun h8 => ?_) (fun h8 => ?_) | refine br_bool (fun h8 => ?_) (fun h8 => ?_)); all_goals (try dsimp only at h8); all_goals (try with_reducible replace h8 := zi_lt.1 h8); all_goals (try with_reducible replace h8 := not_zlt h8))
              · rw [if_pos (.inl ⟨h7, hb2.symm.trans h8⟩)] at hgr
                cbv
                refine safe hi ?_
                ((try refine br_rev ?_); (first | refine br_dec (fun hA => ?_) (fun hA => ?_) | refine br_ndec (fun hA => ?_) (fun hA => ?_) | refine br_nbool (fun hA => ?_) (fun hA => ?_) | refine br_bool (fun hA => ?_) (fun hA => ?_)); all_goals (try dsimp only at hA); all_goals (try with_reducible replace hA := zi_lt.1 hA); all_goals (try with_reducible replace hA := not_zlt hA))
                · have hA' : hasS (w .o) (band ((l .o).getD k Ace.z).perm ((fun _ => 7 : Th Int) .o)) = true := decide_eq_true (by simpa only [zi_toNat, band] using hA)
                  rw [if_pos hA'] at hgr
                  cbv
                  exact ⟨_, .ret (.tt rfl), hr (fun _ => true) (by rw [hcan]; exact hgr.symm)⟩
                · have hA' : ¬ hasS (w .o) (band ((l .o).getD k Ace.z).perm ((fun _ => 7 : Th Int) .o)) = true := fun q => hA (by simpa only [zi_toNat, band] using of_decide_eq_true q)
                  rw [if_neg hA'] at hgr
                  cbv
                  refine ⟨(k + 1, true), next true hgr, less, ?_⟩
                  cbv
                  (repeat' (first | exact True.intro | exact Same.refl _ | exact SameB.refl _ | exact ⟨rfl⟩ | exact Same.int rfl | exact Same.str rfl | exact Same.bool rfl | (refine Same.int ?_; simp only [List.length_append, List.length_cons, List.length_nil, zi]; omega) | (refine SameB.row' rfl fun i hi => ?_; first | rfl | exact absurd hi (Nat.not_lt_zero _)) | refine And.intro ?_ ?_))
                  all_goals first | exact Same.int succ | exact Same.tt rfl
              · have h8' : ¬ ((((l .o).getD k Ace.z).tag = 3 ∧ inS (c .o) (m .o).gid = true) ∨ (((l .o).getD k Ace.z).tag = 4 ∧ inS (c .o) ((l .o).getD k Ace.z).id = true)) := by
                  have h8 : inS (c .o) (m .o).gid = false := hb2.symm.trans h8
                  rintro (q | q)
                  · rw [h8] at q; simp at q
                  · omega
                rw [if_neg h8'] at hgr
                cbv
                refine safe hi ?_
                ((try refine br_rev ?_); (first | refine br_dec (fun h9 => ?_) (fun h9 => ?_) | refine br_ndec (fun h9 => ?_) (fun h9 => ?_) | refine br_nbool (fun h9 => ?_) (fun h9 => ?_) | refine br_bool (fun h9 => ?_) (fun h9 => ?_)); all_goals (try dsimp only at h9); all_goals (try with_reducible replace h9 := zi_lt.1 h9); all_goals (try with_reducible replace h9 := not_zlt h9))
                · replace h9 : ((l .o).getD k Ace.z).tag = 4 := by simpa only [zi_toNat] using h9
                  omega
                cbv
                refine ⟨(k + 1, s), next s hgr, less, ?_⟩
                cbv
                (repeat' (first | exact True.intro | exact Same.refl _ | exact SameB.refl _ | exact ⟨rfl⟩ | exact Same.int rfl | exact Same.str rfl | exact Same.bool rfl | (refine Same.int ?_; simp only [List.length_append, List.length_cons, List.length_nil, zi]; omega) | (refine SameB.row' rfl fun i hi => ?_; first | rfl | exact absurd hi (Nat.not_lt_zero _)) | refine And.intro ?_ ?_))
                all_goals exact Same.int succ
            · replace h7 : ¬ ((l .o).getD k Ace.z).tag = 3 := by simpa only [zi_toNat] using h7
              cbv
              refine safe hi ?_
              ((try refine br_rev ?_); (first | refine br_dec (fun h9 => ?_) (fun h9 => ?_) | refine br_ndec (fun h9 => ?_) (fun h9 => ?_) | refine br_nbool (fun h9 => ?_) (fun h9 => ?_) | refine br_bool (fun h9 => ?_) (fun h9 => ?_)); all_goals (try dsimp only at h9); all_goals (try with_reducible replace h9 := zi_lt.1 h9); all_goals (try with_reducible replace h9 := not_zlt h9))
              · replace h9 : ((l .o).getD k Ace.z).tag = 4 := by simpa only [zi_toNat] using h9
                cbv
                refine safe hi ?_
                refine in9_c c (fun _ => ((l .o).getD (zi k).toNat Ace.z).id) hc fun b2 hb2 => ?_
                have hb2 : b2 .o = inS (c .o) ((l .o).getD k Ace.z).id := by rw [hb2]; show inS (c .o) ((l .o).getD (zi k).toNat Ace.z).id = _; rw [zi_toNat]
                cbv
                ((try refine br_rev ?_); (first | refine br_dec (fun h8 => ?_) (fun h8 => ?_) | refine br_ndec (fun h8 => ?_) (fun h8 => ?_) | refine br_nbool (fun h8 => ?_) (fun h8 => ?_) | refine br_bool (fun h8 => ?_) (fun h8 => ?_)); all_goals (try dsimp only at h8); all_goals (try with_reducible replace h8 := zi_lt.1 h8); all_goals (try with_reducible replace h8 := not_zlt h8))
                · rw [if_pos (.inr ⟨h9, hb2.symm.trans h8⟩)] at hgr
                  cbv
                  refine safe hi ?_
                  ((try refine br_rev ?_); (first | refine br_dec (fun hA => ?_) (fun hA => ?_) | refine br_ndec (fun hA => ?_) (fun hA => ?_) | refine br_nbool (fun hA => ?_) (fun hA => ?_) | refine br_bool (fun hA => ?_) (fun hA => ?_)); all_goals (try dsimp only at hA); all_goals (try with_reducible replace hA := zi_lt.1 hA); all_goals (try with_reducible replace hA := not_zlt hA))
                  · have hA' : hasS (w .o) (band ((l .o).getD k Ace.z).perm ((fun _ => 7 : Th Int) .o)) = true := decide_eq_true (by simpa only [zi_toNat, band] using hA)
                    rw [if_pos hA'] at hgr
                    cbv
                    exact ⟨_, .ret (.tt rfl), hr (fun _ => true) (by rw [hcan]; exact hgr.symm)⟩
                  · have hA' : ¬ hasS (w .o) (band ((l .o).getD k Ace.z).perm ((fun _ => 7 : Th Int) .o)) = true := fun q => hA (by simpa only [zi_toNat, band] using of_decide_eq_true q)
                    rw [if_neg hA'] at hgr
                    cbv
                    refine ⟨(k + 1, true), next true hgr, less, ?_⟩
                    cbv
                    (repeat' (first | exact True.intro | exact Same.refl _ | exact SameB.refl _ | exact ⟨rfl⟩ | exact Same.int rfl | exact Same.str rfl | exact Same.bool rfl | (refine Same.int ?_; simp only [List.length_append, List.length_cons, List.length_nil, zi]; omega) | (refine SameB.row' rfl fun i hi => ?_; first | rfl | exact absurd hi (Nat.not_lt_zero _)) | refine And.intro ?_ ?_))
                    all_goals first | exact Same.int succ | exact Same.tt rfl
                · have h8' : ¬ ((((l .o).getD k Ace.z).tag = 3 ∧ inS (c .o) (m .o).gid = true) ∨ (((l .o).getD k Ace.z).tag = 4 ∧ inS (c .o) ((l .o).getD k Ace.z).id = true)) := by
                    have h8 : inS (c .o) ((l .o).getD k Ace.z).id = false := hb2.symm.trans h8
                    rintro (q | q)
                    · omega
                    · rw [h8] at q; simp at q
                  rw [if_neg h8'] at hgr
                  cbv
                  refine ⟨(k + 1, s), next s hgr, less, ?_⟩
                  cbv
                  (repeat' (first | exact True.intro | exact Same.refl _ | exact SameB.refl _ | exact ⟨rfl⟩ | exact Same.int rfl | exact Same.str rfl | exact Same.bool rfl | (refine Same.int ?_; simp only [List.length_append, List.length_cons, List.length_nil, zi]; omega) | (refine SameB.row' rfl fun i hi => ?_; first | rfl | exact absurd hi (Nat.not_lt_zero _)) | refine And.intro ?_ ?_))
                  all_goals exact Same.int succ
              · replace h9 : ¬ ((l .o).getD k Ace.z).tag = 4 := by simpa only [zi_toNat] using h9
                rw [if_neg (fun q => q.elim (fun q => h7 q.1) fun q => h9 q.1)] at hgr
                cbv
                refine ⟨(k + 1, s), next s hgr, less, ?_⟩
                cbv
                (repeat' (first | exact True.intro | exact Same.refl _ | exact SameB.refl _ | exact ⟨rfl⟩ | exact Same.int rfl | exact Same.str rfl | exact Same.bool rfl | (refine Same.int ?_; simp only [List.length_append, List.length_cons, List.length_nil, zi]; omega) | (refine SameB.row' rfl fun i hi => ?_; first | rfl | exact absurd hi (Nat.not_lt_zero _)) | refine And.intro ?_ ?_))
                all_goals exact Same.int succ
          · rw [List.drop_eq_nil_of_le (by omega), grp9] at hgr
            refine br_nbool (fun h7 => ?_) (fun h7 => ?_)
            · replace h7 : s = false := h7
              cbv
              refine perm9_c l (fun _ => 6) hls fun q hq => ?_
              cbv
              exact ⟨_, .ret (.refl _), hr _ (by rw [hcan, hgr, h7, ← hq]; rfl)⟩
            · replace h7 : s = true := h7
              cbv
              exact ⟨_, .ret (.ff rfl), hr (fun _ => false) (by rw [hcan, hgr, h7]; rfl)⟩
  · skip
    have hcan := key n (by unfold mask9; rw [← hn, if_neg h5])
    cbv
    refine loop_rule (X := Nat) 1000 [2, 3, 4, 7, 8] [3, 4] (fun k => .cons 9 (.int .i64 fun _ => zi k) .nil) (fun _ => .nil) (fun k => k ≤ (l .o).length ∧ user9 (c .o) (l .o) = user9 (c .o) ((l .o).drop k)) (fun k => (l .o).length - k) 0 ?_ ⟨Nat.zero_le _, rfl⟩ ?_
    · cbv
      (repeat' (first | exact True.intro | exact Same.refl _ | exact SameB.refl _ | exact ⟨rfl⟩ | exact Same.int rfl | exact Same.str rfl | exact Same.bool rfl | (refine Same.int ?_; simp only [List.length_append, List.length_cons, List.length_nil, zi]; omega) | (refine SameB.row' rfl fun i hi => ?_; first | rfl | exact absurd hi (Nat.not_lt_zero _)) | refine And.intro ?_ ?_))
    · rintro k ⟨hk, hu⟩
      have succ := zi_succ (k := k) (by unfold short at hls; omega)
      have hz := zi_toNat k
      cbv
      ((try refine br_rev ?_); (first | refine br_dec (fun h6 => ?_) (fun h6 => ?_) | refine br_ndec (fun h6 => ?_) (fun h6 => ?_) | refine br_nbool (fun h6 => ?_) (fun h6 => ?_) | refine br_bool (fun h6 => ?_) (fun h6 => ?_)); all_goals (try dsimp only at h6); all_goals (try with_reducible replace h6 := zi_lt.1 h6); all_goals (try with_reducible replace h6 := not_zlt h6)) <;> cbv
      · rw [drop_cons _ Ace.z _ h6, user9] at hu
        have hi : (0 : Int) ≤ zi k ∧ zi k < zi (l .o).length := ⟨zi_nonneg _, zi_lt.2 h6⟩
        refine safe hi ?_
        ((try refine br_rev ?_); (first | refine br_dec (fun h7 => ?_) (fun h7 => ?_) | refine br_ndec (fun h7 => ?_) (fun h7 => ?_) | refine br_nbool (fun h7 => ?_) (fun h7 => ?_) | refine br_bool (fun h7 => ?_) (fun h7 => ?_)); all_goals (try dsimp only at h7); all_goals (try with_reducible replace h7 := zi_lt.1 h7); all_goals (try with_reducible replace h7 := not_zlt h7))
        · rw [hz] at h7
          cbv
          refine safe hi ?_
          ((try refine br_rev ?_); (first | refine br_dec (fun h8 => ?_) (fun h8 => ?_) | refine br_ndec (fun h8 => ?_) (fun h8 => ?_) | refine br_nbool (fun h8 => ?_) (fun h8 => ?_) | refine br_bool (fun h8 => ?_) (fun h8 => ?_)); all_goals (try dsimp only at h8); all_goals (try with_reducible replace h8 := zi_lt.1 h8); all_goals (try with_reducible replace h8 := not_zlt h8))
          · rw [hz] at h8
            rw [if_pos ⟨h7, h8⟩] at hu
            rw [hu] at hcan
            cbv
            refine safe hi ?_
            exact ⟨_, .ret (.refl _), hr _ (by rw [hcan]; show hasS (w .o) (band ((l .o).getD (zi k).toNat Ace.z).perm (n .o)) = _; rw [hz])⟩
          · rw [hz] at h8
            rw [if_neg (fun q => h8 q.2)] at hu
            cbv
            refine ⟨k + 1, ⟨h6, hu⟩, by omega, ?_⟩
            cbv
            (repeat' (first | exact True.intro | exact Same.refl _ | exact SameB.refl _ | exact ⟨rfl⟩ | exact Same.int rfl | exact Same.str rfl | exact Same.bool rfl | (refine Same.int ?_; simp only [List.length_append, List.length_cons, List.length_nil, zi]; omega) | (refine SameB.row' rfl fun i hi => ?_; first | rfl | exact absurd hi (Nat.not_lt_zero _)) | refine And.intro ?_ ?_))
            all_goals exact Same.int succ
        · rw [hz] at h7
          rw [if_neg (fun q => h7 q.1)] at hu
          cbv
          refine ⟨k + 1, ⟨h6, hu⟩, by omega, ?_⟩
          cbv
          (repeat' (first | exact True.intro | exact Same.refl _ | exact SameB.refl _ | exact ⟨rfl⟩ | exact Same.int rfl | exact Same.str rfl | exact Same.bool rfl | (refine Same.int ?_; simp only [List.length_append, List.length_cons, List.length_nil, zi]; omega) | (refine SameB.row' rfl fun i hi => ?_; first | rfl | exact absurd hi (Nat.not_lt_zero _)) | refine And.intro ?_ ?_))
          all_goals exact Same.int succ
      · rw [List.drop_eq_nil_of_le (by omega)] at hu
        rw [hu] at hcan
        clear hk succ hz h6 hu
        dsimp only [user9] at hcan
        refine loop_rule (X := Nat × Bool) 1000 [2, 3, 4, 7, 8] [3, 4] (fun x => .cons 10 (.bool fun _ => x.2) (.cons 11 (.int .i64 fun _ => zi x.1) .nil)) (fun _ => .nil)
          (fun x => x.1 ≤ (l .o).length ∧ grp9 (m .o) (c .o) (w .o) (n .o) (hasS (w .o) (permR (l .o) 6)) (l .o) false = grp9 (m .o) (c .o) (w .o) (n .o) (hasS (w .o) (permR (l .o) 6)) ((l .o).drop x.1) x.2) (fun x => (l .o).length - x.1) (0, false) ?_ ⟨Nat.zero_le _, rfl⟩ ?_
        · cbv
          (repeat' (first | exact True.intro | exact Same.refl _ | exact SameB.refl _ | exact ⟨rfl⟩ | exact Same.int rfl | exact Same.str rfl | exact Same.bool rfl | (refine Same.int ?_; simp only [List.length_append, List.length_cons, List.length_nil, zi]; omega) | (refine SameB.row' rfl fun i hi => ?_; first | rfl | exact absurd hi (Nat.not_lt_zero _)) | refine And.intro ?_ ?_))
          all_goals exact ff_bool
        · rintro ⟨k, s⟩ ⟨hk, hgr⟩
          dsimp only at hk hgr
          have succ := zi_succ (k := k) (by unfold short at hls; omega)
          cbv
          ((try refine br_rev ?_); (first | refine br_dec (fun h6 => ?_) (fun h6 => ?_) | refine br_ndec (fun h6 => ?_) (fun h6 => ?_) | refine br_nbool (fun h6 => ?_) (fun h6 => ?_) | refine br_bool (fun h6 => ?_) (fun h6 => ?_)); all_goals (try dsimp only at h6); all_goals (try with_reducible replace h6 := zi_lt.1 h6); all_goals (try with_reducible replace h6 := not_zlt h6)) <;> cbv
          · rw [drop_cons _ Ace.z _ h6, grp9] at hgr
            have hi : (0 : Int) ≤ zi k ∧ zi k < zi (l .o).length := ⟨zi_nonneg _, zi_lt.2 h6⟩
            have next : ∀ s', grp9 (m .o) (c .o) (w .o) (n .o) (hasS (w .o) (permR (l .o) 6)) (l .o) false = grp9 (m .o) (c .o) (w .o) (n .o) (hasS (w .o) (permR (l .o) 6)) ((l .o).drop (k + 1)) s' → k + 1 ≤ (l .o).length ∧ grp9 (m .o) (c .o) (w .o) (n .o) (hasS (w .o) (permR (l .o) 6)) (l .o) false = grp9 (m .o) (c .o) (w .o) (n .o) (hasS (w .o) (permR (l .o) 6)) ((l .o).drop (k + 1)) s' := fun s' q => ⟨h6, q⟩
            have less : (l .o).length - (k + 1) < (l .o).length - k := by omega
            refine safe hi ?_
            ((try refine br_rev ?_); (first | refine br_dec (fun h7 => ?_) (fun h7 => ?_) | refine br_ndec (fun h7 => ?_) (fun h7 => ?_) | refine br_nbool (fun h7 => ?_) (fun h7 => ?_) | refine br_bool (fun h7 => ?_) (fun h7 => ?_)); all_goals (try dsimp only at h7); all_goals (try with_reducible replace h7 := zi_lt.1 h7); all_goals (try with_reducible replace h7 := not_zlt h7))
            · replace h7 : ((l .o).getD k Ace.z).tag = 3 := by simpa only [zi_toNat] using h7
              cbv
              refine in9_c c (fun _ => (m .o).gid) hc fun b2 hb2 => ?_
              cbv
              ((try refine br_rev ?_); (first | refine br_dec (fun h8 => ?_) (fun h8 => ?_) | refine br_ndec (fun h8 => ?_) (fun h8 => ?_) | refine br_nbool (fun h8 => ?_) (fun h8 => ?_) | refine br_bool (fun h8 => ?_) (fun h8 => ?_)); all_goals (try dsimp only at h8); all_goals (try with_reducible replace h8 := zi_lt.1 h8); all_goals (try with_reducible replace h8 := not_zlt h8))
              · rw [if_pos (.inl ⟨h7, hb2.symm.trans h8⟩)] at hgr
                cbv
                refine safe hi ?_
                ((try refine br_rev ?_); (first | refine br_dec (fun hA => ?_) (fun hA => ?_) | refine br_ndec (fun hA => ?_) (fun hA => ?_) | refine br_nbool (fun hA => ?_) (fun hA => ?_) | refine br_bool (fun hA => ?_) (fun hA => ?_)); all_goals (try dsimp only at hA); all_goals (try with_reducible replace hA := zi_lt.1 hA); all_goals (try with_reducible replace hA := not_zlt hA))
                · have hA' : hasS (w .o) (band ((l .o).getD k Ace.z).perm (n .o)) = true := decide_eq_true (by simpa only [zi_toNat, band] using hA)
                  rw [if_pos hA'] at hgr
                  cbv
                  exact ⟨_, .ret (.tt rfl), hr (fun _ => true) (by rw [hcan]; exact hgr.symm)⟩
                · have hA' : ¬ hasS (w .o) (band ((l .o).getD k Ace.z).perm (n .o)) = true := fun q => hA (by simpa only [zi_toNat, band] using of_decide_eq_true q)
                  rw [if_neg hA'] at hgr
                  cbv
                  refine ⟨(k + 1, true), next true hgr, less, ?_⟩
                  cbv
                  (repeat' (first | exact True.intro | exact Same.refl _ | exact SameB.refl _ | exact ⟨rfl⟩ | exact Same.int rfl | exact Same.str rfl | exact Same.bool rfl | (refine Same.int ?_; simp only [List.length_append, List.length_cons, List.length_nil, zi]; omega) | (refine SameB.row' rfl fun i hi => ?_; first | rfl | exact absurd hi (Nat.not_lt_zero _)) | refine And.intro ?_ ?_))
                  all_goals first | exact Same.int succ | exact Same.tt rfl
              · have h8' : ¬ ((((l .o).getD k Ace.z).tag = 3 ∧ inS (c .o) (m .o).gid = true) ∨ (((l .o).getD k Ace.z).tag = 4 ∧ inS (c .o) ((l .o).getD k Ace.z).id = true)) := by
                  have h8 : inS (c .o) (m .o).gid = false := hb2.symm.trans h8
                  rintro (q | q)
                  · rw [h8] at q; simp at q
                  · omega
                rw [if_neg h8'] at hgr
                cbv
                refine safe hi ?_
                ((try refine br_rev ?_); (first | refine br_dec (fun h9 => ?_) (fun h9 => ?_) | refine br_ndec (fun h9 => ?_) (fun h9 => ?_) | refine br_nbool (fun h9 => ?_) (fun h9 => ?_) | refine br_bool (fun h9 => ?_) (fun h9 => ?_)); all_goals (try dsimp only at h9); all_goals (try with_reducible replace h9 := zi_lt.1 h9); all_goals (try with_reducible replace h9 := not_zlt h9))
                · replace h9 : ((l .o).getD k Ace.z).tag = 4 := by simpa only [zi_toNat] using h9
                  omega
                cbv
                refine ⟨(k + 1, s), next s hgr, less, ?_⟩
                cbv
                (repeat' (first | exact True.intro | exact Same.refl _ | exact SameB.refl _ | exact ⟨rfl⟩ | exact Same.int rfl | exact Same.str rfl | exact Same.bool rfl | (refine Same.int ?_; simp only [List.length_append, List.length_cons, List.length_nil, zi]; omega) | (refine SameB.row' rfl fun i hi => ?_; first | rfl | exact absurd hi (Nat.not_lt_zero _)) | refine And.intro ?_ ?_))
                all_goals exact Same.int succ
            · replace h7 : ¬ ((l .o).getD k Ace.z).tag = 3 := by simpa only [zi_toNat] using h7
              cbv
              refine safe hi ?_
              ((try refine br_rev ?_); (first | refine br_dec (fun h9 => ?_) (fun h9 => ?_) | refine br_ndec (fun h9 => ?_) (fun h9 => ?_) | refine br_nbool (fun h9 => ?_) (fun h9 => ?_) | refine br_bool (fun h9 => ?_) (fun h9 => ?_)); all_goals (try dsimp only at h9); all_goals (try with_reducible replace h9 := zi_lt.1 h9); all_goals (try with_reducible replace h9 := not_zlt h9))
              · replace h9 : ((l .o).getD k Ace.z).tag = 4 := by simpa only [zi_toNat] using h9
                cbv
                refine safe hi ?_
                refine in9_c c (fun _ => ((l .o).getD (zi k).toNat Ace.z).id) hc fun b2 hb2 => ?_
                have hb2 : b2 .o = inS (c .o) ((l .o).getD k Ace.z).id := by rw [hb2]; show inS (c .o) ((l .o).getD (zi k).toNat Ace.z).id = _; rw [zi_toNat]
                cbv
                ((try refine br_rev ?_); (first | refine br_dec (fun h8 => ?_) (fun h8 => ?_) | refine br_ndec (fun h8 => ?_) (fun h8 => ?_) | refine br_nbool (fun h8 => ?_) (fun h8 => ?_) | refine br_bool (fun h8 => ?_) (fun h8 => ?_)); all_goals (try dsimp only at h8); all_goals (try with_reducible replace h8 := zi_lt.1 h8); all_goals (try with_reducible replace h8 := not_zlt h8))
                · rw [if_pos (.inr ⟨h9, hb2.symm.trans h8⟩)] at hgr
                  cbv
                  refine safe hi ?_
                  ((try refine br_rev ?_); (first | refine br_dec (fun hA => ?_) (fun hA => ?_) | refine br_ndec (fun hA => ?_) (fun hA => ?_) | refine br_nbool (fun hA => ?_) (fun hA => ?_) | refine br_bool (fun hA => ?_) (fun hA => ?_)); all_goals (try dsimp only at hA); all_goals (try with_reducible replace hA := zi_lt.1 hA); all_goals (try with_reducible replace hA := not_zlt hA))
                  · have hA' : hasS (w .o) (band ((l .o).getD k Ace.z).perm (n .o)) = true := decide_eq_true (by simpa only [zi_toNat, band] using hA)
                    rw [if_pos hA'] at hgr
                    cbv
                    exact ⟨_, .ret (.tt rfl), hr (fun _ => true) (by rw [hcan]; exact hgr.symm)⟩
                  · have hA' : ¬ hasS (w .o) (band ((l .o).getD k Ace.z).perm (n .o)) = true := fun q => hA (by simpa only [zi_toNat, band] using of_decide_eq_true q)
                    rw [if_neg hA'] at hgr
                    cbv
                    refine ⟨(k + 1, true), next true hgr, less, ?_⟩
                    cbv
                    (repeat' (first | exact True.intro | exact Same.refl _ | exact SameB.refl _ | exact ⟨rfl⟩ | exact Same.int rfl | exact Same.str rfl | exact Same.bool rfl | (refine Same.int ?_; simp only [List.length_append, List.length_cons, List.length_nil, zi]; omega) | (refine SameB.row' rfl fun i hi => ?_; first | rfl | exact absurd hi (Nat.not_lt_zero _)) | refine And.intro ?_ ?_))
                    all_goals first | exact Same.int succ | exact Same.tt rfl
                · have h8' : ¬ ((((l .o).getD k Ace.z).tag = 3 ∧ inS (c .o) (m .o).gid = true) ∨ (((l .o).getD k Ace.z).tag = 4 ∧ inS (c .o) ((l .o).getD k Ace.z).id = true)) := by
                    have h8 : inS (c .o) ((l .o).getD k Ace.z).id = false := hb2.symm.trans h8
                    rintro (q | q)
                    · omega
                    · rw [h8] at q; simp at q
                  rw [if_neg h8'] at hgr
                  cbv
                  refine ⟨(k + 1, s), next s hgr, less, ?_⟩
                  cbv
                  (repeat' (first | exact True.intro | exact Same.refl _ | exact SameB.refl _ | exact ⟨rfl⟩ | exact Same.int rfl | exact Same.str rfl | exact Same.bool rfl | (refine Same.int ?_; simp only [List.length_append, List.length_cons, List.length_nil, zi]; omega) | (refine SameB.row' rfl fun i hi => ?_; first | rfl | exact absurd hi (Nat.not_lt_zero _)) | refine And.intro ?_ ?_))
                  all_goals exact Same.int succ
              · replace h9 : ¬ ((l .o).getD k Ace.z).tag = 4 := by simpa only [zi_toNat] using h9
                rw [if_neg (fun q => q.elim (fun q => h7 q.1) fun q => h9 q.1)] at hgr
                cbv
                refine ⟨(k + 1, s), next s hgr, less, ?_⟩
                cbv
                (repeat' (first | exact True.intro | exact Same.refl _ | exact SameB.refl _ | exact ⟨rfl⟩ | exact Same.int rfl | exact Same.str rfl | exact Same.bool rfl | (refine Same.int ?_; simp only [List.length_append, List.length_cons, List.length_nil, zi]; omega) | (refine SameB.row' rfl fun i hi => ?_; first | rfl | exact absurd hi (Nat.not_lt_zero _)) | refine And.intro ?_ ?_))
                all_goals exact Same.int succ
          · rw [List.drop_eq_nil_of_le (by omega), grp9] at hgr
            refine br_nbool (fun h7 => ?_) (fun h7 => ?_)
            · replace h7 : s = false := h7
              cbv
              refine perm9_c l (fun _ => 6) hls fun q hq => ?_
              cbv
              exact ⟨_, .ret (.refl _), hr _ (by rw [hcan, hgr, h7, ← hq]; rfl)⟩
            · replace h7 : s = true := h7
              cbv
              exact ⟨_, .ret (.ff rfl), hr (fun _ => false) (by rw [hcan, hgr, h7]; rfl)⟩
end Go.Proofs.Yteeikiekofopnaa

/- The document's answers on rights, walked. -/
import Derived.Test.YtgjlkcdnlndlnaaLess
namespace Go.Proofs.Ytgjlkcdnlndlnaa
open Go Go.Proofs.Ytgjlkcdnlndlnaa.Sx F
set_option linter.unusedVariables false
set_option linter.unusedSimpArgs false

def permR (l : List Ace) (t : Int) : Int := (permS l t).getD (-1)
theorem permS_cons (a : Ace) (r : List Ace) (t : Int) : permS (a :: r) t = if a.tag = t then some a.perm else permS r t := by
  unfold permS
  by_cases h : a.tag = t <;> simp [h]
theorem perm9_c (l : Th (List Ace)) (t : Th Int) (hl : short (l .o)) {d : Nat} {K : ARes → BL → Prop} (hr : ∀ n : Th Int, n .o = permR (l .o) (t .o) → K (.ret (.int .i64 n)) .nil) : CallAt PT r9_Perm [aces l, .int .i64 t] d .nil K := by
  refine r9_Perm.of rfl rfl ?_
  cbv
  refine loop_rule (X := Nat) 1000 [0, 1] [] (fun k => .cons 5 (.int .i64 fun _ => zi k) .nil) (fun _ => .nil) (fun k => k ≤ (l .o).length ∧ permS (l .o) (t .o) = permS ((l .o).drop k) (t .o)) (fun k => (l .o).length - k) 0 ?_ ⟨Nat.zero_le _, rfl⟩ ?_
  · cbv
    (repeat' (first | exact True.intro | exact Same.refl _ | exact SameB.refl _ | exact ⟨rfl⟩ | exact Same.int rfl | exact Same.str rfl | exact Same.bool rfl | (refine Same.int ?_; simp only [List.length_append, List.length_cons, List.length_nil, zi]; omega) | (refine SameB.row' rfl fun i hi => ?_; first | rfl | exact absurd hi (Nat.not_lt_zero _)) | refine And.intro ?_ ?_ | refine SameB.cells ?_ | exact SameC.nil | refine SameC.cons ?_ ?_ | exact Same.nsl rfl | exact Same.tt rfl | exact Same.ff rfl))
  · rintro k ⟨hk, hp⟩
    have succ := zi_succ (k := k) (by unfold short at hl; omega)
    cbv
    ((try refine br_rev ?_); (first | refine br_dec (fun h1 => ?_) (fun h1 => ?_) | refine br_ndec (fun h1 => ?_) (fun h1 => ?_) | refine br_nbool (fun h1 => ?_) (fun h1 => ?_) | refine br_bool (fun h1 => ?_) (fun h1 => ?_)); all_goals (try dsimp only at h1); all_goals (try with_reducible replace h1 := zi_lt.1 h1); all_goals (try with_reducible replace h1 := not_zlt h1)) <;> cbv
    · rw [drop_cons _ Ace.z _ h1, permS_cons] at hp
      refine safe ⟨zi_nonneg _, zi_lt.2 h1⟩ ?_
      have hz := zi_toNat k
      ((try refine br_rev ?_); (first | refine br_dec (fun h2 => ?_) (fun h2 => ?_) | refine br_ndec (fun h2 => ?_) (fun h2 => ?_) | refine br_nbool (fun h2 => ?_) (fun h2 => ?_) | refine br_bool (fun h2 => ?_) (fun h2 => ?_)); all_goals (try dsimp only at h2); all_goals (try with_reducible replace h2 := zi_lt.1 h2); all_goals (try with_reducible replace h2 := not_zlt h2)) <;> cbv
      · rw [hz] at h2
        refine safe ⟨zi_nonneg _, zi_lt.2 h1⟩ ?_
        exact hr _ (by unfold permR; rw [hp, if_pos h2]; show ((l .o).getD (zi k).toNat Ace.z).perm = _; rw [hz]; rfl)
      · rw [hz] at h2
        rw [if_neg h2] at hp
        refine ⟨k + 1, ⟨h1, hp⟩, by omega, ?_⟩
        cbv
        (repeat' (first | exact True.intro | exact Same.refl _ | exact SameB.refl _ | exact ⟨rfl⟩ | exact Same.int rfl | exact Same.str rfl | exact Same.bool rfl | (refine Same.int ?_; simp only [List.length_append, List.length_cons, List.length_nil, zi]; omega) | (refine SameB.row' rfl fun i hi => ?_; first | rfl | exact absurd hi (Nat.not_lt_zero _)) | refine And.intro ?_ ?_ | refine SameB.cells ?_ | exact SameC.nil | refine SameC.cons ?_ ?_ | exact Same.nsl rfl | exact Same.tt rfl | exact Same.ff rfl))
        all_goals exact Same.int succ
    · rw [List.drop_eq_nil_of_le (by omega)] at hp
      exact hr (fun _ => -1) (by unfold permR; rw [hp]; rfl)
theorem in9_c (c : Th Cred) (g : Th Int) (hl : short (c .o).groups) {d : Nat} {K : ARes → BL → Prop} (hr : ∀ b : Th Bool, b .o = inS (c .o) (g .o) → K (.ret (.bool b)) .nil) : CallAt PT r18_In [Cred.av c, .int .i64 g] d .nil K := by
  refine r18_In.of rfl rfl ?_
  cbv
  refine loop_rule (X := Nat × Bool) 1000 [1, 2] [2] (fun x => .cons 5 (.bool fun _ => x.2) (.cons 6 (.int .i64 fun _ => zi x.1) .nil)) (fun _ => .nil) (fun x => x.1 ≤ (c .o).groups.length ∧ x.2 = (decide ((c .o).gid = g .o) || decide (g .o ∈ (c .o).groups.take x.1))) (fun x => (c .o).groups.length - x.1) (0, decide ((c .o).gid = g .o)) ?_ ⟨Nat.zero_le _, by simp⟩ ?_
  · cbv
    (repeat' (first | exact True.intro | exact Same.refl _ | exact SameB.refl _ | exact ⟨rfl⟩ | exact Same.int rfl | exact Same.str rfl | exact Same.bool rfl | (refine Same.int ?_; simp only [List.length_append, List.length_cons, List.length_nil, zi]; omega) | (refine SameB.row' rfl fun i hi => ?_; first | rfl | exact absurd hi (Nat.not_lt_zero _)) | refine And.intro ?_ ?_ | refine SameB.cells ?_ | exact SameC.nil | refine SameC.cons ?_ ?_ | exact Same.nsl rfl | exact Same.tt rfl | exact Same.ff rfl))
  · rintro ⟨k, b⟩ ⟨hk, hb⟩
    dsimp only at hk hb
    have succ := zi_succ (k := k) (by unfold short at hl; omega)
    have hz := zi_toNat k
    cbv
    ((try refine br_rev ?_); (first | refine br_dec (fun h1 => ?_) (fun h1 => ?_) | refine br_ndec (fun h1 => ?_) (fun h1 => ?_) | refine br_nbool (fun h1 => ?_) (fun h1 => ?_) | refine br_bool (fun h1 => ?_) (fun h1 => ?_)); all_goals (try dsimp only at h1); all_goals (try with_reducible replace h1 := zi_lt.1 h1); all_goals (try with_reducible replace h1 := not_zlt h1)) <;> cbv
    · have hstep : (decide ((c .o).gid = g .o) || decide (g .o ∈ (c .o).groups.take (k + 1))) = (b || decide ((c .o).groups.getD k 0 = g .o)) := by
        rw [hb, List.take_add_one, List.getD_eq_getElem?_getD, List.getElem?_eq_getElem h1]
        simp only [List.mem_append, Option.toList_some, List.mem_singleton, Option.getD_some, Bool.or_assoc, Bool.decide_or]
        congr 2
        exact decide_eq_decide.2 eq_comm
      refine br_rev (br_bool (fun h2 => ?_) (fun h2 => ?_))
      · replace h2 : b = true := h2
        cbv
        refine ⟨(k + 1, true), ⟨h1, by show true = _; rw [hstep, h2]; rfl⟩, by show _ - (k + 1) < _ - k; omega, ?_⟩
        cbv
        (repeat' (first | exact True.intro | exact Same.refl _ | exact SameB.refl _ | exact ⟨rfl⟩ | exact Same.int rfl | exact Same.str rfl | exact Same.bool rfl | (refine Same.int ?_; simp only [List.length_append, List.length_cons, List.length_nil, zi]; omega) | (refine SameB.row' rfl fun i hi => ?_; first | rfl | exact absurd hi (Nat.not_lt_zero _)) | refine And.intro ?_ ?_ | refine SameB.cells ?_ | exact SameC.nil | refine SameC.cons ?_ ?_ | exact Same.nsl rfl | exact Same.tt rfl | exact Same.ff rfl))
        all_goals first | exact Same.int succ | exact Same.tt rfl
      · replace h2 : b = false := h2
        cbv
        refine safe ⟨zi_nonneg _, zi_lt.2 h1⟩ ?_
        refine ⟨(k + 1, decide ((c .o).groups.getD k 0 = g .o)), ⟨h1, by show decide _ = _; rw [hstep, h2]; rfl⟩, by show _ - (k + 1) < _ - k; omega, ?_⟩
        cbv
        (repeat' (first | exact True.intro | exact Same.refl _ | exact SameB.refl _ | exact ⟨rfl⟩ | exact Same.int rfl | exact Same.str rfl | exact Same.bool rfl | (refine Same.int ?_; simp only [List.length_append, List.length_cons, List.length_nil, zi]; omega) | (refine SameB.row' rfl fun i hi => ?_; first | rfl | exact absurd hi (Nat.not_lt_zero _)) | refine And.intro ?_ ?_ | refine SameB.cells ?_ | exact SameC.nil | refine SameC.cons ?_ ?_ | exact Same.nsl rfl | exact Same.tt rfl | exact Same.ff rfl))
        all_goals first | exact Same.int succ | exact Same.bool (by show decide ((c .o).groups.getD (zi k).toNat 0 = g .o) = decide ((c .o).groups.getD k 0 = g .o); rw [hz])
    · exact hr _ (by show b = _; rw [hb, List.take_of_length_le (by omega)]; rfl)
def mode9 (m : Int) : List Ace := [⟨1, 0, band (m.fdiv (2 ^ 6)) 7⟩, ⟨3, 0, band (m.fdiv (2 ^ 3)) 7⟩, ⟨6, 0, band m 7⟩]
def of9 (m : Meta) : List Ace := if 0 < m.acl.length then m.acl else mode9 m.mode
def user9 (c : Cred) : List Ace → Option Int
  | [] => none
  | a :: r => if a.tag = 2 ∧ a.id = c.uid then some a.perm else user9 c r
def grp9 (m : Meta) (c : Cred) (w mask : Int) (fin : Bool) : List Ace → Bool → Bool
  | [], s => !s && fin
  | a :: r, s =>
    if (a.tag = 3 ∧ inS c m.gid = true) ∨ (a.tag = 4 ∧ inS c a.id = true) then
      if hasS w (band a.perm mask) = true then true else grp9 m c w mask fin r true
    else grp9 m c w mask fin r s
def mask9 (l : List Ace) : Int := if permR l 5 < 0 then 7 else permR l 5
def Can9 (m : Meta) (c : Cred) (w : Int) : Bool :=
  if w < 0 ∨ 7 < w then false else if ¬ band c.powers 2 = 0 then true
  else if m.uid = c.uid then hasS w (permR (of9 m) 1)
  else match user9 c (of9 m) with
    | some p => hasS w (band p (mask9 (of9 m)))
    | none => grp9 m c w (mask9 (of9 m)) (hasS w (permR (of9 m) 6)) (of9 m) false
theorem of9_short {m : Meta} (h : short m.acl) : short (of9 m) := by
  unfold of9
  split
  · exact h
  · show 3 ≤ _; decide

end Go.Proofs.Ytgjlkcdnlndlnaa

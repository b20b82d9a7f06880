/- What the laws make by numbers: access lists. -/
import Derived.Test.YtgjlkcdnlndlnaaMade
namespace Go.Proofs.Ytgjlkcdnlndlnaa
open Go Go.Proofs.Ytgjlkcdnlndlnaa.Sx F
set_option linter.unusedVariables false
set_option linter.unusedSimpArgs false

/-- In order, each Id once. -/
def addS (a : Ace) : List Ace → List Ace
  | [] => [a]
  | x :: r => if x.id < a.id then x :: addS a r else if x.id = a.id then a :: r else a :: x :: r
theorem addS_at (a : Ace) : ∀ (l : List Ace) (k : Nat), k ≤ l.length → (∀ j, j < k → (l.getD j Ace.z).id < a.id) → (k < l.length → ¬ (l.getD k Ace.z).id < a.id) →
    addS a l = l.take k ++ a :: (if k < l.length ∧ (l.getD k Ace.z).id = a.id then l.drop (k + 1) else l.drop k)
  | [], k, hk, _, _ => by simp at hk; subst hk; simp [addS]
  | x :: r, 0, _, _, h => by
    have h := h (by simp)
    simp at h
    simp [addS]
    by_cases he : x.id = a.id <;> simp [he]
    intro q; omega
  | x :: r, k + 1, hk, hj, h => by
    have h0 := hj 0 (by omega)
    have := addS_at a r k (by simpa using hk) (fun j hj' => by simpa using hj (j + 1) (by omega)) (fun q => by simpa using h (by simpa using q))
    simp at h0
    simp [addS, h0, this]
theorem addS_len (a : Ace) : ∀ l : List Ace, (addS a l).length ≤ l.length + 1
  | [] => by simp [addS]
  | x :: r => by
    have := addS_len a r
    unfold addS
    split
    · simp; omega
    · split <;> simp

/-- Behind a row of nothing. -/
theorem app_rows0 {α : Type} {bytes : Nat} {n m : Th Nat} {g gy : Th Nat → AV} {K : Th Nat → (Th Nat → AV) → Prop} (ch : Th α → AV) (z : α) (ys : List α) (hn : n .o = 0)
    (hm : m .o = ys.length) (hy : ∀ i, i < ys.length → gy (fun _ => i) = ch fun _ => ys.getD i z) (hroom : ys.length * bytes ≤ 140737488355328)
    (h : K (fun _ => ys.length) fun i => ch fun _ => ys.getD (i .o) z) : AppAt bytes n m g gy K :=
  app_rows ch z [] ys hn (fun i hi => absurd hi (Nat.not_lt_zero _)) hm hy (by simpa using hroom) h

theorem add_c (l : Th (List Ace)) (a : Th Ace) (hl : (l .o).length ≤ 1000) {d : Nat} {K : ARes → BL → Prop} (hr : ∀ r : Th (List Ace), r .o = addS (a .o) (l .o) → K (.ret (aces r)) .nil) : CallAt PT l9_add [aces l, Ace.av a] d .nil K := by
  refine l9_add.of rfl rfl ?_
  cbv
  refine loop_rule (X := Nat) 1000 [0, 3] [3] (fun k => .cons 5 (.int .i64 fun _ => zi k) .nil) (fun _ => .nil) (fun k => k ≤ (l .o).length ∧ ∀ j, j < k → ((l .o).getD j Ace.z).id < (a .o).id) (fun k => (l .o).length - k) 0 ?_ ⟨Nat.zero_le _, fun j hj => by omega⟩ ?_
  · cbv
    (repeat' (first | exact True.intro | exact Same.refl _ | exact SameB.refl _ | exact ⟨rfl⟩ | exact Same.int rfl | exact Same.str rfl | exact Same.bool rfl | (refine Same.int ?_; simp only [List.length_append, List.length_cons, List.length_nil, zi]; omega) | (refine SameB.row' rfl fun i hi => ?_; first | rfl | exact absurd hi (Nat.not_lt_zero _)) | refine And.intro ?_ ?_ | refine SameB.cells ?_ | exact SameC.nil | refine SameC.cons ?_ ?_ | exact Same.nsl rfl | exact Same.tt rfl | exact Same.ff rfl))
  · intro k hk
    obtain ⟨hk, hj⟩ := hk
    have fin : (k < (l .o).length → ¬ ((l .o).getD k Ace.z).id < (a .o).id) → addS (a .o) (l .o) = (l .o).take k ++ (a .o) :: (if k < (l .o).length ∧ ((l .o).getD k Ace.z).id = (a .o).id then (l .o).drop (k + 1) else (l .o).drop k) := addS_at _ _ k hk hj
    cbv
    ((try refine br_rev ?_); (first | refine br_dec (fun h1 => ?_) (fun h1 => ?_) | refine br_ndec (fun h1 => ?_) (fun h1 => ?_) | refine br_nbool (fun h1 => ?_) (fun h1 => ?_) | refine br_bool (fun h1 => ?_) (fun h1 => ?_)); all_goals (try dsimp only at h1); all_goals (try with_reducible replace h1 := zi_lt.1 h1); all_goals (try with_reducible replace h1 := not_zlt h1)) <;> cbv
    focus (refine safe ⟨zi_nonneg _, zi_lt.2 (by omega)⟩ ?_; cbv; ((try refine br_rev ?_); (first | refine br_dec (fun h2 => ?_) (fun h2 => ?_) | refine br_ndec (fun h2 => ?_) (fun h2 => ?_) | refine br_nbool (fun h2 => ?_) (fun h2 => ?_) | refine br_bool (fun h2 => ?_) (fun h2 => ?_)); all_goals (try dsimp only at h2); all_goals (try with_reducible replace h2 := zi_lt.1 h2); all_goals (try with_reducible replace h2 := not_zlt h2)) <;> cbv)
    · refine ⟨k + 1, ⟨h1, fun j hj' => ?_⟩, by omega, ?_⟩
      · by_cases he : j = k
        · subst he; exact h2
        · exact hj j (by omega)
      · cbv
        rw [zi_succ (by omega)]
        (repeat' (first | exact True.intro | exact Same.refl _ | exact SameB.refl _ | exact ⟨rfl⟩ | exact Same.int rfl | exact Same.str rfl | exact Same.bool rfl | (refine Same.int ?_; simp only [List.length_append, List.length_cons, List.length_nil, zi]; omega) | (refine SameB.row' rfl fun i hi => ?_; first | rfl | exact absurd hi (Nat.not_lt_zero _)) | refine And.intro ?_ ?_ | refine SameB.cells ?_ | exact SameC.nil | refine SameC.cons ?_ ?_ | exact Same.nsl rfl | exact Same.tt rfl | exact Same.ff rfl))
    focus (replace fin := fin fun _ => h2)
    rotate_left
    focus (replace fin := fin fun q => by omega)
    all_goals
      refine safe ⟨zi_nonneg _, zi_le.2 hk, Int.le_refl _⟩ ?_
      refine app_rows0 Ace.ch Ace.z ((l .o).drop k) rfl (by simp [zi]) (fun i hi => by simp only [getD_drop]; rfl) (by simp only [List.length_drop]; omega) ?_
      cbv
      ((try refine br_rev ?_); (first | refine br_dec (fun h3 => ?_) (fun h3 => ?_) | refine br_ndec (fun h3 => ?_) (fun h3 => ?_) | refine br_nbool (fun h3 => ?_) (fun h3 => ?_) | refine br_bool (fun h3 => ?_) (fun h3 => ?_)); all_goals (try dsimp only at h3); all_goals (try with_reducible replace h3 := zi_lt.1 h3); all_goals (try with_reducible replace h3 := not_zlt h3))
    all_goals cbv
    all_goals try (have h3' : 0 < ((l .o).drop k).length := zi_lt.1 h3; refine safe ⟨Int.le_refl _, h3⟩ ?_; refine safe h3' ?_; cbv; ((try refine br_rev ?_); (first | refine br_dec (fun h4 => ?_) (fun h4 => ?_) | refine br_ndec (fun h4 => ?_) (fun h4 => ?_) | refine br_nbool (fun h4 => ?_) (fun h4 => ?_) | refine br_bool (fun h4 => ?_) (fun h4 => ?_)); all_goals (try dsimp only at h4); all_goals (try with_reducible replace h4 := zi_lt.1 h4); all_goals (try with_reducible replace h4 := not_zlt h4)))
    all_goals cbv
    all_goals have htk : ((l .o).take k).length = k := by rw [List.length_take]; omega
    all_goals try refine safe ⟨by decide, zi_le.2 h3', Int.le_refl _⟩ ?_
    all_goals
      refine safe ⟨Int.le_refl _, zi_nonneg _, zi_le.2 hk⟩ ?_
      refine app_rows0 Ace.ch Ace.z ((l .o).take k) rfl (by rw [htk]; simp [zi]) (fun i hi => by rw [htk] at hi; simp only [getD_take _ _ _ _ hi]; exact congrArg (fun j => Ace.ch fun _ => (l .o).getD j Ace.z) (by simp)) (by rw [htk]; omega) ?_
      cbv
      refine app_one Ace.ch Ace.z _ (a .o) rfl (fun i hi => rfl) rfl rfl (by rw [htk]; omega) ?_
      cbv
    all_goals first
      | (refine app_rows Ace.ch Ace.z ((l .o).take k ++ [a .o]) ((l .o).drop k) rfl (fun i hi => rfl) rfl (fun i hi => rfl) (by rw [List.length_append, htk, List.length_drop]; simp only [List.length_cons, List.length_nil]; omega) ?_
         cbv
         exact hr (fun _ => (l .o).take k ++ [a .o] ++ (l .o).drop k) (by
           rw [fin, if_neg (by
             rintro ⟨q1, q2⟩
             first
             | exact h4 (by simpa [getD_drop] using q2)
             | exact h3 ((zi_lt (a := 0)).2 (by rw [List.length_drop]; omega)))]
           simp)
         done)
      | (refine app_rows Ace.ch Ace.z ((l .o).take k ++ [a .o]) ((l .o).drop (k + 1)) rfl (fun i hi => rfl) (by simp [zi]; omega) (fun i hi => by simp only [getD_drop]; exact congrArg (fun j => Ace.ch fun _ => (l .o).getD j Ace.z) (by simp [Nat.add_assoc])) (by simp only [List.length_append, htk, List.length_drop, List.length_cons, List.length_nil]; omega) ?_
         cbv
         exact hr (fun _ => (l .o).take k ++ [a .o] ++ (l .o).drop (k + 1)) (by
           rw [fin, if_pos ⟨by rw [List.length_drop] at h3'; omega, by simpa [getD_drop] using h4⟩]
           simp)
         done)
theorem add_c' (l : Th (List Ace)) (a : Th Ace) (hl : (l .o).length ≤ 1000) {d : Nat} {K : ARes → BL → Prop} (hr : K (.ret (aces fun _ => addS (a .o) (l .o))) .nil) : CallAt PT l9_add [aces l, Ace.av a] d .nil K :=
  add_c l a hl fun r hr' => by
    have : r = fun _ => addS (a .o) (l .o) := funext fun | .o => hr'
    subst this
    exact hr
/-- Users and groups out of the first k pairs. -/
def accS (ns : List Int) : Nat → List Ace × List Ace
  | 0 => ([], [])
  | k + 1 =>
    if (ns.getD (2 * k) 0).tmod 2 = 0 then (addS ⟨2, (ns.getD (2 * k) 0).tdiv 2, (ns.getD (2 * k + 1) 0).tmod 8⟩ (accS ns k).1, (accS ns k).2)
    else ((accS ns k).1, addS ⟨4, (ns.getD (2 * k) 0).tdiv 2, (ns.getD (2 * k + 1) 0).tmod 8⟩ (accS ns k).2)
theorem accS_len (ns : List Int) : ∀ k, (accS ns k).1.length ≤ k ∧ (accS ns k).2.length ≤ k
  | 0 => by simp [accS]
  | k + 1 => by
    have := accS_len ns k
    unfold accS
    split
    · have := addS_len ⟨2, (ns.getD (2 * k) 0).tdiv 2, (ns.getD (2 * k + 1) 0).tmod 8⟩ (accS ns k).1
      dsimp only; omega
    · have := addS_len ⟨4, (ns.getD (2 * k) 0).tdiv 2, (ns.getD (2 * k + 1) 0).tmod 8⟩ (accS ns k).2
      dsimp only; omega
def pairs (ns : List Int) : Nat := min 6 (ns.length / 2)
def bxor (a b : Int) : Int := abits .xor .i64 a b
def l9S (ns : List Int) (m : Int) : List Ace :=
  let u := (accS ns (pairs ns)).1
  let g := (accS ns (pairs ns)).2
  if u.length + g.length = 0 then [⟨1, 0, band (m.fdiv (2 ^ 6)) 7⟩] ++ u ++ [⟨3, 0, band (m.fdiv (2 ^ 3)) 7⟩, ⟨6, 0, band m 7⟩]
  else [⟨1, 0, band (m.fdiv (2 ^ 6)) 7⟩] ++ u ++ [⟨3, 0, bxor (band (m.fdiv (2 ^ 3)) 7) ((ns.getD 0 0).tmod 8)⟩] ++ g ++ [⟨5, 0, band (m.fdiv (2 ^ 3)) 7⟩, ⟨6, 0, band m 7⟩]

theorem l9_c (ns : Th (List Int)) (m : Th Int) (hns : isBytes (ns .o)) (hs : short (ns .o)) {d : Nat} {K : ARes → BL → Prop} (hr : ∀ r : Th (List Ace), r .o = l9S (ns .o) (m .o) → K (.ret (aces r)) .nil) : CallAt PT l9_Make [byteI ns, .int .i64 m] d .nil K := by
  refine l9_Make.of rfl rfl ?_
  (cbv; repeat (refine safe (by first | decide | (simp only [zi] at *; omega) | assumption | (dsimp only; omega) | (dsimp only at *; simp only [List.length_append, List.length_cons, List.length_nil, zi] at *; omega)) ?_; cbv))
  refine loop_rule (X := Nat) 1000 [0, 5, 6, 7] [] (fun k => .cons 8 (aces fun _ => (accS (ns .o) k).1) (.cons 9 (aces fun _ => (accS (ns .o) k).2) (.cons 10 (.int .i64 fun _ => zi (2 * k)) .nil))) (fun _ => .nil) (fun k => k ≤ pairs (ns .o)) (fun k => 6 - k) 0 ?_ (Nat.zero_le _) ?_
  · cbv
    (repeat' (first | exact True.intro | exact Same.refl _ | exact SameB.refl _ | exact ⟨rfl⟩ | exact Same.int rfl | exact Same.str rfl | exact Same.bool rfl | (refine Same.int ?_; simp only [List.length_append, List.length_cons, List.length_nil, zi]; omega) | (refine SameB.row' rfl fun i hi => ?_; first | rfl | exact absurd hi (Nat.not_lt_zero _)) | refine And.intro ?_ ?_ | refine SameB.cells ?_ | exact SameC.nil | refine SameC.cons ?_ ?_ | exact Same.nsl rfl | exact Same.tt rfl | exact Same.ff rfl))
    all_goals exact Same.nsl rfl
  · intro k hk
    have hp : pairs (ns .o) = min 6 ((ns .o).length / 2) := rfl
    have hl := accS_len (ns .o) k
    unfold short at hs
    have hsucc : IntKind.i64.wrap (zi (2 * k) + 1) = zi (2 * k + 1) := zi_succ (by omega)
    cbv
    rw [hsucc]
    ((try refine br_rev ?_); (first | refine br_dec (fun h1 => ?_) (fun h1 => ?_) | refine br_ndec (fun h1 => ?_) (fun h1 => ?_) | refine br_nbool (fun h1 => ?_) (fun h1 => ?_) | refine br_bool (fun h1 => ?_) (fun h1 => ?_)); all_goals (try dsimp only at h1); all_goals (try with_reducible replace h1 := zi_lt.1 h1); all_goals (try with_reducible replace h1 := not_zlt h1)) <;> cbv
    all_goals try (((try refine br_rev ?_); (first | refine br_dec (fun h2 => ?_) (fun h2 => ?_) | refine br_ndec (fun h2 => ?_) (fun h2 => ?_) | refine br_nbool (fun h2 => ?_) (fun h2 => ?_) | refine br_bool (fun h2 => ?_) (fun h2 => ?_)); all_goals (try dsimp only at h2); all_goals (try with_reducible replace h2 := zi_lt.1 h2); all_goals (try with_reducible replace h2 := not_zlt h2)); replace h2 : 2 * k < 12 := h2; rotate_left; replace h2 : 12 ≤ 2 * k := h2; rotate_left)
    all_goals cbv
    focus
      refine safe ⟨zi_nonneg _, zi_lt.2 (by omega)⟩ ?_
      refine safe (by decide) ?_
      refine safe (by rw [hsucc]; exact ⟨zi_nonneg _, zi_lt.2 h1⟩) ?_
      refine safe (by decide) ?_
      refine safe ⟨zi_nonneg _, zi_lt.2 (by omega)⟩ ?_
      refine safe (by decide) ?_
      rw [hsucc]
      have hb : ∀ j, IntKind.i64.wrap ((ns .o).getD j 0) = (ns .o).getD j 0 := fun j => wrap_byte (byte_at hns)
      have hq : ∀ j, IntKind.i64.wrap (((ns .o).getD j 0).tdiv 2) = ((ns .o).getD j 0).tdiv 2 := fun j => wrap_byte (by
        have := byte_at hns (k := j)
        rw [Int.tdiv_eq_ediv_of_nonneg this.1]
        omega)
      ((try refine br_rev ?_); (first | refine br_dec (fun h3 => ?_) (fun h3 => ?_) | refine br_ndec (fun h3 => ?_) (fun h3 => ?_) | refine br_nbool (fun h3 => ?_) (fun h3 => ?_) | refine br_bool (fun h3 => ?_) (fun h3 => ?_)); all_goals (try dsimp only at h3); all_goals (try with_reducible replace h3 := zi_lt.1 h3); all_goals (try with_reducible replace h3 := not_zlt h3)) <;> cbv
      · rw [zi_toNat] at h3
        refine add_c' (fun _ => (accS (ns .o) k).1) (fun _ => ⟨2, IntKind.i64.wrap ((IntKind.i64.wrap ((ns .o).getD (zi (2 * k)).toNat 0)).tdiv 2), (IntKind.i64.wrap ((ns .o).getD (zi (2 * k + 1)).toNat 0)).tmod 8⟩) (by omega) ?_
        cbv
        have e : accS (ns .o) (k + 1) = (addS ⟨2, ((ns .o).getD (2 * k) 0).tdiv 2, ((ns .o).getD (2 * k + 1) 0).tmod 8⟩ (accS (ns .o) k).1, (accS (ns .o) k).2) := by
          rw [accS, if_pos h3]
        refine ⟨k + 1, by omega, by omega, ?_⟩
        cbv
        rw [e]
        dsimp only
        rw [zi_toNat, zi_toNat, hb, hb, hq]
        (repeat' (first | exact True.intro | exact Same.refl _ | exact SameB.refl _ | exact ⟨rfl⟩ | exact Same.int rfl | exact Same.str rfl | exact Same.bool rfl | (refine Same.int ?_; simp only [List.length_append, List.length_cons, List.length_nil, zi]; omega) | (refine SameB.row' rfl fun i hi => ?_; first | rfl | exact absurd hi (Nat.not_lt_zero _)) | refine And.intro ?_ ?_ | refine SameB.cells ?_ | exact SameC.nil | refine SameC.cons ?_ ?_ | exact Same.nsl rfl | exact Same.tt rfl | exact Same.ff rfl))
        exact Same.int (by rw [IntKind.wrap_i64]; unfold zi; omega)
      · rw [zi_toNat] at h3
        refine add_c' (fun _ => (accS (ns .o) k).2) (fun _ => ⟨4, IntKind.i64.wrap ((IntKind.i64.wrap ((ns .o).getD (zi (2 * k)).toNat 0)).tdiv 2), (IntKind.i64.wrap ((ns .o).getD (zi (2 * k + 1)).toNat 0)).tmod 8⟩) (by omega) ?_
        cbv
        have e : accS (ns .o) (k + 1) = ((accS (ns .o) k).1, addS ⟨4, ((ns .o).getD (2 * k) 0).tdiv 2, ((ns .o).getD (2 * k + 1) 0).tmod 8⟩ (accS (ns .o) k).2) := by
          rw [accS, if_neg h3]
        refine ⟨k + 1, by omega, by omega, ?_⟩
        cbv
        rw [e]
        dsimp only
        rw [zi_toNat, zi_toNat, hb, hb, hq]
        (repeat' (first | exact True.intro | exact Same.refl _ | exact SameB.refl _ | exact ⟨rfl⟩ | exact Same.int rfl | exact Same.str rfl | exact Same.bool rfl | (refine Same.int ?_; simp only [List.length_append, List.length_cons, List.length_nil, zi]; omega) | (refine SameB.row' rfl fun i hi => ?_; first | rfl | exact absurd hi (Nat.not_lt_zero _)) | refine And.intro ?_ ?_ | refine SameB.cells ?_ | exact SameC.nil | refine SameC.cons ?_ ?_ | exact Same.nsl rfl | exact Same.tt rfl | exact Same.ff rfl))
        exact Same.int (by rw [IntKind.wrap_i64]; unfold zi; omega)
    all_goals
      have hk6 : k = pairs (ns .o) := by omega
      refine app_rows Ace.ch Ace.z [⟨1, 0, band ((m .o).fdiv (2 ^ 6)) 7⟩] (accS (ns .o) k).1 rfl (fun i hi => by
        have : i = 0 := by simpa using hi
        subst this
        rfl) rfl (fun i hi => rfl) (by simp only [List.length_cons, List.length_nil]; omega) ?_
      cbv
      have hsum : IntKind.i64.wrap (zi (accS (ns .o) k).1.length + zi (accS (ns .o) k).2.length) = zi ((accS (ns .o) k).1.length + (accS (ns .o) k).2.length) := by rw [IntKind.wrap_i64]; unfold zi; omega
      rw [hsum]
      ((try refine br_rev ?_); (first | refine br_dec (fun h3 => ?_) (fun h3 => ?_) | refine br_ndec (fun h3 => ?_) (fun h3 => ?_) | refine br_nbool (fun h3 => ?_) (fun h3 => ?_) | refine br_bool (fun h3 => ?_) (fun h3 => ?_)); all_goals (try dsimp only at h3); all_goals (try with_reducible replace h3 := zi_lt.1 h3); all_goals (try with_reducible replace h3 := not_zlt h3)) <;> cbv
    all_goals first
      | (refine app_rows Ace.ch Ace.z ([⟨1, 0, band ((m .o).fdiv (2 ^ 6)) 7⟩] ++ (accS (ns .o) k).1) [⟨3, 0, band ((m .o).fdiv (2 ^ 3)) 7⟩, ⟨6, 0, band (m .o) 7⟩] rfl (fun i hi => rfl) rfl (fun i hi => by
           have hi : i < 2 := hi
           match i, hi with
           | 0, _ => rfl
           | 1, _ => rfl) (by simp only [List.length_append, List.length_cons, List.length_nil]; omega) ?_
         cbv
         exact hr (fun _ => _) (by
           have h3' : (accS (ns .o) (pairs (ns .o))).1.length + (accS (ns .o) (pairs (ns .o))).2.length = 0 := by rw [← hk6]; exact zi_inj.1 h3
           unfold l9S
           dsimp only
           rw [if_pos h3', ← hk6])
         done)
      | (have h3' : ¬ (accS (ns .o) (pairs (ns .o))).1.length + (accS (ns .o) (pairs (ns .o))).2.length = 0 := by rw [← hk6]; exact fun q => h3 (zi_inj.2 q)
         have hpos : 0 < (ns .o).length := by
           rw [← hk6] at h3'
           omega
         refine safe ⟨Int.le_refl _, (zi_lt (a := 0)).2 hpos⟩ ?_
         refine safe (by decide) ?_
         rw [wrap_byte (byte_at hns (k := (0 : Int).toNat))]
         refine app_one Ace.ch Ace.z ([⟨1, 0, band ((m .o).fdiv (2 ^ 6)) 7⟩] ++ (accS (ns .o) k).1) ⟨3, 0, bxor (band ((m .o).fdiv (2 ^ 3)) 7) (((ns .o).getD 0 0).tmod 8)⟩ rfl (fun i hi => rfl) rfl rfl (by simp only [List.length_append, List.length_cons, List.length_nil]; omega) ?_
         cbv
         refine app_rows Ace.ch Ace.z _ (accS (ns .o) k).2 rfl (fun i hi => rfl) rfl (fun i hi => rfl) (by simp only [List.length_append, List.length_cons, List.length_nil]; omega) ?_
         cbv
         refine app_rows Ace.ch Ace.z _ [⟨5, 0, band ((m .o).fdiv (2 ^ 3)) 7⟩, ⟨6, 0, band (m .o) 7⟩] rfl (fun i hi => rfl) rfl (fun i hi => by
           have hi : i < 2 := hi
           match i, hi with
           | 0, _ => rfl
           | 1, _ => rfl) (by simp only [List.length_append, List.length_cons, List.length_nil]; omega) ?_
         cbv
         exact hr (fun _ => _) (by
           unfold l9S
           dsimp only
           rw [if_neg h3', ← hk6])
         done)
end Go.Proofs.Ytgjlkcdnlndlnaa

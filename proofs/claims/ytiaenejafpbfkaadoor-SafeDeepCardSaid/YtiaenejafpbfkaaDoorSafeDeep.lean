/- The law SafeDeep, walked. -/
import Derived.Test.YtiaenejafpbfkaaDoorSafeEnts
namespace Go.Proofs.YtiaenejafpbfkaaDoor
open Go Go.Proofs.YtiaenejafpbfkaaDoor.Sx F
set_option linter.unusedVariables false
set_option linter.unusedSimpArgs false

theorem stepG_mono (x : List UInt8) {d e : Int} (h : d ≤ e) : stepG x d ≤ stepG x e := by
  unfold stepG
  split
  · omega
  · split <;> omega
theorem goS_mono : ∀ (l : List (List UInt8)) {d e : Int}, d ≤ e → goS l d = false → goS l e = false
  | [], _, _, _, _ => rfl
  | x :: r, d, e, h, hg => by
    have hm := stepG_mono x h
    unfold goS at hg ⊢
    by_cases q : stepG x d < 0
    · rw [if_pos q] at hg; cases hg
    · rw [if_neg q] at hg
      rw [if_neg (by omega)]
      exact goS_mono r hm hg
theorem goS_snoc {x : List UInt8} (hx : ∀ e, stepG x e = e + 1) : ∀ (l : List (List UInt8)) {d : Int}, 0 ≤ d → goS l d = false → goS (l ++ [x]) d = false
  | [], d, hd, _ => by
    show goS [x] d = false
    unfold goS
    rw [hx, if_neg (by omega)]; rfl
  | y :: r, d, hd, hg => by
    show goS (y :: (r ++ [x])) d = false
    unfold goS at hg ⊢
    by_cases q : stepG y d < 0
    · rw [if_pos q] at hg; cases hg
    · rw [if_neg q] at hg ⊢
      exact goS_snoc hx r (by omega) hg
theorem goS_ups (m : List (List UInt8)) : ∀ (k : Nat) {d : Int}, d < k → goS (List.replicate k [46, 46] ++ m) d = true ∨ d < 0
  | 0, d, h => .inr (by omega)
  | k + 1, d, h => by
    left
    rw [List.replicate_succ, List.cons_append]
    unfold goS
    have hs : stepG [46, 46] d = d - 1 := by unfold stepG; rw [if_pos rfl]
    rw [hs]
    by_cases q : d - 1 < 0
    · rw [if_pos q]
    · rw [if_neg q]
      rcases goS_ups m k (d := d - 1) (by omega) with h1 | h1
      · exact h1
      · omega
/-- Steps up. -/
def ups (k : Nat) : List UInt8 := (List.replicate k [46, 46, 47]).flatten
theorem ups_succ (k : Nat) : ups (k + 1) = ups k ++ [46, 46, 47] := by
  unfold ups
  rw [List.replicate_succ', List.flatten_append]; simp
theorem ups_len (k : Nat) : (ups k).length = 3 * k := by
  induction k with
  | zero => rfl
  | succ k ih => rw [ups_succ, List.length_append, ih]; simp; omega
theorem split_ups (t : List UInt8) : ∀ k : Nat, splitC 47 (ups k ++ t) = List.replicate k [46, 46] ++ splitC 47 t
  | 0 => rfl
  | k + 1 => by
    have e : ups (k + 1) ++ t = [46, 46] ++ 47 :: (ups k ++ t) := by
      unfold ups
      rw [List.replicate_succ]; simp
    rw [e, splitC_at _ _ (by decide), split_ups t k, List.replicate_succ]; rfl
theorem PathG.cnt47 {p : List UInt8} (h : PathG p) : p.count 47 ≤ 8 := by have := h.cnt; rw [splitC_len] at this; omega
/-- What is within, by parts. -/
theorem inside_iff (p t : List UInt8) : insideS p t = true ↔ (pathS p = true ∧ t ≠ [] ∧ t.getD 0 0 ≠ 47 ∧ (0 : UInt8) ∉ t ∧ goS (splitC 47 t) (zi (p.count 47)) = false) := by
  unfold insideS
  simp only [Bool.and_eq_true, decide_eq_true_eq, Bool.not_eq_true', decide_eq_false_iff_not, and_assoc]
theorem inside_top {p t : List UInt8} (g : PathG p) (h : insideS p t = true) : insideS ([116, 111, 112, 47] ++ p) t = true := by
  obtain ⟨h1, h2, h3, h4, h5⟩ := (inside_iff _ _).1 h
  have e : [116, 111, 112, 47] ++ p = [116, 111, 112] ++ 47 :: p := rfl
  have hs : splitC 47 ([116, 111, 112, 47] ++ p) = [116, 111, 112] :: splitC 47 p := by rw [e, splitC_at _ _ (by decide)]
  have gl := g.len
  have gc := g.cnt
  refine (inside_iff _ _).2 ⟨pathS_of (fun x hx => ?_) (by simp; omega) (by rw [hs, List.length_cons]; omega) ?_, h2, h3, h4, goS_mono _ ?_ h5⟩
  · rw [hs] at hx
    rcases List.mem_cons.1 hx with rfl | hx
    · decide
    · exact (g.all x hx).b
  · rw [e]
    simp only [List.mem_append, List.mem_cons, not_or]
    exact ⟨by decide, by decide, g.no0⟩
  · rw [e, List.count_append, List.count_cons_self]; unfold zi; omega
theorem inside_name {p t : List UInt8} (h : insideS p t = true) : insideS p (t ++ [47, 110, 97, 109, 101]) = true := by
  obtain ⟨h1, h2, h3, h4, h5⟩ := (inside_iff _ _).1 h
  refine (inside_iff _ _).2 ⟨h1, by simp, ?_, ?_, ?_⟩
  · cases t with
    | nil => exact absurd rfl h2
    | cons a r => exact h3
  · simp only [List.mem_append, not_or]
    exact ⟨h4, by decide⟩
  · rw [show t ++ [47, 110, 97, 109, 101] = t ++ 47 :: [110, 97, 109, 101] from rfl, splitC_app]
    exact goS_snoc (x := [110, 97, 109, 101]) (fun e => by unfold stepG; rw [if_neg (by decide), if_neg (by decide)]) _ (zi_nonneg _) h5
theorem inside_dot {p t : List UInt8} (h : insideS p t = true) : insideS p ([46, 47] ++ t) = true := by
  obtain ⟨h1, h2, h3, h4, h5⟩ := (inside_iff _ _).1 h
  refine (inside_iff _ _).2 ⟨h1, by simp, by show (46 : UInt8) ≠ 47; decide, ?_, ?_⟩
  · simp only [List.mem_append, not_or]
    exact ⟨by decide, h4⟩
  · rw [show [46, 47] ++ t = [46] ++ 47 :: t from rfl, splitC_at _ _ (by decide)]
    unfold goS
    have hs : stepG [46] (zi (p.count 47)) = zi (p.count 47) := by unfold stepG; rw [if_neg (by decide), if_pos (.inl rfl)]
    have := zi_nonneg (p.count 47)
    rw [hs, if_neg (by omega)]
    exact h5
theorem inside_ups {p : List UInt8} (g : PathG p) (t : List UInt8) : insideS p (ups 30 ++ t) = false := by
  cases hb : insideS p (ups 30 ++ t) with
  | false => rfl
  | true =>
    obtain ⟨_, _, _, _, h5⟩ := (inside_iff _ _).1 hb
    have hc := g.cnt47
    rw [split_ups] at h5
    rcases goS_ups (splitC 47 t) 30 (d := zi (p.count 47)) (by unfold zi; omega) with h | h
    · rw [h] at h5; cases h5
    · have := zi_nonneg (p.count 47); omega
theorem inside_abs (p t : List UInt8) : insideS p ([47] ++ t) = false := by unfold insideS; simp
theorem inside_nil (p : List UInt8) : insideS p [] = false := by unfold insideS; simp
theorem inside_pup (p t : List UInt8) : insideS ([46, 46, 47] ++ p) t = false := by unfold insideS; rw [path_ups]; rfl
theorem inside_0 (p t : List UInt8) : insideS p (t ++ [0]) = false := by unfold insideS; simp

theorem safeDeep_c (ps ns : Th (List Int)) (hps : isBytes (ps .o)) (hs1 : short (ps .o)) (hns : isBytes (ns .o)) (hs2 : short (ns .o)) : CallAt PT l22_SafeDeep [byteI ps, byteI ns] 9999 .nil Yes := by
  refine l22_SafeDeep.of rfl rfl ?_
  cbv
  refine path_x ps hps hs1 fun p hp hpn => ?_
  have g := pathG_of hp hpn
  cbv
  refine target_c ns hns hs2 fun t ht => ?_
  cbv
  refine inside_c p t (by omega) (by omega) fun b0 hb0 => ?_
  cbv
  refine loop_rule (X := Nat) 1000 [5, 6, 7] [] (fun k => .cons 8 (.str fun _ => ups k) (.cons 9 (.int .i64 fun _ => zi k) .nil)) (fun _ => .nil) (fun k => k ≤ 30) (fun k => 30 - k) 0 ?_ (by decide) ?_
  · cbv
    (repeat' (first | exact True.intro | exact Same.refl _ | exact SameB.refl _ | exact ⟨rfl⟩ | exact Same.int rfl | exact Same.str rfl | exact Same.bool rfl | (refine Same.int ?_; simp only [List.length_append, List.length_cons, List.length_nil, zi]; omega) | (refine SameB.row' rfl fun i hi => ?_; first | rfl | exact absurd hi (Nat.not_lt_zero _)) | refine And.intro ?_ ?_ | refine SameB.cells ?_ | exact SameC.nil | refine SameC.cons ?_ ?_ | exact Same.nsl rfl | exact Same.tt rfl | exact Same.ff rfl))
  intro k hk
  have hul := ups_len k
  cbv
  ((try refine br_rev ?_); (first | refine br_dec (fun h1 => ?_) (fun h1 => ?_) | refine br_ndec (fun h1 => ?_) (fun h1 => ?_) | refine br_nbool (fun h1 => ?_) (fun h1 => ?_) | refine br_bool (fun h1 => ?_) (fun h1 => ?_)); all_goals (try dsimp only at h1); all_goals (try with_reducible replace h1 := zi_lt.1 h1); all_goals (try with_reducible replace h1 := not_zlt h1))
  · have h1 : k < 30 := h1
    cbv
    refine safe (by show (ups k).length + 3 ≤ 9223372036854775807; omega) ?_
    refine ⟨k + 1, h1, by omega, ?_⟩
    cbv
    rw [zi_succ (by omega)]
    rw [← ups_succ]
    (repeat' (first | exact True.intro | exact Same.refl _ | exact SameB.refl _ | exact ⟨rfl⟩ | exact Same.int rfl | exact Same.str rfl | exact Same.bool rfl | (refine Same.int ?_; simp only [List.length_append, List.length_cons, List.length_nil, zi]; omega) | (refine SameB.row' rfl fun i hi => ?_; first | rfl | exact absurd hi (Nat.not_lt_zero _)) | refine And.intro ?_ ?_ | refine SameB.cells ?_ | exact SameC.nil | refine SameC.cons ?_ ?_ | exact Same.nsl rfl | exact Same.tt rfl | exact Same.ff rfl))
  have hk30 : k = 30 := Nat.le_antisymm hk h1
  subst hk30
  cbv
  have rest : ∀ {P Q : Prop}, (insideS (p .o) (t .o) = true → P) → (insideS (p .o) (t .o) = false → Q) → (b0 .o = true → P) ∧ (b0 .o = false → Q) := fun h1 h2 => ⟨fun q => h1 (hb0 ▸ q), fun q => h2 (hb0 ▸ q)⟩
  refine rest (fun h2 => ?_) (fun h2 => ?_)
  · cbv
    refine safe (by show 4 + (p .o).length ≤ 9223372036854775807; omega) ?_
    refine inside_c (fun _ => [116, 111, 112, 47] ++ p .o) t (by simp; omega) (by omega) fun b1 hb1 => ?_
    cbv
    have q1 : (!b1 .o) = false := by rw [hb1, inside_top g h2]; rfl
    (first | refine br_is (q1) ?_ | refine br_not (q1) ?_ | refine br_rev (br_is (q1) ?_) | refine br_rev (br_not (q1) ?_))
    cbv
    refine safe (by show (t .o).length + 5 ≤ 9223372036854775807; omega) ?_
    refine inside_c p (fun _ => t .o ++ [47, 110, 97, 109, 101]) (by omega) (by simp; omega) fun b2 hb2 => ?_
    cbv
    have q2 : (!b2 .o) = false := by rw [hb2, inside_name h2]; rfl
    (first | refine br_is (q2) ?_ | refine br_not (q2) ?_ | refine br_rev (br_is (q2) ?_) | refine br_rev (br_not (q2) ?_))
    cbv
    refine safe (by show 2 + (t .o).length ≤ 9223372036854775807; omega) ?_
    refine inside_c p (fun _ => [46, 47] ++ t .o) (by omega) (by simp; omega) fun b3 hb3 => ?_
    cbv
    have q3 : (!b3 .o) = false := by rw [hb3, inside_dot h2]; rfl
    (first | refine br_is (q3) ?_ | refine br_not (q3) ?_ | refine br_rev (br_is (q3) ?_) | refine br_rev (br_not (q3) ?_))
    cbv
    refine safe (by show (ups 30).length + (t .o).length ≤ 9223372036854775807; omega) ?_
    refine inside_c p (fun _ => ups 30 ++ t .o) (by omega) (by rw [List.length_append]; omega) fun c1 hc1 => ?_
    cbv
    have r1 : (!c1 .o) = true := by rw [hc1, inside_ups g]; rfl
    (first | refine br_is (r1) ?_ | refine br_not (r1) ?_ | refine br_rev (br_is (r1) ?_) | refine br_rev (br_not (r1) ?_))
    cbv
    refine safe (by show 1 + (t .o).length ≤ 9223372036854775807; omega) ?_
    refine inside_c p (fun _ => [47] ++ t .o) (by omega) (by simp; omega) fun c2 hc2 => ?_
    cbv
    have r2 : (!c2 .o) = true := by rw [hc2, inside_abs]; rfl
    (first | refine br_is (r2) ?_ | refine br_not (r2) ?_ | refine br_rev (br_is (r2) ?_) | refine br_rev (br_not (r2) ?_))
    cbv
    refine inside_c p (fun _ => []) (by omega) (by decide) fun c3 hc3 => ?_
    cbv
    have r3 : (!c3 .o) = true := by rw [hc3, inside_nil]; rfl
    (first | refine br_is (r3) ?_ | refine br_not (r3) ?_ | refine br_rev (br_is (r3) ?_) | refine br_rev (br_not (r3) ?_))
    cbv
    refine safe (by show 3 + (p .o).length ≤ 9223372036854775807; omega) ?_
    refine inside_c (fun _ => [46, 46, 47] ++ p .o) (fun _ => [97]) (by simp; omega) (by decide) fun c4 hc4 => ?_
    cbv
    have r4 : (!c4 .o) = true := by rw [hc4, inside_pup]; rfl
    (first | refine br_is (r4) ?_ | refine br_not (r4) ?_ | refine br_rev (br_is (r4) ?_) | refine br_rev (br_not (r4) ?_))
    cbv
    refine safe (by show (t .o).length + 1 ≤ 9223372036854775807; omega) ?_
    refine inside_c p (fun _ => t .o ++ [0]) (by omega) (by simp; omega) fun c5 hc5 => ?_
    cbv
    have r5 : (!c5 .o) = true := by rw [hc5, inside_0]; rfl
    (first | refine br_is (r5) ?_ | refine br_not (r5) ?_ | refine br_rev (br_is (r5) ?_) | refine br_rev (br_not (r5) ?_))
    cbv
    refine awake22_c fun b hb => ?_
    cbv
    exact ⟨b, rfl, hb⟩
  · cbv
    refine safe (by show (ups 30).length + (t .o).length ≤ 9223372036854775807; omega) ?_
    refine inside_c p (fun _ => ups 30 ++ t .o) (by omega) (by rw [List.length_append]; omega) fun c1 hc1 => ?_
    cbv
    have r1 : (!c1 .o) = true := by rw [hc1, inside_ups g]; rfl
    (first | refine br_is (r1) ?_ | refine br_not (r1) ?_ | refine br_rev (br_is (r1) ?_) | refine br_rev (br_not (r1) ?_))
    cbv
    refine safe (by show 1 + (t .o).length ≤ 9223372036854775807; omega) ?_
    refine inside_c p (fun _ => [47] ++ t .o) (by omega) (by simp; omega) fun c2 hc2 => ?_
    cbv
    have r2 : (!c2 .o) = true := by rw [hc2, inside_abs]; rfl
    (first | refine br_is (r2) ?_ | refine br_not (r2) ?_ | refine br_rev (br_is (r2) ?_) | refine br_rev (br_not (r2) ?_))
    cbv
    refine inside_c p (fun _ => []) (by omega) (by decide) fun c3 hc3 => ?_
    cbv
    have r3 : (!c3 .o) = true := by rw [hc3, inside_nil]; rfl
    (first | refine br_is (r3) ?_ | refine br_not (r3) ?_ | refine br_rev (br_is (r3) ?_) | refine br_rev (br_not (r3) ?_))
    cbv
    refine safe (by show 3 + (p .o).length ≤ 9223372036854775807; omega) ?_
    refine inside_c (fun _ => [46, 46, 47] ++ p .o) (fun _ => [97]) (by simp; omega) (by decide) fun c4 hc4 => ?_
    cbv
    have r4 : (!c4 .o) = true := by rw [hc4, inside_pup]; rfl
    (first | refine br_is (r4) ?_ | refine br_not (r4) ?_ | refine br_rev (br_is (r4) ?_) | refine br_rev (br_not (r4) ?_))
    cbv
    refine safe (by show (t .o).length + 1 ≤ 9223372036854775807; omega) ?_
    refine inside_c p (fun _ => t .o ++ [0]) (by omega) (by simp; omega) fun c5 hc5 => ?_
    cbv
    have r5 : (!c5 .o) = true := by rw [hc5, inside_0]; rfl
    (first | refine br_is (r5) ?_ | refine br_not (r5) ?_ | refine br_rev (br_is (r5) ?_) | refine br_rev (br_not (r5) ?_))
    cbv
    refine awake22_c fun b hb => ?_
    cbv
    exact ⟨b, rfl, hb⟩
end Go.Proofs.YtiaenejafpbfkaaDoor

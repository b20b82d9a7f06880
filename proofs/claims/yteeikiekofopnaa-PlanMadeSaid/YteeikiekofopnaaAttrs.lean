/- What is tried of an entry: plan.Attrs, walked. -/
import Derived.Test.YteeikiekofopnaaEnt
import Derived.Test.YteeikiekofopnaaFewer
namespace Go.Proofs.Yteeikiekofopnaa
open Go Go.Proofs.Yteeikiekofopnaa.Sx F
set_option linter.unusedVariables false
set_option linter.unusedSimpArgs false

theorem zpos_dec (n : Nat) : decide (0 < zi n) = decide (0 < n) := by unfold zi; rw [decide_eq_decide]; omega
def hasA (e : Entry) (a : Int) : Bool :=
  if a = 10 then decide (e.kind = 6) else if a = 3 then !decide (e.kind = 3) else if a = 4 then decide (0 < e.mt.acl.length) else if a = 5 then decide (0 < e.mt.dflt.length) else if a = 6 then decide (0 < e.mt.xs.length)
  else if a = 7 then !decide (e.mt.caps.ver = 0) else if a = 9 then !decide (e.mt.flags = 0) else true
theorem hasA_c (e : Th Entry) (a : Th Int) {d : Nat} {K : ARes → BL → Prop} (hr : ∀ b : Th Bool, b .o = hasA (e .o) (a .o) → K (.ret (.bool b)) .nil) : CallAt PT plan_has [Entry.av e, .int .i64 a] d .nil K := by
  refine CallAt.res ?_
  refine plan_has.of rfl rfl ?_
  cbv
  have fin : ∀ (b : Th Bool) {x : AV}, b .o = hasA (e .o) (a .o) → Same x (.bool b) → ∃ r', SameR (.ret x) r' ∧ K r' .nil := fun b x h1 h2 => ⟨_, .ret h2, hr b h1⟩
  ((try refine br_rev ?_); (first | refine br_dec (fun h1 => ?_) (fun h1 => ?_) | refine br_ndec (fun h1 => ?_) (fun h1 => ?_) | refine br_nbool (fun h1 => ?_) (fun h1 => ?_) | refine br_bool (fun h1 => ?_) (fun h1 => ?_)); all_goals (try dsimp only at h1); all_goals (try with_reducible replace h1 := zi_lt.1 h1); all_goals (try with_reducible replace h1 := not_zlt h1)) <;> cbv
  · exact fin _ (by unfold hasA; rw [if_pos h1]) (.refl _)
  · ((try refine br_rev ?_); (first | refine br_dec (fun h2 => ?_) (fun h2 => ?_) | refine br_ndec (fun h2 => ?_) (fun h2 => ?_) | refine br_nbool (fun h2 => ?_) (fun h2 => ?_) | refine br_bool (fun h2 => ?_) (fun h2 => ?_)); all_goals (try dsimp only at h2); all_goals (try with_reducible replace h2 := zi_lt.1 h2); all_goals (try with_reducible replace h2 := not_zlt h2)) <;> cbv
    · exact fin _ (by unfold hasA; rw [if_neg h1, if_pos h2]) (.refl _)
    · ((try refine br_rev ?_); (first | refine br_dec (fun h3 => ?_) (fun h3 => ?_) | refine br_ndec (fun h3 => ?_) (fun h3 => ?_) | refine br_nbool (fun h3 => ?_) (fun h3 => ?_) | refine br_bool (fun h3 => ?_) (fun h3 => ?_)); all_goals (try dsimp only at h3); all_goals (try with_reducible replace h3 := zi_lt.1 h3); all_goals (try with_reducible replace h3 := not_zlt h3)) <;> cbv
      · exact fin _ (by unfold hasA; rw [if_neg h1, if_neg h2, if_pos h3]; exact zpos_dec _) (.refl _)
      · ((try refine br_rev ?_); (first | refine br_dec (fun h4 => ?_) (fun h4 => ?_) | refine br_ndec (fun h4 => ?_) (fun h4 => ?_) | refine br_nbool (fun h4 => ?_) (fun h4 => ?_) | refine br_bool (fun h4 => ?_) (fun h4 => ?_)); all_goals (try dsimp only at h4); all_goals (try with_reducible replace h4 := zi_lt.1 h4); all_goals (try with_reducible replace h4 := not_zlt h4)) <;> cbv
        · exact fin _ (by unfold hasA; rw [if_neg h1, if_neg h2, if_neg h3, if_pos h4]; exact zpos_dec _) (.refl _)
        · ((try refine br_rev ?_); (first | refine br_dec (fun h5 => ?_) (fun h5 => ?_) | refine br_ndec (fun h5 => ?_) (fun h5 => ?_) | refine br_nbool (fun h5 => ?_) (fun h5 => ?_) | refine br_bool (fun h5 => ?_) (fun h5 => ?_)); all_goals (try dsimp only at h5); all_goals (try with_reducible replace h5 := zi_lt.1 h5); all_goals (try with_reducible replace h5 := not_zlt h5)) <;> cbv
          · exact fin _ (by unfold hasA; rw [if_neg h1, if_neg h2, if_neg h3, if_neg h4, if_pos h5]; exact zpos_dec _) (.refl _)
          · ((try refine br_rev ?_); (first | refine br_dec (fun h6 => ?_) (fun h6 => ?_) | refine br_ndec (fun h6 => ?_) (fun h6 => ?_) | refine br_nbool (fun h6 => ?_) (fun h6 => ?_) | refine br_bool (fun h6 => ?_) (fun h6 => ?_)); all_goals (try dsimp only at h6); all_goals (try with_reducible replace h6 := zi_lt.1 h6); all_goals (try with_reducible replace h6 := not_zlt h6)) <;> cbv
            · exact fin _ (by unfold hasA; rw [if_neg h1, if_neg h2, if_neg h3, if_neg h4, if_neg h5, if_pos h6]) (.refl _)
            · ((try refine br_rev ?_); (first | refine br_dec (fun h7 => ?_) (fun h7 => ?_) | refine br_ndec (fun h7 => ?_) (fun h7 => ?_) | refine br_nbool (fun h7 => ?_) (fun h7 => ?_) | refine br_bool (fun h7 => ?_) (fun h7 => ?_)); all_goals (try dsimp only at h7); all_goals (try with_reducible replace h7 := zi_lt.1 h7); all_goals (try with_reducible replace h7 := not_zlt h7)) <;> cbv
              · exact fin _ (by unfold hasA; rw [if_neg h1, if_neg h2, if_neg h3, if_neg h4, if_neg h5, if_neg h6, if_pos h7]) (.refl _)
              · exact fin (fun _ => true) (by unfold hasA; rw [if_neg h1, if_neg h2, if_neg h3, if_neg h4, if_neg h5, if_neg h6, if_neg h7]) (.tt rfl)

def BE (e : Th Entry) : BL := .cons 10001 (.cells (Entry.ch e)) .nil
def BB (l : Th (List Int)) (e : Th Entry) : BL := .cons 10001 (.cells (Entry.ch e)) (.cons 10000 (rowB 1 intCh 0 l) .nil)
def dels (e : Th Entry) : AV := .fn (.func plan_Attrs_1) .nil (.cons (.ptr 10001 0) .nil)

theorem attrs1_c (e : Th Entry) (a : Th Int) {d : Nat} {K : ARes → BL → Prop} (hr : ∀ b : Th Bool, b .o = !hasA (e .o) (a .o) → K (.ret (.bool b)) (BE e)) : CallAt PT plan_Attrs_1 [.int .i64 a, .ptr 10001 0] d (BE e) K := by
  refine plan_Attrs_1.of rfl rfl ?_
  cbv
  refine hasA_c e a fun b hb => ?_
  cbv
  exact hr _ (by rw [← hb])

theorem attrs1i_c (e : Th Entry) (a : Th Int) {d : Nat} {K : ARes → BL → Prop} (hr : ∀ b : Th Bool, b .o = !hasA (e .o) (a .o) → K (.ret (.bool b)) .nil) : CallAt PT plan_Attrs_1 [.int .i64 a, .iptr (Entry.ch e)] d .nil K := by
  refine plan_Attrs_1.of rfl rfl ?_
  cbv
  refine hasA_c e a fun b hb => ?_
  cbv
  exact hr _ (by rw [← hb])

theorem indexA_c (e : Th Entry) (l : Th (List Int)) (hl : short (l .o)) {d : Nat} {K : ARes → BL → Prop}
    (hr : ∀ n : Th Int, ((n .o = -1 ∧ ∀ j, j < (l .o).length → hasA (e .o) ((l .o).getD j 0) = true) ∨ ∃ k, k < (l .o).length ∧ n .o = zi k ∧ (∀ j, j < k → hasA (e .o) ((l .o).getD j 0) = true) ∧ hasA (e .o) ((l .o).getD k 0) = false) → K (.ret (.int .i64 n)) .nil) :
    CallAt PT slices_IndexFunc_int_int [ints l, .fn (.func plan_Attrs_1) .nil (.cons (.iptr (Entry.ch e)) .nil)] d .nil K := by
  refine slices_IndexFunc_int_int.of rfl rfl ?_
  cbv
  refine loop_rule (X := Nat) 1000 [0, 1, 7] [] (fun k => .cons 8 (.int .i64 fun _ => zi k) .nil) (fun _ => .nil) (fun k => k ≤ (l .o).length ∧ ∀ j, j < k → hasA (e .o) ((l .o).getD j 0) = true) (fun k => (l .o).length - k) 0 ?_ ⟨Nat.zero_le _, fun j hj => by omega⟩ ?_
  · cbv
    (repeat' (first | exact True.intro | exact Same.refl _ | exact SameB.refl _ | exact ⟨rfl⟩ | exact Same.int rfl | exact Same.str rfl | exact Same.bool rfl | (refine Same.int ?_; simp only [List.length_append, List.length_cons, List.length_nil, zi]; omega) | (refine SameB.row' rfl fun i hi => ?_; first | rfl | exact absurd hi (Nat.not_lt_zero _)) | refine And.intro ?_ ?_))
  · rintro k ⟨hk, hk2⟩
    cbv
    ((try refine br_rev ?_); (first | refine br_dec (fun h1 => ?_) (fun h1 => ?_) | refine br_ndec (fun h1 => ?_) (fun h1 => ?_) | refine br_nbool (fun h1 => ?_) (fun h1 => ?_) | refine br_bool (fun h1 => ?_) (fun h1 => ?_)); all_goals (try dsimp only at h1); all_goals (try with_reducible replace h1 := zi_lt.1 h1); all_goals (try with_reducible replace h1 := not_zlt h1))
    · cbv
      refine safe ⟨zi_nonneg _, zi_lt.2 h1⟩ ?_
      refine attrs1i_c e (fun _ => (l .o).getD (zi k).toNat 0) fun b hb => ?_
      rw [zi_toNat] at hb
      cbv
      refine br_bool (fun h2 => ?_) (fun h2 => ?_)
      · cbv
        exact hr (fun _ => zi k) (.inr ⟨k, h1, rfl, hk2, by have := hb.symm.trans h2; simpa using this⟩)
      · cbv
        refine ⟨k + 1, ⟨h1, ?_⟩, by omega, ?_⟩
        · intro j hj
          by_cases he : j = k
          · subst he; have := hb.symm.trans h2; simpa using this
          · exact hk2 j (by omega)
        · cbv
          rw [zi_succ (by unfold short at hl; omega)]
          (repeat' (first | exact True.intro | exact Same.refl _ | exact SameB.refl _ | exact ⟨rfl⟩ | exact Same.int rfl | exact Same.str rfl | exact Same.bool rfl | (refine Same.int ?_; simp only [List.length_append, List.length_cons, List.length_nil, zi]; omega) | (refine SameB.row' rfl fun i hi => ?_; first | rfl | exact absurd hi (Nat.not_lt_zero _)) | refine And.intro ?_ ?_))
    · cbv
      exact hr (fun _ => -1) (.inl ⟨rfl, fun j hj => hk2 j (by omega)⟩)

/-- What is kept of the first j. -/
def keptA (e : Entry) (L : List Int) (j : Nat) : List Int := (L.take j).filter (hasA e)
theorem keptA_le (e : Entry) (L : List Int) (j : Nat) : (keptA e L j).length ≤ j := by
  unfold keptA
  refine Nat.le_trans (List.length_filter_le _ _) ?_
  rw [List.length_take]; omega
theorem keptA_succ (e : Entry) (L : List Int) (j : Nat) (h : j < L.length) : keptA e L (j + 1) = if hasA e (L.getD j 0) = true then keptA e L j ++ [L.getD j 0] else keptA e L j := by
  unfold keptA
  rw [List.take_add_one, List.filter_append, List.getD_eq_getElem?_getD, List.getElem?_eq_getElem h]
  simp only [Option.toList_some, Option.getD_some]
  by_cases q : hasA e L[j] = true
  · rw [if_pos q]; simp [q]
  · rw [if_neg q]; simp [q]
theorem keptA_all (e : Entry) (L : List Int) (k : Nat) (hk : k ≤ L.length) (h : ∀ j, j < k → hasA e (L.getD j 0) = true) : keptA e L k = L.take k := by
  unfold keptA
  rw [List.filter_eq_self]
  intro x hx
  obtain ⟨i, hi, rfl⟩ := List.getElem_of_mem hx
  rw [List.length_take] at hi
  have := h i (by omega)
  rw [List.getD_eq_getElem?_getD, List.getElem?_eq_getElem (by omega)] at this
  simpa using this
/-- The row as it is when the first j have been looked at. -/
structure DelI (e : Entry) (L : List Int) (j : Nat) (R : List Int) : Prop where
  len : R.length = L.length
  done : R.take (keptA e L j).length = keptA e L j
  rest : R.drop j = L.drop j
theorem DelI.at {e : Entry} {L R : List Int} {j : Nat} (h : DelI e L j R) : R.getD j 0 = L.getD j 0 := by
  have := congrArg (·.getD 0 0) h.rest
  simpa [List.getD_eq_getElem?_getD, List.getElem?_drop] using this
theorem DelI.skip {e : Entry} {L R : List Int} {j : Nat} (h : DelI e L j R) (hj : j < L.length) (hp : hasA e (L.getD j 0) = false) : DelI e L (j + 1) R := by
  have hk : keptA e L (j + 1) = keptA e L j := by rw [keptA_succ e L j hj, if_neg (by rw [hp]; simp)]
  refine ⟨h.len, by rw [hk]; exact h.done, ?_⟩
  rw [← List.drop_drop, ← List.drop_drop, h.rest]
theorem DelI.keep {e : Entry} {L R : List Int} {j : Nat} (h : DelI e L j R) (hj : j < L.length) (hp : hasA e (L.getD j 0) = true) (hi : (keptA e L j).length ≤ j) : DelI e L (j + 1) (R.set (keptA e L j).length (L.getD j 0)) ∧ (keptA e L (j + 1)).length = (keptA e L j).length + 1 := by
  have hk : keptA e L (j + 1) = keptA e L j ++ [L.getD j 0] := by rw [keptA_succ e L j hj, if_pos hp]
  have hl := h.len
  refine ⟨⟨by rw [List.length_set]; exact h.len, ?_, ?_⟩, by rw [hk, List.length_append]; rfl⟩
  · rw [hk, List.length_append, List.length_singleton, List.take_add_one, List.take_set_of_le (Nat.le_refl _), h.done, List.getElem?_set_self (by omega)]
    rfl
  · rw [List.drop_set_of_lt (by omega), ← List.drop_drop, ← List.drop_drop, h.rest]

theorem delFunc_c (e : Th Entry) (l : Th (List Int)) (hl : short (l .o)) {d : Nat} (hd : d < 10000) {K : ARes → BL → Prop}
    (hr1 : (l .o).filter (hasA (e .o)) = l .o → K (.ret (.row 10000)) (.cons 10000 (rowB 1 intCh 0 l) (BE e)))
    (hr2 : ∀ (n : Th Nat) (g : Th Nat → AV) (X : Blk), n .o = ((l .o).filter (hasA (e .o))).length → (∀ i, i < n .o → (g fun _ => i) = intCh fun _ => ((l .o).filter (hasA (e .o))).getD i 0) →
      K (.ret (.row 10000)) (.cons 10000 (.row 1 n g) (.cons 10000 X (BE e)))) :
    CallAt PT slices_DeleteFunc_int_int [.row 10000, dels e] d (BB l e) K := by
  refine CallAt.trim 10000 rfl (by omega) ?_
  refine slices_DeleteFunc_int_int.of rfl rfl ?_
  cbv
  refine indexA_c e l hl fun n hn => ?_
  cbv
  rcases hn with ⟨hn, hall⟩ | ⟨k, hk, hn, hkeep, hdel⟩
  · refine br_dec (fun _ => ?_) (fun q => absurd hn q)
    cbv
    have hf : (l .o).filter (hasA (e .o)) = l .o := by
      have := keptA_all (e .o) (l .o) (l .o).length (Nat.le_refl _) hall
      unfold keptA at this
      rwa [List.take_length] at this
    exact .inl (hr1 hf)
  · refine br_dec (fun q => absurd (q.symm.trans hn) (by have := zi_nonneg k; omega)) (fun _ => ?_)
    cbv
    have hs : IntKind.i64.wrap (n .o + 1) = zi (k + 1) := by rw [hn]; exact zi_succ (by unfold short at hl; omega)
    have hk0 : keptA (e .o) (l .o) (k + 1) = (l .o).take k := by
      rw [keptA_succ _ _ _ hk, if_neg (by rw [hdel]; simp), keptA_all _ _ _ (by omega) hkeep]
    have hk1 : (keptA (e .o) (l .o) (k + 1)).length = k := by rw [hk0, List.length_take]; omega
    refine loop_at (X := Nat × List Int) 1000 [0, 1] [10001] (fun _ x => .cons 5 (.int .i64 fun _ => zi (keptA (e .o) (l .o) x.1).length) (.cons 6 (.int .i64 fun _ => zi x.1) .nil)) (fun _ x => .cons 10000 (rowB 1 intCh 0 fun _ => x.2) .nil)
      (fun x => x.1 ≤ (l .o).length ∧ (keptA (e .o) (l .o) x.1).length < x.1 ∧ DelI (e .o) (l .o) x.1 x.2) (fun x => (l .o).length - x.1) (k + 1, l .o) ?_ ⟨hk, by dsimp only; rw [hk1]; omega, rfl, by dsimp only; rw [hk1, hk0], rfl⟩ ?_
    · cbv
      (repeat' (first | exact True.intro | exact Same.refl _ | exact SameB.refl _ | exact ⟨rfl⟩ | exact Same.int rfl | exact Same.str rfl | exact Same.bool rfl | (refine Same.int ?_; simp only [List.length_append, List.length_cons, List.length_nil, zi]; omega) | (refine SameB.row' rfl fun i hi => ?_; first | rfl | exact absurd hi (Nat.not_lt_zero _)) | refine And.intro ?_ ?_))
      all_goals first | exact Same.int (by rw [hn, hk1]) | exact Same.int hs
    · rintro ⟨j, R⟩ ⟨hj, hij, hI⟩
      dsimp only at hj hij hI
      have hRl := hI.len
      cbv
      ((try refine br_rev ?_); (first | refine br_dec (fun h1 => ?_) (fun h1 => ?_) | refine br_ndec (fun h1 => ?_) (fun h1 => ?_) | refine br_nbool (fun h1 => ?_) (fun h1 => ?_) | refine br_bool (fun h1 => ?_) (fun h1 => ?_)); all_goals (try dsimp only at h1); all_goals (try with_reducible replace h1 := zi_lt.1 h1); all_goals (try with_reducible replace h1 := not_zlt h1))
      · have h1' : j < (l .o).length := by rw [← hRl]; exact h1
        have hat := hI.at
        cbv
        refine safe ⟨zi_nonneg _, zi_lt.2 h1⟩ ?_
        refine safe (by show (zi j).toNat < _; rw [zi_toNat]; exact h1) ?_
        refine attrs1_c e (fun _ => R.getD (zi j).toNat 0) fun b hb => ?_
        rw [zi_toNat, hat] at hb
        cbv
        refine br_nbool (fun h2 => ?_) (fun h2 => ?_)
        · have h2' : hasA (e .o) ((l .o).getD j 0) = true := by have := hb.symm.trans h2; simpa using this
          obtain ⟨hI2, hlen⟩ := hI.keep h1' h2' (by omega)
          cbv
          refine safe ⟨zi_nonneg _, zi_lt.2 (by show (keptA (e .o) (l .o) j).length < R.length; omega)⟩ ?_
          refine put_rows intCh 0 R (R.getD j 0) rfl (fun i hi => rfl) (by show (zi (keptA (e .o) (l .o) j).length).toNat < R.length; rw [zi_toNat]; omega) (by rw [zi_toNat]; rfl) ?_
          cbv
          refine ⟨(j + 1, R.set (keptA (e .o) (l .o) j).length ((l .o).getD j 0)), ⟨h1', by dsimp only; omega, hI2⟩, by dsimp only; omega, ?_⟩
          cbv
          have e1 := zi_succ (k := (keptA (e .o) (l .o) j).length) (by unfold short at hl; omega)
          have e2 := zi_succ (k := j) (by unfold short at hl; omega)
          rw [hlen, ← hat]
          dsimp only
          rw [zi_toNat]
          (repeat' (first | exact True.intro | exact Same.refl _ | exact SameB.refl _ | exact ⟨rfl⟩ | exact Same.int rfl | exact Same.str rfl | exact Same.bool rfl | (refine Same.int ?_; simp only [List.length_append, List.length_cons, List.length_nil, zi]; omega) | (refine SameB.row' rfl fun i hi => ?_; first | rfl | exact absurd hi (Nat.not_lt_zero _)) | refine And.intro ?_ ?_))
          all_goals first | exact Same.int e1 | exact Same.int e2 | exact SameB.row' (by simp) fun i hi => rfl
        · have h2' : hasA (e .o) ((l .o).getD j 0) = false := by have := hb.symm.trans h2; simpa using this
          have hk2 : keptA (e .o) (l .o) (j + 1) = keptA (e .o) (l .o) j := by rw [keptA_succ _ _ _ h1', if_neg (by rw [h2']; simp)]
          cbv
          refine ⟨(j + 1, R), ⟨h1', by dsimp only; rw [hk2]; omega, hI.skip h1' h2'⟩, by dsimp only; omega, ?_⟩
          cbv
          rw [hk2, zi_succ (by unfold short at hl; omega)]
          (repeat' (first | exact True.intro | exact Same.refl _ | exact SameB.refl _ | exact ⟨rfl⟩ | exact Same.int rfl | exact Same.str rfl | exact Same.bool rfl | (refine Same.int ?_; simp only [List.length_append, List.length_cons, List.length_nil, zi]; omega) | (refine SameB.row' rfl fun i hi => ?_; first | rfl | exact absurd hi (Nat.not_lt_zero _)) | refine And.intro ?_ ?_))
      · have hjl : j = (l .o).length := by
          have : R.length ≤ j := h1
          omega
        have hkf : keptA (e .o) (l .o) j = (l .o).filter (hasA (e .o)) := by unfold keptA; rw [hjl, List.take_length]
        cbv
        refine safe ⟨zi_nonneg _, zi_le.2 (by show (keptA (e .o) (l .o) j).length ≤ R.length; omega), Int.le_refl _⟩ ?_
        have hle : (keptA (e .o) (l .o) j).length ≤ R.length := by omega
        refine clr_rows intCh 0 R rfl (fun i hi => rfl) rfl (by dsimp only; rw [zi_toNat]; unfold zi; omega) ?_
        cbv
        refine safe ⟨by decide, zi_nonneg _, zi_le.2 hle⟩ ?_
        refine .inr ⟨1, _, _, _, _, rfl, rfl, ?_, rfl, fun x hx => ?_, hr2 _ _ _ ?_ (fun i hi => ?_)⟩
        · show (zi (keptA (e .o) (l .o) j).length - 0).toNat ≤ R.length
          unfold zi; omega
        · rw [BL.get_cons] at hx
          split at hx
          · exact hx
          · rw [BL.get_cons] at hx
            split at hx
            · simp [Blk.locs, AV.locs, Entry.ch, Meta.ch, AV.app, aces, xattrs] at hx
            · exact hx
        · show (zi (keptA (e .o) (l .o) j).length - 0).toNat = _
          rw [← hkf]; unfold zi; omega
        · have hi : i < (zi (keptA (e .o) (l .o) j).length - 0).toNat := hi
          have hi' : i < (keptA (e .o) (l .o) j).length := by unfold zi at hi; omega
          show (intCh fun _ => if (zi (keptA (e .o) (l .o) j).length).toNat ≤ i ∧ _ then 0 else R.getD i 0) = _
          rw [if_neg (by rw [zi_toNat]; omega), ← hkf]
          congr 1
          funext _
          conv => rhs; rw [← hI.done]
          rw [getD_take _ _ _ _ hi']

def attrsAll : List Int := [10, 2, 3, 4, 5, 6, 7, 8, 9]
def attrsS (e : Entry) : List Int := if e.kind = 2 then [] else attrsAll.filter (hasA e)
theorem attrs_c (e : Th Entry) {d : Nat} {K : ARes → BL → Prop} (hr : ∀ r : Th (List Int), r .o = attrsS (e .o) → K (.ret (ints r)) .nil) : CallAt PT plan_Attrs [Entry.av e] d .nil K := by
  refine CallAt.res ?_
  refine plan_Attrs.of rfl rfl ?_
  cbv
  ((try refine br_rev ?_); (first | refine br_dec (fun h1 => ?_) (fun h1 => ?_) | refine br_ndec (fun h1 => ?_) (fun h1 => ?_) | refine br_nbool (fun h1 => ?_) (fun h1 => ?_) | refine br_bool (fun h1 => ?_) (fun h1 => ?_)); all_goals (try dsimp only at h1); all_goals (try with_reducible replace h1 := zi_lt.1 h1); all_goals (try with_reducible replace h1 := not_zlt h1)) <;> cbv
  · exact ⟨_, .ret (y := ints fun _ => []) (.nsl rfl), hr _ (by unfold attrsS; rw [if_pos h1])⟩
  · refine keep_row 7 9500 rfl rfl rfl ?_
    refine row_told 9500 (fun _ => attrsAll.length) (fun i => intCh fun _ => attrsAll.getD (i .o) 0) rfl rfl (fun i hi => Fits.of_eq ?_) ?_
    · replace hi : i < 9 := hi
      match i, hi with
      | 0, _ | 1, _ | 2, _ | 3, _ | 4, _ | 5, _ | 6, _ | 7, _ | 8, _ => rfl
    refine go_on 1000 ?_
    cbv
    refine CallAt.frameP [(10001, 1), (10000, 9500)] [.row 10000, dels e] (by kernel_rfl) rfl fun K1 hK1 => ?_
    have fin : ∀ (n : Th Nat) (g : Th Nat → AV), n .o = (attrsAll.filter (hasA (e .o))).length → (∀ i, i < n .o → (g fun _ => i) = intCh fun _ => (attrsAll.filter (hasA (e .o))).getD i 0) → ∃ r', SameR (.ret (.sl 1 n g)) r' ∧ K r' .nil := fun n g h1' h2' =>
      ⟨_, .ret (y := ints fun _ => attrsAll.filter (hasA (e .o))) (.sl h1' h2'), hr _ (by unfold attrsS; rw [if_neg h1])⟩
    cbv
    refine delFunc_c e (fun _ => attrsAll) (by unfold short; decide) (by decide) (fun hf => hK1 _ _ ?_) (fun n g X hn hg => hK1 _ _ ?_)
    · cbv
      exact fin _ _ (by rw [hf]) (fun i hi => by rw [hf])
    · cbv
      exact fin n g hn hg
end Go.Proofs.Yteeikiekofopnaa

/- The law SafeEntries, walked. -/
import Derived.Test.YtiaenejafpbfkaaDoorSafeMade
namespace Go.Proofs.YtiaenejafpbfkaaDoor
open Go Go.Proofs.YtiaenejafpbfkaaDoor.Sx F
set_option linter.unusedVariables false
set_option linter.unusedSimpArgs false

theorem splitC_app (c : UInt8) : ∀ (a b : List UInt8), splitC c (a ++ c :: b) = splitC c a ++ splitC c b
  | [], b => by
    have h : splitC c (c :: b) = [] :: splitC c b := by rw [splitC, if_pos rfl]
    exact h
  | x :: r, b => by
    show splitC c (x :: (r ++ c :: b)) = splitC c (x :: r) ++ _
    rw [splitC, splitC, splitC_app c r b]
    by_cases h : x = c
    · rw [if_pos h, if_pos h]; rfl
    · rw [if_neg h, if_neg h]
      cases hs : splitC c r with
      | nil => have := splitC_len c r; rw [hs] at this; simp at this
      | cons a t => rfl
theorem NameOk.b {x : List UInt8} (h : NameOk x) : nameB x = true := by
  have h1 := h.len
  have h2 := h.ne
  have h3 : x ≠ [46] := fun q => h.no46 (by rw [q]; decide)
  have h4 : x ≠ [46, 46] := fun q => h.no46 (by rw [q]; decide)
  have h5 : x.length ≤ 255 := by omega
  unfold nameB
  simp [h2, h3, h4, h5]
/-- What a path that the laws make is. -/
structure PathG (p : List UInt8) : Prop where
  all : ∀ x ∈ splitC 47 p, NameOk x
  cnt : (splitC 47 p).length ≤ 9
  no0 : (0 : UInt8) ∉ p
  len : p.length ≤ 700
theorem pathN_g : ∀ {k : Nat} {p : List UInt8}, PathN k p → (∀ x ∈ splitC 47 p, NameOk x) ∧ (splitC 47 p).length = k + 1 ∧ (0 : UInt8) ∉ p
  | _, _, .one => by
    refine ⟨fun x hx => ?_, by decide, by decide⟩
    have : x = [112] := by simpa [splitC] using hx
    subst this
    exact ⟨by decide, by decide, by decide, by decide, by decide⟩
  | _, _, .more (s := s) (t := t) h ht => by
    obtain ⟨h1, h2, h3⟩ := pathN_g h
    have e : s ++ [47] ++ t = s ++ 47 :: t := by simp
    rw [e, splitC_app, splitC_no ht.no47]
    refine ⟨fun x hx => ?_, by rw [List.length_append, h2]; rfl, ?_⟩
    · rcases List.mem_append.1 hx with hx | hx
      · exact h1 x hx
      · rw [List.mem_singleton.1 hx]; exact ht
    · simp only [List.mem_append, List.mem_cons, not_or]
      exact ⟨h3, by decide, ht.no0⟩
theorem pathG_of {p : List UInt8} (h1 : p.length ≤ 700) (h2 : ∃ k, k ≤ 8 ∧ PathN k p) : PathG p := by
  obtain ⟨k, hk, h⟩ := h2
  obtain ⟨h3, h4, h5⟩ := pathN_g h
  exact ⟨h3, by omega, h5, h1⟩
theorem pathS_of {p : List UInt8} (h1 : ∀ x ∈ splitC 47 p, nameB x = true) (h2 : p.length ≤ 4096) (h3 : (splitC 47 p).length ≤ 64) (h4 : (0 : UInt8) ∉ p) : pathS p = true := by
  unfold pathS
  rw [List.all_eq_true.2 h1]
  simp [h2, h3, h4]
theorem pathS_no {p x : List UInt8} (hx : x ∈ splitC 47 p) (h : nameB x = false) : pathS p = false := by
  unfold pathS
  have : (splitC 47 p).all nameB = false := by
    rw [List.all_eq_false]
    exact ⟨x, hx, by rw [h]; decide⟩
  rw [this]; rfl
theorem PathG.ok {p : List UInt8} (h : PathG p) : pathS p = true := pathS_of (fun x hx => (h.all x hx).b) (Nat.le_trans h.len (by decide)) (Nat.le_trans h.cnt (by decide)) h.no0
theorem path_abs (p : List UInt8) : pathS ([47] ++ p) = false := pathS_no (x := []) (by show [] ∈ splitC 47 (47 :: p); rw [splitC, if_pos rfl]; simp) (by decide)
theorem path_up (p : List UInt8) : pathS (p ++ [47, 46, 46]) = false := pathS_no (x := [46, 46]) (by rw [show p ++ [47, 46, 46] = p ++ 47 :: [46, 46] from rfl, splitC_app]; exact List.mem_append_right _ (by decide)) (by decide)
theorem path_ups (p : List UInt8) : pathS ([46, 46, 47] ++ p) = false := pathS_no (x := [46, 46]) (by rw [show [46, 46, 47] ++ p = [46, 46] ++ 47 :: p from rfl, splitC_at _ _ (by decide)]; simp) (by decide)
theorem PathG.x {p : List UInt8} (h : PathG p) : pathS (p ++ [47, 120]) = true := by
  have h1 := h.len
  have h2 := h.cnt
  have e : p ++ [47, 120] = p ++ 47 :: [120] := rfl
  refine pathS_of (fun x hx => ?_) (by rw [List.length_append]; simp; omega) ?_ ?_
  · rw [e, splitC_app] at hx
    rcases List.mem_append.1 hx with hx | hx
    · exact (h.all x hx).b
    · have : x = [120] := by simpa [splitC] using hx
      subst this; decide
  · rw [e, splitC_app, List.length_append]
    have : (splitC 47 [120]).length = 1 := by decide
    omega
  · simp only [List.mem_append, not_or]
    exact ⟨h.no0, by decide⟩

def kindE (n : Int) : Int := ([fun _ => 1, fun _ => 6, fun _ => 7, fun _ => 4] : List (Th Int)).getD (n.tmod 4).toNat (fun _ => 1) .o
theorem kindE_in (n : Int) : kindE n ≠ 2 ∧ kindE n ≠ 3 := by
  unfold kindE
  generalize (n.tmod 4).toNat = j
  match j with
  | 0 | 1 | 2 | 3 => decide
  | j + 4 => exact (by decide : (1 : Int) ≠ 2 ∧ (1 : Int) ≠ 3)
/-- An entry by its path, kind, target. -/
def entP (p : List UInt8) (k : Int) (t : List UInt8) : Entry := ⟨p, k, ⟨0, 0, 0, 0, 0, [], [], [], ⟨0, 0, 0, false, 0⟩, 0⟩, [], t, 0, 0⟩
def entAV (p : Th (List UInt8)) (k : Th Int) (t : Th (List UInt8)) : AV := .agg (.cons (.str p) (.cons (.int .i64 k) (.cons (.int .i64 fun _ => 0) (.cons (.int .i64 fun _ => 0) (.cons (.int .i64 fun _ => 0) (.cons (.int .i64 fun _ => 0) (.cons (.int .i64 fun _ => 0)
    (.cons .nsl (.cons .nsl (.cons .nsl (.cons (.int .i64 fun _ => 0) (.cons (.int .u64 fun _ => 0) (.cons (.int .u64 fun _ => 0) (.cons .ff (.cons (.int .i64 fun _ => 0) (.cons (.int .i64 fun _ => 0) (.cons (.str fun _ => []) (.cons (.str t)
    (.cons (.int .i64 fun _ => 0) (.cons (.int .i64 fun _ => 0) .nil))))))))))))))))))))
theorem entAV_same (p : Th (List UInt8)) (k : Th Int) (t : Th (List UInt8)) : Same (entAV p k t) (Entry.av fun _ => entP (p .o) (k .o) (t .o)) := by
  unfold entAV
  (repeat' (first | exact Same.refl _ | exact SameC.nil | refine SameC.cons ?_ ?_ | refine Same.agg ?_ | refine Same.tup ?_ | exact Same.nsl rfl | exact Same.tt rfl | exact Same.ff rfl | exact Same.int rfl | exact Same.str rfl | exact Same.bool rfl | refine Same.sl rfl ?_))
theorem safeS_other (p : List UInt8) {k : Int} (t : List UInt8) (h2 : k ≠ 2) (h3 : k ≠ 3) : safeS (entP p k t) = pathS p := by
  unfold safeS
  rw [if_neg (show ¬ (entP p k t).kind = 2 from h2), if_neg (show ¬ (entP p k t).kind = 3 from h3)]; rfl
theorem safeS_hard (p t : List UInt8) : safeS (entP p 2 t) = (pathS p && pathS t && !decide (t = p)) := if_pos rfl
theorem entS_c (p : Th (List UInt8)) (k : Th Int) (t : Th (List UInt8)) (hp : (p .o).length ≤ 1099511627776) (ht : (t .o).length ≤ 1099511627776) {d : Nat} {K : ARes → BL → Prop} (hr : ∀ b : Th Bool, b .o = safeS (entP (p .o) (k .o) (t .o)) → K (.ret (.bool b)) .nil) :
    CallAt PT safe_Entry [entAV p k t] d .nil K :=
  CallAt.args (.cons (entAV_same p k t) .nil) (sentry_c _ hp ht hr)

theorem safeEntries_c (ps : Th (List Int)) (kind : Th Int) (hps : isBytes (ps .o)) (hs : short (ps .o)) (hk : 0 ≤ kind .o ∧ kind .o < 256) : CallAt PT l22_SafeEntries [byteI ps, .int .u8 kind] 9999 .nil Yes := by
  refine l22_SafeEntries.of rfl rfl ?_
  cbv
  refine path_x ps hps hs fun p hp hpn => ?_
  have g := pathG_of hp hpn
  have k4 : 0 ≤ (kind .o).tmod 4 ∧ (kind .o).tmod 4 < 4 := ⟨Int.tmod_nonneg _ hk.1, Int.tmod_lt_of_pos _ (by decide)⟩
  have hke := kindE_in (kind .o)
  cbv
  refine safe (by decide) ?_
  refine safe k4 ?_
  refine safe (by show ((kind .o).tmod 4).toNat < 4; omega) ?_
  refine entS_c p (fun _ => kindE (kind .o)) (fun _ => []) (by omega) (by decide) fun b1 hb1 => ?_
  cbv
  have q1 : b1 .o = true := by rw [hb1]; show safeS (entP (p .o) (kindE (kind .o)) []) = true; rw [safeS_other _ _ hke.1 hke.2]; exact g.ok
  (first | refine br_is (q1) ?_ | refine br_not (q1) ?_ | refine br_rev (br_is (q1) ?_) | refine br_rev (br_not (q1) ?_))
  cbv
  refine safe (by show 1 + (p .o).length ≤ 9223372036854775807; omega) ?_
  refine entS_c (fun _ => [47] ++ p .o) (fun _ => kindE (kind .o)) (fun _ => []) (by simp; omega) (by decide) fun b2 hb2 => ?_
  cbv
  have q2 : (!b2 .o) = true := by rw [hb2]; show (!safeS (entP ([47] ++ p .o) (kindE (kind .o)) [])) = true; rw [safeS_other _ _ hke.1 hke.2, path_abs]; rfl
  (first | refine br_is (q2) ?_ | refine br_not (q2) ?_ | refine br_rev (br_is (q2) ?_) | refine br_rev (br_not (q2) ?_))
  cbv
  refine safe (by show (p .o).length + 3 ≤ 9223372036854775807; omega) ?_
  refine entS_c (fun _ => p .o ++ [47, 46, 46]) (fun _ => kindE (kind .o)) (fun _ => []) (by simp; omega) (by decide) fun b3 hb3 => ?_
  cbv
  have q3 : (!b3 .o) = true := by rw [hb3]; show (!safeS (entP (p .o ++ [47, 46, 46]) (kindE (kind .o)) [])) = true; rw [safeS_other _ _ hke.1 hke.2, path_up]; rfl
  (first | refine br_is (q3) ?_ | refine br_not (q3) ?_ | refine br_rev (br_is (q3) ?_) | refine br_rev (br_not (q3) ?_))
  cbv
  refine entS_c p (fun _ => 2) p (by omega) (by omega) fun b4 hb4 => ?_
  cbv
  have q4 : (!b4 .o) = true := by rw [hb4]; show (!safeS (entP (p .o) 2 (p .o))) = true; rw [safeS_hard]; simp
  (first | refine br_is (q4) ?_ | refine br_not (q4) ?_ | refine br_rev (br_is (q4) ?_) | refine br_rev (br_not (q4) ?_))
  cbv
  refine safe (by show (p .o).length + 2 ≤ 9223372036854775807; omega) ?_
  refine entS_c (fun _ => p .o ++ [47, 120]) (fun _ => 2) p (by simp; omega) (by omega) fun b5 hb5 => ?_
  cbv
  have q5 : b5 .o = true := by rw [hb5]; show safeS (entP (p .o ++ [47, 120]) 2 (p .o)) = true; rw [safeS_hard, g.x, g.ok]; simp
  (first | refine br_is (q5) ?_ | refine br_not (q5) ?_ | refine br_rev (br_is (q5) ?_) | refine br_rev (br_not (q5) ?_))
  cbv
  refine safe (by show 3 + (p .o).length ≤ 9223372036854775807; omega) ?_
  refine entS_c p (fun _ => 2) (fun _ => [46, 46, 47] ++ p .o) (by omega) (by simp; omega) fun b6 hb6 => ?_
  cbv
  have q6 : (!b6 .o) = true := by
    rw [hb6]
    show (!safeS (entP (p .o) 2 ([46, 46, 47] ++ p .o))) = true
    rw [safeS_hard, path_ups]; simp
  (first | refine br_is (q6) ?_ | refine br_not (q6) ?_ | refine br_rev (br_is (q6) ?_) | refine br_rev (br_not (q6) ?_))
  cbv
  refine awake22_c fun b hb => ?_
  cbv
  exact ⟨b, rfl, hb⟩
end Go.Proofs.YtiaenejafpbfkaaDoor

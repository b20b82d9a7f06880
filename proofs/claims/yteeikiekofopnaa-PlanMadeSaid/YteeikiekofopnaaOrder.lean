/- The law PlanOrder, walked: in which order attributes are tried. -/
import Derived.Test.YteeikiekofopnaaAttrs
namespace Go.Proofs.Yteeikiekofopnaa
open Go Go.Proofs.Yteeikiekofopnaa.Sx F
set_option linter.unusedVariables false
set_option linter.unusedSimpArgs false

def consB (b : Bool) (x : Int) (l : List Int) : List Int := match b with | true => x :: l | false => l
def mkA (b10 b3 b4 b5 b6 b7 b9 : Bool) : List Int := consB b10 10 (2 :: consB b3 3 (consB b4 4 (consB b5 5 (consB b6 6 (consB b7 7 (8 :: consB b9 9 []))))))
theorem filter_consB (p : Int → Bool) (x : Int) (l : List Int) : (x :: l).filter p = consB (p x) x (l.filter p) := by
  cases h : p x <;> simp [consB, h]
theorem filter_mkA (p : Int → Bool) (h2 : p 2 = true) (h8 : p 8 = true) : attrsAll.filter p = mkA (p 10) (p 3) (p 4) (p 5) (p 6) (p 7) (p 9) := by
  unfold attrsAll mkA
  simp only [filter_consB, h2, h8]
  rfl
def orderB (L : List Int) (d f : Bool) : Bool :=
  decide (2 ≤ L.length) && (decide (L.getD 0 0 = 10) == d) && (List.range L.length).all (fun i => i == 0 || L.getD i 0 == 10 || L.getD (i - 1) 0 == 10 || decide (L.getD (i - 1) 0 < L.getD i 0)) &&
  L.contains 2 && L.contains 8 && (decide (L.getD (L.length - 1) 0 = 9) == f)
theorem order_all : ∀ b10 b3 b4 b5 b6 b7 b9 : Bool, orderB (mkA b10 b3 b4 b5 b6 b7 b9) b10 b9 = true := by decide +kernel
structure OrderOk (e : Entry) (L : List Int) : Prop where
  len : 2 ≤ L.length
  first : decide (L.getD 0 0 = 10) = decide (e.kind = 6)
  rise : ∀ i, 0 < i → i < L.length → L.getD i 0 ≠ 10 → L.getD (i - 1) 0 ≠ 10 → L.getD (i - 1) 0 < L.getD i 0
  owner : (2 : Int) ∈ L
  times : (8 : Int) ∈ L
  last : decide (L.getD (L.length - 1) 0 = 9) = !decide (e.mt.flags = 0)
  short : L.length ≤ 9
theorem order_ok (e : Entry) : OrderOk e (attrsAll.filter (hasA e)) := by
  have h := order_all (hasA e 10) (hasA e 3) (hasA e 4) (hasA e 5) (hasA e 6) (hasA e 7) (hasA e 9)
  rw [← filter_mkA (hasA e) rfl rfl] at h
  have hs : (attrsAll.filter (hasA e)).length ≤ 9 := List.length_filter_le _ _
  generalize attrsAll.filter (hasA e) = L at h hs
  unfold orderB at h
  simp only [Bool.and_eq_true, decide_eq_true_eq, beq_iff_eq, List.all_eq_true, List.mem_range, List.contains_iff_mem, Bool.or_eq_true] at h
  obtain ⟨⟨⟨⟨⟨h1, h2⟩, h3⟩, h4⟩, h5⟩, h6⟩ := h
  refine ⟨h1, h2, fun i hi hl ha hb => ?_, h4, h5, h6, hs⟩
  rcases h3 i hl with ((h | h) | h) | h
  · omega
  · exact absurd h ha
  · exact absurd h hb
  · exact h

def seenB (x : Int) (L : List Int) (i : Nat) : Bool := decide (x ∈ L.take i)
theorem seen_succ (x : Int) (L : List Int) (i : Nat) (h : i < L.length) : seenB x L (i + 1) = (seenB x L i || decide (L.getD i 0 = x)) := by
  unfold seenB
  rw [List.take_add_one, List.getD_eq_getElem?_getD, List.getElem?_eq_getElem h]
  simp only [Option.toList_some, Option.getD_some, List.mem_append, List.mem_singleton]
  by_cases h1 : x ∈ L.take i <;> by_cases h2 : x = L[i] <;> simp [h1, h2, eq_comm]

theorem planOrder_c (kind : Th Int) (ns : Th (List Int)) (hk : 0 ≤ kind .o ∧ kind .o < 256) (hns : isBytes (ns .o)) (hs : (ns .o).length ≤ 140737488355328) : CallAt PT l23_PlanOrder [.int .u8 kind, byteI ns] 9999 .nil Yes := by
  refine l23_PlanOrder.of rfl rfl ?_
  cbv
  refine safe (by decide) ?_
  refine make15_c _ (fun _ => [112]) ns hns hs fun e he => ?_
  cbv
  refine attrs_c e fun l hl => ?_
  cbv
  ((try refine br_rev ?_); (first | refine br_dec (fun h1 => ?_) (fun h1 => ?_) | refine br_ndec (fun h1 => ?_) (fun h1 => ?_) | refine br_nbool (fun h1 => ?_) (fun h1 => ?_) | refine br_bool (fun h1 => ?_) (fun h1 => ?_)); all_goals (try dsimp only at h1); all_goals (try with_reducible replace h1 := zi_lt.1 h1); all_goals (try with_reducible replace h1 := not_zlt h1)) <;> cbv
  · have hl0 : l .o = [] := by rw [hl]; unfold attrsS; rw [if_pos h1]
    refine br_is (by rw [hl0]; rfl) ?_
    cbv
    refine awake23_c fun b hb => ?_
    cbv
    exact ⟨b, rfl, hb⟩
  · have hok : OrderOk (e .o) (l .o) := by rw [hl]; unfold attrsS; rw [if_neg h1]; exact order_ok _
    have hlen := hok.len
    have hsh := hok.short
    have hl2 : decide (zi (l .o).length < 2) = false := by rw [decide_eq_false_iff_not]; unfold zi; omega
    (first | refine br_is (hl2) ?_ | refine br_not (hl2) ?_ | refine br_rev (br_is (hl2) ?_) | refine br_rev (br_not (hl2) ?_))
    cbv
    refine safe ⟨by decide, (zi_lt (a := 0)).2 (by omega)⟩ ?_
    have hl3 : (!((decide ((l .o).getD 0 0 = 10)) == decide ((e .o).kind = 6))) = false := by rw [hok.first]; simp
    (first | refine br_is (hl3) ?_ | refine br_not (hl3) ?_ | refine br_rev (br_is (hl3) ?_) | refine br_rev (br_not (hl3) ?_))
    cbv
    refine loop_at (X := Nat) 1000 [5, 6] [5] (fun _ i => .cons 7 (.bool fun _ => seenB 2 (l .o) i) (.cons 8 (.bool fun _ => seenB 8 (l .o) i) (.cons 9 (.int .i64 fun _ => zi i) .nil))) (fun _ _ => .nil) (fun i => i ≤ (l .o).length) (fun i => (l .o).length - i) 0 ?_ (Nat.zero_le _) ?_
    · cbv
      (repeat' (first | exact True.intro | exact Same.refl _ | exact SameB.refl _ | exact ⟨rfl⟩ | exact Same.int rfl | exact Same.str rfl | exact Same.bool rfl | (refine Same.int ?_; simp only [List.length_append, List.length_cons, List.length_nil, zi]; omega) | (refine SameB.row' rfl fun i hi => ?_; first | rfl | exact absurd hi (Nat.not_lt_zero _)) | refine And.intro ?_ ?_))
      all_goals exact Same.ff (by simp [seenB])
    · intro i hi
      have succ := zi_succ (k := i) (by omega)
      have hz := zi_toNat i
      cbv
      ((try refine br_rev ?_); (first | refine br_dec (fun h2 => ?_) (fun h2 => ?_) | refine br_ndec (fun h2 => ?_) (fun h2 => ?_) | refine br_nbool (fun h2 => ?_) (fun h2 => ?_) | refine br_bool (fun h2 => ?_) (fun h2 => ?_)); all_goals (try dsimp only at h2); all_goals (try with_reducible replace h2 := zi_lt.1 h2); all_goals (try with_reducible replace h2 := not_zlt h2))
      · have s2 := seen_succ 2 (l .o) i h2
        have s8 := seen_succ 8 (l .o) i h2
        cbv
        have hpred : 0 < i → IntKind.i64.wrap (zi i - 1) = zi (i - 1) := fun q => by rw [IntKind.wrap_i64]; unfold zi; omega
        have hidx : 0 ≤ zi i ∧ zi i < zi (l .o).length := ⟨zi_nonneg _, zi_lt.2 h2⟩
        have hidp : 0 < i → 0 ≤ IntKind.i64.wrap (zi i - 1) ∧ IntKind.i64.wrap (zi i - 1) < zi (l .o).length := fun q => by rw [hpred q]; exact ⟨zi_nonneg _, zi_lt.2 (by omega)⟩
        have hrise : 0 < i → (!decide ((l .o).getD (zi i).toNat 0 = 10)) = true → (!decide ((l .o).getD (IntKind.i64.wrap (zi i - 1)).toNat 0 = 10)) = true → decide ((l .o).getD (zi i).toNat 0 ≤ (l .o).getD (IntKind.i64.wrap (zi i - 1)).toNat 0) = false := by
          intro q ha hb
          rw [hpred q, zi_toNat] at hb
          rw [hpred q, zi_toNat, zi_toNat, decide_eq_false_iff_not]
          rw [zi_toNat] at ha
          have := hok.rise i q h2 (by simpa using ha) (by simpa using hb)
          omega
        have hz0 : decide (0 < zi i) = decide (0 < i) := zpos_dec i
        refine br_bool (fun h3 => ?_) (fun h3 => ?_)
        rotate_left
        focus cbv
        rotate_left
        focus
          have h3' : 0 < i := by have := h3; rw [hz0] at this; exact of_decide_eq_true this
          cbv
          refine safe hidx ?_
          refine br_bool (fun h4 => ?_) (fun h4 => ?_)
          rotate_left
          focus cbv
          rotate_left
          focus
            cbv
            refine safe (hidp h3') ?_
            refine br_bool (fun h5 => ?_) (fun h5 => ?_)
            rotate_left
            focus cbv
            rotate_left
            focus
              cbv
              refine safe hidx ?_
              refine safe (hidp h3') ?_
              have hf := hrise h3' h4 h5
              (first | refine br_is (hf) ?_ | refine br_not (hf) ?_ | refine br_rev (br_is (hf) ?_) | refine br_rev (br_not (hf) ?_))
              cbv
        all_goals
          refine br_rev (br_bool (fun h6 => ?_) (fun h6 => ?_))
          rotate_left
          focus
            cbv
            refine safe hidx ?_
          rotate_left
          focus cbv
        all_goals
          refine br_rev (br_bool (fun h7 => ?_) (fun h7 => ?_))
          rotate_left
          focus
            cbv
            refine safe hidx ?_
          rotate_left
          focus cbv
        all_goals
          refine ⟨i + 1, h2, by omega, ?_⟩
          cbv
          dsimp only at h6 h7
          rw [s2, s8, h6, h7]
          (repeat' (first | exact True.intro | exact Same.refl _ | exact SameB.refl _ | exact ⟨rfl⟩ | exact Same.int rfl | exact Same.str rfl | exact Same.bool rfl | (refine Same.int ?_; simp only [List.length_append, List.length_cons, List.length_nil, zi]; omega) | (refine SameB.row' rfl fun i hi => ?_; first | rfl | exact absurd hi (Nat.not_lt_zero _)) | refine And.intro ?_ ?_))
          all_goals first
            | exact Same.int succ
            | exact Same.tt rfl
            | exact Same.bool (by rw [hz]; rfl)
      · cbv
        have hil : i = (l .o).length := by
          have : (l .o).length ≤ i := h2
          omega
        have o1 : seenB 2 (l .o) i = true := by unfold seenB; rw [hil, List.take_length]; exact decide_eq_true hok.owner
        have o2 : seenB 8 (l .o) i = true := by unfold seenB; rw [hil, List.take_length]; exact decide_eq_true hok.times
        have hpl : IntKind.i64.wrap (zi (l .o).length - 1) = zi ((l .o).length - 1) := by rw [IntKind.wrap_i64]; unfold zi; omega
        refine safe (by dsimp only; rw [hpl]; exact ⟨zi_nonneg _, zi_lt.2 (by omega)⟩) ?_
        (first | refine br_is (o1) ?_ | refine br_not (o1) ?_ | refine br_rev (br_is (o1) ?_) | refine br_rev (br_not (o1) ?_))
        cbv
        (first | refine br_is (o2) ?_ | refine br_not (o2) ?_ | refine br_rev (br_is (o2) ?_) | refine br_rev (br_not (o2) ?_))
        cbv
        have ol : (decide ((l .o).getD (IntKind.i64.wrap (zi (l .o).length - 1)).toNat 0 = 9) == !decide ((e .o).mt.flags = 0)) = true := by rw [hpl, zi_toNat, hok.last]; simp
        (first | refine br_is (ol) ?_ | refine br_not (ol) ?_ | refine br_rev (br_is (ol) ?_) | refine br_rev (br_not (ol) ?_))
        cbv
        refine awake23_c fun b hb => ?_
        cbv
        exact ⟨b, rfl, hb⟩
end Go.Proofs.Yteeikiekofopnaa

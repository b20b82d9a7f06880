/- The law PlanMade, walked: plans of what is made by numbers are the document's. -/
import Derived.Test.YteeikiekofopnaaRef21
namespace Go.Proofs.Yteeikiekofopnaa
open Go Go.Proofs.Yteeikiekofopnaa.Sx F
set_option linter.unusedVariables false
set_option linter.unusedSimpArgs false

structure PlanOk (e : Entry) : Prop where
  good : Good (ofS e.mt)
  acl : short e.mt.acl
  xs : e.mt.xs.length ≤ 1000
theorem planOk_made {k : Int} {p : List UInt8} {ns : List Int} {e : Entry} (h : MadeE k p ns e) : PlanOk e := by
  by_cases hk : k = 2
  · rw [show e = { e with mt := Meta.z } from by rw [← h.hard hk]]
    exact ⟨good_mode _, by unfold short; exact Nat.zero_le _, Nat.zero_le _⟩
  · have hm := h.mt hk
    exact ⟨hm.good, hm.short, Nat.le_trans hm.xs (by decide)⟩

theorem planMade_c (kind : Th Int) (ns : Th (List Int)) (o : Th Bool) (hk : 0 ≤ kind .o ∧ kind .o < 256) (hns : isBytes (ns .o)) (hs : (ns .o).length ≤ 140737488355328) : CallAt PT l23_PlanMade [.int .u8 kind, byteI ns, .bool o] 9999 .nil Yes := by
  refine l23_PlanMade.of rfl rfl ?_
  cbv
  refine safe (by decide) ?_
  refine make15_c _ (fun _ => [112]) ns hns hs fun e he => ?_
  cbv
  obtain ⟨hg, ha, hx⟩ := planOk_made he
  refine pmode_c (fun _ => (e .o).mt) o ha fun n1 f1 hn1 hf1 => ?_
  cbv
  refine mode21_c (fun _ => (e .o).mt) o ha fun n2 f2 hn2 hf2 => ?_
  cbv
  have h1 : decide (n1 .o = n2 .o) = true := decide_eq_true (by rw [hn1, hn2, less9_law hg])
  (first | refine br_is (h1) ?_ | refine br_not (h1) ?_ | refine br_rev (br_is (h1) ?_) | refine br_rev (br_not (h1) ?_))
  cbv
  have h2 : (f1 .o == f2 .o) = true := by rw [hf1, hf2]; simp
  (first | refine br_is (h2) ?_ | refine br_not (h2) ?_ | refine br_rev (br_is (h2) ?_) | refine br_rev (br_not (h2) ?_))
  cbv
  refine fewer_c (fun _ => (e .o).mt.xs) hx fun r1 hr1 => ?_
  cbv
  refine fewer21_c (fun _ => (e .o).mt.xs) hx fun r2 hr2 => ?_
  cbv
  refine sameX_c r1 r2 (by rw [hr1]; have := fewer_len (e .o).mt.xs; unfold short; omega) fun b3 hb3 => ?_
  cbv
  have h3 : b3 .o = true := hb3.2 (by rw [hr1, hr2])
  (first | refine br_is (h3) ?_ | refine br_not (h3) ?_ | refine br_rev (br_is (h3) ?_) | refine br_rev (br_not (h3) ?_))
  cbv
  refine attrs_c e fun l1 hl1 => ?_
  cbv
  refine attrs21_c e fun l2 hl2 => ?_
  cbv
  refine ints_c l1 l2 (by rw [hl1]; unfold short attrsS; split; exact Nat.zero_le _; exact Nat.le_trans (List.length_filter_le _ _) (by decide)) fun b4 hb4 => ?_
  cbv
  have h4 : b4 .o = true := hb4.2 (by rw [hl1, hl2])
  (first | refine br_is (h4) ?_ | refine br_not (h4) ?_ | refine br_rev (br_is (h4) ?_) | refine br_rev (br_not (h4) ?_))
  cbv
  refine awake23_c fun b hb => ?_
  cbv
  exact ⟨b, rfl, hb⟩
end Go.Proofs.Yteeikiekofopnaa

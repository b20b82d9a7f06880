/- The law SafeDeep: whatever the input, it answers true, and its arguments read as they did. -/
import Derived.Test.YtiaenejafpbfkaaDoorRows
import Derived.Test.YtiaenejafpbfkaaDoorOpn
import Derived.Test.YtiaenejafpbfkaaDoorSafeDeep
import Derived.WalkKit
import Derived.ProofKit
import Derived.OpenShut
import Derived.ShutString
import Derived.ChangeOld
import Derived.Below
import Derived.Carry
import Derived.SizedLaws
import Derived.Test.YtiaenejafpbfkaaDoorTie
import Derived.Test.YtiaenejafpbfkaaDoorCards
import Derived.LaidMore
import Derived.Lay
import Derived.SevenTiedAt
import Derived.Stop.Joined
namespace Go.Proofs.YtiaenejafpbfkaaDoor.safeDeep
open Go Go.ChangeShapes Go.WideShapes Go.ChangeAt Go.RowKit Go.Proofs.YtiaenejafpbfkaaDoor.Sx Go.Proofs.YtiaenejafpbfkaaDoor.F
open Go.ChangeMaps (open_string shut_string)
set_option linter.unusedVariables false
theorem own : ownKnob Tryd.prog.godebug = none := by kernel_rfl
theorem laidOut : laidOutB Tryd.prog = true := by kernel_rfl
set_option maxRecDepth 100000 in
theorem lifted (os : Os) (started : os.Started) (H : Type) (enc : TypeId × Value → H) :
    ReturnsInHanded {} Tryd.checked os 3 .any (fun w args => (Rows.safeDeepSpec.pre enc Tryd.prog Tryd.f3 Rows.safeDeepRow.domain false w args ∧ laidMetH Tryd.prog Rows.safeDeepRow.laid w) ∧ sizedMet enc Tryd.prog Tryd.f3 (OpenSpec.ofChange Rows.safeDeepSpec) false w args) (Rows.safeDeepSpec.post enc Tryd.prog Tryd.f3 false true false false) := by
  refine returnsInHanded_of_change_and (C := Tryd.checked) (X := fun w _ => laidMetH Tryd.prog Rows.safeDeepRow.laid w) (fun _ _ _ hh h => h.of_heap hh) own started (by kernel_rfl) Tryd.func3
    (ChangeSpec.witness_shaped (enc := enc) (C := Tryd.checked) (os := os) (X := fun w _ => laidMetH Tryd.prog Rows.safeDeepRow.laid w) false (World.laidAll Tryd.prog os Rows.safeDeepRow.laid) #[.slice none 0 0, .slice none 0 0] 8 (World.laidAll_os _ _ _)
      (World.shaped_of_ZipB (by kernel_rfl) (by kernel_rfl)) (by kernel_rfl) (by kernel_rfl) (by kernel_rfl)
      (by rw [MakeChecks.laidMetH_plain _ _ _ (by kernel_rfl)]; exact laidMet_laidAll _ (by kernel_rfl) (by kernel_rfl))) ?_
  intro W base args ds gs before hval0 hW hcnd hsz0 hL _
  have hsz : (DataW.weightsEach Tryd.prog (Tryd.f3.params.toList ++ Rows.safeDeepSpec.plain.varTypes Tryd.prog) (ds ++ gs)).all (· ≤ reachBytes) = true := hsz0
  have hval : ∀ (j : Nat) t v, Tryd.f3.params[j]? = some t → args[j]? = some v → Value.okWide Tryd.prog W .any base t v := hval0
  have hW' := hW
  obtain ⟨p, q, hA0, hV, rfl, hfz, hnd⟩ := hW
  have hpar : Tryd.f3.params = #[22, 22] := by kernel_rfl
  have hA : DataW.TrodAll enc Tryd.prog W 0 (fun _ => true) true Tryd.f3.params.toList args.toList ds p := hA0
  rw [hpar] at hA hval hsz
  obtain ⟨v0, vs0, d0, ds0, p0, q0, hargs, rfl, rfl, h0, r0⟩ := trodAll_cons hA
  obtain ⟨v1, vs1, d1, ds1, p1, q1, rfl, rfl, rfl, h1, r1⟩ := trodAll_cons r0
  obtain ⟨rfl, rfl, rfl⟩ := trodAll_nil r1
  obtain rfl : args = #[v0, v1] := by cases args; simp_all
  obtain ⟨rfl, rfl⟩ := trodVars_none hV
  obtain ⟨a0, len0, cap0, rfl⟩ := okWide_slice (show Tryd.prog.underlying 22 = some (.slice 5) from by kernel_rfl) (hval 0 22 v0 rfl rfl)
  have k0 := h0
  have lt0 : ∀ x ∈ p0, x.block < W.heap.size := by obtain ⟨m, hm⟩ := k0; exact DataW.trod_lt m _ _ _ hm
  obtain ⟨c0, sh0, rp0⟩ := open_plain (n := 20) (c := .sl (.i .u8 .nil) .nil) (by kernel_rfl) h0 (small_of hsz (j := 0) rfl rfl)
  obtain ⟨z0, in0, sm0⟩ := arg_nums sh0
  obtain ⟨a1, len1, cap1, rfl⟩ := okWide_slice (show Tryd.prog.underlying 22 = some (.slice 5) from by kernel_rfl) (hval 1 22 v1 rfl rfl)
  have k1 := h1
  have lt1 : ∀ x ∈ p1, x.block < W.heap.size := by obtain ⟨m, hm⟩ := k1; exact DataW.trod_lt m _ _ _ hm
  obtain ⟨c1, sh1, rp1⟩ := open_plain (n := 20) (c := .sl (.i .u8 .nil) .nil) (by kernel_rfl) h1 (small_of hsz (j := 1) rfl rfl)
  obtain ⟨z1, in1, sm1⟩ := arg_nums sh1
  clear hA0 hval0 hsz0 hsz
  have hrep : ListC ⟨fun _ => 0, fun _ => undef, fun b _ => b < W.heap.size, W⟩ (chain [nums .u8 fun _ => z0, nums .u8 fun _ => z1]) [_, _] := ⟨_, _, rfl, arg_one (sm0.rp _ _ rp0), ⟨_, _, rfl, arg_one (sm1.rp _ _ rp1), rfl⟩⟩
  have hcalls := law_of (fun b _ => b < W.heap.size) (fun b o h => h) hrep (by simp [AV.still, chain, nums]) (safeDeep_c (fun _ => z0) (fun _ => z1) (fun n hn => wf_u8 (in0.1 n hn)) in0.2 (fun n hn => wf_u8 (in1.1 n hn)) in1.2)
  refine hcalls.mono fun e W' ⟨he, bel⟩ => ?_
  subst he
  exact ⟨_, rfl, _, _, _, [], _, [], hW', trodAll_mk1 (shut_bool (show Tryd.prog.underlying 4 = some (.bool) from by kernel_rfl) _), (trodAll_cons_mk (Below.trod laidOut (by kernel_rfl) (of_decide_eq_true (by kernel_rfl)) k0 bel lt0) (trodAll_cons_mk (Below.trod laidOut (by kernel_rfl) (of_decide_eq_true (by kernel_rfl)) k1 bel lt1) trodAll_mk0)), rfl, bel.frame _, fun h => by cases h⟩
theorem over : Rows.safeDeepRow.holds Tryd.pinned (OpenSpec.ofChange Rows.safeDeepSpec) :=
  OpenClaim.holds_of_wide 3 Tryd.f3 rfl rfl rfl rfl rfl rfl rfl ⟨rfl, rfl, rfl, rfl, rfl⟩ rfl rfl rfl rfl rfl (by kernel_rfl) Tryd.func3 (by kernel_rfl)
    (of_decide_eq_true (by kernel_rfl)) (by unfold Func.isWrapper; first | (rw [if_pos (by decide +kernel)]; kernel_rfl) | (rw [if_neg (by decide +kernel)]; exact ⟨rfl, rfl⟩))
    (fun os started H enc _ => lifted os started H enc)
theorem proved : Rows.SafeDeepCardSaid :=
  Claim7.holds_tied_plain_at .later [] [.data, .pinned] true (true, "0d3725af298be45c771285d3c9b4da763b55b1e38bf7f07af825f992337c6923") true over (fun _ h => by cases h) (by kernel_rfl) (fun _ h => by cases h) safeDeep_row_tie rfl ⟨rfl, rfl⟩ (by kernel_rfl) rfl
    (fun f fn hf hfn => by
      obtain rfl : f = 3 := Option.some.inj ((show Tryd.prog.funcNamed "gripsack/gripsacklaw22.SafeDeep" = some 3 by kernel_rfl).symm.trans hf) |>.symm
      obtain rfl : fn = Tryd.f3 := (Option.some.inj (Tryd.func3.symm.trans hfn)).symm
      exact ⟨by kernel_rfl, fun j t ht => by
        have hpar : Tryd.f3.params = #[22, 22] := by kernel_rfl
        rw [hpar] at ht
        have hm : t ∈ [22, 22] := by simpa using Array.mem_of_getElem? ht
        have hall : ([22, 22].all fun u => !Tryd.prog.wantsStandIn u) = true := by kernel_rfl
        exact (show Tryd.prog.wantsStandIn t = false by simpa using List.all_eq_true.1 hall t hm)⟩)
    (by kernel_rfl)
#print axioms proved
end Go.Proofs.YtiaenejafpbfkaaDoor.safeDeep
namespace Go.Proofs.YtiaenejafpbfkaaDoor
/-- The row, under a short name, for the claim. -/
theorem safeDeep_holds : Rows.SafeDeepCardSaid := safeDeep.proved
end Go.Proofs.YtiaenejafpbfkaaDoor

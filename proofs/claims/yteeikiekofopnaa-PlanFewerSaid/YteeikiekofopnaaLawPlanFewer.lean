/- The law PlanFewer: whatever the input, it answers true, and its arguments read as they did. -/
import Derived.Test.YteeikiekofopnaaRows
import Derived.Test.YteeikiekofopnaaOpn
import Derived.Test.YteeikiekofopnaaFewer
import Derived.WalkKit
import Derived.ProofKit
import Derived.OpenShut
import Derived.ShutString
import Derived.ChangeOld
import Derived.Below
import Derived.Carry
import Derived.SizedLaws
namespace Go.Proofs.Yteeikiekofopnaa.planFewer
open Go Go.ChangeShapes Go.WideShapes Go.ChangeAt Go.RowKit Go.Proofs.Yteeikiekofopnaa.Sx Go.Proofs.Yteeikiekofopnaa.F
open Go.ChangeMaps (open_string shut_string)
set_option linter.unusedVariables false
theorem own : ownKnob Try.prog.godebug = none := by kernel_rfl
theorem laidOut : laidOutB Try.prog = true := by kernel_rfl
set_option maxRecDepth 100000 in
theorem lifted (os : Os) (started : os.Started) (H : Type) (enc : TypeId × Value → H) :
    ReturnsInHanded {} Try.checked os 8 .any (Rows.planFewerSpec.pre6 enc Try.prog Try.f8 Rows.planFewerRow.domain false) (Rows.planFewerSpec.post enc Try.prog Try.f8 false true false false) := by
  refine returnsInHanded_of_change_sized (C := Try.checked) own started (by kernel_rfl) Try.func8
    (ChangeSpec.witness6 (enc := enc) (C := Try.checked) false ⟨#[], #[.slice none 0 0], []⟩ 8 (by kernel_rfl) (by kernel_rfl) (by kernel_rfl) (by kernel_rfl)) ?_
  intro W base args ds gs before hval0 hW hcnd hsz0 _
  have hsz : (DataW.weightsEach Try.prog (Try.f8.params.toList ++ Rows.planFewerSpec.plain.varTypes Try.prog) (ds ++ gs)).all (· ≤ reachBytes) = true := hsz0
  have hval : ∀ (j : Nat) t v, Try.f8.params[j]? = some t → args[j]? = some v → Value.okWide Try.prog W .any base t v := hval0
  have hW' := hW
  obtain ⟨p, q, hA0, hV, rfl, hfz, hnd⟩ := hW
  have hpar : Try.f8.params = #[22] := by kernel_rfl
  have hA : DataW.TrodAll enc Try.prog W 0 (fun _ => true) true Try.f8.params.toList args.toList ds p := hA0
  rw [hpar] at hA hval hsz
  obtain ⟨v0, vs0, d0, ds0, p0, q0, hargs, rfl, rfl, h0, r0⟩ := trodAll_cons hA
  obtain ⟨rfl, rfl, rfl⟩ := trodAll_nil r0
  obtain rfl : args = #[v0] := by cases args; simp_all
  obtain ⟨rfl, rfl⟩ := trodVars_none hV
  obtain ⟨a0, len0, cap0, rfl⟩ := okWide_slice (show Try.prog.underlying 22 = some (.slice 5) from by kernel_rfl) (hval 0 22 v0 rfl rfl)
  have k0 := h0
  have lt0 : ∀ x ∈ p0, x.block < W.heap.size := by obtain ⟨m, hm⟩ := k0; exact DataW.trod_lt m _ _ _ hm
  obtain ⟨c0, sh0, rp0⟩ := open_plain (n := 20) (c := .sl (.i .u8 .nil) .nil) (by kernel_rfl) h0 (small_of hsz (j := 0) rfl rfl)
  obtain ⟨z0, in0, sm0⟩ := arg_nums sh0
  clear hA0 hval0 hsz0 hsz
  have hrep : ListC ⟨fun _ => 0, fun _ => undef, fun b _ => b < W.heap.size, W⟩ (chain [nums .u8 fun _ => z0]) [_] := ⟨_, _, rfl, arg_one (sm0.rp _ _ rp0), rfl⟩
  have hcalls := law_of (fun b _ => b < W.heap.size) (fun b o h => h) hrep (by simp [AV.still, chain, nums]) (planFewer_c (fun _ => z0) (fun n hn => wf_u8 (in0.1 n hn)) in0.2)
  refine hcalls.mono fun e W' ⟨he, bel⟩ => ?_
  subst he
  exact ⟨_, rfl, _, _, _, [], _, [], hW', trodAll_mk1 (shut_bool (show Try.prog.underlying 4 = some (.bool) from by kernel_rfl) _), (trodAll_cons_mk (Below.trod laidOut (by kernel_rfl) (of_decide_eq_true (by kernel_rfl)) k0 bel lt0) trodAll_mk0), rfl, bel.frame _, fun h => by cases h⟩
theorem over : Rows.planFewerRow.holds Try.pinned (OpenSpec.ofChange Rows.planFewerSpec) :=
  OpenClaim.holds_of_wide 8 Try.f8 rfl rfl rfl rfl rfl rfl rfl ⟨rfl, rfl, rfl, rfl, rfl⟩ rfl rfl rfl rfl rfl (by kernel_rfl) Try.func8 (by kernel_rfl)
    (of_decide_eq_true (by kernel_rfl)) (by unfold Func.isWrapper; first | (rw [if_pos (by decide +kernel)]; kernel_rfl) | (rw [if_neg (by decide +kernel)]; exact ⟨rfl, rfl⟩))
    (fun os started H enc _ => lifted os started H enc)
theorem proved : Rows.PlanFewerSaid := over
#print axioms proved
end Go.Proofs.Yteeikiekofopnaa.planFewer
namespace Go.Proofs.Yteeikiekofopnaa
/-- The row, under a short name, for the claim. -/
theorem planFewer_holds : Rows.PlanFewerSaid := planFewer.proved
end Go.Proofs.Yteeikiekofopnaa

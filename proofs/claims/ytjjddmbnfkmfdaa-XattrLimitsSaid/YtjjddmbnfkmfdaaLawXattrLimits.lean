/- The law XattrLimits: whatever the input, it answers true, and its arguments read as they did. -/
import Derived.Test.YtjjddmbnfkmfdaaXL5
import Derived.Test.YtjjddmbnfkmfdaaRows
import Derived.WalkKit
import Derived.ProofKit
import Derived.OpenShut
import Derived.ShutString
import Derived.ChangeOld
import Derived.Below
import Derived.Carry
import Derived.SizedLaws
namespace Go.Proofs.Ytjjddmbnfkmfdaa.xattrLimits
open Go Go.ChangeShapes Go.WideShapes Go.ChangeAt Go.RowKit Go.Proofs.Ytjjddmbnfkmfdaa.Sx Go.Proofs.Ytjjddmbnfkmfdaa.F
open Go.ChangeMaps (open_string shut_string)
set_option linter.unusedVariables false
theorem own : ownKnob Try.prog.godebug = none := by kernel_rfl
set_option maxRecDepth 100000 in
theorem lifted (os : Os) (started : os.Started) (H : Type) (enc : TypeId × Value → H) :
    ReturnsInHanded {} Try.checked os 6 .any (Rows.xattrLimitsSpec.pre6 enc Try.prog Try.f6 Rows.xattrLimitsRow.domain false) (Rows.xattrLimitsSpec.post enc Try.prog Try.f6 false true false false) := by
  refine returnsInHanded_of_change_sized (C := Try.checked) own started (by kernel_rfl) Try.func6
    (ChangeSpec.witness6 (enc := enc) (C := Try.checked) false ⟨#[], #[.int .u8 0, .int .u8 0, .bool false], []⟩ 8 (by kernel_rfl) (by kernel_rfl) (by kernel_rfl) (by kernel_rfl)) ?_
  intro W base args ds gs before hval0 hW hcnd hsz0 _
  have hsz : (DataW.weightsEach Try.prog (Try.f6.params.toList ++ Rows.xattrLimitsSpec.plain.varTypes Try.prog) (ds ++ gs)).all (· ≤ reachBytes) = true := hsz0
  have hval : ∀ (j : Nat) t v, Try.f6.params[j]? = some t → args[j]? = some v → Value.okWide Try.prog W .any base t v := hval0
  have hW' := hW
  obtain ⟨p, q, hA0, hV, rfl, hfz, hnd⟩ := hW
  have hpar : Try.f6.params = #[5, 5, 4] := by kernel_rfl
  have hA : DataW.TrodAll enc Try.prog W 0 (fun _ => true) true Try.f6.params.toList args.toList ds p := hA0
  rw [hpar] at hA hval hsz
  obtain ⟨v0, vs0, d0, ds0, p0, q0, hargs, rfl, rfl, h0, r0⟩ := trodAll_cons hA
  obtain ⟨v1, vs1, d1, ds1, p1, q1, rfl, rfl, rfl, h1, r1⟩ := trodAll_cons r0
  obtain ⟨v2, vs2, d2, ds2, p2, q2, rfl, rfl, rfl, h2, r2⟩ := trodAll_cons r1
  obtain ⟨rfl, rfl, rfl⟩ := trodAll_nil r2
  obtain rfl : args = #[v0, v1, v2] := by cases args; simp_all
  obtain ⟨rfl, rfl⟩ := trodVars_none hV
  obtain ⟨a0, rfl, rfl, rfl, w0⟩ := open_int (show Try.prog.underlying 5 = some (.int .u8) from by kernel_rfl) (hval 0 5 v0 rfl rfl) h0
  obtain ⟨a1, rfl, rfl, rfl, w1⟩ := open_int (show Try.prog.underlying 5 = some (.int .u8) from by kernel_rfl) (hval 1 5 v1 rfl rfl) h1
  obtain ⟨a2, rfl, rfl, rfl⟩ := open_bool (show Try.prog.underlying 4 = some (.bool) from by kernel_rfl) (hval 2 4 v2 rfl rfl) h2
  clear hA0 hval0 hsz0 hsz
  have hrep : ListC ⟨fun _ => 0, fun _ => undef, fun b _ => b < W.heap.size, W⟩ (chain [.int .u8 fun _ => a0, .int .u8 fun _ => a1, .bool fun _ => a2]) [_, _, _] := ⟨_, _, rfl, rfl, ⟨_, _, rfl, rfl, ⟨_, _, rfl, rfl, rfl⟩⟩⟩
  have hcalls := law_of (fun b _ => b < W.heap.size) (fun b o h => h) hrep (by simp [AV.still, chain]) (xattrLimits_c (fun _ => a0) (fun _ => a1) (fun _ => a2) (wf_u8 w0) (wf_u8 w1))
  refine hcalls.mono fun e W' ⟨he, bel⟩ => ?_
  subst he
  exact ⟨_, rfl, _, _, _, [], _, [], hW', trodAll_mk1 (shut_bool (show Try.prog.underlying 4 = some (.bool) from by kernel_rfl) _), (trodAll_cons_mk (shut_int (show Try.prog.underlying 5 = some (.int .u8) from by kernel_rfl) w0) (trodAll_cons_mk (shut_int (show Try.prog.underlying 5 = some (.int .u8) from by kernel_rfl) w1) (trodAll_cons_mk (shut_bool (show Try.prog.underlying 4 = some (.bool) from by kernel_rfl) _) trodAll_mk0))), rfl, bel.frame _, fun h => by cases h⟩
theorem over : Rows.xattrLimitsRow.holds Try.pinned (OpenSpec.ofChange Rows.xattrLimitsSpec) :=
  OpenClaim.holds_of_wide 6 Try.f6 rfl rfl rfl rfl rfl rfl rfl ⟨rfl, rfl, rfl, rfl, rfl⟩ rfl rfl rfl rfl rfl (by kernel_rfl) Try.func6 (by kernel_rfl)
    (of_decide_eq_true (by kernel_rfl)) (by unfold Func.isWrapper; first | (rw [if_pos (by decide +kernel)]; kernel_rfl) | (rw [if_neg (by decide +kernel)]; exact ⟨rfl, rfl⟩))
    (fun os started H enc _ => lifted os started H enc)
theorem proved : Rows.XattrLimitsSaid := over
#print axioms proved
end Go.Proofs.Ytjjddmbnfkmfdaa.xattrLimits
namespace Go.Proofs.Ytjjddmbnfkmfdaa
/-- The row, under a short name, for the claim. -/
theorem xattrLimits_holds : Rows.XattrLimitsSaid := xattrLimits.proved
end Go.Proofs.Ytjjddmbnfkmfdaa

/- The law DegradeFull: whatever the input, it answers true, and its arguments read as they did. -/
import Derived.Test.YtgjlkcdnlndlnaaD5
import Derived.Test.YtgjlkcdnlndlnaaRows
import Derived.WalkKit
import Derived.ProofKit
import Derived.OpenShut
import Derived.ShutString
import Derived.ChangeOld
import Derived.Below
import Derived.Carry
import Derived.SizedLaws
namespace Go.Proofs.Ytgjlkcdnlndlnaa.degradeFull
open Go Go.ChangeShapes Go.WideShapes Go.ChangeAt Go.RowKit Go.Proofs.Ytgjlkcdnlndlnaa.Sx Go.Proofs.Ytgjlkcdnlndlnaa.F
open Go.ChangeMaps (open_string shut_string)
set_option linter.unusedVariables false
theorem own : ownKnob Try.prog.godebug = none := by kernel_rfl
theorem laidOut : laidOutB Try.prog = true := by kernel_rfl
set_option maxRecDepth 100000 in
theorem lifted (os : Os) (started : os.Started) (H : Type) (enc : TypeId × Value → H) :
    ReturnsInHanded {} Try.checked os 6 .any (Rows.degradeFullSpec.pre6 enc Try.prog Try.f6 Rows.degradeFullRow.domain false) (Rows.degradeFullSpec.post enc Try.prog Try.f6 false true false false) := by
  refine returnsInHanded_of_change_sized (C := Try.checked) own started (by kernel_rfl) Try.func6
    (ChangeSpec.witness6 (enc := enc) (C := Try.checked) false ⟨#[], #[.int .u8 0, .slice none 0 0, .slice none 0 0, .int .u8 0], []⟩ 8 (by kernel_rfl) (by kernel_rfl) (by kernel_rfl) (by kernel_rfl)) ?_
  intro W base args ds gs before hval0 hW hcnd hsz0 _
  have hsz : (DataW.weightsEach Try.prog (Try.f6.params.toList ++ Rows.degradeFullSpec.plain.varTypes Try.prog) (ds ++ gs)).all (· ≤ reachBytes) = true := hsz0
  have hval : ∀ (j : Nat) t v, Try.f6.params[j]? = some t → args[j]? = some v → Value.okWide Try.prog W .any base t v := hval0
  have hW' := hW
  obtain ⟨p, q, hA0, hV, rfl, hfz, hnd⟩ := hW
  have hpar : Try.f6.params = #[5, 52, 52, 5] := by kernel_rfl
  have hA : DataW.TrodAll enc Try.prog W 0 (fun _ => true) true Try.f6.params.toList args.toList ds p := hA0
  rw [hpar] at hA hval hsz
  obtain ⟨v0, vs0, d0, ds0, p0, q0, hargs, rfl, rfl, h0, r0⟩ := trodAll_cons hA
  obtain ⟨v1, vs1, d1, ds1, p1, q1, rfl, rfl, rfl, h1, r1⟩ := trodAll_cons r0
  obtain ⟨v2, vs2, d2, ds2, p2, q2, rfl, rfl, rfl, h2, r2⟩ := trodAll_cons r1
  obtain ⟨v3, vs3, d3, ds3, p3, q3, rfl, rfl, rfl, h3, r3⟩ := trodAll_cons r2
  obtain ⟨rfl, rfl, rfl⟩ := trodAll_nil r3
  obtain rfl : args = #[v0, v1, v2, v3] := by cases args; simp_all
  obtain ⟨rfl, rfl⟩ := trodVars_none hV
  obtain ⟨a0, rfl, rfl, rfl, w0⟩ := open_int (show Try.prog.underlying 5 = some (.int .u8) from by kernel_rfl) (hval 0 5 v0 rfl rfl) h0
  obtain ⟨a1, len1, cap1, rfl⟩ := okWide_slice (show Try.prog.underlying 52 = some (.slice 5) from by kernel_rfl) (hval 1 52 v1 rfl rfl)
  have k1 := h1
  have lt1 : ∀ x ∈ p1, x.block < W.heap.size := by obtain ⟨m, hm⟩ := k1; exact DataW.trod_lt m _ _ _ hm
  obtain ⟨c1, sh1, rp1⟩ := open_plain (n := 20) (c := .sl (.i .u8 .nil) .nil) (by kernel_rfl) h1 (small_of hsz (j := 1) rfl rfl)
  obtain ⟨z1, in1, sm1⟩ := arg_nums sh1
  obtain ⟨a2, len2, cap2, rfl⟩ := okWide_slice (show Try.prog.underlying 52 = some (.slice 5) from by kernel_rfl) (hval 2 52 v2 rfl rfl)
  have k2 := h2
  have lt2 : ∀ x ∈ p2, x.block < W.heap.size := by obtain ⟨m, hm⟩ := k2; exact DataW.trod_lt m _ _ _ hm
  obtain ⟨c2, sh2, rp2⟩ := open_plain (n := 20) (c := .sl (.i .u8 .nil) .nil) (by kernel_rfl) h2 (small_of hsz (j := 2) rfl rfl)
  obtain ⟨z2, in2, sm2⟩ := arg_nums sh2
  obtain ⟨a3, rfl, rfl, rfl, w3⟩ := open_int (show Try.prog.underlying 5 = some (.int .u8) from by kernel_rfl) (hval 3 5 v3 rfl rfl) h3
  clear hA0 hval0 hsz0 hsz
  have hrep : ListC ⟨fun _ => 0, fun _ => undef, fun b _ => b < W.heap.size, W⟩ (chain [.int .u8 fun _ => a0, nums .u8 fun _ => z1, nums .u8 fun _ => z2, .int .u8 fun _ => a3]) [_, _, _, _] := ⟨_, _, rfl, rfl, ⟨_, _, rfl, arg_one (sm1.rp _ _ rp1), ⟨_, _, rfl, arg_one (sm2.rp _ _ rp2), ⟨_, _, rfl, rfl, rfl⟩⟩⟩⟩
  have hcalls := law_of (fun b _ => b < W.heap.size) (fun b o h => h) hrep (by simp [AV.still, chain, nums]) (degradeFull_c (fun _ => a0) (fun _ => z1) (fun _ => z2) (fun _ => a3) (wf_u8 w0) (fun n hn => wf_u8 (in1.1 n hn)) in1.2 (fun n hn => wf_u8 (in2.1 n hn)) in2.2 (wf_u8 w3))
  refine hcalls.mono fun e W' ⟨he, bel⟩ => ?_
  subst he
  exact ⟨_, rfl, _, _, _, [], _, [], hW', trodAll_mk1 (shut_bool (show Try.prog.underlying 4 = some (.bool) from by kernel_rfl) _), (trodAll_cons_mk (shut_int (show Try.prog.underlying 5 = some (.int .u8) from by kernel_rfl) w0) (trodAll_cons_mk (Below.trod laidOut (by kernel_rfl) (of_decide_eq_true (by kernel_rfl)) k1 bel lt1) (trodAll_cons_mk (Below.trod laidOut (by kernel_rfl) (of_decide_eq_true (by kernel_rfl)) k2 bel lt2) (trodAll_cons_mk (shut_int (show Try.prog.underlying 5 = some (.int .u8) from by kernel_rfl) w3) trodAll_mk0)))), rfl, bel.frame _, fun h => by cases h⟩
theorem over : Rows.degradeFullRow.holds Try.pinned (OpenSpec.ofChange Rows.degradeFullSpec) :=
  OpenClaim.holds_of_wide 6 Try.f6 rfl rfl rfl rfl rfl rfl rfl ⟨rfl, rfl, rfl, rfl, rfl⟩ rfl rfl rfl rfl rfl (by kernel_rfl) Try.func6 (by kernel_rfl)
    (of_decide_eq_true (by kernel_rfl)) (by unfold Func.isWrapper; first | (rw [if_pos (by decide +kernel)]; kernel_rfl) | (rw [if_neg (by decide +kernel)]; exact ⟨rfl, rfl⟩))
    (fun os started H enc _ => lifted os started H enc)
theorem proved : Rows.DegradeFullSaid := over
#print axioms proved
end Go.Proofs.Ytgjlkcdnlndlnaa.degradeFull
namespace Go.Proofs.Ytgjlkcdnlndlnaa
/-- The row, under a short name, for the claim. -/
theorem degradeFull_holds : Rows.DegradeFullSaid := degradeFull.proved
end Go.Proofs.Ytgjlkcdnlndlnaa

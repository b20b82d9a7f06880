/- The law XattrLast: whatever the input, it answers true, and its arguments read as they did. -/
import Derived.Test.YtjjddmbnfkmfdaaXC5
import Derived.Test.YtjjddmbnfkmfdaaRows
import Derived.WalkKit
import Derived.ProofKit
import Derived.OpenShut
import Derived.ShutString
import Derived.ChangeOld
import Derived.Below
import Derived.Carry
import Derived.SizedLaws
namespace Go.Proofs.Ytjjddmbnfkmfdaa.xattrLast
open Go Go.ChangeShapes Go.WideShapes Go.ChangeAt Go.RowKit Go.Proofs.Ytjjddmbnfkmfdaa.Sx Go.Proofs.Ytjjddmbnfkmfdaa.F
open Go.ChangeMaps (open_string shut_string)
set_option linter.unusedVariables false
theorem own : ownKnob Try.prog.godebug = none := by kernel_rfl
theorem laidOut : laidOutB Try.prog = true := by kernel_rfl
set_option maxRecDepth 100000 in
theorem lifted (os : Os) (started : os.Started) (H : Type) (enc : TypeId × Value → H) :
    ReturnsInHanded {} Try.checked os 5 .any (Rows.xattrLastSpec.pre6 enc Try.prog Try.f5 Rows.xattrLastRow.domain false) (Rows.xattrLastSpec.post enc Try.prog Try.f5 false true false false) := by
  refine returnsInHanded_of_change_sized (C := Try.checked) own started (by kernel_rfl) Try.func5
    (ChangeSpec.witness6 (enc := enc) (C := Try.checked) false ⟨#[], #[.slice none 0 0, .string ByteArray.empty, .int .u8 0], []⟩ 8 (by kernel_rfl) (by kernel_rfl) (by kernel_rfl) (by kernel_rfl)) ?_
  intro W base args ds gs before hval0 hW hcnd hsz0 _
  have hsz : (DataW.weightsEach Try.prog (Try.f5.params.toList ++ Rows.xattrLastSpec.plain.varTypes Try.prog) (ds ++ gs)).all (· ≤ reachBytes) = true := hsz0
  have hval : ∀ (j : Nat) t v, Try.f5.params[j]? = some t → args[j]? = some v → Value.okWide Try.prog W .any base t v := hval0
  have hW' := hW
  obtain ⟨p, q, hA0, hV, rfl, hfz, hnd⟩ := hW
  have hpar : Try.f5.params = #[39, 9, 5] := by kernel_rfl
  have hA : DataW.TrodAll enc Try.prog W 0 (fun _ => true) true Try.f5.params.toList args.toList ds p := hA0
  rw [hpar] at hA hval hsz
  obtain ⟨v0, vs0, d0, ds0, p0, q0, hargs, rfl, rfl, h0, r0⟩ := trodAll_cons hA
  obtain ⟨v1, vs1, d1, ds1, p1, q1, rfl, rfl, rfl, h1, r1⟩ := trodAll_cons r0
  obtain ⟨v2, vs2, d2, ds2, p2, q2, rfl, rfl, rfl, h2, r2⟩ := trodAll_cons r1
  obtain ⟨rfl, rfl, rfl⟩ := trodAll_nil r2
  obtain rfl : args = #[v0, v1, v2] := by cases args; simp_all
  obtain ⟨rfl, rfl⟩ := trodVars_none hV
  obtain ⟨a0, len0, cap0, rfl⟩ := okWide_slice (show Try.prog.underlying 39 = some (.slice 5) from by kernel_rfl) (hval 0 39 v0 rfl rfl)
  have k0 := h0
  have lt0 : ∀ x ∈ p0, x.block < W.heap.size := by obtain ⟨m, hm⟩ := k0; exact DataW.trod_lt m _ _ _ hm
  obtain ⟨c0, sh0, rp0⟩ := open_plain (n := 20) (c := .sl (.i .u8 .nil) .nil) (by kernel_rfl) h0 (small_of hsz (j := 0) rfl rfl)
  obtain ⟨z0, in0, sm0⟩ := arg_nums sh0
  obtain ⟨a1, rfl, rfl, rfl, y1⟩ := open_string (show Try.prog.underlying 9 = some (.string) from by kernel_rfl) (hval 1 9 v1 rfl rfl) h1
  have w1 : a1.size ≤ 140737488351232 := by
    have z := sized_string hsz (j := 1) (t := 9) rfl rfl
    rw [Array.length_toList] at z
    exact z
  obtain ⟨a2, rfl, rfl, rfl, w2⟩ := open_int (show Try.prog.underlying 5 = some (.int .u8) from by kernel_rfl) (hval 2 5 v2 rfl rfl) h2
  clear hA0 hval0 hsz0 hsz
  have hrep : ListC ⟨fun _ => 0, fun _ => undef, fun b _ => b < W.heap.size, W⟩ (chain [nums .u8 fun _ => z0, .str fun _ => a1.data.toList, .int .u8 fun _ => a2]) [_, _, _] := ⟨_, _, rfl, arg_one (sm0.rp _ _ rp0), ⟨_, _, rfl, (show Value.string a1 = .string ⟨a1.data.toList.toArray⟩ by rw [Array.toArray_toList]), ⟨_, _, rfl, rfl, rfl⟩⟩⟩
  have hcalls := law_of (fun b _ => b < W.heap.size) (fun b o h => h) hrep (by simp [AV.still, chain, nums]) (xattrLast_c (fun _ => z0) (fun _ => a1.data.toList) (fun _ => a2) (fun n hn => wf_u8 (in0.1 n hn)) in0.2 (wf_u8 w2))
  refine hcalls.mono fun e W' ⟨he, bel⟩ => ?_
  subst he
  exact ⟨_, rfl, _, _, _, [], _, [], hW', trodAll_mk1 (shut_bool (show Try.prog.underlying 4 = some (.bool) from by kernel_rfl) _), (trodAll_cons_mk (Below.trod laidOut (by kernel_rfl) (of_decide_eq_true (by kernel_rfl)) k0 bel lt0) (trodAll_cons_mk (shut_string (show Try.prog.underlying 9 = some (.string) from by kernel_rfl) y1) (trodAll_cons_mk (shut_int (show Try.prog.underlying 5 = some (.int .u8) from by kernel_rfl) w2) trodAll_mk0))), rfl, bel.frame _, fun h => by cases h⟩
theorem over : Rows.xattrLastRow.holds Try.pinned (OpenSpec.ofChange Rows.xattrLastSpec) :=
  OpenClaim.holds_of_wide 5 Try.f5 rfl rfl rfl rfl rfl rfl rfl ⟨rfl, rfl, rfl, rfl, rfl⟩ rfl rfl rfl rfl rfl (by kernel_rfl) Try.func5 (by kernel_rfl)
    (of_decide_eq_true (by kernel_rfl)) (by unfold Func.isWrapper; first | (rw [if_pos (by decide +kernel)]; kernel_rfl) | (rw [if_neg (by decide +kernel)]; exact ⟨rfl, rfl⟩))
    (fun os started H enc _ => lifted os started H enc)
theorem proved : Rows.XattrLastSaid := over
#print axioms proved
end Go.Proofs.Ytjjddmbnfkmfdaa.xattrLast
namespace Go.Proofs.Ytjjddmbnfkmfdaa
/-- The row, under a short name, for the claim. -/
theorem xattrLast_holds : Rows.XattrLastSaid := xattrLast.proved
end Go.Proofs.Ytjjddmbnfkmfdaa

/- The law DegradeAll: whatever the input, it answers true, and its arguments read as they did. -/
import Derived.Test.YtgjlkcdnlndlnaaA6
import Derived.Test.YtgjlkcdnlndlnaaRows
import Derived.WalkKit
import Derived.ProofKit
import Derived.OpenShut
import Derived.ShutString
import Derived.ChangeOld
import Derived.Below
import Derived.Carry
import Derived.SizedLaws
namespace Go.Proofs.Ytgjlkcdnlndlnaa.degradeAll
open Go Go.ChangeShapes Go.WideShapes Go.ChangeAt Go.RowKit Go.Proofs.Ytgjlkcdnlndlnaa.Sx Go.Proofs.Ytgjlkcdnlndlnaa.F
open Go.ChangeMaps (open_string shut_string)
set_option linter.unusedVariables false
theorem own : ownKnob Try.prog.godebug = none := by kernel_rfl
theorem laidOut : laidOutB Try.prog = true := by kernel_rfl
set_option maxRecDepth 100000 in
theorem lifted (os : Os) (started : os.Started) (H : Type) (enc : TypeId × Value → H) :
    ReturnsInHanded {} Try.checked os 4 .any (Rows.degradeAllSpec.pre6 enc Try.prog Try.f4 Rows.degradeAllRow.domain false) (Rows.degradeAllSpec.post enc Try.prog Try.f4 false true false false) := by
  refine returnsInHanded_of_change_sized (C := Try.checked) own started (by kernel_rfl) Try.func4
    (ChangeSpec.witness6 (enc := enc) (C := Try.checked) false ⟨#[], #[.agg #[.string ByteArray.empty, .int .i64 0, .int .i64 0, .int .i64 0, .int .i64 0, .int .i64 0, .int .i64 0, .slice none 0 0, .slice none 0 0, .slice none 0 0, .int .i64 0, .int .u64 0, .int .u64 0, .bool false, .int .i64 0, .int .i64 0, .string ByteArray.empty, .string ByteArray.empty, .int .i64 0, .int .i64 0], .agg #[.int .i64 0, .int .i64 0, .slice none 0 0, .int .i64 0], .slice none 0 0, .string ByteArray.empty, .int .i64 0], []⟩ 8 (by kernel_rfl) (by kernel_rfl) (by kernel_rfl) (by kernel_rfl)) ?_
  intro W base args ds gs before hval0 hW hcnd hsz0 _
  have hsz : (DataW.weightsEach Try.prog (Try.f4.params.toList ++ Rows.degradeAllSpec.plain.varTypes Try.prog) (ds ++ gs)).all (· ≤ reachBytes) = true := hsz0
  have hval : ∀ (j : Nat) t v, Try.f4.params[j]? = some t → args[j]? = some v → Value.okWide Try.prog W .any base t v := hval0
  have hW' := hW
  obtain ⟨p, q, hA0, hV, rfl, hfz, hnd⟩ := hW
  have hpar : Try.f4.params = #[32, 45, 46, 9, 3] := by kernel_rfl
  have hA : DataW.TrodAll enc Try.prog W 0 (fun _ => true) true Try.f4.params.toList args.toList ds p := hA0
  rw [hpar] at hA hval hsz
  obtain ⟨v0, vs0, d0, ds0, p0, q0, hargs, rfl, rfl, h0, r0⟩ := trodAll_cons hA
  obtain ⟨v1, vs1, d1, ds1, p1, q1, rfl, rfl, rfl, h1, r1⟩ := trodAll_cons r0
  obtain ⟨v2, vs2, d2, ds2, p2, q2, rfl, rfl, rfl, h2, r2⟩ := trodAll_cons r1
  obtain ⟨v3, vs3, d3, ds3, p3, q3, rfl, rfl, rfl, h3, r3⟩ := trodAll_cons r2
  obtain ⟨v4, vs4, d4, ds4, p4, q4, rfl, rfl, rfl, h4, r4⟩ := trodAll_cons r3
  obtain ⟨rfl, rfl, rfl⟩ := trodAll_nil r4
  obtain rfl : args = #[v0, v1, v2, v3, v4] := by cases args; simp_all
  obtain ⟨rfl, rfl⟩ := trodVars_none hV
  obtain ⟨a0, rfl⟩ := okStruct (t := 32) (by kernel_rfl) (hval 0 32 v0 rfl rfl)
  have k0 := h0
  have lt0 : ∀ x ∈ p0, x.block < W.heap.size := by obtain ⟨m, hm⟩ := k0; exact DataW.trod_lt m _ _ _ hm
  obtain ⟨c0, sh0, rp0⟩ := open_plain (n := 20) (c := entryC) (by kernel_rfl) h0 (small_of hsz (j := 0) rfl rfl)
  obtain ⟨z0, in0, sm0⟩ := arg_entry sh0
  obtain ⟨a1, rfl⟩ := okStruct (t := 45) (by kernel_rfl) (hval 1 45 v1 rfl rfl)
  have k1 := h1
  have lt1 : ∀ x ∈ p1, x.block < W.heap.size := by obtain ⟨m, hm⟩ := k1; exact DataW.trod_lt m _ _ _ hm
  obtain ⟨c1, sh1, rp1⟩ := open_plain (n := 20) (c := credC) (by kernel_rfl) h1 (small_of hsz (j := 1) rfl rfl)
  obtain ⟨z1, in1, sm1⟩ := arg_cred sh1
  obtain ⟨a2, len2, cap2, rfl⟩ := okWide_slice (show Try.prog.underlying 46 = some (.slice 56) from by kernel_rfl) (hval 2 46 v2 rfl rfl)
  have k2 := h2
  have lt2 : ∀ x ∈ p2, x.block < W.heap.size := by obtain ⟨m, hm⟩ := k2; exact DataW.trod_lt m _ _ _ hm
  obtain ⟨c2, sh2, rp2⟩ := open_plain (n := 20) (c := .sl itemC .nil) (by kernel_rfl) h2 (small_of hsz (j := 2) rfl rfl)
  obtain ⟨z2, in2, sm2⟩ := arg_items sh2
  obtain ⟨a3, rfl, rfl, rfl, y3⟩ := open_string (show Try.prog.underlying 9 = some (.string) from by kernel_rfl) (hval 3 9 v3 rfl rfl) h3
  have w3 : a3.size ≤ 140737488351232 := by
    have z := sized_string hsz (j := 3) (t := 9) rfl rfl
    rw [Array.length_toList] at z
    exact z
  obtain ⟨a4, rfl, rfl, rfl, w4⟩ := open_int (show Try.prog.underlying 3 = some (.int .i64) from by kernel_rfl) (hval 4 3 v4 rfl rfl) h4
  clear hA0 hval0 hsz0 hsz
  have hrep : ListC ⟨fun _ => 0, fun _ => undef, fun b _ => b < W.heap.size, W⟩ (chain [Entry.av fun _ => z0, Cred.av fun _ => z1, items fun _ => z2, .str fun _ => a3.data.toList, .int .i64 fun _ => a4]) [_, _, _, _, _] := ⟨_, _, rfl, agg_one (sm0.rp _ _ rp0), ⟨_, _, rfl, agg_one (sm1.rp _ _ rp1), ⟨_, _, rfl, arg_one (sm2.rp _ _ rp2), ⟨_, _, rfl, (show Value.string a3 = .string ⟨a3.data.toList.toArray⟩ by rw [Array.toArray_toList]), ⟨_, _, rfl, rfl, rfl⟩⟩⟩⟩⟩
  have hcalls := law_of (fun b _ => b < W.heap.size) (fun b o h => h) hrep (by simp [AV.still, chain, Entry.av, Entry.ch, AV.app, Meta.ch, aces, xattrs, Cred.av, Cred.ch, ints, items, Item.ch]) (degradeAll_c (fun _ => z0) (fun _ => z1) (fun _ => z2) (fun _ => a3.data.toList) (fun _ => a4) in0 in1 in2)
  refine hcalls.mono fun e W' ⟨he, bel⟩ => ?_
  subst he
  exact ⟨_, rfl, _, _, _, [], _, [], hW', trodAll_mk1 (shut_bool (show Try.prog.underlying 4 = some (.bool) from by kernel_rfl) _), (trodAll_cons_mk (Below.trod laidOut (by kernel_rfl) (of_decide_eq_true (by kernel_rfl)) k0 bel lt0) (trodAll_cons_mk (Below.trod laidOut (by kernel_rfl) (of_decide_eq_true (by kernel_rfl)) k1 bel lt1) (trodAll_cons_mk (Below.trod laidOut (by kernel_rfl) (of_decide_eq_true (by kernel_rfl)) k2 bel lt2) (trodAll_cons_mk (shut_string (show Try.prog.underlying 9 = some (.string) from by kernel_rfl) y3) (trodAll_cons_mk (shut_int (show Try.prog.underlying 3 = some (.int .i64) from by kernel_rfl) w4) trodAll_mk0))))), rfl, bel.frame _, fun h => by cases h⟩
theorem over : Rows.degradeAllRow.holds Try.pinned (OpenSpec.ofChange Rows.degradeAllSpec) :=
  OpenClaim.holds_of_wide 4 Try.f4 rfl rfl rfl rfl rfl rfl rfl ⟨rfl, rfl, rfl, rfl, rfl⟩ rfl rfl rfl rfl rfl (by kernel_rfl) Try.func4 (by kernel_rfl)
    (of_decide_eq_true (by kernel_rfl)) (by unfold Func.isWrapper; first | (rw [if_pos (by decide +kernel)]; kernel_rfl) | (rw [if_neg (by decide +kernel)]; exact ⟨rfl, rfl⟩))
    (fun os started H enc _ => lifted os started H enc)
theorem proved : Rows.DegradeAllSaid := over
#print axioms proved
end Go.Proofs.Ytgjlkcdnlndlnaa.degradeAll
namespace Go.Proofs.Ytgjlkcdnlndlnaa
/-- The row, under a short name, for the claim. -/
theorem degradeAll_holds : Rows.DegradeAllSaid := degradeAll.proved
end Go.Proofs.Ytgjlkcdnlndlnaa

/- The law SafeAll: whatever the input, it answers true, and its arguments read as they did. -/
import Derived.Test.YtiaenejafpbfkaaDoorRows
import Derived.Test.YtiaenejafpbfkaaDoorOpn
import Derived.Test.YtiaenejafpbfkaaDoorSafeAll
import Derived.Test.YtiaenejafpbfkaaDoorArg
import Derived.WalkKit
import Derived.ProofKit
import Derived.OpenShut
import Derived.ShutString
import Derived.ChangeOld
import Derived.Below
import Derived.Carry
import Derived.SizedLaws
import Derived.Test.YtiaenejafpbfkaaDoorTie
import Derived.Test.YtiaenejafpbfkaaDoorCards
import Derived.LaidMore
import Derived.Lay
import Derived.SevenTiedAt
import Derived.Stop.Joined
namespace Go.Proofs.YtiaenejafpbfkaaDoor.safeAll
open Go Go.ChangeShapes Go.WideShapes Go.ChangeAt Go.RowKit Go.Proofs.YtiaenejafpbfkaaDoor.Sx Go.Proofs.YtiaenejafpbfkaaDoor.F
open Go.ChangeMaps (open_string shut_string)
set_option linter.unusedVariables false
theorem own : ownKnob Tryd.prog.godebug = none := by kernel_rfl
theorem laidOut : laidOutB Tryd.prog = true := by kernel_rfl
set_option maxRecDepth 100000 in
theorem lifted (os : Os) (started : os.Started) (H : Type) (enc : TypeId × Value → H) :
    ReturnsInHanded {} Tryd.checked os 5 .any (fun w args => (Rows.safeAllSpec.pre enc Tryd.prog Tryd.f5 Rows.safeAllRow.domain false w args ∧ laidMetH Tryd.prog Rows.safeAllRow.laid w) ∧ sizedMet enc Tryd.prog Tryd.f5 (OpenSpec.ofChange Rows.safeAllSpec) false w args) (Rows.safeAllSpec.post enc Tryd.prog Tryd.f5 false true false false) := by
  refine returnsInHanded_of_change_and (C := Tryd.checked) (X := fun w _ => laidMetH Tryd.prog Rows.safeAllRow.laid w) (fun _ _ _ hh h => h.of_heap hh) own started (by kernel_rfl) Tryd.func5
    (ChangeSpec.witness_shaped (enc := enc) (C := Tryd.checked) (os := os) (X := fun w _ => laidMetH Tryd.prog Rows.safeAllRow.laid w) false (World.laidAll Tryd.prog os Rows.safeAllRow.laid) #[.string ByteArray.empty, .string ByteArray.empty, .agg #[.string ByteArray.empty, .int .i64 0, .int .i64 0, .int .i64 0, .int .i64 0, .int .i64 0, .int .i64 0, .slice none 0 0, .slice none 0 0, .slice none 0 0, .int .i64 0, .int .u64 0, .int .u64 0, .bool false, .int .i64 0, .int .i64 0, .string ByteArray.empty, .string ByteArray.empty, .int .i64 0, .int .i64 0]] 8 (World.laidAll_os _ _ _)
      (World.shaped_of_ZipB (by kernel_rfl) (by kernel_rfl)) (by kernel_rfl) (by kernel_rfl) (by kernel_rfl)
      (by rw [MakeChecks.laidMetH_plain _ _ _ (by kernel_rfl)]; exact laidMet_laidAll _ (by kernel_rfl) (by kernel_rfl))) ?_
  intro W base args ds gs before hval0 hW hcnd hsz0 hL _
  have hsz : (DataW.weightsEach Tryd.prog (Tryd.f5.params.toList ++ Rows.safeAllSpec.plain.varTypes Tryd.prog) (ds ++ gs)).all (· ≤ reachBytes) = true := hsz0
  have hval : ∀ (j : Nat) t v, Tryd.f5.params[j]? = some t → args[j]? = some v → Value.okWide Tryd.prog W .any base t v := hval0
  have hW' := hW
  obtain ⟨p, q, hA0, hV, rfl, hfz, hnd⟩ := hW
  have hpar : Tryd.f5.params = #[9, 9, 40] := by kernel_rfl
  have hA : DataW.TrodAll enc Tryd.prog W 0 (fun _ => true) true Tryd.f5.params.toList args.toList ds p := hA0
  rw [hpar] at hA hval hsz
  obtain ⟨v0, vs0, d0, ds0, p0, q0, hargs, rfl, rfl, h0, r0⟩ := trodAll_cons hA
  obtain ⟨v1, vs1, d1, ds1, p1, q1, rfl, rfl, rfl, h1, r1⟩ := trodAll_cons r0
  obtain ⟨v2, vs2, d2, ds2, p2, q2, rfl, rfl, rfl, h2, r2⟩ := trodAll_cons r1
  obtain ⟨rfl, rfl, rfl⟩ := trodAll_nil r2
  obtain rfl : args = #[v0, v1, v2] := by cases args; simp_all
  obtain ⟨rfl, rfl⟩ := trodVars_none hV
  obtain ⟨a0, rfl, rfl, rfl, y0⟩ := open_string (show Tryd.prog.underlying 9 = some (.string) from by kernel_rfl) (hval 0 9 v0 rfl rfl) h0
  have w0 : a0.size ≤ 140737488351232 := by
    have z := sized_string hsz (j := 0) (t := 9) rfl rfl
    rw [Array.length_toList] at z
    exact z
  obtain ⟨a1, rfl, rfl, rfl, y1⟩ := open_string (show Tryd.prog.underlying 9 = some (.string) from by kernel_rfl) (hval 1 9 v1 rfl rfl) h1
  have w1 : a1.size ≤ 140737488351232 := by
    have z := sized_string hsz (j := 1) (t := 9) rfl rfl
    rw [Array.length_toList] at z
    exact z
  obtain ⟨a2, rfl⟩ := okStruct (t := 40) (by kernel_rfl) (hval 2 40 v2 rfl rfl)
  have k2 := h2
  have lt2 : ∀ x ∈ p2, x.block < W.heap.size := by obtain ⟨m, hm⟩ := k2; exact DataW.trod_lt m _ _ _ hm
  obtain ⟨c2, sh2, rp2⟩ := open_plain (n := 20) (c := entryC) (by kernel_rfl) h2 (small_of hsz (j := 2) rfl rfl)
  obtain ⟨z2, in2, sm2⟩ := arg_entry sh2
  clear hA0 hval0 hsz0 hsz
  have hrep : ListC ⟨fun _ => 0, fun _ => undef, fun b _ => b < W.heap.size, W⟩ (chain [.str fun _ => a0.data.toList, .str fun _ => a1.data.toList, Entry.av fun _ => z2]) [_, _, _] := ⟨_, _, rfl, (show Value.string a0 = .string ⟨a0.data.toList.toArray⟩ by rw [Array.toArray_toList]), ⟨_, _, rfl, (show Value.string a1 = .string ⟨a1.data.toList.toArray⟩ by rw [Array.toArray_toList]), ⟨_, _, rfl, agg_one (sm2.rp _ _ rp2), rfl⟩⟩⟩
  have hcalls := law_of (fun b _ => b < W.heap.size) (fun b o h => h) hrep (by simp [AV.still, chain, Entry.av, Entry.ch, AV.app, Meta.ch, aces, xattrs]) (safeAll_c (fun _ => a0.data.toList) (fun _ => a1.data.toList) (fun _ => z2) in2)
  refine hcalls.mono fun e W' ⟨he, bel⟩ => ?_
  subst he
  exact ⟨_, rfl, _, _, _, [], _, [], hW', trodAll_mk1 (shut_bool (show Tryd.prog.underlying 4 = some (.bool) from by kernel_rfl) _), (trodAll_cons_mk (shut_string (show Tryd.prog.underlying 9 = some (.string) from by kernel_rfl) y0) (trodAll_cons_mk (shut_string (show Tryd.prog.underlying 9 = some (.string) from by kernel_rfl) y1) (trodAll_cons_mk (Below.trod laidOut (by kernel_rfl) (of_decide_eq_true (by kernel_rfl)) k2 bel lt2) trodAll_mk0))), rfl, bel.frame _, fun h => by cases h⟩
theorem over : Rows.safeAllRow.holds Tryd.pinned (OpenSpec.ofChange Rows.safeAllSpec) :=
  OpenClaim.holds_of_wide 5 Tryd.f5 rfl rfl rfl rfl rfl rfl rfl ⟨rfl, rfl, rfl, rfl, rfl⟩ rfl rfl rfl rfl rfl (by kernel_rfl) Tryd.func5 (by kernel_rfl)
    (of_decide_eq_true (by kernel_rfl)) (by unfold Func.isWrapper; first | (rw [if_pos (by decide +kernel)]; kernel_rfl) | (rw [if_neg (by decide +kernel)]; exact ⟨rfl, rfl⟩))
    (fun os started H enc _ => lifted os started H enc)
theorem proved : Rows.SafeAllCardSaid :=
  Claim7.holds_tied_plain_at .later [] [.data, .pinned] true (true, "0d3725af298be45c771285d3c9b4da763b55b1e38bf7f07af825f992337c6923") true over (fun _ h => by cases h) (by kernel_rfl) (fun _ h => by cases h) safeAll_row_tie rfl ⟨rfl, rfl⟩ (by kernel_rfl) rfl
    (fun f fn hf hfn => by
      obtain rfl : f = 5 := Option.some.inj ((show Tryd.prog.funcNamed "gripsack/gripsacklaw22.SafeAll" = some 5 by kernel_rfl).symm.trans hf) |>.symm
      obtain rfl : fn = Tryd.f5 := (Option.some.inj (Tryd.func5.symm.trans hfn)).symm
      exact ⟨by kernel_rfl, fun j t ht => by
        have hpar : Tryd.f5.params = #[9, 9, 40] := by kernel_rfl
        rw [hpar] at ht
        have hm : t ∈ [9, 9, 40] := by simpa using Array.mem_of_getElem? ht
        have hall : ([9, 9, 40].all fun u => !Tryd.prog.wantsStandIn u) = true := by kernel_rfl
        exact (show Tryd.prog.wantsStandIn t = false by simpa using List.all_eq_true.1 hall t hm)⟩)
    (by kernel_rfl)
#print axioms proved
end Go.Proofs.YtiaenejafpbfkaaDoor.safeAll
namespace Go.Proofs.YtiaenejafpbfkaaDoor
/-- The row, under a short name, for the claim. -/
theorem safeAll_holds : Rows.SafeAllCardSaid := safeAll.proved
end Go.Proofs.YtiaenejafpbfkaaDoor

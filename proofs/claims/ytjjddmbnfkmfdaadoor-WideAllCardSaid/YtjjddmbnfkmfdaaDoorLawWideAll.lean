/- The law WideAll: whatever the input, it answers true, and its arguments read as they did. -/
import Derived.Test.YtjjddmbnfkmfdaaDoorMa5
import Derived.Test.YtjjddmbnfkmfdaaDoorRows
import Derived.WalkKit
import Derived.ProofKit
import Derived.OpenShut
import Derived.ShutString
import Derived.ChangeOld
import Derived.Below
import Derived.Carry
import Derived.SizedLaws
import Derived.Test.YtjjddmbnfkmfdaaDoorTie
import Derived.Test.YtjjddmbnfkmfdaaDoorCards
import Derived.LaidMore
import Derived.Lay
import Derived.SevenTiedAt
import Derived.Stop.Joined
namespace Go.Proofs.YtjjddmbnfkmfdaaDoor.wideAll
open Go Go.ChangeShapes Go.WideShapes Go.ChangeAt Go.RowKit Go.Proofs.YtjjddmbnfkmfdaaDoor.Sx Go.Proofs.YtjjddmbnfkmfdaaDoor.F
open Go.ChangeMaps (open_string shut_string)
set_option linter.unusedVariables false
theorem own : ownKnob Tryd.prog.godebug = none := by kernel_rfl
theorem laidOut : laidOutB Tryd.prog = true := by kernel_rfl
set_option maxRecDepth 100000 in
theorem lifted (os : Os) (started : os.Started) (H : Type) (enc : TypeId × Value → H) :
    ReturnsInHanded {} Tryd.checked os 3 .any (fun w args => (Rows.wideAllSpec.pre enc Tryd.prog Tryd.f3 Rows.wideAllRow.domain false w args ∧ laidMetH Tryd.prog Rows.wideAllRow.laid w) ∧ sizedMet enc Tryd.prog Tryd.f3 (OpenSpec.ofChange Rows.wideAllSpec) false w args) (Rows.wideAllSpec.post enc Tryd.prog Tryd.f3 false true false false) := by
  refine returnsInHanded_of_change_and (C := Tryd.checked) (X := fun w _ => laidMetH Tryd.prog Rows.wideAllRow.laid w) (fun _ _ _ hh h => h.of_heap hh) own started (by kernel_rfl) Tryd.func3
    (ChangeSpec.witness_shaped (enc := enc) (C := Tryd.checked) (os := os) (X := fun w _ => laidMetH Tryd.prog Rows.wideAllRow.laid w) false (World.laidAll Tryd.prog os Rows.wideAllRow.laid) #[.slice none 0 0, .string ByteArray.empty, .slice none 0 0, .int .i64 0] 8 (World.laidAll_os _ _ _)
      (World.shaped_of_ZipB (by kernel_rfl) (by kernel_rfl)) (by kernel_rfl) (by kernel_rfl) (by kernel_rfl)
      (by rw [MakeChecks.laidMetH_plain _ _ _ (by kernel_rfl)]; exact laidMet_laidAll _ (by kernel_rfl) (by kernel_rfl))) ?_
  intro W base args ds gs before hval0 hW hcnd hsz0 hL _
  have hsz : (DataW.weightsEach Tryd.prog (Tryd.f3.params.toList ++ Rows.wideAllSpec.plain.varTypes Tryd.prog) (ds ++ gs)).all (· ≤ reachBytes) = true := hsz0
  have hval : ∀ (j : Nat) t v, Tryd.f3.params[j]? = some t → args[j]? = some v → Value.okWide Tryd.prog W .any base t v := hval0
  have hW' := hW
  obtain ⟨p, q, hA0, hV, rfl, hfz, hnd⟩ := hW
  have hpar : Tryd.f3.params = #[22, 9, 23, 3] := by kernel_rfl
  have hA : DataW.TrodAll enc Tryd.prog W 0 (fun _ => true) true Tryd.f3.params.toList args.toList ds p := hA0
  rw [hpar] at hA hval hsz
  obtain ⟨v0, vs0, d0, ds0, p0, q0, hargs, rfl, rfl, h0, r0⟩ := trodAll_cons hA
  obtain ⟨v1, vs1, d1, ds1, p1, q1, rfl, rfl, rfl, h1, r1⟩ := trodAll_cons r0
  obtain ⟨v2, vs2, d2, ds2, p2, q2, rfl, rfl, rfl, h2, r2⟩ := trodAll_cons r1
  obtain ⟨v3, vs3, d3, ds3, p3, q3, rfl, rfl, rfl, h3, r3⟩ := trodAll_cons r2
  obtain ⟨rfl, rfl, rfl⟩ := trodAll_nil r3
  obtain rfl : args = #[v0, v1, v2, v3] := by cases args; simp_all
  obtain ⟨rfl, rfl⟩ := trodVars_none hV
  obtain ⟨a0, len0, cap0, rfl⟩ := okWide_slice (show Tryd.prog.underlying 22 = some (.slice 41) from by kernel_rfl) (hval 0 22 v0 rfl rfl)
  have k0 := h0
  have lt0 : ∀ x ∈ p0, x.block < W.heap.size := by obtain ⟨m, hm⟩ := k0; exact DataW.trod_lt m _ _ _ hm
  obtain ⟨c0, sh0, rp0⟩ := open_plain (n := 20) (c := .sl wideC .nil) (by kernel_rfl) h0 (small_of hsz (j := 0) rfl rfl)
  obtain ⟨z0, in0, sm0⟩ := arg_wides sh0
  obtain ⟨a1, rfl, rfl, rfl, y1⟩ := open_string (show Tryd.prog.underlying 9 = some (.string) from by kernel_rfl) (hval 1 9 v1 rfl rfl) h1
  have w1 : a1.size ≤ 140737488351232 := by
    have z := sized_string hsz (j := 1) (t := 9) rfl rfl
    rw [Array.length_toList] at z
    exact z
  obtain ⟨a2, len2, cap2, rfl⟩ := okWide_slice (show Tryd.prog.underlying 23 = some (.slice 9) from by kernel_rfl) (hval 2 23 v2 rfl rfl)
  have k2 := h2
  have lt2 : ∀ x ∈ p2, x.block < W.heap.size := by obtain ⟨m, hm⟩ := k2; exact DataW.trod_lt m _ _ _ hm
  obtain ⟨c2, sh2, rp2⟩ := open_plain (n := 20) (c := .sl strC .nil) (by kernel_rfl) h2 (small_of hsz (j := 2) rfl rfl)
  obtain ⟨z2, in2, sm2⟩ := arg_strs sh2
  obtain ⟨a3, rfl, rfl, rfl, w3⟩ := open_int (show Tryd.prog.underlying 3 = some (.int .i64) from by kernel_rfl) (hval 3 3 v3 rfl rfl) h3
  clear hA0 hval0 hsz0 hsz
  have hrep : ListC ⟨fun _ => 0, fun _ => undef, fun b _ => b < W.heap.size, W⟩ (chain [wides fun _ => z0, .str fun _ => a1.data.toList, strs fun _ => z2, .int .i64 fun _ => a3]) [_, _, _, _] := ⟨_, _, rfl, arg_one (sm0.rp _ _ rp0), ⟨_, _, rfl, (show Value.string a1 = .string ⟨a1.data.toList.toArray⟩ by rw [Array.toArray_toList]), ⟨_, _, rfl, arg_one (sm2.rp _ _ rp2), ⟨_, _, rfl, rfl, rfl⟩⟩⟩⟩
  have hcalls := law_of (fun b _ => b < W.heap.size) (fun b o h => h) hrep (by simp [AV.still, chain, wides, WideE.ch, strs, strCh]) (wideAllY (fun _ => z0) (fun _ => a1.data.toList) (fun _ => z2) (fun _ => a3) in0 in2)
  refine hcalls.mono fun e W' ⟨he, bel⟩ => ?_
  subst he
  exact ⟨_, rfl, _, _, _, [], _, [], hW', trodAll_mk1 (shut_bool (show Tryd.prog.underlying 4 = some (.bool) from by kernel_rfl) _), (trodAll_cons_mk (Below.trod laidOut (by kernel_rfl) (of_decide_eq_true (by kernel_rfl)) k0 bel lt0) (trodAll_cons_mk (shut_string (show Tryd.prog.underlying 9 = some (.string) from by kernel_rfl) y1) (trodAll_cons_mk (Below.trod laidOut (by kernel_rfl) (of_decide_eq_true (by kernel_rfl)) k2 bel lt2) (trodAll_cons_mk (shut_int (show Tryd.prog.underlying 3 = some (.int .i64) from by kernel_rfl) w3) trodAll_mk0)))), rfl, bel.frame _, fun h => by cases h⟩
theorem over : Rows.wideAllRow.holds Tryd.pinned (OpenSpec.ofChange Rows.wideAllSpec) :=
  OpenClaim.holds_of_wide 3 Tryd.f3 rfl rfl rfl rfl rfl rfl rfl ⟨rfl, rfl, rfl, rfl, rfl⟩ rfl rfl rfl rfl rfl (by kernel_rfl) Tryd.func3 (by kernel_rfl)
    (of_decide_eq_true (by kernel_rfl)) (by unfold Func.isWrapper; first | (rw [if_pos (by decide +kernel)]; kernel_rfl) | (rw [if_neg (by decide +kernel)]; exact ⟨rfl, rfl⟩))
    (fun os started H enc _ => lifted os started H enc)
theorem proved : Rows.WideAllCardSaid :=
  Claim7.holds_tied_plain_at .later [] [.data, .pinned] true (true, "295c7ce2ed9d01b44ddd28d7258f30f86bd5f6c6b9d5a650330004b35dca0651") true over (fun _ h => by cases h) (by kernel_rfl) (fun _ h => by cases h) wideAll_row_tie rfl ⟨rfl, rfl⟩ (by kernel_rfl) rfl
    (fun f fn hf hfn => by
      obtain rfl : f = 3 := Option.some.inj ((show Tryd.prog.funcNamed "gripsack/gripsacklaw10.WideAll" = some 3 by kernel_rfl).symm.trans hf) |>.symm
      obtain rfl : fn = Tryd.f3 := (Option.some.inj (Tryd.func3.symm.trans hfn)).symm
      exact ⟨by kernel_rfl, fun j t ht => by
        have hpar : Tryd.f3.params = #[22, 9, 23, 3] := by kernel_rfl
        rw [hpar] at ht
        have hm : t ∈ [22, 9, 23, 3] := by simpa using Array.mem_of_getElem? ht
        have hall : ([22, 9, 23, 3].all fun u => !Tryd.prog.wantsStandIn u) = true := by kernel_rfl
        exact (show Tryd.prog.wantsStandIn t = false by simpa using List.all_eq_true.1 hall t hm)⟩)
    (by kernel_rfl)
#print axioms proved
end Go.Proofs.YtjjddmbnfkmfdaaDoor.wideAll
namespace Go.Proofs.YtjjddmbnfkmfdaaDoor
/-- The row, under a short name, for the claim. -/
theorem wideAll_holds : Rows.WideAllCardSaid := wideAll.proved
end Go.Proofs.YtjjddmbnfkmfdaaDoor

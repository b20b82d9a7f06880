/-
  No cell of these rows narrows 'for every input' (looked for: loops, veiled, ifaces, maps, wideKeys, modest, calm, conditions, laid).
  DERIVED. THE GIVEN ROWS OF THIS SEAT. 12 by the template 'for every input the law returns true; each argument reads behind the call as it read before'; 0 by the template 'total and deterministic' (their statements: YteeikiekofopnaaTotals.lean).
  GIVEN WITH THE SEED: the statements are not yours to turn. If you find one false, say at which input.
  Laid BY PROGRAM, IN A SANDBOX (cutbox-rows.mjs): the forced cells as the released guide's own fill.sh prints them over the translation bb42bccd3a243e3c… (all of the seat's roots in one cut). By AI agents, Wed Nov 11 2026. No macro, syntax, notation, axiom, sorry.
-/
import Derived.Test.YteeikiekofopnaaChecked
import GoSem.Claim
import GoSem.ClaimJoined
import GoSem.ClaimMapViews
import Derived.JoinedTies
import Derived.KernelRfl
namespace Go.Proofs.Yteeikiekofopnaa
/- THE CELL 'sum', in the pinned program and in every row, IS THE sha256 OF THE DUMP (.gsa) THAT YteeikiekofopnaaProg.lean LOADS. Nothing in Lean hashes anything: it is a label: what it is worth is what the hold of that sum in a sandbox is worth. -/
noncomputable def Try.pinned : Pinned := { name := "yteeikiekofopnaa", sum := "bb42bccd3a243e3c5686bc861457bcb54239e1f15d9569dd58348e16c99f7cf1", checked := Try.checked }
namespace Rows
def none {H : Type} : Left H := { results := [], args := [] }

/-- 'gripsacklaw23.PlanLess': WHATEVER THE INPUT: true; the input reads as it did. -/
def planLessSpec : ChangeSpec := { name := "planLess", fn := fun _ => fun
  | [d1, d2, d3] => { results := [.lit (.bool true)], args := [d1, d2, d3] }
  | _ => none }
def planLessRow : OpenClaim := { program := "yteeikiekofopnaa", sum := "bb42bccd3a243e3c5686bc861457bcb54239e1f15d9569dd58348e16c99f7cf1", func := "gripsack/gripsacklaw23.PlanLess", spec := "planLess", unfollowed := true, recurses := true, apart := false }
def PlanLessSaid : Prop := planLessRow.holds Try.pinned (OpenSpec.ofChange planLessSpec)

/-- ITS FALSE NEIGHBOUR: 'it returns false'. Refute it at one input. -/
def planLessWrong : ChangeSpec := { name := "planLess", fn := fun _ => fun
  | [d1, d2, d3] => { results := [.lit (.bool false)], args := [d1, d2, d3] }
  | _ => none }
def PlanLessWrongFalsely : Prop := planLessRow.holds Try.pinned (OpenSpec.ofChange planLessWrong)

/-- 'gripsacklaw18.RightParts': WHATEVER THE INPUT: true; the input reads as it did. -/
def rightPartsSpec : ChangeSpec := { name := "rightParts", fn := fun _ => fun
  | [d1, d2, d3, d4] => { results := [.lit (.bool true)], args := [d1, d2, d3, d4] }
  | _ => none }
def rightPartsRow : OpenClaim := { program := "yteeikiekofopnaa", sum := "bb42bccd3a243e3c5686bc861457bcb54239e1f15d9569dd58348e16c99f7cf1", func := "gripsack/gripsacklaw18.RightParts", spec := "rightParts", unfollowed := true, recurses := true, apart := false }
def RightPartsSaid : Prop := rightPartsRow.holds Try.pinned (OpenSpec.ofChange rightPartsSpec)

/-- ITS FALSE NEIGHBOUR: 'it returns false'. Refute it at one input. -/
def rightPartsWrong : ChangeSpec := { name := "rightParts", fn := fun _ => fun
  | [d1, d2, d3, d4] => { results := [.lit (.bool false)], args := [d1, d2, d3, d4] }
  | _ => none }
def RightPartsWrongFalsely : Prop := rightPartsRow.holds Try.pinned (OpenSpec.ofChange rightPartsWrong)

/-- 'gripsacklaw18.RightMask': WHATEVER THE INPUT: true; the input reads as it did. -/
def rightMaskSpec : ChangeSpec := { name := "rightMask", fn := fun _ => fun
  | [d1, d2, d3, d4, d5] => { results := [.lit (.bool true)], args := [d1, d2, d3, d4, d5] }
  | _ => none }
def rightMaskRow : OpenClaim := { program := "yteeikiekofopnaa", sum := "bb42bccd3a243e3c5686bc861457bcb54239e1f15d9569dd58348e16c99f7cf1", func := "gripsack/gripsacklaw18.RightMask", spec := "rightMask", unfollowed := true, recurses := true, apart := false }
def RightMaskSaid : Prop := rightMaskRow.holds Try.pinned (OpenSpec.ofChange rightMaskSpec)

/-- ITS FALSE NEIGHBOUR: 'it returns false'. Refute it at one input. -/
def rightMaskWrong : ChangeSpec := { name := "rightMask", fn := fun _ => fun
  | [d1, d2, d3, d4, d5] => { results := [.lit (.bool false)], args := [d1, d2, d3, d4, d5] }
  | _ => none }
def RightMaskWrongFalsely : Prop := rightMaskRow.holds Try.pinned (OpenSpec.ofChange rightMaskWrong)

/-- 'gripsacklaw18.RightGroups': WHATEVER THE INPUT: true; the input reads as it did. -/
def rightGroupsSpec : ChangeSpec := { name := "rightGroups", fn := fun _ => fun
  | [d1, d2, d3, d4] => { results := [.lit (.bool true)], args := [d1, d2, d3, d4] }
  | _ => none }
def rightGroupsRow : OpenClaim := { program := "yteeikiekofopnaa", sum := "bb42bccd3a243e3c5686bc861457bcb54239e1f15d9569dd58348e16c99f7cf1", func := "gripsack/gripsacklaw18.RightGroups", spec := "rightGroups", unfollowed := true, recurses := true, apart := false }
def RightGroupsSaid : Prop := rightGroupsRow.holds Try.pinned (OpenSpec.ofChange rightGroupsSpec)

/-- ITS FALSE NEIGHBOUR: 'it returns false'. Refute it at one input. -/
def rightGroupsWrong : ChangeSpec := { name := "rightGroups", fn := fun _ => fun
  | [d1, d2, d3, d4] => { results := [.lit (.bool false)], args := [d1, d2, d3, d4] }
  | _ => none }
def RightGroupsWrongFalsely : Prop := rightGroupsRow.holds Try.pinned (OpenSpec.ofChange rightGroupsWrong)

/-- 'gripsacklaw18.RightModes': WHATEVER THE INPUT: true; the input reads as it did. -/
def rightModesSpec : ChangeSpec := { name := "rightModes", fn := fun _ => fun
  | [d1, d2, d3, d4] => { results := [.lit (.bool true)], args := [d1, d2, d3, d4] }
  | _ => none }
def rightModesRow : OpenClaim := { program := "yteeikiekofopnaa", sum := "bb42bccd3a243e3c5686bc861457bcb54239e1f15d9569dd58348e16c99f7cf1", func := "gripsack/gripsacklaw18.RightModes", spec := "rightModes", unfollowed := true, recurses := true, apart := false }
def RightModesSaid : Prop := rightModesRow.holds Try.pinned (OpenSpec.ofChange rightModesSpec)

/-- ITS FALSE NEIGHBOUR: 'it returns false'. Refute it at one input. -/
def rightModesWrong : ChangeSpec := { name := "rightModes", fn := fun _ => fun
  | [d1, d2, d3, d4] => { results := [.lit (.bool false)], args := [d1, d2, d3, d4] }
  | _ => none }
def RightModesWrongFalsely : Prop := rightModesRow.holds Try.pinned (OpenSpec.ofChange rightModesWrong)

/-- 'gripsacklaw23.PlanFewer': WHATEVER THE INPUT: true; the input reads as it did. -/
def planFewerSpec : ChangeSpec := { name := "planFewer", fn := fun _ => fun
  | [d] => { results := [.lit (.bool true)], args := [d] }
  | _ => none }
def planFewerRow : OpenClaim := { program := "yteeikiekofopnaa", sum := "bb42bccd3a243e3c5686bc861457bcb54239e1f15d9569dd58348e16c99f7cf1", func := "gripsack/gripsacklaw23.PlanFewer", spec := "planFewer", unfollowed := true, recurses := true, apart := false }
def PlanFewerSaid : Prop := planFewerRow.holds Try.pinned (OpenSpec.ofChange planFewerSpec)

/-- ITS FALSE NEIGHBOUR: 'it returns false'. Refute it at one input. -/
def planFewerWrong : ChangeSpec := { name := "planFewer", fn := fun _ => fun
  | [d] => { results := [.lit (.bool false)], args := [d] }
  | _ => none }
def PlanFewerWrongFalsely : Prop := planFewerRow.holds Try.pinned (OpenSpec.ofChange planFewerWrong)

/-- 'gripsacklaw18.RightLess': WHATEVER THE INPUT: true; the input reads as it did. -/
def rightLessSpec : ChangeSpec := { name := "rightLess", fn := fun _ => fun
  | [d1, d2, d3] => { results := [.lit (.bool true)], args := [d1, d2, d3] }
  | _ => none }
def rightLessRow : OpenClaim := { program := "yteeikiekofopnaa", sum := "bb42bccd3a243e3c5686bc861457bcb54239e1f15d9569dd58348e16c99f7cf1", func := "gripsack/gripsacklaw18.RightLess", spec := "rightLess", unfollowed := true, recurses := true, apart := false }
def RightLessSaid : Prop := rightLessRow.holds Try.pinned (OpenSpec.ofChange rightLessSpec)

/-- ITS FALSE NEIGHBOUR: 'it returns false'. Refute it at one input. -/
def rightLessWrong : ChangeSpec := { name := "rightLess", fn := fun _ => fun
  | [d1, d2, d3] => { results := [.lit (.bool false)], args := [d1, d2, d3] }
  | _ => none }
def RightLessWrongFalsely : Prop := rightLessRow.holds Try.pinned (OpenSpec.ofChange rightLessWrong)

/-- 'gripsacklaw18.RightAll': WHATEVER THE INPUT: true; the input reads as it did. -/
def rightAllSpec : ChangeSpec := { name := "rightAll", fn := fun _ => fun
  | [d1, d2, d3, d4] => { results := [.lit (.bool true)], args := [d1, d2, d3, d4] }
  | _ => none }
def rightAllRow : OpenClaim := { program := "yteeikiekofopnaa", sum := "bb42bccd3a243e3c5686bc861457bcb54239e1f15d9569dd58348e16c99f7cf1", func := "gripsack/gripsacklaw18.RightAll", spec := "rightAll", unfollowed := true, recurses := true, apart := false }
def RightAllSaid : Prop := rightAllRow.holds Try.pinned (OpenSpec.ofChange rightAllSpec)

/-- ITS FALSE NEIGHBOUR: 'it returns false'. Refute it at one input. -/
def rightAllWrong : ChangeSpec := { name := "rightAll", fn := fun _ => fun
  | [d1, d2, d3, d4] => { results := [.lit (.bool false)], args := [d1, d2, d3, d4] }
  | _ => none }
def RightAllWrongFalsely : Prop := rightAllRow.holds Try.pinned (OpenSpec.ofChange rightAllWrong)

/-- 'gripsacklaw18.RightMade': WHATEVER THE INPUT: true; the input reads as it did. -/
def rightMadeSpec : ChangeSpec := { name := "rightMade", fn := fun _ => fun
  | [d1, d2, d3] => { results := [.lit (.bool true)], args := [d1, d2, d3] }
  | _ => none }
def rightMadeRow : OpenClaim := { program := "yteeikiekofopnaa", sum := "bb42bccd3a243e3c5686bc861457bcb54239e1f15d9569dd58348e16c99f7cf1", func := "gripsack/gripsacklaw18.RightMade", spec := "rightMade", unfollowed := true, recurses := true, apart := false }
def RightMadeSaid : Prop := rightMadeRow.holds Try.pinned (OpenSpec.ofChange rightMadeSpec)

/-- ITS FALSE NEIGHBOUR: 'it returns false'. Refute it at one input. -/
def rightMadeWrong : ChangeSpec := { name := "rightMade", fn := fun _ => fun
  | [d1, d2, d3] => { results := [.lit (.bool false)], args := [d1, d2, d3] }
  | _ => none }
def RightMadeWrongFalsely : Prop := rightMadeRow.holds Try.pinned (OpenSpec.ofChange rightMadeWrong)

/-- 'gripsacklaw23.PlanOrder': WHATEVER THE INPUT: true; the input reads as it did. -/
def planOrderSpec : ChangeSpec := { name := "planOrder", fn := fun _ => fun
  | [d1, d2] => { results := [.lit (.bool true)], args := [d1, d2] }
  | _ => none }
def planOrderRow : OpenClaim := { program := "yteeikiekofopnaa", sum := "bb42bccd3a243e3c5686bc861457bcb54239e1f15d9569dd58348e16c99f7cf1", func := "gripsack/gripsacklaw23.PlanOrder", spec := "planOrder", unfollowed := true, recurses := true, apart := false }
def PlanOrderSaid : Prop := planOrderRow.holds Try.pinned (OpenSpec.ofChange planOrderSpec)

/-- ITS FALSE NEIGHBOUR: 'it returns false'. Refute it at one input. -/
def planOrderWrong : ChangeSpec := { name := "planOrder", fn := fun _ => fun
  | [d1, d2] => { results := [.lit (.bool false)], args := [d1, d2] }
  | _ => none }
def PlanOrderWrongFalsely : Prop := planOrderRow.holds Try.pinned (OpenSpec.ofChange planOrderWrong)

/-- 'gripsacklaw23.PlanAll': WHATEVER THE INPUT: true; the input reads as it did. -/
def planAllSpec : ChangeSpec := { name := "planAll", fn := fun _ => fun
  | [d1, d2, d3] => { results := [.lit (.bool true)], args := [d1, d2, d3] }
  | _ => none }
def planAllRow : OpenClaim := { program := "yteeikiekofopnaa", sum := "bb42bccd3a243e3c5686bc861457bcb54239e1f15d9569dd58348e16c99f7cf1", func := "gripsack/gripsacklaw23.PlanAll", spec := "planAll", unfollowed := true, recurses := true, apart := false }
def PlanAllSaid : Prop := planAllRow.holds Try.pinned (OpenSpec.ofChange planAllSpec)

/-- ITS FALSE NEIGHBOUR: 'it returns false'. Refute it at one input. -/
def planAllWrong : ChangeSpec := { name := "planAll", fn := fun _ => fun
  | [d1, d2, d3] => { results := [.lit (.bool false)], args := [d1, d2, d3] }
  | _ => none }
def PlanAllWrongFalsely : Prop := planAllRow.holds Try.pinned (OpenSpec.ofChange planAllWrong)

/-- 'gripsacklaw23.PlanMade': WHATEVER THE INPUT: true; the input reads as it did. -/
def planMadeSpec : ChangeSpec := { name := "planMade", fn := fun _ => fun
  | [d1, d2, d3] => { results := [.lit (.bool true)], args := [d1, d2, d3] }
  | _ => none }
def planMadeRow : OpenClaim := { program := "yteeikiekofopnaa", sum := "bb42bccd3a243e3c5686bc861457bcb54239e1f15d9569dd58348e16c99f7cf1", func := "gripsack/gripsacklaw23.PlanMade", spec := "planMade", unfollowed := true, recurses := true, apart := false }
def PlanMadeSaid : Prop := planMadeRow.holds Try.pinned (OpenSpec.ofChange planMadeSpec)

/-- ITS FALSE NEIGHBOUR: 'it returns false'. Refute it at one input. -/
def planMadeWrong : ChangeSpec := { name := "planMade", fn := fun _ => fun
  | [d1, d2, d3] => { results := [.lit (.bool false)], args := [d1, d2, d3] }
  | _ => none }
def PlanMadeWrongFalsely : Prop := planMadeRow.holds Try.pinned (OpenSpec.ofChange planMadeWrong)

/- THE SECOND FORM. 'bulk': how many values and letters a reading holds, each counted each time it is reached (what is shared counts as often as it is met; a slice's spare places count too). A statement '..UptoSaid' is the law's where the arguments, and the package variables that the reading takes, are together of bulk at most 1048576: NARROWER than '..Said'. Prove '..Said' where nothing that the law and all that it calls make is longer than what came in: it says more and counts as full. Else prove '..UptoSaid'. A law counts once. -/
mutual
def uptoBulk {H : Type} : DataW H → Nat
  | .lit (.string bytes) => bytes.length + 1
  | .lit _ => 1
  | .nil => 1
  | .ptr d => uptoBulk d + 1
  | .slice elems spare => uptoBulkAll elems + uptoBulkAll spare + 1
  | .agg parts => uptoBulkAll parts + 1
  | .iface _ d => uptoBulk d + 1
  | .map entries => uptoBulkEntries entries + 1
  | .held _ => 1
def uptoBulkAll {H : Type} : List (DataW H) → Nat
  | [] => 0
  | d :: r => uptoBulk d + uptoBulkAll r
def uptoBulkEntries {H : Type} : List (Lit × DataW H) → Nat
  | [] => 0
  | x :: r => uptoBulkEntry x + uptoBulkEntries r
def uptoBulkEntry {H : Type} : Lit × DataW H → Nat
  | (.string bytes, d) => bytes.length + uptoBulk d + 1
  | (_, d) => uptoBulk d + 1
 end
def uptoSmall : (H : Type) → List (DataW H) → Bool := fun _ ds => decide (uptoBulkAll ds ≤ 1048576)
def OpenSpec.upto (s : _root_.Go.ChangeSpec) : _root_.Go.OpenSpec := { _root_.Go.OpenSpec.ofChange s with cond := some uptoSmall }

/-- 'gripsacklaw23.PlanLess', WHERE WHAT IT READS IS OF BULK AT MOST 1048576: true; the input reads as it did. -/
def planLessUptoRow : OpenClaim := { program := "yteeikiekofopnaa", sum := "bb42bccd3a243e3c5686bc861457bcb54239e1f15d9569dd58348e16c99f7cf1", func := "gripsack/gripsacklaw23.PlanLess", spec := "planLess", unfollowed := true, recurses := true, apart := false, narrowed := true }
def PlanLessUptoSaid : Prop := planLessUptoRow.holds Try.pinned (OpenSpec.upto planLessSpec)

/-- 'gripsacklaw18.RightParts', WHERE WHAT IT READS IS OF BULK AT MOST 1048576: true; the input reads as it did. -/
def rightPartsUptoRow : OpenClaim := { program := "yteeikiekofopnaa", sum := "bb42bccd3a243e3c5686bc861457bcb54239e1f15d9569dd58348e16c99f7cf1", func := "gripsack/gripsacklaw18.RightParts", spec := "rightParts", unfollowed := true, recurses := true, apart := false, narrowed := true }
def RightPartsUptoSaid : Prop := rightPartsUptoRow.holds Try.pinned (OpenSpec.upto rightPartsSpec)

/-- 'gripsacklaw18.RightMask', WHERE WHAT IT READS IS OF BULK AT MOST 1048576: true; the input reads as it did. -/
def rightMaskUptoRow : OpenClaim := { program := "yteeikiekofopnaa", sum := "bb42bccd3a243e3c5686bc861457bcb54239e1f15d9569dd58348e16c99f7cf1", func := "gripsack/gripsacklaw18.RightMask", spec := "rightMask", unfollowed := true, recurses := true, apart := false, narrowed := true }
def RightMaskUptoSaid : Prop := rightMaskUptoRow.holds Try.pinned (OpenSpec.upto rightMaskSpec)

/-- 'gripsacklaw18.RightGroups', WHERE WHAT IT READS IS OF BULK AT MOST 1048576: true; the input reads as it did. -/
def rightGroupsUptoRow : OpenClaim := { program := "yteeikiekofopnaa", sum := "bb42bccd3a243e3c5686bc861457bcb54239e1f15d9569dd58348e16c99f7cf1", func := "gripsack/gripsacklaw18.RightGroups", spec := "rightGroups", unfollowed := true, recurses := true, apart := false, narrowed := true }
def RightGroupsUptoSaid : Prop := rightGroupsUptoRow.holds Try.pinned (OpenSpec.upto rightGroupsSpec)

/-- 'gripsacklaw18.RightModes', WHERE WHAT IT READS IS OF BULK AT MOST 1048576: true; the input reads as it did. -/
def rightModesUptoRow : OpenClaim := { program := "yteeikiekofopnaa", sum := "bb42bccd3a243e3c5686bc861457bcb54239e1f15d9569dd58348e16c99f7cf1", func := "gripsack/gripsacklaw18.RightModes", spec := "rightModes", unfollowed := true, recurses := true, apart := false, narrowed := true }
def RightModesUptoSaid : Prop := rightModesUptoRow.holds Try.pinned (OpenSpec.upto rightModesSpec)

/-- 'gripsacklaw23.PlanFewer', WHERE WHAT IT READS IS OF BULK AT MOST 1048576: true; the input reads as it did. -/
def planFewerUptoRow : OpenClaim := { program := "yteeikiekofopnaa", sum := "bb42bccd3a243e3c5686bc861457bcb54239e1f15d9569dd58348e16c99f7cf1", func := "gripsack/gripsacklaw23.PlanFewer", spec := "planFewer", unfollowed := true, recurses := true, apart := false, narrowed := true }
def PlanFewerUptoSaid : Prop := planFewerUptoRow.holds Try.pinned (OpenSpec.upto planFewerSpec)

/-- 'gripsacklaw18.RightLess', WHERE WHAT IT READS IS OF BULK AT MOST 1048576: true; the input reads as it did. -/
def rightLessUptoRow : OpenClaim := { program := "yteeikiekofopnaa", sum := "bb42bccd3a243e3c5686bc861457bcb54239e1f15d9569dd58348e16c99f7cf1", func := "gripsack/gripsacklaw18.RightLess", spec := "rightLess", unfollowed := true, recurses := true, apart := false, narrowed := true }
def RightLessUptoSaid : Prop := rightLessUptoRow.holds Try.pinned (OpenSpec.upto rightLessSpec)

/-- 'gripsacklaw18.RightAll', WHERE WHAT IT READS IS OF BULK AT MOST 1048576: true; the input reads as it did. -/
def rightAllUptoRow : OpenClaim := { program := "yteeikiekofopnaa", sum := "bb42bccd3a243e3c5686bc861457bcb54239e1f15d9569dd58348e16c99f7cf1", func := "gripsack/gripsacklaw18.RightAll", spec := "rightAll", unfollowed := true, recurses := true, apart := false, narrowed := true }
def RightAllUptoSaid : Prop := rightAllUptoRow.holds Try.pinned (OpenSpec.upto rightAllSpec)

/-- 'gripsacklaw18.RightMade', WHERE WHAT IT READS IS OF BULK AT MOST 1048576: true; the input reads as it did. -/
def rightMadeUptoRow : OpenClaim := { program := "yteeikiekofopnaa", sum := "bb42bccd3a243e3c5686bc861457bcb54239e1f15d9569dd58348e16c99f7cf1", func := "gripsack/gripsacklaw18.RightMade", spec := "rightMade", unfollowed := true, recurses := true, apart := false, narrowed := true }
def RightMadeUptoSaid : Prop := rightMadeUptoRow.holds Try.pinned (OpenSpec.upto rightMadeSpec)

/-- 'gripsacklaw23.PlanOrder', WHERE WHAT IT READS IS OF BULK AT MOST 1048576: true; the input reads as it did. -/
def planOrderUptoRow : OpenClaim := { program := "yteeikiekofopnaa", sum := "bb42bccd3a243e3c5686bc861457bcb54239e1f15d9569dd58348e16c99f7cf1", func := "gripsack/gripsacklaw23.PlanOrder", spec := "planOrder", unfollowed := true, recurses := true, apart := false, narrowed := true }
def PlanOrderUptoSaid : Prop := planOrderUptoRow.holds Try.pinned (OpenSpec.upto planOrderSpec)

/-- 'gripsacklaw23.PlanAll', WHERE WHAT IT READS IS OF BULK AT MOST 1048576: true; the input reads as it did. -/
def planAllUptoRow : OpenClaim := { program := "yteeikiekofopnaa", sum := "bb42bccd3a243e3c5686bc861457bcb54239e1f15d9569dd58348e16c99f7cf1", func := "gripsack/gripsacklaw23.PlanAll", spec := "planAll", unfollowed := true, recurses := true, apart := false, narrowed := true }
def PlanAllUptoSaid : Prop := planAllUptoRow.holds Try.pinned (OpenSpec.upto planAllSpec)

/-- 'gripsacklaw23.PlanMade', WHERE WHAT IT READS IS OF BULK AT MOST 1048576: true; the input reads as it did. -/
def planMadeUptoRow : OpenClaim := { program := "yteeikiekofopnaa", sum := "bb42bccd3a243e3c5686bc861457bcb54239e1f15d9569dd58348e16c99f7cf1", func := "gripsack/gripsacklaw23.PlanMade", spec := "planMade", unfollowed := true, recurses := true, apart := false, narrowed := true }
def PlanMadeUptoSaid : Prop := planMadeUptoRow.holds Try.pinned (OpenSpec.upto planMadeSpec)

end Rows
end Go.Proofs.Yteeikiekofopnaa

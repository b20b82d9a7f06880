/-
  No cell of these rows narrows 'for every input' (looked for: loops, veiled, ifaces, maps, wideKeys, modest, calm, conditions, laid).
  DERIVED. THE GIVEN ROWS OF THIS SEAT. 10 by the template 'for every input the law returns true; each argument reads behind the call as it read before'; 0 by the template 'total and deterministic' (their statements: YtgjlkcdnlndlnaaTotals.lean).
  GIVEN WITH THE SEED: the statements are not yours to turn. If you find one false, say at which input.
  Laid BY PROGRAM, IN A SANDBOX (cutbox-rows.mjs): the forced cells as the released guide's own fill.sh prints them over the translation 385f70c6709e2373… (all of the seat's roots in one cut). By AI agents, Wed Nov 11 2026. No macro, syntax, notation, axiom, sorry.
-/
import Derived.Test.YtgjlkcdnlndlnaaChecked
import GoSem.Claim
import GoSem.ClaimJoined
import GoSem.ClaimMapViews
import Derived.JoinedTies
import Derived.KernelRfl
namespace Go.Proofs.Ytgjlkcdnlndlnaa
/- THE CELL 'sum', in the pinned program and in every row, IS THE sha256 OF THE DUMP (.gsa) THAT YtgjlkcdnlndlnaaProg.lean LOADS. Nothing in Lean hashes anything: it is a label: what it is worth is what the hold of that sum in a sandbox is worth. -/
noncomputable def Try.pinned : Pinned := { name := "ytgjlkcdnlndlnaa", sum := "385f70c6709e2373f5ade22b74856ed2281f864d51588fd02c4d531dd9eb2ffa", checked := Try.checked }
namespace Rows
def none {H : Type} : Left H := { results := [], args := [] }

/-- 'gripsacklaw23.PlanAll': WHATEVER THE INPUT: true; the input reads as it did. -/
def planAllSpec : ChangeSpec := { name := "planAll", fn := fun _ => fun
  | [d1, d2, d3] => { results := [.lit (.bool true)], args := [d1, d2, d3] }
  | _ => none }
def planAllRow : OpenClaim := { program := "ytgjlkcdnlndlnaa", sum := "385f70c6709e2373f5ade22b74856ed2281f864d51588fd02c4d531dd9eb2ffa", func := "gripsack/gripsacklaw23.PlanAll", spec := "planAll", unfollowed := true, recurses := true, apart := false }
def PlanAllSaid : Prop := planAllRow.holds Try.pinned (OpenSpec.ofChange planAllSpec)

/-- ITS FALSE NEIGHBOUR: 'it returns false'. Refute it at one input. -/
def planAllWrong : ChangeSpec := { name := "planAll", fn := fun _ => fun
  | [d1, d2, d3] => { results := [.lit (.bool false)], args := [d1, d2, d3] }
  | _ => none }
def PlanAllWrongFalsely : Prop := planAllRow.holds Try.pinned (OpenSpec.ofChange planAllWrong)

/-- 'gripsacklaw25.DegradeAll': WHATEVER THE INPUT: true; the input reads as it did. -/
def degradeAllSpec : ChangeSpec := { name := "degradeAll", fn := fun _ => fun
  | [d1, d2, d3, d4, d5] => { results := [.lit (.bool true)], args := [d1, d2, d3, d4, d5] }
  | _ => none }
def degradeAllRow : OpenClaim := { program := "ytgjlkcdnlndlnaa", sum := "385f70c6709e2373f5ade22b74856ed2281f864d51588fd02c4d531dd9eb2ffa", func := "gripsack/gripsacklaw25.DegradeAll", spec := "degradeAll", unfollowed := true, recurses := true, apart := false }
def DegradeAllSaid : Prop := degradeAllRow.holds Try.pinned (OpenSpec.ofChange degradeAllSpec)

/-- ITS FALSE NEIGHBOUR: 'it returns false'. Refute it at one input. -/
def degradeAllWrong : ChangeSpec := { name := "degradeAll", fn := fun _ => fun
  | [d1, d2, d3, d4, d5] => { results := [.lit (.bool false)], args := [d1, d2, d3, d4, d5] }
  | _ => none }
def DegradeAllWrongFalsely : Prop := degradeAllRow.holds Try.pinned (OpenSpec.ofChange degradeAllWrong)

/-- 'gripsacklaw25.DegradeMade': WHATEVER THE INPUT: true; the input reads as it did. -/
def degradeMadeSpec : ChangeSpec := { name := "degradeMade", fn := fun _ => fun
  | [d1, d2, d3, d4, d5] => { results := [.lit (.bool true)], args := [d1, d2, d3, d4, d5] }
  | _ => none }
def degradeMadeRow : OpenClaim := { program := "ytgjlkcdnlndlnaa", sum := "385f70c6709e2373f5ade22b74856ed2281f864d51588fd02c4d531dd9eb2ffa", func := "gripsack/gripsacklaw25.DegradeMade", spec := "degradeMade", unfollowed := true, recurses := true, apart := false }
def DegradeMadeSaid : Prop := degradeMadeRow.holds Try.pinned (OpenSpec.ofChange degradeMadeSpec)

/-- ITS FALSE NEIGHBOUR: 'it returns false'. Refute it at one input. -/
def degradeMadeWrong : ChangeSpec := { name := "degradeMade", fn := fun _ => fun
  | [d1, d2, d3, d4, d5] => { results := [.lit (.bool false)], args := [d1, d2, d3, d4, d5] }
  | _ => none }
def DegradeMadeWrongFalsely : Prop := degradeMadeRow.holds Try.pinned (OpenSpec.ofChange degradeMadeWrong)

/-- 'gripsacklaw25.DegradeFull': WHATEVER THE INPUT: true; the input reads as it did. -/
def degradeFullSpec : ChangeSpec := { name := "degradeFull", fn := fun _ => fun
  | [d1, d2, d3, d4] => { results := [.lit (.bool true)], args := [d1, d2, d3, d4] }
  | _ => none }
def degradeFullRow : OpenClaim := { program := "ytgjlkcdnlndlnaa", sum := "385f70c6709e2373f5ade22b74856ed2281f864d51588fd02c4d531dd9eb2ffa", func := "gripsack/gripsacklaw25.DegradeFull", spec := "degradeFull", unfollowed := true, recurses := true, apart := false }
def DegradeFullSaid : Prop := degradeFullRow.holds Try.pinned (OpenSpec.ofChange degradeFullSpec)

/-- ITS FALSE NEIGHBOUR: 'it returns false'. Refute it at one input. -/
def degradeFullWrong : ChangeSpec := { name := "degradeFull", fn := fun _ => fun
  | [d1, d2, d3, d4] => { results := [.lit (.bool false)], args := [d1, d2, d3, d4] }
  | _ => none }
def DegradeFullWrongFalsely : Prop := degradeFullRow.holds Try.pinned (OpenSpec.ofChange degradeFullWrong)

/-- 'gripsacklaw25.DegradeLast': WHATEVER THE INPUT: true; the input reads as it did. -/
def degradeLastSpec : ChangeSpec := { name := "degradeLast", fn := fun _ => fun
  | [d1, d2] => { results := [.lit (.bool true)], args := [d1, d2] }
  | _ => none }
def degradeLastRow : OpenClaim := { program := "ytgjlkcdnlndlnaa", sum := "385f70c6709e2373f5ade22b74856ed2281f864d51588fd02c4d531dd9eb2ffa", func := "gripsack/gripsacklaw25.DegradeLast", spec := "degradeLast", unfollowed := true, recurses := true, apart := false }
def DegradeLastSaid : Prop := degradeLastRow.holds Try.pinned (OpenSpec.ofChange degradeLastSpec)

/-- ITS FALSE NEIGHBOUR: 'it returns false'. Refute it at one input. -/
def degradeLastWrong : ChangeSpec := { name := "degradeLast", fn := fun _ => fun
  | [d1, d2] => { results := [.lit (.bool false)], args := [d1, d2] }
  | _ => none }
def DegradeLastWrongFalsely : Prop := degradeLastRow.holds Try.pinned (OpenSpec.ofChange degradeLastWrong)

/-- 'gripsacklaw25.DegradeParts': WHATEVER THE INPUT: true; the input reads as it did. -/
def degradePartsSpec : ChangeSpec := { name := "degradeParts", fn := fun _ => fun
  | [d1, d2] => { results := [.lit (.bool true)], args := [d1, d2] }
  | _ => none }
def degradePartsRow : OpenClaim := { program := "ytgjlkcdnlndlnaa", sum := "385f70c6709e2373f5ade22b74856ed2281f864d51588fd02c4d531dd9eb2ffa", func := "gripsack/gripsacklaw25.DegradeParts", spec := "degradeParts", unfollowed := true, recurses := true, apart := false }
def DegradePartsSaid : Prop := degradePartsRow.holds Try.pinned (OpenSpec.ofChange degradePartsSpec)

/-- ITS FALSE NEIGHBOUR: 'it returns false'. Refute it at one input. -/
def degradePartsWrong : ChangeSpec := { name := "degradeParts", fn := fun _ => fun
  | [d1, d2] => { results := [.lit (.bool false)], args := [d1, d2] }
  | _ => none }
def DegradePartsWrongFalsely : Prop := degradePartsRow.holds Try.pinned (OpenSpec.ofChange degradePartsWrong)

/-- 'gripsacklaw14.MetaKinds': WHATEVER THE INPUT: true; the input reads as it did. -/
def metaKindsSpec : ChangeSpec := { name := "metaKinds", fn := fun _ => fun
  | [d1, d2, d3] => { results := [.lit (.bool true)], args := [d1, d2, d3] }
  | _ => none }
def metaKindsRow : OpenClaim := { program := "ytgjlkcdnlndlnaa", sum := "385f70c6709e2373f5ade22b74856ed2281f864d51588fd02c4d531dd9eb2ffa", func := "gripsack/gripsacklaw14.MetaKinds", spec := "metaKinds", inPlace := ["internal/abi.NoEscape", "internal/bytealg.IndexByteString", "internal/bytealg.IndexString"], unfollowed := true, recurses := true, named := ["internal/bytealg.MaxLen"], apart := false }
def MetaKindsSaid : Prop := metaKindsRow.holds Try.pinned (OpenSpec.ofChange metaKindsSpec)

/-- ITS FALSE NEIGHBOUR: 'it returns false'. Refute it at one input. -/
def metaKindsWrong : ChangeSpec := { name := "metaKinds", fn := fun _ => fun
  | [d1, d2, d3] => { results := [.lit (.bool false)], args := [d1, d2, d3] }
  | _ => none }
def MetaKindsWrongFalsely : Prop := metaKindsRow.holds Try.pinned (OpenSpec.ofChange metaKindsWrong)

/-- 'gripsacklaw14.MetaAll': WHATEVER THE INPUT: true; the input reads as it did. -/
def metaAllSpec : ChangeSpec := { name := "metaAll", fn := fun _ => fun
  | [d1, d2, d3, d4, d5, d6] => { results := [.lit (.bool true)], args := [d1, d2, d3, d4, d5, d6] }
  | _ => none }
def metaAllRow : OpenClaim := { program := "ytgjlkcdnlndlnaa", sum := "385f70c6709e2373f5ade22b74856ed2281f864d51588fd02c4d531dd9eb2ffa", func := "gripsack/gripsacklaw14.MetaAll", spec := "metaAll", inPlace := ["internal/abi.NoEscape", "internal/bytealg.IndexByteString", "internal/bytealg.IndexString"], unfollowed := true, recurses := true, named := ["internal/bytealg.MaxLen"], apart := false }
def MetaAllSaid : Prop := metaAllRow.holds Try.pinned (OpenSpec.ofChange metaAllSpec)

/-- ITS FALSE NEIGHBOUR: 'it returns false'. Refute it at one input. -/
def metaAllWrong : ChangeSpec := { name := "metaAll", fn := fun _ => fun
  | [d1, d2, d3, d4, d5, d6] => { results := [.lit (.bool false)], args := [d1, d2, d3, d4, d5, d6] }
  | _ => none }
def MetaAllWrongFalsely : Prop := metaAllRow.holds Try.pinned (OpenSpec.ofChange metaAllWrong)

/-- 'gripsacklaw14.MetaMade': WHATEVER THE INPUT: true; the input reads as it did. -/
def metaMadeSpec : ChangeSpec := { name := "metaMade", fn := fun _ => fun
  | [d1, d2, d3] => { results := [.lit (.bool true)], args := [d1, d2, d3] }
  | _ => none }
def metaMadeRow : OpenClaim := { program := "ytgjlkcdnlndlnaa", sum := "385f70c6709e2373f5ade22b74856ed2281f864d51588fd02c4d531dd9eb2ffa", func := "gripsack/gripsacklaw14.MetaMade", spec := "metaMade", inPlace := ["internal/abi.NoEscape", "internal/bytealg.IndexByteString", "internal/bytealg.IndexString"], unfollowed := true, recurses := true, named := ["internal/bytealg.MaxLen"], apart := false }
def MetaMadeSaid : Prop := metaMadeRow.holds Try.pinned (OpenSpec.ofChange metaMadeSpec)

/-- ITS FALSE NEIGHBOUR: 'it returns false'. Refute it at one input. -/
def metaMadeWrong : ChangeSpec := { name := "metaMade", fn := fun _ => fun
  | [d1, d2, d3] => { results := [.lit (.bool false)], args := [d1, d2, d3] }
  | _ => none }
def MetaMadeWrongFalsely : Prop := metaMadeRow.holds Try.pinned (OpenSpec.ofChange metaMadeWrong)

/-- 'gripsacklaw14.MetaLists': WHATEVER THE INPUT: true; the input reads as it did. -/
def metaListsSpec : ChangeSpec := { name := "metaLists", fn := fun _ => fun
  | [d1, d2, d3] => { results := [.lit (.bool true)], args := [d1, d2, d3] }
  | _ => none }
def metaListsRow : OpenClaim := { program := "ytgjlkcdnlndlnaa", sum := "385f70c6709e2373f5ade22b74856ed2281f864d51588fd02c4d531dd9eb2ffa", func := "gripsack/gripsacklaw14.MetaLists", spec := "metaLists", inPlace := ["internal/abi.NoEscape", "internal/bytealg.IndexByteString", "internal/bytealg.IndexString"], unfollowed := true, recurses := true, named := ["internal/bytealg.MaxLen"], apart := false }
def MetaListsSaid : Prop := metaListsRow.holds Try.pinned (OpenSpec.ofChange metaListsSpec)

/-- ITS FALSE NEIGHBOUR: 'it returns false'. Refute it at one input. -/
def metaListsWrong : ChangeSpec := { name := "metaLists", fn := fun _ => fun
  | [d1, d2, d3] => { results := [.lit (.bool false)], args := [d1, d2, d3] }
  | _ => none }
def MetaListsWrongFalsely : Prop := metaListsRow.holds Try.pinned (OpenSpec.ofChange metaListsWrong)

/- THE SECOND FORM. 'bulk': how many values and letters a reading holds, each counted each time it is reached (what is shared counts as often as it is met; a slice's spare places count too). A statement '..UptoSaid' is the law's where the arguments, and the package variables that the reading takes, are together of bulk at most 1048576: NARROWER than '..Said'. Prove '..Said' where nothing that the law and all that it calls make is longer than what came in: it says more and counts as full. Else prove '..UptoSaid'. A law counts once. -/
mutual
def uptoBulk {H : Type} : DataW H → Nat
  | .lit (.string bytes) => bytes.length + 1
  | .lit _ => 1
  | .nil => 1
  | .ptr d => uptoBulk d + 1
  | .slice elems spare => uptoBulkAll elems + uptoBulkAll spare + 1
  | .agg parts => uptoBulkAll parts + 1
  | .iface _ d => uptoBulk d + 1
  | .map entries => uptoBulkEntries entries + 1
  | .held _ => 1
def uptoBulkAll {H : Type} : List (DataW H) → Nat
  | [] => 0
  | d :: r => uptoBulk d + uptoBulkAll r
def uptoBulkEntries {H : Type} : List (Lit × DataW H) → Nat
  | [] => 0
  | x :: r => uptoBulkEntry x + uptoBulkEntries r
def uptoBulkEntry {H : Type} : Lit × DataW H → Nat
  | (.string bytes, d) => bytes.length + uptoBulk d + 1
  | (_, d) => uptoBulk d + 1
 end
def uptoSmall : (H : Type) → List (DataW H) → Bool := fun _ ds => decide (uptoBulkAll ds ≤ 1048576)
def OpenSpec.upto (s : _root_.Go.ChangeSpec) : _root_.Go.OpenSpec := { _root_.Go.OpenSpec.ofChange s with cond := some uptoSmall }

/-- 'gripsacklaw23.PlanAll', WHERE WHAT IT READS IS OF BULK AT MOST 1048576: true; the input reads as it did. -/
def planAllUptoRow : OpenClaim := { program := "ytgjlkcdnlndlnaa", sum := "385f70c6709e2373f5ade22b74856ed2281f864d51588fd02c4d531dd9eb2ffa", func := "gripsack/gripsacklaw23.PlanAll", spec := "planAll", unfollowed := true, recurses := true, apart := false, narrowed := true }
def PlanAllUptoSaid : Prop := planAllUptoRow.holds Try.pinned (OpenSpec.upto planAllSpec)

/-- 'gripsacklaw25.DegradeAll', WHERE WHAT IT READS IS OF BULK AT MOST 1048576: true; the input reads as it did. -/
def degradeAllUptoRow : OpenClaim := { program := "ytgjlkcdnlndlnaa", sum := "385f70c6709e2373f5ade22b74856ed2281f864d51588fd02c4d531dd9eb2ffa", func := "gripsack/gripsacklaw25.DegradeAll", spec := "degradeAll", unfollowed := true, recurses := true, apart := false, narrowed := true }
def DegradeAllUptoSaid : Prop := degradeAllUptoRow.holds Try.pinned (OpenSpec.upto degradeAllSpec)

/-- 'gripsacklaw25.DegradeMade', WHERE WHAT IT READS IS OF BULK AT MOST 1048576: true; the input reads as it did. -/
def degradeMadeUptoRow : OpenClaim := { program := "ytgjlkcdnlndlnaa", sum := "385f70c6709e2373f5ade22b74856ed2281f864d51588fd02c4d531dd9eb2ffa", func := "gripsack/gripsacklaw25.DegradeMade", spec := "degradeMade", unfollowed := true, recurses := true, apart := false, narrowed := true }
def DegradeMadeUptoSaid : Prop := degradeMadeUptoRow.holds Try.pinned (OpenSpec.upto degradeMadeSpec)

/-- 'gripsacklaw25.DegradeFull', WHERE WHAT IT READS IS OF BULK AT MOST 1048576: true; the input reads as it did. -/
def degradeFullUptoRow : OpenClaim := { program := "ytgjlkcdnlndlnaa", sum := "385f70c6709e2373f5ade22b74856ed2281f864d51588fd02c4d531dd9eb2ffa", func := "gripsack/gripsacklaw25.DegradeFull", spec := "degradeFull", unfollowed := true, recurses := true, apart := false, narrowed := true }
def DegradeFullUptoSaid : Prop := degradeFullUptoRow.holds Try.pinned (OpenSpec.upto degradeFullSpec)

/-- 'gripsacklaw25.DegradeLast', WHERE WHAT IT READS IS OF BULK AT MOST 1048576: true; the input reads as it did. -/
def degradeLastUptoRow : OpenClaim := { program := "ytgjlkcdnlndlnaa", sum := "385f70c6709e2373f5ade22b74856ed2281f864d51588fd02c4d531dd9eb2ffa", func := "gripsack/gripsacklaw25.DegradeLast", spec := "degradeLast", unfollowed := true, recurses := true, apart := false, narrowed := true }
def DegradeLastUptoSaid : Prop := degradeLastUptoRow.holds Try.pinned (OpenSpec.upto degradeLastSpec)

/-- 'gripsacklaw25.DegradeParts', WHERE WHAT IT READS IS OF BULK AT MOST 1048576: true; the input reads as it did. -/
def degradePartsUptoRow : OpenClaim := { program := "ytgjlkcdnlndlnaa", sum := "385f70c6709e2373f5ade22b74856ed2281f864d51588fd02c4d531dd9eb2ffa", func := "gripsack/gripsacklaw25.DegradeParts", spec := "degradeParts", unfollowed := true, recurses := true, apart := false, narrowed := true }
def DegradePartsUptoSaid : Prop := degradePartsUptoRow.holds Try.pinned (OpenSpec.upto degradePartsSpec)

/-- 'gripsacklaw14.MetaKinds', WHERE WHAT IT READS IS OF BULK AT MOST 1048576: true; the input reads as it did. -/
def metaKindsUptoRow : OpenClaim := { program := "ytgjlkcdnlndlnaa", sum := "385f70c6709e2373f5ade22b74856ed2281f864d51588fd02c4d531dd9eb2ffa", func := "gripsack/gripsacklaw14.MetaKinds", spec := "metaKinds", inPlace := ["internal/abi.NoEscape", "internal/bytealg.IndexByteString", "internal/bytealg.IndexString"], unfollowed := true, recurses := true, named := ["internal/bytealg.MaxLen"], apart := false, narrowed := true }
def MetaKindsUptoSaid : Prop := metaKindsUptoRow.holds Try.pinned (OpenSpec.upto metaKindsSpec)

/-- 'gripsacklaw14.MetaAll', WHERE WHAT IT READS IS OF BULK AT MOST 1048576: true; the input reads as it did. -/
def metaAllUptoRow : OpenClaim := { program := "ytgjlkcdnlndlnaa", sum := "385f70c6709e2373f5ade22b74856ed2281f864d51588fd02c4d531dd9eb2ffa", func := "gripsack/gripsacklaw14.MetaAll", spec := "metaAll", inPlace := ["internal/abi.NoEscape", "internal/bytealg.IndexByteString", "internal/bytealg.IndexString"], unfollowed := true, recurses := true, named := ["internal/bytealg.MaxLen"], apart := false, narrowed := true }
def MetaAllUptoSaid : Prop := metaAllUptoRow.holds Try.pinned (OpenSpec.upto metaAllSpec)

/-- 'gripsacklaw14.MetaMade', WHERE WHAT IT READS IS OF BULK AT MOST 1048576: true; the input reads as it did. -/
def metaMadeUptoRow : OpenClaim := { program := "ytgjlkcdnlndlnaa", sum := "385f70c6709e2373f5ade22b74856ed2281f864d51588fd02c4d531dd9eb2ffa", func := "gripsack/gripsacklaw14.MetaMade", spec := "metaMade", inPlace := ["internal/abi.NoEscape", "internal/bytealg.IndexByteString", "internal/bytealg.IndexString"], unfollowed := true, recurses := true, named := ["internal/bytealg.MaxLen"], apart := false, narrowed := true }
def MetaMadeUptoSaid : Prop := metaMadeUptoRow.holds Try.pinned (OpenSpec.upto metaMadeSpec)

/-- 'gripsacklaw14.MetaLists', WHERE WHAT IT READS IS OF BULK AT MOST 1048576: true; the input reads as it did. -/
def metaListsUptoRow : OpenClaim := { program := "ytgjlkcdnlndlnaa", sum := "385f70c6709e2373f5ade22b74856ed2281f864d51588fd02c4d531dd9eb2ffa", func := "gripsack/gripsacklaw14.MetaLists", spec := "metaLists", inPlace := ["internal/abi.NoEscape", "internal/bytealg.IndexByteString", "internal/bytealg.IndexString"], unfollowed := true, recurses := true, named := ["internal/bytealg.MaxLen"], apart := false, narrowed := true }
def MetaListsUptoSaid : Prop := metaListsUptoRow.holds Try.pinned (OpenSpec.upto metaListsSpec)

end Rows
end Go.Proofs.Ytgjlkcdnlndlnaa

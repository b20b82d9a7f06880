/-
  NARROWER THAN 'FOR EVERY INPUT', by the rows' own cells (each row's printed sentence says how): SafeDeep: laid · SafeKnown: laid · SafeAll: laid · SafeMade: laid · SafeEntries: laid · FlagsAll: laid · FlagsBack: laid · FlagsWords: laid.
  DERIVED. THE GIVEN ROWS OF THIS SEAT. 8 by the template 'for every input the law returns true; each argument reads behind the call as it read before'; 0 by the template 'total and deterministic' (their statements: YtiaenejafpbfkaaDoorTotals.lean).
  GIVEN WITH THE SEED: the statements are not yours to turn. If you find one false, say at which input.
  Laid BY PROGRAM, IN A SANDBOX (cutbox-rows.mjs): the forced cells as the released guide's own fill.sh prints them over the translation c3565fabff8b7710… (all of the seat's roots in one cut). By AI agents, Wed Nov 11 2026. No macro, syntax, notation, axiom, sorry.
-/
import Derived.Test.YtiaenejafpbfkaaDoorChecked
import GoSem.PinnedTables
import GoSem.Claim
import GoSem.ClaimJoined
import GoSem.ClaimMapViews
import Derived.JoinedTies
import Derived.KernelRfl
namespace Go.Proofs.YtiaenejafpbfkaaDoor
/- THE CELL 'sum', in the pinned program and in every row, IS THE sha256 OF THE DUMP (.gsa) THAT YtiaenejafpbfkaaDoorProg.lean LOADS. Nothing in Lean hashes anything: it is a label: what it is worth is what the hold of that sum in a sandbox is worth. -/
noncomputable def Tryd.pinned : Pinned := { name := "ytiaenejafpbfkaadoor", sum := "c3565fabff8b77102799fd3426897fec530489a2e272b3694c23aa50e76768c1", checked := Tryd.checked }
namespace Rows
def none {H : Type} : Left H := { results := [], args := [] }

/- WHAT THE LISTED PACKAGE-LEVEL VARIABLES READ AS WHEN THE CALL BEGINS. Each datum BY PROGRAM (the guide's laid-datum.mjs) off the statement by which the dump's own 'gosem.cut.vars' lays the variable. In a bare row this is a premise. The card (YtiaenejafpbfkaaDoorCards.lean) ties it to the program's text. -/
def laid_unicode_utf8_acceptRanges {H : Type} : DataW H := .agg [.agg [.lit (.int .u8 128), .lit (.int .u8 191)], .agg [.lit (.int .u8 160), .lit (.int .u8 191)], .agg [.lit (.int .u8 128), .lit (.int .u8 159)], .agg [.lit (.int .u8 144), .lit (.int .u8 191)], .agg [.lit (.int .u8 128), .lit (.int .u8 143)], .agg [.lit (.int .u8 0), .lit (.int .u8 0)], .agg [.lit (.int .u8 0), .lit (.int .u8 0)], .agg [.lit (.int .u8 0), .lit (.int .u8 0)], .agg [.lit (.int .u8 0), .lit (.int .u8 0)], .agg [.lit (.int .u8 0), .lit (.int .u8 0)], .agg [.lit (.int .u8 0), .lit (.int .u8 0)], .agg [.lit (.int .u8 0), .lit (.int .u8 0)], .agg [.lit (.int .u8 0), .lit (.int .u8 0)], .agg [.lit (.int .u8 0), .lit (.int .u8 0)], .agg [.lit (.int .u8 0), .lit (.int .u8 0)], .agg [.lit (.int .u8 0), .lit (.int .u8 0)]]
/-- One of Go's own tables, pinned by name: the form's constant. -/
def laid_unicode_utf8_first : DataW Unit := Go.Pinned.utf8First

/-- 'gripsacklaw22.SafeDeep': WHATEVER THE INPUT: true; the input reads as it did. -/
def safeDeepSpec : ChangeSpec := { name := "safeDeep", fn := fun _ => fun
  | [d1, d2] => { results := [.lit (.bool true)], args := [d1, d2] }
  | _ => none }
def safeDeepRow : OpenClaim := { program := "ytiaenejafpbfkaadoor", sum := "c3565fabff8b77102799fd3426897fec530489a2e272b3694c23aa50e76768c1", func := "gripsack/gripsacklaw22.SafeDeep", spec := "safeDeep", inPlace := ["internal/bytealg.CountString", "internal/bytealg.IndexByteString", "internal/bytealg.IndexString"], unfollowed := true, recurses := true, named := ["unicode/utf8.first", "unicode/utf8.acceptRanges", "internal/bytealg.MaxLen"], apart := false, laid := [("unicode/utf8.acceptRanges", laid_unicode_utf8_acceptRanges), ("unicode/utf8.first", laid_unicode_utf8_first)] }
def SafeDeepSaid : Prop := safeDeepRow.holds Tryd.pinned (OpenSpec.ofChange safeDeepSpec)

/-- ITS FALSE NEIGHBOUR: 'it returns false'. Refute it at one input. -/
def safeDeepWrong : ChangeSpec := { name := "safeDeep", fn := fun _ => fun
  | [d1, d2] => { results := [.lit (.bool false)], args := [d1, d2] }
  | _ => none }
def SafeDeepWrongFalsely : Prop := safeDeepRow.holds Tryd.pinned (OpenSpec.ofChange safeDeepWrong)

/-- 'gripsacklaw22.SafeKnown': WHATEVER THE INPUT: true; the input reads as it did. -/
def safeKnownSpec : ChangeSpec := { name := "safeKnown", fn := fun _ => fun
  | [d] => { results := [.lit (.bool true)], args := [d] }
  | _ => none }
def safeKnownRow : OpenClaim := { program := "ytiaenejafpbfkaadoor", sum := "c3565fabff8b77102799fd3426897fec530489a2e272b3694c23aa50e76768c1", func := "gripsack/gripsacklaw22.SafeKnown", spec := "safeKnown", inPlace := ["internal/bytealg.CountString", "internal/bytealg.IndexByteString", "internal/bytealg.IndexString"], unfollowed := true, recurses := true, named := ["unicode/utf8.first", "unicode/utf8.acceptRanges", "internal/bytealg.MaxLen"], apart := false, laid := [("unicode/utf8.acceptRanges", laid_unicode_utf8_acceptRanges), ("unicode/utf8.first", laid_unicode_utf8_first)] }
def SafeKnownSaid : Prop := safeKnownRow.holds Tryd.pinned (OpenSpec.ofChange safeKnownSpec)

/-- ITS FALSE NEIGHBOUR: 'it returns false'. Refute it at one input. -/
def safeKnownWrong : ChangeSpec := { name := "safeKnown", fn := fun _ => fun
  | [d] => { results := [.lit (.bool false)], args := [d] }
  | _ => none }
def SafeKnownWrongFalsely : Prop := safeKnownRow.holds Tryd.pinned (OpenSpec.ofChange safeKnownWrong)

/-- 'gripsacklaw22.SafeAll': WHATEVER THE INPUT: true; the input reads as it did. -/
def safeAllSpec : ChangeSpec := { name := "safeAll", fn := fun _ => fun
  | [d1, d2, d3] => { results := [.lit (.bool true)], args := [d1, d2, d3] }
  | _ => none }
def safeAllRow : OpenClaim := { program := "ytiaenejafpbfkaadoor", sum := "c3565fabff8b77102799fd3426897fec530489a2e272b3694c23aa50e76768c1", func := "gripsack/gripsacklaw22.SafeAll", spec := "safeAll", inPlace := ["internal/bytealg.CountString", "internal/bytealg.IndexByteString", "internal/bytealg.IndexString"], unfollowed := true, recurses := true, named := ["unicode/utf8.first", "unicode/utf8.acceptRanges", "internal/bytealg.MaxLen"], apart := false, laid := [("unicode/utf8.acceptRanges", laid_unicode_utf8_acceptRanges), ("unicode/utf8.first", laid_unicode_utf8_first)] }
def SafeAllSaid : Prop := safeAllRow.holds Tryd.pinned (OpenSpec.ofChange safeAllSpec)

/-- ITS FALSE NEIGHBOUR: 'it returns false'. Refute it at one input. -/
def safeAllWrong : ChangeSpec := { name := "safeAll", fn := fun _ => fun
  | [d1, d2, d3] => { results := [.lit (.bool false)], args := [d1, d2, d3] }
  | _ => none }
def SafeAllWrongFalsely : Prop := safeAllRow.holds Tryd.pinned (OpenSpec.ofChange safeAllWrong)

/-- 'gripsacklaw22.SafeMade': WHATEVER THE INPUT: true; the input reads as it did. -/
def safeMadeSpec : ChangeSpec := { name := "safeMade", fn := fun _ => fun
  | [d1, d2] => { results := [.lit (.bool true)], args := [d1, d2] }
  | _ => none }
def safeMadeRow : OpenClaim := { program := "ytiaenejafpbfkaadoor", sum := "c3565fabff8b77102799fd3426897fec530489a2e272b3694c23aa50e76768c1", func := "gripsack/gripsacklaw22.SafeMade", spec := "safeMade", inPlace := ["internal/bytealg.CountString", "internal/bytealg.IndexByteString", "internal/bytealg.IndexString"], unfollowed := true, recurses := true, named := ["unicode/utf8.first", "unicode/utf8.acceptRanges", "internal/bytealg.MaxLen"], apart := false, laid := [("unicode/utf8.acceptRanges", laid_unicode_utf8_acceptRanges), ("unicode/utf8.first", laid_unicode_utf8_first)] }
def SafeMadeSaid : Prop := safeMadeRow.holds Tryd.pinned (OpenSpec.ofChange safeMadeSpec)

/-- ITS FALSE NEIGHBOUR: 'it returns false'. Refute it at one input. -/
def safeMadeWrong : ChangeSpec := { name := "safeMade", fn := fun _ => fun
  | [d1, d2] => { results := [.lit (.bool false)], args := [d1, d2] }
  | _ => none }
def SafeMadeWrongFalsely : Prop := safeMadeRow.holds Tryd.pinned (OpenSpec.ofChange safeMadeWrong)

/-- 'gripsacklaw22.SafeEntries': WHATEVER THE INPUT: true; the input reads as it did. -/
def safeEntriesSpec : ChangeSpec := { name := "safeEntries", fn := fun _ => fun
  | [d1, d2] => { results := [.lit (.bool true)], args := [d1, d2] }
  | _ => none }
def safeEntriesRow : OpenClaim := { program := "ytiaenejafpbfkaadoor", sum := "c3565fabff8b77102799fd3426897fec530489a2e272b3694c23aa50e76768c1", func := "gripsack/gripsacklaw22.SafeEntries", spec := "safeEntries", inPlace := ["internal/bytealg.CountString", "internal/bytealg.IndexByteString", "internal/bytealg.IndexString"], unfollowed := true, recurses := true, named := ["unicode/utf8.first", "unicode/utf8.acceptRanges", "internal/bytealg.MaxLen"], apart := false, laid := [("unicode/utf8.acceptRanges", laid_unicode_utf8_acceptRanges), ("unicode/utf8.first", laid_unicode_utf8_first)] }
def SafeEntriesSaid : Prop := safeEntriesRow.holds Tryd.pinned (OpenSpec.ofChange safeEntriesSpec)

/-- ITS FALSE NEIGHBOUR: 'it returns false'. Refute it at one input. -/
def safeEntriesWrong : ChangeSpec := { name := "safeEntries", fn := fun _ => fun
  | [d1, d2] => { results := [.lit (.bool false)], args := [d1, d2] }
  | _ => none }
def SafeEntriesWrongFalsely : Prop := safeEntriesRow.holds Tryd.pinned (OpenSpec.ofChange safeEntriesWrong)

/-- 'gripsacklaw12.FlagsAll': WHATEVER THE INPUT: true; the input reads as it did. -/
def flagsAllSpec : ChangeSpec := { name := "flagsAll", fn := fun _ => fun
  | [d1, d2] => { results := [.lit (.bool true)], args := [d1, d2] }
  | _ => none }
def flagsAllRow : OpenClaim := { program := "ytiaenejafpbfkaadoor", sum := "c3565fabff8b77102799fd3426897fec530489a2e272b3694c23aa50e76768c1", func := "gripsack/gripsacklaw12.FlagsAll", spec := "flagsAll", inPlace := ["internal/bytealg.CountString", "internal/bytealg.IndexByteString", "internal/bytealg.IndexString", "internal/abi.NoEscape", "internal/bytealg.MakeNoZero"], unfollowed := true, recurses := true, named := ["unicode/utf8.first", "unicode/utf8.acceptRanges", "internal/bytealg.MaxLen"], apart := false, laid := [("unicode/utf8.acceptRanges", laid_unicode_utf8_acceptRanges), ("unicode/utf8.first", laid_unicode_utf8_first)] }
def FlagsAllSaid : Prop := flagsAllRow.holds Tryd.pinned (OpenSpec.ofChange flagsAllSpec)

/-- ITS FALSE NEIGHBOUR: 'it returns false'. Refute it at one input. -/
def flagsAllWrong : ChangeSpec := { name := "flagsAll", fn := fun _ => fun
  | [d1, d2] => { results := [.lit (.bool false)], args := [d1, d2] }
  | _ => none }
def FlagsAllWrongFalsely : Prop := flagsAllRow.holds Tryd.pinned (OpenSpec.ofChange flagsAllWrong)

/-- 'gripsacklaw12.FlagsBack': WHATEVER THE INPUT: true; the input reads as it did. -/
def flagsBackSpec : ChangeSpec := { name := "flagsBack", fn := fun _ => fun
  | [d1, d2] => { results := [.lit (.bool true)], args := [d1, d2] }
  | _ => none }
def flagsBackRow : OpenClaim := { program := "ytiaenejafpbfkaadoor", sum := "c3565fabff8b77102799fd3426897fec530489a2e272b3694c23aa50e76768c1", func := "gripsack/gripsacklaw12.FlagsBack", spec := "flagsBack", inPlace := ["internal/abi.NoEscape", "internal/bytealg.MakeNoZero", "internal/bytealg.CountString", "internal/bytealg.IndexByteString", "internal/bytealg.IndexString"], unfollowed := true, recurses := true, named := ["unicode/utf8.first", "unicode/utf8.acceptRanges", "internal/bytealg.MaxLen"], apart := false, laid := [("unicode/utf8.acceptRanges", laid_unicode_utf8_acceptRanges), ("unicode/utf8.first", laid_unicode_utf8_first)] }
def FlagsBackSaid : Prop := flagsBackRow.holds Tryd.pinned (OpenSpec.ofChange flagsBackSpec)

/-- ITS FALSE NEIGHBOUR: 'it returns false'. Refute it at one input. -/
def flagsBackWrong : ChangeSpec := { name := "flagsBack", fn := fun _ => fun
  | [d1, d2] => { results := [.lit (.bool false)], args := [d1, d2] }
  | _ => none }
def FlagsBackWrongFalsely : Prop := flagsBackRow.holds Tryd.pinned (OpenSpec.ofChange flagsBackWrong)

/-- 'gripsacklaw12.FlagsWords': WHATEVER THE INPUT: true; the input reads as it did. -/
def flagsWordsSpec : ChangeSpec := { name := "flagsWords", fn := fun _ => fun
  | [d] => { results := [.lit (.bool true)], args := [d] }
  | _ => none }
def flagsWordsRow : OpenClaim := { program := "ytiaenejafpbfkaadoor", sum := "c3565fabff8b77102799fd3426897fec530489a2e272b3694c23aa50e76768c1", func := "gripsack/gripsacklaw12.FlagsWords", spec := "flagsWords", inPlace := ["internal/bytealg.CountString", "internal/bytealg.IndexByteString", "internal/bytealg.IndexString", "internal/abi.NoEscape", "internal/bytealg.MakeNoZero"], unfollowed := true, recurses := true, named := ["unicode/utf8.first", "unicode/utf8.acceptRanges", "internal/bytealg.MaxLen"], apart := false, laid := [("unicode/utf8.acceptRanges", laid_unicode_utf8_acceptRanges), ("unicode/utf8.first", laid_unicode_utf8_first)] }
def FlagsWordsSaid : Prop := flagsWordsRow.holds Tryd.pinned (OpenSpec.ofChange flagsWordsSpec)

/-- ITS FALSE NEIGHBOUR: 'it returns false'. Refute it at one input. -/
def flagsWordsWrong : ChangeSpec := { name := "flagsWords", fn := fun _ => fun
  | [d] => { results := [.lit (.bool false)], args := [d] }
  | _ => none }
def FlagsWordsWrongFalsely : Prop := flagsWordsRow.holds Tryd.pinned (OpenSpec.ofChange flagsWordsWrong)

/- THE SECOND FORM. 'bulk': how many values and letters a reading holds, each counted each time it is reached (what is shared counts as often as it is met; a slice's spare places count too). A statement '..UptoSaid' is the law's where the arguments, and the package variables that the reading takes, are together of bulk at most 1048576: NARROWER than '..Said'. Prove '..Said' where nothing that the law and all that it calls make is longer than what came in: it says more and counts as full. Else prove '..UptoSaid'. A law counts once. -/
mutual
def uptoBulk {H : Type} : DataW H → Nat
  | .lit (.string bytes) => bytes.length + 1
  | .lit _ => 1
  | .nil => 1
  | .ptr d => uptoBulk d + 1
  | .slice elems spare => uptoBulkAll elems + uptoBulkAll spare + 1
  | .agg parts => uptoBulkAll parts + 1
  | .iface _ d => uptoBulk d + 1
  | .map entries => uptoBulkEntries entries + 1
  | .held _ => 1
def uptoBulkAll {H : Type} : List (DataW H) → Nat
  | [] => 0
  | d :: r => uptoBulk d + uptoBulkAll r
def uptoBulkEntries {H : Type} : List (Lit × DataW H) → Nat
  | [] => 0
  | x :: r => uptoBulkEntry x + uptoBulkEntries r
def uptoBulkEntry {H : Type} : Lit × DataW H → Nat
  | (.string bytes, d) => bytes.length + uptoBulk d + 1
  | (_, d) => uptoBulk d + 1
 end
def uptoSmall : (H : Type) → List (DataW H) → Bool := fun _ ds => decide (uptoBulkAll ds ≤ 1048576)
def OpenSpec.upto (s : _root_.Go.ChangeSpec) : _root_.Go.OpenSpec := { _root_.Go.OpenSpec.ofChange s with cond := some uptoSmall }

/-- 'gripsacklaw22.SafeDeep', WHERE WHAT IT READS IS OF BULK AT MOST 1048576: true; the input reads as it did. -/
def safeDeepUptoRow : OpenClaim := { program := "ytiaenejafpbfkaadoor", sum := "c3565fabff8b77102799fd3426897fec530489a2e272b3694c23aa50e76768c1", func := "gripsack/gripsacklaw22.SafeDeep", spec := "safeDeep", inPlace := ["internal/bytealg.CountString", "internal/bytealg.IndexByteString", "internal/bytealg.IndexString"], unfollowed := true, recurses := true, named := ["unicode/utf8.first", "unicode/utf8.acceptRanges", "internal/bytealg.MaxLen"], apart := false, laid := [("unicode/utf8.acceptRanges", laid_unicode_utf8_acceptRanges), ("unicode/utf8.first", laid_unicode_utf8_first)], narrowed := true }
def SafeDeepUptoSaid : Prop := safeDeepUptoRow.holds Tryd.pinned (OpenSpec.upto safeDeepSpec)

/-- 'gripsacklaw22.SafeKnown', WHERE WHAT IT READS IS OF BULK AT MOST 1048576: true; the input reads as it did. -/
def safeKnownUptoRow : OpenClaim := { program := "ytiaenejafpbfkaadoor", sum := "c3565fabff8b77102799fd3426897fec530489a2e272b3694c23aa50e76768c1", func := "gripsack/gripsacklaw22.SafeKnown", spec := "safeKnown", inPlace := ["internal/bytealg.CountString", "internal/bytealg.IndexByteString", "internal/bytealg.IndexString"], unfollowed := true, recurses := true, named := ["unicode/utf8.first", "unicode/utf8.acceptRanges", "internal/bytealg.MaxLen"], apart := false, laid := [("unicode/utf8.acceptRanges", laid_unicode_utf8_acceptRanges), ("unicode/utf8.first", laid_unicode_utf8_first)], narrowed := true }
def SafeKnownUptoSaid : Prop := safeKnownUptoRow.holds Tryd.pinned (OpenSpec.upto safeKnownSpec)

/-- 'gripsacklaw22.SafeAll', WHERE WHAT IT READS IS OF BULK AT MOST 1048576: true; the input reads as it did. -/
def safeAllUptoRow : OpenClaim := { program := "ytiaenejafpbfkaadoor", sum := "c3565fabff8b77102799fd3426897fec530489a2e272b3694c23aa50e76768c1", func := "gripsack/gripsacklaw22.SafeAll", spec := "safeAll", inPlace := ["internal/bytealg.CountString", "internal/bytealg.IndexByteString", "internal/bytealg.IndexString"], unfollowed := true, recurses := true, named := ["unicode/utf8.first", "unicode/utf8.acceptRanges", "internal/bytealg.MaxLen"], apart := false, laid := [("unicode/utf8.acceptRanges", laid_unicode_utf8_acceptRanges), ("unicode/utf8.first", laid_unicode_utf8_first)], narrowed := true }
def SafeAllUptoSaid : Prop := safeAllUptoRow.holds Tryd.pinned (OpenSpec.upto safeAllSpec)

/-- 'gripsacklaw22.SafeMade', WHERE WHAT IT READS IS OF BULK AT MOST 1048576: true; the input reads as it did. -/
def safeMadeUptoRow : OpenClaim := { program := "ytiaenejafpbfkaadoor", sum := "c3565fabff8b77102799fd3426897fec530489a2e272b3694c23aa50e76768c1", func := "gripsack/gripsacklaw22.SafeMade", spec := "safeMade", inPlace := ["internal/bytealg.CountString", "internal/bytealg.IndexByteString", "internal/bytealg.IndexString"], unfollowed := true, recurses := true, named := ["unicode/utf8.first", "unicode/utf8.acceptRanges", "internal/bytealg.MaxLen"], apart := false, laid := [("unicode/utf8.acceptRanges", laid_unicode_utf8_acceptRanges), ("unicode/utf8.first", laid_unicode_utf8_first)], narrowed := true }
def SafeMadeUptoSaid : Prop := safeMadeUptoRow.holds Tryd.pinned (OpenSpec.upto safeMadeSpec)

/-- 'gripsacklaw22.SafeEntries', WHERE WHAT IT READS IS OF BULK AT MOST 1048576: true; the input reads as it did. -/
def safeEntriesUptoRow : OpenClaim := { program := "ytiaenejafpbfkaadoor", sum := "c3565fabff8b77102799fd3426897fec530489a2e272b3694c23aa50e76768c1", func := "gripsack/gripsacklaw22.SafeEntries", spec := "safeEntries", inPlace := ["internal/bytealg.CountString", "internal/bytealg.IndexByteString", "internal/bytealg.IndexString"], unfollowed := true, recurses := true, named := ["unicode/utf8.first", "unicode/utf8.acceptRanges", "internal/bytealg.MaxLen"], apart := false, laid := [("unicode/utf8.acceptRanges", laid_unicode_utf8_acceptRanges), ("unicode/utf8.first", laid_unicode_utf8_first)], narrowed := true }
def SafeEntriesUptoSaid : Prop := safeEntriesUptoRow.holds Tryd.pinned (OpenSpec.upto safeEntriesSpec)

/-- 'gripsacklaw12.FlagsAll', WHERE WHAT IT READS IS OF BULK AT MOST 1048576: true; the input reads as it did. -/
def flagsAllUptoRow : OpenClaim := { program := "ytiaenejafpbfkaadoor", sum := "c3565fabff8b77102799fd3426897fec530489a2e272b3694c23aa50e76768c1", func := "gripsack/gripsacklaw12.FlagsAll", spec := "flagsAll", inPlace := ["internal/bytealg.CountString", "internal/bytealg.IndexByteString", "internal/bytealg.IndexString", "internal/abi.NoEscape", "internal/bytealg.MakeNoZero"], unfollowed := true, recurses := true, named := ["unicode/utf8.first", "unicode/utf8.acceptRanges", "internal/bytealg.MaxLen"], apart := false, laid := [("unicode/utf8.acceptRanges", laid_unicode_utf8_acceptRanges), ("unicode/utf8.first", laid_unicode_utf8_first)], narrowed := true }
def FlagsAllUptoSaid : Prop := flagsAllUptoRow.holds Tryd.pinned (OpenSpec.upto flagsAllSpec)

/-- 'gripsacklaw12.FlagsBack', WHERE WHAT IT READS IS OF BULK AT MOST 1048576: true; the input reads as it did. -/
def flagsBackUptoRow : OpenClaim := { program := "ytiaenejafpbfkaadoor", sum := "c3565fabff8b77102799fd3426897fec530489a2e272b3694c23aa50e76768c1", func := "gripsack/gripsacklaw12.FlagsBack", spec := "flagsBack", inPlace := ["internal/abi.NoEscape", "internal/bytealg.MakeNoZero", "internal/bytealg.CountString", "internal/bytealg.IndexByteString", "internal/bytealg.IndexString"], unfollowed := true, recurses := true, named := ["unicode/utf8.first", "unicode/utf8.acceptRanges", "internal/bytealg.MaxLen"], apart := false, laid := [("unicode/utf8.acceptRanges", laid_unicode_utf8_acceptRanges), ("unicode/utf8.first", laid_unicode_utf8_first)], narrowed := true }
def FlagsBackUptoSaid : Prop := flagsBackUptoRow.holds Tryd.pinned (OpenSpec.upto flagsBackSpec)

/-- 'gripsacklaw12.FlagsWords', WHERE WHAT IT READS IS OF BULK AT MOST 1048576: true; the input reads as it did. -/
def flagsWordsUptoRow : OpenClaim := { program := "ytiaenejafpbfkaadoor", sum := "c3565fabff8b77102799fd3426897fec530489a2e272b3694c23aa50e76768c1", func := "gripsack/gripsacklaw12.FlagsWords", spec := "flagsWords", inPlace := ["internal/bytealg.CountString", "internal/bytealg.IndexByteString", "internal/bytealg.IndexString", "internal/abi.NoEscape", "internal/bytealg.MakeNoZero"], unfollowed := true, recurses := true, named := ["unicode/utf8.first", "unicode/utf8.acceptRanges", "internal/bytealg.MaxLen"], apart := false, laid := [("unicode/utf8.acceptRanges", laid_unicode_utf8_acceptRanges), ("unicode/utf8.first", laid_unicode_utf8_first)], narrowed := true }
def FlagsWordsUptoSaid : Prop := flagsWordsUptoRow.holds Tryd.pinned (OpenSpec.upto flagsWordsSpec)

end Rows
end Go.Proofs.YtiaenejafpbfkaaDoor

/-
  NARROWER THAN 'FOR EVERY INPUT', by the rows' own cells (each row's printed sentence says how): FsChmods: laid · FsSticky: laid · FsRoom: laid · FsLinks: laid · FsDenied: laid · FsRuns: laid · FsErrors: laid.
  DERIVED. THE GIVEN ROWS OF THIS SEAT. 7 by the template 'for every input the law returns true; each argument reads behind the call as it read before'; 0 by the template 'total and deterministic' (their statements: YtkklflpfklbbcaaGreatDoorTotals.lean).
  GIVEN WITH THE SEED: the statements are not yours to turn. If you find one false, say at which input.
  Laid BY PROGRAM, IN A SANDBOX (cutbox-rows.mjs): the forced cells as the released guide's own fill.sh prints them over the translation 5ccf9904e7ce8f90… (all of the seat's roots in one cut). By AI agents, Wed Nov 11 2026. No macro, syntax, notation, axiom, sorry.
-/
import Derived.Test.YtkklflpfklbbcaaGreatDoorChecked
import GoSem.PinnedTables
import GoSem.Claim
import GoSem.ClaimJoined
import GoSem.ClaimMapViews
import Derived.JoinedTies
import Derived.KernelRfl
namespace Go.Proofs.YtkklflpfklbbcaaGreatDoor
/- THE CELL 'sum', in the pinned program and in every row, IS THE sha256 OF THE DUMP (.gsa) THAT YtkklflpfklbbcaaGreatDoorProg.lean LOADS. Nothing in Lean hashes anything: it is a label: what it is worth is what the hold of that sum in a sandbox is worth. -/
noncomputable def Tryz.pinned : Pinned := { name := "ytkklflpfklbbcaagreatdoor", sum := "5ccf9904e7ce8f9092aeb7dc5e0af2cb12e20cc41787bda9227918bb7985c5a2", checked := Tryz.checked }
namespace Rows
def none {H : Type} : Left H := { results := [], args := [] }

/- WHAT THE LISTED PACKAGE-LEVEL VARIABLES READ AS WHEN THE CALL BEGINS. Each datum BY PROGRAM (the guide's laid-datum.mjs) off the statement by which the dump's own 'gosem.cut.vars' lays the variable. In a bare row this is a premise. The card (YtkklflpfklbbcaaGreatDoorCards.lean) ties it to the program's text. -/
def laid_unicode_utf8_acceptRanges {H : Type} : DataW H := .agg [.agg [.lit (.int .u8 128), .lit (.int .u8 191)], .agg [.lit (.int .u8 160), .lit (.int .u8 191)], .agg [.lit (.int .u8 128), .lit (.int .u8 159)], .agg [.lit (.int .u8 144), .lit (.int .u8 191)], .agg [.lit (.int .u8 128), .lit (.int .u8 143)], .agg [.lit (.int .u8 0), .lit (.int .u8 0)], .agg [.lit (.int .u8 0), .lit (.int .u8 0)], .agg [.lit (.int .u8 0), .lit (.int .u8 0)], .agg [.lit (.int .u8 0), .lit (.int .u8 0)], .agg [.lit (.int .u8 0), .lit (.int .u8 0)], .agg [.lit (.int .u8 0), .lit (.int .u8 0)], .agg [.lit (.int .u8 0), .lit (.int .u8 0)], .agg [.lit (.int .u8 0), .lit (.int .u8 0)], .agg [.lit (.int .u8 0), .lit (.int .u8 0)], .agg [.lit (.int .u8 0), .lit (.int .u8 0)], .agg [.lit (.int .u8 0), .lit (.int .u8 0)]]
/-- One of Go's own tables, pinned by name: the form's constant. -/
def laid_unicode_utf8_first : DataW Unit := Go.Pinned.utf8First

/-- 'gripsacklaw19.FsChmods': WHATEVER THE INPUT: true; the input reads as it did. -/
def fsChmodsSpec : ChangeSpec := { name := "fsChmods", fn := fun _ => fun
  | [d1, d2, d3] => { results := [.lit (.bool true)], args := [d1, d2, d3] }
  | _ => none }
def fsChmodsRow : OpenClaim := { program := "ytkklflpfklbbcaagreatdoor", sum := "5ccf9904e7ce8f9092aeb7dc5e0af2cb12e20cc41787bda9227918bb7985c5a2", func := "gripsack/gripsacklaw19.FsChmods", spec := "fsChmods", inPlace := ["internal/bytealg.CountString", "internal/bytealg.IndexByteString", "internal/bytealg.IndexString", "internal/bytealg.abigen_runtime_cmpstring", "slices.overlaps[gripsack/api.Dirent]"], unfollowed := true, recurses := true, named := ["unicode/utf8.first", "unicode/utf8.acceptRanges", "internal/bytealg.MaxLen"], apart := false, laid := [("unicode/utf8.acceptRanges", laid_unicode_utf8_acceptRanges), ("unicode/utf8.first", laid_unicode_utf8_first)] }
def FsChmodsSaid : Prop := fsChmodsRow.holds Tryz.pinned (OpenSpec.ofChange fsChmodsSpec)

/-- ITS FALSE NEIGHBOUR: 'it returns false'. Refute it at one input. -/
def fsChmodsWrong : ChangeSpec := { name := "fsChmods", fn := fun _ => fun
  | [d1, d2, d3] => { results := [.lit (.bool false)], args := [d1, d2, d3] }
  | _ => none }
def FsChmodsWrongFalsely : Prop := fsChmodsRow.holds Tryz.pinned (OpenSpec.ofChange fsChmodsWrong)

/-- 'gripsacklaw19.FsSticky': WHATEVER THE INPUT: true; the input reads as it did. -/
def fsStickySpec : ChangeSpec := { name := "fsSticky", fn := fun _ => fun
  | [d1, d2, d3] => { results := [.lit (.bool true)], args := [d1, d2, d3] }
  | _ => none }
def fsStickyRow : OpenClaim := { program := "ytkklflpfklbbcaagreatdoor", sum := "5ccf9904e7ce8f9092aeb7dc5e0af2cb12e20cc41787bda9227918bb7985c5a2", func := "gripsack/gripsacklaw19.FsSticky", spec := "fsSticky", inPlace := ["internal/bytealg.CountString", "internal/bytealg.IndexByteString", "internal/bytealg.IndexString", "internal/bytealg.abigen_runtime_cmpstring", "slices.overlaps[gripsack/api.Dirent]"], unfollowed := true, recurses := true, named := ["unicode/utf8.first", "unicode/utf8.acceptRanges", "internal/bytealg.MaxLen"], apart := false, laid := [("unicode/utf8.acceptRanges", laid_unicode_utf8_acceptRanges), ("unicode/utf8.first", laid_unicode_utf8_first)] }
def FsStickySaid : Prop := fsStickyRow.holds Tryz.pinned (OpenSpec.ofChange fsStickySpec)

/-- ITS FALSE NEIGHBOUR: 'it returns false'. Refute it at one input. -/
def fsStickyWrong : ChangeSpec := { name := "fsSticky", fn := fun _ => fun
  | [d1, d2, d3] => { results := [.lit (.bool false)], args := [d1, d2, d3] }
  | _ => none }
def FsStickyWrongFalsely : Prop := fsStickyRow.holds Tryz.pinned (OpenSpec.ofChange fsStickyWrong)

/-- 'gripsacklaw19.FsRoom': WHATEVER THE INPUT: true; the input reads as it did. -/
def fsRoomSpec : ChangeSpec := { name := "fsRoom", fn := fun _ => fun
  | [d1, d2] => { results := [.lit (.bool true)], args := [d1, d2] }
  | _ => none }
def fsRoomRow : OpenClaim := { program := "ytkklflpfklbbcaagreatdoor", sum := "5ccf9904e7ce8f9092aeb7dc5e0af2cb12e20cc41787bda9227918bb7985c5a2", func := "gripsack/gripsacklaw19.FsRoom", spec := "fsRoom", inPlace := ["internal/bytealg.IndexByteString", "internal/bytealg.IndexString", "internal/bytealg.CountString", "internal/bytealg.abigen_runtime_cmpstring", "slices.overlaps[gripsack/api.Dirent]", "internal/abi.NoEscape"], unfollowed := true, recurses := true, named := ["internal/bytealg.MaxLen", "unicode/utf8.first", "unicode/utf8.acceptRanges"], apart := false, laid := [("unicode/utf8.acceptRanges", laid_unicode_utf8_acceptRanges), ("unicode/utf8.first", laid_unicode_utf8_first)] }
def FsRoomSaid : Prop := fsRoomRow.holds Tryz.pinned (OpenSpec.ofChange fsRoomSpec)

/-- ITS FALSE NEIGHBOUR: 'it returns false'. Refute it at one input. -/
def fsRoomWrong : ChangeSpec := { name := "fsRoom", fn := fun _ => fun
  | [d1, d2] => { results := [.lit (.bool false)], args := [d1, d2] }
  | _ => none }
def FsRoomWrongFalsely : Prop := fsRoomRow.holds Tryz.pinned (OpenSpec.ofChange fsRoomWrong)

/-- 'gripsacklaw19.FsLinks': WHATEVER THE INPUT: true; the input reads as it did. -/
def fsLinksSpec : ChangeSpec := { name := "fsLinks", fn := fun _ => fun
  | [d1, d2] => { results := [.lit (.bool true)], args := [d1, d2] }
  | _ => none }
def fsLinksRow : OpenClaim := { program := "ytkklflpfklbbcaagreatdoor", sum := "5ccf9904e7ce8f9092aeb7dc5e0af2cb12e20cc41787bda9227918bb7985c5a2", func := "gripsack/gripsacklaw19.FsLinks", spec := "fsLinks", inPlace := ["internal/bytealg.CountString", "internal/bytealg.IndexByteString", "internal/bytealg.IndexString", "internal/bytealg.abigen_runtime_cmpstring", "slices.overlaps[gripsack/api.Dirent]", "internal/abi.NoEscape"], unfollowed := true, recurses := true, named := ["unicode/utf8.first", "unicode/utf8.acceptRanges", "internal/bytealg.MaxLen"], apart := false, laid := [("unicode/utf8.acceptRanges", laid_unicode_utf8_acceptRanges), ("unicode/utf8.first", laid_unicode_utf8_first)] }
def FsLinksSaid : Prop := fsLinksRow.holds Tryz.pinned (OpenSpec.ofChange fsLinksSpec)

/-- ITS FALSE NEIGHBOUR: 'it returns false'. Refute it at one input. -/
def fsLinksWrong : ChangeSpec := { name := "fsLinks", fn := fun _ => fun
  | [d1, d2] => { results := [.lit (.bool false)], args := [d1, d2] }
  | _ => none }
def FsLinksWrongFalsely : Prop := fsLinksRow.holds Tryz.pinned (OpenSpec.ofChange fsLinksWrong)

/-- 'gripsacklaw19.FsDenied': WHATEVER THE INPUT: true; the input reads as it did. -/
def fsDeniedSpec : ChangeSpec := { name := "fsDenied", fn := fun _ => fun
  | [d1, d2, d3, d4, d5] => { results := [.lit (.bool true)], args := [d1, d2, d3, d4, d5] }
  | _ => none }
def fsDeniedRow : OpenClaim := { program := "ytkklflpfklbbcaagreatdoor", sum := "5ccf9904e7ce8f9092aeb7dc5e0af2cb12e20cc41787bda9227918bb7985c5a2", func := "gripsack/gripsacklaw19.FsDenied", spec := "fsDenied", inPlace := ["internal/bytealg.CountString", "internal/bytealg.IndexByteString", "internal/bytealg.IndexString", "internal/bytealg.abigen_runtime_cmpstring", "slices.overlaps[gripsack/api.Dirent]", "internal/abi.NoEscape"], unfollowed := true, recurses := true, named := ["unicode/utf8.first", "unicode/utf8.acceptRanges", "internal/bytealg.MaxLen"], apart := false, laid := [("unicode/utf8.acceptRanges", laid_unicode_utf8_acceptRanges), ("unicode/utf8.first", laid_unicode_utf8_first)] }
def FsDeniedSaid : Prop := fsDeniedRow.holds Tryz.pinned (OpenSpec.ofChange fsDeniedSpec)

/-- ITS FALSE NEIGHBOUR: 'it returns false'. Refute it at one input. -/
def fsDeniedWrong : ChangeSpec := { name := "fsDenied", fn := fun _ => fun
  | [d1, d2, d3, d4, d5] => { results := [.lit (.bool false)], args := [d1, d2, d3, d4, d5] }
  | _ => none }
def FsDeniedWrongFalsely : Prop := fsDeniedRow.holds Tryz.pinned (OpenSpec.ofChange fsDeniedWrong)

/-- 'gripsacklaw19.FsRuns': WHATEVER THE INPUT: true; the input reads as it did. -/
def fsRunsSpec : ChangeSpec := { name := "fsRuns", fn := fun _ => fun
  | [d1, d2, d3, d4] => { results := [.lit (.bool true)], args := [d1, d2, d3, d4] }
  | _ => none }
def fsRunsRow : OpenClaim := { program := "ytkklflpfklbbcaagreatdoor", sum := "5ccf9904e7ce8f9092aeb7dc5e0af2cb12e20cc41787bda9227918bb7985c5a2", func := "gripsack/gripsacklaw19.FsRuns", spec := "fsRuns", inPlace := ["internal/bytealg.IndexByteString", "internal/bytealg.IndexString", "internal/bytealg.CountString", "internal/bytealg.abigen_runtime_cmpstring", "slices.overlaps[gripsack/api.Dirent]", "internal/abi.NoEscape"], unfollowed := true, recurses := true, named := ["internal/bytealg.MaxLen", "unicode/utf8.first", "unicode/utf8.acceptRanges"], apart := false, laid := [("unicode/utf8.acceptRanges", laid_unicode_utf8_acceptRanges), ("unicode/utf8.first", laid_unicode_utf8_first)] }
def FsRunsSaid : Prop := fsRunsRow.holds Tryz.pinned (OpenSpec.ofChange fsRunsSpec)

/-- ITS FALSE NEIGHBOUR: 'it returns false'. Refute it at one input. -/
def fsRunsWrong : ChangeSpec := { name := "fsRuns", fn := fun _ => fun
  | [d1, d2, d3, d4] => { results := [.lit (.bool false)], args := [d1, d2, d3, d4] }
  | _ => none }
def FsRunsWrongFalsely : Prop := fsRunsRow.holds Tryz.pinned (OpenSpec.ofChange fsRunsWrong)

/-- 'gripsacklaw19.FsErrors': WHATEVER THE INPUT: true; the input reads as it did. -/
def fsErrorsSpec : ChangeSpec := { name := "fsErrors", fn := fun _ => fun
  | [d1, d2, d3, d4, d5] => { results := [.lit (.bool true)], args := [d1, d2, d3, d4, d5] }
  | _ => none }
def fsErrorsRow : OpenClaim := { program := "ytkklflpfklbbcaagreatdoor", sum := "5ccf9904e7ce8f9092aeb7dc5e0af2cb12e20cc41787bda9227918bb7985c5a2", func := "gripsack/gripsacklaw19.FsErrors", spec := "fsErrors", inPlace := ["internal/abi.NoEscape", "internal/bytealg.IndexByteString", "internal/bytealg.IndexString", "internal/bytealg.CountString", "internal/bytealg.abigen_runtime_cmpstring", "slices.overlaps[gripsack/api.Dirent]"], unfollowed := true, recurses := true, named := ["internal/bytealg.MaxLen", "unicode/utf8.first", "unicode/utf8.acceptRanges"], apart := false, laid := [("unicode/utf8.acceptRanges", laid_unicode_utf8_acceptRanges), ("unicode/utf8.first", laid_unicode_utf8_first)] }
def FsErrorsSaid : Prop := fsErrorsRow.holds Tryz.pinned (OpenSpec.ofChange fsErrorsSpec)

/-- ITS FALSE NEIGHBOUR: 'it returns false'. Refute it at one input. -/
def fsErrorsWrong : ChangeSpec := { name := "fsErrors", fn := fun _ => fun
  | [d1, d2, d3, d4, d5] => { results := [.lit (.bool false)], args := [d1, d2, d3, d4, d5] }
  | _ => none }
def FsErrorsWrongFalsely : Prop := fsErrorsRow.holds Tryz.pinned (OpenSpec.ofChange fsErrorsWrong)

/- THE SECOND FORM. 'bulk': how many values and letters a reading holds, each counted each time it is reached (what is shared counts as often as it is met; a slice's spare places count too). A statement '..UptoSaid' is the law's where the arguments, and the package variables that the reading takes, are together of bulk at most 1048576: NARROWER than '..Said'. Prove '..Said' where nothing that the law and all that it calls make is longer than what came in: it says more and counts as full. Else prove '..UptoSaid'. A law counts once. -/
mutual
def uptoBulk {H : Type} : DataW H → Nat
  | .lit (.string bytes) => bytes.length + 1
  | .lit _ => 1
  | .nil => 1
  | .ptr d => uptoBulk d + 1
  | .slice elems spare => uptoBulkAll elems + uptoBulkAll spare + 1
  | .agg parts => uptoBulkAll parts + 1
  | .iface _ d => uptoBulk d + 1
  | .map entries => uptoBulkEntries entries + 1
  | .held _ => 1
def uptoBulkAll {H : Type} : List (DataW H) → Nat
  | [] => 0
  | d :: r => uptoBulk d + uptoBulkAll r
def uptoBulkEntries {H : Type} : List (Lit × DataW H) → Nat
  | [] => 0
  | x :: r => uptoBulkEntry x + uptoBulkEntries r
def uptoBulkEntry {H : Type} : Lit × DataW H → Nat
  | (.string bytes, d) => bytes.length + uptoBulk d + 1
  | (_, d) => uptoBulk d + 1
 end
def uptoSmall : (H : Type) → List (DataW H) → Bool := fun _ ds => decide (uptoBulkAll ds ≤ 1048576)
def OpenSpec.upto (s : _root_.Go.ChangeSpec) : _root_.Go.OpenSpec := { _root_.Go.OpenSpec.ofChange s with cond := some uptoSmall }

/-- 'gripsacklaw19.FsChmods', WHERE WHAT IT READS IS OF BULK AT MOST 1048576: true; the input reads as it did. -/
def fsChmodsUptoRow : OpenClaim := { program := "ytkklflpfklbbcaagreatdoor", sum := "5ccf9904e7ce8f9092aeb7dc5e0af2cb12e20cc41787bda9227918bb7985c5a2", func := "gripsack/gripsacklaw19.FsChmods", spec := "fsChmods", inPlace := ["internal/bytealg.CountString", "internal/bytealg.IndexByteString", "internal/bytealg.IndexString", "internal/bytealg.abigen_runtime_cmpstring", "slices.overlaps[gripsack/api.Dirent]"], unfollowed := true, recurses := true, named := ["unicode/utf8.first", "unicode/utf8.acceptRanges", "internal/bytealg.MaxLen"], apart := false, laid := [("unicode/utf8.acceptRanges", laid_unicode_utf8_acceptRanges), ("unicode/utf8.first", laid_unicode_utf8_first)], narrowed := true }
def FsChmodsUptoSaid : Prop := fsChmodsUptoRow.holds Tryz.pinned (OpenSpec.upto fsChmodsSpec)

/-- 'gripsacklaw19.FsSticky', WHERE WHAT IT READS IS OF BULK AT MOST 1048576: true; the input reads as it did. -/
def fsStickyUptoRow : OpenClaim := { program := "ytkklflpfklbbcaagreatdoor", sum := "5ccf9904e7ce8f9092aeb7dc5e0af2cb12e20cc41787bda9227918bb7985c5a2", func := "gripsack/gripsacklaw19.FsSticky", spec := "fsSticky", inPlace := ["internal/bytealg.CountString", "internal/bytealg.IndexByteString", "internal/bytealg.IndexString", "internal/bytealg.abigen_runtime_cmpstring", "slices.overlaps[gripsack/api.Dirent]"], unfollowed := true, recurses := true, named := ["unicode/utf8.first", "unicode/utf8.acceptRanges", "internal/bytealg.MaxLen"], apart := false, laid := [("unicode/utf8.acceptRanges", laid_unicode_utf8_acceptRanges), ("unicode/utf8.first", laid_unicode_utf8_first)], narrowed := true }
def FsStickyUptoSaid : Prop := fsStickyUptoRow.holds Tryz.pinned (OpenSpec.upto fsStickySpec)

/-- 'gripsacklaw19.FsRoom', WHERE WHAT IT READS IS OF BULK AT MOST 1048576: true; the input reads as it did. -/
def fsRoomUptoRow : OpenClaim := { program := "ytkklflpfklbbcaagreatdoor", sum := "5ccf9904e7ce8f9092aeb7dc5e0af2cb12e20cc41787bda9227918bb7985c5a2", func := "gripsack/gripsacklaw19.FsRoom", spec := "fsRoom", inPlace := ["internal/bytealg.IndexByteString", "internal/bytealg.IndexString", "internal/bytealg.CountString", "internal/bytealg.abigen_runtime_cmpstring", "slices.overlaps[gripsack/api.Dirent]", "internal/abi.NoEscape"], unfollowed := true, recurses := true, named := ["internal/bytealg.MaxLen", "unicode/utf8.first", "unicode/utf8.acceptRanges"], apart := false, laid := [("unicode/utf8.acceptRanges", laid_unicode_utf8_acceptRanges), ("unicode/utf8.first", laid_unicode_utf8_first)], narrowed := true }
def FsRoomUptoSaid : Prop := fsRoomUptoRow.holds Tryz.pinned (OpenSpec.upto fsRoomSpec)

/-- 'gripsacklaw19.FsLinks', WHERE WHAT IT READS IS OF BULK AT MOST 1048576: true; the input reads as it did. -/
def fsLinksUptoRow : OpenClaim := { program := "ytkklflpfklbbcaagreatdoor", sum := "5ccf9904e7ce8f9092aeb7dc5e0af2cb12e20cc41787bda9227918bb7985c5a2", func := "gripsack/gripsacklaw19.FsLinks", spec := "fsLinks", inPlace := ["internal/bytealg.CountString", "internal/bytealg.IndexByteString", "internal/bytealg.IndexString", "internal/bytealg.abigen_runtime_cmpstring", "slices.overlaps[gripsack/api.Dirent]", "internal/abi.NoEscape"], unfollowed := true, recurses := true, named := ["unicode/utf8.first", "unicode/utf8.acceptRanges", "internal/bytealg.MaxLen"], apart := false, laid := [("unicode/utf8.acceptRanges", laid_unicode_utf8_acceptRanges), ("unicode/utf8.first", laid_unicode_utf8_first)], narrowed := true }
def FsLinksUptoSaid : Prop := fsLinksUptoRow.holds Tryz.pinned (OpenSpec.upto fsLinksSpec)

/-- 'gripsacklaw19.FsDenied', WHERE WHAT IT READS IS OF BULK AT MOST 1048576: true; the input reads as it did. -/
def fsDeniedUptoRow : OpenClaim := { program := "ytkklflpfklbbcaagreatdoor", sum := "5ccf9904e7ce8f9092aeb7dc5e0af2cb12e20cc41787bda9227918bb7985c5a2", func := "gripsack/gripsacklaw19.FsDenied", spec := "fsDenied", inPlace := ["internal/bytealg.CountString", "internal/bytealg.IndexByteString", "internal/bytealg.IndexString", "internal/bytealg.abigen_runtime_cmpstring", "slices.overlaps[gripsack/api.Dirent]", "internal/abi.NoEscape"], unfollowed := true, recurses := true, named := ["unicode/utf8.first", "unicode/utf8.acceptRanges", "internal/bytealg.MaxLen"], apart := false, laid := [("unicode/utf8.acceptRanges", laid_unicode_utf8_acceptRanges), ("unicode/utf8.first", laid_unicode_utf8_first)], narrowed := true }
def FsDeniedUptoSaid : Prop := fsDeniedUptoRow.holds Tryz.pinned (OpenSpec.upto fsDeniedSpec)

/-- 'gripsacklaw19.FsRuns', WHERE WHAT IT READS IS OF BULK AT MOST 1048576: true; the input reads as it did. -/
def fsRunsUptoRow : OpenClaim := { program := "ytkklflpfklbbcaagreatdoor", sum := "5ccf9904e7ce8f9092aeb7dc5e0af2cb12e20cc41787bda9227918bb7985c5a2", func := "gripsack/gripsacklaw19.FsRuns", spec := "fsRuns", inPlace := ["internal/bytealg.IndexByteString", "internal/bytealg.IndexString", "internal/bytealg.CountString", "internal/bytealg.abigen_runtime_cmpstring", "slices.overlaps[gripsack/api.Dirent]", "internal/abi.NoEscape"], unfollowed := true, recurses := true, named := ["internal/bytealg.MaxLen", "unicode/utf8.first", "unicode/utf8.acceptRanges"], apart := false, laid := [("unicode/utf8.acceptRanges", laid_unicode_utf8_acceptRanges), ("unicode/utf8.first", laid_unicode_utf8_first)], narrowed := true }
def FsRunsUptoSaid : Prop := fsRunsUptoRow.holds Tryz.pinned (OpenSpec.upto fsRunsSpec)

/-- 'gripsacklaw19.FsErrors', WHERE WHAT IT READS IS OF BULK AT MOST 1048576: true; the input reads as it did. -/
def fsErrorsUptoRow : OpenClaim := { program := "ytkklflpfklbbcaagreatdoor", sum := "5ccf9904e7ce8f9092aeb7dc5e0af2cb12e20cc41787bda9227918bb7985c5a2", func := "gripsack/gripsacklaw19.FsErrors", spec := "fsErrors", inPlace := ["internal/abi.NoEscape", "internal/bytealg.IndexByteString", "internal/bytealg.IndexString", "internal/bytealg.CountString", "internal/bytealg.abigen_runtime_cmpstring", "slices.overlaps[gripsack/api.Dirent]"], unfollowed := true, recurses := true, named := ["internal/bytealg.MaxLen", "unicode/utf8.first", "unicode/utf8.acceptRanges"], apart := false, laid := [("unicode/utf8.acceptRanges", laid_unicode_utf8_acceptRanges), ("unicode/utf8.first", laid_unicode_utf8_first)], narrowed := true }
def FsErrorsUptoSaid : Prop := fsErrorsUptoRow.holds Tryz.pinned (OpenSpec.upto fsErrorsSpec)

end Rows
end Go.Proofs.YtkklflpfklbbcaaGreatDoor

/-
  No cell of these rows narrows 'for every input' (looked for: loops, veiled, ifaces, maps, wideKeys, modest, calm, conditions, laid).
  DERIVED. THE GIVEN ROWS OF THIS SEAT. 4 by the template 'for every input the law returns true; each argument reads behind the call as it read before'; 0 by the template 'total and deterministic' (their statements: YtjjddmbnfkmfdaaTotals.lean).
  GIVEN WITH THE SEED: the statements are not yours to turn. If you find one false, say at which input.
  Laid BY PROGRAM, IN A SANDBOX (cutbox-rows.mjs): the forced cells as the released guide's own fill.sh prints them over the translation 6fee4d3eccc35648… (all of the seat's roots in one cut). By AI agents, Wed Nov 11 2026. No macro, syntax, notation, axiom, sorry.
-/
import Derived.Test.YtjjddmbnfkmfdaaChecked
import GoSem.Claim
import GoSem.ClaimJoined
import GoSem.ClaimMapViews
import Derived.JoinedTies
import Derived.KernelRfl
namespace Go.Proofs.Ytjjddmbnfkmfdaa
/- THE CELL 'sum', in the pinned program and in every row, IS THE sha256 OF THE DUMP (.gsa) THAT YtjjddmbnfkmfdaaProg.lean LOADS. Nothing in Lean hashes anything: it is a label: what it is worth is what the hold of that sum in a sandbox is worth. -/
noncomputable def Try.pinned : Pinned := { name := "ytjjddmbnfkmfdaa", sum := "6fee4d3eccc35648365852ef93f0eb013a6c6bb03b7a9d4b6f9ab19acf6bca35", checked := Try.checked }
namespace Rows
def none {H : Type} : Left H := { results := [], args := [] }

/-- 'gripsacklaw13.XattrAll': WHATEVER THE INPUT: true; the input reads as it did. -/
def xattrAllSpec : ChangeSpec := { name := "xattrAll", fn := fun _ => fun
  | [d1, d2, d3] => { results := [.lit (.bool true)], args := [d1, d2, d3] }
  | _ => none }
def xattrAllRow : OpenClaim := { program := "ytjjddmbnfkmfdaa", sum := "6fee4d3eccc35648365852ef93f0eb013a6c6bb03b7a9d4b6f9ab19acf6bca35", func := "gripsack/gripsacklaw13.XattrAll", spec := "xattrAll", inPlace := ["internal/abi.NoEscape", "internal/bytealg.IndexByteString", "internal/bytealg.IndexString", "slices.overlaps[gripsack/api.Xattr]"], unfollowed := true, recurses := true, named := ["internal/bytealg.MaxLen"], apart := false }
def XattrAllSaid : Prop := xattrAllRow.holds Try.pinned (OpenSpec.ofChange xattrAllSpec)

/-- ITS FALSE NEIGHBOUR: 'it returns false'. Refute it at one input. -/
def xattrAllWrong : ChangeSpec := { name := "xattrAll", fn := fun _ => fun
  | [d1, d2, d3] => { results := [.lit (.bool false)], args := [d1, d2, d3] }
  | _ => none }
def XattrAllWrongFalsely : Prop := xattrAllRow.holds Try.pinned (OpenSpec.ofChange xattrAllWrong)

/-- 'gripsacklaw13.XattrBack': WHATEVER THE INPUT: true; the input reads as it did. -/
def xattrBackSpec : ChangeSpec := { name := "xattrBack", fn := fun _ => fun
  | [d1, d2] => { results := [.lit (.bool true)], args := [d1, d2] }
  | _ => none }
def xattrBackRow : OpenClaim := { program := "ytjjddmbnfkmfdaa", sum := "6fee4d3eccc35648365852ef93f0eb013a6c6bb03b7a9d4b6f9ab19acf6bca35", func := "gripsack/gripsacklaw13.XattrBack", spec := "xattrBack", inPlace := ["internal/abi.NoEscape", "internal/bytealg.IndexByteString", "internal/bytealg.IndexString", "slices.overlaps[gripsack/api.Xattr]"], unfollowed := true, recurses := true, named := ["internal/bytealg.MaxLen"], apart := false }
def XattrBackSaid : Prop := xattrBackRow.holds Try.pinned (OpenSpec.ofChange xattrBackSpec)

/-- ITS FALSE NEIGHBOUR: 'it returns false'. Refute it at one input. -/
def xattrBackWrong : ChangeSpec := { name := "xattrBack", fn := fun _ => fun
  | [d1, d2] => { results := [.lit (.bool false)], args := [d1, d2] }
  | _ => none }
def XattrBackWrongFalsely : Prop := xattrBackRow.holds Try.pinned (OpenSpec.ofChange xattrBackWrong)

/-- 'gripsacklaw13.XattrLast': WHATEVER THE INPUT: true; the input reads as it did. -/
def xattrLastSpec : ChangeSpec := { name := "xattrLast", fn := fun _ => fun
  | [d1, d2, d3] => { results := [.lit (.bool true)], args := [d1, d2, d3] }
  | _ => none }
def xattrLastRow : OpenClaim := { program := "ytjjddmbnfkmfdaa", sum := "6fee4d3eccc35648365852ef93f0eb013a6c6bb03b7a9d4b6f9ab19acf6bca35", func := "gripsack/gripsacklaw13.XattrLast", spec := "xattrLast", inPlace := ["internal/abi.NoEscape", "internal/bytealg.IndexByteString", "internal/bytealg.IndexString", "slices.overlaps[gripsack/api.Xattr]"], unfollowed := true, recurses := true, named := ["internal/bytealg.MaxLen"], apart := false }
def XattrLastSaid : Prop := xattrLastRow.holds Try.pinned (OpenSpec.ofChange xattrLastSpec)

/-- ITS FALSE NEIGHBOUR: 'it returns false'. Refute it at one input. -/
def xattrLastWrong : ChangeSpec := { name := "xattrLast", fn := fun _ => fun
  | [d1, d2, d3] => { results := [.lit (.bool false)], args := [d1, d2, d3] }
  | _ => none }
def XattrLastWrongFalsely : Prop := xattrLastRow.holds Try.pinned (OpenSpec.ofChange xattrLastWrong)

/-- 'gripsacklaw13.XattrLimits': WHATEVER THE INPUT: true; the input reads as it did. -/
def xattrLimitsSpec : ChangeSpec := { name := "xattrLimits", fn := fun _ => fun
  | [d1, d2, d3] => { results := [.lit (.bool true)], args := [d1, d2, d3] }
  | _ => none }
def xattrLimitsRow : OpenClaim := { program := "ytjjddmbnfkmfdaa", sum := "6fee4d3eccc35648365852ef93f0eb013a6c6bb03b7a9d4b6f9ab19acf6bca35", func := "gripsack/gripsacklaw13.XattrLimits", spec := "xattrLimits", inPlace := ["internal/abi.NoEscape", "internal/bytealg.IndexByteString", "internal/bytealg.IndexString", "slices.overlaps[gripsack/api.Xattr]"], unfollowed := true, recurses := true, named := ["internal/bytealg.MaxLen"], apart := false }
def XattrLimitsSaid : Prop := xattrLimitsRow.holds Try.pinned (OpenSpec.ofChange xattrLimitsSpec)

/-- ITS FALSE NEIGHBOUR: 'it returns false'. Refute it at one input. -/
def xattrLimitsWrong : ChangeSpec := { name := "xattrLimits", fn := fun _ => fun
  | [d1, d2, d3] => { results := [.lit (.bool false)], args := [d1, d2, d3] }
  | _ => none }
def XattrLimitsWrongFalsely : Prop := xattrLimitsRow.holds Try.pinned (OpenSpec.ofChange xattrLimitsWrong)

/- THE SECOND FORM. 'bulk': how many values and letters a reading holds, each counted each time it is reached (what is shared counts as often as it is met; a slice's spare places count too). A statement '..UptoSaid' is the law's where the arguments, and the package variables that the reading takes, are together of bulk at most 1048576: NARROWER than '..Said'. Prove '..Said' where nothing that the law and all that it calls make is longer than what came in: it says more and counts as full. Else prove '..UptoSaid'. A law counts once. -/
mutual
def uptoBulk {H : Type} : DataW H → Nat
  | .lit (.string bytes) => bytes.length + 1
  | .lit _ => 1
  | .nil => 1
  | .ptr d => uptoBulk d + 1
  | .slice elems spare => uptoBulkAll elems + uptoBulkAll spare + 1
  | .agg parts => uptoBulkAll parts + 1
  | .iface _ d => uptoBulk d + 1
  | .map entries => uptoBulkEntries entries + 1
  | .held _ => 1
def uptoBulkAll {H : Type} : List (DataW H) → Nat
  | [] => 0
  | d :: r => uptoBulk d + uptoBulkAll r
def uptoBulkEntries {H : Type} : List (Lit × DataW H) → Nat
  | [] => 0
  | x :: r => uptoBulkEntry x + uptoBulkEntries r
def uptoBulkEntry {H : Type} : Lit × DataW H → Nat
  | (.string bytes, d) => bytes.length + uptoBulk d + 1
  | (_, d) => uptoBulk d + 1
 end
def uptoSmall : (H : Type) → List (DataW H) → Bool := fun _ ds => decide (uptoBulkAll ds ≤ 1048576)
def OpenSpec.upto (s : _root_.Go.ChangeSpec) : _root_.Go.OpenSpec := { _root_.Go.OpenSpec.ofChange s with cond := some uptoSmall }

/-- 'gripsacklaw13.XattrAll', WHERE WHAT IT READS IS OF BULK AT MOST 1048576: true; the input reads as it did. -/
def xattrAllUptoRow : OpenClaim := { program := "ytjjddmbnfkmfdaa", sum := "6fee4d3eccc35648365852ef93f0eb013a6c6bb03b7a9d4b6f9ab19acf6bca35", func := "gripsack/gripsacklaw13.XattrAll", spec := "xattrAll", inPlace := ["internal/abi.NoEscape", "internal/bytealg.IndexByteString", "internal/bytealg.IndexString", "slices.overlaps[gripsack/api.Xattr]"], unfollowed := true, recurses := true, named := ["internal/bytealg.MaxLen"], apart := false, narrowed := true }
def XattrAllUptoSaid : Prop := xattrAllUptoRow.holds Try.pinned (OpenSpec.upto xattrAllSpec)

/-- 'gripsacklaw13.XattrBack', WHERE WHAT IT READS IS OF BULK AT MOST 1048576: true; the input reads as it did. -/
def xattrBackUptoRow : OpenClaim := { program := "ytjjddmbnfkmfdaa", sum := "6fee4d3eccc35648365852ef93f0eb013a6c6bb03b7a9d4b6f9ab19acf6bca35", func := "gripsack/gripsacklaw13.XattrBack", spec := "xattrBack", inPlace := ["internal/abi.NoEscape", "internal/bytealg.IndexByteString", "internal/bytealg.IndexString", "slices.overlaps[gripsack/api.Xattr]"], unfollowed := true, recurses := true, named := ["internal/bytealg.MaxLen"], apart := false, narrowed := true }
def XattrBackUptoSaid : Prop := xattrBackUptoRow.holds Try.pinned (OpenSpec.upto xattrBackSpec)

/-- 'gripsacklaw13.XattrLast', WHERE WHAT IT READS IS OF BULK AT MOST 1048576: true; the input reads as it did. -/
def xattrLastUptoRow : OpenClaim := { program := "ytjjddmbnfkmfdaa", sum := "6fee4d3eccc35648365852ef93f0eb013a6c6bb03b7a9d4b6f9ab19acf6bca35", func := "gripsack/gripsacklaw13.XattrLast", spec := "xattrLast", inPlace := ["internal/abi.NoEscape", "internal/bytealg.IndexByteString", "internal/bytealg.IndexString", "slices.overlaps[gripsack/api.Xattr]"], unfollowed := true, recurses := true, named := ["internal/bytealg.MaxLen"], apart := false, narrowed := true }
def XattrLastUptoSaid : Prop := xattrLastUptoRow.holds Try.pinned (OpenSpec.upto xattrLastSpec)

/-- 'gripsacklaw13.XattrLimits', WHERE WHAT IT READS IS OF BULK AT MOST 1048576: true; the input reads as it did. -/
def xattrLimitsUptoRow : OpenClaim := { program := "ytjjddmbnfkmfdaa", sum := "6fee4d3eccc35648365852ef93f0eb013a6c6bb03b7a9d4b6f9ab19acf6bca35", func := "gripsack/gripsacklaw13.XattrLimits", spec := "xattrLimits", inPlace := ["internal/abi.NoEscape", "internal/bytealg.IndexByteString", "internal/bytealg.IndexString", "slices.overlaps[gripsack/api.Xattr]"], unfollowed := true, recurses := true, named := ["internal/bytealg.MaxLen"], apart := false, narrowed := true }
def XattrLimitsUptoSaid : Prop := xattrLimitsUptoRow.holds Try.pinned (OpenSpec.upto xattrLimitsSpec)

end Rows
end Go.Proofs.Ytjjddmbnfkmfdaa

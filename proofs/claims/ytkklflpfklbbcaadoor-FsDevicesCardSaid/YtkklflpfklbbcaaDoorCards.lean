/-
  DERIVED. GIVEN WITH THE SEED: THE CARDS: each row of YtkklflpfklbbcaaDoorRows.lean that lists a variable, with what it lists TIED to the program's text (the seventh form; the later family's looks); each row that meets fmt, with fmt's text TOLD by the authors' own Lean function (tested against real Go, not proved from fmt's source: count such statements apart). THE CARD IS WHAT COUNTS. Prove the row's statement (the work); the ties are given (YtkklflpfklbbcaaDoorTie.lean); close each card by the builder's one call (the guide's Derived/Test/ToyasCard.lean, 'card_holds'). Laid BY PROGRAM, IN A SANDBOX (cutbox-door.mjs). By AI agents, Wed Nov 11 2026. No macro, syntax, notation, axiom, sorry.
-/
import Derived.Test.YtkklflpfklbbcaaDoorRows
import GoSem.ClaimSeven
namespace Go.Proofs.YtkklflpfklbbcaaDoor
namespace Rows

/-- THE TIED CARD OF 'gripsacklaw19.FsPaths'. -/
def fsPathsCard : Claim7 := { stood := { row := fsPathsRow, standIns := [], harness := (true, "59449f4db51d40d8f6819a8edd2e074d397d2d5e9180c607ad1c64624060b64f"), looks := true }, kinds := [], alts := [], laidByText := true, laidKinds := [.data, .pinned], laidTests := true, laidLooks := .later }
def FsPathsCardSaid : Prop := Claim7.holds Tryd.pinned (.plain (OpenSpec.ofChange fsPathsSpec)) fsPathsCard

/-- THE TIED CARD OF 'gripsacklaw19.FsDevices'. -/
def fsDevicesCard : Claim7 := { stood := { row := fsDevicesRow, standIns := [], harness := (true, "59449f4db51d40d8f6819a8edd2e074d397d2d5e9180c607ad1c64624060b64f"), looks := true }, kinds := [], alts := [], laidByText := true, laidKinds := [.data, .pinned], laidTests := true, laidLooks := .later }
def FsDevicesCardSaid : Prop := Claim7.holds Tryd.pinned (.plain (OpenSpec.ofChange fsDevicesSpec)) fsDevicesCard

/-- THE SECOND FORM's CARD OF 'gripsacklaw19.FsPaths'. -/
def fsPathsUptoCard : Claim7 := { stood := { row := fsPathsUptoRow, standIns := [], harness := (true, "59449f4db51d40d8f6819a8edd2e074d397d2d5e9180c607ad1c64624060b64f"), looks := true }, kinds := [], alts := [], laidByText := true, laidKinds := [.data, .pinned], laidTests := true, laidLooks := .later }
def FsPathsUptoCardSaid : Prop := Claim7.holds Tryd.pinned (.plain (OpenSpec.upto fsPathsSpec)) fsPathsUptoCard

/-- THE SECOND FORM's CARD OF 'gripsacklaw19.FsDevices'. -/
def fsDevicesUptoCard : Claim7 := { stood := { row := fsDevicesUptoRow, standIns := [], harness := (true, "59449f4db51d40d8f6819a8edd2e074d397d2d5e9180c607ad1c64624060b64f"), looks := true }, kinds := [], alts := [], laidByText := true, laidKinds := [.data, .pinned], laidTests := true, laidLooks := .later }
def FsDevicesUptoCardSaid : Prop := Claim7.holds Tryd.pinned (.plain (OpenSpec.upto fsDevicesSpec)) fsDevicesUptoCard
end Rows
end Go.Proofs.YtkklflpfklbbcaaDoor

/-
  DERIVED. GIVEN WITH THE SEED: THE CARDS: each row of YtkklflpfklbbcaaGreatDoorRows.lean that lists a variable, with what it lists TIED to the program's text (the seventh form; the later family's looks); each row that meets fmt, with fmt's text TOLD by the authors' own Lean function (tested against real Go, not proved from fmt's source: count such statements apart). THE CARD IS WHAT COUNTS. Prove the row's statement (the work); the ties are given (YtkklflpfklbbcaaGreatDoorTie.lean); close each card by the builder's one call (the guide's Derived/Test/ToyasCard.lean, 'card_holds'). Laid BY PROGRAM, IN A SANDBOX (cutbox-door.mjs). By AI agents, Wed Nov 11 2026. No macro, syntax, notation, axiom, sorry.
-/
import Derived.Test.YtkklflpfklbbcaaGreatDoorRows
import GoSem.ClaimSeven
namespace Go.Proofs.YtkklflpfklbbcaaGreatDoor
namespace Rows

/-- THE TIED CARD OF 'gripsacklaw19.FsChmods'. -/
def fsChmodsCard : Claim7 := { stood := { row := fsChmodsRow, standIns := [], harness := (true, "d981b3fcd43169a3df347391cb283f66a39b187c14fc00bbff46b1934d8c6595"), looks := true }, kinds := [], alts := [], laidByText := true, laidKinds := [.data, .pinned], laidTests := true, laidLooks := .later }
def FsChmodsCardSaid : Prop := Claim7.holds Tryz.pinned (.plain (OpenSpec.ofChange fsChmodsSpec)) fsChmodsCard

/-- THE TIED CARD OF 'gripsacklaw19.FsSticky'. -/
def fsStickyCard : Claim7 := { stood := { row := fsStickyRow, standIns := [], harness := (true, "d981b3fcd43169a3df347391cb283f66a39b187c14fc00bbff46b1934d8c6595"), looks := true }, kinds := [], alts := [], laidByText := true, laidKinds := [.data, .pinned], laidTests := true, laidLooks := .later }
def FsStickyCardSaid : Prop := Claim7.holds Tryz.pinned (.plain (OpenSpec.ofChange fsStickySpec)) fsStickyCard

/-- THE TIED CARD OF 'gripsacklaw19.FsRoom'. -/
def fsRoomCard : Claim7 := { stood := { row := fsRoomRow, standIns := [], harness := (true, "d981b3fcd43169a3df347391cb283f66a39b187c14fc00bbff46b1934d8c6595"), looks := true }, kinds := [], alts := [], laidByText := true, laidKinds := [.data, .pinned], laidTests := true, laidLooks := .later }
def FsRoomCardSaid : Prop := Claim7.holds Tryz.pinned (.plain (OpenSpec.ofChange fsRoomSpec)) fsRoomCard

/-- THE TIED CARD OF 'gripsacklaw19.FsLinks'. -/
def fsLinksCard : Claim7 := { stood := { row := fsLinksRow, standIns := [], harness := (true, "d981b3fcd43169a3df347391cb283f66a39b187c14fc00bbff46b1934d8c6595"), looks := true }, kinds := [], alts := [], laidByText := true, laidKinds := [.data, .pinned], laidTests := true, laidLooks := .later }
def FsLinksCardSaid : Prop := Claim7.holds Tryz.pinned (.plain (OpenSpec.ofChange fsLinksSpec)) fsLinksCard

/-- THE TIED CARD OF 'gripsacklaw19.FsDenied'. -/
def fsDeniedCard : Claim7 := { stood := { row := fsDeniedRow, standIns := [], harness := (true, "d981b3fcd43169a3df347391cb283f66a39b187c14fc00bbff46b1934d8c6595"), looks := true }, kinds := [], alts := [], laidByText := true, laidKinds := [.data, .pinned], laidTests := true, laidLooks := .later }
def FsDeniedCardSaid : Prop := Claim7.holds Tryz.pinned (.plain (OpenSpec.ofChange fsDeniedSpec)) fsDeniedCard

/-- THE TIED CARD OF 'gripsacklaw19.FsRuns'. -/
def fsRunsCard : Claim7 := { stood := { row := fsRunsRow, standIns := [], harness := (true, "d981b3fcd43169a3df347391cb283f66a39b187c14fc00bbff46b1934d8c6595"), looks := true }, kinds := [], alts := [], laidByText := true, laidKinds := [.data, .pinned], laidTests := true, laidLooks := .later }
def FsRunsCardSaid : Prop := Claim7.holds Tryz.pinned (.plain (OpenSpec.ofChange fsRunsSpec)) fsRunsCard

/-- THE TIED CARD OF 'gripsacklaw19.FsErrors'. -/
def fsErrorsCard : Claim7 := { stood := { row := fsErrorsRow, standIns := [], harness := (true, "d981b3fcd43169a3df347391cb283f66a39b187c14fc00bbff46b1934d8c6595"), looks := true }, kinds := [], alts := [], laidByText := true, laidKinds := [.data, .pinned], laidTests := true, laidLooks := .later }
def FsErrorsCardSaid : Prop := Claim7.holds Tryz.pinned (.plain (OpenSpec.ofChange fsErrorsSpec)) fsErrorsCard

/-- THE SECOND FORM's CARD OF 'gripsacklaw19.FsChmods'. -/
def fsChmodsUptoCard : Claim7 := { stood := { row := fsChmodsUptoRow, standIns := [], harness := (true, "d981b3fcd43169a3df347391cb283f66a39b187c14fc00bbff46b1934d8c6595"), looks := true }, kinds := [], alts := [], laidByText := true, laidKinds := [.data, .pinned], laidTests := true, laidLooks := .later }
def FsChmodsUptoCardSaid : Prop := Claim7.holds Tryz.pinned (.plain (OpenSpec.upto fsChmodsSpec)) fsChmodsUptoCard

/-- THE SECOND FORM's CARD OF 'gripsacklaw19.FsSticky'. -/
def fsStickyUptoCard : Claim7 := { stood := { row := fsStickyUptoRow, standIns := [], harness := (true, "d981b3fcd43169a3df347391cb283f66a39b187c14fc00bbff46b1934d8c6595"), looks := true }, kinds := [], alts := [], laidByText := true, laidKinds := [.data, .pinned], laidTests := true, laidLooks := .later }
def FsStickyUptoCardSaid : Prop := Claim7.holds Tryz.pinned (.plain (OpenSpec.upto fsStickySpec)) fsStickyUptoCard

/-- THE SECOND FORM's CARD OF 'gripsacklaw19.FsRoom'. -/
def fsRoomUptoCard : Claim7 := { stood := { row := fsRoomUptoRow, standIns := [], harness := (true, "d981b3fcd43169a3df347391cb283f66a39b187c14fc00bbff46b1934d8c6595"), looks := true }, kinds := [], alts := [], laidByText := true, laidKinds := [.data, .pinned], laidTests := true, laidLooks := .later }
def FsRoomUptoCardSaid : Prop := Claim7.holds Tryz.pinned (.plain (OpenSpec.upto fsRoomSpec)) fsRoomUptoCard

/-- THE SECOND FORM's CARD OF 'gripsacklaw19.FsLinks'. -/
def fsLinksUptoCard : Claim7 := { stood := { row := fsLinksUptoRow, standIns := [], harness := (true, "d981b3fcd43169a3df347391cb283f66a39b187c14fc00bbff46b1934d8c6595"), looks := true }, kinds := [], alts := [], laidByText := true, laidKinds := [.data, .pinned], laidTests := true, laidLooks := .later }
def FsLinksUptoCardSaid : Prop := Claim7.holds Tryz.pinned (.plain (OpenSpec.upto fsLinksSpec)) fsLinksUptoCard

/-- THE SECOND FORM's CARD OF 'gripsacklaw19.FsDenied'. -/
def fsDeniedUptoCard : Claim7 := { stood := { row := fsDeniedUptoRow, standIns := [], harness := (true, "d981b3fcd43169a3df347391cb283f66a39b187c14fc00bbff46b1934d8c6595"), looks := true }, kinds := [], alts := [], laidByText := true, laidKinds := [.data, .pinned], laidTests := true, laidLooks := .later }
def FsDeniedUptoCardSaid : Prop := Claim7.holds Tryz.pinned (.plain (OpenSpec.upto fsDeniedSpec)) fsDeniedUptoCard

/-- THE SECOND FORM's CARD OF 'gripsacklaw19.FsRuns'. -/
def fsRunsUptoCard : Claim7 := { stood := { row := fsRunsUptoRow, standIns := [], harness := (true, "d981b3fcd43169a3df347391cb283f66a39b187c14fc00bbff46b1934d8c6595"), looks := true }, kinds := [], alts := [], laidByText := true, laidKinds := [.data, .pinned], laidTests := true, laidLooks := .later }
def FsRunsUptoCardSaid : Prop := Claim7.holds Tryz.pinned (.plain (OpenSpec.upto fsRunsSpec)) fsRunsUptoCard

/-- THE SECOND FORM's CARD OF 'gripsacklaw19.FsErrors'. -/
def fsErrorsUptoCard : Claim7 := { stood := { row := fsErrorsUptoRow, standIns := [], harness := (true, "d981b3fcd43169a3df347391cb283f66a39b187c14fc00bbff46b1934d8c6595"), looks := true }, kinds := [], alts := [], laidByText := true, laidKinds := [.data, .pinned], laidTests := true, laidLooks := .later }
def FsErrorsUptoCardSaid : Prop := Claim7.holds Tryz.pinned (.plain (OpenSpec.upto fsErrorsSpec)) fsErrorsUptoCard
end Rows
end Go.Proofs.YtkklflpfklbbcaaGreatDoor

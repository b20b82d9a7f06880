/-
  DERIVED. GIVEN WITH THE SEED: THE CARDS: each row of YtjjddmbnfkmfdaaDoorRows.lean that lists a variable, with what it lists TIED to the program's text (the seventh form; the later family's looks); each row that meets fmt, with fmt's text TOLD by the authors' own Lean function (tested against real Go, not proved from fmt's source: count such statements apart). THE CARD IS WHAT COUNTS. Prove the row's statement (the work); the ties are given (YtjjddmbnfkmfdaaDoorTie.lean); close each card by the builder's one call (the guide's Derived/Test/ToyasCard.lean, 'card_holds'). Laid BY PROGRAM, IN A SANDBOX (cutbox-door.mjs). By AI agents, Wed Nov 11 2026. No macro, syntax, notation, axiom, sorry.
-/
import Derived.Test.YtjjddmbnfkmfdaaDoorRows
import GoSem.ClaimSeven
namespace Go.Proofs.YtjjddmbnfkmfdaaDoor
namespace Rows

/-- THE TIED CARD OF 'gripsacklaw10.WideAll'. -/
def wideAllCard : Claim7 := { stood := { row := wideAllRow, standIns := [], harness := (true, "295c7ce2ed9d01b44ddd28d7258f30f86bd5f6c6b9d5a650330004b35dca0651"), looks := true }, kinds := [], alts := [], laidByText := true, laidKinds := [.data, .pinned], laidTests := true, laidLooks := .later }
def WideAllCardSaid : Prop := Claim7.holds Tryd.pinned (.plain (OpenSpec.ofChange wideAllSpec)) wideAllCard

/-- THE TIED CARD OF 'gripsacklaw10.WideBack'. -/
def wideBackCard : Claim7 := { stood := { row := wideBackRow, standIns := [], harness := (true, "295c7ce2ed9d01b44ddd28d7258f30f86bd5f6c6b9d5a650330004b35dca0651"), looks := true }, kinds := [], alts := [], laidByText := true, laidKinds := [.data, .pinned], laidTests := true, laidLooks := .later }
def WideBackCardSaid : Prop := Claim7.holds Tryd.pinned (.plain (OpenSpec.ofChange wideBackSpec)) wideBackCard

/-- THE TIED CARD OF 'gripsacklaw10.WideKnown'. -/
def wideKnownCard : Claim7 := { stood := { row := wideKnownRow, standIns := [], harness := (true, "295c7ce2ed9d01b44ddd28d7258f30f86bd5f6c6b9d5a650330004b35dca0651"), looks := true }, kinds := [], alts := [], laidByText := true, laidKinds := [.data, .pinned], laidTests := true, laidLooks := .later }
def WideKnownCardSaid : Prop := Claim7.holds Tryd.pinned (.plain (OpenSpec.ofChange wideKnownSpec)) wideKnownCard

/-- THE SECOND FORM's CARD OF 'gripsacklaw10.WideAll'. -/
def wideAllUptoCard : Claim7 := { stood := { row := wideAllUptoRow, standIns := [], harness := (true, "295c7ce2ed9d01b44ddd28d7258f30f86bd5f6c6b9d5a650330004b35dca0651"), looks := true }, kinds := [], alts := [], laidByText := true, laidKinds := [.data, .pinned], laidTests := true, laidLooks := .later }
def WideAllUptoCardSaid : Prop := Claim7.holds Tryd.pinned (.plain (OpenSpec.upto wideAllSpec)) wideAllUptoCard

/-- THE SECOND FORM's CARD OF 'gripsacklaw10.WideBack'. -/
def wideBackUptoCard : Claim7 := { stood := { row := wideBackUptoRow, standIns := [], harness := (true, "295c7ce2ed9d01b44ddd28d7258f30f86bd5f6c6b9d5a650330004b35dca0651"), looks := true }, kinds := [], alts := [], laidByText := true, laidKinds := [.data, .pinned], laidTests := true, laidLooks := .later }
def WideBackUptoCardSaid : Prop := Claim7.holds Tryd.pinned (.plain (OpenSpec.upto wideBackSpec)) wideBackUptoCard

/-- THE SECOND FORM's CARD OF 'gripsacklaw10.WideKnown'. -/
def wideKnownUptoCard : Claim7 := { stood := { row := wideKnownUptoRow, standIns := [], harness := (true, "295c7ce2ed9d01b44ddd28d7258f30f86bd5f6c6b9d5a650330004b35dca0651"), looks := true }, kinds := [], alts := [], laidByText := true, laidKinds := [.data, .pinned], laidTests := true, laidLooks := .later }
def WideKnownUptoCardSaid : Prop := Claim7.holds Tryd.pinned (.plain (OpenSpec.upto wideKnownSpec)) wideKnownUptoCard
end Rows
end Go.Proofs.YtjjddmbnfkmfdaaDoor

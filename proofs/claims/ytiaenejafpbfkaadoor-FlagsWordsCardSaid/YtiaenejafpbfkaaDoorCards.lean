/-
  DERIVED. GIVEN WITH THE SEED: THE CARDS: each row of YtiaenejafpbfkaaDoorRows.lean that lists a variable, with what it lists TIED to the program's text (the seventh form; the later family's looks); each row that meets fmt, with fmt's text TOLD by the authors' own Lean function (tested against real Go, not proved from fmt's source: count such statements apart). THE CARD IS WHAT COUNTS. Prove the row's statement (the work); the ties are given (YtiaenejafpbfkaaDoorTie.lean); close each card by the builder's one call (the guide's Derived/Test/ToyasCard.lean, 'card_holds'). Laid BY PROGRAM, IN A SANDBOX (cutbox-door.mjs). By AI agents, Wed Nov 11 2026. No macro, syntax, notation, axiom, sorry.
-/
import Derived.Test.YtiaenejafpbfkaaDoorRows
import GoSem.ClaimSeven
namespace Go.Proofs.YtiaenejafpbfkaaDoor
namespace Rows

/-- THE TIED CARD OF 'gripsacklaw22.SafeDeep'. -/
def safeDeepCard : Claim7 := { stood := { row := safeDeepRow, standIns := [], harness := (true, "0d3725af298be45c771285d3c9b4da763b55b1e38bf7f07af825f992337c6923"), looks := true }, kinds := [], alts := [], laidByText := true, laidKinds := [.data, .pinned], laidTests := true, laidLooks := .later }
def SafeDeepCardSaid : Prop := Claim7.holds Tryd.pinned (.plain (OpenSpec.ofChange safeDeepSpec)) safeDeepCard

/-- THE TIED CARD OF 'gripsacklaw22.SafeKnown'. -/
def safeKnownCard : Claim7 := { stood := { row := safeKnownRow, standIns := [], harness := (true, "0d3725af298be45c771285d3c9b4da763b55b1e38bf7f07af825f992337c6923"), looks := true }, kinds := [], alts := [], laidByText := true, laidKinds := [.data, .pinned], laidTests := true, laidLooks := .later }
def SafeKnownCardSaid : Prop := Claim7.holds Tryd.pinned (.plain (OpenSpec.ofChange safeKnownSpec)) safeKnownCard

/-- THE TIED CARD OF 'gripsacklaw22.SafeAll'. -/
def safeAllCard : Claim7 := { stood := { row := safeAllRow, standIns := [], harness := (true, "0d3725af298be45c771285d3c9b4da763b55b1e38bf7f07af825f992337c6923"), looks := true }, kinds := [], alts := [], laidByText := true, laidKinds := [.data, .pinned], laidTests := true, laidLooks := .later }
def SafeAllCardSaid : Prop := Claim7.holds Tryd.pinned (.plain (OpenSpec.ofChange safeAllSpec)) safeAllCard

/-- THE TIED CARD OF 'gripsacklaw22.SafeMade'. -/
def safeMadeCard : Claim7 := { stood := { row := safeMadeRow, standIns := [], harness := (true, "0d3725af298be45c771285d3c9b4da763b55b1e38bf7f07af825f992337c6923"), looks := true }, kinds := [], alts := [], laidByText := true, laidKinds := [.data, .pinned], laidTests := true, laidLooks := .later }
def SafeMadeCardSaid : Prop := Claim7.holds Tryd.pinned (.plain (OpenSpec.ofChange safeMadeSpec)) safeMadeCard

/-- THE TIED CARD OF 'gripsacklaw22.SafeEntries'. -/
def safeEntriesCard : Claim7 := { stood := { row := safeEntriesRow, standIns := [], harness := (true, "0d3725af298be45c771285d3c9b4da763b55b1e38bf7f07af825f992337c6923"), looks := true }, kinds := [], alts := [], laidByText := true, laidKinds := [.data, .pinned], laidTests := true, laidLooks := .later }
def SafeEntriesCardSaid : Prop := Claim7.holds Tryd.pinned (.plain (OpenSpec.ofChange safeEntriesSpec)) safeEntriesCard

/-- THE TIED CARD OF 'gripsacklaw12.FlagsAll'. -/
def flagsAllCard : Claim7 := { stood := { row := flagsAllRow, standIns := [], harness := (true, "0d3725af298be45c771285d3c9b4da763b55b1e38bf7f07af825f992337c6923"), looks := true }, kinds := [], alts := [], laidByText := true, laidKinds := [.data, .pinned], laidTests := true, laidLooks := .later }
def FlagsAllCardSaid : Prop := Claim7.holds Tryd.pinned (.plain (OpenSpec.ofChange flagsAllSpec)) flagsAllCard

/-- THE TIED CARD OF 'gripsacklaw12.FlagsBack'. -/
def flagsBackCard : Claim7 := { stood := { row := flagsBackRow, standIns := [], harness := (true, "0d3725af298be45c771285d3c9b4da763b55b1e38bf7f07af825f992337c6923"), looks := true }, kinds := [], alts := [], laidByText := true, laidKinds := [.data, .pinned], laidTests := true, laidLooks := .later }
def FlagsBackCardSaid : Prop := Claim7.holds Tryd.pinned (.plain (OpenSpec.ofChange flagsBackSpec)) flagsBackCard

/-- THE TIED CARD OF 'gripsacklaw12.FlagsWords'. -/
def flagsWordsCard : Claim7 := { stood := { row := flagsWordsRow, standIns := [], harness := (true, "0d3725af298be45c771285d3c9b4da763b55b1e38bf7f07af825f992337c6923"), looks := true }, kinds := [], alts := [], laidByText := true, laidKinds := [.data, .pinned], laidTests := true, laidLooks := .later }
def FlagsWordsCardSaid : Prop := Claim7.holds Tryd.pinned (.plain (OpenSpec.ofChange flagsWordsSpec)) flagsWordsCard

/-- THE SECOND FORM's CARD OF 'gripsacklaw22.SafeDeep'. -/
def safeDeepUptoCard : Claim7 := { stood := { row := safeDeepUptoRow, standIns := [], harness := (true, "0d3725af298be45c771285d3c9b4da763b55b1e38bf7f07af825f992337c6923"), looks := true }, kinds := [], alts := [], laidByText := true, laidKinds := [.data, .pinned], laidTests := true, laidLooks := .later }
def SafeDeepUptoCardSaid : Prop := Claim7.holds Tryd.pinned (.plain (OpenSpec.upto safeDeepSpec)) safeDeepUptoCard

/-- THE SECOND FORM's CARD OF 'gripsacklaw22.SafeKnown'. -/
def safeKnownUptoCard : Claim7 := { stood := { row := safeKnownUptoRow, standIns := [], harness := (true, "0d3725af298be45c771285d3c9b4da763b55b1e38bf7f07af825f992337c6923"), looks := true }, kinds := [], alts := [], laidByText := true, laidKinds := [.data, .pinned], laidTests := true, laidLooks := .later }
def SafeKnownUptoCardSaid : Prop := Claim7.holds Tryd.pinned (.plain (OpenSpec.upto safeKnownSpec)) safeKnownUptoCard

/-- THE SECOND FORM's CARD OF 'gripsacklaw22.SafeAll'. -/
def safeAllUptoCard : Claim7 := { stood := { row := safeAllUptoRow, standIns := [], harness := (true, "0d3725af298be45c771285d3c9b4da763b55b1e38bf7f07af825f992337c6923"), looks := true }, kinds := [], alts := [], laidByText := true, laidKinds := [.data, .pinned], laidTests := true, laidLooks := .later }
def SafeAllUptoCardSaid : Prop := Claim7.holds Tryd.pinned (.plain (OpenSpec.upto safeAllSpec)) safeAllUptoCard

/-- THE SECOND FORM's CARD OF 'gripsacklaw22.SafeMade'. -/
def safeMadeUptoCard : Claim7 := { stood := { row := safeMadeUptoRow, standIns := [], harness := (true, "0d3725af298be45c771285d3c9b4da763b55b1e38bf7f07af825f992337c6923"), looks := true }, kinds := [], alts := [], laidByText := true, laidKinds := [.data, .pinned], laidTests := true, laidLooks := .later }
def SafeMadeUptoCardSaid : Prop := Claim7.holds Tryd.pinned (.plain (OpenSpec.upto safeMadeSpec)) safeMadeUptoCard

/-- THE SECOND FORM's CARD OF 'gripsacklaw22.SafeEntries'. -/
def safeEntriesUptoCard : Claim7 := { stood := { row := safeEntriesUptoRow, standIns := [], harness := (true, "0d3725af298be45c771285d3c9b4da763b55b1e38bf7f07af825f992337c6923"), looks := true }, kinds := [], alts := [], laidByText := true, laidKinds := [.data, .pinned], laidTests := true, laidLooks := .later }
def SafeEntriesUptoCardSaid : Prop := Claim7.holds Tryd.pinned (.plain (OpenSpec.upto safeEntriesSpec)) safeEntriesUptoCard

/-- THE SECOND FORM's CARD OF 'gripsacklaw12.FlagsAll'. -/
def flagsAllUptoCard : Claim7 := { stood := { row := flagsAllUptoRow, standIns := [], harness := (true, "0d3725af298be45c771285d3c9b4da763b55b1e38bf7f07af825f992337c6923"), looks := true }, kinds := [], alts := [], laidByText := true, laidKinds := [.data, .pinned], laidTests := true, laidLooks := .later }
def FlagsAllUptoCardSaid : Prop := Claim7.holds Tryd.pinned (.plain (OpenSpec.upto flagsAllSpec)) flagsAllUptoCard

/-- THE SECOND FORM's CARD OF 'gripsacklaw12.FlagsBack'. -/
def flagsBackUptoCard : Claim7 := { stood := { row := flagsBackUptoRow, standIns := [], harness := (true, "0d3725af298be45c771285d3c9b4da763b55b1e38bf7f07af825f992337c6923"), looks := true }, kinds := [], alts := [], laidByText := true, laidKinds := [.data, .pinned], laidTests := true, laidLooks := .later }
def FlagsBackUptoCardSaid : Prop := Claim7.holds Tryd.pinned (.plain (OpenSpec.upto flagsBackSpec)) flagsBackUptoCard

/-- THE SECOND FORM's CARD OF 'gripsacklaw12.FlagsWords'. -/
def flagsWordsUptoCard : Claim7 := { stood := { row := flagsWordsUptoRow, standIns := [], harness := (true, "0d3725af298be45c771285d3c9b4da763b55b1e38bf7f07af825f992337c6923"), looks := true }, kinds := [], alts := [], laidByText := true, laidKinds := [.data, .pinned], laidTests := true, laidLooks := .later }
def FlagsWordsUptoCardSaid : Prop := Claim7.holds Tryd.pinned (.plain (OpenSpec.upto flagsWordsSpec)) flagsWordsUptoCard
end Rows
end Go.Proofs.YtiaenejafpbfkaaDoor

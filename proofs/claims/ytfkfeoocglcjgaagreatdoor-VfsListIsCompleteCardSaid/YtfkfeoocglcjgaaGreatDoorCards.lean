/-
  DERIVED. GIVEN WITH THE SEED: THE CARDS: each row of YtfkfeoocglcjgaaGreatDoorRows.lean that lists a variable, with what it lists TIED to the program's text (the seventh form; the later family's looks); each row that meets fmt, with fmt's text TOLD by the authors' own Lean function (tested against real Go, not proved from fmt's source: count such statements apart). THE CARD IS WHAT COUNTS. Prove the row's statement (the work); the ties are given (YtfkfeoocglcjgaaGreatDoorTie.lean); close each card by the builder's one call (the guide's Derived/Test/ToyasCard.lean, 'card_holds'). Laid BY PROGRAM, IN A SANDBOX (cutbox-door.mjs). By AI agents, Wed Nov 11 2026. No macro, syntax, notation, axiom, sorry.
-/
import Derived.Test.YtfkfeoocglcjgaaGreatDoorRows
import GoSem.ClaimSeven
namespace Go.Proofs.YtfkfeoocglcjgaaGreatDoor
namespace Rows

/-- THE TIED CARD OF 'paxtarlaw19.VfsMatchesReference'. -/
def vfsMatchesReferenceCard : Claim7 := { stood := { row := vfsMatchesReferenceRow, standIns := [], harness := (true, "f7115c1a4c6b5dba946ab7ff2ed522be4db7dca1d77676c28d40e0576603de7d"), looks := true }, kinds := [], alts := [], laidByText := true, laidKinds := [.data, .data, .data, .sentinel, .sentinel, .widerDeep], laidTests := true, laidLooks := .later }
def VfsMatchesReferenceCardSaid : Prop := Claim7.holds Tryz.pinned (.plain (OpenSpec.ofChange vfsMatchesReferenceSpec)) vfsMatchesReferenceCard

/-- THE TIED CARD OF 'paxtarlaw19.VfsListIsComplete'. -/
def vfsListIsCompleteCard : Claim7 := { stood := { row := vfsListIsCompleteRow, standIns := [], harness := (true, "f7115c1a4c6b5dba946ab7ff2ed522be4db7dca1d77676c28d40e0576603de7d"), looks := true }, kinds := [], alts := [], laidByText := true, laidKinds := [.data, .data, .data, .sentinel, .sentinel, .widerDeep], laidTests := true, laidLooks := .later }
def VfsListIsCompleteCardSaid : Prop := Claim7.holds Tryz.pinned (.plain (OpenSpec.ofChange vfsListIsCompleteSpec)) vfsListIsCompleteCard

/-- THE SECOND FORM's CARD OF 'paxtarlaw19.VfsMatchesReference'. -/
def vfsMatchesReferenceUptoCard : Claim7 := { stood := { row := vfsMatchesReferenceUptoRow, standIns := [], harness := (true, "f7115c1a4c6b5dba946ab7ff2ed522be4db7dca1d77676c28d40e0576603de7d"), looks := true }, kinds := [], alts := [], laidByText := true, laidKinds := [.data, .data, .data, .sentinel, .sentinel, .widerDeep], laidTests := true, laidLooks := .later }
def VfsMatchesReferenceUptoCardSaid : Prop := Claim7.holds Tryz.pinned (.plain (OpenSpec.upto vfsMatchesReferenceSpec)) vfsMatchesReferenceUptoCard

/-- THE SECOND FORM's CARD OF 'paxtarlaw19.VfsListIsComplete'. -/
def vfsListIsCompleteUptoCard : Claim7 := { stood := { row := vfsListIsCompleteUptoRow, standIns := [], harness := (true, "f7115c1a4c6b5dba946ab7ff2ed522be4db7dca1d77676c28d40e0576603de7d"), looks := true }, kinds := [], alts := [], laidByText := true, laidKinds := [.data, .data, .data, .sentinel, .sentinel, .widerDeep], laidTests := true, laidLooks := .later }
def VfsListIsCompleteUptoCardSaid : Prop := Claim7.holds Tryz.pinned (.plain (OpenSpec.upto vfsListIsCompleteSpec)) vfsListIsCompleteUptoCard
end Rows
end Go.Proofs.YtfkfeoocglcjgaaGreatDoor

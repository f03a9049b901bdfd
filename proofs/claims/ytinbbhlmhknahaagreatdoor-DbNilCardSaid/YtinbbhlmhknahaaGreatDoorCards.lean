/-
  DERIVED. GIVEN WITH THE SEED: THE CARDS: each row of YtinbbhlmhknahaaGreatDoorRows.lean that lists a variable, with what it lists TIED to the program's text (the seventh form; the later family's looks); each row that meets fmt, with fmt's text TOLD by the authors' own Lean function (tested against real Go, not proved from fmt's source: count such statements apart). THE CARD IS WHAT COUNTS. Prove the row's statement (the work); the ties are given (YtinbbhlmhknahaaGreatDoorTie.lean); close each card by the builder's one call (the guide's Derived/Test/ToyasCard.lean, 'card_holds'). Laid BY PROGRAM, IN A SANDBOX (cutbox-door.mjs). By AI agents, Wed Nov 11 2026. No macro, syntax, notation, axiom, sorry.
-/
import Derived.Test.YtinbbhlmhknahaaGreatDoorRows
import GoSem.ClaimSeven
namespace Go.Proofs.YtinbbhlmhknahaaGreatDoor
namespace Rows

/-- THE TIED CARD OF 'halyardlaw19.DbNil'. -/
def dbNilCard : Claim7 := { stood := { row := dbNilRow, standIns := [], harness := (true, "690428f89330b9e2e17a3fa71589bc1dcb8b884c8c06b05009cfb7e1249e8f6b"), looks := true }, kinds := [], alts := [], laidByText := true, laidKinds := [.data, .data, .data, .sentinel, .sentinel], laidTests := true, laidLooks := .later }
def DbNilCardSaid : Prop := Claim7.holds Tryz.pinned (.plain (OpenSpec.ofChange dbNilSpec)) dbNilCard

/-- THE SECOND FORM's CARD OF 'halyardlaw19.DbNil'. -/
def dbNilUptoCard : Claim7 := { stood := { row := dbNilUptoRow, standIns := [], harness := (true, "690428f89330b9e2e17a3fa71589bc1dcb8b884c8c06b05009cfb7e1249e8f6b"), looks := true }, kinds := [], alts := [], laidByText := true, laidKinds := [.data, .data, .data, .sentinel, .sentinel], laidTests := true, laidLooks := .later }
def DbNilUptoCardSaid : Prop := Claim7.holds Tryz.pinned (.plain (OpenSpec.upto dbNilSpec)) dbNilUptoCard
end Rows
end Go.Proofs.YtinbbhlmhknahaaGreatDoor

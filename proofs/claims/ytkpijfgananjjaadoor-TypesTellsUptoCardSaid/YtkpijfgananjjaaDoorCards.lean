/-
  DERIVED. GIVEN WITH THE SEED: THE CARDS: each row of YtkpijfgananjjaaDoorRows.lean that lists a variable, with what it lists TIED to the program's text (the seventh form; the later family's looks); each row that meets fmt, with fmt's text TOLD by the authors' own Lean function (tested against real Go, not proved from fmt's source: count such statements apart). THE CARD IS WHAT COUNTS. Prove the row's statement (the work); the ties are given (YtkpijfgananjjaaDoorTie.lean); close each card by the builder's one call (the guide's Derived/Test/ToyasCard.lean, 'card_holds'). Laid BY PROGRAM, IN A SANDBOX (cutbox-door.mjs). By AI agents, Wed Nov 11 2026. No macro, syntax, notation, axiom, sorry.
-/
import Derived.Test.YtkpijfgananjjaaDoorRows
import GoSem.ClaimSeven
namespace Go.Proofs.YtkpijfgananjjaaDoor
namespace Rows

/-- THE TIED CARD OF 'grapnellaw10.TypesTells'. -/
def typesTellsCard : Claim7 := { stood := { row := typesTellsRow, standIns := [], harness := (true, "0b308344aa422d64bec313dcf62b0d32735edc6d74b22968a714483675e4c1b9"), looks := false }, kinds := [], alts := [], laidByText := true, laidKinds := [.data, .data, .data], laidTests := true, laidLooks := .later }
def TypesTellsCardSaid : Prop := Claim7.holds Tryd.pinned (.plain (OpenSpec.ofChange typesTellsSpec)) typesTellsCard

/-- THE SECOND FORM's CARD OF 'grapnellaw10.TypesTells'. -/
def typesTellsUptoCard : Claim7 := { stood := { row := typesTellsUptoRow, standIns := [], harness := (true, "0b308344aa422d64bec313dcf62b0d32735edc6d74b22968a714483675e4c1b9"), looks := false }, kinds := [], alts := [], laidByText := true, laidKinds := [.data, .data, .data], laidTests := true, laidLooks := .later }
def TypesTellsUptoCardSaid : Prop := Claim7.holds Tryd.pinned (.plain (OpenSpec.upto typesTellsSpec)) typesTellsUptoCard
end Rows
end Go.Proofs.YtkpijfgananjjaaDoor

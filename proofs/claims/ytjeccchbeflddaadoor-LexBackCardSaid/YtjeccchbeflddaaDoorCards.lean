/-
  DERIVED. GIVEN WITH THE SEED: THE CARDS: each row of YtjeccchbeflddaaDoorRows.lean that lists a variable, with what it lists TIED to the program's text (the seventh form; the later family's looks); each row that meets fmt, with fmt's text TOLD by the authors' own Lean function (tested against real Go, not proved from fmt's source: count such statements apart). THE CARD IS WHAT COUNTS. Prove the row's statement (the work); the ties are given (YtjeccchbeflddaaDoorTie.lean); close each card by the builder's one call (the guide's Derived/Test/ToyasCard.lean, 'card_holds'). Laid BY PROGRAM, IN A SANDBOX (cutbox-door.mjs). By AI agents, Wed Nov 11 2026. No macro, syntax, notation, axiom, sorry.
-/
import Derived.Test.YtjeccchbeflddaaDoorRows
import GoSem.ClaimSeven
namespace Go.Proofs.YtjeccchbeflddaaDoor
namespace Rows

/-- THE TIED CARD OF 'grapnellaw07.LexTexts'. -/
def lexTextsCard : Claim7 := { stood := { row := lexTextsRow, standIns := [], harness := (true, "914661286025fe0ac569a4106f814ee84c6f17fff805e2f18c3c5adf1266d368"), looks := true }, kinds := [], alts := [], laidByText := true, laidKinds := [.data, .data, .data, .data, .sentinel, .sentinel, .listed, .data, .pinned], laidTests := true, laidLooks := .later }
def LexTextsCardSaid : Prop := Claim7.holds Tryd.pinned (.plain (OpenSpec.ofChange lexTextsSpec)) lexTextsCard

/-- THE TIED CARD OF 'grapnellaw07.LexBack'. -/
def lexBackCard : Claim7 := { stood := { row := lexBackRow, standIns := [], harness := (true, "914661286025fe0ac569a4106f814ee84c6f17fff805e2f18c3c5adf1266d368"), looks := true }, kinds := [], alts := [], laidByText := true, laidKinds := [.data, .data, .data, .data, .sentinel, .sentinel, .listed, .data, .pinned], laidTests := true, laidLooks := .later }
def LexBackCardSaid : Prop := Claim7.holds Tryd.pinned (.plain (OpenSpec.ofChange lexBackSpec)) lexBackCard

/-- THE TIED CARD OF 'grapnellaw07.LexParts'. -/
def lexPartsCard : Claim7 := { stood := { row := lexPartsRow, standIns := [], harness := (true, "914661286025fe0ac569a4106f814ee84c6f17fff805e2f18c3c5adf1266d368"), looks := true }, kinds := [], alts := [], laidByText := true, laidKinds := [.data, .data, .data, .data, .sentinel, .sentinel, .listed, .data, .pinned], laidTests := true, laidLooks := .later }
def LexPartsCardSaid : Prop := Claim7.holds Tryd.pinned (.plain (OpenSpec.ofChange lexPartsSpec)) lexPartsCard

/-- THE TIED CARD OF 'grapnellaw07.LexGaps'. -/
def lexGapsCard : Claim7 := { stood := { row := lexGapsRow, standIns := [], harness := (true, "914661286025fe0ac569a4106f814ee84c6f17fff805e2f18c3c5adf1266d368"), looks := true }, kinds := [], alts := [], laidByText := true, laidKinds := [.data, .data, .data, .data, .sentinel, .sentinel, .listed, .data, .pinned], laidTests := true, laidLooks := .later }
def LexGapsCardSaid : Prop := Claim7.holds Tryd.pinned (.plain (OpenSpec.ofChange lexGapsSpec)) lexGapsCard

/-- THE TIED CARD OF 'grapnellaw07.LexJoins'. -/
def lexJoinsCard : Claim7 := { stood := { row := lexJoinsRow, standIns := [], harness := (true, "914661286025fe0ac569a4106f814ee84c6f17fff805e2f18c3c5adf1266d368"), looks := true }, kinds := [], alts := [], laidByText := true, laidKinds := [.data, .data, .data, .data, .sentinel, .sentinel, .listed, .data, .pinned], laidTests := true, laidLooks := .later }
def LexJoinsCardSaid : Prop := Claim7.holds Tryd.pinned (.plain (OpenSpec.ofChange lexJoinsSpec)) lexJoinsCard

/-- THE TIED CARD OF 'grapnellaw07.LexCuts'. -/
def lexCutsCard : Claim7 := { stood := { row := lexCutsRow, standIns := [], harness := (true, "914661286025fe0ac569a4106f814ee84c6f17fff805e2f18c3c5adf1266d368"), looks := true }, kinds := [], alts := [], laidByText := true, laidKinds := [.data, .data, .data, .data, .sentinel, .sentinel, .listed, .data, .pinned], laidTests := true, laidLooks := .later }
def LexCutsCardSaid : Prop := Claim7.holds Tryd.pinned (.plain (OpenSpec.ofChange lexCutsSpec)) lexCutsCard

/-- THE SECOND FORM's CARD OF 'grapnellaw07.LexTexts'. -/
def lexTextsUptoCard : Claim7 := { stood := { row := lexTextsUptoRow, standIns := [], harness := (true, "914661286025fe0ac569a4106f814ee84c6f17fff805e2f18c3c5adf1266d368"), looks := true }, kinds := [], alts := [], laidByText := true, laidKinds := [.data, .data, .data, .data, .sentinel, .sentinel, .listed, .data, .pinned], laidTests := true, laidLooks := .later }
def LexTextsUptoCardSaid : Prop := Claim7.holds Tryd.pinned (.plain (OpenSpec.upto lexTextsSpec)) lexTextsUptoCard

/-- THE SECOND FORM's CARD OF 'grapnellaw07.LexBack'. -/
def lexBackUptoCard : Claim7 := { stood := { row := lexBackUptoRow, standIns := [], harness := (true, "914661286025fe0ac569a4106f814ee84c6f17fff805e2f18c3c5adf1266d368"), looks := true }, kinds := [], alts := [], laidByText := true, laidKinds := [.data, .data, .data, .data, .sentinel, .sentinel, .listed, .data, .pinned], laidTests := true, laidLooks := .later }
def LexBackUptoCardSaid : Prop := Claim7.holds Tryd.pinned (.plain (OpenSpec.upto lexBackSpec)) lexBackUptoCard

/-- THE SECOND FORM's CARD OF 'grapnellaw07.LexParts'. -/
def lexPartsUptoCard : Claim7 := { stood := { row := lexPartsUptoRow, standIns := [], harness := (true, "914661286025fe0ac569a4106f814ee84c6f17fff805e2f18c3c5adf1266d368"), looks := true }, kinds := [], alts := [], laidByText := true, laidKinds := [.data, .data, .data, .data, .sentinel, .sentinel, .listed, .data, .pinned], laidTests := true, laidLooks := .later }
def LexPartsUptoCardSaid : Prop := Claim7.holds Tryd.pinned (.plain (OpenSpec.upto lexPartsSpec)) lexPartsUptoCard

/-- THE SECOND FORM's CARD OF 'grapnellaw07.LexGaps'. -/
def lexGapsUptoCard : Claim7 := { stood := { row := lexGapsUptoRow, standIns := [], harness := (true, "914661286025fe0ac569a4106f814ee84c6f17fff805e2f18c3c5adf1266d368"), looks := true }, kinds := [], alts := [], laidByText := true, laidKinds := [.data, .data, .data, .data, .sentinel, .sentinel, .listed, .data, .pinned], laidTests := true, laidLooks := .later }
def LexGapsUptoCardSaid : Prop := Claim7.holds Tryd.pinned (.plain (OpenSpec.upto lexGapsSpec)) lexGapsUptoCard

/-- THE SECOND FORM's CARD OF 'grapnellaw07.LexJoins'. -/
def lexJoinsUptoCard : Claim7 := { stood := { row := lexJoinsUptoRow, standIns := [], harness := (true, "914661286025fe0ac569a4106f814ee84c6f17fff805e2f18c3c5adf1266d368"), looks := true }, kinds := [], alts := [], laidByText := true, laidKinds := [.data, .data, .data, .data, .sentinel, .sentinel, .listed, .data, .pinned], laidTests := true, laidLooks := .later }
def LexJoinsUptoCardSaid : Prop := Claim7.holds Tryd.pinned (.plain (OpenSpec.upto lexJoinsSpec)) lexJoinsUptoCard

/-- THE SECOND FORM's CARD OF 'grapnellaw07.LexCuts'. -/
def lexCutsUptoCard : Claim7 := { stood := { row := lexCutsUptoRow, standIns := [], harness := (true, "914661286025fe0ac569a4106f814ee84c6f17fff805e2f18c3c5adf1266d368"), looks := true }, kinds := [], alts := [], laidByText := true, laidKinds := [.data, .data, .data, .data, .sentinel, .sentinel, .listed, .data, .pinned], laidTests := true, laidLooks := .later }
def LexCutsUptoCardSaid : Prop := Claim7.holds Tryd.pinned (.plain (OpenSpec.upto lexCutsSpec)) lexCutsUptoCard
end Rows
end Go.Proofs.YtjeccchbeflddaaDoor

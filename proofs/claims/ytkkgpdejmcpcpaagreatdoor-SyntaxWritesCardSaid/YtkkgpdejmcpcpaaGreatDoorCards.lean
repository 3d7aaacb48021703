/-
  DERIVED. GIVEN WITH THE SEED: THE CARDS: each row of YtkkgpdejmcpcpaaGreatDoorRows.lean that lists a variable, with what it lists TIED to the program's text (the seventh form; the later family's looks); each row that meets fmt, with fmt's text TOLD by the authors' own Lean function (tested against real Go, not proved from fmt's source: count such statements apart). THE CARD IS WHAT COUNTS. Prove the row's statement (the work); the ties are given (YtkkgpdejmcpcpaaGreatDoorTie.lean); close each card by the builder's one call (the guide's Derived/Test/ToyasCard.lean, 'card_holds'). Laid BY PROGRAM, IN A SANDBOX (cutbox-door.mjs). By AI agents, Wed Nov 11 2026. No macro, syntax, notation, axiom, sorry.
-/
import Derived.Test.YtkkgpdejmcpcpaaGreatDoorRows
import GoSem.ClaimSeven
namespace Go.Proofs.YtkkgpdejmcpcpaaGreatDoor
namespace Rows

/-- THE TIED CARD OF 'kinlaw20.SyntaxWrites'. -/
def syntaxWritesCard : Claim7 := { stood := { row := syntaxWritesRow, standIns := [], harness := (true, "809ffd782a039aee8c527228b2c37597ac63de18dc9ae980cfbd53420ac264b6"), looks := true }, kinds := [], alts := [], laidByText := true, laidKinds := [.handle], laidTests := true, laidLooks := .later }
def SyntaxWritesCardSaid : Prop := Claim7.holds Tryz.pinned (.plain (OpenSpec.ofChange syntaxWritesSpec)) syntaxWritesCard

/-- THE TIED CARD OF 'kinlaw20.SyntaxReads'. -/
def syntaxReadsCard : Claim7 := { stood := { row := syntaxReadsRow, standIns := [], harness := (true, "809ffd782a039aee8c527228b2c37597ac63de18dc9ae980cfbd53420ac264b6"), looks := true }, kinds := [], alts := [], laidByText := true, laidKinds := [.handle], laidTests := true, laidLooks := .later }
def SyntaxReadsCardSaid : Prop := Claim7.holds Tryz.pinned (.plain (OpenSpec.ofChange syntaxReadsSpec)) syntaxReadsCard

/-- THE SECOND FORM's CARD OF 'kinlaw20.SyntaxWrites'. -/
def syntaxWritesUptoCard : Claim7 := { stood := { row := syntaxWritesUptoRow, standIns := [], harness := (true, "809ffd782a039aee8c527228b2c37597ac63de18dc9ae980cfbd53420ac264b6"), looks := true }, kinds := [], alts := [], laidByText := true, laidKinds := [.handle], laidTests := true, laidLooks := .later }
def SyntaxWritesUptoCardSaid : Prop := Claim7.holds Tryz.pinned (.plain (OpenSpec.upto syntaxWritesSpec)) syntaxWritesUptoCard

/-- THE SECOND FORM's CARD OF 'kinlaw20.SyntaxReads'. -/
def syntaxReadsUptoCard : Claim7 := { stood := { row := syntaxReadsUptoRow, standIns := [], harness := (true, "809ffd782a039aee8c527228b2c37597ac63de18dc9ae980cfbd53420ac264b6"), looks := true }, kinds := [], alts := [], laidByText := true, laidKinds := [.handle], laidTests := true, laidLooks := .later }
def SyntaxReadsUptoCardSaid : Prop := Claim7.holds Tryz.pinned (.plain (OpenSpec.upto syntaxReadsSpec)) syntaxReadsUptoCard
end Rows
end Go.Proofs.YtkkgpdejmcpcpaaGreatDoor

/-
  DERIVED. GIVEN WITH THE SEED: THE CARDS: each row of YtkkohgaaemgojaaGreatDoorRows.lean that lists a variable, with what it lists TIED to the program's text (the seventh form; the later family's looks); each row that meets fmt, with fmt's text TOLD by the authors' own Lean function (tested against real Go, not proved from fmt's source: count such statements apart). THE CARD IS WHAT COUNTS. Prove the row's statement (the work); the ties are given (YtkkohgaaemgojaaGreatDoorTie.lean); close each card by the builder's one call (the guide's Derived/Test/ToyasCard.lean, 'card_holds'). Laid BY PROGRAM, IN A SANDBOX (cutbox-door.mjs). By AI agents, Wed Nov 11 2026. No macro, syntax, notation, axiom, sorry.
-/
import Derived.Test.YtkkohgaaemgojaaGreatDoorRows
import GoSem.ClaimSeven
namespace Go.Proofs.YtkkohgaaemgojaaGreatDoor
namespace Rows

/-- THE TIED CARD OF 'truantlaw29.CountSums'. -/
def countSumsCard : Claim7 := { stood := { row := countSumsRow, standIns := [], harness := (true, "76a2a0cc454c86ef417ba3e987eb140a8521ddfb76ce24d32bec4c8535c0d261"), looks := true }, kinds := [], alts := [], laidByText := true, laidKinds := [.pinned, .data, .sentinel, .sentinel, .data, .data, .data], laidTests := true, laidLooks := .later }
def CountSumsCardSaid : Prop := Claim7.holds Tryz.pinned (.plain (OpenSpec.ofChange countSumsSpec)) countSumsCard

/-- THE TIED CARD OF 'truantlaw29.CountJoins'. -/
def countJoinsCard : Claim7 := { stood := { row := countJoinsRow, standIns := [], harness := (true, "76a2a0cc454c86ef417ba3e987eb140a8521ddfb76ce24d32bec4c8535c0d261"), looks := true }, kinds := [], alts := [], laidByText := true, laidKinds := [.pinned, .data, .sentinel, .sentinel, .data, .data, .data], laidTests := true, laidLooks := .later }
def CountJoinsCardSaid : Prop := Claim7.holds Tryz.pinned (.plain (OpenSpec.ofChange countJoinsSpec)) countJoinsCard

/-- THE SECOND FORM's CARD OF 'truantlaw29.CountSums'. -/
def countSumsUptoCard : Claim7 := { stood := { row := countSumsUptoRow, standIns := [], harness := (true, "76a2a0cc454c86ef417ba3e987eb140a8521ddfb76ce24d32bec4c8535c0d261"), looks := true }, kinds := [], alts := [], laidByText := true, laidKinds := [.pinned, .data, .sentinel, .sentinel, .data, .data, .data], laidTests := true, laidLooks := .later }
def CountSumsUptoCardSaid : Prop := Claim7.holds Tryz.pinned (.plain (OpenSpec.upto countSumsSpec)) countSumsUptoCard

/-- THE SECOND FORM's CARD OF 'truantlaw29.CountJoins'. -/
def countJoinsUptoCard : Claim7 := { stood := { row := countJoinsUptoRow, standIns := [], harness := (true, "76a2a0cc454c86ef417ba3e987eb140a8521ddfb76ce24d32bec4c8535c0d261"), looks := true }, kinds := [], alts := [], laidByText := true, laidKinds := [.pinned, .data, .sentinel, .sentinel, .data, .data, .data], laidTests := true, laidLooks := .later }
def CountJoinsUptoCardSaid : Prop := Claim7.holds Tryz.pinned (.plain (OpenSpec.upto countJoinsSpec)) countJoinsUptoCard
end Rows
end Go.Proofs.YtkkohgaaemgojaaGreatDoor

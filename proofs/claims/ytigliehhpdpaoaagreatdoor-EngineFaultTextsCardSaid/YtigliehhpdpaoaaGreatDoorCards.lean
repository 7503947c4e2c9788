/-
  DERIVED. GIVEN WITH THE SEED: THE CARDS: each row of YtigliehhpdpaoaaGreatDoorRows.lean that lists a variable, with what it lists TIED to the program's text (the seventh form; the later family's looks); each row that meets fmt, with fmt's text TOLD by the authors' own Lean function (tested against real Go, not proved from fmt's source: count such statements apart). THE CARD IS WHAT COUNTS. Prove the row's statement (the work); the ties are given (YtigliehhpdpaoaaGreatDoorTie.lean); close each card by the builder's one call (the guide's Derived/Test/ToyasCard.lean, 'card_holds'). Laid BY PROGRAM, IN A SANDBOX (cutbox-door.mjs). By AI agents, Wed Nov 11 2026. No macro, syntax, notation, axiom, sorry.
-/
import Derived.Test.YtigliehhpdpaoaaGreatDoorRows
import GoSem.ClaimSeven
namespace Go.Proofs.YtigliehhpdpaoaaGreatDoor
namespace Rows

/-- THE TIED CARD OF 'shoeboxlaw09.EngineFaultTexts'. -/
def engineFaultTextsCard : Claim7 := { stood := { row := engineFaultTextsRow, standIns := [], harness := (true, "2c5110026f25f7d557e51877979d59562138cae790c9a1678f0c623f552ba84f"), looks := true }, kinds := [], alts := [], laidByText := true, laidKinds := [.data, .data, .data, .sentinel, .sentinel], laidTests := true, laidLooks := .later }
def EngineFaultTextsCardSaid : Prop := Claim7.holds Tryz.pinned (.plain (OpenSpec.ofChange engineFaultTextsSpec)) engineFaultTextsCard

/-- THE SECOND FORM's CARD OF 'shoeboxlaw09.EngineFaultTexts'. -/
def engineFaultTextsUptoCard : Claim7 := { stood := { row := engineFaultTextsUptoRow, standIns := [], harness := (true, "2c5110026f25f7d557e51877979d59562138cae790c9a1678f0c623f552ba84f"), looks := true }, kinds := [], alts := [], laidByText := true, laidKinds := [.data, .data, .data, .sentinel, .sentinel], laidTests := true, laidLooks := .later }
def EngineFaultTextsUptoCardSaid : Prop := Claim7.holds Tryz.pinned (.plain (OpenSpec.upto engineFaultTextsSpec)) engineFaultTextsUptoCard
end Rows
end Go.Proofs.YtigliehhpdpaoaaGreatDoor

/-
  DERIVED. GIVEN WITH THE SEED: THE CARDS: each row of YtcklfboglnfepaaDoorRows.lean that lists a variable, with what it lists TIED to the program's text (the seventh form; the later family's looks); each row that meets fmt, with fmt's text TOLD by the authors' own Lean function (tested against real Go, not proved from fmt's source: count such statements apart). THE CARD IS WHAT COUNTS. Prove the row's statement (the work); the ties are given (YtcklfboglnfepaaDoorTie.lean); close each card by the builder's one call (the guide's Derived/Test/ToyasCard.lean, 'card_holds'). Laid BY PROGRAM, IN A SANDBOX (cutbox-door.mjs). By AI agents, Wed Nov 11 2026. No macro, syntax, notation, axiom, sorry.
-/
import Derived.Test.YtcklfboglnfepaaDoorRows
import GoSem.ClaimSeven
namespace Go.Proofs.YtcklfboglnfepaaDoor
namespace Rows

/-- THE TIED CARD OF 'shoeboxlaw05.FigureLevels'. -/
def figureLevelsCard : Claim7 := { stood := { row := figureLevelsRow, standIns := [], harness := (true, "11f0676df01d7b95d599e52b499b6c9f49867d37e9c7f4469279ac1e53e6000a"), looks := false }, kinds := [], alts := [], laidByText := true, laidKinds := [.data, .data, .data, .data, .data, .data, .data], laidTests := true, laidLooks := .later }
def FigureLevelsCardSaid : Prop := Claim7.holds Tryd.pinned (.plain (OpenSpec.ofChange figureLevelsSpec)) figureLevelsCard

/-- THE TIED CARD OF 'shoeboxlaw05.FigureResponses'. -/
def figureResponsesCard : Claim7 := { stood := { row := figureResponsesRow, standIns := [], harness := (true, "11f0676df01d7b95d599e52b499b6c9f49867d37e9c7f4469279ac1e53e6000a"), looks := false }, kinds := [], alts := [], laidByText := true, laidKinds := [.data, .data, .data, .data, .data, .data, .data], laidTests := true, laidLooks := .later }
def FigureResponsesCardSaid : Prop := Claim7.holds Tryd.pinned (.plain (OpenSpec.ofChange figureResponsesSpec)) figureResponsesCard

/-- THE TIED CARD OF 'shoeboxlaw05.FigureWithin'. -/
def figureWithinCard : Claim7 := { stood := { row := figureWithinRow, standIns := [], harness := (true, "11f0676df01d7b95d599e52b499b6c9f49867d37e9c7f4469279ac1e53e6000a"), looks := false }, kinds := [], alts := [], laidByText := true, laidKinds := [.data, .data, .data, .data, .data, .data, .data], laidTests := true, laidLooks := .later }
def FigureWithinCardSaid : Prop := Claim7.holds Tryd.pinned (.plain (OpenSpec.ofChange figureWithinSpec)) figureWithinCard

/-- THE TIED CARD OF 'shoeboxlaw05.FigureScales'. -/
def figureScalesCard : Claim7 := { stood := { row := figureScalesRow, standIns := [], harness := (true, "11f0676df01d7b95d599e52b499b6c9f49867d37e9c7f4469279ac1e53e6000a"), looks := false }, kinds := [], alts := [], laidByText := true, laidKinds := [.data, .data, .data, .data, .data, .data, .data], laidTests := true, laidLooks := .later }
def FigureScalesCardSaid : Prop := Claim7.holds Tryd.pinned (.plain (OpenSpec.ofChange figureScalesSpec)) figureScalesCard

/-- THE TIED CARD OF 'shoeboxtop.TopLongerTail'. -/
def topLongerTailCard : Claim7 := { stood := { row := topLongerTailRow, standIns := [], harness := (true, "11f0676df01d7b95d599e52b499b6c9f49867d37e9c7f4469279ac1e53e6000a"), looks := false }, kinds := [], alts := [], laidByText := true, laidKinds := [.data, .data, .data, .data, .data, .data, .data], laidTests := true, laidLooks := .later }
def TopLongerTailCardSaid : Prop := Claim7.holds Tryd.pinned (.plain (OpenSpec.ofChange topLongerTailSpec)) topLongerTailCard

/-- THE SECOND FORM's CARD OF 'shoeboxlaw05.FigureLevels'. -/
def figureLevelsUptoCard : Claim7 := { stood := { row := figureLevelsUptoRow, standIns := [], harness := (true, "11f0676df01d7b95d599e52b499b6c9f49867d37e9c7f4469279ac1e53e6000a"), looks := false }, kinds := [], alts := [], laidByText := true, laidKinds := [.data, .data, .data, .data, .data, .data, .data], laidTests := true, laidLooks := .later }
def FigureLevelsUptoCardSaid : Prop := Claim7.holds Tryd.pinned (.plain (OpenSpec.upto figureLevelsSpec)) figureLevelsUptoCard

/-- THE SECOND FORM's CARD OF 'shoeboxlaw05.FigureResponses'. -/
def figureResponsesUptoCard : Claim7 := { stood := { row := figureResponsesUptoRow, standIns := [], harness := (true, "11f0676df01d7b95d599e52b499b6c9f49867d37e9c7f4469279ac1e53e6000a"), looks := false }, kinds := [], alts := [], laidByText := true, laidKinds := [.data, .data, .data, .data, .data, .data, .data], laidTests := true, laidLooks := .later }
def FigureResponsesUptoCardSaid : Prop := Claim7.holds Tryd.pinned (.plain (OpenSpec.upto figureResponsesSpec)) figureResponsesUptoCard

/-- THE SECOND FORM's CARD OF 'shoeboxlaw05.FigureWithin'. -/
def figureWithinUptoCard : Claim7 := { stood := { row := figureWithinUptoRow, standIns := [], harness := (true, "11f0676df01d7b95d599e52b499b6c9f49867d37e9c7f4469279ac1e53e6000a"), looks := false }, kinds := [], alts := [], laidByText := true, laidKinds := [.data, .data, .data, .data, .data, .data, .data], laidTests := true, laidLooks := .later }
def FigureWithinUptoCardSaid : Prop := Claim7.holds Tryd.pinned (.plain (OpenSpec.upto figureWithinSpec)) figureWithinUptoCard

/-- THE SECOND FORM's CARD OF 'shoeboxlaw05.FigureScales'. -/
def figureScalesUptoCard : Claim7 := { stood := { row := figureScalesUptoRow, standIns := [], harness := (true, "11f0676df01d7b95d599e52b499b6c9f49867d37e9c7f4469279ac1e53e6000a"), looks := false }, kinds := [], alts := [], laidByText := true, laidKinds := [.data, .data, .data, .data, .data, .data, .data], laidTests := true, laidLooks := .later }
def FigureScalesUptoCardSaid : Prop := Claim7.holds Tryd.pinned (.plain (OpenSpec.upto figureScalesSpec)) figureScalesUptoCard

/-- THE SECOND FORM's CARD OF 'shoeboxtop.TopLongerTail'. -/
def topLongerTailUptoCard : Claim7 := { stood := { row := topLongerTailUptoRow, standIns := [], harness := (true, "11f0676df01d7b95d599e52b499b6c9f49867d37e9c7f4469279ac1e53e6000a"), looks := false }, kinds := [], alts := [], laidByText := true, laidKinds := [.data, .data, .data, .data, .data, .data, .data], laidTests := true, laidLooks := .later }
def TopLongerTailUptoCardSaid : Prop := Claim7.holds Tryd.pinned (.plain (OpenSpec.upto topLongerTailSpec)) topLongerTailUptoCard
end Rows
end Go.Proofs.YtcklfboglnfepaaDoor

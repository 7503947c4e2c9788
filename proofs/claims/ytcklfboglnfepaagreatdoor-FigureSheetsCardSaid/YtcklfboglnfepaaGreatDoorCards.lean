/-
  DERIVED. GIVEN WITH THE SEED: THE CARDS: each row of YtcklfboglnfepaaGreatDoorRows.lean that lists a variable, with what it lists TIED to the program's text (the seventh form; the later family's looks); each row that meets fmt, with fmt's text TOLD by the authors' own Lean function (tested against real Go, not proved from fmt's source: count such statements apart). THE CARD IS WHAT COUNTS. Prove the row's statement (the work); the ties are given (YtcklfboglnfepaaGreatDoorTie.lean); close each card by the builder's one call (the guide's Derived/Test/ToyasCard.lean, 'card_holds'). Laid BY PROGRAM, IN A SANDBOX (cutbox-door.mjs). By AI agents, Wed Nov 11 2026. No macro, syntax, notation, axiom, sorry.
-/
import Derived.Test.YtcklfboglnfepaaGreatDoorRows
import GoSem.ClaimSeven
namespace Go.Proofs.YtcklfboglnfepaaGreatDoor
namespace Rows

/-- THE TIED CARD OF 'shoeboxlaw05.FigureDecays'. -/
def figureDecaysCard : Claim7 := { stood := { row := figureDecaysRow, standIns := [], harness := (true, "b62adb6bed19c6882c230e5abc5d8fdde1cc3e8490aa7b6d8317aebb348211c9"), looks := true }, kinds := [], alts := [], laidByText := true, laidKinds := [.data, .data, .data, .data, .data, .data, .data], laidTests := true, laidLooks := .later }
def FigureDecaysCardSaid : Prop := Claim7.holds Tryz.pinned (.plain (OpenSpec.ofChange figureDecaysSpec)) figureDecaysCard

/-- THE TIED CARD OF 'shoeboxlaw05.FigureClarity'. -/
def figureClarityCard : Claim7 := { stood := { row := figureClarityRow, standIns := [], harness := (true, "b62adb6bed19c6882c230e5abc5d8fdde1cc3e8490aa7b6d8317aebb348211c9"), looks := true }, kinds := [], alts := [], laidByText := true, laidKinds := [.data, .data, .data, .data, .data, .data, .data], laidTests := true, laidLooks := .later }
def FigureClarityCardSaid : Prop := Claim7.holds Tryz.pinned (.plain (OpenSpec.ofChange figureClaritySpec)) figureClarityCard

/-- THE TIED CARD OF 'shoeboxlaw05.FigureCentres'. -/
def figureCentresCard : Claim7 := { stood := { row := figureCentresRow, standIns := [], harness := (true, "b62adb6bed19c6882c230e5abc5d8fdde1cc3e8490aa7b6d8317aebb348211c9"), looks := true }, kinds := [], alts := [], laidByText := true, laidKinds := [.data, .data, .data, .data, .data, .data, .data], laidTests := true, laidLooks := .later }
def FigureCentresCardSaid : Prop := Claim7.holds Tryz.pinned (.plain (OpenSpec.ofChange figureCentresSpec)) figureCentresCard

/-- THE TIED CARD OF 'shoeboxlaw05.FigureLateral'. -/
def figureLateralCard : Claim7 := { stood := { row := figureLateralRow, standIns := [], harness := (true, "b62adb6bed19c6882c230e5abc5d8fdde1cc3e8490aa7b6d8317aebb348211c9"), looks := true }, kinds := [], alts := [], laidByText := true, laidKinds := [.data, .data, .data, .data, .data, .data, .data], laidTests := true, laidLooks := .later }
def FigureLateralCardSaid : Prop := Claim7.holds Tryz.pinned (.plain (OpenSpec.ofChange figureLateralSpec)) figureLateralCard

/-- THE TIED CARD OF 'shoeboxlaw05.FigureModulates'. -/
def figureModulatesCard : Claim7 := { stood := { row := figureModulatesRow, standIns := [], harness := (true, "b62adb6bed19c6882c230e5abc5d8fdde1cc3e8490aa7b6d8317aebb348211c9"), looks := true }, kinds := [], alts := [], laidByText := true, laidKinds := [.data, .data, .data, .data, .data, .data, .data], laidTests := true, laidLooks := .later }
def FigureModulatesCardSaid : Prop := Claim7.holds Tryz.pinned (.plain (OpenSpec.ofChange figureModulatesSpec)) figureModulatesCard

/-- THE TIED CARD OF 'shoeboxlaw05.FigureDrops'. -/
def figureDropsCard : Claim7 := { stood := { row := figureDropsRow, standIns := [], harness := (true, "b62adb6bed19c6882c230e5abc5d8fdde1cc3e8490aa7b6d8317aebb348211c9"), looks := true }, kinds := [], alts := [], laidByText := true, laidKinds := [.data, .data, .data, .data, .data, .data, .data], laidTests := true, laidLooks := .later }
def FigureDropsCardSaid : Prop := Claim7.holds Tryz.pinned (.plain (OpenSpec.ofChange figureDropsSpec)) figureDropsCard

/-- THE TIED CARD OF 'shoeboxlaw05.FigureDefinitions'. -/
def figureDefinitionsCard : Claim7 := { stood := { row := figureDefinitionsRow, standIns := [], harness := (true, "b62adb6bed19c6882c230e5abc5d8fdde1cc3e8490aa7b6d8317aebb348211c9"), looks := true }, kinds := [], alts := [], laidByText := true, laidKinds := [.data, .data, .data, .data, .data, .data, .data], laidTests := true, laidLooks := .later }
def FigureDefinitionsCardSaid : Prop := Claim7.holds Tryz.pinned (.plain (OpenSpec.ofChange figureDefinitionsSpec)) figureDefinitionsCard

/-- THE TIED CARD OF 'shoeboxlaw05.FigureEnergies'. -/
def figureEnergiesCard : Claim7 := { stood := { row := figureEnergiesRow, standIns := [], harness := (true, "b62adb6bed19c6882c230e5abc5d8fdde1cc3e8490aa7b6d8317aebb348211c9"), looks := true }, kinds := [], alts := [], laidByText := true, laidKinds := [.data, .data, .data, .data, .data, .data, .data], laidTests := true, laidLooks := .later }
def FigureEnergiesCardSaid : Prop := Claim7.holds Tryz.pinned (.plain (OpenSpec.ofChange figureEnergiesSpec)) figureEnergiesCard

/-- THE TIED CARD OF 'shoeboxlaw05.FigureSums'. -/
def figureSumsCard : Claim7 := { stood := { row := figureSumsRow, standIns := [], harness := (true, "b62adb6bed19c6882c230e5abc5d8fdde1cc3e8490aa7b6d8317aebb348211c9"), looks := true }, kinds := [], alts := [], laidByText := true, laidKinds := [.data, .data, .data, .data, .data, .data, .data], laidTests := true, laidLooks := .later }
def FigureSumsCardSaid : Prop := Claim7.holds Tryz.pinned (.plain (OpenSpec.ofChange figureSumsSpec)) figureSumsCard

/-- THE TIED CARD OF 'shoeboxlaw05.FigureCompares'. -/
def figureComparesCard : Claim7 := { stood := { row := figureComparesRow, standIns := [], harness := (true, "b62adb6bed19c6882c230e5abc5d8fdde1cc3e8490aa7b6d8317aebb348211c9"), looks := true }, kinds := [], alts := [], laidByText := true, laidKinds := [.data, .data, .data, .data, .data, .data, .data, .data], laidTests := true, laidLooks := .later }
def FigureComparesCardSaid : Prop := Claim7.holds Tryz.pinned (.plain (OpenSpec.ofChange figureComparesSpec)) figureComparesCard

/-- THE TIED CARD OF 'shoeboxlaw05.FigureSheets'. -/
def figureSheetsCard : Claim7 := { stood := { row := figureSheetsRow, standIns := [], harness := (true, "b62adb6bed19c6882c230e5abc5d8fdde1cc3e8490aa7b6d8317aebb348211c9"), looks := true }, kinds := [], alts := [], laidByText := true, laidKinds := [.data, .data, .data, .data, .sentinel, .sentinel, .data, .data, .data, .data, .pinned], laidTests := true, laidLooks := .later }
def FigureSheetsCardSaid : Prop := Claim7.holds Tryz.pinned (.plain (OpenSpec.ofChange figureSheetsSpec)) figureSheetsCard

/-- THE TIED CARD OF 'shoeboxlaw05.FigureTexts'. -/
def figureTextsCard : Claim7 := { stood := { row := figureTextsRow, standIns := [], harness := (true, "b62adb6bed19c6882c230e5abc5d8fdde1cc3e8490aa7b6d8317aebb348211c9"), looks := true }, kinds := [], alts := [], laidByText := true, laidKinds := [.data, .data, .data, .data, .sentinel, .sentinel, .data, .data, .data, .data, .pinned], laidTests := true, laidLooks := .later }
def FigureTextsCardSaid : Prop := Claim7.holds Tryz.pinned (.plain (OpenSpec.ofChange figureTextsSpec)) figureTextsCard

/-- THE SECOND FORM's CARD OF 'shoeboxlaw05.FigureDecays'. -/
def figureDecaysUptoCard : Claim7 := { stood := { row := figureDecaysUptoRow, standIns := [], harness := (true, "b62adb6bed19c6882c230e5abc5d8fdde1cc3e8490aa7b6d8317aebb348211c9"), looks := true }, kinds := [], alts := [], laidByText := true, laidKinds := [.data, .data, .data, .data, .data, .data, .data], laidTests := true, laidLooks := .later }
def FigureDecaysUptoCardSaid : Prop := Claim7.holds Tryz.pinned (.plain (OpenSpec.upto figureDecaysSpec)) figureDecaysUptoCard

/-- THE SECOND FORM's CARD OF 'shoeboxlaw05.FigureClarity'. -/
def figureClarityUptoCard : Claim7 := { stood := { row := figureClarityUptoRow, standIns := [], harness := (true, "b62adb6bed19c6882c230e5abc5d8fdde1cc3e8490aa7b6d8317aebb348211c9"), looks := true }, kinds := [], alts := [], laidByText := true, laidKinds := [.data, .data, .data, .data, .data, .data, .data], laidTests := true, laidLooks := .later }
def FigureClarityUptoCardSaid : Prop := Claim7.holds Tryz.pinned (.plain (OpenSpec.upto figureClaritySpec)) figureClarityUptoCard

/-- THE SECOND FORM's CARD OF 'shoeboxlaw05.FigureCentres'. -/
def figureCentresUptoCard : Claim7 := { stood := { row := figureCentresUptoRow, standIns := [], harness := (true, "b62adb6bed19c6882c230e5abc5d8fdde1cc3e8490aa7b6d8317aebb348211c9"), looks := true }, kinds := [], alts := [], laidByText := true, laidKinds := [.data, .data, .data, .data, .data, .data, .data], laidTests := true, laidLooks := .later }
def FigureCentresUptoCardSaid : Prop := Claim7.holds Tryz.pinned (.plain (OpenSpec.upto figureCentresSpec)) figureCentresUptoCard

/-- THE SECOND FORM's CARD OF 'shoeboxlaw05.FigureLateral'. -/
def figureLateralUptoCard : Claim7 := { stood := { row := figureLateralUptoRow, standIns := [], harness := (true, "b62adb6bed19c6882c230e5abc5d8fdde1cc3e8490aa7b6d8317aebb348211c9"), looks := true }, kinds := [], alts := [], laidByText := true, laidKinds := [.data, .data, .data, .data, .data, .data, .data], laidTests := true, laidLooks := .later }
def FigureLateralUptoCardSaid : Prop := Claim7.holds Tryz.pinned (.plain (OpenSpec.upto figureLateralSpec)) figureLateralUptoCard

/-- THE SECOND FORM's CARD OF 'shoeboxlaw05.FigureModulates'. -/
def figureModulatesUptoCard : Claim7 := { stood := { row := figureModulatesUptoRow, standIns := [], harness := (true, "b62adb6bed19c6882c230e5abc5d8fdde1cc3e8490aa7b6d8317aebb348211c9"), looks := true }, kinds := [], alts := [], laidByText := true, laidKinds := [.data, .data, .data, .data, .data, .data, .data], laidTests := true, laidLooks := .later }
def FigureModulatesUptoCardSaid : Prop := Claim7.holds Tryz.pinned (.plain (OpenSpec.upto figureModulatesSpec)) figureModulatesUptoCard

/-- THE SECOND FORM's CARD OF 'shoeboxlaw05.FigureDrops'. -/
def figureDropsUptoCard : Claim7 := { stood := { row := figureDropsUptoRow, standIns := [], harness := (true, "b62adb6bed19c6882c230e5abc5d8fdde1cc3e8490aa7b6d8317aebb348211c9"), looks := true }, kinds := [], alts := [], laidByText := true, laidKinds := [.data, .data, .data, .data, .data, .data, .data], laidTests := true, laidLooks := .later }
def FigureDropsUptoCardSaid : Prop := Claim7.holds Tryz.pinned (.plain (OpenSpec.upto figureDropsSpec)) figureDropsUptoCard

/-- THE SECOND FORM's CARD OF 'shoeboxlaw05.FigureDefinitions'. -/
def figureDefinitionsUptoCard : Claim7 := { stood := { row := figureDefinitionsUptoRow, standIns := [], harness := (true, "b62adb6bed19c6882c230e5abc5d8fdde1cc3e8490aa7b6d8317aebb348211c9"), looks := true }, kinds := [], alts := [], laidByText := true, laidKinds := [.data, .data, .data, .data, .data, .data, .data], laidTests := true, laidLooks := .later }
def FigureDefinitionsUptoCardSaid : Prop := Claim7.holds Tryz.pinned (.plain (OpenSpec.upto figureDefinitionsSpec)) figureDefinitionsUptoCard

/-- THE SECOND FORM's CARD OF 'shoeboxlaw05.FigureEnergies'. -/
def figureEnergiesUptoCard : Claim7 := { stood := { row := figureEnergiesUptoRow, standIns := [], harness := (true, "b62adb6bed19c6882c230e5abc5d8fdde1cc3e8490aa7b6d8317aebb348211c9"), looks := true }, kinds := [], alts := [], laidByText := true, laidKinds := [.data, .data, .data, .data, .data, .data, .data], laidTests := true, laidLooks := .later }
def FigureEnergiesUptoCardSaid : Prop := Claim7.holds Tryz.pinned (.plain (OpenSpec.upto figureEnergiesSpec)) figureEnergiesUptoCard

/-- THE SECOND FORM's CARD OF 'shoeboxlaw05.FigureSums'. -/
def figureSumsUptoCard : Claim7 := { stood := { row := figureSumsUptoRow, standIns := [], harness := (true, "b62adb6bed19c6882c230e5abc5d8fdde1cc3e8490aa7b6d8317aebb348211c9"), looks := true }, kinds := [], alts := [], laidByText := true, laidKinds := [.data, .data, .data, .data, .data, .data, .data], laidTests := true, laidLooks := .later }
def FigureSumsUptoCardSaid : Prop := Claim7.holds Tryz.pinned (.plain (OpenSpec.upto figureSumsSpec)) figureSumsUptoCard

/-- THE SECOND FORM's CARD OF 'shoeboxlaw05.FigureCompares'. -/
def figureComparesUptoCard : Claim7 := { stood := { row := figureComparesUptoRow, standIns := [], harness := (true, "b62adb6bed19c6882c230e5abc5d8fdde1cc3e8490aa7b6d8317aebb348211c9"), looks := true }, kinds := [], alts := [], laidByText := true, laidKinds := [.data, .data, .data, .data, .data, .data, .data, .data], laidTests := true, laidLooks := .later }
def FigureComparesUptoCardSaid : Prop := Claim7.holds Tryz.pinned (.plain (OpenSpec.upto figureComparesSpec)) figureComparesUptoCard

/-- THE SECOND FORM's CARD OF 'shoeboxlaw05.FigureSheets'. -/
def figureSheetsUptoCard : Claim7 := { stood := { row := figureSheetsUptoRow, standIns := [], harness := (true, "b62adb6bed19c6882c230e5abc5d8fdde1cc3e8490aa7b6d8317aebb348211c9"), looks := true }, kinds := [], alts := [], laidByText := true, laidKinds := [.data, .data, .data, .data, .sentinel, .sentinel, .data, .data, .data, .data, .pinned], laidTests := true, laidLooks := .later }
def FigureSheetsUptoCardSaid : Prop := Claim7.holds Tryz.pinned (.plain (OpenSpec.upto figureSheetsSpec)) figureSheetsUptoCard

/-- THE SECOND FORM's CARD OF 'shoeboxlaw05.FigureTexts'. -/
def figureTextsUptoCard : Claim7 := { stood := { row := figureTextsUptoRow, standIns := [], harness := (true, "b62adb6bed19c6882c230e5abc5d8fdde1cc3e8490aa7b6d8317aebb348211c9"), looks := true }, kinds := [], alts := [], laidByText := true, laidKinds := [.data, .data, .data, .data, .sentinel, .sentinel, .data, .data, .data, .data, .pinned], laidTests := true, laidLooks := .later }
def FigureTextsUptoCardSaid : Prop := Claim7.holds Tryz.pinned (.plain (OpenSpec.upto figureTextsSpec)) figureTextsUptoCard
end Rows
end Go.Proofs.YtcklfboglnfepaaGreatDoor

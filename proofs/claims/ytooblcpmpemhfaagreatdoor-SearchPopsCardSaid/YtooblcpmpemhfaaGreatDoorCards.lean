/-
  DERIVED. GIVEN WITH THE SEED: THE CARDS: each row of YtooblcpmpemhfaaGreatDoorRows.lean that lists a variable, with what it lists TIED to the program's text (the seventh form; the later family's looks); each row that meets fmt, with fmt's text TOLD by the authors' own Lean function (tested against real Go, not proved from fmt's source: count such statements apart). THE CARD IS WHAT COUNTS. Prove the row's statement (the work); the ties are given (YtooblcpmpemhfaaGreatDoorTie.lean); close each card by the builder's one call (the guide's Derived/Test/ToyasCard.lean, 'card_holds'). Laid BY PROGRAM, IN A SANDBOX (cutbox-door.mjs). By AI agents, Wed Nov 11 2026. No macro, syntax, notation, axiom, sorry.
-/
import Derived.Test.YtooblcpmpemhfaaGreatDoorRows
import GoSem.ClaimSeven
namespace Go.Proofs.YtooblcpmpemhfaaGreatDoor
namespace Rows

/-- THE TIED CARD OF 'spellwrightlaw11.DawgTells'. -/
def dawgTellsCard : Claim7 := { stood := { row := dawgTellsRow, standIns := [], harness := (true, "20a161d38c0de7f6d4b85b7d6ddce89efa20a59c4a9ddf872e7845df26b69808"), looks := true }, kinds := [], alts := [], laidByText := true, laidKinds := [.data, .data, .data], laidTests := true, laidLooks := .later }
def DawgTellsCardSaid : Prop := Claim7.holds Tryz.pinned (.plain (OpenSpec.ofChange dawgTellsSpec)) dawgTellsCard

/-- THE TIED CARD OF 'spellwrightlaw16.ShapeTells'. -/
def shapeTellsCard : Claim7 := { stood := { row := shapeTellsRow, standIns := [], harness := (true, "20a161d38c0de7f6d4b85b7d6ddce89efa20a59c4a9ddf872e7845df26b69808"), looks := true }, kinds := [], alts := [], laidByText := true, laidKinds := [.data, .data, .data], laidTests := true, laidLooks := .later }
def ShapeTellsCardSaid : Prop := Claim7.holds Tryz.pinned (.plain (OpenSpec.ofChange shapeTellsSpec)) shapeTellsCard

/-- THE TIED CARD OF 'spellwrightlaw16.ShapeMakes'. -/
def shapeMakesCard : Claim7 := { stood := { row := shapeMakesRow, standIns := [], harness := (true, "20a161d38c0de7f6d4b85b7d6ddce89efa20a59c4a9ddf872e7845df26b69808"), looks := true }, kinds := [], alts := [], laidByText := true, laidKinds := [.data, .data, .data], laidTests := true, laidLooks := .later }
def ShapeMakesCardSaid : Prop := Claim7.holds Tryz.pinned (.plain (OpenSpec.ofChange shapeMakesSpec)) shapeMakesCard

/-- THE TIED CARD OF 'spellwrightlaw21.SearchTells'. -/
def searchTellsCard : Claim7 := { stood := { row := searchTellsRow, standIns := [], harness := (true, "20a161d38c0de7f6d4b85b7d6ddce89efa20a59c4a9ddf872e7845df26b69808"), looks := true }, kinds := [], alts := [], laidByText := true, laidKinds := [.data, .data, .data], laidTests := true, laidLooks := .later }
def SearchTellsCardSaid : Prop := Claim7.holds Tryz.pinned (.plain (OpenSpec.ofChange searchTellsSpec)) searchTellsCard

/-- THE TIED CARD OF 'spellwrightlaw21.SearchMore'. -/
def searchMoreCard : Claim7 := { stood := { row := searchMoreRow, standIns := [], harness := (true, "20a161d38c0de7f6d4b85b7d6ddce89efa20a59c4a9ddf872e7845df26b69808"), looks := true }, kinds := [], alts := [], laidByText := true, laidKinds := [.data, .data, .data], laidTests := true, laidLooks := .later }
def SearchMoreCardSaid : Prop := Claim7.holds Tryz.pinned (.plain (OpenSpec.ofChange searchMoreSpec)) searchMoreCard

/-- THE TIED CARD OF 'spellwrightlaw21.SearchPops'. -/
def searchPopsCard : Claim7 := { stood := { row := searchPopsRow, standIns := [], harness := (true, "20a161d38c0de7f6d4b85b7d6ddce89efa20a59c4a9ddf872e7845df26b69808"), looks := true }, kinds := [], alts := [], laidByText := true, laidKinds := [.data, .data, .data], laidTests := true, laidLooks := .later }
def SearchPopsCardSaid : Prop := Claim7.holds Tryz.pinned (.plain (OpenSpec.ofChange searchPopsSpec)) searchPopsCard

/-- THE TIED CARD OF 'spellwrightlaw21.SearchBudget'. -/
def searchBudgetCard : Claim7 := { stood := { row := searchBudgetRow, standIns := [], harness := (true, "20a161d38c0de7f6d4b85b7d6ddce89efa20a59c4a9ddf872e7845df26b69808"), looks := true }, kinds := [], alts := [], laidByText := true, laidKinds := [.data, .data, .data], laidTests := true, laidLooks := .later }
def SearchBudgetCardSaid : Prop := Claim7.holds Tryz.pinned (.plain (OpenSpec.ofChange searchBudgetSpec)) searchBudgetCard

/-- THE TIED CARD OF 'spellwrightlaw21.SearchFinds'. -/
def searchFindsCard : Claim7 := { stood := { row := searchFindsRow, standIns := [], harness := (true, "20a161d38c0de7f6d4b85b7d6ddce89efa20a59c4a9ddf872e7845df26b69808"), looks := true }, kinds := [], alts := [], laidByText := true, laidKinds := [.data, .data, .data], laidTests := true, laidLooks := .later }
def SearchFindsCardSaid : Prop := Claim7.holds Tryz.pinned (.plain (OpenSpec.ofChange searchFindsSpec)) searchFindsCard

/-- THE TIED CARD OF 'spellwrightlaw21.SearchDawg'. -/
def searchDawgCard : Claim7 := { stood := { row := searchDawgRow, standIns := [], harness := (true, "20a161d38c0de7f6d4b85b7d6ddce89efa20a59c4a9ddf872e7845df26b69808"), looks := true }, kinds := [], alts := [], laidByText := true, laidKinds := [.data, .data, .data], laidTests := true, laidLooks := .later }
def SearchDawgCardSaid : Prop := Claim7.holds Tryz.pinned (.plain (OpenSpec.ofChange searchDawgSpec)) searchDawgCard

/-- THE TIED CARD OF 'spellwrightlaw21.SearchBounds'. -/
def searchBoundsCard : Claim7 := { stood := { row := searchBoundsRow, standIns := [], harness := (true, "20a161d38c0de7f6d4b85b7d6ddce89efa20a59c4a9ddf872e7845df26b69808"), looks := true }, kinds := [], alts := [], laidByText := true, laidKinds := [.data, .data, .data], laidTests := true, laidLooks := .later }
def SearchBoundsCardSaid : Prop := Claim7.holds Tryz.pinned (.plain (OpenSpec.ofChange searchBoundsSpec)) searchBoundsCard

/-- THE TIED CARD OF 'spellwrightlaw21.SearchSelf'. -/
def searchSelfCard : Claim7 := { stood := { row := searchSelfRow, standIns := [], harness := (true, "20a161d38c0de7f6d4b85b7d6ddce89efa20a59c4a9ddf872e7845df26b69808"), looks := true }, kinds := [], alts := [], laidByText := true, laidKinds := [.data, .data, .data], laidTests := true, laidLooks := .later }
def SearchSelfCardSaid : Prop := Claim7.holds Tryz.pinned (.plain (OpenSpec.ofChange searchSelfSpec)) searchSelfCard

/-- THE SECOND FORM's CARD OF 'spellwrightlaw11.DawgTells'. -/
def dawgTellsUptoCard : Claim7 := { stood := { row := dawgTellsUptoRow, standIns := [], harness := (true, "20a161d38c0de7f6d4b85b7d6ddce89efa20a59c4a9ddf872e7845df26b69808"), looks := true }, kinds := [], alts := [], laidByText := true, laidKinds := [.data, .data, .data], laidTests := true, laidLooks := .later }
def DawgTellsUptoCardSaid : Prop := Claim7.holds Tryz.pinned (.plain (OpenSpec.upto dawgTellsSpec)) dawgTellsUptoCard

/-- THE SECOND FORM's CARD OF 'spellwrightlaw16.ShapeTells'. -/
def shapeTellsUptoCard : Claim7 := { stood := { row := shapeTellsUptoRow, standIns := [], harness := (true, "20a161d38c0de7f6d4b85b7d6ddce89efa20a59c4a9ddf872e7845df26b69808"), looks := true }, kinds := [], alts := [], laidByText := true, laidKinds := [.data, .data, .data], laidTests := true, laidLooks := .later }
def ShapeTellsUptoCardSaid : Prop := Claim7.holds Tryz.pinned (.plain (OpenSpec.upto shapeTellsSpec)) shapeTellsUptoCard

/-- THE SECOND FORM's CARD OF 'spellwrightlaw16.ShapeMakes'. -/
def shapeMakesUptoCard : Claim7 := { stood := { row := shapeMakesUptoRow, standIns := [], harness := (true, "20a161d38c0de7f6d4b85b7d6ddce89efa20a59c4a9ddf872e7845df26b69808"), looks := true }, kinds := [], alts := [], laidByText := true, laidKinds := [.data, .data, .data], laidTests := true, laidLooks := .later }
def ShapeMakesUptoCardSaid : Prop := Claim7.holds Tryz.pinned (.plain (OpenSpec.upto shapeMakesSpec)) shapeMakesUptoCard

/-- THE SECOND FORM's CARD OF 'spellwrightlaw21.SearchTells'. -/
def searchTellsUptoCard : Claim7 := { stood := { row := searchTellsUptoRow, standIns := [], harness := (true, "20a161d38c0de7f6d4b85b7d6ddce89efa20a59c4a9ddf872e7845df26b69808"), looks := true }, kinds := [], alts := [], laidByText := true, laidKinds := [.data, .data, .data], laidTests := true, laidLooks := .later }
def SearchTellsUptoCardSaid : Prop := Claim7.holds Tryz.pinned (.plain (OpenSpec.upto searchTellsSpec)) searchTellsUptoCard

/-- THE SECOND FORM's CARD OF 'spellwrightlaw21.SearchMore'. -/
def searchMoreUptoCard : Claim7 := { stood := { row := searchMoreUptoRow, standIns := [], harness := (true, "20a161d38c0de7f6d4b85b7d6ddce89efa20a59c4a9ddf872e7845df26b69808"), looks := true }, kinds := [], alts := [], laidByText := true, laidKinds := [.data, .data, .data], laidTests := true, laidLooks := .later }
def SearchMoreUptoCardSaid : Prop := Claim7.holds Tryz.pinned (.plain (OpenSpec.upto searchMoreSpec)) searchMoreUptoCard

/-- THE SECOND FORM's CARD OF 'spellwrightlaw21.SearchPops'. -/
def searchPopsUptoCard : Claim7 := { stood := { row := searchPopsUptoRow, standIns := [], harness := (true, "20a161d38c0de7f6d4b85b7d6ddce89efa20a59c4a9ddf872e7845df26b69808"), looks := true }, kinds := [], alts := [], laidByText := true, laidKinds := [.data, .data, .data], laidTests := true, laidLooks := .later }
def SearchPopsUptoCardSaid : Prop := Claim7.holds Tryz.pinned (.plain (OpenSpec.upto searchPopsSpec)) searchPopsUptoCard

/-- THE SECOND FORM's CARD OF 'spellwrightlaw21.SearchBudget'. -/
def searchBudgetUptoCard : Claim7 := { stood := { row := searchBudgetUptoRow, standIns := [], harness := (true, "20a161d38c0de7f6d4b85b7d6ddce89efa20a59c4a9ddf872e7845df26b69808"), looks := true }, kinds := [], alts := [], laidByText := true, laidKinds := [.data, .data, .data], laidTests := true, laidLooks := .later }
def SearchBudgetUptoCardSaid : Prop := Claim7.holds Tryz.pinned (.plain (OpenSpec.upto searchBudgetSpec)) searchBudgetUptoCard

/-- THE SECOND FORM's CARD OF 'spellwrightlaw21.SearchFinds'. -/
def searchFindsUptoCard : Claim7 := { stood := { row := searchFindsUptoRow, standIns := [], harness := (true, "20a161d38c0de7f6d4b85b7d6ddce89efa20a59c4a9ddf872e7845df26b69808"), looks := true }, kinds := [], alts := [], laidByText := true, laidKinds := [.data, .data, .data], laidTests := true, laidLooks := .later }
def SearchFindsUptoCardSaid : Prop := Claim7.holds Tryz.pinned (.plain (OpenSpec.upto searchFindsSpec)) searchFindsUptoCard

/-- THE SECOND FORM's CARD OF 'spellwrightlaw21.SearchDawg'. -/
def searchDawgUptoCard : Claim7 := { stood := { row := searchDawgUptoRow, standIns := [], harness := (true, "20a161d38c0de7f6d4b85b7d6ddce89efa20a59c4a9ddf872e7845df26b69808"), looks := true }, kinds := [], alts := [], laidByText := true, laidKinds := [.data, .data, .data], laidTests := true, laidLooks := .later }
def SearchDawgUptoCardSaid : Prop := Claim7.holds Tryz.pinned (.plain (OpenSpec.upto searchDawgSpec)) searchDawgUptoCard

/-- THE SECOND FORM's CARD OF 'spellwrightlaw21.SearchBounds'. -/
def searchBoundsUptoCard : Claim7 := { stood := { row := searchBoundsUptoRow, standIns := [], harness := (true, "20a161d38c0de7f6d4b85b7d6ddce89efa20a59c4a9ddf872e7845df26b69808"), looks := true }, kinds := [], alts := [], laidByText := true, laidKinds := [.data, .data, .data], laidTests := true, laidLooks := .later }
def SearchBoundsUptoCardSaid : Prop := Claim7.holds Tryz.pinned (.plain (OpenSpec.upto searchBoundsSpec)) searchBoundsUptoCard

/-- THE SECOND FORM's CARD OF 'spellwrightlaw21.SearchSelf'. -/
def searchSelfUptoCard : Claim7 := { stood := { row := searchSelfUptoRow, standIns := [], harness := (true, "20a161d38c0de7f6d4b85b7d6ddce89efa20a59c4a9ddf872e7845df26b69808"), looks := true }, kinds := [], alts := [], laidByText := true, laidKinds := [.data, .data, .data], laidTests := true, laidLooks := .later }
def SearchSelfUptoCardSaid : Prop := Claim7.holds Tryz.pinned (.plain (OpenSpec.upto searchSelfSpec)) searchSelfUptoCard
end Rows
end Go.Proofs.YtooblcpmpemhfaaGreatDoor

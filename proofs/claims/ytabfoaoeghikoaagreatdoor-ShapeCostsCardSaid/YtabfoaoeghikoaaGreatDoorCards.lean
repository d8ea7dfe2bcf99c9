/-
  DERIVED. GIVEN WITH THE SEED: THE CARDS: each row of YtabfoaoeghikoaaGreatDoorRows.lean that lists a variable, with what it lists TIED to the program's text (the seventh form; the later family's looks); each row that meets fmt, with fmt's text TOLD by the authors' own Lean function (tested against real Go, not proved from fmt's source: count such statements apart). THE CARD IS WHAT COUNTS. Prove the row's statement (the work); the ties are given (YtabfoaoeghikoaaGreatDoorTie.lean); close each card by the builder's one call (the guide's Derived/Test/ToyasCard.lean, 'card_holds'). Laid BY PROGRAM, IN A SANDBOX (cutbox-door.mjs). By AI agents, Wed Nov 11 2026. No macro, syntax, notation, axiom, sorry.
-/
import Derived.Test.YtabfoaoeghikoaaGreatDoorRows
import GoSem.ClaimSeven
namespace Go.Proofs.YtabfoaoeghikoaaGreatDoor
namespace Rows

/-- THE TIED CARD OF 'spellwrightlaw11.DawgTells'. -/
def dawgTellsCard : Claim7 := { stood := { row := dawgTellsRow, standIns := [], harness := (true, "9558556a596edb6c41c607e61cb417ba29b173197420e82c24dd55881206f6a5"), looks := true }, kinds := [], alts := [], laidByText := true, laidKinds := [.data, .data, .data], laidTests := true, laidLooks := .later }
def DawgTellsCardSaid : Prop := Claim7.holds Tryz.pinned (.plain (OpenSpec.ofChange dawgTellsSpec)) dawgTellsCard

/-- THE TIED CARD OF 'spellwrightlaw12.WalkLeast'. -/
def walkLeastCard : Claim7 := { stood := { row := walkLeastRow, standIns := [], harness := (true, "9558556a596edb6c41c607e61cb417ba29b173197420e82c24dd55881206f6a5"), looks := true }, kinds := [], alts := [], laidByText := true, laidKinds := [.data, .data, .data], laidTests := true, laidLooks := .later }
def WalkLeastCardSaid : Prop := Claim7.holds Tryz.pinned (.plain (OpenSpec.ofChange walkLeastSpec)) walkLeastCard

/-- THE TIED CARD OF 'spellwrightlaw12.WalkMakes'. -/
def walkMakesCard : Claim7 := { stood := { row := walkMakesRow, standIns := [], harness := (true, "9558556a596edb6c41c607e61cb417ba29b173197420e82c24dd55881206f6a5"), looks := true }, kinds := [], alts := [], laidByText := true, laidKinds := [.data, .data, .data], laidTests := true, laidLooks := .later }
def WalkMakesCardSaid : Prop := Claim7.holds Tryz.pinned (.plain (OpenSpec.ofChange walkMakesSpec)) walkMakesCard

/-- THE TIED CARD OF 'spellwrightlaw16.ShapeTells'. -/
def shapeTellsCard : Claim7 := { stood := { row := shapeTellsRow, standIns := [], harness := (true, "9558556a596edb6c41c607e61cb417ba29b173197420e82c24dd55881206f6a5"), looks := true }, kinds := [], alts := [], laidByText := true, laidKinds := [.data, .data, .data], laidTests := true, laidLooks := .later }
def ShapeTellsCardSaid : Prop := Claim7.holds Tryz.pinned (.plain (OpenSpec.ofChange shapeTellsSpec)) shapeTellsCard

/-- THE TIED CARD OF 'spellwrightlaw16.ShapeCosts'. -/
def shapeCostsCard : Claim7 := { stood := { row := shapeCostsRow, standIns := [], harness := (true, "9558556a596edb6c41c607e61cb417ba29b173197420e82c24dd55881206f6a5"), looks := true }, kinds := [], alts := [], laidByText := true, laidKinds := [.data, .data, .data], laidTests := true, laidLooks := .later }
def ShapeCostsCardSaid : Prop := Claim7.holds Tryz.pinned (.plain (OpenSpec.ofChange shapeCostsSpec)) shapeCostsCard

/-- THE TIED CARD OF 'spellwrightlaw16.ShapeReads'. -/
def shapeReadsCard : Claim7 := { stood := { row := shapeReadsRow, standIns := [], harness := (true, "9558556a596edb6c41c607e61cb417ba29b173197420e82c24dd55881206f6a5"), looks := true }, kinds := [], alts := [], laidByText := true, laidKinds := [.data, .data, .data], laidTests := true, laidLooks := .later }
def ShapeReadsCardSaid : Prop := Claim7.holds Tryz.pinned (.plain (OpenSpec.ofChange shapeReadsSpec)) shapeReadsCard

/-- THE TIED CARD OF 'spellwrightlaw16.ShapeMakes'. -/
def shapeMakesCard : Claim7 := { stood := { row := shapeMakesRow, standIns := [], harness := (true, "9558556a596edb6c41c607e61cb417ba29b173197420e82c24dd55881206f6a5"), looks := true }, kinds := [], alts := [], laidByText := true, laidKinds := [.data, .data, .data], laidTests := true, laidLooks := .later }
def ShapeMakesCardSaid : Prop := Claim7.holds Tryz.pinned (.plain (OpenSpec.ofChange shapeMakesSpec)) shapeMakesCard

/-- THE SECOND FORM's CARD OF 'spellwrightlaw11.DawgTells'. -/
def dawgTellsUptoCard : Claim7 := { stood := { row := dawgTellsUptoRow, standIns := [], harness := (true, "9558556a596edb6c41c607e61cb417ba29b173197420e82c24dd55881206f6a5"), looks := true }, kinds := [], alts := [], laidByText := true, laidKinds := [.data, .data, .data], laidTests := true, laidLooks := .later }
def DawgTellsUptoCardSaid : Prop := Claim7.holds Tryz.pinned (.plain (OpenSpec.upto dawgTellsSpec)) dawgTellsUptoCard

/-- THE SECOND FORM's CARD OF 'spellwrightlaw12.WalkLeast'. -/
def walkLeastUptoCard : Claim7 := { stood := { row := walkLeastUptoRow, standIns := [], harness := (true, "9558556a596edb6c41c607e61cb417ba29b173197420e82c24dd55881206f6a5"), looks := true }, kinds := [], alts := [], laidByText := true, laidKinds := [.data, .data, .data], laidTests := true, laidLooks := .later }
def WalkLeastUptoCardSaid : Prop := Claim7.holds Tryz.pinned (.plain (OpenSpec.upto walkLeastSpec)) walkLeastUptoCard

/-- THE SECOND FORM's CARD OF 'spellwrightlaw12.WalkMakes'. -/
def walkMakesUptoCard : Claim7 := { stood := { row := walkMakesUptoRow, standIns := [], harness := (true, "9558556a596edb6c41c607e61cb417ba29b173197420e82c24dd55881206f6a5"), looks := true }, kinds := [], alts := [], laidByText := true, laidKinds := [.data, .data, .data], laidTests := true, laidLooks := .later }
def WalkMakesUptoCardSaid : Prop := Claim7.holds Tryz.pinned (.plain (OpenSpec.upto walkMakesSpec)) walkMakesUptoCard

/-- THE SECOND FORM's CARD OF 'spellwrightlaw16.ShapeTells'. -/
def shapeTellsUptoCard : Claim7 := { stood := { row := shapeTellsUptoRow, standIns := [], harness := (true, "9558556a596edb6c41c607e61cb417ba29b173197420e82c24dd55881206f6a5"), looks := true }, kinds := [], alts := [], laidByText := true, laidKinds := [.data, .data, .data], laidTests := true, laidLooks := .later }
def ShapeTellsUptoCardSaid : Prop := Claim7.holds Tryz.pinned (.plain (OpenSpec.upto shapeTellsSpec)) shapeTellsUptoCard

/-- THE SECOND FORM's CARD OF 'spellwrightlaw16.ShapeCosts'. -/
def shapeCostsUptoCard : Claim7 := { stood := { row := shapeCostsUptoRow, standIns := [], harness := (true, "9558556a596edb6c41c607e61cb417ba29b173197420e82c24dd55881206f6a5"), looks := true }, kinds := [], alts := [], laidByText := true, laidKinds := [.data, .data, .data], laidTests := true, laidLooks := .later }
def ShapeCostsUptoCardSaid : Prop := Claim7.holds Tryz.pinned (.plain (OpenSpec.upto shapeCostsSpec)) shapeCostsUptoCard

/-- THE SECOND FORM's CARD OF 'spellwrightlaw16.ShapeReads'. -/
def shapeReadsUptoCard : Claim7 := { stood := { row := shapeReadsUptoRow, standIns := [], harness := (true, "9558556a596edb6c41c607e61cb417ba29b173197420e82c24dd55881206f6a5"), looks := true }, kinds := [], alts := [], laidByText := true, laidKinds := [.data, .data, .data], laidTests := true, laidLooks := .later }
def ShapeReadsUptoCardSaid : Prop := Claim7.holds Tryz.pinned (.plain (OpenSpec.upto shapeReadsSpec)) shapeReadsUptoCard

/-- THE SECOND FORM's CARD OF 'spellwrightlaw16.ShapeMakes'. -/
def shapeMakesUptoCard : Claim7 := { stood := { row := shapeMakesUptoRow, standIns := [], harness := (true, "9558556a596edb6c41c607e61cb417ba29b173197420e82c24dd55881206f6a5"), looks := true }, kinds := [], alts := [], laidByText := true, laidKinds := [.data, .data, .data], laidTests := true, laidLooks := .later }
def ShapeMakesUptoCardSaid : Prop := Claim7.holds Tryz.pinned (.plain (OpenSpec.upto shapeMakesSpec)) shapeMakesUptoCard
end Rows
end Go.Proofs.YtabfoaoeghikoaaGreatDoor

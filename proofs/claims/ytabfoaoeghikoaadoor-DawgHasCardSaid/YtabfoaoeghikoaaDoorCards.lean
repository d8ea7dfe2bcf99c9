/-
  DERIVED. GIVEN WITH THE SEED: THE CARDS: each row of YtabfoaoeghikoaaDoorRows.lean that lists a variable, with what it lists TIED to the program's text (the seventh form; the later family's looks); each row that meets fmt, with fmt's text TOLD by the authors' own Lean function (tested against real Go, not proved from fmt's source: count such statements apart). THE CARD IS WHAT COUNTS. Prove the row's statement (the work); the ties are given (YtabfoaoeghikoaaDoorTie.lean); close each card by the builder's one call (the guide's Derived/Test/ToyasCard.lean, 'card_holds'). Laid BY PROGRAM, IN A SANDBOX (cutbox-door.mjs). By AI agents, Wed Nov 11 2026. No macro, syntax, notation, axiom, sorry.
-/
import Derived.Test.YtabfoaoeghikoaaDoorRows
import GoSem.ClaimSeven
namespace Go.Proofs.YtabfoaoeghikoaaDoor
namespace Rows

/-- THE TIED CARD OF 'spellwrightlaw11.DawgUsed'. -/
def dawgUsedCard : Claim7 := { stood := { row := dawgUsedRow, standIns := [], harness := (true, "857dda9e05ff7442b9a1c817463840d1cde959f516aaadef77a14c400eb0a1e8"), looks := false }, kinds := [], alts := [], laidByText := true, laidKinds := [.data, .data, .data], laidTests := true, laidLooks := .later }
def DawgUsedCardSaid : Prop := Claim7.holds Tryd.pinned (.plain (OpenSpec.ofChange dawgUsedSpec)) dawgUsedCard

/-- THE TIED CARD OF 'spellwrightlaw11.DawgTail'. -/
def dawgTailCard : Claim7 := { stood := { row := dawgTailRow, standIns := [], harness := (true, "857dda9e05ff7442b9a1c817463840d1cde959f516aaadef77a14c400eb0a1e8"), looks := false }, kinds := [], alts := [], laidByText := true, laidKinds := [.data, .data, .data], laidTests := true, laidLooks := .later }
def DawgTailCardSaid : Prop := Claim7.holds Tryd.pinned (.plain (OpenSpec.ofChange dawgTailSpec)) dawgTailCard

/-- THE TIED CARD OF 'spellwrightlaw11.DawgHead'. -/
def dawgHeadCard : Claim7 := { stood := { row := dawgHeadRow, standIns := [], harness := (true, "857dda9e05ff7442b9a1c817463840d1cde959f516aaadef77a14c400eb0a1e8"), looks := false }, kinds := [], alts := [], laidByText := true, laidKinds := [.data, .data, .data], laidTests := true, laidLooks := .later }
def DawgHeadCardSaid : Prop := Claim7.holds Tryd.pinned (.plain (OpenSpec.ofChange dawgHeadSpec)) dawgHeadCard

/-- THE TIED CARD OF 'spellwrightlaw11.DawgHas'. -/
def dawgHasCard : Claim7 := { stood := { row := dawgHasRow, standIns := [], harness := (true, "857dda9e05ff7442b9a1c817463840d1cde959f516aaadef77a14c400eb0a1e8"), looks := false }, kinds := [], alts := [], laidByText := true, laidKinds := [.data, .data, .data], laidTests := true, laidLooks := .later }
def DawgHasCardSaid : Prop := Claim7.holds Tryd.pinned (.plain (OpenSpec.ofChange dawgHasSpec)) dawgHasCard

/-- THE SECOND FORM's CARD OF 'spellwrightlaw11.DawgUsed'. -/
def dawgUsedUptoCard : Claim7 := { stood := { row := dawgUsedUptoRow, standIns := [], harness := (true, "857dda9e05ff7442b9a1c817463840d1cde959f516aaadef77a14c400eb0a1e8"), looks := false }, kinds := [], alts := [], laidByText := true, laidKinds := [.data, .data, .data], laidTests := true, laidLooks := .later }
def DawgUsedUptoCardSaid : Prop := Claim7.holds Tryd.pinned (.plain (OpenSpec.upto dawgUsedSpec)) dawgUsedUptoCard

/-- THE SECOND FORM's CARD OF 'spellwrightlaw11.DawgTail'. -/
def dawgTailUptoCard : Claim7 := { stood := { row := dawgTailUptoRow, standIns := [], harness := (true, "857dda9e05ff7442b9a1c817463840d1cde959f516aaadef77a14c400eb0a1e8"), looks := false }, kinds := [], alts := [], laidByText := true, laidKinds := [.data, .data, .data], laidTests := true, laidLooks := .later }
def DawgTailUptoCardSaid : Prop := Claim7.holds Tryd.pinned (.plain (OpenSpec.upto dawgTailSpec)) dawgTailUptoCard

/-- THE SECOND FORM's CARD OF 'spellwrightlaw11.DawgHead'. -/
def dawgHeadUptoCard : Claim7 := { stood := { row := dawgHeadUptoRow, standIns := [], harness := (true, "857dda9e05ff7442b9a1c817463840d1cde959f516aaadef77a14c400eb0a1e8"), looks := false }, kinds := [], alts := [], laidByText := true, laidKinds := [.data, .data, .data], laidTests := true, laidLooks := .later }
def DawgHeadUptoCardSaid : Prop := Claim7.holds Tryd.pinned (.plain (OpenSpec.upto dawgHeadSpec)) dawgHeadUptoCard

/-- THE SECOND FORM's CARD OF 'spellwrightlaw11.DawgHas'. -/
def dawgHasUptoCard : Claim7 := { stood := { row := dawgHasUptoRow, standIns := [], harness := (true, "857dda9e05ff7442b9a1c817463840d1cde959f516aaadef77a14c400eb0a1e8"), looks := false }, kinds := [], alts := [], laidByText := true, laidKinds := [.data, .data, .data], laidTests := true, laidLooks := .later }
def DawgHasUptoCardSaid : Prop := Claim7.holds Tryd.pinned (.plain (OpenSpec.upto dawgHasSpec)) dawgHasUptoCard
end Rows
end Go.Proofs.YtabfoaoeghikoaaDoor

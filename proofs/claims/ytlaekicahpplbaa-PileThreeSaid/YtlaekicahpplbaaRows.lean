/-
  No cell of these rows narrows 'for every input' (looked for: loops, veiled, ifaces, maps, wideKeys, modest, calm, conditions, laid).
  DERIVED. THE GIVEN ROWS OF THIS SEAT. 12 by the template 'for every input the law returns true; each argument reads behind the call as it read before'; 0 by the template 'total and deterministic' (their statements: YtlaekicahpplbaaTotals.lean).
  GIVEN WITH THE SEED: the statements are not yours to turn. If you find one false, say at which input.
  Laid BY PROGRAM, IN A SANDBOX (cutbox-rows.mjs): the forced cells as the released guide's own fill.sh prints them over the translation c04c90f7b576b119… (all of the seat's roots in one cut). By AI agents, Wed Nov 11 2026. No macro, syntax, notation, axiom, sorry.
-/
import Derived.Test.YtlaekicahpplbaaChecked
import GoSem.Claim
import GoSem.ClaimJoined
import GoSem.ClaimMapViews
import Derived.JoinedTies
import Derived.KernelRfl
namespace Go.Proofs.Ytlaekicahpplbaa
/- THE CELL 'sum', in the pinned program and in every row, IS THE sha256 OF THE DUMP (.gsa) THAT YtlaekicahpplbaaProg.lean LOADS. Nothing in Lean hashes anything: it is a label: what it is worth is what the hold of that sum in a sandbox is worth. -/
noncomputable def Try.pinned : Pinned := { name := "ytlaekicahpplbaa", sum := "c04c90f7b576b1191654cef0b44bb53f3d9af8ed2905f37a5a9981f71269523c", checked := Try.checked }
namespace Rows
def none {H : Type} : Left H := { results := [], args := [] }

/-- 'spellwrightlaw02.CostTells': WHATEVER THE INPUT: true; the input reads as it did. -/
def costTellsSpec : ChangeSpec := { name := "costTells", fn := fun _ => fun
  | [d1, d2, d3] => { results := [.lit (.bool true)], args := [d1, d2, d3] }
  | _ => none }
def costTellsRow : OpenClaim := { program := "ytlaekicahpplbaa", sum := "c04c90f7b576b1191654cef0b44bb53f3d9af8ed2905f37a5a9981f71269523c", func := "spellwright/spellwrightlaw02.CostTells", spec := "costTells", inPlace := ["math/bits.Add64"], recurses := true, apart := false }
def CostTellsSaid : Prop := costTellsRow.holds Try.pinned (OpenSpec.ofChange costTellsSpec)

/-- ITS FALSE NEIGHBOUR: 'it returns false'. Refute it at one input. -/
def costTellsWrong : ChangeSpec := { name := "costTells", fn := fun _ => fun
  | [d1, d2, d3] => { results := [.lit (.bool false)], args := [d1, d2, d3] }
  | _ => none }
def CostTellsWrongFalsely : Prop := costTellsRow.holds Try.pinned (OpenSpec.ofChange costTellsWrong)

/-- 'spellwrightlaw02.CostOrder': WHATEVER THE INPUT: true; the input reads as it did. -/
def costOrderSpec : ChangeSpec := { name := "costOrder", fn := fun _ => fun
  | [d1, d2, d3] => { results := [.lit (.bool true)], args := [d1, d2, d3] }
  | _ => none }
def costOrderRow : OpenClaim := { program := "ytlaekicahpplbaa", sum := "c04c90f7b576b1191654cef0b44bb53f3d9af8ed2905f37a5a9981f71269523c", func := "spellwright/spellwrightlaw02.CostOrder", spec := "costOrder", inPlace := ["math/bits.Add64"], apart := false }
def CostOrderSaid : Prop := costOrderRow.holds Try.pinned (OpenSpec.ofChange costOrderSpec)

/-- ITS FALSE NEIGHBOUR: 'it returns false'. Refute it at one input. -/
def costOrderWrong : ChangeSpec := { name := "costOrder", fn := fun _ => fun
  | [d1, d2, d3] => { results := [.lit (.bool false)], args := [d1, d2, d3] }
  | _ => none }
def CostOrderWrongFalsely : Prop := costOrderRow.holds Try.pinned (OpenSpec.ofChange costOrderWrong)

/-- 'spellwrightlaw02.CostParts': WHATEVER THE INPUT: true; the input reads as it did. -/
def costPartsSpec : ChangeSpec := { name := "costParts", fn := fun _ => fun
  | [d1, d2] => { results := [.lit (.bool true)], args := [d1, d2] }
  | _ => none }
def costPartsRow : OpenClaim := { program := "ytlaekicahpplbaa", sum := "c04c90f7b576b1191654cef0b44bb53f3d9af8ed2905f37a5a9981f71269523c", func := "spellwright/spellwrightlaw02.CostParts", spec := "costParts", inPlace := ["math/bits.Add64"], apart := false }
def CostPartsSaid : Prop := costPartsRow.holds Try.pinned (OpenSpec.ofChange costPartsSpec)

/-- ITS FALSE NEIGHBOUR: 'it returns false'. Refute it at one input. -/
def costPartsWrong : ChangeSpec := { name := "costParts", fn := fun _ => fun
  | [d1, d2] => { results := [.lit (.bool false)], args := [d1, d2] }
  | _ => none }
def CostPartsWrongFalsely : Prop := costPartsRow.holds Try.pinned (OpenSpec.ofChange costPartsWrong)

/-- 'spellwrightlaw02.CostTimes': WHATEVER THE INPUT: true; the input reads as it did. -/
def costTimesSpec : ChangeSpec := { name := "costTimes", fn := fun _ => fun
  | [d1, d2, d3] => { results := [.lit (.bool true)], args := [d1, d2, d3] }
  | _ => none }
def costTimesRow : OpenClaim := { program := "ytlaekicahpplbaa", sum := "c04c90f7b576b1191654cef0b44bb53f3d9af8ed2905f37a5a9981f71269523c", func := "spellwright/spellwrightlaw02.CostTimes", spec := "costTimes", inPlace := ["math/bits.Add64"], apart := false }
def CostTimesSaid : Prop := costTimesRow.holds Try.pinned (OpenSpec.ofChange costTimesSpec)

/-- ITS FALSE NEIGHBOUR: 'it returns false'. Refute it at one input. -/
def costTimesWrong : ChangeSpec := { name := "costTimes", fn := fun _ => fun
  | [d1, d2, d3] => { results := [.lit (.bool false)], args := [d1, d2, d3] }
  | _ => none }
def CostTimesWrongFalsely : Prop := costTimesRow.holds Try.pinned (OpenSpec.ofChange costTimesWrong)

/-- 'spellwrightlaw02.CostLess': WHATEVER THE INPUT: true; the input reads as it did. -/
def costLessSpec : ChangeSpec := { name := "costLess", fn := fun _ => fun
  | [d1, d2] => { results := [.lit (.bool true)], args := [d1, d2] }
  | _ => none }
def costLessRow : OpenClaim := { program := "ytlaekicahpplbaa", sum := "c04c90f7b576b1191654cef0b44bb53f3d9af8ed2905f37a5a9981f71269523c", func := "spellwright/spellwrightlaw02.CostLess", spec := "costLess", inPlace := ["math/bits.Add64"], apart := false }
def CostLessSaid : Prop := costLessRow.holds Try.pinned (OpenSpec.ofChange costLessSpec)

/-- ITS FALSE NEIGHBOUR: 'it returns false'. Refute it at one input. -/
def costLessWrong : ChangeSpec := { name := "costLess", fn := fun _ => fun
  | [d1, d2] => { results := [.lit (.bool false)], args := [d1, d2] }
  | _ => none }
def CostLessWrongFalsely : Prop := costLessRow.holds Try.pinned (OpenSpec.ofChange costLessWrong)

/-- 'spellwrightlaw02.CostLeast': WHATEVER THE INPUT: true; the input reads as it did. -/
def costLeastSpec : ChangeSpec := { name := "costLeast", fn := fun _ => fun
  | [d] => { results := [.lit (.bool true)], args := [d] }
  | _ => none }
def costLeastRow : OpenClaim := { program := "ytlaekicahpplbaa", sum := "c04c90f7b576b1191654cef0b44bb53f3d9af8ed2905f37a5a9981f71269523c", func := "spellwright/spellwrightlaw02.CostLeast", spec := "costLeast", inPlace := ["math/bits.Add64"], apart := false }
def CostLeastSaid : Prop := costLeastRow.holds Try.pinned (OpenSpec.ofChange costLeastSpec)

/-- ITS FALSE NEIGHBOUR: 'it returns false'. Refute it at one input. -/
def costLeastWrong : ChangeSpec := { name := "costLeast", fn := fun _ => fun
  | [d] => { results := [.lit (.bool false)], args := [d] }
  | _ => none }
def CostLeastWrongFalsely : Prop := costLeastRow.holds Try.pinned (OpenSpec.ofChange costLeastWrong)

/-- 'spellwrightlaw02.CostSpread': WHATEVER THE INPUT: true; the input reads as it did. -/
def costSpreadSpec : ChangeSpec := { name := "costSpread", fn := fun _ => fun
  | [d1, d2] => { results := [.lit (.bool true)], args := [d1, d2] }
  | _ => none }
def costSpreadRow : OpenClaim := { program := "ytlaekicahpplbaa", sum := "c04c90f7b576b1191654cef0b44bb53f3d9af8ed2905f37a5a9981f71269523c", func := "spellwright/spellwrightlaw02.CostSpread", spec := "costSpread", inPlace := ["math/bits.Add64"], apart := false }
def CostSpreadSaid : Prop := costSpreadRow.holds Try.pinned (OpenSpec.ofChange costSpreadSpec)

/-- ITS FALSE NEIGHBOUR: 'it returns false'. Refute it at one input. -/
def costSpreadWrong : ChangeSpec := { name := "costSpread", fn := fun _ => fun
  | [d1, d2] => { results := [.lit (.bool false)], args := [d1, d2] }
  | _ => none }
def CostSpreadWrongFalsely : Prop := costSpreadRow.holds Try.pinned (OpenSpec.ofChange costSpreadWrong)

/-- 'spellwrightlaw02.CostBoth': WHATEVER THE INPUT: true; the input reads as it did. -/
def costBothSpec : ChangeSpec := { name := "costBoth", fn := fun _ => fun
  | [d1, d2, d3] => { results := [.lit (.bool true)], args := [d1, d2, d3] }
  | _ => none }
def costBothRow : OpenClaim := { program := "ytlaekicahpplbaa", sum := "c04c90f7b576b1191654cef0b44bb53f3d9af8ed2905f37a5a9981f71269523c", func := "spellwright/spellwrightlaw02.CostBoth", spec := "costBoth", inPlace := ["math/bits.Add64"], apart := false }
def CostBothSaid : Prop := costBothRow.holds Try.pinned (OpenSpec.ofChange costBothSpec)

/-- ITS FALSE NEIGHBOUR: 'it returns false'. Refute it at one input. -/
def costBothWrong : ChangeSpec := { name := "costBoth", fn := fun _ => fun
  | [d1, d2, d3] => { results := [.lit (.bool false)], args := [d1, d2, d3] }
  | _ => none }
def CostBothWrongFalsely : Prop := costBothRow.holds Try.pinned (OpenSpec.ofChange costBothWrong)

/-- 'spellwrightlaw19.PileTells': WHATEVER THE INPUT: true; the input reads as it did. -/
def pileTellsSpec : ChangeSpec := { name := "pileTells", fn := fun _ => fun
  | [d1, d2, d3] => { results := [.lit (.bool true)], args := [d1, d2, d3] }
  | _ => none }
def pileTellsRow : OpenClaim := { program := "ytlaekicahpplbaa", sum := "c04c90f7b576b1191654cef0b44bb53f3d9af8ed2905f37a5a9981f71269523c", func := "spellwright/spellwrightlaw19.PileTells", spec := "pileTells", unfollowed := true, recurses := true, apart := false }
def PileTellsSaid : Prop := pileTellsRow.holds Try.pinned (OpenSpec.ofChange pileTellsSpec)

/-- ITS FALSE NEIGHBOUR: 'it returns false'. Refute it at one input. -/
def pileTellsWrong : ChangeSpec := { name := "pileTells", fn := fun _ => fun
  | [d1, d2, d3] => { results := [.lit (.bool false)], args := [d1, d2, d3] }
  | _ => none }
def PileTellsWrongFalsely : Prop := pileTellsRow.holds Try.pinned (OpenSpec.ofChange pileTellsWrong)

/-- 'spellwrightlaw19.PileKeeps': WHATEVER THE INPUT: true; the input reads as it did. -/
def pileKeepsSpec : ChangeSpec := { name := "pileKeeps", fn := fun _ => fun
  | [d1, d2] => { results := [.lit (.bool true)], args := [d1, d2] }
  | _ => none }
def pileKeepsRow : OpenClaim := { program := "ytlaekicahpplbaa", sum := "c04c90f7b576b1191654cef0b44bb53f3d9af8ed2905f37a5a9981f71269523c", func := "spellwright/spellwrightlaw19.PileKeeps", spec := "pileKeeps", unfollowed := true, recurses := true, apart := false }
def PileKeepsSaid : Prop := pileKeepsRow.holds Try.pinned (OpenSpec.ofChange pileKeepsSpec)

/-- ITS FALSE NEIGHBOUR: 'it returns false'. Refute it at one input. -/
def pileKeepsWrong : ChangeSpec := { name := "pileKeeps", fn := fun _ => fun
  | [d1, d2] => { results := [.lit (.bool false)], args := [d1, d2] }
  | _ => none }
def PileKeepsWrongFalsely : Prop := pileKeepsRow.holds Try.pinned (OpenSpec.ofChange pileKeepsWrong)

/-- 'spellwrightlaw19.PileSorts': WHATEVER THE INPUT: true; the input reads as it did. -/
def pileSortsSpec : ChangeSpec := { name := "pileSorts", fn := fun _ => fun
  | [d] => { results := [.lit (.bool true)], args := [d] }
  | _ => none }
def pileSortsRow : OpenClaim := { program := "ytlaekicahpplbaa", sum := "c04c90f7b576b1191654cef0b44bb53f3d9af8ed2905f37a5a9981f71269523c", func := "spellwright/spellwrightlaw19.PileSorts", spec := "pileSorts", unfollowed := true, recurses := true, apart := false }
def PileSortsSaid : Prop := pileSortsRow.holds Try.pinned (OpenSpec.ofChange pileSortsSpec)

/-- ITS FALSE NEIGHBOUR: 'it returns false'. Refute it at one input. -/
def pileSortsWrong : ChangeSpec := { name := "pileSorts", fn := fun _ => fun
  | [d] => { results := [.lit (.bool false)], args := [d] }
  | _ => none }
def PileSortsWrongFalsely : Prop := pileSortsRow.holds Try.pinned (OpenSpec.ofChange pileSortsWrong)

/-- 'spellwrightlaw19.PileThree': WHATEVER THE INPUT: true; the input reads as it did. -/
def pileThreeSpec : ChangeSpec := { name := "pileThree", fn := fun _ => fun
  | [d1, d2, d3] => { results := [.lit (.bool true)], args := [d1, d2, d3] }
  | _ => none }
def pileThreeRow : OpenClaim := { program := "ytlaekicahpplbaa", sum := "c04c90f7b576b1191654cef0b44bb53f3d9af8ed2905f37a5a9981f71269523c", func := "spellwright/spellwrightlaw19.PileThree", spec := "pileThree", unfollowed := true, recurses := true, apart := false }
def PileThreeSaid : Prop := pileThreeRow.holds Try.pinned (OpenSpec.ofChange pileThreeSpec)

/-- ITS FALSE NEIGHBOUR: 'it returns false'. Refute it at one input. -/
def pileThreeWrong : ChangeSpec := { name := "pileThree", fn := fun _ => fun
  | [d1, d2, d3] => { results := [.lit (.bool false)], args := [d1, d2, d3] }
  | _ => none }
def PileThreeWrongFalsely : Prop := pileThreeRow.holds Try.pinned (OpenSpec.ofChange pileThreeWrong)

/- THE SECOND FORM. 'bulk': how many values and letters a reading holds, each counted each time it is reached (what is shared counts as often as it is met; a slice's spare places count too). A statement '..UptoSaid' is the law's where the arguments, and the package variables that the reading takes, are together of bulk at most 1048576: NARROWER than '..Said'. Prove '..Said' where nothing that the law and all that it calls make is longer than what came in: it says more and counts as full. Else prove '..UptoSaid'. A law counts once. -/
mutual
def uptoBulk {H : Type} : DataW H → Nat
  | .lit (.string bytes) => bytes.length + 1
  | .lit _ => 1
  | .nil => 1
  | .ptr d => uptoBulk d + 1
  | .slice elems spare => uptoBulkAll elems + uptoBulkAll spare + 1
  | .agg parts => uptoBulkAll parts + 1
  | .iface _ d => uptoBulk d + 1
  | .map entries => uptoBulkEntries entries + 1
  | .held _ => 1
def uptoBulkAll {H : Type} : List (DataW H) → Nat
  | [] => 0
  | d :: r => uptoBulk d + uptoBulkAll r
def uptoBulkEntries {H : Type} : List (Lit × DataW H) → Nat
  | [] => 0
  | x :: r => uptoBulkEntry x + uptoBulkEntries r
def uptoBulkEntry {H : Type} : Lit × DataW H → Nat
  | (.string bytes, d) => bytes.length + uptoBulk d + 1
  | (_, d) => uptoBulk d + 1
 end
def uptoSmall : (H : Type) → List (DataW H) → Bool := fun _ ds => decide (uptoBulkAll ds ≤ 1048576)
def OpenSpec.upto (s : _root_.Go.ChangeSpec) : _root_.Go.OpenSpec := { _root_.Go.OpenSpec.ofChange s with cond := some uptoSmall }

/-- 'spellwrightlaw02.CostTells', WHERE WHAT IT READS IS OF BULK AT MOST 1048576: true; the input reads as it did. -/
def costTellsUptoRow : OpenClaim := { program := "ytlaekicahpplbaa", sum := "c04c90f7b576b1191654cef0b44bb53f3d9af8ed2905f37a5a9981f71269523c", func := "spellwright/spellwrightlaw02.CostTells", spec := "costTells", inPlace := ["math/bits.Add64"], recurses := true, apart := false, narrowed := true }
def CostTellsUptoSaid : Prop := costTellsUptoRow.holds Try.pinned (OpenSpec.upto costTellsSpec)

/-- 'spellwrightlaw02.CostOrder', WHERE WHAT IT READS IS OF BULK AT MOST 1048576: true; the input reads as it did. -/
def costOrderUptoRow : OpenClaim := { program := "ytlaekicahpplbaa", sum := "c04c90f7b576b1191654cef0b44bb53f3d9af8ed2905f37a5a9981f71269523c", func := "spellwright/spellwrightlaw02.CostOrder", spec := "costOrder", inPlace := ["math/bits.Add64"], apart := false, narrowed := true }
def CostOrderUptoSaid : Prop := costOrderUptoRow.holds Try.pinned (OpenSpec.upto costOrderSpec)

/-- 'spellwrightlaw02.CostParts', WHERE WHAT IT READS IS OF BULK AT MOST 1048576: true; the input reads as it did. -/
def costPartsUptoRow : OpenClaim := { program := "ytlaekicahpplbaa", sum := "c04c90f7b576b1191654cef0b44bb53f3d9af8ed2905f37a5a9981f71269523c", func := "spellwright/spellwrightlaw02.CostParts", spec := "costParts", inPlace := ["math/bits.Add64"], apart := false, narrowed := true }
def CostPartsUptoSaid : Prop := costPartsUptoRow.holds Try.pinned (OpenSpec.upto costPartsSpec)

/-- 'spellwrightlaw02.CostTimes', WHERE WHAT IT READS IS OF BULK AT MOST 1048576: true; the input reads as it did. -/
def costTimesUptoRow : OpenClaim := { program := "ytlaekicahpplbaa", sum := "c04c90f7b576b1191654cef0b44bb53f3d9af8ed2905f37a5a9981f71269523c", func := "spellwright/spellwrightlaw02.CostTimes", spec := "costTimes", inPlace := ["math/bits.Add64"], apart := false, narrowed := true }
def CostTimesUptoSaid : Prop := costTimesUptoRow.holds Try.pinned (OpenSpec.upto costTimesSpec)

/-- 'spellwrightlaw02.CostLess', WHERE WHAT IT READS IS OF BULK AT MOST 1048576: true; the input reads as it did. -/
def costLessUptoRow : OpenClaim := { program := "ytlaekicahpplbaa", sum := "c04c90f7b576b1191654cef0b44bb53f3d9af8ed2905f37a5a9981f71269523c", func := "spellwright/spellwrightlaw02.CostLess", spec := "costLess", inPlace := ["math/bits.Add64"], apart := false, narrowed := true }
def CostLessUptoSaid : Prop := costLessUptoRow.holds Try.pinned (OpenSpec.upto costLessSpec)

/-- 'spellwrightlaw02.CostLeast', WHERE WHAT IT READS IS OF BULK AT MOST 1048576: true; the input reads as it did. -/
def costLeastUptoRow : OpenClaim := { program := "ytlaekicahpplbaa", sum := "c04c90f7b576b1191654cef0b44bb53f3d9af8ed2905f37a5a9981f71269523c", func := "spellwright/spellwrightlaw02.CostLeast", spec := "costLeast", inPlace := ["math/bits.Add64"], apart := false, narrowed := true }
def CostLeastUptoSaid : Prop := costLeastUptoRow.holds Try.pinned (OpenSpec.upto costLeastSpec)

/-- 'spellwrightlaw02.CostSpread', WHERE WHAT IT READS IS OF BULK AT MOST 1048576: true; the input reads as it did. -/
def costSpreadUptoRow : OpenClaim := { program := "ytlaekicahpplbaa", sum := "c04c90f7b576b1191654cef0b44bb53f3d9af8ed2905f37a5a9981f71269523c", func := "spellwright/spellwrightlaw02.CostSpread", spec := "costSpread", inPlace := ["math/bits.Add64"], apart := false, narrowed := true }
def CostSpreadUptoSaid : Prop := costSpreadUptoRow.holds Try.pinned (OpenSpec.upto costSpreadSpec)

/-- 'spellwrightlaw02.CostBoth', WHERE WHAT IT READS IS OF BULK AT MOST 1048576: true; the input reads as it did. -/
def costBothUptoRow : OpenClaim := { program := "ytlaekicahpplbaa", sum := "c04c90f7b576b1191654cef0b44bb53f3d9af8ed2905f37a5a9981f71269523c", func := "spellwright/spellwrightlaw02.CostBoth", spec := "costBoth", inPlace := ["math/bits.Add64"], apart := false, narrowed := true }
def CostBothUptoSaid : Prop := costBothUptoRow.holds Try.pinned (OpenSpec.upto costBothSpec)

/-- 'spellwrightlaw19.PileTells', WHERE WHAT IT READS IS OF BULK AT MOST 1048576: true; the input reads as it did. -/
def pileTellsUptoRow : OpenClaim := { program := "ytlaekicahpplbaa", sum := "c04c90f7b576b1191654cef0b44bb53f3d9af8ed2905f37a5a9981f71269523c", func := "spellwright/spellwrightlaw19.PileTells", spec := "pileTells", unfollowed := true, recurses := true, apart := false, narrowed := true }
def PileTellsUptoSaid : Prop := pileTellsUptoRow.holds Try.pinned (OpenSpec.upto pileTellsSpec)

/-- 'spellwrightlaw19.PileKeeps', WHERE WHAT IT READS IS OF BULK AT MOST 1048576: true; the input reads as it did. -/
def pileKeepsUptoRow : OpenClaim := { program := "ytlaekicahpplbaa", sum := "c04c90f7b576b1191654cef0b44bb53f3d9af8ed2905f37a5a9981f71269523c", func := "spellwright/spellwrightlaw19.PileKeeps", spec := "pileKeeps", unfollowed := true, recurses := true, apart := false, narrowed := true }
def PileKeepsUptoSaid : Prop := pileKeepsUptoRow.holds Try.pinned (OpenSpec.upto pileKeepsSpec)

/-- 'spellwrightlaw19.PileSorts', WHERE WHAT IT READS IS OF BULK AT MOST 1048576: true; the input reads as it did. -/
def pileSortsUptoRow : OpenClaim := { program := "ytlaekicahpplbaa", sum := "c04c90f7b576b1191654cef0b44bb53f3d9af8ed2905f37a5a9981f71269523c", func := "spellwright/spellwrightlaw19.PileSorts", spec := "pileSorts", unfollowed := true, recurses := true, apart := false, narrowed := true }
def PileSortsUptoSaid : Prop := pileSortsUptoRow.holds Try.pinned (OpenSpec.upto pileSortsSpec)

/-- 'spellwrightlaw19.PileThree', WHERE WHAT IT READS IS OF BULK AT MOST 1048576: true; the input reads as it did. -/
def pileThreeUptoRow : OpenClaim := { program := "ytlaekicahpplbaa", sum := "c04c90f7b576b1191654cef0b44bb53f3d9af8ed2905f37a5a9981f71269523c", func := "spellwright/spellwrightlaw19.PileThree", spec := "pileThree", unfollowed := true, recurses := true, apart := false, narrowed := true }
def PileThreeUptoSaid : Prop := pileThreeUptoRow.holds Try.pinned (OpenSpec.upto pileThreeSpec)

end Rows
end Go.Proofs.Ytlaekicahpplbaa

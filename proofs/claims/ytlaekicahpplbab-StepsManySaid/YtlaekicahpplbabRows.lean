/-
  No cell of these rows narrows 'for every input' (looked for: loops, veiled, ifaces, maps, wideKeys, modest, calm, conditions, laid).
  DERIVED. THE GIVEN ROWS OF THIS SEAT. 11 by the template 'for every input the law returns true; each argument reads behind the call as it read before'; 0 by the template 'total and deterministic' (their statements: YtlaekicahpplbabTotals.lean).
  GIVEN WITH THE SEED: the statements are not yours to turn. If you find one false, say at which input.
  Laid BY PROGRAM, IN A SANDBOX (cutbox-rows.mjs): the forced cells as the released guide's own fill.sh prints them over the translation e04521cf6201c446… (all of the seat's roots in one cut). By AI agents, Wed Nov 11 2026. No macro, syntax, notation, axiom, sorry.
-/
import Derived.Test.YtlaekicahpplbabChecked
import GoSem.Claim
import GoSem.ClaimJoined
import GoSem.ClaimMapViews
import Derived.JoinedTies
import Derived.KernelRfl
namespace Go.Proofs.Ytlaekicahpplbab
/- THE CELL 'sum', in the pinned program and in every row, IS THE sha256 OF THE DUMP (.gsa) THAT YtlaekicahpplbabProg.lean LOADS. Nothing in Lean hashes anything: it is a label: what it is worth is what the hold of that sum in a sandbox is worth. -/
noncomputable def Try.pinned : Pinned := { name := "ytlaekicahpplbab", sum := "e04521cf6201c4463e0432400ebd270f3bda2a0ad7417b954362d8e3f10ae413", checked := Try.checked }
namespace Rows
def none {H : Type} : Left H := { results := [], args := [] }

/-- 'spellwrightlaw19.PileHead': WHATEVER THE INPUT: true; the input reads as it did. -/
def pileHeadSpec : ChangeSpec := { name := "pileHead", fn := fun _ => fun
  | [d1, d2] => { results := [.lit (.bool true)], args := [d1, d2] }
  | _ => none }
def pileHeadRow : OpenClaim := { program := "ytlaekicahpplbab", sum := "e04521cf6201c4463e0432400ebd270f3bda2a0ad7417b954362d8e3f10ae413", func := "spellwright/spellwrightlaw19.PileHead", spec := "pileHead", unfollowed := true, recurses := true, plainKeys := false, apart := false }
def PileHeadSaid : Prop := pileHeadRow.holds Try.pinned (OpenSpec.ofChange pileHeadSpec)

/-- ITS FALSE NEIGHBOUR: 'it returns false'. Refute it at one input. -/
def pileHeadWrong : ChangeSpec := { name := "pileHead", fn := fun _ => fun
  | [d1, d2] => { results := [.lit (.bool false)], args := [d1, d2] }
  | _ => none }
def PileHeadWrongFalsely : Prop := pileHeadRow.holds Try.pinned (OpenSpec.ofChange pileHeadWrong)

/-- 'spellwrightlaw06.RuleTells': WHATEVER THE INPUT: true; the input reads as it did. -/
def ruleTellsSpec : ChangeSpec := { name := "ruleTells", fn := fun _ => fun
  | [d1, d2, d3] => { results := [.lit (.bool true)], args := [d1, d2, d3] }
  | _ => none }
def ruleTellsRow : OpenClaim := { program := "ytlaekicahpplbab", sum := "e04521cf6201c4463e0432400ebd270f3bda2a0ad7417b954362d8e3f10ae413", func := "spellwright/spellwrightlaw06.RuleTells", spec := "ruleTells", unfollowed := true, recurses := true, plainKeys := false, apart := false }
def RuleTellsSaid : Prop := ruleTellsRow.holds Try.pinned (OpenSpec.ofChange ruleTellsSpec)

/-- ITS FALSE NEIGHBOUR: 'it returns false'. Refute it at one input. -/
def ruleTellsWrong : ChangeSpec := { name := "ruleTells", fn := fun _ => fun
  | [d1, d2, d3] => { results := [.lit (.bool false)], args := [d1, d2, d3] }
  | _ => none }
def RuleTellsWrongFalsely : Prop := ruleTellsRow.holds Try.pinned (OpenSpec.ofChange ruleTellsWrong)

/-- 'spellwrightlaw06.RuleNorm': WHATEVER THE INPUT: true; the input reads as it did. -/
def ruleNormSpec : ChangeSpec := { name := "ruleNorm", fn := fun _ => fun
  | [d1, d2] => { results := [.lit (.bool true)], args := [d1, d2] }
  | _ => none }
def ruleNormRow : OpenClaim := { program := "ytlaekicahpplbab", sum := "e04521cf6201c4463e0432400ebd270f3bda2a0ad7417b954362d8e3f10ae413", func := "spellwright/spellwrightlaw06.RuleNorm", spec := "ruleNorm", unfollowed := true, recurses := true, plainKeys := false, apart := false }
def RuleNormSaid : Prop := ruleNormRow.holds Try.pinned (OpenSpec.ofChange ruleNormSpec)

/-- ITS FALSE NEIGHBOUR: 'it returns false'. Refute it at one input. -/
def ruleNormWrong : ChangeSpec := { name := "ruleNorm", fn := fun _ => fun
  | [d1, d2] => { results := [.lit (.bool false)], args := [d1, d2] }
  | _ => none }
def RuleNormWrongFalsely : Prop := ruleNormRow.holds Try.pinned (OpenSpec.ofChange ruleNormWrong)

/-- 'spellwrightlaw06.RuleHas': WHATEVER THE INPUT: true; the input reads as it did. -/
def ruleHasSpec : ChangeSpec := { name := "ruleHas", fn := fun _ => fun
  | [d] => { results := [.lit (.bool true)], args := [d] }
  | _ => none }
def ruleHasRow : OpenClaim := { program := "ytlaekicahpplbab", sum := "e04521cf6201c4463e0432400ebd270f3bda2a0ad7417b954362d8e3f10ae413", func := "spellwright/spellwrightlaw06.RuleHas", spec := "ruleHas", unfollowed := true, recurses := true, plainKeys := false, apart := false }
def RuleHasSaid : Prop := ruleHasRow.holds Try.pinned (OpenSpec.ofChange ruleHasSpec)

/-- ITS FALSE NEIGHBOUR: 'it returns false'. Refute it at one input. -/
def ruleHasWrong : ChangeSpec := { name := "ruleHas", fn := fun _ => fun
  | [d] => { results := [.lit (.bool false)], args := [d] }
  | _ => none }
def RuleHasWrongFalsely : Prop := ruleHasRow.holds Try.pinned (OpenSpec.ofChange ruleHasWrong)

/-- 'spellwrightlaw06.RuleThree': WHATEVER THE INPUT: true; the input reads as it did. -/
def ruleThreeSpec : ChangeSpec := { name := "ruleThree", fn := fun _ => fun
  | [d1, d2, d3] => { results := [.lit (.bool true)], args := [d1, d2, d3] }
  | _ => none }
def ruleThreeRow : OpenClaim := { program := "ytlaekicahpplbab", sum := "e04521cf6201c4463e0432400ebd270f3bda2a0ad7417b954362d8e3f10ae413", func := "spellwright/spellwrightlaw06.RuleThree", spec := "ruleThree", unfollowed := true, recurses := true, plainKeys := false, apart := false }
def RuleThreeSaid : Prop := ruleThreeRow.holds Try.pinned (OpenSpec.ofChange ruleThreeSpec)

/-- ITS FALSE NEIGHBOUR: 'it returns false'. Refute it at one input. -/
def ruleThreeWrong : ChangeSpec := { name := "ruleThree", fn := fun _ => fun
  | [d1, d2, d3] => { results := [.lit (.bool false)], args := [d1, d2, d3] }
  | _ => none }
def RuleThreeWrongFalsely : Prop := ruleThreeRow.holds Try.pinned (OpenSpec.ofChange ruleThreeWrong)

/-- 'spellwrightlaw06.RuleTurns': WHATEVER THE INPUT: true; the input reads as it did. -/
def ruleTurnsSpec : ChangeSpec := { name := "ruleTurns", fn := fun _ => fun
  | [d] => { results := [.lit (.bool true)], args := [d] }
  | _ => none }
def ruleTurnsRow : OpenClaim := { program := "ytlaekicahpplbab", sum := "e04521cf6201c4463e0432400ebd270f3bda2a0ad7417b954362d8e3f10ae413", func := "spellwright/spellwrightlaw06.RuleTurns", spec := "ruleTurns", unfollowed := true, recurses := true, plainKeys := false, apart := false }
def RuleTurnsSaid : Prop := ruleTurnsRow.holds Try.pinned (OpenSpec.ofChange ruleTurnsSpec)

/-- ITS FALSE NEIGHBOUR: 'it returns false'. Refute it at one input. -/
def ruleTurnsWrong : ChangeSpec := { name := "ruleTurns", fn := fun _ => fun
  | [d] => { results := [.lit (.bool false)], args := [d] }
  | _ => none }
def RuleTurnsWrongFalsely : Prop := ruleTurnsRow.holds Try.pinned (OpenSpec.ofChange ruleTurnsWrong)

/-- 'spellwrightlaw17.StepsTell': WHATEVER THE INPUT: true; the input reads as it did. -/
def stepsTellSpec : ChangeSpec := { name := "stepsTell", fn := fun _ => fun
  | [d1, d2, d3] => { results := [.lit (.bool true)], args := [d1, d2, d3] }
  | _ => none }
def stepsTellRow : OpenClaim := { program := "ytlaekicahpplbab", sum := "e04521cf6201c4463e0432400ebd270f3bda2a0ad7417b954362d8e3f10ae413", func := "spellwright/spellwrightlaw17.StepsTell", spec := "stepsTell", unfollowed := true, recurses := true, plainKeys := false, apart := false }
def StepsTellSaid : Prop := stepsTellRow.holds Try.pinned (OpenSpec.ofChange stepsTellSpec)

/-- ITS FALSE NEIGHBOUR: 'it returns false'. Refute it at one input. -/
def stepsTellWrong : ChangeSpec := { name := "stepsTell", fn := fun _ => fun
  | [d1, d2, d3] => { results := [.lit (.bool false)], args := [d1, d2, d3] }
  | _ => none }
def StepsTellWrongFalsely : Prop := stepsTellRow.holds Try.pinned (OpenSpec.ofChange stepsTellWrong)

/-- 'spellwrightlaw17.StepsMove': WHATEVER THE INPUT: true; the input reads as it did. -/
def stepsMoveSpec : ChangeSpec := { name := "stepsMove", fn := fun _ => fun
  | [d1, d2, d3] => { results := [.lit (.bool true)], args := [d1, d2, d3] }
  | _ => none }
def stepsMoveRow : OpenClaim := { program := "ytlaekicahpplbab", sum := "e04521cf6201c4463e0432400ebd270f3bda2a0ad7417b954362d8e3f10ae413", func := "spellwright/spellwrightlaw17.StepsMove", spec := "stepsMove", unfollowed := true, recurses := true, plainKeys := false, apart := false }
def StepsMoveSaid : Prop := stepsMoveRow.holds Try.pinned (OpenSpec.ofChange stepsMoveSpec)

/-- ITS FALSE NEIGHBOUR: 'it returns false'. Refute it at one input. -/
def stepsMoveWrong : ChangeSpec := { name := "stepsMove", fn := fun _ => fun
  | [d1, d2, d3] => { results := [.lit (.bool false)], args := [d1, d2, d3] }
  | _ => none }
def StepsMoveWrongFalsely : Prop := stepsMoveRow.holds Try.pinned (OpenSpec.ofChange stepsMoveWrong)

/-- 'spellwrightlaw17.StepsBehind': WHATEVER THE INPUT: true; the input reads as it did. -/
def stepsBehindSpec : ChangeSpec := { name := "stepsBehind", fn := fun _ => fun
  | [d1, d2, d3, d4] => { results := [.lit (.bool true)], args := [d1, d2, d3, d4] }
  | _ => none }
def stepsBehindRow : OpenClaim := { program := "ytlaekicahpplbab", sum := "e04521cf6201c4463e0432400ebd270f3bda2a0ad7417b954362d8e3f10ae413", func := "spellwright/spellwrightlaw17.StepsBehind", spec := "stepsBehind", unfollowed := true, recurses := true, plainKeys := false, apart := false }
def StepsBehindSaid : Prop := stepsBehindRow.holds Try.pinned (OpenSpec.ofChange stepsBehindSpec)

/-- ITS FALSE NEIGHBOUR: 'it returns false'. Refute it at one input. -/
def stepsBehindWrong : ChangeSpec := { name := "stepsBehind", fn := fun _ => fun
  | [d1, d2, d3, d4] => { results := [.lit (.bool false)], args := [d1, d2, d3, d4] }
  | _ => none }
def StepsBehindWrongFalsely : Prop := stepsBehindRow.holds Try.pinned (OpenSpec.ofChange stepsBehindWrong)

/-- 'spellwrightlaw17.StepsFew': WHATEVER THE INPUT: true; the input reads as it did. -/
def stepsFewSpec : ChangeSpec := { name := "stepsFew", fn := fun _ => fun
  | [d1, d2, d3, d4] => { results := [.lit (.bool true)], args := [d1, d2, d3, d4] }
  | _ => none }
def stepsFewRow : OpenClaim := { program := "ytlaekicahpplbab", sum := "e04521cf6201c4463e0432400ebd270f3bda2a0ad7417b954362d8e3f10ae413", func := "spellwright/spellwrightlaw17.StepsFew", spec := "stepsFew", unfollowed := true, recurses := true, plainKeys := false, apart := false }
def StepsFewSaid : Prop := stepsFewRow.holds Try.pinned (OpenSpec.ofChange stepsFewSpec)

/-- ITS FALSE NEIGHBOUR: 'it returns false'. Refute it at one input. -/
def stepsFewWrong : ChangeSpec := { name := "stepsFew", fn := fun _ => fun
  | [d1, d2, d3, d4] => { results := [.lit (.bool false)], args := [d1, d2, d3, d4] }
  | _ => none }
def StepsFewWrongFalsely : Prop := stepsFewRow.holds Try.pinned (OpenSpec.ofChange stepsFewWrong)

/-- 'spellwrightlaw17.StepsMany': WHATEVER THE INPUT: true; the input reads as it did. -/
def stepsManySpec : ChangeSpec := { name := "stepsMany", fn := fun _ => fun
  | [d1, d2, d3] => { results := [.lit (.bool true)], args := [d1, d2, d3] }
  | _ => none }
def stepsManyRow : OpenClaim := { program := "ytlaekicahpplbab", sum := "e04521cf6201c4463e0432400ebd270f3bda2a0ad7417b954362d8e3f10ae413", func := "spellwright/spellwrightlaw17.StepsMany", spec := "stepsMany", unfollowed := true, recurses := true, plainKeys := false, apart := false }
def StepsManySaid : Prop := stepsManyRow.holds Try.pinned (OpenSpec.ofChange stepsManySpec)

/-- ITS FALSE NEIGHBOUR: 'it returns false'. Refute it at one input. -/
def stepsManyWrong : ChangeSpec := { name := "stepsMany", fn := fun _ => fun
  | [d1, d2, d3] => { results := [.lit (.bool false)], args := [d1, d2, d3] }
  | _ => none }
def StepsManyWrongFalsely : Prop := stepsManyRow.holds Try.pinned (OpenSpec.ofChange stepsManyWrong)

/- THE SECOND FORM. 'bulk': how many values and letters a reading holds, each counted each time it is reached (what is shared counts as often as it is met; a slice's spare places count too). A statement '..UptoSaid' is the law's where the arguments, and the package variables that the reading takes, are together of bulk at most 1048576: NARROWER than '..Said'. Prove '..Said' where nothing that the law and all that it calls make is longer than what came in: it says more and counts as full. Else prove '..UptoSaid'. A law counts once. -/
mutual
def uptoBulk {H : Type} : DataW H → Nat
  | .lit (.string bytes) => bytes.length + 1
  | .lit _ => 1
  | .nil => 1
  | .ptr d => uptoBulk d + 1
  | .slice elems spare => uptoBulkAll elems + uptoBulkAll spare + 1
  | .agg parts => uptoBulkAll parts + 1
  | .iface _ d => uptoBulk d + 1
  | .map entries => uptoBulkEntries entries + 1
  | .held _ => 1
def uptoBulkAll {H : Type} : List (DataW H) → Nat
  | [] => 0
  | d :: r => uptoBulk d + uptoBulkAll r
def uptoBulkEntries {H : Type} : List (Lit × DataW H) → Nat
  | [] => 0
  | x :: r => uptoBulkEntry x + uptoBulkEntries r
def uptoBulkEntry {H : Type} : Lit × DataW H → Nat
  | (.string bytes, d) => bytes.length + uptoBulk d + 1
  | (_, d) => uptoBulk d + 1
 end
def uptoSmall : (H : Type) → List (DataW H) → Bool := fun _ ds => decide (uptoBulkAll ds ≤ 1048576)
def OpenSpec.upto (s : _root_.Go.ChangeSpec) : _root_.Go.OpenSpec := { _root_.Go.OpenSpec.ofChange s with cond := some uptoSmall }

/-- 'spellwrightlaw19.PileHead', WHERE WHAT IT READS IS OF BULK AT MOST 1048576: true; the input reads as it did. -/
def pileHeadUptoRow : OpenClaim := { program := "ytlaekicahpplbab", sum := "e04521cf6201c4463e0432400ebd270f3bda2a0ad7417b954362d8e3f10ae413", func := "spellwright/spellwrightlaw19.PileHead", spec := "pileHead", unfollowed := true, recurses := true, plainKeys := false, apart := false, narrowed := true }
def PileHeadUptoSaid : Prop := pileHeadUptoRow.holds Try.pinned (OpenSpec.upto pileHeadSpec)

/-- 'spellwrightlaw06.RuleTells', WHERE WHAT IT READS IS OF BULK AT MOST 1048576: true; the input reads as it did. -/
def ruleTellsUptoRow : OpenClaim := { program := "ytlaekicahpplbab", sum := "e04521cf6201c4463e0432400ebd270f3bda2a0ad7417b954362d8e3f10ae413", func := "spellwright/spellwrightlaw06.RuleTells", spec := "ruleTells", unfollowed := true, recurses := true, plainKeys := false, apart := false, narrowed := true }
def RuleTellsUptoSaid : Prop := ruleTellsUptoRow.holds Try.pinned (OpenSpec.upto ruleTellsSpec)

/-- 'spellwrightlaw06.RuleNorm', WHERE WHAT IT READS IS OF BULK AT MOST 1048576: true; the input reads as it did. -/
def ruleNormUptoRow : OpenClaim := { program := "ytlaekicahpplbab", sum := "e04521cf6201c4463e0432400ebd270f3bda2a0ad7417b954362d8e3f10ae413", func := "spellwright/spellwrightlaw06.RuleNorm", spec := "ruleNorm", unfollowed := true, recurses := true, plainKeys := false, apart := false, narrowed := true }
def RuleNormUptoSaid : Prop := ruleNormUptoRow.holds Try.pinned (OpenSpec.upto ruleNormSpec)

/-- 'spellwrightlaw06.RuleHas', WHERE WHAT IT READS IS OF BULK AT MOST 1048576: true; the input reads as it did. -/
def ruleHasUptoRow : OpenClaim := { program := "ytlaekicahpplbab", sum := "e04521cf6201c4463e0432400ebd270f3bda2a0ad7417b954362d8e3f10ae413", func := "spellwright/spellwrightlaw06.RuleHas", spec := "ruleHas", unfollowed := true, recurses := true, plainKeys := false, apart := false, narrowed := true }
def RuleHasUptoSaid : Prop := ruleHasUptoRow.holds Try.pinned (OpenSpec.upto ruleHasSpec)

/-- 'spellwrightlaw06.RuleThree', WHERE WHAT IT READS IS OF BULK AT MOST 1048576: true; the input reads as it did. -/
def ruleThreeUptoRow : OpenClaim := { program := "ytlaekicahpplbab", sum := "e04521cf6201c4463e0432400ebd270f3bda2a0ad7417b954362d8e3f10ae413", func := "spellwright/spellwrightlaw06.RuleThree", spec := "ruleThree", unfollowed := true, recurses := true, plainKeys := false, apart := false, narrowed := true }
def RuleThreeUptoSaid : Prop := ruleThreeUptoRow.holds Try.pinned (OpenSpec.upto ruleThreeSpec)

/-- 'spellwrightlaw06.RuleTurns', WHERE WHAT IT READS IS OF BULK AT MOST 1048576: true; the input reads as it did. -/
def ruleTurnsUptoRow : OpenClaim := { program := "ytlaekicahpplbab", sum := "e04521cf6201c4463e0432400ebd270f3bda2a0ad7417b954362d8e3f10ae413", func := "spellwright/spellwrightlaw06.RuleTurns", spec := "ruleTurns", unfollowed := true, recurses := true, plainKeys := false, apart := false, narrowed := true }
def RuleTurnsUptoSaid : Prop := ruleTurnsUptoRow.holds Try.pinned (OpenSpec.upto ruleTurnsSpec)

/-- 'spellwrightlaw17.StepsTell', WHERE WHAT IT READS IS OF BULK AT MOST 1048576: true; the input reads as it did. -/
def stepsTellUptoRow : OpenClaim := { program := "ytlaekicahpplbab", sum := "e04521cf6201c4463e0432400ebd270f3bda2a0ad7417b954362d8e3f10ae413", func := "spellwright/spellwrightlaw17.StepsTell", spec := "stepsTell", unfollowed := true, recurses := true, plainKeys := false, apart := false, narrowed := true }
def StepsTellUptoSaid : Prop := stepsTellUptoRow.holds Try.pinned (OpenSpec.upto stepsTellSpec)

/-- 'spellwrightlaw17.StepsMove', WHERE WHAT IT READS IS OF BULK AT MOST 1048576: true; the input reads as it did. -/
def stepsMoveUptoRow : OpenClaim := { program := "ytlaekicahpplbab", sum := "e04521cf6201c4463e0432400ebd270f3bda2a0ad7417b954362d8e3f10ae413", func := "spellwright/spellwrightlaw17.StepsMove", spec := "stepsMove", unfollowed := true, recurses := true, plainKeys := false, apart := false, narrowed := true }
def StepsMoveUptoSaid : Prop := stepsMoveUptoRow.holds Try.pinned (OpenSpec.upto stepsMoveSpec)

/-- 'spellwrightlaw17.StepsBehind', WHERE WHAT IT READS IS OF BULK AT MOST 1048576: true; the input reads as it did. -/
def stepsBehindUptoRow : OpenClaim := { program := "ytlaekicahpplbab", sum := "e04521cf6201c4463e0432400ebd270f3bda2a0ad7417b954362d8e3f10ae413", func := "spellwright/spellwrightlaw17.StepsBehind", spec := "stepsBehind", unfollowed := true, recurses := true, plainKeys := false, apart := false, narrowed := true }
def StepsBehindUptoSaid : Prop := stepsBehindUptoRow.holds Try.pinned (OpenSpec.upto stepsBehindSpec)

/-- 'spellwrightlaw17.StepsFew', WHERE WHAT IT READS IS OF BULK AT MOST 1048576: true; the input reads as it did. -/
def stepsFewUptoRow : OpenClaim := { program := "ytlaekicahpplbab", sum := "e04521cf6201c4463e0432400ebd270f3bda2a0ad7417b954362d8e3f10ae413", func := "spellwright/spellwrightlaw17.StepsFew", spec := "stepsFew", unfollowed := true, recurses := true, plainKeys := false, apart := false, narrowed := true }
def StepsFewUptoSaid : Prop := stepsFewUptoRow.holds Try.pinned (OpenSpec.upto stepsFewSpec)

/-- 'spellwrightlaw17.StepsMany', WHERE WHAT IT READS IS OF BULK AT MOST 1048576: true; the input reads as it did. -/
def stepsManyUptoRow : OpenClaim := { program := "ytlaekicahpplbab", sum := "e04521cf6201c4463e0432400ebd270f3bda2a0ad7417b954362d8e3f10ae413", func := "spellwright/spellwrightlaw17.StepsMany", spec := "stepsMany", unfollowed := true, recurses := true, plainKeys := false, apart := false, narrowed := true }
def StepsManyUptoSaid : Prop := stepsManyUptoRow.holds Try.pinned (OpenSpec.upto stepsManySpec)

end Rows
end Go.Proofs.Ytlaekicahpplbab

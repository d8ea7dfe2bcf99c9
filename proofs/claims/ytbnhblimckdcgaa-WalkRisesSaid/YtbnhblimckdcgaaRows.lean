/-
  No cell of these rows narrows 'for every input' (looked for: loops, veiled, ifaces, maps, wideKeys, modest, calm, conditions, laid).
  DERIVED. THE GIVEN ROWS OF THIS SEAT. 9 by the template 'for every input the law returns true; each argument reads behind the call as it read before'; 0 by the template 'total and deterministic' (their statements: YtbnhblimckdcgaaTotals.lean).
  GIVEN WITH THE SEED: the statements are not yours to turn. If you find one false, say at which input.
  Laid BY PROGRAM, IN A SANDBOX (cutbox-rows.mjs): the forced cells as the released guide's own fill.sh prints them over the translation 79ffd74b6189b72f… (all of the seat's roots in one cut). By AI agents, Wed Nov 11 2026. No macro, syntax, notation, axiom, sorry.
-/
import Derived.Test.YtbnhblimckdcgaaChecked
import GoSem.Claim
import GoSem.ClaimJoined
import GoSem.ClaimMapViews
import Derived.JoinedTies
import Derived.KernelRfl
namespace Go.Proofs.Ytbnhblimckdcgaa
/- THE CELL 'sum', in the pinned program and in every row, IS THE sha256 OF THE DUMP (.gsa) THAT YtbnhblimckdcgaaProg.lean LOADS. Nothing in Lean hashes anything: it is a label: what it is worth is what the hold of that sum in a sandbox is worth. -/
noncomputable def Try.pinned : Pinned := { name := "ytbnhblimckdcgaa", sum := "79ffd74b6189b72f7faeb751583ede9a7ccb0fe14148fda97b01af715dff62fc", checked := Try.checked }
namespace Rows
def none {H : Type} : Left H := { results := [], args := [] }

/-- 'spellwrightlaw18.DistParts': WHATEVER THE INPUT: true; the input reads as it did. -/
def distPartsSpec : ChangeSpec := { name := "distParts", fn := fun _ => fun
  | [d1, d2, d3, d4, d5] => { results := [.lit (.bool true)], args := [d1, d2, d3, d4, d5] }
  | _ => none }
def distPartsRow : OpenClaim := { program := "ytbnhblimckdcgaa", sum := "79ffd74b6189b72f7faeb751583ede9a7ccb0fe14148fda97b01af715dff62fc", func := "spellwright/spellwrightlaw18.DistParts", spec := "distParts", inPlace := ["math/bits.Add64"], unfollowed := true, recurses := true, plainKeys := false, apart := false }
def DistPartsSaid : Prop := distPartsRow.holds Try.pinned (OpenSpec.ofChange distPartsSpec)

/-- ITS FALSE NEIGHBOUR: 'it returns false'. Refute it at one input. -/
def distPartsWrong : ChangeSpec := { name := "distParts", fn := fun _ => fun
  | [d1, d2, d3, d4, d5] => { results := [.lit (.bool false)], args := [d1, d2, d3, d4, d5] }
  | _ => none }
def DistPartsWrongFalsely : Prop := distPartsRow.holds Try.pinned (OpenSpec.ofChange distPartsWrong)

/-- 'spellwrightlaw18.DistScale': WHATEVER THE INPUT: true; the input reads as it did. -/
def distScaleSpec : ChangeSpec := { name := "distScale", fn := fun _ => fun
  | [d1, d2, d3, d4] => { results := [.lit (.bool true)], args := [d1, d2, d3, d4] }
  | _ => none }
def distScaleRow : OpenClaim := { program := "ytbnhblimckdcgaa", sum := "79ffd74b6189b72f7faeb751583ede9a7ccb0fe14148fda97b01af715dff62fc", func := "spellwright/spellwrightlaw18.DistScale", spec := "distScale", inPlace := ["math/bits.Add64"], unfollowed := true, recurses := true, plainKeys := false, apart := false }
def DistScaleSaid : Prop := distScaleRow.holds Try.pinned (OpenSpec.ofChange distScaleSpec)

/-- ITS FALSE NEIGHBOUR: 'it returns false'. Refute it at one input. -/
def distScaleWrong : ChangeSpec := { name := "distScale", fn := fun _ => fun
  | [d1, d2, d3, d4] => { results := [.lit (.bool false)], args := [d1, d2, d3, d4] }
  | _ => none }
def DistScaleWrongFalsely : Prop := distScaleRow.holds Try.pinned (OpenSpec.ofChange distScaleWrong)

/-- 'spellwrightlaw18.DistBegins': WHATEVER THE INPUT: true; the input reads as it did. -/
def distBeginsSpec : ChangeSpec := { name := "distBegins", fn := fun _ => fun
  | [d1, d2, d3, d4] => { results := [.lit (.bool true)], args := [d1, d2, d3, d4] }
  | _ => none }
def distBeginsRow : OpenClaim := { program := "ytbnhblimckdcgaa", sum := "79ffd74b6189b72f7faeb751583ede9a7ccb0fe14148fda97b01af715dff62fc", func := "spellwright/spellwrightlaw18.DistBegins", spec := "distBegins", inPlace := ["math/bits.Add64"], unfollowed := true, recurses := true, plainKeys := false, apart := false }
def DistBeginsSaid : Prop := distBeginsRow.holds Try.pinned (OpenSpec.ofChange distBeginsSpec)

/-- ITS FALSE NEIGHBOUR: 'it returns false'. Refute it at one input. -/
def distBeginsWrong : ChangeSpec := { name := "distBegins", fn := fun _ => fun
  | [d1, d2, d3, d4] => { results := [.lit (.bool false)], args := [d1, d2, d3, d4] }
  | _ => none }
def DistBeginsWrongFalsely : Prop := distBeginsRow.holds Try.pinned (OpenSpec.ofChange distBeginsWrong)

/-- 'spellwrightlaw12.WalkTells': WHATEVER THE INPUT: true; the input reads as it did. -/
def walkTellsSpec : ChangeSpec := { name := "walkTells", fn := fun _ => fun
  | [d1, d2, d3] => { results := [.lit (.bool true)], args := [d1, d2, d3] }
  | _ => none }
def walkTellsRow : OpenClaim := { program := "ytbnhblimckdcgaa", sum := "79ffd74b6189b72f7faeb751583ede9a7ccb0fe14148fda97b01af715dff62fc", func := "spellwright/spellwrightlaw12.WalkTells", spec := "walkTells", unfollowed := true, recurses := true, plainKeys := false, apart := false }
def WalkTellsSaid : Prop := walkTellsRow.holds Try.pinned (OpenSpec.ofChange walkTellsSpec)

/-- ITS FALSE NEIGHBOUR: 'it returns false'. Refute it at one input. -/
def walkTellsWrong : ChangeSpec := { name := "walkTells", fn := fun _ => fun
  | [d1, d2, d3] => { results := [.lit (.bool false)], args := [d1, d2, d3] }
  | _ => none }
def WalkTellsWrongFalsely : Prop := walkTellsRow.holds Try.pinned (OpenSpec.ofChange walkTellsWrong)

/-- 'spellwrightlaw12.WalkOn': WHATEVER THE INPUT: true; the input reads as it did. -/
def walkOnSpec : ChangeSpec := { name := "walkOn", fn := fun _ => fun
  | [d1, d2, d3, d4] => { results := [.lit (.bool true)], args := [d1, d2, d3, d4] }
  | _ => none }
def walkOnRow : OpenClaim := { program := "ytbnhblimckdcgaa", sum := "79ffd74b6189b72f7faeb751583ede9a7ccb0fe14148fda97b01af715dff62fc", func := "spellwright/spellwrightlaw12.WalkOn", spec := "walkOn", unfollowed := true, recurses := true, plainKeys := false, apart := false }
def WalkOnSaid : Prop := walkOnRow.holds Try.pinned (OpenSpec.ofChange walkOnSpec)

/-- ITS FALSE NEIGHBOUR: 'it returns false'. Refute it at one input. -/
def walkOnWrong : ChangeSpec := { name := "walkOn", fn := fun _ => fun
  | [d1, d2, d3, d4] => { results := [.lit (.bool false)], args := [d1, d2, d3, d4] }
  | _ => none }
def WalkOnWrongFalsely : Prop := walkOnRow.holds Try.pinned (OpenSpec.ofChange walkOnWrong)

/-- 'spellwrightlaw12.WalkRises': WHATEVER THE INPUT: true; the input reads as it did. -/
def walkRisesSpec : ChangeSpec := { name := "walkRises", fn := fun _ => fun
  | [d1, d2, d3] => { results := [.lit (.bool true)], args := [d1, d2, d3] }
  | _ => none }
def walkRisesRow : OpenClaim := { program := "ytbnhblimckdcgaa", sum := "79ffd74b6189b72f7faeb751583ede9a7ccb0fe14148fda97b01af715dff62fc", func := "spellwright/spellwrightlaw12.WalkRises", spec := "walkRises", unfollowed := true, recurses := true, plainKeys := false, apart := false }
def WalkRisesSaid : Prop := walkRisesRow.holds Try.pinned (OpenSpec.ofChange walkRisesSpec)

/-- ITS FALSE NEIGHBOUR: 'it returns false'. Refute it at one input. -/
def walkRisesWrong : ChangeSpec := { name := "walkRises", fn := fun _ => fun
  | [d1, d2, d3] => { results := [.lit (.bool false)], args := [d1, d2, d3] }
  | _ => none }
def WalkRisesWrongFalsely : Prop := walkRisesRow.holds Try.pinned (OpenSpec.ofChange walkRisesWrong)

/-- 'spellwrightlaw20.TogoLeads': WHATEVER THE INPUT: true; the input reads as it did. -/
def togoLeadsSpec : ChangeSpec := { name := "togoLeads", fn := fun _ => fun
  | [d1, d2, d3, d4, d5] => { results := [.lit (.bool true)], args := [d1, d2, d3, d4, d5] }
  | _ => none }
def togoLeadsRow : OpenClaim := { program := "ytbnhblimckdcgaa", sum := "79ffd74b6189b72f7faeb751583ede9a7ccb0fe14148fda97b01af715dff62fc", func := "spellwright/spellwrightlaw20.TogoLeads", spec := "togoLeads", inPlace := ["math/bits.Add64"], unfollowed := true, recurses := true, plainKeys := false, apart := false }
def TogoLeadsSaid : Prop := togoLeadsRow.holds Try.pinned (OpenSpec.ofChange togoLeadsSpec)

/-- ITS FALSE NEIGHBOUR: 'it returns false'. Refute it at one input. -/
def togoLeadsWrong : ChangeSpec := { name := "togoLeads", fn := fun _ => fun
  | [d1, d2, d3, d4, d5] => { results := [.lit (.bool false)], args := [d1, d2, d3, d4, d5] }
  | _ => none }
def TogoLeadsWrongFalsely : Prop := togoLeadsRow.holds Try.pinned (OpenSpec.ofChange togoLeadsWrong)

/-- 'spellwrightlaw20.TogoFew': WHATEVER THE INPUT: true; the input reads as it did. -/
def togoFewSpec : ChangeSpec := { name := "togoFew", fn := fun _ => fun
  | [d1, d2, d3, d4] => { results := [.lit (.bool true)], args := [d1, d2, d3, d4] }
  | _ => none }
def togoFewRow : OpenClaim := { program := "ytbnhblimckdcgaa", sum := "79ffd74b6189b72f7faeb751583ede9a7ccb0fe14148fda97b01af715dff62fc", func := "spellwright/spellwrightlaw20.TogoFew", spec := "togoFew", inPlace := ["math/bits.Add64"], unfollowed := true, recurses := true, plainKeys := false, apart := false }
def TogoFewSaid : Prop := togoFewRow.holds Try.pinned (OpenSpec.ofChange togoFewSpec)

/-- ITS FALSE NEIGHBOUR: 'it returns false'. Refute it at one input. -/
def togoFewWrong : ChangeSpec := { name := "togoFew", fn := fun _ => fun
  | [d1, d2, d3, d4] => { results := [.lit (.bool false)], args := [d1, d2, d3, d4] }
  | _ => none }
def TogoFewWrongFalsely : Prop := togoFewRow.holds Try.pinned (OpenSpec.ofChange togoFewWrong)

/-- 'spellwrightlaw20.TogoFinal': WHATEVER THE INPUT: true; the input reads as it did. -/
def togoFinalSpec : ChangeSpec := { name := "togoFinal", fn := fun _ => fun
  | [d1, d2, d3, d4] => { results := [.lit (.bool true)], args := [d1, d2, d3, d4] }
  | _ => none }
def togoFinalRow : OpenClaim := { program := "ytbnhblimckdcgaa", sum := "79ffd74b6189b72f7faeb751583ede9a7ccb0fe14148fda97b01af715dff62fc", func := "spellwright/spellwrightlaw20.TogoFinal", spec := "togoFinal", inPlace := ["math/bits.Add64"], unfollowed := true, recurses := true, plainKeys := false, apart := false }
def TogoFinalSaid : Prop := togoFinalRow.holds Try.pinned (OpenSpec.ofChange togoFinalSpec)

/-- ITS FALSE NEIGHBOUR: 'it returns false'. Refute it at one input. -/
def togoFinalWrong : ChangeSpec := { name := "togoFinal", fn := fun _ => fun
  | [d1, d2, d3, d4] => { results := [.lit (.bool false)], args := [d1, d2, d3, d4] }
  | _ => none }
def TogoFinalWrongFalsely : Prop := togoFinalRow.holds Try.pinned (OpenSpec.ofChange togoFinalWrong)

/- THE SECOND FORM. 'bulk': how many values and letters a reading holds, each counted each time it is reached (what is shared counts as often as it is met; a slice's spare places count too). A statement '..UptoSaid' is the law's where the arguments, and the package variables that the reading takes, are together of bulk at most 1048576: NARROWER than '..Said'. Prove '..Said' where nothing that the law and all that it calls make is longer than what came in: it says more and counts as full. Else prove '..UptoSaid'. A law counts once. -/
mutual
def uptoBulk {H : Type} : DataW H → Nat
  | .lit (.string bytes) => bytes.length + 1
  | .lit _ => 1
  | .nil => 1
  | .ptr d => uptoBulk d + 1
  | .slice elems spare => uptoBulkAll elems + uptoBulkAll spare + 1
  | .agg parts => uptoBulkAll parts + 1
  | .iface _ d => uptoBulk d + 1
  | .map entries => uptoBulkEntries entries + 1
  | .held _ => 1
def uptoBulkAll {H : Type} : List (DataW H) → Nat
  | [] => 0
  | d :: r => uptoBulk d + uptoBulkAll r
def uptoBulkEntries {H : Type} : List (Lit × DataW H) → Nat
  | [] => 0
  | x :: r => uptoBulkEntry x + uptoBulkEntries r
def uptoBulkEntry {H : Type} : Lit × DataW H → Nat
  | (.string bytes, d) => bytes.length + uptoBulk d + 1
  | (_, d) => uptoBulk d + 1
 end
def uptoSmall : (H : Type) → List (DataW H) → Bool := fun _ ds => decide (uptoBulkAll ds ≤ 1048576)
def OpenSpec.upto (s : _root_.Go.ChangeSpec) : _root_.Go.OpenSpec := { _root_.Go.OpenSpec.ofChange s with cond := some uptoSmall }

/-- 'spellwrightlaw18.DistParts', WHERE WHAT IT READS IS OF BULK AT MOST 1048576: true; the input reads as it did. -/
def distPartsUptoRow : OpenClaim := { program := "ytbnhblimckdcgaa", sum := "79ffd74b6189b72f7faeb751583ede9a7ccb0fe14148fda97b01af715dff62fc", func := "spellwright/spellwrightlaw18.DistParts", spec := "distParts", inPlace := ["math/bits.Add64"], unfollowed := true, recurses := true, plainKeys := false, apart := false, narrowed := true }
def DistPartsUptoSaid : Prop := distPartsUptoRow.holds Try.pinned (OpenSpec.upto distPartsSpec)

/-- 'spellwrightlaw18.DistScale', WHERE WHAT IT READS IS OF BULK AT MOST 1048576: true; the input reads as it did. -/
def distScaleUptoRow : OpenClaim := { program := "ytbnhblimckdcgaa", sum := "79ffd74b6189b72f7faeb751583ede9a7ccb0fe14148fda97b01af715dff62fc", func := "spellwright/spellwrightlaw18.DistScale", spec := "distScale", inPlace := ["math/bits.Add64"], unfollowed := true, recurses := true, plainKeys := false, apart := false, narrowed := true }
def DistScaleUptoSaid : Prop := distScaleUptoRow.holds Try.pinned (OpenSpec.upto distScaleSpec)

/-- 'spellwrightlaw18.DistBegins', WHERE WHAT IT READS IS OF BULK AT MOST 1048576: true; the input reads as it did. -/
def distBeginsUptoRow : OpenClaim := { program := "ytbnhblimckdcgaa", sum := "79ffd74b6189b72f7faeb751583ede9a7ccb0fe14148fda97b01af715dff62fc", func := "spellwright/spellwrightlaw18.DistBegins", spec := "distBegins", inPlace := ["math/bits.Add64"], unfollowed := true, recurses := true, plainKeys := false, apart := false, narrowed := true }
def DistBeginsUptoSaid : Prop := distBeginsUptoRow.holds Try.pinned (OpenSpec.upto distBeginsSpec)

/-- 'spellwrightlaw12.WalkTells', WHERE WHAT IT READS IS OF BULK AT MOST 1048576: true; the input reads as it did. -/
def walkTellsUptoRow : OpenClaim := { program := "ytbnhblimckdcgaa", sum := "79ffd74b6189b72f7faeb751583ede9a7ccb0fe14148fda97b01af715dff62fc", func := "spellwright/spellwrightlaw12.WalkTells", spec := "walkTells", unfollowed := true, recurses := true, plainKeys := false, apart := false, narrowed := true }
def WalkTellsUptoSaid : Prop := walkTellsUptoRow.holds Try.pinned (OpenSpec.upto walkTellsSpec)

/-- 'spellwrightlaw12.WalkOn', WHERE WHAT IT READS IS OF BULK AT MOST 1048576: true; the input reads as it did. -/
def walkOnUptoRow : OpenClaim := { program := "ytbnhblimckdcgaa", sum := "79ffd74b6189b72f7faeb751583ede9a7ccb0fe14148fda97b01af715dff62fc", func := "spellwright/spellwrightlaw12.WalkOn", spec := "walkOn", unfollowed := true, recurses := true, plainKeys := false, apart := false, narrowed := true }
def WalkOnUptoSaid : Prop := walkOnUptoRow.holds Try.pinned (OpenSpec.upto walkOnSpec)

/-- 'spellwrightlaw12.WalkRises', WHERE WHAT IT READS IS OF BULK AT MOST 1048576: true; the input reads as it did. -/
def walkRisesUptoRow : OpenClaim := { program := "ytbnhblimckdcgaa", sum := "79ffd74b6189b72f7faeb751583ede9a7ccb0fe14148fda97b01af715dff62fc", func := "spellwright/spellwrightlaw12.WalkRises", spec := "walkRises", unfollowed := true, recurses := true, plainKeys := false, apart := false, narrowed := true }
def WalkRisesUptoSaid : Prop := walkRisesUptoRow.holds Try.pinned (OpenSpec.upto walkRisesSpec)

/-- 'spellwrightlaw20.TogoLeads', WHERE WHAT IT READS IS OF BULK AT MOST 1048576: true; the input reads as it did. -/
def togoLeadsUptoRow : OpenClaim := { program := "ytbnhblimckdcgaa", sum := "79ffd74b6189b72f7faeb751583ede9a7ccb0fe14148fda97b01af715dff62fc", func := "spellwright/spellwrightlaw20.TogoLeads", spec := "togoLeads", inPlace := ["math/bits.Add64"], unfollowed := true, recurses := true, plainKeys := false, apart := false, narrowed := true }
def TogoLeadsUptoSaid : Prop := togoLeadsUptoRow.holds Try.pinned (OpenSpec.upto togoLeadsSpec)

/-- 'spellwrightlaw20.TogoFew', WHERE WHAT IT READS IS OF BULK AT MOST 1048576: true; the input reads as it did. -/
def togoFewUptoRow : OpenClaim := { program := "ytbnhblimckdcgaa", sum := "79ffd74b6189b72f7faeb751583ede9a7ccb0fe14148fda97b01af715dff62fc", func := "spellwright/spellwrightlaw20.TogoFew", spec := "togoFew", inPlace := ["math/bits.Add64"], unfollowed := true, recurses := true, plainKeys := false, apart := false, narrowed := true }
def TogoFewUptoSaid : Prop := togoFewUptoRow.holds Try.pinned (OpenSpec.upto togoFewSpec)

/-- 'spellwrightlaw20.TogoFinal', WHERE WHAT IT READS IS OF BULK AT MOST 1048576: true; the input reads as it did. -/
def togoFinalUptoRow : OpenClaim := { program := "ytbnhblimckdcgaa", sum := "79ffd74b6189b72f7faeb751583ede9a7ccb0fe14148fda97b01af715dff62fc", func := "spellwright/spellwrightlaw20.TogoFinal", spec := "togoFinal", inPlace := ["math/bits.Add64"], unfollowed := true, recurses := true, plainKeys := false, apart := false, narrowed := true }
def TogoFinalUptoSaid : Prop := togoFinalUptoRow.holds Try.pinned (OpenSpec.upto togoFinalSpec)

end Rows
end Go.Proofs.Ytbnhblimckdcgaa

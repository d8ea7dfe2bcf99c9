/-
  No cell of these rows narrows 'for every input' (looked for: loops, veiled, ifaces, maps, wideKeys, modest, calm, conditions, laid).
  DERIVED. THE GIVEN ROWS OF THIS SEAT. 2 by the template 'for every input the law returns true; each argument reads behind the call as it read before'; 0 by the template 'total and deterministic' (their statements: YtbnhblimckdcgaaGreatTotals.lean).
  GIVEN WITH THE SEED: the statements are not yours to turn. If you find one false, say at which input.
  Laid BY PROGRAM, IN A SANDBOX (cutbox-rows.mjs): the forced cells as the released guide's own fill.sh prints them over the translation 49546744d76a08fe… (all of the seat's roots in one cut). By AI agents, Wed Nov 11 2026. No macro, syntax, notation, axiom, sorry.
-/
import Derived.Test.YtbnhblimckdcgaaGreatChecked
import GoSem.Claim
import GoSem.ClaimJoined
import GoSem.ClaimMapViews
import Derived.JoinedTies
import Derived.KernelRfl
namespace Go.Proofs.YtbnhblimckdcgaaGreat
/- THE CELL 'sum', in the pinned program and in every row, IS THE sha256 OF THE DUMP (.gsa) THAT YtbnhblimckdcgaaGreatProg.lean LOADS. Nothing in Lean hashes anything: it is a label: what it is worth is what the hold of that sum in a sandbox is worth. -/
noncomputable def Tryz.pinned : Pinned := { name := "ytbnhblimckdcgaagreat", sum := "49546744d76a08fe34bc410cd11ef6941a21cdc41bec96b5719d0fe1c2adcda3", checked := Tryz.checked }
namespace Rows
def none {H : Type} : Left H := { results := [], args := [] }

/-- 'spellwrightlaw20.TogoTells': WHATEVER THE INPUT: true; the input reads as it did. -/
def togoTellsSpec : ChangeSpec := { name := "togoTells", fn := fun _ => fun
  | [d1, d2, d3, d4, d5] => { results := [.lit (.bool true)], args := [d1, d2, d3, d4, d5] }
  | _ => none }
def togoTellsRow : OpenClaim := { program := "ytbnhblimckdcgaagreat", sum := "49546744d76a08fe34bc410cd11ef6941a21cdc41bec96b5719d0fe1c2adcda3", func := "spellwright/spellwrightlaw20.TogoTells", spec := "togoTells", inPlace := ["math/bits.Add64"], unfollowed := true, recurses := true, plainKeys := false, apart := false }
def TogoTellsSaid : Prop := togoTellsRow.holds Tryz.pinned (OpenSpec.ofChange togoTellsSpec)

/-- ITS FALSE NEIGHBOUR: 'it returns false'. Refute it at one input. -/
def togoTellsWrong : ChangeSpec := { name := "togoTells", fn := fun _ => fun
  | [d1, d2, d3, d4, d5] => { results := [.lit (.bool false)], args := [d1, d2, d3, d4, d5] }
  | _ => none }
def TogoTellsWrongFalsely : Prop := togoTellsRow.holds Tryz.pinned (OpenSpec.ofChange togoTellsWrong)

/-- 'spellwrightlaw20.TogoBehind': WHATEVER THE INPUT: true; the input reads as it did. -/
def togoBehindSpec : ChangeSpec := { name := "togoBehind", fn := fun _ => fun
  | [d1, d2, d3, d4, d5] => { results := [.lit (.bool true)], args := [d1, d2, d3, d4, d5] }
  | _ => none }
def togoBehindRow : OpenClaim := { program := "ytbnhblimckdcgaagreat", sum := "49546744d76a08fe34bc410cd11ef6941a21cdc41bec96b5719d0fe1c2adcda3", func := "spellwright/spellwrightlaw20.TogoBehind", spec := "togoBehind", inPlace := ["math/bits.Add64"], unfollowed := true, recurses := true, plainKeys := false, apart := false }
def TogoBehindSaid : Prop := togoBehindRow.holds Tryz.pinned (OpenSpec.ofChange togoBehindSpec)

/-- ITS FALSE NEIGHBOUR: 'it returns false'. Refute it at one input. -/
def togoBehindWrong : ChangeSpec := { name := "togoBehind", fn := fun _ => fun
  | [d1, d2, d3, d4, d5] => { results := [.lit (.bool false)], args := [d1, d2, d3, d4, d5] }
  | _ => none }
def TogoBehindWrongFalsely : Prop := togoBehindRow.holds Tryz.pinned (OpenSpec.ofChange togoBehindWrong)

/- THE SECOND FORM. 'bulk': how many values and letters a reading holds, each counted each time it is reached (what is shared counts as often as it is met; a slice's spare places count too). A statement '..UptoSaid' is the law's where the arguments, and the package variables that the reading takes, are together of bulk at most 1048576: NARROWER than '..Said'. Prove '..Said' where nothing that the law and all that it calls make is longer than what came in: it says more and counts as full. Else prove '..UptoSaid'. A law counts once. -/
mutual
def uptoBulk {H : Type} : DataW H → Nat
  | .lit (.string bytes) => bytes.length + 1
  | .lit _ => 1
  | .nil => 1
  | .ptr d => uptoBulk d + 1
  | .slice elems spare => uptoBulkAll elems + uptoBulkAll spare + 1
  | .agg parts => uptoBulkAll parts + 1
  | .iface _ d => uptoBulk d + 1
  | .map entries => uptoBulkEntries entries + 1
  | .held _ => 1
def uptoBulkAll {H : Type} : List (DataW H) → Nat
  | [] => 0
  | d :: r => uptoBulk d + uptoBulkAll r
def uptoBulkEntries {H : Type} : List (Lit × DataW H) → Nat
  | [] => 0
  | x :: r => uptoBulkEntry x + uptoBulkEntries r
def uptoBulkEntry {H : Type} : Lit × DataW H → Nat
  | (.string bytes, d) => bytes.length + uptoBulk d + 1
  | (_, d) => uptoBulk d + 1
 end
def uptoSmall : (H : Type) → List (DataW H) → Bool := fun _ ds => decide (uptoBulkAll ds ≤ 1048576)
def OpenSpec.upto (s : _root_.Go.ChangeSpec) : _root_.Go.OpenSpec := { _root_.Go.OpenSpec.ofChange s with cond := some uptoSmall }

/-- 'spellwrightlaw20.TogoTells', WHERE WHAT IT READS IS OF BULK AT MOST 1048576: true; the input reads as it did. -/
def togoTellsUptoRow : OpenClaim := { program := "ytbnhblimckdcgaagreat", sum := "49546744d76a08fe34bc410cd11ef6941a21cdc41bec96b5719d0fe1c2adcda3", func := "spellwright/spellwrightlaw20.TogoTells", spec := "togoTells", inPlace := ["math/bits.Add64"], unfollowed := true, recurses := true, plainKeys := false, apart := false, narrowed := true }
def TogoTellsUptoSaid : Prop := togoTellsUptoRow.holds Tryz.pinned (OpenSpec.upto togoTellsSpec)

/-- 'spellwrightlaw20.TogoBehind', WHERE WHAT IT READS IS OF BULK AT MOST 1048576: true; the input reads as it did. -/
def togoBehindUptoRow : OpenClaim := { program := "ytbnhblimckdcgaagreat", sum := "49546744d76a08fe34bc410cd11ef6941a21cdc41bec96b5719d0fe1c2adcda3", func := "spellwright/spellwrightlaw20.TogoBehind", spec := "togoBehind", inPlace := ["math/bits.Add64"], unfollowed := true, recurses := true, plainKeys := false, apart := false, narrowed := true }
def TogoBehindUptoSaid : Prop := togoBehindUptoRow.holds Tryz.pinned (OpenSpec.upto togoBehindSpec)

end Rows
end Go.Proofs.YtbnhblimckdcgaaGreat

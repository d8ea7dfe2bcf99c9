/-
  NARROWER THAN 'FOR EVERY INPUT', by the rows' own cells (each row's printed sentence says how): DawgTells: laid · ShapeTells: laid · ShapeMakes: laid · SearchTells: laid · SearchMore: laid · SearchPops: laid · SearchBudget: laid · SearchFinds: laid · SearchDawg: laid · SearchBounds: laid · SearchSelf: laid.
  DERIVED. THE GIVEN ROWS OF THIS SEAT. 11 by the template 'for every input the law returns true; each argument reads behind the call as it read before'; 0 by the template 'total and deterministic' (their statements: YtooblcpmpemhfaaGreatDoorTotals.lean).
  GIVEN WITH THE SEED: the statements are not yours to turn. If you find one false, say at which input.
  Laid BY PROGRAM, IN A SANDBOX (cutbox-rows.mjs): the forced cells as the released guide's own fill.sh prints them over the translation d9aa15105415672d… (all of the seat's roots in one cut). By AI agents, Wed Nov 11 2026. No macro, syntax, notation, axiom, sorry.
-/
import Derived.Test.YtooblcpmpemhfaaGreatDoorChecked
import GoSem.Claim
import GoSem.ClaimJoined
import GoSem.ClaimMapViews
import Derived.JoinedTies
import Derived.KernelRfl
namespace Go.Proofs.YtooblcpmpemhfaaGreatDoor
/- THE CELL 'sum', in the pinned program and in every row, IS THE sha256 OF THE DUMP (.gsa) THAT YtooblcpmpemhfaaGreatDoorProg.lean LOADS. Nothing in Lean hashes anything: it is a label: what it is worth is what the hold of that sum in a sandbox is worth. -/
noncomputable def Tryz.pinned : Pinned := { name := "ytooblcpmpemhfaagreatdoor", sum := "d9aa15105415672dfc7d24da169d7eba124423e965fb57da40213543e99eed97", checked := Tryz.checked }
namespace Rows
def none {H : Type} : Left H := { results := [], args := [] }

/- WHAT THE LISTED PACKAGE-LEVEL VARIABLES READ AS WHEN THE CALL BEGINS. Each datum BY PROGRAM (the guide's laid-datum.mjs) off the statement by which the dump's own 'gosem.cut.vars' lays the variable. In a bare row this is a premise. The card (YtooblcpmpemhfaaGreatDoorCards.lean) ties it to the program's text. -/
def laid_math_bits_deBruijn32tab {H : Type} : DataW H := .agg [.lit (.int .u8 0), .lit (.int .u8 1), .lit (.int .u8 28), .lit (.int .u8 2), .lit (.int .u8 29), .lit (.int .u8 14), .lit (.int .u8 24), .lit (.int .u8 3), .lit (.int .u8 30), .lit (.int .u8 22), .lit (.int .u8 20), .lit (.int .u8 15), .lit (.int .u8 25), .lit (.int .u8 17), .lit (.int .u8 4), .lit (.int .u8 8), .lit (.int .u8 31), .lit (.int .u8 27), .lit (.int .u8 13), .lit (.int .u8 23), .lit (.int .u8 21), .lit (.int .u8 19), .lit (.int .u8 16), .lit (.int .u8 7), .lit (.int .u8 26), .lit (.int .u8 12), .lit (.int .u8 18), .lit (.int .u8 6), .lit (.int .u8 11), .lit (.int .u8 5), .lit (.int .u8 10), .lit (.int .u8 9)]
def laid_math_bits_deBruijn64tab {H : Type} : DataW H := .agg [.lit (.int .u8 0), .lit (.int .u8 1), .lit (.int .u8 56), .lit (.int .u8 2), .lit (.int .u8 57), .lit (.int .u8 49), .lit (.int .u8 28), .lit (.int .u8 3), .lit (.int .u8 61), .lit (.int .u8 58), .lit (.int .u8 42), .lit (.int .u8 50), .lit (.int .u8 38), .lit (.int .u8 29), .lit (.int .u8 17), .lit (.int .u8 4), .lit (.int .u8 62), .lit (.int .u8 47), .lit (.int .u8 59), .lit (.int .u8 36), .lit (.int .u8 45), .lit (.int .u8 43), .lit (.int .u8 51), .lit (.int .u8 22), .lit (.int .u8 53), .lit (.int .u8 39), .lit (.int .u8 33), .lit (.int .u8 30), .lit (.int .u8 24), .lit (.int .u8 18), .lit (.int .u8 12), .lit (.int .u8 5), .lit (.int .u8 63), .lit (.int .u8 55), .lit (.int .u8 48), .lit (.int .u8 27), .lit (.int .u8 60), .lit (.int .u8 41), .lit (.int .u8 37), .lit (.int .u8 16), .lit (.int .u8 46), .lit (.int .u8 35), .lit (.int .u8 44), .lit (.int .u8 21), .lit (.int .u8 52), .lit (.int .u8 32), .lit (.int .u8 23), .lit (.int .u8 11), .lit (.int .u8 54), .lit (.int .u8 26), .lit (.int .u8 40), .lit (.int .u8 15), .lit (.int .u8 34), .lit (.int .u8 20), .lit (.int .u8 31), .lit (.int .u8 10), .lit (.int .u8 25), .lit (.int .u8 14), .lit (.int .u8 19), .lit (.int .u8 9), .lit (.int .u8 13), .lit (.int .u8 8), .lit (.int .u8 7), .lit (.int .u8 6)]
def laid_internal_strconv_uint64pow10 {H : Type} : DataW H := .agg [.lit (.int .u64 1), .lit (.int .u64 10), .lit (.int .u64 100), .lit (.int .u64 1000), .lit (.int .u64 10000), .lit (.int .u64 100000), .lit (.int .u64 1000000), .lit (.int .u64 10000000), .lit (.int .u64 100000000), .lit (.int .u64 1000000000), .lit (.int .u64 10000000000), .lit (.int .u64 100000000000), .lit (.int .u64 1000000000000), .lit (.int .u64 10000000000000), .lit (.int .u64 100000000000000), .lit (.int .u64 1000000000000000), .lit (.int .u64 10000000000000000), .lit (.int .u64 100000000000000000), .lit (.int .u64 1000000000000000000), .lit (.int .u64 10000000000000000000)]

/-- 'spellwrightlaw11.DawgTells': WHATEVER THE INPUT: true; the input reads as it did. -/
def dawgTellsSpec : ChangeSpec := { name := "dawgTells", fn := fun _ => fun
  | [d1, d2] => { results := [.lit (.bool true)], args := [d1, d2] }
  | _ => none }
def dawgTellsRow : OpenClaim := { program := "ytooblcpmpemhfaagreatdoor", sum := "d9aa15105415672dfc7d24da169d7eba124423e965fb57da40213543e99eed97", func := "spellwright/spellwrightlaw11.DawgTells", spec := "dawgTells", unfollowed := true, recurses := true, named := ["internal/strconv.uint64pow10", "math/bits.deBruijn32tab", "math/bits.deBruijn64tab"], plainKeys := false, apart := false, laid := [("math/bits.deBruijn32tab", laid_math_bits_deBruijn32tab), ("math/bits.deBruijn64tab", laid_math_bits_deBruijn64tab), ("internal/strconv.uint64pow10", laid_internal_strconv_uint64pow10)] }
def DawgTellsSaid : Prop := dawgTellsRow.holds Tryz.pinned (OpenSpec.ofChange dawgTellsSpec)

/-- ITS FALSE NEIGHBOUR: 'it returns false'. Refute it at one input. -/
def dawgTellsWrong : ChangeSpec := { name := "dawgTells", fn := fun _ => fun
  | [d1, d2] => { results := [.lit (.bool false)], args := [d1, d2] }
  | _ => none }
def DawgTellsWrongFalsely : Prop := dawgTellsRow.holds Tryz.pinned (OpenSpec.ofChange dawgTellsWrong)

/-- 'spellwrightlaw16.ShapeTells': WHATEVER THE INPUT: true; the input reads as it did. -/
def shapeTellsSpec : ChangeSpec := { name := "shapeTells", fn := fun _ => fun
  | [d1, d2] => { results := [.lit (.bool true)], args := [d1, d2] }
  | _ => none }
def shapeTellsRow : OpenClaim := { program := "ytooblcpmpemhfaagreatdoor", sum := "d9aa15105415672dfc7d24da169d7eba124423e965fb57da40213543e99eed97", func := "spellwright/spellwrightlaw16.ShapeTells", spec := "shapeTells", unfollowed := true, recurses := true, named := ["internal/strconv.uint64pow10", "math/bits.deBruijn32tab", "math/bits.deBruijn64tab"], plainKeys := false, apart := false, laid := [("math/bits.deBruijn32tab", laid_math_bits_deBruijn32tab), ("math/bits.deBruijn64tab", laid_math_bits_deBruijn64tab), ("internal/strconv.uint64pow10", laid_internal_strconv_uint64pow10)] }
def ShapeTellsSaid : Prop := shapeTellsRow.holds Tryz.pinned (OpenSpec.ofChange shapeTellsSpec)

/-- ITS FALSE NEIGHBOUR: 'it returns false'. Refute it at one input. -/
def shapeTellsWrong : ChangeSpec := { name := "shapeTells", fn := fun _ => fun
  | [d1, d2] => { results := [.lit (.bool false)], args := [d1, d2] }
  | _ => none }
def ShapeTellsWrongFalsely : Prop := shapeTellsRow.holds Tryz.pinned (OpenSpec.ofChange shapeTellsWrong)

/-- 'spellwrightlaw16.ShapeMakes': WHATEVER THE INPUT: true; the input reads as it did. -/
def shapeMakesSpec : ChangeSpec := { name := "shapeMakes", fn := fun _ => fun
  | [d1, d2] => { results := [.lit (.bool true)], args := [d1, d2] }
  | _ => none }
def shapeMakesRow : OpenClaim := { program := "ytooblcpmpemhfaagreatdoor", sum := "d9aa15105415672dfc7d24da169d7eba124423e965fb57da40213543e99eed97", func := "spellwright/spellwrightlaw16.ShapeMakes", spec := "shapeMakes", unfollowed := true, recurses := true, named := ["internal/strconv.uint64pow10", "math/bits.deBruijn32tab", "math/bits.deBruijn64tab"], plainKeys := false, apart := false, laid := [("math/bits.deBruijn32tab", laid_math_bits_deBruijn32tab), ("math/bits.deBruijn64tab", laid_math_bits_deBruijn64tab), ("internal/strconv.uint64pow10", laid_internal_strconv_uint64pow10)] }
def ShapeMakesSaid : Prop := shapeMakesRow.holds Tryz.pinned (OpenSpec.ofChange shapeMakesSpec)

/-- ITS FALSE NEIGHBOUR: 'it returns false'. Refute it at one input. -/
def shapeMakesWrong : ChangeSpec := { name := "shapeMakes", fn := fun _ => fun
  | [d1, d2] => { results := [.lit (.bool false)], args := [d1, d2] }
  | _ => none }
def ShapeMakesWrongFalsely : Prop := shapeMakesRow.holds Tryz.pinned (OpenSpec.ofChange shapeMakesWrong)

/-- 'spellwrightlaw21.SearchTells': WHATEVER THE INPUT: true; the input reads as it did. -/
def searchTellsSpec : ChangeSpec := { name := "searchTells", fn := fun _ => fun
  | [d1, d2, d3, d4, d5, d6] => { results := [.lit (.bool true)], args := [d1, d2, d3, d4, d5, d6] }
  | _ => none }
def searchTellsRow : OpenClaim := { program := "ytooblcpmpemhfaagreatdoor", sum := "d9aa15105415672dfc7d24da169d7eba124423e965fb57da40213543e99eed97", func := "spellwright/spellwrightlaw21.SearchTells", spec := "searchTells", inPlace := ["math/bits.Add64"], unfollowed := true, recurses := true, named := ["internal/strconv.uint64pow10", "math/bits.deBruijn32tab", "math/bits.deBruijn64tab"], plainKeys := false, apart := false, laid := [("math/bits.deBruijn32tab", laid_math_bits_deBruijn32tab), ("math/bits.deBruijn64tab", laid_math_bits_deBruijn64tab), ("internal/strconv.uint64pow10", laid_internal_strconv_uint64pow10)] }
def SearchTellsSaid : Prop := searchTellsRow.holds Tryz.pinned (OpenSpec.ofChange searchTellsSpec)

/-- ITS FALSE NEIGHBOUR: 'it returns false'. Refute it at one input. -/
def searchTellsWrong : ChangeSpec := { name := "searchTells", fn := fun _ => fun
  | [d1, d2, d3, d4, d5, d6] => { results := [.lit (.bool false)], args := [d1, d2, d3, d4, d5, d6] }
  | _ => none }
def SearchTellsWrongFalsely : Prop := searchTellsRow.holds Tryz.pinned (OpenSpec.ofChange searchTellsWrong)

/-- 'spellwrightlaw21.SearchMore': WHATEVER THE INPUT: true; the input reads as it did. -/
def searchMoreSpec : ChangeSpec := { name := "searchMore", fn := fun _ => fun
  | [d1, d2, d3, d4, d5, d6] => { results := [.lit (.bool true)], args := [d1, d2, d3, d4, d5, d6] }
  | _ => none }
def searchMoreRow : OpenClaim := { program := "ytooblcpmpemhfaagreatdoor", sum := "d9aa15105415672dfc7d24da169d7eba124423e965fb57da40213543e99eed97", func := "spellwright/spellwrightlaw21.SearchMore", spec := "searchMore", inPlace := ["math/bits.Add64"], unfollowed := true, recurses := true, named := ["internal/strconv.uint64pow10", "math/bits.deBruijn32tab", "math/bits.deBruijn64tab"], plainKeys := false, apart := false, laid := [("math/bits.deBruijn32tab", laid_math_bits_deBruijn32tab), ("math/bits.deBruijn64tab", laid_math_bits_deBruijn64tab), ("internal/strconv.uint64pow10", laid_internal_strconv_uint64pow10)] }
def SearchMoreSaid : Prop := searchMoreRow.holds Tryz.pinned (OpenSpec.ofChange searchMoreSpec)

/-- ITS FALSE NEIGHBOUR: 'it returns false'. Refute it at one input. -/
def searchMoreWrong : ChangeSpec := { name := "searchMore", fn := fun _ => fun
  | [d1, d2, d3, d4, d5, d6] => { results := [.lit (.bool false)], args := [d1, d2, d3, d4, d5, d6] }
  | _ => none }
def SearchMoreWrongFalsely : Prop := searchMoreRow.holds Tryz.pinned (OpenSpec.ofChange searchMoreWrong)

/-- 'spellwrightlaw21.SearchPops': WHATEVER THE INPUT: true; the input reads as it did. -/
def searchPopsSpec : ChangeSpec := { name := "searchPops", fn := fun _ => fun
  | [d1, d2, d3, d4] => { results := [.lit (.bool true)], args := [d1, d2, d3, d4] }
  | _ => none }
def searchPopsRow : OpenClaim := { program := "ytooblcpmpemhfaagreatdoor", sum := "d9aa15105415672dfc7d24da169d7eba124423e965fb57da40213543e99eed97", func := "spellwright/spellwrightlaw21.SearchPops", spec := "searchPops", inPlace := ["math/bits.Add64"], unfollowed := true, recurses := true, named := ["internal/strconv.uint64pow10", "math/bits.deBruijn32tab", "math/bits.deBruijn64tab"], plainKeys := false, apart := false, laid := [("math/bits.deBruijn32tab", laid_math_bits_deBruijn32tab), ("math/bits.deBruijn64tab", laid_math_bits_deBruijn64tab), ("internal/strconv.uint64pow10", laid_internal_strconv_uint64pow10)] }
def SearchPopsSaid : Prop := searchPopsRow.holds Tryz.pinned (OpenSpec.ofChange searchPopsSpec)

/-- ITS FALSE NEIGHBOUR: 'it returns false'. Refute it at one input. -/
def searchPopsWrong : ChangeSpec := { name := "searchPops", fn := fun _ => fun
  | [d1, d2, d3, d4] => { results := [.lit (.bool false)], args := [d1, d2, d3, d4] }
  | _ => none }
def SearchPopsWrongFalsely : Prop := searchPopsRow.holds Tryz.pinned (OpenSpec.ofChange searchPopsWrong)

/-- 'spellwrightlaw21.SearchBudget': WHATEVER THE INPUT: true; the input reads as it did. -/
def searchBudgetSpec : ChangeSpec := { name := "searchBudget", fn := fun _ => fun
  | [d1, d2, d3, d4, d5] => { results := [.lit (.bool true)], args := [d1, d2, d3, d4, d5] }
  | _ => none }
def searchBudgetRow : OpenClaim := { program := "ytooblcpmpemhfaagreatdoor", sum := "d9aa15105415672dfc7d24da169d7eba124423e965fb57da40213543e99eed97", func := "spellwright/spellwrightlaw21.SearchBudget", spec := "searchBudget", inPlace := ["math/bits.Add64"], unfollowed := true, recurses := true, named := ["internal/strconv.uint64pow10", "math/bits.deBruijn32tab", "math/bits.deBruijn64tab"], plainKeys := false, apart := false, laid := [("math/bits.deBruijn32tab", laid_math_bits_deBruijn32tab), ("math/bits.deBruijn64tab", laid_math_bits_deBruijn64tab), ("internal/strconv.uint64pow10", laid_internal_strconv_uint64pow10)] }
def SearchBudgetSaid : Prop := searchBudgetRow.holds Tryz.pinned (OpenSpec.ofChange searchBudgetSpec)

/-- ITS FALSE NEIGHBOUR: 'it returns false'. Refute it at one input. -/
def searchBudgetWrong : ChangeSpec := { name := "searchBudget", fn := fun _ => fun
  | [d1, d2, d3, d4, d5] => { results := [.lit (.bool false)], args := [d1, d2, d3, d4, d5] }
  | _ => none }
def SearchBudgetWrongFalsely : Prop := searchBudgetRow.holds Tryz.pinned (OpenSpec.ofChange searchBudgetWrong)

/-- 'spellwrightlaw21.SearchFinds': WHATEVER THE INPUT: true; the input reads as it did. -/
def searchFindsSpec : ChangeSpec := { name := "searchFinds", fn := fun _ => fun
  | [d1, d2, d3, d4] => { results := [.lit (.bool true)], args := [d1, d2, d3, d4] }
  | _ => none }
def searchFindsRow : OpenClaim := { program := "ytooblcpmpemhfaagreatdoor", sum := "d9aa15105415672dfc7d24da169d7eba124423e965fb57da40213543e99eed97", func := "spellwright/spellwrightlaw21.SearchFinds", spec := "searchFinds", inPlace := ["math/bits.Add64"], unfollowed := true, recurses := true, named := ["internal/strconv.uint64pow10", "math/bits.deBruijn32tab", "math/bits.deBruijn64tab"], plainKeys := false, apart := false, laid := [("math/bits.deBruijn32tab", laid_math_bits_deBruijn32tab), ("math/bits.deBruijn64tab", laid_math_bits_deBruijn64tab), ("internal/strconv.uint64pow10", laid_internal_strconv_uint64pow10)] }
def SearchFindsSaid : Prop := searchFindsRow.holds Tryz.pinned (OpenSpec.ofChange searchFindsSpec)

/-- ITS FALSE NEIGHBOUR: 'it returns false'. Refute it at one input. -/
def searchFindsWrong : ChangeSpec := { name := "searchFinds", fn := fun _ => fun
  | [d1, d2, d3, d4] => { results := [.lit (.bool false)], args := [d1, d2, d3, d4] }
  | _ => none }
def SearchFindsWrongFalsely : Prop := searchFindsRow.holds Tryz.pinned (OpenSpec.ofChange searchFindsWrong)

/-- 'spellwrightlaw21.SearchDawg': WHATEVER THE INPUT: true; the input reads as it did. -/
def searchDawgSpec : ChangeSpec := { name := "searchDawg", fn := fun _ => fun
  | [d1, d2, d3, d4, d5] => { results := [.lit (.bool true)], args := [d1, d2, d3, d4, d5] }
  | _ => none }
def searchDawgRow : OpenClaim := { program := "ytooblcpmpemhfaagreatdoor", sum := "d9aa15105415672dfc7d24da169d7eba124423e965fb57da40213543e99eed97", func := "spellwright/spellwrightlaw21.SearchDawg", spec := "searchDawg", inPlace := ["math/bits.Add64"], unfollowed := true, recurses := true, named := ["internal/strconv.uint64pow10", "math/bits.deBruijn32tab", "math/bits.deBruijn64tab"], plainKeys := false, apart := false, laid := [("math/bits.deBruijn32tab", laid_math_bits_deBruijn32tab), ("math/bits.deBruijn64tab", laid_math_bits_deBruijn64tab), ("internal/strconv.uint64pow10", laid_internal_strconv_uint64pow10)] }
def SearchDawgSaid : Prop := searchDawgRow.holds Tryz.pinned (OpenSpec.ofChange searchDawgSpec)

/-- ITS FALSE NEIGHBOUR: 'it returns false'. Refute it at one input. -/
def searchDawgWrong : ChangeSpec := { name := "searchDawg", fn := fun _ => fun
  | [d1, d2, d3, d4, d5] => { results := [.lit (.bool false)], args := [d1, d2, d3, d4, d5] }
  | _ => none }
def SearchDawgWrongFalsely : Prop := searchDawgRow.holds Tryz.pinned (OpenSpec.ofChange searchDawgWrong)

/-- 'spellwrightlaw21.SearchBounds': WHATEVER THE INPUT: true; the input reads as it did. -/
def searchBoundsSpec : ChangeSpec := { name := "searchBounds", fn := fun _ => fun
  | [d1, d2, d3] => { results := [.lit (.bool true)], args := [d1, d2, d3] }
  | _ => none }
def searchBoundsRow : OpenClaim := { program := "ytooblcpmpemhfaagreatdoor", sum := "d9aa15105415672dfc7d24da169d7eba124423e965fb57da40213543e99eed97", func := "spellwright/spellwrightlaw21.SearchBounds", spec := "searchBounds", inPlace := ["math/bits.Add64"], unfollowed := true, recurses := true, named := ["internal/strconv.uint64pow10", "math/bits.deBruijn32tab", "math/bits.deBruijn64tab"], plainKeys := false, apart := false, laid := [("math/bits.deBruijn32tab", laid_math_bits_deBruijn32tab), ("math/bits.deBruijn64tab", laid_math_bits_deBruijn64tab), ("internal/strconv.uint64pow10", laid_internal_strconv_uint64pow10)] }
def SearchBoundsSaid : Prop := searchBoundsRow.holds Tryz.pinned (OpenSpec.ofChange searchBoundsSpec)

/-- ITS FALSE NEIGHBOUR: 'it returns false'. Refute it at one input. -/
def searchBoundsWrong : ChangeSpec := { name := "searchBounds", fn := fun _ => fun
  | [d1, d2, d3] => { results := [.lit (.bool false)], args := [d1, d2, d3] }
  | _ => none }
def SearchBoundsWrongFalsely : Prop := searchBoundsRow.holds Tryz.pinned (OpenSpec.ofChange searchBoundsWrong)

/-- 'spellwrightlaw21.SearchSelf': WHATEVER THE INPUT: true; the input reads as it did. -/
def searchSelfSpec : ChangeSpec := { name := "searchSelf", fn := fun _ => fun
  | [d1, d2] => { results := [.lit (.bool true)], args := [d1, d2] }
  | _ => none }
def searchSelfRow : OpenClaim := { program := "ytooblcpmpemhfaagreatdoor", sum := "d9aa15105415672dfc7d24da169d7eba124423e965fb57da40213543e99eed97", func := "spellwright/spellwrightlaw21.SearchSelf", spec := "searchSelf", inPlace := ["math/bits.Add64"], unfollowed := true, recurses := true, named := ["internal/strconv.uint64pow10", "math/bits.deBruijn32tab", "math/bits.deBruijn64tab"], plainKeys := false, apart := false, laid := [("math/bits.deBruijn32tab", laid_math_bits_deBruijn32tab), ("math/bits.deBruijn64tab", laid_math_bits_deBruijn64tab), ("internal/strconv.uint64pow10", laid_internal_strconv_uint64pow10)] }
def SearchSelfSaid : Prop := searchSelfRow.holds Tryz.pinned (OpenSpec.ofChange searchSelfSpec)

/-- ITS FALSE NEIGHBOUR: 'it returns false'. Refute it at one input. -/
def searchSelfWrong : ChangeSpec := { name := "searchSelf", fn := fun _ => fun
  | [d1, d2] => { results := [.lit (.bool false)], args := [d1, d2] }
  | _ => none }
def SearchSelfWrongFalsely : Prop := searchSelfRow.holds Tryz.pinned (OpenSpec.ofChange searchSelfWrong)

/- THE SECOND FORM. 'bulk': how many values and letters a reading holds, each counted each time it is reached (what is shared counts as often as it is met; a slice's spare places count too). A statement '..UptoSaid' is the law's where the arguments, and the package variables that the reading takes, are together of bulk at most 1048576: NARROWER than '..Said'. Prove '..Said' where nothing that the law and all that it calls make is longer than what came in: it says more and counts as full. Else prove '..UptoSaid'. A law counts once. -/
mutual
def uptoBulk {H : Type} : DataW H → Nat
  | .lit (.string bytes) => bytes.length + 1
  | .lit _ => 1
  | .nil => 1
  | .ptr d => uptoBulk d + 1
  | .slice elems spare => uptoBulkAll elems + uptoBulkAll spare + 1
  | .agg parts => uptoBulkAll parts + 1
  | .iface _ d => uptoBulk d + 1
  | .map entries => uptoBulkEntries entries + 1
  | .held _ => 1
def uptoBulkAll {H : Type} : List (DataW H) → Nat
  | [] => 0
  | d :: r => uptoBulk d + uptoBulkAll r
def uptoBulkEntries {H : Type} : List (Lit × DataW H) → Nat
  | [] => 0
  | x :: r => uptoBulkEntry x + uptoBulkEntries r
def uptoBulkEntry {H : Type} : Lit × DataW H → Nat
  | (.string bytes, d) => bytes.length + uptoBulk d + 1
  | (_, d) => uptoBulk d + 1
 end
def uptoSmall : (H : Type) → List (DataW H) → Bool := fun _ ds => decide (uptoBulkAll ds ≤ 1048576)
def OpenSpec.upto (s : _root_.Go.ChangeSpec) : _root_.Go.OpenSpec := { _root_.Go.OpenSpec.ofChange s with cond := some uptoSmall }

/-- 'spellwrightlaw11.DawgTells', WHERE WHAT IT READS IS OF BULK AT MOST 1048576: true; the input reads as it did. -/
def dawgTellsUptoRow : OpenClaim := { program := "ytooblcpmpemhfaagreatdoor", sum := "d9aa15105415672dfc7d24da169d7eba124423e965fb57da40213543e99eed97", func := "spellwright/spellwrightlaw11.DawgTells", spec := "dawgTells", unfollowed := true, recurses := true, named := ["internal/strconv.uint64pow10", "math/bits.deBruijn32tab", "math/bits.deBruijn64tab"], plainKeys := false, apart := false, laid := [("math/bits.deBruijn32tab", laid_math_bits_deBruijn32tab), ("math/bits.deBruijn64tab", laid_math_bits_deBruijn64tab), ("internal/strconv.uint64pow10", laid_internal_strconv_uint64pow10)], narrowed := true }
def DawgTellsUptoSaid : Prop := dawgTellsUptoRow.holds Tryz.pinned (OpenSpec.upto dawgTellsSpec)

/-- 'spellwrightlaw16.ShapeTells', WHERE WHAT IT READS IS OF BULK AT MOST 1048576: true; the input reads as it did. -/
def shapeTellsUptoRow : OpenClaim := { program := "ytooblcpmpemhfaagreatdoor", sum := "d9aa15105415672dfc7d24da169d7eba124423e965fb57da40213543e99eed97", func := "spellwright/spellwrightlaw16.ShapeTells", spec := "shapeTells", unfollowed := true, recurses := true, named := ["internal/strconv.uint64pow10", "math/bits.deBruijn32tab", "math/bits.deBruijn64tab"], plainKeys := false, apart := false, laid := [("math/bits.deBruijn32tab", laid_math_bits_deBruijn32tab), ("math/bits.deBruijn64tab", laid_math_bits_deBruijn64tab), ("internal/strconv.uint64pow10", laid_internal_strconv_uint64pow10)], narrowed := true }
def ShapeTellsUptoSaid : Prop := shapeTellsUptoRow.holds Tryz.pinned (OpenSpec.upto shapeTellsSpec)

/-- 'spellwrightlaw16.ShapeMakes', WHERE WHAT IT READS IS OF BULK AT MOST 1048576: true; the input reads as it did. -/
def shapeMakesUptoRow : OpenClaim := { program := "ytooblcpmpemhfaagreatdoor", sum := "d9aa15105415672dfc7d24da169d7eba124423e965fb57da40213543e99eed97", func := "spellwright/spellwrightlaw16.ShapeMakes", spec := "shapeMakes", unfollowed := true, recurses := true, named := ["internal/strconv.uint64pow10", "math/bits.deBruijn32tab", "math/bits.deBruijn64tab"], plainKeys := false, apart := false, laid := [("math/bits.deBruijn32tab", laid_math_bits_deBruijn32tab), ("math/bits.deBruijn64tab", laid_math_bits_deBruijn64tab), ("internal/strconv.uint64pow10", laid_internal_strconv_uint64pow10)], narrowed := true }
def ShapeMakesUptoSaid : Prop := shapeMakesUptoRow.holds Tryz.pinned (OpenSpec.upto shapeMakesSpec)

/-- 'spellwrightlaw21.SearchTells', WHERE WHAT IT READS IS OF BULK AT MOST 1048576: true; the input reads as it did. -/
def searchTellsUptoRow : OpenClaim := { program := "ytooblcpmpemhfaagreatdoor", sum := "d9aa15105415672dfc7d24da169d7eba124423e965fb57da40213543e99eed97", func := "spellwright/spellwrightlaw21.SearchTells", spec := "searchTells", inPlace := ["math/bits.Add64"], unfollowed := true, recurses := true, named := ["internal/strconv.uint64pow10", "math/bits.deBruijn32tab", "math/bits.deBruijn64tab"], plainKeys := false, apart := false, laid := [("math/bits.deBruijn32tab", laid_math_bits_deBruijn32tab), ("math/bits.deBruijn64tab", laid_math_bits_deBruijn64tab), ("internal/strconv.uint64pow10", laid_internal_strconv_uint64pow10)], narrowed := true }
def SearchTellsUptoSaid : Prop := searchTellsUptoRow.holds Tryz.pinned (OpenSpec.upto searchTellsSpec)

/-- 'spellwrightlaw21.SearchMore', WHERE WHAT IT READS IS OF BULK AT MOST 1048576: true; the input reads as it did. -/
def searchMoreUptoRow : OpenClaim := { program := "ytooblcpmpemhfaagreatdoor", sum := "d9aa15105415672dfc7d24da169d7eba124423e965fb57da40213543e99eed97", func := "spellwright/spellwrightlaw21.SearchMore", spec := "searchMore", inPlace := ["math/bits.Add64"], unfollowed := true, recurses := true, named := ["internal/strconv.uint64pow10", "math/bits.deBruijn32tab", "math/bits.deBruijn64tab"], plainKeys := false, apart := false, laid := [("math/bits.deBruijn32tab", laid_math_bits_deBruijn32tab), ("math/bits.deBruijn64tab", laid_math_bits_deBruijn64tab), ("internal/strconv.uint64pow10", laid_internal_strconv_uint64pow10)], narrowed := true }
def SearchMoreUptoSaid : Prop := searchMoreUptoRow.holds Tryz.pinned (OpenSpec.upto searchMoreSpec)

/-- 'spellwrightlaw21.SearchPops', WHERE WHAT IT READS IS OF BULK AT MOST 1048576: true; the input reads as it did. -/
def searchPopsUptoRow : OpenClaim := { program := "ytooblcpmpemhfaagreatdoor", sum := "d9aa15105415672dfc7d24da169d7eba124423e965fb57da40213543e99eed97", func := "spellwright/spellwrightlaw21.SearchPops", spec := "searchPops", inPlace := ["math/bits.Add64"], unfollowed := true, recurses := true, named := ["internal/strconv.uint64pow10", "math/bits.deBruijn32tab", "math/bits.deBruijn64tab"], plainKeys := false, apart := false, laid := [("math/bits.deBruijn32tab", laid_math_bits_deBruijn32tab), ("math/bits.deBruijn64tab", laid_math_bits_deBruijn64tab), ("internal/strconv.uint64pow10", laid_internal_strconv_uint64pow10)], narrowed := true }
def SearchPopsUptoSaid : Prop := searchPopsUptoRow.holds Tryz.pinned (OpenSpec.upto searchPopsSpec)

/-- 'spellwrightlaw21.SearchBudget', WHERE WHAT IT READS IS OF BULK AT MOST 1048576: true; the input reads as it did. -/
def searchBudgetUptoRow : OpenClaim := { program := "ytooblcpmpemhfaagreatdoor", sum := "d9aa15105415672dfc7d24da169d7eba124423e965fb57da40213543e99eed97", func := "spellwright/spellwrightlaw21.SearchBudget", spec := "searchBudget", inPlace := ["math/bits.Add64"], unfollowed := true, recurses := true, named := ["internal/strconv.uint64pow10", "math/bits.deBruijn32tab", "math/bits.deBruijn64tab"], plainKeys := false, apart := false, laid := [("math/bits.deBruijn32tab", laid_math_bits_deBruijn32tab), ("math/bits.deBruijn64tab", laid_math_bits_deBruijn64tab), ("internal/strconv.uint64pow10", laid_internal_strconv_uint64pow10)], narrowed := true }
def SearchBudgetUptoSaid : Prop := searchBudgetUptoRow.holds Tryz.pinned (OpenSpec.upto searchBudgetSpec)

/-- 'spellwrightlaw21.SearchFinds', WHERE WHAT IT READS IS OF BULK AT MOST 1048576: true; the input reads as it did. -/
def searchFindsUptoRow : OpenClaim := { program := "ytooblcpmpemhfaagreatdoor", sum := "d9aa15105415672dfc7d24da169d7eba124423e965fb57da40213543e99eed97", func := "spellwright/spellwrightlaw21.SearchFinds", spec := "searchFinds", inPlace := ["math/bits.Add64"], unfollowed := true, recurses := true, named := ["internal/strconv.uint64pow10", "math/bits.deBruijn32tab", "math/bits.deBruijn64tab"], plainKeys := false, apart := false, laid := [("math/bits.deBruijn32tab", laid_math_bits_deBruijn32tab), ("math/bits.deBruijn64tab", laid_math_bits_deBruijn64tab), ("internal/strconv.uint64pow10", laid_internal_strconv_uint64pow10)], narrowed := true }
def SearchFindsUptoSaid : Prop := searchFindsUptoRow.holds Tryz.pinned (OpenSpec.upto searchFindsSpec)

/-- 'spellwrightlaw21.SearchDawg', WHERE WHAT IT READS IS OF BULK AT MOST 1048576: true; the input reads as it did. -/
def searchDawgUptoRow : OpenClaim := { program := "ytooblcpmpemhfaagreatdoor", sum := "d9aa15105415672dfc7d24da169d7eba124423e965fb57da40213543e99eed97", func := "spellwright/spellwrightlaw21.SearchDawg", spec := "searchDawg", inPlace := ["math/bits.Add64"], unfollowed := true, recurses := true, named := ["internal/strconv.uint64pow10", "math/bits.deBruijn32tab", "math/bits.deBruijn64tab"], plainKeys := false, apart := false, laid := [("math/bits.deBruijn32tab", laid_math_bits_deBruijn32tab), ("math/bits.deBruijn64tab", laid_math_bits_deBruijn64tab), ("internal/strconv.uint64pow10", laid_internal_strconv_uint64pow10)], narrowed := true }
def SearchDawgUptoSaid : Prop := searchDawgUptoRow.holds Tryz.pinned (OpenSpec.upto searchDawgSpec)

/-- 'spellwrightlaw21.SearchBounds', WHERE WHAT IT READS IS OF BULK AT MOST 1048576: true; the input reads as it did. -/
def searchBoundsUptoRow : OpenClaim := { program := "ytooblcpmpemhfaagreatdoor", sum := "d9aa15105415672dfc7d24da169d7eba124423e965fb57da40213543e99eed97", func := "spellwright/spellwrightlaw21.SearchBounds", spec := "searchBounds", inPlace := ["math/bits.Add64"], unfollowed := true, recurses := true, named := ["internal/strconv.uint64pow10", "math/bits.deBruijn32tab", "math/bits.deBruijn64tab"], plainKeys := false, apart := false, laid := [("math/bits.deBruijn32tab", laid_math_bits_deBruijn32tab), ("math/bits.deBruijn64tab", laid_math_bits_deBruijn64tab), ("internal/strconv.uint64pow10", laid_internal_strconv_uint64pow10)], narrowed := true }
def SearchBoundsUptoSaid : Prop := searchBoundsUptoRow.holds Tryz.pinned (OpenSpec.upto searchBoundsSpec)

/-- 'spellwrightlaw21.SearchSelf', WHERE WHAT IT READS IS OF BULK AT MOST 1048576: true; the input reads as it did. -/
def searchSelfUptoRow : OpenClaim := { program := "ytooblcpmpemhfaagreatdoor", sum := "d9aa15105415672dfc7d24da169d7eba124423e965fb57da40213543e99eed97", func := "spellwright/spellwrightlaw21.SearchSelf", spec := "searchSelf", inPlace := ["math/bits.Add64"], unfollowed := true, recurses := true, named := ["internal/strconv.uint64pow10", "math/bits.deBruijn32tab", "math/bits.deBruijn64tab"], plainKeys := false, apart := false, laid := [("math/bits.deBruijn32tab", laid_math_bits_deBruijn32tab), ("math/bits.deBruijn64tab", laid_math_bits_deBruijn64tab), ("internal/strconv.uint64pow10", laid_internal_strconv_uint64pow10)], narrowed := true }
def SearchSelfUptoSaid : Prop := searchSelfUptoRow.holds Tryz.pinned (OpenSpec.upto searchSelfSpec)

end Rows
end Go.Proofs.YtooblcpmpemhfaaGreatDoor

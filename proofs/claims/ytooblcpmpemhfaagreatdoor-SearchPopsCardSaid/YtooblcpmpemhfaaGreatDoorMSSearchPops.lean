/- The closed facts of the row of SearchPops: each by the kernel, apart (a Lean process has 10 GB). (and what stands behind it: texts laid together) -/
import Derived.Test.YtooblcpmpemhfaaGreatDoorRows
import Derived.Test.YtooblcpmpemhfaaGreatDoorCards
import Derived.Test.YtooblcpmpemhfaaGreatDoorTie
import Derived.WalkKit
import Derived.ProofKit
import Derived.Stop.Joined
import Derived.SevenTiedAt
set_option linter.unusedVariables false
set_option linter.unusedSimpArgs false
set_option maxHeartbeats 32000000
set_option maxRecDepth 100000
namespace Go.Proofs.YtooblcpmpemhfaaGreatDoor.searchPops
open Go.ChangeShapes Go.WideShapes Go.ChangeAt Go.RowKit
set_option maxRecDepth 100000
theorem closed:joinedFacts Tryz.pinned.checked.prog 8 Tryz.f8 Rows.searchPopsSpec Rows.searchPopsRow=true:=by
 unfold joinedFacts;simp only[Bool.and_eq_true]
 repeat' apply And.intro
 all_goals (as_aux_lemma=>kernel_rfl)
theorem byText:Rows.searchPopsRow.wfByText (OpenSpec.ofChange Rows.searchPopsSpec)=true:=by kernel_rfl
theorem main0 : Tryz.pinned.checked.prog.mainIs = some (true, "20a161d38c0de7f6d4b85b7d6ddce89efa20a59c4a9ddf872e7845df26b69808".toList) := by kernel_rfl
theorem looks0:true=Tryz.pinned.checked.prog.looks []:=by kernel_rfl
theorem stand0:([38,57,65,33].all fun u => !Tryz.prog.wantsStandIn u)=true:=by kernel_rfl
theorem goes0:false=Rows.searchPopsRow.goesBy Tryz.pinned.checked.prog:=by kernel_rfl
end Go.Proofs.YtooblcpmpemhfaaGreatDoor.searchPops

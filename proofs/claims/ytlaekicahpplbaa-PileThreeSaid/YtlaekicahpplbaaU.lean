/- The facts on the types of this seat's program: closed equations. -/
import Derived.Test.YtlaekicahpplbaaProg
import Derived.Test.YtlaekicahpplbaaG16
set_option linter.unusedVariables false
namespace Go.Eng.Try
open Go Go.Eng Go.Proofs
theorem ty0 :
    aggT Try.prog 1 = some false ∧
    szT Try.prog 1 = some 1 ∧
    elT Try.prog 1 = none ∧
    zeroD Try.prog 1 = some .nilf ∧
    zOk Try.prog 1 = true ∧
    aggT Try.prog 2 = some false ∧
    szT Try.prog 2 = some 1 ∧
    byT Try.prog 2 = some 8 ∧
    elT Try.prog 2 = none ∧
    intT Try.prog 2 = some .i64 ∧
    zeroD Try.prog 2 = some (.int .i64 0) ∧
    zOk Try.prog 2 = true ∧
    aggT Try.prog 3 = some false ∧
    szT Try.prog 3 = some 1 ∧
    byT Try.prog 3 = some 8 ∧
    elT Try.prog 3 = none ∧
    intT Try.prog 3 = some .i64 ∧
    zeroD Try.prog 3 = some (.int .i64 0) ∧
    zOk Try.prog 3 = true ∧
    aggT Try.prog 4 = some false ∧
    szT Try.prog 4 = some 1 ∧
    byT Try.prog 4 = some 1 ∧
    elT Try.prog 4 = none ∧
    isBoolT Try.prog 4 = true ∧
    zeroD Try.prog 4 = some (.bool false) ∧
    zOk Try.prog 4 = true ∧
    aggT Try.prog 5 = some false ∧
    szT Try.prog 5 = some 1 ∧
    byT Try.prog 5 = some 1 ∧
    elT Try.prog 5 = none ∧
    intT Try.prog 5 = some .u8 ∧
    zeroD Try.prog 5 = some (.int .u8 0) ∧
    zOk Try.prog 5 = true ∧
    aggT Try.prog 9 = some false ∧
    szT Try.prog 9 = some 1 ∧
    byT Try.prog 9 = some 16 ∧
    elT Try.prog 9 = none ∧
    isStrT Try.prog 9 = true ∧
    zeroD Try.prog 9 = some (.str ⟨#[]⟩) ∧
    zOk Try.prog 9 = true := by
  refine ⟨?_, ?_, ?_, ?_, ?_, ?_, ?_, ?_, ?_, ?_, ?_, ?_, ?_, ?_, ?_, ?_, ?_, ?_, ?_, ?_, ?_, ?_, ?_, ?_, ?_, ?_, ?_, ?_, ?_, ?_, ?_, ?_, ?_, ?_, ?_, ?_, ?_, ?_, ?_, ?_⟩ <;> kernel_rfl
theorem ty1 :
    aggT Try.prog 12 = some false ∧
    szT Try.prog 12 = some 1 ∧
    byT Try.prog 12 = some 8 ∧
    elT Try.prog 12 = none ∧
    intT Try.prog 12 = some .u64 ∧
    zeroD Try.prog 12 = some (.int .u64 0) ∧
    zOk Try.prog 12 = true ∧
    aggT Try.prog 21 = some false ∧
    szT Try.prog 21 = some 1 ∧
    byT Try.prog 21 = some 4 ∧
    elT Try.prog 21 = none ∧
    intT Try.prog 21 = some .i32 ∧
    zeroD Try.prog 21 = some (.int .i32 0) ∧
    zOk Try.prog 21 = true ∧
    aggT Try.prog 22 = some false ∧
    szT Try.prog 22 = some 1 ∧
    byT Try.prog 22 = some 24 ∧
    elT Try.prog 22 = some 23 ∧
    zeroD Try.prog 22 = some .nils ∧
    zOk Try.prog 22 = true ∧
    aggT Try.prog 23 = some false ∧
    szT Try.prog 23 = some 1 ∧
    byT Try.prog 23 = some 8 ∧
    elT Try.prog 23 = none ∧
    intT Try.prog 23 = some .u64 ∧
    zeroD Try.prog 23 = some (.int .u64 0) ∧
    zOk Try.prog 23 = true ∧
    aggT Try.prog 24 = some false ∧
    szT Try.prog 24 = some 1 ∧
    elT Try.prog 24 = none ∧
    zeroD Try.prog 24 = some .nilf ∧
    zOk Try.prog 24 = true ∧
    aggT Try.prog 25 = some false ∧
    szT Try.prog 25 = some 1 ∧
    elT Try.prog 25 = none ∧
    zeroD Try.prog 25 = some .nilf ∧
    zOk Try.prog 25 = true ∧
    aggT Try.prog 26 = some false ∧
    szT Try.prog 26 = some 1 ∧
    elT Try.prog 26 = none := by
  refine ⟨?_, ?_, ?_, ?_, ?_, ?_, ?_, ?_, ?_, ?_, ?_, ?_, ?_, ?_, ?_, ?_, ?_, ?_, ?_, ?_, ?_, ?_, ?_, ?_, ?_, ?_, ?_, ?_, ?_, ?_, ?_, ?_, ?_, ?_, ?_, ?_, ?_, ?_, ?_, ?_⟩ <;> kernel_rfl
theorem ty2 :
    zeroD Try.prog 26 = some .nilf ∧
    zOk Try.prog 26 = true ∧
    aggT Try.prog 27 = some false ∧
    szT Try.prog 27 = some 1 ∧
    elT Try.prog 27 = none ∧
    zeroD Try.prog 27 = some .nilf ∧
    zOk Try.prog 27 = true ∧
    aggT Try.prog 28 = some false ∧
    szT Try.prog 28 = some 1 ∧
    elT Try.prog 28 = none ∧
    zeroD Try.prog 28 = some .nilf ∧
    zOk Try.prog 28 = true ∧
    aggT Try.prog 29 = some false ∧
    szT Try.prog 29 = some 1 ∧
    elT Try.prog 29 = none ∧
    zeroD Try.prog 29 = some .nilf ∧
    zOk Try.prog 29 = true ∧
    aggT Try.prog 30 = some false ∧
    szT Try.prog 30 = some 1 ∧
    elT Try.prog 30 = none ∧
    zeroD Try.prog 30 = some .nilf ∧
    zOk Try.prog 30 = true ∧
    aggT Try.prog 31 = some false ∧
    szT Try.prog 31 = some 1 ∧
    elT Try.prog 31 = none ∧
    zeroD Try.prog 31 = some .nilf ∧
    zOk Try.prog 31 = true ∧
    aggT Try.prog 32 = some false ∧
    szT Try.prog 32 = some 1 ∧
    byT Try.prog 32 = some 4 ∧
    elT Try.prog 32 = none ∧
    intT Try.prog 32 = some .u32 ∧
    zeroD Try.prog 32 = some (.int .u32 0) ∧
    zOk Try.prog 32 = true ∧
    aggT Try.prog 33 = some false ∧
    szT Try.prog 33 = some 1 ∧
    elT Try.prog 33 = none ∧
    zeroD Try.prog 33 = some .nilf ∧
    zOk Try.prog 33 = true ∧
    aggT Try.prog 34 = some false := by
  refine ⟨?_, ?_, ?_, ?_, ?_, ?_, ?_, ?_, ?_, ?_, ?_, ?_, ?_, ?_, ?_, ?_, ?_, ?_, ?_, ?_, ?_, ?_, ?_, ?_, ?_, ?_, ?_, ?_, ?_, ?_, ?_, ?_, ?_, ?_, ?_, ?_, ?_, ?_, ?_, ?_⟩ <;> kernel_rfl
theorem ty3 :
    szT Try.prog 34 = some 1 ∧
    elT Try.prog 34 = none ∧
    zeroD Try.prog 34 = some .nilf ∧
    zOk Try.prog 34 = true ∧
    aggT Try.prog 35 = some false ∧
    szT Try.prog 35 = some 1 ∧
    elT Try.prog 35 = none ∧
    zeroD Try.prog 35 = some .nilf ∧
    zOk Try.prog 35 = true ∧
    aggT Try.prog 36 = some false ∧
    szT Try.prog 36 = some 1 ∧
    elT Try.prog 36 = none ∧
    zeroD Try.prog 36 = some .nilf ∧
    zOk Try.prog 36 = true ∧
    aggT Try.prog 37 = some false ∧
    szT Try.prog 37 = some 1 ∧
    elT Try.prog 37 = none ∧
    zeroD Try.prog 37 = some .nilf ∧
    zOk Try.prog 37 = true ∧
    aggT Try.prog 38 = some false ∧
    szT Try.prog 38 = some 1 ∧
    byT Try.prog 38 = some 24 ∧
    elT Try.prog 38 = some 41 ∧
    zeroD Try.prog 38 = some .nils ∧
    zOk Try.prog 38 = true ∧
    aggT Try.prog 39 = some false ∧
    szT Try.prog 39 = some 1 ∧
    byT Try.prog 39 = some 24 ∧
    elT Try.prog 39 = some 3 ∧
    zeroD Try.prog 39 = some .nils ∧
    zOk Try.prog 39 = true ∧
    aggT Try.prog 40 = some true ∧
    szT Try.prog 40 = some 4 ∧
    byT Try.prog 40 = some 48 ∧
    elT Try.prog 40 = none ∧
    zeroD Try.prog 40 = some (.agg [(.int .u64 0), .nils, (.bool false), (.int .i64 0)]) ∧
    zOk Try.prog 40 = true ∧
    allSz Try.prog 40 = true ∧
    fldT Try.prog 40 0 = some (0, 1) ∧
    fldT Try.prog 40 1 = some (1, 1) := by
  refine ⟨?_, ?_, ?_, ?_, ?_, ?_, ?_, ?_, ?_, ?_, ?_, ?_, ?_, ?_, ?_, ?_, ?_, ?_, ?_, ?_, ?_, ?_, ?_, ?_, ?_, ?_, ?_, ?_, ?_, ?_, ?_, ?_, ?_, ?_, ?_, ?_, ?_, ?_, ?_, ?_⟩ <;> kernel_rfl
theorem ty4 :
    fldT Try.prog 40 2 = some (2, 1) ∧
    fldT Try.prog 40 3 = some (3, 1) ∧
    aggT Try.prog 41 = some true ∧
    szT Try.prog 41 = some 4 ∧
    byT Try.prog 41 = some 48 ∧
    elT Try.prog 41 = none ∧
    zeroD Try.prog 41 = some (.agg [(.int .u64 0), .nils, (.bool false), (.int .i64 0)]) ∧
    zOk Try.prog 41 = true ∧
    allSz Try.prog 41 = true ∧
    fldT Try.prog 41 0 = some (0, 1) ∧
    fldT Try.prog 41 1 = some (1, 1) ∧
    fldT Try.prog 41 2 = some (2, 1) ∧
    fldT Try.prog 41 3 = some (3, 1) ∧
    aggT Try.prog 42 = some false ∧
    szT Try.prog 42 = some 1 ∧
    elT Try.prog 42 = none ∧
    zeroD Try.prog 42 = some .nilf ∧
    zOk Try.prog 42 = true ∧
    aggT Try.prog 44 = some false ∧
    szT Try.prog 44 = some 1 ∧
    elT Try.prog 44 = none ∧
    zeroD Try.prog 44 = some .nilf ∧
    zOk Try.prog 44 = true ∧
    aggT Try.prog 45 = some false ∧
    szT Try.prog 45 = some 1 ∧
    elT Try.prog 45 = none ∧
    zeroD Try.prog 45 = some .nilf ∧
    zOk Try.prog 45 = true ∧
    aggT Try.prog 46 = some false ∧
    szT Try.prog 46 = some 1 ∧
    elT Try.prog 46 = none ∧
    zeroD Try.prog 46 = some .nilf ∧
    zOk Try.prog 46 = true ∧
    aggT Try.prog 47 = some false ∧
    szT Try.prog 47 = some 1 ∧
    elT Try.prog 47 = none ∧
    zeroD Try.prog 47 = some .nilf ∧
    zOk Try.prog 47 = true ∧
    aggT Try.prog 48 = some false ∧
    szT Try.prog 48 = some 1 := by
  refine ⟨?_, ?_, ?_, ?_, ?_, ?_, ?_, ?_, ?_, ?_, ?_, ?_, ?_, ?_, ?_, ?_, ?_, ?_, ?_, ?_, ?_, ?_, ?_, ?_, ?_, ?_, ?_, ?_, ?_, ?_, ?_, ?_, ?_, ?_, ?_, ?_, ?_, ?_, ?_, ?_⟩ <;> kernel_rfl
theorem ty5 :
    elT Try.prog 48 = none ∧
    zeroD Try.prog 48 = some .nilf ∧
    zOk Try.prog 48 = true ∧
    aggT Try.prog 49 = some false ∧
    szT Try.prog 49 = some 1 ∧
    elT Try.prog 49 = none ∧
    zeroD Try.prog 49 = some .nilf ∧
    zOk Try.prog 49 = true ∧
    aggT Try.prog 50 = some false ∧
    szT Try.prog 50 = some 1 ∧
    elT Try.prog 50 = none ∧
    zeroD Try.prog 50 = some .nilf ∧
    zOk Try.prog 50 = true ∧
    aggT Try.prog 51 = some false ∧
    szT Try.prog 51 = some 1 ∧
    elT Try.prog 51 = none ∧
    zeroD Try.prog 51 = some .nilf ∧
    zOk Try.prog 51 = true ∧
    aggT Try.prog 52 = some false ∧
    szT Try.prog 52 = some 1 ∧
    elT Try.prog 52 = none ∧
    zeroD Try.prog 52 = some .nilf ∧
    zOk Try.prog 52 = true ∧
    aggT Try.prog 54 = some false ∧
    szT Try.prog 54 = some 1 ∧
    elT Try.prog 54 = none ∧
    zeroD Try.prog 54 = some .nilf ∧
    zOk Try.prog 54 = true ∧
    aggT Try.prog 55 = some false ∧
    szT Try.prog 55 = some 1 ∧
    elT Try.prog 55 = none ∧
    zeroD Try.prog 55 = some .nilf ∧
    zOk Try.prog 55 = true ∧
    aggT Try.prog 56 = some true ∧
    szT Try.prog 56 = some 2 ∧
    byT Try.prog 56 = some 32 ∧
    elT Try.prog 56 = none ∧
    zeroD Try.prog 56 = some (.agg [.nils, .nilf]) ∧
    zOk Try.prog 56 = true ∧
    allSz Try.prog 56 = true := by
  refine ⟨?_, ?_, ?_, ?_, ?_, ?_, ?_, ?_, ?_, ?_, ?_, ?_, ?_, ?_, ?_, ?_, ?_, ?_, ?_, ?_, ?_, ?_, ?_, ?_, ?_, ?_, ?_, ?_, ?_, ?_, ?_, ?_, ?_, ?_, ?_, ?_, ?_, ?_, ?_, ?_⟩ <;> kernel_rfl
theorem ty6 :
    fldT Try.prog 56 0 = some (0, 1) ∧
    fldT Try.prog 56 1 = some (1, 1) ∧
    aggT Try.prog 57 = some true ∧
    szT Try.prog 57 = some 2 ∧
    byT Try.prog 57 = some 32 ∧
    elT Try.prog 57 = none ∧
    zeroD Try.prog 57 = some (.agg [.nils, .nilf]) ∧
    zOk Try.prog 57 = true ∧
    allSz Try.prog 57 = true ∧
    fldT Try.prog 57 0 = some (0, 1) ∧
    fldT Try.prog 57 1 = some (1, 1) ∧
    aggT Try.prog 58 = some false ∧
    szT Try.prog 58 = some 1 ∧
    elT Try.prog 58 = none ∧
    zeroD Try.prog 58 = some .nilf ∧
    zOk Try.prog 58 = true ∧
    aggT Try.prog 59 = some false ∧
    szT Try.prog 59 = some 1 ∧
    elT Try.prog 59 = none ∧
    zeroD Try.prog 59 = some .nilf ∧
    zOk Try.prog 59 = true ∧
    aggT Try.prog 60 = some false ∧
    szT Try.prog 60 = some 1 ∧
    elT Try.prog 60 = none ∧
    zeroD Try.prog 60 = some .nilf ∧
    zOk Try.prog 60 = true ∧
    aggT Try.prog 61 = some false ∧
    szT Try.prog 61 = some 1 ∧
    elT Try.prog 61 = none ∧
    zeroD Try.prog 61 = some .nilf ∧
    zOk Try.prog 61 = true ∧
    aggT Try.prog 62 = some false ∧
    szT Try.prog 62 = some 1 ∧
    elT Try.prog 62 = none ∧
    zeroD Try.prog 62 = some .nilf ∧
    zOk Try.prog 62 = true ∧
    aggT Try.prog 63 = some false ∧
    szT Try.prog 63 = some 1 ∧
    elT Try.prog 63 = none ∧
    zeroD Try.prog 63 = some .nilf := by
  refine ⟨?_, ?_, ?_, ?_, ?_, ?_, ?_, ?_, ?_, ?_, ?_, ?_, ?_, ?_, ?_, ?_, ?_, ?_, ?_, ?_, ?_, ?_, ?_, ?_, ?_, ?_, ?_, ?_, ?_, ?_, ?_, ?_, ?_, ?_, ?_, ?_, ?_, ?_, ?_, ?_⟩ <;> kernel_rfl
theorem ty7 :
    zOk Try.prog 63 = true ∧
    aggT Try.prog 64 = some false ∧
    szT Try.prog 64 = some 1 ∧
    elT Try.prog 64 = none ∧
    zeroD Try.prog 64 = some .nilf ∧
    zOk Try.prog 64 = true ∧
    aggT Try.prog 65 = some false ∧
    szT Try.prog 65 = some 1 ∧
    byT Try.prog 65 = some 8 ∧
    elT Try.prog 65 = none ∧
    intT Try.prog 65 = some .u64 ∧
    zeroD Try.prog 65 = some (.int .u64 0) ∧
    zOk Try.prog 65 = true ∧
    aggT Try.prog 66 = some false ∧
    szT Try.prog 66 = some 1 ∧
    elT Try.prog 66 = none ∧
    zeroD Try.prog 66 = some .nilf ∧
    zOk Try.prog 66 = true ∧
    aggT Try.prog 67 = some false ∧
    szT Try.prog 67 = some 1 ∧
    elT Try.prog 67 = none ∧
    zeroD Try.prog 67 = some .nilf ∧
    zOk Try.prog 67 = true ∧
    aggT Try.prog 68 = some false ∧
    szT Try.prog 68 = some 1 ∧
    elT Try.prog 68 = none ∧
    zeroD Try.prog 68 = some .nilf ∧
    zOk Try.prog 68 = true ∧
    aggT Try.prog 74 = some false ∧
    szT Try.prog 74 = some 1 ∧
    elT Try.prog 74 = none ∧
    zeroD Try.prog 74 = some .nilf ∧
    zOk Try.prog 74 = true ∧
    aggT Try.prog 77 = some false ∧
    szT Try.prog 77 = some 1 ∧
    elT Try.prog 77 = none ∧
    zeroD Try.prog 77 = some .nilf ∧
    zOk Try.prog 77 = true ∧
    aggT Try.prog 78 = some false ∧
    szT Try.prog 78 = some 1 := by
  refine ⟨?_, ?_, ?_, ?_, ?_, ?_, ?_, ?_, ?_, ?_, ?_, ?_, ?_, ?_, ?_, ?_, ?_, ?_, ?_, ?_, ?_, ?_, ?_, ?_, ?_, ?_, ?_, ?_, ?_, ?_, ?_, ?_, ?_, ?_, ?_, ?_, ?_, ?_, ?_, ?_⟩ <;> kernel_rfl
theorem ty8 :
    elT Try.prog 78 = none := by
  kernel_rfl
theorem mixed : Try.prog.follows .mixedOrders = true := by kernel_rfl
theorem tys :
    (aggT Try.prog 1 = some false ∧ szT Try.prog 1 = some 1 ∧ elT Try.prog 1 = none ∧ zeroD Try.prog 1 = some .nilf ∧ zOk Try.prog 1 = true ∧ aggT Try.prog 2 = some false ∧ szT Try.prog 2 = some 1 ∧ byT Try.prog 2 = some 8 ∧ elT Try.prog 2 = none ∧ intT Try.prog 2 = some .i64 ∧ zeroD Try.prog 2 = some (.int .i64 0) ∧ zOk Try.prog 2 = true ∧ aggT Try.prog 3 = some false ∧ szT Try.prog 3 = some 1 ∧ byT Try.prog 3 = some 8 ∧ elT Try.prog 3 = none ∧ intT Try.prog 3 = some .i64 ∧ zeroD Try.prog 3 = some (.int .i64 0) ∧ zOk Try.prog 3 = true ∧ aggT Try.prog 4 = some false ∧ szT Try.prog 4 = some 1 ∧ byT Try.prog 4 = some 1 ∧ elT Try.prog 4 = none ∧ isBoolT Try.prog 4 = true ∧ zeroD Try.prog 4 = some (.bool false) ∧ zOk Try.prog 4 = true ∧ aggT Try.prog 5 = some false ∧ szT Try.prog 5 = some 1 ∧ byT Try.prog 5 = some 1 ∧ elT Try.prog 5 = none ∧ intT Try.prog 5 = some .u8 ∧ zeroD Try.prog 5 = some (.int .u8 0) ∧ zOk Try.prog 5 = true ∧ aggT Try.prog 9 = some false ∧ szT Try.prog 9 = some 1 ∧ byT Try.prog 9 = some 16 ∧ elT Try.prog 9 = none ∧ isStrT Try.prog 9 = true ∧ zeroD Try.prog 9 = some (.str ⟨#[]⟩) ∧ zOk Try.prog 9 = true) ∧
    (aggT Try.prog 12 = some false ∧ szT Try.prog 12 = some 1 ∧ byT Try.prog 12 = some 8 ∧ elT Try.prog 12 = none ∧ intT Try.prog 12 = some .u64 ∧ zeroD Try.prog 12 = some (.int .u64 0) ∧ zOk Try.prog 12 = true ∧ aggT Try.prog 21 = some false ∧ szT Try.prog 21 = some 1 ∧ byT Try.prog 21 = some 4 ∧ elT Try.prog 21 = none ∧ intT Try.prog 21 = some .i32 ∧ zeroD Try.prog 21 = some (.int .i32 0) ∧ zOk Try.prog 21 = true ∧ aggT Try.prog 22 = some false ∧ szT Try.prog 22 = some 1 ∧ byT Try.prog 22 = some 24 ∧ elT Try.prog 22 = some 23 ∧ zeroD Try.prog 22 = some .nils ∧ zOk Try.prog 22 = true ∧ aggT Try.prog 23 = some false ∧ szT Try.prog 23 = some 1 ∧ byT Try.prog 23 = some 8 ∧ elT Try.prog 23 = none ∧ intT Try.prog 23 = some .u64 ∧ zeroD Try.prog 23 = some (.int .u64 0) ∧ zOk Try.prog 23 = true ∧ aggT Try.prog 24 = some false ∧ szT Try.prog 24 = some 1 ∧ elT Try.prog 24 = none ∧ zeroD Try.prog 24 = some .nilf ∧ zOk Try.prog 24 = true ∧ aggT Try.prog 25 = some false ∧ szT Try.prog 25 = some 1 ∧ elT Try.prog 25 = none ∧ zeroD Try.prog 25 = some .nilf ∧ zOk Try.prog 25 = true ∧ aggT Try.prog 26 = some false ∧ szT Try.prog 26 = some 1 ∧ elT Try.prog 26 = none) ∧
    (zeroD Try.prog 26 = some .nilf ∧ zOk Try.prog 26 = true ∧ aggT Try.prog 27 = some false ∧ szT Try.prog 27 = some 1 ∧ elT Try.prog 27 = none ∧ zeroD Try.prog 27 = some .nilf ∧ zOk Try.prog 27 = true ∧ aggT Try.prog 28 = some false ∧ szT Try.prog 28 = some 1 ∧ elT Try.prog 28 = none ∧ zeroD Try.prog 28 = some .nilf ∧ zOk Try.prog 28 = true ∧ aggT Try.prog 29 = some false ∧ szT Try.prog 29 = some 1 ∧ elT Try.prog 29 = none ∧ zeroD Try.prog 29 = some .nilf ∧ zOk Try.prog 29 = true ∧ aggT Try.prog 30 = some false ∧ szT Try.prog 30 = some 1 ∧ elT Try.prog 30 = none ∧ zeroD Try.prog 30 = some .nilf ∧ zOk Try.prog 30 = true ∧ aggT Try.prog 31 = some false ∧ szT Try.prog 31 = some 1 ∧ elT Try.prog 31 = none ∧ zeroD Try.prog 31 = some .nilf ∧ zOk Try.prog 31 = true ∧ aggT Try.prog 32 = some false ∧ szT Try.prog 32 = some 1 ∧ byT Try.prog 32 = some 4 ∧ elT Try.prog 32 = none ∧ intT Try.prog 32 = some .u32 ∧ zeroD Try.prog 32 = some (.int .u32 0) ∧ zOk Try.prog 32 = true ∧ aggT Try.prog 33 = some false ∧ szT Try.prog 33 = some 1 ∧ elT Try.prog 33 = none ∧ zeroD Try.prog 33 = some .nilf ∧ zOk Try.prog 33 = true ∧ aggT Try.prog 34 = some false) ∧
    (szT Try.prog 34 = some 1 ∧ elT Try.prog 34 = none ∧ zeroD Try.prog 34 = some .nilf ∧ zOk Try.prog 34 = true ∧ aggT Try.prog 35 = some false ∧ szT Try.prog 35 = some 1 ∧ elT Try.prog 35 = none ∧ zeroD Try.prog 35 = some .nilf ∧ zOk Try.prog 35 = true ∧ aggT Try.prog 36 = some false ∧ szT Try.prog 36 = some 1 ∧ elT Try.prog 36 = none ∧ zeroD Try.prog 36 = some .nilf ∧ zOk Try.prog 36 = true ∧ aggT Try.prog 37 = some false ∧ szT Try.prog 37 = some 1 ∧ elT Try.prog 37 = none ∧ zeroD Try.prog 37 = some .nilf ∧ zOk Try.prog 37 = true ∧ aggT Try.prog 38 = some false ∧ szT Try.prog 38 = some 1 ∧ byT Try.prog 38 = some 24 ∧ elT Try.prog 38 = some 41 ∧ zeroD Try.prog 38 = some .nils ∧ zOk Try.prog 38 = true ∧ aggT Try.prog 39 = some false ∧ szT Try.prog 39 = some 1 ∧ byT Try.prog 39 = some 24 ∧ elT Try.prog 39 = some 3 ∧ zeroD Try.prog 39 = some .nils ∧ zOk Try.prog 39 = true ∧ aggT Try.prog 40 = some true ∧ szT Try.prog 40 = some 4 ∧ byT Try.prog 40 = some 48 ∧ elT Try.prog 40 = none ∧ zeroD Try.prog 40 = some (.agg [(.int .u64 0), .nils, (.bool false), (.int .i64 0)]) ∧ zOk Try.prog 40 = true ∧ allSz Try.prog 40 = true ∧ fldT Try.prog 40 0 = some (0, 1) ∧ fldT Try.prog 40 1 = some (1, 1)) ∧
    (fldT Try.prog 40 2 = some (2, 1) ∧ fldT Try.prog 40 3 = some (3, 1) ∧ aggT Try.prog 41 = some true ∧ szT Try.prog 41 = some 4 ∧ byT Try.prog 41 = some 48 ∧ elT Try.prog 41 = none ∧ zeroD Try.prog 41 = some (.agg [(.int .u64 0), .nils, (.bool false), (.int .i64 0)]) ∧ zOk Try.prog 41 = true ∧ allSz Try.prog 41 = true ∧ fldT Try.prog 41 0 = some (0, 1) ∧ fldT Try.prog 41 1 = some (1, 1) ∧ fldT Try.prog 41 2 = some (2, 1) ∧ fldT Try.prog 41 3 = some (3, 1) ∧ aggT Try.prog 42 = some false ∧ szT Try.prog 42 = some 1 ∧ elT Try.prog 42 = none ∧ zeroD Try.prog 42 = some .nilf ∧ zOk Try.prog 42 = true ∧ aggT Try.prog 44 = some false ∧ szT Try.prog 44 = some 1 ∧ elT Try.prog 44 = none ∧ zeroD Try.prog 44 = some .nilf ∧ zOk Try.prog 44 = true ∧ aggT Try.prog 45 = some false ∧ szT Try.prog 45 = some 1 ∧ elT Try.prog 45 = none ∧ zeroD Try.prog 45 = some .nilf ∧ zOk Try.prog 45 = true ∧ aggT Try.prog 46 = some false ∧ szT Try.prog 46 = some 1 ∧ elT Try.prog 46 = none ∧ zeroD Try.prog 46 = some .nilf ∧ zOk Try.prog 46 = true ∧ aggT Try.prog 47 = some false ∧ szT Try.prog 47 = some 1 ∧ elT Try.prog 47 = none ∧ zeroD Try.prog 47 = some .nilf ∧ zOk Try.prog 47 = true ∧ aggT Try.prog 48 = some false ∧ szT Try.prog 48 = some 1) ∧
    (elT Try.prog 48 = none ∧ zeroD Try.prog 48 = some .nilf ∧ zOk Try.prog 48 = true ∧ aggT Try.prog 49 = some false ∧ szT Try.prog 49 = some 1 ∧ elT Try.prog 49 = none ∧ zeroD Try.prog 49 = some .nilf ∧ zOk Try.prog 49 = true ∧ aggT Try.prog 50 = some false ∧ szT Try.prog 50 = some 1 ∧ elT Try.prog 50 = none ∧ zeroD Try.prog 50 = some .nilf ∧ zOk Try.prog 50 = true ∧ aggT Try.prog 51 = some false ∧ szT Try.prog 51 = some 1 ∧ elT Try.prog 51 = none ∧ zeroD Try.prog 51 = some .nilf ∧ zOk Try.prog 51 = true ∧ aggT Try.prog 52 = some false ∧ szT Try.prog 52 = some 1 ∧ elT Try.prog 52 = none ∧ zeroD Try.prog 52 = some .nilf ∧ zOk Try.prog 52 = true ∧ aggT Try.prog 54 = some false ∧ szT Try.prog 54 = some 1 ∧ elT Try.prog 54 = none ∧ zeroD Try.prog 54 = some .nilf ∧ zOk Try.prog 54 = true ∧ aggT Try.prog 55 = some false ∧ szT Try.prog 55 = some 1 ∧ elT Try.prog 55 = none ∧ zeroD Try.prog 55 = some .nilf ∧ zOk Try.prog 55 = true ∧ aggT Try.prog 56 = some true ∧ szT Try.prog 56 = some 2 ∧ byT Try.prog 56 = some 32 ∧ elT Try.prog 56 = none ∧ zeroD Try.prog 56 = some (.agg [.nils, .nilf]) ∧ zOk Try.prog 56 = true ∧ allSz Try.prog 56 = true) ∧
    (fldT Try.prog 56 0 = some (0, 1) ∧ fldT Try.prog 56 1 = some (1, 1) ∧ aggT Try.prog 57 = some true ∧ szT Try.prog 57 = some 2 ∧ byT Try.prog 57 = some 32 ∧ elT Try.prog 57 = none ∧ zeroD Try.prog 57 = some (.agg [.nils, .nilf]) ∧ zOk Try.prog 57 = true ∧ allSz Try.prog 57 = true ∧ fldT Try.prog 57 0 = some (0, 1) ∧ fldT Try.prog 57 1 = some (1, 1) ∧ aggT Try.prog 58 = some false ∧ szT Try.prog 58 = some 1 ∧ elT Try.prog 58 = none ∧ zeroD Try.prog 58 = some .nilf ∧ zOk Try.prog 58 = true ∧ aggT Try.prog 59 = some false ∧ szT Try.prog 59 = some 1 ∧ elT Try.prog 59 = none ∧ zeroD Try.prog 59 = some .nilf ∧ zOk Try.prog 59 = true ∧ aggT Try.prog 60 = some false ∧ szT Try.prog 60 = some 1 ∧ elT Try.prog 60 = none ∧ zeroD Try.prog 60 = some .nilf ∧ zOk Try.prog 60 = true ∧ aggT Try.prog 61 = some false ∧ szT Try.prog 61 = some 1 ∧ elT Try.prog 61 = none ∧ zeroD Try.prog 61 = some .nilf ∧ zOk Try.prog 61 = true ∧ aggT Try.prog 62 = some false ∧ szT Try.prog 62 = some 1 ∧ elT Try.prog 62 = none ∧ zeroD Try.prog 62 = some .nilf ∧ zOk Try.prog 62 = true ∧ aggT Try.prog 63 = some false ∧ szT Try.prog 63 = some 1 ∧ elT Try.prog 63 = none ∧ zeroD Try.prog 63 = some .nilf) ∧
    (zOk Try.prog 63 = true ∧ aggT Try.prog 64 = some false ∧ szT Try.prog 64 = some 1 ∧ elT Try.prog 64 = none ∧ zeroD Try.prog 64 = some .nilf ∧ zOk Try.prog 64 = true ∧ aggT Try.prog 65 = some false ∧ szT Try.prog 65 = some 1 ∧ byT Try.prog 65 = some 8 ∧ elT Try.prog 65 = none ∧ intT Try.prog 65 = some .u64 ∧ zeroD Try.prog 65 = some (.int .u64 0) ∧ zOk Try.prog 65 = true ∧ aggT Try.prog 66 = some false ∧ szT Try.prog 66 = some 1 ∧ elT Try.prog 66 = none ∧ zeroD Try.prog 66 = some .nilf ∧ zOk Try.prog 66 = true ∧ aggT Try.prog 67 = some false ∧ szT Try.prog 67 = some 1 ∧ elT Try.prog 67 = none ∧ zeroD Try.prog 67 = some .nilf ∧ zOk Try.prog 67 = true ∧ aggT Try.prog 68 = some false ∧ szT Try.prog 68 = some 1 ∧ elT Try.prog 68 = none ∧ zeroD Try.prog 68 = some .nilf ∧ zOk Try.prog 68 = true ∧ aggT Try.prog 74 = some false ∧ szT Try.prog 74 = some 1 ∧ elT Try.prog 74 = none ∧ zeroD Try.prog 74 = some .nilf ∧ zOk Try.prog 74 = true ∧ aggT Try.prog 77 = some false ∧ szT Try.prog 77 = some 1 ∧ elT Try.prog 77 = none ∧ zeroD Try.prog 77 = some .nilf ∧ zOk Try.prog 77 = true ∧ aggT Try.prog 78 = some false ∧ szT Try.prog 78 = some 1) ∧
    (elT Try.prog 78 = none) :=
  ⟨ty0, ty1, ty2, ty3, ty4, ty5, ty6, ty7, ty8⟩
end Go.Eng.Try

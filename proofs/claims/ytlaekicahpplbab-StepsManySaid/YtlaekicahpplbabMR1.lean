/- The facts on the types of this seat's program: closed equations. (and what stands behind it: texts laid together) -/
import Derived.Test.YtlaekicahpplbabProg
import Derived.Test.YtlaekicahpplbabMG2
set_option linter.unusedVariables false
namespace Go.Eng.Try
open Go Go.Eng Go.Proofs
theorem ty0 :
    aggT Try.prog 1 = some false ∧
    szT Try.prog 1 = some 1 ∧
    elT Try.prog 1 = none ∧
    zeroD Try.prog 1 = some .nilf ∧
    zOk Try.prog 1 = true ∧
    aggT Try.prog 2 = some false ∧
    szT Try.prog 2 = some 1 ∧
    byT Try.prog 2 = some 8 ∧
    elT Try.prog 2 = none ∧
    intT Try.prog 2 = some .i64 ∧
    zeroD Try.prog 2 = some (.int .i64 0) ∧
    zOk Try.prog 2 = true ∧
    aggT Try.prog 3 = some false ∧
    szT Try.prog 3 = some 1 ∧
    byT Try.prog 3 = some 8 ∧
    elT Try.prog 3 = none ∧
    intT Try.prog 3 = some .i64 ∧
    zeroD Try.prog 3 = some (.int .i64 0) ∧
    zOk Try.prog 3 = true ∧
    aggT Try.prog 4 = some false ∧
    szT Try.prog 4 = some 1 ∧
    byT Try.prog 4 = some 1 ∧
    elT Try.prog 4 = none ∧
    isBoolT Try.prog 4 = true ∧
    zeroD Try.prog 4 = some (.bool false) ∧
    zOk Try.prog 4 = true ∧
    aggT Try.prog 5 = some false ∧
    szT Try.prog 5 = some 1 ∧
    byT Try.prog 5 = some 1 ∧
    elT Try.prog 5 = none ∧
    intT Try.prog 5 = some .u8 ∧
    zeroD Try.prog 5 = some (.int .u8 0) ∧
    zOk Try.prog 5 = true ∧
    aggT Try.prog 9 = some false ∧
    szT Try.prog 9 = some 1 ∧
    byT Try.prog 9 = some 16 ∧
    elT Try.prog 9 = none ∧
    isStrT Try.prog 9 = true ∧
    zeroD Try.prog 9 = some (.str ⟨#[]⟩) ∧
    zOk Try.prog 9 = true := by
  refine ⟨?_, ?_, ?_, ?_, ?_, ?_, ?_, ?_, ?_, ?_, ?_, ?_, ?_, ?_, ?_, ?_, ?_, ?_, ?_, ?_, ?_, ?_, ?_, ?_, ?_, ?_, ?_, ?_, ?_, ?_, ?_, ?_, ?_, ?_, ?_, ?_, ?_, ?_, ?_, ?_⟩ <;> kernel_rfl
theorem ty1 :
    aggT Try.prog 12 = some false ∧
    szT Try.prog 12 = some 1 ∧
    byT Try.prog 12 = some 8 ∧
    elT Try.prog 12 = none ∧
    intT Try.prog 12 = some .u64 ∧
    zeroD Try.prog 12 = some (.int .u64 0) ∧
    zOk Try.prog 12 = true ∧
    aggT Try.prog 21 = some false ∧
    szT Try.prog 21 = some 1 ∧
    byT Try.prog 21 = some 4 ∧
    elT Try.prog 21 = none ∧
    intT Try.prog 21 = some .i32 ∧
    zeroD Try.prog 21 = some (.int .i32 0) ∧
    zOk Try.prog 21 = true ∧
    aggT Try.prog 22 = some false ∧
    szT Try.prog 22 = some 1 ∧
    byT Try.prog 22 = some 24 ∧
    elT Try.prog 22 = some 26 ∧
    zeroD Try.prog 22 = some .nils ∧
    zOk Try.prog 22 = true ∧
    aggT Try.prog 23 = some false ∧
    szT Try.prog 23 = some 1 ∧
    byT Try.prog 23 = some 8 ∧
    elT Try.prog 23 = none ∧
    intT Try.prog 23 = some .u64 ∧
    zeroD Try.prog 23 = some (.int .u64 0) ∧
    zOk Try.prog 23 = true ∧
    aggT Try.prog 24 = some false ∧
    szT Try.prog 24 = some 1 ∧
    byT Try.prog 24 = some 24 ∧
    elT Try.prog 24 = some 3 ∧
    zeroD Try.prog 24 = some .nils ∧
    zOk Try.prog 24 = true ∧
    aggT Try.prog 25 = some true ∧
    szT Try.prog 25 = some 4 ∧
    byT Try.prog 25 = some 48 ∧
    elT Try.prog 25 = none ∧
    zeroD Try.prog 25 = some (.agg [(.int .u64 0), .nils, (.bool false), (.int .i64 0)]) ∧
    zOk Try.prog 25 = true ∧
    allSz Try.prog 25 = true := by
  refine ⟨?_, ?_, ?_, ?_, ?_, ?_, ?_, ?_, ?_, ?_, ?_, ?_, ?_, ?_, ?_, ?_, ?_, ?_, ?_, ?_, ?_, ?_, ?_, ?_, ?_, ?_, ?_, ?_, ?_, ?_, ?_, ?_, ?_, ?_, ?_, ?_, ?_, ?_, ?_, ?_⟩ <;> kernel_rfl
theorem ty2 :
    fldT Try.prog 25 0 = some (0, 1) ∧
    fldT Try.prog 25 1 = some (1, 1) ∧
    fldT Try.prog 25 2 = some (2, 1) ∧
    fldT Try.prog 25 3 = some (3, 1) ∧
    aggT Try.prog 26 = some true ∧
    szT Try.prog 26 = some 4 ∧
    byT Try.prog 26 = some 48 ∧
    elT Try.prog 26 = none ∧
    zeroD Try.prog 26 = some (.agg [(.int .u64 0), .nils, (.bool false), (.int .i64 0)]) ∧
    zOk Try.prog 26 = true ∧
    allSz Try.prog 26 = true ∧
    fldT Try.prog 26 0 = some (0, 1) ∧
    fldT Try.prog 26 1 = some (1, 1) ∧
    fldT Try.prog 26 2 = some (2, 1) ∧
    fldT Try.prog 26 3 = some (3, 1) ∧
    aggT Try.prog 27 = some false ∧
    szT Try.prog 27 = some 1 ∧
    elT Try.prog 27 = none ∧
    zeroD Try.prog 27 = some .nilf ∧
    zOk Try.prog 27 = true ∧
    aggT Try.prog 28 = some false ∧
    szT Try.prog 28 = some 1 ∧
    elT Try.prog 28 = none ∧
    zeroD Try.prog 28 = some .nilf ∧
    zOk Try.prog 28 = true ∧
    aggT Try.prog 29 = some false ∧
    szT Try.prog 29 = some 1 ∧
    elT Try.prog 29 = none ∧
    zeroD Try.prog 29 = some .nilf ∧
    zOk Try.prog 29 = true ∧
    aggT Try.prog 31 = some false ∧
    szT Try.prog 31 = some 1 ∧
    elT Try.prog 31 = none ∧
    zeroD Try.prog 31 = some .nilf ∧
    zOk Try.prog 31 = true ∧
    aggT Try.prog 32 = some false ∧
    szT Try.prog 32 = some 1 ∧
    elT Try.prog 32 = none ∧
    zeroD Try.prog 32 = some .nilf ∧
    zOk Try.prog 32 = true := by
  refine ⟨?_, ?_, ?_, ?_, ?_, ?_, ?_, ?_, ?_, ?_, ?_, ?_, ?_, ?_, ?_, ?_, ?_, ?_, ?_, ?_, ?_, ?_, ?_, ?_, ?_, ?_, ?_, ?_, ?_, ?_, ?_, ?_, ?_, ?_, ?_, ?_, ?_, ?_, ?_, ?_⟩ <;> kernel_rfl
theorem ty3 :
    aggT Try.prog 33 = some false ∧
    szT Try.prog 33 = some 1 ∧
    elT Try.prog 33 = none ∧
    zeroD Try.prog 33 = some .nilf ∧
    zOk Try.prog 33 = true ∧
    aggT Try.prog 34 = some false ∧
    szT Try.prog 34 = some 1 ∧
    byT Try.prog 34 = some 24 ∧
    elT Try.prog 34 = some 36 ∧
    zeroD Try.prog 34 = some .nils ∧
    zOk Try.prog 34 = true ∧
    aggT Try.prog 35 = some true ∧
    szT Try.prog 35 = some 3 ∧
    byT Try.prog 35 = some 56 ∧
    elT Try.prog 35 = none ∧
    zeroD Try.prog 35 = some (.agg [.nils, .nils, (.int .u64 0)]) ∧
    zOk Try.prog 35 = true ∧
    allSz Try.prog 35 = true ∧
    fldT Try.prog 35 0 = some (0, 1) ∧
    fldT Try.prog 35 1 = some (1, 1) ∧
    fldT Try.prog 35 2 = some (2, 1) ∧
    aggT Try.prog 36 = some true ∧
    szT Try.prog 36 = some 3 ∧
    byT Try.prog 36 = some 56 ∧
    elT Try.prog 36 = none ∧
    zeroD Try.prog 36 = some (.agg [.nils, .nils, (.int .u64 0)]) ∧
    zOk Try.prog 36 = true ∧
    allSz Try.prog 36 = true ∧
    fldT Try.prog 36 0 = some (0, 1) ∧
    fldT Try.prog 36 1 = some (1, 1) ∧
    fldT Try.prog 36 2 = some (2, 1) ∧
    aggT Try.prog 37 = some false ∧
    szT Try.prog 37 = some 1 ∧
    elT Try.prog 37 = none ∧
    zeroD Try.prog 37 = some .nilf ∧
    zOk Try.prog 37 = true ∧
    aggT Try.prog 38 = some false ∧
    szT Try.prog 38 = some 1 ∧
    elT Try.prog 38 = none ∧
    zeroD Try.prog 38 = some .nilf := by
  refine ⟨?_, ?_, ?_, ?_, ?_, ?_, ?_, ?_, ?_, ?_, ?_, ?_, ?_, ?_, ?_, ?_, ?_, ?_, ?_, ?_, ?_, ?_, ?_, ?_, ?_, ?_, ?_, ?_, ?_, ?_, ?_, ?_, ?_, ?_, ?_, ?_, ?_, ?_, ?_, ?_⟩ <;> kernel_rfl
theorem ty4 :
    zOk Try.prog 38 = true ∧
    aggT Try.prog 39 = some false ∧
    szT Try.prog 39 = some 1 ∧
    elT Try.prog 39 = none ∧
    zeroD Try.prog 39 = some .nilf ∧
    zOk Try.prog 39 = true ∧
    aggT Try.prog 40 = some false ∧
    szT Try.prog 40 = some 1 ∧
    elT Try.prog 40 = none ∧
    zeroD Try.prog 40 = some .nilf ∧
    zOk Try.prog 40 = true ∧
    aggT Try.prog 41 = some false ∧
    szT Try.prog 41 = some 1 ∧
    elT Try.prog 41 = none ∧
    zeroD Try.prog 41 = some .nilf ∧
    zOk Try.prog 41 = true ∧
    aggT Try.prog 42 = some false ∧
    szT Try.prog 42 = some 1 ∧
    elT Try.prog 42 = none ∧
    zeroD Try.prog 42 = some .nilf ∧
    zOk Try.prog 42 = true ∧
    aggT Try.prog 43 = some false ∧
    szT Try.prog 43 = some 1 ∧
    elT Try.prog 43 = none ∧
    zeroD Try.prog 43 = some .nilf ∧
    zOk Try.prog 43 = true ∧
    aggT Try.prog 44 = some false ∧
    szT Try.prog 44 = some 1 ∧
    elT Try.prog 44 = none ∧
    zeroD Try.prog 44 = some .nilf ∧
    zOk Try.prog 44 = true ∧
    aggT Try.prog 45 = some true ∧
    szT Try.prog 45 = some 5 ∧
    byT Try.prog 45 = some 56 ∧
    elT Try.prog 45 = none ∧
    zeroD Try.prog 45 = some (.agg [(.int .u64 0), (.int .u64 0), (.int .u64 0), (.int .u64 0), .nils]) ∧
    zOk Try.prog 45 = true ∧
    allSz Try.prog 45 = true ∧
    fldT Try.prog 45 0 = some (0, 1) ∧
    fldT Try.prog 45 1 = some (1, 1) := by
  refine ⟨?_, ?_, ?_, ?_, ?_, ?_, ?_, ?_, ?_, ?_, ?_, ?_, ?_, ?_, ?_, ?_, ?_, ?_, ?_, ?_, ?_, ?_, ?_, ?_, ?_, ?_, ?_, ?_, ?_, ?_, ?_, ?_, ?_, ?_, ?_, ?_, ?_, ?_, ?_, ?_⟩ <;> kernel_rfl
theorem ty5 :
    fldT Try.prog 45 2 = some (2, 1) ∧
    fldT Try.prog 45 3 = some (3, 1) ∧
    fldT Try.prog 45 4 = some (4, 1) ∧
    aggT Try.prog 46 = some true ∧
    szT Try.prog 46 = some 5 ∧
    byT Try.prog 46 = some 56 ∧
    elT Try.prog 46 = none ∧
    zeroD Try.prog 46 = some (.agg [(.int .u64 0), (.int .u64 0), (.int .u64 0), (.int .u64 0), .nils]) ∧
    zOk Try.prog 46 = true ∧
    allSz Try.prog 46 = true ∧
    fldT Try.prog 46 0 = some (0, 1) ∧
    fldT Try.prog 46 1 = some (1, 1) ∧
    fldT Try.prog 46 2 = some (2, 1) ∧
    fldT Try.prog 46 3 = some (3, 1) ∧
    fldT Try.prog 46 4 = some (4, 1) ∧
    aggT Try.prog 47 = some false ∧
    szT Try.prog 47 = some 1 ∧
    elT Try.prog 47 = none ∧
    zeroD Try.prog 47 = some .nilf ∧
    zOk Try.prog 47 = true ∧
    aggT Try.prog 48 = some false ∧
    szT Try.prog 48 = some 1 ∧
    byT Try.prog 48 = some 24 ∧
    elT Try.prog 48 = some 51 ∧
    zeroD Try.prog 48 = some .nils ∧
    zOk Try.prog 48 = true ∧
    aggT Try.prog 49 = some false ∧
    szT Try.prog 49 = some 1 ∧
    elT Try.prog 49 = none ∧
    zeroD Try.prog 49 = some .nilf ∧
    zOk Try.prog 49 = true ∧
    aggT Try.prog 50 = some false ∧
    szT Try.prog 50 = some 1 ∧
    elT Try.prog 50 = none ∧
    zeroD Try.prog 50 = some .nilf ∧
    zOk Try.prog 50 = true ∧
    aggT Try.prog 51 = some false ∧
    szT Try.prog 51 = some 1 ∧
    byT Try.prog 51 = some 24 ∧
    elT Try.prog 51 = some 56 := by
  refine ⟨?_, ?_, ?_, ?_, ?_, ?_, ?_, ?_, ?_, ?_, ?_, ?_, ?_, ?_, ?_, ?_, ?_, ?_, ?_, ?_, ?_, ?_, ?_, ?_, ?_, ?_, ?_, ?_, ?_, ?_, ?_, ?_, ?_, ?_, ?_, ?_, ?_, ?_, ?_, ?_⟩ <;> kernel_rfl
theorem ty6 :
    zeroD Try.prog 51 = some .nils ∧
    zOk Try.prog 51 = true ∧
    aggT Try.prog 52 = some false ∧
    szT Try.prog 52 = some 1 ∧
    elT Try.prog 52 = none ∧
    zeroD Try.prog 52 = some .nilf ∧
    zOk Try.prog 52 = true ∧
    aggT Try.prog 53 = some false ∧
    szT Try.prog 53 = some 1 ∧
    elT Try.prog 53 = none ∧
    zeroD Try.prog 53 = some .nilf ∧
    zOk Try.prog 53 = true ∧
    aggT Try.prog 54 = some false ∧
    szT Try.prog 54 = some 1 ∧
    elT Try.prog 54 = none ∧
    zeroD Try.prog 54 = some .nilf ∧
    zOk Try.prog 54 = true ∧
    aggT Try.prog 55 = some true ∧
    szT Try.prog 55 = some 4 ∧
    byT Try.prog 55 = some 48 ∧
    elT Try.prog 55 = none ∧
    zeroD Try.prog 55 = some (.agg [(.int .i64 0), .nils, (.bool false), (.int .u64 0)]) ∧
    zOk Try.prog 55 = true ∧
    allSz Try.prog 55 = true ∧
    fldT Try.prog 55 0 = some (0, 1) ∧
    fldT Try.prog 55 1 = some (1, 1) ∧
    fldT Try.prog 55 2 = some (2, 1) ∧
    fldT Try.prog 55 3 = some (3, 1) ∧
    aggT Try.prog 56 = some true ∧
    szT Try.prog 56 = some 4 ∧
    byT Try.prog 56 = some 48 ∧
    elT Try.prog 56 = none ∧
    zeroD Try.prog 56 = some (.agg [(.int .i64 0), .nils, (.bool false), (.int .u64 0)]) ∧
    zOk Try.prog 56 = true ∧
    allSz Try.prog 56 = true ∧
    fldT Try.prog 56 0 = some (0, 1) ∧
    fldT Try.prog 56 1 = some (1, 1) ∧
    fldT Try.prog 56 2 = some (2, 1) ∧
    fldT Try.prog 56 3 = some (3, 1) ∧
    aggT Try.prog 57 = some false := by
  refine ⟨?_, ?_, ?_, ?_, ?_, ?_, ?_, ?_, ?_, ?_, ?_, ?_, ?_, ?_, ?_, ?_, ?_, ?_, ?_, ?_, ?_, ?_, ?_, ?_, ?_, ?_, ?_, ?_, ?_, ?_, ?_, ?_, ?_, ?_, ?_, ?_, ?_, ?_, ?_, ?_⟩ <;> kernel_rfl
theorem ty7 :
    szT Try.prog 57 = some 1 ∧
    elT Try.prog 57 = none ∧
    zeroD Try.prog 57 = some .nilf ∧
    zOk Try.prog 57 = true ∧
    aggT Try.prog 58 = some false ∧
    szT Try.prog 58 = some 1 ∧
    elT Try.prog 58 = none ∧
    zeroD Try.prog 58 = some .nilf ∧
    zOk Try.prog 58 = true ∧
    aggT Try.prog 59 = some false ∧
    szT Try.prog 59 = some 1 ∧
    elT Try.prog 59 = none ∧
    zeroD Try.prog 59 = some .nilf ∧
    zOk Try.prog 59 = true ∧
    aggT Try.prog 60 = some false ∧
    szT Try.prog 60 = some 1 ∧
    elT Try.prog 60 = none ∧
    zeroD Try.prog 60 = some .nilf ∧
    zOk Try.prog 60 = true ∧
    aggT Try.prog 61 = some false ∧
    szT Try.prog 61 = some 1 ∧
    elT Try.prog 61 = none ∧
    zeroD Try.prog 61 = some .nilf ∧
    zOk Try.prog 61 = true ∧
    aggT Try.prog 62 = some true ∧
    szT Try.prog 62 = some 2 ∧
    byT Try.prog 62 = some 32 ∧
    elT Try.prog 62 = none ∧
    zeroD Try.prog 62 = some (.agg [.nils, .nilf]) ∧
    zOk Try.prog 62 = true ∧
    allSz Try.prog 62 = true ∧
    fldT Try.prog 62 0 = some (0, 1) ∧
    fldT Try.prog 62 1 = some (1, 1) ∧
    aggT Try.prog 63 = some true ∧
    szT Try.prog 63 = some 2 ∧
    byT Try.prog 63 = some 32 ∧
    elT Try.prog 63 = none ∧
    zeroD Try.prog 63 = some (.agg [.nils, .nilf]) ∧
    zOk Try.prog 63 = true ∧
    allSz Try.prog 63 = true := by
  refine ⟨?_, ?_, ?_, ?_, ?_, ?_, ?_, ?_, ?_, ?_, ?_, ?_, ?_, ?_, ?_, ?_, ?_, ?_, ?_, ?_, ?_, ?_, ?_, ?_, ?_, ?_, ?_, ?_, ?_, ?_, ?_, ?_, ?_, ?_, ?_, ?_, ?_, ?_, ?_, ?_⟩ <;> kernel_rfl
theorem ty8 :
    fldT Try.prog 63 0 = some (0, 1) ∧
    fldT Try.prog 63 1 = some (1, 1) ∧
    aggT Try.prog 64 = some false ∧
    szT Try.prog 64 = some 1 ∧
    elT Try.prog 64 = none ∧
    zeroD Try.prog 64 = some .nilf ∧
    zOk Try.prog 64 = true ∧
    aggT Try.prog 65 = some false ∧
    szT Try.prog 65 = some 1 ∧
    elT Try.prog 65 = none ∧
    zeroD Try.prog 65 = some .nilf ∧
    zOk Try.prog 65 = true ∧
    aggT Try.prog 66 = some false ∧
    szT Try.prog 66 = some 1 ∧
    elT Try.prog 66 = none ∧
    zeroD Try.prog 66 = some .nilf ∧
    zOk Try.prog 66 = true ∧
    aggT Try.prog 67 = some true ∧
    szT Try.prog 67 = some 8 ∧
    byT Try.prog 67 = some 64 ∧
    elT Try.prog 67 = none ∧
    arrT Try.prog 67 = some (8, 3) ∧
    zeroD Try.prog 67 = some (.agg [(.int .i64 0), (.int .i64 0), (.int .i64 0), (.int .i64 0), (.int .i64 0), (.int .i64 0), (.int .i64 0), (.int .i64 0)]) ∧
    zOk Try.prog 67 = true ∧
    aggT Try.prog 68 = some true ∧
    szT Try.prog 68 = some 9 ∧
    byT Try.prog 68 = some 72 ∧
    elT Try.prog 68 = none ∧
    zeroD Try.prog 68 = some (.agg [(.int .i64 0), (.int .i64 0), (.int .i64 0), (.int .i64 0), (.int .i64 0), (.int .i64 0), (.int .i64 0), (.int .i64 0), (.int .i64 0)]) ∧
    zOk Try.prog 68 = true ∧
    allSz Try.prog 68 = true ∧
    fldT Try.prog 68 0 = some (0, 1) ∧
    fldT Try.prog 68 1 = some (1, 8) ∧
    aggT Try.prog 69 = some true ∧
    szT Try.prog 69 = some 9 ∧
    byT Try.prog 69 = some 72 ∧
    elT Try.prog 69 = none ∧
    zeroD Try.prog 69 = some (.agg [(.int .i64 0), (.int .i64 0), (.int .i64 0), (.int .i64 0), (.int .i64 0), (.int .i64 0), (.int .i64 0), (.int .i64 0), (.int .i64 0)]) ∧
    zOk Try.prog 69 = true ∧
    allSz Try.prog 69 = true := by
  refine ⟨?_, ?_, ?_, ?_, ?_, ?_, ?_, ?_, ?_, ?_, ?_, ?_, ?_, ?_, ?_, ?_, ?_, ?_, ?_, ?_, ?_, ?_, ?_, ?_, ?_, ?_, ?_, ?_, ?_, ?_, ?_, ?_, ?_, ?_, ?_, ?_, ?_, ?_, ?_, ?_⟩ <;> kernel_rfl
theorem ty9 :
    fldT Try.prog 69 0 = some (0, 1) ∧
    fldT Try.prog 69 1 = some (1, 8) ∧
    aggT Try.prog 70 = some true ∧
    szT Try.prog 70 = some 18 ∧
    byT Try.prog 70 = some 144 ∧
    elT Try.prog 70 = none ∧
    zeroD Try.prog 70 = some (.agg [(.int .i64 0), (.int .i64 0), (.int .i64 0), (.int .i64 0), (.int .i64 0), (.int .i64 0), (.int .i64 0), (.int .i64 0), (.int .i64 0), (.int .i64 0), (.int .i64 0), (.int .i64 0), (.int .i64 0), (.int .i64 0), (.int .i64 0), (.int .i64 0), (.int .i64 0), (.int .i64 0)]) ∧
    zOk Try.prog 70 = true ∧
    allSz Try.prog 70 = true ∧
    fldT Try.prog 70 0 = some (0, 9) ∧
    fldT Try.prog 70 1 = some (9, 9) ∧
    aggT Try.prog 71 = some true ∧
    szT Try.prog 71 = some 18 ∧
    byT Try.prog 71 = some 144 ∧
    elT Try.prog 71 = none ∧
    zeroD Try.prog 71 = some (.agg [(.int .i64 0), (.int .i64 0), (.int .i64 0), (.int .i64 0), (.int .i64 0), (.int .i64 0), (.int .i64 0), (.int .i64 0), (.int .i64 0), (.int .i64 0), (.int .i64 0), (.int .i64 0), (.int .i64 0), (.int .i64 0), (.int .i64 0), (.int .i64 0), (.int .i64 0), (.int .i64 0)]) ∧
    zOk Try.prog 71 = true ∧
    allSz Try.prog 71 = true ∧
    fldT Try.prog 71 0 = some (0, 9) ∧
    fldT Try.prog 71 1 = some (9, 9) ∧
    aggT Try.prog 73 = some false ∧
    szT Try.prog 73 = some 1 ∧
    elT Try.prog 73 = none ∧
    zeroD Try.prog 73 = some .nilf ∧
    zOk Try.prog 73 = true ∧
    aggT Try.prog 74 = some false ∧
    szT Try.prog 74 = some 1 ∧
    elT Try.prog 74 = none ∧
    zeroD Try.prog 74 = some .nilf ∧
    zOk Try.prog 74 = true ∧
    aggT Try.prog 75 = some false ∧
    szT Try.prog 75 = some 1 ∧
    elT Try.prog 75 = none ∧
    zeroD Try.prog 75 = some .nilf ∧
    zOk Try.prog 75 = true ∧
    aggT Try.prog 76 = some false ∧
    szT Try.prog 76 = some 1 ∧
    elT Try.prog 76 = none ∧
    mapT Try.prog 76 = some (71, 23) ∧
    aggT Try.prog 78 = some false := by
  refine ⟨?_, ?_, ?_, ?_, ?_, ?_, ?_, ?_, ?_, ?_, ?_, ?_, ?_, ?_, ?_, ?_, ?_, ?_, ?_, ?_, ?_, ?_, ?_, ?_, ?_, ?_, ?_, ?_, ?_, ?_, ?_, ?_, ?_, ?_, ?_, ?_, ?_, ?_, ?_, ?_⟩ <;> kernel_rfl
theorem ty10 :
    szT Try.prog 78 = some 1 ∧
    elT Try.prog 78 = none ∧
    zeroD Try.prog 78 = some .nilf ∧
    zOk Try.prog 78 = true ∧
    aggT Try.prog 79 = some false ∧
    szT Try.prog 79 = some 1 ∧
    elT Try.prog 79 = none ∧
    zeroD Try.prog 79 = some .nilf ∧
    zOk Try.prog 79 = true ∧
    aggT Try.prog 80 = some false ∧
    szT Try.prog 80 = some 1 ∧
    elT Try.prog 80 = none ∧
    zeroD Try.prog 80 = some .nilf ∧
    zOk Try.prog 80 = true ∧
    aggT Try.prog 81 = some false ∧
    szT Try.prog 81 = some 1 ∧
    byT Try.prog 81 = some 24 ∧
    elT Try.prog 81 = some 23 ∧
    zeroD Try.prog 81 = some .nils ∧
    zOk Try.prog 81 = true ∧
    aggT Try.prog 82 = some false ∧
    szT Try.prog 82 = some 1 ∧
    elT Try.prog 82 = none ∧
    zeroD Try.prog 82 = some .nilf ∧
    zOk Try.prog 82 = true ∧
    aggT Try.prog 83 = some false ∧
    szT Try.prog 83 = some 1 ∧
    elT Try.prog 83 = none ∧
    zeroD Try.prog 83 = some .nilf ∧
    zOk Try.prog 83 = true ∧
    aggT Try.prog 84 = some false ∧
    szT Try.prog 84 = some 1 ∧
    elT Try.prog 84 = none ∧
    zeroD Try.prog 84 = some .nilf ∧
    zOk Try.prog 84 = true ∧
    aggT Try.prog 85 = some false ∧
    szT Try.prog 85 = some 1 ∧
    elT Try.prog 85 = none ∧
    zeroD Try.prog 85 = some .nilf ∧
    zOk Try.prog 85 = true := by
  refine ⟨?_, ?_, ?_, ?_, ?_, ?_, ?_, ?_, ?_, ?_, ?_, ?_, ?_, ?_, ?_, ?_, ?_, ?_, ?_, ?_, ?_, ?_, ?_, ?_, ?_, ?_, ?_, ?_, ?_, ?_, ?_, ?_, ?_, ?_, ?_, ?_, ?_, ?_, ?_, ?_⟩ <;> kernel_rfl
theorem ty11 :
    aggT Try.prog 86 = some false ∧
    szT Try.prog 86 = some 1 ∧
    elT Try.prog 86 = none ∧
    zeroD Try.prog 86 = some .nilf ∧
    zOk Try.prog 86 = true ∧
    aggT Try.prog 88 = some false ∧
    szT Try.prog 88 = some 1 ∧
    elT Try.prog 88 = none ∧
    zeroD Try.prog 88 = some .nilf ∧
    zOk Try.prog 88 = true ∧
    aggT Try.prog 89 = some false ∧
    szT Try.prog 89 = some 1 ∧
    elT Try.prog 89 = none ∧
    zeroD Try.prog 89 = some .nilf ∧
    zOk Try.prog 89 = true ∧
    aggT Try.prog 90 = some false ∧
    szT Try.prog 90 = some 1 ∧
    elT Try.prog 90 = none ∧
    zeroD Try.prog 90 = some .nilf ∧
    zOk Try.prog 90 = true ∧
    aggT Try.prog 91 = some false ∧
    szT Try.prog 91 = some 1 ∧
    elT Try.prog 91 = none ∧
    zeroD Try.prog 91 = some .nilf ∧
    zOk Try.prog 91 = true ∧
    aggT Try.prog 92 = some false ∧
    szT Try.prog 92 = some 1 ∧
    elT Try.prog 92 = none ∧
    zeroD Try.prog 92 = some .nilf ∧
    zOk Try.prog 92 = true ∧
    aggT Try.prog 93 = some false ∧
    szT Try.prog 93 = some 1 ∧
    byT Try.prog 93 = some 8 ∧
    elT Try.prog 93 = none ∧
    intT Try.prog 93 = some .u64 ∧
    zeroD Try.prog 93 = some (.int .u64 0) ∧
    zOk Try.prog 93 = true ∧
    aggT Try.prog 94 = some false ∧
    szT Try.prog 94 = some 1 ∧
    elT Try.prog 94 = none := by
  refine ⟨?_, ?_, ?_, ?_, ?_, ?_, ?_, ?_, ?_, ?_, ?_, ?_, ?_, ?_, ?_, ?_, ?_, ?_, ?_, ?_, ?_, ?_, ?_, ?_, ?_, ?_, ?_, ?_, ?_, ?_, ?_, ?_, ?_, ?_, ?_, ?_, ?_, ?_, ?_, ?_⟩ <;> kernel_rfl
theorem ty12 :
    zeroD Try.prog 94 = some .nilf ∧
    zOk Try.prog 94 = true ∧
    aggT Try.prog 95 = some false ∧
    szT Try.prog 95 = some 1 ∧
    elT Try.prog 95 = none ∧
    zeroD Try.prog 95 = some .nilf ∧
    zOk Try.prog 95 = true ∧
    aggT Try.prog 96 = some false ∧
    szT Try.prog 96 = some 1 ∧
    elT Try.prog 96 = none ∧
    zeroD Try.prog 96 = some .nilf ∧
    zOk Try.prog 96 = true ∧
    aggT Try.prog 97 = some false ∧
    szT Try.prog 97 = some 1 ∧
    elT Try.prog 97 = none ∧
    zeroD Try.prog 97 = some .nilf ∧
    zOk Try.prog 97 = true ∧
    aggT Try.prog 98 = some false ∧
    szT Try.prog 98 = some 1 ∧
    elT Try.prog 98 = none ∧
    zeroD Try.prog 98 = some .nilf ∧
    zOk Try.prog 98 = true ∧
    aggT Try.prog 99 = some false ∧
    szT Try.prog 99 = some 1 ∧
    elT Try.prog 99 = none ∧
    zeroD Try.prog 99 = some .nilf ∧
    zOk Try.prog 99 = true ∧
    aggT Try.prog 100 = some false ∧
    szT Try.prog 100 = some 1 ∧
    elT Try.prog 100 = none ∧
    zeroD Try.prog 100 = some .nilf ∧
    zOk Try.prog 100 = true ∧
    aggT Try.prog 101 = some false ∧
    szT Try.prog 101 = some 1 ∧
    elT Try.prog 101 = none ∧
    zeroD Try.prog 101 = some .nilf ∧
    zOk Try.prog 101 = true ∧
    aggT Try.prog 102 = some false ∧
    szT Try.prog 102 = some 1 ∧
    byT Try.prog 102 = some 8 := by
  refine ⟨?_, ?_, ?_, ?_, ?_, ?_, ?_, ?_, ?_, ?_, ?_, ?_, ?_, ?_, ?_, ?_, ?_, ?_, ?_, ?_, ?_, ?_, ?_, ?_, ?_, ?_, ?_, ?_, ?_, ?_, ?_, ?_, ?_, ?_, ?_, ?_, ?_, ?_, ?_, ?_⟩ <;> kernel_rfl
theorem ty13 :
    elT Try.prog 102 = none ∧
    intT Try.prog 102 = some .i64 ∧
    zeroD Try.prog 102 = some (.int .i64 0) ∧
    zOk Try.prog 102 = true ∧
    aggT Try.prog 104 = some false ∧
    szT Try.prog 104 = some 1 ∧
    elT Try.prog 104 = none ∧
    zeroD Try.prog 104 = some .nilf ∧
    zOk Try.prog 104 = true ∧
    aggT Try.prog 105 = some false ∧
    szT Try.prog 105 = some 1 ∧
    elT Try.prog 105 = none ∧
    zeroD Try.prog 105 = some .nilf ∧
    zOk Try.prog 105 = true ∧
    aggT Try.prog 106 = some false ∧
    szT Try.prog 106 = some 1 ∧
    elT Try.prog 106 = none ∧
    zeroD Try.prog 106 = some .nilf ∧
    zOk Try.prog 106 = true ∧
    aggT Try.prog 108 = some false ∧
    szT Try.prog 108 = some 1 ∧
    elT Try.prog 108 = none ∧
    zeroD Try.prog 108 = some .nilf ∧
    zOk Try.prog 108 = true ∧
    aggT Try.prog 109 = some false ∧
    szT Try.prog 109 = some 1 ∧
    elT Try.prog 109 = none ∧
    zeroD Try.prog 109 = some .nilf ∧
    zOk Try.prog 109 = true ∧
    aggT Try.prog 110 = some false ∧
    szT Try.prog 110 = some 1 ∧
    byT Try.prog 110 = some 4 ∧
    elT Try.prog 110 = none ∧
    intT Try.prog 110 = some .u32 ∧
    zeroD Try.prog 110 = some (.int .u32 0) ∧
    zOk Try.prog 110 = true ∧
    aggT Try.prog 111 = some false ∧
    szT Try.prog 111 = some 1 ∧
    elT Try.prog 111 = none ∧
    zeroD Try.prog 111 = some .nilf := by
  refine ⟨?_, ?_, ?_, ?_, ?_, ?_, ?_, ?_, ?_, ?_, ?_, ?_, ?_, ?_, ?_, ?_, ?_, ?_, ?_, ?_, ?_, ?_, ?_, ?_, ?_, ?_, ?_, ?_, ?_, ?_, ?_, ?_, ?_, ?_, ?_, ?_, ?_, ?_, ?_, ?_⟩ <;> kernel_rfl
theorem ty14 :
    zOk Try.prog 111 = true ∧
    aggT Try.prog 112 = some false ∧
    szT Try.prog 112 = some 1 ∧
    elT Try.prog 112 = none ∧
    zeroD Try.prog 112 = some .nilf ∧
    zOk Try.prog 112 = true ∧
    aggT Try.prog 113 = some false ∧
    szT Try.prog 113 = some 1 ∧
    elT Try.prog 113 = none ∧
    zeroD Try.prog 113 = some .nilf ∧
    zOk Try.prog 113 = true ∧
    aggT Try.prog 114 = some false ∧
    szT Try.prog 114 = some 1 ∧
    elT Try.prog 114 = none ∧
    zeroD Try.prog 114 = some .nilf ∧
    zOk Try.prog 114 = true ∧
    aggT Try.prog 115 = some false ∧
    szT Try.prog 115 = some 1 ∧
    byT Try.prog 115 = some 8 ∧
    elT Try.prog 115 = none ∧
    intT Try.prog 115 = some .u64 ∧
    zeroD Try.prog 115 = some (.int .u64 0) ∧
    zOk Try.prog 115 = true ∧
    aggT Try.prog 116 = some false ∧
    szT Try.prog 116 = some 1 ∧
    elT Try.prog 116 = none ∧
    zeroD Try.prog 116 = some .nilf ∧
    zOk Try.prog 116 = true ∧
    aggT Try.prog 117 = some false ∧
    szT Try.prog 117 = some 1 ∧
    elT Try.prog 117 = none ∧
    zeroD Try.prog 117 = some .nilf ∧
    zOk Try.prog 117 = true ∧
    aggT Try.prog 118 = some false ∧
    szT Try.prog 118 = some 1 ∧
    elT Try.prog 118 = none ∧
    zeroD Try.prog 118 = some .nilf ∧
    zOk Try.prog 118 = true ∧
    aggT Try.prog 119 = some false ∧
    szT Try.prog 119 = some 1 := by
  refine ⟨?_, ?_, ?_, ?_, ?_, ?_, ?_, ?_, ?_, ?_, ?_, ?_, ?_, ?_, ?_, ?_, ?_, ?_, ?_, ?_, ?_, ?_, ?_, ?_, ?_, ?_, ?_, ?_, ?_, ?_, ?_, ?_, ?_, ?_, ?_, ?_, ?_, ?_, ?_, ?_⟩ <;> kernel_rfl
theorem ty15 :
    elT Try.prog 119 = none ∧
    aggT Try.prog 120 = some false ∧
    szT Try.prog 120 = some 1 ∧
    elT Try.prog 120 = none ∧
    zeroD Try.prog 120 = some .nilf ∧
    zOk Try.prog 120 = true ∧
    aggT Try.prog 121 = some false ∧
    szT Try.prog 121 = some 1 ∧
    elT Try.prog 121 = none ∧
    aggT Try.prog 123 = some false ∧
    szT Try.prog 123 = some 1 ∧
    elT Try.prog 123 = none ∧
    zeroD Try.prog 123 = some .nilf ∧
    zOk Try.prog 123 = true ∧
    aggT Try.prog 124 = some false ∧
    szT Try.prog 124 = some 1 ∧
    elT Try.prog 124 = none ∧
    zeroD Try.prog 124 = some .nilf ∧
    zOk Try.prog 124 = true ∧
    aggT Try.prog 130 = some false ∧
    szT Try.prog 130 = some 1 ∧
    elT Try.prog 130 = none ∧
    zeroD Try.prog 130 = some .nilf ∧
    zOk Try.prog 130 = true ∧
    aggT Try.prog 133 = some false ∧
    szT Try.prog 133 = some 1 ∧
    elT Try.prog 133 = none ∧
    zeroD Try.prog 133 = some .nilf ∧
    zOk Try.prog 133 = true ∧
    aggT Try.prog 134 = some false ∧
    szT Try.prog 134 = some 1 ∧
    elT Try.prog 134 = none := by
  refine ⟨?_, ?_, ?_, ?_, ?_, ?_, ?_, ?_, ?_, ?_, ?_, ?_, ?_, ?_, ?_, ?_, ?_, ?_, ?_, ?_, ?_, ?_, ?_, ?_, ?_, ?_, ?_, ?_, ?_, ?_, ?_, ?_⟩ <;> kernel_rfl
theorem mixed : Try.prog.follows .mixedOrders = true := by kernel_rfl
theorem tys :
    (aggT Try.prog 1 = some false ∧ szT Try.prog 1 = some 1 ∧ elT Try.prog 1 = none ∧ zeroD Try.prog 1 = some .nilf ∧ zOk Try.prog 1 = true ∧ aggT Try.prog 2 = some false ∧ szT Try.prog 2 = some 1 ∧ byT Try.prog 2 = some 8 ∧ elT Try.prog 2 = none ∧ intT Try.prog 2 = some .i64 ∧ zeroD Try.prog 2 = some (.int .i64 0) ∧ zOk Try.prog 2 = true ∧ aggT Try.prog 3 = some false ∧ szT Try.prog 3 = some 1 ∧ byT Try.prog 3 = some 8 ∧ elT Try.prog 3 = none ∧ intT Try.prog 3 = some .i64 ∧ zeroD Try.prog 3 = some (.int .i64 0) ∧ zOk Try.prog 3 = true ∧ aggT Try.prog 4 = some false ∧ szT Try.prog 4 = some 1 ∧ byT Try.prog 4 = some 1 ∧ elT Try.prog 4 = none ∧ isBoolT Try.prog 4 = true ∧ zeroD Try.prog 4 = some (.bool false) ∧ zOk Try.prog 4 = true ∧ aggT Try.prog 5 = some false ∧ szT Try.prog 5 = some 1 ∧ byT Try.prog 5 = some 1 ∧ elT Try.prog 5 = none ∧ intT Try.prog 5 = some .u8 ∧ zeroD Try.prog 5 = some (.int .u8 0) ∧ zOk Try.prog 5 = true ∧ aggT Try.prog 9 = some false ∧ szT Try.prog 9 = some 1 ∧ byT Try.prog 9 = some 16 ∧ elT Try.prog 9 = none ∧ isStrT Try.prog 9 = true ∧ zeroD Try.prog 9 = some (.str ⟨#[]⟩) ∧ zOk Try.prog 9 = true) ∧
    (aggT Try.prog 12 = some false ∧ szT Try.prog 12 = some 1 ∧ byT Try.prog 12 = some 8 ∧ elT Try.prog 12 = none ∧ intT Try.prog 12 = some .u64 ∧ zeroD Try.prog 12 = some (.int .u64 0) ∧ zOk Try.prog 12 = true ∧ aggT Try.prog 21 = some false ∧ szT Try.prog 21 = some 1 ∧ byT Try.prog 21 = some 4 ∧ elT Try.prog 21 = none ∧ intT Try.prog 21 = some .i32 ∧ zeroD Try.prog 21 = some (.int .i32 0) ∧ zOk Try.prog 21 = true ∧ aggT Try.prog 22 = some false ∧ szT Try.prog 22 = some 1 ∧ byT Try.prog 22 = some 24 ∧ elT Try.prog 22 = some 26 ∧ zeroD Try.prog 22 = some .nils ∧ zOk Try.prog 22 = true ∧ aggT Try.prog 23 = some false ∧ szT Try.prog 23 = some 1 ∧ byT Try.prog 23 = some 8 ∧ elT Try.prog 23 = none ∧ intT Try.prog 23 = some .u64 ∧ zeroD Try.prog 23 = some (.int .u64 0) ∧ zOk Try.prog 23 = true ∧ aggT Try.prog 24 = some false ∧ szT Try.prog 24 = some 1 ∧ byT Try.prog 24 = some 24 ∧ elT Try.prog 24 = some 3 ∧ zeroD Try.prog 24 = some .nils ∧ zOk Try.prog 24 = true ∧ aggT Try.prog 25 = some true ∧ szT Try.prog 25 = some 4 ∧ byT Try.prog 25 = some 48 ∧ elT Try.prog 25 = none ∧ zeroD Try.prog 25 = some (.agg [(.int .u64 0), .nils, (.bool false), (.int .i64 0)]) ∧ zOk Try.prog 25 = true ∧ allSz Try.prog 25 = true) ∧
    (fldT Try.prog 25 0 = some (0, 1) ∧ fldT Try.prog 25 1 = some (1, 1) ∧ fldT Try.prog 25 2 = some (2, 1) ∧ fldT Try.prog 25 3 = some (3, 1) ∧ aggT Try.prog 26 = some true ∧ szT Try.prog 26 = some 4 ∧ byT Try.prog 26 = some 48 ∧ elT Try.prog 26 = none ∧ zeroD Try.prog 26 = some (.agg [(.int .u64 0), .nils, (.bool false), (.int .i64 0)]) ∧ zOk Try.prog 26 = true ∧ allSz Try.prog 26 = true ∧ fldT Try.prog 26 0 = some (0, 1) ∧ fldT Try.prog 26 1 = some (1, 1) ∧ fldT Try.prog 26 2 = some (2, 1) ∧ fldT Try.prog 26 3 = some (3, 1) ∧ aggT Try.prog 27 = some false ∧ szT Try.prog 27 = some 1 ∧ elT Try.prog 27 = none ∧ zeroD Try.prog 27 = some .nilf ∧ zOk Try.prog 27 = true ∧ aggT Try.prog 28 = some false ∧ szT Try.prog 28 = some 1 ∧ elT Try.prog 28 = none ∧ zeroD Try.prog 28 = some .nilf ∧ zOk Try.prog 28 = true ∧ aggT Try.prog 29 = some false ∧ szT Try.prog 29 = some 1 ∧ elT Try.prog 29 = none ∧ zeroD Try.prog 29 = some .nilf ∧ zOk Try.prog 29 = true ∧ aggT Try.prog 31 = some false ∧ szT Try.prog 31 = some 1 ∧ elT Try.prog 31 = none ∧ zeroD Try.prog 31 = some .nilf ∧ zOk Try.prog 31 = true ∧ aggT Try.prog 32 = some false ∧ szT Try.prog 32 = some 1 ∧ elT Try.prog 32 = none ∧ zeroD Try.prog 32 = some .nilf ∧ zOk Try.prog 32 = true) ∧
    (aggT Try.prog 33 = some false ∧ szT Try.prog 33 = some 1 ∧ elT Try.prog 33 = none ∧ zeroD Try.prog 33 = some .nilf ∧ zOk Try.prog 33 = true ∧ aggT Try.prog 34 = some false ∧ szT Try.prog 34 = some 1 ∧ byT Try.prog 34 = some 24 ∧ elT Try.prog 34 = some 36 ∧ zeroD Try.prog 34 = some .nils ∧ zOk Try.prog 34 = true ∧ aggT Try.prog 35 = some true ∧ szT Try.prog 35 = some 3 ∧ byT Try.prog 35 = some 56 ∧ elT Try.prog 35 = none ∧ zeroD Try.prog 35 = some (.agg [.nils, .nils, (.int .u64 0)]) ∧ zOk Try.prog 35 = true ∧ allSz Try.prog 35 = true ∧ fldT Try.prog 35 0 = some (0, 1) ∧ fldT Try.prog 35 1 = some (1, 1) ∧ fldT Try.prog 35 2 = some (2, 1) ∧ aggT Try.prog 36 = some true ∧ szT Try.prog 36 = some 3 ∧ byT Try.prog 36 = some 56 ∧ elT Try.prog 36 = none ∧ zeroD Try.prog 36 = some (.agg [.nils, .nils, (.int .u64 0)]) ∧ zOk Try.prog 36 = true ∧ allSz Try.prog 36 = true ∧ fldT Try.prog 36 0 = some (0, 1) ∧ fldT Try.prog 36 1 = some (1, 1) ∧ fldT Try.prog 36 2 = some (2, 1) ∧ aggT Try.prog 37 = some false ∧ szT Try.prog 37 = some 1 ∧ elT Try.prog 37 = none ∧ zeroD Try.prog 37 = some .nilf ∧ zOk Try.prog 37 = true ∧ aggT Try.prog 38 = some false ∧ szT Try.prog 38 = some 1 ∧ elT Try.prog 38 = none ∧ zeroD Try.prog 38 = some .nilf) ∧
    (zOk Try.prog 38 = true ∧ aggT Try.prog 39 = some false ∧ szT Try.prog 39 = some 1 ∧ elT Try.prog 39 = none ∧ zeroD Try.prog 39 = some .nilf ∧ zOk Try.prog 39 = true ∧ aggT Try.prog 40 = some false ∧ szT Try.prog 40 = some 1 ∧ elT Try.prog 40 = none ∧ zeroD Try.prog 40 = some .nilf ∧ zOk Try.prog 40 = true ∧ aggT Try.prog 41 = some false ∧ szT Try.prog 41 = some 1 ∧ elT Try.prog 41 = none ∧ zeroD Try.prog 41 = some .nilf ∧ zOk Try.prog 41 = true ∧ aggT Try.prog 42 = some false ∧ szT Try.prog 42 = some 1 ∧ elT Try.prog 42 = none ∧ zeroD Try.prog 42 = some .nilf ∧ zOk Try.prog 42 = true ∧ aggT Try.prog 43 = some false ∧ szT Try.prog 43 = some 1 ∧ elT Try.prog 43 = none ∧ zeroD Try.prog 43 = some .nilf ∧ zOk Try.prog 43 = true ∧ aggT Try.prog 44 = some false ∧ szT Try.prog 44 = some 1 ∧ elT Try.prog 44 = none ∧ zeroD Try.prog 44 = some .nilf ∧ zOk Try.prog 44 = true ∧ aggT Try.prog 45 = some true ∧ szT Try.prog 45 = some 5 ∧ byT Try.prog 45 = some 56 ∧ elT Try.prog 45 = none ∧ zeroD Try.prog 45 = some (.agg [(.int .u64 0), (.int .u64 0), (.int .u64 0), (.int .u64 0), .nils]) ∧ zOk Try.prog 45 = true ∧ allSz Try.prog 45 = true ∧ fldT Try.prog 45 0 = some (0, 1) ∧ fldT Try.prog 45 1 = some (1, 1)) ∧
    (fldT Try.prog 45 2 = some (2, 1) ∧ fldT Try.prog 45 3 = some (3, 1) ∧ fldT Try.prog 45 4 = some (4, 1) ∧ aggT Try.prog 46 = some true ∧ szT Try.prog 46 = some 5 ∧ byT Try.prog 46 = some 56 ∧ elT Try.prog 46 = none ∧ zeroD Try.prog 46 = some (.agg [(.int .u64 0), (.int .u64 0), (.int .u64 0), (.int .u64 0), .nils]) ∧ zOk Try.prog 46 = true ∧ allSz Try.prog 46 = true ∧ fldT Try.prog 46 0 = some (0, 1) ∧ fldT Try.prog 46 1 = some (1, 1) ∧ fldT Try.prog 46 2 = some (2, 1) ∧ fldT Try.prog 46 3 = some (3, 1) ∧ fldT Try.prog 46 4 = some (4, 1) ∧ aggT Try.prog 47 = some false ∧ szT Try.prog 47 = some 1 ∧ elT Try.prog 47 = none ∧ zeroD Try.prog 47 = some .nilf ∧ zOk Try.prog 47 = true ∧ aggT Try.prog 48 = some false ∧ szT Try.prog 48 = some 1 ∧ byT Try.prog 48 = some 24 ∧ elT Try.prog 48 = some 51 ∧ zeroD Try.prog 48 = some .nils ∧ zOk Try.prog 48 = true ∧ aggT Try.prog 49 = some false ∧ szT Try.prog 49 = some 1 ∧ elT Try.prog 49 = none ∧ zeroD Try.prog 49 = some .nilf ∧ zOk Try.prog 49 = true ∧ aggT Try.prog 50 = some false ∧ szT Try.prog 50 = some 1 ∧ elT Try.prog 50 = none ∧ zeroD Try.prog 50 = some .nilf ∧ zOk Try.prog 50 = true ∧ aggT Try.prog 51 = some false ∧ szT Try.prog 51 = some 1 ∧ byT Try.prog 51 = some 24 ∧ elT Try.prog 51 = some 56) ∧
    (zeroD Try.prog 51 = some .nils ∧ zOk Try.prog 51 = true ∧ aggT Try.prog 52 = some false ∧ szT Try.prog 52 = some 1 ∧ elT Try.prog 52 = none ∧ zeroD Try.prog 52 = some .nilf ∧ zOk Try.prog 52 = true ∧ aggT Try.prog 53 = some false ∧ szT Try.prog 53 = some 1 ∧ elT Try.prog 53 = none ∧ zeroD Try.prog 53 = some .nilf ∧ zOk Try.prog 53 = true ∧ aggT Try.prog 54 = some false ∧ szT Try.prog 54 = some 1 ∧ elT Try.prog 54 = none ∧ zeroD Try.prog 54 = some .nilf ∧ zOk Try.prog 54 = true ∧ aggT Try.prog 55 = some true ∧ szT Try.prog 55 = some 4 ∧ byT Try.prog 55 = some 48 ∧ elT Try.prog 55 = none ∧ zeroD Try.prog 55 = some (.agg [(.int .i64 0), .nils, (.bool false), (.int .u64 0)]) ∧ zOk Try.prog 55 = true ∧ allSz Try.prog 55 = true ∧ fldT Try.prog 55 0 = some (0, 1) ∧ fldT Try.prog 55 1 = some (1, 1) ∧ fldT Try.prog 55 2 = some (2, 1) ∧ fldT Try.prog 55 3 = some (3, 1) ∧ aggT Try.prog 56 = some true ∧ szT Try.prog 56 = some 4 ∧ byT Try.prog 56 = some 48 ∧ elT Try.prog 56 = none ∧ zeroD Try.prog 56 = some (.agg [(.int .i64 0), .nils, (.bool false), (.int .u64 0)]) ∧ zOk Try.prog 56 = true ∧ allSz Try.prog 56 = true ∧ fldT Try.prog 56 0 = some (0, 1) ∧ fldT Try.prog 56 1 = some (1, 1) ∧ fldT Try.prog 56 2 = some (2, 1) ∧ fldT Try.prog 56 3 = some (3, 1) ∧ aggT Try.prog 57 = some false) ∧
    (szT Try.prog 57 = some 1 ∧ elT Try.prog 57 = none ∧ zeroD Try.prog 57 = some .nilf ∧ zOk Try.prog 57 = true ∧ aggT Try.prog 58 = some false ∧ szT Try.prog 58 = some 1 ∧ elT Try.prog 58 = none ∧ zeroD Try.prog 58 = some .nilf ∧ zOk Try.prog 58 = true ∧ aggT Try.prog 59 = some false ∧ szT Try.prog 59 = some 1 ∧ elT Try.prog 59 = none ∧ zeroD Try.prog 59 = some .nilf ∧ zOk Try.prog 59 = true ∧ aggT Try.prog 60 = some false ∧ szT Try.prog 60 = some 1 ∧ elT Try.prog 60 = none ∧ zeroD Try.prog 60 = some .nilf ∧ zOk Try.prog 60 = true ∧ aggT Try.prog 61 = some false ∧ szT Try.prog 61 = some 1 ∧ elT Try.prog 61 = none ∧ zeroD Try.prog 61 = some .nilf ∧ zOk Try.prog 61 = true ∧ aggT Try.prog 62 = some true ∧ szT Try.prog 62 = some 2 ∧ byT Try.prog 62 = some 32 ∧ elT Try.prog 62 = none ∧ zeroD Try.prog 62 = some (.agg [.nils, .nilf]) ∧ zOk Try.prog 62 = true ∧ allSz Try.prog 62 = true ∧ fldT Try.prog 62 0 = some (0, 1) ∧ fldT Try.prog 62 1 = some (1, 1) ∧ aggT Try.prog 63 = some true ∧ szT Try.prog 63 = some 2 ∧ byT Try.prog 63 = some 32 ∧ elT Try.prog 63 = none ∧ zeroD Try.prog 63 = some (.agg [.nils, .nilf]) ∧ zOk Try.prog 63 = true ∧ allSz Try.prog 63 = true) ∧
    (fldT Try.prog 63 0 = some (0, 1) ∧ fldT Try.prog 63 1 = some (1, 1) ∧ aggT Try.prog 64 = some false ∧ szT Try.prog 64 = some 1 ∧ elT Try.prog 64 = none ∧ zeroD Try.prog 64 = some .nilf ∧ zOk Try.prog 64 = true ∧ aggT Try.prog 65 = some false ∧ szT Try.prog 65 = some 1 ∧ elT Try.prog 65 = none ∧ zeroD Try.prog 65 = some .nilf ∧ zOk Try.prog 65 = true ∧ aggT Try.prog 66 = some false ∧ szT Try.prog 66 = some 1 ∧ elT Try.prog 66 = none ∧ zeroD Try.prog 66 = some .nilf ∧ zOk Try.prog 66 = true ∧ aggT Try.prog 67 = some true ∧ szT Try.prog 67 = some 8 ∧ byT Try.prog 67 = some 64 ∧ elT Try.prog 67 = none ∧ arrT Try.prog 67 = some (8, 3) ∧ zeroD Try.prog 67 = some (.agg [(.int .i64 0), (.int .i64 0), (.int .i64 0), (.int .i64 0), (.int .i64 0), (.int .i64 0), (.int .i64 0), (.int .i64 0)]) ∧ zOk Try.prog 67 = true ∧ aggT Try.prog 68 = some true ∧ szT Try.prog 68 = some 9 ∧ byT Try.prog 68 = some 72 ∧ elT Try.prog 68 = none ∧ zeroD Try.prog 68 = some (.agg [(.int .i64 0), (.int .i64 0), (.int .i64 0), (.int .i64 0), (.int .i64 0), (.int .i64 0), (.int .i64 0), (.int .i64 0), (.int .i64 0)]) ∧ zOk Try.prog 68 = true ∧ allSz Try.prog 68 = true ∧ fldT Try.prog 68 0 = some (0, 1) ∧ fldT Try.prog 68 1 = some (1, 8) ∧ aggT Try.prog 69 = some true ∧ szT Try.prog 69 = some 9 ∧ byT Try.prog 69 = some 72 ∧ elT Try.prog 69 = none ∧ zeroD Try.prog 69 = some (.agg [(.int .i64 0), (.int .i64 0), (.int .i64 0), (.int .i64 0), (.int .i64 0), (.int .i64 0), (.int .i64 0), (.int .i64 0), (.int .i64 0)]) ∧ zOk Try.prog 69 = true ∧ allSz Try.prog 69 = true) ∧
    (fldT Try.prog 69 0 = some (0, 1) ∧ fldT Try.prog 69 1 = some (1, 8) ∧ aggT Try.prog 70 = some true ∧ szT Try.prog 70 = some 18 ∧ byT Try.prog 70 = some 144 ∧ elT Try.prog 70 = none ∧ zeroD Try.prog 70 = some (.agg [(.int .i64 0), (.int .i64 0), (.int .i64 0), (.int .i64 0), (.int .i64 0), (.int .i64 0), (.int .i64 0), (.int .i64 0), (.int .i64 0), (.int .i64 0), (.int .i64 0), (.int .i64 0), (.int .i64 0), (.int .i64 0), (.int .i64 0), (.int .i64 0), (.int .i64 0), (.int .i64 0)]) ∧ zOk Try.prog 70 = true ∧ allSz Try.prog 70 = true ∧ fldT Try.prog 70 0 = some (0, 9) ∧ fldT Try.prog 70 1 = some (9, 9) ∧ aggT Try.prog 71 = some true ∧ szT Try.prog 71 = some 18 ∧ byT Try.prog 71 = some 144 ∧ elT Try.prog 71 = none ∧ zeroD Try.prog 71 = some (.agg [(.int .i64 0), (.int .i64 0), (.int .i64 0), (.int .i64 0), (.int .i64 0), (.int .i64 0), (.int .i64 0), (.int .i64 0), (.int .i64 0), (.int .i64 0), (.int .i64 0), (.int .i64 0), (.int .i64 0), (.int .i64 0), (.int .i64 0), (.int .i64 0), (.int .i64 0), (.int .i64 0)]) ∧ zOk Try.prog 71 = true ∧ allSz Try.prog 71 = true ∧ fldT Try.prog 71 0 = some (0, 9) ∧ fldT Try.prog 71 1 = some (9, 9) ∧ aggT Try.prog 73 = some false ∧ szT Try.prog 73 = some 1 ∧ elT Try.prog 73 = none ∧ zeroD Try.prog 73 = some .nilf ∧ zOk Try.prog 73 = true ∧ aggT Try.prog 74 = some false ∧ szT Try.prog 74 = some 1 ∧ elT Try.prog 74 = none ∧ zeroD Try.prog 74 = some .nilf ∧ zOk Try.prog 74 = true ∧ aggT Try.prog 75 = some false ∧ szT Try.prog 75 = some 1 ∧ elT Try.prog 75 = none ∧ zeroD Try.prog 75 = some .nilf ∧ zOk Try.prog 75 = true ∧ aggT Try.prog 76 = some false ∧ szT Try.prog 76 = some 1 ∧ elT Try.prog 76 = none ∧ mapT Try.prog 76 = some (71, 23) ∧ aggT Try.prog 78 = some false) ∧
    (szT Try.prog 78 = some 1 ∧ elT Try.prog 78 = none ∧ zeroD Try.prog 78 = some .nilf ∧ zOk Try.prog 78 = true ∧ aggT Try.prog 79 = some false ∧ szT Try.prog 79 = some 1 ∧ elT Try.prog 79 = none ∧ zeroD Try.prog 79 = some .nilf ∧ zOk Try.prog 79 = true ∧ aggT Try.prog 80 = some false ∧ szT Try.prog 80 = some 1 ∧ elT Try.prog 80 = none ∧ zeroD Try.prog 80 = some .nilf ∧ zOk Try.prog 80 = true ∧ aggT Try.prog 81 = some false ∧ szT Try.prog 81 = some 1 ∧ byT Try.prog 81 = some 24 ∧ elT Try.prog 81 = some 23 ∧ zeroD Try.prog 81 = some .nils ∧ zOk Try.prog 81 = true ∧ aggT Try.prog 82 = some false ∧ szT Try.prog 82 = some 1 ∧ elT Try.prog 82 = none ∧ zeroD Try.prog 82 = some .nilf ∧ zOk Try.prog 82 = true ∧ aggT Try.prog 83 = some false ∧ szT Try.prog 83 = some 1 ∧ elT Try.prog 83 = none ∧ zeroD Try.prog 83 = some .nilf ∧ zOk Try.prog 83 = true ∧ aggT Try.prog 84 = some false ∧ szT Try.prog 84 = some 1 ∧ elT Try.prog 84 = none ∧ zeroD Try.prog 84 = some .nilf ∧ zOk Try.prog 84 = true ∧ aggT Try.prog 85 = some false ∧ szT Try.prog 85 = some 1 ∧ elT Try.prog 85 = none ∧ zeroD Try.prog 85 = some .nilf ∧ zOk Try.prog 85 = true) ∧
    (aggT Try.prog 86 = some false ∧ szT Try.prog 86 = some 1 ∧ elT Try.prog 86 = none ∧ zeroD Try.prog 86 = some .nilf ∧ zOk Try.prog 86 = true ∧ aggT Try.prog 88 = some false ∧ szT Try.prog 88 = some 1 ∧ elT Try.prog 88 = none ∧ zeroD Try.prog 88 = some .nilf ∧ zOk Try.prog 88 = true ∧ aggT Try.prog 89 = some false ∧ szT Try.prog 89 = some 1 ∧ elT Try.prog 89 = none ∧ zeroD Try.prog 89 = some .nilf ∧ zOk Try.prog 89 = true ∧ aggT Try.prog 90 = some false ∧ szT Try.prog 90 = some 1 ∧ elT Try.prog 90 = none ∧ zeroD Try.prog 90 = some .nilf ∧ zOk Try.prog 90 = true ∧ aggT Try.prog 91 = some false ∧ szT Try.prog 91 = some 1 ∧ elT Try.prog 91 = none ∧ zeroD Try.prog 91 = some .nilf ∧ zOk Try.prog 91 = true ∧ aggT Try.prog 92 = some false ∧ szT Try.prog 92 = some 1 ∧ elT Try.prog 92 = none ∧ zeroD Try.prog 92 = some .nilf ∧ zOk Try.prog 92 = true ∧ aggT Try.prog 93 = some false ∧ szT Try.prog 93 = some 1 ∧ byT Try.prog 93 = some 8 ∧ elT Try.prog 93 = none ∧ intT Try.prog 93 = some .u64 ∧ zeroD Try.prog 93 = some (.int .u64 0) ∧ zOk Try.prog 93 = true ∧ aggT Try.prog 94 = some false ∧ szT Try.prog 94 = some 1 ∧ elT Try.prog 94 = none) ∧
    (zeroD Try.prog 94 = some .nilf ∧ zOk Try.prog 94 = true ∧ aggT Try.prog 95 = some false ∧ szT Try.prog 95 = some 1 ∧ elT Try.prog 95 = none ∧ zeroD Try.prog 95 = some .nilf ∧ zOk Try.prog 95 = true ∧ aggT Try.prog 96 = some false ∧ szT Try.prog 96 = some 1 ∧ elT Try.prog 96 = none ∧ zeroD Try.prog 96 = some .nilf ∧ zOk Try.prog 96 = true ∧ aggT Try.prog 97 = some false ∧ szT Try.prog 97 = some 1 ∧ elT Try.prog 97 = none ∧ zeroD Try.prog 97 = some .nilf ∧ zOk Try.prog 97 = true ∧ aggT Try.prog 98 = some false ∧ szT Try.prog 98 = some 1 ∧ elT Try.prog 98 = none ∧ zeroD Try.prog 98 = some .nilf ∧ zOk Try.prog 98 = true ∧ aggT Try.prog 99 = some false ∧ szT Try.prog 99 = some 1 ∧ elT Try.prog 99 = none ∧ zeroD Try.prog 99 = some .nilf ∧ zOk Try.prog 99 = true ∧ aggT Try.prog 100 = some false ∧ szT Try.prog 100 = some 1 ∧ elT Try.prog 100 = none ∧ zeroD Try.prog 100 = some .nilf ∧ zOk Try.prog 100 = true ∧ aggT Try.prog 101 = some false ∧ szT Try.prog 101 = some 1 ∧ elT Try.prog 101 = none ∧ zeroD Try.prog 101 = some .nilf ∧ zOk Try.prog 101 = true ∧ aggT Try.prog 102 = some false ∧ szT Try.prog 102 = some 1 ∧ byT Try.prog 102 = some 8) ∧
    (elT Try.prog 102 = none ∧ intT Try.prog 102 = some .i64 ∧ zeroD Try.prog 102 = some (.int .i64 0) ∧ zOk Try.prog 102 = true ∧ aggT Try.prog 104 = some false ∧ szT Try.prog 104 = some 1 ∧ elT Try.prog 104 = none ∧ zeroD Try.prog 104 = some .nilf ∧ zOk Try.prog 104 = true ∧ aggT Try.prog 105 = some false ∧ szT Try.prog 105 = some 1 ∧ elT Try.prog 105 = none ∧ zeroD Try.prog 105 = some .nilf ∧ zOk Try.prog 105 = true ∧ aggT Try.prog 106 = some false ∧ szT Try.prog 106 = some 1 ∧ elT Try.prog 106 = none ∧ zeroD Try.prog 106 = some .nilf ∧ zOk Try.prog 106 = true ∧ aggT Try.prog 108 = some false ∧ szT Try.prog 108 = some 1 ∧ elT Try.prog 108 = none ∧ zeroD Try.prog 108 = some .nilf ∧ zOk Try.prog 108 = true ∧ aggT Try.prog 109 = some false ∧ szT Try.prog 109 = some 1 ∧ elT Try.prog 109 = none ∧ zeroD Try.prog 109 = some .nilf ∧ zOk Try.prog 109 = true ∧ aggT Try.prog 110 = some false ∧ szT Try.prog 110 = some 1 ∧ byT Try.prog 110 = some 4 ∧ elT Try.prog 110 = none ∧ intT Try.prog 110 = some .u32 ∧ zeroD Try.prog 110 = some (.int .u32 0) ∧ zOk Try.prog 110 = true ∧ aggT Try.prog 111 = some false ∧ szT Try.prog 111 = some 1 ∧ elT Try.prog 111 = none ∧ zeroD Try.prog 111 = some .nilf) ∧
    (zOk Try.prog 111 = true ∧ aggT Try.prog 112 = some false ∧ szT Try.prog 112 = some 1 ∧ elT Try.prog 112 = none ∧ zeroD Try.prog 112 = some .nilf ∧ zOk Try.prog 112 = true ∧ aggT Try.prog 113 = some false ∧ szT Try.prog 113 = some 1 ∧ elT Try.prog 113 = none ∧ zeroD Try.prog 113 = some .nilf ∧ zOk Try.prog 113 = true ∧ aggT Try.prog 114 = some false ∧ szT Try.prog 114 = some 1 ∧ elT Try.prog 114 = none ∧ zeroD Try.prog 114 = some .nilf ∧ zOk Try.prog 114 = true ∧ aggT Try.prog 115 = some false ∧ szT Try.prog 115 = some 1 ∧ byT Try.prog 115 = some 8 ∧ elT Try.prog 115 = none ∧ intT Try.prog 115 = some .u64 ∧ zeroD Try.prog 115 = some (.int .u64 0) ∧ zOk Try.prog 115 = true ∧ aggT Try.prog 116 = some false ∧ szT Try.prog 116 = some 1 ∧ elT Try.prog 116 = none ∧ zeroD Try.prog 116 = some .nilf ∧ zOk Try.prog 116 = true ∧ aggT Try.prog 117 = some false ∧ szT Try.prog 117 = some 1 ∧ elT Try.prog 117 = none ∧ zeroD Try.prog 117 = some .nilf ∧ zOk Try.prog 117 = true ∧ aggT Try.prog 118 = some false ∧ szT Try.prog 118 = some 1 ∧ elT Try.prog 118 = none ∧ zeroD Try.prog 118 = some .nilf ∧ zOk Try.prog 118 = true ∧ aggT Try.prog 119 = some false ∧ szT Try.prog 119 = some 1) ∧
    (elT Try.prog 119 = none ∧ aggT Try.prog 120 = some false ∧ szT Try.prog 120 = some 1 ∧ elT Try.prog 120 = none ∧ zeroD Try.prog 120 = some .nilf ∧ zOk Try.prog 120 = true ∧ aggT Try.prog 121 = some false ∧ szT Try.prog 121 = some 1 ∧ elT Try.prog 121 = none ∧ aggT Try.prog 123 = some false ∧ szT Try.prog 123 = some 1 ∧ elT Try.prog 123 = none ∧ zeroD Try.prog 123 = some .nilf ∧ zOk Try.prog 123 = true ∧ aggT Try.prog 124 = some false ∧ szT Try.prog 124 = some 1 ∧ elT Try.prog 124 = none ∧ zeroD Try.prog 124 = some .nilf ∧ zOk Try.prog 124 = true ∧ aggT Try.prog 130 = some false ∧ szT Try.prog 130 = some 1 ∧ elT Try.prog 130 = none ∧ zeroD Try.prog 130 = some .nilf ∧ zOk Try.prog 130 = true ∧ aggT Try.prog 133 = some false ∧ szT Try.prog 133 = some 1 ∧ elT Try.prog 133 = none ∧ zeroD Try.prog 133 = some .nilf ∧ zOk Try.prog 133 = true ∧ aggT Try.prog 134 = some false ∧ szT Try.prog 134 = some 1 ∧ elT Try.prog 134 = none) :=
  ⟨ty0, ty1, ty2, ty3, ty4, ty5, ty6, ty7, ty8, ty9, ty10, ty11, ty12, ty13, ty14, ty15⟩
end Go.Eng.Try

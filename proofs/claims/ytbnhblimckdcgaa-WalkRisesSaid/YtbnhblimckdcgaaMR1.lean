/- The facts on the types of this seat's program: closed equations. (and what stands behind it: texts laid together) -/
import Derived.Test.YtbnhblimckdcgaaProg
import Derived.Test.YtbnhblimckdcgaaMG3
set_option linter.unusedVariables false
namespace Go.Eng.Try
open Go Go.Eng Go.Proofs
theorem ty0 :
    aggT Try.prog 1 = some false ∧
    szT Try.prog 1 = some 1 ∧
    elT Try.prog 1 = none ∧
    zeroD Try.prog 1 = some .nilf ∧
    zOk Try.prog 1 = true ∧
    aggT Try.prog 2 = some false ∧
    szT Try.prog 2 = some 1 ∧
    byT Try.prog 2 = some 8 ∧
    elT Try.prog 2 = none ∧
    intT Try.prog 2 = some .i64 ∧
    zeroD Try.prog 2 = some (.int .i64 0) ∧
    zOk Try.prog 2 = true ∧
    aggT Try.prog 3 = some false ∧
    szT Try.prog 3 = some 1 ∧
    byT Try.prog 3 = some 8 ∧
    elT Try.prog 3 = none ∧
    intT Try.prog 3 = some .i64 ∧
    zeroD Try.prog 3 = some (.int .i64 0) ∧
    zOk Try.prog 3 = true ∧
    aggT Try.prog 4 = some false ∧
    szT Try.prog 4 = some 1 ∧
    byT Try.prog 4 = some 1 ∧
    elT Try.prog 4 = none ∧
    isBoolT Try.prog 4 = true ∧
    zeroD Try.prog 4 = some (.bool false) ∧
    zOk Try.prog 4 = true ∧
    aggT Try.prog 5 = some false ∧
    szT Try.prog 5 = some 1 ∧
    byT Try.prog 5 = some 1 ∧
    elT Try.prog 5 = none ∧
    intT Try.prog 5 = some .u8 ∧
    zeroD Try.prog 5 = some (.int .u8 0) ∧
    zOk Try.prog 5 = true ∧
    aggT Try.prog 9 = some false ∧
    szT Try.prog 9 = some 1 ∧
    byT Try.prog 9 = some 16 ∧
    elT Try.prog 9 = none ∧
    isStrT Try.prog 9 = true ∧
    zeroD Try.prog 9 = some (.str ⟨#[]⟩) ∧
    zOk Try.prog 9 = true := by
  refine ⟨?_, ?_, ?_, ?_, ?_, ?_, ?_, ?_, ?_, ?_, ?_, ?_, ?_, ?_, ?_, ?_, ?_, ?_, ?_, ?_, ?_, ?_, ?_, ?_, ?_, ?_, ?_, ?_, ?_, ?_, ?_, ?_, ?_, ?_, ?_, ?_, ?_, ?_, ?_, ?_⟩ <;> kernel_rfl
theorem ty1 :
    aggT Try.prog 12 = some false ∧
    szT Try.prog 12 = some 1 ∧
    byT Try.prog 12 = some 8 ∧
    elT Try.prog 12 = none ∧
    intT Try.prog 12 = some .u64 ∧
    zeroD Try.prog 12 = some (.int .u64 0) ∧
    zOk Try.prog 12 = true ∧
    aggT Try.prog 21 = some false ∧
    szT Try.prog 21 = some 1 ∧
    byT Try.prog 21 = some 4 ∧
    elT Try.prog 21 = none ∧
    intT Try.prog 21 = some .i32 ∧
    zeroD Try.prog 21 = some (.int .i32 0) ∧
    zOk Try.prog 21 = true ∧
    aggT Try.prog 22 = some false ∧
    szT Try.prog 22 = some 1 ∧
    byT Try.prog 22 = some 8 ∧
    elT Try.prog 22 = none ∧
    intT Try.prog 22 = some .u64 ∧
    zeroD Try.prog 22 = some (.int .u64 0) ∧
    zOk Try.prog 22 = true ∧
    aggT Try.prog 23 = some false ∧
    szT Try.prog 23 = some 1 ∧
    byT Try.prog 23 = some 24 ∧
    elT Try.prog 23 = some 34 ∧
    zeroD Try.prog 23 = some .nils ∧
    zOk Try.prog 23 = true ∧
    aggT Try.prog 24 = some true ∧
    szT Try.prog 24 = some 5 ∧
    byT Try.prog 24 = some 56 ∧
    elT Try.prog 24 = none ∧
    zeroD Try.prog 24 = some (.agg [(.int .u64 0), (.int .u64 0), (.int .u64 0), (.int .u64 0), .nils]) ∧
    zOk Try.prog 24 = true ∧
    allSz Try.prog 24 = true ∧
    fldT Try.prog 24 0 = some (0, 1) ∧
    fldT Try.prog 24 1 = some (1, 1) ∧
    fldT Try.prog 24 2 = some (2, 1) ∧
    fldT Try.prog 24 3 = some (3, 1) ∧
    fldT Try.prog 24 4 = some (4, 1) ∧
    aggT Try.prog 25 = some true := by
  refine ⟨?_, ?_, ?_, ?_, ?_, ?_, ?_, ?_, ?_, ?_, ?_, ?_, ?_, ?_, ?_, ?_, ?_, ?_, ?_, ?_, ?_, ?_, ?_, ?_, ?_, ?_, ?_, ?_, ?_, ?_, ?_, ?_, ?_, ?_, ?_, ?_, ?_, ?_, ?_, ?_⟩ <;> kernel_rfl
theorem ty2 :
    szT Try.prog 25 = some 5 ∧
    byT Try.prog 25 = some 56 ∧
    elT Try.prog 25 = none ∧
    zeroD Try.prog 25 = some (.agg [(.int .u64 0), (.int .u64 0), (.int .u64 0), (.int .u64 0), .nils]) ∧
    zOk Try.prog 25 = true ∧
    allSz Try.prog 25 = true ∧
    fldT Try.prog 25 0 = some (0, 1) ∧
    fldT Try.prog 25 1 = some (1, 1) ∧
    fldT Try.prog 25 2 = some (2, 1) ∧
    fldT Try.prog 25 3 = some (3, 1) ∧
    fldT Try.prog 25 4 = some (4, 1) ∧
    aggT Try.prog 26 = some false ∧
    szT Try.prog 26 = some 1 ∧
    byT Try.prog 26 = some 24 ∧
    elT Try.prog 26 = some 3 ∧
    zeroD Try.prog 26 = some .nils ∧
    zOk Try.prog 26 = true ∧
    aggT Try.prog 27 = some false ∧
    szT Try.prog 27 = some 1 ∧
    elT Try.prog 27 = none ∧
    zeroD Try.prog 27 = some .nilf ∧
    zOk Try.prog 27 = true ∧
    aggT Try.prog 28 = some false ∧
    szT Try.prog 28 = some 1 ∧
    elT Try.prog 28 = none ∧
    zeroD Try.prog 28 = some .nilf ∧
    zOk Try.prog 28 = true ∧
    aggT Try.prog 29 = some false ∧
    szT Try.prog 29 = some 1 ∧
    elT Try.prog 29 = none ∧
    zeroD Try.prog 29 = some .nilf ∧
    zOk Try.prog 29 = true ∧
    aggT Try.prog 30 = some false ∧
    szT Try.prog 30 = some 1 ∧
    elT Try.prog 30 = none ∧
    zeroD Try.prog 30 = some .nilf ∧
    zOk Try.prog 30 = true ∧
    aggT Try.prog 31 = some false ∧
    szT Try.prog 31 = some 1 ∧
    elT Try.prog 31 = none := by
  refine ⟨?_, ?_, ?_, ?_, ?_, ?_, ?_, ?_, ?_, ?_, ?_, ?_, ?_, ?_, ?_, ?_, ?_, ?_, ?_, ?_, ?_, ?_, ?_, ?_, ?_, ?_, ?_, ?_, ?_, ?_, ?_, ?_, ?_, ?_, ?_, ?_, ?_, ?_, ?_, ?_⟩ <;> kernel_rfl
theorem ty3 :
    zeroD Try.prog 31 = some .nilf ∧
    zOk Try.prog 31 = true ∧
    aggT Try.prog 32 = some false ∧
    szT Try.prog 32 = some 1 ∧
    elT Try.prog 32 = none ∧
    zeroD Try.prog 32 = some .nilf ∧
    zOk Try.prog 32 = true ∧
    aggT Try.prog 33 = some true ∧
    szT Try.prog 33 = some 3 ∧
    byT Try.prog 33 = some 56 ∧
    elT Try.prog 33 = none ∧
    zeroD Try.prog 33 = some (.agg [.nils, .nils, (.int .u64 0)]) ∧
    zOk Try.prog 33 = true ∧
    allSz Try.prog 33 = true ∧
    fldT Try.prog 33 0 = some (0, 1) ∧
    fldT Try.prog 33 1 = some (1, 1) ∧
    fldT Try.prog 33 2 = some (2, 1) ∧
    aggT Try.prog 34 = some true ∧
    szT Try.prog 34 = some 3 ∧
    byT Try.prog 34 = some 56 ∧
    elT Try.prog 34 = none ∧
    zeroD Try.prog 34 = some (.agg [.nils, .nils, (.int .u64 0)]) ∧
    zOk Try.prog 34 = true ∧
    allSz Try.prog 34 = true ∧
    fldT Try.prog 34 0 = some (0, 1) ∧
    fldT Try.prog 34 1 = some (1, 1) ∧
    fldT Try.prog 34 2 = some (2, 1) ∧
    aggT Try.prog 35 = some false ∧
    szT Try.prog 35 = some 1 ∧
    elT Try.prog 35 = none ∧
    zeroD Try.prog 35 = some .nilf ∧
    zOk Try.prog 35 = true ∧
    aggT Try.prog 36 = some false ∧
    szT Try.prog 36 = some 1 ∧
    byT Try.prog 36 = some 24 ∧
    elT Try.prog 36 = some 38 ∧
    zeroD Try.prog 36 = some .nils ∧
    zOk Try.prog 36 = true ∧
    aggT Try.prog 37 = some false ∧
    szT Try.prog 37 = some 1 := by
  refine ⟨?_, ?_, ?_, ?_, ?_, ?_, ?_, ?_, ?_, ?_, ?_, ?_, ?_, ?_, ?_, ?_, ?_, ?_, ?_, ?_, ?_, ?_, ?_, ?_, ?_, ?_, ?_, ?_, ?_, ?_, ?_, ?_, ?_, ?_, ?_, ?_, ?_, ?_, ?_, ?_⟩ <;> kernel_rfl
theorem ty4 :
    elT Try.prog 37 = none ∧
    zeroD Try.prog 37 = some .nilf ∧
    zOk Try.prog 37 = true ∧
    aggT Try.prog 38 = some false ∧
    szT Try.prog 38 = some 1 ∧
    byT Try.prog 38 = some 24 ∧
    elT Try.prog 38 = some 22 ∧
    zeroD Try.prog 38 = some .nils ∧
    zOk Try.prog 38 = true ∧
    aggT Try.prog 39 = some false ∧
    szT Try.prog 39 = some 1 ∧
    elT Try.prog 39 = none ∧
    zeroD Try.prog 39 = some .nilf ∧
    zOk Try.prog 39 = true ∧
    aggT Try.prog 40 = some false ∧
    szT Try.prog 40 = some 1 ∧
    byT Try.prog 40 = some 24 ∧
    elT Try.prog 40 = some 62 ∧
    zeroD Try.prog 40 = some .nils ∧
    zOk Try.prog 40 = true ∧
    aggT Try.prog 41 = some false ∧
    szT Try.prog 41 = some 1 ∧
    elT Try.prog 41 = none ∧
    zeroD Try.prog 41 = some .nilf ∧
    zOk Try.prog 41 = true ∧
    aggT Try.prog 42 = some false ∧
    szT Try.prog 42 = some 1 ∧
    byT Try.prog 42 = some 24 ∧
    elT Try.prog 42 = some 26 ∧
    zeroD Try.prog 42 = some .nils ∧
    zOk Try.prog 42 = true ∧
    aggT Try.prog 43 = some false ∧
    szT Try.prog 43 = some 1 ∧
    byT Try.prog 43 = some 8 ∧
    elT Try.prog 43 = none ∧
    intT Try.prog 43 = some .i64 ∧
    zeroD Try.prog 43 = some (.int .i64 0) ∧
    zOk Try.prog 43 = true ∧
    aggT Try.prog 45 = some false ∧
    szT Try.prog 45 = some 1 := by
  refine ⟨?_, ?_, ?_, ?_, ?_, ?_, ?_, ?_, ?_, ?_, ?_, ?_, ?_, ?_, ?_, ?_, ?_, ?_, ?_, ?_, ?_, ?_, ?_, ?_, ?_, ?_, ?_, ?_, ?_, ?_, ?_, ?_, ?_, ?_, ?_, ?_, ?_, ?_, ?_, ?_⟩ <;> kernel_rfl
theorem ty5 :
    elT Try.prog 45 = none ∧
    zeroD Try.prog 45 = some .nilf ∧
    zOk Try.prog 45 = true ∧
    aggT Try.prog 46 = some false ∧
    szT Try.prog 46 = some 1 ∧
    elT Try.prog 46 = none ∧
    zeroD Try.prog 46 = some .nilf ∧
    zOk Try.prog 46 = true ∧
    aggT Try.prog 47 = some false ∧
    szT Try.prog 47 = some 1 ∧
    elT Try.prog 47 = none ∧
    zeroD Try.prog 47 = some .nilf ∧
    zOk Try.prog 47 = true ∧
    aggT Try.prog 48 = some false ∧
    szT Try.prog 48 = some 1 ∧
    elT Try.prog 48 = none ∧
    zeroD Try.prog 48 = some .nilf ∧
    zOk Try.prog 48 = true ∧
    aggT Try.prog 49 = some false ∧
    szT Try.prog 49 = some 1 ∧
    elT Try.prog 49 = none ∧
    zeroD Try.prog 49 = some .nilf ∧
    zOk Try.prog 49 = true ∧
    aggT Try.prog 50 = some false ∧
    szT Try.prog 50 = some 1 ∧
    elT Try.prog 50 = none ∧
    zeroD Try.prog 50 = some .nilf ∧
    zOk Try.prog 50 = true ∧
    aggT Try.prog 51 = some false ∧
    szT Try.prog 51 = some 1 ∧
    elT Try.prog 51 = none ∧
    zeroD Try.prog 51 = some .nilf ∧
    zOk Try.prog 51 = true ∧
    aggT Try.prog 52 = some false ∧
    szT Try.prog 52 = some 1 ∧
    elT Try.prog 52 = none ∧
    zeroD Try.prog 52 = some .nilf ∧
    zOk Try.prog 52 = true ∧
    aggT Try.prog 54 = some false ∧
    szT Try.prog 54 = some 1 := by
  refine ⟨?_, ?_, ?_, ?_, ?_, ?_, ?_, ?_, ?_, ?_, ?_, ?_, ?_, ?_, ?_, ?_, ?_, ?_, ?_, ?_, ?_, ?_, ?_, ?_, ?_, ?_, ?_, ?_, ?_, ?_, ?_, ?_, ?_, ?_, ?_, ?_, ?_, ?_, ?_, ?_⟩ <;> kernel_rfl
theorem ty6 :
    elT Try.prog 54 = none ∧
    zeroD Try.prog 54 = some .nilf ∧
    zOk Try.prog 54 = true ∧
    aggT Try.prog 55 = some false ∧
    szT Try.prog 55 = some 1 ∧
    elT Try.prog 55 = none ∧
    zeroD Try.prog 55 = some .nilf ∧
    zOk Try.prog 55 = true ∧
    aggT Try.prog 56 = some false ∧
    szT Try.prog 56 = some 1 ∧
    elT Try.prog 56 = none ∧
    zeroD Try.prog 56 = some .nilf ∧
    zOk Try.prog 56 = true ∧
    aggT Try.prog 57 = some false ∧
    szT Try.prog 57 = some 1 ∧
    elT Try.prog 57 = none ∧
    zeroD Try.prog 57 = some .nilf ∧
    zOk Try.prog 57 = true ∧
    aggT Try.prog 58 = some false ∧
    szT Try.prog 58 = some 1 ∧
    elT Try.prog 58 = none ∧
    zeroD Try.prog 58 = some .nilf ∧
    zOk Try.prog 58 = true ∧
    aggT Try.prog 59 = some false ∧
    szT Try.prog 59 = some 1 ∧
    elT Try.prog 59 = none ∧
    zeroD Try.prog 59 = some .nilf ∧
    zOk Try.prog 59 = true ∧
    aggT Try.prog 60 = some false ∧
    szT Try.prog 60 = some 1 ∧
    byT Try.prog 60 = some 24 ∧
    elT Try.prog 60 = some 64 ∧
    zeroD Try.prog 60 = some .nils ∧
    zOk Try.prog 60 = true ∧
    aggT Try.prog 61 = some true ∧
    szT Try.prog 61 = some 2 ∧
    byT Try.prog 61 = some 32 ∧
    elT Try.prog 61 = none ∧
    zeroD Try.prog 61 = some (.agg [(.bool false), .nils]) ∧
    zOk Try.prog 61 = true := by
  refine ⟨?_, ?_, ?_, ?_, ?_, ?_, ?_, ?_, ?_, ?_, ?_, ?_, ?_, ?_, ?_, ?_, ?_, ?_, ?_, ?_, ?_, ?_, ?_, ?_, ?_, ?_, ?_, ?_, ?_, ?_, ?_, ?_, ?_, ?_, ?_, ?_, ?_, ?_, ?_, ?_⟩ <;> kernel_rfl
theorem ty7 :
    allSz Try.prog 61 = true ∧
    fldT Try.prog 61 0 = some (0, 1) ∧
    fldT Try.prog 61 1 = some (1, 1) ∧
    aggT Try.prog 62 = some true ∧
    szT Try.prog 62 = some 2 ∧
    byT Try.prog 62 = some 32 ∧
    elT Try.prog 62 = none ∧
    zeroD Try.prog 62 = some (.agg [(.bool false), .nils]) ∧
    zOk Try.prog 62 = true ∧
    allSz Try.prog 62 = true ∧
    fldT Try.prog 62 0 = some (0, 1) ∧
    fldT Try.prog 62 1 = some (1, 1) ∧
    aggT Try.prog 63 = some true ∧
    szT Try.prog 63 = some 2 ∧
    byT Try.prog 63 = some 16 ∧
    elT Try.prog 63 = none ∧
    zeroD Try.prog 63 = some (.agg [(.int .i64 0), (.int .i64 0)]) ∧
    zOk Try.prog 63 = true ∧
    allSz Try.prog 63 = true ∧
    fldT Try.prog 63 0 = some (0, 1) ∧
    fldT Try.prog 63 1 = some (1, 1) ∧
    aggT Try.prog 64 = some true ∧
    szT Try.prog 64 = some 2 ∧
    byT Try.prog 64 = some 16 ∧
    elT Try.prog 64 = none ∧
    zeroD Try.prog 64 = some (.agg [(.int .i64 0), (.int .i64 0)]) ∧
    zOk Try.prog 64 = true ∧
    allSz Try.prog 64 = true ∧
    fldT Try.prog 64 0 = some (0, 1) ∧
    fldT Try.prog 64 1 = some (1, 1) ∧
    aggT Try.prog 65 = some false ∧
    szT Try.prog 65 = some 1 ∧
    elT Try.prog 65 = none ∧
    zeroD Try.prog 65 = some .nilf ∧
    zOk Try.prog 65 = true ∧
    aggT Try.prog 66 = some false ∧
    szT Try.prog 66 = some 1 ∧
    elT Try.prog 66 = none ∧
    zeroD Try.prog 66 = some .nilf ∧
    zOk Try.prog 66 = true := by
  refine ⟨?_, ?_, ?_, ?_, ?_, ?_, ?_, ?_, ?_, ?_, ?_, ?_, ?_, ?_, ?_, ?_, ?_, ?_, ?_, ?_, ?_, ?_, ?_, ?_, ?_, ?_, ?_, ?_, ?_, ?_, ?_, ?_, ?_, ?_, ?_, ?_, ?_, ?_, ?_, ?_⟩ <;> kernel_rfl
theorem ty8 :
    aggT Try.prog 67 = some false ∧
    szT Try.prog 67 = some 1 ∧
    elT Try.prog 67 = none ∧
    zeroD Try.prog 67 = some .nilf ∧
    zOk Try.prog 67 = true ∧
    aggT Try.prog 68 = some false ∧
    szT Try.prog 68 = some 1 ∧
    elT Try.prog 68 = none ∧
    zeroD Try.prog 68 = some .nilf ∧
    zOk Try.prog 68 = true ∧
    aggT Try.prog 69 = some false ∧
    szT Try.prog 69 = some 1 ∧
    elT Try.prog 69 = none ∧
    zeroD Try.prog 69 = some .nilf ∧
    zOk Try.prog 69 = true ∧
    aggT Try.prog 70 = some false ∧
    szT Try.prog 70 = some 1 ∧
    elT Try.prog 70 = none ∧
    zeroD Try.prog 70 = some .nilf ∧
    zOk Try.prog 70 = true ∧
    aggT Try.prog 71 = some false ∧
    szT Try.prog 71 = some 1 ∧
    elT Try.prog 71 = none ∧
    zeroD Try.prog 71 = some .nilf ∧
    zOk Try.prog 71 = true ∧
    aggT Try.prog 72 = some false ∧
    szT Try.prog 72 = some 1 ∧
    elT Try.prog 72 = none ∧
    zeroD Try.prog 72 = some .nilf ∧
    zOk Try.prog 72 = true ∧
    aggT Try.prog 73 = some false ∧
    szT Try.prog 73 = some 1 ∧
    elT Try.prog 73 = none ∧
    zeroD Try.prog 73 = some .nilf ∧
    zOk Try.prog 73 = true ∧
    aggT Try.prog 74 = some false ∧
    szT Try.prog 74 = some 1 ∧
    elT Try.prog 74 = none ∧
    zeroD Try.prog 74 = some .nilf ∧
    zOk Try.prog 74 = true := by
  refine ⟨?_, ?_, ?_, ?_, ?_, ?_, ?_, ?_, ?_, ?_, ?_, ?_, ?_, ?_, ?_, ?_, ?_, ?_, ?_, ?_, ?_, ?_, ?_, ?_, ?_, ?_, ?_, ?_, ?_, ?_, ?_, ?_, ?_, ?_, ?_, ?_, ?_, ?_, ?_, ?_⟩ <;> kernel_rfl
theorem ty9 :
    aggT Try.prog 76 = some false ∧
    szT Try.prog 76 = some 1 ∧
    elT Try.prog 76 = none ∧
    zeroD Try.prog 76 = some .nilf ∧
    zOk Try.prog 76 = true ∧
    aggT Try.prog 77 = some false ∧
    szT Try.prog 77 = some 1 ∧
    byT Try.prog 77 = some 24 ∧
    elT Try.prog 77 = some 80 ∧
    zeroD Try.prog 77 = some .nils ∧
    zOk Try.prog 77 = true ∧
    aggT Try.prog 78 = some false ∧
    szT Try.prog 78 = some 1 ∧
    elT Try.prog 78 = none ∧
    zeroD Try.prog 78 = some .nilf ∧
    zOk Try.prog 78 = true ∧
    aggT Try.prog 79 = some false ∧
    szT Try.prog 79 = some 1 ∧
    elT Try.prog 79 = none ∧
    zeroD Try.prog 79 = some .nilf ∧
    zOk Try.prog 79 = true ∧
    aggT Try.prog 80 = some false ∧
    szT Try.prog 80 = some 1 ∧
    byT Try.prog 80 = some 24 ∧
    elT Try.prog 80 = some 82 ∧
    zeroD Try.prog 80 = some .nils ∧
    zOk Try.prog 80 = true ∧
    aggT Try.prog 81 = some true ∧
    szT Try.prog 81 = some 4 ∧
    byT Try.prog 81 = some 48 ∧
    elT Try.prog 81 = none ∧
    zeroD Try.prog 81 = some (.agg [(.int .i64 0), .nils, (.bool false), (.int .u64 0)]) ∧
    zOk Try.prog 81 = true ∧
    allSz Try.prog 81 = true ∧
    fldT Try.prog 81 0 = some (0, 1) ∧
    fldT Try.prog 81 1 = some (1, 1) ∧
    fldT Try.prog 81 2 = some (2, 1) ∧
    fldT Try.prog 81 3 = some (3, 1) ∧
    aggT Try.prog 82 = some true ∧
    szT Try.prog 82 = some 4 := by
  refine ⟨?_, ?_, ?_, ?_, ?_, ?_, ?_, ?_, ?_, ?_, ?_, ?_, ?_, ?_, ?_, ?_, ?_, ?_, ?_, ?_, ?_, ?_, ?_, ?_, ?_, ?_, ?_, ?_, ?_, ?_, ?_, ?_, ?_, ?_, ?_, ?_, ?_, ?_, ?_, ?_⟩ <;> kernel_rfl
theorem ty10 :
    byT Try.prog 82 = some 48 ∧
    elT Try.prog 82 = none ∧
    zeroD Try.prog 82 = some (.agg [(.int .i64 0), .nils, (.bool false), (.int .u64 0)]) ∧
    zOk Try.prog 82 = true ∧
    allSz Try.prog 82 = true ∧
    fldT Try.prog 82 0 = some (0, 1) ∧
    fldT Try.prog 82 1 = some (1, 1) ∧
    fldT Try.prog 82 2 = some (2, 1) ∧
    fldT Try.prog 82 3 = some (3, 1) ∧
    aggT Try.prog 83 = some false ∧
    szT Try.prog 83 = some 1 ∧
    elT Try.prog 83 = none ∧
    zeroD Try.prog 83 = some .nilf ∧
    zOk Try.prog 83 = true ∧
    aggT Try.prog 84 = some false ∧
    szT Try.prog 84 = some 1 ∧
    elT Try.prog 84 = none ∧
    aggT Try.prog 85 = some false ∧
    szT Try.prog 85 = some 1 ∧
    elT Try.prog 85 = none ∧
    zeroD Try.prog 85 = some .nilf ∧
    zOk Try.prog 85 = true ∧
    aggT Try.prog 87 = some false ∧
    szT Try.prog 87 = some 1 ∧
    elT Try.prog 87 = none ∧
    zeroD Try.prog 87 = some .nilf ∧
    zOk Try.prog 87 = true ∧
    aggT Try.prog 88 = some false ∧
    szT Try.prog 88 = some 1 ∧
    elT Try.prog 88 = none ∧
    zeroD Try.prog 88 = some .nilf ∧
    zOk Try.prog 88 = true ∧
    aggT Try.prog 89 = some false ∧
    szT Try.prog 89 = some 1 ∧
    elT Try.prog 89 = none ∧
    zeroD Try.prog 89 = some .nilf ∧
    zOk Try.prog 89 = true ∧
    aggT Try.prog 90 = some false ∧
    szT Try.prog 90 = some 1 ∧
    elT Try.prog 90 = none := by
  refine ⟨?_, ?_, ?_, ?_, ?_, ?_, ?_, ?_, ?_, ?_, ?_, ?_, ?_, ?_, ?_, ?_, ?_, ?_, ?_, ?_, ?_, ?_, ?_, ?_, ?_, ?_, ?_, ?_, ?_, ?_, ?_, ?_, ?_, ?_, ?_, ?_, ?_, ?_, ?_, ?_⟩ <;> kernel_rfl
theorem ty11 :
    zeroD Try.prog 90 = some .nilf ∧
    zOk Try.prog 90 = true ∧
    aggT Try.prog 91 = some false ∧
    szT Try.prog 91 = some 1 ∧
    elT Try.prog 91 = none ∧
    zeroD Try.prog 91 = some .nilf ∧
    zOk Try.prog 91 = true ∧
    aggT Try.prog 92 = some false ∧
    szT Try.prog 92 = some 1 ∧
    elT Try.prog 92 = none ∧
    zeroD Try.prog 92 = some .nilf ∧
    zOk Try.prog 92 = true ∧
    aggT Try.prog 93 = some false ∧
    szT Try.prog 93 = some 1 ∧
    elT Try.prog 93 = none ∧
    zeroD Try.prog 93 = some .nilf ∧
    zOk Try.prog 93 = true ∧
    aggT Try.prog 94 = some false ∧
    szT Try.prog 94 = some 1 ∧
    elT Try.prog 94 = none ∧
    zeroD Try.prog 94 = some .nilf ∧
    zOk Try.prog 94 = true ∧
    aggT Try.prog 95 = some false ∧
    szT Try.prog 95 = some 1 ∧
    elT Try.prog 95 = none ∧
    zeroD Try.prog 95 = some .nilf ∧
    zOk Try.prog 95 = true ∧
    aggT Try.prog 96 = some false ∧
    szT Try.prog 96 = some 1 ∧
    elT Try.prog 96 = none ∧
    zeroD Try.prog 96 = some .nilf ∧
    zOk Try.prog 96 = true ∧
    aggT Try.prog 97 = some false ∧
    szT Try.prog 97 = some 1 ∧
    elT Try.prog 97 = none ∧
    zeroD Try.prog 97 = some .nilf ∧
    zOk Try.prog 97 = true ∧
    aggT Try.prog 98 = some false ∧
    szT Try.prog 98 = some 1 ∧
    elT Try.prog 98 = none := by
  refine ⟨?_, ?_, ?_, ?_, ?_, ?_, ?_, ?_, ?_, ?_, ?_, ?_, ?_, ?_, ?_, ?_, ?_, ?_, ?_, ?_, ?_, ?_, ?_, ?_, ?_, ?_, ?_, ?_, ?_, ?_, ?_, ?_, ?_, ?_, ?_, ?_, ?_, ?_, ?_, ?_⟩ <;> kernel_rfl
theorem ty12 :
    zeroD Try.prog 98 = some .nilf ∧
    zOk Try.prog 98 = true ∧
    aggT Try.prog 99 = some false ∧
    szT Try.prog 99 = some 1 ∧
    elT Try.prog 99 = none ∧
    zeroD Try.prog 99 = some .nilf ∧
    zOk Try.prog 99 = true ∧
    aggT Try.prog 100 = some false ∧
    szT Try.prog 100 = some 1 ∧
    elT Try.prog 100 = none ∧
    zeroD Try.prog 100 = some .nilf ∧
    zOk Try.prog 100 = true ∧
    aggT Try.prog 101 = some false ∧
    szT Try.prog 101 = some 1 ∧
    elT Try.prog 101 = none ∧
    zeroD Try.prog 101 = some .nilf ∧
    zOk Try.prog 101 = true ∧
    aggT Try.prog 102 = some false ∧
    szT Try.prog 102 = some 1 ∧
    elT Try.prog 102 = none ∧
    zeroD Try.prog 102 = some .nilf ∧
    zOk Try.prog 102 = true ∧
    aggT Try.prog 103 = some false ∧
    szT Try.prog 103 = some 1 ∧
    elT Try.prog 103 = none ∧
    zeroD Try.prog 103 = some .nilf ∧
    zOk Try.prog 103 = true ∧
    aggT Try.prog 104 = some false ∧
    szT Try.prog 104 = some 1 ∧
    elT Try.prog 104 = none ∧
    zeroD Try.prog 104 = some .nilf ∧
    zOk Try.prog 104 = true ∧
    aggT Try.prog 105 = some false ∧
    szT Try.prog 105 = some 1 ∧
    elT Try.prog 105 = none ∧
    mapT Try.prog 105 = some (110, 22) ∧
    aggT Try.prog 106 = some true ∧
    szT Try.prog 106 = some 8 ∧
    byT Try.prog 106 = some 64 ∧
    elT Try.prog 106 = none := by
  refine ⟨?_, ?_, ?_, ?_, ?_, ?_, ?_, ?_, ?_, ?_, ?_, ?_, ?_, ?_, ?_, ?_, ?_, ?_, ?_, ?_, ?_, ?_, ?_, ?_, ?_, ?_, ?_, ?_, ?_, ?_, ?_, ?_, ?_, ?_, ?_, ?_, ?_, ?_, ?_, ?_⟩ <;> kernel_rfl
theorem ty13 :
    arrT Try.prog 106 = some (8, 3) ∧
    zeroD Try.prog 106 = some (.agg [(.int .i64 0), (.int .i64 0), (.int .i64 0), (.int .i64 0), (.int .i64 0), (.int .i64 0), (.int .i64 0), (.int .i64 0)]) ∧
    zOk Try.prog 106 = true ∧
    aggT Try.prog 107 = some true ∧
    szT Try.prog 107 = some 9 ∧
    byT Try.prog 107 = some 72 ∧
    elT Try.prog 107 = none ∧
    zeroD Try.prog 107 = some (.agg [(.int .i64 0), (.int .i64 0), (.int .i64 0), (.int .i64 0), (.int .i64 0), (.int .i64 0), (.int .i64 0), (.int .i64 0), (.int .i64 0)]) ∧
    zOk Try.prog 107 = true ∧
    allSz Try.prog 107 = true ∧
    fldT Try.prog 107 0 = some (0, 1) ∧
    fldT Try.prog 107 1 = some (1, 8) ∧
    aggT Try.prog 108 = some true ∧
    szT Try.prog 108 = some 9 ∧
    byT Try.prog 108 = some 72 ∧
    elT Try.prog 108 = none ∧
    zeroD Try.prog 108 = some (.agg [(.int .i64 0), (.int .i64 0), (.int .i64 0), (.int .i64 0), (.int .i64 0), (.int .i64 0), (.int .i64 0), (.int .i64 0), (.int .i64 0)]) ∧
    zOk Try.prog 108 = true ∧
    allSz Try.prog 108 = true ∧
    fldT Try.prog 108 0 = some (0, 1) ∧
    fldT Try.prog 108 1 = some (1, 8) ∧
    aggT Try.prog 109 = some true ∧
    szT Try.prog 109 = some 18 ∧
    byT Try.prog 109 = some 144 ∧
    elT Try.prog 109 = none ∧
    zeroD Try.prog 109 = some (.agg [(.int .i64 0), (.int .i64 0), (.int .i64 0), (.int .i64 0), (.int .i64 0), (.int .i64 0), (.int .i64 0), (.int .i64 0), (.int .i64 0), (.int .i64 0), (.int .i64 0), (.int .i64 0), (.int .i64 0), (.int .i64 0), (.int .i64 0), (.int .i64 0), (.int .i64 0), (.int .i64 0)]) ∧
    zOk Try.prog 109 = true ∧
    allSz Try.prog 109 = true ∧
    fldT Try.prog 109 0 = some (0, 9) ∧
    fldT Try.prog 109 1 = some (9, 9) ∧
    aggT Try.prog 110 = some true ∧
    szT Try.prog 110 = some 18 ∧
    byT Try.prog 110 = some 144 ∧
    elT Try.prog 110 = none ∧
    zeroD Try.prog 110 = some (.agg [(.int .i64 0), (.int .i64 0), (.int .i64 0), (.int .i64 0), (.int .i64 0), (.int .i64 0), (.int .i64 0), (.int .i64 0), (.int .i64 0), (.int .i64 0), (.int .i64 0), (.int .i64 0), (.int .i64 0), (.int .i64 0), (.int .i64 0), (.int .i64 0), (.int .i64 0), (.int .i64 0)]) ∧
    zOk Try.prog 110 = true ∧
    allSz Try.prog 110 = true ∧
    fldT Try.prog 110 0 = some (0, 9) ∧
    fldT Try.prog 110 1 = some (9, 9) ∧
    aggT Try.prog 112 = some false := by
  refine ⟨?_, ?_, ?_, ?_, ?_, ?_, ?_, ?_, ?_, ?_, ?_, ?_, ?_, ?_, ?_, ?_, ?_, ?_, ?_, ?_, ?_, ?_, ?_, ?_, ?_, ?_, ?_, ?_, ?_, ?_, ?_, ?_, ?_, ?_, ?_, ?_, ?_, ?_, ?_, ?_⟩ <;> kernel_rfl
theorem ty14 :
    szT Try.prog 112 = some 1 ∧
    elT Try.prog 112 = none ∧
    zeroD Try.prog 112 = some .nilf ∧
    zOk Try.prog 112 = true ∧
    aggT Try.prog 114 = some false ∧
    szT Try.prog 114 = some 1 ∧
    elT Try.prog 114 = none ∧
    zeroD Try.prog 114 = some .nilf ∧
    zOk Try.prog 114 = true ∧
    aggT Try.prog 115 = some false ∧
    szT Try.prog 115 = some 1 ∧
    elT Try.prog 115 = none ∧
    zeroD Try.prog 115 = some .nilf ∧
    zOk Try.prog 115 = true ∧
    aggT Try.prog 116 = some false ∧
    szT Try.prog 116 = some 1 ∧
    elT Try.prog 116 = none ∧
    zeroD Try.prog 116 = some .nilf ∧
    zOk Try.prog 116 = true ∧
    aggT Try.prog 117 = some false ∧
    szT Try.prog 117 = some 1 ∧
    elT Try.prog 117 = none ∧
    zeroD Try.prog 117 = some .nilf ∧
    zOk Try.prog 117 = true ∧
    aggT Try.prog 118 = some false ∧
    szT Try.prog 118 = some 1 ∧
    elT Try.prog 118 = none ∧
    zeroD Try.prog 118 = some .nilf ∧
    zOk Try.prog 118 = true ∧
    aggT Try.prog 119 = some false ∧
    szT Try.prog 119 = some 1 ∧
    byT Try.prog 119 = some 8 ∧
    elT Try.prog 119 = none ∧
    intT Try.prog 119 = some .u64 ∧
    zeroD Try.prog 119 = some (.int .u64 0) ∧
    zOk Try.prog 119 = true ∧
    aggT Try.prog 121 = some false ∧
    szT Try.prog 121 = some 1 ∧
    elT Try.prog 121 = none ∧
    zeroD Try.prog 121 = some .nilf := by
  refine ⟨?_, ?_, ?_, ?_, ?_, ?_, ?_, ?_, ?_, ?_, ?_, ?_, ?_, ?_, ?_, ?_, ?_, ?_, ?_, ?_, ?_, ?_, ?_, ?_, ?_, ?_, ?_, ?_, ?_, ?_, ?_, ?_, ?_, ?_, ?_, ?_, ?_, ?_, ?_, ?_⟩ <;> kernel_rfl
theorem ty15 :
    zOk Try.prog 121 = true ∧
    aggT Try.prog 122 = some false ∧
    szT Try.prog 122 = some 1 ∧
    byT Try.prog 122 = some 24 ∧
    elT Try.prog 122 = some 5 ∧
    zeroD Try.prog 122 = some .nils ∧
    zOk Try.prog 122 = true ∧
    aggT Try.prog 124 = some false ∧
    szT Try.prog 124 = some 1 ∧
    elT Try.prog 124 = none ∧
    zeroD Try.prog 124 = some .nilf ∧
    zOk Try.prog 124 = true ∧
    aggT Try.prog 125 = some false ∧
    szT Try.prog 125 = some 1 ∧
    elT Try.prog 125 = none ∧
    mapT Try.prog 125 = some (64, 3) ∧
    aggT Try.prog 126 = some false ∧
    szT Try.prog 126 = some 1 ∧
    elT Try.prog 126 = none ∧
    aggT Try.prog 127 = some true ∧
    szT Try.prog 127 = some 4 ∧
    byT Try.prog 127 = some 80 ∧
    elT Try.prog 127 = none ∧
    zeroD Try.prog 127 = some (.agg [.nils, .nils, .nils, .nilf]) ∧
    zOk Try.prog 127 = true ∧
    allSz Try.prog 127 = true ∧
    fldT Try.prog 127 0 = some (0, 1) ∧
    fldT Try.prog 127 1 = some (1, 1) ∧
    fldT Try.prog 127 2 = some (2, 1) ∧
    fldT Try.prog 127 3 = some (3, 1) ∧
    aggT Try.prog 128 = some true ∧
    szT Try.prog 128 = some 4 ∧
    byT Try.prog 128 = some 80 ∧
    elT Try.prog 128 = none ∧
    zeroD Try.prog 128 = some (.agg [.nils, .nils, .nils, .nilf]) ∧
    zOk Try.prog 128 = true ∧
    allSz Try.prog 128 = true ∧
    fldT Try.prog 128 0 = some (0, 1) ∧
    fldT Try.prog 128 1 = some (1, 1) ∧
    fldT Try.prog 128 2 = some (2, 1) := by
  refine ⟨?_, ?_, ?_, ?_, ?_, ?_, ?_, ?_, ?_, ?_, ?_, ?_, ?_, ?_, ?_, ?_, ?_, ?_, ?_, ?_, ?_, ?_, ?_, ?_, ?_, ?_, ?_, ?_, ?_, ?_, ?_, ?_, ?_, ?_, ?_, ?_, ?_, ?_, ?_, ?_⟩ <;> kernel_rfl
theorem ty16 :
    fldT Try.prog 128 3 = some (3, 1) ∧
    aggT Try.prog 129 = some false ∧
    szT Try.prog 129 = some 1 ∧
    elT Try.prog 129 = none ∧
    zeroD Try.prog 129 = some .nilf ∧
    zOk Try.prog 129 = true ∧
    aggT Try.prog 130 = some false ∧
    szT Try.prog 130 = some 1 ∧
    elT Try.prog 130 = none ∧
    zeroD Try.prog 130 = some .nilf ∧
    zOk Try.prog 130 = true ∧
    aggT Try.prog 131 = some false ∧
    szT Try.prog 131 = some 1 ∧
    elT Try.prog 131 = none ∧
    zeroD Try.prog 131 = some .nilf ∧
    zOk Try.prog 131 = true ∧
    aggT Try.prog 132 = some false ∧
    szT Try.prog 132 = some 1 ∧
    elT Try.prog 132 = none ∧
    zeroD Try.prog 132 = some .nilf ∧
    zOk Try.prog 132 = true ∧
    aggT Try.prog 133 = some false ∧
    szT Try.prog 133 = some 1 ∧
    elT Try.prog 133 = none ∧
    zeroD Try.prog 133 = some .nilf ∧
    zOk Try.prog 133 = true ∧
    aggT Try.prog 135 = some false ∧
    szT Try.prog 135 = some 1 ∧
    elT Try.prog 135 = none ∧
    zeroD Try.prog 135 = some .nilf ∧
    zOk Try.prog 135 = true ∧
    aggT Try.prog 136 = some false ∧
    szT Try.prog 136 = some 1 ∧
    elT Try.prog 136 = none ∧
    zeroD Try.prog 136 = some .nilf ∧
    zOk Try.prog 136 = true ∧
    aggT Try.prog 137 = some false ∧
    szT Try.prog 137 = some 1 ∧
    elT Try.prog 137 = none ∧
    zeroD Try.prog 137 = some .nilf := by
  refine ⟨?_, ?_, ?_, ?_, ?_, ?_, ?_, ?_, ?_, ?_, ?_, ?_, ?_, ?_, ?_, ?_, ?_, ?_, ?_, ?_, ?_, ?_, ?_, ?_, ?_, ?_, ?_, ?_, ?_, ?_, ?_, ?_, ?_, ?_, ?_, ?_, ?_, ?_, ?_, ?_⟩ <;> kernel_rfl
theorem ty17 :
    zOk Try.prog 137 = true ∧
    aggT Try.prog 138 = some false ∧
    szT Try.prog 138 = some 1 ∧
    elT Try.prog 138 = none ∧
    zeroD Try.prog 138 = some .nilf ∧
    zOk Try.prog 138 = true ∧
    aggT Try.prog 139 = some false ∧
    szT Try.prog 139 = some 1 ∧
    elT Try.prog 139 = none ∧
    zeroD Try.prog 139 = some .nilf ∧
    zOk Try.prog 139 = true ∧
    aggT Try.prog 140 = some false ∧
    szT Try.prog 140 = some 1 ∧
    elT Try.prog 140 = none ∧
    zeroD Try.prog 140 = some .nilf ∧
    zOk Try.prog 140 = true ∧
    aggT Try.prog 141 = some false ∧
    szT Try.prog 141 = some 1 ∧
    elT Try.prog 141 = none ∧
    zeroD Try.prog 141 = some .nilf ∧
    zOk Try.prog 141 = true ∧
    aggT Try.prog 142 = some false ∧
    szT Try.prog 142 = some 1 ∧
    elT Try.prog 142 = none ∧
    zeroD Try.prog 142 = some .nilf ∧
    zOk Try.prog 142 = true ∧
    aggT Try.prog 143 = some false ∧
    szT Try.prog 143 = some 1 ∧
    byT Try.prog 143 = some 4 ∧
    elT Try.prog 143 = none ∧
    intT Try.prog 143 = some .u32 ∧
    zeroD Try.prog 143 = some (.int .u32 0) ∧
    zOk Try.prog 143 = true ∧
    aggT Try.prog 145 = some false ∧
    szT Try.prog 145 = some 1 ∧
    elT Try.prog 145 = none ∧
    zeroD Try.prog 145 = some .nilf ∧
    zOk Try.prog 145 = true ∧
    aggT Try.prog 146 = some false ∧
    szT Try.prog 146 = some 1 := by
  refine ⟨?_, ?_, ?_, ?_, ?_, ?_, ?_, ?_, ?_, ?_, ?_, ?_, ?_, ?_, ?_, ?_, ?_, ?_, ?_, ?_, ?_, ?_, ?_, ?_, ?_, ?_, ?_, ?_, ?_, ?_, ?_, ?_, ?_, ?_, ?_, ?_, ?_, ?_, ?_, ?_⟩ <;> kernel_rfl
theorem ty18 :
    elT Try.prog 146 = none ∧
    zeroD Try.prog 146 = some .nilf ∧
    zOk Try.prog 146 = true ∧
    aggT Try.prog 147 = some false ∧
    szT Try.prog 147 = some 1 ∧
    elT Try.prog 147 = none ∧
    zeroD Try.prog 147 = some .nilf ∧
    zOk Try.prog 147 = true ∧
    aggT Try.prog 148 = some false ∧
    szT Try.prog 148 = some 1 ∧
    elT Try.prog 148 = none ∧
    zeroD Try.prog 148 = some .nilf ∧
    zOk Try.prog 148 = true ∧
    aggT Try.prog 149 = some false ∧
    szT Try.prog 149 = some 1 ∧
    elT Try.prog 149 = none ∧
    zeroD Try.prog 149 = some .nilf ∧
    zOk Try.prog 149 = true ∧
    aggT Try.prog 150 = some false ∧
    szT Try.prog 150 = some 1 ∧
    elT Try.prog 150 = none ∧
    zeroD Try.prog 150 = some .nilf ∧
    zOk Try.prog 150 = true ∧
    aggT Try.prog 151 = some false ∧
    szT Try.prog 151 = some 1 ∧
    elT Try.prog 151 = none ∧
    zeroD Try.prog 151 = some .nilf ∧
    zOk Try.prog 151 = true ∧
    aggT Try.prog 152 = some false ∧
    szT Try.prog 152 = some 1 ∧
    elT Try.prog 152 = none ∧
    zeroD Try.prog 152 = some .nilf ∧
    zOk Try.prog 152 = true ∧
    aggT Try.prog 153 = some false ∧
    szT Try.prog 153 = some 1 ∧
    byT Try.prog 153 = some 8 ∧
    elT Try.prog 153 = none ∧
    intT Try.prog 153 = some .i64 ∧
    zeroD Try.prog 153 = some (.int .i64 0) ∧
    zOk Try.prog 153 = true := by
  refine ⟨?_, ?_, ?_, ?_, ?_, ?_, ?_, ?_, ?_, ?_, ?_, ?_, ?_, ?_, ?_, ?_, ?_, ?_, ?_, ?_, ?_, ?_, ?_, ?_, ?_, ?_, ?_, ?_, ?_, ?_, ?_, ?_, ?_, ?_, ?_, ?_, ?_, ?_, ?_, ?_⟩ <;> kernel_rfl
theorem ty19 :
    aggT Try.prog 155 = some false ∧
    szT Try.prog 155 = some 1 ∧
    elT Try.prog 155 = none ∧
    zeroD Try.prog 155 = some .nilf ∧
    zOk Try.prog 155 = true ∧
    aggT Try.prog 156 = some false ∧
    szT Try.prog 156 = some 1 ∧
    elT Try.prog 156 = none ∧
    zeroD Try.prog 156 = some .nilf ∧
    zOk Try.prog 156 = true ∧
    aggT Try.prog 157 = some false ∧
    szT Try.prog 157 = some 1 ∧
    elT Try.prog 157 = none ∧
    zeroD Try.prog 157 = some .nilf ∧
    zOk Try.prog 157 = true ∧
    aggT Try.prog 158 = some false ∧
    szT Try.prog 158 = some 1 ∧
    elT Try.prog 158 = none ∧
    zeroD Try.prog 158 = some .nilf ∧
    zOk Try.prog 158 = true ∧
    aggT Try.prog 159 = some false ∧
    szT Try.prog 159 = some 1 ∧
    elT Try.prog 159 = none ∧
    zeroD Try.prog 159 = some .nilf ∧
    zOk Try.prog 159 = true ∧
    aggT Try.prog 160 = some false ∧
    szT Try.prog 160 = some 1 ∧
    elT Try.prog 160 = none ∧
    zeroD Try.prog 160 = some .nilf ∧
    zOk Try.prog 160 = true ∧
    aggT Try.prog 161 = some false ∧
    szT Try.prog 161 = some 1 ∧
    elT Try.prog 161 = none ∧
    zeroD Try.prog 161 = some .nilf ∧
    zOk Try.prog 161 = true ∧
    aggT Try.prog 162 = some false ∧
    szT Try.prog 162 = some 1 ∧
    elT Try.prog 162 = none ∧
    zeroD Try.prog 162 = some .nilf ∧
    zOk Try.prog 162 = true := by
  refine ⟨?_, ?_, ?_, ?_, ?_, ?_, ?_, ?_, ?_, ?_, ?_, ?_, ?_, ?_, ?_, ?_, ?_, ?_, ?_, ?_, ?_, ?_, ?_, ?_, ?_, ?_, ?_, ?_, ?_, ?_, ?_, ?_, ?_, ?_, ?_, ?_, ?_, ?_, ?_, ?_⟩ <;> kernel_rfl
theorem ty20 :
    aggT Try.prog 163 = some false ∧
    szT Try.prog 163 = some 1 ∧
    elT Try.prog 163 = none ∧
    zeroD Try.prog 163 = some .nilf ∧
    zOk Try.prog 163 = true ∧
    aggT Try.prog 164 = some false ∧
    szT Try.prog 164 = some 1 ∧
    elT Try.prog 164 = none ∧
    zeroD Try.prog 164 = some .nilf ∧
    zOk Try.prog 164 = true ∧
    aggT Try.prog 165 = some false ∧
    szT Try.prog 165 = some 1 ∧
    elT Try.prog 165 = none ∧
    zeroD Try.prog 165 = some .nilf ∧
    zOk Try.prog 165 = true ∧
    aggT Try.prog 166 = some false ∧
    szT Try.prog 166 = some 1 ∧
    elT Try.prog 166 = none ∧
    zeroD Try.prog 166 = some .nilf ∧
    zOk Try.prog 166 = true ∧
    aggT Try.prog 167 = some false ∧
    szT Try.prog 167 = some 1 ∧
    elT Try.prog 167 = none ∧
    zeroD Try.prog 167 = some .nilf ∧
    zOk Try.prog 167 = true ∧
    aggT Try.prog 168 = some false ∧
    szT Try.prog 168 = some 1 ∧
    byT Try.prog 168 = some 8 ∧
    elT Try.prog 168 = none ∧
    intT Try.prog 168 = some .u64 ∧
    zeroD Try.prog 168 = some (.int .u64 0) ∧
    zOk Try.prog 168 = true ∧
    aggT Try.prog 169 = some false ∧
    szT Try.prog 169 = some 1 ∧
    elT Try.prog 169 = none ∧
    zeroD Try.prog 169 = some .nilf ∧
    zOk Try.prog 169 = true ∧
    aggT Try.prog 170 = some false ∧
    szT Try.prog 170 = some 1 ∧
    elT Try.prog 170 = none := by
  refine ⟨?_, ?_, ?_, ?_, ?_, ?_, ?_, ?_, ?_, ?_, ?_, ?_, ?_, ?_, ?_, ?_, ?_, ?_, ?_, ?_, ?_, ?_, ?_, ?_, ?_, ?_, ?_, ?_, ?_, ?_, ?_, ?_, ?_, ?_, ?_, ?_, ?_, ?_, ?_, ?_⟩ <;> kernel_rfl
theorem ty21 :
    zeroD Try.prog 170 = some .nilf ∧
    zOk Try.prog 170 = true ∧
    aggT Try.prog 171 = some false ∧
    szT Try.prog 171 = some 1 ∧
    elT Try.prog 171 = none ∧
    zeroD Try.prog 171 = some .nilf ∧
    zOk Try.prog 171 = true ∧
    aggT Try.prog 172 = some false ∧
    szT Try.prog 172 = some 1 ∧
    elT Try.prog 172 = none ∧
    aggT Try.prog 173 = some false ∧
    szT Try.prog 173 = some 1 ∧
    elT Try.prog 173 = none ∧
    zeroD Try.prog 173 = some .nilf ∧
    zOk Try.prog 173 = true ∧
    aggT Try.prog 174 = some false ∧
    szT Try.prog 174 = some 1 ∧
    elT Try.prog 174 = none ∧
    zeroD Try.prog 174 = some .nilf ∧
    zOk Try.prog 174 = true ∧
    aggT Try.prog 175 = some false ∧
    szT Try.prog 175 = some 1 ∧
    elT Try.prog 175 = none ∧
    aggT Try.prog 177 = some false ∧
    szT Try.prog 177 = some 1 ∧
    elT Try.prog 177 = none ∧
    zeroD Try.prog 177 = some .nilf ∧
    zOk Try.prog 177 = true ∧
    aggT Try.prog 178 = some false ∧
    szT Try.prog 178 = some 1 ∧
    elT Try.prog 178 = none ∧
    zeroD Try.prog 178 = some .nilf ∧
    zOk Try.prog 178 = true ∧
    aggT Try.prog 179 = some false ∧
    szT Try.prog 179 = some 1 ∧
    elT Try.prog 179 = none ∧
    zeroD Try.prog 179 = some .nilf ∧
    zOk Try.prog 179 = true ∧
    aggT Try.prog 180 = some false ∧
    szT Try.prog 180 = some 1 := by
  refine ⟨?_, ?_, ?_, ?_, ?_, ?_, ?_, ?_, ?_, ?_, ?_, ?_, ?_, ?_, ?_, ?_, ?_, ?_, ?_, ?_, ?_, ?_, ?_, ?_, ?_, ?_, ?_, ?_, ?_, ?_, ?_, ?_, ?_, ?_, ?_, ?_, ?_, ?_, ?_, ?_⟩ <;> kernel_rfl
theorem ty22 :
    elT Try.prog 180 = none ∧
    zeroD Try.prog 180 = some .nilf ∧
    zOk Try.prog 180 = true ∧
    aggT Try.prog 181 = some false ∧
    szT Try.prog 181 = some 1 ∧
    elT Try.prog 181 = none ∧
    zeroD Try.prog 181 = some .nilf ∧
    zOk Try.prog 181 = true ∧
    aggT Try.prog 182 = some false ∧
    szT Try.prog 182 = some 1 ∧
    elT Try.prog 182 = none ∧
    zeroD Try.prog 182 = some .nilf ∧
    zOk Try.prog 182 = true ∧
    aggT Try.prog 183 = some false ∧
    szT Try.prog 183 = some 1 ∧
    elT Try.prog 183 = none ∧
    zeroD Try.prog 183 = some .nilf ∧
    zOk Try.prog 183 = true ∧
    aggT Try.prog 184 = some false ∧
    szT Try.prog 184 = some 1 ∧
    elT Try.prog 184 = none ∧
    zeroD Try.prog 184 = some .nilf ∧
    zOk Try.prog 184 = true ∧
    aggT Try.prog 185 = some false ∧
    szT Try.prog 185 = some 1 ∧
    elT Try.prog 185 = none ∧
    zeroD Try.prog 185 = some .nilf ∧
    zOk Try.prog 185 = true ∧
    aggT Try.prog 186 = some false ∧
    szT Try.prog 186 = some 1 ∧
    elT Try.prog 186 = none ∧
    zeroD Try.prog 186 = some .nilf ∧
    zOk Try.prog 186 = true ∧
    aggT Try.prog 192 = some false ∧
    szT Try.prog 192 = some 1 ∧
    elT Try.prog 192 = none ∧
    zeroD Try.prog 192 = some .nilf ∧
    zOk Try.prog 192 = true ∧
    aggT Try.prog 195 = some false ∧
    szT Try.prog 195 = some 1 := by
  refine ⟨?_, ?_, ?_, ?_, ?_, ?_, ?_, ?_, ?_, ?_, ?_, ?_, ?_, ?_, ?_, ?_, ?_, ?_, ?_, ?_, ?_, ?_, ?_, ?_, ?_, ?_, ?_, ?_, ?_, ?_, ?_, ?_, ?_, ?_, ?_, ?_, ?_, ?_, ?_, ?_⟩ <;> kernel_rfl
theorem ty23 :
    elT Try.prog 195 = none ∧
    zeroD Try.prog 195 = some .nilf ∧
    zOk Try.prog 195 = true ∧
    aggT Try.prog 196 = some false ∧
    szT Try.prog 196 = some 1 ∧
    elT Try.prog 196 = none := by
  refine ⟨?_, ?_, ?_, ?_, ?_, ?_⟩ <;> kernel_rfl
theorem mixed : Try.prog.follows .mixedOrders = true := by kernel_rfl
theorem tys :
    (aggT Try.prog 1 = some false ∧ szT Try.prog 1 = some 1 ∧ elT Try.prog 1 = none ∧ zeroD Try.prog 1 = some .nilf ∧ zOk Try.prog 1 = true ∧ aggT Try.prog 2 = some false ∧ szT Try.prog 2 = some 1 ∧ byT Try.prog 2 = some 8 ∧ elT Try.prog 2 = none ∧ intT Try.prog 2 = some .i64 ∧ zeroD Try.prog 2 = some (.int .i64 0) ∧ zOk Try.prog 2 = true ∧ aggT Try.prog 3 = some false ∧ szT Try.prog 3 = some 1 ∧ byT Try.prog 3 = some 8 ∧ elT Try.prog 3 = none ∧ intT Try.prog 3 = some .i64 ∧ zeroD Try.prog 3 = some (.int .i64 0) ∧ zOk Try.prog 3 = true ∧ aggT Try.prog 4 = some false ∧ szT Try.prog 4 = some 1 ∧ byT Try.prog 4 = some 1 ∧ elT Try.prog 4 = none ∧ isBoolT Try.prog 4 = true ∧ zeroD Try.prog 4 = some (.bool false) ∧ zOk Try.prog 4 = true ∧ aggT Try.prog 5 = some false ∧ szT Try.prog 5 = some 1 ∧ byT Try.prog 5 = some 1 ∧ elT Try.prog 5 = none ∧ intT Try.prog 5 = some .u8 ∧ zeroD Try.prog 5 = some (.int .u8 0) ∧ zOk Try.prog 5 = true ∧ aggT Try.prog 9 = some false ∧ szT Try.prog 9 = some 1 ∧ byT Try.prog 9 = some 16 ∧ elT Try.prog 9 = none ∧ isStrT Try.prog 9 = true ∧ zeroD Try.prog 9 = some (.str ⟨#[]⟩) ∧ zOk Try.prog 9 = true) ∧
    (aggT Try.prog 12 = some false ∧ szT Try.prog 12 = some 1 ∧ byT Try.prog 12 = some 8 ∧ elT Try.prog 12 = none ∧ intT Try.prog 12 = some .u64 ∧ zeroD Try.prog 12 = some (.int .u64 0) ∧ zOk Try.prog 12 = true ∧ aggT Try.prog 21 = some false ∧ szT Try.prog 21 = some 1 ∧ byT Try.prog 21 = some 4 ∧ elT Try.prog 21 = none ∧ intT Try.prog 21 = some .i32 ∧ zeroD Try.prog 21 = some (.int .i32 0) ∧ zOk Try.prog 21 = true ∧ aggT Try.prog 22 = some false ∧ szT Try.prog 22 = some 1 ∧ byT Try.prog 22 = some 8 ∧ elT Try.prog 22 = none ∧ intT Try.prog 22 = some .u64 ∧ zeroD Try.prog 22 = some (.int .u64 0) ∧ zOk Try.prog 22 = true ∧ aggT Try.prog 23 = some false ∧ szT Try.prog 23 = some 1 ∧ byT Try.prog 23 = some 24 ∧ elT Try.prog 23 = some 34 ∧ zeroD Try.prog 23 = some .nils ∧ zOk Try.prog 23 = true ∧ aggT Try.prog 24 = some true ∧ szT Try.prog 24 = some 5 ∧ byT Try.prog 24 = some 56 ∧ elT Try.prog 24 = none ∧ zeroD Try.prog 24 = some (.agg [(.int .u64 0), (.int .u64 0), (.int .u64 0), (.int .u64 0), .nils]) ∧ zOk Try.prog 24 = true ∧ allSz Try.prog 24 = true ∧ fldT Try.prog 24 0 = some (0, 1) ∧ fldT Try.prog 24 1 = some (1, 1) ∧ fldT Try.prog 24 2 = some (2, 1) ∧ fldT Try.prog 24 3 = some (3, 1) ∧ fldT Try.prog 24 4 = some (4, 1) ∧ aggT Try.prog 25 = some true) ∧
    (szT Try.prog 25 = some 5 ∧ byT Try.prog 25 = some 56 ∧ elT Try.prog 25 = none ∧ zeroD Try.prog 25 = some (.agg [(.int .u64 0), (.int .u64 0), (.int .u64 0), (.int .u64 0), .nils]) ∧ zOk Try.prog 25 = true ∧ allSz Try.prog 25 = true ∧ fldT Try.prog 25 0 = some (0, 1) ∧ fldT Try.prog 25 1 = some (1, 1) ∧ fldT Try.prog 25 2 = some (2, 1) ∧ fldT Try.prog 25 3 = some (3, 1) ∧ fldT Try.prog 25 4 = some (4, 1) ∧ aggT Try.prog 26 = some false ∧ szT Try.prog 26 = some 1 ∧ byT Try.prog 26 = some 24 ∧ elT Try.prog 26 = some 3 ∧ zeroD Try.prog 26 = some .nils ∧ zOk Try.prog 26 = true ∧ aggT Try.prog 27 = some false ∧ szT Try.prog 27 = some 1 ∧ elT Try.prog 27 = none ∧ zeroD Try.prog 27 = some .nilf ∧ zOk Try.prog 27 = true ∧ aggT Try.prog 28 = some false ∧ szT Try.prog 28 = some 1 ∧ elT Try.prog 28 = none ∧ zeroD Try.prog 28 = some .nilf ∧ zOk Try.prog 28 = true ∧ aggT Try.prog 29 = some false ∧ szT Try.prog 29 = some 1 ∧ elT Try.prog 29 = none ∧ zeroD Try.prog 29 = some .nilf ∧ zOk Try.prog 29 = true ∧ aggT Try.prog 30 = some false ∧ szT Try.prog 30 = some 1 ∧ elT Try.prog 30 = none ∧ zeroD Try.prog 30 = some .nilf ∧ zOk Try.prog 30 = true ∧ aggT Try.prog 31 = some false ∧ szT Try.prog 31 = some 1 ∧ elT Try.prog 31 = none) ∧
    (zeroD Try.prog 31 = some .nilf ∧ zOk Try.prog 31 = true ∧ aggT Try.prog 32 = some false ∧ szT Try.prog 32 = some 1 ∧ elT Try.prog 32 = none ∧ zeroD Try.prog 32 = some .nilf ∧ zOk Try.prog 32 = true ∧ aggT Try.prog 33 = some true ∧ szT Try.prog 33 = some 3 ∧ byT Try.prog 33 = some 56 ∧ elT Try.prog 33 = none ∧ zeroD Try.prog 33 = some (.agg [.nils, .nils, (.int .u64 0)]) ∧ zOk Try.prog 33 = true ∧ allSz Try.prog 33 = true ∧ fldT Try.prog 33 0 = some (0, 1) ∧ fldT Try.prog 33 1 = some (1, 1) ∧ fldT Try.prog 33 2 = some (2, 1) ∧ aggT Try.prog 34 = some true ∧ szT Try.prog 34 = some 3 ∧ byT Try.prog 34 = some 56 ∧ elT Try.prog 34 = none ∧ zeroD Try.prog 34 = some (.agg [.nils, .nils, (.int .u64 0)]) ∧ zOk Try.prog 34 = true ∧ allSz Try.prog 34 = true ∧ fldT Try.prog 34 0 = some (0, 1) ∧ fldT Try.prog 34 1 = some (1, 1) ∧ fldT Try.prog 34 2 = some (2, 1) ∧ aggT Try.prog 35 = some false ∧ szT Try.prog 35 = some 1 ∧ elT Try.prog 35 = none ∧ zeroD Try.prog 35 = some .nilf ∧ zOk Try.prog 35 = true ∧ aggT Try.prog 36 = some false ∧ szT Try.prog 36 = some 1 ∧ byT Try.prog 36 = some 24 ∧ elT Try.prog 36 = some 38 ∧ zeroD Try.prog 36 = some .nils ∧ zOk Try.prog 36 = true ∧ aggT Try.prog 37 = some false ∧ szT Try.prog 37 = some 1) ∧
    (elT Try.prog 37 = none ∧ zeroD Try.prog 37 = some .nilf ∧ zOk Try.prog 37 = true ∧ aggT Try.prog 38 = some false ∧ szT Try.prog 38 = some 1 ∧ byT Try.prog 38 = some 24 ∧ elT Try.prog 38 = some 22 ∧ zeroD Try.prog 38 = some .nils ∧ zOk Try.prog 38 = true ∧ aggT Try.prog 39 = some false ∧ szT Try.prog 39 = some 1 ∧ elT Try.prog 39 = none ∧ zeroD Try.prog 39 = some .nilf ∧ zOk Try.prog 39 = true ∧ aggT Try.prog 40 = some false ∧ szT Try.prog 40 = some 1 ∧ byT Try.prog 40 = some 24 ∧ elT Try.prog 40 = some 62 ∧ zeroD Try.prog 40 = some .nils ∧ zOk Try.prog 40 = true ∧ aggT Try.prog 41 = some false ∧ szT Try.prog 41 = some 1 ∧ elT Try.prog 41 = none ∧ zeroD Try.prog 41 = some .nilf ∧ zOk Try.prog 41 = true ∧ aggT Try.prog 42 = some false ∧ szT Try.prog 42 = some 1 ∧ byT Try.prog 42 = some 24 ∧ elT Try.prog 42 = some 26 ∧ zeroD Try.prog 42 = some .nils ∧ zOk Try.prog 42 = true ∧ aggT Try.prog 43 = some false ∧ szT Try.prog 43 = some 1 ∧ byT Try.prog 43 = some 8 ∧ elT Try.prog 43 = none ∧ intT Try.prog 43 = some .i64 ∧ zeroD Try.prog 43 = some (.int .i64 0) ∧ zOk Try.prog 43 = true ∧ aggT Try.prog 45 = some false ∧ szT Try.prog 45 = some 1) ∧
    (elT Try.prog 45 = none ∧ zeroD Try.prog 45 = some .nilf ∧ zOk Try.prog 45 = true ∧ aggT Try.prog 46 = some false ∧ szT Try.prog 46 = some 1 ∧ elT Try.prog 46 = none ∧ zeroD Try.prog 46 = some .nilf ∧ zOk Try.prog 46 = true ∧ aggT Try.prog 47 = some false ∧ szT Try.prog 47 = some 1 ∧ elT Try.prog 47 = none ∧ zeroD Try.prog 47 = some .nilf ∧ zOk Try.prog 47 = true ∧ aggT Try.prog 48 = some false ∧ szT Try.prog 48 = some 1 ∧ elT Try.prog 48 = none ∧ zeroD Try.prog 48 = some .nilf ∧ zOk Try.prog 48 = true ∧ aggT Try.prog 49 = some false ∧ szT Try.prog 49 = some 1 ∧ elT Try.prog 49 = none ∧ zeroD Try.prog 49 = some .nilf ∧ zOk Try.prog 49 = true ∧ aggT Try.prog 50 = some false ∧ szT Try.prog 50 = some 1 ∧ elT Try.prog 50 = none ∧ zeroD Try.prog 50 = some .nilf ∧ zOk Try.prog 50 = true ∧ aggT Try.prog 51 = some false ∧ szT Try.prog 51 = some 1 ∧ elT Try.prog 51 = none ∧ zeroD Try.prog 51 = some .nilf ∧ zOk Try.prog 51 = true ∧ aggT Try.prog 52 = some false ∧ szT Try.prog 52 = some 1 ∧ elT Try.prog 52 = none ∧ zeroD Try.prog 52 = some .nilf ∧ zOk Try.prog 52 = true ∧ aggT Try.prog 54 = some false ∧ szT Try.prog 54 = some 1) ∧
    (elT Try.prog 54 = none ∧ zeroD Try.prog 54 = some .nilf ∧ zOk Try.prog 54 = true ∧ aggT Try.prog 55 = some false ∧ szT Try.prog 55 = some 1 ∧ elT Try.prog 55 = none ∧ zeroD Try.prog 55 = some .nilf ∧ zOk Try.prog 55 = true ∧ aggT Try.prog 56 = some false ∧ szT Try.prog 56 = some 1 ∧ elT Try.prog 56 = none ∧ zeroD Try.prog 56 = some .nilf ∧ zOk Try.prog 56 = true ∧ aggT Try.prog 57 = some false ∧ szT Try.prog 57 = some 1 ∧ elT Try.prog 57 = none ∧ zeroD Try.prog 57 = some .nilf ∧ zOk Try.prog 57 = true ∧ aggT Try.prog 58 = some false ∧ szT Try.prog 58 = some 1 ∧ elT Try.prog 58 = none ∧ zeroD Try.prog 58 = some .nilf ∧ zOk Try.prog 58 = true ∧ aggT Try.prog 59 = some false ∧ szT Try.prog 59 = some 1 ∧ elT Try.prog 59 = none ∧ zeroD Try.prog 59 = some .nilf ∧ zOk Try.prog 59 = true ∧ aggT Try.prog 60 = some false ∧ szT Try.prog 60 = some 1 ∧ byT Try.prog 60 = some 24 ∧ elT Try.prog 60 = some 64 ∧ zeroD Try.prog 60 = some .nils ∧ zOk Try.prog 60 = true ∧ aggT Try.prog 61 = some true ∧ szT Try.prog 61 = some 2 ∧ byT Try.prog 61 = some 32 ∧ elT Try.prog 61 = none ∧ zeroD Try.prog 61 = some (.agg [(.bool false), .nils]) ∧ zOk Try.prog 61 = true) ∧
    (allSz Try.prog 61 = true ∧ fldT Try.prog 61 0 = some (0, 1) ∧ fldT Try.prog 61 1 = some (1, 1) ∧ aggT Try.prog 62 = some true ∧ szT Try.prog 62 = some 2 ∧ byT Try.prog 62 = some 32 ∧ elT Try.prog 62 = none ∧ zeroD Try.prog 62 = some (.agg [(.bool false), .nils]) ∧ zOk Try.prog 62 = true ∧ allSz Try.prog 62 = true ∧ fldT Try.prog 62 0 = some (0, 1) ∧ fldT Try.prog 62 1 = some (1, 1) ∧ aggT Try.prog 63 = some true ∧ szT Try.prog 63 = some 2 ∧ byT Try.prog 63 = some 16 ∧ elT Try.prog 63 = none ∧ zeroD Try.prog 63 = some (.agg [(.int .i64 0), (.int .i64 0)]) ∧ zOk Try.prog 63 = true ∧ allSz Try.prog 63 = true ∧ fldT Try.prog 63 0 = some (0, 1) ∧ fldT Try.prog 63 1 = some (1, 1) ∧ aggT Try.prog 64 = some true ∧ szT Try.prog 64 = some 2 ∧ byT Try.prog 64 = some 16 ∧ elT Try.prog 64 = none ∧ zeroD Try.prog 64 = some (.agg [(.int .i64 0), (.int .i64 0)]) ∧ zOk Try.prog 64 = true ∧ allSz Try.prog 64 = true ∧ fldT Try.prog 64 0 = some (0, 1) ∧ fldT Try.prog 64 1 = some (1, 1) ∧ aggT Try.prog 65 = some false ∧ szT Try.prog 65 = some 1 ∧ elT Try.prog 65 = none ∧ zeroD Try.prog 65 = some .nilf ∧ zOk Try.prog 65 = true ∧ aggT Try.prog 66 = some false ∧ szT Try.prog 66 = some 1 ∧ elT Try.prog 66 = none ∧ zeroD Try.prog 66 = some .nilf ∧ zOk Try.prog 66 = true) ∧
    (aggT Try.prog 67 = some false ∧ szT Try.prog 67 = some 1 ∧ elT Try.prog 67 = none ∧ zeroD Try.prog 67 = some .nilf ∧ zOk Try.prog 67 = true ∧ aggT Try.prog 68 = some false ∧ szT Try.prog 68 = some 1 ∧ elT Try.prog 68 = none ∧ zeroD Try.prog 68 = some .nilf ∧ zOk Try.prog 68 = true ∧ aggT Try.prog 69 = some false ∧ szT Try.prog 69 = some 1 ∧ elT Try.prog 69 = none ∧ zeroD Try.prog 69 = some .nilf ∧ zOk Try.prog 69 = true ∧ aggT Try.prog 70 = some false ∧ szT Try.prog 70 = some 1 ∧ elT Try.prog 70 = none ∧ zeroD Try.prog 70 = some .nilf ∧ zOk Try.prog 70 = true ∧ aggT Try.prog 71 = some false ∧ szT Try.prog 71 = some 1 ∧ elT Try.prog 71 = none ∧ zeroD Try.prog 71 = some .nilf ∧ zOk Try.prog 71 = true ∧ aggT Try.prog 72 = some false ∧ szT Try.prog 72 = some 1 ∧ elT Try.prog 72 = none ∧ zeroD Try.prog 72 = some .nilf ∧ zOk Try.prog 72 = true ∧ aggT Try.prog 73 = some false ∧ szT Try.prog 73 = some 1 ∧ elT Try.prog 73 = none ∧ zeroD Try.prog 73 = some .nilf ∧ zOk Try.prog 73 = true ∧ aggT Try.prog 74 = some false ∧ szT Try.prog 74 = some 1 ∧ elT Try.prog 74 = none ∧ zeroD Try.prog 74 = some .nilf ∧ zOk Try.prog 74 = true) ∧
    (aggT Try.prog 76 = some false ∧ szT Try.prog 76 = some 1 ∧ elT Try.prog 76 = none ∧ zeroD Try.prog 76 = some .nilf ∧ zOk Try.prog 76 = true ∧ aggT Try.prog 77 = some false ∧ szT Try.prog 77 = some 1 ∧ byT Try.prog 77 = some 24 ∧ elT Try.prog 77 = some 80 ∧ zeroD Try.prog 77 = some .nils ∧ zOk Try.prog 77 = true ∧ aggT Try.prog 78 = some false ∧ szT Try.prog 78 = some 1 ∧ elT Try.prog 78 = none ∧ zeroD Try.prog 78 = some .nilf ∧ zOk Try.prog 78 = true ∧ aggT Try.prog 79 = some false ∧ szT Try.prog 79 = some 1 ∧ elT Try.prog 79 = none ∧ zeroD Try.prog 79 = some .nilf ∧ zOk Try.prog 79 = true ∧ aggT Try.prog 80 = some false ∧ szT Try.prog 80 = some 1 ∧ byT Try.prog 80 = some 24 ∧ elT Try.prog 80 = some 82 ∧ zeroD Try.prog 80 = some .nils ∧ zOk Try.prog 80 = true ∧ aggT Try.prog 81 = some true ∧ szT Try.prog 81 = some 4 ∧ byT Try.prog 81 = some 48 ∧ elT Try.prog 81 = none ∧ zeroD Try.prog 81 = some (.agg [(.int .i64 0), .nils, (.bool false), (.int .u64 0)]) ∧ zOk Try.prog 81 = true ∧ allSz Try.prog 81 = true ∧ fldT Try.prog 81 0 = some (0, 1) ∧ fldT Try.prog 81 1 = some (1, 1) ∧ fldT Try.prog 81 2 = some (2, 1) ∧ fldT Try.prog 81 3 = some (3, 1) ∧ aggT Try.prog 82 = some true ∧ szT Try.prog 82 = some 4) ∧
    (byT Try.prog 82 = some 48 ∧ elT Try.prog 82 = none ∧ zeroD Try.prog 82 = some (.agg [(.int .i64 0), .nils, (.bool false), (.int .u64 0)]) ∧ zOk Try.prog 82 = true ∧ allSz Try.prog 82 = true ∧ fldT Try.prog 82 0 = some (0, 1) ∧ fldT Try.prog 82 1 = some (1, 1) ∧ fldT Try.prog 82 2 = some (2, 1) ∧ fldT Try.prog 82 3 = some (3, 1) ∧ aggT Try.prog 83 = some false ∧ szT Try.prog 83 = some 1 ∧ elT Try.prog 83 = none ∧ zeroD Try.prog 83 = some .nilf ∧ zOk Try.prog 83 = true ∧ aggT Try.prog 84 = some false ∧ szT Try.prog 84 = some 1 ∧ elT Try.prog 84 = none ∧ aggT Try.prog 85 = some false ∧ szT Try.prog 85 = some 1 ∧ elT Try.prog 85 = none ∧ zeroD Try.prog 85 = some .nilf ∧ zOk Try.prog 85 = true ∧ aggT Try.prog 87 = some false ∧ szT Try.prog 87 = some 1 ∧ elT Try.prog 87 = none ∧ zeroD Try.prog 87 = some .nilf ∧ zOk Try.prog 87 = true ∧ aggT Try.prog 88 = some false ∧ szT Try.prog 88 = some 1 ∧ elT Try.prog 88 = none ∧ zeroD Try.prog 88 = some .nilf ∧ zOk Try.prog 88 = true ∧ aggT Try.prog 89 = some false ∧ szT Try.prog 89 = some 1 ∧ elT Try.prog 89 = none ∧ zeroD Try.prog 89 = some .nilf ∧ zOk Try.prog 89 = true ∧ aggT Try.prog 90 = some false ∧ szT Try.prog 90 = some 1 ∧ elT Try.prog 90 = none) ∧
    (zeroD Try.prog 90 = some .nilf ∧ zOk Try.prog 90 = true ∧ aggT Try.prog 91 = some false ∧ szT Try.prog 91 = some 1 ∧ elT Try.prog 91 = none ∧ zeroD Try.prog 91 = some .nilf ∧ zOk Try.prog 91 = true ∧ aggT Try.prog 92 = some false ∧ szT Try.prog 92 = some 1 ∧ elT Try.prog 92 = none ∧ zeroD Try.prog 92 = some .nilf ∧ zOk Try.prog 92 = true ∧ aggT Try.prog 93 = some false ∧ szT Try.prog 93 = some 1 ∧ elT Try.prog 93 = none ∧ zeroD Try.prog 93 = some .nilf ∧ zOk Try.prog 93 = true ∧ aggT Try.prog 94 = some false ∧ szT Try.prog 94 = some 1 ∧ elT Try.prog 94 = none ∧ zeroD Try.prog 94 = some .nilf ∧ zOk Try.prog 94 = true ∧ aggT Try.prog 95 = some false ∧ szT Try.prog 95 = some 1 ∧ elT Try.prog 95 = none ∧ zeroD Try.prog 95 = some .nilf ∧ zOk Try.prog 95 = true ∧ aggT Try.prog 96 = some false ∧ szT Try.prog 96 = some 1 ∧ elT Try.prog 96 = none ∧ zeroD Try.prog 96 = some .nilf ∧ zOk Try.prog 96 = true ∧ aggT Try.prog 97 = some false ∧ szT Try.prog 97 = some 1 ∧ elT Try.prog 97 = none ∧ zeroD Try.prog 97 = some .nilf ∧ zOk Try.prog 97 = true ∧ aggT Try.prog 98 = some false ∧ szT Try.prog 98 = some 1 ∧ elT Try.prog 98 = none) ∧
    (zeroD Try.prog 98 = some .nilf ∧ zOk Try.prog 98 = true ∧ aggT Try.prog 99 = some false ∧ szT Try.prog 99 = some 1 ∧ elT Try.prog 99 = none ∧ zeroD Try.prog 99 = some .nilf ∧ zOk Try.prog 99 = true ∧ aggT Try.prog 100 = some false ∧ szT Try.prog 100 = some 1 ∧ elT Try.prog 100 = none ∧ zeroD Try.prog 100 = some .nilf ∧ zOk Try.prog 100 = true ∧ aggT Try.prog 101 = some false ∧ szT Try.prog 101 = some 1 ∧ elT Try.prog 101 = none ∧ zeroD Try.prog 101 = some .nilf ∧ zOk Try.prog 101 = true ∧ aggT Try.prog 102 = some false ∧ szT Try.prog 102 = some 1 ∧ elT Try.prog 102 = none ∧ zeroD Try.prog 102 = some .nilf ∧ zOk Try.prog 102 = true ∧ aggT Try.prog 103 = some false ∧ szT Try.prog 103 = some 1 ∧ elT Try.prog 103 = none ∧ zeroD Try.prog 103 = some .nilf ∧ zOk Try.prog 103 = true ∧ aggT Try.prog 104 = some false ∧ szT Try.prog 104 = some 1 ∧ elT Try.prog 104 = none ∧ zeroD Try.prog 104 = some .nilf ∧ zOk Try.prog 104 = true ∧ aggT Try.prog 105 = some false ∧ szT Try.prog 105 = some 1 ∧ elT Try.prog 105 = none ∧ mapT Try.prog 105 = some (110, 22) ∧ aggT Try.prog 106 = some true ∧ szT Try.prog 106 = some 8 ∧ byT Try.prog 106 = some 64 ∧ elT Try.prog 106 = none) ∧
    (arrT Try.prog 106 = some (8, 3) ∧ zeroD Try.prog 106 = some (.agg [(.int .i64 0), (.int .i64 0), (.int .i64 0), (.int .i64 0), (.int .i64 0), (.int .i64 0), (.int .i64 0), (.int .i64 0)]) ∧ zOk Try.prog 106 = true ∧ aggT Try.prog 107 = some true ∧ szT Try.prog 107 = some 9 ∧ byT Try.prog 107 = some 72 ∧ elT Try.prog 107 = none ∧ zeroD Try.prog 107 = some (.agg [(.int .i64 0), (.int .i64 0), (.int .i64 0), (.int .i64 0), (.int .i64 0), (.int .i64 0), (.int .i64 0), (.int .i64 0), (.int .i64 0)]) ∧ zOk Try.prog 107 = true ∧ allSz Try.prog 107 = true ∧ fldT Try.prog 107 0 = some (0, 1) ∧ fldT Try.prog 107 1 = some (1, 8) ∧ aggT Try.prog 108 = some true ∧ szT Try.prog 108 = some 9 ∧ byT Try.prog 108 = some 72 ∧ elT Try.prog 108 = none ∧ zeroD Try.prog 108 = some (.agg [(.int .i64 0), (.int .i64 0), (.int .i64 0), (.int .i64 0), (.int .i64 0), (.int .i64 0), (.int .i64 0), (.int .i64 0), (.int .i64 0)]) ∧ zOk Try.prog 108 = true ∧ allSz Try.prog 108 = true ∧ fldT Try.prog 108 0 = some (0, 1) ∧ fldT Try.prog 108 1 = some (1, 8) ∧ aggT Try.prog 109 = some true ∧ szT Try.prog 109 = some 18 ∧ byT Try.prog 109 = some 144 ∧ elT Try.prog 109 = none ∧ zeroD Try.prog 109 = some (.agg [(.int .i64 0), (.int .i64 0), (.int .i64 0), (.int .i64 0), (.int .i64 0), (.int .i64 0), (.int .i64 0), (.int .i64 0), (.int .i64 0), (.int .i64 0), (.int .i64 0), (.int .i64 0), (.int .i64 0), (.int .i64 0), (.int .i64 0), (.int .i64 0), (.int .i64 0), (.int .i64 0)]) ∧ zOk Try.prog 109 = true ∧ allSz Try.prog 109 = true ∧ fldT Try.prog 109 0 = some (0, 9) ∧ fldT Try.prog 109 1 = some (9, 9) ∧ aggT Try.prog 110 = some true ∧ szT Try.prog 110 = some 18 ∧ byT Try.prog 110 = some 144 ∧ elT Try.prog 110 = none ∧ zeroD Try.prog 110 = some (.agg [(.int .i64 0), (.int .i64 0), (.int .i64 0), (.int .i64 0), (.int .i64 0), (.int .i64 0), (.int .i64 0), (.int .i64 0), (.int .i64 0), (.int .i64 0), (.int .i64 0), (.int .i64 0), (.int .i64 0), (.int .i64 0), (.int .i64 0), (.int .i64 0), (.int .i64 0), (.int .i64 0)]) ∧ zOk Try.prog 110 = true ∧ allSz Try.prog 110 = true ∧ fldT Try.prog 110 0 = some (0, 9) ∧ fldT Try.prog 110 1 = some (9, 9) ∧ aggT Try.prog 112 = some false) ∧
    (szT Try.prog 112 = some 1 ∧ elT Try.prog 112 = none ∧ zeroD Try.prog 112 = some .nilf ∧ zOk Try.prog 112 = true ∧ aggT Try.prog 114 = some false ∧ szT Try.prog 114 = some 1 ∧ elT Try.prog 114 = none ∧ zeroD Try.prog 114 = some .nilf ∧ zOk Try.prog 114 = true ∧ aggT Try.prog 115 = some false ∧ szT Try.prog 115 = some 1 ∧ elT Try.prog 115 = none ∧ zeroD Try.prog 115 = some .nilf ∧ zOk Try.prog 115 = true ∧ aggT Try.prog 116 = some false ∧ szT Try.prog 116 = some 1 ∧ elT Try.prog 116 = none ∧ zeroD Try.prog 116 = some .nilf ∧ zOk Try.prog 116 = true ∧ aggT Try.prog 117 = some false ∧ szT Try.prog 117 = some 1 ∧ elT Try.prog 117 = none ∧ zeroD Try.prog 117 = some .nilf ∧ zOk Try.prog 117 = true ∧ aggT Try.prog 118 = some false ∧ szT Try.prog 118 = some 1 ∧ elT Try.prog 118 = none ∧ zeroD Try.prog 118 = some .nilf ∧ zOk Try.prog 118 = true ∧ aggT Try.prog 119 = some false ∧ szT Try.prog 119 = some 1 ∧ byT Try.prog 119 = some 8 ∧ elT Try.prog 119 = none ∧ intT Try.prog 119 = some .u64 ∧ zeroD Try.prog 119 = some (.int .u64 0) ∧ zOk Try.prog 119 = true ∧ aggT Try.prog 121 = some false ∧ szT Try.prog 121 = some 1 ∧ elT Try.prog 121 = none ∧ zeroD Try.prog 121 = some .nilf) ∧
    (zOk Try.prog 121 = true ∧ aggT Try.prog 122 = some false ∧ szT Try.prog 122 = some 1 ∧ byT Try.prog 122 = some 24 ∧ elT Try.prog 122 = some 5 ∧ zeroD Try.prog 122 = some .nils ∧ zOk Try.prog 122 = true ∧ aggT Try.prog 124 = some false ∧ szT Try.prog 124 = some 1 ∧ elT Try.prog 124 = none ∧ zeroD Try.prog 124 = some .nilf ∧ zOk Try.prog 124 = true ∧ aggT Try.prog 125 = some false ∧ szT Try.prog 125 = some 1 ∧ elT Try.prog 125 = none ∧ mapT Try.prog 125 = some (64, 3) ∧ aggT Try.prog 126 = some false ∧ szT Try.prog 126 = some 1 ∧ elT Try.prog 126 = none ∧ aggT Try.prog 127 = some true ∧ szT Try.prog 127 = some 4 ∧ byT Try.prog 127 = some 80 ∧ elT Try.prog 127 = none ∧ zeroD Try.prog 127 = some (.agg [.nils, .nils, .nils, .nilf]) ∧ zOk Try.prog 127 = true ∧ allSz Try.prog 127 = true ∧ fldT Try.prog 127 0 = some (0, 1) ∧ fldT Try.prog 127 1 = some (1, 1) ∧ fldT Try.prog 127 2 = some (2, 1) ∧ fldT Try.prog 127 3 = some (3, 1) ∧ aggT Try.prog 128 = some true ∧ szT Try.prog 128 = some 4 ∧ byT Try.prog 128 = some 80 ∧ elT Try.prog 128 = none ∧ zeroD Try.prog 128 = some (.agg [.nils, .nils, .nils, .nilf]) ∧ zOk Try.prog 128 = true ∧ allSz Try.prog 128 = true ∧ fldT Try.prog 128 0 = some (0, 1) ∧ fldT Try.prog 128 1 = some (1, 1) ∧ fldT Try.prog 128 2 = some (2, 1)) ∧
    (fldT Try.prog 128 3 = some (3, 1) ∧ aggT Try.prog 129 = some false ∧ szT Try.prog 129 = some 1 ∧ elT Try.prog 129 = none ∧ zeroD Try.prog 129 = some .nilf ∧ zOk Try.prog 129 = true ∧ aggT Try.prog 130 = some false ∧ szT Try.prog 130 = some 1 ∧ elT Try.prog 130 = none ∧ zeroD Try.prog 130 = some .nilf ∧ zOk Try.prog 130 = true ∧ aggT Try.prog 131 = some false ∧ szT Try.prog 131 = some 1 ∧ elT Try.prog 131 = none ∧ zeroD Try.prog 131 = some .nilf ∧ zOk Try.prog 131 = true ∧ aggT Try.prog 132 = some false ∧ szT Try.prog 132 = some 1 ∧ elT Try.prog 132 = none ∧ zeroD Try.prog 132 = some .nilf ∧ zOk Try.prog 132 = true ∧ aggT Try.prog 133 = some false ∧ szT Try.prog 133 = some 1 ∧ elT Try.prog 133 = none ∧ zeroD Try.prog 133 = some .nilf ∧ zOk Try.prog 133 = true ∧ aggT Try.prog 135 = some false ∧ szT Try.prog 135 = some 1 ∧ elT Try.prog 135 = none ∧ zeroD Try.prog 135 = some .nilf ∧ zOk Try.prog 135 = true ∧ aggT Try.prog 136 = some false ∧ szT Try.prog 136 = some 1 ∧ elT Try.prog 136 = none ∧ zeroD Try.prog 136 = some .nilf ∧ zOk Try.prog 136 = true ∧ aggT Try.prog 137 = some false ∧ szT Try.prog 137 = some 1 ∧ elT Try.prog 137 = none ∧ zeroD Try.prog 137 = some .nilf) ∧
    (zOk Try.prog 137 = true ∧ aggT Try.prog 138 = some false ∧ szT Try.prog 138 = some 1 ∧ elT Try.prog 138 = none ∧ zeroD Try.prog 138 = some .nilf ∧ zOk Try.prog 138 = true ∧ aggT Try.prog 139 = some false ∧ szT Try.prog 139 = some 1 ∧ elT Try.prog 139 = none ∧ zeroD Try.prog 139 = some .nilf ∧ zOk Try.prog 139 = true ∧ aggT Try.prog 140 = some false ∧ szT Try.prog 140 = some 1 ∧ elT Try.prog 140 = none ∧ zeroD Try.prog 140 = some .nilf ∧ zOk Try.prog 140 = true ∧ aggT Try.prog 141 = some false ∧ szT Try.prog 141 = some 1 ∧ elT Try.prog 141 = none ∧ zeroD Try.prog 141 = some .nilf ∧ zOk Try.prog 141 = true ∧ aggT Try.prog 142 = some false ∧ szT Try.prog 142 = some 1 ∧ elT Try.prog 142 = none ∧ zeroD Try.prog 142 = some .nilf ∧ zOk Try.prog 142 = true ∧ aggT Try.prog 143 = some false ∧ szT Try.prog 143 = some 1 ∧ byT Try.prog 143 = some 4 ∧ elT Try.prog 143 = none ∧ intT Try.prog 143 = some .u32 ∧ zeroD Try.prog 143 = some (.int .u32 0) ∧ zOk Try.prog 143 = true ∧ aggT Try.prog 145 = some false ∧ szT Try.prog 145 = some 1 ∧ elT Try.prog 145 = none ∧ zeroD Try.prog 145 = some .nilf ∧ zOk Try.prog 145 = true ∧ aggT Try.prog 146 = some false ∧ szT Try.prog 146 = some 1) ∧
    (elT Try.prog 146 = none ∧ zeroD Try.prog 146 = some .nilf ∧ zOk Try.prog 146 = true ∧ aggT Try.prog 147 = some false ∧ szT Try.prog 147 = some 1 ∧ elT Try.prog 147 = none ∧ zeroD Try.prog 147 = some .nilf ∧ zOk Try.prog 147 = true ∧ aggT Try.prog 148 = some false ∧ szT Try.prog 148 = some 1 ∧ elT Try.prog 148 = none ∧ zeroD Try.prog 148 = some .nilf ∧ zOk Try.prog 148 = true ∧ aggT Try.prog 149 = some false ∧ szT Try.prog 149 = some 1 ∧ elT Try.prog 149 = none ∧ zeroD Try.prog 149 = some .nilf ∧ zOk Try.prog 149 = true ∧ aggT Try.prog 150 = some false ∧ szT Try.prog 150 = some 1 ∧ elT Try.prog 150 = none ∧ zeroD Try.prog 150 = some .nilf ∧ zOk Try.prog 150 = true ∧ aggT Try.prog 151 = some false ∧ szT Try.prog 151 = some 1 ∧ elT Try.prog 151 = none ∧ zeroD Try.prog 151 = some .nilf ∧ zOk Try.prog 151 = true ∧ aggT Try.prog 152 = some false ∧ szT Try.prog 152 = some 1 ∧ elT Try.prog 152 = none ∧ zeroD Try.prog 152 = some .nilf ∧ zOk Try.prog 152 = true ∧ aggT Try.prog 153 = some false ∧ szT Try.prog 153 = some 1 ∧ byT Try.prog 153 = some 8 ∧ elT Try.prog 153 = none ∧ intT Try.prog 153 = some .i64 ∧ zeroD Try.prog 153 = some (.int .i64 0) ∧ zOk Try.prog 153 = true) ∧
    (aggT Try.prog 155 = some false ∧ szT Try.prog 155 = some 1 ∧ elT Try.prog 155 = none ∧ zeroD Try.prog 155 = some .nilf ∧ zOk Try.prog 155 = true ∧ aggT Try.prog 156 = some false ∧ szT Try.prog 156 = some 1 ∧ elT Try.prog 156 = none ∧ zeroD Try.prog 156 = some .nilf ∧ zOk Try.prog 156 = true ∧ aggT Try.prog 157 = some false ∧ szT Try.prog 157 = some 1 ∧ elT Try.prog 157 = none ∧ zeroD Try.prog 157 = some .nilf ∧ zOk Try.prog 157 = true ∧ aggT Try.prog 158 = some false ∧ szT Try.prog 158 = some 1 ∧ elT Try.prog 158 = none ∧ zeroD Try.prog 158 = some .nilf ∧ zOk Try.prog 158 = true ∧ aggT Try.prog 159 = some false ∧ szT Try.prog 159 = some 1 ∧ elT Try.prog 159 = none ∧ zeroD Try.prog 159 = some .nilf ∧ zOk Try.prog 159 = true ∧ aggT Try.prog 160 = some false ∧ szT Try.prog 160 = some 1 ∧ elT Try.prog 160 = none ∧ zeroD Try.prog 160 = some .nilf ∧ zOk Try.prog 160 = true ∧ aggT Try.prog 161 = some false ∧ szT Try.prog 161 = some 1 ∧ elT Try.prog 161 = none ∧ zeroD Try.prog 161 = some .nilf ∧ zOk Try.prog 161 = true ∧ aggT Try.prog 162 = some false ∧ szT Try.prog 162 = some 1 ∧ elT Try.prog 162 = none ∧ zeroD Try.prog 162 = some .nilf ∧ zOk Try.prog 162 = true) ∧
    (aggT Try.prog 163 = some false ∧ szT Try.prog 163 = some 1 ∧ elT Try.prog 163 = none ∧ zeroD Try.prog 163 = some .nilf ∧ zOk Try.prog 163 = true ∧ aggT Try.prog 164 = some false ∧ szT Try.prog 164 = some 1 ∧ elT Try.prog 164 = none ∧ zeroD Try.prog 164 = some .nilf ∧ zOk Try.prog 164 = true ∧ aggT Try.prog 165 = some false ∧ szT Try.prog 165 = some 1 ∧ elT Try.prog 165 = none ∧ zeroD Try.prog 165 = some .nilf ∧ zOk Try.prog 165 = true ∧ aggT Try.prog 166 = some false ∧ szT Try.prog 166 = some 1 ∧ elT Try.prog 166 = none ∧ zeroD Try.prog 166 = some .nilf ∧ zOk Try.prog 166 = true ∧ aggT Try.prog 167 = some false ∧ szT Try.prog 167 = some 1 ∧ elT Try.prog 167 = none ∧ zeroD Try.prog 167 = some .nilf ∧ zOk Try.prog 167 = true ∧ aggT Try.prog 168 = some false ∧ szT Try.prog 168 = some 1 ∧ byT Try.prog 168 = some 8 ∧ elT Try.prog 168 = none ∧ intT Try.prog 168 = some .u64 ∧ zeroD Try.prog 168 = some (.int .u64 0) ∧ zOk Try.prog 168 = true ∧ aggT Try.prog 169 = some false ∧ szT Try.prog 169 = some 1 ∧ elT Try.prog 169 = none ∧ zeroD Try.prog 169 = some .nilf ∧ zOk Try.prog 169 = true ∧ aggT Try.prog 170 = some false ∧ szT Try.prog 170 = some 1 ∧ elT Try.prog 170 = none) ∧
    (zeroD Try.prog 170 = some .nilf ∧ zOk Try.prog 170 = true ∧ aggT Try.prog 171 = some false ∧ szT Try.prog 171 = some 1 ∧ elT Try.prog 171 = none ∧ zeroD Try.prog 171 = some .nilf ∧ zOk Try.prog 171 = true ∧ aggT Try.prog 172 = some false ∧ szT Try.prog 172 = some 1 ∧ elT Try.prog 172 = none ∧ aggT Try.prog 173 = some false ∧ szT Try.prog 173 = some 1 ∧ elT Try.prog 173 = none ∧ zeroD Try.prog 173 = some .nilf ∧ zOk Try.prog 173 = true ∧ aggT Try.prog 174 = some false ∧ szT Try.prog 174 = some 1 ∧ elT Try.prog 174 = none ∧ zeroD Try.prog 174 = some .nilf ∧ zOk Try.prog 174 = true ∧ aggT Try.prog 175 = some false ∧ szT Try.prog 175 = some 1 ∧ elT Try.prog 175 = none ∧ aggT Try.prog 177 = some false ∧ szT Try.prog 177 = some 1 ∧ elT Try.prog 177 = none ∧ zeroD Try.prog 177 = some .nilf ∧ zOk Try.prog 177 = true ∧ aggT Try.prog 178 = some false ∧ szT Try.prog 178 = some 1 ∧ elT Try.prog 178 = none ∧ zeroD Try.prog 178 = some .nilf ∧ zOk Try.prog 178 = true ∧ aggT Try.prog 179 = some false ∧ szT Try.prog 179 = some 1 ∧ elT Try.prog 179 = none ∧ zeroD Try.prog 179 = some .nilf ∧ zOk Try.prog 179 = true ∧ aggT Try.prog 180 = some false ∧ szT Try.prog 180 = some 1) ∧
    (elT Try.prog 180 = none ∧ zeroD Try.prog 180 = some .nilf ∧ zOk Try.prog 180 = true ∧ aggT Try.prog 181 = some false ∧ szT Try.prog 181 = some 1 ∧ elT Try.prog 181 = none ∧ zeroD Try.prog 181 = some .nilf ∧ zOk Try.prog 181 = true ∧ aggT Try.prog 182 = some false ∧ szT Try.prog 182 = some 1 ∧ elT Try.prog 182 = none ∧ zeroD Try.prog 182 = some .nilf ∧ zOk Try.prog 182 = true ∧ aggT Try.prog 183 = some false ∧ szT Try.prog 183 = some 1 ∧ elT Try.prog 183 = none ∧ zeroD Try.prog 183 = some .nilf ∧ zOk Try.prog 183 = true ∧ aggT Try.prog 184 = some false ∧ szT Try.prog 184 = some 1 ∧ elT Try.prog 184 = none ∧ zeroD Try.prog 184 = some .nilf ∧ zOk Try.prog 184 = true ∧ aggT Try.prog 185 = some false ∧ szT Try.prog 185 = some 1 ∧ elT Try.prog 185 = none ∧ zeroD Try.prog 185 = some .nilf ∧ zOk Try.prog 185 = true ∧ aggT Try.prog 186 = some false ∧ szT Try.prog 186 = some 1 ∧ elT Try.prog 186 = none ∧ zeroD Try.prog 186 = some .nilf ∧ zOk Try.prog 186 = true ∧ aggT Try.prog 192 = some false ∧ szT Try.prog 192 = some 1 ∧ elT Try.prog 192 = none ∧ zeroD Try.prog 192 = some .nilf ∧ zOk Try.prog 192 = true ∧ aggT Try.prog 195 = some false ∧ szT Try.prog 195 = some 1) ∧
    (elT Try.prog 195 = none ∧ zeroD Try.prog 195 = some .nilf ∧ zOk Try.prog 195 = true ∧ aggT Try.prog 196 = some false ∧ szT Try.prog 196 = some 1 ∧ elT Try.prog 196 = none) :=
  ⟨ty0, ty1, ty2, ty3, ty4, ty5, ty6, ty7, ty8, ty9, ty10, ty11, ty12, ty13, ty14, ty15, ty16, ty17, ty18, ty19, ty20, ty21, ty22, ty23⟩
end Go.Eng.Try

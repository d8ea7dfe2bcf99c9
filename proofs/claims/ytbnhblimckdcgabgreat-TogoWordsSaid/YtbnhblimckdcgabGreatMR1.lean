/- The facts on the types of this seat's program: closed equations. (and what stands behind it: texts laid together) -/
import Derived.Test.YtbnhblimckdcgabGreatProg
import Derived.Test.YtbnhblimckdcgabGreatMG3
set_option linter.unusedVariables false
namespace Go.Eng.Tryz
open Go Go.Eng Go.Proofs
theorem ty0 :
    aggT Tryz.prog 1 = some false ∧
    szT Tryz.prog 1 = some 1 ∧
    elT Tryz.prog 1 = none ∧
    zeroD Tryz.prog 1 = some .nilf ∧
    zOk Tryz.prog 1 = true ∧
    aggT Tryz.prog 2 = some false ∧
    szT Tryz.prog 2 = some 1 ∧
    byT Tryz.prog 2 = some 8 ∧
    elT Tryz.prog 2 = none ∧
    intT Tryz.prog 2 = some .i64 ∧
    zeroD Tryz.prog 2 = some (.int .i64 0) ∧
    zOk Tryz.prog 2 = true ∧
    aggT Tryz.prog 3 = some false ∧
    szT Tryz.prog 3 = some 1 ∧
    byT Tryz.prog 3 = some 8 ∧
    elT Tryz.prog 3 = none ∧
    intT Tryz.prog 3 = some .i64 ∧
    zeroD Tryz.prog 3 = some (.int .i64 0) ∧
    zOk Tryz.prog 3 = true ∧
    aggT Tryz.prog 4 = some false ∧
    szT Tryz.prog 4 = some 1 ∧
    byT Tryz.prog 4 = some 1 ∧
    elT Tryz.prog 4 = none ∧
    isBoolT Tryz.prog 4 = true ∧
    zeroD Tryz.prog 4 = some (.bool false) ∧
    zOk Tryz.prog 4 = true ∧
    aggT Tryz.prog 5 = some false ∧
    szT Tryz.prog 5 = some 1 ∧
    byT Tryz.prog 5 = some 1 ∧
    elT Tryz.prog 5 = none ∧
    intT Tryz.prog 5 = some .u8 ∧
    zeroD Tryz.prog 5 = some (.int .u8 0) ∧
    zOk Tryz.prog 5 = true ∧
    aggT Tryz.prog 9 = some false ∧
    szT Tryz.prog 9 = some 1 ∧
    byT Tryz.prog 9 = some 16 ∧
    elT Tryz.prog 9 = none ∧
    isStrT Tryz.prog 9 = true ∧
    zeroD Tryz.prog 9 = some (.str ⟨#[]⟩) ∧
    zOk Tryz.prog 9 = true := by
  refine ⟨?_, ?_, ?_, ?_, ?_, ?_, ?_, ?_, ?_, ?_, ?_, ?_, ?_, ?_, ?_, ?_, ?_, ?_, ?_, ?_, ?_, ?_, ?_, ?_, ?_, ?_, ?_, ?_, ?_, ?_, ?_, ?_, ?_, ?_, ?_, ?_, ?_, ?_, ?_, ?_⟩ <;> kernel_rfl
theorem ty1 :
    aggT Tryz.prog 12 = some false ∧
    szT Tryz.prog 12 = some 1 ∧
    byT Tryz.prog 12 = some 8 ∧
    elT Tryz.prog 12 = none ∧
    intT Tryz.prog 12 = some .u64 ∧
    zeroD Tryz.prog 12 = some (.int .u64 0) ∧
    zOk Tryz.prog 12 = true ∧
    aggT Tryz.prog 21 = some false ∧
    szT Tryz.prog 21 = some 1 ∧
    byT Tryz.prog 21 = some 4 ∧
    elT Tryz.prog 21 = none ∧
    intT Tryz.prog 21 = some .i32 ∧
    zeroD Tryz.prog 21 = some (.int .i32 0) ∧
    zOk Tryz.prog 21 = true ∧
    aggT Tryz.prog 22 = some false ∧
    szT Tryz.prog 22 = some 1 ∧
    byT Tryz.prog 22 = some 8 ∧
    elT Tryz.prog 22 = none ∧
    intT Tryz.prog 22 = some .u64 ∧
    zeroD Tryz.prog 22 = some (.int .u64 0) ∧
    zOk Tryz.prog 22 = true ∧
    aggT Tryz.prog 23 = some false ∧
    szT Tryz.prog 23 = some 1 ∧
    byT Tryz.prog 23 = some 24 ∧
    elT Tryz.prog 23 = some 48 ∧
    zeroD Tryz.prog 23 = some .nils ∧
    zOk Tryz.prog 23 = true ∧
    aggT Tryz.prog 24 = some true ∧
    szT Tryz.prog 24 = some 5 ∧
    byT Tryz.prog 24 = some 56 ∧
    elT Tryz.prog 24 = none ∧
    zeroD Tryz.prog 24 = some (.agg [(.int .u64 0), (.int .u64 0), (.int .u64 0), (.int .u64 0), .nils]) ∧
    zOk Tryz.prog 24 = true ∧
    allSz Tryz.prog 24 = true ∧
    fldT Tryz.prog 24 0 = some (0, 1) ∧
    fldT Tryz.prog 24 1 = some (1, 1) ∧
    fldT Tryz.prog 24 2 = some (2, 1) ∧
    fldT Tryz.prog 24 3 = some (3, 1) ∧
    fldT Tryz.prog 24 4 = some (4, 1) ∧
    aggT Tryz.prog 25 = some true := by
  refine ⟨?_, ?_, ?_, ?_, ?_, ?_, ?_, ?_, ?_, ?_, ?_, ?_, ?_, ?_, ?_, ?_, ?_, ?_, ?_, ?_, ?_, ?_, ?_, ?_, ?_, ?_, ?_, ?_, ?_, ?_, ?_, ?_, ?_, ?_, ?_, ?_, ?_, ?_, ?_, ?_⟩ <;> kernel_rfl
theorem ty2 :
    szT Tryz.prog 25 = some 5 ∧
    byT Tryz.prog 25 = some 56 ∧
    elT Tryz.prog 25 = none ∧
    zeroD Tryz.prog 25 = some (.agg [(.int .u64 0), (.int .u64 0), (.int .u64 0), (.int .u64 0), .nils]) ∧
    zOk Tryz.prog 25 = true ∧
    allSz Tryz.prog 25 = true ∧
    fldT Tryz.prog 25 0 = some (0, 1) ∧
    fldT Tryz.prog 25 1 = some (1, 1) ∧
    fldT Tryz.prog 25 2 = some (2, 1) ∧
    fldT Tryz.prog 25 3 = some (3, 1) ∧
    fldT Tryz.prog 25 4 = some (4, 1) ∧
    aggT Tryz.prog 26 = some false ∧
    szT Tryz.prog 26 = some 1 ∧
    byT Tryz.prog 26 = some 24 ∧
    elT Tryz.prog 26 = some 3 ∧
    zeroD Tryz.prog 26 = some .nils ∧
    zOk Tryz.prog 26 = true ∧
    aggT Tryz.prog 27 = some false ∧
    szT Tryz.prog 27 = some 1 ∧
    byT Tryz.prog 27 = some 24 ∧
    elT Tryz.prog 27 = some 58 ∧
    zeroD Tryz.prog 27 = some .nils ∧
    zOk Tryz.prog 27 = true ∧
    aggT Tryz.prog 28 = some false ∧
    szT Tryz.prog 28 = some 1 ∧
    elT Tryz.prog 28 = none ∧
    zeroD Tryz.prog 28 = some .nilf ∧
    zOk Tryz.prog 28 = true ∧
    aggT Tryz.prog 29 = some false ∧
    szT Tryz.prog 29 = some 1 ∧
    elT Tryz.prog 29 = none ∧
    zeroD Tryz.prog 29 = some .nilf ∧
    zOk Tryz.prog 29 = true ∧
    aggT Tryz.prog 30 = some false ∧
    szT Tryz.prog 30 = some 1 ∧
    elT Tryz.prog 30 = none ∧
    zeroD Tryz.prog 30 = some .nilf ∧
    zOk Tryz.prog 30 = true ∧
    aggT Tryz.prog 31 = some false ∧
    szT Tryz.prog 31 = some 1 := by
  refine ⟨?_, ?_, ?_, ?_, ?_, ?_, ?_, ?_, ?_, ?_, ?_, ?_, ?_, ?_, ?_, ?_, ?_, ?_, ?_, ?_, ?_, ?_, ?_, ?_, ?_, ?_, ?_, ?_, ?_, ?_, ?_, ?_, ?_, ?_, ?_, ?_, ?_, ?_, ?_, ?_⟩ <;> kernel_rfl
theorem ty3 :
    elT Tryz.prog 31 = none ∧
    zeroD Tryz.prog 31 = some .nilf ∧
    zOk Tryz.prog 31 = true ∧
    aggT Tryz.prog 32 = some false ∧
    szT Tryz.prog 32 = some 1 ∧
    elT Tryz.prog 32 = none ∧
    zeroD Tryz.prog 32 = some .nilf ∧
    zOk Tryz.prog 32 = true ∧
    aggT Tryz.prog 33 = some false ∧
    szT Tryz.prog 33 = some 1 ∧
    byT Tryz.prog 33 = some 24 ∧
    elT Tryz.prog 33 = some 26 ∧
    zeroD Tryz.prog 33 = some .nils ∧
    zOk Tryz.prog 33 = true ∧
    aggT Tryz.prog 34 = some false ∧
    szT Tryz.prog 34 = some 1 ∧
    byT Tryz.prog 34 = some 8 ∧
    elT Tryz.prog 34 = none ∧
    intT Tryz.prog 34 = some .i64 ∧
    zeroD Tryz.prog 34 = some (.int .i64 0) ∧
    zOk Tryz.prog 34 = true ∧
    aggT Tryz.prog 36 = some false ∧
    szT Tryz.prog 36 = some 1 ∧
    elT Tryz.prog 36 = none ∧
    zeroD Tryz.prog 36 = some .nilf ∧
    zOk Tryz.prog 36 = true ∧
    aggT Tryz.prog 37 = some false ∧
    szT Tryz.prog 37 = some 1 ∧
    elT Tryz.prog 37 = none ∧
    zeroD Tryz.prog 37 = some .nilf ∧
    zOk Tryz.prog 37 = true ∧
    aggT Tryz.prog 38 = some false ∧
    szT Tryz.prog 38 = some 1 ∧
    byT Tryz.prog 38 = some 24 ∧
    elT Tryz.prog 38 = some 40 ∧
    zeroD Tryz.prog 38 = some .nils ∧
    zOk Tryz.prog 38 = true ∧
    aggT Tryz.prog 39 = some false ∧
    szT Tryz.prog 39 = some 1 ∧
    elT Tryz.prog 39 = none := by
  refine ⟨?_, ?_, ?_, ?_, ?_, ?_, ?_, ?_, ?_, ?_, ?_, ?_, ?_, ?_, ?_, ?_, ?_, ?_, ?_, ?_, ?_, ?_, ?_, ?_, ?_, ?_, ?_, ?_, ?_, ?_, ?_, ?_, ?_, ?_, ?_, ?_, ?_, ?_, ?_, ?_⟩ <;> kernel_rfl
theorem ty4 :
    zeroD Tryz.prog 39 = some .nilf ∧
    zOk Tryz.prog 39 = true ∧
    aggT Tryz.prog 40 = some false ∧
    szT Tryz.prog 40 = some 1 ∧
    byT Tryz.prog 40 = some 24 ∧
    elT Tryz.prog 40 = some 22 ∧
    zeroD Tryz.prog 40 = some .nils ∧
    zOk Tryz.prog 40 = true ∧
    aggT Tryz.prog 42 = some false ∧
    szT Tryz.prog 42 = some 1 ∧
    elT Tryz.prog 42 = none ∧
    zeroD Tryz.prog 42 = some .nilf ∧
    zOk Tryz.prog 42 = true ∧
    aggT Tryz.prog 44 = some false ∧
    szT Tryz.prog 44 = some 1 ∧
    elT Tryz.prog 44 = none ∧
    zeroD Tryz.prog 44 = some .nilf ∧
    zOk Tryz.prog 44 = true ∧
    aggT Tryz.prog 45 = some false ∧
    szT Tryz.prog 45 = some 1 ∧
    elT Tryz.prog 45 = none ∧
    zeroD Tryz.prog 45 = some .nilf ∧
    zOk Tryz.prog 45 = true ∧
    aggT Tryz.prog 46 = some false ∧
    szT Tryz.prog 46 = some 1 ∧
    elT Tryz.prog 46 = none ∧
    zeroD Tryz.prog 46 = some .nilf ∧
    zOk Tryz.prog 46 = true ∧
    aggT Tryz.prog 47 = some true ∧
    szT Tryz.prog 47 = some 3 ∧
    byT Tryz.prog 47 = some 56 ∧
    elT Tryz.prog 47 = none ∧
    zeroD Tryz.prog 47 = some (.agg [.nils, .nils, (.int .u64 0)]) ∧
    zOk Tryz.prog 47 = true ∧
    allSz Tryz.prog 47 = true ∧
    fldT Tryz.prog 47 0 = some (0, 1) ∧
    fldT Tryz.prog 47 1 = some (1, 1) ∧
    fldT Tryz.prog 47 2 = some (2, 1) ∧
    aggT Tryz.prog 48 = some true ∧
    szT Tryz.prog 48 = some 3 := by
  refine ⟨?_, ?_, ?_, ?_, ?_, ?_, ?_, ?_, ?_, ?_, ?_, ?_, ?_, ?_, ?_, ?_, ?_, ?_, ?_, ?_, ?_, ?_, ?_, ?_, ?_, ?_, ?_, ?_, ?_, ?_, ?_, ?_, ?_, ?_, ?_, ?_, ?_, ?_, ?_, ?_⟩ <;> kernel_rfl
theorem ty5 :
    byT Tryz.prog 48 = some 56 ∧
    elT Tryz.prog 48 = none ∧
    zeroD Tryz.prog 48 = some (.agg [.nils, .nils, (.int .u64 0)]) ∧
    zOk Tryz.prog 48 = true ∧
    allSz Tryz.prog 48 = true ∧
    fldT Tryz.prog 48 0 = some (0, 1) ∧
    fldT Tryz.prog 48 1 = some (1, 1) ∧
    fldT Tryz.prog 48 2 = some (2, 1) ∧
    aggT Tryz.prog 49 = some false ∧
    szT Tryz.prog 49 = some 1 ∧
    elT Tryz.prog 49 = none ∧
    zeroD Tryz.prog 49 = some .nilf ∧
    zOk Tryz.prog 49 = true ∧
    aggT Tryz.prog 50 = some false ∧
    szT Tryz.prog 50 = some 1 ∧
    elT Tryz.prog 50 = none ∧
    zeroD Tryz.prog 50 = some .nilf ∧
    zOk Tryz.prog 50 = true ∧
    aggT Tryz.prog 51 = some false ∧
    szT Tryz.prog 51 = some 1 ∧
    elT Tryz.prog 51 = none ∧
    zeroD Tryz.prog 51 = some .nilf ∧
    zOk Tryz.prog 51 = true ∧
    aggT Tryz.prog 52 = some false ∧
    szT Tryz.prog 52 = some 1 ∧
    elT Tryz.prog 52 = none ∧
    zeroD Tryz.prog 52 = some .nilf ∧
    zOk Tryz.prog 52 = true ∧
    aggT Tryz.prog 53 = some false ∧
    szT Tryz.prog 53 = some 1 ∧
    elT Tryz.prog 53 = none ∧
    zeroD Tryz.prog 53 = some .nilf ∧
    zOk Tryz.prog 53 = true ∧
    aggT Tryz.prog 54 = some false ∧
    szT Tryz.prog 54 = some 1 ∧
    elT Tryz.prog 54 = none ∧
    zeroD Tryz.prog 54 = some .nilf ∧
    zOk Tryz.prog 54 = true ∧
    aggT Tryz.prog 55 = some false ∧
    szT Tryz.prog 55 = some 1 := by
  refine ⟨?_, ?_, ?_, ?_, ?_, ?_, ?_, ?_, ?_, ?_, ?_, ?_, ?_, ?_, ?_, ?_, ?_, ?_, ?_, ?_, ?_, ?_, ?_, ?_, ?_, ?_, ?_, ?_, ?_, ?_, ?_, ?_, ?_, ?_, ?_, ?_, ?_, ?_, ?_, ?_⟩ <;> kernel_rfl
theorem ty6 :
    elT Tryz.prog 55 = none ∧
    zeroD Tryz.prog 55 = some .nilf ∧
    zOk Tryz.prog 55 = true ∧
    aggT Tryz.prog 56 = some false ∧
    szT Tryz.prog 56 = some 1 ∧
    byT Tryz.prog 56 = some 24 ∧
    elT Tryz.prog 56 = some 60 ∧
    zeroD Tryz.prog 56 = some .nils ∧
    zOk Tryz.prog 56 = true ∧
    aggT Tryz.prog 57 = some true ∧
    szT Tryz.prog 57 = some 2 ∧
    byT Tryz.prog 57 = some 32 ∧
    elT Tryz.prog 57 = none ∧
    zeroD Tryz.prog 57 = some (.agg [(.bool false), .nils]) ∧
    zOk Tryz.prog 57 = true ∧
    allSz Tryz.prog 57 = true ∧
    fldT Tryz.prog 57 0 = some (0, 1) ∧
    fldT Tryz.prog 57 1 = some (1, 1) ∧
    aggT Tryz.prog 58 = some true ∧
    szT Tryz.prog 58 = some 2 ∧
    byT Tryz.prog 58 = some 32 ∧
    elT Tryz.prog 58 = none ∧
    zeroD Tryz.prog 58 = some (.agg [(.bool false), .nils]) ∧
    zOk Tryz.prog 58 = true ∧
    allSz Tryz.prog 58 = true ∧
    fldT Tryz.prog 58 0 = some (0, 1) ∧
    fldT Tryz.prog 58 1 = some (1, 1) ∧
    aggT Tryz.prog 59 = some true ∧
    szT Tryz.prog 59 = some 2 ∧
    byT Tryz.prog 59 = some 16 ∧
    elT Tryz.prog 59 = none ∧
    zeroD Tryz.prog 59 = some (.agg [(.int .i64 0), (.int .i64 0)]) ∧
    zOk Tryz.prog 59 = true ∧
    allSz Tryz.prog 59 = true ∧
    fldT Tryz.prog 59 0 = some (0, 1) ∧
    fldT Tryz.prog 59 1 = some (1, 1) ∧
    aggT Tryz.prog 60 = some true ∧
    szT Tryz.prog 60 = some 2 ∧
    byT Tryz.prog 60 = some 16 ∧
    elT Tryz.prog 60 = none := by
  refine ⟨?_, ?_, ?_, ?_, ?_, ?_, ?_, ?_, ?_, ?_, ?_, ?_, ?_, ?_, ?_, ?_, ?_, ?_, ?_, ?_, ?_, ?_, ?_, ?_, ?_, ?_, ?_, ?_, ?_, ?_, ?_, ?_, ?_, ?_, ?_, ?_, ?_, ?_, ?_, ?_⟩ <;> kernel_rfl
theorem ty7 :
    zeroD Tryz.prog 60 = some (.agg [(.int .i64 0), (.int .i64 0)]) ∧
    zOk Tryz.prog 60 = true ∧
    allSz Tryz.prog 60 = true ∧
    fldT Tryz.prog 60 0 = some (0, 1) ∧
    fldT Tryz.prog 60 1 = some (1, 1) ∧
    aggT Tryz.prog 61 = some false ∧
    szT Tryz.prog 61 = some 1 ∧
    elT Tryz.prog 61 = none ∧
    zeroD Tryz.prog 61 = some .nilf ∧
    zOk Tryz.prog 61 = true ∧
    aggT Tryz.prog 62 = some false ∧
    szT Tryz.prog 62 = some 1 ∧
    elT Tryz.prog 62 = none ∧
    zeroD Tryz.prog 62 = some .nilf ∧
    zOk Tryz.prog 62 = true ∧
    aggT Tryz.prog 63 = some false ∧
    szT Tryz.prog 63 = some 1 ∧
    elT Tryz.prog 63 = none ∧
    zeroD Tryz.prog 63 = some .nilf ∧
    zOk Tryz.prog 63 = true ∧
    aggT Tryz.prog 64 = some false ∧
    szT Tryz.prog 64 = some 1 ∧
    elT Tryz.prog 64 = none ∧
    zeroD Tryz.prog 64 = some .nilf ∧
    zOk Tryz.prog 64 = true ∧
    aggT Tryz.prog 65 = some false ∧
    szT Tryz.prog 65 = some 1 ∧
    elT Tryz.prog 65 = none ∧
    zeroD Tryz.prog 65 = some .nilf ∧
    zOk Tryz.prog 65 = true ∧
    aggT Tryz.prog 66 = some false ∧
    szT Tryz.prog 66 = some 1 ∧
    elT Tryz.prog 66 = none ∧
    zeroD Tryz.prog 66 = some .nilf ∧
    zOk Tryz.prog 66 = true ∧
    aggT Tryz.prog 67 = some false ∧
    szT Tryz.prog 67 = some 1 ∧
    elT Tryz.prog 67 = none ∧
    zeroD Tryz.prog 67 = some .nilf ∧
    zOk Tryz.prog 67 = true := by
  refine ⟨?_, ?_, ?_, ?_, ?_, ?_, ?_, ?_, ?_, ?_, ?_, ?_, ?_, ?_, ?_, ?_, ?_, ?_, ?_, ?_, ?_, ?_, ?_, ?_, ?_, ?_, ?_, ?_, ?_, ?_, ?_, ?_, ?_, ?_, ?_, ?_, ?_, ?_, ?_, ?_⟩ <;> kernel_rfl
theorem ty8 :
    aggT Tryz.prog 68 = some false ∧
    szT Tryz.prog 68 = some 1 ∧
    byT Tryz.prog 68 = some 24 ∧
    elT Tryz.prog 68 = some 70 ∧
    zeroD Tryz.prog 68 = some .nils ∧
    zOk Tryz.prog 68 = true ∧
    aggT Tryz.prog 69 = some false ∧
    szT Tryz.prog 69 = some 1 ∧
    elT Tryz.prog 69 = none ∧
    zeroD Tryz.prog 69 = some .nilf ∧
    zOk Tryz.prog 69 = true ∧
    aggT Tryz.prog 70 = some false ∧
    szT Tryz.prog 70 = some 1 ∧
    byT Tryz.prog 70 = some 24 ∧
    elT Tryz.prog 70 = some 72 ∧
    zeroD Tryz.prog 70 = some .nils ∧
    zOk Tryz.prog 70 = true ∧
    aggT Tryz.prog 71 = some true ∧
    szT Tryz.prog 71 = some 4 ∧
    byT Tryz.prog 71 = some 48 ∧
    elT Tryz.prog 71 = none ∧
    zeroD Tryz.prog 71 = some (.agg [(.int .i64 0), .nils, (.bool false), (.int .u64 0)]) ∧
    zOk Tryz.prog 71 = true ∧
    allSz Tryz.prog 71 = true ∧
    fldT Tryz.prog 71 0 = some (0, 1) ∧
    fldT Tryz.prog 71 1 = some (1, 1) ∧
    fldT Tryz.prog 71 2 = some (2, 1) ∧
    fldT Tryz.prog 71 3 = some (3, 1) ∧
    aggT Tryz.prog 72 = some true ∧
    szT Tryz.prog 72 = some 4 ∧
    byT Tryz.prog 72 = some 48 ∧
    elT Tryz.prog 72 = none ∧
    zeroD Tryz.prog 72 = some (.agg [(.int .i64 0), .nils, (.bool false), (.int .u64 0)]) ∧
    zOk Tryz.prog 72 = true ∧
    allSz Tryz.prog 72 = true ∧
    fldT Tryz.prog 72 0 = some (0, 1) ∧
    fldT Tryz.prog 72 1 = some (1, 1) ∧
    fldT Tryz.prog 72 2 = some (2, 1) ∧
    fldT Tryz.prog 72 3 = some (3, 1) ∧
    aggT Tryz.prog 73 = some false := by
  refine ⟨?_, ?_, ?_, ?_, ?_, ?_, ?_, ?_, ?_, ?_, ?_, ?_, ?_, ?_, ?_, ?_, ?_, ?_, ?_, ?_, ?_, ?_, ?_, ?_, ?_, ?_, ?_, ?_, ?_, ?_, ?_, ?_, ?_, ?_, ?_, ?_, ?_, ?_, ?_, ?_⟩ <;> kernel_rfl
theorem ty9 :
    szT Tryz.prog 73 = some 1 ∧
    elT Tryz.prog 73 = none ∧
    zeroD Tryz.prog 73 = some .nilf ∧
    zOk Tryz.prog 73 = true ∧
    aggT Tryz.prog 74 = some false ∧
    szT Tryz.prog 74 = some 1 ∧
    elT Tryz.prog 74 = none ∧
    zeroD Tryz.prog 74 = some .nilf ∧
    zOk Tryz.prog 74 = true ∧
    aggT Tryz.prog 75 = some false ∧
    szT Tryz.prog 75 = some 1 ∧
    elT Tryz.prog 75 = none ∧
    zeroD Tryz.prog 75 = some .nilf ∧
    zOk Tryz.prog 75 = true ∧
    aggT Tryz.prog 76 = some false ∧
    szT Tryz.prog 76 = some 1 ∧
    elT Tryz.prog 76 = none ∧
    zeroD Tryz.prog 76 = some .nilf ∧
    zOk Tryz.prog 76 = true ∧
    aggT Tryz.prog 77 = some false ∧
    szT Tryz.prog 77 = some 1 ∧
    byT Tryz.prog 77 = some 24 ∧
    elT Tryz.prog 77 = some 5 ∧
    zeroD Tryz.prog 77 = some .nils ∧
    zOk Tryz.prog 77 = true ∧
    aggT Tryz.prog 79 = some false ∧
    szT Tryz.prog 79 = some 1 ∧
    elT Tryz.prog 79 = none ∧
    zeroD Tryz.prog 79 = some .nilf ∧
    zOk Tryz.prog 79 = true ∧
    aggT Tryz.prog 80 = some false ∧
    szT Tryz.prog 80 = some 1 ∧
    elT Tryz.prog 80 = none ∧
    mapT Tryz.prog 80 = some (60, 3) ∧
    aggT Tryz.prog 81 = some false ∧
    szT Tryz.prog 81 = some 1 ∧
    elT Tryz.prog 81 = none ∧
    zeroD Tryz.prog 81 = some .nilf ∧
    zOk Tryz.prog 81 = true ∧
    aggT Tryz.prog 82 = some false := by
  refine ⟨?_, ?_, ?_, ?_, ?_, ?_, ?_, ?_, ?_, ?_, ?_, ?_, ?_, ?_, ?_, ?_, ?_, ?_, ?_, ?_, ?_, ?_, ?_, ?_, ?_, ?_, ?_, ?_, ?_, ?_, ?_, ?_, ?_, ?_, ?_, ?_, ?_, ?_, ?_, ?_⟩ <;> kernel_rfl
theorem ty10 :
    szT Tryz.prog 82 = some 1 ∧
    elT Tryz.prog 82 = none ∧
    zeroD Tryz.prog 82 = some .nilf ∧
    zOk Tryz.prog 82 = true ∧
    aggT Tryz.prog 83 = some false ∧
    szT Tryz.prog 83 = some 1 ∧
    elT Tryz.prog 83 = none ∧
    zeroD Tryz.prog 83 = some .nilf ∧
    zOk Tryz.prog 83 = true ∧
    aggT Tryz.prog 84 = some false ∧
    szT Tryz.prog 84 = some 1 ∧
    elT Tryz.prog 84 = none ∧
    mapT Tryz.prog 84 = some (89, 22) ∧
    aggT Tryz.prog 85 = some true ∧
    szT Tryz.prog 85 = some 8 ∧
    byT Tryz.prog 85 = some 64 ∧
    elT Tryz.prog 85 = none ∧
    arrT Tryz.prog 85 = some (8, 3) ∧
    zeroD Tryz.prog 85 = some (.agg [(.int .i64 0), (.int .i64 0), (.int .i64 0), (.int .i64 0), (.int .i64 0), (.int .i64 0), (.int .i64 0), (.int .i64 0)]) ∧
    zOk Tryz.prog 85 = true ∧
    aggT Tryz.prog 86 = some true ∧
    szT Tryz.prog 86 = some 9 ∧
    byT Tryz.prog 86 = some 72 ∧
    elT Tryz.prog 86 = none ∧
    zeroD Tryz.prog 86 = some (.agg [(.int .i64 0), (.int .i64 0), (.int .i64 0), (.int .i64 0), (.int .i64 0), (.int .i64 0), (.int .i64 0), (.int .i64 0), (.int .i64 0)]) ∧
    zOk Tryz.prog 86 = true ∧
    allSz Tryz.prog 86 = true ∧
    fldT Tryz.prog 86 0 = some (0, 1) ∧
    fldT Tryz.prog 86 1 = some (1, 8) ∧
    aggT Tryz.prog 87 = some true ∧
    szT Tryz.prog 87 = some 9 ∧
    byT Tryz.prog 87 = some 72 ∧
    elT Tryz.prog 87 = none ∧
    zeroD Tryz.prog 87 = some (.agg [(.int .i64 0), (.int .i64 0), (.int .i64 0), (.int .i64 0), (.int .i64 0), (.int .i64 0), (.int .i64 0), (.int .i64 0), (.int .i64 0)]) ∧
    zOk Tryz.prog 87 = true ∧
    allSz Tryz.prog 87 = true ∧
    fldT Tryz.prog 87 0 = some (0, 1) ∧
    fldT Tryz.prog 87 1 = some (1, 8) ∧
    aggT Tryz.prog 88 = some true ∧
    szT Tryz.prog 88 = some 18 := by
  refine ⟨?_, ?_, ?_, ?_, ?_, ?_, ?_, ?_, ?_, ?_, ?_, ?_, ?_, ?_, ?_, ?_, ?_, ?_, ?_, ?_, ?_, ?_, ?_, ?_, ?_, ?_, ?_, ?_, ?_, ?_, ?_, ?_, ?_, ?_, ?_, ?_, ?_, ?_, ?_, ?_⟩ <;> kernel_rfl
theorem ty11 :
    byT Tryz.prog 88 = some 144 ∧
    elT Tryz.prog 88 = none ∧
    zeroD Tryz.prog 88 = some (.agg [(.int .i64 0), (.int .i64 0), (.int .i64 0), (.int .i64 0), (.int .i64 0), (.int .i64 0), (.int .i64 0), (.int .i64 0), (.int .i64 0), (.int .i64 0), (.int .i64 0), (.int .i64 0), (.int .i64 0), (.int .i64 0), (.int .i64 0), (.int .i64 0), (.int .i64 0), (.int .i64 0)]) ∧
    zOk Tryz.prog 88 = true ∧
    allSz Tryz.prog 88 = true ∧
    fldT Tryz.prog 88 0 = some (0, 9) ∧
    fldT Tryz.prog 88 1 = some (9, 9) ∧
    aggT Tryz.prog 89 = some true ∧
    szT Tryz.prog 89 = some 18 ∧
    byT Tryz.prog 89 = some 144 ∧
    elT Tryz.prog 89 = none ∧
    zeroD Tryz.prog 89 = some (.agg [(.int .i64 0), (.int .i64 0), (.int .i64 0), (.int .i64 0), (.int .i64 0), (.int .i64 0), (.int .i64 0), (.int .i64 0), (.int .i64 0), (.int .i64 0), (.int .i64 0), (.int .i64 0), (.int .i64 0), (.int .i64 0), (.int .i64 0), (.int .i64 0), (.int .i64 0), (.int .i64 0)]) ∧
    zOk Tryz.prog 89 = true ∧
    allSz Tryz.prog 89 = true ∧
    fldT Tryz.prog 89 0 = some (0, 9) ∧
    fldT Tryz.prog 89 1 = some (9, 9) ∧
    aggT Tryz.prog 91 = some false ∧
    szT Tryz.prog 91 = some 1 ∧
    elT Tryz.prog 91 = none ∧
    zeroD Tryz.prog 91 = some .nilf ∧
    zOk Tryz.prog 91 = true ∧
    aggT Tryz.prog 93 = some false ∧
    szT Tryz.prog 93 = some 1 ∧
    elT Tryz.prog 93 = none ∧
    zeroD Tryz.prog 93 = some .nilf ∧
    zOk Tryz.prog 93 = true ∧
    aggT Tryz.prog 94 = some false ∧
    szT Tryz.prog 94 = some 1 ∧
    elT Tryz.prog 94 = none ∧
    zeroD Tryz.prog 94 = some .nilf ∧
    zOk Tryz.prog 94 = true ∧
    aggT Tryz.prog 95 = some false ∧
    szT Tryz.prog 95 = some 1 ∧
    elT Tryz.prog 95 = none ∧
    zeroD Tryz.prog 95 = some .nilf ∧
    zOk Tryz.prog 95 = true ∧
    aggT Tryz.prog 96 = some false ∧
    szT Tryz.prog 96 = some 1 ∧
    elT Tryz.prog 96 = none ∧
    zeroD Tryz.prog 96 = some .nilf := by
  refine ⟨?_, ?_, ?_, ?_, ?_, ?_, ?_, ?_, ?_, ?_, ?_, ?_, ?_, ?_, ?_, ?_, ?_, ?_, ?_, ?_, ?_, ?_, ?_, ?_, ?_, ?_, ?_, ?_, ?_, ?_, ?_, ?_, ?_, ?_, ?_, ?_, ?_, ?_, ?_, ?_⟩ <;> kernel_rfl
theorem ty12 :
    zOk Tryz.prog 96 = true ∧
    aggT Tryz.prog 97 = some false ∧
    szT Tryz.prog 97 = some 1 ∧
    elT Tryz.prog 97 = none ∧
    zeroD Tryz.prog 97 = some .nilf ∧
    zOk Tryz.prog 97 = true ∧
    aggT Tryz.prog 98 = some false ∧
    szT Tryz.prog 98 = some 1 ∧
    elT Tryz.prog 98 = none ∧
    zeroD Tryz.prog 98 = some .nilf ∧
    zOk Tryz.prog 98 = true ∧
    aggT Tryz.prog 99 = some false ∧
    szT Tryz.prog 99 = some 1 ∧
    elT Tryz.prog 99 = none ∧
    zeroD Tryz.prog 99 = some .nilf ∧
    zOk Tryz.prog 99 = true ∧
    aggT Tryz.prog 100 = some false ∧
    szT Tryz.prog 100 = some 1 ∧
    elT Tryz.prog 100 = none ∧
    zeroD Tryz.prog 100 = some .nilf ∧
    zOk Tryz.prog 100 = true ∧
    aggT Tryz.prog 101 = some false ∧
    szT Tryz.prog 101 = some 1 ∧
    elT Tryz.prog 101 = none ∧
    zeroD Tryz.prog 101 = some .nilf ∧
    zOk Tryz.prog 101 = true ∧
    aggT Tryz.prog 102 = some false ∧
    szT Tryz.prog 102 = some 1 ∧
    elT Tryz.prog 102 = none ∧
    zeroD Tryz.prog 102 = some .nilf ∧
    zOk Tryz.prog 102 = true ∧
    aggT Tryz.prog 103 = some false ∧
    szT Tryz.prog 103 = some 1 ∧
    elT Tryz.prog 103 = none ∧
    zeroD Tryz.prog 103 = some .nilf ∧
    zOk Tryz.prog 103 = true ∧
    aggT Tryz.prog 104 = some false ∧
    szT Tryz.prog 104 = some 1 ∧
    elT Tryz.prog 104 = none ∧
    aggT Tryz.prog 105 = some false := by
  refine ⟨?_, ?_, ?_, ?_, ?_, ?_, ?_, ?_, ?_, ?_, ?_, ?_, ?_, ?_, ?_, ?_, ?_, ?_, ?_, ?_, ?_, ?_, ?_, ?_, ?_, ?_, ?_, ?_, ?_, ?_, ?_, ?_, ?_, ?_, ?_, ?_, ?_, ?_, ?_, ?_⟩ <;> kernel_rfl
theorem ty13 :
    szT Tryz.prog 105 = some 1 ∧
    elT Tryz.prog 105 = none ∧
    zeroD Tryz.prog 105 = some .nilf ∧
    zOk Tryz.prog 105 = true ∧
    aggT Tryz.prog 106 = some false ∧
    szT Tryz.prog 106 = some 1 ∧
    elT Tryz.prog 106 = none ∧
    zeroD Tryz.prog 106 = some .nilf ∧
    zOk Tryz.prog 106 = true ∧
    aggT Tryz.prog 108 = some false ∧
    szT Tryz.prog 108 = some 1 ∧
    elT Tryz.prog 108 = none ∧
    zeroD Tryz.prog 108 = some .nilf ∧
    zOk Tryz.prog 108 = true ∧
    aggT Tryz.prog 109 = some false ∧
    szT Tryz.prog 109 = some 1 ∧
    elT Tryz.prog 109 = none ∧
    zeroD Tryz.prog 109 = some .nilf ∧
    zOk Tryz.prog 109 = true ∧
    aggT Tryz.prog 110 = some false ∧
    szT Tryz.prog 110 = some 1 ∧
    elT Tryz.prog 110 = none ∧
    zeroD Tryz.prog 110 = some .nilf ∧
    zOk Tryz.prog 110 = true ∧
    aggT Tryz.prog 111 = some false ∧
    szT Tryz.prog 111 = some 1 ∧
    elT Tryz.prog 111 = none ∧
    zeroD Tryz.prog 111 = some .nilf ∧
    zOk Tryz.prog 111 = true ∧
    aggT Tryz.prog 112 = some false ∧
    szT Tryz.prog 112 = some 1 ∧
    elT Tryz.prog 112 = none ∧
    zeroD Tryz.prog 112 = some .nilf ∧
    zOk Tryz.prog 112 = true ∧
    aggT Tryz.prog 113 = some false ∧
    szT Tryz.prog 113 = some 1 ∧
    elT Tryz.prog 113 = none ∧
    zeroD Tryz.prog 113 = some .nilf ∧
    zOk Tryz.prog 113 = true ∧
    aggT Tryz.prog 114 = some false := by
  refine ⟨?_, ?_, ?_, ?_, ?_, ?_, ?_, ?_, ?_, ?_, ?_, ?_, ?_, ?_, ?_, ?_, ?_, ?_, ?_, ?_, ?_, ?_, ?_, ?_, ?_, ?_, ?_, ?_, ?_, ?_, ?_, ?_, ?_, ?_, ?_, ?_, ?_, ?_, ?_, ?_⟩ <;> kernel_rfl
theorem ty14 :
    szT Tryz.prog 114 = some 1 ∧
    elT Tryz.prog 114 = none ∧
    zeroD Tryz.prog 114 = some .nilf ∧
    zOk Tryz.prog 114 = true ∧
    aggT Tryz.prog 116 = some false ∧
    szT Tryz.prog 116 = some 1 ∧
    elT Tryz.prog 116 = none ∧
    zeroD Tryz.prog 116 = some .nilf ∧
    zOk Tryz.prog 116 = true ∧
    aggT Tryz.prog 117 = some false ∧
    szT Tryz.prog 117 = some 1 ∧
    elT Tryz.prog 117 = none ∧
    zeroD Tryz.prog 117 = some .nilf ∧
    zOk Tryz.prog 117 = true ∧
    aggT Tryz.prog 118 = some false ∧
    szT Tryz.prog 118 = some 1 ∧
    elT Tryz.prog 118 = none ∧
    zeroD Tryz.prog 118 = some .nilf ∧
    zOk Tryz.prog 118 = true ∧
    aggT Tryz.prog 119 = some false ∧
    szT Tryz.prog 119 = some 1 ∧
    byT Tryz.prog 119 = some 8 ∧
    elT Tryz.prog 119 = none ∧
    intT Tryz.prog 119 = some .u64 ∧
    zeroD Tryz.prog 119 = some (.int .u64 0) ∧
    zOk Tryz.prog 119 = true ∧
    aggT Tryz.prog 120 = some false ∧
    szT Tryz.prog 120 = some 1 ∧
    elT Tryz.prog 120 = none ∧
    zeroD Tryz.prog 120 = some .nilf ∧
    zOk Tryz.prog 120 = true ∧
    aggT Tryz.prog 121 = some false ∧
    szT Tryz.prog 121 = some 1 ∧
    elT Tryz.prog 121 = none ∧
    zeroD Tryz.prog 121 = some .nilf ∧
    zOk Tryz.prog 121 = true ∧
    aggT Tryz.prog 122 = some false ∧
    szT Tryz.prog 122 = some 1 ∧
    elT Tryz.prog 122 = none ∧
    aggT Tryz.prog 123 = some true := by
  refine ⟨?_, ?_, ?_, ?_, ?_, ?_, ?_, ?_, ?_, ?_, ?_, ?_, ?_, ?_, ?_, ?_, ?_, ?_, ?_, ?_, ?_, ?_, ?_, ?_, ?_, ?_, ?_, ?_, ?_, ?_, ?_, ?_, ?_, ?_, ?_, ?_, ?_, ?_, ?_, ?_⟩ <;> kernel_rfl
theorem ty15 :
    szT Tryz.prog 123 = some 4 ∧
    byT Tryz.prog 123 = some 80 ∧
    elT Tryz.prog 123 = none ∧
    zeroD Tryz.prog 123 = some (.agg [.nils, .nils, .nils, .nilf]) ∧
    zOk Tryz.prog 123 = true ∧
    allSz Tryz.prog 123 = true ∧
    fldT Tryz.prog 123 0 = some (0, 1) ∧
    fldT Tryz.prog 123 1 = some (1, 1) ∧
    fldT Tryz.prog 123 2 = some (2, 1) ∧
    fldT Tryz.prog 123 3 = some (3, 1) ∧
    aggT Tryz.prog 124 = some true ∧
    szT Tryz.prog 124 = some 4 ∧
    byT Tryz.prog 124 = some 80 ∧
    elT Tryz.prog 124 = none ∧
    zeroD Tryz.prog 124 = some (.agg [.nils, .nils, .nils, .nilf]) ∧
    zOk Tryz.prog 124 = true ∧
    allSz Tryz.prog 124 = true ∧
    fldT Tryz.prog 124 0 = some (0, 1) ∧
    fldT Tryz.prog 124 1 = some (1, 1) ∧
    fldT Tryz.prog 124 2 = some (2, 1) ∧
    fldT Tryz.prog 124 3 = some (3, 1) ∧
    aggT Tryz.prog 125 = some false ∧
    szT Tryz.prog 125 = some 1 ∧
    elT Tryz.prog 125 = none ∧
    zeroD Tryz.prog 125 = some .nilf ∧
    zOk Tryz.prog 125 = true ∧
    aggT Tryz.prog 127 = some false ∧
    szT Tryz.prog 127 = some 1 ∧
    elT Tryz.prog 127 = none ∧
    zeroD Tryz.prog 127 = some .nilf ∧
    zOk Tryz.prog 127 = true ∧
    aggT Tryz.prog 128 = some false ∧
    szT Tryz.prog 128 = some 1 ∧
    elT Tryz.prog 128 = none ∧
    zeroD Tryz.prog 128 = some .nilf ∧
    zOk Tryz.prog 128 = true ∧
    aggT Tryz.prog 129 = some false ∧
    szT Tryz.prog 129 = some 1 ∧
    elT Tryz.prog 129 = none ∧
    zeroD Tryz.prog 129 = some .nilf := by
  refine ⟨?_, ?_, ?_, ?_, ?_, ?_, ?_, ?_, ?_, ?_, ?_, ?_, ?_, ?_, ?_, ?_, ?_, ?_, ?_, ?_, ?_, ?_, ?_, ?_, ?_, ?_, ?_, ?_, ?_, ?_, ?_, ?_, ?_, ?_, ?_, ?_, ?_, ?_, ?_, ?_⟩ <;> kernel_rfl
theorem ty16 :
    zOk Tryz.prog 129 = true ∧
    aggT Tryz.prog 130 = some false ∧
    szT Tryz.prog 130 = some 1 ∧
    elT Tryz.prog 130 = none ∧
    zeroD Tryz.prog 130 = some .nilf ∧
    zOk Tryz.prog 130 = true ∧
    aggT Tryz.prog 131 = some false ∧
    szT Tryz.prog 131 = some 1 ∧
    elT Tryz.prog 131 = none ∧
    zeroD Tryz.prog 131 = some .nilf ∧
    zOk Tryz.prog 131 = true ∧
    aggT Tryz.prog 132 = some false ∧
    szT Tryz.prog 132 = some 1 ∧
    elT Tryz.prog 132 = none ∧
    zeroD Tryz.prog 132 = some .nilf ∧
    zOk Tryz.prog 132 = true ∧
    aggT Tryz.prog 133 = some false ∧
    szT Tryz.prog 133 = some 1 ∧
    elT Tryz.prog 133 = none ∧
    zeroD Tryz.prog 133 = some .nilf ∧
    zOk Tryz.prog 133 = true ∧
    aggT Tryz.prog 134 = some false ∧
    szT Tryz.prog 134 = some 1 ∧
    elT Tryz.prog 134 = none ∧
    zeroD Tryz.prog 134 = some .nilf ∧
    zOk Tryz.prog 134 = true ∧
    aggT Tryz.prog 135 = some false ∧
    szT Tryz.prog 135 = some 1 ∧
    elT Tryz.prog 135 = none ∧
    zeroD Tryz.prog 135 = some .nilf ∧
    zOk Tryz.prog 135 = true ∧
    aggT Tryz.prog 136 = some false ∧
    szT Tryz.prog 136 = some 1 ∧
    elT Tryz.prog 136 = none ∧
    zeroD Tryz.prog 136 = some .nilf ∧
    zOk Tryz.prog 136 = true ∧
    aggT Tryz.prog 137 = some false ∧
    szT Tryz.prog 137 = some 1 ∧
    elT Tryz.prog 137 = none ∧
    zeroD Tryz.prog 137 = some .nilf := by
  refine ⟨?_, ?_, ?_, ?_, ?_, ?_, ?_, ?_, ?_, ?_, ?_, ?_, ?_, ?_, ?_, ?_, ?_, ?_, ?_, ?_, ?_, ?_, ?_, ?_, ?_, ?_, ?_, ?_, ?_, ?_, ?_, ?_, ?_, ?_, ?_, ?_, ?_, ?_, ?_, ?_⟩ <;> kernel_rfl
theorem ty17 :
    zOk Tryz.prog 137 = true ∧
    aggT Tryz.prog 138 = some false ∧
    szT Tryz.prog 138 = some 1 ∧
    byT Tryz.prog 138 = some 8 ∧
    elT Tryz.prog 138 = none ∧
    intT Tryz.prog 138 = some .i64 ∧
    zeroD Tryz.prog 138 = some (.int .i64 0) ∧
    zOk Tryz.prog 138 = true ∧
    aggT Tryz.prog 140 = some false ∧
    szT Tryz.prog 140 = some 1 ∧
    elT Tryz.prog 140 = none ∧
    zeroD Tryz.prog 140 = some .nilf ∧
    zOk Tryz.prog 140 = true ∧
    aggT Tryz.prog 141 = some false ∧
    szT Tryz.prog 141 = some 1 ∧
    elT Tryz.prog 141 = none ∧
    zeroD Tryz.prog 141 = some .nilf ∧
    zOk Tryz.prog 141 = true ∧
    aggT Tryz.prog 142 = some false ∧
    szT Tryz.prog 142 = some 1 ∧
    elT Tryz.prog 142 = none ∧
    zeroD Tryz.prog 142 = some .nilf ∧
    zOk Tryz.prog 142 = true ∧
    aggT Tryz.prog 143 = some false ∧
    szT Tryz.prog 143 = some 1 ∧
    elT Tryz.prog 143 = none ∧
    zeroD Tryz.prog 143 = some .nilf ∧
    zOk Tryz.prog 143 = true ∧
    aggT Tryz.prog 144 = some false ∧
    szT Tryz.prog 144 = some 1 ∧
    elT Tryz.prog 144 = none ∧
    zeroD Tryz.prog 144 = some .nilf ∧
    zOk Tryz.prog 144 = true ∧
    aggT Tryz.prog 145 = some false ∧
    szT Tryz.prog 145 = some 1 ∧
    byT Tryz.prog 145 = some 4 ∧
    elT Tryz.prog 145 = none ∧
    intT Tryz.prog 145 = some .u32 ∧
    zeroD Tryz.prog 145 = some (.int .u32 0) ∧
    zOk Tryz.prog 145 = true := by
  refine ⟨?_, ?_, ?_, ?_, ?_, ?_, ?_, ?_, ?_, ?_, ?_, ?_, ?_, ?_, ?_, ?_, ?_, ?_, ?_, ?_, ?_, ?_, ?_, ?_, ?_, ?_, ?_, ?_, ?_, ?_, ?_, ?_, ?_, ?_, ?_, ?_, ?_, ?_, ?_, ?_⟩ <;> kernel_rfl
theorem ty18 :
    aggT Tryz.prog 146 = some false ∧
    szT Tryz.prog 146 = some 1 ∧
    elT Tryz.prog 146 = none ∧
    zeroD Tryz.prog 146 = some .nilf ∧
    zOk Tryz.prog 146 = true ∧
    aggT Tryz.prog 147 = some false ∧
    szT Tryz.prog 147 = some 1 ∧
    elT Tryz.prog 147 = none ∧
    zeroD Tryz.prog 147 = some .nilf ∧
    zOk Tryz.prog 147 = true ∧
    aggT Tryz.prog 149 = some false ∧
    szT Tryz.prog 149 = some 1 ∧
    elT Tryz.prog 149 = none ∧
    zeroD Tryz.prog 149 = some .nilf ∧
    zOk Tryz.prog 149 = true ∧
    aggT Tryz.prog 150 = some false ∧
    szT Tryz.prog 150 = some 1 ∧
    elT Tryz.prog 150 = none ∧
    zeroD Tryz.prog 150 = some .nilf ∧
    zOk Tryz.prog 150 = true ∧
    aggT Tryz.prog 151 = some false ∧
    szT Tryz.prog 151 = some 1 ∧
    elT Tryz.prog 151 = none ∧
    zeroD Tryz.prog 151 = some .nilf ∧
    zOk Tryz.prog 151 = true ∧
    aggT Tryz.prog 152 = some false ∧
    szT Tryz.prog 152 = some 1 ∧
    elT Tryz.prog 152 = none ∧
    zeroD Tryz.prog 152 = some .nilf ∧
    zOk Tryz.prog 152 = true ∧
    aggT Tryz.prog 153 = some false ∧
    szT Tryz.prog 153 = some 1 ∧
    elT Tryz.prog 153 = none ∧
    zeroD Tryz.prog 153 = some .nilf ∧
    zOk Tryz.prog 153 = true ∧
    aggT Tryz.prog 154 = some false ∧
    szT Tryz.prog 154 = some 1 ∧
    byT Tryz.prog 154 = some 8 ∧
    elT Tryz.prog 154 = none ∧
    intT Tryz.prog 154 = some .u64 := by
  refine ⟨?_, ?_, ?_, ?_, ?_, ?_, ?_, ?_, ?_, ?_, ?_, ?_, ?_, ?_, ?_, ?_, ?_, ?_, ?_, ?_, ?_, ?_, ?_, ?_, ?_, ?_, ?_, ?_, ?_, ?_, ?_, ?_, ?_, ?_, ?_, ?_, ?_, ?_, ?_, ?_⟩ <;> kernel_rfl
theorem ty19 :
    zeroD Tryz.prog 154 = some (.int .u64 0) ∧
    zOk Tryz.prog 154 = true ∧
    aggT Tryz.prog 155 = some false ∧
    szT Tryz.prog 155 = some 1 ∧
    elT Tryz.prog 155 = none ∧
    zeroD Tryz.prog 155 = some .nilf ∧
    zOk Tryz.prog 155 = true ∧
    aggT Tryz.prog 156 = some false ∧
    szT Tryz.prog 156 = some 1 ∧
    elT Tryz.prog 156 = none ∧
    zeroD Tryz.prog 156 = some .nilf ∧
    zOk Tryz.prog 156 = true ∧
    aggT Tryz.prog 157 = some false ∧
    szT Tryz.prog 157 = some 1 ∧
    elT Tryz.prog 157 = none ∧
    zeroD Tryz.prog 157 = some .nilf ∧
    zOk Tryz.prog 157 = true ∧
    aggT Tryz.prog 158 = some false ∧
    szT Tryz.prog 158 = some 1 ∧
    elT Tryz.prog 158 = none ∧
    aggT Tryz.prog 159 = some false ∧
    szT Tryz.prog 159 = some 1 ∧
    elT Tryz.prog 159 = none ∧
    zeroD Tryz.prog 159 = some .nilf ∧
    zOk Tryz.prog 159 = true ∧
    aggT Tryz.prog 160 = some false ∧
    szT Tryz.prog 160 = some 1 ∧
    elT Tryz.prog 160 = none ∧
    zeroD Tryz.prog 160 = some .nilf ∧
    zOk Tryz.prog 160 = true ∧
    aggT Tryz.prog 161 = some false ∧
    szT Tryz.prog 161 = some 1 ∧
    elT Tryz.prog 161 = none ∧
    zeroD Tryz.prog 161 = some .nilf ∧
    zOk Tryz.prog 161 = true ∧
    aggT Tryz.prog 162 = some false ∧
    szT Tryz.prog 162 = some 1 ∧
    elT Tryz.prog 162 = none ∧
    zeroD Tryz.prog 162 = some .nilf ∧
    zOk Tryz.prog 162 = true := by
  refine ⟨?_, ?_, ?_, ?_, ?_, ?_, ?_, ?_, ?_, ?_, ?_, ?_, ?_, ?_, ?_, ?_, ?_, ?_, ?_, ?_, ?_, ?_, ?_, ?_, ?_, ?_, ?_, ?_, ?_, ?_, ?_, ?_, ?_, ?_, ?_, ?_, ?_, ?_, ?_, ?_⟩ <;> kernel_rfl
theorem ty20 :
    aggT Tryz.prog 163 = some false ∧
    szT Tryz.prog 163 = some 1 ∧
    elT Tryz.prog 163 = none ∧
    zeroD Tryz.prog 163 = some .nilf ∧
    zOk Tryz.prog 163 = true ∧
    aggT Tryz.prog 164 = some false ∧
    szT Tryz.prog 164 = some 1 ∧
    elT Tryz.prog 164 = none ∧
    zeroD Tryz.prog 164 = some .nilf ∧
    zOk Tryz.prog 164 = true ∧
    aggT Tryz.prog 165 = some false ∧
    szT Tryz.prog 165 = some 1 ∧
    elT Tryz.prog 165 = none ∧
    aggT Tryz.prog 167 = some false ∧
    szT Tryz.prog 167 = some 1 ∧
    elT Tryz.prog 167 = none ∧
    zeroD Tryz.prog 167 = some .nilf ∧
    zOk Tryz.prog 167 = true ∧
    aggT Tryz.prog 168 = some false ∧
    szT Tryz.prog 168 = some 1 ∧
    elT Tryz.prog 168 = none ∧
    zeroD Tryz.prog 168 = some .nilf ∧
    zOk Tryz.prog 168 = true ∧
    aggT Tryz.prog 169 = some false ∧
    szT Tryz.prog 169 = some 1 ∧
    elT Tryz.prog 169 = none ∧
    zeroD Tryz.prog 169 = some .nilf ∧
    zOk Tryz.prog 169 = true ∧
    aggT Tryz.prog 170 = some false ∧
    szT Tryz.prog 170 = some 1 ∧
    elT Tryz.prog 170 = none ∧
    zeroD Tryz.prog 170 = some .nilf ∧
    zOk Tryz.prog 170 = true ∧
    aggT Tryz.prog 171 = some false ∧
    szT Tryz.prog 171 = some 1 ∧
    elT Tryz.prog 171 = none ∧
    zeroD Tryz.prog 171 = some .nilf ∧
    zOk Tryz.prog 171 = true ∧
    aggT Tryz.prog 177 = some false ∧
    szT Tryz.prog 177 = some 1 := by
  refine ⟨?_, ?_, ?_, ?_, ?_, ?_, ?_, ?_, ?_, ?_, ?_, ?_, ?_, ?_, ?_, ?_, ?_, ?_, ?_, ?_, ?_, ?_, ?_, ?_, ?_, ?_, ?_, ?_, ?_, ?_, ?_, ?_, ?_, ?_, ?_, ?_, ?_, ?_, ?_, ?_⟩ <;> kernel_rfl
theorem ty21 :
    elT Tryz.prog 177 = none ∧
    zeroD Tryz.prog 177 = some .nilf ∧
    zOk Tryz.prog 177 = true ∧
    aggT Tryz.prog 180 = some false ∧
    szT Tryz.prog 180 = some 1 ∧
    elT Tryz.prog 180 = none ∧
    zeroD Tryz.prog 180 = some .nilf ∧
    zOk Tryz.prog 180 = true ∧
    aggT Tryz.prog 181 = some false ∧
    szT Tryz.prog 181 = some 1 ∧
    elT Tryz.prog 181 = none := by
  refine ⟨?_, ?_, ?_, ?_, ?_, ?_, ?_, ?_, ?_, ?_, ?_⟩ <;> kernel_rfl
theorem mixed : Tryz.prog.follows .mixedOrders = true := by kernel_rfl
theorem tys :
    (aggT Tryz.prog 1 = some false ∧ szT Tryz.prog 1 = some 1 ∧ elT Tryz.prog 1 = none ∧ zeroD Tryz.prog 1 = some .nilf ∧ zOk Tryz.prog 1 = true ∧ aggT Tryz.prog 2 = some false ∧ szT Tryz.prog 2 = some 1 ∧ byT Tryz.prog 2 = some 8 ∧ elT Tryz.prog 2 = none ∧ intT Tryz.prog 2 = some .i64 ∧ zeroD Tryz.prog 2 = some (.int .i64 0) ∧ zOk Tryz.prog 2 = true ∧ aggT Tryz.prog 3 = some false ∧ szT Tryz.prog 3 = some 1 ∧ byT Tryz.prog 3 = some 8 ∧ elT Tryz.prog 3 = none ∧ intT Tryz.prog 3 = some .i64 ∧ zeroD Tryz.prog 3 = some (.int .i64 0) ∧ zOk Tryz.prog 3 = true ∧ aggT Tryz.prog 4 = some false ∧ szT Tryz.prog 4 = some 1 ∧ byT Tryz.prog 4 = some 1 ∧ elT Tryz.prog 4 = none ∧ isBoolT Tryz.prog 4 = true ∧ zeroD Tryz.prog 4 = some (.bool false) ∧ zOk Tryz.prog 4 = true ∧ aggT Tryz.prog 5 = some false ∧ szT Tryz.prog 5 = some 1 ∧ byT Tryz.prog 5 = some 1 ∧ elT Tryz.prog 5 = none ∧ intT Tryz.prog 5 = some .u8 ∧ zeroD Tryz.prog 5 = some (.int .u8 0) ∧ zOk Tryz.prog 5 = true ∧ aggT Tryz.prog 9 = some false ∧ szT Tryz.prog 9 = some 1 ∧ byT Tryz.prog 9 = some 16 ∧ elT Tryz.prog 9 = none ∧ isStrT Tryz.prog 9 = true ∧ zeroD Tryz.prog 9 = some (.str ⟨#[]⟩) ∧ zOk Tryz.prog 9 = true) ∧
    (aggT Tryz.prog 12 = some false ∧ szT Tryz.prog 12 = some 1 ∧ byT Tryz.prog 12 = some 8 ∧ elT Tryz.prog 12 = none ∧ intT Tryz.prog 12 = some .u64 ∧ zeroD Tryz.prog 12 = some (.int .u64 0) ∧ zOk Tryz.prog 12 = true ∧ aggT Tryz.prog 21 = some false ∧ szT Tryz.prog 21 = some 1 ∧ byT Tryz.prog 21 = some 4 ∧ elT Tryz.prog 21 = none ∧ intT Tryz.prog 21 = some .i32 ∧ zeroD Tryz.prog 21 = some (.int .i32 0) ∧ zOk Tryz.prog 21 = true ∧ aggT Tryz.prog 22 = some false ∧ szT Tryz.prog 22 = some 1 ∧ byT Tryz.prog 22 = some 8 ∧ elT Tryz.prog 22 = none ∧ intT Tryz.prog 22 = some .u64 ∧ zeroD Tryz.prog 22 = some (.int .u64 0) ∧ zOk Tryz.prog 22 = true ∧ aggT Tryz.prog 23 = some false ∧ szT Tryz.prog 23 = some 1 ∧ byT Tryz.prog 23 = some 24 ∧ elT Tryz.prog 23 = some 48 ∧ zeroD Tryz.prog 23 = some .nils ∧ zOk Tryz.prog 23 = true ∧ aggT Tryz.prog 24 = some true ∧ szT Tryz.prog 24 = some 5 ∧ byT Tryz.prog 24 = some 56 ∧ elT Tryz.prog 24 = none ∧ zeroD Tryz.prog 24 = some (.agg [(.int .u64 0), (.int .u64 0), (.int .u64 0), (.int .u64 0), .nils]) ∧ zOk Tryz.prog 24 = true ∧ allSz Tryz.prog 24 = true ∧ fldT Tryz.prog 24 0 = some (0, 1) ∧ fldT Tryz.prog 24 1 = some (1, 1) ∧ fldT Tryz.prog 24 2 = some (2, 1) ∧ fldT Tryz.prog 24 3 = some (3, 1) ∧ fldT Tryz.prog 24 4 = some (4, 1) ∧ aggT Tryz.prog 25 = some true) ∧
    (szT Tryz.prog 25 = some 5 ∧ byT Tryz.prog 25 = some 56 ∧ elT Tryz.prog 25 = none ∧ zeroD Tryz.prog 25 = some (.agg [(.int .u64 0), (.int .u64 0), (.int .u64 0), (.int .u64 0), .nils]) ∧ zOk Tryz.prog 25 = true ∧ allSz Tryz.prog 25 = true ∧ fldT Tryz.prog 25 0 = some (0, 1) ∧ fldT Tryz.prog 25 1 = some (1, 1) ∧ fldT Tryz.prog 25 2 = some (2, 1) ∧ fldT Tryz.prog 25 3 = some (3, 1) ∧ fldT Tryz.prog 25 4 = some (4, 1) ∧ aggT Tryz.prog 26 = some false ∧ szT Tryz.prog 26 = some 1 ∧ byT Tryz.prog 26 = some 24 ∧ elT Tryz.prog 26 = some 3 ∧ zeroD Tryz.prog 26 = some .nils ∧ zOk Tryz.prog 26 = true ∧ aggT Tryz.prog 27 = some false ∧ szT Tryz.prog 27 = some 1 ∧ byT Tryz.prog 27 = some 24 ∧ elT Tryz.prog 27 = some 58 ∧ zeroD Tryz.prog 27 = some .nils ∧ zOk Tryz.prog 27 = true ∧ aggT Tryz.prog 28 = some false ∧ szT Tryz.prog 28 = some 1 ∧ elT Tryz.prog 28 = none ∧ zeroD Tryz.prog 28 = some .nilf ∧ zOk Tryz.prog 28 = true ∧ aggT Tryz.prog 29 = some false ∧ szT Tryz.prog 29 = some 1 ∧ elT Tryz.prog 29 = none ∧ zeroD Tryz.prog 29 = some .nilf ∧ zOk Tryz.prog 29 = true ∧ aggT Tryz.prog 30 = some false ∧ szT Tryz.prog 30 = some 1 ∧ elT Tryz.prog 30 = none ∧ zeroD Tryz.prog 30 = some .nilf ∧ zOk Tryz.prog 30 = true ∧ aggT Tryz.prog 31 = some false ∧ szT Tryz.prog 31 = some 1) ∧
    (elT Tryz.prog 31 = none ∧ zeroD Tryz.prog 31 = some .nilf ∧ zOk Tryz.prog 31 = true ∧ aggT Tryz.prog 32 = some false ∧ szT Tryz.prog 32 = some 1 ∧ elT Tryz.prog 32 = none ∧ zeroD Tryz.prog 32 = some .nilf ∧ zOk Tryz.prog 32 = true ∧ aggT Tryz.prog 33 = some false ∧ szT Tryz.prog 33 = some 1 ∧ byT Tryz.prog 33 = some 24 ∧ elT Tryz.prog 33 = some 26 ∧ zeroD Tryz.prog 33 = some .nils ∧ zOk Tryz.prog 33 = true ∧ aggT Tryz.prog 34 = some false ∧ szT Tryz.prog 34 = some 1 ∧ byT Tryz.prog 34 = some 8 ∧ elT Tryz.prog 34 = none ∧ intT Tryz.prog 34 = some .i64 ∧ zeroD Tryz.prog 34 = some (.int .i64 0) ∧ zOk Tryz.prog 34 = true ∧ aggT Tryz.prog 36 = some false ∧ szT Tryz.prog 36 = some 1 ∧ elT Tryz.prog 36 = none ∧ zeroD Tryz.prog 36 = some .nilf ∧ zOk Tryz.prog 36 = true ∧ aggT Tryz.prog 37 = some false ∧ szT Tryz.prog 37 = some 1 ∧ elT Tryz.prog 37 = none ∧ zeroD Tryz.prog 37 = some .nilf ∧ zOk Tryz.prog 37 = true ∧ aggT Tryz.prog 38 = some false ∧ szT Tryz.prog 38 = some 1 ∧ byT Tryz.prog 38 = some 24 ∧ elT Tryz.prog 38 = some 40 ∧ zeroD Tryz.prog 38 = some .nils ∧ zOk Tryz.prog 38 = true ∧ aggT Tryz.prog 39 = some false ∧ szT Tryz.prog 39 = some 1 ∧ elT Tryz.prog 39 = none) ∧
    (zeroD Tryz.prog 39 = some .nilf ∧ zOk Tryz.prog 39 = true ∧ aggT Tryz.prog 40 = some false ∧ szT Tryz.prog 40 = some 1 ∧ byT Tryz.prog 40 = some 24 ∧ elT Tryz.prog 40 = some 22 ∧ zeroD Tryz.prog 40 = some .nils ∧ zOk Tryz.prog 40 = true ∧ aggT Tryz.prog 42 = some false ∧ szT Tryz.prog 42 = some 1 ∧ elT Tryz.prog 42 = none ∧ zeroD Tryz.prog 42 = some .nilf ∧ zOk Tryz.prog 42 = true ∧ aggT Tryz.prog 44 = some false ∧ szT Tryz.prog 44 = some 1 ∧ elT Tryz.prog 44 = none ∧ zeroD Tryz.prog 44 = some .nilf ∧ zOk Tryz.prog 44 = true ∧ aggT Tryz.prog 45 = some false ∧ szT Tryz.prog 45 = some 1 ∧ elT Tryz.prog 45 = none ∧ zeroD Tryz.prog 45 = some .nilf ∧ zOk Tryz.prog 45 = true ∧ aggT Tryz.prog 46 = some false ∧ szT Tryz.prog 46 = some 1 ∧ elT Tryz.prog 46 = none ∧ zeroD Tryz.prog 46 = some .nilf ∧ zOk Tryz.prog 46 = true ∧ aggT Tryz.prog 47 = some true ∧ szT Tryz.prog 47 = some 3 ∧ byT Tryz.prog 47 = some 56 ∧ elT Tryz.prog 47 = none ∧ zeroD Tryz.prog 47 = some (.agg [.nils, .nils, (.int .u64 0)]) ∧ zOk Tryz.prog 47 = true ∧ allSz Tryz.prog 47 = true ∧ fldT Tryz.prog 47 0 = some (0, 1) ∧ fldT Tryz.prog 47 1 = some (1, 1) ∧ fldT Tryz.prog 47 2 = some (2, 1) ∧ aggT Tryz.prog 48 = some true ∧ szT Tryz.prog 48 = some 3) ∧
    (byT Tryz.prog 48 = some 56 ∧ elT Tryz.prog 48 = none ∧ zeroD Tryz.prog 48 = some (.agg [.nils, .nils, (.int .u64 0)]) ∧ zOk Tryz.prog 48 = true ∧ allSz Tryz.prog 48 = true ∧ fldT Tryz.prog 48 0 = some (0, 1) ∧ fldT Tryz.prog 48 1 = some (1, 1) ∧ fldT Tryz.prog 48 2 = some (2, 1) ∧ aggT Tryz.prog 49 = some false ∧ szT Tryz.prog 49 = some 1 ∧ elT Tryz.prog 49 = none ∧ zeroD Tryz.prog 49 = some .nilf ∧ zOk Tryz.prog 49 = true ∧ aggT Tryz.prog 50 = some false ∧ szT Tryz.prog 50 = some 1 ∧ elT Tryz.prog 50 = none ∧ zeroD Tryz.prog 50 = some .nilf ∧ zOk Tryz.prog 50 = true ∧ aggT Tryz.prog 51 = some false ∧ szT Tryz.prog 51 = some 1 ∧ elT Tryz.prog 51 = none ∧ zeroD Tryz.prog 51 = some .nilf ∧ zOk Tryz.prog 51 = true ∧ aggT Tryz.prog 52 = some false ∧ szT Tryz.prog 52 = some 1 ∧ elT Tryz.prog 52 = none ∧ zeroD Tryz.prog 52 = some .nilf ∧ zOk Tryz.prog 52 = true ∧ aggT Tryz.prog 53 = some false ∧ szT Tryz.prog 53 = some 1 ∧ elT Tryz.prog 53 = none ∧ zeroD Tryz.prog 53 = some .nilf ∧ zOk Tryz.prog 53 = true ∧ aggT Tryz.prog 54 = some false ∧ szT Tryz.prog 54 = some 1 ∧ elT Tryz.prog 54 = none ∧ zeroD Tryz.prog 54 = some .nilf ∧ zOk Tryz.prog 54 = true ∧ aggT Tryz.prog 55 = some false ∧ szT Tryz.prog 55 = some 1) ∧
    (elT Tryz.prog 55 = none ∧ zeroD Tryz.prog 55 = some .nilf ∧ zOk Tryz.prog 55 = true ∧ aggT Tryz.prog 56 = some false ∧ szT Tryz.prog 56 = some 1 ∧ byT Tryz.prog 56 = some 24 ∧ elT Tryz.prog 56 = some 60 ∧ zeroD Tryz.prog 56 = some .nils ∧ zOk Tryz.prog 56 = true ∧ aggT Tryz.prog 57 = some true ∧ szT Tryz.prog 57 = some 2 ∧ byT Tryz.prog 57 = some 32 ∧ elT Tryz.prog 57 = none ∧ zeroD Tryz.prog 57 = some (.agg [(.bool false), .nils]) ∧ zOk Tryz.prog 57 = true ∧ allSz Tryz.prog 57 = true ∧ fldT Tryz.prog 57 0 = some (0, 1) ∧ fldT Tryz.prog 57 1 = some (1, 1) ∧ aggT Tryz.prog 58 = some true ∧ szT Tryz.prog 58 = some 2 ∧ byT Tryz.prog 58 = some 32 ∧ elT Tryz.prog 58 = none ∧ zeroD Tryz.prog 58 = some (.agg [(.bool false), .nils]) ∧ zOk Tryz.prog 58 = true ∧ allSz Tryz.prog 58 = true ∧ fldT Tryz.prog 58 0 = some (0, 1) ∧ fldT Tryz.prog 58 1 = some (1, 1) ∧ aggT Tryz.prog 59 = some true ∧ szT Tryz.prog 59 = some 2 ∧ byT Tryz.prog 59 = some 16 ∧ elT Tryz.prog 59 = none ∧ zeroD Tryz.prog 59 = some (.agg [(.int .i64 0), (.int .i64 0)]) ∧ zOk Tryz.prog 59 = true ∧ allSz Tryz.prog 59 = true ∧ fldT Tryz.prog 59 0 = some (0, 1) ∧ fldT Tryz.prog 59 1 = some (1, 1) ∧ aggT Tryz.prog 60 = some true ∧ szT Tryz.prog 60 = some 2 ∧ byT Tryz.prog 60 = some 16 ∧ elT Tryz.prog 60 = none) ∧
    (zeroD Tryz.prog 60 = some (.agg [(.int .i64 0), (.int .i64 0)]) ∧ zOk Tryz.prog 60 = true ∧ allSz Tryz.prog 60 = true ∧ fldT Tryz.prog 60 0 = some (0, 1) ∧ fldT Tryz.prog 60 1 = some (1, 1) ∧ aggT Tryz.prog 61 = some false ∧ szT Tryz.prog 61 = some 1 ∧ elT Tryz.prog 61 = none ∧ zeroD Tryz.prog 61 = some .nilf ∧ zOk Tryz.prog 61 = true ∧ aggT Tryz.prog 62 = some false ∧ szT Tryz.prog 62 = some 1 ∧ elT Tryz.prog 62 = none ∧ zeroD Tryz.prog 62 = some .nilf ∧ zOk Tryz.prog 62 = true ∧ aggT Tryz.prog 63 = some false ∧ szT Tryz.prog 63 = some 1 ∧ elT Tryz.prog 63 = none ∧ zeroD Tryz.prog 63 = some .nilf ∧ zOk Tryz.prog 63 = true ∧ aggT Tryz.prog 64 = some false ∧ szT Tryz.prog 64 = some 1 ∧ elT Tryz.prog 64 = none ∧ zeroD Tryz.prog 64 = some .nilf ∧ zOk Tryz.prog 64 = true ∧ aggT Tryz.prog 65 = some false ∧ szT Tryz.prog 65 = some 1 ∧ elT Tryz.prog 65 = none ∧ zeroD Tryz.prog 65 = some .nilf ∧ zOk Tryz.prog 65 = true ∧ aggT Tryz.prog 66 = some false ∧ szT Tryz.prog 66 = some 1 ∧ elT Tryz.prog 66 = none ∧ zeroD Tryz.prog 66 = some .nilf ∧ zOk Tryz.prog 66 = true ∧ aggT Tryz.prog 67 = some false ∧ szT Tryz.prog 67 = some 1 ∧ elT Tryz.prog 67 = none ∧ zeroD Tryz.prog 67 = some .nilf ∧ zOk Tryz.prog 67 = true) ∧
    (aggT Tryz.prog 68 = some false ∧ szT Tryz.prog 68 = some 1 ∧ byT Tryz.prog 68 = some 24 ∧ elT Tryz.prog 68 = some 70 ∧ zeroD Tryz.prog 68 = some .nils ∧ zOk Tryz.prog 68 = true ∧ aggT Tryz.prog 69 = some false ∧ szT Tryz.prog 69 = some 1 ∧ elT Tryz.prog 69 = none ∧ zeroD Tryz.prog 69 = some .nilf ∧ zOk Tryz.prog 69 = true ∧ aggT Tryz.prog 70 = some false ∧ szT Tryz.prog 70 = some 1 ∧ byT Tryz.prog 70 = some 24 ∧ elT Tryz.prog 70 = some 72 ∧ zeroD Tryz.prog 70 = some .nils ∧ zOk Tryz.prog 70 = true ∧ aggT Tryz.prog 71 = some true ∧ szT Tryz.prog 71 = some 4 ∧ byT Tryz.prog 71 = some 48 ∧ elT Tryz.prog 71 = none ∧ zeroD Tryz.prog 71 = some (.agg [(.int .i64 0), .nils, (.bool false), (.int .u64 0)]) ∧ zOk Tryz.prog 71 = true ∧ allSz Tryz.prog 71 = true ∧ fldT Tryz.prog 71 0 = some (0, 1) ∧ fldT Tryz.prog 71 1 = some (1, 1) ∧ fldT Tryz.prog 71 2 = some (2, 1) ∧ fldT Tryz.prog 71 3 = some (3, 1) ∧ aggT Tryz.prog 72 = some true ∧ szT Tryz.prog 72 = some 4 ∧ byT Tryz.prog 72 = some 48 ∧ elT Tryz.prog 72 = none ∧ zeroD Tryz.prog 72 = some (.agg [(.int .i64 0), .nils, (.bool false), (.int .u64 0)]) ∧ zOk Tryz.prog 72 = true ∧ allSz Tryz.prog 72 = true ∧ fldT Tryz.prog 72 0 = some (0, 1) ∧ fldT Tryz.prog 72 1 = some (1, 1) ∧ fldT Tryz.prog 72 2 = some (2, 1) ∧ fldT Tryz.prog 72 3 = some (3, 1) ∧ aggT Tryz.prog 73 = some false) ∧
    (szT Tryz.prog 73 = some 1 ∧ elT Tryz.prog 73 = none ∧ zeroD Tryz.prog 73 = some .nilf ∧ zOk Tryz.prog 73 = true ∧ aggT Tryz.prog 74 = some false ∧ szT Tryz.prog 74 = some 1 ∧ elT Tryz.prog 74 = none ∧ zeroD Tryz.prog 74 = some .nilf ∧ zOk Tryz.prog 74 = true ∧ aggT Tryz.prog 75 = some false ∧ szT Tryz.prog 75 = some 1 ∧ elT Tryz.prog 75 = none ∧ zeroD Tryz.prog 75 = some .nilf ∧ zOk Tryz.prog 75 = true ∧ aggT Tryz.prog 76 = some false ∧ szT Tryz.prog 76 = some 1 ∧ elT Tryz.prog 76 = none ∧ zeroD Tryz.prog 76 = some .nilf ∧ zOk Tryz.prog 76 = true ∧ aggT Tryz.prog 77 = some false ∧ szT Tryz.prog 77 = some 1 ∧ byT Tryz.prog 77 = some 24 ∧ elT Tryz.prog 77 = some 5 ∧ zeroD Tryz.prog 77 = some .nils ∧ zOk Tryz.prog 77 = true ∧ aggT Tryz.prog 79 = some false ∧ szT Tryz.prog 79 = some 1 ∧ elT Tryz.prog 79 = none ∧ zeroD Tryz.prog 79 = some .nilf ∧ zOk Tryz.prog 79 = true ∧ aggT Tryz.prog 80 = some false ∧ szT Tryz.prog 80 = some 1 ∧ elT Tryz.prog 80 = none ∧ mapT Tryz.prog 80 = some (60, 3) ∧ aggT Tryz.prog 81 = some false ∧ szT Tryz.prog 81 = some 1 ∧ elT Tryz.prog 81 = none ∧ zeroD Tryz.prog 81 = some .nilf ∧ zOk Tryz.prog 81 = true ∧ aggT Tryz.prog 82 = some false) ∧
    (szT Tryz.prog 82 = some 1 ∧ elT Tryz.prog 82 = none ∧ zeroD Tryz.prog 82 = some .nilf ∧ zOk Tryz.prog 82 = true ∧ aggT Tryz.prog 83 = some false ∧ szT Tryz.prog 83 = some 1 ∧ elT Tryz.prog 83 = none ∧ zeroD Tryz.prog 83 = some .nilf ∧ zOk Tryz.prog 83 = true ∧ aggT Tryz.prog 84 = some false ∧ szT Tryz.prog 84 = some 1 ∧ elT Tryz.prog 84 = none ∧ mapT Tryz.prog 84 = some (89, 22) ∧ aggT Tryz.prog 85 = some true ∧ szT Tryz.prog 85 = some 8 ∧ byT Tryz.prog 85 = some 64 ∧ elT Tryz.prog 85 = none ∧ arrT Tryz.prog 85 = some (8, 3) ∧ zeroD Tryz.prog 85 = some (.agg [(.int .i64 0), (.int .i64 0), (.int .i64 0), (.int .i64 0), (.int .i64 0), (.int .i64 0), (.int .i64 0), (.int .i64 0)]) ∧ zOk Tryz.prog 85 = true ∧ aggT Tryz.prog 86 = some true ∧ szT Tryz.prog 86 = some 9 ∧ byT Tryz.prog 86 = some 72 ∧ elT Tryz.prog 86 = none ∧ zeroD Tryz.prog 86 = some (.agg [(.int .i64 0), (.int .i64 0), (.int .i64 0), (.int .i64 0), (.int .i64 0), (.int .i64 0), (.int .i64 0), (.int .i64 0), (.int .i64 0)]) ∧ zOk Tryz.prog 86 = true ∧ allSz Tryz.prog 86 = true ∧ fldT Tryz.prog 86 0 = some (0, 1) ∧ fldT Tryz.prog 86 1 = some (1, 8) ∧ aggT Tryz.prog 87 = some true ∧ szT Tryz.prog 87 = some 9 ∧ byT Tryz.prog 87 = some 72 ∧ elT Tryz.prog 87 = none ∧ zeroD Tryz.prog 87 = some (.agg [(.int .i64 0), (.int .i64 0), (.int .i64 0), (.int .i64 0), (.int .i64 0), (.int .i64 0), (.int .i64 0), (.int .i64 0), (.int .i64 0)]) ∧ zOk Tryz.prog 87 = true ∧ allSz Tryz.prog 87 = true ∧ fldT Tryz.prog 87 0 = some (0, 1) ∧ fldT Tryz.prog 87 1 = some (1, 8) ∧ aggT Tryz.prog 88 = some true ∧ szT Tryz.prog 88 = some 18) ∧
    (byT Tryz.prog 88 = some 144 ∧ elT Tryz.prog 88 = none ∧ zeroD Tryz.prog 88 = some (.agg [(.int .i64 0), (.int .i64 0), (.int .i64 0), (.int .i64 0), (.int .i64 0), (.int .i64 0), (.int .i64 0), (.int .i64 0), (.int .i64 0), (.int .i64 0), (.int .i64 0), (.int .i64 0), (.int .i64 0), (.int .i64 0), (.int .i64 0), (.int .i64 0), (.int .i64 0), (.int .i64 0)]) ∧ zOk Tryz.prog 88 = true ∧ allSz Tryz.prog 88 = true ∧ fldT Tryz.prog 88 0 = some (0, 9) ∧ fldT Tryz.prog 88 1 = some (9, 9) ∧ aggT Tryz.prog 89 = some true ∧ szT Tryz.prog 89 = some 18 ∧ byT Tryz.prog 89 = some 144 ∧ elT Tryz.prog 89 = none ∧ zeroD Tryz.prog 89 = some (.agg [(.int .i64 0), (.int .i64 0), (.int .i64 0), (.int .i64 0), (.int .i64 0), (.int .i64 0), (.int .i64 0), (.int .i64 0), (.int .i64 0), (.int .i64 0), (.int .i64 0), (.int .i64 0), (.int .i64 0), (.int .i64 0), (.int .i64 0), (.int .i64 0), (.int .i64 0), (.int .i64 0)]) ∧ zOk Tryz.prog 89 = true ∧ allSz Tryz.prog 89 = true ∧ fldT Tryz.prog 89 0 = some (0, 9) ∧ fldT Tryz.prog 89 1 = some (9, 9) ∧ aggT Tryz.prog 91 = some false ∧ szT Tryz.prog 91 = some 1 ∧ elT Tryz.prog 91 = none ∧ zeroD Tryz.prog 91 = some .nilf ∧ zOk Tryz.prog 91 = true ∧ aggT Tryz.prog 93 = some false ∧ szT Tryz.prog 93 = some 1 ∧ elT Tryz.prog 93 = none ∧ zeroD Tryz.prog 93 = some .nilf ∧ zOk Tryz.prog 93 = true ∧ aggT Tryz.prog 94 = some false ∧ szT Tryz.prog 94 = some 1 ∧ elT Tryz.prog 94 = none ∧ zeroD Tryz.prog 94 = some .nilf ∧ zOk Tryz.prog 94 = true ∧ aggT Tryz.prog 95 = some false ∧ szT Tryz.prog 95 = some 1 ∧ elT Tryz.prog 95 = none ∧ zeroD Tryz.prog 95 = some .nilf ∧ zOk Tryz.prog 95 = true ∧ aggT Tryz.prog 96 = some false ∧ szT Tryz.prog 96 = some 1 ∧ elT Tryz.prog 96 = none ∧ zeroD Tryz.prog 96 = some .nilf) ∧
    (zOk Tryz.prog 96 = true ∧ aggT Tryz.prog 97 = some false ∧ szT Tryz.prog 97 = some 1 ∧ elT Tryz.prog 97 = none ∧ zeroD Tryz.prog 97 = some .nilf ∧ zOk Tryz.prog 97 = true ∧ aggT Tryz.prog 98 = some false ∧ szT Tryz.prog 98 = some 1 ∧ elT Tryz.prog 98 = none ∧ zeroD Tryz.prog 98 = some .nilf ∧ zOk Tryz.prog 98 = true ∧ aggT Tryz.prog 99 = some false ∧ szT Tryz.prog 99 = some 1 ∧ elT Tryz.prog 99 = none ∧ zeroD Tryz.prog 99 = some .nilf ∧ zOk Tryz.prog 99 = true ∧ aggT Tryz.prog 100 = some false ∧ szT Tryz.prog 100 = some 1 ∧ elT Tryz.prog 100 = none ∧ zeroD Tryz.prog 100 = some .nilf ∧ zOk Tryz.prog 100 = true ∧ aggT Tryz.prog 101 = some false ∧ szT Tryz.prog 101 = some 1 ∧ elT Tryz.prog 101 = none ∧ zeroD Tryz.prog 101 = some .nilf ∧ zOk Tryz.prog 101 = true ∧ aggT Tryz.prog 102 = some false ∧ szT Tryz.prog 102 = some 1 ∧ elT Tryz.prog 102 = none ∧ zeroD Tryz.prog 102 = some .nilf ∧ zOk Tryz.prog 102 = true ∧ aggT Tryz.prog 103 = some false ∧ szT Tryz.prog 103 = some 1 ∧ elT Tryz.prog 103 = none ∧ zeroD Tryz.prog 103 = some .nilf ∧ zOk Tryz.prog 103 = true ∧ aggT Tryz.prog 104 = some false ∧ szT Tryz.prog 104 = some 1 ∧ elT Tryz.prog 104 = none ∧ aggT Tryz.prog 105 = some false) ∧
    (szT Tryz.prog 105 = some 1 ∧ elT Tryz.prog 105 = none ∧ zeroD Tryz.prog 105 = some .nilf ∧ zOk Tryz.prog 105 = true ∧ aggT Tryz.prog 106 = some false ∧ szT Tryz.prog 106 = some 1 ∧ elT Tryz.prog 106 = none ∧ zeroD Tryz.prog 106 = some .nilf ∧ zOk Tryz.prog 106 = true ∧ aggT Tryz.prog 108 = some false ∧ szT Tryz.prog 108 = some 1 ∧ elT Tryz.prog 108 = none ∧ zeroD Tryz.prog 108 = some .nilf ∧ zOk Tryz.prog 108 = true ∧ aggT Tryz.prog 109 = some false ∧ szT Tryz.prog 109 = some 1 ∧ elT Tryz.prog 109 = none ∧ zeroD Tryz.prog 109 = some .nilf ∧ zOk Tryz.prog 109 = true ∧ aggT Tryz.prog 110 = some false ∧ szT Tryz.prog 110 = some 1 ∧ elT Tryz.prog 110 = none ∧ zeroD Tryz.prog 110 = some .nilf ∧ zOk Tryz.prog 110 = true ∧ aggT Tryz.prog 111 = some false ∧ szT Tryz.prog 111 = some 1 ∧ elT Tryz.prog 111 = none ∧ zeroD Tryz.prog 111 = some .nilf ∧ zOk Tryz.prog 111 = true ∧ aggT Tryz.prog 112 = some false ∧ szT Tryz.prog 112 = some 1 ∧ elT Tryz.prog 112 = none ∧ zeroD Tryz.prog 112 = some .nilf ∧ zOk Tryz.prog 112 = true ∧ aggT Tryz.prog 113 = some false ∧ szT Tryz.prog 113 = some 1 ∧ elT Tryz.prog 113 = none ∧ zeroD Tryz.prog 113 = some .nilf ∧ zOk Tryz.prog 113 = true ∧ aggT Tryz.prog 114 = some false) ∧
    (szT Tryz.prog 114 = some 1 ∧ elT Tryz.prog 114 = none ∧ zeroD Tryz.prog 114 = some .nilf ∧ zOk Tryz.prog 114 = true ∧ aggT Tryz.prog 116 = some false ∧ szT Tryz.prog 116 = some 1 ∧ elT Tryz.prog 116 = none ∧ zeroD Tryz.prog 116 = some .nilf ∧ zOk Tryz.prog 116 = true ∧ aggT Tryz.prog 117 = some false ∧ szT Tryz.prog 117 = some 1 ∧ elT Tryz.prog 117 = none ∧ zeroD Tryz.prog 117 = some .nilf ∧ zOk Tryz.prog 117 = true ∧ aggT Tryz.prog 118 = some false ∧ szT Tryz.prog 118 = some 1 ∧ elT Tryz.prog 118 = none ∧ zeroD Tryz.prog 118 = some .nilf ∧ zOk Tryz.prog 118 = true ∧ aggT Tryz.prog 119 = some false ∧ szT Tryz.prog 119 = some 1 ∧ byT Tryz.prog 119 = some 8 ∧ elT Tryz.prog 119 = none ∧ intT Tryz.prog 119 = some .u64 ∧ zeroD Tryz.prog 119 = some (.int .u64 0) ∧ zOk Tryz.prog 119 = true ∧ aggT Tryz.prog 120 = some false ∧ szT Tryz.prog 120 = some 1 ∧ elT Tryz.prog 120 = none ∧ zeroD Tryz.prog 120 = some .nilf ∧ zOk Tryz.prog 120 = true ∧ aggT Tryz.prog 121 = some false ∧ szT Tryz.prog 121 = some 1 ∧ elT Tryz.prog 121 = none ∧ zeroD Tryz.prog 121 = some .nilf ∧ zOk Tryz.prog 121 = true ∧ aggT Tryz.prog 122 = some false ∧ szT Tryz.prog 122 = some 1 ∧ elT Tryz.prog 122 = none ∧ aggT Tryz.prog 123 = some true) ∧
    (szT Tryz.prog 123 = some 4 ∧ byT Tryz.prog 123 = some 80 ∧ elT Tryz.prog 123 = none ∧ zeroD Tryz.prog 123 = some (.agg [.nils, .nils, .nils, .nilf]) ∧ zOk Tryz.prog 123 = true ∧ allSz Tryz.prog 123 = true ∧ fldT Tryz.prog 123 0 = some (0, 1) ∧ fldT Tryz.prog 123 1 = some (1, 1) ∧ fldT Tryz.prog 123 2 = some (2, 1) ∧ fldT Tryz.prog 123 3 = some (3, 1) ∧ aggT Tryz.prog 124 = some true ∧ szT Tryz.prog 124 = some 4 ∧ byT Tryz.prog 124 = some 80 ∧ elT Tryz.prog 124 = none ∧ zeroD Tryz.prog 124 = some (.agg [.nils, .nils, .nils, .nilf]) ∧ zOk Tryz.prog 124 = true ∧ allSz Tryz.prog 124 = true ∧ fldT Tryz.prog 124 0 = some (0, 1) ∧ fldT Tryz.prog 124 1 = some (1, 1) ∧ fldT Tryz.prog 124 2 = some (2, 1) ∧ fldT Tryz.prog 124 3 = some (3, 1) ∧ aggT Tryz.prog 125 = some false ∧ szT Tryz.prog 125 = some 1 ∧ elT Tryz.prog 125 = none ∧ zeroD Tryz.prog 125 = some .nilf ∧ zOk Tryz.prog 125 = true ∧ aggT Tryz.prog 127 = some false ∧ szT Tryz.prog 127 = some 1 ∧ elT Tryz.prog 127 = none ∧ zeroD Tryz.prog 127 = some .nilf ∧ zOk Tryz.prog 127 = true ∧ aggT Tryz.prog 128 = some false ∧ szT Tryz.prog 128 = some 1 ∧ elT Tryz.prog 128 = none ∧ zeroD Tryz.prog 128 = some .nilf ∧ zOk Tryz.prog 128 = true ∧ aggT Tryz.prog 129 = some false ∧ szT Tryz.prog 129 = some 1 ∧ elT Tryz.prog 129 = none ∧ zeroD Tryz.prog 129 = some .nilf) ∧
    (zOk Tryz.prog 129 = true ∧ aggT Tryz.prog 130 = some false ∧ szT Tryz.prog 130 = some 1 ∧ elT Tryz.prog 130 = none ∧ zeroD Tryz.prog 130 = some .nilf ∧ zOk Tryz.prog 130 = true ∧ aggT Tryz.prog 131 = some false ∧ szT Tryz.prog 131 = some 1 ∧ elT Tryz.prog 131 = none ∧ zeroD Tryz.prog 131 = some .nilf ∧ zOk Tryz.prog 131 = true ∧ aggT Tryz.prog 132 = some false ∧ szT Tryz.prog 132 = some 1 ∧ elT Tryz.prog 132 = none ∧ zeroD Tryz.prog 132 = some .nilf ∧ zOk Tryz.prog 132 = true ∧ aggT Tryz.prog 133 = some false ∧ szT Tryz.prog 133 = some 1 ∧ elT Tryz.prog 133 = none ∧ zeroD Tryz.prog 133 = some .nilf ∧ zOk Tryz.prog 133 = true ∧ aggT Tryz.prog 134 = some false ∧ szT Tryz.prog 134 = some 1 ∧ elT Tryz.prog 134 = none ∧ zeroD Tryz.prog 134 = some .nilf ∧ zOk Tryz.prog 134 = true ∧ aggT Tryz.prog 135 = some false ∧ szT Tryz.prog 135 = some 1 ∧ elT Tryz.prog 135 = none ∧ zeroD Tryz.prog 135 = some .nilf ∧ zOk Tryz.prog 135 = true ∧ aggT Tryz.prog 136 = some false ∧ szT Tryz.prog 136 = some 1 ∧ elT Tryz.prog 136 = none ∧ zeroD Tryz.prog 136 = some .nilf ∧ zOk Tryz.prog 136 = true ∧ aggT Tryz.prog 137 = some false ∧ szT Tryz.prog 137 = some 1 ∧ elT Tryz.prog 137 = none ∧ zeroD Tryz.prog 137 = some .nilf) ∧
    (zOk Tryz.prog 137 = true ∧ aggT Tryz.prog 138 = some false ∧ szT Tryz.prog 138 = some 1 ∧ byT Tryz.prog 138 = some 8 ∧ elT Tryz.prog 138 = none ∧ intT Tryz.prog 138 = some .i64 ∧ zeroD Tryz.prog 138 = some (.int .i64 0) ∧ zOk Tryz.prog 138 = true ∧ aggT Tryz.prog 140 = some false ∧ szT Tryz.prog 140 = some 1 ∧ elT Tryz.prog 140 = none ∧ zeroD Tryz.prog 140 = some .nilf ∧ zOk Tryz.prog 140 = true ∧ aggT Tryz.prog 141 = some false ∧ szT Tryz.prog 141 = some 1 ∧ elT Tryz.prog 141 = none ∧ zeroD Tryz.prog 141 = some .nilf ∧ zOk Tryz.prog 141 = true ∧ aggT Tryz.prog 142 = some false ∧ szT Tryz.prog 142 = some 1 ∧ elT Tryz.prog 142 = none ∧ zeroD Tryz.prog 142 = some .nilf ∧ zOk Tryz.prog 142 = true ∧ aggT Tryz.prog 143 = some false ∧ szT Tryz.prog 143 = some 1 ∧ elT Tryz.prog 143 = none ∧ zeroD Tryz.prog 143 = some .nilf ∧ zOk Tryz.prog 143 = true ∧ aggT Tryz.prog 144 = some false ∧ szT Tryz.prog 144 = some 1 ∧ elT Tryz.prog 144 = none ∧ zeroD Tryz.prog 144 = some .nilf ∧ zOk Tryz.prog 144 = true ∧ aggT Tryz.prog 145 = some false ∧ szT Tryz.prog 145 = some 1 ∧ byT Tryz.prog 145 = some 4 ∧ elT Tryz.prog 145 = none ∧ intT Tryz.prog 145 = some .u32 ∧ zeroD Tryz.prog 145 = some (.int .u32 0) ∧ zOk Tryz.prog 145 = true) ∧
    (aggT Tryz.prog 146 = some false ∧ szT Tryz.prog 146 = some 1 ∧ elT Tryz.prog 146 = none ∧ zeroD Tryz.prog 146 = some .nilf ∧ zOk Tryz.prog 146 = true ∧ aggT Tryz.prog 147 = some false ∧ szT Tryz.prog 147 = some 1 ∧ elT Tryz.prog 147 = none ∧ zeroD Tryz.prog 147 = some .nilf ∧ zOk Tryz.prog 147 = true ∧ aggT Tryz.prog 149 = some false ∧ szT Tryz.prog 149 = some 1 ∧ elT Tryz.prog 149 = none ∧ zeroD Tryz.prog 149 = some .nilf ∧ zOk Tryz.prog 149 = true ∧ aggT Tryz.prog 150 = some false ∧ szT Tryz.prog 150 = some 1 ∧ elT Tryz.prog 150 = none ∧ zeroD Tryz.prog 150 = some .nilf ∧ zOk Tryz.prog 150 = true ∧ aggT Tryz.prog 151 = some false ∧ szT Tryz.prog 151 = some 1 ∧ elT Tryz.prog 151 = none ∧ zeroD Tryz.prog 151 = some .nilf ∧ zOk Tryz.prog 151 = true ∧ aggT Tryz.prog 152 = some false ∧ szT Tryz.prog 152 = some 1 ∧ elT Tryz.prog 152 = none ∧ zeroD Tryz.prog 152 = some .nilf ∧ zOk Tryz.prog 152 = true ∧ aggT Tryz.prog 153 = some false ∧ szT Tryz.prog 153 = some 1 ∧ elT Tryz.prog 153 = none ∧ zeroD Tryz.prog 153 = some .nilf ∧ zOk Tryz.prog 153 = true ∧ aggT Tryz.prog 154 = some false ∧ szT Tryz.prog 154 = some 1 ∧ byT Tryz.prog 154 = some 8 ∧ elT Tryz.prog 154 = none ∧ intT Tryz.prog 154 = some .u64) ∧
    (zeroD Tryz.prog 154 = some (.int .u64 0) ∧ zOk Tryz.prog 154 = true ∧ aggT Tryz.prog 155 = some false ∧ szT Tryz.prog 155 = some 1 ∧ elT Tryz.prog 155 = none ∧ zeroD Tryz.prog 155 = some .nilf ∧ zOk Tryz.prog 155 = true ∧ aggT Tryz.prog 156 = some false ∧ szT Tryz.prog 156 = some 1 ∧ elT Tryz.prog 156 = none ∧ zeroD Tryz.prog 156 = some .nilf ∧ zOk Tryz.prog 156 = true ∧ aggT Tryz.prog 157 = some false ∧ szT Tryz.prog 157 = some 1 ∧ elT Tryz.prog 157 = none ∧ zeroD Tryz.prog 157 = some .nilf ∧ zOk Tryz.prog 157 = true ∧ aggT Tryz.prog 158 = some false ∧ szT Tryz.prog 158 = some 1 ∧ elT Tryz.prog 158 = none ∧ aggT Tryz.prog 159 = some false ∧ szT Tryz.prog 159 = some 1 ∧ elT Tryz.prog 159 = none ∧ zeroD Tryz.prog 159 = some .nilf ∧ zOk Tryz.prog 159 = true ∧ aggT Tryz.prog 160 = some false ∧ szT Tryz.prog 160 = some 1 ∧ elT Tryz.prog 160 = none ∧ zeroD Tryz.prog 160 = some .nilf ∧ zOk Tryz.prog 160 = true ∧ aggT Tryz.prog 161 = some false ∧ szT Tryz.prog 161 = some 1 ∧ elT Tryz.prog 161 = none ∧ zeroD Tryz.prog 161 = some .nilf ∧ zOk Tryz.prog 161 = true ∧ aggT Tryz.prog 162 = some false ∧ szT Tryz.prog 162 = some 1 ∧ elT Tryz.prog 162 = none ∧ zeroD Tryz.prog 162 = some .nilf ∧ zOk Tryz.prog 162 = true) ∧
    (aggT Tryz.prog 163 = some false ∧ szT Tryz.prog 163 = some 1 ∧ elT Tryz.prog 163 = none ∧ zeroD Tryz.prog 163 = some .nilf ∧ zOk Tryz.prog 163 = true ∧ aggT Tryz.prog 164 = some false ∧ szT Tryz.prog 164 = some 1 ∧ elT Tryz.prog 164 = none ∧ zeroD Tryz.prog 164 = some .nilf ∧ zOk Tryz.prog 164 = true ∧ aggT Tryz.prog 165 = some false ∧ szT Tryz.prog 165 = some 1 ∧ elT Tryz.prog 165 = none ∧ aggT Tryz.prog 167 = some false ∧ szT Tryz.prog 167 = some 1 ∧ elT Tryz.prog 167 = none ∧ zeroD Tryz.prog 167 = some .nilf ∧ zOk Tryz.prog 167 = true ∧ aggT Tryz.prog 168 = some false ∧ szT Tryz.prog 168 = some 1 ∧ elT Tryz.prog 168 = none ∧ zeroD Tryz.prog 168 = some .nilf ∧ zOk Tryz.prog 168 = true ∧ aggT Tryz.prog 169 = some false ∧ szT Tryz.prog 169 = some 1 ∧ elT Tryz.prog 169 = none ∧ zeroD Tryz.prog 169 = some .nilf ∧ zOk Tryz.prog 169 = true ∧ aggT Tryz.prog 170 = some false ∧ szT Tryz.prog 170 = some 1 ∧ elT Tryz.prog 170 = none ∧ zeroD Tryz.prog 170 = some .nilf ∧ zOk Tryz.prog 170 = true ∧ aggT Tryz.prog 171 = some false ∧ szT Tryz.prog 171 = some 1 ∧ elT Tryz.prog 171 = none ∧ zeroD Tryz.prog 171 = some .nilf ∧ zOk Tryz.prog 171 = true ∧ aggT Tryz.prog 177 = some false ∧ szT Tryz.prog 177 = some 1) ∧
    (elT Tryz.prog 177 = none ∧ zeroD Tryz.prog 177 = some .nilf ∧ zOk Tryz.prog 177 = true ∧ aggT Tryz.prog 180 = some false ∧ szT Tryz.prog 180 = some 1 ∧ elT Tryz.prog 180 = none ∧ zeroD Tryz.prog 180 = some .nilf ∧ zOk Tryz.prog 180 = true ∧ aggT Tryz.prog 181 = some false ∧ szT Tryz.prog 181 = some 1 ∧ elT Tryz.prog 181 = none) :=
  ⟨ty0, ty1, ty2, ty3, ty4, ty5, ty6, ty7, ty8, ty9, ty10, ty11, ty12, ty13, ty14, ty15, ty16, ty17, ty18, ty19, ty20, ty21⟩
end Go.Eng.Tryz

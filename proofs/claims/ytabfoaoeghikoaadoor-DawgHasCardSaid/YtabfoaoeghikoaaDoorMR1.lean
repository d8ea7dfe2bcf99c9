/- The facts on the types of this seat's program: closed equations. (and what stands behind it: texts laid together) -/
import Derived.Test.YtabfoaoeghikoaaDoorProg
import Derived.Test.YtabfoaoeghikoaaDoorMG3
set_option linter.unusedVariables false
namespace Go.Eng.Tryd
open Go Go.Eng Go.Proofs
theorem ty0 :
    aggT Tryd.prog 1 = some false ∧
    szT Tryd.prog 1 = some 1 ∧
    elT Tryd.prog 1 = none ∧
    zeroD Tryd.prog 1 = some .nilf ∧
    zOk Tryd.prog 1 = true ∧
    aggT Tryd.prog 2 = some false ∧
    szT Tryd.prog 2 = some 1 ∧
    byT Tryd.prog 2 = some 8 ∧
    elT Tryd.prog 2 = none ∧
    intT Tryd.prog 2 = some .i64 ∧
    zeroD Tryd.prog 2 = some (.int .i64 0) ∧
    zOk Tryd.prog 2 = true ∧
    aggT Tryd.prog 3 = some false ∧
    szT Tryd.prog 3 = some 1 ∧
    byT Tryd.prog 3 = some 8 ∧
    elT Tryd.prog 3 = none ∧
    intT Tryd.prog 3 = some .i64 ∧
    zeroD Tryd.prog 3 = some (.int .i64 0) ∧
    zOk Tryd.prog 3 = true ∧
    aggT Tryd.prog 4 = some false ∧
    szT Tryd.prog 4 = some 1 ∧
    byT Tryd.prog 4 = some 1 ∧
    elT Tryd.prog 4 = none ∧
    isBoolT Tryd.prog 4 = true ∧
    zeroD Tryd.prog 4 = some (.bool false) ∧
    zOk Tryd.prog 4 = true ∧
    aggT Tryd.prog 5 = some false ∧
    szT Tryd.prog 5 = some 1 ∧
    byT Tryd.prog 5 = some 1 ∧
    elT Tryd.prog 5 = none ∧
    intT Tryd.prog 5 = some .u8 ∧
    zeroD Tryd.prog 5 = some (.int .u8 0) ∧
    zOk Tryd.prog 5 = true ∧
    aggT Tryd.prog 9 = some false ∧
    szT Tryd.prog 9 = some 1 ∧
    byT Tryd.prog 9 = some 16 ∧
    elT Tryd.prog 9 = none ∧
    isStrT Tryd.prog 9 = true ∧
    zeroD Tryd.prog 9 = some (.str ⟨#[]⟩) ∧
    zOk Tryd.prog 9 = true := by
  refine ⟨?_, ?_, ?_, ?_, ?_, ?_, ?_, ?_, ?_, ?_, ?_, ?_, ?_, ?_, ?_, ?_, ?_, ?_, ?_, ?_, ?_, ?_, ?_, ?_, ?_, ?_, ?_, ?_, ?_, ?_, ?_, ?_, ?_, ?_, ?_, ?_, ?_, ?_, ?_, ?_⟩ <;> kernel_rfl
theorem ty1 :
    aggT Tryd.prog 12 = some false ∧
    szT Tryd.prog 12 = some 1 ∧
    byT Tryd.prog 12 = some 8 ∧
    elT Tryd.prog 12 = none ∧
    intT Tryd.prog 12 = some .u64 ∧
    zeroD Tryd.prog 12 = some (.int .u64 0) ∧
    zOk Tryd.prog 12 = true ∧
    aggT Tryd.prog 21 = some false ∧
    szT Tryd.prog 21 = some 1 ∧
    byT Tryd.prog 21 = some 4 ∧
    elT Tryd.prog 21 = none ∧
    intT Tryd.prog 21 = some .i32 ∧
    zeroD Tryd.prog 21 = some (.int .i32 0) ∧
    zOk Tryd.prog 21 = true ∧
    aggT Tryd.prog 22 = some false ∧
    szT Tryd.prog 22 = some 1 ∧
    byT Tryd.prog 22 = some 24 ∧
    elT Tryd.prog 22 = some 36 ∧
    zeroD Tryd.prog 22 = some .nils ∧
    zOk Tryd.prog 22 = true ∧
    aggT Tryd.prog 23 = some false ∧
    szT Tryd.prog 23 = some 1 ∧
    elT Tryd.prog 23 = none ∧
    zeroD Tryd.prog 23 = some .nilf ∧
    zOk Tryd.prog 23 = true ∧
    aggT Tryd.prog 24 = some false ∧
    szT Tryd.prog 24 = some 1 ∧
    elT Tryd.prog 24 = none ∧
    zeroD Tryd.prog 24 = some .nilf ∧
    zOk Tryd.prog 24 = true ∧
    aggT Tryd.prog 25 = some false ∧
    szT Tryd.prog 25 = some 1 ∧
    byT Tryd.prog 25 = some 24 ∧
    elT Tryd.prog 25 = some 32 ∧
    zeroD Tryd.prog 25 = some .nils ∧
    zOk Tryd.prog 25 = true ∧
    aggT Tryd.prog 26 = some false ∧
    szT Tryd.prog 26 = some 1 ∧
    byT Tryd.prog 26 = some 8 ∧
    elT Tryd.prog 26 = none := by
  refine ⟨?_, ?_, ?_, ?_, ?_, ?_, ?_, ?_, ?_, ?_, ?_, ?_, ?_, ?_, ?_, ?_, ?_, ?_, ?_, ?_, ?_, ?_, ?_, ?_, ?_, ?_, ?_, ?_, ?_, ?_, ?_, ?_, ?_, ?_, ?_, ?_, ?_, ?_, ?_, ?_⟩ <;> kernel_rfl
theorem ty2 :
    intT Tryd.prog 26 = some .i64 ∧
    zeroD Tryd.prog 26 = some (.int .i64 0) ∧
    zOk Tryd.prog 26 = true ∧
    aggT Tryd.prog 28 = some false ∧
    szT Tryd.prog 28 = some 1 ∧
    elT Tryd.prog 28 = none ∧
    zeroD Tryd.prog 28 = some .nilf ∧
    zOk Tryd.prog 28 = true ∧
    aggT Tryd.prog 29 = some false ∧
    szT Tryd.prog 29 = some 1 ∧
    byT Tryd.prog 29 = some 24 ∧
    elT Tryd.prog 29 = some 4 ∧
    zeroD Tryd.prog 29 = some .nils ∧
    zOk Tryd.prog 29 = true ∧
    aggT Tryd.prog 30 = some false ∧
    szT Tryd.prog 30 = some 1 ∧
    byT Tryd.prog 30 = some 24 ∧
    elT Tryd.prog 30 = some 34 ∧
    zeroD Tryd.prog 30 = some .nils ∧
    zOk Tryd.prog 30 = true ∧
    aggT Tryd.prog 31 = some true ∧
    szT Tryd.prog 31 = some 2 ∧
    byT Tryd.prog 31 = some 32 ∧
    elT Tryd.prog 31 = none ∧
    zeroD Tryd.prog 31 = some (.agg [(.bool false), .nils]) ∧
    zOk Tryd.prog 31 = true ∧
    allSz Tryd.prog 31 = true ∧
    fldT Tryd.prog 31 0 = some (0, 1) ∧
    fldT Tryd.prog 31 1 = some (1, 1) ∧
    aggT Tryd.prog 32 = some true ∧
    szT Tryd.prog 32 = some 2 ∧
    byT Tryd.prog 32 = some 32 ∧
    elT Tryd.prog 32 = none ∧
    zeroD Tryd.prog 32 = some (.agg [(.bool false), .nils]) ∧
    zOk Tryd.prog 32 = true ∧
    allSz Tryd.prog 32 = true ∧
    fldT Tryd.prog 32 0 = some (0, 1) ∧
    fldT Tryd.prog 32 1 = some (1, 1) ∧
    aggT Tryd.prog 33 = some true ∧
    szT Tryd.prog 33 = some 2 := by
  refine ⟨?_, ?_, ?_, ?_, ?_, ?_, ?_, ?_, ?_, ?_, ?_, ?_, ?_, ?_, ?_, ?_, ?_, ?_, ?_, ?_, ?_, ?_, ?_, ?_, ?_, ?_, ?_, ?_, ?_, ?_, ?_, ?_, ?_, ?_, ?_, ?_, ?_, ?_, ?_, ?_⟩ <;> kernel_rfl
theorem ty3 :
    byT Tryd.prog 33 = some 16 ∧
    elT Tryd.prog 33 = none ∧
    zeroD Tryd.prog 33 = some (.agg [(.int .i64 0), (.int .i64 0)]) ∧
    zOk Tryd.prog 33 = true ∧
    allSz Tryd.prog 33 = true ∧
    fldT Tryd.prog 33 0 = some (0, 1) ∧
    fldT Tryd.prog 33 1 = some (1, 1) ∧
    aggT Tryd.prog 34 = some true ∧
    szT Tryd.prog 34 = some 2 ∧
    byT Tryd.prog 34 = some 16 ∧
    elT Tryd.prog 34 = none ∧
    zeroD Tryd.prog 34 = some (.agg [(.int .i64 0), (.int .i64 0)]) ∧
    zOk Tryd.prog 34 = true ∧
    allSz Tryd.prog 34 = true ∧
    fldT Tryd.prog 34 0 = some (0, 1) ∧
    fldT Tryd.prog 34 1 = some (1, 1) ∧
    aggT Tryd.prog 35 = some false ∧
    szT Tryd.prog 35 = some 1 ∧
    elT Tryd.prog 35 = none ∧
    zeroD Tryd.prog 35 = some .nilf ∧
    zOk Tryd.prog 35 = true ∧
    aggT Tryd.prog 36 = some false ∧
    szT Tryd.prog 36 = some 1 ∧
    byT Tryd.prog 36 = some 24 ∧
    elT Tryd.prog 36 = some 3 ∧
    zeroD Tryd.prog 36 = some .nils ∧
    zOk Tryd.prog 36 = true ∧
    aggT Tryd.prog 37 = some false ∧
    szT Tryd.prog 37 = some 1 ∧
    elT Tryd.prog 37 = none ∧
    zeroD Tryd.prog 37 = some .nilf ∧
    zOk Tryd.prog 37 = true ∧
    aggT Tryd.prog 38 = some false ∧
    szT Tryd.prog 38 = some 1 ∧
    elT Tryd.prog 38 = none ∧
    zeroD Tryd.prog 38 = some .nilf ∧
    zOk Tryd.prog 38 = true ∧
    aggT Tryd.prog 40 = some false ∧
    szT Tryd.prog 40 = some 1 ∧
    elT Tryd.prog 40 = none := by
  refine ⟨?_, ?_, ?_, ?_, ?_, ?_, ?_, ?_, ?_, ?_, ?_, ?_, ?_, ?_, ?_, ?_, ?_, ?_, ?_, ?_, ?_, ?_, ?_, ?_, ?_, ?_, ?_, ?_, ?_, ?_, ?_, ?_, ?_, ?_, ?_, ?_, ?_, ?_, ?_, ?_⟩ <;> kernel_rfl
theorem ty4 :
    zeroD Tryd.prog 40 = some .nilf ∧
    zOk Tryd.prog 40 = true ∧
    aggT Tryd.prog 41 = some false ∧
    szT Tryd.prog 41 = some 1 ∧
    elT Tryd.prog 41 = none ∧
    zeroD Tryd.prog 41 = some .nilf ∧
    zOk Tryd.prog 41 = true ∧
    aggT Tryd.prog 42 = some false ∧
    szT Tryd.prog 42 = some 1 ∧
    elT Tryd.prog 42 = none ∧
    zeroD Tryd.prog 42 = some .nilf ∧
    zOk Tryd.prog 42 = true ∧
    aggT Tryd.prog 43 = some false ∧
    szT Tryd.prog 43 = some 1 ∧
    elT Tryd.prog 43 = none ∧
    zeroD Tryd.prog 43 = some .nilf ∧
    zOk Tryd.prog 43 = true ∧
    aggT Tryd.prog 44 = some false ∧
    szT Tryd.prog 44 = some 1 ∧
    elT Tryd.prog 44 = none ∧
    zeroD Tryd.prog 44 = some .nilp ∧
    zOk Tryd.prog 44 = true ∧
    aggT Tryd.prog 45 = some false ∧
    szT Tryd.prog 45 = some 1 ∧
    elT Tryd.prog 45 = none ∧
    zeroD Tryd.prog 45 = some .nilf ∧
    zOk Tryd.prog 45 = true ∧
    aggT Tryd.prog 46 = some false ∧
    szT Tryd.prog 46 = some 1 ∧
    elT Tryd.prog 46 = none ∧
    mapT Tryd.prog 46 = some (9, 3) ∧
    zeroD Tryd.prog 46 = some .nilm ∧
    zOk Tryd.prog 46 = true ∧
    aggT Tryd.prog 47 = some false ∧
    szT Tryd.prog 47 = some 1 ∧
    byT Tryd.prog 47 = some 24 ∧
    elT Tryd.prog 47 = some 55 ∧
    zeroD Tryd.prog 47 = some .nils ∧
    zOk Tryd.prog 47 = true ∧
    aggT Tryd.prog 48 = some true := by
  refine ⟨?_, ?_, ?_, ?_, ?_, ?_, ?_, ?_, ?_, ?_, ?_, ?_, ?_, ?_, ?_, ?_, ?_, ?_, ?_, ?_, ?_, ?_, ?_, ?_, ?_, ?_, ?_, ?_, ?_, ?_, ?_, ?_, ?_, ?_, ?_, ?_, ?_, ?_, ?_, ?_⟩ <;> kernel_rfl
theorem ty5 :
    szT Tryd.prog 48 = some 5 ∧
    byT Tryd.prog 48 = some 104 ∧
    elT Tryd.prog 48 = none ∧
    zeroD Tryd.prog 48 = some (.agg [.nils, .nils, .nils, .nilm, .nils]) ∧
    zOk Tryd.prog 48 = true ∧
    allSz Tryd.prog 48 = true ∧
    fldT Tryd.prog 48 0 = some (0, 1) ∧
    fldT Tryd.prog 48 1 = some (1, 1) ∧
    fldT Tryd.prog 48 2 = some (2, 1) ∧
    fldT Tryd.prog 48 3 = some (3, 1) ∧
    fldT Tryd.prog 48 4 = some (4, 1) ∧
    aggT Tryd.prog 49 = some true ∧
    szT Tryd.prog 49 = some 5 ∧
    byT Tryd.prog 49 = some 104 ∧
    elT Tryd.prog 49 = none ∧
    zeroD Tryd.prog 49 = some (.agg [.nils, .nils, .nils, .nilm, .nils]) ∧
    zOk Tryd.prog 49 = true ∧
    allSz Tryd.prog 49 = true ∧
    fldT Tryd.prog 49 0 = some (0, 1) ∧
    fldT Tryd.prog 49 1 = some (1, 1) ∧
    fldT Tryd.prog 49 2 = some (2, 1) ∧
    fldT Tryd.prog 49 3 = some (3, 1) ∧
    fldT Tryd.prog 49 4 = some (4, 1) ∧
    aggT Tryd.prog 50 = some false ∧
    szT Tryd.prog 50 = some 1 ∧
    elT Tryd.prog 50 = none ∧
    zeroD Tryd.prog 50 = some .nilf ∧
    zOk Tryd.prog 50 = true ∧
    aggT Tryd.prog 51 = some false ∧
    szT Tryd.prog 51 = some 1 ∧
    elT Tryd.prog 51 = none ∧
    zeroD Tryd.prog 51 = some .nilf ∧
    zOk Tryd.prog 51 = true ∧
    aggT Tryd.prog 52 = some false ∧
    szT Tryd.prog 52 = some 1 ∧
    elT Tryd.prog 52 = none ∧
    zeroD Tryd.prog 52 = some .nilf ∧
    zOk Tryd.prog 52 = true ∧
    aggT Tryd.prog 53 = some false ∧
    szT Tryd.prog 53 = some 1 := by
  refine ⟨?_, ?_, ?_, ?_, ?_, ?_, ?_, ?_, ?_, ?_, ?_, ?_, ?_, ?_, ?_, ?_, ?_, ?_, ?_, ?_, ?_, ?_, ?_, ?_, ?_, ?_, ?_, ?_, ?_, ?_, ?_, ?_, ?_, ?_, ?_, ?_, ?_, ?_, ?_, ?_⟩ <;> kernel_rfl
theorem ty6 :
    elT Tryd.prog 53 = none ∧
    zeroD Tryd.prog 53 = some .nilf ∧
    zOk Tryd.prog 53 = true ∧
    aggT Tryd.prog 54 = some true ∧
    szT Tryd.prog 54 = some 3 ∧
    byT Tryd.prog 54 = some 40 ∧
    elT Tryd.prog 54 = none ∧
    zeroD Tryd.prog 54 = some (.agg [(.int .i64 0), (.int .i64 0), .nils]) ∧
    zOk Tryd.prog 54 = true ∧
    allSz Tryd.prog 54 = true ∧
    fldT Tryd.prog 54 0 = some (0, 1) ∧
    fldT Tryd.prog 54 1 = some (1, 1) ∧
    fldT Tryd.prog 54 2 = some (2, 1) ∧
    aggT Tryd.prog 55 = some true ∧
    szT Tryd.prog 55 = some 3 ∧
    byT Tryd.prog 55 = some 40 ∧
    elT Tryd.prog 55 = none ∧
    zeroD Tryd.prog 55 = some (.agg [(.int .i64 0), (.int .i64 0), .nils]) ∧
    zOk Tryd.prog 55 = true ∧
    allSz Tryd.prog 55 = true ∧
    fldT Tryd.prog 55 0 = some (0, 1) ∧
    fldT Tryd.prog 55 1 = some (1, 1) ∧
    fldT Tryd.prog 55 2 = some (2, 1) ∧
    aggT Tryd.prog 56 = some false ∧
    szT Tryd.prog 56 = some 1 ∧
    elT Tryd.prog 56 = none ∧
    zeroD Tryd.prog 56 = some .nilf ∧
    zOk Tryd.prog 56 = true ∧
    aggT Tryd.prog 57 = some false ∧
    szT Tryd.prog 57 = some 1 ∧
    elT Tryd.prog 57 = none ∧
    zeroD Tryd.prog 57 = some .nilf ∧
    zOk Tryd.prog 57 = true ∧
    aggT Tryd.prog 58 = some false ∧
    szT Tryd.prog 58 = some 1 ∧
    elT Tryd.prog 58 = none ∧
    zeroD Tryd.prog 58 = some .nilf ∧
    zOk Tryd.prog 58 = true ∧
    aggT Tryd.prog 59 = some false ∧
    szT Tryd.prog 59 = some 1 := by
  refine ⟨?_, ?_, ?_, ?_, ?_, ?_, ?_, ?_, ?_, ?_, ?_, ?_, ?_, ?_, ?_, ?_, ?_, ?_, ?_, ?_, ?_, ?_, ?_, ?_, ?_, ?_, ?_, ?_, ?_, ?_, ?_, ?_, ?_, ?_, ?_, ?_, ?_, ?_, ?_, ?_⟩ <;> kernel_rfl
theorem ty7 :
    elT Tryd.prog 59 = none ∧
    zeroD Tryd.prog 59 = some .nilf ∧
    zOk Tryd.prog 59 = true ∧
    aggT Tryd.prog 60 = some false ∧
    szT Tryd.prog 60 = some 1 ∧
    byT Tryd.prog 60 = some 24 ∧
    elT Tryd.prog 60 = some 5 ∧
    zeroD Tryd.prog 60 = some .nils ∧
    zOk Tryd.prog 60 = true ∧
    aggT Tryd.prog 62 = some false ∧
    szT Tryd.prog 62 = some 1 ∧
    elT Tryd.prog 62 = none ∧
    zeroD Tryd.prog 62 = some .nilf ∧
    zOk Tryd.prog 62 = true ∧
    aggT Tryd.prog 63 = some false ∧
    szT Tryd.prog 63 = some 1 ∧
    elT Tryd.prog 63 = none ∧
    mapT Tryd.prog 63 = some (34, 3) ∧
    zeroD Tryd.prog 63 = some .nilm ∧
    zOk Tryd.prog 63 = true ∧
    aggT Tryd.prog 64 = some false ∧
    szT Tryd.prog 64 = some 1 ∧
    elT Tryd.prog 64 = none ∧
    zeroD Tryd.prog 64 = some .nilf ∧
    zOk Tryd.prog 64 = true ∧
    aggT Tryd.prog 65 = some false ∧
    szT Tryd.prog 65 = some 1 ∧
    elT Tryd.prog 65 = none ∧
    zeroD Tryd.prog 65 = some .nilf ∧
    zOk Tryd.prog 65 = true ∧
    aggT Tryd.prog 66 = some false ∧
    szT Tryd.prog 66 = some 1 ∧
    elT Tryd.prog 66 = none ∧
    zeroD Tryd.prog 66 = some .nilf ∧
    zOk Tryd.prog 66 = true ∧
    aggT Tryd.prog 67 = some false ∧
    szT Tryd.prog 67 = some 1 ∧
    elT Tryd.prog 67 = none ∧
    zeroD Tryd.prog 67 = some .nilf ∧
    zOk Tryd.prog 67 = true := by
  refine ⟨?_, ?_, ?_, ?_, ?_, ?_, ?_, ?_, ?_, ?_, ?_, ?_, ?_, ?_, ?_, ?_, ?_, ?_, ?_, ?_, ?_, ?_, ?_, ?_, ?_, ?_, ?_, ?_, ?_, ?_, ?_, ?_, ?_, ?_, ?_, ?_, ?_, ?_, ?_, ?_⟩ <;> kernel_rfl
theorem ty8 :
    aggT Tryd.prog 68 = some false ∧
    szT Tryd.prog 68 = some 1 ∧
    elT Tryd.prog 68 = none ∧
    mapT Tryd.prog 68 = some (9, 4) ∧
    zeroD Tryd.prog 68 = some .nilm ∧
    zOk Tryd.prog 68 = true ∧
    aggT Tryd.prog 69 = some false ∧
    szT Tryd.prog 69 = some 1 ∧
    elT Tryd.prog 69 = none ∧
    zeroD Tryd.prog 69 = some .nilf ∧
    zOk Tryd.prog 69 = true ∧
    aggT Tryd.prog 70 = some false ∧
    szT Tryd.prog 70 = some 1 ∧
    elT Tryd.prog 70 = none ∧
    zeroD Tryd.prog 70 = some .nilf ∧
    zOk Tryd.prog 70 = true ∧
    aggT Tryd.prog 71 = some false ∧
    szT Tryd.prog 71 = some 1 ∧
    elT Tryd.prog 71 = none ∧
    zeroD Tryd.prog 71 = some .nilf ∧
    zOk Tryd.prog 71 = true ∧
    aggT Tryd.prog 72 = some false ∧
    szT Tryd.prog 72 = some 1 ∧
    elT Tryd.prog 72 = none ∧
    zeroD Tryd.prog 72 = some .nilp ∧
    zOk Tryd.prog 72 = true ∧
    aggT Tryd.prog 73 = some false ∧
    szT Tryd.prog 73 = some 1 ∧
    elT Tryd.prog 73 = none ∧
    zeroD Tryd.prog 73 = some .nilf ∧
    zOk Tryd.prog 73 = true ∧
    aggT Tryd.prog 74 = some false ∧
    szT Tryd.prog 74 = some 1 ∧
    elT Tryd.prog 74 = none ∧
    zeroD Tryd.prog 74 = some .nilf ∧
    zOk Tryd.prog 74 = true ∧
    aggT Tryd.prog 75 = some false ∧
    szT Tryd.prog 75 = some 1 ∧
    byT Tryd.prog 75 = some 8 ∧
    elT Tryd.prog 75 = none := by
  refine ⟨?_, ?_, ?_, ?_, ?_, ?_, ?_, ?_, ?_, ?_, ?_, ?_, ?_, ?_, ?_, ?_, ?_, ?_, ?_, ?_, ?_, ?_, ?_, ?_, ?_, ?_, ?_, ?_, ?_, ?_, ?_, ?_, ?_, ?_, ?_, ?_, ?_, ?_, ?_, ?_⟩ <;> kernel_rfl
theorem ty9 :
    intT Tryd.prog 75 = some .u64 ∧
    zeroD Tryd.prog 75 = some (.int .u64 0) ∧
    zOk Tryd.prog 75 = true ∧
    aggT Tryd.prog 76 = some false ∧
    szT Tryd.prog 76 = some 1 ∧
    elT Tryd.prog 76 = none ∧
    zeroD Tryd.prog 76 = some .nilf ∧
    zOk Tryd.prog 76 = true ∧
    aggT Tryd.prog 77 = some false ∧
    szT Tryd.prog 77 = some 1 ∧
    elT Tryd.prog 77 = none ∧
    zeroD Tryd.prog 77 = some .nilf ∧
    zOk Tryd.prog 77 = true ∧
    aggT Tryd.prog 78 = some false ∧
    szT Tryd.prog 78 = some 1 ∧
    elT Tryd.prog 78 = none ∧
    zeroD Tryd.prog 78 = some .nilf ∧
    zOk Tryd.prog 78 = true ∧
    aggT Tryd.prog 79 = some false ∧
    szT Tryd.prog 79 = some 1 ∧
    elT Tryd.prog 79 = none ∧
    zeroD Tryd.prog 79 = some .nilf ∧
    zOk Tryd.prog 79 = true ∧
    aggT Tryd.prog 80 = some false ∧
    szT Tryd.prog 80 = some 1 ∧
    elT Tryd.prog 80 = none ∧
    zeroD Tryd.prog 80 = some .nilf ∧
    zOk Tryd.prog 80 = true ∧
    aggT Tryd.prog 81 = some false ∧
    szT Tryd.prog 81 = some 1 ∧
    elT Tryd.prog 81 = none ∧
    zeroD Tryd.prog 81 = some .nilf ∧
    zOk Tryd.prog 81 = true ∧
    aggT Tryd.prog 82 = some false ∧
    szT Tryd.prog 82 = some 1 ∧
    elT Tryd.prog 82 = none ∧
    zeroD Tryd.prog 82 = some .nilf ∧
    zOk Tryd.prog 82 = true ∧
    aggT Tryd.prog 83 = some false ∧
    szT Tryd.prog 83 = some 1 := by
  refine ⟨?_, ?_, ?_, ?_, ?_, ?_, ?_, ?_, ?_, ?_, ?_, ?_, ?_, ?_, ?_, ?_, ?_, ?_, ?_, ?_, ?_, ?_, ?_, ?_, ?_, ?_, ?_, ?_, ?_, ?_, ?_, ?_, ?_, ?_, ?_, ?_, ?_, ?_, ?_, ?_⟩ <;> kernel_rfl
theorem ty10 :
    elT Tryd.prog 83 = none ∧
    zeroD Tryd.prog 83 = some .nilf ∧
    zOk Tryd.prog 83 = true ∧
    aggT Tryd.prog 84 = some false ∧
    szT Tryd.prog 84 = some 1 ∧
    elT Tryd.prog 84 = none ∧
    zeroD Tryd.prog 84 = some .nilf ∧
    zOk Tryd.prog 84 = true ∧
    aggT Tryd.prog 85 = some false ∧
    szT Tryd.prog 85 = some 1 ∧
    byT Tryd.prog 85 = some 8 ∧
    elT Tryd.prog 85 = none ∧
    intT Tryd.prog 85 = some .i64 ∧
    zeroD Tryd.prog 85 = some (.int .i64 0) ∧
    zOk Tryd.prog 85 = true ∧
    aggT Tryd.prog 87 = some false ∧
    szT Tryd.prog 87 = some 1 ∧
    elT Tryd.prog 87 = none ∧
    zeroD Tryd.prog 87 = some .nilf ∧
    zOk Tryd.prog 87 = true ∧
    aggT Tryd.prog 88 = some false ∧
    szT Tryd.prog 88 = some 1 ∧
    elT Tryd.prog 88 = none ∧
    zeroD Tryd.prog 88 = some .nilf ∧
    zOk Tryd.prog 88 = true ∧
    aggT Tryd.prog 89 = some false ∧
    szT Tryd.prog 89 = some 1 ∧
    elT Tryd.prog 89 = none ∧
    zeroD Tryd.prog 89 = some .nilf ∧
    zOk Tryd.prog 89 = true ∧
    aggT Tryd.prog 90 = some false ∧
    szT Tryd.prog 90 = some 1 ∧
    elT Tryd.prog 90 = none ∧
    zeroD Tryd.prog 90 = some .nilf ∧
    zOk Tryd.prog 90 = true ∧
    aggT Tryd.prog 91 = some false ∧
    szT Tryd.prog 91 = some 1 ∧
    elT Tryd.prog 91 = none ∧
    zeroD Tryd.prog 91 = some .nilf ∧
    zOk Tryd.prog 91 = true := by
  refine ⟨?_, ?_, ?_, ?_, ?_, ?_, ?_, ?_, ?_, ?_, ?_, ?_, ?_, ?_, ?_, ?_, ?_, ?_, ?_, ?_, ?_, ?_, ?_, ?_, ?_, ?_, ?_, ?_, ?_, ?_, ?_, ?_, ?_, ?_, ?_, ?_, ?_, ?_, ?_, ?_⟩ <;> kernel_rfl
theorem ty11 :
    aggT Tryd.prog 92 = some false ∧
    szT Tryd.prog 92 = some 1 ∧
    byT Tryd.prog 92 = some 4 ∧
    elT Tryd.prog 92 = none ∧
    intT Tryd.prog 92 = some .u32 ∧
    zeroD Tryd.prog 92 = some (.int .u32 0) ∧
    zOk Tryd.prog 92 = true ∧
    aggT Tryd.prog 93 = some false ∧
    szT Tryd.prog 93 = some 1 ∧
    elT Tryd.prog 93 = none ∧
    zeroD Tryd.prog 93 = some .nilf ∧
    zOk Tryd.prog 93 = true ∧
    aggT Tryd.prog 94 = some false ∧
    szT Tryd.prog 94 = some 1 ∧
    byT Tryd.prog 94 = some 8 ∧
    elT Tryd.prog 94 = none ∧
    intT Tryd.prog 94 = some .u64 ∧
    zeroD Tryd.prog 94 = some (.int .u64 0) ∧
    zOk Tryd.prog 94 = true ∧
    aggT Tryd.prog 95 = some false ∧
    szT Tryd.prog 95 = some 1 ∧
    elT Tryd.prog 95 = none ∧
    zeroD Tryd.prog 95 = some .nilf ∧
    zOk Tryd.prog 95 = true ∧
    aggT Tryd.prog 96 = some false ∧
    szT Tryd.prog 96 = some 1 ∧
    elT Tryd.prog 96 = none ∧
    zeroD Tryd.prog 96 = some .nilf ∧
    zOk Tryd.prog 96 = true ∧
    aggT Tryd.prog 97 = some false ∧
    szT Tryd.prog 97 = some 1 ∧
    elT Tryd.prog 97 = none ∧
    zeroD Tryd.prog 97 = some .nilf ∧
    zOk Tryd.prog 97 = true ∧
    aggT Tryd.prog 98 = some false ∧
    szT Tryd.prog 98 = some 1 ∧
    elT Tryd.prog 98 = none ∧
    zeroD Tryd.prog 98 = some .nilf ∧
    zOk Tryd.prog 98 = true ∧
    aggT Tryd.prog 99 = some false := by
  refine ⟨?_, ?_, ?_, ?_, ?_, ?_, ?_, ?_, ?_, ?_, ?_, ?_, ?_, ?_, ?_, ?_, ?_, ?_, ?_, ?_, ?_, ?_, ?_, ?_, ?_, ?_, ?_, ?_, ?_, ?_, ?_, ?_, ?_, ?_, ?_, ?_, ?_, ?_, ?_, ?_⟩ <;> kernel_rfl
theorem ty12 :
    szT Tryd.prog 99 = some 1 ∧
    elT Tryd.prog 99 = none ∧
    zeroD Tryd.prog 99 = some .nilf ∧
    zOk Tryd.prog 99 = true ∧
    aggT Tryd.prog 100 = some false ∧
    szT Tryd.prog 100 = some 1 ∧
    elT Tryd.prog 100 = none ∧
    zeroD Tryd.prog 100 = some .nilf ∧
    zOk Tryd.prog 100 = true ∧
    aggT Tryd.prog 101 = some false ∧
    szT Tryd.prog 101 = some 1 ∧
    elT Tryd.prog 101 = none ∧
    zeroD Tryd.prog 101 = some .nilf ∧
    zOk Tryd.prog 101 = true ∧
    aggT Tryd.prog 102 = some false ∧
    szT Tryd.prog 102 = some 1 ∧
    elT Tryd.prog 102 = none ∧
    zeroD Tryd.prog 102 = some .nilf ∧
    zOk Tryd.prog 102 = true ∧
    aggT Tryd.prog 103 = some false ∧
    szT Tryd.prog 103 = some 1 ∧
    byT Tryd.prog 103 = some 8 ∧
    elT Tryd.prog 103 = none ∧
    intT Tryd.prog 103 = some .u64 ∧
    zeroD Tryd.prog 103 = some (.int .u64 0) ∧
    zOk Tryd.prog 103 = true ∧
    aggT Tryd.prog 104 = some false ∧
    szT Tryd.prog 104 = some 1 ∧
    elT Tryd.prog 104 = none ∧
    zeroD Tryd.prog 104 = some .nilf ∧
    zOk Tryd.prog 104 = true ∧
    aggT Tryd.prog 105 = some false ∧
    szT Tryd.prog 105 = some 1 ∧
    elT Tryd.prog 105 = none ∧
    zeroD Tryd.prog 105 = some .nilf ∧
    zOk Tryd.prog 105 = true ∧
    aggT Tryd.prog 106 = some false ∧
    szT Tryd.prog 106 = some 1 ∧
    elT Tryd.prog 106 = none ∧
    zeroD Tryd.prog 106 = some .nilf := by
  refine ⟨?_, ?_, ?_, ?_, ?_, ?_, ?_, ?_, ?_, ?_, ?_, ?_, ?_, ?_, ?_, ?_, ?_, ?_, ?_, ?_, ?_, ?_, ?_, ?_, ?_, ?_, ?_, ?_, ?_, ?_, ?_, ?_, ?_, ?_, ?_, ?_, ?_, ?_, ?_, ?_⟩ <;> kernel_rfl
theorem ty13 :
    zOk Tryd.prog 106 = true ∧
    aggT Tryd.prog 107 = some false ∧
    szT Tryd.prog 107 = some 1 ∧
    elT Tryd.prog 107 = none ∧
    zeroD Tryd.prog 107 = some .nilp ∧
    zOk Tryd.prog 107 = true ∧
    aggT Tryd.prog 108 = some false ∧
    szT Tryd.prog 108 = some 1 ∧
    elT Tryd.prog 108 = none ∧
    zeroD Tryd.prog 108 = some .nilf ∧
    zOk Tryd.prog 108 = true ∧
    aggT Tryd.prog 109 = some false ∧
    szT Tryd.prog 109 = some 1 ∧
    elT Tryd.prog 109 = none ∧
    zeroD Tryd.prog 109 = some .nilf ∧
    zOk Tryd.prog 109 = true ∧
    aggT Tryd.prog 110 = some false ∧
    szT Tryd.prog 110 = some 1 ∧
    elT Tryd.prog 110 = none ∧
    zeroD Tryd.prog 110 = some .nilf ∧
    zOk Tryd.prog 110 = true ∧
    aggT Tryd.prog 111 = some false ∧
    szT Tryd.prog 111 = some 1 ∧
    elT Tryd.prog 111 = none ∧
    zeroD Tryd.prog 111 = some .nilf ∧
    zOk Tryd.prog 111 = true ∧
    aggT Tryd.prog 112 = some false ∧
    szT Tryd.prog 112 = some 1 ∧
    elT Tryd.prog 112 = none ∧
    zeroD Tryd.prog 112 = some .nilf ∧
    zOk Tryd.prog 112 = true ∧
    aggT Tryd.prog 113 = some false ∧
    szT Tryd.prog 113 = some 1 ∧
    elT Tryd.prog 113 = none ∧
    zeroD Tryd.prog 113 = some .nilp ∧
    zOk Tryd.prog 113 = true ∧
    aggT Tryd.prog 115 = some false ∧
    szT Tryd.prog 115 = some 1 ∧
    elT Tryd.prog 115 = none ∧
    zeroD Tryd.prog 115 = some .nilf := by
  refine ⟨?_, ?_, ?_, ?_, ?_, ?_, ?_, ?_, ?_, ?_, ?_, ?_, ?_, ?_, ?_, ?_, ?_, ?_, ?_, ?_, ?_, ?_, ?_, ?_, ?_, ?_, ?_, ?_, ?_, ?_, ?_, ?_, ?_, ?_, ?_, ?_, ?_, ?_, ?_, ?_⟩ <;> kernel_rfl
theorem ty14 :
    zOk Tryd.prog 115 = true ∧
    aggT Tryd.prog 116 = some false ∧
    szT Tryd.prog 116 = some 1 ∧
    elT Tryd.prog 116 = none ∧
    zeroD Tryd.prog 116 = some .nilf ∧
    zOk Tryd.prog 116 = true ∧
    aggT Tryd.prog 117 = some false ∧
    szT Tryd.prog 117 = some 1 ∧
    elT Tryd.prog 117 = none ∧
    zeroD Tryd.prog 117 = some .nilf ∧
    zOk Tryd.prog 117 = true ∧
    aggT Tryd.prog 118 = some true ∧
    szT Tryd.prog 118 = some 24 ∧
    byT Tryd.prog 118 = some 24 ∧
    elT Tryd.prog 118 = none ∧
    arrT Tryd.prog 118 = some (24, 5) ∧
    zeroD Tryd.prog 118 = some (.agg [(.int .u8 0), (.int .u8 0), (.int .u8 0), (.int .u8 0), (.int .u8 0), (.int .u8 0), (.int .u8 0), (.int .u8 0), (.int .u8 0), (.int .u8 0), (.int .u8 0), (.int .u8 0), (.int .u8 0), (.int .u8 0), (.int .u8 0), (.int .u8 0), (.int .u8 0), (.int .u8 0), (.int .u8 0), (.int .u8 0), (.int .u8 0), (.int .u8 0), (.int .u8 0), (.int .u8 0)]) ∧
    zOk Tryd.prog 118 = true ∧
    aggT Tryd.prog 119 = some false ∧
    szT Tryd.prog 119 = some 1 ∧
    elT Tryd.prog 119 = none ∧
    zeroD Tryd.prog 119 = some .nilf ∧
    zOk Tryd.prog 119 = true ∧
    aggT Tryd.prog 121 = some false ∧
    szT Tryd.prog 121 = some 1 ∧
    elT Tryd.prog 121 = none ∧
    zeroD Tryd.prog 121 = some .nilf ∧
    zOk Tryd.prog 121 = true ∧
    aggT Tryd.prog 122 = some false ∧
    szT Tryd.prog 122 = some 1 ∧
    elT Tryd.prog 122 = none ∧
    zeroD Tryd.prog 122 = some .nilf ∧
    zOk Tryd.prog 122 = true ∧
    aggT Tryd.prog 123 = some false ∧
    szT Tryd.prog 123 = some 1 ∧
    elT Tryd.prog 123 = none ∧
    zeroD Tryd.prog 123 = some .nilf ∧
    zOk Tryd.prog 123 = true ∧
    aggT Tryd.prog 124 = some true ∧
    szT Tryd.prog 124 = some 20 := by
  refine ⟨?_, ?_, ?_, ?_, ?_, ?_, ?_, ?_, ?_, ?_, ?_, ?_, ?_, ?_, ?_, ?_, ?_, ?_, ?_, ?_, ?_, ?_, ?_, ?_, ?_, ?_, ?_, ?_, ?_, ?_, ?_, ?_, ?_, ?_, ?_, ?_, ?_, ?_, ?_, ?_⟩ <;> kernel_rfl
theorem ty15 :
    byT Tryd.prog 124 = some 160 ∧
    elT Tryd.prog 124 = none ∧
    arrT Tryd.prog 124 = some (20, 94) ∧
    zeroD Tryd.prog 124 = some (.agg [(.int .u64 0), (.int .u64 0), (.int .u64 0), (.int .u64 0), (.int .u64 0), (.int .u64 0), (.int .u64 0), (.int .u64 0), (.int .u64 0), (.int .u64 0), (.int .u64 0), (.int .u64 0), (.int .u64 0), (.int .u64 0), (.int .u64 0), (.int .u64 0), (.int .u64 0), (.int .u64 0), (.int .u64 0), (.int .u64 0)]) ∧
    zOk Tryd.prog 124 = true ∧
    aggT Tryd.prog 125 = some true ∧
    szT Tryd.prog 125 = some 65 ∧
    byT Tryd.prog 125 = some 65 ∧
    elT Tryd.prog 125 = none ∧
    arrT Tryd.prog 125 = some (65, 5) ∧
    zeroD Tryd.prog 125 = some (.agg [(.int .u8 0), (.int .u8 0), (.int .u8 0), (.int .u8 0), (.int .u8 0), (.int .u8 0), (.int .u8 0), (.int .u8 0), (.int .u8 0), (.int .u8 0), (.int .u8 0), (.int .u8 0), (.int .u8 0), (.int .u8 0), (.int .u8 0), (.int .u8 0), (.int .u8 0), (.int .u8 0), (.int .u8 0), (.int .u8 0), (.int .u8 0), (.int .u8 0), (.int .u8 0), (.int .u8 0), (.int .u8 0), (.int .u8 0), (.int .u8 0), (.int .u8 0), (.int .u8 0), (.int .u8 0), (.int .u8 0), (.int .u8 0), (.int .u8 0), (.int .u8 0), (.int .u8 0), (.int .u8 0), (.int .u8 0), (.int .u8 0), (.int .u8 0), (.int .u8 0), (.int .u8 0), (.int .u8 0), (.int .u8 0), (.int .u8 0), (.int .u8 0), (.int .u8 0), (.int .u8 0), (.int .u8 0), (.int .u8 0), (.int .u8 0), (.int .u8 0), (.int .u8 0), (.int .u8 0), (.int .u8 0), (.int .u8 0), (.int .u8 0), (.int .u8 0), (.int .u8 0), (.int .u8 0), (.int .u8 0), (.int .u8 0), (.int .u8 0), (.int .u8 0), (.int .u8 0), (.int .u8 0)]) ∧
    zOk Tryd.prog 125 = true ∧
    aggT Tryd.prog 126 = some true ∧
    szT Tryd.prog 126 = some 32 ∧
    byT Tryd.prog 126 = some 32 ∧
    elT Tryd.prog 126 = none ∧
    arrT Tryd.prog 126 = some (32, 5) ∧
    zeroD Tryd.prog 126 = some (.agg [(.int .u8 0), (.int .u8 0), (.int .u8 0), (.int .u8 0), (.int .u8 0), (.int .u8 0), (.int .u8 0), (.int .u8 0), (.int .u8 0), (.int .u8 0), (.int .u8 0), (.int .u8 0), (.int .u8 0), (.int .u8 0), (.int .u8 0), (.int .u8 0), (.int .u8 0), (.int .u8 0), (.int .u8 0), (.int .u8 0), (.int .u8 0), (.int .u8 0), (.int .u8 0), (.int .u8 0), (.int .u8 0), (.int .u8 0), (.int .u8 0), (.int .u8 0), (.int .u8 0), (.int .u8 0), (.int .u8 0), (.int .u8 0)]) ∧
    zOk Tryd.prog 126 = true ∧
    aggT Tryd.prog 127 = some true ∧
    szT Tryd.prog 127 = some 64 ∧
    byT Tryd.prog 127 = some 64 ∧
    elT Tryd.prog 127 = none ∧
    arrT Tryd.prog 127 = some (64, 5) ∧
    zeroD Tryd.prog 127 = some (.agg [(.int .u8 0), (.int .u8 0), (.int .u8 0), (.int .u8 0), (.int .u8 0), (.int .u8 0), (.int .u8 0), (.int .u8 0), (.int .u8 0), (.int .u8 0), (.int .u8 0), (.int .u8 0), (.int .u8 0), (.int .u8 0), (.int .u8 0), (.int .u8 0), (.int .u8 0), (.int .u8 0), (.int .u8 0), (.int .u8 0), (.int .u8 0), (.int .u8 0), (.int .u8 0), (.int .u8 0), (.int .u8 0), (.int .u8 0), (.int .u8 0), (.int .u8 0), (.int .u8 0), (.int .u8 0), (.int .u8 0), (.int .u8 0), (.int .u8 0), (.int .u8 0), (.int .u8 0), (.int .u8 0), (.int .u8 0), (.int .u8 0), (.int .u8 0), (.int .u8 0), (.int .u8 0), (.int .u8 0), (.int .u8 0), (.int .u8 0), (.int .u8 0), (.int .u8 0), (.int .u8 0), (.int .u8 0), (.int .u8 0), (.int .u8 0), (.int .u8 0), (.int .u8 0), (.int .u8 0), (.int .u8 0), (.int .u8 0), (.int .u8 0), (.int .u8 0), (.int .u8 0), (.int .u8 0), (.int .u8 0), (.int .u8 0), (.int .u8 0), (.int .u8 0), (.int .u8 0)]) ∧
    zOk Tryd.prog 127 = true ∧
    aggT Tryd.prog 128 = some false ∧
    szT Tryd.prog 128 = some 1 ∧
    elT Tryd.prog 128 = none ∧
    zeroD Tryd.prog 128 = some .nilf ∧
    zOk Tryd.prog 128 = true ∧
    aggT Tryd.prog 134 = some false ∧
    szT Tryd.prog 134 = some 1 ∧
    elT Tryd.prog 134 = none ∧
    zeroD Tryd.prog 134 = some .nilf ∧
    zOk Tryd.prog 134 = true ∧
    aggT Tryd.prog 137 = some false ∧
    szT Tryd.prog 137 = some 1 ∧
    elT Tryd.prog 137 = none ∧
    zeroD Tryd.prog 137 = some .nilf := by
  refine ⟨?_, ?_, ?_, ?_, ?_, ?_, ?_, ?_, ?_, ?_, ?_, ?_, ?_, ?_, ?_, ?_, ?_, ?_, ?_, ?_, ?_, ?_, ?_, ?_, ?_, ?_, ?_, ?_, ?_, ?_, ?_, ?_, ?_, ?_, ?_, ?_, ?_, ?_, ?_, ?_⟩ <;> kernel_rfl
theorem ty16 :
    zOk Tryd.prog 137 = true ∧
    aggT Tryd.prog 138 = some false ∧
    szT Tryd.prog 138 = some 1 ∧
    elT Tryd.prog 138 = none ∧
    zeroD Tryd.prog 138 = some .nilp ∧
    zOk Tryd.prog 138 = true := by
  refine ⟨?_, ?_, ?_, ?_, ?_, ?_⟩ <;> kernel_rfl
theorem mixed : Tryd.prog.follows .mixedOrders = true := by kernel_rfl
theorem tys :
    (aggT Tryd.prog 1 = some false ∧ szT Tryd.prog 1 = some 1 ∧ elT Tryd.prog 1 = none ∧ zeroD Tryd.prog 1 = some .nilf ∧ zOk Tryd.prog 1 = true ∧ aggT Tryd.prog 2 = some false ∧ szT Tryd.prog 2 = some 1 ∧ byT Tryd.prog 2 = some 8 ∧ elT Tryd.prog 2 = none ∧ intT Tryd.prog 2 = some .i64 ∧ zeroD Tryd.prog 2 = some (.int .i64 0) ∧ zOk Tryd.prog 2 = true ∧ aggT Tryd.prog 3 = some false ∧ szT Tryd.prog 3 = some 1 ∧ byT Tryd.prog 3 = some 8 ∧ elT Tryd.prog 3 = none ∧ intT Tryd.prog 3 = some .i64 ∧ zeroD Tryd.prog 3 = some (.int .i64 0) ∧ zOk Tryd.prog 3 = true ∧ aggT Tryd.prog 4 = some false ∧ szT Tryd.prog 4 = some 1 ∧ byT Tryd.prog 4 = some 1 ∧ elT Tryd.prog 4 = none ∧ isBoolT Tryd.prog 4 = true ∧ zeroD Tryd.prog 4 = some (.bool false) ∧ zOk Tryd.prog 4 = true ∧ aggT Tryd.prog 5 = some false ∧ szT Tryd.prog 5 = some 1 ∧ byT Tryd.prog 5 = some 1 ∧ elT Tryd.prog 5 = none ∧ intT Tryd.prog 5 = some .u8 ∧ zeroD Tryd.prog 5 = some (.int .u8 0) ∧ zOk Tryd.prog 5 = true ∧ aggT Tryd.prog 9 = some false ∧ szT Tryd.prog 9 = some 1 ∧ byT Tryd.prog 9 = some 16 ∧ elT Tryd.prog 9 = none ∧ isStrT Tryd.prog 9 = true ∧ zeroD Tryd.prog 9 = some (.str ⟨#[]⟩) ∧ zOk Tryd.prog 9 = true) ∧
    (aggT Tryd.prog 12 = some false ∧ szT Tryd.prog 12 = some 1 ∧ byT Tryd.prog 12 = some 8 ∧ elT Tryd.prog 12 = none ∧ intT Tryd.prog 12 = some .u64 ∧ zeroD Tryd.prog 12 = some (.int .u64 0) ∧ zOk Tryd.prog 12 = true ∧ aggT Tryd.prog 21 = some false ∧ szT Tryd.prog 21 = some 1 ∧ byT Tryd.prog 21 = some 4 ∧ elT Tryd.prog 21 = none ∧ intT Tryd.prog 21 = some .i32 ∧ zeroD Tryd.prog 21 = some (.int .i32 0) ∧ zOk Tryd.prog 21 = true ∧ aggT Tryd.prog 22 = some false ∧ szT Tryd.prog 22 = some 1 ∧ byT Tryd.prog 22 = some 24 ∧ elT Tryd.prog 22 = some 36 ∧ zeroD Tryd.prog 22 = some .nils ∧ zOk Tryd.prog 22 = true ∧ aggT Tryd.prog 23 = some false ∧ szT Tryd.prog 23 = some 1 ∧ elT Tryd.prog 23 = none ∧ zeroD Tryd.prog 23 = some .nilf ∧ zOk Tryd.prog 23 = true ∧ aggT Tryd.prog 24 = some false ∧ szT Tryd.prog 24 = some 1 ∧ elT Tryd.prog 24 = none ∧ zeroD Tryd.prog 24 = some .nilf ∧ zOk Tryd.prog 24 = true ∧ aggT Tryd.prog 25 = some false ∧ szT Tryd.prog 25 = some 1 ∧ byT Tryd.prog 25 = some 24 ∧ elT Tryd.prog 25 = some 32 ∧ zeroD Tryd.prog 25 = some .nils ∧ zOk Tryd.prog 25 = true ∧ aggT Tryd.prog 26 = some false ∧ szT Tryd.prog 26 = some 1 ∧ byT Tryd.prog 26 = some 8 ∧ elT Tryd.prog 26 = none) ∧
    (intT Tryd.prog 26 = some .i64 ∧ zeroD Tryd.prog 26 = some (.int .i64 0) ∧ zOk Tryd.prog 26 = true ∧ aggT Tryd.prog 28 = some false ∧ szT Tryd.prog 28 = some 1 ∧ elT Tryd.prog 28 = none ∧ zeroD Tryd.prog 28 = some .nilf ∧ zOk Tryd.prog 28 = true ∧ aggT Tryd.prog 29 = some false ∧ szT Tryd.prog 29 = some 1 ∧ byT Tryd.prog 29 = some 24 ∧ elT Tryd.prog 29 = some 4 ∧ zeroD Tryd.prog 29 = some .nils ∧ zOk Tryd.prog 29 = true ∧ aggT Tryd.prog 30 = some false ∧ szT Tryd.prog 30 = some 1 ∧ byT Tryd.prog 30 = some 24 ∧ elT Tryd.prog 30 = some 34 ∧ zeroD Tryd.prog 30 = some .nils ∧ zOk Tryd.prog 30 = true ∧ aggT Tryd.prog 31 = some true ∧ szT Tryd.prog 31 = some 2 ∧ byT Tryd.prog 31 = some 32 ∧ elT Tryd.prog 31 = none ∧ zeroD Tryd.prog 31 = some (.agg [(.bool false), .nils]) ∧ zOk Tryd.prog 31 = true ∧ allSz Tryd.prog 31 = true ∧ fldT Tryd.prog 31 0 = some (0, 1) ∧ fldT Tryd.prog 31 1 = some (1, 1) ∧ aggT Tryd.prog 32 = some true ∧ szT Tryd.prog 32 = some 2 ∧ byT Tryd.prog 32 = some 32 ∧ elT Tryd.prog 32 = none ∧ zeroD Tryd.prog 32 = some (.agg [(.bool false), .nils]) ∧ zOk Tryd.prog 32 = true ∧ allSz Tryd.prog 32 = true ∧ fldT Tryd.prog 32 0 = some (0, 1) ∧ fldT Tryd.prog 32 1 = some (1, 1) ∧ aggT Tryd.prog 33 = some true ∧ szT Tryd.prog 33 = some 2) ∧
    (byT Tryd.prog 33 = some 16 ∧ elT Tryd.prog 33 = none ∧ zeroD Tryd.prog 33 = some (.agg [(.int .i64 0), (.int .i64 0)]) ∧ zOk Tryd.prog 33 = true ∧ allSz Tryd.prog 33 = true ∧ fldT Tryd.prog 33 0 = some (0, 1) ∧ fldT Tryd.prog 33 1 = some (1, 1) ∧ aggT Tryd.prog 34 = some true ∧ szT Tryd.prog 34 = some 2 ∧ byT Tryd.prog 34 = some 16 ∧ elT Tryd.prog 34 = none ∧ zeroD Tryd.prog 34 = some (.agg [(.int .i64 0), (.int .i64 0)]) ∧ zOk Tryd.prog 34 = true ∧ allSz Tryd.prog 34 = true ∧ fldT Tryd.prog 34 0 = some (0, 1) ∧ fldT Tryd.prog 34 1 = some (1, 1) ∧ aggT Tryd.prog 35 = some false ∧ szT Tryd.prog 35 = some 1 ∧ elT Tryd.prog 35 = none ∧ zeroD Tryd.prog 35 = some .nilf ∧ zOk Tryd.prog 35 = true ∧ aggT Tryd.prog 36 = some false ∧ szT Tryd.prog 36 = some 1 ∧ byT Tryd.prog 36 = some 24 ∧ elT Tryd.prog 36 = some 3 ∧ zeroD Tryd.prog 36 = some .nils ∧ zOk Tryd.prog 36 = true ∧ aggT Tryd.prog 37 = some false ∧ szT Tryd.prog 37 = some 1 ∧ elT Tryd.prog 37 = none ∧ zeroD Tryd.prog 37 = some .nilf ∧ zOk Tryd.prog 37 = true ∧ aggT Tryd.prog 38 = some false ∧ szT Tryd.prog 38 = some 1 ∧ elT Tryd.prog 38 = none ∧ zeroD Tryd.prog 38 = some .nilf ∧ zOk Tryd.prog 38 = true ∧ aggT Tryd.prog 40 = some false ∧ szT Tryd.prog 40 = some 1 ∧ elT Tryd.prog 40 = none) ∧
    (zeroD Tryd.prog 40 = some .nilf ∧ zOk Tryd.prog 40 = true ∧ aggT Tryd.prog 41 = some false ∧ szT Tryd.prog 41 = some 1 ∧ elT Tryd.prog 41 = none ∧ zeroD Tryd.prog 41 = some .nilf ∧ zOk Tryd.prog 41 = true ∧ aggT Tryd.prog 42 = some false ∧ szT Tryd.prog 42 = some 1 ∧ elT Tryd.prog 42 = none ∧ zeroD Tryd.prog 42 = some .nilf ∧ zOk Tryd.prog 42 = true ∧ aggT Tryd.prog 43 = some false ∧ szT Tryd.prog 43 = some 1 ∧ elT Tryd.prog 43 = none ∧ zeroD Tryd.prog 43 = some .nilf ∧ zOk Tryd.prog 43 = true ∧ aggT Tryd.prog 44 = some false ∧ szT Tryd.prog 44 = some 1 ∧ elT Tryd.prog 44 = none ∧ zeroD Tryd.prog 44 = some .nilp ∧ zOk Tryd.prog 44 = true ∧ aggT Tryd.prog 45 = some false ∧ szT Tryd.prog 45 = some 1 ∧ elT Tryd.prog 45 = none ∧ zeroD Tryd.prog 45 = some .nilf ∧ zOk Tryd.prog 45 = true ∧ aggT Tryd.prog 46 = some false ∧ szT Tryd.prog 46 = some 1 ∧ elT Tryd.prog 46 = none ∧ mapT Tryd.prog 46 = some (9, 3) ∧ zeroD Tryd.prog 46 = some .nilm ∧ zOk Tryd.prog 46 = true ∧ aggT Tryd.prog 47 = some false ∧ szT Tryd.prog 47 = some 1 ∧ byT Tryd.prog 47 = some 24 ∧ elT Tryd.prog 47 = some 55 ∧ zeroD Tryd.prog 47 = some .nils ∧ zOk Tryd.prog 47 = true ∧ aggT Tryd.prog 48 = some true) ∧
    (szT Tryd.prog 48 = some 5 ∧ byT Tryd.prog 48 = some 104 ∧ elT Tryd.prog 48 = none ∧ zeroD Tryd.prog 48 = some (.agg [.nils, .nils, .nils, .nilm, .nils]) ∧ zOk Tryd.prog 48 = true ∧ allSz Tryd.prog 48 = true ∧ fldT Tryd.prog 48 0 = some (0, 1) ∧ fldT Tryd.prog 48 1 = some (1, 1) ∧ fldT Tryd.prog 48 2 = some (2, 1) ∧ fldT Tryd.prog 48 3 = some (3, 1) ∧ fldT Tryd.prog 48 4 = some (4, 1) ∧ aggT Tryd.prog 49 = some true ∧ szT Tryd.prog 49 = some 5 ∧ byT Tryd.prog 49 = some 104 ∧ elT Tryd.prog 49 = none ∧ zeroD Tryd.prog 49 = some (.agg [.nils, .nils, .nils, .nilm, .nils]) ∧ zOk Tryd.prog 49 = true ∧ allSz Tryd.prog 49 = true ∧ fldT Tryd.prog 49 0 = some (0, 1) ∧ fldT Tryd.prog 49 1 = some (1, 1) ∧ fldT Tryd.prog 49 2 = some (2, 1) ∧ fldT Tryd.prog 49 3 = some (3, 1) ∧ fldT Tryd.prog 49 4 = some (4, 1) ∧ aggT Tryd.prog 50 = some false ∧ szT Tryd.prog 50 = some 1 ∧ elT Tryd.prog 50 = none ∧ zeroD Tryd.prog 50 = some .nilf ∧ zOk Tryd.prog 50 = true ∧ aggT Tryd.prog 51 = some false ∧ szT Tryd.prog 51 = some 1 ∧ elT Tryd.prog 51 = none ∧ zeroD Tryd.prog 51 = some .nilf ∧ zOk Tryd.prog 51 = true ∧ aggT Tryd.prog 52 = some false ∧ szT Tryd.prog 52 = some 1 ∧ elT Tryd.prog 52 = none ∧ zeroD Tryd.prog 52 = some .nilf ∧ zOk Tryd.prog 52 = true ∧ aggT Tryd.prog 53 = some false ∧ szT Tryd.prog 53 = some 1) ∧
    (elT Tryd.prog 53 = none ∧ zeroD Tryd.prog 53 = some .nilf ∧ zOk Tryd.prog 53 = true ∧ aggT Tryd.prog 54 = some true ∧ szT Tryd.prog 54 = some 3 ∧ byT Tryd.prog 54 = some 40 ∧ elT Tryd.prog 54 = none ∧ zeroD Tryd.prog 54 = some (.agg [(.int .i64 0), (.int .i64 0), .nils]) ∧ zOk Tryd.prog 54 = true ∧ allSz Tryd.prog 54 = true ∧ fldT Tryd.prog 54 0 = some (0, 1) ∧ fldT Tryd.prog 54 1 = some (1, 1) ∧ fldT Tryd.prog 54 2 = some (2, 1) ∧ aggT Tryd.prog 55 = some true ∧ szT Tryd.prog 55 = some 3 ∧ byT Tryd.prog 55 = some 40 ∧ elT Tryd.prog 55 = none ∧ zeroD Tryd.prog 55 = some (.agg [(.int .i64 0), (.int .i64 0), .nils]) ∧ zOk Tryd.prog 55 = true ∧ allSz Tryd.prog 55 = true ∧ fldT Tryd.prog 55 0 = some (0, 1) ∧ fldT Tryd.prog 55 1 = some (1, 1) ∧ fldT Tryd.prog 55 2 = some (2, 1) ∧ aggT Tryd.prog 56 = some false ∧ szT Tryd.prog 56 = some 1 ∧ elT Tryd.prog 56 = none ∧ zeroD Tryd.prog 56 = some .nilf ∧ zOk Tryd.prog 56 = true ∧ aggT Tryd.prog 57 = some false ∧ szT Tryd.prog 57 = some 1 ∧ elT Tryd.prog 57 = none ∧ zeroD Tryd.prog 57 = some .nilf ∧ zOk Tryd.prog 57 = true ∧ aggT Tryd.prog 58 = some false ∧ szT Tryd.prog 58 = some 1 ∧ elT Tryd.prog 58 = none ∧ zeroD Tryd.prog 58 = some .nilf ∧ zOk Tryd.prog 58 = true ∧ aggT Tryd.prog 59 = some false ∧ szT Tryd.prog 59 = some 1) ∧
    (elT Tryd.prog 59 = none ∧ zeroD Tryd.prog 59 = some .nilf ∧ zOk Tryd.prog 59 = true ∧ aggT Tryd.prog 60 = some false ∧ szT Tryd.prog 60 = some 1 ∧ byT Tryd.prog 60 = some 24 ∧ elT Tryd.prog 60 = some 5 ∧ zeroD Tryd.prog 60 = some .nils ∧ zOk Tryd.prog 60 = true ∧ aggT Tryd.prog 62 = some false ∧ szT Tryd.prog 62 = some 1 ∧ elT Tryd.prog 62 = none ∧ zeroD Tryd.prog 62 = some .nilf ∧ zOk Tryd.prog 62 = true ∧ aggT Tryd.prog 63 = some false ∧ szT Tryd.prog 63 = some 1 ∧ elT Tryd.prog 63 = none ∧ mapT Tryd.prog 63 = some (34, 3) ∧ zeroD Tryd.prog 63 = some .nilm ∧ zOk Tryd.prog 63 = true ∧ aggT Tryd.prog 64 = some false ∧ szT Tryd.prog 64 = some 1 ∧ elT Tryd.prog 64 = none ∧ zeroD Tryd.prog 64 = some .nilf ∧ zOk Tryd.prog 64 = true ∧ aggT Tryd.prog 65 = some false ∧ szT Tryd.prog 65 = some 1 ∧ elT Tryd.prog 65 = none ∧ zeroD Tryd.prog 65 = some .nilf ∧ zOk Tryd.prog 65 = true ∧ aggT Tryd.prog 66 = some false ∧ szT Tryd.prog 66 = some 1 ∧ elT Tryd.prog 66 = none ∧ zeroD Tryd.prog 66 = some .nilf ∧ zOk Tryd.prog 66 = true ∧ aggT Tryd.prog 67 = some false ∧ szT Tryd.prog 67 = some 1 ∧ elT Tryd.prog 67 = none ∧ zeroD Tryd.prog 67 = some .nilf ∧ zOk Tryd.prog 67 = true) ∧
    (aggT Tryd.prog 68 = some false ∧ szT Tryd.prog 68 = some 1 ∧ elT Tryd.prog 68 = none ∧ mapT Tryd.prog 68 = some (9, 4) ∧ zeroD Tryd.prog 68 = some .nilm ∧ zOk Tryd.prog 68 = true ∧ aggT Tryd.prog 69 = some false ∧ szT Tryd.prog 69 = some 1 ∧ elT Tryd.prog 69 = none ∧ zeroD Tryd.prog 69 = some .nilf ∧ zOk Tryd.prog 69 = true ∧ aggT Tryd.prog 70 = some false ∧ szT Tryd.prog 70 = some 1 ∧ elT Tryd.prog 70 = none ∧ zeroD Tryd.prog 70 = some .nilf ∧ zOk Tryd.prog 70 = true ∧ aggT Tryd.prog 71 = some false ∧ szT Tryd.prog 71 = some 1 ∧ elT Tryd.prog 71 = none ∧ zeroD Tryd.prog 71 = some .nilf ∧ zOk Tryd.prog 71 = true ∧ aggT Tryd.prog 72 = some false ∧ szT Tryd.prog 72 = some 1 ∧ elT Tryd.prog 72 = none ∧ zeroD Tryd.prog 72 = some .nilp ∧ zOk Tryd.prog 72 = true ∧ aggT Tryd.prog 73 = some false ∧ szT Tryd.prog 73 = some 1 ∧ elT Tryd.prog 73 = none ∧ zeroD Tryd.prog 73 = some .nilf ∧ zOk Tryd.prog 73 = true ∧ aggT Tryd.prog 74 = some false ∧ szT Tryd.prog 74 = some 1 ∧ elT Tryd.prog 74 = none ∧ zeroD Tryd.prog 74 = some .nilf ∧ zOk Tryd.prog 74 = true ∧ aggT Tryd.prog 75 = some false ∧ szT Tryd.prog 75 = some 1 ∧ byT Tryd.prog 75 = some 8 ∧ elT Tryd.prog 75 = none) ∧
    (intT Tryd.prog 75 = some .u64 ∧ zeroD Tryd.prog 75 = some (.int .u64 0) ∧ zOk Tryd.prog 75 = true ∧ aggT Tryd.prog 76 = some false ∧ szT Tryd.prog 76 = some 1 ∧ elT Tryd.prog 76 = none ∧ zeroD Tryd.prog 76 = some .nilf ∧ zOk Tryd.prog 76 = true ∧ aggT Tryd.prog 77 = some false ∧ szT Tryd.prog 77 = some 1 ∧ elT Tryd.prog 77 = none ∧ zeroD Tryd.prog 77 = some .nilf ∧ zOk Tryd.prog 77 = true ∧ aggT Tryd.prog 78 = some false ∧ szT Tryd.prog 78 = some 1 ∧ elT Tryd.prog 78 = none ∧ zeroD Tryd.prog 78 = some .nilf ∧ zOk Tryd.prog 78 = true ∧ aggT Tryd.prog 79 = some false ∧ szT Tryd.prog 79 = some 1 ∧ elT Tryd.prog 79 = none ∧ zeroD Tryd.prog 79 = some .nilf ∧ zOk Tryd.prog 79 = true ∧ aggT Tryd.prog 80 = some false ∧ szT Tryd.prog 80 = some 1 ∧ elT Tryd.prog 80 = none ∧ zeroD Tryd.prog 80 = some .nilf ∧ zOk Tryd.prog 80 = true ∧ aggT Tryd.prog 81 = some false ∧ szT Tryd.prog 81 = some 1 ∧ elT Tryd.prog 81 = none ∧ zeroD Tryd.prog 81 = some .nilf ∧ zOk Tryd.prog 81 = true ∧ aggT Tryd.prog 82 = some false ∧ szT Tryd.prog 82 = some 1 ∧ elT Tryd.prog 82 = none ∧ zeroD Tryd.prog 82 = some .nilf ∧ zOk Tryd.prog 82 = true ∧ aggT Tryd.prog 83 = some false ∧ szT Tryd.prog 83 = some 1) ∧
    (elT Tryd.prog 83 = none ∧ zeroD Tryd.prog 83 = some .nilf ∧ zOk Tryd.prog 83 = true ∧ aggT Tryd.prog 84 = some false ∧ szT Tryd.prog 84 = some 1 ∧ elT Tryd.prog 84 = none ∧ zeroD Tryd.prog 84 = some .nilf ∧ zOk Tryd.prog 84 = true ∧ aggT Tryd.prog 85 = some false ∧ szT Tryd.prog 85 = some 1 ∧ byT Tryd.prog 85 = some 8 ∧ elT Tryd.prog 85 = none ∧ intT Tryd.prog 85 = some .i64 ∧ zeroD Tryd.prog 85 = some (.int .i64 0) ∧ zOk Tryd.prog 85 = true ∧ aggT Tryd.prog 87 = some false ∧ szT Tryd.prog 87 = some 1 ∧ elT Tryd.prog 87 = none ∧ zeroD Tryd.prog 87 = some .nilf ∧ zOk Tryd.prog 87 = true ∧ aggT Tryd.prog 88 = some false ∧ szT Tryd.prog 88 = some 1 ∧ elT Tryd.prog 88 = none ∧ zeroD Tryd.prog 88 = some .nilf ∧ zOk Tryd.prog 88 = true ∧ aggT Tryd.prog 89 = some false ∧ szT Tryd.prog 89 = some 1 ∧ elT Tryd.prog 89 = none ∧ zeroD Tryd.prog 89 = some .nilf ∧ zOk Tryd.prog 89 = true ∧ aggT Tryd.prog 90 = some false ∧ szT Tryd.prog 90 = some 1 ∧ elT Tryd.prog 90 = none ∧ zeroD Tryd.prog 90 = some .nilf ∧ zOk Tryd.prog 90 = true ∧ aggT Tryd.prog 91 = some false ∧ szT Tryd.prog 91 = some 1 ∧ elT Tryd.prog 91 = none ∧ zeroD Tryd.prog 91 = some .nilf ∧ zOk Tryd.prog 91 = true) ∧
    (aggT Tryd.prog 92 = some false ∧ szT Tryd.prog 92 = some 1 ∧ byT Tryd.prog 92 = some 4 ∧ elT Tryd.prog 92 = none ∧ intT Tryd.prog 92 = some .u32 ∧ zeroD Tryd.prog 92 = some (.int .u32 0) ∧ zOk Tryd.prog 92 = true ∧ aggT Tryd.prog 93 = some false ∧ szT Tryd.prog 93 = some 1 ∧ elT Tryd.prog 93 = none ∧ zeroD Tryd.prog 93 = some .nilf ∧ zOk Tryd.prog 93 = true ∧ aggT Tryd.prog 94 = some false ∧ szT Tryd.prog 94 = some 1 ∧ byT Tryd.prog 94 = some 8 ∧ elT Tryd.prog 94 = none ∧ intT Tryd.prog 94 = some .u64 ∧ zeroD Tryd.prog 94 = some (.int .u64 0) ∧ zOk Tryd.prog 94 = true ∧ aggT Tryd.prog 95 = some false ∧ szT Tryd.prog 95 = some 1 ∧ elT Tryd.prog 95 = none ∧ zeroD Tryd.prog 95 = some .nilf ∧ zOk Tryd.prog 95 = true ∧ aggT Tryd.prog 96 = some false ∧ szT Tryd.prog 96 = some 1 ∧ elT Tryd.prog 96 = none ∧ zeroD Tryd.prog 96 = some .nilf ∧ zOk Tryd.prog 96 = true ∧ aggT Tryd.prog 97 = some false ∧ szT Tryd.prog 97 = some 1 ∧ elT Tryd.prog 97 = none ∧ zeroD Tryd.prog 97 = some .nilf ∧ zOk Tryd.prog 97 = true ∧ aggT Tryd.prog 98 = some false ∧ szT Tryd.prog 98 = some 1 ∧ elT Tryd.prog 98 = none ∧ zeroD Tryd.prog 98 = some .nilf ∧ zOk Tryd.prog 98 = true ∧ aggT Tryd.prog 99 = some false) ∧
    (szT Tryd.prog 99 = some 1 ∧ elT Tryd.prog 99 = none ∧ zeroD Tryd.prog 99 = some .nilf ∧ zOk Tryd.prog 99 = true ∧ aggT Tryd.prog 100 = some false ∧ szT Tryd.prog 100 = some 1 ∧ elT Tryd.prog 100 = none ∧ zeroD Tryd.prog 100 = some .nilf ∧ zOk Tryd.prog 100 = true ∧ aggT Tryd.prog 101 = some false ∧ szT Tryd.prog 101 = some 1 ∧ elT Tryd.prog 101 = none ∧ zeroD Tryd.prog 101 = some .nilf ∧ zOk Tryd.prog 101 = true ∧ aggT Tryd.prog 102 = some false ∧ szT Tryd.prog 102 = some 1 ∧ elT Tryd.prog 102 = none ∧ zeroD Tryd.prog 102 = some .nilf ∧ zOk Tryd.prog 102 = true ∧ aggT Tryd.prog 103 = some false ∧ szT Tryd.prog 103 = some 1 ∧ byT Tryd.prog 103 = some 8 ∧ elT Tryd.prog 103 = none ∧ intT Tryd.prog 103 = some .u64 ∧ zeroD Tryd.prog 103 = some (.int .u64 0) ∧ zOk Tryd.prog 103 = true ∧ aggT Tryd.prog 104 = some false ∧ szT Tryd.prog 104 = some 1 ∧ elT Tryd.prog 104 = none ∧ zeroD Tryd.prog 104 = some .nilf ∧ zOk Tryd.prog 104 = true ∧ aggT Tryd.prog 105 = some false ∧ szT Tryd.prog 105 = some 1 ∧ elT Tryd.prog 105 = none ∧ zeroD Tryd.prog 105 = some .nilf ∧ zOk Tryd.prog 105 = true ∧ aggT Tryd.prog 106 = some false ∧ szT Tryd.prog 106 = some 1 ∧ elT Tryd.prog 106 = none ∧ zeroD Tryd.prog 106 = some .nilf) ∧
    (zOk Tryd.prog 106 = true ∧ aggT Tryd.prog 107 = some false ∧ szT Tryd.prog 107 = some 1 ∧ elT Tryd.prog 107 = none ∧ zeroD Tryd.prog 107 = some .nilp ∧ zOk Tryd.prog 107 = true ∧ aggT Tryd.prog 108 = some false ∧ szT Tryd.prog 108 = some 1 ∧ elT Tryd.prog 108 = none ∧ zeroD Tryd.prog 108 = some .nilf ∧ zOk Tryd.prog 108 = true ∧ aggT Tryd.prog 109 = some false ∧ szT Tryd.prog 109 = some 1 ∧ elT Tryd.prog 109 = none ∧ zeroD Tryd.prog 109 = some .nilf ∧ zOk Tryd.prog 109 = true ∧ aggT Tryd.prog 110 = some false ∧ szT Tryd.prog 110 = some 1 ∧ elT Tryd.prog 110 = none ∧ zeroD Tryd.prog 110 = some .nilf ∧ zOk Tryd.prog 110 = true ∧ aggT Tryd.prog 111 = some false ∧ szT Tryd.prog 111 = some 1 ∧ elT Tryd.prog 111 = none ∧ zeroD Tryd.prog 111 = some .nilf ∧ zOk Tryd.prog 111 = true ∧ aggT Tryd.prog 112 = some false ∧ szT Tryd.prog 112 = some 1 ∧ elT Tryd.prog 112 = none ∧ zeroD Tryd.prog 112 = some .nilf ∧ zOk Tryd.prog 112 = true ∧ aggT Tryd.prog 113 = some false ∧ szT Tryd.prog 113 = some 1 ∧ elT Tryd.prog 113 = none ∧ zeroD Tryd.prog 113 = some .nilp ∧ zOk Tryd.prog 113 = true ∧ aggT Tryd.prog 115 = some false ∧ szT Tryd.prog 115 = some 1 ∧ elT Tryd.prog 115 = none ∧ zeroD Tryd.prog 115 = some .nilf) ∧
    (zOk Tryd.prog 115 = true ∧ aggT Tryd.prog 116 = some false ∧ szT Tryd.prog 116 = some 1 ∧ elT Tryd.prog 116 = none ∧ zeroD Tryd.prog 116 = some .nilf ∧ zOk Tryd.prog 116 = true ∧ aggT Tryd.prog 117 = some false ∧ szT Tryd.prog 117 = some 1 ∧ elT Tryd.prog 117 = none ∧ zeroD Tryd.prog 117 = some .nilf ∧ zOk Tryd.prog 117 = true ∧ aggT Tryd.prog 118 = some true ∧ szT Tryd.prog 118 = some 24 ∧ byT Tryd.prog 118 = some 24 ∧ elT Tryd.prog 118 = none ∧ arrT Tryd.prog 118 = some (24, 5) ∧ zeroD Tryd.prog 118 = some (.agg [(.int .u8 0), (.int .u8 0), (.int .u8 0), (.int .u8 0), (.int .u8 0), (.int .u8 0), (.int .u8 0), (.int .u8 0), (.int .u8 0), (.int .u8 0), (.int .u8 0), (.int .u8 0), (.int .u8 0), (.int .u8 0), (.int .u8 0), (.int .u8 0), (.int .u8 0), (.int .u8 0), (.int .u8 0), (.int .u8 0), (.int .u8 0), (.int .u8 0), (.int .u8 0), (.int .u8 0)]) ∧ zOk Tryd.prog 118 = true ∧ aggT Tryd.prog 119 = some false ∧ szT Tryd.prog 119 = some 1 ∧ elT Tryd.prog 119 = none ∧ zeroD Tryd.prog 119 = some .nilf ∧ zOk Tryd.prog 119 = true ∧ aggT Tryd.prog 121 = some false ∧ szT Tryd.prog 121 = some 1 ∧ elT Tryd.prog 121 = none ∧ zeroD Tryd.prog 121 = some .nilf ∧ zOk Tryd.prog 121 = true ∧ aggT Tryd.prog 122 = some false ∧ szT Tryd.prog 122 = some 1 ∧ elT Tryd.prog 122 = none ∧ zeroD Tryd.prog 122 = some .nilf ∧ zOk Tryd.prog 122 = true ∧ aggT Tryd.prog 123 = some false ∧ szT Tryd.prog 123 = some 1 ∧ elT Tryd.prog 123 = none ∧ zeroD Tryd.prog 123 = some .nilf ∧ zOk Tryd.prog 123 = true ∧ aggT Tryd.prog 124 = some true ∧ szT Tryd.prog 124 = some 20) ∧
    (byT Tryd.prog 124 = some 160 ∧ elT Tryd.prog 124 = none ∧ arrT Tryd.prog 124 = some (20, 94) ∧ zeroD Tryd.prog 124 = some (.agg [(.int .u64 0), (.int .u64 0), (.int .u64 0), (.int .u64 0), (.int .u64 0), (.int .u64 0), (.int .u64 0), (.int .u64 0), (.int .u64 0), (.int .u64 0), (.int .u64 0), (.int .u64 0), (.int .u64 0), (.int .u64 0), (.int .u64 0), (.int .u64 0), (.int .u64 0), (.int .u64 0), (.int .u64 0), (.int .u64 0)]) ∧ zOk Tryd.prog 124 = true ∧ aggT Tryd.prog 125 = some true ∧ szT Tryd.prog 125 = some 65 ∧ byT Tryd.prog 125 = some 65 ∧ elT Tryd.prog 125 = none ∧ arrT Tryd.prog 125 = some (65, 5) ∧ zeroD Tryd.prog 125 = some (.agg [(.int .u8 0), (.int .u8 0), (.int .u8 0), (.int .u8 0), (.int .u8 0), (.int .u8 0), (.int .u8 0), (.int .u8 0), (.int .u8 0), (.int .u8 0), (.int .u8 0), (.int .u8 0), (.int .u8 0), (.int .u8 0), (.int .u8 0), (.int .u8 0), (.int .u8 0), (.int .u8 0), (.int .u8 0), (.int .u8 0), (.int .u8 0), (.int .u8 0), (.int .u8 0), (.int .u8 0), (.int .u8 0), (.int .u8 0), (.int .u8 0), (.int .u8 0), (.int .u8 0), (.int .u8 0), (.int .u8 0), (.int .u8 0), (.int .u8 0), (.int .u8 0), (.int .u8 0), (.int .u8 0), (.int .u8 0), (.int .u8 0), (.int .u8 0), (.int .u8 0), (.int .u8 0), (.int .u8 0), (.int .u8 0), (.int .u8 0), (.int .u8 0), (.int .u8 0), (.int .u8 0), (.int .u8 0), (.int .u8 0), (.int .u8 0), (.int .u8 0), (.int .u8 0), (.int .u8 0), (.int .u8 0), (.int .u8 0), (.int .u8 0), (.int .u8 0), (.int .u8 0), (.int .u8 0), (.int .u8 0), (.int .u8 0), (.int .u8 0), (.int .u8 0), (.int .u8 0), (.int .u8 0)]) ∧ zOk Tryd.prog 125 = true ∧ aggT Tryd.prog 126 = some true ∧ szT Tryd.prog 126 = some 32 ∧ byT Tryd.prog 126 = some 32 ∧ elT Tryd.prog 126 = none ∧ arrT Tryd.prog 126 = some (32, 5) ∧ zeroD Tryd.prog 126 = some (.agg [(.int .u8 0), (.int .u8 0), (.int .u8 0), (.int .u8 0), (.int .u8 0), (.int .u8 0), (.int .u8 0), (.int .u8 0), (.int .u8 0), (.int .u8 0), (.int .u8 0), (.int .u8 0), (.int .u8 0), (.int .u8 0), (.int .u8 0), (.int .u8 0), (.int .u8 0), (.int .u8 0), (.int .u8 0), (.int .u8 0), (.int .u8 0), (.int .u8 0), (.int .u8 0), (.int .u8 0), (.int .u8 0), (.int .u8 0), (.int .u8 0), (.int .u8 0), (.int .u8 0), (.int .u8 0), (.int .u8 0), (.int .u8 0)]) ∧ zOk Tryd.prog 126 = true ∧ aggT Tryd.prog 127 = some true ∧ szT Tryd.prog 127 = some 64 ∧ byT Tryd.prog 127 = some 64 ∧ elT Tryd.prog 127 = none ∧ arrT Tryd.prog 127 = some (64, 5) ∧ zeroD Tryd.prog 127 = some (.agg [(.int .u8 0), (.int .u8 0), (.int .u8 0), (.int .u8 0), (.int .u8 0), (.int .u8 0), (.int .u8 0), (.int .u8 0), (.int .u8 0), (.int .u8 0), (.int .u8 0), (.int .u8 0), (.int .u8 0), (.int .u8 0), (.int .u8 0), (.int .u8 0), (.int .u8 0), (.int .u8 0), (.int .u8 0), (.int .u8 0), (.int .u8 0), (.int .u8 0), (.int .u8 0), (.int .u8 0), (.int .u8 0), (.int .u8 0), (.int .u8 0), (.int .u8 0), (.int .u8 0), (.int .u8 0), (.int .u8 0), (.int .u8 0), (.int .u8 0), (.int .u8 0), (.int .u8 0), (.int .u8 0), (.int .u8 0), (.int .u8 0), (.int .u8 0), (.int .u8 0), (.int .u8 0), (.int .u8 0), (.int .u8 0), (.int .u8 0), (.int .u8 0), (.int .u8 0), (.int .u8 0), (.int .u8 0), (.int .u8 0), (.int .u8 0), (.int .u8 0), (.int .u8 0), (.int .u8 0), (.int .u8 0), (.int .u8 0), (.int .u8 0), (.int .u8 0), (.int .u8 0), (.int .u8 0), (.int .u8 0), (.int .u8 0), (.int .u8 0), (.int .u8 0), (.int .u8 0)]) ∧ zOk Tryd.prog 127 = true ∧ aggT Tryd.prog 128 = some false ∧ szT Tryd.prog 128 = some 1 ∧ elT Tryd.prog 128 = none ∧ zeroD Tryd.prog 128 = some .nilf ∧ zOk Tryd.prog 128 = true ∧ aggT Tryd.prog 134 = some false ∧ szT Tryd.prog 134 = some 1 ∧ elT Tryd.prog 134 = none ∧ zeroD Tryd.prog 134 = some .nilf ∧ zOk Tryd.prog 134 = true ∧ aggT Tryd.prog 137 = some false ∧ szT Tryd.prog 137 = some 1 ∧ elT Tryd.prog 137 = none ∧ zeroD Tryd.prog 137 = some .nilf) ∧
    (zOk Tryd.prog 137 = true ∧ aggT Tryd.prog 138 = some false ∧ szT Tryd.prog 138 = some 1 ∧ elT Tryd.prog 138 = none ∧ zeroD Tryd.prog 138 = some .nilp ∧ zOk Tryd.prog 138 = true) :=
  ⟨ty0, ty1, ty2, ty3, ty4, ty5, ty6, ty7, ty8, ty9, ty10, ty11, ty12, ty13, ty14, ty15, ty16⟩
end Go.Eng.Tryd

/- Rules' sides: in one piece; what may be. (and what stands behind it: texts laid together) -/
import Derived.Test.YtbnhblimckdcgaaMG4
import Derived.Test.YtbnhblimckdcgaaMR2
import Derived.Shelf.SlSortCmp.WholeK
import Derived.Shelf.SlGeneric
import Derived.Ground.SlsfProg
import Derived.Test.YtbnhblimckdcgaaProg
import Derived.Test.YtbnhblimckdcgaaMH1
set_option linter.unusedVariables false
set_option linter.unusedSimpArgs false
namespace Go.Eng.Try
open Go Go.Eng Go.Proofs Go.RowKit
open Go.Maps (Keyed)
attribute [local go_sem] evFold rnE ksE roundE frz frzs List.set_cons_zero List.set_cons_succ List.zip_cons_cons List.zip_nil_right List.foldl_cons List.foldl_nil D.flat rns AV.rn HO.rn AV.ks kss HO.ks sg dedup objKs reach passE fresh List.filter fnOf evOp opnd lk v2d v2ds just evBin intBin nilBin isNil strBin evUn evLoad ldD ldA evStore evField evIndex evBuild fillA evBuildSlice evAppend evAppendClip elems evMake evSlice evSliceO evSliceX evSliceY evViewV evStoreX evStoreT stT stI evCopyT evAppendT evAppendTD ldT ldI Tb.inn Tb.ilen Tb.nilAt Tb.ini D.put evCut evView evCopy evAppendV evAgg evMakeMap evLookup evMapUpd evRange evEntry cellsD AV.kb splice List.getLast?_append resM resAs resA resD keepL List.replicate_zero List.take_length ofInt evLen evMin evMax evConv evNil evExtract evBuiltin toD toDs allD pack splice D.comps AV.comps AV.sto D.cell D.rebuild inOrder allFlat del put setE eff gd gslot kills Option.map_some Option.map_none Option.bind_some Option.isSome_some List.map_cons List.map_nil List.append_nil List.nil_append List.cons_append List.length_cons List.length_nil List.length_map List.length_append List.take_zero List.take_succ_cons List.take_nil List.drop_zero List.drop_succ_cons List.drop_nil List.getElem?_cons_zero List.getElem?_cons_succ List.getElem?_map List.all_cons List.all_nil List.mem_cons List.not_mem_nil List.elem_cons List.elem_nil Bool.and_true Bool.true_and Bool.and_self Bool.not_true Bool.not_false Bool.or_true Bool.or_false and_self and_true true_and or_false false_or or_true true_or not_false_eq_true not_true_eq_false if_true if_false decide_true decide_false decide_eq_true_eq Int.toNat_natCast Int.toNat_zero beq_self_eq_true bne_self_eq_false Bool.false_eq_true Nat.add_zero Nat.zero_add tys room le_i lt_i eq_n le_n lt_n len0 gdE bb_tf bb_ft mapP arrL if_min tdiv_nn tmod_nn us_len us_get wrap_i64 wrap_u64 dec_lt dec_nlt dec_le dec_nle beq_t beq_f bne_t bne_f get_lt gt_iff_lt ge_iff_le
attribute [local go_sem ↓] map_P reduceIte
attribute [local go_sem] reduceCtorEq Nat.reduceEqDiff Nat.reduceAdd Nat.reduceSub Nat.reduceMul Nat.reduceLeDiff Nat.reduceLT Nat.reduceBEq Nat.reduceBNe Int.reduceToNat Int.reduceLT Int.reduceLE Int.reduceEq Int.reduceAdd Int.reduceSub Int.reduceNeg Int.reduceBEq Int.reduceBNe
attribute [local go_sem] is_len is_get
def gi (l : List Int) (i : Nat) : Int := (l[i]?).getD 0
/-- May a side be? -/
def sok (l : List Int) : Bool := allG l && decide (l.length ≤ 8)
def s8 (l : List Int) : List Int := if sok l = true then l else []
/-- A side in one piece. -/
def sd (l : List Int) : D := .agg [.int .i64 l.length, .int .i64 (gi l 0), .int .i64 (gi l 1), .int .i64 (gi l 2), .int .i64 (gi l 3), .int .i64 (gi l 4), .int .i64 (gi l 5), .int .i64 (gi l 6), .int .i64 (gi l 7)]
theorem s8_t {l : List Int} (h : sok l = true) : s8 l = l := if_pos h
theorem s8_f {l : List Int} (h : sok l = false) : s8 l = [] := if_neg (by rw [h]; simp)
set_option maxHeartbeats 4000000 in
set_option maxRecDepth 10000 in
theorem rOf {l : List Int} (hl : l.length ≤ 9223372036854775807) : Sound Try.prog 94 [.sl 1 (is l)] (.tup [sd (s8 l), .bool (sok l)]) := by
  have hc := containsF hl
  by_cases h8 : 8 < l.length
  · have e1 : sok l = false := by unfold sok; rw [decide_eq_false (by omega)]; simp
    rw [s8_f e1, e1]
    unfold sd
    refine Sound.run (N := 18) Try.func94 rfl (by kernel_rfl) rfl rfl rfl (by first | exact args0_0 | exact args0_1 | exact args0_2 | exact args0_3 | exact args0_4 | exact args0_5 | exact args0_6) fun X_ w_ => ?_
    have c0_ := hc; refine goX @gi.eq_1 ?_; first | exact trivial | skip
  cases hg : allG l
  · have e1 : sok l = false := by unfold sok; rw [hg]; rfl
    rw [hg] at hc
    rw [s8_f e1, e1]
    unfold sd
    refine Sound.run (N := 18) Try.func94 rfl (by kernel_rfl) rfl rfl rfl (by first | exact args0_0 | exact args0_1 | exact args0_2 | exact args0_3 | exact args0_4 | exact args0_5 | exact args0_6) fun X_ w_ => ?_
    have c0_ := hc; refine goX @gi.eq_1 ?_; first | exact trivial | skip
  have e1 : sok l = true := by unfold sok; rw [hg, decide_eq_true (by omega)]; rfl
  rw [s8_t e1, e1]
  rw [hg] at hc
  clear e1 hg
  unfold sd
  rcases l with _ | ⟨a0, _ | ⟨a1, _ | ⟨a2, _ | ⟨a3, _ | ⟨a4, _ | ⟨a5, _ | ⟨a6, _ | ⟨a7, _⟩⟩⟩⟩⟩⟩⟩⟩
  · refine Sound.run (N := 18) Try.func94 rfl (by kernel_rfl) rfl rfl rfl (by first | exact args0_0 | exact args0_1 | exact args0_2 | exact args0_3 | exact args0_4 | exact args0_5 | exact args0_6) fun X_ w_ => ?_
    have c0_ := hc; refine goX (And.intro @is.eq_1 @gi.eq_1) ?_; first | exact trivial | skip
  · refine Sound.run (N := 18) Try.func94 rfl (by kernel_rfl) rfl rfl rfl (by first | exact args0_0 | exact args0_1 | exact args0_2 | exact args0_3 | exact args0_4 | exact args0_5 | exact args0_6) fun X_ w_ => ?_
    have c0_ := hc; refine goX (And.intro @is.eq_1 @gi.eq_1) ?_; first | exact trivial | skip
  · refine Sound.run (N := 18) Try.func94 rfl (by kernel_rfl) rfl rfl rfl (by first | exact args0_0 | exact args0_1 | exact args0_2 | exact args0_3 | exact args0_4 | exact args0_5 | exact args0_6) fun X_ w_ => ?_
    have c0_ := hc; refine goX (And.intro @is.eq_1 @gi.eq_1) ?_; first | exact trivial | skip
  · refine Sound.run (N := 18) Try.func94 rfl (by kernel_rfl) rfl rfl rfl (by first | exact args0_0 | exact args0_1 | exact args0_2 | exact args0_3 | exact args0_4 | exact args0_5 | exact args0_6) fun X_ w_ => ?_
    have c0_ := hc; refine goX (And.intro @is.eq_1 @gi.eq_1) ?_; first | exact trivial | skip
  · refine Sound.run (N := 18) Try.func94 rfl (by kernel_rfl) rfl rfl rfl (by first | exact args0_0 | exact args0_1 | exact args0_2 | exact args0_3 | exact args0_4 | exact args0_5 | exact args0_6) fun X_ w_ => ?_
    have c0_ := hc; refine goX (And.intro @is.eq_1 @gi.eq_1) ?_; first | exact trivial | skip
  · refine Sound.run (N := 18) Try.func94 rfl (by kernel_rfl) rfl rfl rfl (by first | exact args0_0 | exact args0_1 | exact args0_2 | exact args0_3 | exact args0_4 | exact args0_5 | exact args0_6) fun X_ w_ => ?_
    have c0_ := hc; refine goX (And.intro @is.eq_1 @gi.eq_1) ?_; first | exact trivial | skip
  · refine Sound.run (N := 18) Try.func94 rfl (by kernel_rfl) rfl rfl rfl (by first | exact args0_0 | exact args0_1 | exact args0_2 | exact args0_3 | exact args0_4 | exact args0_5 | exact args0_6) fun X_ w_ => ?_
    have c0_ := hc; refine goX (And.intro @is.eq_1 @gi.eq_1) ?_; first | exact trivial | skip
  · refine Sound.run (N := 18) Try.func94 rfl (by kernel_rfl) rfl rfl rfl (by first | exact args0_0 | exact args0_1 | exact args0_2 | exact args0_3 | exact args0_4 | exact args0_5 | exact args0_6) fun X_ w_ => ?_
    have c0_ := hc; refine goX (And.intro @is.eq_1 @gi.eq_1) ?_; first | exact trivial | skip
  rename_i r
  rcases r with _ | ⟨b, r⟩
  · refine Sound.run (N := 18) Try.func94 rfl (by kernel_rfl) rfl rfl rfl (by first | exact args0_0 | exact args0_1 | exact args0_2 | exact args0_3 | exact args0_4 | exact args0_5 | exact args0_6) fun X_ w_ => ?_
    have c0_ := hc; refine goX (And.intro @is.eq_1 @gi.eq_1) ?_; first | exact trivial | skip
  · exfalso; simp only [List.length_cons] at h8; omega
end Go.Eng.Try
set_option linter.unusedVariables false
set_option linter.unusedSimpArgs false
namespace Go.Eng.Try
open Go Go.Eng Go.Proofs Go.RowKit
open Go.Maps (Keyed)
attribute [local go_sem] evFold rnE ksE roundE frz frzs List.set_cons_zero List.set_cons_succ List.zip_cons_cons List.zip_nil_right List.foldl_cons List.foldl_nil D.flat rns AV.rn HO.rn AV.ks kss HO.ks sg dedup objKs reach passE fresh List.filter fnOf evOp opnd lk v2d v2ds just evBin intBin nilBin isNil strBin evUn evLoad ldD ldA evStore evField evIndex evBuild fillA evBuildSlice evAppend evAppendClip elems evMake evSlice evSliceO evSliceX evSliceY evViewV evStoreX evStoreT stT stI evCopyT evAppendT evAppendTD ldT ldI Tb.inn Tb.ilen Tb.nilAt Tb.ini D.put evCut evView evCopy evAppendV evAgg evMakeMap evLookup evMapUpd evRange evEntry cellsD AV.kb splice List.getLast?_append resM resAs resA resD keepL List.replicate_zero List.take_length ofInt evLen evMin evMax evConv evNil evExtract evBuiltin toD toDs allD pack splice D.comps AV.comps AV.sto D.cell D.rebuild inOrder allFlat del put setE eff gd gslot kills Option.map_some Option.map_none Option.bind_some Option.isSome_some List.map_cons List.map_nil List.append_nil List.nil_append List.cons_append List.length_cons List.length_nil List.length_map List.length_append List.take_zero List.take_succ_cons List.take_nil List.drop_zero List.drop_succ_cons List.drop_nil List.getElem?_cons_zero List.getElem?_cons_succ List.getElem?_map List.all_cons List.all_nil List.mem_cons List.not_mem_nil List.elem_cons List.elem_nil Bool.and_true Bool.true_and Bool.and_self Bool.not_true Bool.not_false Bool.or_true Bool.or_false and_self and_true true_and or_false false_or or_true true_or not_false_eq_true not_true_eq_false if_true if_false decide_true decide_false decide_eq_true_eq Int.toNat_natCast Int.toNat_zero beq_self_eq_true bne_self_eq_false Bool.false_eq_true Nat.add_zero Nat.zero_add tys room le_i lt_i eq_n le_n lt_n len0 gdE bb_tf bb_ft mapP arrL if_min tdiv_nn tmod_nn us_len us_get wrap_i64 wrap_u64 dec_lt dec_nlt dec_le dec_nle beq_t beq_f bne_t bne_f get_lt gt_iff_lt ge_iff_le
attribute [local go_sem ↓] map_P reduceIte
attribute [local go_sem] reduceCtorEq Nat.reduceEqDiff Nat.reduceAdd Nat.reduceSub Nat.reduceMul Nat.reduceLeDiff Nat.reduceLT Nat.reduceBEq Nat.reduceBNe Int.reduceToNat Int.reduceLT Int.reduceLE Int.reduceEq Int.reduceAdd Int.reduceSub Int.reduceNeg Int.reduceBEq Int.reduceBNe
attribute [local go_sem] is_len is_get
theorem kl_int {d : Nat} {n : Int} (h : -9223372036854775808 ≤ n ∧ n ≤ 9223372036854775807) : Try.prog.keyLits (d + 1) 3 [.int .i64 n] = some [.int .i64 n] := by
  have hw : (Lit.int .i64 n).wf = true := by simp only [Lit.wf, Bool.and_eq_true, decide_eq_true_eq]; exact h
  unfold Program.keyLits
  rw [Try.underlying3]
  simp only [hw, and_self, if_true]
theorem c_i : Try.prog.cellsOf 3 = 1 := by kernel_rfl
theorem c_a8 : Try.prog.cellsOf 106 = 8 := by kernel_rfl
theorem c_side : Try.prog.cellsOf 108 = 9 := by kernel_rfl
theorem c_both : Try.prog.cellsOf 110 = 18 := by kernel_rfl
theorem kl_arr {d : Nat} {x0 x1 x2 x3 x4 x5 x6 x7 : Int} (h0 : -9223372036854775808 ≤ x0 ∧ x0 ≤ 9223372036854775807) (h1 : -9223372036854775808 ≤ x1 ∧ x1 ≤ 9223372036854775807) (h2 : -9223372036854775808 ≤ x2 ∧ x2 ≤ 9223372036854775807) (h3 : -9223372036854775808 ≤ x3 ∧ x3 ≤ 9223372036854775807) (h4 : -9223372036854775808 ≤ x4 ∧ x4 ≤ 9223372036854775807) (h5 : -9223372036854775808 ≤ x5 ∧ x5 ≤ 9223372036854775807) (h6 : -9223372036854775808 ≤ x6 ∧ x6 ≤ 9223372036854775807) (h7 : -9223372036854775808 ≤ x7 ∧ x7 ≤ 9223372036854775807) :
    Try.prog.keyLits (d + 2) 106 [.int .i64 x0, .int .i64 x1, .int .i64 x2, .int .i64 x3, .int .i64 x4, .int .i64 x5, .int .i64 x6, .int .i64 x7] = some [.int .i64 x0, .int .i64 x1, .int .i64 x2, .int .i64 x3, .int .i64 x4, .int .i64 x5, .int .i64 x6, .int .i64 x7] := by
  unfold Program.keyLits
  rw [Try.underlying106]
  simp only [c_a8, c_i, List.length_cons, List.length_nil, Nat.reduceAdd, if_true]
  rw [show List.range 8 = [0, 1, 2, 3, 4, 5, 6, 7] from rfl]
  simp [List.mapM_cons, kl_int h0, kl_int h1, kl_int h2, kl_int h3, kl_int h4, kl_int h5, kl_int h6, kl_int h7]
theorem kl_side {d : Nat} {n x0 x1 x2 x3 x4 x5 x6 x7 : Int} (h : -9223372036854775808 ≤ n ∧ n ≤ 9223372036854775807) (h0 : -9223372036854775808 ≤ x0 ∧ x0 ≤ 9223372036854775807) (h1 : -9223372036854775808 ≤ x1 ∧ x1 ≤ 9223372036854775807) (h2 : -9223372036854775808 ≤ x2 ∧ x2 ≤ 9223372036854775807) (h3 : -9223372036854775808 ≤ x3 ∧ x3 ≤ 9223372036854775807) (h4 : -9223372036854775808 ≤ x4 ∧ x4 ≤ 9223372036854775807) (h5 : -9223372036854775808 ≤ x5 ∧ x5 ≤ 9223372036854775807) (h6 : -9223372036854775808 ≤ x6 ∧ x6 ≤ 9223372036854775807) (h7 : -9223372036854775808 ≤ x7 ∧ x7 ≤ 9223372036854775807) :
    Try.prog.keyLits (d + 3) 108 [.int .i64 n, .int .i64 x0, .int .i64 x1, .int .i64 x2, .int .i64 x3, .int .i64 x4, .int .i64 x5, .int .i64 x6, .int .i64 x7] = some [.int .i64 n, .int .i64 x0, .int .i64 x1, .int .i64 x2, .int .i64 x3, .int .i64 x4, .int .i64 x5, .int .i64 x6, .int .i64 x7] := by
  unfold Program.keyLits
  rw [Try.underlying108]
  simp [List.mapM_cons, c_side, c_a8, c_i, kl_int h, kl_arr h0 h1 h2 h3 h4 h5 h6 h7]
theorem gi_in {l : List Int} (h : ∀ z ∈ l, -9223372036854775808 ≤ z ∧ z ≤ 9223372036854775807) (i : Nat) : -9223372036854775808 ≤ gi l i ∧ gi l i ≤ 9223372036854775807 := by
  unfold gi
  cases hq : l[i]? with
  | none => simp
  | some z => simpa using h z (List.mem_of_getElem? hq)
/-- A side's numbers fit. -/
def fits (l : List Int) : Prop := l.length ≤ 8 ∧ ∀ z ∈ l, -9223372036854775808 ≤ z ∧ z ≤ 9223372036854775807
theorem fits_s8 (l : List Int) : fits (s8 l) := by
  unfold s8
  split
  · rename_i h
    simp only [sok, Bool.and_eq_true, decide_eq_true_eq] at h
    refine ⟨h.2, fun z hz => ?_⟩
    have := List.all_eq_true.1 h.1 z hz
    simp only [gsign, decide_eq_true_eq] at this
    omega
  · exact ⟨by simp, by simp⟩
theorem keyed_side : Keyed Try.prog 108 := Keyed.of_law (deep_law_gate (by kernel_rfl) (of_decide_eq_true (by kernel_rfl)) (of_decide_eq_true (by kernel_rfl)) (by kernel_rfl) (by rw [Try.underlying108]))
theorem keyed_both : Keyed Try.prog 110 := Keyed.of_law (deep_law_gate (by kernel_rfl) (of_decide_eq_true (by kernel_rfl)) (of_decide_eq_true (by kernel_rfl)) (by kernel_rfl) (by rw [Try.underlying110]))
theorem aggok_side : AggOk Try.prog 108 := ⟨keyed_side, ⟨_, Try.underlying108, .inl ⟨_, rfl⟩⟩, by kernel_rfl⟩
theorem depth_eq : ∃ d, Try.prog.types.size + 1 = d + 4 := ⟨Try.prog.types.size - 3, by have : 3 ≤ Try.prog.types.size := of_decide_eq_true (by kernel_rfl); omega⟩
/-- Two sides in one piece. -/
def bd (a b : List Int) : D := .agg [.int .i64 a.length, .int .i64 (gi a 0), .int .i64 (gi a 1), .int .i64 (gi a 2), .int .i64 (gi a 3), .int .i64 (gi a 4), .int .i64 (gi a 5), .int .i64 (gi a 6), .int .i64 (gi a 7), .int .i64 b.length, .int .i64 (gi b 0), .int .i64 (gi b 1), .int .i64 (gi b 2), .int .i64 (gi b 3), .int .i64 (gi b 4), .int .i64 (gi b 5), .int .i64 (gi b 6), .int .i64 (gi b 7)]
theorem rep_ints {w : World} {M : Nat → Prop} {l : List Int} : RepD w M (.agg (l.map fun z => .int .i64 z)) (.agg (l.map fun z => .int .i64 z).toArray) := by
  refine .agg (by simp) (fun d hd => ?_) (fun i d v h1 h2 => ?_)
  · obtain ⟨z, _, rfl⟩ := List.mem_map.1 hd; rfl
  · rw [List.getElem?_map] at h1 h2
    cases hq : l[i]? with
    | none => rw [hq] at h1; simp at h1
    | some z => rw [hq] at h1 h2; simp at h1 h2; subst h1; subst h2; exact .int _ _
theorem pure_ints {l : List Int} : (D.agg (l.map fun z => .int .i64 z)).pure = true := by
  simp only [D.pure, List.all_eq_true]
  intro d hd
  obtain ⟨z, _, rfl⟩ := List.mem_map.1 hd; rfl
set_option maxRecDepth 100000 in
theorem keyd_side {a : List Int} (h : fits a) : KeyD Try.prog 108 (sd a) := by
  obtain ⟨d, hd⟩ := depth_eq
  have hl : -9223372036854775808 ≤ (a.length : Int) ∧ (a.length : Int) ≤ 9223372036854775807 := by have := h.1; omega
  refine ⟨pure_ints (l := [(a.length : Int), gi a 0, gi a 1, gi a 2, gi a 3, gi a 4, gi a 5, gi a 6, gi a 7]), _, .string (keyBytes [.int .i64 a.length, .int .i64 (gi a 0), .int .i64 (gi a 1), .int .i64 (gi a 2), .int .i64 (gi a 3), .int .i64 (gi a 4), .int .i64 (gi a 5), .int .i64 (gi a 6), .int .i64 (gi a 7)]), fun w M => rep_ints (l := [(a.length : Int), gi a 0, gi a 1, gi a 2, gi a 3, gi a 4, gi a 5, gi a 6, gi a 7]), ?_⟩
  · unfold keyOf
    rw [Try.underlying108]
    have hk : Try.prog.keyType 108 = true := by kernel_rfl
    have hf : (Value.agg (([(a.length : Int), gi a 0, gi a 1, gi a 2, gi a 3, gi a 4, gi a 5, gi a 6, gi a 7]).map fun z => Value.int .i64 z).toArray).formed Try.prog 108 = true := by
      simp [Value.formed, Try.underlying108, c_side]
    simp only [hk, hf, Bool.and_self, if_true, hd]
    have := kl_side (d := d + 1) hl (gi_in h.2 0) (gi_in h.2 1) (gi_in h.2 2) (gi_in h.2 3) (gi_in h.2 4) (gi_in h.2 5) (gi_in h.2 6) (gi_in h.2 7)
    simp only [Value.cells, List.map_cons, List.map_nil]
    rw [this]
    rfl
set_option maxRecDepth 100000 in
theorem kl_both {d : Nat} {a b : List Int} (ha : fits a) (hb : fits b) : Try.prog.keyLits (d + 4) 110 (([(a.length : Int), gi a 0, gi a 1, gi a 2, gi a 3, gi a 4, gi a 5, gi a 6, gi a 7, (b.length : Int), gi b 0, gi b 1, gi b 2, gi b 3, gi b 4, gi b 5, gi b 6, gi b 7]).map fun z => Value.int .i64 z) = some (([(a.length : Int), gi a 0, gi a 1, gi a 2, gi a 3, gi a 4, gi a 5, gi a 6, gi a 7, (b.length : Int), gi b 0, gi b 1, gi b 2, gi b 3, gi b 4, gi b 5, gi b 6, gi b 7]).map fun z => Lit.int .i64 z) := by
  have hla : -9223372036854775808 ≤ (a.length : Int) ∧ (a.length : Int) ≤ 9223372036854775807 := by have := ha.1; omega
  have hlb : -9223372036854775808 ≤ (b.length : Int) ∧ (b.length : Int) ≤ 9223372036854775807 := by have := hb.1; omega
  have e1 := kl_side (d := d) hla (gi_in ha.2 0) (gi_in ha.2 1) (gi_in ha.2 2) (gi_in ha.2 3) (gi_in ha.2 4) (gi_in ha.2 5) (gi_in ha.2 6) (gi_in ha.2 7)
  have e2 := kl_side (d := d) hlb (gi_in hb.2 0) (gi_in hb.2 1) (gi_in hb.2 2) (gi_in hb.2 3) (gi_in hb.2 4) (gi_in hb.2 5) (gi_in hb.2 6) (gi_in hb.2 7)
  unfold Program.keyLits
  rw [Try.underlying110]
  simp [List.mapM_cons, c_both, c_side, e1, e2]
set_option maxRecDepth 100000 in
theorem keyd_both {a b : List Int} (ha : fits a) (hb : fits b) : KeyD Try.prog 110 (bd a b) := by
  obtain ⟨d, hd⟩ := depth_eq
  refine ⟨pure_ints (l := [(a.length : Int), gi a 0, gi a 1, gi a 2, gi a 3, gi a 4, gi a 5, gi a 6, gi a 7, (b.length : Int), gi b 0, gi b 1, gi b 2, gi b 3, gi b 4, gi b 5, gi b 6, gi b 7]), _, .string (keyBytes (([(a.length : Int), gi a 0, gi a 1, gi a 2, gi a 3, gi a 4, gi a 5, gi a 6, gi a 7, (b.length : Int), gi b 0, gi b 1, gi b 2, gi b 3, gi b 4, gi b 5, gi b 6, gi b 7]).map fun z => Lit.int .i64 z)), fun w M => rep_ints (l := [(a.length : Int), gi a 0, gi a 1, gi a 2, gi a 3, gi a 4, gi a 5, gi a 6, gi a 7, (b.length : Int), gi b 0, gi b 1, gi b 2, gi b 3, gi b 4, gi b 5, gi b 6, gi b 7]), ?_⟩
  · unfold keyOf
    rw [Try.underlying110]
    have hk : Try.prog.keyType 110 = true := by kernel_rfl
    have hf : (Value.agg (([(a.length : Int), gi a 0, gi a 1, gi a 2, gi a 3, gi a 4, gi a 5, gi a 6, gi a 7, (b.length : Int), gi b 0, gi b 1, gi b 2, gi b 3, gi b 4, gi b 5, gi b 6, gi b 7]).map fun z => Value.int .i64 z).toArray).formed Try.prog 110 = true := by
      simp [Value.formed, Try.underlying110, c_both]
    simp only [hk, hf, Bool.and_self, if_true, hd]
    have := kl_both (d := d) ha hb
    show ((Try.prog.keyLits (d + 4) 110 (([(a.length : Int), gi a 0, gi a 1, gi a 2, gi a 3, gi a 4, gi a 5, gi a 6, gi a 7, (b.length : Int), gi b 0, gi b 1, gi b 2, gi b 3, gi b 4, gi b 5, gi b 6, gi b 7]).map fun z => Value.int .i64 z)).map fun ls => Lit.string (keyBytes ls)) = _
    rw [this]
    rfl
theorem gi_ext {a b : List Int} (ha : a.length ≤ 8) (hl : a.length = b.length) (h : ∀ i, i < 8 → gi a i = gi b i) : a = b := by
  refine List.ext_getElem? fun i => ?_
  by_cases hi : i < a.length
  · have := h i (by omega)
    unfold gi at this
    rw [List.getElem?_eq_getElem hi, List.getElem?_eq_getElem (by omega)] at this ⊢
    simpa using this
  · rw [List.getElem?_eq_none (by omega), List.getElem?_eq_none (by omega)]
theorem sd_inj {a b : List Int} (ha : a.length ≤ 8) (h : sd a = sd b) : a = b := by
  unfold sd at h
  simp only [D.agg.injEq, List.cons.injEq, D.int.injEq, true_and, and_true] at h
  obtain ⟨h0, g0, g1, g2, g3, g4, g5, g6, g7⟩ := h
  refine gi_ext ha (by omega) fun i hi => ?_
  match i, hi with
  | 0, _ => exact g0
  | 1, _ => exact g1
  | 2, _ => exact g2
  | 3, _ => exact g3
  | 4, _ => exact g4
  | 5, _ => exact g5
  | 6, _ => exact g6
  | 7, _ => exact g7
theorem bd_inj {a b a' b' : List Int} (ha : a.length ≤ 8) (hb : b.length ≤ 8) (h : bd a b = bd a' b') : a = a' ∧ b = b' := by
  unfold bd at h
  simp only [D.agg.injEq, List.cons.injEq, D.int.injEq, true_and, and_true] at h
  obtain ⟨h0, g0, g1, g2, g3, g4, g5, g6, g7, k0, e0, e1, e2, e3, e4, e5, e6, e7⟩ := h
  refine ⟨gi_ext ha (by omega) fun i hi => ?_, gi_ext hb (by omega) fun i hi => ?_⟩
  · match i, hi with
    | 0, _ => exact g0
    | 1, _ => exact g1
    | 2, _ => exact g2
    | 3, _ => exact g3
    | 4, _ => exact g4
    | 5, _ => exact g5
    | 6, _ => exact g6
    | 7, _ => exact g7
  · match i, hi with
    | 0, _ => exact e0
    | 1, _ => exact e1
    | 2, _ => exact e2
    | 3, _ => exact e3
    | 4, _ => exact e4
    | 5, _ => exact e5
    | 6, _ => exact e6
    | 7, _ => exact e7
end Go.Eng.Try
set_option linter.unusedVariables false
set_option linter.unusedSimpArgs false
namespace Go.Eng.Try
open Go Go.Eng Go.Proofs Go.RowKit
open Go.Maps (Keyed)
attribute [local go_sem] evFold rnE ksE roundE frz frzs List.set_cons_zero List.set_cons_succ List.zip_cons_cons List.zip_nil_right List.foldl_cons List.foldl_nil D.flat rns AV.rn HO.rn AV.ks kss HO.ks sg dedup objKs reach passE fresh List.filter fnOf evOp opnd lk v2d v2ds just evBin intBin nilBin isNil strBin evUn evLoad ldD ldA evStore evField evIndex evBuild fillA evBuildSlice evAppend evAppendClip elems evMake evSlice evSliceO evSliceX evSliceY evViewV evStoreX evStoreT stT stI evCopyT evAppendT evAppendTD ldT ldI Tb.inn Tb.ilen Tb.nilAt Tb.ini D.put evCut evView evCopy evAppendV evAgg evMakeMap evLookup evMapUpd evRange evEntry cellsD AV.kb splice List.getLast?_append resM resAs resA resD keepL List.replicate_zero List.take_length ofInt evLen evMin evMax evConv evNil evExtract evBuiltin toD toDs allD pack splice D.comps AV.comps AV.sto D.cell D.rebuild inOrder allFlat del put setE eff gd gslot kills Option.map_some Option.map_none Option.bind_some Option.isSome_some List.map_cons List.map_nil List.append_nil List.nil_append List.cons_append List.length_cons List.length_nil List.length_map List.length_append List.take_zero List.take_succ_cons List.take_nil List.drop_zero List.drop_succ_cons List.drop_nil List.getElem?_cons_zero List.getElem?_cons_succ List.getElem?_map List.all_cons List.all_nil List.mem_cons List.not_mem_nil List.elem_cons List.elem_nil Bool.and_true Bool.true_and Bool.and_self Bool.not_true Bool.not_false Bool.or_true Bool.or_false and_self and_true true_and or_false false_or or_true true_or not_false_eq_true not_true_eq_false if_true if_false decide_true decide_false decide_eq_true_eq Int.toNat_natCast Int.toNat_zero beq_self_eq_true bne_self_eq_false Bool.false_eq_true Nat.add_zero Nat.zero_add tys room le_i lt_i eq_n le_n lt_n len0 gdE bb_tf bb_ft mapP arrL if_min tdiv_nn tmod_nn us_len us_get wrap_i64 wrap_u64 dec_lt dec_nlt dec_le dec_nle beq_t beq_f bne_t bne_f get_lt gt_iff_lt ge_iff_le
attribute [local go_sem ↓] map_P reduceIte
attribute [local go_sem] reduceCtorEq Nat.reduceEqDiff Nat.reduceAdd Nat.reduceSub Nat.reduceMul Nat.reduceLeDiff Nat.reduceLT Nat.reduceBEq Nat.reduceBNe Int.reduceToNat Int.reduceLT Int.reduceLE Int.reduceEq Int.reduceAdd Int.reduceSub Int.reduceNeg Int.reduceBEq Int.reduceBNe
attribute [local go_sem] is_len is_get
def rok (r : Ru) : Bool := sok r.left && sok r.right && decide (r.left ≠ r.right) && decide (r.cost < 18446744073709551615)
theorem rok_iff {r : Ru} : rok r = true ↔ sok r.left = true ∧ sok r.right = true ∧ r.left ≠ r.right ∧ r.cost < 18446744073709551615 := by
  simp [rok, Bool.and_eq_true, and_assoc]
theorem rok_f {r : Ru} (h : ¬ (sok r.left = true ∧ sok r.right = true ∧ r.left ≠ r.right ∧ r.cost < 18446744073709551615)) : rok r = false := by
  cases hr : rok r with
  | false => rfl
  | true => exact absurd (rok_iff.1 hr) h
theorem sok_len {l : List Int} (h : sok l = true) : l.length ≤ 8 := by
  simp only [sok, Bool.and_eq_true, decide_eq_true_eq] at h
  exact h.2
set_option maxHeartbeats 4000000 in
set_option maxRecDepth 10000 in
theorem pSides {r : Ru} (hr : r.ok) : Sound Try.prog 76 [ru r] (.tup [bd (s8 r.left) (s8 r.right), .bool (rok r)]) := by
  have c1 := rOf hr.1
  have c2 := rOf hr.2.1
  have kA : (AggOk Try.prog 108 ∧ KeyD Try.prog 108 (sd (s8 r.left)) ∧ KeyD Try.prog 108 (sd (s8 r.right))) = True := eq_true ⟨aggok_side, keyd_side (fits_s8 _), keyd_side (fits_s8 _)⟩
  cases h1 : sok r.left
  · have e := rok_f (r := r) (by rw [h1]; simp)
    unfold sd at c1 c2
    unfold ru bd
    refine Sound.run (N := 37) Try.func76 rfl (by kernel_rfl) rfl rfl rfl (by first | exact args0_0 | exact args0_1 | exact args0_2 | exact args0_3 | exact args0_4 | exact args0_5 | exact args0_6) fun X_ w_ => ?_
    have c0_ := c1; have c1_ := c2; refine goX (And.intro @e @h1) ?_; first | exact trivial | skip
  cases h2 : sok r.right
  · have e := rok_f (r := r) (by rw [h2]; simp)
    unfold sd at c1 c2
    unfold ru bd
    refine Sound.run (N := 37) Try.func76 rfl (by kernel_rfl) rfl rfl rfl (by first | exact args0_0 | exact args0_1 | exact args0_2 | exact args0_3 | exact args0_4 | exact args0_5 | exact args0_6) fun X_ w_ => ?_
    have c0_ := c1; have c1_ := c2; refine goX (And.intro @e (And.intro @h1 @h2)) ?_; first | exact trivial | skip
  by_cases h3 : r.left = r.right
  · have e := rok_f (r := r) (by simp [h3])
    have sm : same (sd (s8 r.left)) (sd (s8 r.right)) = true := same_t (by rw [h3])
    have sm' : same [.int .i64 (s8 r.left).length, .int .i64 (gi (s8 r.left) 0), .int .i64 (gi (s8 r.left) 1), .int .i64 (gi (s8 r.left) 2), .int .i64 (gi (s8 r.left) 3), .int .i64 (gi (s8 r.left) 4), .int .i64 (gi (s8 r.left) 5), .int .i64 (gi (s8 r.left) 6), .int .i64 (gi (s8 r.left) 7)] [D.int .i64 (s8 r.right).length, .int .i64 (gi (s8 r.right) 0), .int .i64 (gi (s8 r.right) 1), .int .i64 (gi (s8 r.right) 2), .int .i64 (gi (s8 r.right) 3), .int .i64 (gi (s8 r.right) 4), .int .i64 (gi (s8 r.right) 5), .int .i64 (gi (s8 r.right) 6), .int .i64 (gi (s8 r.right) 7)] = true := same_t (by rw [h3])
    clear sm
    unfold sd at c1 c2 kA
    unfold ru bd
    refine Sound.run (N := 37) Try.func76 rfl (by kernel_rfl) rfl rfl rfl (by first | exact args0_0 | exact args0_1 | exact args0_2 | exact args0_3 | exact args0_4 | exact args0_5 | exact args0_6) fun X_ w_ => ?_
    have c0_ := c1; have c1_ := c2; refine goX (And.intro @e (And.intro @h1 (And.intro @h2 (And.intro @kA @sm')))) ?_; first | exact trivial | skip
  have sm' : same [.int .i64 (s8 r.left).length, .int .i64 (gi (s8 r.left) 0), .int .i64 (gi (s8 r.left) 1), .int .i64 (gi (s8 r.left) 2), .int .i64 (gi (s8 r.left) 3), .int .i64 (gi (s8 r.left) 4), .int .i64 (gi (s8 r.left) 5), .int .i64 (gi (s8 r.left) 6), .int .i64 (gi (s8 r.left) 7)] [D.int .i64 (s8 r.right).length, .int .i64 (gi (s8 r.right) 0), .int .i64 (gi (s8 r.right) 1), .int .i64 (gi (s8 r.right) 2), .int .i64 (gi (s8 r.right) 3), .int .i64 (gi (s8 r.right) 4), .int .i64 (gi (s8 r.right) 5), .int .i64 (gi (s8 r.right) 6), .int .i64 (gi (s8 r.right) 7)] = false := same_f (fun h => h3 (by
      have := sd_inj (a := s8 r.left) (b := s8 r.right) (fits_s8 _).1 (by unfold sd; rw [h])
      rwa [s8_t h1, s8_t h2] at this))
  by_cases h4 : r.cost < 18446744073709551615
  · have e := rok_iff.2 ⟨h1, h2, h3, h4⟩
    unfold sd at c1 c2 kA
    unfold ru bd
    refine Sound.run (N := 37) Try.func76 rfl (by kernel_rfl) rfl rfl rfl (by first | exact args0_0 | exact args0_1 | exact args0_2 | exact args0_3 | exact args0_4 | exact args0_5 | exact args0_6) fun X_ w_ => ?_
    have c0_ := c1; have c1_ := c2; refine goX (And.intro @e (And.intro @h1 (And.intro @h2 (And.intro @kA @sm')))) ?_; first | exact trivial | skip
  · have e := rok_f (r := r) (fun h => h4 h.2.2.2)
    unfold sd at c1 c2 kA
    unfold ru bd
    refine Sound.run (N := 37) Try.func76 rfl (by kernel_rfl) rfl rfl rfl (by first | exact args0_0 | exact args0_1 | exact args0_2 | exact args0_3 | exact args0_4 | exact args0_5 | exact args0_6) fun X_ w_ => ?_
    have c0_ := c1; have c1_ := c2; refine goX (And.intro @e (And.intro @h1 (And.intro @h2 (And.intro @kA @sm')))) ?_; first | exact trivial | skip
set_option maxHeartbeats 4000000 in
set_option maxRecDepth 10000 in
theorem pRCheck {r : Ru} (hr : r.ok) : Sound Try.prog 73 [ru r] (.bool (rok r)) := by
  have c := pSides hr
  unfold ru bd at c
  unfold ru
  refine Sound.run (N := 11) Try.func73 rfl (by kernel_rfl) rfl rfl rfl (by first | exact args0_0 | exact args0_1 | exact args0_2 | exact args0_3 | exact args0_4 | exact args0_5 | exact args0_6) fun X_ w_ => ?_
  have c0_ := c; refine goT ?_; first | exact trivial | skip
theorem rcmp_def {r s : Ru} : rcmp r s = if wcmp r.left s.left ≠ 0 then wcmp r.left s.left else if wcmp r.right s.right ≠ 0 then wcmp r.right s.right else icmp r.cost s.cost := by
  simp only [rcmp, orI]
  by_cases h1 : wcmp r.left s.left = 0
  · by_cases h2 : wcmp r.right s.right = 0
    · by_cases h3 : icmp r.cost s.cost = 0 <;> simp [h1, h2, h3]
    · simp [h1, h2]
  · simp [h1]
theorem icmp_lt {a b : Int} : (icmp a b < 0) ↔ a < b := by
  unfold icmp
  split
  · rename_i h; simp [h]
  · split <;> simp_all
theorem wcmp_eq : ∀ (a b : List Int), wcmp a b = 0 ↔ a = b
  | [], [] => by simp [wcmp]
  | [], _ :: _ => by simp [wcmp]
  | _ :: _, [] => by simp [wcmp]
  | x :: a, y :: b => by
    simp only [wcmp, List.cons.injEq]
    by_cases h : x < y
    · rw [if_pos h]; constructor <;> intro h' <;> omega
    · rw [if_neg h]
      by_cases h2 : y < x
      · rw [if_pos h2]; constructor <;> intro h' <;> omega
      · rw [if_neg h2, wcmp_eq a b]; constructor
        · intro h'; exact ⟨by omega, h'⟩
        · exact fun h' => h'.2
end Go.Eng.Try
namespace Go.Proofs
open Go.Shelf Go.RowKit Go.Lib Go.Sort
def Try.sortRule_ren : Go.Shelf.Ren := ⟨fun | 6 => 78 | 15 => 96 | 14 => 95 | 28 => 122 | 29 => 123 | 20 => 114 | 21 => 115 | 22 => 116 | 23 => 117 | 24 => 118 | 25 => 119 | 26 => 120 | 27 => 121 | 46 => 134 | 47 => 135 | 48 => 136 | 49 => 137 | 50 => 138 | 57 => 141 | n => n, fun | 22 => 23 | 24 => 34 | 25 => 116 | 3 => 3 | 39 => 119 | 0 => 0 | 53 => 143 | 55 => 22 | 4 => 4 | 46 => 154 | 45 => 153 | 50 => 53 | 5 => 5 | 9 => 9 | 66 => 168 | 70 => 172 | 76 => 175 | 77 => 176 | n => n, fun | n => n⟩
theorem Try.sortRule : Go.Proofs.SlLaysF0.n6 Try.prog Try.sortRule_ren := {
  mixed := by kernel_rfl
  f6 := ⟨Try.f78.name, by decide, Try.func78.trans (congrArg some (by kernel_rfl))⟩
  f14 := ⟨Try.f95.name, by decide, Try.func95.trans (congrArg some (by kernel_rfl))⟩
  f15 := Try.func96.trans (congrArg some (by kernel_rfl))
  f20 := ⟨Try.f114.name, by decide, Try.func114.trans (congrArg some (by kernel_rfl))⟩
  f21 := ⟨Try.f115.name, by decide, Try.func115.trans (congrArg some (by kernel_rfl))⟩
  f22 := ⟨Try.f116.name, by decide, Try.func116.trans (congrArg some (by kernel_rfl))⟩
  f23 := ⟨Try.f117.name, by decide, Try.func117.trans (congrArg some (by kernel_rfl))⟩
  f24 := ⟨Try.f118.name, by decide, Try.func118.trans (congrArg some (by kernel_rfl))⟩
  f25 := ⟨Try.f119.name, by decide, Try.func119.trans (congrArg some (by kernel_rfl))⟩
  f26 := ⟨Try.f120.name, by decide, Try.func120.trans (congrArg some (by kernel_rfl))⟩
  f27 := ⟨Try.f121.name, by decide, Try.func121.trans (congrArg some (by kernel_rfl))⟩
  f28 := Try.func122.trans (congrArg some (by kernel_rfl))
  f29 := Try.func123.trans (congrArg some (by kernel_rfl))
  f46 := ⟨Try.f134.name, by decide, Try.func134.trans (congrArg some (by kernel_rfl))⟩
  f47 := Try.func135.trans (congrArg some (by kernel_rfl))
  f48 := Try.func136.trans (congrArg some (by kernel_rfl))
  f49 := ⟨Try.f137.name, by decide, Try.func137.trans (congrArg some (by kernel_rfl))⟩
  f50 := ⟨Try.f138.name, by decide, Try.func138.trans (congrArg some (by kernel_rfl))⟩
  f57 := ⟨Try.f141.name, by decide, Try.func141.trans (congrArg some (by kernel_rfl))⟩
  t0 := Try.underlying0
  a0 := Try.isAgg0
  z0 := Try.sizeOf0
  v0 := Try.zeroValue0
  t3 := Try.underlying3
  a3 := Try.isAgg3
  z3 := Try.sizeOf3
  v3 := Try.zeroValue3
  t4 := Try.underlying4
  a4 := Try.isAgg4
  z4 := Try.sizeOf4
  v4 := Try.zeroValue4
  t5 := Try.underlying5
  a5 := Try.isAgg5
  z5 := Try.sizeOf5
  v5 := Try.zeroValue5
  t9 := Try.underlying9
  a9 := Try.isAgg9
  z9 := Try.sizeOf9
  v9 := Try.zeroValue9
  t22 := Try.underlying23
  a22 := Try.isAgg23
  z22 := Try.sizeOf23
  v22 := Try.zeroValue23
  t25 := Try.underlying116
  a25 := Try.isAgg116
  z25 := Try.sizeOf116
  v25 := Try.zeroValue116
  t39 := Try.underlying119
  a39 := Try.isAgg119
  z39 := Try.sizeOf119
  v39 := Try.zeroValue119
  t45 := Try.underlying153
  a45 := Try.isAgg153
  z45 := Try.sizeOf153
  v45 := Try.zeroValue153
  t46 := Try.underlying154
  a46 := Try.isAgg154
  z46 := Try.sizeOf154
  v46 := Try.zeroValue154
  t50 := Try.underlying53
  a50 := Try.isAgg53
  z50 := Try.sizeOf53
  v50 := Try.zeroValue53
  t53 := Try.underlying143
  a53 := Try.isAgg143
  z53 := Try.sizeOf143
  v53 := Try.zeroValue143
  t55 := Try.underlying22
  a55 := Try.isAgg22
  z55 := Try.sizeOf22
  v55 := Try.zeroValue22
  t66 := Try.underlying168
  a66 := Try.isAgg168
  z66 := Try.sizeOf168
  v66 := Try.zeroValue168
  t70 := Try.underlying172
  a70 := Try.isAgg172
  z70 := Try.sizeOf172
  v70 := Try.zeroValue172
  t76 := Try.underlying175
  a76 := Try.isAgg175
  z76 := Try.sizeOf175
  v76 := Try.zeroValue175
  t77 := Try.underlying176
  a77 := Try.isAgg176
  z77 := Try.sizeOf176
  v77 := Try.zeroValue176 }
end Go.Proofs
set_option linter.unusedVariables false
set_option linter.unusedSimpArgs false
namespace Go.Eng.Try
open Go Go.Eng Go.Proofs Go.RowKit
theorem wcmp_swap : ∀ (a b : List Int), wcmp b a = - wcmp a b
  | [], [] => by simp [wcmp]
  | [], _ :: _ => by simp [wcmp]
  | _ :: _, [] => by simp [wcmp]
  | x :: a, y :: b => by
    simp only [wcmp]
    by_cases h : x < y
    · rw [if_pos h, if_neg (by omega), if_pos h]; rfl
    · by_cases h2 : y < x
      · rw [if_pos h2, if_neg h, if_pos h2]
      · rw [if_neg h2, if_neg h, if_neg h, if_neg h2, wcmp_swap a b]
theorem wcmp_le_trans : ∀ (a b c : List Int), wcmp a b ≤ 0 → wcmp b c ≤ 0 → wcmp a c ≤ 0
  | [], b, c, _, _ => by cases c <;> simp [wcmp]
  | x :: a, [], c, h, _ => by simp [wcmp] at h
  | x :: a, y :: b, [], _, h => by simp [wcmp] at h
  | x :: a, y :: b, z :: c, h1, h2 => by
    have ih := wcmp_le_trans a b c
    simp only [wcmp] at h1 h2 ⊢
    rcases Int.lt_trichotomy x y with hxy | hxy | hxy
    · rcases Int.lt_trichotomy y z with hyz | hyz | hyz
      · rw [if_pos (by omega)]; decide
      · rw [if_pos (by omega)]; decide
      · rw [if_neg (by omega), if_pos hyz] at h2; omega
    · subst hxy
      rw [if_neg (by omega), if_neg (by omega)] at h1
      rcases Int.lt_trichotomy x z with hyz | hyz | hyz
      · rw [if_pos (by omega)]; decide
      · subst hyz
        rw [if_neg (by omega), if_neg (by omega)] at h2 ⊢
        exact ih h1 h2
      · rw [if_neg (by omega), if_pos hyz] at h2; omega
    · rw [if_neg (by omega), if_pos hxy] at h1; omega
/-- Of two words: what is behind one that is behind. -/
theorem wcmp_lt_trans {a b c : List Int} (h1 : wcmp a b < 0) (h2 : wcmp b c ≤ 0) : wcmp a c < 0 := by
  have h3 := wcmp_le_trans a b c (by omega) h2
  by_cases h : wcmp a c = 0
  · have e := (wcmp_eq _ _).1 h
    rw [← e] at h2
    have := wcmp_swap a b
    omega
  · omega
theorem wcmp_lt_trans' {a b c : List Int} (h1 : wcmp a b ≤ 0) (h2 : wcmp b c < 0) : wcmp a c < 0 := by
  have h3 := wcmp_le_trans a b c h1 (by omega)
  by_cases h : wcmp a c = 0
  · have e := (wcmp_eq _ _).1 h
    rw [e] at h1
    have := wcmp_swap c b
    omega
  · omega
/-- One stands ahead of another. -/
def rlt (r s : Ru) : Prop := wcmp r.left s.left < 0 ∨ r.left = s.left ∧ (wcmp r.right s.right < 0 ∨ r.right = s.right ∧ r.cost < s.cost)
theorem rcmp_lt {r s : Ru} : rcmp r s < 0 ↔ rlt r s := by
  rw [rcmp_def]
  unfold rlt
  have z1 := (wcmp_eq s.left s.left).2 rfl
  have z2 := (wcmp_eq s.right s.right).2 rfl
  by_cases h1 : wcmp r.left s.left = 0
  · rw [if_neg (by simpa using h1)]
    have e1 := (wcmp_eq _ _).1 h1
    by_cases h2 : wcmp r.right s.right = 0
    · rw [if_neg (by simpa using h2), icmp_lt]
      have e2 := (wcmp_eq _ _).1 h2
      simp [h1, h2, e1, e2, z1, z2]
    · rw [if_pos h2]
      have e2 : r.right ≠ s.right := fun h => h2 ((wcmp_eq _ _).2 h)
      simp [h1, e1, e2, z1]
  · rw [if_pos h1]
    have e1 : r.left ≠ s.left := fun h => h1 ((wcmp_eq _ _).2 h)
    simp [e1]
theorem rlt_irr (r : Ru) : ¬ rlt r r := by
  unfold rlt
  have h1 := (wcmp_eq r.left r.left).2 rfl
  have h2 := (wcmp_eq r.right r.right).2 rfl
  omega
theorem rlt_trans {r s t : Ru} (h1 : rlt r s) (h2 : rlt s t) : rlt r t := by
  unfold rlt at *
  rcases h1 with h1 | ⟨e1, h1⟩
  · rcases h2 with h2 | ⟨e2, h2⟩
    · exact .inl (wcmp_lt_trans h1 (by omega))
    · rw [e2] at h1; exact .inl h1
  · rcases h2 with h2 | ⟨e2, h2⟩
    · rw [e1]; exact .inl h2
    · refine .inr ⟨e1.trans e2, ?_⟩
      rcases h1 with h1 | ⟨f1, h1⟩
      · rcases h2 with h2 | ⟨f2, h2⟩
        · exact .inl (wcmp_lt_trans h1 (by omega))
        · rw [f2] at h1; exact .inl h1
      · rcases h2 with h2 | ⟨f2, h2⟩
        · rw [f1]; exact .inl h2
        · exact .inr ⟨f1.trans f2, by omega⟩
theorem rlt_total (r s : Ru) : rlt r s ∨ r = s ∨ rlt s r := by
  unfold rlt
  have w1 := wcmp_swap r.left s.left
  have w2 := wcmp_swap r.right s.right
  by_cases h1 : wcmp r.left s.left = 0
  · have e1 := (wcmp_eq _ _).1 h1
    by_cases h2 : wcmp r.right s.right = 0
    · have e2 := (wcmp_eq _ _).1 h2
      rcases Int.lt_trichotomy r.cost s.cost with h | h | h
      · exact .inl (.inr ⟨e1, .inr ⟨e2, h⟩⟩)
      · exact .inr (.inl (by cases r; cases s; simp_all))
      · exact .inr (.inr (.inr ⟨e1.symm, .inr ⟨e2.symm, h⟩⟩))
    · by_cases h3 : wcmp r.right s.right < 0
      · exact .inl (.inr ⟨e1, .inl h3⟩)
      · exact .inr (.inr (.inr ⟨e1.symm, .inl (by omega)⟩))
  · by_cases h3 : wcmp r.left s.left < 0
    · exact .inl (.inl h3)
    · exact .inr (.inr (.inl (by omega)))
theorem rlt_ntrans {r s t : Ru} (h1 : ¬ rlt r s) (h2 : ¬ rlt s t) : ¬ rlt r t := fun h => by
  rcases rlt_total r s with h3 | h3 | h3
  · exact h1 h3
  · exact h2 (h3 ▸ h)
  · exact h2 (rlt_trans h3 h)
def rs (l : List Ru) : List D := l.map ru
theorem is_inj {a b : List Int} (h : is a = is b) : a = b := by
  have := congrArg (List.map fun d => match d with | D.int _ z => z | _ => 0) h
  simpa [is, List.map_map, Function.comp_def] using this
theorem ru_inj {r s : Ru} (h : ru r = ru s) : r = s := by
  unfold ru at h
  simp only [D.agg.injEq, List.cons.injEq, D.sl.injEq, D.int.injEq, true_and, and_true] at h
  obtain ⟨h1, h2, h3⟩ := h
  cases r; cases s
  simp only at h1 h2 h3
  rw [is_inj h1, is_inj h2, h3]
open Classical in
noncomputable def unru (d : D) : Ru := if h : ∃ r, d = ru r then h.choose else default
theorem unru_ru (r : Ru) : unru (ru r) = r := by
  unfold unru
  have h : ∃ r', ru r = ru r' := ⟨r, rfl⟩
  rw [dif_pos h]
  exact (ru_inj h.choose_spec).symm
theorem pSort {xs ys : List Ru} (hok : ∀ r ∈ xs, r.ok) (h0 : 0 < xs.length) (hmax : xs.length < 4611686018427387904) (hp : ys.Perm xs) (hs : ys.Pairwise (fun a b => ¬ rlt b a)) :
    SoundM Try.prog 78 [.own 0 xs.length, .d (.fn 79)] [(0, .row 34 3 (rs xs))] (.tup []) [(0, .row 34 3 (rs ys))] 1 := by
  have eg : ∀ args w, (callFunc 79 args).run Try.prog w = .ok (.enter 79 args) w := enters_of Try.func79 (by kernel_rfl) rfl
  have hlen : (rs xs).length = xs.length := by simp [rs]
  have gd : ∀ x, (∃ r : Ru, r.ok ∧ x = ru r) → ru (unru x) = x ∧ (unru x).ok := fun x ⟨r, h1, h2⟩ => by rw [h2, unru_ru]; exact ⟨rfl, h1⟩
  have := sort_sound (P := Try.prog) Try.sortRule (sz := 3) (by decide) Try.isAgg34 Try.sizeOf34 eg (Good := fun x => ∃ r : Ru, r.ok ∧ x = ru r) (cf := fun x y => rcmp (unru x) (unru y))
    (fun x y hx hy => by
      have := pCompare (gd x hx).2 (gd y hy).2
      rwa [(gd x hx).1, (gd y hy).1] at this)
    (fun x hx => by rw [rcmp_lt]; exact rlt_irr _) (fun x y z _ _ _ h1 h2 => by rw [rcmp_lt] at *; exact rlt_trans h1 h2) (fun x y z _ _ _ h1 h2 => by rw [rcmp_lt] at *; exact rlt_ntrans h1 h2)
    (fun x y hx hy h1 h2 => by
      rw [rcmp_lt] at h1 h2
      rcases rlt_total (unru x) (unru y) with h | h | h
      · exact absurd h h1
      · rw [← (gd x hx).1, ← (gd y hy).1, h]
      · exact absurd h h2)
    (fun x ⟨r, _, h⟩ => ⟨_, h⟩) (e := 34) (xs := rs xs) (ys := rs ys) (fun x hx => by
      obtain ⟨r, hr, rfl⟩ := List.mem_map.1 hx
      exact ⟨r, hok r hr, rfl⟩) (by rw [hlen]; exact h0) (by rw [hlen]; exact hmax) (hp.map ru) (by
      unfold rs
      rw [List.pairwise_map]
      exact hs.imp (fun {a b} h => by rw [unru_ru, unru_ru, rcmp_lt]; exact h))
  rw [hlen] at this
  exact this
end Go.Eng.Try

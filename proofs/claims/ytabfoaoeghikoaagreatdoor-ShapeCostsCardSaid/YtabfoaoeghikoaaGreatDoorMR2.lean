/- Rules: what is good, what stands ahead. (and what stands behind it: texts laid together) -/
import Derived.Test.YtabfoaoeghikoaaGreatDoorMG4
import Derived.Test.YtabfoaoeghikoaaGreatDoorMR1
import Derived.Shelf.SlSortCmp.WholeK
import Derived.Shelf.SlGeneric
import Derived.Ground.SlsfProg
import Derived.Test.YtabfoaoeghikoaaGreatDoorProg
set_option maxHeartbeats 32000000
set_option maxRecDepth 100000
set_option linter.unusedVariables false
set_option linter.unusedSimpArgs false
namespace Go.Eng.Tryz
open Go Go.Eng Go.Proofs Go.RowKit
attribute [local go_sem] is_len is_get
def gsign (z : Int) : Bool := decide (0 ≤ z ∧ z ≤ 1114111 ∧ (z < 55296 ∨ 57343 < z))
theorem gsign_t {z : Int} (h : 0 ≤ z ∧ z ≤ 1114111 ∧ (z < 55296 ∨ 57343 < z)) : gsign z = true := decide_eq_true h
theorem gsign_f {z : Int} (h : ¬ (0 ≤ z ∧ z ≤ 1114111 ∧ (z < 55296 ∨ 57343 < z))) : gsign z = false := decide_eq_false h
theorem utfGood {z : Int} : Sound Tryz.prog 81 [.int .i64 z] (.bool (gsign z)) := by
  by_cases h1 : z < 0
  · have e := gsign_f (z := z) (by omega)
    refine Sound.run (N := 13) Tryz.func81 rfl (by kernel_rfl) rfl rfl rfl (by exact args0_1) fun X_ w_ => ?_
    refine goX @e ?_; try exact trivial
  by_cases h2 : 1114111 < z
  · have e := gsign_f (z := z) (by omega)
    refine Sound.run (N := 13) Tryz.func81 rfl (by kernel_rfl) rfl rfl rfl (by exact args0_1) fun X_ w_ => ?_
    refine goX @e ?_; try exact trivial
  by_cases h3 : z < 55296
  · have e := gsign_t (z := z) (by omega)
    refine Sound.run (N := 13) Tryz.func81 rfl (by kernel_rfl) rfl rfl rfl (by exact args0_1) fun X_ w_ => ?_
    refine goX @e ?_; try exact trivial
  by_cases h4 : 57343 < z
  · have e := gsign_t (z := z) (by omega)
    refine Sound.run (N := 13) Tryz.func81 rfl (by kernel_rfl) rfl rfl rfl (by exact args0_1) fun X_ w_ => ?_
    refine goX @e ?_; try exact trivial
  · have e := gsign_f (z := z) (by omega)
    refine Sound.run (N := 13) Tryz.func81 rfl (by kernel_rfl) rfl rfl rfl (by exact args0_1) fun X_ w_ => ?_
    refine goX @e ?_; try exact trivial
theorem of1 {z : Int} : Sound Tryz.prog 184 [.int .i64 z] (.bool (!gsign z)) := by
  refine Sound.run (N := 6) Tryz.func184 rfl (by kernel_rfl) rfl rfl rfl (by exact args0_1) fun X_ w_ => ?_
  have c0_ := @utfGood; refine goT ?_; try exact trivial
def allG (l : List Int) : Bool := l.all gsign
theorem allG_step {l : List Int} {k : Nat} (h : k < l.length) : allG (l.take (k + 1)) = (allG (l.take k) && gsign (l[k]!)) := by
  unfold allG
  rw [List.take_add_one, List.all_append, List.getElem?_eq_getElem h, ← getElem!_pos l k h]
  generalize l[k]! = z
  simp
theorem allG_at {l : List Int} {k : Nat} (h : k < l.length) (hb : gsign (l[k]!) = false) : allG l = false := by
  cases hf : allG l with
  | false => rfl
  | true =>
    have := List.all_eq_true.1 hf (l[k]!) (by rw [getElem!_pos l k h]; exact List.getElem_mem h)
    rw [hb] at this; cases this
def badI (l : List Int) : Int := if allG l = true then -1 else (l.findIdx (fun z => !gsign z) : Nat)
theorem badI_at {l : List Int} {k : Nat} (h : k < l.length) (hk : allG (l.take k) = true) (hb : gsign (l[k]!) = false) : badI l = (k : Int) := by
  unfold badI
  rw [if_neg (by rw [allG_at h hb]; simp)]
  congr 1
  rw [List.findIdx_eq h]
  refine ⟨by rw [← getElem!_pos l k h, hb]; rfl, fun j hj => ?_⟩
  have hm : l[j] ∈ l.take k := by
    have : (l.take k)[j]? = some l[j] := by rw [List.getElem?_take, if_pos hj, List.getElem?_eq_getElem (by omega)]
    exact List.mem_of_getElem? this
  have := List.all_eq_true.1 hk _ hm
  rw [this]; rfl
theorem indexF {l : List Int} (hl : l.length ≤ 9223372036854775807) : Sound Tryz.prog 130 [.sl 1 (is l), .fn 184] (.int .i64 (badI l)) := by
  refine Sound.run (N := 19) Tryz.func130 rfl (by kernel_rfl) rfl rfl rfl (by exact args0_2) fun X_ w_ => ?_
  refine goT ?_; try exact trivial
  refine WP_loopk (fun k : Nat => k ≤ l.length ∧ allG (l.take k) = true) (fun k => [(0, .d (.sl 1 (is l))), (1, .d (.fn 184)), (7, .d (.int .i64 l.length)), (8, .d (.int .i64 k))]) (fun _ => []) 0 (fun k => l.length - k) [0, 1, 7, 8] [] 0 ⟨Nat.zero_le _, rfl⟩ rfl rfl (Nat.le_refl _) (fun _ _ => rfl) (fun _ _ => rfl) fun k hk => ?_
  obtain ⟨hk1, hw⟩ := hk
  by_cases hk' : k < l.length
  · have hst := allG_step hk'
    cases hg : gsign (l[k]!)
    · have e := badI_at hk' hw hg
      have eg : (!gsign (l[k]!)) = true := by rw [hg]; rfl
      have c0_ := @of1; refine goX (And.intro @e @eg) ?_; try exact trivial
    · rw [hw, hg] at hst
      have eg : (!gsign (l[k]!)) = false := by rw [hg]; rfl
      have c0_ := @of1; refine goX @eg ?_; try exact trivial
      refine ⟨k + 1, ⟨by omega, hst⟩, ?_, rfl, by omega⟩
      simp (disch := omega) only [go_sem, keepL, Int.natCast_add, Int.cast_ofNat_Int]
  · have hkl : k = l.length := by omega
    subst hkl
    rw [List.take_length] at hw
    have e : badI l = -1 := by unfold badI; rw [if_pos hw]
    refine goX @e ?_; try exact trivial
theorem badI_ge (l : List Int) : decide (0 ≤ badI l) = !allG l := by
  unfold badI
  cases h : allG l
  · rw [if_neg (by simp)]; simp
  · rw [if_pos rfl]; rfl
theorem containsF {l : List Int} (hl : l.length ≤ 9223372036854775807) : Sound Tryz.prog 92 [.sl 1 (is l), .fn 184] (.bool (!allG l)) := by
  have e := badI_ge l
  refine Sound.run (N := 9) Tryz.func92 rfl (by kernel_rfl) rfl rfl rfl (by exact args0_2) fun X_ w_ => ?_
  have c0_ := indexF hl; refine goX @e ?_; try exact trivial
def orI : List Int → Int
  | [] => 0
  | x :: r => if x = 0 then orI r else x
theorem cmpOr {l : List Int} (hl : l.length ≤ 9223372036854775807) : Sound Tryz.prog 49 [.sl 1 (is l)] (.int .i64 (orI l)) := by
  refine Sound.run (N := 18) Tryz.func49 rfl (by kernel_rfl) rfl rfl rfl (by exact args0_1) fun X_ w_ => ?_
  refine goT ?_; try exact trivial
  refine WP_loopk (fun k : Nat => k ≤ l.length ∧ orI (l.drop k) = orI l) (fun k => [(3, .d (.int .i64 0)), (6, .d (.sl 1 (is l))), (7, .d (.int .i64 l.length)), (8, .d (.int .i64 k))]) (fun _ => []) 0 (fun k => l.length - k) [3, 6, 7, 8] [] 0 ⟨Nat.zero_le _, rfl⟩ rfl rfl (Nat.le_refl _) (fun _ _ => rfl) (fun _ _ => rfl) fun k hk => ?_
  obtain ⟨hk1, hw⟩ := hk
  by_cases hk' : k < l.length
  · rw [drop_at hk'] at hw
    simp only [orI] at hw
    by_cases hz : l[k]! = 0
    · rw [if_pos hz] at hw
      refine goX @hz ?_; try exact trivial
      refine ⟨k + 1, ⟨by omega, hw⟩, ?_, rfl, by omega⟩
      simp (disch := omega) only [go_sem, keepL, Int.natCast_add, Int.cast_ofNat_Int]
    · rw [if_neg hz] at hw
      refine goX (hw.symm) ?_; try exact trivial
  · rw [List.drop_eq_nil_of_le (by omega)] at hw
    have e : orI l = 0 := hw.symm
    refine goX @e ?_; try exact trivial
theorem isNaNu {a : Int} : Sound Tryz.prog 193 [.int .u64 a] (.bool false) := by
  have e : (a != a) = false := by simp
  refine Sound.run (N := 6) Tryz.func193 rfl (by kernel_rfl) rfl rfl rfl (by exact args0_1) fun X_ w_ => ?_
  refine goX @e ?_; try exact trivial
theorem cmpCompareU {a b : Int} : Sound Tryz.prog 170 [.int .u64 a, .int .u64 b] (.int .i64 (icmp a b)) := by
  by_cases h1 : a < b
  · have e : icmp a b = -1 := by unfold icmp; rw [if_pos h1]
    refine Sound.run (N := 20) Tryz.func170 rfl (by kernel_rfl) rfl rfl rfl (by exact args0_2) fun X_ w_ => ?_
    have c0_ := @isNaNu; refine goX @e ?_; try exact trivial
  · by_cases h2 : b < a
    · have e : icmp a b = 1 := by unfold icmp; rw [if_neg h1, if_pos h2]
      refine Sound.run (N := 20) Tryz.func170 rfl (by kernel_rfl) rfl rfl rfl (by exact args0_2) fun X_ w_ => ?_
      have c0_ := @isNaNu; refine goX @e ?_; try exact trivial
    · have e : icmp a b = 0 := by unfold icmp; rw [if_neg h1, if_neg h2]
      refine Sound.run (N := 20) Tryz.func170 rfl (by kernel_rfl) rfl rfl rfl (by exact args0_2) fun X_ w_ => ?_
      have c0_ := @isNaNu; refine goX @e ?_; try exact trivial
structure Ru where
  left : List Int
  right : List Int
  cost : Int
deriving DecidableEq
instance : Inhabited Ru := ⟨⟨[], [], 0⟩⟩
def ru (r : Ru) : D := .agg [.sl 1 (is r.left), .sl 1 (is r.right), .int .u64 r.cost]
def Ru.ok (r : Ru) : Prop := r.left.length ≤ 9223372036854775807 ∧ r.right.length ≤ 9223372036854775807 ∧ 0 ≤ r.cost ∧ r.cost ≤ 18446744073709551615
def rcmp (r s : Ru) : Int := orI [wcmp r.left s.left, wcmp r.right s.right, icmp r.cost s.cost]
theorem pCompare {r s : Ru} (hr : r.ok) (hs : s.ok) : Sound Tryz.prog 129 [ru r, ru s] (.int .i64 (rcmp r s)) := by
  have c := cmpOr (l := [wcmp r.left s.left, wcmp r.right s.right, icmp r.cost s.cost]) (by simp)
  unfold ru
  refine Sound.run (N := 22) Tryz.func129 rfl (by kernel_rfl) rfl rfl rfl (by exact args0_2) fun X_ w_ => ?_
  have c0_ := sCompare hr.1 hs.1; have c1_ := sCompare hr.2.1 hs.2.1; have c2_ := @cmpCompareU; have c3_ := c; refine goT ?_; try exact trivial
end Go.Eng.Tryz
set_option linter.unusedVariables false
set_option linter.unusedSimpArgs false
namespace Go.Eng.Tryz
open Go Go.Eng Go.Proofs Go.RowKit
open Go.Maps (Keyed)
attribute [local go_sem] is_len is_get
def gi (l : List Int) (i : Nat) : Int := (l[i]?).getD 0
def sok (l : List Int) : Bool := allG l && decide (l.length ≤ 8)
def s8 (l : List Int) : List Int := if sok l = true then l else []
def sd (l : List Int) : D := .agg [.int .i64 l.length, .int .i64 (gi l 0), .int .i64 (gi l 1), .int .i64 (gi l 2), .int .i64 (gi l 3), .int .i64 (gi l 4), .int .i64 (gi l 5), .int .i64 (gi l 6), .int .i64 (gi l 7)]
theorem s8_t {l : List Int} (h : sok l = true) : s8 l = l := if_pos h
theorem s8_f {l : List Int} (h : sok l = false) : s8 l = [] := if_neg (by rw [h]; simp)
theorem rOf {l : List Int} (hl : l.length ≤ 9223372036854775807) : Sound Tryz.prog 168 [.sl 1 (is l)] (.tup [sd (s8 l), .bool (sok l)]) := by
  have hc := containsF hl
  by_cases h8 : 8 < l.length
  · have e1 : sok l = false := by unfold sok; rw [decide_eq_false (by omega)]; simp
    rw [s8_f e1, e1]
    unfold sd
    refine Sound.run (N := 18) Tryz.func168 rfl (by kernel_rfl) rfl rfl rfl (by exact args0_1) fun X_ w_ => ?_
    have c0_ := hc; refine goX @gi.eq_1 ?_; try exact trivial
  cases hg : allG l
  · have e1 : sok l = false := by unfold sok; rw [hg]; rfl
    rw [hg] at hc
    rw [s8_f e1, e1]
    unfold sd
    refine Sound.run (N := 18) Tryz.func168 rfl (by kernel_rfl) rfl rfl rfl (by exact args0_1) fun X_ w_ => ?_
    have c0_ := hc; refine goX @gi.eq_1 ?_; try exact trivial
  have e1 : sok l = true := by unfold sok; rw [hg, decide_eq_true (by omega)]; rfl
  rw [s8_t e1, e1]
  rw [hg] at hc
  clear e1 hg
  unfold sd
  rcases l with _ | ⟨a0, _ | ⟨a1, _ | ⟨a2, _ | ⟨a3, _ | ⟨a4, _ | ⟨a5, _ | ⟨a6, _ | ⟨a7, _⟩⟩⟩⟩⟩⟩⟩⟩
  · refine Sound.run (N := 18) Tryz.func168 rfl (by kernel_rfl) rfl rfl rfl (by exact args0_1) fun X_ w_ => ?_
    have c0_ := hc; refine goX (And.intro @is.eq_1 @gi.eq_1) ?_; try exact trivial
  · refine Sound.run (N := 18) Tryz.func168 rfl (by kernel_rfl) rfl rfl rfl (by exact args0_1) fun X_ w_ => ?_
    have c0_ := hc; refine goX (And.intro @is.eq_1 @gi.eq_1) ?_; try exact trivial
  · refine Sound.run (N := 18) Tryz.func168 rfl (by kernel_rfl) rfl rfl rfl (by exact args0_1) fun X_ w_ => ?_
    have c0_ := hc; refine goX (And.intro @is.eq_1 @gi.eq_1) ?_; try exact trivial
  · refine Sound.run (N := 18) Tryz.func168 rfl (by kernel_rfl) rfl rfl rfl (by exact args0_1) fun X_ w_ => ?_
    have c0_ := hc; refine goX (And.intro @is.eq_1 @gi.eq_1) ?_; try exact trivial
  · refine Sound.run (N := 18) Tryz.func168 rfl (by kernel_rfl) rfl rfl rfl (by exact args0_1) fun X_ w_ => ?_
    have c0_ := hc; refine goX (And.intro @is.eq_1 @gi.eq_1) ?_; try exact trivial
  · refine Sound.run (N := 18) Tryz.func168 rfl (by kernel_rfl) rfl rfl rfl (by exact args0_1) fun X_ w_ => ?_
    have c0_ := hc; refine goX (And.intro @is.eq_1 @gi.eq_1) ?_; try exact trivial
  · refine Sound.run (N := 18) Tryz.func168 rfl (by kernel_rfl) rfl rfl rfl (by exact args0_1) fun X_ w_ => ?_
    have c0_ := hc; refine goX (And.intro @is.eq_1 @gi.eq_1) ?_; try exact trivial
  · refine Sound.run (N := 18) Tryz.func168 rfl (by kernel_rfl) rfl rfl rfl (by exact args0_1) fun X_ w_ => ?_
    have c0_ := hc; refine goX (And.intro @is.eq_1 @gi.eq_1) ?_; try exact trivial
  rename_i r
  rcases r with _ | ⟨b, r⟩
  · refine Sound.run (N := 18) Tryz.func168 rfl (by kernel_rfl) rfl rfl rfl (by exact args0_1) fun X_ w_ => ?_
    have c0_ := hc; refine goX (And.intro @is.eq_1 @gi.eq_1) ?_; try exact trivial
  · exfalso; simp only [List.length_cons] at h8; omega
end Go.Eng.Tryz
set_option linter.unusedVariables false
set_option linter.unusedSimpArgs false
namespace Go.Eng.Tryz
open Go Go.Eng Go.Proofs Go.RowKit
open Go.Maps (Keyed)
attribute [local go_sem] evFold rnE ksE roundE frz frzs List.set_cons_zero List.set_cons_succ List.zip_cons_cons List.zip_nil_right List.foldl_cons List.foldl_nil D.flat rns AV.rn HO.rn AV.ks kss HO.ks sg dedup objKs reach passE fresh List.filter fnOf evOp opnd lk v2d v2ds just evBin intBin nilBin isNil strBin evUn evLoad ldD ldA evStore evField evIndex evBuild fillA evBuildSlice evBuildSliceX evBuildSliceT isOwn1 evAppendTX evAppendTT evAppend evAppendClip elems evMake evSlice evSliceO evSliceX evSliceY evViewV evStoreX evStoreT stT stI evCopyT evAppendT evAppendTD ldT ldI Tb.inn Tb.ilen Tb.nilAt Tb.ini D.put evCut evView evCopy evAppendV evAgg evMakeMap evLookup evMapUpd evRange evEntry cellsD AV.kb splice List.getLast?_append resM resAs resA resD keepL List.replicate_zero List.take_length ofInt evLen evMin evMax evConv evNil evExtract evBuiltin toD toDs allD pack splice D.comps AV.comps AV.sto D.cell D.rebuild inOrder allFlat del put setE eff gd gslot kills Option.map_some Option.map_none Option.bind_some Option.isSome_some List.map_cons List.map_nil List.append_nil List.nil_append List.cons_append List.length_cons List.length_nil List.length_map List.length_append List.take_zero List.take_succ_cons List.take_nil List.drop_zero List.drop_succ_cons List.drop_nil List.getElem?_cons_zero List.getElem?_cons_succ List.getElem?_map List.all_cons List.all_nil List.mem_cons List.not_mem_nil List.elem_cons List.elem_nil Bool.and_true Bool.true_and Bool.and_self Bool.not_true Bool.not_false Bool.or_true Bool.or_false and_self and_true true_and or_false false_or or_true true_or not_false_eq_true not_true_eq_false if_true if_false decide_true decide_false decide_eq_true_eq Int.toNat_natCast Int.toNat_zero beq_self_eq_true bne_self_eq_false Bool.false_eq_true Nat.add_zero Nat.zero_add room le_i lt_i eq_n le_n lt_n len0 gdE bb_tf bb_ft mapP arrL if_min tdiv_nn tmod_nn us_len us_get wrap_i64 wrap_u64 dec_lt dec_nlt dec_le dec_nle beq_t beq_f bne_t bne_f get_lt gt_iff_lt ge_iff_le
attribute [local go_sem ↓] map_P reduceIte
attribute [local go_sem] reduceCtorEq Nat.reduceEqDiff Nat.reduceAdd Nat.reduceSub Nat.reduceMul Nat.reduceLeDiff Nat.reduceLT Nat.reduceBEq Nat.reduceBNe Int.reduceToNat Int.reduceLT Int.reduceLE Int.reduceEq Int.reduceAdd Int.reduceSub Int.reduceNeg Int.reduceBEq Int.reduceBNe
attribute [local go_sem] is_len is_get
theorem kl_int {d : Nat} {n : Int} (h : -9223372036854775808 ≤ n ∧ n ≤ 9223372036854775807) : Tryz.prog.keyLits (d + 1) 3 [.int .i64 n] = some [.int .i64 n] := by
  have hw : (Lit.int .i64 n).wf = true := by simp only [Lit.wf, Bool.and_eq_true, decide_eq_true_eq]; exact h
  unfold Program.keyLits
  rw [Tryz.underlying3]
  simp only [hw, and_self, if_true]
theorem c_i : Tryz.prog.cellsOf 3 = 1 := by kernel_rfl
theorem c_a8 : Tryz.prog.cellsOf 152 = 8 := by kernel_rfl
theorem c_side : Tryz.prog.cellsOf 154 = 9 := by kernel_rfl
theorem c_both : Tryz.prog.cellsOf 156 = 18 := by kernel_rfl
theorem kl_arr {d : Nat} {x0 x1 x2 x3 x4 x5 x6 x7 : Int} (h0 : -9223372036854775808 ≤ x0 ∧ x0 ≤ 9223372036854775807) (h1 : -9223372036854775808 ≤ x1 ∧ x1 ≤ 9223372036854775807) (h2 : -9223372036854775808 ≤ x2 ∧ x2 ≤ 9223372036854775807) (h3 : -9223372036854775808 ≤ x3 ∧ x3 ≤ 9223372036854775807) (h4 : -9223372036854775808 ≤ x4 ∧ x4 ≤ 9223372036854775807) (h5 : -9223372036854775808 ≤ x5 ∧ x5 ≤ 9223372036854775807) (h6 : -9223372036854775808 ≤ x6 ∧ x6 ≤ 9223372036854775807) (h7 : -9223372036854775808 ≤ x7 ∧ x7 ≤ 9223372036854775807) :
    Tryz.prog.keyLits (d + 2) 152 [.int .i64 x0, .int .i64 x1, .int .i64 x2, .int .i64 x3, .int .i64 x4, .int .i64 x5, .int .i64 x6, .int .i64 x7] = some [.int .i64 x0, .int .i64 x1, .int .i64 x2, .int .i64 x3, .int .i64 x4, .int .i64 x5, .int .i64 x6, .int .i64 x7] := by
  unfold Program.keyLits
  rw [Tryz.underlying152]
  simp only [c_a8, c_i, List.length_cons, List.length_nil, Nat.reduceAdd, if_true]
  rw [show List.range 8 = [0, 1, 2, 3, 4, 5, 6, 7] from rfl]
  simp [List.mapM_cons, kl_int h0, kl_int h1, kl_int h2, kl_int h3, kl_int h4, kl_int h5, kl_int h6, kl_int h7]
theorem kl_side {d : Nat} {n x0 x1 x2 x3 x4 x5 x6 x7 : Int} (h : -9223372036854775808 ≤ n ∧ n ≤ 9223372036854775807) (h0 : -9223372036854775808 ≤ x0 ∧ x0 ≤ 9223372036854775807) (h1 : -9223372036854775808 ≤ x1 ∧ x1 ≤ 9223372036854775807) (h2 : -9223372036854775808 ≤ x2 ∧ x2 ≤ 9223372036854775807) (h3 : -9223372036854775808 ≤ x3 ∧ x3 ≤ 9223372036854775807) (h4 : -9223372036854775808 ≤ x4 ∧ x4 ≤ 9223372036854775807) (h5 : -9223372036854775808 ≤ x5 ∧ x5 ≤ 9223372036854775807) (h6 : -9223372036854775808 ≤ x6 ∧ x6 ≤ 9223372036854775807) (h7 : -9223372036854775808 ≤ x7 ∧ x7 ≤ 9223372036854775807) :
    Tryz.prog.keyLits (d + 3) 154 [.int .i64 n, .int .i64 x0, .int .i64 x1, .int .i64 x2, .int .i64 x3, .int .i64 x4, .int .i64 x5, .int .i64 x6, .int .i64 x7] = some [.int .i64 n, .int .i64 x0, .int .i64 x1, .int .i64 x2, .int .i64 x3, .int .i64 x4, .int .i64 x5, .int .i64 x6, .int .i64 x7] := by
  unfold Program.keyLits
  rw [Tryz.underlying154]
  simp [List.mapM_cons, c_side, c_a8, c_i, kl_int h, kl_arr h0 h1 h2 h3 h4 h5 h6 h7]
theorem gi_in {l : List Int} (h : ∀ z ∈ l, -9223372036854775808 ≤ z ∧ z ≤ 9223372036854775807) (i : Nat) : -9223372036854775808 ≤ gi l i ∧ gi l i ≤ 9223372036854775807 := by
  unfold gi
  cases hq : l[i]? with
  | none => simp
  | some z => simpa using h z (List.mem_of_getElem? hq)
def fits (l : List Int) : Prop := l.length ≤ 8 ∧ ∀ z ∈ l, -9223372036854775808 ≤ z ∧ z ≤ 9223372036854775807
theorem fits_s8 (l : List Int) : fits (s8 l) := by
  unfold s8
  split
  · rename_i h
    simp only [sok, Bool.and_eq_true, decide_eq_true_eq] at h
    refine ⟨h.2, fun z hz => ?_⟩
    have := List.all_eq_true.1 h.1 z hz
    simp only [gsign, decide_eq_true_eq] at this
    omega
  · exact ⟨by simp, by simp⟩
theorem keyed_side : Keyed Tryz.prog 154 := Keyed.of_law (deep_law_gate (by kernel_rfl) (of_decide_eq_true (by kernel_rfl)) (of_decide_eq_true (by kernel_rfl)) (by kernel_rfl) (by rw [Tryz.underlying154]))
theorem keyed_both : Keyed Tryz.prog 156 := Keyed.of_law (deep_law_gate (by kernel_rfl) (of_decide_eq_true (by kernel_rfl)) (of_decide_eq_true (by kernel_rfl)) (by kernel_rfl) (by rw [Tryz.underlying156]))
theorem aggok_side : AggOk Tryz.prog 154 := ⟨keyed_side, ⟨_, Tryz.underlying154, .inl ⟨_, rfl⟩⟩, by kernel_rfl⟩
theorem depth_eq : ∃ d, Tryz.prog.types.size + 1 = d + 4 := ⟨Tryz.prog.types.size - 3, by have : 3 ≤ Tryz.prog.types.size := of_decide_eq_true (by kernel_rfl); omega⟩
def bd (a b : List Int) : D := .agg [.int .i64 a.length, .int .i64 (gi a 0), .int .i64 (gi a 1), .int .i64 (gi a 2), .int .i64 (gi a 3), .int .i64 (gi a 4), .int .i64 (gi a 5), .int .i64 (gi a 6), .int .i64 (gi a 7), .int .i64 b.length, .int .i64 (gi b 0), .int .i64 (gi b 1), .int .i64 (gi b 2), .int .i64 (gi b 3), .int .i64 (gi b 4), .int .i64 (gi b 5), .int .i64 (gi b 6), .int .i64 (gi b 7)]
theorem rep_ints {w : World} {M : Nat → Prop} {l : List Int} : RepD w M (.agg (l.map fun z => .int .i64 z)) (.agg (l.map fun z => .int .i64 z).toArray) := by
  refine .agg (by simp) (fun d hd => ?_) (fun i d v h1 h2 => ?_)
  · obtain ⟨z, _, rfl⟩ := List.mem_map.1 hd; rfl
  · rw [List.getElem?_map] at h1 h2
    cases hq : l[i]? with
    | none => rw [hq] at h1; simp at h1
    | some z => rw [hq] at h1 h2; simp at h1 h2; subst h1; subst h2; exact .int _ _
theorem pure_ints {l : List Int} : (D.agg (l.map fun z => .int .i64 z)).pure = true := by
  simp only [D.pure, List.all_eq_true]
  intro d hd
  obtain ⟨z, _, rfl⟩ := List.mem_map.1 hd; rfl
theorem keyd_side {a : List Int} (h : fits a) : KeyD Tryz.prog 154 (sd a) := by
  obtain ⟨d, hd⟩ := depth_eq
  have hl : -9223372036854775808 ≤ (a.length : Int) ∧ (a.length : Int) ≤ 9223372036854775807 := by have := h.1; omega
  refine ⟨pure_ints (l := [(a.length : Int), gi a 0, gi a 1, gi a 2, gi a 3, gi a 4, gi a 5, gi a 6, gi a 7]), _, .string (keyBytes [.int .i64 a.length, .int .i64 (gi a 0), .int .i64 (gi a 1), .int .i64 (gi a 2), .int .i64 (gi a 3), .int .i64 (gi a 4), .int .i64 (gi a 5), .int .i64 (gi a 6), .int .i64 (gi a 7)]), fun w M => rep_ints (l := [(a.length : Int), gi a 0, gi a 1, gi a 2, gi a 3, gi a 4, gi a 5, gi a 6, gi a 7]), ?_⟩
  · unfold keyOf
    rw [Tryz.underlying154]
    have hk : Tryz.prog.keyType 154 = true := by kernel_rfl
    have hf : (Value.agg (([(a.length : Int), gi a 0, gi a 1, gi a 2, gi a 3, gi a 4, gi a 5, gi a 6, gi a 7]).map fun z => Value.int .i64 z).toArray).formed Tryz.prog 154 = true := by
      simp [Value.formed, Tryz.underlying154, c_side]
    simp only [hk, hf, Bool.and_self, if_true, hd]
    have := kl_side (d := d + 1) hl (gi_in h.2 0) (gi_in h.2 1) (gi_in h.2 2) (gi_in h.2 3) (gi_in h.2 4) (gi_in h.2 5) (gi_in h.2 6) (gi_in h.2 7)
    simp only [Value.cells, List.map_cons, List.map_nil]
    rw [this]
    rfl
theorem kl_both {d : Nat} {a b : List Int} (ha : fits a) (hb : fits b) : Tryz.prog.keyLits (d + 4) 156 (([(a.length : Int), gi a 0, gi a 1, gi a 2, gi a 3, gi a 4, gi a 5, gi a 6, gi a 7, (b.length : Int), gi b 0, gi b 1, gi b 2, gi b 3, gi b 4, gi b 5, gi b 6, gi b 7]).map fun z => Value.int .i64 z) = some (([(a.length : Int), gi a 0, gi a 1, gi a 2, gi a 3, gi a 4, gi a 5, gi a 6, gi a 7, (b.length : Int), gi b 0, gi b 1, gi b 2, gi b 3, gi b 4, gi b 5, gi b 6, gi b 7]).map fun z => Lit.int .i64 z) := by
  have hla : -9223372036854775808 ≤ (a.length : Int) ∧ (a.length : Int) ≤ 9223372036854775807 := by have := ha.1; omega
  have hlb : -9223372036854775808 ≤ (b.length : Int) ∧ (b.length : Int) ≤ 9223372036854775807 := by have := hb.1; omega
  have e1 := kl_side (d := d) hla (gi_in ha.2 0) (gi_in ha.2 1) (gi_in ha.2 2) (gi_in ha.2 3) (gi_in ha.2 4) (gi_in ha.2 5) (gi_in ha.2 6) (gi_in ha.2 7)
  have e2 := kl_side (d := d) hlb (gi_in hb.2 0) (gi_in hb.2 1) (gi_in hb.2 2) (gi_in hb.2 3) (gi_in hb.2 4) (gi_in hb.2 5) (gi_in hb.2 6) (gi_in hb.2 7)
  unfold Program.keyLits
  rw [Tryz.underlying156]
  simp [List.mapM_cons, c_both, c_side, e1, e2]
theorem keyd_both {a b : List Int} (ha : fits a) (hb : fits b) : KeyD Tryz.prog 156 (bd a b) := by
  obtain ⟨d, hd⟩ := depth_eq
  refine ⟨pure_ints (l := [(a.length : Int), gi a 0, gi a 1, gi a 2, gi a 3, gi a 4, gi a 5, gi a 6, gi a 7, (b.length : Int), gi b 0, gi b 1, gi b 2, gi b 3, gi b 4, gi b 5, gi b 6, gi b 7]), _, .string (keyBytes (([(a.length : Int), gi a 0, gi a 1, gi a 2, gi a 3, gi a 4, gi a 5, gi a 6, gi a 7, (b.length : Int), gi b 0, gi b 1, gi b 2, gi b 3, gi b 4, gi b 5, gi b 6, gi b 7]).map fun z => Lit.int .i64 z)), fun w M => rep_ints (l := [(a.length : Int), gi a 0, gi a 1, gi a 2, gi a 3, gi a 4, gi a 5, gi a 6, gi a 7, (b.length : Int), gi b 0, gi b 1, gi b 2, gi b 3, gi b 4, gi b 5, gi b 6, gi b 7]), ?_⟩
  · unfold keyOf
    rw [Tryz.underlying156]
    have hk : Tryz.prog.keyType 156 = true := by kernel_rfl
    have hf : (Value.agg (([(a.length : Int), gi a 0, gi a 1, gi a 2, gi a 3, gi a 4, gi a 5, gi a 6, gi a 7, (b.length : Int), gi b 0, gi b 1, gi b 2, gi b 3, gi b 4, gi b 5, gi b 6, gi b 7]).map fun z => Value.int .i64 z).toArray).formed Tryz.prog 156 = true := by
      simp [Value.formed, Tryz.underlying156, c_both]
    simp only [hk, hf, Bool.and_self, if_true, hd]
    have := kl_both (d := d) ha hb
    show ((Tryz.prog.keyLits (d + 4) 156 (([(a.length : Int), gi a 0, gi a 1, gi a 2, gi a 3, gi a 4, gi a 5, gi a 6, gi a 7, (b.length : Int), gi b 0, gi b 1, gi b 2, gi b 3, gi b 4, gi b 5, gi b 6, gi b 7]).map fun z => Value.int .i64 z)).map fun ls => Lit.string (keyBytes ls)) = _
    rw [this]
    rfl
theorem gi_ext {a b : List Int} (ha : a.length ≤ 8) (hl : a.length = b.length) (h : ∀ i, i < 8 → gi a i = gi b i) : a = b := by
  refine List.ext_getElem? fun i => ?_
  by_cases hi : i < a.length
  · have := h i (by omega)
    unfold gi at this
    rw [List.getElem?_eq_getElem hi, List.getElem?_eq_getElem (by omega)] at this ⊢
    simpa using this
  · rw [List.getElem?_eq_none (by omega), List.getElem?_eq_none (by omega)]
theorem sd_inj {a b : List Int} (ha : a.length ≤ 8) (h : sd a = sd b) : a = b := by
  unfold sd at h
  simp only [D.agg.injEq, List.cons.injEq, D.int.injEq, true_and, and_true] at h
  obtain ⟨h0, g0, g1, g2, g3, g4, g5, g6, g7⟩ := h
  refine gi_ext ha (by omega) fun i hi => ?_
  match i, hi with
  | 0, _ => exact g0
  | 1, _ => exact g1
  | 2, _ => exact g2
  | 3, _ => exact g3
  | 4, _ => exact g4
  | 5, _ => exact g5
  | 6, _ => exact g6
  | 7, _ => exact g7
theorem bd_inj {a b a' b' : List Int} (ha : a.length ≤ 8) (hb : b.length ≤ 8) (h : bd a b = bd a' b') : a = a' ∧ b = b' := by
  unfold bd at h
  simp only [D.agg.injEq, List.cons.injEq, D.int.injEq, true_and, and_true] at h
  obtain ⟨h0, g0, g1, g2, g3, g4, g5, g6, g7, k0, e0, e1, e2, e3, e4, e5, e6, e7⟩ := h
  refine ⟨gi_ext ha (by omega) fun i hi => ?_, gi_ext hb (by omega) fun i hi => ?_⟩
  · match i, hi with
    | 0, _ => exact g0
    | 1, _ => exact g1
    | 2, _ => exact g2
    | 3, _ => exact g3
    | 4, _ => exact g4
    | 5, _ => exact g5
    | 6, _ => exact g6
    | 7, _ => exact g7
  · match i, hi with
    | 0, _ => exact e0
    | 1, _ => exact e1
    | 2, _ => exact e2
    | 3, _ => exact e3
    | 4, _ => exact e4
    | 5, _ => exact e5
    | 6, _ => exact e6
    | 7, _ => exact e7
end Go.Eng.Tryz
set_option linter.unusedVariables false
set_option linter.unusedSimpArgs false
namespace Go.Eng.Tryz
open Go Go.Eng Go.Proofs Go.RowKit
open Go.Maps (Keyed)
attribute [local go_sem] is_len is_get
def rok (r : Ru) : Bool := sok r.left && sok r.right && decide (r.left ≠ r.right) && decide (r.cost < 18446744073709551615)
theorem rok_iff {r : Ru} : rok r = true ↔ sok r.left = true ∧ sok r.right = true ∧ r.left ≠ r.right ∧ r.cost < 18446744073709551615 := by
  simp [rok, Bool.and_eq_true, and_assoc]
theorem rok_f {r : Ru} (h : ¬ (sok r.left = true ∧ sok r.right = true ∧ r.left ≠ r.right ∧ r.cost < 18446744073709551615)) : rok r = false := by
  cases hr : rok r with
  | false => rfl
  | true => exact absurd (rok_iff.1 hr) h
theorem pSides {r : Ru} (hr : r.ok) : Sound Tryz.prog 127 [ru r] (.tup [bd (s8 r.left) (s8 r.right), .bool (rok r)]) := by
  have c1 := rOf hr.1
  have c2 := rOf hr.2.1
  have kA : (AggOk Tryz.prog 154 ∧ KeyD Tryz.prog 154 (sd (s8 r.left)) ∧ KeyD Tryz.prog 154 (sd (s8 r.right))) = True := eq_true ⟨aggok_side, keyd_side (fits_s8 _), keyd_side (fits_s8 _)⟩
  cases h1 : sok r.left
  · have e := rok_f (r := r) (by rw [h1]; simp)
    unfold sd at c1 c2
    unfold ru bd
    refine Sound.run (N := 37) Tryz.func127 rfl (by kernel_rfl) rfl rfl rfl (by exact args0_1) fun X_ w_ => ?_
    have c0_ := c1; have c1_ := c2; refine goX (And.intro @e @h1) ?_; try exact trivial
  cases h2 : sok r.right
  · have e := rok_f (r := r) (by rw [h2]; simp)
    unfold sd at c1 c2
    unfold ru bd
    refine Sound.run (N := 37) Tryz.func127 rfl (by kernel_rfl) rfl rfl rfl (by exact args0_1) fun X_ w_ => ?_
    have c0_ := c1; have c1_ := c2; refine goX (And.intro @e (And.intro @h1 @h2)) ?_; try exact trivial
  by_cases h3 : r.left = r.right
  · have e := rok_f (r := r) (by simp [h3])
    have sm : same (sd (s8 r.left)) (sd (s8 r.right)) = true := same_t (by rw [h3])
    have sm' : same [.int .i64 (s8 r.left).length, .int .i64 (gi (s8 r.left) 0), .int .i64 (gi (s8 r.left) 1), .int .i64 (gi (s8 r.left) 2), .int .i64 (gi (s8 r.left) 3), .int .i64 (gi (s8 r.left) 4), .int .i64 (gi (s8 r.left) 5), .int .i64 (gi (s8 r.left) 6), .int .i64 (gi (s8 r.left) 7)] [D.int .i64 (s8 r.right).length, .int .i64 (gi (s8 r.right) 0), .int .i64 (gi (s8 r.right) 1), .int .i64 (gi (s8 r.right) 2), .int .i64 (gi (s8 r.right) 3), .int .i64 (gi (s8 r.right) 4), .int .i64 (gi (s8 r.right) 5), .int .i64 (gi (s8 r.right) 6), .int .i64 (gi (s8 r.right) 7)] = true := same_t (by rw [h3])
    clear sm
    unfold sd at c1 c2 kA
    unfold ru bd
    refine Sound.run (N := 37) Tryz.func127 rfl (by kernel_rfl) rfl rfl rfl (by exact args0_1) fun X_ w_ => ?_
    have c0_ := c1; have c1_ := c2; refine goX (And.intro @e (And.intro @h1 (And.intro @h2 (And.intro @kA @sm')))) ?_; try exact trivial
  have sm' : same [.int .i64 (s8 r.left).length, .int .i64 (gi (s8 r.left) 0), .int .i64 (gi (s8 r.left) 1), .int .i64 (gi (s8 r.left) 2), .int .i64 (gi (s8 r.left) 3), .int .i64 (gi (s8 r.left) 4), .int .i64 (gi (s8 r.left) 5), .int .i64 (gi (s8 r.left) 6), .int .i64 (gi (s8 r.left) 7)] [D.int .i64 (s8 r.right).length, .int .i64 (gi (s8 r.right) 0), .int .i64 (gi (s8 r.right) 1), .int .i64 (gi (s8 r.right) 2), .int .i64 (gi (s8 r.right) 3), .int .i64 (gi (s8 r.right) 4), .int .i64 (gi (s8 r.right) 5), .int .i64 (gi (s8 r.right) 6), .int .i64 (gi (s8 r.right) 7)] = false := same_f (fun h => h3 (by
      have := sd_inj (a := s8 r.left) (b := s8 r.right) (fits_s8 _).1 (by unfold sd; rw [h])
      rwa [s8_t h1, s8_t h2] at this))
  by_cases h4 : r.cost < 18446744073709551615
  · have e := rok_iff.2 ⟨h1, h2, h3, h4⟩
    unfold sd at c1 c2 kA
    unfold ru bd
    refine Sound.run (N := 37) Tryz.func127 rfl (by kernel_rfl) rfl rfl rfl (by exact args0_1) fun X_ w_ => ?_
    have c0_ := c1; have c1_ := c2; refine goX (And.intro @e (And.intro @h1 (And.intro @h2 (And.intro @kA @sm')))) ?_; try exact trivial
  · have e := rok_f (r := r) (fun h => h4 h.2.2.2)
    unfold sd at c1 c2 kA
    unfold ru bd
    refine Sound.run (N := 37) Tryz.func127 rfl (by kernel_rfl) rfl rfl rfl (by exact args0_1) fun X_ w_ => ?_
    have c0_ := c1; have c1_ := c2; refine goX (And.intro @e (And.intro @h1 (And.intro @h2 (And.intro @kA @sm')))) ?_; try exact trivial
theorem pRCheck {r : Ru} (hr : r.ok) : Sound Tryz.prog 124 [ru r] (.bool (rok r)) := by
  have c := pSides hr
  unfold ru bd at c
  unfold ru
  refine Sound.run (N := 11) Tryz.func124 rfl (by kernel_rfl) rfl rfl rfl (by exact args0_1) fun X_ w_ => ?_
  have c0_ := c; refine goT ?_; try exact trivial
theorem rcmp_def {r s : Ru} : rcmp r s = if wcmp r.left s.left ≠ 0 then wcmp r.left s.left else if wcmp r.right s.right ≠ 0 then wcmp r.right s.right else icmp r.cost s.cost := by
  simp only [rcmp, orI]
  by_cases h1 : wcmp r.left s.left = 0
  · by_cases h2 : wcmp r.right s.right = 0
    · by_cases h3 : icmp r.cost s.cost = 0 <;> simp [h1, h2, h3]
    · simp [h1, h2]
  · simp [h1]
theorem icmp_lt {a b : Int} : (icmp a b < 0) ↔ a < b := by
  unfold icmp
  split
  · rename_i h; simp [h]
  · split <;> simp_all
theorem wcmp_eq : ∀ (a b : List Int), wcmp a b = 0 ↔ a = b
  | [], [] => by simp [wcmp]
  | [], _ :: _ => by simp [wcmp]
  | _ :: _, [] => by simp [wcmp]
  | x :: a, y :: b => by
    simp only [wcmp, List.cons.injEq]
    by_cases h : x < y
    · rw [if_pos h]; constructor <;> intro h' <;> omega
    · rw [if_neg h]
      by_cases h2 : y < x
      · rw [if_pos h2]; constructor <;> intro h' <;> omega
      · rw [if_neg h2, wcmp_eq a b]; constructor
        · intro h'; exact ⟨by omega, h'⟩
        · exact fun h' => h'.2
end Go.Eng.Tryz
namespace Go.Proofs
open Go.Shelf Go.RowKit Go.Lib Go.Sort
def Tryz.sortRule_ren : Go.Shelf.Ren := ⟨fun | 6 => 128 | 15 => 108 | 14 => 169 | 28 => 154 | 29 => 155 | 20 => 185 | 21 => 186 | 22 => 187 | 23 => 188 | 24 => 189 | 25 => 190 | 26 => 191 | 27 => 192 | 46 => 207 | 47 => 176 | 48 => 177 | 49 => 208 | 50 => 209 | 57 => 217 | n => n, fun | 22 => 43 | 24 => 106 | 25 => 161 | 3 => 3 | 39 => 140 | 0 => 0 | 53 => 168 | 55 => 42 | 4 => 4 | 46 => 179 | 45 => 178 | 50 => 37 | 5 => 5 | 9 => 9 | 66 => 199 | 70 => 202 | 76 => 217 | 77 => 218 | n => n, fun | n => n⟩
theorem Tryz.sortRule : Go.Proofs.SlLaysF0.n6 Tryz.prog Tryz.sortRule_ren := {
  mixed := by kernel_rfl
  f6 := ⟨Tryz.f128.name, by decide, Tryz.func128.trans (congrArg some (by kernel_rfl))⟩
  f14 := ⟨Tryz.f169.name, by decide, Tryz.func169.trans (congrArg some (by kernel_rfl))⟩
  f15 := Tryz.func108.trans (congrArg some (by kernel_rfl))
  f20 := ⟨Tryz.f185.name, by decide, Tryz.func185.trans (congrArg some (by kernel_rfl))⟩
  f21 := ⟨Tryz.f186.name, by decide, Tryz.func186.trans (congrArg some (by kernel_rfl))⟩
  f22 := ⟨Tryz.f187.name, by decide, Tryz.func187.trans (congrArg some (by kernel_rfl))⟩
  f23 := ⟨Tryz.f188.name, by decide, Tryz.func188.trans (congrArg some (by kernel_rfl))⟩
  f24 := ⟨Tryz.f189.name, by decide, Tryz.func189.trans (congrArg some (by kernel_rfl))⟩
  f25 := ⟨Tryz.f190.name, by decide, Tryz.func190.trans (congrArg some (by kernel_rfl))⟩
  f26 := ⟨Tryz.f191.name, by decide, Tryz.func191.trans (congrArg some (by kernel_rfl))⟩
  f27 := ⟨Tryz.f192.name, by decide, Tryz.func192.trans (congrArg some (by kernel_rfl))⟩
  f28 := Tryz.func154.trans (congrArg some (by kernel_rfl))
  f29 := Tryz.func155.trans (congrArg some (by kernel_rfl))
  f46 := ⟨Tryz.f207.name, by decide, Tryz.func207.trans (congrArg some (by kernel_rfl))⟩
  f47 := Tryz.func176.trans (congrArg some (by kernel_rfl))
  f48 := Tryz.func177.trans (congrArg some (by kernel_rfl))
  f49 := ⟨Tryz.f208.name, by decide, Tryz.func208.trans (congrArg some (by kernel_rfl))⟩
  f50 := ⟨Tryz.f209.name, by decide, Tryz.func209.trans (congrArg some (by kernel_rfl))⟩
  f57 := ⟨Tryz.f217.name, by decide, Tryz.func217.trans (congrArg some (by kernel_rfl))⟩
  t0 := Tryz.underlying0
  a0 := Tryz.isAgg0
  z0 := Tryz.sizeOf0
  v0 := Tryz.zeroValue0
  t3 := Tryz.underlying3
  a3 := Tryz.isAgg3
  z3 := Tryz.sizeOf3
  v3 := Tryz.zeroValue3
  t4 := Tryz.underlying4
  a4 := Tryz.isAgg4
  z4 := Tryz.sizeOf4
  v4 := Tryz.zeroValue4
  t5 := Tryz.underlying5
  a5 := Tryz.isAgg5
  z5 := Tryz.sizeOf5
  v5 := Tryz.zeroValue5
  t9 := Tryz.underlying9
  a9 := Tryz.isAgg9
  z9 := Tryz.sizeOf9
  v9 := Tryz.zeroValue9
  t22 := Tryz.underlying43
  a22 := Tryz.isAgg43
  z22 := Tryz.sizeOf43
  v22 := Tryz.zeroValue43
  t25 := Tryz.underlying161
  a25 := Tryz.isAgg161
  z25 := Tryz.sizeOf161
  v25 := Tryz.zeroValue161
  t39 := Tryz.underlying140
  a39 := Tryz.isAgg140
  z39 := Tryz.sizeOf140
  v39 := Tryz.zeroValue140
  t45 := Tryz.underlying178
  a45 := Tryz.isAgg178
  z45 := Tryz.sizeOf178
  v45 := Tryz.zeroValue178
  t46 := Tryz.underlying179
  a46 := Tryz.isAgg179
  z46 := Tryz.sizeOf179
  v46 := Tryz.zeroValue179
  t50 := Tryz.underlying37
  a50 := Tryz.isAgg37
  z50 := Tryz.sizeOf37
  v50 := Tryz.zeroValue37
  t53 := Tryz.underlying168
  a53 := Tryz.isAgg168
  z53 := Tryz.sizeOf168
  v53 := Tryz.zeroValue168
  t55 := Tryz.underlying42
  a55 := Tryz.isAgg42
  z55 := Tryz.sizeOf42
  v55 := Tryz.zeroValue42
  t66 := Tryz.underlying199
  a66 := Tryz.isAgg199
  z66 := Tryz.sizeOf199
  v66 := Tryz.zeroValue199
  t70 := Tryz.underlying202
  a70 := Tryz.isAgg202
  z70 := Tryz.sizeOf202
  v70 := Tryz.zeroValue202
  t76 := Tryz.underlying217
  a76 := Tryz.isAgg217
  z76 := Tryz.sizeOf217
  v76 := Tryz.zeroValue217
  t77 := Tryz.underlying218
  a77 := Tryz.isAgg218
  z77 := Tryz.sizeOf218
  v77 := Tryz.zeroValue218 }
end Go.Proofs

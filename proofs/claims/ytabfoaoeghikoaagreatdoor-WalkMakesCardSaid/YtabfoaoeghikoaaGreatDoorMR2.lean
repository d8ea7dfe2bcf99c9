/- Words in order: what package order, slices.Compare and the references give. (and what stands behind it: texts laid together) -/
import Derived.Test.YtabfoaoeghikoaaGreatDoorMG4
import Derived.Test.YtabfoaoeghikoaaGreatDoorMR1
import Derived.Shelf.SlSortCmp.WholeK
import Derived.Shelf.SlGeneric
import Derived.Ground.SlsfProg
import Derived.Test.YtabfoaoeghikoaaGreatDoorProg
import Derived.Test.YtabfoaoeghikoaaGreatDoorMH1
set_option linter.unusedVariables false
set_option linter.unusedSimpArgs false
namespace Go.Eng.Tryz
open Go Go.Eng Go.Proofs Go.RowKit
attribute [local go_sem] ty0 ty1 ty2 ty3 ty4 ty5 ty6 ty7 ty8 ty9 ty10 ty11 ty12 ty13 ty14 ty15 ty16 ty17 ty18
/-- Numbers, as a slice's elements. -/
def is (l : List Int) : List D := l.map fun z => D.int .i64 z
theorem is_len {l : List Int} : (is l).length = l.length := by simp [is]
theorem is_get {l : List Int} {k : Nat} (h : k < l.length) : (is l)[k]? = some (D.int .i64 (l[k]!)) := by
  simp [is, List.getElem?_eq_getElem h, getElem!_pos l k h]
attribute [local go_sem] is_len is_get

theorem isNaN {a : Int} : Sound Tryz.prog 109 [.int .i64 a] (.bool false) := by
  have e : (a != a) = false := by simp
  refine Sound.run (N := 6) Tryz.func109 rfl (by kernel_rfl) rfl rfl rfl (by first | exact args0_0 | exact args0_1 | exact args0_2 | exact args0_3 | exact args0_4 | exact args0_5 | exact args0_6) fun X_ w_ => ?_
  refine goX @e ?_; first | exact trivial | skip

def icmp (a b : Int) : Int := if a < b then -1 else if b < a then 1 else 0
theorem cmpCompare {a b : Int} : Sound Tryz.prog 50 [.int .i64 a, .int .i64 b] (.int .i64 (icmp a b)) := by
  by_cases h1 : a < b
  · have e : icmp a b = -1 := by unfold icmp; rw [if_pos h1]
    refine Sound.run (N := 20) Tryz.func50 rfl (by kernel_rfl) rfl rfl rfl (by first | exact args0_0 | exact args0_1 | exact args0_2 | exact args0_3 | exact args0_4 | exact args0_5 | exact args0_6) fun X_ w_ => ?_
    have c0_ := @isNaN; refine goX @e ?_; first | exact trivial | skip
  · by_cases h2 : b < a
    · have e : icmp a b = 1 := by unfold icmp; rw [if_neg h1, if_pos h2]
      refine Sound.run (N := 20) Tryz.func50 rfl (by kernel_rfl) rfl rfl rfl (by first | exact args0_0 | exact args0_1 | exact args0_2 | exact args0_3 | exact args0_4 | exact args0_5 | exact args0_6) fun X_ w_ => ?_
      have c0_ := @isNaN; refine goX @e ?_; first | exact trivial | skip
    · have e : icmp a b = 0 := by unfold icmp; rw [if_neg h1, if_neg h2]
      refine Sound.run (N := 20) Tryz.func50 rfl (by kernel_rfl) rfl rfl rfl (by first | exact args0_0 | exact args0_1 | exact args0_2 | exact args0_3 | exact args0_4 | exact args0_5 | exact args0_6) fun X_ w_ => ?_
      have c0_ := @isNaN; refine goX @e ?_; first | exact trivial | skip

def wcmp : List Int → List Int → Int
  | [], [] => 0
  | [], _ :: _ => -1
  | _ :: _, [] => 1
  | x :: a, y :: b => if x < y then -1 else if y < x then 1 else wcmp a b
theorem drop_at {l : List Int} {k : Nat} (h : k < l.length) : l.drop k = l[k]! :: l.drop (k + 1) := by
  rw [List.drop_eq_getElem_cons h, getElem!_pos l k h]
theorem wcmp_lt {a b : List Int} {k : Nat} (h : k < a.length) (h' : k < b.length) (hw : wcmp (a.drop k) (b.drop k) = wcmp a b) :
    (a[k]! = b[k]! → wcmp (a.drop (k + 1)) (b.drop (k + 1)) = wcmp a b) ∧ (icmp (a[k]!) (b[k]!) ≠ 0 → icmp (a[k]!) (b[k]!) = wcmp a b) := by
  rw [drop_at h, drop_at h'] at hw
  simp only [wcmp] at hw
  unfold icmp
  constructor
  · intro e
    rw [if_neg (by omega), if_neg (by omega)] at hw
    exact hw
  · intro e
    by_cases h1 : a[k]! < b[k]!
    · rw [if_pos h1] at hw ⊢; exact hw
    · rw [if_neg h1] at hw ⊢ e
      by_cases h2 : b[k]! < a[k]!
      · rw [if_pos h2] at hw ⊢; exact hw
      · rw [if_neg h2] at e; exact absurd rfl e
theorem icmp_0 {a b : Int} (h : icmp a b = 0) : a = b := by
  unfold icmp at h
  split at h
  · cases h
  · split at h
    · cases h
    · omega

set_option maxHeartbeats 4000000 in
set_option maxRecDepth 10000 in
theorem sCompare {a b : List Int} (ha : a.length ≤ 9223372036854775807) (hb : b.length ≤ 9223372036854775807) : Sound Tryz.prog 51 [.sl 1 (is a), .sl 1 (is b)] (.int .i64 (wcmp a b)) := by
  refine Sound.run (N := 36) Tryz.func51 rfl (by kernel_rfl) rfl rfl rfl (by first | exact args0_0 | exact args0_1 | exact args0_2 | exact args0_3 | exact args0_4 | exact args0_5 | exact args0_6) fun X_ w_ => ?_
  refine goT ?_; first | exact trivial | skip
  refine WP_loopk (fun k : Nat => k ≤ a.length ∧ k ≤ b.length ∧ wcmp (a.drop k) (b.drop k) = wcmp a b) (fun k => [(0, .d (.sl 1 (is a))), (1, .d (.sl 1 (is b))), (9, .d (.sl 1 (is a))), (10, .d (.int .i64 a.length)), (11, .d (.int .i64 k))]) (fun _ => []) 0 (fun k => a.length - k) [0, 1, 9, 10, 11] [] 0 ⟨Nat.zero_le _, Nat.zero_le _, rfl⟩ rfl rfl (Nat.le_refl _) (fun _ _ => rfl) (fun _ _ => rfl) fun k hk => ?_
  obtain ⟨hk1, hk2, hw⟩ := hk
  refine goT ?_; first | exact trivial | skip
  with_reducible apply WP_if (by simp (disch := omega) only [go_sem]; rfl) <;> intro hc <;> (try simp only [decide_eq_true_eq, decide_eq_false_iff_not, beq_iff_eq, beq_eq_false_iff_ne, bne_iff_ne, bne_eq_false_iff_eq, gt_iff_lt, ge_iff_le, Int.not_lt, Int.not_le, ne_eq] at hc)
  · have hk' : k < a.length := by omega
    refine goT ?_; first | exact trivial | skip
    with_reducible apply WP_if (by simp (disch := omega) only [go_sem]; rfl) <;> intro hc <;> (try simp only [decide_eq_true_eq, decide_eq_false_iff_not, beq_iff_eq, beq_eq_false_iff_ne, bne_iff_ne, bne_eq_false_iff_eq, gt_iff_lt, ge_iff_le, Int.not_lt, Int.not_le, ne_eq] at hc)
    · have e : wcmp a b = 1 := by
        rw [← hw, drop_at hk', show b.drop k = [] from List.drop_eq_nil_of_le (by omega)]
        rfl
      refine goX @e ?_; first | exact trivial | skip
    · have hk2' : k < b.length := by omega
      obtain ⟨w1, w2⟩ := wcmp_lt hk' hk2' hw
      have c0_ := @cmpCompare; refine goT ?_; first | exact trivial | skip
      with_reducible apply WP_if (by simp (disch := omega) only [go_sem]; rfl) <;> intro hc <;> (try simp only [decide_eq_true_eq, decide_eq_false_iff_not, beq_iff_eq, beq_eq_false_iff_ne, bne_iff_ne, bne_eq_false_iff_eq, gt_iff_lt, ge_iff_le, Int.not_lt, Int.not_le, ne_eq] at hc)
      · have e := w2 hc
        refine goX @e ?_; first | exact trivial | skip
      · have e := icmp_0 hc
        have w3 := w1 e
        refine goT ?_; first | exact trivial | skip
        refine ⟨k + 1, ⟨by omega, by omega, w3⟩, ?_, rfl, by omega⟩
        simp (disch := omega) only [go_sem, keepL, Int.natCast_add, Int.cast_ofNat_Int]
  · have hk' : k = a.length := by omega
    subst hk'
    have ed : a.drop a.length = [] := List.drop_eq_nil_of_le (Nat.le_refl _)
    refine goT ?_; first | exact trivial | skip
    with_reducible apply WP_if (by simp (disch := omega) only [go_sem]; rfl) <;> intro hc <;> (try simp only [decide_eq_true_eq, decide_eq_false_iff_not, beq_iff_eq, beq_eq_false_iff_ne, bne_iff_ne, bne_eq_false_iff_eq, gt_iff_lt, ge_iff_le, Int.not_lt, Int.not_le, ne_eq] at hc)
    · have e : wcmp a b = -1 := by
        rw [← hw, ed, drop_at (by omega)]
        rfl
      refine goX @e ?_; first | exact trivial | skip
    · have e : wcmp a b = 0 := by
        rw [← hw, ed, show b.drop a.length = [] from List.drop_eq_nil_of_le (by omega)]
        rfl
      refine goX @e ?_; first | exact trivial | skip

theorem orderLess {a b : List Int} (ha : a.length ≤ 9223372036854775807) (hb : b.length ≤ 9223372036854775807) : Sound Tryz.prog 65 [.sl 1 (is a), .sl 1 (is b)] (.bool (decide (wcmp a b < 0))) := by
  refine Sound.run (N := 9) Tryz.func65 rfl (by kernel_rfl) rfl rfl rfl (by first | exact args0_0 | exact args0_1 | exact args0_2 | exact args0_3 | exact args0_4 | exact args0_5 | exact args0_6) fun X_ w_ => ?_
  have c0_ := sCompare ha hb; refine goT ?_; first | exact trivial | skip

set_option maxHeartbeats 4000000 in
set_option maxRecDepth 10000 in
theorem refSame {a b : List Int} (ha : a.length ≤ 9223372036854775807) (hb : b.length ≤ 9223372036854775807) : Sound Tryz.prog 57 [.sl 1 (is a), .sl 1 (is b)] (.bool (decide (a = b))) := by
  by_cases hl : a.length = b.length
  · refine Sound.run (N := 26) Tryz.func57 rfl (by kernel_rfl) rfl rfl rfl (by first | exact args0_0 | exact args0_1 | exact args0_2 | exact args0_3 | exact args0_4 | exact args0_5 | exact args0_6) fun X_ w_ => ?_
    refine goT ?_; first | exact trivial | skip
    refine WP_loopk (fun k : Nat => k ≤ a.length ∧ a.take k = b.take k) (fun k => [(0, .d (.sl 1 (is a))), (1, .d (.sl 1 (is b))), (5, .d (.int .i64 k))]) (fun _ => []) 0 (fun k => a.length - k) [0, 1, 5] [] 0 ⟨Nat.zero_le _, rfl⟩ rfl rfl (Nat.le_refl _) (fun _ _ => rfl) (fun _ _ => rfl) fun k hk => ?_
    obtain ⟨hk1, hw⟩ := hk
    refine goT ?_; first | exact trivial | skip
    with_reducible apply WP_if (by simp (disch := omega) only [go_sem]; rfl) <;> intro hc <;> (try simp only [decide_eq_true_eq, decide_eq_false_iff_not, beq_iff_eq, beq_eq_false_iff_ne, bne_iff_ne, bne_eq_false_iff_eq, gt_iff_lt, ge_iff_le, Int.not_lt, Int.not_le, ne_eq] at hc)
    · have hk' : k < a.length := by omega
      have hk2 : k < b.length := by omega
      refine goT ?_; first | exact trivial | skip
      with_reducible apply WP_if (by simp (disch := omega) only [go_sem]; rfl) <;> intro hc <;> (try simp only [decide_eq_true_eq, decide_eq_false_iff_not, beq_iff_eq, beq_eq_false_iff_ne, bne_iff_ne, bne_eq_false_iff_eq, gt_iff_lt, ge_iff_le, Int.not_lt, Int.not_le, ne_eq] at hc)
      · have e : decide (a = b) = false := decide_eq_false fun h => hc (by rw [h])
        refine goX @e ?_; first | exact trivial | skip
      · have e : a.take (k + 1) = b.take (k + 1) := by
          rw [List.take_add_one, List.take_add_one, hw, List.getElem?_eq_getElem hk', List.getElem?_eq_getElem hk2, ← getElem!_pos a k hk', ← getElem!_pos b k hk2, hc]
        refine goT ?_; first | exact trivial | skip
        refine ⟨k + 1, ⟨by omega, e⟩, ?_, rfl, by omega⟩
        simp (disch := omega) only [go_sem, keepL, Int.natCast_add, Int.cast_ofNat_Int]
    · have hk' : k = a.length := by omega
      subst hk'
      have e : decide (a = b) = true := decide_eq_true (by rw [List.take_length, hl, List.take_length] at hw; exact hw)
      refine goX @e ?_; first | exact trivial | skip
  · have e : decide (a = b) = false := decide_eq_false fun h => hl (by rw [h])
    refine Sound.run (N := 26) Tryz.func57 rfl (by kernel_rfl) rfl rfl rfl (by first | exact args0_0 | exact args0_1 | exact args0_2 | exact args0_3 | exact args0_4 | exact args0_5 | exact args0_6) fun X_ w_ => ?_
    refine goX @e ?_; first | exact trivial | skip

end Go.Eng.Tryz
set_option linter.unusedVariables false
set_option linter.unusedSimpArgs false
namespace Go.Eng.Tryz
open Go Go.Eng Go.Proofs Go.RowKit
attribute [local go_sem] ty0 ty1 ty2 ty3 ty4 ty5 ty6 ty7 ty8 ty9 ty10 ty11 ty12 ty13 ty14 ty15 ty16 ty17 ty18
attribute [local go_sem] is_len is_get
/-- A sign that there is. -/
def gsign (z : Int) : Bool := decide (0 ≤ z ∧ z ≤ 1114111 ∧ (z < 55296 ∨ 57343 < z))
theorem gsign_t {z : Int} (h : 0 ≤ z ∧ z ≤ 1114111 ∧ (z < 55296 ∨ 57343 < z)) : gsign z = true := decide_eq_true h
theorem gsign_f {z : Int} (h : ¬ (0 ≤ z ∧ z ≤ 1114111 ∧ (z < 55296 ∨ 57343 < z))) : gsign z = false := decide_eq_false h
theorem utfGood {z : Int} : Sound Tryz.prog 81 [.int .i64 z] (.bool (gsign z)) := by
  by_cases h1 : z < 0
  · have e := gsign_f (z := z) (by omega)
    refine Sound.run (N := 13) Tryz.func81 rfl (by kernel_rfl) rfl rfl rfl (by first | exact args0_0 | exact args0_1 | exact args0_2 | exact args0_3 | exact args0_4 | exact args0_5 | exact args0_6) fun X_ w_ => ?_
    refine goX @e ?_; first | exact trivial | skip
  by_cases h2 : 1114111 < z
  · have e := gsign_f (z := z) (by omega)
    refine Sound.run (N := 13) Tryz.func81 rfl (by kernel_rfl) rfl rfl rfl (by first | exact args0_0 | exact args0_1 | exact args0_2 | exact args0_3 | exact args0_4 | exact args0_5 | exact args0_6) fun X_ w_ => ?_
    refine goX @e ?_; first | exact trivial | skip
  by_cases h3 : z < 55296
  · have e := gsign_t (z := z) (by omega)
    refine Sound.run (N := 13) Tryz.func81 rfl (by kernel_rfl) rfl rfl rfl (by first | exact args0_0 | exact args0_1 | exact args0_2 | exact args0_3 | exact args0_4 | exact args0_5 | exact args0_6) fun X_ w_ => ?_
    refine goX @e ?_; first | exact trivial | skip
  by_cases h4 : 57343 < z
  · have e := gsign_t (z := z) (by omega)
    refine Sound.run (N := 13) Tryz.func81 rfl (by kernel_rfl) rfl rfl rfl (by first | exact args0_0 | exact args0_1 | exact args0_2 | exact args0_3 | exact args0_4 | exact args0_5 | exact args0_6) fun X_ w_ => ?_
    refine goX @e ?_; first | exact trivial | skip
  · have e := gsign_f (z := z) (by omega)
    refine Sound.run (N := 13) Tryz.func81 rfl (by kernel_rfl) rfl rfl rfl (by first | exact args0_0 | exact args0_1 | exact args0_2 | exact args0_3 | exact args0_4 | exact args0_5 | exact args0_6) fun X_ w_ => ?_
    refine goX @e ?_; first | exact trivial | skip
/-- Are all signs good? -/
def allG (l : List Int) : Bool := l.all gsign
/-- The first number that is not 0. -/
def orI : List Int → Int
  | [] => 0
  | x :: r => if x = 0 then orI r else x
set_option maxHeartbeats 4000000 in
set_option maxRecDepth 10000 in
theorem cmpOr {l : List Int} (hl : l.length ≤ 9223372036854775807) : Sound Tryz.prog 49 [.sl 1 (is l)] (.int .i64 (orI l)) := by
  refine Sound.run (N := 18) Tryz.func49 rfl (by kernel_rfl) rfl rfl rfl (by first | exact args0_0 | exact args0_1 | exact args0_2 | exact args0_3 | exact args0_4 | exact args0_5 | exact args0_6) fun X_ w_ => ?_
  refine goT ?_; first | exact trivial | skip
  refine WP_loopk (fun k : Nat => k ≤ l.length ∧ orI (l.drop k) = orI l) (fun k => [(3, .d (.int .i64 0)), (6, .d (.sl 1 (is l))), (7, .d (.int .i64 l.length)), (8, .d (.int .i64 k))]) (fun _ => []) 0 (fun k => l.length - k) [3, 6, 7, 8] [] 0 ⟨Nat.zero_le _, rfl⟩ rfl rfl (Nat.le_refl _) (fun _ _ => rfl) (fun _ _ => rfl) fun k hk => ?_
  obtain ⟨hk1, hw⟩ := hk
  by_cases hk' : k < l.length
  · rw [drop_at hk'] at hw
    simp only [orI] at hw
    by_cases hz : l[k]! = 0
    · rw [if_pos hz] at hw
      refine goX @hz ?_; first | exact trivial | skip
      refine ⟨k + 1, ⟨by omega, hw⟩, ?_, rfl, by omega⟩
      simp (disch := omega) only [go_sem, keepL, Int.natCast_add, Int.cast_ofNat_Int]
    · rw [if_neg hz] at hw
      refine goX (hw.symm) ?_; first | exact trivial | skip
  · rw [List.drop_eq_nil_of_le (by omega)] at hw
    have e : orI l = 0 := hw.symm
    refine goX @e ?_; first | exact trivial | skip
/-- A rule. -/
structure Ru where
  left : List Int
  right : List Int
  cost : Int
deriving DecidableEq
instance : Inhabited Ru := ⟨⟨[], [], 0⟩⟩
def ru (r : Ru) : D := .agg [.sl 1 (is r.left), .sl 1 (is r.right), .int .u64 r.cost]
def Ru.ok (r : Ru) : Prop := r.left.length ≤ 9223372036854775807 ∧ r.right.length ≤ 9223372036854775807 ∧ 0 ≤ r.cost ∧ r.cost ≤ 18446744073709551615
end Go.Eng.Tryz
set_option linter.unusedVariables false
set_option linter.unusedSimpArgs false
namespace Go.Eng.Tryz
open Go Go.Eng Go.Proofs Go.RowKit
open Go.Maps (Keyed)
attribute [local go_sem] ty0 ty1 ty2 ty3 ty4 ty5 ty6 ty7 ty8 ty9 ty10 ty11 ty12 ty13 ty14 ty15 ty16 ty17 ty18
attribute [local go_sem] is_len is_get
def gi (l : List Int) (i : Nat) : Int := (l[i]?).getD 0
/-- May a side be? -/
def sok (l : List Int) : Bool := allG l && decide (l.length ≤ 8)
end Go.Eng.Tryz
set_option linter.unusedVariables false
set_option linter.unusedSimpArgs false
namespace Go.Eng.Tryz
open Go Go.Eng Go.Proofs Go.RowKit
open Go.Maps (Keyed)
attribute [local go_sem] evFold rnE ksE roundE frz frzs List.set_cons_zero List.set_cons_succ List.zip_cons_cons List.zip_nil_right List.foldl_cons List.foldl_nil D.flat rns AV.rn HO.rn AV.ks kss HO.ks sg dedup objKs reach passE fresh List.filter fnOf evOp opnd lk v2d v2ds just evBin intBin nilBin isNil strBin evUn evLoad ldD ldA evStore evField evIndex evBuild fillA evBuildSlice evBuildSliceX evBuildSliceT isOwn1 evAppendTX evAppendTT evAppend evAppendClip elems evMake evSlice evSliceO evSliceX evSliceY evViewV evStoreX evStoreT stT stI evCopyT evAppendT evAppendTD ldT ldI Tb.inn Tb.ilen Tb.nilAt Tb.ini D.put evCut evView evCopy evAppendV evAgg evMakeMap evLookup evMapUpd evRange evEntry cellsD AV.kb splice List.getLast?_append resM resAs resA resD keepL List.replicate_zero List.take_length ofInt evLen evMin evMax evConv evNil evExtract evBuiltin toD toDs allD pack splice D.comps AV.comps AV.sto D.cell D.rebuild inOrder allFlat del put setE eff gd gslot kills Option.map_some Option.map_none Option.bind_some Option.isSome_some List.map_cons List.map_nil List.append_nil List.nil_append List.cons_append List.length_cons List.length_nil List.length_map List.length_append List.take_zero List.take_succ_cons List.take_nil List.drop_zero List.drop_succ_cons List.drop_nil List.getElem?_cons_zero List.getElem?_cons_succ List.getElem?_map List.all_cons List.all_nil List.mem_cons List.not_mem_nil List.elem_cons List.elem_nil Bool.and_true Bool.true_and Bool.and_self Bool.not_true Bool.not_false Bool.or_true Bool.or_false and_self and_true true_and or_false false_or or_true true_or not_false_eq_true not_true_eq_false if_true if_false decide_true decide_false decide_eq_true_eq Int.toNat_natCast Int.toNat_zero beq_self_eq_true bne_self_eq_false Bool.false_eq_true Nat.add_zero Nat.zero_add ty0 ty1 ty2 ty3 ty4 ty5 ty6 ty7 ty8 ty9 ty10 ty11 ty12 ty13 ty14 ty15 ty16 ty17 ty18 room le_i lt_i eq_n le_n lt_n len0 gdE bb_tf bb_ft mapP arrL if_min tdiv_nn tmod_nn us_len us_get wrap_i64 wrap_u64 dec_lt dec_nlt dec_le dec_nle beq_t beq_f bne_t bne_f get_lt gt_iff_lt ge_iff_le
attribute [local go_sem ↓] map_P reduceIte
attribute [local go_sem] reduceCtorEq Nat.reduceEqDiff Nat.reduceAdd Nat.reduceSub Nat.reduceMul Nat.reduceLeDiff Nat.reduceLT Nat.reduceBEq Nat.reduceBNe Int.reduceToNat Int.reduceLT Int.reduceLE Int.reduceEq Int.reduceAdd Int.reduceSub Int.reduceNeg Int.reduceBEq Int.reduceBNe
attribute [local go_sem] is_len is_get
theorem kl_int {d : Nat} {n : Int} (h : -9223372036854775808 ≤ n ∧ n ≤ 9223372036854775807) : Tryz.prog.keyLits (d + 1) 3 [.int .i64 n] = some [.int .i64 n] := by
  have hw : (Lit.int .i64 n).wf = true := by simp only [Lit.wf, Bool.and_eq_true, decide_eq_true_eq]; exact h
  unfold Program.keyLits
  rw [Tryz.underlying3]
  simp only [hw, and_self, if_true]
theorem c_i : Tryz.prog.cellsOf 3 = 1 := by kernel_rfl
/-- A side's numbers fit. -/
def fits (l : List Int) : Prop := l.length ≤ 8 ∧ ∀ z ∈ l, -9223372036854775808 ≤ z ∧ z ≤ 9223372036854775807
theorem depth_eq : ∃ d, Tryz.prog.types.size + 1 = d + 4 := ⟨Tryz.prog.types.size - 3, by have : 3 ≤ Tryz.prog.types.size := of_decide_eq_true (by kernel_rfl); omega⟩
/-- Two sides in one piece. -/
def bd (a b : List Int) : D := .agg [.int .i64 a.length, .int .i64 (gi a 0), .int .i64 (gi a 1), .int .i64 (gi a 2), .int .i64 (gi a 3), .int .i64 (gi a 4), .int .i64 (gi a 5), .int .i64 (gi a 6), .int .i64 (gi a 7), .int .i64 b.length, .int .i64 (gi b 0), .int .i64 (gi b 1), .int .i64 (gi b 2), .int .i64 (gi b 3), .int .i64 (gi b 4), .int .i64 (gi b 5), .int .i64 (gi b 6), .int .i64 (gi b 7)]
theorem rep_ints {w : World} {M : Nat → Prop} {l : List Int} : RepD w M (.agg (l.map fun z => .int .i64 z)) (.agg (l.map fun z => .int .i64 z).toArray) := by
  refine .agg (by simp) (fun d hd => ?_) (fun i d v h1 h2 => ?_)
  · obtain ⟨z, _, rfl⟩ := List.mem_map.1 hd; rfl
  · rw [List.getElem?_map] at h1 h2
    cases hq : l[i]? with
    | none => rw [hq] at h1; simp at h1
    | some z => rw [hq] at h1 h2; simp at h1 h2; subst h1; subst h2; exact .int _ _
theorem pure_ints {l : List Int} : (D.agg (l.map fun z => .int .i64 z)).pure = true := by
  simp only [D.pure, List.all_eq_true]
  intro d hd
  obtain ⟨z, _, rfl⟩ := List.mem_map.1 hd; rfl
end Go.Eng.Tryz
set_option linter.unusedVariables false
set_option linter.unusedSimpArgs false
namespace Go.Eng.Tryz
open Go Go.Eng Go.Proofs Go.RowKit
open Go.Maps (Keyed)
attribute [local go_sem] ty0 ty1 ty2 ty3 ty4 ty5 ty6 ty7 ty8 ty9 ty10 ty11 ty12 ty13 ty14 ty15 ty16 ty17 ty18
attribute [local go_sem] is_len is_get
theorem wcmp_eq : ∀ (a b : List Int), wcmp a b = 0 ↔ a = b
  | [], [] => by simp [wcmp]
  | [], _ :: _ => by simp [wcmp]
  | _ :: _, [] => by simp [wcmp]
  | x :: a, y :: b => by
    simp only [wcmp, List.cons.injEq]
    by_cases h : x < y
    · rw [if_pos h]; constructor <;> intro h' <;> omega
    · rw [if_neg h]
      by_cases h2 : y < x
      · rw [if_pos h2]; constructor <;> intro h' <;> omega
      · rw [if_neg h2, wcmp_eq a b]; constructor
        · intro h'; exact ⟨by omega, h'⟩
        · exact fun h' => h'.2
end Go.Eng.Tryz
namespace Go.Proofs
open Go.Shelf Go.RowKit Go.Lib Go.Sort
end Go.Proofs
set_option linter.unusedVariables false
set_option linter.unusedSimpArgs false
namespace Go.Eng.Tryz
open Go Go.Eng Go.Proofs Go.RowKit
theorem wcmp_swap : ∀ (a b : List Int), wcmp b a = - wcmp a b
  | [], [] => by simp [wcmp]
  | [], _ :: _ => by simp [wcmp]
  | _ :: _, [] => by simp [wcmp]
  | x :: a, y :: b => by
    simp only [wcmp]
    by_cases h : x < y
    · rw [if_pos h, if_neg (by omega), if_pos h]; rfl
    · by_cases h2 : y < x
      · rw [if_pos h2, if_neg h, if_pos h2]
      · rw [if_neg h2, if_neg h, if_neg h, if_neg h2, wcmp_swap a b]
theorem wcmp_le_trans : ∀ (a b c : List Int), wcmp a b ≤ 0 → wcmp b c ≤ 0 → wcmp a c ≤ 0
  | [], b, c, _, _ => by cases c <;> simp [wcmp]
  | x :: a, [], c, h, _ => by simp [wcmp] at h
  | x :: a, y :: b, [], _, h => by simp [wcmp] at h
  | x :: a, y :: b, z :: c, h1, h2 => by
    have ih := wcmp_le_trans a b c
    simp only [wcmp] at h1 h2 ⊢
    rcases Int.lt_trichotomy x y with hxy | hxy | hxy
    · rcases Int.lt_trichotomy y z with hyz | hyz | hyz
      · rw [if_pos (by omega)]; decide
      · rw [if_pos (by omega)]; decide
      · rw [if_neg (by omega), if_pos hyz] at h2; omega
    · subst hxy
      rw [if_neg (by omega), if_neg (by omega)] at h1
      rcases Int.lt_trichotomy x z with hyz | hyz | hyz
      · rw [if_pos (by omega)]; decide
      · subst hyz
        rw [if_neg (by omega), if_neg (by omega)] at h2 ⊢
        exact ih h1 h2
      · rw [if_neg (by omega), if_pos hyz] at h2; omega
    · rw [if_neg (by omega), if_pos hxy] at h1; omega
/-- Of two words: what is behind one that is behind. -/
theorem wcmp_lt_trans {a b c : List Int} (h1 : wcmp a b < 0) (h2 : wcmp b c ≤ 0) : wcmp a c < 0 := by
  have h3 := wcmp_le_trans a b c (by omega) h2
  by_cases h : wcmp a c = 0
  · have e := (wcmp_eq _ _).1 h
    rw [← e] at h2
    have := wcmp_swap a b
    omega
  · omega
def rs (l : List Ru) : List D := l.map ru
end Go.Eng.Tryz
set_option linter.unusedVariables false
set_option linter.unusedSimpArgs false
namespace Go.Eng.Tryz
open Go Go.Eng Go.Proofs Go.RowKit
/-- The same sides. -/
def ssame (r s : Ru) : Prop := r.left = s.left ∧ r.right = s.right
instance (r s : Ru) : Decidable (ssame r s) := by unfold ssame; infer_instance
/-- Sides that stand ahead. -/
def slt (r s : Ru) : Prop := wcmp r.left s.left < 0 ∨ r.left = s.left ∧ wcmp r.right s.right < 0
instance (r s : Ru) : Decidable (slt r s) := by unfold slt; infer_instance
end Go.Eng.Tryz
set_option linter.unusedVariables false
set_option linter.unusedSimpArgs false
namespace Go.Eng.Tryz
open Go Go.Eng Go.Proofs Go.RowKit
attribute [local go_sem] ty0 ty1 ty2 ty3 ty4 ty5 ty6 ty7 ty8 ty9 ty10 ty11 ty12 ty13 ty14 ty15 ty16 ty17 ty18
end Go.Eng.Tryz
set_option linter.unusedVariables false
set_option linter.unusedSimpArgs false
namespace Go.Eng.Tryz
open Go Go.Eng Go.Proofs Go.RowKit
open Go.Maps (Keyed)
attribute [local go_sem] ty0 ty1 ty2 ty3 ty4 ty5 ty6 ty7 ty8 ty9 ty10 ty11 ty12 ty13 ty14 ty15 ty16 ty17 ty18
theorem rs_len {l : List Ru} : (rs l).length = l.length := by simp [rs]
theorem rs_get {l : List Ru} {k : Nat} (h : k < l.length) : (rs l)[k]? = some (.agg [.sl 1 (is (l[k]!).left), .sl 1 (is (l[k]!).right), .int .u64 (l[k]!).cost]) := by
  simp [rs, ru, List.getElem?_eq_getElem h, getElem!_pos l k h]
theorem rs_snoc {l : List Ru} {r : Ru} : rs l ++ [.agg [.sl 1 (is r.left), .sl 1 (is r.right), .int .u64 r.cost]] = rs (l ++ [r]) := by simp [rs, ru]
attribute [local go_sem] is_len is_get rs_len rs_get rs_snoc
/-- A map's entries. -/
def em (ms : List Ru) : List (D × D) := ms.map fun r => (bd r.left r.right, .int .u64 r.cost)
end Go.Eng.Tryz
set_option linter.unusedVariables false
set_option linter.unusedSimpArgs false
namespace Go.Eng.Tryz
open Go Go.Eng Go.Proofs Go.RowKit
attribute [local go_sem] ty0 ty1 ty2 ty3 ty4 ty5 ty6 ty7 ty8 ty9 ty10 ty11 ty12 ty13 ty14 ty15 ty16 ty17 ty18
attribute [local go_sem] is_len is_get rs_len rs_get rs_snoc
end Go.Eng.Tryz
set_option linter.unusedVariables false
set_option linter.unusedSimpArgs false
namespace Go.Eng.Tryz
open Go Go.Eng Go.Proofs Go.RowKit
attribute [local go_sem] ty0 ty1 ty2 ty3 ty4 ty5 ty6 ty7 ty8 ty9 ty10 ty11 ty12 ty13 ty14 ty15 ty16 ty17 ty18
attribute [local go_sem] is_len is_get rs_len rs_get
theorem itake {a b : List Int} {k : Nat} (hw : a.take k = b.take k) (h1 : k < a.length) (h2 : k < b.length) (h : a[k]! = b[k]!) : a.take (k + 1) = b.take (k + 1) := by
  rw [List.take_add_one, List.take_add_one, hw, List.getElem?_eq_getElem h1, List.getElem?_eq_getElem h2, ← getElem!_pos a k h1, ← getElem!_pos b k h2, h]
set_option maxHeartbeats 4000000 in
set_option maxRecDepth 10000 in
theorem sEqual {a b : List Int} (ha : a.length ≤ 9223372036854775807) (hb : b.length ≤ 9223372036854775807) : Sound Tryz.prog 66 [.sl 1 (is a), .sl 1 (is b)] (.bool (decide (a = b))) := by
  by_cases hl : a.length = b.length
  · refine Sound.run (N := 26) Tryz.func66 rfl (by kernel_rfl) rfl rfl rfl (by first | exact args0_0 | exact args0_1 | exact args0_2 | exact args0_3 | exact args0_4 | exact args0_5 | exact args0_6) fun X_ w_ => ?_
    refine goT ?_; first | exact trivial | skip
    refine WP_loopk (fun k : Nat => k ≤ a.length ∧ a.take k = b.take k) (fun k => [(0, .d (.sl 1 (is a))), (1, .d (.sl 1 (is b))), (12, .d (.int .i64 a.length)), (13, .d (.int .i64 k))]) (fun _ => []) 0 (fun k => a.length - k) [0, 1, 12, 13] [] 0 ⟨Nat.zero_le _, rfl⟩ rfl rfl (Nat.le_refl _) (fun _ _ => rfl) (fun _ _ => rfl) fun k hk => ?_
    obtain ⟨hk1, hw⟩ := hk
    by_cases hk' : k < a.length
    · have hk2 : k < b.length := by omega
      by_cases hc : a[k]! = b[k]!
      · have e := itake hw hk' hk2 hc
        refine goX @hc ?_; first | exact trivial | skip
        refine ⟨k + 1, ⟨by omega, e⟩, ?_, rfl, by omega⟩
        simp (disch := omega) only [go_sem, keepL, Int.natCast_add, Int.cast_ofNat_Int]
      · have e : decide (a = b) = false := decide_eq_false fun h => hc (by rw [h])
        refine goX @e ?_; first | exact trivial | skip
    · have hk' : k = a.length := by omega
      subst hk'
      have e : decide (a = b) = true := decide_eq_true (by rw [List.take_length, hl, List.take_length] at hw; exact hw)
      refine goX @e ?_; first | exact trivial | skip
  · have e : decide (a = b) = false := decide_eq_false fun h => hl (by rw [h])
    refine Sound.run (N := 26) Tryz.func66 rfl (by kernel_rfl) rfl rfl rfl (by first | exact args0_0 | exact args0_1 | exact args0_2 | exact args0_3 | exact args0_4 | exact args0_5 | exact args0_6) fun X_ w_ => ?_
    refine goX @e ?_; first | exact trivial | skip
/-- Where the first is of which something holds. -/
def fidx {α : Type} (p : α → Bool) (l : List α) : Int := if l.any p = true then (l.findIdx p : Nat) else -1
theorem fidx_ge {α : Type} (p : α → Bool) (l : List α) : decide (0 ≤ fidx p l) = l.any p := by
  unfold fidx
  cases h : l.any p
  · rw [if_neg (by simp)]; simp
  · rw [if_pos rfl]; simp
theorem fidx_at {α : Type} [Inhabited α] {p : α → Bool} {l : List α} {k : Nat} (h : k < l.length) (hk : (l.take k).any p = false) (hb : p (l[k]!) = true) : fidx p l = (k : Int) := by
  unfold fidx
  rw [getElem!_pos l k h] at hb
  rw [if_pos (List.any_eq_true.2 ⟨l[k], List.getElem_mem h, hb⟩)]
  congr 1
  rw [List.findIdx_eq h]
  refine ⟨hb, fun j hj => ?_⟩
  have hm : l[j] ∈ l.take k := by
    have : (l.take k)[j]? = some l[j] := by rw [List.getElem?_take, if_pos hj, List.getElem?_eq_getElem (by omega)]
    exact List.mem_of_getElem? this
  cases hp : p l[j] with
  | false => rfl
  | true =>
    have := List.any_eq_true.2 ⟨l[j], hm, hp⟩
    rw [hk] at this; cases this
theorem any_step {α : Type} [Inhabited α] {p : α → Bool} {l : List α} {k : Nat} (h : k < l.length) (hk : (l.take k).any p = false) (hb : p (l[k]!) = false) : (l.take (k + 1)).any p = false := by
  rw [List.take_add_one, List.any_append, List.getElem?_eq_getElem h, hk]
  rw [getElem!_pos l k h] at hb
  simp [hb]
theorem fidx_none {α : Type} {p : α → Bool} {l : List α} (h : l.any p = false) : fidx p l = -1 := by unfold fidx; rw [h]; rfl
set_option maxHeartbeats 4000000 in
set_option maxRecDepth 10000 in
theorem indexG {p : Int → Bool} {g : Nat} (hp : ∀ z, Sound Tryz.prog g [.int .i64 z] (.bool (p z))) {l : List Int} (hl : l.length ≤ 9223372036854775807) : Sound Tryz.prog 130 [.sl 1 (is l), .fn g] (.int .i64 (fidx p l)) := by
  refine Sound.run (N := 19) Tryz.func130 rfl (by kernel_rfl) rfl rfl rfl (by first | exact args0_0 | exact args0_1 | exact args0_2 | exact args0_3 | exact args0_4 | exact args0_5 | exact args0_6) fun X_ w_ => ?_
  refine goT ?_; first | exact trivial | skip
  refine WP_loopk (fun k : Nat => k ≤ l.length ∧ (l.take k).any p = false) (fun k => [(0, .d (.sl 1 (is l))), (1, .d (.fn g)), (7, .d (.int .i64 l.length)), (8, .d (.int .i64 k))]) (fun _ => []) 0 (fun k => l.length - k) [0, 1, 7, 8] [] 0 ⟨Nat.zero_le _, rfl⟩ rfl rfl (Nat.le_refl _) (fun _ _ => rfl) (fun _ _ => rfl) fun k hk => ?_
  obtain ⟨hk1, hw⟩ := hk
  by_cases hk' : k < l.length
  · have c := hp (l[k]!)
    cases hg : p (l[k]!)
    · have hst := any_step hk' hw hg
      rw [hg] at c
      have c0_ := c; refine goT ?_; first | exact trivial | skip
      refine ⟨k + 1, ⟨by omega, hst⟩, ?_, rfl, by omega⟩
      simp (disch := omega) only [go_sem, keepL, Int.natCast_add, Int.cast_ofNat_Int]
    · have e := fidx_at hk' hw hg
      rw [hg] at c
      have c0_ := c; refine goX @e ?_; first | exact trivial | skip
  · have hkl : k = l.length := by omega
    subst hkl
    rw [List.take_length] at hw
    have e := fidx_none hw
    refine goX @e ?_; first | exact trivial | skip
theorem containsG {p : Int → Bool} {g : Nat} (hp : ∀ z, Sound Tryz.prog g [.int .i64 z] (.bool (p z))) {l : List Int} (hl : l.length ≤ 9223372036854775807) : Sound Tryz.prog 92 [.sl 1 (is l), .fn g] (.bool (l.any p)) := by
  have e := fidx_ge p l
  refine Sound.run (N := 9) Tryz.func92 rfl (by kernel_rfl) rfl rfl rfl (by first | exact args0_0 | exact args0_1 | exact args0_2 | exact args0_3 | exact args0_4 | exact args0_5 | exact args0_6) fun X_ w_ => ?_
  have c0_ := indexG hp hl; refine goX @e ?_; first | exact trivial | skip
def blank (z : Int) : Bool := decide (z = 32 ∨ z = 9 ∨ z = 10)
theorem blank_f {z : Int} (h : ¬ (z = 32 ∨ z = 9 ∨ z = 10)) : blank z = false := decide_eq_false h
end Go.Eng.Tryz
set_option linter.unusedVariables false
set_option linter.unusedSimpArgs false
namespace Go.Eng.Tryz
open Go Go.Eng Go.Proofs Go.RowKit
attribute [local go_sem] ty0 ty1 ty2 ty3 ty4 ty5 ty6 ty7 ty8 ty9 ty10 ty11 ty12 ty13 ty14 ty15 ty16 ty17 ty18
attribute [local go_sem] is_len is_get rs_len rs_get rs_snoc
end Go.Eng.Tryz
set_option linter.unusedVariables false
set_option linter.unusedSimpArgs false
namespace Go.Eng.Tryz
open Go Go.Eng Go.Proofs Go.RowKit
attribute [local go_sem] ty0 ty1 ty2 ty3 ty4 ty5 ty6 ty7 ty8 ty9 ty10 ty11 ty12 ty13 ty14 ty15 ty16 ty17 ty18
attribute [local go_sem] is_len is_get rs_len rs_get
theorem if_max {a b : Int} : (if a < b then b else a) = max a b := by split <;> omega
/-- Costs. -/
structure Co where
  more : Int
  less : Int
  other : Int
  turned : Int
  rules : List Ru
deriving DecidableEq
def co (c : Co) : D := .agg [.int .u64 c.more, .int .u64 c.less, .int .u64 c.other, .int .u64 c.turned, .sl 3 (rs c.rules)]
def Co.ok (c : Co) : Prop := U c.more ∧ U c.less ∧ U c.other ∧ U c.turned ∧ (∀ r ∈ c.rules, r.ok) ∧ c.rules.length ≤ 9223372036854775807
theorem any_not {α : Type} (p : α → Bool) (l : List α) : (l.any fun r => !p r) = !l.all p := by
  induction l with
  | nil => rfl
  | cons x l ih => simp [ih]
end Go.Eng.Tryz
set_option linter.unusedVariables false
set_option linter.unusedSimpArgs false
namespace Go.Eng.Tryz
open Go Go.Eng Go.Proofs Go.RowKit
attribute [local go_sem] evFold rnE ksE roundE frz frzs List.set_cons_zero List.set_cons_succ List.zip_cons_cons List.zip_nil_right List.foldl_cons List.foldl_nil D.flat rns AV.rn HO.rn AV.ks kss HO.ks sg dedup objKs reach passE fresh List.filter fnOf evOp opnd lk v2d v2ds just evBin intBin nilBin isNil strBin evUn evLoad ldD ldA evStore evField evIndex evBuild fillA evBuildSlice evBuildSliceX evBuildSliceT isOwn1 evAppendTX evAppendTT evAppend evAppendClip elems evMake evSlice evSliceO evSliceX evSliceY evViewV evStoreX evStoreT stT stI evCopyT evAppendT evAppendTD ldT ldI Tb.inn Tb.ilen Tb.nilAt Tb.ini D.put evCut evView evCopy evAppendV evAgg evMakeMap evLookup evMapUpd evRange evEntry cellsD AV.kb splice List.getLast?_append resM resAs resA resD keepL List.replicate_zero List.take_length ofInt evLen evMin evMax evConv evNil evExtract evBuiltin toD toDs allD pack splice D.comps AV.comps AV.sto D.cell D.rebuild inOrder allFlat del put setE eff gd gslot kills Option.map_some Option.map_none Option.bind_some Option.isSome_some List.map_cons List.map_nil List.append_nil List.nil_append List.cons_append List.length_cons List.length_nil List.length_map List.length_append List.take_zero List.take_succ_cons List.take_nil List.drop_zero List.drop_succ_cons List.drop_nil List.getElem?_cons_zero List.getElem?_cons_succ List.getElem?_map List.all_cons List.all_nil List.mem_cons List.not_mem_nil List.elem_cons List.elem_nil Bool.and_true Bool.true_and Bool.and_self Bool.not_true Bool.not_false Bool.or_true Bool.or_false and_self and_true true_and or_false false_or or_true true_or not_false_eq_true not_true_eq_false if_true if_false decide_true decide_false decide_eq_true_eq Int.toNat_natCast Int.toNat_zero beq_self_eq_true bne_self_eq_false Bool.false_eq_true Nat.add_zero Nat.zero_add ty0 ty1 ty2 ty3 ty4 ty5 ty6 ty7 ty8 ty9 ty10 ty11 ty12 ty13 ty14 ty15 ty16 ty17 ty18 room le_i lt_i eq_n le_n lt_n len0 gdE bb_tf bb_ft mapP arrL if_min tdiv_nn tmod_nn us_len us_get wrap_i64 wrap_u64 dec_lt dec_nlt dec_le dec_nle beq_t beq_f bne_t bne_f get_lt gt_iff_lt ge_iff_le
attribute [local go_sem ↓] map_P reduceIte
attribute [local go_sem] reduceCtorEq Nat.reduceEqDiff Nat.reduceAdd Nat.reduceSub Nat.reduceMul Nat.reduceLeDiff Nat.reduceLT Nat.reduceBEq Nat.reduceBNe Int.reduceToNat Int.reduceLT Int.reduceLE Int.reduceEq Int.reduceAdd Int.reduceSub Int.reduceNeg Int.reduceBEq Int.reduceBNe
theorem if_minI {a b : Int} : (if b < a then b else a) = min a b := by split <;> omega
end Go.Eng.Tryz
set_option linter.unusedVariables false
set_option linter.unusedSimpArgs false
namespace Go.Eng.Tryz
open Go Go.Eng Go.Proofs Go.RowKit
attribute [local go_sem] ty0 ty1 ty2 ty3 ty4 ty5 ty6 ty7 ty8 ty9 ty10 ty11 ty12 ty13 ty14 ty15 ty16 ty17 ty18
end Go.Eng.Tryz

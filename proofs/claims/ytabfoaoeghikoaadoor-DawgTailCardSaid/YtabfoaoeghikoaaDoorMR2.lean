/- Words in order: what package order, slices.Compare and the references give. (and what stands behind it: texts laid together) -/
import Derived.Test.YtabfoaoeghikoaaDoorMG4
import Derived.Test.YtabfoaoeghikoaaDoorMR1
import Derived.Test.YtabfoaoeghikoaaDoorProg
import Derived.Test.YtabfoaoeghikoaaDoorMH1
set_option linter.unusedVariables false
set_option linter.unusedSimpArgs false
namespace Go.Eng.Tryd
open Go Go.Eng Go.Proofs Go.RowKit
attribute [local go_sem] tys
/-- Numbers, as a slice's elements. -/
def is (l : List Int) : List D := l.map fun z => D.int .i64 z
theorem is_len {l : List Int} : (is l).length = l.length := by simp [is]
theorem is_get {l : List Int} {k : Nat} (h : k < l.length) : (is l)[k]? = some (D.int .i64 (l[k]!)) := by
  simp [is, List.getElem?_eq_getElem h, getElem!_pos l k h]
attribute [local go_sem] is_len is_get

theorem isNaN {a : Int} : Sound Tryd.prog 41 [.int .i64 a] (.bool false) := by
  have e : (a != a) = false := by simp
  refine Sound.run (N := 6) Tryd.func41 rfl (by kernel_rfl) rfl rfl rfl (by first | exact args0_0 | exact args0_1 | exact args0_2 | exact args0_3 | exact args0_4 | exact args0_5 | exact args0_6) fun X_ w_ => ?_
  refine goX @e ?_; first | exact trivial | skip

def icmp (a b : Int) : Int := if a < b then -1 else if b < a then 1 else 0
theorem cmpCompare {a b : Int} : Sound Tryd.prog 21 [.int .i64 a, .int .i64 b] (.int .i64 (icmp a b)) := by
  by_cases h1 : a < b
  · have e : icmp a b = -1 := by unfold icmp; rw [if_pos h1]
    refine Sound.run (N := 20) Tryd.func21 rfl (by kernel_rfl) rfl rfl rfl (by first | exact args0_0 | exact args0_1 | exact args0_2 | exact args0_3 | exact args0_4 | exact args0_5 | exact args0_6) fun X_ w_ => ?_
    have c0_ := @isNaN; refine goX @e ?_; first | exact trivial | skip
  · by_cases h2 : b < a
    · have e : icmp a b = 1 := by unfold icmp; rw [if_neg h1, if_pos h2]
      refine Sound.run (N := 20) Tryd.func21 rfl (by kernel_rfl) rfl rfl rfl (by first | exact args0_0 | exact args0_1 | exact args0_2 | exact args0_3 | exact args0_4 | exact args0_5 | exact args0_6) fun X_ w_ => ?_
      have c0_ := @isNaN; refine goX @e ?_; first | exact trivial | skip
    · have e : icmp a b = 0 := by unfold icmp; rw [if_neg h1, if_neg h2]
      refine Sound.run (N := 20) Tryd.func21 rfl (by kernel_rfl) rfl rfl rfl (by first | exact args0_0 | exact args0_1 | exact args0_2 | exact args0_3 | exact args0_4 | exact args0_5 | exact args0_6) fun X_ w_ => ?_
      have c0_ := @isNaN; refine goX @e ?_; first | exact trivial | skip

def wcmp : List Int → List Int → Int
  | [], [] => 0
  | [], _ :: _ => -1
  | _ :: _, [] => 1
  | x :: a, y :: b => if x < y then -1 else if y < x then 1 else wcmp a b
theorem drop_at {l : List Int} {k : Nat} (h : k < l.length) : l.drop k = l[k]! :: l.drop (k + 1) := by
  rw [List.drop_eq_getElem_cons h, getElem!_pos l k h]
theorem wcmp_lt {a b : List Int} {k : Nat} (h : k < a.length) (h' : k < b.length) (hw : wcmp (a.drop k) (b.drop k) = wcmp a b) :
    (a[k]! = b[k]! → wcmp (a.drop (k + 1)) (b.drop (k + 1)) = wcmp a b) ∧ (icmp (a[k]!) (b[k]!) ≠ 0 → icmp (a[k]!) (b[k]!) = wcmp a b) := by
  rw [drop_at h, drop_at h'] at hw
  simp only [wcmp] at hw
  unfold icmp
  constructor
  · intro e
    rw [if_neg (by omega), if_neg (by omega)] at hw
    exact hw
  · intro e
    by_cases h1 : a[k]! < b[k]!
    · rw [if_pos h1] at hw ⊢; exact hw
    · rw [if_neg h1] at hw ⊢ e
      by_cases h2 : b[k]! < a[k]!
      · rw [if_pos h2] at hw ⊢; exact hw
      · rw [if_neg h2] at e; exact absurd rfl e
theorem icmp_0 {a b : Int} (h : icmp a b = 0) : a = b := by
  unfold icmp at h
  split at h
  · cases h
  · split at h
    · cases h
    · omega

set_option maxHeartbeats 4000000 in
set_option maxRecDepth 10000 in
theorem sCompare {a b : List Int} (ha : a.length ≤ 9223372036854775807) (hb : b.length ≤ 9223372036854775807) : Sound Tryd.prog 22 [.sl 1 (is a), .sl 1 (is b)] (.int .i64 (wcmp a b)) := by
  refine Sound.run (N := 36) Tryd.func22 rfl (by kernel_rfl) rfl rfl rfl (by first | exact args0_0 | exact args0_1 | exact args0_2 | exact args0_3 | exact args0_4 | exact args0_5 | exact args0_6) fun X_ w_ => ?_
  refine goT ?_; first | exact trivial | skip
  refine WP_loopk (fun k : Nat => k ≤ a.length ∧ k ≤ b.length ∧ wcmp (a.drop k) (b.drop k) = wcmp a b) (fun k => [(0, .d (.sl 1 (is a))), (1, .d (.sl 1 (is b))), (9, .d (.sl 1 (is a))), (10, .d (.int .i64 a.length)), (11, .d (.int .i64 k))]) (fun _ => []) 0 (fun k => a.length - k) [0, 1, 9, 10, 11] [] 0 ⟨Nat.zero_le _, Nat.zero_le _, rfl⟩ rfl rfl (Nat.le_refl _) (fun _ _ => rfl) (fun _ _ => rfl) fun k hk => ?_
  obtain ⟨hk1, hk2, hw⟩ := hk
  refine goT ?_; first | exact trivial | skip
  with_reducible apply WP_if (by simp (disch := omega) only [go_sem]; rfl) <;> intro hc <;> (try simp only [decide_eq_true_eq, decide_eq_false_iff_not, beq_iff_eq, beq_eq_false_iff_ne, bne_iff_ne, bne_eq_false_iff_eq, gt_iff_lt, ge_iff_le, Int.not_lt, Int.not_le, ne_eq] at hc)
  · have hk' : k < a.length := by omega
    refine goT ?_; first | exact trivial | skip
    with_reducible apply WP_if (by simp (disch := omega) only [go_sem]; rfl) <;> intro hc <;> (try simp only [decide_eq_true_eq, decide_eq_false_iff_not, beq_iff_eq, beq_eq_false_iff_ne, bne_iff_ne, bne_eq_false_iff_eq, gt_iff_lt, ge_iff_le, Int.not_lt, Int.not_le, ne_eq] at hc)
    · have e : wcmp a b = 1 := by
        rw [← hw, drop_at hk', show b.drop k = [] from List.drop_eq_nil_of_le (by omega)]
        rfl
      refine goX @e ?_; first | exact trivial | skip
    · have hk2' : k < b.length := by omega
      obtain ⟨w1, w2⟩ := wcmp_lt hk' hk2' hw
      have c0_ := @cmpCompare; refine goT ?_; first | exact trivial | skip
      with_reducible apply WP_if (by simp (disch := omega) only [go_sem]; rfl) <;> intro hc <;> (try simp only [decide_eq_true_eq, decide_eq_false_iff_not, beq_iff_eq, beq_eq_false_iff_ne, bne_iff_ne, bne_eq_false_iff_eq, gt_iff_lt, ge_iff_le, Int.not_lt, Int.not_le, ne_eq] at hc)
      · have e := w2 hc
        refine goX @e ?_; first | exact trivial | skip
      · have e := icmp_0 hc
        have w3 := w1 e
        refine goT ?_; first | exact trivial | skip
        refine ⟨k + 1, ⟨by omega, by omega, w3⟩, ?_, rfl, by omega⟩
        simp (disch := omega) only [go_sem, keepL, Int.natCast_add, Int.cast_ofNat_Int]
  · have hk' : k = a.length := by omega
    subst hk'
    have ed : a.drop a.length = [] := List.drop_eq_nil_of_le (Nat.le_refl _)
    refine goT ?_; first | exact trivial | skip
    with_reducible apply WP_if (by simp (disch := omega) only [go_sem]; rfl) <;> intro hc <;> (try simp only [decide_eq_true_eq, decide_eq_false_iff_not, beq_iff_eq, beq_eq_false_iff_ne, bne_iff_ne, bne_eq_false_iff_eq, gt_iff_lt, ge_iff_le, Int.not_lt, Int.not_le, ne_eq] at hc)
    · have e : wcmp a b = -1 := by
        rw [← hw, ed, drop_at (by omega)]
        rfl
      refine goX @e ?_; first | exact trivial | skip
    · have e : wcmp a b = 0 := by
        rw [← hw, ed, show b.drop a.length = [] from List.drop_eq_nil_of_le (by omega)]
        rfl
      refine goX @e ?_; first | exact trivial | skip

theorem orderLess {a b : List Int} (ha : a.length ≤ 9223372036854775807) (hb : b.length ≤ 9223372036854775807) : Sound Tryd.prog 38 [.sl 1 (is a), .sl 1 (is b)] (.bool (decide (wcmp a b < 0))) := by
  refine Sound.run (N := 9) Tryd.func38 rfl (by kernel_rfl) rfl rfl rfl (by first | exact args0_0 | exact args0_1 | exact args0_2 | exact args0_3 | exact args0_4 | exact args0_5 | exact args0_6) fun X_ w_ => ?_
  have c0_ := sCompare ha hb; refine goT ?_; first | exact trivial | skip

def wcom : List Int → List Int → Nat
  | x :: a, y :: b => if x = y then wcom a b + 1 else 0
  | _, _ => 0
theorem wcom_le : ∀ (a b : List Int), wcom a b ≤ a.length ∧ wcom a b ≤ b.length
  | [], b => by simp [wcom]
  | _ :: _, [] => by simp [wcom]
  | x :: a, y :: b => by
    have := wcom_le a b
    simp only [wcom]
    split <;> simp <;> omega
theorem wcom_nil (a : List Int) : wcom a [] = 0 := by cases a <;> rfl
theorem wcom_cmp : ∀ (a b : List Int), (wcom a b = b.length → ¬ wcmp a b < 0) ∧ (wcom a b ≠ b.length → wcom a b = a.length → wcmp a b < 0) ∧ (wcom a b ≠ b.length → wcom a b ≠ a.length → (wcmp a b < 0 ↔ a[wcom a b]! < b[wcom a b]!))
  | [], [] => by simp [wcom, wcmp]
  | [], y :: b => by simp [wcom, wcmp]
  | x :: a, [] => by simp [wcom, wcmp]
  | x :: a, y :: b => by
    obtain ⟨h1, h2, h3⟩ := wcom_cmp a b
    by_cases e : x = y
    · subst e
      have : wcom (x :: a) (x :: b) = wcom a b + 1 := by simp [wcom]
      rw [this]
      have hw : wcmp (x :: a) (x :: b) = wcmp a b := by simp [wcmp]
      rw [hw]
      simp only [List.length_cons, Nat.add_right_cancel_iff, List.getElem!_cons_succ, ne_eq]
      exact ⟨h1, h2, h3⟩
    · have : wcom (x :: a) (y :: b) = 0 := by simp [wcom, e]
      rw [this]
      simp only [List.length_cons, List.getElem!_cons_zero, wcmp]
      refine ⟨fun h => by omega, fun _ h => by omega, fun _ _ => ?_⟩
      constructor
      · intro h
        by_cases hxy : x < y
        · exact hxy
        · rw [if_neg hxy, if_pos (by omega)] at h
          omega
      · intro h
        rw [if_pos h]
        decide

end Go.Eng.Tryd
set_option linter.unusedVariables false
set_option linter.unusedSimpArgs false
namespace Go.Eng.Tryd
open Go Go.Eng Go.Proofs Go.RowKit
attribute [local go_sem] tys
attribute [local go_sem] is_len is_get
/-- A sign that there is. -/
def gsign (z : Int) : Bool := decide (0 ≤ z ∧ z ≤ 1114111 ∧ (z < 55296 ∨ 57343 < z))
theorem gsign_t {z : Int} (h : 0 ≤ z ∧ z ≤ 1114111 ∧ (z < 55296 ∨ 57343 < z)) : gsign z = true := decide_eq_true h
theorem gsign_f {z : Int} (h : ¬ (0 ≤ z ∧ z ≤ 1114111 ∧ (z < 55296 ∨ 57343 < z))) : gsign z = false := decide_eq_false h
theorem utfGood {z : Int} : Sound Tryd.prog 33 [.int .i64 z] (.bool (gsign z)) := by
  by_cases h1 : z < 0
  · have e := gsign_f (z := z) (by omega)
    refine Sound.run (N := 13) Tryd.func33 rfl (by kernel_rfl) rfl rfl rfl (by first | exact args0_0 | exact args0_1 | exact args0_2 | exact args0_3 | exact args0_4 | exact args0_5 | exact args0_6) fun X_ w_ => ?_
    refine goX @e ?_; first | exact trivial | skip
  by_cases h2 : 1114111 < z
  · have e := gsign_f (z := z) (by omega)
    refine Sound.run (N := 13) Tryd.func33 rfl (by kernel_rfl) rfl rfl rfl (by first | exact args0_0 | exact args0_1 | exact args0_2 | exact args0_3 | exact args0_4 | exact args0_5 | exact args0_6) fun X_ w_ => ?_
    refine goX @e ?_; first | exact trivial | skip
  by_cases h3 : z < 55296
  · have e := gsign_t (z := z) (by omega)
    refine Sound.run (N := 13) Tryd.func33 rfl (by kernel_rfl) rfl rfl rfl (by first | exact args0_0 | exact args0_1 | exact args0_2 | exact args0_3 | exact args0_4 | exact args0_5 | exact args0_6) fun X_ w_ => ?_
    refine goX @e ?_; first | exact trivial | skip
  by_cases h4 : 57343 < z
  · have e := gsign_t (z := z) (by omega)
    refine Sound.run (N := 13) Tryd.func33 rfl (by kernel_rfl) rfl rfl rfl (by first | exact args0_0 | exact args0_1 | exact args0_2 | exact args0_3 | exact args0_4 | exact args0_5 | exact args0_6) fun X_ w_ => ?_
    refine goX @e ?_; first | exact trivial | skip
  · have e := gsign_f (z := z) (by omega)
    refine Sound.run (N := 13) Tryd.func33 rfl (by kernel_rfl) rfl rfl rfl (by first | exact args0_0 | exact args0_1 | exact args0_2 | exact args0_3 | exact args0_4 | exact args0_5 | exact args0_6) fun X_ w_ => ?_
    refine goX @e ?_; first | exact trivial | skip
/-- Are all signs good? -/
def allG (l : List Int) : Bool := l.all gsign
theorem allG_step {l : List Int} {k : Nat} (h : k < l.length) : allG (l.take (k + 1)) = (allG (l.take k) && gsign (l[k]!)) := by
  unfold allG
  rw [List.take_add_one, List.all_append, List.getElem?_eq_getElem h, ← getElem!_pos l k h]
  generalize l[k]! = z
  simp
theorem allG_at {l : List Int} {k : Nat} (h : k < l.length) (hb : gsign (l[k]!) = false) : allG l = false := by
  cases hf : allG l with
  | false => rfl
  | true =>
    have := List.all_eq_true.1 hf (l[k]!) (by rw [getElem!_pos l k h]; exact List.getElem_mem h)
    rw [hb] at this; cases this
/-- Where the first bad sign stands. -/
def badI (l : List Int) : Int := if allG l = true then -1 else (l.findIdx (fun z => !gsign z) : Nat)
theorem badI_at {l : List Int} {k : Nat} (h : k < l.length) (hk : allG (l.take k) = true) (hb : gsign (l[k]!) = false) : badI l = (k : Int) := by
  unfold badI
  rw [if_neg (by rw [allG_at h hb]; simp)]
  congr 1
  rw [List.findIdx_eq h]
  refine ⟨by rw [← getElem!_pos l k h, hb]; rfl, fun j hj => ?_⟩
  have hm : l[j] ∈ l.take k := by
    have : (l.take k)[j]? = some l[j] := by rw [List.getElem?_take, if_pos hj, List.getElem?_eq_getElem (by omega)]
    exact List.mem_of_getElem? this
  have := List.all_eq_true.1 hk _ hm
  rw [this]; rfl
theorem badI_ge (l : List Int) : decide (0 ≤ badI l) = !allG l := by
  unfold badI
  cases h : allG l
  · rw [if_neg (by simp)]; simp
  · rw [if_pos rfl]; rfl
/-- The first number that is not 0. -/
def orI : List Int → Int
  | [] => 0
  | x :: r => if x = 0 then orI r else x
set_option maxHeartbeats 4000000 in
set_option maxRecDepth 10000 in
theorem cmpOr {l : List Int} (hl : l.length ≤ 9223372036854775807) : Sound Tryd.prog 20 [.sl 1 (is l)] (.int .i64 (orI l)) := by
  refine Sound.run (N := 18) Tryd.func20 rfl (by kernel_rfl) rfl rfl rfl (by first | exact args0_0 | exact args0_1 | exact args0_2 | exact args0_3 | exact args0_4 | exact args0_5 | exact args0_6) fun X_ w_ => ?_
  refine goT ?_; first | exact trivial | skip
  refine WP_loopk (fun k : Nat => k ≤ l.length ∧ orI (l.drop k) = orI l) (fun k => [(3, .d (.int .i64 0)), (6, .d (.sl 1 (is l))), (7, .d (.int .i64 l.length)), (8, .d (.int .i64 k))]) (fun _ => []) 0 (fun k => l.length - k) [3, 6, 7, 8] [] 0 ⟨Nat.zero_le _, rfl⟩ rfl rfl (Nat.le_refl _) (fun _ _ => rfl) (fun _ _ => rfl) fun k hk => ?_
  obtain ⟨hk1, hw⟩ := hk
  by_cases hk' : k < l.length
  · rw [drop_at hk'] at hw
    simp only [orI] at hw
    by_cases hz : l[k]! = 0
    · rw [if_pos hz] at hw
      refine goX @hz ?_; first | exact trivial | skip
      refine ⟨k + 1, ⟨by omega, hw⟩, ?_, rfl, by omega⟩
      simp (disch := omega) only [go_sem, keepL, Int.natCast_add, Int.cast_ofNat_Int]
    · rw [if_neg hz] at hw
      refine goX (hw.symm) ?_; first | exact trivial | skip
  · rw [List.drop_eq_nil_of_le (by omega)] at hw
    have e : orI l = 0 := hw.symm
    refine goX @e ?_; first | exact trivial | skip
/-- A rule. -/
structure Ru where
  left : List Int
  right : List Int
  cost : Int
deriving DecidableEq
instance : Inhabited Ru := ⟨⟨[], [], 0⟩⟩
def ru (r : Ru) : D := .agg [.sl 1 (is r.left), .sl 1 (is r.right), .int .u64 r.cost]
def Ru.ok (r : Ru) : Prop := r.left.length ≤ 9223372036854775807 ∧ r.right.length ≤ 9223372036854775807 ∧ 0 ≤ r.cost ∧ r.cost ≤ 18446744073709551615
def rcmp (r s : Ru) : Int := orI [wcmp r.left s.left, wcmp r.right s.right, icmp r.cost s.cost]
end Go.Eng.Tryd
set_option linter.unusedVariables false
set_option linter.unusedSimpArgs false
namespace Go.Eng.Tryd
open Go Go.Eng Go.Proofs Go.RowKit
open Go.Maps (Keyed)
attribute [local go_sem] evFold rnE ksE roundE frz frzs List.set_cons_zero List.set_cons_succ List.zip_cons_cons List.zip_nil_right List.foldl_cons List.foldl_nil D.flat rns AV.rn HO.rn AV.ks kss HO.ks sg dedup objKs reach passE fresh List.filter fnOf evOp opnd lk v2d v2ds just evBin intBin nilBin isNil strBin evUn evLoad ldD ldA evStore evField evIndex evBuild fillA evBuildSlice evBuildSliceX evBuildSliceT isOwn1 evAppendTX evAppendTT evAppend evAppendClip elems evMake evSlice evSliceO evSliceX evSliceY evViewV evStoreX evStoreT stT stI evCopyT evAppendT evAppendTD ldT ldI Tb.inn Tb.ilen Tb.nilAt Tb.ini D.put evCut evView evCopy evAppendV evAgg evMakeMap evLookup evMapUpd evRange evEntry cellsD AV.kb splice List.getLast?_append resM resAs resA resD keepL List.replicate_zero List.take_length ofInt evLen evMin evMax evConv evNil evExtract evBuiltin toD toDs allD pack splice D.comps AV.comps AV.sto D.cell D.rebuild inOrder allFlat del put setE eff gd gslot kills Option.map_some Option.map_none Option.bind_some Option.isSome_some List.map_cons List.map_nil List.append_nil List.nil_append List.cons_append List.length_cons List.length_nil List.length_map List.length_append List.take_zero List.take_succ_cons List.take_nil List.drop_zero List.drop_succ_cons List.drop_nil List.getElem?_cons_zero List.getElem?_cons_succ List.getElem?_map List.all_cons List.all_nil List.mem_cons List.not_mem_nil List.elem_cons List.elem_nil Bool.and_true Bool.true_and Bool.and_self Bool.not_true Bool.not_false Bool.or_true Bool.or_false and_self and_true true_and or_false false_or or_true true_or not_false_eq_true not_true_eq_false if_true if_false decide_true decide_false decide_eq_true_eq Int.toNat_natCast Int.toNat_zero beq_self_eq_true bne_self_eq_false Bool.false_eq_true Nat.add_zero Nat.zero_add tys room le_i lt_i eq_n le_n lt_n len0 gdE bb_tf bb_ft mapP arrL if_min tdiv_nn tmod_nn us_len us_get wrap_i64 wrap_u64 dec_lt dec_nlt dec_le dec_nle beq_t beq_f bne_t bne_f get_lt gt_iff_lt ge_iff_le
attribute [local go_sem ↓] map_P reduceIte
attribute [local go_sem] reduceCtorEq Nat.reduceEqDiff Nat.reduceAdd Nat.reduceSub Nat.reduceMul Nat.reduceLeDiff Nat.reduceLT Nat.reduceBEq Nat.reduceBNe Int.reduceToNat Int.reduceLT Int.reduceLE Int.reduceEq Int.reduceAdd Int.reduceSub Int.reduceNeg Int.reduceBEq Int.reduceBNe
attribute [local go_sem] is_len is_get
def gi (l : List Int) (i : Nat) : Int := (l[i]?).getD 0
/-- May a side be? -/
def sok (l : List Int) : Bool := allG l && decide (l.length ≤ 8)
def s8 (l : List Int) : List Int := if sok l = true then l else []
/-- A side in one piece. -/
def sd (l : List Int) : D := .agg [.int .i64 l.length, .int .i64 (gi l 0), .int .i64 (gi l 1), .int .i64 (gi l 2), .int .i64 (gi l 3), .int .i64 (gi l 4), .int .i64 (gi l 5), .int .i64 (gi l 6), .int .i64 (gi l 7)]
theorem s8_t {l : List Int} (h : sok l = true) : s8 l = l := if_pos h
theorem s8_f {l : List Int} (h : sok l = false) : s8 l = [] := if_neg (by rw [h]; simp)
end Go.Eng.Tryd
set_option linter.unusedVariables false
set_option linter.unusedSimpArgs false
namespace Go.Eng.Tryd
open Go Go.Eng Go.Proofs Go.RowKit
open Go.Maps (Keyed)
attribute [local go_sem] evFold rnE ksE roundE frz frzs List.set_cons_zero List.set_cons_succ List.zip_cons_cons List.zip_nil_right List.foldl_cons List.foldl_nil D.flat rns AV.rn HO.rn AV.ks kss HO.ks sg dedup objKs reach passE fresh List.filter fnOf evOp opnd lk v2d v2ds just evBin intBin nilBin isNil strBin evUn evLoad ldD ldA evStore evField evIndex evBuild fillA evBuildSlice evBuildSliceX evBuildSliceT isOwn1 evAppendTX evAppendTT evAppend evAppendClip elems evMake evSlice evSliceO evSliceX evSliceY evViewV evStoreX evStoreT stT stI evCopyT evAppendT evAppendTD ldT ldI Tb.inn Tb.ilen Tb.nilAt Tb.ini D.put evCut evView evCopy evAppendV evAgg evMakeMap evLookup evMapUpd evRange evEntry cellsD AV.kb splice List.getLast?_append resM resAs resA resD keepL List.replicate_zero List.take_length ofInt evLen evMin evMax evConv evNil evExtract evBuiltin toD toDs allD pack splice D.comps AV.comps AV.sto D.cell D.rebuild inOrder allFlat del put setE eff gd gslot kills Option.map_some Option.map_none Option.bind_some Option.isSome_some List.map_cons List.map_nil List.append_nil List.nil_append List.cons_append List.length_cons List.length_nil List.length_map List.length_append List.take_zero List.take_succ_cons List.take_nil List.drop_zero List.drop_succ_cons List.drop_nil List.getElem?_cons_zero List.getElem?_cons_succ List.getElem?_map List.all_cons List.all_nil List.mem_cons List.not_mem_nil List.elem_cons List.elem_nil Bool.and_true Bool.true_and Bool.and_self Bool.not_true Bool.not_false Bool.or_true Bool.or_false and_self and_true true_and or_false false_or or_true true_or not_false_eq_true not_true_eq_false if_true if_false decide_true decide_false decide_eq_true_eq Int.toNat_natCast Int.toNat_zero beq_self_eq_true bne_self_eq_false Bool.false_eq_true Nat.add_zero Nat.zero_add tys room le_i lt_i eq_n le_n lt_n len0 gdE bb_tf bb_ft mapP arrL if_min tdiv_nn tmod_nn us_len us_get wrap_i64 wrap_u64 dec_lt dec_nlt dec_le dec_nle beq_t beq_f bne_t bne_f get_lt gt_iff_lt ge_iff_le
attribute [local go_sem ↓] map_P reduceIte
attribute [local go_sem] reduceCtorEq Nat.reduceEqDiff Nat.reduceAdd Nat.reduceSub Nat.reduceMul Nat.reduceLeDiff Nat.reduceLT Nat.reduceBEq Nat.reduceBNe Int.reduceToNat Int.reduceLT Int.reduceLE Int.reduceEq Int.reduceAdd Int.reduceSub Int.reduceNeg Int.reduceBEq Int.reduceBNe
attribute [local go_sem] is_len is_get
theorem kl_int {d : Nat} {n : Int} (h : -9223372036854775808 ≤ n ∧ n ≤ 9223372036854775807) : Tryd.prog.keyLits (d + 1) 3 [.int .i64 n] = some [.int .i64 n] := by
  have hw : (Lit.int .i64 n).wf = true := by simp only [Lit.wf, Bool.and_eq_true, decide_eq_true_eq]; exact h
  unfold Program.keyLits
  rw [Tryd.underlying3]
  simp only [hw, and_self, if_true]
theorem c_i : Tryd.prog.cellsOf 3 = 1 := by kernel_rfl
theorem gi_in {l : List Int} (h : ∀ z ∈ l, -9223372036854775808 ≤ z ∧ z ≤ 9223372036854775807) (i : Nat) : -9223372036854775808 ≤ gi l i ∧ gi l i ≤ 9223372036854775807 := by
  unfold gi
  cases hq : l[i]? with
  | none => simp
  | some z => simpa using h z (List.mem_of_getElem? hq)
/-- A side's numbers fit. -/
def fits (l : List Int) : Prop := l.length ≤ 8 ∧ ∀ z ∈ l, -9223372036854775808 ≤ z ∧ z ≤ 9223372036854775807
theorem fits_s8 (l : List Int) : fits (s8 l) := by
  unfold s8
  split
  · rename_i h
    simp only [sok, Bool.and_eq_true, decide_eq_true_eq] at h
    refine ⟨h.2, fun z hz => ?_⟩
    have := List.all_eq_true.1 h.1 z hz
    simp only [gsign, decide_eq_true_eq] at this
    omega
  · exact ⟨by simp, by simp⟩
theorem depth_eq : ∃ d, Tryd.prog.types.size + 1 = d + 4 := ⟨Tryd.prog.types.size - 3, by have : 3 ≤ Tryd.prog.types.size := of_decide_eq_true (by kernel_rfl); omega⟩
/-- Two sides in one piece. -/
def bd (a b : List Int) : D := .agg [.int .i64 a.length, .int .i64 (gi a 0), .int .i64 (gi a 1), .int .i64 (gi a 2), .int .i64 (gi a 3), .int .i64 (gi a 4), .int .i64 (gi a 5), .int .i64 (gi a 6), .int .i64 (gi a 7), .int .i64 b.length, .int .i64 (gi b 0), .int .i64 (gi b 1), .int .i64 (gi b 2), .int .i64 (gi b 3), .int .i64 (gi b 4), .int .i64 (gi b 5), .int .i64 (gi b 6), .int .i64 (gi b 7)]
theorem rep_ints {w : World} {M : Nat → Prop} {l : List Int} : RepD w M (.agg (l.map fun z => .int .i64 z)) (.agg (l.map fun z => .int .i64 z).toArray) := by
  refine .agg (by simp) (fun d hd => ?_) (fun i d v h1 h2 => ?_)
  · obtain ⟨z, _, rfl⟩ := List.mem_map.1 hd; rfl
  · rw [List.getElem?_map] at h1 h2
    cases hq : l[i]? with
    | none => rw [hq] at h1; simp at h1
    | some z => rw [hq] at h1 h2; simp at h1 h2; subst h1; subst h2; exact .int _ _
theorem pure_ints {l : List Int} : (D.agg (l.map fun z => .int .i64 z)).pure = true := by
  simp only [D.pure, List.all_eq_true]
  intro d hd
  obtain ⟨z, _, rfl⟩ := List.mem_map.1 hd; rfl
theorem gi_ext {a b : List Int} (ha : a.length ≤ 8) (hl : a.length = b.length) (h : ∀ i, i < 8 → gi a i = gi b i) : a = b := by
  refine List.ext_getElem? fun i => ?_
  by_cases hi : i < a.length
  · have := h i (by omega)
    unfold gi at this
    rw [List.getElem?_eq_getElem hi, List.getElem?_eq_getElem (by omega)] at this ⊢
    simpa using this
  · rw [List.getElem?_eq_none (by omega), List.getElem?_eq_none (by omega)]
theorem sd_inj {a b : List Int} (ha : a.length ≤ 8) (h : sd a = sd b) : a = b := by
  unfold sd at h
  simp only [D.agg.injEq, List.cons.injEq, D.int.injEq, true_and, and_true] at h
  obtain ⟨h0, g0, g1, g2, g3, g4, g5, g6, g7⟩ := h
  refine gi_ext ha (by omega) fun i hi => ?_
  match i, hi with
  | 0, _ => exact g0
  | 1, _ => exact g1
  | 2, _ => exact g2
  | 3, _ => exact g3
  | 4, _ => exact g4
  | 5, _ => exact g5
  | 6, _ => exact g6
  | 7, _ => exact g7
theorem bd_inj {a b a' b' : List Int} (ha : a.length ≤ 8) (hb : b.length ≤ 8) (h : bd a b = bd a' b') : a = a' ∧ b = b' := by
  unfold bd at h
  simp only [D.agg.injEq, List.cons.injEq, D.int.injEq, true_and, and_true] at h
  obtain ⟨h0, g0, g1, g2, g3, g4, g5, g6, g7, k0, e0, e1, e2, e3, e4, e5, e6, e7⟩ := h
  refine ⟨gi_ext ha (by omega) fun i hi => ?_, gi_ext hb (by omega) fun i hi => ?_⟩
  · match i, hi with
    | 0, _ => exact g0
    | 1, _ => exact g1
    | 2, _ => exact g2
    | 3, _ => exact g3
    | 4, _ => exact g4
    | 5, _ => exact g5
    | 6, _ => exact g6
    | 7, _ => exact g7
  · match i, hi with
    | 0, _ => exact e0
    | 1, _ => exact e1
    | 2, _ => exact e2
    | 3, _ => exact e3
    | 4, _ => exact e4
    | 5, _ => exact e5
    | 6, _ => exact e6
    | 7, _ => exact e7
end Go.Eng.Tryd
set_option linter.unusedVariables false
set_option linter.unusedSimpArgs false
namespace Go.Eng.Tryd
open Go Go.Eng Go.Proofs Go.RowKit
open Go.Maps (Keyed)
attribute [local go_sem] evFold rnE ksE roundE frz frzs List.set_cons_zero List.set_cons_succ List.zip_cons_cons List.zip_nil_right List.foldl_cons List.foldl_nil D.flat rns AV.rn HO.rn AV.ks kss HO.ks sg dedup objKs reach passE fresh List.filter fnOf evOp opnd lk v2d v2ds just evBin intBin nilBin isNil strBin evUn evLoad ldD ldA evStore evField evIndex evBuild fillA evBuildSlice evBuildSliceX evBuildSliceT isOwn1 evAppendTX evAppendTT evAppend evAppendClip elems evMake evSlice evSliceO evSliceX evSliceY evViewV evStoreX evStoreT stT stI evCopyT evAppendT evAppendTD ldT ldI Tb.inn Tb.ilen Tb.nilAt Tb.ini D.put evCut evView evCopy evAppendV evAgg evMakeMap evLookup evMapUpd evRange evEntry cellsD AV.kb splice List.getLast?_append resM resAs resA resD keepL List.replicate_zero List.take_length ofInt evLen evMin evMax evConv evNil evExtract evBuiltin toD toDs allD pack splice D.comps AV.comps AV.sto D.cell D.rebuild inOrder allFlat del put setE eff gd gslot kills Option.map_some Option.map_none Option.bind_some Option.isSome_some List.map_cons List.map_nil List.append_nil List.nil_append List.cons_append List.length_cons List.length_nil List.length_map List.length_append List.take_zero List.take_succ_cons List.take_nil List.drop_zero List.drop_succ_cons List.drop_nil List.getElem?_cons_zero List.getElem?_cons_succ List.getElem?_map List.all_cons List.all_nil List.mem_cons List.not_mem_nil List.elem_cons List.elem_nil Bool.and_true Bool.true_and Bool.and_self Bool.not_true Bool.not_false Bool.or_true Bool.or_false and_self and_true true_and or_false false_or or_true true_or not_false_eq_true not_true_eq_false if_true if_false decide_true decide_false decide_eq_true_eq Int.toNat_natCast Int.toNat_zero beq_self_eq_true bne_self_eq_false Bool.false_eq_true Nat.add_zero Nat.zero_add tys room le_i lt_i eq_n le_n lt_n len0 gdE bb_tf bb_ft mapP arrL if_min tdiv_nn tmod_nn us_len us_get wrap_i64 wrap_u64 dec_lt dec_nlt dec_le dec_nle beq_t beq_f bne_t bne_f get_lt gt_iff_lt ge_iff_le
attribute [local go_sem ↓] map_P reduceIte
attribute [local go_sem] reduceCtorEq Nat.reduceEqDiff Nat.reduceAdd Nat.reduceSub Nat.reduceMul Nat.reduceLeDiff Nat.reduceLT Nat.reduceBEq Nat.reduceBNe Int.reduceToNat Int.reduceLT Int.reduceLE Int.reduceEq Int.reduceAdd Int.reduceSub Int.reduceNeg Int.reduceBEq Int.reduceBNe
attribute [local go_sem] is_len is_get
def rok (r : Ru) : Bool := sok r.left && sok r.right && decide (r.left ≠ r.right) && decide (r.cost < 18446744073709551615)
theorem rok_iff {r : Ru} : rok r = true ↔ sok r.left = true ∧ sok r.right = true ∧ r.left ≠ r.right ∧ r.cost < 18446744073709551615 := by
  simp [rok, Bool.and_eq_true, and_assoc]
theorem rok_f {r : Ru} (h : ¬ (sok r.left = true ∧ sok r.right = true ∧ r.left ≠ r.right ∧ r.cost < 18446744073709551615)) : rok r = false := by
  cases hr : rok r with
  | false => rfl
  | true => exact absurd (rok_iff.1 hr) h
theorem sok_len {l : List Int} (h : sok l = true) : l.length ≤ 8 := by
  simp only [sok, Bool.and_eq_true, decide_eq_true_eq] at h
  exact h.2
theorem rcmp_def {r s : Ru} : rcmp r s = if wcmp r.left s.left ≠ 0 then wcmp r.left s.left else if wcmp r.right s.right ≠ 0 then wcmp r.right s.right else icmp r.cost s.cost := by
  simp only [rcmp, orI]
  by_cases h1 : wcmp r.left s.left = 0
  · by_cases h2 : wcmp r.right s.right = 0
    · by_cases h3 : icmp r.cost s.cost = 0 <;> simp [h1, h2, h3]
    · simp [h1, h2]
  · simp [h1]
theorem icmp_lt {a b : Int} : (icmp a b < 0) ↔ a < b := by
  unfold icmp
  split
  · rename_i h; simp [h]
  · split <;> simp_all
theorem wcmp_eq : ∀ (a b : List Int), wcmp a b = 0 ↔ a = b
  | [], [] => by simp [wcmp]
  | [], _ :: _ => by simp [wcmp]
  | _ :: _, [] => by simp [wcmp]
  | x :: a, y :: b => by
    simp only [wcmp, List.cons.injEq]
    by_cases h : x < y
    · rw [if_pos h]; constructor <;> intro h' <;> omega
    · rw [if_neg h]
      by_cases h2 : y < x
      · rw [if_pos h2]; constructor <;> intro h' <;> omega
      · rw [if_neg h2, wcmp_eq a b]; constructor
        · intro h'; exact ⟨by omega, h'⟩
        · exact fun h' => h'.2
end Go.Eng.Tryd

set_option linter.unusedVariables false
set_option linter.unusedSimpArgs false
namespace Go.Eng.Tryd
open Go Go.Eng Go.Proofs Go.RowKit
theorem wcmp_swap : ∀ (a b : List Int), wcmp b a = - wcmp a b
  | [], [] => by simp [wcmp]
  | [], _ :: _ => by simp [wcmp]
  | _ :: _, [] => by simp [wcmp]
  | x :: a, y :: b => by
    simp only [wcmp]
    by_cases h : x < y
    · rw [if_pos h, if_neg (by omega), if_pos h]; rfl
    · by_cases h2 : y < x
      · rw [if_pos h2, if_neg h, if_pos h2]
      · rw [if_neg h2, if_neg h, if_neg h, if_neg h2, wcmp_swap a b]
theorem wcmp_le_trans : ∀ (a b c : List Int), wcmp a b ≤ 0 → wcmp b c ≤ 0 → wcmp a c ≤ 0
  | [], b, c, _, _ => by cases c <;> simp [wcmp]
  | x :: a, [], c, h, _ => by simp [wcmp] at h
  | x :: a, y :: b, [], _, h => by simp [wcmp] at h
  | x :: a, y :: b, z :: c, h1, h2 => by
    have ih := wcmp_le_trans a b c
    simp only [wcmp] at h1 h2 ⊢
    rcases Int.lt_trichotomy x y with hxy | hxy | hxy
    · rcases Int.lt_trichotomy y z with hyz | hyz | hyz
      · rw [if_pos (by omega)]; decide
      · rw [if_pos (by omega)]; decide
      · rw [if_neg (by omega), if_pos hyz] at h2; omega
    · subst hxy
      rw [if_neg (by omega), if_neg (by omega)] at h1
      rcases Int.lt_trichotomy x z with hyz | hyz | hyz
      · rw [if_pos (by omega)]; decide
      · subst hyz
        rw [if_neg (by omega), if_neg (by omega)] at h2 ⊢
        exact ih h1 h2
      · rw [if_neg (by omega), if_pos hyz] at h2; omega
    · rw [if_neg (by omega), if_pos hxy] at h1; omega
/-- Of two words: what is behind one that is behind. -/
theorem wcmp_lt_trans {a b c : List Int} (h1 : wcmp a b < 0) (h2 : wcmp b c ≤ 0) : wcmp a c < 0 := by
  have h3 := wcmp_le_trans a b c (by omega) h2
  by_cases h : wcmp a c = 0
  · have e := (wcmp_eq _ _).1 h
    rw [← e] at h2
    have := wcmp_swap a b
    omega
  · omega
theorem wcmp_lt_trans' {a b c : List Int} (h1 : wcmp a b ≤ 0) (h2 : wcmp b c < 0) : wcmp a c < 0 := by
  have h3 := wcmp_le_trans a b c h1 (by omega)
  by_cases h : wcmp a c = 0
  · have e := (wcmp_eq _ _).1 h
    rw [e] at h1
    have := wcmp_swap c b
    omega
  · omega
/-- One stands ahead of another. -/
def rlt (r s : Ru) : Prop := wcmp r.left s.left < 0 ∨ r.left = s.left ∧ (wcmp r.right s.right < 0 ∨ r.right = s.right ∧ r.cost < s.cost)
theorem rcmp_lt {r s : Ru} : rcmp r s < 0 ↔ rlt r s := by
  rw [rcmp_def]
  unfold rlt
  have z1 := (wcmp_eq s.left s.left).2 rfl
  have z2 := (wcmp_eq s.right s.right).2 rfl
  by_cases h1 : wcmp r.left s.left = 0
  · rw [if_neg (by simpa using h1)]
    have e1 := (wcmp_eq _ _).1 h1
    by_cases h2 : wcmp r.right s.right = 0
    · rw [if_neg (by simpa using h2), icmp_lt]
      have e2 := (wcmp_eq _ _).1 h2
      simp [h1, h2, e1, e2, z1, z2]
    · rw [if_pos h2]
      have e2 : r.right ≠ s.right := fun h => h2 ((wcmp_eq _ _).2 h)
      simp [h1, e1, e2, z1]
  · rw [if_pos h1]
    have e1 : r.left ≠ s.left := fun h => h1 ((wcmp_eq _ _).2 h)
    simp [e1]
theorem rlt_irr (r : Ru) : ¬ rlt r r := by
  unfold rlt
  have h1 := (wcmp_eq r.left r.left).2 rfl
  have h2 := (wcmp_eq r.right r.right).2 rfl
  omega
theorem rlt_trans {r s t : Ru} (h1 : rlt r s) (h2 : rlt s t) : rlt r t := by
  unfold rlt at *
  rcases h1 with h1 | ⟨e1, h1⟩
  · rcases h2 with h2 | ⟨e2, h2⟩
    · exact .inl (wcmp_lt_trans h1 (by omega))
    · rw [e2] at h1; exact .inl h1
  · rcases h2 with h2 | ⟨e2, h2⟩
    · rw [e1]; exact .inl h2
    · refine .inr ⟨e1.trans e2, ?_⟩
      rcases h1 with h1 | ⟨f1, h1⟩
      · rcases h2 with h2 | ⟨f2, h2⟩
        · exact .inl (wcmp_lt_trans h1 (by omega))
        · rw [f2] at h1; exact .inl h1
      · rcases h2 with h2 | ⟨f2, h2⟩
        · rw [f1]; exact .inl h2
        · exact .inr ⟨f1.trans f2, by omega⟩
theorem rlt_total (r s : Ru) : rlt r s ∨ r = s ∨ rlt s r := by
  unfold rlt
  have w1 := wcmp_swap r.left s.left
  have w2 := wcmp_swap r.right s.right
  by_cases h1 : wcmp r.left s.left = 0
  · have e1 := (wcmp_eq _ _).1 h1
    by_cases h2 : wcmp r.right s.right = 0
    · have e2 := (wcmp_eq _ _).1 h2
      rcases Int.lt_trichotomy r.cost s.cost with h | h | h
      · exact .inl (.inr ⟨e1, .inr ⟨e2, h⟩⟩)
      · exact .inr (.inl (by cases r; cases s; simp_all))
      · exact .inr (.inr (.inr ⟨e1.symm, .inr ⟨e2.symm, h⟩⟩))
    · by_cases h3 : wcmp r.right s.right < 0
      · exact .inl (.inr ⟨e1, .inl h3⟩)
      · exact .inr (.inr (.inr ⟨e1.symm, .inl (by omega)⟩))
  · by_cases h3 : wcmp r.left s.left < 0
    · exact .inl (.inl h3)
    · exact .inr (.inr (.inl (by omega)))
theorem rlt_ntrans {r s t : Ru} (h1 : ¬ rlt r s) (h2 : ¬ rlt s t) : ¬ rlt r t := fun h => by
  rcases rlt_total r s with h3 | h3 | h3
  · exact h1 h3
  · exact h2 (h3 ▸ h)
  · exact h2 (rlt_trans h3 h)
def rs (l : List Ru) : List D := l.map ru
theorem is_inj {a b : List Int} (h : is a = is b) : a = b := by
  have := congrArg (List.map fun d => match d with | D.int _ z => z | _ => 0) h
  simpa [is, List.map_map, Function.comp_def] using this
theorem ru_inj {r s : Ru} (h : ru r = ru s) : r = s := by
  unfold ru at h
  simp only [D.agg.injEq, List.cons.injEq, D.sl.injEq, D.int.injEq, true_and, and_true] at h
  obtain ⟨h1, h2, h3⟩ := h
  cases r; cases s
  simp only at h1 h2 h3
  rw [is_inj h1, is_inj h2, h3]
open Classical in
noncomputable def unru (d : D) : Ru := if h : ∃ r, d = ru r then h.choose else default
theorem unru_ru (r : Ru) : unru (ru r) = r := by
  unfold unru
  have h : ∃ r', ru r = ru r' := ⟨r, rfl⟩
  rw [dif_pos h]
  exact (ru_inj h.choose_spec).symm
end Go.Eng.Tryd

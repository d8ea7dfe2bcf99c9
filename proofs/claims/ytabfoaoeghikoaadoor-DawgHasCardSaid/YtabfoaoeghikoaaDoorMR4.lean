/- Costs: what may be written; whether rules may be. (and what stands behind it: texts laid together) -/
import Derived.Test.YtabfoaoeghikoaaDoorMG4
import Derived.Test.YtabfoaoeghikoaaDoorMR3
import Derived.Test.YtabfoaoeghikoaaDoorMR1
import Derived.Test.YtabfoaoeghikoaaDoorMR2
set_option linter.unusedVariables false
set_option linter.unusedSimpArgs false
namespace Go.Eng.Tryd
open Go Go.Eng Go.Proofs Go.RowKit
attribute [local go_sem] tys
attribute [local go_sem] is_len is_get rs_len rs_get
theorem itake {a b : List Int} {k : Nat} (hw : a.take k = b.take k) (h1 : k < a.length) (h2 : k < b.length) (h : a[k]! = b[k]!) : a.take (k + 1) = b.take (k + 1) := by
  rw [List.take_add_one, List.take_add_one, hw, List.getElem?_eq_getElem h1, List.getElem?_eq_getElem h2, ← getElem!_pos a k h1, ← getElem!_pos b k h2, h]
set_option maxHeartbeats 4000000 in
set_option maxRecDepth 10000 in
theorem sEqual {a b : List Int} (ha : a.length ≤ 9223372036854775807) (hb : b.length ≤ 9223372036854775807) : Sound Tryd.prog 28 [.sl 1 (is a), .sl 1 (is b)] (.bool (decide (a = b))) := by
  by_cases hl : a.length = b.length
  · refine Sound.run (N := 26) Tryd.func28 rfl (by kernel_rfl) rfl rfl rfl (by first | exact args0_0 | exact args0_1 | exact args0_2 | exact args0_3 | exact args0_4 | exact args0_5 | exact args0_6) fun X_ w_ => ?_
    refine goT ?_; first | exact trivial | skip
    refine WP_loopk (fun k : Nat => k ≤ a.length ∧ a.take k = b.take k) (fun k => [(0, .d (.sl 1 (is a))), (1, .d (.sl 1 (is b))), (12, .d (.int .i64 a.length)), (13, .d (.int .i64 k))]) (fun _ => []) 0 (fun k => a.length - k) [0, 1, 12, 13] [] 0 ⟨Nat.zero_le _, rfl⟩ rfl rfl (Nat.le_refl _) (fun _ _ => rfl) (fun _ _ => rfl) fun k hk => ?_
    obtain ⟨hk1, hw⟩ := hk
    by_cases hk' : k < a.length
    · have hk2 : k < b.length := by omega
      by_cases hc : a[k]! = b[k]!
      · have e := itake hw hk' hk2 hc
        refine goX @hc ?_; first | exact trivial | skip
        refine ⟨k + 1, ⟨by omega, e⟩, ?_, rfl, by omega⟩
        simp (disch := omega) only [go_sem, keepL, Int.natCast_add, Int.cast_ofNat_Int]
      · have e : decide (a = b) = false := decide_eq_false fun h => hc (by rw [h])
        refine goX @e ?_; first | exact trivial | skip
    · have hk' : k = a.length := by omega
      subst hk'
      have e : decide (a = b) = true := decide_eq_true (by rw [List.take_length, hl, List.take_length] at hw; exact hw)
      refine goX @e ?_; first | exact trivial | skip
  · have e : decide (a = b) = false := decide_eq_false fun h => hl (by rw [h])
    refine Sound.run (N := 26) Tryd.func28 rfl (by kernel_rfl) rfl rfl rfl (by first | exact args0_0 | exact args0_1 | exact args0_2 | exact args0_3 | exact args0_4 | exact args0_5 | exact args0_6) fun X_ w_ => ?_
    refine goX @e ?_; first | exact trivial | skip
/-- Where the first is of which something holds. -/
def fidx {α : Type} (p : α → Bool) (l : List α) : Int := if l.any p = true then (l.findIdx p : Nat) else -1
theorem fidx_ge {α : Type} (p : α → Bool) (l : List α) : decide (0 ≤ fidx p l) = l.any p := by
  unfold fidx
  cases h : l.any p
  · rw [if_neg (by simp)]; simp
  · rw [if_pos rfl]; simp
theorem fidx_at {α : Type} [Inhabited α] {p : α → Bool} {l : List α} {k : Nat} (h : k < l.length) (hk : (l.take k).any p = false) (hb : p (l[k]!) = true) : fidx p l = (k : Int) := by
  unfold fidx
  rw [getElem!_pos l k h] at hb
  rw [if_pos (List.any_eq_true.2 ⟨l[k], List.getElem_mem h, hb⟩)]
  congr 1
  rw [List.findIdx_eq h]
  refine ⟨hb, fun j hj => ?_⟩
  have hm : l[j] ∈ l.take k := by
    have : (l.take k)[j]? = some l[j] := by rw [List.getElem?_take, if_pos hj, List.getElem?_eq_getElem (by omega)]
    exact List.mem_of_getElem? this
  cases hp : p l[j] with
  | false => rfl
  | true =>
    have := List.any_eq_true.2 ⟨l[j], hm, hp⟩
    rw [hk] at this; cases this
theorem any_step {α : Type} [Inhabited α] {p : α → Bool} {l : List α} {k : Nat} (h : k < l.length) (hk : (l.take k).any p = false) (hb : p (l[k]!) = false) : (l.take (k + 1)).any p = false := by
  rw [List.take_add_one, List.any_append, List.getElem?_eq_getElem h, hk]
  rw [getElem!_pos l k h] at hb
  simp [hb]
theorem fidx_none {α : Type} {p : α → Bool} {l : List α} (h : l.any p = false) : fidx p l = -1 := by unfold fidx; rw [h]; rfl
set_option maxHeartbeats 4000000 in
set_option maxRecDepth 10000 in
theorem indexG {p : Int → Bool} {g : Nat} (hp : ∀ z, Sound Tryd.prog g [.int .i64 z] (.bool (p z))) {l : List Int} (hl : l.length ≤ 9223372036854775807) : Sound Tryd.prog 84 [.sl 1 (is l), .fn g] (.int .i64 (fidx p l)) := by
  refine Sound.run (N := 19) Tryd.func84 rfl (by kernel_rfl) rfl rfl rfl (by first | exact args0_0 | exact args0_1 | exact args0_2 | exact args0_3 | exact args0_4 | exact args0_5 | exact args0_6) fun X_ w_ => ?_
  refine goT ?_; first | exact trivial | skip
  refine WP_loopk (fun k : Nat => k ≤ l.length ∧ (l.take k).any p = false) (fun k => [(0, .d (.sl 1 (is l))), (1, .d (.fn g)), (7, .d (.int .i64 l.length)), (8, .d (.int .i64 k))]) (fun _ => []) 0 (fun k => l.length - k) [0, 1, 7, 8] [] 0 ⟨Nat.zero_le _, rfl⟩ rfl rfl (Nat.le_refl _) (fun _ _ => rfl) (fun _ _ => rfl) fun k hk => ?_
  obtain ⟨hk1, hw⟩ := hk
  by_cases hk' : k < l.length
  · have c := hp (l[k]!)
    cases hg : p (l[k]!)
    · have hst := any_step hk' hw hg
      rw [hg] at c
      have c0_ := c; refine goT ?_; first | exact trivial | skip
      refine ⟨k + 1, ⟨by omega, hst⟩, ?_, rfl, by omega⟩
      simp (disch := omega) only [go_sem, keepL, Int.natCast_add, Int.cast_ofNat_Int]
    · have e := fidx_at hk' hw hg
      rw [hg] at c
      have c0_ := c; refine goX @e ?_; first | exact trivial | skip
  · have hkl : k = l.length := by omega
    subst hkl
    rw [List.take_length] at hw
    have e := fidx_none hw
    refine goX @e ?_; first | exact trivial | skip
theorem containsG {p : Int → Bool} {g : Nat} (hp : ∀ z, Sound Tryd.prog g [.int .i64 z] (.bool (p z))) {l : List Int} (hl : l.length ≤ 9223372036854775807) : Sound Tryd.prog 72 [.sl 1 (is l), .fn g] (.bool (l.any p)) := by
  have e := fidx_ge p l
  refine Sound.run (N := 9) Tryd.func72 rfl (by kernel_rfl) rfl rfl rfl (by first | exact args0_0 | exact args0_1 | exact args0_2 | exact args0_3 | exact args0_4 | exact args0_5 | exact args0_6) fun X_ w_ => ?_
  have c0_ := indexG hp hl; refine goX @e ?_; first | exact trivial | skip
def blank (z : Int) : Bool := decide (z = 32 ∨ z = 9 ∨ z = 10)
theorem blank_t {z : Int} (h : z = 32 ∨ z = 9 ∨ z = 10) : blank z = true := decide_eq_true h
theorem blank_f {z : Int} (h : ¬ (z = 32 ∨ z = 9 ∨ z = 10)) : blank z = false := decide_eq_false h
/-- May a side be written? -/
def plainL (l : List Int) : Bool := !l.any blank && decide (l ≠ [95])
/-- May a rule be written? -/
def fit (r : Ru) : Bool := rok r && plainL r.left && plainL r.right
end Go.Eng.Tryd
set_option linter.unusedVariables false
set_option linter.unusedSimpArgs false
namespace Go.Eng.Tryd
open Go Go.Eng Go.Proofs Go.RowKit
attribute [local go_sem] evFold rnE ksE roundE frz frzs List.set_cons_zero List.set_cons_succ List.zip_cons_cons List.zip_nil_right List.foldl_cons List.foldl_nil D.flat rns AV.rn HO.rn AV.ks kss HO.ks sg dedup objKs reach passE fresh List.filter fnOf evOp opnd lk v2d v2ds just evBin intBin nilBin isNil strBin evUn evLoad ldD ldA evStore evField evIndex evBuild fillA evBuildSlice evBuildSliceX evBuildSliceT isOwn1 evAppendTX evAppendTT evAppend evAppendClip elems evMake evSlice evSliceO evSliceX evSliceY evViewV evStoreX evStoreT stT stI evCopyT evAppendT evAppendTD ldT ldI Tb.inn Tb.ilen Tb.nilAt Tb.ini D.put evCut evView evCopy evAppendV evAgg evMakeMap evLookup evMapUpd evRange evEntry cellsD AV.kb splice List.getLast?_append resM resAs resA resD keepL List.replicate_zero List.take_length ofInt evLen evMin evMax evConv evNil evExtract evBuiltin toD toDs allD pack splice D.comps AV.comps AV.sto D.cell D.rebuild inOrder allFlat del put setE eff gd gslot kills Option.map_some Option.map_none Option.bind_some Option.isSome_some List.map_cons List.map_nil List.append_nil List.nil_append List.cons_append List.length_cons List.length_nil List.length_map List.length_append List.take_zero List.take_succ_cons List.take_nil List.drop_zero List.drop_succ_cons List.drop_nil List.getElem?_cons_zero List.getElem?_cons_succ List.getElem?_map List.all_cons List.all_nil List.mem_cons List.not_mem_nil List.elem_cons List.elem_nil Bool.and_true Bool.true_and Bool.and_self Bool.not_true Bool.not_false Bool.or_true Bool.or_false and_self and_true true_and or_false false_or or_true true_or not_false_eq_true not_true_eq_false if_true if_false decide_true decide_false decide_eq_true_eq Int.toNat_natCast Int.toNat_zero beq_self_eq_true bne_self_eq_false Bool.false_eq_true Nat.add_zero Nat.zero_add tys room le_i lt_i eq_n le_n lt_n len0 gdE bb_tf bb_ft mapP arrL if_min tdiv_nn tmod_nn us_len us_get wrap_i64 wrap_u64 dec_lt dec_nlt dec_le dec_nle beq_t beq_f bne_t bne_f get_lt gt_iff_lt ge_iff_le
attribute [local go_sem ↓] map_P reduceIte
attribute [local go_sem] reduceCtorEq Nat.reduceEqDiff Nat.reduceAdd Nat.reduceSub Nat.reduceMul Nat.reduceLeDiff Nat.reduceLT Nat.reduceBEq Nat.reduceBNe Int.reduceToNat Int.reduceLT Int.reduceLE Int.reduceEq Int.reduceAdd Int.reduceSub Int.reduceNeg Int.reduceBEq Int.reduceBNe
attribute [local go_sem] is_len is_get rs_len rs_get rs_snoc
theorem nins_at (r : Ru) : ∀ (o : List Ru) (j : Nat), j ≤ o.length → (∀ i, i < j → slt (o[i]!) r) → (j < o.length → ¬ slt (o[j]!) r) → nins o r = if j < o.length ∧ ssame (o[j]!) r then o.set j (best (o[j]!) r) else o.take j ++ r :: o.drop j
  | [], j, h, _, _ => by
    have : j = 0 := by simpa using h
    subst this; simp [nins]
  | x :: t, 0, _, _, h => by
    have h1 : ¬ slt x r := h (by simp)
    simp only [nins, if_neg h1]
    by_cases h2 : ssame x r
    · rw [if_pos h2, if_pos ⟨by simp, h2⟩]; rfl
    · rw [if_neg h2, if_neg (fun e => h2 e.2)]; rfl
  | x :: t, j + 1, hj, hb, h => by
    have h1 : slt x r := hb 0 (by omega)
    have ih := nins_at r t j (by simpa using hj) (fun i hi => hb (i + 1) (by omega)) (fun hj => h (by simpa using hj))
    simp only [nins, if_pos h1, ih]
    by_cases h2 : j < t.length ∧ ssame (t[j]!) r
    · rw [if_pos h2, if_pos ⟨by simpa using h2.1, h2.2⟩]; rfl
    · rw [if_neg h2, if_neg (fun e => h2 ⟨by simpa using e.1, e.2⟩)]; rfl
theorem rs_take {l : List Ru} {k : Nat} : (rs l).take k = rs (l.take k) := by simp [rs, List.map_take]
theorem rs_drop {l : List Ru} {k : Nat} : (rs l).drop k = rs (l.drop k) := by simp [rs, List.map_drop]
theorem rs_app {a b : List Ru} : rs a ++ rs b = rs (a ++ b) := by simp [rs]
theorem rs_set {l : List Ru} {k : Nat} {x : Ru} : (rs l).set k (.agg [.sl 1 (is x.left), .sl 1 (is x.right), .int .u64 x.cost]) = rs (l.set k x) := by simp [rs, ru, List.map_set]
theorem rs_nil : rs [] = [] := rfl
end Go.Eng.Tryd
set_option linter.unusedVariables false
set_option linter.unusedSimpArgs false
namespace Go.Eng.Tryd
open Go Go.Eng Go.Proofs Go.RowKit
attribute [local go_sem] evFold rnE ksE roundE frz frzs List.set_cons_zero List.set_cons_succ List.zip_cons_cons List.zip_nil_right List.foldl_cons List.foldl_nil D.flat rns AV.rn HO.rn AV.ks kss HO.ks sg dedup objKs reach passE fresh List.filter fnOf evOp opnd lk v2d v2ds just evBin intBin nilBin isNil strBin evUn evLoad ldD ldA evStore evField evIndex evBuild fillA evBuildSlice evBuildSliceX evBuildSliceT isOwn1 evAppendTX evAppendTT evAppend evAppendClip elems evMake evSlice evSliceO evSliceX evSliceY evViewV evStoreX evStoreT stT stI evCopyT evAppendT evAppendTD ldT ldI Tb.inn Tb.ilen Tb.nilAt Tb.ini D.put evCut evView evCopy evAppendV evAgg evMakeMap evLookup evMapUpd evRange evEntry cellsD AV.kb splice List.getLast?_append resM resAs resA resD keepL List.replicate_zero List.take_length ofInt evLen evMin evMax evConv evNil evExtract evBuiltin toD toDs allD pack splice D.comps AV.comps AV.sto D.cell D.rebuild inOrder allFlat del put setE eff gd gslot kills Option.map_some Option.map_none Option.bind_some Option.isSome_some List.map_cons List.map_nil List.append_nil List.nil_append List.cons_append List.length_cons List.length_nil List.length_map List.length_append List.take_zero List.take_succ_cons List.take_nil List.drop_zero List.drop_succ_cons List.drop_nil List.getElem?_cons_zero List.getElem?_cons_succ List.getElem?_map List.all_cons List.all_nil List.mem_cons List.not_mem_nil List.elem_cons List.elem_nil Bool.and_true Bool.true_and Bool.and_self Bool.not_true Bool.not_false Bool.or_true Bool.or_false and_self and_true true_and or_false false_or or_true true_or not_false_eq_true not_true_eq_false if_true if_false decide_true decide_false decide_eq_true_eq Int.toNat_natCast Int.toNat_zero beq_self_eq_true bne_self_eq_false Bool.false_eq_true Nat.add_zero Nat.zero_add tys room le_i lt_i eq_n le_n lt_n len0 gdE bb_tf bb_ft mapP arrL if_min tdiv_nn tmod_nn us_len us_get wrap_i64 wrap_u64 dec_lt dec_nlt dec_le dec_nle beq_t beq_f bne_t bne_f get_lt gt_iff_lt ge_iff_le
attribute [local go_sem ↓] map_P reduceIte
attribute [local go_sem] reduceCtorEq Nat.reduceEqDiff Nat.reduceAdd Nat.reduceSub Nat.reduceMul Nat.reduceLeDiff Nat.reduceLT Nat.reduceBEq Nat.reduceBNe Int.reduceToNat Int.reduceLT Int.reduceLE Int.reduceEq Int.reduceAdd Int.reduceSub Int.reduceNeg Int.reduceBEq Int.reduceBNe
attribute [local go_sem] is_len is_get rs_len rs_get
theorem rtake {a b : List Ru} {k : Nat} (hw : a.take k = b.take k) (h1 : k < a.length) (h2 : k < b.length) (h : a[k]! = b[k]!) : a.take (k + 1) = b.take (k + 1) := by
  rw [rtake_snoc h1, rtake_snoc h2, hw, h]
/-- The greatest of some. -/
def umax (l : List Int) : Int := l.foldl max 0
theorem umax_step {l : List Int} {k : Nat} (h : k < l.length) : umax (l.take (k + 1)) = max (umax (l.take k)) (l[k]!) := by
  unfold umax
  rw [List.take_add_one, List.foldl_append, List.getElem?_eq_getElem h, ← getElem!_pos l k h]
  rfl
theorem if_max {a b : Int} : (if a < b then b else a) = max a b := by split <;> omega
/-- Costs. -/
structure Co where
  more : Int
  less : Int
  other : Int
  turned : Int
  rules : List Ru
deriving DecidableEq
def co (c : Co) : D := .agg [.int .u64 c.more, .int .u64 c.less, .int .u64 c.other, .int .u64 c.turned, .sl 3 (rs c.rules)]
def Co.ok (c : Co) : Prop := U c.more ∧ U c.less ∧ U c.other ∧ U c.turned ∧ (∀ r ∈ c.rules, r.ok) ∧ c.rules.length ≤ 9223372036854775807
def cmax (c : Co) : Int := umax [c.more, c.less, c.other, c.turned]
def cok (c : Co) : Bool := decide (cmax c < 18446744073709551615) && decide (c.rules.length ≤ 200) && c.rules.all fit && decide (norm c.rules = c.rules)
theorem cok_iff {c : Co} : cok c = true ↔ cmax c < 18446744073709551615 ∧ c.rules.length ≤ 200 ∧ c.rules.all fit = true ∧ norm c.rules = c.rules := by
  simp [cok, Bool.and_eq_true, and_assoc]
theorem cok_f {c : Co} (h : ¬ (cmax c < 18446744073709551615 ∧ c.rules.length ≤ 200 ∧ c.rules.all fit = true ∧ norm c.rules = c.rules)) : cok c = false := by
  cases hc : cok c with
  | false => rfl
  | true => exact absurd (cok_iff.1 hc) h
theorem any_not {α : Type} (p : α → Bool) (l : List α) : (l.any fun r => !p r) = !l.all p := by
  induction l with
  | nil => rfl
  | cons x l ih => simp [ih]
end Go.Eng.Tryd
set_option linter.unusedVariables false
set_option linter.unusedSimpArgs false
namespace Go.Eng.Tryd
open Go Go.Eng Go.Proofs Go.RowKit
attribute [local go_sem] evFold rnE ksE roundE frz frzs List.set_cons_zero List.set_cons_succ List.zip_cons_cons List.zip_nil_right List.foldl_cons List.foldl_nil D.flat rns AV.rn HO.rn AV.ks kss HO.ks sg dedup objKs reach passE fresh List.filter fnOf evOp opnd lk v2d v2ds just evBin intBin nilBin isNil strBin evUn evLoad ldD ldA evStore evField evIndex evBuild fillA evBuildSlice evBuildSliceX evBuildSliceT isOwn1 evAppendTX evAppendTT evAppend evAppendClip elems evMake evSlice evSliceO evSliceX evSliceY evViewV evStoreX evStoreT stT stI evCopyT evAppendT evAppendTD ldT ldI Tb.inn Tb.ilen Tb.nilAt Tb.ini D.put evCut evView evCopy evAppendV evAgg evMakeMap evLookup evMapUpd evRange evEntry cellsD AV.kb splice List.getLast?_append resM resAs resA resD keepL List.replicate_zero List.take_length ofInt evLen evMin evMax evConv evNil evExtract evBuiltin toD toDs allD pack splice D.comps AV.comps AV.sto D.cell D.rebuild inOrder allFlat del put setE eff gd gslot kills Option.map_some Option.map_none Option.bind_some Option.isSome_some List.map_cons List.map_nil List.append_nil List.nil_append List.cons_append List.length_cons List.length_nil List.length_map List.length_append List.take_zero List.take_succ_cons List.take_nil List.drop_zero List.drop_succ_cons List.drop_nil List.getElem?_cons_zero List.getElem?_cons_succ List.getElem?_map List.all_cons List.all_nil List.mem_cons List.not_mem_nil List.elem_cons List.elem_nil Bool.and_true Bool.true_and Bool.and_self Bool.not_true Bool.not_false Bool.or_true Bool.or_false and_self and_true true_and or_false false_or or_true true_or not_false_eq_true not_true_eq_false if_true if_false decide_true decide_false decide_eq_true_eq Int.toNat_natCast Int.toNat_zero beq_self_eq_true bne_self_eq_false Bool.false_eq_true Nat.add_zero Nat.zero_add tys room le_i lt_i eq_n le_n lt_n len0 gdE bb_tf bb_ft mapP arrL if_min tdiv_nn tmod_nn us_len us_get wrap_i64 wrap_u64 dec_lt dec_nlt dec_le dec_nle beq_t beq_f bne_t bne_f get_lt gt_iff_lt ge_iff_le
attribute [local go_sem ↓] map_P reduceIte
attribute [local go_sem] reduceCtorEq Nat.reduceEqDiff Nat.reduceAdd Nat.reduceSub Nat.reduceMul Nat.reduceLeDiff Nat.reduceLT Nat.reduceBEq Nat.reduceBNe Int.reduceToNat Int.reduceLT Int.reduceLE Int.reduceEq Int.reduceAdd Int.reduceSub Int.reduceNeg Int.reduceBEq Int.reduceBNe
def cadd (a b : Int) : Int := if a + b ≤ 18446744073709551615 then a + b else 18446744073709551615
theorem U_cadd {a b : Int} (ha : U a) (hb : U b) : U (cadd a b) := by
  unfold U cadd at *
  split <;> omega
theorem utake_fold {β : Type} (f : β → Int → β) (a : β) (l : List Int) {k : Nat} (h : k < l.length) : (l.take (k + 1)).foldl f a = f ((l.take k).foldl f a) (l[k]!) := by
  rw [List.take_add_one, List.foldl_append, List.getElem?_eq_getElem h, getElem!_pos l k h]
  rfl
theorem U_take {l : List Int} (h : ∀ z ∈ l, U z) {k : Nat} : ∀ z ∈ l.take k, U z := fun z hz => h z (List.mem_of_mem_take hz)
def cleast (l : List Int) : Int := l.foldl min 18446744073709551615
theorem U_lfold {l : List Int} : ∀ {a : Int}, U a → (∀ z ∈ l, U z) → U (l.foldl min a) := by
  induction l with
  | nil => intro a ha _; exact ha
  | cons x l ih => intro a ha h; exact ih (by have := h x (by simp); unfold U at *; omega) fun z hz => h z (by simp [hz])
theorem U_least {l : List Int} (h : ∀ z ∈ l, U z) : U (cleast l) := U_lfold ⟨by decide, by decide⟩ h
theorem if_minI {a b : Int} : (if b < a then b else a) = min a b := by split <;> omega
theorem u_take {a b : List Int} {k : Nat} (hw : a.take k = b.take k) (h1 : k < a.length) (h2 : k < b.length) (h : a[k]! = b[k]!) : a.take (k + 1) = b.take (k + 1) := by
  rw [List.take_add_one, List.take_add_one, hw, List.getElem?_eq_getElem h1, List.getElem?_eq_getElem h2, ← getElem!_pos a k h1, ← getElem!_pos b k h2, h]
end Go.Eng.Tryd
set_option linter.unusedVariables false
set_option linter.unusedSimpArgs false
namespace Go.Eng.Tryd
open Go Go.Eng Go.Proofs Go.RowKit
attribute [local go_sem] tys
/-- The first cells are filled. -/
def rpA (x : Int) (m n : Nat) : List AV := List.replicate m (.d (.int .u64 x)) ++ List.replicate (n - m) (.d (.int .u64 0))
theorem rpA_len {x : Int} {m n : Nat} (h : m ≤ n) : (rpA x m n).length = n := by simp [rpA]; omega
theorem cellsD_rep {x : Int} : ∀ m, cellsD (List.replicate m (.d (.int .u64 x))) = some (us (List.replicate m x))
  | 0 => rfl
  | m + 1 => by rw [List.replicate_succ, List.replicate_succ]; simp only [cellsD, cellsD_rep m]; rfl
theorem rpA_take {x : Int} {m n : Nat} : cellsD (List.take m (rpA x m n)) = some (us (List.replicate m x)) := by
  rw [rpA, List.take_left' (by simp), cellsD_rep]
theorem us_flat {l : List Int} : (us l).all D.flat = true := by simp [us, D.flat]
theorem us_rep {x : Int} {m : Nat} : us (List.replicate m x) = List.replicate m (.int .u64 x) := by simp [us]
theorem rpA_step {x : Int} {m n k : Nat} (h : m ≤ n) (hk : k = min m (n - m)) : splice (rpA x m n) m (List.map AV.d (List.take (n - m) (us (List.replicate m x)))) = rpA x (m + k) n := by
  rw [us_rep, List.take_replicate, List.map_replicate]
  unfold splice rpA
  rw [List.take_left' (by simp), List.length_replicate, List.drop_append]
  simp only [List.length_replicate, List.drop_replicate]
  have e1 : m - (m + min (n - m) m) = 0 := by omega
  have e2 : m + min (n - m) m - m = min (n - m) m := by omega
  have e3 : n - m - min (n - m) m = n - (m + k) := by omega
  rw [e1, e2, e3, List.replicate_zero, List.nil_append, List.replicate_append_replicate]
  congr 2
  omega
theorem rpA_first {x : Int} {n : Nat} (h : 1 ≤ n) : splice (List.replicate n (.d (.int .u64 0))) 0 (List.map AV.d (List.take n [D.int .u64 x])) = rpA x 1 n := by
  have : List.take n [D.int .u64 x] = [D.int .u64 x] := List.take_of_length_le (by simpa using h)
  rw [this]
  unfold splice rpA
  simp [List.drop_replicate]
theorem kbs_all {c : Nat} : ∀ {l : List AV}, (∀ a ∈ l, a.kb c = true) → kbs c l = true
  | [], _ => rfl
  | a :: l, h => by simp only [kbs, h a (by simp), Bool.true_and]; exact kbs_all fun b hb => h b (by simp [hb])
theorem rpA_below {x : Int} {m n : Nat} : heapBelow 500003 [(500002, .var (rpA x m n))] = true := by
  have : kbs 500003 (rpA x m n) = true := kbs_all fun a ha => by
    unfold rpA at ha
    simp only [List.mem_append, List.mem_replicate] at ha
    rcases ha with ⟨_, rfl⟩ | ⟨_, rfl⟩ <;> rfl
  simp [heapBelow, hoBelow, this]
end Go.Eng.Tryd
set_option linter.unusedVariables false
set_option linter.unusedSimpArgs false
namespace Go.Eng.Tryd
open Go Go.Eng Go.Proofs Go.RowKit
attribute [local go_sem] tys
attribute [local go_sem] is_len is_get
structure Ar where
  sign : Int
  to : Int
deriving DecidableEq
instance : Inhabited Ar := ⟨⟨0, 0⟩⟩
structure Sta where
  final : Bool
  arcs : List Ar
deriving DecidableEq
instance : Inhabited Sta := ⟨⟨false, []⟩⟩
def ar (a : Ar) : D := .agg [.int .i64 a.sign, .int .i64 a.to]
def ars (l : List Ar) : List D := l.map ar
def sta (s : Sta) : D := .agg [.bool s.final, .sl 2 (ars s.arcs)]
def stas (l : List Sta) : List D := l.map sta
theorem ars_len {l : List Ar} : (ars l).length = l.length := by simp [ars]
theorem ars_get {l : List Ar} {k : Nat} (h : k < l.length) : (ars l)[k]? = some (.agg [.int .i64 (l[k]!).sign, .int .i64 (l[k]!).to]) := by
  simp [ars, ar, List.getElem?_eq_getElem h, getElem!_pos l k h]
theorem stas_len {l : List Sta} : (stas l).length = l.length := by simp [stas]
theorem stas_get {l : List Sta} {k : Nat} (h : k < l.length) : (stas l)[k]? = some (.agg [.bool (l[k]!).final, .sl 2 (ars (l[k]!).arcs)]) := by
  simp [stas, sta, List.getElem?_eq_getElem h, getElem!_pos l k h]
attribute [local go_sem] ars_len ars_get stas_len stas_get
/-- How much an automaton may be at most, that a call hands in. -/
def StaOk (l : List Sta) : Prop := l.length ≤ 9223372036854775807 ∧ ∀ s ∈ l, s.arcs.length ≤ 9223372036854775807
theorem StaOk.get {l : List Sta} (h : StaOk l) {k : Nat} (hk : k < l.length) : (l[k]!).arcs.length ≤ 9223372036854775807 := by
  rw [getElem!_pos l k hk]; exact h.2 _ (List.getElem_mem hk)
def arcOk (i n last : Int) (a : Ar) : Bool := decide (last < a.sign) && gsign a.sign && decide (i < a.to) && decide (a.to < n)
def arcsOk (i n : Int) : Int → List Ar → Bool
  | _, [] => true
  | last, a :: t => arcOk i n last a && arcsOk i n a.sign t
def lastS : Int → List Ar → Int
  | last, [] => last
  | _, a :: t => lastS a.sign t
/-- What the last sign was when the first arc came that may not be. -/
def stopS (i n : Int) : Int → List Ar → Int
  | last, [] => last
  | last, a :: t => if arcOk i n last a = true then stopS i n a.sign t else a.sign
def idxA (i n : Int) : Int → List Ar → Int
  | _, [] => -1
  | last, a :: t => if arcOk i n last a = true then (if idxA i n a.sign t < 0 then -1 else idxA i n a.sign t + 1) else 0
theorem lastS_snoc (last : Int) (l : List Ar) (a : Ar) : lastS last (l ++ [a]) = a.sign := by
  induction l generalizing last with
  | nil => rfl
  | cons b l ih => exact ih _
theorem arcsOk_app (i n last : Int) (l t : List Ar) : arcsOk i n last (l ++ t) = (arcsOk i n last l && arcsOk i n (lastS last l) t) := by
  induction l generalizing last with
  | nil => simp [arcsOk, lastS]
  | cons b l ih => simp only [List.cons_append, arcsOk, lastS, ih, Bool.and_assoc]
theorem stopS_app {i n last : Int} {l t : List Ar} (h : arcsOk i n last l = true) : stopS i n last (l ++ t) = stopS i n (lastS last l) t := by
  induction l generalizing last with
  | nil => rfl
  | cons b l ih =>
    simp only [arcsOk, Bool.and_eq_true] at h
    simp only [List.cons_append, stopS, h.1, if_true, lastS, ih h.2]
theorem idxA_iff (i n : Int) : ∀ (l : List Ar) (last : Int), decide (0 ≤ idxA i n last l) = !arcsOk i n last l
  | [], _ => rfl
  | a :: t, last => by
    have ih := idxA_iff i n t a.sign
    have e1 : arcsOk i n last (a :: t) = (arcOk i n last a && arcsOk i n a.sign t) := rfl
    by_cases h : arcOk i n last a = true
    · have e : idxA i n last (a :: t) = if idxA i n a.sign t < 0 then -1 else idxA i n a.sign t + 1 := by simp [idxA, h]
      rw [e1, h, Bool.true_and, ← ih]
      generalize idxA i n last (a :: t) = v at e ⊢
      generalize idxA i n a.sign t = u at e ⊢
      subst e
      by_cases h2 : u < 0
      · simp [h2]
      · simp [h2]; omega
    · have e : idxA i n last (a :: t) = 0 := by simp [idxA, h]
      rw [e, e1]
      simp only [Bool.not_eq_true] at h
      rw [h]; rfl
theorem idxA_app {i n last : Int} {l t : List Ar} (h : arcsOk i n last l = true) (h2 : 0 ≤ idxA i n (lastS last l) t) : idxA i n last (l ++ t) = l.length + idxA i n (lastS last l) t := by
  induction l generalizing last with
  | nil => simp [lastS]
  | cons b l ih =>
    simp only [arcsOk, Bool.and_eq_true] at h
    have := ih h.2 h2
    simp only [List.cons_append, idxA, h.1, if_true, lastS]
    rw [this, if_neg (by simp only [lastS] at h2 ⊢; omega)]
    simp only [List.length_cons, lastS]
    omega
theorem idxA_none {i n last : Int} {l : List Ar} (h : arcsOk i n last l = true) : idxA i n last l = -1 := by
  induction l generalizing last with
  | nil => rfl
  | cons b l ih =>
    simp only [arcsOk, Bool.and_eq_true] at h
    simp only [idxA, h.1, if_true, ih h.2]
    decide
theorem stopS_ok {i n last : Int} {l : List Ar} (h : arcsOk i n last l = true) : stopS i n last l = lastS last l := by
  have := stopS_app (t := []) h
  simpa [stopS] using this
theorem atake_snoc {α : Type} [Inhabited α] {l : List α} {k : Nat} (h : k < l.length) : l.take (k + 1) = l.take k ++ [l[k]!] := by
  rw [List.take_add_one, List.getElem?_eq_getElem h, getElem!_pos l k h]; rfl
theorem adrop_at {α : Type} [Inhabited α] {l : List α} {k : Nat} (h : k < l.length) : l.drop k = l[k]! :: l.drop (k + 1) := by
  rw [getElem!_pos l k h]; exact List.drop_eq_getElem_cons h
def statesOk (l : List Sta) (k : Nat) : Bool := (List.range k).all fun i => arcsOk i l.length (-1) (l[i]!).arcs
theorem statesOk_step (l : List Sta) (k : Nat) : statesOk l (k + 1) = (statesOk l k && arcsOk k l.length (-1) (l[k]!).arcs) := by simp [statesOk, List.range_succ]
/-- May an automaton be? -/
def achk (l : List Sta) : Bool := statesOk l l.length && decide (0 < l.length ∧ l.length ≤ 6001)
theorem statesOk_le {l : List Sta} {k : Nat} (h : statesOk l l.length = true) (hk : k < l.length) : arcsOk k l.length (-1) (l[k]!).arcs = true := List.all_eq_true.1 h k (List.mem_range.2 hk)
theorem achk_f {l : List Sta} {k : Nat} (hk : k < l.length) (h : arcsOk k l.length (-1) (l[k]!).arcs = false) : achk l = false := by
  unfold achk
  cases hs : statesOk l l.length
  · rfl
  · rw [statesOk_le hs hk] at h; cases h
set_option maxHeartbeats 4000000 in
set_option maxRecDepth 10000 in
theorem pWrongA {last i : Int} {l : List Sta} {a : Ar} (hl : l.length ≤ 9223372036854775807) : SoundM Tryd.prog 32 [.d (ar a), .ref 0 0, .ref 1 0, .ref 2 0]
    [(0, .var [.d (.int .i64 last)]), (1, .var [.d (.int .i64 i)]), (2, .var [.d (.sl 2 (stas l))])] (.d (.bool (!arcOk i l.length last a))) [(0, .var [.d (.int .i64 a.sign)]), (1, .var [.d (.int .i64 i)]), (2, .var [.d (.sl 2 (stas l))])] 3 := by
  have cg := utfGood (z := a.sign)
  unfold ar
  by_cases h1 : a.sign ≤ last
  · have e : arcOk i l.length last a = false := by unfold arcOk; rw [decide_eq_false (by omega)]; rfl
    rw [e]
    refine SoundM.run (N := 33) (ks := [0, 1, 2]) Tryd.func32 rfl (by kernel_rfl) rfl rfl rfl (by first | exact argsA_0 | exact argsA_1 | exact argsA_2 | exact argsA_3 | exact argsA_4 | exact argsA_5 | exact argsA_6) fun X_ ν_ w_ => ?_
    have c0_ := cg; refine goT ?_; first | exact trivial | skip
  have e1 : arcOk i l.length last a = (gsign a.sign && decide (i < a.to) && decide (a.to < l.length)) := by unfold arcOk; rw [decide_eq_true (by omega)]; rfl
  rw [e1]
  cases h2 : gsign a.sign
  · rw [h2] at cg
    refine SoundM.run (N := 33) (ks := [0, 1, 2]) Tryd.func32 rfl (by kernel_rfl) rfl rfl rfl (by first | exact argsA_0 | exact argsA_1 | exact argsA_2 | exact argsA_3 | exact argsA_4 | exact argsA_5 | exact argsA_6) fun X_ ν_ w_ => ?_
    have c0_ := cg; refine goX @Bool.false_and ?_; first | exact trivial | skip
  rw [h2] at cg
  by_cases h3 : a.to ≤ i
  · have e : (true && decide (i < a.to) && decide (a.to < l.length)) = false := by rw [decide_eq_false (by omega)]; rfl
    rw [e]
    refine SoundM.run (N := 33) (ks := [0, 1, 2]) Tryd.func32 rfl (by kernel_rfl) rfl rfl rfl (by first | exact argsA_0 | exact argsA_1 | exact argsA_2 | exact argsA_3 | exact argsA_4 | exact argsA_5 | exact argsA_6) fun X_ ν_ w_ => ?_
    have c0_ := cg; refine goT ?_; first | exact trivial | skip
  by_cases h4 : (l.length : Int) ≤ a.to
  · have e : (true && decide (i < a.to) && decide (a.to < l.length)) = false := by rw [decide_eq_true (by omega), decide_eq_false (by omega)]; rfl
    rw [e]
    refine SoundM.run (N := 33) (ks := [0, 1, 2]) Tryd.func32 rfl (by kernel_rfl) rfl rfl rfl (by first | exact argsA_0 | exact argsA_1 | exact argsA_2 | exact argsA_3 | exact argsA_4 | exact argsA_5 | exact argsA_6) fun X_ ν_ w_ => ?_
    have c0_ := cg; refine goT ?_; first | exact trivial | skip
  · have e : (true && decide (i < a.to) && decide (a.to < l.length)) = true := by rw [decide_eq_true (by omega), decide_eq_true (by omega)]; rfl
    rw [e]
    refine SoundM.run (N := 33) (ks := [0, 1, 2]) Tryd.func32 rfl (by kernel_rfl) rfl rfl rfl (by first | exact argsA_0 | exact argsA_1 | exact argsA_2 | exact argsA_3 | exact argsA_4 | exact argsA_5 | exact argsA_6) fun X_ ν_ w_ => ?_
    have c0_ := cg; refine goT ?_; first | exact trivial | skip
/-- What the closure looks at. -/
def Lst (last i : Int) (l : List Sta) : Heap := [(0, .var [.d (.int .i64 last)]), (1, .var [.d (.int .i64 i)]), (2, .var [.d (.sl 2 (stas l))])]
set_option maxHeartbeats 4000000 in
set_option maxRecDepth 10000 in
theorem pIndexA {last i : Int} {l : List Sta} {al : List Ar} (hl : l.length ≤ 9223372036854775807) (ha : al.length ≤ 9223372036854775807) : SoundM Tryd.prog 49 [.d (.sl 2 (ars al)), .fn 32 [.ref 0 0, .ref 1 0, .ref 2 0]]
    (Lst last i l) (.d (.int .i64 (idxA i l.length last al))) (Lst (stopS i l.length last al) i l) 3 := by
  unfold Lst
  refine SoundM.run (N := 19) (ks := [0, 1, 2]) Tryd.func49 rfl (by kernel_rfl) rfl rfl rfl (by first | exact argsA_0 | exact argsA_1 | exact argsA_2 | exact argsA_3 | exact argsA_4 | exact argsA_5 | exact argsA_6) fun X_ ν_ w_ => ?_
  refine goT ?_; first | exact trivial | skip
  refine WP_loopk (fun k : Nat => k ≤ al.length ∧ arcsOk i l.length last (al.take k) = true) (fun k => [(0, .d (.sl 2 (ars al))), (1, .fn 32 [.ref 0 0, .ref 1 0, .ref 2 0]), (7, .d (.int .i64 al.length)), (8, .d (.int .i64 k))]) (fun k => [(0, .var [.d (.int .i64 (lastS last (al.take k)))]), (1, .var [.d (.int .i64 i)]), (2, .var [.d (.sl 2 (stas l))])]) 3 (fun k => al.length - k) [0, 1, 7, 8] [0, 1, 2] 0 ⟨Nat.zero_le _, rfl⟩ rfl rfl (Nat.le_of_ble_eq_true rfl) (fun _ _ => rfl) (fun _ _ => rfl) fun k hk => ?_
  obtain ⟨hk1, hk2⟩ := hk
  by_cases hk3 : k < al.length
  · have cw := pWrongA (last := lastS last (al.take k)) (i := i) (a := al[k]!) hl
    have hs := atake_snoc hk3
    have hd := adrop_at hk3
    unfold ar at cw
    cases hb : arcOk i l.length (lastS last (al.take k)) (al[k]!)
    · rw [hb] at cw
      have e1 : idxA i l.length last al = k := by
        have := idxA_app (t := al.drop k) hk2 (by rw [hd]; simp only [idxA, hb]; rw [if_neg (by decide)]; exact Int.le_refl _)
        rw [List.take_append_drop] at this
        rw [this, hd]
        simp only [idxA, hb, List.length_take]
        simp only [Bool.false_eq_true, if_false]
        omega
      have e2 : stopS i l.length last al = (al[k]!).sign := by
        have := stopS_app (t := al.drop k) hk2
        rw [List.take_append_drop] at this
        rw [this, hd]
        simp only [stopS, hb, Bool.false_eq_true, if_false]
      rw [e1, e2]
      have c0_ := cw; refine goT ?_; first | exact trivial | skip
    · rw [hb] at cw
      have e1 := lastS_snoc last (al.take k) (al[k]!)
      have e2 : arcsOk i l.length last (al.take (k + 1)) = true := by rw [hs, arcsOk_app, hk2]; simp only [arcsOk, hb, Bool.and_true]
      have c0_ := cw; refine goT ?_; first | exact trivial | skip
      refine ⟨k + 1, ⟨by omega, e2⟩, ?_, ?_, by omega⟩
      · simp (disch := omega) only [go_sem, keepL, Int.natCast_add, Int.cast_ofNat_Int]
      · rw [hs, e1]
        simp (disch := omega) only [go_sem, keepL]
  · have hkl : k = al.length := by omega
    subst hkl
    rw [List.take_length] at hk2 ⊢
    rw [idxA_none hk2, stopS_ok hk2]
    refine goT ?_; first | exact trivial | skip
set_option maxHeartbeats 4000000 in
set_option maxRecDepth 10000 in
theorem pContA {last i : Int} {l : List Sta} {al : List Ar} (hl : l.length ≤ 9223372036854775807) (ha : al.length ≤ 9223372036854775807) : SoundM Tryd.prog 34 [.d (.sl 2 (ars al)), .fn 32 [.ref 0 0, .ref 1 0, .ref 2 0]]
    (Lst last i l) (.d (.bool (!arcsOk i l.length last al))) (Lst (stopS i l.length last al) i l) 3 := by
  have ci := pIndexA (last := last) (i := i) hl ha
  have e := idxA_iff i l.length al last
  unfold Lst at ci ⊢
  refine SoundM.run (N := 9) (ks := [0, 1, 2]) Tryd.func34 rfl (by kernel_rfl) rfl rfl rfl (by first | exact argsA_0 | exact argsA_1 | exact argsA_2 | exact argsA_3 | exact argsA_4 | exact argsA_5 | exact argsA_6) fun X_ ν_ w_ => ?_
  have c0_ := ci; refine goX @e ?_; first | exact trivial | skip
set_option maxHeartbeats 4000000 in
set_option maxRecDepth 10000 in
theorem pCheckA {l : List Sta} (hl : StaOk l) : Sound Tryd.prog 14 [.sl 2 (stas l)] (.bool (achk l)) := by
  obtain ⟨hlen, hal⟩ := id hl
  refine Sound.run (N := 28) Tryd.func14 rfl (by kernel_rfl) rfl rfl rfl (by first | exact args0_0 | exact args0_1 | exact args0_2 | exact args0_3 | exact args0_4 | exact args0_5 | exact args0_6) fun X_ w_ => ?_
  refine goT ?_; first | exact trivial | skip
  refine WP_loopk (fun k : Nat => k ≤ l.length ∧ statesOk l k = true) (fun k => [(1, .ref 0 0), (7, .d (.sl 2 (stas l))), (8, .d (.int .i64 l.length)), (9, .d (.int .i64 k))]) (fun k => [(0, .var [.d (.sl 2 (stas l))])]) 1 (fun k => l.length - k) [1, 7, 8, 9] [0] 0 ⟨Nat.zero_le _, rfl⟩ rfl rfl (Nat.zero_le _) (fun _ _ => rfl) (fun _ _ => rfl) fun k hk => ?_
  obtain ⟨hk1, hk2⟩ := hk
  by_cases hk3 : k < l.length
  · have cc := pContA (last := -1) (i := k) (l := l) (al := (l[k]!).arcs) hlen (hl.get hk3)
    unfold Lst at cc
    cases hb : arcsOk k l.length (-1) (l[k]!).arcs
    · have e := achk_f hk3 hb
      rw [hb] at cc
      have c0_ := cc; refine goX @e ?_; first | exact trivial | skip
    · rw [hb] at cc
      have hst := statesOk_step l k
      have c0_ := cc; refine goT ?_; first | exact trivial | skip
      refine ⟨k + 1, ⟨by omega, by rw [hst, hk2, hb]; rfl⟩, ?_, ?_, by omega⟩
      · simp (disch := omega) only [go_sem, keepL, Int.natCast_add, Int.cast_ofNat_Int]
      · simp (disch := omega) only [go_sem, keepL]
  · have hkl : k = l.length := by omega
    subst hkl
    by_cases h0 : 0 < l.length
    · by_cases h1 : l.length ≤ 6001
      · have e : achk l = true := by unfold achk; rw [hk2, decide_eq_true ⟨h0, h1⟩]; rfl
        refine goX @e ?_; first | exact trivial | skip
      · have e : achk l = false := by unfold achk; rw [decide_eq_false (by omega)]; simp
        refine goX @e ?_; first | exact trivial | skip
    · have e : achk l = false := by unfold achk; rw [decide_eq_false (by omega)]; simp
      refine goX @e ?_; first | exact trivial | skip
end Go.Eng.Tryd

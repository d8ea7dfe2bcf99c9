/- Costs: whether they may be. (and what stands behind it: texts laid together) -/
import Derived.Test.YtabfoaoeghikoaaGreatDoorMG4
import Derived.Test.YtabfoaoeghikoaaGreatDoorMR4
import Derived.Test.YtabfoaoeghikoaaGreatDoorMR1
set_option maxHeartbeats 32000000
set_option maxRecDepth 100000
set_option linter.unusedVariables false
set_option linter.unusedSimpArgs false
namespace Go.Eng.Tryz
open Go Go.Eng Go.Proofs Go.RowKit
attribute [local go_sem] is_len is_get rs_len rs_get
theorem rtake {a b : List Ru} {k : Nat} (hw : a.take k = b.take k) (h1 : k < a.length) (h2 : k < b.length) (h : a[k]! = b[k]!) : a.take (k + 1) = b.take (k + 1) := by
  rw [rtake_snoc h1, rtake_snoc h2, hw, h]
theorem sEqualR {a b : List Ru} (ha : ∀ r ∈ a, r.ok) (hb : ∀ r ∈ b, r.ok) (hla : a.length ≤ 9223372036854775807) (hlb : b.length ≤ 9223372036854775807) : Sound Tryz.prog 88 [.sl 3 (rs a), .sl 3 (rs b), .fn 90] (.bool (decide (a = b))) := by
  by_cases hl : a.length = b.length
  · refine Sound.run (N := 32) Tryz.func88 rfl (by kernel_rfl) rfl rfl rfl (by exact args0_3) fun X_ w_ => ?_
    refine goT ?_; try exact trivial
    refine WP_loopk (fun k : Nat => k ≤ a.length ∧ a.take k = b.take k) (fun k => [(1, .d (.sl 3 (rs b))), (2, .d (.fn 90)), (15, .d (.sl 3 (rs a))), (16, .d (.int .i64 a.length)), (17, .d (.int .i64 k))]) (fun _ => []) 0 (fun k => a.length - k) [1, 2, 15, 16, 17] [] 0 ⟨Nat.zero_le _, rfl⟩ rfl rfl (Nat.le_refl _) (fun _ _ => rfl) (fun _ _ => rfl) fun k hk => ?_
    obtain ⟨hk1, hw⟩ := hk
    by_cases hk' : k < a.length
    · have hk2 : k < b.length := by omega
      have c := sSame (rok_get ha hk') (rok_get hb hk2)
      unfold ru at c
      by_cases hc : a[k]! = b[k]!
      · have e := rtake hw hk' hk2 hc
        rw [decide_eq_true hc] at c
        have c0_ := c; refine goT ?_; try exact trivial
        refine ⟨k + 1, ⟨by omega, e⟩, ?_, rfl, by omega⟩
        simp (disch := omega) only [go_sem, keepL, Int.natCast_add, Int.cast_ofNat_Int]
      · have e : decide (a = b) = false := decide_eq_false fun h => hc (by rw [h])
        rw [decide_eq_false hc] at c
        have c0_ := c; refine goX @e ?_; try exact trivial
    · have hk' : k = a.length := by omega
      subst hk'
      have e : decide (a = b) = true := decide_eq_true (by rw [List.take_length, hl, List.take_length] at hw; exact hw)
      refine goX @e ?_; try exact trivial
  · have e : decide (a = b) = false := decide_eq_false fun h => hl (by rw [h])
    refine Sound.run (N := 32) Tryz.func88 rfl (by kernel_rfl) rfl rfl rfl (by exact args0_3) fun X_ w_ => ?_
    refine goX @e ?_; try exact trivial
def umax (l : List Int) : Int := l.foldl max 0
theorem umax_step {l : List Int} {k : Nat} (h : k < l.length) : umax (l.take (k + 1)) = max (umax (l.take k)) (l[k]!) := by
  unfold umax
  rw [List.take_add_one, List.foldl_append, List.getElem?_eq_getElem h, ← getElem!_pos l k h]
  rfl
theorem if_max {a b : Int} : (if a < b then b else a) = max a b := by split <;> omega
theorem sMax {l : List Int} (h0 : 0 < l.length) (hl : l.length ≤ 9223372036854775807) (hU : ∀ z ∈ l, 0 ≤ z) : Sound Tryz.prog 85 [.sl 1 (us l)] (.int .u64 (umax l)) := by
  have e1 : umax (l.take 1) = l[0]! := by
    rw [umax_step h0]
    have : 0 ≤ l[0]! := by rw [getElem!_pos l 0 h0]; exact hU _ (List.getElem_mem h0)
    show max 0 _ = _
    omega
  refine Sound.run (N := 25) Tryz.func85 rfl (by kernel_rfl) rfl rfl rfl (by exact args0_1) fun X_ w_ => ?_
  refine goT ?_; try exact trivial
  refine WP_loopk (fun k : Nat => 1 ≤ k ∧ k ≤ l.length) (fun k => [(0, .d (.sl 1 (us l))), (3, .d (.int .u64 (umax (l.take k)))), (4, .d (.int .i64 k))]) (fun _ => []) 0 (fun k => l.length - k) [0, 3, 4] [] 1 ⟨Nat.le_refl _, h0⟩ (by rw [e1]; rfl) rfl (Nat.le_refl _) (fun _ _ => rfl) (fun _ _ => rfl) fun k hk => ?_
  obtain ⟨hk0, hk1⟩ := hk
  by_cases hk' : k < l.length
  · have hst := umax_step hk'
    refine goX @if_max ?_; try exact trivial
    refine ⟨k + 1, ⟨by omega, by omega⟩, ?_, rfl, by omega⟩
    simp (disch := omega) only [go_sem, keepL, Int.natCast_add, Int.cast_ofNat_Int, hst, if_max]
  · have hkl : k = l.length := by omega
    subst hkl
    rw [List.take_length]
    refine goT ?_; try exact trivial
structure Co where
  more : Int
  less : Int
  other : Int
  turned : Int
  rules : List Ru
deriving DecidableEq
def co (c : Co) : D := .agg [.int .u64 c.more, .int .u64 c.less, .int .u64 c.other, .int .u64 c.turned, .sl 3 (rs c.rules)]
def Co.ok (c : Co) : Prop := U c.more ∧ U c.less ∧ U c.other ∧ U c.turned ∧ (∀ r ∈ c.rules, r.ok) ∧ c.rules.length ≤ 9223372036854775807
def cmax (c : Co) : Int := umax [c.more, c.less, c.other, c.turned]
def cok (c : Co) : Bool := decide (cmax c < 18446744073709551615) && decide (c.rules.length ≤ 200) && c.rules.all fit && decide (norm c.rules = c.rules)
theorem cok_iff {c : Co} : cok c = true ↔ cmax c < 18446744073709551615 ∧ c.rules.length ≤ 200 ∧ c.rules.all fit = true ∧ norm c.rules = c.rules := by
  simp [cok, Bool.and_eq_true, and_assoc]
theorem cok_f {c : Co} (h : ¬ (cmax c < 18446744073709551615 ∧ c.rules.length ≤ 200 ∧ c.rules.all fit = true ∧ norm c.rules = c.rules)) : cok c = false := by
  cases hc : cok c with
  | false => rfl
  | true => exact absurd (cok_iff.1 hc) h
theorem any_not {α : Type} (p : α → Bool) (l : List α) : (l.any fun r => !p r) = !l.all p := by
  induction l with
  | nil => rfl
  | cons x l ih => simp [ih]
theorem sSteps {c : Co} (hc : c.ok) : Sound Tryz.prog 86 [co c] (.sl 1 [.int .u64 c.more, .int .u64 c.less, .int .u64 c.other, .int .u64 c.turned]) := by
  unfold co
  refine Sound.run (N := 12) Tryz.func86 rfl (by kernel_rfl) rfl rfl rfl (by exact args0_1) fun X_ w_ => ?_
  refine goT ?_; try exact trivial
theorem sCheck {c : Co} (hc : c.ok) : Sound Tryz.prog 38 [co c] (.bool (cok c)) := by
  obtain ⟨u1, u2, u3, u4, hr, hl⟩ := hc
  have c0 := sSteps (c := c) ⟨u1, u2, u3, u4, hr, hl⟩
  have c1 : Sound Tryz.prog 85 [.sl 1 [.int .u64 c.more, .int .u64 c.less, .int .u64 c.other, .int .u64 c.turned]] (.int .u64 (cmax c)) :=
    sMax (l := [c.more, c.less, c.other, c.turned]) (by simp) (by simp) (fun z hz => by simp at hz; rcases hz with rfl | rfl | rfl | rfl; exact u1.1; exact u2.1; exact u3.1; exact u4.1)
  have c2 := containsR hr hl
  rw [any_not] at c2
  unfold co at c0 ⊢
  by_cases h1 : cmax c < 18446744073709551615
  · by_cases h2 : c.rules.length ≤ 200
    · cases h3 : c.rules.all fit
      · have e := cok_f (c := c) (fun h => by rw [h.2.2.1] at h3; cases h3)
        rw [h3] at c2
        refine Sound.run (N := 29) Tryz.func38 rfl (by kernel_rfl) rfl rfl rfl (by exact args0_1) fun X_ w_ => ?_
        have c0_ := c0; have c1_ := c1; have c2_ := c2; refine goX @e ?_; try exact trivial
      · rw [h3] at c2
        have c3 := pNorm hr (by omega)
        have c4 := sEqualR (norm_ok hr) hr (Nat.le_trans (norm_len _) (by omega)) hl
        by_cases h4 : norm c.rules = c.rules
        · have e := cok_iff.2 ⟨h1, h2, h3, h4⟩
          rw [decide_eq_true h4] at c4
          refine Sound.run (N := 29) Tryz.func38 rfl (by kernel_rfl) rfl rfl rfl (by exact args0_1) fun X_ w_ => ?_
          have c0_ := c0; have c1_ := c1; have c2_ := c2; have c3_ := c3; have c4_ := c4; refine goX @e ?_; try exact trivial
        · have e := cok_f (c := c) (fun h => h4 h.2.2.2)
          rw [decide_eq_false h4] at c4
          refine Sound.run (N := 29) Tryz.func38 rfl (by kernel_rfl) rfl rfl rfl (by exact args0_1) fun X_ w_ => ?_
          have c0_ := c0; have c1_ := c1; have c2_ := c2; have c3_ := c3; have c4_ := c4; refine goX @e ?_; try exact trivial
    · have e := cok_f (c := c) (fun h => h2 h.2.1)
      refine Sound.run (N := 29) Tryz.func38 rfl (by kernel_rfl) rfl rfl rfl (by exact args0_1) fun X_ w_ => ?_
      have c0_ := c0; have c1_ := c1; refine goX @e ?_; try exact trivial
  · have e := cok_f (c := c) (fun h => h1 h.1)
    refine Sound.run (N := 29) Tryz.func38 rfl (by kernel_rfl) rfl rfl rfl (by exact args0_1) fun X_ w_ => ?_
    have c0_ := c0; have c1_ := c1; refine goX @e ?_; try exact trivial
end Go.Eng.Tryz
set_option linter.unusedVariables false
set_option linter.unusedSimpArgs false
namespace Go.Eng.Tryz
open Go Go.Eng Go.Proofs Go.RowKit
attribute [local go_sem] evFold rnE ksE roundE frz frzs List.set_cons_zero List.set_cons_succ List.zip_cons_cons List.zip_nil_right List.foldl_cons List.foldl_nil D.flat rns AV.rn HO.rn AV.ks kss HO.ks sg dedup objKs reach passE fresh List.filter fnOf evOp opnd lk v2d v2ds just evBin intBin nilBin isNil strBin evUn evLoad ldD ldA evStore evField evIndex evBuild fillA evBuildSlice evBuildSliceX evBuildSliceT isOwn1 evAppendTX evAppendTT evAppend evAppendClip elems evMake evSlice evSliceO evSliceX evSliceY evViewV evStoreX evStoreT stT stI evCopyT evAppendT evAppendTD ldT ldI Tb.inn Tb.ilen Tb.nilAt Tb.ini D.put evCut evView evCopy evAppendV evAgg evMakeMap evLookup evMapUpd evRange evEntry cellsD AV.kb splice List.getLast?_append resM resAs resA resD keepL List.replicate_zero List.take_length ofInt evLen evMin evMax evConv evNil evExtract evBuiltin toD toDs allD pack splice D.comps AV.comps AV.sto D.cell D.rebuild inOrder allFlat del put setE eff gd gslot kills Option.map_some Option.map_none Option.bind_some Option.isSome_some List.map_cons List.map_nil List.append_nil List.nil_append List.cons_append List.length_cons List.length_nil List.length_map List.length_append List.take_zero List.take_succ_cons List.take_nil List.drop_zero List.drop_succ_cons List.drop_nil List.getElem?_cons_zero List.getElem?_cons_succ List.getElem?_map List.all_cons List.all_nil List.mem_cons List.not_mem_nil List.elem_cons List.elem_nil Bool.and_true Bool.true_and Bool.and_self Bool.not_true Bool.not_false Bool.or_true Bool.or_false and_self and_true true_and or_false false_or or_true true_or not_false_eq_true not_true_eq_false if_true if_false decide_true decide_false decide_eq_true_eq Int.toNat_natCast Int.toNat_zero beq_self_eq_true bne_self_eq_false Bool.false_eq_true Nat.add_zero Nat.zero_add room le_i lt_i eq_n le_n lt_n len0 gdE bb_tf bb_ft mapP arrL if_min tdiv_nn tmod_nn us_len us_get wrap_i64 wrap_u64 dec_lt dec_nlt dec_le dec_nle beq_t beq_f bne_t bne_f get_lt gt_iff_lt ge_iff_le
attribute [local go_sem ↓] map_P reduceIte
attribute [local go_sem] reduceCtorEq Nat.reduceEqDiff Nat.reduceAdd Nat.reduceSub Nat.reduceMul Nat.reduceLeDiff Nat.reduceLT Nat.reduceBEq Nat.reduceBNe Int.reduceToNat Int.reduceLT Int.reduceLE Int.reduceEq Int.reduceAdd Int.reduceSub Int.reduceNeg Int.reduceBEq Int.reduceBNe
theorem if_minI {a b : Int} : (if b < a then b else a) = min a b := by split <;> omega
end Go.Eng.Tryz
set_option linter.unusedVariables false
set_option linter.unusedSimpArgs false
namespace Go.Eng.Tryz
open Go Go.Eng Go.Proofs Go.RowKit
end Go.Eng.Tryz
set_option linter.unusedVariables false
set_option linter.unusedSimpArgs false
namespace Go.Eng.Tryz
open Go Go.Eng Go.Proofs Go.RowKit
attribute [local go_sem] is_len is_get
structure Ar where
  sign : Int
  to : Int
deriving DecidableEq
instance : Inhabited Ar := ⟨⟨0, 0⟩⟩
structure Sta where
  final : Bool
  arcs : List Ar
deriving DecidableEq
instance : Inhabited Sta := ⟨⟨false, []⟩⟩
def ar (a : Ar) : D := .agg [.int .i64 a.sign, .int .i64 a.to]
def ars (l : List Ar) : List D := l.map ar
def sta (s : Sta) : D := .agg [.bool s.final, .sl 2 (ars s.arcs)]
def stas (l : List Sta) : List D := l.map sta
theorem ars_len {l : List Ar} : (ars l).length = l.length := by simp [ars]
theorem ars_get {l : List Ar} {k : Nat} (h : k < l.length) : (ars l)[k]? = some (.agg [.int .i64 (l[k]!).sign, .int .i64 (l[k]!).to]) := by
  simp [ars, ar, List.getElem?_eq_getElem h, getElem!_pos l k h]
theorem stas_len {l : List Sta} : (stas l).length = l.length := by simp [stas]
theorem stas_get {l : List Sta} {k : Nat} (h : k < l.length) : (stas l)[k]? = some (.agg [.bool (l[k]!).final, .sl 2 (ars (l[k]!).arcs)]) := by
  simp [stas, sta, List.getElem?_eq_getElem h, getElem!_pos l k h]
attribute [local go_sem] ars_len ars_get stas_len stas_get
def StaOk (l : List Sta) : Prop := l.length ≤ 9223372036854775807 ∧ ∀ s ∈ l, s.arcs.length ≤ 9223372036854775807
theorem StaOk.get {l : List Sta} (h : StaOk l) {k : Nat} (hk : k < l.length) : (l[k]!).arcs.length ≤ 9223372036854775807 := by
  rw [getElem!_pos l k hk]; exact h.2 _ (List.getElem_mem hk)
def arcOk (i n last : Int) (a : Ar) : Bool := decide (last < a.sign) && gsign a.sign && decide (i < a.to) && decide (a.to < n)
def arcsOk (i n : Int) : Int → List Ar → Bool
  | _, [] => true
  | last, a :: t => arcOk i n last a && arcsOk i n a.sign t
def lastS : Int → List Ar → Int
  | last, [] => last
  | _, a :: t => lastS a.sign t
def stopS (i n : Int) : Int → List Ar → Int
  | last, [] => last
  | last, a :: t => if arcOk i n last a = true then stopS i n a.sign t else a.sign
def idxA (i n : Int) : Int → List Ar → Int
  | _, [] => -1
  | last, a :: t => if arcOk i n last a = true then (if idxA i n a.sign t < 0 then -1 else idxA i n a.sign t + 1) else 0
theorem lastS_snoc (last : Int) (l : List Ar) (a : Ar) : lastS last (l ++ [a]) = a.sign := by
  induction l generalizing last with
  | nil => rfl
  | cons b l ih => exact ih _
theorem arcsOk_app (i n last : Int) (l t : List Ar) : arcsOk i n last (l ++ t) = (arcsOk i n last l && arcsOk i n (lastS last l) t) := by
  induction l generalizing last with
  | nil => simp [arcsOk, lastS]
  | cons b l ih => simp only [List.cons_append, arcsOk, lastS, ih, Bool.and_assoc]
theorem stopS_app {i n last : Int} {l t : List Ar} (h : arcsOk i n last l = true) : stopS i n last (l ++ t) = stopS i n (lastS last l) t := by
  induction l generalizing last with
  | nil => rfl
  | cons b l ih =>
    simp only [arcsOk, Bool.and_eq_true] at h
    simp only [List.cons_append, stopS, h.1, if_true, lastS, ih h.2]
theorem idxA_iff (i n : Int) : ∀ (l : List Ar) (last : Int), decide (0 ≤ idxA i n last l) = !arcsOk i n last l
  | [], _ => rfl
  | a :: t, last => by
    have ih := idxA_iff i n t a.sign
    have e1 : arcsOk i n last (a :: t) = (arcOk i n last a && arcsOk i n a.sign t) := rfl
    by_cases h : arcOk i n last a = true
    · have e : idxA i n last (a :: t) = if idxA i n a.sign t < 0 then -1 else idxA i n a.sign t + 1 := by simp [idxA, h]
      rw [e1, h, Bool.true_and, ← ih]
      generalize idxA i n last (a :: t) = v at e ⊢
      generalize idxA i n a.sign t = u at e ⊢
      subst e
      by_cases h2 : u < 0
      · simp [h2]
      · simp [h2]; omega
    · have e : idxA i n last (a :: t) = 0 := by simp [idxA, h]
      rw [e, e1]
      simp only [Bool.not_eq_true] at h
      rw [h]; rfl
theorem idxA_app {i n last : Int} {l t : List Ar} (h : arcsOk i n last l = true) (h2 : 0 ≤ idxA i n (lastS last l) t) : idxA i n last (l ++ t) = l.length + idxA i n (lastS last l) t := by
  induction l generalizing last with
  | nil => simp [lastS]
  | cons b l ih =>
    simp only [arcsOk, Bool.and_eq_true] at h
    have := ih h.2 h2
    simp only [List.cons_append, idxA, h.1, if_true, lastS]
    rw [this, if_neg (by simp only [lastS] at h2 ⊢; omega)]
    simp only [List.length_cons, lastS]
    omega
theorem idxA_none {i n last : Int} {l : List Ar} (h : arcsOk i n last l = true) : idxA i n last l = -1 := by
  induction l generalizing last with
  | nil => rfl
  | cons b l ih =>
    simp only [arcsOk, Bool.and_eq_true] at h
    simp only [idxA, h.1, if_true, ih h.2]
    decide
theorem stopS_ok {i n last : Int} {l : List Ar} (h : arcsOk i n last l = true) : stopS i n last l = lastS last l := by
  have := stopS_app (t := []) h
  simpa [stopS] using this
theorem atake_snoc {α : Type} [Inhabited α] {l : List α} {k : Nat} (h : k < l.length) : l.take (k + 1) = l.take k ++ [l[k]!] := by
  rw [List.take_add_one, List.getElem?_eq_getElem h, getElem!_pos l k h]; rfl
theorem adrop_at {α : Type} [Inhabited α] {l : List α} {k : Nat} (h : k < l.length) : l.drop k = l[k]! :: l.drop (k + 1) := by
  rw [getElem!_pos l k h]; exact List.drop_eq_getElem_cons h
def statesOk (l : List Sta) (k : Nat) : Bool := (List.range k).all fun i => arcsOk i l.length (-1) (l[i]!).arcs
theorem statesOk_step (l : List Sta) (k : Nat) : statesOk l (k + 1) = (statesOk l k && arcsOk k l.length (-1) (l[k]!).arcs) := by simp [statesOk, List.range_succ]
def achk (l : List Sta) : Bool := statesOk l l.length && decide (0 < l.length ∧ l.length ≤ 6001)
theorem statesOk_le {l : List Sta} {k : Nat} (h : statesOk l l.length = true) (hk : k < l.length) : arcsOk k l.length (-1) (l[k]!).arcs = true := List.all_eq_true.1 h k (List.mem_range.2 hk)
theorem achk_f {l : List Sta} {k : Nat} (hk : k < l.length) (h : arcsOk k l.length (-1) (l[k]!).arcs = false) : achk l = false := by
  unfold achk
  cases hs : statesOk l l.length
  · rfl
  · rw [statesOk_le hs hk] at h; cases h
theorem pWrongA {last i : Int} {l : List Sta} {a : Ar} (hl : l.length ≤ 9223372036854775807) : SoundM Tryz.prog 80 [.d (ar a), .ref 0 0, .ref 1 0, .ref 2 0]
    [(0, .var [.d (.int .i64 last)]), (1, .var [.d (.int .i64 i)]), (2, .var [.d (.sl 2 (stas l))])] (.d (.bool (!arcOk i l.length last a))) [(0, .var [.d (.int .i64 a.sign)]), (1, .var [.d (.int .i64 i)]), (2, .var [.d (.sl 2 (stas l))])] 3 := by
  have cg := utfGood (z := a.sign)
  unfold ar
  by_cases h1 : a.sign ≤ last
  · have e : arcOk i l.length last a = false := by unfold arcOk; rw [decide_eq_false (by omega)]; rfl
    rw [e]
    refine SoundM.run (N := 33) (ks := [0, 1, 2]) Tryz.func80 rfl (by kernel_rfl) rfl rfl rfl (by exact argsA_4) fun X_ ν_ w_ => ?_
    have c0_ := cg; refine goT ?_; try exact trivial
  have e1 : arcOk i l.length last a = (gsign a.sign && decide (i < a.to) && decide (a.to < l.length)) := by unfold arcOk; rw [decide_eq_true (by omega)]; rfl
  rw [e1]
  cases h2 : gsign a.sign
  · rw [h2] at cg
    refine SoundM.run (N := 33) (ks := [0, 1, 2]) Tryz.func80 rfl (by kernel_rfl) rfl rfl rfl (by exact argsA_4) fun X_ ν_ w_ => ?_
    have c0_ := cg; refine goX @Bool.false_and ?_; try exact trivial
  rw [h2] at cg
  by_cases h3 : a.to ≤ i
  · have e : (true && decide (i < a.to) && decide (a.to < l.length)) = false := by rw [decide_eq_false (by omega)]; rfl
    rw [e]
    refine SoundM.run (N := 33) (ks := [0, 1, 2]) Tryz.func80 rfl (by kernel_rfl) rfl rfl rfl (by exact argsA_4) fun X_ ν_ w_ => ?_
    have c0_ := cg; refine goT ?_; try exact trivial
  by_cases h4 : (l.length : Int) ≤ a.to
  · have e : (true && decide (i < a.to) && decide (a.to < l.length)) = false := by rw [decide_eq_true (by omega), decide_eq_false (by omega)]; rfl
    rw [e]
    refine SoundM.run (N := 33) (ks := [0, 1, 2]) Tryz.func80 rfl (by kernel_rfl) rfl rfl rfl (by exact argsA_4) fun X_ ν_ w_ => ?_
    have c0_ := cg; refine goT ?_; try exact trivial
  · have e : (true && decide (i < a.to) && decide (a.to < l.length)) = true := by rw [decide_eq_true (by omega), decide_eq_true (by omega)]; rfl
    rw [e]
    refine SoundM.run (N := 33) (ks := [0, 1, 2]) Tryz.func80 rfl (by kernel_rfl) rfl rfl rfl (by exact argsA_4) fun X_ ν_ w_ => ?_
    have c0_ := cg; refine goT ?_; try exact trivial
def Lst (last i : Int) (l : List Sta) : Heap := [(0, .var [.d (.int .i64 last)]), (1, .var [.d (.int .i64 i)]), (2, .var [.d (.sl 2 (stas l))])]
theorem pIndexA {last i : Int} {l : List Sta} {al : List Ar} (hl : l.length ≤ 9223372036854775807) (ha : al.length ≤ 9223372036854775807) : SoundM Tryz.prog 117 [.d (.sl 2 (ars al)), .fn 80 [.ref 0 0, .ref 1 0, .ref 2 0]]
    (Lst last i l) (.d (.int .i64 (idxA i l.length last al))) (Lst (stopS i l.length last al) i l) 3 := by
  unfold Lst
  refine SoundM.run (N := 19) (ks := [0, 1, 2]) Tryz.func117 rfl (by kernel_rfl) rfl rfl rfl (by exact argsA_2) fun X_ ν_ w_ => ?_
  refine goT ?_; try exact trivial
  refine WP_loopk (fun k : Nat => k ≤ al.length ∧ arcsOk i l.length last (al.take k) = true) (fun k => [(0, .d (.sl 2 (ars al))), (1, .fn 80 [.ref 0 0, .ref 1 0, .ref 2 0]), (7, .d (.int .i64 al.length)), (8, .d (.int .i64 k))]) (fun k => [(0, .var [.d (.int .i64 (lastS last (al.take k)))]), (1, .var [.d (.int .i64 i)]), (2, .var [.d (.sl 2 (stas l))])]) 3 (fun k => al.length - k) [0, 1, 7, 8] [0, 1, 2] 0 ⟨Nat.zero_le _, rfl⟩ rfl rfl (Nat.le_of_ble_eq_true rfl) (fun _ _ => rfl) (fun _ _ => rfl) fun k hk => ?_
  obtain ⟨hk1, hk2⟩ := hk
  by_cases hk3 : k < al.length
  · have cw := pWrongA (last := lastS last (al.take k)) (i := i) (a := al[k]!) hl
    have hs := atake_snoc hk3
    have hd := adrop_at hk3
    unfold ar at cw
    cases hb : arcOk i l.length (lastS last (al.take k)) (al[k]!)
    · rw [hb] at cw
      have e1 : idxA i l.length last al = k := by
        have := idxA_app (t := al.drop k) hk2 (by rw [hd]; simp only [idxA, hb]; rw [if_neg (by decide)]; exact Int.le_refl _)
        rw [List.take_append_drop] at this
        rw [this, hd]
        simp only [idxA, hb, List.length_take]
        simp only [Bool.false_eq_true, if_false]
        omega
      have e2 : stopS i l.length last al = (al[k]!).sign := by
        have := stopS_app (t := al.drop k) hk2
        rw [List.take_append_drop] at this
        rw [this, hd]
        simp only [stopS, hb, Bool.false_eq_true, if_false]
      rw [e1, e2]
      have c0_ := cw; refine goT ?_; try exact trivial
    · rw [hb] at cw
      have e1 := lastS_snoc last (al.take k) (al[k]!)
      have e2 : arcsOk i l.length last (al.take (k + 1)) = true := by rw [hs, arcsOk_app, hk2]; simp only [arcsOk, hb, Bool.and_true]
      have c0_ := cw; refine goT ?_; try exact trivial
      refine ⟨k + 1, ⟨by omega, e2⟩, ?_, ?_, by omega⟩
      · simp (disch := omega) only [go_sem, keepL, Int.natCast_add, Int.cast_ofNat_Int]
      · rw [hs, e1]
        simp (disch := omega) only [go_sem, keepL]
  · have hkl : k = al.length := by omega
    subst hkl
    rw [List.take_length] at hk2 ⊢
    rw [idxA_none hk2, stopS_ok hk2]
    refine goT ?_; try exact trivial
theorem pContA {last i : Int} {l : List Sta} {al : List Ar} (hl : l.length ≤ 9223372036854775807) (ha : al.length ≤ 9223372036854775807) : SoundM Tryz.prog 82 [.d (.sl 2 (ars al)), .fn 80 [.ref 0 0, .ref 1 0, .ref 2 0]]
    (Lst last i l) (.d (.bool (!arcsOk i l.length last al))) (Lst (stopS i l.length last al) i l) 3 := by
  have ci := pIndexA (last := last) (i := i) hl ha
  have e := idxA_iff i l.length al last
  unfold Lst at ci ⊢
  refine SoundM.run (N := 9) (ks := [0, 1, 2]) Tryz.func82 rfl (by kernel_rfl) rfl rfl rfl (by exact argsA_2) fun X_ ν_ w_ => ?_
  have c0_ := ci; refine goX @e ?_; try exact trivial
theorem pCheckA {l : List Sta} (hl : StaOk l) : Sound Tryz.prog 37 [.sl 2 (stas l)] (.bool (achk l)) := by
  obtain ⟨hlen, hal⟩ := id hl
  refine Sound.run (N := 28) Tryz.func37 rfl (by kernel_rfl) rfl rfl rfl (by exact args0_1) fun X_ w_ => ?_
  refine goT ?_; try exact trivial
  refine WP_loopk (fun k : Nat => k ≤ l.length ∧ statesOk l k = true) (fun k => [(1, .ref 0 0), (7, .d (.sl 2 (stas l))), (8, .d (.int .i64 l.length)), (9, .d (.int .i64 k))]) (fun k => [(0, .var [.d (.sl 2 (stas l))])]) 1 (fun k => l.length - k) [1, 7, 8, 9] [0] 0 ⟨Nat.zero_le _, rfl⟩ rfl rfl (Nat.zero_le _) (fun _ _ => rfl) (fun _ _ => rfl) fun k hk => ?_
  obtain ⟨hk1, hk2⟩ := hk
  by_cases hk3 : k < l.length
  · have cc := pContA (last := -1) (i := k) (l := l) (al := (l[k]!).arcs) hlen (hl.get hk3)
    unfold Lst at cc
    cases hb : arcsOk k l.length (-1) (l[k]!).arcs
    · have e := achk_f hk3 hb
      rw [hb] at cc
      have c0_ := cc; refine goX @e ?_; try exact trivial
    · rw [hb] at cc
      have hst := statesOk_step l k
      have c0_ := cc; refine goT ?_; try exact trivial
      refine ⟨k + 1, ⟨by omega, by rw [hst, hk2, hb]; rfl⟩, ?_, ?_, by omega⟩
      · simp (disch := omega) only [go_sem, keepL, Int.natCast_add, Int.cast_ofNat_Int]
      · simp (disch := omega) only [go_sem, keepL]
  · have hkl : k = l.length := by omega
    subst hkl
    by_cases h0 : 0 < l.length
    · by_cases h1 : l.length ≤ 6001
      · have e : achk l = true := by unfold achk; rw [hk2, decide_eq_true ⟨h0, h1⟩]; rfl
        refine goX @e ?_; try exact trivial
      · have e : achk l = false := by unfold achk; rw [decide_eq_false (by omega)]; simp
        refine goX @e ?_; try exact trivial
    · have e : achk l = false := by unfold achk; rw [decide_eq_false (by omega)]; simp
      refine goX @e ?_; try exact trivial
end Go.Eng.Tryz
set_option linter.unusedVariables false
set_option linter.unusedSimpArgs false
namespace Go.Eng.Tryz
open Go Go.Eng Go.Proofs Go.RowKit
attribute [local go_sem] is_len is_get ars_len ars_get stas_len stas_get
theorem ris_set {l : List Int} {i : Nat} {z : Int} : (is l).set i (.int .i64 z) = is (l.set i z) := by simp [is, List.map_set]
theorem ris_rep {n : Nat} {x : Int} : List.replicate n (D.int .i64 x) = is (List.replicate n x) := by simp [is]
attribute [local go_sem] ris_set ris_rep
def sgn (z : Int) (a : Ar) : Bool := decide (a.sign = z)
theorem pStep1 {a : Ar} {z : Int} : SoundM Tryz.prog 118 [.d (ar a), .ref 0 0] [(0, .var [.d (.int .i64 z)])] (.d (.bool (sgn z a))) [(0, .var [.d (.int .i64 z)])] 1 := by
  unfold ar
  by_cases h : a.sign = z
  · rw [show sgn z a = true from decide_eq_true h]
    refine SoundM.run (N := 8) (ks := [0]) Tryz.func118 rfl (by kernel_rfl) rfl rfl rfl (by exact argsA_2) fun X_ ν_ w_ => ?_
    refine goX @h ?_; try exact trivial
  · rw [show sgn z a = false from decide_eq_false h]
    refine SoundM.run (N := 8) (ks := [0]) Tryz.func118 rfl (by kernel_rfl) rfl rfl rfl (by exact argsA_2) fun X_ ν_ w_ => ?_
    refine goX @h ?_; try exact trivial
theorem pIndexS {z : Int} {al : List Ar} (ha : al.length ≤ 9223372036854775807) : SoundM Tryz.prog 117 [.d (.sl 2 (ars al)), .fn 118 [.ref 0 0]]
    [(0, .var [.d (.int .i64 z)])] (.d (.int .i64 (fidx (sgn z) al))) [(0, .var [.d (.int .i64 z)])] 1 := by
  refine SoundM.run (N := 19) (ks := [0]) Tryz.func117 rfl (by kernel_rfl) rfl rfl rfl (by exact argsA_2) fun X_ ν_ w_ => ?_
  refine goT ?_; try exact trivial
  refine WP_loopk (fun k : Nat => k ≤ al.length ∧ (al.take k).any (sgn z) = false) (fun k => [(0, .d (.sl 2 (ars al))), (1, .fn 118 [.ref 0 0]), (7, .d (.int .i64 al.length)), (8, .d (.int .i64 k))]) (fun k => [(0, .var [.d (.int .i64 z)])]) 1 (fun k => al.length - k) [0, 1, 7, 8] [0] 0 ⟨Nat.zero_le _, rfl⟩ rfl rfl (Nat.le_of_ble_eq_true rfl) (fun _ _ => rfl) (fun _ _ => rfl) fun k hk => ?_
  obtain ⟨hk1, hk2⟩ := hk
  by_cases hk3 : k < al.length
  · have cw := pStep1 (a := al[k]!) (z := z)
    unfold ar at cw
    cases hb : sgn z (al[k]!)
    · rw [hb] at cw
      have hst := any_step (p := sgn z) hk3 hk2 hb
      have c0_ := cw; refine goT ?_; try exact trivial
      refine ⟨k + 1, ⟨by omega, hst⟩, ?_, ?_, by omega⟩
      · simp (disch := omega) only [go_sem, keepL, Int.natCast_add, Int.cast_ofNat_Int]
      · simp (disch := omega) only [go_sem, keepL]
    · rw [hb] at cw
      have e := fidx_at (p := sgn z) hk3 hk2 hb
      rw [e]
      have c0_ := cw; refine goT ?_; try exact trivial
  · have hkl : k = al.length := by omega
    subst hkl
    rw [List.take_length] at hk2
    rw [fidx_none hk2]
    refine goT ?_; try exact trivial
def stepF (l : List Sta) (from_ z : Int) : Option Int :=
  if 0 ≤ from_ ∧ from_ < l.length then ((l[from_.toNat]!).arcs.find? (sgn z)).map (·.to) else none
def stepR : Option Int → D
  | some t => .tup [.int .i64 t, .bool true]
  | none => .tup [.int .i64 0, .bool false]
theorem fidx_find {α : Type} [Inhabited α] {p : α → Bool} {l : List α} (h : l.any p = true) : ∃ k : Nat, fidx p l = k ∧ k < l.length ∧ l.find? p = some (l[k]!) := by
  unfold fidx
  rw [if_pos h]
  obtain ⟨x, hx, hp⟩ := List.any_eq_true.1 h
  have hlt : l.findIdx p < l.length := List.findIdx_lt_length_of_exists ⟨x, hx, hp⟩
  refine ⟨_, rfl, hlt, ?_⟩
  rw [getElem!_pos l _ hlt, List.find?_eq_some_iff_getElem]
  exact ⟨List.findIdx_getElem (w := hlt), _, hlt, rfl, fun j hj => by simpa using List.not_of_lt_findIdx hj⟩
theorem pStep {l : List Sta} {f z : Int} (hl : StaOk l) : Sound Tryz.prog 67 [.sl 2 (stas l), .int .i64 f, .int .i64 z] (stepR (stepF l f z)) := by
  have hlen := hl.1
  by_cases h0 : f < 0
  · have e : stepF l f z = none := if_neg (by omega)
    rw [e]; unfold stepR
    refine Sound.run (N := 35) Tryz.func67 rfl (by kernel_rfl) rfl rfl rfl (by exact args0_3) fun X_ w_ => ?_
    refine goT ?_; try exact trivial
  by_cases h1 : (l.length : Int) ≤ f
  · have e : stepF l f z = none := if_neg (by omega)
    rw [e]; unfold stepR
    refine Sound.run (N := 35) Tryz.func67 rfl (by kernel_rfl) rfl rfl rfl (by exact args0_3) fun X_ w_ => ?_
    refine goT ?_; try exact trivial
  obtain ⟨k, rfl⟩ := Int.eq_ofNat_of_zero_le (by omega : 0 ≤ f)
  have hk : k < l.length := by omega
  have hak := hl.get hk
  have ci := pIndexS (z := z) (al := (l[k]!).arcs) hak
  have e : stepF l k z = ((l[k]!).arcs.find? (sgn z)).map (·.to) := by unfold stepF; rw [if_pos ⟨by omega, by omega⟩]; rfl
  rw [e]
  cases hany : (l[k]!).arcs.any (sgn z)
  · rw [fidx_none hany] at ci
    have e2 : (l[k]!).arcs.find? (sgn z) = none := by
      rw [List.find?_eq_none]
      intro x hx hp
      have := List.any_eq_true.2 ⟨x, hx, hp⟩
      rw [hany] at this; cases this
    rw [e2]; unfold stepR
    simp only [Option.map_none]
    refine Sound.run (N := 35) Tryz.func67 rfl (by kernel_rfl) rfl rfl rfl (by exact args0_3) fun X_ w_ => ?_
    have c0_ := ci; refine goT ?_; try exact trivial
  · obtain ⟨j, e1, hj, e2⟩ := fidx_find hany
    rw [e1] at ci
    rw [e2]; unfold stepR
    simp only [Option.map_some]
    refine Sound.run (N := 35) Tryz.func67 rfl (by kernel_rfl) rfl rfl rfl (by exact args0_3) fun X_ w_ => ?_
    have c0_ := ci; refine goT ?_; try exact trivial
def Out (out : List Int) : Heap := [(0, .var [.own 1 out.length]), (1, .row 3 1 (is out))]
theorem pTold1 {out : List Int} {k : Nat} (hk : k < out.length) : SoundM Tryz.prog 119 [.d (.int .i64 k), .ref 0 0] (Out out) (.d (.int .i64 (out[k]!))) (Out out) 2 := by
  unfold Out
  refine SoundM.run (N := 8) (ks := [0, 1]) Tryz.func119 rfl (by kernel_rfl) rfl rfl rfl (by exact argsA_2) fun X_ ν_ w_ => ?_
  refine goT ?_; try exact trivial
def arcsIn (s : Sta) (n : Nat) : Prop := ∀ a ∈ s.arcs, 0 ≤ a.to ∧ a.to < n
theorem arcsIn.get {s : Sta} {n : Nat} (h : arcsIn s n) {k : Nat} (hk : k < s.arcs.length) : 0 ≤ (s.arcs[k]!).to ∧ (s.arcs[k]!).to < n := by
  rw [getElem!_pos s.arcs k hk]; exact h _ (List.getElem_mem hk)
def many1 (out : List Int) (m : Int) (a : Ar) : Int := min 301 (m + out[a.to.toNat]!)
def manyF (s : Sta) (out : List Int) : Int := s.arcs.foldl (many1 out) (if s.final = true then 1 else 0)
theorem many1_in {out : List Int} (ho : ∀ z ∈ out, 0 ≤ z ∧ z ≤ 301) {m : Int} (hm : 0 ≤ m ∧ m ≤ 301) (a : Ar) : 0 ≤ many1 out m a ∧ many1 out m a ≤ 301 := by
  unfold many1
  have : 0 ≤ out[a.to.toNat]! := by
    by_cases h : a.to.toNat < out.length
    · rw [getElem!_pos out _ h]; exact (ho _ (List.getElem_mem h)).1
    · rw [List.getElem!_eq_getElem?_getD, List.getElem?_eq_none (by omega)]; decide
  omega
theorem many_fold {out : List Int} (ho : ∀ z ∈ out, 0 ≤ z ∧ z ≤ 301) : ∀ (l : List Ar) (m : Int), (0 ≤ m ∧ m ≤ 301) → 0 ≤ l.foldl (many1 out) m ∧ l.foldl (many1 out) m ≤ 301
  | [], m, h => h
  | a :: l, m, h => many_fold ho l _ (many1_in ho h a)
theorem foldl_take {α β : Type} [Inhabited α] (f : β → α → β) (b : β) {l : List α} {k : Nat} (h : k < l.length) : (l.take (k + 1)).foldl f b = f ((l.take k).foldl f b) (l[k]!) := by
  rw [atake_snoc h, List.foldl_append]; rfl
theorem pMany1 {s : Sta} {out : List Int} (ho : ∀ z ∈ out, 0 ≤ z ∧ z ≤ 301) (hs : arcsIn s out.length) (hn : s.arcs.length ≤ 9223372036854775807) (hout : out.length ≤ 1000000) : SoundM Tryz.prog 69 [.d (sta s), .fn 119 [.ref 0 0]] (Out out) (.d (.int .i64 (manyF s out))) (Out out) 2 := by
  have fin : ∀ (m0 : Int), (0 ≤ m0 ∧ m0 ≤ 301) → ∀ k, k ≤ s.arcs.length → 0 ≤ (s.arcs.take k).foldl (many1 out) m0 ∧ (s.arcs.take k).foldl (many1 out) m0 ≤ 301 := fun m0 h k _ => many_fold ho _ _ h
  unfold sta
  cases hf : s.final
  · have e : manyF s out = s.arcs.foldl (many1 out) 0 := by unfold manyF; rw [hf]; rfl
    rw [e]
    unfold Out
    refine SoundM.run (N := 25) (ks := [0, 1]) Tryz.func69 rfl (by kernel_rfl) rfl rfl rfl (by exact argsA_2) fun X_ ν_ w_ => ?_
    refine goT ?_; try exact trivial
    refine WP_loopk (fun k : Nat => k ≤ s.arcs.length) (fun k => [(1, .fn 119 [.ref 0 0]), (4, .d (.int .i64 ((s.arcs.take k).foldl (many1 out) 0))), (10, .d (.sl 2 (ars s.arcs))), (11, .d (.int .i64 s.arcs.length)), (12, .d (.int .i64 k))]) (fun k => [(0, .var [.own 1 out.length]), (1, .row 3 1 (is out))]) 2 (fun k => s.arcs.length - k) [1, 4, 10, 11, 12] [0, 1] 0 (Nat.zero_le _) rfl rfl (Nat.le_of_ble_eq_true rfl) (fun _ _ => rfl) (fun _ _ => rfl) fun k hk => ?_
    have hm := fin 0 (by omega) k hk
    by_cases hk3 : k < s.arcs.length
    · have hin := hs.get hk3
      have hst := foldl_take (many1 out) 0 hk3
      obtain ⟨t, ht⟩ := Int.eq_ofNat_of_zero_le hin.1
      have htl : t < out.length := by omega
      have cw := pTold1 (out := out) (k := t) htl
      have hv := ho (out[t]!) (by rw [getElem!_pos out t htl]; exact List.getElem_mem htl)
      have e1 : many1 out ((s.arcs.take k).foldl (many1 out) 0) (s.arcs[k]!) = min 301 ((s.arcs.take k).foldl (many1 out) 0 + out[t]!) := by unfold many1; rw [ht]; rfl
      rw [e1] at hst
      unfold Out at cw
      have c0_ := cw; refine goX (And.intro @ht @if_minI) ?_; try exact trivial
      refine ⟨k + 1, by omega, ?_, ?_, by omega⟩
      · simp (disch := omega) only [go_sem, keepL, Int.natCast_add, Int.cast_ofNat_Int, hst]
      · simp (disch := omega) only [go_sem, keepL]
    · have hkl : k = s.arcs.length := by omega
      subst hkl
      rw [List.take_length]
      refine goT ?_; try exact trivial
  · have e : manyF s out = s.arcs.foldl (many1 out) 1 := by unfold manyF; rw [hf]; rfl
    rw [e]
    unfold Out
    refine SoundM.run (N := 25) (ks := [0, 1]) Tryz.func69 rfl (by kernel_rfl) rfl rfl rfl (by exact argsA_2) fun X_ ν_ w_ => ?_
    refine goT ?_; try exact trivial
    refine WP_loopk (fun k : Nat => k ≤ s.arcs.length) (fun k => [(1, .fn 119 [.ref 0 0]), (4, .d (.int .i64 ((s.arcs.take k).foldl (many1 out) 1))), (10, .d (.sl 2 (ars s.arcs))), (11, .d (.int .i64 s.arcs.length)), (12, .d (.int .i64 k))]) (fun k => [(0, .var [.own 1 out.length]), (1, .row 3 1 (is out))]) 2 (fun k => s.arcs.length - k) [1, 4, 10, 11, 12] [0, 1] 0 (Nat.zero_le _) rfl rfl (Nat.le_of_ble_eq_true rfl) (fun _ _ => rfl) (fun _ _ => rfl) fun k hk => ?_
    have hm := fin 1 (by omega) k hk
    by_cases hk3 : k < s.arcs.length
    · have hin := hs.get hk3
      have hst := foldl_take (many1 out) 1 hk3
      obtain ⟨t, ht⟩ := Int.eq_ofNat_of_zero_le hin.1
      have htl : t < out.length := by omega
      have cw := pTold1 (out := out) (k := t) htl
      have hv := ho (out[t]!) (by rw [getElem!_pos out t htl]; exact List.getElem_mem htl)
      have e1 : many1 out ((s.arcs.take k).foldl (many1 out) 1) (s.arcs[k]!) = min 301 ((s.arcs.take k).foldl (many1 out) 1 + out[t]!) := by unfold many1; rw [ht]; rfl
      rw [e1] at hst
      unfold Out at cw
      have c0_ := cw; refine goX (And.intro @ht @if_minI) ?_; try exact trivial
      refine ⟨k + 1, by omega, ?_, ?_, by omega⟩
      · simp (disch := omega) only [go_sem, keepL, Int.natCast_add, Int.cast_ofNat_Int, hst]
      · simp (disch := omega) only [go_sem, keepL]
    · have hkl : k = s.arcs.length := by omega
      subst hkl
      rw [List.take_length]
      refine goT ?_; try exact trivial
end Go.Eng.Tryz
set_option linter.unusedVariables false
set_option linter.unusedSimpArgs false
namespace Go.Eng.Tryz
open Go Go.Eng Go.Proofs Go.RowKit
def leadF (l : List Sta) : Int → List Int → Option Int
  | at_, [] => some at_
  | at_, z :: w => match stepF l at_ z with | some t => leadF l t w | none => none
theorem arcsOk_mem {i n : Int} : ∀ {l : List Ar} {last : Int}, arcsOk i n last l = true → ∀ a ∈ l, i < a.to ∧ a.to < n ∧ gsign a.sign = true ∧ last < a.sign
  | [], _, _, a, h => by cases h
  | b :: l, last, h, a, ha => by
    simp only [arcsOk, Bool.and_eq_true] at h
    have hb := h.1
    simp only [arcOk, Bool.and_eq_true, decide_eq_true_eq] at hb
    rcases List.mem_cons.1 ha with e | e
    · subst e; exact ⟨hb.1.2, hb.2, hb.1.1.2, hb.1.1.1⟩
    · obtain ⟨h1, h2, h3, h4⟩ := arcsOk_mem h.2 a e
      exact ⟨h1, h2, h3, by omega⟩
theorem achk_iff {l : List Sta} : achk l = true ↔ statesOk l l.length = true ∧ 0 < l.length ∧ l.length ≤ 6001 := by
  unfold achk; simp [Bool.and_eq_true, decide_eq_true_eq]
theorem achk_arc {l : List Sta} (h : achk l = true) {k : Nat} (hk : k < l.length) : ∀ a ∈ (l[k]!).arcs, (k : Int) < a.to ∧ a.to < l.length ∧ gsign a.sign = true := fun a ha => by
  have := arcsOk_mem (statesOk_le (achk_iff.1 h).1 hk) a ha
  exact ⟨this.1, this.2.1, this.2.2.1⟩
theorem stepF_in {l : List Sta} (h : achk l = true) {f z t : Int} (hs : stepF l f z = some t) : 0 ≤ f ∧ f < l.length ∧ f < t ∧ t < l.length := by
  unfold stepF at hs
  split at hs
  · rename_i hf
    obtain ⟨a, ha, rfl⟩ := Option.map_eq_some_iff.1 hs
    have hm := List.mem_of_find?_eq_some ha
    obtain ⟨k, rfl⟩ := Int.eq_ofNat_of_zero_le hf.1
    have := achk_arc h (k := k) (by omega) a hm
    exact ⟨hf.1, hf.2, by simpa using this.1, this.2.1⟩
  · cases hs
theorem leadF_in {l : List Sta} (h : achk l = true) : ∀ {w : List Int} {f t : Int}, 0 ≤ f → f < l.length → leadF l f w = some t → f ≤ t ∧ t < l.length ∧ (w ≠ [] → f < t)
  | [], f, t, h0, h1, hs => by simp only [leadF, Option.some.injEq] at hs; subst hs; exact ⟨Int.le_refl _, h1, fun h => absurd rfl h⟩
  | z :: w, f, t, h0, h1, hs => by
    simp only [leadF] at hs
    split at hs
    · rename_i u hu
      obtain ⟨_, _, h2, h3⟩ := stepF_in h hu
      obtain ⟨h4, h5, _⟩ := leadF_in h (by omega) h3 hs
      exact ⟨by omega, h5, fun _ => by omega⟩
    · cases hs
theorem leadF_app (l : List Sta) : ∀ (a b : List Int) (f : Int), leadF l f (a ++ b) = match leadF l f a with | some t => leadF l t b | none => none
  | [], b, f => rfl
  | z :: a, b, f => by
    simp only [List.cons_append, leadF]
    cases stepF l f z with
    | none => rfl
    | some t => exact leadF_app l a b t
theorem leadF_take {l : List Sta} {f : Int} {w : List Int} {k : Nat} (h : k < w.length) : leadF l f (w.take (k + 1)) = match leadF l f (w.take k) with | some t => stepF l t (w[k]!) | none => none := by
  rw [atake_snoc h, leadF_app]
  cases leadF l f (w.take k) with
  | none => rfl
  | some t => simp only [leadF]; cases stepF l t (w[k]!) <;> rfl
theorem leadF_none {l : List Sta} {f : Int} {w : List Int} {k : Nat} (h : leadF l f (w.take k) = none) : leadF l f w = none := by
  have := leadF_app l (w.take k) (w.drop k) f
  rw [List.take_append_drop, h] at this
  exact this
end Go.Eng.Tryz

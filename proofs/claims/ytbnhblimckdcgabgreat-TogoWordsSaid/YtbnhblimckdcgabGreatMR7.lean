/- Steps: at a place, and at each; the document's answer. (and what stands behind it: texts laid together) -/
import Derived.Test.YtbnhblimckdcgabGreatMG4
import Derived.Test.YtbnhblimckdcgabGreatMR6
import Derived.Test.YtbnhblimckdcgabGreatMR1
import Derived.Test.YtbnhblimckdcgabGreatMR2
set_option linter.unusedVariables false
set_option linter.unusedSimpArgs false
namespace Go.Eng.Tryz
open Go Go.Eng Go.Proofs Go.RowKit
attribute [local go_sem] tys
attribute [local go_sem] is_len is_get rs_len rs_get ses_len ses_get ses_snoc dels
theorem fit_lens {r : Ru} (h : fit r = true) : r.left.length ≤ 8 ∧ r.right.length ≤ 8 := by
  simp only [fit, Bool.and_eq_true] at h
  obtain ⟨h1, h2, _, _⟩ := rok_iff.1 h.1.1
  exact ⟨sok_len h1, sok_len h2⟩
theorem cok_rules {c : Co} (h : cok c = true) : c.rules.length ≤ 200 ∧ ∀ r ∈ c.rules, r.left.length ≤ 8 ∧ r.right.length ≤ 8 := by
  obtain ⟨_, h2, h3, _⟩ := cok_iff.1 h
  exact ⟨h2, fun r hr => fit_lens (List.all_eq_true.1 h3 r hr)⟩
set_option maxHeartbeats 4000000 in
set_option maxRecDepth 10000 in
theorem pWrong {c : Co} {q : List Int} (hc : c.ok) (hq : q.length ≤ 9223372036854775807) : Sound Tryz.prog 53 [co c, .sl 1 (is q)] (.bool (!(decide (q.length ≤ 20) && cok c))) := by
  have cc := sCheck hc
  unfold co at cc ⊢
  by_cases h : q.length ≤ 20
  · have e : (!(decide (q.length ≤ 20) && cok c)) = !cok c := by simp [h]
    refine Sound.run (N := 13) Tryz.func53 rfl (by kernel_rfl) rfl rfl rfl (by first | exact args0_0 | exact args0_1 | exact args0_2 | exact args0_3 | exact args0_4 | exact args0_5 | exact args0_6) fun X_ w_ => ?_
    have c0_ := cc; refine goX @e ?_; first | exact trivial | skip
  · have e : (!(decide (q.length ≤ 20) && cok c)) = true := by simp [h]
    refine Sound.run (N := 13) Tryz.func53 rfl (by kernel_rfl) rfl rfl rfl (by first | exact args0_0 | exact args0_1 | exact args0_2 | exact args0_3 | exact args0_4 | exact args0_5 | exact args0_6) fun X_ w_ => ?_
    have c0_ := cc; refine goX @e ?_; first | exact trivial | skip
/-- May it be asked? -/
def may (c : Co) (q : List Int) : Bool := decide (q.length ≤ 20) && cok c
theorem may_iff {c : Co} {q : List Int} : may c q = true ↔ q.length ≤ 20 ∧ cok c = true := by simp [may]
def stepsAt (c : Co) (q : List Int) (i : Int) : List Se := if may c q = true ∧ 0 ≤ i ∧ i ≤ q.length then stAt c (q.drop i.toNat) else []
def sss (l : List (List Se)) : List D := l.map fun x => .sl 4 (ses x)
theorem sss_len {l : List (List Se)} : (sss l).length = l.length := by simp [sss]
theorem sss_get {l : List (List Se)} {k : Nat} (h : k < l.length) : (sss l)[k]? = some (.sl 4 (ses (l[k]!))) := by simp [sss, List.getElem?_eq_getElem h, getElem!_pos l k h]
theorem sss_snoc {l : List (List Se)} {x : List Se} : sss l ++ [.sl 4 (ses x)] = sss (l ++ [x]) := by simp [sss]
attribute [local go_sem] sss_len sss_get sss_snoc
def allF (c : Co) (q : List Int) (n : Nat) : List (List Se) := (List.range n).map fun i => stAt c (q.drop i)
theorem allF_len (c : Co) (q : List Int) (n : Nat) : (allF c q n).length = n := by simp [allF]
theorem allF_step (c : Co) (q : List Int) (n : Nat) : allF c q (n + 1) = allF c q n ++ [stAt c (q.drop n)] := by simp [allF, List.range_succ]
def stepsAll (c : Co) (q : List Int) : List (List Se) := if may c q = true then allF c q (q.length + 1) else []
set_option maxHeartbeats 4000000 in
set_option maxRecDepth 10000 in
theorem pAll {c : Co} {q : List Int} (hc : c.ok) (hq : q.length ≤ 9223372036854775807) : Sound Tryz.prog 32 [co c, .sl 1 (is q)] (.sl 1 (sss (stepsAll c q))) := by
  have cw := pWrong hc hq
  rw [show (!(decide (q.length ≤ 20) && cok c)) = !may c q from rfl] at cw
  cases hm : may c q
  · have e : stepsAll c q = [] := if_neg (by simp [hm])
    rw [e]
    rw [hm] at cw
    refine Sound.wk (r := .nils) ?_ (Wks.refl _) (.nil 1)
    unfold co at cw ⊢
    refine Sound.run (N := 24) Tryz.func32 rfl (by kernel_rfl) rfl rfl rfl (by first | exact args0_0 | exact args0_1 | exact args0_2 | exact args0_3 | exact args0_4 | exact args0_5 | exact args0_6) fun X_ w_ => ?_
    have c0_ := cw; refine goT ?_; first | exact trivial | skip
  · obtain ⟨hl, hk⟩ := may_iff.1 hm
    obtain ⟨k1, k2⟩ := cok_rules hk
    have e : stepsAll c q = allF c q (q.length + 1) := if_pos hm
    rw [e]
    rw [hm] at cw
    have co' := fun (n : Nat) (hn : n ≤ q.length) => pOfS (q := q) (i := n) hc (by omega) hn (by omega) (fun r hr => Nat.le_trans (k2 r hr).2 (by decide))
    unfold co at cw co' ⊢
    refine Sound.run (N := 24) Tryz.func32 rfl (by kernel_rfl) rfl rfl rfl (by first | exact args0_0 | exact args0_1 | exact args0_2 | exact args0_3 | exact args0_4 | exact args0_5 | exact args0_6) fun X_ w_ => ?_
    have c0_ := cw; refine goT ?_; first | exact trivial | skip
    refine WP_own 4 20000 70 1 rfl (by decide) (Nat.le_of_ble_eq_true rfl) ?_
    refine WP_loopk (fun k : Nat => k ≤ q.length + 1) (fun k => [(1, .d (.sl 1 (is q))), (2, .ref 0 0), (4, .own 20000 (allF c q k).length), (11, .d (.int .i64 ((q.length : Int) + 1))), (12, .d (.int .i64 k))]) (fun k => [(0, .var [.d (.int .u64 c.more), .d (.int .u64 c.less), .d (.int .u64 c.other), .d (.int .u64 c.turned), .d (.sl 3 (rs c.rules))]), (20000, .row 70 1 (sss (allF c q k)))]) 20001 (fun k => q.length + 1 - k) [1, 2, 4, 11, 12] [0, 20000] 0 (Nat.zero_le _) rfl rfl (Nat.zero_le _) (fun _ _ => rfl) (fun _ _ => rfl) fun k hk => ?_
    have al := allF_len c q k
    by_cases hk' : k < q.length + 1
    · have ck := co' k (by omega)
      have hst := allF_step c q k
      have c0_ := ck; refine goX @al ?_; first | exact trivial | skip
      refine ⟨k + 1, by omega, ?_, ?_, by omega⟩
      · simp (disch := omega) only [go_sem, keepL, Int.natCast_add, Int.cast_ofNat_Int, hst, al, List.length_append, List.length_cons, List.length_nil]
      · simp (disch := omega) only [go_sem, keepL, hst]
    · have hkl : k = q.length + 1 := by omega
      subst hkl
      refine goX @al ?_; first | exact trivial | skip
end Go.Eng.Tryz
set_option linter.unusedVariables false
set_option linter.unusedSimpArgs false
namespace Go.Eng.Tryz
open Go Go.Eng Go.Proofs Go.RowKit
attribute [local go_sem] evFold rnE ksE roundE frz frzs List.set_cons_zero List.set_cons_succ List.zip_cons_cons List.zip_nil_right List.foldl_cons List.foldl_nil D.flat rns AV.rn HO.rn AV.ks kss HO.ks sg dedup objKs reach passE fresh List.filter fnOf evOp opnd lk v2d v2ds just evBin intBin nilBin isNil strBin evUn evLoad ldD ldA evStore evField evIndex evBuild fillA evBuildSlice evBuildSliceX evBuildSliceT isOwn1 evAppendTX evAppendTT evAppend evAppendClip elems evMake evSlice evSliceO evSliceX evSliceY evViewV evStoreX evStoreT stT stI evCopyT evAppendT evAppendTD ldT ldI Tb.inn Tb.ilen Tb.nilAt Tb.ini D.put evCut evView evCopy evAppendV evAgg evMakeMap evLookup evMapUpd evRange evEntry cellsD AV.kb splice List.getLast?_append resM resAs resA resD keepL List.replicate_zero List.take_length ofInt evLen evMin evMax evConv evNil evExtract evBuiltin toD toDs allD pack splice D.comps AV.comps AV.sto D.cell D.rebuild inOrder allFlat del put setE eff gd gslot kills Option.map_some Option.map_none Option.bind_some Option.isSome_some List.map_cons List.map_nil List.append_nil List.nil_append List.cons_append List.length_cons List.length_nil List.length_map List.length_append List.take_zero List.take_succ_cons List.take_nil List.drop_zero List.drop_succ_cons List.drop_nil List.getElem?_cons_zero List.getElem?_cons_succ List.getElem?_map List.all_cons List.all_nil List.mem_cons List.not_mem_nil List.elem_cons List.elem_nil Bool.and_true Bool.true_and Bool.and_self Bool.not_true Bool.not_false Bool.or_true Bool.or_false and_self and_true true_and or_false false_or or_true true_or not_false_eq_true not_true_eq_false if_true if_false decide_true decide_false decide_eq_true_eq Int.toNat_natCast Int.toNat_zero beq_self_eq_true bne_self_eq_false Bool.false_eq_true Nat.add_zero Nat.zero_add tys room le_i lt_i eq_n le_n lt_n len0 gdE bb_tf bb_ft mapP arrL if_min tdiv_nn tmod_nn us_len us_get wrap_i64 wrap_u64 dec_lt dec_nlt dec_le dec_nle beq_t beq_f bne_t bne_f get_lt gt_iff_lt ge_iff_le
attribute [local go_sem ↓] map_P reduceIte
attribute [local go_sem] reduceCtorEq Nat.reduceEqDiff Nat.reduceAdd Nat.reduceSub Nat.reduceMul Nat.reduceLeDiff Nat.reduceLT Nat.reduceBEq Nat.reduceBNe Int.reduceToNat Int.reduceLT Int.reduceLE Int.reduceEq Int.reduceAdd Int.reduceSub Int.reduceNeg Int.reduceBEq Int.reduceBNe
attribute [local go_sem] is_len is_get rs_len rs_get ses_len ses_get ses_snoc dels is_take is_drop
theorem ses_app {l : List Se} {e1 e2 e3 : Int} {p1 p2 p3 : List Int} {a1 a2 a3 : Bool} {c1 c2 c3 : Int} :
    ses l ++ [.agg [.int .i64 e1, .sl 1 (is p1), .bool a1, .int .u64 c1], .agg [.int .i64 e2, .sl 1 (is p2), .bool a2, .int .u64 c2], .agg [.int .i64 e3, .sl 1 (is p3), .bool a3, .int .u64 c3]] = ses (l ++ [⟨e1, p1, a1, c1⟩, ⟨e2, p2, a2, c2⟩, ⟨e3, p3, a3, c3⟩]) := by simp [ses, se]
theorem drop_facts {q : List Int} {i : Nat} : (q.drop i = [] ∧ ¬ i < q.length) ∨ (∃ x, q.drop i = [x] ∧ i < q.length ∧ ¬ i + 1 < q.length ∧ q[i]! = x) ∨ ∃ x y t, q.drop i = x :: y :: t ∧ i + 1 < q.length ∧ q[i]! = x ∧ q[i + 1]! = y := by
  by_cases h : i < q.length
  · by_cases h2 : i + 1 < q.length
    · refine .inr (.inr ⟨q[i]!, q[i + 1]!, q.drop (i + 2), ?_, h2, rfl, rfl⟩)
      rw [drop_at h, drop_at h2]
    · refine .inr (.inl ⟨q[i]!, ?_, h, h2, rfl⟩)
      rw [drop_at h, List.drop_eq_nil_of_le (by omega)]
  · exact .inl ⟨List.drop_eq_nil_of_le (by omega), h⟩
theorem pre_snoc {pre : List D} {l : List Se} {e : Int} {p : List Int} {a : Bool} {c : Int} : pre ++ ses l ++ [.agg [.int .i64 e, .sl 1 (is p), .bool a, .int .u64 c]] = pre ++ ses (l ++ [⟨e, p, a, c⟩]) := by simp [ses, se]
attribute [local go_sem] pre_snoc
theorem Wks.app {a b c d : List D} (h : Wks a b) (k : Wks c d) : Wks (a ++ c) (b ++ d) := by
  induction a generalizing b with
  | nil => cases h; exact k
  | cons x a ih => cases h with | cons h t => exact .cons h (ih t)
theorem ses_cat {a b : List Se} : ses (a ++ b) = ses a ++ ses b := by simp [ses]
theorem wk_step {s : Se} {p : D} (h : Wk p (.sl 1 (is s.put))) : Wk (.agg [.int .i64 s.eat, p, .bool s.any, .int .u64 s.cost]) (se s) := .agg (.cons (.refl _) (.cons h (.cons (.refl _) (.cons (.refl _) .nil))))
end Go.Eng.Tryz
set_option linter.unusedVariables false
set_option linter.unusedSimpArgs false
namespace Go.Eng.Tryz
open Go Go.Eng Go.Proofs Go.RowKit
attribute [local go_sem] evFold rnE ksE roundE frz frzs List.set_cons_zero List.set_cons_succ List.zip_cons_cons List.zip_nil_right List.foldl_cons List.foldl_nil D.flat rns AV.rn HO.rn AV.ks kss HO.ks sg dedup objKs reach passE fresh List.filter fnOf evOp opnd lk v2d v2ds just evBin intBin nilBin isNil strBin evUn evLoad ldD ldA evStore evField evIndex evBuild fillA evBuildSlice evBuildSliceX evBuildSliceT isOwn1 evAppendTX evAppendTT evAppend evAppendClip elems evMake evSlice evSliceO evSliceX evSliceY evViewV evStoreX evStoreT stT stI evCopyT evAppendT evAppendTD ldT ldI Tb.inn Tb.ilen Tb.nilAt Tb.ini D.put evCut evView evCopy evAppendV evAgg evMakeMap evLookup evMapUpd evRange evEntry cellsD AV.kb splice List.getLast?_append resM resAs resA resD keepL List.replicate_zero List.take_length ofInt evLen evMin evMax evConv evNil evExtract evBuiltin toD toDs allD pack splice D.comps AV.comps AV.sto D.cell D.rebuild inOrder allFlat del put setE eff gd gslot kills Option.map_some Option.map_none Option.bind_some Option.isSome_some List.map_cons List.map_nil List.append_nil List.nil_append List.cons_append List.length_cons List.length_nil List.length_map List.length_append List.take_zero List.take_succ_cons List.take_nil List.drop_zero List.drop_succ_cons List.drop_nil List.getElem?_cons_zero List.getElem?_cons_succ List.getElem?_map List.all_cons List.all_nil List.mem_cons List.not_mem_nil List.elem_cons List.elem_nil Bool.and_true Bool.true_and Bool.and_self Bool.not_true Bool.not_false Bool.or_true Bool.or_false and_self and_true true_and or_false false_or or_true true_or not_false_eq_true not_true_eq_false if_true if_false decide_true decide_false decide_eq_true_eq Int.toNat_natCast Int.toNat_zero beq_self_eq_true bne_self_eq_false Bool.false_eq_true Nat.add_zero Nat.zero_add tys room le_i lt_i eq_n le_n lt_n len0 gdE bb_tf bb_ft mapP arrL if_min tdiv_nn tmod_nn us_len us_get wrap_i64 wrap_u64 dec_lt dec_nlt dec_le dec_nle beq_t beq_f bne_t bne_f get_lt gt_iff_lt ge_iff_le
attribute [local go_sem ↓] map_P reduceIte
attribute [local go_sem] reduceCtorEq Nat.reduceEqDiff Nat.reduceAdd Nat.reduceSub Nat.reduceMul Nat.reduceLeDiff Nat.reduceLT Nat.reduceBEq Nat.reduceBNe Int.reduceToNat Int.reduceLT Int.reduceLE Int.reduceEq Int.reduceAdd Int.reduceSub Int.reduceNeg Int.reduceBEq Int.reduceBNe
attribute [local go_sem] is_len is_get rs_len rs_get ses_len ses_get ses_snoc sss_len sss_get sss_snoc dels
/-- Lists of steps that hold together. -/
def SesOk (l : List Se) : Prop := ∀ s ∈ l, s.put.length ≤ 9223372036854775807
theorem SesOk.get {l : List Se} (h : SesOk l) {k : Nat} (hk : k < l.length) : (l[k]!).put.length ≤ 9223372036854775807 := by
  rw [getElem!_pos l k hk]; exact h _ (List.getElem_mem hk)
theorem stake {a b : List Se} {k : Nat} (hw : a.take k = b.take k) (h1 : k < a.length) (h2 : k < b.length) (h : a[k]! = b[k]!) : a.take (k + 1) = b.take (k + 1) := by
  rw [List.take_add_one, List.take_add_one, hw, List.getElem?_eq_getElem h1, List.getElem?_eq_getElem h2, ← getElem!_pos a k h1, ← getElem!_pos b k h2, h]
def fewS (c : Co) (q : List Int) : Bool := fewR c.rules 300 && decide ((q.length : Int) ≤ 100)
theorem fewS_iff {c : Co} {q : List Int} : fewS c q = true ↔ fewR c.rules 300 = true ∧ q.length ≤ 100 := by simp only [fewS, Bool.and_eq_true, decide_eq_true_eq]; constructor <;> rintro ⟨h1, h2⟩ <;> exact ⟨h1, by omega⟩
end Go.Eng.Tryz
set_option linter.unusedVariables false
set_option linter.unusedSimpArgs false
namespace Go.Eng.Tryz
open Go Go.Eng Go.Proofs Go.RowKit
attribute [local go_sem] tys
def cadd (a b : Int) : Int := if a + b ≤ 18446744073709551615 then a + b else 18446744073709551615
theorem U_cadd {a b : Int} (ha : U a) (hb : U b) : U (cadd a b) := by
  unfold U cadd at *
  split <;> omega
theorem add64 {a b c : Int} (ha : U a) (hb : U b) (h0 : 0 ≤ c) (h1 : c ≤ 1) : Sound Tryz.prog 55 [.int .u64 a, .int .u64 b, .int .u64 c] (.tup [.int .u64 ((a + b + c) % 18446744073709551616), .int .u64 ((a + b + c) / 18446744073709551616)]) := by
  refine Sound.ext Tryz.func55 (by kernel_rfl) (by kernel_rfl) (by kernel_rfl) (e := add64Entry) (by kernel_rfl) fun w M vs hl hv => ?_
  match vs, hl with
  | [x, y, z], _ =>
    have hx := hv 0 _ _ rfl rfl
    have hy := hv 1 _ _ rfl rfl
    have hz := hv 2 _ _ rfl rfl
    cases hx; cases hy; cases hz
    exact ⟨_, run_add64 a b c ha.1 hb.1 h0 h1 w, .tup rfl fun i d v h1 h2 => by
      match i with
      | 0 => simp at h1 h2; subst h1; subst h2; constructor
      | 1 => simp at h1 h2; subst h1; subst h2; constructor
      | (i + 2) => simp at h1⟩
set_option maxRecDepth 10000 in
theorem costAdd {a b : Int} (ha : U a) (hb : U b) : Sound Tryz.prog 36 [.int .u64 a, .int .u64 b] (.int .u64 (cadd a b)) := by
  have ha' := ha
  have hb' := hb
  have c := add64 ha hb (c := 0) (by decide) (by decide)
  unfold U at ha' hb'
  by_cases h : a + b ≤ 18446744073709551615
  · have e : cadd a b = a + b := if_pos h
    have e1 : (a + b + 0) % 18446744073709551616 = a + b := by omega
    have e2 : (a + b + 0) / 18446744073709551616 = 0 := by omega
    rw [e1, e2] at c
    rw [e]
    refine Sound.run (N := 16) Tryz.func36 rfl (by kernel_rfl) rfl rfl rfl (by first | exact args0_0 | exact args0_1 | exact args0_2 | exact args0_3 | exact args0_4 | exact args0_5 | exact args0_6) fun X_ w_ => ?_
    have c0_ := c; refine goT ?_; first | exact trivial | skip
  · have e : cadd a b = 18446744073709551615 := if_neg h
    have e2 : (a + b + 0) / 18446744073709551616 = 1 := by omega
    rw [e2] at c
    rw [e]
    refine Sound.run (N := 16) Tryz.func36 rfl (by kernel_rfl) rfl rfl rfl (by first | exact args0_0 | exact args0_1 | exact args0_2 | exact args0_3 | exact args0_4 | exact args0_5 | exact args0_6) fun X_ w_ => ?_
    have c0_ := c; refine goT ?_; first | exact trivial | skip
theorem utake_fold {β : Type} (f : β → Int → β) (a : β) (l : List Int) {k : Nat} (h : k < l.length) : (l.take (k + 1)).foldl f a = f ((l.take k).foldl f a) (l[k]!) := by
  rw [List.take_add_one, List.foldl_append, List.getElem?_eq_getElem h, getElem!_pos l k h]
  rfl
theorem U_take {l : List Int} (h : ∀ z ∈ l, U z) {k : Nat} : ∀ z ∈ l.take k, U z := fun z hz => h z (List.mem_of_mem_take hz)
def cleast (l : List Int) : Int := l.foldl min 18446744073709551615
theorem U_lfold {l : List Int} : ∀ {a : Int}, U a → (∀ z ∈ l, U z) → U (l.foldl min a) := by
  induction l with
  | nil => intro a ha _; exact ha
  | cons x l ih => intro a ha h; exact ih (by have := h x (by simp); unfold U at *; omega) fun z hz => h z (by simp [hz])
theorem U_least {l : List Int} (h : ∀ z ∈ l, U z) : U (cleast l) := U_lfold ⟨by decide, by decide⟩ h
theorem if_minI {a b : Int} : (if b < a then b else a) = min a b := by split <;> omega
set_option maxRecDepth 10000 in
theorem costLeast {l : List Int} (hl : ∀ z ∈ l, U z) (hlen : l.length ≤ 9223372036854775807) : Sound Tryz.prog 35 [.sl 1 (us l)] (.int .u64 (cleast l)) := by
  refine Sound.run (N := 17) Tryz.func35 rfl (by kernel_rfl) rfl rfl rfl (by first | exact args0_0 | exact args0_1 | exact args0_2 | exact args0_3 | exact args0_4 | exact args0_5 | exact args0_6) fun X_ w_ => ?_
  refine goT ?_; first | exact trivial | skip
  refine WP_loopk (fun k : Nat => k ≤ l.length) (fun k => [(6, .d (.sl 1 (us l))), (3, .d (.int .u64 ((l.take k).foldl min 18446744073709551615))), (7, .d (.int .i64 l.length)), (8, .d (.int .i64 k))]) (fun _ => []) 0 (fun k => l.length - k) [6, 3, 7, 8] [] 0 (Nat.zero_le _) rfl rfl (Nat.le_refl _) (fun _ _ => rfl) (fun _ _ => rfl) fun k hk => ?_
  have hU : U ((l.take k).foldl min 18446744073709551615) := U_lfold ⟨by decide, by decide⟩ (U_take hl)
  by_cases hk' : k < l.length
  · have e := utake_fold min 18446744073709551615 l hk'
    refine goX @if_minI ?_; first | exact trivial | skip
    refine ⟨k + 1, by omega, ?_, rfl, by omega⟩
    simp (disch := omega) only [go_sem, keepL, Int.natCast_add, Int.cast_ofNat_Int, e, if_minI]
  · have hk' : k = l.length := by omega
    subst hk'
    rw [List.take_length, show l.foldl min 18446744073709551615 = cleast l from rfl]
    refine goT ?_; first | exact trivial | skip
/-- The lesser of two. -/
theorem costLeast2 {a b : Int} (ha : U a) (hb : U b) : Sound Tryz.prog 35 [.sl 1 [.int .u64 a, .int .u64 b]] (.int .u64 (min a b)) := by
  have e : cleast [a, b] = min a b := by unfold U at *; simp only [cleast, List.foldl_cons, List.foldl_nil]; omega
  have := costLeast (l := [a, b]) (fun z hz => by simp at hz; rcases hz with rfl | rfl; exact ha; exact hb) (by simp)
  rw [e] at this
  exact this
theorem u_take {a b : List Int} {k : Nat} (hw : a.take k = b.take k) (h1 : k < a.length) (h2 : k < b.length) (h : a[k]! = b[k]!) : a.take (k + 1) = b.take (k + 1) := by
  rw [List.take_add_one, List.take_add_one, hw, List.getElem?_eq_getElem h1, List.getElem?_eq_getElem h2, ← getElem!_pos a k h1, ← getElem!_pos b k h2, h]
end Go.Eng.Tryz

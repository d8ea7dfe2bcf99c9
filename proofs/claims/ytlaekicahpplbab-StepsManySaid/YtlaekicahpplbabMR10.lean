/- Steps: of a place, in memory of their own. (and what stands behind it: texts laid together) -/
import Derived.Test.YtlaekicahpplbabMG3
import Derived.Test.YtlaekicahpplbabMR9

/- Steps: of a place, in memory of their own. -/
set_option linter.unusedVariables false
set_option linter.unusedSimpArgs false
namespace Go.Eng.Try
open Go Go.Eng Go.Proofs Go.RowKit
attribute [local go_sem] evFold rnE ksE roundE frz frzs List.set_cons_zero List.set_cons_succ List.zip_cons_cons List.zip_nil_right List.foldl_cons List.foldl_nil D.flat rns AV.rn HO.rn AV.ks kss HO.ks sg dedup objKs reach passE fresh List.filter fnOf evOp opnd lk v2d v2ds just evBin intBin nilBin isNil strBin evUn evLoad ldD ldA evStore evField evIndex evBuild fillA evBuildSlice evAppend evAppendClip elems evMake evSlice evSliceO evCut evView evCopy evAppendV evAgg evMakeMap evLookup evMapUpd evRange evEntry cellsD AV.kb splice List.getLast?_append resM resAs resA resD keepL List.replicate_zero List.take_length ofInt evLen evMin evMax evConv evNil evExtract evBuiltin toD toDs allD pack splice D.comps AV.comps AV.sto D.cell D.rebuild inOrder allFlat del put setE eff gd gslot kills Option.map_some Option.map_none Option.bind_some Option.isSome_some List.map_cons List.map_nil List.append_nil List.nil_append List.cons_append List.length_cons List.length_nil List.length_map List.length_append List.take_zero List.take_succ_cons List.take_nil List.drop_zero List.drop_succ_cons List.drop_nil List.getElem?_cons_zero List.getElem?_cons_succ List.getElem?_map List.all_cons List.all_nil List.mem_cons List.not_mem_nil List.elem_cons List.elem_nil Bool.and_true Bool.true_and Bool.and_self Bool.not_true Bool.not_false Bool.or_true Bool.or_false and_self and_true true_and or_false false_or or_true true_or not_false_eq_true not_true_eq_false if_true if_false decide_true decide_false decide_eq_true_eq Int.toNat_natCast Int.toNat_zero beq_self_eq_true bne_self_eq_false Bool.false_eq_true Nat.add_zero Nat.zero_add tys room le_i lt_i eq_n le_n lt_n len0 gdE bb_tf bb_ft mapP arrL if_min tdiv_nn tmod_nn us_len us_get wrap_i64 wrap_u64 dec_lt dec_nlt dec_le dec_nle beq_t beq_f bne_t bne_f get_lt gt_iff_lt ge_iff_le
attribute [local go_sem ↓] map_P reduceIte
attribute [local go_sem] reduceCtorEq Nat.reduceEqDiff Nat.reduceAdd Nat.reduceSub Nat.reduceMul Nat.reduceLeDiff Nat.reduceLT Nat.reduceBEq Nat.reduceBNe Int.reduceToNat Int.reduceLT Int.reduceLE Int.reduceEq Int.reduceAdd Int.reduceSub Int.reduceNeg Int.reduceBEq Int.reduceBNe
attribute [local go_sem] is_len is_get rs_len rs_get ses_len ses_get ses_snoc dels
set_option maxHeartbeats 4000000 in
set_option maxRecDepth 10000 in
theorem pMay {c : Co} {q : List Int} {i : Int} : SoundM Try.prog 73 [.d (co c), .d (.sl 1 (is q)), .d (.int .i64 i)] []
    (.fn 93 [.dref [.sl 1 (is q)], .dref [.int .i64 i], .dref [.int .u64 c.more, .int .u64 c.less, .int .u64 c.other, .int .u64 c.turned, .sl 3 (rs c.rules)]]) [] 0 := by
  have h : SoundM Try.prog 73 [.d (co c), .d (.sl 1 (is q)), .d (.int .i64 i)] [] (.fn 93 [.ref 1 0, .ref 2 0, .ref 0 0])
      [(0, .var [.d (.int .u64 c.more), .d (.int .u64 c.less), .d (.int .u64 c.other), .d (.int .u64 c.turned), .d (.sl 3 (rs c.rules))]), (1, .var [.d (.sl 1 (is q))]), (2, .var [.d (.int .i64 i)])] 0 := by
    unfold co
    refine SoundM.run (N := 8) (ks := [0, 1, 2]) Try.func73 rfl (by kernel_rfl) rfl rfl rfl (by first | exact argsA_0 | exact argsA_1 | exact argsA_2 | exact argsA_3 | exact argsA_4 | exact argsA_5 | exact argsA_6) fun X_ ν_ w_ => ?_
    refine goT ?_; first | exact trivial | skip
  exact h.freeze rfl
set_option maxHeartbeats 16000000 in
set_option maxRecDepth 10000 in
theorem pOfS {c : Co} {q : List Int} {i : Nat} (hc : c.ok) (hq : q.length ≤ 1000000) (hi : i ≤ q.length) (hr : c.rules.length ≤ 900) (hrl : ∀ r ∈ c.rules, r.right.length ≤ 1000000) :
    Sound Try.prog 54 [co c, .sl 1 (is q), .int .i64 i] (.sl 4 (ses (stAt c (q.drop i)))) := by
  have cm := pMay (c := c) (q := q) (i := i)
  unfold co at cm ⊢
  refine Sound.run (N := 22) Try.func54 rfl (by kernel_rfl) rfl rfl rfl (by first | exact args0_0 | exact args0_1 | exact args0_2 | exact args0_3 | exact args0_4 | exact args0_5 | exact args0_6) fun X_ w_ => ?_
  have c0_ := cm; refine goT ?_; first | exact trivial | skip
  refine WP_ownv 1 0 3000 56 4 rfl rfl (by decide) (by decide) (by simp (disch := omega) only [go_sem]; rfl) ?_
  refine WP_keepd [6, 11] [1, 3000] 3001 (Nat.le_of_ble_eq_true rfl) (by simp (disch := omega) only [go_sem, keepL, List.set_cons_zero, List.set_cons_succ] <;> rfl) (by simp (disch := omega) only [go_sem, keepL, List.set_cons_zero, List.set_cons_succ] <;> rfl) rfl rfl ?_
  refine WP_rangeR (cs := [(6, .ref 1 0)]) rfl rfl rfl (by simp (disch := omega) only [go_sem, envOk]) rfl rfl (by simp (disch := omega) only [go_sem, St, ses_nil, List.length_nil]; rfl) (pMay1 (Y := ⟨22, #[12], _, _⟩) ?hy hc hq hi hr hrl) rfl (by first | (simp (disch := omega) only [go_sem, St, ses_nil, List.length_nil] <;> rfl) | rfl) (by first | (simp (disch := omega) only [go_sem, St, ses_nil, List.length_nil] <;> rfl) | rfl) rfl (by first | (simp (disch := omega) only [go_sem, St, ses_nil, List.length_nil] <;> rfl) | rfl) (by first | (simp (disch := omega) only [go_sem, St, ses_nil, List.length_nil] <;> rfl) | rfl) (by first | (simp (disch := omega) only [go_sem, St, ses_nil, List.length_nil] <;> rfl) | rfl) ?_
  · intro xs s hx hs
    have ccl := pClone hs
    unfold St se
    refine SoundY.run (N := 22) (ps := [12]) (ks := [0, 1, 2]) rfl rfl rfl rfl rfl (by simp (disch := omega) only [go_sem]; rfl) fun l_ X_ ν_ w_ => ?_; dsimp only
    refine goT ?_; first | exact trivial | skip
    refine round_b (by simp (disch := omega) only [go_sem] <;> rfl) (by simp (disch := omega) only [go_sem] <;> rfl) ?_; dsimp only
    have c0_ := ccl; refine goT ?_; first | exact trivial | skip
  · refine goT ?_; first | exact trivial | skip
end Go.Eng.Try

/- Steps: at a place, and at each; the document's answer. -/
set_option linter.unusedVariables false
set_option linter.unusedSimpArgs false
namespace Go.Eng.Try
open Go Go.Eng Go.Proofs Go.RowKit
attribute [local go_sem] evFold rnE ksE roundE frz frzs List.set_cons_zero List.set_cons_succ List.zip_cons_cons List.zip_nil_right List.foldl_cons List.foldl_nil D.flat rns AV.rn HO.rn AV.ks kss HO.ks sg dedup objKs reach passE fresh List.filter fnOf evOp opnd lk v2d v2ds just evBin intBin nilBin isNil strBin evUn evLoad ldD ldA evStore evField evIndex evBuild fillA evBuildSlice evAppend evAppendClip elems evMake evSlice evSliceO evCut evView evCopy evAppendV evAgg evMakeMap evLookup evMapUpd evRange evEntry cellsD AV.kb splice List.getLast?_append resM resAs resA resD keepL List.replicate_zero List.take_length ofInt evLen evMin evMax evConv evNil evExtract evBuiltin toD toDs allD pack splice D.comps AV.comps AV.sto D.cell D.rebuild inOrder allFlat del put setE eff gd gslot kills Option.map_some Option.map_none Option.bind_some Option.isSome_some List.map_cons List.map_nil List.append_nil List.nil_append List.cons_append List.length_cons List.length_nil List.length_map List.length_append List.take_zero List.take_succ_cons List.take_nil List.drop_zero List.drop_succ_cons List.drop_nil List.getElem?_cons_zero List.getElem?_cons_succ List.getElem?_map List.all_cons List.all_nil List.mem_cons List.not_mem_nil List.elem_cons List.elem_nil Bool.and_true Bool.true_and Bool.and_self Bool.not_true Bool.not_false Bool.or_true Bool.or_false and_self and_true true_and or_false false_or or_true true_or not_false_eq_true not_true_eq_false if_true if_false decide_true decide_false decide_eq_true_eq Int.toNat_natCast Int.toNat_zero beq_self_eq_true bne_self_eq_false Bool.false_eq_true Nat.add_zero Nat.zero_add tys room le_i lt_i eq_n le_n lt_n len0 gdE bb_tf bb_ft mapP arrL if_min tdiv_nn tmod_nn us_len us_get wrap_i64 wrap_u64 dec_lt dec_nlt dec_le dec_nle beq_t beq_f bne_t bne_f get_lt gt_iff_lt ge_iff_le
attribute [local go_sem ↓] map_P reduceIte
attribute [local go_sem] reduceCtorEq Nat.reduceEqDiff Nat.reduceAdd Nat.reduceSub Nat.reduceMul Nat.reduceLeDiff Nat.reduceLT Nat.reduceBEq Nat.reduceBNe Int.reduceToNat Int.reduceLT Int.reduceLE Int.reduceEq Int.reduceAdd Int.reduceSub Int.reduceNeg Int.reduceBEq Int.reduceBNe
attribute [local go_sem] is_len is_get rs_len rs_get ses_len ses_get ses_snoc dels
theorem fit_lens {r : Ru} (h : fit r = true) : r.left.length ≤ 8 ∧ r.right.length ≤ 8 := by
  simp only [fit, Bool.and_eq_true] at h
  obtain ⟨h1, h2, _, _⟩ := rok_iff.1 h.1.1
  exact ⟨sok_len h1, sok_len h2⟩
theorem cok_rules {c : Co} (h : cok c = true) : c.rules.length ≤ 200 ∧ ∀ r ∈ c.rules, r.left.length ≤ 8 ∧ r.right.length ≤ 8 := by
  obtain ⟨_, h2, h3, _⟩ := cok_iff.1 h
  exact ⟨h2, fun r hr => fit_lens (List.all_eq_true.1 h3 r hr)⟩
set_option maxHeartbeats 4000000 in
set_option maxRecDepth 10000 in
theorem pWrong {c : Co} {q : List Int} (hc : c.ok) (hq : q.length ≤ 9223372036854775807) : Sound Try.prog 53 [co c, .sl 1 (is q)] (.bool (!(decide (q.length ≤ 20) && cok c))) := by
  have cc := sCheck hc
  unfold co at cc ⊢
  by_cases h : q.length ≤ 20
  · have e : (!(decide (q.length ≤ 20) && cok c)) = !cok c := by simp [h]
    refine Sound.run (N := 13) Try.func53 rfl (by kernel_rfl) rfl rfl rfl (by first | exact args0_0 | exact args0_1 | exact args0_2 | exact args0_3 | exact args0_4 | exact args0_5 | exact args0_6) fun X_ w_ => ?_
    have c0_ := cc; refine goX @e ?_; first | exact trivial | skip
  · have e : (!(decide (q.length ≤ 20) && cok c)) = true := by simp [h]
    refine Sound.run (N := 13) Try.func53 rfl (by kernel_rfl) rfl rfl rfl (by first | exact args0_0 | exact args0_1 | exact args0_2 | exact args0_3 | exact args0_4 | exact args0_5 | exact args0_6) fun X_ w_ => ?_
    have c0_ := cc; refine goX @e ?_; first | exact trivial | skip
/-- May it be asked? -/
def may (c : Co) (q : List Int) : Bool := decide (q.length ≤ 20) && cok c
theorem may_iff {c : Co} {q : List Int} : may c q = true ↔ q.length ≤ 20 ∧ cok c = true := by simp [may]
def stepsAt (c : Co) (q : List Int) (i : Int) : List Se := if may c q = true ∧ 0 ≤ i ∧ i ≤ q.length then stAt c (q.drop i.toNat) else []
set_option maxHeartbeats 4000000 in
set_option maxRecDepth 10000 in
theorem pAt {c : Co} {q : List Int} {i : Int} (hc : c.ok) (hq : q.length ≤ 9223372036854775807) : Sound Try.prog 36 [co c, .sl 1 (is q), .int .i64 i] (.sl 4 (ses (stepsAt c q i))) := by
  have cw := pWrong hc hq
  rw [show (!(decide (q.length ≤ 20) && cok c)) = !may c q from rfl] at cw
  by_cases h1 : i < 0
  · have e : stepsAt c q i = [] := if_neg (by omega)
    rw [e]
    refine Sound.wk (r := .nils) ?_ (Wks.refl _) (.nil 4)
    unfold co at cw ⊢
    refine Sound.run (N := 24) Try.func36 rfl (by kernel_rfl) rfl rfl rfl (by first | exact args0_0 | exact args0_1 | exact args0_2 | exact args0_3 | exact args0_4 | exact args0_5 | exact args0_6) fun X_ w_ => ?_
    refine goT ?_; first | exact trivial | skip
  by_cases h2 : (q.length : Int) < i
  · have e : stepsAt c q i = [] := if_neg (by omega)
    rw [e]
    refine Sound.wk (r := .nils) ?_ (Wks.refl _) (.nil 4)
    unfold co at cw ⊢
    refine Sound.run (N := 24) Try.func36 rfl (by kernel_rfl) rfl rfl rfl (by first | exact args0_0 | exact args0_1 | exact args0_2 | exact args0_3 | exact args0_4 | exact args0_5 | exact args0_6) fun X_ w_ => ?_
    refine goT ?_; first | exact trivial | skip
  obtain ⟨n, rfl⟩ := Int.eq_ofNat_of_zero_le (by omega : 0 ≤ i)
  cases hm : may c q
  · have e : stepsAt c q n = [] := if_neg (by simp [hm])
    rw [e]
    rw [hm] at cw
    refine Sound.wk (r := .nils) ?_ (Wks.refl _) (.nil 4)
    unfold co at cw ⊢
    refine Sound.run (N := 24) Try.func36 rfl (by kernel_rfl) rfl rfl rfl (by first | exact args0_0 | exact args0_1 | exact args0_2 | exact args0_3 | exact args0_4 | exact args0_5 | exact args0_6) fun X_ w_ => ?_
    have c0_ := cw; refine goT ?_; first | exact trivial | skip
  · obtain ⟨hl, hk⟩ := may_iff.1 hm
    obtain ⟨k1, k2⟩ := cok_rules hk
    have e : stepsAt c q n = stAt c (q.drop n) := by unfold stepsAt; rw [if_pos ⟨hm, by omega, by omega⟩]; simp
    rw [e]
    rw [hm] at cw
    have co' := pOfS (q := q) (i := n) hc (by omega) (by omega) (by omega) (fun r hr => Nat.le_trans (k2 r hr).2 (by decide))
    unfold co at cw co' ⊢
    refine Sound.run (N := 24) Try.func36 rfl (by kernel_rfl) rfl rfl rfl (by first | exact args0_0 | exact args0_1 | exact args0_2 | exact args0_3 | exact args0_4 | exact args0_5 | exact args0_6) fun X_ w_ => ?_
    have c0_ := cw; have c1_ := co'; refine goT ?_; first | exact trivial | skip
def sss (l : List (List Se)) : List D := l.map fun x => .sl 4 (ses x)
theorem sss_len {l : List (List Se)} : (sss l).length = l.length := by simp [sss]
theorem sss_get {l : List (List Se)} {k : Nat} (h : k < l.length) : (sss l)[k]? = some (.sl 4 (ses (l[k]!))) := by simp [sss, List.getElem?_eq_getElem h, getElem!_pos l k h]
theorem sss_snoc {l : List (List Se)} {x : List Se} : sss l ++ [.sl 4 (ses x)] = sss (l ++ [x]) := by simp [sss]
attribute [local go_sem] sss_len sss_get sss_snoc
def allF (c : Co) (q : List Int) (n : Nat) : List (List Se) := (List.range n).map fun i => stAt c (q.drop i)
theorem allF_len (c : Co) (q : List Int) (n : Nat) : (allF c q n).length = n := by simp [allF]
theorem allF_step (c : Co) (q : List Int) (n : Nat) : allF c q (n + 1) = allF c q n ++ [stAt c (q.drop n)] := by simp [allF, List.range_succ]
def stepsAll (c : Co) (q : List Int) : List (List Se) := if may c q = true then allF c q (q.length + 1) else []
set_option maxHeartbeats 4000000 in
set_option maxRecDepth 10000 in
theorem pAll {c : Co} {q : List Int} (hc : c.ok) (hq : q.length ≤ 9223372036854775807) : Sound Try.prog 33 [co c, .sl 1 (is q)] (.sl 1 (sss (stepsAll c q))) := by
  have cw := pWrong hc hq
  rw [show (!(decide (q.length ≤ 20) && cok c)) = !may c q from rfl] at cw
  cases hm : may c q
  · have e : stepsAll c q = [] := if_neg (by simp [hm])
    rw [e]
    rw [hm] at cw
    refine Sound.wk (r := .nils) ?_ (Wks.refl _) (.nil 1)
    unfold co at cw ⊢
    refine Sound.run (N := 24) Try.func33 rfl (by kernel_rfl) rfl rfl rfl (by first | exact args0_0 | exact args0_1 | exact args0_2 | exact args0_3 | exact args0_4 | exact args0_5 | exact args0_6) fun X_ w_ => ?_
    have c0_ := cw; refine goT ?_; first | exact trivial | skip
  · obtain ⟨hl, hk⟩ := may_iff.1 hm
    obtain ⟨k1, k2⟩ := cok_rules hk
    have e : stepsAll c q = allF c q (q.length + 1) := if_pos hm
    rw [e]
    rw [hm] at cw
    have co' := fun (n : Nat) (hn : n ≤ q.length) => pOfS (q := q) (i := n) hc (by omega) hn (by omega) (fun r hr => Nat.le_trans (k2 r hr).2 (by decide))
    unfold co at cw co' ⊢
    refine Sound.run (N := 24) Try.func33 rfl (by kernel_rfl) rfl rfl rfl (by first | exact args0_0 | exact args0_1 | exact args0_2 | exact args0_3 | exact args0_4 | exact args0_5 | exact args0_6) fun X_ w_ => ?_
    have c0_ := cw; refine goT ?_; first | exact trivial | skip
    refine WP_own 4 20000 51 1 rfl (by decide) (Nat.le_of_ble_eq_true rfl) ?_
    refine WP_loopk (fun k : Nat => k ≤ q.length + 1) (fun k => [(1, .d (.sl 1 (is q))), (2, .ref 0 0), (4, .own 20000 (allF c q k).length), (11, .d (.int .i64 ((q.length : Int) + 1))), (12, .d (.int .i64 k))]) (fun k => [(0, .var [.d (.int .u64 c.more), .d (.int .u64 c.less), .d (.int .u64 c.other), .d (.int .u64 c.turned), .d (.sl 3 (rs c.rules))]), (20000, .row 51 1 (sss (allF c q k)))]) 20001 (fun k => q.length + 1 - k) [1, 2, 4, 11, 12] [0, 20000] 0 (Nat.zero_le _) rfl rfl (Nat.zero_le _) (fun _ _ => rfl) (fun _ _ => rfl) fun k hk => ?_
    have al := allF_len c q k
    by_cases hk' : k < q.length + 1
    · have ck := co' k (by omega)
      have hst := allF_step c q k
      have c0_ := ck; refine goX @al ?_; first | exact trivial | skip
      refine ⟨k + 1, by omega, ?_, ?_, by omega⟩
      · simp (disch := omega) only [go_sem, keepL, Int.natCast_add, Int.cast_ofNat_Int, hst, al, List.length_append, List.length_cons, List.length_nil]
      · simp (disch := omega) only [go_sem, keepL, hst]
    · have hkl : k = q.length + 1 := by omega
      subst hkl
      refine goX @al ?_; first | exact trivial | skip
end Go.Eng.Try

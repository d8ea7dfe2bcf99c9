/- Steps' laws: what stands there, and behind, alone. (and what stands behind it: texts laid together) -/
import Derived.Test.YtlaekicahpplbabMG3
import Derived.Test.YtlaekicahpplbabMR12
set_option linter.unusedVariables false
set_option linter.unusedSimpArgs false
namespace Go.Eng.Try
open Go Go.Eng Go.Proofs Go.RowKit
attribute [local go_sem] evFold rnE ksE roundE frz frzs List.set_cons_zero List.set_cons_succ List.zip_cons_cons List.zip_nil_right List.foldl_cons List.foldl_nil D.flat rns AV.rn HO.rn AV.ks kss HO.ks sg dedup objKs reach passE fresh List.filter fnOf evOp opnd lk v2d v2ds just evBin intBin nilBin isNil strBin evUn evLoad ldD ldA evStore evField evIndex evBuild fillA evBuildSlice evAppend evAppendClip elems evMake evSlice evSliceO evCut evView evCopy evAppendV evAgg evMakeMap evLookup evMapUpd evRange evEntry cellsD AV.kb splice List.getLast?_append resM resAs resA resD keepL List.replicate_zero List.take_length ofInt evLen evMin evMax evConv evNil evExtract evBuiltin toD toDs allD pack splice D.comps AV.comps AV.sto D.cell D.rebuild inOrder allFlat del put setE eff gd gslot kills Option.map_some Option.map_none Option.bind_some Option.isSome_some List.map_cons List.map_nil List.append_nil List.nil_append List.cons_append List.length_cons List.length_nil List.length_map List.length_append List.take_zero List.take_succ_cons List.take_nil List.drop_zero List.drop_succ_cons List.drop_nil List.getElem?_cons_zero List.getElem?_cons_succ List.getElem?_map List.all_cons List.all_nil List.mem_cons List.not_mem_nil List.elem_cons List.elem_nil Bool.and_true Bool.true_and Bool.and_self Bool.not_true Bool.not_false Bool.or_true Bool.or_false and_self and_true true_and or_false false_or or_true true_or not_false_eq_true not_true_eq_false if_true if_false decide_true decide_false decide_eq_true_eq Int.toNat_natCast Int.toNat_zero beq_self_eq_true bne_self_eq_false Bool.false_eq_true Nat.add_zero Nat.zero_add tys room le_i lt_i eq_n le_n lt_n len0 gdE bb_tf bb_ft mapP arrL if_min tdiv_nn tmod_nn us_len us_get wrap_i64 wrap_u64 dec_lt dec_nlt dec_le dec_nle beq_t beq_f bne_t bne_f get_lt gt_iff_lt ge_iff_le
attribute [local go_sem ↓] map_P reduceIte
attribute [local go_sem] reduceCtorEq Nat.reduceEqDiff Nat.reduceAdd Nat.reduceSub Nat.reduceMul Nat.reduceLeDiff Nat.reduceLT Nat.reduceBEq Nat.reduceBNe Int.reduceToNat Int.reduceLT Int.reduceLE Int.reduceEq Int.reduceAdd Int.reduceSub Int.reduceNeg Int.reduceBEq Int.reduceBNe
theorem is_app {a b : List Int} : is a ++ is b = is (a ++ b) := by simp [is]
attribute [local go_sem] is_len is_get rs_len rs_get ses_len ses_get dels is_app
theorem stepsAt_app {c : Co} {a q : List Int} (h : a.length + q.length ≤ 20) : stepsAt c (a ++ q) a.length = if cok c = true then stAt c q else [] := by
  unfold stepsAt
  cases hk : cok c
  · rw [if_neg (by simp [may, hk]), if_neg (by simp)]
  · rw [if_pos ⟨may_iff.2 ⟨by simpa using h, hk⟩, by omega, by simp only [List.length_append]; omega⟩, if_pos rfl]
    simp
set_option maxHeartbeats 4000000 in
set_option maxRecDepth 10000 in
theorem lawSBehind {c : Co} {a b q : List Int} (hc : c.ok) (ha : a.length ≤ 9223372036854775807) (hb : b.length ≤ 9223372036854775807) (hq : q.length ≤ 9223372036854775807) : Sound Try.prog 11 [co c, .sl 1 (is a), .sl 1 (is b), .sl 1 (is q)] (.bool true) := by
  have cf := pFewS hc hq
  have aw := stepsAwake
  cases hf : fewS c q
  · rw [hf] at cf
    unfold co at cf ⊢
    refine Sound.run (N := 66) Try.func11 rfl (by kernel_rfl) rfl rfl rfl (by first | exact args0_0 | exact args0_1 | exact args0_2 | exact args0_3 | exact args0_4 | exact args0_5 | exact args0_6) fun X_ w_ => ?_
    have c0_ := aw; have c1_ := cf; refine goT ?_; first | exact trivial | skip
  rw [hf] at cf
  have h3 := few_len (fewS_iff.1 hf).1
  by_cases h1 : 10 < a.length
  · unfold co at cf ⊢
    refine Sound.run (N := 66) Try.func11 rfl (by kernel_rfl) rfl rfl rfl (by first | exact args0_0 | exact args0_1 | exact args0_2 | exact args0_3 | exact args0_4 | exact args0_5 | exact args0_6) fun X_ w_ => ?_
    have c0_ := aw; have c1_ := cf; refine goT ?_; first | exact trivial | skip
  by_cases h2 : 10 < b.length
  · unfold co at cf ⊢
    refine Sound.run (N := 66) Try.func11 rfl (by kernel_rfl) rfl rfl rfl (by first | exact args0_0 | exact args0_1 | exact args0_2 | exact args0_3 | exact args0_4 | exact args0_5 | exact args0_6) fun X_ w_ => ?_
    have c0_ := aw; have c1_ := cf; refine goT ?_; first | exact trivial | skip
  by_cases h4 : 10 < q.length
  · unfold co at cf ⊢
    refine Sound.run (N := 66) Try.func11 rfl (by kernel_rfl) rfl rfl rfl (by first | exact args0_0 | exact args0_1 | exact args0_2 | exact args0_3 | exact args0_4 | exact args0_5 | exact args0_6) fun X_ w_ => ?_
    have c0_ := aw; have c1_ := cf; refine goT ?_; first | exact trivial | skip
  have c1 := pAt (q := a ++ q) (i := a.length) hc (by simp; omega)
  have c2 := pAt (q := b ++ q) (i := b.length) hc (by simp; omega)
  have c3 := pAt (q := q) (i := 0) hc hq
  have e1 := stepsAt_app (c := c) (a := a) (q := q) (by omega)
  have e2 := stepsAt_app (c := c) (a := b) (q := q) (by omega)
  have e3 : stepsAt c q 0 = if cok c = true then stAt c q else [] := by have := stepsAt_app (c := c) (a := []) (q := q) (by simp; omega); simpa using this
  have c5 := rSameS (a := stepsAt c q 0) (b := stepsAt c q 0) stepsAt_ses stepsAt_ses (Nat.le_trans (stepsAt_len c q 0) (by omega)) (Nat.le_trans (stepsAt_len c q 0) (by omega))
  rw [decide_eq_true rfl] at c5
  rw [e1, ← e3] at c1
  rw [e2, ← e3] at c2
  generalize stepsAt c q 0 = L at *
  have ea : (a.length : Int) + 0 = a.length := by omega
  unfold co at *
  refine Sound.run (N := 66) Try.func11 rfl (by kernel_rfl) rfl rfl rfl (by first | exact args0_0 | exact args0_1 | exact args0_2 | exact args0_3 | exact args0_4 | exact args0_5 | exact args0_6) fun X_ w_ => ?_
  have c0_ := aw; have c1_ := cf; have c2_ := c1; have c3_ := c2; have c4_ := c3; have c5_ := c5; refine goT ?_; first | exact trivial | skip
end Go.Eng.Try

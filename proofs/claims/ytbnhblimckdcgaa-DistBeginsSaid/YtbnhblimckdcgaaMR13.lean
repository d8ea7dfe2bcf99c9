/- What words cost: the whole; what the laws ask first. (and what stands behind it: texts laid together) -/
import Derived.Test.YtbnhblimckdcgaaMG4
import Derived.Test.YtbnhblimckdcgaaMR12
import Derived.Test.YtbnhblimckdcgaaMG3
import Derived.Test.YtbnhblimckdcgaaMR4
import Derived.Test.YtbnhblimckdcgaaMR6
set_option linter.unusedVariables false
set_option linter.unusedSimpArgs false
namespace Go.Eng.Try
open Go Go.Eng Go.Proofs Go.RowKit
attribute [local go_sem] evFold rnE ksE roundE frz frzs List.set_cons_zero List.set_cons_succ List.zip_cons_cons List.zip_nil_right List.foldl_cons List.foldl_nil D.flat rns AV.rn HO.rn AV.ks kss HO.ks sg dedup objKs reach passE fresh List.filter fnOf evOp opnd lk v2d v2ds just evBin intBin nilBin isNil strBin evUn evLoad ldD ldA evStore evField evIndex evBuild fillA evBuildSlice evAppend evAppendClip elems evMake evSlice evSliceO evSliceX evSliceY evViewV evStoreX evStoreT stT stI evCopyT evAppendT evAppendTD ldT ldI Tb.inn Tb.ilen Tb.nilAt Tb.ini D.put evCut evView evCopy evAppendV evAgg evMakeMap evLookup evMapUpd evRange evEntry cellsD AV.kb splice List.getLast?_append resM resAs resA resD keepL List.replicate_zero List.take_length ofInt evLen evMin evMax evConv evNil evExtract evBuiltin toD toDs allD pack splice D.comps AV.comps AV.sto D.cell D.rebuild inOrder allFlat del put setE eff gd gslot kills Option.map_some Option.map_none Option.bind_some Option.isSome_some List.map_cons List.map_nil List.append_nil List.nil_append List.cons_append List.length_cons List.length_nil List.length_map List.length_append List.take_zero List.take_succ_cons List.take_nil List.drop_zero List.drop_succ_cons List.drop_nil List.getElem?_cons_zero List.getElem?_cons_succ List.getElem?_map List.all_cons List.all_nil List.mem_cons List.not_mem_nil List.elem_cons List.elem_nil Bool.and_true Bool.true_and Bool.and_self Bool.not_true Bool.not_false Bool.or_true Bool.or_false and_self and_true true_and or_false false_or or_true true_or not_false_eq_true not_true_eq_false if_true if_false decide_true decide_false decide_eq_true_eq Int.toNat_natCast Int.toNat_zero beq_self_eq_true bne_self_eq_false Bool.false_eq_true Nat.add_zero Nat.zero_add tys room le_i lt_i eq_n le_n lt_n len0 gdE bb_tf bb_ft mapP arrL if_min tdiv_nn tmod_nn us_len us_get wrap_i64 wrap_u64 dec_lt dec_nlt dec_le dec_nle beq_t beq_f bne_t bne_f get_lt gt_iff_lt ge_iff_le
attribute [local go_sem ↓] map_P reduceIte
attribute [local go_sem] reduceCtorEq Nat.reduceEqDiff Nat.reduceAdd Nat.reduceSub Nat.reduceMul Nat.reduceLeDiff Nat.reduceLT Nat.reduceBEq Nat.reduceBNe Int.reduceToNat Int.reduceLT Int.reduceLE Int.reduceEq Int.reduceAdd Int.reduceSub Int.reduceNeg Int.reduceBEq Int.reduceBNe
attribute [local go_sem] is_len is_get ses_len ses_get sss_len sss_get tt_len tt_get dels
set_option maxHeartbeats 4000000 in
set_option maxRecDepth 10000 in
theorem pTableN {c : Co} {q w : List Int} (hc : c.ok) (hq : q.length ≤ 9223372036854775807) (hw : w.length ≤ 9223372036854775807) (h : ¬ (may c q = true ∧ w.length ≤ 20)) : Sound Try.prog 17 [co c, .sl 1 (is q), .sl 1 (is w)] .nils := by
  cases hm : may c q
  · have ca := allN hc hq hm
    unfold co at ca ⊢
    refine Sound.run (N := 123) Try.func17 rfl (by kernel_rfl) rfl rfl rfl (by first | exact args0_0 | exact args0_1 | exact args0_2 | exact args0_3 | exact args0_4 | exact args0_5 | exact args0_6) fun X_ w_ => ?_
    have c0_ := ca; refine goT ?_; first | exact trivial | skip
  · have hw2 : 20 < w.length := by
      rcases Nat.lt_or_ge 20 w.length with h2 | h2
      · exact h2
      · exact absurd ⟨hm, h2⟩ h
    have ca := pAll hc hq
    have eA : stepsAll c q = allF c q (q.length + 1) := if_pos hm
    rw [eA] at ca
    have hlen := allF_len c q (q.length + 1)
    obtain ⟨A0, A1, hA⟩ : ∃ A0 A1, allF c q (q.length + 1) = A0 :: A1 := by
      cases h : allF c q (q.length + 1) with
      | nil => rw [h] at hlen; simp at hlen
      | cons a b => exact ⟨a, b, rfl⟩
    have eN : sss (allF c q (q.length + 1)) = .sl 4 (ses A0) :: sss A1 := by rw [hA]; rfl
    unfold co at ca ⊢
    refine Sound.run (N := 123) Try.func17 rfl (by kernel_rfl) rfl rfl rfl (by first | exact args0_0 | exact args0_1 | exact args0_2 | exact args0_3 | exact args0_4 | exact args0_5 | exact args0_6) fun X_ w_ => ?_
    have c0_ := ca; refine goX @eN ?_; first | exact trivial | skip
theorem pTable {c : Co} {q w : List Int} (hc : c.ok) (hq : q.length ≤ 9223372036854775807) (hw : w.length ≤ 9223372036854775807) : Sound Try.prog 17 [co c, .sl 1 (is q), .sl 1 (is w)] (.sl 1 (tt (tableD c q w))) := by
  unfold tableD
  by_cases h : may c q = true ∧ w.length ≤ 20
  · rw [if_pos h]; exact pTable1 hc h.1 h.2
  · rw [if_neg h]; exact (pTableN hc hq hw h).wk (Wks.refl _) (.nil 1)
set_option maxHeartbeats 4000000 in
set_option maxRecDepth 10000 in
theorem pOf {c : Co} {q w : List Int} (hc : c.ok) (hq : q.length ≤ 9223372036854775807) (hw : w.length ≤ 9223372036854775807) : Sound Try.prog 15 [co c, .sl 1 (is q), .sl 1 (is w)] (.int .u64 (ofD c q w)) := by
  by_cases h : may c q = true ∧ w.length ≤ 20
  · have ct := pTable1 hc h.1 h.2
    obtain ⟨hq2, hk⟩ := may_iff.1 h.1
    have hg := tbl_good (all_steps hc hk q w) (by rw [allF_len]; omega)
    have hl : (tbl (allF c q (q.length + 1)) w).length = q.length + 1 := by rw [hg.shape.1, allF_len]
    have hr : ((tbl (allF c q (q.length + 1)) w)[q.length]!).length = w.length + 1 := hg.shape.2 _ (by rw [allF_len]; omega)
    have e : ofD c q w = ((tbl (allF c q (q.length + 1)) w)[q.length]!)[w.length]! := if_pos h
    rw [e]
    generalize tbl (allF c q (q.length + 1)) w = t at *
    unfold co at ct ⊢
    refine Sound.run (N := 24) Try.func15 rfl (by kernel_rfl) rfl rfl rfl (by first | exact args0_0 | exact args0_1 | exact args0_2 | exact args0_3 | exact args0_4 | exact args0_5 | exact args0_6) fun X_ w_ => ?_
    have c0_ := ct; refine goX @hl ?_; first | exact trivial | skip
  · have ct := pTableN hc hq hw h
    have e : ofD c q w = 18446744073709551615 := if_neg h
    rw [e]
    unfold co at ct ⊢
    refine Sound.run (N := 24) Try.func15 rfl (by kernel_rfl) rfl rfl rfl (by first | exact args0_0 | exact args0_1 | exact args0_2 | exact args0_3 | exact args0_4 | exact args0_5 | exact args0_6) fun X_ w_ => ?_
    have c0_ := ct; refine goT ?_; first | exact trivial | skip
def fewD (c : Co) (q w : List Int) : Bool := fewR c.rules 300 && decide ((q.length : Int) ≤ 100) && decide ((w.length : Int) ≤ 100)
theorem fewD_iff {c : Co} {q w : List Int} : fewD c q w = true ↔ fewR c.rules 300 = true ∧ q.length ≤ 100 ∧ w.length ≤ 100 := by simp only [fewD, Bool.and_eq_true, decide_eq_true_eq]; constructor <;> rintro h <;> refine ⟨?_, ?_⟩ <;> first | omega | (refine ⟨?_, ?_⟩; exact h.1; omega) | (exact h.1.1) | (constructor <;> omega)
set_option maxHeartbeats 4000000 in
set_option maxRecDepth 10000 in
theorem pFewD {c : Co} {q w : List Int} (hc : c.ok) (hq : q.length ≤ 9223372036854775807) (hw : w.length ≤ 9223372036854775807) : Sound Try.prog 13 [co c, .sl 1 (is q), .sl 1 (is w)] (.bool (fewD c q w)) := by
  have cf := rFewR (n := 300) hc.2.2.2.2.1 hc.2.2.2.2.2
  have e : fewD c q w = (fewR c.rules 300 && decide ((q.length : Int) ≤ 100) && decide ((w.length : Int) ≤ 100)) := rfl
  unfold co
  cases hf : fewR c.rules 300
  · rw [hf] at cf e
    simp only [Bool.false_and] at e
    refine Sound.run (N := 20) Try.func13 rfl (by kernel_rfl) rfl rfl rfl (by first | exact args0_0 | exact args0_1 | exact args0_2 | exact args0_3 | exact args0_4 | exact args0_5 | exact args0_6) fun X_ w_ => ?_
    have c0_ := cf; refine goX @e ?_; first | exact trivial | skip
  rw [hf] at cf e
  by_cases h1 : q.length ≤ 100
  · by_cases h2 : w.length ≤ 100
    · have e : fewD c q w = true := by rw [e]; simp; omega
      refine Sound.run (N := 20) Try.func13 rfl (by kernel_rfl) rfl rfl rfl (by first | exact args0_0 | exact args0_1 | exact args0_2 | exact args0_3 | exact args0_4 | exact args0_5 | exact args0_6) fun X_ w_ => ?_
      have c0_ := cf; refine goX @e ?_; first | exact trivial | skip
    · have e : fewD c q w = false := by rw [e]; simp; omega
      refine Sound.run (N := 20) Try.func13 rfl (by kernel_rfl) rfl rfl rfl (by first | exact args0_0 | exact args0_1 | exact args0_2 | exact args0_3 | exact args0_4 | exact args0_5 | exact args0_6) fun X_ w_ => ?_
      have c0_ := cf; refine goX @e ?_; first | exact trivial | skip
  · have e : fewD c q w = false := by rw [e]; simp; omega
    refine Sound.run (N := 20) Try.func13 rfl (by kernel_rfl) rfl rfl rfl (by first | exact args0_0 | exact args0_1 | exact args0_2 | exact args0_3 | exact args0_4 | exact args0_5 | exact args0_6) fun X_ w_ => ?_
    have c0_ := cf; refine goX @e ?_; first | exact trivial | skip
def cD1 : Co := ⟨1, 1, 1, 1, []⟩
def cD9 : Co := ⟨9, 9, 9, 9, [⟨[102], [112, 104], 2⟩]⟩
theorem ok_D1 : cD1.ok := by unfold Co.ok cD1 U Ru.ok; decide
theorem ok_D9 : cD9.ok := by unfold Co.ok cD9 U Ru.ok; decide
def cDI : Co := ⟨18446744073709551615, 0, 0, 0, []⟩
theorem ok_DI : cDI.ok := by unfold Co.ok cDI U Ru.ok; decide
theorem tab_D1 : tableD cD1 [97, 98] [98, 97] = [[0, 1, 2], [1, 1, 1], [2, 1, 1]] := by decide +kernel
theorem of_D9 : ofD cD9 [102, 97] [112, 104, 97] = 2 := by decide +kernel
theorem of_I : ofD cDI [] [] = 18446744073709551615 := by decide +kernel
theorem of_D1 : ofD cD1 [] [] = 0 := by decide +kernel
set_option maxHeartbeats 4000000 in
set_option maxRecDepth 10000 in
theorem distAwake : Sound Try.prog 12 [] (.bool true) := by
  have d1 := pTable (c := cD1) (q := [97, 98]) (w := [98, 97]) ok_D1 (by decide) (by decide)
  rw [tab_D1] at d1
  have d2 := pOf (c := cD9) (q := [102, 97]) (w := [112, 104, 97]) ok_D9 (by decide) (by decide)
  rw [of_D9] at d2
  have d3 := pOf (c := cDI) (q := []) (w := []) ok_DI (by decide) (by decide)
  rw [of_I] at d3
  have d4 := pOf (c := cD1) (q := []) (w := []) ok_D1 (by decide) (by decide)
  rw [of_D1] at d4
  have d1 := d1.wk (as' := [.agg [.int .u64 1, .int .u64 1, .int .u64 1, .int .u64 1, .nils], .sl 1 (is [97, 98]), .sl 1 (is [98, 97])]) (.cons (.agg (.cons (.refl _) (.cons (.refl _) (.cons (.refl _) (.cons (.refl _) (.cons (.nil 3) .nil)))))) (.cons (.refl _) (.cons (.refl _) .nil))) (.refl _)
  have d3 := d3.wk (as' := [.agg [.int .u64 18446744073709551615, .int .u64 0, .int .u64 0, .int .u64 0, .nils], .nils, .nils]) (.cons (.agg (.cons (.refl _) (.cons (.refl _) (.cons (.refl _) (.cons (.refl _) (.cons (.nil 3) .nil)))))) (.cons (.nil 1) (.cons (.nil 1) .nil))) (.refl _)
  have d4 := d4.wk (as' := [.agg [.int .u64 1, .int .u64 1, .int .u64 1, .int .u64 1, .nils], .nils, .nils]) (.cons (.agg (.cons (.refl _) (.cons (.refl _) (.cons (.refl _) (.cons (.refl _) (.cons (.nil 3) .nil)))))) (.cons (.nil 1) (.cons (.nil 1) .nil))) (.refl _)
  simp only [co, cD9, rs, ru, is, tt, us, List.map_cons, List.map_nil] at d1 d2 d3 d4
  refine Sound.run (N := 63) Try.func12 rfl (by kernel_rfl) rfl rfl rfl (by first | exact args0_0 | exact args0_1 | exact args0_2 | exact args0_3 | exact args0_4 | exact args0_5 | exact args0_6) fun X_ w_ => ?_
  have c0_ := d1; repeat ((fail_if_success (with_reducible show WP _ _ (.region 4 _ _) _ _)); first | with_reducible exact Ev.nil | with_reducible exact gd_n | ((with_reducible apply lk_ok); rfl) | ((with_reducible apply gslot_ok); rfl) | ((with_reducible apply v2d_ok); rfl) | with_reducible apply then_n | with_reducible apply WP_seq | with_reducible apply WP_skip | ((with_reducible apply WP_r (N := 63) rfl rfl); (focus simp only [Nat.reduceAdd] <;> rfl)) | ((with_reducible apply WP_d (N := 63) mixed rfl rfl); (focus simp only [Nat.reduceAdd] <;> rfl)) | ((with_reducible apply Ev_s); (focus first | (apply gd_u; (focus rfl); rfl) | (apply gd_f; (focus rfl); (focus rfl); rfl))) | ((with_reducible apply Ev_sn); (focus first | (apply gd_u; (focus rfl); rfl) | (apply gd_f; (focus rfl); (focus rfl); rfl))) | with_reducible apply gd_t | with_reducible apply Ev_mv | with_reducible apply Ev_as | with_reducible apply Ev_mc | with_reducible apply Ev_ac | ((first | (with_reducible apply Ev_pt) | (with_reducible apply Ev_ptc)); (focus rfl)) | ((first | (with_reducible apply Ev_pf) | (with_reducible apply Ev_pfc)); (focus rfl)) | (apply Ev_cf; (focus simp (disch := omega) only [go_sem] <;> rfl); (focus first | exact c0_); (focus rfl); (focus first | (simp (disch := omega) only [go_sem] <;> rfl) | rfl)) | ((with_reducible apply Ev_d); (focus simp only [Nat.reduceAdd] <;> rfl); (focus simp (disch := omega) only [go_sem] <;> rfl)) | (apply Ev_cv; (focus rfl); (focus simp (disch := omega) only [go_sem] <;> rfl); (focus first | exact c0_); (iterate 3 (focus first | (simp (disch := omega) only [go_sem] <;> rfl) | rfl))) | ((first | apply Ev_cmd | apply Ev_cmn); (focus simp only [Nat.reduceAdd] <;> rfl); (focus rfl); (iterate 2 (focus simp (disch := omega) only [go_sem] <;> rfl)); (first | ((focus first | exact c0_); (iterate 2 (focus first | (simp (disch := omega) only [go_sem] <;> rfl) | rfl)); (focus rfl); (iterate 3 (focus first | (simp (disch := omega) only [go_sem] <;> rfl) | rfl))))) | ((first | (with_reducible apply Ev_od) | (with_reducible apply Ev_on)); (focus simp only [Nat.reduceAdd] <;> rfl); (focus simp (disch := omega) only [go_sem] <;> rfl); (focus first | (simp (disch := omega) only [go_sem] <;> rfl) | rfl)) | with_reducible apply endM_n | with_reducible apply endM_r | with_reducible apply then_r | with_reducible apply then_x | with_reducible apply block_n | with_reducible apply block_r | with_reducible apply block_x | with_reducible apply block_y rfl | with_reducible apply scope_n | with_reducible apply scope_r | with_reducible apply scope_x | with_reducible apply end_n | with_reducible apply end_r | with_reducible apply WP_block | with_reducible apply WP_exit | with_reducible apply WP_ret | with_reducible apply WP_label | with_reducible apply WP_scope | ((with_reducible apply WP_t); (focus first | (simp (disch := omega) only [go_sem] <;> rfl) | rfl)) | ((with_reducible apply WP_f); (focus first | (simp (disch := omega) only [go_sem] <;> rfl) | rfl)) | ((with_reducible apply resD_t); (focus rfl)) | ((with_reducible apply resD_2); (focus rfl); (focus rfl)) | (with_reducible rfl) | ((with_reducible show List.map outKeys _ = _); simp only [List.map_cons, List.map_nil, outKeys, keys]; rfl) | ((with_reducible show orderOk _ _ = true); kernel_rfl) | ((with_reducible show _ = _); simp (disch := omega) only [go_sem] <;> rfl) | ((fail_if_success (with_reducible show Ev _ _ _ _ (_ :: _) _ _ _ _ _)); (show Ev _ _ _ _ (_ :: _) _ _ _ _ _)) | fail)
  refine WP_fix 3005 rfl rfl rfl rfl (by simp (disch := omega) only [go_sem]; rfl) ?_
  have c0_ := d1; have c1_ := d2; have c2_ := d3; have c3_ := d4; refine goT ?_; first | exact trivial | skip
end Go.Eng.Try
set_option linter.unusedVariables false
set_option linter.unusedSimpArgs false
namespace Go.Eng.Try
open Go Go.Eng Go.Proofs Go.RowKit
set_option maxRecDepth 100000 in
theorem ty_is {n : Nat} {ds : List D} (h : TyC Try.prog n 26 ds) : ∃ l, dOf Try.prog 26 ds = .sl 1 (is l) ∧ l.length ≤ 9223372036854775807 := by
  obtain ⟨m, xs, rfl, h1, h2⟩ := ty_sl Try.underlying26 h
  obtain ⟨l, e1, e2, _⟩ := ty_list (f := fun z => D.int .i64 z) (ok := fun _ => True) (fun x hx => by
    obtain ⟨z, rfl, _⟩ := ty_int Try.underlying3 hx
    exact ⟨z, dOf_int Try.underlying3, trivial⟩) xs h2
  rw [e1, dOf_sl Try.underlying26]
  exact ⟨l, rfl, by omega⟩
set_option maxRecDepth 100000 in
theorem ty_ru {n : Nat} {ds : List D} (h : TyC Try.prog n 34 ds) : ∃ r : Ru, dOf Try.prog 34 ds = ru r ∧ r.ok := by
  obtain ⟨m, h⟩ := ty_struct Try.underlying34 h
  obtain ⟨_, _, rfl, h1, _, _, rfl, h2, _, _, rfl, h3, rfl⟩ := h
  obtain ⟨c, rfl, hc⟩ := ty_int Try.underlying22 h3
  obtain ⟨l, e1, o1⟩ := ty_is h1
  obtain ⟨k, xs, rfl, _, _⟩ := ty_sl Try.underlying26 h1
  rw [dOf_sl Try.underlying26] at e1
  obtain ⟨l', e2, o2⟩ := ty_is h2
  obtain ⟨k', xs', rfl, _, _⟩ := ty_sl Try.underlying26 h2
  rw [dOf_sl Try.underlying26] at e2
  rw [dOf_struct Try.underlying34, e1, e2]
  exact ⟨⟨l, l', c⟩, rfl, o1, o2, wf_u64 hc⟩
set_option maxRecDepth 100000 in
theorem ty_rs {n : Nat} {ds : List D} (h : TyC Try.prog n 23 ds) : ∃ l, dOf Try.prog 23 ds = .sl 3 (rs l) ∧ (∀ r ∈ l, r.ok) ∧ l.length ≤ 9223372036854775807 := by
  obtain ⟨m, xs, rfl, h1, h2⟩ := ty_sl Try.underlying23 h
  obtain ⟨l, e1, e2, h3⟩ := ty_list (f := ru) (ok := Ru.ok) (fun x hx => ty_ru hx) xs h2
  rw [e1, dOf_sl Try.underlying23]
  exact ⟨l, rfl, h3, by omega⟩
end Go.Eng.Try
set_option linter.unusedVariables false
set_option linter.unusedSimpArgs false
namespace Go.Eng.Try
open Go Go.Eng Go.Proofs Go.RowKit
set_option maxRecDepth 100000 in
theorem ty_i64 {n : Nat} {ds : List D} (h : TyC Try.prog n 3 ds) : ∃ z : Int, dOf Try.prog 3 ds = .int .i64 z ∧ (-9223372036854775808 ≤ z ∧ z ≤ 9223372036854775807) := by
  obtain ⟨z, rfl, hz⟩ := ty_int Try.underlying3 h
  exact ⟨z, dOf_int Try.underlying3, wf_i64 hz⟩
set_option maxRecDepth 100000 in
theorem ty_u8 {n : Nat} {ds : List D} (h : TyC Try.prog n 5 ds) : ∃ z : Int, dOf Try.prog 5 ds = .int .u8 z ∧ (0 ≤ z ∧ z ≤ 255) := by
  obtain ⟨z, rfl, hz⟩ := ty_int Try.underlying5 h
  exact ⟨z, dOf_int Try.underlying5, wf_u8 hz⟩
set_option maxRecDepth 100000 in
theorem ty_co {n : Nat} {ds : List D} (h : TyC Try.prog n 25 ds) : ∃ c : Co, dOf Try.prog 25 ds = co c ∧ c.ok := by
  obtain ⟨m, h⟩ := ty_struct Try.underlying25 h
  obtain ⟨_, _, rfl, h1, _, _, rfl, h2, _, _, rfl, h3, _, _, rfl, h4, _, _, rfl, h5, rfl⟩ := h
  obtain ⟨c1, rfl, hc1⟩ := ty_int Try.underlying22 h1
  obtain ⟨c2, rfl, hc2⟩ := ty_int Try.underlying22 h2
  obtain ⟨c3, rfl, hc3⟩ := ty_int Try.underlying22 h3
  obtain ⟨c4, rfl, hc4⟩ := ty_int Try.underlying22 h4
  obtain ⟨l, e1, o1, o2⟩ := ty_rs h5
  obtain ⟨k, xs, rfl, _, _⟩ := ty_sl Try.underlying23 h5
  rw [dOf_sl Try.underlying23] at e1
  rw [dOf_struct Try.underlying25, e1]
  exact ⟨⟨c1, c2, c3, c4, l⟩, rfl, wf_u64 hc1, wf_u64 hc2, wf_u64 hc3, wf_u64 hc4, o1, o2⟩
end Go.Eng.Try

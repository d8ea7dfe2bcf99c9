/- What words cost: the whole; what the laws ask first. (and what stands behind it: texts laid together) -/
import Derived.Test.YtbnhblimckdcgaaMG4
import Derived.Test.YtbnhblimckdcgaaMR12
import Derived.Test.YtbnhblimckdcgaaMG3
import Derived.Test.YtbnhblimckdcgaaMR6
import Derived.Test.YtbnhblimckdcgaaMR10
set_option linter.unusedVariables false
set_option linter.unusedSimpArgs false
namespace Go.Eng.Try
open Go Go.Eng Go.Proofs Go.RowKit
attribute [local go_sem] evFold rnE ksE roundE frz frzs List.set_cons_zero List.set_cons_succ List.zip_cons_cons List.zip_nil_right List.foldl_cons List.foldl_nil D.flat rns AV.rn HO.rn AV.ks kss HO.ks sg dedup objKs reach passE fresh List.filter fnOf evOp opnd lk v2d v2ds just evBin intBin nilBin isNil strBin evUn evLoad ldD ldA evStore evField evIndex evBuild fillA evBuildSlice evAppend evAppendClip elems evMake evSlice evSliceO evSliceX evSliceY evViewV evStoreX evStoreT stT stI evCopyT evAppendT evAppendTD ldT ldI Tb.inn Tb.ilen Tb.nilAt Tb.ini D.put evCut evView evCopy evAppendV evAgg evMakeMap evLookup evMapUpd evRange evEntry cellsD AV.kb splice List.getLast?_append resM resAs resA resD keepL List.replicate_zero List.take_length ofInt evLen evMin evMax evConv evNil evExtract evBuiltin toD toDs allD pack splice D.comps AV.comps AV.sto D.cell D.rebuild inOrder allFlat del put setE eff gd gslot kills Option.map_some Option.map_none Option.bind_some Option.isSome_some List.map_cons List.map_nil List.append_nil List.nil_append List.cons_append List.length_cons List.length_nil List.length_map List.length_append List.take_zero List.take_succ_cons List.take_nil List.drop_zero List.drop_succ_cons List.drop_nil List.getElem?_cons_zero List.getElem?_cons_succ List.getElem?_map List.all_cons List.all_nil List.mem_cons List.not_mem_nil List.elem_cons List.elem_nil Bool.and_true Bool.true_and Bool.and_self Bool.not_true Bool.not_false Bool.or_true Bool.or_false and_self and_true true_and or_false false_or or_true true_or not_false_eq_true not_true_eq_false if_true if_false decide_true decide_false decide_eq_true_eq Int.toNat_natCast Int.toNat_zero beq_self_eq_true bne_self_eq_false Bool.false_eq_true Nat.add_zero Nat.zero_add tys room le_i lt_i eq_n le_n lt_n len0 gdE bb_tf bb_ft mapP arrL if_min tdiv_nn tmod_nn us_len us_get wrap_i64 wrap_u64 dec_lt dec_nlt dec_le dec_nle beq_t beq_f bne_t bne_f get_lt gt_iff_lt ge_iff_le
attribute [local go_sem ↓] map_P reduceIte
attribute [local go_sem] reduceCtorEq Nat.reduceEqDiff Nat.reduceAdd Nat.reduceSub Nat.reduceMul Nat.reduceLeDiff Nat.reduceLT Nat.reduceBEq Nat.reduceBNe Int.reduceToNat Int.reduceLT Int.reduceLE Int.reduceEq Int.reduceAdd Int.reduceSub Int.reduceNeg Int.reduceBEq Int.reduceBNe
attribute [local go_sem] is_len is_get ses_len ses_get sss_len sss_get tt_len tt_get dels
set_option maxHeartbeats 4000000 in
set_option maxRecDepth 10000 in
theorem pTableN {c : Co} {q w : List Int} (hc : c.ok) (hq : q.length ≤ 9223372036854775807) (hw : w.length ≤ 9223372036854775807) (h : ¬ (may c q = true ∧ w.length ≤ 20)) : Sound Try.prog 17 [co c, .sl 1 (is q), .sl 1 (is w)] .nils := by
  cases hm : may c q
  · have ca := allN hc hq hm
    unfold co at ca ⊢
    refine Sound.run (N := 123) Try.func17 rfl (by kernel_rfl) rfl rfl rfl (by first | exact args0_0 | exact args0_1 | exact args0_2 | exact args0_3 | exact args0_4 | exact args0_5 | exact args0_6) fun X_ w_ => ?_
    have c0_ := ca; refine goT ?_; first | exact trivial | skip
  · have hw2 : 20 < w.length := by
      rcases Nat.lt_or_ge 20 w.length with h2 | h2
      · exact h2
      · exact absurd ⟨hm, h2⟩ h
    have ca := pAll hc hq
    have eA : stepsAll c q = allF c q (q.length + 1) := if_pos hm
    rw [eA] at ca
    have hlen := allF_len c q (q.length + 1)
    obtain ⟨A0, A1, hA⟩ : ∃ A0 A1, allF c q (q.length + 1) = A0 :: A1 := by
      cases h : allF c q (q.length + 1) with
      | nil => rw [h] at hlen; simp at hlen
      | cons a b => exact ⟨a, b, rfl⟩
    have eN : sss (allF c q (q.length + 1)) = .sl 4 (ses A0) :: sss A1 := by rw [hA]; rfl
    unfold co at ca ⊢
    refine Sound.run (N := 123) Try.func17 rfl (by kernel_rfl) rfl rfl rfl (by first | exact args0_0 | exact args0_1 | exact args0_2 | exact args0_3 | exact args0_4 | exact args0_5 | exact args0_6) fun X_ w_ => ?_
    have c0_ := ca; refine goX @eN ?_; first | exact trivial | skip
theorem pTable {c : Co} {q w : List Int} (hc : c.ok) (hq : q.length ≤ 9223372036854775807) (hw : w.length ≤ 9223372036854775807) : Sound Try.prog 17 [co c, .sl 1 (is q), .sl 1 (is w)] (.sl 1 (tt (tableD c q w))) := by
  unfold tableD
  by_cases h : may c q = true ∧ w.length ≤ 20
  · rw [if_pos h]; exact pTable1 hc h.1 h.2
  · rw [if_neg h]; exact (pTableN hc hq hw h).wk (Wks.refl _) (.nil 1)
set_option maxHeartbeats 4000000 in
set_option maxRecDepth 10000 in
theorem pOf {c : Co} {q w : List Int} (hc : c.ok) (hq : q.length ≤ 9223372036854775807) (hw : w.length ≤ 9223372036854775807) : Sound Try.prog 15 [co c, .sl 1 (is q), .sl 1 (is w)] (.int .u64 (ofD c q w)) := by
  by_cases h : may c q = true ∧ w.length ≤ 20
  · have ct := pTable1 hc h.1 h.2
    obtain ⟨hq2, hk⟩ := may_iff.1 h.1
    have hg := tbl_good (all_steps hc hk q w) (by rw [allF_len]; omega)
    have hl : (tbl (allF c q (q.length + 1)) w).length = q.length + 1 := by rw [hg.shape.1, allF_len]
    have hr : ((tbl (allF c q (q.length + 1)) w)[q.length]!).length = w.length + 1 := hg.shape.2 _ (by rw [allF_len]; omega)
    have e : ofD c q w = ((tbl (allF c q (q.length + 1)) w)[q.length]!)[w.length]! := if_pos h
    rw [e]
    generalize tbl (allF c q (q.length + 1)) w = t at *
    unfold co at ct ⊢
    refine Sound.run (N := 24) Try.func15 rfl (by kernel_rfl) rfl rfl rfl (by first | exact args0_0 | exact args0_1 | exact args0_2 | exact args0_3 | exact args0_4 | exact args0_5 | exact args0_6) fun X_ w_ => ?_
    have c0_ := ct; refine goX @hl ?_; first | exact trivial | skip
  · have ct := pTableN hc hq hw h
    have e : ofD c q w = 18446744073709551615 := if_neg h
    rw [e]
    unfold co at ct ⊢
    refine Sound.run (N := 24) Try.func15 rfl (by kernel_rfl) rfl rfl rfl (by first | exact args0_0 | exact args0_1 | exact args0_2 | exact args0_3 | exact args0_4 | exact args0_5 | exact args0_6) fun X_ w_ => ?_
    have c0_ := ct; refine goT ?_; first | exact trivial | skip
def fewD (c : Co) (q w : List Int) : Bool := fewR c.rules 300 && decide ((q.length : Int) ≤ 100) && decide ((w.length : Int) ≤ 100)
theorem fewD_iff {c : Co} {q w : List Int} : fewD c q w = true ↔ fewR c.rules 300 = true ∧ q.length ≤ 100 ∧ w.length ≤ 100 := by simp only [fewD, Bool.and_eq_true, decide_eq_true_eq]; constructor <;> rintro h <;> refine ⟨?_, ?_⟩ <;> first | omega | (refine ⟨?_, ?_⟩; exact h.1; omega) | (exact h.1.1) | (constructor <;> omega)
set_option maxHeartbeats 4000000 in
set_option maxRecDepth 10000 in
theorem pFewD {c : Co} {q w : List Int} (hc : c.ok) (hq : q.length ≤ 9223372036854775807) (hw : w.length ≤ 9223372036854775807) : Sound Try.prog 13 [co c, .sl 1 (is q), .sl 1 (is w)] (.bool (fewD c q w)) := by
  have cf := rFewR (n := 300) hc.2.2.2.2.1 hc.2.2.2.2.2
  have e : fewD c q w = (fewR c.rules 300 && decide ((q.length : Int) ≤ 100) && decide ((w.length : Int) ≤ 100)) := rfl
  unfold co
  cases hf : fewR c.rules 300
  · rw [hf] at cf e
    simp only [Bool.false_and] at e
    refine Sound.run (N := 20) Try.func13 rfl (by kernel_rfl) rfl rfl rfl (by first | exact args0_0 | exact args0_1 | exact args0_2 | exact args0_3 | exact args0_4 | exact args0_5 | exact args0_6) fun X_ w_ => ?_
    have c0_ := cf; refine goX @e ?_; first | exact trivial | skip
  rw [hf] at cf e
  by_cases h1 : q.length ≤ 100
  · by_cases h2 : w.length ≤ 100
    · have e : fewD c q w = true := by rw [e]; simp; omega
      refine Sound.run (N := 20) Try.func13 rfl (by kernel_rfl) rfl rfl rfl (by first | exact args0_0 | exact args0_1 | exact args0_2 | exact args0_3 | exact args0_4 | exact args0_5 | exact args0_6) fun X_ w_ => ?_
      have c0_ := cf; refine goX @e ?_; first | exact trivial | skip
    · have e : fewD c q w = false := by rw [e]; simp; omega
      refine Sound.run (N := 20) Try.func13 rfl (by kernel_rfl) rfl rfl rfl (by first | exact args0_0 | exact args0_1 | exact args0_2 | exact args0_3 | exact args0_4 | exact args0_5 | exact args0_6) fun X_ w_ => ?_
      have c0_ := cf; refine goX @e ?_; first | exact trivial | skip
  · have e : fewD c q w = false := by rw [e]; simp; omega
    refine Sound.run (N := 20) Try.func13 rfl (by kernel_rfl) rfl rfl rfl (by first | exact args0_0 | exact args0_1 | exact args0_2 | exact args0_3 | exact args0_4 | exact args0_5 | exact args0_6) fun X_ w_ => ?_
    have c0_ := cf; refine goX @e ?_; first | exact trivial | skip
def cD1 : Co := ⟨1, 1, 1, 1, []⟩
def cD9 : Co := ⟨9, 9, 9, 9, [⟨[102], [112, 104], 2⟩]⟩
theorem ok_D1 : cD1.ok := by unfold Co.ok cD1 U Ru.ok; decide
theorem ok_D9 : cD9.ok := by unfold Co.ok cD9 U Ru.ok; decide
def cDI : Co := ⟨18446744073709551615, 0, 0, 0, []⟩
theorem ok_DI : cDI.ok := by unfold Co.ok cDI U Ru.ok; decide
theorem tab_D1 : tableD cD1 [97, 98] [98, 97] = [[0, 1, 2], [1, 1, 1], [2, 1, 1]] := by decide +kernel
theorem of_D9 : ofD cD9 [102, 97] [112, 104, 97] = 2 := by decide +kernel
theorem of_I : ofD cDI [] [] = 18446744073709551615 := by decide +kernel
theorem of_D1 : ofD cD1 [] [] = 0 := by decide +kernel
set_option maxHeartbeats 4000000 in
set_option maxRecDepth 10000 in
theorem distAwake : Sound Try.prog 12 [] (.bool true) := by
  have d1 := pTable (c := cD1) (q := [97, 98]) (w := [98, 97]) ok_D1 (by decide) (by decide)
  rw [tab_D1] at d1
  have d2 := pOf (c := cD9) (q := [102, 97]) (w := [112, 104, 97]) ok_D9 (by decide) (by decide)
  rw [of_D9] at d2
  have d3 := pOf (c := cDI) (q := []) (w := []) ok_DI (by decide) (by decide)
  rw [of_I] at d3
  have d4 := pOf (c := cD1) (q := []) (w := []) ok_D1 (by decide) (by decide)
  rw [of_D1] at d4
  have d1 := d1.wk (as' := [.agg [.int .u64 1, .int .u64 1, .int .u64 1, .int .u64 1, .nils], .sl 1 (is [97, 98]), .sl 1 (is [98, 97])]) (.cons (.agg (.cons (.refl _) (.cons (.refl _) (.cons (.refl _) (.cons (.refl _) (.cons (.nil 3) .nil)))))) (.cons (.refl _) (.cons (.refl _) .nil))) (.refl _)
  have d3 := d3.wk (as' := [.agg [.int .u64 18446744073709551615, .int .u64 0, .int .u64 0, .int .u64 0, .nils], .nils, .nils]) (.cons (.agg (.cons (.refl _) (.cons (.refl _) (.cons (.refl _) (.cons (.refl _) (.cons (.nil 3) .nil)))))) (.cons (.nil 1) (.cons (.nil 1) .nil))) (.refl _)
  have d4 := d4.wk (as' := [.agg [.int .u64 1, .int .u64 1, .int .u64 1, .int .u64 1, .nils], .nils, .nils]) (.cons (.agg (.cons (.refl _) (.cons (.refl _) (.cons (.refl _) (.cons (.refl _) (.cons (.nil 3) .nil)))))) (.cons (.nil 1) (.cons (.nil 1) .nil))) (.refl _)
  simp only [co, cD9, rs, ru, is, tt, us, List.map_cons, List.map_nil] at d1 d2 d3 d4
  refine Sound.run (N := 63) Try.func12 rfl (by kernel_rfl) rfl rfl rfl (by first | exact args0_0 | exact args0_1 | exact args0_2 | exact args0_3 | exact args0_4 | exact args0_5 | exact args0_6) fun X_ w_ => ?_
  have c0_ := d1; repeat ((fail_if_success (with_reducible show WP _ _ (.region 4 _ _) _ _)); first | with_reducible exact Ev.nil | with_reducible exact gd_n | ((with_reducible apply lk_ok); rfl) | ((with_reducible apply gslot_ok); rfl) | ((with_reducible apply v2d_ok); rfl) | with_reducible apply then_n | with_reducible apply WP_seq | with_reducible apply WP_skip | ((with_reducible apply WP_r (N := 63) rfl rfl); (focus simp only [Nat.reduceAdd] <;> rfl)) | ((with_reducible apply WP_d (N := 63) mixed rfl rfl); (focus simp only [Nat.reduceAdd] <;> rfl)) | ((with_reducible apply Ev_s); (focus first | (apply gd_u; (focus rfl); rfl) | (apply gd_f; (focus rfl); (focus rfl); rfl))) | ((with_reducible apply Ev_sn); (focus first | (apply gd_u; (focus rfl); rfl) | (apply gd_f; (focus rfl); (focus rfl); rfl))) | with_reducible apply gd_t | with_reducible apply Ev_mv | with_reducible apply Ev_as | with_reducible apply Ev_mc | with_reducible apply Ev_ac | ((first | (with_reducible apply Ev_pt) | (with_reducible apply Ev_ptc)); (focus rfl)) | ((first | (with_reducible apply Ev_pf) | (with_reducible apply Ev_pfc)); (focus rfl)) | (apply Ev_cf; (focus simp (disch := omega) only [go_sem] <;> rfl); (focus first | exact c0_); (focus rfl); (focus first | (simp (disch := omega) only [go_sem] <;> rfl) | rfl)) | ((with_reducible apply Ev_d); (focus simp only [Nat.reduceAdd] <;> rfl); (focus simp (disch := omega) only [go_sem] <;> rfl)) | (apply Ev_cv; (focus rfl); (focus simp (disch := omega) only [go_sem] <;> rfl); (focus first | exact c0_); (iterate 3 (focus first | (simp (disch := omega) only [go_sem] <;> rfl) | rfl))) | ((first | apply Ev_cmd | apply Ev_cmn); (focus simp only [Nat.reduceAdd] <;> rfl); (focus rfl); (iterate 2 (focus simp (disch := omega) only [go_sem] <;> rfl)); (first | ((focus first | exact c0_); (iterate 2 (focus first | (simp (disch := omega) only [go_sem] <;> rfl) | rfl)); (focus rfl); (iterate 3 (focus first | (simp (disch := omega) only [go_sem] <;> rfl) | rfl))))) | ((first | (with_reducible apply Ev_od) | (with_reducible apply Ev_on)); (focus simp only [Nat.reduceAdd] <;> rfl); (focus simp (disch := omega) only [go_sem] <;> rfl); (focus first | (simp (disch := omega) only [go_sem] <;> rfl) | rfl)) | with_reducible apply endM_n | with_reducible apply endM_r | with_reducible apply then_r | with_reducible apply then_x | with_reducible apply block_n | with_reducible apply block_r | with_reducible apply block_x | with_reducible apply block_y rfl | with_reducible apply scope_n | with_reducible apply scope_r | with_reducible apply scope_x | with_reducible apply end_n | with_reducible apply end_r | with_reducible apply WP_block | with_reducible apply WP_exit | with_reducible apply WP_ret | with_reducible apply WP_label | with_reducible apply WP_scope | ((with_reducible apply WP_t); (focus first | (simp (disch := omega) only [go_sem] <;> rfl) | rfl)) | ((with_reducible apply WP_f); (focus first | (simp (disch := omega) only [go_sem] <;> rfl) | rfl)) | ((with_reducible apply resD_t); (focus rfl)) | ((with_reducible apply resD_2); (focus rfl); (focus rfl)) | (with_reducible rfl) | ((with_reducible show List.map outKeys _ = _); simp only [List.map_cons, List.map_nil, outKeys, keys]; rfl) | ((with_reducible show orderOk _ _ = true); kernel_rfl) | ((with_reducible show _ = _); simp (disch := omega) only [go_sem] <;> rfl) | ((fail_if_success (with_reducible show Ev _ _ _ _ (_ :: _) _ _ _ _ _)); (show Ev _ _ _ _ (_ :: _) _ _ _ _ _)) | fail)
  refine WP_fix 3005 rfl rfl rfl rfl (by simp (disch := omega) only [go_sem]; rfl) ?_
  have c0_ := d1; have c1_ := d2; have c2_ := d3; have c3_ := d4; refine goT ?_; first | exact trivial | skip
end Go.Eng.Try
set_option linter.unusedVariables false
set_option linter.unusedSimpArgs false
namespace Go.Eng.Try
open Go Go.Eng Go.Proofs Go.RowKit
attribute [local go_sem] evFold rnE ksE roundE frz frzs List.set_cons_zero List.set_cons_succ List.zip_cons_cons List.zip_nil_right List.foldl_cons List.foldl_nil D.flat rns AV.rn HO.rn AV.ks kss HO.ks sg dedup objKs reach passE fresh List.filter fnOf evOp opnd lk v2d v2ds just evBin intBin nilBin isNil strBin evUn evLoad ldD ldA evStore evField evIndex evBuild fillA evBuildSlice evAppend evAppendClip elems evMake evSlice evSliceO evSliceX evSliceY evViewV evStoreX evStoreT stT stI evCopyT evAppendT evAppendTD ldT ldI Tb.inn Tb.ilen Tb.nilAt Tb.ini D.put evCut evView evCopy evAppendV evAgg evMakeMap evLookup evMapUpd evRange evEntry cellsD AV.kb splice List.getLast?_append resM resAs resA resD keepL List.replicate_zero List.take_length ofInt evLen evMin evMax evConv evNil evExtract evBuiltin toD toDs allD pack splice D.comps AV.comps AV.sto D.cell D.rebuild inOrder allFlat del put setE eff gd gslot kills Option.map_some Option.map_none Option.bind_some Option.isSome_some List.map_cons List.map_nil List.append_nil List.nil_append List.cons_append List.length_cons List.length_nil List.length_map List.length_append List.take_zero List.take_succ_cons List.take_nil List.drop_zero List.drop_succ_cons List.drop_nil List.getElem?_cons_zero List.getElem?_cons_succ List.getElem?_map List.all_cons List.all_nil List.mem_cons List.not_mem_nil List.elem_cons List.elem_nil Bool.and_true Bool.true_and Bool.and_self Bool.not_true Bool.not_false Bool.or_true Bool.or_false and_self and_true true_and or_false false_or or_true true_or not_false_eq_true not_true_eq_false if_true if_false decide_true decide_false decide_eq_true_eq Int.toNat_natCast Int.toNat_zero beq_self_eq_true bne_self_eq_false Bool.false_eq_true Nat.add_zero Nat.zero_add tys room le_i lt_i eq_n le_n lt_n len0 gdE bb_tf bb_ft mapP arrL if_min tdiv_nn tmod_nn us_len us_get wrap_i64 wrap_u64 dec_lt dec_nlt dec_le dec_nle beq_t beq_f bne_t bne_f get_lt gt_iff_lt ge_iff_le
attribute [local go_sem ↓] map_P reduceIte
attribute [local go_sem] reduceCtorEq Nat.reduceEqDiff Nat.reduceAdd Nat.reduceSub Nat.reduceMul Nat.reduceLeDiff Nat.reduceLT Nat.reduceBEq Nat.reduceBNe Int.reduceToNat Int.reduceLT Int.reduceLE Int.reduceEq Int.reduceAdd Int.reduceSub Int.reduceNeg Int.reduceBEq Int.reduceBNe
attribute [local go_sem] is_len is_get
structure Ar where
  sign : Int
  to : Int
deriving DecidableEq
instance : Inhabited Ar := ⟨⟨0, 0⟩⟩
structure Sta where
  final : Bool
  arcs : List Ar
deriving DecidableEq
instance : Inhabited Sta := ⟨⟨false, []⟩⟩
def ar (a : Ar) : D := .agg [.int .i64 a.sign, .int .i64 a.to]
def ars (l : List Ar) : List D := l.map ar
def sta (s : Sta) : D := .agg [.bool s.final, .sl 2 (ars s.arcs)]
def stas (l : List Sta) : List D := l.map sta
theorem ars_len {l : List Ar} : (ars l).length = l.length := by simp [ars]
theorem ars_get {l : List Ar} {k : Nat} (h : k < l.length) : (ars l)[k]? = some (.agg [.int .i64 (l[k]!).sign, .int .i64 (l[k]!).to]) := by
  simp [ars, ar, List.getElem?_eq_getElem h, getElem!_pos l k h]
theorem stas_len {l : List Sta} : (stas l).length = l.length := by simp [stas]
theorem stas_get {l : List Sta} {k : Nat} (h : k < l.length) : (stas l)[k]? = some (.agg [.bool (l[k]!).final, .sl 2 (ars (l[k]!).arcs)]) := by
  simp [stas, sta, List.getElem?_eq_getElem h, getElem!_pos l k h]
attribute [local go_sem] ars_len ars_get stas_len stas_get
/-- How much an automaton may be at most, that a call hands in. -/
def StaOk (l : List Sta) : Prop := l.length ≤ 9223372036854775807 ∧ ∀ s ∈ l, s.arcs.length ≤ 9223372036854775807
theorem StaOk.get {l : List Sta} (h : StaOk l) {k : Nat} (hk : k < l.length) : (l[k]!).arcs.length ≤ 9223372036854775807 := by
  rw [getElem!_pos l k hk]; exact h.2 _ (List.getElem_mem hk)
def arcOk (i n last : Int) (a : Ar) : Bool := decide (last < a.sign) && gsign a.sign && decide (i < a.to) && decide (a.to < n)
def arcsOk (i n : Int) : Int → List Ar → Bool
  | _, [] => true
  | last, a :: t => arcOk i n last a && arcsOk i n a.sign t
def lastS : Int → List Ar → Int
  | last, [] => last
  | _, a :: t => lastS a.sign t
/-- What the last sign was when the first arc came that may not be. -/
def stopS (i n : Int) : Int → List Ar → Int
  | last, [] => last
  | last, a :: t => if arcOk i n last a = true then stopS i n a.sign t else a.sign
def idxA (i n : Int) : Int → List Ar → Int
  | _, [] => -1
  | last, a :: t => if arcOk i n last a = true then (if idxA i n a.sign t < 0 then -1 else idxA i n a.sign t + 1) else 0
theorem lastS_snoc (last : Int) (l : List Ar) (a : Ar) : lastS last (l ++ [a]) = a.sign := by
  induction l generalizing last with
  | nil => rfl
  | cons b l ih => exact ih _
theorem arcsOk_app (i n last : Int) (l t : List Ar) : arcsOk i n last (l ++ t) = (arcsOk i n last l && arcsOk i n (lastS last l) t) := by
  induction l generalizing last with
  | nil => simp [arcsOk, lastS]
  | cons b l ih => simp only [List.cons_append, arcsOk, lastS, ih, Bool.and_assoc]
theorem stopS_app {i n last : Int} {l t : List Ar} (h : arcsOk i n last l = true) : stopS i n last (l ++ t) = stopS i n (lastS last l) t := by
  induction l generalizing last with
  | nil => rfl
  | cons b l ih =>
    simp only [arcsOk, Bool.and_eq_true] at h
    simp only [List.cons_append, stopS, h.1, if_true, lastS, ih h.2]
theorem idxA_iff (i n : Int) : ∀ (l : List Ar) (last : Int), decide (0 ≤ idxA i n last l) = !arcsOk i n last l
  | [], _ => rfl
  | a :: t, last => by
    have ih := idxA_iff i n t a.sign
    have e1 : arcsOk i n last (a :: t) = (arcOk i n last a && arcsOk i n a.sign t) := rfl
    by_cases h : arcOk i n last a = true
    · have e : idxA i n last (a :: t) = if idxA i n a.sign t < 0 then -1 else idxA i n a.sign t + 1 := by simp [idxA, h]
      rw [e1, h, Bool.true_and, ← ih]
      generalize idxA i n last (a :: t) = v at e ⊢
      generalize idxA i n a.sign t = u at e ⊢
      subst e
      by_cases h2 : u < 0
      · simp [h2]
      · simp [h2]; omega
    · have e : idxA i n last (a :: t) = 0 := by simp [idxA, h]
      rw [e, e1]
      simp only [Bool.not_eq_true] at h
      rw [h]; rfl
theorem idxA_app {i n last : Int} {l t : List Ar} (h : arcsOk i n last l = true) (h2 : 0 ≤ idxA i n (lastS last l) t) : idxA i n last (l ++ t) = l.length + idxA i n (lastS last l) t := by
  induction l generalizing last with
  | nil => simp [lastS]
  | cons b l ih =>
    simp only [arcsOk, Bool.and_eq_true] at h
    have := ih h.2 h2
    simp only [List.cons_append, idxA, h.1, if_true, lastS]
    rw [this, if_neg (by simp only [lastS] at h2 ⊢; omega)]
    simp only [List.length_cons, lastS]
    omega
theorem idxA_none {i n last : Int} {l : List Ar} (h : arcsOk i n last l = true) : idxA i n last l = -1 := by
  induction l generalizing last with
  | nil => rfl
  | cons b l ih =>
    simp only [arcsOk, Bool.and_eq_true] at h
    simp only [idxA, h.1, if_true, ih h.2]
    decide
theorem stopS_ok {i n last : Int} {l : List Ar} (h : arcsOk i n last l = true) : stopS i n last l = lastS last l := by
  have := stopS_app (t := []) h
  simpa [stopS] using this
theorem atake_snoc {α : Type} [Inhabited α] {l : List α} {k : Nat} (h : k < l.length) : l.take (k + 1) = l.take k ++ [l[k]!] := by
  rw [List.take_add_one, List.getElem?_eq_getElem h, getElem!_pos l k h]; rfl
theorem adrop_at {α : Type} [Inhabited α] {l : List α} {k : Nat} (h : k < l.length) : l.drop k = l[k]! :: l.drop (k + 1) := by
  rw [getElem!_pos l k h]; exact List.drop_eq_getElem_cons h
def statesOk (l : List Sta) (k : Nat) : Bool := (List.range k).all fun i => arcsOk i l.length (-1) (l[i]!).arcs
theorem statesOk_step (l : List Sta) (k : Nat) : statesOk l (k + 1) = (statesOk l k && arcsOk k l.length (-1) (l[k]!).arcs) := by simp [statesOk, List.range_succ]
/-- May an automaton be? -/
def achk (l : List Sta) : Bool := statesOk l l.length && decide (0 < l.length ∧ l.length ≤ 6001)
theorem statesOk_le {l : List Sta} {k : Nat} (h : statesOk l l.length = true) (hk : k < l.length) : arcsOk k l.length (-1) (l[k]!).arcs = true := List.all_eq_true.1 h k (List.mem_range.2 hk)
theorem achk_f {l : List Sta} {k : Nat} (hk : k < l.length) (h : arcsOk k l.length (-1) (l[k]!).arcs = false) : achk l = false := by
  unfold achk
  cases hs : statesOk l l.length
  · rfl
  · rw [statesOk_le hs hk] at h; cases h
set_option maxHeartbeats 4000000 in
set_option maxRecDepth 10000 in
theorem pWrongA {last i : Int} {l : List Sta} {a : Ar} (hl : l.length ≤ 9223372036854775807) : SoundM Try.prog 68 [.d (ar a), .ref 0 0, .ref 1 0, .ref 2 0]
    [(0, .var [.d (.int .i64 last)]), (1, .var [.d (.int .i64 i)]), (2, .var [.d (.sl 2 (stas l))])] (.d (.bool (!arcOk i l.length last a))) [(0, .var [.d (.int .i64 a.sign)]), (1, .var [.d (.int .i64 i)]), (2, .var [.d (.sl 2 (stas l))])] 3 := by
  have cg := utfGood (z := a.sign)
  unfold ar
  by_cases h1 : a.sign ≤ last
  · have e : arcOk i l.length last a = false := by unfold arcOk; rw [decide_eq_false (by omega)]; rfl
    rw [e]
    refine SoundM.run (N := 33) (ks := [0, 1, 2]) Try.func68 rfl (by kernel_rfl) rfl rfl rfl (by first | exact argsA_0 | exact argsA_1 | exact argsA_2 | exact argsA_3 | exact argsA_4 | exact argsA_5 | exact argsA_6) fun X_ ν_ w_ => ?_
    have c0_ := cg; refine goT ?_; first | exact trivial | skip
  have e1 : arcOk i l.length last a = (gsign a.sign && decide (i < a.to) && decide (a.to < l.length)) := by unfold arcOk; rw [decide_eq_true (by omega)]; rfl
  rw [e1]
  cases h2 : gsign a.sign
  · rw [h2] at cg
    refine SoundM.run (N := 33) (ks := [0, 1, 2]) Try.func68 rfl (by kernel_rfl) rfl rfl rfl (by first | exact argsA_0 | exact argsA_1 | exact argsA_2 | exact argsA_3 | exact argsA_4 | exact argsA_5 | exact argsA_6) fun X_ ν_ w_ => ?_
    have c0_ := cg; refine goX @Bool.false_and ?_; first | exact trivial | skip
  rw [h2] at cg
  by_cases h3 : a.to ≤ i
  · have e : (true && decide (i < a.to) && decide (a.to < l.length)) = false := by rw [decide_eq_false (by omega)]; rfl
    rw [e]
    refine SoundM.run (N := 33) (ks := [0, 1, 2]) Try.func68 rfl (by kernel_rfl) rfl rfl rfl (by first | exact argsA_0 | exact argsA_1 | exact argsA_2 | exact argsA_3 | exact argsA_4 | exact argsA_5 | exact argsA_6) fun X_ ν_ w_ => ?_
    have c0_ := cg; refine goT ?_; first | exact trivial | skip
  by_cases h4 : (l.length : Int) ≤ a.to
  · have e : (true && decide (i < a.to) && decide (a.to < l.length)) = false := by rw [decide_eq_true (by omega), decide_eq_false (by omega)]; rfl
    rw [e]
    refine SoundM.run (N := 33) (ks := [0, 1, 2]) Try.func68 rfl (by kernel_rfl) rfl rfl rfl (by first | exact argsA_0 | exact argsA_1 | exact argsA_2 | exact argsA_3 | exact argsA_4 | exact argsA_5 | exact argsA_6) fun X_ ν_ w_ => ?_
    have c0_ := cg; refine goT ?_; first | exact trivial | skip
  · have e : (true && decide (i < a.to) && decide (a.to < l.length)) = true := by rw [decide_eq_true (by omega), decide_eq_true (by omega)]; rfl
    rw [e]
    refine SoundM.run (N := 33) (ks := [0, 1, 2]) Try.func68 rfl (by kernel_rfl) rfl rfl rfl (by first | exact argsA_0 | exact argsA_1 | exact argsA_2 | exact argsA_3 | exact argsA_4 | exact argsA_5 | exact argsA_6) fun X_ ν_ w_ => ?_
    have c0_ := cg; refine goT ?_; first | exact trivial | skip
/-- What the closure looks at. -/
def Lst (last i : Int) (l : List Sta) : Heap := [(0, .var [.d (.int .i64 last)]), (1, .var [.d (.int .i64 i)]), (2, .var [.d (.sl 2 (stas l))])]
set_option maxHeartbeats 4000000 in
set_option maxRecDepth 10000 in
theorem pIndexA {last i : Int} {l : List Sta} {al : List Ar} (hl : l.length ≤ 9223372036854775807) (ha : al.length ≤ 9223372036854775807) : SoundM Try.prog 88 [.d (.sl 2 (ars al)), .fn 68 [.ref 0 0, .ref 1 0, .ref 2 0]]
    (Lst last i l) (.d (.int .i64 (idxA i l.length last al))) (Lst (stopS i l.length last al) i l) 3 := by
  unfold Lst
  refine SoundM.run (N := 19) (ks := [0, 1, 2]) Try.func88 rfl (by kernel_rfl) rfl rfl rfl (by first | exact argsA_0 | exact argsA_1 | exact argsA_2 | exact argsA_3 | exact argsA_4 | exact argsA_5 | exact argsA_6) fun X_ ν_ w_ => ?_
  refine goT ?_; first | exact trivial | skip
  refine WP_loopk (fun k : Nat => k ≤ al.length ∧ arcsOk i l.length last (al.take k) = true) (fun k => [(0, .d (.sl 2 (ars al))), (1, .fn 68 [.ref 0 0, .ref 1 0, .ref 2 0]), (7, .d (.int .i64 al.length)), (8, .d (.int .i64 k))]) (fun k => [(0, .var [.d (.int .i64 (lastS last (al.take k)))]), (1, .var [.d (.int .i64 i)]), (2, .var [.d (.sl 2 (stas l))])]) 3 (fun k => al.length - k) [0, 1, 7, 8] [0, 1, 2] 0 ⟨Nat.zero_le _, rfl⟩ rfl rfl (Nat.le_of_ble_eq_true rfl) (fun _ _ => rfl) (fun _ _ => rfl) fun k hk => ?_
  obtain ⟨hk1, hk2⟩ := hk
  by_cases hk3 : k < al.length
  · have cw := pWrongA (last := lastS last (al.take k)) (i := i) (a := al[k]!) hl
    have hs := atake_snoc hk3
    have hd := adrop_at hk3
    unfold ar at cw
    cases hb : arcOk i l.length (lastS last (al.take k)) (al[k]!)
    · rw [hb] at cw
      have e1 : idxA i l.length last al = k := by
        have := idxA_app (t := al.drop k) hk2 (by rw [hd]; simp only [idxA, hb]; rw [if_neg (by decide)]; exact Int.le_refl _)
        rw [List.take_append_drop] at this
        rw [this, hd]
        simp only [idxA, hb, List.length_take]
        simp only [Bool.false_eq_true, if_false]
        omega
      have e2 : stopS i l.length last al = (al[k]!).sign := by
        have := stopS_app (t := al.drop k) hk2
        rw [List.take_append_drop] at this
        rw [this, hd]
        simp only [stopS, hb, Bool.false_eq_true, if_false]
      rw [e1, e2]
      have c0_ := cw; refine goT ?_; first | exact trivial | skip
    · rw [hb] at cw
      have e1 := lastS_snoc last (al.take k) (al[k]!)
      have e2 : arcsOk i l.length last (al.take (k + 1)) = true := by rw [hs, arcsOk_app, hk2]; simp only [arcsOk, hb, Bool.and_true]
      have c0_ := cw; refine goT ?_; first | exact trivial | skip
      refine ⟨k + 1, ⟨by omega, e2⟩, ?_, ?_, by omega⟩
      · simp (disch := omega) only [go_sem, keepL, Int.natCast_add, Int.cast_ofNat_Int]
      · rw [hs, e1]
        simp (disch := omega) only [go_sem, keepL]
  · have hkl : k = al.length := by omega
    subst hkl
    rw [List.take_length] at hk2 ⊢
    rw [idxA_none hk2, stopS_ok hk2]
    refine goT ?_; first | exact trivial | skip
set_option maxHeartbeats 4000000 in
set_option maxRecDepth 10000 in
theorem pContA {last i : Int} {l : List Sta} {al : List Ar} (hl : l.length ≤ 9223372036854775807) (ha : al.length ≤ 9223372036854775807) : SoundM Try.prog 70 [.d (.sl 2 (ars al)), .fn 68 [.ref 0 0, .ref 1 0, .ref 2 0]]
    (Lst last i l) (.d (.bool (!arcsOk i l.length last al))) (Lst (stopS i l.length last al) i l) 3 := by
  have ci := pIndexA (last := last) (i := i) hl ha
  have e := idxA_iff i l.length al last
  unfold Lst at ci ⊢
  refine SoundM.run (N := 9) (ks := [0, 1, 2]) Try.func70 rfl (by kernel_rfl) rfl rfl rfl (by first | exact argsA_0 | exact argsA_1 | exact argsA_2 | exact argsA_3 | exact argsA_4 | exact argsA_5 | exact argsA_6) fun X_ ν_ w_ => ?_
  have c0_ := ci; refine goX @e ?_; first | exact trivial | skip
set_option maxHeartbeats 4000000 in
set_option maxRecDepth 10000 in
theorem pCheckA {l : List Sta} (hl : StaOk l) : Sound Try.prog 36 [.sl 2 (stas l)] (.bool (achk l)) := by
  obtain ⟨hlen, hal⟩ := id hl
  refine Sound.run (N := 28) Try.func36 rfl (by kernel_rfl) rfl rfl rfl (by first | exact args0_0 | exact args0_1 | exact args0_2 | exact args0_3 | exact args0_4 | exact args0_5 | exact args0_6) fun X_ w_ => ?_
  refine goT ?_; first | exact trivial | skip
  refine WP_loopk (fun k : Nat => k ≤ l.length ∧ statesOk l k = true) (fun k => [(1, .ref 0 0), (7, .d (.sl 2 (stas l))), (8, .d (.int .i64 l.length)), (9, .d (.int .i64 k))]) (fun k => [(0, .var [.d (.sl 2 (stas l))])]) 1 (fun k => l.length - k) [1, 7, 8, 9] [0] 0 ⟨Nat.zero_le _, rfl⟩ rfl rfl (Nat.zero_le _) (fun _ _ => rfl) (fun _ _ => rfl) fun k hk => ?_
  obtain ⟨hk1, hk2⟩ := hk
  by_cases hk3 : k < l.length
  · have cc := pContA (last := -1) (i := k) (l := l) (al := (l[k]!).arcs) hlen (hl.get hk3)
    unfold Lst at cc
    cases hb : arcsOk k l.length (-1) (l[k]!).arcs
    · have e := achk_f hk3 hb
      rw [hb] at cc
      have c0_ := cc; refine goX @e ?_; first | exact trivial | skip
    · rw [hb] at cc
      have hst := statesOk_step l k
      have c0_ := cc; refine goT ?_; first | exact trivial | skip
      refine ⟨k + 1, ⟨by omega, by rw [hst, hk2, hb]; rfl⟩, ?_, ?_, by omega⟩
      · simp (disch := omega) only [go_sem, keepL, Int.natCast_add, Int.cast_ofNat_Int]
      · simp (disch := omega) only [go_sem, keepL]
  · have hkl : k = l.length := by omega
    subst hkl
    by_cases h0 : 0 < l.length
    · by_cases h1 : l.length ≤ 6001
      · have e : achk l = true := by unfold achk; rw [hk2, decide_eq_true ⟨h0, h1⟩]; rfl
        refine goX @e ?_; first | exact trivial | skip
      · have e : achk l = false := by unfold achk; rw [decide_eq_false (by omega)]; simp
        refine goX @e ?_; first | exact trivial | skip
    · have e : achk l = false := by unfold achk; rw [decide_eq_false (by omega)]; simp
      refine goX @e ?_; first | exact trivial | skip
end Go.Eng.Try

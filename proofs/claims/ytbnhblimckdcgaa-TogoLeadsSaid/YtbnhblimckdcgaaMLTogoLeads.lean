/- The laws of what it costs to finish: fewer rules; one more final state. (and what stands behind it: texts laid together) -/
import Derived.Test.YtbnhblimckdcgaaMG4
import Derived.Test.YtbnhblimckdcgaaMR18
set_option linter.unusedVariables false
set_option linter.unusedSimpArgs false
namespace Go.Eng.Try
open Go Go.Eng Go.Proofs Go.RowKit
attribute [local go_sem] evFold rnE ksE roundE frz frzs List.set_cons_zero List.set_cons_succ List.zip_cons_cons List.zip_nil_right List.foldl_cons List.foldl_nil D.flat rns AV.rn HO.rn AV.ks kss HO.ks sg dedup objKs reach passE fresh List.filter fnOf evOp opnd lk v2d v2ds just evBin intBin nilBin isNil strBin evUn evLoad ldD ldA evStore evField evIndex evBuild fillA evBuildSlice evAppend evAppendClip elems evMake evSlice evSliceO evSliceX evSliceY evViewV evStoreX evStoreT stT stI evCopyT evAppendT evAppendTD ldT ldI Tb.inn Tb.ilen Tb.nilAt Tb.ini D.put evCut evView evCopy evAppendV evAgg evMakeMap evLookup evMapUpd evRange evEntry cellsD AV.kb splice List.getLast?_append resM resAs resA resD keepL List.replicate_zero List.take_length ofInt evLen evMin evMax evConv evNil evExtract evBuiltin toD toDs allD pack splice D.comps AV.comps AV.sto D.cell D.rebuild inOrder allFlat del put setE eff gd gslot kills Option.map_some Option.map_none Option.bind_some Option.isSome_some List.map_cons List.map_nil List.append_nil List.nil_append List.cons_append List.length_cons List.length_nil List.length_map List.length_append List.take_zero List.take_succ_cons List.take_nil List.drop_zero List.drop_succ_cons List.drop_nil List.getElem?_cons_zero List.getElem?_cons_succ List.getElem?_map List.all_cons List.all_nil List.mem_cons List.not_mem_nil List.elem_cons List.elem_nil Bool.and_true Bool.true_and Bool.and_self Bool.not_true Bool.not_false Bool.or_true Bool.or_false and_self and_true true_and or_false false_or or_true true_or not_false_eq_true not_true_eq_false if_true if_false decide_true decide_false decide_eq_true_eq Int.toNat_natCast Int.toNat_zero beq_self_eq_true bne_self_eq_false Bool.false_eq_true Nat.add_zero Nat.zero_add tys room le_i lt_i eq_n le_n lt_n len0 gdE bb_tf bb_ft mapP arrL if_min tdiv_nn tmod_nn us_len us_get wrap_i64 wrap_u64 dec_lt dec_nlt dec_le dec_nle beq_t beq_f bne_t bne_f get_lt gt_iff_lt ge_iff_le
attribute [local go_sem ↓] map_P reduceIte
attribute [local go_sem] reduceCtorEq Nat.reduceEqDiff Nat.reduceAdd Nat.reduceSub Nat.reduceMul Nat.reduceLeDiff Nat.reduceLT Nat.reduceBEq Nat.reduceBNe Int.reduceToNat Int.reduceLT Int.reduceLE Int.reduceEq Int.reduceAdd Int.reduceSub Int.reduceNeg Int.reduceBEq Int.reduceBNe
attribute [local go_sem] is_len is_get rs_len rs_get ars_len ars_get stas_len stas_get tt_len tt_get dels
theorem table_small {c : Co} {q : List Int} {l : List Sta} (hc : c.ok) : (tableG c q l).length ≤ 21 := by
  by_cases h : mayG c q l = true
  · obtain ⟨h1, _, _, h4⟩ := tableG_TG hc h
    have := h4.len
    rw [allF_len] at this
    omega
  · unfold tableG; rw [if_neg h]; simp
set_option maxHeartbeats 4000000 in
set_option maxRecDepth 10000 in
theorem lawTFew {c : Co} {q : List Int} {l : List Sta} {n : Int} (hc : c.ok) (hq : q.length ≤ 9223372036854775807) (hl : StaOk l) (hn : 0 ≤ n ∧ n ≤ 255) : Sound Try.prog 10 [co c, .sl 1 (is q), .sl 2 (stas l), .int .u8 n] (.bool true) := by
  have cf := pFewG hc hq hl
  have aw := togoAwake
  have cc := sCheck hc
  cases hf : fewG c q l
  · rw [hf] at cf
    unfold co at cf ⊢
    refine Sound.run (N := 99) Try.func10 rfl (by kernel_rfl) rfl rfl rfl (by first | exact args0_0 | exact args0_1 | exact args0_2 | exact args0_3 | exact args0_4 | exact args0_5 | exact args0_6) fun X_ w_ => ?_
    have c0_ := aw; have c1_ := cf; refine goT ?_; first | exact trivial | skip
  rw [hf] at cf
  by_cases h1 : 20 < q.length
  · unfold co at cf ⊢
    refine Sound.run (N := 99) Try.func10 rfl (by kernel_rfl) rfl rfl rfl (by first | exact args0_0 | exact args0_1 | exact args0_2 | exact args0_3 | exact args0_4 | exact args0_5 | exact args0_6) fun X_ w_ => ?_
    have c0_ := aw; have c1_ := cf; refine goT ?_; first | exact trivial | skip
  cases hk : cok c
  · rw [hk] at cc
    unfold co at cf cc ⊢
    refine Sound.run (N := 99) Try.func10 rfl (by kernel_rfl) rfl rfl rfl (by first | exact args0_0 | exact args0_1 | exact args0_2 | exact args0_3 | exact args0_4 | exact args0_5 | exact args0_6) fun X_ w_ => ?_
    have c0_ := aw; have c1_ := cf; have c2_ := cc; refine goT ?_; first | exact trivial | skip
  rw [hk] at cc
  have hlr := fewR_len (fewG_iff.1 hf).2.1
  have hll := (fewA_iff.1 (fewG_iff.1 hf).1).2
  obtain ⟨k, hkn⟩ : ∃ k : Nat, n % ((c.rules.length : Int) + 1) = (k : Int) := Int.eq_ofNat_of_zero_le (Int.emod_nonneg _ (by omega))
  have hkl : k ≤ c.rules.length := by
    have := Int.emod_lt_of_pos n (show (0 : Int) < (c.rules.length : Int) + 1 by omega)
    omega
  have c1 := pTG (q := q) (l := l) hc hq hl
  have c2 := pTG (q := q) (l := l) (ok_take hc k) hq hl
  obtain ⟨g1, g2, g3⟩ := togo_few (q := q) (l := l) hc hk k
  have g4 := table_small (q := q) (l := l) hc
  generalize tableG c q l = t1 at *
  generalize tableG ⟨c.more, c.less, c.other, c.turned, c.rules.take k⟩ q l = t2 at *
  unfold co at cf cc c1 c2 ⊢
  refine Sound.run (N := 99) Try.func10 rfl (by kernel_rfl) rfl rfl rfl (by first | exact args0_0 | exact args0_1 | exact args0_2 | exact args0_3 | exact args0_4 | exact args0_5 | exact args0_6) fun X_ w_ => ?_
  have c0_ := aw; have c1_ := cf; have c2_ := cc; have c3_ := c1; have c4_ := c2; refine goX (And.intro @rs_take (And.intro @hkn @g1)) ?_; first | exact trivial | skip
  refine WP_loopk (fun i : Nat => i ≤ t1.length) (fun i => [(9, .d (.bool true)), (11, .d (.sl 1 (tt t1))), (12, .d (.sl 1 (tt t2))), (13, .d (.int .i64 i))]) (fun _ => []) 0 (fun i => t1.length - i) [9, 11, 12, 13] [] 0 (Nat.zero_le _) rfl rfl (Nat.le_refl _) (fun _ _ => rfl) (fun _ _ => rfl) fun i hi => ?_
  by_cases hi2 : i < t1.length
  · obtain ⟨a1, a2⟩ := g2 i hi2
    have a3 := fun k => g3 i k hi2
    refine goX (And.intro @a1 (And.intro @a2 @us_len)) ?_; first | exact trivial | skip
    refine WP_loopk (fun j : Nat => j ≤ l.length) (fun j => [(9, .d (.bool true)), (11, .d (.sl 1 (tt t1))), (12, .d (.sl 1 (tt t2))), (13, .d (.int .i64 i)), (14, .d (.int .i64 j))]) (fun _ => []) 0 (fun j => l.length - j) [9, 11, 12, 13, 14] [] 0 (Nat.zero_le _) rfl rfl (Nat.le_refl _) (fun _ _ => rfl) (fun _ _ => rfl) fun j hj => ?_
    by_cases hj2 : j < l.length
    · have a4 := a3 j hj2
      refine goX (And.intro @a1 (And.intro @a2 @us_len)) ?_; first | exact trivial | skip
      refine ⟨j + 1, by omega, ?_, rfl, by omega⟩
      simp (disch := omega) only [go_sem, keepL, Int.natCast_add, Int.cast_ofNat_Int]
    · have hjl : j = l.length := by omega
      subst hjl
      refine goX (And.intro @a1 @us_len) ?_; first | exact trivial | skip
      refine ⟨i + 1, by omega, ?_, rfl, by omega⟩
      simp (disch := omega) only [go_sem, keepL, Int.natCast_add, Int.cast_ofNat_Int]
  · have hil : i = t1.length := by omega
    subst hil
    refine goT ?_; first | exact trivial | skip
set_option maxHeartbeats 4000000 in
set_option maxRecDepth 10000 in
theorem lawTFinal {c : Co} {q : List Int} {l : List Sta} {n : Int} (hc : c.ok) (hq : q.length ≤ 9223372036854775807) (hl : StaOk l) (hn : 0 ≤ n ∧ n ≤ 255) : Sound Try.prog 11 [co c, .sl 1 (is q), .sl 2 (stas l), .int .u8 n] (.bool true) := by
  have cf := pFewG hc hq hl
  have aw := togoAwake
  have cc := sCheck hc
  have ca := pCheckA hl
  cases hf : fewG c q l
  · rw [hf] at cf
    unfold co at cf ⊢
    refine Sound.run (N := 133) Try.func11 rfl (by kernel_rfl) rfl rfl rfl (by first | exact args0_0 | exact args0_1 | exact args0_2 | exact args0_3 | exact args0_4 | exact args0_5 | exact args0_6) fun X_ w_ => ?_
    have c0_ := aw; have c1_ := cf; refine goT ?_; first | exact trivial | skip
  rw [hf] at cf
  by_cases h1 : 20 < q.length
  · unfold co at cf ⊢
    refine Sound.run (N := 133) Try.func11 rfl (by kernel_rfl) rfl rfl rfl (by first | exact args0_0 | exact args0_1 | exact args0_2 | exact args0_3 | exact args0_4 | exact args0_5 | exact args0_6) fun X_ w_ => ?_
    have c0_ := aw; have c1_ := cf; refine goT ?_; first | exact trivial | skip
  cases hk : cok c
  · rw [hk] at cc
    unfold co at cf cc ⊢
    refine Sound.run (N := 133) Try.func11 rfl (by kernel_rfl) rfl rfl rfl (by first | exact args0_0 | exact args0_1 | exact args0_2 | exact args0_3 | exact args0_4 | exact args0_5 | exact args0_6) fun X_ w_ => ?_
    have c0_ := aw; have c1_ := cf; have c2_ := cc; refine goT ?_; first | exact trivial | skip
  rw [hk] at cc
  cases hka : achk l
  · rw [hka] at ca
    unfold co at cf cc ⊢
    refine Sound.run (N := 133) Try.func11 rfl (by kernel_rfl) rfl rfl rfl (by first | exact args0_0 | exact args0_1 | exact args0_2 | exact args0_3 | exact args0_4 | exact args0_5 | exact args0_6) fun X_ w_ => ?_
    have c0_ := aw; have c1_ := cf; have c2_ := cc; have c3_ := ca; refine goT ?_; first | exact trivial | skip
  rw [hka] at ca
  have hll := (fewA_iff.1 (fewG_iff.1 hf).1).2
  have hl0 := (achk_iff.1 hka).2.1
  have hne : ¬ (l.length : Int) = 0 := by omega
  obtain ⟨k, hkn⟩ : ∃ k : Nat, n % (l.length : Int) = (k : Int) := Int.eq_ofNat_of_zero_le (Int.emod_nonneg _ (by omega))
  have hkl : k < l.length := by
    have := Int.emod_lt_of_pos n (show (0 : Int) < (l.length : Int) by omega)
    omega
  have hm : mayG c q l = true := by unfold mayG; rw [may_iff.2 ⟨by omega, hk⟩, hka]; rfl
  have c1 := pTG (q := q) (l := l) hc hq hl
  have c2 := pTG (q := q) hc hq (hl.setF hkl)
  obtain ⟨g0, ⟨g1, g2, g3⟩, g5⟩ := togo_final hc hm hkl
  unfold setF at c2 g1 g2 g3 g5
  generalize tableG c q l = t1 at *
  generalize tableG c q (l.set k ⟨true, (l[k]!).arcs⟩) = t2 at *
  have g6 : t2.length = q.length + 1 := by omega
  have eq1 : (q.length : Int) + 1 = ((q.length + 1 : Nat) : Int) := by omega
  obtain ⟨b1, b2⟩ := g2 q.length (by omega)
  unfold co at cf cc c1 c2 ⊢
  refine Sound.run (N := 133) Try.func11 rfl (by kernel_rfl) rfl rfl rfl (by first | exact args0_0 | exact args0_1 | exact args0_2 | exact args0_3 | exact args0_4 | exact args0_5 | exact args0_6) fun X_ w_ => ?_
  have c0_ := aw; have c1_ := cf; have c2_ := cc; have c3_ := ca; have c4_ := c1; have c5_ := c2; repeat (first | with_reducible exact Ev.nil | with_reducible exact gd_n | ((with_reducible apply lk_ok); rfl) | ((with_reducible apply gslot_ok); rfl) | ((with_reducible apply v2d_ok); rfl) | with_reducible apply then_n | with_reducible apply WP_seq | with_reducible apply WP_skip | ((with_reducible apply WP_r (N := 133) rfl rfl); (focus simp only [Nat.reduceAdd] <;> rfl)) | ((with_reducible apply WP_d (N := 133) mixed rfl rfl); (focus simp only [Nat.reduceAdd] <;> rfl)) | ((with_reducible apply Ev_s); (focus first | (apply gd_u; (focus rfl); rfl) | (apply gd_f; (focus rfl); (focus rfl); rfl))) | ((with_reducible apply Ev_sn); (focus first | (apply gd_u; (focus rfl); rfl) | (apply gd_f; (focus rfl); (focus rfl); rfl))) | with_reducible apply gd_t | with_reducible apply Ev_mv | with_reducible apply Ev_as | with_reducible apply Ev_mc | with_reducible apply Ev_ac | ((first | (with_reducible apply Ev_pt) | (with_reducible apply Ev_ptc)); (focus rfl)) | ((first | (with_reducible apply Ev_pf) | (with_reducible apply Ev_pfc)); (focus rfl)) | (apply Ev_cf; (focus simp (disch := omega) only [go_sem, hne, hkn, g0, g6, stas_set, List.length_set] <;> rfl); (focus first | exact c0_ | exact c1_ | exact c2_ | exact c3_ | exact c4_ | exact c5_); (focus rfl); (focus first | (simp (disch := omega) only [go_sem, hne, hkn, g0, g6, stas_set, List.length_set] <;> rfl) | rfl)) | ((with_reducible apply Ev_d); (focus simp only [Nat.reduceAdd] <;> rfl); (focus simp (disch := omega) only [go_sem, hne, hkn, g0, g6, stas_set, List.length_set] <;> rfl)) | (apply Ev_cv; (focus rfl); (focus simp (disch := omega) only [go_sem, hne, hkn, g0, g6, stas_set, List.length_set] <;> rfl); (focus first | exact c0_ | exact c1_ | exact c2_ | exact c3_ | exact c4_ | exact c5_); (iterate 3 (focus first | (simp (disch := omega) only [go_sem, hne, hkn, g0, g6, stas_set, List.length_set] <;> rfl) | rfl))) | ((first | apply Ev_cmd | apply Ev_cmn); (focus simp only [Nat.reduceAdd] <;> rfl); (focus rfl); (iterate 2 (focus simp (disch := omega) only [go_sem, hne, hkn, g0, g6, stas_set, List.length_set] <;> rfl)); (first | ((focus first | exact c0_ | exact c1_ | exact c2_ | exact c3_ | exact c4_ | exact c5_); (iterate 2 (focus first | (simp (disch := omega) only [go_sem, hne, hkn, g0, g6, stas_set, List.length_set] <;> rfl) | rfl)); (focus rfl); (iterate 3 (focus first | (simp (disch := omega) only [go_sem, hne, hkn, g0, g6, stas_set, List.length_set] <;> rfl) | rfl))))) | ((first | (with_reducible apply Ev_od) | (with_reducible apply Ev_on)); (focus simp only [Nat.reduceAdd] <;> rfl); (focus simp (disch := omega) only [go_sem, hne, hkn, g0, g6, stas_set, List.length_set] <;> rfl); (focus first | (simp (disch := omega) only [go_sem, hne, hkn, g0, g6, stas_set, List.length_set] <;> rfl) | rfl)) | with_reducible apply endM_n | with_reducible apply endM_r | with_reducible apply then_r | with_reducible apply then_x | with_reducible apply block_n | with_reducible apply block_r | with_reducible apply block_x | with_reducible apply block_y rfl | with_reducible apply scope_n | with_reducible apply scope_r | with_reducible apply scope_x | with_reducible apply end_n | with_reducible apply end_r | with_reducible apply WP_block | with_reducible apply WP_exit | with_reducible apply WP_ret | with_reducible apply WP_label | with_reducible apply WP_scope | ((with_reducible apply WP_t); (focus first | (simp (disch := omega) only [go_sem, hne, hkn, g0, g6, stas_set, List.length_set] <;> rfl) | rfl)) | ((with_reducible apply WP_f); (focus first | (simp (disch := omega) only [go_sem, hne, hkn, g0, g6, stas_set, List.length_set] <;> rfl) | rfl)) | ((with_reducible apply resD_t); (focus rfl)) | ((with_reducible apply resD_2); (focus rfl); (focus rfl)) | (with_reducible rfl) | ((with_reducible show List.map outKeys _ = _); simp only [List.map_cons, List.map_nil, outKeys, keys]; rfl) | ((with_reducible show orderOk _ _ = true); kernel_rfl) | ((with_reducible show _ = _); simp (disch := omega) only [go_sem, hne, hkn, g0, g6, stas_set, List.length_set] <;> rfl) | ((fail_if_success (with_reducible show Ev _ _ _ _ (_ :: _) _ _ _ _ _)); (show Ev _ _ _ _ (_ :: _) _ _ _ _ _)) | fail)
  refine WP_loopk (fun i : Nat => i ≤ q.length + 1) (fun i => [(1, .d (.sl 1 (is q))), (2, .d (.sl 2 (stas l))), (9, .d (.bool true)), (10, .d (.int .i64 k)), (12, .d (.sl 1 (tt t1))), (13, .d (.sl 1 (tt t2))), (14, .d (.int .i64 i))]) (fun _ => []) 0 (fun i => q.length + 1 - i) [1, 2, 9, 10, 12, 13, 14] [] 0 (Nat.zero_le _) rfl rfl (Nat.le_refl _) (fun _ _ => rfl) (fun _ _ => rfl) fun i hi => ?_
  by_cases hi2 : i < q.length + 1
  · obtain ⟨a1, a2⟩ := g2 i (by omega)
    have a3 := fun k => g3 i k (by omega)
    refine goX (And.intro @a1 (And.intro @a2 (And.intro @g0 (And.intro @g6 @us_len)))) ?_; first | exact trivial | skip
    refine WP_loopk (fun j : Nat => j ≤ l.length) (fun j => [(1, .d (.sl 1 (is q))), (2, .d (.sl 2 (stas l))), (9, .d (.bool true)), (10, .d (.int .i64 k)), (12, .d (.sl 1 (tt t1))), (13, .d (.sl 1 (tt t2))), (14, .d (.int .i64 i)), (15, .d (.int .i64 j))]) (fun _ => []) 0 (fun j => l.length - j) [1, 2, 9, 10, 12, 13, 14, 15] [] 0 (Nat.zero_le _) rfl rfl (Nat.le_refl _) (fun _ _ => rfl) (fun _ _ => rfl) fun j hj => ?_
    by_cases hj2 : j < l.length
    · have a4 := a3 j hj2
      refine goX (And.intro @a1 (And.intro @a2 (And.intro @g0 (And.intro @g6 @us_len)))) ?_; first | exact trivial | skip
      refine ⟨j + 1, by omega, ?_, rfl, by omega⟩
      simp (disch := omega) only [go_sem, keepL, Int.natCast_add, Int.cast_ofNat_Int]
    · have hjl : j = l.length := by omega
      subst hjl
      refine goX (And.intro @a1 @us_len) ?_; first | exact trivial | skip
      refine ⟨i + 1, by omega, ?_, rfl, by omega⟩
      simp (disch := omega) only [go_sem, keepL, Int.natCast_add, Int.cast_ofNat_Int]
  · have hil : i = q.length + 1 := by omega
    subst hil
    refine goX (And.intro @g0 (And.intro @g6 (And.intro @b1 (And.intro @b2 (And.intro @us_len @g5))))) ?_; first | exact trivial | skip
end Go.Eng.Try
set_option linter.unusedVariables false
set_option linter.unusedSimpArgs false
namespace Go.Eng.Try
open Go Go.Eng Go.Proofs Go.RowKit
attribute [local go_sem] evFold rnE ksE roundE frz frzs List.set_cons_zero List.set_cons_succ List.zip_cons_cons List.zip_nil_right List.foldl_cons List.foldl_nil D.flat rns AV.rn HO.rn AV.ks kss HO.ks sg dedup objKs reach passE fresh List.filter fnOf evOp opnd lk v2d v2ds just evBin intBin nilBin isNil strBin evUn evLoad ldD ldA evStore evField evIndex evBuild fillA evBuildSlice evAppend evAppendClip elems evMake evSlice evSliceO evSliceX evSliceY evViewV evStoreX evStoreT stT stI evCopyT evAppendT evAppendTD ldT ldI Tb.inn Tb.ilen Tb.nilAt Tb.ini D.put evCut evView evCopy evAppendV evAgg evMakeMap evLookup evMapUpd evRange evEntry cellsD AV.kb splice List.getLast?_append resM resAs resA resD keepL List.replicate_zero List.take_length ofInt evLen evMin evMax evConv evNil evExtract evBuiltin toD toDs allD pack splice D.comps AV.comps AV.sto D.cell D.rebuild inOrder allFlat del put setE eff gd gslot kills Option.map_some Option.map_none Option.bind_some Option.isSome_some List.map_cons List.map_nil List.append_nil List.nil_append List.cons_append List.length_cons List.length_nil List.length_map List.length_append List.take_zero List.take_succ_cons List.take_nil List.drop_zero List.drop_succ_cons List.drop_nil List.getElem?_cons_zero List.getElem?_cons_succ List.getElem?_map List.all_cons List.all_nil List.mem_cons List.not_mem_nil List.elem_cons List.elem_nil Bool.and_true Bool.true_and Bool.and_self Bool.not_true Bool.not_false Bool.or_true Bool.or_false and_self and_true true_and or_false false_or or_true true_or not_false_eq_true not_true_eq_false if_true if_false decide_true decide_false decide_eq_true_eq Int.toNat_natCast Int.toNat_zero beq_self_eq_true bne_self_eq_false Bool.false_eq_true Nat.add_zero Nat.zero_add tys room le_i lt_i eq_n le_n lt_n len0 gdE bb_tf bb_ft mapP arrL if_min tdiv_nn tmod_nn us_len us_get wrap_i64 wrap_u64 dec_lt dec_nlt dec_le dec_nle beq_t beq_f bne_t bne_f get_lt gt_iff_lt ge_iff_le
attribute [local go_sem ↓] map_P reduceIte
attribute [local go_sem] reduceCtorEq Nat.reduceEqDiff Nat.reduceAdd Nat.reduceSub Nat.reduceMul Nat.reduceLeDiff Nat.reduceLT Nat.reduceBEq Nat.reduceBNe Int.reduceToNat Int.reduceLT Int.reduceLE Int.reduceEq Int.reduceAdd Int.reduceSub Int.reduceNeg Int.reduceBEq Int.reduceBNe
attribute [local go_sem] is_len is_get rs_len rs_get ars_len ars_get stas_len stas_get tt_len tt_get dels
theorem is_appL {a b : List Int} : is a ++ is b = is (a ++ b) := by simp [is]
set_option maxHeartbeats 4000000 in
set_option maxRecDepth 10000 in
theorem lawTLeads {c : Co} {q a b : List Int} {l : List Sta} (hc : c.ok) (hq : q.length ≤ 9223372036854775807) (hl : StaOk l) (ha : a.length ≤ 9223372036854775807) (hb : b.length ≤ 9223372036854775807) : Sound Try.prog 9 [co c, .sl 1 (is q), .sl 2 (stas l), .sl 1 (is a), .sl 1 (is b)] (.bool true) := by
  have cf := pFewG hc hq hl
  have aw := togoAwake
  have cc := sCheck hc
  have ca := pCheckA hl
  cases hf : fewG c q l
  · rw [hf] at cf
    unfold co at cf ⊢
    refine Sound.run (N := 260) Try.func9 rfl (by kernel_rfl) rfl rfl rfl (by first | exact args0_0 | exact args0_1 | exact args0_2 | exact args0_3 | exact args0_4 | exact args0_5 | exact args0_6) fun X_ w_ => ?_
    have c0_ := aw; have c1_ := cf; refine goT ?_; first | exact trivial | skip
  rw [hf] at cf
  by_cases h1 : 100 < a.length
  · unfold co at cf ⊢
    refine Sound.run (N := 260) Try.func9 rfl (by kernel_rfl) rfl rfl rfl (by first | exact args0_0 | exact args0_1 | exact args0_2 | exact args0_3 | exact args0_4 | exact args0_5 | exact args0_6) fun X_ w_ => ?_
    have c0_ := aw; have c1_ := cf; refine goT ?_; first | exact trivial | skip
  by_cases h2 : 100 < b.length
  · unfold co at cf ⊢
    refine Sound.run (N := 260) Try.func9 rfl (by kernel_rfl) rfl rfl rfl (by first | exact args0_0 | exact args0_1 | exact args0_2 | exact args0_3 | exact args0_4 | exact args0_5 | exact args0_6) fun X_ w_ => ?_
    have c0_ := aw; have c1_ := cf; refine goT ?_; first | exact trivial | skip
  cases hka : achk l
  · rw [hka] at ca
    unfold co at cf ⊢
    refine Sound.run (N := 260) Try.func9 rfl (by kernel_rfl) rfl rfl rfl (by first | exact args0_0 | exact args0_1 | exact args0_2 | exact args0_3 | exact args0_4 | exact args0_5 | exact args0_6) fun X_ w_ => ?_
    have c0_ := aw; have c1_ := cf; have c2_ := ca; refine goT ?_; first | exact trivial | skip
  rw [hka] at ca
  have hll := (fewA_iff.1 (fewG_iff.1 hf).1).2
  have hq2 := (fewG_iff.1 hf).2.2
  have harcs := (fewA_iff.1 (fewG_iff.1 hf).1).1
  have hl0 := (achk_iff.1 hka).2.1
  have c1 := pTG (q := q) (l := l) hc hq hl
  have g4 := table_small (q := q) (l := l) hc
  -- the table: as many rows, or none
  have gt : (decide (0 < (tableG c q l).length)) = (cok c && decide (q.length ≤ 20)) := by
    cases hm : mayG c q l
    · have e1 : tableG c q l = [] := if_neg (by rw [hm]; simp)
      rw [e1]
      unfold mayG may at hm
      rw [hka, Bool.and_true, Bool.and_comm] at hm
      rw [hm]; rfl
    · obtain ⟨x1, x2, _, x4⟩ := tableG_TG hc hm
      have := x4.len
      rw [allF_len] at this
      rw [x2, decide_eq_true (by omega), decide_eq_true x1]; rfl
  have gl : ∀ i, i < (tableG c q l).length → (tableG c q l).length = q.length + 1 ∧ ((tableG c q l)[i]!).length = l.length := fun i hi => by
    cases hm : mayG c q l
    · rw [show tableG c q l = [] from if_neg (by rw [hm]; simp)] at hi; simp at hi
    · obtain ⟨x1, x2, _, x4⟩ := tableG_TG hc hm
      have := x4.len
      rw [allF_len] at this
      exact ⟨this, x4.rows i (by rw [allF_len]; omega)⟩
  have gk : ∀ i k, i + 1 < (tableG c q l).length → k < l.length → ((tableG c q l)[i]!)[k]! ≤ cadd c.less (((tableG c q l)[i + 1]!)[k]!) ∧ ∀ a ∈ (l[k]!).arcs, ((tableG c q l)[i]!)[k]! ≤ cadd c.other (((tableG c q l)[i + 1]!)[a.to.toNat]!) ∧ ((tableG c q l)[i]!)[k]! ≤ cadd c.more (((tableG c q l)[i]!)[a.to.toNat]!) ∧ (a.sign = q[i]! → ((tableG c q l)[i]!)[k]! ≤ ((tableG c q l)[i + 1]!)[a.to.toNat]!) := fun i k hi hk => by
    have hm : mayG c q l = true := by
      cases hm : mayG c q l
      · rw [show tableG c q l = [] from if_neg (by rw [hm]; simp)] at hi; simp at hi
      · rfl
    have := (gl i (by omega)).1
    exact togo_leads hc hm (i := i) (k := k) (by omega) hk
  have gU : ∀ i k, i < (tableG c q l).length → k < l.length → U (((tableG c q l)[i]!)[k]!) := fun i k hi hk => by
    have hm : mayG c q l = true := by
      cases hm : mayG c q l
      · rw [show tableG c q l = [] from if_neg (by rw [hm]; simp)] at hi; simp at hi
      · rfl
    obtain ⟨_, _, _, x4⟩ := tableG_TG hc hm
    have := x4.len
    exact (x4.fix i k (by omega) hk).2
  have ga := fun k (hk : k < l.length) => achk_arc hka hk
  have gn : (tableG c q l).length ≤ q.length + 1 := by
    by_cases h : 0 < (tableG c q l).length
    · have := (gl 0 h).1; omega
    · omega
  -- where signs lead
  have d1 := pLead (l := l) (f := 0) (w := a) hl ha
  have d3 := pLead (l := l) (f := 0) (w := a ++ b) hl (by simp; omega)
  have hG0 : ∀ w, leadG l 0 w = leadF l 0 w := fun w => if_pos ⟨by omega, by omega⟩
  rw [hG0] at d1 d3
  rw [leadF_app] at d3
  generalize tableG c q l = t at *
  have d2 := fun f => pLead (l := l) (f := f) (w := b) hl hb
  have k1 : ∃ e1 e2 e3 : Int, ∃ o1 o2 o3 : Bool, Sound Try.prog 37 [.sl 2 (stas l), .int .i64 0, .sl 1 (is a)] (.tup [.int .i64 e1, .bool o1]) ∧ Sound Try.prog 37 [.sl 2 (stas l), .int .i64 e1, .sl 1 (is b)] (.tup [.int .i64 e2, .bool o2]) ∧ Sound Try.prog 37 [.sl 2 (stas l), .int .i64 0, .sl 1 (is (a ++ b))] (.tup [.int .i64 e3, .bool o3]) ∧ o3 = (o1 && o2) ∧ (o3 = true → e3 = e2) := by
    cases hA : leadF l 0 a with
    | none =>
      rw [hA] at d1 d3
      have d2 := d2 0
      cases hB : leadG l 0 b with
      | none => rw [hB] at d2; exact ⟨0, 0, 0, false, false, false, d1, d2, d3, rfl, fun h => by cases h⟩
      | some u => rw [hB] at d2; exact ⟨0, u, 0, false, true, false, d1, d2, d3, rfl, fun h => by cases h⟩
    | some x =>
      rw [hA] at d1 d3
      have hx := leadF_in hka (Int.le_refl 0) (by omega) hA
      have d2 := d2 x
      rw [show leadG l x b = leadF l x b from if_pos ⟨by omega, by omega⟩] at d2
      simp only at d3
      cases hB : leadF l x b with
      | none => rw [hB] at d2 d3; exact ⟨x, 0, 0, true, false, false, d1, d2, d3, rfl, fun h => by cases h⟩
      | some u => rw [hB] at d2 d3; exact ⟨x, u, u, true, true, true, d1, d2, d3, rfl, fun _ => rfl⟩
  obtain ⟨e1, e2, e3, o1, o2, o3, d1, d2, d3, w1, w2⟩ := k1
  subst w1
  obtain ⟨u1, u2, u3, u4, _, _⟩ := hc
  unfold co at cf cc c1 ⊢
  have hcs : (o1 = false) ∨ (o1 = true ∧ o2 = false) ∨ (o1 = true ∧ o2 = true ∧ e3 = e2) := by
    cases o1
    · exact .inl rfl
    · cases o2
      · exact .inr (.inl ⟨rfl, rfl⟩)
      · exact .inr (.inr ⟨rfl, rfl, w2 rfl⟩)
  clear w2
  rcases hcs with rfl | ⟨rfl, rfl⟩ | ⟨rfl, rfl, rfl⟩
  all_goals
    try simp only [Bool.and_true, Bool.and_false, Bool.true_and, Bool.false_and] at d3
    refine Sound.run (N := 260) Try.func9 rfl (by kernel_rfl) rfl rfl rfl (by first | exact args0_0 | exact args0_1 | exact args0_2 | exact args0_3 | exact args0_4 | exact args0_5 | exact args0_6) fun X_ w_ => ?_
    have c0_ := aw; have c1_ := cf; have c2_ := ca; have c3_ := d1; have c4_ := d2; have c5_ := d3; have c6_ := c1; refine goX @is_appL ?_; first | exact trivial | skip
    refine WP_loopk (fun i : Nat => i ≤ t.length) (fun i => [(1, .d (.sl 1 (is q))), (2, .d (.sl 2 (stas l))), (5, .ref 0 0), (11, .d (.bool true)), (18, .d (.bool true)), (19, .d (.sl 1 (tt t))), (20, .d (.int .i64 i))]) (fun _ => [(0, .var [.d (.int .u64 c.more), .d (.int .u64 c.less), .d (.int .u64 c.other), .d (.int .u64 c.turned), .d (.sl 3 (rs c.rules))])]) 1 (fun i => t.length - i) [1, 2, 5, 11, 18, 19, 20] [0] 0 (Nat.zero_le _) rfl rfl (Nat.zero_le _) (fun _ _ => rfl) (fun _ _ => rfl) fun i hi => ?_
    by_cases hi2 : i + 1 < t.length
    · obtain ⟨x1, x2⟩ := gl i (by omega)
      have x3 := (gl (i + 1) (by omega)).2
      have ei : (i : Int) + 1 = ((i + 1 : Nat) : Int) := by omega
      refine goX (And.intro @x2 (And.intro @x3 (And.intro @us_len @ei))) ?_; first | exact trivial | skip
      refine WP_loopk (fun k : Nat => k ≤ l.length) (fun k => [(1, .d (.sl 1 (is q))), (2, .d (.sl 2 (stas l))), (5, .ref 0 0), (11, .d (.bool true)), (18, .d (.bool true)), (19, .d (.sl 1 (tt t))), (20, .d (.int .i64 i)), (21, .d (.int .i64 k))]) (fun _ => [(0, .var [.d (.int .u64 c.more), .d (.int .u64 c.less), .d (.int .u64 c.other), .d (.int .u64 c.turned), .d (.sl 3 (rs c.rules))])]) 1 (fun k => l.length - k) [1, 2, 5, 11, 18, 19, 20, 21] [0] 0 (Nat.zero_le _) rfl rfl (Nat.zero_le _) (fun _ _ => rfl) (fun _ _ => rfl) fun k hk => ?_
      by_cases hk2 : k < l.length
      · obtain ⟨y1, y2⟩ := gk i k hi2 hk2
        have z1 := costAdd u2 (gU (i + 1) k hi2 hk2)
        have hak := harcs k hk2
        have c0_ := z1; refine goX (And.intro @x2 (And.intro @x3 (And.intro @us_len @ei))) ?_; first | exact trivial | skip
        refine WP_loopk (fun j : Nat => j ≤ (l[k]!).arcs.length) (fun j => [(1, .d (.sl 1 (is q))), (2, .d (.sl 2 (stas l))), (5, .ref 0 0), (11, .d (.bool true)), (18, .d (.bool true)), (19, .d (.sl 1 (tt t))), (20, .d (.int .i64 i)), (21, .d (.int .i64 k)), (22, .d (.bool true)), (23, .d (.int .i64 j))]) (fun _ => [(0, .var [.d (.int .u64 c.more), .d (.int .u64 c.less), .d (.int .u64 c.other), .d (.int .u64 c.turned), .d (.sl 3 (rs c.rules))])]) 1 (fun j => (l[k]!).arcs.length - j) [1, 2, 5, 11, 18, 19, 20, 21, 22, 23] [0] 0 (Nat.zero_le _) rfl rfl (Nat.zero_le _) (fun _ _ => rfl) (fun _ _ => rfl) fun j hj => ?_
        by_cases hj2 : j < (l[k]!).arcs.length
        · have hmem : (l[k]!).arcs[j]! ∈ (l[k]!).arcs := by rw [getElem!_pos _ j hj2]; exact List.getElem_mem hj2
          obtain ⟨v1, v2, v3⟩ := y2 _ hmem
          obtain ⟨g1, g2, _⟩ := ga k hk2 _ hmem
          obtain ⟨x, hx⟩ := Int.eq_ofNat_of_zero_le (by omega : 0 ≤ ((l[k]!).arcs[j]!).to)
          rw [hx, Int.toNat_natCast] at v1 v2 v3
          have z2 := costAdd u3 (gU (i + 1) x hi2 (by omega))
          have z3 := costAdd u1 (gU i x (by omega) (by omega))
          by_cases hsg : ((l[k]!).arcs[j]!).sign = q[i]!
          · have v4 := v3 hsg
            have c0_ := z2; have c1_ := z3; refine goX (And.intro @x2 (And.intro @x3 (And.intro @us_len (And.intro @ei (And.intro @hx @hsg))))) ?_; first | exact trivial | skip
            refine ⟨j + 1, by omega, ?_, rfl, by omega⟩
            simp (disch := omega) only [go_sem, keepL, Int.natCast_add, Int.cast_ofNat_Int]
          · have c0_ := z2; have c1_ := z3; refine goX (And.intro @x2 (And.intro @x3 (And.intro @us_len (And.intro @ei (And.intro @hx @hsg))))) ?_; first | exact trivial | skip
            refine ⟨j + 1, by omega, ?_, rfl, by omega⟩
            simp (disch := omega) only [go_sem, keepL, Int.natCast_add, Int.cast_ofNat_Int]
        · have hjl : j = (l[k]!).arcs.length := by omega
          subst hjl
          refine goT ?_; first | exact trivial | skip
          refine ⟨k + 1, by omega, ?_, rfl, by omega⟩
          simp (disch := omega) only [go_sem, keepL, Int.natCast_add, Int.cast_ofNat_Int]
      · have hkl : k = l.length := by omega
        subst hkl
        refine goT ?_; first | exact trivial | skip
        refine ⟨i + 1, by omega, ?_, rfl, by omega⟩
        simp (disch := omega) only [go_sem, keepL, Int.natCast_add, Int.cast_ofNat_Int]
    · by_cases hq20 : q.length ≤ 20
      · cases hok : cok c
        · rw [hok] at cc gt
          simp only [Bool.false_and, decide_eq_false_iff_not] at gt
          have c0_ := cc; refine goT ?_; first | exact trivial | skip
        · rw [hok, decide_eq_true hq20] at gt
          rw [hok] at cc
          simp only [Bool.and_self, decide_eq_true_eq] at gt
          have c0_ := cc; refine goT ?_; first | exact trivial | skip
      · rw [decide_eq_false hq20, Bool.and_false] at gt
        simp only [decide_eq_false_iff_not] at gt
        cases hok : cok c
        · rw [hok] at cc
          have c0_ := cc; refine goT ?_; first | exact trivial | skip
        · rw [hok] at cc
          have c0_ := cc; refine goT ?_; first | exact trivial | skip
end Go.Eng.Try

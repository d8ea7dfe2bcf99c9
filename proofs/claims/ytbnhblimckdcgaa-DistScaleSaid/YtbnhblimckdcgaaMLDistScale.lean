/- The laws of what words cost: each step so many times. (and what stands behind it: texts laid together) -/
import Derived.Test.YtbnhblimckdcgaaMG4
import Derived.Test.YtbnhblimckdcgaaMR13
set_option linter.unusedVariables false
set_option linter.unusedSimpArgs false
namespace Go.Eng.Try
open Go Go.Eng Go.Proofs Go.RowKit
attribute [local go_sem] evFold rnE ksE roundE frz frzs List.set_cons_zero List.set_cons_succ List.zip_cons_cons List.zip_nil_right List.foldl_cons List.foldl_nil D.flat rns AV.rn HO.rn AV.ks kss HO.ks sg dedup objKs reach passE fresh List.filter fnOf evOp opnd lk v2d v2ds just evBin intBin nilBin isNil strBin evUn evLoad ldD ldA evStore evField evIndex evBuild fillA evBuildSlice evAppend evAppendClip elems evMake evSlice evSliceO evSliceX evSliceY evViewV evStoreX evStoreT stT stI evCopyT evAppendT evAppendTD ldT ldI Tb.inn Tb.ilen Tb.nilAt Tb.ini D.put evCut evView evCopy evAppendV evAgg evMakeMap evLookup evMapUpd evRange evEntry cellsD AV.kb splice List.getLast?_append resM resAs resA resD keepL List.replicate_zero List.take_length ofInt evLen evMin evMax evConv evNil evExtract evBuiltin toD toDs allD pack splice D.comps AV.comps AV.sto D.cell D.rebuild inOrder allFlat del put setE eff gd gslot kills Option.map_some Option.map_none Option.bind_some Option.isSome_some List.map_cons List.map_nil List.append_nil List.nil_append List.cons_append List.length_cons List.length_nil List.length_map List.length_append List.take_zero List.take_succ_cons List.take_nil List.drop_zero List.drop_succ_cons List.drop_nil List.getElem?_cons_zero List.getElem?_cons_succ List.getElem?_map List.all_cons List.all_nil List.mem_cons List.not_mem_nil List.elem_cons List.elem_nil Bool.and_true Bool.true_and Bool.and_self Bool.not_true Bool.not_false Bool.or_true Bool.or_false and_self and_true true_and or_false false_or or_true true_or not_false_eq_true not_true_eq_false if_true if_false decide_true decide_false decide_eq_true_eq Int.toNat_natCast Int.toNat_zero beq_self_eq_true bne_self_eq_false Bool.false_eq_true Nat.add_zero Nat.zero_add tys room le_i lt_i eq_n le_n lt_n len0 gdE bb_tf bb_ft mapP arrL if_min tdiv_nn tmod_nn us_len us_get wrap_i64 wrap_u64 dec_lt dec_nlt dec_le dec_nle beq_t beq_f bne_t bne_f get_lt gt_iff_lt ge_iff_le
attribute [local go_sem ↓] map_P reduceIte
attribute [local go_sem] reduceCtorEq Nat.reduceEqDiff Nat.reduceAdd Nat.reduceSub Nat.reduceMul Nat.reduceLeDiff Nat.reduceLT Nat.reduceBEq Nat.reduceBNe Int.reduceToNat Int.reduceLT Int.reduceLE Int.reduceEq Int.reduceAdd Int.reduceSub Int.reduceNeg Int.reduceBEq Int.reduceBNe
attribute [local go_sem] is_len is_get rs_len rs_get dels
theorem rs_app1 {l : List Ru} {a b : List Int} {z : Int} : rs l ++ [.agg [.sl 1 (is a), .sl 1 (is b), .int .u64 z]] = rs (l ++ [⟨a, b, z⟩]) := by simp [rs, ru]
theorem scR_step {l : List Ru} {k : Nat} {n : Int} (h : k < l.length) : (l.take (k + 1)).map (scR n) = (l.take k).map (scR n) ++ [⟨(l[k]!).left, (l[k]!).right, n * (l[k]!).cost⟩] := by
  rw [rtake_snoc h, List.map_append]; rfl
set_option maxHeartbeats 4000000 in
set_option maxRecDepth 10000 in
theorem lawDScale {c : Co} {q w : List Int} {n : Int} (hc : c.ok) (hq : q.length ≤ 9223372036854775807) (hw : w.length ≤ 9223372036854775807) (hn : 0 ≤ n ∧ n ≤ 255) : Sound Try.prog 4 [co c, .sl 1 (is q), .sl 1 (is w), .int .u8 n] (.bool true) := by
  have cf := pFewD (q := q) (w := w) hc hq hw
  have aw := distAwake
  have cc := sCheck hc
  cases hf : fewD c q w
  · rw [hf] at cf
    unfold co at cf ⊢
    refine Sound.run (N := 114) Try.func4 rfl (by kernel_rfl) rfl rfl rfl (by first | exact args0_0 | exact args0_1 | exact args0_2 | exact args0_3 | exact args0_4 | exact args0_5 | exact args0_6) fun X_ w_ => ?_
    have c0_ := aw; have c1_ := cf; refine goT ?_; first | exact trivial | skip
  rw [hf] at cf
  by_cases h1 : 20 < q.length
  · unfold co at cf ⊢
    refine Sound.run (N := 114) Try.func4 rfl (by kernel_rfl) rfl rfl rfl (by first | exact args0_0 | exact args0_1 | exact args0_2 | exact args0_3 | exact args0_4 | exact args0_5 | exact args0_6) fun X_ w_ => ?_
    have c0_ := aw; have c1_ := cf; refine goT ?_; first | exact trivial | skip
  by_cases h2 : 20 < w.length
  · unfold co at cf ⊢
    refine Sound.run (N := 114) Try.func4 rfl (by kernel_rfl) rfl rfl rfl (by first | exact args0_0 | exact args0_1 | exact args0_2 | exact args0_3 | exact args0_4 | exact args0_5 | exact args0_6) fun X_ w_ => ?_
    have c0_ := aw; have c1_ := cf; refine goT ?_; first | exact trivial | skip
  cases hk : cok c
  · rw [hk] at cc
    unfold co at cf cc ⊢
    refine Sound.run (N := 114) Try.func4 rfl (by kernel_rfl) rfl rfl rfl (by first | exact args0_0 | exact args0_1 | exact args0_2 | exact args0_3 | exact args0_4 | exact args0_5 | exact args0_6) fun X_ w_ => ?_
    have c0_ := aw; have c1_ := cf; have c2_ := cc; refine goT ?_; first | exact trivial | skip
  rw [hk] at cc
  by_cases hmx : 1099511627776 < max (max (max c.more c.less) c.other) c.turned
  · unfold co at cf cc ⊢
    refine Sound.run (N := 114) Try.func4 rfl (by kernel_rfl) rfl rfl rfl (by first | exact args0_0 | exact args0_1 | exact args0_2 | exact args0_3 | exact args0_4 | exact args0_5 | exact args0_6) fun X_ w_ => ?_
    have c0_ := aw; have c1_ := cf; have c2_ := cc; refine goX @if_max ?_; first | exact trivial | skip
  obtain ⟨u1, u2, u3, u4, hro, hlen⟩ := hc
  have hmul : ∀ {x : Int}, 0 ≤ x → x ≤ 1099511627776 → 0 ≤ n * x ∧ n * x ≤ 280375465082880 := fun {x} hx0 hx1 => by
    refine ⟨Int.mul_nonneg hn.1 hx0, ?_⟩
    have := Int.mul_le_mul hn.2 hx1 hx0 (by omega : (0 : Int) ≤ 255)
    omega
  have m1 := hmul u1.1 (by omega)
  have m2 := hmul u2.1 (by omega)
  have m3 := hmul u3.1 (by omega)
  have m4 := hmul u4.1 (by omega)
  have h3 := fewR_len (fewD_iff.1 hf).1
  have hc : c.ok := ⟨u1, u2, u3, u4, hro, hlen⟩
  have hrok := fun k (hk : k < c.rules.length) => rok_get hro hk
  unfold co at cf cc ⊢
  refine Sound.run (N := 114) Try.func4 rfl (by kernel_rfl) rfl rfl rfl (by first | exact args0_0 | exact args0_1 | exact args0_2 | exact args0_3 | exact args0_4 | exact args0_5 | exact args0_6) fun X_ w_ => ?_
  have c0_ := aw; have c1_ := cf; have c2_ := cc; repeat ((fail_if_success (with_reducible show WP _ _ (.region 7 _ _) _ _)); first | with_reducible exact Ev.nil | with_reducible exact gd_n | ((with_reducible apply lk_ok); rfl) | ((with_reducible apply gslot_ok); rfl) | ((with_reducible apply v2d_ok); rfl) | with_reducible apply then_n | with_reducible apply WP_seq | with_reducible apply WP_skip | ((with_reducible apply WP_r (N := 114) rfl rfl); (focus simp only [Nat.reduceAdd] <;> rfl)) | ((with_reducible apply WP_d (N := 114) mixed rfl rfl); (focus simp only [Nat.reduceAdd] <;> rfl)) | ((with_reducible apply Ev_s); (focus first | (apply gd_u; (focus rfl); rfl) | (apply gd_f; (focus rfl); (focus rfl); rfl))) | ((with_reducible apply Ev_sn); (focus first | (apply gd_u; (focus rfl); rfl) | (apply gd_f; (focus rfl); (focus rfl); rfl))) | with_reducible apply gd_t | with_reducible apply Ev_mv | with_reducible apply Ev_as | with_reducible apply Ev_mc | with_reducible apply Ev_ac | ((first | (with_reducible apply Ev_pt) | (with_reducible apply Ev_ptc)); (focus rfl)) | ((first | (with_reducible apply Ev_pf) | (with_reducible apply Ev_pfc)); (focus rfl)) | (apply Ev_cf; (focus simp (disch := omega) only [go_sem, if_max] <;> rfl); (focus first | exact c0_ | exact c1_ | exact c2_); (focus rfl); (focus first | (simp (disch := omega) only [go_sem, if_max] <;> rfl) | rfl)) | ((with_reducible apply Ev_d); (focus simp only [Nat.reduceAdd] <;> rfl); (focus simp (disch := omega) only [go_sem, if_max] <;> rfl)) | (apply Ev_cv; (focus rfl); (focus simp (disch := omega) only [go_sem, if_max] <;> rfl); (focus first | exact c0_ | exact c1_ | exact c2_); (iterate 3 (focus first | (simp (disch := omega) only [go_sem, if_max] <;> rfl) | rfl))) | ((first | apply Ev_cmd | apply Ev_cmn); (focus simp only [Nat.reduceAdd] <;> rfl); (focus rfl); (iterate 2 (focus simp (disch := omega) only [go_sem, if_max] <;> rfl)); (first | ((focus first | exact c0_ | exact c1_ | exact c2_); (iterate 2 (focus first | (simp (disch := omega) only [go_sem, if_max] <;> rfl) | rfl)); (focus rfl); (iterate 3 (focus first | (simp (disch := omega) only [go_sem, if_max] <;> rfl) | rfl))))) | ((first | (with_reducible apply Ev_od) | (with_reducible apply Ev_on)); (focus simp only [Nat.reduceAdd] <;> rfl); (focus simp (disch := omega) only [go_sem, if_max] <;> rfl); (focus first | (simp (disch := omega) only [go_sem, if_max] <;> rfl) | rfl)) | with_reducible apply endM_n | with_reducible apply endM_r | with_reducible apply then_r | with_reducible apply then_x | with_reducible apply block_n | with_reducible apply block_r | with_reducible apply block_x | with_reducible apply block_y rfl | with_reducible apply scope_n | with_reducible apply scope_r | with_reducible apply scope_x | with_reducible apply end_n | with_reducible apply end_r | with_reducible apply WP_block | with_reducible apply WP_exit | with_reducible apply WP_ret | with_reducible apply WP_label | with_reducible apply WP_scope | ((with_reducible apply WP_t); (focus first | (simp (disch := omega) only [go_sem, if_max] <;> rfl) | rfl)) | ((with_reducible apply WP_f); (focus first | (simp (disch := omega) only [go_sem, if_max] <;> rfl) | rfl)) | ((with_reducible apply resD_t); (focus rfl)) | ((with_reducible apply resD_2); (focus rfl); (focus rfl)) | (with_reducible rfl) | ((with_reducible show List.map outKeys _ = _); simp only [List.map_cons, List.map_nil, outKeys, keys]; rfl) | ((with_reducible show orderOk _ _ = true); kernel_rfl) | ((with_reducible show _ = _); simp (disch := omega) only [go_sem, if_max] <;> rfl) | ((fail_if_success (with_reducible show Ev _ _ _ _ (_ :: _) _ _ _ _ _)); (show Ev _ _ _ _ (_ :: _) _ _ _ _ _)) | fail)
  refine WP_ownv 5017 4 20000 34 3 rfl rfl (by decide) (by decide) (by simp (disch := omega) only [go_sem]; rfl) ?_
  refine goT ?_; first | exact trivial | skip
  refine WP_loopk (fun k : Nat => k ≤ c.rules.length ∧ ∀ r ∈ c.rules.take k, r.cost ≤ 1099511627776) (fun k => [(1, .d (.sl 1 (is q))), (2, .d (.sl 1 (is w))), (4, .ref 0 0), (9, .d (.bool true)), (10, .d (.int .u64 1099511627776)), (11, .d (.int .u64 n)), (12, .ref 5017 0), (13, .d (.int .i64 k))]) (fun k => [(0, .var [.d (.int .u64 c.more), .d (.int .u64 c.less), .d (.int .u64 c.other), .d (.int .u64 c.turned), .d (.sl 3 (rs c.rules))]), (5017, .var [.d (.int .u64 (n * c.more)), .d (.int .u64 (n * c.less)), .d (.int .u64 (n * c.other)), .d (.int .u64 (n * c.turned)), .own 20000 ((c.rules.take k).map (scR n)).length]), (20000, .row 34 3 (rs ((c.rules.take k).map (scR n))))]) 20001 (fun k => c.rules.length - k) [1, 2, 4, 9, 10, 11, 12, 13] [0, 5017, 20000] 0 ⟨Nat.zero_le _, fun r hr => by simp at hr⟩ rfl rfl (Nat.zero_le _) (fun _ _ => rfl) (fun _ _ => rfl) fun k hk2 => ?_
  obtain ⟨hk2, hall⟩ := hk2
  have hll : (c.rules.take k).length = k := by simp; omega
  by_cases hk3 : k < c.rules.length
  · have hr := hrok k hk3
    have hst := scR_step (n := n) hk3
    by_cases hcst : 1099511627776 < (c.rules[k]!).cost
    · refine goT ?_; first | exact trivial | skip
    · have m5 := hmul hr.2.2.1 (show (c.rules[k]!).cost ≤ 1099511627776 by omega)
      have htk := rtake_snoc hk3
      refine goX (And.intro @rs_app1 @hll) ?_; first | exact trivial | skip
      refine ⟨k + 1, ⟨by omega, fun r hr => ?_⟩, ?_, ?_, by omega⟩
      · rw [htk, List.mem_append, List.mem_singleton] at hr
        rcases hr with hr | hr
        · exact hall r hr
        · rw [hr]; omega
      · simp (disch := omega) only [go_sem, keepL, Int.natCast_add, Int.cast_ofNat_Int]
      · simp (disch := omega) only [go_sem, keepL, hst, hll, List.length_append, List.length_cons, List.length_nil, List.length_map]
  · have hkl : k = c.rules.length := by omega
    subst hkl
    rw [List.take_length] at hall ⊢
    obtain ⟨s1, s2, s3⟩ := dist_scale hc hk hn.1 hn.2 ⟨by omega, by omega, by omega, by omega⟩ hall
    obtain ⟨s3, s4⟩ := s3 (q := q) (w := w) (by omega) (by omega)
    have c1 := pOf (q := q) (w := w) s1 hq hw
    have c2 := pOf (q := q) (w := w) hc hq hw
    have hU := ofD_u hc q w
    have s5 : 0 ≤ n * ofD c q w := Int.mul_nonneg hn.1 hU.1
    rw [s3] at c1
    unfold co scC at c1
    unfold co at c2
    have c0_ := c1; have c1_ := c2; refine goT ?_; first | exact trivial | skip
end Go.Eng.Try

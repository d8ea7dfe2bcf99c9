/- Steps' laws: how many there are. (and what stands behind it: texts laid together) -/
import Derived.Test.YtlaekicahpplbabMG3
import Derived.Test.YtlaekicahpplbabMR12
set_option linter.unusedVariables false
set_option linter.unusedSimpArgs false
namespace Go.Eng.Try
open Go Go.Eng Go.Proofs Go.RowKit
attribute [local go_sem] evFold rnE ksE roundE frz frzs List.set_cons_zero List.set_cons_succ List.zip_cons_cons List.zip_nil_right List.foldl_cons List.foldl_nil D.flat rns AV.rn HO.rn AV.ks kss HO.ks sg dedup objKs reach passE fresh List.filter fnOf evOp opnd lk v2d v2ds just evBin intBin nilBin isNil strBin evUn evLoad ldD ldA evStore evField evIndex evBuild fillA evBuildSlice evAppend evAppendClip elems evMake evSlice evSliceO evCut evView evCopy evAppendV evAgg evMakeMap evLookup evMapUpd evRange evEntry cellsD AV.kb splice List.getLast?_append resM resAs resA resD keepL List.replicate_zero List.take_length ofInt evLen evMin evMax evConv evNil evExtract evBuiltin toD toDs allD pack splice D.comps AV.comps AV.sto D.cell D.rebuild inOrder allFlat del put setE eff gd gslot kills Option.map_some Option.map_none Option.bind_some Option.isSome_some List.map_cons List.map_nil List.append_nil List.nil_append List.cons_append List.length_cons List.length_nil List.length_map List.length_append List.take_zero List.take_succ_cons List.take_nil List.drop_zero List.drop_succ_cons List.drop_nil List.getElem?_cons_zero List.getElem?_cons_succ List.getElem?_map List.all_cons List.all_nil List.mem_cons List.not_mem_nil List.elem_cons List.elem_nil Bool.and_true Bool.true_and Bool.and_self Bool.not_true Bool.not_false Bool.or_true Bool.or_false and_self and_true true_and or_false false_or or_true true_or not_false_eq_true not_true_eq_false if_true if_false decide_true decide_false decide_eq_true_eq Int.toNat_natCast Int.toNat_zero beq_self_eq_true bne_self_eq_false Bool.false_eq_true Nat.add_zero Nat.zero_add tys room le_i lt_i eq_n le_n lt_n len0 gdE bb_tf bb_ft mapP arrL if_min tdiv_nn tmod_nn us_len us_get wrap_i64 wrap_u64 dec_lt dec_nlt dec_le dec_nle beq_t beq_f bne_t bne_f get_lt gt_iff_lt ge_iff_le
attribute [local go_sem ↓] map_P reduceIte
attribute [local go_sem] reduceCtorEq Nat.reduceEqDiff Nat.reduceAdd Nat.reduceSub Nat.reduceMul Nat.reduceLeDiff Nat.reduceLT Nat.reduceBEq Nat.reduceBNe Int.reduceToNat Int.reduceLT Int.reduceLE Int.reduceEq Int.reduceAdd Int.reduceSub Int.reduceNeg Int.reduceBEq Int.reduceBNe
attribute [local go_sem] is_len is_get rs_len rs_get ses_len ses_get dels
set_option maxHeartbeats 16000000 in
set_option maxRecDepth 10000 in
theorem lawSMany {c : Co} {q : List Int} {i : Int} (hc : c.ok) (hq : q.length ≤ 9223372036854775807) : Sound Try.prog 13 [co c, .sl 1 (is q), .int .i64 i] (.bool true) := by
  have cf := pFewS hc hq
  have aw := stepsAwake
  have cc := sCheck hc
  have c1 := pAt (i := i) hc hq
  cases hf : fewS c q
  · rw [hf] at cf
    unfold co at cf ⊢
    refine Sound.run (N := 108) Try.func13 rfl (by kernel_rfl) rfl rfl rfl (by first | exact args0_0 | exact args0_1 | exact args0_2 | exact args0_3 | exact args0_4 | exact args0_5 | exact args0_6) fun X_ w_ => ?_
    have c0_ := aw; have c1_ := cf; refine goT ?_; first | exact trivial | skip
  rw [hf] at cf
  have h3 := few_len (fewS_iff.1 hf).1
  cases hk : cok c
  · have e : stepsAt c q i = [] := if_neg (by simp [may, hk])
    rw [e] at c1
    rw [hk] at cc
    unfold co at cf c1 cc ⊢
    refine Sound.run (N := 108) Try.func13 rfl (by kernel_rfl) rfl rfl rfl (by first | exact args0_0 | exact args0_1 | exact args0_2 | exact args0_3 | exact args0_4 | exact args0_5 | exact args0_6) fun X_ w_ => ?_
    have c0_ := aw; have c1_ := cf; have c2_ := c1; have c3_ := cc; refine goX @ses_nil ?_; first | exact trivial | skip
  rw [hk] at cc
  by_cases h20 : 20 < q.length
  · have e : stepsAt c q i = [] := if_neg (fun h => by have := (may_iff.1 h.1).1; omega)
    rw [e] at c1
    unfold co at cf c1 cc ⊢
    refine Sound.run (N := 108) Try.func13 rfl (by kernel_rfl) rfl rfl rfl (by first | exact args0_0 | exact args0_1 | exact args0_2 | exact args0_3 | exact args0_4 | exact args0_5 | exact args0_6) fun X_ w_ => ?_
    have c0_ := aw; have c1_ := cf; have c2_ := c1; have c3_ := cc; refine goX @ses_nil ?_; first | exact trivial | skip
  by_cases h0 : i < 0
  · have e : stepsAt c q i = [] := if_neg (by omega)
    rw [e] at c1
    unfold co at cf c1 cc ⊢
    refine Sound.run (N := 108) Try.func13 rfl (by kernel_rfl) rfl rfl rfl (by first | exact args0_0 | exact args0_1 | exact args0_2 | exact args0_3 | exact args0_4 | exact args0_5 | exact args0_6) fun X_ w_ => ?_
    have c0_ := aw; have c1_ := cf; have c2_ := c1; have c3_ := cc; refine goX @ses_nil ?_; first | exact trivial | skip
  by_cases h4 : (q.length : Int) < i
  · have e : stepsAt c q i = [] := if_neg (by omega)
    rw [e] at c1
    unfold co at cf c1 cc ⊢
    refine Sound.run (N := 108) Try.func13 rfl (by kernel_rfl) rfl rfl rfl (by first | exact args0_0 | exact args0_1 | exact args0_2 | exact args0_3 | exact args0_4 | exact args0_5 | exact args0_6) fun X_ w_ => ?_
    have c0_ := aw; have c1_ := cf; have c2_ := c1; have c3_ := cc; refine goX @ses_nil ?_; first | exact trivial | skip
  obtain ⟨n, rfl⟩ := Int.eq_ofNat_of_zero_le (by omega : 0 ≤ i)
  have hm : may c q = true := may_iff.2 ⟨by omega, hk⟩
  have e : stepsAt c q n = stAt c (q.drop n) := by unfold stepsAt; rw [if_pos ⟨hm, by omega, by omega⟩]; simp
  rw [e] at c1
  have eD : ((is q).take q.length).drop n = is (q.drop n) := by rw [is_take, List.take_length, is_drop]
  have hrl : (q.drop n).length ≤ 20 := by simp only [List.length_drop]; omega
  obtain ⟨u1, u2, u3, u4, hok, hlen⟩ := hc
  have hsl : (stAt c (q.drop n)).length = (st3 c (q.drop n)).length + (c.rules.filterMap (st4 (q.drop n))).length := by unfold stAt; rw [List.length_append]
  obtain ⟨k1, k2⟩ := cok_rules hk
  generalize stAt c (q.drop n) = L at *
  generalize q.drop n = rest at *
  unfold co at cf c1 cc ⊢
  have hcase : rest.length = 0 ∨ rest.length = 1 ∨ 2 ≤ rest.length := by omega
  rcases hcase with hr | hr | hr
  · have e3 : (st3 c rest).length = 1 := by
      rw [List.eq_nil_of_length_eq_zero hr]; rfl
    refine Sound.run (N := 108) Try.func13 rfl (by kernel_rfl) rfl rfl rfl (by first | exact args0_0 | exact args0_1 | exact args0_2 | exact args0_3 | exact args0_4 | exact args0_5 | exact args0_6) fun X_ w_ => ?_
    have c0_ := aw; have c1_ := cf; have c2_ := c1; have c3_ := cc; refine goX @eD ?_; first | exact trivial | skip
    refine WP_loopk (fun k : Nat => k ≤ c.rules.length) (fun k => [(3, .ref 0 0), (7, .d (.bool true)), (8, .d (.sl 4 (ses L))), (9, .d (.sl 1 (is rest))), (10, .d (.int .i64 (1 + ((c.rules.take k).filterMap (st4 rest)).length))), (11, .d (.int .i64 k))]) (fun _ => [(0, .var [.d (.int .u64 c.more), .d (.int .u64 c.less), .d (.int .u64 c.other), .d (.int .u64 c.turned), .d (.sl 3 (rs c.rules))])]) 1 (fun k => c.rules.length - k) [3, 7, 8, 9, 10, 11] [0] 0 (Nat.zero_le _) rfl rfl (Nat.zero_le _) (fun _ _ => rfl) (fun _ _ => rfl) fun k hk' => ?_
    by_cases hkl : k < c.rules.length
    · have hst := st4_step (rest := rest) hkl
      have ho := rok_get hok hkl
      have hX := st4_len rest (c.rules.take k)
      simp only [List.length_take] at hX
      generalize (c.rules.take k).filterMap (st4 rest) = X at hX hst ⊢
      by_cases hn : (c.rules[k]!).left.length ≤ rest.length
      · have eln : (rest.take (c.rules[k]!).left.length).length ≤ 9223372036854775807 := by simp only [List.length_take]; omega
        have ce := refSame (a := rest.take (c.rules[k]!).left.length) (b := (c.rules[k]!).left) eln ho.1
        by_cases hm : rest.take (c.rules[k]!).left.length = (c.rules[k]!).left
        · have e4 : st4 rest (c.rules[k]!) = some ⟨(c.rules[k]!).left.length, (c.rules[k]!).right, false, (c.rules[k]!).cost⟩ := by unfold st4; rw [if_pos hm]
          rw [e4] at hst
          rw [decide_eq_true hm] at ce
          have hcnt : (1 : Int) + (X.length : Int) + 1 = 1 + ((X ++ [(⟨(c.rules[k]!).left.length, (c.rules[k]!).right, false, (c.rules[k]!).cost⟩ : Se)]).length : Nat) := by simp; omega
          have c0_ := ce; refine goX @is_take ?_; first | exact trivial | skip
          refine ⟨k + 1, by omega, ?_, rfl, by omega⟩
          rw [hst, ← hcnt]
          simp (disch := omega) only [go_sem, keepL, Int.natCast_add, Int.cast_ofNat_Int]
        · have e4 : st4 rest (c.rules[k]!) = none := by unfold st4; rw [if_neg hm]
          rw [e4] at hst
          simp only [List.append_nil] at hst
          rw [decide_eq_false hm] at ce
          have c0_ := ce; refine goX @is_take ?_; first | exact trivial | skip
          refine ⟨k + 1, by omega, ?_, rfl, by omega⟩
          rw [hst]
          simp (disch := omega) only [go_sem, keepL, Int.natCast_add, Int.cast_ofNat_Int]
      · have e4 : st4 rest (c.rules[k]!) = none := by
          unfold st4
          rw [if_neg]
          intro h
          have := congrArg List.length h
          simp only [List.length_take] at this
          omega
        rw [e4] at hst
        simp only [List.append_nil] at hst
        refine goT ?_; first | exact trivial | skip
        refine ⟨k + 1, by omega, ?_, rfl, by omega⟩
        rw [hst]
        simp (disch := omega) only [go_sem, keepL, Int.natCast_add, Int.cast_ofNat_Int]
    · have hkl : k = c.rules.length := by omega
      subst hkl
      rw [List.take_length]
      have hfin : (L.length : Int) = 1 + ((c.rules.filterMap (st4 rest)).length : Int) := by rw [hsl, e3]; simp
      refine goX @hfin ?_; first | exact trivial | skip
  · have e3 : (st3 c rest).length = 4 := by
      match rest, hr with
      | [x], _ => rfl
    refine Sound.run (N := 108) Try.func13 rfl (by kernel_rfl) rfl rfl rfl (by first | exact args0_0 | exact args0_1 | exact args0_2 | exact args0_3 | exact args0_4 | exact args0_5 | exact args0_6) fun X_ w_ => ?_
    have c0_ := aw; have c1_ := cf; have c2_ := c1; have c3_ := cc; refine goX @eD ?_; first | exact trivial | skip
    refine WP_loopk (fun k : Nat => k ≤ c.rules.length) (fun k => [(3, .ref 0 0), (7, .d (.bool true)), (8, .d (.sl 4 (ses L))), (9, .d (.sl 1 (is rest))), (10, .d (.int .i64 (4 + ((c.rules.take k).filterMap (st4 rest)).length))), (11, .d (.int .i64 k))]) (fun _ => [(0, .var [.d (.int .u64 c.more), .d (.int .u64 c.less), .d (.int .u64 c.other), .d (.int .u64 c.turned), .d (.sl 3 (rs c.rules))])]) 1 (fun k => c.rules.length - k) [3, 7, 8, 9, 10, 11] [0] 0 (Nat.zero_le _) rfl rfl (Nat.zero_le _) (fun _ _ => rfl) (fun _ _ => rfl) fun k hk' => ?_
    by_cases hkl : k < c.rules.length
    · have hst := st4_step (rest := rest) hkl
      have ho := rok_get hok hkl
      have hX := st4_len rest (c.rules.take k)
      simp only [List.length_take] at hX
      generalize (c.rules.take k).filterMap (st4 rest) = X at hX hst ⊢
      by_cases hn : (c.rules[k]!).left.length ≤ rest.length
      · have eln : (rest.take (c.rules[k]!).left.length).length ≤ 9223372036854775807 := by simp only [List.length_take]; omega
        have ce := refSame (a := rest.take (c.rules[k]!).left.length) (b := (c.rules[k]!).left) eln ho.1
        by_cases hm : rest.take (c.rules[k]!).left.length = (c.rules[k]!).left
        · have e4 : st4 rest (c.rules[k]!) = some ⟨(c.rules[k]!).left.length, (c.rules[k]!).right, false, (c.rules[k]!).cost⟩ := by unfold st4; rw [if_pos hm]
          rw [e4] at hst
          rw [decide_eq_true hm] at ce
          have hcnt : (4 : Int) + (X.length : Int) + 1 = 4 + ((X ++ [(⟨(c.rules[k]!).left.length, (c.rules[k]!).right, false, (c.rules[k]!).cost⟩ : Se)]).length : Nat) := by simp; omega
          have c0_ := ce; refine goX @is_take ?_; first | exact trivial | skip
          refine ⟨k + 1, by omega, ?_, rfl, by omega⟩
          rw [hst, ← hcnt]
          simp (disch := omega) only [go_sem, keepL, Int.natCast_add, Int.cast_ofNat_Int]
        · have e4 : st4 rest (c.rules[k]!) = none := by unfold st4; rw [if_neg hm]
          rw [e4] at hst
          simp only [List.append_nil] at hst
          rw [decide_eq_false hm] at ce
          have c0_ := ce; refine goX @is_take ?_; first | exact trivial | skip
          refine ⟨k + 1, by omega, ?_, rfl, by omega⟩
          rw [hst]
          simp (disch := omega) only [go_sem, keepL, Int.natCast_add, Int.cast_ofNat_Int]
      · have e4 : st4 rest (c.rules[k]!) = none := by
          unfold st4
          rw [if_neg]
          intro h
          have := congrArg List.length h
          simp only [List.length_take] at this
          omega
        rw [e4] at hst
        simp only [List.append_nil] at hst
        refine goT ?_; first | exact trivial | skip
        refine ⟨k + 1, by omega, ?_, rfl, by omega⟩
        rw [hst]
        simp (disch := omega) only [go_sem, keepL, Int.natCast_add, Int.cast_ofNat_Int]
    · have hkl : k = c.rules.length := by omega
      subst hkl
      rw [List.take_length]
      have hfin : (L.length : Int) = 4 + ((c.rules.filterMap (st4 rest)).length : Int) := by rw [hsl, e3]; simp
      refine goX @hfin ?_; first | exact trivial | skip
  by_cases hxy : rest[0]! = rest[1]!
  · have e3 : (st3 c rest).length = 4 := by
      match rest, hr, hxy with
      | x :: y :: t, _, hxy =>
        simp only [List.getElem!_cons_zero, List.getElem!_cons_succ] at hxy
        simp [st3, st1, st2, hxy]
    refine Sound.run (N := 108) Try.func13 rfl (by kernel_rfl) rfl rfl rfl (by first | exact args0_0 | exact args0_1 | exact args0_2 | exact args0_3 | exact args0_4 | exact args0_5 | exact args0_6) fun X_ w_ => ?_
    have c0_ := aw; have c1_ := cf; have c2_ := c1; have c3_ := cc; refine goX (And.intro @eD @hxy) ?_; first | exact trivial | skip
    refine WP_loopk (fun k : Nat => k ≤ c.rules.length) (fun k => [(3, .ref 0 0), (7, .d (.bool true)), (8, .d (.sl 4 (ses L))), (9, .d (.sl 1 (is rest))), (10, .d (.int .i64 (4 + ((c.rules.take k).filterMap (st4 rest)).length))), (11, .d (.int .i64 k))]) (fun _ => [(0, .var [.d (.int .u64 c.more), .d (.int .u64 c.less), .d (.int .u64 c.other), .d (.int .u64 c.turned), .d (.sl 3 (rs c.rules))])]) 1 (fun k => c.rules.length - k) [3, 7, 8, 9, 10, 11] [0] 0 (Nat.zero_le _) rfl rfl (Nat.zero_le _) (fun _ _ => rfl) (fun _ _ => rfl) fun k hk' => ?_
    by_cases hkl : k < c.rules.length
    · have hst := st4_step (rest := rest) hkl
      have ho := rok_get hok hkl
      have hX := st4_len rest (c.rules.take k)
      simp only [List.length_take] at hX
      generalize (c.rules.take k).filterMap (st4 rest) = X at hX hst ⊢
      by_cases hn : (c.rules[k]!).left.length ≤ rest.length
      · have eln : (rest.take (c.rules[k]!).left.length).length ≤ 9223372036854775807 := by simp only [List.length_take]; omega
        have ce := refSame (a := rest.take (c.rules[k]!).left.length) (b := (c.rules[k]!).left) eln ho.1
        by_cases hm : rest.take (c.rules[k]!).left.length = (c.rules[k]!).left
        · have e4 : st4 rest (c.rules[k]!) = some ⟨(c.rules[k]!).left.length, (c.rules[k]!).right, false, (c.rules[k]!).cost⟩ := by unfold st4; rw [if_pos hm]
          rw [e4] at hst
          rw [decide_eq_true hm] at ce
          have hcnt : (4 : Int) + (X.length : Int) + 1 = 4 + ((X ++ [(⟨(c.rules[k]!).left.length, (c.rules[k]!).right, false, (c.rules[k]!).cost⟩ : Se)]).length : Nat) := by simp; omega
          have c0_ := ce; refine goX @is_take ?_; first | exact trivial | skip
          refine ⟨k + 1, by omega, ?_, rfl, by omega⟩
          rw [hst, ← hcnt]
          simp (disch := omega) only [go_sem, keepL, Int.natCast_add, Int.cast_ofNat_Int]
        · have e4 : st4 rest (c.rules[k]!) = none := by unfold st4; rw [if_neg hm]
          rw [e4] at hst
          simp only [List.append_nil] at hst
          rw [decide_eq_false hm] at ce
          have c0_ := ce; refine goX @is_take ?_; first | exact trivial | skip
          refine ⟨k + 1, by omega, ?_, rfl, by omega⟩
          rw [hst]
          simp (disch := omega) only [go_sem, keepL, Int.natCast_add, Int.cast_ofNat_Int]
      · have e4 : st4 rest (c.rules[k]!) = none := by
          unfold st4
          rw [if_neg]
          intro h
          have := congrArg List.length h
          simp only [List.length_take] at this
          omega
        rw [e4] at hst
        simp only [List.append_nil] at hst
        refine goT ?_; first | exact trivial | skip
        refine ⟨k + 1, by omega, ?_, rfl, by omega⟩
        rw [hst]
        simp (disch := omega) only [go_sem, keepL, Int.natCast_add, Int.cast_ofNat_Int]
    · have hkl : k = c.rules.length := by omega
      subst hkl
      rw [List.take_length]
      have hfin : (L.length : Int) = 4 + ((c.rules.filterMap (st4 rest)).length : Int) := by rw [hsl, e3]; simp
      refine goX @hfin ?_; first | exact trivial | skip
  · have e3 : (st3 c rest).length = 5 := by
      match rest, hr, hxy with
      | x :: y :: t, _, hxy =>
        simp only [List.getElem!_cons_zero, List.getElem!_cons_succ] at hxy
        simp [st3, st1, st2, hxy]
    refine Sound.run (N := 108) Try.func13 rfl (by kernel_rfl) rfl rfl rfl (by first | exact args0_0 | exact args0_1 | exact args0_2 | exact args0_3 | exact args0_4 | exact args0_5 | exact args0_6) fun X_ w_ => ?_
    have c0_ := aw; have c1_ := cf; have c2_ := c1; have c3_ := cc; refine goX @eD ?_; first | exact trivial | skip
    refine WP_loopk (fun k : Nat => k ≤ c.rules.length) (fun k => [(3, .ref 0 0), (7, .d (.bool true)), (8, .d (.sl 4 (ses L))), (9, .d (.sl 1 (is rest))), (10, .d (.int .i64 (5 + ((c.rules.take k).filterMap (st4 rest)).length))), (11, .d (.int .i64 k))]) (fun _ => [(0, .var [.d (.int .u64 c.more), .d (.int .u64 c.less), .d (.int .u64 c.other), .d (.int .u64 c.turned), .d (.sl 3 (rs c.rules))])]) 1 (fun k => c.rules.length - k) [3, 7, 8, 9, 10, 11] [0] 0 (Nat.zero_le _) rfl rfl (Nat.zero_le _) (fun _ _ => rfl) (fun _ _ => rfl) fun k hk' => ?_
    by_cases hkl : k < c.rules.length
    · have hst := st4_step (rest := rest) hkl
      have ho := rok_get hok hkl
      have hX := st4_len rest (c.rules.take k)
      simp only [List.length_take] at hX
      generalize (c.rules.take k).filterMap (st4 rest) = X at hX hst ⊢
      by_cases hn : (c.rules[k]!).left.length ≤ rest.length
      · have eln : (rest.take (c.rules[k]!).left.length).length ≤ 9223372036854775807 := by simp only [List.length_take]; omega
        have ce := refSame (a := rest.take (c.rules[k]!).left.length) (b := (c.rules[k]!).left) eln ho.1
        by_cases hm : rest.take (c.rules[k]!).left.length = (c.rules[k]!).left
        · have e4 : st4 rest (c.rules[k]!) = some ⟨(c.rules[k]!).left.length, (c.rules[k]!).right, false, (c.rules[k]!).cost⟩ := by unfold st4; rw [if_pos hm]
          rw [e4] at hst
          rw [decide_eq_true hm] at ce
          have hcnt : (5 : Int) + (X.length : Int) + 1 = 5 + ((X ++ [(⟨(c.rules[k]!).left.length, (c.rules[k]!).right, false, (c.rules[k]!).cost⟩ : Se)]).length : Nat) := by simp; omega
          have c0_ := ce; refine goX @is_take ?_; first | exact trivial | skip
          refine ⟨k + 1, by omega, ?_, rfl, by omega⟩
          rw [hst, ← hcnt]
          simp (disch := omega) only [go_sem, keepL, Int.natCast_add, Int.cast_ofNat_Int]
        · have e4 : st4 rest (c.rules[k]!) = none := by unfold st4; rw [if_neg hm]
          rw [e4] at hst
          simp only [List.append_nil] at hst
          rw [decide_eq_false hm] at ce
          have c0_ := ce; refine goX @is_take ?_; first | exact trivial | skip
          refine ⟨k + 1, by omega, ?_, rfl, by omega⟩
          rw [hst]
          simp (disch := omega) only [go_sem, keepL, Int.natCast_add, Int.cast_ofNat_Int]
      · have e4 : st4 rest (c.rules[k]!) = none := by
          unfold st4
          rw [if_neg]
          intro h
          have := congrArg List.length h
          simp only [List.length_take] at this
          omega
        rw [e4] at hst
        simp only [List.append_nil] at hst
        refine goT ?_; first | exact trivial | skip
        refine ⟨k + 1, by omega, ?_, rfl, by omega⟩
        rw [hst]
        simp (disch := omega) only [go_sem, keepL, Int.natCast_add, Int.cast_ofNat_Int]
    · have hkl : k = c.rules.length := by omega
      subst hkl
      rw [List.take_length]
      have hfin : (L.length : Int) = 5 + ((c.rules.filterMap (st4 rest)).length : Int) := by rw [hsl, e3]; simp
      refine goX @hfin ?_; first | exact trivial | skip
end Go.Eng.Try

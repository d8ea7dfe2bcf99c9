/- Steps' laws: each takes something, or puts something. (and what stands behind it: texts laid together) -/
import Derived.Test.YtlaekicahpplbabMG3
import Derived.Test.YtlaekicahpplbabMR12
set_option linter.unusedVariables false
set_option linter.unusedSimpArgs false
namespace Go.Eng.Try
open Go Go.Eng Go.Proofs Go.RowKit
attribute [local go_sem] evFold rnE ksE roundE frz frzs List.set_cons_zero List.set_cons_succ List.zip_cons_cons List.zip_nil_right List.foldl_cons List.foldl_nil D.flat rns AV.rn HO.rn AV.ks kss HO.ks sg dedup objKs reach passE fresh List.filter fnOf evOp opnd lk v2d v2ds just evBin intBin nilBin isNil strBin evUn evLoad ldD ldA evStore evField evIndex evBuild fillA evBuildSlice evAppend evAppendClip elems evMake evSlice evSliceO evCut evView evCopy evAppendV evAgg evMakeMap evLookup evMapUpd evRange evEntry cellsD AV.kb splice List.getLast?_append resM resAs resA resD keepL List.replicate_zero List.take_length ofInt evLen evMin evMax evConv evNil evExtract evBuiltin toD toDs allD pack splice D.comps AV.comps AV.sto D.cell D.rebuild inOrder allFlat del put setE eff gd gslot kills Option.map_some Option.map_none Option.bind_some Option.isSome_some List.map_cons List.map_nil List.append_nil List.nil_append List.cons_append List.length_cons List.length_nil List.length_map List.length_append List.take_zero List.take_succ_cons List.take_nil List.drop_zero List.drop_succ_cons List.drop_nil List.getElem?_cons_zero List.getElem?_cons_succ List.getElem?_map List.all_cons List.all_nil List.mem_cons List.not_mem_nil List.elem_cons List.elem_nil Bool.and_true Bool.true_and Bool.and_self Bool.not_true Bool.not_false Bool.or_true Bool.or_false and_self and_true true_and or_false false_or or_true true_or not_false_eq_true not_true_eq_false if_true if_false decide_true decide_false decide_eq_true_eq Int.toNat_natCast Int.toNat_zero beq_self_eq_true bne_self_eq_false Bool.false_eq_true Nat.add_zero Nat.zero_add tys room le_i lt_i eq_n le_n lt_n len0 gdE bb_tf bb_ft mapP arrL if_min tdiv_nn tmod_nn us_len us_get wrap_i64 wrap_u64 dec_lt dec_nlt dec_le dec_nle beq_t beq_f bne_t bne_f get_lt gt_iff_lt ge_iff_le
attribute [local go_sem ↓] map_P reduceIte
attribute [local go_sem] reduceCtorEq Nat.reduceEqDiff Nat.reduceAdd Nat.reduceSub Nat.reduceMul Nat.reduceLeDiff Nat.reduceLT Nat.reduceBEq Nat.reduceBNe Int.reduceToNat Int.reduceLT Int.reduceLE Int.reduceEq Int.reduceAdd Int.reduceSub Int.reduceNeg Int.reduceBEq Int.reduceBNe
attribute [local go_sem] is_len is_get rs_len rs_get ses_len ses_get sss_len sss_get dels
theorem get_mem {l : List Se} {k : Nat} (h : k < l.length) : l[k]! ∈ l := by rw [getElem!_pos l k h]; exact List.getElem_mem h
set_option maxHeartbeats 4000000 in
set_option maxRecDepth 10000 in
theorem lawSMove {c : Co} {q : List Int} {i : Int} (hc : c.ok) (hq : q.length ≤ 9223372036854775807) (hi : -9223372036854775808 ≤ i ∧ i ≤ 9223372036854775807) : Sound Try.prog 10 [co c, .sl 1 (is q), .int .i64 i] (.bool true) := by
  have cf := pFewS hc hq
  have aw := stepsAwake
  cases hf : fewS c q
  · rw [hf] at cf
    unfold co at cf ⊢
    refine Sound.run (N := 130) Try.func10 rfl (by kernel_rfl) rfl rfl rfl (by first | exact args0_0 | exact args0_1 | exact args0_2 | exact args0_3 | exact args0_4 | exact args0_5 | exact args0_6) fun X_ w_ => ?_
    have c0_ := aw; have c1_ := cf; refine goT ?_; first | exact trivial | skip
  obtain ⟨h1, h2⟩ := fewS_iff.1 hf
  have h3 := few_len h1
  rw [hf] at cf
  have c3 := pAt (i := i) hc hq
  have c5 := sCheck hc
  have hst := fun s (hs : s ∈ stepsAt c q i) => step_ok hs
  have hsi : 0 < (stepsAt c q i).length → 0 ≤ i ∧ i ≤ q.length := fun h => by
    unfold stepsAt at h
    split at h
    · rename_i hh; exact hh.2
    · simp at h
  have hln := stepsAt_len c q i
  have hpos : decide (0 < (stepsAt c q i).length) = (cok c && decide (q.length ≤ 20) && decide (0 ≤ i) && decide (i ≤ q.length)) := by
    unfold stepsAt
    by_cases h : may c q = true ∧ 0 ≤ i ∧ i ≤ q.length
    · rw [if_pos h, decide_eq_true (stAt_pos _ _)]
      obtain ⟨a, b⟩ := may_iff.1 h.1
      simp [a, b, h.2.1, h.2.2]
    · rw [if_neg h]
      cases hk : cok c
      · simp
      · simp only [List.length_nil, Nat.lt_irrefl, decide_false, Bool.true_and]
        symm
        simp only [Bool.and_eq_false_iff, decide_eq_false_iff_not]
        by_cases h20 : q.length ≤ 20
        · by_cases h0 : 0 ≤ i
          · exact .inr (fun h4 => h ⟨may_iff.2 ⟨h20, hk⟩, h0, h4⟩)
          · exact .inl (.inr h0)
        · exact .inl (.inl (by exact h20))
  generalize stepsAt c q i = L at *
  have e5 : (5 : Int) + (c.rules.length : Int) = ((5 + c.rules.length : Nat) : Int) := by omega
  unfold co at *
  have hZ : decide ((0 : Int) < (L.length : Int)) = decide (0 < L.length) := decide_eq_decide.2 (by omega)
  cases hk : cok c
  · rw [hk] at c5
    have hb : decide ((0 : Int) < (L.length : Int)) = false := by rw [hZ, hpos]; simp [hk]
    clear hpos hZ
    refine Sound.run (N := 130) Try.func10 rfl (by kernel_rfl) rfl rfl rfl (by first | exact args0_0 | exact args0_1 | exact args0_2 | exact args0_3 | exact args0_4 | exact args0_5 | exact args0_6) fun X_ w_ => ?_
    have c0_ := aw; have c1_ := cf; have c2_ := c3; have c3_ := c5; refine goT ?_; first | exact trivial | skip
    have hL : L.length = 0 := by have := of_decide_eq_false hb; omega
    refine WP_once ?_
    refine goX @hb ?_; first | exact trivial | skip
  rw [hk] at c5
  by_cases h20 : q.length ≤ 20
  rotate_left
  · skip
    have hb : decide ((0 : Int) < (L.length : Int)) = false := by rw [hZ, hpos]; simp [h20]
    clear hpos hZ
    refine Sound.run (N := 130) Try.func10 rfl (by kernel_rfl) rfl rfl rfl (by first | exact args0_0 | exact args0_1 | exact args0_2 | exact args0_3 | exact args0_4 | exact args0_5 | exact args0_6) fun X_ w_ => ?_
    have c0_ := aw; have c1_ := cf; have c2_ := c3; have c3_ := c5; refine goT ?_; first | exact trivial | skip
    have hL : L.length = 0 := by have := of_decide_eq_false hb; omega
    refine WP_once ?_
    refine goX @hb ?_; first | exact trivial | skip
  by_cases h0 : 0 ≤ i
  rotate_left
  · skip
    have hb : decide ((0 : Int) < (L.length : Int)) = false := by rw [hZ, hpos]; simp [h0]
    clear hpos hZ
    refine Sound.run (N := 130) Try.func10 rfl (by kernel_rfl) rfl rfl rfl (by first | exact args0_0 | exact args0_1 | exact args0_2 | exact args0_3 | exact args0_4 | exact args0_5 | exact args0_6) fun X_ w_ => ?_
    have c0_ := aw; have c1_ := cf; have c2_ := c3; have c3_ := c5; refine goT ?_; first | exact trivial | skip
    have hL : L.length = 0 := by have := of_decide_eq_false hb; omega
    refine WP_once ?_
    refine goX @hb ?_; first | exact trivial | skip
  by_cases h4 : i ≤ q.length
  rotate_left
  · skip
    have hb : decide ((0 : Int) < (L.length : Int)) = false := by rw [hZ, hpos]; simp [h4]
    clear hpos hZ
    refine Sound.run (N := 130) Try.func10 rfl (by kernel_rfl) rfl rfl rfl (by first | exact args0_0 | exact args0_1 | exact args0_2 | exact args0_3 | exact args0_4 | exact args0_5 | exact args0_6) fun X_ w_ => ?_
    have c0_ := aw; have c1_ := cf; have c2_ := c3; have c3_ := c5; refine goT ?_; first | exact trivial | skip
    have hL : L.length = 0 := by have := of_decide_eq_false hb; omega
    refine WP_once ?_
    refine goX @hb ?_; first | exact trivial | skip
  · skip
    have hb : decide ((0 : Int) < (L.length : Int)) = true := by rw [hZ, hpos]; simp [hk, h20, h0, h4]
    clear hpos hZ
    refine Sound.run (N := 130) Try.func10 rfl (by kernel_rfl) rfl rfl rfl (by first | exact args0_0 | exact args0_1 | exact args0_2 | exact args0_3 | exact args0_4 | exact args0_5 | exact args0_6) fun X_ w_ => ?_
    have c0_ := aw; have c1_ := cf; have c2_ := c3; have c3_ := c5; refine goT ?_; first | exact trivial | skip
    refine WP_loopk (fun k : Nat => k ≤ L.length) (fun k => [(1, .d (.sl 1 (is q))), (2, .d (.int .i64 i)), (3, .ref 0 0), (7, .d (.bool true)), (8, .d (.sl 4 (ses L))), (9, .d (.bool true)), (10, .d (.int .i64 k))]) (fun _ => [(0, .var [.d (.int .u64 c.more), .d (.int .u64 c.less), .d (.int .u64 c.other), .d (.int .u64 c.turned), .d (.sl 3 (rs c.rules))])]) 1 (fun k => L.length - k) [1, 2, 3, 7, 8, 9, 10] [0] 0 (Nat.zero_le _) rfl rfl (Nat.zero_le _) (fun _ _ => rfl) (fun _ _ => rfl) fun k hk => ?_
    by_cases hk' : k < L.length
    · obtain ⟨g1, g2, g3, g4, g5⟩ := hst _ (get_mem hk')
      obtain ⟨i0, i1⟩ := hsi (by omega)
      by_cases hp : (L[k]!).put = []
      · have hp0 : (L[k]!).put.length = 0 := by rw [hp]; rfl
        cases ha : (L[k]!).any
        · have he : (L[k]!).eat ≠ 0 := fun h => by
            rcases g3 h with h | h
            · exact h hp
            · rw [ha] at h; cases h
          refine goX @ha ?_; first | exact trivial | skip
          refine ⟨k + 1, by omega, ?_, rfl, by omega⟩
          simp (disch := omega) only [go_sem, keepL, Int.natCast_add, Int.cast_ofNat_Int]
        · by_cases he : (L[k]!).eat = 0
          · refine goX (And.intro @ha @he) ?_; first | exact trivial | skip
            refine ⟨k + 1, by omega, ?_, rfl, by omega⟩
            simp (disch := omega) only [go_sem, keepL, Int.natCast_add, Int.cast_ofNat_Int]
          · refine goX @ha ?_; first | exact trivial | skip
            refine ⟨k + 1, by omega, ?_, rfl, by omega⟩
            simp (disch := omega) only [go_sem, keepL, Int.natCast_add, Int.cast_ofNat_Int]
      · have hp0 : 0 < (L[k]!).put.length := List.length_pos_iff.2 hp
        have ha : (L[k]!).any = false := by
          cases h : (L[k]!).any
          · rfl
          · exact absurd (g4 h) hp
        by_cases he : (L[k]!).eat = 0
        · refine goX (And.intro @ha @he) ?_; first | exact trivial | skip
          refine ⟨k + 1, by omega, ?_, rfl, by omega⟩
          simp (disch := omega) only [go_sem, keepL, Int.natCast_add, Int.cast_ofNat_Int]
        · refine goX @ha ?_; first | exact trivial | skip
          refine ⟨k + 1, by omega, ?_, rfl, by omega⟩
          simp (disch := omega) only [go_sem, keepL, Int.natCast_add, Int.cast_ofNat_Int]
    · have hkl : k = L.length := by omega
      subst hkl
      refine goX @hb ?_; first | exact trivial | skip
end Go.Eng.Try

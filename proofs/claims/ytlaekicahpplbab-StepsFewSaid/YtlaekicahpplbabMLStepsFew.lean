/- Steps' laws: with the first ones of some rules. (and what stands behind it: texts laid together) -/
import Derived.Test.YtlaekicahpplbabMG3
import Derived.Test.YtlaekicahpplbabMR12
set_option linter.unusedVariables false
set_option linter.unusedSimpArgs false
namespace Go.Eng.Try
open Go Go.Eng Go.Proofs Go.RowKit
attribute [local go_sem] evFold rnE ksE roundE frz frzs List.set_cons_zero List.set_cons_succ List.zip_cons_cons List.zip_nil_right List.foldl_cons List.foldl_nil D.flat rns AV.rn HO.rn AV.ks kss HO.ks sg dedup objKs reach passE fresh List.filter fnOf evOp opnd lk v2d v2ds just evBin intBin nilBin isNil strBin evUn evLoad ldD ldA evStore evField evIndex evBuild fillA evBuildSlice evAppend evAppendClip elems evMake evSlice evSliceO evCut evView evCopy evAppendV evAgg evMakeMap evLookup evMapUpd evRange evEntry cellsD AV.kb splice List.getLast?_append resM resAs resA resD keepL List.replicate_zero List.take_length ofInt evLen evMin evMax evConv evNil evExtract evBuiltin toD toDs allD pack splice D.comps AV.comps AV.sto D.cell D.rebuild inOrder allFlat del put setE eff gd gslot kills Option.map_some Option.map_none Option.bind_some Option.isSome_some List.map_cons List.map_nil List.append_nil List.nil_append List.cons_append List.length_cons List.length_nil List.length_map List.length_append List.take_zero List.take_succ_cons List.take_nil List.drop_zero List.drop_succ_cons List.drop_nil List.getElem?_cons_zero List.getElem?_cons_succ List.getElem?_map List.all_cons List.all_nil List.mem_cons List.not_mem_nil List.elem_cons List.elem_nil Bool.and_true Bool.true_and Bool.and_self Bool.not_true Bool.not_false Bool.or_true Bool.or_false and_self and_true true_and or_false false_or or_true true_or not_false_eq_true not_true_eq_false if_true if_false decide_true decide_false decide_eq_true_eq Int.toNat_natCast Int.toNat_zero beq_self_eq_true bne_self_eq_false Bool.false_eq_true Nat.add_zero Nat.zero_add tys room le_i lt_i eq_n le_n lt_n len0 gdE bb_tf bb_ft mapP arrL if_min tdiv_nn tmod_nn us_len us_get wrap_i64 wrap_u64 dec_lt dec_nlt dec_le dec_nle beq_t beq_f bne_t bne_f get_lt gt_iff_lt ge_iff_le
attribute [local go_sem ↓] map_P reduceIte
attribute [local go_sem] reduceCtorEq Nat.reduceEqDiff Nat.reduceAdd Nat.reduceSub Nat.reduceMul Nat.reduceLeDiff Nat.reduceLT Nat.reduceBEq Nat.reduceBNe Int.reduceToNat Int.reduceLT Int.reduceLE Int.reduceEq Int.reduceAdd Int.reduceSub Int.reduceNeg Int.reduceBEq Int.reduceBNe
attribute [local go_sem] is_len is_get rs_len rs_get ses_len ses_get dels
theorem ses_take {l : List Se} {k : Nat} : (ses l).take k = ses (l.take k) := by simp [ses, List.map_take]
/-- The first ones of rules in order are in order. -/
theorem srt_take {l : List Ru} (h : Srt l) (k : Nat) : Srt (l.take k) := List.Pairwise.sublist (List.take_sublist k l) h
theorem norm_take {l : List Ru} (h : norm l = l) (k : Nat) : norm (l.take k) = l.take k := by
  have hs : Srt l := h ▸ norm_srt l
  refine srt_ext (norm_srt _) (srt_take hs k) fun x => ⟨fun hx => (norm_mem.1 hx).1, fun hx => ?_⟩
  have hxl : x ∈ norm l := by rw [h]; exact List.mem_of_mem_take hx
  obtain ⟨_, h2, h3⟩ := norm_mem.1 hxl
  exact norm_mem.2 ⟨hx, h2, fun y hy => h3 y (List.mem_of_mem_take hy)⟩
theorem cok_take {c : Co} (h : cok c = true) (k : Nat) : cok ⟨c.more, c.less, c.other, c.turned, c.rules.take k⟩ = true := by
  obtain ⟨h1, h2, h3, h4⟩ := cok_iff.1 h
  refine cok_iff.2 ⟨h1, by show (c.rules.take k).length ≤ 200; simp only [List.length_take]; omega, List.all_eq_true.2 fun r hr => List.all_eq_true.1 h3 r (List.mem_of_mem_take hr), norm_take h4 k⟩
theorem stAt_take (c : Co) (rest : List Int) (k : Nat) : ∃ m, stAt ⟨c.more, c.less, c.other, c.turned, c.rules.take k⟩ rest = (stAt c rest).take m ∧ m ≤ (stAt c rest).length ∧ (stAt c rest).length - m ≤ c.rules.length - (c.rules.take k).length := by
  have ef : c.rules.filterMap (st4 rest) = (c.rules.take k).filterMap (st4 rest) ++ (c.rules.drop k).filterMap (st4 rest) := by rw [← List.filterMap_append, List.take_append_drop]
  have e : st3 ⟨c.more, c.less, c.other, c.turned, c.rules.take k⟩ rest = st3 c rest := rfl
  have ea : stAt c rest = (st3 c rest ++ (c.rules.take k).filterMap (st4 rest)) ++ (c.rules.drop k).filterMap (st4 rest) := by unfold stAt; rw [ef, List.append_assoc]
  have eb : stAt ⟨c.more, c.less, c.other, c.turned, c.rules.take k⟩ rest = st3 c rest ++ (c.rules.take k).filterMap (st4 rest) := by unfold stAt; rw [e]
  refine ⟨(st3 c rest ++ (c.rules.take k).filterMap (st4 rest)).length, ?_, ?_, ?_⟩
  · rw [ea, eb, List.take_left']
    rfl
  · rw [ea]; simp only [List.length_append]; omega
  · rw [ea]
    have := st4_len rest (c.rules.drop k)
    simp only [List.length_append, List.length_take, List.length_drop] at this ⊢
    omega
theorem stepsAt_take {c : Co} (h : cok c = true) (q : List Int) (i : Int) (k : Nat) : ∃ m, stepsAt ⟨c.more, c.less, c.other, c.turned, c.rules.take k⟩ q i = (stepsAt c q i).take m ∧ m ≤ (stepsAt c q i).length ∧ (stepsAt c q i).length - m ≤ c.rules.length - (c.rules.take k).length := by
  unfold stepsAt
  have e : may ⟨c.more, c.less, c.other, c.turned, c.rules.take k⟩ q = may c q := by unfold may; rw [cok_take h, h]
  rw [e]
  by_cases hm : may c q = true ∧ 0 ≤ i ∧ i ≤ q.length
  · rw [if_pos hm, if_pos hm]
    exact stAt_take c _ k
  · rw [if_neg hm, if_neg hm]
    exact ⟨0, rfl, Nat.le_refl _, by simp⟩
set_option maxHeartbeats 4000000 in
set_option maxRecDepth 10000 in
theorem lawSFew {c : Co} {q : List Int} {i k : Int} (hc : c.ok) (hq : q.length ≤ 9223372036854775807) (hk : 0 ≤ k ∧ k ≤ 255) : Sound Try.prog 12 [co c, .sl 1 (is q), .int .i64 i, .int .u8 k] (.bool true) := by
  have cf := pFewS hc hq
  have aw := stepsAwake
  have cc := sCheck hc
  cases hf : fewS c q
  · rw [hf] at cf
    unfold co at cf ⊢
    refine Sound.run (N := 73) Try.func12 rfl (by kernel_rfl) rfl rfl rfl (by first | exact args0_0 | exact args0_1 | exact args0_2 | exact args0_3 | exact args0_4 | exact args0_5 | exact args0_6) fun X_ w_ => ?_
    have c0_ := aw; have c1_ := cf; refine goT ?_; first | exact trivial | skip
  rw [hf] at cf
  have h3 := few_len (fewS_iff.1 hf).1
  cases hok : cok c
  · rw [hok] at cc
    unfold co at cf cc ⊢
    refine Sound.run (N := 73) Try.func12 rfl (by kernel_rfl) rfl rfl rfl (by first | exact args0_0 | exact args0_1 | exact args0_2 | exact args0_3 | exact args0_4 | exact args0_5 | exact args0_6) fun X_ w_ => ?_
    have c0_ := aw; have c1_ := cf; have c2_ := cc; refine goT ?_; first | exact trivial | skip
  rw [hok] at cc
  obtain ⟨n, hn⟩ := Int.eq_ofNat_of_zero_le (show 0 ≤ k % ((c.rules.length : Int) + 1) from Int.emod_nonneg _ (by omega))
  have hn1 : n ≤ c.rules.length := by have := Int.emod_lt_of_pos k (show (0 : Int) < (c.rules.length : Int) + 1 by omega); omega
  obtain ⟨m, e1, e2, e3⟩ := stepsAt_take hok q i n
  have hcd : Co.ok ⟨c.more, c.less, c.other, c.turned, c.rules.take n⟩ := by
    obtain ⟨u1, u2, u3, u4, hr, hl⟩ := hc
    exact ⟨u1, u2, u3, u4, fun r hr' => hr r (List.mem_of_mem_take hr'), by simp only [List.length_take]; omega⟩
  have c1 := pAt (i := i) hc hq
  have c2 := pAt (i := i) hcd hq
  rw [e1] at c2
  have hln := stepsAt_len c q i
  have c5 := rSameS (a := (stepsAt c q i).take m) (b := (stepsAt c q i).take m) (fun s hs => stepsAt_ses s (List.mem_of_mem_take hs)) (fun s hs => stepsAt_ses s (List.mem_of_mem_take hs)) (by simp only [List.length_take]; omega) (by simp only [List.length_take]; omega)
  rw [decide_eq_true rfl] at c5
  generalize stepsAt c q i = L at *
  have hlt : (L.take m).length = m := by simp only [List.length_take]; omega
  have hlr : (c.rules.take n).length = n := by simp only [List.length_take]; omega
  rw [hlr] at e3
  unfold co at *
  refine Sound.run (N := 73) Try.func12 rfl (by kernel_rfl) rfl rfl rfl (by first | exact args0_0 | exact args0_1 | exact args0_2 | exact args0_3 | exact args0_4 | exact args0_5 | exact args0_6) fun X_ w_ => ?_
  have c0_ := aw; have c1_ := cf; have c2_ := cc; have c3_ := c1; have c4_ := c2; have c5_ := c5; refine goX (And.intro @hn (And.intro @rs_take (And.intro @ses_take (And.intro @hlt @hlr)))) ?_; first | exact trivial | skip
end Go.Eng.Try

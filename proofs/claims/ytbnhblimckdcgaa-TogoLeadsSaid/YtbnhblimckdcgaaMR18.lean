/- What it costs to finish: the whole; what the laws ask first. (and what stands behind it: texts laid together) -/
import Derived.Test.YtbnhblimckdcgaaMG4
import Derived.Test.YtbnhblimckdcgaaMR15
import Derived.Test.YtbnhblimckdcgaaMR17
import Derived.Test.YtbnhblimckdcgaaMR4
import Derived.Test.YtbnhblimckdcgaaMR6
import Derived.Test.YtbnhblimckdcgaaMR13
set_option linter.unusedVariables false
set_option linter.unusedSimpArgs false
namespace Go.Eng.Try
open Go Go.Eng Go.Proofs Go.RowKit
attribute [local go_sem] evFold rnE ksE roundE frz frzs List.set_cons_zero List.set_cons_succ List.zip_cons_cons List.zip_nil_right List.foldl_cons List.foldl_nil D.flat rns AV.rn HO.rn AV.ks kss HO.ks sg dedup objKs reach passE fresh List.filter fnOf evOp opnd lk v2d v2ds just evBin intBin nilBin isNil strBin evUn evLoad ldD ldA evStore evField evIndex evBuild fillA evBuildSlice evAppend evAppendClip elems evMake evSlice evSliceO evSliceX evSliceY evViewV evStoreX evStoreT stT stI evCopyT evAppendT evAppendTD ldT ldI Tb.inn Tb.ilen Tb.nilAt Tb.ini D.put evCut evView evCopy evAppendV evAgg evMakeMap evLookup evMapUpd evRange evEntry cellsD AV.kb splice List.getLast?_append resM resAs resA resD keepL List.replicate_zero List.take_length ofInt evLen evMin evMax evConv evNil evExtract evBuiltin toD toDs allD pack splice D.comps AV.comps AV.sto D.cell D.rebuild inOrder allFlat del put setE eff gd gslot kills Option.map_some Option.map_none Option.bind_some Option.isSome_some List.map_cons List.map_nil List.append_nil List.nil_append List.cons_append List.length_cons List.length_nil List.length_map List.length_append List.take_zero List.take_succ_cons List.take_nil List.drop_zero List.drop_succ_cons List.drop_nil List.getElem?_cons_zero List.getElem?_cons_succ List.getElem?_map List.all_cons List.all_nil List.mem_cons List.not_mem_nil List.elem_cons List.elem_nil Bool.and_true Bool.true_and Bool.and_self Bool.not_true Bool.not_false Bool.or_true Bool.or_false and_self and_true true_and or_false false_or or_true true_or not_false_eq_true not_true_eq_false if_true if_false decide_true decide_false decide_eq_true_eq Int.toNat_natCast Int.toNat_zero beq_self_eq_true bne_self_eq_false Bool.false_eq_true Nat.add_zero Nat.zero_add tys room le_i lt_i eq_n le_n lt_n len0 gdE bb_tf bb_ft mapP arrL if_min tdiv_nn tmod_nn us_len us_get wrap_i64 wrap_u64 dec_lt dec_nlt dec_le dec_nle beq_t beq_f bne_t bne_f get_lt gt_iff_lt ge_iff_le
attribute [local go_sem ↓] map_P reduceIte
attribute [local go_sem] reduceCtorEq Nat.reduceEqDiff Nat.reduceAdd Nat.reduceSub Nat.reduceMul Nat.reduceLeDiff Nat.reduceLT Nat.reduceBEq Nat.reduceBNe Int.reduceToNat Int.reduceLT Int.reduceLE Int.reduceEq Int.reduceAdd Int.reduceSub Int.reduceNeg Int.reduceBEq Int.reduceBNe
attribute [local go_sem] is_len is_get ses_len ses_get sss_len sss_get ars_len ars_get stas_len stas_get tt_len tt_get dels
set_option maxHeartbeats 4000000 in
set_option maxRecDepth 10000 in
theorem pTGN {c : Co} {q : List Int} {l : List Sta} (hc : c.ok) (hq : q.length ≤ 9223372036854775807) (hl : StaOk l) (h : mayG c q l = false) : Sound Try.prog 38 [co c, .sl 1 (is q), .sl 2 (stas l)] .nils := by
  cases hm : may c q
  · have ca := allN hc hq hm
    unfold co at ca ⊢
    refine Sound.run (N := 90) Try.func38 rfl (by kernel_rfl) rfl rfl rfl (by first | exact args0_0 | exact args0_1 | exact args0_2 | exact args0_3 | exact args0_4 | exact args0_5 | exact args0_6) fun X_ w_ => ?_
    have c0_ := ca; refine goT ?_; first | exact trivial | skip
  · have hchk : achk l = false := by unfold mayG at h; rw [hm] at h; simpa using h
    have cch := pCheckA hl
    rw [hchk] at cch
    have ca := pAll hc hq
    have eA : stepsAll c q = allF c q (q.length + 1) := if_pos hm
    rw [eA] at ca
    have hlen := allF_len c q (q.length + 1)
    obtain ⟨A0, A1, hA⟩ : ∃ A0 A1, allF c q (q.length + 1) = A0 :: A1 := by
      cases h : allF c q (q.length + 1) with
      | nil => rw [h] at hlen; simp at hlen
      | cons a b => exact ⟨a, b, rfl⟩
    have eN : sss (allF c q (q.length + 1)) = .sl 4 (ses A0) :: sss A1 := by rw [hA]; rfl
    unfold co at ca ⊢
    refine Sound.run (N := 90) Try.func38 rfl (by kernel_rfl) rfl rfl rfl (by first | exact args0_0 | exact args0_1 | exact args0_2 | exact args0_3 | exact args0_4 | exact args0_5 | exact args0_6) fun X_ w_ => ?_
    have c0_ := ca; have c1_ := cch; refine goX @eN ?_; first | exact trivial | skip
theorem pTG {c : Co} {q : List Int} {l : List Sta} (hc : c.ok) (hq : q.length ≤ 9223372036854775807) (hl : StaOk l) : Sound Try.prog 38 [co c, .sl 1 (is q), .sl 2 (stas l)] (.sl 1 (tt (tableG c q l))) := by
  unfold tableG
  cases h : mayG c q l
  · rw [if_neg (by simp)]; exact (pTGN hc hq hl h).wk (Wks.refl _) (.nil 1)
  · rw [if_pos rfl]
    unfold mayG at h
    rw [Bool.and_eq_true] at h
    exact pTG1 hc h.1 hl h.2
def fewA (l : List Sta) (n : Nat) : Bool := (l.all fun s => decide (s.arcs.length ≤ 100)) && decide (l.length ≤ n)
theorem fewA_iff {l : List Sta} {n : Nat} : fewA l n = true ↔ (∀ k, k < l.length → (l[k]!).arcs.length ≤ 100) ∧ l.length ≤ n := by
  unfold fewA
  rw [Bool.and_eq_true, List.all_eq_true, decide_eq_true_eq]
  refine and_congr ⟨fun h k hk => ?_, fun h s hs => ?_⟩ Iff.rfl
  · rw [getElem!_pos l k hk]; exact of_decide_eq_true (h _ (List.getElem_mem hk))
  · obtain ⟨k, hk, rfl⟩ := List.getElem_of_mem hs
    have := h k hk
    rw [getElem!_pos l k hk] at this
    exact decide_eq_true this
set_option maxHeartbeats 4000000 in
set_option maxRecDepth 10000 in
theorem pFewA {l : List Sta} {n : Nat} (hl : StaOk l) (hn : n ≤ 1000000) : Sound Try.prog 20 [.sl 2 (stas l), .int .i64 n] (.bool (fewA l n)) := by
  have hlen := hl.1
  refine Sound.run (N := 23) Try.func20 rfl (by kernel_rfl) rfl rfl rfl (by first | exact args0_0 | exact args0_1 | exact args0_2 | exact args0_3 | exact args0_4 | exact args0_5 | exact args0_6) fun X_ w_ => ?_
  refine goT ?_; first | exact trivial | skip
  refine WP_loopk (fun k : Nat => k ≤ l.length ∧ ∀ j, j < k → (l[j]!).arcs.length ≤ 100) (fun k => [(0, .d (.sl 2 (stas l))), (1, .d (.int .i64 n)), (5, .d (.int .i64 k))]) (fun _ => []) 0 (fun k => l.length - k) [0, 1, 5] [] 0 ⟨Nat.zero_le _, fun j h => by omega⟩ rfl rfl (Nat.le_refl _) (fun _ _ => rfl) (fun _ _ => rfl) fun k hk => ?_
  obtain ⟨hk1, hk2⟩ := hk
  by_cases hk : k < l.length
  · have ha := hl.get hk
    by_cases h1 : 100 < (l[k]!).arcs.length
    · have e : fewA l n = false := by
        cases h : fewA l n with
        | false => rfl
        | true => have := (fewA_iff.1 h).1 k hk; omega
      refine goX @e ?_; first | exact trivial | skip
    · refine goT ?_; first | exact trivial | skip
      refine ⟨k + 1, ⟨by omega, fun j hj => ?_⟩, ?_, rfl, by omega⟩
      · by_cases e : j = k
        · subst e; omega
        · exact hk2 j (by omega)
      · simp (disch := omega) only [go_sem, keepL, Int.natCast_add, Int.cast_ofNat_Int]
  · have hkl : k = l.length := by omega
    subst hkl
    have e : fewA l n = decide ((l.length : Int) ≤ n) := by
      by_cases h2 : l.length ≤ n
      · rw [fewA_iff.2 ⟨hk2, h2⟩, decide_eq_true (by omega)]
      · cases h : fewA l n with
        | false => rw [decide_eq_false (by omega)]
        | true => have := (fewA_iff.1 h).2; omega
    rw [e]
    refine goT ?_; first | exact trivial | skip
def fewG (c : Co) (q : List Int) (l : List Sta) : Bool := fewA l 60 && fewR c.rules 300 && decide ((q.length : Int) ≤ 100)
theorem fewG_iff {c : Co} {q : List Int} {l : List Sta} : fewG c q l = true ↔ fewA l 60 = true ∧ fewR c.rules 300 = true ∧ q.length ≤ 100 := by
  unfold fewG
  simp only [Bool.and_eq_true, decide_eq_true_eq, and_assoc]
  exact and_congr Iff.rfl (and_congr Iff.rfl (by omega))
set_option maxHeartbeats 4000000 in
set_option maxRecDepth 10000 in
theorem pFewG {c : Co} {q : List Int} {l : List Sta} (hc : c.ok) (hq : q.length ≤ 9223372036854775807) (hl : StaOk l) : Sound Try.prog 35 [co c, .sl 1 (is q), .sl 2 (stas l)] (.bool (fewG c q l)) := by
  have cf := rFewR (n := 300) hc.2.2.2.2.1 hc.2.2.2.2.2
  have ca := pFewA (n := 60) hl (by omega)
  have e : fewG c q l = (fewA l 60 && fewR c.rules 300 && decide ((q.length : Int) ≤ 100)) := rfl
  unfold co
  cases ha : fewA l 60
  · rw [ha] at ca e
    simp only [Bool.false_and] at e
    refine Sound.run (N := 21) Try.func35 rfl (by kernel_rfl) rfl rfl rfl (by first | exact args0_0 | exact args0_1 | exact args0_2 | exact args0_3 | exact args0_4 | exact args0_5 | exact args0_6) fun X_ w_ => ?_
    have c0_ := ca; refine goX @e ?_; first | exact trivial | skip
  rw [ha] at ca e
  cases hf : fewR c.rules 300
  · rw [hf] at cf e
    simp only [Bool.false_and, Bool.and_false] at e
    refine Sound.run (N := 21) Try.func35 rfl (by kernel_rfl) rfl rfl rfl (by first | exact args0_0 | exact args0_1 | exact args0_2 | exact args0_3 | exact args0_4 | exact args0_5 | exact args0_6) fun X_ w_ => ?_
    have c0_ := ca; have c1_ := cf; refine goX @e ?_; first | exact trivial | skip
  rw [hf] at cf e
  by_cases h1 : q.length ≤ 100
  · have e : fewG c q l = true := by rw [e]; simp; omega
    refine Sound.run (N := 21) Try.func35 rfl (by kernel_rfl) rfl rfl rfl (by first | exact args0_0 | exact args0_1 | exact args0_2 | exact args0_3 | exact args0_4 | exact args0_5 | exact args0_6) fun X_ w_ => ?_
    have c0_ := ca; have c1_ := cf; refine goX @e ?_; first | exact trivial | skip
  · have e : fewG c q l = false := by rw [e]; simp; omega
    refine Sound.run (N := 21) Try.func35 rfl (by kernel_rfl) rfl rfl rfl (by first | exact args0_0 | exact args0_1 | exact args0_2 | exact args0_3 | exact args0_4 | exact args0_5 | exact args0_6) fun X_ w_ => ?_
    have c0_ := ca; have c1_ := cf; refine goX @e ?_; first | exact trivial | skip
def lG0 : List (List Int) := [[97, 98, 99], [98]]
def sG0 : List Sta := [⟨false, [⟨97, 1⟩, ⟨98, 2⟩]⟩, ⟨false, [⟨98, 3⟩]⟩, ⟨true, []⟩, ⟨false, [⟨99, 4⟩]⟩, ⟨true, []⟩]
theorem trie_G0 : trieF lG0 = sG0 := by decide +kernel
theorem tab_G0 : tableG cD1 [97, 98] sG0 = [[1, 2, 2, 2, 2], [0, 1, 1, 1, 1], [1, 2, 0, 1, 0]] := by decide +kernel
theorem tab_G1 : mayG cD1 [] [] = false := by decide +kernel
def cGI : Co := ⟨0, 18446744073709551615, 0, 0, []⟩
theorem ok_GI : cGI.ok := by unfold Co.ok cGI U Ru.ok; decide
theorem tab_G2 : mayG cGI [] sG0 = false := by decide +kernel
theorem ok_sG : StaOk sG0 := by unfold StaOk sG0; decide
theorem trie_G : Sound Try.prog 53 [.sl 1 (iss lG0)] (.tup [.sl 2 (stas sG0), .int .i64 0]) := by
  have hW := pWriteA (l := lG0) (by decide) (by decide) (by decide +kernel) (by unfold SrtW lG0; decide +kernel) (by decide)
  have := pTrie (L := lG0) (by decide) (by decide) hW
  rw [trie_G0] at this
  exact this
set_option maxHeartbeats 4000000 in
set_option maxRecDepth 10000 in
theorem togoAwake : Sound Try.prog 34 [] (.bool true) := by
  have t0 := trie_G
  have d1 := pTG (c := cD1) (q := [97, 98]) (l := sG0) ok_D1 (by decide) ok_sG
  rw [tab_G0] at d1
  have d2 := pTGN (c := cD1) (q := []) (l := []) ok_D1 (by decide) (by unfold StaOk; decide) tab_G1
  have d3 := pTGN (c := cGI) (q := []) (l := sG0) ok_GI (by decide) ok_sG tab_G2
  have e1 := pLead (l := sG0) (f := 0) (w := [97, 98]) ok_sG (by decide)
  have e2 := pLead (l := sG0) (f := 2) (w := []) ok_sG (by decide)
  have e3 := pLead (l := sG0) (f := 0) (w := [99]) ok_sG (by decide)
  rw [show leadG sG0 0 [97, 98] = some 3 by decide +kernel] at e1
  rw [show leadG sG0 2 [] = some 2 by decide +kernel] at e2
  rw [show leadG sG0 0 [99] = none by decide +kernel] at e3
  have d1 := d1.wk (as' := [.agg [.int .u64 1, .int .u64 1, .int .u64 1, .int .u64 1, .nils], .sl 1 (is [97, 98]), .sl 2 (stas sG0)]) (.cons (.agg (.cons (.refl _) (.cons (.refl _) (.cons (.refl _) (.cons (.refl _) (.cons (.nil 3) .nil)))))) (.cons (.refl _) (.cons (.refl _) .nil))) (.refl _)
  have d2 := d2.wk (as' := [.agg [.int .u64 1, .int .u64 1, .int .u64 1, .int .u64 1, .nils], .nils, .nils]) (.cons (.agg (.cons (.refl _) (.cons (.refl _) (.cons (.refl _) (.cons (.refl _) (.cons (.nil 3) .nil)))))) (.cons (.nil 1) (.cons (.nil 2) .nil))) (.refl _)
  have d3 := d3.wk (as' := [.agg [.int .u64 0, .int .u64 18446744073709551615, .int .u64 0, .int .u64 0, .nils], .nils, .sl 2 (stas sG0)]) (.cons (.agg (.cons (.refl _) (.cons (.refl _) (.cons (.refl _) (.cons (.refl _) (.cons (.nil 3) .nil)))))) (.cons (.nil 1) (.cons (.refl _) .nil))) (.refl _)
  have e2 := e2.wk (as' := [.sl 2 (stas sG0), .int .i64 2, .nils]) (.cons (.refl _) (.cons (.refl _) (.cons (.nil 1) .nil))) (.refl _)
  have hs5 : sG0.length = 5 := rfl
  simp only [lG0, iss, is, tt, us, List.map_cons, List.map_nil] at t0 d1 d2 d3
  simp only [is, List.map_cons, List.map_nil] at e1 e2 e3
  unfold stepR at e1 e2 e3
  refine Sound.run (N := 115) Try.func34 rfl (by kernel_rfl) rfl rfl rfl (by first | exact args0_0 | exact args0_1 | exact args0_2 | exact args0_3 | exact args0_4 | exact args0_5 | exact args0_6) fun X_ w_ => ?_
  have c0_ := t0; have c1_ := d1; have c2_ := d2; have c3_ := d3; have c4_ := e1; have c5_ := e2; have c6_ := e3; repeat ((fail_if_success (with_reducible show WP _ _ (.region 4 _ _) _ _)); first | with_reducible exact Ev.nil | with_reducible exact gd_n | ((with_reducible apply lk_ok); rfl) | ((with_reducible apply gslot_ok); rfl) | ((with_reducible apply v2d_ok); rfl) | with_reducible apply then_n | with_reducible apply WP_seq | with_reducible apply WP_skip | ((with_reducible apply WP_r (N := 115) rfl rfl); (focus simp only [Nat.reduceAdd] <;> rfl)) | ((with_reducible apply WP_d (N := 115) mixed rfl rfl); (focus simp only [Nat.reduceAdd] <;> rfl)) | ((with_reducible apply Ev_s); (focus first | (apply gd_u; (focus rfl); rfl) | (apply gd_f; (focus rfl); (focus rfl); rfl))) | ((with_reducible apply Ev_sn); (focus first | (apply gd_u; (focus rfl); rfl) | (apply gd_f; (focus rfl); (focus rfl); rfl))) | with_reducible apply gd_t | with_reducible apply Ev_mv | with_reducible apply Ev_as | with_reducible apply Ev_mc | with_reducible apply Ev_ac | ((first | (with_reducible apply Ev_pt) | (with_reducible apply Ev_ptc)); (focus rfl)) | ((first | (with_reducible apply Ev_pf) | (with_reducible apply Ev_pfc)); (focus rfl)) | (apply Ev_cf; (focus simp (disch := omega) only [go_sem, hs5] <;> rfl); (focus first | exact c0_ | exact c1_ | exact c2_ | exact c3_ | exact c4_ | exact c5_ | exact c6_); (focus rfl); (focus first | (simp (disch := omega) only [go_sem, hs5] <;> rfl) | rfl)) | ((with_reducible apply Ev_d); (focus simp only [Nat.reduceAdd] <;> rfl); (focus simp (disch := omega) only [go_sem, hs5] <;> rfl)) | (apply Ev_cv; (focus rfl); (focus simp (disch := omega) only [go_sem, hs5] <;> rfl); (focus first | exact c0_ | exact c1_ | exact c2_ | exact c3_ | exact c4_ | exact c5_ | exact c6_); (iterate 3 (focus first | (simp (disch := omega) only [go_sem, hs5] <;> rfl) | rfl))) | ((first | apply Ev_cmd | apply Ev_cmn); (focus simp only [Nat.reduceAdd] <;> rfl); (focus rfl); (iterate 2 (focus simp (disch := omega) only [go_sem, hs5] <;> rfl)); (first | ((focus first | exact c0_ | exact c1_ | exact c2_ | exact c3_ | exact c4_ | exact c5_ | exact c6_); (iterate 2 (focus first | (simp (disch := omega) only [go_sem, hs5] <;> rfl) | rfl)); (focus rfl); (iterate 3 (focus first | (simp (disch := omega) only [go_sem, hs5] <;> rfl) | rfl))))) | ((first | (with_reducible apply Ev_od) | (with_reducible apply Ev_on)); (focus simp only [Nat.reduceAdd] <;> rfl); (focus simp (disch := omega) only [go_sem, hs5] <;> rfl); (focus first | (simp (disch := omega) only [go_sem, hs5] <;> rfl) | rfl)) | with_reducible apply endM_n | with_reducible apply endM_r | with_reducible apply then_r | with_reducible apply then_x | with_reducible apply block_n | with_reducible apply block_r | with_reducible apply block_x | with_reducible apply block_y rfl | with_reducible apply scope_n | with_reducible apply scope_r | with_reducible apply scope_x | with_reducible apply end_n | with_reducible apply end_r | with_reducible apply WP_block | with_reducible apply WP_exit | with_reducible apply WP_ret | with_reducible apply WP_label | with_reducible apply WP_scope | ((with_reducible apply WP_t); (focus first | (simp (disch := omega) only [go_sem, hs5] <;> rfl) | rfl)) | ((with_reducible apply WP_f); (focus first | (simp (disch := omega) only [go_sem, hs5] <;> rfl) | rfl)) | ((with_reducible apply resD_t); (focus rfl)) | ((with_reducible apply resD_2); (focus rfl); (focus rfl)) | (with_reducible rfl) | ((with_reducible show List.map outKeys _ = _); simp only [List.map_cons, List.map_nil, outKeys, keys]; rfl) | ((with_reducible show orderOk _ _ = true); kernel_rfl) | ((with_reducible show _ = _); simp (disch := omega) only [go_sem, hs5] <;> rfl) | ((fail_if_success (with_reducible show Ev _ _ _ _ (_ :: _) _ _ _ _ _)); (show Ev _ _ _ _ (_ :: _) _ _ _ _ _)) | fail)
  refine WP_fix 1001 rfl rfl rfl rfl (by simp (disch := omega) only [go_sem]; rfl) ?_
  have c0_ := t0; have c1_ := d1; have c2_ := d2; have c3_ := d3; have c4_ := e1; have c5_ := e2; have c6_ := e3; refine goX @hs5 ?_; first | exact trivial | skip
end Go.Eng.Try
set_option linter.unusedVariables false
set_option linter.unusedSimpArgs false
namespace Go.Eng.Try
open Go Go.Eng Go.Proofs Go.RowKit
theorem cadd_mono {a x y : Int} (h : x ≤ y) : cadd a x ≤ cadd a y := by unfold cadd; split <;> split <;> omega
/-- Of two tables, the one with more steps and more ends is no greater. -/
theorem tg_le {all all' : List (List Se)} {l l' : List Sta} {t t' : List (List Int)} (hS : StepsG all) (hl : achk l = true) (hlen : all'.length = all.length) (hll : l'.length = l.length)
    (hsub : ∀ i, i < all.length → ∀ s ∈ all'[i]!, s ∈ all[i]!) (hends : ∀ s k, endsF s l' k = endsF s l k) (hbase : ∀ i k, k < l.length → base all.length l i k ≤ base all.length l' i k) (ht : TG all l t) (ht' : TG all' l' t') :
    ∀ a b i k, i < all.length → k < l.length → all.length - i = a → l.length - k = b → get2 t i k ≤ get2 t' i k := by
  intro a
  induction a using Nat.strongRecOn with
  | _ a iha =>
  intro b
  induction b using Nat.strongRecOn with
  | _ b ihb =>
  intro i k hi hk ea eb
  have f1 := (ht.fix i k hi hk).1
  have f2 := (ht'.fix i k (by omega) (by omega)).1
  have l1 := cell_le (l := l) (t := t) (i := i) (k := k) (all[i]!) (base all.length l i k)
  have l2 := cell_le (l := l') (t := t') (i := i) (k := k) (all'[i]!) (base all'.length l' i k)
  rw [f1, f2]
  unfold cellT
  obtain ⟨p1, p2, p3⟩ := l1
  clear p3
  rcases l2.2.2 with e | ⟨s, hs, e, he, h⟩
  · rw [e, hlen]
    exact Int.le_trans p1 (hbase i k hk)
  · rw [hends] at he
    have hs2 := hsub i hi s hs
    obtain ⟨q1, q2, q3⟩ := behind (t := t) hS hl hi hk hs2 he
    rw [h]
    refine Int.le_trans (p2 s hs2 e he) (cadd_mono ?_)
    clear l2 p1 p2 h f1 f2
    rcases q3 with q3 | ⟨q3, q4⟩
    · exact iha (all.length - (i + s.eat.toNat)) (by omega) _ _ _ q1 q2 rfl rfl
    · rw [q3]
      exact ihb (l.length - e.toNat) (by omega) _ _ hi q2 ea rfl
theorem stAt_sub {c : Co} {rest : List Int} {k : Nat} {s : Se} (h : s ∈ stAt ⟨c.more, c.less, c.other, c.turned, c.rules.take k⟩ rest) : s ∈ stAt c rest := by
  rw [stAt_mem] at h ⊢
  rcases h with h | h | h | ⟨r, hr, h1, h2⟩
  · exact .inl h
  · exact .inr (.inl h)
  · exact .inr (.inr (.inl h))
  · exact .inr (.inr (.inr ⟨r, List.mem_of_mem_take hr, h1, h2⟩))
/-- The first ones of rules in order are in order. -/
theorem srt_take {l : List Ru} (h : Srt l) (k : Nat) : Srt (l.take k) := List.Pairwise.sublist (List.take_sublist k l) h
theorem norm_take {l : List Ru} (h : norm l = l) (k : Nat) : norm (l.take k) = l.take k := by
  obtain ⟨h1, h2⟩ := norm_fix.1 h
  exact norm_fix.2 ⟨srt_take h1 k, fun r hr => h2 r (List.mem_of_mem_take hr)⟩
theorem cok_take {c : Co} (h : cok c = true) (k : Nat) : cok ⟨c.more, c.less, c.other, c.turned, c.rules.take k⟩ = true := by
  obtain ⟨h1, h2, h3, h4⟩ := cok_iff.1 h
  refine cok_iff.2 ⟨h1, by show (c.rules.take k).length ≤ 200; simp only [List.length_take]; omega, List.all_eq_true.2 fun r hr => List.all_eq_true.1 h3 r (List.mem_of_mem_take hr), norm_take h4 k⟩
theorem ok_take {c : Co} (hc : c.ok) (n : Nat) : Co.ok ⟨c.more, c.less, c.other, c.turned, c.rules.take n⟩ := by
  obtain ⟨u1, u2, u3, u4, hr, hl⟩ := hc
  exact ⟨u1, u2, u3, u4, fun r hr' => hr r (List.mem_of_mem_take hr'), by simp only [List.length_take]; omega⟩
/-- What a table tells, when it tells. -/
theorem tableG_TG {c : Co} {q : List Int} {l : List Sta} (hc : c.ok) (h : mayG c q l = true) : q.length ≤ 20 ∧ cok c = true ∧ achk l = true ∧ TG (allF c q (q.length + 1)) l (tableG c q l) := by
  have e : tableG c q l = tg (allF c q (q.length + 1)) l := if_pos h
  unfold mayG at h
  rw [Bool.and_eq_true] at h
  obtain ⟨h1, h2⟩ := may_iff.1 h.1
  exact ⟨h1, h2, h.2, e ▸ tg_all (tg_steps hc h2 q) h.2⟩
/-- Two tables, as the laws look at them: as large, and no greater. -/
def LeT (a b : List (List Int)) (L : Nat) : Prop := b.length = a.length ∧ (∀ i, i < a.length → (a[i]!).length = L ∧ (b[i]!).length = L) ∧ ∀ i k, i < a.length → k < L → (a[i]!)[k]! ≤ (b[i]!)[k]!
theorem togo_few {c : Co} {q : List Int} {l : List Sta} (hc : c.ok) (hk : cok c = true) (n : Nat) : LeT (tableG c q l) (tableG ⟨c.more, c.less, c.other, c.turned, c.rules.take n⟩ q l) l.length := by
  have em : mayG ⟨c.more, c.less, c.other, c.turned, c.rules.take n⟩ q l = mayG c q l := by unfold mayG may; rw [cok_take hk, hk]
  cases hm : mayG c q l
  · have e1 : tableG c q l = [] := if_neg (by rw [hm]; simp)
    have e2 : tableG ⟨c.more, c.less, c.other, c.turned, c.rules.take n⟩ q l = [] := if_neg (by rw [em, hm]; simp)
    rw [e1, e2]
    exact ⟨rfl, fun i hi => absurd hi (by simp), fun i k hi => absurd hi (by simp)⟩
  · obtain ⟨_, _, h3, t1⟩ := tableG_TG hc hm
    obtain ⟨_, _, _, t2⟩ := tableG_TG (ok_take hc n) (em.trans hm)
    have hl1 := t1.len
    have hl2 := t2.len
    rw [allF_len] at hl1 hl2
    refine ⟨by omega, fun i hi => ⟨t1.rows i (by rw [allF_len]; omega), t2.rows i (by rw [allF_len]; omega)⟩, fun i k hi hkk => ?_⟩
    refine tg_le (tg_steps hc hk q) h3 (by rw [allF_len, allF_len]) rfl (fun i hi s hs => ?_) (fun _ _ => rfl) (fun i k hk => by rw [allF_len]; exact Int.le_refl _) t1 t2 _ _ i k (by rw [allF_len]; omega) hkk rfl rfl
    rw [allF_len] at hi
    rw [allF_get _ q hi] at hs ⊢
    exact stAt_sub hs
def setF (l : List Sta) (k : Nat) : List Sta := l.set k ⟨true, (l[k]!).arcs⟩
theorem getB_set4 {l : List Sta} {i j : Nat} {v : Sta} (h : i < l.length) : (l.set i v)[j]! = if j = i then v else l[j]! := getB_setI h
theorem setF_arcs {l : List Sta} {k : Nat} (hk : k < l.length) (j : Nat) : ((setF l k)[j]!).arcs = (l[j]!).arcs := by
  unfold setF
  rw [getB_set4 hk]
  split
  · rename_i h; rw [h]
  · rfl
theorem setF_len (l : List Sta) (k : Nat) : (setF l k).length = l.length := by simp [setF]
theorem achk_arcs {l l' : List Sta} (hl : l'.length = l.length) (h : ∀ j : Nat, (l'[j]!).arcs = (l[j]!).arcs) : achk l' = achk l := by
  unfold achk statesOk
  rw [hl]
  have : ∀ n m : Nat, (List.range n).all (fun i => arcsOk i m (-1) (l'[i]!).arcs) = (List.range n).all (fun i => arcsOk i m (-1) (l[i]!).arcs) := fun n m => by simp only [h]
  rw [this]
theorem stepF_arcs {l l' : List Sta} (hl : l'.length = l.length) (h : ∀ j : Nat, (l'[j]!).arcs = (l[j]!).arcs) (f z : Int) : stepF l' f z = stepF l f z := by unfold stepF; rw [hl, h]
theorem leadF_arcs {l l' : List Sta} (hl : l'.length = l.length) (h : ∀ j : Nat, (l'[j]!).arcs = (l[j]!).arcs) : ∀ (w : List Int) (f : Int), leadF l' f w = leadF l f w
  | [], f => rfl
  | z :: w, f => by simp only [leadF, stepF_arcs hl h, leadF_arcs hl h w]
theorem endsF_arcs {l l' : List Sta} (hl : l'.length = l.length) (h : ∀ j : Nat, (l'[j]!).arcs = (l[j]!).arcs) (s : Se) (k : Nat) : endsF s l' k = endsF s l k := by
  unfold endsF leadG
  rw [hl, h, leadF_arcs hl h]
theorem mayG_arcs {l l' : List Sta} (hl : l'.length = l.length) (h : ∀ j : Nat, (l'[j]!).arcs = (l[j]!).arcs) (c : Co) (q : List Int) : mayG c q l' = mayG c q l := by unfold mayG; rw [achk_arcs hl h]
theorem StaOk.setF {l : List Sta} (h : StaOk l) {k : Nat} (hk : k < l.length) : StaOk (setF l k) := by
  refine ⟨by rw [setF_len]; exact h.1, fun s hs => ?_⟩
  obtain ⟨j, hj, rfl⟩ := List.getElem_of_mem hs
  rw [← getElem!_pos _ j hj, setF_arcs hk]
  rw [setF_len] at hj
  exact h.get hj
theorem setF_final {l : List Sta} {k j : Nat} (hk : k < l.length) (h : (l[j]!).final = true) : ((setF l k)[j]!).final = true := by
  unfold setF
  rw [getB_set4 hk]
  split
  · rfl
  · exact h
theorem togo_final {c : Co} {q : List Int} {l : List Sta} (hc : c.ok) (hm : mayG c q l = true) {k : Nat} (hk : k < l.length) :
    (tableG c q l).length = q.length + 1 ∧ LeT (tableG c q (setF l k)) (tableG c q l) l.length ∧ ((tableG c q (setF l k))[q.length]!)[k]! = 0 := by
  obtain ⟨h1, h2, h3, t1⟩ := tableG_TG hc hm
  have em := mayG_arcs (setF_len l k) (setF_arcs hk) c q
  obtain ⟨_, _, h4, t2⟩ := tableG_TG hc (em.trans hm)
  have hl1 := t1.len
  have hl2 := t2.len
  have hr2 := t2.rows
  rw [setF_len] at hr2
  rw [allF_len] at hl1 hl2
  refine ⟨hl1, ⟨by omega, fun i hi => ⟨hr2 i (by rw [allF_len]; omega), t1.rows i (by rw [allF_len]; omega)⟩, fun i j hi hj => ?_⟩, ?_⟩
  · refine tg_le (tg_steps hc h2 q) h4 rfl (by rw [setF_len]) (fun i hi s hs => hs) (fun s j => (endsF_arcs (setF_len l k) (setF_arcs hk) s j).symm) (fun i j hj => ?_) t2 t1 _ _ i j (by rw [allF_len]; omega) (by rw [setF_len]; exact hj) rfl rfl
    unfold base
    by_cases h : i + 1 = (allF c q (q.length + 1)).length ∧ (l[j]!).final = true
    · rw [if_pos h, if_pos ⟨h.1, setF_final hk h.2⟩]; exact Int.le_refl _
    · rw [if_neg h]; split <;> omega
  · obtain ⟨f1, f2⟩ := t2.fix q.length k (by rw [allF_len]; omega) (by rw [setF_len]; exact hk)
    have := (cell_le (l := setF l k) (t := tableG c q (setF l k)) (i := q.length) (k := k) ((allF c q (q.length + 1))[q.length]!) (base (allF c q (q.length + 1)).length (setF l k) q.length k)).1
    have hb : base (allF c q (q.length + 1)).length (setF l k) q.length k = 0 := by
      unfold base
      rw [if_pos]
      refine ⟨by rw [allF_len], ?_⟩
      unfold setF; rw [getB_set4 hk, if_pos rfl]
    rw [hb] at this
    unfold cellT at f1
    rw [hb] at f1
    have e : ((tableG c q (setF l k))[q.length]!)[k]! = get2 (tableG c q (setF l k)) q.length k := rfl
    have h0 := f2.1
    omega
theorem arcs_find {i n : Int} : ∀ {l : List Ar} {last : Int}, arcsOk i n last l = true → ∀ a ∈ l, l.find? (sgn a.sign) = some a
  | [], _, _, a, ha => by cases ha
  | b :: l, last, h, a, ha => by
    rcases List.mem_cons.1 ha with e | e
    · subst e; simp [List.find?, sgn]
    · simp only [arcsOk, Bool.and_eq_true] at h
      have := arcsOk_mem h.2 a e
      have hne : sgn a.sign b = false := decide_eq_false (by omega)
      rw [List.find?_cons_of_neg (by simp [hne])]
      exact arcs_find h.2 a e
/-- What a table tells of steps on single signs. -/
theorem togo_leads {c : Co} {q : List Int} {l : List Sta} (hc : c.ok) (hm : mayG c q l = true) {i k : Nat} (hi : i < q.length) (hk : k < l.length) :
    get2 (tableG c q l) i k ≤ cadd c.less (get2 (tableG c q l) (i + 1) k) ∧ ∀ a ∈ (l[k]!).arcs, get2 (tableG c q l) i k ≤ cadd c.other (get2 (tableG c q l) (i + 1) a.to.toNat) ∧ get2 (tableG c q l) i k ≤ cadd c.more (get2 (tableG c q l) i a.to.toNat) ∧ (a.sign = q[i]! → get2 (tableG c q l) i k ≤ get2 (tableG c q l) (i + 1) a.to.toNat) := by
  obtain ⟨h1, h2, h3, t1⟩ := tableG_TG hc hm
  have hi2 : i < (allF c q (q.length + 1)).length := by rw [allF_len]; omega
  obtain ⟨f1, f2⟩ := t1.fix i k hi2 hk
  have hc1 := (cell_le (l := l) (t := tableG c q l) (i := i) (k := k) ((allF c q (q.length + 1))[i]!) (base (allF c q (q.length + 1)).length l i k)).2.1
  unfold cellT at f1
  rw [← f1, allF_get c q (by omega)] at hc1
  have hd : q.drop i = q[i]! :: q.drop (i + 1) := by rw [List.drop_eq_getElem_cons hi, getElem!_pos q i hi]
  have m1 : ∀ s, (s = ⟨1, [q[i]!], false, 0⟩ ∨ s = ⟨1, [], true, c.other⟩ ∨ s = ⟨1, [], false, c.less⟩) → s ∈ stAt c (q.drop i) := fun s hs => stAt_mem.2 (.inl (st1_mem.2 ⟨_, _, hd, hs⟩))
  have m2 : (⟨0, [], true, c.more⟩ : Se) ∈ stAt c (q.drop i) := stAt_mem.2 (.inr (.inr (.inl rfl)))
  refine ⟨?_, fun a ha => ⟨?_, ?_, fun hs => ?_⟩⟩
  · have := hc1 _ (m1 _ (.inr (.inr rfl))) k (by unfold endsF leadG; rw [if_neg (by simp), if_pos ⟨by omega, by omega⟩]; simp [leadF])
    simpa using this
  · have := hc1 _ (m1 _ (.inr (.inl rfl))) a.to (by unfold endsF; rw [if_pos rfl]; exact List.mem_map.2 ⟨a, ha, rfl⟩)
    simpa using this
  · have := hc1 _ m2 a.to (by unfold endsF; rw [if_pos rfl]; exact List.mem_map.2 ⟨a, ha, rfl⟩)
    simpa using this
  · have hf := arcs_find (statesOk_le (achk_iff.1 h3).1 hk) a ha
    have := hc1 _ (m1 _ (.inl rfl)) a.to (by
      unfold endsF leadG
      rw [if_neg (by simp), if_pos ⟨by omega, by omega⟩]
      simp only [leadF, stepF]
      rw [if_pos ⟨by omega, by omega⟩, Int.toNat_natCast, ← hs, hf]
      simp)
    have hU := achk_arc h3 hk a ha
    obtain ⟨_, u2⟩ := t1.fix (i + 1) a.to.toNat (by rw [allF_len]; omega) (by omega)
    simp only [Int.toNat_one] at this
    unfold U at u2
    unfold cadd at this
    rw [if_pos (by omega)] at this
    omega
end Go.Eng.Try
set_option linter.unusedVariables false
set_option linter.unusedSimpArgs false
namespace Go.Eng.Try
open Go Go.Eng Go.Proofs Go.RowKit
set_option maxRecDepth 100000 in
theorem ty_is {n : Nat} {ds : List D} (h : TyC Try.prog n 26 ds) : ∃ l, dOf Try.prog 26 ds = .sl 1 (is l) ∧ l.length ≤ 9223372036854775807 := by
  obtain ⟨m, xs, rfl, h1, h2⟩ := ty_sl Try.underlying26 h
  obtain ⟨l, e1, e2, _⟩ := ty_list (f := fun z => D.int .i64 z) (ok := fun _ => True) (fun x hx => by
    obtain ⟨z, rfl, _⟩ := ty_int Try.underlying3 hx
    exact ⟨z, dOf_int Try.underlying3, trivial⟩) xs h2
  rw [e1, dOf_sl Try.underlying26]
  exact ⟨l, rfl, by omega⟩
set_option maxRecDepth 100000 in
theorem ty_ru {n : Nat} {ds : List D} (h : TyC Try.prog n 34 ds) : ∃ r : Ru, dOf Try.prog 34 ds = ru r ∧ r.ok := by
  obtain ⟨m, h⟩ := ty_struct Try.underlying34 h
  obtain ⟨_, _, rfl, h1, _, _, rfl, h2, _, _, rfl, h3, rfl⟩ := h
  obtain ⟨c, rfl, hc⟩ := ty_int Try.underlying22 h3
  obtain ⟨l, e1, o1⟩ := ty_is h1
  obtain ⟨k, xs, rfl, _, _⟩ := ty_sl Try.underlying26 h1
  rw [dOf_sl Try.underlying26] at e1
  obtain ⟨l', e2, o2⟩ := ty_is h2
  obtain ⟨k', xs', rfl, _, _⟩ := ty_sl Try.underlying26 h2
  rw [dOf_sl Try.underlying26] at e2
  rw [dOf_struct Try.underlying34, e1, e2]
  exact ⟨⟨l, l', c⟩, rfl, o1, o2, wf_u64 hc⟩
set_option maxRecDepth 100000 in
theorem ty_rs {n : Nat} {ds : List D} (h : TyC Try.prog n 23 ds) : ∃ l, dOf Try.prog 23 ds = .sl 3 (rs l) ∧ (∀ r ∈ l, r.ok) ∧ l.length ≤ 9223372036854775807 := by
  obtain ⟨m, xs, rfl, h1, h2⟩ := ty_sl Try.underlying23 h
  obtain ⟨l, e1, e2, h3⟩ := ty_list (f := ru) (ok := Ru.ok) (fun x hx => ty_ru hx) xs h2
  rw [e1, dOf_sl Try.underlying23]
  exact ⟨l, rfl, h3, by omega⟩
end Go.Eng.Try
set_option linter.unusedVariables false
set_option linter.unusedSimpArgs false
namespace Go.Eng.Try
open Go Go.Eng Go.Proofs Go.RowKit
set_option maxRecDepth 100000 in
theorem ty_i64 {n : Nat} {ds : List D} (h : TyC Try.prog n 3 ds) : ∃ z : Int, dOf Try.prog 3 ds = .int .i64 z ∧ (-9223372036854775808 ≤ z ∧ z ≤ 9223372036854775807) := by
  obtain ⟨z, rfl, hz⟩ := ty_int Try.underlying3 h
  exact ⟨z, dOf_int Try.underlying3, wf_i64 hz⟩
set_option maxRecDepth 100000 in
theorem ty_u8 {n : Nat} {ds : List D} (h : TyC Try.prog n 5 ds) : ∃ z : Int, dOf Try.prog 5 ds = .int .u8 z ∧ (0 ≤ z ∧ z ≤ 255) := by
  obtain ⟨z, rfl, hz⟩ := ty_int Try.underlying5 h
  exact ⟨z, dOf_int Try.underlying5, wf_u8 hz⟩
set_option maxRecDepth 100000 in
theorem ty_co {n : Nat} {ds : List D} (h : TyC Try.prog n 25 ds) : ∃ c : Co, dOf Try.prog 25 ds = co c ∧ c.ok := by
  obtain ⟨m, h⟩ := ty_struct Try.underlying25 h
  obtain ⟨_, _, rfl, h1, _, _, rfl, h2, _, _, rfl, h3, _, _, rfl, h4, _, _, rfl, h5, rfl⟩ := h
  obtain ⟨c1, rfl, hc1⟩ := ty_int Try.underlying22 h1
  obtain ⟨c2, rfl, hc2⟩ := ty_int Try.underlying22 h2
  obtain ⟨c3, rfl, hc3⟩ := ty_int Try.underlying22 h3
  obtain ⟨c4, rfl, hc4⟩ := ty_int Try.underlying22 h4
  obtain ⟨l, e1, o1, o2⟩ := ty_rs h5
  obtain ⟨k, xs, rfl, _, _⟩ := ty_sl Try.underlying23 h5
  rw [dOf_sl Try.underlying23] at e1
  rw [dOf_struct Try.underlying25, e1]
  exact ⟨⟨c1, c2, c3, c4, l⟩, rfl, wf_u64 hc1, wf_u64 hc2, wf_u64 hc3, wf_u64 hc4, o1, o2⟩
end Go.Eng.Try
set_option linter.unusedVariables false
set_option linter.unusedSimpArgs false
namespace Go.Eng.Try
open Go Go.Eng Go.Proofs Go.RowKit
set_option maxRecDepth 100000 in
theorem ty_ar {n : Nat} {ds : List D} (h : TyC Try.prog n 64 ds) : ∃ a : Ar, dOf Try.prog 64 ds = ar a ∧ True := by
  obtain ⟨m, h⟩ := ty_struct Try.underlying64 h
  obtain ⟨_, _, rfl, h1, _, _, rfl, h2, rfl⟩ := h
  obtain ⟨s, rfl, _⟩ := ty_int Try.underlying3 h1
  obtain ⟨t, rfl, _⟩ := ty_int Try.underlying3 h2
  rw [dOf_struct Try.underlying64]
  exact ⟨⟨s, t⟩, rfl, trivial⟩
set_option maxRecDepth 100000 in
theorem ty_ars {n : Nat} {ds : List D} (h : TyC Try.prog n 60 ds) : ∃ l, dOf Try.prog 60 ds = .sl 2 (ars l) ∧ l.length ≤ 9223372036854775807 := by
  obtain ⟨m, xs, rfl, h1, h2⟩ := ty_sl Try.underlying60 h
  obtain ⟨l, e1, e2, h3⟩ := ty_list (f := ar) (ok := fun _ => True) (fun x hx => ty_ar hx) xs h2
  rw [e1, dOf_sl Try.underlying60]
  exact ⟨l, rfl, by omega⟩
set_option maxRecDepth 100000 in
theorem ty_sta {n : Nat} {ds : List D} (h : TyC Try.prog n 62 ds) : ∃ s : Sta, dOf Try.prog 62 ds = sta s ∧ s.arcs.length ≤ 9223372036854775807 := by
  obtain ⟨m, h⟩ := ty_struct Try.underlying62 h
  obtain ⟨_, _, rfl, h1, _, _, rfl, h2, rfl⟩ := h
  obtain ⟨b, rfl⟩ := ty_bool Try.underlying4 h1
  obtain ⟨l, e1, o1⟩ := ty_ars h2
  obtain ⟨k, xs, rfl, _, _⟩ := ty_sl Try.underlying60 h2
  rw [dOf_sl Try.underlying60] at e1
  rw [dOf_struct Try.underlying62, e1]
  exact ⟨⟨b, l⟩, rfl, o1⟩
set_option maxRecDepth 100000 in
theorem ty_sts {n : Nat} {ds : List D} (h : TyC Try.prog n 40 ds) : ∃ l, dOf Try.prog 40 ds = .sl 2 (stas l) ∧ StaOk l := by
  obtain ⟨m, xs, rfl, h1, h2⟩ := ty_sl Try.underlying40 h
  obtain ⟨l, e1, e2, h3⟩ := ty_list (f := sta) (ok := fun s => s.arcs.length ≤ 9223372036854775807) (fun x hx => ty_sta hx) xs h2
  rw [e1, dOf_sl Try.underlying40]
  exact ⟨l, rfl, by omega, h3⟩
end Go.Eng.Try

/- Steps: the document's answers; what the laws ask first. (and what stands behind it: texts laid together) -/
import Derived.Test.YtlaekicahpplbabMG3
import Derived.Test.YtlaekicahpplbabMR11
import Derived.Test.YtlaekicahpplbabMR4
import Derived.Test.YtlaekicahpplbabMR8

/- Steps: the document's answers; what the laws ask first. -/
set_option linter.unusedVariables false
set_option linter.unusedSimpArgs false
namespace Go.Eng.Try
open Go Go.Eng Go.Proofs Go.RowKit
attribute [local go_sem] evFold rnE ksE roundE frz frzs List.set_cons_zero List.set_cons_succ List.zip_cons_cons List.zip_nil_right List.foldl_cons List.foldl_nil D.flat rns AV.rn HO.rn AV.ks kss HO.ks sg dedup objKs reach passE fresh List.filter fnOf evOp opnd lk v2d v2ds just evBin intBin nilBin isNil strBin evUn evLoad ldD ldA evStore evField evIndex evBuild fillA evBuildSlice evAppend evAppendClip elems evMake evSlice evSliceO evCut evView evCopy evAppendV evAgg evMakeMap evLookup evMapUpd evRange evEntry cellsD AV.kb splice List.getLast?_append resM resAs resA resD keepL List.replicate_zero List.take_length ofInt evLen evMin evMax evConv evNil evExtract evBuiltin toD toDs allD pack splice D.comps AV.comps AV.sto D.cell D.rebuild inOrder allFlat del put setE eff gd gslot kills Option.map_some Option.map_none Option.bind_some Option.isSome_some List.map_cons List.map_nil List.append_nil List.nil_append List.cons_append List.length_cons List.length_nil List.length_map List.length_append List.take_zero List.take_succ_cons List.take_nil List.drop_zero List.drop_succ_cons List.drop_nil List.getElem?_cons_zero List.getElem?_cons_succ List.getElem?_map List.all_cons List.all_nil List.mem_cons List.not_mem_nil List.elem_cons List.elem_nil Bool.and_true Bool.true_and Bool.and_self Bool.not_true Bool.not_false Bool.or_true Bool.or_false and_self and_true true_and or_false false_or or_true true_or not_false_eq_true not_true_eq_false if_true if_false decide_true decide_false decide_eq_true_eq Int.toNat_natCast Int.toNat_zero beq_self_eq_true bne_self_eq_false Bool.false_eq_true Nat.add_zero Nat.zero_add tys room le_i lt_i eq_n le_n lt_n len0 gdE bb_tf bb_ft mapP arrL if_min tdiv_nn tmod_nn us_len us_get wrap_i64 wrap_u64 dec_lt dec_nlt dec_le dec_nle beq_t beq_f bne_t bne_f get_lt gt_iff_lt ge_iff_le
attribute [local go_sem ↓] map_P reduceIte
attribute [local go_sem] reduceCtorEq Nat.reduceEqDiff Nat.reduceAdd Nat.reduceSub Nat.reduceMul Nat.reduceLeDiff Nat.reduceLT Nat.reduceBEq Nat.reduceBNe Int.reduceToNat Int.reduceLT Int.reduceLE Int.reduceEq Int.reduceAdd Int.reduceSub Int.reduceNeg Int.reduceBEq Int.reduceBNe
attribute [local go_sem] is_len is_get rs_len rs_get ses_len ses_get ses_snoc sss_len sss_get sss_snoc dels
set_option maxHeartbeats 4000000 in
set_option maxRecDepth 10000 in
theorem rAt {c : Co} {q : List Int} {i : Int} (hc : c.ok) (hr : c.rules.length ≤ 1000000) (hq : q.length ≤ 9223372036854775807) : Sound Try.prog 37 [co c, .sl 1 (is q), .int .i64 i] (.sl 4 (ses (stepsAt c q i))) := by
  have cw := rCheck hc hr
  cases hk : cok c
  · have e : stepsAt c q i = [] := if_neg (by simp [may, hk])
    rw [e]
    rw [hk] at cw
    refine Sound.wk (r := .nils) ?_ (Wks.refl _) (.nil 4)
    unfold co at cw ⊢
    refine Sound.run (N := 31) Try.func37 rfl (by kernel_rfl) rfl rfl rfl (by first | exact args0_0 | exact args0_1 | exact args0_2 | exact args0_3 | exact args0_4 | exact args0_5 | exact args0_6) fun X_ w_ => ?_
    have c0_ := cw; refine goT ?_; first | exact trivial | skip
  rw [hk] at cw
  by_cases h0 : 20 < q.length
  · have e : stepsAt c q i = [] := if_neg (by simp [may]; omega)
    rw [e]
    refine Sound.wk (r := .nils) ?_ (Wks.refl _) (.nil 4)
    unfold co at cw ⊢
    refine Sound.run (N := 31) Try.func37 rfl (by kernel_rfl) rfl rfl rfl (by first | exact args0_0 | exact args0_1 | exact args0_2 | exact args0_3 | exact args0_4 | exact args0_5 | exact args0_6) fun X_ w_ => ?_
    have c0_ := cw; refine goT ?_; first | exact trivial | skip
  by_cases h1 : i < 0
  · have e : stepsAt c q i = [] := if_neg (by omega)
    rw [e]
    refine Sound.wk (r := .nils) ?_ (Wks.refl _) (.nil 4)
    unfold co at cw ⊢
    refine Sound.run (N := 31) Try.func37 rfl (by kernel_rfl) rfl rfl rfl (by first | exact args0_0 | exact args0_1 | exact args0_2 | exact args0_3 | exact args0_4 | exact args0_5 | exact args0_6) fun X_ w_ => ?_
    have c0_ := cw; refine goT ?_; first | exact trivial | skip
  by_cases h2 : (q.length : Int) < i
  · have e : stepsAt c q i = [] := if_neg (by omega)
    rw [e]
    refine Sound.wk (r := .nils) ?_ (Wks.refl _) (.nil 4)
    unfold co at cw ⊢
    refine Sound.run (N := 31) Try.func37 rfl (by kernel_rfl) rfl rfl rfl (by first | exact args0_0 | exact args0_1 | exact args0_2 | exact args0_3 | exact args0_4 | exact args0_5 | exact args0_6) fun X_ w_ => ?_
    have c0_ := cw; refine goT ?_; first | exact trivial | skip
  obtain ⟨n, rfl⟩ := Int.eq_ofNat_of_zero_le (by omega : 0 ≤ i)
  have hm : may c q = true := may_iff.2 ⟨by omega, hk⟩
  obtain ⟨k1, k2⟩ := cok_rules hk
  have e : stepsAt c q n = stAt c (q.drop n) := by unfold stepsAt; rw [if_pos ⟨hm, by omega, by omega⟩]; simp
  rw [e]
  have co' := rAt1 (q := q) (i := n) hc (by omega) (by omega) (by omega) (fun r hr => Nat.le_trans (k2 r hr).1 (by decide))
  unfold co at cw co' ⊢
  refine Sound.run (N := 31) Try.func37 rfl (by kernel_rfl) rfl rfl rfl (by first | exact args0_0 | exact args0_1 | exact args0_2 | exact args0_3 | exact args0_4 | exact args0_5 | exact args0_6) fun X_ w_ => ?_
  have c0_ := cw; have c1_ := co'; refine goT ?_; first | exact trivial | skip
set_option maxHeartbeats 4000000 in
set_option maxRecDepth 10000 in
theorem rAll {c : Co} {q : List Int} (hc : c.ok) (hr : c.rules.length ≤ 1000000) (hq : q.length ≤ 9223372036854775807) : Sound Try.prog 34 [co c, .sl 1 (is q)] (.sl 1 (sss (stepsAll c q))) := by
  have cw := rCheck hc hr
  cases hk : cok c
  · have e : stepsAll c q = [] := if_neg (by simp [may, hk])
    rw [e]
    rw [hk] at cw
    refine Sound.wk (r := .nils) ?_ (Wks.refl _) (.nil 1)
    unfold co at cw ⊢
    refine Sound.run (N := 31) Try.func34 rfl (by kernel_rfl) rfl rfl rfl (by first | exact args0_0 | exact args0_1 | exact args0_2 | exact args0_3 | exact args0_4 | exact args0_5 | exact args0_6) fun X_ w_ => ?_
    have c0_ := cw; refine goT ?_; first | exact trivial | skip
  rw [hk] at cw
  by_cases h0 : 20 < q.length
  · have e : stepsAll c q = [] := if_neg (by simp [may]; omega)
    rw [e]
    refine Sound.wk (r := .nils) ?_ (Wks.refl _) (.nil 1)
    unfold co at cw ⊢
    refine Sound.run (N := 31) Try.func34 rfl (by kernel_rfl) rfl rfl rfl (by first | exact args0_0 | exact args0_1 | exact args0_2 | exact args0_3 | exact args0_4 | exact args0_5 | exact args0_6) fun X_ w_ => ?_
    have c0_ := cw; refine goT ?_; first | exact trivial | skip
  have hm : may c q = true := may_iff.2 ⟨by omega, hk⟩
  obtain ⟨k1, k2⟩ := cok_rules hk
  have e : stepsAll c q = allF c q (q.length + 1) := if_pos hm
  rw [e]
  have co' := fun (n : Nat) (hn : n ≤ q.length) => rAt1 (q := q) (i := n) hc (by omega) hn (by omega) (fun r hr => Nat.le_trans (k2 r hr).1 (by decide))
  unfold co at cw co' ⊢
  refine Sound.run (N := 31) Try.func34 rfl (by kernel_rfl) rfl rfl rfl (by first | exact args0_0 | exact args0_1 | exact args0_2 | exact args0_3 | exact args0_4 | exact args0_5 | exact args0_6) fun X_ w_ => ?_
  have c0_ := cw; repeat ((fail_if_success (with_reducible show WP _ _ (.region 5 _ _) _ _)); first | with_reducible exact Ev.nil | with_reducible exact gd_n | ((with_reducible apply lk_ok); rfl) | ((with_reducible apply gslot_ok); rfl) | ((with_reducible apply v2d_ok); rfl) | with_reducible apply then_n | with_reducible apply WP_seq | with_reducible apply WP_skip | ((with_reducible apply WP_r (N := 31) rfl rfl); (focus simp only [Nat.reduceAdd] <;> rfl)) | ((with_reducible apply WP_d (N := 31) mixed rfl rfl); (focus simp only [Nat.reduceAdd] <;> rfl)) | ((with_reducible apply Ev_s); (focus first | (apply gd_u; (focus rfl); rfl) | (apply gd_f; (focus rfl); (focus rfl); rfl))) | ((with_reducible apply Ev_sn); (focus first | (apply gd_u; (focus rfl); rfl) | (apply gd_f; (focus rfl); (focus rfl); rfl))) | with_reducible apply gd_t | with_reducible apply Ev_mv | with_reducible apply Ev_as | with_reducible apply Ev_mc | with_reducible apply Ev_ac | ((first | (with_reducible apply Ev_pt) | (with_reducible apply Ev_ptc)); (focus rfl)) | ((first | (with_reducible apply Ev_pf) | (with_reducible apply Ev_pfc)); (focus rfl)) | (apply Ev_cf; (focus simp (disch := omega) only [go_sem] <;> rfl); (focus first | exact c0_); (focus rfl); (focus first | (simp (disch := omega) only [go_sem] <;> rfl) | rfl)) | ((with_reducible apply Ev_d); (focus simp only [Nat.reduceAdd] <;> rfl); (focus simp (disch := omega) only [go_sem] <;> rfl)) | (apply Ev_cv; (focus rfl); (focus simp (disch := omega) only [go_sem] <;> rfl); (focus first | exact c0_); (iterate 3 (focus first | (simp (disch := omega) only [go_sem] <;> rfl) | rfl))) | ((first | apply Ev_cmd | apply Ev_cmn); (focus simp only [Nat.reduceAdd] <;> rfl); (focus rfl); (iterate 2 (focus simp (disch := omega) only [go_sem] <;> rfl)); (first | ((focus first | exact c0_); (iterate 2 (focus first | (simp (disch := omega) only [go_sem] <;> rfl) | rfl)); (focus rfl); (iterate 3 (focus first | (simp (disch := omega) only [go_sem] <;> rfl) | rfl))))) | ((first | (with_reducible apply Ev_od) | (with_reducible apply Ev_on)); (focus simp only [Nat.reduceAdd] <;> rfl); (focus simp (disch := omega) only [go_sem] <;> rfl); (focus first | (simp (disch := omega) only [go_sem] <;> rfl) | rfl)) | with_reducible apply endM_n | with_reducible apply endM_r | with_reducible apply then_r | with_reducible apply then_x | with_reducible apply block_n | with_reducible apply block_r | with_reducible apply block_x | with_reducible apply block_y rfl | with_reducible apply scope_n | with_reducible apply scope_r | with_reducible apply scope_x | with_reducible apply end_n | with_reducible apply end_r | with_reducible apply WP_block | with_reducible apply WP_exit | with_reducible apply WP_ret | with_reducible apply WP_label | with_reducible apply WP_scope | ((with_reducible apply WP_t); (focus first | (simp (disch := omega) only [go_sem] <;> rfl) | rfl)) | ((with_reducible apply WP_f); (focus first | (simp (disch := omega) only [go_sem] <;> rfl) | rfl)) | ((with_reducible apply resD_t); (focus rfl)) | ((with_reducible apply resD_2); (focus rfl); (focus rfl)) | (with_reducible rfl) | ((with_reducible show List.map outKeys _ = _); simp only [List.map_cons, List.map_nil, outKeys, keys]; rfl) | ((with_reducible show orderOk _ _ = true); kernel_rfl) | ((with_reducible show _ = _); simp (disch := omega) only [go_sem] <;> rfl) | ((fail_if_success (with_reducible show Ev _ _ _ _ (_ :: _) _ _ _ _ _)); (show Ev _ _ _ _ (_ :: _) _ _ _ _ _)) | fail)
  refine WP_own 6 20000 51 1 rfl (by decide) (Nat.le_of_ble_eq_true rfl) ?_
  refine goT ?_; first | exact trivial | skip
  refine WP_loopk (fun k : Nat => k ≤ q.length + 1) (fun k => [(1, .d (.sl 1 (is q))), (2, .ref 0 0), (6, .own 20000 (allF c q k).length), (7, .d (.int .i64 k))]) (fun k => [(0, .var [.d (.int .u64 c.more), .d (.int .u64 c.less), .d (.int .u64 c.other), .d (.int .u64 c.turned), .d (.sl 3 (rs c.rules))]), (20000, .row 51 1 (sss (allF c q k)))]) 20001 (fun k => q.length + 1 - k) [1, 2, 6, 7] [0, 20000] 0 (Nat.zero_le _) rfl rfl (Nat.zero_le _) (fun _ _ => rfl) (fun _ _ => rfl) fun k hk => ?_
  have al := allF_len c q k
  by_cases hk' : k < q.length + 1
  · have ck := co' k (by omega)
    have hst := allF_step c q k
    have c0_ := ck; refine goX @al ?_; first | exact trivial | skip
    refine ⟨k + 1, by omega, ?_, ?_, by omega⟩
    · simp (disch := omega) only [go_sem, keepL, Int.natCast_add, Int.cast_ofNat_Int, hst, al, List.length_append, List.length_cons, List.length_nil]
    · simp (disch := omega) only [go_sem, keepL, hst]
  · have hkl : k = q.length + 1 := by omega
    subst hkl
    refine goX @al ?_; first | exact trivial | skip
/-- Lists of steps that hold together. -/
def SesOk (l : List Se) : Prop := ∀ s ∈ l, s.put.length ≤ 9223372036854775807
theorem SesOk.get {l : List Se} (h : SesOk l) {k : Nat} (hk : k < l.length) : (l[k]!).put.length ≤ 9223372036854775807 := by
  rw [getElem!_pos l k hk]; exact h _ (List.getElem_mem hk)
theorem stake {a b : List Se} {k : Nat} (hw : a.take k = b.take k) (h1 : k < a.length) (h2 : k < b.length) (h : a[k]! = b[k]!) : a.take (k + 1) = b.take (k + 1) := by
  rw [List.take_add_one, List.take_add_one, hw, List.getElem?_eq_getElem h1, List.getElem?_eq_getElem h2, ← getElem!_pos a k h1, ← getElem!_pos b k h2, h]
set_option maxHeartbeats 4000000 in
set_option maxRecDepth 10000 in
theorem rSameS {a b : List Se} (ha : SesOk a) (hb : SesOk b) (hla : a.length ≤ 9223372036854775807) (hlb : b.length ≤ 9223372036854775807) : Sound Try.prog 35 [.sl 4 (ses a), .sl 4 (ses b)] (.bool (decide (a = b))) := by
  by_cases hl : a.length = b.length
  · refine Sound.run (N := 68) Try.func35 rfl (by kernel_rfl) rfl rfl rfl (by first | exact args0_0 | exact args0_1 | exact args0_2 | exact args0_3 | exact args0_4 | exact args0_5 | exact args0_6) fun X_ w_ => ?_
    refine goT ?_; first | exact trivial | skip
    refine WP_loopk (fun k : Nat => k ≤ a.length ∧ a.take k = b.take k) (fun k => [(0, .d (.sl 4 (ses a))), (1, .d (.sl 4 (ses b))), (5, .d (.int .i64 k))]) (fun _ => []) 0 (fun k => a.length - k) [0, 1, 5] [] 0 ⟨Nat.zero_le _, rfl⟩ rfl rfl (Nat.le_refl _) (fun _ _ => rfl) (fun _ _ => rfl) fun k hk => ?_
    obtain ⟨hk1, hw⟩ := hk
    by_cases hk' : k < a.length
    · have hk2 : k < b.length := by omega
      have bad : a[k]! ≠ b[k]! → decide (a = b) = false := fun h => decide_eq_false fun e => h (by rw [e])
      have cs := refSame (ha.get hk') (hb.get hk2)
      by_cases h1 : (a[k]!).eat = (b[k]!).eat
      · by_cases h2 : (a[k]!).any = (b[k]!).any
        · by_cases h3 : (a[k]!).cost = (b[k]!).cost
          · by_cases h4 : (a[k]!).put = (b[k]!).put
            · have hc : a[k]! = b[k]! := by
                generalize a[k]! = x at h1 h2 h3 h4
                generalize b[k]! = y at h1 h2 h3 h4
                cases x; cases y; simp only at h1 h2 h3 h4; rw [h1, h2, h3, h4]
              have e := stake hw hk' hk2 hc
              rw [decide_eq_true h4] at cs
              have c0_ := cs; refine goX (And.intro @h1 (And.intro @h2 @h3)) ?_; first | exact trivial | skip
              refine ⟨k + 1, ⟨by omega, e⟩, ?_, rfl, by omega⟩
              simp (disch := omega) only [go_sem, keepL, Int.natCast_add, Int.cast_ofNat_Int]
            · have e := bad (fun h => h4 (by rw [h]))
              rw [decide_eq_false h4] at cs
              have c0_ := cs; refine goX (And.intro @e (And.intro @h1 (And.intro @h2 @h3))) ?_; first | exact trivial | skip
          · have e := bad (fun h => h3 (by rw [h]))
            refine goX (And.intro @e (And.intro @h1 (And.intro @h2 @h3))) ?_; first | exact trivial | skip
        · have e := bad (fun h => h2 (by rw [h]))
          have h2' : ((a[k]!).any == (b[k]!).any) = false := beq_eq_false_iff_ne.2 h2
          refine goX (And.intro @e (And.intro @h1 @h2')) ?_; first | exact trivial | skip
      · have e := bad (fun h => h1 (by rw [h]))
        refine goX (And.intro @e @h1) ?_; first | exact trivial | skip
    · have hk' : k = a.length := by omega
      subst hk'
      have e : decide (a = b) = true := decide_eq_true (by rw [List.take_length, hl, List.take_length] at hw; exact hw)
      refine goX @e ?_; first | exact trivial | skip
  · have e : decide (a = b) = false := decide_eq_false fun h => hl (by rw [h])
    refine Sound.run (N := 68) Try.func35 rfl (by kernel_rfl) rfl rfl rfl (by first | exact args0_0 | exact args0_1 | exact args0_2 | exact args0_3 | exact args0_4 | exact args0_5 | exact args0_6) fun X_ w_ => ?_
    refine goX @e ?_; first | exact trivial | skip
def fewS (c : Co) (q : List Int) : Bool := fewR c.rules 300 && decide ((q.length : Int) ≤ 100)
theorem fewS_iff {c : Co} {q : List Int} : fewS c q = true ↔ fewR c.rules 300 = true ∧ q.length ≤ 100 := by simp only [fewS, Bool.and_eq_true, decide_eq_true_eq]; constructor <;> rintro ⟨h1, h2⟩ <;> exact ⟨h1, by omega⟩
set_option maxHeartbeats 4000000 in
set_option maxRecDepth 10000 in
theorem pFewS {c : Co} {q : List Int} (hc : c.ok) (hq : q.length ≤ 9223372036854775807) : Sound Try.prog 32 [co c, .sl 1 (is q)] (.bool (fewS c q)) := by
  have cf := rFewR (n := 300) hc.2.2.2.2.1 hc.2.2.2.2.2
  have e : fewS c q = (fewR c.rules 300 && decide ((q.length : Int) ≤ 100)) := rfl
  unfold co
  cases hf : fewR c.rules 300 <;> rw [hf] at cf e <;> simp only [Bool.true_and, Bool.false_and] at e
  · refine Sound.run (N := 13) Try.func32 rfl (by kernel_rfl) rfl rfl rfl (by first | exact args0_0 | exact args0_1 | exact args0_2 | exact args0_3 | exact args0_4 | exact args0_5 | exact args0_6) fun X_ w_ => ?_
    have c0_ := cf; refine goX @e ?_; first | exact trivial | skip
  · refine Sound.run (N := 13) Try.func32 rfl (by kernel_rfl) rfl rfl rfl (by first | exact args0_0 | exact args0_1 | exact args0_2 | exact args0_3 | exact args0_4 | exact args0_5 | exact args0_6) fun X_ w_ => ?_
    have c0_ := cf; refine goX @e ?_; first | exact trivial | skip
end Go.Eng.Try

/- Steps' laws: awake. -/
set_option linter.unusedVariables false
set_option linter.unusedSimpArgs false
namespace Go.Eng.Try
open Go Go.Eng Go.Proofs Go.RowKit
attribute [local go_sem] evFold rnE ksE roundE frz frzs List.set_cons_zero List.set_cons_succ List.zip_cons_cons List.zip_nil_right List.foldl_cons List.foldl_nil D.flat rns AV.rn HO.rn AV.ks kss HO.ks sg dedup objKs reach passE fresh List.filter fnOf evOp opnd lk v2d v2ds just evBin intBin nilBin isNil strBin evUn evLoad ldD ldA evStore evField evIndex evBuild fillA evBuildSlice evAppend evAppendClip elems evMake evSlice evSliceO evCut evView evCopy evAppendV evAgg evMakeMap evLookup evMapUpd evRange evEntry cellsD AV.kb splice List.getLast?_append resM resAs resA resD keepL List.replicate_zero List.take_length ofInt evLen evMin evMax evConv evNil evExtract evBuiltin toD toDs allD pack splice D.comps AV.comps AV.sto D.cell D.rebuild inOrder allFlat del put setE eff gd gslot kills Option.map_some Option.map_none Option.bind_some Option.isSome_some List.map_cons List.map_nil List.append_nil List.nil_append List.cons_append List.length_cons List.length_nil List.length_map List.length_append List.take_zero List.take_succ_cons List.take_nil List.drop_zero List.drop_succ_cons List.drop_nil List.getElem?_cons_zero List.getElem?_cons_succ List.getElem?_map List.all_cons List.all_nil List.mem_cons List.not_mem_nil List.elem_cons List.elem_nil Bool.and_true Bool.true_and Bool.and_self Bool.not_true Bool.not_false Bool.or_true Bool.or_false and_self and_true true_and or_false false_or or_true true_or not_false_eq_true not_true_eq_false if_true if_false decide_true decide_false decide_eq_true_eq Int.toNat_natCast Int.toNat_zero beq_self_eq_true bne_self_eq_false Bool.false_eq_true Nat.add_zero Nat.zero_add tys room le_i lt_i eq_n le_n lt_n len0 gdE bb_tf bb_ft mapP arrL if_min tdiv_nn tmod_nn us_len us_get wrap_i64 wrap_u64 dec_lt dec_nlt dec_le dec_nle beq_t beq_f bne_t bne_f get_lt gt_iff_lt ge_iff_le
attribute [local go_sem ↓] map_P reduceIte
attribute [local go_sem] reduceCtorEq Nat.reduceEqDiff Nat.reduceAdd Nat.reduceSub Nat.reduceMul Nat.reduceLeDiff Nat.reduceLT Nat.reduceBEq Nat.reduceBNe Int.reduceToNat Int.reduceLT Int.reduceLE Int.reduceEq Int.reduceAdd Int.reduceSub Int.reduceNeg Int.reduceBEq Int.reduceBNe
attribute [local go_sem] dels
def cA : Co := ⟨1, 2, 3, 4, [⟨[97, 98], [99], 5⟩]⟩
def cI : Co := ⟨18446744073709551615, 0, 0, 0, []⟩
theorem at_A : stepsAt cA [97, 98] 0 = [⟨1, [97], false, 0⟩, ⟨1, [], true, 3⟩, ⟨1, [], false, 2⟩, ⟨2, [98, 97], false, 4⟩, ⟨0, [], true, 1⟩, ⟨2, [99], false, 5⟩] := by decide +kernel
theorem all_A : stepsAll cA [97, 98] = [[⟨1, [97], false, 0⟩, ⟨1, [], true, 3⟩, ⟨1, [], false, 2⟩, ⟨2, [98, 97], false, 4⟩, ⟨0, [], true, 1⟩, ⟨2, [99], false, 5⟩], [⟨1, [98], false, 0⟩, ⟨1, [], true, 3⟩, ⟨1, [], false, 2⟩, ⟨0, [], true, 1⟩], [⟨0, [], true, 1⟩]] := by decide +kernel
theorem at_0 : stepsAt cA [] 1 = [] := by decide +kernel
theorem all_I : stepsAll cI [] = [] := by decide +kernel
theorem ok_A : cA.ok := by unfold Co.ok cA U Ru.ok; decide
theorem ok_I : cI.ok := by unfold Co.ok cI U Ru.ok; decide
set_option maxHeartbeats 4000000 in
set_option maxRecDepth 10000 in
theorem stepsAwake : Sound Try.prog 31 [] (.bool true) := by
  have d1 := pAt (c := cA) (q := [97, 98]) (i := 0) ok_A (by decide)
  rw [at_A] at d1
  have d2 := pAll (c := cA) (q := [97, 98]) ok_A (by decide)
  rw [all_A] at d2
  have d3 := pAt (c := cA) (q := []) (i := 1) ok_A (by decide)
  rw [at_0] at d3
  have d4 := pAll (c := cI) (q := []) ok_I (by decide)
  rw [all_I] at d4
  have d3 := d3.wk (as' := [co cA, .nils, .int .i64 1]) (.cons (.refl _) (.cons (.nil 1) (.cons (.refl _) .nil))) (.refl _)
  have d4 := d4.wk (as' := [.agg [.int .u64 18446744073709551615, .int .u64 0, .int .u64 0, .int .u64 0, .nils], .nils]) (.cons (.agg (.cons (.refl _) (.cons (.refl _) (.cons (.refl _) (.cons (.refl _) (.cons (.nil 3) .nil)))))) (.cons (.nil 1) .nil)) (.refl _)
  have d5 := refSame (a := [98, 97]) (b := [98, 97]) (by decide) (by decide)
  simp only [co, cA, rs, ru, is, ses, se, sss, List.map_cons, List.map_nil] at d1 d2 d3 d4 d5
  refine Sound.run (N := 102) Try.func31 rfl (by kernel_rfl) rfl rfl rfl (by first | exact args0_0 | exact args0_1 | exact args0_2 | exact args0_3 | exact args0_4 | exact args0_5 | exact args0_6) fun X_ w_ => ?_
  repeat ((fail_if_success (with_reducible show WP _ _ (.region 2 _ _) _ _)); first | with_reducible exact Ev.nil | with_reducible exact gd_n | ((with_reducible apply lk_ok); rfl) | ((with_reducible apply gslot_ok); rfl) | ((with_reducible apply v2d_ok); rfl) | with_reducible apply then_n | with_reducible apply WP_seq | with_reducible apply WP_skip | ((with_reducible apply WP_r (N := 102) rfl rfl); (focus simp only [Nat.reduceAdd] <;> rfl)) | ((with_reducible apply WP_d (N := 102) mixed rfl rfl); (focus simp only [Nat.reduceAdd] <;> rfl)) | ((with_reducible apply Ev_s); (focus first | (apply gd_u; (focus rfl); rfl) | (apply gd_f; (focus rfl); (focus rfl); rfl))) | ((with_reducible apply Ev_sn); (focus first | (apply gd_u; (focus rfl); rfl) | (apply gd_f; (focus rfl); (focus rfl); rfl))) | with_reducible apply gd_t | with_reducible apply Ev_mv | with_reducible apply Ev_as | with_reducible apply Ev_mc | with_reducible apply Ev_ac | ((first | (with_reducible apply Ev_pt) | (with_reducible apply Ev_ptc)); (focus rfl)) | ((first | (with_reducible apply Ev_pf) | (with_reducible apply Ev_pfc)); (focus rfl)) | ((with_reducible apply Ev_d); (focus simp only [Nat.reduceAdd] <;> rfl); (focus simp (disch := omega) only [go_sem] <;> rfl)) | ((first | (with_reducible apply Ev_od) | (with_reducible apply Ev_on)); (focus simp only [Nat.reduceAdd] <;> rfl); (focus simp (disch := omega) only [go_sem] <;> rfl); (focus first | (simp (disch := omega) only [go_sem] <;> rfl) | rfl)) | with_reducible apply endM_n | with_reducible apply endM_r | with_reducible apply then_r | with_reducible apply then_x | with_reducible apply block_n | with_reducible apply block_r | with_reducible apply block_x | with_reducible apply block_y rfl | with_reducible apply scope_n | with_reducible apply scope_r | with_reducible apply scope_x | with_reducible apply end_n | with_reducible apply end_r | with_reducible apply WP_block | with_reducible apply WP_exit | with_reducible apply WP_ret | with_reducible apply WP_label | with_reducible apply WP_scope | ((with_reducible apply WP_t); (focus first | (simp (disch := omega) only [go_sem] <;> rfl) | rfl)) | ((with_reducible apply WP_f); (focus first | (simp (disch := omega) only [go_sem] <;> rfl) | rfl)) | ((with_reducible apply resD_t); (focus rfl)) | ((with_reducible apply resD_2); (focus rfl); (focus rfl)) | (with_reducible rfl) | ((with_reducible show List.map outKeys _ = _); simp only [List.map_cons, List.map_nil, outKeys, keys]; rfl) | ((with_reducible show orderOk _ _ = true); kernel_rfl) | ((with_reducible show _ = _); simp (disch := omega) only [go_sem] <;> rfl) | ((fail_if_success (with_reducible show Ev _ _ _ _ (_ :: _) _ _ _ _ _)); (show Ev _ _ _ _ (_ :: _) _ _ _ _ _)) | fail)
  refine WP_fix 1005 rfl rfl rfl rfl (by simp (disch := omega) only [go_sem]; rfl) ?_
  have c0_ := d1; have c1_ := d2; have c2_ := d3; have c3_ := d4; have c4_ := d5; refine goT ?_; first | exact trivial | skip
end Go.Eng.Try

/- Steps, in plain words: how many, how long; what each takes, puts and costs. -/
set_option linter.unusedVariables false
set_option linter.unusedSimpArgs false
namespace Go.Eng.Try
open Go Go.Eng Go.Proofs Go.RowKit
theorem few_len {l : List Ru} {n : Int} (h : fewR l n = true) : (l.length : Int) ≤ n := by
  simp only [fewR, Bool.and_eq_true, decide_eq_true_eq] at h
  exact h.2
theorem st4_some {rest : List Int} {r : Ru} {s : Se} (h : st4 rest r = some s) : rest.take r.left.length = r.left ∧ s = ⟨r.left.length, r.right, false, r.cost⟩ := by
  unfold st4 at h
  split at h
  · rename_i hm; cases h; exact ⟨hm, rfl⟩
  · cases h
theorem stAt_mem {c : Co} {rest : List Int} {s : Se} (h : s ∈ stAt c rest) : (∃ x t, rest = x :: t ∧ (s = ⟨1, [x], false, 0⟩ ∨ s = ⟨1, [], true, c.other⟩ ∨ s = ⟨1, [], false, c.less⟩)) ∨ (∃ x y t, rest = x :: y :: t ∧ s = ⟨2, [y, x], false, c.turned⟩) ∨ s = ⟨0, [], true, c.more⟩ ∨ ∃ r ∈ c.rules, rest.take r.left.length = r.left ∧ s = ⟨r.left.length, r.right, false, r.cost⟩ := by
  unfold stAt st3 at h
  simp only [List.mem_append, List.mem_filterMap, List.mem_singleton] at h
  rcases h with ((h | h) | h) | ⟨r, hr, h⟩
  · cases rest with
    | nil => simp [st1] at h
    | cons x t =>
      simp only [st1, List.mem_cons, List.not_mem_nil, or_false] at h
      exact .inl ⟨x, t, rfl, h⟩
  · match rest, h with
    | [], h => simp [st2] at h
    | [x], h => simp [st2] at h
    | x :: y :: t, h =>
      simp only [st2] at h
      split at h
      · simp only [List.mem_singleton] at h; exact .inr (.inl ⟨x, y, t, rfl, h⟩)
      · cases h
  · exact .inr (.inr (.inl h))
  · obtain ⟨h1, h2⟩ := st4_some h
    exact .inr (.inr (.inr ⟨r, hr, h1, h2⟩))
theorem stAt_ses {c : Co} {rest : List Int} (hk : cok c = true) : SesOk (stAt c rest) := fun s hs => by
  obtain ⟨k1, k2⟩ := cok_rules hk
  rcases stAt_mem hs with ⟨x, t, rfl, rfl | rfl | rfl⟩ | ⟨x, y, t, rfl, rfl⟩ | rfl | ⟨r, hr, _, rfl⟩
  · simp
  · simp
  · simp
  · simp
  · simp
  · exact Nat.le_trans (k2 r hr).2 (by decide)
theorem stAt_len (c : Co) (rest : List Int) : (stAt c rest).length ≤ 5 + c.rules.length := by
  unfold stAt
  rw [List.length_append]
  exact Nat.add_le_add (st3_len _ _) (st4_len _ _)
theorem stepsAt_ses {c : Co} {q : List Int} {i : Int} : SesOk (stepsAt c q i) := by
  unfold stepsAt
  split
  · rename_i h; exact stAt_ses (may_iff.1 h.1).2
  · intro s hs; cases hs
theorem stepsAt_len (c : Co) (q : List Int) (i : Int) : (stepsAt c q i).length ≤ 5 + c.rules.length := by
  unfold stepsAt
  split
  · exact stAt_len _ _
  · simp
theorem stepsAll_get {c : Co} {q : List Int} {k : Nat} (hk : k < (stepsAll c q).length) : SesOk ((stepsAll c q)[k]!) ∧ ((stepsAll c q)[k]!).length ≤ 5 + c.rules.length := by
  rw [getElem!_pos _ k hk]
  have hm := List.getElem_mem hk
  generalize (stepsAll c q)[k] = x at hm
  unfold stepsAll at hm
  split at hm
  · rename_i h
    unfold allF at hm
    obtain ⟨j, _, rfl⟩ := List.mem_map.1 hm
    exact ⟨stAt_ses (may_iff.1 h).2, stAt_len _ _⟩
  · cases hm
theorem stepsAll_len (c : Co) (q : List Int) : (stepsAll c q).length ≤ 21 := by
  unfold stepsAll
  split
  · rename_i h; rw [allF_len]; have := (may_iff.1 h).1; omega
  · simp
theorem umax_le {l : List Int} {b : Int} (h : umax l < b) : ∀ z ∈ l, z < b := by
  have gen : ∀ (l : List Int) (a : Int), l.foldl max a < b → a < b ∧ ∀ z ∈ l, z < b := by
    intro l
    induction l with
    | nil => intro a h; exact ⟨h, fun z hz => by cases hz⟩
    | cons x l ih =>
      intro a h
      obtain ⟨h1, h2⟩ := ih _ h
      refine ⟨by omega, fun z hz => ?_⟩
      rcases List.mem_cons.1 hz with rfl | hz
      · omega
      · exact h2 z hz
  exact (gen l 0 h).2
theorem cok_costs {c : Co} (h : cok c = true) : c.more < 18446744073709551615 ∧ c.less < 18446744073709551615 ∧ c.other < 18446744073709551615 ∧ c.turned < 18446744073709551615 := by
  have := umax_le (cok_iff.1 h).1
  exact ⟨this _ (by simp), this _ (by simp), this _ (by simp), this _ (by simp)⟩
theorem cok_rule {c : Co} (h : cok c = true) {r : Ru} (hr : r ∈ c.rules) : r.left ≠ r.right ∧ r.cost < 18446744073709551615 := by
  have := List.all_eq_true.1 (cok_iff.1 h).2.2.1 r hr
  simp only [fit, Bool.and_eq_true] at this
  obtain ⟨_, _, h3, h4⟩ := rok_iff.1 this.1.1
  exact ⟨h3, h4⟩
/-- What holds of each step. -/
theorem step_ok {c : Co} {q : List Int} {i : Int} {s : Se} (hs : s ∈ stepsAt c q i) : 0 ≤ s.eat ∧ s.eat ≤ (q.length : Int) - i ∧ (s.eat = 0 → s.put ≠ [] ∨ s.any = true) ∧ (s.any = true → s.put = []) ∧ s.cost ≠ 18446744073709551615 := by
  unfold stepsAt at hs
  split at hs
  · rename_i h
    obtain ⟨hm, h0, h1⟩ := h
    obtain ⟨_, hk⟩ := may_iff.1 hm
    obtain ⟨c1, c2, c3, c4⟩ := cok_costs hk
    have hd : (q.drop i.toNat).length = q.length - i.toNat := by simp
    rcases stAt_mem hs with ⟨x, t, e, rfl | rfl | rfl⟩ | ⟨x, y, t, e, rfl⟩ | rfl | ⟨r, hr, hm, rfl⟩
    · rw [e] at hd; simp only [List.length_cons] at hd; refine ⟨?_, ?_, ?_, ?_, ?_⟩ <;> simp <;> omega
    · rw [e] at hd; simp only [List.length_cons] at hd; refine ⟨?_, ?_, ?_, ?_, ?_⟩ <;> simp <;> omega
    · rw [e] at hd; simp only [List.length_cons] at hd; refine ⟨?_, ?_, ?_, ?_, ?_⟩ <;> simp <;> omega
    · rw [e] at hd; simp only [List.length_cons] at hd; refine ⟨?_, ?_, ?_, ?_, ?_⟩ <;> simp <;> omega
    · refine ⟨?_, ?_, ?_, ?_, ?_⟩ <;> simp <;> omega
    · obtain ⟨r1, r2⟩ := cok_rule hk hr
      have hl := congrArg List.length hm
      simp only [List.length_take, List.length_drop] at hl
      refine ⟨by show (0 : Int) ≤ (r.left.length : Int); omega, by show (r.left.length : Int) ≤ _; omega, fun h0 => .inl (fun h => r1 ?_), fun h => (by cases h), by show r.cost ≠ _; omega⟩
      have h0 : (r.left.length : Int) = 0 := h0
      have : r.left = [] := List.eq_nil_of_length_eq_zero (by omega)
      rw [this]; exact h.symm
  · cases hs
theorem stAt_pos (c : Co) (rest : List Int) : 0 < (stAt c rest).length := by
  unfold stAt st3
  simp only [List.length_append, List.length_cons, List.length_nil]
  omega
end Go.Eng.Try

/- Rules that a call hands in. -/
set_option linter.unusedVariables false
set_option linter.unusedSimpArgs false
namespace Go.Eng.Try
open Go Go.Eng Go.Proofs Go.RowKit
set_option maxRecDepth 100000 in
theorem ty_is {n : Nat} {ds : List D} (h : TyC Try.prog n 24 ds) : ∃ l, dOf Try.prog 24 ds = .sl 1 (is l) ∧ l.length ≤ 9223372036854775807 := by
  obtain ⟨m, xs, rfl, h1, h2⟩ := ty_sl Try.underlying24 h
  obtain ⟨l, e1, e2, _⟩ := ty_list (f := fun z => D.int .i64 z) (ok := fun _ => True) (fun x hx => by
    obtain ⟨z, rfl, _⟩ := ty_int Try.underlying3 hx
    exact ⟨z, dOf_int Try.underlying3, trivial⟩) xs h2
  rw [e1, dOf_sl Try.underlying24]
  exact ⟨l, rfl, by omega⟩
set_option maxRecDepth 100000 in
theorem ty_ru {n : Nat} {ds : List D} (h : TyC Try.prog n 36 ds) : ∃ r : Ru, dOf Try.prog 36 ds = ru r ∧ r.ok := by
  obtain ⟨m, h⟩ := ty_struct Try.underlying36 h
  obtain ⟨_, _, rfl, h1, _, _, rfl, h2, _, _, rfl, h3, rfl⟩ := h
  obtain ⟨c, rfl, hc⟩ := ty_int Try.underlying23 h3
  obtain ⟨l, e1, o1⟩ := ty_is h1
  obtain ⟨k, xs, rfl, _, _⟩ := ty_sl Try.underlying24 h1
  rw [dOf_sl Try.underlying24] at e1
  obtain ⟨l', e2, o2⟩ := ty_is h2
  obtain ⟨k', xs', rfl, _, _⟩ := ty_sl Try.underlying24 h2
  rw [dOf_sl Try.underlying24] at e2
  rw [dOf_struct Try.underlying36, e1, e2]
  exact ⟨⟨l, l', c⟩, rfl, o1, o2, wf_u64 hc⟩
set_option maxRecDepth 100000 in
theorem ty_rs {n : Nat} {ds : List D} (h : TyC Try.prog n 34 ds) : ∃ l, dOf Try.prog 34 ds = .sl 3 (rs l) ∧ (∀ r ∈ l, r.ok) ∧ l.length ≤ 9223372036854775807 := by
  obtain ⟨m, xs, rfl, h1, h2⟩ := ty_sl Try.underlying34 h
  obtain ⟨l, e1, e2, h3⟩ := ty_list (f := ru) (ok := Ru.ok) (fun x hx => ty_ru hx) xs h2
  rw [e1, dOf_sl Try.underlying34]
  exact ⟨l, rfl, h3, by omega⟩
end Go.Eng.Try

/- Costs, and numbers, that a call hands in. -/
set_option linter.unusedVariables false
set_option linter.unusedSimpArgs false
namespace Go.Eng.Try
open Go Go.Eng Go.Proofs Go.RowKit
set_option maxRecDepth 100000 in
theorem ty_i64 {n : Nat} {ds : List D} (h : TyC Try.prog n 3 ds) : ∃ z : Int, dOf Try.prog 3 ds = .int .i64 z ∧ (-9223372036854775808 ≤ z ∧ z ≤ 9223372036854775807) := by
  obtain ⟨z, rfl, hz⟩ := ty_int Try.underlying3 h
  exact ⟨z, dOf_int Try.underlying3, wf_i64 hz⟩
set_option maxRecDepth 100000 in
theorem ty_u8 {n : Nat} {ds : List D} (h : TyC Try.prog n 5 ds) : ∃ z : Int, dOf Try.prog 5 ds = .int .u8 z ∧ (0 ≤ z ∧ z ≤ 255) := by
  obtain ⟨z, rfl, hz⟩ := ty_int Try.underlying5 h
  exact ⟨z, dOf_int Try.underlying5, wf_u8 hz⟩
set_option maxRecDepth 100000 in
theorem ty_co {n : Nat} {ds : List D} (h : TyC Try.prog n 46 ds) : ∃ c : Co, dOf Try.prog 46 ds = co c ∧ c.ok := by
  obtain ⟨m, h⟩ := ty_struct Try.underlying46 h
  obtain ⟨_, _, rfl, h1, _, _, rfl, h2, _, _, rfl, h3, _, _, rfl, h4, _, _, rfl, h5, rfl⟩ := h
  obtain ⟨c1, rfl, hc1⟩ := ty_int Try.underlying23 h1
  obtain ⟨c2, rfl, hc2⟩ := ty_int Try.underlying23 h2
  obtain ⟨c3, rfl, hc3⟩ := ty_int Try.underlying23 h3
  obtain ⟨c4, rfl, hc4⟩ := ty_int Try.underlying23 h4
  obtain ⟨l, e1, o1, o2⟩ := ty_rs h5
  obtain ⟨k, xs, rfl, _, _⟩ := ty_sl Try.underlying34 h5
  rw [dOf_sl Try.underlying34] at e1
  rw [dOf_struct Try.underlying46, e1]
  exact ⟨⟨c1, c2, c3, c4, l⟩, rfl, wf_u64 hc1, wf_u64 hc2, wf_u64 hc3, wf_u64 hc4, o1, o2⟩
end Go.Eng.Try

/- What words cost: the table is walked. (and what stands behind it: texts laid together) -/
import Derived.Test.YtbnhblimckdcgabGreatMG4
import Derived.Test.YtbnhblimckdcgabGreatMR9
set_option linter.unusedVariables false
set_option linter.unusedSimpArgs false
namespace Go.Eng.Tryz
open Go Go.Eng Go.Proofs Go.RowKit
attribute [local go_sem] tys
attribute [local go_sem] is_len is_get ses_len ses_get sss_len sss_get is_drop is_take tt_len tt_getD tt_get tt_set us_set rep_us TU
set_option maxHeartbeats 16000000 in
set_option maxRecDepth 10000 in
theorem pTable1 {c : Co} {q w : List Int} (hc : c.ok) (hm : may c q = true) (hw : w.length ≤ 20) : Sound Tryz.prog 31 [co c, .sl 1 (is q), .sl 1 (is w)] (.sl 1 (tt (tbl (allF c q (q.length + 1)) w))) := by
  obtain ⟨hq, hk⟩ := may_iff.1 hm
  have ca := pAll (q := q) hc (by omega)
  have eA : stepsAll c q = allF c q (q.length + 1) := if_pos hm
  rw [eA] at ca
  have hS := all_steps hc hk q w
  have hput : ∀ i, i < q.length + 1 → ∀ s ∈ (allF c q (q.length + 1))[i]!, s.put.length ≤ 8 := fun i hi s hs => by
    rw [allF_get c q hi] at hs
    exact (stAt_ok hc hk hs).2.2.2.1
  have hlen := allF_len c q (q.length + 1)
  obtain ⟨M, hM⟩ : ∃ M, M = w.length + 1 := ⟨_, rfl⟩
  have cr := sRepeat (x := 18446744073709551615) (n := M) ⟨by decide, by decide⟩ (by omega) (by omega)
  have eM : (M : Int) = (w.length : Int) + 1 := by omega
  have cr' := cr
  rw [eM] at cr'
  obtain ⟨A0, A1, hA⟩ : ∃ A0 A1, allF c q (q.length + 1) = A0 :: A1 := by
    cases h : allF c q (q.length + 1) with
    | nil => rw [h] at hlen; simp at hlen
    | cons a b => exact ⟨a, b, rfl⟩
  have eN : sss (allF c q (q.length + 1)) = .sl 4 (ses A0) :: sss A1 := by rw [hA]; rfl
  have hL : A1.length + 1 = (allF c q (q.length + 1)).length := by rw [hA]; simp
  have hsl : ∀ i, i < q.length + 1 → ((allF c q (q.length + 1))[i]!).length ≤ 1000 := fun i hi => by
    obtain ⟨k1, k2⟩ := cok_rules hk
    rw [allF_get c q hi]
    have h1 := st3_len c (q.drop i)
    have h2 := st4_len (q.drop i) c.rules
    unfold stAt
    simp only [List.length_append]
    omega
  generalize hall : allF c q (q.length + 1) = all at *
  have h0 : 0 < all.length := by omega
  unfold co at ca ⊢
  refine Sound.run (N := 123) Tryz.func31 rfl (by kernel_rfl) rfl rfl rfl (by first | exact args0_0 | exact args0_1 | exact args0_2 | exact args0_3 | exact args0_4 | exact args0_5 | exact args0_6) fun X_ w_ => ?_
  have c0_ := ca; have c1_ := cr'; repeat ((fail_if_success (with_reducible show WP _ _ (.region 5 _ _) _ _)); first | with_reducible exact Ev.nil | with_reducible exact gd_n | ((with_reducible apply lk_ok); rfl) | ((with_reducible apply gslot_ok); rfl) | ((with_reducible apply v2d_ok); rfl) | with_reducible apply then_n | with_reducible apply WP_seq | with_reducible apply WP_skip | ((with_reducible apply WP_r (N := 123) rfl rfl); (focus simp only [Nat.reduceAdd] <;> rfl)) | ((with_reducible apply WP_d (N := 123) mixed rfl rfl); (focus simp only [Nat.reduceAdd] <;> rfl)) | ((with_reducible apply Ev_s); (focus first | (apply gd_u; (focus rfl); rfl) | (apply gd_f; (focus rfl); (focus rfl); rfl))) | ((with_reducible apply Ev_sn); (focus first | (apply gd_u; (focus rfl); rfl) | (apply gd_f; (focus rfl); (focus rfl); rfl))) | with_reducible apply gd_t | with_reducible apply Ev_mv | with_reducible apply Ev_as | with_reducible apply Ev_mc | with_reducible apply Ev_ac | ((first | (with_reducible apply Ev_pt) | (with_reducible apply Ev_ptc)); (focus rfl)) | ((first | (with_reducible apply Ev_pf) | (with_reducible apply Ev_pfc)); (focus rfl)) | (apply Ev_cf; (focus simp (disch := omega) only [go_sem, eN] <;> rfl); (focus first | exact c0_ | exact c1_); (focus rfl); (focus first | (simp (disch := omega) only [go_sem, eN] <;> rfl) | rfl)) | ((with_reducible apply Ev_d); (focus simp only [Nat.reduceAdd] <;> rfl); (focus simp (disch := omega) only [go_sem, eN] <;> rfl)) | (apply Ev_cv; (focus rfl); (focus simp (disch := omega) only [go_sem, eN] <;> rfl); (focus first | exact c0_ | exact c1_); (iterate 3 (focus first | (simp (disch := omega) only [go_sem, eN] <;> rfl) | rfl))) | ((first | apply Ev_cmd | apply Ev_cmn); (focus simp only [Nat.reduceAdd] <;> rfl); (focus rfl); (iterate 2 (focus simp (disch := omega) only [go_sem, eN] <;> rfl)); (first | ((focus first | exact c0_ | exact c1_); (iterate 2 (focus first | (simp (disch := omega) only [go_sem, eN] <;> rfl) | rfl)); (focus rfl); (iterate 3 (focus first | (simp (disch := omega) only [go_sem, eN] <;> rfl) | rfl))))) | ((first | (with_reducible apply Ev_od) | (with_reducible apply Ev_on)); (focus simp only [Nat.reduceAdd] <;> rfl); (focus simp (disch := omega) only [go_sem, eN] <;> rfl); (focus first | (simp (disch := omega) only [go_sem, eN] <;> rfl) | rfl)) | with_reducible apply endM_n | with_reducible apply endM_r | with_reducible apply then_r | with_reducible apply then_x | with_reducible apply block_n | with_reducible apply block_r | with_reducible apply block_x | with_reducible apply block_y rfl | with_reducible apply scope_n | with_reducible apply scope_r | with_reducible apply scope_x | with_reducible apply end_n | with_reducible apply end_r | with_reducible apply WP_block | with_reducible apply WP_exit | with_reducible apply WP_ret | with_reducible apply WP_label | with_reducible apply WP_scope | ((with_reducible apply WP_t); (focus first | (simp (disch := omega) only [go_sem, eN] <;> rfl) | rfl)) | ((with_reducible apply WP_f); (focus first | (simp (disch := omega) only [go_sem, eN] <;> rfl) | rfl)) | ((with_reducible apply resD_t); (focus rfl)) | ((with_reducible apply resD_2); (focus rfl); (focus rfl)) | (with_reducible rfl) | ((with_reducible show List.map outKeys _ = _); simp only [List.map_cons, List.map_nil, outKeys, keys]; rfl) | ((with_reducible show orderOk _ _ = true); kernel_rfl) | ((with_reducible show _ = _); simp (disch := omega) only [go_sem, eN] <;> rfl) | ((fail_if_success (with_reducible show Ev _ _ _ _ (_ :: _) _ _ _ _ _)); (show Ev _ _ _ _ (_ :: _) _ _ _ _ _)) | fail)
  repeat ((fail_if_success (with_reducible show WP _ _ (.region 6 _ _) _ _)); first | with_reducible exact Ev.nil | with_reducible exact gd_n | ((with_reducible apply lk_ok); rfl) | ((with_reducible apply gslot_ok); rfl) | ((with_reducible apply v2d_ok); rfl) | with_reducible apply then_n | with_reducible apply WP_seq | with_reducible apply WP_skip | ((with_reducible apply WP_r (N := 123) rfl rfl); (focus simp only [Nat.reduceAdd] <;> rfl)) | ((with_reducible apply WP_d (N := 123) mixed rfl rfl); (focus simp only [Nat.reduceAdd] <;> rfl)) | ((with_reducible apply Ev_s); (focus first | (apply gd_u; (focus rfl); rfl) | (apply gd_f; (focus rfl); (focus rfl); rfl))) | ((with_reducible apply Ev_sn); (focus first | (apply gd_u; (focus rfl); rfl) | (apply gd_f; (focus rfl); (focus rfl); rfl))) | with_reducible apply gd_t | with_reducible apply Ev_mv | with_reducible apply Ev_as | with_reducible apply Ev_mc | with_reducible apply Ev_ac | ((first | (with_reducible apply Ev_pt) | (with_reducible apply Ev_ptc)); (focus rfl)) | ((first | (with_reducible apply Ev_pf) | (with_reducible apply Ev_pfc)); (focus rfl)) | ((with_reducible apply Ev_d); (focus simp only [Nat.reduceAdd] <;> rfl); (focus simp (disch := omega) only [go_sem, hL] <;> rfl)) | ((first | (with_reducible apply Ev_od) | (with_reducible apply Ev_on)); (focus simp only [Nat.reduceAdd] <;> rfl); (focus simp (disch := omega) only [go_sem, hL] <;> rfl); (focus first | (simp (disch := omega) only [go_sem, hL] <;> rfl) | rfl)) | with_reducible apply endM_n | with_reducible apply endM_r | with_reducible apply then_r | with_reducible apply then_x | with_reducible apply block_n | with_reducible apply block_r | with_reducible apply block_x | with_reducible apply block_y rfl | with_reducible apply scope_n | with_reducible apply scope_r | with_reducible apply scope_x | with_reducible apply end_n | with_reducible apply end_r | with_reducible apply WP_block | with_reducible apply WP_exit | with_reducible apply WP_ret | with_reducible apply WP_label | with_reducible apply WP_scope | ((with_reducible apply WP_t); (focus first | (simp (disch := omega) only [go_sem, hL] <;> rfl) | rfl)) | ((with_reducible apply WP_f); (focus first | (simp (disch := omega) only [go_sem, hL] <;> rfl) | rfl)) | ((with_reducible apply resD_t); (focus rfl)) | ((with_reducible apply resD_2); (focus rfl); (focus rfl)) | (with_reducible rfl) | ((with_reducible show List.map outKeys _ = _); simp only [List.map_cons, List.map_nil, outKeys, keys]; rfl) | ((with_reducible show orderOk _ _ = true); kernel_rfl) | ((with_reducible show _ = _); simp (disch := omega) only [go_sem, hL] <;> rfl) | ((fail_if_success (with_reducible show Ev _ _ _ _ (_ :: _) _ _ _ _ _)); (show Ev _ _ _ _ (_ :: _) _ _ _ _ _)) | fail)
  refine WP_tab 9 20000 TU rfl rfl (by simp) rfl rfl (by decide) nilAt_rep (Nat.le_of_ble_eq_true rfl) (ini_rep (M := M)) rfl ?_
  refine goT ?_; first | exact trivial | skip
  refine WP_loopk (fun k : Nat => k ≤ all.length) (fun k => [(2, .d (.sl 1 (is w))), (7, .d (.sl 1 (sss all))), (8, .d (.sl 1 (us (List.replicate M 18446744073709551615)))), (9, .tab 20000 all.length), (36, .d (.int .i64 all.length)), (37, .d (.int .i64 k))]) (fun k => [(20000, .tab TU (tt (ini all.length M k)) none)]) 20001 (fun k => all.length - k) [2, 7, 8, 9, 36, 37] [20000] 0 (Nat.zero_le _) (by rw [eN]; rfl) rfl (Nat.zero_le _) (fun _ _ => rfl) (fun _ _ => rfl) fun k hk' => ?_
  have hM0 : 0 < M := by omega
  by_cases hk2 : k < all.length
  · have f0 := ini_len (M := M) hk'
    have f1 := ini_at (M := M) hk2
    have f2 : ((ini all.length M k).set k (List.replicate M 0))[k]! = List.replicate M 0 := set_same (by rw [f0]; exact hk2)
    have f3 : ((ini all.length M k).set k (List.replicate M 0)).set k (List.replicate M 18446744073709551615) = ini all.length M (k + 1) := by rw [List.set_set]; exact ini_step hk2
    have f4 : ((ini all.length M k).set k (List.replicate M 0)).length = all.length := by rw [List.length_set, f0]
    repeat (first | with_reducible exact Ev.nil | with_reducible exact gd_n | ((with_reducible apply lk_ok); rfl) | ((with_reducible apply gslot_ok); rfl) | ((with_reducible apply v2d_ok); rfl) | with_reducible apply then_n | with_reducible apply WP_seq | with_reducible apply WP_skip | ((with_reducible apply WP_r (N := 123) rfl rfl); (focus simp only [Nat.reduceAdd] <;> rfl)) | ((with_reducible apply WP_d (N := 123) mixed rfl rfl); (focus simp only [Nat.reduceAdd] <;> rfl)) | ((with_reducible apply Ev_s); (focus first | (apply gd_u; (focus rfl); rfl) | (apply gd_f; (focus rfl); (focus rfl); rfl))) | ((with_reducible apply Ev_sn); (focus first | (apply gd_u; (focus rfl); rfl) | (apply gd_f; (focus rfl); (focus rfl); rfl))) | with_reducible apply gd_t | with_reducible apply Ev_mv | with_reducible apply Ev_as | with_reducible apply Ev_mc | with_reducible apply Ev_ac | ((first | (with_reducible apply Ev_pt) | (with_reducible apply Ev_ptc)); (focus rfl)) | ((first | (with_reducible apply Ev_pf) | (with_reducible apply Ev_pfc)); (focus rfl)) | ((with_reducible apply Ev_d); (focus simp only [Nat.reduceAdd] <;> rfl); (focus simp (disch := omega) only [go_sem, f0, f1, f2, f3, f4, us_len, List.length_replicate, us_flat] <;> rfl)) | ((first | (with_reducible apply Ev_od) | (with_reducible apply Ev_on)); (focus simp only [Nat.reduceAdd] <;> rfl); (focus simp (disch := omega) only [go_sem, f0, f1, f2, f3, f4, us_len, List.length_replicate, us_flat] <;> rfl); (focus first | (simp (disch := omega) only [go_sem, f0, f1, f2, f3, f4, us_len, List.length_replicate, us_flat] <;> rfl) | rfl)) | with_reducible apply endM_n | with_reducible apply endM_r | with_reducible apply then_r | with_reducible apply then_x | with_reducible apply block_n | with_reducible apply block_r | with_reducible apply block_x | with_reducible apply block_y rfl | with_reducible apply scope_n | with_reducible apply scope_r | with_reducible apply scope_x | with_reducible apply end_n | with_reducible apply end_r | with_reducible apply WP_block | with_reducible apply WP_exit | with_reducible apply WP_ret | with_reducible apply WP_label | with_reducible apply WP_scope | ((with_reducible apply WP_t); (focus first | (simp (disch := omega) only [go_sem, f0, f1, f2, f3, f4, us_len, List.length_replicate, us_flat] <;> rfl) | rfl)) | ((with_reducible apply WP_f); (focus first | (simp (disch := omega) only [go_sem, f0, f1, f2, f3, f4, us_len, List.length_replicate, us_flat] <;> rfl) | rfl)) | ((with_reducible apply resD_t); (focus rfl)) | ((with_reducible apply resD_2); (focus rfl); (focus rfl)) | (with_reducible rfl) | ((with_reducible show List.map outKeys _ = _); simp only [List.map_cons, List.map_nil, outKeys, keys]; rfl) | ((with_reducible show orderOk _ _ = true); kernel_rfl) | ((with_reducible show _ = _); simp (disch := omega) only [go_sem, f0, f1, f2, f3, f4, us_len, List.length_replicate, us_flat] <;> rfl) | ((fail_if_success (with_reducible show Ev _ _ _ _ (_ :: _) _ _ _ _ _)); (show Ev _ _ _ _ (_ :: _) _ _ _ _ _)) | fail)
    refine ⟨k + 1, by omega, ?_, ?_, by omega⟩
    · simp (disch := omega) only [go_sem, keepL, Int.natCast_add, Int.cast_ofNat_Int]
    · simp (disch := omega) only [go_sem, keepL]
  have hka : k = all.length := by omega
  subst hka
  have hsz := ini_len (M := M) (Nat.le_refl all.length)
  have hr0 : ((ini all.length M all.length)[0]!).length = M := by
    simp only [List.getElem!_eq_getElem?_getD, ini]
    rw [List.getElem?_append_left (by simpa using h0)]
    simp [List.getElem?_replicate, h0]
  have g0 : (ini all.length M all.length).set 0 (((ini all.length M all.length)[0]!).set 0 0) = tblI all w 0 := by
    simp only [tblI, List.range_zero, List.foldl_nil, tbl0, set2, ini, Nat.sub_self, List.replicate_zero, List.append_nil, hM]
  repeat ((fail_if_success (with_reducible show WP _ _ (.region 13 _ _) _ _)); first | with_reducible exact Ev.nil | with_reducible exact gd_n | ((with_reducible apply lk_ok); rfl) | ((with_reducible apply gslot_ok); rfl) | ((with_reducible apply v2d_ok); rfl) | with_reducible apply then_n | with_reducible apply WP_seq | with_reducible apply WP_skip | ((with_reducible apply WP_r (N := 123) rfl rfl); (focus simp only [Nat.reduceAdd] <;> rfl)) | ((with_reducible apply WP_d (N := 123) mixed rfl rfl); (focus simp only [Nat.reduceAdd] <;> rfl)) | ((with_reducible apply Ev_s); (focus first | (apply gd_u; (focus rfl); rfl) | (apply gd_f; (focus rfl); (focus rfl); rfl))) | ((with_reducible apply Ev_sn); (focus first | (apply gd_u; (focus rfl); rfl) | (apply gd_f; (focus rfl); (focus rfl); rfl))) | with_reducible apply gd_t | with_reducible apply Ev_mv | with_reducible apply Ev_as | with_reducible apply Ev_mc | with_reducible apply Ev_ac | ((first | (with_reducible apply Ev_pt) | (with_reducible apply Ev_ptc)); (focus rfl)) | ((first | (with_reducible apply Ev_pf) | (with_reducible apply Ev_pfc)); (focus rfl)) | ((with_reducible apply Ev_d); (focus simp only [Nat.reduceAdd] <;> rfl); (focus simp (disch := omega) only [go_sem, hsz, hr0, us_len, g0] <;> rfl)) | ((first | (with_reducible apply Ev_od) | (with_reducible apply Ev_on)); (focus simp only [Nat.reduceAdd] <;> rfl); (focus simp (disch := omega) only [go_sem, hsz, hr0, us_len, g0] <;> rfl); (focus first | (simp (disch := omega) only [go_sem, hsz, hr0, us_len, g0] <;> rfl) | rfl)) | with_reducible apply endM_n | with_reducible apply endM_r | with_reducible apply then_r | with_reducible apply then_x | with_reducible apply block_n | with_reducible apply block_r | with_reducible apply block_x | with_reducible apply block_y rfl | with_reducible apply scope_n | with_reducible apply scope_r | with_reducible apply scope_x | with_reducible apply end_n | with_reducible apply end_r | with_reducible apply WP_block | with_reducible apply WP_exit | with_reducible apply WP_ret | with_reducible apply WP_label | with_reducible apply WP_scope | ((with_reducible apply WP_t); (focus first | (simp (disch := omega) only [go_sem, hsz, hr0, us_len, g0] <;> rfl) | rfl)) | ((with_reducible apply WP_f); (focus first | (simp (disch := omega) only [go_sem, hsz, hr0, us_len, g0] <;> rfl) | rfl)) | ((with_reducible apply resD_t); (focus rfl)) | ((with_reducible apply resD_2); (focus rfl); (focus rfl)) | (with_reducible rfl) | ((with_reducible show List.map outKeys _ = _); simp only [List.map_cons, List.map_nil, outKeys, keys]; rfl) | ((with_reducible show orderOk _ _ = true); kernel_rfl) | ((with_reducible show _ = _); simp (disch := omega) only [go_sem, hsz, hr0, us_len, g0] <;> rfl) | ((fail_if_success (with_reducible show Ev _ _ _ _ (_ :: _) _ _ _ _ _)); (show Ev _ _ _ _ (_ :: _) _ _ _ _ _)) | fail)
  refine goT ?_; first | exact trivial | skip
  refine WP_loopk (fun i : Nat => i ≤ all.length) (fun i => [(2, .d (.sl 1 (is w))), (7, .d (.sl 1 (sss all))), (8, .d (.sl 1 (us (List.replicate M 18446744073709551615)))), (9, .tab 20000 all.length), (58, .d (.int .i64 all.length)), (59, .d (.int .i64 i))]) (fun i => [(20000, .tab TU (tt (tblI all w i)) none)]) 20001 (fun i => all.length - i) [2, 7, 8, 9, 58, 59] [20000] 0 (Nat.zero_le _) rfl rfl (Nat.zero_le _) (fun _ _ => rfl) (fun _ _ => rfl) fun i hi => ?_
  by_cases hi2 : i < all.length
  · have hd := tblI_done hS h0 i hi
    repeat (first | with_reducible exact Ev.nil | with_reducible exact gd_n | ((with_reducible apply lk_ok); rfl) | ((with_reducible apply gslot_ok); rfl) | ((with_reducible apply v2d_ok); rfl) | with_reducible apply then_n | with_reducible apply WP_seq | with_reducible apply WP_skip | ((with_reducible apply WP_r (N := 123) rfl rfl); (focus simp only [Nat.reduceAdd] <;> rfl)) | ((with_reducible apply WP_d (N := 123) mixed rfl rfl); (focus simp only [Nat.reduceAdd] <;> rfl)) | ((with_reducible apply Ev_s); (focus first | (apply gd_u; (focus rfl); rfl) | (apply gd_f; (focus rfl); (focus rfl); rfl))) | ((with_reducible apply Ev_sn); (focus first | (apply gd_u; (focus rfl); rfl) | (apply gd_f; (focus rfl); (focus rfl); rfl))) | with_reducible apply gd_t | with_reducible apply Ev_mv | with_reducible apply Ev_as | with_reducible apply Ev_mc | with_reducible apply Ev_ac | ((first | (with_reducible apply Ev_pt) | (with_reducible apply Ev_ptc)); (focus rfl)) | ((first | (with_reducible apply Ev_pf) | (with_reducible apply Ev_pfc)); (focus rfl)) | ((with_reducible apply Ev_d); (focus simp only [Nat.reduceAdd] <;> rfl); (focus simp (disch := omega) only [go_sem, us_len, List.length_replicate] <;> rfl)) | ((first | (with_reducible apply Ev_od) | (with_reducible apply Ev_on)); (focus simp only [Nat.reduceAdd] <;> rfl); (focus simp (disch := omega) only [go_sem, us_len, List.length_replicate] <;> rfl); (focus first | (simp (disch := omega) only [go_sem, us_len, List.length_replicate] <;> rfl) | rfl)) | with_reducible apply endM_n | with_reducible apply endM_r | with_reducible apply then_r | with_reducible apply then_x | with_reducible apply block_n | with_reducible apply block_r | with_reducible apply block_x | with_reducible apply block_y rfl | with_reducible apply scope_n | with_reducible apply scope_r | with_reducible apply scope_x | with_reducible apply end_n | with_reducible apply end_r | with_reducible apply WP_block | with_reducible apply WP_exit | with_reducible apply WP_ret | with_reducible apply WP_label | with_reducible apply WP_scope | ((with_reducible apply WP_t); (focus first | (simp (disch := omega) only [go_sem, us_len, List.length_replicate] <;> rfl) | rfl)) | ((with_reducible apply WP_f); (focus first | (simp (disch := omega) only [go_sem, us_len, List.length_replicate] <;> rfl) | rfl)) | ((with_reducible apply resD_t); (focus rfl)) | ((with_reducible apply resD_2); (focus rfl); (focus rfl)) | (with_reducible rfl) | ((with_reducible show List.map outKeys _ = _); simp only [List.map_cons, List.map_nil, outKeys, keys]; rfl) | ((with_reducible show orderOk _ _ = true); kernel_rfl) | ((with_reducible show _ = _); simp (disch := omega) only [go_sem, us_len, List.length_replicate] <;> rfl) | ((fail_if_success (with_reducible show Ev _ _ _ _ (_ :: _) _ _ _ _ _)); (show Ev _ _ _ _ (_ :: _) _ _ _ _ _)) | fail)
    refine WP_loopk (fun j : Nat => j ≤ M) (fun j => [(2, .d (.sl 1 (is w))), (7, .d (.sl 1 (sss all))), (8, .d (.sl 1 (us (List.replicate M 18446744073709551615)))), (9, .tab 20000 all.length), (58, .d (.int .i64 all.length)), (59, .d (.int .i64 i)), (11, .d (.int .i64 i)), (63, .d (.int .i64 M)), (64, .d (.int .i64 j))]) (fun j => [(20000, .tab TU (tt (tblJ all w i j (tblI all w i))) none)]) 20001 (fun j => M - j) [2, 7, 8, 9, 58, 59, 11, 63, 64] [20000] 0 (Nat.zero_le _) rfl rfl (Nat.zero_le _) (fun _ _ => rfl) (fun _ _ => rfl) fun j hj => ?_
    have hdj := tblJ_done hS hi2 hd j (by omega)
    have ht := hdj.good.shape.1
    have hr : ∀ a, a < all.length → ((tblJ all w i j (tblI all w i))[a]!).length = M := fun a ha => by rw [hM]; exact hdj.good.shape.2 a ha
    have hri := hr i hi2
    by_cases hj2 : j < M
    · by_cases hinf : ((tblJ all w i j (tblI all w i))[i]!)[j]! = 18446744073709551615
      · have hst := tblJ_inf hS hdj hi2 (by omega) hinf
        refine goX (And.intro @ht (And.intro @hri (And.intro @us_len @hinf))) ?_; first | exact trivial | skip
        refine ⟨j + 1, by omega, ?_, ?_, by omega⟩
        · simp (disch := omega) only [go_sem, keepL, Int.natCast_add, Int.cast_ofNat_Int]
        · simp (disch := omega) only [go_sem, keepL, hst]
      · refine goX (And.intro @ht (And.intro @hri (And.intro @us_len @hinf))) ?_; first | exact trivial | skip
        refine WP_loopk (fun k : Nat => k ≤ (all[i]!).length) (fun k => [(2, .d (.sl 1 (is w))), (7, .d (.sl 1 (sss all))), (8, .d (.sl 1 (us (List.replicate M 18446744073709551615)))), (9, .tab 20000 all.length), (58, .d (.int .i64 all.length)), (59, .d (.int .i64 i)), (11, .d (.int .i64 i)), (12, .d (.int .i64 j)), (63, .d (.int .i64 M)), (64, .d (.int .i64 j)), (78, .d (.sl 4 (ses (all[i]!)))), (79, .d (.int .i64 (all[i]!).length)), (80, .d (.int .i64 k))]) (fun k => [(20000, .tab TU (tt (tblK all w i j k (tblJ all w i j (tblI all w i)))) none)]) 20001 (fun k => (all[i]!).length - k) [2, 7, 8, 9, 58, 59, 11, 12, 63, 64, 78, 79, 80] [20000] 0 (Nat.zero_le _) rfl rfl (Nat.zero_le _) (fun _ _ => rfl) (fun _ _ => rfl) fun k hkl => ?_
        have hlim := hsl i (by omega)
        have hdk := (tblK_done hS hi2 (by omega) hdj k hkl).1
        have hst := fun (h : k < (all[i]!).length) => tblK_step (w := w) (j := j) (t := tblJ all w i j (tblI all w i)) h
        have htk := hdk.good.shape.1
        have hrk : ∀ a, a < all.length → ((tblK all w i j k (tblJ all w i j (tblI all w i)))[a]!).length = M := fun a ha => by rw [hM]; exact hdk.good.shape.2 a ha
        have hu := hdk.good.u
        by_cases hk2 : k < (all[i]!).length
        · have hst := hst hk2
          have hmem : (all[i]!)[k]! ∈ all[i]! := by rw [getElem!_pos (all[i]!) k hk2]; exact List.getElem_mem _
          obtain ⟨q1, q2, q3, q4⟩ := hS i hi2 _ hmem
          have q5 := hput i (by omega) _ hmem
          generalize htK : tblK all w i j k (tblJ all w i j (tblI all w i)) = t at *
          generalize hsv : (all[i]!)[k]! = s at *
          obtain ⟨eat, put, any, cost⟩ := s
          simp only at q1 q2 q3 q4 q5
          obtain ⟨e, rfl⟩ := Int.eq_ofNat_of_zero_le q1
          simp only [Int.toNat_natCast] at q2 q4
          have cp := pPuts (s := ⟨e, put, any, cost⟩) (w := w.drop j) (by simp only [List.length_drop]; omega) (by simp only; omega)
          unfold se at cp
          simp only at cp
          cases hpn : putsN ⟨e, put, any, cost⟩ w j with
          | none =>
            have ep : putsI ⟨e, put, any, cost⟩ (w.drop j) 0 = -1 := by unfold putsI; rw [putsN_drop, hpn]
            rw [ep] at cp
            have hx : relax w i j t ⟨e, put, any, cost⟩ = t := by unfold relax; rw [hpn]
            rw [hx] at hst
            have c0_ := cp; refine goX @hsv ?_; first | exact trivial | skip
            refine ⟨k + 1, by omega, ?_, ?_, by omega⟩
            · simp (disch := omega) only [go_sem, keepL, Int.natCast_add, Int.cast_ofNat_Int]
            · simp (disch := omega) only [go_sem, keepL, hst]
          | some n =>
            have ep : putsI ⟨e, put, any, cost⟩ (w.drop j) 0 = n := by unfold putsI; rw [putsN_drop, hpn]
            rw [ep] at cp
            have hjn := putsN_le (by omega) hpn
            have hx : relax w i j t ⟨e, put, any, cost⟩ = t.set (i + e) ((t[i + e]!).set (j + n) (min ((t[i + e]!)[j + n]!) (cadd ((t[i]!)[j]!) cost))) := by
              unfold relax set2 get2
              simp only [hpn, Int.toNat_natCast]
            rw [hx] at hst
            have hr1 := hrk (i + e) q2
            have hr2 := hrk i hi2
            have u1 : U ((t[i]!)[j]!) := hu i j hi2 (by omega)
            have u2 : U ((t[i + e]!)[j + n]!) := hu (i + e) (j + n) q2 (by omega)
            have c1 := costAdd u1 q3
            have c2 := costLeast2 u2 (U_cadd u1 q3)
            have ei : (i : Int) + (e : Int) = ((i + e : Nat) : Int) := by omega
            have ej : (j : Int) + (n : Int) = ((j + n : Nat) : Int) := by omega
            have c0_ := cp; have c1_ := c1; have c2_ := c2; refine goX (And.intro @hsv (And.intro @htk (And.intro @hr1 (And.intro @hr2 (And.intro @ei (And.intro @ej @us_len)))))) ?_; first | exact trivial | skip
            refine ⟨k + 1, by omega, ?_, ?_, by omega⟩
            · simp (disch := omega) only [go_sem, keepL, Int.natCast_add, Int.cast_ofNat_Int]
            · simp (disch := omega) only [go_sem, keepL, hst]
        have hkk : k = (all[i]!).length := by omega
        subst hkk
        have hst2 := tblJ_step all w i j (tblI all w i)
        refine goT ?_; first | exact trivial | skip
        refine ⟨j + 1, by omega, ?_, ?_, by omega⟩
        · simp (disch := omega) only [go_sem, keepL, Int.natCast_add, Int.cast_ofNat_Int]
        · simp (disch := omega) only [go_sem, keepL, hst2]
    · have hjm : j = M := by omega
      have hst3 := tblI_step all w i
      rw [← hM] at hst3
      subst hjm
      refine goT ?_; first | exact trivial | skip
      refine ⟨i + 1, by omega, ?_, ?_, by omega⟩
      · simp (disch := omega) only [go_sem, keepL, Int.natCast_add, Int.cast_ofNat_Int]
      · simp (disch := omega) only [go_sem, keepL, hst3]
  have hin : i = all.length := by omega
  subst hin
  have hT : (tblI all w all.length).length = all.length := (tblI_done hS h0 _ (Nat.le_refl _)).good.shape.1
  refine goX @hT ?_; first | exact trivial | skip
end Go.Eng.Tryz
set_option linter.unusedVariables false
set_option linter.unusedSimpArgs false
namespace Go.Eng.Tryz
open Go Go.Eng Go.Proofs Go.RowKit
attribute [local go_sem] tys
attribute [local go_sem] is_len is_get ses_len ses_get sss_len sss_get tt_len tt_get dels
set_option maxHeartbeats 4000000 in
set_option maxRecDepth 10000 in
theorem pTableN {c : Co} {q w : List Int} (hc : c.ok) (hq : q.length ≤ 9223372036854775807) (hw : w.length ≤ 9223372036854775807) (h : ¬ (may c q = true ∧ w.length ≤ 20)) : Sound Tryz.prog 31 [co c, .sl 1 (is q), .sl 1 (is w)] .nils := by
  cases hm : may c q
  · have ca := allN hc hq hm
    unfold co at ca ⊢
    refine Sound.run (N := 123) Tryz.func31 rfl (by kernel_rfl) rfl rfl rfl (by first | exact args0_0 | exact args0_1 | exact args0_2 | exact args0_3 | exact args0_4 | exact args0_5 | exact args0_6) fun X_ w_ => ?_
    have c0_ := ca; refine goT ?_; first | exact trivial | skip
  · have hw2 : 20 < w.length := by
      rcases Nat.lt_or_ge 20 w.length with h2 | h2
      · exact h2
      · exact absurd ⟨hm, h2⟩ h
    have ca := pAll hc hq
    have eA : stepsAll c q = allF c q (q.length + 1) := if_pos hm
    rw [eA] at ca
    have hlen := allF_len c q (q.length + 1)
    obtain ⟨A0, A1, hA⟩ : ∃ A0 A1, allF c q (q.length + 1) = A0 :: A1 := by
      cases h : allF c q (q.length + 1) with
      | nil => rw [h] at hlen; simp at hlen
      | cons a b => exact ⟨a, b, rfl⟩
    have eN : sss (allF c q (q.length + 1)) = .sl 4 (ses A0) :: sss A1 := by rw [hA]; rfl
    unfold co at ca ⊢
    refine Sound.run (N := 123) Tryz.func31 rfl (by kernel_rfl) rfl rfl rfl (by first | exact args0_0 | exact args0_1 | exact args0_2 | exact args0_3 | exact args0_4 | exact args0_5 | exact args0_6) fun X_ w_ => ?_
    have c0_ := ca; refine goX @eN ?_; first | exact trivial | skip
theorem pTable {c : Co} {q w : List Int} (hc : c.ok) (hq : q.length ≤ 9223372036854775807) (hw : w.length ≤ 9223372036854775807) : Sound Tryz.prog 31 [co c, .sl 1 (is q), .sl 1 (is w)] (.sl 1 (tt (tableD c q w))) := by
  unfold tableD
  by_cases h : may c q = true ∧ w.length ≤ 20
  · rw [if_pos h]; exact pTable1 hc h.1 h.2
  · rw [if_neg h]; exact (pTableN hc hq hw h).wk (Wks.refl _) (.nil 1)
set_option maxHeartbeats 4000000 in
set_option maxRecDepth 10000 in
theorem pOf {c : Co} {q w : List Int} (hc : c.ok) (hq : q.length ≤ 9223372036854775807) (hw : w.length ≤ 9223372036854775807) : Sound Tryz.prog 10 [co c, .sl 1 (is q), .sl 1 (is w)] (.int .u64 (ofD c q w)) := by
  by_cases h : may c q = true ∧ w.length ≤ 20
  · have ct := pTable1 hc h.1 h.2
    obtain ⟨hq2, hk⟩ := may_iff.1 h.1
    have hg := tbl_good (all_steps hc hk q w) (by rw [allF_len]; omega)
    have hl : (tbl (allF c q (q.length + 1)) w).length = q.length + 1 := by rw [hg.shape.1, allF_len]
    have hr : ((tbl (allF c q (q.length + 1)) w)[q.length]!).length = w.length + 1 := hg.shape.2 _ (by rw [allF_len]; omega)
    have e : ofD c q w = ((tbl (allF c q (q.length + 1)) w)[q.length]!)[w.length]! := if_pos h
    rw [e]
    generalize tbl (allF c q (q.length + 1)) w = t at *
    unfold co at ct ⊢
    refine Sound.run (N := 24) Tryz.func10 rfl (by kernel_rfl) rfl rfl rfl (by first | exact args0_0 | exact args0_1 | exact args0_2 | exact args0_3 | exact args0_4 | exact args0_5 | exact args0_6) fun X_ w_ => ?_
    have c0_ := ct; refine goX @hl ?_; first | exact trivial | skip
  · have ct := pTableN hc hq hw h
    have e : ofD c q w = 18446744073709551615 := if_neg h
    rw [e]
    unfold co at ct ⊢
    refine Sound.run (N := 24) Tryz.func10 rfl (by kernel_rfl) rfl rfl rfl (by first | exact args0_0 | exact args0_1 | exact args0_2 | exact args0_3 | exact args0_4 | exact args0_5 | exact args0_6) fun X_ w_ => ?_
    have c0_ := ct; refine goT ?_; first | exact trivial | skip
def fewD (c : Co) (q w : List Int) : Bool := fewR c.rules 300 && decide ((q.length : Int) ≤ 100) && decide ((w.length : Int) ≤ 100)
theorem fewD_iff {c : Co} {q w : List Int} : fewD c q w = true ↔ fewR c.rules 300 = true ∧ q.length ≤ 100 ∧ w.length ≤ 100 := by simp only [fewD, Bool.and_eq_true, decide_eq_true_eq]; constructor <;> rintro h <;> refine ⟨?_, ?_⟩ <;> first | omega | (refine ⟨?_, ?_⟩; exact h.1; omega) | (exact h.1.1) | (constructor <;> omega)
def cD1 : Co := ⟨1, 1, 1, 1, []⟩
def cD9 : Co := ⟨9, 9, 9, 9, [⟨[102], [112, 104], 2⟩]⟩
theorem ok_D1 : cD1.ok := by unfold Co.ok cD1 U Ru.ok; decide
theorem ok_D9 : cD9.ok := by unfold Co.ok cD9 U Ru.ok; decide
def cDI : Co := ⟨18446744073709551615, 0, 0, 0, []⟩
theorem ok_DI : cDI.ok := by unfold Co.ok cDI U Ru.ok; decide
theorem tab_D1 : tableD cD1 [97, 98] [98, 97] = [[0, 1, 2], [1, 1, 1], [2, 1, 1]] := by decide +kernel
theorem of_D9 : ofD cD9 [102, 97] [112, 104, 97] = 2 := by decide +kernel
theorem of_I : ofD cDI [] [] = 18446744073709551615 := by decide +kernel
theorem of_D1 : ofD cD1 [] [] = 0 := by decide +kernel
end Go.Eng.Tryz

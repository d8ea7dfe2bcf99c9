/- What it costs to finish: the table. (and what stands behind it: texts laid together) -/
import Derived.Test.YtbnhblimckdcgabGreatMG4
import Derived.Test.YtbnhblimckdcgabGreatMR12
import Derived.Test.YtbnhblimckdcgabGreatMR11
set_option linter.unusedVariables false
set_option linter.unusedSimpArgs false
namespace Go.Eng.Tryz
open Go Go.Eng Go.Proofs Go.RowKit
attribute [local go_sem] tys
attribute [local go_sem] is_len is_get ses_len ses_get sss_len sss_get ars_len ars_get stas_len stas_get tt_len tt_getD tt_get tt_set us_set rep_us TU
theorem nilAt_rep0 {n : Nat} : (List.replicate n D.nils).all TU.nilAt = true := nilAt_rep
theorem ini_rep0 {n : Nat} : (List.replicate n D.nils).map TU.ini = tt (List.replicate n []) := by simp [Tb.ini, TU, D.put, tt, us]
def mayG (c : Co) (q : List Int) (l : List Sta) : Bool := may c q && achk l
/-- What the table tells. -/
def tableG (c : Co) (q : List Int) (l : List Sta) : List (List Int) := if mayG c q l = true then tg (allF c q (q.length + 1)) l else []
set_option maxHeartbeats 16000000 in
set_option maxRecDepth 10000 in
theorem pTG1 {c : Co} {q : List Int} {l : List Sta} (hc : c.ok) (hm : may c q = true) (hl : StaOk l) (hchk : achk l = true) : Sound Tryz.prog 11 [co c, .sl 1 (is q), .sl 2 (stas l)] (.sl 1 (tt (tg (allF c q (q.length + 1)) l))) := by
  obtain ⟨hq, hk⟩ := may_iff.1 hm
  have ca := pAll (q := q) hc (by omega)
  have eA : stepsAll c q = allF c q (q.length + 1) := if_pos hm
  rw [eA] at ca
  have cch := pCheckA hl
  rw [hchk] at cch
  have hS := tg_steps hc hk q
  have hput : ∀ i, i < q.length + 1 → ∀ s ∈ (allF c q (q.length + 1))[i]!, s.put.length ≤ 8 := fun i hi s hs => by
    rw [allF_get c q hi] at hs
    exact (stAt_ok hc hk hs).2.2.2.1
  have hlen := allF_len c q (q.length + 1)
  have hllen := achk_iff.1 hchk
  obtain ⟨A0, A1, hA⟩ : ∃ A0 A1, allF c q (q.length + 1) = A0 :: A1 := by
    cases h : allF c q (q.length + 1) with
    | nil => rw [h] at hlen; simp at hlen
    | cons a b => exact ⟨a, b, rfl⟩
  have eN : sss (allF c q (q.length + 1)) = .sl 4 (ses A0) :: sss A1 := by rw [hA]; rfl
  have hL : A1.length + 1 = (allF c q (q.length + 1)).length := by rw [hA]; simp
  have hsl : ∀ i, i < q.length + 1 → ((allF c q (q.length + 1))[i]!).length ≤ 1000 := fun i hi => by
    obtain ⟨k1, k2⟩ := cok_rules hk
    rw [allF_get c q hi]
    have h1 := st3_len c (q.drop i)
    have h2 := st4_len (q.drop i) c.rules
    unfold stAt
    simp only [List.length_append]
    omega
  generalize hall : allF c q (q.length + 1) = all at *
  have h0 : 0 < all.length := by omega
  unfold co at ca ⊢
  refine Sound.run (N := 90) Tryz.func11 rfl (by kernel_rfl) rfl rfl rfl (by first | exact args0_0 | exact args0_1 | exact args0_2 | exact args0_3 | exact args0_4 | exact args0_5 | exact args0_6) fun X_ w_ => ?_
  have c0_ := ca; have c1_ := cch; repeat ((fail_if_success (with_reducible show WP _ _ (.region 5 _ _) _ _)); first | with_reducible exact Ev.nil | with_reducible exact gd_n | ((with_reducible apply lk_ok); rfl) | ((with_reducible apply gslot_ok); rfl) | ((with_reducible apply v2d_ok); rfl) | with_reducible apply then_n | with_reducible apply WP_seq | with_reducible apply WP_skip | ((with_reducible apply WP_r (N := 90) rfl rfl); (focus simp only [Nat.reduceAdd] <;> rfl)) | ((with_reducible apply WP_d (N := 90) mixed rfl rfl); (focus simp only [Nat.reduceAdd] <;> rfl)) | ((with_reducible apply Ev_s); (focus first | (apply gd_u; (focus rfl); rfl) | (apply gd_f; (focus rfl); (focus rfl); rfl))) | ((with_reducible apply Ev_sn); (focus first | (apply gd_u; (focus rfl); rfl) | (apply gd_f; (focus rfl); (focus rfl); rfl))) | with_reducible apply gd_t | with_reducible apply Ev_mv | with_reducible apply Ev_as | with_reducible apply Ev_mc | with_reducible apply Ev_ac | ((first | (with_reducible apply Ev_pt) | (with_reducible apply Ev_ptc)); (focus rfl)) | ((first | (with_reducible apply Ev_pf) | (with_reducible apply Ev_pfc)); (focus rfl)) | (apply Ev_cf; (focus simp (disch := omega) only [go_sem, eN, hL] <;> rfl); (focus first | exact c0_ | exact c1_); (focus rfl); (focus first | (simp (disch := omega) only [go_sem, eN, hL] <;> rfl) | rfl)) | ((with_reducible apply Ev_d); (focus simp only [Nat.reduceAdd] <;> rfl); (focus simp (disch := omega) only [go_sem, eN, hL] <;> rfl)) | (apply Ev_cv; (focus rfl); (focus simp (disch := omega) only [go_sem, eN, hL] <;> rfl); (focus first | exact c0_ | exact c1_); (iterate 3 (focus first | (simp (disch := omega) only [go_sem, eN, hL] <;> rfl) | rfl))) | ((first | apply Ev_cmd | apply Ev_cmn); (focus simp only [Nat.reduceAdd] <;> rfl); (focus rfl); (iterate 2 (focus simp (disch := omega) only [go_sem, eN, hL] <;> rfl)); (first | ((focus first | exact c0_ | exact c1_); (iterate 2 (focus first | (simp (disch := omega) only [go_sem, eN, hL] <;> rfl) | rfl)); (focus rfl); (iterate 3 (focus first | (simp (disch := omega) only [go_sem, eN, hL] <;> rfl) | rfl))))) | ((first | (with_reducible apply Ev_od) | (with_reducible apply Ev_on)); (focus simp only [Nat.reduceAdd] <;> rfl); (focus simp (disch := omega) only [go_sem, eN, hL] <;> rfl); (focus first | (simp (disch := omega) only [go_sem, eN, hL] <;> rfl) | rfl)) | with_reducible apply endM_n | with_reducible apply endM_r | with_reducible apply then_r | with_reducible apply then_x | with_reducible apply block_n | with_reducible apply block_r | with_reducible apply block_x | with_reducible apply block_y rfl | with_reducible apply scope_n | with_reducible apply scope_r | with_reducible apply scope_x | with_reducible apply end_n | with_reducible apply end_r | with_reducible apply WP_block | with_reducible apply WP_exit | with_reducible apply WP_ret | with_reducible apply WP_label | with_reducible apply WP_scope | ((with_reducible apply WP_t); (focus first | (simp (disch := omega) only [go_sem, eN, hL] <;> rfl) | rfl)) | ((with_reducible apply WP_f); (focus first | (simp (disch := omega) only [go_sem, eN, hL] <;> rfl) | rfl)) | ((with_reducible apply resD_t); (focus rfl)) | ((with_reducible apply resD_2); (focus rfl); (focus rfl)) | (with_reducible rfl) | ((with_reducible show List.map outKeys _ = _); simp only [List.map_cons, List.map_nil, outKeys, keys]; rfl) | ((with_reducible show orderOk _ _ = true); kernel_rfl) | ((with_reducible show _ = _); simp (disch := omega) only [go_sem, eN, hL] <;> rfl) | ((fail_if_success (with_reducible show Ev _ _ _ _ (_ :: _) _ _ _ _ _)); (show Ev _ _ _ _ (_ :: _) _ _ _ _ _)) | fail)
  refine WP_tabv 3003 0 20000 TU rfl rfl rfl (by simp) rfl rfl (by decide) nilAt_rep0 (Nat.le_of_ble_eq_true rfl) ini_rep0 rfl ?_
  refine goX @hL ?_; first | exact trivial | skip
  refine WP_loopk (fun k : Nat => k ≤ all.length) (fun k => [(1, .d (.sl 1 (is q))), (2, .d (.sl 2 (stas l))), (7, .d (.sl 1 (sss all))), (8, .ref 3003 0), (30, .d (.int .i64 all.length)), (31, .d (.int .i64 k))]) (fun k => [(3003, .var [.tab 20000 all.length]), (20000, .tab TU (tt (tgI all l k)) none)]) 20001 (fun k => all.length - k) [1, 2, 7, 8, 30, 31] [3003, 20000] 0 (Nat.zero_le _) (by rw [eN]; rfl) rfl (Nat.zero_le _) (fun _ _ => rfl) (fun _ _ => rfl) fun k hk' => ?_
  obtain ⟨i1, i2, i3, i4⟩ := tgI_done hS hchk k hk'
  have hst1 := tgI_step all l k
  by_cases hk2 : k < all.length
  · obtain ⟨i, hi⟩ : ∃ i, i = all.length - 1 - k := ⟨_, rfl⟩
    have ei : (q.length : Int) - (k : Int) = (i : Int) := by omega
    have hia : i < all.length := by omega
    rw [← hi] at hst1
    have hni : (tgI all l k)[i]! = [] := i3 i (by omega)
    have f0 : (tgI all l k).length = all.length := i1
    have hll0 : 0 < l.length := hllen.2.1
    repeat (first | with_reducible exact Ev.nil | with_reducible exact gd_n | ((with_reducible apply lk_ok); rfl) | ((with_reducible apply gslot_ok); rfl) | ((with_reducible apply v2d_ok); rfl) | with_reducible apply then_n | with_reducible apply WP_seq | with_reducible apply WP_skip | ((with_reducible apply WP_r (N := 90) rfl rfl); (focus simp only [Nat.reduceAdd] <;> rfl)) | ((with_reducible apply WP_d (N := 90) mixed rfl rfl); (focus simp only [Nat.reduceAdd] <;> rfl)) | ((with_reducible apply Ev_s); (focus first | (apply gd_u; (focus rfl); rfl) | (apply gd_f; (focus rfl); (focus rfl); rfl))) | ((with_reducible apply Ev_sn); (focus first | (apply gd_u; (focus rfl); rfl) | (apply gd_f; (focus rfl); (focus rfl); rfl))) | with_reducible apply gd_t | with_reducible apply Ev_mv | with_reducible apply Ev_as | with_reducible apply Ev_mc | with_reducible apply Ev_ac | ((first | (with_reducible apply Ev_pt) | (with_reducible apply Ev_ptc)); (focus rfl)) | ((first | (with_reducible apply Ev_pf) | (with_reducible apply Ev_pfc)); (focus rfl)) | ((with_reducible apply Ev_d); (focus simp only [Nat.reduceAdd] <;> rfl); (focus simp (disch := omega) only [go_sem, ei, f0, hni, us_len, List.length_replicate] <;> rfl)) | ((first | (with_reducible apply Ev_od) | (with_reducible apply Ev_on)); (focus simp only [Nat.reduceAdd] <;> rfl); (focus simp (disch := omega) only [go_sem, ei, f0, hni, us_len, List.length_replicate] <;> rfl); (focus first | (simp (disch := omega) only [go_sem, ei, f0, hni, us_len, List.length_replicate] <;> rfl) | rfl)) | with_reducible apply endM_n | with_reducible apply endM_r | with_reducible apply then_r | with_reducible apply then_x | with_reducible apply block_n | with_reducible apply block_r | with_reducible apply block_x | with_reducible apply block_y rfl | with_reducible apply scope_n | with_reducible apply scope_r | with_reducible apply scope_x | with_reducible apply end_n | with_reducible apply end_r | with_reducible apply WP_block | with_reducible apply WP_exit | with_reducible apply WP_ret | with_reducible apply WP_label | with_reducible apply WP_scope | ((with_reducible apply WP_t); (focus first | (simp (disch := omega) only [go_sem, ei, f0, hni, us_len, List.length_replicate] <;> rfl) | rfl)) | ((with_reducible apply WP_f); (focus first | (simp (disch := omega) only [go_sem, ei, f0, hni, us_len, List.length_replicate] <;> rfl) | rfl)) | ((with_reducible apply resD_t); (focus rfl)) | ((with_reducible apply resD_2); (focus rfl); (focus rfl)) | (with_reducible rfl) | ((with_reducible show List.map outKeys _ = _); simp only [List.map_cons, List.map_nil, outKeys, keys]; rfl) | ((with_reducible show orderOk _ _ = true); kernel_rfl) | ((with_reducible show _ = _); simp (disch := omega) only [go_sem, ei, f0, hni, us_len, List.length_replicate] <;> rfl) | ((fail_if_success (with_reducible show Ev _ _ _ _ (_ :: _) _ _ _ _ _)); (show Ev _ _ _ _ (_ :: _) _ _ _ _ _)) | fail)
    refine WP_loopk (fun m : Nat => m ≤ l.length) (fun m => [(1, .d (.sl 1 (is q))), (2, .d (.sl 2 (stas l))), (7, .d (.sl 1 (sss all))), (8, .ref 3003 0), (30, .d (.int .i64 all.length)), (31, .d (.int .i64 k)), (10, .ref 22005 0), (45, .d (.int .i64 l.length)), (46, .d (.int .i64 m))]) (fun m => [(3003, .var [.tab 20000 all.length]), (20000, .tab TU (tt (tgM all l i ((tgI all l k).set i (List.replicate l.length 0)) m)) none), (22005, .var [.d (.int .i64 i)])]) 30000 (fun m => l.length - m) [1, 2, 7, 8, 30, 31, 10, 45, 46] [3003, 20000, 22005] 0 (Nat.zero_le _) rfl rfl (Nat.zero_le _) (fun _ _ => rfl) (fun _ _ => rfl) fun m hm' => ?_
    generalize hT0 : (tgI all l k).set i (List.replicate l.length 0) = T0 at hst1 ⊢
    have hget : ∀ a, T0[a]! = if a = i then List.replicate l.length 0 else (tgI all l k)[a]! := fun a => by rw [← hT0]; exact getB_set (by omega)
    have hg2 : ∀ a b, a ≠ i → get2 T0 a b = get2 (tgI all l k) a b := fun a b h => by unfold get2; rw [hget, if_neg h]
    obtain ⟨j1, j2, j3, j4⟩ := tgM_done (t := T0) hS hchk hia (by rw [← hT0]; simp [i1]) (by rw [hget, if_pos rfl]; simp) (fun a h1 h2 => by rw [hget, if_neg (by omega)]; exact i2 a (by omega) h2)
      (fun a b h1 h2 h3 => by
        have hf := i4 a b (by omega) h2 h3
        unfold Fix at hf ⊢
        rw [hg2 a b (by omega), cell_congr fun s hs e he => by
          obtain ⟨q1, q2, q3⟩ := behind (t := tgI all l k) hS hchk h2 h3 hs he
          exact hg2 _ _ (by omega)]
        exact hf) m hm'
    have hst2 := tgM_step all l i T0 m
    by_cases hm2 : m < l.length
    · obtain ⟨x, hx⟩ : ∃ x, x = l.length - 1 - m := ⟨_, rfl⟩
      have ex : (l.length : Int) - 1 - (m : Int) = (x : Int) := by omega
      have hxl : x < l.length := by omega
      rw [← hx] at hst2
      generalize hT : tgM all l i T0 m = T at *
      have hTi := j2 i (Nat.le_refl _) hia
      have hbase : ∀ (b : Int), base all.length l i x = b → b = 0 ∨ b = 18446744073709551615 := fun b hb => by rw [← hb]; unfold base; split <;> simp
      have hlim := hsl i (by omega)
      by_cases hbb : i + 1 = all.length ∧ (l[x]!).final = true
      · have eb : base all.length l i x = 0 := if_pos hbb
        have eiq : (i : Int) = (q.length : Int) := by omega
        obtain ⟨hb1, hb2⟩ := hbb
        refine goX (And.intro @ex @hb2) ?_; first | exact trivial | skip
        refine WP_loopk (fun j : Nat => j ≤ (all[i]!).length) (fun j => [(1, .d (.sl 1 (is q))), (2, .d (.sl 2 (stas l))), (7, .d (.sl 1 (sss all))), (8, .ref 3003 0), (30, .d (.int .i64 all.length)), (31, .d (.int .i64 k)), (10, .ref 22005 0), (45, .d (.int .i64 l.length)), (46, .d (.int .i64 m)), (12, .d (.int .i64 x)), (13, .ref 33000 0), (68, .d (.sl 4 (ses (all[i]!)))), (69, .d (.int .i64 (all[i]!).length)), (70, .d (.int .i64 j))]) (fun j => [(3003, .var [.tab 20000 all.length]), (20000, .tab TU (tt T) none), (22005, .var [.d (.int .i64 i)]), (33000, .var [.d (.int .u64 (((all[i]!).take j).foldl (stK l T i x) (base all.length l i x)))])]) 40000 (fun j => (all[i]!).length - j) [1, 2, 7, 8, 30, 31, 10, 45, 46, 12, 13, 68, 69, 70] [3003, 20000, 22005, 33000] 0 (Nat.zero_le _) rfl (by rw [eb]; rfl) (Nat.zero_le _) (fun _ _ => rfl) (fun _ _ => rfl) fun j hj => ?_
        have hvU : ∀ s ∈ all[i]!, ∀ e ∈ endsF s l x, U (get2 T (i + s.eat.toNat) e.toNat) := fun s hs e he => by
          obtain ⟨q1, q2, q3⟩ := behind (t := T) hS hchk hia hxl hs he
          rcases q3 with q3 | ⟨q3, q4⟩
          · exact (j3 _ _ q3 q1 q2).2
          · rw [q3]; exact (j4 _ (by omega) q2).2
        have hmU : U (((all[i]!).take j).foldl (stK l T i x) (base all.length l i x)) := by
          have : ∀ (ss : List Se) (b : Int), U b → (∀ s ∈ ss, s ∈ all[i]!) → U (ss.foldl (stK l T i x) b) := by
            intro ss
            induction ss with
            | nil => intro b hb _; exact hb
            | cons s ss ih =>
              intro b hb he
              simp only [List.foldl_cons]
              exact ih _ (ends_fold (hS i hia s (he s (by simp))).2.2.1 _ _ hb fun e hee => hvU s (he s (by simp)) e hee) fun y hy => he y (by simp [hy])
          exact this _ _ (by rw [eb]; exact ⟨by decide, by decide⟩) fun s hs => List.mem_of_mem_take hs
        by_cases hj2 : j < (all[i]!).length
        · have hmem : (all[i]!)[j]! ∈ all[i]! := by rw [getElem!_pos (all[i]!) j hj2]; exact List.getElem_mem _
          obtain ⟨s1, s2, s3, s4⟩ := hS i hia _ hmem
          have s5 := hput i (by omega) _ hmem
          have hrowS := j2 (i + ((all[i]!)[j]!).eat.toNat) (by omega) s2
          have ce := pEnds (m := ((all[i]!).take j).foldl (stK l T i x) (base all.length l i x)) (s := (all[i]!)[j]!) (n := all.length) (i := i) (k := x) (t := T) hl hchk hxl j1 s2 s1 hrowS (by omega) (by omega) hmU s3 (hvU _ hmem)
          have hst3 := foldl_take (stK l T i x) (base all.length l i x) hj2
          unfold se Cl at ce
          have c0_ := ce; refine goT ?_; first | exact trivial | skip
          refine ⟨j + 1, by omega, ?_, ?_, by omega⟩
          · simp (disch := omega) only [go_sem, keepL, Int.natCast_add, Int.cast_ofNat_Int]
          · simp (disch := omega) only [go_sem, keepL, hst3]
        · have hje : j = (all[i]!).length := by omega
          subst hje
          rw [List.take_length] at hmU ⊢
          have eC : (all[i]!).foldl (stK l T i x) (base all.length l i x) = cellT all l T i x := rfl
          rw [eC] at hmU ⊢
          generalize hv : cellT all l T i x = v at *
          have hx2 : set2 T i x v = T.set i ((T[i]!).set x v) := rfl
          rw [hx2] at hst2
          refine goX (And.intro @j1 (And.intro @hTi @us_len)) ?_; first | exact trivial | skip
          refine ⟨m + 1, by omega, ?_, ?_, by omega⟩
          · simp (disch := omega) only [go_sem, keepL, Int.natCast_add, Int.cast_ofNat_Int]
          · simp (disch := omega) only [go_sem, keepL, hst2]
      · have eb : base all.length l i x = 18446744073709551615 := if_neg hbb
        by_cases hiq : i + 1 = all.length
        · have hb2 : (l[x]!).final = false := by
            cases h : (l[x]!).final with
            | false => rfl
            | true => exact absurd ⟨hiq, h⟩ hbb
          have eiq : (i : Int) = (q.length : Int) := by omega
          refine goX (And.intro @ex @hb2) ?_; first | exact trivial | skip
          refine WP_loopk (fun j : Nat => j ≤ (all[i]!).length) (fun j => [(1, .d (.sl 1 (is q))), (2, .d (.sl 2 (stas l))), (7, .d (.sl 1 (sss all))), (8, .ref 3003 0), (30, .d (.int .i64 all.length)), (31, .d (.int .i64 k)), (10, .ref 22005 0), (45, .d (.int .i64 l.length)), (46, .d (.int .i64 m)), (12, .d (.int .i64 x)), (13, .ref 33000 0), (68, .d (.sl 4 (ses (all[i]!)))), (69, .d (.int .i64 (all[i]!).length)), (70, .d (.int .i64 j))]) (fun j => [(3003, .var [.tab 20000 all.length]), (20000, .tab TU (tt T) none), (22005, .var [.d (.int .i64 i)]), (33000, .var [.d (.int .u64 (((all[i]!).take j).foldl (stK l T i x) (base all.length l i x)))])]) 40000 (fun j => (all[i]!).length - j) [1, 2, 7, 8, 30, 31, 10, 45, 46, 12, 13, 68, 69, 70] [3003, 20000, 22005, 33000] 0 (Nat.zero_le _) rfl (by rw [eb]; rfl) (Nat.zero_le _) (fun _ _ => rfl) (fun _ _ => rfl) fun j hj => ?_
          have hvU : ∀ s ∈ all[i]!, ∀ e ∈ endsF s l x, U (get2 T (i + s.eat.toNat) e.toNat) := fun s hs e he => by
            obtain ⟨q1, q2, q3⟩ := behind (t := T) hS hchk hia hxl hs he
            rcases q3 with q3 | ⟨q3, q4⟩
            · exact (j3 _ _ q3 q1 q2).2
            · rw [q3]; exact (j4 _ (by omega) q2).2
          have hmU : U (((all[i]!).take j).foldl (stK l T i x) (base all.length l i x)) := by
            have : ∀ (ss : List Se) (b : Int), U b → (∀ s ∈ ss, s ∈ all[i]!) → U (ss.foldl (stK l T i x) b) := by
              intro ss
              induction ss with
              | nil => intro b hb _; exact hb
              | cons s ss ih =>
                intro b hb he
                simp only [List.foldl_cons]
                exact ih _ (ends_fold (hS i hia s (he s (by simp))).2.2.1 _ _ hb fun e hee => hvU s (he s (by simp)) e hee) fun y hy => he y (by simp [hy])
            exact this _ _ (by rw [eb]; exact ⟨by decide, by decide⟩) fun s hs => List.mem_of_mem_take hs
          by_cases hj2 : j < (all[i]!).length
          · have hmem : (all[i]!)[j]! ∈ all[i]! := by rw [getElem!_pos (all[i]!) j hj2]; exact List.getElem_mem _
            obtain ⟨s1, s2, s3, s4⟩ := hS i hia _ hmem
            have s5 := hput i (by omega) _ hmem
            have hrowS := j2 (i + ((all[i]!)[j]!).eat.toNat) (by omega) s2
            have ce := pEnds (m := ((all[i]!).take j).foldl (stK l T i x) (base all.length l i x)) (s := (all[i]!)[j]!) (n := all.length) (i := i) (k := x) (t := T) hl hchk hxl j1 s2 s1 hrowS (by omega) (by omega) hmU s3 (hvU _ hmem)
            have hst3 := foldl_take (stK l T i x) (base all.length l i x) hj2
            unfold se Cl at ce
            have c0_ := ce; refine goT ?_; first | exact trivial | skip
            refine ⟨j + 1, by omega, ?_, ?_, by omega⟩
            · simp (disch := omega) only [go_sem, keepL, Int.natCast_add, Int.cast_ofNat_Int]
            · simp (disch := omega) only [go_sem, keepL, hst3]
          · have hje : j = (all[i]!).length := by omega
            subst hje
            rw [List.take_length] at hmU ⊢
            have eC : (all[i]!).foldl (stK l T i x) (base all.length l i x) = cellT all l T i x := rfl
            rw [eC] at hmU ⊢
            generalize hv : cellT all l T i x = v at *
            have hx2 : set2 T i x v = T.set i ((T[i]!).set x v) := rfl
            rw [hx2] at hst2
            refine goX (And.intro @j1 (And.intro @hTi @us_len)) ?_; first | exact trivial | skip
            refine ⟨m + 1, by omega, ?_, ?_, by omega⟩
            · simp (disch := omega) only [go_sem, keepL, Int.natCast_add, Int.cast_ofNat_Int]
            · simp (disch := omega) only [go_sem, keepL, hst2]
        · have eiq : ¬ (i : Int) = (q.length : Int) := by omega
          refine goX (And.intro @ex @eiq) ?_; first | exact trivial | skip
          refine WP_loopk (fun j : Nat => j ≤ (all[i]!).length) (fun j => [(1, .d (.sl 1 (is q))), (2, .d (.sl 2 (stas l))), (7, .d (.sl 1 (sss all))), (8, .ref 3003 0), (30, .d (.int .i64 all.length)), (31, .d (.int .i64 k)), (10, .ref 22005 0), (45, .d (.int .i64 l.length)), (46, .d (.int .i64 m)), (12, .d (.int .i64 x)), (13, .ref 33000 0), (68, .d (.sl 4 (ses (all[i]!)))), (69, .d (.int .i64 (all[i]!).length)), (70, .d (.int .i64 j))]) (fun j => [(3003, .var [.tab 20000 all.length]), (20000, .tab TU (tt T) none), (22005, .var [.d (.int .i64 i)]), (33000, .var [.d (.int .u64 (((all[i]!).take j).foldl (stK l T i x) (base all.length l i x)))])]) 40000 (fun j => (all[i]!).length - j) [1, 2, 7, 8, 30, 31, 10, 45, 46, 12, 13, 68, 69, 70] [3003, 20000, 22005, 33000] 0 (Nat.zero_le _) rfl (by rw [eb]; rfl) (Nat.zero_le _) (fun _ _ => rfl) (fun _ _ => rfl) fun j hj => ?_
          have hvU : ∀ s ∈ all[i]!, ∀ e ∈ endsF s l x, U (get2 T (i + s.eat.toNat) e.toNat) := fun s hs e he => by
            obtain ⟨q1, q2, q3⟩ := behind (t := T) hS hchk hia hxl hs he
            rcases q3 with q3 | ⟨q3, q4⟩
            · exact (j3 _ _ q3 q1 q2).2
            · rw [q3]; exact (j4 _ (by omega) q2).2
          have hmU : U (((all[i]!).take j).foldl (stK l T i x) (base all.length l i x)) := by
            have : ∀ (ss : List Se) (b : Int), U b → (∀ s ∈ ss, s ∈ all[i]!) → U (ss.foldl (stK l T i x) b) := by
              intro ss
              induction ss with
              | nil => intro b hb _; exact hb
              | cons s ss ih =>
                intro b hb he
                simp only [List.foldl_cons]
                exact ih _ (ends_fold (hS i hia s (he s (by simp))).2.2.1 _ _ hb fun e hee => hvU s (he s (by simp)) e hee) fun y hy => he y (by simp [hy])
            exact this _ _ (by rw [eb]; exact ⟨by decide, by decide⟩) fun s hs => List.mem_of_mem_take hs
          by_cases hj2 : j < (all[i]!).length
          · have hmem : (all[i]!)[j]! ∈ all[i]! := by rw [getElem!_pos (all[i]!) j hj2]; exact List.getElem_mem _
            obtain ⟨s1, s2, s3, s4⟩ := hS i hia _ hmem
            have s5 := hput i (by omega) _ hmem
            have hrowS := j2 (i + ((all[i]!)[j]!).eat.toNat) (by omega) s2
            have ce := pEnds (m := ((all[i]!).take j).foldl (stK l T i x) (base all.length l i x)) (s := (all[i]!)[j]!) (n := all.length) (i := i) (k := x) (t := T) hl hchk hxl j1 s2 s1 hrowS (by omega) (by omega) hmU s3 (hvU _ hmem)
            have hst3 := foldl_take (stK l T i x) (base all.length l i x) hj2
            unfold se Cl at ce
            have c0_ := ce; refine goT ?_; first | exact trivial | skip
            refine ⟨j + 1, by omega, ?_, ?_, by omega⟩
            · simp (disch := omega) only [go_sem, keepL, Int.natCast_add, Int.cast_ofNat_Int]
            · simp (disch := omega) only [go_sem, keepL, hst3]
          · have hje : j = (all[i]!).length := by omega
            subst hje
            rw [List.take_length] at hmU ⊢
            have eC : (all[i]!).foldl (stK l T i x) (base all.length l i x) = cellT all l T i x := rfl
            rw [eC] at hmU ⊢
            generalize hv : cellT all l T i x = v at *
            have hx2 : set2 T i x v = T.set i ((T[i]!).set x v) := rfl
            rw [hx2] at hst2
            refine goX (And.intro @j1 (And.intro @hTi @us_len)) ?_; first | exact trivial | skip
            refine ⟨m + 1, by omega, ?_, ?_, by omega⟩
            · simp (disch := omega) only [go_sem, keepL, Int.natCast_add, Int.cast_ofNat_Int]
            · simp (disch := omega) only [go_sem, keepL, hst2]
    · have hml : m = l.length := by omega
      subst hml
      refine goT ?_; first | exact trivial | skip
      refine ⟨k + 1, by omega, ?_, ?_, by omega⟩
      · simp (disch := omega) only [go_sem, keepL, Int.natCast_add, Int.cast_ofNat_Int]
      · simp (disch := omega) only [go_sem, keepL, hst1]
  have hka : k = all.length := by omega
  subst hka
  refine goX @i1 ?_; first | exact trivial | skip
end Go.Eng.Tryz
set_option linter.unusedVariables false
set_option linter.unusedSimpArgs false
namespace Go.Eng.Tryz
open Go Go.Eng Go.Proofs Go.RowKit
attribute [local go_sem] tys
attribute [local go_sem] is_len is_get ars_len ars_get stas_len stas_get
def fewA (l : List Sta) (n : Nat) : Bool := (l.all fun s => decide (s.arcs.length ≤ 100)) && decide (l.length ≤ n)
theorem fewA_iff {l : List Sta} {n : Nat} : fewA l n = true ↔ (∀ k, k < l.length → (l[k]!).arcs.length ≤ 100) ∧ l.length ≤ n := by
  unfold fewA
  rw [Bool.and_eq_true, List.all_eq_true, decide_eq_true_eq]
  refine and_congr ⟨fun h k hk => ?_, fun h s hs => ?_⟩ Iff.rfl
  · rw [getElem!_pos l k hk]; exact of_decide_eq_true (h _ (List.getElem_mem hk))
  · obtain ⟨k, hk, rfl⟩ := List.getElem_of_mem hs
    have := h k hk
    rw [getElem!_pos l k hk] at this
    exact decide_eq_true this
set_option maxHeartbeats 4000000 in
set_option maxRecDepth 10000 in
theorem pFewA {l : List Sta} {n : Nat} (hl : StaOk l) (hn : n ≤ 1000000) : Sound Tryz.prog 14 [.sl 2 (stas l), .int .i64 n] (.bool (fewA l n)) := by
  have hlen := hl.1
  refine Sound.run (N := 23) Tryz.func14 rfl (by kernel_rfl) rfl rfl rfl (by first | exact args0_0 | exact args0_1 | exact args0_2 | exact args0_3 | exact args0_4 | exact args0_5 | exact args0_6) fun X_ w_ => ?_
  refine goT ?_; first | exact trivial | skip
  refine WP_loopk (fun k : Nat => k ≤ l.length ∧ ∀ j, j < k → (l[j]!).arcs.length ≤ 100) (fun k => [(0, .d (.sl 2 (stas l))), (1, .d (.int .i64 n)), (5, .d (.int .i64 k))]) (fun _ => []) 0 (fun k => l.length - k) [0, 1, 5] [] 0 ⟨Nat.zero_le _, fun j h => by omega⟩ rfl rfl (Nat.le_refl _) (fun _ _ => rfl) (fun _ _ => rfl) fun k hk => ?_
  obtain ⟨hk1, hk2⟩ := hk
  by_cases hk : k < l.length
  · have ha := hl.get hk
    by_cases h1 : 100 < (l[k]!).arcs.length
    · have e : fewA l n = false := by
        cases h : fewA l n with
        | false => rfl
        | true => have := (fewA_iff.1 h).1 k hk; omega
      refine goX @e ?_; first | exact trivial | skip
    · refine goT ?_; first | exact trivial | skip
      refine ⟨k + 1, ⟨by omega, fun j hj => ?_⟩, ?_, rfl, by omega⟩
      · by_cases e : j = k
        · subst e; omega
        · exact hk2 j (by omega)
      · simp (disch := omega) only [go_sem, keepL, Int.natCast_add, Int.cast_ofNat_Int]
  · have hkl : k = l.length := by omega
    subst hkl
    have e : fewA l n = decide ((l.length : Int) ≤ n) := by
      by_cases h2 : l.length ≤ n
      · rw [fewA_iff.2 ⟨hk2, h2⟩, decide_eq_true (by omega)]
      · cases h : fewA l n with
        | false => rw [decide_eq_false (by omega)]
        | true => have := (fewA_iff.1 h).2; omega
    rw [e]
    refine goT ?_; first | exact trivial | skip
end Go.Eng.Tryz

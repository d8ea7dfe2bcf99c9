/- The words behind a state, as the law tells them. (and what stands behind it: texts laid together) -/
import Derived.Test.YtbnhblimckdcgaaMG4
import Derived.Test.YtbnhblimckdcgaaMR11
set_option linter.unusedVariables false
set_option linter.unusedSimpArgs false
namespace Go.Eng.Try
open Go Go.Eng Go.Proofs Go.RowKit
attribute [local go_sem] tys
attribute [local go_sem] is_len is_get ars_len ars_get stas_len stas_get iss_len iss_get dels
theorem is_snoc {l : List Int} {z : Int} : is l ++ [.int .i64 z] = is (l ++ [z]) := by simp [is]
theorem is_takeW {l : List Int} {k : Nat} : (is l).take k = is (l.take k) := by simp [is, List.map_take]
theorem iss_app {a b : List (List Int)} : iss a ++ iss b = iss (a ++ b) := by simp [iss]
theorem iss_one {w : List Int} : [D.sl 1 (is w)] = iss [w] := rfl
theorem beh_step {A : List (List Int)} {al : List Ar} {G : Ar → List (List Int)} {m j : Nat} (h : j < al.length) : (A ++ (al.take (j + 1)).flatMap G).take m = (A ++ (al.take j).flatMap G).take m ++ (G (al[j]!)).take (m - ((A ++ (al.take j).flatMap G).take m).length) := by
  rw [atake_snoc h, List.flatMap_append, ← List.append_assoc, List.take_append]
  congr 1
  simp only [List.flatMap_cons, List.flatMap_nil, List.append_nil, List.length_take]
  congr 1
  omega
set_option maxHeartbeats 16000000 in
set_option maxRecDepth 10000 in
theorem pBehind {l : List Sta} {f : List Int} (hl : StaOk l) (hka : achk l = true) (hf : f.length ≤ 9223372036854775807) : ∀ (n k : Nat) (w : List Int) (m : Nat), k < l.length → l.length ≤ n + k → w.length ≤ k → m ≤ 300 →
    Sound Try.prog 56 [.sl 2 (stas l), .sl 1 (is (toldI manyF l l.length)), .int .i64 k, .sl 1 (is w), .sl 1 (is f), .int .i64 m] (.sl 1 (iss ((wf l f n k w).take m))) := by
  have hlo := toldI_len manyF l l.length
  have hL := (achk_iff.1 hka).2.2
  intro n
  induction n with
  | zero => intro k w m h1 h2; omega
  | succ n ih =>
  intro k w m hk hn hw hm
  have hak := hl.get hk
  have hin := get_in (P := fun z => 0 ≤ z ∧ z ≤ 301) (manyI_in l l.length) (by decide) k
  by_cases hz : (toldI manyF l l.length)[k]! = 0
  · have e := wf_zero (f := f) (w := w) hka hk hn hz
    rw [e, List.take_nil]
    refine Sound.wk (r := .nils) ?_ (Wks.refl _) (.nil 1)
    refine Sound.run (N := 103) Try.func56 rfl (by kernel_rfl) rfl rfl rfl (by first | exact args0_0 | exact args0_1 | exact args0_2 | exact args0_3 | exact args0_4 | exact args0_5 | exact args0_6) fun X_ w_ => ?_
    refine goX (And.intro @hlo @hz) ?_; first | exact trivial | skip
  by_cases hm0 : m = 0
  · subst hm0
    rw [List.take_zero]
    refine Sound.wk (r := .nils) ?_ (Wks.refl _) (.nil 1)
    refine Sound.run (N := 103) Try.func56 rfl (by kernel_rfl) rfl rfl rfl (by first | exact args0_0 | exact args0_1 | exact args0_2 | exact args0_3 | exact args0_4 | exact args0_5 | exact args0_6) fun X_ w_ => ?_
    refine goX (And.intro @hlo @hz) ?_; first | exact trivial | skip
  have clf := refLess (a := w) (b := f) (by omega) hf
  obtain ⟨A0, hA0⟩ : ∃ A0, A0 = (if (l[k]!).final = true ∧ ¬ wcmp w f < 0 then [w] else []) := ⟨_, rfl⟩
  obtain ⟨G, hG⟩ : ∃ G, (fun a : Ar => if cutW (w ++ [a.sign]) f = true then [] else wf l f n a.to.toNat (w ++ [a.sign])) = G := ⟨_, rfl⟩
  have hwf : wf l f (n + 1) k w = A0 ++ (l[k]!).arcs.flatMap G := by rw [hA0, ← hG]; rfl
  cases hfin : (l[k]!).final
  · rw [hfin, if_neg (by simp)] at hA0
    have hA1 : A0.take m = [] := by rw [hA0]; simp
    refine Sound.run (N := 103) Try.func56 rfl (by kernel_rfl) rfl rfl rfl (by first | exact args0_0 | exact args0_1 | exact args0_2 | exact args0_3 | exact args0_4 | exact args0_5 | exact args0_6) fun X_ w_ => ?_
    repeat ((fail_if_success (with_reducible show WP _ _ (.region 6 _ _) _ _)); first | with_reducible exact Ev.nil | with_reducible exact gd_n | ((with_reducible apply lk_ok); rfl) | ((with_reducible apply gslot_ok); rfl) | ((with_reducible apply v2d_ok); rfl) | with_reducible apply then_n | with_reducible apply WP_seq | with_reducible apply WP_skip | ((with_reducible apply WP_r (N := 103) rfl rfl); (focus simp only [Nat.reduceAdd] <;> rfl)) | ((with_reducible apply WP_d (N := 103) mixed rfl rfl); (focus simp only [Nat.reduceAdd] <;> rfl)) | ((with_reducible apply Ev_s); (focus first | (apply gd_u; (focus rfl); rfl) | (apply gd_f; (focus rfl); (focus rfl); rfl))) | ((with_reducible apply Ev_sn); (focus first | (apply gd_u; (focus rfl); rfl) | (apply gd_f; (focus rfl); (focus rfl); rfl))) | with_reducible apply gd_t | with_reducible apply Ev_mv | with_reducible apply Ev_as | with_reducible apply Ev_mc | with_reducible apply Ev_ac | ((first | (with_reducible apply Ev_pt) | (with_reducible apply Ev_ptc)); (focus rfl)) | ((first | (with_reducible apply Ev_pf) | (with_reducible apply Ev_pfc)); (focus rfl)) | ((with_reducible apply Ev_d); (focus simp only [Nat.reduceAdd] <;> rfl); (focus simp (disch := omega) only [go_sem, hlo, hz, hfin] <;> rfl)) | ((first | (with_reducible apply Ev_od) | (with_reducible apply Ev_on)); (focus simp only [Nat.reduceAdd] <;> rfl); (focus simp (disch := omega) only [go_sem, hlo, hz, hfin] <;> rfl); (focus first | (simp (disch := omega) only [go_sem, hlo, hz, hfin] <;> rfl) | rfl)) | with_reducible apply endM_n | with_reducible apply endM_r | with_reducible apply then_r | with_reducible apply then_x | with_reducible apply block_n | with_reducible apply block_r | with_reducible apply block_x | with_reducible apply block_y rfl | with_reducible apply scope_n | with_reducible apply scope_r | with_reducible apply scope_x | with_reducible apply end_n | with_reducible apply end_r | with_reducible apply WP_block | with_reducible apply WP_exit | with_reducible apply WP_ret | with_reducible apply WP_label | with_reducible apply WP_scope | ((with_reducible apply WP_t); (focus first | (simp (disch := omega) only [go_sem, hlo, hz, hfin] <;> rfl) | rfl)) | ((with_reducible apply WP_f); (focus first | (simp (disch := omega) only [go_sem, hlo, hz, hfin] <;> rfl) | rfl)) | ((with_reducible apply resD_t); (focus rfl)) | ((with_reducible apply resD_2); (focus rfl); (focus rfl)) | (with_reducible rfl) | ((with_reducible show List.map outKeys _ = _); simp only [List.map_cons, List.map_nil, outKeys, keys]; rfl) | ((with_reducible show orderOk _ _ = true); kernel_rfl) | ((with_reducible show _ = _); simp (disch := omega) only [go_sem, hlo, hz, hfin] <;> rfl) | ((fail_if_success (with_reducible show Ev _ _ _ _ (_ :: _) _ _ _ _ _)); (show Ev _ _ _ _ (_ :: _) _ _ _ _ _)) | fail)
    refine WP_own 13 20000 26 1 rfl (by decide) (Nat.le_of_ble_eq_true rfl) ?_
    refine goT ?_; first | exact trivial | skip
    refine WP_loopk (fun j : Nat => j ≤ (l[k]!).arcs.length) (fun j => [(0, .d (.sl 2 (stas l))), (1, .d (.sl 1 (is (toldI manyF l l.length)))), (2, .d (.int .i64 k)), (3, .d (.sl 1 (is w))), (4, .d (.sl 1 (is f))), (5, .d (.int .i64 m)), (13, .own 20000 ((A0 ++ ((l[k]!).arcs.take j).flatMap G).take m).length), (14, .d (.int .i64 j))]) (fun j => [(20000, .row 26 1 (iss ((A0 ++ ((l[k]!).arcs.take j).flatMap G).take m)))]) 20001 (fun j => (l[k]!).arcs.length - j) [0, 1, 2, 3, 4, 5, 13, 14] [20000] 0 (Nat.zero_le _) (by rw [List.take_zero, List.flatMap_nil, List.append_nil, hA1]; rfl) (by rw [List.take_zero, List.flatMap_nil, List.append_nil, hA1]; rfl) (Nat.zero_le _) (fun _ _ => rfl) (fun _ _ => rfl) fun j hj => ?_
    have hX1 : ((A0 ++ ((l[k]!).arcs.take j).flatMap G).take m).length ≤ m := by rw [List.length_take]; omega
    generalize hX : A0 ++ ((l[k]!).arcs.take j).flatMap G = X at *
    by_cases hj2 : j < (l[k]!).arcs.length
    · have hmem : (l[k]!).arcs[j]! ∈ (l[k]!).arcs := by rw [getElem!_pos _ j hj2]; exact List.getElem_mem hj2
      obtain ⟨g1, g2, _⟩ := achk_arc hka hk _ hmem
      obtain ⟨t, ht⟩ := Int.eq_ofNat_of_zero_le (by omega : 0 ≤ ((l[k]!).arcs[j]!).to)
      have hst := beh_step (A := A0) (G := G) (m := m) hj2
      rw [hX] at hst
      have cl := refLess (a := (w ++ [((l[k]!).arcs[j]!).sign]).take (min (w.length + 1) f.length)) (b := f.take (min (w.length + 1) f.length)) (by simp only [List.length_take]; omega) (by simp only [List.length_take]; omega)
      have ec : decide (wcmp ((w ++ [((l[k]!).arcs[j]!).sign]).take (min (w.length + 1) f.length)) (f.take (min (w.length + 1) f.length)) < 0) = cutW (w ++ [((l[k]!).arcs[j]!).sign]) f := by unfold cutW; simp only [List.length_append, List.length_cons, List.length_nil]
      rw [ec] at cl
      have emin : min ((w.length + 1 : Nat) : Int) (f.length : Int) = ((min (w.length + 1) f.length : Nat) : Int) := by omega
      repeat ((fail_if_success (with_reducible show WP _ _ (.region 11 _ _) _ _)); first | with_reducible exact Ev.nil | with_reducible exact gd_n | ((with_reducible apply lk_ok); rfl) | ((with_reducible apply gslot_ok); rfl) | ((with_reducible apply v2d_ok); rfl) | with_reducible apply then_n | with_reducible apply WP_seq | with_reducible apply WP_skip | ((with_reducible apply WP_r (N := 103) rfl rfl); (focus simp only [Nat.reduceAdd] <;> rfl)) | ((with_reducible apply WP_d (N := 103) mixed rfl rfl); (focus simp only [Nat.reduceAdd] <;> rfl)) | ((with_reducible apply Ev_s); (focus first | (apply gd_u; (focus rfl); rfl) | (apply gd_f; (focus rfl); (focus rfl); rfl))) | ((with_reducible apply Ev_sn); (focus first | (apply gd_u; (focus rfl); rfl) | (apply gd_f; (focus rfl); (focus rfl); rfl))) | with_reducible apply gd_t | with_reducible apply Ev_mv | with_reducible apply Ev_as | with_reducible apply Ev_mc | with_reducible apply Ev_ac | ((first | (with_reducible apply Ev_pt) | (with_reducible apply Ev_ptc)); (focus rfl)) | ((first | (with_reducible apply Ev_pf) | (with_reducible apply Ev_pfc)); (focus rfl)) | ((with_reducible apply Ev_d); (focus simp only [Nat.reduceAdd] <;> rfl); (focus simp (disch := omega) only [go_sem, is_snoc] <;> rfl)) | ((first | (with_reducible apply Ev_od) | (with_reducible apply Ev_on)); (focus simp only [Nat.reduceAdd] <;> rfl); (focus simp (disch := omega) only [go_sem, is_snoc] <;> rfl); (focus first | (simp (disch := omega) only [go_sem, is_snoc] <;> rfl) | rfl)) | with_reducible apply endM_n | with_reducible apply endM_r | with_reducible apply then_r | with_reducible apply then_x | with_reducible apply block_n | with_reducible apply block_r | with_reducible apply block_x | with_reducible apply block_y rfl | with_reducible apply scope_n | with_reducible apply scope_r | with_reducible apply scope_x | with_reducible apply end_n | with_reducible apply end_r | with_reducible apply WP_block | with_reducible apply WP_exit | with_reducible apply WP_ret | with_reducible apply WP_label | with_reducible apply WP_scope | ((with_reducible apply WP_t); (focus first | (simp (disch := omega) only [go_sem, is_snoc] <;> rfl) | rfl)) | ((with_reducible apply WP_f); (focus first | (simp (disch := omega) only [go_sem, is_snoc] <;> rfl) | rfl)) | ((with_reducible apply resD_t); (focus rfl)) | ((with_reducible apply resD_2); (focus rfl); (focus rfl)) | (with_reducible rfl) | ((with_reducible show List.map outKeys _ = _); simp only [List.map_cons, List.map_nil, outKeys, keys]; rfl) | ((with_reducible show orderOk _ _ = true); kernel_rfl) | ((with_reducible show _ = _); simp (disch := omega) only [go_sem, is_snoc] <;> rfl) | ((fail_if_success (with_reducible show Ev _ _ _ _ (_ :: _) _ _ _ _ _)); (show Ev _ _ _ _ (_ :: _) _ _ _ _ _)) | fail)
      refine WP_datd 16 (ks := [22001]) (d := .sl 1 (is (w ++ [((l[k]!).arcs[j]!).sign]))) rfl (by simp (disch := omega) only [go_sem, List.length_append, List.length_cons, List.length_nil]) (by simp (disch := omega) only [go_sem, dels]; rfl) ?_
      cases hcut : cutW (w ++ [((l[k]!).arcs[j]!).sign]) f
      · rw [hcut] at cl
        have cr := ih t (w ++ [((l[k]!).arcs[j]!).sign]) (m - (X.take m).length) (by omega) (by omega) (by simp only [List.length_append, List.length_cons, List.length_nil]; omega) (by omega)
        have eG : G ((l[k]!).arcs[j]!) = wf l f n t (w ++ [((l[k]!).arcs[j]!).sign]) := by rw [← hG]; simp only [hcut, Bool.false_eq_true, if_false, ht, Int.toNat_natCast]
        rw [eG] at hst
        have em : (m : Int) - min (m : Int) ((X.take m).length : Int) = ((m - (X.take m).length : Nat) : Int) := by omega
        generalize hW : (wf l f n t (w ++ [((l[k]!).arcs[j]!).sign])).take (m - (X.take m).length) = W at *
        have hWl : W.length ≤ 300 := by rw [← hW, List.length_take]; omega
        have c0_ := cl; have c1_ := cr; refine goX (And.intro @ht (And.intro @emin (And.intro @is_takeW (And.intro @if_minI (And.intro @em @iss_app))))) ?_; first | exact trivial | skip
        refine ⟨j + 1, by omega, ?_, ?_, by omega⟩
        · simp (disch := omega) only [go_sem, keepL, Int.natCast_add, Int.cast_ofNat_Int, hst, List.length_append]
        · simp (disch := omega) only [go_sem, keepL, hst]
      · rw [hcut] at cl
        have eG : G ((l[k]!).arcs[j]!) = [] := by rw [← hG]; simp only [hcut, if_true]
        rw [eG, List.take_nil, List.append_nil] at hst
        have c0_ := cl; refine goX (And.intro @ht (And.intro @emin (And.intro @is_takeW @if_minI))) ?_; first | exact trivial | skip
        refine ⟨j + 1, by omega, ?_, ?_, by omega⟩
        · simp (disch := omega) only [go_sem, keepL, Int.natCast_add, Int.cast_ofNat_Int, hst]
        · simp (disch := omega) only [go_sem, keepL, hst]
    · have hjl : j = (l[k]!).arcs.length := by omega
      subst hjl
      rw [List.take_length] at hX
      rw [hwf, hX]
      have e2 : min (m : Int) ((X.take m).length : Int) = ((X.take m).length : Int) := by omega
      have et : (iss (X.take m)).take (X.take m).length = iss (X.take m) := List.take_of_length_le (by rw [iss_len]; exact Nat.le_refl _)
      refine goX (And.intro @if_minI (And.intro @e2 @et)) ?_; first | exact trivial | skip
  · by_cases hlt : wcmp w f < 0
    · rw [decide_eq_true hlt] at clf
      rw [hfin, if_neg (fun h => h.2 hlt)] at hA0
      have hA1 : A0.take m = [] := by rw [hA0]; simp
      refine Sound.run (N := 103) Try.func56 rfl (by kernel_rfl) rfl rfl rfl (by first | exact args0_0 | exact args0_1 | exact args0_2 | exact args0_3 | exact args0_4 | exact args0_5 | exact args0_6) fun X_ w_ => ?_
      have c0_ := clf; repeat ((fail_if_success (with_reducible show WP _ _ (.region 6 _ _) _ _)); first | with_reducible exact Ev.nil | with_reducible exact gd_n | ((with_reducible apply lk_ok); rfl) | ((with_reducible apply gslot_ok); rfl) | ((with_reducible apply v2d_ok); rfl) | with_reducible apply then_n | with_reducible apply WP_seq | with_reducible apply WP_skip | ((with_reducible apply WP_r (N := 103) rfl rfl); (focus simp only [Nat.reduceAdd] <;> rfl)) | ((with_reducible apply WP_d (N := 103) mixed rfl rfl); (focus simp only [Nat.reduceAdd] <;> rfl)) | ((with_reducible apply Ev_s); (focus first | (apply gd_u; (focus rfl); rfl) | (apply gd_f; (focus rfl); (focus rfl); rfl))) | ((with_reducible apply Ev_sn); (focus first | (apply gd_u; (focus rfl); rfl) | (apply gd_f; (focus rfl); (focus rfl); rfl))) | with_reducible apply gd_t | with_reducible apply Ev_mv | with_reducible apply Ev_as | with_reducible apply Ev_mc | with_reducible apply Ev_ac | ((first | (with_reducible apply Ev_pt) | (with_reducible apply Ev_ptc)); (focus rfl)) | ((first | (with_reducible apply Ev_pf) | (with_reducible apply Ev_pfc)); (focus rfl)) | (apply Ev_cf; (focus simp (disch := omega) only [go_sem, hlo, hz, hfin] <;> rfl); (focus first | exact c0_); (focus rfl); (focus first | (simp (disch := omega) only [go_sem, hlo, hz, hfin] <;> rfl) | rfl)) | ((with_reducible apply Ev_d); (focus simp only [Nat.reduceAdd] <;> rfl); (focus simp (disch := omega) only [go_sem, hlo, hz, hfin] <;> rfl)) | (apply Ev_cv; (focus rfl); (focus simp (disch := omega) only [go_sem, hlo, hz, hfin] <;> rfl); (focus first | exact c0_); (iterate 3 (focus first | (simp (disch := omega) only [go_sem, hlo, hz, hfin] <;> rfl) | rfl))) | ((first | apply Ev_cmd | apply Ev_cmn); (focus simp only [Nat.reduceAdd] <;> rfl); (focus rfl); (iterate 2 (focus simp (disch := omega) only [go_sem, hlo, hz, hfin] <;> rfl)); (first | ((focus first | exact c0_); (iterate 2 (focus first | (simp (disch := omega) only [go_sem, hlo, hz, hfin] <;> rfl) | rfl)); (focus rfl); (iterate 3 (focus first | (simp (disch := omega) only [go_sem, hlo, hz, hfin] <;> rfl) | rfl))))) | ((first | (with_reducible apply Ev_od) | (with_reducible apply Ev_on)); (focus simp only [Nat.reduceAdd] <;> rfl); (focus simp (disch := omega) only [go_sem, hlo, hz, hfin] <;> rfl); (focus first | (simp (disch := omega) only [go_sem, hlo, hz, hfin] <;> rfl) | rfl)) | with_reducible apply endM_n | with_reducible apply endM_r | with_reducible apply then_r | with_reducible apply then_x | with_reducible apply block_n | with_reducible apply block_r | with_reducible apply block_x | with_reducible apply block_y rfl | with_reducible apply scope_n | with_reducible apply scope_r | with_reducible apply scope_x | with_reducible apply end_n | with_reducible apply end_r | with_reducible apply WP_block | with_reducible apply WP_exit | with_reducible apply WP_ret | with_reducible apply WP_label | with_reducible apply WP_scope | ((with_reducible apply WP_t); (focus first | (simp (disch := omega) only [go_sem, hlo, hz, hfin] <;> rfl) | rfl)) | ((with_reducible apply WP_f); (focus first | (simp (disch := omega) only [go_sem, hlo, hz, hfin] <;> rfl) | rfl)) | ((with_reducible apply resD_t); (focus rfl)) | ((with_reducible apply resD_2); (focus rfl); (focus rfl)) | (with_reducible rfl) | ((with_reducible show List.map outKeys _ = _); simp only [List.map_cons, List.map_nil, outKeys, keys]; rfl) | ((with_reducible show orderOk _ _ = true); kernel_rfl) | ((with_reducible show _ = _); simp (disch := omega) only [go_sem, hlo, hz, hfin] <;> rfl) | ((fail_if_success (with_reducible show Ev _ _ _ _ (_ :: _) _ _ _ _ _)); (show Ev _ _ _ _ (_ :: _) _ _ _ _ _)) | fail)
      refine WP_own 13 20000 26 1 rfl (by decide) (Nat.le_of_ble_eq_true rfl) ?_
      refine goT ?_; first | exact trivial | skip
      refine WP_loopk (fun j : Nat => j ≤ (l[k]!).arcs.length) (fun j => [(0, .d (.sl 2 (stas l))), (1, .d (.sl 1 (is (toldI manyF l l.length)))), (2, .d (.int .i64 k)), (3, .d (.sl 1 (is w))), (4, .d (.sl 1 (is f))), (5, .d (.int .i64 m)), (13, .own 20000 ((A0 ++ ((l[k]!).arcs.take j).flatMap G).take m).length), (14, .d (.int .i64 j))]) (fun j => [(20000, .row 26 1 (iss ((A0 ++ ((l[k]!).arcs.take j).flatMap G).take m)))]) 20001 (fun j => (l[k]!).arcs.length - j) [0, 1, 2, 3, 4, 5, 13, 14] [20000] 0 (Nat.zero_le _) (by rw [List.take_zero, List.flatMap_nil, List.append_nil, hA1]; rfl) (by rw [List.take_zero, List.flatMap_nil, List.append_nil, hA1]; rfl) (Nat.zero_le _) (fun _ _ => rfl) (fun _ _ => rfl) fun j hj => ?_
      have hX1 : ((A0 ++ ((l[k]!).arcs.take j).flatMap G).take m).length ≤ m := by rw [List.length_take]; omega
      generalize hX : A0 ++ ((l[k]!).arcs.take j).flatMap G = X at *
      by_cases hj2 : j < (l[k]!).arcs.length
      · have hmem : (l[k]!).arcs[j]! ∈ (l[k]!).arcs := by rw [getElem!_pos _ j hj2]; exact List.getElem_mem hj2
        obtain ⟨g1, g2, _⟩ := achk_arc hka hk _ hmem
        obtain ⟨t, ht⟩ := Int.eq_ofNat_of_zero_le (by omega : 0 ≤ ((l[k]!).arcs[j]!).to)
        have hst := beh_step (A := A0) (G := G) (m := m) hj2
        rw [hX] at hst
        have cl := refLess (a := (w ++ [((l[k]!).arcs[j]!).sign]).take (min (w.length + 1) f.length)) (b := f.take (min (w.length + 1) f.length)) (by simp only [List.length_take]; omega) (by simp only [List.length_take]; omega)
        have ec : decide (wcmp ((w ++ [((l[k]!).arcs[j]!).sign]).take (min (w.length + 1) f.length)) (f.take (min (w.length + 1) f.length)) < 0) = cutW (w ++ [((l[k]!).arcs[j]!).sign]) f := by unfold cutW; simp only [List.length_append, List.length_cons, List.length_nil]
        rw [ec] at cl
        have emin : min ((w.length + 1 : Nat) : Int) (f.length : Int) = ((min (w.length + 1) f.length : Nat) : Int) := by omega
        repeat ((fail_if_success (with_reducible show WP _ _ (.region 11 _ _) _ _)); first | with_reducible exact Ev.nil | with_reducible exact gd_n | ((with_reducible apply lk_ok); rfl) | ((with_reducible apply gslot_ok); rfl) | ((with_reducible apply v2d_ok); rfl) | with_reducible apply then_n | with_reducible apply WP_seq | with_reducible apply WP_skip | ((with_reducible apply WP_r (N := 103) rfl rfl); (focus simp only [Nat.reduceAdd] <;> rfl)) | ((with_reducible apply WP_d (N := 103) mixed rfl rfl); (focus simp only [Nat.reduceAdd] <;> rfl)) | ((with_reducible apply Ev_s); (focus first | (apply gd_u; (focus rfl); rfl) | (apply gd_f; (focus rfl); (focus rfl); rfl))) | ((with_reducible apply Ev_sn); (focus first | (apply gd_u; (focus rfl); rfl) | (apply gd_f; (focus rfl); (focus rfl); rfl))) | with_reducible apply gd_t | with_reducible apply Ev_mv | with_reducible apply Ev_as | with_reducible apply Ev_mc | with_reducible apply Ev_ac | ((first | (with_reducible apply Ev_pt) | (with_reducible apply Ev_ptc)); (focus rfl)) | ((first | (with_reducible apply Ev_pf) | (with_reducible apply Ev_pfc)); (focus rfl)) | ((with_reducible apply Ev_d); (focus simp only [Nat.reduceAdd] <;> rfl); (focus simp (disch := omega) only [go_sem, is_snoc] <;> rfl)) | ((first | (with_reducible apply Ev_od) | (with_reducible apply Ev_on)); (focus simp only [Nat.reduceAdd] <;> rfl); (focus simp (disch := omega) only [go_sem, is_snoc] <;> rfl); (focus first | (simp (disch := omega) only [go_sem, is_snoc] <;> rfl) | rfl)) | with_reducible apply endM_n | with_reducible apply endM_r | with_reducible apply then_r | with_reducible apply then_x | with_reducible apply block_n | with_reducible apply block_r | with_reducible apply block_x | with_reducible apply block_y rfl | with_reducible apply scope_n | with_reducible apply scope_r | with_reducible apply scope_x | with_reducible apply end_n | with_reducible apply end_r | with_reducible apply WP_block | with_reducible apply WP_exit | with_reducible apply WP_ret | with_reducible apply WP_label | with_reducible apply WP_scope | ((with_reducible apply WP_t); (focus first | (simp (disch := omega) only [go_sem, is_snoc] <;> rfl) | rfl)) | ((with_reducible apply WP_f); (focus first | (simp (disch := omega) only [go_sem, is_snoc] <;> rfl) | rfl)) | ((with_reducible apply resD_t); (focus rfl)) | ((with_reducible apply resD_2); (focus rfl); (focus rfl)) | (with_reducible rfl) | ((with_reducible show List.map outKeys _ = _); simp only [List.map_cons, List.map_nil, outKeys, keys]; rfl) | ((with_reducible show orderOk _ _ = true); kernel_rfl) | ((with_reducible show _ = _); simp (disch := omega) only [go_sem, is_snoc] <;> rfl) | ((fail_if_success (with_reducible show Ev _ _ _ _ (_ :: _) _ _ _ _ _)); (show Ev _ _ _ _ (_ :: _) _ _ _ _ _)) | fail)
        refine WP_datd 16 (ks := [22001]) (d := .sl 1 (is (w ++ [((l[k]!).arcs[j]!).sign]))) rfl (by simp (disch := omega) only [go_sem, List.length_append, List.length_cons, List.length_nil]) (by simp (disch := omega) only [go_sem, dels]; rfl) ?_
        cases hcut : cutW (w ++ [((l[k]!).arcs[j]!).sign]) f
        · rw [hcut] at cl
          have cr := ih t (w ++ [((l[k]!).arcs[j]!).sign]) (m - (X.take m).length) (by omega) (by omega) (by simp only [List.length_append, List.length_cons, List.length_nil]; omega) (by omega)
          have eG : G ((l[k]!).arcs[j]!) = wf l f n t (w ++ [((l[k]!).arcs[j]!).sign]) := by rw [← hG]; simp only [hcut, Bool.false_eq_true, if_false, ht, Int.toNat_natCast]
          rw [eG] at hst
          have em : (m : Int) - min (m : Int) ((X.take m).length : Int) = ((m - (X.take m).length : Nat) : Int) := by omega
          generalize hW : (wf l f n t (w ++ [((l[k]!).arcs[j]!).sign])).take (m - (X.take m).length) = W at *
          have hWl : W.length ≤ 300 := by rw [← hW, List.length_take]; omega
          have c0_ := cl; have c1_ := cr; refine goX (And.intro @ht (And.intro @emin (And.intro @is_takeW (And.intro @if_minI (And.intro @em @iss_app))))) ?_; first | exact trivial | skip
          refine ⟨j + 1, by omega, ?_, ?_, by omega⟩
          · simp (disch := omega) only [go_sem, keepL, Int.natCast_add, Int.cast_ofNat_Int, hst, List.length_append]
          · simp (disch := omega) only [go_sem, keepL, hst]
        · rw [hcut] at cl
          have eG : G ((l[k]!).arcs[j]!) = [] := by rw [← hG]; simp only [hcut, if_true]
          rw [eG, List.take_nil, List.append_nil] at hst
          have c0_ := cl; refine goX (And.intro @ht (And.intro @emin (And.intro @is_takeW @if_minI))) ?_; first | exact trivial | skip
          refine ⟨j + 1, by omega, ?_, ?_, by omega⟩
          · simp (disch := omega) only [go_sem, keepL, Int.natCast_add, Int.cast_ofNat_Int, hst]
          · simp (disch := omega) only [go_sem, keepL, hst]
      · have hjl : j = (l[k]!).arcs.length := by omega
        subst hjl
        rw [List.take_length] at hX
        rw [hwf, hX]
        have e2 : min (m : Int) ((X.take m).length : Int) = ((X.take m).length : Int) := by omega
        have et : (iss (X.take m)).take (X.take m).length = iss (X.take m) := List.take_of_length_le (by rw [iss_len]; exact Nat.le_refl _)
        refine goX (And.intro @if_minI (And.intro @e2 @et)) ?_; first | exact trivial | skip
    · rw [decide_eq_false hlt] at clf
      rw [hfin, if_pos ⟨rfl, hlt⟩] at hA0
      have hA1 : A0.take m = [w] := by rw [hA0, List.take_of_length_le (by simp; omega)]
      refine Sound.run (N := 103) Try.func56 rfl (by kernel_rfl) rfl rfl rfl (by first | exact args0_0 | exact args0_1 | exact args0_2 | exact args0_3 | exact args0_4 | exact args0_5 | exact args0_6) fun X_ w_ => ?_
      have c0_ := clf; refine goX (And.intro @hlo (And.intro @hz (And.intro @hfin @iss_one))) ?_; first | exact trivial | skip
      refine WP_loopk (fun j : Nat => j ≤ (l[k]!).arcs.length) (fun j => [(0, .d (.sl 2 (stas l))), (1, .d (.sl 1 (is (toldI manyF l l.length)))), (2, .d (.int .i64 k)), (3, .d (.sl 1 (is w))), (4, .d (.sl 1 (is f))), (5, .d (.int .i64 m)), (13, .own 4005 ((A0 ++ ((l[k]!).arcs.take j).flatMap G).take m).length), (14, .d (.int .i64 j))]) (fun j => [(4005, .row 26 1 (iss ((A0 ++ ((l[k]!).arcs.take j).flatMap G).take m)))]) 20001 (fun j => (l[k]!).arcs.length - j) [0, 1, 2, 3, 4, 5, 13, 14] [4005] 0 (Nat.zero_le _) (by rw [List.take_zero, List.flatMap_nil, List.append_nil, hA1]; rfl) (by rw [List.take_zero, List.flatMap_nil, List.append_nil, hA1]; rfl) (Nat.zero_le _) (fun _ _ => rfl) (fun _ _ => rfl) fun j hj => ?_
      have hX1 : ((A0 ++ ((l[k]!).arcs.take j).flatMap G).take m).length ≤ m := by rw [List.length_take]; omega
      generalize hX : A0 ++ ((l[k]!).arcs.take j).flatMap G = X at *
      by_cases hj2 : j < (l[k]!).arcs.length
      · have hmem : (l[k]!).arcs[j]! ∈ (l[k]!).arcs := by rw [getElem!_pos _ j hj2]; exact List.getElem_mem hj2
        obtain ⟨g1, g2, _⟩ := achk_arc hka hk _ hmem
        obtain ⟨t, ht⟩ := Int.eq_ofNat_of_zero_le (by omega : 0 ≤ ((l[k]!).arcs[j]!).to)
        have hst := beh_step (A := A0) (G := G) (m := m) hj2
        rw [hX] at hst
        have cl := refLess (a := (w ++ [((l[k]!).arcs[j]!).sign]).take (min (w.length + 1) f.length)) (b := f.take (min (w.length + 1) f.length)) (by simp only [List.length_take]; omega) (by simp only [List.length_take]; omega)
        have ec : decide (wcmp ((w ++ [((l[k]!).arcs[j]!).sign]).take (min (w.length + 1) f.length)) (f.take (min (w.length + 1) f.length)) < 0) = cutW (w ++ [((l[k]!).arcs[j]!).sign]) f := by unfold cutW; simp only [List.length_append, List.length_cons, List.length_nil]
        rw [ec] at cl
        have emin : min ((w.length + 1 : Nat) : Int) (f.length : Int) = ((min (w.length + 1) f.length : Nat) : Int) := by omega
        repeat ((fail_if_success (with_reducible show WP _ _ (.region 11 _ _) _ _)); first | with_reducible exact Ev.nil | with_reducible exact gd_n | ((with_reducible apply lk_ok); rfl) | ((with_reducible apply gslot_ok); rfl) | ((with_reducible apply v2d_ok); rfl) | with_reducible apply then_n | with_reducible apply WP_seq | with_reducible apply WP_skip | ((with_reducible apply WP_r (N := 103) rfl rfl); (focus simp only [Nat.reduceAdd] <;> rfl)) | ((with_reducible apply WP_d (N := 103) mixed rfl rfl); (focus simp only [Nat.reduceAdd] <;> rfl)) | ((with_reducible apply Ev_s); (focus first | (apply gd_u; (focus rfl); rfl) | (apply gd_f; (focus rfl); (focus rfl); rfl))) | ((with_reducible apply Ev_sn); (focus first | (apply gd_u; (focus rfl); rfl) | (apply gd_f; (focus rfl); (focus rfl); rfl))) | with_reducible apply gd_t | with_reducible apply Ev_mv | with_reducible apply Ev_as | with_reducible apply Ev_mc | with_reducible apply Ev_ac | ((first | (with_reducible apply Ev_pt) | (with_reducible apply Ev_ptc)); (focus rfl)) | ((first | (with_reducible apply Ev_pf) | (with_reducible apply Ev_pfc)); (focus rfl)) | ((with_reducible apply Ev_d); (focus simp only [Nat.reduceAdd] <;> rfl); (focus simp (disch := omega) only [go_sem, is_snoc] <;> rfl)) | ((first | (with_reducible apply Ev_od) | (with_reducible apply Ev_on)); (focus simp only [Nat.reduceAdd] <;> rfl); (focus simp (disch := omega) only [go_sem, is_snoc] <;> rfl); (focus first | (simp (disch := omega) only [go_sem, is_snoc] <;> rfl) | rfl)) | with_reducible apply endM_n | with_reducible apply endM_r | with_reducible apply then_r | with_reducible apply then_x | with_reducible apply block_n | with_reducible apply block_r | with_reducible apply block_x | with_reducible apply block_y rfl | with_reducible apply scope_n | with_reducible apply scope_r | with_reducible apply scope_x | with_reducible apply end_n | with_reducible apply end_r | with_reducible apply WP_block | with_reducible apply WP_exit | with_reducible apply WP_ret | with_reducible apply WP_label | with_reducible apply WP_scope | ((with_reducible apply WP_t); (focus first | (simp (disch := omega) only [go_sem, is_snoc] <;> rfl) | rfl)) | ((with_reducible apply WP_f); (focus first | (simp (disch := omega) only [go_sem, is_snoc] <;> rfl) | rfl)) | ((with_reducible apply resD_t); (focus rfl)) | ((with_reducible apply resD_2); (focus rfl); (focus rfl)) | (with_reducible rfl) | ((with_reducible show List.map outKeys _ = _); simp only [List.map_cons, List.map_nil, outKeys, keys]; rfl) | ((with_reducible show orderOk _ _ = true); kernel_rfl) | ((with_reducible show _ = _); simp (disch := omega) only [go_sem, is_snoc] <;> rfl) | ((fail_if_success (with_reducible show Ev _ _ _ _ (_ :: _) _ _ _ _ _)); (show Ev _ _ _ _ (_ :: _) _ _ _ _ _)) | fail)
        refine WP_datd 16 (ks := [22001]) (d := .sl 1 (is (w ++ [((l[k]!).arcs[j]!).sign]))) rfl (by simp (disch := omega) only [go_sem, List.length_append, List.length_cons, List.length_nil]) (by simp (disch := omega) only [go_sem, dels]; rfl) ?_
        cases hcut : cutW (w ++ [((l[k]!).arcs[j]!).sign]) f
        · rw [hcut] at cl
          have cr := ih t (w ++ [((l[k]!).arcs[j]!).sign]) (m - (X.take m).length) (by omega) (by omega) (by simp only [List.length_append, List.length_cons, List.length_nil]; omega) (by omega)
          have eG : G ((l[k]!).arcs[j]!) = wf l f n t (w ++ [((l[k]!).arcs[j]!).sign]) := by rw [← hG]; simp only [hcut, Bool.false_eq_true, if_false, ht, Int.toNat_natCast]
          rw [eG] at hst
          have em : (m : Int) - min (m : Int) ((X.take m).length : Int) = ((m - (X.take m).length : Nat) : Int) := by omega
          generalize hW : (wf l f n t (w ++ [((l[k]!).arcs[j]!).sign])).take (m - (X.take m).length) = W at *
          have hWl : W.length ≤ 300 := by rw [← hW, List.length_take]; omega
          have c0_ := cl; have c1_ := cr; refine goX (And.intro @ht (And.intro @emin (And.intro @is_takeW (And.intro @if_minI (And.intro @em @iss_app))))) ?_; first | exact trivial | skip
          refine ⟨j + 1, by omega, ?_, ?_, by omega⟩
          · simp (disch := omega) only [go_sem, keepL, Int.natCast_add, Int.cast_ofNat_Int, hst, List.length_append]
          · simp (disch := omega) only [go_sem, keepL, hst]
        · rw [hcut] at cl
          have eG : G ((l[k]!).arcs[j]!) = [] := by rw [← hG]; simp only [hcut, if_true]
          rw [eG, List.take_nil, List.append_nil] at hst
          have c0_ := cl; refine goX (And.intro @ht (And.intro @emin (And.intro @is_takeW @if_minI))) ?_; first | exact trivial | skip
          refine ⟨j + 1, by omega, ?_, ?_, by omega⟩
          · simp (disch := omega) only [go_sem, keepL, Int.natCast_add, Int.cast_ofNat_Int, hst]
          · simp (disch := omega) only [go_sem, keepL, hst]
      · have hjl : j = (l[k]!).arcs.length := by omega
        subst hjl
        rw [List.take_length] at hX
        rw [hwf, hX]
        have e2 : min (m : Int) ((X.take m).length : Int) = ((X.take m).length : Int) := by omega
        have et : (iss (X.take m)).take (X.take m).length = iss (X.take m) := List.take_of_length_le (by rw [iss_len]; exact Nat.le_refl _)
        refine goX (And.intro @if_minI (And.intro @e2 @et)) ?_; first | exact trivial | skip
end Go.Eng.Try

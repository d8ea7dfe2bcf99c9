/- What the laws of the least automaton ask first. (and what stands behind it: texts laid together) -/
import Derived.Test.YtabfoaoeghikoaaDoorMG4
import Derived.Test.YtabfoaoeghikoaaDoorMR16
set_option linter.unusedVariables false
set_option linter.unusedSimpArgs false
namespace Go.Eng.Tryd
open Go Go.Eng Go.Proofs Go.RowKit
attribute [local go_sem] tys
attribute [local go_sem] is_len is_get iss_len iss_get ars_len ars_get stas_len stas_get
def lA0 : List (List Int) := [[97, 99], [98, 99]]
def lA1 : List (List Int) := [[98], [97]]
def sA0 : List Sta := [⟨false, [⟨97, 1⟩, ⟨98, 1⟩]⟩, ⟨false, [⟨99, 2⟩]⟩, ⟨true, []⟩]
theorem wr_A0 : wrE lA0 = 0 := by decide +kernel
theorem wr_A1 : wrE lA1 = 90 := by decide +kernel
theorem dawg_A0 : dawgF lA0 = sA0 := by decide +kernel
theorem ok_A0 : StaOk sA0 := by unfold StaOk sA0; decide
theorem ok_A1 : StaOk [] := by unfold StaOk; decide
theorem ok_A2 : StaOk [⟨false, []⟩, ⟨false, []⟩] := by unfold StaOk; decide
set_option maxHeartbeats 4000000 in
set_option maxRecDepth 10000 in
theorem dawgAwake : Sound Tryd.prog 7 [] (.bool true) := by
  have t0 := pMake (L := lA0) ⟨by decide, by decide⟩
  rw [dawgR_ok wr_A0, dawg_A0] at t0
  have t1 := pMake (L := lA1) ⟨by decide, by decide⟩
  rw [dawgR_no (by rw [wr_A1]; decide), wr_A1] at t1
  have e0 := pLeast (l := sA0) ok_A0 (fun _ => by decide)
  rw [show leastB sA0 = true by decide +kernel] at e0
  have e1 := (pLeast (l := []) ok_A1 (fun _ => by decide)).wk (as' := [.nils]) (.cons (.nil 2) .nil) (.refl _)
  rw [show leastB [] = false by decide +kernel] at e1
  have e2 := (pLeast (l := [⟨false, []⟩, ⟨false, []⟩]) ok_A2 (fun _ => by decide)).wk (as' := [.sl 2 [.agg [.bool false, .nils], .agg [.bool false, .nils]]]) (.cons (.sl (.cons (.agg (.cons (.refl _) (.cons (.nil 2) .nil))) (.cons (.agg (.cons (.refl _) (.cons (.nil 2) .nil))) .nil))) .nil) (.refl _)
  rw [show leastB [⟨false, []⟩, ⟨false, []⟩] = false by decide +kernel] at e2
  simp only [lA0, lA1, iss, is, List.map_cons, List.map_nil] at t0 t1
  simp only [sA0, stas, sta, ars, ar, List.map_cons, List.map_nil] at t0 e0
  refine Sound.run (N := 84) Tryd.func7 rfl (by kernel_rfl) rfl rfl rfl (by first | exact args0_0 | exact args0_1 | exact args0_2 | exact args0_3 | exact args0_4 | exact args0_5 | exact args0_6) fun X_ w_ => ?_
  have c0_ := t0; have c1_ := t1; repeat ((fail_if_success (with_reducible show WP _ _ (.region 5 _ _) _ _)); first | with_reducible exact Ev.nil | with_reducible exact gd_n | ((with_reducible apply lk_ok); rfl) | ((with_reducible apply gslot_ok); rfl) | ((with_reducible apply v2d_ok); rfl) | with_reducible apply then_n | with_reducible apply WP_seq | with_reducible apply WP_skip | ((with_reducible apply WP_r (N := 84) rfl rfl); (focus simp only [Nat.reduceAdd] <;> rfl)) | ((with_reducible apply WP_d (N := 84) mixed rfl rfl); (focus simp only [Nat.reduceAdd] <;> rfl)) | ((with_reducible apply Ev_s); (focus first | (apply gd_u; (focus rfl); rfl) | (apply gd_f; (focus rfl); (focus rfl); rfl))) | ((with_reducible apply Ev_sn); (focus first | (apply gd_u; (focus rfl); rfl) | (apply gd_f; (focus rfl); (focus rfl); rfl))) | with_reducible apply gd_t | with_reducible apply Ev_mv | with_reducible apply Ev_as | with_reducible apply Ev_mc | with_reducible apply Ev_ac | ((first | (with_reducible apply Ev_pt) | (with_reducible apply Ev_ptc)); (focus rfl)) | ((first | (with_reducible apply Ev_pf) | (with_reducible apply Ev_pfc)); (focus rfl)) | (apply Ev_cf; (focus simp (disch := omega) only [go_sem] <;> rfl); (focus first | exact c0_ | exact c1_); (focus rfl); (focus first | (simp (disch := omega) only [go_sem] <;> rfl) | rfl)) | ((with_reducible apply Ev_d); (focus simp only [Nat.reduceAdd] <;> rfl); (focus simp (disch := omega) only [go_sem] <;> rfl)) | (apply Ev_cv; (focus rfl); (focus simp (disch := omega) only [go_sem] <;> rfl); (focus first | exact c0_ | exact c1_); (iterate 3 (focus first | (simp (disch := omega) only [go_sem] <;> rfl) | rfl))) | ((first | apply Ev_cmd | apply Ev_cmn); (focus simp only [Nat.reduceAdd] <;> rfl); (focus rfl); (iterate 2 (focus simp (disch := omega) only [go_sem] <;> rfl)); (first | ((focus first | exact c0_ | exact c1_); (iterate 2 (focus first | (simp (disch := omega) only [go_sem] <;> rfl) | rfl)); (focus rfl); (iterate 3 (focus first | (simp (disch := omega) only [go_sem] <;> rfl) | rfl))))) | ((first | (with_reducible apply Ev_od) | (with_reducible apply Ev_on)); (focus simp only [Nat.reduceAdd] <;> rfl); (focus simp (disch := omega) only [go_sem] <;> rfl); (focus first | (simp (disch := omega) only [go_sem] <;> rfl) | rfl)) | with_reducible apply endM_n | with_reducible apply endM_r | with_reducible apply then_r | with_reducible apply then_x | with_reducible apply block_n | with_reducible apply block_r | with_reducible apply block_x | with_reducible apply block_y rfl | with_reducible apply scope_n | with_reducible apply scope_r | with_reducible apply scope_x | with_reducible apply end_n | with_reducible apply end_r | with_reducible apply WP_block | with_reducible apply WP_exit | with_reducible apply WP_ret | with_reducible apply WP_label | with_reducible apply WP_scope | ((with_reducible apply WP_t); (focus first | (simp (disch := omega) only [go_sem] <;> rfl) | rfl)) | ((with_reducible apply WP_f); (focus first | (simp (disch := omega) only [go_sem] <;> rfl) | rfl)) | ((with_reducible apply resD_t); (focus rfl)) | ((with_reducible apply resD_2); (focus rfl); (focus rfl)) | (with_reducible rfl) | ((with_reducible show List.map outKeys _ = _); simp only [List.map_cons, List.map_nil, outKeys, keys]; rfl) | ((with_reducible show orderOk _ _ = true); kernel_rfl) | ((with_reducible show _ = _); simp (disch := omega) only [go_sem] <;> rfl) | ((fail_if_success (with_reducible show Ev _ _ _ _ (_ :: _) _ _ _ _ _)); (show Ev _ _ _ _ (_ :: _) _ _ _ _ _)) | fail)
  have c0_ := e0; have c1_ := e1; have c2_ := e2; refine goT ?_; first | exact trivial | skip
end Go.Eng.Tryd
set_option linter.unusedVariables false
set_option linter.unusedSimpArgs false
namespace Go.Eng.Tryd
open Go Go.Eng Go.Proofs Go.RowKit
attribute [local go_sem] tys
attribute [local go_sem] is_len is_get iss_len iss_get ars_len ars_get stas_len stas_get
theorem iss_snocT {l : List (List Int)} {w : List Int} : iss l ++ [.sl 1 (is w)] = iss (l ++ [w]) := by simp [iss]
theorem is_snocT {l : List Int} {z : Int} : is l ++ [.int .i64 z] = is (l ++ [z]) := by simp [is]
theorem is_nilT (l : List Int) : [] ++ is l = is l := rfl
attribute [local go_sem] iss_snocT is_snocT
theorem wfit_tail {w : List Int} {z : Int} (h : wfit w = true) (hl : w.length ≤ 19) (hz : badS z = false) : wfit (w ++ [z]) = true := by
  have h0 := (wfit_le h).1
  unfold wfit at h ⊢
  simp only [Bool.and_eq_true, decide_eq_true_eq, Bool.not_eq_true'] at h ⊢
  refine ⟨⟨⟨by simp, by simp; omega⟩, ?_⟩, ?_⟩
  · rw [getElem!_pos _ 0 (by simp), List.getElem_append_left (by omega)]
    have := h.1.2
    rwa [getElem!_pos w 0 (by omega)] at this
  · rw [List.any_append, h.2]
    simp [hz]
theorem wfit_head {w : List Int} {y : Int} (h : wfit w = true) (hl : w.length ≤ 19) (hy : badS y = false) (hy2 : y ≠ 35) : wfit (y :: w) = true := by
  unfold wfit at h ⊢
  simp only [Bool.and_eq_true, decide_eq_true_eq, Bool.not_eq_true'] at h ⊢
  refine ⟨⟨⟨by simp, by simp; omega⟩, by simpa using hy2⟩, ?_⟩
  rw [List.any_cons, hy, h.2]
  rfl
def tlL (L : List (List Int)) : List (List Int) := L.map (· ++ [1114111])
theorem tlL_mem {L : List (List Int)} {u : List Int} : u ∈ tlL L ↔ ∃ w ∈ L, u = w ++ [1114111] := by simp [tlL, eq_comm]
theorem srt_nodup {L : List (List Int)} (h : SrtW L) : L.Nodup := h.imp fun {a b} hc e => by subst e; exact wcmp_lt_irr _ hc
theorem tlL_nodup {L : List (List Int)} (h : L.Nodup) : (tlL L).Nodup := by
  unfold tlL
  rw [List.Nodup, List.pairwise_map]
  exact h.imp fun {a b} hc e => hc (List.append_inj' e rfl).1
theorem wsorted_srt {l : List (List Int)} (h : l.Nodup) : SrtW (wsorted l) := by
  refine srt_of (wsorted_ord l) fun j hj e => ?_
  have hn := (wsorted_perm l).nodup_iff.2 h
  rw [getElem!_pos _ (j + 1) hj, getElem!_pos _ j (by omega)] at e
  have := nd_inj hn hj (by omega) e
  omega
/-- What the law does with words that may be longer. -/
theorem tail_make {L : List (List Int)} (he : wrE L = 0) (hne : L ≠ []) (hs : ∀ w ∈ L, w.length ≤ 19 ∧ (1114111 : Int) ∉ w) : SrtW (wsorted (tlL L)) ∧ wrE (wsorted (tlL L)) = 0 ∧ (dawgF (wsorted (tlL L))).length = (dawgF L).length + 1 := by
  obtain ⟨h1, h2, h3⟩ := wrE_ok he
  have hp := wsorted_perm (tlL L)
  have hsr := wsorted_srt (tlL_nodup (srt_nodup h3))
  have hmem : ∀ u, u ∈ wsorted (tlL L) ↔ ∃ w ∈ L, u = w ++ [1114111] := fun u => by rw [hp.mem_iff]; exact tlL_mem
  have hw : wrE (wsorted (tlL L)) = 0 := by
    refine wrE_of (by rw [hp.length_eq]; simpa [tlL] using h1) (List.all_eq_true.2 fun u hu => ?_) hsr
    obtain ⟨w, hw, rfl⟩ := (hmem u).1 hu
    exact wfit_tail (List.all_eq_true.1 h2 w hw) (hs w hw).1 (by decide)
  obtain ⟨K, hK⟩ := dawg_K he
  obtain ⟨K', hK'⟩ := dawg_K hw
  exact ⟨hsr, hw, hK.k.tail hK'.k hne (fun w hw => (hs w hw).2) hmem⟩
set_option maxHeartbeats 16000000 in
set_option maxRecDepth 10000 in
theorem lawDTail {L : List (List Int)} (hL : WsOk L) : Sound Tryd.prog 4 [.sl 1 (iss L)] (.bool true) := by
  have aw := dawgAwake
  have cf := pFewW (n := 100) hL (by omega)
  have cm := pMake hL
  have hl1 := hL.1
  by_cases he : wrE L = 0
  rotate_left
  · rw [dawgR_no he] at cm
    cases hf : fewW L 100 <;> rw [hf] at cf <;> rcases wrE_some L with h | h | h
    · exact absurd h he
    · rw [h] at cm
      refine Sound.run (N := 91) Tryd.func4 rfl (by kernel_rfl) rfl rfl rfl (by first | exact args0_0 | exact args0_1 | exact args0_2 | exact args0_3 | exact args0_4 | exact args0_5 | exact args0_6) fun X_ w_ => ?_
      have c0_ := aw; have c1_ := cf; have c2_ := cm; refine goT ?_; first | exact trivial | skip
    · rw [h] at cm
      refine Sound.run (N := 91) Tryd.func4 rfl (by kernel_rfl) rfl rfl rfl (by first | exact args0_0 | exact args0_1 | exact args0_2 | exact args0_3 | exact args0_4 | exact args0_5 | exact args0_6) fun X_ w_ => ?_
      have c0_ := aw; have c1_ := cf; have c2_ := cm; refine goT ?_; first | exact trivial | skip
    · exact absurd h he
    · rw [h] at cm
      refine Sound.run (N := 91) Tryd.func4 rfl (by kernel_rfl) rfl rfl rfl (by first | exact args0_0 | exact args0_1 | exact args0_2 | exact args0_3 | exact args0_4 | exact args0_5 | exact args0_6) fun X_ w_ => ?_
      have c0_ := aw; have c1_ := cf; have c2_ := cm; refine goT ?_; first | exact trivial | skip
    · rw [h] at cm
      refine Sound.run (N := 91) Tryd.func4 rfl (by kernel_rfl) rfl rfl rfl (by first | exact args0_0 | exact args0_1 | exact args0_2 | exact args0_3 | exact args0_4 | exact args0_5 | exact args0_6) fun X_ w_ => ?_
      have c0_ := aw; have c1_ := cf; have c2_ := cm; refine goT ?_; first | exact trivial | skip
  rw [dawgR_ok he] at cm
  cases hf : fewW L 100
  · rw [hf] at cf
    refine Sound.run (N := 91) Tryd.func4 rfl (by kernel_rfl) rfl rfl rfl (by first | exact args0_0 | exact args0_1 | exact args0_2 | exact args0_3 | exact args0_4 | exact args0_5 | exact args0_6) fun X_ w_ => ?_
    have c0_ := aw; have c1_ := cf; have c2_ := cm; refine goT ?_; first | exact trivial | skip
  rw [hf] at cf
  by_cases h0 : L.length = 0
  · refine Sound.run (N := 91) Tryd.func4 rfl (by kernel_rfl) rfl rfl rfl (by first | exact args0_0 | exact args0_1 | exact args0_2 | exact args0_3 | exact args0_4 | exact args0_5 | exact args0_6) fun X_ w_ => ?_
    have c0_ := aw; have c1_ := cf; have c2_ := cm; refine goT ?_; first | exact trivial | skip
  have hne : L ≠ [] := fun e => h0 (by rw [e]; rfl)
  obtain ⟨hl2, hwf, hsr⟩ := wrE_ok he
  have hwl : ∀ j, j < L.length → 0 < (L[j]!).length ∧ (L[j]!).length ≤ 20 := fun j hj => by
    have := wfit_le (List.all_eq_true.1 hwf (L[j]!) (getM hj))
    exact ⟨this.1, this.2.1⟩
  have hmk := fun hs => tail_make he hne hs
  obtain ⟨K, hK⟩ := dawg_K he
  have hle := (achk_iff.1 hK.chk).2.2
  generalize dawgF L = l at *
  refine Sound.run (N := 91) Tryd.func4 rfl (by kernel_rfl) rfl rfl rfl (by first | exact args0_0 | exact args0_1 | exact args0_2 | exact args0_3 | exact args0_4 | exact args0_5 | exact args0_6) fun X_ w_ => ?_
  have c0_ := aw; have c1_ := cf; have c2_ := cm; refine goT ?_; first | exact trivial | skip
  refine WP_own 6 10000 36 1 rfl (by decide) (Nat.le_of_ble_eq_true rfl) ?_
  refine WP_loopk (fun i : Nat => i ≤ L.length ∧ ∀ j, j < i → (L[j]!).length ≤ 19 ∧ (1114111 : Int) ∉ L[j]!) (fun i => [(0, .d (.sl 1 (iss L))), (3, .d (.bool true)), (4, .d (.sl 2 (stas l))), (6, .own 10000 (tlL (L.take i)).length), (7, .d (.int .i64 i))]) (fun i => [(10000, .row 36 1 (iss (tlL (L.take i))))]) 20000 (fun i => L.length - i) [0, 3, 4, 6, 7] [10000] 0 ⟨Nat.zero_le _, fun j h => by omega⟩ rfl rfl (Nat.le_of_ble_eq_true rfl) (fun _ _ => rfl) (fun _ _ => rfl) fun i hi => ?_
  obtain ⟨hi1, hi2⟩ := hi
  have hti : (tlL (L.take i)).length = i := by simp [tlL]; omega
  by_cases hi3 : i < L.length
  · have hLi := hwl i hi3
    have hsn : tlL (L.take (i + 1)) = tlL (L.take i) ++ [L[i]! ++ [1114111]] := by rw [atake_snoc hi3]; simp [tlL]
    by_cases h19 : 19 < (L[i]!).length
    · refine goT ?_; first | exact trivial | skip
    refine goT ?_; first | exact trivial | skip
    refine WP_loopk (fun j : Nat => j ≤ (L[i]!).length ∧ ∀ q, q < j → (L[i]!)[q]! ≠ 1114111) (fun j => [(0, .d (.sl 1 (iss L))), (3, .d (.bool true)), (4, .d (.sl 2 (stas l))), (6, .own 10000 (tlL (L.take i)).length), (7, .d (.int .i64 i)), (8, .d (.int .i64 j))]) (fun j => [(10000, .row 36 1 (iss (tlL (L.take i))))]) 30000 (fun j => (L[i]!).length - j) [0, 3, 4, 6, 7, 8] [10000] 0 ⟨Nat.zero_le _, fun j h => by omega⟩ rfl rfl (Nat.le_of_ble_eq_true rfl) (fun _ _ => rfl) (fun _ _ => rfl) fun j hj => ?_
    obtain ⟨hj1, hj2⟩ := hj
    by_cases hj3 : j < (L[i]!).length
    · by_cases hz : (L[i]!)[j]! = 1114111
      · refine goX @hz ?_; first | exact trivial | skip
      · refine goX @hz ?_; first | exact trivial | skip
        refine ⟨j + 1, ⟨by omega, fun q hq => ?_⟩, ?_, ?_, by omega⟩
        · by_cases e : q = j
          · subst e; exact hz
          · exact hj2 q (by omega)
        · simp (disch := omega) only [go_sem, keepL, Int.natCast_add, Int.cast_ofNat_Int]
        · simp (disch := omega) only [go_sem, keepL]
    · have hje : j = (L[i]!).length := by omega
      generalize tlL (L.take i) = R at hti hsn ⊢
      refine goX @hti ?_; first | exact trivial | skip
      refine ⟨i + 1, ⟨by omega, fun q hq => ?_⟩, ?_, ?_, by omega⟩
      · by_cases e : q = i
        · subst e
          refine ⟨by omega, fun hm => ?_⟩
          obtain ⟨r, hr, e⟩ := List.getElem_of_mem hm
          have := hj2 r (by omega)
          rw [getElem!_pos _ r hr] at this
          exact this e
        · exact hi2 q (by omega)
      · simp (disch := omega) only [go_sem, keepL, Int.natCast_add, Int.cast_ofNat_Int, hsn, hti, List.length_append, List.length_cons, List.length_nil]
      · simp (disch := omega) only [go_sem, keepL, hsn]
  · have hie : i = L.length := by omega
    subst hie
    rw [List.take_length] at hti ⊢
    have hs : ∀ w ∈ L, w.length ≤ 19 ∧ (1114111 : Int) ∉ w := fun w hw => by
      obtain ⟨r, hr, rfl⟩ := List.getElem_of_mem hw
      have := hi2 r hr
      rwa [getElem!_pos L r hr] at this
    obtain ⟨g1, g2, g3⟩ := hmk hs
    have hbl : ∀ w ∈ tlL L, w.length ≤ 1000000 := fun w hw => by
      obtain ⟨v, hv, rfl⟩ := tlL_mem.1 hw
      have := (hs v hv).1
      simp only [List.length_append, List.length_cons, List.length_nil]
      omega
    have hL0 : 0 < L.length := by omega
    have c2 := pMake (L := wsorted (tlL L)) ⟨by rw [wsorted_len]; omega, fun w hw => by have := hbl w ((wsorted_perm _).mem_iff.1 hw); omega⟩
    rw [dawgR_ok g2] at c2
    rcases pOSort (l := tlL L) hbl (by omega) (by omega) with ⟨_, c1⟩ | ⟨hn, _⟩
    · generalize wsorted (tlL L) = M at c1 c2 g3
      generalize dawgF M = m at c2 g3
      generalize tlL L = T0 at c1 hti ⊢
      have c0_ := c1; have c1_ := c2; refine goX @hti ?_; first | exact trivial | skip
    · exact absurd g1 hn
end Go.Eng.Tryd

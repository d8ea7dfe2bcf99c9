/- The words behind a state, as they are walked. (and what stands behind it: texts laid together) -/
import Derived.Test.YtabfoaoeghikoaaGreatDoorMG4
import Derived.Test.YtabfoaoeghikoaaGreatDoorMR16
import Derived.Test.YtabfoaoeghikoaaGreatDoorMR7
set_option maxHeartbeats 32000000
set_option maxRecDepth 100000
set_option linter.unusedVariables false
set_option linter.unusedSimpArgs false
namespace Go.Eng.Tryz
open Go Go.Eng Go.Proofs Go.RowKit
attribute [local go_sem] is_len is_get ars_len ars_get stas_len stas_get iss_len iss_get dels
theorem pClip {w : List Int} (hw : w.length ≤ 1000000) : SoundM Tryz.prog 182 [.d (.sl 1 (is w))] [] (.clip 1 (is w)) [] 0 := by
  have e : ((is w).take w.length).drop 0 = is w := by rw [List.drop_zero]; exact List.take_of_length_le (by simp [is])
  have e2 : (is w).take w.length = is w := List.take_of_length_le (by simp [is])
  refine SoundM.run (N := 9) (ks := []) Tryz.func182 rfl (by kernel_rfl) rfl rfl rfl (by exact argsA_1) fun X_ ν_ w_ => ?_
  refine goX (And.intro @e @e2) ?_; try exact trivial
def StW (Y : Ym) (m : Nat) (out : List (List Int)) (st : LSt) : Heap := [(0, .loop Y [(6, .ref 1 0), (5, .ref 2 0)] st), (1, .var [.own 3 out.length]), (2, .var [.d (.int .i64 m)]), (3, .row 36 1 (iss out))]
theorem flat_split {A : List (List Int)} {al : List Ar} {G : Ar → List (List Int)} {j : Nat} : A ++ al.flatMap G = (A ++ (al.take j).flatMap G) ++ (al.drop j).flatMap G := by
  rw [List.append_assoc, ← List.flatMap_append, List.take_append_drop]
structure TakesW (Y : Ym) (m : Nat) : Prop where
  more : ∀ (out : List (List Int)) (w : List Int), out.length < m → w.length ≤ 6001 → SoundY Tryz.prog [.yld 0, .d (.sl 1 (is w))] (StW Y m out .ready) (.d (.bool true)) (StW Y m (out ++ [w]) .ready) 4
  full : ∀ (out : List (List Int)) (w : List Int), out.length = m → SoundY Tryz.prog [.yld 0, .d (.sl 1 (is w))] (StW Y m out .ready) (.d (.bool false)) (StW Y m out (.done (.exit 1))) 4
def WkH (Y : Ym) (m : Nat) (l : List Sta) (f : List Int) (out : List (List Int)) (st : LSt) : Heap := [(0, .var [.d (.sl 2 (stas l)), .d (.sl 1 (is (toldI manyF l l.length))), .d (.sl 1 (is f)), .yld 1]), (1, .loop Y [(6, .ref 2 0), (5, .ref 3 0)] st), (2, .var [.own 4 out.length]), (3, .var [.d (.int .i64 m)]), (4, .row 36 1 (iss out))]
def WkR (m : Nat) (out W : List (List Int)) (b : Bool) (o : List (List Int)) (st : LSt) : Prop := (out.length + W.length ≤ m → b = true ∧ o = out ++ W ∧ st = .ready) ∧ (m < out.length + W.length → b = false ∧ o = (out ++ W).take m ∧ st = .done (.exit 1))
theorem WkR_ex (m : Nat) (out W : List (List Int)) : ∃ b o st, WkR m out W b o st := by
  by_cases h : out.length + W.length ≤ m
  · exact ⟨true, out ++ W, .ready, fun _ => ⟨rfl, rfl, rfl⟩, fun h' => by omega⟩
  · exact ⟨false, (out ++ W).take m, .done (.exit 1), fun h' => by omega, fun _ => ⟨rfl, rfl, rfl⟩⟩
theorem pWalk {l : List Sta} {f : List Int} {Y : Ym} {m : Nat} (hy : TakesW Y m) (hm : m ≤ 300) (hl : StaOk l) (hka : achk l = true) (hf : f.length ≤ 9223372036854775807) : ∀ (n k : Nat) (w : List Int) (out : List (List Int)) (b : Bool) (o : List (List Int)) (st : LSt), k < l.length → l.length ≤ n + k → w.length ≤ k → out.length ≤ m → WkR m out (wf l f n k w) b o st →
    SoundM Tryz.prog 162 [.ref 0 0, .d (.int .i64 k), .d (.sl 1 (is w))] (WkH Y m l f out .ready) (.d (.bool b)) (WkH Y m l f o st) 5 := by
  have hlo := toldI_len manyF l l.length
  have hL := (achk_iff.1 hka).2.2
  intro n
  induction n with
  | zero => intro k w out b o st h1 h2; omega
  | succ n ih =>
  intro k w out b o st hk hn hw hout hR
  have hak := hl.get hk
  have hin := get_in (P := fun z => 0 ≤ z ∧ z ≤ 301) (manyI_in l l.length) (by decide) k
  by_cases hz : (toldI manyF l l.length)[k]! = 0
  · have e := wf_zero (f := f) (w := w) hka hk hn hz
    rw [e] at hR
    obtain ⟨rfl, rfl, rfl⟩ := hR.1 (by simpa using hout)
    rw [List.append_nil]
    unfold WkH
    refine SoundM.run (N := 90) (ks := [0, 1, 2, 3, 4]) Tryz.func162 rfl (by kernel_rfl) rfl rfl rfl (by exact argsA_3) fun X_ ν_ w_ => ?_
    refine goX (And.intro @hlo @hz) ?_; try exact trivial
  have cl := orderLess (a := w) (b := f) (by omega) hf
  have cc := pClone (l := w) (by omega)
  obtain ⟨A0, hA0⟩ : ∃ A0, A0 = (if (l[k]!).final = true ∧ ¬ wcmp w f < 0 then [w] else []) := ⟨_, rfl⟩
  obtain ⟨G, hG⟩ : ∃ G, (fun a : Ar => if cutW (w ++ [a.sign]) f = true then [] else wf l f n a.to.toNat (w ++ [a.sign])) = G := ⟨_, rfl⟩
  have hwf : wf l f (n + 1) k w = A0 ++ (l[k]!).arcs.flatMap G := by rw [hA0, ← hG]; rfl
  rw [hwf] at hR
  unfold WkH
  cases hfin : (l[k]!).final
  · rw [hfin, if_neg (by simp)] at hA0
    refine SoundM.run (N := 90) (ks := [0, 1, 2, 3, 4]) Tryz.func162 rfl (by kernel_rfl) rfl rfl rfl (by exact argsA_3) fun X_ ν_ w_ => ?_
    refine goX (And.intro @hlo (And.intro @hz @hfin)) ?_; try exact trivial
    refine WP_loopk (fun j : Nat => j ≤ (l[k]!).arcs.length ∧ out.length + (A0 ++ ((l[k]!).arcs.take j).flatMap G).length ≤ m) (fun j => [(0, .ref 0 0), (2, .d (.sl 1 (is w))), (53, .d (.sl 2 (ars (l[k]!).arcs))), (54, .d (.int .i64 (l[k]!).arcs.length)), (55, .d (.int .i64 j))]) (fun j => [(0, .var [.d (.sl 2 (stas l)), .d (.sl 1 (is (toldI manyF l l.length))), .d (.sl 1 (is f)), .yld 1]), (1, .loop Y [(6, .ref 2 0), (5, .ref 3 0)] .ready), (2, .var [.own 4 (out ++ (A0 ++ ((l[k]!).arcs.take j).flatMap G)).length]), (3, .var [.d (.int .i64 m)]), (4, .row 36 1 (iss (out ++ (A0 ++ ((l[k]!).arcs.take j).flatMap G))))]) 5 (fun j => (l[k]!).arcs.length - j) [0, 2, 53, 54, 55] [0, 1, 2, 3, 4] 0 ⟨Nat.zero_le _, by rw [List.take_zero, List.flatMap_nil, List.append_nil, hA0]; simp only [List.length_nil, List.length_cons]; omega⟩ rfl (by rw [List.take_zero, List.flatMap_nil, List.append_nil, hA0]; first | rfl | (rw [List.append_nil]; rfl) | (simp only [List.length_append, List.length_cons, List.length_nil]; rfl)) (Nat.le_of_ble_eq_true rfl) (fun _ _ => rfl) (fun _ _ => rfl) fun j hj => ?_
    obtain ⟨hj1, hj3⟩ := hj
    by_cases hj2 : j < (l[k]!).arcs.length
    · have hmem : (l[k]!).arcs[j]! ∈ (l[k]!).arcs := by rw [getElem!_pos _ j hj2]; exact List.getElem_mem hj2
      obtain ⟨g1, g2, _⟩ := achk_arc hka hk _ hmem
      obtain ⟨t, ht⟩ := Int.eq_ofNat_of_zero_le (by omega : 0 ≤ ((l[k]!).arcs[j]!).to)
      have hst : A0 ++ ((l[k]!).arcs.take (j + 1)).flatMap G = (A0 ++ ((l[k]!).arcs.take j).flatMap G) ++ G ((l[k]!).arcs[j]!) := by rw [atake_snoc hj2, List.flatMap_append, List.append_assoc]; simp
      have hW := flat_split (A := A0) (G := G) (al := (l[k]!).arcs) (j := j + 1)
      rw [hst] at hW
      generalize hX : A0 ++ ((l[k]!).arcs.take j).flatMap G = X at *
      have cl2 := orderLess (a := (w ++ [((l[k]!).arcs[j]!).sign]).take (min (w.length + 1) f.length)) (b := f.take (min (w.length + 1) f.length)) (by simp only [List.length_take]; omega) (by simp only [List.length_take]; omega)
      have ec : decide (wcmp ((w ++ [((l[k]!).arcs[j]!).sign]).take (min (w.length + 1) f.length)) (f.take (min (w.length + 1) f.length)) < 0) = cutW (w ++ [((l[k]!).arcs[j]!).sign]) f := by unfold cutW; simp only [List.length_append, List.length_cons, List.length_nil]
      rw [ec] at cl2
      have emin : min ((w.length + 1 : Nat) : Int) (f.length : Int) = ((min (w.length + 1) f.length : Nat) : Int) := by omega
      have ccl := pClip (w := w) (by omega)
      have c0_ := ccl; repeat ((fail_if_success (with_reducible show WP _ _ (.region 9 _ _) _ _)); first | with_reducible exact Ev.nil | with_reducible exact gd_n | ((with_reducible apply lk_ok); rfl) | ((with_reducible apply gslot_ok); rfl) | ((with_reducible apply v2d_ok); rfl) | with_reducible apply then_n | with_reducible apply WP_seq | with_reducible apply WP_skip | ((with_reducible apply WP_r (N := 90) rfl rfl); (focus simp only [Nat.reduceAdd] <;> rfl)) | ((with_reducible apply WP_d (N := 90) mixed rfl rfl); (focus simp only [Nat.reduceAdd] <;> rfl)) | ((with_reducible apply Ev_s); (focus first | (apply gd_u; (focus rfl); rfl) | (apply gd_f; (focus rfl); (focus rfl); rfl))) | ((with_reducible apply Ev_sn); (focus first | (apply gd_u; (focus rfl); rfl) | (apply gd_f; (focus rfl); (focus rfl); rfl))) | with_reducible apply gd_t | with_reducible apply Ev_mv | with_reducible apply Ev_as | with_reducible apply Ev_mc | with_reducible apply Ev_ac | ((first | (with_reducible apply Ev_pt) | (with_reducible apply Ev_ptc)); (focus rfl)) | ((first | (with_reducible apply Ev_pf) | (with_reducible apply Ev_pfc)); (focus rfl)) | (apply Ev_cf; (focus simp (disch := omega) only [go_sem, is_snoc] <;> rfl); (focus first | exact c0_); (focus rfl); (focus first | (simp (disch := omega) only [go_sem, is_snoc] <;> rfl) | rfl)) | ((with_reducible apply Ev_d); (focus simp only [Nat.reduceAdd] <;> rfl); (focus simp (disch := omega) only [go_sem, is_snoc] <;> rfl)) | (apply Ev_cv; (focus rfl); (focus simp (disch := omega) only [go_sem, is_snoc] <;> rfl); (focus first | exact c0_); (iterate 3 (focus first | (simp (disch := omega) only [go_sem, is_snoc] <;> rfl) | rfl))) | ((first | apply Ev_cmd | apply Ev_cmn); (focus simp only [Nat.reduceAdd] <;> rfl); (focus rfl); (iterate 2 (focus simp (disch := omega) only [go_sem, is_snoc] <;> rfl)); (first | ((focus first | exact c0_); (iterate 2 (focus first | (simp (disch := omega) only [go_sem, is_snoc] <;> rfl) | rfl)); (focus rfl); (iterate 3 (focus first | (simp (disch := omega) only [go_sem, is_snoc] <;> rfl) | rfl))))) | ((first | (with_reducible apply Ev_od) | (with_reducible apply Ev_on)); (focus simp only [Nat.reduceAdd] <;> rfl); (focus simp (disch := omega) only [go_sem, is_snoc] <;> rfl); (focus first | (simp (disch := omega) only [go_sem, is_snoc] <;> rfl) | rfl)) | with_reducible apply endM_n | with_reducible apply endM_r | with_reducible apply then_r | with_reducible apply then_x | with_reducible apply block_n | with_reducible apply block_r | with_reducible apply block_x | with_reducible apply block_y rfl | with_reducible apply scope_n | with_reducible apply scope_r | with_reducible apply scope_x | with_reducible apply end_n | with_reducible apply end_r | with_reducible apply WP_block | with_reducible apply WP_exit | with_reducible apply WP_ret | with_reducible apply WP_label | with_reducible apply WP_scope | ((with_reducible apply WP_t); (focus first | (simp (disch := omega) only [go_sem, is_snoc] <;> rfl) | rfl)) | ((with_reducible apply WP_f); (focus first | (simp (disch := omega) only [go_sem, is_snoc] <;> rfl) | rfl)) | ((with_reducible apply resD_t); (focus rfl)) | ((with_reducible apply resD_2); (focus rfl); (focus rfl)) | (with_reducible rfl) | ((with_reducible show List.map outKeys _ = _); simp only [List.map_cons, List.map_nil, outKeys, keys]; rfl) | ((with_reducible show orderOk _ _ = true); kernel_rfl) | ((with_reducible show _ = _); simp (disch := omega) only [go_sem, is_snoc] <;> rfl) | ((fail_if_success (with_reducible show Ev _ _ _ _ (_ :: _) _ _ _ _ _)); (show Ev _ _ _ _ (_ :: _) _ _ _ _ _)) | fail)
      refine WP_datd 9 (ks := [2010]) (d := .sl 1 (is (w ++ [((l[k]!).arcs[j]!).sign]))) rfl (by simp (disch := omega) only [go_sem, List.length_append, List.length_cons, List.length_nil]) (by simp (disch := omega) only [go_sem, dels]; rfl) ?_
      cases hcut : cutW (w ++ [((l[k]!).arcs[j]!).sign]) f
      · rw [hcut] at cl2
        have eG : G ((l[k]!).arcs[j]!) = wf l f n t (w ++ [((l[k]!).arcs[j]!).sign]) := by rw [← hG]; simp only [hcut, Bool.false_eq_true, if_false, ht, Int.toNat_natCast]
        obtain ⟨b', o', st', hR'⟩ := WkR_ex m (out ++ X) (G ((l[k]!).arcs[j]!))
        have hol : (out ++ X).length = out.length + X.length := List.length_append
        have cr := ih t (w ++ [((l[k]!).arcs[j]!).sign]) (out ++ X) b' o' st' (by omega) (by omega) (by simp only [List.length_append, List.length_cons, List.length_nil]; omega) (by omega) (eG ▸ hR')
        unfold WkH at cr
        by_cases hfit : (out ++ X).length + (G ((l[k]!).arcs[j]!)).length ≤ m
        · obtain ⟨rfl, rfl, rfl⟩ := hR'.1 hfit
          have c0_ := cl2; have c1_ := cr; refine goX (And.intro @ht (And.intro @emin (And.intro @is_takeW @if_minI))) ?_; try exact trivial
          refine ⟨j + 1, ⟨by omega, by rw [hst, List.length_append]; omega⟩, ?_, ?_, by omega⟩
          · simp (disch := omega) only [go_sem, keepL, Int.natCast_add, Int.cast_ofNat_Int]
          · rw [hst, ← List.append_assoc]
            simp (disch := omega) only [go_sem, keepL]
        · obtain ⟨rfl, rfl, rfl⟩ := hR'.2 (by omega)
          have hWl : m < out.length + (A0 ++ (l[k]!).arcs.flatMap G).length := by rw [hW]; simp only [List.length_append] at hfit ⊢; omega
          obtain ⟨rfl, rfl, rfl⟩ := hR.2 hWl
          have eo : (out ++ (A0 ++ (l[k]!).arcs.flatMap G)).take m = ((out ++ X) ++ G ((l[k]!).arcs[j]!)).take m := by
            rw [hW, ← List.append_assoc, ← List.append_assoc, List.take_append_of_le_length (by rw [List.length_append]; omega)]
          rw [eo]
          have c0_ := cl2; have c1_ := cr; refine goX (And.intro @ht (And.intro @emin (And.intro @is_takeW @if_minI))) ?_; try exact trivial
      · rw [hcut] at cl2
        have eG : G ((l[k]!).arcs[j]!) = [] := by rw [← hG]; simp only [hcut, if_true]
        rw [eG, List.append_nil] at hst
        have c0_ := cl2; refine goX (And.intro @ht (And.intro @emin (And.intro @is_takeW @if_minI))) ?_; try exact trivial
        refine ⟨j + 1, ⟨by omega, by rw [hst]; exact hj3⟩, ?_, ?_, by omega⟩
        · simp (disch := omega) only [go_sem, keepL, Int.natCast_add, Int.cast_ofNat_Int]
        · rw [hst]
          simp (disch := omega) only [go_sem, keepL]
    · have hjl : j = (l[k]!).arcs.length := by omega
      subst hjl
      rw [List.take_length] at hj3 ⊢
      obtain ⟨rfl, rfl, rfl⟩ := hR.1 hj3
      refine goT ?_; try exact trivial
  · by_cases hlt : wcmp w f < 0
    · rw [decide_eq_true hlt] at cl
      rw [hfin, if_neg (fun h => h.2 hlt)] at hA0
      refine SoundM.run (N := 90) (ks := [0, 1, 2, 3, 4]) Tryz.func162 rfl (by kernel_rfl) rfl rfl rfl (by exact argsA_3) fun X_ ν_ w_ => ?_
      have c0_ := cl; refine goX (And.intro @hlo (And.intro @hz @hfin)) ?_; try exact trivial
      refine WP_loopk (fun j : Nat => j ≤ (l[k]!).arcs.length ∧ out.length + (A0 ++ ((l[k]!).arcs.take j).flatMap G).length ≤ m) (fun j => [(0, .ref 0 0), (2, .d (.sl 1 (is w))), (53, .d (.sl 2 (ars (l[k]!).arcs))), (54, .d (.int .i64 (l[k]!).arcs.length)), (55, .d (.int .i64 j))]) (fun j => [(0, .var [.d (.sl 2 (stas l)), .d (.sl 1 (is (toldI manyF l l.length))), .d (.sl 1 (is f)), .yld 1]), (1, .loop Y [(6, .ref 2 0), (5, .ref 3 0)] .ready), (2, .var [.own 4 (out ++ (A0 ++ ((l[k]!).arcs.take j).flatMap G)).length]), (3, .var [.d (.int .i64 m)]), (4, .row 36 1 (iss (out ++ (A0 ++ ((l[k]!).arcs.take j).flatMap G))))]) 5 (fun j => (l[k]!).arcs.length - j) [0, 2, 53, 54, 55] [0, 1, 2, 3, 4] 0 ⟨Nat.zero_le _, by rw [List.take_zero, List.flatMap_nil, List.append_nil, hA0]; simp only [List.length_nil, List.length_cons]; omega⟩ rfl (by rw [List.take_zero, List.flatMap_nil, List.append_nil, hA0]; first | rfl | (rw [List.append_nil]; rfl) | (simp only [List.length_append, List.length_cons, List.length_nil]; rfl)) (Nat.le_of_ble_eq_true rfl) (fun _ _ => rfl) (fun _ _ => rfl) fun j hj => ?_
      obtain ⟨hj1, hj3⟩ := hj
      by_cases hj2 : j < (l[k]!).arcs.length
      · have hmem : (l[k]!).arcs[j]! ∈ (l[k]!).arcs := by rw [getElem!_pos _ j hj2]; exact List.getElem_mem hj2
        obtain ⟨g1, g2, _⟩ := achk_arc hka hk _ hmem
        obtain ⟨t, ht⟩ := Int.eq_ofNat_of_zero_le (by omega : 0 ≤ ((l[k]!).arcs[j]!).to)
        have hst : A0 ++ ((l[k]!).arcs.take (j + 1)).flatMap G = (A0 ++ ((l[k]!).arcs.take j).flatMap G) ++ G ((l[k]!).arcs[j]!) := by rw [atake_snoc hj2, List.flatMap_append, List.append_assoc]; simp
        have hW := flat_split (A := A0) (G := G) (al := (l[k]!).arcs) (j := j + 1)
        rw [hst] at hW
        generalize hX : A0 ++ ((l[k]!).arcs.take j).flatMap G = X at *
        have cl2 := orderLess (a := (w ++ [((l[k]!).arcs[j]!).sign]).take (min (w.length + 1) f.length)) (b := f.take (min (w.length + 1) f.length)) (by simp only [List.length_take]; omega) (by simp only [List.length_take]; omega)
        have ec : decide (wcmp ((w ++ [((l[k]!).arcs[j]!).sign]).take (min (w.length + 1) f.length)) (f.take (min (w.length + 1) f.length)) < 0) = cutW (w ++ [((l[k]!).arcs[j]!).sign]) f := by unfold cutW; simp only [List.length_append, List.length_cons, List.length_nil]
        rw [ec] at cl2
        have emin : min ((w.length + 1 : Nat) : Int) (f.length : Int) = ((min (w.length + 1) f.length : Nat) : Int) := by omega
        have ccl := pClip (w := w) (by omega)
        have c0_ := ccl; repeat ((fail_if_success (with_reducible show WP _ _ (.region 9 _ _) _ _)); first | with_reducible exact Ev.nil | with_reducible exact gd_n | ((with_reducible apply lk_ok); rfl) | ((with_reducible apply gslot_ok); rfl) | ((with_reducible apply v2d_ok); rfl) | with_reducible apply then_n | with_reducible apply WP_seq | with_reducible apply WP_skip | ((with_reducible apply WP_r (N := 90) rfl rfl); (focus simp only [Nat.reduceAdd] <;> rfl)) | ((with_reducible apply WP_d (N := 90) mixed rfl rfl); (focus simp only [Nat.reduceAdd] <;> rfl)) | ((with_reducible apply Ev_s); (focus first | (apply gd_u; (focus rfl); rfl) | (apply gd_f; (focus rfl); (focus rfl); rfl))) | ((with_reducible apply Ev_sn); (focus first | (apply gd_u; (focus rfl); rfl) | (apply gd_f; (focus rfl); (focus rfl); rfl))) | with_reducible apply gd_t | with_reducible apply Ev_mv | with_reducible apply Ev_as | with_reducible apply Ev_mc | with_reducible apply Ev_ac | ((first | (with_reducible apply Ev_pt) | (with_reducible apply Ev_ptc)); (focus rfl)) | ((first | (with_reducible apply Ev_pf) | (with_reducible apply Ev_pfc)); (focus rfl)) | (apply Ev_cf; (focus simp (disch := omega) only [go_sem, is_snoc] <;> rfl); (focus first | exact c0_); (focus rfl); (focus first | (simp (disch := omega) only [go_sem, is_snoc] <;> rfl) | rfl)) | ((with_reducible apply Ev_d); (focus simp only [Nat.reduceAdd] <;> rfl); (focus simp (disch := omega) only [go_sem, is_snoc] <;> rfl)) | (apply Ev_cv; (focus rfl); (focus simp (disch := omega) only [go_sem, is_snoc] <;> rfl); (focus first | exact c0_); (iterate 3 (focus first | (simp (disch := omega) only [go_sem, is_snoc] <;> rfl) | rfl))) | ((first | apply Ev_cmd | apply Ev_cmn); (focus simp only [Nat.reduceAdd] <;> rfl); (focus rfl); (iterate 2 (focus simp (disch := omega) only [go_sem, is_snoc] <;> rfl)); (first | ((focus first | exact c0_); (iterate 2 (focus first | (simp (disch := omega) only [go_sem, is_snoc] <;> rfl) | rfl)); (focus rfl); (iterate 3 (focus first | (simp (disch := omega) only [go_sem, is_snoc] <;> rfl) | rfl))))) | ((first | (with_reducible apply Ev_od) | (with_reducible apply Ev_on)); (focus simp only [Nat.reduceAdd] <;> rfl); (focus simp (disch := omega) only [go_sem, is_snoc] <;> rfl); (focus first | (simp (disch := omega) only [go_sem, is_snoc] <;> rfl) | rfl)) | with_reducible apply endM_n | with_reducible apply endM_r | with_reducible apply then_r | with_reducible apply then_x | with_reducible apply block_n | with_reducible apply block_r | with_reducible apply block_x | with_reducible apply block_y rfl | with_reducible apply scope_n | with_reducible apply scope_r | with_reducible apply scope_x | with_reducible apply end_n | with_reducible apply end_r | with_reducible apply WP_block | with_reducible apply WP_exit | with_reducible apply WP_ret | with_reducible apply WP_label | with_reducible apply WP_scope | ((with_reducible apply WP_t); (focus first | (simp (disch := omega) only [go_sem, is_snoc] <;> rfl) | rfl)) | ((with_reducible apply WP_f); (focus first | (simp (disch := omega) only [go_sem, is_snoc] <;> rfl) | rfl)) | ((with_reducible apply resD_t); (focus rfl)) | ((with_reducible apply resD_2); (focus rfl); (focus rfl)) | (with_reducible rfl) | ((with_reducible show List.map outKeys _ = _); simp only [List.map_cons, List.map_nil, outKeys, keys]; rfl) | ((with_reducible show orderOk _ _ = true); kernel_rfl) | ((with_reducible show _ = _); simp (disch := omega) only [go_sem, is_snoc] <;> rfl) | ((fail_if_success (with_reducible show Ev _ _ _ _ (_ :: _) _ _ _ _ _)); (show Ev _ _ _ _ (_ :: _) _ _ _ _ _)) | fail)
        refine WP_datd 9 (ks := [2010]) (d := .sl 1 (is (w ++ [((l[k]!).arcs[j]!).sign]))) rfl (by simp (disch := omega) only [go_sem, List.length_append, List.length_cons, List.length_nil]) (by simp (disch := omega) only [go_sem, dels]; rfl) ?_
        cases hcut : cutW (w ++ [((l[k]!).arcs[j]!).sign]) f
        · rw [hcut] at cl2
          have eG : G ((l[k]!).arcs[j]!) = wf l f n t (w ++ [((l[k]!).arcs[j]!).sign]) := by rw [← hG]; simp only [hcut, Bool.false_eq_true, if_false, ht, Int.toNat_natCast]
          obtain ⟨b', o', st', hR'⟩ := WkR_ex m (out ++ X) (G ((l[k]!).arcs[j]!))
          have hol : (out ++ X).length = out.length + X.length := List.length_append
          have cr := ih t (w ++ [((l[k]!).arcs[j]!).sign]) (out ++ X) b' o' st' (by omega) (by omega) (by simp only [List.length_append, List.length_cons, List.length_nil]; omega) (by omega) (eG ▸ hR')
          unfold WkH at cr
          by_cases hfit : (out ++ X).length + (G ((l[k]!).arcs[j]!)).length ≤ m
          · obtain ⟨rfl, rfl, rfl⟩ := hR'.1 hfit
            have c0_ := cl2; have c1_ := cr; refine goX (And.intro @ht (And.intro @emin (And.intro @is_takeW @if_minI))) ?_; try exact trivial
            refine ⟨j + 1, ⟨by omega, by rw [hst, List.length_append]; omega⟩, ?_, ?_, by omega⟩
            · simp (disch := omega) only [go_sem, keepL, Int.natCast_add, Int.cast_ofNat_Int]
            · rw [hst, ← List.append_assoc]
              simp (disch := omega) only [go_sem, keepL]
          · obtain ⟨rfl, rfl, rfl⟩ := hR'.2 (by omega)
            have hWl : m < out.length + (A0 ++ (l[k]!).arcs.flatMap G).length := by rw [hW]; simp only [List.length_append] at hfit ⊢; omega
            obtain ⟨rfl, rfl, rfl⟩ := hR.2 hWl
            have eo : (out ++ (A0 ++ (l[k]!).arcs.flatMap G)).take m = ((out ++ X) ++ G ((l[k]!).arcs[j]!)).take m := by
              rw [hW, ← List.append_assoc, ← List.append_assoc, List.take_append_of_le_length (by rw [List.length_append]; omega)]
            rw [eo]
            have c0_ := cl2; have c1_ := cr; refine goX (And.intro @ht (And.intro @emin (And.intro @is_takeW @if_minI))) ?_; try exact trivial
        · rw [hcut] at cl2
          have eG : G ((l[k]!).arcs[j]!) = [] := by rw [← hG]; simp only [hcut, if_true]
          rw [eG, List.append_nil] at hst
          have c0_ := cl2; refine goX (And.intro @ht (And.intro @emin (And.intro @is_takeW @if_minI))) ?_; try exact trivial
          refine ⟨j + 1, ⟨by omega, by rw [hst]; exact hj3⟩, ?_, ?_, by omega⟩
          · simp (disch := omega) only [go_sem, keepL, Int.natCast_add, Int.cast_ofNat_Int]
          · rw [hst]
            simp (disch := omega) only [go_sem, keepL]
      · have hjl : j = (l[k]!).arcs.length := by omega
        subst hjl
        rw [List.take_length] at hj3 ⊢
        obtain ⟨rfl, rfl, rfl⟩ := hR.1 hj3
        refine goT ?_; try exact trivial
    · rw [decide_eq_false hlt] at cl
      rw [hfin, if_pos ⟨rfl, hlt⟩] at hA0
      by_cases hful : out.length = m
      · have hWl : m < out.length + (A0 ++ (l[k]!).arcs.flatMap G).length := by rw [hA0]; simp only [List.length_append, List.length_cons, List.length_nil]; omega
        obtain ⟨rfl, rfl, rfl⟩ := hR.2 hWl
        rw [List.take_left' hful]
        have cy := hy.full out w hful
        unfold StW at cy
        refine SoundM.run (N := 90) (ks := [0, 1, 2, 3, 4]) Tryz.func162 rfl (by kernel_rfl) rfl rfl rfl (by exact argsA_3) fun X_ ν_ w_ => ?_
        have c0_ := cl; have c1_ := cc; have c2_ := cy; refine goX (And.intro @hlo (And.intro @hz @hfin)) ?_; try exact trivial
      have cy := hy.more out w (by omega) (by omega)
      unfold StW at cy
      refine SoundM.run (N := 90) (ks := [0, 1, 2, 3, 4]) Tryz.func162 rfl (by kernel_rfl) rfl rfl rfl (by exact argsA_3) fun X_ ν_ w_ => ?_
      have c0_ := cl; have c1_ := cc; have c2_ := cy; refine goX (And.intro @hlo (And.intro @hz @hfin)) ?_; try exact trivial
      refine WP_loopk (fun j : Nat => j ≤ (l[k]!).arcs.length ∧ out.length + (A0 ++ ((l[k]!).arcs.take j).flatMap G).length ≤ m) (fun j => [(0, .ref 0 0), (2, .d (.sl 1 (is w))), (53, .d (.sl 2 (ars (l[k]!).arcs))), (54, .d (.int .i64 (l[k]!).arcs.length)), (55, .d (.int .i64 j))]) (fun j => [(0, .var [.d (.sl 2 (stas l)), .d (.sl 1 (is (toldI manyF l l.length))), .d (.sl 1 (is f)), .yld 1]), (1, .loop Y [(6, .ref 2 0), (5, .ref 3 0)] .ready), (2, .var [.own 4 (out ++ (A0 ++ ((l[k]!).arcs.take j).flatMap G)).length]), (3, .var [.d (.int .i64 m)]), (4, .row 36 1 (iss (out ++ (A0 ++ ((l[k]!).arcs.take j).flatMap G))))]) 5 (fun j => (l[k]!).arcs.length - j) [0, 2, 53, 54, 55] [0, 1, 2, 3, 4] 0 ⟨Nat.zero_le _, by rw [List.take_zero, List.flatMap_nil, List.append_nil, hA0]; simp only [List.length_nil, List.length_cons]; omega⟩ rfl (by rw [List.take_zero, List.flatMap_nil, List.append_nil, hA0]; first | rfl | (rw [List.append_nil]; rfl) | (simp only [List.length_append, List.length_cons, List.length_nil]; rfl)) (Nat.le_of_ble_eq_true rfl) (fun _ _ => rfl) (fun _ _ => rfl) fun j hj => ?_
      obtain ⟨hj1, hj3⟩ := hj
      by_cases hj2 : j < (l[k]!).arcs.length
      · have hmem : (l[k]!).arcs[j]! ∈ (l[k]!).arcs := by rw [getElem!_pos _ j hj2]; exact List.getElem_mem hj2
        obtain ⟨g1, g2, _⟩ := achk_arc hka hk _ hmem
        obtain ⟨t, ht⟩ := Int.eq_ofNat_of_zero_le (by omega : 0 ≤ ((l[k]!).arcs[j]!).to)
        have hst : A0 ++ ((l[k]!).arcs.take (j + 1)).flatMap G = (A0 ++ ((l[k]!).arcs.take j).flatMap G) ++ G ((l[k]!).arcs[j]!) := by rw [atake_snoc hj2, List.flatMap_append, List.append_assoc]; simp
        have hW := flat_split (A := A0) (G := G) (al := (l[k]!).arcs) (j := j + 1)
        rw [hst] at hW
        generalize hX : A0 ++ ((l[k]!).arcs.take j).flatMap G = X at *
        have cl2 := orderLess (a := (w ++ [((l[k]!).arcs[j]!).sign]).take (min (w.length + 1) f.length)) (b := f.take (min (w.length + 1) f.length)) (by simp only [List.length_take]; omega) (by simp only [List.length_take]; omega)
        have ec : decide (wcmp ((w ++ [((l[k]!).arcs[j]!).sign]).take (min (w.length + 1) f.length)) (f.take (min (w.length + 1) f.length)) < 0) = cutW (w ++ [((l[k]!).arcs[j]!).sign]) f := by unfold cutW; simp only [List.length_append, List.length_cons, List.length_nil]
        rw [ec] at cl2
        have emin : min ((w.length + 1 : Nat) : Int) (f.length : Int) = ((min (w.length + 1) f.length : Nat) : Int) := by omega
        have ccl := pClip (w := w) (by omega)
        have c0_ := ccl; repeat ((fail_if_success (with_reducible show WP _ _ (.region 9 _ _) _ _)); first | with_reducible exact Ev.nil | with_reducible exact gd_n | ((with_reducible apply lk_ok); rfl) | ((with_reducible apply gslot_ok); rfl) | ((with_reducible apply v2d_ok); rfl) | with_reducible apply then_n | with_reducible apply WP_seq | with_reducible apply WP_skip | ((with_reducible apply WP_r (N := 90) rfl rfl); (focus simp only [Nat.reduceAdd] <;> rfl)) | ((with_reducible apply WP_d (N := 90) mixed rfl rfl); (focus simp only [Nat.reduceAdd] <;> rfl)) | ((with_reducible apply Ev_s); (focus first | (apply gd_u; (focus rfl); rfl) | (apply gd_f; (focus rfl); (focus rfl); rfl))) | ((with_reducible apply Ev_sn); (focus first | (apply gd_u; (focus rfl); rfl) | (apply gd_f; (focus rfl); (focus rfl); rfl))) | with_reducible apply gd_t | with_reducible apply Ev_mv | with_reducible apply Ev_as | with_reducible apply Ev_mc | with_reducible apply Ev_ac | ((first | (with_reducible apply Ev_pt) | (with_reducible apply Ev_ptc)); (focus rfl)) | ((first | (with_reducible apply Ev_pf) | (with_reducible apply Ev_pfc)); (focus rfl)) | (apply Ev_cf; (focus simp (disch := omega) only [go_sem, is_snoc] <;> rfl); (focus first | exact c0_); (focus rfl); (focus first | (simp (disch := omega) only [go_sem, is_snoc] <;> rfl) | rfl)) | ((with_reducible apply Ev_d); (focus simp only [Nat.reduceAdd] <;> rfl); (focus simp (disch := omega) only [go_sem, is_snoc] <;> rfl)) | (apply Ev_cv; (focus rfl); (focus simp (disch := omega) only [go_sem, is_snoc] <;> rfl); (focus first | exact c0_); (iterate 3 (focus first | (simp (disch := omega) only [go_sem, is_snoc] <;> rfl) | rfl))) | ((first | apply Ev_cmd | apply Ev_cmn); (focus simp only [Nat.reduceAdd] <;> rfl); (focus rfl); (iterate 2 (focus simp (disch := omega) only [go_sem, is_snoc] <;> rfl)); (first | ((focus first | exact c0_); (iterate 2 (focus first | (simp (disch := omega) only [go_sem, is_snoc] <;> rfl) | rfl)); (focus rfl); (iterate 3 (focus first | (simp (disch := omega) only [go_sem, is_snoc] <;> rfl) | rfl))))) | ((first | (with_reducible apply Ev_od) | (with_reducible apply Ev_on)); (focus simp only [Nat.reduceAdd] <;> rfl); (focus simp (disch := omega) only [go_sem, is_snoc] <;> rfl); (focus first | (simp (disch := omega) only [go_sem, is_snoc] <;> rfl) | rfl)) | with_reducible apply endM_n | with_reducible apply endM_r | with_reducible apply then_r | with_reducible apply then_x | with_reducible apply block_n | with_reducible apply block_r | with_reducible apply block_x | with_reducible apply block_y rfl | with_reducible apply scope_n | with_reducible apply scope_r | with_reducible apply scope_x | with_reducible apply end_n | with_reducible apply end_r | with_reducible apply WP_block | with_reducible apply WP_exit | with_reducible apply WP_ret | with_reducible apply WP_label | with_reducible apply WP_scope | ((with_reducible apply WP_t); (focus first | (simp (disch := omega) only [go_sem, is_snoc] <;> rfl) | rfl)) | ((with_reducible apply WP_f); (focus first | (simp (disch := omega) only [go_sem, is_snoc] <;> rfl) | rfl)) | ((with_reducible apply resD_t); (focus rfl)) | ((with_reducible apply resD_2); (focus rfl); (focus rfl)) | (with_reducible rfl) | ((with_reducible show List.map outKeys _ = _); simp only [List.map_cons, List.map_nil, outKeys, keys]; rfl) | ((with_reducible show orderOk _ _ = true); kernel_rfl) | ((with_reducible show _ = _); simp (disch := omega) only [go_sem, is_snoc] <;> rfl) | ((fail_if_success (with_reducible show Ev _ _ _ _ (_ :: _) _ _ _ _ _)); (show Ev _ _ _ _ (_ :: _) _ _ _ _ _)) | fail)
        refine WP_datd 9 (ks := [2010]) (d := .sl 1 (is (w ++ [((l[k]!).arcs[j]!).sign]))) rfl (by simp (disch := omega) only [go_sem, List.length_append, List.length_cons, List.length_nil]) (by simp (disch := omega) only [go_sem, dels]; rfl) ?_
        cases hcut : cutW (w ++ [((l[k]!).arcs[j]!).sign]) f
        · rw [hcut] at cl2
          have eG : G ((l[k]!).arcs[j]!) = wf l f n t (w ++ [((l[k]!).arcs[j]!).sign]) := by rw [← hG]; simp only [hcut, Bool.false_eq_true, if_false, ht, Int.toNat_natCast]
          obtain ⟨b', o', st', hR'⟩ := WkR_ex m (out ++ X) (G ((l[k]!).arcs[j]!))
          have hol : (out ++ X).length = out.length + X.length := List.length_append
          have cr := ih t (w ++ [((l[k]!).arcs[j]!).sign]) (out ++ X) b' o' st' (by omega) (by omega) (by simp only [List.length_append, List.length_cons, List.length_nil]; omega) (by omega) (eG ▸ hR')
          unfold WkH at cr
          by_cases hfit : (out ++ X).length + (G ((l[k]!).arcs[j]!)).length ≤ m
          · obtain ⟨rfl, rfl, rfl⟩ := hR'.1 hfit
            have c0_ := cl2; have c1_ := cr; refine goX (And.intro @ht (And.intro @emin (And.intro @is_takeW @if_minI))) ?_; try exact trivial
            refine ⟨j + 1, ⟨by omega, by rw [hst, List.length_append]; omega⟩, ?_, ?_, by omega⟩
            · simp (disch := omega) only [go_sem, keepL, Int.natCast_add, Int.cast_ofNat_Int]
            · rw [hst, ← List.append_assoc]
              simp (disch := omega) only [go_sem, keepL]
          · obtain ⟨rfl, rfl, rfl⟩ := hR'.2 (by omega)
            have hWl : m < out.length + (A0 ++ (l[k]!).arcs.flatMap G).length := by rw [hW]; simp only [List.length_append] at hfit ⊢; omega
            obtain ⟨rfl, rfl, rfl⟩ := hR.2 hWl
            have eo : (out ++ (A0 ++ (l[k]!).arcs.flatMap G)).take m = ((out ++ X) ++ G ((l[k]!).arcs[j]!)).take m := by
              rw [hW, ← List.append_assoc, ← List.append_assoc, List.take_append_of_le_length (by rw [List.length_append]; omega)]
            rw [eo]
            have c0_ := cl2; have c1_ := cr; refine goX (And.intro @ht (And.intro @emin (And.intro @is_takeW @if_minI))) ?_; try exact trivial
        · rw [hcut] at cl2
          have eG : G ((l[k]!).arcs[j]!) = [] := by rw [← hG]; simp only [hcut, if_true]
          rw [eG, List.append_nil] at hst
          have c0_ := cl2; refine goX (And.intro @ht (And.intro @emin (And.intro @is_takeW @if_minI))) ?_; try exact trivial
          refine ⟨j + 1, ⟨by omega, by rw [hst]; exact hj3⟩, ?_, ?_, by omega⟩
          · simp (disch := omega) only [go_sem, keepL, Int.natCast_add, Int.cast_ofNat_Int]
          · rw [hst]
            simp (disch := omega) only [go_sem, keepL]
      · have hjl : j = (l[k]!).arcs.length := by omega
        subst hjl
        rw [List.take_length] at hj3 ⊢
        obtain ⟨rfl, rfl, rfl⟩ := hR.1 hj3
        refine goT ?_; try exact trivial
end Go.Eng.Tryz

/- Automata: how many, how deep, whether; as told, and as the law tells it. (and what stands behind it: texts laid together) -/
import Derived.Test.YtabfoaoeghikoaaGreatDoorMG4
import Derived.Test.YtabfoaoeghikoaaGreatDoorMR4
import Derived.Test.YtabfoaoeghikoaaGreatDoorMR2
set_option linter.unusedVariables false
set_option linter.unusedSimpArgs false
namespace Go.Eng.Tryz
open Go Go.Eng Go.Proofs Go.RowKit
attribute [local go_sem] ty0 ty1 ty2 ty3 ty4 ty5 ty6 ty7 ty8 ty9 ty10 ty11 ty12 ty13 ty14 ty15 ty16 ty17 ty18
attribute [local go_sem] is_len is_get ars_len ars_get stas_len stas_get is_setZ is_repZ
theorem arcsIn_of {l : List Sta} (hka : achk l = true) {s : Sta} (h : s ∈ l) : arcsIn s l.length := by
  obtain ⟨k, hk, rfl⟩ := List.getElem_of_mem h
  intro a ha
  rw [← getElem!_pos l k hk] at ha
  have := achk_arc hka hk a ha
  exact ⟨by omega, this.2.1⟩
theorem deep_in {out : List Int} {j : Nat} (h : ∀ z ∈ out, -1 ≤ z ∧ z ≤ (j : Int)) (s : Sta) : -1 ≤ deepF s out ∧ deepF s out ≤ ((j + 1 : Nat) : Int) := by
  have := deep_fold h s.arcs (if s.final = true then 0 else -1) (by split <;> omega)
  have e : deepF s out = s.arcs.foldl (deep1 out) (if s.final = true then 0 else -1) := rfl
  rw [e]
  omega
theorem manyI_in (l : List Sta) (j : Nat) : ∀ z ∈ toldI manyF l j, 0 ≤ z ∧ z ≤ 301 := toldI_inv (inv := fun _ z => 0 ≤ z ∧ z ≤ 301) (by decide) (fun _ _ h => h) (fun j out h => many_fold h _ _ (by split <;> decide)) j
theorem pToldM {l : List Sta} (hl : StaOk l) (hka : achk l = true) : Sound Tryz.prog 68 [.sl 2 (stas l), .fn 69] (.sl 1 (is (toldI manyF l l.length))) := by
  have h6 := (achk_iff.1 hka).2.2
  exact pTold (inv := fun _ z => 0 ≤ z ∧ z ≤ 301) hka hl (by decide) (fun _ _ h => h) (fun j out h => many_fold h _ _ (by split <;> decide)) (fun s out j _ hs ho hin => pMany1 hin (ho ▸ arcsIn_of hka hs) (hl.2 s hs) (by omega))
theorem pToldD {l : List Sta} (hl : StaOk l) (hka : achk l = true) : Sound Tryz.prog 68 [.sl 2 (stas l), .fn 70] (.sl 1 (is (toldI deepF l l.length))) := by
  have h6 := (achk_iff.1 hka).2.2
  exact pTold (inv := fun j z => -1 ≤ z ∧ z ≤ (j : Int)) hka hl (by decide) (fun _ _ h => by omega) (fun j out h => deep_in h _) (fun s out j hj hs ho hin => pDeep1 (n := j) (by omega) hin (ho ▸ arcsIn_of hka hs) (hl.2 s hs) (by omega))
def manyN (l : List Sta) : Int := if achk l = true then (toldI manyF l l.length)[0]! else 0
def deepN (l : List Sta) : Int := if achk l = true then (toldI deepF l l.length)[0]! else -1
set_option maxHeartbeats 4000000 in
set_option maxRecDepth 10000 in
theorem pManyW {l : List Sta} (hl : StaOk l) : Sound Tryz.prog 26 [.sl 2 (stas l)] (.int .i64 (manyN l)) := by
  have cch := pCheckA hl
  cases hka : achk l
  · have e : manyN l = 0 := if_neg (by rw [hka]; simp)
    rw [hka] at cch
    rw [e]
    refine Sound.run (N := 10) Tryz.func26 rfl (by kernel_rfl) rfl rfl rfl (by first | exact args0_0 | exact args0_1 | exact args0_2 | exact args0_3 | exact args0_4 | exact args0_5 | exact args0_6) fun X_ w_ => ?_
    have c0_ := cch; refine goT ?_; first | exact trivial | skip
  · have e : manyN l = (toldI manyF l l.length)[0]! := if_pos hka
    have ct := pToldM hl hka
    have hlo := toldI_len manyF l l.length
    have hl0 := (achk_iff.1 hka).2.1
    rw [hka] at cch
    rw [e]
    generalize toldI manyF l l.length = out at *
    refine Sound.run (N := 10) Tryz.func26 rfl (by kernel_rfl) rfl rfl rfl (by first | exact args0_0 | exact args0_1 | exact args0_2 | exact args0_3 | exact args0_4 | exact args0_5 | exact args0_6) fun X_ w_ => ?_
    have c0_ := cch; have c1_ := ct; refine goX @hlo ?_; first | exact trivial | skip
set_option maxHeartbeats 4000000 in
set_option maxRecDepth 10000 in
theorem pDeepW {l : List Sta} (hl : StaOk l) : Sound Tryz.prog 27 [.sl 2 (stas l)] (.int .i64 (deepN l)) := by
  have cch := pCheckA hl
  cases hka : achk l
  · have e : deepN l = -1 := if_neg (by rw [hka]; simp)
    rw [hka] at cch
    rw [e]
    refine Sound.run (N := 10) Tryz.func27 rfl (by kernel_rfl) rfl rfl rfl (by first | exact args0_0 | exact args0_1 | exact args0_2 | exact args0_3 | exact args0_4 | exact args0_5 | exact args0_6) fun X_ w_ => ?_
    have c0_ := cch; refine goT ?_; first | exact trivial | skip
  · have e : deepN l = (toldI deepF l l.length)[0]! := if_pos hka
    have ct := pToldD hl hka
    have hlo := toldI_len deepF l l.length
    have hl0 := (achk_iff.1 hka).2.1
    rw [hka] at cch
    rw [e]
    generalize toldI deepF l l.length = out at *
    refine Sound.run (N := 10) Tryz.func27 rfl (by kernel_rfl) rfl rfl rfl (by first | exact args0_0 | exact args0_1 | exact args0_2 | exact args0_3 | exact args0_4 | exact args0_5 | exact args0_6) fun X_ w_ => ?_
    have c0_ := cch; have c1_ := ct; refine goX @hlo ?_; first | exact trivial | skip
/-! ### The law's own -/
theorem lastS_take {l : List Ar} {k : Nat} (h : k < l.length) (last : Int) : lastS last (l.take (k + 1)) = (l[k]!).sign := by rw [atake_snoc h, lastS_snoc]
theorem arcsOk_f {i n last : Int} {l : List Ar} {k : Nat} (hk : k < l.length) (h : arcsOk i n last (l.take k) = true) (hb : arcOk i n (lastS last (l.take k)) (l[k]!) = false) : arcsOk i n last l = false := by
  have e : l = l.take k ++ (l[k]! :: l.drop (k + 1)) := by rw [← adrop_at hk, List.take_append_drop]
  rw [e, arcsOk_app, h]
  simp only [arcsOk, hb, Bool.false_and, Bool.and_false]
theorem achk_len {l : List Sta} (h : statesOk l l.length = true) : achk l = (decide ((1 : Int) ≤ l.length) && decide ((l.length : Int) ≤ 6001)) := by
  unfold achk
  rw [h, Bool.true_and]
  by_cases h1 : 0 < l.length ∧ l.length ≤ 6001
  · rw [decide_eq_true h1, decide_eq_true (by omega), decide_eq_true (by omega)]; rfl
  · rw [decide_eq_false h1]
    by_cases h2 : 0 < l.length
    · rw [decide_eq_false (show ¬ (l.length : Int) ≤ 6001 by omega), Bool.and_false]
    · rw [decide_eq_false (show ¬ (1 : Int) ≤ l.length by omega), Bool.false_and]
set_option maxHeartbeats 8000000 in
set_option maxRecDepth 10000 in
theorem rCheckA {l : List Sta} (hl : StaOk l) : Sound Tryz.prog 20 [.sl 2 (stas l)] (.bool (achk l)) := by
  obtain ⟨hlen, hal⟩ := id hl
  refine Sound.run (N := 74) Tryz.func20 rfl (by kernel_rfl) rfl rfl rfl (by first | exact args0_0 | exact args0_1 | exact args0_2 | exact args0_3 | exact args0_4 | exact args0_5 | exact args0_6) fun X_ w_ => ?_
  refine goT ?_; first | exact trivial | skip
  refine WP_loopk (fun i : Nat => i ≤ l.length ∧ statesOk l i = true) (fun i => [(0, .d (.sl 2 (stas l))), (3, .d (.int .i64 i))]) (fun _ => []) 0 (fun i => l.length - i) [0, 3] [] 0 ⟨Nat.zero_le _, rfl⟩ rfl rfl (Nat.zero_le _) (fun _ _ => rfl) (fun _ _ => rfl) fun i hi => ?_
  obtain ⟨hi1, hi2⟩ := hi
  by_cases hi3 : i < l.length
  · have hai := hl.get hi3
    refine goT ?_; first | exact trivial | skip
    refine WP_loopk (fun k : Nat => k ≤ (l[i]!).arcs.length ∧ arcsOk i l.length (-1) ((l[i]!).arcs.take k) = true) (fun k => [(0, .d (.sl 2 (stas l))), (3, .d (.int .i64 i)), (4, .d (.int .i64 k))]) (fun _ => []) 0 (fun k => (l[i]!).arcs.length - k) [0, 3, 4] [] 0 ⟨Nat.zero_le _, rfl⟩ rfl rfl (Nat.zero_le _) (fun _ _ => rfl) (fun _ _ => rfl) fun k hk => ?_
    obtain ⟨hk1, hk2⟩ := hk
    by_cases hk3 : k < (l[i]!).arcs.length
    · have cg := refGood (z := ((l[i]!).arcs[k]!).sign)
      have hs := atake_snoc hk3
      have hbad : arcOk i l.length (lastS (-1) ((l[i]!).arcs.take k)) ((l[i]!).arcs[k]!) = false → achk l = false := fun hb => achk_f hi3 (arcsOk_f hk3 hk2 hb)
      have hgo : arcOk i l.length (lastS (-1) ((l[i]!).arcs.take k)) ((l[i]!).arcs[k]!) = true → arcsOk i l.length (-1) ((l[i]!).arcs.take (k + 1)) = true := fun hb => by rw [hs, arcsOk_app, hk2]; simp only [arcsOk, hb, Bool.and_true]
      have hlast : k = 0 ∧ lastS (-1) ((l[i]!).arcs.take k) = -1 ∨ ∃ m, k = m + 1 ∧ lastS (-1) ((l[i]!).arcs.take k) = ((l[i]!).arcs[m]!).sign := by
        cases k with
        | zero => exact .inl ⟨rfl, rfl⟩
        | succ m => exact .inr ⟨m, rfl, lastS_take (by omega) _⟩
      generalize lastS (-1) ((l[i]!).arcs.take k) = last at *
      unfold arcOk at hbad hgo
      by_cases h1 : gsign ((l[i]!).arcs[k]!).sign = true
      · rw [h1] at cg
        by_cases h2 : (i : Int) < ((l[i]!).arcs[k]!).to
        · by_cases h3 : ((l[i]!).arcs[k]!).to < l.length
          · rcases hlast with ⟨rfl, rfl⟩ | ⟨m, rfl, hlm⟩
            · have h4 : (-1 : Int) < ((l[i]!).arcs[0]!).sign := by have := of_decide_eq_true h1; omega
              have := hgo (by rw [h1, decide_eq_true h2, decide_eq_true h3, decide_eq_true h4]; rfl)
              have c0_ := cg; refine goT ?_; first | exact trivial | skip
              refine ⟨0 + 1, ⟨by omega, this⟩, ?_, rfl, by omega⟩
              simp (disch := omega) only [go_sem, keepL, Int.natCast_add, Int.cast_ofNat_Int]
            · have em : ((m + 1 : Nat) : Int) - 1 = (m : Int) := by omega
              by_cases h4 : last < ((l[i]!).arcs[m + 1]!).sign
              · have := hgo (by rw [h1, decide_eq_true h2, decide_eq_true h3, decide_eq_true h4]; rfl)
                rw [hlm] at h4
                have c0_ := cg; refine goX @em ?_; first | exact trivial | skip
                refine ⟨m + 1 + 1, ⟨by omega, this⟩, ?_, rfl, by omega⟩
                simp (disch := omega) only [go_sem, keepL, Int.natCast_add, Int.cast_ofNat_Int]
              · have := hbad (by rw [decide_eq_false h4]; rfl)
                rw [hlm] at h4
                have c0_ := cg; refine goX (And.intro @em @this) ?_; first | exact trivial | skip
          · have := hbad (by rw [decide_eq_false h3, Bool.and_false])
            have c0_ := cg; refine goX @this ?_; first | exact trivial | skip
        · have := hbad (by rw [decide_eq_false h2, Bool.and_false, Bool.false_and])
          have c0_ := cg; refine goX @this ?_; first | exact trivial | skip
      · have h1 := Bool.eq_false_iff.2 h1
        rw [h1] at cg
        have := hbad (by rw [h1, Bool.and_false, Bool.false_and, Bool.false_and])
        have c0_ := cg; refine goX @this ?_; first | exact trivial | skip
    · have hkl : k = (l[i]!).arcs.length := by omega
      subst hkl
      rw [List.take_length] at hk2
      have := statesOk_step l i
      rw [hi2, hk2] at this
      refine goT ?_; first | exact trivial | skip
      refine ⟨i + 1, ⟨by omega, this⟩, ?_, rfl, by omega⟩
      simp (disch := omega) only [go_sem, keepL, Int.natCast_add, Int.cast_ofNat_Int]
  · have hil : i = l.length := by omega
    subst hil
    rw [achk_len hi2]
    by_cases h1 : (1 : Int) ≤ l.length
    · rw [decide_eq_true h1, Bool.true_and]
      refine goT ?_; first | exact trivial | skip
    · rw [decide_eq_false h1, Bool.false_and]
      refine goT ?_; first | exact trivial | skip
/-! ### Whether a word is in an automaton -/
def hasF (l : List Sta) (w : List Int) : Bool := achk l && (match leadF l 0 w with | some t => (l[t.toNat]!).final | none => false)
set_option maxHeartbeats 4000000 in
set_option maxRecDepth 10000 in
theorem pHasW {l : List Sta} {w : List Int} (hl : StaOk l) (hw : w.length ≤ 9223372036854775807) : Sound Tryz.prog 25 [.sl 2 (stas l), .sl 1 (is w)] (.bool (hasF l w)) := by
  have cch := pCheckA hl
  have hlen := hl.1
  cases hka : achk l
  · have e : hasF l w = false := by unfold hasF; rw [hka]; rfl
    rw [e]
    rw [hka] at cch
    refine Sound.run (N := 35) Tryz.func25 rfl (by kernel_rfl) rfl rfl rfl (by first | exact args0_0 | exact args0_1 | exact args0_2 | exact args0_3 | exact args0_4 | exact args0_5 | exact args0_6) fun X_ w_ => ?_
    have c0_ := cch; refine goT ?_; first | exact trivial | skip
    refine WP_loopk (fun k : Nat => k = 0) (fun k => [(0, .d (.sl 2 (stas l))), (5, .d (.int .i64 0)), (6, .d (.bool false)), (11, .d (.sl 1 (is w))), (12, .d (.int .i64 w.length)), (13, .d (.int .i64 0))]) (fun _ => []) 0 (fun _ => 0) [0, 5, 6, 11, 12, 13] [] 0 rfl rfl rfl (Nat.zero_le _) (fun _ _ => rfl) (fun _ _ => rfl) fun k hk => ?_
    subst hk
    by_cases h0 : 0 < w.length
    · refine goT ?_; first | exact trivial | skip
    · refine goT ?_; first | exact trivial | skip
  rw [hka] at cch
  have hl0 := (achk_iff.1 hka).2.1
  have e : hasF l w = match leadF l 0 w with | some t => (l[t.toNat]!).final | none => false := by unfold hasF; rw [hka]; rfl
  rw [e]
  refine Sound.run (N := 35) Tryz.func25 rfl (by kernel_rfl) rfl rfl rfl (by first | exact args0_0 | exact args0_1 | exact args0_2 | exact args0_3 | exact args0_4 | exact args0_5 | exact args0_6) fun X_ w_ => ?_
  have c0_ := cch; refine goT ?_; first | exact trivial | skip
  refine WP_loopk (fun p : Nat × Option Int => p.1 ≤ w.length ∧ leadF l 0 (w.take p.1) = p.2) (fun p => [(0, .d (.sl 2 (stas l))), (5, .d (.int .i64 (p.2.getD 0))), (6, .d (.bool p.2.isSome)), (11, .d (.sl 1 (is w))), (12, .d (.int .i64 w.length)), (13, .d (.int .i64 p.1))]) (fun _ => []) 0 (fun p => w.length - p.1) [0, 5, 6, 11, 12, 13] [] (0, some 0) ⟨Nat.zero_le _, rfl⟩ rfl rfl (Nat.zero_le _) (fun _ _ => rfl) (fun _ _ => rfl) fun p hp => ?_
  obtain ⟨k, o⟩ := p
  obtain ⟨hk1, hk2⟩ := hp
  simp only at hk1 hk2
  cases o with
  | none =>
    have ef := leadF_none hk2
    by_cases hk3 : k < w.length
    · repeat (first | with_reducible exact Ev.nil | with_reducible exact gd_n | ((with_reducible apply lk_ok); rfl) | ((with_reducible apply gslot_ok); rfl) | ((with_reducible apply v2d_ok); rfl) | with_reducible apply then_n | with_reducible apply WP_seq | with_reducible apply WP_skip | ((with_reducible apply WP_r (N := 35) rfl rfl); (focus simp only [Nat.reduceAdd] <;> rfl)) | ((with_reducible apply WP_d (N := 35) mixed rfl rfl); (focus simp only [Nat.reduceAdd] <;> rfl)) | ((with_reducible apply Ev_s); (focus first | (apply gd_u; (focus rfl); rfl) | (apply gd_f; (focus rfl); (focus rfl); rfl))) | ((with_reducible apply Ev_sn); (focus first | (apply gd_u; (focus rfl); rfl) | (apply gd_f; (focus rfl); (focus rfl); rfl))) | with_reducible apply gd_t | with_reducible apply Ev_mv | with_reducible apply Ev_as | with_reducible apply Ev_mc | with_reducible apply Ev_ac | ((first | (with_reducible apply Ev_pt) | (with_reducible apply Ev_ptc)); (focus rfl)) | ((first | (with_reducible apply Ev_pf) | (with_reducible apply Ev_pfc)); (focus rfl)) | ((with_reducible apply Ev_d); (focus simp only [Nat.reduceAdd] <;> rfl); (focus simp (disch := omega) only [go_sem, ef, Option.getD_none, Option.isSome_none] <;> rfl)) | ((first | (with_reducible apply Ev_od) | (with_reducible apply Ev_on)); (focus simp only [Nat.reduceAdd] <;> rfl); (focus simp (disch := omega) only [go_sem, ef, Option.getD_none, Option.isSome_none] <;> rfl); (focus first | (simp (disch := omega) only [go_sem, ef, Option.getD_none, Option.isSome_none] <;> rfl) | rfl)) | with_reducible apply endM_n | with_reducible apply endM_r | with_reducible apply then_r | with_reducible apply then_x | with_reducible apply block_n | with_reducible apply block_r | with_reducible apply block_x | with_reducible apply block_y rfl | with_reducible apply scope_n | with_reducible apply scope_r | with_reducible apply scope_x | with_reducible apply end_n | with_reducible apply end_r | with_reducible apply WP_block | with_reducible apply WP_exit | with_reducible apply WP_ret | with_reducible apply WP_label | with_reducible apply WP_scope | ((with_reducible apply WP_t); (focus first | (simp (disch := omega) only [go_sem, ef, Option.getD_none, Option.isSome_none] <;> rfl) | rfl)) | ((with_reducible apply WP_f); (focus first | (simp (disch := omega) only [go_sem, ef, Option.getD_none, Option.isSome_none] <;> rfl) | rfl)) | ((with_reducible apply resD_t); (focus rfl)) | ((with_reducible apply resD_2); (focus rfl); (focus rfl)) | (with_reducible rfl) | ((with_reducible show List.map outKeys _ = _); simp only [List.map_cons, List.map_nil, outKeys, keys]; rfl) | ((with_reducible show orderOk _ _ = true); kernel_rfl) | ((with_reducible show _ = _); simp (disch := omega) only [go_sem, ef, Option.getD_none, Option.isSome_none] <;> rfl) | ((fail_if_success (with_reducible show Ev _ _ _ _ (_ :: _) _ _ _ _ _)); (show Ev _ _ _ _ (_ :: _) _ _ _ _ _)) | fail)
    · repeat (first | with_reducible exact Ev.nil | with_reducible exact gd_n | ((with_reducible apply lk_ok); rfl) | ((with_reducible apply gslot_ok); rfl) | ((with_reducible apply v2d_ok); rfl) | with_reducible apply then_n | with_reducible apply WP_seq | with_reducible apply WP_skip | ((with_reducible apply WP_r (N := 35) rfl rfl); (focus simp only [Nat.reduceAdd] <;> rfl)) | ((with_reducible apply WP_d (N := 35) mixed rfl rfl); (focus simp only [Nat.reduceAdd] <;> rfl)) | ((with_reducible apply Ev_s); (focus first | (apply gd_u; (focus rfl); rfl) | (apply gd_f; (focus rfl); (focus rfl); rfl))) | ((with_reducible apply Ev_sn); (focus first | (apply gd_u; (focus rfl); rfl) | (apply gd_f; (focus rfl); (focus rfl); rfl))) | with_reducible apply gd_t | with_reducible apply Ev_mv | with_reducible apply Ev_as | with_reducible apply Ev_mc | with_reducible apply Ev_ac | ((first | (with_reducible apply Ev_pt) | (with_reducible apply Ev_ptc)); (focus rfl)) | ((first | (with_reducible apply Ev_pf) | (with_reducible apply Ev_pfc)); (focus rfl)) | ((with_reducible apply Ev_d); (focus simp only [Nat.reduceAdd] <;> rfl); (focus simp (disch := omega) only [go_sem, ef, Option.getD_none, Option.isSome_none] <;> rfl)) | ((first | (with_reducible apply Ev_od) | (with_reducible apply Ev_on)); (focus simp only [Nat.reduceAdd] <;> rfl); (focus simp (disch := omega) only [go_sem, ef, Option.getD_none, Option.isSome_none] <;> rfl); (focus first | (simp (disch := omega) only [go_sem, ef, Option.getD_none, Option.isSome_none] <;> rfl) | rfl)) | with_reducible apply endM_n | with_reducible apply endM_r | with_reducible apply then_r | with_reducible apply then_x | with_reducible apply block_n | with_reducible apply block_r | with_reducible apply block_x | with_reducible apply block_y rfl | with_reducible apply scope_n | with_reducible apply scope_r | with_reducible apply scope_x | with_reducible apply end_n | with_reducible apply end_r | with_reducible apply WP_block | with_reducible apply WP_exit | with_reducible apply WP_ret | with_reducible apply WP_label | with_reducible apply WP_scope | ((with_reducible apply WP_t); (focus first | (simp (disch := omega) only [go_sem, ef, Option.getD_none, Option.isSome_none] <;> rfl) | rfl)) | ((with_reducible apply WP_f); (focus first | (simp (disch := omega) only [go_sem, ef, Option.getD_none, Option.isSome_none] <;> rfl) | rfl)) | ((with_reducible apply resD_t); (focus rfl)) | ((with_reducible apply resD_2); (focus rfl); (focus rfl)) | (with_reducible rfl) | ((with_reducible show List.map outKeys _ = _); simp only [List.map_cons, List.map_nil, outKeys, keys]; rfl) | ((with_reducible show orderOk _ _ = true); kernel_rfl) | ((with_reducible show _ = _); simp (disch := omega) only [go_sem, ef, Option.getD_none, Option.isSome_none] <;> rfl) | ((fail_if_success (with_reducible show Ev _ _ _ _ (_ :: _) _ _ _ _ _)); (show Ev _ _ _ _ (_ :: _) _ _ _ _ _)) | fail)
  | some t =>
    by_cases hk3 : k < w.length
    · have cs := pStep (f := t) (z := w[k]!) hl
      have hst := leadF_take (l := l) (f := 0) hk3
      rw [hk2] at hst
      simp only at hst
      cases hsf : stepF l t (w[k]!) with
      | none =>
        rw [hsf] at cs hst
        unfold stepR at cs
        have c0_ := cs; repeat (first | with_reducible exact Ev.nil | with_reducible exact gd_n | ((with_reducible apply lk_ok); rfl) | ((with_reducible apply gslot_ok); rfl) | ((with_reducible apply v2d_ok); rfl) | with_reducible apply then_n | with_reducible apply WP_seq | with_reducible apply WP_skip | ((with_reducible apply WP_r (N := 35) rfl rfl); (focus simp only [Nat.reduceAdd] <;> rfl)) | ((with_reducible apply WP_d (N := 35) mixed rfl rfl); (focus simp only [Nat.reduceAdd] <;> rfl)) | ((with_reducible apply Ev_s); (focus first | (apply gd_u; (focus rfl); rfl) | (apply gd_f; (focus rfl); (focus rfl); rfl))) | ((with_reducible apply Ev_sn); (focus first | (apply gd_u; (focus rfl); rfl) | (apply gd_f; (focus rfl); (focus rfl); rfl))) | with_reducible apply gd_t | with_reducible apply Ev_mv | with_reducible apply Ev_as | with_reducible apply Ev_mc | with_reducible apply Ev_ac | ((first | (with_reducible apply Ev_pt) | (with_reducible apply Ev_ptc)); (focus rfl)) | ((first | (with_reducible apply Ev_pf) | (with_reducible apply Ev_pfc)); (focus rfl)) | (apply Ev_cf; (focus simp (disch := omega) only [go_sem, Option.getD_some, Option.isSome_some] <;> rfl); (focus first | exact c0_); (focus rfl); (focus first | (simp (disch := omega) only [go_sem, Option.getD_some, Option.isSome_some] <;> rfl) | rfl)) | ((with_reducible apply Ev_d); (focus simp only [Nat.reduceAdd] <;> rfl); (focus simp (disch := omega) only [go_sem, Option.getD_some, Option.isSome_some] <;> rfl)) | (apply Ev_cv; (focus rfl); (focus simp (disch := omega) only [go_sem, Option.getD_some, Option.isSome_some] <;> rfl); (focus first | exact c0_); (iterate 3 (focus first | (simp (disch := omega) only [go_sem, Option.getD_some, Option.isSome_some] <;> rfl) | rfl))) | ((first | apply Ev_cmd | apply Ev_cmn); (focus simp only [Nat.reduceAdd] <;> rfl); (focus rfl); (iterate 2 (focus simp (disch := omega) only [go_sem, Option.getD_some, Option.isSome_some] <;> rfl)); (first | ((focus first | exact c0_); (iterate 2 (focus first | (simp (disch := omega) only [go_sem, Option.getD_some, Option.isSome_some] <;> rfl) | rfl)); (focus rfl); (iterate 3 (focus first | (simp (disch := omega) only [go_sem, Option.getD_some, Option.isSome_some] <;> rfl) | rfl))))) | ((first | (with_reducible apply Ev_od) | (with_reducible apply Ev_on)); (focus simp only [Nat.reduceAdd] <;> rfl); (focus simp (disch := omega) only [go_sem, Option.getD_some, Option.isSome_some] <;> rfl); (focus first | (simp (disch := omega) only [go_sem, Option.getD_some, Option.isSome_some] <;> rfl) | rfl)) | with_reducible apply endM_n | with_reducible apply endM_r | with_reducible apply then_r | with_reducible apply then_x | with_reducible apply block_n | with_reducible apply block_r | with_reducible apply block_x | with_reducible apply block_y rfl | with_reducible apply scope_n | with_reducible apply scope_r | with_reducible apply scope_x | with_reducible apply end_n | with_reducible apply end_r | with_reducible apply WP_block | with_reducible apply WP_exit | with_reducible apply WP_ret | with_reducible apply WP_label | with_reducible apply WP_scope | ((with_reducible apply WP_t); (focus first | (simp (disch := omega) only [go_sem, Option.getD_some, Option.isSome_some] <;> rfl) | rfl)) | ((with_reducible apply WP_f); (focus first | (simp (disch := omega) only [go_sem, Option.getD_some, Option.isSome_some] <;> rfl) | rfl)) | ((with_reducible apply resD_t); (focus rfl)) | ((with_reducible apply resD_2); (focus rfl); (focus rfl)) | (with_reducible rfl) | ((with_reducible show List.map outKeys _ = _); simp only [List.map_cons, List.map_nil, outKeys, keys]; rfl) | ((with_reducible show orderOk _ _ = true); kernel_rfl) | ((with_reducible show _ = _); simp (disch := omega) only [go_sem, Option.getD_some, Option.isSome_some] <;> rfl) | ((fail_if_success (with_reducible show Ev _ _ _ _ (_ :: _) _ _ _ _ _)); (show Ev _ _ _ _ (_ :: _) _ _ _ _ _)) | fail)
        refine ⟨(k + 1, none), ⟨by show k + 1 ≤ _; omega, hst⟩, ?_, rfl, by show w.length - (k + 1) < w.length - k; omega⟩
        simp (disch := omega) only [go_sem, keepL, Int.natCast_add, Int.cast_ofNat_Int, Option.getD_none, Option.isSome_none]
      | some u =>
        rw [hsf] at cs hst
        unfold stepR at cs
        have c0_ := cs; repeat (first | with_reducible exact Ev.nil | with_reducible exact gd_n | ((with_reducible apply lk_ok); rfl) | ((with_reducible apply gslot_ok); rfl) | ((with_reducible apply v2d_ok); rfl) | with_reducible apply then_n | with_reducible apply WP_seq | with_reducible apply WP_skip | ((with_reducible apply WP_r (N := 35) rfl rfl); (focus simp only [Nat.reduceAdd] <;> rfl)) | ((with_reducible apply WP_d (N := 35) mixed rfl rfl); (focus simp only [Nat.reduceAdd] <;> rfl)) | ((with_reducible apply Ev_s); (focus first | (apply gd_u; (focus rfl); rfl) | (apply gd_f; (focus rfl); (focus rfl); rfl))) | ((with_reducible apply Ev_sn); (focus first | (apply gd_u; (focus rfl); rfl) | (apply gd_f; (focus rfl); (focus rfl); rfl))) | with_reducible apply gd_t | with_reducible apply Ev_mv | with_reducible apply Ev_as | with_reducible apply Ev_mc | with_reducible apply Ev_ac | ((first | (with_reducible apply Ev_pt) | (with_reducible apply Ev_ptc)); (focus rfl)) | ((first | (with_reducible apply Ev_pf) | (with_reducible apply Ev_pfc)); (focus rfl)) | (apply Ev_cf; (focus simp (disch := omega) only [go_sem, Option.getD_some, Option.isSome_some] <;> rfl); (focus first | exact c0_); (focus rfl); (focus first | (simp (disch := omega) only [go_sem, Option.getD_some, Option.isSome_some] <;> rfl) | rfl)) | ((with_reducible apply Ev_d); (focus simp only [Nat.reduceAdd] <;> rfl); (focus simp (disch := omega) only [go_sem, Option.getD_some, Option.isSome_some] <;> rfl)) | (apply Ev_cv; (focus rfl); (focus simp (disch := omega) only [go_sem, Option.getD_some, Option.isSome_some] <;> rfl); (focus first | exact c0_); (iterate 3 (focus first | (simp (disch := omega) only [go_sem, Option.getD_some, Option.isSome_some] <;> rfl) | rfl))) | ((first | apply Ev_cmd | apply Ev_cmn); (focus simp only [Nat.reduceAdd] <;> rfl); (focus rfl); (iterate 2 (focus simp (disch := omega) only [go_sem, Option.getD_some, Option.isSome_some] <;> rfl)); (first | ((focus first | exact c0_); (iterate 2 (focus first | (simp (disch := omega) only [go_sem, Option.getD_some, Option.isSome_some] <;> rfl) | rfl)); (focus rfl); (iterate 3 (focus first | (simp (disch := omega) only [go_sem, Option.getD_some, Option.isSome_some] <;> rfl) | rfl))))) | ((first | (with_reducible apply Ev_od) | (with_reducible apply Ev_on)); (focus simp only [Nat.reduceAdd] <;> rfl); (focus simp (disch := omega) only [go_sem, Option.getD_some, Option.isSome_some] <;> rfl); (focus first | (simp (disch := omega) only [go_sem, Option.getD_some, Option.isSome_some] <;> rfl) | rfl)) | with_reducible apply endM_n | with_reducible apply endM_r | with_reducible apply then_r | with_reducible apply then_x | with_reducible apply block_n | with_reducible apply block_r | with_reducible apply block_x | with_reducible apply block_y rfl | with_reducible apply scope_n | with_reducible apply scope_r | with_reducible apply scope_x | with_reducible apply end_n | with_reducible apply end_r | with_reducible apply WP_block | with_reducible apply WP_exit | with_reducible apply WP_ret | with_reducible apply WP_label | with_reducible apply WP_scope | ((with_reducible apply WP_t); (focus first | (simp (disch := omega) only [go_sem, Option.getD_some, Option.isSome_some] <;> rfl) | rfl)) | ((with_reducible apply WP_f); (focus first | (simp (disch := omega) only [go_sem, Option.getD_some, Option.isSome_some] <;> rfl) | rfl)) | ((with_reducible apply resD_t); (focus rfl)) | ((with_reducible apply resD_2); (focus rfl); (focus rfl)) | (with_reducible rfl) | ((with_reducible show List.map outKeys _ = _); simp only [List.map_cons, List.map_nil, outKeys, keys]; rfl) | ((with_reducible show orderOk _ _ = true); kernel_rfl) | ((with_reducible show _ = _); simp (disch := omega) only [go_sem, Option.getD_some, Option.isSome_some] <;> rfl) | ((fail_if_success (with_reducible show Ev _ _ _ _ (_ :: _) _ _ _ _ _)); (show Ev _ _ _ _ (_ :: _) _ _ _ _ _)) | fail)
        refine ⟨(k + 1, some u), ⟨by show k + 1 ≤ _; omega, hst⟩, ?_, rfl, by show w.length - (k + 1) < w.length - k; omega⟩
        simp (disch := omega) only [go_sem, keepL, Int.natCast_add, Int.cast_ofNat_Int, Option.getD_some, Option.isSome_some]
    · have hkl : k = w.length := by omega
      subst hkl
      rw [List.take_length] at hk2
      have hin := leadF_in hka (Int.le_refl 0) (by omega) hk2
      rw [hk2]
      obtain ⟨x, rfl⟩ := Int.eq_ofNat_of_zero_le (by omega : 0 ≤ t)
      repeat (first | with_reducible exact Ev.nil | with_reducible exact gd_n | ((with_reducible apply lk_ok); rfl) | ((with_reducible apply gslot_ok); rfl) | ((with_reducible apply v2d_ok); rfl) | with_reducible apply then_n | with_reducible apply WP_seq | with_reducible apply WP_skip | ((with_reducible apply WP_r (N := 35) rfl rfl); (focus simp only [Nat.reduceAdd] <;> rfl)) | ((with_reducible apply WP_d (N := 35) mixed rfl rfl); (focus simp only [Nat.reduceAdd] <;> rfl)) | ((with_reducible apply Ev_s); (focus first | (apply gd_u; (focus rfl); rfl) | (apply gd_f; (focus rfl); (focus rfl); rfl))) | ((with_reducible apply Ev_sn); (focus first | (apply gd_u; (focus rfl); rfl) | (apply gd_f; (focus rfl); (focus rfl); rfl))) | with_reducible apply gd_t | with_reducible apply Ev_mv | with_reducible apply Ev_as | with_reducible apply Ev_mc | with_reducible apply Ev_ac | ((first | (with_reducible apply Ev_pt) | (with_reducible apply Ev_ptc)); (focus rfl)) | ((first | (with_reducible apply Ev_pf) | (with_reducible apply Ev_pfc)); (focus rfl)) | ((with_reducible apply Ev_d); (focus simp only [Nat.reduceAdd] <;> rfl); (focus simp (disch := omega) only [go_sem, Option.getD_some, Option.isSome_some, Int.toNat_natCast] <;> rfl)) | ((first | (with_reducible apply Ev_od) | (with_reducible apply Ev_on)); (focus simp only [Nat.reduceAdd] <;> rfl); (focus simp (disch := omega) only [go_sem, Option.getD_some, Option.isSome_some, Int.toNat_natCast] <;> rfl); (focus first | (simp (disch := omega) only [go_sem, Option.getD_some, Option.isSome_some, Int.toNat_natCast] <;> rfl) | rfl)) | with_reducible apply endM_n | with_reducible apply endM_r | with_reducible apply then_r | with_reducible apply then_x | with_reducible apply block_n | with_reducible apply block_r | with_reducible apply block_x | with_reducible apply block_y rfl | with_reducible apply scope_n | with_reducible apply scope_r | with_reducible apply scope_x | with_reducible apply end_n | with_reducible apply end_r | with_reducible apply WP_block | with_reducible apply WP_exit | with_reducible apply WP_ret | with_reducible apply WP_label | with_reducible apply WP_scope | ((with_reducible apply WP_t); (focus first | (simp (disch := omega) only [go_sem, Option.getD_some, Option.isSome_some, Int.toNat_natCast] <;> rfl) | rfl)) | ((with_reducible apply WP_f); (focus first | (simp (disch := omega) only [go_sem, Option.getD_some, Option.isSome_some, Int.toNat_natCast] <;> rfl) | rfl)) | ((with_reducible apply resD_t); (focus rfl)) | ((with_reducible apply resD_2); (focus rfl); (focus rfl)) | (with_reducible rfl) | ((with_reducible show List.map outKeys _ = _); simp only [List.map_cons, List.map_nil, outKeys, keys]; rfl) | ((with_reducible show orderOk _ _ = true); kernel_rfl) | ((with_reducible show _ = _); simp (disch := omega) only [go_sem, Option.getD_some, Option.isSome_some, Int.toNat_natCast] <;> rfl) | ((fail_if_success (with_reducible show Ev _ _ _ _ (_ :: _) _ _ _ _ _)); (show Ev _ _ _ _ (_ :: _) _ _ _ _ _)) | fail)
end Go.Eng.Tryz
set_option linter.unusedVariables false
set_option linter.unusedSimpArgs false
namespace Go.Eng.Tryz
open Go Go.Eng Go.Proofs Go.RowKit
attribute [local go_sem] ty0 ty1 ty2 ty3 ty4 ty5 ty6 ty7 ty8 ty9 ty10 ty11 ty12 ty13 ty14 ty15 ty16 ty17 ty18
attribute [local go_sem] is_len is_get ars_len ars_get stas_len stas_get is_setZ is_repZ
end Go.Eng.Tryz
set_option linter.unusedVariables false
set_option linter.unusedSimpArgs false
namespace Go.Eng.Tryz
open Go Go.Eng Go.Proofs Go.RowKit
attribute [local go_sem] ty0 ty1 ty2 ty3 ty4 ty5 ty6 ty7 ty8 ty9 ty10 ty11 ty12 ty13 ty14 ty15 ty16 ty17 ty18
theorem is_cons {x : Int} {l : List Int} : is (x :: l) = .int .i64 x :: is l := rfl
attribute [local go_sem] is_len is_get rs_len rs_get
/-- A step. -/
structure Se where
  eat : Int
  put : List Int
  any : Bool
  cost : Int
deriving DecidableEq
instance : Inhabited Se := ⟨⟨0, [], false, 0⟩⟩
def se (s : Se) : D := .agg [.int .i64 s.eat, .sl 1 (is s.put), .bool s.any, .int .u64 s.cost]
def ses (l : List Se) : List D := l.map se
theorem ses_len {l : List Se} : (ses l).length = l.length := by simp [ses]
theorem ses_get {l : List Se} {k : Nat} (h : k < l.length) : (ses l)[k]? = some (.agg [.int .i64 (l[k]!).eat, .sl 1 (is (l[k]!).put), .bool (l[k]!).any, .int .u64 (l[k]!).cost]) := by
  simp [ses, se, List.getElem?_eq_getElem h, getElem!_pos l k h]
theorem ses_snoc {l : List Se} {e p : _} {a : Bool} {c : Int} : ses l ++ [.agg [.int .i64 e, .sl 1 (is p), .bool a, .int .u64 c]] = ses (l ++ [⟨e, p, a, c⟩]) := by simp [ses, se]
attribute [local go_sem] ses_len ses_get ses_snoc
set_option maxHeartbeats 4000000 in
set_option maxRecDepth 10000 in
theorem pClone {l : List Int} (hl : l.length ≤ 1000000) : Sound Tryz.prog 106 [.sl 1 (is l)] (.sl 1 (is l)) := by
  cases l with
  | nil =>
    have h1 : Sound Tryz.prog 106 [.nils] .nils := by
      refine Sound.run (N := 8) Tryz.func106 rfl (by kernel_rfl) rfl rfl rfl (by first | exact args0_0 | exact args0_1 | exact args0_2 | exact args0_3 | exact args0_4 | exact args0_5 | exact args0_6) fun X_ w_ => ?_
      refine goT ?_; first | exact trivial | skip
    have h2 : Sound Tryz.prog 106 [.emp 1] (.sl 1 []) := by
      refine Sound.run (N := 8) Tryz.func106 rfl (by kernel_rfl) rfl rfl rfl (by first | exact args0_0 | exact args0_1 | exact args0_2 | exact args0_3 | exact args0_4 | exact args0_5 | exact args0_6) fun X_ w_ => ?_
      refine goT ?_; first | exact trivial | skip
    exact Sound.nil_at (sz := 1) 0 rfl (h1.wk (Wks.refl _) (.nil 1)) h2
  | cons x l =>
    simp only [List.length_cons] at hl
    refine Sound.run (N := 8) Tryz.func106 rfl (by kernel_rfl) rfl rfl rfl (by first | exact args0_0 | exact args0_1 | exact args0_2 | exact args0_3 | exact args0_4 | exact args0_5 | exact args0_6) fun X_ w_ => ?_
    refine goX @is_cons ?_; first | exact trivial | skip
end Go.Eng.Tryz

/- What the laws of the least automaton ask first. (and what stands behind it: texts laid together) -/
import Derived.Test.YtabfoaoeghikoaaDoorMG4
import Derived.Test.YtabfoaoeghikoaaDoorMR16
set_option linter.unusedVariables false
set_option linter.unusedSimpArgs false
namespace Go.Eng.Tryd
open Go Go.Eng Go.Proofs Go.RowKit
attribute [local go_sem] tys
attribute [local go_sem] is_len is_get iss_len iss_get ars_len ars_get stas_len stas_get
def lA0 : List (List Int) := [[97, 99], [98, 99]]
def lA1 : List (List Int) := [[98], [97]]
def sA0 : List Sta := [⟨false, [⟨97, 1⟩, ⟨98, 1⟩]⟩, ⟨false, [⟨99, 2⟩]⟩, ⟨true, []⟩]
theorem wr_A0 : wrE lA0 = 0 := by decide +kernel
theorem wr_A1 : wrE lA1 = 90 := by decide +kernel
theorem dawg_A0 : dawgF lA0 = sA0 := by decide +kernel
theorem ok_A0 : StaOk sA0 := by unfold StaOk sA0; decide
theorem ok_A1 : StaOk [] := by unfold StaOk; decide
theorem ok_A2 : StaOk [⟨false, []⟩, ⟨false, []⟩] := by unfold StaOk; decide
set_option maxHeartbeats 4000000 in
set_option maxRecDepth 10000 in
theorem dawgAwake : Sound Tryd.prog 7 [] (.bool true) := by
  have t0 := pMake (L := lA0) ⟨by decide, by decide⟩
  rw [dawgR_ok wr_A0, dawg_A0] at t0
  have t1 := pMake (L := lA1) ⟨by decide, by decide⟩
  rw [dawgR_no (by rw [wr_A1]; decide), wr_A1] at t1
  have e0 := pLeast (l := sA0) ok_A0 (fun _ => by decide)
  rw [show leastB sA0 = true by decide +kernel] at e0
  have e1 := (pLeast (l := []) ok_A1 (fun _ => by decide)).wk (as' := [.nils]) (.cons (.nil 2) .nil) (.refl _)
  rw [show leastB [] = false by decide +kernel] at e1
  have e2 := (pLeast (l := [⟨false, []⟩, ⟨false, []⟩]) ok_A2 (fun _ => by decide)).wk (as' := [.sl 2 [.agg [.bool false, .nils], .agg [.bool false, .nils]]]) (.cons (.sl (.cons (.agg (.cons (.refl _) (.cons (.nil 2) .nil))) (.cons (.agg (.cons (.refl _) (.cons (.nil 2) .nil))) .nil))) .nil) (.refl _)
  rw [show leastB [⟨false, []⟩, ⟨false, []⟩] = false by decide +kernel] at e2
  simp only [lA0, lA1, iss, is, List.map_cons, List.map_nil] at t0 t1
  simp only [sA0, stas, sta, ars, ar, List.map_cons, List.map_nil] at t0 e0
  refine Sound.run (N := 84) Tryd.func7 rfl (by kernel_rfl) rfl rfl rfl (by first | exact args0_0 | exact args0_1 | exact args0_2 | exact args0_3 | exact args0_4 | exact args0_5 | exact args0_6) fun X_ w_ => ?_
  have c0_ := t0; have c1_ := t1; repeat ((fail_if_success (with_reducible show WP _ _ (.region 5 _ _) _ _)); first | with_reducible exact Ev.nil | with_reducible exact gd_n | ((with_reducible apply lk_ok); rfl) | ((with_reducible apply gslot_ok); rfl) | ((with_reducible apply v2d_ok); rfl) | with_reducible apply then_n | with_reducible apply WP_seq | with_reducible apply WP_skip | ((with_reducible apply WP_r (N := 84) rfl rfl); (focus simp only [Nat.reduceAdd] <;> rfl)) | ((with_reducible apply WP_d (N := 84) mixed rfl rfl); (focus simp only [Nat.reduceAdd] <;> rfl)) | ((with_reducible apply Ev_s); (focus first | (apply gd_u; (focus rfl); rfl) | (apply gd_f; (focus rfl); (focus rfl); rfl))) | ((with_reducible apply Ev_sn); (focus first | (apply gd_u; (focus rfl); rfl) | (apply gd_f; (focus rfl); (focus rfl); rfl))) | with_reducible apply gd_t | with_reducible apply Ev_mv | with_reducible apply Ev_as | with_reducible apply Ev_mc | with_reducible apply Ev_ac | ((first | (with_reducible apply Ev_pt) | (with_reducible apply Ev_ptc)); (focus rfl)) | ((first | (with_reducible apply Ev_pf) | (with_reducible apply Ev_pfc)); (focus rfl)) | (apply Ev_cf; (focus simp (disch := omega) only [go_sem] <;> rfl); (focus first | exact c0_ | exact c1_); (focus rfl); (focus first | (simp (disch := omega) only [go_sem] <;> rfl) | rfl)) | ((with_reducible apply Ev_d); (focus simp only [Nat.reduceAdd] <;> rfl); (focus simp (disch := omega) only [go_sem] <;> rfl)) | (apply Ev_cv; (focus rfl); (focus simp (disch := omega) only [go_sem] <;> rfl); (focus first | exact c0_ | exact c1_); (iterate 3 (focus first | (simp (disch := omega) only [go_sem] <;> rfl) | rfl))) | ((first | apply Ev_cmd | apply Ev_cmn); (focus simp only [Nat.reduceAdd] <;> rfl); (focus rfl); (iterate 2 (focus simp (disch := omega) only [go_sem] <;> rfl)); (first | ((focus first | exact c0_ | exact c1_); (iterate 2 (focus first | (simp (disch := omega) only [go_sem] <;> rfl) | rfl)); (focus rfl); (iterate 3 (focus first | (simp (disch := omega) only [go_sem] <;> rfl) | rfl))))) | ((first | (with_reducible apply Ev_od) | (with_reducible apply Ev_on)); (focus simp only [Nat.reduceAdd] <;> rfl); (focus simp (disch := omega) only [go_sem] <;> rfl); (focus first | (simp (disch := omega) only [go_sem] <;> rfl) | rfl)) | with_reducible apply endM_n | with_reducible apply endM_r | with_reducible apply then_r | with_reducible apply then_x | with_reducible apply block_n | with_reducible apply block_r | with_reducible apply block_x | with_reducible apply block_y rfl | with_reducible apply scope_n | with_reducible apply scope_r | with_reducible apply scope_x | with_reducible apply end_n | with_reducible apply end_r | with_reducible apply WP_block | with_reducible apply WP_exit | with_reducible apply WP_ret | with_reducible apply WP_label | with_reducible apply WP_scope | ((with_reducible apply WP_t); (focus first | (simp (disch := omega) only [go_sem] <;> rfl) | rfl)) | ((with_reducible apply WP_f); (focus first | (simp (disch := omega) only [go_sem] <;> rfl) | rfl)) | ((with_reducible apply resD_t); (focus rfl)) | ((with_reducible apply resD_2); (focus rfl); (focus rfl)) | (with_reducible rfl) | ((with_reducible show List.map outKeys _ = _); simp only [List.map_cons, List.map_nil, outKeys, keys]; rfl) | ((with_reducible show orderOk _ _ = true); kernel_rfl) | ((with_reducible show _ = _); simp (disch := omega) only [go_sem] <;> rfl) | ((fail_if_success (with_reducible show Ev _ _ _ _ (_ :: _) _ _ _ _ _)); (show Ev _ _ _ _ (_ :: _) _ _ _ _ _)) | fail)
  have c0_ := e0; have c1_ := e1; have c2_ := e2; refine goT ?_; first | exact trivial | skip
end Go.Eng.Tryd
set_option linter.unusedVariables false
set_option linter.unusedSimpArgs false
namespace Go.Eng.Tryd
open Go Go.Eng Go.Proofs Go.RowKit
attribute [local go_sem] tys
attribute [local go_sem] is_len is_get iss_len iss_get ars_len ars_get stas_len stas_get
def HasI (L : List (List Int)) (w : List Int) (x : Nat × Bool × Bool) : Prop := x.1 ≤ L.length ∧ (x.2.1 = true ↔ w = [] ∨ ∃ v ∈ L.take x.1, w <+: v) ∧ (x.2.2 = true ↔ w ∈ L.take x.1)
theorem HasI.step {L : List (List Int)} {w : List Int} {k : Nat} {b c : Bool} (h : HasI L w (k, b, c)) (hk : k < L.length) {b' c' : Bool} (hb : b' = (b || decide (comN (L[k]!) w = w.length))) (hc : c' = (c || decide (comN (L[k]!) w = w.length ∧ comN (L[k]!) w = (L[k]!).length))) : HasI L w (k + 1, b', c') := by
  obtain ⟨h1, h2, h3⟩ := h
  simp only at h1 h2 h3
  have hp := comN_pre (L[k]!) w
  refine ⟨by simp only; omega, ?_, ?_⟩
  · simp only [hb, Bool.or_eq_true, decide_eq_true_eq, atake_snoc hk, List.mem_append, List.mem_singleton]
    rw [h2, hp]
    constructor
    · rintro ((h | ⟨v, hv, h⟩) | h)
      · exact .inl h
      · exact .inr ⟨v, .inl hv, h⟩
      · exact .inr ⟨_, .inr rfl, h⟩
    · rintro (h | ⟨v, hv | rfl, h⟩)
      · exact .inl (.inl h)
      · exact .inl (.inr ⟨v, hv, h⟩)
      · exact .inr h
  · simp only [hc, Bool.or_eq_true, decide_eq_true_eq, atake_snoc hk, List.mem_append, List.mem_singleton]
    rw [h3]
    refine or_congr Iff.rfl ⟨fun ⟨e1, e2⟩ => ?_, fun e => ?_⟩
    · have := hp.1 e1
      exact List.IsPrefix.eq_of_length this (by omega)
    · have := hp.2 (by rw [e]; exact List.prefix_rfl)
      rw [← e] at this ⊢
      exact ⟨this, this⟩
set_option maxHeartbeats 32000000 in
set_option maxRecDepth 10000 in
theorem lawDHas {L : List (List Int)} {w : List Int} (hL : WsOk L) (hw : w.length ≤ 9223372036854775807) : Sound Tryd.prog 6 [.sl 1 (iss L), .sl 1 (is w)] (.bool true) := by
  have aw := dawgAwake
  have cf := pFewW (n := 100) hL (by omega)
  have cm := pMake hL
  have ct := pTrieG hL
  have hl1 := hL.1
  cases hf : fewW L 100
  · rw [hf] at cf
    refine Sound.run (N := 167) Tryd.func6 rfl (by kernel_rfl) rfl rfl rfl (by first | exact args0_0 | exact args0_1 | exact args0_2 | exact args0_3 | exact args0_4 | exact args0_5 | exact args0_6) fun X_ w_ => ?_
    have c0_ := aw; have c1_ := cf; refine goT ?_; first | exact trivial | skip
  rw [hf] at cf
  by_cases h100 : 100 < w.length
  · refine Sound.run (N := 167) Tryd.func6 rfl (by kernel_rfl) rfl rfl rfl (by first | exact args0_0 | exact args0_1 | exact args0_2 | exact args0_3 | exact args0_4 | exact args0_5 | exact args0_6) fun X_ w_ => ?_
    have c0_ := aw; have c1_ := cf; refine goT ?_; first | exact trivial | skip
  by_cases he : wrE L = 0
  rotate_left
  · rw [dawgR_no he] at cm
    unfold trieR at ct
    rw [if_neg he] at ct
    rcases wrE_some L with h | h | h
    · exact absurd h he
    · rw [h] at cm ct
      refine Sound.run (N := 167) Tryd.func6 rfl (by kernel_rfl) rfl rfl rfl (by first | exact args0_0 | exact args0_1 | exact args0_2 | exact args0_3 | exact args0_4 | exact args0_5 | exact args0_6) fun X_ w_ => ?_
      have c0_ := aw; have c1_ := cf; have c2_ := cm; have c3_ := ct; refine goT ?_; first | exact trivial | skip
    · rw [h] at cm ct
      refine Sound.run (N := 167) Tryd.func6 rfl (by kernel_rfl) rfl rfl rfl (by first | exact args0_0 | exact args0_1 | exact args0_2 | exact args0_3 | exact args0_4 | exact args0_5 | exact args0_6) fun X_ w_ => ?_
      have c0_ := aw; have c1_ := cf; have c2_ := cm; have c3_ := ct; refine goT ?_; first | exact trivial | skip
  rw [dawgR_ok he] at cm
  unfold trieR at ct
  rw [if_pos he] at ct
  obtain ⟨K, hK⟩ := dawg_K he
  have cc := pCheckA hK.ok
  rw [hK.chk] at cc
  have cl := pLeast hK.ok (fun _ p hp => by have := hK.few p hp; omega)
  have e1 : leastB (dawgF L) = true := by unfold leastB; rw [hK.chk, decide_eq_true hK.k.leastB]; rfl
  rw [e1] at cl
  have hle := hK.len
  have hwk : ∀ v, Sound Tryd.prog 12 [.sl 2 (stas (dawgF L)), .sl 1 (is v)] (wkdR (dawgF L) v) ∨ ¬ v.length ≤ 9223372036854775807 := fun v => by
    by_cases h : v.length ≤ 9223372036854775807
    · exact .inl (pWalked hK.ok h)
    · exact .inr h
  have hhas := fun v => hK.k.has v
  have hpos := hK.k.pos
  generalize dawgF L = l at *
  generalize trieF L = tl at *
  have cw := (hwk w).resolve_right (by omega)
  have key : ∃ (t : Nat) (i f : Bool), wkdR l w = .tup [.int .i64 t, .bool i] ∧ (i = true ↔ Bg L w) ∧ (i = true → t < l.length ∧ (l[t]!).final = f) ∧ (f = true ↔ w ∈ L) := by
    by_cases hb : Bg L w
    · obtain ⟨t, t1, t2, t3⟩ := (hhas w).1 hb
      refine ⟨t, true, (l[t]!).final, ?_, by simp [hb], fun _ => ⟨t1, rfl⟩, t3⟩
      simp only [wkdR, t2]
      rw [decide_eq_true hpos]
    · have := (hhas w).2 hb
      refine ⟨0, false, false, by simp only [wkdR, this]; rfl, by simp [hb], (fun h => nomatch h), ?_⟩
      simp only [Bool.false_eq_true, false_iff]
      exact fun h => hb (.inr ⟨w, h, List.prefix_rfl⟩)
  obtain ⟨t, i, f, hkw, hi, hif, hfm⟩ := key
  rw [hkw] at cw
  have hw0 : ((w.length : Int) == 0) = decide (w = []) := by
    cases w with
    | nil => rfl
    | cons x y =>
      rw [decide_eq_false (by simp), beq_eq_false_iff_ne]
      simp only [List.length_cons]
      omega
  refine Sound.run (N := 167) Tryd.func6 rfl (by kernel_rfl) rfl rfl rfl (by first | exact args0_0 | exact args0_1 | exact args0_2 | exact args0_3 | exact args0_4 | exact args0_5 | exact args0_6) fun X_ w_ => ?_
  have c0_ := aw; have c1_ := cf; have c2_ := cm; have c3_ := ct; have c4_ := cw; refine goT ?_; first | exact trivial | skip
  refine WP_loopk (α := Nat × Bool × Bool) (HasI L w) (fun x => [(0, .d (.sl 1 (iss L))), (1, .d (.sl 1 (is w))), (5, .d (.bool true)), (6, .d (.sl 2 (stas l))), (8, .d (.sl 2 (stas tl))), (9, .d (.int .i64 0)), (10, .d (.int .i64 t)), (11, .d (.bool i)), (12, .d (.bool x.2.1)), (13, .d (.bool x.2.2)), (14, .d (.int .i64 x.1))]) (fun _ => []) 20000 (fun x => L.length - x.1) [0, 1, 5, 6, 8, 9, 10, 11, 12, 13, 14] [] (0, decide (w = []), false) ⟨Nat.zero_le _, by simp, by simp⟩ (by rw [← hw0]; rfl) rfl (Nat.le_of_ble_eq_true rfl) (fun _ _ => rfl) (fun _ _ => rfl) fun ⟨k, b, c⟩ hx => ?_
  have hx' := hx
  obtain ⟨x1, x2, x3⟩ := hx
  simp only at x1 x2 x3
  by_cases hk3 : k < L.length
  · have hkL := hL.get hk3
    have co := pCommon (a := L[k]!) (b := w) hkL hw
    have cv := (hwk (L[k]!)).resolve_right (by omega)
    obtain ⟨s, s1, s2, s3⟩ := (hhas (L[k]!)).1 (.inr ⟨_, getM hk3, List.prefix_rfl⟩)
    have hsf : (l[s]!).final = true := s3.2 (getM hk3)
    simp only [wkdR, s2] at cv
    rw [decide_eq_true hpos] at cv
    have hcl := comN_le (L[k]!) w
    have hst := fun b' c' => HasI.step (b' := b') (c' := c') hx' hk3
    generalize comN (L[k]!) w = q at co hst hcl
    by_cases h1 : q = w.length
    · have hd1 : decide (q = w.length) = true := decide_eq_true h1
      by_cases h2 : q = (L[k]!).length
      · have hd2 : decide (q = w.length ∧ q = (L[k]!).length) = true := decide_eq_true ⟨h1, h2⟩
        cases b <;> cases c
        · have c0_ := co; have c1_ := cv; refine goX @hsf ?_; first | exact trivial | skip
          refine ⟨(k + 1, true, true), hst true true (by rw [hd1]; rfl) (by rw [hd2]; rfl), ?_, rfl, by simp only; omega⟩
          simp (disch := omega) only [go_sem, keepL, Int.natCast_add, Int.cast_ofNat_Int]
        · have c0_ := co; have c1_ := cv; refine goX @hsf ?_; first | exact trivial | skip
          refine ⟨(k + 1, true, true), hst true true (by rw [hd1]; rfl) (by rw [hd2]; rfl), ?_, rfl, by simp only; omega⟩
          simp (disch := omega) only [go_sem, keepL, Int.natCast_add, Int.cast_ofNat_Int]
        · have c0_ := co; have c1_ := cv; refine goX @hsf ?_; first | exact trivial | skip
          refine ⟨(k + 1, true, true), hst true true (by rw [hd1]; rfl) (by rw [hd2]; rfl), ?_, rfl, by simp only; omega⟩
          simp (disch := omega) only [go_sem, keepL, Int.natCast_add, Int.cast_ofNat_Int]
        · have c0_ := co; have c1_ := cv; refine goX @hsf ?_; first | exact trivial | skip
          refine ⟨(k + 1, true, true), hst true true (by rw [hd1]; rfl) (by rw [hd2]; rfl), ?_, rfl, by simp only; omega⟩
          simp (disch := omega) only [go_sem, keepL, Int.natCast_add, Int.cast_ofNat_Int]
      · have hd2 : decide (q = w.length ∧ q = (L[k]!).length) = false := decide_eq_false fun h => h2 h.2
        cases b <;> cases c
        · have c0_ := co; have c1_ := cv; refine goX @hsf ?_; first | exact trivial | skip
          refine ⟨(k + 1, true, false), hst true false (by rw [hd1]; rfl) (by rw [hd2]; rfl), ?_, rfl, by simp only; omega⟩
          simp (disch := omega) only [go_sem, keepL, Int.natCast_add, Int.cast_ofNat_Int]
        · have c0_ := co; have c1_ := cv; refine goX @hsf ?_; first | exact trivial | skip
          refine ⟨(k + 1, true, true), hst true true (by rw [hd1]; rfl) (by rw [hd2]; rfl), ?_, rfl, by simp only; omega⟩
          simp (disch := omega) only [go_sem, keepL, Int.natCast_add, Int.cast_ofNat_Int]
        · have c0_ := co; have c1_ := cv; refine goX @hsf ?_; first | exact trivial | skip
          refine ⟨(k + 1, true, false), hst true false (by rw [hd1]; rfl) (by rw [hd2]; rfl), ?_, rfl, by simp only; omega⟩
          simp (disch := omega) only [go_sem, keepL, Int.natCast_add, Int.cast_ofNat_Int]
        · have c0_ := co; have c1_ := cv; refine goX @hsf ?_; first | exact trivial | skip
          refine ⟨(k + 1, true, true), hst true true (by rw [hd1]; rfl) (by rw [hd2]; rfl), ?_, rfl, by simp only; omega⟩
          simp (disch := omega) only [go_sem, keepL, Int.natCast_add, Int.cast_ofNat_Int]
    · have hd1 : decide (q = w.length) = false := decide_eq_false h1
      have hd2 : decide (q = w.length ∧ q = (L[k]!).length) = false := decide_eq_false fun h => h1 h.1
      cases b <;> cases c
      · have c0_ := co; have c1_ := cv; refine goX @hsf ?_; first | exact trivial | skip
        refine ⟨(k + 1, false, false), hst false false (by rw [hd1]; rfl) (by rw [hd2]; rfl), ?_, rfl, by simp only; omega⟩
        simp (disch := omega) only [go_sem, keepL, Int.natCast_add, Int.cast_ofNat_Int]
      · have c0_ := co; have c1_ := cv; refine goX @hsf ?_; first | exact trivial | skip
        refine ⟨(k + 1, false, true), hst false true (by rw [hd1]; rfl) (by rw [hd2]; rfl), ?_, rfl, by simp only; omega⟩
        simp (disch := omega) only [go_sem, keepL, Int.natCast_add, Int.cast_ofNat_Int]
      · have c0_ := co; have c1_ := cv; refine goX @hsf ?_; first | exact trivial | skip
        refine ⟨(k + 1, true, false), hst true false (by rw [hd1]; rfl) (by rw [hd2]; rfl), ?_, rfl, by simp only; omega⟩
        simp (disch := omega) only [go_sem, keepL, Int.natCast_add, Int.cast_ofNat_Int]
      · have c0_ := co; have c1_ := cv; refine goX @hsf ?_; first | exact trivial | skip
        refine ⟨(k + 1, true, true), hst true true (by rw [hd1]; rfl) (by rw [hd2]; rfl), ?_, rfl, by simp only; omega⟩
        simp (disch := omega) only [go_sem, keepL, Int.natCast_add, Int.cast_ofNat_Int]
  · have hke : k = L.length := by omega
    subst hke
    rw [List.take_length] at x2 x3
    have hbg : b = i := by
      have : b = true ↔ i = true := x2.trans hi.symm
      cases b <;> cases i <;> simp_all
    have hcf : c = f := by
      have : c = true ↔ f = true := x3.trans hfm.symm
      cases c <;> cases f <;> simp_all
    subst hbg hcf
    cases b
    · have hc0 : c = false := by
        cases hc : c
        · rfl
        · have : Bg L w := .inr ⟨w, hfm.1 hc, List.prefix_rfl⟩
          have := hi.2 this
          cases this
      subst hc0
      have c0_ := cc; have c1_ := cl; refine goT ?_; first | exact trivial | skip
    · obtain ⟨t1, t2⟩ := hif rfl
      cases c
      · have c0_ := cc; have c1_ := cl; refine goX @t2 ?_; first | exact trivial | skip
      · have c0_ := cc; have c1_ := cl; refine goX @t2 ?_; first | exact trivial | skip
end Go.Eng.Tryd

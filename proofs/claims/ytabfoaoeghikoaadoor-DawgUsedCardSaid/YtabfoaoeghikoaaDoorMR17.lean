/- What the laws of the least automaton ask first. (and what stands behind it: texts laid together) -/
import Derived.Test.YtabfoaoeghikoaaDoorMG4
import Derived.Test.YtabfoaoeghikoaaDoorMR16
set_option linter.unusedVariables false
set_option linter.unusedSimpArgs false
namespace Go.Eng.Tryd
open Go Go.Eng Go.Proofs Go.RowKit
attribute [local go_sem] tys
attribute [local go_sem] is_len is_get iss_len iss_get ars_len ars_get stas_len stas_get
def lA0 : List (List Int) := [[97, 99], [98, 99]]
def lA1 : List (List Int) := [[98], [97]]
def sA0 : List Sta := [⟨false, [⟨97, 1⟩, ⟨98, 1⟩]⟩, ⟨false, [⟨99, 2⟩]⟩, ⟨true, []⟩]
theorem wr_A0 : wrE lA0 = 0 := by decide +kernel
theorem wr_A1 : wrE lA1 = 90 := by decide +kernel
theorem dawg_A0 : dawgF lA0 = sA0 := by decide +kernel
theorem ok_A0 : StaOk sA0 := by unfold StaOk sA0; decide
theorem ok_A1 : StaOk [] := by unfold StaOk; decide
theorem ok_A2 : StaOk [⟨false, []⟩, ⟨false, []⟩] := by unfold StaOk; decide
set_option maxHeartbeats 4000000 in
set_option maxRecDepth 10000 in
theorem dawgAwake : Sound Tryd.prog 7 [] (.bool true) := by
  have t0 := pMake (L := lA0) ⟨by decide, by decide⟩
  rw [dawgR_ok wr_A0, dawg_A0] at t0
  have t1 := pMake (L := lA1) ⟨by decide, by decide⟩
  rw [dawgR_no (by rw [wr_A1]; decide), wr_A1] at t1
  have e0 := pLeast (l := sA0) ok_A0 (fun _ => by decide)
  rw [show leastB sA0 = true by decide +kernel] at e0
  have e1 := (pLeast (l := []) ok_A1 (fun _ => by decide)).wk (as' := [.nils]) (.cons (.nil 2) .nil) (.refl _)
  rw [show leastB [] = false by decide +kernel] at e1
  have e2 := (pLeast (l := [⟨false, []⟩, ⟨false, []⟩]) ok_A2 (fun _ => by decide)).wk (as' := [.sl 2 [.agg [.bool false, .nils], .agg [.bool false, .nils]]]) (.cons (.sl (.cons (.agg (.cons (.refl _) (.cons (.nil 2) .nil))) (.cons (.agg (.cons (.refl _) (.cons (.nil 2) .nil))) .nil))) .nil) (.refl _)
  rw [show leastB [⟨false, []⟩, ⟨false, []⟩] = false by decide +kernel] at e2
  simp only [lA0, lA1, iss, is, List.map_cons, List.map_nil] at t0 t1
  simp only [sA0, stas, sta, ars, ar, List.map_cons, List.map_nil] at t0 e0
  refine Sound.run (N := 84) Tryd.func7 rfl (by kernel_rfl) rfl rfl rfl (by first | exact args0_0 | exact args0_1 | exact args0_2 | exact args0_3 | exact args0_4 | exact args0_5 | exact args0_6) fun X_ w_ => ?_
  have c0_ := t0; have c1_ := t1; repeat ((fail_if_success (with_reducible show WP _ _ (.region 5 _ _) _ _)); first | with_reducible exact Ev.nil | with_reducible exact gd_n | ((with_reducible apply lk_ok); rfl) | ((with_reducible apply gslot_ok); rfl) | ((with_reducible apply v2d_ok); rfl) | with_reducible apply then_n | with_reducible apply WP_seq | with_reducible apply WP_skip | ((with_reducible apply WP_r (N := 84) rfl rfl); (focus simp only [Nat.reduceAdd] <;> rfl)) | ((with_reducible apply WP_d (N := 84) mixed rfl rfl); (focus simp only [Nat.reduceAdd] <;> rfl)) | ((with_reducible apply Ev_s); (focus first | (apply gd_u; (focus rfl); rfl) | (apply gd_f; (focus rfl); (focus rfl); rfl))) | ((with_reducible apply Ev_sn); (focus first | (apply gd_u; (focus rfl); rfl) | (apply gd_f; (focus rfl); (focus rfl); rfl))) | with_reducible apply gd_t | with_reducible apply Ev_mv | with_reducible apply Ev_as | with_reducible apply Ev_mc | with_reducible apply Ev_ac | ((first | (with_reducible apply Ev_pt) | (with_reducible apply Ev_ptc)); (focus rfl)) | ((first | (with_reducible apply Ev_pf) | (with_reducible apply Ev_pfc)); (focus rfl)) | (apply Ev_cf; (focus simp (disch := omega) only [go_sem] <;> rfl); (focus first | exact c0_ | exact c1_); (focus rfl); (focus first | (simp (disch := omega) only [go_sem] <;> rfl) | rfl)) | ((with_reducible apply Ev_d); (focus simp only [Nat.reduceAdd] <;> rfl); (focus simp (disch := omega) only [go_sem] <;> rfl)) | (apply Ev_cv; (focus rfl); (focus simp (disch := omega) only [go_sem] <;> rfl); (focus first | exact c0_ | exact c1_); (iterate 3 (focus first | (simp (disch := omega) only [go_sem] <;> rfl) | rfl))) | ((first | apply Ev_cmd | apply Ev_cmn); (focus simp only [Nat.reduceAdd] <;> rfl); (focus rfl); (iterate 2 (focus simp (disch := omega) only [go_sem] <;> rfl)); (first | ((focus first | exact c0_ | exact c1_); (iterate 2 (focus first | (simp (disch := omega) only [go_sem] <;> rfl) | rfl)); (focus rfl); (iterate 3 (focus first | (simp (disch := omega) only [go_sem] <;> rfl) | rfl))))) | ((first | (with_reducible apply Ev_od) | (with_reducible apply Ev_on)); (focus simp only [Nat.reduceAdd] <;> rfl); (focus simp (disch := omega) only [go_sem] <;> rfl); (focus first | (simp (disch := omega) only [go_sem] <;> rfl) | rfl)) | with_reducible apply endM_n | with_reducible apply endM_r | with_reducible apply then_r | with_reducible apply then_x | with_reducible apply block_n | with_reducible apply block_r | with_reducible apply block_x | with_reducible apply block_y rfl | with_reducible apply scope_n | with_reducible apply scope_r | with_reducible apply scope_x | with_reducible apply end_n | with_reducible apply end_r | with_reducible apply WP_block | with_reducible apply WP_exit | with_reducible apply WP_ret | with_reducible apply WP_label | with_reducible apply WP_scope | ((with_reducible apply WP_t); (focus first | (simp (disch := omega) only [go_sem] <;> rfl) | rfl)) | ((with_reducible apply WP_f); (focus first | (simp (disch := omega) only [go_sem] <;> rfl) | rfl)) | ((with_reducible apply resD_t); (focus rfl)) | ((with_reducible apply resD_2); (focus rfl); (focus rfl)) | (with_reducible rfl) | ((with_reducible show List.map outKeys _ = _); simp only [List.map_cons, List.map_nil, outKeys, keys]; rfl) | ((with_reducible show orderOk _ _ = true); kernel_rfl) | ((with_reducible show _ = _); simp (disch := omega) only [go_sem] <;> rfl) | ((fail_if_success (with_reducible show Ev _ _ _ _ (_ :: _) _ _ _ _ _)); (show Ev _ _ _ _ (_ :: _) _ _ _ _ _)) | fail)
  have c0_ := e0; have c1_ := e1; have c2_ := e2; refine goT ?_; first | exact trivial | skip
end Go.Eng.Tryd
set_option linter.unusedVariables false
set_option linter.unusedSimpArgs false
namespace Go.Eng.Tryd
open Go Go.Eng Go.Proofs Go.RowKit
attribute [local go_sem] tys
attribute [local go_sem] is_len is_get iss_len iss_get ars_len ars_get stas_len stas_get
def bls (l : List Bool) : List D := l.map D.bool
theorem bls_len {l : List Bool} : (bls l).length = l.length := by simp [bls]
theorem bls_get {l : List Bool} {k : Nat} (h : k < l.length) : (bls l)[k]? = some (.bool (l[k]!)) := by simp [bls, List.getElem?_eq_getElem h, getElem!_pos l k h]
theorem bls_set {l : List Bool} {k : Nat} {b : Bool} : (bls l).set k (.bool b) = bls (l.set k b) := by simp [bls, List.map_set]
theorem bls_rep (n : Nat) : List.replicate n (D.bool false) = bls (List.replicate n false) := by simp [bls]
attribute [local go_sem] bls_len bls_get bls_set
theorem dawg_none {L : List (List Int)} (h : L.length = 0) (he : wrE L = 0) : (dawgF L).length = 1 := by
  have e := List.length_eq_zero_iff.1 h
  subst e
  obtain ⟨K, hK⟩ := dawg_K he
  exact hK.k.none
set_option maxHeartbeats 16000000 in
set_option maxRecDepth 10000 in
theorem lawDUsed {L : List (List Int)} (hL : WsOk L) : Sound Tryd.prog 3 [.sl 1 (iss L)] (.bool true) := by
  have aw := dawgAwake
  have cf := pFewW (n := 100) hL (by omega)
  have cm := pMake hL
  cases hf : fewW L 100
  · rw [hf] at cf
    refine Sound.run (N := 165) Tryd.func3 rfl (by kernel_rfl) rfl rfl rfl (by first | exact args0_0 | exact args0_1 | exact args0_2 | exact args0_3 | exact args0_4 | exact args0_5 | exact args0_6) fun X_ w_ => ?_
    have c0_ := aw; have c1_ := cf; refine goT ?_; first | exact trivial | skip
  rw [hf] at cf
  by_cases he : wrE L = 0
  rotate_left
  · rw [dawgR_no he] at cm
    rcases wrE_some L with h | h | h
    · exact absurd h he
    · rw [h] at cm
      refine Sound.run (N := 165) Tryd.func3 rfl (by kernel_rfl) rfl rfl rfl (by first | exact args0_0 | exact args0_1 | exact args0_2 | exact args0_3 | exact args0_4 | exact args0_5 | exact args0_6) fun X_ w_ => ?_
      have c0_ := aw; have c1_ := cf; have c2_ := cm; refine goT ?_; first | exact trivial | skip
    · rw [h] at cm
      refine Sound.run (N := 165) Tryd.func3 rfl (by kernel_rfl) rfl rfl rfl (by first | exact args0_0 | exact args0_1 | exact args0_2 | exact args0_3 | exact args0_4 | exact args0_5 | exact args0_6) fun X_ w_ => ?_
      have c0_ := aw; have c1_ := cf; have c2_ := cm; refine goT ?_; first | exact trivial | skip
  rw [dawgR_ok he] at cm
  have hl1 := hL.1
  by_cases h0 : L.length = 0
  · have h1 := dawg_none h0 he
    refine Sound.run (N := 165) Tryd.func3 rfl (by kernel_rfl) rfl rfl rfl (by first | exact args0_0 | exact args0_1 | exact args0_2 | exact args0_3 | exact args0_4 | exact args0_5 | exact args0_6) fun X_ w_ => ?_
    have c0_ := aw; have c1_ := cf; have c2_ := cm; refine goX @h1 ?_; first | exact trivial | skip
  obtain ⟨K, hK⟩ := dawg_K he
  have hne : L ≠ [] := fun e => h0 (by rw [e]; rfl)
  obtain ⟨w0, hw0⟩ := List.exists_mem_of_ne_nil L hne
  have hmany := hK.k.many hw0 (fun h => by have := (hK.words _ h).1; simp at this)
  have hok := hK.ok
  have hfew := hK.few
  have hle := (achk_iff.1 hK.chk).2.2
  have hD := hK.k
  generalize dawgF L = l at *
  have hfr : ∀ k, 0 < k → k < l.length → ∃ i, i < k ∧ ∃ a ∈ (l[i]!).arcs, a.to.toNat = k := fun k h1 h2 => by
    obtain ⟨i, i1, a, a1, a2⟩ := hD.from h1 h2
    exact ⟨i, i1, a, a1, by rw [a2]; simp⟩
  have hfw : ∀ k, k < l.length → ∀ a ∈ (l[k]!).arcs, 0 ≤ a.to ∧ k < a.to.toNat ∧ a.to.toNat < l.length := fun k hk a ha => hD.fwd hk ha
  have hon : ∀ k, k < l.length → (l[k]!).final = true ∨ (l[k]!).arcs ≠ [] := fun k hk => hD.on hne hk
  clear hD
  refine Sound.run (N := 165) Tryd.func3 rfl (by kernel_rfl) rfl rfl rfl (by first | exact args0_0 | exact args0_1 | exact args0_2 | exact args0_3 | exact args0_4 | exact args0_5 | exact args0_6) fun X_ w_ => ?_
  have c0_ := aw; have c1_ := cf; have c2_ := cm; refine goT ?_; first | exact trivial | skip
  refine WP_loopk (α := Nat × List Bool) (fun x => x.1 ≤ l.length ∧ x.2.length = l.length ∧ (∀ p a, p < x.1 → a ∈ (l[p]!).arcs → x.2[a.to.toNat]! = true) ∧ (0 < x.1 → x.2[0]! = true))
    (fun x => [(3, .d (.bool true)), (4, .d (.sl 2 (stas l))), (6, .own 5002 l.length), (7, .own 6002 l.length), (8, .d (.int .i64 x.1))])
    (fun x => [(6002, .row 4 1 (bls (List.replicate l.length false))), (5002, .row 4 1 (bls x.2))]) 20000 (fun x => l.length - x.1) [3, 4, 6, 7, 8] [6002, 5002] (0, List.replicate l.length false) ⟨Nat.zero_le _, by simp, fun p a hp => by simp at hp, fun h => by simp at h⟩ rfl (by rw [bls_rep]; rfl) (Nat.le_of_ble_eq_true rfl) (fun _ _ => rfl) (fun _ _ => rfl) fun ⟨k, F⟩ hx => ?_
  obtain ⟨h1, h2, h3, h4⟩ := hx
  simp only at h1 h2 h3 h4
  by_cases hk3 : k < l.length
  · have hfk := hfew k hk3
    have hsl : (F.set k true).length = l.length := by rw [List.length_set, h2]
    have hset : ∀ q, F[q]! = true ∨ q = k → (F.set k true)[q]! = true := fun q hq => by
      rw [getB_setI (by omega)]
      split
      · rfl
      · exact hq.resolve_right (by assumption)
    have hsk := hset k (.inr rfl)
    have h00 : F[0]! = true ∨ 0 = k := by
      by_cases e : k = 0
      · exact .inr e.symm
      · exact .inl (h4 (by omega))
    have hv : F[k]! = true ∨ (F[k]! = false ∧ k = 0) := by
      by_cases e : k = 0
      · cases h : F[k]!
        · exact .inr ⟨rfl, e⟩
        · exact .inl rfl
      · obtain ⟨i, i1, a, a1, a2⟩ := hfr k (by omega) hk3
        have := h3 i a i1 a1
        rw [a2] at this
        exact .inl this
    rcases hv with hA | ⟨hA, hk0⟩
    · refine goX (And.intro @h2 @hA) ?_; first | exact trivial | skip
      refine WP_loopk (α := Nat × List Bool) (fun y => y.1 ≤ (l[k]!).arcs.length ∧ y.2.length = l.length ∧ (∀ p a, p < k → a ∈ (l[p]!).arcs → y.2[a.to.toNat]! = true) ∧ y.2[0]! = true ∧ y.2[k]! = true ∧ ∀ a ∈ (l[k]!).arcs.take y.1, y.2[a.to.toNat]! = true)
        (fun y => [(3, .d (.bool true)), (4, .d (.sl 2 (stas l))), (6, .own 5002 l.length), (7, .own 6002 l.length), (8, .d (.int .i64 k)), (9, .d (.int .i64 y.1))])
        (fun y => [(6002, .row 4 1 (bls (List.replicate l.length false))), (5002, .row 4 1 (bls y.2))]) 30000 (fun y => (l[k]!).arcs.length - y.1) [3, 4, 6, 7, 8, 9] [6002, 5002] (0, F.set k true) ⟨Nat.zero_le _, hsl, fun p a hp ha => hset _ (.inl (h3 p a hp ha)), hset 0 h00, hsk, fun a ha => by simp at ha⟩ rfl rfl (Nat.le_of_ble_eq_true rfl) (fun _ _ => rfl) (fun _ _ => rfl) fun ⟨j, G⟩ hj => ?_
      obtain ⟨j1, j2, j3, j4, j5, j6⟩ := hj
      simp only at j1 j2 j3 j4 j5 j6
      by_cases hj7 : j < (l[k]!).arcs.length
      · have hmem : (l[k]!).arcs[j]! ∈ (l[k]!).arcs := getM hj7
        have htk := atake_snoc hj7
        obtain ⟨g1, g2, g3⟩ := hfw k hk3 _ hmem
        obtain ⟨t, ht⟩ := Int.eq_ofNat_of_zero_le g1
        rw [ht, Int.toNat_natCast] at g2 g3
        have hset2 : ∀ q, G[q]! = true ∨ q = t → (G.set t true)[q]! = true := fun q hq => by
          rw [getB_setI (by omega)]
          split
          · rfl
          · exact hq.resolve_right (by assumption)
        have hsl2 : (G.set t true).length = l.length := by rw [List.length_set, j2]
        refine goX (And.intro @j2 (And.intro @j5 (And.intro @ht @Int.toNat_natCast))) ?_; first | exact trivial | skip
        refine ⟨(j + 1, G.set t true), ⟨by simp only; omega, hsl2, fun p a hp ha => hset2 _ (.inl (j3 p a hp ha)), hset2 _ (.inl j4), hset2 _ (.inl j5), fun a ha => ?_⟩, ?_, ?_, by simp only; omega⟩
        · rw [htk] at ha
          rcases List.mem_append.1 ha with h | h
          · exact hset2 _ (.inl (j6 a h))
          · simp only [List.mem_singleton] at h
            subst h
            rw [ht, Int.toNat_natCast]
            exact hset2 _ (.inr rfl)
        · simp (disch := omega) only [go_sem, keepL, Int.natCast_add, Int.cast_ofNat_Int]
        · simp (disch := omega) only [go_sem, keepL]
      · have hje : j = (l[k]!).arcs.length := by omega
        subst hje
        rw [List.take_length] at j6
        refine goT ?_; first | exact trivial | skip
        refine ⟨(k + 1, G), ⟨by simp only; omega, j2, fun p a hp ha => ?_, fun _ => j4⟩, ?_, ?_, by simp only; omega⟩
        · by_cases e : p = k
          · subst e; exact j6 a ha
          · exact j3 p a (by simp only at hp; omega) ha
        · simp (disch := omega) only [go_sem, keepL, Int.natCast_add, Int.cast_ofNat_Int]
        · simp (disch := omega) only [go_sem, keepL]
    · refine goX (And.intro @h2 @hA) ?_; first | exact trivial | skip
      refine WP_loopk (α := Nat × List Bool) (fun y => y.1 ≤ (l[k]!).arcs.length ∧ y.2.length = l.length ∧ (∀ p a, p < k → a ∈ (l[p]!).arcs → y.2[a.to.toNat]! = true) ∧ y.2[0]! = true ∧ y.2[k]! = true ∧ ∀ a ∈ (l[k]!).arcs.take y.1, y.2[a.to.toNat]! = true)
        (fun y => [(3, .d (.bool true)), (4, .d (.sl 2 (stas l))), (6, .own 5002 l.length), (7, .own 6002 l.length), (8, .d (.int .i64 k)), (9, .d (.int .i64 y.1))])
        (fun y => [(6002, .row 4 1 (bls (List.replicate l.length false))), (5002, .row 4 1 (bls y.2))]) 30000 (fun y => (l[k]!).arcs.length - y.1) [3, 4, 6, 7, 8, 9] [6002, 5002] (0, F.set k true) ⟨Nat.zero_le _, hsl, fun p a hp ha => hset _ (.inl (h3 p a hp ha)), hset 0 h00, hsk, fun a ha => by simp at ha⟩ rfl rfl (Nat.le_of_ble_eq_true rfl) (fun _ _ => rfl) (fun _ _ => rfl) fun ⟨j, G⟩ hj => ?_
      obtain ⟨j1, j2, j3, j4, j5, j6⟩ := hj
      simp only at j1 j2 j3 j4 j5 j6
      by_cases hj7 : j < (l[k]!).arcs.length
      · have hmem : (l[k]!).arcs[j]! ∈ (l[k]!).arcs := getM hj7
        have htk := atake_snoc hj7
        obtain ⟨g1, g2, g3⟩ := hfw k hk3 _ hmem
        obtain ⟨t, ht⟩ := Int.eq_ofNat_of_zero_le g1
        rw [ht, Int.toNat_natCast] at g2 g3
        have hset2 : ∀ q, G[q]! = true ∨ q = t → (G.set t true)[q]! = true := fun q hq => by
          rw [getB_setI (by omega)]
          split
          · rfl
          · exact hq.resolve_right (by assumption)
        have hsl2 : (G.set t true).length = l.length := by rw [List.length_set, j2]
        refine goX (And.intro @j2 (And.intro @j5 (And.intro @ht @Int.toNat_natCast))) ?_; first | exact trivial | skip
        refine ⟨(j + 1, G.set t true), ⟨by simp only; omega, hsl2, fun p a hp ha => hset2 _ (.inl (j3 p a hp ha)), hset2 _ (.inl j4), hset2 _ (.inl j5), fun a ha => ?_⟩, ?_, ?_, by simp only; omega⟩
        · rw [htk] at ha
          rcases List.mem_append.1 ha with h | h
          · exact hset2 _ (.inl (j6 a h))
          · simp only [List.mem_singleton] at h
            subst h
            rw [ht, Int.toNat_natCast]
            exact hset2 _ (.inr rfl)
        · simp (disch := omega) only [go_sem, keepL, Int.natCast_add, Int.cast_ofNat_Int]
        · simp (disch := omega) only [go_sem, keepL]
      · have hje : j = (l[k]!).arcs.length := by omega
        subst hje
        rw [List.take_length] at j6
        refine goT ?_; first | exact trivial | skip
        refine ⟨(k + 1, G), ⟨by simp only; omega, j2, fun p a hp ha => ?_, fun _ => j4⟩, ?_, ?_, by simp only; omega⟩
        · by_cases e : p = k
          · subst e; exact j6 a ha
          · exact j3 p a (by simp only at hp; omega) ha
        · simp (disch := omega) only [go_sem, keepL, Int.natCast_add, Int.cast_ofNat_Int]
        · simp (disch := omega) only [go_sem, keepL]
  · have hke : k = l.length := by omega
    subst hke
    have hF : ∀ t, t < l.length → F[t]! = true := fun t ht => by
      by_cases e : t = 0
      · subst e; exact h4 ht
      · obtain ⟨i, i1, a, a1, a2⟩ := hfr t (by omega) ht
        have := h3 i a (by omega) a1
        rw [a2] at this
        exact this
    refine goT ?_; first | exact trivial | skip
    refine WP_loopk (α := Nat × List Bool) (fun x => x.1 ≤ l.length ∧ x.2.length = l.length ∧ ∀ t, x.1 ≤ t → t < l.length → x.2[t]! = true)
      (fun x => [(3, .d (.bool true)), (4, .d (.sl 2 (stas l))), (6, .own 5002 l.length), (7, .own 6002 l.length), (11, .d (.int .i64 ((x.1 : Int) - 1)))])
      (fun x => [(6002, .row 4 1 (bls x.2)), (5002, .row 4 1 (bls F))]) 40000 (fun x => x.1) [3, 4, 6, 7, 11] [6002, 5002] (l.length, List.replicate l.length false) ⟨Nat.le_refl _, by simp, fun t h1 h2 => by simp only at h1; omega⟩ rfl rfl (Nat.le_of_ble_eq_true rfl) (fun _ _ => rfl) (fun _ _ => rfl) fun ⟨d, T⟩ hx => ?_
    obtain ⟨d1, d2, d3⟩ := hx
    simp only at d1 d2 d3
    by_cases hd0 : 0 < d
    · obtain ⟨i, hi⟩ : ∃ i, d = i + 1 := ⟨d - 1, by omega⟩
      have ei : (d : Int) - 1 = (i : Int) := by omega
      have hil : i < l.length := by omega
      have hfk := hfew i hil
      have hFi := hF i hil
      obtain ⟨f, hf⟩ : ∃ f, (l[i]!).final = f := ⟨_, rfl⟩
      have hsl : (T.set i f).length = l.length := by rw [List.length_set, d2]
      refine goX (And.intro @ei (And.intro @d2 (And.intro @hf @Int.toNat_natCast))) ?_; first | exact trivial | skip
      refine WP_loopk (α := Nat × List Bool) (fun y => y.1 ≤ (l[i]!).arcs.length ∧ y.2.length = l.length ∧ (∀ t, d ≤ t → t < l.length → y.2[t]! = true) ∧ y.2[i]! = (f || decide (0 < y.1)))
        (fun y => [(3, .d (.bool true)), (4, .d (.sl 2 (stas l))), (6, .own 5002 l.length), (7, .own 6002 l.length), (11, .d (.int .i64 i)), (12, .d (.int .i64 y.1))])
        (fun y => [(6002, .row 4 1 (bls y.2)), (5002, .row 4 1 (bls F))]) 50000 (fun y => (l[i]!).arcs.length - y.1) [3, 4, 6, 7, 11, 12] [6002, 5002] (0, T.set i f) ⟨Nat.zero_le _, hsl, fun t t1 t2 => by rw [getB_setI (by omega), if_neg (by omega)]; exact d3 t t1 t2, by rw [getB_setI (by omega), if_pos rfl]; simp⟩ (by rw [← ei]; rfl) rfl (Nat.le_of_ble_eq_true rfl) (fun _ _ => rfl) (fun _ _ => rfl) fun ⟨j, G⟩ hj => ?_
      obtain ⟨j1, j2, j3, j4⟩ := hj
      simp only at j1 j2 j3 j4
      by_cases hj7 : j < (l[i]!).arcs.length
      · have hmem : (l[i]!).arcs[j]! ∈ (l[i]!).arcs := getM hj7
        obtain ⟨g1, g2, g3⟩ := hfw i hil _ hmem
        obtain ⟨t, ht⟩ := Int.eq_ofNat_of_zero_le g1
        rw [ht, Int.toNat_natCast] at g2 g3
        have hGt := j3 t (by omega) g3
        have hsl2 : (G.set i true).length = l.length := by rw [List.length_set, j2]
        have hI : (G.set i true).length = l.length ∧ (∀ t, d ≤ t → t < l.length → (G.set i true)[t]! = true) ∧ (G.set i true)[i]! = (f || decide (0 < j + 1)) := ⟨hsl2, fun t t1 t2 => by rw [getB_setI (by omega), if_neg (by omega)]; exact j3 t t1 t2, by rw [getB_setI (by omega), if_pos rfl, decide_eq_true (by omega), Bool.or_true]⟩
        cases hGi : G[i]!
        · refine goX (And.intro @j2 (And.intro @hGi (And.intro @hGt (And.intro @ht @Int.toNat_natCast)))) ?_; first | exact trivial | skip
          refine ⟨(j + 1, G.set i true), ⟨by simp only; omega, hI⟩, ?_, ?_, by simp only; omega⟩
          · simp (disch := omega) only [go_sem, keepL, Int.natCast_add, Int.cast_ofNat_Int]
          · simp (disch := omega) only [go_sem, keepL]
        · refine goX (And.intro @j2 (And.intro @hGi (And.intro @hGt (And.intro @ht @Int.toNat_natCast)))) ?_; first | exact trivial | skip
          refine ⟨(j + 1, G.set i true), ⟨by simp only; omega, hI⟩, ?_, ?_, by simp only; omega⟩
          · simp (disch := omega) only [go_sem, keepL, Int.natCast_add, Int.cast_ofNat_Int]
          · simp (disch := omega) only [go_sem, keepL]
      · have hje : j = (l[i]!).arcs.length := by omega
        have hGi : G[i]! = true := by
          rw [j4]
          rcases hon i hil with h | h
          · rw [← hf, h]; rfl
          · have := List.length_pos_iff.2 h
            rw [decide_eq_true (by omega), Bool.or_true]
        refine goX (And.intro @j2 (And.intro @h2 (And.intro @hGi @hFi))) ?_; first | exact trivial | skip
        refine ⟨(i, G), ⟨by simp only; omega, j2, fun t t1 t2 => ?_⟩, ?_, ?_, by simp only; omega⟩
        · by_cases e : t = i
          · subst e; exact hGi
          · exact j3 t (by simp only at t1; omega) t2
        · simp (disch := omega) only [go_sem, keepL]
        · simp (disch := omega) only [go_sem, keepL]
    · have hd : d = 0 := by omega
      refine goT ?_; first | exact trivial | skip
end Go.Eng.Tryd

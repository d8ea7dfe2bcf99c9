/- Automata: how many, how deep, whether; as told, and as the law tells it. (and what stands behind it: texts laid together) -/
import Derived.Test.YtbnhblimckdcgaaGreatMG4
import Derived.Test.YtbnhblimckdcgaaGreatMR19
import Derived.Test.YtbnhblimckdcgaaGreatMR12
import Derived.Test.YtbnhblimckdcgaaGreatMR4
set_option linter.unusedVariables false
set_option linter.unusedSimpArgs false
namespace Go.Eng.Tryz
open Go Go.Eng Go.Proofs Go.RowKit
attribute [local go_sem] tys
attribute [local go_sem] is_len is_get ars_len ars_get stas_len stas_get is_setZ is_repZ
theorem arcsIn_of {l : List Sta} (hka : achk l = true) {s : Sta} (h : s ∈ l) : arcsIn s l.length := by
  obtain ⟨k, hk, rfl⟩ := List.getElem_of_mem h
  intro a ha
  rw [← getElem!_pos l k hk] at ha
  have := achk_arc hka hk a ha
  exact ⟨by omega, this.2.1⟩
theorem deep_in {out : List Int} {j : Nat} (h : ∀ z ∈ out, -1 ≤ z ∧ z ≤ (j : Int)) (s : Sta) : -1 ≤ deepF s out ∧ deepF s out ≤ ((j + 1 : Nat) : Int) := by
  have := deep_fold h s.arcs (if s.final = true then 0 else -1) (by split <;> omega)
  have e : deepF s out = s.arcs.foldl (deep1 out) (if s.final = true then 0 else -1) := rfl
  rw [e]
  omega
theorem manyI_in (l : List Sta) (j : Nat) : ∀ z ∈ toldI manyF l j, 0 ≤ z ∧ z ≤ 301 := toldI_inv (inv := fun _ z => 0 ≤ z ∧ z ≤ 301) (by decide) (fun _ _ h => h) (fun j out h => many_fold h _ _ (by split <;> decide)) j
theorem deepI_in (l : List Sta) (j : Nat) : ∀ z ∈ toldI deepF l j, -1 ≤ z ∧ z ≤ j := toldI_inv (inv := fun j z => -1 ≤ z ∧ z ≤ (j : Int)) (by decide) (fun _ _ h => by omega) (fun j out h => deep_in h _) j
def manyN (l : List Sta) : Int := if achk l = true then (toldI manyF l l.length)[0]! else 0
def deepN (l : List Sta) : Int := if achk l = true then (toldI deepF l l.length)[0]! else -1
/-! ### The law's own -/
theorem lastS_take {l : List Ar} {k : Nat} (h : k < l.length) (last : Int) : lastS last (l.take (k + 1)) = (l[k]!).sign := by rw [atake_snoc h, lastS_snoc]
theorem arcsOk_f {i n last : Int} {l : List Ar} {k : Nat} (hk : k < l.length) (h : arcsOk i n last (l.take k) = true) (hb : arcOk i n (lastS last (l.take k)) (l[k]!) = false) : arcsOk i n last l = false := by
  have e : l = l.take k ++ (l[k]! :: l.drop (k + 1)) := by rw [← adrop_at hk, List.take_append_drop]
  rw [e, arcsOk_app, h]
  simp only [arcsOk, hb, Bool.false_and, Bool.and_false]
theorem achk_len {l : List Sta} (h : statesOk l l.length = true) : achk l = (decide ((1 : Int) ≤ l.length) && decide ((l.length : Int) ≤ 6001)) := by
  unfold achk
  rw [h, Bool.true_and]
  by_cases h1 : 0 < l.length ∧ l.length ≤ 6001
  · rw [decide_eq_true h1, decide_eq_true (by omega), decide_eq_true (by omega)]; rfl
  · rw [decide_eq_false h1]
    by_cases h2 : 0 < l.length
    · rw [decide_eq_false (show ¬ (l.length : Int) ≤ 6001 by omega), Bool.and_false]
    · rw [decide_eq_false (show ¬ (1 : Int) ≤ l.length by omega), Bool.false_and]
set_option maxHeartbeats 8000000 in
set_option maxRecDepth 10000 in
theorem rCheckA {l : List Sta} (hl : StaOk l) : Sound Tryz.prog 29 [.sl 2 (stas l)] (.bool (achk l)) := by
  obtain ⟨hlen, hal⟩ := id hl
  refine Sound.run (N := 74) Tryz.func29 rfl (by kernel_rfl) rfl rfl rfl (by first | exact args0_0 | exact args0_1 | exact args0_2 | exact args0_3 | exact args0_4 | exact args0_5 | exact args0_6) fun X_ w_ => ?_
  refine goT ?_; first | exact trivial | skip
  refine WP_loopk (fun i : Nat => i ≤ l.length ∧ statesOk l i = true) (fun i => [(0, .d (.sl 2 (stas l))), (3, .d (.int .i64 i))]) (fun _ => []) 0 (fun i => l.length - i) [0, 3] [] 0 ⟨Nat.zero_le _, rfl⟩ rfl rfl (Nat.zero_le _) (fun _ _ => rfl) (fun _ _ => rfl) fun i hi => ?_
  obtain ⟨hi1, hi2⟩ := hi
  by_cases hi3 : i < l.length
  · have hai := hl.get hi3
    refine goT ?_; first | exact trivial | skip
    refine WP_loopk (fun k : Nat => k ≤ (l[i]!).arcs.length ∧ arcsOk i l.length (-1) ((l[i]!).arcs.take k) = true) (fun k => [(0, .d (.sl 2 (stas l))), (3, .d (.int .i64 i)), (4, .d (.int .i64 k))]) (fun _ => []) 0 (fun k => (l[i]!).arcs.length - k) [0, 3, 4] [] 0 ⟨Nat.zero_le _, rfl⟩ rfl rfl (Nat.zero_le _) (fun _ _ => rfl) (fun _ _ => rfl) fun k hk => ?_
    obtain ⟨hk1, hk2⟩ := hk
    by_cases hk3 : k < (l[i]!).arcs.length
    · have cg := refGood (z := ((l[i]!).arcs[k]!).sign)
      have hs := atake_snoc hk3
      have hbad : arcOk i l.length (lastS (-1) ((l[i]!).arcs.take k)) ((l[i]!).arcs[k]!) = false → achk l = false := fun hb => achk_f hi3 (arcsOk_f hk3 hk2 hb)
      have hgo : arcOk i l.length (lastS (-1) ((l[i]!).arcs.take k)) ((l[i]!).arcs[k]!) = true → arcsOk i l.length (-1) ((l[i]!).arcs.take (k + 1)) = true := fun hb => by rw [hs, arcsOk_app, hk2]; simp only [arcsOk, hb, Bool.and_true]
      have hlast : k = 0 ∧ lastS (-1) ((l[i]!).arcs.take k) = -1 ∨ ∃ m, k = m + 1 ∧ lastS (-1) ((l[i]!).arcs.take k) = ((l[i]!).arcs[m]!).sign := by
        cases k with
        | zero => exact .inl ⟨rfl, rfl⟩
        | succ m => exact .inr ⟨m, rfl, lastS_take (by omega) _⟩
      generalize lastS (-1) ((l[i]!).arcs.take k) = last at *
      unfold arcOk at hbad hgo
      by_cases h1 : gsign ((l[i]!).arcs[k]!).sign = true
      · rw [h1] at cg
        by_cases h2 : (i : Int) < ((l[i]!).arcs[k]!).to
        · by_cases h3 : ((l[i]!).arcs[k]!).to < l.length
          · rcases hlast with ⟨rfl, rfl⟩ | ⟨m, rfl, hlm⟩
            · have h4 : (-1 : Int) < ((l[i]!).arcs[0]!).sign := by have := of_decide_eq_true h1; omega
              have := hgo (by rw [h1, decide_eq_true h2, decide_eq_true h3, decide_eq_true h4]; rfl)
              have c0_ := cg; refine goT ?_; first | exact trivial | skip
              refine ⟨0 + 1, ⟨by omega, this⟩, ?_, rfl, by omega⟩
              simp (disch := omega) only [go_sem, keepL, Int.natCast_add, Int.cast_ofNat_Int]
            · have em : ((m + 1 : Nat) : Int) - 1 = (m : Int) := by omega
              by_cases h4 : last < ((l[i]!).arcs[m + 1]!).sign
              · have := hgo (by rw [h1, decide_eq_true h2, decide_eq_true h3, decide_eq_true h4]; rfl)
                rw [hlm] at h4
                have c0_ := cg; refine goX @em ?_; first | exact trivial | skip
                refine ⟨m + 1 + 1, ⟨by omega, this⟩, ?_, rfl, by omega⟩
                simp (disch := omega) only [go_sem, keepL, Int.natCast_add, Int.cast_ofNat_Int]
              · have := hbad (by rw [decide_eq_false h4]; rfl)
                rw [hlm] at h4
                have c0_ := cg; refine goX (And.intro @em @this) ?_; first | exact trivial | skip
          · have := hbad (by rw [decide_eq_false h3, Bool.and_false])
            have c0_ := cg; refine goX @this ?_; first | exact trivial | skip
        · have := hbad (by rw [decide_eq_false h2, Bool.and_false, Bool.false_and])
          have c0_ := cg; refine goX @this ?_; first | exact trivial | skip
      · have h1 := Bool.eq_false_iff.2 h1
        rw [h1] at cg
        have := hbad (by rw [h1, Bool.and_false, Bool.false_and, Bool.false_and])
        have c0_ := cg; refine goX @this ?_; first | exact trivial | skip
    · have hkl : k = (l[i]!).arcs.length := by omega
      subst hkl
      rw [List.take_length] at hk2
      have := statesOk_step l i
      rw [hi2, hk2] at this
      refine goT ?_; first | exact trivial | skip
      refine ⟨i + 1, ⟨by omega, this⟩, ?_, rfl, by omega⟩
      simp (disch := omega) only [go_sem, keepL, Int.natCast_add, Int.cast_ofNat_Int]
  · have hil : i = l.length := by omega
    subst hil
    rw [achk_len hi2]
    by_cases h1 : (1 : Int) ≤ l.length
    · rw [decide_eq_true h1, Bool.true_and]
      refine goT ?_; first | exact trivial | skip
    · rw [decide_eq_false h1, Bool.false_and]
      refine goT ?_; first | exact trivial | skip
theorem find_at {α : Type} [Inhabited α] {p : α → Bool} : ∀ {l : List α} {k : Nat}, k < l.length → (∀ j, j < k → p (l[j]!) = false) → p (l[k]!) = true → l.find? p = some (l[k]!)
  | [], k, h, _, _ => by simp at h
  | a :: l, 0, _, _, h2 => by simp only [List.getElem!_cons_zero] at h2 ⊢; rw [List.find?_cons_of_pos h2]
  | a :: l, k + 1, h, h1, h2 => by
    have h0 := h1 0 (by omega)
    simp only [List.getElem!_cons_zero] at h0
    simp only [List.getElem!_cons_succ] at h2 ⊢
    rw [List.find?_cons_of_neg (by simp [h0])]
    exact find_at (by simpa using h) (fun j hj => by have := h1 (j + 1) (by omega); simpa using this) h2
set_option maxHeartbeats 4000000 in
set_option maxRecDepth 10000 in
theorem rStep {l : List Sta} {f z : Int} (hl : StaOk l) : Sound Tryz.prog 22 [.sl 2 (stas l), .int .i64 f, .int .i64 z] (stepR (stepF l f z)) := by
  have hlen := hl.1
  by_cases h0 : f < 0
  · have e : stepF l f z = none := if_neg (by omega)
    rw [e]; unfold stepR
    refine Sound.run (N := 47) Tryz.func22 rfl (by kernel_rfl) rfl rfl rfl (by first | exact args0_0 | exact args0_1 | exact args0_2 | exact args0_3 | exact args0_4 | exact args0_5 | exact args0_6) fun X_ w_ => ?_
    refine goT ?_; first | exact trivial | skip
  by_cases h1 : (l.length : Int) ≤ f
  · have e : stepF l f z = none := if_neg (by omega)
    rw [e]; unfold stepR
    refine Sound.run (N := 47) Tryz.func22 rfl (by kernel_rfl) rfl rfl rfl (by first | exact args0_0 | exact args0_1 | exact args0_2 | exact args0_3 | exact args0_4 | exact args0_5 | exact args0_6) fun X_ w_ => ?_
    refine goT ?_; first | exact trivial | skip
  obtain ⟨i, rfl⟩ := Int.eq_ofNat_of_zero_le (by omega : 0 ≤ f)
  have e : stepF l i z = ((l[i]!).arcs.find? (sgn z)).map (·.to) := if_pos (by omega)
  have hai := hl.get (k := i) (by omega)
  rw [e]
  refine Sound.run (N := 47) Tryz.func22 rfl (by kernel_rfl) rfl rfl rfl (by first | exact args0_0 | exact args0_1 | exact args0_2 | exact args0_3 | exact args0_4 | exact args0_5 | exact args0_6) fun X_ w_ => ?_
  refine goT ?_; first | exact trivial | skip
  refine WP_loopk (fun k : Nat => k ≤ (l[i]!).arcs.length ∧ ∀ j, j < k → sgn z ((l[i]!).arcs[j]!) = false) (fun k => [(0, .d (.sl 2 (stas l))), (1, .d (.int .i64 i)), (2, .d (.int .i64 z)), (8, .d (.int .i64 k))]) (fun _ => []) 0 (fun k => (l[i]!).arcs.length - k) [0, 1, 2, 8] [] 0 ⟨Nat.zero_le _, fun j h => by omega⟩ rfl rfl (Nat.zero_le _) (fun _ _ => rfl) (fun _ _ => rfl) fun k hk => ?_
  obtain ⟨hk1, hk2⟩ := hk
  by_cases hk3 : k < (l[i]!).arcs.length
  · by_cases hs : ((l[i]!).arcs[k]!).sign = z
    · rw [find_at hk3 hk2 (decide_eq_true hs)]
      unfold stepR
      simp only [Option.map_some]
      refine goX @hs ?_; first | exact trivial | skip
    · refine goX @hs ?_; first | exact trivial | skip
      refine ⟨k + 1, ⟨by omega, fun j hj => ?_⟩, ?_, rfl, by omega⟩
      · by_cases e : j = k
        · subst e; exact decide_eq_false hs
        · exact hk2 j (by omega)
      · simp (disch := omega) only [go_sem, keepL, Int.natCast_add, Int.cast_ofNat_Int]
  · have : (l[i]!).arcs.find? (sgn z) = none := List.find?_eq_none.2 fun a ha => by
      obtain ⟨j, hj, rfl⟩ := List.getElem_of_mem ha
      have := hk2 j (by omega)
      rw [getElem!_pos _ j hj] at this
      exact Bool.eq_false_iff.1 this
    rw [this]
    unfold stepR
    simp only [Option.map_none]
    refine goT ?_; first | exact trivial | skip
/-! ### Whether a word is in an automaton -/
def hasF (l : List Sta) (w : List Int) : Bool := achk l && (match leadF l 0 w with | some t => (l[t.toNat]!).final | none => false)
end Go.Eng.Tryz
set_option linter.unusedVariables false
set_option linter.unusedSimpArgs false
namespace Go.Eng.Tryz
open Go Go.Eng Go.Proofs Go.RowKit
attribute [local go_sem] tys
attribute [local go_sem] is_len is_get is_take is_drop ses_len ses_get sss_len sss_get ars_len ars_get stas_len stas_get tt_len tt_get tt_getD tt_set us_set TU
set_option maxHeartbeats 4000000 in
set_option maxRecDepth 10000 in
theorem rLead20 {l : List Sta} (hl : StaOk l) (hka : achk l = true) : ∀ (w : List Int) (f : Int), w.length ≤ 9223372036854775807 → Sound Tryz.prog 9 [.sl 2 (stas l), .int .i64 f, .sl 1 (is w)] (stepR (leadG l f w)) := by
  have hlen := hl.1
  intro w
  induction w with
  | nil =>
    intro f hw
    by_cases h0 : f < 0
    · have e : leadG l f [] = none := if_neg (by omega)
      rw [e]; unfold stepR
      refine Sound.run (N := 40) Tryz.func9 rfl (by kernel_rfl) rfl rfl rfl (by first | exact args0_0 | exact args0_1 | exact args0_2 | exact args0_3 | exact args0_4 | exact args0_5 | exact args0_6) fun X_ w_ => ?_
      refine goT ?_; first | exact trivial | skip
    by_cases h1 : (l.length : Int) ≤ f
    · have e : leadG l f [] = none := if_neg (by omega)
      rw [e]; unfold stepR
      refine Sound.run (N := 40) Tryz.func9 rfl (by kernel_rfl) rfl rfl rfl (by first | exact args0_0 | exact args0_1 | exact args0_2 | exact args0_3 | exact args0_4 | exact args0_5 | exact args0_6) fun X_ w_ => ?_
      refine goT ?_; first | exact trivial | skip
    · have e : leadG l f [] = some f := if_pos (by omega)
      rw [e]; unfold stepR
      refine Sound.run (N := 40) Tryz.func9 rfl (by kernel_rfl) rfl rfl rfl (by first | exact args0_0 | exact args0_1 | exact args0_2 | exact args0_3 | exact args0_4 | exact args0_5 | exact args0_6) fun X_ w_ => ?_
      refine goT ?_; first | exact trivial | skip
  | cons z u ih =>
    intro f hw
    have e0 : (z :: u)[0]! = z := rfl
    have eD : (z :: u).drop 1 = u := rfl
    have hwl : 0 < (z :: u).length := by simp
    have cs := rStep (f := f) (z := z) hl
    have e : 0 ≤ f ∧ f < l.length → leadG l f (z :: u) = match stepF l f z with | some t => leadF l t u | none => none := fun h => if_pos h
    have en : ¬ (0 ≤ f ∧ f < l.length) → leadG l f (z :: u) = none := fun h => if_neg h
    have ci := fun t => ih t (by simp at hw; omega)
    generalize z :: u = W at *
    by_cases h0 : f < 0
    · rw [en (by omega)]; unfold stepR
      refine Sound.run (N := 40) Tryz.func9 rfl (by kernel_rfl) rfl rfl rfl (by first | exact args0_0 | exact args0_1 | exact args0_2 | exact args0_3 | exact args0_4 | exact args0_5 | exact args0_6) fun X_ w_ => ?_
      refine goT ?_; first | exact trivial | skip
    by_cases h1 : (l.length : Int) ≤ f
    · rw [en (by omega)]; unfold stepR
      refine Sound.run (N := 40) Tryz.func9 rfl (by kernel_rfl) rfl rfl rfl (by first | exact args0_0 | exact args0_1 | exact args0_2 | exact args0_3 | exact args0_4 | exact args0_5 | exact args0_6) fun X_ w_ => ?_
      refine goT ?_; first | exact trivial | skip
    have e := e (by omega)
    cases hs : stepF l f z with
    | none =>
      rw [hs] at cs e
      simp only at e
      rw [e]
      unfold stepR at cs ⊢
      refine Sound.run (N := 40) Tryz.func9 rfl (by kernel_rfl) rfl rfl rfl (by first | exact args0_0 | exact args0_1 | exact args0_2 | exact args0_3 | exact args0_4 | exact args0_5 | exact args0_6) fun X_ w_ => ?_
      have c0_ := cs; refine goX @e0 ?_; first | exact trivial | skip
    | some t =>
      rw [hs] at cs e
      simp only at e
      have hin := stepF_in hka hs
      have ci := ci t
      rw [show leadG l t u = leadF l t u from if_pos ⟨by omega, by omega⟩, ← e] at ci
      cases hg : leadG l f W with
      | none =>
        rw [hg] at ci
        unfold stepR at cs ci ⊢
        refine Sound.run (N := 40) Tryz.func9 rfl (by kernel_rfl) rfl rfl rfl (by first | exact args0_0 | exact args0_1 | exact args0_2 | exact args0_3 | exact args0_4 | exact args0_5 | exact args0_6) fun X_ w_ => ?_
        have c0_ := cs; have c1_ := ci; refine goX (And.intro @e0 @eD) ?_; first | exact trivial | skip
      | some v =>
        rw [hg] at ci
        unfold stepR at cs ci ⊢
        refine Sound.run (N := 40) Tryz.func9 rfl (by kernel_rfl) rfl rfl rfl (by first | exact args0_0 | exact args0_1 | exact args0_2 | exact args0_3 | exact args0_4 | exact args0_5 | exact args0_6) fun X_ w_ => ?_
        have c0_ := cs; have c1_ := ci; refine goX (And.intro @e0 @eD) ?_; first | exact trivial | skip
set_option maxHeartbeats 4000000 in
set_option maxRecDepth 10000 in
theorem rBy {s : Se} {l : List Sta} {k : Nat} {row : List Int} (hl : StaOk l) (hka : achk l = true) (hk : k < l.length) (hrow : row.length = l.length) (hc : U s.cost) (hu : ∀ e ∈ endsF s l k, U (row[e.toNat]!)) (hput : s.put.length ≤ 9223372036854775807) : Sound Tryz.prog 31 [se s, .sl 2 (stas l), .int .i64 k, .sl 1 (us row)] (.int .u64 (byF s l k row)) := by
  have hlen := (achk_iff.1 hka).2.2
  have hlok := hl.1
  have hak := hl.get hk
  unfold se
  cases ha : s.any
  · have cl := rLead20 hl hka s.put k hput
    cases hg : leadG l k s.put with
    | none =>
      have e : endsF s l k = [] := by unfold endsF; rw [ha, if_neg (by decide), hg]
      have eS : byF s l k row = 18446744073709551615 := by unfold byF; rw [e]; rfl
      rw [hg] at cl
      unfold stepR at cl
      rw [eS]
      refine Sound.run (N := 61) Tryz.func31 rfl (by kernel_rfl) rfl rfl rfl (by first | exact args0_0 | exact args0_1 | exact args0_2 | exact args0_3 | exact args0_4 | exact args0_5 | exact args0_6) fun X_ w_ => ?_
      have c0_ := cl; refine goT ?_; first | exact trivial | skip
    | some e0 =>
      have e : endsF s l k = [e0] := by unfold endsF; rw [ha, if_neg (by decide), hg]
      have hin := endsF_in hka hk (s := s) (e := e0) (by rw [e]; simp)
      obtain ⟨x, rfl⟩ := Int.eq_ofNat_of_zero_le (by omega : 0 ≤ e0)
      have hvx := hu x (by rw [e]; simp)
      rw [Int.toNat_natCast] at hvx
      have cadd_ := ref02Add hc hvx
      have hU := U_cadd hc hvx
      have eS : byF s l k row = cadd s.cost (row[x]!) := by
        unfold byF
        rw [e]
        simp only [List.foldl_cons, List.foldl_nil, Int.toNat_natCast]
        unfold U at hU
        omega
      rw [hg] at cl
      unfold stepR at cl
      rw [eS]
      refine Sound.run (N := 61) Tryz.func31 rfl (by kernel_rfl) rfl rfl rfl (by first | exact args0_0 | exact args0_1 | exact args0_2 | exact args0_3 | exact args0_4 | exact args0_5 | exact args0_6) fun X_ w_ => ?_
      have c0_ := cl; have c1_ := cadd_; refine goX @us_len ?_; first | exact trivial | skip
  · have e : endsF s l k = (l[k]!).arcs.map (·.to) := by unfold endsF; rw [ha, if_pos rfl]
    have eS : byF s l k row = ((l[k]!).arcs.map (·.to)).foldl (fun m e => min m (cadd s.cost (row[e.toNat]!))) 18446744073709551615 := by unfold byF; rw [e]
    rw [eS]
    rw [e] at hu
    refine Sound.run (N := 61) Tryz.func31 rfl (by kernel_rfl) rfl rfl rfl (by first | exact args0_0 | exact args0_1 | exact args0_2 | exact args0_3 | exact args0_4 | exact args0_5 | exact args0_6) fun X_ w_ => ?_
    refine goT ?_; first | exact trivial | skip
    refine WP_loopk (fun j : Nat => j ≤ (l[k]!).arcs.length) (fun j => [(1, .d (.sl 2 (stas l))), (2, .d (.int .i64 k)), (3, .d (.sl 1 (us row))), (4, .ref 0 0), (11, .d (.int .u64 ((((l[k]!).arcs.take j).map (·.to)).foldl (fun m e => min m (cadd s.cost (row[e.toNat]!))) 18446744073709551615))), (12, .d (.int .i64 j))])
      (fun _ => [(0, .var [.d (.int .i64 s.eat), .d (.sl 1 (is s.put)), .d (.bool true), .d (.int .u64 s.cost)])]) 1 (fun j => (l[k]!).arcs.length - j) [1, 2, 3, 4, 11, 12] [0] 0 (Nat.zero_le _) rfl rfl (Nat.zero_le _) (fun _ _ => rfl) (fun _ _ => rfl) fun j hj => ?_
    by_cases hj2 : j < (l[k]!).arcs.length
    · have hmem : (l[k]!).arcs[j]! ∈ (l[k]!).arcs := by rw [getElem!_pos _ j hj2]; exact List.getElem_mem hj2
      have harc := achk_arc hka hk _ hmem
      obtain ⟨x, hx⟩ := Int.eq_ofNat_of_zero_le (by omega : 0 ≤ ((l[k]!).arcs[j]!).to)
      have hvx := hu x (List.mem_map.2 ⟨_, hmem, hx⟩)
      rw [Int.toNat_natCast] at hvx
      have cadd_ := ref02Add hc hvx
      have hst : (((l[k]!).arcs.take (j + 1)).map (·.to)).foldl (fun m e => min m (cadd s.cost (row[e.toNat]!))) 18446744073709551615 = min ((((l[k]!).arcs.take j).map (·.to)).foldl (fun m e => min m (cadd s.cost (row[e.toNat]!))) 18446744073709551615) (cadd s.cost (row[x]!)) := by
        rw [atake_snoc hj2, List.map_append, List.foldl_append, List.map_cons, List.map_nil, hx]; rfl
      generalize (((l[k]!).arcs.take j).map (·.to)).foldl (fun m e => min m (cadd s.cost (row[e.toNat]!))) 18446744073709551615 = M at *
      have c0_ := cadd_; refine goX (And.intro @us_len @hx) ?_; first | exact trivial | skip
      refine ⟨j + 1, by omega, ?_, ?_, by omega⟩
      · simp (disch := omega) only [go_sem, keepL, Int.natCast_add, Int.cast_ofNat_Int, hst]
      · simp (disch := omega) only [go_sem, keepL]
    · have hjl : j = (l[k]!).arcs.length := by omega
      subst hjl
      rw [List.take_length]
      refine goT ?_; first | exact trivial | skip
theorem tt_snocT {t : List (List Int)} {r : List Int} : tt t ++ [.sl 1 (us r)] = tt (t ++ [r]) := by simp [tt]
theorem empR_len (n : Nat) (l : List Sta) (i : Nat) : (empR n l i).length = l.length := by simp [empR]
theorem empR_take {n : Nat} {l : List Sta} {i j : Nat} (h : j < l.length) : (empR n l i).take (j + 1) = (empR n l i).take j ++ [base n l i j] := by
  rw [atake_snoc (by rw [empR_len]; exact h), getElem!_pos _ j (by rw [empR_len]; exact h)]
  simp [empR]
def empL (n : Nat) (l : List Sta) (i : Nat) : List (List Int) := (List.range i).map fun a => empR n l a
set_option maxHeartbeats 4000000 in
set_option maxRecDepth 10000 in
theorem rEmpty {n : Nat} {l : List Sta} (hn : n ≤ 1000) (hl : StaOk l) (hll : l.length ≤ 6001) : SoundM Tryz.prog 30 [.d (.int .i64 n), .d (.sl 2 (stas l))] [] (.tab 600000 n) [(600000, .tab TU (tt (emp0 n l)) none)] 0 := by
  refine SoundM.run (N := 41) (ks := [600000]) Tryz.func30 rfl (by kernel_rfl) rfl rfl rfl (by first | exact argsA_0 | exact argsA_1 | exact argsA_2 | exact argsA_3 | exact argsA_4 | exact argsA_5 | exact argsA_6) fun X_ ν_ w_ => ?_
  refine goT ?_; first | exact trivial | skip
  refine WP_own 5 20000 43 1 rfl (by decide) (Nat.le_of_ble_eq_true rfl) ?_
  refine WP_tab 5 600000 TU rfl rfl rfl rfl rfl (by decide) rfl (Nat.le_of_ble_eq_true rfl) rfl rfl ?_
  refine WP_loopk (fun i : Nat => i ≤ n) (fun i => [(0, .d (.int .i64 n)), (1, .d (.sl 2 (stas l))), (5, .tab 600000 ((empL n l i)).length), (6, .d (.int .i64 i))]) (fun i => [(600000, .tab TU (tt (empL n l i)) none)]) 600001 (fun i => n - i) [0, 1, 5, 6] [600000] 0 (Nat.zero_le _) rfl rfl (Nat.zero_le _) (fun _ _ => rfl) (fun _ _ => rfl) fun i hi => ?_
  have hRl : (empL n l i).length = i := by simp [empL]
  by_cases hi2 : i < n
  · have hst : (empL n l (i + 1)) = (empL n l i) ++ [empR n l i] := by simp [empL, List.range_succ]
    generalize (empL n l i) = R at *
    refine goT ?_; first | exact trivial | skip
    refine WP_own 7 610000 22 1 rfl (by decide) (Nat.le_of_ble_eq_true rfl) ?_
    refine WP_loopk (fun j : Nat => j ≤ l.length) (fun j => [(0, .d (.int .i64 n)), (1, .d (.sl 2 (stas l))), (5, .tab 600000 R.length), (6, .d (.int .i64 i)), (7, .own 610000 ((empR n l i).take j).length), (8, .d (.int .i64 j))]) (fun j => [(600000, .tab TU (tt R) none), (610000, .row 22 1 (us ((empR n l i).take j)))]) 610001 (fun j => l.length - j) [0, 1, 5, 6, 7, 8] [600000, 610000] 0 (Nat.zero_le _) rfl rfl (Nat.zero_le _) (fun _ _ => rfl) (fun _ _ => rfl) fun j hj => ?_
    have hel : ((empR n l i).take j).length = j := by rw [List.length_take, empR_len]; omega
    by_cases hj2 : j < l.length
    · have hst2 := empR_take (n := n) (i := i) hj2
      generalize (empR n l i).take j = A at *
      by_cases k1 : i + 1 = n
      · have ei : (i : Int) + 1 = (n : Int) := by omega
        cases hfin : (l[j]!).final
        · have eb : base n l i j = 18446744073709551615 := if_neg (by rw [hfin]; simp)
          rw [eb] at hst2
          refine goX (And.intro @ei (And.intro @hfin @us_snoc)) ?_; first | exact trivial | skip
          refine ⟨j + 1, by omega, ?_, ?_, by omega⟩
          · simp (disch := omega) only [go_sem, keepL, Int.natCast_add, Int.cast_ofNat_Int, hst2, us_len, List.length_append, List.length_cons, List.length_nil]
          · simp (disch := omega) only [go_sem, keepL, hst2, us_snoc]
        · have eb : base n l i j = 0 := if_pos ⟨k1, hfin⟩
          rw [eb] at hst2
          refine goX (And.intro @ei (And.intro @hfin @us_snoc)) ?_; first | exact trivial | skip
          refine ⟨j + 1, by omega, ?_, ?_, by omega⟩
          · simp (disch := omega) only [go_sem, keepL, Int.natCast_add, Int.cast_ofNat_Int, hst2, us_len, List.length_append, List.length_cons, List.length_nil]
          · simp (disch := omega) only [go_sem, keepL, hst2, us_snoc]
      · have eb : base n l i j = 18446744073709551615 := if_neg (fun h => k1 h.1)
        rw [eb] at hst2
        refine goX @us_snoc ?_; first | exact trivial | skip
        refine ⟨j + 1, by omega, ?_, ?_, by omega⟩
        · simp (disch := omega) only [go_sem, keepL, Int.natCast_add, Int.cast_ofNat_Int, hst2, us_len, List.length_append, List.length_cons, List.length_nil]
        · simp (disch := omega) only [go_sem, keepL, hst2, us_snoc]
    · have hjl : j = l.length := by omega
      subst hjl
      rw [List.take_of_length_le (by rw [empR_len]; exact Nat.le_refl _)] at hel ⊢
      refine goX (And.intro @us_len @tt_snocT) ?_; first | exact trivial | skip
      refine ⟨i + 1, by omega, ?_, ?_, by omega⟩
      · simp (disch := omega) only [go_sem, keepL, Int.natCast_add, Int.cast_ofNat_Int, hst, List.length_append, List.length_cons, List.length_nil]
      · simp (disch := omega) only [go_sem, keepL, hst, tt_snocT]
  · have hin : i = n := by omega
    subst hin
    have e : (empL i l i) = emp0 i l := rfl
    rw [e] at hRl ⊢
    refine goX @hRl ?_; first | exact trivial | skip
end Go.Eng.Tryz
set_option linter.unusedVariables false
set_option linter.unusedSimpArgs false
namespace Go.Eng.Tryz
open Go Go.Eng Go.Proofs Go.RowKit
attribute [local go_sem] tys
attribute [local go_sem] is_len is_get ses_len ses_get sss_len sss_get ars_len ars_get stas_len stas_get tt_len tt_get tt_getD tt_set us_set TU
set_option maxHeartbeats 4000000 in
set_option maxRecDepth 10000 in
theorem rTableN {c : Co} {q : List Int} {l : List Sta} (hc : c.ok) (hr : c.rules.length ≤ 1000000) (hq : q.length ≤ 9223372036854775807) (hl : StaOk l) (h : mayG c q l = false) : Sound Tryz.prog 12 [co c, .sl 1 (is q), .sl 2 (stas l)] .nils := by
  have ca := rAll hc hr hq
  have cch := rCheckA hl
  cases hm : may c q
  · have eA : stepsAll c q = [] := if_neg (by rw [hm]; simp)
    rw [eA] at ca
    have e0 : sss [] = [] := rfl
    rw [e0] at ca
    unfold co at ca ⊢
    refine Sound.run (N := 106) Tryz.func12 rfl (by kernel_rfl) rfl rfl rfl (by first | exact args0_0 | exact args0_1 | exact args0_2 | exact args0_3 | exact args0_4 | exact args0_5 | exact args0_6) fun X_ w_ => ?_
    have c0_ := ca; have c1_ := cch; refine goT ?_; first | exact trivial | skip
  · have hchk : achk l = false := by unfold mayG at h; rw [hm] at h; simpa using h
    rw [hchk] at cch
    have eA : stepsAll c q = allF c q (q.length + 1) := if_pos hm
    rw [eA] at ca
    have hlen := allF_len c q (q.length + 1)
    generalize allF c q (q.length + 1) = all at *
    unfold co at ca ⊢
    refine Sound.run (N := 106) Tryz.func12 rfl (by kernel_rfl) rfl rfl rfl (by first | exact args0_0 | exact args0_1 | exact args0_2 | exact args0_3 | exact args0_4 | exact args0_5 | exact args0_6) fun X_ w_ => ?_
    have c0_ := ca; have c1_ := cch; refine goX @hlen ?_; first | exact trivial | skip
set_option maxHeartbeats 16000000 in
set_option maxRecDepth 10000 in
theorem rTable1 {c : Co} {q : List Int} {l : List Sta} (hc : c.ok) (hr : c.rules.length ≤ 1000000) (hm : may c q = true) (hl : StaOk l) (hchk : achk l = true) : Sound Tryz.prog 12 [co c, .sl 1 (is q), .sl 2 (stas l)] (.sl 1 (tt (tg (allF c q (q.length + 1)) l))) := by
  obtain ⟨hq, hk⟩ := may_iff.1 hm
  have ca := rAll (q := q) hc hr (by omega)
  have eA : stepsAll c q = allF c q (q.length + 1) := if_pos hm
  rw [eA] at ca
  have cch := rCheckA hl
  rw [hchk] at cch
  have hS := tg_steps hc hk q
  have hput : ∀ i, i < q.length + 1 → ∀ s ∈ (allF c q (q.length + 1))[i]!, s.put.length ≤ 8 := fun i hi s hs => by
    rw [allF_get c q hi] at hs
    exact (stAt_ok hc hk hs).2.2.2.1
  have hlen := allF_len c q (q.length + 1)
  have hllen := achk_iff.1 hchk
  have hsl : ∀ i, i < q.length + 1 → ((allF c q (q.length + 1))[i]!).length ≤ 1000 := fun i hi => by
    obtain ⟨k1, k2⟩ := cok_rules hk
    rw [allF_get c q hi]
    have h1 := st3_len c (q.drop i)
    have h2 := st4_len (q.drop i) c.rules
    unfold stAt
    simp only [List.length_append]
    omega
  generalize hall : allF c q (q.length + 1) = all at *
  have h0 : 0 < all.length := by omega
  have hneq : ¬ all.length = 0 := by omega
  have ce := rEmpty (n := all.length) (by omega) hl (by omega)
  have hset2 : ∀ (t : List (List Int)) (i k : Nat) (v : Int), set2 t i k v = t.set i ((t[i]!).set k v) := fun _ _ _ _ => rfl
  unfold co at ca ⊢
  refine Sound.run (N := 106) Tryz.func12 rfl (by kernel_rfl) rfl rfl rfl (by first | exact args0_0 | exact args0_1 | exact args0_2 | exact args0_3 | exact args0_4 | exact args0_5 | exact args0_6) fun X_ w_ => ?_
  have c0_ := ca; have c1_ := cch; have c2_ := ce; refine goX @hneq ?_; first | exact trivial | skip
  refine WP_loopk (fun p : Nat × Bool => (p.1 = 0 ∧ p.2 = true) ∨ p.1 = 1 ∨ (p.1 = 2 ∧ p.2 = false)) (fun p => [(2, .d (.sl 2 (stas l))), (7, .d (.sl 1 (sss all))), (9, .tab 4003 all.length), (10, .d (.bool p.2))]) (fun p => [(4003, .tab TU (tt (tabP all l p.1)) none)]) 5000 (fun p => 2 - p.1) [2, 7, 9, 10] [4003] (0, true) (.inl ⟨rfl, rfl⟩) rfl rfl (Nat.zero_le _) (fun _ _ => rfl) (fun _ _ => rfl) fun p hp => ?_
  obtain ⟨p, b⟩ := p
  simp only at hp
  cases b
  · have hp0 : p ≠ 0 := by rcases hp with ⟨_, h⟩ | h | ⟨h, _⟩ <;> first | omega | cases h
    have e : tabP all l p = tg all l := if_neg hp0
    simp only [e]
    have htl := (tg_all hS hchk).len
    refine goX @htl ?_; first | exact trivial | skip
  · have hp2 : p ≤ 1 := by rcases hp with ⟨h, _⟩ | h | ⟨_, h⟩ <;> first | omega | cases h
    obtain ⟨bF, fin1, fin2⟩ := tabP_round hS hchk h0 p
    have good0 := tabP_good hS hchk p
    simp only
    generalize tabP all l p = t0 at *
    refine goT ?_; first | exact trivial | skip
    refine WP_loopk (fun j : Nat => j ≤ all.length) (fun j => [(2, .d (.sl 2 (stas l))), (7, .d (.sl 1 (sss all))), (9, .tab 4003 all.length), (10, .d (.bool (relI all l j (t0, false)).2)), (11, .d (.int .i64 ((all.length : Int) - 1 - j)))]) (fun j => [(4003, .tab TU (tt (relI all l j (t0, false)).1) none)]) 5000 (fun j => all.length - j) [2, 7, 9, 10, 11] [4003] 0 (Nat.zero_le _) (by rw [show ((all.length : Int) - 1 - ((0 : Nat) : Int)) = (all.length : Int) - 1 by omega]; rfl) rfl (Nat.zero_le _) (fun _ _ => rfl) (fun _ _ => rfl) fun j hj => ?_
    by_cases hj2 : j < all.length
    · obtain ⟨i, hi⟩ : ∃ i, i = all.length - 1 - j := ⟨_, rfl⟩
      have ei : (all.length : Int) - 1 - (j : Int) = (i : Int) := by omega
      have ej : (all.length : Int) - 1 - ((j : Int) + 1) = (i : Int) - 1 := by omega
      have hia : i < all.length := by omega
      have hst1 := relI_step all l j (t0, false)
      rw [← hi] at hst1
      have good1 := relI_good (x := (t0, false)) hS hchk good0 j (by omega)
      generalize relI all l j (t0, false) = x1 at *
      rw [ei]
      refine goT ?_; first | exact trivial | skip
      refine WP_loopk (fun m : Nat => m ≤ l.length) (fun m => [(2, .d (.sl 2 (stas l))), (7, .d (.sl 1 (sss all))), (9, .tab 4003 all.length), (10, .d (.bool (relM all l i m x1).2)), (11, .d (.int .i64 i)), (12, .d (.int .i64 ((l.length : Int) - 1 - m)))]) (fun m => [(4003, .tab TU (tt (relM all l i m x1).1) none)]) 5000 (fun m => l.length - m) [2, 7, 9, 10, 11, 12] [4003] 0 (Nat.zero_le _) (by rw [show ((l.length : Int) - 1 - ((0 : Nat) : Int)) = (l.length : Int) - 1 by omega]; rfl) rfl (Nat.zero_le _) (fun _ _ => rfl) (fun _ _ => rfl) fun m hm' => ?_
      by_cases hm2 : m < l.length
      · obtain ⟨x, hx⟩ : ∃ x, x = l.length - 1 - m := ⟨_, rfl⟩
        have ex : (l.length : Int) - 1 - (m : Int) = (x : Int) := by omega
        have em : (l.length : Int) - 1 - ((m : Int) + 1) = (x : Int) - 1 := by omega
        have hxl : x < l.length := by omega
        have hst2 := relM_step all l i m x1
        rw [← hx] at hst2
        have good2 := relM_good hS hchk hia good1 m (by omega)
        generalize relM all l i m x1 = x2 at *
        rw [ex]
        have hlim := hsl i (by omega)
        refine goT ?_; first | exact trivial | skip
        refine WP_loopk (fun k : Nat => k ≤ (all[i]!).length) (fun k => [(2, .d (.sl 2 (stas l))), (7, .d (.sl 1 (sss all))), (9, .tab 4003 all.length), (10, .d (.bool (relK all l i x k x2).2)), (11, .d (.int .i64 i)), (12, .d (.int .i64 x)), (13, .d (.int .i64 k))]) (fun k => [(4003, .tab TU (tt (relK all l i x k x2).1) none)]) 5000 (fun k => (all[i]!).length - k) [2, 7, 9, 10, 11, 12, 13] [4003] 0 (Nat.zero_le _) rfl rfl (Nat.zero_le _) (fun _ _ => rfl) (fun _ _ => rfl) fun k hk3 => ?_
        by_cases hk2 : k < (all[i]!).length
        · have hmem : (all[i]!)[k]! ∈ all[i]! := by rw [getElem!_pos (all[i]!) k hk2]; exact List.getElem_mem _
          obtain ⟨s1, s2, s3, s4⟩ := hS i hia _ hmem
          have s5 := hput i (by omega) _ hmem
          have hst3 := relK_step (all := all) (l := l) (i := i) (k := x) (x := x2) hk2
          have good3 := relK_good hS hchk hia hxl good2 k (by omega)
          generalize relK all l i x k x2 = x3 at *
          obtain ⟨T, b3⟩ := x3
          simp only at good3
          have g1 := good3.1.1
          have g2 := good3.1.2 i hia
          have g3 := good3.1.2 (i + ((all[i]!)[k]!).eat.toNat) s2
          have hcb : ∀ e ∈ endsF ((all[i]!)[k]!) l x, U ((T[i + ((all[i]!)[k]!).eat.toNat]!)[e.toNat]!) := fun e he => by
            obtain ⟨q1, q2, _⟩ := behind (t := T) hS hchk hia hxl hmem he
            exact good3.2 _ _ q1 q2
          have cb := rBy (s := (all[i]!)[k]!) (k := x) (row := T[i + ((all[i]!)[k]!).eat.toNat]!) hl hchk hxl g3 s3 hcb (by omega)
          unfold rel1 get2 at hst3
          simp only [hset2] at hst3
          obtain ⟨d, hd⟩ := Int.eq_ofNat_of_zero_le s1
          have ed : (i : Int) + ((all[i]!)[k]!).eat = ((i + d : Nat) : Int) := by omega
          have edn : ((all[i]!)[k]!).eat.toNat = d := by omega
          rw [edn] at g3 cb hst3 s2
          generalize byF ((all[i]!)[k]!) l x (T[i + d]!) = N at *
          unfold se at cb
          cases b3
          · simp only [Bool.false_or] at hst3
            have c0_ := cb; refine goX (And.intro @ed (And.intro @g1 (And.intro @g2 (And.intro @g3 @us_len)))) ?_; first | exact trivial | skip
            refine ⟨k + 1, by omega, ?_, ?_, by omega⟩
            · simp (disch := omega) only [go_sem, keepL, Int.natCast_add, Int.cast_ofNat_Int, hst3]
            · simp (disch := omega) only [go_sem, keepL, hst3]
          · simp only [Bool.true_or] at hst3
            have c0_ := cb; refine goX (And.intro @ed (And.intro @g1 (And.intro @g2 (And.intro @g3 @us_len)))) ?_; first | exact trivial | skip
            refine ⟨k + 1, by omega, ?_, ?_, by omega⟩
            · simp (disch := omega) only [go_sem, keepL, Int.natCast_add, Int.cast_ofNat_Int, hst3]
            · simp (disch := omega) only [go_sem, keepL, hst3]
        · have hke : k = (all[i]!).length := by omega
          subst hke
          rw [← hst2]
          refine goT ?_; first | exact trivial | skip
          refine ⟨m + 1, by omega, ?_, ?_, by omega⟩
          · simp (disch := omega) only [go_sem, keepL, Int.natCast_add, Int.cast_ofNat_Int, em]
          · simp (disch := omega) only [go_sem, keepL]
      · have hme : m = l.length := by omega
        subst hme
        rw [← hst1]
        refine goT ?_; first | exact trivial | skip
        refine ⟨j + 1, by omega, ?_, ?_, by omega⟩
        · simp (disch := omega) only [go_sem, keepL, Int.natCast_add, Int.cast_ofNat_Int, ej]
        · simp (disch := omega) only [go_sem, keepL]
    · have hje : j = all.length := by omega
      subst hje
      rw [fin1]
      refine goT ?_; first | exact trivial | skip
      refine ⟨(p + 1, bF), ?_, ?_, ?_, ?_⟩
      · by_cases h : p = 0
        · exact .inr (.inl (by show p + 1 = 1; omega))
        · exact .inr (.inr ⟨by show p + 1 = 2; omega, fin2 h⟩)
      · simp (disch := omega) only [go_sem, keepL]
      · have e : tabP all l (p + 1) = tg all l := if_neg (by omega)
        simp (disch := omega) only [go_sem, keepL, e]
      · show 2 - (p + 1) < 2 - p
        omega
theorem rTable20 {c : Co} {q : List Int} {l : List Sta} (hc : c.ok) (hr : c.rules.length ≤ 1000000) (hq : q.length ≤ 9223372036854775807) (hl : StaOk l) : Sound Tryz.prog 12 [co c, .sl 1 (is q), .sl 2 (stas l)] (.sl 1 (tt (tableG c q l))) := by
  unfold tableG
  cases h : mayG c q l
  · rw [if_neg (by simp)]; exact (rTableN hc hr hq hl h).wk (Wks.refl _) (.nil 1)
  · rw [if_pos rfl]
    unfold mayG at h
    rw [Bool.and_eq_true] at h
    exact rTable1 hc hr h.1 hl h.2
end Go.Eng.Tryz
set_option linter.unusedVariables false
set_option linter.unusedSimpArgs false
namespace Go.Eng.Tryz
open Go Go.Eng Go.Proofs Go.RowKit
set_option maxRecDepth 100000 in
theorem ty_is {n : Nat} {ds : List D} (h : TyC Tryz.prog n 26 ds) : ∃ l, dOf Tryz.prog 26 ds = .sl 1 (is l) ∧ l.length ≤ 9223372036854775807 := by
  obtain ⟨m, xs, rfl, h1, h2⟩ := ty_sl Tryz.underlying26 h
  obtain ⟨l, e1, e2, _⟩ := ty_list (f := fun z => D.int .i64 z) (ok := fun _ => True) (fun x hx => by
    obtain ⟨z, rfl, _⟩ := ty_int Tryz.underlying3 hx
    exact ⟨z, dOf_int Tryz.underlying3, trivial⟩) xs h2
  rw [e1, dOf_sl Tryz.underlying26]
  exact ⟨l, rfl, by omega⟩
set_option maxRecDepth 100000 in
theorem ty_ru {n : Nat} {ds : List D} (h : TyC Tryz.prog n 68 ds) : ∃ r : Ru, dOf Tryz.prog 68 ds = ru r ∧ r.ok := by
  obtain ⟨m, h⟩ := ty_struct Tryz.underlying68 h
  obtain ⟨_, _, rfl, h1, _, _, rfl, h2, _, _, rfl, h3, rfl⟩ := h
  obtain ⟨c, rfl, hc⟩ := ty_int Tryz.underlying22 h3
  obtain ⟨l, e1, o1⟩ := ty_is h1
  obtain ⟨k, xs, rfl, _, _⟩ := ty_sl Tryz.underlying26 h1
  rw [dOf_sl Tryz.underlying26] at e1
  obtain ⟨l', e2, o2⟩ := ty_is h2
  obtain ⟨k', xs', rfl, _, _⟩ := ty_sl Tryz.underlying26 h2
  rw [dOf_sl Tryz.underlying26] at e2
  rw [dOf_struct Tryz.underlying68, e1, e2]
  exact ⟨⟨l, l', c⟩, rfl, o1, o2, wf_u64 hc⟩
set_option maxRecDepth 100000 in
theorem ty_rs {n : Nat} {ds : List D} (h : TyC Tryz.prog n 23 ds) : ∃ l, dOf Tryz.prog 23 ds = .sl 3 (rs l) ∧ (∀ r ∈ l, r.ok) ∧ l.length ≤ 9223372036854775807 := by
  obtain ⟨m, xs, rfl, h1, h2⟩ := ty_sl Tryz.underlying23 h
  obtain ⟨l, e1, e2, h3⟩ := ty_list (f := ru) (ok := Ru.ok) (fun x hx => ty_ru hx) xs h2
  rw [e1, dOf_sl Tryz.underlying23]
  exact ⟨l, rfl, h3, by omega⟩
end Go.Eng.Tryz

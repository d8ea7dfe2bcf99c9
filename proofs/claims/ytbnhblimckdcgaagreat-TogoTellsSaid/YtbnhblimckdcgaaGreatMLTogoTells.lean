/- The law of what it costs to finish: as it is told. (and what stands behind it: texts laid together) -/
import Derived.Test.YtbnhblimckdcgaaGreatMG4
import Derived.Test.YtbnhblimckdcgaaGreatMR20
import Derived.Test.YtbnhblimckdcgaaGreatMR12
set_option linter.unusedVariables false
set_option linter.unusedSimpArgs false
namespace Go.Eng.Tryz
open Go Go.Eng Go.Proofs Go.RowKit
attribute [local go_sem] tys
attribute [local go_sem] is_len is_get stas_len stas_get tt_len tt_get us_len us_get dels
set_option maxHeartbeats 4000000 in
set_option maxRecDepth 10000 in
theorem rSameT {t : List (List Int)} (h1 : t.length ≤ 1000000) (h2 : ∀ i, i < t.length → (t[i]!).length ≤ 1000000) : Sound Tryz.prog 10 [.sl 1 (tt t), .sl 1 (tt t)] (.bool true) := by
  refine Sound.run (N := 29) Tryz.func10 rfl (by kernel_rfl) rfl rfl rfl (by first | exact args0_0 | exact args0_1 | exact args0_2 | exact args0_3 | exact args0_4 | exact args0_5 | exact args0_6) fun X_ w_ => ?_
  refine goT ?_; first | exact trivial | skip
  refine WP_loopk (fun i : Nat => i ≤ t.length) (fun i => [(0, .d (.sl 1 (tt t))), (1, .d (.sl 1 (tt t))), (5, .d (.int .i64 i))]) (fun _ => []) 0 (fun i => t.length - i) [0, 1, 5] [] 0 (Nat.zero_le _) rfl rfl (Nat.zero_le _) (fun _ _ => rfl) (fun _ _ => rfl) fun i hi => ?_
  by_cases hi2 : i < t.length
  · have hlen := h2 i hi2
    have cs := ref02Same (a := t[i]!) (b := t[i]!) (by omega) (by omega)
    rw [decide_eq_true rfl] at cs
    have c0_ := cs; refine goT ?_; first | exact trivial | skip
    refine ⟨i + 1, by omega, ?_, rfl, by omega⟩
    simp (disch := omega) only [go_sem, keepL, Int.natCast_add, Int.cast_ofNat_Int]
  · have hil : i = t.length := by omega
    subst hil
    refine goT ?_; first | exact trivial | skip
set_option maxHeartbeats 4000000 in
set_option maxRecDepth 10000 in
theorem lawTTells {c : Co} {q : List Int} {l : List Sta} {f : Int} {w : List Int} (hc : c.ok) (hq : q.length ≤ 9223372036854775807) (hl : StaOk l) (hf0 : -9223372036854775808 ≤ f ∧ f ≤ 9223372036854775807) (hw : w.length ≤ 9223372036854775807) : Sound Tryz.prog 3 [co c, .sl 1 (is q), .sl 2 (stas l), .int .i64 f, .sl 1 (is w)] (.bool true) := by
  have cf := pFewG hc hq hl
  have aw := togoAwake
  have ca := pCheckA hl
  cases hf : fewG c q l
  · rw [hf] at cf
    unfold co at cf ⊢
    refine Sound.run (N := 67) Tryz.func3 rfl (by kernel_rfl) rfl rfl rfl (by first | exact args0_0 | exact args0_1 | exact args0_2 | exact args0_3 | exact args0_4 | exact args0_5 | exact args0_6) fun X_ w_ => ?_
    have c0_ := aw; have c1_ := cf; refine goT ?_; first | exact trivial | skip
  rw [hf] at cf
  by_cases h1 : 100 < w.length
  · unfold co at cf ⊢
    refine Sound.run (N := 67) Tryz.func3 rfl (by kernel_rfl) rfl rfl rfl (by first | exact args0_0 | exact args0_1 | exact args0_2 | exact args0_3 | exact args0_4 | exact args0_5 | exact args0_6) fun X_ w_ => ?_
    have c0_ := aw; have c1_ := cf; refine goT ?_; first | exact trivial | skip
  have hlr := fewR_len (fewG_iff.1 hf).2.1
  have hll := (fewA_iff.1 (fewG_iff.1 hf).1).2
  have c1 := pTG (q := q) (l := l) hc hq hl
  have c2 := rTable20 (q := q) (l := l) hc (by omega) hq hl
  have hlen : (tableG c q l).length ≤ 1000000 ∧ ∀ i, i < (tableG c q l).length → ((tableG c q l)[i]!).length ≤ 1000000 := by
    cases hm : mayG c q l
    · rw [show tableG c q l = [] from if_neg (by rw [hm]; simp)]
      exact ⟨by simp, fun i hi => absurd hi (by simp)⟩
    · obtain ⟨x1, _, _, x4⟩ := tableG_TG hc hm
      have := x4.len
      rw [allF_len] at this
      exact ⟨by omega, fun i hi => by rw [x4.rows i (by rw [allF_len]; omega)]; omega⟩
  have c3 := rSameT hlen.1 hlen.2
  generalize tableG c q l = t at *
  unfold co at cf c1 c2 ⊢
  cases hka : achk l
  · rw [hka] at ca
    refine Sound.run (N := 67) Tryz.func3 rfl (by kernel_rfl) rfl rfl rfl (by first | exact args0_0 | exact args0_1 | exact args0_2 | exact args0_3 | exact args0_4 | exact args0_5 | exact args0_6) fun X_ w_ => ?_
    have c0_ := aw; have c1_ := cf; have c2_ := ca; have c3_ := c1; have c4_ := c2; have c5_ := c3; refine goT ?_; first | exact trivial | skip
  rw [hka] at ca
  have d1 := pLead (l := l) (f := f) (w := w) hl hw
  have d2 := rLead20 hl hka w f hw
  have hd : ∃ (v : Int) (o : Bool), stepR (leadG l f w) = .tup [.int .i64 v, .bool o] := by
    cases leadG l f w with
    | none => exact ⟨0, false, rfl⟩
    | some v => exact ⟨v, true, rfl⟩
  obtain ⟨v, o, hd⟩ := hd
  rw [hd] at d1 d2
  cases o
  all_goals
    refine Sound.run (N := 67) Tryz.func3 rfl (by kernel_rfl) rfl rfl rfl (by first | exact args0_0 | exact args0_1 | exact args0_2 | exact args0_3 | exact args0_4 | exact args0_5 | exact args0_6) fun X_ w_ => ?_
    have c0_ := aw; have c1_ := cf; have c2_ := ca; have c3_ := d1; have c4_ := d2; have c5_ := c1; have c6_ := c2; have c7_ := c3; refine goT ?_; first | exact trivial | skip
end Go.Eng.Tryz

/- The law of what it costs to finish from the start: the least that a word costs. (and what stands behind it: texts laid together) -/
import Derived.Test.YtbnhblimckdcgabGreatMG4
import Derived.Test.YtbnhblimckdcgabGreatMR19
import Derived.Test.YtbnhblimckdcgabGreatMR10
set_option linter.unusedVariables false
set_option linter.unusedSimpArgs false
namespace Go.Eng.Tryz
open Go Go.Eng Go.Proofs Go.RowKit
attribute [local go_sem] tys
attribute [local go_sem] is_len is_get iss_len iss_get ars_len ars_get stas_len stas_get tt_len tt_get us_len us_get dels
set_option maxHeartbeats 4000000 in
set_option maxRecDepth 10000 in
theorem lawTWords {c : Co} {q : List Int} {l : List Sta} (hc : c.ok) (hq : q.length ≤ 9223372036854775807) (hl : StaOk l) : Sound Tryz.prog 3 [co c, .sl 1 (is q), .sl 2 (stas l)] (.bool true) := by
  have cf := pFewG hc hq hl
  have aw := togoAwake
  have cc := sCheck hc
  have ca := pCheckA hl
  have cd := pDeepW hl
  cases hf : fewG c q l
  · rw [hf] at cf
    unfold co at cf ⊢
    refine Sound.run (N := 96) Tryz.func3 rfl (by kernel_rfl) rfl rfl rfl (by first | exact args0_0 | exact args0_1 | exact args0_2 | exact args0_3 | exact args0_4 | exact args0_5 | exact args0_6) fun X_ w_ => ?_
    have c0_ := aw; have c1_ := cf; refine goT ?_; first | exact trivial | skip
  rw [hf] at cf
  by_cases h1 : 20 < q.length
  · unfold co at cf ⊢
    refine Sound.run (N := 96) Tryz.func3 rfl (by kernel_rfl) rfl rfl rfl (by first | exact args0_0 | exact args0_1 | exact args0_2 | exact args0_3 | exact args0_4 | exact args0_5 | exact args0_6) fun X_ w_ => ?_
    have c0_ := aw; have c1_ := cf; refine goT ?_; first | exact trivial | skip
  cases hk : cok c
  · rw [hk] at cc
    unfold co at cf cc ⊢
    refine Sound.run (N := 96) Tryz.func3 rfl (by kernel_rfl) rfl rfl rfl (by first | exact args0_0 | exact args0_1 | exact args0_2 | exact args0_3 | exact args0_4 | exact args0_5 | exact args0_6) fun X_ w_ => ?_
    have c0_ := aw; have c1_ := cf; have c2_ := cc; refine goT ?_; first | exact trivial | skip
  rw [hk] at cc
  cases hka : achk l
  · rw [hka] at ca
    unfold co at cf cc ⊢
    refine Sound.run (N := 96) Tryz.func3 rfl (by kernel_rfl) rfl rfl rfl (by first | exact args0_0 | exact args0_1 | exact args0_2 | exact args0_3 | exact args0_4 | exact args0_5 | exact args0_6) fun X_ w_ => ?_
    have c0_ := aw; have c1_ := cf; have c2_ := cc; have c3_ := ca; refine goT ?_; first | exact trivial | skip
  rw [hka] at ca
  by_cases h2 : 20 < deepN l
  · unfold co at cf cc ⊢
    refine Sound.run (N := 96) Tryz.func3 rfl (by kernel_rfl) rfl rfl rfl (by first | exact args0_0 | exact args0_1 | exact args0_2 | exact args0_3 | exact args0_4 | exact args0_5 | exact args0_6) fun X_ w_ => ?_
    have c0_ := aw; have c1_ := cf; have c2_ := cc; have c3_ := ca; have c4_ := cd; refine goT ?_; first | exact trivial | skip
  have c1 := pWordsW hl
  by_cases h3 : manyN l ≤ 300
  rotate_left
  · have e2 : wsE l = 81 := if_neg h3
    rw [e2] at c1
    generalize wsW l = W at c1
    unfold co at cf cc ⊢
    refine Sound.run (N := 96) Tryz.func3 rfl (by kernel_rfl) rfl rfl rfl (by first | exact args0_0 | exact args0_1 | exact args0_2 | exact args0_3 | exact args0_4 | exact args0_5 | exact args0_6) fun X_ w_ => ?_
    have c0_ := aw; have c1_ := cf; have c2_ := cc; have c3_ := ca; have c4_ := cd; have c5_ := c1; refine goT ?_; first | exact trivial | skip
  have hl0 := (achk_iff.1 hka).2.1
  have hmn : manyN l = min 301 ((wordsF l []).length : Int) := by
    have : manyN l = (toldI manyF l l.length)[0]! := if_pos hka
    rw [this]
    exact wf_many hka l.length 0 [] hl0 (by omega)
  have hlen : (wordsF l []).length ≤ 300 := by omega
  have e1 : wsW l = wordsF l [] := by
    unfold wsW fromW
    rw [if_pos h3, if_pos ⟨hka, by omega, by omega⟩]
    exact List.take_of_length_le hlen
  have e2 : wsE l = 0 := by unfold wsE fromE; rw [if_pos h3, if_pos hka, if_pos ⟨by omega, by omega⟩]
  rw [e1, e2] at c1
  have hm : mayG c q l = true := by unfold mayG may; rw [hka, hk, decide_eq_true (by omega)]; rfl
  have key := togo_words (q := q) hc hm (by omega)
  obtain ⟨_, _, _, ht⟩ := tableG_TG hc hm
  have g1 := ht.len
  have g2 := ht.rows 0 (by rw [allF_len]; omega)
  rw [allF_len] at g1
  have hsh : ∀ w ∈ wordsF l [], w.length ≤ 20 := fun w hw => words_short hka (n := 20) (by omega) hw
  have c2 := pTG (q := q) (l := l) hc hq hl
  unfold get2 leastW at key
  generalize tableG c q l = t at *
  generalize wordsF l [] = W at *
  unfold co at cf cc c2 ⊢
  refine Sound.run (N := 96) Tryz.func3 rfl (by kernel_rfl) rfl rfl rfl (by first | exact args0_0 | exact args0_1 | exact args0_2 | exact args0_3 | exact args0_4 | exact args0_5 | exact args0_6) fun X_ w_ => ?_
  have c0_ := aw; have c1_ := cf; have c2_ := cc; have c3_ := ca; have c4_ := cd; have c5_ := c1; refine goT ?_; first | exact trivial | skip
  refine WP_loopk (fun i : Nat => i ≤ W.length) (fun i => [(1, .d (.sl 1 (is q))), (2, .d (.sl 2 (stas l))), (3, .ref 0 0), (7, .d (.bool true)), (8, .d (.sl 1 (iss W))), (10, .d (.int .u64 ((W.take i).foldl (fun m w => min m (ofD c q w)) 18446744073709551615))), (11, .d (.int .i64 i))]) (fun _ => [(0, .var [.d (.int .u64 c.more), .d (.int .u64 c.less), .d (.int .u64 c.other), .d (.int .u64 c.turned), .d (.sl 3 (rs c.rules))])]) 1 (fun i => W.length - i) [1, 2, 3, 7, 8, 10, 11] [0] 0 (Nat.zero_le _) rfl rfl (Nat.zero_le _) (fun _ _ => rfl) (fun _ _ => rfl) fun i hi => ?_
  by_cases hi2 : i < W.length
  · have hw := hsh (W[i]!) (by rw [getElem!_pos W i hi2]; exact List.getElem_mem hi2)
    have co := pOf (q := q) (w := W[i]!) hc hq (by omega)
    have hst := foldl_take (fun (m : Int) (w : List Int) => min m (ofD c q w)) 18446744073709551615 hi2
    generalize (W.take i).foldl (fun (m : Int) (w : List Int) => min m (ofD c q w)) 18446744073709551615 = M at *
    unfold Go.Eng.Tryz.co at co
    have c0_ := co; refine goT ?_; first | exact trivial | skip
    refine ⟨i + 1, by omega, ?_, rfl, by omega⟩
    simp (disch := omega) only [go_sem, keepL, Int.natCast_add, Int.cast_ofNat_Int, hst]
  · have hil : i = W.length := by omega
    subst hil
    rw [List.take_length, ← key]
    have c0_ := c2; refine goX (And.intro @g1 @g2) ?_; first | exact trivial | skip
end Go.Eng.Tryz

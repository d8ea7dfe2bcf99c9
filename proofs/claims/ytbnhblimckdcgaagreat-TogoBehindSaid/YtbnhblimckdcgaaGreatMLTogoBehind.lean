/- The law of what it costs to finish: from a place, and a state. (and what stands behind it: texts laid together) -/
import Derived.Test.YtbnhblimckdcgaaGreatMG4
import Derived.Test.YtbnhblimckdcgaaGreatMR19
import Derived.Test.YtbnhblimckdcgaaGreatMR12
set_option linter.unusedVariables false
set_option linter.unusedSimpArgs false
namespace Go.Eng.Tryz
open Go Go.Eng Go.Proofs Go.RowKit
attribute [local go_sem] tys
attribute [local go_sem] is_len is_get is_take is_drop ars_len ars_get stas_len stas_get tt_len tt_get us_len us_get dels
theorem stas_snocB {l : List Sta} {f : Bool} {A : List Ar} : stas l ++ [.agg [.bool f, .sl 2 (ars A)]] = stas (l ++ [⟨f, A⟩]) := by simp [stas, sta]
theorem ars_snocB {A : List Ar} {x y : Int} : ars A ++ [.agg [.int .i64 x, .int .i64 y]] = ars (A ++ [⟨x, y⟩]) := by simp [ars, ar]
theorem restS_ok {l : List Sta} (h : StaOk l) (s : Nat) : StaOk (restS l s) := by
  refine ⟨by rw [restS_len]; have := h.1; omega, fun x hx => ?_⟩
  unfold restS at hx
  obtain ⟨y, hy, rfl⟩ := List.mem_map.1 hx
  simp only [shS, List.length_map]
  exact h.2 y (List.mem_of_mem_drop hy)
theorem us_dropB {l : List Int} {k : Nat} : (us l).drop k = us (l.drop k) := by simp [us, List.map_drop]
theorem us_takeB {l : List Int} {k : Nat} : (us l).take k = us (l.take k) := by simp [us, List.map_take]
set_option maxHeartbeats 8000000 in
set_option maxRecDepth 10000 in
theorem lawTBehind {c : Co} {q : List Int} {l : List Sta} {n b : Int} (hc : c.ok) (hq : q.length ≤ 9223372036854775807) (hl : StaOk l) (hn : 0 ≤ n ∧ n ≤ 255) (hb : 0 ≤ b ∧ b ≤ 255) : Sound Tryz.prog 4 [co c, .sl 1 (is q), .sl 2 (stas l), .int .u8 n, .int .u8 b] (.bool true) := by
  have cf := pFewG hc hq hl
  have aw := togoAwake
  have cc := sCheck hc
  have ca := pCheckA hl
  cases hf : fewG c q l
  · rw [hf] at cf
    unfold co at cf ⊢
    refine Sound.run (N := 194) Tryz.func4 rfl (by kernel_rfl) rfl rfl rfl (by first | exact args0_0 | exact args0_1 | exact args0_2 | exact args0_3 | exact args0_4 | exact args0_5 | exact args0_6) fun X_ w_ => ?_
    have c0_ := aw; have c1_ := cf; refine goT ?_; first | exact trivial | skip
  rw [hf] at cf
  by_cases h1 : 20 < q.length
  · unfold co at cf ⊢
    refine Sound.run (N := 194) Tryz.func4 rfl (by kernel_rfl) rfl rfl rfl (by first | exact args0_0 | exact args0_1 | exact args0_2 | exact args0_3 | exact args0_4 | exact args0_5 | exact args0_6) fun X_ w_ => ?_
    have c0_ := aw; have c1_ := cf; refine goT ?_; first | exact trivial | skip
  by_cases h0 : l.length = 0
  · unfold co at cf ⊢
    refine Sound.run (N := 194) Tryz.func4 rfl (by kernel_rfl) rfl rfl rfl (by first | exact args0_0 | exact args0_1 | exact args0_2 | exact args0_3 | exact args0_4 | exact args0_5 | exact args0_6) fun X_ w_ => ?_
    have c0_ := aw; have c1_ := cf; refine goX @h0 ?_; first | exact trivial | skip
  have hll := (fewA_iff.1 (fewG_iff.1 hf).1).2
  have hfa := (fewA_iff.1 (fewG_iff.1 hf).1).1
  obtain ⟨i, hi⟩ : ∃ k : Nat, n % ((q.length : Int) + 1) = (k : Int) := Int.eq_ofNat_of_zero_le (Int.emod_nonneg _ (by omega))
  have hiq : i ≤ q.length := by
    have := Int.emod_lt_of_pos n (show (0 : Int) < (q.length : Int) + 1 by omega)
    omega
  obtain ⟨s, hs⟩ : ∃ k : Nat, b % (l.length : Int) = (k : Int) := Int.eq_ofNat_of_zero_le (Int.emod_nonneg _ (by omega))
  have hsl : s < l.length := by
    have := Int.emod_lt_of_pos b (show (0 : Int) < (l.length : Int) by omega)
    omega
  have c2 := pTG (q := q) (l := l) hc hq hl
  have c3 := pTG (q := q.drop i) (l := restS l s) hc (by rw [List.length_drop]; omega) (restS_ok hl s)
  have hcase : (tableG c q l = [] ∧ (cok c = false ∨ achk l = false)) ∨ ((tableG c q l).length = q.length + 1 ∧ (tableG c (q.drop i) (restS l s)).length = q.length - i + 1 ∧ (∀ k, k ≤ q.length → ((tableG c q l)[k]!).length = l.length) ∧
      ∀ k, k ≤ q.length - i → (tableG c (q.drop i) (restS l s))[k]! = ((tableG c q l)[i + k]!).drop s) := by
    cases hm : mayG c q l
    · left
      refine ⟨if_neg (by rw [hm]; simp), ?_⟩
      unfold mayG may at hm
      rw [decide_eq_true (show q.length ≤ 20 by omega), Bool.true_and] at hm
      cases hk : cok c
      · exact .inl rfl
      · rw [hk, Bool.true_and] at hm; exact .inr hm
    · exact .inr (togo_behind hc hm hiq hsl)
  have hrl := restS_len l s
  have hz : ¬ (l.length : Int) = 0 := by omega
  generalize tableG c q l = t at *
  generalize tableG c (q.drop i) (restS l s) = t2 at *
  unfold co at cf cc c2 c3 ⊢
  refine Sound.run (N := 194) Tryz.func4 rfl (by kernel_rfl) rfl rfl rfl (by first | exact args0_0 | exact args0_1 | exact args0_2 | exact args0_3 | exact args0_4 | exact args0_5 | exact args0_6) fun X_ w_ => ?_
  have c0_ := aw; have c1_ := cf; refine goX (And.intro @hi (And.intro @hs (And.intro @h0 @hz))) ?_; first | exact trivial | skip
  refine WP_own 14 20000 39 2 rfl (by decide) (Nat.le_of_ble_eq_true rfl) ?_
  refine WP_loopk (fun j : Nat => s + j ≤ l.length) (fun j => [(1, .d (.sl 1 (is q))), (2, .d (.sl 2 (stas l))), (5, .ref 0 0), (11, .d (.bool true)), (12, .d (.int .i64 i)), (13, .d (.int .i64 s)), (14, .own 20000 ((((l.drop s).take j).map (shS s))).length), (15, .d (.int .i64 ((s + j : Nat) : Int)))]) (fun j => [(0, .var [.d (.int .u64 c.more), .d (.int .u64 c.less), .d (.int .u64 c.other), .d (.int .u64 c.turned), .d (.sl 3 (rs c.rules))]), (20000, .row 39 2 (stas (((l.drop s).take j).map (shS s))))]) 20001 (fun j => l.length - j) [1, 2, 5, 11, 12, 13, 14, 15] [0, 20000] 0 (by omega) rfl rfl (Nat.zero_le _) (fun _ _ => rfl) (fun _ _ => rfl) fun j hj => ?_
  have hRl : (((l.drop s).take j).map (shS s)).length = j := by simp only [List.length_map, List.length_take, List.length_drop]; omega
  by_cases hj2 : s + j < l.length
  · have hst : ((l.drop s).take (j + 1)).map (shS s) = ((l.drop s).take j).map (shS s) ++ [⟨(l[s + j]!).final, (l[s + j]!).arcs.map (shA s)⟩] := by
      rw [atake_snoc (show j < (l.drop s).length by rw [List.length_drop]; omega), List.map_append]
      have : (l.drop s)[j]! = l[s + j]! := by simp only [List.getElem!_eq_getElem?_getD, List.getElem?_drop]
      rw [this]; rfl
    have hak := hfa _ hj2
    have e15 : ((s + j : Nat) : Int) + 1 = ((s + (j + 1) : Nat) : Int) := by omega
    generalize ((l.drop s).take j).map (shS s) = R at *
    refine goT ?_; first | exact trivial | skip
    refine WP_ownv 21007 1 30000 41 2 rfl rfl (by decide) (by decide) (by simp (disch := omega) only [go_sem]; rfl) ?_
    refine WP_loopk (fun m : Nat => m ≤ (l[s + j]!).arcs.length) (fun m => [(1, .d (.sl 1 (is q))), (2, .d (.sl 2 (stas l))), (5, .ref 0 0), (11, .d (.bool true)), (12, .d (.int .i64 i)), (13, .d (.int .i64 s)), (14, .own 20000 R.length), (15, .d (.int .i64 ((s + j : Nat) : Int))), (16, .ref 21007 0), (17, .d (.int .i64 m))]) (fun m => [(0, .var [.d (.int .u64 c.more), .d (.int .u64 c.less), .d (.int .u64 c.other), .d (.int .u64 c.turned), .d (.sl 3 (rs c.rules))]), (20000, .row 39 2 (stas R)), (21007, .var [.d (.bool (l[s + j]!).final), .own 30000 (((l[s + j]!).arcs.take m).map (shA s)).length]), (30000, .row 41 2 (ars (((l[s + j]!).arcs.take m).map (shA s))))]) 30001 (fun m => (l[s + j]!).arcs.length - m) [1, 2, 5, 11, 12, 13, 14, 15, 16, 17] [0, 20000, 21007, 30000] 0 (Nat.zero_le _) rfl rfl (Nat.zero_le _) (fun _ _ => rfl) (fun _ _ => rfl) fun m hm => ?_
    have hAl : (((l[s + j]!).arcs.take m).map (shA s)).length = m := by simp only [List.length_map, List.length_take]; omega
    by_cases hm2 : m < (l[s + j]!).arcs.length
    · have hst2 : ((l[s + j]!).arcs.take (m + 1)).map (shA s) = ((l[s + j]!).arcs.take m).map (shA s) ++ [⟨((l[s + j]!).arcs[m]!).sign, ((l[s + j]!).arcs[m]!).to - s⟩] := by
        rw [atake_snoc hm2, List.map_append]; rfl
      generalize ((l[s + j]!).arcs.take m).map (shA s) = A at *
      by_cases k1 : ((l[s + j]!).arcs[m]!).to < s
      · refine goT ?_; first | exact trivial | skip
      by_cases k2 : (l.length : Int) ≤ ((l[s + j]!).arcs[m]!).to
      · refine goT ?_; first | exact trivial | skip
      · refine goX @ars_snocB ?_; first | exact trivial | skip
        refine ⟨m + 1, by omega, ?_, ?_, by omega⟩
        · simp (disch := omega) only [go_sem, keepL, Int.natCast_add, Int.cast_ofNat_Int]
        · simp (disch := omega) only [go_sem, keepL, hst2, ars_snocB, List.length_append, List.length_cons, List.length_nil]
    · have hml : m = (l[s + j]!).arcs.length := by omega
      subst hml
      rw [List.take_length] at hAl ⊢
      refine goX @stas_snocB ?_; first | exact trivial | skip
      refine ⟨j + 1, by omega, ?_, ?_, by omega⟩
      · simp (disch := omega) only [go_sem, keepL, e15, hst, List.length_append, List.length_cons, List.length_nil]
      · simp (disch := omega) only [go_sem, keepL, hst, stas_snocB]
  · have hjl : j = l.length - s := by omega
    have hR : ((l.drop s).take j).map (shS s) = restS l s := by
      rw [List.take_of_length_le (by rw [List.length_drop]; omega)]; rfl
    rw [hR] at hRl ⊢
    rcases hcase with ⟨r1, r2⟩ | ⟨r1, r2, r3, r4⟩
    · subst r1
      rcases r2 with r2 | r2
      · rw [r2] at cc
        have c0_ := c2; have c1_ := c3; have c2_ := cc; refine goT ?_; first | exact trivial | skip
      · rw [r2] at ca
        cases hk : cok c
        · rw [hk] at cc
          have c0_ := c2; have c1_ := c3; have c2_ := cc; refine goT ?_; first | exact trivial | skip
        · rw [hk] at cc
          have c0_ := c2; have c1_ := c3; have c2_ := cc; have c3_ := ca; refine goT ?_; first | exact trivial | skip
    · have r5 := r3 i hiq
      have r6 : (t2[0]!).length = l.length - s := by rw [r4 0 (by omega), List.length_drop, r3 _ (by omega)]
      have r7 : (q.length : Int) - (i : Int) + 1 = ((q.length - i + 1 : Nat) : Int) := by omega
      have c0_ := c2; have c1_ := c3; refine goX (And.intro @r1 (And.intro @r2 (And.intro @r5 (And.intro @r6 (And.intro @r7 @hrl))))) ?_; first | exact trivial | skip
      refine WP_loopk (fun k : Nat => k ≤ t2.length) (fun k => [(11, .d (.bool true)), (12, .d (.int .i64 i)), (13, .d (.int .i64 s)), (19, .d (.sl 1 (tt t))), (20, .d (.sl 1 (tt t2))), (21, .d (.int .i64 k))]) (fun _ => []) 0 (fun k => t2.length - k) [11, 12, 13, 19, 20, 21] [] 0 (Nat.zero_le _) rfl rfl (Nat.le_refl _) (fun _ _ => rfl) (fun _ _ => rfl) fun k hk => ?_
      by_cases hk2 : k < t2.length
      · have d1 := r3 (i + k) (by omega)
        have d2 := r4 k (by omega)
        have ei : (i : Int) + (k : Int) = ((i + k : Nat) : Int) := by omega
        have eD : ((us (t[i + k]!)).take l.length).drop s = us (t2[k]!) := by rw [us_takeB, us_dropB, d2, ← d1, List.take_length]
        have hlen2 : (t2[k]!).length ≤ 9223372036854775807 := by rw [d2, List.length_drop]; omega
        have cs := ref02Same (a := t2[k]!) (b := t2[k]!) hlen2 hlen2
        rw [decide_eq_true rfl] at cs
        have c0_ := cs; refine goX (And.intro @ei (And.intro @d1 @eD)) ?_; first | exact trivial | skip
        refine ⟨k + 1, by omega, ?_, rfl, by omega⟩
        simp (disch := omega) only [go_sem, keepL, Int.natCast_add, Int.cast_ofNat_Int]
      · have hkl : k = t2.length := by omega
        subst hkl
        refine goT ?_; first | exact trivial | skip
end Go.Eng.Tryz

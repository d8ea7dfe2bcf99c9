/- Words of automata: found by halves; in order. (and what stands behind it: texts laid together) -/
import Derived.Test.YtbnhblimckdcgaaMG4
import Derived.Test.YtbnhblimckdcgaaMR16
import Derived.Test.YtbnhblimckdcgaaMR4
import Derived.Test.YtbnhblimckdcgaaMR6
import Derived.Test.YtbnhblimckdcgaaMR7
set_option linter.unusedVariables false
set_option linter.unusedSimpArgs false
namespace Go.Eng.Try
open Go Go.Eng Go.Proofs Go.RowKit
attribute [local go_sem] tys
attribute [local go_sem] is_len is_get ars_len ars_get stas_len stas_get iss_len iss_get dels
/-- What a search looks at. -/
def Fd (W : List (List Int)) (w : List Int) : Heap := [(0, .var [.d (.sl 1 (iss W))]), (1, .var [.d (.sl 1 (is w))])]
set_option maxHeartbeats 4000000 in
set_option maxRecDepth 10000 in
theorem pFind1 {W : List (List Int)} {w : List Int} {k : Nat} (hW : WsOk W) (hw : w.length ≤ 9223372036854775807) (hk : k < W.length) : SoundM Try.prog 66 [.d (.int .i64 k), .ref 0 0, .ref 1 0] (Fd W w) (.d (.bool (!decide (wcmp (W[k]!) w < 0)))) (Fd W w) 2 := by
  have cl := orderLess (a := W[k]!) (b := w) (hW.get hk) hw
  have hlen := hW.1
  unfold Fd
  refine SoundM.run (N := 12) (ks := [0, 1]) Try.func66 rfl (by kernel_rfl) rfl rfl rfl (by first | exact argsA_0 | exact argsA_1 | exact argsA_2 | exact argsA_3 | exact argsA_4 | exact argsA_5 | exact argsA_6) fun X_ ν_ w_ => ?_
  have c0_ := cl; refine goT ?_; first | exact trivial | skip
def fAt (W : List (List Int)) (w : List Int) : Nat := W.findIdx fun x => decide (¬ wcmp x w < 0)
theorem fAt_eq {W : List (List Int)} {w : List Int} {i : Nat} (hi : i ≤ W.length) (h1 : ∀ a, a < i → wcmp (W[a]!) w < 0) (h2 : ∀ a, i ≤ a → a < W.length → ¬ wcmp (W[a]!) w < 0) : fAt W w = i := by
  unfold fAt
  by_cases h : i < W.length
  · refine (List.findIdx_eq h).2 ⟨?_, fun a ha => ?_⟩
    · have := h2 i (Nat.le_refl _) h
      rw [getElem!_pos W i h] at this
      exact decide_eq_true this
    · have := h1 a ha
      rw [getElem!_pos W a (by omega)] at this
      simpa using this
  · have hil : i = W.length := by omega
    subst hil
    refine List.findIdx_eq_length.2 fun x hx => ?_
    obtain ⟨a, ha, rfl⟩ := List.getElem_of_mem hx
    have := h1 a ha
    rw [getElem!_pos W a ha] at this
    simpa using this
set_option maxHeartbeats 4000000 in
set_option maxRecDepth 10000 in
theorem pSearch {W : List (List Int)} {w : List Int} (hW : WsOk W) (hL : W.length ≤ 1000000) (hw : w.length ≤ 9223372036854775807) (hs : SrtW W) : SoundM Try.prog 65 [.d (.int .i64 W.length), .fn 66 [.ref 0 0, .ref 1 0]] (Fd W w) (.d (.int .i64 (fAt W w))) (Fd W w) 2 := by
  have hmono : ∀ a b, a < b → b < W.length → ¬ wcmp (W[a]!) w < 0 → ¬ wcmp (W[b]!) w < 0 := fun a b hab hb h1 h2 => h1 (wcmp_lt_trans (hs.at hab hb) (Int.le_of_lt h2))
  unfold Fd
  refine SoundM.run (N := 26) (ks := [0, 1]) Try.func65 rfl (by kernel_rfl) rfl rfl rfl (by first | exact argsA_0 | exact argsA_1 | exact argsA_2 | exact argsA_3 | exact argsA_4 | exact argsA_5 | exact argsA_6) fun X_ ν_ w_ => ?_
  refine goT ?_; first | exact trivial | skip
  refine WP_loopk (fun p : Nat × Nat => p.1 ≤ p.2 ∧ p.2 ≤ W.length ∧ (∀ a, a < p.1 → wcmp (W[a]!) w < 0) ∧ ∀ a, p.2 ≤ a → a < W.length → ¬ wcmp (W[a]!) w < 0) (fun p => [(1, .fn 66 [.ref 0 0, .ref 1 0]), (5, .d (.int .i64 p.1)), (6, .d (.int .i64 p.2))]) (fun _ => [(0, .var [.d (.sl 1 (iss W))]), (1, .var [.d (.sl 1 (is w))])]) 2 (fun p => p.2 - p.1) [1, 5, 6] [0, 1] (0, W.length) ⟨Nat.zero_le _, Nat.le_refl _, fun a h => by omega, fun a h1 h2 => by omega⟩ rfl rfl (Nat.le_of_ble_eq_true rfl) (fun _ _ => rfl) (fun _ _ => rfl) fun p hp => ?_
  obtain ⟨i, j⟩ := p
  obtain ⟨h1, h2, h3, h4⟩ := hp
  simp only at h1 h2 h3 h4
  dsimp only
  by_cases hij : i < j
  · obtain ⟨h, hh⟩ : ∃ h, h = (i + j) / 2 := ⟨_, rfl⟩
    have ehalf : ((i : Int) + (j : Int)).fdiv (2 ^ min 1 64) = (h : Int) := by
      show ((i : Int) + (j : Int)).fdiv 2 = (h : Int)
      rw [Int.fdiv_eq_ediv_of_nonneg _ (by decide)]
      omega
    have cf := pFind1 (k := h) hW hw (by omega)
    unfold Fd at cf
    by_cases hc : wcmp (W[h]!) w < 0
    · rw [decide_eq_true hc] at cf
      have c0_ := cf; refine goX @ehalf ?_; first | exact trivial | skip
      refine ⟨(h + 1, j), ⟨by show h + 1 ≤ j; omega, h2, fun a ha => ?_, h4⟩, ?_, ?_, by show j - (h + 1) < j - i; omega⟩
      · by_cases e : a = h
        · rw [e]; exact hc
        · by_cases hl : wcmp (W[a]!) w < 0
          · exact hl
          · exact absurd hc (hmono a h (by have : a < h + 1 := ha; omega) (by omega) hl)
      · simp (disch := omega) only [go_sem, keepL, Int.natCast_add, Int.cast_ofNat_Int]
      · simp (disch := omega) only [go_sem, keepL]
    · rw [decide_eq_false hc] at cf
      have c0_ := cf; refine goX @ehalf ?_; first | exact trivial | skip
      refine ⟨(i, h), ⟨by show i ≤ h; omega, by show h ≤ _; omega, h3, fun a ha hb => ?_⟩, ?_, ?_, by show h - i < j - i; omega⟩
      · by_cases e : a = h
        · rw [e]; exact hc
        · exact hmono h a (by have : h ≤ a := ha; omega) hb hc
      · simp (disch := omega) only [go_sem, keepL]
      · simp (disch := omega) only [go_sem, keepL]
  · have hij2 : j = i := by omega
    subst hij2
    rw [fAt_eq h2 h3 h4]
    refine goT ?_; first | exact trivial | skip
theorem fAt_drop {W : List (List Int)} {w : List Int} (hs : SrtW W) : fAt W w ≤ W.length ∧ W.filter (fun x => decide (¬ wcmp x w < 0)) = W.drop (fAt W w) := by
  refine ⟨List.findIdx_le_length, srt_drop (fun j h1 h2 => ?_) fun j h1 h2 => ?_⟩
  · have := List.not_of_lt_findIdx h1
    rw [getElem!_pos W j h2]
    simpa using this
  · have hlt : fAt W w < W.length := by omega
    have h0 : decide (¬ wcmp (W[fAt W w]) w < 0) = true := List.findIdx_getElem (w := hlt)
    rw [decide_eq_true_eq] at h0 ⊢
    by_cases e : j = fAt W w
    · subst e; rw [getElem!_pos W _ hlt]; exact h0
    · have := hs.at (show fAt W w < j by omega) h2
      rw [getElem!_pos W _ hlt] at this
      exact fun h3 => h0 (wcmp_lt_trans this (Int.le_of_lt h3))
set_option maxHeartbeats 4000000 in
set_option maxRecDepth 10000 in
theorem pFindW {W : List (List Int)} {w : List Int} (hW : WsOk W) (hL : W.length ≤ 1000000) (hw : w.length ≤ 9223372036854775807) (hs : SrtW W) : ∃ b, Sound Try.prog 33 [.sl 1 (iss W), .sl 1 (is w)] (.tup [.int .i64 (fAt W w), .bool b]) := by
  have cs := pSearch hW hL hw hs
  have ha := (fAt_drop (w := w) hs).1
  generalize fAt W w = k at *
  unfold Fd at cs
  by_cases h : k < W.length
  · have ce := sEqual (a := W[k]!) (b := w) (hW.get h) hw
    refine ⟨decide (W[k]! = w), ?_⟩
    refine Sound.run (N := 24) Try.func33 rfl (by kernel_rfl) rfl rfl rfl (by first | exact args0_0 | exact args0_1 | exact args0_2 | exact args0_3 | exact args0_4 | exact args0_5 | exact args0_6) fun X_ w_ => ?_
    have c0_ := cs; have c1_ := ce; refine goT ?_; first | exact trivial | skip
  · refine ⟨false, ?_⟩
    refine Sound.run (N := 24) Try.func33 rfl (by kernel_rfl) rfl rfl rfl (by first | exact args0_0 | exact args0_1 | exact args0_2 | exact args0_3 | exact args0_4 | exact args0_5 | exact args0_6) fun X_ w_ => ?_
    have c0_ := cs; refine goT ?_; first | exact trivial | skip
set_option maxHeartbeats 4000000 in
set_option maxRecDepth 10000 in
theorem lawWRises {l : List Sta} {w : List Int} {n : Int} (hl : StaOk l) (hw : w.length ≤ 9223372036854775807) (hn : 0 ≤ n ∧ n ≤ 255) : Sound Try.prog 8 [.sl 2 (stas l), .sl 1 (is w), .int .u8 n] (.bool true) := by
  have cf := pFewA (n := 200) hl (by omega)
  have aw := walkAwake
  cases hf : fewA l 200
  · rw [hf] at cf
    refine Sound.run (N := 138) Try.func8 rfl (by kernel_rfl) rfl rfl rfl (by first | exact args0_0 | exact args0_1 | exact args0_2 | exact args0_3 | exact args0_4 | exact args0_5 | exact args0_6) fun X_ w_ => ?_
    have c0_ := aw; have c1_ := cf; refine goT ?_; first | exact trivial | skip
  rw [hf] at cf
  by_cases h1 : 100 < w.length
  · refine Sound.run (N := 138) Try.func8 rfl (by kernel_rfl) rfl rfl rfl (by first | exact args0_0 | exact args0_1 | exact args0_2 | exact args0_3 | exact args0_4 | exact args0_5 | exact args0_6) fun X_ w_ => ?_
    have c0_ := aw; have c1_ := cf; refine goT ?_; first | exact trivial | skip
  obtain ⟨m, rfl⟩ := Int.eq_ofNat_of_zero_le hn.1
  have c1 := pWordsW hl
  have c2 := pFrom (f := w) (n := (m : Int)) hl hw
  have cm := pManyW hl
  -- the words from one on
  have hX : ∀ i, i < (fromW l w m).length → hasF l ((fromW l w m)[i]!) = true ∧ ¬ wcmp ((fromW l w m)[i]!) w < 0 ∧ ((fromW l w m)[i]!).length ≤ 6001 := fun i hi => by
    have hmem : (fromW l w m)[i]! ∈ fromW l w m := by rw [getElem!_pos _ i hi]; exact List.getElem_mem hi
    have h6 := (fromW_ok l w m).2.2 _ hmem
    unfold fromW at hmem
    split at hmem
    · rename_i h
      obtain ⟨a1, a2, _⟩ := wordsF_has h.1 (List.mem_of_mem_take hmem)
      unfold fromW
      unfold fromW at h6
      rw [if_pos h] at h6 ⊢
      exact ⟨a1, a2, h6⟩
    · cases hmem
  have hXs : SrtW (fromW l w m) := by
    unfold fromW
    split
    · rename_i h
      exact List.Pairwise.sublist (List.take_sublist _ _) (wordsF_srt h.1 w)
    · exact List.Pairwise.nil
  obtain ⟨k1, k2, k3⟩ := fromW_ok l w m
  obtain ⟨k4, k5, k6⟩ := wsW_ok l
  have hD : (wsE l = fromE l m ∧ ¬ fromE l m = 0) ∨ (wsE l = 81 ∧ fromE l m = 0 ∧ manyN l = 301) ∨ (wsE l = 0 ∧ fromE l m = 0 ∧ manyN l = ((wsW l).length : Int) ∧ SrtW (wsW l) ∧ fromW l w m = ((wsW l).drop (fAt (wsW l) w)).take m) := by
    cases hka : achk l
    · have hm0 : manyN l = 0 := if_neg (by rw [hka]; simp)
      have e1 : wsE l = 100 := by unfold wsE; rw [if_pos (by omega)]; exact if_neg (by rw [hka]; simp)
      have e2 : fromE l m = 100 := if_neg (by rw [hka]; simp)
      exact .inl ⟨by rw [e1, e2], by rw [e2]; decide⟩
    · have hl0 := (achk_iff.1 hka).2.1
      have e2 : fromE l m = 0 := by unfold fromE; rw [if_pos hka, if_pos ⟨by omega, by omega⟩]
      have hmn : manyN l = min 301 ((wordsF l []).length : Int) := by
        have : manyN l = (toldI manyF l l.length)[0]! := if_pos hka
        rw [this]
        exact wf_many hka l.length 0 [] hl0 (by omega)
      by_cases h3 : manyN l ≤ 300
      · have hlen : (wordsF l []).length ≤ 300 := by omega
        have e3 : wsW l = wordsF l [] := by
          unfold wsW fromW
          rw [if_pos h3, if_pos ⟨hka, by omega, by omega⟩]
          exact List.take_of_length_le hlen
        have e1 : wsE l = 0 := by unfold wsE fromE; rw [if_pos h3, if_pos hka, if_pos ⟨by omega, by omega⟩]
        have hs := wordsF_srt hka []
        refine .inr (.inr ⟨e1, e2, by rw [e3]; omega, by rw [e3]; exact hs, ?_⟩)
        have e4 : fromW l w m = (wordsF l w).take m := if_pos ⟨hka, by omega, by omega⟩
        rw [e4, e3, wordsF_filter l w, (fAt_drop (w := w) hs).2]
      · have e1 : wsE l = 81 := by unfold wsE; rw [if_neg h3]
        exact .inr (.inl ⟨e1, e2, by omega⟩)
  have k7 : (fromW l w m).length ≤ m := by
    unfold fromW
    split
    · rw [List.length_take]; omega
    · simp
  generalize fromW l w m = X at *
  generalize wsW l = W at *
  generalize wsE l = E1 at *
  generalize fromE l m = E2 at *
  refine Sound.run (N := 138) Try.func8 rfl (by kernel_rfl) rfl rfl rfl (by first | exact args0_0 | exact args0_1 | exact args0_2 | exact args0_3 | exact args0_4 | exact args0_5 | exact args0_6) fun X_ w_ => ?_
  have c0_ := aw; have c1_ := cf; have c2_ := c1; have c3_ := c2; refine goT ?_; first | exact trivial | skip
  refine WP_loopk (fun i : Nat => i ≤ X.length) (fun i => [(0, .d (.sl 2 (stas l))), (1, .d (.sl 1 (is w))), (2, .d (.int .u8 m)), (7, .d (.bool true)), (8, .d (.sl 1 (iss W))), (9, .d (.int .i64 E1)), (10, .d (.sl 1 (iss X))), (11, .d (.int .i64 E2)), (12, .d (.int .i64 i))]) (fun _ => []) 0 (fun i => X.length - i) [0, 1, 2, 7, 8, 9, 10, 11, 12] [] 0 (Nat.zero_le _) rfl rfl (Nat.zero_le _) (fun _ _ => rfl) (fun _ _ => rfl) fun i hi => ?_
  by_cases hi2 : i < X.length
  · obtain ⟨a1, a2, a3⟩ := hX i hi2
    have ch := pHasW (w := X[i]!) hl (by omega)
    rw [a1] at ch
    have cl1 := orderLess (a := X[i]!) (b := w) (by omega) hw
    rw [decide_eq_false a2] at cl1
    cases i with
    | zero =>
      have c0_ := ch; have c1_ := cl1; refine goT ?_; first | exact trivial | skip
      refine ⟨0 + 1, by omega, ?_, rfl, by omega⟩
      simp (disch := omega) only [go_sem, keepL, Int.natCast_add, Int.cast_ofNat_Int]
    | succ j =>
      have ej : ((j + 1 : Nat) : Int) - 1 = (j : Int) := by omega
      have a4 := (hX j (by omega)).2.2
      have cl2 := orderLess (a := X[j]!) (b := X[j + 1]!) (by omega) (by omega)
      rw [decide_eq_true (hXs.at (by omega) hi2)] at cl2
      have c0_ := ch; have c1_ := cl1; have c2_ := cl2; refine goX @ej ?_; first | exact trivial | skip
      refine ⟨j + 1 + 1, by omega, ?_, rfl, by omega⟩
      simp (disch := omega) only [go_sem, keepL, Int.natCast_add, Int.cast_ofNat_Int]
  · have hil : i = X.length := by omega
    subst hil
    rcases hD with ⟨d1, d2⟩ | ⟨d1, d2, d3⟩ | ⟨d1, d2, d3, d4, d5⟩
    · subst d1
      refine goX @d2 ?_; first | exact trivial | skip
    · subst d1; subst d2
      rw [d3] at cm
      have c0_ := cm; refine goT ?_; first | exact trivial | skip
    · subst d1; subst d2
      rw [d3] at cm
      obtain ⟨b, cfd⟩ := pFindW k5 (by omega) hw d4
      have ha := (fAt_drop (w := w) d4).1
      generalize fAt W w = k at *
      have emin : min (W.length : Int) ((k : Int) + (m : Int)) = ((min W.length (k + m) : Nat) : Int) := by omega
      have hsl : ((iss W).take (min W.length (k + m))).drop k = iss X := by
        rw [d5]
        unfold iss
        rw [← List.map_take, ← List.map_drop, List.drop_take]
        congr 1
        by_cases h : k + m ≤ W.length
        · rw [Nat.min_eq_right h]; congr 1; omega
        · rw [Nat.min_eq_left (by omega), List.take_of_length_le (by rw [List.length_drop]; omega), List.take_of_length_le (by rw [List.length_drop]; omega)]
      have cs := rSameW k2 k2
      rw [decide_eq_true rfl] at cs
      have c0_ := cm; have c1_ := cfd; have c2_ := cs; refine goX (And.intro @emin (And.intro @if_minI @hsl)) ?_; first | exact trivial | skip
end Go.Eng.Try
set_option linter.unusedVariables false
set_option linter.unusedSimpArgs false
namespace Go.Eng.Try
open Go Go.Eng Go.Proofs Go.RowKit
set_option maxRecDepth 100000 in
theorem ty_is {n : Nat} {ds : List D} (h : TyC Try.prog n 26 ds) : ∃ l, dOf Try.prog 26 ds = .sl 1 (is l) ∧ l.length ≤ 9223372036854775807 := by
  obtain ⟨m, xs, rfl, h1, h2⟩ := ty_sl Try.underlying26 h
  obtain ⟨l, e1, e2, _⟩ := ty_list (f := fun z => D.int .i64 z) (ok := fun _ => True) (fun x hx => by
    obtain ⟨z, rfl, _⟩ := ty_int Try.underlying3 hx
    exact ⟨z, dOf_int Try.underlying3, trivial⟩) xs h2
  rw [e1, dOf_sl Try.underlying26]
  exact ⟨l, rfl, by omega⟩
set_option maxRecDepth 100000 in
theorem ty_ru {n : Nat} {ds : List D} (h : TyC Try.prog n 34 ds) : ∃ r : Ru, dOf Try.prog 34 ds = ru r ∧ r.ok := by
  obtain ⟨m, h⟩ := ty_struct Try.underlying34 h
  obtain ⟨_, _, rfl, h1, _, _, rfl, h2, _, _, rfl, h3, rfl⟩ := h
  obtain ⟨c, rfl, hc⟩ := ty_int Try.underlying22 h3
  obtain ⟨l, e1, o1⟩ := ty_is h1
  obtain ⟨k, xs, rfl, _, _⟩ := ty_sl Try.underlying26 h1
  rw [dOf_sl Try.underlying26] at e1
  obtain ⟨l', e2, o2⟩ := ty_is h2
  obtain ⟨k', xs', rfl, _, _⟩ := ty_sl Try.underlying26 h2
  rw [dOf_sl Try.underlying26] at e2
  rw [dOf_struct Try.underlying34, e1, e2]
  exact ⟨⟨l, l', c⟩, rfl, o1, o2, wf_u64 hc⟩
set_option maxRecDepth 100000 in
theorem ty_rs {n : Nat} {ds : List D} (h : TyC Try.prog n 23 ds) : ∃ l, dOf Try.prog 23 ds = .sl 3 (rs l) ∧ (∀ r ∈ l, r.ok) ∧ l.length ≤ 9223372036854775807 := by
  obtain ⟨m, xs, rfl, h1, h2⟩ := ty_sl Try.underlying23 h
  obtain ⟨l, e1, e2, h3⟩ := ty_list (f := ru) (ok := Ru.ok) (fun x hx => ty_ru hx) xs h2
  rw [e1, dOf_sl Try.underlying23]
  exact ⟨l, rfl, h3, by omega⟩
end Go.Eng.Try
set_option linter.unusedVariables false
set_option linter.unusedSimpArgs false
namespace Go.Eng.Try
open Go Go.Eng Go.Proofs Go.RowKit
set_option maxRecDepth 100000 in
theorem ty_i64 {n : Nat} {ds : List D} (h : TyC Try.prog n 3 ds) : ∃ z : Int, dOf Try.prog 3 ds = .int .i64 z ∧ (-9223372036854775808 ≤ z ∧ z ≤ 9223372036854775807) := by
  obtain ⟨z, rfl, hz⟩ := ty_int Try.underlying3 h
  exact ⟨z, dOf_int Try.underlying3, wf_i64 hz⟩
set_option maxRecDepth 100000 in
theorem ty_u8 {n : Nat} {ds : List D} (h : TyC Try.prog n 5 ds) : ∃ z : Int, dOf Try.prog 5 ds = .int .u8 z ∧ (0 ≤ z ∧ z ≤ 255) := by
  obtain ⟨z, rfl, hz⟩ := ty_int Try.underlying5 h
  exact ⟨z, dOf_int Try.underlying5, wf_u8 hz⟩
set_option maxRecDepth 100000 in
theorem ty_co {n : Nat} {ds : List D} (h : TyC Try.prog n 25 ds) : ∃ c : Co, dOf Try.prog 25 ds = co c ∧ c.ok := by
  obtain ⟨m, h⟩ := ty_struct Try.underlying25 h
  obtain ⟨_, _, rfl, h1, _, _, rfl, h2, _, _, rfl, h3, _, _, rfl, h4, _, _, rfl, h5, rfl⟩ := h
  obtain ⟨c1, rfl, hc1⟩ := ty_int Try.underlying22 h1
  obtain ⟨c2, rfl, hc2⟩ := ty_int Try.underlying22 h2
  obtain ⟨c3, rfl, hc3⟩ := ty_int Try.underlying22 h3
  obtain ⟨c4, rfl, hc4⟩ := ty_int Try.underlying22 h4
  obtain ⟨l, e1, o1, o2⟩ := ty_rs h5
  obtain ⟨k, xs, rfl, _, _⟩ := ty_sl Try.underlying23 h5
  rw [dOf_sl Try.underlying23] at e1
  rw [dOf_struct Try.underlying25, e1]
  exact ⟨⟨c1, c2, c3, c4, l⟩, rfl, wf_u64 hc1, wf_u64 hc2, wf_u64 hc3, wf_u64 hc4, o1, o2⟩
end Go.Eng.Try
set_option linter.unusedVariables false
set_option linter.unusedSimpArgs false
namespace Go.Eng.Try
open Go Go.Eng Go.Proofs Go.RowKit
set_option maxRecDepth 100000 in
theorem ty_ar {n : Nat} {ds : List D} (h : TyC Try.prog n 64 ds) : ∃ a : Ar, dOf Try.prog 64 ds = ar a ∧ True := by
  obtain ⟨m, h⟩ := ty_struct Try.underlying64 h
  obtain ⟨_, _, rfl, h1, _, _, rfl, h2, rfl⟩ := h
  obtain ⟨s, rfl, _⟩ := ty_int Try.underlying3 h1
  obtain ⟨t, rfl, _⟩ := ty_int Try.underlying3 h2
  rw [dOf_struct Try.underlying64]
  exact ⟨⟨s, t⟩, rfl, trivial⟩
set_option maxRecDepth 100000 in
theorem ty_ars {n : Nat} {ds : List D} (h : TyC Try.prog n 60 ds) : ∃ l, dOf Try.prog 60 ds = .sl 2 (ars l) ∧ l.length ≤ 9223372036854775807 := by
  obtain ⟨m, xs, rfl, h1, h2⟩ := ty_sl Try.underlying60 h
  obtain ⟨l, e1, e2, h3⟩ := ty_list (f := ar) (ok := fun _ => True) (fun x hx => ty_ar hx) xs h2
  rw [e1, dOf_sl Try.underlying60]
  exact ⟨l, rfl, by omega⟩
set_option maxRecDepth 100000 in
theorem ty_sta {n : Nat} {ds : List D} (h : TyC Try.prog n 62 ds) : ∃ s : Sta, dOf Try.prog 62 ds = sta s ∧ s.arcs.length ≤ 9223372036854775807 := by
  obtain ⟨m, h⟩ := ty_struct Try.underlying62 h
  obtain ⟨_, _, rfl, h1, _, _, rfl, h2, rfl⟩ := h
  obtain ⟨b, rfl⟩ := ty_bool Try.underlying4 h1
  obtain ⟨l, e1, o1⟩ := ty_ars h2
  obtain ⟨k, xs, rfl, _, _⟩ := ty_sl Try.underlying60 h2
  rw [dOf_sl Try.underlying60] at e1
  rw [dOf_struct Try.underlying62, e1]
  exact ⟨⟨b, l⟩, rfl, o1⟩
set_option maxRecDepth 100000 in
theorem ty_sts {n : Nat} {ds : List D} (h : TyC Try.prog n 40 ds) : ∃ l, dOf Try.prog 40 ds = .sl 2 (stas l) ∧ StaOk l := by
  obtain ⟨m, xs, rfl, h1, h2⟩ := ty_sl Try.underlying40 h
  obtain ⟨l, e1, e2, h3⟩ := ty_list (f := sta) (ok := fun s => s.arcs.length ≤ 9223372036854775807) (fun x hx => ty_sta hx) xs h2
  rw [e1, dOf_sl Try.underlying40]
  exact ⟨l, rfl, by omega, h3⟩
end Go.Eng.Try

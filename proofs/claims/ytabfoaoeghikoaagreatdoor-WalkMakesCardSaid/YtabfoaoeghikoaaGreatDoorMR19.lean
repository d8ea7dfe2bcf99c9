/- The laws: the least automaton of an automaton's words; the words of what is made. (and what stands behind it: texts laid together) -/
import Derived.Test.YtabfoaoeghikoaaGreatDoorMG4
import Derived.Test.YtabfoaoeghikoaaGreatDoorMR16
import Derived.Test.YtabfoaoeghikoaaGreatDoorMR18
set_option linter.unusedVariables false
set_option linter.unusedSimpArgs false
namespace Go.Eng.Tryz
open Go Go.Eng Go.Proofs Go.RowKit
attribute [local go_sem] ty0 ty1 ty2 ty3 ty4 ty5 ty6 ty7 ty8 ty9 ty10 ty11 ty12 ty13 ty14 ty15 ty16 ty17 ty18
attribute [local go_sem] is_len is_get iss_len iss_get ars_len ars_get stas_len stas_get
theorem ws_of {L : List (List Int)} {l : List Sta} (hka : achk l = true) (hl : Lng L l) (hs : SrtW L) (hn : L.length ≤ 300) : wsW l = L ∧ wsE l = 0 ∧ manyN l = L.length := by
  have e0 : wordsF l [] = L := (lng_words hka).same hl (wordsF_srt hka []) hs
  have hmn : manyN l = min 301 ((wordsF l []).length : Int) := by
    have : manyN l = (toldI manyF l l.length)[0]! := if_pos hka
    rw [this]
    exact wf_many hka l.length 0 [] (achk_iff.1 hka).2.1 (by omega)
  rw [e0] at hmn
  have h3 : manyN l ≤ 300 := by omega
  refine ⟨?_, ?_, by omega⟩
  · unfold wsW fromW
    rw [if_pos h3, if_pos ⟨hka, by omega, by omega⟩, e0]
    exact List.take_of_length_le hn
  · unfold wsE fromE
    rw [if_pos h3, if_pos hka, if_pos ⟨by omega, by omega⟩]
theorem fAt_mem {W : List (List Int)} {w : List Int} (hs : SrtW W) : w ∈ W ↔ fAt W w < W.length ∧ W[fAt W w]! = w := by
  constructor
  · intro h
    obtain ⟨j, hj, e⟩ := List.getElem_of_mem h
    have hlt : fAt W w < W.length := List.findIdx_lt_length_of_exists ⟨w, h, decide_eq_true (wcmp_lt_irr w)⟩
    have h0 : decide (¬ wcmp (W[fAt W w]) w < 0) = true := List.findIdx_getElem (w := hlt)
    rw [decide_eq_true_eq] at h0
    have hle : fAt W w ≤ j := by
      apply Nat.le_of_not_lt
      intro hx
      have := List.not_of_lt_findIdx hx
      rw [e] at this
      exact absurd (decide_eq_true (wcmp_lt_irr w)) (by simpa using this)
    have he : fAt W w = j := by
      rcases Nat.lt_or_eq_of_le hle with h1 | h1
      · have := hs.at h1 hj
        rw [getElem!_pos W _ hlt, getElem!_pos W j hj, e] at this
        exact absurd this h0
      · exact h1
    exact ⟨hlt, by rw [he, getElem!_pos W j hj, e]⟩
  · rintro ⟨h1, h2⟩
    rw [← h2]; exact getM h1
set_option maxHeartbeats 4000000 in
set_option maxRecDepth 10000 in
theorem pFindM {W : List (List Int)} {w : List Int} (hW : WsOk W) (hL : W.length ≤ 1000000) (hw : w.length ≤ 9223372036854775807) (hs : SrtW W) : Sound Tryz.prog 24 [.sl 1 (iss W), .sl 1 (is w)] (.tup [.int .i64 (fAt W w), .bool (decide (w ∈ W))]) := by
  have cs := pSearch hW hL hw hs
  have ha := (fAt_drop (w := w) hs).1
  have hm := fAt_mem (w := w) hs
  generalize fAt W w = k at *
  unfold Fd at cs
  by_cases h : k < W.length
  · have ce := sEqual (a := W[k]!) (b := w) (hW.get h) hw
    have e : decide (w ∈ W) = decide (W[k]! = w) := by simp only [hm, h, true_and]
    rw [e]
    refine Sound.run (N := 24) Tryz.func24 rfl (by kernel_rfl) rfl rfl rfl (by first | exact args0_0 | exact args0_1 | exact args0_2 | exact args0_3 | exact args0_4 | exact args0_5 | exact args0_6) fun X_ w_ => ?_
    have c0_ := cs; have c1_ := ce; refine goT ?_; first | exact trivial | skip
  · rw [decide_eq_false (fun x => h (hm.1 x).1)]
    refine Sound.run (N := 24) Tryz.func24 rfl (by kernel_rfl) rfl rfl rfl (by first | exact args0_0 | exact args0_1 | exact args0_2 | exact args0_3 | exact args0_4 | exact args0_5 | exact args0_6) fun X_ w_ => ?_
    have c0_ := cs; refine goT ?_; first | exact trivial | skip
/-- The longest one's length. -/
def deepL (L : List (List Int)) (k : Nat) : Int := (L.take k).foldl (fun m w => max m (w.length : Int)) (-1)
theorem deepL_step {L : List (List Int)} {k : Nat} (h : k < L.length) : deepL L (k + 1) = max (deepL L k) ((L[k]!).length : Int) := by
  unfold deepL
  rw [atake_snoc h, List.foldl_append]
  rfl
theorem deepL_at (L : List (List Int)) : ∀ k, k ≤ L.length → -1 ≤ deepL L k ∧ (∀ w ∈ L.take k, (w.length : Int) ≤ deepL L k) ∧ (deepL L k = -1 ∨ ∃ w ∈ L, (w.length : Int) = deepL L k) := by
  intro k
  induction k with
  | zero => intro _; exact ⟨by simp [deepL], by simp, .inl rfl⟩
  | succ k ih =>
    intro hk
    obtain ⟨h1, h2, h3⟩ := ih (by omega)
    rw [deepL_step (by omega)]
    refine ⟨by omega, fun w hw => ?_, ?_⟩
    · rw [atake_snoc (by omega), List.mem_append, List.mem_singleton] at hw
      rcases hw with hw | rfl
      · have := h2 w hw; omega
      · omega
    · by_cases h : deepL L k ≤ ((L[k]!).length : Int)
      · exact .inr ⟨L[k]!, getM (by omega), by omega⟩
      · rw [show max (deepL L k) ((L[k]!).length : Int) = deepL L k by omega]
        exact h3
theorem Lng.deepL {L : List (List Int)} {l : List Sta} (h : Lng L l) (hka : achk l = true) : deepN l = deepL L L.length := by
  obtain ⟨a1, a2, a3⟩ := h.deep hka
  obtain ⟨b1, b2, b3⟩ := deepL_at L L.length (Nat.le_refl _)
  rw [List.take_length] at b2
  have h1 : deepN l ≤ Tryz.deepL L L.length := by
    rcases a3 with e | ⟨w, hw, e⟩
    · omega
    · have := b2 w hw; omega
  have h2 : Tryz.deepL L L.length ≤ deepN l := by
    rcases b3 with e | ⟨w, hw, e⟩
    · omega
    · have := a2 w hw; omega
  omega
theorem Lng.has {L : List (List Int)} {l : List Sta} (h : Lng L l) (hka : achk l = true) (w : List Int) : hasF l w = decide (w ∈ L) := by
  unfold hasF
  rw [hka, Bool.true_and]
  have := h w
  cases hl : leadF l 0 w with
  | none => rw [decide_eq_false (fun x => by obtain ⟨t, e, _⟩ := this.1 x; rw [hl] at e; cases e)]
  | some t =>
    simp only
    cases hf : (l[t.toNat]!).final
    · rw [decide_eq_false (fun x => by obtain ⟨s, e, e2⟩ := this.1 x; rw [hl] at e; cases e; rw [hf] at e2; cases e2)]
    · rw [decide_eq_true (this.2 ⟨t, hl, hf⟩)]
set_option maxHeartbeats 16000000 in
set_option maxRecDepth 10000 in
theorem lawWMakes {L : List (List Int)} {w : List Int} (hL : WsOk L) (hw : w.length ≤ 9223372036854775807) : Sound Tryz.prog 5 [.sl 1 (iss L), .sl 1 (is w)] (.bool true) := by
  have aw := walkAwake
  have cf := pFewW (n := 100) hL (by omega)
  have cm := pMake hL
  have ct := pTrieG hL
  have hl1 := hL.1
  unfold trieR at ct
  cases hf : fewW L 100
  · rw [hf] at cf
    refine Sound.run (N := 125) Tryz.func5 rfl (by kernel_rfl) rfl rfl rfl (by first | exact args0_0 | exact args0_1 | exact args0_2 | exact args0_3 | exact args0_4 | exact args0_5 | exact args0_6) fun X_ w_ => ?_
    have c0_ := aw; have c1_ := cf; refine goT ?_; first | exact trivial | skip
  rw [hf] at cf
  by_cases h100 : 100 < w.length
  · refine Sound.run (N := 125) Tryz.func5 rfl (by kernel_rfl) rfl rfl rfl (by first | exact args0_0 | exact args0_1 | exact args0_2 | exact args0_3 | exact args0_4 | exact args0_5 | exact args0_6) fun X_ w_ => ?_
    have c0_ := aw; have c1_ := cf; refine goT ?_; first | exact trivial | skip
  by_cases he : wrE L = 0
  rotate_left
  · rw [dawgR_no he] at cm
    rw [if_neg he] at ct
    rcases wrE_some L with h | h | h
    · exact absurd h he
    · rw [h] at cm ct
      refine Sound.run (N := 125) Tryz.func5 rfl (by kernel_rfl) rfl rfl rfl (by first | exact args0_0 | exact args0_1 | exact args0_2 | exact args0_3 | exact args0_4 | exact args0_5 | exact args0_6) fun X_ w_ => ?_
      have c0_ := aw; have c1_ := cf; have c2_ := cm; have c3_ := ct; refine goT ?_; first | exact trivial | skip
    · rw [h] at cm ct
      refine Sound.run (N := 125) Tryz.func5 rfl (by kernel_rfl) rfl rfl rfl (by first | exact args0_0 | exact args0_1 | exact args0_2 | exact args0_3 | exact args0_4 | exact args0_5 | exact args0_6) fun X_ w_ => ?_
      have c0_ := aw; have c1_ := cf; have c2_ := cm; have c3_ := ct; refine goT ?_; first | exact trivial | skip
  rw [dawgR_ok he] at cm
  rw [if_pos he] at ct
  obtain ⟨hl2, hwf, hsr⟩ := wrE_ok he
  have hwl : ∀ j, j < L.length → (L[j]!).length ≤ 20 := fun j hj => (wfit_le (List.all_eq_true.1 hwf (L[j]!) (getM hj))).2.1
  obtain ⟨K, hK⟩ := dawg_K he
  obtain ⟨B, hB⟩ := trie_K he
  have tk := hB.achk
  have c1 := pWordsW hB.sok
  have c2 := pWordsW hK.ok
  obtain ⟨e1, e2, _⟩ := ws_of tk hB.lng hsr hl2
  obtain ⟨f1, f2, f3⟩ := ws_of hK.chk hK.k.lng hsr hl2
  rw [e1, e2] at c1
  rw [f1, f2] at c2
  have c3 := pFindM hL (by omega) hw hsr
  have c4 := rSameW hL hL
  rw [decide_eq_true rfl] at c4
  have c5 := pHasW hB.sok hw
  have c6 := pHasW hK.ok hw
  rw [hB.lng.has tk] at c5
  rw [hK.k.lng.has hK.chk] at c6
  have c7 := pManyW hK.ok
  rw [f3] at c7
  have c8 := pDeepW hK.ok
  rw [hK.k.lng.deepL hK.chk] at c8
  have hdl := deepL_at L
  have hds := fun k => deepL_step (L := L) (k := k)
  generalize decide (w ∈ L) = b at *
  generalize fAt L w = at_ at c3
  generalize dawgF L = d at *
  generalize trieF L = t at *
  refine Sound.run (N := 125) Tryz.func5 rfl (by kernel_rfl) rfl rfl rfl (by first | exact args0_0 | exact args0_1 | exact args0_2 | exact args0_3 | exact args0_4 | exact args0_5 | exact args0_6) fun X_ w_ => ?_
  have c0_ := aw; have c1_ := cf; have c2_ := cm; have c3_ := ct; have c4_ := c1; have c5_ := c2; have c6_ := c3; refine goT ?_; first | exact trivial | skip
  refine WP_loopk (fun i : Nat => i ≤ L.length) (fun i => [(0, .d (.sl 1 (iss L))), (1, .d (.sl 1 (is w))), (5, .d (.bool true)), (6, .d (.sl 2 (stas t))), (8, .d (.sl 2 (stas d))), (10, .d (.sl 1 (iss L))), (11, .d (.int .i64 0)), (12, .d (.sl 1 (iss L))), (13, .d (.int .i64 0)), (15, .d (.bool b)), (16, .d (.int .i64 (deepL L i))), (17, .d (.int .i64 i))]) (fun _ => []) 20000 (fun i => L.length - i) [0, 1, 5, 6, 8, 10, 11, 12, 13, 15, 16, 17] [] 0 (Nat.zero_le _) rfl rfl (Nat.le_of_ble_eq_true rfl) (fun _ _ => rfl) (fun _ _ => rfl) fun i hi => ?_
  by_cases hi3 : i < L.length
  · have hstp := hds i hi3
    have hmx : (if ((L[i]!).length : Int) > deepL L i then ((L[i]!).length : Int) else deepL L i) = max (deepL L i) ((L[i]!).length : Int) := by split <;> omega
    generalize deepL L i = m0 at *
    refine goX @hmx ?_; first | exact trivial | skip
    refine ⟨i + 1, by omega, ?_, rfl, by omega⟩
    simp (disch := omega) only [go_sem, keepL, Int.natCast_add, Int.cast_ofNat_Int, hstp]
  · have hie : i = L.length := by omega
    subst hie
    generalize deepL L L.length = m0 at *
    cases b
    · have c0_ := c4; have c1_ := c5; have c2_ := c6; have c3_ := c7; have c4_ := c8; refine goT ?_; first | exact trivial | skip
    · have c0_ := c4; have c1_ := c5; have c2_ := c6; have c3_ := c7; have c4_ := c8; refine goT ?_; first | exact trivial | skip
end Go.Eng.Tryz

/- The words of an automaton from one on: as told, and as the law tells them. (and what stands behind it: texts laid together) -/
import Derived.Test.YtbnhblimckdcgaaMG4
import Derived.Test.YtbnhblimckdcgaaMR13
import Derived.Test.YtbnhblimckdcgaaMR8
set_option linter.unusedVariables false
set_option linter.unusedSimpArgs false
namespace Go.Eng.Try
open Go Go.Eng Go.Proofs Go.RowKit
attribute [local go_sem] tys
attribute [local go_sem] is_len is_get ars_len ars_get stas_len stas_get iss_len iss_get dels
theorem iss_nilW : iss [] = [] := rfl
theorem iss_snocW {l : List (List Int)} {w : List Int} : iss l ++ [.sl 1 (is w)] = iss (l ++ [w]) := by simp [iss]
set_option maxHeartbeats 4000000 in
set_option maxRecDepth 10000 in
theorem pWords1 {l : List Sta} {f : List Int} {Y : Ym} {m : Nat} {b : Bool} {o : List (List Int)} {st : LSt} (hy : TakesW Y m) (hm : m ≤ 300) (hl : StaOk l) (hka : achk l = true) (hf : f.length ≤ 9223372036854775807) (hR : WkR m [] (wordsF l f) b o st) :
    SoundM Try.prog 85 [.yld 0, .dref [.sl 2 (stas l)], .dref [.sl 1 (is f)]] (StW Y m [] .ready) (.tup []) (StW Y m o st) 4 := by
  have ct := pToldM hl hka
  have hl0 := (achk_iff.1 hka).2.1
  have cw := pWalk hy hm hl hka hf l.length 0 [] [] b o st hl0 (by omega) (Nat.le_refl _) (Nat.zero_le _) hR
  have cw2 : SoundM Try.prog 86 [.ref 0 0, .d (.int .i64 0), .d .nils] (WkH Y m l f [] .ready) (.d (.bool b)) (WkH Y m l f o st) 5 := by
    refine SoundK.wk cw rfl fun i a a' h h' => ?_
    match i with
    | 0 => simp at h h'; subst h; subst h'; exact .inl rfl
    | 1 => simp at h h'; subst h; subst h'; exact .inl rfl
    | 2 => simp at h h'; subst h; subst h'; exact .inr ⟨_, _, rfl, rfl, .nil 1⟩
    | i + 3 => simp at h
  unfold WkH at cw2
  unfold StW
  refine SoundM.run (N := 14) (ks := [0, 1, 2, 3]) Try.func85 rfl (by kernel_rfl) rfl rfl rfl (by first | exact argsA_0 | exact argsA_1 | exact argsA_2 | exact argsA_3 | exact argsA_4 | exact argsA_5 | exact argsA_6) fun X_ ν_ w_ => ?_
  have c0_ := ct; have c1_ := cw2; refine goT ?_; first | exact trivial | skip
set_option maxHeartbeats 4000000 in
set_option maxRecDepth 10000 in
theorem pWordsFn {l : List Sta} {f : List Int} : SoundM Try.prog 55 [.d (.sl 2 (stas l)), .d (.sl 1 (is f))] [] (.fn 85 [.dref [.sl 2 (stas l)], .dref [.sl 1 (is f)]]) [] 0 := by
  have h : SoundM Try.prog 55 [.d (.sl 2 (stas l)), .d (.sl 1 (is f))] [] (.fn 85 [.ref 0 0, .ref 1 0]) [(0, .var [.d (.sl 2 (stas l))]), (1, .var [.d (.sl 1 (is f))])] 0 := by
    refine SoundM.run (N := 6) (ks := [0, 1]) Try.func55 rfl (by kernel_rfl) rfl rfl rfl (by first | exact argsA_0 | exact argsA_1 | exact argsA_2 | exact argsA_3 | exact argsA_4 | exact argsA_5 | exact argsA_6) fun X_ ν_ w_ => ?_
    refine goT ?_; first | exact trivial | skip
  exact h.freeze rfl
def fromE (l : List Sta) (n : Int) : Int := if achk l = true then (if 0 ≤ n ∧ n ≤ 300 then 0 else 1) else 100
def fromW (l : List Sta) (f : List Int) (n : Int) : List (List Int) := if achk l = true ∧ 0 ≤ n ∧ n ≤ 300 then (wordsF l f).take n.toNat else []
set_option maxHeartbeats 8000000 in
set_option maxRecDepth 10000 in
theorem pFrom {l : List Sta} {f : List Int} {n : Int} (hl : StaOk l) (hf : f.length ≤ 9223372036854775807) : Sound Try.prog 23 [.sl 2 (stas l), .sl 1 (is f), .int .i64 n] (.tup [.sl 1 (iss (fromW l f n)), .int .i64 (fromE l n)]) := by
  have cch := pCheckA hl
  cases hka : achk l
  · have e1 : fromW l f n = [] := if_neg (by rw [hka]; simp)
    have e2 : fromE l n = 100 := if_neg (by rw [hka]; simp)
    rw [e1, e2]
    rw [hka] at cch
    refine Sound.wk (r := .tup [.nils, .int .i64 100]) ?_ (Wks.refl _) (.tup (.cons (.nil 1) (.cons (.refl _) .nil)))
    refine Sound.run (N := 33) Try.func23 rfl (by kernel_rfl) rfl rfl rfl (by first | exact args0_0 | exact args0_1 | exact args0_2 | exact args0_3 | exact args0_4 | exact args0_5 | exact args0_6) fun X_ w_ => ?_
    have c0_ := cch; refine goT ?_; first | exact trivial | skip
  rw [hka] at cch
  by_cases h0 : n < 0
  · have e1 : fromW l f n = [] := if_neg (by omega)
    have e2 : fromE l n = 1 := by unfold fromE; rw [if_pos hka, if_neg (by omega)]
    rw [e1, e2]
    refine Sound.wk (r := .tup [.nils, .int .i64 1]) ?_ (Wks.refl _) (.tup (.cons (.nil 1) (.cons (.refl _) .nil)))
    refine Sound.run (N := 33) Try.func23 rfl (by kernel_rfl) rfl rfl rfl (by first | exact args0_0 | exact args0_1 | exact args0_2 | exact args0_3 | exact args0_4 | exact args0_5 | exact args0_6) fun X_ w_ => ?_
    have c0_ := cch; refine goT ?_; first | exact trivial | skip
  by_cases h1 : 300 < n
  · have e1 : fromW l f n = [] := if_neg (by omega)
    have e2 : fromE l n = 1 := by unfold fromE; rw [if_pos hka, if_neg (by omega)]
    rw [e1, e2]
    refine Sound.wk (r := .tup [.nils, .int .i64 1]) ?_ (Wks.refl _) (.tup (.cons (.nil 1) (.cons (.refl _) .nil)))
    refine Sound.run (N := 33) Try.func23 rfl (by kernel_rfl) rfl rfl rfl (by first | exact args0_0 | exact args0_1 | exact args0_2 | exact args0_3 | exact args0_4 | exact args0_5 | exact args0_6) fun X_ w_ => ?_
    have c0_ := cch; refine goT ?_; first | exact trivial | skip
  obtain ⟨m, rfl⟩ := Int.eq_ofNat_of_zero_le (by omega : 0 ≤ n)
  have e1 : fromW l f m = (wordsF l f).take m := if_pos ⟨hka, by omega, by omega⟩
  have e2 : fromE l m = 0 := by unfold fromE; rw [if_pos hka, if_pos ⟨by omega, by omega⟩]
  rw [e1, e2]
  have cm := pWordsFn (l := l) (f := f)
  have hm : m ≤ 300 := by omega
  have hT : ∀ (al bl : Code), (∀ (out : List (List Int)) (w : List Int), out.length < m → w.length ≤ 6001 → SoundY Try.prog [.yld 0, .d (.sl 1 (is w))] (StW ⟨33, #[23], al, bl⟩ m out .ready) (.d (.bool true)) (StW ⟨33, #[23], al, bl⟩ m (out ++ [w]) .ready) 4) → (∀ (out : List (List Int)) (w : List Int), out.length = m → SoundY Try.prog [.yld 0, .d (.sl 1 (is w))] (StW ⟨33, #[23], al, bl⟩ m out .ready) (.d (.bool false)) (StW ⟨33, #[23], al, bl⟩ m out (.done (.exit 1))) 4) → TakesW ⟨33, #[23], al, bl⟩ m := fun al bl h1 h2 => ⟨h1, h2⟩
  by_cases hfit : (wordsF l f).length ≤ m
  · rw [List.take_of_length_le hfit]
    have hR : WkR m [] (wordsF l f) true (wordsF l f) .ready := ⟨fun _ => ⟨rfl, rfl, rfl⟩, fun h => by simp at h; omega⟩
    refine Sound.run (N := 33) Try.func23 rfl (by kernel_rfl) rfl rfl rfl (by first | exact args0_0 | exact args0_1 | exact args0_2 | exact args0_3 | exact args0_4 | exact args0_5 | exact args0_6) fun X_ w_ => ?_
    have c0_ := cch; have c1_ := cm; refine goT ?_; first | exact trivial | skip
    refine WP_ownv 1 0 60000 26 1 rfl rfl (by decide) (by decide) (by simp (disch := omega) only [go_sem]; rfl) ?_
    refine WP_keepd [5, 6, 22] [0, 1, 60000] 60001 (Nat.le_of_ble_eq_true rfl) (by simp (disch := omega) only [go_sem, keepL, List.set_cons_zero, List.set_cons_succ] <;> rfl) (by simp (disch := omega) only [go_sem, keepL, List.set_cons_zero, List.set_cons_succ] <;> rfl) rfl rfl ?_
    refine WP_rangeR (cs := [(6, .ref 1 0), (5, .ref 0 0)]) rfl rfl rfl (by simp (disch := omega) only [go_sem, envOk]) rfl rfl (by simp (disch := omega) only [go_sem, StW, iss_nilW, List.length_nil]; rfl) (pWords1 (Y := ⟨33, #[23], _, _⟩) ?hy hm hl hka hf hR) rfl (by first | (simp (disch := omega) only [go_sem, StW, iss_nilW, List.length_nil] <;> rfl) | rfl) (by first | (simp (disch := omega) only [go_sem, StW, iss_nilW, List.length_nil] <;> rfl) | rfl) rfl (by first | (simp (disch := omega) only [go_sem, StW, iss_nilW, List.length_nil] <;> rfl) | rfl) (by first | (simp (disch := omega) only [go_sem, StW, iss_nilW, List.length_nil] <;> rfl) | rfl) (by first | (simp (disch := omega) only [go_sem, StW, iss_nilW, List.length_nil] <;> rfl) | rfl) ?_
    · refine hT _ _ (fun out w hx hw => ?_) (fun out w hx => ?_)
      · unfold StW
        refine SoundY.run (N := 33) (ps := [23]) (ks := [0, 1, 2, 3]) rfl rfl rfl rfl rfl (by simp (disch := omega) only [go_sem]; rfl) fun l_ X_ ν_ w_ => ?_; dsimp only
        refine goT ?_; first | exact trivial | skip
        refine round_b (by simp (disch := omega) only [go_sem] <;> rfl) (by simp (disch := omega) only [go_sem] <;> rfl) ?_; dsimp only
        refine goX @iss_snocW ?_; first | exact trivial | skip
      · unfold StW
        refine SoundY.run (N := 33) (ps := [23]) (ks := [0, 1, 2, 3]) rfl rfl rfl rfl rfl (by simp (disch := omega) only [go_sem]; rfl) fun l_ X_ ν_ w_ => ?_; dsimp only
        refine goT ?_; first | exact trivial | skip
        refine round_b (by simp (disch := omega) only [go_sem] <;> rfl) (by simp (disch := omega) only [go_sem] <;> rfl) ?_; dsimp only
        refine goX @hx ?_; first | exact trivial | skip
    · refine goT ?_; first | exact trivial | skip
  · have hR : WkR m [] (wordsF l f) false ((wordsF l f).take m) (.done (.exit 1)) := ⟨fun h => by simp at h; omega, fun _ => ⟨rfl, rfl, rfl⟩⟩
    generalize (wordsF l f).take m = W at *
    refine Sound.run (N := 33) Try.func23 rfl (by kernel_rfl) rfl rfl rfl (by first | exact args0_0 | exact args0_1 | exact args0_2 | exact args0_3 | exact args0_4 | exact args0_5 | exact args0_6) fun X_ w_ => ?_
    have c0_ := cch; have c1_ := cm; refine goT ?_; first | exact trivial | skip
    refine WP_ownv 1 0 60000 26 1 rfl rfl (by decide) (by decide) (by simp (disch := omega) only [go_sem]; rfl) ?_
    refine WP_keepd [5, 6, 22] [0, 1, 60000] 60001 (Nat.le_of_ble_eq_true rfl) (by simp (disch := omega) only [go_sem, keepL, List.set_cons_zero, List.set_cons_succ] <;> rfl) (by simp (disch := omega) only [go_sem, keepL, List.set_cons_zero, List.set_cons_succ] <;> rfl) rfl rfl ?_
    refine WP_rangeX (cs := [(6, .ref 1 0), (5, .ref 0 0)]) rfl rfl rfl (by simp (disch := omega) only [go_sem, envOk]) rfl rfl (by simp (disch := omega) only [go_sem, StW, iss_nilW, List.length_nil]; rfl) (pWords1 (Y := ⟨33, #[23], _, _⟩) ?hy2 hm hl hka hf hR) rfl (by first | (simp (disch := omega) only [go_sem, StW, iss_nilW, List.length_nil] <;> rfl) | rfl) (by first | (simp (disch := omega) only [go_sem, StW, iss_nilW, List.length_nil] <;> rfl) | rfl) rfl (by first | (simp (disch := omega) only [go_sem, StW, iss_nilW, List.length_nil] <;> rfl) | rfl) (by first | (simp (disch := omega) only [go_sem, StW, iss_nilW, List.length_nil] <;> rfl) | rfl) (by first | (simp (disch := omega) only [go_sem, StW, iss_nilW, List.length_nil] <;> rfl) | rfl) ?_
    · refine hT _ _ (fun out w hx hw => ?_) (fun out w hx => ?_)
      · unfold StW
        refine SoundY.run (N := 33) (ps := [23]) (ks := [0, 1, 2, 3]) rfl rfl rfl rfl rfl (by simp (disch := omega) only [go_sem]; rfl) fun l_ X_ ν_ w_ => ?_; dsimp only
        refine goT ?_; first | exact trivial | skip
        refine round_b (by simp (disch := omega) only [go_sem] <;> rfl) (by simp (disch := omega) only [go_sem] <;> rfl) ?_; dsimp only
        refine goX @iss_snocW ?_; first | exact trivial | skip
      · unfold StW
        refine SoundY.run (N := 33) (ps := [23]) (ks := [0, 1, 2, 3]) rfl rfl rfl rfl rfl (by simp (disch := omega) only [go_sem]; rfl) fun l_ X_ ν_ w_ => ?_; dsimp only
        refine goT ?_; first | exact trivial | skip
        refine round_b (by simp (disch := omega) only [go_sem] <;> rfl) (by simp (disch := omega) only [go_sem] <;> rfl) ?_; dsimp only
        refine goX @hx ?_; first | exact trivial | skip
    · refine goT ?_; first | exact trivial | skip
end Go.Eng.Try
set_option linter.unusedVariables false
set_option linter.unusedSimpArgs false
namespace Go.Eng.Try
open Go Go.Eng Go.Proofs Go.RowKit
attribute [local go_sem] tys
attribute [local go_sem] is_len is_get ars_len ars_get stas_len stas_get is_setZ is_repZ iss_len iss_get
set_option maxHeartbeats 8000000 in
set_option maxRecDepth 10000 in
theorem rDeepW {l : List Sta} (hl : StaOk l) : Sound Try.prog 31 [.sl 2 (stas l)] (.int .i64 (deepN l)) := by
  have cch := rCheckA hl
  cases hka : achk l
  · have e : deepN l = -1 := if_neg (by rw [hka]; simp)
    rw [hka] at cch
    rw [e]
    refine Sound.run (N := 70) Try.func31 rfl (by kernel_rfl) rfl rfl rfl (by first | exact args0_0 | exact args0_1 | exact args0_2 | exact args0_3 | exact args0_4 | exact args0_5 | exact args0_6) fun X_ w_ => ?_
    have c0_ := cch; refine goT ?_; first | exact trivial | skip
  have e : deepN l = (toldI deepF l l.length)[0]! := if_pos hka
  rw [hka] at cch
  rw [e]
  obtain ⟨_, hl0, hl1⟩ := achk_iff.1 hka
  refine Sound.run (N := 70) Try.func31 rfl (by kernel_rfl) rfl rfl rfl (by first | exact args0_0 | exact args0_1 | exact args0_2 | exact args0_3 | exact args0_4 | exact args0_5 | exact args0_6) fun X_ w_ => ?_
  have c0_ := cch; refine goT ?_; first | exact trivial | skip
  refine WP_loopk (fun j : Nat => j ≤ l.length) (fun j => [(0, .d (.sl 2 (stas l))), (4, .own 3002 l.length), (5, .d (.int .i64 ((l.length : Int) - 1 - j)))]) (fun j => [(3002, .row 3 1 (is (toldI deepF l j)))]) 6000 (fun j => l.length - j) [0, 4, 5] [3002] 0 (Nat.zero_le _) (by rw [show ((l.length : Int) - 1 - ((0 : Nat) : Int)) = (l.length : Int) - 1 by omega]; rfl) rfl (Nat.zero_le _) (fun _ _ => rfl) (fun _ _ => rfl) fun j hj => ?_
  by_cases hj2 : j < l.length
  · have hst := toldI_step deepF l j
    have hin := deepI_in l j
    have hlo := toldI_len deepF l j
    obtain ⟨i, hi⟩ : ∃ i, i = l.length - 1 - j := ⟨_, rfl⟩
    have ei : (l.length : Int) - 1 - (j : Int) = (i : Int) := by omega
    have ej : (l.length : Int) - 1 - ((j : Int) + 1) = (i : Int) - 1 := by omega
    rw [← hi] at hst
    generalize toldI deepF l j = out at *
    rw [ei]
    have hi2 : i < out.length := by omega
    have hi3 : i < l.length := by omega
    have hai := hl.get (k := i) hi3
    have hset : ∀ x, (is out).set i (.int .i64 x) = is (out.set i x) := fun x => is_setZ
    have hsl : ∀ x, (out.set i x).length = l.length := fun x => by rw [List.length_set]; exact hlo
    have hs1 := hsl (-1)
    have hss : ∀ x y, (out.set i x).set i y = out.set i y := fun x y => List.set_set ..
    cases hf : (l[i]!).final
    · have e : deepF (l[i]!) out = (l[i]!).arcs.foldl (deep1 out) (-1) := by unfold deepF; rw [hf]; rfl
      rw [e] at hst
      refine goX (And.intro @hf (And.intro @hset (And.intro @hlo (And.intro @hsl @hss)))) ?_; first | exact trivial | skip
      refine WP_loopk (fun k : Nat => k ≤ (l[i]!).arcs.length) (fun k => [(0, .d (.sl 2 (stas l))), (4, .own 3002 l.length), (5, .d (.int .i64 i)), (6, .d (.int .i64 k))]) (fun k => [(3002, .row 3 1 (is (out.set i (((l[i]!).arcs.take k).foldl (deep1 out) (-1)))))]) 6000 (fun k => (l[i]!).arcs.length - k) [0, 4, 5, 6] [3002] 0 (Nat.zero_le _) rfl rfl (Nat.zero_le _) (fun _ _ => rfl) (fun _ _ => rfl) fun k hk => ?_
      have hm := deep_fold (out := out) (n := j) hin ((l[i]!).arcs.take k) (-1) (by omega)
      generalize hM : ((l[i]!).arcs.take k).foldl (deep1 out) (-1) = M at hm ⊢
      by_cases hk3 : k < (l[i]!).arcs.length
      · have hmem : (l[i]!).arcs[k]! ∈ (l[i]!).arcs := by rw [getElem!_pos _ k hk3]; exact List.getElem_mem hk3
        obtain ⟨g1, g2, _⟩ := achk_arc hka (show i < l.length by omega) _ hmem
        have hst2 := foldl_take (deep1 out) (-1) hk3
        rw [hM] at hst2
        obtain ⟨t, ht⟩ := Int.eq_ofNat_of_zero_le (by omega : 0 ≤ ((l[i]!).arcs[k]!).to)
        have htl : t < out.length := by omega
        have hv := hin (out[t]!) (by rw [getElem!_pos out t htl]; exact List.getElem_mem htl)
        have e1 : deep1 out M ((l[i]!).arcs[k]!) = if 0 ≤ out[t]! then max M (out[t]! + 1) else M := by unfold deep1; rw [ht]; rfl
        rw [e1] at hst2
        have r1 : (out.set i M)[i]! = M := by rw [getB_setZ hi2, if_pos rfl]
        have r2 : (out.set i M)[t]! = out[t]! := by rw [getB_setZ hi2, if_neg (by omega)]
        have r3 : ∀ x, (out.set i M).set i x = out.set i x := fun x => List.set_set ..
        have r4 : (out.set i M).length = l.length := by rw [List.length_set]; exact hlo
        by_cases hz : 0 ≤ out[t]!
        · rw [if_pos hz] at hst2
          refine goX (And.intro @ht (And.intro @if_max (And.intro @r1 (And.intro @r2 (And.intro @r3 @r4))))) ?_; first | exact trivial | skip
          refine ⟨k + 1, by omega, ?_, ?_, by omega⟩
          · simp (disch := omega) only [go_sem, keepL, Int.natCast_add, Int.cast_ofNat_Int]
          · simp (disch := omega) only [go_sem, keepL, hst2]
        · rw [if_neg hz] at hst2
          refine goX (And.intro @ht (And.intro @if_max (And.intro @r1 (And.intro @r2 (And.intro @r3 @r4))))) ?_; first | exact trivial | skip
          refine ⟨k + 1, by omega, ?_, ?_, by omega⟩
          · simp (disch := omega) only [go_sem, keepL, Int.natCast_add, Int.cast_ofNat_Int]
          · simp (disch := omega) only [go_sem, keepL, hst2]
      · have hkl : k = (l[i]!).arcs.length := by omega
        subst hkl
        rw [List.take_length] at hM
        rw [hM] at hst
        have r4 : (out.set i M).length = l.length := by rw [List.length_set]; exact hlo
        refine goX @r4 ?_; first | exact trivial | skip
        refine ⟨j + 1, by omega, ?_, ?_, by omega⟩
        · simp (disch := omega) only [go_sem, keepL, Int.natCast_add, Int.cast_ofNat_Int, ej]
        · simp (disch := omega) only [go_sem, keepL, hst]
    · have e : deepF (l[i]!) out = (l[i]!).arcs.foldl (deep1 out) 0 := by unfold deepF; rw [hf]; rfl
      rw [e] at hst
      refine goX (And.intro @hf (And.intro @hset (And.intro @hlo (And.intro @hsl @hss)))) ?_; first | exact trivial | skip
      refine WP_loopk (fun k : Nat => k ≤ (l[i]!).arcs.length) (fun k => [(0, .d (.sl 2 (stas l))), (4, .own 3002 l.length), (5, .d (.int .i64 i)), (6, .d (.int .i64 k))]) (fun k => [(3002, .row 3 1 (is (out.set i (((l[i]!).arcs.take k).foldl (deep1 out) 0))))]) 6000 (fun k => (l[i]!).arcs.length - k) [0, 4, 5, 6] [3002] 0 (Nat.zero_le _) rfl rfl (Nat.zero_le _) (fun _ _ => rfl) (fun _ _ => rfl) fun k hk => ?_
      have hm := deep_fold (out := out) (n := j) hin ((l[i]!).arcs.take k) 0 (by omega)
      generalize hM : ((l[i]!).arcs.take k).foldl (deep1 out) 0 = M at hm ⊢
      by_cases hk3 : k < (l[i]!).arcs.length
      · have hmem : (l[i]!).arcs[k]! ∈ (l[i]!).arcs := by rw [getElem!_pos _ k hk3]; exact List.getElem_mem hk3
        obtain ⟨g1, g2, _⟩ := achk_arc hka (show i < l.length by omega) _ hmem
        have hst2 := foldl_take (deep1 out) 0 hk3
        rw [hM] at hst2
        obtain ⟨t, ht⟩ := Int.eq_ofNat_of_zero_le (by omega : 0 ≤ ((l[i]!).arcs[k]!).to)
        have htl : t < out.length := by omega
        have hv := hin (out[t]!) (by rw [getElem!_pos out t htl]; exact List.getElem_mem htl)
        have e1 : deep1 out M ((l[i]!).arcs[k]!) = if 0 ≤ out[t]! then max M (out[t]! + 1) else M := by unfold deep1; rw [ht]; rfl
        rw [e1] at hst2
        have r1 : (out.set i M)[i]! = M := by rw [getB_setZ hi2, if_pos rfl]
        have r2 : (out.set i M)[t]! = out[t]! := by rw [getB_setZ hi2, if_neg (by omega)]
        have r3 : ∀ x, (out.set i M).set i x = out.set i x := fun x => List.set_set ..
        have r4 : (out.set i M).length = l.length := by rw [List.length_set]; exact hlo
        by_cases hz : 0 ≤ out[t]!
        · rw [if_pos hz] at hst2
          refine goX (And.intro @ht (And.intro @if_max (And.intro @r1 (And.intro @r2 (And.intro @r3 @r4))))) ?_; first | exact trivial | skip
          refine ⟨k + 1, by omega, ?_, ?_, by omega⟩
          · simp (disch := omega) only [go_sem, keepL, Int.natCast_add, Int.cast_ofNat_Int]
          · simp (disch := omega) only [go_sem, keepL, hst2]
        · rw [if_neg hz] at hst2
          refine goX (And.intro @ht (And.intro @if_max (And.intro @r1 (And.intro @r2 (And.intro @r3 @r4))))) ?_; first | exact trivial | skip
          refine ⟨k + 1, by omega, ?_, ?_, by omega⟩
          · simp (disch := omega) only [go_sem, keepL, Int.natCast_add, Int.cast_ofNat_Int]
          · simp (disch := omega) only [go_sem, keepL, hst2]
      · have hkl : k = (l[i]!).arcs.length := by omega
        subst hkl
        rw [List.take_length] at hM
        rw [hM] at hst
        have r4 : (out.set i M).length = l.length := by rw [List.length_set]; exact hlo
        refine goX @r4 ?_; first | exact trivial | skip
        refine ⟨j + 1, by omega, ?_, ?_, by omega⟩
        · simp (disch := omega) only [go_sem, keepL, Int.natCast_add, Int.cast_ofNat_Int, ej]
        · simp (disch := omega) only [go_sem, keepL, hst]
  · have hjl : j = l.length := by omega
    subst hjl
    have hlo := toldI_len deepF l l.length
    have e0 : (l.length : Int) - 1 - (l.length : Int) = -1 := by omega
    rw [e0]
    generalize toldI deepF l l.length = out at *
    refine goX @hlo ?_; first | exact trivial | skip
set_option maxHeartbeats 8000000 in
set_option maxRecDepth 10000 in
theorem rFrom {l : List Sta} {f : List Int} {n : Int} (hl : StaOk l) (hf : f.length ≤ 9223372036854775807) : Sound Try.prog 24 [.sl 2 (stas l), .sl 1 (is f), .int .i64 n] (.tup [.sl 1 (iss (fromW l f n)), .int .i64 (fromE l n)]) := by
  have cch := rCheckA hl
  cases hka : achk l
  · have e1 : fromW l f n = [] := if_neg (by rw [hka]; simp)
    have e2 : fromE l n = 100 := if_neg (by rw [hka]; simp)
    rw [e1, e2]
    rw [hka] at cch
    refine Sound.wk (r := .tup [.nils, .int .i64 100]) ?_ (Wks.refl _) (.tup (.cons (.nil 1) (.cons (.refl _) .nil)))
    refine Sound.run (N := 25) Try.func24 rfl (by kernel_rfl) rfl rfl rfl (by first | exact args0_0 | exact args0_1 | exact args0_2 | exact args0_3 | exact args0_4 | exact args0_5 | exact args0_6) fun X_ w_ => ?_
    have c0_ := cch; refine goT ?_; first | exact trivial | skip
  rw [hka] at cch
  by_cases h0 : n < 0
  · have e1 : fromW l f n = [] := if_neg (by omega)
    have e2 : fromE l n = 1 := by unfold fromE; rw [if_pos hka, if_neg (by omega)]
    rw [e1, e2]
    refine Sound.wk (r := .tup [.nils, .int .i64 1]) ?_ (Wks.refl _) (.tup (.cons (.nil 1) (.cons (.refl _) .nil)))
    refine Sound.run (N := 25) Try.func24 rfl (by kernel_rfl) rfl rfl rfl (by first | exact args0_0 | exact args0_1 | exact args0_2 | exact args0_3 | exact args0_4 | exact args0_5 | exact args0_6) fun X_ w_ => ?_
    have c0_ := cch; refine goT ?_; first | exact trivial | skip
  by_cases h1 : 300 < n
  · have e1 : fromW l f n = [] := if_neg (by omega)
    have e2 : fromE l n = 1 := by unfold fromE; rw [if_pos hka, if_neg (by omega)]
    rw [e1, e2]
    refine Sound.wk (r := .tup [.nils, .int .i64 1]) ?_ (Wks.refl _) (.tup (.cons (.nil 1) (.cons (.refl _) .nil)))
    refine Sound.run (N := 25) Try.func24 rfl (by kernel_rfl) rfl rfl rfl (by first | exact args0_0 | exact args0_1 | exact args0_2 | exact args0_3 | exact args0_4 | exact args0_5 | exact args0_6) fun X_ w_ => ?_
    have c0_ := cch; refine goT ?_; first | exact trivial | skip
  obtain ⟨m, rfl⟩ := Int.eq_ofNat_of_zero_le (by omega : 0 ≤ n)
  have e1 : fromW l f m = (wordsF l f).take m := if_pos ⟨hka, by omega, by omega⟩
  have e2 : fromE l m = 0 := by unfold fromE; rw [if_pos hka, if_pos ⟨by omega, by omega⟩]
  rw [e1, e2]
  have cm := rMany hl hka
  have cb : Sound Try.prog 56 [.sl 2 (stas l), .sl 1 (is (toldI manyF l l.length)), .int .i64 0, .nils, .sl 1 (is f), .int .i64 m] (.sl 1 (iss ((wordsF l f).take m))) :=
    (pBehind hl hka hf l.length 0 [] m (achk_iff.1 hka).2.1 (by omega) (Nat.le_refl _) (by omega)).wk (.cons (.refl _) (.cons (.refl _) (.cons (.refl _) (.cons (.nil 1) (.cons (.refl _) (.cons (.refl _) .nil)))))) (.refl _)
  refine Sound.run (N := 25) Try.func24 rfl (by kernel_rfl) rfl rfl rfl (by first | exact args0_0 | exact args0_1 | exact args0_2 | exact args0_3 | exact args0_4 | exact args0_5 | exact args0_6) fun X_ w_ => ?_
  have c0_ := cch; have c1_ := cm; have c2_ := cb; refine goT ?_; first | exact trivial | skip
def wsW (l : List Sta) : List (List Int) := if manyN l ≤ 300 then fromW l [] 300 else []
def wsE (l : List Sta) : Int := if manyN l ≤ 300 then fromE l 300 else 81
set_option maxHeartbeats 8000000 in
set_option maxRecDepth 10000 in
theorem pWordsW {l : List Sta} (hl : StaOk l) : Sound Try.prog 21 [.sl 2 (stas l)] (.tup [.sl 1 (iss (wsW l)), .int .i64 (wsE l)]) := by
  have cm := pManyW hl
  by_cases h : manyN l ≤ 300
  · have e1 : wsW l = fromW l [] 300 := if_pos h
    have e2 : wsE l = fromE l 300 := if_pos h
    rw [e1, e2]
    have cw : Sound Try.prog 23 [.sl 2 (stas l), .nils, .int .i64 300] (.tup [.sl 1 (iss (fromW l [] 300)), .int .i64 (fromE l 300)]) := (pFrom (f := []) (n := 300) hl (Nat.zero_le _)).wk (.cons (.refl _) (.cons (.nil 1) (.cons (.refl _) .nil))) (.refl _)
    refine Sound.run (N := 11) Try.func21 rfl (by kernel_rfl) rfl rfl rfl (by first | exact args0_0 | exact args0_1 | exact args0_2 | exact args0_3 | exact args0_4 | exact args0_5 | exact args0_6) fun X_ w_ => ?_
    have c0_ := cm; have c1_ := cw; refine goT ?_; first | exact trivial | skip
  · have e1 : wsW l = [] := if_neg h
    have e2 : wsE l = 81 := if_neg h
    rw [e1, e2]
    refine Sound.wk (r := .tup [.nils, .int .i64 81]) ?_ (Wks.refl _) (.tup (.cons (.nil 1) (.cons (.refl _) .nil)))
    refine Sound.run (N := 11) Try.func21 rfl (by kernel_rfl) rfl rfl rfl (by first | exact args0_0 | exact args0_1 | exact args0_2 | exact args0_3 | exact args0_4 | exact args0_5 | exact args0_6) fun X_ w_ => ?_
    have c0_ := cm; refine goT ?_; first | exact trivial | skip
set_option maxHeartbeats 8000000 in
set_option maxRecDepth 10000 in
theorem rWordsW {l : List Sta} (hl : StaOk l) : Sound Try.prog 22 [.sl 2 (stas l)] (.tup [.sl 1 (iss (wsW l)), .int .i64 (wsE l)]) := by
  have cm := rManyW hl
  have cch := rCheckA hl
  cases hka : achk l
  · have hm : manyN l = 0 := if_neg (by rw [hka]; simp)
    have e1 : wsW l = [] := by unfold wsW; rw [if_pos (by omega)]; exact if_neg (by rw [hka]; simp)
    have e2 : wsE l = 100 := by unfold wsE; rw [if_pos (by omega)]; exact if_neg (by rw [hka]; simp)
    rw [e1, e2]
    rw [hka] at cch
    refine Sound.wk (r := .tup [.nils, .int .i64 100]) ?_ (Wks.refl _) (.tup (.cons (.nil 1) (.cons (.refl _) .nil)))
    refine Sound.run (N := 16) Try.func22 rfl (by kernel_rfl) rfl rfl rfl (by first | exact args0_0 | exact args0_1 | exact args0_2 | exact args0_3 | exact args0_4 | exact args0_5 | exact args0_6) fun X_ w_ => ?_
    have c0_ := cch; refine goT ?_; first | exact trivial | skip
  rw [hka] at cch
  by_cases h : manyN l ≤ 300
  · have e1 : wsW l = fromW l [] 300 := if_pos h
    have e2 : wsE l = fromE l 300 := if_pos h
    rw [e1, e2]
    have cw : Sound Try.prog 24 [.sl 2 (stas l), .nils, .int .i64 300] (.tup [.sl 1 (iss (fromW l [] 300)), .int .i64 (fromE l 300)]) := (rFrom (f := []) (n := 300) hl (Nat.zero_le _)).wk (.cons (.refl _) (.cons (.nil 1) (.cons (.refl _) .nil))) (.refl _)
    refine Sound.run (N := 16) Try.func22 rfl (by kernel_rfl) rfl rfl rfl (by first | exact args0_0 | exact args0_1 | exact args0_2 | exact args0_3 | exact args0_4 | exact args0_5 | exact args0_6) fun X_ w_ => ?_
    have c0_ := cch; have c1_ := cm; have c2_ := cw; refine goT ?_; first | exact trivial | skip
  · have e1 : wsW l = [] := if_neg h
    have e2 : wsE l = 81 := if_neg h
    rw [e1, e2]
    refine Sound.wk (r := .tup [.nils, .int .i64 81]) ?_ (Wks.refl _) (.tup (.cons (.nil 1) (.cons (.refl _) .nil)))
    refine Sound.run (N := 16) Try.func22 rfl (by kernel_rfl) rfl rfl rfl (by first | exact args0_0 | exact args0_1 | exact args0_2 | exact args0_3 | exact args0_4 | exact args0_5 | exact args0_6) fun X_ w_ => ?_
    have c0_ := cch; have c1_ := cm; refine goT ?_; first | exact trivial | skip
/-! ### Words alike -/
theorem take_next {a b : List (List Int)} {k : Nat} (hk : k < a.length) (hk2 : k < b.length) (h : a.take k = b.take k) (e : a[k]! = b[k]!) : a.take (k + 1) = b.take (k + 1) := by
  rw [List.take_add_one, List.take_add_one, h, List.getElem?_eq_getElem hk, List.getElem?_eq_getElem hk2, ← getElem!_pos a k hk, ← getElem!_pos b k hk2, e]
set_option maxHeartbeats 4000000 in
set_option maxRecDepth 10000 in
theorem rSameW {a b : List (List Int)} (ha : WsOk a) (hb : WsOk b) : Sound Try.prog 25 [.sl 1 (iss a), .sl 1 (iss b)] (.bool (decide (a = b))) := by
  have hla := ha.1
  have hlb := hb.1
  by_cases hl : a.length = b.length
  · refine Sound.run (N := 27) Try.func25 rfl (by kernel_rfl) rfl rfl rfl (by first | exact args0_0 | exact args0_1 | exact args0_2 | exact args0_3 | exact args0_4 | exact args0_5 | exact args0_6) fun X_ w_ => ?_
    refine goT ?_; first | exact trivial | skip
    refine WP_loopk (fun k : Nat => k ≤ a.length ∧ a.take k = b.take k) (fun k => [(0, .d (.sl 1 (iss a))), (1, .d (.sl 1 (iss b))), (5, .d (.int .i64 k))]) (fun _ => []) 0 (fun k => a.length - k) [0, 1, 5] [] 0 ⟨Nat.zero_le _, rfl⟩ rfl rfl (Nat.le_refl _) (fun _ _ => rfl) (fun _ _ => rfl) fun k hk => ?_
    obtain ⟨hk1, hw⟩ := hk
    by_cases hk' : k < a.length
    · have hk2 : k < b.length := by omega
      have cs := refSame (a := a[k]!) (b := b[k]!) (ha.get hk') (hb.get hk2)
      by_cases hc : a[k]! = b[k]!
      · rw [decide_eq_true hc] at cs
        have e := take_next hk' hk2 hw hc
        have c0_ := cs; refine goT ?_; first | exact trivial | skip
        refine ⟨k + 1, ⟨by omega, e⟩, ?_, rfl, by omega⟩
        simp (disch := omega) only [go_sem, keepL, Int.natCast_add, Int.cast_ofNat_Int]
      · rw [decide_eq_false hc] at cs
        have e : decide (a = b) = false := decide_eq_false fun h => hc (by rw [h])
        have c0_ := cs; refine goX @e ?_; first | exact trivial | skip
    · have hk' : k = a.length := by omega
      subst hk'
      have e : decide (a = b) = true := decide_eq_true (by rw [List.take_length, hl, List.take_length] at hw; exact hw)
      refine goX @e ?_; first | exact trivial | skip
  · have e : decide (a = b) = false := decide_eq_false fun h => hl (by rw [h])
    refine Sound.run (N := 27) Try.func25 rfl (by kernel_rfl) rfl rfl rfl (by first | exact args0_0 | exact args0_1 | exact args0_2 | exact args0_3 | exact args0_4 | exact args0_5 | exact args0_6) fun X_ w_ => ?_
    refine goX @e ?_; first | exact trivial | skip
theorem lead_len {l : List Sta} (hka : achk l = true) : ∀ (u : List Int) (k t : Int), leadF l k u = some t → k + u.length ≤ t
  | [], k, t, h => by simp only [leadF, Option.some.injEq] at h; subst h; simp
  | z :: u, k, t, h => by
    simp only [leadF] at h
    split at h
    · rename_i s hs
      have h1 := (stepF_in hka hs).2.2.1
      have := lead_len hka u s t h
      simp only [List.length_cons]
      omega
    · cases h
theorem wordsF_len {l : List Sta} (hka : achk l = true) {f x : List Int} (h : x ∈ wordsF l f) : x.length ≤ 6001 := by
  obtain ⟨u, t, e, e1, e2, e3⟩ := wf_lead hka _ _ _ (achk_iff.1 hka).2.1 x h
  simp only [List.nil_append] at e
  subst e
  have h1 := lead_len hka _ _ _ e1
  have h2 := (leadF_in hka (Int.le_refl 0) (by have := (achk_iff.1 hka).2.1; omega) e1).2.1
  have h3 := (achk_iff.1 hka).2.2
  have h4 : ((0 : Nat) : Int) = 0 := rfl
  omega
theorem fromW_ok (l : List Sta) (f : List Int) (n : Int) : (fromW l f n).length ≤ 300 ∧ WsOk (fromW l f n) ∧ ∀ w ∈ fromW l f n, w.length ≤ 6001 := by
  unfold fromW
  split
  · rename_i h
    have h1 : ((wordsF l f).take n.toNat).length ≤ 300 := by rw [List.length_take]; omega
    have h2 : ∀ w ∈ (wordsF l f).take n.toNat, w.length ≤ 6001 := fun w hw => wordsF_len h.1 (List.mem_of_mem_take hw)
    exact ⟨h1, ⟨by omega, fun w hw => by have := h2 w hw; omega⟩, h2⟩
  · exact ⟨by simp, ⟨by simp, fun w hw => by cases hw⟩, fun w hw => by cases hw⟩
theorem wsW_ok (l : List Sta) : (wsW l).length ≤ 300 ∧ WsOk (wsW l) ∧ ∀ w ∈ wsW l, w.length ≤ 6001 := by
  unfold wsW
  split
  · exact fromW_ok l [] 300
  · exact ⟨by simp, ⟨by simp, fun w hw => by cases hw⟩, fun w hw => by cases hw⟩
end Go.Eng.Try
set_option linter.unusedVariables false
set_option linter.unusedSimpArgs false
namespace Go.Eng.Try
open Go Go.Eng Go.Proofs Go.RowKit
attribute [local go_sem] tys
attribute [local go_sem] is_len is_get ars_len ars_get stas_len stas_get
def fewA (l : List Sta) (n : Nat) : Bool := (l.all fun s => decide (s.arcs.length ≤ 100)) && decide (l.length ≤ n)
theorem fewA_iff {l : List Sta} {n : Nat} : fewA l n = true ↔ (∀ k, k < l.length → (l[k]!).arcs.length ≤ 100) ∧ l.length ≤ n := by
  unfold fewA
  rw [Bool.and_eq_true, List.all_eq_true, decide_eq_true_eq]
  refine and_congr ⟨fun h k hk => ?_, fun h s hs => ?_⟩ Iff.rfl
  · rw [getElem!_pos l k hk]; exact of_decide_eq_true (h _ (List.getElem_mem hk))
  · obtain ⟨k, hk, rfl⟩ := List.getElem_of_mem hs
    have := h k hk
    rw [getElem!_pos l k hk] at this
    exact decide_eq_true this
set_option maxHeartbeats 4000000 in
set_option maxRecDepth 10000 in
theorem pFewA {l : List Sta} {n : Nat} (hl : StaOk l) (hn : n ≤ 1000000) : Sound Try.prog 20 [.sl 2 (stas l), .int .i64 n] (.bool (fewA l n)) := by
  have hlen := hl.1
  refine Sound.run (N := 23) Try.func20 rfl (by kernel_rfl) rfl rfl rfl (by first | exact args0_0 | exact args0_1 | exact args0_2 | exact args0_3 | exact args0_4 | exact args0_5 | exact args0_6) fun X_ w_ => ?_
  refine goT ?_; first | exact trivial | skip
  refine WP_loopk (fun k : Nat => k ≤ l.length ∧ ∀ j, j < k → (l[j]!).arcs.length ≤ 100) (fun k => [(0, .d (.sl 2 (stas l))), (1, .d (.int .i64 n)), (5, .d (.int .i64 k))]) (fun _ => []) 0 (fun k => l.length - k) [0, 1, 5] [] 0 ⟨Nat.zero_le _, fun j h => by omega⟩ rfl rfl (Nat.le_refl _) (fun _ _ => rfl) (fun _ _ => rfl) fun k hk => ?_
  obtain ⟨hk1, hk2⟩ := hk
  by_cases hk : k < l.length
  · have ha := hl.get hk
    by_cases h1 : 100 < (l[k]!).arcs.length
    · have e : fewA l n = false := by
        cases h : fewA l n with
        | false => rfl
        | true => have := (fewA_iff.1 h).1 k hk; omega
      refine goX @e ?_; first | exact trivial | skip
    · refine goT ?_; first | exact trivial | skip
      refine ⟨k + 1, ⟨by omega, fun j hj => ?_⟩, ?_, rfl, by omega⟩
      · by_cases e : j = k
        · subst e; omega
        · exact hk2 j (by omega)
      · simp (disch := omega) only [go_sem, keepL, Int.natCast_add, Int.cast_ofNat_Int]
  · have hkl : k = l.length := by omega
    subst hkl
    have e : fewA l n = decide ((l.length : Int) ≤ n) := by
      by_cases h2 : l.length ≤ n
      · rw [fewA_iff.2 ⟨hk2, h2⟩, decide_eq_true (by omega)]
      · cases h : fewA l n with
        | false => rw [decide_eq_false (by omega)]
        | true => have := (fewA_iff.1 h).2; omega
    rw [e]
    refine goT ?_; first | exact trivial | skip
end Go.Eng.Try

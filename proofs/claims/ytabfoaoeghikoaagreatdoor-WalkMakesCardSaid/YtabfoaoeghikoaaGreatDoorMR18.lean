/- The words of an automaton from one on: as told, and as the law tells them. (and what stands behind it: texts laid together) -/
import Derived.Test.YtabfoaoeghikoaaGreatDoorMG4
import Derived.Test.YtabfoaoeghikoaaGreatDoorMR17
import Derived.Test.YtabfoaoeghikoaaGreatDoorMR3
import Derived.Test.YtabfoaoeghikoaaGreatDoorMR9
import Derived.Test.YtabfoaoeghikoaaGreatDoorMR6
import Derived.Test.YtabfoaoeghikoaaGreatDoorMR2
import Derived.Test.YtabfoaoeghikoaaGreatDoorMR15
set_option linter.unusedVariables false
set_option linter.unusedSimpArgs false
namespace Go.Eng.Tryz
open Go Go.Eng Go.Proofs Go.RowKit
attribute [local go_sem] ty0 ty1 ty2 ty3 ty4 ty5 ty6 ty7 ty8 ty9 ty10 ty11 ty12 ty13 ty14 ty15 ty16 ty17 ty18
attribute [local go_sem] is_len is_get ars_len ars_get stas_len stas_get iss_len iss_get dels
theorem iss_nilW : iss [] = [] := rfl
theorem iss_snocW {l : List (List Int)} {w : List Int} : iss l ++ [.sl 1 (is w)] = iss (l ++ [w]) := by simp [iss]
set_option maxHeartbeats 4000000 in
set_option maxRecDepth 10000 in
theorem pWords1 {l : List Sta} {f : List Int} {Y : Ym} {m : Nat} {b : Bool} {o : List (List Int)} {st : LSt} (hy : TakesW Y m) (hm : m ≤ 300) (hl : StaOk l) (hka : achk l = true) (hf : f.length ≤ 9223372036854775807) (hR : WkR m [] (wordsF l f) b o st) :
    SoundM Tryz.prog 161 [.yld 0, .dref [.sl 2 (stas l)], .dref [.sl 1 (is f)]] (StW Y m [] .ready) (.tup []) (StW Y m o st) 4 := by
  have ct := pToldM hl hka
  have hl0 := (achk_iff.1 hka).2.1
  have cw := pWalk hy hm hl hka hf l.length 0 [] [] b o st hl0 (by omega) (Nat.le_refl _) (Nat.zero_le _) hR
  have cw2 : SoundM Tryz.prog 162 [.ref 0 0, .d (.int .i64 0), .d .nils] (WkH Y m l f [] .ready) (.d (.bool b)) (WkH Y m l f o st) 5 := by
    refine SoundK.wk cw rfl fun i a a' h h' => ?_
    match i with
    | 0 => simp at h h'; subst h; subst h'; exact .inl rfl
    | 1 => simp at h h'; subst h; subst h'; exact .inl rfl
    | 2 => simp at h h'; subst h; subst h'; exact .inr ⟨_, _, rfl, rfl, .nil 1⟩
    | i + 3 => simp at h
  unfold WkH at cw2
  unfold StW
  refine SoundM.run (N := 14) (ks := [0, 1, 2, 3]) Tryz.func161 rfl (by kernel_rfl) rfl rfl rfl (by first | exact argsA_0 | exact argsA_1 | exact argsA_2 | exact argsA_3 | exact argsA_4 | exact argsA_5 | exact argsA_6) fun X_ ν_ w_ => ?_
  have c0_ := ct; have c1_ := cw2; refine goT ?_; first | exact trivial | skip
set_option maxHeartbeats 4000000 in
set_option maxRecDepth 10000 in
theorem pWordsFn {l : List Sta} {f : List Int} : SoundM Tryz.prog 116 [.d (.sl 2 (stas l)), .d (.sl 1 (is f))] [] (.fn 161 [.dref [.sl 2 (stas l)], .dref [.sl 1 (is f)]]) [] 0 := by
  have h : SoundM Tryz.prog 116 [.d (.sl 2 (stas l)), .d (.sl 1 (is f))] [] (.fn 161 [.ref 0 0, .ref 1 0]) [(0, .var [.d (.sl 2 (stas l))]), (1, .var [.d (.sl 1 (is f))])] 0 := by
    refine SoundM.run (N := 6) (ks := [0, 1]) Tryz.func116 rfl (by kernel_rfl) rfl rfl rfl (by first | exact argsA_0 | exact argsA_1 | exact argsA_2 | exact argsA_3 | exact argsA_4 | exact argsA_5 | exact argsA_6) fun X_ ν_ w_ => ?_
    refine goT ?_; first | exact trivial | skip
  exact h.freeze rfl
def fromE (l : List Sta) (n : Int) : Int := if achk l = true then (if 0 ≤ n ∧ n ≤ 300 then 0 else 1) else 100
def fromW (l : List Sta) (f : List Int) (n : Int) : List (List Int) := if achk l = true ∧ 0 ≤ n ∧ n ≤ 300 then (wordsF l f).take n.toNat else []
set_option maxHeartbeats 8000000 in
set_option maxRecDepth 10000 in
theorem pFrom {l : List Sta} {f : List Int} {n : Int} (hl : StaOk l) (hf : f.length ≤ 9223372036854775807) : Sound Tryz.prog 61 [.sl 2 (stas l), .sl 1 (is f), .int .i64 n] (.tup [.sl 1 (iss (fromW l f n)), .int .i64 (fromE l n)]) := by
  have cch := pCheckA hl
  cases hka : achk l
  · have e1 : fromW l f n = [] := if_neg (by rw [hka]; simp)
    have e2 : fromE l n = 100 := if_neg (by rw [hka]; simp)
    rw [e1, e2]
    rw [hka] at cch
    refine Sound.wk (r := .tup [.nils, .int .i64 100]) ?_ (Wks.refl _) (.tup (.cons (.nil 1) (.cons (.refl _) .nil)))
    refine Sound.run (N := 33) Tryz.func61 rfl (by kernel_rfl) rfl rfl rfl (by first | exact args0_0 | exact args0_1 | exact args0_2 | exact args0_3 | exact args0_4 | exact args0_5 | exact args0_6) fun X_ w_ => ?_
    have c0_ := cch; refine goT ?_; first | exact trivial | skip
  rw [hka] at cch
  by_cases h0 : n < 0
  · have e1 : fromW l f n = [] := if_neg (by omega)
    have e2 : fromE l n = 1 := by unfold fromE; rw [if_pos hka, if_neg (by omega)]
    rw [e1, e2]
    refine Sound.wk (r := .tup [.nils, .int .i64 1]) ?_ (Wks.refl _) (.tup (.cons (.nil 1) (.cons (.refl _) .nil)))
    refine Sound.run (N := 33) Tryz.func61 rfl (by kernel_rfl) rfl rfl rfl (by first | exact args0_0 | exact args0_1 | exact args0_2 | exact args0_3 | exact args0_4 | exact args0_5 | exact args0_6) fun X_ w_ => ?_
    have c0_ := cch; refine goT ?_; first | exact trivial | skip
  by_cases h1 : 300 < n
  · have e1 : fromW l f n = [] := if_neg (by omega)
    have e2 : fromE l n = 1 := by unfold fromE; rw [if_pos hka, if_neg (by omega)]
    rw [e1, e2]
    refine Sound.wk (r := .tup [.nils, .int .i64 1]) ?_ (Wks.refl _) (.tup (.cons (.nil 1) (.cons (.refl _) .nil)))
    refine Sound.run (N := 33) Tryz.func61 rfl (by kernel_rfl) rfl rfl rfl (by first | exact args0_0 | exact args0_1 | exact args0_2 | exact args0_3 | exact args0_4 | exact args0_5 | exact args0_6) fun X_ w_ => ?_
    have c0_ := cch; refine goT ?_; first | exact trivial | skip
  obtain ⟨m, rfl⟩ := Int.eq_ofNat_of_zero_le (by omega : 0 ≤ n)
  have e1 : fromW l f m = (wordsF l f).take m := if_pos ⟨hka, by omega, by omega⟩
  have e2 : fromE l m = 0 := by unfold fromE; rw [if_pos hka, if_pos ⟨by omega, by omega⟩]
  rw [e1, e2]
  have cm := pWordsFn (l := l) (f := f)
  have hm : m ≤ 300 := by omega
  have hT : ∀ (al bl : Code), (∀ (out : List (List Int)) (w : List Int), out.length < m → w.length ≤ 6001 → SoundY Tryz.prog [.yld 0, .d (.sl 1 (is w))] (StW ⟨33, #[23], al, bl⟩ m out .ready) (.d (.bool true)) (StW ⟨33, #[23], al, bl⟩ m (out ++ [w]) .ready) 4) → (∀ (out : List (List Int)) (w : List Int), out.length = m → SoundY Tryz.prog [.yld 0, .d (.sl 1 (is w))] (StW ⟨33, #[23], al, bl⟩ m out .ready) (.d (.bool false)) (StW ⟨33, #[23], al, bl⟩ m out (.done (.exit 1))) 4) → TakesW ⟨33, #[23], al, bl⟩ m := fun al bl h1 h2 => ⟨h1, h2⟩
  by_cases hfit : (wordsF l f).length ≤ m
  · rw [List.take_of_length_le hfit]
    have hR : WkR m [] (wordsF l f) true (wordsF l f) .ready := ⟨fun _ => ⟨rfl, rfl, rfl⟩, fun h => by simp at h; omega⟩
    refine Sound.run (N := 33) Tryz.func61 rfl (by kernel_rfl) rfl rfl rfl (by first | exact args0_0 | exact args0_1 | exact args0_2 | exact args0_3 | exact args0_4 | exact args0_5 | exact args0_6) fun X_ w_ => ?_
    have c0_ := cch; have c1_ := cm; refine goT ?_; first | exact trivial | skip
    refine WP_ownv 1 0 60000 36 1 rfl rfl (by decide) (by decide) (by simp (disch := omega) only [go_sem]; rfl) ?_
    refine WP_keepd [5, 6, 22] [0, 1, 60000] 60001 (Nat.le_of_ble_eq_true rfl) (by simp (disch := omega) only [go_sem, keepL, List.set_cons_zero, List.set_cons_succ] <;> rfl) (by simp (disch := omega) only [go_sem, keepL, List.set_cons_zero, List.set_cons_succ] <;> rfl) rfl rfl ?_
    refine WP_rangeR (cs := [(6, .ref 1 0), (5, .ref 0 0)]) rfl rfl rfl (by simp (disch := omega) only [go_sem, envOk]) rfl rfl (by simp (disch := omega) only [go_sem, StW, iss_nilW, List.length_nil]; rfl) (pWords1 (Y := ⟨33, #[23], _, _⟩) ?hy hm hl hka hf hR) rfl (by first | (simp (disch := omega) only [go_sem, StW, iss_nilW, List.length_nil] <;> rfl) | rfl) (by first | (simp (disch := omega) only [go_sem, StW, iss_nilW, List.length_nil] <;> rfl) | rfl) rfl (by first | (simp (disch := omega) only [go_sem, StW, iss_nilW, List.length_nil] <;> rfl) | rfl) (by first | (simp (disch := omega) only [go_sem, StW, iss_nilW, List.length_nil] <;> rfl) | rfl) (by first | (simp (disch := omega) only [go_sem, StW, iss_nilW, List.length_nil] <;> rfl) | rfl) ?_
    · refine hT _ _ (fun out w hx hw => ?_) (fun out w hx => ?_)
      · unfold StW
        refine SoundY.run (N := 33) (ps := [23]) (ks := [0, 1, 2, 3]) rfl rfl rfl rfl rfl (by simp (disch := omega) only [go_sem]; rfl) fun l_ X_ ν_ w_ => ?_; dsimp only
        refine goT ?_; first | exact trivial | skip
        refine round_b (by simp (disch := omega) only [go_sem] <;> rfl) (by simp (disch := omega) only [go_sem] <;> rfl) ?_; dsimp only
        refine goX @iss_snocW ?_; first | exact trivial | skip
      · unfold StW
        refine SoundY.run (N := 33) (ps := [23]) (ks := [0, 1, 2, 3]) rfl rfl rfl rfl rfl (by simp (disch := omega) only [go_sem]; rfl) fun l_ X_ ν_ w_ => ?_; dsimp only
        refine goT ?_; first | exact trivial | skip
        refine round_b (by simp (disch := omega) only [go_sem] <;> rfl) (by simp (disch := omega) only [go_sem] <;> rfl) ?_; dsimp only
        refine goX @hx ?_; first | exact trivial | skip
    · refine goT ?_; first | exact trivial | skip
  · have hR : WkR m [] (wordsF l f) false ((wordsF l f).take m) (.done (.exit 1)) := ⟨fun h => by simp at h; omega, fun _ => ⟨rfl, rfl, rfl⟩⟩
    generalize (wordsF l f).take m = W at *
    refine Sound.run (N := 33) Tryz.func61 rfl (by kernel_rfl) rfl rfl rfl (by first | exact args0_0 | exact args0_1 | exact args0_2 | exact args0_3 | exact args0_4 | exact args0_5 | exact args0_6) fun X_ w_ => ?_
    have c0_ := cch; have c1_ := cm; refine goT ?_; first | exact trivial | skip
    refine WP_ownv 1 0 60000 36 1 rfl rfl (by decide) (by decide) (by simp (disch := omega) only [go_sem]; rfl) ?_
    refine WP_keepd [5, 6, 22] [0, 1, 60000] 60001 (Nat.le_of_ble_eq_true rfl) (by simp (disch := omega) only [go_sem, keepL, List.set_cons_zero, List.set_cons_succ] <;> rfl) (by simp (disch := omega) only [go_sem, keepL, List.set_cons_zero, List.set_cons_succ] <;> rfl) rfl rfl ?_
    refine WP_rangeX (cs := [(6, .ref 1 0), (5, .ref 0 0)]) rfl rfl rfl (by simp (disch := omega) only [go_sem, envOk]) rfl rfl (by simp (disch := omega) only [go_sem, StW, iss_nilW, List.length_nil]; rfl) (pWords1 (Y := ⟨33, #[23], _, _⟩) ?hy2 hm hl hka hf hR) rfl (by first | (simp (disch := omega) only [go_sem, StW, iss_nilW, List.length_nil] <;> rfl) | rfl) (by first | (simp (disch := omega) only [go_sem, StW, iss_nilW, List.length_nil] <;> rfl) | rfl) rfl (by first | (simp (disch := omega) only [go_sem, StW, iss_nilW, List.length_nil] <;> rfl) | rfl) (by first | (simp (disch := omega) only [go_sem, StW, iss_nilW, List.length_nil] <;> rfl) | rfl) (by first | (simp (disch := omega) only [go_sem, StW, iss_nilW, List.length_nil] <;> rfl) | rfl) ?_
    · refine hT _ _ (fun out w hx hw => ?_) (fun out w hx => ?_)
      · unfold StW
        refine SoundY.run (N := 33) (ps := [23]) (ks := [0, 1, 2, 3]) rfl rfl rfl rfl rfl (by simp (disch := omega) only [go_sem]; rfl) fun l_ X_ ν_ w_ => ?_; dsimp only
        refine goT ?_; first | exact trivial | skip
        refine round_b (by simp (disch := omega) only [go_sem] <;> rfl) (by simp (disch := omega) only [go_sem] <;> rfl) ?_; dsimp only
        refine goX @iss_snocW ?_; first | exact trivial | skip
      · unfold StW
        refine SoundY.run (N := 33) (ps := [23]) (ks := [0, 1, 2, 3]) rfl rfl rfl rfl rfl (by simp (disch := omega) only [go_sem]; rfl) fun l_ X_ ν_ w_ => ?_; dsimp only
        refine goT ?_; first | exact trivial | skip
        refine round_b (by simp (disch := omega) only [go_sem] <;> rfl) (by simp (disch := omega) only [go_sem] <;> rfl) ?_; dsimp only
        refine goX @hx ?_; first | exact trivial | skip
    · refine goT ?_; first | exact trivial | skip
end Go.Eng.Tryz
set_option linter.unusedVariables false
set_option linter.unusedSimpArgs false
namespace Go.Eng.Tryz
open Go Go.Eng Go.Proofs Go.RowKit
attribute [local go_sem] ty0 ty1 ty2 ty3 ty4 ty5 ty6 ty7 ty8 ty9 ty10 ty11 ty12 ty13 ty14 ty15 ty16 ty17 ty18
attribute [local go_sem] is_len is_get ars_len ars_get stas_len stas_get is_setZ is_repZ iss_len iss_get
def wsW (l : List Sta) : List (List Int) := if manyN l ≤ 300 then fromW l [] 300 else []
def wsE (l : List Sta) : Int := if manyN l ≤ 300 then fromE l 300 else 81
set_option maxHeartbeats 8000000 in
set_option maxRecDepth 10000 in
theorem pWordsW {l : List Sta} (hl : StaOk l) : Sound Tryz.prog 19 [.sl 2 (stas l)] (.tup [.sl 1 (iss (wsW l)), .int .i64 (wsE l)]) := by
  have cm := pManyW hl
  by_cases h : manyN l ≤ 300
  · have e1 : wsW l = fromW l [] 300 := if_pos h
    have e2 : wsE l = fromE l 300 := if_pos h
    rw [e1, e2]
    have cw : Sound Tryz.prog 61 [.sl 2 (stas l), .nils, .int .i64 300] (.tup [.sl 1 (iss (fromW l [] 300)), .int .i64 (fromE l 300)]) := (pFrom (f := []) (n := 300) hl (Nat.zero_le _)).wk (.cons (.refl _) (.cons (.nil 1) (.cons (.refl _) .nil))) (.refl _)
    refine Sound.run (N := 11) Tryz.func19 rfl (by kernel_rfl) rfl rfl rfl (by first | exact args0_0 | exact args0_1 | exact args0_2 | exact args0_3 | exact args0_4 | exact args0_5 | exact args0_6) fun X_ w_ => ?_
    have c0_ := cm; have c1_ := cw; refine goT ?_; first | exact trivial | skip
  · have e1 : wsW l = [] := if_neg h
    have e2 : wsE l = 81 := if_neg h
    rw [e1, e2]
    refine Sound.wk (r := .tup [.nils, .int .i64 81]) ?_ (Wks.refl _) (.tup (.cons (.nil 1) (.cons (.refl _) .nil)))
    refine Sound.run (N := 11) Tryz.func19 rfl (by kernel_rfl) rfl rfl rfl (by first | exact args0_0 | exact args0_1 | exact args0_2 | exact args0_3 | exact args0_4 | exact args0_5 | exact args0_6) fun X_ w_ => ?_
    have c0_ := cm; refine goT ?_; first | exact trivial | skip
/-! ### Words alike -/
theorem take_next {a b : List (List Int)} {k : Nat} (hk : k < a.length) (hk2 : k < b.length) (h : a.take k = b.take k) (e : a[k]! = b[k]!) : a.take (k + 1) = b.take (k + 1) := by
  rw [List.take_add_one, List.take_add_one, h, List.getElem?_eq_getElem hk, List.getElem?_eq_getElem hk2, ← getElem!_pos a k hk, ← getElem!_pos b k hk2, e]
set_option maxHeartbeats 4000000 in
set_option maxRecDepth 10000 in
theorem rSameW {a b : List (List Int)} (ha : WsOk a) (hb : WsOk b) : Sound Tryz.prog 22 [.sl 1 (iss a), .sl 1 (iss b)] (.bool (decide (a = b))) := by
  have hla := ha.1
  have hlb := hb.1
  by_cases hl : a.length = b.length
  · refine Sound.run (N := 27) Tryz.func22 rfl (by kernel_rfl) rfl rfl rfl (by first | exact args0_0 | exact args0_1 | exact args0_2 | exact args0_3 | exact args0_4 | exact args0_5 | exact args0_6) fun X_ w_ => ?_
    refine goT ?_; first | exact trivial | skip
    refine WP_loopk (fun k : Nat => k ≤ a.length ∧ a.take k = b.take k) (fun k => [(0, .d (.sl 1 (iss a))), (1, .d (.sl 1 (iss b))), (5, .d (.int .i64 k))]) (fun _ => []) 0 (fun k => a.length - k) [0, 1, 5] [] 0 ⟨Nat.zero_le _, rfl⟩ rfl rfl (Nat.le_refl _) (fun _ _ => rfl) (fun _ _ => rfl) fun k hk => ?_
    obtain ⟨hk1, hw⟩ := hk
    by_cases hk' : k < a.length
    · have hk2 : k < b.length := by omega
      have cs := refSame (a := a[k]!) (b := b[k]!) (ha.get hk') (hb.get hk2)
      by_cases hc : a[k]! = b[k]!
      · rw [decide_eq_true hc] at cs
        have e := take_next hk' hk2 hw hc
        have c0_ := cs; refine goT ?_; first | exact trivial | skip
        refine ⟨k + 1, ⟨by omega, e⟩, ?_, rfl, by omega⟩
        simp (disch := omega) only [go_sem, keepL, Int.natCast_add, Int.cast_ofNat_Int]
      · rw [decide_eq_false hc] at cs
        have e : decide (a = b) = false := decide_eq_false fun h => hc (by rw [h])
        have c0_ := cs; refine goX @e ?_; first | exact trivial | skip
    · have hk' : k = a.length := by omega
      subst hk'
      have e : decide (a = b) = true := decide_eq_true (by rw [List.take_length, hl, List.take_length] at hw; exact hw)
      refine goX @e ?_; first | exact trivial | skip
  · have e : decide (a = b) = false := decide_eq_false fun h => hl (by rw [h])
    refine Sound.run (N := 27) Tryz.func22 rfl (by kernel_rfl) rfl rfl rfl (by first | exact args0_0 | exact args0_1 | exact args0_2 | exact args0_3 | exact args0_4 | exact args0_5 | exact args0_6) fun X_ w_ => ?_
    refine goX @e ?_; first | exact trivial | skip
end Go.Eng.Tryz
set_option linter.unusedVariables false
set_option linter.unusedSimpArgs false
namespace Go.Eng.Tryz
open Go Go.Eng Go.Proofs Go.RowKit
attribute [local go_sem] ty0 ty1 ty2 ty3 ty4 ty5 ty6 ty7 ty8 ty9 ty10 ty11 ty12 ty13 ty14 ty15 ty16 ty17 ty18
attribute [local go_sem] is_len is_get ars_len ars_get stas_len stas_get
end Go.Eng.Tryz
set_option linter.unusedVariables false
set_option linter.unusedSimpArgs false
namespace Go.Eng.Tryz
open Go Go.Eng Go.Proofs Go.RowKit
attribute [local go_sem] ty0 ty1 ty2 ty3 ty4 ty5 ty6 ty7 ty8 ty9 ty10 ty11 ty12 ty13 ty14 ty15 ty16 ty17 ty18
attribute [local go_sem] is_len is_get ars_len ars_get stas_len stas_get iss_len iss_get dels
def lW0 : List (List Int) := [[97], [98, 97], [99]]
def sW0 : List Sta := [⟨false, [⟨97, 1⟩, ⟨98, 2⟩, ⟨99, 3⟩]⟩, ⟨true, []⟩, ⟨false, [⟨97, 4⟩]⟩, ⟨true, []⟩, ⟨true, []⟩]
theorem trie_W0 : trieF lW0 = sW0 := by decide +kernel
theorem ok_sW : StaOk sW0 := by unfold StaOk sW0; decide
theorem ok_nil : StaOk [] := by unfold StaOk; decide
theorem trie_W : Sound Tryz.prog 23 [.sl 1 (iss lW0)] (.tup [.sl 2 (stas sW0), .int .i64 0]) := by
  have hW := pWriteA (l := lW0) (by decide) (by decide) (by decide +kernel) (by unfold SrtW lW0; decide +kernel) (by decide)
  have := pTrie (L := lW0) (by decide) (by decide) hW
  rw [trie_W0] at this
  exact this
set_option maxHeartbeats 4000000 in
set_option maxRecDepth 10000 in
theorem walkAwake : Sound Tryz.prog 18 [] (.bool true) := by
  have t0 := trie_W
  have f1 := pFrom (l := sW0) (f := [98]) (n := 1) ok_sW (by decide)
  rw [show fromW sW0 [98] 1 = [[98, 97]] by decide +kernel, show fromE sW0 1 = 0 by decide +kernel] at f1
  have w1 := pWordsW ok_sW
  rw [show wsW sW0 = [[97], [98, 97], [99]] by decide +kernel, show wsE sW0 = 0 by decide +kernel] at w1
  have w2 := (pWordsW ok_nil).wk (as' := [.nils]) (.cons (.nil 2) .nil) (.refl _)
  rw [show wsW [] = [] by decide +kernel, show wsE [] = 100 by decide +kernel] at w2
  have f2 := (pFrom (l := sW0) (f := []) (n := -1) ok_sW (by decide)).wk (as' := [.sl 2 (stas sW0), .nils, .int .i64 (-1)]) (.cons (.refl _) (.cons (.nil 1) (.cons (.refl _) .nil))) (.refl _)
  rw [show fromW sW0 [] (-1) = [] by decide +kernel, show fromE sW0 (-1) = 1 by decide +kernel] at f2
  have s1 := rSameW (a := [[98, 97]]) (b := [[98, 97]]) ⟨by decide, by decide⟩ ⟨by decide, by decide⟩
  rw [decide_eq_true rfl] at s1
  have h1 := pHasW (l := sW0) (w := [99]) ok_sW (by decide)
  rw [show hasF sW0 [99] = true by decide +kernel] at h1
  have h2 := pHasW (l := sW0) (w := [98]) ok_sW (by decide)
  rw [show hasF sW0 [98] = false by decide +kernel] at h2
  have m1 := pManyW ok_sW
  rw [show manyN sW0 = 3 by decide +kernel] at m1
  have d1 := pDeepW ok_sW
  rw [show deepN sW0 = 2 by decide +kernel] at d1
  have d2 := (pDeepW ok_nil).wk (as' := [.nils]) (.cons (.nil 2) .nil) (.refl _)
  rw [show deepN [] = -1 by decide +kernel] at d2
  simp only [lW0, iss, is, List.map_cons, List.map_nil] at t0 f1 w1 w2 f2 s1 h1 h2
  refine Sound.run (N := 91) Tryz.func18 rfl (by kernel_rfl) rfl rfl rfl (by first | exact args0_0 | exact args0_1 | exact args0_2 | exact args0_3 | exact args0_4 | exact args0_5 | exact args0_6) fun X_ w_ => ?_
  have c0_ := t0; have c1_ := f1; have c2_ := w1; have c3_ := w2; have c4_ := f2; repeat ((fail_if_success (with_reducible show WP _ _ (.region 6 _ _) _ _)); first | with_reducible exact Ev.nil | with_reducible exact gd_n | ((with_reducible apply lk_ok); rfl) | ((with_reducible apply gslot_ok); rfl) | ((with_reducible apply v2d_ok); rfl) | with_reducible apply then_n | with_reducible apply WP_seq | with_reducible apply WP_skip | ((with_reducible apply WP_r (N := 91) rfl rfl); (focus simp only [Nat.reduceAdd] <;> rfl)) | ((with_reducible apply WP_d (N := 91) mixed rfl rfl); (focus simp only [Nat.reduceAdd] <;> rfl)) | ((with_reducible apply Ev_s); (focus first | (apply gd_u; (focus rfl); rfl) | (apply gd_f; (focus rfl); (focus rfl); rfl))) | ((with_reducible apply Ev_sn); (focus first | (apply gd_u; (focus rfl); rfl) | (apply gd_f; (focus rfl); (focus rfl); rfl))) | with_reducible apply gd_t | with_reducible apply Ev_mv | with_reducible apply Ev_as | with_reducible apply Ev_mc | with_reducible apply Ev_ac | ((first | (with_reducible apply Ev_pt) | (with_reducible apply Ev_ptc)); (focus rfl)) | ((first | (with_reducible apply Ev_pf) | (with_reducible apply Ev_pfc)); (focus rfl)) | (apply Ev_cf; (focus simp (disch := omega) only [go_sem] <;> rfl); (focus first | exact c0_ | exact c1_ | exact c2_ | exact c3_ | exact c4_); (focus rfl); (focus first | (simp (disch := omega) only [go_sem] <;> rfl) | rfl)) | ((with_reducible apply Ev_d); (focus simp only [Nat.reduceAdd] <;> rfl); (focus simp (disch := omega) only [go_sem] <;> rfl)) | (apply Ev_cv; (focus rfl); (focus simp (disch := omega) only [go_sem] <;> rfl); (focus first | exact c0_ | exact c1_ | exact c2_ | exact c3_ | exact c4_); (iterate 3 (focus first | (simp (disch := omega) only [go_sem] <;> rfl) | rfl))) | ((first | apply Ev_cmd | apply Ev_cmn); (focus simp only [Nat.reduceAdd] <;> rfl); (focus rfl); (iterate 2 (focus simp (disch := omega) only [go_sem] <;> rfl)); (first | ((focus first | exact c0_ | exact c1_ | exact c2_ | exact c3_ | exact c4_); (iterate 2 (focus first | (simp (disch := omega) only [go_sem] <;> rfl) | rfl)); (focus rfl); (iterate 3 (focus first | (simp (disch := omega) only [go_sem] <;> rfl) | rfl))))) | ((first | (with_reducible apply Ev_od) | (with_reducible apply Ev_on)); (focus simp only [Nat.reduceAdd] <;> rfl); (focus simp (disch := omega) only [go_sem] <;> rfl); (focus first | (simp (disch := omega) only [go_sem] <;> rfl) | rfl)) | with_reducible apply endM_n | with_reducible apply endM_r | with_reducible apply then_r | with_reducible apply then_x | with_reducible apply block_n | with_reducible apply block_r | with_reducible apply block_x | with_reducible apply block_y rfl | with_reducible apply scope_n | with_reducible apply scope_r | with_reducible apply scope_x | with_reducible apply end_n | with_reducible apply end_r | with_reducible apply WP_block | with_reducible apply WP_exit | with_reducible apply WP_ret | with_reducible apply WP_label | with_reducible apply WP_scope | ((with_reducible apply WP_t); (focus first | (simp (disch := omega) only [go_sem] <;> rfl) | rfl)) | ((with_reducible apply WP_f); (focus first | (simp (disch := omega) only [go_sem] <;> rfl) | rfl)) | ((with_reducible apply resD_t); (focus rfl)) | ((with_reducible apply resD_2); (focus rfl); (focus rfl)) | (with_reducible rfl) | ((with_reducible show List.map outKeys _ = _); simp only [List.map_cons, List.map_nil, outKeys, keys]; rfl) | ((with_reducible show orderOk _ _ = true); kernel_rfl) | ((with_reducible show _ = _); simp (disch := omega) only [go_sem] <;> rfl) | ((fail_if_success (with_reducible show Ev _ _ _ _ (_ :: _) _ _ _ _ _)); (show Ev _ _ _ _ (_ :: _) _ _ _ _ _)) | fail)
  have c0_ := s1; have c1_ := h1; have c2_ := h2; have c3_ := m1; have c4_ := d1; have c5_ := d2; refine goT ?_; first | exact trivial | skip
end Go.Eng.Tryz
set_option linter.unusedVariables false
set_option linter.unusedSimpArgs false
namespace Go.Eng.Tryz
open Go Go.Eng Go.Proofs Go.RowKit
attribute [local go_sem] ty0 ty1 ty2 ty3 ty4 ty5 ty6 ty7 ty8 ty9 ty10 ty11 ty12 ty13 ty14 ty15 ty16 ty17 ty18
attribute [local go_sem] is_len is_get ars_len ars_get stas_len stas_get iss_len iss_get dels
/-- What a search looks at. -/
def Fd (W : List (List Int)) (w : List Int) : Heap := [(0, .var [.d (.sl 1 (iss W))]), (1, .var [.d (.sl 1 (is w))])]
set_option maxHeartbeats 4000000 in
set_option maxRecDepth 10000 in
theorem pFind1 {W : List (List Int)} {w : List Int} {k : Nat} (hW : WsOk W) (hw : w.length ≤ 9223372036854775807) (hk : k < W.length) : SoundM Tryz.prog 64 [.d (.int .i64 k), .ref 0 0, .ref 1 0] (Fd W w) (.d (.bool (!decide (wcmp (W[k]!) w < 0)))) (Fd W w) 2 := by
  have cl := orderLess (a := W[k]!) (b := w) (hW.get hk) hw
  have hlen := hW.1
  unfold Fd
  refine SoundM.run (N := 12) (ks := [0, 1]) Tryz.func64 rfl (by kernel_rfl) rfl rfl rfl (by first | exact argsA_0 | exact argsA_1 | exact argsA_2 | exact argsA_3 | exact argsA_4 | exact argsA_5 | exact argsA_6) fun X_ ν_ w_ => ?_
  have c0_ := cl; refine goT ?_; first | exact trivial | skip
def fAt (W : List (List Int)) (w : List Int) : Nat := W.findIdx fun x => decide (¬ wcmp x w < 0)
theorem fAt_eq {W : List (List Int)} {w : List Int} {i : Nat} (hi : i ≤ W.length) (h1 : ∀ a, a < i → wcmp (W[a]!) w < 0) (h2 : ∀ a, i ≤ a → a < W.length → ¬ wcmp (W[a]!) w < 0) : fAt W w = i := by
  unfold fAt
  by_cases h : i < W.length
  · refine (List.findIdx_eq h).2 ⟨?_, fun a ha => ?_⟩
    · have := h2 i (Nat.le_refl _) h
      rw [getElem!_pos W i h] at this
      exact decide_eq_true this
    · have := h1 a ha
      rw [getElem!_pos W a (by omega)] at this
      simpa using this
  · have hil : i = W.length := by omega
    subst hil
    refine List.findIdx_eq_length.2 fun x hx => ?_
    obtain ⟨a, ha, rfl⟩ := List.getElem_of_mem hx
    have := h1 a ha
    rw [getElem!_pos W a ha] at this
    simpa using this
set_option maxHeartbeats 4000000 in
set_option maxRecDepth 10000 in
theorem pSearch {W : List (List Int)} {w : List Int} (hW : WsOk W) (hL : W.length ≤ 1000000) (hw : w.length ≤ 9223372036854775807) (hs : SrtW W) : SoundM Tryz.prog 63 [.d (.int .i64 W.length), .fn 64 [.ref 0 0, .ref 1 0]] (Fd W w) (.d (.int .i64 (fAt W w))) (Fd W w) 2 := by
  have hmono : ∀ a b, a < b → b < W.length → ¬ wcmp (W[a]!) w < 0 → ¬ wcmp (W[b]!) w < 0 := fun a b hab hb h1 h2 => h1 (wcmp_lt_trans (hs.at hab hb) (Int.le_of_lt h2))
  unfold Fd
  refine SoundM.run (N := 26) (ks := [0, 1]) Tryz.func63 rfl (by kernel_rfl) rfl rfl rfl (by first | exact argsA_0 | exact argsA_1 | exact argsA_2 | exact argsA_3 | exact argsA_4 | exact argsA_5 | exact argsA_6) fun X_ ν_ w_ => ?_
  refine goT ?_; first | exact trivial | skip
  refine WP_loopk (fun p : Nat × Nat => p.1 ≤ p.2 ∧ p.2 ≤ W.length ∧ (∀ a, a < p.1 → wcmp (W[a]!) w < 0) ∧ ∀ a, p.2 ≤ a → a < W.length → ¬ wcmp (W[a]!) w < 0) (fun p => [(1, .fn 64 [.ref 0 0, .ref 1 0]), (5, .d (.int .i64 p.1)), (6, .d (.int .i64 p.2))]) (fun _ => [(0, .var [.d (.sl 1 (iss W))]), (1, .var [.d (.sl 1 (is w))])]) 2 (fun p => p.2 - p.1) [1, 5, 6] [0, 1] (0, W.length) ⟨Nat.zero_le _, Nat.le_refl _, fun a h => by omega, fun a h1 h2 => by omega⟩ rfl rfl (Nat.le_of_ble_eq_true rfl) (fun _ _ => rfl) (fun _ _ => rfl) fun p hp => ?_
  obtain ⟨i, j⟩ := p
  obtain ⟨h1, h2, h3, h4⟩ := hp
  simp only at h1 h2 h3 h4
  dsimp only
  by_cases hij : i < j
  · obtain ⟨h, hh⟩ : ∃ h, h = (i + j) / 2 := ⟨_, rfl⟩
    have ehalf : ((i : Int) + (j : Int)).fdiv (2 ^ min 1 64) = (h : Int) := by
      show ((i : Int) + (j : Int)).fdiv 2 = (h : Int)
      rw [Int.fdiv_eq_ediv_of_nonneg _ (by decide)]
      omega
    have cf := pFind1 (k := h) hW hw (by omega)
    unfold Fd at cf
    by_cases hc : wcmp (W[h]!) w < 0
    · rw [decide_eq_true hc] at cf
      have c0_ := cf; refine goX @ehalf ?_; first | exact trivial | skip
      refine ⟨(h + 1, j), ⟨by show h + 1 ≤ j; omega, h2, fun a ha => ?_, h4⟩, ?_, ?_, by show j - (h + 1) < j - i; omega⟩
      · by_cases e : a = h
        · rw [e]; exact hc
        · by_cases hl : wcmp (W[a]!) w < 0
          · exact hl
          · exact absurd hc (hmono a h (by have : a < h + 1 := ha; omega) (by omega) hl)
      · simp (disch := omega) only [go_sem, keepL, Int.natCast_add, Int.cast_ofNat_Int]
      · simp (disch := omega) only [go_sem, keepL]
    · rw [decide_eq_false hc] at cf
      have c0_ := cf; refine goX @ehalf ?_; first | exact trivial | skip
      refine ⟨(i, h), ⟨by show i ≤ h; omega, by show h ≤ _; omega, h3, fun a ha hb => ?_⟩, ?_, ?_, by show h - i < j - i; omega⟩
      · by_cases e : a = h
        · rw [e]; exact hc
        · exact hmono h a (by have : h ≤ a := ha; omega) hb hc
      · simp (disch := omega) only [go_sem, keepL]
      · simp (disch := omega) only [go_sem, keepL]
  · have hij2 : j = i := by omega
    subst hij2
    rw [fAt_eq h2 h3 h4]
    refine goT ?_; first | exact trivial | skip
theorem fAt_drop {W : List (List Int)} {w : List Int} (hs : SrtW W) : fAt W w ≤ W.length ∧ W.filter (fun x => decide (¬ wcmp x w < 0)) = W.drop (fAt W w) := by
  refine ⟨List.findIdx_le_length, srt_drop (fun j h1 h2 => ?_) fun j h1 h2 => ?_⟩
  · have := List.not_of_lt_findIdx h1
    rw [getElem!_pos W j h2]
    simpa using this
  · have hlt : fAt W w < W.length := by omega
    have h0 : decide (¬ wcmp (W[fAt W w]) w < 0) = true := List.findIdx_getElem (w := hlt)
    rw [decide_eq_true_eq] at h0 ⊢
    by_cases e : j = fAt W w
    · subst e; rw [getElem!_pos W _ hlt]; exact h0
    · have := hs.at (show fAt W w < j by omega) h2
      rw [getElem!_pos W _ hlt] at this
      exact fun h3 => h0 (wcmp_lt_trans this (Int.le_of_lt h3))
end Go.Eng.Tryz
set_option linter.unusedVariables false
set_option linter.unusedSimpArgs false
namespace Go.Eng.Tryz
open Go Go.Eng Go.Proofs Go.RowKit
end Go.Eng.Tryz
set_option linter.unusedVariables false
set_option linter.unusedSimpArgs false
namespace Go.Eng.Tryz
open Go Go.Eng Go.Proofs Go.RowKit
end Go.Eng.Tryz

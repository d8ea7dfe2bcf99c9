/- The words of an automaton from one on: as told, and as the law tells them. (and what stands behind it: texts laid together) -/
import Derived.Test.YtabfoaoeghikoaaGreatDoorMG4
import Derived.Test.YtabfoaoeghikoaaGreatDoorMR17
import Derived.Test.YtabfoaoeghikoaaGreatDoorMR7
import Derived.Test.YtabfoaoeghikoaaGreatDoorMR16
import Derived.Test.YtabfoaoeghikoaaGreatDoorMR5
import Derived.Test.YtabfoaoeghikoaaGreatDoorMR4
set_option maxHeartbeats 32000000
set_option maxRecDepth 100000
set_option linter.unusedVariables false
set_option linter.unusedSimpArgs false
namespace Go.Eng.Tryz
open Go Go.Eng Go.Proofs Go.RowKit
attribute [local go_sem] is_len is_get ars_len ars_get stas_len stas_get iss_len iss_get dels
theorem iss_nilW : iss [] = [] := rfl
theorem iss_snocW {l : List (List Int)} {w : List Int} : iss l ++ [.sl 1 (is w)] = iss (l ++ [w]) := by simp [iss]
theorem pWords1 {l : List Sta} {f : List Int} {Y : Ym} {m : Nat} {b : Bool} {o : List (List Int)} {st : LSt} (hy : TakesW Y m) (hm : m ≤ 300) (hl : StaOk l) (hka : achk l = true) (hf : f.length ≤ 9223372036854775807) (hR : WkR m [] (wordsF l f) b o st) :
    SoundM Tryz.prog 161 [.yld 0, .dref [.sl 2 (stas l)], .dref [.sl 1 (is f)]] (StW Y m [] .ready) (.tup []) (StW Y m o st) 4 := by
  have ct := pToldM hl hka
  have hl0 := (achk_iff.1 hka).2.1
  have cw := pWalk hy hm hl hka hf l.length 0 [] [] b o st hl0 (by omega) (Nat.le_refl _) (Nat.zero_le _) hR
  have cw2 : SoundM Tryz.prog 162 [.ref 0 0, .d (.int .i64 0), .d .nils] (WkH Y m l f [] .ready) (.d (.bool b)) (WkH Y m l f o st) 5 := by
    refine SoundK.wk cw rfl fun i a a' h h' => ?_
    match i with
    | 0 => simp at h h'; subst h; subst h'; exact .inl rfl
    | 1 => simp at h h'; subst h; subst h'; exact .inl rfl
    | 2 => simp at h h'; subst h; subst h'; exact .inr ⟨_, _, rfl, rfl, .nil 1⟩
    | i + 3 => simp at h
  unfold WkH at cw2
  unfold StW
  refine SoundM.run (N := 14) (ks := [0, 1, 2, 3]) Tryz.func161 rfl (by kernel_rfl) rfl rfl rfl (by exact argsA_3) fun X_ ν_ w_ => ?_
  have c0_ := ct; have c1_ := cw2; refine goT ?_; try exact trivial
theorem pWordsFn {l : List Sta} {f : List Int} : SoundM Tryz.prog 116 [.d (.sl 2 (stas l)), .d (.sl 1 (is f))] [] (.fn 161 [.dref [.sl 2 (stas l)], .dref [.sl 1 (is f)]]) [] 0 := by
  have h : SoundM Tryz.prog 116 [.d (.sl 2 (stas l)), .d (.sl 1 (is f))] [] (.fn 161 [.ref 0 0, .ref 1 0]) [(0, .var [.d (.sl 2 (stas l))]), (1, .var [.d (.sl 1 (is f))])] 0 := by
    refine SoundM.run (N := 6) (ks := [0, 1]) Tryz.func116 rfl (by kernel_rfl) rfl rfl rfl (by exact argsA_2) fun X_ ν_ w_ => ?_
    refine goT ?_; try exact trivial
  exact h.freeze rfl
def fromE (l : List Sta) (n : Int) : Int := if achk l = true then (if 0 ≤ n ∧ n ≤ 300 then 0 else 1) else 100
def fromW (l : List Sta) (f : List Int) (n : Int) : List (List Int) := if achk l = true ∧ 0 ≤ n ∧ n ≤ 300 then (wordsF l f).take n.toNat else []
theorem pFrom {l : List Sta} {f : List Int} {n : Int} (hl : StaOk l) (hf : f.length ≤ 9223372036854775807) : Sound Tryz.prog 61 [.sl 2 (stas l), .sl 1 (is f), .int .i64 n] (.tup [.sl 1 (iss (fromW l f n)), .int .i64 (fromE l n)]) := by
  have cch := pCheckA hl
  cases hka : achk l
  · have e1 : fromW l f n = [] := if_neg (by rw [hka]; simp)
    have e2 : fromE l n = 100 := if_neg (by rw [hka]; simp)
    rw [e1, e2]
    rw [hka] at cch
    refine Sound.wk (r := .tup [.nils, .int .i64 100]) ?_ (Wks.refl _) (.tup (.cons (.nil 1) (.cons (.refl _) .nil)))
    refine Sound.run (N := 33) Tryz.func61 rfl (by kernel_rfl) rfl rfl rfl (by exact args0_3) fun X_ w_ => ?_
    have c0_ := cch; refine goT ?_; try exact trivial
  rw [hka] at cch
  by_cases h0 : n < 0
  · have e1 : fromW l f n = [] := if_neg (by omega)
    have e2 : fromE l n = 1 := by unfold fromE; rw [if_pos hka, if_neg (by omega)]
    rw [e1, e2]
    refine Sound.wk (r := .tup [.nils, .int .i64 1]) ?_ (Wks.refl _) (.tup (.cons (.nil 1) (.cons (.refl _) .nil)))
    refine Sound.run (N := 33) Tryz.func61 rfl (by kernel_rfl) rfl rfl rfl (by exact args0_3) fun X_ w_ => ?_
    have c0_ := cch; refine goT ?_; try exact trivial
  by_cases h1 : 300 < n
  · have e1 : fromW l f n = [] := if_neg (by omega)
    have e2 : fromE l n = 1 := by unfold fromE; rw [if_pos hka, if_neg (by omega)]
    rw [e1, e2]
    refine Sound.wk (r := .tup [.nils, .int .i64 1]) ?_ (Wks.refl _) (.tup (.cons (.nil 1) (.cons (.refl _) .nil)))
    refine Sound.run (N := 33) Tryz.func61 rfl (by kernel_rfl) rfl rfl rfl (by exact args0_3) fun X_ w_ => ?_
    have c0_ := cch; refine goT ?_; try exact trivial
  obtain ⟨m, rfl⟩ := Int.eq_ofNat_of_zero_le (by omega : 0 ≤ n)
  have e1 : fromW l f m = (wordsF l f).take m := if_pos ⟨hka, by omega, by omega⟩
  have e2 : fromE l m = 0 := by unfold fromE; rw [if_pos hka, if_pos ⟨by omega, by omega⟩]
  rw [e1, e2]
  have cm := pWordsFn (l := l) (f := f)
  have hm : m ≤ 300 := by omega
  have hT : ∀ (al bl : Code), (∀ (out : List (List Int)) (w : List Int), out.length < m → w.length ≤ 6001 → SoundY Tryz.prog [.yld 0, .d (.sl 1 (is w))] (StW ⟨33, #[23], al, bl⟩ m out .ready) (.d (.bool true)) (StW ⟨33, #[23], al, bl⟩ m (out ++ [w]) .ready) 4) → (∀ (out : List (List Int)) (w : List Int), out.length = m → SoundY Tryz.prog [.yld 0, .d (.sl 1 (is w))] (StW ⟨33, #[23], al, bl⟩ m out .ready) (.d (.bool false)) (StW ⟨33, #[23], al, bl⟩ m out (.done (.exit 1))) 4) → TakesW ⟨33, #[23], al, bl⟩ m := fun al bl h1 h2 => ⟨h1, h2⟩
  by_cases hfit : (wordsF l f).length ≤ m
  · rw [List.take_of_length_le hfit]
    have hR : WkR m [] (wordsF l f) true (wordsF l f) .ready := ⟨fun _ => ⟨rfl, rfl, rfl⟩, fun h => by simp at h; omega⟩
    refine Sound.run (N := 33) Tryz.func61 rfl (by kernel_rfl) rfl rfl rfl (by exact args0_3) fun X_ w_ => ?_
    have c0_ := cch; have c1_ := cm; refine goT ?_; try exact trivial
    refine WP_ownv 1 0 60000 36 1 rfl rfl (by decide) (by decide) (by simp (disch := omega) only [go_sem]; rfl) ?_
    refine WP_keepd [5, 6, 22] [0, 1, 60000] 60001 (Nat.le_of_ble_eq_true rfl) (by simp (disch := omega) only [go_sem, keepL, List.set_cons_zero, List.set_cons_succ] <;> rfl) (by simp (disch := omega) only [go_sem, keepL, List.set_cons_zero, List.set_cons_succ] <;> rfl) rfl rfl ?_
    refine WP_rangeR (cs := [(6, .ref 1 0), (5, .ref 0 0)]) rfl rfl rfl (by simp (disch := omega) only [go_sem, envOk]) rfl rfl (by simp (disch := omega) only [go_sem, StW, iss_nilW, List.length_nil]; rfl) (pWords1 (Y := ⟨33, #[23], _, _⟩) ?hy hm hl hka hf hR) rfl (by first | (simp (disch := omega) only [go_sem, StW, iss_nilW, List.length_nil] <;> rfl) | rfl) (by first | (simp (disch := omega) only [go_sem, StW, iss_nilW, List.length_nil] <;> rfl) | rfl) rfl (by first | (simp (disch := omega) only [go_sem, StW, iss_nilW, List.length_nil] <;> rfl) | rfl) (by first | (simp (disch := omega) only [go_sem, StW, iss_nilW, List.length_nil] <;> rfl) | rfl) (by first | (simp (disch := omega) only [go_sem, StW, iss_nilW, List.length_nil] <;> rfl) | rfl) ?_
    · refine hT _ _ (fun out w hx hw => ?_) (fun out w hx => ?_)
      · unfold StW
        refine SoundY.run (N := 33) (ps := [23]) (ks := [0, 1, 2, 3]) rfl rfl rfl rfl rfl (by simp (disch := omega) only [go_sem]; rfl) fun l_ X_ ν_ w_ => ?_; dsimp only
        refine goT ?_; try exact trivial
        refine round_b (by simp (disch := omega) only [go_sem] <;> rfl) (by simp (disch := omega) only [go_sem] <;> rfl) ?_; dsimp only
        refine goX @iss_snocW ?_; try exact trivial
      · unfold StW
        refine SoundY.run (N := 33) (ps := [23]) (ks := [0, 1, 2, 3]) rfl rfl rfl rfl rfl (by simp (disch := omega) only [go_sem]; rfl) fun l_ X_ ν_ w_ => ?_; dsimp only
        refine goT ?_; try exact trivial
        refine round_b (by simp (disch := omega) only [go_sem] <;> rfl) (by simp (disch := omega) only [go_sem] <;> rfl) ?_; dsimp only
        refine goX @hx ?_; try exact trivial
    · refine goT ?_; try exact trivial
  · have hR : WkR m [] (wordsF l f) false ((wordsF l f).take m) (.done (.exit 1)) := ⟨fun h => by simp at h; omega, fun _ => ⟨rfl, rfl, rfl⟩⟩
    generalize (wordsF l f).take m = W at *
    refine Sound.run (N := 33) Tryz.func61 rfl (by kernel_rfl) rfl rfl rfl (by exact args0_3) fun X_ w_ => ?_
    have c0_ := cch; have c1_ := cm; refine goT ?_; try exact trivial
    refine WP_ownv 1 0 60000 36 1 rfl rfl (by decide) (by decide) (by simp (disch := omega) only [go_sem]; rfl) ?_
    refine WP_keepd [5, 6, 22] [0, 1, 60000] 60001 (Nat.le_of_ble_eq_true rfl) (by simp (disch := omega) only [go_sem, keepL, List.set_cons_zero, List.set_cons_succ] <;> rfl) (by simp (disch := omega) only [go_sem, keepL, List.set_cons_zero, List.set_cons_succ] <;> rfl) rfl rfl ?_
    refine WP_rangeX (cs := [(6, .ref 1 0), (5, .ref 0 0)]) rfl rfl rfl (by simp (disch := omega) only [go_sem, envOk]) rfl rfl (by simp (disch := omega) only [go_sem, StW, iss_nilW, List.length_nil]; rfl) (pWords1 (Y := ⟨33, #[23], _, _⟩) ?hy2 hm hl hka hf hR) rfl (by first | (simp (disch := omega) only [go_sem, StW, iss_nilW, List.length_nil] <;> rfl) | rfl) (by first | (simp (disch := omega) only [go_sem, StW, iss_nilW, List.length_nil] <;> rfl) | rfl) rfl (by first | (simp (disch := omega) only [go_sem, StW, iss_nilW, List.length_nil] <;> rfl) | rfl) (by first | (simp (disch := omega) only [go_sem, StW, iss_nilW, List.length_nil] <;> rfl) | rfl) (by first | (simp (disch := omega) only [go_sem, StW, iss_nilW, List.length_nil] <;> rfl) | rfl) ?_
    · refine hT _ _ (fun out w hx hw => ?_) (fun out w hx => ?_)
      · unfold StW
        refine SoundY.run (N := 33) (ps := [23]) (ks := [0, 1, 2, 3]) rfl rfl rfl rfl rfl (by simp (disch := omega) only [go_sem]; rfl) fun l_ X_ ν_ w_ => ?_; dsimp only
        refine goT ?_; try exact trivial
        refine round_b (by simp (disch := omega) only [go_sem] <;> rfl) (by simp (disch := omega) only [go_sem] <;> rfl) ?_; dsimp only
        refine goX @iss_snocW ?_; try exact trivial
      · unfold StW
        refine SoundY.run (N := 33) (ps := [23]) (ks := [0, 1, 2, 3]) rfl rfl rfl rfl rfl (by simp (disch := omega) only [go_sem]; rfl) fun l_ X_ ν_ w_ => ?_; dsimp only
        refine goT ?_; try exact trivial
        refine round_b (by simp (disch := omega) only [go_sem] <;> rfl) (by simp (disch := omega) only [go_sem] <;> rfl) ?_; dsimp only
        refine goX @hx ?_; try exact trivial
    · refine goT ?_; try exact trivial
end Go.Eng.Tryz
set_option linter.unusedVariables false
set_option linter.unusedSimpArgs false
namespace Go.Eng.Tryz
open Go Go.Eng Go.Proofs Go.RowKit
attribute [local go_sem] is_len is_get ars_len ars_get stas_len stas_get is_setZ is_repZ iss_len iss_get
def wsW (l : List Sta) : List (List Int) := if manyN l ≤ 300 then fromW l [] 300 else []
def wsE (l : List Sta) : Int := if manyN l ≤ 300 then fromE l 300 else 81
theorem pWordsW {l : List Sta} (hl : StaOk l) : Sound Tryz.prog 19 [.sl 2 (stas l)] (.tup [.sl 1 (iss (wsW l)), .int .i64 (wsE l)]) := by
  have cm := pManyW hl
  by_cases h : manyN l ≤ 300
  · have e1 : wsW l = fromW l [] 300 := if_pos h
    have e2 : wsE l = fromE l 300 := if_pos h
    rw [e1, e2]
    have cw : Sound Tryz.prog 61 [.sl 2 (stas l), .nils, .int .i64 300] (.tup [.sl 1 (iss (fromW l [] 300)), .int .i64 (fromE l 300)]) := (pFrom (f := []) (n := 300) hl (Nat.zero_le _)).wk (.cons (.refl _) (.cons (.nil 1) (.cons (.refl _) .nil))) (.refl _)
    refine Sound.run (N := 11) Tryz.func19 rfl (by kernel_rfl) rfl rfl rfl (by exact args0_1) fun X_ w_ => ?_
    have c0_ := cm; have c1_ := cw; refine goT ?_; try exact trivial
  · have e1 : wsW l = [] := if_neg h
    have e2 : wsE l = 81 := if_neg h
    rw [e1, e2]
    refine Sound.wk (r := .tup [.nils, .int .i64 81]) ?_ (Wks.refl _) (.tup (.cons (.nil 1) (.cons (.refl _) .nil)))
    refine Sound.run (N := 11) Tryz.func19 rfl (by kernel_rfl) rfl rfl rfl (by exact args0_1) fun X_ w_ => ?_
    have c0_ := cm; refine goT ?_; try exact trivial
theorem take_next {a b : List (List Int)} {k : Nat} (hk : k < a.length) (hk2 : k < b.length) (h : a.take k = b.take k) (e : a[k]! = b[k]!) : a.take (k + 1) = b.take (k + 1) := by
  rw [List.take_add_one, List.take_add_one, h, List.getElem?_eq_getElem hk, List.getElem?_eq_getElem hk2, ← getElem!_pos a k hk, ← getElem!_pos b k hk2, e]
theorem rSameW {a b : List (List Int)} (ha : WsOk a) (hb : WsOk b) : Sound Tryz.prog 22 [.sl 1 (iss a), .sl 1 (iss b)] (.bool (decide (a = b))) := by
  have hla := ha.1
  have hlb := hb.1
  by_cases hl : a.length = b.length
  · refine Sound.run (N := 27) Tryz.func22 rfl (by kernel_rfl) rfl rfl rfl (by exact args0_2) fun X_ w_ => ?_
    refine goT ?_; try exact trivial
    refine WP_loopk (fun k : Nat => k ≤ a.length ∧ a.take k = b.take k) (fun k => [(0, .d (.sl 1 (iss a))), (1, .d (.sl 1 (iss b))), (5, .d (.int .i64 k))]) (fun _ => []) 0 (fun k => a.length - k) [0, 1, 5] [] 0 ⟨Nat.zero_le _, rfl⟩ rfl rfl (Nat.le_refl _) (fun _ _ => rfl) (fun _ _ => rfl) fun k hk => ?_
    obtain ⟨hk1, hw⟩ := hk
    by_cases hk' : k < a.length
    · have hk2 : k < b.length := by omega
      have cs := refSame (a := a[k]!) (b := b[k]!) (ha.get hk') (hb.get hk2)
      by_cases hc : a[k]! = b[k]!
      · rw [decide_eq_true hc] at cs
        have e := take_next hk' hk2 hw hc
        have c0_ := cs; refine goT ?_; try exact trivial
        refine ⟨k + 1, ⟨by omega, e⟩, ?_, rfl, by omega⟩
        simp (disch := omega) only [go_sem, keepL, Int.natCast_add, Int.cast_ofNat_Int]
      · rw [decide_eq_false hc] at cs
        have e : decide (a = b) = false := decide_eq_false fun h => hc (by rw [h])
        have c0_ := cs; refine goX @e ?_; try exact trivial
    · have hk' : k = a.length := by omega
      subst hk'
      have e : decide (a = b) = true := decide_eq_true (by rw [List.take_length, hl, List.take_length] at hw; exact hw)
      refine goX @e ?_; try exact trivial
  · have e : decide (a = b) = false := decide_eq_false fun h => hl (by rw [h])
    refine Sound.run (N := 27) Tryz.func22 rfl (by kernel_rfl) rfl rfl rfl (by exact args0_2) fun X_ w_ => ?_
    refine goX @e ?_; try exact trivial
theorem lead_len {l : List Sta} (hka : achk l = true) : ∀ (u : List Int) (k t : Int), leadF l k u = some t → k + u.length ≤ t
  | [], k, t, h => by simp only [leadF, Option.some.injEq] at h; subst h; simp
  | z :: u, k, t, h => by
    simp only [leadF] at h
    split at h
    · rename_i s hs
      have h1 := (stepF_in hka hs).2.2.1
      have := lead_len hka u s t h
      simp only [List.length_cons]
      omega
    · cases h
theorem wordsF_len {l : List Sta} (hka : achk l = true) {f x : List Int} (h : x ∈ wordsF l f) : x.length ≤ 6001 := by
  obtain ⟨u, t, e, e1, e2, e3⟩ := wf_lead hka _ _ _ (achk_iff.1 hka).2.1 x h
  simp only [List.nil_append] at e
  subst e
  have h1 := lead_len hka _ _ _ e1
  have h2 := (leadF_in hka (Int.le_refl 0) (by have := (achk_iff.1 hka).2.1; omega) e1).2.1
  have h3 := (achk_iff.1 hka).2.2
  have h4 : ((0 : Nat) : Int) = 0 := rfl
  omega
theorem fromW_ok (l : List Sta) (f : List Int) (n : Int) : (fromW l f n).length ≤ 300 ∧ WsOk (fromW l f n) ∧ ∀ w ∈ fromW l f n, w.length ≤ 6001 := by
  unfold fromW
  split
  · rename_i h
    have h1 : ((wordsF l f).take n.toNat).length ≤ 300 := by rw [List.length_take]; omega
    have h2 : ∀ w ∈ (wordsF l f).take n.toNat, w.length ≤ 6001 := fun w hw => wordsF_len h.1 (List.mem_of_mem_take hw)
    exact ⟨h1, ⟨by omega, fun w hw => by have := h2 w hw; omega⟩, h2⟩
  · exact ⟨by simp, ⟨by simp, fun w hw => by cases hw⟩, fun w hw => by cases hw⟩
theorem wsW_ok (l : List Sta) : (wsW l).length ≤ 300 ∧ WsOk (wsW l) ∧ ∀ w ∈ wsW l, w.length ≤ 6001 := by
  unfold wsW
  split
  · exact fromW_ok l [] 300
  · exact ⟨by simp, ⟨by simp, fun w hw => by cases hw⟩, fun w hw => by cases hw⟩
end Go.Eng.Tryz
set_option linter.unusedVariables false
set_option linter.unusedSimpArgs false
namespace Go.Eng.Tryz
open Go Go.Eng Go.Proofs Go.RowKit
attribute [local go_sem] is_len is_get iss_len iss_get ars_len ars_get stas_len stas_get rs_len rs_get
theorem ws_ofS {L : List (List Int)} {l : List Sta} (hka : achk l = true) (hl : Lng L l) (hs : SrtW L) (hn : L.length ≤ 300) : wsW l = L ∧ wsE l = 0 ∧ manyN l = L.length := by
  have e0 : wordsF l [] = L := (lng_words hka).same hl (wordsF_srt hka []) hs
  have hmn : manyN l = min 301 ((wordsF l []).length : Int) := by
    have : manyN l = (toldI manyF l l.length)[0]! := if_pos hka
    rw [this]
    exact wf_many hka l.length 0 [] (achk_iff.1 hka).2.1 (by omega)
  rw [e0] at hmn
  have h3 : manyN l ≤ 300 := by omega
  refine ⟨?_, ?_, by omega⟩
  · unfold wsW fromW
    rw [if_pos h3, if_pos ⟨hka, by omega, by omega⟩, e0]
    exact List.take_of_length_le hn
  · unfold wsE fromE
    rw [if_pos h3, if_pos hka, if_pos ⟨by omega, by omega⟩]
theorem shE_0 {l : List Sta} {c : Co} : shE l c = 0 ↔ achk l = true ∧ cok c = true ∧ ¬ 300 < manyN l ∧ ¬ 20 < deepN l ∧ (l[0]!).final = false := by
  unfold shE
  constructor
  · intro h
    by_cases h1 : achk l = false
    · rw [if_pos h1] at h; exact absurd h (by decide)
    rw [if_neg h1] at h
    by_cases h2 : cok c = false
    · rw [if_pos h2] at h; exact absurd h (by decide)
    rw [if_neg h2] at h
    by_cases h3 : 300 < manyN l
    · rw [if_pos h3] at h; exact absurd h (by decide)
    rw [if_neg h3] at h
    by_cases h4 : (decide (20 < deepN l) || (l[0]!).final) = true
    · rw [if_pos h4] at h; exact absurd h (by decide)
    rw [Bool.or_eq_true, decide_eq_true_eq, not_or] at h4
    exact ⟨by simpa using h1, by simpa using h2, h3, h4.1, by simpa using h4.2⟩
  · rintro ⟨h1, h2, h3, h4, h5⟩
    rw [if_neg (by rw [h1]; decide), if_neg (by rw [h2]; decide), if_neg h3, if_neg (by rw [h5, decide_eq_false h4]; decide)]
def swW (l : List Sta) (c : Co) : List (List Int) := if shE l c = 0 then wsW l else []
theorem pSWords {l : List Sta} {c : Co} (hl : StaOk l) (hc : c.ok) : Sound Tryz.prog 30 [im l c] (.tup [.sl 1 (iss (swW l c)), .int .i64 (shE l c)]) := by
  have c1 := pSCheck hl hc
  by_cases h : shE l c = 0
  · have e1 : swW l c = wsW l := if_pos h
    have c2 := pWordsW hl
    obtain ⟨h1, h2, h3, _⟩ := shE_0.1 h
    have e2 : wsE l = 0 := by unfold wsE fromE; rw [if_pos (by omega), if_pos h1, if_pos ⟨by omega, by omega⟩]
    rw [e2] at c2
    rw [e1, h]
    rw [h] at c1
    generalize wsW l = W at c2 ⊢
    unfold im at c1 ⊢
    refine Sound.run (N := 15) Tryz.func30 rfl (by kernel_rfl) rfl rfl rfl (by exact args0_1) fun X_ w_ => ?_
    have c0_ := c1; have c1_ := c2; refine goT ?_; try exact trivial
  · have e1 : swW l c = [] := if_neg h
    rw [e1]
    refine Sound.wk (r := .tup [.nils, .int .i64 (shE l c)]) ?_ (Wks.refl _) (.tup (.cons (.nil 1) (.cons (.refl _) .nil)))
    generalize shE l c = e at h c1 ⊢
    unfold im at c1 ⊢
    refine Sound.run (N := 15) Tryz.func30 rfl (by kernel_rfl) rfl rfl rfl (by exact args0_1) fun X_ w_ => ?_
    have c0_ := c1; refine goT ?_; try exact trivial
end Go.Eng.Tryz
set_option linter.unusedVariables false
set_option linter.unusedSimpArgs false
namespace Go.Eng.Tryz
open Go Go.Eng Go.Proofs Go.RowKit
attribute [local go_sem] is_len is_get iss_len iss_get ars_len ars_get stas_len stas_get rs_len rs_get
theorem pCloneR {l : List Ru} (hl : l.length ≤ 1000000) : Sound Tryz.prog 72 [.sl 3 (rs l)] (.sl 3 (rs l)) := by
  cases l with
  | nil =>
    have h1 : Sound Tryz.prog 72 [.nils] .nils := by
      refine Sound.run (N := 8) Tryz.func72 rfl (by kernel_rfl) rfl rfl rfl (by exact args0_1) fun X_ w_ => ?_
      refine goT ?_; try exact trivial
    have h2 : Sound Tryz.prog 72 [.emp 3] (.sl 3 []) := by
      refine Sound.run (N := 8) Tryz.func72 rfl (by kernel_rfl) rfl rfl rfl (by exact args0_1) fun X_ w_ => ?_
      refine goT ?_; try exact trivial
    exact Sound.nil_at (sz := 3) 0 rfl (h1.wk (Wks.refl _) (.nil 3)) h2
  | cons x l =>
    have e : rs (x :: l) = ru x :: rs l := rfl
    simp only [List.length_cons] at hl
    refine Sound.run (N := 8) Tryz.func72 rfl (by kernel_rfl) rfl rfl rfl (by exact args0_1) fun X_ w_ => ?_
    refine goX @e ?_; try exact trivial
def im0 : D := .agg [.nils, .int .u64 0, .int .u64 0, .int .u64 0, .int .u64 0, .nils]
theorem pSMakeW {L : List (List Int)} {c : Co} (hL : WsOk L) (hc : c.ok) (he : wrE L ≠ 0) : Sound Tryz.prog 32 [.sl 1 (iss L), co c] (.tup [im0, .int .i64 (wrE L)]) := by
  have cm := pMake hL
  rw [dawgR_no he] at cm
  unfold im0 co
  rcases wrE_some L with h | h | h
  · exact absurd h he
  · rw [h] at cm ⊢
    refine Sound.run (N := 30) Tryz.func32 rfl (by kernel_rfl) rfl rfl rfl (by exact args0_2) fun X_ w_ => ?_
    have c0_ := cm; refine goT ?_; try exact trivial
  · rw [h] at cm ⊢
    refine Sound.run (N := 30) Tryz.func32 rfl (by kernel_rfl) rfl rfl rfl (by exact args0_2) fun X_ w_ => ?_
    have c0_ := cm; refine goT ?_; try exact trivial
theorem pSMakeR {L : List (List Int)} {c : Co} (hL : WsOk L) (hc : c.ok) (he : wrE L = 0) (hk : cok c = false) : Sound Tryz.prog 32 [.sl 1 (iss L), co c] (.tup [im0, .int .i64 60]) := by
  have cm := pMake hL
  have cc := sCheck hc
  rw [dawgR_ok he] at cm
  rw [hk] at cc
  generalize dawgF L = l at cm
  unfold co at cc
  unfold im0 co
  refine Sound.run (N := 30) Tryz.func32 rfl (by kernel_rfl) rfl rfl rfl (by exact args0_2) fun X_ w_ => ?_
  have c0_ := cm; have c1_ := cc; refine goT ?_; try exact trivial
theorem pSMakeO {L : List (List Int)} {c : Co} (hL : WsOk L) (hc : c.ok) (he : wrE L = 0) (hk : cok c = true) : Sound Tryz.prog 32 [.sl 1 (iss L), co c] (.tup [im (dawgF L) c, .int .i64 0]) := by
  have cm := pMake hL
  have cc := sCheck hc
  have cr := pCloneR (l := c.rules) (by have := (cok_iff.1 hk).2.1; omega)
  rw [dawgR_ok he] at cm
  rw [hk] at cc
  generalize dawgF L = l at cm ⊢
  unfold co at cc
  unfold im co
  refine Sound.run (N := 30) Tryz.func32 rfl (by kernel_rfl) rfl rfl rfl (by exact args0_2) fun X_ w_ => ?_
  have c0_ := cm; have c1_ := cc; have c2_ := cr; refine goT ?_; try exact trivial
end Go.Eng.Tryz
set_option linter.unusedVariables false
set_option linter.unusedSimpArgs false
namespace Go.Eng.Tryz
open Go Go.Eng Go.Proofs Go.RowKit
attribute [local go_sem] is_len is_get ars_len ars_get stas_len stas_get
def fewA (l : List Sta) (n : Nat) : Bool := (l.all fun s => decide (s.arcs.length ≤ 100)) && decide (l.length ≤ n)
theorem fewA_iff {l : List Sta} {n : Nat} : fewA l n = true ↔ (∀ k, k < l.length → (l[k]!).arcs.length ≤ 100) ∧ l.length ≤ n := by
  unfold fewA
  rw [Bool.and_eq_true, List.all_eq_true, decide_eq_true_eq]
  refine and_congr ⟨fun h k hk => ?_, fun h s hs => ?_⟩ Iff.rfl
  · rw [getElem!_pos l k hk]; exact of_decide_eq_true (h _ (List.getElem_mem hk))
  · obtain ⟨k, hk, rfl⟩ := List.getElem_of_mem hs
    have := h k hk
    rw [getElem!_pos l k hk] at this
    exact decide_eq_true this
theorem pFewA {l : List Sta} {n : Nat} (hl : StaOk l) (hn : n ≤ 1000000) : Sound Tryz.prog 12 [.sl 2 (stas l), .int .i64 n] (.bool (fewA l n)) := by
  have hlen := hl.1
  refine Sound.run (N := 23) Tryz.func12 rfl (by kernel_rfl) rfl rfl rfl (by exact args0_2) fun X_ w_ => ?_
  refine goT ?_; try exact trivial
  refine WP_loopk (fun k : Nat => k ≤ l.length ∧ ∀ j, j < k → (l[j]!).arcs.length ≤ 100) (fun k => [(0, .d (.sl 2 (stas l))), (1, .d (.int .i64 n)), (5, .d (.int .i64 k))]) (fun _ => []) 0 (fun k => l.length - k) [0, 1, 5] [] 0 ⟨Nat.zero_le _, fun j h => by omega⟩ rfl rfl (Nat.le_refl _) (fun _ _ => rfl) (fun _ _ => rfl) fun k hk => ?_
  obtain ⟨hk1, hk2⟩ := hk
  by_cases hk : k < l.length
  · have ha := hl.get hk
    by_cases h1 : 100 < (l[k]!).arcs.length
    · have e : fewA l n = false := by
        cases h : fewA l n with
        | false => rfl
        | true => have := (fewA_iff.1 h).1 k hk; omega
      refine goX @e ?_; try exact trivial
    · refine goT ?_; try exact trivial
      refine ⟨k + 1, ⟨by omega, fun j hj => ?_⟩, ?_, rfl, by omega⟩
      · by_cases e : j = k
        · subst e; omega
        · exact hk2 j (by omega)
      · simp (disch := omega) only [go_sem, keepL, Int.natCast_add, Int.cast_ofNat_Int]
  · have hkl : k = l.length := by omega
    subst hkl
    have e : fewA l n = decide ((l.length : Int) ≤ n) := by
      by_cases h2 : l.length ≤ n
      · rw [fewA_iff.2 ⟨hk2, h2⟩, decide_eq_true (by omega)]
      · cases h : fewA l n with
        | false => rw [decide_eq_false (by omega)]
        | true => have := (fewA_iff.1 h).2; omega
    rw [e]
    refine goT ?_; try exact trivial
end Go.Eng.Tryz
set_option linter.unusedVariables false
set_option linter.unusedSimpArgs false
namespace Go.Eng.Tryz
open Go Go.Eng Go.Proofs Go.RowKit
attribute [local go_sem] is_len is_get iss_len iss_get ars_len ars_get stas_len stas_get rs_len rs_get
def lS0 : List (List Int) := [[97], [98, 97]]
def lS1 : List (List Int) := [[98], [97]]
def sS0 : List Sta := [⟨false, [⟨97, 2⟩, ⟨98, 1⟩]⟩, ⟨false, [⟨97, 2⟩]⟩, ⟨true, []⟩]
def cS0 : Co := ⟨1, 1, 1, 1, []⟩
def cS1 : Co := ⟨0, 18446744073709551615, 0, 0, []⟩
theorem wr_S0 : wrE lS0 = 0 := by decide +kernel
theorem wr_S1 : wrE lS1 = 90 := by decide +kernel
theorem dawg_S0 : dawgF lS0 = sS0 := by decide +kernel
theorem ok_S0 : StaOk sS0 := by unfold StaOk sS0; decide
theorem ok_S1 : StaOk [] := by unfold StaOk; decide
theorem ok_S2 : StaOk [⟨true, []⟩] := by unfold StaOk; decide
theorem cok_S0 : cok cS0 = true := by decide +kernel
theorem cok_S1 : cok cS1 = false := by decide +kernel
theorem co_S0 : cS0.ok := ⟨⟨by decide, by decide⟩, ⟨by decide, by decide⟩, ⟨by decide, by decide⟩, ⟨by decide, by decide⟩, fun r h => (nomatch h), by decide⟩
theorem co_S1 : cS1.ok := ⟨⟨by decide, by decide⟩, ⟨by decide, by decide⟩, ⟨by decide, by decide⟩, ⟨by decide, by decide⟩, fun r h => (nomatch h), by decide⟩
theorem co_S2 : (⟨0, 0, 0, 0, []⟩ : Co).ok := ⟨⟨by decide, by decide⟩, ⟨by decide, by decide⟩, ⟨by decide, by decide⟩, ⟨by decide, by decide⟩, fun r h => (nomatch h), by decide⟩
theorem shapeAwake : Sound Tryz.prog 28 [] (.bool true) := by
  have wc : Wk (.agg [.int .u64 1, .int .u64 1, .int .u64 1, .int .u64 1, .nils]) (co cS0) := .agg (.cons (.refl _) (.cons (.refl _) (.cons (.refl _) (.cons (.refl _) (.cons (.nil 3) .nil)))))
  have wc1 : Wk (.agg [.int .u64 0, .int .u64 18446744073709551615, .int .u64 0, .int .u64 0, .nils]) (co cS1) := .agg (.cons (.refl _) (.cons (.refl _) (.cons (.refl _) (.cons (.refl _) (.cons (.nil 3) .nil)))))
  have m0 := (pSMakeO (L := lS0) (c := cS0) ⟨by decide, by decide⟩ co_S0 wr_S0 cok_S0).wk (.cons (.refl _) (.cons wc .nil)) (.refl _)
  rw [dawg_S0] at m0
  have m1 := (pSMakeW (L := lS1) (c := cS0) ⟨by decide, by decide⟩ co_S0 (by rw [wr_S1]; decide)).wk (.cons (.refl _) (.cons wc .nil)) (.refl _)
  rw [wr_S1] at m1
  have m2 := (pSMakeR (L := []) (c := cS1) ⟨by decide, by decide⟩ co_S1 (by decide +kernel) cok_S1).wk (as' := [.nils, .agg [.int .u64 0, .int .u64 18446744073709551615, .int .u64 0, .int .u64 0, .nils]]) (.cons (.nil 1) (.cons wc1 .nil)) (.refl _)
  have w0 := pSWords (l := sS0) (c := cS0) ok_S0 co_S0
  rw [show swW sS0 cS0 = lS0 by decide +kernel, show shE sS0 cS0 = 0 by decide +kernel] at w0
  have w1 := (pSWords (l := []) (c := ⟨0, 0, 0, 0, []⟩) ok_S1 co_S2).wk (as' := [im0]) (.cons (.agg (.cons (.nil 2) (.cons (.refl _) (.cons (.refl _) (.cons (.refl _) (.cons (.refl _) (.cons (.nil 3) .nil))))))) .nil) (.refl _)
  rw [show swW [] ⟨0, 0, 0, 0, []⟩ = [] by decide +kernel, show shE [] ⟨0, 0, 0, 0, []⟩ = 100 by decide +kernel] at w1
  have s0 := rSameW (a := lS0) (b := lS0) ⟨by decide, by decide⟩ ⟨by decide, by decide⟩
  rw [decide_eq_true rfl] at s0
  have k0 := pSCheck (l := sS0) (c := cS0) ok_S0 co_S0
  rw [show shE sS0 cS0 = 0 by decide +kernel] at k0
  have k1 := (pSCheck (l := [⟨true, []⟩]) (c := cS0) ok_S2 co_S0).wk (as' := [.agg [.sl 2 [.agg [.bool true, .nils]], .int .u64 1, .int .u64 1, .int .u64 1, .int .u64 1, .nils]]) (.cons (.agg (.cons (.sl (.cons (.agg (.cons (.refl _) (.cons (.nil 2) .nil))) .nil)) (.cons (.refl _) (.cons (.refl _) (.cons (.refl _) (.cons (.refl _) (.cons (.nil 3) .nil))))))) .nil) (.refl _)
  rw [show shE [⟨true, []⟩] cS0 = 90 by decide +kernel] at k1
  simp only [lS0, lS1, iss, is, List.map_cons, List.map_nil, im, im0, cS0, rs, sS0, stas, sta, ars, ar] at m0 m1 m2 w0 w1 s0 k0 k1
  refine Sound.run (N := 82) Tryz.func28 rfl (by kernel_rfl) rfl rfl rfl (by exact args0_0) fun X_ w_ => ?_
  have c0_ := m0; have c1_ := w0; have c2_ := m1; have c3_ := m2; have c4_ := w1; repeat ((fail_if_success (with_reducible show WP _ _ (.region 7 _ _) _ _)); first | with_reducible exact Ev.nil | with_reducible exact gd_n | ((with_reducible apply lk_ok); rfl) | ((with_reducible apply gslot_ok); rfl) | ((with_reducible apply v2d_ok); rfl) | with_reducible apply then_n | with_reducible apply WP_seq | with_reducible apply WP_skip | ((with_reducible apply WP_r (N := 82) rfl rfl); (focus simp only [Nat.reduceAdd] <;> rfl)) | ((with_reducible apply WP_d (N := 82) mixed rfl rfl); (focus simp only [Nat.reduceAdd] <;> rfl)) | ((with_reducible apply Ev_s); (focus first | (apply gd_u; (focus rfl); rfl) | (apply gd_f; (focus rfl); (focus rfl); rfl))) | ((with_reducible apply Ev_sn); (focus first | (apply gd_u; (focus rfl); rfl) | (apply gd_f; (focus rfl); (focus rfl); rfl))) | with_reducible apply gd_t | with_reducible apply Ev_mv | with_reducible apply Ev_as | with_reducible apply Ev_mc | with_reducible apply Ev_ac | ((first | (with_reducible apply Ev_pt) | (with_reducible apply Ev_ptc)); (focus rfl)) | ((first | (with_reducible apply Ev_pf) | (with_reducible apply Ev_pfc)); (focus rfl)) | (apply Ev_cf; (focus simp (disch := omega) only [go_sem] <;> rfl); (focus first | exact c0_ | exact c1_ | exact c2_ | exact c3_ | exact c4_); (focus rfl); (focus first | (simp (disch := omega) only [go_sem] <;> rfl) | rfl)) | ((with_reducible apply Ev_d); (focus simp only [Nat.reduceAdd] <;> rfl); (focus simp (disch := omega) only [go_sem] <;> rfl)) | (apply Ev_cv; (focus rfl); (focus simp (disch := omega) only [go_sem] <;> rfl); (focus first | exact c0_ | exact c1_ | exact c2_ | exact c3_ | exact c4_); (iterate 3 (focus first | (simp (disch := omega) only [go_sem] <;> rfl) | rfl))) | ((first | apply Ev_cmd | apply Ev_cmn); (focus simp only [Nat.reduceAdd] <;> rfl); (focus rfl); (iterate 2 (focus simp (disch := omega) only [go_sem] <;> rfl)); (first | ((focus first | exact c0_ | exact c1_ | exact c2_ | exact c3_ | exact c4_); (iterate 2 (focus first | (simp (disch := omega) only [go_sem] <;> rfl) | rfl)); (focus rfl); (iterate 3 (focus first | (simp (disch := omega) only [go_sem] <;> rfl) | rfl))))) | ((first | (with_reducible apply Ev_od) | (with_reducible apply Ev_on)); (focus simp only [Nat.reduceAdd] <;> rfl); (focus simp (disch := omega) only [go_sem] <;> rfl); (focus first | (simp (disch := omega) only [go_sem] <;> rfl) | rfl)) | with_reducible apply endM_n | with_reducible apply endM_r | with_reducible apply then_r | with_reducible apply then_x | with_reducible apply block_n | with_reducible apply block_r | with_reducible apply block_x | with_reducible apply block_y rfl | with_reducible apply scope_n | with_reducible apply scope_r | with_reducible apply scope_x | with_reducible apply end_n | with_reducible apply end_r | with_reducible apply WP_block | with_reducible apply WP_exit | with_reducible apply WP_ret | with_reducible apply WP_label | with_reducible apply WP_scope | ((with_reducible apply WP_t); (focus first | (simp (disch := omega) only [go_sem] <;> rfl) | rfl)) | ((with_reducible apply WP_f); (focus first | (simp (disch := omega) only [go_sem] <;> rfl) | rfl)) | ((with_reducible apply resD_t); (focus rfl)) | ((with_reducible apply resD_2); (focus rfl); (focus rfl)) | (with_reducible rfl) | ((with_reducible show List.map outKeys _ = _); simp only [List.map_cons, List.map_nil, outKeys, keys]; rfl) | ((with_reducible show orderOk _ _ = true); kernel_rfl) | ((with_reducible show _ = _); simp (disch := omega) only [go_sem] <;> rfl) | ((fail_if_success (with_reducible show Ev _ _ _ _ (_ :: _) _ _ _ _ _)); (show Ev _ _ _ _ (_ :: _) _ _ _ _ _)) | fail)
  have c0_ := s0; have c1_ := k0; have c2_ := k1; refine goT ?_; try exact trivial
def fewI (l : List Sta) (c : Co) : Bool := fewA l 500 && fewR c.rules 300
theorem pFewI {l : List Sta} {c : Co} (hl : StaOk l) (hc : c.ok) : Sound Tryz.prog 29 [im l c] (.bool (fewI l c)) := by
  have c1 := pFewA (n := 500) hl (by omega)
  have c2 := rFewR (n := 300) hc.2.2.2.2.1 hc.2.2.2.2.2
  unfold fewI im
  cases h : fewA l 500
  · rw [h] at c1
    rw [Bool.false_and]
    refine Sound.run (N := 14) Tryz.func29 rfl (by kernel_rfl) rfl rfl rfl (by exact args0_1) fun X_ w_ => ?_
    have c0_ := c1; refine goT ?_; try exact trivial
  · rw [h] at c1
    rw [Bool.true_and]
    generalize fewR c.rules 300 = b at c2 ⊢
    refine Sound.run (N := 14) Tryz.func29 rfl (by kernel_rfl) rfl rfl rfl (by exact args0_1) fun X_ w_ => ?_
    have c0_ := c1; have c1_ := c2; refine goT ?_; try exact trivial
theorem lawSCosts {l : List Sta} {x c : Co} (hl : StaOk l) (hx : x.ok) (hc : c.ok) : Sound Tryz.prog 7 [im l x, co c] (.bool true) := by
  have aw := shapeAwake
  have f1 := pFewI hl hx
  have f2 := pFewI hl hc
  have w1 := pSWords hl hx
  have w2 := pSWords hl hc
  have ct := pCheckA hl
  have k1 := sCheck hx
  have k2 := sCheck hc
  have e60 : ∀ {y : Co}, achk l = true → (cok y = false ∧ shE l y = 60 ∨ cok y = true ∧ shE l y ≠ 60) := fun {y} ha => by
    unfold shE
    rw [ha]
    cases hy : cok y
    · exact .inl ⟨rfl, by simp⟩
    · right
      refine ⟨rfl, ?_⟩
      simp only [Bool.true_eq_false, if_false]
      repeat' split
      all_goals omega
  have hS := rSameW (wsW_ok l).2.1 (wsW_ok l).2.1
  rw [decide_eq_true rfl] at hS
  have hS0 := rSameW (a := []) (b := []) ⟨by decide, by decide⟩ ⟨by decide, by decide⟩
  rw [decide_eq_true rfl] at hS0
  cases g1 : fewI l x
  · rw [g1] at f1
    unfold im co at *
    refine Sound.run (N := 86) Tryz.func7 rfl (by kernel_rfl) rfl rfl rfl (by exact args0_2) fun X_ w_ => ?_
    have c0_ := aw; have c1_ := f1; refine goT ?_; try exact trivial
  rw [g1] at f1
  cases g2 : fewI l c
  · rw [g2] at f2
    unfold im co at *
    refine Sound.run (N := 86) Tryz.func7 rfl (by kernel_rfl) rfl rfl rfl (by exact args0_2) fun X_ w_ => ?_
    have c0_ := aw; have c1_ := f1; have c2_ := f2; refine goT ?_; try exact trivial
  rw [g2] at f2
  cases ha : achk l
  · have e1 : ∀ y, shE l y = 100 := fun y => by unfold shE; rw [ha]; rfl
    have e2 : ∀ y, swW l y = [] := fun y => if_neg (by rw [e1]; decide)
    rw [e1, e2] at w1 w2
    rw [ha] at ct
    unfold im co at *
    refine Sound.run (N := 86) Tryz.func7 rfl (by kernel_rfl) rfl rfl rfl (by exact args0_2) fun X_ w_ => ?_
    have c0_ := aw; have c1_ := f1; have c2_ := f2; have c3_ := w1; have c4_ := w2; have c5_ := ct; refine goT ?_; try exact trivial
  rw [ha] at ct
  by_cases hk : cok x = true ∧ cok c = true
  · have e : shE l x = shE l c := by unfold shE; rw [hk.1, hk.2]
    have e2 : swW l x = swW l c := by unfold swW; rw [e]
    rw [e, e2] at w1
    rw [hk.1] at k1
    rw [hk.2] at k2
    have hS2 : Sound Tryz.prog 22 [.sl 1 (iss (swW l c)), .sl 1 (iss (swW l c))] (.bool true) := by
      unfold swW
      split
      · exact hS
      · exact hS0
    generalize swW l c = W at *
    generalize shE l c = e0 at *
    unfold im co at *
    refine Sound.run (N := 86) Tryz.func7 rfl (by kernel_rfl) rfl rfl rfl (by exact args0_2) fun X_ w_ => ?_
    have c0_ := aw; have c1_ := f1; have c2_ := f2; have c3_ := w1; have c4_ := w2; have c5_ := ct; have c6_ := k1; have c7_ := k2; have c8_ := hS2; refine goT ?_; try exact trivial
  · generalize swW l x = W1 at *
    generalize swW l c = W2 at *
    rcases e60 (y := x) ha with ⟨h1, h2⟩ | ⟨h1, h2⟩
    · rcases e60 (y := c) ha with ⟨h3, h4⟩ | ⟨h3, h4⟩
      · rw [h1] at k1
        rw [h3] at k2
        rw [h2] at w1
        rw [h4] at w2
        unfold im co at *
        refine Sound.run (N := 86) Tryz.func7 rfl (by kernel_rfl) rfl rfl rfl (by exact args0_2) fun X_ w_ => ?_
        have c0_ := aw; have c1_ := f1; have c2_ := f2; have c3_ := w1; have c4_ := w2; have c5_ := ct; have c6_ := k1; have c7_ := k2; refine goT ?_; try exact trivial
      · rw [h1] at k1
        rw [h3] at k2
        rw [h2] at w1
        generalize shE l c = e2 at *
        unfold im co at *
        refine Sound.run (N := 86) Tryz.func7 rfl (by kernel_rfl) rfl rfl rfl (by exact args0_2) fun X_ w_ => ?_
        have c0_ := aw; have c1_ := f1; have c2_ := f2; have c3_ := w1; have c4_ := w2; have c5_ := ct; have c6_ := k1; have c7_ := k2; refine goT ?_; try exact trivial
    · rcases e60 (y := c) ha with ⟨h3, h4⟩ | ⟨h3, h4⟩
      · rw [h1] at k1
        rw [h3] at k2
        rw [h4] at w2
        generalize shE l x = e1 at *
        unfold im co at *
        refine Sound.run (N := 86) Tryz.func7 rfl (by kernel_rfl) rfl rfl rfl (by exact args0_2) fun X_ w_ => ?_
        have c0_ := aw; have c1_ := f1; have c2_ := f2; have c3_ := w1; have c4_ := w2; have c5_ := ct; have c6_ := k1; have c7_ := k2; refine goT ?_; try exact trivial
      · exact absurd ⟨h1, h3⟩ hk
end Go.Eng.Tryz

/- The words of an automaton from one on: as told, and as the law tells them. (and what stands behind it: texts laid together) -/
import Derived.Test.YtbnhblimckdcgabGreatMG4
import Derived.Test.YtbnhblimckdcgabGreatMR18
import Derived.Test.YtbnhblimckdcgabGreatMR16
import Derived.Test.YtbnhblimckdcgabGreatMR3
import Derived.Test.YtbnhblimckdcgabGreatMR5
import Derived.Test.YtbnhblimckdcgabGreatMR11
set_option linter.unusedVariables false
set_option linter.unusedSimpArgs false
namespace Go.Eng.Tryz
open Go Go.Eng Go.Proofs Go.RowKit
attribute [local go_sem] tys
attribute [local go_sem] is_len is_get ars_len ars_get stas_len stas_get iss_len iss_get dels
theorem iss_nilW : iss [] = [] := rfl
theorem iss_snocW {l : List (List Int)} {w : List Int} : iss l ++ [.sl 1 (is w)] = iss (l ++ [w]) := by simp [iss]
set_option maxHeartbeats 4000000 in
set_option maxRecDepth 10000 in
theorem pWords1 {l : List Sta} {f : List Int} {Y : Ym} {m : Nat} {b : Bool} {o : List (List Int)} {st : LSt} (hy : TakesW Y m) (hm : m ≤ 300) (hl : StaOk l) (hka : achk l = true) (hf : f.length ≤ 9223372036854775807) (hR : WkR m [] (wordsF l f) b o st) :
    SoundM Tryz.prog 72 [.yld 0, .dref [.sl 2 (stas l)], .dref [.sl 1 (is f)]] (StW Y m [] .ready) (.tup []) (StW Y m o st) 4 := by
  have ct := pToldM hl hka
  have hl0 := (achk_iff.1 hka).2.1
  have cw := pWalk hy hm hl hka hf l.length 0 [] [] b o st hl0 (by omega) (Nat.le_refl _) (Nat.zero_le _) hR
  have cw2 : SoundM Tryz.prog 73 [.ref 0 0, .d (.int .i64 0), .d .nils] (WkH Y m l f [] .ready) (.d (.bool b)) (WkH Y m l f o st) 5 := by
    refine SoundK.wk cw rfl fun i a a' h h' => ?_
    match i with
    | 0 => simp at h h'; subst h; subst h'; exact .inl rfl
    | 1 => simp at h h'; subst h; subst h'; exact .inl rfl
    | 2 => simp at h h'; subst h; subst h'; exact .inr ⟨_, _, rfl, rfl, .nil 1⟩
    | i + 3 => simp at h
  unfold WkH at cw2
  unfold StW
  refine SoundM.run (N := 14) (ks := [0, 1, 2, 3]) Tryz.func72 rfl (by kernel_rfl) rfl rfl rfl (by first | exact argsA_0 | exact argsA_1 | exact argsA_2 | exact argsA_3 | exact argsA_4 | exact argsA_5 | exact argsA_6) fun X_ ν_ w_ => ?_
  have c0_ := ct; have c1_ := cw2; refine goT ?_; first | exact trivial | skip
set_option maxHeartbeats 4000000 in
set_option maxRecDepth 10000 in
theorem pWordsFn {l : List Sta} {f : List Int} : SoundM Tryz.prog 50 [.d (.sl 2 (stas l)), .d (.sl 1 (is f))] [] (.fn 72 [.dref [.sl 2 (stas l)], .dref [.sl 1 (is f)]]) [] 0 := by
  have h : SoundM Tryz.prog 50 [.d (.sl 2 (stas l)), .d (.sl 1 (is f))] [] (.fn 72 [.ref 0 0, .ref 1 0]) [(0, .var [.d (.sl 2 (stas l))]), (1, .var [.d (.sl 1 (is f))])] 0 := by
    refine SoundM.run (N := 6) (ks := [0, 1]) Tryz.func50 rfl (by kernel_rfl) rfl rfl rfl (by first | exact argsA_0 | exact argsA_1 | exact argsA_2 | exact argsA_3 | exact argsA_4 | exact argsA_5 | exact argsA_6) fun X_ ν_ w_ => ?_
    refine goT ?_; first | exact trivial | skip
  exact h.freeze rfl
def fromE (l : List Sta) (n : Int) : Int := if achk l = true then (if 0 ≤ n ∧ n ≤ 300 then 0 else 1) else 100
def fromW (l : List Sta) (f : List Int) (n : Int) : List (List Int) := if achk l = true ∧ 0 ≤ n ∧ n ≤ 300 then (wordsF l f).take n.toNat else []
set_option maxHeartbeats 8000000 in
set_option maxRecDepth 10000 in
theorem pFrom {l : List Sta} {f : List Int} {n : Int} (hl : StaOk l) (hf : f.length ≤ 9223372036854775807) : Sound Tryz.prog 30 [.sl 2 (stas l), .sl 1 (is f), .int .i64 n] (.tup [.sl 1 (iss (fromW l f n)), .int .i64 (fromE l n)]) := by
  have cch := pCheckA hl
  cases hka : achk l
  · have e1 : fromW l f n = [] := if_neg (by rw [hka]; simp)
    have e2 : fromE l n = 100 := if_neg (by rw [hka]; simp)
    rw [e1, e2]
    rw [hka] at cch
    refine Sound.wk (r := .tup [.nils, .int .i64 100]) ?_ (Wks.refl _) (.tup (.cons (.nil 1) (.cons (.refl _) .nil)))
    refine Sound.run (N := 33) Tryz.func30 rfl (by kernel_rfl) rfl rfl rfl (by first | exact args0_0 | exact args0_1 | exact args0_2 | exact args0_3 | exact args0_4 | exact args0_5 | exact args0_6) fun X_ w_ => ?_
    have c0_ := cch; refine goT ?_; first | exact trivial | skip
  rw [hka] at cch
  by_cases h0 : n < 0
  · have e1 : fromW l f n = [] := if_neg (by omega)
    have e2 : fromE l n = 1 := by unfold fromE; rw [if_pos hka, if_neg (by omega)]
    rw [e1, e2]
    refine Sound.wk (r := .tup [.nils, .int .i64 1]) ?_ (Wks.refl _) (.tup (.cons (.nil 1) (.cons (.refl _) .nil)))
    refine Sound.run (N := 33) Tryz.func30 rfl (by kernel_rfl) rfl rfl rfl (by first | exact args0_0 | exact args0_1 | exact args0_2 | exact args0_3 | exact args0_4 | exact args0_5 | exact args0_6) fun X_ w_ => ?_
    have c0_ := cch; refine goT ?_; first | exact trivial | skip
  by_cases h1 : 300 < n
  · have e1 : fromW l f n = [] := if_neg (by omega)
    have e2 : fromE l n = 1 := by unfold fromE; rw [if_pos hka, if_neg (by omega)]
    rw [e1, e2]
    refine Sound.wk (r := .tup [.nils, .int .i64 1]) ?_ (Wks.refl _) (.tup (.cons (.nil 1) (.cons (.refl _) .nil)))
    refine Sound.run (N := 33) Tryz.func30 rfl (by kernel_rfl) rfl rfl rfl (by first | exact args0_0 | exact args0_1 | exact args0_2 | exact args0_3 | exact args0_4 | exact args0_5 | exact args0_6) fun X_ w_ => ?_
    have c0_ := cch; refine goT ?_; first | exact trivial | skip
  obtain ⟨m, rfl⟩ := Int.eq_ofNat_of_zero_le (by omega : 0 ≤ n)
  have e1 : fromW l f m = (wordsF l f).take m := if_pos ⟨hka, by omega, by omega⟩
  have e2 : fromE l m = 0 := by unfold fromE; rw [if_pos hka, if_pos ⟨by omega, by omega⟩]
  rw [e1, e2]
  have cm := pWordsFn (l := l) (f := f)
  have hm : m ≤ 300 := by omega
  have hT : ∀ (al bl : Code), (∀ (out : List (List Int)) (w : List Int), out.length < m → w.length ≤ 6001 → SoundY Tryz.prog [.yld 0, .d (.sl 1 (is w))] (StW ⟨33, #[23], al, bl⟩ m out .ready) (.d (.bool true)) (StW ⟨33, #[23], al, bl⟩ m (out ++ [w]) .ready) 4) → (∀ (out : List (List Int)) (w : List Int), out.length = m → SoundY Tryz.prog [.yld 0, .d (.sl 1 (is w))] (StW ⟨33, #[23], al, bl⟩ m out .ready) (.d (.bool false)) (StW ⟨33, #[23], al, bl⟩ m out (.done (.exit 1))) 4) → TakesW ⟨33, #[23], al, bl⟩ m := fun al bl h1 h2 => ⟨h1, h2⟩
  by_cases hfit : (wordsF l f).length ≤ m
  · rw [List.take_of_length_le hfit]
    have hR : WkR m [] (wordsF l f) true (wordsF l f) .ready := ⟨fun _ => ⟨rfl, rfl, rfl⟩, fun h => by simp at h; omega⟩
    refine Sound.run (N := 33) Tryz.func30 rfl (by kernel_rfl) rfl rfl rfl (by first | exact args0_0 | exact args0_1 | exact args0_2 | exact args0_3 | exact args0_4 | exact args0_5 | exact args0_6) fun X_ w_ => ?_
    have c0_ := cch; have c1_ := cm; refine goT ?_; first | exact trivial | skip
    refine WP_ownv 1 0 60000 26 1 rfl rfl (by decide) (by decide) (by simp (disch := omega) only [go_sem]; rfl) ?_
    refine WP_keepd [5, 6, 22] [0, 1, 60000] 60001 (Nat.le_of_ble_eq_true rfl) (by simp (disch := omega) only [go_sem, keepL, List.set_cons_zero, List.set_cons_succ] <;> rfl) (by simp (disch := omega) only [go_sem, keepL, List.set_cons_zero, List.set_cons_succ] <;> rfl) rfl rfl ?_
    refine WP_rangeR (cs := [(6, .ref 1 0), (5, .ref 0 0)]) rfl rfl rfl (by simp (disch := omega) only [go_sem, envOk]) rfl rfl (by simp (disch := omega) only [go_sem, StW, iss_nilW, List.length_nil]; rfl) (pWords1 (Y := ⟨33, #[23], _, _⟩) ?hy hm hl hka hf hR) rfl (by first | (simp (disch := omega) only [go_sem, StW, iss_nilW, List.length_nil] <;> rfl) | rfl) (by first | (simp (disch := omega) only [go_sem, StW, iss_nilW, List.length_nil] <;> rfl) | rfl) rfl (by first | (simp (disch := omega) only [go_sem, StW, iss_nilW, List.length_nil] <;> rfl) | rfl) (by first | (simp (disch := omega) only [go_sem, StW, iss_nilW, List.length_nil] <;> rfl) | rfl) (by first | (simp (disch := omega) only [go_sem, StW, iss_nilW, List.length_nil] <;> rfl) | rfl) ?_
    · refine hT _ _ (fun out w hx hw => ?_) (fun out w hx => ?_)
      · unfold StW
        refine SoundY.run (N := 33) (ps := [23]) (ks := [0, 1, 2, 3]) rfl rfl rfl rfl rfl (by simp (disch := omega) only [go_sem]; rfl) fun l_ X_ ν_ w_ => ?_; dsimp only
        refine goT ?_; first | exact trivial | skip
        refine round_b (by simp (disch := omega) only [go_sem] <;> rfl) (by simp (disch := omega) only [go_sem] <;> rfl) ?_; dsimp only
        refine goX @iss_snocW ?_; first | exact trivial | skip
      · unfold StW
        refine SoundY.run (N := 33) (ps := [23]) (ks := [0, 1, 2, 3]) rfl rfl rfl rfl rfl (by simp (disch := omega) only [go_sem]; rfl) fun l_ X_ ν_ w_ => ?_; dsimp only
        refine goT ?_; first | exact trivial | skip
        refine round_b (by simp (disch := omega) only [go_sem] <;> rfl) (by simp (disch := omega) only [go_sem] <;> rfl) ?_; dsimp only
        refine goX @hx ?_; first | exact trivial | skip
    · refine goT ?_; first | exact trivial | skip
  · have hR : WkR m [] (wordsF l f) false ((wordsF l f).take m) (.done (.exit 1)) := ⟨fun h => by simp at h; omega, fun _ => ⟨rfl, rfl, rfl⟩⟩
    generalize (wordsF l f).take m = W at *
    refine Sound.run (N := 33) Tryz.func30 rfl (by kernel_rfl) rfl rfl rfl (by first | exact args0_0 | exact args0_1 | exact args0_2 | exact args0_3 | exact args0_4 | exact args0_5 | exact args0_6) fun X_ w_ => ?_
    have c0_ := cch; have c1_ := cm; refine goT ?_; first | exact trivial | skip
    refine WP_ownv 1 0 60000 26 1 rfl rfl (by decide) (by decide) (by simp (disch := omega) only [go_sem]; rfl) ?_
    refine WP_keepd [5, 6, 22] [0, 1, 60000] 60001 (Nat.le_of_ble_eq_true rfl) (by simp (disch := omega) only [go_sem, keepL, List.set_cons_zero, List.set_cons_succ] <;> rfl) (by simp (disch := omega) only [go_sem, keepL, List.set_cons_zero, List.set_cons_succ] <;> rfl) rfl rfl ?_
    refine WP_rangeX (cs := [(6, .ref 1 0), (5, .ref 0 0)]) rfl rfl rfl (by simp (disch := omega) only [go_sem, envOk]) rfl rfl (by simp (disch := omega) only [go_sem, StW, iss_nilW, List.length_nil]; rfl) (pWords1 (Y := ⟨33, #[23], _, _⟩) ?hy2 hm hl hka hf hR) rfl (by first | (simp (disch := omega) only [go_sem, StW, iss_nilW, List.length_nil] <;> rfl) | rfl) (by first | (simp (disch := omega) only [go_sem, StW, iss_nilW, List.length_nil] <;> rfl) | rfl) rfl (by first | (simp (disch := omega) only [go_sem, StW, iss_nilW, List.length_nil] <;> rfl) | rfl) (by first | (simp (disch := omega) only [go_sem, StW, iss_nilW, List.length_nil] <;> rfl) | rfl) (by first | (simp (disch := omega) only [go_sem, StW, iss_nilW, List.length_nil] <;> rfl) | rfl) ?_
    · refine hT _ _ (fun out w hx hw => ?_) (fun out w hx => ?_)
      · unfold StW
        refine SoundY.run (N := 33) (ps := [23]) (ks := [0, 1, 2, 3]) rfl rfl rfl rfl rfl (by simp (disch := omega) only [go_sem]; rfl) fun l_ X_ ν_ w_ => ?_; dsimp only
        refine goT ?_; first | exact trivial | skip
        refine round_b (by simp (disch := omega) only [go_sem] <;> rfl) (by simp (disch := omega) only [go_sem] <;> rfl) ?_; dsimp only
        refine goX @iss_snocW ?_; first | exact trivial | skip
      · unfold StW
        refine SoundY.run (N := 33) (ps := [23]) (ks := [0, 1, 2, 3]) rfl rfl rfl rfl rfl (by simp (disch := omega) only [go_sem]; rfl) fun l_ X_ ν_ w_ => ?_; dsimp only
        refine goT ?_; first | exact trivial | skip
        refine round_b (by simp (disch := omega) only [go_sem] <;> rfl) (by simp (disch := omega) only [go_sem] <;> rfl) ?_; dsimp only
        refine goX @hx ?_; first | exact trivial | skip
    · refine goT ?_; first | exact trivial | skip
end Go.Eng.Tryz
set_option linter.unusedVariables false
set_option linter.unusedSimpArgs false
namespace Go.Eng.Tryz
open Go Go.Eng Go.Proofs Go.RowKit
attribute [local go_sem] tys
attribute [local go_sem] is_len is_get ars_len ars_get stas_len stas_get is_setZ is_repZ iss_len iss_get
def wsW (l : List Sta) : List (List Int) := if manyN l ≤ 300 then fromW l [] 300 else []
def wsE (l : List Sta) : Int := if manyN l ≤ 300 then fromE l 300 else 81
set_option maxHeartbeats 8000000 in
set_option maxRecDepth 10000 in
theorem pWordsW {l : List Sta} (hl : StaOk l) : Sound Tryz.prog 9 [.sl 2 (stas l)] (.tup [.sl 1 (iss (wsW l)), .int .i64 (wsE l)]) := by
  have cm := pManyW hl
  by_cases h : manyN l ≤ 300
  · have e1 : wsW l = fromW l [] 300 := if_pos h
    have e2 : wsE l = fromE l 300 := if_pos h
    rw [e1, e2]
    have cw : Sound Tryz.prog 30 [.sl 2 (stas l), .nils, .int .i64 300] (.tup [.sl 1 (iss (fromW l [] 300)), .int .i64 (fromE l 300)]) := (pFrom (f := []) (n := 300) hl (Nat.zero_le _)).wk (.cons (.refl _) (.cons (.nil 1) (.cons (.refl _) .nil))) (.refl _)
    refine Sound.run (N := 11) Tryz.func9 rfl (by kernel_rfl) rfl rfl rfl (by first | exact args0_0 | exact args0_1 | exact args0_2 | exact args0_3 | exact args0_4 | exact args0_5 | exact args0_6) fun X_ w_ => ?_
    have c0_ := cm; have c1_ := cw; refine goT ?_; first | exact trivial | skip
  · have e1 : wsW l = [] := if_neg h
    have e2 : wsE l = 81 := if_neg h
    rw [e1, e2]
    refine Sound.wk (r := .tup [.nils, .int .i64 81]) ?_ (Wks.refl _) (.tup (.cons (.nil 1) (.cons (.refl _) .nil)))
    refine Sound.run (N := 11) Tryz.func9 rfl (by kernel_rfl) rfl rfl rfl (by first | exact args0_0 | exact args0_1 | exact args0_2 | exact args0_3 | exact args0_4 | exact args0_5 | exact args0_6) fun X_ w_ => ?_
    have c0_ := cm; refine goT ?_; first | exact trivial | skip
/-! ### Words alike -/
theorem take_next {a b : List (List Int)} {k : Nat} (hk : k < a.length) (hk2 : k < b.length) (h : a.take k = b.take k) (e : a[k]! = b[k]!) : a.take (k + 1) = b.take (k + 1) := by
  rw [List.take_add_one, List.take_add_one, h, List.getElem?_eq_getElem hk, List.getElem?_eq_getElem hk2, ← getElem!_pos a k hk, ← getElem!_pos b k hk2, e]
theorem lead_len {l : List Sta} (hka : achk l = true) : ∀ (u : List Int) (k t : Int), leadF l k u = some t → k + u.length ≤ t
  | [], k, t, h => by simp only [leadF, Option.some.injEq] at h; subst h; simp
  | z :: u, k, t, h => by
    simp only [leadF] at h
    split at h
    · rename_i s hs
      have h1 := (stepF_in hka hs).2.2.1
      have := lead_len hka u s t h
      simp only [List.length_cons]
      omega
    · cases h
theorem wordsF_len {l : List Sta} (hka : achk l = true) {f x : List Int} (h : x ∈ wordsF l f) : x.length ≤ 6001 := by
  obtain ⟨u, t, e, e1, e2, e3⟩ := wf_lead hka _ _ _ (achk_iff.1 hka).2.1 x h
  simp only [List.nil_append] at e
  subst e
  have h1 := lead_len hka _ _ _ e1
  have h2 := (leadF_in hka (Int.le_refl 0) (by have := (achk_iff.1 hka).2.1; omega) e1).2.1
  have h3 := (achk_iff.1 hka).2.2
  have h4 : ((0 : Nat) : Int) = 0 := rfl
  omega
theorem fromW_ok (l : List Sta) (f : List Int) (n : Int) : (fromW l f n).length ≤ 300 ∧ WsOk (fromW l f n) ∧ ∀ w ∈ fromW l f n, w.length ≤ 6001 := by
  unfold fromW
  split
  · rename_i h
    have h1 : ((wordsF l f).take n.toNat).length ≤ 300 := by rw [List.length_take]; omega
    have h2 : ∀ w ∈ (wordsF l f).take n.toNat, w.length ≤ 6001 := fun w hw => wordsF_len h.1 (List.mem_of_mem_take hw)
    exact ⟨h1, ⟨by omega, fun w hw => by have := h2 w hw; omega⟩, h2⟩
  · exact ⟨by simp, ⟨by simp, fun w hw => by cases hw⟩, fun w hw => by cases hw⟩
theorem wsW_ok (l : List Sta) : (wsW l).length ≤ 300 ∧ WsOk (wsW l) ∧ ∀ w ∈ wsW l, w.length ≤ 6001 := by
  unfold wsW
  split
  · exact fromW_ok l [] 300
  · exact ⟨by simp, ⟨by simp, fun w hw => by cases hw⟩, fun w hw => by cases hw⟩
end Go.Eng.Tryz
set_option linter.unusedVariables false
set_option linter.unusedSimpArgs false
namespace Go.Eng.Tryz
open Go Go.Eng Go.Proofs Go.RowKit
theorem stepF_arc {l : List Sta} (hka : achk l = true) {k : Nat} {z t : Int} (h : stepF l k z = some t) : k < l.length ∧ ∃ a ∈ (l[k]!).arcs, a.sign = z ∧ a.to = t := by
  have hin := stepF_in hka h
  unfold stepF at h
  rw [if_pos ⟨by omega, by omega⟩, Int.toNat_natCast] at h
  obtain ⟨a, ha, h2⟩ := Option.map_eq_some_iff.1 h
  refine ⟨by omega, a, List.mem_of_find?_eq_some ha, ?_, h2⟩
  have := List.find?_some ha
  simpa [sgn] using this
/-- Each word of an automaton is told. -/
theorem wf_mem {l : List Sta} (hka : achk l = true) : ∀ (n : Nat) (u : List Int) (k : Nat) (w : List Int) (t : Int), k < l.length → l.length ≤ n + k → leadF l k u = some t → (l[t.toNat]!).final = true → w ++ u ∈ wf l [] n k w := by
  intro n
  induction n with
  | zero => intro u k w t h1 h2; omega
  | succ n ih =>
    intro u k w t h1 h2 h3 h4
    cases u with
    | nil =>
      simp only [leadF, Option.some.injEq] at h3
      subst h3
      simp only [wf, List.mem_append]
      left
      rw [if_pos ⟨by simpa using h4, wcmp_nil w⟩]
      simp
    | cons z u =>
      simp only [leadF] at h3
      cases hs : stepF l k z with
      | none => rw [hs] at h3; cases h3
      | some t1 =>
        rw [hs] at h3
        simp only at h3
        have hin := stepF_in hka hs
        obtain ⟨_, a, hm, hz, ht⟩ := stepF_arc hka hs
        obtain ⟨j, hj⟩ : ∃ j : Nat, t1 = j := ⟨t1.toNat, by omega⟩
        subst hj
        have := ih u j (w ++ [z]) t (by omega) (by omega) h3 h4
        simp only [wf, List.mem_append, List.mem_flatMap]
        right
        refine ⟨a, hm, ?_⟩
        rw [cutW_nil, hz, ht, Int.toNat_natCast]
        simpa using this
theorem wordsF_mem {l : List Sta} (hka : achk l = true) {u : List Int} {t : Int} (h1 : leadF l 0 u = some t) (h2 : (l[t.toNat]!).final = true) : u ∈ wordsF l [] := by
  have := wf_mem hka l.length u 0 [] t (achk_iff.1 hka).2.1 (by omega) h1 h2
  simpa [wordsF] using this
theorem deep_ge {out : List Int} : ∀ (al : List Ar) (m : Int), m ≤ al.foldl (deep1 out) m ∧ ∀ a ∈ al, 0 ≤ out[a.to.toNat]! → out[a.to.toNat]! + 1 ≤ al.foldl (deep1 out) m
  | [], m => ⟨Int.le_refl _, fun a h => (by cases h)⟩
  | b :: al, m => by
    obtain ⟨h1, h2⟩ := deep_ge (out := out) al (deep1 out m b)
    simp only [List.foldl_cons]
    have hb : m ≤ deep1 out m b ∧ (0 ≤ out[b.to.toNat]! → out[b.to.toNat]! + 1 ≤ deep1 out m b) := by unfold deep1; split <;> omega
    refine ⟨by omega, fun a ha h0 => ?_⟩
    rcases List.mem_cons.1 ha with rfl | ha
    · have := hb.2 h0; omega
    · exact h2 a ha h0
theorem deep_lead {l : List Sta} (hka : achk l = true) : ∀ (u : List Int) (k : Nat) (t : Int), k < l.length → leadF l k u = some t → (l[t.toNat]!).final = true → (u.length : Int) ≤ (toldI deepF l l.length)[k]! := by
  intro u
  induction u with
  | nil =>
    intro k t hk h1 h2
    simp only [leadF, Option.some.injEq] at h1
    subst h1
    rw [toldI_fix hka deepF_congr l.length (Nat.le_refl _) k (by omega) hk]
    unfold deepF
    rw [Int.toNat_natCast] at h2
    rw [if_pos h2]
    exact (deep_ge _ _).1
  | cons z u ih =>
    intro k t hk h1 h2
    simp only [leadF] at h1
    cases hs : stepF l k z with
    | none => rw [hs] at h1; cases h1
    | some t1 =>
      rw [hs] at h1
      simp only at h1
      have hin := stepF_in hka hs
      obtain ⟨_, a, hm, hz, ht⟩ := stepF_arc hka hs
      obtain ⟨j, hj⟩ : ∃ j : Nat, t1 = j := ⟨t1.toNat, by omega⟩
      subst hj
      have h3 := ih j t (by omega) h1 h2
      rw [toldI_fix hka deepF_congr l.length (Nat.le_refl _) k (by omega) hk]
      have h4 := (deep_ge (out := toldI deepF l l.length) (l[k]!).arcs (if (l[k]!).final = true then 0 else -1)).2 a hm
      rw [ht, Int.toNat_natCast] at h4
      have h5 := h4 (by omega)
      show ((u.length + 1 : Nat) : Int) ≤ (l[k]!).arcs.foldl (deep1 (toldI deepF l l.length)) (if (l[k]!).final = true then 0 else -1)
      omega
theorem words_short {l : List Sta} (hka : achk l = true) {n : Nat} (hd : deepN l ≤ n) {w : List Int} (h : w ∈ wordsF l []) : w.length ≤ n := by
  obtain ⟨u, t, e, e1, e2, e3⟩ := wf_lead hka _ _ _ (achk_iff.1 hka).2.1 w h
  simp only [List.nil_append] at e
  subst e
  have := deep_lead hka w 0 t (achk_iff.1 hka).2.1 e1 e2
  unfold deepN at hd
  rw [if_pos hka] at hd
  omega
/-- A cell that is less than Inf is what a way to finish costs. -/
theorem tg_way {all : List (List Se)} {l : List Sta} {t : List (List Int)} (hS : StepsG all) (hl : achk l = true) (ht : TG all l t) :
    ∀ a b i k, i < all.length → k < l.length → all.length - i = a → l.length - k = b → get2 t i k ≠ 18446744073709551615 →
      ∃ u f, leadF l k u = some f ∧ (l[f.toNat]!).final = true ∧ ∀ (p : List Int) (v : Int), Way all (p ++ u) i p.length v → Way all (p ++ u) (all.length - 1) (p ++ u).length (v + get2 t i k) := by
  intro a
  induction a using Nat.strongRecOn with
  | _ a iha =>
  intro b
  induction b using Nat.strongRecOn with
  | _ b ihb =>
  intro i k hi hk ea eb hne
  have f1 := (ht.fix i k hi hk).1
  have hcell := (cell_le (l := l) (t := t) (i := i) (k := k) (all[i]!) (base all.length l i k)).2.2
  unfold cellT at f1
  rw [← f1] at hcell
  rcases hcell with h | ⟨s, hs, e, he, h⟩
  · have hb : i + 1 = all.length ∧ (l[k]!).final = true := by
      by_cases hb : i + 1 = all.length ∧ (l[k]!).final = true
      · exact hb
      · exfalso
        unfold base at h
        rw [if_neg hb] at h
        exact hne h
    have h0 : get2 t i k = 0 := by rw [h]; unfold base; rw [if_pos hb]
    refine ⟨[], k, rfl, by simpa using hb.2, fun p v hw => ?_⟩
    rw [h0, Int.add_zero]
    have e : all.length - 1 = i := by omega
    rw [e]
    simpa using hw
  · obtain ⟨q1, q2, q3⟩ := behind (t := t) hS hl hi hk hs he
    obtain ⟨s1, s2, s3, s4⟩ := hS i hi s hs
    obtain ⟨g1, g2, _⟩ := endsF_in hl hk he
    have hu := (ht.fix _ _ q1 q2).2
    have hne2 : get2 t (i + s.eat.toNat) e.toNat ≠ 18446744073709551615 := by
      intro h2
      rw [h2] at h
      apply hne
      rw [h]
      unfold cadd U at *
      split <;> omega
    have hadd : get2 t i k = s.cost + get2 t (i + s.eat.toNat) e.toNat := by
      by_cases hc : s.cost + get2 t (i + s.eat.toNat) e.toNat ≤ 18446744073709551615
      · rw [h]; unfold cadd; rw [if_pos hc]
      · exfalso; apply hne; rw [h]; unfold cadd; rw [if_neg hc]
    have ih : ∃ u f, leadF l (e.toNat : Nat) u = some f ∧ (l[f.toNat]!).final = true ∧ ∀ (p : List Int) (v : Int), Way all (p ++ u) (i + s.eat.toNat) p.length v → Way all (p ++ u) (all.length - 1) (p ++ u).length (v + get2 t (i + s.eat.toNat) e.toNat) := by
      rcases q3 with q3 | ⟨q3, q4⟩
      · exact iha (all.length - (i + s.eat.toNat)) (by omega) _ _ _ q1 q2 rfl rfl hne2
      · rw [q3] at hne2 ⊢
        exact ihb (l.length - e.toNat) (by omega) _ _ hi q2 ea rfl hne2
    obtain ⟨u, f, u1, u2, u3⟩ := ih
    have hx : ∃ x, leadF l k x = some e ∧ ∀ (p y : List Int), putsN s (p ++ (x ++ y)) p.length = some x.length := by
      unfold endsF at he
      by_cases ha : s.any = true
      · rw [if_pos ha] at he
        obtain ⟨a, hm, he2⟩ := List.mem_map.1 he
        have hf := arcs_find2 (statesOk_le (achk_iff.1 hl).1 hk) a hm
        refine ⟨[a.sign], ?_, fun p y => ?_⟩
        · simp only [leadF, stepF]
          rw [if_pos ⟨by omega, by omega⟩, Int.toNat_natCast, hf, ← he2]
          rfl
        · unfold putsN
          rw [if_pos ha, if_pos (by simp)]
          rfl
      · rw [if_neg ha] at he
        unfold leadG at he
        rw [if_pos ⟨by omega, by omega⟩] at he
        split at he
        · rename_i t0 h0
          simp only [List.mem_singleton] at he
          refine ⟨s.put, by rw [he]; exact h0, fun p y => ?_⟩
          unfold putsN
          rw [if_neg ha, List.drop_left, List.take_left, if_pos rfl]
        · cases he
    obtain ⟨x, x1, x2⟩ := hx
    refine ⟨x ++ u, f, ?_, u2, fun p v hw => ?_⟩
    · rw [leadF_app, x1]
      have : ((e.toNat : Nat) : Int) = e := by omega
      rw [this] at u1
      exact u1
    · have h1 := hw.step hs hi (x2 p u)
      have h2 := u3 (p ++ x) (v + s.cost) (by rw [List.append_assoc, List.length_append]; exact h1)
      rw [List.append_assoc, Int.add_assoc, ← hadd] at h2
      exact h2
/-- No way by a word costs less than the table tells. -/
theorem way_tg {all : List (List Se)} {l : List Sta} {t : List (List Int)} (hS : StepsG all) (hl : achk l = true) (ht : TG all l t) {w : List Int} {f : Int} (hw : leadF l 0 w = some f) {i j : Nat} {v : Int} (h : Way all w i j v) :
    ∀ k, leadF l 0 (w.take j) = some k → get2 t 0 0 ≤ v + get2 t i k.toNat := by
  have hl0 := (achk_iff.1 hl).2.1
  induction h with
  | zero =>
    intro k hk
    simp only [List.take_zero, leadF, Option.some.injEq] at hk
    subst hk
    simp
  | step h hs hi hn ih =>
    rename_i i j n v s
    intro k hk
    have hj := way_j h
    have hsp : w.take (j + n) = w.take j ++ (w.drop j).take n := List.take_add ..
    rw [hsp, leadF_app] at hk
    cases hk0 : leadF l 0 (w.take j) with
    | none => rw [hk0] at hk; cases hk
    | some k0 =>
      rw [hk0] at hk
      simp only at hk
      obtain ⟨b1, b2, _⟩ := leadF_in hl (Int.le_refl 0) (by omega) hk0
      obtain ⟨m, hm⟩ : ∃ m : Nat, k0 = m := ⟨k0.toNat, by omega⟩
      subst hm
      have i1 := ih _ hk0
      rw [Int.toNat_natCast] at i1
      have hmem : k ∈ endsF s l m := by
        unfold endsF
        unfold putsN at hn
        by_cases ha : s.any = true
        · rw [if_pos ha] at hn ⊢
          split at hn
          · rename_i hj2
            cases hn
            have e1 : (w.drop j).take 1 = [w[j]] := by rw [List.drop_eq_getElem_cons hj2]; rfl
            rw [e1] at hk
            simp only [leadF] at hk
            cases hs2 : stepF l m w[j] with
            | none => rw [hs2] at hk; cases hk
            | some t1 =>
              rw [hs2] at hk
              simp only [Option.some.injEq] at hk
              subst hk
              obtain ⟨_, a, ham, _, hto⟩ := stepF_arc hl hs2
              exact List.mem_map.2 ⟨a, ham, hto⟩
          · cases hn
        · rw [if_neg ha] at hn ⊢
          split at hn
          · rename_i hp
            cases hn
            rw [hp] at hk
            unfold leadG
            rw [if_pos ⟨by omega, by omega⟩, hk]
            simp
          · cases hn
      have hml : m < l.length := by omega
      obtain ⟨q1, q2, _⟩ := behind (t := t) hS hl hi hml hs hmem
      have f1 := (ht.fix i m hi hml).1
      have hc := (cell_le (l := l) (t := t) (i := i) (k := m) (all[i]!) (base all.length l i m)).2.1 s hs k hmem
      unfold cellT at f1
      rw [← f1] at hc
      unfold cadd at hc
      split at hc <;> omega
theorem minf_le {α : Type} (g : α → Int) : ∀ (W : List α) (m : Int), W.foldl (fun m w => min m (g w)) m ≤ m ∧ (∀ w ∈ W, W.foldl (fun m w => min m (g w)) m ≤ g w) ∧ (W.foldl (fun m w => min m (g w)) m = m ∨ ∃ w ∈ W, W.foldl (fun m w => min m (g w)) m = g w)
  | [], m => ⟨Int.le_refl _, fun w h => (by cases h), .inl rfl⟩
  | x :: W, m => by
    obtain ⟨h1, h2, h3⟩ := minf_le g W (min m (g x))
    simp only [List.foldl_cons]
    generalize W.foldl (fun m w => min m (g w)) (min m (g x)) = F at *
    refine ⟨by omega, fun w hw => ?_, ?_⟩
    · rcases List.mem_cons.1 hw with rfl | hw
      · omega
      · exact h2 w hw
    · rcases h3 with h3 | ⟨w, hw, h3⟩
      · by_cases h : m ≤ g x
        · left; omega
        · right; exact ⟨x, by simp, by omega⟩
      · exact .inr ⟨w, by simp [hw], h3⟩
def leastW (c : Co) (q : List Int) (W : List (List Int)) : Int := W.foldl (fun m w => min m (ofD c q w)) 18446744073709551615
theorem togo_words {c : Co} {q : List Int} {l : List Sta} (hc : c.ok) (hm : mayG c q l = true) (hd : deepN l ≤ 20) : get2 (tableG c q l) 0 0 = leastW c q (wordsF l []) := by
  obtain ⟨h1, h2, h3, ht⟩ := tableG_TG hc hm
  have hl0 := (achk_iff.1 h3).2.1
  have hS := tg_steps hc h2 q
  have h0 : 0 < (allF c q (q.length + 1)).length := by rw [allF_len]; omega
  have hu := (ht.fix 0 0 h0 hl0).2
  obtain ⟨m1, m2, m3⟩ := minf_le (ofD c q) (wordsF l []) 18446744073709551615
  change leastW c q (wordsF l []) ≤ _ at m1
  change ∀ w ∈ wordsF l [], leastW c q (wordsF l []) ≤ ofD c q w at m2
  change leastW c q (wordsF l []) = _ ∨ ∃ w ∈ wordsF l [], leastW c q (wordsF l []) = ofD c q w at m3
  have hle : get2 (tableG c q l) 0 0 ≤ leastW c q (wordsF l []) := by
    rcases m3 with e | ⟨w, hw, e⟩
    · rw [e]; exact hu.2
    · rw [e]
      obtain ⟨u, f, eu, e1, e2, _⟩ := wf_lead h3 _ _ _ hl0 w hw
      simp only [List.nil_append] at eu
      subst eu
      have e1 : leadF l 0 w = some f := e1
      rcases ofD_way (q := q) (w := w) hc with h | ⟨_, hway⟩
      · rw [h]; exact hu.2
      · have hx := way_tg hS h3 ht e1 hway f (by rw [List.take_length]; exact e1)
        obtain ⟨b1, b2, _⟩ := leadF_in h3 (Int.le_refl 0) (by omega) e1
        have hb := (cell_le (l := l) (t := tableG c q l) (i := q.length) (k := f.toNat) ((allF c q (q.length + 1))[q.length]!) (base (allF c q (q.length + 1)).length l q.length f.toNat)).1
        have f1 := (ht.fix q.length f.toNat (by rw [allF_len]; omega) (by omega)).1
        unfold cellT at f1
        rw [← f1] at hb
        unfold base at hb
        rw [if_pos ⟨by rw [allF_len], e2⟩] at hb
        omega
  have hge : leastW c q (wordsF l []) ≤ get2 (tableG c q l) 0 0 := by
    by_cases hinf : get2 (tableG c q l) 0 0 = 18446744073709551615
    · rw [hinf]; exact m1
    · obtain ⟨u, f, e1, e2, e3⟩ := tg_way hS h3 ht _ _ 0 0 h0 hl0 rfl rfl hinf
      have hw := wordsF_mem h3 e1 e2
      have hlen := words_short h3 (n := 20) hd hw
      have := e3 [] 0 (by simpa using Way.zero)
      rw [List.nil_append, allF_len, Nat.add_sub_cancel, Int.zero_add] at this
      exact Int.le_trans (m2 u hw) (ofD_le hc ⟨may_iff.2 ⟨h1, h2⟩, hlen⟩ this)
  omega
end Go.Eng.Tryz
set_option linter.unusedVariables false
set_option linter.unusedSimpArgs false
namespace Go.Eng.Tryz
open Go Go.Eng Go.Proofs Go.RowKit
set_option maxRecDepth 100000 in
theorem ty_is {n : Nat} {ds : List D} (h : TyC Tryz.prog n 26 ds) : ∃ l, dOf Tryz.prog 26 ds = .sl 1 (is l) ∧ l.length ≤ 9223372036854775807 := by
  obtain ⟨m, xs, rfl, h1, h2⟩ := ty_sl Tryz.underlying26 h
  obtain ⟨l, e1, e2, _⟩ := ty_list (f := fun z => D.int .i64 z) (ok := fun _ => True) (fun x hx => by
    obtain ⟨z, rfl, _⟩ := ty_int Tryz.underlying3 hx
    exact ⟨z, dOf_int Tryz.underlying3, trivial⟩) xs h2
  rw [e1, dOf_sl Tryz.underlying26]
  exact ⟨l, rfl, by omega⟩
set_option maxRecDepth 100000 in
theorem ty_ru {n : Nat} {ds : List D} (h : TyC Tryz.prog n 48 ds) : ∃ r : Ru, dOf Tryz.prog 48 ds = ru r ∧ r.ok := by
  obtain ⟨m, h⟩ := ty_struct Tryz.underlying48 h
  obtain ⟨_, _, rfl, h1, _, _, rfl, h2, _, _, rfl, h3, rfl⟩ := h
  obtain ⟨c, rfl, hc⟩ := ty_int Tryz.underlying22 h3
  obtain ⟨l, e1, o1⟩ := ty_is h1
  obtain ⟨k, xs, rfl, _, _⟩ := ty_sl Tryz.underlying26 h1
  rw [dOf_sl Tryz.underlying26] at e1
  obtain ⟨l', e2, o2⟩ := ty_is h2
  obtain ⟨k', xs', rfl, _, _⟩ := ty_sl Tryz.underlying26 h2
  rw [dOf_sl Tryz.underlying26] at e2
  rw [dOf_struct Tryz.underlying48, e1, e2]
  exact ⟨⟨l, l', c⟩, rfl, o1, o2, wf_u64 hc⟩
set_option maxRecDepth 100000 in
theorem ty_rs {n : Nat} {ds : List D} (h : TyC Tryz.prog n 23 ds) : ∃ l, dOf Tryz.prog 23 ds = .sl 3 (rs l) ∧ (∀ r ∈ l, r.ok) ∧ l.length ≤ 9223372036854775807 := by
  obtain ⟨m, xs, rfl, h1, h2⟩ := ty_sl Tryz.underlying23 h
  obtain ⟨l, e1, e2, h3⟩ := ty_list (f := ru) (ok := Ru.ok) (fun x hx => ty_ru hx) xs h2
  rw [e1, dOf_sl Tryz.underlying23]
  exact ⟨l, rfl, h3, by omega⟩
end Go.Eng.Tryz
set_option linter.unusedVariables false
set_option linter.unusedSimpArgs false
namespace Go.Eng.Tryz
open Go Go.Eng Go.Proofs Go.RowKit
set_option maxRecDepth 100000 in
theorem ty_i64 {n : Nat} {ds : List D} (h : TyC Tryz.prog n 3 ds) : ∃ z : Int, dOf Tryz.prog 3 ds = .int .i64 z ∧ (-9223372036854775808 ≤ z ∧ z ≤ 9223372036854775807) := by
  obtain ⟨z, rfl, hz⟩ := ty_int Tryz.underlying3 h
  exact ⟨z, dOf_int Tryz.underlying3, wf_i64 hz⟩
set_option maxRecDepth 100000 in
theorem ty_u8 {n : Nat} {ds : List D} (h : TyC Tryz.prog n 5 ds) : ∃ z : Int, dOf Tryz.prog 5 ds = .int .u8 z ∧ (0 ≤ z ∧ z ≤ 255) := by
  obtain ⟨z, rfl, hz⟩ := ty_int Tryz.underlying5 h
  exact ⟨z, dOf_int Tryz.underlying5, wf_u8 hz⟩
set_option maxRecDepth 100000 in
theorem ty_co {n : Nat} {ds : List D} (h : TyC Tryz.prog n 25 ds) : ∃ c : Co, dOf Tryz.prog 25 ds = co c ∧ c.ok := by
  obtain ⟨m, h⟩ := ty_struct Tryz.underlying25 h
  obtain ⟨_, _, rfl, h1, _, _, rfl, h2, _, _, rfl, h3, _, _, rfl, h4, _, _, rfl, h5, rfl⟩ := h
  obtain ⟨c1, rfl, hc1⟩ := ty_int Tryz.underlying22 h1
  obtain ⟨c2, rfl, hc2⟩ := ty_int Tryz.underlying22 h2
  obtain ⟨c3, rfl, hc3⟩ := ty_int Tryz.underlying22 h3
  obtain ⟨c4, rfl, hc4⟩ := ty_int Tryz.underlying22 h4
  obtain ⟨l, e1, o1, o2⟩ := ty_rs h5
  obtain ⟨k, xs, rfl, _, _⟩ := ty_sl Tryz.underlying23 h5
  rw [dOf_sl Tryz.underlying23] at e1
  rw [dOf_struct Tryz.underlying25, e1]
  exact ⟨⟨c1, c2, c3, c4, l⟩, rfl, wf_u64 hc1, wf_u64 hc2, wf_u64 hc3, wf_u64 hc4, o1, o2⟩
end Go.Eng.Tryz
set_option linter.unusedVariables false
set_option linter.unusedSimpArgs false
namespace Go.Eng.Tryz
open Go Go.Eng Go.Proofs Go.RowKit
set_option maxRecDepth 100000 in
theorem ty_ar {n : Nat} {ds : List D} (h : TyC Tryz.prog n 60 ds) : ∃ a : Ar, dOf Tryz.prog 60 ds = ar a ∧ True := by
  obtain ⟨m, h⟩ := ty_struct Tryz.underlying60 h
  obtain ⟨_, _, rfl, h1, _, _, rfl, h2, rfl⟩ := h
  obtain ⟨s, rfl, _⟩ := ty_int Tryz.underlying3 h1
  obtain ⟨t, rfl, _⟩ := ty_int Tryz.underlying3 h2
  rw [dOf_struct Tryz.underlying60]
  exact ⟨⟨s, t⟩, rfl, trivial⟩
set_option maxRecDepth 100000 in
theorem ty_ars {n : Nat} {ds : List D} (h : TyC Tryz.prog n 56 ds) : ∃ l, dOf Tryz.prog 56 ds = .sl 2 (ars l) ∧ l.length ≤ 9223372036854775807 := by
  obtain ⟨m, xs, rfl, h1, h2⟩ := ty_sl Tryz.underlying56 h
  obtain ⟨l, e1, e2, h3⟩ := ty_list (f := ar) (ok := fun _ => True) (fun x hx => ty_ar hx) xs h2
  rw [e1, dOf_sl Tryz.underlying56]
  exact ⟨l, rfl, by omega⟩
set_option maxRecDepth 100000 in
theorem ty_sta {n : Nat} {ds : List D} (h : TyC Tryz.prog n 58 ds) : ∃ s : Sta, dOf Tryz.prog 58 ds = sta s ∧ s.arcs.length ≤ 9223372036854775807 := by
  obtain ⟨m, h⟩ := ty_struct Tryz.underlying58 h
  obtain ⟨_, _, rfl, h1, _, _, rfl, h2, rfl⟩ := h
  obtain ⟨b, rfl⟩ := ty_bool Tryz.underlying4 h1
  obtain ⟨l, e1, o1⟩ := ty_ars h2
  obtain ⟨k, xs, rfl, _, _⟩ := ty_sl Tryz.underlying56 h2
  rw [dOf_sl Tryz.underlying56] at e1
  rw [dOf_struct Tryz.underlying58, e1]
  exact ⟨⟨b, l⟩, rfl, o1⟩
set_option maxRecDepth 100000 in
theorem ty_sts {n : Nat} {ds : List D} (h : TyC Tryz.prog n 27 ds) : ∃ l, dOf Tryz.prog 27 ds = .sl 2 (stas l) ∧ StaOk l := by
  obtain ⟨m, xs, rfl, h1, h2⟩ := ty_sl Tryz.underlying27 h
  obtain ⟨l, e1, e2, h3⟩ := ty_list (f := sta) (ok := fun s => s.arcs.length ≤ 9223372036854775807) (fun x hx => ty_sta hx) xs h2
  rw [e1, dOf_sl Tryz.underlying27]
  exact ⟨l, rfl, by omega, h3⟩
end Go.Eng.Tryz

/- Automata: what each state tells of those behind it. (and what stands behind it: texts laid together) -/
import Derived.Test.YtabfoaoeghikoaaGreatDoorMG4
import Derived.Test.YtabfoaoeghikoaaGreatDoorMR3
set_option linter.unusedVariables false
set_option linter.unusedSimpArgs false
namespace Go.Eng.Tryz
open Go Go.Eng Go.Proofs Go.RowKit
attribute [local go_sem] ty0 ty1 ty2 ty3 ty4 ty5 ty6 ty7 ty8 ty9 ty10 ty11 ty12 ty13 ty14 ty15 ty16 ty17 ty18
attribute [local go_sem] is_len is_get ars_len ars_get stas_len stas_get
theorem getB_setZ {l : List Int} {i j : Nat} {v : Int} (h : i < l.length) : (l.set i v)[j]! = if j = i then v else l[j]! := by
  by_cases e : j = i
  · subst e; rw [if_pos rfl, getElem!_pos _ _ (by simpa using h)]; simp
  · rw [if_neg e, List.getElem!_eq_getElem?_getD, List.getElem!_eq_getElem?_getD, List.getElem?_set_ne (Ne.symm e)]
theorem is_setZ {l : List Int} {i : Nat} {z : Int} : (is l).set i (.int .i64 z) = is (l.set i z) := by simp [is, List.map_set]
theorem is_repZ {n : Nat} {x : Int} : List.replicate n (D.int .i64 x) = is (List.replicate n x) := by simp [is]
attribute [local go_sem] is_setZ is_repZ
/-- What is told of the last j states. -/
def toldI (f : Sta → List Int → Int) (l : List Sta) (j : Nat) : List Int := (List.range j).foldl (fun out j => out.set (l.length - 1 - j) (f (l[l.length - 1 - j]!) out)) (List.replicate l.length 0)
theorem toldI_step (f : Sta → List Int → Int) (l : List Sta) (j : Nat) : toldI f l (j + 1) = (toldI f l j).set (l.length - 1 - j) (f (l[l.length - 1 - j]!) (toldI f l j)) := by simp [toldI, List.range_succ]
theorem toldI_len (f : Sta → List Int → Int) (l : List Sta) : ∀ j, (toldI f l j).length = l.length
  | 0 => by simp [toldI]
  | j + 1 => by rw [toldI_step, List.length_set]; exact toldI_len f l j
theorem mem_setZ {l : List Int} {i : Nat} {v z : Int} (h : z ∈ l.set i v) : z = v ∨ z ∈ l := (List.mem_or_eq_of_mem_set h).symm
theorem toldI_inv {f : Sta → List Int → Int} {l : List Sta} {inv : Nat → Int → Prop} (h0 : inv 0 0) (hm : ∀ j z, inv j z → inv (j + 1) z) (hf : ∀ j out, (∀ z ∈ out, inv j z) → inv (j + 1) (f (l[l.length - 1 - j]!) out)) : ∀ j, ∀ z ∈ toldI f l j, inv j z
  | 0, z, hz => by
    simp only [toldI, List.range_zero, List.foldl_nil] at hz
    rw [List.eq_of_mem_replicate hz]; exact h0
  | j + 1, z, hz => by
    rw [toldI_step] at hz
    have ih := toldI_inv h0 hm hf j
    rcases mem_setZ hz with rfl | h
    · exact hf j _ ih
    · exact hm j z (ih z h)
theorem toldI_fix {f : Sta → List Int → Int} {l : List Sta} (hka : achk l = true) (hc : ∀ s out out', (∀ a ∈ s.arcs, out[a.to.toNat]! = out'[a.to.toNat]!) → f s out = f s out') : ∀ j, j ≤ l.length → ∀ k, l.length ≤ k + j → k < l.length → (toldI f l j)[k]! = f (l[k]!) (toldI f l j)
  | 0, _, k, h1, h2 => by omega
  | j + 1, hj, k, h1, h2 => by
    have hl := toldI_len f l j
    have ih := toldI_fix hka hc j (by omega)
    have hc2 : f (l[k]!) (toldI f l (j + 1)) = f (l[k]!) (toldI f l j) := hc _ _ _ fun a ha => by
      have := achk_arc hka h2 a ha
      rw [toldI_step, getB_setZ (by omega), if_neg (by omega)]
    rw [hc2, toldI_step, getB_setZ (by omega)]
    split
    · rename_i e; rw [e]
    · exact ih k (by omega) h2
theorem foldl_congrA {α β : Type} {f g : β → α → β} : ∀ {l : List α} {b : β}, (∀ a ∈ l, ∀ b, f b a = g b a) → l.foldl f b = l.foldl g b
  | [], b, h => rfl
  | a :: l, b, h => by
    simp only [List.foldl_cons]
    rw [h a (by simp)]
    exact foldl_congrA fun x hx => h x (by simp [hx])
theorem manyF_congr (s : Sta) (out out' : List Int) (h : ∀ a ∈ s.arcs, out[a.to.toNat]! = out'[a.to.toNat]!) : manyF s out = manyF s out' := foldl_congrA fun a ha b => by unfold many1; rw [h a ha]
def deep1 (out : List Int) (m : Int) (a : Ar) : Int := if 0 ≤ out[a.to.toNat]! then max m (out[a.to.toNat]! + 1) else m
def deepF (s : Sta) (out : List Int) : Int := s.arcs.foldl (deep1 out) (if s.final = true then 0 else -1)
theorem get_in {out : List Int} {P : Int → Prop} (h : ∀ z ∈ out, P z) (h0 : P 0) (t : Nat) : P (out[t]!) := by
  by_cases ht : t < out.length
  · rw [getElem!_pos out t ht]; exact h _ (List.getElem_mem ht)
  · rw [List.getElem!_eq_getElem?_getD, List.getElem?_eq_none (by omega)]; exact h0
theorem deep_fold {out : List Int} {n : Nat} (ho : ∀ z ∈ out, -1 ≤ z ∧ z ≤ n) : ∀ (l : List Ar) (m : Int), (-1 ≤ m ∧ m ≤ n + 1) → -1 ≤ l.foldl (deep1 out) m ∧ l.foldl (deep1 out) m ≤ n + 1
  | [], m, h => h
  | a :: l, m, h => deep_fold ho l _ (by
    have := get_in (P := fun z => -1 ≤ z ∧ z ≤ (n : Int)) ho (by omega) a.to.toNat
    unfold deep1
    split <;> omega)
set_option maxHeartbeats 4000000 in
set_option maxRecDepth 10000 in
theorem pDeep1 {s : Sta} {out : List Int} {n : Nat} (hn0 : n ≤ 1000000) (ho : ∀ z ∈ out, -1 ≤ z ∧ z ≤ n) (hs : arcsIn s out.length) (hn : s.arcs.length ≤ 9223372036854775807) (hout : out.length ≤ 1000000) : SoundM Tryz.prog 70 [.d (sta s), .fn 119 [.ref 0 0]] (Out out) (.d (.int .i64 (deepF s out))) (Out out) 2 := by
  have fin : ∀ (m0 : Int), (-1 ≤ m0 ∧ m0 ≤ n + 1) → ∀ k, k ≤ s.arcs.length → -1 ≤ (s.arcs.take k).foldl (deep1 out) m0 ∧ (s.arcs.take k).foldl (deep1 out) m0 ≤ n + 1 := fun m0 h k _ => deep_fold ho _ _ h
  unfold sta
  cases hf : s.final
  · have e : deepF s out = s.arcs.foldl (deep1 out) (-1) := by unfold deepF; rw [hf]; rfl
    rw [e]
    unfold Out
    refine SoundM.run (N := 30) (ks := [0, 1]) Tryz.func70 rfl (by kernel_rfl) rfl rfl rfl (by first | exact argsA_0 | exact argsA_1 | exact argsA_2 | exact argsA_3 | exact argsA_4 | exact argsA_5 | exact argsA_6) fun X_ ν_ w_ => ?_
    refine goT ?_; first | exact trivial | skip
    refine WP_loopk (fun k : Nat => k ≤ s.arcs.length) (fun k => [(1, .fn 119 [.ref 0 0]), (5, .d (.int .i64 ((s.arcs.take k).foldl (deep1 out) (-1)))), (12, .d (.sl 2 (ars s.arcs))), (13, .d (.int .i64 s.arcs.length)), (14, .d (.int .i64 k))]) (fun k => [(0, .var [.own 1 out.length]), (1, .row 3 1 (is out))]) 2 (fun k => s.arcs.length - k) [1, 5, 12, 13, 14] [0, 1] 0 (Nat.zero_le _) rfl rfl (Nat.le_of_ble_eq_true rfl) (fun _ _ => rfl) (fun _ _ => rfl) fun k hk => ?_
    have hm := fin (-1) (by omega) k hk
    by_cases hk3 : k < s.arcs.length
    · have hin := hs.get hk3
      have hst := foldl_take (deep1 out) (-1) hk3
      obtain ⟨t, ht⟩ := Int.eq_ofNat_of_zero_le hin.1
      have htl : t < out.length := by omega
      have cw := pTold1 (out := out) (k := t) htl
      have hv := ho (out[t]!) (by rw [getElem!_pos out t htl]; exact List.getElem_mem htl)
      have e1 : deep1 out ((s.arcs.take k).foldl (deep1 out) (-1)) (s.arcs[k]!) = if 0 ≤ out[t]! then max ((s.arcs.take k).foldl (deep1 out) (-1)) (out[t]! + 1) else (s.arcs.take k).foldl (deep1 out) (-1) := by unfold deep1; rw [ht]; rfl
      rw [e1] at hst
      unfold Out at cw
      by_cases hz : 0 ≤ out[t]!
      · rw [if_pos hz] at hst
        have c0_ := cw; refine goX (And.intro @ht @if_max) ?_; first | exact trivial | skip
        refine ⟨k + 1, by omega, ?_, ?_, by omega⟩
        · simp (disch := omega) only [go_sem, keepL, Int.natCast_add, Int.cast_ofNat_Int, hst]
        · simp (disch := omega) only [go_sem, keepL]
      · rw [if_neg hz] at hst
        have c0_ := cw; refine goX (And.intro @ht @if_max) ?_; first | exact trivial | skip
        refine ⟨k + 1, by omega, ?_, ?_, by omega⟩
        · simp (disch := omega) only [go_sem, keepL, Int.natCast_add, Int.cast_ofNat_Int, hst]
        · simp (disch := omega) only [go_sem, keepL]
    · have hkl : k = s.arcs.length := by omega
      subst hkl
      rw [List.take_length]
      refine goT ?_; first | exact trivial | skip
  · have e : deepF s out = s.arcs.foldl (deep1 out) 0 := by unfold deepF; rw [hf]; rfl
    rw [e]
    unfold Out
    refine SoundM.run (N := 30) (ks := [0, 1]) Tryz.func70 rfl (by kernel_rfl) rfl rfl rfl (by first | exact argsA_0 | exact argsA_1 | exact argsA_2 | exact argsA_3 | exact argsA_4 | exact argsA_5 | exact argsA_6) fun X_ ν_ w_ => ?_
    refine goT ?_; first | exact trivial | skip
    refine WP_loopk (fun k : Nat => k ≤ s.arcs.length) (fun k => [(1, .fn 119 [.ref 0 0]), (5, .d (.int .i64 ((s.arcs.take k).foldl (deep1 out) 0))), (12, .d (.sl 2 (ars s.arcs))), (13, .d (.int .i64 s.arcs.length)), (14, .d (.int .i64 k))]) (fun k => [(0, .var [.own 1 out.length]), (1, .row 3 1 (is out))]) 2 (fun k => s.arcs.length - k) [1, 5, 12, 13, 14] [0, 1] 0 (Nat.zero_le _) rfl rfl (Nat.le_of_ble_eq_true rfl) (fun _ _ => rfl) (fun _ _ => rfl) fun k hk => ?_
    have hm := fin 0 (by omega) k hk
    by_cases hk3 : k < s.arcs.length
    · have hin := hs.get hk3
      have hst := foldl_take (deep1 out) 0 hk3
      obtain ⟨t, ht⟩ := Int.eq_ofNat_of_zero_le hin.1
      have htl : t < out.length := by omega
      have cw := pTold1 (out := out) (k := t) htl
      have hv := ho (out[t]!) (by rw [getElem!_pos out t htl]; exact List.getElem_mem htl)
      have e1 : deep1 out ((s.arcs.take k).foldl (deep1 out) 0) (s.arcs[k]!) = if 0 ≤ out[t]! then max ((s.arcs.take k).foldl (deep1 out) 0) (out[t]! + 1) else (s.arcs.take k).foldl (deep1 out) 0 := by unfold deep1; rw [ht]; rfl
      rw [e1] at hst
      unfold Out at cw
      by_cases hz : 0 ≤ out[t]!
      · rw [if_pos hz] at hst
        have c0_ := cw; refine goX (And.intro @ht @if_max) ?_; first | exact trivial | skip
        refine ⟨k + 1, by omega, ?_, ?_, by omega⟩
        · simp (disch := omega) only [go_sem, keepL, Int.natCast_add, Int.cast_ofNat_Int, hst]
        · simp (disch := omega) only [go_sem, keepL]
      · rw [if_neg hz] at hst
        have c0_ := cw; refine goX (And.intro @ht @if_max) ?_; first | exact trivial | skip
        refine ⟨k + 1, by omega, ?_, ?_, by omega⟩
        · simp (disch := omega) only [go_sem, keepL, Int.natCast_add, Int.cast_ofNat_Int, hst]
        · simp (disch := omega) only [go_sem, keepL]
    · have hkl : k = s.arcs.length := by omega
      subst hkl
      rw [List.take_length]
      refine goT ?_; first | exact trivial | skip
set_option maxHeartbeats 4000000 in
set_option maxRecDepth 10000 in
theorem pTold {l : List Sta} {g : Nat} {f : Sta → List Int → Int} {inv : Nat → Int → Prop} (hka : achk l = true) (hl : StaOk l) (h0 : inv 0 0) (hm : ∀ j z, inv j z → inv (j + 1) z) (hf : ∀ j out, (∀ z ∈ out, inv j z) → inv (j + 1) (f (l[l.length - 1 - j]!) out))
    (hby : ∀ (s : Sta) (out : List Int) (j : Nat), j ≤ l.length → s ∈ l → out.length = l.length → (∀ z ∈ out, inv j z) → SoundM Tryz.prog g [.d (sta s), .fn 119 [.ref 0 0]] (Out out) (.d (.int .i64 (f s out))) (Out out) 2) :
    Sound Tryz.prog 68 [.sl 2 (stas l), .fn g] (.sl 1 (is (toldI f l l.length))) := by
  obtain ⟨_, hl0, hl1⟩ := achk_iff.1 hka
  refine Sound.run (N := 35) Tryz.func68 rfl (by kernel_rfl) rfl rfl rfl (by first | exact args0_0 | exact args0_1 | exact args0_2 | exact args0_3 | exact args0_4 | exact args0_5 | exact args0_6) fun X_ w_ => ?_
  refine goT ?_; first | exact trivial | skip
  refine WP_loopk (fun j : Nat => j ≤ l.length) (fun j => [(0, .d (.sl 2 (stas l))), (1, .d (.fn g)), (5, .ref 1003 0), (6, .fn 119 [.ref 1003 0]), (14, .d (.int .i64 l.length)), (15, .d (.int .i64 j))]) (fun j => [(1003, .var [.own 1002 l.length]), (1002, .row 3 1 (is (toldI f l j)))]) 4000 (fun j => l.length - j) [0, 1, 5, 6, 14, 15] [1003, 1002] 0 (Nat.zero_le _) rfl rfl (Nat.zero_le _) (fun _ _ => rfl) (fun _ _ => rfl) fun j hj => ?_
  by_cases hj2 : j < l.length
  · have hst := toldI_step f l j
    have hin := toldI_inv (l := l) h0 hm hf j
    have hlo := toldI_len f l j
    generalize toldI f l j = out at *
    obtain ⟨i, hi⟩ : ∃ i, i = l.length - 1 - j := ⟨_, rfl⟩
    have ei : (l.length : Int) - 1 - (j : Int) = (i : Int) := by omega
    rw [← hi] at hst
    have hi2 : i < out.length := by omega
    have hmem : l[i]! ∈ l := by rw [getElem!_pos l i (by omega)]; exact List.getElem_mem _
    have cb := hby (l[i]!) out j (by omega) hmem hlo hin
    unfold sta Out at cb
    rw [hlo] at cb
    have c0_ := cb; refine goX (And.intro @ei @hlo) ?_; first | exact trivial | skip
    refine ⟨j + 1, by omega, ?_, ?_, by omega⟩
    · simp (disch := omega) only [go_sem, keepL, Int.natCast_add, Int.cast_ofNat_Int]
    · simp (disch := omega) only [go_sem, keepL, hst]
  · have hjl : j = l.length := by omega
    subst hjl
    have hlo := toldI_len f l l.length
    refine goX @hlo ?_; first | exact trivial | skip
end Go.Eng.Tryz

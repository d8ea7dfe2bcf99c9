/- Automata: what each state tells of those behind it. (and what stands behind it: texts laid together) -/
import Derived.Test.YtabfoaoeghikoaaGreatDoorMG4
import Derived.Test.YtabfoaoeghikoaaGreatDoorMR5
set_option maxHeartbeats 32000000
set_option maxRecDepth 100000
set_option linter.unusedVariables false
set_option linter.unusedSimpArgs false
namespace Go.Eng.Tryz
open Go Go.Eng Go.Proofs Go.RowKit
attribute [local go_sem] is_len is_get ars_len ars_get stas_len stas_get
theorem getB_setZ {l : List Int} {i j : Nat} {v : Int} (h : i < l.length) : (l.set i v)[j]! = if j = i then v else l[j]! := by
  by_cases e : j = i
  · subst e; rw [if_pos rfl, getElem!_pos _ _ (by simpa using h)]; simp
  · rw [if_neg e, List.getElem!_eq_getElem?_getD, List.getElem!_eq_getElem?_getD, List.getElem?_set_ne (Ne.symm e)]
theorem is_setZ {l : List Int} {i : Nat} {z : Int} : (is l).set i (.int .i64 z) = is (l.set i z) := by simp [is, List.map_set]
theorem is_repZ {n : Nat} {x : Int} : List.replicate n (D.int .i64 x) = is (List.replicate n x) := by simp [is]
attribute [local go_sem] is_setZ is_repZ
def toldI (f : Sta → List Int → Int) (l : List Sta) (j : Nat) : List Int := (List.range j).foldl (fun out j => out.set (l.length - 1 - j) (f (l[l.length - 1 - j]!) out)) (List.replicate l.length 0)
theorem toldI_step (f : Sta → List Int → Int) (l : List Sta) (j : Nat) : toldI f l (j + 1) = (toldI f l j).set (l.length - 1 - j) (f (l[l.length - 1 - j]!) (toldI f l j)) := by simp [toldI, List.range_succ]
theorem toldI_len (f : Sta → List Int → Int) (l : List Sta) : ∀ j, (toldI f l j).length = l.length
  | 0 => by simp [toldI]
  | j + 1 => by rw [toldI_step, List.length_set]; exact toldI_len f l j
theorem mem_setZ {l : List Int} {i : Nat} {v z : Int} (h : z ∈ l.set i v) : z = v ∨ z ∈ l := (List.mem_or_eq_of_mem_set h).symm
theorem toldI_inv {f : Sta → List Int → Int} {l : List Sta} {inv : Nat → Int → Prop} (h0 : inv 0 0) (hm : ∀ j z, inv j z → inv (j + 1) z) (hf : ∀ j out, (∀ z ∈ out, inv j z) → inv (j + 1) (f (l[l.length - 1 - j]!) out)) : ∀ j, ∀ z ∈ toldI f l j, inv j z
  | 0, z, hz => by
    simp only [toldI, List.range_zero, List.foldl_nil] at hz
    rw [List.eq_of_mem_replicate hz]; exact h0
  | j + 1, z, hz => by
    rw [toldI_step] at hz
    have ih := toldI_inv h0 hm hf j
    rcases mem_setZ hz with rfl | h
    · exact hf j _ ih
    · exact hm j z (ih z h)
theorem toldI_fix {f : Sta → List Int → Int} {l : List Sta} (hka : achk l = true) (hc : ∀ s out out', (∀ a ∈ s.arcs, out[a.to.toNat]! = out'[a.to.toNat]!) → f s out = f s out') : ∀ j, j ≤ l.length → ∀ k, l.length ≤ k + j → k < l.length → (toldI f l j)[k]! = f (l[k]!) (toldI f l j)
  | 0, _, k, h1, h2 => by omega
  | j + 1, hj, k, h1, h2 => by
    have hl := toldI_len f l j
    have ih := toldI_fix hka hc j (by omega)
    have hc2 : f (l[k]!) (toldI f l (j + 1)) = f (l[k]!) (toldI f l j) := hc _ _ _ fun a ha => by
      have := achk_arc hka h2 a ha
      rw [toldI_step, getB_setZ (by omega), if_neg (by omega)]
    rw [hc2, toldI_step, getB_setZ (by omega)]
    split
    · rename_i e; rw [e]
    · exact ih k (by omega) h2
theorem foldl_congrA {α β : Type} {f g : β → α → β} : ∀ {l : List α} {b : β}, (∀ a ∈ l, ∀ b, f b a = g b a) → l.foldl f b = l.foldl g b
  | [], b, h => rfl
  | a :: l, b, h => by
    simp only [List.foldl_cons]
    rw [h a (by simp)]
    exact foldl_congrA fun x hx => h x (by simp [hx])
theorem manyF_congr (s : Sta) (out out' : List Int) (h : ∀ a ∈ s.arcs, out[a.to.toNat]! = out'[a.to.toNat]!) : manyF s out = manyF s out' := foldl_congrA fun a ha b => by unfold many1; rw [h a ha]
def deep1 (out : List Int) (m : Int) (a : Ar) : Int := if 0 ≤ out[a.to.toNat]! then max m (out[a.to.toNat]! + 1) else m
def deepF (s : Sta) (out : List Int) : Int := s.arcs.foldl (deep1 out) (if s.final = true then 0 else -1)
theorem deepF_congr (s : Sta) (out out' : List Int) (h : ∀ a ∈ s.arcs, out[a.to.toNat]! = out'[a.to.toNat]!) : deepF s out = deepF s out' := foldl_congrA fun a ha b => by unfold deep1; rw [h a ha]
theorem get_in {out : List Int} {P : Int → Prop} (h : ∀ z ∈ out, P z) (h0 : P 0) (t : Nat) : P (out[t]!) := by
  by_cases ht : t < out.length
  · rw [getElem!_pos out t ht]; exact h _ (List.getElem_mem ht)
  · rw [List.getElem!_eq_getElem?_getD, List.getElem?_eq_none (by omega)]; exact h0
theorem deep_fold {out : List Int} {n : Nat} (ho : ∀ z ∈ out, -1 ≤ z ∧ z ≤ n) : ∀ (l : List Ar) (m : Int), (-1 ≤ m ∧ m ≤ n + 1) → -1 ≤ l.foldl (deep1 out) m ∧ l.foldl (deep1 out) m ≤ n + 1
  | [], m, h => h
  | a :: l, m, h => deep_fold ho l _ (by
    have := get_in (P := fun z => -1 ≤ z ∧ z ≤ (n : Int)) ho (by omega) a.to.toNat
    unfold deep1
    split <;> omega)
theorem pDeep1 {s : Sta} {out : List Int} {n : Nat} (hn0 : n ≤ 1000000) (ho : ∀ z ∈ out, -1 ≤ z ∧ z ≤ n) (hs : arcsIn s out.length) (hn : s.arcs.length ≤ 9223372036854775807) (hout : out.length ≤ 1000000) : SoundM Tryz.prog 70 [.d (sta s), .fn 119 [.ref 0 0]] (Out out) (.d (.int .i64 (deepF s out))) (Out out) 2 := by
  have fin : ∀ (m0 : Int), (-1 ≤ m0 ∧ m0 ≤ n + 1) → ∀ k, k ≤ s.arcs.length → -1 ≤ (s.arcs.take k).foldl (deep1 out) m0 ∧ (s.arcs.take k).foldl (deep1 out) m0 ≤ n + 1 := fun m0 h k _ => deep_fold ho _ _ h
  unfold sta
  cases hf : s.final
  · have e : deepF s out = s.arcs.foldl (deep1 out) (-1) := by unfold deepF; rw [hf]; rfl
    rw [e]
    unfold Out
    refine SoundM.run (N := 30) (ks := [0, 1]) Tryz.func70 rfl (by kernel_rfl) rfl rfl rfl (by exact argsA_2) fun X_ ν_ w_ => ?_
    refine goT ?_; try exact trivial
    refine WP_loopk (fun k : Nat => k ≤ s.arcs.length) (fun k => [(1, .fn 119 [.ref 0 0]), (5, .d (.int .i64 ((s.arcs.take k).foldl (deep1 out) (-1)))), (12, .d (.sl 2 (ars s.arcs))), (13, .d (.int .i64 s.arcs.length)), (14, .d (.int .i64 k))]) (fun k => [(0, .var [.own 1 out.length]), (1, .row 3 1 (is out))]) 2 (fun k => s.arcs.length - k) [1, 5, 12, 13, 14] [0, 1] 0 (Nat.zero_le _) rfl rfl (Nat.le_of_ble_eq_true rfl) (fun _ _ => rfl) (fun _ _ => rfl) fun k hk => ?_
    have hm := fin (-1) (by omega) k hk
    by_cases hk3 : k < s.arcs.length
    · have hin := hs.get hk3
      have hst := foldl_take (deep1 out) (-1) hk3
      obtain ⟨t, ht⟩ := Int.eq_ofNat_of_zero_le hin.1
      have htl : t < out.length := by omega
      have cw := pTold1 (out := out) (k := t) htl
      have hv := ho (out[t]!) (by rw [getElem!_pos out t htl]; exact List.getElem_mem htl)
      have e1 : deep1 out ((s.arcs.take k).foldl (deep1 out) (-1)) (s.arcs[k]!) = if 0 ≤ out[t]! then max ((s.arcs.take k).foldl (deep1 out) (-1)) (out[t]! + 1) else (s.arcs.take k).foldl (deep1 out) (-1) := by unfold deep1; rw [ht]; rfl
      rw [e1] at hst
      unfold Out at cw
      by_cases hz : 0 ≤ out[t]!
      · rw [if_pos hz] at hst
        have c0_ := cw; refine goX (And.intro @ht @if_max) ?_; try exact trivial
        refine ⟨k + 1, by omega, ?_, ?_, by omega⟩
        · simp (disch := omega) only [go_sem, keepL, Int.natCast_add, Int.cast_ofNat_Int, hst]
        · simp (disch := omega) only [go_sem, keepL]
      · rw [if_neg hz] at hst
        have c0_ := cw; refine goX (And.intro @ht @if_max) ?_; try exact trivial
        refine ⟨k + 1, by omega, ?_, ?_, by omega⟩
        · simp (disch := omega) only [go_sem, keepL, Int.natCast_add, Int.cast_ofNat_Int, hst]
        · simp (disch := omega) only [go_sem, keepL]
    · have hkl : k = s.arcs.length := by omega
      subst hkl
      rw [List.take_length]
      refine goT ?_; try exact trivial
  · have e : deepF s out = s.arcs.foldl (deep1 out) 0 := by unfold deepF; rw [hf]; rfl
    rw [e]
    unfold Out
    refine SoundM.run (N := 30) (ks := [0, 1]) Tryz.func70 rfl (by kernel_rfl) rfl rfl rfl (by exact argsA_2) fun X_ ν_ w_ => ?_
    refine goT ?_; try exact trivial
    refine WP_loopk (fun k : Nat => k ≤ s.arcs.length) (fun k => [(1, .fn 119 [.ref 0 0]), (5, .d (.int .i64 ((s.arcs.take k).foldl (deep1 out) 0))), (12, .d (.sl 2 (ars s.arcs))), (13, .d (.int .i64 s.arcs.length)), (14, .d (.int .i64 k))]) (fun k => [(0, .var [.own 1 out.length]), (1, .row 3 1 (is out))]) 2 (fun k => s.arcs.length - k) [1, 5, 12, 13, 14] [0, 1] 0 (Nat.zero_le _) rfl rfl (Nat.le_of_ble_eq_true rfl) (fun _ _ => rfl) (fun _ _ => rfl) fun k hk => ?_
    have hm := fin 0 (by omega) k hk
    by_cases hk3 : k < s.arcs.length
    · have hin := hs.get hk3
      have hst := foldl_take (deep1 out) 0 hk3
      obtain ⟨t, ht⟩ := Int.eq_ofNat_of_zero_le hin.1
      have htl : t < out.length := by omega
      have cw := pTold1 (out := out) (k := t) htl
      have hv := ho (out[t]!) (by rw [getElem!_pos out t htl]; exact List.getElem_mem htl)
      have e1 : deep1 out ((s.arcs.take k).foldl (deep1 out) 0) (s.arcs[k]!) = if 0 ≤ out[t]! then max ((s.arcs.take k).foldl (deep1 out) 0) (out[t]! + 1) else (s.arcs.take k).foldl (deep1 out) 0 := by unfold deep1; rw [ht]; rfl
      rw [e1] at hst
      unfold Out at cw
      by_cases hz : 0 ≤ out[t]!
      · rw [if_pos hz] at hst
        have c0_ := cw; refine goX (And.intro @ht @if_max) ?_; try exact trivial
        refine ⟨k + 1, by omega, ?_, ?_, by omega⟩
        · simp (disch := omega) only [go_sem, keepL, Int.natCast_add, Int.cast_ofNat_Int, hst]
        · simp (disch := omega) only [go_sem, keepL]
      · rw [if_neg hz] at hst
        have c0_ := cw; refine goX (And.intro @ht @if_max) ?_; try exact trivial
        refine ⟨k + 1, by omega, ?_, ?_, by omega⟩
        · simp (disch := omega) only [go_sem, keepL, Int.natCast_add, Int.cast_ofNat_Int, hst]
        · simp (disch := omega) only [go_sem, keepL]
    · have hkl : k = s.arcs.length := by omega
      subst hkl
      rw [List.take_length]
      refine goT ?_; try exact trivial
theorem pTold {l : List Sta} {g : Nat} {f : Sta → List Int → Int} {inv : Nat → Int → Prop} (hka : achk l = true) (hl : StaOk l) (h0 : inv 0 0) (hm : ∀ j z, inv j z → inv (j + 1) z) (hf : ∀ j out, (∀ z ∈ out, inv j z) → inv (j + 1) (f (l[l.length - 1 - j]!) out))
    (hby : ∀ (s : Sta) (out : List Int) (j : Nat), j ≤ l.length → s ∈ l → out.length = l.length → (∀ z ∈ out, inv j z) → SoundM Tryz.prog g [.d (sta s), .fn 119 [.ref 0 0]] (Out out) (.d (.int .i64 (f s out))) (Out out) 2) :
    Sound Tryz.prog 68 [.sl 2 (stas l), .fn g] (.sl 1 (is (toldI f l l.length))) := by
  obtain ⟨_, hl0, hl1⟩ := achk_iff.1 hka
  refine Sound.run (N := 35) Tryz.func68 rfl (by kernel_rfl) rfl rfl rfl (by exact args0_2) fun X_ w_ => ?_
  refine goT ?_; try exact trivial
  refine WP_loopk (fun j : Nat => j ≤ l.length) (fun j => [(0, .d (.sl 2 (stas l))), (1, .d (.fn g)), (5, .ref 1003 0), (6, .fn 119 [.ref 1003 0]), (14, .d (.int .i64 l.length)), (15, .d (.int .i64 j))]) (fun j => [(1003, .var [.own 1002 l.length]), (1002, .row 3 1 (is (toldI f l j)))]) 4000 (fun j => l.length - j) [0, 1, 5, 6, 14, 15] [1003, 1002] 0 (Nat.zero_le _) rfl rfl (Nat.zero_le _) (fun _ _ => rfl) (fun _ _ => rfl) fun j hj => ?_
  by_cases hj2 : j < l.length
  · have hst := toldI_step f l j
    have hin := toldI_inv (l := l) h0 hm hf j
    have hlo := toldI_len f l j
    generalize toldI f l j = out at *
    obtain ⟨i, hi⟩ : ∃ i, i = l.length - 1 - j := ⟨_, rfl⟩
    have ei : (l.length : Int) - 1 - (j : Int) = (i : Int) := by omega
    rw [← hi] at hst
    have hi2 : i < out.length := by omega
    have hmem : l[i]! ∈ l := by rw [getElem!_pos l i (by omega)]; exact List.getElem_mem _
    have cb := hby (l[i]!) out j (by omega) hmem hlo hin
    unfold sta Out at cb
    rw [hlo] at cb
    have c0_ := cb; refine goX (And.intro @ei @hlo) ?_; try exact trivial
    refine ⟨j + 1, by omega, ?_, ?_, by omega⟩
    · simp (disch := omega) only [go_sem, keepL, Int.natCast_add, Int.cast_ofNat_Int]
    · simp (disch := omega) only [go_sem, keepL, hst]
  · have hjl : j = l.length := by omega
    subst hjl
    have hlo := toldI_len f l l.length
    refine goX @hlo ?_; try exact trivial
end Go.Eng.Tryz
set_option linter.unusedVariables false
set_option linter.unusedSimpArgs false
namespace Go.Eng.Tryz
open Go Go.Eng Go.Proofs Go.RowKit
attribute [local go_sem] is_len is_get ars_len ars_get stas_len stas_get is_setZ is_repZ
theorem arcsIn_of {l : List Sta} (hka : achk l = true) {s : Sta} (h : s ∈ l) : arcsIn s l.length := by
  obtain ⟨k, hk, rfl⟩ := List.getElem_of_mem h
  intro a ha
  rw [← getElem!_pos l k hk] at ha
  have := achk_arc hka hk a ha
  exact ⟨by omega, this.2.1⟩
theorem deep_in {out : List Int} {j : Nat} (h : ∀ z ∈ out, -1 ≤ z ∧ z ≤ (j : Int)) (s : Sta) : -1 ≤ deepF s out ∧ deepF s out ≤ ((j + 1 : Nat) : Int) := by
  have := deep_fold h s.arcs (if s.final = true then 0 else -1) (by split <;> omega)
  have e : deepF s out = s.arcs.foldl (deep1 out) (if s.final = true then 0 else -1) := rfl
  rw [e]
  omega
theorem manyI_in (l : List Sta) (j : Nat) : ∀ z ∈ toldI manyF l j, 0 ≤ z ∧ z ≤ 301 := toldI_inv (inv := fun _ z => 0 ≤ z ∧ z ≤ 301) (by decide) (fun _ _ h => h) (fun j out h => many_fold h _ _ (by split <;> decide)) j
theorem pToldM {l : List Sta} (hl : StaOk l) (hka : achk l = true) : Sound Tryz.prog 68 [.sl 2 (stas l), .fn 69] (.sl 1 (is (toldI manyF l l.length))) := by
  have h6 := (achk_iff.1 hka).2.2
  exact pTold (inv := fun _ z => 0 ≤ z ∧ z ≤ 301) hka hl (by decide) (fun _ _ h => h) (fun j out h => many_fold h _ _ (by split <;> decide)) (fun s out j _ hs ho hin => pMany1 hin (ho ▸ arcsIn_of hka hs) (hl.2 s hs) (by omega))
theorem pToldD {l : List Sta} (hl : StaOk l) (hka : achk l = true) : Sound Tryz.prog 68 [.sl 2 (stas l), .fn 70] (.sl 1 (is (toldI deepF l l.length))) := by
  have h6 := (achk_iff.1 hka).2.2
  exact pTold (inv := fun j z => -1 ≤ z ∧ z ≤ (j : Int)) hka hl (by decide) (fun _ _ h => by omega) (fun j out h => deep_in h _) (fun s out j hj hs ho hin => pDeep1 (n := j) (by omega) hin (ho ▸ arcsIn_of hka hs) (hl.2 s hs) (by omega))
def manyN (l : List Sta) : Int := if achk l = true then (toldI manyF l l.length)[0]! else 0
def deepN (l : List Sta) : Int := if achk l = true then (toldI deepF l l.length)[0]! else -1
theorem pManyW {l : List Sta} (hl : StaOk l) : Sound Tryz.prog 26 [.sl 2 (stas l)] (.int .i64 (manyN l)) := by
  have cch := pCheckA hl
  cases hka : achk l
  · have e : manyN l = 0 := if_neg (by rw [hka]; simp)
    rw [hka] at cch
    rw [e]
    refine Sound.run (N := 10) Tryz.func26 rfl (by kernel_rfl) rfl rfl rfl (by exact args0_1) fun X_ w_ => ?_
    have c0_ := cch; refine goT ?_; try exact trivial
  · have e : manyN l = (toldI manyF l l.length)[0]! := if_pos hka
    have ct := pToldM hl hka
    have hlo := toldI_len manyF l l.length
    have hl0 := (achk_iff.1 hka).2.1
    rw [hka] at cch
    rw [e]
    generalize toldI manyF l l.length = out at *
    refine Sound.run (N := 10) Tryz.func26 rfl (by kernel_rfl) rfl rfl rfl (by exact args0_1) fun X_ w_ => ?_
    have c0_ := cch; have c1_ := ct; refine goX @hlo ?_; try exact trivial
theorem pDeepW {l : List Sta} (hl : StaOk l) : Sound Tryz.prog 27 [.sl 2 (stas l)] (.int .i64 (deepN l)) := by
  have cch := pCheckA hl
  cases hka : achk l
  · have e : deepN l = -1 := if_neg (by rw [hka]; simp)
    rw [hka] at cch
    rw [e]
    refine Sound.run (N := 10) Tryz.func27 rfl (by kernel_rfl) rfl rfl rfl (by exact args0_1) fun X_ w_ => ?_
    have c0_ := cch; refine goT ?_; try exact trivial
  · have e : deepN l = (toldI deepF l l.length)[0]! := if_pos hka
    have ct := pToldD hl hka
    have hlo := toldI_len deepF l l.length
    have hl0 := (achk_iff.1 hka).2.1
    rw [hka] at cch
    rw [e]
    generalize toldI deepF l l.length = out at *
    refine Sound.run (N := 10) Tryz.func27 rfl (by kernel_rfl) rfl rfl rfl (by exact args0_1) fun X_ w_ => ?_
    have c0_ := cch; have c1_ := ct; refine goX @hlo ?_; try exact trivial
def hasF (l : List Sta) (w : List Int) : Bool := achk l && (match leadF l 0 w with | some t => (l[t.toNat]!).final | none => false)
theorem pHasW {l : List Sta} {w : List Int} (hl : StaOk l) (hw : w.length ≤ 9223372036854775807) : Sound Tryz.prog 25 [.sl 2 (stas l), .sl 1 (is w)] (.bool (hasF l w)) := by
  have cch := pCheckA hl
  have hlen := hl.1
  cases hka : achk l
  · have e : hasF l w = false := by unfold hasF; rw [hka]; rfl
    rw [e]
    rw [hka] at cch
    refine Sound.run (N := 35) Tryz.func25 rfl (by kernel_rfl) rfl rfl rfl (by exact args0_2) fun X_ w_ => ?_
    have c0_ := cch; refine goT ?_; try exact trivial
    refine WP_loopk (fun k : Nat => k = 0) (fun k => [(0, .d (.sl 2 (stas l))), (5, .d (.int .i64 0)), (6, .d (.bool false)), (11, .d (.sl 1 (is w))), (12, .d (.int .i64 w.length)), (13, .d (.int .i64 0))]) (fun _ => []) 0 (fun _ => 0) [0, 5, 6, 11, 12, 13] [] 0 rfl rfl rfl (Nat.zero_le _) (fun _ _ => rfl) (fun _ _ => rfl) fun k hk => ?_
    subst hk
    by_cases h0 : 0 < w.length
    · refine goT ?_; try exact trivial
    · refine goT ?_; try exact trivial
  rw [hka] at cch
  have hl0 := (achk_iff.1 hka).2.1
  have e : hasF l w = match leadF l 0 w with | some t => (l[t.toNat]!).final | none => false := by unfold hasF; rw [hka]; rfl
  rw [e]
  refine Sound.run (N := 35) Tryz.func25 rfl (by kernel_rfl) rfl rfl rfl (by exact args0_2) fun X_ w_ => ?_
  have c0_ := cch; refine goT ?_; try exact trivial
  refine WP_loopk (fun p : Nat × Option Int => p.1 ≤ w.length ∧ leadF l 0 (w.take p.1) = p.2) (fun p => [(0, .d (.sl 2 (stas l))), (5, .d (.int .i64 (p.2.getD 0))), (6, .d (.bool p.2.isSome)), (11, .d (.sl 1 (is w))), (12, .d (.int .i64 w.length)), (13, .d (.int .i64 p.1))]) (fun _ => []) 0 (fun p => w.length - p.1) [0, 5, 6, 11, 12, 13] [] (0, some 0) ⟨Nat.zero_le _, rfl⟩ rfl rfl (Nat.zero_le _) (fun _ _ => rfl) (fun _ _ => rfl) fun p hp => ?_
  obtain ⟨k, o⟩ := p
  obtain ⟨hk1, hk2⟩ := hp
  simp only at hk1 hk2
  cases o with
  | none =>
    have ef := leadF_none hk2
    by_cases hk3 : k < w.length
    · repeat (first | with_reducible exact Ev.nil | with_reducible exact gd_n | ((with_reducible apply lk_ok); rfl) | ((with_reducible apply gslot_ok); rfl) | ((with_reducible apply v2d_ok); rfl) | with_reducible apply then_n | with_reducible apply WP_seq | with_reducible apply WP_skip | ((with_reducible apply WP_r (N := 35) rfl rfl); (focus simp only [Nat.reduceAdd] <;> rfl)) | ((with_reducible apply WP_d (N := 35) mixed rfl rfl); (focus simp only [Nat.reduceAdd] <;> rfl)) | ((with_reducible apply Ev_s); (focus first | (apply gd_u; (focus rfl); rfl) | (apply gd_f; (focus rfl); (focus rfl); rfl))) | ((with_reducible apply Ev_sn); (focus first | (apply gd_u; (focus rfl); rfl) | (apply gd_f; (focus rfl); (focus rfl); rfl))) | with_reducible apply gd_t | with_reducible apply Ev_mv | with_reducible apply Ev_as | with_reducible apply Ev_mc | with_reducible apply Ev_ac | ((first | (with_reducible apply Ev_pt) | (with_reducible apply Ev_ptc)); (focus rfl)) | ((first | (with_reducible apply Ev_pf) | (with_reducible apply Ev_pfc)); (focus rfl)) | ((with_reducible apply Ev_d); (focus simp only [Nat.reduceAdd] <;> rfl); (focus simp (disch := omega) only [go_sem, ef, Option.getD_none, Option.isSome_none] <;> rfl)) | ((first | (with_reducible apply Ev_od) | (with_reducible apply Ev_on)); (focus simp only [Nat.reduceAdd] <;> rfl); (focus simp (disch := omega) only [go_sem, ef, Option.getD_none, Option.isSome_none] <;> rfl); (focus first | (simp (disch := omega) only [go_sem, ef, Option.getD_none, Option.isSome_none] <;> rfl) | rfl)) | with_reducible apply endM_n | with_reducible apply endM_r | with_reducible apply then_r | with_reducible apply then_x | with_reducible apply block_n | with_reducible apply block_r | with_reducible apply block_x | with_reducible apply block_y rfl | with_reducible apply scope_n | with_reducible apply scope_r | with_reducible apply scope_x | with_reducible apply end_n | with_reducible apply end_r | with_reducible apply WP_block | with_reducible apply WP_exit | with_reducible apply WP_ret | with_reducible apply WP_label | with_reducible apply WP_scope | ((with_reducible apply WP_t); (focus first | (simp (disch := omega) only [go_sem, ef, Option.getD_none, Option.isSome_none] <;> rfl) | rfl)) | ((with_reducible apply WP_f); (focus first | (simp (disch := omega) only [go_sem, ef, Option.getD_none, Option.isSome_none] <;> rfl) | rfl)) | ((with_reducible apply resD_t); (focus rfl)) | ((with_reducible apply resD_2); (focus rfl); (focus rfl)) | (with_reducible rfl) | ((with_reducible show List.map outKeys _ = _); simp only [List.map_cons, List.map_nil, outKeys, keys]; rfl) | ((with_reducible show orderOk _ _ = true); kernel_rfl) | ((with_reducible show _ = _); simp (disch := omega) only [go_sem, ef, Option.getD_none, Option.isSome_none] <;> rfl) | ((fail_if_success (with_reducible show Ev _ _ _ _ (_ :: _) _ _ _ _ _)); (show Ev _ _ _ _ (_ :: _) _ _ _ _ _)) | fail)
    · repeat (first | with_reducible exact Ev.nil | with_reducible exact gd_n | ((with_reducible apply lk_ok); rfl) | ((with_reducible apply gslot_ok); rfl) | ((with_reducible apply v2d_ok); rfl) | with_reducible apply then_n | with_reducible apply WP_seq | with_reducible apply WP_skip | ((with_reducible apply WP_r (N := 35) rfl rfl); (focus simp only [Nat.reduceAdd] <;> rfl)) | ((with_reducible apply WP_d (N := 35) mixed rfl rfl); (focus simp only [Nat.reduceAdd] <;> rfl)) | ((with_reducible apply Ev_s); (focus first | (apply gd_u; (focus rfl); rfl) | (apply gd_f; (focus rfl); (focus rfl); rfl))) | ((with_reducible apply Ev_sn); (focus first | (apply gd_u; (focus rfl); rfl) | (apply gd_f; (focus rfl); (focus rfl); rfl))) | with_reducible apply gd_t | with_reducible apply Ev_mv | with_reducible apply Ev_as | with_reducible apply Ev_mc | with_reducible apply Ev_ac | ((first | (with_reducible apply Ev_pt) | (with_reducible apply Ev_ptc)); (focus rfl)) | ((first | (with_reducible apply Ev_pf) | (with_reducible apply Ev_pfc)); (focus rfl)) | ((with_reducible apply Ev_d); (focus simp only [Nat.reduceAdd] <;> rfl); (focus simp (disch := omega) only [go_sem, ef, Option.getD_none, Option.isSome_none] <;> rfl)) | ((first | (with_reducible apply Ev_od) | (with_reducible apply Ev_on)); (focus simp only [Nat.reduceAdd] <;> rfl); (focus simp (disch := omega) only [go_sem, ef, Option.getD_none, Option.isSome_none] <;> rfl); (focus first | (simp (disch := omega) only [go_sem, ef, Option.getD_none, Option.isSome_none] <;> rfl) | rfl)) | with_reducible apply endM_n | with_reducible apply endM_r | with_reducible apply then_r | with_reducible apply then_x | with_reducible apply block_n | with_reducible apply block_r | with_reducible apply block_x | with_reducible apply block_y rfl | with_reducible apply scope_n | with_reducible apply scope_r | with_reducible apply scope_x | with_reducible apply end_n | with_reducible apply end_r | with_reducible apply WP_block | with_reducible apply WP_exit | with_reducible apply WP_ret | with_reducible apply WP_label | with_reducible apply WP_scope | ((with_reducible apply WP_t); (focus first | (simp (disch := omega) only [go_sem, ef, Option.getD_none, Option.isSome_none] <;> rfl) | rfl)) | ((with_reducible apply WP_f); (focus first | (simp (disch := omega) only [go_sem, ef, Option.getD_none, Option.isSome_none] <;> rfl) | rfl)) | ((with_reducible apply resD_t); (focus rfl)) | ((with_reducible apply resD_2); (focus rfl); (focus rfl)) | (with_reducible rfl) | ((with_reducible show List.map outKeys _ = _); simp only [List.map_cons, List.map_nil, outKeys, keys]; rfl) | ((with_reducible show orderOk _ _ = true); kernel_rfl) | ((with_reducible show _ = _); simp (disch := omega) only [go_sem, ef, Option.getD_none, Option.isSome_none] <;> rfl) | ((fail_if_success (with_reducible show Ev _ _ _ _ (_ :: _) _ _ _ _ _)); (show Ev _ _ _ _ (_ :: _) _ _ _ _ _)) | fail)
  | some t =>
    by_cases hk3 : k < w.length
    · have cs := pStep (f := t) (z := w[k]!) hl
      have hst := leadF_take (l := l) (f := 0) hk3
      rw [hk2] at hst
      simp only at hst
      cases hsf : stepF l t (w[k]!) with
      | none =>
        rw [hsf] at cs hst
        unfold stepR at cs
        have c0_ := cs; repeat (first | with_reducible exact Ev.nil | with_reducible exact gd_n | ((with_reducible apply lk_ok); rfl) | ((with_reducible apply gslot_ok); rfl) | ((with_reducible apply v2d_ok); rfl) | with_reducible apply then_n | with_reducible apply WP_seq | with_reducible apply WP_skip | ((with_reducible apply WP_r (N := 35) rfl rfl); (focus simp only [Nat.reduceAdd] <;> rfl)) | ((with_reducible apply WP_d (N := 35) mixed rfl rfl); (focus simp only [Nat.reduceAdd] <;> rfl)) | ((with_reducible apply Ev_s); (focus first | (apply gd_u; (focus rfl); rfl) | (apply gd_f; (focus rfl); (focus rfl); rfl))) | ((with_reducible apply Ev_sn); (focus first | (apply gd_u; (focus rfl); rfl) | (apply gd_f; (focus rfl); (focus rfl); rfl))) | with_reducible apply gd_t | with_reducible apply Ev_mv | with_reducible apply Ev_as | with_reducible apply Ev_mc | with_reducible apply Ev_ac | ((first | (with_reducible apply Ev_pt) | (with_reducible apply Ev_ptc)); (focus rfl)) | ((first | (with_reducible apply Ev_pf) | (with_reducible apply Ev_pfc)); (focus rfl)) | (apply Ev_cf; (focus simp (disch := omega) only [go_sem, Option.getD_some, Option.isSome_some] <;> rfl); (focus first | exact c0_); (focus rfl); (focus first | (simp (disch := omega) only [go_sem, Option.getD_some, Option.isSome_some] <;> rfl) | rfl)) | ((with_reducible apply Ev_d); (focus simp only [Nat.reduceAdd] <;> rfl); (focus simp (disch := omega) only [go_sem, Option.getD_some, Option.isSome_some] <;> rfl)) | (apply Ev_cv; (focus rfl); (focus simp (disch := omega) only [go_sem, Option.getD_some, Option.isSome_some] <;> rfl); (focus first | exact c0_); (iterate 3 (focus first | (simp (disch := omega) only [go_sem, Option.getD_some, Option.isSome_some] <;> rfl) | rfl))) | ((first | apply Ev_cmd | apply Ev_cmn); (focus simp only [Nat.reduceAdd] <;> rfl); (focus rfl); (iterate 2 (focus simp (disch := omega) only [go_sem, Option.getD_some, Option.isSome_some] <;> rfl)); (first | ((focus first | exact c0_); (iterate 2 (focus first | (simp (disch := omega) only [go_sem, Option.getD_some, Option.isSome_some] <;> rfl) | rfl)); (focus rfl); (iterate 3 (focus first | (simp (disch := omega) only [go_sem, Option.getD_some, Option.isSome_some] <;> rfl) | rfl))))) | ((first | (with_reducible apply Ev_od) | (with_reducible apply Ev_on)); (focus simp only [Nat.reduceAdd] <;> rfl); (focus simp (disch := omega) only [go_sem, Option.getD_some, Option.isSome_some] <;> rfl); (focus first | (simp (disch := omega) only [go_sem, Option.getD_some, Option.isSome_some] <;> rfl) | rfl)) | with_reducible apply endM_n | with_reducible apply endM_r | with_reducible apply then_r | with_reducible apply then_x | with_reducible apply block_n | with_reducible apply block_r | with_reducible apply block_x | with_reducible apply block_y rfl | with_reducible apply scope_n | with_reducible apply scope_r | with_reducible apply scope_x | with_reducible apply end_n | with_reducible apply end_r | with_reducible apply WP_block | with_reducible apply WP_exit | with_reducible apply WP_ret | with_reducible apply WP_label | with_reducible apply WP_scope | ((with_reducible apply WP_t); (focus first | (simp (disch := omega) only [go_sem, Option.getD_some, Option.isSome_some] <;> rfl) | rfl)) | ((with_reducible apply WP_f); (focus first | (simp (disch := omega) only [go_sem, Option.getD_some, Option.isSome_some] <;> rfl) | rfl)) | ((with_reducible apply resD_t); (focus rfl)) | ((with_reducible apply resD_2); (focus rfl); (focus rfl)) | (with_reducible rfl) | ((with_reducible show List.map outKeys _ = _); simp only [List.map_cons, List.map_nil, outKeys, keys]; rfl) | ((with_reducible show orderOk _ _ = true); kernel_rfl) | ((with_reducible show _ = _); simp (disch := omega) only [go_sem, Option.getD_some, Option.isSome_some] <;> rfl) | ((fail_if_success (with_reducible show Ev _ _ _ _ (_ :: _) _ _ _ _ _)); (show Ev _ _ _ _ (_ :: _) _ _ _ _ _)) | fail)
        refine ⟨(k + 1, none), ⟨by show k + 1 ≤ _; omega, hst⟩, ?_, rfl, by show w.length - (k + 1) < w.length - k; omega⟩
        simp (disch := omega) only [go_sem, keepL, Int.natCast_add, Int.cast_ofNat_Int, Option.getD_none, Option.isSome_none]
      | some u =>
        rw [hsf] at cs hst
        unfold stepR at cs
        have c0_ := cs; repeat (first | with_reducible exact Ev.nil | with_reducible exact gd_n | ((with_reducible apply lk_ok); rfl) | ((with_reducible apply gslot_ok); rfl) | ((with_reducible apply v2d_ok); rfl) | with_reducible apply then_n | with_reducible apply WP_seq | with_reducible apply WP_skip | ((with_reducible apply WP_r (N := 35) rfl rfl); (focus simp only [Nat.reduceAdd] <;> rfl)) | ((with_reducible apply WP_d (N := 35) mixed rfl rfl); (focus simp only [Nat.reduceAdd] <;> rfl)) | ((with_reducible apply Ev_s); (focus first | (apply gd_u; (focus rfl); rfl) | (apply gd_f; (focus rfl); (focus rfl); rfl))) | ((with_reducible apply Ev_sn); (focus first | (apply gd_u; (focus rfl); rfl) | (apply gd_f; (focus rfl); (focus rfl); rfl))) | with_reducible apply gd_t | with_reducible apply Ev_mv | with_reducible apply Ev_as | with_reducible apply Ev_mc | with_reducible apply Ev_ac | ((first | (with_reducible apply Ev_pt) | (with_reducible apply Ev_ptc)); (focus rfl)) | ((first | (with_reducible apply Ev_pf) | (with_reducible apply Ev_pfc)); (focus rfl)) | (apply Ev_cf; (focus simp (disch := omega) only [go_sem, Option.getD_some, Option.isSome_some] <;> rfl); (focus first | exact c0_); (focus rfl); (focus first | (simp (disch := omega) only [go_sem, Option.getD_some, Option.isSome_some] <;> rfl) | rfl)) | ((with_reducible apply Ev_d); (focus simp only [Nat.reduceAdd] <;> rfl); (focus simp (disch := omega) only [go_sem, Option.getD_some, Option.isSome_some] <;> rfl)) | (apply Ev_cv; (focus rfl); (focus simp (disch := omega) only [go_sem, Option.getD_some, Option.isSome_some] <;> rfl); (focus first | exact c0_); (iterate 3 (focus first | (simp (disch := omega) only [go_sem, Option.getD_some, Option.isSome_some] <;> rfl) | rfl))) | ((first | apply Ev_cmd | apply Ev_cmn); (focus simp only [Nat.reduceAdd] <;> rfl); (focus rfl); (iterate 2 (focus simp (disch := omega) only [go_sem, Option.getD_some, Option.isSome_some] <;> rfl)); (first | ((focus first | exact c0_); (iterate 2 (focus first | (simp (disch := omega) only [go_sem, Option.getD_some, Option.isSome_some] <;> rfl) | rfl)); (focus rfl); (iterate 3 (focus first | (simp (disch := omega) only [go_sem, Option.getD_some, Option.isSome_some] <;> rfl) | rfl))))) | ((first | (with_reducible apply Ev_od) | (with_reducible apply Ev_on)); (focus simp only [Nat.reduceAdd] <;> rfl); (focus simp (disch := omega) only [go_sem, Option.getD_some, Option.isSome_some] <;> rfl); (focus first | (simp (disch := omega) only [go_sem, Option.getD_some, Option.isSome_some] <;> rfl) | rfl)) | with_reducible apply endM_n | with_reducible apply endM_r | with_reducible apply then_r | with_reducible apply then_x | with_reducible apply block_n | with_reducible apply block_r | with_reducible apply block_x | with_reducible apply block_y rfl | with_reducible apply scope_n | with_reducible apply scope_r | with_reducible apply scope_x | with_reducible apply end_n | with_reducible apply end_r | with_reducible apply WP_block | with_reducible apply WP_exit | with_reducible apply WP_ret | with_reducible apply WP_label | with_reducible apply WP_scope | ((with_reducible apply WP_t); (focus first | (simp (disch := omega) only [go_sem, Option.getD_some, Option.isSome_some] <;> rfl) | rfl)) | ((with_reducible apply WP_f); (focus first | (simp (disch := omega) only [go_sem, Option.getD_some, Option.isSome_some] <;> rfl) | rfl)) | ((with_reducible apply resD_t); (focus rfl)) | ((with_reducible apply resD_2); (focus rfl); (focus rfl)) | (with_reducible rfl) | ((with_reducible show List.map outKeys _ = _); simp only [List.map_cons, List.map_nil, outKeys, keys]; rfl) | ((with_reducible show orderOk _ _ = true); kernel_rfl) | ((with_reducible show _ = _); simp (disch := omega) only [go_sem, Option.getD_some, Option.isSome_some] <;> rfl) | ((fail_if_success (with_reducible show Ev _ _ _ _ (_ :: _) _ _ _ _ _)); (show Ev _ _ _ _ (_ :: _) _ _ _ _ _)) | fail)
        refine ⟨(k + 1, some u), ⟨by show k + 1 ≤ _; omega, hst⟩, ?_, rfl, by show w.length - (k + 1) < w.length - k; omega⟩
        simp (disch := omega) only [go_sem, keepL, Int.natCast_add, Int.cast_ofNat_Int, Option.getD_some, Option.isSome_some]
    · have hkl : k = w.length := by omega
      subst hkl
      rw [List.take_length] at hk2
      have hin := leadF_in hka (Int.le_refl 0) (by omega) hk2
      rw [hk2]
      obtain ⟨x, rfl⟩ := Int.eq_ofNat_of_zero_le (by omega : 0 ≤ t)
      repeat (first | with_reducible exact Ev.nil | with_reducible exact gd_n | ((with_reducible apply lk_ok); rfl) | ((with_reducible apply gslot_ok); rfl) | ((with_reducible apply v2d_ok); rfl) | with_reducible apply then_n | with_reducible apply WP_seq | with_reducible apply WP_skip | ((with_reducible apply WP_r (N := 35) rfl rfl); (focus simp only [Nat.reduceAdd] <;> rfl)) | ((with_reducible apply WP_d (N := 35) mixed rfl rfl); (focus simp only [Nat.reduceAdd] <;> rfl)) | ((with_reducible apply Ev_s); (focus first | (apply gd_u; (focus rfl); rfl) | (apply gd_f; (focus rfl); (focus rfl); rfl))) | ((with_reducible apply Ev_sn); (focus first | (apply gd_u; (focus rfl); rfl) | (apply gd_f; (focus rfl); (focus rfl); rfl))) | with_reducible apply gd_t | with_reducible apply Ev_mv | with_reducible apply Ev_as | with_reducible apply Ev_mc | with_reducible apply Ev_ac | ((first | (with_reducible apply Ev_pt) | (with_reducible apply Ev_ptc)); (focus rfl)) | ((first | (with_reducible apply Ev_pf) | (with_reducible apply Ev_pfc)); (focus rfl)) | ((with_reducible apply Ev_d); (focus simp only [Nat.reduceAdd] <;> rfl); (focus simp (disch := omega) only [go_sem, Option.getD_some, Option.isSome_some, Int.toNat_natCast] <;> rfl)) | ((first | (with_reducible apply Ev_od) | (with_reducible apply Ev_on)); (focus simp only [Nat.reduceAdd] <;> rfl); (focus simp (disch := omega) only [go_sem, Option.getD_some, Option.isSome_some, Int.toNat_natCast] <;> rfl); (focus first | (simp (disch := omega) only [go_sem, Option.getD_some, Option.isSome_some, Int.toNat_natCast] <;> rfl) | rfl)) | with_reducible apply endM_n | with_reducible apply endM_r | with_reducible apply then_r | with_reducible apply then_x | with_reducible apply block_n | with_reducible apply block_r | with_reducible apply block_x | with_reducible apply block_y rfl | with_reducible apply scope_n | with_reducible apply scope_r | with_reducible apply scope_x | with_reducible apply end_n | with_reducible apply end_r | with_reducible apply WP_block | with_reducible apply WP_exit | with_reducible apply WP_ret | with_reducible apply WP_label | with_reducible apply WP_scope | ((with_reducible apply WP_t); (focus first | (simp (disch := omega) only [go_sem, Option.getD_some, Option.isSome_some, Int.toNat_natCast] <;> rfl) | rfl)) | ((with_reducible apply WP_f); (focus first | (simp (disch := omega) only [go_sem, Option.getD_some, Option.isSome_some, Int.toNat_natCast] <;> rfl) | rfl)) | ((with_reducible apply resD_t); (focus rfl)) | ((with_reducible apply resD_2); (focus rfl); (focus rfl)) | (with_reducible rfl) | ((with_reducible show List.map outKeys _ = _); simp only [List.map_cons, List.map_nil, outKeys, keys]; rfl) | ((with_reducible show orderOk _ _ = true); kernel_rfl) | ((with_reducible show _ = _); simp (disch := omega) only [go_sem, Option.getD_some, Option.isSome_some, Int.toNat_natCast] <;> rfl) | ((fail_if_success (with_reducible show Ev _ _ _ _ (_ :: _) _ _ _ _ _)); (show Ev _ _ _ _ (_ :: _) _ _ _ _ _)) | fail)
end Go.Eng.Tryz

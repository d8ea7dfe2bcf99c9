/- Words in order, each once: whatever they are. (and what stands behind it: texts laid together) -/
import Derived.Test.YtabfoaoeghikoaaGreatDoorMG4
import Derived.Test.YtabfoaoeghikoaaGreatDoorMR6
import Derived.Test.YtabfoaoeghikoaaGreatDoorMR5
import Derived.Test.YtabfoaoeghikoaaGreatDoorMR2
set_option linter.unusedVariables false
set_option linter.unusedSimpArgs false
namespace Go.Eng.Tryz
open Go Go.Eng Go.Proofs Go.RowKit
attribute [local go_sem] ty0 ty1 ty2 ty3 ty4 ty5 ty6 ty7 ty8 ty9 ty10 ty11 ty12 ty13 ty14 ty15 ty16 ty17 ty18
attribute [local go_sem] is_len is_get iss_len iss_get iss_snoc bys_len bys_snoc bys_app
theorem iss_take {l : List (List Int)} {k : Nat} : (iss l).take k = iss (l.take k) := by simp [iss, List.map_take]
theorem iss_set {l : List (List Int)} {k : Nat} {w : List Int} : (iss l).set k (.sl 1 (is w)) = iss (l.set k w) := by simp [iss, List.map_set]
theorem getB_setW {l : List (List Int)} {i j : Nat} {v : List Int} (h : i < l.length) : (l.set i v)[j]! = if j = i then v else l[j]! := by
  by_cases e : j = i
  · subst e; rw [if_pos rfl]; simp [List.getElem!_eq_getElem?_getD, List.getElem?_set_self h]
  · rw [if_neg e]; simp [List.getElem!_eq_getElem?_getD, List.getElem?_set_ne (fun h => e h.symm)]
/-- Words in order, those that are alike side by side. -/
def wsorted (l : List (List Int)) : List (List Int) := l.mergeSort fun a b => decide (¬ wcmp b a < 0)
theorem wsorted_perm (l : List (List Int)) : (wsorted l).Perm l := List.mergeSort_perm _ _
theorem wsorted_ord (l : List (List Int)) : (wsorted l).Pairwise (fun a b => ¬ wcmp b a < 0) := by
  have := List.pairwise_mergeSort (le := fun a b => decide (¬ wcmp b a < 0)) (fun a b c h1 h2 => by
    simp only [decide_eq_true_eq] at h1 h2 ⊢
    intro h
    have := wcmp_le_trans a b c (by have := wcmp_swap a b; omega) (by have := wcmp_swap b c; omega)
    have := wcmp_swap a c
    omega) (fun a b => by
    simp only [Bool.or_eq_true, decide_eq_true_eq]
    have := wcmp_swap a b
    omega) l
  exact this.imp fun {a b} h => by simpa using h
theorem wsorted_len (l : List (List Int)) : (wsorted l).length = l.length := (wsorted_perm l).length_eq
/-- In order, and none twice: they rise. -/
theorem srt_of {l : List (List Int)} (h : l.Pairwise (fun a b => ¬ wcmp b a < 0)) (hd : ∀ j, j + 1 < l.length → l[j + 1]! ≠ l[j]!) : SrtW l := by
  have h1 : ∀ j, j + 1 < l.length → wcmp (l[j]!) (l[j + 1]!) < 0 := fun j hj => by
    have a1 := List.pairwise_iff_getElem.1 h j (j + 1) (by omega) hj (by omega)
    rw [← getElem!_pos l j (by omega), ← getElem!_pos l (j + 1) hj] at a1
    have a2 := wcmp_swap (l[j]!) (l[j + 1]!)
    have a3 : wcmp (l[j]!) (l[j + 1]!) ≠ 0 := fun e => hd j hj ((wcmp_eq _ _).1 e).symm
    omega
  unfold SrtW
  rw [List.pairwise_iff_getElem]
  intro i j hi hj hij
  have h2 : ∀ d, i + d + 1 < l.length → wcmp (l[i]!) (l[i + d + 1]!) < 0 := fun d => by
    induction d with
    | zero => exact h1 i
    | succ d ih =>
      intro hd
      have := ih (by omega)
      have := h1 (i + d + 1) (by omega)
      exact wcmp_lt_trans ‹wcmp (l[i]!) (l[i + d + 1]!) < 0› (by rw [show i + (d + 1) + 1 = i + d + 1 + 1 by omega]; omega)
  have := h2 (j - i - 1) (by omega)
  rw [show i + (j - i - 1) + 1 = j by omega, getElem!_pos l i hi, getElem!_pos l j hj] at this
  exact this
/-- What is left when the second one of two that are alike falls away: from place d on, behind j steps. -/
def cstep (l : List (List Int)) (d j : Nat) (s : List (List Int) × Nat) : List (List Int) × Nat := if l[d + j + 1]! = l[d + j]! then s else (s.1.set s.2 (l[d + j + 1]!), s.2 + 1)
def crun (l : List (List Int)) (d j : Nat) : List (List Int) × Nat := (List.range j).foldl (fun s j => cstep l d j s) (l, d)
theorem crun_step (l : List (List Int)) (d j : Nat) : crun l d (j + 1) = cstep l d j (crun l d j) := by simp [crun, List.range_succ]
theorem crun_inv (l : List (List Int)) (d : Nat) : ∀ j, d + j + 1 ≤ l.length → (crun l d j).1.length = l.length ∧ d ≤ (crun l d j).2 ∧ (crun l d j).2 ≤ d + j ∧ ∀ q, d + j ≤ q → (crun l d j).1[q]! = l[q]! := by
  intro j
  induction j with
  | zero => intro _; exact ⟨rfl, Nat.le_refl _, Nat.le_refl _, fun q _ => rfl⟩
  | succ j ih =>
    intro hj
    obtain ⟨h1, h2, h3, h4⟩ := ih (by omega)
    rw [crun_step]
    unfold cstep
    split
    · exact ⟨h1, h2, by omega, fun q hq => h4 q (by omega)⟩
    · refine ⟨by simp [h1], by simp only; omega, by simp only; omega, fun q hq => ?_⟩
      simp only
      rw [getB_setW (by omega), if_neg (by omega)]
      exact h4 q (by omega)
attribute [local go_sem] iss_set
set_option maxHeartbeats 8000000 in
set_option maxRecDepth 10000 in
/-- Where some are alike there are fewer behind it. -/
theorem pCompactD {l : List (List Int)} (hl : WsOk l) (hmax : l.length ≤ 1000000) {d : Nat} (hd0 : d + 1 < l.length) (hd : l[d + 1]! = l[d]!) (hlt : ∀ j, j < d → l[j + 1]! ≠ l[j]!) :
    ∃ L : List (List Int), L.length < l.length ∧ SoundM Tryz.prog 134 [.own 0 l.length, .d (.fn 135)] [(0, .row 36 1 (iss l))] (.own 612002 L.length) [(612002, .row 36 1 (iss L))] 1 := by
  obtain ⟨n, hn⟩ : ∃ n, l.length = d + 2 + n := ⟨l.length - d - 2, by omega⟩
  have hfin := crun_inv l (d + 1) n (by omega)
  refine ⟨(crun l (d + 1) n).1.take (crun l (d + 1) n).2, by simp; omega, ?_⟩
  have hlen := hl.1
  refine SoundM.run (N := 66) (ks := [612002]) Tryz.func134 rfl (by kernel_rfl) rfl rfl rfl (by first | exact argsA_0 | exact argsA_1 | exact argsA_2 | exact argsA_3 | exact argsA_4 | exact argsA_5 | exact argsA_6) fun X_ ν_ w_ => ?_
  have h2 : ¬ l.length < 2 := by omega
  refine goT ?_; first | exact trivial | skip
  refine WP_loopk (fun k : Nat => 1 ≤ k ∧ k ≤ d + 1) (fun k => [(0, .own 0 l.length), (1, .d (.fn 135)), (5, .d (.int .i64 k))]) (fun _ => [(0, .row 36 1 (iss l))]) 600000 (fun k => l.length - k) [0, 1, 5] [0] 1 ⟨Nat.le_refl _, by omega⟩ rfl rfl (Nat.le_of_ble_eq_true rfl) (fun _ _ => rfl) (fun _ _ => rfl) fun k hk => ?_
  obtain ⟨hk1, hk2⟩ := hk
  obtain ⟨m, rfl⟩ : ∃ m, k = m + 1 := ⟨k - 1, by omega⟩
  have em : ((m + 1 : Nat) : Int) - 1 = m := by omega
  have c := pEq2 (hl.get (k := m + 1) (by omega)) (hl.get (k := m) (by omega))
  have hml : m + 1 < l.length := by omega
  by_cases hk3 : m < d
  · have h2 : decide (l[m + 1]! = l[m]!) = false := decide_eq_false (hlt m hk3)
    rw [h2] at c
    have c0_ := c; refine goX @em ?_; first | exact trivial | skip
    refine ⟨m + 1 + 1, ⟨by omega, by omega⟩, ?_, ?_, by omega⟩
    · simp (disch := omega) only [go_sem, keepL, Int.natCast_add, Int.cast_ofNat_Int]
    · simp (disch := omega) only [go_sem, keepL]
  · have hmd : m = d := by omega
    subst hmd
    have h2 : decide (l[m + 1]! = l[m]!) = true := decide_eq_true hd
    rw [h2] at c
    have c0_ := c; refine goX @em ?_; first | exact trivial | skip
    have eb : ((l.length : Int) - ((m : Int) + 1)) = ((n + 1 : Nat) : Int) := by omega
    refine WP_loopk (fun j : Nat => j ≤ n) (fun j => [(0, .own 0 l.length), (1, .d (.fn 135)), (5, .d (.int .i64 (crun l (m + 1) j).2)), (6, .rv 0 l.length (m + 1) (l.length - (m + 1)) 1), (7, .d (.int .i64 ((j : Int) + 1)))]) (fun j => [(0, .row 36 1 (iss (crun l (m + 1) j).1))]) 610000 (fun j => n - j) [0, 1, 5, 6, 7] [0] 0 (Nat.zero_le _) rfl rfl (Nat.le_of_ble_eq_true rfl) (fun _ _ => rfl) (fun _ _ => rfl) fun j hj => ?_
    obtain ⟨i1, i2, i3, i4⟩ := crun_inv l (m + 1) j (by omega)
    by_cases hj3 : j < n
    · have hst := crun_step l (m + 1) j
      unfold cstep at hst
      generalize crun l (m + 1) j = S at i1 i2 i3 i4 hst ⊢
      obtain ⟨R, k⟩ := S
      simp only at i1 i2 i3 i4 hst ⊢
      have et : ((j : Int) + 1).toNat = j + 1 := by omega
      have eu : (j : Int) + 1 - 1 = (j : Int) := by omega
      have ea : m + 1 + (j + 1) = m + 1 + j + 1 := by omega
      have r1 : R[m + 1 + j + 1]! = l[m + 1 + j + 1]! := i4 _ (by omega)
      have r2 : R[m + 1 + j]! = l[m + 1 + j]! := i4 _ (by omega)
      have c := pEq2 (hl.get (k := m + 1 + j + 1) (by omega)) (hl.get (k := m + 1 + j) (by omega))
      by_cases he : l[m + 1 + j + 1]! = l[m + 1 + j]!
      · rw [decide_eq_true he] at c
        rw [if_pos he] at hst
        have c0_ := c; refine goX (And.intro @ea (And.intro @et (And.intro @eu (And.intro @r1 (And.intro @r2 (And.intro @i1 @Int.toNat_natCast)))))) ?_; first | exact trivial | skip
        refine ⟨j + 1, by omega, ?_, ?_, by omega⟩
        · simp (disch := omega) only [go_sem, keepL, Int.natCast_add, Int.cast_ofNat_Int, hst]
        · simp (disch := omega) only [go_sem, keepL, hst]
      · rw [decide_eq_false he] at c
        rw [if_neg he] at hst
        have c0_ := c; refine goX (And.intro @ea (And.intro @et (And.intro @eu (And.intro @r1 (And.intro @r2 (And.intro @i1 @Int.toNat_natCast)))))) ?_; first | exact trivial | skip
        refine ⟨j + 1, by omega, ?_, ?_, by omega⟩
        · simp (disch := omega) only [go_sem, keepL, Int.natCast_add, Int.cast_ofNat_Int, hst]
        · simp (disch := omega) only [go_sem, keepL, hst]
    · have hjn : j = n := by omega
      subst hjn
      generalize crun l (m + 1) j = S at i1 i2 i3 i4 hfin ⊢
      obtain ⟨R, k⟩ := S
      simp only at i1 i2 i3 i4 hfin ⊢
      have e1 : min k l.length = k := by omega
      have e2 : k + (l.length - k) = l.length := by omega
      have e3 : List.take k (List.take k (iss R) ++ List.replicate (l.length - k) D.nils) = iss (R.take k) := by
        rw [List.take_append_of_le_length (by simp [iss]; omega), List.take_take, Nat.min_self, iss_take]
      have e4 : (List.take k R).length = k := by simp; omega
      rw [e4]
      repeat (first | with_reducible exact Ev.nil | with_reducible exact gd_n | ((with_reducible apply lk_ok); rfl) | ((with_reducible apply gslot_ok); rfl) | ((with_reducible apply v2d_ok); rfl) | with_reducible apply then_n | with_reducible apply WP_seq | with_reducible apply WP_skip | ((with_reducible apply WP_r (N := 66) rfl rfl); (focus simp only [Nat.reduceAdd] <;> rfl)) | ((with_reducible apply WP_d (N := 66) mixed rfl rfl); (focus simp only [Nat.reduceAdd] <;> rfl)) | ((with_reducible apply Ev_s); (focus first | (apply gd_u; (focus rfl); rfl) | (apply gd_f; (focus rfl); (focus rfl); rfl))) | ((with_reducible apply Ev_sn); (focus first | (apply gd_u; (focus rfl); rfl) | (apply gd_f; (focus rfl); (focus rfl); rfl))) | with_reducible apply gd_t | with_reducible apply Ev_mv | with_reducible apply Ev_as | with_reducible apply Ev_mc | with_reducible apply Ev_ac | ((first | (with_reducible apply Ev_pt) | (with_reducible apply Ev_ptc)); (focus rfl)) | ((first | (with_reducible apply Ev_pf) | (with_reducible apply Ev_pfc)); (focus rfl)) | ((with_reducible apply Ev_d); (focus simp only [Nat.reduceAdd] <;> rfl); (focus simp (disch := omega) only [go_sem, i1, e1, e2, e3, List.length_take, List.length_replicate] <;> rfl)) | ((first | (with_reducible apply Ev_od) | (with_reducible apply Ev_on)); (focus simp only [Nat.reduceAdd] <;> rfl); (focus simp (disch := omega) only [go_sem, i1, e1, e2, e3, List.length_take, List.length_replicate] <;> rfl); (focus first | (simp (disch := omega) only [go_sem, i1, e1, e2, e3, List.length_take, List.length_replicate] <;> rfl) | rfl)) | with_reducible apply endM_n | with_reducible apply endM_r | with_reducible apply then_r | with_reducible apply then_x | with_reducible apply block_n | with_reducible apply block_r | with_reducible apply block_x | with_reducible apply block_y rfl | with_reducible apply scope_n | with_reducible apply scope_r | with_reducible apply scope_x | with_reducible apply end_n | with_reducible apply end_r | with_reducible apply WP_block | with_reducible apply WP_exit | with_reducible apply WP_ret | with_reducible apply WP_label | with_reducible apply WP_scope | ((with_reducible apply WP_t); (focus first | (simp (disch := omega) only [go_sem, i1, e1, e2, e3, List.length_take, List.length_replicate] <;> rfl) | rfl)) | ((with_reducible apply WP_f); (focus first | (simp (disch := omega) only [go_sem, i1, e1, e2, e3, List.length_take, List.length_replicate] <;> rfl) | rfl)) | ((with_reducible apply resD_t); (focus rfl)) | ((with_reducible apply resD_2); (focus rfl); (focus rfl)) | (with_reducible rfl) | ((with_reducible show List.map outKeys _ = _); simp only [List.map_cons, List.map_nil, outKeys, keys]; rfl) | ((with_reducible show orderOk _ _ = true); kernel_rfl) | ((with_reducible show _ = _); simp (disch := omega) only [go_sem, i1, e1, e2, e3, List.length_take, List.length_replicate] <;> rfl) | ((fail_if_success (with_reducible show Ev _ _ _ _ (_ :: _) _ _ _ _ _)); (show Ev _ _ _ _ (_ :: _) _ _ _ _ _)) | fail)
/-! ### Nothing at all -/
set_option maxRecDepth 10000 in
theorem bitsLen0W : Sound Tryz.prog 108 [.int .u64 0] (.int .i64 0) := by
  intro w M vs hW hM hl hv
  match vs, hl with
  | [v], _ =>
  have := hv 0 _ v rfl rfl
  cases this
  have L := Tryz.sortWord
  have eg : ∀ args w, (callFunc 108 args).run Tryz.prog w = .ok (.enter 108 args) w := enters_of Tryz.func108 (by kernel_rfl) rfl
  have h := Any.bits_Len (SlLaysF0.n15.bits (P := Tryz.prog) (ρ := Tryz.sortWord_ren) { L with }) (0 : Int) w (by decide) (by decide)
  refine .inr ⟨eg _ _, ?_⟩
  refine Calls.mono (P := Tryz.prog) h ?_
  rintro e w' ⟨rfl, rfl⟩
  exact ⟨_, rfl, .int _ _, Bl.refl _ _⟩
theorem insW0 : SoundM Tryz.prog 194 [.own 0 0, .d (.int .i64 0), .d (.int .i64 0), .d (.fn 133)] [(0, .row 36 1 [])] (.tup []) [(0, .row 36 1 [])] 1 := by
  refine SoundM.run (N := 53) (ks := [0]) Tryz.func194 rfl (by kernel_rfl) rfl rfl rfl (by first | exact argsA_0 | exact argsA_1 | exact argsA_2 | exact argsA_3 | exact argsA_4 | exact argsA_5 | exact argsA_6) fun X_ ν_ w_ => ?_
  refine goT ?_; first | exact trivial | skip
  refine WP_once ?_
  refine goT ?_; first | exact trivial | skip
set_option maxRecDepth 10000 in
theorem pdqW0 : SoundM Tryz.prog 171 [.own 0 0, .d (.int .i64 0), .d (.int .i64 0), .d (.int .i64 0), .d (.fn 133)] [(0, .row 36 1 [])] (.tup []) [(0, .row 36 1 [])] 1 := by
  refine SoundM.run (N := 148) (ks := [0]) Tryz.func171 rfl (by kernel_rfl) rfl rfl rfl (by first | exact argsA_0 | exact argsA_1 | exact argsA_2 | exact argsA_3 | exact argsA_4 | exact argsA_5 | exact argsA_6) fun X_ ν_ w_ => ?_
  have c0_ := insW0; refine goT ?_; first | exact trivial | skip
  refine WP_once ?_
  have c0_ := insW0; refine goT ?_; first | exact trivial | skip
set_option maxRecDepth 100000 in
theorem pSortW0 : SoundM Tryz.prog 132 [.own 0 0, .d (.fn 133)] [(0, .row 36 1 [])] (.tup []) [(0, .row 36 1 [])] 1 := by
  refine SoundM.run (N := 14) (ks := [0]) Tryz.func132 rfl (by kernel_rfl) rfl rfl rfl (by first | exact argsA_0 | exact argsA_1 | exact argsA_2 | exact argsA_3 | exact argsA_4 | exact argsA_5 | exact argsA_6) fun X_ ν_ w_ => ?_
  have c0_ := bitsLen0W; have c1_ := pdqW0; refine goT ?_; first | exact trivial | skip
theorem pCompact0 : SoundM Tryz.prog 134 [.own 0 0, .d (.fn 135)] [(0, .row 36 1 [])] (.own 0 0) [(0, .row 36 1 [])] 1 := by
  refine SoundM.run (N := 66) (ks := [0]) Tryz.func134 rfl (by kernel_rfl) rfl rfl rfl (by first | exact argsA_0 | exact argsA_1 | exact argsA_2 | exact argsA_3 | exact argsA_4 | exact argsA_5 | exact argsA_6) fun X_ ν_ w_ => ?_
  refine goT ?_; first | exact trivial | skip
set_option maxHeartbeats 4000000 in
set_option maxRecDepth 10000 in
theorem pOSort0 : Sound Tryz.prog 95 [.sl 1 []] (.sl 1 []) := by
  have c1 := pSortW0
  have c2 := pCompact0
  refine Sound.run (N := 25) Tryz.func95 rfl (by kernel_rfl) rfl rfl rfl (by first | exact args0_0 | exact args0_1 | exact args0_2 | exact args0_3 | exact args0_4 | exact args0_5 | exact args0_6) fun X_ w_ => ?_
  refine goT ?_; first | exact trivial | skip
  refine WP_once ?_
  have c0_ := c1; have c1_ := c2; refine goT ?_; first | exact trivial | skip
/-! ### All words -/
/-- Do they rise, each once? -/
def srtB (l : List (List Int)) : Bool := (List.range (l.length - 1)).all fun j => decide (wcmp (l[j]!) (l[j + 1]!) < 0)
theorem srtB_iff {l : List (List Int)} : srtB l = true ↔ SrtW l := by
  unfold srtB
  rw [List.all_eq_true]
  constructor
  · intro h
    have h1 : ∀ j, j + 1 < l.length → wcmp (l[j]!) (l[j + 1]!) < 0 := fun j hj => by simpa using h j (List.mem_range.2 (by omega))
    unfold SrtW
    rw [List.pairwise_iff_getElem]
    intro i j hi hj hij
    have h2 : ∀ d, i + d + 1 < l.length → wcmp (l[i]!) (l[i + d + 1]!) < 0 := fun d => by
      induction d with
      | zero => exact h1 i
      | succ d ih =>
        intro hd
        have a := ih (by omega)
        have b := h1 (i + d + 1) (by omega)
        exact wcmp_lt_trans a (by rw [show i + (d + 1) + 1 = i + d + 1 + 1 by omega]; omega)
    have := h2 (j - i - 1) (by omega)
    rw [show i + (j - i - 1) + 1 = j by omega, getElem!_pos l i hi, getElem!_pos l j hj] at this
    exact this
  · intro h j hj
    rw [List.mem_range] at hj
    exact decide_eq_true (h.at (by omega) (by omega))
set_option maxHeartbeats 4000000 in
set_option maxRecDepth 10000 in
/-- Where one stands behind a greater one. -/
theorem pIsSortedF {l : List (List Int)} (hl : WsOk l) {d : Nat} (hd : d + 1 < l.length) (hc : wcmp (l[d + 1]!) (l[d]!) < 0) : Sound Tryz.prog 96 [.sl 1 (iss l), .fn 97] (.bool false) := by
  have hlen := hl.1
  refine Sound.run (N := 25) Tryz.func96 rfl (by kernel_rfl) rfl rfl rfl (by first | exact args0_0 | exact args0_1 | exact args0_2 | exact args0_3 | exact args0_4 | exact args0_5 | exact args0_6) fun X_ w_ => ?_
  obtain ⟨n, hn⟩ : ∃ n, l.length = n + 1 := ⟨l.length - 1, by omega⟩
  have en : (l.length : Int) - 1 = n := by omega
  refine goX @en ?_; first | exact trivial | skip
  refine WP_loopk (fun k : Nat => d + 1 ≤ k ∧ k ≤ n) (fun k => [(0, .d (.sl 1 (iss l))), (1, .d (.fn 97)), (5, .d (.int .i64 k))]) (fun _ => []) 0 (fun k => k) [0, 1, 5] [] n ⟨by omega, Nat.le_refl _⟩ rfl rfl (Nat.le_refl _) (fun _ _ => rfl) (fun _ _ => rfl) fun k hk => ?_
  obtain ⟨m, rfl⟩ : ∃ m, k = m + 1 := ⟨k - 1, by omega⟩
  have em : ((m + 1 : Nat) : Int) - 1 = m := by omega
  have c := pCmp2 (hl.get (k := m + 1) (by omega)) (hl.get (k := m) (by omega))
  by_cases h3 : wcmp (l[m + 1]!) (l[m]!) < 0
  · have c0_ := c; refine goX (And.intro @em @h3) ?_; first | exact trivial | skip
  · have hne : m ≠ d := fun e => h3 (e ▸ hc)
    have c0_ := c; refine goX (And.intro @em @h3) ?_; first | exact trivial | skip
    refine ⟨m, ⟨by omega, by omega⟩, ?_, rfl, by omega⟩
    simp (disch := omega) only [go_sem, keepL, em]
/-- Of a list that is none of words in order some two are alike behind the sort, or fewer are left. -/
theorem first_alike {l : List (List Int)} (h : ∃ j, j + 1 < l.length ∧ l[j + 1]! = l[j]!) : ∃ d, d + 1 < l.length ∧ l[d + 1]! = l[d]! ∧ ∀ j, j < d → l[j + 1]! ≠ l[j]! := by
  obtain ⟨j, hj⟩ := h
  induction j using Nat.strongRecOn with
  | _ j ih =>
    by_cases h : ∃ i, i < j ∧ l[i + 1]! = l[i]!
    · obtain ⟨i, h1, h2⟩ := h
      exact ih i h1 ⟨by omega, h2⟩
    · exact ⟨j, hj.1, hj.2, fun i hi e => h ⟨i, hi, e⟩⟩
set_option maxHeartbeats 4000000 in
set_option maxRecDepth 10000 in
/-- Words in order: as many, if none stands twice; else fewer. -/
theorem pOSort {l : List (List Int)} (hl : ∀ w ∈ l, w.length ≤ 1000000) (hlen : l.length ≤ 1000000) (h0 : 0 < l.length) :
    (SrtW (wsorted l) ∧ Sound Tryz.prog 95 [.sl 1 (iss l)] (.sl 1 (iss (wsorted l)))) ∨ (¬ SrtW (wsorted l) ∧ ∃ L : List (List Int), L.length < l.length ∧ Sound Tryz.prog 95 [.sl 1 (iss l)] (.sl 1 (iss L))) := by
  have hok : ∀ w ∈ l, w.length ≤ 9223372036854775807 := fun w hw => Nat.le_trans (hl w hw) (by decide)
  have hsl := wsorted_len l
  have hokS : WsOk (wsorted l) := ⟨by omega, fun w hw => hok w ((wsorted_perm l).mem_iff.1 hw)⟩
  have c1 := pSortW (xs := l) (ys := wsorted l) hok h0 (by omega) (wsorted_perm l) (wsorted_ord l)
  by_cases hs : SrtW (wsorted l)
  · left
    refine ⟨hs, ?_⟩
    have c2 := pCompact hokS hs (by omega)
    rw [hsl] at c2
    refine Sound.run (N := 25) Tryz.func95 rfl (by kernel_rfl) rfl rfl rfl (by first | exact args0_0 | exact args0_1 | exact args0_2 | exact args0_3 | exact args0_4 | exact args0_5 | exact args0_6) fun X_ w_ => ?_
    refine goT ?_; first | exact trivial | skip
    refine WP_loopk (fun k : Nat => k ≤ l.length) (fun k => [(3, .own 1002 (l.take k).length), (9, .d (.sl 1 (iss l))), (10, .d (.int .i64 l.length)), (11, .d (.int .i64 k))]) (fun k => [(1002, .row 36 1 (iss (l.take k)))]) 1003 (fun k => l.length - k) [3, 9, 10, 11] [1002] 0 (Nat.zero_le _) rfl rfl (Nat.zero_le _) (fun _ _ => rfl) (fun _ _ => rfl) fun k hk => ?_
    have hkl : (l.take k).length = k := by simp; omega
    by_cases hk3 : k < l.length
    · have hst := iss_take_succ hk3
      have cl := pClone (l := l[k]!) (by rw [getElem!_pos l k hk3]; exact hl _ (List.getElem_mem hk3))
      have c0_ := cl; refine goX @hkl ?_; first | exact trivial | skip
      refine ⟨k + 1, by omega, ?_, ?_, by omega⟩
      · simp (disch := omega) only [go_sem, keepL, Int.natCast_add, Int.cast_ofNat_Int, hst, hkl, List.length_append, List.length_cons, List.length_nil]
      · simp (disch := omega) only [go_sem, keepL, hst]
    · have hke : k = l.length := by omega
      subst hke
      rw [List.take_length]
      have c0_ := c1; have c1_ := c2; refine goX @hsl ?_; first | exact trivial | skip
  · right
    refine ⟨hs, ?_⟩
    have hal : ∃ j, j + 1 < (wsorted l).length ∧ (wsorted l)[j + 1]! = (wsorted l)[j]! := by
      refine Classical.byContradiction fun hn => hs (srt_of (wsorted_ord l) fun j hj e => hn ⟨j, hj, e⟩)
    obtain ⟨d, d1, d2, d3⟩ := first_alike hal
    obtain ⟨L, hL, c2⟩ := pCompactD hokS (by omega) d1 d2 d3
    rw [hsl] at c2 hL
    refine ⟨L, hL, ?_⟩
    refine Sound.run (N := 25) Tryz.func95 rfl (by kernel_rfl) rfl rfl rfl (by first | exact args0_0 | exact args0_1 | exact args0_2 | exact args0_3 | exact args0_4 | exact args0_5 | exact args0_6) fun X_ w_ => ?_
    refine goT ?_; first | exact trivial | skip
    refine WP_loopk (fun k : Nat => k ≤ l.length) (fun k => [(3, .own 1002 (l.take k).length), (9, .d (.sl 1 (iss l))), (10, .d (.int .i64 l.length)), (11, .d (.int .i64 k))]) (fun k => [(1002, .row 36 1 (iss (l.take k)))]) 1003 (fun k => l.length - k) [3, 9, 10, 11] [1002] 0 (Nat.zero_le _) rfl rfl (Nat.zero_le _) (fun _ _ => rfl) (fun _ _ => rfl) fun k hk => ?_
    have hkl : (l.take k).length = k := by simp; omega
    by_cases hk3 : k < l.length
    · have hst := iss_take_succ hk3
      have cl := pClone (l := l[k]!) (by rw [getElem!_pos l k hk3]; exact hl _ (List.getElem_mem hk3))
      have c0_ := cl; refine goX @hkl ?_; first | exact trivial | skip
      refine ⟨k + 1, by omega, ?_, ?_, by omega⟩
      · simp (disch := omega) only [go_sem, keepL, Int.natCast_add, Int.cast_ofNat_Int, hst, hkl, List.length_append, List.length_cons, List.length_nil]
      · simp (disch := omega) only [go_sem, keepL, hst]
    · have hke : k = l.length := by omega
      subst hke
      rw [List.take_length]
      have c0_ := c1; have c1_ := c2; refine goX @hsl ?_; first | exact trivial | skip
end Go.Eng.Tryz
set_option linter.unusedVariables false
set_option linter.unusedSimpArgs false
namespace Go.Eng.Tryz
open Go Go.Eng Go.Proofs Go.RowKit
open Go.Maps (Keyed)
/-! ### A map's keys -/
theorem keyed_arc : Keyed Tryz.prog 70 := Keyed.of_law (deep_law_gate (by kernel_rfl) (of_decide_eq_true (by kernel_rfl)) (of_decide_eq_true (by kernel_rfl)) (by kernel_rfl) (by rw [Tryz.underlying70]))
theorem ar_inj {a b : Ar} (h : ar a = ar b) : a = b := by
  unfold ar at h
  simp only [D.agg.injEq, List.cons.injEq, D.int.injEq, true_and, and_true] at h
  cases a; cases b; simp only at h; rw [h.1, h.2]
theorem c_arc : Tryz.prog.cellsOf 70 = 2 := by kernel_rfl
def Ar.fits (a : Ar) : Prop := (-9223372036854775808 ≤ a.sign ∧ a.sign ≤ 9223372036854775807) ∧ (-9223372036854775808 ≤ a.to ∧ a.to ≤ 9223372036854775807)
theorem kl_arc {d : Nat} {a : Ar} (h : a.fits) : Tryz.prog.keyLits (d + 2) 70 [.int .i64 a.sign, .int .i64 a.to] = some [.int .i64 a.sign, .int .i64 a.to] := by
  unfold Program.keyLits
  rw [Tryz.underlying70]
  simp [List.mapM_cons, c_arc, c_i, kl_int h.1, kl_int h.2]
set_option maxRecDepth 100000 in
theorem keyd_arc {a : Ar} (h : a.fits) : KeyD Tryz.prog 70 (ar a) := by
  obtain ⟨d, hd⟩ := depth_eq
  refine ⟨pure_ints (l := [a.sign, a.to]), _, .string (keyBytes [.int .i64 a.sign, .int .i64 a.to]), fun w M => rep_ints (l := [a.sign, a.to]), ?_⟩
  unfold keyOf
  rw [Tryz.underlying70]
  have hk : Tryz.prog.keyType 70 = true := by kernel_rfl
  have hf : (Value.agg (([a.sign, a.to]).map fun z => Value.int .i64 z).toArray).formed Tryz.prog 70 = true := by
    simp [Value.formed, Tryz.underlying70, c_arc]
  simp only [hk, hf, Bool.and_self, if_true, hd]
  have := kl_arc (d := d + 2) h
  simp only [Value.cells, List.map_cons, List.map_nil]
  rw [this]
  rfl
/-- A map's entries. -/
def ema (m : List (Ar × Int)) : List (D × D) := m.map fun p => (ar p.1, .int .i64 p.2)
def MsA (m : List (Ar × Int)) : Prop := (∀ p ∈ m, p.1.fits) ∧ (m.map (·.1)).Nodup
theorem ema_nodup {m : List (Ar × Int)} (h : MsA m) : ((ema m).map (·.1)).Nodup := by
  unfold ema
  rw [List.map_map, List.Nodup, List.pairwise_map]
  have := h.2
  rw [List.Nodup, List.pairwise_map] at this
  exact this.imp fun hn he => hn (ar_inj he)
theorem ema_ok {m : List (Ar × Int)} (h : MsA m) {a : Ar} (ha : a.fits) : MapOk Tryz.prog 70 (ema m) (ar a) := by
  refine ⟨keyed_arc, keyd_arc ha, fun p hp => ?_, ema_nodup h⟩
  obtain ⟨r, hr, rfl⟩ := List.mem_map.1 hp
  exact keyd_arc (h.1 r hr)
def aget : List (Ar × Int) → Ar → Option Int
  | [], _ => none
  | x :: t, a => if x.1 = a then some x.2 else aget t a
theorem mget_ema (m : List (Ar × Int)) (a : Ar) : mget (ema m) (ar a) = (aget m a).map (D.int .i64) := by
  induction m with
  | nil => rfl
  | cons x t ih =>
    simp only [ema, List.map_cons, mget, aget]
    by_cases hx : x.1 = a
    · rw [if_pos hx, if_pos (by rw [hx])]; rfl
    · rw [if_neg hx, if_neg (fun e => hx (ar_inj e))]; exact ih
theorem mput_ema {m : List (Ar × Int)} {a : Ar} {z : Int} (h : aget m a = none) : mput (ema m) (ar a) (.int .i64 z) = ema (m ++ [(a, z)]) := by
  induction m with
  | nil => rfl
  | cons x t ih =>
    simp only [aget] at h
    split at h
    · cases h
    · rename_i hx
      simp only [ema, List.map_cons, mput, List.cons_append]
      rw [if_neg (fun e => hx (ar_inj e))]
      exact congrArg _ (ih h)
theorem aget_mem {m : List (Ar × Int)} {a : Ar} {z : Int} (h : aget m a = some z) : (a, z) ∈ m := by
  induction m with
  | nil => cases h
  | cons x t ih =>
    simp only [aget] at h
    split at h
    · rename_i hx; cases h; subst hx; simp
    · exact List.mem_cons_of_mem _ (ih h)
theorem aget_none {m : List (Ar × Int)} {a : Ar} (h : aget m a = none) : a ∉ m.map (·.1) := by
  induction m with
  | nil => simp
  | cons x t ih =>
    simp only [aget] at h
    split at h
    · cases h
    · rename_i hx
      simp only [List.map_cons, List.mem_cons, not_or]
      exact ⟨fun e => hx e.symm, ih h⟩
theorem getB_setI {α : Type} [Inhabited α] {l : List α} {i j : Nat} {v : α} (h : i < l.length) : (l.set i v)[j]! = if j = i then v else l[j]! := by
  simp only [List.getElem!_eq_getElem?_getD, List.getElem?_set]
  by_cases e : j = i
  · subst e; simp [h]
  · rw [if_neg (fun x => e x.symm), if_neg e]
/-! ### What is done -/
structure TS where
  out : List Sta
  at_ : List Int
  m : List (Ar × Int)
def setFin (l : List Sta) (k : Nat) (b : Bool) : List Sta := l.set k ⟨(l[k]!).final || b, (l[k]!).arcs⟩
def addArc (l : List Sta) (k : Nat) (a : Ar) : List Sta := l.set k ⟨(l[k]!).final, (l[k]!).arcs ++ [a]⟩
def tword (L : List (List Int)) (n i : Nat) (s : TS) : TS :=
  if n < (L[i]!).length then
    match aget s.m ⟨(L[i]!)[n]!, s.at_[i]!⟩ with
    | some to => ⟨setFin s.out to.toNat (decide (n + 1 = (L[i]!).length)), s.at_.set i to, s.m⟩
    | none => ⟨setFin (addArc (s.out ++ [⟨false, []⟩]) (s.at_[i]!).toNat ⟨(L[i]!)[n]!, s.out.length⟩) s.out.length (decide (n + 1 = (L[i]!).length)), s.at_.set i s.out.length, s.m ++ [((⟨(L[i]!)[n]!, s.at_[i]!⟩ : Ar), (s.out.length : Int))]⟩
  else s
def twords (L : List (List Int)) (n i : Nat) (s : TS) : TS := (List.range i).foldl (fun s i => tword L n i s) s
def tlev (L : List (List Int)) (n : Nat) : TS := (List.range n).foldl (fun s n => twords L n L.length ⟨s.out, s.at_, []⟩) (⟨[⟨false, []⟩], List.replicate L.length 0, []⟩ : TS)
/-- The automaton of words. -/
def trieF (L : List (List Int)) : List Sta := (tlev L 20).out
theorem twords_step (L : List (List Int)) (n i : Nat) (s : TS) : twords L n (i + 1) s = tword L n i (twords L n i s) := by simp [twords, List.range_succ]
theorem tlev_step (L : List (List Int)) (n : Nat) : tlev L (n + 1) = twords L n L.length ⟨(tlev L n).out, (tlev L n).at_, []⟩ := by simp [tlev, List.range_succ]
theorem setFin_len (l : List Sta) (k : Nat) (b : Bool) : (setFin l k b).length = l.length := by simp [setFin]
theorem addArc_len (l : List Sta) (k : Nat) (a : Ar) : (addArc l k a).length = l.length := by simp [addArc]
/-- What holds all the time: c is how many states there may be. -/
structure TI (L : List (List Int)) (s : TS) (c : Nat) : Prop where
  pos : 0 < s.out.length
  len : s.out.length ≤ c
  at_ : s.at_.length = L.length
  ats : ∀ i, i < L.length → 0 ≤ s.at_[i]! ∧ s.at_[i]! < s.out.length
  vals : ∀ p ∈ s.m, 0 ≤ p.2 ∧ p.2 < s.out.length
  keys : MsA s.m
  arcs : ∀ k : Nat, (s.out[k]!).arcs.length ≤ c
theorem setFin_arcs (l : List Sta) (k : Nat) (b : Bool) (j : Nat) : ((setFin l k b)[j]!).arcs = (l[j]!).arcs := by
  unfold setFin
  by_cases h : k < l.length
  · rw [getB_setI h]
    split
    · rename_i e; subst e; rfl
    · rfl
  · rw [List.set_eq_of_length_le (by omega)]
theorem addArc_arcs (l : List Sta) (k : Nat) (a : Ar) (j : Nat) : ((addArc l k a)[j]!).arcs.length ≤ (l[j]!).arcs.length + 1 := by
  unfold addArc
  by_cases h : k < l.length
  · rw [getB_setI h]
    split
    · rename_i e; subst e; simp
    · omega
  · rw [List.set_eq_of_length_le (by omega)]; omega
theorem snoc_arcs (l : List Sta) (j : Nat) : ((l ++ [⟨false, []⟩])[j]!).arcs.length ≤ (l[j]!).arcs.length := by
  simp only [List.getElem!_eq_getElem?_getD, List.getElem?_append]
  split
  · exact Nat.le_refl _
  · rename_i h
    rw [List.getElem?_eq_none (l := l) (by omega)]
    cases hq : [(⟨false, []⟩ : Sta)][j - l.length]? with
    | none => simp
    | some x =>
      have := List.mem_of_getElem? hq
      simp at this
      subst this
      simp
theorem tword_inv {L : List (List Int)} {n i c : Nat} {s : TS} (hL : ∀ w ∈ L, ∀ z ∈ w, -9223372036854775808 ≤ z ∧ z ≤ 9223372036854775807) (hi : i < L.length) (hc : c ≤ 1000000) (h : TI L s c) : TI L (tword L n i s) (c + 1) := by
  obtain ⟨h1, h2, h3, h4, h5, h6, h7⟩ := h
  unfold tword
  split
  · rename_i hn
    have hz : -9223372036854775808 ≤ (L[i]!)[n]! ∧ (L[i]!)[n]! ≤ 9223372036854775807 := by
      rw [getElem!_pos (L[i]!) n hn]
      exact hL (L[i]!) (by rw [getElem!_pos L i hi]; exact List.getElem_mem hi) _ (List.getElem_mem hn)
    have hat := h4 i hi
    split
    · rename_i to hto
      have hv := h5 _ (aget_mem hto)
      simp only at hv
      refine ⟨by rw [setFin_len]; exact h1, by rw [setFin_len]; omega, by simp [h3], fun j hj => ?_, fun p hp => by rw [setFin_len]; exact h5 p hp, h6, fun k => by rw [setFin_arcs]; have := h7 k; omega⟩
      rw [setFin_len]
      simp only
      rw [getB_setI (by rw [h3]; exact hi)]
      split
      · exact hv
      · exact h4 j hj
    · rename_i hto
      have el : (setFin (addArc (s.out ++ [⟨false, []⟩]) (s.at_[i]!).toNat ⟨(L[i]!)[n]!, s.out.length⟩) s.out.length (decide (n + 1 = (L[i]!).length))).length = s.out.length + 1 := by rw [setFin_len, addArc_len]; simp
      refine ⟨by rw [el]; omega, by rw [el]; omega, by simp [h3], fun j hj => ?_, fun p hp => ?_, ⟨fun p hp => ?_, ?_⟩, fun k => ?_⟩
      · rw [el]
        simp only
        rw [getB_setI (by rw [h3]; exact hi)]
        split
        · omega
        · have := h4 j hj; omega
      · rw [el]
        simp only [List.mem_append, List.mem_singleton] at hp
        rcases hp with hp | hp
        · have := h5 p hp; omega
        · subst hp; simp only; omega
      · simp only [List.mem_append, List.mem_singleton] at hp
        rcases hp with hp | hp
        · exact h6.1 p hp
        · subst hp; exact ⟨hz, by show _ ≤ s.at_[i]!; omega, by show s.at_[i]! ≤ _; omega⟩
      · simp only [List.map_append, List.map_cons, List.map_nil]
        rw [List.nodup_append]
        refine ⟨h6.2, by simp, fun a ha b hb => ?_⟩
        simp only [List.mem_singleton] at hb
        subst hb
        exact fun e => aget_none hto (e ▸ ha)
      · rw [setFin_arcs]
        have q1 := addArc_arcs (s.out ++ [⟨false, []⟩]) (s.at_[i]!).toNat ⟨(L[i]!)[n]!, s.out.length⟩ k
        have q2 := snoc_arcs s.out k
        have q3 := h7 k
        omega
  · exact ⟨h1, by omega, h3, h4, h5, h6, fun k => by have := h7 k; omega⟩
theorem twords_inv {L : List (List Int)} {n c : Nat} {s : TS} (hL : ∀ w ∈ L, ∀ z ∈ w, -9223372036854775808 ≤ z ∧ z ≤ 9223372036854775807) (h : TI L s c) : ∀ i, i ≤ L.length → c + i ≤ 1000000 → TI L (twords L n i s) (c + i) := by
  intro i
  induction i with
  | zero => intro _ _; simpa [twords] using h
  | succ i ih =>
    intro hi hc
    rw [twords_step]
    have := tword_inv (n := n) (i := i) hL (by omega) (by omega) (ih (by omega) (by omega))
    rw [Nat.add_assoc] at this
    exact this
theorem tlev_inv {L : List (List Int)} (hL : ∀ w ∈ L, ∀ z ∈ w, -9223372036854775808 ≤ z ∧ z ≤ 9223372036854775807) (hl : L.length ≤ 300) : ∀ n, n ≤ 20 → TI L ⟨(tlev L n).out, (tlev L n).at_, []⟩ (1 + n * L.length) := by
  intro n
  induction n with
  | zero =>
    intro _
    refine ⟨by simp [tlev], by simp [tlev], by simp [tlev], fun i hi => ?_, fun p hp => by simp at hp, ⟨fun p hp => by simp at hp, by simp⟩, fun k => ?_⟩
    rotate_left
    · cases k with
      | zero => simp [tlev, List.getElem!_eq_getElem?_getD]
      | succ k =>
        simp only [tlev, List.range_zero, List.foldl_nil, List.getElem!_eq_getElem?_getD, List.getElem?_cons_succ, List.getElem?_nil, Option.getD_none]
        exact Nat.zero_le _
    simp only [tlev, List.range_zero, List.foldl_nil]
    rw [getElem!_pos _ i (by simpa using hi)]
    simp
  | succ n ih =>
    intro hn
    have hb : n * L.length ≤ 20 * 300 := Nat.mul_le_mul (by omega) hl
    have := twords_inv (n := n) hL (ih (by omega)) L.length (Nat.le_refl _) (by omega)
    rw [← tlev_step] at this
    obtain ⟨h1, h2, h3, h4, h5, h6, h7⟩ := this
    exact ⟨h1, by rw [Nat.add_mul]; simp only at h2 ⊢; omega, h3, h4, fun p hp => by simp at hp, ⟨fun p hp => by simp at hp, by simp⟩, fun k => by rw [Nat.add_mul]; have := h7 k; simp only at this ⊢; omega⟩
end Go.Eng.Tryz

/- Rules in order: what rule.Norm gives. (and what stands behind it: texts laid together) -/
import Derived.Test.YtabfoaoeghikoaaGreatDoorMG4
import Derived.Test.YtabfoaoeghikoaaGreatDoorMR3
set_option maxHeartbeats 32000000
set_option maxRecDepth 100000
set_option linter.unusedVariables false
set_option linter.unusedSimpArgs false
namespace Go.Eng.Tryz
open Go Go.Eng Go.Proofs Go.RowKit
open Go.Maps (Keyed)
theorem rs_len {l : List Ru} : (rs l).length = l.length := by simp [rs]
theorem rs_get {l : List Ru} {k : Nat} (h : k < l.length) : (rs l)[k]? = some (.agg [.sl 1 (is (l[k]!).left), .sl 1 (is (l[k]!).right), .int .u64 (l[k]!).cost]) := by
  simp [rs, ru, List.getElem?_eq_getElem h, getElem!_pos l k h]
theorem rs_snoc {l : List Ru} {r : Ru} : rs l ++ [.agg [.sl 1 (is r.left), .sl 1 (is r.right), .int .u64 r.cost]] = rs (l ++ [r]) := by simp [rs, ru]
attribute [local go_sem] is_len is_get rs_len rs_get rs_snoc
theorem rok_get {l : List Ru} (h : ∀ r ∈ l, r.ok) {k : Nat} (hk : k < l.length) : (l[k]!).ok := by
  rw [getElem!_pos l k hk]; exact h _ (List.getElem_mem hk)
def em (ms : List Ru) : List (D × D) := ms.map fun r => (bd r.left r.right, .int .u64 r.cost)
theorem em_len (ms : List Ru) : (em ms).length = ms.length := by simp [em]
def Ms (ms : List Ru) : Prop := (∀ r ∈ ms, rok r = true) ∧ ms.Pairwise (fun a b => ¬ ssame a b)
theorem rok_fits {r : Ru} (h : rok r = true) : fits r.left ∧ fits r.right := by
  obtain ⟨h1, h2, _, _⟩ := rok_iff.1 h
  have f1 := fits_s8 r.left
  have f2 := fits_s8 r.right
  rw [s8_t h1] at f1
  rw [s8_t h2] at f2
  exact ⟨f1, f2⟩
theorem em_nodup {ms : List Ru} (h : Ms ms) : ((em ms).map (·.1)).Nodup := by
  unfold em
  rw [List.map_map]
  rw [List.Nodup, List.pairwise_map]
  refine h.2.imp_of_mem (fun {a b} ha hb hn he => hn ?_)
  obtain ⟨f1, f2⟩ := rok_fits (h.1 a ha)
  exact bd_inj f1.1 f2.1 he
theorem em_ok {ms : List Ru} (h : Ms ms) {a b : List Int} (ha : fits a) (hb : fits b) : MapOk Tryz.prog 156 (em ms) (bd a b) := by
  refine ⟨keyed_both, keyd_both ha hb, fun p hp => ?_, em_nodup h⟩
  obtain ⟨r, hr, rfl⟩ := List.mem_map.1 hp
  obtain ⟨f1, f2⟩ := rok_fits (h.1 r hr)
  exact keyd_both f1 f2
def fget : List Ru → List Int → List Int → Option Int
  | [], _, _ => none
  | x :: t, a, b => if x.left = a ∧ x.right = b then some x.cost else fget t a b
theorem mget_em {ms : List Ru} (h : ∀ r ∈ ms, rok r = true) (a b : List Int) : mget (em ms) (bd a b) = (fget ms a b).map (D.int .u64) := by
  induction ms with
  | nil => rfl
  | cons x t ih =>
    obtain ⟨f1, f2⟩ := rok_fits (h x (by simp))
    simp only [em, List.map_cons, mget, fget]
    by_cases hx : x.left = a ∧ x.right = b
    · rw [if_pos hx, if_pos (by rw [hx.1, hx.2])]; rfl
    · rw [if_neg hx, if_neg (fun e => hx (bd_inj f1.1 f2.1 e))]
      exact ih (fun r hr => h r (by simp [hr]))
def nset : List Ru → Ru → List Ru
  | [], r => [r]
  | x :: t, r => if ssame x r then r :: t else x :: nset t r
theorem mput_em {ms : List Ru} (h : ∀ r ∈ ms, rok r = true) (r : Ru) : mput (em ms) (bd r.left r.right) (.int .u64 r.cost) = em (nset ms r) := by
  induction ms with
  | nil => rfl
  | cons x t ih =>
    obtain ⟨f1, f2⟩ := rok_fits (h x (by simp))
    simp only [em, List.map_cons, mput, nset]
    by_cases hx : ssame x r
    · rw [if_pos hx, if_pos (by rw [hx.1, hx.2])]; rfl
    · rw [if_neg hx, if_neg (fun e => hx (bd_inj f1.1 f2.1 e))]
      simp only [List.map_cons]
      rw [← show em t = t.map _ from rfl, ih (fun r hr => h r (by simp [hr]))]
      rfl
theorem nput_none {ms : List Ru} {r : Ru} (h : fget ms r.left r.right = none) : nput ms r = nset ms r := by
  induction ms with
  | nil => rfl
  | cons x t ih =>
    simp only [fget] at h
    split at h
    · cases h
    · rename_i hx
      simp only [nput, nset]
      rw [if_neg (show ¬ ssame x r from hx), if_neg (show ¬ ssame x r from hx), ih h]
theorem nput_less {ms : List Ru} {r : Ru} {c : Int} (h : fget ms r.left r.right = some c) (hc : r.cost < c) : nput ms r = nset ms r := by
  induction ms with
  | nil => rfl
  | cons x t ih =>
    simp only [fget] at h
    simp only [nput, nset]
    split at h
    · rename_i hx
      cases h
      rw [if_pos (show ssame x r from hx), if_pos (show ssame x r from hx)]
      unfold best
      rw [if_pos hc]
    · rename_i hx
      rw [if_neg (show ¬ ssame x r from hx), if_neg (show ¬ ssame x r from hx), ih h]
theorem nput_keep {ms : List Ru} {r : Ru} {c : Int} (h : fget ms r.left r.right = some c) (hc : ¬ r.cost < c) : nput ms r = ms := by
  induction ms with
  | nil => simp [fget] at h
  | cons x t ih =>
    simp only [fget] at h
    simp only [nput]
    split at h
    · rename_i hx
      cases h
      rw [if_pos (show ssame x r from hx)]
      unfold best
      rw [if_neg hc]
    · rename_i hx
      rw [if_neg (show ¬ ssame x r from hx), ih h]
theorem norm1_ms (l : List Ru) : Ms (norm1 l) := by
  refine ⟨fun r hr => ?_, ?_⟩
  · exact (norm_mem.1 ((norm_perm l).mem_iff.2 hr)).2.1
  · exact ((norm_perm l).pairwise_iff (fun {a b} h h' => h (ssame_symm h'))).1 (srt_diff (norm_srt l))
theorem rtake_snoc {l : List Ru} {k : Nat} (h : k < l.length) : l.take (k + 1) = l.take k ++ [l[k]!] := by
  rw [List.take_add_one, List.getElem?_eq_getElem h, ← getElem!_pos l k h]; rfl
theorem norm1_step {l : List Ru} {k : Nat} (h : k < l.length) : norm1 (l.take (k + 1)) = if rok (l[k]!) = true then nput (norm1 (l.take k)) (l[k]!) else norm1 (l.take k) := by
  rw [rtake_snoc h, norm1_snoc]
theorem view_side {a : List Int} (h : a.length ≤ 8) (rest : List AV) : cellsD (((AV.d (.int .i64 (gi a 0)) :: AV.d (.int .i64 (gi a 1)) :: AV.d (.int .i64 (gi a 2)) :: AV.d (.int .i64 (gi a 3)) :: AV.d (.int .i64 (gi a 4)) :: AV.d (.int .i64 (gi a 5)) :: AV.d (.int .i64 (gi a 6)) :: AV.d (.int .i64 (gi a 7)) :: rest)).take a.length) = some (is a) := by
  rcases a with _ | ⟨a0, _ | ⟨a1, _ | ⟨a2, _ | ⟨a3, _ | ⟨a4, _ | ⟨a5, _ | ⟨a6, _ | ⟨a7, _⟩⟩⟩⟩⟩⟩⟩⟩
  · simp [gi, is, cellsD, D.cell]
  · simp [gi, is, cellsD, D.cell]
  · simp [gi, is, cellsD, D.cell]
  · simp [gi, is, cellsD, D.cell]
  · simp [gi, is, cellsD, D.cell]
  · simp [gi, is, cellsD, D.cell]
  · simp [gi, is, cellsD, D.cell]
  · simp [gi, is, cellsD, D.cell]
  rename_i r
  rcases r with _ | ⟨b, r⟩
  · simp [gi, is, cellsD, D.cell]
  · exfalso; simp only [List.length_cons] at h; omega
theorem em_get {ms : List Ru} {i : Nat} {kd vd : D} (h : (em ms)[i]? = some (kd, vd)) : i < ms.length ∧ kd = bd (ms[i]!).left (ms[i]!).right ∧ vd = .int .u64 (ms[i]!).cost := by
  unfold em at h
  rw [List.getElem?_map] at h
  obtain ⟨r, hr, he⟩ := Option.map_eq_some_iff.1 h
  have hi := (List.getElem?_eq_some_iff.1 hr).1
  have : ms[i]! = r := by rw [getElem!_pos ms i hi]; exact (List.getElem?_eq_some_iff.1 hr).2
  rw [this]
  cases he
  exact ⟨hi, rfl, rfl⟩
theorem seen_perm {ms : List Ru} {x : List Nat} (h1 : x.Nodup) (h2 : ∀ i ∈ x, i < ms.length) (h3 : ∀ i, i < ms.length → i ∈ x) : ms.Perm (x.map (ms[·]!)) := by
  have hp : (List.range ms.length).Perm x := (List.perm_ext_iff_of_nodup List.nodup_range h1).2 fun i => by
    rw [List.mem_range]; exact ⟨h3 i, h2 i⟩
  have hm : (List.range ms.length).map (ms[·]!) = ms := List.ext_getElem? fun i => by
    by_cases hi : i < ms.length
    · rw [List.getElem?_map, List.getElem?_range hi, List.getElem?_eq_getElem hi, Option.map_some, getElem!_pos ms i hi]
    · rw [List.getElem?_eq_none (by simp; omega), List.getElem?_eq_none (by omega)]
  have := hp.map (ms[·]!)
  rwa [hm] at this
theorem seen_len {n : Nat} {x : List Nat} (h1 : x.Nodup) (h2 : ∀ i ∈ x, i < n) : x.length ≤ n := by
  have := (List.nodup_range (n := n))
  clear this
  induction n generalizing x with
  | zero =>
    cases x with
    | nil => simp
    | cons a t => exact absurd (h2 a (by simp)) (Nat.not_lt_zero _)
  | succ n ih =>
    by_cases hn : n ∈ x
    · have h3 := List.perm_cons_erase hn
      have h4 : (n :: x.erase n).Nodup := h3.nodup_iff.1 h1
      have h5 := List.nodup_cons.1 h4
      have := ih h5.2 (fun i hi => by
        have h6 := h2 i (h3.mem_iff.2 (by simp [hi]))
        have : i ≠ n := fun e => h5.1 (e ▸ hi)
        omega)
      rw [h3.length_eq]
      simp only [List.length_cons]
      omega
    · have := ih h1 (fun i hi => by
        have h6 := h2 i hi
        have : i ≠ n := fun e => hn (e ▸ hi)
        omega)
      omega
theorem is_flat {a : List Int} : (is a).all D.flat = true := by simp [is, D.flat]
theorem pCloneV {cs : List AV} {off : Nat} {a : List Int} (h : cellsD ((cs.drop off).take a.length) = some (is a)) (hl : a.length ≤ 1000000) :
    SoundM Tryz.prog 106 [.vs 0 off a.length] [(0, .var cs)] (.own 2001 a.length) [(0, .var cs), (2001, .row 3 1 (is a))] 1 := by
  refine SoundM.run (N := 8) (ks := [0, 2001]) Tryz.func106 rfl (by kernel_rfl) rfl rfl rfl (by exact argsA_1) fun X_ ν_ w_ => ?_
  repeat (first | with_reducible exact Ev.nil | with_reducible exact gd_n | ((with_reducible apply lk_ok); rfl) | ((with_reducible apply gslot_ok); rfl) | ((with_reducible apply v2d_ok); rfl) | with_reducible apply then_n | with_reducible apply WP_seq | with_reducible apply WP_skip | ((with_reducible apply WP_r (N := 8) rfl rfl); (focus simp only [Nat.reduceAdd] <;> rfl)) | ((with_reducible apply WP_d (N := 8) mixed rfl rfl); (focus simp only [Nat.reduceAdd] <;> rfl)) | ((with_reducible apply Ev_s); (focus first | (apply gd_u; (focus rfl); rfl) | (apply gd_f; (focus rfl); (focus rfl); rfl))) | ((with_reducible apply Ev_sn); (focus first | (apply gd_u; (focus rfl); rfl) | (apply gd_f; (focus rfl); (focus rfl); rfl))) | with_reducible apply gd_t | with_reducible apply Ev_mv | with_reducible apply Ev_as | with_reducible apply Ev_mc | with_reducible apply Ev_ac | ((first | (with_reducible apply Ev_pt) | (with_reducible apply Ev_ptc)); (focus rfl)) | ((first | (with_reducible apply Ev_pf) | (with_reducible apply Ev_pfc)); (focus rfl)) | ((with_reducible apply Ev_d); (focus simp only [Nat.reduceAdd] <;> rfl); (focus simp (disch := omega) only [go_sem, h, is_flat, ne_eq] <;> rfl)) | ((first | (with_reducible apply Ev_od) | (with_reducible apply Ev_on)); (focus simp only [Nat.reduceAdd] <;> rfl); (focus simp (disch := omega) only [go_sem, h, is_flat, ne_eq] <;> rfl); (focus first | (simp (disch := omega) only [go_sem, h, is_flat, ne_eq] <;> rfl) | rfl)) | with_reducible apply endM_n | with_reducible apply endM_r | with_reducible apply then_r | with_reducible apply then_x | with_reducible apply block_n | with_reducible apply block_r | with_reducible apply block_x | with_reducible apply block_y rfl | with_reducible apply scope_n | with_reducible apply scope_r | with_reducible apply scope_x | with_reducible apply end_n | with_reducible apply end_r | with_reducible apply WP_block | with_reducible apply WP_exit | with_reducible apply WP_ret | with_reducible apply WP_label | with_reducible apply WP_scope | ((with_reducible apply WP_t); (focus first | (simp (disch := omega) only [go_sem, h, is_flat, ne_eq] <;> rfl) | rfl)) | ((with_reducible apply WP_f); (focus first | (simp (disch := omega) only [go_sem, h, is_flat, ne_eq] <;> rfl) | rfl)) | ((with_reducible apply resD_t); (focus rfl)) | ((with_reducible apply resD_2); (focus rfl); (focus rfl)) | (with_reducible rfl) | ((with_reducible show List.map outKeys _ = _); simp only [List.map_cons, List.map_nil, outKeys, keys]; rfl) | ((with_reducible show orderOk _ _ = true); kernel_rfl) | ((with_reducible show _ = _); simp (disch := omega) only [go_sem, h, is_flat, ne_eq] <;> rfl) | ((fail_if_success (with_reducible show Ev _ _ _ _ (_ :: _) _ _ _ _ _)); (show Ev _ _ _ _ (_ :: _) _ _ _ _ _)) | fail)
theorem pNorm {l : List Ru} (hok : ∀ r ∈ l, r.ok) (hlen : l.length ≤ 1000000) : Sound Tryz.prog 89 [.sl 3 (rs l)] (.sl 3 (rs (norm l))) := by
  refine Sound.run (N := 75) Tryz.func89 rfl (by kernel_rfl) rfl rfl rfl (by exact args0_1) fun X_ w_ => ?_
  refine goT ?_; try exact trivial
  refine WP_loopk (fun k : Nat => k ≤ l.length) (fun k => [(2, .d .nils), (3, .map 1000), (13, .d (.sl 3 (rs l))), (14, .d (.int .i64 l.length)), (15, .d (.int .i64 k))]) (fun k => [(1000, .map 156 42 (em (norm1 (l.take k))))]) 2000 (fun k => l.length - k) [2, 3, 13, 14, 15] [1000] 0 (Nat.zero_le _) rfl rfl (Nat.zero_le _) (fun _ _ => rfl) (fun _ _ => rfl) fun k hk => ?_
  by_cases hk' : k < l.length
  · have hr := rok_get hok hk'
    have hst := norm1_step hk'
    have hms := norm1_ms (l.take k)
    have c1 := pSides hr
    have mk := eq_true (em_ok hms (fits_s8 (l[k]!).left) (fits_s8 (l[k]!).right))
    have mg := mget_em hms.1 (s8 (l[k]!).left) (s8 (l[k]!).right)
    cases hrk : rok (l[k]!)
    · rw [hrk] at hst c1
      simp only [Bool.false_eq_true, if_false] at hst
      unfold bd at c1 mk mg
      cases hf : fget (norm1 (l.take k)) (s8 (l[k]!).left) (s8 (l[k]!).right) with
      | none =>
        rw [hf] at mg
        simp only [Option.map_none] at mg
        have c0_ := c1; refine goX (And.intro @mk @mg) ?_; try exact trivial
        refine ⟨k + 1, by omega, ?_, ?_, by omega⟩
        · simp (disch := omega) only [go_sem, keepL, Int.natCast_add, Int.cast_ofNat_Int]
        · simp (disch := omega) only [go_sem, keepL, hst]
      | some c =>
        rw [hf] at mg
        simp only [Option.map_some] at mg
        have c0_ := c1; refine goX (And.intro @mk @mg) ?_; try exact trivial
        refine ⟨k + 1, by omega, ?_, ?_, by omega⟩
        · simp (disch := omega) only [go_sem, keepL, Int.natCast_add, Int.cast_ofNat_Int]
        · simp (disch := omega) only [go_sem, keepL, hst]
    · rw [hrk] at hst c1
      simp only [if_true] at hst
      obtain ⟨s1, s2, _, _⟩ := rok_iff.1 hrk
      have mp := mput_em hms.1 (l[k]!)
      rw [s8_t s1, s8_t s2] at c1 mk mg
      unfold bd at c1 mk mg mp
      cases hf : fget (norm1 (l.take k)) (l[k]!).left (l[k]!).right with
      | none =>
        rw [hf] at mg
        simp only [Option.map_none] at mg
        rw [nput_none hf] at hst
        have c0_ := c1; refine goX (And.intro @mk (And.intro @mg @mp)) ?_; try exact trivial
        refine ⟨k + 1, by omega, ?_, ?_, by omega⟩
        · simp (disch := omega) only [go_sem, keepL, Int.natCast_add, Int.cast_ofNat_Int]
        · simp (disch := omega) only [go_sem, keepL, hst]
      | some c =>
        rw [hf] at mg
        simp only [Option.map_some] at mg
        by_cases hc : (l[k]!).cost < c
        · rw [nput_less hf hc] at hst
          have c0_ := c1; refine goX (And.intro @mk (And.intro @mg @mp)) ?_; try exact trivial
          refine ⟨k + 1, by omega, ?_, ?_, by omega⟩
          · simp (disch := omega) only [go_sem, keepL, Int.natCast_add, Int.cast_ofNat_Int]
          · simp (disch := omega) only [go_sem, keepL, hst]
        · rw [nput_keep hf hc] at hst
          have c0_ := c1; refine goX (And.intro @mk (And.intro @mg @mp)) ?_; try exact trivial
          refine ⟨k + 1, by omega, ?_, ?_, by omega⟩
          · simp (disch := omega) only [go_sem, keepL, Int.natCast_add, Int.cast_ofNat_Int]
          · simp (disch := omega) only [go_sem, keepL, hst]
  · have hkl : k = l.length := by omega
    subst hkl
    rw [List.take_length]
    refine goT ?_; try exact trivial
    have hperm := norm_perm l
    have hrise := norm_rise l
    have hms := norm1_ms l
    have hmo : ∀ r ∈ norm1 l, r.ok := fun r hr => norm_ok hok r (hperm.mem_iff.2 hr)
    have hml : (norm1 l).length ≤ 1000000 := by rw [← hperm.length_eq]; exact Nat.le_trans (norm_len l) hlen
    by_cases hne : 0 < (norm1 l).length
    · refine WP_own 2 4000 106 3 rfl (by decide) (Nat.le_refl _) ?_
      refine WP_loopk (fun x : List Nat => x.Nodup ∧ ∀ i ∈ x, i < (norm1 l).length) (fun x => [(2, .own 4000 x.length), (47, .it 3001)]) (fun x => [(4000, .row 106 3 (rs (x.map ((norm1 l)[·]!)))), (3001, .iter 1000 (em (norm1 l)).length x), (1000, .map 156 42 (em (norm1 l)))]) 5000 (fun x => (norm1 l).length - x.length) [2, 47] [4000, 3001, 1000] [] ⟨List.nodup_nil, by simp⟩ rfl rfl (Nat.le_of_ble_eq_true rfl) (fun _ _ => rfl) (fun _ _ => rfl) fun x hx => ?_
      obtain ⟨hx1, hx2⟩ := hx
      refine WP_seq (WP_next (n := 75) rfl rfl rfl rfl rfl rfl (fun i kd vd h1 h2 => ?_) (fun h1 => ?_))
      · obtain ⟨hi, rfl, rfl⟩ := em_get h1
        obtain ⟨f1, f2⟩ := rok_fits (hms.1 ((norm1 l)[i]!) (by rw [getElem!_pos (norm1 l) i hi]; exact List.getElem_mem hi))
        have l1 := f1.1
        have l2 := f2.1
        unfold bd at h1 ⊢
        have v1 := view_side f1.1 [.d (.int .i64 ((norm1 l)[i]!).right.length), .d (.int .i64 (gi ((norm1 l)[i]!).right 0)), .d (.int .i64 (gi ((norm1 l)[i]!).right 1)), .d (.int .i64 (gi ((norm1 l)[i]!).right 2)), .d (.int .i64 (gi ((norm1 l)[i]!).right 3)), .d (.int .i64 (gi ((norm1 l)[i]!).right 4)), .d (.int .i64 (gi ((norm1 l)[i]!).right 5)), .d (.int .i64 (gi ((norm1 l)[i]!).right 6)), .d (.int .i64 (gi ((norm1 l)[i]!).right 7))]
        have v2 := view_side f2.1 []
        have k1 := pCloneV (cs := [.d (.int .i64 ((norm1 l)[i]!).left.length), .d (.int .i64 (gi ((norm1 l)[i]!).left 0)), .d (.int .i64 (gi ((norm1 l)[i]!).left 1)), .d (.int .i64 (gi ((norm1 l)[i]!).left 2)), .d (.int .i64 (gi ((norm1 l)[i]!).left 3)), .d (.int .i64 (gi ((norm1 l)[i]!).left 4)), .d (.int .i64 (gi ((norm1 l)[i]!).left 5)), .d (.int .i64 (gi ((norm1 l)[i]!).left 6)), .d (.int .i64 (gi ((norm1 l)[i]!).left 7)), .d (.int .i64 ((norm1 l)[i]!).right.length), .d (.int .i64 (gi ((norm1 l)[i]!).right 0)), .d (.int .i64 (gi ((norm1 l)[i]!).right 1)), .d (.int .i64 (gi ((norm1 l)[i]!).right 2)), .d (.int .i64 (gi ((norm1 l)[i]!).right 3)), .d (.int .i64 (gi ((norm1 l)[i]!).right 4)), .d (.int .i64 (gi ((norm1 l)[i]!).right 5)), .d (.int .i64 (gi ((norm1 l)[i]!).right 6)), .d (.int .i64 (gi ((norm1 l)[i]!).right 7))]) (off := 1) (a := ((norm1 l)[i]!).left) v1 (by omega)
        have k2 := pCloneV (cs := [.d (.int .i64 ((norm1 l)[i]!).left.length), .d (.int .i64 (gi ((norm1 l)[i]!).left 0)), .d (.int .i64 (gi ((norm1 l)[i]!).left 1)), .d (.int .i64 (gi ((norm1 l)[i]!).left 2)), .d (.int .i64 (gi ((norm1 l)[i]!).left 3)), .d (.int .i64 (gi ((norm1 l)[i]!).left 4)), .d (.int .i64 (gi ((norm1 l)[i]!).left 5)), .d (.int .i64 (gi ((norm1 l)[i]!).left 6)), .d (.int .i64 (gi ((norm1 l)[i]!).left 7)), .d (.int .i64 ((norm1 l)[i]!).right.length), .d (.int .i64 (gi ((norm1 l)[i]!).right 0)), .d (.int .i64 (gi ((norm1 l)[i]!).right 1)), .d (.int .i64 (gi ((norm1 l)[i]!).right 2)), .d (.int .i64 (gi ((norm1 l)[i]!).right 3)), .d (.int .i64 (gi ((norm1 l)[i]!).right 4)), .d (.int .i64 (gi ((norm1 l)[i]!).right 5)), .d (.int .i64 (gi ((norm1 l)[i]!).right 6)), .d (.int .i64 (gi ((norm1 l)[i]!).right 7))]) (off := 10) (a := ((norm1 l)[i]!).right) v2 (by omega)
        have gl : (x ++ [i]).getLast? = some i := List.getLast?_concat
        have hxl := seen_len hx1 hx2
        have hxn : (x ++ [i]).Nodup := by
          rw [List.nodup_append]
          exact ⟨hx1, by simp, fun a ha b hb e => h2 (by simp at hb; rw [← hb, ← e]; exact ha)⟩
        have hxb : ∀ j ∈ x ++ [i], j < (norm1 l).length := fun j hj => by
          rcases List.mem_append.1 hj with h | h
          · exact hx2 j h
          · rw [List.mem_singleton.1 h]; exact hi
        have hxm := seen_len hxn hxb
        simp only [List.length_append, List.length_cons, List.length_nil] at hxm
        have c0_ := k1; have c1_ := k2; refine goX (And.intro @gl @h1) ?_; try exact trivial
        refine ⟨x ++ [i], ⟨hxn, hxb⟩, ?_, ?_, by simp only [List.length_append, List.length_cons, List.length_nil]; omega⟩
        · simp (disch := omega) only [go_sem, keepL]
        · simp (disch := omega) only [go_sem, keepL, List.map_append]
      · have hps := seen_perm hx1 hx2 (fun i hi => h1 i (by rw [em_len]; exact hi))
        have hxn : (norm l).length = x.length := by rw [hperm.length_eq, hps.length_eq, List.length_map]
        have ps := pSort (xs := x.map ((norm1 l)[·]!)) (ys := norm l) (fun r hr => hmo r (hps.mem_iff.2 hr)) (by rw [List.length_map, ← hxn, hperm.length_eq]; exact hne) (by rw [List.length_map, ← hxn, hperm.length_eq]; omega) (hperm.trans hps) hrise
        rw [List.length_map] at ps
        have c0_ := ps; refine goX @hxn ?_; try exact trivial
    · have h0 : norm1 l = [] := List.eq_nil_of_length_eq_zero (by omega)
      have h00 : norm l = [] := List.eq_nil_of_length_eq_zero (by rw [hperm.length_eq]; omega)
      rw [h0, h00]
      refine WP_nil 2 3 rfl ?_
      refine WP_once ?_
      refine WP_seq (WP_next (n := 75) rfl rfl rfl rfl rfl rfl (fun i kd vd h1 h2 => ?_) (fun h1 => ?_))
      · simp [em] at h1
      · have c0_ := pSort0; refine goT ?_; try exact trivial
end Go.Eng.Tryz
set_option linter.unusedVariables false
set_option linter.unusedSimpArgs false
namespace Go.Eng.Tryz
open Go Go.Eng Go.Proofs Go.RowKit
attribute [local go_sem] is_len is_get rs_len rs_get rs_snoc
def few1 (r : Ru) : Bool := decide (r.left.length ≤ 100) && decide (r.right.length ≤ 100)
theorem few1_t {r : Ru} (h1 : r.left.length ≤ 100) (h2 : r.right.length ≤ 100) : few1 r = true := by simp [few1, h1, h2]
theorem few1_f {r : Ru} (h : ¬ (r.left.length ≤ 100 ∧ r.right.length ≤ 100)) : few1 r = false := by
  cases hf : few1 r with
  | false => rfl
  | true => simp [few1] at hf; exact absurd hf h
def fewR (l : List Ru) (n : Int) : Bool := l.all few1 && decide ((l.length : Int) ≤ n)
theorem fewR_step {l : List Ru} {k : Nat} (h : k < l.length) : (l.take (k + 1)).all few1 = ((l.take k).all few1 && few1 (l[k]!)) := by
  rw [List.take_add_one, List.all_append, List.getElem?_eq_getElem h, ← getElem!_pos l k h]
  generalize l[k]! = z
  simp
theorem fewR_f {l : List Ru} {k : Nat} {n : Int} (h : k < l.length) (hf : few1 (l[k]!) = false) : fewR l n = false := by
  have hm : l[k]! ∈ l := by rw [getElem!_pos l k h]; exact List.getElem_mem h
  cases hh : fewR l n with
  | false => rfl
  | true =>
    simp only [fewR, Bool.and_eq_true, List.all_eq_true] at hh
    have := hh.1 _ hm
    rw [hf] at this; cases this
theorem rFewR {l : List Ru} {n : Int} (hl : ∀ r ∈ l, r.ok) (hlen : l.length ≤ 9223372036854775807) : Sound Tryz.prog 40 [.sl 3 (rs l), .int .i64 n] (.bool (fewR l n)) := by
  refine Sound.run (N := 32) Tryz.func40 rfl (by kernel_rfl) rfl rfl rfl (by exact args0_2) fun X_ w_ => ?_
  refine goT ?_; try exact trivial
  refine WP_loopk (fun k : Nat => k ≤ l.length ∧ (l.take k).all few1 = true) (fun k => [(0, .d (.sl 3 (rs l))), (1, .d (.int .i64 n)), (5, .d (.int .i64 k))]) (fun _ => []) 0 (fun k => l.length - k) [0, 1, 5] [] 0 ⟨Nat.zero_le _, rfl⟩ rfl rfl (Nat.le_refl _) (fun _ _ => rfl) (fun _ _ => rfl) fun k hk => ?_
  obtain ⟨hk1, hw⟩ := hk
  by_cases hk' : k < l.length
  · have hst := fewR_step hk'
    rw [hw, Bool.true_and] at hst
    by_cases h1 : (l[k]!).left.length ≤ 100
    · by_cases h2 : (l[k]!).right.length ≤ 100
      · have h3 := few1_t h1 h2
        rw [h3] at hst
        refine goT ?_; try exact trivial
        refine ⟨k + 1, ⟨by omega, hst⟩, ?_, rfl, by omega⟩
        simp (disch := omega) only [go_sem, keepL, Int.natCast_add, Int.cast_ofNat_Int]
      · have e := fewR_f (n := n) hk' (few1_f fun h => h2 h.2)
        refine goX @e ?_; try exact trivial
    · have e := fewR_f (n := n) hk' (few1_f fun h => h1 h.1)
      refine goX @e ?_; try exact trivial
  · have hk' : k = l.length := by omega
    subst hk'
    rw [List.take_length] at hw
    by_cases h2 : (l.length : Int) ≤ n
    · have e : fewR l n = true := by simp only [fewR, hw, Bool.true_and]; exact decide_eq_true h2
      refine goX @e ?_; try exact trivial
    · have e : fewR l n = false := by simp only [fewR, hw, Bool.true_and]; exact decide_eq_false h2
      refine goX @e ?_; try exact trivial
end Go.Eng.Tryz
set_option linter.unusedVariables false
set_option linter.unusedSimpArgs false
namespace Go.Eng.Tryz
open Go Go.Eng Go.Proofs Go.RowKit
attribute [local go_sem] is_len is_get rs_len rs_get
theorem itake {a b : List Int} {k : Nat} (hw : a.take k = b.take k) (h1 : k < a.length) (h2 : k < b.length) (h : a[k]! = b[k]!) : a.take (k + 1) = b.take (k + 1) := by
  rw [List.take_add_one, List.take_add_one, hw, List.getElem?_eq_getElem h1, List.getElem?_eq_getElem h2, ← getElem!_pos a k h1, ← getElem!_pos b k h2, h]
theorem sEqual {a b : List Int} (ha : a.length ≤ 9223372036854775807) (hb : b.length ≤ 9223372036854775807) : Sound Tryz.prog 66 [.sl 1 (is a), .sl 1 (is b)] (.bool (decide (a = b))) := by
  by_cases hl : a.length = b.length
  · refine Sound.run (N := 26) Tryz.func66 rfl (by kernel_rfl) rfl rfl rfl (by exact args0_2) fun X_ w_ => ?_
    refine goT ?_; try exact trivial
    refine WP_loopk (fun k : Nat => k ≤ a.length ∧ a.take k = b.take k) (fun k => [(0, .d (.sl 1 (is a))), (1, .d (.sl 1 (is b))), (12, .d (.int .i64 a.length)), (13, .d (.int .i64 k))]) (fun _ => []) 0 (fun k => a.length - k) [0, 1, 12, 13] [] 0 ⟨Nat.zero_le _, rfl⟩ rfl rfl (Nat.le_refl _) (fun _ _ => rfl) (fun _ _ => rfl) fun k hk => ?_
    obtain ⟨hk1, hw⟩ := hk
    by_cases hk' : k < a.length
    · have hk2 : k < b.length := by omega
      by_cases hc : a[k]! = b[k]!
      · have e := itake hw hk' hk2 hc
        refine goX @hc ?_; try exact trivial
        refine ⟨k + 1, ⟨by omega, e⟩, ?_, rfl, by omega⟩
        simp (disch := omega) only [go_sem, keepL, Int.natCast_add, Int.cast_ofNat_Int]
      · have e : decide (a = b) = false := decide_eq_false fun h => hc (by rw [h])
        refine goX @e ?_; try exact trivial
    · have hk' : k = a.length := by omega
      subst hk'
      have e : decide (a = b) = true := decide_eq_true (by rw [List.take_length, hl, List.take_length] at hw; exact hw)
      refine goX @e ?_; try exact trivial
  · have e : decide (a = b) = false := decide_eq_false fun h => hl (by rw [h])
    refine Sound.run (N := 26) Tryz.func66 rfl (by kernel_rfl) rfl rfl rfl (by exact args0_2) fun X_ w_ => ?_
    refine goX @e ?_; try exact trivial
def fidx {α : Type} (p : α → Bool) (l : List α) : Int := if l.any p = true then (l.findIdx p : Nat) else -1
theorem fidx_ge {α : Type} (p : α → Bool) (l : List α) : decide (0 ≤ fidx p l) = l.any p := by
  unfold fidx
  cases h : l.any p
  · rw [if_neg (by simp)]; simp
  · rw [if_pos rfl]; simp
theorem fidx_at {α : Type} [Inhabited α] {p : α → Bool} {l : List α} {k : Nat} (h : k < l.length) (hk : (l.take k).any p = false) (hb : p (l[k]!) = true) : fidx p l = (k : Int) := by
  unfold fidx
  rw [getElem!_pos l k h] at hb
  rw [if_pos (List.any_eq_true.2 ⟨l[k], List.getElem_mem h, hb⟩)]
  congr 1
  rw [List.findIdx_eq h]
  refine ⟨hb, fun j hj => ?_⟩
  have hm : l[j] ∈ l.take k := by
    have : (l.take k)[j]? = some l[j] := by rw [List.getElem?_take, if_pos hj, List.getElem?_eq_getElem (by omega)]
    exact List.mem_of_getElem? this
  cases hp : p l[j] with
  | false => rfl
  | true =>
    have := List.any_eq_true.2 ⟨l[j], hm, hp⟩
    rw [hk] at this; cases this
theorem any_step {α : Type} [Inhabited α] {p : α → Bool} {l : List α} {k : Nat} (h : k < l.length) (hk : (l.take k).any p = false) (hb : p (l[k]!) = false) : (l.take (k + 1)).any p = false := by
  rw [List.take_add_one, List.any_append, List.getElem?_eq_getElem h, hk]
  rw [getElem!_pos l k h] at hb
  simp [hb]
theorem fidx_none {α : Type} {p : α → Bool} {l : List α} (h : l.any p = false) : fidx p l = -1 := by unfold fidx; rw [h]; rfl
theorem indexG {p : Int → Bool} {g : Nat} (hp : ∀ z, Sound Tryz.prog g [.int .i64 z] (.bool (p z))) {l : List Int} (hl : l.length ≤ 9223372036854775807) : Sound Tryz.prog 130 [.sl 1 (is l), .fn g] (.int .i64 (fidx p l)) := by
  refine Sound.run (N := 19) Tryz.func130 rfl (by kernel_rfl) rfl rfl rfl (by exact args0_2) fun X_ w_ => ?_
  refine goT ?_; try exact trivial
  refine WP_loopk (fun k : Nat => k ≤ l.length ∧ (l.take k).any p = false) (fun k => [(0, .d (.sl 1 (is l))), (1, .d (.fn g)), (7, .d (.int .i64 l.length)), (8, .d (.int .i64 k))]) (fun _ => []) 0 (fun k => l.length - k) [0, 1, 7, 8] [] 0 ⟨Nat.zero_le _, rfl⟩ rfl rfl (Nat.le_refl _) (fun _ _ => rfl) (fun _ _ => rfl) fun k hk => ?_
  obtain ⟨hk1, hw⟩ := hk
  by_cases hk' : k < l.length
  · have c := hp (l[k]!)
    cases hg : p (l[k]!)
    · have hst := any_step hk' hw hg
      rw [hg] at c
      have c0_ := c; refine goT ?_; try exact trivial
      refine ⟨k + 1, ⟨by omega, hst⟩, ?_, rfl, by omega⟩
      simp (disch := omega) only [go_sem, keepL, Int.natCast_add, Int.cast_ofNat_Int]
    · have e := fidx_at hk' hw hg
      rw [hg] at c
      have c0_ := c; refine goX @e ?_; try exact trivial
  · have hkl : k = l.length := by omega
    subst hkl
    rw [List.take_length] at hw
    have e := fidx_none hw
    refine goX @e ?_; try exact trivial
theorem containsG {p : Int → Bool} {g : Nat} (hp : ∀ z, Sound Tryz.prog g [.int .i64 z] (.bool (p z))) {l : List Int} (hl : l.length ≤ 9223372036854775807) : Sound Tryz.prog 92 [.sl 1 (is l), .fn g] (.bool (l.any p)) := by
  have e := fidx_ge p l
  refine Sound.run (N := 9) Tryz.func92 rfl (by kernel_rfl) rfl rfl rfl (by exact args0_2) fun X_ w_ => ?_
  have c0_ := indexG hp hl; refine goX @e ?_; try exact trivial
def blank (z : Int) : Bool := decide (z = 32 ∨ z = 9 ∨ z = 10)
theorem blank_t {z : Int} (h : z = 32 ∨ z = 9 ∨ z = 10) : blank z = true := decide_eq_true h
theorem blank_f {z : Int} (h : ¬ (z = 32 ∨ z = 9 ∨ z = 10)) : blank z = false := decide_eq_false h
theorem plain1 {z : Int} : Sound Tryz.prog 167 [.int .i64 z] (.bool (blank z)) := by
  by_cases h1 : z = 32
  · have e := blank_t (z := z) (by omega)
    refine Sound.run (N := 13) Tryz.func167 rfl (by kernel_rfl) rfl rfl rfl (by exact args0_1) fun X_ w_ => ?_
    refine goX (And.intro @e @h1) ?_; try exact trivial
  by_cases h2 : z = 9
  · have e := blank_t (z := z) (by omega)
    refine Sound.run (N := 13) Tryz.func167 rfl (by kernel_rfl) rfl rfl rfl (by exact args0_1) fun X_ w_ => ?_
    refine goX (And.intro @e (And.intro @h1 @h2)) ?_; try exact trivial
  by_cases h3 : z = 10
  · have e := blank_t (z := z) (by omega)
    refine Sound.run (N := 13) Tryz.func167 rfl (by kernel_rfl) rfl rfl rfl (by exact args0_1) fun X_ w_ => ?_
    refine goX (And.intro @e (And.intro @h1 (And.intro @h2 @h3))) ?_; try exact trivial
  · have e := blank_f (z := z) (by omega)
    refine Sound.run (N := 13) Tryz.func167 rfl (by kernel_rfl) rfl rfl rfl (by exact args0_1) fun X_ w_ => ?_
    refine goX (And.intro @e (And.intro @h1 (And.intro @h2 @h3))) ?_; try exact trivial
def plainL (l : List Int) : Bool := !l.any blank && decide (l ≠ [95])
theorem sPlain {l : List Int} (hl : l.length ≤ 9223372036854775807) : Sound Tryz.prog 125 [.sl 1 (is l)] (.bool (plainL l)) := by
  have c1 := containsG (p := blank) (g := 167) (fun z => plain1) hl
  have c2 : Sound Tryz.prog 66 [.sl 1 (is l), .sl 1 [.int .i64 95]] (.bool (decide (l = [95]))) := sEqual (b := [95]) hl (by decide)
  cases h : l.any blank
  · rw [h] at c1
    by_cases h2 : l = [95]
    · have e : plainL l = false := by unfold plainL; rw [decide_eq_false (fun hh => hh h2)]; simp
      rw [decide_eq_true h2] at c2
      refine Sound.run (N := 14) Tryz.func125 rfl (by kernel_rfl) rfl rfl rfl (by exact args0_1) fun X_ w_ => ?_
      have c0_ := c1; have c1_ := c2; refine goX @e ?_; try exact trivial
    · have e : plainL l = true := by unfold plainL; rw [decide_eq_true h2, h]; rfl
      rw [decide_eq_false h2] at c2
      refine Sound.run (N := 14) Tryz.func125 rfl (by kernel_rfl) rfl rfl rfl (by exact args0_1) fun X_ w_ => ?_
      have c0_ := c1; have c1_ := c2; refine goX @e ?_; try exact trivial
  · rw [h] at c1
    have e : plainL l = false := by unfold plainL; rw [h]; rfl
    refine Sound.run (N := 14) Tryz.func125 rfl (by kernel_rfl) rfl rfl rfl (by exact args0_1) fun X_ w_ => ?_
    have c0_ := c1; have c1_ := c2; refine goX @e ?_; try exact trivial
def fit (r : Ru) : Bool := rok r && plainL r.left && plainL r.right
theorem sFit {r : Ru} (hr : r.ok) : Sound Tryz.prog 84 [ru r] (.bool (fit r)) := by
  have c0 := pRCheck hr
  have c1 := sPlain hr.1
  have c2 := sPlain hr.2.1
  have e : fit r = (rok r && plainL r.left && plainL r.right) := rfl
  unfold ru at c0 ⊢
  cases h0 : rok r <;> cases h1 : plainL r.left <;> cases h2 : plainL r.right <;> rw [h0] at c0 <;> rw [h1] at c1 <;> rw [h2] at c2 <;> simp only [h0, h1, h2, Bool.and_true, Bool.and_false, Bool.false_and] at e
  all_goals refine Sound.run (N := 15) Tryz.func84 rfl (by kernel_rfl) rfl rfl rfl (by exact args0_1) fun X_ w_ => ?_
  all_goals (have c0_ := c0; have c1_ := c1; have c2_ := c2; refine goX @e ?_; try exact trivial)
theorem sFit1 {r : Ru} (hr : r.ok) : Sound Tryz.prog 83 [ru r] (.bool (!fit r)) := by
  have c := sFit hr
  unfold ru at c ⊢
  refine Sound.run (N := 6) Tryz.func83 rfl (by kernel_rfl) rfl rfl rfl (by exact args0_1) fun X_ w_ => ?_
  have c0_ := c; refine goT ?_; try exact trivial
theorem indexR {l : List Ru} (hok : ∀ r ∈ l, r.ok) (hl : l.length ≤ 9223372036854775807) : Sound Tryz.prog 126 [.sl 3 (rs l), .fn 83] (.int .i64 (fidx (fun r => !fit r) l)) := by
  refine Sound.run (N := 19) Tryz.func126 rfl (by kernel_rfl) rfl rfl rfl (by exact args0_2) fun X_ w_ => ?_
  refine goT ?_; try exact trivial
  refine WP_loopk (fun k : Nat => k ≤ l.length ∧ (l.take k).any (fun r => !fit r) = false) (fun k => [(0, .d (.sl 3 (rs l))), (1, .d (.fn 83)), (7, .d (.int .i64 l.length)), (8, .d (.int .i64 k))]) (fun _ => []) 0 (fun k => l.length - k) [0, 1, 7, 8] [] 0 ⟨Nat.zero_le _, rfl⟩ rfl rfl (Nat.le_refl _) (fun _ _ => rfl) (fun _ _ => rfl) fun k hk => ?_
  obtain ⟨hk1, hw⟩ := hk
  by_cases hk' : k < l.length
  · have c := sFit1 (rok_get hok hk')
    unfold ru at c
    cases hg : fit (l[k]!)
    · have e := fidx_at (p := fun r => !fit r) hk' hw (by simp only [hg]; rfl)
      rw [hg] at c
      have c0_ := c; refine goX @e ?_; try exact trivial
    · have hst := any_step (p := fun r => !fit r) hk' hw (by simp only [hg]; rfl)
      rw [hg] at c
      have c0_ := c; refine goT ?_; try exact trivial
      refine ⟨k + 1, ⟨by omega, hst⟩, ?_, rfl, by omega⟩
      simp (disch := omega) only [go_sem, keepL, Int.natCast_add, Int.cast_ofNat_Int]
  · have hkl : k = l.length := by omega
    subst hkl
    rw [List.take_length] at hw
    have e := fidx_none hw
    refine goX @e ?_; try exact trivial
theorem containsR {l : List Ru} (hok : ∀ r ∈ l, r.ok) (hl : l.length ≤ 9223372036854775807) : Sound Tryz.prog 87 [.sl 3 (rs l), .fn 83] (.bool (l.any fun r => !fit r)) := by
  have e := fidx_ge (fun r => !fit r) l
  refine Sound.run (N := 9) Tryz.func87 rfl (by kernel_rfl) rfl rfl rfl (by exact args0_2) fun X_ w_ => ?_
  have c0_ := indexR hok hl; refine goX @e ?_; try exact trivial
theorem sSame {r s : Ru} (hr : r.ok) (hs : s.ok) : Sound Tryz.prog 90 [ru r, ru s] (.bool (decide (r = s))) := by
  have c1 := sEqual hr.1 hs.1
  have c2 := sEqual hr.2.1 hs.2.1
  unfold ru
  by_cases h1 : r.left = s.left
  · rw [decide_eq_true h1] at c1
    by_cases h2 : r.right = s.right
    · rw [decide_eq_true h2] at c2
      by_cases h3 : r.cost = s.cost
      · have e : decide (r = s) = true := decide_eq_true (by cases r; cases s; simp only at h1 h2 h3; rw [h1, h2, h3])
        refine Sound.run (N := 24) Tryz.func90 rfl (by kernel_rfl) rfl rfl rfl (by exact args0_2) fun X_ w_ => ?_
        have c0_ := c1; have c1_ := c2; refine goX (And.intro @e @h3) ?_; try exact trivial
      · have e : decide (r = s) = false := decide_eq_false (fun h => h3 (by rw [h]))
        refine Sound.run (N := 24) Tryz.func90 rfl (by kernel_rfl) rfl rfl rfl (by exact args0_2) fun X_ w_ => ?_
        have c0_ := c1; have c1_ := c2; refine goX (And.intro @e @h3) ?_; try exact trivial
    · rw [decide_eq_false h2] at c2
      have e : decide (r = s) = false := decide_eq_false (fun h => h2 (by rw [h]))
      refine Sound.run (N := 24) Tryz.func90 rfl (by kernel_rfl) rfl rfl rfl (by exact args0_2) fun X_ w_ => ?_
      have c0_ := c1; have c1_ := c2; refine goX @e ?_; try exact trivial
  · rw [decide_eq_false h1] at c1
    have e : decide (r = s) = false := decide_eq_false (fun h => h1 (by rw [h]))
    refine Sound.run (N := 24) Tryz.func90 rfl (by kernel_rfl) rfl rfl rfl (by exact args0_2) fun X_ w_ => ?_
    have c0_ := c1; have c1_ := c2; refine goX @e ?_; try exact trivial
end Go.Eng.Tryz
set_option linter.unusedVariables false
set_option linter.unusedSimpArgs false
namespace Go.Eng.Tryz
open Go Go.Eng Go.Proofs Go.RowKit
attribute [local go_sem] is_len is_get rs_len rs_get rs_snoc
end Go.Eng.Tryz

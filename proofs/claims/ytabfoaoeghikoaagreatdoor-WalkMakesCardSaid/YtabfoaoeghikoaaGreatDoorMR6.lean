/- Words in order, each once; their list. (and what stands behind it: texts laid together) -/
import Derived.Test.YtabfoaoeghikoaaGreatDoorMG4
import Derived.Test.YtabfoaoeghikoaaGreatDoorMR5
import Derived.Test.YtabfoaoeghikoaaGreatDoorMH1
import Derived.Shelf.LaysM
import Derived.Test.YtabfoaoeghikoaaGreatDoorProg
set_option linter.unusedVariables false
set_option linter.unusedSimpArgs false
namespace Go.Eng.Tryz
open Go Go.Eng Go.Proofs Go.RowKit
attribute [local go_sem] ty0 ty1 ty2 ty3 ty4 ty5 ty6 ty7 ty8 ty9 ty10 ty11 ty12 ty13 ty14 ty15 ty16 ty17 ty18
attribute [local go_sem] is_len is_get iss_len iss_get iss_snoc
def unI (x : D) : Int := match x with | .int _ z => z | _ => 0
def unisX (d : D) : List Int := match d with | .sl _ xs => xs.map unI | _ => []
theorem unisX_is (w : List Int) : unisX (.sl 1 (is w)) = w := by simp [unisX, is, unI, List.map_map, Function.comp_def]
theorem wcmp_lt_irr (a : List Int) : ¬ wcmp a a < 0 := by have := (wcmp_eq a a).2 rfl; omega
set_option maxRecDepth 10000 in
theorem pSortW {xs ys : List (List Int)} (hok : ∀ w ∈ xs, w.length ≤ 9223372036854775807) (h0 : 0 < xs.length) (hmax : xs.length < 4611686018427387904) (hp : ys.Perm xs) (hs : ys.Pairwise (fun a b => ¬ wcmp b a < 0)) :
    SoundM Tryz.prog 132 [.own 0 xs.length, .d (.fn 133)] [(0, .row 36 1 (iss xs))] (.tup []) [(0, .row 36 1 (iss ys))] 1 := by
  have eg : ∀ args w, (callFunc 133 args).run Tryz.prog w = .ok (.enter 133 args) w := enters_of Tryz.func133 (by kernel_rfl) rfl
  have hlen : (iss xs).length = xs.length := iss_len
  have gd : ∀ x, (∃ w : List Int, w.length ≤ 9223372036854775807 ∧ x = D.sl 1 (is w)) → D.sl 1 (is (unisX x)) = x ∧ (unisX x).length ≤ 9223372036854775807 := fun x ⟨r, h1, h2⟩ => by rw [h2, unisX_is]; exact ⟨rfl, h1⟩
  have := sort_sound1 (P := Tryz.prog) Tryz.sortWord eg (Good := fun x => ∃ w : List Int, w.length ≤ 9223372036854775807 ∧ x = D.sl 1 (is w)) (cf := fun x y => wcmp (unisX x) (unisX y))
    (fun x y hx hy => by
      have := pCmp1 (gd x hx).2 (gd y hy).2
      rwa [(gd x hx).1, (gd y hy).1] at this)
    (fun x hx => wcmp_lt_irr _) (fun x y z _ _ _ h1 h2 => wcmp_lt_trans h1 (by omega)) (fun x y z _ _ _ h1 h2 => by
      have a1 := wcmp_swap (unisX x) (unisX y)
      have a2 := wcmp_swap (unisX y) (unisX z)
      have a3 := wcmp_swap (unisX x) (unisX z)
      have := wcmp_le_trans (unisX z) (unisX y) (unisX x) (by omega) (by omega)
      omega)
    (fun x y hx hy h1 h2 => by
      have a1 := wcmp_swap (unisX x) (unisX y)
      have e := (wcmp_eq (unisX x) (unisX y)).1 (by omega)
      rw [← (gd x hx).1, ← (gd y hy).1, e])
    (fun x ⟨r, _, h⟩ => by rw [h]; rfl) (e := 36) (xs := iss xs) (ys := iss ys) (fun x hx => by
      obtain ⟨w, hw, rfl⟩ := List.mem_map.1 hx
      exact ⟨w, hok w hw, rfl⟩) (by rw [hlen]; exact h0) (by rw [hlen]; exact hmax) (hp.map _) (by
      unfold iss
      rw [List.pairwise_map]
      exact hs.imp (fun {a b} h => by rw [unisX_is, unisX_is]; exact h))
  rw [hlen] at this
  exact this
theorem SrtW.stay {l : List (List Int)} (h : SrtW l) : l.Pairwise (fun a b => ¬ wcmp b a < 0) := h.imp fun {a b} h => by have := wcmp_swap a b; omega
theorem iss_take_succ {l : List (List Int)} {k : Nat} (h : k < l.length) : l.take (k + 1) = l.take k ++ [l[k]!] := atake_snoc h
set_option maxHeartbeats 4000000 in
set_option maxRecDepth 10000 in
/-- Words that are in order stay so. -/
theorem pWSort1 {l : List (List Int)} (hl : ∀ w ∈ l, w.length ≤ 1000000) (hlen : l.length ≤ 1000000) (h0 : 0 < l.length) (hs : SrtW l) : Sound Tryz.prog 95 [.sl 1 (iss l)] (.sl 1 (iss l)) := by
  have hok : ∀ w ∈ l, w.length ≤ 9223372036854775807 := fun w hw => Nat.le_trans (hl w hw) (by decide)
  have c1 := pSortW (xs := l) (ys := l) hok h0 (by omega) (List.Perm.refl _) hs.stay
  have c2 := pCompact ⟨by omega, hok⟩ hs h0
  refine Sound.run (N := 25) Tryz.func95 rfl (by kernel_rfl) rfl rfl rfl (by first | exact args0_0 | exact args0_1 | exact args0_2 | exact args0_3 | exact args0_4 | exact args0_5 | exact args0_6) fun X_ w_ => ?_
  refine goT ?_; first | exact trivial | skip
  refine WP_loopk (fun k : Nat => k ≤ l.length) (fun k => [(3, .own 1002 (l.take k).length), (9, .d (.sl 1 (iss l))), (10, .d (.int .i64 l.length)), (11, .d (.int .i64 k))]) (fun k => [(1002, .row 36 1 (iss (l.take k)))]) 1003 (fun k => l.length - k) [3, 9, 10, 11] [1002] 0 (Nat.zero_le _) rfl rfl (Nat.zero_le _) (fun _ _ => rfl) (fun _ _ => rfl) fun k hk => ?_
  have hkl : (l.take k).length = k := by simp; omega
  by_cases hk3 : k < l.length
  · have hst := iss_take_succ hk3
    have cl := pClone (l := l[k]!) (by rw [getElem!_pos l k hk3]; exact hl _ (List.getElem_mem hk3))
    have c0_ := cl; refine goX @hkl ?_; first | exact trivial | skip
    refine ⟨k + 1, by omega, ?_, ?_, by omega⟩
    · simp (disch := omega) only [go_sem, keepL, Int.natCast_add, Int.cast_ofNat_Int, hst, hkl, List.length_append, List.length_cons, List.length_nil]
    · simp (disch := omega) only [go_sem, keepL, hst]
  · have hke : k = l.length := by omega
    subst hke
    rw [List.take_length]
    have c0_ := c1; have c1_ := c2; refine goT ?_; first | exact trivial | skip
/-- Bytes, as a slice's elements. -/
def bys (l : List Int) : List D := l.map fun z => .int .u8 z
theorem bys_len {l : List Int} : (bys l).length = l.length := by simp [bys]
theorem bys_snoc {l : List Int} {z : Int} : bys l ++ [.int .u8 z] = bys (l ++ [z]) := by simp [bys]
theorem bys_app {a b : List Int} : bys a ++ bys b = bys (a ++ b) := by simp [bys]
attribute [local go_sem] bys_len bys_snoc bys_app
set_option maxHeartbeats 4000000 in
set_option maxRecDepth 10000 in
/-- A sign below 128. -/
theorem pAppRune {b : List Int} {z : Int} (h0 : 0 ≤ z) (h1 : z ≤ 127) (hb : b.length ≤ 1000000) : SoundM Tryz.prog 136 [.own 0 b.length, .d (.int .i32 z)] [(0, .row 5 1 (bys b))] (.own 0 (b.length + 1)) [(0, .row 5 1 (bys (b ++ [z])))] 1 := by
  have e1 : IntKind.u32.wrap z = z := by simp [IntKind.wrap, IntKind.bits, IntKind.signed]; omega
  have e2 : IntKind.u8.wrap z = z := by simp [IntKind.wrap, IntKind.bits, IntKind.signed]; omega
  refine SoundM.run (N := 16) (ks := [0]) Tryz.func136 rfl (by kernel_rfl) rfl rfl rfl (by first | exact argsA_0 | exact argsA_1 | exact argsA_2 | exact argsA_3 | exact argsA_4 | exact argsA_5 | exact argsA_6) fun X_ ν_ w_ => ?_
  refine goX (And.intro @e1 @e2) ?_; first | exact trivial | skip
theorem asc_good {z : Int} (h0 : 0 ≤ z) (h1 : z ≤ 127) : gsign z = true := decide_eq_true ⟨h0, by omega, by omega⟩
set_option maxHeartbeats 4000000 in
set_option maxRecDepth 10000 in
theorem pPutA {w : List Int} (hw : ∀ z ∈ w, 0 ≤ z ∧ z ≤ 127) (hlen : w.length ≤ 1000000) : Sound Tryz.prog 98 [.sl 1 (is w)] (.tup [.sl 1 (bys w), .int .i64 0]) := by
  refine Sound.run (N := 22) Tryz.func98 rfl (by kernel_rfl) rfl rfl rfl (by first | exact args0_0 | exact args0_1 | exact args0_2 | exact args0_3 | exact args0_4 | exact args0_5 | exact args0_6) fun X_ w_ => ?_
  repeat ((fail_if_success (with_reducible show WP _ _ (.region 2 _ _) _ _)); first | with_reducible exact Ev.nil | with_reducible exact gd_n | ((with_reducible apply lk_ok); rfl) | ((with_reducible apply gslot_ok); rfl) | ((with_reducible apply v2d_ok); rfl) | with_reducible apply then_n | with_reducible apply WP_seq | with_reducible apply WP_skip | ((with_reducible apply WP_r (N := 22) rfl rfl); (focus simp only [Nat.reduceAdd] <;> rfl)) | ((with_reducible apply WP_d (N := 22) mixed rfl rfl); (focus simp only [Nat.reduceAdd] <;> rfl)) | ((with_reducible apply Ev_s); (focus first | (apply gd_u; (focus rfl); rfl) | (apply gd_f; (focus rfl); (focus rfl); rfl))) | ((with_reducible apply Ev_sn); (focus first | (apply gd_u; (focus rfl); rfl) | (apply gd_f; (focus rfl); (focus rfl); rfl))) | with_reducible apply gd_t | with_reducible apply Ev_mv | with_reducible apply Ev_as | with_reducible apply Ev_mc | with_reducible apply Ev_ac | ((first | (with_reducible apply Ev_pt) | (with_reducible apply Ev_ptc)); (focus rfl)) | ((first | (with_reducible apply Ev_pf) | (with_reducible apply Ev_pfc)); (focus rfl)) | ((with_reducible apply Ev_d); (focus simp only [Nat.reduceAdd] <;> rfl); (focus simp (disch := omega) only [go_sem] <;> rfl)) | ((first | (with_reducible apply Ev_od) | (with_reducible apply Ev_on)); (focus simp only [Nat.reduceAdd] <;> rfl); (focus simp (disch := omega) only [go_sem] <;> rfl); (focus first | (simp (disch := omega) only [go_sem] <;> rfl) | rfl)) | with_reducible apply endM_n | with_reducible apply endM_r | with_reducible apply then_r | with_reducible apply then_x | with_reducible apply block_n | with_reducible apply block_r | with_reducible apply block_x | with_reducible apply block_y rfl | with_reducible apply scope_n | with_reducible apply scope_r | with_reducible apply scope_x | with_reducible apply end_n | with_reducible apply end_r | with_reducible apply WP_block | with_reducible apply WP_exit | with_reducible apply WP_ret | with_reducible apply WP_label | with_reducible apply WP_scope | ((with_reducible apply WP_t); (focus first | (simp (disch := omega) only [go_sem] <;> rfl) | rfl)) | ((with_reducible apply WP_f); (focus first | (simp (disch := omega) only [go_sem] <;> rfl) | rfl)) | ((with_reducible apply resD_t); (focus rfl)) | ((with_reducible apply resD_2); (focus rfl); (focus rfl)) | (with_reducible rfl) | ((with_reducible show List.map outKeys _ = _); simp only [List.map_cons, List.map_nil, outKeys, keys]; rfl) | ((with_reducible show orderOk _ _ = true); kernel_rfl) | ((with_reducible show _ = _); simp (disch := omega) only [go_sem] <;> rfl) | ((fail_if_success (with_reducible show Ev _ _ _ _ (_ :: _) _ _ _ _ _)); (show Ev _ _ _ _ (_ :: _) _ _ _ _ _)) | fail)
  refine WP_own 4 3000 5 1 rfl (by decide) (Nat.le_of_ble_eq_true rfl) ?_
  refine goT ?_; first | exact trivial | skip
  refine WP_loopk (fun k : Nat => k ≤ w.length) (fun k => [(4, .own 3000 (w.take k).length), (7, .d (.sl 1 (is w))), (8, .d (.int .i64 w.length)), (9, .d (.int .i64 k))]) (fun k => [(3000, .row 5 1 (bys (w.take k)))]) 3001 (fun k => w.length - k) [4, 7, 8, 9] [3000] 0 (Nat.zero_le _) rfl rfl (Nat.zero_le _) (fun _ _ => rfl) (fun _ _ => rfl) fun k hk => ?_
  have hkl : (w.take k).length = k := by simp; omega
  by_cases hk3 : k < w.length
  · have hz := hw (w[k]!) (by rw [getElem!_pos w k hk3]; exact List.getElem_mem hk3)
    have cg := utfGood (z := w[k]!)
    rw [asc_good hz.1 hz.2] at cg
    have hst : w.take (k + 1) = w.take k ++ [w[k]!] := atake_snoc hk3
    have ca := pAppRune (b := w.take k) hz.1 hz.2 (by omega)
    rw [hkl] at ca
    have e1 : IntKind.i32.wrap (w[k]!) = w[k]! := by
      obtain ⟨h0, h1⟩ := hz
      generalize w[k]! = z at h0 h1 ⊢
      simp [IntKind.wrap, IntKind.bits, IntKind.signed]; omega
    have c0_ := cg; have c1_ := ca; refine goX (And.intro @hkl @e1) ?_; first | exact trivial | skip
    refine ⟨k + 1, by omega, ?_, ?_, by omega⟩
    · simp (disch := omega) only [go_sem, keepL, Int.natCast_add, Int.cast_ofNat_Int, hst, hkl, List.length_append, List.length_cons, List.length_nil]
    · simp (disch := omega) only [go_sem, keepL, hst]
  · have hke : k = w.length := by omega
    subst hke
    rw [List.take_length]
    refine goT ?_; first | exact trivial | skip
/-- The bytes of a list. -/
def wbytes (l : List (List Int)) : List Int := l.flatMap fun w => w ++ [10]
theorem wbytes_snoc (l : List (List Int)) (w : List Int) : wbytes (l ++ [w]) = wbytes l ++ w ++ [10] := by simp [wbytes]
theorem wbytes_len (l : List (List Int)) (h : ∀ w ∈ l, w.length ≤ 20) : (wbytes l).length ≤ 21 * l.length := by
  induction l with
  | nil => simp [wbytes]
  | cons x t ih =>
    have h1 := ih fun w hw => h w (by simp [hw])
    have h2 := h x (by simp)
    simp only [wbytes, List.flatMap_cons, List.length_append, List.length_cons, List.length_nil] at h1 ⊢
    omega
set_option maxHeartbeats 4000000 in
set_option maxRecDepth 10000 in
/-- The list of words that are in order, their signs below 128. -/
theorem pWriteA {l : List (List Int)} (h0 : 0 < l.length) (h1 : l.length ≤ 300) (hf : l.all wfit = true) (hs : SrtW l) (ha : ∀ w ∈ l, ∀ z ∈ w, 0 ≤ z ∧ z ≤ 127) : Sound Tryz.prog 41 [.sl 1 (iss l)] (.tup [.sl 1 (bys (wbytes l)), .int .i64 0]) := by
  have hw20 : ∀ w ∈ l, w.length ≤ 20 := fun w hw => by
    have := List.all_eq_true.1 hf w hw
    simp only [wfit, Bool.and_eq_true, decide_eq_true_eq] at this
    exact this.1.1.2
  have hok : WsOk l := ⟨by omega, fun w hw => Nat.le_trans (hw20 w hw) (by decide)⟩
  have c1 := containsW (p := fun w => !wfit w) (g := 93) (fun w hw => pNoFit hw) hok
  rw [any_not, hf] at c1
  have c2 := pWSort1 (fun w hw => Nat.le_trans (hw20 w hw) (by decide)) (by omega) h0 hs
  have c3 := pIsSorted hok hs
  refine Sound.run (N := 46) Tryz.func41 rfl (by kernel_rfl) rfl rfl rfl (by first | exact args0_0 | exact args0_1 | exact args0_2 | exact args0_3 | exact args0_4 | exact args0_5 | exact args0_6) fun X_ w_ => ?_
  have c0_ := c1; have c1_ := c2; have c2_ := c3; repeat ((fail_if_success (with_reducible show WP _ _ (.region 6 _ _) _ _)); first | with_reducible exact Ev.nil | with_reducible exact gd_n | ((with_reducible apply lk_ok); rfl) | ((with_reducible apply gslot_ok); rfl) | ((with_reducible apply v2d_ok); rfl) | with_reducible apply then_n | with_reducible apply WP_seq | with_reducible apply WP_skip | ((with_reducible apply WP_r (N := 46) rfl rfl); (focus simp only [Nat.reduceAdd] <;> rfl)) | ((with_reducible apply WP_d (N := 46) mixed rfl rfl); (focus simp only [Nat.reduceAdd] <;> rfl)) | ((with_reducible apply Ev_s); (focus first | (apply gd_u; (focus rfl); rfl) | (apply gd_f; (focus rfl); (focus rfl); rfl))) | ((with_reducible apply Ev_sn); (focus first | (apply gd_u; (focus rfl); rfl) | (apply gd_f; (focus rfl); (focus rfl); rfl))) | with_reducible apply gd_t | with_reducible apply Ev_mv | with_reducible apply Ev_as | with_reducible apply Ev_mc | with_reducible apply Ev_ac | ((first | (with_reducible apply Ev_pt) | (with_reducible apply Ev_ptc)); (focus rfl)) | ((first | (with_reducible apply Ev_pf) | (with_reducible apply Ev_pfc)); (focus rfl)) | (apply Ev_cf; (focus simp (disch := omega) only [go_sem] <;> rfl); (focus first | exact c0_ | exact c1_ | exact c2_); (focus rfl); (focus first | (simp (disch := omega) only [go_sem] <;> rfl) | rfl)) | ((with_reducible apply Ev_d); (focus simp only [Nat.reduceAdd] <;> rfl); (focus simp (disch := omega) only [go_sem] <;> rfl)) | (apply Ev_cv; (focus rfl); (focus simp (disch := omega) only [go_sem] <;> rfl); (focus first | exact c0_ | exact c1_ | exact c2_); (iterate 3 (focus first | (simp (disch := omega) only [go_sem] <;> rfl) | rfl))) | ((first | apply Ev_cmd | apply Ev_cmn); (focus simp only [Nat.reduceAdd] <;> rfl); (focus rfl); (iterate 2 (focus simp (disch := omega) only [go_sem] <;> rfl)); (first | ((focus first | exact c0_ | exact c1_ | exact c2_); (iterate 2 (focus first | (simp (disch := omega) only [go_sem] <;> rfl) | rfl)); (focus rfl); (iterate 3 (focus first | (simp (disch := omega) only [go_sem] <;> rfl) | rfl))))) | ((first | (with_reducible apply Ev_od) | (with_reducible apply Ev_on)); (focus simp only [Nat.reduceAdd] <;> rfl); (focus simp (disch := omega) only [go_sem] <;> rfl); (focus first | (simp (disch := omega) only [go_sem] <;> rfl) | rfl)) | with_reducible apply endM_n | with_reducible apply endM_r | with_reducible apply then_r | with_reducible apply then_x | with_reducible apply block_n | with_reducible apply block_r | with_reducible apply block_x | with_reducible apply block_y rfl | with_reducible apply scope_n | with_reducible apply scope_r | with_reducible apply scope_x | with_reducible apply end_n | with_reducible apply end_r | with_reducible apply WP_block | with_reducible apply WP_exit | with_reducible apply WP_ret | with_reducible apply WP_label | with_reducible apply WP_scope | ((with_reducible apply WP_t); (focus first | (simp (disch := omega) only [go_sem] <;> rfl) | rfl)) | ((with_reducible apply WP_f); (focus first | (simp (disch := omega) only [go_sem] <;> rfl) | rfl)) | ((with_reducible apply resD_t); (focus rfl)) | ((with_reducible apply resD_2); (focus rfl); (focus rfl)) | (with_reducible rfl) | ((with_reducible show List.map outKeys _ = _); simp only [List.map_cons, List.map_nil, outKeys, keys]; rfl) | ((with_reducible show orderOk _ _ = true); kernel_rfl) | ((with_reducible show _ = _); simp (disch := omega) only [go_sem] <;> rfl) | ((fail_if_success (with_reducible show Ev _ _ _ _ (_ :: _) _ _ _ _ _)); (show Ev _ _ _ _ (_ :: _) _ _ _ _ _)) | fail)
  refine WP_own 2 9000 5 1 rfl (by decide) (Nat.le_of_ble_eq_true rfl) ?_
  refine goT ?_; first | exact trivial | skip
  refine WP_loopk (fun k : Nat => k ≤ l.length) (fun k => [(2, .own 9000 (wbytes (l.take k)).length), (28, .d (.sl 1 (iss l))), (29, .d (.int .i64 l.length)), (30, .d (.int .i64 k))]) (fun k => [(9000, .row 5 1 (bys (wbytes (l.take k))))]) 9001 (fun k => l.length - k) [2, 28, 29, 30] [9000] 0 (Nat.zero_le _) rfl rfl (Nat.zero_le _) (fun _ _ => rfl) (fun _ _ => rfl) fun k hk => ?_
  have hbl := wbytes_len (l.take k) fun w hw => hw20 w (List.mem_of_mem_take hw)
  have hkl : (l.take k).length = k := by simp; omega
  by_cases hk3 : k < l.length
  · have hmem : l[k]! ∈ l := by rw [getElem!_pos l k hk3]; exact List.getElem_mem hk3
    have hk20 := hw20 _ hmem
    have cp := pPutA (w := l[k]!) (ha _ hmem) (by omega)
    have hst : wbytes (l.take (k + 1)) = wbytes (l.take k) ++ (l[k]!) ++ [10] := by rw [atake_snoc hk3, wbytes_snoc]
    have c0_ := cp; refine goT ?_; first | exact trivial | skip
    refine ⟨k + 1, by omega, ?_, ?_, by omega⟩
    · simp (disch := omega) only [go_sem, keepL, Int.natCast_add, Int.cast_ofNat_Int, hst, List.length_append, List.length_cons, List.length_nil]
    · simp (disch := omega) only [go_sem, keepL, hst, List.append_assoc, List.length_append, List.length_cons, List.length_nil]
  · have hke : k = l.length := by omega
    subst hke
    rw [List.take_length]
    refine goT ?_; first | exact trivial | skip
end Go.Eng.Tryz
set_option linter.unusedVariables false
set_option linter.unusedSimpArgs false
namespace Go.Eng.Tryz
open Go Go.Eng Go.Proofs Go.RowKit
attribute [local go_sem] ty0 ty1 ty2 ty3 ty4 ty5 ty6 ty7 ty8 ty9 ty10 ty11 ty12 ty13 ty14 ty15 ty16 ty17 ty18
attribute [local go_sem] is_len is_get iss_len iss_get iss_snoc bys_len bys_snoc bys_app
/-! ### Signs as bytes -/
def orB (a b : Int) : Int := IntKind.u8.wrap ((BitVec.ofInt 8 a ||| BitVec.ofInt 8 b).toNat)
def andB (a b : Int) : Int := IntKind.u8.wrap ((BitVec.ofInt 8 a &&& BitVec.ofInt 8 b).toNat)
def w8 (a : Int) : Int := IntKind.u8.wrap a
theorem or_u8 (a b : Int) : intBin .or .u8 a .u8 b = some (.int .u8 (orB a b)) := rfl
theorem and_u8 (a b : Int) : intBin .and .u8 a .u8 b = some (.int .u8 (andB a b)) := rfl
theorem wrap_w8 (a : Int) : IntKind.u8.wrap a = w8 a := rfl
theorem shr6 (a : Int) : intBin .shr .i32 a .u64 6 = some (.int .i32 (a.fdiv 64)) := rfl
theorem shr12 (a : Int) : intBin .shr .i32 a .u64 12 = some (.int .i32 (a.fdiv 4096)) := rfl
theorem shr18 (a : Int) : intBin .shr .i32 a .u64 18 = some (.int .i32 (a.fdiv 262144)) := rfl
/-- The bytes of a sign. -/
def u8enc (z : Int) : List Int :=
  if z ≤ 127 then [z]
  else if z ≤ 2047 then [orB 192 (w8 (z.fdiv 64)), orB 128 (andB (w8 z) 63)]
  else if z ≤ 65535 then [orB 224 (w8 (z.fdiv 4096)), orB 128 (andB (w8 (z.fdiv 64)) 63), orB 128 (andB (w8 z) 63)]
  else [orB 240 (w8 (z.fdiv 262144)), orB 128 (andB (w8 (z.fdiv 4096)) 63), orB 128 (andB (w8 (z.fdiv 64)) 63), orB 128 (andB (w8 z) 63)]
theorem u8enc_len (z : Int) : 1 ≤ (u8enc z).length ∧ (u8enc z).length ≤ 4 := by
  unfold u8enc
  by_cases h1 : z ≤ 127
  · rw [if_pos h1]; simp
  by_cases h2 : z ≤ 2047
  · rw [if_neg h1, if_pos h2]; simp
  by_cases h3 : z ≤ 65535
  · rw [if_neg h1, if_neg h2, if_pos h3]; simp
  · rw [if_neg h1, if_neg h2, if_neg h3]; simp
theorem bys_2 {b : List Int} {x y : Int} : bys b ++ [.int .u8 x, .int .u8 y] = bys (b ++ [x, y]) := by simp [bys]
theorem bys_3 {b : List Int} {x y z : Int} : bys b ++ [.int .u8 x, .int .u8 y, .int .u8 z] = bys (b ++ [x, y, z]) := by simp [bys]
theorem bys_4 {b : List Int} {x y z t : Int} : bys b ++ [.int .u8 x, .int .u8 y, .int .u8 z, .int .u8 t] = bys (b ++ [x, y, z, t]) := by simp [bys]
attribute [local go_sem] bys_2 bys_3 bys_4
attribute [local go_sem ↓] or_u8 and_u8 shr6 shr12 shr18
attribute [local go_sem] wrap_w8
theorem u32_id {z : Int} (h0 : 0 ≤ z) (h1 : z ≤ 1114111) : IntKind.u32.wrap z = z := by simp [IntKind.wrap, IntKind.bits, IntKind.signed]; omega
set_option maxHeartbeats 4000000 in
set_option maxRecDepth 10000 in
theorem pAppNon {b : List Int} {z : Int} (h0 : 128 ≤ z) (h1 : z ≤ 1114111) (h2 : z < 55296 ∨ 57343 < z) (hb : b.length ≤ 1000000) : SoundM Tryz.prog 172 [.own 0 b.length, .d (.int .i32 z)] [(0, .row 5 1 (bys b))] (.own 0 (b.length + (u8enc z).length)) [(0, .row 5 1 (bys (b ++ u8enc z)))] 1 := by
  have e1 := u32_id (z := z) (by omega) (by omega)
  have c0 : ¬ z ≤ 127 := by omega
  by_cases c1 : z ≤ 2047
  · have eu : u8enc z = [orB 192 (w8 (z.fdiv 64)), orB 128 (andB (w8 z) 63)] := by unfold u8enc; rw [if_neg c0, if_pos c1]
    rw [eu]
    refine SoundM.run (N := 78) (ks := [0]) Tryz.func172 rfl (by kernel_rfl) rfl rfl rfl (by first | exact argsA_0 | exact argsA_1 | exact argsA_2 | exact argsA_3 | exact argsA_4 | exact argsA_5 | exact argsA_6) fun X_ ν_ w_ => ?_
    refine goX @e1 ?_; first | exact trivial | skip
  by_cases c2 : z ≤ 65535
  · have eu : u8enc z = [orB 224 (w8 (z.fdiv 4096)), orB 128 (andB (w8 (z.fdiv 64)) 63), orB 128 (andB (w8 z) 63)] := by unfold u8enc; rw [if_neg c0, if_neg c1, if_pos c2]
    rw [eu]
    by_cases c3 : z < 55296
    · refine SoundM.run (N := 78) (ks := [0]) Tryz.func172 rfl (by kernel_rfl) rfl rfl rfl (by first | exact argsA_0 | exact argsA_1 | exact argsA_2 | exact argsA_3 | exact argsA_4 | exact argsA_5 | exact argsA_6) fun X_ ν_ w_ => ?_
      refine goX @e1 ?_; first | exact trivial | skip
    · have c4 : 57343 < z := by omega
      refine SoundM.run (N := 78) (ks := [0]) Tryz.func172 rfl (by kernel_rfl) rfl rfl rfl (by first | exact argsA_0 | exact argsA_1 | exact argsA_2 | exact argsA_3 | exact argsA_4 | exact argsA_5 | exact argsA_6) fun X_ ν_ w_ => ?_
      refine goX @e1 ?_; first | exact trivial | skip
  · have eu : u8enc z = [orB 240 (w8 (z.fdiv 262144)), orB 128 (andB (w8 (z.fdiv 4096)) 63), orB 128 (andB (w8 (z.fdiv 64)) 63), orB 128 (andB (w8 z) 63)] := by unfold u8enc; rw [if_neg c0, if_neg c1, if_neg c2]
    rw [eu]
    have c3 : ¬ z < 55296 := by omega
    have c4 : 57343 < z := by omega
    refine SoundM.run (N := 78) (ks := [0]) Tryz.func172 rfl (by kernel_rfl) rfl rfl rfl (by first | exact argsA_0 | exact argsA_1 | exact argsA_2 | exact argsA_3 | exact argsA_4 | exact argsA_5 | exact argsA_6) fun X_ ν_ w_ => ?_
    refine goX @e1 ?_; first | exact trivial | skip
set_option maxHeartbeats 4000000 in
set_option maxRecDepth 10000 in
theorem pAppR {b : List Int} {z : Int} (hg : gsign z = true) (hb : b.length ≤ 1000000) : SoundM Tryz.prog 136 [.own 0 b.length, .d (.int .i32 z)] [(0, .row 5 1 (bys b))] (.own 0 (b.length + (u8enc z).length)) [(0, .row 5 1 (bys (b ++ u8enc z)))] 1 := by
  have hg2 := of_decide_eq_true hg
  obtain ⟨g0, g1, g2⟩ := hg2
  have e1 := u32_id (z := z) g0 g1
  by_cases h1 : z ≤ 127
  · have c := pAppRune (b := b) g0 h1 hb
    have eu : u8enc z = [z] := by unfold u8enc; rw [if_pos h1]
    rw [eu]
    exact c
  · have c := pAppNon (b := b) (z := z) (by omega) g1 g2 hb
    refine SoundM.run (N := 16) (ks := [0]) Tryz.func136 rfl (by kernel_rfl) rfl rfl rfl (by first | exact argsA_0 | exact argsA_1 | exact argsA_2 | exact argsA_3 | exact argsA_4 | exact argsA_5 | exact argsA_6) fun X_ ν_ w_ => ?_
    have c0_ := c; refine goX @e1 ?_; first | exact trivial | skip
/-- A word's bytes. -/
def wenc (w : List Int) : List Int := w.flatMap u8enc
theorem wenc_snoc (w : List Int) (z : Int) : wenc (w ++ [z]) = wenc w ++ u8enc z := by simp [wenc]
theorem wenc_len (w : List Int) : (wenc w).length ≤ 4 * w.length := by
  induction w with
  | nil => simp [wenc]
  | cons x t ih =>
    have := u8enc_len x
    simp only [wenc, List.flatMap_cons, List.length_append, List.length_cons] at ih ⊢
    omega
set_option maxHeartbeats 4000000 in
set_option maxRecDepth 10000 in
theorem pPutW {w : List Int} (hw : w.all gsign = true) (hlen : w.length ≤ 200000) : Sound Tryz.prog 98 [.sl 1 (is w)] (.tup [.sl 1 (bys (wenc w)), .int .i64 0]) := by
  refine Sound.run (N := 22) Tryz.func98 rfl (by kernel_rfl) rfl rfl rfl (by first | exact args0_0 | exact args0_1 | exact args0_2 | exact args0_3 | exact args0_4 | exact args0_5 | exact args0_6) fun X_ w_ => ?_
  repeat ((fail_if_success (with_reducible show WP _ _ (.region 2 _ _) _ _)); first | with_reducible exact Ev.nil | with_reducible exact gd_n | ((with_reducible apply lk_ok); rfl) | ((with_reducible apply gslot_ok); rfl) | ((with_reducible apply v2d_ok); rfl) | with_reducible apply then_n | with_reducible apply WP_seq | with_reducible apply WP_skip | ((with_reducible apply WP_r (N := 22) rfl rfl); (focus simp only [Nat.reduceAdd] <;> rfl)) | ((with_reducible apply WP_d (N := 22) mixed rfl rfl); (focus simp only [Nat.reduceAdd] <;> rfl)) | ((with_reducible apply Ev_s); (focus first | (apply gd_u; (focus rfl); rfl) | (apply gd_f; (focus rfl); (focus rfl); rfl))) | ((with_reducible apply Ev_sn); (focus first | (apply gd_u; (focus rfl); rfl) | (apply gd_f; (focus rfl); (focus rfl); rfl))) | with_reducible apply gd_t | with_reducible apply Ev_mv | with_reducible apply Ev_as | with_reducible apply Ev_mc | with_reducible apply Ev_ac | ((first | (with_reducible apply Ev_pt) | (with_reducible apply Ev_ptc)); (focus rfl)) | ((first | (with_reducible apply Ev_pf) | (with_reducible apply Ev_pfc)); (focus rfl)) | ((with_reducible apply Ev_d); (focus simp only [Nat.reduceAdd] <;> rfl); (focus simp (disch := omega) only [go_sem] <;> rfl)) | ((first | (with_reducible apply Ev_od) | (with_reducible apply Ev_on)); (focus simp only [Nat.reduceAdd] <;> rfl); (focus simp (disch := omega) only [go_sem] <;> rfl); (focus first | (simp (disch := omega) only [go_sem] <;> rfl) | rfl)) | with_reducible apply endM_n | with_reducible apply endM_r | with_reducible apply then_r | with_reducible apply then_x | with_reducible apply block_n | with_reducible apply block_r | with_reducible apply block_x | with_reducible apply block_y rfl | with_reducible apply scope_n | with_reducible apply scope_r | with_reducible apply scope_x | with_reducible apply end_n | with_reducible apply end_r | with_reducible apply WP_block | with_reducible apply WP_exit | with_reducible apply WP_ret | with_reducible apply WP_label | with_reducible apply WP_scope | ((with_reducible apply WP_t); (focus first | (simp (disch := omega) only [go_sem] <;> rfl) | rfl)) | ((with_reducible apply WP_f); (focus first | (simp (disch := omega) only [go_sem] <;> rfl) | rfl)) | ((with_reducible apply resD_t); (focus rfl)) | ((with_reducible apply resD_2); (focus rfl); (focus rfl)) | (with_reducible rfl) | ((with_reducible show List.map outKeys _ = _); simp only [List.map_cons, List.map_nil, outKeys, keys]; rfl) | ((with_reducible show orderOk _ _ = true); kernel_rfl) | ((with_reducible show _ = _); simp (disch := omega) only [go_sem] <;> rfl) | ((fail_if_success (with_reducible show Ev _ _ _ _ (_ :: _) _ _ _ _ _)); (show Ev _ _ _ _ (_ :: _) _ _ _ _ _)) | fail)
  refine WP_own 4 3000 5 1 rfl (by decide) (Nat.le_of_ble_eq_true rfl) ?_
  refine goT ?_; first | exact trivial | skip
  refine WP_loopk (fun k : Nat => k ≤ w.length) (fun k => [(4, .own 3000 (wenc (w.take k)).length), (7, .d (.sl 1 (is w))), (8, .d (.int .i64 w.length)), (9, .d (.int .i64 k))]) (fun k => [(3000, .row 5 1 (bys (wenc (w.take k))))]) 3001 (fun k => w.length - k) [4, 7, 8, 9] [3000] 0 (Nat.zero_le _) rfl rfl (Nat.zero_le _) (fun _ _ => rfl) (fun _ _ => rfl) fun k hk => ?_
  have hkl : (w.take k).length = k := by simp; omega
  have hbl := wenc_len (w.take k)
  by_cases hk3 : k < w.length
  · have hz := List.all_eq_true.1 hw (w[k]!) (by rw [getElem!_pos w k hk3]; exact List.getElem_mem hk3)
    have cg := utfGood (z := w[k]!)
    rw [hz] at cg
    have hst : wenc (w.take (k + 1)) = wenc (w.take k) ++ u8enc (w[k]!) := by rw [← wenc_snoc, atake_snoc hk3]
    have ca := pAppR (b := wenc (w.take k)) hz (by omega)
    have e1 : IntKind.i32.wrap (w[k]!) = w[k]! := by
      obtain ⟨h0, h1, _⟩ := of_decide_eq_true hz
      generalize w[k]! = z at h0 h1 ⊢
      simp [IntKind.wrap, IntKind.bits, IntKind.signed]; omega
    have c0_ := cg; have c1_ := ca; refine goX @e1 ?_; first | exact trivial | skip
    refine ⟨k + 1, by omega, ?_, ?_, by omega⟩
    · simp (disch := omega) only [go_sem, keepL, Int.natCast_add, Int.cast_ofNat_Int, hst, List.length_append]
    · simp (disch := omega) only [go_sem, keepL, hst]
  · have hke : k = w.length := by omega
    subst hke
    rw [List.take_length]
    refine goT ?_; first | exact trivial | skip
/-- A list's bytes. -/
def lenc (l : List (List Int)) : List Int := l.flatMap fun w => wenc w ++ [10]
theorem lenc_snoc (l : List (List Int)) (w : List Int) : lenc (l ++ [w]) = lenc l ++ wenc w ++ [10] := by simp [lenc]
theorem lenc_len (l : List (List Int)) (h : ∀ w ∈ l, w.length ≤ 20) : (lenc l).length ≤ 81 * l.length := by
  induction l with
  | nil => simp [lenc]
  | cons x t ih =>
    have h1 := ih fun w hw => h w (by simp [hw])
    have h2 := h x (by simp)
    have h3 := wenc_len x
    simp only [lenc, List.flatMap_cons, List.length_append, List.length_cons, List.length_nil] at h1 ⊢
    omega
end Go.Eng.Tryz
namespace Go.Proofs
open Go.Shelf
def Tryz.strcU_ren : Go.Shelf.Ren := ⟨fun | 288 => 181 | 283 => 203 | 284 => 204 | 285 => 205 | 286 => 206 | 129 => 155 | 317 => 213 | 318 => 214 | 319 => 215 | 320 => 216 | 337 => 219 | 338 => 220 | n => n, fun | 37 => 59 | 53 => 42 | 3 => 3 | 4 => 4 | 9 => 9 | 171 => 221 | 0 => 0 | 173 => 223 | 212 => 230 | 51 => 168 | 5 => 5 | 20 => 20 | 213 => 231 | 46 => 140 | 232 => 234 | 233 => 235 | n => n, fun | 17 => 0 | 18 => 1 | 19 => 2 | n => n⟩
theorem Tryz.strcU : Go.Proofs.LaysM.n288 Tryz.prog Tryz.strcU_ren := {
  mixed := by kernel_rfl
  f129 := Tryz.func155.trans (congrArg some (by kernel_rfl))
  f283 := Tryz.func203.trans (congrArg some (by kernel_rfl))
  f284 := Tryz.func204.trans (congrArg some (by kernel_rfl))
  f285 := Tryz.func205.trans (congrArg some (by kernel_rfl))
  f286 := Tryz.func206.trans (congrArg some (by kernel_rfl))
  f288 := Tryz.func181.trans (congrArg some (by kernel_rfl))
  f317 := Tryz.func213.trans (congrArg some (by kernel_rfl))
  f318 := Tryz.func214.trans (congrArg some (by kernel_rfl))
  f319 := Tryz.func215.trans (congrArg some (by kernel_rfl))
  f320 := Tryz.func216.trans (congrArg some (by kernel_rfl))
  f337 := Tryz.func219.trans (congrArg some (by kernel_rfl))
  f338 := Tryz.func220.trans (congrArg some (by kernel_rfl))
  t0 := Tryz.underlying0
  a0 := Tryz.isAgg0
  z0 := Tryz.sizeOf0
  v0 := Tryz.zeroValue0
  t3 := Tryz.underlying3
  a3 := Tryz.isAgg3
  z3 := Tryz.sizeOf3
  v3 := Tryz.zeroValue3
  t4 := Tryz.underlying4
  a4 := Tryz.isAgg4
  z4 := Tryz.sizeOf4
  v4 := Tryz.zeroValue4
  t5 := Tryz.underlying5
  a5 := Tryz.isAgg5
  z5 := Tryz.sizeOf5
  v5 := Tryz.zeroValue5
  t9 := Tryz.underlying9
  a9 := Tryz.isAgg9
  z9 := Tryz.sizeOf9
  v9 := Tryz.zeroValue9
  t20 := Tryz.underlying20
  a20 := Tryz.isAgg20
  z20 := Tryz.sizeOf20
  v20 := Tryz.zeroValue20
  t37 := Tryz.underlying59
  a37 := Tryz.isAgg59
  z37 := Tryz.sizeOf59
  v37 := Tryz.zeroValue59
  t46 := Tryz.underlying140
  a46 := Tryz.isAgg140
  z46 := Tryz.sizeOf140
  v46 := Tryz.zeroValue140
  t51 := Tryz.underlying168
  a51 := Tryz.isAgg168
  z51 := Tryz.sizeOf168
  v51 := Tryz.zeroValue168
  t53 := Tryz.underlying42
  a53 := Tryz.isAgg42
  z53 := Tryz.sizeOf42
  v53 := Tryz.zeroValue42
  t171 := Tryz.underlying221
  a171 := Tryz.isAgg221
  z171 := Tryz.sizeOf221
  v171 := Tryz.zeroValue221
  t173 := Tryz.underlying223
  a173 := Tryz.isAgg223
  z173 := Tryz.sizeOf223
  v173 := Tryz.zeroValue223
  t212 := Tryz.underlying230
  a212 := Tryz.isAgg230
  z212 := Tryz.sizeOf230
  v212 := Tryz.zeroValue230
  t213 := Tryz.underlying231
  a213 := Tryz.isAgg231
  z213 := Tryz.sizeOf231
  t232 := Tryz.underlying234
  a232 := Tryz.isAgg234
  z232 := Tryz.sizeOf234
  v232 := Tryz.zeroValue234
  t233 := Tryz.underlying235
  a233 := Tryz.isAgg235
  z233 := Tryz.sizeOf235
  v233 := Tryz.zeroValue235
  g17 := by kernel_rfl
  g18 := by kernel_rfl
  g19 := by kernel_rfl
  i0 := by kernel_rfl
  i3 := by kernel_rfl
  i4 := by kernel_rfl
  i5 := by kernel_rfl
  i9 := by kernel_rfl
  i20 := by kernel_rfl
  i37 := by kernel_rfl
  i46 := by kernel_rfl
  i51 := by kernel_rfl
  i53 := by kernel_rfl
  i171 := by kernel_rfl
  i173 := by kernel_rfl
  i212 := by kernel_rfl
  i232 := by kernel_rfl
  i233 := by kernel_rfl
  m17 := by kernel_rfl
  m18 := by kernel_rfl
  m19 := by kernel_rfl }
end Go.Proofs

/- Words in order, each once; their list. (and what stands behind it: texts laid together) -/
import Derived.Test.YtbnhblimckdcgaaMG4
import Derived.Test.YtbnhblimckdcgaaMR10
import Derived.Test.YtbnhblimckdcgaaMR15
import Derived.Test.YtbnhblimckdcgaaMH1
import Derived.Test.YtbnhblimckdcgaaMR14
set_option linter.unusedVariables false
set_option linter.unusedSimpArgs false
namespace Go.Eng.Try
open Go Go.Eng Go.Proofs Go.RowKit
attribute [local go_sem] tys
attribute [local go_sem] is_len is_get iss_len iss_get iss_snoc
def unI (x : D) : Int := match x with | .int _ z => z | _ => 0
def unisX (d : D) : List Int := match d with | .sl _ xs => xs.map unI | _ => []
theorem unisX_is (w : List Int) : unisX (.sl 1 (is w)) = w := by simp [unisX, is, unI, List.map_map, Function.comp_def]
theorem wcmp_lt_irr (a : List Int) : ¬ wcmp a a < 0 := by have := (wcmp_eq a a).2 rfl; omega
set_option maxRecDepth 10000 in
theorem pSortW {xs ys : List (List Int)} (hok : ∀ w ∈ xs, w.length ≤ 9223372036854775807) (h0 : 0 < xs.length) (hmax : xs.length < 4611686018427387904) (hp : ys.Perm xs) (hs : ys.Pairwise (fun a b => ¬ wcmp b a < 0)) :
    SoundM Try.prog 129 [.own 0 xs.length, .d (.fn 130)] [(0, .row 26 1 (iss xs))] (.tup []) [(0, .row 26 1 (iss ys))] 1 := by
  have eg : ∀ args w, (callFunc 130 args).run Try.prog w = .ok (.enter 130 args) w := enters_of Try.func130 (by kernel_rfl) rfl
  have hlen : (iss xs).length = xs.length := iss_len
  have gd : ∀ x, (∃ w : List Int, w.length ≤ 9223372036854775807 ∧ x = D.sl 1 (is w)) → D.sl 1 (is (unisX x)) = x ∧ (unisX x).length ≤ 9223372036854775807 := fun x ⟨r, h1, h2⟩ => by rw [h2, unisX_is]; exact ⟨rfl, h1⟩
  have := sort_sound1 (P := Try.prog) Try.sortWord eg (Good := fun x => ∃ w : List Int, w.length ≤ 9223372036854775807 ∧ x = D.sl 1 (is w)) (cf := fun x y => wcmp (unisX x) (unisX y))
    (fun x y hx hy => by
      have := pCmp1 (gd x hx).2 (gd y hy).2
      rwa [(gd x hx).1, (gd y hy).1] at this)
    (fun x hx => wcmp_lt_irr _) (fun x y z _ _ _ h1 h2 => wcmp_lt_trans h1 (by omega)) (fun x y z _ _ _ h1 h2 => by
      have a1 := wcmp_swap (unisX x) (unisX y)
      have a2 := wcmp_swap (unisX y) (unisX z)
      have a3 := wcmp_swap (unisX x) (unisX z)
      have := wcmp_le_trans (unisX z) (unisX y) (unisX x) (by omega) (by omega)
      omega)
    (fun x y hx hy h1 h2 => by
      have a1 := wcmp_swap (unisX x) (unisX y)
      have e := (wcmp_eq (unisX x) (unisX y)).1 (by omega)
      rw [← (gd x hx).1, ← (gd y hy).1, e])
    (fun x ⟨r, _, h⟩ => by rw [h]; rfl) (e := 26) (xs := iss xs) (ys := iss ys) (fun x hx => by
      obtain ⟨w, hw, rfl⟩ := List.mem_map.1 hx
      exact ⟨w, hok w hw, rfl⟩) (by rw [hlen]; exact h0) (by rw [hlen]; exact hmax) (hp.map _) (by
      unfold iss
      rw [List.pairwise_map]
      exact hs.imp (fun {a b} h => by rw [unisX_is, unisX_is]; exact h))
  rw [hlen] at this
  exact this
theorem SrtW.stay {l : List (List Int)} (h : SrtW l) : l.Pairwise (fun a b => ¬ wcmp b a < 0) := h.imp fun {a b} h => by have := wcmp_swap a b; omega
theorem iss_take_succ {l : List (List Int)} {k : Nat} (h : k < l.length) : l.take (k + 1) = l.take k ++ [l[k]!] := atake_snoc h
set_option maxHeartbeats 4000000 in
set_option maxRecDepth 10000 in
/-- Words that are in order stay so. -/
theorem pWSort1 {l : List (List Int)} (hl : ∀ w ∈ l, w.length ≤ 1000000) (hlen : l.length ≤ 1000000) (h0 : 0 < l.length) (hs : SrtW l) : Sound Try.prog 105 [.sl 1 (iss l)] (.sl 1 (iss l)) := by
  have hok : ∀ w ∈ l, w.length ≤ 9223372036854775807 := fun w hw => Nat.le_trans (hl w hw) (by decide)
  have c1 := pSortW (xs := l) (ys := l) hok h0 (by omega) (List.Perm.refl _) hs.stay
  have c2 := pCompact ⟨by omega, hok⟩ hs h0
  refine Sound.run (N := 25) Try.func105 rfl (by kernel_rfl) rfl rfl rfl (by first | exact args0_0 | exact args0_1 | exact args0_2 | exact args0_3 | exact args0_4 | exact args0_5 | exact args0_6) fun X_ w_ => ?_
  refine goT ?_; first | exact trivial | skip
  refine WP_loopk (fun k : Nat => k ≤ l.length) (fun k => [(3, .own 1002 (l.take k).length), (9, .d (.sl 1 (iss l))), (10, .d (.int .i64 l.length)), (11, .d (.int .i64 k))]) (fun k => [(1002, .row 26 1 (iss (l.take k)))]) 1003 (fun k => l.length - k) [3, 9, 10, 11] [1002] 0 (Nat.zero_le _) rfl rfl (Nat.zero_le _) (fun _ _ => rfl) (fun _ _ => rfl) fun k hk => ?_
  have hkl : (l.take k).length = k := by simp; omega
  by_cases hk3 : k < l.length
  · have hst := iss_take_succ hk3
    have cl := pClone (l := l[k]!) (by rw [getElem!_pos l k hk3]; exact hl _ (List.getElem_mem hk3))
    have c0_ := cl; refine goX @hkl ?_; first | exact trivial | skip
    refine ⟨k + 1, by omega, ?_, ?_, by omega⟩
    · simp (disch := omega) only [go_sem, keepL, Int.natCast_add, Int.cast_ofNat_Int, hst, hkl, List.length_append, List.length_cons, List.length_nil]
    · simp (disch := omega) only [go_sem, keepL, hst]
  · have hke : k = l.length := by omega
    subst hke
    rw [List.take_length]
    have c0_ := c1; have c1_ := c2; refine goT ?_; first | exact trivial | skip
/-- Bytes, as a slice's elements. -/
def bys (l : List Int) : List D := l.map fun z => .int .u8 z
theorem bys_len {l : List Int} : (bys l).length = l.length := by simp [bys]
theorem bys_snoc {l : List Int} {z : Int} : bys l ++ [.int .u8 z] = bys (l ++ [z]) := by simp [bys]
theorem bys_app {a b : List Int} : bys a ++ bys b = bys (a ++ b) := by simp [bys]
attribute [local go_sem] bys_len bys_snoc bys_app
set_option maxHeartbeats 4000000 in
set_option maxRecDepth 10000 in
/-- A sign below 128. -/
theorem pAppRune {b : List Int} {z : Int} (h0 : 0 ≤ z) (h1 : z ≤ 127) (hb : b.length ≤ 1000000) : SoundM Try.prog 133 [.own 0 b.length, .d (.int .i32 z)] [(0, .row 5 1 (bys b))] (.own 0 (b.length + 1)) [(0, .row 5 1 (bys (b ++ [z])))] 1 := by
  have e1 : IntKind.u32.wrap z = z := by simp [IntKind.wrap, IntKind.bits, IntKind.signed]; omega
  have e2 : IntKind.u8.wrap z = z := by simp [IntKind.wrap, IntKind.bits, IntKind.signed]; omega
  refine SoundM.run (N := 16) (ks := [0]) Try.func133 rfl (by kernel_rfl) rfl rfl rfl (by first | exact argsA_0 | exact argsA_1 | exact argsA_2 | exact argsA_3 | exact argsA_4 | exact argsA_5 | exact argsA_6) fun X_ ν_ w_ => ?_
  refine goX (And.intro @e1 @e2) ?_; first | exact trivial | skip
theorem asc_good {z : Int} (h0 : 0 ≤ z) (h1 : z ≤ 127) : gsign z = true := decide_eq_true ⟨h0, by omega, by omega⟩
set_option maxHeartbeats 4000000 in
set_option maxRecDepth 10000 in
theorem pPutA {w : List Int} (hw : ∀ z ∈ w, 0 ≤ z ∧ z ≤ 127) (hlen : w.length ≤ 1000000) : Sound Try.prog 108 [.sl 1 (is w)] (.tup [.sl 1 (bys w), .int .i64 0]) := by
  refine Sound.run (N := 22) Try.func108 rfl (by kernel_rfl) rfl rfl rfl (by first | exact args0_0 | exact args0_1 | exact args0_2 | exact args0_3 | exact args0_4 | exact args0_5 | exact args0_6) fun X_ w_ => ?_
  repeat ((fail_if_success (with_reducible show WP _ _ (.region 2 _ _) _ _)); first | with_reducible exact Ev.nil | with_reducible exact gd_n | ((with_reducible apply lk_ok); rfl) | ((with_reducible apply gslot_ok); rfl) | ((with_reducible apply v2d_ok); rfl) | with_reducible apply then_n | with_reducible apply WP_seq | with_reducible apply WP_skip | ((with_reducible apply WP_r (N := 22) rfl rfl); (focus simp only [Nat.reduceAdd] <;> rfl)) | ((with_reducible apply WP_d (N := 22) mixed rfl rfl); (focus simp only [Nat.reduceAdd] <;> rfl)) | ((with_reducible apply Ev_s); (focus first | (apply gd_u; (focus rfl); rfl) | (apply gd_f; (focus rfl); (focus rfl); rfl))) | ((with_reducible apply Ev_sn); (focus first | (apply gd_u; (focus rfl); rfl) | (apply gd_f; (focus rfl); (focus rfl); rfl))) | with_reducible apply gd_t | with_reducible apply Ev_mv | with_reducible apply Ev_as | with_reducible apply Ev_mc | with_reducible apply Ev_ac | ((first | (with_reducible apply Ev_pt) | (with_reducible apply Ev_ptc)); (focus rfl)) | ((first | (with_reducible apply Ev_pf) | (with_reducible apply Ev_pfc)); (focus rfl)) | ((with_reducible apply Ev_d); (focus simp only [Nat.reduceAdd] <;> rfl); (focus simp (disch := omega) only [go_sem] <;> rfl)) | ((first | (with_reducible apply Ev_od) | (with_reducible apply Ev_on)); (focus simp only [Nat.reduceAdd] <;> rfl); (focus simp (disch := omega) only [go_sem] <;> rfl); (focus first | (simp (disch := omega) only [go_sem] <;> rfl) | rfl)) | with_reducible apply endM_n | with_reducible apply endM_r | with_reducible apply then_r | with_reducible apply then_x | with_reducible apply block_n | with_reducible apply block_r | with_reducible apply block_x | with_reducible apply block_y rfl | with_reducible apply scope_n | with_reducible apply scope_r | with_reducible apply scope_x | with_reducible apply end_n | with_reducible apply end_r | with_reducible apply WP_block | with_reducible apply WP_exit | with_reducible apply WP_ret | with_reducible apply WP_label | with_reducible apply WP_scope | ((with_reducible apply WP_t); (focus first | (simp (disch := omega) only [go_sem] <;> rfl) | rfl)) | ((with_reducible apply WP_f); (focus first | (simp (disch := omega) only [go_sem] <;> rfl) | rfl)) | ((with_reducible apply resD_t); (focus rfl)) | ((with_reducible apply resD_2); (focus rfl); (focus rfl)) | (with_reducible rfl) | ((with_reducible show List.map outKeys _ = _); simp only [List.map_cons, List.map_nil, outKeys, keys]; rfl) | ((with_reducible show orderOk _ _ = true); kernel_rfl) | ((with_reducible show _ = _); simp (disch := omega) only [go_sem] <;> rfl) | ((fail_if_success (with_reducible show Ev _ _ _ _ (_ :: _) _ _ _ _ _)); (show Ev _ _ _ _ (_ :: _) _ _ _ _ _)) | fail)
  refine WP_own 4 3000 5 1 rfl (by decide) (Nat.le_of_ble_eq_true rfl) ?_
  refine goT ?_; first | exact trivial | skip
  refine WP_loopk (fun k : Nat => k ≤ w.length) (fun k => [(4, .own 3000 (w.take k).length), (7, .d (.sl 1 (is w))), (8, .d (.int .i64 w.length)), (9, .d (.int .i64 k))]) (fun k => [(3000, .row 5 1 (bys (w.take k)))]) 3001 (fun k => w.length - k) [4, 7, 8, 9] [3000] 0 (Nat.zero_le _) rfl rfl (Nat.zero_le _) (fun _ _ => rfl) (fun _ _ => rfl) fun k hk => ?_
  have hkl : (w.take k).length = k := by simp; omega
  by_cases hk3 : k < w.length
  · have hz := hw (w[k]!) (by rw [getElem!_pos w k hk3]; exact List.getElem_mem hk3)
    have cg := utfGood (z := w[k]!)
    rw [asc_good hz.1 hz.2] at cg
    have hst : w.take (k + 1) = w.take k ++ [w[k]!] := atake_snoc hk3
    have ca := pAppRune (b := w.take k) hz.1 hz.2 (by omega)
    rw [hkl] at ca
    have e1 : IntKind.i32.wrap (w[k]!) = w[k]! := by
      obtain ⟨h0, h1⟩ := hz
      generalize w[k]! = z at h0 h1 ⊢
      simp [IntKind.wrap, IntKind.bits, IntKind.signed]; omega
    have c0_ := cg; have c1_ := ca; refine goX (And.intro @hkl @e1) ?_; first | exact trivial | skip
    refine ⟨k + 1, by omega, ?_, ?_, by omega⟩
    · simp (disch := omega) only [go_sem, keepL, Int.natCast_add, Int.cast_ofNat_Int, hst, hkl, List.length_append, List.length_cons, List.length_nil]
    · simp (disch := omega) only [go_sem, keepL, hst]
  · have hke : k = w.length := by omega
    subst hke
    rw [List.take_length]
    refine goT ?_; first | exact trivial | skip
/-- The bytes of a list. -/
def wbytes (l : List (List Int)) : List Int := l.flatMap fun w => w ++ [10]
theorem wbytes_snoc (l : List (List Int)) (w : List Int) : wbytes (l ++ [w]) = wbytes l ++ w ++ [10] := by simp [wbytes]
theorem wbytes_len (l : List (List Int)) (h : ∀ w ∈ l, w.length ≤ 20) : (wbytes l).length ≤ 21 * l.length := by
  induction l with
  | nil => simp [wbytes]
  | cons x t ih =>
    have h1 := ih fun w hw => h w (by simp [hw])
    have h2 := h x (by simp)
    simp only [wbytes, List.flatMap_cons, List.length_append, List.length_cons, List.length_nil] at h1 ⊢
    omega
set_option maxHeartbeats 4000000 in
set_option maxRecDepth 10000 in
/-- The list of words that are in order, their signs below 128. -/
theorem pWriteA {l : List (List Int)} (h0 : 0 < l.length) (h1 : l.length ≤ 300) (hf : l.all wfit = true) (hs : SrtW l) (ha : ∀ w ∈ l, ∀ z ∈ w, 0 ≤ z ∧ z ≤ 127) : Sound Try.prog 83 [.sl 1 (iss l)] (.tup [.sl 1 (bys (wbytes l)), .int .i64 0]) := by
  have hw20 : ∀ w ∈ l, w.length ≤ 20 := fun w hw => by
    have := List.all_eq_true.1 hf w hw
    simp only [wfit, Bool.and_eq_true, decide_eq_true_eq] at this
    exact this.1.1.2
  have hok : WsOk l := ⟨by omega, fun w hw => Nat.le_trans (hw20 w hw) (by decide)⟩
  have c1 := containsW (p := fun w => !wfit w) (g := 102) (fun w hw => pNoFit hw) hok
  rw [any_not, hf] at c1
  have c2 := pWSort1 (fun w hw => Nat.le_trans (hw20 w hw) (by decide)) (by omega) h0 hs
  have c3 := pIsSorted hok hs
  refine Sound.run (N := 46) Try.func83 rfl (by kernel_rfl) rfl rfl rfl (by first | exact args0_0 | exact args0_1 | exact args0_2 | exact args0_3 | exact args0_4 | exact args0_5 | exact args0_6) fun X_ w_ => ?_
  have c0_ := c1; have c1_ := c2; have c2_ := c3; repeat ((fail_if_success (with_reducible show WP _ _ (.region 6 _ _) _ _)); first | with_reducible exact Ev.nil | with_reducible exact gd_n | ((with_reducible apply lk_ok); rfl) | ((with_reducible apply gslot_ok); rfl) | ((with_reducible apply v2d_ok); rfl) | with_reducible apply then_n | with_reducible apply WP_seq | with_reducible apply WP_skip | ((with_reducible apply WP_r (N := 46) rfl rfl); (focus simp only [Nat.reduceAdd] <;> rfl)) | ((with_reducible apply WP_d (N := 46) mixed rfl rfl); (focus simp only [Nat.reduceAdd] <;> rfl)) | ((with_reducible apply Ev_s); (focus first | (apply gd_u; (focus rfl); rfl) | (apply gd_f; (focus rfl); (focus rfl); rfl))) | ((with_reducible apply Ev_sn); (focus first | (apply gd_u; (focus rfl); rfl) | (apply gd_f; (focus rfl); (focus rfl); rfl))) | with_reducible apply gd_t | with_reducible apply Ev_mv | with_reducible apply Ev_as | with_reducible apply Ev_mc | with_reducible apply Ev_ac | ((first | (with_reducible apply Ev_pt) | (with_reducible apply Ev_ptc)); (focus rfl)) | ((first | (with_reducible apply Ev_pf) | (with_reducible apply Ev_pfc)); (focus rfl)) | (apply Ev_cf; (focus simp (disch := omega) only [go_sem] <;> rfl); (focus first | exact c0_ | exact c1_ | exact c2_); (focus rfl); (focus first | (simp (disch := omega) only [go_sem] <;> rfl) | rfl)) | ((with_reducible apply Ev_d); (focus simp only [Nat.reduceAdd] <;> rfl); (focus simp (disch := omega) only [go_sem] <;> rfl)) | (apply Ev_cv; (focus rfl); (focus simp (disch := omega) only [go_sem] <;> rfl); (focus first | exact c0_ | exact c1_ | exact c2_); (iterate 3 (focus first | (simp (disch := omega) only [go_sem] <;> rfl) | rfl))) | ((first | apply Ev_cmd | apply Ev_cmn); (focus simp only [Nat.reduceAdd] <;> rfl); (focus rfl); (iterate 2 (focus simp (disch := omega) only [go_sem] <;> rfl)); (first | ((focus first | exact c0_ | exact c1_ | exact c2_); (iterate 2 (focus first | (simp (disch := omega) only [go_sem] <;> rfl) | rfl)); (focus rfl); (iterate 3 (focus first | (simp (disch := omega) only [go_sem] <;> rfl) | rfl))))) | ((first | (with_reducible apply Ev_od) | (with_reducible apply Ev_on)); (focus simp only [Nat.reduceAdd] <;> rfl); (focus simp (disch := omega) only [go_sem] <;> rfl); (focus first | (simp (disch := omega) only [go_sem] <;> rfl) | rfl)) | with_reducible apply endM_n | with_reducible apply endM_r | with_reducible apply then_r | with_reducible apply then_x | with_reducible apply block_n | with_reducible apply block_r | with_reducible apply block_x | with_reducible apply block_y rfl | with_reducible apply scope_n | with_reducible apply scope_r | with_reducible apply scope_x | with_reducible apply end_n | with_reducible apply end_r | with_reducible apply WP_block | with_reducible apply WP_exit | with_reducible apply WP_ret | with_reducible apply WP_label | with_reducible apply WP_scope | ((with_reducible apply WP_t); (focus first | (simp (disch := omega) only [go_sem] <;> rfl) | rfl)) | ((with_reducible apply WP_f); (focus first | (simp (disch := omega) only [go_sem] <;> rfl) | rfl)) | ((with_reducible apply resD_t); (focus rfl)) | ((with_reducible apply resD_2); (focus rfl); (focus rfl)) | (with_reducible rfl) | ((with_reducible show List.map outKeys _ = _); simp only [List.map_cons, List.map_nil, outKeys, keys]; rfl) | ((with_reducible show orderOk _ _ = true); kernel_rfl) | ((with_reducible show _ = _); simp (disch := omega) only [go_sem] <;> rfl) | ((fail_if_success (with_reducible show Ev _ _ _ _ (_ :: _) _ _ _ _ _)); (show Ev _ _ _ _ (_ :: _) _ _ _ _ _)) | fail)
  refine WP_own 2 9000 5 1 rfl (by decide) (Nat.le_of_ble_eq_true rfl) ?_
  refine goT ?_; first | exact trivial | skip
  refine WP_loopk (fun k : Nat => k ≤ l.length) (fun k => [(2, .own 9000 (wbytes (l.take k)).length), (28, .d (.sl 1 (iss l))), (29, .d (.int .i64 l.length)), (30, .d (.int .i64 k))]) (fun k => [(9000, .row 5 1 (bys (wbytes (l.take k))))]) 9001 (fun k => l.length - k) [2, 28, 29, 30] [9000] 0 (Nat.zero_le _) rfl rfl (Nat.zero_le _) (fun _ _ => rfl) (fun _ _ => rfl) fun k hk => ?_
  have hbl := wbytes_len (l.take k) fun w hw => hw20 w (List.mem_of_mem_take hw)
  have hkl : (l.take k).length = k := by simp; omega
  by_cases hk3 : k < l.length
  · have hmem : l[k]! ∈ l := by rw [getElem!_pos l k hk3]; exact List.getElem_mem hk3
    have hk20 := hw20 _ hmem
    have cp := pPutA (w := l[k]!) (ha _ hmem) (by omega)
    have hst : wbytes (l.take (k + 1)) = wbytes (l.take k) ++ (l[k]!) ++ [10] := by rw [atake_snoc hk3, wbytes_snoc]
    have c0_ := cp; refine goT ?_; first | exact trivial | skip
    refine ⟨k + 1, by omega, ?_, ?_, by omega⟩
    · simp (disch := omega) only [go_sem, keepL, Int.natCast_add, Int.cast_ofNat_Int, hst, List.length_append, List.length_cons, List.length_nil]
    · simp (disch := omega) only [go_sem, keepL, hst, List.append_assoc, List.length_append, List.length_cons, List.length_nil]
  · have hke : k = l.length := by omega
    subst hke
    rw [List.take_length]
    refine goT ?_; first | exact trivial | skip
end Go.Eng.Try
set_option linter.unusedVariables false
set_option linter.unusedSimpArgs false
namespace Go.Eng.Try
open Go Go.Eng Go.Proofs Go.RowKit
attribute [local go_sem] tys
attribute [local go_sem] is_len is_get ars_len ars_get stas_len stas_get iss_len iss_get dels
def lW0 : List (List Int) := [[97], [98, 97], [99]]
def sW0 : List Sta := [⟨false, [⟨97, 1⟩, ⟨98, 2⟩, ⟨99, 3⟩]⟩, ⟨true, []⟩, ⟨false, [⟨97, 4⟩]⟩, ⟨true, []⟩, ⟨true, []⟩]
theorem trie_W0 : trieF lW0 = sW0 := by decide +kernel
theorem ok_sW : StaOk sW0 := by unfold StaOk sW0; decide
theorem ok_nil : StaOk [] := by unfold StaOk; decide
theorem trie_W : Sound Try.prog 53 [.sl 1 (iss lW0)] (.tup [.sl 2 (stas sW0), .int .i64 0]) := by
  have hW := pWriteA (l := lW0) (by decide) (by decide) (by decide +kernel) (by unfold SrtW lW0; decide +kernel) (by decide)
  have := pTrie (L := lW0) (by decide) (by decide) hW
  rw [trie_W0] at this
  exact this
set_option maxHeartbeats 4000000 in
set_option maxRecDepth 10000 in
theorem walkAwake : Sound Try.prog 19 [] (.bool true) := by
  have t0 := trie_W
  have f1 := pFrom (l := sW0) (f := [98]) (n := 1) ok_sW (by decide)
  rw [show fromW sW0 [98] 1 = [[98, 97]] by decide +kernel, show fromE sW0 1 = 0 by decide +kernel] at f1
  have w1 := pWordsW ok_sW
  rw [show wsW sW0 = [[97], [98, 97], [99]] by decide +kernel, show wsE sW0 = 0 by decide +kernel] at w1
  have w2 := (pWordsW ok_nil).wk (as' := [.nils]) (.cons (.nil 2) .nil) (.refl _)
  rw [show wsW [] = [] by decide +kernel, show wsE [] = 100 by decide +kernel] at w2
  have f2 := (pFrom (l := sW0) (f := []) (n := -1) ok_sW (by decide)).wk (as' := [.sl 2 (stas sW0), .nils, .int .i64 (-1)]) (.cons (.refl _) (.cons (.nil 1) (.cons (.refl _) .nil))) (.refl _)
  rw [show fromW sW0 [] (-1) = [] by decide +kernel, show fromE sW0 (-1) = 1 by decide +kernel] at f2
  have s1 := rSameW (a := [[98, 97]]) (b := [[98, 97]]) ⟨by decide, by decide⟩ ⟨by decide, by decide⟩
  rw [decide_eq_true rfl] at s1
  have h1 := pHasW (l := sW0) (w := [99]) ok_sW (by decide)
  rw [show hasF sW0 [99] = true by decide +kernel] at h1
  have h2 := pHasW (l := sW0) (w := [98]) ok_sW (by decide)
  rw [show hasF sW0 [98] = false by decide +kernel] at h2
  have m1 := pManyW ok_sW
  rw [show manyN sW0 = 3 by decide +kernel] at m1
  have d1 := pDeepW ok_sW
  rw [show deepN sW0 = 2 by decide +kernel] at d1
  have d2 := (pDeepW ok_nil).wk (as' := [.nils]) (.cons (.nil 2) .nil) (.refl _)
  rw [show deepN [] = -1 by decide +kernel] at d2
  simp only [lW0, iss, is, List.map_cons, List.map_nil] at t0 f1 w1 w2 f2 s1 h1 h2
  refine Sound.run (N := 91) Try.func19 rfl (by kernel_rfl) rfl rfl rfl (by first | exact args0_0 | exact args0_1 | exact args0_2 | exact args0_3 | exact args0_4 | exact args0_5 | exact args0_6) fun X_ w_ => ?_
  have c0_ := t0; have c1_ := f1; have c2_ := w1; have c3_ := w2; have c4_ := f2; repeat ((fail_if_success (with_reducible show WP _ _ (.region 6 _ _) _ _)); first | with_reducible exact Ev.nil | with_reducible exact gd_n | ((with_reducible apply lk_ok); rfl) | ((with_reducible apply gslot_ok); rfl) | ((with_reducible apply v2d_ok); rfl) | with_reducible apply then_n | with_reducible apply WP_seq | with_reducible apply WP_skip | ((with_reducible apply WP_r (N := 91) rfl rfl); (focus simp only [Nat.reduceAdd] <;> rfl)) | ((with_reducible apply WP_d (N := 91) mixed rfl rfl); (focus simp only [Nat.reduceAdd] <;> rfl)) | ((with_reducible apply Ev_s); (focus first | (apply gd_u; (focus rfl); rfl) | (apply gd_f; (focus rfl); (focus rfl); rfl))) | ((with_reducible apply Ev_sn); (focus first | (apply gd_u; (focus rfl); rfl) | (apply gd_f; (focus rfl); (focus rfl); rfl))) | with_reducible apply gd_t | with_reducible apply Ev_mv | with_reducible apply Ev_as | with_reducible apply Ev_mc | with_reducible apply Ev_ac | ((first | (with_reducible apply Ev_pt) | (with_reducible apply Ev_ptc)); (focus rfl)) | ((first | (with_reducible apply Ev_pf) | (with_reducible apply Ev_pfc)); (focus rfl)) | (apply Ev_cf; (focus simp (disch := omega) only [go_sem] <;> rfl); (focus first | exact c0_ | exact c1_ | exact c2_ | exact c3_ | exact c4_); (focus rfl); (focus first | (simp (disch := omega) only [go_sem] <;> rfl) | rfl)) | ((with_reducible apply Ev_d); (focus simp only [Nat.reduceAdd] <;> rfl); (focus simp (disch := omega) only [go_sem] <;> rfl)) | (apply Ev_cv; (focus rfl); (focus simp (disch := omega) only [go_sem] <;> rfl); (focus first | exact c0_ | exact c1_ | exact c2_ | exact c3_ | exact c4_); (iterate 3 (focus first | (simp (disch := omega) only [go_sem] <;> rfl) | rfl))) | ((first | apply Ev_cmd | apply Ev_cmn); (focus simp only [Nat.reduceAdd] <;> rfl); (focus rfl); (iterate 2 (focus simp (disch := omega) only [go_sem] <;> rfl)); (first | ((focus first | exact c0_ | exact c1_ | exact c2_ | exact c3_ | exact c4_); (iterate 2 (focus first | (simp (disch := omega) only [go_sem] <;> rfl) | rfl)); (focus rfl); (iterate 3 (focus first | (simp (disch := omega) only [go_sem] <;> rfl) | rfl))))) | ((first | (with_reducible apply Ev_od) | (with_reducible apply Ev_on)); (focus simp only [Nat.reduceAdd] <;> rfl); (focus simp (disch := omega) only [go_sem] <;> rfl); (focus first | (simp (disch := omega) only [go_sem] <;> rfl) | rfl)) | with_reducible apply endM_n | with_reducible apply endM_r | with_reducible apply then_r | with_reducible apply then_x | with_reducible apply block_n | with_reducible apply block_r | with_reducible apply block_x | with_reducible apply block_y rfl | with_reducible apply scope_n | with_reducible apply scope_r | with_reducible apply scope_x | with_reducible apply end_n | with_reducible apply end_r | with_reducible apply WP_block | with_reducible apply WP_exit | with_reducible apply WP_ret | with_reducible apply WP_label | with_reducible apply WP_scope | ((with_reducible apply WP_t); (focus first | (simp (disch := omega) only [go_sem] <;> rfl) | rfl)) | ((with_reducible apply WP_f); (focus first | (simp (disch := omega) only [go_sem] <;> rfl) | rfl)) | ((with_reducible apply resD_t); (focus rfl)) | ((with_reducible apply resD_2); (focus rfl); (focus rfl)) | (with_reducible rfl) | ((with_reducible show List.map outKeys _ = _); simp only [List.map_cons, List.map_nil, outKeys, keys]; rfl) | ((with_reducible show orderOk _ _ = true); kernel_rfl) | ((with_reducible show _ = _); simp (disch := omega) only [go_sem] <;> rfl) | ((fail_if_success (with_reducible show Ev _ _ _ _ (_ :: _) _ _ _ _ _)); (show Ev _ _ _ _ (_ :: _) _ _ _ _ _)) | fail)
  have c0_ := s1; have c1_ := h1; have c2_ := h2; have c3_ := m1; have c4_ := d1; have c5_ := d2; refine goT ?_; first | exact trivial | skip
set_option maxHeartbeats 4000000 in
set_option maxRecDepth 10000 in
theorem lawWTells {l : List Sta} {w : List Int} {n : Int} (hl : StaOk l) (hw : w.length ≤ 9223372036854775807) (hn : -9223372036854775808 ≤ n ∧ n ≤ 9223372036854775807) : Sound Try.prog 6 [.sl 2 (stas l), .sl 1 (is w), .int .i64 n] (.bool true) := by
  have cf := pFewA (n := 200) hl (by omega)
  have aw := walkAwake
  cases hf : fewA l 200
  · rw [hf] at cf
    refine Sound.run (N := 94) Try.func6 rfl (by kernel_rfl) rfl rfl rfl (by first | exact args0_0 | exact args0_1 | exact args0_2 | exact args0_3 | exact args0_4 | exact args0_5 | exact args0_6) fun X_ w_ => ?_
    have c0_ := aw; have c1_ := cf; refine goT ?_; first | exact trivial | skip
  rw [hf] at cf
  by_cases h1 : 100 < w.length
  · refine Sound.run (N := 94) Try.func6 rfl (by kernel_rfl) rfl rfl rfl (by first | exact args0_0 | exact args0_1 | exact args0_2 | exact args0_3 | exact args0_4 | exact args0_5 | exact args0_6) fun X_ w_ => ?_
    have c0_ := aw; have c1_ := cf; refine goT ?_; first | exact trivial | skip
  have c1 := pWordsW hl
  have c2 := rWordsW hl
  have c3 := pFrom (f := w) (n := n) hl hw
  have c4 := rFrom (f := w) (n := n) hl hw
  have o1 := (wsW_ok l).2.1
  have o2 := (fromW_ok l w n).2.1
  have c5 := rSameW o1 o1
  have c6 := rSameW o2 o2
  rw [decide_eq_true rfl] at c5 c6
  have c7 := pHasW hl hw
  have c8 := rHasW hl hw
  have c9 := pManyW hl
  have c10 := rManyW hl
  have c11 := pDeepW hl
  have c12 := rDeepW hl
  generalize wsW l = W1 at *
  generalize fromW l w n = W2 at *
  generalize wsE l = E1 at *
  generalize fromE l n = E2 at *
  refine Sound.run (N := 94) Try.func6 rfl (by kernel_rfl) rfl rfl rfl (by first | exact args0_0 | exact args0_1 | exact args0_2 | exact args0_3 | exact args0_4 | exact args0_5 | exact args0_6) fun X_ w_ => ?_
  have c0_ := aw; have c1_ := cf; have c2_ := c1; have c3_ := c2; have c4_ := c3; have c5_ := c4; repeat ((fail_if_success (with_reducible show WP _ _ (.region 8 _ _) _ _)); first | with_reducible exact Ev.nil | with_reducible exact gd_n | ((with_reducible apply lk_ok); rfl) | ((with_reducible apply gslot_ok); rfl) | ((with_reducible apply v2d_ok); rfl) | with_reducible apply then_n | with_reducible apply WP_seq | with_reducible apply WP_skip | ((with_reducible apply WP_r (N := 94) rfl rfl); (focus simp only [Nat.reduceAdd] <;> rfl)) | ((with_reducible apply WP_d (N := 94) mixed rfl rfl); (focus simp only [Nat.reduceAdd] <;> rfl)) | ((with_reducible apply Ev_s); (focus first | (apply gd_u; (focus rfl); rfl) | (apply gd_f; (focus rfl); (focus rfl); rfl))) | ((with_reducible apply Ev_sn); (focus first | (apply gd_u; (focus rfl); rfl) | (apply gd_f; (focus rfl); (focus rfl); rfl))) | with_reducible apply gd_t | with_reducible apply Ev_mv | with_reducible apply Ev_as | with_reducible apply Ev_mc | with_reducible apply Ev_ac | ((first | (with_reducible apply Ev_pt) | (with_reducible apply Ev_ptc)); (focus rfl)) | ((first | (with_reducible apply Ev_pf) | (with_reducible apply Ev_pfc)); (focus rfl)) | (apply Ev_cf; (focus simp (disch := omega) only [go_sem] <;> rfl); (focus first | exact c0_ | exact c1_ | exact c2_ | exact c3_ | exact c4_ | exact c5_); (focus rfl); (focus first | (simp (disch := omega) only [go_sem] <;> rfl) | rfl)) | ((with_reducible apply Ev_d); (focus simp only [Nat.reduceAdd] <;> rfl); (focus simp (disch := omega) only [go_sem] <;> rfl)) | (apply Ev_cv; (focus rfl); (focus simp (disch := omega) only [go_sem] <;> rfl); (focus first | exact c0_ | exact c1_ | exact c2_ | exact c3_ | exact c4_ | exact c5_); (iterate 3 (focus first | (simp (disch := omega) only [go_sem] <;> rfl) | rfl))) | ((first | apply Ev_cmd | apply Ev_cmn); (focus simp only [Nat.reduceAdd] <;> rfl); (focus rfl); (iterate 2 (focus simp (disch := omega) only [go_sem] <;> rfl)); (first | ((focus first | exact c0_ | exact c1_ | exact c2_ | exact c3_ | exact c4_ | exact c5_); (iterate 2 (focus first | (simp (disch := omega) only [go_sem] <;> rfl) | rfl)); (focus rfl); (iterate 3 (focus first | (simp (disch := omega) only [go_sem] <;> rfl) | rfl))))) | ((first | (with_reducible apply Ev_od) | (with_reducible apply Ev_on)); (focus simp only [Nat.reduceAdd] <;> rfl); (focus simp (disch := omega) only [go_sem] <;> rfl); (focus first | (simp (disch := omega) only [go_sem] <;> rfl) | rfl)) | with_reducible apply endM_n | with_reducible apply endM_r | with_reducible apply then_r | with_reducible apply then_x | with_reducible apply block_n | with_reducible apply block_r | with_reducible apply block_x | with_reducible apply block_y rfl | with_reducible apply scope_n | with_reducible apply scope_r | with_reducible apply scope_x | with_reducible apply end_n | with_reducible apply end_r | with_reducible apply WP_block | with_reducible apply WP_exit | with_reducible apply WP_ret | with_reducible apply WP_label | with_reducible apply WP_scope | ((with_reducible apply WP_t); (focus first | (simp (disch := omega) only [go_sem] <;> rfl) | rfl)) | ((with_reducible apply WP_f); (focus first | (simp (disch := omega) only [go_sem] <;> rfl) | rfl)) | ((with_reducible apply resD_t); (focus rfl)) | ((with_reducible apply resD_2); (focus rfl); (focus rfl)) | (with_reducible rfl) | ((with_reducible show List.map outKeys _ = _); simp only [List.map_cons, List.map_nil, outKeys, keys]; rfl) | ((with_reducible show orderOk _ _ = true); kernel_rfl) | ((with_reducible show _ = _); simp (disch := omega) only [go_sem] <;> rfl) | ((fail_if_success (with_reducible show Ev _ _ _ _ (_ :: _) _ _ _ _ _)); (show Ev _ _ _ _ (_ :: _) _ _ _ _ _)) | fail)
  have c0_ := c5; have c1_ := c6; have c2_ := c7; have c3_ := c8; have c4_ := c9; have c5_ := c10; have c6_ := c11; have c7_ := c12; refine goT ?_; first | exact trivial | skip
set_option maxHeartbeats 4000000 in
set_option maxRecDepth 10000 in
theorem lawWOn {l : List Sta} {w : List Int} {a b : Int} (hl : StaOk l) (hw : w.length ≤ 9223372036854775807) (ha : 0 ≤ a ∧ a ≤ 255) (hb : 0 ≤ b ∧ b ≤ 255) : Sound Try.prog 7 [.sl 2 (stas l), .sl 1 (is w), .int .u8 a, .int .u8 b] (.bool true) := by
  have cf := pFewA (n := 200) hl (by omega)
  have aw := walkAwake
  cases hf : fewA l 200
  · rw [hf] at cf
    refine Sound.run (N := 100) Try.func7 rfl (by kernel_rfl) rfl rfl rfl (by first | exact args0_0 | exact args0_1 | exact args0_2 | exact args0_3 | exact args0_4 | exact args0_5 | exact args0_6) fun X_ w_ => ?_
    have c0_ := aw; have c1_ := cf; refine goT ?_; first | exact trivial | skip
  rw [hf] at cf
  by_cases h1 : 100 < w.length
  · refine Sound.run (N := 100) Try.func7 rfl (by kernel_rfl) rfl rfl rfl (by first | exact args0_0 | exact args0_1 | exact args0_2 | exact args0_3 | exact args0_4 | exact args0_5 | exact args0_6) fun X_ w_ => ?_
    have c0_ := aw; have c1_ := cf; refine goT ?_; first | exact trivial | skip
  obtain ⟨x, hx⟩ := Int.eq_ofNat_of_zero_le (Int.emod_nonneg a (show (150 : Int) ≠ 0 by omega))
  obtain ⟨y, hy⟩ := Int.eq_ofNat_of_zero_le (Int.emod_nonneg b (show (150 : Int) ≠ 0 by omega))
  have hx1 : x < 150 := by have := Int.emod_lt_of_pos a (show (0 : Int) < 150 by omega); omega
  have hy1 : y < 150 := by have := Int.emod_lt_of_pos b (show (0 : Int) < 150 by omega); omega
  have c1 := pFrom (f := w) (n := x) hl hw
  cases hka : achk l
  · have e1 : fromE l x = 100 := if_neg (by rw [hka]; simp)
    rw [e1] at c1
    generalize fromW l w x = W1 at *
    refine Sound.run (N := 100) Try.func7 rfl (by kernel_rfl) rfl rfl rfl (by first | exact args0_0 | exact args0_1 | exact args0_2 | exact args0_3 | exact args0_4 | exact args0_5 | exact args0_6) fun X_ w_ => ?_
    have c0_ := aw; have c1_ := cf; have c2_ := c1; refine goX @hx ?_; first | exact trivial | skip
  have e1 : ∀ n : Nat, n ≤ 300 → fromE l n = 0 := fun n hn => by unfold fromE; rw [if_pos hka, if_pos ⟨by omega, by omega⟩]
  have e2 : ∀ (f : List Int) (n : Nat), n ≤ 300 → fromW l f n = (wordsF l f).take n := fun f n hn => if_pos ⟨hka, by omega, by omega⟩
  rw [e1 x (by omega), e2 w x (by omega)] at c1
  by_cases h0 : ((wordsF l w).take x).length = 0
  · generalize (wordsF l w).take x = W1 at *
    refine Sound.run (N := 100) Try.func7 rfl (by kernel_rfl) rfl rfl rfl (by first | exact args0_0 | exact args0_1 | exact args0_2 | exact args0_3 | exact args0_4 | exact args0_5 | exact args0_6) fun X_ w_ => ?_
    have c0_ := aw; have c1_ := cf; have c2_ := c1; refine goX (And.intro @hx @h0) ?_; first | exact trivial | skip
  have hon := words_on (m := x) (f := w) hka rfl (by omega)
  have hok := (fromW_ok l w x)
  rw [e2 w x (by omega)] at hok
  obtain ⟨k1, k2, k3⟩ := hok
  have hlast : (((wordsF l w).take x)[((wordsF l w).take x).length - 1]!).length ≤ 6001 := k3 _ (by rw [getElem!_pos _ _ (by omega)]; exact List.getElem_mem _)
  have c2 := pFrom (f := ((wordsF l w).take x)[((wordsF l w).take x).length - 1]! ++ [0]) (n := y) hl (by simp only [List.length_append, List.length_cons, List.length_nil]; omega)
  have c3 := pFrom (f := w) (n := ((x + y : Nat) : Int)) hl hw
  have hok3 := (fromW_ok l w ((x + y : Nat) : Int)).2.1
  rw [e1 y (by omega), e2 _ y (by omega), hon] at c2
  rw [e1 (x + y) (by omega), e2 w (x + y) (by omega)] at c3
  rw [e2 w (x + y) (by omega)] at hok3
  have hta : (wordsF l w).take (x + y) = (wordsF l w).take x ++ ((wordsF l w).drop x).take y := List.take_add ..
  rw [hta] at c3 hok3
  have c4 := rSameW hok3 hok3
  rw [decide_eq_true rfl] at c4
  have k4 : (((wordsF l w).drop x).take y).length ≤ 300 := by simp only [List.length_take]; omega
  clear hon hta e2
  generalize (wordsF l w).take x = W1 at *
  generalize ((wordsF l w).drop x).take y = W2 at *
  obtain ⟨n, hn⟩ : ∃ n, n = W1.length - 1 := ⟨_, rfl⟩
  have en : (W1.length : Int) - 1 = (n : Int) := by omega
  rw [← hn] at c2 hlast
  generalize hLw : W1[n]! = lw at *
  have exy : (x : Int) + (y : Int) = ((x + y : Nat) : Int) := by omega
  refine Sound.run (N := 100) Try.func7 rfl (by kernel_rfl) rfl rfl rfl (by first | exact args0_0 | exact args0_1 | exact args0_2 | exact args0_3 | exact args0_4 | exact args0_5 | exact args0_6) fun X_ w_ => ?_
  have c0_ := aw; have c1_ := cf; have c2_ := c1; have c3_ := c2; have c4_ := c3; have c5_ := c4; refine goX (And.intro @hx (And.intro @hy (And.intro @h0 (And.intro @en (And.intro @is_snoc (And.intro @iss_app (And.intro @exy @hLw))))))) ?_; first | exact trivial | skip
end Go.Eng.Try

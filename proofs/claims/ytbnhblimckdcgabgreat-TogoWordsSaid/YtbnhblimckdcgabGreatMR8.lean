/- The library's Repeat at one cost. (and what stands behind it: texts laid together) -/
import Derived.Test.YtbnhblimckdcgabGreatMG4
import Derived.Test.YtbnhblimckdcgabGreatMR7
import Derived.Test.YtbnhblimckdcgabGreatMR5
set_option linter.unusedVariables false
set_option linter.unusedSimpArgs false
namespace Go.Eng.Tryz
open Go Go.Eng Go.Proofs Go.RowKit
attribute [local go_sem] tys
set_option maxRecDepth 10000 in
theorem mul64 {a b : Int} (ha : U a) (hb : U b) : Sound Tryz.prog 100 [.int .u64 a, .int .u64 b] (.tup [.int .u64 (a * b / 18446744073709551616), .int .u64 (a * b % 18446744073709551616)]) := by
  unfold U at ha hb
  have bd : ∀ x y : Int, 0 ≤ x → 0 ≤ y → x ≤ 4294967295 → y ≤ 4294967295 → 0 ≤ x * y ∧ x * y ≤ 18446744065119617025 := fun x y h1 h2 h3 h4 =>
    ⟨Int.mul_nonneg h1 h2, Int.le_trans (Int.mul_le_mul h3 h4 h2 (by decide)) (by decide)⟩
  have b00 := bd (a % 4294967296) (b % 4294967296) (by omega) (by omega) (by omega) (by omega)
  have b01 := bd (a % 4294967296) (b / 4294967296) (by omega) (by omega) (by omega) (by omega)
  have b10 := bd (a / 4294967296) (b % 4294967296) (by omega) (by omega) (by omega) (by omega)
  have b11 := bd (a / 4294967296) (b / 4294967296) (by omega) (by omega) (by omega) (by omega)
  have hab : a * b = a / 4294967296 * (b / 4294967296) * 18446744073709551616 + (a / 4294967296 * (b % 4294967296) + a % 4294967296 * (b / 4294967296)) * 4294967296 + a % 4294967296 * (b % 4294967296) := by
    have h1 : a = a / 4294967296 * 4294967296 + a % 4294967296 := by omega
    have h2 : b = b / 4294967296 * 4294967296 + b % 4294967296 := by omega
    generalize a / 4294967296 = x1 at *
    generalize a % 4294967296 = x0 at *
    generalize b / 4294967296 = y1 at *
    generalize b % 4294967296 = y0 at *
    subst h1; subst h2
    grind
  refine Sound.run (N := 51) Tryz.func100 rfl (by kernel_rfl) rfl rfl rfl (by first | exact args0_0 | exact args0_1 | exact args0_2 | exact args0_3 | exact args0_4 | exact args0_5 | exact args0_6) fun X_ w_ => ?_
  repeat (first | with_reducible exact Ev.nil | with_reducible exact gd_n | ((with_reducible apply lk_ok); rfl) | ((with_reducible apply gslot_ok); rfl) | ((with_reducible apply v2d_ok); rfl) | with_reducible apply then_n | with_reducible apply WP_seq | with_reducible apply WP_skip | ((with_reducible apply WP_r (N := 51) rfl rfl); (focus simp only [Nat.reduceAdd] <;> rfl)) | ((with_reducible apply WP_d (N := 51) mixed rfl rfl); (focus simp only [Nat.reduceAdd] <;> rfl)) | ((with_reducible apply Ev_s); (focus first | (apply gd_u; (focus rfl); rfl) | (apply gd_f; (focus rfl); (focus rfl); rfl))) | ((with_reducible apply Ev_sn); (focus first | (apply gd_u; (focus rfl); rfl) | (apply gd_f; (focus rfl); (focus rfl); rfl))) | with_reducible apply gd_t | with_reducible apply Ev_mv | with_reducible apply Ev_as | with_reducible apply Ev_mc | with_reducible apply Ev_ac | ((first | (with_reducible apply Ev_pt) | (with_reducible apply Ev_ptc)); (focus rfl)) | ((first | (with_reducible apply Ev_pf) | (with_reducible apply Ev_pfc)); (focus rfl)) | ((with_reducible apply Ev_d); (focus simp only [Nat.reduceAdd] <;> rfl); (focus simp (disch := omega) only [go_sem, ↓and_mask, ↓shr_32] <;> rfl)) | ((first | (with_reducible apply Ev_od) | (with_reducible apply Ev_on)); (focus simp only [Nat.reduceAdd] <;> rfl); (focus simp (disch := omega) only [go_sem, ↓and_mask, ↓shr_32] <;> rfl); (focus first | (simp (disch := omega) only [go_sem, ↓and_mask, ↓shr_32] <;> rfl) | rfl)) | with_reducible apply endM_n | with_reducible apply endM_r | with_reducible apply then_r | with_reducible apply then_x | with_reducible apply block_n | with_reducible apply block_r | with_reducible apply block_x | with_reducible apply block_y rfl | with_reducible apply scope_n | with_reducible apply scope_r | with_reducible apply scope_x | with_reducible apply end_n | with_reducible apply end_r | with_reducible apply WP_block | with_reducible apply WP_exit | with_reducible apply WP_ret | with_reducible apply WP_label | with_reducible apply WP_scope | ((with_reducible apply WP_t); (focus first | (simp (disch := omega) only [go_sem, ↓and_mask, ↓shr_32] <;> rfl) | rfl)) | ((with_reducible apply WP_f); (focus first | (simp (disch := omega) only [go_sem, ↓and_mask, ↓shr_32] <;> rfl) | rfl)) | ((with_reducible apply resD_t); (focus rfl)) | ((with_reducible apply resD_2); (focus rfl); (focus rfl)) | (with_reducible rfl) | ((with_reducible show List.map outKeys _ = _); simp only [List.map_cons, List.map_nil, outKeys, keys]; rfl) | ((with_reducible show orderOk _ _ = true); kernel_rfl) | ((with_reducible show _ = _); simp (disch := omega) only [go_sem, ↓and_mask, ↓shr_32] <;> rfl) | ((fail_if_success (with_reducible show Ev _ _ _ _ (_ :: _) _ _ _ _ _)); (show Ev _ _ _ _ (_ :: _) _ _ _ _ _)) | fail)
  simp (disch := omega) only [go_sem, wrap_u64m]
  exact ends2 (by omega) (by omega)
theorem mul1 {n : Int} (hn : U n) : Sound Tryz.prog 74 [.int .u64 1, .int .u64 n] (.tup [.int .u64 0, .int .u64 n]) := by
  have c := mul64 (a := 1) (b := n) ⟨by decide, by decide⟩ hn
  unfold U at hn
  have e1 : 1 * n / 18446744073709551616 = 0 := by omega
  have e2 : 1 * n % 18446744073709551616 = n := by omega
  rw [e1, e2] at c
  refine Sound.run (N := 30) Tryz.func74 rfl (by kernel_rfl) rfl rfl rfl (by first | exact args0_0 | exact args0_1 | exact args0_2 | exact args0_3 | exact args0_4 | exact args0_5 | exact args0_6) fun X_ w_ => ?_
  have c0_ := c; refine goT ?_; first | exact trivial | skip
/-- The first cells are filled. -/
def rpA (x : Int) (m n : Nat) : List AV := List.replicate m (.d (.int .u64 x)) ++ List.replicate (n - m) (.d (.int .u64 0))
theorem rpA_len {x : Int} {m n : Nat} (h : m ≤ n) : (rpA x m n).length = n := by simp [rpA]; omega
theorem cellsD_rep {x : Int} : ∀ m, cellsD (List.replicate m (.d (.int .u64 x))) = some (us (List.replicate m x))
  | 0 => rfl
  | m + 1 => by rw [List.replicate_succ, List.replicate_succ]; simp only [cellsD, cellsD_rep m]; rfl
theorem rpA_take {x : Int} {m n : Nat} : cellsD (List.take m (rpA x m n)) = some (us (List.replicate m x)) := by
  rw [rpA, List.take_left' (by simp), cellsD_rep]
theorem us_flat {l : List Int} : (us l).all D.flat = true := by simp [us, D.flat]
theorem us_rep {x : Int} {m : Nat} : us (List.replicate m x) = List.replicate m (.int .u64 x) := by simp [us]
theorem rpA_step {x : Int} {m n k : Nat} (h : m ≤ n) (hk : k = min m (n - m)) : splice (rpA x m n) m (List.map AV.d (List.take (n - m) (us (List.replicate m x)))) = rpA x (m + k) n := by
  rw [us_rep, List.take_replicate, List.map_replicate]
  unfold splice rpA
  rw [List.take_left' (by simp), List.length_replicate, List.drop_append]
  simp only [List.length_replicate, List.drop_replicate]
  have e1 : m - (m + min (n - m) m) = 0 := by omega
  have e2 : m + min (n - m) m - m = min (n - m) m := by omega
  have e3 : n - m - min (n - m) m = n - (m + k) := by omega
  rw [e1, e2, e3, List.replicate_zero, List.nil_append, List.replicate_append_replicate]
  congr 2
  omega
theorem rpA_first {x : Int} {n : Nat} (h : 1 ≤ n) : splice (List.replicate n (.d (.int .u64 0))) 0 (List.map AV.d (List.take n [D.int .u64 x])) = rpA x 1 n := by
  have : List.take n [D.int .u64 x] = [D.int .u64 x] := List.take_of_length_le (by simpa using h)
  rw [this]
  unfold splice rpA
  simp [List.drop_replicate]
theorem kbs_all {c : Nat} : ∀ {l : List AV}, (∀ a ∈ l, a.kb c = true) → kbs c l = true
  | [], _ => rfl
  | a :: l, h => by simp only [kbs, h a (by simp), Bool.true_and]; exact kbs_all fun b hb => h b (by simp [hb])
theorem rpA_below {x : Int} {m n : Nat} : heapBelow 500003 [(500002, .var (rpA x m n))] = true := by
  have : kbs 500003 (rpA x m n) = true := kbs_all fun a ha => by
    unfold rpA at ha
    simp only [List.mem_append, List.mem_replicate] at ha
    rcases ha with ⟨_, rfl⟩ | ⟨_, rfl⟩ <;> rfl
  simp [heapBelow, hoBelow, this]
set_option maxHeartbeats 4000000 in
set_option maxRecDepth 10000 in
theorem sRepeat {x : Int} {n : Nat} (hx : U x) (h1 : 1 ≤ n) (h2 : n ≤ 1000) : Sound Tryz.prog 51 [.sl 1 [.int .u64 x], .int .i64 n] (.sl 1 (us (List.replicate n x))) := by
  have cm := mul1 (n := n) ⟨by omega, by omega⟩
  have ew : IntKind.u64.wrap (n : Int) = n := wrap_u64 (by omega) (by omega)
  have ew2 : IntKind.i64.wrap (n : Int) = n := wrap_i64 (by omega) (by omega)
  have e0 := rpA_first (x := x) h1
  have em : min 1 n = 1 := by omega
  refine Sound.run (N := 48) Tryz.func51 rfl (by kernel_rfl) rfl rfl rfl (by first | exact args0_0 | exact args0_1 | exact args0_2 | exact args0_3 | exact args0_4 | exact args0_5 | exact args0_6) fun X_ w_ => ?_
  have c0_ := cm; repeat ((fail_if_success (with_reducible show WP _ _ (.region 6 _ _) _ _)); first | with_reducible exact Ev.nil | with_reducible exact gd_n | ((with_reducible apply lk_ok); rfl) | ((with_reducible apply gslot_ok); rfl) | ((with_reducible apply v2d_ok); rfl) | with_reducible apply then_n | with_reducible apply WP_seq | with_reducible apply WP_skip | ((with_reducible apply WP_r (N := 48) rfl rfl); (focus simp only [Nat.reduceAdd] <;> rfl)) | ((with_reducible apply WP_d (N := 48) mixed rfl rfl); (focus simp only [Nat.reduceAdd] <;> rfl)) | ((with_reducible apply Ev_s); (focus first | (apply gd_u; (focus rfl); rfl) | (apply gd_f; (focus rfl); (focus rfl); rfl))) | ((with_reducible apply Ev_sn); (focus first | (apply gd_u; (focus rfl); rfl) | (apply gd_f; (focus rfl); (focus rfl); rfl))) | with_reducible apply gd_t | with_reducible apply Ev_mv | with_reducible apply Ev_as | with_reducible apply Ev_mc | with_reducible apply Ev_ac | ((first | (with_reducible apply Ev_pt) | (with_reducible apply Ev_ptc)); (focus rfl)) | ((first | (with_reducible apply Ev_pf) | (with_reducible apply Ev_pfc)); (focus rfl)) | (apply Ev_cf; (focus simp (disch := omega) only [go_sem, ew, ew2] <;> rfl); (focus first | exact c0_); (focus rfl); (focus first | (simp (disch := omega) only [go_sem, ew, ew2] <;> rfl) | rfl)) | ((with_reducible apply Ev_d); (focus simp only [Nat.reduceAdd] <;> rfl); (focus simp (disch := omega) only [go_sem, ew, ew2] <;> rfl)) | (apply Ev_cv; (focus rfl); (focus simp (disch := omega) only [go_sem, ew, ew2] <;> rfl); (focus first | exact c0_); (iterate 3 (focus first | (simp (disch := omega) only [go_sem, ew, ew2] <;> rfl) | rfl))) | ((first | apply Ev_cmd | apply Ev_cmn); (focus simp only [Nat.reduceAdd] <;> rfl); (focus rfl); (iterate 2 (focus simp (disch := omega) only [go_sem, ew, ew2] <;> rfl)); (first | ((focus first | exact c0_); (iterate 2 (focus first | (simp (disch := omega) only [go_sem, ew, ew2] <;> rfl) | rfl)); (focus rfl); (iterate 3 (focus first | (simp (disch := omega) only [go_sem, ew, ew2] <;> rfl) | rfl))))) | ((first | (with_reducible apply Ev_od) | (with_reducible apply Ev_on)); (focus simp only [Nat.reduceAdd] <;> rfl); (focus simp (disch := omega) only [go_sem, ew, ew2] <;> rfl); (focus first | (simp (disch := omega) only [go_sem, ew, ew2] <;> rfl) | rfl)) | with_reducible apply endM_n | with_reducible apply endM_r | with_reducible apply then_r | with_reducible apply then_x | with_reducible apply block_n | with_reducible apply block_r | with_reducible apply block_x | with_reducible apply block_y rfl | with_reducible apply scope_n | with_reducible apply scope_r | with_reducible apply scope_x | with_reducible apply end_n | with_reducible apply end_r | with_reducible apply WP_block | with_reducible apply WP_exit | with_reducible apply WP_ret | with_reducible apply WP_label | with_reducible apply WP_scope | ((with_reducible apply WP_t); (focus first | (simp (disch := omega) only [go_sem, ew, ew2] <;> rfl) | rfl)) | ((with_reducible apply WP_f); (focus first | (simp (disch := omega) only [go_sem, ew, ew2] <;> rfl) | rfl)) | ((with_reducible apply resD_t); (focus rfl)) | ((with_reducible apply resD_2); (focus rfl); (focus rfl)) | (with_reducible rfl) | ((with_reducible show List.map outKeys _ = _); simp only [List.map_cons, List.map_nil, outKeys, keys]; rfl) | ((with_reducible show orderOk _ _ = true); kernel_rfl) | ((with_reducible show _ = _); simp (disch := omega) only [go_sem, ew, ew2] <;> rfl) | ((fail_if_success (with_reducible show Ev _ _ _ _ (_ :: _) _ _ _ _ _)); (show Ev _ _ _ _ (_ :: _) _ _ _ _ _)) | fail)
  refine WP_bump 500000 (Nat.le_of_ble_eq_true rfl) ?_
  repeat (first | with_reducible exact Ev.nil | with_reducible exact gd_n | ((with_reducible apply lk_ok); rfl) | ((with_reducible apply gslot_ok); rfl) | ((with_reducible apply v2d_ok); rfl) | with_reducible apply then_n | with_reducible apply WP_seq | with_reducible apply WP_skip | ((with_reducible apply WP_r (N := 48) rfl rfl); (focus simp only [Nat.reduceAdd] <;> rfl)) | ((with_reducible apply WP_d (N := 48) mixed rfl rfl); (focus simp only [Nat.reduceAdd] <;> rfl)) | ((with_reducible apply Ev_s); (focus first | (apply gd_u; (focus rfl); rfl) | (apply gd_f; (focus rfl); (focus rfl); rfl))) | ((with_reducible apply Ev_sn); (focus first | (apply gd_u; (focus rfl); rfl) | (apply gd_f; (focus rfl); (focus rfl); rfl))) | with_reducible apply gd_t | with_reducible apply Ev_mv | with_reducible apply Ev_as | with_reducible apply Ev_mc | with_reducible apply Ev_ac | ((first | (with_reducible apply Ev_pt) | (with_reducible apply Ev_ptc)); (focus rfl)) | ((first | (with_reducible apply Ev_pf) | (with_reducible apply Ev_pfc)); (focus rfl)) | ((with_reducible apply Ev_d); (focus simp only [Nat.reduceAdd] <;> rfl); (focus simp (disch := omega) only [go_sem, ew, ew2, D.flat, em, ↓e0, List.length_replicate, Nat.zero_add, Int.cast_ofNat_Int] <;> rfl)) | ((first | (with_reducible apply Ev_od) | (with_reducible apply Ev_on)); (focus simp only [Nat.reduceAdd] <;> rfl); (focus simp (disch := omega) only [go_sem, ew, ew2, D.flat, em, ↓e0, List.length_replicate, Nat.zero_add, Int.cast_ofNat_Int] <;> rfl); (focus first | (simp (disch := omega) only [go_sem, ew, ew2, D.flat, em, ↓e0, List.length_replicate, Nat.zero_add, Int.cast_ofNat_Int] <;> rfl) | rfl)) | with_reducible apply endM_n | with_reducible apply endM_r | with_reducible apply then_r | with_reducible apply then_x | with_reducible apply block_n | with_reducible apply block_r | with_reducible apply block_x | with_reducible apply block_y rfl | with_reducible apply scope_n | with_reducible apply scope_r | with_reducible apply scope_x | with_reducible apply end_n | with_reducible apply end_r | with_reducible apply WP_block | with_reducible apply WP_exit | with_reducible apply WP_ret | with_reducible apply WP_label | with_reducible apply WP_scope | ((with_reducible apply WP_t); (focus first | (simp (disch := omega) only [go_sem, ew, ew2, D.flat, em, ↓e0, List.length_replicate, Nat.zero_add, Int.cast_ofNat_Int] <;> rfl) | rfl)) | ((with_reducible apply WP_f); (focus first | (simp (disch := omega) only [go_sem, ew, ew2, D.flat, em, ↓e0, List.length_replicate, Nat.zero_add, Int.cast_ofNat_Int] <;> rfl) | rfl)) | ((with_reducible apply resD_t); (focus rfl)) | ((with_reducible apply resD_2); (focus rfl); (focus rfl)) | (with_reducible rfl) | ((with_reducible show List.map outKeys _ = _); simp only [List.map_cons, List.map_nil, outKeys, keys]; rfl) | ((with_reducible show orderOk _ _ = true); kernel_rfl) | ((with_reducible show _ = _); simp (disch := omega) only [go_sem, ew, ew2, D.flat, em, ↓e0, List.length_replicate, Nat.zero_add, Int.cast_ofNat_Int] <;> rfl) | ((fail_if_success (with_reducible show Ev _ _ _ _ (_ :: _) _ _ _ _ _)); (show Ev _ _ _ _ (_ :: _) _ _ _ _ _)) | fail)
  refine WP_loopk (fun m : Nat => 1 ≤ m ∧ m ≤ n) (fun m => [(7, .vs 500002 0 n), (8, .d (.int .i64 m))]) (fun m => [(500002, .var (rpA x m n))]) 500003 (fun m => n - m) [7, 8] [500002] 1 ⟨Nat.le_refl _, h1⟩ rfl rfl (Nat.zero_le _) (fun _ _ => rfl) (fun _ _ => rpA_below) fun m hm => ?_
  obtain ⟨hm1, hm2⟩ := hm
  by_cases hm' : m < n
  · obtain ⟨k, hk⟩ : ∃ k, k = min m (n - m) := ⟨_, rfl⟩
    have hst := rpA_step (x := x) hm2 hk
    have hl := rpA_len (x := x) hm2
    have ht := rpA_take (x := x) (m := m) (n := n)
    have hk1 : 1 ≤ k := by omega
    have hk2 : m + k ≤ n := by omega
    repeat (first | with_reducible exact Ev.nil | with_reducible exact gd_n | ((with_reducible apply lk_ok); rfl) | ((with_reducible apply gslot_ok); rfl) | ((with_reducible apply v2d_ok); rfl) | with_reducible apply then_n | with_reducible apply WP_seq | with_reducible apply WP_skip | ((with_reducible apply WP_r (N := 48) rfl rfl); (focus simp only [Nat.reduceAdd] <;> rfl)) | ((with_reducible apply WP_d (N := 48) mixed rfl rfl); (focus simp only [Nat.reduceAdd] <;> rfl)) | ((with_reducible apply Ev_s); (focus first | (apply gd_u; (focus rfl); rfl) | (apply gd_f; (focus rfl); (focus rfl); rfl))) | ((with_reducible apply Ev_sn); (focus first | (apply gd_u; (focus rfl); rfl) | (apply gd_f; (focus rfl); (focus rfl); rfl))) | with_reducible apply gd_t | with_reducible apply Ev_mv | with_reducible apply Ev_as | with_reducible apply Ev_mc | with_reducible apply Ev_ac | ((first | (with_reducible apply Ev_pt) | (with_reducible apply Ev_ptc)); (focus rfl)) | ((first | (with_reducible apply Ev_pf) | (with_reducible apply Ev_pfc)); (focus rfl)) | ((with_reducible apply Ev_d); (focus simp only [Nat.reduceAdd] <;> rfl); (focus simp (disch := omega) only [go_sem, hl, ht, us_flat, Nat.zero_add, Nat.sub_zero, us_len, List.length_replicate, ↓hst, ← hk] <;> rfl)) | ((first | (with_reducible apply Ev_od) | (with_reducible apply Ev_on)); (focus simp only [Nat.reduceAdd] <;> rfl); (focus simp (disch := omega) only [go_sem, hl, ht, us_flat, Nat.zero_add, Nat.sub_zero, us_len, List.length_replicate, ↓hst, ← hk] <;> rfl); (focus first | (simp (disch := omega) only [go_sem, hl, ht, us_flat, Nat.zero_add, Nat.sub_zero, us_len, List.length_replicate, ↓hst, ← hk] <;> rfl) | rfl)) | with_reducible apply endM_n | with_reducible apply endM_r | with_reducible apply then_r | with_reducible apply then_x | with_reducible apply block_n | with_reducible apply block_r | with_reducible apply block_x | with_reducible apply block_y rfl | with_reducible apply scope_n | with_reducible apply scope_r | with_reducible apply scope_x | with_reducible apply end_n | with_reducible apply end_r | with_reducible apply WP_block | with_reducible apply WP_exit | with_reducible apply WP_ret | with_reducible apply WP_label | with_reducible apply WP_scope | ((with_reducible apply WP_t); (focus first | (simp (disch := omega) only [go_sem, hl, ht, us_flat, Nat.zero_add, Nat.sub_zero, us_len, List.length_replicate, ↓hst, ← hk] <;> rfl) | rfl)) | ((with_reducible apply WP_f); (focus first | (simp (disch := omega) only [go_sem, hl, ht, us_flat, Nat.zero_add, Nat.sub_zero, us_len, List.length_replicate, ↓hst, ← hk] <;> rfl) | rfl)) | ((with_reducible apply resD_t); (focus rfl)) | ((with_reducible apply resD_2); (focus rfl); (focus rfl)) | (with_reducible rfl) | ((with_reducible show List.map outKeys _ = _); simp only [List.map_cons, List.map_nil, outKeys, keys]; rfl) | ((with_reducible show orderOk _ _ = true); kernel_rfl) | ((with_reducible show _ = _); simp (disch := omega) only [go_sem, hl, ht, us_flat, Nat.zero_add, Nat.sub_zero, us_len, List.length_replicate, ↓hst, ← hk] <;> rfl) | ((fail_if_success (with_reducible show Ev _ _ _ _ (_ :: _) _ _ _ _ _)); (show Ev _ _ _ _ (_ :: _) _ _ _ _ _)) | fail)
    refine ⟨m + k, ⟨by omega, by omega⟩, ?_, ?_, by omega⟩
    · simp (disch := omega) only [go_sem, keepL, Int.natCast_add, Int.cast_ofNat_Int]
    · simp (disch := omega) only [go_sem, keepL]
  · have hmn : m = n := by omega
    subst hmn
    have ht := rpA_take (x := x) (m := m) (n := m)
    repeat (first | with_reducible exact Ev.nil | with_reducible exact gd_n | ((with_reducible apply lk_ok); rfl) | ((with_reducible apply gslot_ok); rfl) | ((with_reducible apply v2d_ok); rfl) | with_reducible apply then_n | with_reducible apply WP_seq | with_reducible apply WP_skip | ((with_reducible apply WP_r (N := 48) rfl rfl); (focus simp only [Nat.reduceAdd] <;> rfl)) | ((with_reducible apply WP_d (N := 48) mixed rfl rfl); (focus simp only [Nat.reduceAdd] <;> rfl)) | ((with_reducible apply Ev_s); (focus first | (apply gd_u; (focus rfl); rfl) | (apply gd_f; (focus rfl); (focus rfl); rfl))) | ((with_reducible apply Ev_sn); (focus first | (apply gd_u; (focus rfl); rfl) | (apply gd_f; (focus rfl); (focus rfl); rfl))) | with_reducible apply gd_t | with_reducible apply Ev_mv | with_reducible apply Ev_as | with_reducible apply Ev_mc | with_reducible apply Ev_ac | ((first | (with_reducible apply Ev_pt) | (with_reducible apply Ev_ptc)); (focus rfl)) | ((first | (with_reducible apply Ev_pf) | (with_reducible apply Ev_pfc)); (focus rfl)) | ((with_reducible apply Ev_d); (focus simp only [Nat.reduceAdd] <;> rfl); (focus simp (disch := omega) only [go_sem, ht, us_len, List.length_replicate, Nat.zero_add, Nat.sub_zero] <;> rfl)) | ((first | (with_reducible apply Ev_od) | (with_reducible apply Ev_on)); (focus simp only [Nat.reduceAdd] <;> rfl); (focus simp (disch := omega) only [go_sem, ht, us_len, List.length_replicate, Nat.zero_add, Nat.sub_zero] <;> rfl); (focus first | (simp (disch := omega) only [go_sem, ht, us_len, List.length_replicate, Nat.zero_add, Nat.sub_zero] <;> rfl) | rfl)) | with_reducible apply endM_n | with_reducible apply endM_r | with_reducible apply then_r | with_reducible apply then_x | with_reducible apply block_n | with_reducible apply block_r | with_reducible apply block_x | with_reducible apply block_y rfl | with_reducible apply scope_n | with_reducible apply scope_r | with_reducible apply scope_x | with_reducible apply end_n | with_reducible apply end_r | with_reducible apply WP_block | with_reducible apply WP_exit | with_reducible apply WP_ret | with_reducible apply WP_label | with_reducible apply WP_scope | ((with_reducible apply WP_t); (focus first | (simp (disch := omega) only [go_sem, ht, us_len, List.length_replicate, Nat.zero_add, Nat.sub_zero] <;> rfl) | rfl)) | ((with_reducible apply WP_f); (focus first | (simp (disch := omega) only [go_sem, ht, us_len, List.length_replicate, Nat.zero_add, Nat.sub_zero] <;> rfl) | rfl)) | ((with_reducible apply resD_t); (focus rfl)) | ((with_reducible apply resD_2); (focus rfl); (focus rfl)) | (with_reducible rfl) | ((with_reducible show List.map outKeys _ = _); simp only [List.map_cons, List.map_nil, outKeys, keys]; rfl) | ((with_reducible show orderOk _ _ = true); kernel_rfl) | ((with_reducible show _ = _); simp (disch := omega) only [go_sem, ht, us_len, List.length_replicate, Nat.zero_add, Nat.sub_zero] <;> rfl) | ((fail_if_success (with_reducible show Ev _ _ _ _ (_ :: _) _ _ _ _ _)); (show Ev _ _ _ _ (_ :: _) _ _ _ _ _)) | fail)
end Go.Eng.Tryz
set_option linter.unusedVariables false
set_option linter.unusedSimpArgs false
namespace Go.Eng.Tryz
open Go Go.Eng Go.Proofs Go.RowKit
/-- How many of a word's signs, from a place on, a step puts. -/
def putsN (s : Se) (w : List Int) (j : Nat) : Option Nat :=
  if s.any = true then (if j < w.length then some 1 else none)
  else if (w.drop j).take s.put.length = s.put then some s.put.length else none
theorem putsN_le {s : Se} {w : List Int} {j n : Nat} (hj : j ≤ w.length) (h : putsN s w j = some n) : j + n ≤ w.length := by
  unfold putsN at h
  split at h
  · split at h
    · cases h; omega
    · cases h
  · split at h
    · rename_i h1
      cases h
      have := congrArg List.length h1
      simp only [List.length_take, List.length_drop] at this
      omega
    · cases h
def get2 (t : List (List Int)) (i j : Nat) : Int := (t[i]!)[j]!
def set2 (t : List (List Int)) (i j : Nat) (v : Int) : List (List Int) := t.set i ((t[i]!).set j v)
/-- So many rows of so many numbers. -/
def Shape (t : List (List Int)) (n m : Nat) : Prop := t.length = n ∧ ∀ i, i < n → (t[i]!).length = m
theorem getB_set {α : Type} [Inhabited α] {l : List α} {i j : Nat} {v : α} (h : i < l.length) : (l.set i v)[j]! = if j = i then v else l[j]! := by
  simp only [List.getElem!_eq_getElem?_getD, List.getElem?_set]
  by_cases e : j = i
  · subst e; simp [h]
  · rw [if_neg (fun x => e x.symm), if_neg e]
theorem Shape.set {t : List (List Int)} {n m i j : Nat} {v : Int} (h : Shape t n m) (hi : i < n) : Shape (set2 t i j v) n m := by
  obtain ⟨h1, h2⟩ := h
  refine ⟨by simp [set2, h1], fun a ha => ?_⟩
  unfold set2
  rw [getB_set (by omega)]
  split
  · rename_i e; subst e; rw [List.length_set]; exact h2 a ha
  · exact h2 a ha
theorem get2_set {t : List (List Int)} {n m i j a b : Nat} {v : Int} (h : Shape t n m) (hi : i < n) (hj : j < m) : get2 (set2 t i j v) a b = if a = i ∧ b = j then v else get2 t a b := by
  unfold get2 set2
  rw [getB_set (by rw [h.1]; exact hi)]
  by_cases e : a = i
  · subst e
    rw [if_pos rfl, getB_set (by rw [h.2 _ hi]; exact hj)]
    by_cases e2 : b = j
    · subst e2; simp
    · rw [if_neg e2, if_neg (fun x => e2 x.2)]
  · rw [if_neg e, if_neg (fun x => e x.1)]
def relax (w : List Int) (i j : Nat) (t : List (List Int)) (s : Se) : List (List Int) :=
  match putsN s w j with
  | some n => set2 t (i + s.eat.toNat) (j + n) (min (get2 t (i + s.eat.toNat) (j + n)) (cadd (get2 t i j) s.cost))
  | none => t
def tblK (all : List (List Se)) (w : List Int) (i j k : Nat) (t : List (List Int)) : List (List Int) := ((all[i]!).take k).foldl (relax w i j) t
def tblJ (all : List (List Se)) (w : List Int) (i j : Nat) (t : List (List Int)) : List (List Int) := (List.range j).foldl (fun t j => (all[i]!).foldl (relax w i j) t) t
def tbl0 (n m : Nat) : List (List Int) := set2 (List.replicate n (List.replicate m 18446744073709551615)) 0 0 0
def tblI (all : List (List Se)) (w : List Int) (i : Nat) : List (List Int) := (List.range i).foldl (fun t i => tblJ all w i (w.length + 1) t) (tbl0 all.length (w.length + 1))
def tbl (all : List (List Se)) (w : List Int) : List (List Int) := tblI all w all.length
theorem tblI_step (all : List (List Se)) (w : List Int) (i : Nat) : tblI all w (i + 1) = tblJ all w i (w.length + 1) (tblI all w i) := by simp [tblI, List.range_succ]
theorem tblJ_step (all : List (List Se)) (w : List Int) (i j : Nat) (t : List (List Int)) : tblJ all w i (j + 1) t = tblK all w i j (all[i]!).length (tblJ all w i j t) := by simp [tblJ, tblK, List.range_succ]
theorem tblK_step {all : List (List Se)} {w : List Int} {i j k : Nat} {t : List (List Int)} (h : k < (all[i]!).length) : tblK all w i j (k + 1) t = relax w i j (tblK all w i j k t) ((all[i]!)[k]!) := by
  unfold tblK
  rw [List.take_add_one, List.foldl_append, List.getElem?_eq_getElem h, getElem!_pos (all[i]!) k h]
  rfl
/-- What may be said of the steps of all places. -/
def Steps (all : List (List Se)) (w : List Int) : Prop := ∀ i, i < all.length → ∀ s ∈ all[i]!, 0 ≤ s.eat ∧ i + s.eat.toNat < all.length ∧ U s.cost ∧ ∀ j n, putsN s w j = some n → 0 < s.eat.toNat + n
/-- A way from nothing to so many, and what it costs. -/
inductive Way (all : List (List Se)) (w : List Int) : Nat → Nat → Int → Prop where
  | zero : Way all w 0 0 0
  | step {i j n : Nat} {v : Int} {s : Se} (h : Way all w i j v) (hs : s ∈ all[i]!) (hi : i < all.length) (hn : putsN s w j = some n) : Way all w (i + s.eat.toNat) (j + n) (v + s.cost)
def Edge (all : List (List Se)) (w : List Int) (t : List (List Int)) (i j : Nat) (s : Se) : Prop := ∀ n, putsN s w j = some n → get2 t (i + s.eat.toNat) (j + n) ≤ cadd (get2 t i j) s.cost
def Lex (a b i j : Nat) : Prop := a < i ∨ a = i ∧ b < j
structure Good (all : List (List Se)) (w : List Int) (t : List (List Int)) : Prop where
  shape : Shape t all.length (w.length + 1)
  zero : get2 t 0 0 ≤ 0
  u : ∀ a b, a < all.length → b < w.length + 1 → U (get2 t a b)
  way : ∀ a b, a < all.length → b < w.length + 1 → get2 t a b = 18446744073709551615 ∨ Way all w a b (get2 t a b)
theorem relax_good {all : List (List Se)} {w : List Int} {i j : Nat} {t : List (List Int)} {s : Se} (hS : Steps all w) (hi : i < all.length) (hj : j < w.length + 1) (hs : s ∈ all[i]!) (h : Good all w t) :
    Good all w (relax w i j t s) ∧ (∀ a b, Lex a b i j ∨ a = i ∧ b = j → get2 (relax w i j t s) a b = get2 t a b) ∧ (∀ a b, get2 (relax w i j t s) a b ≤ get2 t a b) ∧ Edge all w (relax w i j t s) i j s := by
  obtain ⟨he, hlt, hc, hpos⟩ := hS i hi s hs
  unfold relax
  cases hp : putsN s w j with
  | none => exact ⟨h, fun _ _ _ => rfl, fun _ _ => Int.le_refl _, fun n hn => by rw [hp] at hn; cases hn⟩
  | some n =>
    have hle := putsN_le (by omega) hp
    have hj2 : j + n < w.length + 1 := by omega
    have hps := hpos j n hp
    have hu1 := h.u i j hi hj
    have hu2 := h.u (i + s.eat.toNat) (j + n) hlt hj2
    have hg := fun a b => get2_set (a := a) (b := b) (v := min (get2 t (i + s.eat.toNat) (j + n)) (cadd (get2 t i j) s.cost)) h.shape hlt hj2
    have hle2 : ∀ a b, get2 (set2 t (i + s.eat.toNat) (j + n) (min (get2 t (i + s.eat.toNat) (j + n)) (cadd (get2 t i j) s.cost))) a b ≤ get2 t a b := fun a b => by
      rw [hg]
      split
      · rename_i e; obtain ⟨rfl, rfl⟩ := e; exact Int.min_le_left _ _
      · exact Int.le_refl _
    have hkeep : ∀ a b, Lex a b i j ∨ a = i ∧ b = j → get2 (set2 t (i + s.eat.toNat) (j + n) (min (get2 t (i + s.eat.toNat) (j + n)) (cadd (get2 t i j) s.cost))) a b = get2 t a b := fun a b hab => by
      rw [hg, if_neg]
      rintro ⟨rfl, rfl⟩
      unfold Lex at hab
      omega
    refine ⟨⟨h.shape.set hlt, Int.le_trans (hle2 0 0) h.zero, fun a b ha hb => ?_, fun a b ha hb => ?_⟩, hkeep, hle2, fun n' hn' => ?_⟩
    · rw [hg]
      split
      · have := U_cadd hu1 hc
        unfold U at *
        omega
      · exact h.u a b ha hb
    · rw [hg]
      split
      · rename_i e
        obtain ⟨rfl, rfl⟩ := e
        by_cases hm : get2 t (i + s.eat.toNat) (j + n) ≤ cadd (get2 t i j) s.cost
        · rw [Int.min_eq_left hm]; exact h.way _ _ ha hb
        · rw [Int.min_eq_right (by omega)]
          by_cases hc2 : cadd (get2 t i j) s.cost = 18446744073709551615
          · exact .inl hc2
          · right
            have hadd : cadd (get2 t i j) s.cost = get2 t i j + s.cost := by unfold cadd at hc2 ⊢; split <;> simp_all
            rw [hadd]
            rcases h.way i j hi hj with h1 | h1
            · exfalso; rw [h1] at hadd hc2; unfold cadd U at *; omega
            · exact h1.step hs hi hp
      · exact h.way a b ha hb
    · rw [hp] at hn'
      cases hn'
      rw [hkeep i j (.inr ⟨rfl, rfl⟩), hg, if_pos ⟨rfl, rfl⟩]
      exact Int.min_le_right _ _
/-- What holds when the ways from all places ahead have been told. -/
structure Done (all : List (List Se)) (w : List Int) (t : List (List Int)) (i j : Nat) : Prop where
  good : Good all w t
  edge : ∀ a b, Lex a b i j → a < all.length → b < w.length + 1 → ∀ s ∈ all[a]!, Edge all w t a b s
theorem tblK_done {all : List (List Se)} {w : List Int} {i j : Nat} {t : List (List Int)} (hS : Steps all w) (hi : i < all.length) (hj : j < w.length + 1) (h : Done all w t i j) : ∀ k, k ≤ (all[i]!).length →
    Done all w (tblK all w i j k t) i j ∧ ∀ m, m < k → Edge all w (tblK all w i j k t) i j ((all[i]!)[m]!) := by
  intro k
  induction k with
  | zero => intro _; exact ⟨by simpa [tblK] using h, fun m hm => by omega⟩
  | succ k ih =>
    intro hk
    obtain ⟨h1, h2⟩ := ih (by omega)
    rw [tblK_step (by omega)]
    have hmem : (all[i]!)[k]! ∈ all[i]! := by rw [getElem!_pos (all[i]!) k (by omega)]; exact List.getElem_mem _
    obtain ⟨r1, r2, r3, r4⟩ := relax_good hS hi hj hmem h1.good
    have mono : ∀ a b s, (Lex a b i j ∨ a = i ∧ b = j) → Edge all w (tblK all w i j k t) a b s → Edge all w (relax w i j (tblK all w i j k t) ((all[i]!)[k]!)) a b s := fun a b s hl he n hn => by
      rw [r2 a b hl]
      exact Int.le_trans (r3 _ _) (he n hn)
    refine ⟨⟨r1, fun a b hl ha hb s hs => mono a b s (.inl hl) (h1.edge a b hl ha hb s hs)⟩, fun m hm => ?_⟩
    by_cases e : m = k
    · subst e; exact r4
    · exact mono i j _ (.inr ⟨rfl, rfl⟩) (h2 m (by omega))
theorem tblJ_done {all : List (List Se)} {w : List Int} {i : Nat} {t : List (List Int)} (hS : Steps all w) (hi : i < all.length) (h : Done all w t i 0) : ∀ j, j ≤ w.length + 1 → Done all w (tblJ all w i j t) i j := by
  intro j
  induction j with
  | zero => intro _; simpa [tblJ] using h
  | succ j ih =>
    intro hj
    rw [tblJ_step]
    obtain ⟨h1, h2⟩ := tblK_done hS hi (by omega) (ih (by omega)) (all[i]!).length (Nat.le_refl _)
    refine ⟨h1.good, fun a b hl ha hb s hs => ?_⟩
    by_cases e : a = i ∧ b = j
    · obtain ⟨rfl, rfl⟩ := e
      obtain ⟨m, hm, rfl⟩ := List.mem_iff_getElem.1 hs
      have := h2 m hm
      rwa [getElem!_pos (all[a]!) m hm] at this
    · exact h1.edge a b (by unfold Lex at *; omega) ha hb s hs
theorem get2_tbl0 {n m : Nat} (hn : 0 < n) (hm : 0 < m) (a b : Nat) (ha : a < n) (hb : b < m) : get2 (tbl0 n m) a b = if a = 0 ∧ b = 0 then 0 else 18446744073709551615 := by
  have hs : Shape (List.replicate n (List.replicate m (18446744073709551615 : Int))) n m := ⟨by simp, fun i hi => by simp [List.getElem!_eq_getElem?_getD, List.getElem?_replicate, hi]⟩
  unfold tbl0
  rw [get2_set hs hn hm]
  split
  · rfl
  · simp [get2, List.getElem!_eq_getElem?_getD, List.getElem?_replicate, ha, hb]
theorem tbl0_shape {n m : Nat} (hn : 0 < n) : Shape (tbl0 n m) n m := by
  have hs : Shape (List.replicate n (List.replicate m (18446744073709551615 : Int))) n m := ⟨by simp, fun i hi => by simp [List.getElem!_eq_getElem?_getD, List.getElem?_replicate, hi]⟩
  exact hs.set hn
theorem tblI_done {all : List (List Se)} {w : List Int} (hS : Steps all w) (hn : 0 < all.length) : ∀ i, i ≤ all.length → Done all w (tblI all w i) i 0 := by
  intro i
  induction i with
  | zero =>
    intro _
    have hg := get2_tbl0 (n := all.length) (m := w.length + 1) hn (by omega)
    refine ⟨⟨by simpa [tblI] using tbl0_shape hn, ?_, fun a b ha hb => ?_, fun a b ha hb => ?_⟩, fun a b hl => by unfold Lex at hl; omega⟩
    · simp only [tblI, List.range_zero, List.foldl_nil]
      rw [hg 0 0 hn (by omega), if_pos ⟨rfl, rfl⟩]
      decide
    · simp only [tblI, List.range_zero, List.foldl_nil]
      rw [hg a b ha hb]
      split <;> exact ⟨by decide, by decide⟩
    · simp only [tblI, List.range_zero, List.foldl_nil]
      rw [hg a b ha hb]
      split
      · rename_i e; obtain ⟨rfl, rfl⟩ := e; exact .inr .zero
      · exact .inl rfl
  | succ i ih =>
    intro hi
    rw [tblI_step]
    have h := tblJ_done hS (by omega) (ih (by omega)) (w.length + 1) (Nat.le_refl _)
    exact ⟨h.good, fun a b hl ha hb s hs => h.edge a b (by unfold Lex at *; omega) ha hb s hs⟩
theorem tbl_good {all : List (List Se)} {w : List Int} (hS : Steps all w) (hn : 0 < all.length) : Good all w (tbl all w) := (tblI_done hS hn _ (Nat.le_refl _)).good
theorem way_le {all : List (List Se)} {w : List Int} (hS : Steps all w) {i j : Nat} {v : Int} (h : Way all w i j v) : i < all.length ∨ i = 0 := by
  induction h with
  | zero => exact .inr rfl
  | step h hs hi hn ih => exact .inl (hS _ hi _ hs).2.1
theorem way_j {all : List (List Se)} {w : List Int} {i j : Nat} {v : Int} (h : Way all w i j v) : j ≤ w.length := by
  induction h with
  | zero => exact Nat.zero_le _
  | step h hs hi hn ih => exact putsN_le ih hn
/-- No way costs less than what the table tells. -/
theorem tbl_le {all : List (List Se)} {w : List Int} (hS : Steps all w) (hn : 0 < all.length) {i j : Nat} {v : Int} (h : Way all w i j v) : get2 (tbl all w) i j ≤ v := by
  have hd := tblI_done hS hn _ (Nat.le_refl _)
  induction h with
  | zero => exact hd.good.zero
  | step h hs hi hp ih =>
    rename_i i j n v s
    have hj := way_j h
    have he := hd.edge i j (by unfold Lex; omega) hi (by omega) s hs n hp
    have hu := hd.good.u i j hi (by omega)
    have hc := (hS i hi s hs).2.2.1
    refine Int.le_trans he ?_
    change get2 (tbl all w) i j ≤ v at ih
    change cadd (get2 (tbl all w) i j) s.cost ≤ _
    unfold cadd
    split <;> omega
/-- The table tells what a way costs, or that there is none that costs less than Inf. -/
theorem tbl_eq {all : List (List Se)} {w : List Int} (hS : Steps all w) (hn : 0 < all.length) {i j : Nat} (hi : i < all.length) (hj : j ≤ w.length) {x : Int} (hx : x ≤ 18446744073709551615) (h1 : ∀ v, Way all w i j v → x ≤ v) (h2 : x = 18446744073709551615 ∨ Way all w i j x) :
    get2 (tbl all w) i j = x := by
  have hg := tbl_good hS hn
  have hu := hg.u i j hi (by omega)
  rcases hg.way i j hi (by omega) with h | h
  · rcases h2 with h2 | h2
    · rw [h, h2]
    · have := tbl_le hS hn h2
      unfold U at hu
      omega
  · have h3 := h1 _ h
    rcases h2 with h2 | h2
    · unfold U at hu; omega
    · have := tbl_le hS hn h2
      omega
end Go.Eng.Tryz
set_option linter.unusedVariables false
set_option linter.unusedSimpArgs false
namespace Go.Eng.Tryz
open Go Go.Eng Go.Proofs Go.RowKit
attribute [local go_sem] evFold rnE ksE roundE frz frzs List.set_cons_zero List.set_cons_succ List.zip_cons_cons List.zip_nil_right List.foldl_cons List.foldl_nil D.flat rns AV.rn HO.rn AV.ks kss HO.ks sg dedup objKs reach passE fresh List.filter fnOf evOp opnd lk v2d v2ds just evBin intBin nilBin isNil strBin evUn evLoad ldD ldA evStore evField evIndex evBuild fillA evBuildSlice evBuildSliceX evBuildSliceT isOwn1 evAppendTX evAppendTT evAppend evAppendClip elems evMake evSlice evSliceO evSliceX evSliceY evViewV evStoreX evStoreT stT stI evCopyT evAppendT evAppendTD ldT ldI Tb.inn Tb.ilen Tb.nilAt Tb.ini D.put evCut evView evCopy evAppendV evAgg evMakeMap evLookup evMapUpd evRange evEntry cellsD AV.kb splice List.getLast?_append resM resAs resA resD keepL List.replicate_zero List.take_length ofInt evLen evMin evMax evConv evNil evExtract evBuiltin toD toDs allD pack splice D.comps AV.comps AV.sto D.cell D.rebuild inOrder allFlat del put setE eff gd gslot kills Option.map_some Option.map_none Option.bind_some Option.isSome_some List.map_cons List.map_nil List.append_nil List.nil_append List.cons_append List.length_cons List.length_nil List.length_map List.length_append List.take_zero List.take_succ_cons List.take_nil List.drop_zero List.drop_succ_cons List.drop_nil List.getElem?_cons_zero List.getElem?_cons_succ List.getElem?_map List.all_cons List.all_nil List.mem_cons List.not_mem_nil List.elem_cons List.elem_nil Bool.and_true Bool.true_and Bool.and_self Bool.not_true Bool.not_false Bool.or_true Bool.or_false and_self and_true true_and or_false false_or or_true true_or not_false_eq_true not_true_eq_false if_true if_false decide_true decide_false decide_eq_true_eq Int.toNat_natCast Int.toNat_zero beq_self_eq_true bne_self_eq_false Bool.false_eq_true Nat.add_zero Nat.zero_add tys room le_i lt_i eq_n le_n lt_n len0 gdE bb_tf bb_ft mapP arrL if_min tdiv_nn tmod_nn us_len us_get wrap_i64 wrap_u64 dec_lt dec_nlt dec_le dec_nle beq_t beq_f bne_t bne_f get_lt gt_iff_lt ge_iff_le
attribute [local go_sem ↓] map_P reduceIte
attribute [local go_sem] reduceCtorEq Nat.reduceEqDiff Nat.reduceAdd Nat.reduceSub Nat.reduceMul Nat.reduceLeDiff Nat.reduceLT Nat.reduceBEq Nat.reduceBNe Int.reduceToNat Int.reduceLT Int.reduceLE Int.reduceEq Int.reduceAdd Int.reduceSub Int.reduceNeg Int.reduceBEq Int.reduceBNe
theorem norm_ab : norm [⟨[102], [112, 104], 3⟩, ⟨[102], [112, 104], 2⟩, ⟨[], [], 0⟩] = [⟨[102], [112, 104], 2⟩] := by decide
theorem wkR {c : Int} : Wk (.agg [.nils, .nils, .int .u64 c]) (ru ⟨[], [], c⟩) := .agg (.cons (.nil _) (.cons (.nil _) (.cons (.refl _) .nil)))
end Go.Eng.Tryz

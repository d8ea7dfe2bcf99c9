/- The library's Repeat at one cost. (and what stands behind it: texts laid together) -/
import Derived.Test.YtbnhblimckdcgaaMG4
import Derived.Test.YtbnhblimckdcgaaMR6
set_option linter.unusedVariables false
set_option linter.unusedSimpArgs false
namespace Go.Eng.Try
open Go Go.Eng Go.Proofs Go.RowKit
attribute [local go_sem] tys
set_option maxRecDepth 10000 in
theorem mul64 {a b : Int} (ha : U a) (hb : U b) : Sound Try.prog 101 [.int .u64 a, .int .u64 b] (.tup [.int .u64 (a * b / 18446744073709551616), .int .u64 (a * b % 18446744073709551616)]) := by
  unfold U at ha hb
  have bd : ∀ x y : Int, 0 ≤ x → 0 ≤ y → x ≤ 4294967295 → y ≤ 4294967295 → 0 ≤ x * y ∧ x * y ≤ 18446744065119617025 := fun x y h1 h2 h3 h4 =>
    ⟨Int.mul_nonneg h1 h2, Int.le_trans (Int.mul_le_mul h3 h4 h2 (by decide)) (by decide)⟩
  have b00 := bd (a % 4294967296) (b % 4294967296) (by omega) (by omega) (by omega) (by omega)
  have b01 := bd (a % 4294967296) (b / 4294967296) (by omega) (by omega) (by omega) (by omega)
  have b10 := bd (a / 4294967296) (b % 4294967296) (by omega) (by omega) (by omega) (by omega)
  have b11 := bd (a / 4294967296) (b / 4294967296) (by omega) (by omega) (by omega) (by omega)
  have hab : a * b = a / 4294967296 * (b / 4294967296) * 18446744073709551616 + (a / 4294967296 * (b % 4294967296) + a % 4294967296 * (b / 4294967296)) * 4294967296 + a % 4294967296 * (b % 4294967296) := by
    have h1 : a = a / 4294967296 * 4294967296 + a % 4294967296 := by omega
    have h2 : b = b / 4294967296 * 4294967296 + b % 4294967296 := by omega
    generalize a / 4294967296 = x1 at *
    generalize a % 4294967296 = x0 at *
    generalize b / 4294967296 = y1 at *
    generalize b % 4294967296 = y0 at *
    subst h1; subst h2
    grind
  refine Sound.run (N := 51) Try.func101 rfl (by kernel_rfl) rfl rfl rfl (by first | exact args0_0 | exact args0_1 | exact args0_2 | exact args0_3 | exact args0_4 | exact args0_5 | exact args0_6) fun X_ w_ => ?_
  repeat (first | with_reducible exact Ev.nil | with_reducible exact gd_n | ((with_reducible apply lk_ok); rfl) | ((with_reducible apply gslot_ok); rfl) | ((with_reducible apply v2d_ok); rfl) | with_reducible apply then_n | with_reducible apply WP_seq | with_reducible apply WP_skip | ((with_reducible apply WP_r (N := 51) rfl rfl); (focus simp only [Nat.reduceAdd] <;> rfl)) | ((with_reducible apply WP_d (N := 51) mixed rfl rfl); (focus simp only [Nat.reduceAdd] <;> rfl)) | ((with_reducible apply Ev_s); (focus first | (apply gd_u; (focus rfl); rfl) | (apply gd_f; (focus rfl); (focus rfl); rfl))) | ((with_reducible apply Ev_sn); (focus first | (apply gd_u; (focus rfl); rfl) | (apply gd_f; (focus rfl); (focus rfl); rfl))) | with_reducible apply gd_t | with_reducible apply Ev_mv | with_reducible apply Ev_as | with_reducible apply Ev_mc | with_reducible apply Ev_ac | ((first | (with_reducible apply Ev_pt) | (with_reducible apply Ev_ptc)); (focus rfl)) | ((first | (with_reducible apply Ev_pf) | (with_reducible apply Ev_pfc)); (focus rfl)) | ((with_reducible apply Ev_d); (focus simp only [Nat.reduceAdd] <;> rfl); (focus simp (disch := omega) only [go_sem, ↓and_mask, ↓shr_32] <;> rfl)) | ((first | (with_reducible apply Ev_od) | (with_reducible apply Ev_on)); (focus simp only [Nat.reduceAdd] <;> rfl); (focus simp (disch := omega) only [go_sem, ↓and_mask, ↓shr_32] <;> rfl); (focus first | (simp (disch := omega) only [go_sem, ↓and_mask, ↓shr_32] <;> rfl) | rfl)) | with_reducible apply endM_n | with_reducible apply endM_r | with_reducible apply then_r | with_reducible apply then_x | with_reducible apply block_n | with_reducible apply block_r | with_reducible apply block_x | with_reducible apply block_y rfl | with_reducible apply scope_n | with_reducible apply scope_r | with_reducible apply scope_x | with_reducible apply end_n | with_reducible apply end_r | with_reducible apply WP_block | with_reducible apply WP_exit | with_reducible apply WP_ret | with_reducible apply WP_label | with_reducible apply WP_scope | ((with_reducible apply WP_t); (focus first | (simp (disch := omega) only [go_sem, ↓and_mask, ↓shr_32] <;> rfl) | rfl)) | ((with_reducible apply WP_f); (focus first | (simp (disch := omega) only [go_sem, ↓and_mask, ↓shr_32] <;> rfl) | rfl)) | ((with_reducible apply resD_t); (focus rfl)) | ((with_reducible apply resD_2); (focus rfl); (focus rfl)) | (with_reducible rfl) | ((with_reducible show List.map outKeys _ = _); simp only [List.map_cons, List.map_nil, outKeys, keys]; rfl) | ((with_reducible show orderOk _ _ = true); kernel_rfl) | ((with_reducible show _ = _); simp (disch := omega) only [go_sem, ↓and_mask, ↓shr_32] <;> rfl) | ((fail_if_success (with_reducible show Ev _ _ _ _ (_ :: _) _ _ _ _ _)); (show Ev _ _ _ _ (_ :: _) _ _ _ _ _)) | fail)
  simp (disch := omega) only [go_sem, wrap_u64m]
  exact ends2 (by omega) (by omega)
theorem mul1 {n : Int} (hn : U n) : Sound Try.prog 82 [.int .u64 1, .int .u64 n] (.tup [.int .u64 0, .int .u64 n]) := by
  have c := mul64 (a := 1) (b := n) ⟨by decide, by decide⟩ hn
  unfold U at hn
  have e1 : 1 * n / 18446744073709551616 = 0 := by omega
  have e2 : 1 * n % 18446744073709551616 = n := by omega
  rw [e1, e2] at c
  refine Sound.run (N := 30) Try.func82 rfl (by kernel_rfl) rfl rfl rfl (by first | exact args0_0 | exact args0_1 | exact args0_2 | exact args0_3 | exact args0_4 | exact args0_5 | exact args0_6) fun X_ w_ => ?_
  have c0_ := c; refine goT ?_; first | exact trivial | skip
/-- The first cells are filled. -/
def rpA (x : Int) (m n : Nat) : List AV := List.replicate m (.d (.int .u64 x)) ++ List.replicate (n - m) (.d (.int .u64 0))
theorem rpA_len {x : Int} {m n : Nat} (h : m ≤ n) : (rpA x m n).length = n := by simp [rpA]; omega
theorem cellsD_rep {x : Int} : ∀ m, cellsD (List.replicate m (.d (.int .u64 x))) = some (us (List.replicate m x))
  | 0 => rfl
  | m + 1 => by rw [List.replicate_succ, List.replicate_succ]; simp only [cellsD, cellsD_rep m]; rfl
theorem rpA_take {x : Int} {m n : Nat} : cellsD (List.take m (rpA x m n)) = some (us (List.replicate m x)) := by
  rw [rpA, List.take_left' (by simp), cellsD_rep]
theorem us_flat {l : List Int} : (us l).all D.flat = true := by simp [us, D.flat]
theorem us_rep {x : Int} {m : Nat} : us (List.replicate m x) = List.replicate m (.int .u64 x) := by simp [us]
theorem rpA_step {x : Int} {m n k : Nat} (h : m ≤ n) (hk : k = min m (n - m)) : splice (rpA x m n) m (List.map AV.d (List.take (n - m) (us (List.replicate m x)))) = rpA x (m + k) n := by
  rw [us_rep, List.take_replicate, List.map_replicate]
  unfold splice rpA
  rw [List.take_left' (by simp), List.length_replicate, List.drop_append]
  simp only [List.length_replicate, List.drop_replicate]
  have e1 : m - (m + min (n - m) m) = 0 := by omega
  have e2 : m + min (n - m) m - m = min (n - m) m := by omega
  have e3 : n - m - min (n - m) m = n - (m + k) := by omega
  rw [e1, e2, e3, List.replicate_zero, List.nil_append, List.replicate_append_replicate]
  congr 2
  omega
theorem rpA_first {x : Int} {n : Nat} (h : 1 ≤ n) : splice (List.replicate n (.d (.int .u64 0))) 0 (List.map AV.d (List.take n [D.int .u64 x])) = rpA x 1 n := by
  have : List.take n [D.int .u64 x] = [D.int .u64 x] := List.take_of_length_le (by simpa using h)
  rw [this]
  unfold splice rpA
  simp [List.drop_replicate]
theorem kbs_all {c : Nat} : ∀ {l : List AV}, (∀ a ∈ l, a.kb c = true) → kbs c l = true
  | [], _ => rfl
  | a :: l, h => by simp only [kbs, h a (by simp), Bool.true_and]; exact kbs_all fun b hb => h b (by simp [hb])
theorem rpA_below {x : Int} {m n : Nat} : heapBelow 500003 [(500002, .var (rpA x m n))] = true := by
  have : kbs 500003 (rpA x m n) = true := kbs_all fun a ha => by
    unfold rpA at ha
    simp only [List.mem_append, List.mem_replicate] at ha
    rcases ha with ⟨_, rfl⟩ | ⟨_, rfl⟩ <;> rfl
  simp [heapBelow, hoBelow, this]
set_option maxHeartbeats 4000000 in
set_option maxRecDepth 10000 in
theorem sRepeat {x : Int} {n : Nat} (hx : U x) (h1 : 1 ≤ n) (h2 : n ≤ 1000) : Sound Try.prog 50 [.sl 1 [.int .u64 x], .int .i64 n] (.sl 1 (us (List.replicate n x))) := by
  have cm := mul1 (n := n) ⟨by omega, by omega⟩
  have ew : IntKind.u64.wrap (n : Int) = n := wrap_u64 (by omega) (by omega)
  have ew2 : IntKind.i64.wrap (n : Int) = n := wrap_i64 (by omega) (by omega)
  have e0 := rpA_first (x := x) h1
  have em : min 1 n = 1 := by omega
  refine Sound.run (N := 48) Try.func50 rfl (by kernel_rfl) rfl rfl rfl (by first | exact args0_0 | exact args0_1 | exact args0_2 | exact args0_3 | exact args0_4 | exact args0_5 | exact args0_6) fun X_ w_ => ?_
  have c0_ := cm; repeat ((fail_if_success (with_reducible show WP _ _ (.region 6 _ _) _ _)); first | with_reducible exact Ev.nil | with_reducible exact gd_n | ((with_reducible apply lk_ok); rfl) | ((with_reducible apply gslot_ok); rfl) | ((with_reducible apply v2d_ok); rfl) | with_reducible apply then_n | with_reducible apply WP_seq | with_reducible apply WP_skip | ((with_reducible apply WP_r (N := 48) rfl rfl); (focus simp only [Nat.reduceAdd] <;> rfl)) | ((with_reducible apply WP_d (N := 48) mixed rfl rfl); (focus simp only [Nat.reduceAdd] <;> rfl)) | ((with_reducible apply Ev_s); (focus first | (apply gd_u; (focus rfl); rfl) | (apply gd_f; (focus rfl); (focus rfl); rfl))) | ((with_reducible apply Ev_sn); (focus first | (apply gd_u; (focus rfl); rfl) | (apply gd_f; (focus rfl); (focus rfl); rfl))) | with_reducible apply gd_t | with_reducible apply Ev_mv | with_reducible apply Ev_as | with_reducible apply Ev_mc | with_reducible apply Ev_ac | ((first | (with_reducible apply Ev_pt) | (with_reducible apply Ev_ptc)); (focus rfl)) | ((first | (with_reducible apply Ev_pf) | (with_reducible apply Ev_pfc)); (focus rfl)) | (apply Ev_cf; (focus simp (disch := omega) only [go_sem, ew, ew2] <;> rfl); (focus first | exact c0_); (focus rfl); (focus first | (simp (disch := omega) only [go_sem, ew, ew2] <;> rfl) | rfl)) | ((with_reducible apply Ev_d); (focus simp only [Nat.reduceAdd] <;> rfl); (focus simp (disch := omega) only [go_sem, ew, ew2] <;> rfl)) | (apply Ev_cv; (focus rfl); (focus simp (disch := omega) only [go_sem, ew, ew2] <;> rfl); (focus first | exact c0_); (iterate 3 (focus first | (simp (disch := omega) only [go_sem, ew, ew2] <;> rfl) | rfl))) | ((first | apply Ev_cmd | apply Ev_cmn); (focus simp only [Nat.reduceAdd] <;> rfl); (focus rfl); (iterate 2 (focus simp (disch := omega) only [go_sem, ew, ew2] <;> rfl)); (first | ((focus first | exact c0_); (iterate 2 (focus first | (simp (disch := omega) only [go_sem, ew, ew2] <;> rfl) | rfl)); (focus rfl); (iterate 3 (focus first | (simp (disch := omega) only [go_sem, ew, ew2] <;> rfl) | rfl))))) | ((first | (with_reducible apply Ev_od) | (with_reducible apply Ev_on)); (focus simp only [Nat.reduceAdd] <;> rfl); (focus simp (disch := omega) only [go_sem, ew, ew2] <;> rfl); (focus first | (simp (disch := omega) only [go_sem, ew, ew2] <;> rfl) | rfl)) | with_reducible apply endM_n | with_reducible apply endM_r | with_reducible apply then_r | with_reducible apply then_x | with_reducible apply block_n | with_reducible apply block_r | with_reducible apply block_x | with_reducible apply block_y rfl | with_reducible apply scope_n | with_reducible apply scope_r | with_reducible apply scope_x | with_reducible apply end_n | with_reducible apply end_r | with_reducible apply WP_block | with_reducible apply WP_exit | with_reducible apply WP_ret | with_reducible apply WP_label | with_reducible apply WP_scope | ((with_reducible apply WP_t); (focus first | (simp (disch := omega) only [go_sem, ew, ew2] <;> rfl) | rfl)) | ((with_reducible apply WP_f); (focus first | (simp (disch := omega) only [go_sem, ew, ew2] <;> rfl) | rfl)) | ((with_reducible apply resD_t); (focus rfl)) | ((with_reducible apply resD_2); (focus rfl); (focus rfl)) | (with_reducible rfl) | ((with_reducible show List.map outKeys _ = _); simp only [List.map_cons, List.map_nil, outKeys, keys]; rfl) | ((with_reducible show orderOk _ _ = true); kernel_rfl) | ((with_reducible show _ = _); simp (disch := omega) only [go_sem, ew, ew2] <;> rfl) | ((fail_if_success (with_reducible show Ev _ _ _ _ (_ :: _) _ _ _ _ _)); (show Ev _ _ _ _ (_ :: _) _ _ _ _ _)) | fail)
  refine WP_bump 500000 (Nat.le_of_ble_eq_true rfl) ?_
  repeat (first | with_reducible exact Ev.nil | with_reducible exact gd_n | ((with_reducible apply lk_ok); rfl) | ((with_reducible apply gslot_ok); rfl) | ((with_reducible apply v2d_ok); rfl) | with_reducible apply then_n | with_reducible apply WP_seq | with_reducible apply WP_skip | ((with_reducible apply WP_r (N := 48) rfl rfl); (focus simp only [Nat.reduceAdd] <;> rfl)) | ((with_reducible apply WP_d (N := 48) mixed rfl rfl); (focus simp only [Nat.reduceAdd] <;> rfl)) | ((with_reducible apply Ev_s); (focus first | (apply gd_u; (focus rfl); rfl) | (apply gd_f; (focus rfl); (focus rfl); rfl))) | ((with_reducible apply Ev_sn); (focus first | (apply gd_u; (focus rfl); rfl) | (apply gd_f; (focus rfl); (focus rfl); rfl))) | with_reducible apply gd_t | with_reducible apply Ev_mv | with_reducible apply Ev_as | with_reducible apply Ev_mc | with_reducible apply Ev_ac | ((first | (with_reducible apply Ev_pt) | (with_reducible apply Ev_ptc)); (focus rfl)) | ((first | (with_reducible apply Ev_pf) | (with_reducible apply Ev_pfc)); (focus rfl)) | ((with_reducible apply Ev_d); (focus simp only [Nat.reduceAdd] <;> rfl); (focus simp (disch := omega) only [go_sem, ew, ew2, D.flat, em, ↓e0, List.length_replicate, Nat.zero_add, Int.cast_ofNat_Int] <;> rfl)) | ((first | (with_reducible apply Ev_od) | (with_reducible apply Ev_on)); (focus simp only [Nat.reduceAdd] <;> rfl); (focus simp (disch := omega) only [go_sem, ew, ew2, D.flat, em, ↓e0, List.length_replicate, Nat.zero_add, Int.cast_ofNat_Int] <;> rfl); (focus first | (simp (disch := omega) only [go_sem, ew, ew2, D.flat, em, ↓e0, List.length_replicate, Nat.zero_add, Int.cast_ofNat_Int] <;> rfl) | rfl)) | with_reducible apply endM_n | with_reducible apply endM_r | with_reducible apply then_r | with_reducible apply then_x | with_reducible apply block_n | with_reducible apply block_r | with_reducible apply block_x | with_reducible apply block_y rfl | with_reducible apply scope_n | with_reducible apply scope_r | with_reducible apply scope_x | with_reducible apply end_n | with_reducible apply end_r | with_reducible apply WP_block | with_reducible apply WP_exit | with_reducible apply WP_ret | with_reducible apply WP_label | with_reducible apply WP_scope | ((with_reducible apply WP_t); (focus first | (simp (disch := omega) only [go_sem, ew, ew2, D.flat, em, ↓e0, List.length_replicate, Nat.zero_add, Int.cast_ofNat_Int] <;> rfl) | rfl)) | ((with_reducible apply WP_f); (focus first | (simp (disch := omega) only [go_sem, ew, ew2, D.flat, em, ↓e0, List.length_replicate, Nat.zero_add, Int.cast_ofNat_Int] <;> rfl) | rfl)) | ((with_reducible apply resD_t); (focus rfl)) | ((with_reducible apply resD_2); (focus rfl); (focus rfl)) | (with_reducible rfl) | ((with_reducible show List.map outKeys _ = _); simp only [List.map_cons, List.map_nil, outKeys, keys]; rfl) | ((with_reducible show orderOk _ _ = true); kernel_rfl) | ((with_reducible show _ = _); simp (disch := omega) only [go_sem, ew, ew2, D.flat, em, ↓e0, List.length_replicate, Nat.zero_add, Int.cast_ofNat_Int] <;> rfl) | ((fail_if_success (with_reducible show Ev _ _ _ _ (_ :: _) _ _ _ _ _)); (show Ev _ _ _ _ (_ :: _) _ _ _ _ _)) | fail)
  refine WP_loopk (fun m : Nat => 1 ≤ m ∧ m ≤ n) (fun m => [(7, .vs 500002 0 n), (8, .d (.int .i64 m))]) (fun m => [(500002, .var (rpA x m n))]) 500003 (fun m => n - m) [7, 8] [500002] 1 ⟨Nat.le_refl _, h1⟩ rfl rfl (Nat.zero_le _) (fun _ _ => rfl) (fun _ _ => rpA_below) fun m hm => ?_
  obtain ⟨hm1, hm2⟩ := hm
  by_cases hm' : m < n
  · obtain ⟨k, hk⟩ : ∃ k, k = min m (n - m) := ⟨_, rfl⟩
    have hst := rpA_step (x := x) hm2 hk
    have hl := rpA_len (x := x) hm2
    have ht := rpA_take (x := x) (m := m) (n := n)
    have hk1 : 1 ≤ k := by omega
    have hk2 : m + k ≤ n := by omega
    repeat (first | with_reducible exact Ev.nil | with_reducible exact gd_n | ((with_reducible apply lk_ok); rfl) | ((with_reducible apply gslot_ok); rfl) | ((with_reducible apply v2d_ok); rfl) | with_reducible apply then_n | with_reducible apply WP_seq | with_reducible apply WP_skip | ((with_reducible apply WP_r (N := 48) rfl rfl); (focus simp only [Nat.reduceAdd] <;> rfl)) | ((with_reducible apply WP_d (N := 48) mixed rfl rfl); (focus simp only [Nat.reduceAdd] <;> rfl)) | ((with_reducible apply Ev_s); (focus first | (apply gd_u; (focus rfl); rfl) | (apply gd_f; (focus rfl); (focus rfl); rfl))) | ((with_reducible apply Ev_sn); (focus first | (apply gd_u; (focus rfl); rfl) | (apply gd_f; (focus rfl); (focus rfl); rfl))) | with_reducible apply gd_t | with_reducible apply Ev_mv | with_reducible apply Ev_as | with_reducible apply Ev_mc | with_reducible apply Ev_ac | ((first | (with_reducible apply Ev_pt) | (with_reducible apply Ev_ptc)); (focus rfl)) | ((first | (with_reducible apply Ev_pf) | (with_reducible apply Ev_pfc)); (focus rfl)) | ((with_reducible apply Ev_d); (focus simp only [Nat.reduceAdd] <;> rfl); (focus simp (disch := omega) only [go_sem, hl, ht, us_flat, Nat.zero_add, Nat.sub_zero, us_len, List.length_replicate, ↓hst, ← hk] <;> rfl)) | ((first | (with_reducible apply Ev_od) | (with_reducible apply Ev_on)); (focus simp only [Nat.reduceAdd] <;> rfl); (focus simp (disch := omega) only [go_sem, hl, ht, us_flat, Nat.zero_add, Nat.sub_zero, us_len, List.length_replicate, ↓hst, ← hk] <;> rfl); (focus first | (simp (disch := omega) only [go_sem, hl, ht, us_flat, Nat.zero_add, Nat.sub_zero, us_len, List.length_replicate, ↓hst, ← hk] <;> rfl) | rfl)) | with_reducible apply endM_n | with_reducible apply endM_r | with_reducible apply then_r | with_reducible apply then_x | with_reducible apply block_n | with_reducible apply block_r | with_reducible apply block_x | with_reducible apply block_y rfl | with_reducible apply scope_n | with_reducible apply scope_r | with_reducible apply scope_x | with_reducible apply end_n | with_reducible apply end_r | with_reducible apply WP_block | with_reducible apply WP_exit | with_reducible apply WP_ret | with_reducible apply WP_label | with_reducible apply WP_scope | ((with_reducible apply WP_t); (focus first | (simp (disch := omega) only [go_sem, hl, ht, us_flat, Nat.zero_add, Nat.sub_zero, us_len, List.length_replicate, ↓hst, ← hk] <;> rfl) | rfl)) | ((with_reducible apply WP_f); (focus first | (simp (disch := omega) only [go_sem, hl, ht, us_flat, Nat.zero_add, Nat.sub_zero, us_len, List.length_replicate, ↓hst, ← hk] <;> rfl) | rfl)) | ((with_reducible apply resD_t); (focus rfl)) | ((with_reducible apply resD_2); (focus rfl); (focus rfl)) | (with_reducible rfl) | ((with_reducible show List.map outKeys _ = _); simp only [List.map_cons, List.map_nil, outKeys, keys]; rfl) | ((with_reducible show orderOk _ _ = true); kernel_rfl) | ((with_reducible show _ = _); simp (disch := omega) only [go_sem, hl, ht, us_flat, Nat.zero_add, Nat.sub_zero, us_len, List.length_replicate, ↓hst, ← hk] <;> rfl) | ((fail_if_success (with_reducible show Ev _ _ _ _ (_ :: _) _ _ _ _ _)); (show Ev _ _ _ _ (_ :: _) _ _ _ _ _)) | fail)
    refine ⟨m + k, ⟨by omega, by omega⟩, ?_, ?_, by omega⟩
    · simp (disch := omega) only [go_sem, keepL, Int.natCast_add, Int.cast_ofNat_Int]
    · simp (disch := omega) only [go_sem, keepL]
  · have hmn : m = n := by omega
    subst hmn
    have ht := rpA_take (x := x) (m := m) (n := m)
    repeat (first | with_reducible exact Ev.nil | with_reducible exact gd_n | ((with_reducible apply lk_ok); rfl) | ((with_reducible apply gslot_ok); rfl) | ((with_reducible apply v2d_ok); rfl) | with_reducible apply then_n | with_reducible apply WP_seq | with_reducible apply WP_skip | ((with_reducible apply WP_r (N := 48) rfl rfl); (focus simp only [Nat.reduceAdd] <;> rfl)) | ((with_reducible apply WP_d (N := 48) mixed rfl rfl); (focus simp only [Nat.reduceAdd] <;> rfl)) | ((with_reducible apply Ev_s); (focus first | (apply gd_u; (focus rfl); rfl) | (apply gd_f; (focus rfl); (focus rfl); rfl))) | ((with_reducible apply Ev_sn); (focus first | (apply gd_u; (focus rfl); rfl) | (apply gd_f; (focus rfl); (focus rfl); rfl))) | with_reducible apply gd_t | with_reducible apply Ev_mv | with_reducible apply Ev_as | with_reducible apply Ev_mc | with_reducible apply Ev_ac | ((first | (with_reducible apply Ev_pt) | (with_reducible apply Ev_ptc)); (focus rfl)) | ((first | (with_reducible apply Ev_pf) | (with_reducible apply Ev_pfc)); (focus rfl)) | ((with_reducible apply Ev_d); (focus simp only [Nat.reduceAdd] <;> rfl); (focus simp (disch := omega) only [go_sem, ht, us_len, List.length_replicate, Nat.zero_add, Nat.sub_zero] <;> rfl)) | ((first | (with_reducible apply Ev_od) | (with_reducible apply Ev_on)); (focus simp only [Nat.reduceAdd] <;> rfl); (focus simp (disch := omega) only [go_sem, ht, us_len, List.length_replicate, Nat.zero_add, Nat.sub_zero] <;> rfl); (focus first | (simp (disch := omega) only [go_sem, ht, us_len, List.length_replicate, Nat.zero_add, Nat.sub_zero] <;> rfl) | rfl)) | with_reducible apply endM_n | with_reducible apply endM_r | with_reducible apply then_r | with_reducible apply then_x | with_reducible apply block_n | with_reducible apply block_r | with_reducible apply block_x | with_reducible apply block_y rfl | with_reducible apply scope_n | with_reducible apply scope_r | with_reducible apply scope_x | with_reducible apply end_n | with_reducible apply end_r | with_reducible apply WP_block | with_reducible apply WP_exit | with_reducible apply WP_ret | with_reducible apply WP_label | with_reducible apply WP_scope | ((with_reducible apply WP_t); (focus first | (simp (disch := omega) only [go_sem, ht, us_len, List.length_replicate, Nat.zero_add, Nat.sub_zero] <;> rfl) | rfl)) | ((with_reducible apply WP_f); (focus first | (simp (disch := omega) only [go_sem, ht, us_len, List.length_replicate, Nat.zero_add, Nat.sub_zero] <;> rfl) | rfl)) | ((with_reducible apply resD_t); (focus rfl)) | ((with_reducible apply resD_2); (focus rfl); (focus rfl)) | (with_reducible rfl) | ((with_reducible show List.map outKeys _ = _); simp only [List.map_cons, List.map_nil, outKeys, keys]; rfl) | ((with_reducible show orderOk _ _ = true); kernel_rfl) | ((with_reducible show _ = _); simp (disch := omega) only [go_sem, ht, us_len, List.length_replicate, Nat.zero_add, Nat.sub_zero] <;> rfl) | ((fail_if_success (with_reducible show Ev _ _ _ _ (_ :: _) _ _ _ _ _)); (show Ev _ _ _ _ (_ :: _) _ _ _ _ _)) | fail)
end Go.Eng.Try
set_option linter.unusedVariables false
set_option linter.unusedSimpArgs false
namespace Go.Eng.Try
open Go Go.Eng Go.Proofs Go.RowKit
attribute [local go_sem] tys
attribute [local go_sem] is_len is_get
structure Ar where
  sign : Int
  to : Int
deriving DecidableEq
instance : Inhabited Ar := ⟨⟨0, 0⟩⟩
structure Sta where
  final : Bool
  arcs : List Ar
deriving DecidableEq
instance : Inhabited Sta := ⟨⟨false, []⟩⟩
def ar (a : Ar) : D := .agg [.int .i64 a.sign, .int .i64 a.to]
def ars (l : List Ar) : List D := l.map ar
def sta (s : Sta) : D := .agg [.bool s.final, .sl 2 (ars s.arcs)]
def stas (l : List Sta) : List D := l.map sta
theorem ars_len {l : List Ar} : (ars l).length = l.length := by simp [ars]
theorem ars_get {l : List Ar} {k : Nat} (h : k < l.length) : (ars l)[k]? = some (.agg [.int .i64 (l[k]!).sign, .int .i64 (l[k]!).to]) := by
  simp [ars, ar, List.getElem?_eq_getElem h, getElem!_pos l k h]
theorem stas_len {l : List Sta} : (stas l).length = l.length := by simp [stas]
theorem stas_get {l : List Sta} {k : Nat} (h : k < l.length) : (stas l)[k]? = some (.agg [.bool (l[k]!).final, .sl 2 (ars (l[k]!).arcs)]) := by
  simp [stas, sta, List.getElem?_eq_getElem h, getElem!_pos l k h]
attribute [local go_sem] ars_len ars_get stas_len stas_get
/-- How much an automaton may be at most, that a call hands in. -/
def StaOk (l : List Sta) : Prop := l.length ≤ 9223372036854775807 ∧ ∀ s ∈ l, s.arcs.length ≤ 9223372036854775807
theorem StaOk.get {l : List Sta} (h : StaOk l) {k : Nat} (hk : k < l.length) : (l[k]!).arcs.length ≤ 9223372036854775807 := by
  rw [getElem!_pos l k hk]; exact h.2 _ (List.getElem_mem hk)
def arcOk (i n last : Int) (a : Ar) : Bool := decide (last < a.sign) && gsign a.sign && decide (i < a.to) && decide (a.to < n)
def arcsOk (i n : Int) : Int → List Ar → Bool
  | _, [] => true
  | last, a :: t => arcOk i n last a && arcsOk i n a.sign t
def lastS : Int → List Ar → Int
  | last, [] => last
  | _, a :: t => lastS a.sign t
/-- What the last sign was when the first arc came that may not be. -/
def stopS (i n : Int) : Int → List Ar → Int
  | last, [] => last
  | last, a :: t => if arcOk i n last a = true then stopS i n a.sign t else a.sign
def idxA (i n : Int) : Int → List Ar → Int
  | _, [] => -1
  | last, a :: t => if arcOk i n last a = true then (if idxA i n a.sign t < 0 then -1 else idxA i n a.sign t + 1) else 0
theorem lastS_snoc (last : Int) (l : List Ar) (a : Ar) : lastS last (l ++ [a]) = a.sign := by
  induction l generalizing last with
  | nil => rfl
  | cons b l ih => exact ih _
theorem arcsOk_app (i n last : Int) (l t : List Ar) : arcsOk i n last (l ++ t) = (arcsOk i n last l && arcsOk i n (lastS last l) t) := by
  induction l generalizing last with
  | nil => simp [arcsOk, lastS]
  | cons b l ih => simp only [List.cons_append, arcsOk, lastS, ih, Bool.and_assoc]
theorem stopS_app {i n last : Int} {l t : List Ar} (h : arcsOk i n last l = true) : stopS i n last (l ++ t) = stopS i n (lastS last l) t := by
  induction l generalizing last with
  | nil => rfl
  | cons b l ih =>
    simp only [arcsOk, Bool.and_eq_true] at h
    simp only [List.cons_append, stopS, h.1, if_true, lastS, ih h.2]
theorem idxA_iff (i n : Int) : ∀ (l : List Ar) (last : Int), decide (0 ≤ idxA i n last l) = !arcsOk i n last l
  | [], _ => rfl
  | a :: t, last => by
    have ih := idxA_iff i n t a.sign
    have e1 : arcsOk i n last (a :: t) = (arcOk i n last a && arcsOk i n a.sign t) := rfl
    by_cases h : arcOk i n last a = true
    · have e : idxA i n last (a :: t) = if idxA i n a.sign t < 0 then -1 else idxA i n a.sign t + 1 := by simp [idxA, h]
      rw [e1, h, Bool.true_and, ← ih]
      generalize idxA i n last (a :: t) = v at e ⊢
      generalize idxA i n a.sign t = u at e ⊢
      subst e
      by_cases h2 : u < 0
      · simp [h2]
      · simp [h2]; omega
    · have e : idxA i n last (a :: t) = 0 := by simp [idxA, h]
      rw [e, e1]
      simp only [Bool.not_eq_true] at h
      rw [h]; rfl
theorem idxA_app {i n last : Int} {l t : List Ar} (h : arcsOk i n last l = true) (h2 : 0 ≤ idxA i n (lastS last l) t) : idxA i n last (l ++ t) = l.length + idxA i n (lastS last l) t := by
  induction l generalizing last with
  | nil => simp [lastS]
  | cons b l ih =>
    simp only [arcsOk, Bool.and_eq_true] at h
    have := ih h.2 h2
    simp only [List.cons_append, idxA, h.1, if_true, lastS]
    rw [this, if_neg (by simp only [lastS] at h2 ⊢; omega)]
    simp only [List.length_cons, lastS]
    omega
theorem idxA_none {i n last : Int} {l : List Ar} (h : arcsOk i n last l = true) : idxA i n last l = -1 := by
  induction l generalizing last with
  | nil => rfl
  | cons b l ih =>
    simp only [arcsOk, Bool.and_eq_true] at h
    simp only [idxA, h.1, if_true, ih h.2]
    decide
theorem stopS_ok {i n last : Int} {l : List Ar} (h : arcsOk i n last l = true) : stopS i n last l = lastS last l := by
  have := stopS_app (t := []) h
  simpa [stopS] using this
theorem atake_snoc {α : Type} [Inhabited α] {l : List α} {k : Nat} (h : k < l.length) : l.take (k + 1) = l.take k ++ [l[k]!] := by
  rw [List.take_add_one, List.getElem?_eq_getElem h, getElem!_pos l k h]; rfl
theorem adrop_at {α : Type} [Inhabited α] {l : List α} {k : Nat} (h : k < l.length) : l.drop k = l[k]! :: l.drop (k + 1) := by
  rw [getElem!_pos l k h]; exact List.drop_eq_getElem_cons h
def statesOk (l : List Sta) (k : Nat) : Bool := (List.range k).all fun i => arcsOk i l.length (-1) (l[i]!).arcs
theorem statesOk_step (l : List Sta) (k : Nat) : statesOk l (k + 1) = (statesOk l k && arcsOk k l.length (-1) (l[k]!).arcs) := by simp [statesOk, List.range_succ]
/-- May an automaton be? -/
def achk (l : List Sta) : Bool := statesOk l l.length && decide (0 < l.length ∧ l.length ≤ 6001)
theorem statesOk_le {l : List Sta} {k : Nat} (h : statesOk l l.length = true) (hk : k < l.length) : arcsOk k l.length (-1) (l[k]!).arcs = true := List.all_eq_true.1 h k (List.mem_range.2 hk)
theorem achk_f {l : List Sta} {k : Nat} (hk : k < l.length) (h : arcsOk k l.length (-1) (l[k]!).arcs = false) : achk l = false := by
  unfold achk
  cases hs : statesOk l l.length
  · rfl
  · rw [statesOk_le hs hk] at h; cases h
set_option maxHeartbeats 4000000 in
set_option maxRecDepth 10000 in
theorem pWrongA {last i : Int} {l : List Sta} {a : Ar} (hl : l.length ≤ 9223372036854775807) : SoundM Try.prog 68 [.d (ar a), .ref 0 0, .ref 1 0, .ref 2 0]
    [(0, .var [.d (.int .i64 last)]), (1, .var [.d (.int .i64 i)]), (2, .var [.d (.sl 2 (stas l))])] (.d (.bool (!arcOk i l.length last a))) [(0, .var [.d (.int .i64 a.sign)]), (1, .var [.d (.int .i64 i)]), (2, .var [.d (.sl 2 (stas l))])] 3 := by
  have cg := utfGood (z := a.sign)
  unfold ar
  by_cases h1 : a.sign ≤ last
  · have e : arcOk i l.length last a = false := by unfold arcOk; rw [decide_eq_false (by omega)]; rfl
    rw [e]
    refine SoundM.run (N := 33) (ks := [0, 1, 2]) Try.func68 rfl (by kernel_rfl) rfl rfl rfl (by first | exact argsA_0 | exact argsA_1 | exact argsA_2 | exact argsA_3 | exact argsA_4 | exact argsA_5 | exact argsA_6) fun X_ ν_ w_ => ?_
    have c0_ := cg; refine goT ?_; first | exact trivial | skip
  have e1 : arcOk i l.length last a = (gsign a.sign && decide (i < a.to) && decide (a.to < l.length)) := by unfold arcOk; rw [decide_eq_true (by omega)]; rfl
  rw [e1]
  cases h2 : gsign a.sign
  · rw [h2] at cg
    refine SoundM.run (N := 33) (ks := [0, 1, 2]) Try.func68 rfl (by kernel_rfl) rfl rfl rfl (by first | exact argsA_0 | exact argsA_1 | exact argsA_2 | exact argsA_3 | exact argsA_4 | exact argsA_5 | exact argsA_6) fun X_ ν_ w_ => ?_
    have c0_ := cg; refine goX @Bool.false_and ?_; first | exact trivial | skip
  rw [h2] at cg
  by_cases h3 : a.to ≤ i
  · have e : (true && decide (i < a.to) && decide (a.to < l.length)) = false := by rw [decide_eq_false (by omega)]; rfl
    rw [e]
    refine SoundM.run (N := 33) (ks := [0, 1, 2]) Try.func68 rfl (by kernel_rfl) rfl rfl rfl (by first | exact argsA_0 | exact argsA_1 | exact argsA_2 | exact argsA_3 | exact argsA_4 | exact argsA_5 | exact argsA_6) fun X_ ν_ w_ => ?_
    have c0_ := cg; refine goT ?_; first | exact trivial | skip
  by_cases h4 : (l.length : Int) ≤ a.to
  · have e : (true && decide (i < a.to) && decide (a.to < l.length)) = false := by rw [decide_eq_true (by omega), decide_eq_false (by omega)]; rfl
    rw [e]
    refine SoundM.run (N := 33) (ks := [0, 1, 2]) Try.func68 rfl (by kernel_rfl) rfl rfl rfl (by first | exact argsA_0 | exact argsA_1 | exact argsA_2 | exact argsA_3 | exact argsA_4 | exact argsA_5 | exact argsA_6) fun X_ ν_ w_ => ?_
    have c0_ := cg; refine goT ?_; first | exact trivial | skip
  · have e : (true && decide (i < a.to) && decide (a.to < l.length)) = true := by rw [decide_eq_true (by omega), decide_eq_true (by omega)]; rfl
    rw [e]
    refine SoundM.run (N := 33) (ks := [0, 1, 2]) Try.func68 rfl (by kernel_rfl) rfl rfl rfl (by first | exact argsA_0 | exact argsA_1 | exact argsA_2 | exact argsA_3 | exact argsA_4 | exact argsA_5 | exact argsA_6) fun X_ ν_ w_ => ?_
    have c0_ := cg; refine goT ?_; first | exact trivial | skip
/-- What the closure looks at. -/
def Lst (last i : Int) (l : List Sta) : Heap := [(0, .var [.d (.int .i64 last)]), (1, .var [.d (.int .i64 i)]), (2, .var [.d (.sl 2 (stas l))])]
set_option maxHeartbeats 4000000 in
set_option maxRecDepth 10000 in
theorem pIndexA {last i : Int} {l : List Sta} {al : List Ar} (hl : l.length ≤ 9223372036854775807) (ha : al.length ≤ 9223372036854775807) : SoundM Try.prog 88 [.d (.sl 2 (ars al)), .fn 68 [.ref 0 0, .ref 1 0, .ref 2 0]]
    (Lst last i l) (.d (.int .i64 (idxA i l.length last al))) (Lst (stopS i l.length last al) i l) 3 := by
  unfold Lst
  refine SoundM.run (N := 19) (ks := [0, 1, 2]) Try.func88 rfl (by kernel_rfl) rfl rfl rfl (by first | exact argsA_0 | exact argsA_1 | exact argsA_2 | exact argsA_3 | exact argsA_4 | exact argsA_5 | exact argsA_6) fun X_ ν_ w_ => ?_
  refine goT ?_; first | exact trivial | skip
  refine WP_loopk (fun k : Nat => k ≤ al.length ∧ arcsOk i l.length last (al.take k) = true) (fun k => [(0, .d (.sl 2 (ars al))), (1, .fn 68 [.ref 0 0, .ref 1 0, .ref 2 0]), (7, .d (.int .i64 al.length)), (8, .d (.int .i64 k))]) (fun k => [(0, .var [.d (.int .i64 (lastS last (al.take k)))]), (1, .var [.d (.int .i64 i)]), (2, .var [.d (.sl 2 (stas l))])]) 3 (fun k => al.length - k) [0, 1, 7, 8] [0, 1, 2] 0 ⟨Nat.zero_le _, rfl⟩ rfl rfl (Nat.le_of_ble_eq_true rfl) (fun _ _ => rfl) (fun _ _ => rfl) fun k hk => ?_
  obtain ⟨hk1, hk2⟩ := hk
  by_cases hk3 : k < al.length
  · have cw := pWrongA (last := lastS last (al.take k)) (i := i) (a := al[k]!) hl
    have hs := atake_snoc hk3
    have hd := adrop_at hk3
    unfold ar at cw
    cases hb : arcOk i l.length (lastS last (al.take k)) (al[k]!)
    · rw [hb] at cw
      have e1 : idxA i l.length last al = k := by
        have := idxA_app (t := al.drop k) hk2 (by rw [hd]; simp only [idxA, hb]; rw [if_neg (by decide)]; exact Int.le_refl _)
        rw [List.take_append_drop] at this
        rw [this, hd]
        simp only [idxA, hb, List.length_take]
        simp only [Bool.false_eq_true, if_false]
        omega
      have e2 : stopS i l.length last al = (al[k]!).sign := by
        have := stopS_app (t := al.drop k) hk2
        rw [List.take_append_drop] at this
        rw [this, hd]
        simp only [stopS, hb, Bool.false_eq_true, if_false]
      rw [e1, e2]
      have c0_ := cw; refine goT ?_; first | exact trivial | skip
    · rw [hb] at cw
      have e1 := lastS_snoc last (al.take k) (al[k]!)
      have e2 : arcsOk i l.length last (al.take (k + 1)) = true := by rw [hs, arcsOk_app, hk2]; simp only [arcsOk, hb, Bool.and_true]
      have c0_ := cw; refine goT ?_; first | exact trivial | skip
      refine ⟨k + 1, ⟨by omega, e2⟩, ?_, ?_, by omega⟩
      · simp (disch := omega) only [go_sem, keepL, Int.natCast_add, Int.cast_ofNat_Int]
      · rw [hs, e1]
        simp (disch := omega) only [go_sem, keepL]
  · have hkl : k = al.length := by omega
    subst hkl
    rw [List.take_length] at hk2 ⊢
    rw [idxA_none hk2, stopS_ok hk2]
    refine goT ?_; first | exact trivial | skip
set_option maxHeartbeats 4000000 in
set_option maxRecDepth 10000 in
theorem pContA {last i : Int} {l : List Sta} {al : List Ar} (hl : l.length ≤ 9223372036854775807) (ha : al.length ≤ 9223372036854775807) : SoundM Try.prog 70 [.d (.sl 2 (ars al)), .fn 68 [.ref 0 0, .ref 1 0, .ref 2 0]]
    (Lst last i l) (.d (.bool (!arcsOk i l.length last al))) (Lst (stopS i l.length last al) i l) 3 := by
  have ci := pIndexA (last := last) (i := i) hl ha
  have e := idxA_iff i l.length al last
  unfold Lst at ci ⊢
  refine SoundM.run (N := 9) (ks := [0, 1, 2]) Try.func70 rfl (by kernel_rfl) rfl rfl rfl (by first | exact argsA_0 | exact argsA_1 | exact argsA_2 | exact argsA_3 | exact argsA_4 | exact argsA_5 | exact argsA_6) fun X_ ν_ w_ => ?_
  have c0_ := ci; refine goX @e ?_; first | exact trivial | skip
set_option maxHeartbeats 4000000 in
set_option maxRecDepth 10000 in
theorem pCheckA {l : List Sta} (hl : StaOk l) : Sound Try.prog 36 [.sl 2 (stas l)] (.bool (achk l)) := by
  obtain ⟨hlen, hal⟩ := id hl
  refine Sound.run (N := 28) Try.func36 rfl (by kernel_rfl) rfl rfl rfl (by first | exact args0_0 | exact args0_1 | exact args0_2 | exact args0_3 | exact args0_4 | exact args0_5 | exact args0_6) fun X_ w_ => ?_
  refine goT ?_; first | exact trivial | skip
  refine WP_loopk (fun k : Nat => k ≤ l.length ∧ statesOk l k = true) (fun k => [(1, .ref 0 0), (7, .d (.sl 2 (stas l))), (8, .d (.int .i64 l.length)), (9, .d (.int .i64 k))]) (fun k => [(0, .var [.d (.sl 2 (stas l))])]) 1 (fun k => l.length - k) [1, 7, 8, 9] [0] 0 ⟨Nat.zero_le _, rfl⟩ rfl rfl (Nat.zero_le _) (fun _ _ => rfl) (fun _ _ => rfl) fun k hk => ?_
  obtain ⟨hk1, hk2⟩ := hk
  by_cases hk3 : k < l.length
  · have cc := pContA (last := -1) (i := k) (l := l) (al := (l[k]!).arcs) hlen (hl.get hk3)
    unfold Lst at cc
    cases hb : arcsOk k l.length (-1) (l[k]!).arcs
    · have e := achk_f hk3 hb
      rw [hb] at cc
      have c0_ := cc; refine goX @e ?_; first | exact trivial | skip
    · rw [hb] at cc
      have hst := statesOk_step l k
      have c0_ := cc; refine goT ?_; first | exact trivial | skip
      refine ⟨k + 1, ⟨by omega, by rw [hst, hk2, hb]; rfl⟩, ?_, ?_, by omega⟩
      · simp (disch := omega) only [go_sem, keepL, Int.natCast_add, Int.cast_ofNat_Int]
      · simp (disch := omega) only [go_sem, keepL]
  · have hkl : k = l.length := by omega
    subst hkl
    by_cases h0 : 0 < l.length
    · by_cases h1 : l.length ≤ 6001
      · have e : achk l = true := by unfold achk; rw [hk2, decide_eq_true ⟨h0, h1⟩]; rfl
        refine goX @e ?_; first | exact trivial | skip
      · have e : achk l = false := by unfold achk; rw [decide_eq_false (by omega)]; simp
        refine goX @e ?_; first | exact trivial | skip
    · have e : achk l = false := by unfold achk; rw [decide_eq_false (by omega)]; simp
      refine goX @e ?_; first | exact trivial | skip
end Go.Eng.Try

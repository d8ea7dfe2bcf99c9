/- The engine, part 42: the evaluation of code, as one step: the tactics stand here once. (and what stands behind it: texts laid together) -/
import Derived.Test.YtbnhblimckdcgaaMG3
import Derived.ChangeBears
import Derived.DataReads
import Derived.Carry
import Derived.Sort.Grow
import Derived.Sort.Statements
import Derived.SizedLaws
set_option linter.unusedVariables false
set_option linter.unusedSimpArgs false
namespace Go.Eng
open Go.RowKit
/-- What is left to do (or nothing). -/
inductive Any (R : Prop) : Prop where
  | mk : Any R
/-- Code is run till it stands: at a test that is not decided, at a loop, at the end. -/
theorem goT {G R : Prop} (r : R) (h : R → G ∧ Any R := by
  intro r_
  refine ⟨?_, ?_⟩
  · repeat (first
      | with_reducible exact Ev.nil
      | with_reducible exact gd_n
      | ((with_reducible apply lk_ok); rfl)
      | ((with_reducible apply gslot_ok); rfl)
      | ((with_reducible apply v2d_ok); rfl)
      | with_reducible apply then_n
      | with_reducible apply WP_seq
      | with_reducible apply WP_skip
      | ((with_reducible apply WP_r rfl rfl); (focus simp only [Nat.reduceAdd] <;> rfl))
      | ((with_reducible apply WP_d mixed rfl rfl); (focus simp only [Nat.reduceAdd] <;> rfl))
      | ((with_reducible apply Ev_s); (focus first | (apply gd_u; (focus rfl); rfl) | (apply gd_f; (focus rfl); (focus rfl); rfl)))
      | ((with_reducible apply Ev_sn); (focus first | (apply gd_u; (focus rfl); rfl) | (apply gd_f; (focus rfl); (focus rfl); rfl)))
      | with_reducible apply gd_t
      | with_reducible apply Ev_mv
      | with_reducible apply Ev_as
      | with_reducible apply Ev_mc
      | with_reducible apply Ev_ac
      | ((first | (with_reducible apply Ev_pt) | (with_reducible apply Ev_ptc)); (focus rfl))
      | ((first | (with_reducible apply Ev_pf) | (with_reducible apply Ev_pfc)); (focus rfl))
      | (apply Ev_cf; (focus simp (disch := omega) only [go_sem] <;> rfl); (focus first | exact c0_ | exact c1_ | exact c2_ | exact c3_ | exact c4_ | exact c5_ | exact c6_ | exact c7_ | exact c8_ | exact c9_ | exact c10_ | exact c11_); (focus rfl); (focus first | (simp (disch := omega) only [go_sem] <;> rfl) | rfl))
      | ((with_reducible apply Ev_d); (focus simp only [Nat.reduceAdd] <;> rfl); (focus simp (disch := omega) only [go_sem] <;> rfl))
      | ((first | apply Ev_cmdr | apply Ev_cmnr); (focus simp only [Nat.reduceAdd] <;> rfl); (focus rfl); (iterate 2 (focus simp (disch := omega) only [go_sem] <;> rfl)); (first
          | (exact c0_; (iterate 2 (focus first | (simp (disch := omega) only [go_sem] <;> rfl) | rfl)); (focus rfl); (iterate 4 (focus first | (simp (disch := omega) only [go_sem] <;> rfl) | rfl)))
          | (exact c1_; (iterate 2 (focus first | (simp (disch := omega) only [go_sem] <;> rfl) | rfl)); (focus rfl); (iterate 4 (focus first | (simp (disch := omega) only [go_sem] <;> rfl) | rfl)))
          | (exact c2_; (iterate 2 (focus first | (simp (disch := omega) only [go_sem] <;> rfl) | rfl)); (focus rfl); (iterate 4 (focus first | (simp (disch := omega) only [go_sem] <;> rfl) | rfl)))
          | (exact c3_; (iterate 2 (focus first | (simp (disch := omega) only [go_sem] <;> rfl) | rfl)); (focus rfl); (iterate 4 (focus first | (simp (disch := omega) only [go_sem] <;> rfl) | rfl)))
          | (exact c4_; (iterate 2 (focus first | (simp (disch := omega) only [go_sem] <;> rfl) | rfl)); (focus rfl); (iterate 4 (focus first | (simp (disch := omega) only [go_sem] <;> rfl) | rfl)))
          | (exact c5_; (iterate 2 (focus first | (simp (disch := omega) only [go_sem] <;> rfl) | rfl)); (focus rfl); (iterate 4 (focus first | (simp (disch := omega) only [go_sem] <;> rfl) | rfl)))
          | (exact c6_; (iterate 2 (focus first | (simp (disch := omega) only [go_sem] <;> rfl) | rfl)); (focus rfl); (iterate 4 (focus first | (simp (disch := omega) only [go_sem] <;> rfl) | rfl)))
          | (exact c7_; (iterate 2 (focus first | (simp (disch := omega) only [go_sem] <;> rfl) | rfl)); (focus rfl); (iterate 4 (focus first | (simp (disch := omega) only [go_sem] <;> rfl) | rfl)))
          | (exact c8_; (iterate 2 (focus first | (simp (disch := omega) only [go_sem] <;> rfl) | rfl)); (focus rfl); (iterate 4 (focus first | (simp (disch := omega) only [go_sem] <;> rfl) | rfl)))
          | (exact c9_; (iterate 2 (focus first | (simp (disch := omega) only [go_sem] <;> rfl) | rfl)); (focus rfl); (iterate 4 (focus first | (simp (disch := omega) only [go_sem] <;> rfl) | rfl)))
          | (exact c10_; (iterate 2 (focus first | (simp (disch := omega) only [go_sem] <;> rfl) | rfl)); (focus rfl); (iterate 4 (focus first | (simp (disch := omega) only [go_sem] <;> rfl) | rfl)))
          | (exact c11_; (iterate 2 (focus first | (simp (disch := omega) only [go_sem] <;> rfl) | rfl)); (focus rfl); (iterate 4 (focus first | (simp (disch := omega) only [go_sem] <;> rfl) | rfl)))))
      | (apply Ev_cv; (focus rfl); (focus simp (disch := omega) only [go_sem] <;> rfl); (focus first | exact c0_ | exact c1_ | exact c2_ | exact c3_ | exact c4_ | exact c5_ | exact c6_ | exact c7_ | exact c8_ | exact c9_ | exact c10_ | exact c11_); (iterate 3 (focus first | (simp (disch := omega) only [go_sem] <;> rfl) | rfl)))
      | ((first | apply Ev_cmd | apply Ev_cmn); (focus simp only [Nat.reduceAdd] <;> rfl); (focus rfl); (iterate 2 (focus simp (disch := omega) only [go_sem] <;> rfl)); (first
          | (exact c0_; (iterate 2 (focus first | (simp (disch := omega) only [go_sem] <;> rfl) | rfl)); (focus rfl); (iterate 3 (focus first | (simp (disch := omega) only [go_sem] <;> rfl) | rfl)))
          | (exact c1_; (iterate 2 (focus first | (simp (disch := omega) only [go_sem] <;> rfl) | rfl)); (focus rfl); (iterate 3 (focus first | (simp (disch := omega) only [go_sem] <;> rfl) | rfl)))
          | (exact c2_; (iterate 2 (focus first | (simp (disch := omega) only [go_sem] <;> rfl) | rfl)); (focus rfl); (iterate 3 (focus first | (simp (disch := omega) only [go_sem] <;> rfl) | rfl)))
          | (exact c3_; (iterate 2 (focus first | (simp (disch := omega) only [go_sem] <;> rfl) | rfl)); (focus rfl); (iterate 3 (focus first | (simp (disch := omega) only [go_sem] <;> rfl) | rfl)))
          | (exact c4_; (iterate 2 (focus first | (simp (disch := omega) only [go_sem] <;> rfl) | rfl)); (focus rfl); (iterate 3 (focus first | (simp (disch := omega) only [go_sem] <;> rfl) | rfl)))
          | (exact c5_; (iterate 2 (focus first | (simp (disch := omega) only [go_sem] <;> rfl) | rfl)); (focus rfl); (iterate 3 (focus first | (simp (disch := omega) only [go_sem] <;> rfl) | rfl)))
          | (exact c6_; (iterate 2 (focus first | (simp (disch := omega) only [go_sem] <;> rfl) | rfl)); (focus rfl); (iterate 3 (focus first | (simp (disch := omega) only [go_sem] <;> rfl) | rfl)))
          | (exact c7_; (iterate 2 (focus first | (simp (disch := omega) only [go_sem] <;> rfl) | rfl)); (focus rfl); (iterate 3 (focus first | (simp (disch := omega) only [go_sem] <;> rfl) | rfl)))
          | (exact c8_; (iterate 2 (focus first | (simp (disch := omega) only [go_sem] <;> rfl) | rfl)); (focus rfl); (iterate 3 (focus first | (simp (disch := omega) only [go_sem] <;> rfl) | rfl)))
          | (exact c9_; (iterate 2 (focus first | (simp (disch := omega) only [go_sem] <;> rfl) | rfl)); (focus rfl); (iterate 3 (focus first | (simp (disch := omega) only [go_sem] <;> rfl) | rfl)))
          | (exact c10_; (iterate 2 (focus first | (simp (disch := omega) only [go_sem] <;> rfl) | rfl)); (focus rfl); (iterate 3 (focus first | (simp (disch := omega) only [go_sem] <;> rfl) | rfl)))
          | (exact c11_; (iterate 2 (focus first | (simp (disch := omega) only [go_sem] <;> rfl) | rfl)); (focus rfl); (iterate 3 (focus first | (simp (disch := omega) only [go_sem] <;> rfl) | rfl)))))
      | ((first | apply Ev_cyd | apply Ev_cyn); (focus simp only [Nat.reduceAdd] <;> rfl); (focus rfl); (iterate 2 (focus simp (disch := omega) only [go_sem] <;> rfl)); (first
          | (exact c0_; (iterate 2 (focus first | (simp (disch := omega) only [go_sem] <;> rfl) | rfl)); (focus rfl); (iterate 3 (focus first | (simp (disch := omega) only [go_sem] <;> rfl) | rfl)))
          | (exact c1_; (iterate 2 (focus first | (simp (disch := omega) only [go_sem] <;> rfl) | rfl)); (focus rfl); (iterate 3 (focus first | (simp (disch := omega) only [go_sem] <;> rfl) | rfl)))
          | (exact c2_; (iterate 2 (focus first | (simp (disch := omega) only [go_sem] <;> rfl) | rfl)); (focus rfl); (iterate 3 (focus first | (simp (disch := omega) only [go_sem] <;> rfl) | rfl)))
          | (exact c3_; (iterate 2 (focus first | (simp (disch := omega) only [go_sem] <;> rfl) | rfl)); (focus rfl); (iterate 3 (focus first | (simp (disch := omega) only [go_sem] <;> rfl) | rfl)))
          | (exact c4_; (iterate 2 (focus first | (simp (disch := omega) only [go_sem] <;> rfl) | rfl)); (focus rfl); (iterate 3 (focus first | (simp (disch := omega) only [go_sem] <;> rfl) | rfl)))
          | (exact c5_; (iterate 2 (focus first | (simp (disch := omega) only [go_sem] <;> rfl) | rfl)); (focus rfl); (iterate 3 (focus first | (simp (disch := omega) only [go_sem] <;> rfl) | rfl)))
          | (exact c6_; (iterate 2 (focus first | (simp (disch := omega) only [go_sem] <;> rfl) | rfl)); (focus rfl); (iterate 3 (focus first | (simp (disch := omega) only [go_sem] <;> rfl) | rfl)))
          | (exact c7_; (iterate 2 (focus first | (simp (disch := omega) only [go_sem] <;> rfl) | rfl)); (focus rfl); (iterate 3 (focus first | (simp (disch := omega) only [go_sem] <;> rfl) | rfl)))
          | (exact c8_; (iterate 2 (focus first | (simp (disch := omega) only [go_sem] <;> rfl) | rfl)); (focus rfl); (iterate 3 (focus first | (simp (disch := omega) only [go_sem] <;> rfl) | rfl)))
          | (exact c9_; (iterate 2 (focus first | (simp (disch := omega) only [go_sem] <;> rfl) | rfl)); (focus rfl); (iterate 3 (focus first | (simp (disch := omega) only [go_sem] <;> rfl) | rfl)))
          | (exact c10_; (iterate 2 (focus first | (simp (disch := omega) only [go_sem] <;> rfl) | rfl)); (focus rfl); (iterate 3 (focus first | (simp (disch := omega) only [go_sem] <;> rfl) | rfl)))
          | (exact c11_; (iterate 2 (focus first | (simp (disch := omega) only [go_sem] <;> rfl) | rfl)); (focus rfl); (iterate 3 (focus first | (simp (disch := omega) only [go_sem] <;> rfl) | rfl)))))
      | ((first | (with_reducible apply Ev_od) | (with_reducible apply Ev_on)); (focus simp only [Nat.reduceAdd] <;> rfl); (focus simp (disch := omega) only [go_sem] <;> rfl); (focus first | (simp (disch := omega) only [go_sem] <;> rfl) | rfl))
      | with_reducible apply endM_n
      | with_reducible apply endM_r
      | with_reducible apply then_r
      | with_reducible apply then_x
      | with_reducible apply block_n
      | with_reducible apply block_r
      | with_reducible apply block_x
      | with_reducible apply block_y rfl
      | with_reducible apply scope_n
      | with_reducible apply scope_r
      | with_reducible apply scope_x
      | with_reducible apply end_n
      | with_reducible apply end_r
      | ((with_reducible apply round_a); (iterate 2 (focus first | (simp (disch := omega) only [go_sem] <;> rfl) | rfl)))
      | ((first | (with_reducible apply round_n) | (with_reducible apply round_r) | (with_reducible apply round_x)); (iterate 2 (focus first | (simp (disch := omega) only [go_sem] <;> rfl) | rfl)))
      | with_reducible apply WP_block
      | with_reducible apply WP_exit
      | with_reducible apply WP_ret
      | with_reducible apply WP_label
      | with_reducible apply WP_scope
      | ((with_reducible apply WP_t); (focus first | (simp (disch := omega) only [go_sem] <;> rfl) | rfl))
      | ((with_reducible apply WP_f); (focus first | (simp (disch := omega) only [go_sem] <;> rfl) | rfl))
      | ((with_reducible apply resD_t); (focus rfl))
      | ((with_reducible apply resD_2); (focus rfl); (focus rfl))
      | (with_reducible rfl)
      | ((with_reducible show List.map outKeys _ = _); simp only [List.map_cons, List.map_nil, outKeys, keys]; rfl)
      | ((with_reducible show orderOk _ _ = true); kernel_rfl)
      | ((with_reducible show _ = _); simp (disch := omega) only [go_sem] <;> rfl)
      | ((fail_if_success (with_reducible show Ev _ _ _ _ (_ :: _) _ _ _ _ _)); (show Ev _ _ _ _ (_ :: _) _ _ _ _ _))
      | fail)
    first | done | exact r_
  · first | exact (Any.mk : Any True) | exact Any.mk) : G := (h r).1
/-- With facts. -/
theorem goX {A G R : Prop} (x : A) (r : R) (h : A → R → G ∧ Any R := by
  intro x_ r_
  refine ⟨?_, ?_⟩
  · repeat (first
      | with_reducible exact Ev.nil
      | with_reducible exact gd_n
      | ((with_reducible apply lk_ok); rfl)
      | ((with_reducible apply gslot_ok); rfl)
      | ((with_reducible apply v2d_ok); rfl)
      | with_reducible apply then_n
      | with_reducible apply WP_seq
      | with_reducible apply WP_skip
      | ((with_reducible apply WP_r rfl rfl); (focus simp only [Nat.reduceAdd] <;> rfl))
      | ((with_reducible apply WP_d mixed rfl rfl); (focus simp only [Nat.reduceAdd] <;> rfl))
      | ((with_reducible apply Ev_s); (focus first | (apply gd_u; (focus rfl); rfl) | (apply gd_f; (focus rfl); (focus rfl); rfl)))
      | ((with_reducible apply Ev_sn); (focus first | (apply gd_u; (focus rfl); rfl) | (apply gd_f; (focus rfl); (focus rfl); rfl)))
      | with_reducible apply gd_t
      | with_reducible apply Ev_mv
      | with_reducible apply Ev_as
      | with_reducible apply Ev_mc
      | with_reducible apply Ev_ac
      | ((first | (with_reducible apply Ev_pt) | (with_reducible apply Ev_ptc)); (focus rfl))
      | ((first | (with_reducible apply Ev_pf) | (with_reducible apply Ev_pfc)); (focus rfl))
      | (apply Ev_cf; (focus simp (disch := omega) only [go_sem, x_] <;> rfl); (focus first | exact c0_ | exact c1_ | exact c2_ | exact c3_ | exact c4_ | exact c5_ | exact c6_ | exact c7_ | exact c8_ | exact c9_ | exact c10_ | exact c11_); (focus rfl); (focus first | (simp (disch := omega) only [go_sem, x_] <;> rfl) | rfl))
      | ((with_reducible apply Ev_d); (focus simp only [Nat.reduceAdd] <;> rfl); (focus simp (disch := omega) only [go_sem, x_] <;> rfl))
      | ((first | apply Ev_cmdr | apply Ev_cmnr); (focus simp only [Nat.reduceAdd] <;> rfl); (focus rfl); (iterate 2 (focus simp (disch := omega) only [go_sem, x_] <;> rfl)); (first
          | (exact c0_; (iterate 2 (focus first | (simp (disch := omega) only [go_sem, x_] <;> rfl) | rfl)); (focus rfl); (iterate 4 (focus first | (simp (disch := omega) only [go_sem, x_] <;> rfl) | rfl)))
          | (exact c1_; (iterate 2 (focus first | (simp (disch := omega) only [go_sem, x_] <;> rfl) | rfl)); (focus rfl); (iterate 4 (focus first | (simp (disch := omega) only [go_sem, x_] <;> rfl) | rfl)))
          | (exact c2_; (iterate 2 (focus first | (simp (disch := omega) only [go_sem, x_] <;> rfl) | rfl)); (focus rfl); (iterate 4 (focus first | (simp (disch := omega) only [go_sem, x_] <;> rfl) | rfl)))
          | (exact c3_; (iterate 2 (focus first | (simp (disch := omega) only [go_sem, x_] <;> rfl) | rfl)); (focus rfl); (iterate 4 (focus first | (simp (disch := omega) only [go_sem, x_] <;> rfl) | rfl)))
          | (exact c4_; (iterate 2 (focus first | (simp (disch := omega) only [go_sem, x_] <;> rfl) | rfl)); (focus rfl); (iterate 4 (focus first | (simp (disch := omega) only [go_sem, x_] <;> rfl) | rfl)))
          | (exact c5_; (iterate 2 (focus first | (simp (disch := omega) only [go_sem, x_] <;> rfl) | rfl)); (focus rfl); (iterate 4 (focus first | (simp (disch := omega) only [go_sem, x_] <;> rfl) | rfl)))
          | (exact c6_; (iterate 2 (focus first | (simp (disch := omega) only [go_sem, x_] <;> rfl) | rfl)); (focus rfl); (iterate 4 (focus first | (simp (disch := omega) only [go_sem, x_] <;> rfl) | rfl)))
          | (exact c7_; (iterate 2 (focus first | (simp (disch := omega) only [go_sem, x_] <;> rfl) | rfl)); (focus rfl); (iterate 4 (focus first | (simp (disch := omega) only [go_sem, x_] <;> rfl) | rfl)))
          | (exact c8_; (iterate 2 (focus first | (simp (disch := omega) only [go_sem, x_] <;> rfl) | rfl)); (focus rfl); (iterate 4 (focus first | (simp (disch := omega) only [go_sem, x_] <;> rfl) | rfl)))
          | (exact c9_; (iterate 2 (focus first | (simp (disch := omega) only [go_sem, x_] <;> rfl) | rfl)); (focus rfl); (iterate 4 (focus first | (simp (disch := omega) only [go_sem, x_] <;> rfl) | rfl)))
          | (exact c10_; (iterate 2 (focus first | (simp (disch := omega) only [go_sem, x_] <;> rfl) | rfl)); (focus rfl); (iterate 4 (focus first | (simp (disch := omega) only [go_sem, x_] <;> rfl) | rfl)))
          | (exact c11_; (iterate 2 (focus first | (simp (disch := omega) only [go_sem, x_] <;> rfl) | rfl)); (focus rfl); (iterate 4 (focus first | (simp (disch := omega) only [go_sem, x_] <;> rfl) | rfl)))))
      | (apply Ev_cv; (focus rfl); (focus simp (disch := omega) only [go_sem, x_] <;> rfl); (focus first | exact c0_ | exact c1_ | exact c2_ | exact c3_ | exact c4_ | exact c5_ | exact c6_ | exact c7_ | exact c8_ | exact c9_ | exact c10_ | exact c11_); (iterate 3 (focus first | (simp (disch := omega) only [go_sem, x_] <;> rfl) | rfl)))
      | ((first | apply Ev_cmd | apply Ev_cmn); (focus simp only [Nat.reduceAdd] <;> rfl); (focus rfl); (iterate 2 (focus simp (disch := omega) only [go_sem, x_] <;> rfl)); (first
          | (exact c0_; (iterate 2 (focus first | (simp (disch := omega) only [go_sem, x_] <;> rfl) | rfl)); (focus rfl); (iterate 3 (focus first | (simp (disch := omega) only [go_sem, x_] <;> rfl) | rfl)))
          | (exact c1_; (iterate 2 (focus first | (simp (disch := omega) only [go_sem, x_] <;> rfl) | rfl)); (focus rfl); (iterate 3 (focus first | (simp (disch := omega) only [go_sem, x_] <;> rfl) | rfl)))
          | (exact c2_; (iterate 2 (focus first | (simp (disch := omega) only [go_sem, x_] <;> rfl) | rfl)); (focus rfl); (iterate 3 (focus first | (simp (disch := omega) only [go_sem, x_] <;> rfl) | rfl)))
          | (exact c3_; (iterate 2 (focus first | (simp (disch := omega) only [go_sem, x_] <;> rfl) | rfl)); (focus rfl); (iterate 3 (focus first | (simp (disch := omega) only [go_sem, x_] <;> rfl) | rfl)))
          | (exact c4_; (iterate 2 (focus first | (simp (disch := omega) only [go_sem, x_] <;> rfl) | rfl)); (focus rfl); (iterate 3 (focus first | (simp (disch := omega) only [go_sem, x_] <;> rfl) | rfl)))
          | (exact c5_; (iterate 2 (focus first | (simp (disch := omega) only [go_sem, x_] <;> rfl) | rfl)); (focus rfl); (iterate 3 (focus first | (simp (disch := omega) only [go_sem, x_] <;> rfl) | rfl)))
          | (exact c6_; (iterate 2 (focus first | (simp (disch := omega) only [go_sem, x_] <;> rfl) | rfl)); (focus rfl); (iterate 3 (focus first | (simp (disch := omega) only [go_sem, x_] <;> rfl) | rfl)))
          | (exact c7_; (iterate 2 (focus first | (simp (disch := omega) only [go_sem, x_] <;> rfl) | rfl)); (focus rfl); (iterate 3 (focus first | (simp (disch := omega) only [go_sem, x_] <;> rfl) | rfl)))
          | (exact c8_; (iterate 2 (focus first | (simp (disch := omega) only [go_sem, x_] <;> rfl) | rfl)); (focus rfl); (iterate 3 (focus first | (simp (disch := omega) only [go_sem, x_] <;> rfl) | rfl)))
          | (exact c9_; (iterate 2 (focus first | (simp (disch := omega) only [go_sem, x_] <;> rfl) | rfl)); (focus rfl); (iterate 3 (focus first | (simp (disch := omega) only [go_sem, x_] <;> rfl) | rfl)))
          | (exact c10_; (iterate 2 (focus first | (simp (disch := omega) only [go_sem, x_] <;> rfl) | rfl)); (focus rfl); (iterate 3 (focus first | (simp (disch := omega) only [go_sem, x_] <;> rfl) | rfl)))
          | (exact c11_; (iterate 2 (focus first | (simp (disch := omega) only [go_sem, x_] <;> rfl) | rfl)); (focus rfl); (iterate 3 (focus first | (simp (disch := omega) only [go_sem, x_] <;> rfl) | rfl)))))
      | ((first | apply Ev_cyd | apply Ev_cyn); (focus simp only [Nat.reduceAdd] <;> rfl); (focus rfl); (iterate 2 (focus simp (disch := omega) only [go_sem, x_] <;> rfl)); (first
          | (exact c0_; (iterate 2 (focus first | (simp (disch := omega) only [go_sem, x_] <;> rfl) | rfl)); (focus rfl); (iterate 3 (focus first | (simp (disch := omega) only [go_sem, x_] <;> rfl) | rfl)))
          | (exact c1_; (iterate 2 (focus first | (simp (disch := omega) only [go_sem, x_] <;> rfl) | rfl)); (focus rfl); (iterate 3 (focus first | (simp (disch := omega) only [go_sem, x_] <;> rfl) | rfl)))
          | (exact c2_; (iterate 2 (focus first | (simp (disch := omega) only [go_sem, x_] <;> rfl) | rfl)); (focus rfl); (iterate 3 (focus first | (simp (disch := omega) only [go_sem, x_] <;> rfl) | rfl)))
          | (exact c3_; (iterate 2 (focus first | (simp (disch := omega) only [go_sem, x_] <;> rfl) | rfl)); (focus rfl); (iterate 3 (focus first | (simp (disch := omega) only [go_sem, x_] <;> rfl) | rfl)))
          | (exact c4_; (iterate 2 (focus first | (simp (disch := omega) only [go_sem, x_] <;> rfl) | rfl)); (focus rfl); (iterate 3 (focus first | (simp (disch := omega) only [go_sem, x_] <;> rfl) | rfl)))
          | (exact c5_; (iterate 2 (focus first | (simp (disch := omega) only [go_sem, x_] <;> rfl) | rfl)); (focus rfl); (iterate 3 (focus first | (simp (disch := omega) only [go_sem, x_] <;> rfl) | rfl)))
          | (exact c6_; (iterate 2 (focus first | (simp (disch := omega) only [go_sem, x_] <;> rfl) | rfl)); (focus rfl); (iterate 3 (focus first | (simp (disch := omega) only [go_sem, x_] <;> rfl) | rfl)))
          | (exact c7_; (iterate 2 (focus first | (simp (disch := omega) only [go_sem, x_] <;> rfl) | rfl)); (focus rfl); (iterate 3 (focus first | (simp (disch := omega) only [go_sem, x_] <;> rfl) | rfl)))
          | (exact c8_; (iterate 2 (focus first | (simp (disch := omega) only [go_sem, x_] <;> rfl) | rfl)); (focus rfl); (iterate 3 (focus first | (simp (disch := omega) only [go_sem, x_] <;> rfl) | rfl)))
          | (exact c9_; (iterate 2 (focus first | (simp (disch := omega) only [go_sem, x_] <;> rfl) | rfl)); (focus rfl); (iterate 3 (focus first | (simp (disch := omega) only [go_sem, x_] <;> rfl) | rfl)))
          | (exact c10_; (iterate 2 (focus first | (simp (disch := omega) only [go_sem, x_] <;> rfl) | rfl)); (focus rfl); (iterate 3 (focus first | (simp (disch := omega) only [go_sem, x_] <;> rfl) | rfl)))
          | (exact c11_; (iterate 2 (focus first | (simp (disch := omega) only [go_sem, x_] <;> rfl) | rfl)); (focus rfl); (iterate 3 (focus first | (simp (disch := omega) only [go_sem, x_] <;> rfl) | rfl)))))
      | ((first | (with_reducible apply Ev_od) | (with_reducible apply Ev_on)); (focus simp only [Nat.reduceAdd] <;> rfl); (focus simp (disch := omega) only [go_sem, x_] <;> rfl); (focus first | (simp (disch := omega) only [go_sem, x_] <;> rfl) | rfl))
      | with_reducible apply endM_n
      | with_reducible apply endM_r
      | with_reducible apply then_r
      | with_reducible apply then_x
      | with_reducible apply block_n
      | with_reducible apply block_r
      | with_reducible apply block_x
      | with_reducible apply block_y rfl
      | with_reducible apply scope_n
      | with_reducible apply scope_r
      | with_reducible apply scope_x
      | with_reducible apply end_n
      | with_reducible apply end_r
      | ((with_reducible apply round_a); (iterate 2 (focus first | (simp (disch := omega) only [go_sem, x_] <;> rfl) | rfl)))
      | ((first | (with_reducible apply round_n) | (with_reducible apply round_r) | (with_reducible apply round_x)); (iterate 2 (focus first | (simp (disch := omega) only [go_sem, x_] <;> rfl) | rfl)))
      | with_reducible apply WP_block
      | with_reducible apply WP_exit
      | with_reducible apply WP_ret
      | with_reducible apply WP_label
      | with_reducible apply WP_scope
      | ((with_reducible apply WP_t); (focus first | (simp (disch := omega) only [go_sem, x_] <;> rfl) | rfl))
      | ((with_reducible apply WP_f); (focus first | (simp (disch := omega) only [go_sem, x_] <;> rfl) | rfl))
      | ((with_reducible apply resD_t); (focus rfl))
      | ((with_reducible apply resD_2); (focus rfl); (focus rfl))
      | (with_reducible rfl)
      | ((with_reducible show List.map outKeys _ = _); simp only [List.map_cons, List.map_nil, outKeys, keys]; rfl)
      | ((with_reducible show orderOk _ _ = true); kernel_rfl)
      | ((with_reducible show _ = _); simp (disch := omega) only [go_sem, x_] <;> rfl)
      | ((fail_if_success (with_reducible show Ev _ _ _ _ (_ :: _) _ _ _ _ _)); (show Ev _ _ _ _ (_ :: _) _ _ _ _ _))
      | fail)
    first | done | exact r_
  · first | exact (Any.mk : Any True) | exact Any.mk) : G := (h x r).1
end Go.Eng
set_option linter.unusedVariables false
set_option linter.unusedSimpArgs false
namespace Go.Eng
open Go.RowKit
open Go.ChangeMaps (setBlock)

/-! ### What is read alone -/
theorem cellsD_at {l : List AV} {ds : List D} (h : cellsD l = some ds) (i : Nat) (d : D) (hd : ds[i]? = some d) : l[i]? = some (.d d) ∧ d.cell = true := ⟨((cellsD_get h).2 i d hd).2, ((cellsD_get h).2 i d hd).1⟩
mutual
def frz (hp : Heap) : AV → Option AV
  | .ref k off => match lk hp k with
    | some (.var cs) => match cellsD cs with | some ds => some (.dref (ds.drop off)) | none => none
    | _ => none
  | .fn f cs => match frzs hp cs with | some cs' => some (.fn f cs') | none => none
  | .d x => some (.d x)
  | .dref f => some (.dref f)
  | .undef => some .undef
  | .agg _ => none | .tup _ => none | .own .. => none | .clip .. => none | .eref .. => none | .map _ => none | .it _ => none | .vs .. => none | .yld _ => none
  | .tab .. => none | .trow .. => none | .toref .. => none | .tref .. => none
def frzs (hp : Heap) : List AV → Option (List AV)
  | [] => some []
  | a :: l => match frz hp a with
    | some a' => match frzs hp l with | some l' => some (a' :: l') | none => none
    | none => none
end
section
variable {X : Ctx} {hp : Heap} {ν : Nat → Value} {used : Nat → Prop} {w : World}
mutual
theorem RepA.frz (hI : HInv X (lk hp) ν used w) {M' : Nat → Prop} {H' : Nat → Option HO} {ν' : Nat → Value} {used' : Nat → Prop} (hM : ∀ b, M' b → X.M0 b) : ∀ (av av' : AV) (v : Value), RepA w (Mut X.M0 (lk hp) ν) (lk hp) ν used av v → Eng.frz hp av = some av' → RepA w M' H' ν' used' av' v
  | .undef, av', v, h, he => by simp [Eng.frz] at he; subst he; exact .undef v
  | .d x, av', v, h, he => by
    simp [Eng.frz] at he; subst he
    cases h with | d h => exact .d (h.mono (Same.refl _ _) (fun b _ hb => .inl (hM b hb)))
  | .dref f, av', v, h, he => by
    simp [Eng.frz] at he; subst he
    cases h with | dref val hb hM' hc h1 h2 => exact .dref val hb (fun hh => hM' (.inl (hM _ hh))) hc h1 (fun j d hd => (h2 j d hd).mono (Same.refl _ _) (fun b _ hb => .inl (hM b hb)))
  | .fn f cs, av', v, h, he => by
    simp only [Eng.frz] at he
    split at he
    · rename_i cs' hcs
      cases he
      cases h with
      | fn hl h =>
        obtain ⟨l1, l2⟩ := RepA.frzs hI hM cs cs' _ h hcs hl
        exact .fn l1 l2
    · cases he
  | .ref k off, av', v, h, he => by
    simp only [Eng.frz] at he
    split at he
    · rename_i cs hk
      split at he
      · rename_i ds hds
        cases he
        cases h with
        | ref hu h =>
          obtain ⟨cs0, b, e0, hν, rfl⟩ := h _ hk
          cases e0
          obtain ⟨b', cells, e, hν', hg, hsz, hc, hr⟩ := hI.obj _ _ hk
          rw [hν] at hν'
          cases hν'
          have hbk : hasB (ν k) b := by rw [hν]; exact rfl
          have hget : ∀ (j : Nat) d, (ds.drop off)[j]? = some d → ∃ u, cells[off + j]? = some u ∧ RepD w X.M0 d u ∧ d.cell = true := fun j d hd => by
            rw [List.getElem?_drop] at hd
            obtain ⟨h1, h2⟩ := cellsD_at hds _ _ hd
            have hlt : off + j < cells.size := by rw [hsz]; exact (List.getElem?_eq_some_iff.1 h1).1
            refine ⟨cells[off + j], Array.getElem?_eq_getElem hlt, ?_, h2⟩
            have := hr _ _ _ h1 (Array.getElem?_eq_getElem hlt)
            cases this with
            | d h => exact h.mono (Same.refl _ _) (fun b _ hb => .inl hb)
          refine .dref (fun j => (cells[off + j]?).getD Go.undef) (hI.blk _ _ _ hk hbk).2 (fun hh => hI.far _ _ _ hk hbk (hM _ hh)) (fun d hd => ?_) (fun j d hd => ?_) (fun j d hd => ?_)
          · obtain ⟨j, hj⟩ := List.mem_iff_getElem?.1 hd
            obtain ⟨u, _, _, h3⟩ := hget j d hj
            exact h3
          · obtain ⟨u, h1, h2, _⟩ := hget j d hd
            rw [Addr.add_lit]
            simp [World.cell?, hg, h1]
          · obtain ⟨u, h1, h2, _⟩ := hget j d hd
            rw [h1]
            exact h2.mono (Same.refl _ _) (fun b _ hb => hM b hb)
      · cases he
    · cases he
  | .agg _, av', v, h, he => by simp [Eng.frz] at he
  | .tup _, av', v, h, he => by simp [Eng.frz] at he
  | .own _ _, av', v, h, he => by simp [Eng.frz] at he
  | .clip _ _, av', v, h, he => by simp [Eng.frz] at he
  | .eref _ _ _ _ _, av', v, h, he => by simp [Eng.frz] at he
  | .map _, av', v, h, he => by simp [Eng.frz] at he
  | .it _, av', v, h, he => by simp [Eng.frz] at he
  | .vs _ _ _, av', v, h, he => by simp [Eng.frz] at he
  | .yld _, av', v, h, he => by simp [Eng.frz] at he
  | .tab _ _, av', v, h, he => by simp [Eng.frz] at he
  | .trow _ _ _, av', v, h, he => by simp [Eng.frz] at he
  | .toref _ _ _ _ _, av', v, h, he => by simp [Eng.frz] at he
  | .tref _ _ _ _ _ _, av', v, h, he => by simp [Eng.frz] at he
theorem RepA.frzs (hI : HInv X (lk hp) ν used w) {M' : Nat → Prop} {H' : Nat → Option HO} {ν' : Nat → Value} {used' : Nat → Prop} (hM : ∀ b, M' b → X.M0 b) : ∀ (l l' : List AV) (zs : List Value), (∀ (i : Nat) d v, l[i]? = some d → zs[i]? = some v → RepA w (Mut X.M0 (lk hp) ν) (lk hp) ν used d v) → Eng.frzs hp l = some l' → l.length = zs.length →
    l'.length = zs.length ∧ ∀ (i : Nat) d v, l'[i]? = some d → zs[i]? = some v → RepA w M' H' ν' used' d v
  | [], l', zs, h, he, hl => by simp [Eng.frzs] at he; subst he; exact ⟨hl, fun i d v hd => by simp at hd⟩
  | a :: l, l', [], h, he, hl => by simp at hl
  | a :: l, l', u :: zs, h, he, hl => by
    simp only [Eng.frzs] at he
    split at he
    · rename_i a' ha
      split at he
      · rename_i l2 hl2
        cases he
        have h0 := RepA.frz hI (H' := H') (ν' := ν') (used' := used') hM a a' u (h 0 a u rfl rfl) ha
        obtain ⟨g1, g2⟩ := RepA.frzs hI (H' := H') (ν' := ν') (used' := used') hM l l2 zs (fun i d v hd hv => h (i + 1) d v (by simpa using hd) (by simpa using hv)) hl2 (by simpa using hl)
        refine ⟨by simp [g1], fun i d v hd hv => ?_⟩
        cases i with
        | zero => simp at hd hv; subst hd; subst hv; exact h0
        | succ i => exact g2 i d v (by simpa using hd) (by simpa using hv)
      · cases he
    · cases he
end
end
/-- What a function hands back is read alone from now on. -/
theorem SoundM.freeze {P : Program} {g : FuncId} {as : List AV} {hp hp' : Heap} {r r' : AV} {n : Nat} (h : SoundM P g as hp r hp' n) (hf : Eng.frz hp' r = some r') : SoundM P g as hp r' [] n := by
  intro X ν w vs hI hl hv
  obtain ⟨h1, h2⟩ := h X ν w vs hI hl hv
  refine ⟨h1, h2.mono ?_⟩
  rintro e w' ⟨v, ν', c, rfl, i1, x1, hr⟩
  obtain ⟨i2, x2⟩ := i1.sub (H' := lk []) (fun q o h => by simp [lk] at h)
  exact ⟨v, ν', c, rfl, i2, x1.trans x2, RepA.frz i1 (fun b hb => by
    rcases hb with hb | ⟨q, o, hq, _⟩
    · exact hb
    · simp [lk] at hq) r r' v hr hf⟩

/-! ### Nil in a variable -/
theorem setBlock_same {w : World} {b : Nat} {ob : Obj} (h : w.heap[b]? = some ob) : setBlock w b ob = w := by
  have : w.heap.setIfInBounds b ob = w.heap := by
    refine Array.ext_getElem? fun i => ?_
    rw [Array.getElem?_setIfInBounds]
    split
    · rename_i e
      subst e
      rw [h]
      simp [(Array.getElem?_eq_some_iff.1 h).1]
    · rfl
  unfold setBlock
  rw [this]
section
variable {P : Program} {S : Sp} {Q : Exit → St → Prop}
theorem Rel.ownv {E : Env} {hp : Heap} {c : Nat} {a : Act} {w : World} (h : Rel S ⟨E, hp, c⟩ a w) (k i k' e sz : Nat) {cs : List AV} (hl : lk hp k = some (.var cs)) (hi : cs[i]? = some (.d .nils)) (hz : 0 < sz) (hk : c ≤ k') :
    Rel S ⟨E, put (put hp k' (.row e sz [])) k (.var (cs.set i (.own k' 0))), k' + 1⟩ a w := by
  obtain ⟨hle, ν, hI, hx⟩ := h
  simp only at hI hx hle
  have hkc : k < c := hI.heap.usd _ _ hl
  have hne : k ≠ k' := by omega
  have x1 := Ext.fresh (M0 := S.X.M0) (hp := hp) (ν := ν) (used := (· < c)) (w := w) (w' := w) (k := k') (.row e sz []) (.slice none 0 0) (by omega) (Nat.le_refl _) (fun _ _ => rfl) (fun b hb => by simp [hasB, blockOf] at hb) hI.heap.usd
  have i1 := hI.heap.step (k := k') (o := .row e sz []) (v := .slice none 0 0) (Bl.refl _ _) x1 (.inr rfl) (fun b hb => by simp [hasB, blockOf] at hb) (fun q o' b _ hq hb => rfl)
    ⟨[], ⟨by simp, .inl ⟨rfl, rfl⟩⟩, hz, fun x hx => by simp at hx, fun i x j d hx => by simp at hx⟩
  have hu : ∀ q, (q < c ∨ q = k') → q < k' + 1 := fun q hq => by omega
  have i2 := i1.used_mono hu (fun q _ hn => by
    cases ho : lk (put hp k' (.row e sz [])) q with
    | none => rfl
    | some o => exact absurd (i1.usd _ _ ho) hn)
  have x2 : Ext (Mut S.X.M0 (lk (put hp k' (.row e sz []))) (upd ν k' (.slice none 0 0))) (lk (put hp k' (.row e sz []))) (upd ν k' (.slice none 0 0)) (fun q => q < c ∨ q = k') w (Mut S.X.M0 (lk (put hp k' (.row e sz []))) (upd ν k' (.slice none 0 0))) (lk (put hp k' (.row e sz []))) (upd ν k' (.slice none 0 0)) (· < k' + 1) w :=
    ⟨Same.refl _ _, fun _ _ h => h, hu, fun q _ o ho => ⟨o, ho, HO.later.refl _, HO.keeps_of⟩, Same.refl _ _, fun _ _ h => h⟩
  have hl2 : lk (put hp k' (.row e sz [])) k = some (.var cs) := by rw [lk_put_other _ _ _ _ hne]; exact hl
  obtain ⟨b, cells, et, h1, h2, h3, h4, h5⟩ := i2.obj _ _ hl2
  have hbk : hasB (upd ν k' (.slice none 0 0) k) b := by rw [h1]; exact rfl
  obtain ⟨i3, x3⟩ := i2.turn (o' := .var (cs.set i (.own k' 0))) hl2 hbk (w1 := w) (.inl rfl) (.cells cells et (0, 0)) (by simp [HO.later]) (fun M' H' hx' => by
    rw [setBlock_same h2] at hx' ⊢
    refine ⟨b, cells, et, h1, h2, by simp [h3], fun x hx => ?_, fun j av u hj hu => ?_⟩
    · rcases List.mem_or_eq_of_mem_set hx with h | h
      · exact h4 x h
      · subst h; rfl
    · rw [List.getElem?_set] at hj
      split at hj
      · rename_i ej
        subst ej
        split at hj
        · cases hj
          have hr := h5 _ _ _ hi hu
          cases hr with
          | d hr =>
            cases hr
            refine .own (by show k' < k' + 1; omega) rfl ⟨Nat.le_refl _, Nat.zero_le _⟩ (fun _ => ⟨rfl, rfl⟩) fun o ho => ?_
            obtain ⟨o0, ho0, hlt, hst⟩ := hx'.obj k' (by show k' < k' + 1; omega) o ho
            rw [lk_put_same] at ho0
            cases ho0
            cases o with
            | row e' sz' xs' => exact ⟨_, _, _, rfl, Nat.zero_le _, fun _ => by rw [upd_same]⟩
            | var _ => exact hlt.elim
            | map _ _ _ => exact hlt.elim
            | iter _ _ _ => exact hlt.elim
            | loop _ _ _ => exact hlt.elim
            | tab _ _ _ => exact hlt.elim
        · cases hj
      · exact (h5 j av u hj hu).ext hx')
  rw [setBlock_same h2] at i3 x3
  have xa := (x1.trans x2).trans x3
  exact ⟨by show S.R.c ≤ k' + 1; omega, _, ⟨i3, fun m av hm => (hI.env m av hm).ext xa, hI.size, hI.defers.mono xa.same xa.shrink⟩, hx.trans xa⟩
/-- A variable that holds nil holds an own row of no elements. -/
theorem WP_ownv {code : Code} {E : Env} {hp hp' : Heap} {c : Nat} (k i k' e sz : Nat) {cs : List AV} (hl : lk hp k = some (.var cs)) (hi : cs[i]? = some (.d .nils)) (hz : 0 < sz) (hk : c ≤ k') (hh : put (put hp k' (.row e sz [])) k (.var (cs.set i (.own k' 0))) = hp')
    (h : WP P S code ⟨E, hp', k' + 1⟩ Q) : WP P S code ⟨E, hp, c⟩ Q :=
  fun a w hr => h a w (hh ▸ hr.ownv k i k' e sz hl hi hz hk)
end
/-! ### A slice of no elements is nil, or it is not -/
theorem Sound.nil_at {P : Program} {g : FuncId} {ds : List D} {r : D} {sz : Nat} (i : Nat) (hi : ds[i]? = some (.sl sz [])) (h1 : Sound P g (ds.set i .nils) r) (h2 : Sound P g (ds.set i (.emp sz)) r) : Sound P g ds r := by
  intro w M vs hM hl hv
  have hlt := (List.getElem?_eq_some_iff.1 hi).1
  have hvi := List.getElem?_eq_getElem (l := vs) (i := i) (by omega)
  have gen : ∀ d, RepD w M d (vs[i]'(by omega)) → ∀ (j : Nat) d' v, (ds.set i d)[j]? = some d' → vs[j]? = some v → RepD w M d' v := fun d hd j d' v hj hvj => by
    rw [List.getElem?_set] at hj
    split at hj
    · rename_i e
      subst e
      cases hj
      rw [hvi] at hvj
      cases hvj
      exact hd
    · exact hv j d' v hj hvj
  rcases (hv i _ _ hi hvi).nil_emp with h | h
  · exact h1 w M vs hM (by simpa using hl) (gen _ h)
  · exact h2 w M vs hM (by simpa using hl) (gen _ h)
theorem SoundK.nil_at {C : World → List Value → (Ending → World → Prop) → Prop} {as : List AV} {hp hp' : Heap} {r : AV} {n sz : Nat} (i : Nat) (hi : as[i]? = some (.d (.sl sz []))) (h1 : SoundK C (as.set i (.d .nils)) hp r hp' n) (h2 : SoundK C (as.set i (.d (.emp sz))) hp r hp' n) : SoundK C as hp r hp' n := by
  intro X ν w vs hI hl hv
  have hlt := (List.getElem?_eq_some_iff.1 hi).1
  have hvi := List.getElem?_eq_getElem (l := vs) (i := i) (by omega)
  have gen : ∀ d, RepA w (Mut X.M0 (lk hp) ν) (lk hp) ν (· < n) d (vs[i]'(by omega)) → ∀ (j : Nat) d' v, (as.set i d)[j]? = some d' → vs[j]? = some v → RepA w (Mut X.M0 (lk hp) ν) (lk hp) ν (· < n) d' v := fun d hd j d' v hj hvj => by
    rw [List.getElem?_set] at hj
    split at hj
    · rename_i e
      subst e
      cases hj
      rw [hvi] at hvj
      cases hvj
      exact hd
    · exact hv j d' v hj hvj
  have hr := hv i _ _ hi hvi
  cases hr with
  | d hr =>
    rcases hr.nil_emp with h | h
    · exact h1 X ν w vs hI (by simpa using hl) (gen _ (.d h))
    · exact h2 X ν w vs hI (by simpa using hl) (gen _ (.d h))
/-- What is handed in may say less. -/
theorem SoundK.wk {C : World → List Value → (Ending → World → Prop) → Prop} {as as' : List AV} {hp hp' : Heap} {r : AV} {n : Nat} (h : SoundK C as' hp r hp' n) (hl : as.length = as'.length)
    (hw : ∀ (i : Nat) a a', as[i]? = some a → as'[i]? = some a' → a = a' ∨ ∃ d d', a = .d d ∧ a' = .d d' ∧ Wk d d') : SoundK C as hp r hp' n := by
  intro X ν w vs hI hlen hv
  refine h X ν w vs hI (by omega) fun i a' v ha' hvi => ?_
  have hlt := (List.getElem?_eq_some_iff.1 ha').1
  have ha := List.getElem?_eq_getElem (l := as) (i := i) (by omega)
  have hr := hv i _ v ha hvi
  rcases hw i _ a' ha ha' with e | ⟨d, d', e1, e2, hw⟩
  · rw [← e]; exact hr
  · subst e2
    rw [e1] at hr
    cases hr with
    | d hr => exact .d (hr.wk hw)
/-- An own row in a slot is data from now on (what is left is said). -/
theorem WP_datd {P : Program} {S : Sp} {Q : Exit → St → Prop} {code : Code} {E : Env} {hp hp' : Heap} {c : Nat} (n : Nat) {av : AV} {d : D} {ks : List Nat} (hl : lk E n = some av) (hd : toD (lk hp) av = some (d, ks)) (hh : dels hp ks = hp') (h : WP P S code ⟨(n, .d d) :: E, hp', c⟩ Q) : WP P S code ⟨E, hp, c⟩ Q :=
  WP_dat n hl hd (hh ▸ h)
end Go.Eng
namespace Go.Eng
theorem lk_ok {α : Type} {E : List (Nat × α)} {n : Nat} {v : Option α} (h : lk E n = v) : lk E n = v := h
theorem gslot_ok {ops : Array Oper} {j : Nat} {v : Option Nat} (h : gslot ops j = v) : gslot ops j = v := h
theorem v2d_ok {x : Value} {v : Option D} (h : v2d x = v) : v2d x = v := h
theorem args0_5 {a b c d e : D} : args0 [a, b, c, d, e] = [(0, .d a), (1, .d b), (2, .d c), (3, .d d), (4, .d e)] := rfl
theorem args0_6 {a b c d e f : D} : args0 [a, b, c, d, e, f] = [(0, .d a), (1, .d b), (2, .d c), (3, .d d), (4, .d e), (5, .d f)] := rfl
theorem argsA_5 {a b c d e : AV} : argsA [a, b, c, d, e] = [(0, a), (1, b), (2, c), (3, d), (4, e)] := rfl
theorem argsA_6 {a b c d e f : AV} : argsA [a, b, c, d, e, f] = [(0, a), (1, b), (2, c), (3, d), (4, e), (5, f)] := rfl
end Go.Eng
set_option linter.unusedVariables false
set_option linter.unusedSimpArgs false
namespace Go.Eng
open Go.ChangeShapes Go.WideShapes Go.ChangeAt Go.RowKit

/-- Cells that are laid one type behind the other. -/
def Tiles (p : TypeId → List D → Prop) : List TypeId → List D → Prop
  | [], ds => ds = []
  | t :: ts, ds => ∃ a b, ds = a ++ b ∧ p t a ∧ Tiles p ts b
/-- A type's cells, as one piece of data. -/
def dOf (P : Program) (t : TypeId) (ds : List D) : D :=
  match P.underlying t with
  | some (.struct _) | some (.array _ _) => .agg ds
  | _ => ds.headD .nils
/-- Cells that are of a type. -/
def TyC (P : Program) : Nat → TypeId → List D → Prop
  | 0, _, _ => False
  | f + 1, t, ds => match P.underlying t with
    | some .bool => ∃ b, ds = [.bool b]
    | some (.int k) => ∃ n, ds = [.int k n] ∧ (Lit.int k n).wf = true
    | some .string => ∃ s, ds = [.str s] ∧ s.size ≤ maxLen
    | some (.slice e) => ∃ xs : List (List D), ds = [.sl (P.cellsOf e) (xs.map (dOf P e))] ∧ xs.length ≤ maxLen ∧ ∀ x ∈ xs, TyC P f e x
    | some (.struct fs) => Tiles (TyC P f) (fs.toList.map (·.type)) ds
    | some (.array n e) => Tiles (TyC P f) (List.replicate n e) ds
    | _ => False
/-- The types that this covers. -/
def supp (P : Program) : Nat → TypeId → Bool
  | 0, _ => false
  | f + 1, t => match P.underlying t with
    | some .bool => true
    | some (.int _) => true
    | some .string => true
    | some (.slice e) => decide (0 < P.cellsOf e) && supp P f e
    | some (.struct fs) => fs.toList.all fun g => supp P f g.type
    | some (.array n e) => supp P f e
    | _ => false
def RepL (w : World) (ds : List D) (cs : List Value) : Prop := ds.length = cs.length ∧ (∀ d ∈ ds, d.cell = true) ∧ ∀ (i : Nat) d v, ds[i]? = some d → cs[i]? = some v → RepD w (fun _ => False) d v
theorem RepL.nil {w : World} : RepL w [] [] := ⟨rfl, by simp, by simp⟩
theorem RepL.one {w : World} {d : D} {v : Value} (hc : d.cell = true) (h : RepD w (fun _ => False) d v) : RepL w [d] [v] := by
  refine ⟨rfl, by simpa using hc, fun i x u hx hu => ?_⟩
  cases i with
  | zero => simp at hx hu; subst hx; subst hu; exact h
  | succ i => simp at hx
theorem RepL.app {w : World} {ds ds' : List D} {cs cs' : List Value} (h : RepL w ds cs) (h' : RepL w ds' cs') : RepL w (ds ++ ds') (cs ++ cs') := by
  obtain ⟨h1, h2, h3⟩ := h
  obtain ⟨k1, k2, k3⟩ := h'
  refine ⟨by simp [h1, k1], fun d hd => ?_, fun i d v hd hv => ?_⟩
  · rcases List.mem_append.1 hd with hd | hd
    · exact h2 d hd
    · exact k2 d hd
  · by_cases hi : i < ds.length
    · rw [List.getElem?_append_left hi] at hd
      rw [List.getElem?_append_left (by omega)] at hv
      exact h3 i d v hd hv
    · rw [List.getElem?_append_right (by omega)] at hd
      rw [List.getElem?_append_right (by omega)] at hv
      rw [h1] at hd
      exact k3 _ d v hd hv
theorem TyC_comps {P : Program} {w : World} {f : Nat} {t : TypeId} {ds : List D} {cs : List Value} (h : TyC P f t ds) (hr : RepL w ds cs) : (dOf P t ds).comps = ds := by
  cases f with
  | zero => exact h.elim
  | succ f =>
    unfold TyC at h
    unfold dOf
    split at h
    · rename_i e; obtain ⟨b, rfl⟩ := h; simp only [e]; rfl
    · rename_i e; obtain ⟨b, rfl, _⟩ := h; simp only [e]; rfl
    · rename_i e; obtain ⟨b, rfl, _⟩ := h; simp only [e]; rfl
    · rename_i e; obtain ⟨b, rfl, _⟩ := h; simp only [e]; rfl
    · rename_i e; simp only [e]; rfl
    · rename_i e; simp only [e]; rfl
    · exact h.elim
theorem tiles_open {H : Type} {P : Program} {W : World} {p : TypeId → List D → Prop} (g : TypeId → List Value → Option (DataW H × List MemPlace)) : ∀ (ts : List TypeId) (cs : List Value), cs.length = (ts.map P.cellsOf).sum →
    (∀ (i : Nat) t, ts[i]? = some t → ∃ x, g t ((cs.drop ((ts.take i).map P.cellsOf).sum).take (P.cellsOf t)) = some x) →
    (∀ t ∈ ts, ∀ cs' x, g t cs' = some x → ∃ ds, p t ds ∧ RepL W ds cs') → ∃ ds, Tiles p ts ds ∧ RepL W ds cs
  | [], cs, hl, _, _ => by
    have : cs = [] := List.eq_nil_of_length_eq_zero (by simpa using hl)
    subst this
    exact ⟨[], rfl, RepL.nil⟩
  | t :: ts, cs, hl, h1, h2 => by
    simp only [List.map_cons, List.sum_cons] at hl
    obtain ⟨x, hx⟩ := h1 0 t rfl
    simp only [List.take_zero, List.map_nil, List.sum_nil, List.drop_zero] at hx
    obtain ⟨a, ha, ra⟩ := h2 t (by simp) _ _ hx
    obtain ⟨b, hb, rb⟩ := tiles_open (P := P) (W := W) (p := p) g ts (cs.drop (P.cellsOf t)) (by simp; omega) (fun i u hu => by
      obtain ⟨y, hy⟩ := h1 (i + 1) u (by simpa using hu)
      simp only [List.take_succ_cons, List.map_cons, List.sum_cons] at hy
      exact ⟨y, by rw [List.drop_drop]; exact hy⟩) (fun u hu => h2 u (by simp [hu]))
    refine ⟨a ++ b, ⟨a, b, rfl, ha, hb⟩, ?_⟩
    have := ra.app rb
    rwa [List.take_append_drop] at this
theorem open_cells {H : Type} {enc : TypeId × Value → H} {P : Program} {W : World} {base : Nat} {spare : Nat → Bool} {held : Bool} (hl : laidOutB P = true) : ∀ (f : Nat) (t : TypeId), supp P f t = true → t < P.types.size → ∀ (n : Nat) (cs : List Value) (x : DataW H × List MemPlace),
    DataW.trod enc P W base spare held n t cs = some x → ∃ ds, TyC P f t ds ∧ RepL W ds cs
  | 0, t, hs, _, _, _, _, _ => by simp [supp] at hs
  | f + 1, t, hs, ht, 0, cs, x, h => by simp [DataW.trod] at h
  | f + 1, t, hs, ht, n + 1, cs, x, h => by
    have hx0 := h
    rw [DataW.trod_step] at h
    unfold DataW.trodStep at h
    simp only [supp] at hs
    simp only [TyC]
    cases hu : P.underlying t with
    | none => simp [hu] at hs
    | some u =>
    rw [hu] at h hs
    cases u with
    | bool =>
      rcases cs with _ | ⟨v, _ | ⟨v', cs'⟩⟩
      · simp at h
      · cases v <;> simp at h
        exact ⟨_, ⟨_, rfl⟩, RepL.one rfl (.bool _)⟩
      · simp at h
    | int k =>
      rcases cs with _ | ⟨v, _ | ⟨v', cs'⟩⟩
      · simp at h
      · cases v <;> simp at h
        obtain ⟨⟨rfl, hw⟩, -⟩ := h
        exact ⟨_, ⟨_, rfl, hw⟩, RepL.one rfl (.int _ _)⟩
      · simp at h
    | string =>
      rcases cs with _ | ⟨v, _ | ⟨v', cs'⟩⟩
      · simp at h
      · cases v <;> simp at h
        exact ⟨_, ⟨_, rfl, h.1⟩, RepL.one rfl (.str _)⟩
      · simp at h
    | slice e =>
      simp only [Bool.and_eq_true, decide_eq_true_eq] at hs
      have hte := kid_slice hl ht hu
      rcases cs with _ | ⟨v, _ | ⟨v', cs'⟩⟩
      · simp at h
      · cases v <;> try (simp at h; done)
        rename_i a len cap
        cases a with
        | none =>
          have hz : len = 0 ∧ cap = 0 := by cases len <;> cases cap <;> simp at h <;> simp
          obtain ⟨rfl, rfl⟩ := hz
          exact ⟨_, ⟨[], rfl, Nat.zero_le _, by simp⟩, RepL.one rfl .sl0⟩
        | some a =>
          simp only at h
          split at h
          · rename_i hb
            obtain ⟨elems, he, _⟩ := Option.bind_eq_some_iff.1 h
            have hlen : elems.length = len := by simpa using mapM_some_length he
            have hds : ∀ i, ∃ q : List D × List Value, i < len → W.cells? base (a.add (i * P.cellsOf e)) (P.cellsOf e) = some q.2 ∧ TyC P f e q.1 ∧ RepL W q.1 q.2 := fun i => by
              by_cases hi : i < len
              · have := mapM_some_get he i i (by simp [hi])
                rw [List.getElem?_eq_getElem (by omega)] at this
                obtain ⟨cs', h1, h2⟩ := Option.bind_eq_some_iff.1 this
                obtain ⟨ds, h3, h4⟩ := open_cells hl f e hs.2 hte n cs' _ h2
                exact ⟨(ds, cs'), fun _ => ⟨h1, h3, h4⟩⟩
              · exact ⟨([], []), fun h => absurd h hi⟩
            obtain ⟨g, hg⟩ := Classical.axiomOfChoice hds
            have at' : ∀ (i : Nat) x, (((List.range len).map fun i => (g i).1).map (dOf P e))[i]? = some x → i < len ∧ x = dOf P e (g i).1 := fun i x hx => by
              have hi : i < len := by have := (List.getElem?_eq_some_iff.1 hx).1; simpa using this
              simp only [List.getElem?_map, List.getElem?_range hi, Option.map_some, Option.some.injEq] at hx
              exact ⟨hi, hx.symm⟩
            refine ⟨_, ⟨(List.range len).map fun i => (g i).1, rfl, by simp; omega, fun x hx => ?_⟩, RepL.one rfl ?_⟩
            · obtain ⟨i, hi, rfl⟩ := List.mem_map.1 hx
              exact (hg i (by simpa using hi)).2.1
            · have elen : len = (((List.range len).map fun i => (g i).1).map (dOf P e)).length := by simp
              conv => arg 4; rw [elen]
              refine .sl (fun i j => (g i).2.getD j undef) (fun hn => ?_) (fun _ h => h) (by rw [← elen]; exact hb.2.1) hb.2.2 (fun i x hx => ?_) (fun i x j d hx hj => ?_) (fun i x j d hx hj => ?_)
              · have h0 : 0 < len := Nat.pos_of_ne_zero fun e => hn (by subst e; rfl)
                have := World.cells?_block (hg 0 h0).1 hs.1
                rwa [add_block] at this
              · obtain ⟨hi, rfl⟩ := at' i x hx
                obtain ⟨k1, k2, k3⟩ := hg i hi
                obtain ⟨_, k4, _⟩ := World.cells?_some k1
                rw [TyC_comps k2 k3]
                exact ⟨by rw [k3.1, k4], k3.2.1⟩
              · obtain ⟨hi, rfl⟩ := at' i x hx
                obtain ⟨k1, k2, k3⟩ := hg i hi
                obtain ⟨_, k4, k5⟩ := World.cells?_some k1
                rw [TyC_comps k2 k3] at hj
                have hjl : j < (g i).2.length := by have := (List.getElem?_eq_some_iff.1 hj).1; rw [k3.1] at this; exact this
                rw [← add_add', k5 j (by omega), List.getD_eq_getElem?_getD, List.getElem?_eq_getElem hjl]
                rfl
              · obtain ⟨hi, rfl⟩ := at' i x hx
                obtain ⟨k1, k2, k3⟩ := hg i hi
                rw [TyC_comps k2 k3] at hj
                have hjl : j < (g i).2.length := by have := (List.getElem?_eq_some_iff.1 hj).1; rw [k3.1] at this; exact this
                refine k3.2.2 j d _ hj ?_
                rw [List.getD_eq_getElem?_getD, List.getElem?_eq_getElem hjl]
                rfl
          · cases h
      · simp at h
    | struct fs =>
      obtain ⟨hty, hsum, hoff⟩ := kid_struct hl ht hu
      simp only at h
      split at h
      · rename_i hcl
        obtain ⟨xs, hxs, _⟩ := Option.map_eq_some_iff.1 h
        refine tiles_open (P := P) (fun t cs => DataW.trod enc P W base spare held n t cs) _ cs (by rw [hcl, hsum, List.map_map]; rfl) (fun i u hi => ?_) (fun u hu' cs' x hx => ?_)
        · rw [List.getElem?_map] at hi
          obtain ⟨fl, hfl, rfl⟩ := Option.map_eq_some_iff.1 hi
          have := mapM_some_get hxs i fl hfl
          rw [hoff i fl hfl] at this
          have hlt : i < xs.length := by rw [mapM_some_length hxs]; exact (List.getElem?_eq_some_iff.1 hfl).1
          rw [List.getElem?_eq_getElem hlt] at this
          refine ⟨xs[i], ?_⟩
          rw [← List.map_take, List.map_map]
          exact this
        · obtain ⟨fl, hfl, rfl⟩ := List.mem_map.1 hu'
          exact open_cells hl f fl.type (List.all_eq_true.1 hs fl hfl) (hty fl hfl) n cs' x hx
      · cases h
    | array m e =>
      obtain ⟨hte, hce⟩ := kid_array hl ht hu
      simp only at h
      split at h
      · rename_i hcl
        obtain ⟨xs, hxs, _⟩ := Option.map_eq_some_iff.1 h
        refine tiles_open (P := P) (fun t cs => DataW.trod enc P W base spare held n t cs) _ cs (by rw [hcl, hce, List.map_replicate, List.sum_replicate_nat]) (fun i u hi => ?_) (fun u hu' cs' x hx => ?_)
        · rw [List.getElem?_replicate] at hi
          split at hi
          · rename_i hi'
            cases hi
            have := mapM_some_get hxs i i (by simp [hi'])
            have hlt : i < xs.length := by rw [mapM_some_length hxs]; simpa using hi'
            rw [List.getElem?_eq_getElem hlt] at this
            refine ⟨xs[i], ?_⟩
            rw [List.take_replicate, List.map_replicate, List.sum_replicate_nat, Nat.min_eq_left (by omega)]
            exact this
          · cases hi
        · obtain ⟨_, rfl⟩ := List.mem_replicate.1 hu'
          exact open_cells hl f u hs hte n cs' x hx
      · cases h
    | _ => simp at hs
/-- A value of a plain type that a call hands in. -/
theorem open_any {H : Type} {enc : TypeId × Value → H} {P : Program} {W : World} {r : Reach} {b0 base : Nat} {spare : Nat → Bool} {held : Bool} {t : TypeId} {v : Value} {d : DataW H} {ps : List MemPlace} (f : Nat) (hl : laidOutB P = true) (hs : supp P f t = true) (ht : t < P.types.size)
    (hval : Value.okWide P W r b0 t v) (hd : DataW.Trod enc P W base spare held t v d ps) : ∃ ds, TyC P f t ds ∧ RepD W (fun _ => False) (dOf P t ds) v := by
  obtain ⟨fuel, hd⟩ := hd
  obtain ⟨ds, h1, h2⟩ := open_cells hl f t hs ht fuel _ _ hd
  refine ⟨ds, h1, ?_⟩
  cases f with
  | zero => exact h1.elim
  | succ f =>
    unfold TyC at h1
    unfold Value.okWide at hval
    unfold dOf
    have one : ∀ x, ds = [x] → (∀ cs, v ≠ .agg cs) → (∀ cs, v ≠ .tuple cs) → RepD W (fun _ => False) (ds.headD .nils) v := fun x hx hv hv' => by
      subst hx
      have hc : v.cells.toList = [v] := by cases v <;> first | rfl | exact absurd rfl (hv _) | exact absurd rfl (hv' _)
      rw [hc] at h2
      exact h2.2.2 0 x v rfl rfl
    have agg : (∃ cs, v = .agg cs) → RepD W (fun _ => False) (.agg ds) v := fun ⟨cs, hv⟩ => by
      subst hv
      have hc : (Value.agg cs).cells.toList = cs.toList := rfl
      rw [hc] at h2
      have := RepD.agg (w := W) (M := fun _ => False) h2.1 h2.2.1 h2.2.2
      simpa using this
    cases hu : P.underlying t with
    | none => simp [hu] at h1
    | some u =>
    have hv1 := hval
    simp only [hu] at h1 hval ⊢
    cases u with
    | bool =>
      obtain ⟨b, hb⟩ := h1
      obtain ⟨_, rfl⟩ := okWide_bool hu hv1
      exact one _ hb (fun _ h => by cases h) (fun _ h => by cases h)
    | int k =>
      obtain ⟨b, hb, _⟩ := h1
      obtain ⟨_, rfl⟩ := okWide_int hu hv1
      exact one _ hb (fun _ h => by cases h) (fun _ h => by cases h)
    | string =>
      obtain ⟨b, hb, _⟩ := h1
      obtain ⟨_, rfl⟩ := okWide_string hu hv1
      exact one _ hb (fun _ h => by cases h) (fun _ h => by cases h)
    | slice e =>
      obtain ⟨b, hb, _⟩ := h1
      obtain ⟨_, _, _, rfl⟩ := okWide_slice hu hv1
      exact one _ hb (fun _ h => by cases h) (fun _ h => by cases h)
    | struct fs =>
      obtain ⟨cs, hv, _⟩ := hval
      exact agg ⟨cs, hv⟩
    | array m e =>
      obtain ⟨cs, hv, _⟩ := hval
      exact agg ⟨cs, hv⟩
    | _ => exact h1.elim
end Go.Eng
set_option linter.unusedVariables false
set_option linter.unusedSimpArgs false
namespace Go.Eng
section
variable {P : Program} {n : Nat} {t : TypeId} {ds : List D}
theorem ty_int {k : IntKind} (ht : P.underlying t = some (.int k)) (h : TyC P n t ds) : ∃ z, ds = [.int k z] ∧ (Lit.int k z).wf = true := by
  cases n with
  | zero => exact h.elim
  | succ n => unfold TyC at h; rw [ht] at h; exact h
theorem ty_bool (ht : P.underlying t = some .bool) (h : TyC P n t ds) : ∃ b, ds = [.bool b] := by
  cases n with
  | zero => exact h.elim
  | succ n => unfold TyC at h; rw [ht] at h; exact h
theorem ty_str (ht : P.underlying t = some .string) (h : TyC P n t ds) : ∃ s, ds = [.str s] ∧ s.size ≤ maxLen := by
  cases n with
  | zero => exact h.elim
  | succ n => unfold TyC at h; rw [ht] at h; exact h
theorem ty_sl {e : TypeId} (ht : P.underlying t = some (.slice e)) (h : TyC P n t ds) : ∃ (m : Nat) (xs : List (List D)), ds = [.sl (P.cellsOf e) (xs.map (dOf P e))] ∧ xs.length ≤ 9223372036854775807 ∧ ∀ x ∈ xs, TyC P m e x := by
  cases n with
  | zero => exact h.elim
  | succ n => unfold TyC at h; rw [ht] at h; exact ⟨n, h⟩
theorem ty_struct {fs : Array Field} (ht : P.underlying t = some (.struct fs)) (h : TyC P n t ds) : ∃ m, Tiles (TyC P m) (fs.toList.map (·.type)) ds := by
  cases n with
  | zero => exact h.elim
  | succ n => unfold TyC at h; rw [ht] at h; exact ⟨n, h⟩
theorem ty_array {m : Nat} {e : TypeId} (ht : P.underlying t = some (.array m e)) (h : TyC P n t ds) : ∃ k, Tiles (TyC P k) (List.replicate m e) ds := by
  cases n with
  | zero => exact h.elim
  | succ n => unfold TyC at h; rw [ht] at h; exact ⟨n, h⟩
theorem dOf_int {k : IntKind} {x : D} (ht : P.underlying t = some (.int k)) : dOf P t [x] = x := by unfold dOf; rw [ht]; rfl
theorem dOf_bool {x : D} (ht : P.underlying t = some .bool) : dOf P t [x] = x := by unfold dOf; rw [ht]; rfl
theorem dOf_str {x : D} (ht : P.underlying t = some .string) : dOf P t [x] = x := by unfold dOf; rw [ht]; rfl
theorem dOf_sl {e : TypeId} {x : D} (ht : P.underlying t = some (.slice e)) : dOf P t [x] = x := by unfold dOf; rw [ht]; rfl
theorem dOf_struct {fs : Array Field} (ht : P.underlying t = some (.struct fs)) : dOf P t ds = .agg ds := by unfold dOf; rw [ht]
theorem dOf_array {m : Nat} {e : TypeId} (ht : P.underlying t = some (.array m e)) : dOf P t ds = .agg ds := by unfold dOf; rw [ht]
/-- A slice's elements, each of one form. -/
theorem ty_list {α : Type} {f : α → D} {ok : α → Prop} {m : Nat} (H : ∀ x, TyC P m t x → ∃ e, dOf P t x = f e ∧ ok e) : ∀ (xs : List (List D)), (∀ x ∈ xs, TyC P m t x) → ∃ l : List α, xs.map (dOf P t) = l.map f ∧ l.length = xs.length ∧ ∀ e ∈ l, ok e
  | [], _ => ⟨[], rfl, rfl, by simp⟩
  | x :: xs, h => by
    obtain ⟨l, h1, h2, h3⟩ := ty_list H xs (fun y hy => h y (by simp [hy]))
    obtain ⟨e, h4, h5⟩ := H x (h x (by simp))
    refine ⟨e :: l, by simp [h1, h4], by simp [h2], fun y hy => ?_⟩
    rcases List.mem_cons.1 hy with rfl | hy
    · exact h5
    · exact h3 y hy
end
end Go.Eng
set_option linter.unusedVariables false
set_option linter.unusedSimpArgs false
namespace Go.Eng
open Go.RowKit
open Go.ChangeMaps (setBlock)
section
variable {P : Program} {X : Ctx} {N : Nat} {E : Env} {hp : Heap} {ν : Nat → Value} {used : Nat → Prop} {a : Act} {w : World} {key : Nat}
theorem next_sound {ops : Array Oper} {o : Oper} {d x k m c : Nat} {seen : List Nat} {kt et : TypeId} {es : List (D × D)} (h : EInv X N E (lk hp) ν used a w) (hk : ¬ used key) (hop : o.op = .next (.tmp x) false) (hdst : o.dst = some d) (hgd : o.guard = none) (hd : d < N)
    (hl : lk E x = some (.it k)) (ho : lk hp k = some (.iter m c seen)) (hm : lk hp m = some (.map kt et es)) (hc : es.length = c) {K : Act → World → Prop} {Q : Exit → Act → World → Prop} {rd : Option Nat}
    (hsome : ∀ (i : Nat) kd vd, es[i]? = some (kd, vd) → i ∉ seen → ∀ a' w' ν', EInv X N (setE E (some d) (.tup [.d (.bool true), .d kd, .d vd])) (lk (put hp k (.iter m c (seen ++ [i])))) ν' (fun q => used q ∨ q = key) a' w' →
      Ext (Mut X.M0 (lk hp) ν) (lk hp) ν used w (Mut X.M0 (lk (put hp k (.iter m c (seen ++ [i])))) ν') (lk (put hp k (.iter m c (seen ++ [i])))) ν' (fun q => used q ∨ q = key) w' → K a' w')
    (hnone : (∀ i, i < es.length → i ∈ seen) → ∀ a' w' ν', EInv X N (setE E (some d) (.tup [.d (.bool false)])) (lk hp) ν' (fun q => used q ∨ q = key) a' w' →
      Ext (Mut X.M0 (lk hp) ν) (lk hp) ν used w (Mut X.M0 (lk hp) ν') (lk hp) ν' (fun q => used q ∨ q = key) w' → K a' w') :
    if Region.wanted o (yielded ops a.tmps) then o.wpIn (FR rd) 0 P a w K Q else (∀ f, o.about P w a.eval = some f → (FR rd).fn f) ∧ K (a.put o.dst undef) w := by
  have hw : Region.wanted o (yielded ops a.tmps) = true := by unfold Region.wanted; rw [hgd]
  rw [hw]
  simp only [if_true]
  subst hc
  have hx := h.env x _ hl
  have hev : a.eval (.tmp x) = a.tmps.getD x undef := rfl
  generalize hu0 : a.tmps.getD x undef = u at hx
  cases hx with
  | it hu hh =>
    obtain ⟨_, _, _, b, he', hν, ha⟩ := hh _ ho
    cases he'
    subst ha
    obtain ⟨b', mr, hv, hg, hum, hmm⟩ := h.heap.obj _ _ ho
    rw [hν] at hv
    cases hv
    obtain ⟨_, _, _, he2, hνm⟩ := hmm _ hm
    cases he2
    obtain ⟨r0, ents, hv2, hg2, hsz, hr⟩ := h.heap.obj _ _ hm
    rw [hνm] at hv2
    cases hv2
    have hbk : hasB (ν k) b := by rw [hν]; exact rfl
    have hblt := (h.heap.blk _ _ _ ho hbk).2
    have born : ∀ (i : Nat) (hi : i < ents.size), ents[i].born = i := fun i hi => by
      have h1 := List.getElem?_eq_getElem (l := es) (i := i) (by omega)
      exact (hr i _ _ _ h1 (Array.getElem?_eq_getElem hi)).1
    have hold : ∀ e ∈ ents.toList, e.born < es.length := fun e he => by
      obtain ⟨i, hi⟩ := List.mem_iff_getElem?.1 he
      have hi' : i < ents.size := by simpa using (List.getElem?_eq_some_iff.1 hi).1
      have : ents[i] = e := by simpa using (List.getElem?_eq_some_iff.1 hi).2
      rw [← this, born i hi', ← hsz]
      exact hi'
    have hdd : ∀ t, o.dst = some t → t < N := fun t ht => by rw [hdst] at ht; cases ht; exact hd
    rw [← hdst] at hsome hnone
    refine ⟨fun _ _ => trivial, ?_⟩
    rw [Oper.semAt_eq _ _ _ (fun c hc => by rw [hop] at hc; cases hc)]
    have hexec : (execOp a.eval o).run P w = ((do let v ← Instr.next (.pointer (some ⟨b, 0, none⟩)) false o.type; Pure.pure (Next.value v)) : Sem Next).run P w := by
      unfold execOp
      rw [hop]
      simp only [hev, hu0]
    rw [hexec]
    simp only [Sem.run_bind]
    rcases run_next_at (P := P) w o.type b mr es.length es.length seen.toArray ents es.length hg hg2 hold (Nat.le_refl _) with ⟨h1, h2⟩ | ⟨e, he, w1, hw1, h2⟩
    · rw [h2]
      simp only [Result.andThen_ok, Sem.run_pure]
      have hall : ∀ i, i < es.length → i ∈ seen := fun i hi => by
        have hi' : i < ents.size := by omega
        have h0 : leftOf ents seen.toArray = #[] := Array.eq_empty_of_size_eq_zero h1
        unfold leftOf at h0
        rw [Array.filter_eq_empty_iff] at h0
        have := h0 ents[i] (Array.getElem_mem hi')
        rw [born i hi'] at this
        simpa using this
      obtain ⟨m1, m2⟩ := h.heap.more hk
      refine hnone hall _ _ ν (h.put m1 m2 (RepA.tup (cs := [_]) rfl fun i d v q1 q2 => ?_) hdd) m2
      cases i with
      | zero => simp at q1 q2; subst q1; subst q2; exact .d (.bool _)
      | succ i => simp at q1
    · rw [h2]
      simp only [Result.andThen_ok, Sem.run_pure]
      have hem : e ∈ ents.toList ∧ ¬ e.born ∈ seen := by
        unfold leftOf at he
        simp at he
        exact ⟨by simpa using he.1, by simpa using he.2⟩
      obtain ⟨i, hi⟩ := List.mem_iff_getElem?.1 hem.1
      have hi' : i < ents.size := by simpa using (List.getElem?_eq_some_iff.1 hi).1
      have hei : ents[i] = e := by simpa using (List.getElem?_eq_some_iff.1 hi).2
      have hei' : ents[i]? = some e := by rw [Array.getElem?_eq_getElem hi', hei]
      have hb : e.born = i := by rw [← hei]; exact born i hi'
      have h3 := List.getElem?_eq_getElem (l := es) (i := i) (by omega)
      obtain ⟨_, h4, h5⟩ := hr i _ _ _ h3 hei'
      have hpush : seen.toArray.push e.born = (seen ++ [i]).toArray := by rw [hb]; simp
      rw [hpush]
      obtain ⟨g1, g2⟩ := h.heap.turn (o' := .iter m es.length (seen ++ [i])) ho hbk hw1 (.mapIter (some mr) es.length (seen ++ [i]).toArray es.length) ⟨rfl, rfl⟩ (fun M' H' hx' => by
        refine ⟨b, mr, hν, setBlock_at (by rcases hw1 with rfl | rfl <;> exact hblt), hum, fun o' ho' => ?_⟩
        obtain ⟨o1, ho1, hlt, hst⟩ := hx'.obj _ hum o' ho'
        obtain ⟨kt', et', es', rfl, hn⟩ := hmm o1 ho1
        cases o' with
        | map kt'' et'' es'' => exact ⟨_, _, es'', rfl, by rw [show _ = _ from hst]; exact hn⟩
        | row _ _ _ => exact hlt.elim
        | var _ => exact hlt.elim
        | iter _ _ _ => exact hlt.elim
        | tab _ _ _ => exact hlt.elim
        | loop _ _ _ => exact hlt.elim)
      obtain ⟨m1, m2⟩ := g1.more hk
      have hx2 := g2.trans m2
      refine hsome i _ _ h3 (by rw [← hb]; exact hem.2) _ _ ν (h.put m1 hx2 (RepA.tup (cs := [_, _, _]) rfl fun q dd v q1 q2 => ?_) hdd) hx2
      match q with
      | 0 => simp at q1 q2; subst q1; subst q2; exact .d (.bool _)
      | 1 => simp at q1 q2; subst q1; subst q2; exact .d (h4.mono hx2.same hx2.shrink)
      | 2 => simp at q1 q2; subst q1; subst q2; exact .d (h5.mono hx2.same hx2.shrink)
      | q + 3 => simp at q1
/-- A step over a map's entries, and whether there was one left. -/
theorem WP_next {S : Sp} {Q : Exit → St → Prop} {id d d2 x k m n c c' : Nat} {seen : List Nat} {kt et ty ty2 : TypeId} {pos pos2 : String} {after after2 : Array Edge} {es : List (D × D)} (hN : S.N = n) (hd : (Nat.blt d n && Nat.blt d2 n) = true) (hcc : c + 2 = c')
    (hl : lk E x = some (.it k)) (ho : lk hp k = some (.iter m es.length seen)) (hm : lk hp m = some (.map kt et es))
    (hsome : ∀ (i : Nat) kd vd, es[i]? = some (kd, vd) → i ∉ seen → Q .normal ⟨(d2, .d (.bool true)) :: (d, .tup [.d (.bool true), .d kd, .d vd]) :: E, put hp k (.iter m es.length (seen ++ [i])), c'⟩)
    (hnone : (∀ i, i < es.length → i ∈ seen) → Q .normal ⟨(d2, .d (.bool false)) :: (d, .tup [.d (.bool false)]) :: E, hp, c'⟩) :
    WP P S (.region id #[⟨some d, .next (.tmp x) false, ty, pos, after, none⟩, ⟨some d2, .extract (.tmp d) 0, ty2, pos2, after2, none⟩] false) ⟨E, hp, c⟩ Q := by
  subst hcc
  subst hN
  simp only [Bool.and_eq_true, Nat.blt_eq] at hd
  intro a w ⟨hle, ν, hI, hx⟩
  simp only at hle hI hx
  refine wpIn_region_list ?_
  unfold wpListIn
  have e1 : ∀ k, (k < c ∨ k = c) ↔ k < c + 1 := fun k => by omega
  have e1f : (fun k => k < c ∨ k = c) = (fun k => k < c + 1) := funext fun k => propext (e1 k)
  have fin : ∀ (v : AV) (b : Bool) (hp1 : Heap), (∃ rest, v = .tup (.d (.bool b) :: rest)) → (Q .normal ⟨(d2, .d (.bool b)) :: (d, v) :: E, hp1, c + 2⟩) → ∀ a' w' ν', EInv S.X S.N (setE E (some d) v) (lk hp1) ν' (fun q => q < c ∨ q = c) a' w' →
      Ext (Mut S.X.M0 (lk hp) ν) (lk hp) ν (· < c) w (Mut S.X.M0 (lk hp1) ν') (lk hp1) ν' (fun q => q < c ∨ q = c) w' →
      wpListIn (FR S.rd) 0 P #[⟨some d, .next (.tmp x) false, ty, pos, after, none⟩, ⟨some d2, .extract (.tmp d) 0, ty2, pos2, after2, none⟩] (fun e a w => ∃ s', Rel S s' a w ∧ Q e s') [⟨some d2, .extract (.tmp d) 0, ty2, pos2, after2, none⟩] a' w' := fun v b hp1 ⟨rest, hv⟩ hq a' w' ν' hI' hx' => by
    rw [e1f] at hI' hx'
    refine Ev.list (ops := #[⟨some d, .next (.tmp x) false, ty, pos, after, none⟩, ⟨some d2, .extract (.tmp d) 0, ty2, pos2, after2, none⟩]) (c := c) [⟨some d2, .extract (.tmp d) 0, ty2, pos2, after2, none⟩] 1 (setE E (some d) v) hp1 [⟨some d2, .d (.bool b), [], []⟩] ((d2, .d (.bool b)) :: (d, v) :: E) hp1 ν' a' w' (by simp [dstOk, hd.2]) hI' ?_ (fun a2 w2 ν2 h1 h2 => ?_)
    · refine Ev_d rfl ?_ rfl .nil
      subst hv
      simp [evOp, just, evExtract, opnd, setE, lk]
    · exact ⟨_, ⟨by show S.R.c ≤ c + 2; omega, ν2, by simpa using h1, by have := hx.trans (hx'.trans h2); simpa using this⟩, hq⟩
  have hs := next_sound (P := P) (ops := #[⟨some d, .next (.tmp x) false, ty, pos, after, none⟩, ⟨some d2, .extract (.tmp d) 0, ty2, pos2, after2, none⟩]) (o := ⟨some d, .next (.tmp x) false, ty, pos, after, none⟩) (key := c) (rd := S.rd) (K := wpListIn (FR S.rd) 0 P #[⟨some d, .next (.tmp x) false, ty, pos, after, none⟩, ⟨some d2, .extract (.tmp d) 0, ty2, pos2, after2, none⟩] (fun e a w => ∃ s', Rel S s' a w ∧ Q e s') [⟨some d2, .extract (.tmp d) 0, ty2, pos2, after2, none⟩]) (Q := fun e a w => ∃ s', Rel S s' a w ∧ Q e s') hI (Nat.lt_irrefl _) rfl rfl rfl hd.1 hl ho hm rfl
    (fun i kd vd h1 h2 => fin _ true _ ⟨_, rfl⟩ (hsome i kd vd h1 h2)) (fun h1 => fin _ false _ ⟨_, rfl⟩ (hnone h1))
  split
  · rename_i hw; rw [if_pos hw] at hs; exact hs
  · rename_i hw; rw [if_neg hw] at hs; exact hs
end
end Go.Eng
set_option linter.unusedVariables false
set_option linter.unusedSimpArgs false
namespace Go.Eng
open Go.RowKit
open Go.Sort (grow)
theorem Bl.grows {w w' : World} (h : Bl w.heap.size w w') : ∃ q os', w' = grow (w.drewN q) os' := by
  refine ⟨w'.drawn - w.drawn, w'.heap.extract w.heap.size w'.heap.size, ?_⟩
  obtain ⟨⟨h1, h2, h3, h4, h5⟩, h6⟩ := h
  have hh : w'.heap = w.heap ++ w'.heap.extract w.heap.size w'.heap.size := by
    refine Array.ext_getElem? fun i => ?_
    by_cases hi : i < w.heap.size
    · rw [Array.getElem?_append_left hi, h5 i hi]
    · rw [Array.getElem?_append_right (by omega), Array.getElem?_extract]
      by_cases hj : i < w'.heap.size
      · rw [if_pos (by omega)]
        congr 1
        omega
      · rw [if_neg (by omega), Array.getElem?_eq_none (by omega)]
  obtain ⟨heap, tape, drawn, os, output⟩ := w
  obtain ⟨heap', tape', drawn', os', output'⟩ := w'
  simp only at h1 h2 h3 h4 h5 h6 hh
  subst h1; subst h2; subst h3
  simp only [grow, World.drewN]
  congr 1
  omega
theorem perm_sorted_eq {α : Type} {R : α → α → Prop} : ∀ {l1 l2 : List α}, l1.Perm l2 → l1.Pairwise R → l2.Pairwise R → (∀ a ∈ l1, ∀ b ∈ l1, R a b → R b a → a = b) → l1 = l2
  | [], l2, h, _, _, _ => h.nil_eq
  | a :: l1, [], h, _, _, _ => by simpa using h.length_eq
  | a :: l1, b :: l2, h, h1, h2, hA => by
    have p1 := List.pairwise_cons.1 h1
    have p2 := List.pairwise_cons.1 h2
    have hab : a = b := by
      have ha : a ∈ b :: l2 := h.mem_iff.1 (by simp)
      have hb : b ∈ a :: l1 := h.mem_iff.2 (by simp)
      rcases List.mem_cons.1 ha with e | ha'
      · exact e
      · rcases List.mem_cons.1 hb with e | hb'
        · exact e.symm
        · exact hA a (by simp) b hb (p1.1 b hb') (p2.1 a ha')
    subst hab
    rw [perm_sorted_eq ((List.perm_cons a).1 h) p1.2 p2.2 (fun x hx y hy => hA x (by simp [hx]) y (by simp [hy]))]
end Go.Eng
set_option linter.unusedVariables false
set_option linter.unusedSimpArgs false
namespace Go.Eng
open Go.RowKit
section
variable {P : Program} {S : Sp} {Q : Exit → St → Prop}
/-- Slots and things that are not needed fall away (what is left is said). -/
theorem WP_keepd {code : Code} {E E' : Env} {hp hp' : Heap} {c0 : Nat} (ns ks : List Nat) (c : Nat) (hc : S.R.c ≤ c) (hE : keepL E ns = E') (hH : keepL hp ks = hp') (hbE : envBelow c E' = true) (hbH : heapBelow c hp' = true) (h : WP P S code ⟨E', hp', c⟩ Q) : WP P S code ⟨E, hp, c0⟩ Q := by
  subst hE; subst hH
  exact WP_keep (s := ⟨E, hp, c0⟩) ns ks c hc hbE hbH h
/-- A loop over a function that goes through. -/
theorem WP_rangeR {g : Operand} {ps : Array Tmp} {assign body : Code} {E : Env} {hp hp2 hp3 : Heap} {c c1 c2 : Nat} {gf : FuncId} {caps as : List AV} {cs : Env} {hpc hp' : Heap} {r : AV} {n N : Nat} {l : List Nat} (hrd : S.rd = none) (hf : fnOf (opnd E g) = some (gf, caps)) (hN : S.N = N) (hcs : envOk E cs) (hc1 : c + 1 = c1) (hc2 : c + 2 = c2)
    (hl : reach ((c, .loop ⟨N, ps, assign, body⟩ cs .ready) :: hp) 5 (dedup (c :: kss caps) []) = l) (hs : SoundM P gf as hpc r hp' n) (hc0 : lk hp c = none) (ha : as.map (AV.rn (sg l c1)) = .yld c :: caps)
    (hsub : hpc.map (fun p => lk ((c, .loop ⟨N, ps, assign, body⟩ cs .ready) :: hp) (sg l c1 p.1)) = hpc.map (fun p => some (p.2.rn (sg l c1))))
    (hb : passB c1 n (sg l c1) (hpc.map (·.1)) (fresh (hpc.map (·.1)) hp') as hpc r hp' = true)
    (hH : eff ((c, .loop ⟨N, ps, assign, body⟩ cs .ready) :: hp) (passE (sg l c1) (hpc.map (·.1) ++ fresh (hpc.map (·.1)) hp') hp') = hp2) (hst : lk hp2 c = some (.loop ⟨N, ps, assign, body⟩ cs .ready)) (hd : del hp2 c = hp3)
    (h : Q .normal ⟨E, hp3, c2⟩) : WP P S (.rangeFunc g ps assign body) ⟨E, hp, c⟩ Q := by
  subst hc1; subst hc2; subst hd
  exact WP_range hrd hf hN hcs hl hs hc0 ha hsub hb hH hst h
/-- A loop over a function that is left. -/
theorem WP_rangeX {g : Operand} {ps : Array Tmp} {assign body : Code} {E : Env} {hp hp2 hp3 : Heap} {c c1 c2 : Nat} {gf : FuncId} {caps as : List AV} {cs : Env} {hpc hp' : Heap} {r : AV} {n N : Nat} {l : List Nat} {cj : Code} (hrd : S.rd = none) (hf : fnOf (opnd E g) = some (gf, caps)) (hN : S.N = N) (hcs : envOk E cs) (hc1 : c + 1 = c1) (hc2 : c + 2 = c2)
    (hl : reach ((c, .loop ⟨N, ps, assign, body⟩ cs .ready) :: hp) 5 (dedup (c :: kss caps) []) = l) (hs : SoundM P gf as hpc r hp' n) (hc0 : lk hp c = none) (ha : as.map (AV.rn (sg l c1)) = .yld c :: caps)
    (hsub : hpc.map (fun p => lk ((c, .loop ⟨N, ps, assign, body⟩ cs .ready) :: hp) (sg l c1 p.1)) = hpc.map (fun p => some (p.2.rn (sg l c1))))
    (hb : passB c1 n (sg l c1) (hpc.map (·.1)) (fresh (hpc.map (·.1)) hp') as hpc r hp' = true)
    (hH : eff ((c, .loop ⟨N, ps, assign, body⟩ cs .ready) :: hp) (passE (sg l c1) (hpc.map (·.1) ++ fresh (hpc.map (·.1)) hp') hp') = hp2) (hst : lk hp2 c = some (.loop ⟨N, ps, assign, body⟩ cs (.done cj))) (hd : del hp2 c = hp3)
    (h : WP P S cj ⟨E, hp3, c2⟩ Q) : WP P S (.rangeFunc g ps assign body) ⟨E, hp, c⟩ Q := by
  subst hc1; subst hc2; subst hd
  exact WP_range hrd hf hN hcs hl hs hc0 ha hsub hb hH hst h
end
theorem round_b {P : Program} {S : Sp} {k0 : Nat} {Y : Ym} {cs : Env} {r : AV} {hp' : Heap} {ks : List Nat} {E : Env} {hp hp1 : Heap} {c : Nat} (h : lk hp k0 = some (.loop Y cs .ready)) (h1 : put hp k0 (.loop Y cs .busy) = hp1) (h2 : WP P S Y.body ⟨E, hp1, c⟩ (roundQ k0 Y cs r hp' ks)) :
    roundA P S k0 Y cs r hp' ks ⟨E, hp, c⟩ := ⟨h, h1 ▸ h2⟩
end Go.Eng
set_option linter.unusedVariables false
set_option linter.unusedSimpArgs false
namespace Go.Eng
open Go.RowKit

section
variable {P : Program} {S : Sp} {Q : Exit → St → Prop}
theorem Rel.totab {E : Env} {hp : Heap} {c : Nat} {a : Act} {w : World} {ν : Nat → Value} (hI : EInv S.X S.N E (lk hp) ν (· < c) a w) (k' : Nat) {k : Nat} {e sz : Nat} {xs : List D} (T : Tb)
    (ho : lk hp k = some (.row e sz xs)) (he : T.eo = e) (hs : T.so = sz) (hsi : 0 < T.si) (hn : xs.all T.nilAt = true) (hk : c ≤ k') :
    HInv S.X (lk (put (del hp k) k' (.tab T (xs.map T.ini) none))) (upd ν k' (.tuple (ν k :: List.replicate xs.length (.slice none 0 0)).toArray)) (· < k' + 1) w ∧
    Ext (Mut S.X.M0 (lk hp) ν) (lk hp) ν (· < c) w (Mut S.X.M0 (lk (put (del hp k) k' (.tab T (xs.map T.ini) none))) (upd ν k' (.tuple (ν k :: List.replicate xs.length (.slice none 0 0)).toArray)))
      (lk (put (del hp k) k' (.tab T (xs.map T.ini) none))) (upd ν k' (.tuple (ν k :: List.replicate xs.length (.slice none 0 0)).toArray)) (· < k' + 1) w := by
  obtain ⟨i1, x1⟩ := hI.heap.totab (key := k') (by show ¬ k' < c; omega) ho he hs hsi hn
  have hu : ∀ q, (q < c ∨ q = k') → q < k' + 1 := fun q hq => by omega
  have i2 := i1.used_mono hu (fun q _ hn => by
    cases ho : lk (put (del hp k) k' (.tab T (xs.map T.ini) none)) q with
    | none => rfl
    | some o => exact absurd (i1.usd _ _ ho) hn)
  refine ⟨i2, x1.trans ⟨Same.refl _ _, fun _ _ h => h, hu, fun q _ o ho => ⟨o, ho, HO.later.refl _, HO.keeps_of⟩, Same.refl _ _, fun _ _ h => h⟩⟩
theorem WP_bump {code : Code} {E : Env} {hp : Heap} {c : Nat} (c' : Nat) (hc : c ≤ c') (h : WP P S code ⟨E, hp, c'⟩ Q) : WP P S code ⟨E, hp, c⟩ Q := fun a w hr => h a w (hr.more hc)
/-- In a slot. -/
theorem Rel.tab {E : Env} {hp : Heap} {c : Nat} {a : Act} {w : World} (h : Rel S ⟨E, hp, c⟩ a w) (n k' : Nat) {k m e sz : Nat} {xs : List D} (T : Tb) (hl : lk E n = some (.own k m))
    (ho : lk hp k = some (.row e sz xs)) (hm : m = xs.length) (he : T.eo = e) (hs : T.so = sz) (hsi : 0 < T.si) (hn : xs.all T.nilAt = true) (hk : c ≤ k') :
    Rel S ⟨(n, .tab k' m) :: E, put (del hp k) k' (.tab T (xs.map T.ini) none), k' + 1⟩ a w := by
  obtain ⟨hle, ν, hI, hx⟩ := h
  simp only at hI hx hle
  obtain ⟨i1, x1⟩ := Rel.totab hI k' T ho he hs hsi hn hk
  refine ⟨by show S.R.c ≤ k' + 1; omega, _, ⟨i1, fun m' av hm' => ?_, hI.size, hI.defers.mono x1.same x1.shrink⟩, hx.trans x1⟩
  simp only [lk] at hm'
  split at hm'
  · rename_i em
    subst em
    cases hm'
    have hr := hI.env n _ hl
    cases hr with
    | own hu h1 hc ha h =>
      obtain ⟨_, _, _, heq, _, hv⟩ := h _ ho
      cases heq
      refine .tab (by show k' < k' + 1; omega) h1 hc ha fun o ho' => ?_
      rw [lk_put_same] at ho'
      cases ho'
      refine ⟨_, _, _, rfl, by rw [List.length_map]; omega, fun _ => ?_⟩
      rw [hv hm, upd_same, vnth_list]; rfl
  · exact (hI.env m' av hm').ext x1
theorem WP_tab {code : Code} {E : Env} {hp hp' : Heap} {c : Nat} (n k' : Nat) {k m e sz : Nat} {xs ys : List D} (T : Tb) (hl : lk E n = some (.own k m))
    (ho : lk hp k = some (.row e sz xs)) (hm : m = xs.length) (he : T.eo = e) (hs : T.so = sz) (hsi : 0 < T.si) (hn : xs.all T.nilAt = true) (hk : c ≤ k') (hy : xs.map T.ini = ys) (hh : put (del hp k) k' (.tab T ys none) = hp')
    (h : WP P S code ⟨(n, .tab k' m) :: E, hp', k' + 1⟩ Q) : WP P S code ⟨E, hp, c⟩ Q :=
  fun a w hr => h a w (hh ▸ hy ▸ hr.tab n k' T hl ho hm he hs hsi hn hk)
/-- In a variable. -/
theorem Rel.tabv {E : Env} {hp : Heap} {c : Nat} {a : Act} {w : World} (h : Rel S ⟨E, hp, c⟩ a w) (k0 i k' : Nat) {k m e sz : Nat} {xs : List D} {cs : List AV} (T : Tb) (hl : lk hp k0 = some (.var cs)) (hi : cs[i]? = some (.own k m))
    (ho : lk hp k = some (.row e sz xs)) (hm : m = xs.length) (he : T.eo = e) (hs : T.so = sz) (hsi : 0 < T.si) (hn : xs.all T.nilAt = true) (hk : c ≤ k') :
    Rel S ⟨E, put (put (del hp k) k' (.tab T (xs.map T.ini) none)) k0 (.var (cs.set i (.tab k' m))), k' + 1⟩ a w := by
  obtain ⟨hle, ν, hI, hx⟩ := h
  simp only at hI hx hle
  obtain ⟨i2, x2⟩ := Rel.totab hI k' T ho he hs hsi hn hk
  have hkc : k0 < c := hI.heap.usd _ _ hl
  have hne : k0 ≠ k' := by omega
  have hne2 : k0 ≠ k := fun e => by rw [e, ho] at hl; cases hl
  have hl2 : lk (put (del hp k) k' (.tab T (xs.map T.ini) none)) k0 = some (.var cs) := by rw [lk_put_other _ _ _ _ hne, lk_del_other _ _ _ hne2]; exact hl
  obtain ⟨b0, cells0, et0, q1, q2, q3, q4, q5⟩ := hI.heap.obj _ _ hl
  obtain ⟨b, cells, et, h1, h2, h3, h4, h5⟩ := i2.obj _ _ hl2
  rw [upd_other _ _ _ _ hne, q1] at h1
  cases h1
  rw [q2] at h2
  cases h2
  have hbk : hasB (upd ν k' (.tuple (ν k :: List.replicate xs.length (.slice none 0 0)).toArray) k0) b0 := by rw [upd_other _ _ _ _ hne, q1]; exact rfl
  obtain ⟨i3, x3⟩ := i2.turn (o' := .var (cs.set i (.tab k' m))) hl2 hbk (w1 := w) (.inl rfl) (.cells cells0 et0 (0, 0)) (by simp [HO.later]) (fun M' H' hx' => by
    rw [setBlock_same q2] at hx' ⊢
    refine ⟨b0, cells0, et0, by rw [upd_other _ _ _ _ hne, q1], q2, by simp [q3], fun x hx => ?_, fun j av u hj hu => ?_⟩
    · rcases List.mem_or_eq_of_mem_set hx with h | h
      · exact q4 x h
      · subst h; rfl
    · rw [List.getElem?_set] at hj
      split at hj
      · rename_i ej
        subst ej
        split at hj
        · cases hj
          have hr := q5 _ _ _ hi hu
          cases hr with
          | own hu h1 hc ha h =>
            obtain ⟨_, _, _, heq, _, hv⟩ := h _ ho
            cases heq
            refine .tab (by show k' < k' + 1; omega) h1 hc ha fun o ho' => ?_
            obtain ⟨o0, ho0, hlt, hst⟩ := hx'.obj k' (by show k' < k' + 1; omega) o ho'
            rw [lk_put_same] at ho0
            cases ho0
            cases o with
            | tab T' rows' q' =>
              obtain ⟨rfl, hle', _⟩ := hlt
              refine ⟨_, _, _, rfl, by simp at hle'; omega, fun _ => ?_⟩
              rw [hv hm, upd_same, vnth_list]; rfl
            | var _ => exact hlt.elim
            | map _ _ _ => exact hlt.elim
            | iter _ _ _ => exact hlt.elim
            | loop _ _ _ => exact hlt.elim
            | row _ _ _ => exact hlt.elim
        · cases hj
      · exact (h5 j av u hj hu).ext hx')
  rw [setBlock_same q2] at i3 x3
  have xa := x2.trans x3
  exact ⟨by show S.R.c ≤ k' + 1; omega, _, ⟨i3, fun m av hm => (hI.env m av hm).ext xa, hI.size, hI.defers.mono xa.same xa.shrink⟩, hx.trans xa⟩
theorem WP_tabv {code : Code} {E : Env} {hp hp' : Heap} {c : Nat} (k0 i k' : Nat) {k m e sz : Nat} {xs ys : List D} {cs : List AV} (T : Tb) (hl : lk hp k0 = some (.var cs)) (hi : cs[i]? = some (.own k m))
    (ho : lk hp k = some (.row e sz xs)) (hm : m = xs.length) (he : T.eo = e) (hs : T.so = sz) (hsi : 0 < T.si) (hn : xs.all T.nilAt = true) (hk : c ≤ k') (hy : xs.map T.ini = ys) (hh : put (put (del hp k) k' (.tab T ys none)) k0 (.var (cs.set i (.tab k' m))) = hp')
    (h : WP P S code ⟨E, hp', k' + 1⟩ Q) : WP P S code ⟨E, hp, c⟩ Q :=
  fun a w hr => h a w (hh ▸ hy ▸ hr.tabv k0 i k' T hl hi ho hm he hs hsi hn hk)
end
end Go.Eng
set_option linter.unusedVariables false
set_option linter.unusedSimpArgs false
namespace Go.Eng
open Go.ChangeShapes Go.WideShapes Go.ChangeAt Go.RowKit
theorem slice_room {H : Type} {enc : TypeId × Value → H} {P : Program} {W : World} {base : Nat} {spare : Nat → Bool} {held : Bool} {t e : TypeId} {v : Value} {d : DataW H} {ps : List MemPlace} (hu : P.underlying t = some (.slice e)) (hd : DataW.Trod enc P W base spare held t v d ps)
    (hw : ∀ elems rest, d = .slice elems rest → (elems.length + rest.length) * P.bytesOf e ≤ reachBytes) {sz : Nat} {xs : List D} {M : Nat → Prop} (hr : RepD W M (.sl sz xs) v) : xs.length * P.bytesOf e ≤ 140737488351232 := by
  obtain ⟨a, c, rfl, hc1, hc2, hn⟩ := hr.sl_val
  obtain ⟨fuel, hd⟩ := hd
  cases fuel with
  | zero => simp [DataW.trod] at hd
  | succ n =>
    rw [DataW.trod_step] at hd
    unfold DataW.trodStep at hd
    rw [hu] at hd
    have hcl : (Value.slice a xs.length c).cells.toList = [Value.slice a xs.length c] := rfl
    rw [hcl] at hd
    cases a with
    | none =>
      obtain ⟨rfl, _⟩ := hn rfl
      simp
    | some a =>
      simp only at hd
      split at hd
      · obtain ⟨elems, he, h2⟩ := Option.bind_eq_some_iff.1 hd
        have hlen : elems.length = xs.length := by simpa using mapM_some_length he
        obtain ⟨rest, h3, h4⟩ := Option.map_eq_some_iff.1 h2
        have h5 : DataW.slice (elems.map (·.1)) (rest.map (·.1)) = d := congrArg Prod.fst h4
        have := hw _ _ h5.symm
        simp only [List.length_map, hlen] at this
        have h6 : reachBytes = 140737488351232 := rfl
        rw [h6, Nat.add_mul] at this
        exact Nat.le_trans (Nat.le_add_right _ _) this
      · cases hd
end Go.Eng

/- Steps: the document's answer; two lists of steps. (and what stands behind it: texts laid together) -/
import Derived.Test.YtbnhblimckdcgaaGreatMG4
import Derived.Test.YtbnhblimckdcgaaGreatMR10
set_option linter.unusedVariables false
set_option linter.unusedSimpArgs false
namespace Go.Eng.Tryz
open Go Go.Eng Go.Proofs Go.RowKit
attribute [local go_sem] tys
attribute [local go_sem] is_len is_get rs_len rs_get ses_len ses_get ses_snoc dels is_take is_drop
theorem ses_app {l : List Se} {e1 e2 e3 : Int} {p1 p2 p3 : List Int} {a1 a2 a3 : Bool} {c1 c2 c3 : Int} :
    ses l ++ [.agg [.int .i64 e1, .sl 1 (is p1), .bool a1, .int .u64 c1], .agg [.int .i64 e2, .sl 1 (is p2), .bool a2, .int .u64 c2], .agg [.int .i64 e3, .sl 1 (is p3), .bool a3, .int .u64 c3]] = ses (l ++ [⟨e1, p1, a1, c1⟩, ⟨e2, p2, a2, c2⟩, ⟨e3, p3, a3, c3⟩]) := by simp [ses, se]
theorem drop_facts {q : List Int} {i : Nat} : (q.drop i = [] ∧ ¬ i < q.length) ∨ (∃ x, q.drop i = [x] ∧ i < q.length ∧ ¬ i + 1 < q.length ∧ q[i]! = x) ∨ ∃ x y t, q.drop i = x :: y :: t ∧ i + 1 < q.length ∧ q[i]! = x ∧ q[i + 1]! = y := by
  by_cases h : i < q.length
  · by_cases h2 : i + 1 < q.length
    · refine .inr (.inr ⟨q[i]!, q[i + 1]!, q.drop (i + 2), ?_, h2, rfl, rfl⟩)
      rw [drop_at h, drop_at h2]
    · refine .inr (.inl ⟨q[i]!, ?_, h, h2, rfl⟩)
      rw [drop_at h, List.drop_eq_nil_of_le (by omega)]
  · exact .inl ⟨List.drop_eq_nil_of_le (by omega), h⟩
theorem pre_snoc {pre : List D} {l : List Se} {e : Int} {p : List Int} {a : Bool} {c : Int} : pre ++ ses l ++ [.agg [.int .i64 e, .sl 1 (is p), .bool a, .int .u64 c]] = pre ++ ses (l ++ [⟨e, p, a, c⟩]) := by simp [ses, se]
attribute [local go_sem] pre_snoc
theorem Wks.app {a b c d : List D} (h : Wks a b) (k : Wks c d) : Wks (a ++ c) (b ++ d) := by
  induction a generalizing b with
  | nil => cases h; exact k
  | cons x a ih => cases h with | cons h t => exact .cons h (ih t)
theorem ses_cat {a b : List Se} : ses (a ++ b) = ses a ++ ses b := by simp [ses]
theorem wk_step {s : Se} {p : D} (h : Wk p (.sl 1 (is s.put))) : Wk (.agg [.int .i64 s.eat, p, .bool s.any, .int .u64 s.cost]) (se s) := .agg (.cons (.refl _) (.cons h (.cons (.refl _) (.cons (.refl _) .nil))))
set_option maxHeartbeats 16000000 in
set_option maxRecDepth 10000 in
theorem rAt1 {c : Co} {q : List Int} {i : Nat} (hc : c.ok) (hq : q.length ≤ 1000000) (hi : i ≤ q.length) (hr : c.rules.length ≤ 900) (hrl : ∀ r ∈ c.rules, r.left.length ≤ 1000000) :
    Sound Tryz.prog 47 [co c, .sl 1 (is q), .int .i64 i] (.sl 4 (ses (stAt c (q.drop i)))) := by
  obtain ⟨u1, u2, u3, u4, hok, hlen⟩ := hc
  have eA : ses (stAt c (q.drop i)) = ses (st3 c (q.drop i)) ++ ses (c.rules.filterMap (st4 (q.drop i))) := ses_cat
  rw [eA]
  unfold co
  rcases drop_facts (q := q) (i := i) with ⟨h0, h1⟩ | ⟨x, h0, h1, h2, h3⟩ | ⟨x, y, t, h0, h1, h2, h3⟩
  · have e3 : ses (st3 c (q.drop i)) = ses [⟨0, [], true, c.more⟩] := by rw [h0]; rfl
    rw [e3]
    refine Sound.wk (r := .sl 4 ([D.agg [.int .i64 0, .nils, .bool true, .int .u64 c.more]] ++ ses (c.rules.filterMap (st4 (q.drop i))))) ?_ (Wks.refl _) (.sl (Wks.app (.cons (wk_step (s := ⟨0, [], true, c.more⟩) (.nil 1)) .nil) (Wks.refl _)))
    refine Sound.run (N := 111) Tryz.func47 rfl (by kernel_rfl) rfl rfl rfl (by first | exact args0_0 | exact args0_1 | exact args0_2 | exact args0_3 | exact args0_4 | exact args0_5 | exact args0_6) fun X_ w_ => ?_
    repeat ((fail_if_success (with_reducible show WP _ _ (.region 2 _ _) _ _)); first | with_reducible exact Ev.nil | with_reducible exact gd_n | ((with_reducible apply lk_ok); rfl) | ((with_reducible apply gslot_ok); rfl) | ((with_reducible apply v2d_ok); rfl) | with_reducible apply then_n | with_reducible apply WP_seq | with_reducible apply WP_skip | ((with_reducible apply WP_r (N := 111) rfl rfl); (focus simp only [Nat.reduceAdd] <;> rfl)) | ((with_reducible apply WP_d (N := 111) mixed rfl rfl); (focus simp only [Nat.reduceAdd] <;> rfl)) | ((with_reducible apply Ev_s); (focus first | (apply gd_u; (focus rfl); rfl) | (apply gd_f; (focus rfl); (focus rfl); rfl))) | ((with_reducible apply Ev_sn); (focus first | (apply gd_u; (focus rfl); rfl) | (apply gd_f; (focus rfl); (focus rfl); rfl))) | with_reducible apply gd_t | with_reducible apply Ev_mv | with_reducible apply Ev_as | with_reducible apply Ev_mc | with_reducible apply Ev_ac | ((first | (with_reducible apply Ev_pt) | (with_reducible apply Ev_ptc)); (focus rfl)) | ((first | (with_reducible apply Ev_pf) | (with_reducible apply Ev_pfc)); (focus rfl)) | ((with_reducible apply Ev_d); (focus simp only [Nat.reduceAdd] <;> rfl); (focus simp (disch := omega) only [go_sem] <;> rfl)) | ((first | (with_reducible apply Ev_od) | (with_reducible apply Ev_on)); (focus simp only [Nat.reduceAdd] <;> rfl); (focus simp (disch := omega) only [go_sem] <;> rfl); (focus first | (simp (disch := omega) only [go_sem] <;> rfl) | rfl)) | with_reducible apply endM_n | with_reducible apply endM_r | with_reducible apply then_r | with_reducible apply then_x | with_reducible apply block_n | with_reducible apply block_r | with_reducible apply block_x | with_reducible apply block_y rfl | with_reducible apply scope_n | with_reducible apply scope_r | with_reducible apply scope_x | with_reducible apply end_n | with_reducible apply end_r | with_reducible apply WP_block | with_reducible apply WP_exit | with_reducible apply WP_ret | with_reducible apply WP_label | with_reducible apply WP_scope | ((with_reducible apply WP_t); (focus first | (simp (disch := omega) only [go_sem] <;> rfl) | rfl)) | ((with_reducible apply WP_f); (focus first | (simp (disch := omega) only [go_sem] <;> rfl) | rfl)) | ((with_reducible apply resD_t); (focus rfl)) | ((with_reducible apply resD_2); (focus rfl); (focus rfl)) | (with_reducible rfl) | ((with_reducible show List.map outKeys _ = _); simp only [List.map_cons, List.map_nil, outKeys, keys]; rfl) | ((with_reducible show orderOk _ _ = true); kernel_rfl) | ((with_reducible show _ = _); simp (disch := omega) only [go_sem] <;> rfl) | ((fail_if_success (with_reducible show Ev _ _ _ _ (_ :: _) _ _ _ _ _)); (show Ev _ _ _ _ (_ :: _) _ _ _ _ _)) | fail)
    refine WP_own 7 5000 60 4 rfl (by decide) (Nat.le_of_ble_eq_true rfl) ?_
    refine goT ?_; first | exact trivial | skip
    refine WP_loopk (fun k : Nat => k ≤ c.rules.length) (fun k => [(1, .d (.sl 1 (is q))), (2, .d (.int .i64 i)), (3, .ref 0 0), (7, .own 5000 ([D.agg [.int .i64 0, .nils, .bool true, .int .u64 c.more]] ++ ses ((c.rules.take k).filterMap (st4 (q.drop i)))).length), (8, .d (.int .i64 k))]) (fun k => [(0, .var [.d (.int .u64 c.more), .d (.int .u64 c.less), .d (.int .u64 c.other), .d (.int .u64 c.turned), .d (.sl 3 (rs c.rules))]), (5000, .row 60 4 ([D.agg [.int .i64 0, .nils, .bool true, .int .u64 c.more]] ++ ses ((c.rules.take k).filterMap (st4 (q.drop i)))))]) 5001 (fun k => c.rules.length - k) [1, 2, 3, 7, 8] [0, 5000] 0 (Nat.zero_le _) rfl rfl (Nat.zero_le _) (fun _ _ => rfl) (fun _ _ => rfl) fun k hk => ?_
    have hX := st4_len (q.drop i) (c.rules.take k)
    simp only [List.length_take] at hX
    by_cases hk' : k < c.rules.length
    · have hst := st4_step (rest := q.drop i) hk'
      have ho := rok_get hok hk'
      have hleft : (c.rules[k]!).left.length ≤ 1000000 := by rw [getElem!_pos c.rules k hk']; exact hrl _ (List.getElem_mem hk')
      have edt : (q.take (i + (c.rules[k]!).left.length)).drop i = (q.drop i).take (c.rules[k]!).left.length := by rw [List.drop_take]; congr 1; omega
      have eln : ((q.drop i).take (c.rules[k]!).left.length).length ≤ 9223372036854775807 := by simp only [List.length_take, List.length_drop]; omega
      have ei : (i : Int) + ((c.rules[k]!).left.length : Int) = ((i + (c.rules[k]!).left.length : Nat) : Int) := by omega
      generalize hXX : (c.rules.take k).filterMap (st4 (q.drop i)) = X at hX hst ⊢
      by_cases hn : i + (c.rules[k]!).left.length ≤ q.length
      · by_cases hm : (q.drop i).take (c.rules[k]!).left.length = (c.rules[k]!).left
        · have ce := refSame (a := (q.drop i).take (c.rules[k]!).left.length) (b := (c.rules[k]!).left) eln ho.1
          rw [decide_eq_true hm] at ce
          have e4 : st4 (q.drop i) (c.rules[k]!) = some ⟨(c.rules[k]!).left.length, (c.rules[k]!).right, false, (c.rules[k]!).cost⟩ := by unfold st4; rw [if_pos hm]
          rw [e4] at hst
          have c0_ := ce; refine goX (And.intro @ei @edt) ?_; first | exact trivial | skip
          refine ⟨k + 1, by omega, ?_, ?_, by omega⟩
          · rw [hst]
            simp (disch := omega) only [go_sem, keepL, Int.natCast_add, Int.cast_ofNat_Int]
          · rw [hst]
            simp (disch := omega) only [go_sem, keepL]
        · have ce := refSame (a := (q.drop i).take (c.rules[k]!).left.length) (b := (c.rules[k]!).left) eln ho.1
          rw [decide_eq_false hm] at ce
          have e4 : st4 (q.drop i) (c.rules[k]!) = none := by unfold st4; rw [if_neg hm]
          rw [e4] at hst
          have c0_ := ce; refine goX (And.intro @ei @edt) ?_; first | exact trivial | skip
          refine ⟨k + 1, by omega, ?_, ?_, by omega⟩
          · rw [hst]
            simp (disch := omega) only [go_sem, keepL, Int.natCast_add, Int.cast_ofNat_Int]
          · rw [hst]
            simp (disch := omega) only [go_sem, keepL]
      · have e4 : st4 (q.drop i) (c.rules[k]!) = none := by
          unfold st4
          rw [if_neg]
          intro h
          have := congrArg List.length h
          simp only [List.length_take, List.length_drop] at this
          omega
        rw [e4] at hst
        refine goX @ei ?_; first | exact trivial | skip
        refine ⟨k + 1, by omega, ?_, ?_, by omega⟩
        · rw [hst]
          simp (disch := omega) only [go_sem, keepL, Int.natCast_add, Int.cast_ofNat_Int]
        · rw [hst]
          simp (disch := omega) only [go_sem, keepL]
    · have hkl : k = c.rules.length := by omega
      subst hkl
      rw [List.take_length]
      refine goT ?_; first | exact trivial | skip
  · have e3 : ses (st3 c (q.drop i)) = ses [⟨1, [x], false, 0⟩, ⟨1, [], true, c.other⟩, ⟨1, [], false, c.less⟩, ⟨0, [], true, c.more⟩] := by rw [h0]; rfl
    rw [e3]
    refine Sound.wk (r := .sl 4 ([D.agg [.int .i64 1, .sl 1 [.int .i64 x], .bool false, .int .u64 0], D.agg [.int .i64 1, .nils, .bool true, .int .u64 c.other], D.agg [.int .i64 1, .nils, .bool false, .int .u64 c.less], D.agg [.int .i64 0, .nils, .bool true, .int .u64 c.more]] ++ ses (c.rules.filterMap (st4 (q.drop i))))) ?_ (Wks.refl _) (.sl (Wks.app (.cons (wk_step (s := ⟨1, [x], false, 0⟩) (.refl _)) (.cons (wk_step (s := ⟨1, [], true, c.other⟩) (.nil 1)) (.cons (wk_step (s := ⟨1, [], false, c.less⟩) (.nil 1)) (.cons (wk_step (s := ⟨0, [], true, c.more⟩) (.nil 1)) .nil)))) (Wks.refl _)))
    refine Sound.run (N := 111) Tryz.func47 rfl (by kernel_rfl) rfl rfl rfl (by first | exact args0_0 | exact args0_1 | exact args0_2 | exact args0_3 | exact args0_4 | exact args0_5 | exact args0_6) fun X_ w_ => ?_
    repeat ((fail_if_success (with_reducible show WP _ _ (.region 2 _ _) _ _)); first | with_reducible exact Ev.nil | with_reducible exact gd_n | ((with_reducible apply lk_ok); rfl) | ((with_reducible apply gslot_ok); rfl) | ((with_reducible apply v2d_ok); rfl) | with_reducible apply then_n | with_reducible apply WP_seq | with_reducible apply WP_skip | ((with_reducible apply WP_r (N := 111) rfl rfl); (focus simp only [Nat.reduceAdd] <;> rfl)) | ((with_reducible apply WP_d (N := 111) mixed rfl rfl); (focus simp only [Nat.reduceAdd] <;> rfl)) | ((with_reducible apply Ev_s); (focus first | (apply gd_u; (focus rfl); rfl) | (apply gd_f; (focus rfl); (focus rfl); rfl))) | ((with_reducible apply Ev_sn); (focus first | (apply gd_u; (focus rfl); rfl) | (apply gd_f; (focus rfl); (focus rfl); rfl))) | with_reducible apply gd_t | with_reducible apply Ev_mv | with_reducible apply Ev_as | with_reducible apply Ev_mc | with_reducible apply Ev_ac | ((first | (with_reducible apply Ev_pt) | (with_reducible apply Ev_ptc)); (focus rfl)) | ((first | (with_reducible apply Ev_pf) | (with_reducible apply Ev_pfc)); (focus rfl)) | ((with_reducible apply Ev_d); (focus simp only [Nat.reduceAdd] <;> rfl); (focus simp (disch := omega) only [go_sem] <;> rfl)) | ((first | (with_reducible apply Ev_od) | (with_reducible apply Ev_on)); (focus simp only [Nat.reduceAdd] <;> rfl); (focus simp (disch := omega) only [go_sem] <;> rfl); (focus first | (simp (disch := omega) only [go_sem] <;> rfl) | rfl)) | with_reducible apply endM_n | with_reducible apply endM_r | with_reducible apply then_r | with_reducible apply then_x | with_reducible apply block_n | with_reducible apply block_r | with_reducible apply block_x | with_reducible apply block_y rfl | with_reducible apply scope_n | with_reducible apply scope_r | with_reducible apply scope_x | with_reducible apply end_n | with_reducible apply end_r | with_reducible apply WP_block | with_reducible apply WP_exit | with_reducible apply WP_ret | with_reducible apply WP_label | with_reducible apply WP_scope | ((with_reducible apply WP_t); (focus first | (simp (disch := omega) only [go_sem] <;> rfl) | rfl)) | ((with_reducible apply WP_f); (focus first | (simp (disch := omega) only [go_sem] <;> rfl) | rfl)) | ((with_reducible apply resD_t); (focus rfl)) | ((with_reducible apply resD_2); (focus rfl); (focus rfl)) | (with_reducible rfl) | ((with_reducible show List.map outKeys _ = _); simp only [List.map_cons, List.map_nil, outKeys, keys]; rfl) | ((with_reducible show orderOk _ _ = true); kernel_rfl) | ((with_reducible show _ = _); simp (disch := omega) only [go_sem] <;> rfl) | ((fail_if_success (with_reducible show Ev _ _ _ _ (_ :: _) _ _ _ _ _)); (show Ev _ _ _ _ (_ :: _) _ _ _ _ _)) | fail)
    refine WP_own 7 5000 60 4 rfl (by decide) (Nat.le_of_ble_eq_true rfl) ?_
    refine goX @h3 ?_; first | exact trivial | skip
    refine WP_loopk (fun k : Nat => k ≤ c.rules.length) (fun k => [(1, .d (.sl 1 (is q))), (2, .d (.int .i64 i)), (3, .ref 0 0), (7, .own 5000 ([D.agg [.int .i64 1, .sl 1 [.int .i64 x], .bool false, .int .u64 0], D.agg [.int .i64 1, .nils, .bool true, .int .u64 c.other], D.agg [.int .i64 1, .nils, .bool false, .int .u64 c.less], D.agg [.int .i64 0, .nils, .bool true, .int .u64 c.more]] ++ ses ((c.rules.take k).filterMap (st4 (q.drop i)))).length), (8, .d (.int .i64 k))]) (fun k => [(0, .var [.d (.int .u64 c.more), .d (.int .u64 c.less), .d (.int .u64 c.other), .d (.int .u64 c.turned), .d (.sl 3 (rs c.rules))]), (5000, .row 60 4 ([D.agg [.int .i64 1, .sl 1 [.int .i64 x], .bool false, .int .u64 0], D.agg [.int .i64 1, .nils, .bool true, .int .u64 c.other], D.agg [.int .i64 1, .nils, .bool false, .int .u64 c.less], D.agg [.int .i64 0, .nils, .bool true, .int .u64 c.more]] ++ ses ((c.rules.take k).filterMap (st4 (q.drop i)))))]) 5001 (fun k => c.rules.length - k) [1, 2, 3, 7, 8] [0, 5000] 0 (Nat.zero_le _) rfl rfl (Nat.zero_le _) (fun _ _ => rfl) (fun _ _ => rfl) fun k hk => ?_
    have hX := st4_len (q.drop i) (c.rules.take k)
    simp only [List.length_take] at hX
    by_cases hk' : k < c.rules.length
    · have hst := st4_step (rest := q.drop i) hk'
      have ho := rok_get hok hk'
      have hleft : (c.rules[k]!).left.length ≤ 1000000 := by rw [getElem!_pos c.rules k hk']; exact hrl _ (List.getElem_mem hk')
      have edt : (q.take (i + (c.rules[k]!).left.length)).drop i = (q.drop i).take (c.rules[k]!).left.length := by rw [List.drop_take]; congr 1; omega
      have eln : ((q.drop i).take (c.rules[k]!).left.length).length ≤ 9223372036854775807 := by simp only [List.length_take, List.length_drop]; omega
      have ei : (i : Int) + ((c.rules[k]!).left.length : Int) = ((i + (c.rules[k]!).left.length : Nat) : Int) := by omega
      generalize hXX : (c.rules.take k).filterMap (st4 (q.drop i)) = X at hX hst ⊢
      by_cases hn : i + (c.rules[k]!).left.length ≤ q.length
      · by_cases hm : (q.drop i).take (c.rules[k]!).left.length = (c.rules[k]!).left
        · have ce := refSame (a := (q.drop i).take (c.rules[k]!).left.length) (b := (c.rules[k]!).left) eln ho.1
          rw [decide_eq_true hm] at ce
          have e4 : st4 (q.drop i) (c.rules[k]!) = some ⟨(c.rules[k]!).left.length, (c.rules[k]!).right, false, (c.rules[k]!).cost⟩ := by unfold st4; rw [if_pos hm]
          rw [e4] at hst
          have c0_ := ce; refine goX (And.intro @ei @edt) ?_; first | exact trivial | skip
          refine ⟨k + 1, by omega, ?_, ?_, by omega⟩
          · rw [hst]
            simp (disch := omega) only [go_sem, keepL, Int.natCast_add, Int.cast_ofNat_Int]
          · rw [hst]
            simp (disch := omega) only [go_sem, keepL]
        · have ce := refSame (a := (q.drop i).take (c.rules[k]!).left.length) (b := (c.rules[k]!).left) eln ho.1
          rw [decide_eq_false hm] at ce
          have e4 : st4 (q.drop i) (c.rules[k]!) = none := by unfold st4; rw [if_neg hm]
          rw [e4] at hst
          have c0_ := ce; refine goX (And.intro @ei @edt) ?_; first | exact trivial | skip
          refine ⟨k + 1, by omega, ?_, ?_, by omega⟩
          · rw [hst]
            simp (disch := omega) only [go_sem, keepL, Int.natCast_add, Int.cast_ofNat_Int]
          · rw [hst]
            simp (disch := omega) only [go_sem, keepL]
      · have e4 : st4 (q.drop i) (c.rules[k]!) = none := by
          unfold st4
          rw [if_neg]
          intro h
          have := congrArg List.length h
          simp only [List.length_take, List.length_drop] at this
          omega
        rw [e4] at hst
        refine goX @ei ?_; first | exact trivial | skip
        refine ⟨k + 1, by omega, ?_, ?_, by omega⟩
        · rw [hst]
          simp (disch := omega) only [go_sem, keepL, Int.natCast_add, Int.cast_ofNat_Int]
        · rw [hst]
          simp (disch := omega) only [go_sem, keepL]
    · have hkl : k = c.rules.length := by omega
      subst hkl
      rw [List.take_length]
      refine goT ?_; first | exact trivial | skip
  have ei1 : (i : Int) + 1 = ((i + 1 : Nat) : Int) := by omega
  by_cases hxy : x = y
  · subst hxy
    have e3 : ses (st3 c (q.drop i)) = ses [⟨1, [x], false, 0⟩, ⟨1, [], true, c.other⟩, ⟨1, [], false, c.less⟩, ⟨0, [], true, c.more⟩] := by rw [h0]; simp [st3, st1, st2]
    rw [e3]
    refine Sound.wk (r := .sl 4 ([D.agg [.int .i64 1, .sl 1 [.int .i64 x], .bool false, .int .u64 0], D.agg [.int .i64 1, .nils, .bool true, .int .u64 c.other], D.agg [.int .i64 1, .nils, .bool false, .int .u64 c.less], D.agg [.int .i64 0, .nils, .bool true, .int .u64 c.more]] ++ ses (c.rules.filterMap (st4 (q.drop i))))) ?_ (Wks.refl _) (.sl (Wks.app (.cons (wk_step (s := ⟨1, [x], false, 0⟩) (.refl _)) (.cons (wk_step (s := ⟨1, [], true, c.other⟩) (.nil 1)) (.cons (wk_step (s := ⟨1, [], false, c.less⟩) (.nil 1)) (.cons (wk_step (s := ⟨0, [], true, c.more⟩) (.nil 1)) .nil)))) (Wks.refl _)))
    refine Sound.run (N := 111) Tryz.func47 rfl (by kernel_rfl) rfl rfl rfl (by first | exact args0_0 | exact args0_1 | exact args0_2 | exact args0_3 | exact args0_4 | exact args0_5 | exact args0_6) fun X_ w_ => ?_
    repeat ((fail_if_success (with_reducible show WP _ _ (.region 2 _ _) _ _)); first | with_reducible exact Ev.nil | with_reducible exact gd_n | ((with_reducible apply lk_ok); rfl) | ((with_reducible apply gslot_ok); rfl) | ((with_reducible apply v2d_ok); rfl) | with_reducible apply then_n | with_reducible apply WP_seq | with_reducible apply WP_skip | ((with_reducible apply WP_r (N := 111) rfl rfl); (focus simp only [Nat.reduceAdd] <;> rfl)) | ((with_reducible apply WP_d (N := 111) mixed rfl rfl); (focus simp only [Nat.reduceAdd] <;> rfl)) | ((with_reducible apply Ev_s); (focus first | (apply gd_u; (focus rfl); rfl) | (apply gd_f; (focus rfl); (focus rfl); rfl))) | ((with_reducible apply Ev_sn); (focus first | (apply gd_u; (focus rfl); rfl) | (apply gd_f; (focus rfl); (focus rfl); rfl))) | with_reducible apply gd_t | with_reducible apply Ev_mv | with_reducible apply Ev_as | with_reducible apply Ev_mc | with_reducible apply Ev_ac | ((first | (with_reducible apply Ev_pt) | (with_reducible apply Ev_ptc)); (focus rfl)) | ((first | (with_reducible apply Ev_pf) | (with_reducible apply Ev_pfc)); (focus rfl)) | ((with_reducible apply Ev_d); (focus simp only [Nat.reduceAdd] <;> rfl); (focus simp (disch := omega) only [go_sem] <;> rfl)) | ((first | (with_reducible apply Ev_od) | (with_reducible apply Ev_on)); (focus simp only [Nat.reduceAdd] <;> rfl); (focus simp (disch := omega) only [go_sem] <;> rfl); (focus first | (simp (disch := omega) only [go_sem] <;> rfl) | rfl)) | with_reducible apply endM_n | with_reducible apply endM_r | with_reducible apply then_r | with_reducible apply then_x | with_reducible apply block_n | with_reducible apply block_r | with_reducible apply block_x | with_reducible apply block_y rfl | with_reducible apply scope_n | with_reducible apply scope_r | with_reducible apply scope_x | with_reducible apply end_n | with_reducible apply end_r | with_reducible apply WP_block | with_reducible apply WP_exit | with_reducible apply WP_ret | with_reducible apply WP_label | with_reducible apply WP_scope | ((with_reducible apply WP_t); (focus first | (simp (disch := omega) only [go_sem] <;> rfl) | rfl)) | ((with_reducible apply WP_f); (focus first | (simp (disch := omega) only [go_sem] <;> rfl) | rfl)) | ((with_reducible apply resD_t); (focus rfl)) | ((with_reducible apply resD_2); (focus rfl); (focus rfl)) | (with_reducible rfl) | ((with_reducible show List.map outKeys _ = _); simp only [List.map_cons, List.map_nil, outKeys, keys]; rfl) | ((with_reducible show orderOk _ _ = true); kernel_rfl) | ((with_reducible show _ = _); simp (disch := omega) only [go_sem] <;> rfl) | ((fail_if_success (with_reducible show Ev _ _ _ _ (_ :: _) _ _ _ _ _)); (show Ev _ _ _ _ (_ :: _) _ _ _ _ _)) | fail)
    refine WP_own 7 5000 60 4 rfl (by decide) (Nat.le_of_ble_eq_true rfl) ?_
    refine goX (And.intro @ei1 (And.intro @h2 @h3)) ?_; first | exact trivial | skip
    refine WP_loopk (fun k : Nat => k ≤ c.rules.length) (fun k => [(1, .d (.sl 1 (is q))), (2, .d (.int .i64 i)), (3, .ref 0 0), (7, .own 5000 ([D.agg [.int .i64 1, .sl 1 [.int .i64 x], .bool false, .int .u64 0], D.agg [.int .i64 1, .nils, .bool true, .int .u64 c.other], D.agg [.int .i64 1, .nils, .bool false, .int .u64 c.less], D.agg [.int .i64 0, .nils, .bool true, .int .u64 c.more]] ++ ses ((c.rules.take k).filterMap (st4 (q.drop i)))).length), (8, .d (.int .i64 k))]) (fun k => [(0, .var [.d (.int .u64 c.more), .d (.int .u64 c.less), .d (.int .u64 c.other), .d (.int .u64 c.turned), .d (.sl 3 (rs c.rules))]), (5000, .row 60 4 ([D.agg [.int .i64 1, .sl 1 [.int .i64 x], .bool false, .int .u64 0], D.agg [.int .i64 1, .nils, .bool true, .int .u64 c.other], D.agg [.int .i64 1, .nils, .bool false, .int .u64 c.less], D.agg [.int .i64 0, .nils, .bool true, .int .u64 c.more]] ++ ses ((c.rules.take k).filterMap (st4 (q.drop i)))))]) 5001 (fun k => c.rules.length - k) [1, 2, 3, 7, 8] [0, 5000] 0 (Nat.zero_le _) rfl rfl (Nat.zero_le _) (fun _ _ => rfl) (fun _ _ => rfl) fun k hk => ?_
    have hX := st4_len (q.drop i) (c.rules.take k)
    simp only [List.length_take] at hX
    by_cases hk' : k < c.rules.length
    · have hst := st4_step (rest := q.drop i) hk'
      have ho := rok_get hok hk'
      have hleft : (c.rules[k]!).left.length ≤ 1000000 := by rw [getElem!_pos c.rules k hk']; exact hrl _ (List.getElem_mem hk')
      have edt : (q.take (i + (c.rules[k]!).left.length)).drop i = (q.drop i).take (c.rules[k]!).left.length := by rw [List.drop_take]; congr 1; omega
      have eln : ((q.drop i).take (c.rules[k]!).left.length).length ≤ 9223372036854775807 := by simp only [List.length_take, List.length_drop]; omega
      have ei : (i : Int) + ((c.rules[k]!).left.length : Int) = ((i + (c.rules[k]!).left.length : Nat) : Int) := by omega
      generalize hXX : (c.rules.take k).filterMap (st4 (q.drop i)) = X at hX hst ⊢
      by_cases hn : i + (c.rules[k]!).left.length ≤ q.length
      · by_cases hm : (q.drop i).take (c.rules[k]!).left.length = (c.rules[k]!).left
        · have ce := refSame (a := (q.drop i).take (c.rules[k]!).left.length) (b := (c.rules[k]!).left) eln ho.1
          rw [decide_eq_true hm] at ce
          have e4 : st4 (q.drop i) (c.rules[k]!) = some ⟨(c.rules[k]!).left.length, (c.rules[k]!).right, false, (c.rules[k]!).cost⟩ := by unfold st4; rw [if_pos hm]
          rw [e4] at hst
          have c0_ := ce; refine goX (And.intro @ei @edt) ?_; first | exact trivial | skip
          refine ⟨k + 1, by omega, ?_, ?_, by omega⟩
          · rw [hst]
            simp (disch := omega) only [go_sem, keepL, Int.natCast_add, Int.cast_ofNat_Int]
          · rw [hst]
            simp (disch := omega) only [go_sem, keepL]
        · have ce := refSame (a := (q.drop i).take (c.rules[k]!).left.length) (b := (c.rules[k]!).left) eln ho.1
          rw [decide_eq_false hm] at ce
          have e4 : st4 (q.drop i) (c.rules[k]!) = none := by unfold st4; rw [if_neg hm]
          rw [e4] at hst
          have c0_ := ce; refine goX (And.intro @ei @edt) ?_; first | exact trivial | skip
          refine ⟨k + 1, by omega, ?_, ?_, by omega⟩
          · rw [hst]
            simp (disch := omega) only [go_sem, keepL, Int.natCast_add, Int.cast_ofNat_Int]
          · rw [hst]
            simp (disch := omega) only [go_sem, keepL]
      · have e4 : st4 (q.drop i) (c.rules[k]!) = none := by
          unfold st4
          rw [if_neg]
          intro h
          have := congrArg List.length h
          simp only [List.length_take, List.length_drop] at this
          omega
        rw [e4] at hst
        refine goX @ei ?_; first | exact trivial | skip
        refine ⟨k + 1, by omega, ?_, ?_, by omega⟩
        · rw [hst]
          simp (disch := omega) only [go_sem, keepL, Int.natCast_add, Int.cast_ofNat_Int]
        · rw [hst]
          simp (disch := omega) only [go_sem, keepL]
    · have hkl : k = c.rules.length := by omega
      subst hkl
      rw [List.take_length]
      refine goT ?_; first | exact trivial | skip
  · have e3 : ses (st3 c (q.drop i)) = ses [⟨1, [x], false, 0⟩, ⟨1, [], true, c.other⟩, ⟨1, [], false, c.less⟩, ⟨2, [y, x], false, c.turned⟩, ⟨0, [], true, c.more⟩] := by rw [h0]; simp [st3, st1, st2, hxy]
    rw [e3]
    refine Sound.wk (r := .sl 4 ([D.agg [.int .i64 1, .sl 1 [.int .i64 x], .bool false, .int .u64 0], D.agg [.int .i64 1, .nils, .bool true, .int .u64 c.other], D.agg [.int .i64 1, .nils, .bool false, .int .u64 c.less], D.agg [.int .i64 2, .sl 1 [.int .i64 y, .int .i64 x], .bool false, .int .u64 c.turned], D.agg [.int .i64 0, .nils, .bool true, .int .u64 c.more]] ++ ses (c.rules.filterMap (st4 (q.drop i))))) ?_ (Wks.refl _) (.sl (Wks.app (.cons (wk_step (s := ⟨1, [x], false, 0⟩) (.refl _)) (.cons (wk_step (s := ⟨1, [], true, c.other⟩) (.nil 1)) (.cons (wk_step (s := ⟨1, [], false, c.less⟩) (.nil 1)) (.cons (wk_step (s := ⟨2, [y, x], false, c.turned⟩) (.refl _)) (.cons (wk_step (s := ⟨0, [], true, c.more⟩) (.nil 1)) .nil))))) (Wks.refl _)))
    refine Sound.run (N := 111) Tryz.func47 rfl (by kernel_rfl) rfl rfl rfl (by first | exact args0_0 | exact args0_1 | exact args0_2 | exact args0_3 | exact args0_4 | exact args0_5 | exact args0_6) fun X_ w_ => ?_
    repeat ((fail_if_success (with_reducible show WP _ _ (.region 2 _ _) _ _)); first | with_reducible exact Ev.nil | with_reducible exact gd_n | ((with_reducible apply lk_ok); rfl) | ((with_reducible apply gslot_ok); rfl) | ((with_reducible apply v2d_ok); rfl) | with_reducible apply then_n | with_reducible apply WP_seq | with_reducible apply WP_skip | ((with_reducible apply WP_r (N := 111) rfl rfl); (focus simp only [Nat.reduceAdd] <;> rfl)) | ((with_reducible apply WP_d (N := 111) mixed rfl rfl); (focus simp only [Nat.reduceAdd] <;> rfl)) | ((with_reducible apply Ev_s); (focus first | (apply gd_u; (focus rfl); rfl) | (apply gd_f; (focus rfl); (focus rfl); rfl))) | ((with_reducible apply Ev_sn); (focus first | (apply gd_u; (focus rfl); rfl) | (apply gd_f; (focus rfl); (focus rfl); rfl))) | with_reducible apply gd_t | with_reducible apply Ev_mv | with_reducible apply Ev_as | with_reducible apply Ev_mc | with_reducible apply Ev_ac | ((first | (with_reducible apply Ev_pt) | (with_reducible apply Ev_ptc)); (focus rfl)) | ((first | (with_reducible apply Ev_pf) | (with_reducible apply Ev_pfc)); (focus rfl)) | ((with_reducible apply Ev_d); (focus simp only [Nat.reduceAdd] <;> rfl); (focus simp (disch := omega) only [go_sem] <;> rfl)) | ((first | (with_reducible apply Ev_od) | (with_reducible apply Ev_on)); (focus simp only [Nat.reduceAdd] <;> rfl); (focus simp (disch := omega) only [go_sem] <;> rfl); (focus first | (simp (disch := omega) only [go_sem] <;> rfl) | rfl)) | with_reducible apply endM_n | with_reducible apply endM_r | with_reducible apply then_r | with_reducible apply then_x | with_reducible apply block_n | with_reducible apply block_r | with_reducible apply block_x | with_reducible apply block_y rfl | with_reducible apply scope_n | with_reducible apply scope_r | with_reducible apply scope_x | with_reducible apply end_n | with_reducible apply end_r | with_reducible apply WP_block | with_reducible apply WP_exit | with_reducible apply WP_ret | with_reducible apply WP_label | with_reducible apply WP_scope | ((with_reducible apply WP_t); (focus first | (simp (disch := omega) only [go_sem] <;> rfl) | rfl)) | ((with_reducible apply WP_f); (focus first | (simp (disch := omega) only [go_sem] <;> rfl) | rfl)) | ((with_reducible apply resD_t); (focus rfl)) | ((with_reducible apply resD_2); (focus rfl); (focus rfl)) | (with_reducible rfl) | ((with_reducible show List.map outKeys _ = _); simp only [List.map_cons, List.map_nil, outKeys, keys]; rfl) | ((with_reducible show orderOk _ _ = true); kernel_rfl) | ((with_reducible show _ = _); simp (disch := omega) only [go_sem] <;> rfl) | ((fail_if_success (with_reducible show Ev _ _ _ _ (_ :: _) _ _ _ _ _)); (show Ev _ _ _ _ (_ :: _) _ _ _ _ _)) | fail)
    refine WP_own 7 5000 60 4 rfl (by decide) (Nat.le_of_ble_eq_true rfl) ?_
    refine goX (And.intro @ei1 (And.intro @h2 (And.intro @h3 @hxy))) ?_; first | exact trivial | skip
    refine WP_loopk (fun k : Nat => k ≤ c.rules.length) (fun k => [(1, .d (.sl 1 (is q))), (2, .d (.int .i64 i)), (3, .ref 0 0), (7, .own 5000 ([D.agg [.int .i64 1, .sl 1 [.int .i64 x], .bool false, .int .u64 0], D.agg [.int .i64 1, .nils, .bool true, .int .u64 c.other], D.agg [.int .i64 1, .nils, .bool false, .int .u64 c.less], D.agg [.int .i64 2, .sl 1 [.int .i64 y, .int .i64 x], .bool false, .int .u64 c.turned], D.agg [.int .i64 0, .nils, .bool true, .int .u64 c.more]] ++ ses ((c.rules.take k).filterMap (st4 (q.drop i)))).length), (8, .d (.int .i64 k))]) (fun k => [(0, .var [.d (.int .u64 c.more), .d (.int .u64 c.less), .d (.int .u64 c.other), .d (.int .u64 c.turned), .d (.sl 3 (rs c.rules))]), (5000, .row 60 4 ([D.agg [.int .i64 1, .sl 1 [.int .i64 x], .bool false, .int .u64 0], D.agg [.int .i64 1, .nils, .bool true, .int .u64 c.other], D.agg [.int .i64 1, .nils, .bool false, .int .u64 c.less], D.agg [.int .i64 2, .sl 1 [.int .i64 y, .int .i64 x], .bool false, .int .u64 c.turned], D.agg [.int .i64 0, .nils, .bool true, .int .u64 c.more]] ++ ses ((c.rules.take k).filterMap (st4 (q.drop i)))))]) 5001 (fun k => c.rules.length - k) [1, 2, 3, 7, 8] [0, 5000] 0 (Nat.zero_le _) rfl rfl (Nat.zero_le _) (fun _ _ => rfl) (fun _ _ => rfl) fun k hk => ?_
    have hX := st4_len (q.drop i) (c.rules.take k)
    simp only [List.length_take] at hX
    by_cases hk' : k < c.rules.length
    · have hst := st4_step (rest := q.drop i) hk'
      have ho := rok_get hok hk'
      have hleft : (c.rules[k]!).left.length ≤ 1000000 := by rw [getElem!_pos c.rules k hk']; exact hrl _ (List.getElem_mem hk')
      have edt : (q.take (i + (c.rules[k]!).left.length)).drop i = (q.drop i).take (c.rules[k]!).left.length := by rw [List.drop_take]; congr 1; omega
      have eln : ((q.drop i).take (c.rules[k]!).left.length).length ≤ 9223372036854775807 := by simp only [List.length_take, List.length_drop]; omega
      have ei : (i : Int) + ((c.rules[k]!).left.length : Int) = ((i + (c.rules[k]!).left.length : Nat) : Int) := by omega
      generalize hXX : (c.rules.take k).filterMap (st4 (q.drop i)) = X at hX hst ⊢
      by_cases hn : i + (c.rules[k]!).left.length ≤ q.length
      · by_cases hm : (q.drop i).take (c.rules[k]!).left.length = (c.rules[k]!).left
        · have ce := refSame (a := (q.drop i).take (c.rules[k]!).left.length) (b := (c.rules[k]!).left) eln ho.1
          rw [decide_eq_true hm] at ce
          have e4 : st4 (q.drop i) (c.rules[k]!) = some ⟨(c.rules[k]!).left.length, (c.rules[k]!).right, false, (c.rules[k]!).cost⟩ := by unfold st4; rw [if_pos hm]
          rw [e4] at hst
          have c0_ := ce; refine goX (And.intro @ei @edt) ?_; first | exact trivial | skip
          refine ⟨k + 1, by omega, ?_, ?_, by omega⟩
          · rw [hst]
            simp (disch := omega) only [go_sem, keepL, Int.natCast_add, Int.cast_ofNat_Int]
          · rw [hst]
            simp (disch := omega) only [go_sem, keepL]
        · have ce := refSame (a := (q.drop i).take (c.rules[k]!).left.length) (b := (c.rules[k]!).left) eln ho.1
          rw [decide_eq_false hm] at ce
          have e4 : st4 (q.drop i) (c.rules[k]!) = none := by unfold st4; rw [if_neg hm]
          rw [e4] at hst
          have c0_ := ce; refine goX (And.intro @ei @edt) ?_; first | exact trivial | skip
          refine ⟨k + 1, by omega, ?_, ?_, by omega⟩
          · rw [hst]
            simp (disch := omega) only [go_sem, keepL, Int.natCast_add, Int.cast_ofNat_Int]
          · rw [hst]
            simp (disch := omega) only [go_sem, keepL]
      · have e4 : st4 (q.drop i) (c.rules[k]!) = none := by
          unfold st4
          rw [if_neg]
          intro h
          have := congrArg List.length h
          simp only [List.length_take, List.length_drop] at this
          omega
        rw [e4] at hst
        refine goX @ei ?_; first | exact trivial | skip
        refine ⟨k + 1, by omega, ?_, ?_, by omega⟩
        · rw [hst]
          simp (disch := omega) only [go_sem, keepL, Int.natCast_add, Int.cast_ofNat_Int]
        · rw [hst]
          simp (disch := omega) only [go_sem, keepL]
    · have hkl : k = c.rules.length := by omega
      subst hkl
      rw [List.take_length]
      refine goT ?_; first | exact trivial | skip
end Go.Eng.Tryz

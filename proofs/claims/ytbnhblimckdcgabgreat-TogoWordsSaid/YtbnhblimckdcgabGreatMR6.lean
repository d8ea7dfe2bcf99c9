/- Steps: those that may be done at a place. (and what stands behind it: texts laid together) -/
import Derived.Test.YtbnhblimckdcgabGreatMG4
import Derived.Test.YtbnhblimckdcgabGreatMR5
set_option linter.unusedVariables false
set_option linter.unusedSimpArgs false
namespace Go.Eng.Tryz
open Go Go.Eng Go.Proofs Go.RowKit
attribute [local go_sem] tys
attribute [local go_sem] is_len is_get rs_len rs_get ses_len ses_get ses_snoc
theorem is_take {l : List Int} {k : Nat} : (is l).take k = is (l.take k) := by simp [is, List.map_take]
theorem is_drop {l : List Int} {k : Nat} : (is l).drop k = is (l.drop k) := by simp [is, List.map_drop]
/-- The steps of the signs alone. -/
def st1 (c : Co) : List Int → List Se
  | [] => []
  | x :: _ => [⟨1, [x], false, 0⟩, ⟨1, [], true, c.other⟩, ⟨1, [], false, c.less⟩]
def st2 (c : Co) : List Int → List Se
  | x :: y :: _ => if x ≠ y then [⟨2, [y, x], false, c.turned⟩] else []
  | _ => []
def st3 (c : Co) (rest : List Int) : List Se := st1 c rest ++ st2 c rest ++ [⟨0, [], true, c.more⟩]
def st4 (rest : List Int) (r : Ru) : Option Se := if rest.take r.left.length = r.left then some ⟨r.left.length, r.right, false, r.cost⟩ else none
/-- The steps at a place. -/
def stAt (c : Co) (rest : List Int) : List Se := st3 c rest ++ c.rules.filterMap (st4 rest)
theorem st3_len (c : Co) (rest : List Int) : (st3 c rest).length ≤ 5 := by
  unfold st3 st1 st2
  split <;> split <;> simp <;> split <;> simp
theorem st4_len (rest : List Int) (l : List Ru) : (l.filterMap (st4 rest)).length ≤ l.length := List.length_filterMap_le _ _
theorem st4_step {rest : List Int} {l : List Ru} {k : Nat} (h : k < l.length) : (l.take (k + 1)).filterMap (st4 rest) = (l.take k).filterMap (st4 rest) ++ (match st4 rest (l[k]!) with | some s => [s] | none => []) := by
  rw [rtake_snoc h, List.filterMap_append]
  congr 1
  generalize l[k]! = r
  cases hr : st4 rest r <;> simp [hr]
theorem hyN {Y : Ym} (hy : Takes Y) {xs : List Se} {s : Se} (hx : xs.length ≤ 1000) (hs : s.put = []) : SoundY Tryz.prog [.yld 0, .d (.agg [.int .i64 s.eat, .nils, .bool s.any, .int .u64 s.cost])] (St Y xs) (.d (.bool true)) (St Y (xs ++ [s])) 3 := by
  refine SoundK.wk (hy xs s hx (by rw [hs]; simp)) rfl fun i a a' h h' => ?_
  match i with
  | 0 => simp at h h'; subst h; subst h'; exact .inl rfl
  | 1 =>
    simp at h h'; subst h; subst h'
    refine .inr ⟨_, _, rfl, rfl, .agg (.cons (.refl _) (.cons ?_ (.cons (.refl _) (.cons (.refl _) .nil))))⟩
    rw [hs]; exact .nil 1
  | i + 2 => simp at h
theorem putW {Y : Ym} (hy : Takes Y) {xs : List Se} {s : Se} {p : D} (hx : xs.length ≤ 1000) (hs : s.put.length ≤ 1000000) (hp : Wk p (.sl 1 (is s.put))) :
    SoundM Tryz.prog 102 [.d (.bool true), .d (.agg [.int .i64 s.eat, p, .bool s.any, .int .u64 s.cost]), .ref 0 0] (St2 Y xs) (.d (.bool true)) (St2 Y (xs ++ [s])) 4 := by
  refine SoundK.wk (putY hy hx hs) rfl fun i a a' h h' => ?_
  match i with
  | 0 => simp at h h'; subst h; subst h'; exact .inl rfl
  | 1 => simp at h h'; subst h; subst h'; exact .inr ⟨_, _, rfl, rfl, .agg (.cons (.refl _) (.cons hp (.cons (.refl _) (.cons (.refl _) .nil))))⟩
  | 2 => simp at h h'; subst h; subst h'; exact .inl rfl
  | i + 3 => simp at h
set_option maxHeartbeats 16000000 in
set_option maxRecDepth 10000 in
theorem pMay1 {Y : Ym} (hy : Takes Y) {c : Co} {q : List Int} {i : Nat} (hc : c.ok) (hq : q.length ≤ 1000000) (hi : i ≤ q.length) (hr : c.rules.length ≤ 900) (hrl : ∀ r ∈ c.rules, r.right.length ≤ 1000000) :
    SoundM Tryz.prog 101 [.yld 0, .dref [.sl 1 (is q)], .dref [.int .i64 i], .dref [.int .u64 c.more, .int .u64 c.less, .int .u64 c.other, .int .u64 c.turned, .sl 3 (rs c.rules)]] (St Y []) (.tup []) (St Y (stAt c (q.drop i))) 3 := by
  obtain ⟨u1, u2, u3, u4, hok, hlen⟩ := hc
  have hrest : (q.drop i).length ≤ 1000000 := by simp; omega
  generalize hR : q.drop i = rest at hrest ⊢
  have eD : ((is q).take q.length).drop i = is rest := by rw [is_take, List.take_length, is_drop, hR]
  have hcase : rest = [] ∨ (∃ x, rest = [x]) ∨ ∃ x y t, rest = x :: y :: t := by
    rcases rest with _ | ⟨x, _ | ⟨y, t⟩⟩
    · exact .inl rfl
    · exact .inr (.inl ⟨x, rfl⟩)
    · exact .inr (.inr ⟨x, y, t, rfl⟩)
  rcases hcase with h0 | ⟨x, h0⟩ | ⟨x, y, t, h0⟩
  · have e3 : st3 c rest = [⟨0, [], true, c.more⟩] := by rw [h0]; rfl
    have n0 := putN (Y := Y) (xs := []) (e := 1) (p := .nils) (a := false) (c := 0)
    have n1 := putN (Y := Y) (xs := []) (e := 1) (p := .nils) (a := true) (c := c.other)
    have n2 := putN (Y := Y) (xs := []) (e := 1) (p := .nils) (a := false) (c := c.less)
    have n3 := putN (Y := Y) (xs := []) (e := 2) (p := .nils) (a := false) (c := c.turned)
    have n4 := hyN hy (xs := []) (s := ⟨0, [], true, c.more⟩) (by simp) rfl
    have eD' : ((is q).take q.length).drop i = [] := by rw [eD, h0]; rfl
    unfold St2 at n0 n1 n2 n3
    unfold St at n4 ⊢
    refine SoundM.run (N := 120) (ks := [0, 1, 2]) Tryz.func101 rfl (by kernel_rfl) rfl rfl rfl (by first | exact argsA_0 | exact argsA_1 | exact argsA_2 | exact argsA_3 | exact argsA_4 | exact argsA_5 | exact argsA_6) fun X_ ν_ w_ => ?_
    have c0_ := n0; have c1_ := n1; have c2_ := n2; have c3_ := n3; have c4_ := n4; refine goX @eD' ?_; first | exact trivial | skip
    refine WP_loopk (fun k : Nat => k ≤ c.rules.length) (fun k => [(5, .d (.sl 1 (is rest))), (6, .fn 102 [.ref 3 0]), (86, .d (.sl 3 (rs c.rules))), (87, .d (.int .i64 c.rules.length)), (88, .d (.int .i64 k))]) (fun k => [(0, .loop Y [(6, .ref 1 0)] .ready), (1, .var [.own 2 (st3 c rest ++ (c.rules.take k).filterMap (st4 rest)).length]), (2, .row 72 4 (ses (st3 c rest ++ (c.rules.take k).filterMap (st4 rest)))), (3, .var [.yld 0])]) 4 (fun k => c.rules.length - k) [5, 6, 86, 87, 88] [0, 1, 2, 3] 0 (Nat.zero_le _) (by rw [h0]; rfl) (by rw [e3]; rfl) (Nat.le_of_ble_eq_true rfl) (fun _ _ => rfl) (fun _ _ => rfl) fun k hk => ?_
    clear n0 n1 n2 n3 n4
    have hX : (st3 c rest ++ (c.rules.take k).filterMap (st4 rest)).length ≤ 1000 := by
      have h1 := st3_len c rest
      have h2 := st4_len rest (c.rules.take k)
      simp only [List.length_append, List.length_take] at h2 ⊢
      omega
    by_cases hk' : k < c.rules.length
    · have hst := st4_step (rest := rest) hk'
      have ho := rok_get hok hk'
      have hright : (c.rules[k]!).right.length ≤ 1000000 := by rw [getElem!_pos c.rules k hk']; exact hrl _ (List.getElem_mem hk')
      generalize hXX : st3 c rest ++ (c.rules.take k).filterMap (st4 rest) = X at hX ⊢
      by_cases hm : rest.take (c.rules[k]!).left.length = (c.rules[k]!).left
      · have hn : (c.rules[k]!).left.length ≤ rest.length := by
          have := congrArg List.length hm
          simp only [List.length_take] at this
          omega
        have hmin : min ((c.rules[k]!).left.length : Int) (rest.length : Int) = ((c.rules[k]!).left.length : Int) := by omega
        have ce := sEqual (a := rest.take (c.rules[k]!).left.length) (b := (c.rules[k]!).left) (by simp only [List.length_take]; omega) ho.1
        rw [decide_eq_true hm] at ce
        have cp := putW hy (xs := X) (s := ⟨(c.rules[k]!).left.length, (c.rules[k]!).right, false, (c.rules[k]!).cost⟩) (p := .sl 1 (is (c.rules[k]!).right)) hX hright (.refl _)
        have e4 : st4 rest (c.rules[k]!) = some ⟨(c.rules[k]!).left.length, (c.rules[k]!).right, false, (c.rules[k]!).cost⟩ := by unfold st4; rw [if_pos hm]
        rw [e4] at hst
        unfold St2 at cp
        have c0_ := ce; have c1_ := cp; refine goX (And.intro @hmin @is_take) ?_; first | exact trivial | skip
        refine ⟨k + 1, by omega, ?_, ?_, by omega⟩
        · simp (disch := omega) only [go_sem, keepL, Int.natCast_add, Int.cast_ofNat_Int]
        · rw [hst, ← List.append_assoc, hXX]
          simp (disch := omega) only [go_sem, keepL]
      · by_cases hn : (c.rules[k]!).left.length ≤ rest.length
        · have hmin : min ((c.rules[k]!).left.length : Int) (rest.length : Int) = ((c.rules[k]!).left.length : Int) := by omega
          have ce := sEqual (a := rest.take (c.rules[k]!).left.length) (b := (c.rules[k]!).left) (by simp only [List.length_take]; omega) ho.1
          rw [decide_eq_false hm] at ce
          have cp := putN (Y := Y) (xs := X) (e := (c.rules[k]!).left.length) (p := .sl 1 (is (c.rules[k]!).right)) (a := false) (c := (c.rules[k]!).cost)
          have e4 : st4 rest (c.rules[k]!) = none := by unfold st4; rw [if_neg hm]
          rw [e4] at hst
          unfold St2 at cp
          have c0_ := ce; have c1_ := cp; refine goX (And.intro @hmin @is_take) ?_; first | exact trivial | skip
          refine ⟨k + 1, by omega, ?_, ?_, by omega⟩
          · simp (disch := omega) only [go_sem, keepL, Int.natCast_add, Int.cast_ofNat_Int]
          · simp only [List.append_nil] at hst
            rw [hst, hXX]
            simp (disch := omega) only [go_sem, keepL]
        · have cp := putN (Y := Y) (xs := X) (e := (c.rules[k]!).left.length) (p := .sl 1 (is (c.rules[k]!).right)) (a := false) (c := (c.rules[k]!).cost)
          have e4 : st4 rest (c.rules[k]!) = none := by unfold st4; rw [if_neg hm]
          rw [e4] at hst
          unfold St2 at cp
          have c0_ := cp; refine goT ?_; first | exact trivial | skip
          refine ⟨k + 1, by omega, ?_, ?_, by omega⟩
          · simp (disch := omega) only [go_sem, keepL, Int.natCast_add, Int.cast_ofNat_Int]
          · simp only [List.append_nil] at hst
            rw [hst, hXX]
            simp (disch := omega) only [go_sem, keepL]
    · have hkl : k = c.rules.length := by omega
      subst hkl
      rw [List.take_length]
      rw [show stAt c rest = st3 c rest ++ c.rules.filterMap (st4 rest) from rfl]
      refine goT ?_; first | exact trivial | skip
  · have e3 : st3 c rest = [⟨1, [x], false, 0⟩, ⟨1, [], true, c.other⟩, ⟨1, [], false, c.less⟩, ⟨0, [], true, c.more⟩] := by rw [h0]; rfl
    have n0 := putW hy (xs := []) (s := ⟨1, [x], false, 0⟩) (p := .sl 1 [.int .i64 x]) (by simp) (by simp) (.refl _)
    have n1 := putW hy (xs := [⟨1, [x], false, 0⟩]) (s := ⟨1, [], true, c.other⟩) (p := .nils) (by simp) (by simp) (.nil 1)
    have n2 := putW hy (xs := [⟨1, [x], false, 0⟩, ⟨1, [], true, c.other⟩]) (s := ⟨1, [], false, c.less⟩) (p := .nils) (by simp) (by simp) (.nil 1)
    have n3 := putN (Y := Y) (xs := [⟨1, [x], false, 0⟩, ⟨1, [], true, c.other⟩, ⟨1, [], false, c.less⟩]) (e := 2) (p := .nils) (a := false) (c := c.turned)
    have n4 := hyN hy (xs := [⟨1, [x], false, 0⟩, ⟨1, [], true, c.other⟩, ⟨1, [], false, c.less⟩]) (s := ⟨0, [], true, c.more⟩) (by simp) rfl
    have eD' : ((is q).take q.length).drop i = [.int .i64 x] := by rw [eD, h0]; rfl
    unfold St2 at n0 n1 n2 n3
    unfold St at n4 ⊢
    refine SoundM.run (N := 120) (ks := [0, 1, 2]) Tryz.func101 rfl (by kernel_rfl) rfl rfl rfl (by first | exact argsA_0 | exact argsA_1 | exact argsA_2 | exact argsA_3 | exact argsA_4 | exact argsA_5 | exact argsA_6) fun X_ ν_ w_ => ?_
    have c0_ := n0; have c1_ := n1; have c2_ := n2; have c3_ := n3; have c4_ := n4; refine goX @eD' ?_; first | exact trivial | skip
    refine WP_loopk (fun k : Nat => k ≤ c.rules.length) (fun k => [(5, .d (.sl 1 (is rest))), (6, .fn 102 [.ref 3 0]), (86, .d (.sl 3 (rs c.rules))), (87, .d (.int .i64 c.rules.length)), (88, .d (.int .i64 k))]) (fun k => [(0, .loop Y [(6, .ref 1 0)] .ready), (1, .var [.own 2 (st3 c rest ++ (c.rules.take k).filterMap (st4 rest)).length]), (2, .row 72 4 (ses (st3 c rest ++ (c.rules.take k).filterMap (st4 rest)))), (3, .var [.yld 0])]) 4 (fun k => c.rules.length - k) [5, 6, 86, 87, 88] [0, 1, 2, 3] 0 (Nat.zero_le _) (by rw [h0]; rfl) (by rw [e3]; rfl) (Nat.le_of_ble_eq_true rfl) (fun _ _ => rfl) (fun _ _ => rfl) fun k hk => ?_
    clear n0 n1 n2 n3 n4
    have hX : (st3 c rest ++ (c.rules.take k).filterMap (st4 rest)).length ≤ 1000 := by
      have h1 := st3_len c rest
      have h2 := st4_len rest (c.rules.take k)
      simp only [List.length_append, List.length_take] at h2 ⊢
      omega
    by_cases hk' : k < c.rules.length
    · have hst := st4_step (rest := rest) hk'
      have ho := rok_get hok hk'
      have hright : (c.rules[k]!).right.length ≤ 1000000 := by rw [getElem!_pos c.rules k hk']; exact hrl _ (List.getElem_mem hk')
      generalize hXX : st3 c rest ++ (c.rules.take k).filterMap (st4 rest) = X at hX ⊢
      by_cases hm : rest.take (c.rules[k]!).left.length = (c.rules[k]!).left
      · have hn : (c.rules[k]!).left.length ≤ rest.length := by
          have := congrArg List.length hm
          simp only [List.length_take] at this
          omega
        have hmin : min ((c.rules[k]!).left.length : Int) (rest.length : Int) = ((c.rules[k]!).left.length : Int) := by omega
        have ce := sEqual (a := rest.take (c.rules[k]!).left.length) (b := (c.rules[k]!).left) (by simp only [List.length_take]; omega) ho.1
        rw [decide_eq_true hm] at ce
        have cp := putW hy (xs := X) (s := ⟨(c.rules[k]!).left.length, (c.rules[k]!).right, false, (c.rules[k]!).cost⟩) (p := .sl 1 (is (c.rules[k]!).right)) hX hright (.refl _)
        have e4 : st4 rest (c.rules[k]!) = some ⟨(c.rules[k]!).left.length, (c.rules[k]!).right, false, (c.rules[k]!).cost⟩ := by unfold st4; rw [if_pos hm]
        rw [e4] at hst
        unfold St2 at cp
        have c0_ := ce; have c1_ := cp; refine goX (And.intro @hmin @is_take) ?_; first | exact trivial | skip
        refine ⟨k + 1, by omega, ?_, ?_, by omega⟩
        · simp (disch := omega) only [go_sem, keepL, Int.natCast_add, Int.cast_ofNat_Int]
        · rw [hst, ← List.append_assoc, hXX]
          simp (disch := omega) only [go_sem, keepL]
      · by_cases hn : (c.rules[k]!).left.length ≤ rest.length
        · have hmin : min ((c.rules[k]!).left.length : Int) (rest.length : Int) = ((c.rules[k]!).left.length : Int) := by omega
          have ce := sEqual (a := rest.take (c.rules[k]!).left.length) (b := (c.rules[k]!).left) (by simp only [List.length_take]; omega) ho.1
          rw [decide_eq_false hm] at ce
          have cp := putN (Y := Y) (xs := X) (e := (c.rules[k]!).left.length) (p := .sl 1 (is (c.rules[k]!).right)) (a := false) (c := (c.rules[k]!).cost)
          have e4 : st4 rest (c.rules[k]!) = none := by unfold st4; rw [if_neg hm]
          rw [e4] at hst
          unfold St2 at cp
          have c0_ := ce; have c1_ := cp; refine goX (And.intro @hmin @is_take) ?_; first | exact trivial | skip
          refine ⟨k + 1, by omega, ?_, ?_, by omega⟩
          · simp (disch := omega) only [go_sem, keepL, Int.natCast_add, Int.cast_ofNat_Int]
          · simp only [List.append_nil] at hst
            rw [hst, hXX]
            simp (disch := omega) only [go_sem, keepL]
        · have cp := putN (Y := Y) (xs := X) (e := (c.rules[k]!).left.length) (p := .sl 1 (is (c.rules[k]!).right)) (a := false) (c := (c.rules[k]!).cost)
          have e4 : st4 rest (c.rules[k]!) = none := by unfold st4; rw [if_neg hm]
          rw [e4] at hst
          unfold St2 at cp
          have c0_ := cp; refine goT ?_; first | exact trivial | skip
          refine ⟨k + 1, by omega, ?_, ?_, by omega⟩
          · simp (disch := omega) only [go_sem, keepL, Int.natCast_add, Int.cast_ofNat_Int]
          · simp only [List.append_nil] at hst
            rw [hst, hXX]
            simp (disch := omega) only [go_sem, keepL]
    · have hkl : k = c.rules.length := by omega
      subst hkl
      rw [List.take_length]
      rw [show stAt c rest = st3 c rest ++ c.rules.filterMap (st4 rest) from rfl]
      refine goT ?_; first | exact trivial | skip
  have eD' : ((is q).take q.length).drop i = .int .i64 x :: .int .i64 y :: is t := by rw [eD, h0]; rfl
  by_cases hxy : x = y
  · subst hxy
    have e3 : st3 c rest = [⟨1, [x], false, 0⟩, ⟨1, [], true, c.other⟩, ⟨1, [], false, c.less⟩, ⟨0, [], true, c.more⟩] := by rw [h0]; simp [st3, st1, st2]
    have n0 := putW hy (xs := []) (s := ⟨1, [x], false, 0⟩) (p := .sl 1 [.int .i64 x]) (by simp) (by simp) (.refl _)
    have n1 := putW hy (xs := [⟨1, [x], false, 0⟩]) (s := ⟨1, [], true, c.other⟩) (p := .nils) (by simp) (by simp) (.nil 1)
    have n2 := putW hy (xs := [⟨1, [x], false, 0⟩, ⟨1, [], true, c.other⟩]) (s := ⟨1, [], false, c.less⟩) (p := .nils) (by simp) (by simp) (.nil 1)
    have n3 := putN (Y := Y) (xs := [⟨1, [x], false, 0⟩, ⟨1, [], true, c.other⟩, ⟨1, [], false, c.less⟩]) (e := 2) (p := .sl 1 [.int .i64 x, .int .i64 x]) (a := false) (c := c.turned)
    have n4 := hyN hy (xs := [⟨1, [x], false, 0⟩, ⟨1, [], true, c.other⟩, ⟨1, [], false, c.less⟩]) (s := ⟨0, [], true, c.more⟩) (by simp) rfl
    unfold St2 at n0 n1 n2 n3
    unfold St at n4 ⊢
    refine SoundM.run (N := 120) (ks := [0, 1, 2]) Tryz.func101 rfl (by kernel_rfl) rfl rfl rfl (by first | exact argsA_0 | exact argsA_1 | exact argsA_2 | exact argsA_3 | exact argsA_4 | exact argsA_5 | exact argsA_6) fun X_ ν_ w_ => ?_
    have c0_ := n0; have c1_ := n1; have c2_ := n2; repeat ((fail_if_success (with_reducible show WP _ _ (.region 10 _ _) _ _)); first | with_reducible exact Ev.nil | with_reducible exact gd_n | ((with_reducible apply lk_ok); rfl) | ((with_reducible apply gslot_ok); rfl) | ((with_reducible apply v2d_ok); rfl) | with_reducible apply then_n | with_reducible apply WP_seq | with_reducible apply WP_skip | ((with_reducible apply WP_r (N := 120) rfl rfl); (focus simp only [Nat.reduceAdd] <;> rfl)) | ((with_reducible apply WP_d (N := 120) mixed rfl rfl); (focus simp only [Nat.reduceAdd] <;> rfl)) | ((with_reducible apply Ev_s); (focus first | (apply gd_u; (focus rfl); rfl) | (apply gd_f; (focus rfl); (focus rfl); rfl))) | ((with_reducible apply Ev_sn); (focus first | (apply gd_u; (focus rfl); rfl) | (apply gd_f; (focus rfl); (focus rfl); rfl))) | with_reducible apply gd_t | with_reducible apply Ev_mv | with_reducible apply Ev_as | with_reducible apply Ev_mc | with_reducible apply Ev_ac | ((first | (with_reducible apply Ev_pt) | (with_reducible apply Ev_ptc)); (focus rfl)) | ((first | (with_reducible apply Ev_pf) | (with_reducible apply Ev_pfc)); (focus rfl)) | (apply Ev_cf; (focus simp (disch := omega) only [go_sem, eD'] <;> rfl); (focus fail); (focus rfl); (focus first | (simp (disch := omega) only [go_sem, eD'] <;> rfl) | rfl)) | ((with_reducible apply Ev_d); (focus simp only [Nat.reduceAdd] <;> rfl); (focus simp (disch := omega) only [go_sem, eD'] <;> rfl)) | (apply Ev_cv; (focus rfl); (focus simp (disch := omega) only [go_sem, eD'] <;> rfl); (focus fail); (iterate 3 (focus first | (simp (disch := omega) only [go_sem, eD'] <;> rfl) | rfl))) | ((first | apply Ev_cmd | apply Ev_cmn); (focus simp only [Nat.reduceAdd] <;> rfl); (focus rfl); (iterate 2 (focus simp (disch := omega) only [go_sem, eD'] <;> rfl)); (first | (exact c0_; (iterate 2 (focus first | (simp (disch := omega) only [go_sem, eD'] <;> rfl) | rfl)); (focus rfl); (iterate 3 (focus first | (simp (disch := omega) only [go_sem, eD'] <;> rfl) | rfl))) | (exact c1_; (iterate 2 (focus first | (simp (disch := omega) only [go_sem, eD'] <;> rfl) | rfl)); (focus rfl); (iterate 3 (focus first | (simp (disch := omega) only [go_sem, eD'] <;> rfl) | rfl))) | (exact c2_; (iterate 2 (focus first | (simp (disch := omega) only [go_sem, eD'] <;> rfl) | rfl)); (focus rfl); (iterate 3 (focus first | (simp (disch := omega) only [go_sem, eD'] <;> rfl) | rfl))))) | ((first | (with_reducible apply Ev_od) | (with_reducible apply Ev_on)); (focus simp only [Nat.reduceAdd] <;> rfl); (focus simp (disch := omega) only [go_sem, eD'] <;> rfl); (focus first | (simp (disch := omega) only [go_sem, eD'] <;> rfl) | rfl)) | with_reducible apply endM_n | with_reducible apply endM_r | with_reducible apply then_r | with_reducible apply then_x | with_reducible apply block_n | with_reducible apply block_r | with_reducible apply block_x | with_reducible apply block_y rfl | with_reducible apply scope_n | with_reducible apply scope_r | with_reducible apply scope_x | with_reducible apply end_n | with_reducible apply end_r | with_reducible apply WP_block | with_reducible apply WP_exit | with_reducible apply WP_ret | with_reducible apply WP_label | with_reducible apply WP_scope | ((with_reducible apply WP_t); (focus first | (simp (disch := omega) only [go_sem, eD'] <;> rfl) | rfl)) | ((with_reducible apply WP_f); (focus first | (simp (disch := omega) only [go_sem, eD'] <;> rfl) | rfl)) | ((with_reducible apply resD_t); (focus rfl)) | ((with_reducible apply resD_2); (focus rfl); (focus rfl)) | (with_reducible rfl) | ((with_reducible show List.map outKeys _ = _); simp only [List.map_cons, List.map_nil, outKeys, keys]; rfl) | ((with_reducible show orderOk _ _ = true); kernel_rfl) | ((with_reducible show _ = _); simp (disch := omega) only [go_sem, eD'] <;> rfl) | ((fail_if_success (with_reducible show Ev _ _ _ _ (_ :: _) _ _ _ _ _)); (show Ev _ _ _ _ (_ :: _) _ _ _ _ _)) | fail)
    refine WP_datd 9 rfl rfl (by simp (disch := omega) only [go_sem, dels]; rfl) ?_
    have c0_ := n0; have c1_ := n1; have c2_ := n2; have c3_ := n3; have c4_ := n4; refine goX @eD' ?_; first | exact trivial | skip
    refine WP_loopk (fun k : Nat => k ≤ c.rules.length) (fun k => [(5, .d (.sl 1 (is rest))), (6, .fn 102 [.ref 3 0]), (86, .d (.sl 3 (rs c.rules))), (87, .d (.int .i64 c.rules.length)), (88, .d (.int .i64 k))]) (fun k => [(0, .loop Y [(6, .ref 1 0)] .ready), (1, .var [.own 2 (st3 c rest ++ (c.rules.take k).filterMap (st4 rest)).length]), (2, .row 72 4 (ses (st3 c rest ++ (c.rules.take k).filterMap (st4 rest)))), (3, .var [.yld 0])]) 4 (fun k => c.rules.length - k) [5, 6, 86, 87, 88] [0, 1, 2, 3] 0 (Nat.zero_le _) (by rw [h0]; rfl) (by rw [e3]; rfl) (Nat.le_of_ble_eq_true rfl) (fun _ _ => rfl) (fun _ _ => rfl) fun k hk => ?_
    clear n0 n1 n2 n3 n4
    have hX : (st3 c rest ++ (c.rules.take k).filterMap (st4 rest)).length ≤ 1000 := by
      have h1 := st3_len c rest
      have h2 := st4_len rest (c.rules.take k)
      simp only [List.length_append, List.length_take] at h2 ⊢
      omega
    by_cases hk' : k < c.rules.length
    · have hst := st4_step (rest := rest) hk'
      have ho := rok_get hok hk'
      have hright : (c.rules[k]!).right.length ≤ 1000000 := by rw [getElem!_pos c.rules k hk']; exact hrl _ (List.getElem_mem hk')
      generalize hXX : st3 c rest ++ (c.rules.take k).filterMap (st4 rest) = X at hX ⊢
      by_cases hm : rest.take (c.rules[k]!).left.length = (c.rules[k]!).left
      · have hn : (c.rules[k]!).left.length ≤ rest.length := by
          have := congrArg List.length hm
          simp only [List.length_take] at this
          omega
        have hmin : min ((c.rules[k]!).left.length : Int) (rest.length : Int) = ((c.rules[k]!).left.length : Int) := by omega
        have ce := sEqual (a := rest.take (c.rules[k]!).left.length) (b := (c.rules[k]!).left) (by simp only [List.length_take]; omega) ho.1
        rw [decide_eq_true hm] at ce
        have cp := putW hy (xs := X) (s := ⟨(c.rules[k]!).left.length, (c.rules[k]!).right, false, (c.rules[k]!).cost⟩) (p := .sl 1 (is (c.rules[k]!).right)) hX hright (.refl _)
        have e4 : st4 rest (c.rules[k]!) = some ⟨(c.rules[k]!).left.length, (c.rules[k]!).right, false, (c.rules[k]!).cost⟩ := by unfold st4; rw [if_pos hm]
        rw [e4] at hst
        unfold St2 at cp
        have c0_ := ce; have c1_ := cp; refine goX (And.intro @hmin @is_take) ?_; first | exact trivial | skip
        refine ⟨k + 1, by omega, ?_, ?_, by omega⟩
        · simp (disch := omega) only [go_sem, keepL, Int.natCast_add, Int.cast_ofNat_Int]
        · rw [hst, ← List.append_assoc, hXX]
          simp (disch := omega) only [go_sem, keepL]
      · by_cases hn : (c.rules[k]!).left.length ≤ rest.length
        · have hmin : min ((c.rules[k]!).left.length : Int) (rest.length : Int) = ((c.rules[k]!).left.length : Int) := by omega
          have ce := sEqual (a := rest.take (c.rules[k]!).left.length) (b := (c.rules[k]!).left) (by simp only [List.length_take]; omega) ho.1
          rw [decide_eq_false hm] at ce
          have cp := putN (Y := Y) (xs := X) (e := (c.rules[k]!).left.length) (p := .sl 1 (is (c.rules[k]!).right)) (a := false) (c := (c.rules[k]!).cost)
          have e4 : st4 rest (c.rules[k]!) = none := by unfold st4; rw [if_neg hm]
          rw [e4] at hst
          unfold St2 at cp
          have c0_ := ce; have c1_ := cp; refine goX (And.intro @hmin @is_take) ?_; first | exact trivial | skip
          refine ⟨k + 1, by omega, ?_, ?_, by omega⟩
          · simp (disch := omega) only [go_sem, keepL, Int.natCast_add, Int.cast_ofNat_Int]
          · simp only [List.append_nil] at hst
            rw [hst, hXX]
            simp (disch := omega) only [go_sem, keepL]
        · have cp := putN (Y := Y) (xs := X) (e := (c.rules[k]!).left.length) (p := .sl 1 (is (c.rules[k]!).right)) (a := false) (c := (c.rules[k]!).cost)
          have e4 : st4 rest (c.rules[k]!) = none := by unfold st4; rw [if_neg hm]
          rw [e4] at hst
          unfold St2 at cp
          have c0_ := cp; refine goT ?_; first | exact trivial | skip
          refine ⟨k + 1, by omega, ?_, ?_, by omega⟩
          · simp (disch := omega) only [go_sem, keepL, Int.natCast_add, Int.cast_ofNat_Int]
          · simp only [List.append_nil] at hst
            rw [hst, hXX]
            simp (disch := omega) only [go_sem, keepL]
    · have hkl : k = c.rules.length := by omega
      subst hkl
      rw [List.take_length]
      rw [show stAt c rest = st3 c rest ++ c.rules.filterMap (st4 rest) from rfl]
      refine goT ?_; first | exact trivial | skip
  · have e3 : st3 c rest = [⟨1, [x], false, 0⟩, ⟨1, [], true, c.other⟩, ⟨1, [], false, c.less⟩, ⟨2, [y, x], false, c.turned⟩, ⟨0, [], true, c.more⟩] := by rw [h0]; simp [st3, st1, st2, hxy]
    have n0 := putW hy (xs := []) (s := ⟨1, [x], false, 0⟩) (p := .sl 1 [.int .i64 x]) (by simp) (by simp) (.refl _)
    have n1 := putW hy (xs := [⟨1, [x], false, 0⟩]) (s := ⟨1, [], true, c.other⟩) (p := .nils) (by simp) (by simp) (.nil 1)
    have n2 := putW hy (xs := [⟨1, [x], false, 0⟩, ⟨1, [], true, c.other⟩]) (s := ⟨1, [], false, c.less⟩) (p := .nils) (by simp) (by simp) (.nil 1)
    have n3 := putW hy (xs := [⟨1, [x], false, 0⟩, ⟨1, [], true, c.other⟩, ⟨1, [], false, c.less⟩]) (s := ⟨2, [y, x], false, c.turned⟩) (p := .sl 1 [.int .i64 y, .int .i64 x]) (by simp) (by simp) (.refl _)
    have n4 := hyN hy (xs := [⟨1, [x], false, 0⟩, ⟨1, [], true, c.other⟩, ⟨1, [], false, c.less⟩, ⟨2, [y, x], false, c.turned⟩]) (s := ⟨0, [], true, c.more⟩) (by simp) rfl
    have hyx : ¬ y = x := fun h => hxy h.symm
    unfold St2 at n0 n1 n2 n3
    unfold St at n4 ⊢
    refine SoundM.run (N := 120) (ks := [0, 1, 2]) Tryz.func101 rfl (by kernel_rfl) rfl rfl rfl (by first | exact argsA_0 | exact argsA_1 | exact argsA_2 | exact argsA_3 | exact argsA_4 | exact argsA_5 | exact argsA_6) fun X_ ν_ w_ => ?_
    have c0_ := n0; have c1_ := n1; have c2_ := n2; repeat ((fail_if_success (with_reducible show WP _ _ (.region 10 _ _) _ _)); first | with_reducible exact Ev.nil | with_reducible exact gd_n | ((with_reducible apply lk_ok); rfl) | ((with_reducible apply gslot_ok); rfl) | ((with_reducible apply v2d_ok); rfl) | with_reducible apply then_n | with_reducible apply WP_seq | with_reducible apply WP_skip | ((with_reducible apply WP_r (N := 120) rfl rfl); (focus simp only [Nat.reduceAdd] <;> rfl)) | ((with_reducible apply WP_d (N := 120) mixed rfl rfl); (focus simp only [Nat.reduceAdd] <;> rfl)) | ((with_reducible apply Ev_s); (focus first | (apply gd_u; (focus rfl); rfl) | (apply gd_f; (focus rfl); (focus rfl); rfl))) | ((with_reducible apply Ev_sn); (focus first | (apply gd_u; (focus rfl); rfl) | (apply gd_f; (focus rfl); (focus rfl); rfl))) | with_reducible apply gd_t | with_reducible apply Ev_mv | with_reducible apply Ev_as | with_reducible apply Ev_mc | with_reducible apply Ev_ac | ((first | (with_reducible apply Ev_pt) | (with_reducible apply Ev_ptc)); (focus rfl)) | ((first | (with_reducible apply Ev_pf) | (with_reducible apply Ev_pfc)); (focus rfl)) | (apply Ev_cf; (focus simp (disch := omega) only [go_sem, eD'] <;> rfl); (focus fail); (focus rfl); (focus first | (simp (disch := omega) only [go_sem, eD'] <;> rfl) | rfl)) | ((with_reducible apply Ev_d); (focus simp only [Nat.reduceAdd] <;> rfl); (focus simp (disch := omega) only [go_sem, eD'] <;> rfl)) | (apply Ev_cv; (focus rfl); (focus simp (disch := omega) only [go_sem, eD'] <;> rfl); (focus fail); (iterate 3 (focus first | (simp (disch := omega) only [go_sem, eD'] <;> rfl) | rfl))) | ((first | apply Ev_cmd | apply Ev_cmn); (focus simp only [Nat.reduceAdd] <;> rfl); (focus rfl); (iterate 2 (focus simp (disch := omega) only [go_sem, eD'] <;> rfl)); (first | (exact c0_; (iterate 2 (focus first | (simp (disch := omega) only [go_sem, eD'] <;> rfl) | rfl)); (focus rfl); (iterate 3 (focus first | (simp (disch := omega) only [go_sem, eD'] <;> rfl) | rfl))) | (exact c1_; (iterate 2 (focus first | (simp (disch := omega) only [go_sem, eD'] <;> rfl) | rfl)); (focus rfl); (iterate 3 (focus first | (simp (disch := omega) only [go_sem, eD'] <;> rfl) | rfl))) | (exact c2_; (iterate 2 (focus first | (simp (disch := omega) only [go_sem, eD'] <;> rfl) | rfl)); (focus rfl); (iterate 3 (focus first | (simp (disch := omega) only [go_sem, eD'] <;> rfl) | rfl))))) | ((first | (with_reducible apply Ev_od) | (with_reducible apply Ev_on)); (focus simp only [Nat.reduceAdd] <;> rfl); (focus simp (disch := omega) only [go_sem, eD'] <;> rfl); (focus first | (simp (disch := omega) only [go_sem, eD'] <;> rfl) | rfl)) | with_reducible apply endM_n | with_reducible apply endM_r | with_reducible apply then_r | with_reducible apply then_x | with_reducible apply block_n | with_reducible apply block_r | with_reducible apply block_x | with_reducible apply block_y rfl | with_reducible apply scope_n | with_reducible apply scope_r | with_reducible apply scope_x | with_reducible apply end_n | with_reducible apply end_r | with_reducible apply WP_block | with_reducible apply WP_exit | with_reducible apply WP_ret | with_reducible apply WP_label | with_reducible apply WP_scope | ((with_reducible apply WP_t); (focus first | (simp (disch := omega) only [go_sem, eD'] <;> rfl) | rfl)) | ((with_reducible apply WP_f); (focus first | (simp (disch := omega) only [go_sem, eD'] <;> rfl) | rfl)) | ((with_reducible apply resD_t); (focus rfl)) | ((with_reducible apply resD_2); (focus rfl); (focus rfl)) | (with_reducible rfl) | ((with_reducible show List.map outKeys _ = _); simp only [List.map_cons, List.map_nil, outKeys, keys]; rfl) | ((with_reducible show orderOk _ _ = true); kernel_rfl) | ((with_reducible show _ = _); simp (disch := omega) only [go_sem, eD'] <;> rfl) | ((fail_if_success (with_reducible show Ev _ _ _ _ (_ :: _) _ _ _ _ _)); (show Ev _ _ _ _ (_ :: _) _ _ _ _ _)) | fail)
    refine WP_datd 9 rfl rfl (by simp (disch := omega) only [go_sem, dels]; rfl) ?_
    have c0_ := n0; have c1_ := n1; have c2_ := n2; have c3_ := n3; have c4_ := n4; refine goX (And.intro @eD' @hyx) ?_; first | exact trivial | skip
    refine WP_loopk (fun k : Nat => k ≤ c.rules.length) (fun k => [(5, .d (.sl 1 (is rest))), (6, .fn 102 [.ref 3 0]), (86, .d (.sl 3 (rs c.rules))), (87, .d (.int .i64 c.rules.length)), (88, .d (.int .i64 k))]) (fun k => [(0, .loop Y [(6, .ref 1 0)] .ready), (1, .var [.own 2 (st3 c rest ++ (c.rules.take k).filterMap (st4 rest)).length]), (2, .row 72 4 (ses (st3 c rest ++ (c.rules.take k).filterMap (st4 rest)))), (3, .var [.yld 0])]) 4 (fun k => c.rules.length - k) [5, 6, 86, 87, 88] [0, 1, 2, 3] 0 (Nat.zero_le _) (by rw [h0]; rfl) (by rw [e3]; rfl) (Nat.le_of_ble_eq_true rfl) (fun _ _ => rfl) (fun _ _ => rfl) fun k hk => ?_
    clear n0 n1 n2 n3 n4
    have hX : (st3 c rest ++ (c.rules.take k).filterMap (st4 rest)).length ≤ 1000 := by
      have h1 := st3_len c rest
      have h2 := st4_len rest (c.rules.take k)
      simp only [List.length_append, List.length_take] at h2 ⊢
      omega
    by_cases hk' : k < c.rules.length
    · have hst := st4_step (rest := rest) hk'
      have ho := rok_get hok hk'
      have hright : (c.rules[k]!).right.length ≤ 1000000 := by rw [getElem!_pos c.rules k hk']; exact hrl _ (List.getElem_mem hk')
      generalize hXX : st3 c rest ++ (c.rules.take k).filterMap (st4 rest) = X at hX ⊢
      by_cases hm : rest.take (c.rules[k]!).left.length = (c.rules[k]!).left
      · have hn : (c.rules[k]!).left.length ≤ rest.length := by
          have := congrArg List.length hm
          simp only [List.length_take] at this
          omega
        have hmin : min ((c.rules[k]!).left.length : Int) (rest.length : Int) = ((c.rules[k]!).left.length : Int) := by omega
        have ce := sEqual (a := rest.take (c.rules[k]!).left.length) (b := (c.rules[k]!).left) (by simp only [List.length_take]; omega) ho.1
        rw [decide_eq_true hm] at ce
        have cp := putW hy (xs := X) (s := ⟨(c.rules[k]!).left.length, (c.rules[k]!).right, false, (c.rules[k]!).cost⟩) (p := .sl 1 (is (c.rules[k]!).right)) hX hright (.refl _)
        have e4 : st4 rest (c.rules[k]!) = some ⟨(c.rules[k]!).left.length, (c.rules[k]!).right, false, (c.rules[k]!).cost⟩ := by unfold st4; rw [if_pos hm]
        rw [e4] at hst
        unfold St2 at cp
        have c0_ := ce; have c1_ := cp; refine goX (And.intro @hmin @is_take) ?_; first | exact trivial | skip
        refine ⟨k + 1, by omega, ?_, ?_, by omega⟩
        · simp (disch := omega) only [go_sem, keepL, Int.natCast_add, Int.cast_ofNat_Int]
        · rw [hst, ← List.append_assoc, hXX]
          simp (disch := omega) only [go_sem, keepL]
      · by_cases hn : (c.rules[k]!).left.length ≤ rest.length
        · have hmin : min ((c.rules[k]!).left.length : Int) (rest.length : Int) = ((c.rules[k]!).left.length : Int) := by omega
          have ce := sEqual (a := rest.take (c.rules[k]!).left.length) (b := (c.rules[k]!).left) (by simp only [List.length_take]; omega) ho.1
          rw [decide_eq_false hm] at ce
          have cp := putN (Y := Y) (xs := X) (e := (c.rules[k]!).left.length) (p := .sl 1 (is (c.rules[k]!).right)) (a := false) (c := (c.rules[k]!).cost)
          have e4 : st4 rest (c.rules[k]!) = none := by unfold st4; rw [if_neg hm]
          rw [e4] at hst
          unfold St2 at cp
          have c0_ := ce; have c1_ := cp; refine goX (And.intro @hmin @is_take) ?_; first | exact trivial | skip
          refine ⟨k + 1, by omega, ?_, ?_, by omega⟩
          · simp (disch := omega) only [go_sem, keepL, Int.natCast_add, Int.cast_ofNat_Int]
          · simp only [List.append_nil] at hst
            rw [hst, hXX]
            simp (disch := omega) only [go_sem, keepL]
        · have cp := putN (Y := Y) (xs := X) (e := (c.rules[k]!).left.length) (p := .sl 1 (is (c.rules[k]!).right)) (a := false) (c := (c.rules[k]!).cost)
          have e4 : st4 rest (c.rules[k]!) = none := by unfold st4; rw [if_neg hm]
          rw [e4] at hst
          unfold St2 at cp
          have c0_ := cp; refine goT ?_; first | exact trivial | skip
          refine ⟨k + 1, by omega, ?_, ?_, by omega⟩
          · simp (disch := omega) only [go_sem, keepL, Int.natCast_add, Int.cast_ofNat_Int]
          · simp only [List.append_nil] at hst
            rw [hst, hXX]
            simp (disch := omega) only [go_sem, keepL]
    · have hkl : k = c.rules.length := by omega
      subst hkl
      rw [List.take_length]
      rw [show stAt c rest = st3 c rest ++ c.rules.filterMap (st4 rest) from rfl]
      refine goT ?_; first | exact trivial | skip
end Go.Eng.Tryz
set_option linter.unusedVariables false
set_option linter.unusedSimpArgs false
namespace Go.Eng.Tryz
open Go Go.Eng Go.Proofs Go.RowKit
attribute [local go_sem] tys
attribute [local go_sem] is_len is_get rs_len rs_get ses_len ses_get ses_snoc dels
set_option maxHeartbeats 4000000 in
set_option maxRecDepth 10000 in
theorem pMay {c : Co} {q : List Int} {i : Int} : SoundM Tryz.prog 75 [.d (co c), .d (.sl 1 (is q)), .d (.int .i64 i)] []
    (.fn 101 [.dref [.sl 1 (is q)], .dref [.int .i64 i], .dref [.int .u64 c.more, .int .u64 c.less, .int .u64 c.other, .int .u64 c.turned, .sl 3 (rs c.rules)]]) [] 0 := by
  have h : SoundM Tryz.prog 75 [.d (co c), .d (.sl 1 (is q)), .d (.int .i64 i)] [] (.fn 101 [.ref 1 0, .ref 2 0, .ref 0 0])
      [(0, .var [.d (.int .u64 c.more), .d (.int .u64 c.less), .d (.int .u64 c.other), .d (.int .u64 c.turned), .d (.sl 3 (rs c.rules))]), (1, .var [.d (.sl 1 (is q))]), (2, .var [.d (.int .i64 i)])] 0 := by
    unfold co
    refine SoundM.run (N := 8) (ks := [0, 1, 2]) Tryz.func75 rfl (by kernel_rfl) rfl rfl rfl (by first | exact argsA_0 | exact argsA_1 | exact argsA_2 | exact argsA_3 | exact argsA_4 | exact argsA_5 | exact argsA_6) fun X_ ν_ w_ => ?_
    refine goT ?_; first | exact trivial | skip
  exact h.freeze rfl
set_option maxHeartbeats 16000000 in
set_option maxRecDepth 10000 in
theorem pOfS {c : Co} {q : List Int} {i : Nat} (hc : c.ok) (hq : q.length ≤ 1000000) (hi : i ≤ q.length) (hr : c.rules.length ≤ 900) (hrl : ∀ r ∈ c.rules, r.right.length ≤ 1000000) :
    Sound Tryz.prog 54 [co c, .sl 1 (is q), .int .i64 i] (.sl 4 (ses (stAt c (q.drop i)))) := by
  have cm := pMay (c := c) (q := q) (i := i)
  unfold co at cm ⊢
  refine Sound.run (N := 22) Tryz.func54 rfl (by kernel_rfl) rfl rfl rfl (by first | exact args0_0 | exact args0_1 | exact args0_2 | exact args0_3 | exact args0_4 | exact args0_5 | exact args0_6) fun X_ w_ => ?_
  have c0_ := cm; refine goT ?_; first | exact trivial | skip
  refine WP_ownv 1 0 3000 72 4 rfl rfl (by decide) (by decide) (by simp (disch := omega) only [go_sem]; rfl) ?_
  refine WP_keepd [6, 11] [1, 3000] 3001 (Nat.le_of_ble_eq_true rfl) (by simp (disch := omega) only [go_sem, keepL, List.set_cons_zero, List.set_cons_succ] <;> rfl) (by simp (disch := omega) only [go_sem, keepL, List.set_cons_zero, List.set_cons_succ] <;> rfl) rfl rfl ?_
  refine WP_rangeR (cs := [(6, .ref 1 0)]) rfl rfl rfl (by simp (disch := omega) only [go_sem, envOk]) rfl rfl (by simp (disch := omega) only [go_sem, St, ses_nil, List.length_nil]; rfl) (pMay1 (Y := ⟨22, #[12], _, _⟩) ?hy hc hq hi hr hrl) rfl (by first | (simp (disch := omega) only [go_sem, St, ses_nil, List.length_nil] <;> rfl) | rfl) (by first | (simp (disch := omega) only [go_sem, St, ses_nil, List.length_nil] <;> rfl) | rfl) rfl (by first | (simp (disch := omega) only [go_sem, St, ses_nil, List.length_nil] <;> rfl) | rfl) (by first | (simp (disch := omega) only [go_sem, St, ses_nil, List.length_nil] <;> rfl) | rfl) (by first | (simp (disch := omega) only [go_sem, St, ses_nil, List.length_nil] <;> rfl) | rfl) ?_
  · intro xs s hx hs
    have ccl := pClone hs
    unfold St se
    refine SoundY.run (N := 22) (ps := [12]) (ks := [0, 1, 2]) rfl rfl rfl rfl rfl (by simp (disch := omega) only [go_sem]; rfl) fun l_ X_ ν_ w_ => ?_; dsimp only
    refine goT ?_; first | exact trivial | skip
    refine round_b (by simp (disch := omega) only [go_sem] <;> rfl) (by simp (disch := omega) only [go_sem] <;> rfl) ?_; dsimp only
    have c0_ := ccl; refine goT ?_; first | exact trivial | skip
  · refine goT ?_; first | exact trivial | skip
end Go.Eng.Tryz

/- Steps: at a place, and at each; the document's answer. (and what stands behind it: texts laid together) -/
import Derived.Test.YtbnhblimckdcgaaGreatMG4
import Derived.Test.YtbnhblimckdcgaaGreatMR9
set_option linter.unusedVariables false
set_option linter.unusedSimpArgs false
namespace Go.Eng.Tryz
open Go Go.Eng Go.Proofs Go.RowKit
attribute [local go_sem] tys
attribute [local go_sem] is_len is_get rs_len rs_get ses_len ses_get ses_snoc dels
theorem fit_lens {r : Ru} (h : fit r = true) : r.left.length ≤ 8 ∧ r.right.length ≤ 8 := by
  simp only [fit, Bool.and_eq_true] at h
  obtain ⟨h1, h2, _, _⟩ := rok_iff.1 h.1.1
  exact ⟨sok_len h1, sok_len h2⟩
theorem cok_rules {c : Co} (h : cok c = true) : c.rules.length ≤ 200 ∧ ∀ r ∈ c.rules, r.left.length ≤ 8 ∧ r.right.length ≤ 8 := by
  obtain ⟨_, h2, h3, _⟩ := cok_iff.1 h
  exact ⟨h2, fun r hr => fit_lens (List.all_eq_true.1 h3 r hr)⟩
set_option maxHeartbeats 4000000 in
set_option maxRecDepth 10000 in
theorem pWrong {c : Co} {q : List Int} (hc : c.ok) (hq : q.length ≤ 9223372036854775807) : Sound Tryz.prog 43 [co c, .sl 1 (is q)] (.bool (!(decide (q.length ≤ 20) && cok c))) := by
  have cc := sCheck hc
  unfold co at cc ⊢
  by_cases h : q.length ≤ 20
  · have e : (!(decide (q.length ≤ 20) && cok c)) = !cok c := by simp [h]
    refine Sound.run (N := 13) Tryz.func43 rfl (by kernel_rfl) rfl rfl rfl (by first | exact args0_0 | exact args0_1 | exact args0_2 | exact args0_3 | exact args0_4 | exact args0_5 | exact args0_6) fun X_ w_ => ?_
    have c0_ := cc; refine goX @e ?_; first | exact trivial | skip
  · have e : (!(decide (q.length ≤ 20) && cok c)) = true := by simp [h]
    refine Sound.run (N := 13) Tryz.func43 rfl (by kernel_rfl) rfl rfl rfl (by first | exact args0_0 | exact args0_1 | exact args0_2 | exact args0_3 | exact args0_4 | exact args0_5 | exact args0_6) fun X_ w_ => ?_
    have c0_ := cc; refine goX @e ?_; first | exact trivial | skip
/-- May it be asked? -/
def may (c : Co) (q : List Int) : Bool := decide (q.length ≤ 20) && cok c
theorem may_iff {c : Co} {q : List Int} : may c q = true ↔ q.length ≤ 20 ∧ cok c = true := by simp [may]
def stepsAt (c : Co) (q : List Int) (i : Int) : List Se := if may c q = true ∧ 0 ≤ i ∧ i ≤ q.length then stAt c (q.drop i.toNat) else []
def sss (l : List (List Se)) : List D := l.map fun x => .sl 4 (ses x)
theorem sss_len {l : List (List Se)} : (sss l).length = l.length := by simp [sss]
theorem sss_get {l : List (List Se)} {k : Nat} (h : k < l.length) : (sss l)[k]? = some (.sl 4 (ses (l[k]!))) := by simp [sss, List.getElem?_eq_getElem h, getElem!_pos l k h]
theorem sss_snoc {l : List (List Se)} {x : List Se} : sss l ++ [.sl 4 (ses x)] = sss (l ++ [x]) := by simp [sss]
attribute [local go_sem] sss_len sss_get sss_snoc
def allF (c : Co) (q : List Int) (n : Nat) : List (List Se) := (List.range n).map fun i => stAt c (q.drop i)
theorem allF_len (c : Co) (q : List Int) (n : Nat) : (allF c q n).length = n := by simp [allF]
theorem allF_step (c : Co) (q : List Int) (n : Nat) : allF c q (n + 1) = allF c q n ++ [stAt c (q.drop n)] := by simp [allF, List.range_succ]
def stepsAll (c : Co) (q : List Int) : List (List Se) := if may c q = true then allF c q (q.length + 1) else []
set_option maxHeartbeats 4000000 in
set_option maxRecDepth 10000 in
theorem pAll {c : Co} {q : List Int} (hc : c.ok) (hq : q.length ≤ 9223372036854775807) : Sound Tryz.prog 23 [co c, .sl 1 (is q)] (.sl 1 (sss (stepsAll c q))) := by
  have cw := pWrong hc hq
  rw [show (!(decide (q.length ≤ 20) && cok c)) = !may c q from rfl] at cw
  cases hm : may c q
  · have e : stepsAll c q = [] := if_neg (by simp [hm])
    rw [e]
    rw [hm] at cw
    refine Sound.wk (r := .nils) ?_ (Wks.refl _) (.nil 1)
    unfold co at cw ⊢
    refine Sound.run (N := 24) Tryz.func23 rfl (by kernel_rfl) rfl rfl rfl (by first | exact args0_0 | exact args0_1 | exact args0_2 | exact args0_3 | exact args0_4 | exact args0_5 | exact args0_6) fun X_ w_ => ?_
    have c0_ := cw; refine goT ?_; first | exact trivial | skip
  · obtain ⟨hl, hk⟩ := may_iff.1 hm
    obtain ⟨k1, k2⟩ := cok_rules hk
    have e : stepsAll c q = allF c q (q.length + 1) := if_pos hm
    rw [e]
    rw [hm] at cw
    have co' := fun (n : Nat) (hn : n ≤ q.length) => pOfS (q := q) (i := n) hc (by omega) hn (by omega) (fun r hr => Nat.le_trans (k2 r hr).2 (by decide))
    unfold co at cw co' ⊢
    refine Sound.run (N := 24) Tryz.func23 rfl (by kernel_rfl) rfl rfl rfl (by first | exact args0_0 | exact args0_1 | exact args0_2 | exact args0_3 | exact args0_4 | exact args0_5 | exact args0_6) fun X_ w_ => ?_
    have c0_ := cw; refine goT ?_; first | exact trivial | skip
    refine WP_own 4 20000 58 1 rfl (by decide) (Nat.le_of_ble_eq_true rfl) ?_
    refine WP_loopk (fun k : Nat => k ≤ q.length + 1) (fun k => [(1, .d (.sl 1 (is q))), (2, .ref 0 0), (4, .own 20000 (allF c q k).length), (11, .d (.int .i64 ((q.length : Int) + 1))), (12, .d (.int .i64 k))]) (fun k => [(0, .var [.d (.int .u64 c.more), .d (.int .u64 c.less), .d (.int .u64 c.other), .d (.int .u64 c.turned), .d (.sl 3 (rs c.rules))]), (20000, .row 58 1 (sss (allF c q k)))]) 20001 (fun k => q.length + 1 - k) [1, 2, 4, 11, 12] [0, 20000] 0 (Nat.zero_le _) rfl rfl (Nat.zero_le _) (fun _ _ => rfl) (fun _ _ => rfl) fun k hk => ?_
    have al := allF_len c q k
    by_cases hk' : k < q.length + 1
    · have ck := co' k (by omega)
      have hst := allF_step c q k
      have c0_ := ck; refine goX @al ?_; first | exact trivial | skip
      refine ⟨k + 1, by omega, ?_, ?_, by omega⟩
      · simp (disch := omega) only [go_sem, keepL, Int.natCast_add, Int.cast_ofNat_Int, hst, al, List.length_append, List.length_cons, List.length_nil]
      · simp (disch := omega) only [go_sem, keepL, hst]
    · have hkl : k = q.length + 1 := by omega
      subst hkl
      refine goX @al ?_; first | exact trivial | skip
end Go.Eng.Tryz

/- Costs: whether they may be. (and what stands behind it: texts laid together) -/
import Derived.Test.YtbnhblimckdcgaaGreatMG4
import Derived.Test.YtbnhblimckdcgaaGreatMR6
import Derived.Test.YtbnhblimckdcgaaGreatMR5
import Derived.Test.YtbnhblimckdcgaaGreatMR7
set_option linter.unusedVariables false
set_option linter.unusedSimpArgs false
namespace Go.Eng.Tryz
open Go Go.Eng Go.Proofs Go.RowKit
attribute [local go_sem] tys
attribute [local go_sem] is_len is_get rs_len rs_get
theorem rtake {a b : List Ru} {k : Nat} (hw : a.take k = b.take k) (h1 : k < a.length) (h2 : k < b.length) (h : a[k]! = b[k]!) : a.take (k + 1) = b.take (k + 1) := by
  rw [rtake_snoc h1, rtake_snoc h2, hw, h]
set_option maxHeartbeats 4000000 in
set_option maxRecDepth 10000 in
theorem sEqualR {a b : List Ru} (ha : ∀ r ∈ a, r.ok) (hb : ∀ r ∈ b, r.ok) (hla : a.length ≤ 9223372036854775807) (hlb : b.length ≤ 9223372036854775807) : Sound Tryz.prog 37 [.sl 3 (rs a), .sl 3 (rs b), .fn 39] (.bool (decide (a = b))) := by
  by_cases hl : a.length = b.length
  · refine Sound.run (N := 32) Tryz.func37 rfl (by kernel_rfl) rfl rfl rfl (by first | exact args0_0 | exact args0_1 | exact args0_2 | exact args0_3 | exact args0_4 | exact args0_5 | exact args0_6) fun X_ w_ => ?_
    refine goT ?_; first | exact trivial | skip
    refine WP_loopk (fun k : Nat => k ≤ a.length ∧ a.take k = b.take k) (fun k => [(1, .d (.sl 3 (rs b))), (2, .d (.fn 39)), (15, .d (.sl 3 (rs a))), (16, .d (.int .i64 a.length)), (17, .d (.int .i64 k))]) (fun _ => []) 0 (fun k => a.length - k) [1, 2, 15, 16, 17] [] 0 ⟨Nat.zero_le _, rfl⟩ rfl rfl (Nat.le_refl _) (fun _ _ => rfl) (fun _ _ => rfl) fun k hk => ?_
    obtain ⟨hk1, hw⟩ := hk
    by_cases hk' : k < a.length
    · have hk2 : k < b.length := by omega
      have c := sSame (rok_get ha hk') (rok_get hb hk2)
      unfold ru at c
      by_cases hc : a[k]! = b[k]!
      · have e := rtake hw hk' hk2 hc
        rw [decide_eq_true hc] at c
        have c0_ := c; refine goT ?_; first | exact trivial | skip
        refine ⟨k + 1, ⟨by omega, e⟩, ?_, rfl, by omega⟩
        simp (disch := omega) only [go_sem, keepL, Int.natCast_add, Int.cast_ofNat_Int]
      · have e : decide (a = b) = false := decide_eq_false fun h => hc (by rw [h])
        rw [decide_eq_false hc] at c
        have c0_ := c; refine goX @e ?_; first | exact trivial | skip
    · have hk' : k = a.length := by omega
      subst hk'
      have e : decide (a = b) = true := decide_eq_true (by rw [List.take_length, hl, List.take_length] at hw; exact hw)
      refine goX @e ?_; first | exact trivial | skip
  · have e : decide (a = b) = false := decide_eq_false fun h => hl (by rw [h])
    refine Sound.run (N := 32) Tryz.func37 rfl (by kernel_rfl) rfl rfl rfl (by first | exact args0_0 | exact args0_1 | exact args0_2 | exact args0_3 | exact args0_4 | exact args0_5 | exact args0_6) fun X_ w_ => ?_
    refine goX @e ?_; first | exact trivial | skip
/-- The greatest of some. -/
def umax (l : List Int) : Int := l.foldl max 0
theorem umax_step {l : List Int} {k : Nat} (h : k < l.length) : umax (l.take (k + 1)) = max (umax (l.take k)) (l[k]!) := by
  unfold umax
  rw [List.take_add_one, List.foldl_append, List.getElem?_eq_getElem h, ← getElem!_pos l k h]
  rfl
theorem if_max {a b : Int} : (if a < b then b else a) = max a b := by split <;> omega
set_option maxHeartbeats 4000000 in
set_option maxRecDepth 10000 in
theorem sMax {l : List Int} (h0 : 0 < l.length) (hl : l.length ≤ 9223372036854775807) (hU : ∀ z ∈ l, 0 ≤ z) : Sound Tryz.prog 34 [.sl 1 (us l)] (.int .u64 (umax l)) := by
  have e1 : umax (l.take 1) = l[0]! := by
    rw [umax_step h0]
    have : 0 ≤ l[0]! := by rw [getElem!_pos l 0 h0]; exact hU _ (List.getElem_mem h0)
    show max 0 _ = _
    omega
  refine Sound.run (N := 25) Tryz.func34 rfl (by kernel_rfl) rfl rfl rfl (by first | exact args0_0 | exact args0_1 | exact args0_2 | exact args0_3 | exact args0_4 | exact args0_5 | exact args0_6) fun X_ w_ => ?_
  refine goT ?_; first | exact trivial | skip
  refine WP_loopk (fun k : Nat => 1 ≤ k ∧ k ≤ l.length) (fun k => [(0, .d (.sl 1 (us l))), (3, .d (.int .u64 (umax (l.take k)))), (4, .d (.int .i64 k))]) (fun _ => []) 0 (fun k => l.length - k) [0, 3, 4] [] 1 ⟨Nat.le_refl _, h0⟩ (by rw [e1]; rfl) rfl (Nat.le_refl _) (fun _ _ => rfl) (fun _ _ => rfl) fun k hk => ?_
  obtain ⟨hk0, hk1⟩ := hk
  by_cases hk' : k < l.length
  · have hst := umax_step hk'
    refine goX @if_max ?_; first | exact trivial | skip
    refine ⟨k + 1, ⟨by omega, by omega⟩, ?_, rfl, by omega⟩
    simp (disch := omega) only [go_sem, keepL, Int.natCast_add, Int.cast_ofNat_Int, hst, if_max]
  · have hkl : k = l.length := by omega
    subst hkl
    rw [List.take_length]
    refine goT ?_; first | exact trivial | skip
/-- Costs. -/
structure Co where
  more : Int
  less : Int
  other : Int
  turned : Int
  rules : List Ru
deriving DecidableEq
def co (c : Co) : D := .agg [.int .u64 c.more, .int .u64 c.less, .int .u64 c.other, .int .u64 c.turned, .sl 3 (rs c.rules)]
def Co.ok (c : Co) : Prop := U c.more ∧ U c.less ∧ U c.other ∧ U c.turned ∧ (∀ r ∈ c.rules, r.ok) ∧ c.rules.length ≤ 9223372036854775807
def cmax (c : Co) : Int := umax [c.more, c.less, c.other, c.turned]
def cok (c : Co) : Bool := decide (cmax c < 18446744073709551615) && decide (c.rules.length ≤ 200) && c.rules.all fit && decide (norm c.rules = c.rules)
theorem cok_iff {c : Co} : cok c = true ↔ cmax c < 18446744073709551615 ∧ c.rules.length ≤ 200 ∧ c.rules.all fit = true ∧ norm c.rules = c.rules := by
  simp [cok, Bool.and_eq_true, and_assoc]
theorem cok_f {c : Co} (h : ¬ (cmax c < 18446744073709551615 ∧ c.rules.length ≤ 200 ∧ c.rules.all fit = true ∧ norm c.rules = c.rules)) : cok c = false := by
  cases hc : cok c with
  | false => rfl
  | true => exact absurd (cok_iff.1 hc) h
theorem any_not {α : Type} (p : α → Bool) (l : List α) : (l.any fun r => !p r) = !l.all p := by
  induction l with
  | nil => rfl
  | cons x l ih => simp [ih]
theorem sSteps {c : Co} (hc : c.ok) : Sound Tryz.prog 35 [co c] (.sl 1 [.int .u64 c.more, .int .u64 c.less, .int .u64 c.other, .int .u64 c.turned]) := by
  unfold co
  refine Sound.run (N := 12) Tryz.func35 rfl (by kernel_rfl) rfl rfl rfl (by first | exact args0_0 | exact args0_1 | exact args0_2 | exact args0_3 | exact args0_4 | exact args0_5 | exact args0_6) fun X_ w_ => ?_
  refine goT ?_; first | exact trivial | skip
set_option maxHeartbeats 4000000 in
set_option maxRecDepth 10000 in
theorem sCheck {c : Co} (hc : c.ok) : Sound Tryz.prog 13 [co c] (.bool (cok c)) := by
  obtain ⟨u1, u2, u3, u4, hr, hl⟩ := hc
  have c0 := sSteps (c := c) ⟨u1, u2, u3, u4, hr, hl⟩
  have c1 : Sound Tryz.prog 34 [.sl 1 [.int .u64 c.more, .int .u64 c.less, .int .u64 c.other, .int .u64 c.turned]] (.int .u64 (cmax c)) :=
    sMax (l := [c.more, c.less, c.other, c.turned]) (by simp) (by simp) (fun z hz => by simp at hz; rcases hz with rfl | rfl | rfl | rfl; exact u1.1; exact u2.1; exact u3.1; exact u4.1)
  have c2 := containsR hr hl
  rw [any_not] at c2
  unfold co at c0 ⊢
  by_cases h1 : cmax c < 18446744073709551615
  · by_cases h2 : c.rules.length ≤ 200
    · cases h3 : c.rules.all fit
      · have e := cok_f (c := c) (fun h => by rw [h.2.2.1] at h3; cases h3)
        rw [h3] at c2
        refine Sound.run (N := 29) Tryz.func13 rfl (by kernel_rfl) rfl rfl rfl (by first | exact args0_0 | exact args0_1 | exact args0_2 | exact args0_3 | exact args0_4 | exact args0_5 | exact args0_6) fun X_ w_ => ?_
        have c0_ := c0; have c1_ := c1; have c2_ := c2; refine goX @e ?_; first | exact trivial | skip
      · rw [h3] at c2
        have c3 := pNorm hr (by omega)
        have c4 := sEqualR (norm_ok hr) hr (Nat.le_trans (norm_len _) (by omega)) hl
        by_cases h4 : norm c.rules = c.rules
        · have e := cok_iff.2 ⟨h1, h2, h3, h4⟩
          rw [decide_eq_true h4] at c4
          refine Sound.run (N := 29) Tryz.func13 rfl (by kernel_rfl) rfl rfl rfl (by first | exact args0_0 | exact args0_1 | exact args0_2 | exact args0_3 | exact args0_4 | exact args0_5 | exact args0_6) fun X_ w_ => ?_
          have c0_ := c0; have c1_ := c1; have c2_ := c2; have c3_ := c3; have c4_ := c4; refine goX @e ?_; first | exact trivial | skip
        · have e := cok_f (c := c) (fun h => h4 h.2.2.2)
          rw [decide_eq_false h4] at c4
          refine Sound.run (N := 29) Tryz.func13 rfl (by kernel_rfl) rfl rfl rfl (by first | exact args0_0 | exact args0_1 | exact args0_2 | exact args0_3 | exact args0_4 | exact args0_5 | exact args0_6) fun X_ w_ => ?_
          have c0_ := c0; have c1_ := c1; have c2_ := c2; have c3_ := c3; have c4_ := c4; refine goX @e ?_; first | exact trivial | skip
    · have e := cok_f (c := c) (fun h => h2 h.2.1)
      refine Sound.run (N := 29) Tryz.func13 rfl (by kernel_rfl) rfl rfl rfl (by first | exact args0_0 | exact args0_1 | exact args0_2 | exact args0_3 | exact args0_4 | exact args0_5 | exact args0_6) fun X_ w_ => ?_
      have c0_ := c0; have c1_ := c1; refine goX @e ?_; first | exact trivial | skip
  · have e := cok_f (c := c) (fun h => h1 h.1)
    refine Sound.run (N := 29) Tryz.func13 rfl (by kernel_rfl) rfl rfl rfl (by first | exact args0_0 | exact args0_1 | exact args0_2 | exact args0_3 | exact args0_4 | exact args0_5 | exact args0_6) fun X_ w_ => ?_
    have c0_ := c0; have c1_ := c1; refine goX @e ?_; first | exact trivial | skip
set_option maxHeartbeats 4000000 in
set_option maxRecDepth 10000 in
theorem rPlain {l : List Int} (hl : l.length ≤ 9223372036854775807) : Sound Tryz.prog 89 [.sl 1 (is l)] (.bool (plainL l)) := by
  refine Sound.run (N := 38) Tryz.func89 rfl (by kernel_rfl) rfl rfl rfl (by first | exact args0_0 | exact args0_1 | exact args0_2 | exact args0_3 | exact args0_4 | exact args0_5 | exact args0_6) fun X_ w_ => ?_
  refine goT ?_; first | exact trivial | skip
  refine WP_loopk (fun k : Nat => k ≤ l.length ∧ (l.take k).any blank = false) (fun k => [(0, .d (.sl 1 (is l))), (3, .d (.int .i64 k))]) (fun _ => []) 0 (fun k => l.length - k) [0, 3] [] 0 ⟨Nat.zero_le _, rfl⟩ rfl rfl (Nat.le_refl _) (fun _ _ => rfl) (fun _ _ => rfl) fun k hk => ?_
  obtain ⟨hk1, hw⟩ := hk
  by_cases hk' : k < l.length
  · have bad : blank (l[k]!) = true → plainL l = false := fun hb => by
      have : l.any blank = true := List.any_eq_true.2 ⟨l[k]!, by rw [getElem!_pos l k hk']; exact List.getElem_mem hk', hb⟩
      unfold plainL; rw [this]; rfl
    by_cases h1 : l[k]! = 9
    · have e := bad (blank_t (by omega))
      refine goX (And.intro @e @h1) ?_; first | exact trivial | skip
    by_cases h2 : l[k]! = 10
    · have e := bad (blank_t (by omega))
      refine goX (And.intro @e (And.intro @h1 @h2)) ?_; first | exact trivial | skip
    by_cases h3 : l[k]! = 32
    · have e := bad (blank_t (by omega))
      refine goX (And.intro @e (And.intro @h1 (And.intro @h2 @h3))) ?_; first | exact trivial | skip
    · have hst := any_step (p := blank) hk' hw (blank_f (by omega))
      refine goX (And.intro @h1 (And.intro @h2 @h3)) ?_; first | exact trivial | skip
      refine ⟨k + 1, ⟨by omega, hst⟩, ?_, rfl, by omega⟩
      simp (disch := omega) only [go_sem, keepL, Int.natCast_add, Int.cast_ofNat_Int]
  · have hkl : k = l.length := by omega
    subst hkl
    rw [List.take_length] at hw
    by_cases h1 : l.length = 1
    · match l, h1 with
      | [z], _ =>
        by_cases h2 : z = 95
        · subst h2
          have e : plainL [95] = false := by decide
          refine goX (And.intro @e @is.eq_1) ?_; first | exact trivial | skip
        · have e : plainL [z] = true := by unfold plainL; rw [hw]; simp [h2]
          refine goX (And.intro @e (And.intro @h2 @is.eq_1)) ?_; first | exact trivial | skip
    · have hne : ¬ l = [95] := fun h => h1 (by rw [h]; rfl)
      have e : plainL l = true := by unfold plainL; rw [hw, decide_eq_true hne]; rfl
      refine goX (And.intro @e @h1) ?_; first | exact trivial | skip
set_option maxHeartbeats 4000000 in
set_option maxRecDepth 10000 in
theorem rFit {r : Ru} (hr : r.ok) : Sound Tryz.prog 67 [ru r] (.bool (fit r)) := by
  have c0 := rRCheck hr
  have c1 := rPlain hr.1
  have c2 := rPlain hr.2.1
  have e : fit r = (rok r && plainL r.left && plainL r.right) := rfl
  unfold ru at c0 ⊢
  cases h0 : rok r <;> cases h1 : plainL r.left <;> cases h2 : plainL r.right <;> rw [h0] at c0 <;> rw [h1] at c1 <;> rw [h2] at c2 <;> simp only [h0, h1, h2, Bool.and_true, Bool.and_false, Bool.false_and] at e
  all_goals refine Sound.run (N := 21) Tryz.func67 rfl (by kernel_rfl) rfl rfl rfl (by first | exact args0_0 | exact args0_1 | exact args0_2 | exact args0_3 | exact args0_4 | exact args0_5 | exact args0_6) fun X_ w_ => ?_
  all_goals (have c0_ := c0; have c1_ := c1; have c2_ := c2; refine goX @e ?_; first | exact trivial | skip)
set_option maxHeartbeats 4000000 in
set_option maxRecDepth 10000 in
theorem rCheck {c : Co} (hc : c.ok) (hlen : c.rules.length ≤ 1000000) : Sound Tryz.prog 46 [co c] (.bool (cok c)) := by
  obtain ⟨u1, u2, u3, u4, hr, hl⟩ := hc
  have e0 : max (max (max c.more c.less) c.other) c.turned = cmax c := by
    have := u1.1
    unfold cmax umax
    simp only [List.foldl_cons, List.foldl_nil]
    omega
  unfold co
  refine Sound.run (N := 46) Tryz.func46 rfl (by kernel_rfl) rfl rfl rfl (by first | exact args0_0 | exact args0_1 | exact args0_2 | exact args0_3 | exact args0_4 | exact args0_5 | exact args0_6) fun X_ w_ => ?_
  refine goT ?_; first | exact trivial | skip
  refine WP_loopk (fun k : Nat => k ≤ c.rules.length ∧ (c.rules.take k).any (fun r => !fit r) = false) (fun k => [(1, .ref 0 0), (3, .d (.int .i64 k))]) (fun _ => [(0, .var [.d (.int .u64 c.more), .d (.int .u64 c.less), .d (.int .u64 c.other), .d (.int .u64 c.turned), .d (.sl 3 (rs c.rules))])]) 1 (fun k => c.rules.length - k) [1, 3] [0] 0 ⟨Nat.zero_le _, rfl⟩ rfl rfl (Nat.zero_le _) (fun _ _ => rfl) (fun _ _ => rfl) fun k hk => ?_
  obtain ⟨hk1, hw⟩ := hk
  by_cases hk' : k < c.rules.length
  · have cf := rFit (rok_get hr hk')
    unfold ru at cf
    cases hg : fit (c.rules[k]!)
    · have e := cok_f (c := c) (fun h => by
        have := List.all_eq_true.1 h.2.2.1 (c.rules[k]!) (by rw [getElem!_pos c.rules k hk']; exact List.getElem_mem hk')
        rw [hg] at this; cases this)
      rw [hg] at cf
      have c0_ := cf; refine goX @e ?_; first | exact trivial | skip
    · have hst := any_step (p := fun r => !fit r) hk' hw (by simp only [hg]; rfl)
      rw [hg] at cf
      have c0_ := cf; refine goT ?_; first | exact trivial | skip
      refine ⟨k + 1, ⟨by omega, hst⟩, ?_, rfl, by omega⟩
      simp (disch := omega) only [go_sem, keepL, Int.natCast_add, Int.cast_ofNat_Int]
  · have hkl : k = c.rules.length := by omega
    subst hkl
    rw [List.take_length, any_not] at hw
    have h3 : c.rules.all fit = true := by simpa using hw
    have c3 := rRNorm hr (by omega)
    have c4 := rSameR (norm_ok hr) hr (Nat.le_trans (norm_len _) (by omega)) hl
    by_cases h4 : norm c.rules = c.rules
    · rw [decide_eq_true h4] at c4
      by_cases h2 : c.rules.length ≤ 200
      · by_cases h1 : cmax c < 18446744073709551615
        · have e := cok_iff.2 ⟨h1, h2, h3, h4⟩
          have c0_ := c3; have c1_ := c4; refine goX (And.intro @e (And.intro @if_max @e0)) ?_; first | exact trivial | skip
        · have e := cok_f (c := c) (fun h => h1 h.1)
          have c0_ := c3; have c1_ := c4; refine goX (And.intro @e (And.intro @if_max @e0)) ?_; first | exact trivial | skip
      · have e := cok_f (c := c) (fun h => h2 h.2.1)
        have c0_ := c3; have c1_ := c4; refine goX (And.intro @e (And.intro @if_max @e0)) ?_; first | exact trivial | skip
    · have e := cok_f (c := c) (fun h => h4 h.2.2.2)
      rw [decide_eq_false h4] at c4
      have c0_ := c3; have c1_ := c4; refine goX @e ?_; first | exact trivial | skip
end Go.Eng.Tryz
set_option linter.unusedVariables false
set_option linter.unusedSimpArgs false
namespace Go.Eng.Tryz
open Go Go.Eng Go.Proofs Go.RowKit
attribute [local go_sem] tys
theorem is_cons {x : Int} {l : List Int} : is (x :: l) = .int .i64 x :: is l := rfl
attribute [local go_sem] is_len is_get rs_len rs_get
/-- A step. -/
structure Se where
  eat : Int
  put : List Int
  any : Bool
  cost : Int
deriving DecidableEq
instance : Inhabited Se := ⟨⟨0, [], false, 0⟩⟩
def se (s : Se) : D := .agg [.int .i64 s.eat, .sl 1 (is s.put), .bool s.any, .int .u64 s.cost]
def ses (l : List Se) : List D := l.map se
theorem ses_len {l : List Se} : (ses l).length = l.length := by simp [ses]
theorem ses_get {l : List Se} {k : Nat} (h : k < l.length) : (ses l)[k]? = some (.agg [.int .i64 (l[k]!).eat, .sl 1 (is (l[k]!).put), .bool (l[k]!).any, .int .u64 (l[k]!).cost]) := by
  simp [ses, se, List.getElem?_eq_getElem h, getElem!_pos l k h]
theorem ses_snoc {l : List Se} {e p : _} {a : Bool} {c : Int} : ses l ++ [.agg [.int .i64 e, .sl 1 (is p), .bool a, .int .u64 c]] = ses (l ++ [⟨e, p, a, c⟩]) := by simp [ses, se]
theorem ses_nil : ses [] = [] := rfl
attribute [local go_sem] ses_len ses_get ses_snoc
set_option maxHeartbeats 4000000 in
set_option maxRecDepth 10000 in
theorem pClone {l : List Int} (hl : l.length ≤ 1000000) : Sound Tryz.prog 54 [.sl 1 (is l)] (.sl 1 (is l)) := by
  cases l with
  | nil =>
    have h1 : Sound Tryz.prog 54 [.nils] .nils := by
      refine Sound.run (N := 8) Tryz.func54 rfl (by kernel_rfl) rfl rfl rfl (by first | exact args0_0 | exact args0_1 | exact args0_2 | exact args0_3 | exact args0_4 | exact args0_5 | exact args0_6) fun X_ w_ => ?_
      refine goT ?_; first | exact trivial | skip
    have h2 : Sound Tryz.prog 54 [.emp 1] (.sl 1 []) := by
      refine Sound.run (N := 8) Tryz.func54 rfl (by kernel_rfl) rfl rfl rfl (by first | exact args0_0 | exact args0_1 | exact args0_2 | exact args0_3 | exact args0_4 | exact args0_5 | exact args0_6) fun X_ w_ => ?_
      refine goT ?_; first | exact trivial | skip
    exact Sound.nil_at (sz := 1) 0 rfl (h1.wk (Wks.refl _) (.nil 1)) h2
  | cons x l =>
    simp only [List.length_cons] at hl
    refine Sound.run (N := 8) Tryz.func54 rfl (by kernel_rfl) rfl rfl rfl (by first | exact args0_0 | exact args0_1 | exact args0_2 | exact args0_3 | exact args0_4 | exact args0_5 | exact args0_6) fun X_ w_ => ?_
    refine goX @is_cons ?_; first | exact trivial | skip
/-- What a loop over steps holds: its variable's slot has key 1; the row's key is 2. -/
def St (Y : Ym) (xs : List Se) : Heap := [(0, .loop Y [(6, .ref 1 0)] .ready), (1, .var [.own 2 xs.length]), (2, .row 60 4 (ses xs))]
def Takes (Y : Ym) : Prop := ∀ (xs : List Se) (s : Se), xs.length ≤ 1000 → s.put.length ≤ 1000000 → SoundY Tryz.prog [.yld 0, .d (se s)] (St Y xs) (.d (.bool true)) (St Y (xs ++ [s])) 3
def St2 (Y : Ym) (xs : List Se) : Heap := [(0, .var [.yld 1]), (1, .loop Y [(6, .ref 2 0)] .ready), (2, .var [.own 3 xs.length]), (3, .row 60 4 (ses xs))]
set_option maxHeartbeats 4000000 in
set_option maxRecDepth 10000 in
theorem putN {Y : Ym} {xs : List Se} {e : Int} {p : D} {a : Bool} {c : Int} :
    SoundM Tryz.prog 87 [.d (.bool false), .d (.agg [.int .i64 e, p, .bool a, .int .u64 c]), .ref 0 0] (St2 Y xs) (.d (.bool true)) (St2 Y xs) 4 := by
  unfold St2
  refine SoundM.run (N := 13) (ks := [0, 1, 2, 3]) Tryz.func87 rfl (by kernel_rfl) rfl rfl rfl (by first | exact argsA_0 | exact argsA_1 | exact argsA_2 | exact argsA_3 | exact argsA_4 | exact argsA_5 | exact argsA_6) fun X_ ν_ w_ => ?_
  refine goT ?_; first | exact trivial | skip
set_option maxHeartbeats 4000000 in
set_option maxRecDepth 10000 in
theorem putY {Y : Ym} (hy : Takes Y) {xs : List Se} {s : Se} (hx : xs.length ≤ 1000) (hs : s.put.length ≤ 1000000) :
    SoundM Tryz.prog 87 [.d (.bool true), .d (se s), .ref 0 0] (St2 Y xs) (.d (.bool true)) (St2 Y (xs ++ [s])) 4 := by
  have c := hy xs s hx hs
  unfold St2
  unfold St at c
  unfold se at c ⊢
  refine SoundM.run (N := 13) (ks := [0, 1, 2, 3]) Tryz.func87 rfl (by kernel_rfl) rfl rfl rfl (by first | exact argsA_0 | exact argsA_1 | exact argsA_2 | exact argsA_3 | exact argsA_4 | exact argsA_5 | exact argsA_6) fun X_ ν_ w_ => ?_
  have c0_ := c; refine goT ?_; first | exact trivial | skip
end Go.Eng.Tryz

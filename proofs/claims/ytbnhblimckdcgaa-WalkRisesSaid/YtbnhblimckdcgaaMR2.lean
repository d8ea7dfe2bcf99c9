/- Words in order: what package order, slices.Compare and the references give. (and what stands behind it: texts laid together) -/
import Derived.Test.YtbnhblimckdcgaaMG4
import Derived.Test.YtbnhblimckdcgaaMR1
set_option linter.unusedVariables false
set_option linter.unusedSimpArgs false
namespace Go.Eng.Try
open Go Go.Eng Go.Proofs Go.RowKit
attribute [local go_sem] tys
/-- Numbers, as a slice's elements. -/
def is (l : List Int) : List D := l.map fun z => D.int .i64 z
theorem is_len {l : List Int} : (is l).length = l.length := by simp [is]
theorem is_get {l : List Int} {k : Nat} (h : k < l.length) : (is l)[k]? = some (D.int .i64 (l[k]!)) := by
  simp [is, List.getElem?_eq_getElem h, getElem!_pos l k h]
attribute [local go_sem] is_len is_get

theorem isNaN {a : Int} : Sound Try.prog 111 [.int .i64 a] (.bool false) := by
  have e : (a != a) = false := by simp
  refine Sound.run (N := 6) Try.func111 rfl (by kernel_rfl) rfl rfl rfl (by first | exact args0_0 | exact args0_1 | exact args0_2 | exact args0_3 | exact args0_4 | exact args0_5 | exact args0_6) fun X_ w_ => ?_
  refine goX @e ?_; first | exact trivial | skip

def icmp (a b : Int) : Int := if a < b then -1 else if b < a then 1 else 0
theorem cmpCompare {a b : Int} : Sound Try.prog 91 [.int .i64 a, .int .i64 b] (.int .i64 (icmp a b)) := by
  by_cases h1 : a < b
  · have e : icmp a b = -1 := by unfold icmp; rw [if_pos h1]
    refine Sound.run (N := 20) Try.func91 rfl (by kernel_rfl) rfl rfl rfl (by first | exact args0_0 | exact args0_1 | exact args0_2 | exact args0_3 | exact args0_4 | exact args0_5 | exact args0_6) fun X_ w_ => ?_
    have c0_ := @isNaN; refine goX @e ?_; first | exact trivial | skip
  · by_cases h2 : b < a
    · have e : icmp a b = 1 := by unfold icmp; rw [if_neg h1, if_pos h2]
      refine Sound.run (N := 20) Try.func91 rfl (by kernel_rfl) rfl rfl rfl (by first | exact args0_0 | exact args0_1 | exact args0_2 | exact args0_3 | exact args0_4 | exact args0_5 | exact args0_6) fun X_ w_ => ?_
      have c0_ := @isNaN; refine goX @e ?_; first | exact trivial | skip
    · have e : icmp a b = 0 := by unfold icmp; rw [if_neg h1, if_neg h2]
      refine Sound.run (N := 20) Try.func91 rfl (by kernel_rfl) rfl rfl rfl (by first | exact args0_0 | exact args0_1 | exact args0_2 | exact args0_3 | exact args0_4 | exact args0_5 | exact args0_6) fun X_ w_ => ?_
      have c0_ := @isNaN; refine goX @e ?_; first | exact trivial | skip

def wcmp : List Int → List Int → Int
  | [], [] => 0
  | [], _ :: _ => -1
  | _ :: _, [] => 1
  | x :: a, y :: b => if x < y then -1 else if y < x then 1 else wcmp a b
theorem drop_at {l : List Int} {k : Nat} (h : k < l.length) : l.drop k = l[k]! :: l.drop (k + 1) := by
  rw [List.drop_eq_getElem_cons h, getElem!_pos l k h]
theorem wcmp_lt {a b : List Int} {k : Nat} (h : k < a.length) (h' : k < b.length) (hw : wcmp (a.drop k) (b.drop k) = wcmp a b) :
    (a[k]! = b[k]! → wcmp (a.drop (k + 1)) (b.drop (k + 1)) = wcmp a b) ∧ (icmp (a[k]!) (b[k]!) ≠ 0 → icmp (a[k]!) (b[k]!) = wcmp a b) := by
  rw [drop_at h, drop_at h'] at hw
  simp only [wcmp] at hw
  unfold icmp
  constructor
  · intro e
    rw [if_neg (by omega), if_neg (by omega)] at hw
    exact hw
  · intro e
    by_cases h1 : a[k]! < b[k]!
    · rw [if_pos h1] at hw ⊢; exact hw
    · rw [if_neg h1] at hw ⊢ e
      by_cases h2 : b[k]! < a[k]!
      · rw [if_pos h2] at hw ⊢; exact hw
      · rw [if_neg h2] at e; exact absurd rfl e
theorem icmp_0 {a b : Int} (h : icmp a b = 0) : a = b := by
  unfold icmp at h
  split at h
  · cases h
  · split at h
    · cases h
    · omega

set_option maxHeartbeats 4000000 in
set_option maxRecDepth 10000 in
theorem sCompare {a b : List Int} (ha : a.length ≤ 9223372036854775807) (hb : b.length ≤ 9223372036854775807) : Sound Try.prog 64 [.sl 1 (is a), .sl 1 (is b)] (.int .i64 (wcmp a b)) := by
  refine Sound.run (N := 36) Try.func64 rfl (by kernel_rfl) rfl rfl rfl (by first | exact args0_0 | exact args0_1 | exact args0_2 | exact args0_3 | exact args0_4 | exact args0_5 | exact args0_6) fun X_ w_ => ?_
  refine goT ?_; first | exact trivial | skip
  refine WP_loopk (fun k : Nat => k ≤ a.length ∧ k ≤ b.length ∧ wcmp (a.drop k) (b.drop k) = wcmp a b) (fun k => [(0, .d (.sl 1 (is a))), (1, .d (.sl 1 (is b))), (9, .d (.sl 1 (is a))), (10, .d (.int .i64 a.length)), (11, .d (.int .i64 k))]) (fun _ => []) 0 (fun k => a.length - k) [0, 1, 9, 10, 11] [] 0 ⟨Nat.zero_le _, Nat.zero_le _, rfl⟩ rfl rfl (Nat.le_refl _) (fun _ _ => rfl) (fun _ _ => rfl) fun k hk => ?_
  obtain ⟨hk1, hk2, hw⟩ := hk
  refine goT ?_; first | exact trivial | skip
  with_reducible apply WP_if (by simp (disch := omega) only [go_sem]; rfl) <;> intro hc <;> (try simp only [decide_eq_true_eq, decide_eq_false_iff_not, beq_iff_eq, beq_eq_false_iff_ne, bne_iff_ne, bne_eq_false_iff_eq, gt_iff_lt, ge_iff_le, Int.not_lt, Int.not_le, ne_eq] at hc)
  · have hk' : k < a.length := by omega
    refine goT ?_; first | exact trivial | skip
    with_reducible apply WP_if (by simp (disch := omega) only [go_sem]; rfl) <;> intro hc <;> (try simp only [decide_eq_true_eq, decide_eq_false_iff_not, beq_iff_eq, beq_eq_false_iff_ne, bne_iff_ne, bne_eq_false_iff_eq, gt_iff_lt, ge_iff_le, Int.not_lt, Int.not_le, ne_eq] at hc)
    · have e : wcmp a b = 1 := by
        rw [← hw, drop_at hk', show b.drop k = [] from List.drop_eq_nil_of_le (by omega)]
        rfl
      refine goX @e ?_; first | exact trivial | skip
    · have hk2' : k < b.length := by omega
      obtain ⟨w1, w2⟩ := wcmp_lt hk' hk2' hw
      have c0_ := @cmpCompare; refine goT ?_; first | exact trivial | skip
      with_reducible apply WP_if (by simp (disch := omega) only [go_sem]; rfl) <;> intro hc <;> (try simp only [decide_eq_true_eq, decide_eq_false_iff_not, beq_iff_eq, beq_eq_false_iff_ne, bne_iff_ne, bne_eq_false_iff_eq, gt_iff_lt, ge_iff_le, Int.not_lt, Int.not_le, ne_eq] at hc)
      · have e := w2 hc
        refine goX @e ?_; first | exact trivial | skip
      · have e := icmp_0 hc
        have w3 := w1 e
        refine goT ?_; first | exact trivial | skip
        refine ⟨k + 1, ⟨by omega, by omega, w3⟩, ?_, rfl, by omega⟩
        simp (disch := omega) only [go_sem, keepL, Int.natCast_add, Int.cast_ofNat_Int]
  · have hk' : k = a.length := by omega
    subst hk'
    have ed : a.drop a.length = [] := List.drop_eq_nil_of_le (Nat.le_refl _)
    refine goT ?_; first | exact trivial | skip
    with_reducible apply WP_if (by simp (disch := omega) only [go_sem]; rfl) <;> intro hc <;> (try simp only [decide_eq_true_eq, decide_eq_false_iff_not, beq_iff_eq, beq_eq_false_iff_ne, bne_iff_ne, bne_eq_false_iff_eq, gt_iff_lt, ge_iff_le, Int.not_lt, Int.not_le, ne_eq] at hc)
    · have e : wcmp a b = -1 := by
        rw [← hw, ed, drop_at (by omega)]
        rfl
      refine goX @e ?_; first | exact trivial | skip
    · have e : wcmp a b = 0 := by
        rw [← hw, ed, show b.drop a.length = [] from List.drop_eq_nil_of_le (by omega)]
        rfl
      refine goX @e ?_; first | exact trivial | skip

theorem orderLess {a b : List Int} (ha : a.length ≤ 9223372036854775807) (hb : b.length ≤ 9223372036854775807) : Sound Try.prog 32 [.sl 1 (is a), .sl 1 (is b)] (.bool (decide (wcmp a b < 0))) := by
  refine Sound.run (N := 9) Try.func32 rfl (by kernel_rfl) rfl rfl rfl (by first | exact args0_0 | exact args0_1 | exact args0_2 | exact args0_3 | exact args0_4 | exact args0_5 | exact args0_6) fun X_ w_ => ?_
  have c0_ := sCompare ha hb; refine goT ?_; first | exact trivial | skip

set_option maxHeartbeats 4000000 in
set_option maxRecDepth 10000 in
theorem refSame {a b : List Int} (ha : a.length ≤ 9223372036854775807) (hb : b.length ≤ 9223372036854775807) : Sound Try.prog 58 [.sl 1 (is a), .sl 1 (is b)] (.bool (decide (a = b))) := by
  by_cases hl : a.length = b.length
  · refine Sound.run (N := 26) Try.func58 rfl (by kernel_rfl) rfl rfl rfl (by first | exact args0_0 | exact args0_1 | exact args0_2 | exact args0_3 | exact args0_4 | exact args0_5 | exact args0_6) fun X_ w_ => ?_
    refine goT ?_; first | exact trivial | skip
    refine WP_loopk (fun k : Nat => k ≤ a.length ∧ a.take k = b.take k) (fun k => [(0, .d (.sl 1 (is a))), (1, .d (.sl 1 (is b))), (5, .d (.int .i64 k))]) (fun _ => []) 0 (fun k => a.length - k) [0, 1, 5] [] 0 ⟨Nat.zero_le _, rfl⟩ rfl rfl (Nat.le_refl _) (fun _ _ => rfl) (fun _ _ => rfl) fun k hk => ?_
    obtain ⟨hk1, hw⟩ := hk
    refine goT ?_; first | exact trivial | skip
    with_reducible apply WP_if (by simp (disch := omega) only [go_sem]; rfl) <;> intro hc <;> (try simp only [decide_eq_true_eq, decide_eq_false_iff_not, beq_iff_eq, beq_eq_false_iff_ne, bne_iff_ne, bne_eq_false_iff_eq, gt_iff_lt, ge_iff_le, Int.not_lt, Int.not_le, ne_eq] at hc)
    · have hk' : k < a.length := by omega
      have hk2 : k < b.length := by omega
      refine goT ?_; first | exact trivial | skip
      with_reducible apply WP_if (by simp (disch := omega) only [go_sem]; rfl) <;> intro hc <;> (try simp only [decide_eq_true_eq, decide_eq_false_iff_not, beq_iff_eq, beq_eq_false_iff_ne, bne_iff_ne, bne_eq_false_iff_eq, gt_iff_lt, ge_iff_le, Int.not_lt, Int.not_le, ne_eq] at hc)
      · have e : decide (a = b) = false := decide_eq_false fun h => hc (by rw [h])
        refine goX @e ?_; first | exact trivial | skip
      · have e : a.take (k + 1) = b.take (k + 1) := by
          rw [List.take_add_one, List.take_add_one, hw, List.getElem?_eq_getElem hk', List.getElem?_eq_getElem hk2, ← getElem!_pos a k hk', ← getElem!_pos b k hk2, hc]
        refine goT ?_; first | exact trivial | skip
        refine ⟨k + 1, ⟨by omega, e⟩, ?_, rfl, by omega⟩
        simp (disch := omega) only [go_sem, keepL, Int.natCast_add, Int.cast_ofNat_Int]
    · have hk' : k = a.length := by omega
      subst hk'
      have e : decide (a = b) = true := decide_eq_true (by rw [List.take_length, hl, List.take_length] at hw; exact hw)
      refine goX @e ?_; first | exact trivial | skip
  · have e : decide (a = b) = false := decide_eq_false fun h => hl (by rw [h])
    refine Sound.run (N := 26) Try.func58 rfl (by kernel_rfl) rfl rfl rfl (by first | exact args0_0 | exact args0_1 | exact args0_2 | exact args0_3 | exact args0_4 | exact args0_5 | exact args0_6) fun X_ w_ => ?_
    refine goX @e ?_; first | exact trivial | skip

def wcom : List Int → List Int → Nat
  | x :: a, y :: b => if x = y then wcom a b + 1 else 0
  | _, _ => 0
theorem wcom_le : ∀ (a b : List Int), wcom a b ≤ a.length ∧ wcom a b ≤ b.length
  | [], b => by simp [wcom]
  | _ :: _, [] => by simp [wcom]
  | x :: a, y :: b => by
    have := wcom_le a b
    simp only [wcom]
    split <;> simp <;> omega
theorem wcom_nil (a : List Int) : wcom a [] = 0 := by cases a <;> rfl
theorem wcom_cmp : ∀ (a b : List Int), (wcom a b = b.length → ¬ wcmp a b < 0) ∧ (wcom a b ≠ b.length → wcom a b = a.length → wcmp a b < 0) ∧ (wcom a b ≠ b.length → wcom a b ≠ a.length → (wcmp a b < 0 ↔ a[wcom a b]! < b[wcom a b]!))
  | [], [] => by simp [wcom, wcmp]
  | [], y :: b => by simp [wcom, wcmp]
  | x :: a, [] => by simp [wcom, wcmp]
  | x :: a, y :: b => by
    obtain ⟨h1, h2, h3⟩ := wcom_cmp a b
    by_cases e : x = y
    · subst e
      have : wcom (x :: a) (x :: b) = wcom a b + 1 := by simp [wcom]
      rw [this]
      have hw : wcmp (x :: a) (x :: b) = wcmp a b := by simp [wcmp]
      rw [hw]
      simp only [List.length_cons, Nat.add_right_cancel_iff, List.getElem!_cons_succ, ne_eq]
      exact ⟨h1, h2, h3⟩
    · have : wcom (x :: a) (y :: b) = 0 := by simp [wcom, e]
      rw [this]
      simp only [List.length_cons, List.getElem!_cons_zero, wcmp]
      refine ⟨fun h => by omega, fun _ h => by omega, fun _ _ => ?_⟩
      constructor
      · intro h
        by_cases hxy : x < y
        · exact hxy
        · rw [if_neg hxy, if_pos (by omega)] at h
          omega
      · intro h
        rw [if_pos h]
        decide

set_option maxHeartbeats 4000000 in
set_option maxRecDepth 10000 in
theorem refCommon {a b : List Int} (ha : a.length ≤ 9223372036854775807) (hb : b.length ≤ 9223372036854775807) : Sound Try.prog 110 [.sl 1 (is a), .sl 1 (is b)] (.int .i64 (wcom a b)) := by
  refine Sound.run (N := 30) Try.func110 rfl (by kernel_rfl) rfl rfl rfl (by first | exact args0_0 | exact args0_1 | exact args0_2 | exact args0_3 | exact args0_4 | exact args0_5 | exact args0_6) fun X_ w_ => ?_
  refine goT ?_; first | exact trivial | skip
  refine WP_loopk (fun k : Nat => k ≤ a.length ∧ k ≤ b.length ∧ wcom (a.drop k) (b.drop k) + k = wcom a b) (fun k => [(0, .d (.sl 1 (is a))), (1, .d (.sl 1 (is b))), (5, .d (.int .i64 k))]) (fun _ => []) 0 (fun k => a.length - k) [0, 1, 5] [] 0 ⟨Nat.zero_le _, Nat.zero_le _, rfl⟩ rfl rfl (Nat.le_refl _) (fun _ _ => rfl) (fun _ _ => rfl) fun k hk => ?_
  obtain ⟨hk1, hk2, hw⟩ := hk
  by_cases h1 : k < a.length
  · by_cases h2 : k < b.length
    · rw [drop_at h1, drop_at h2] at hw
      simp only [wcom] at hw
      by_cases h3 : a[k]! = b[k]!
      · rw [if_pos h3] at hw
        refine goT ?_; first | exact trivial | skip
        refine ⟨k + 1, ⟨by omega, by omega, by omega⟩, ?_, rfl, by omega⟩
        simp (disch := omega) only [go_sem, keepL, Int.natCast_add, Int.cast_ofNat_Int]
      · rw [if_neg h3] at hw
        have e : wcom a b = k := by omega
        refine goX @e ?_; first | exact trivial | skip
    · rw [show b.drop k = [] from List.drop_eq_nil_of_le (by omega), wcom_nil] at hw
      have e : wcom a b = k := by omega
      refine goX @e ?_; first | exact trivial | skip
  · rw [show a.drop k = [] from List.drop_eq_nil_of_le (by omega)] at hw
    simp only [wcom] at hw
    have e : wcom a b = k := by omega
    refine goX @e ?_; first | exact trivial | skip

set_option maxHeartbeats 4000000 in
set_option maxRecDepth 10000 in
theorem refLess {a b : List Int} (ha : a.length ≤ 9223372036854775807) (hb : b.length ≤ 9223372036854775807) : Sound Try.prog 87 [.sl 1 (is a), .sl 1 (is b)] (.bool (decide (wcmp a b < 0))) := by
  obtain ⟨w1, w2, w3⟩ := wcom_cmp a b
  have hle := wcom_le a b
  by_cases h1 : wcom a b = b.length
  · have e := decide_eq_false (w1 h1)
    refine Sound.run (N := 28) Try.func87 rfl (by kernel_rfl) rfl rfl rfl (by first | exact args0_0 | exact args0_1 | exact args0_2 | exact args0_3 | exact args0_4 | exact args0_5 | exact args0_6) fun X_ w_ => ?_
    have c0_ := refCommon ha hb; refine goX @e ?_; first | exact trivial | skip
  · by_cases h2 : wcom a b = a.length
    · have e := decide_eq_true (w2 h1 h2)
      refine Sound.run (N := 28) Try.func87 rfl (by kernel_rfl) rfl rfl rfl (by first | exact args0_0 | exact args0_1 | exact args0_2 | exact args0_3 | exact args0_4 | exact args0_5 | exact args0_6) fun X_ w_ => ?_
      have c0_ := refCommon ha hb; refine goX @e ?_; first | exact trivial | skip
    · have h4 : wcom a b < a.length := by omega
      have h5 : wcom a b < b.length := by omega
      by_cases h6 : a[wcom a b]! < b[wcom a b]!
      · have e := decide_eq_true ((w3 h1 h2).2 h6)
        refine Sound.run (N := 28) Try.func87 rfl (by kernel_rfl) rfl rfl rfl (by first | exact args0_0 | exact args0_1 | exact args0_2 | exact args0_3 | exact args0_4 | exact args0_5 | exact args0_6) fun X_ w_ => ?_
        have c0_ := refCommon ha hb; refine goX @e ?_; first | exact trivial | skip
      · have e := decide_eq_false (fun h => h6 ((w3 h1 h2).1 h))
        refine Sound.run (N := 28) Try.func87 rfl (by kernel_rfl) rfl rfl rfl (by first | exact args0_0 | exact args0_1 | exact args0_2 | exact args0_3 | exact args0_4 | exact args0_5 | exact args0_6) fun X_ w_ => ?_
        have c0_ := refCommon ha hb; refine goX @e ?_; first | exact trivial | skip
end Go.Eng.Try
set_option linter.unusedVariables false
set_option linter.unusedSimpArgs false
namespace Go.Eng.Try
open Go Go.Eng Go.Proofs Go.RowKit
attribute [local go_sem] tys
attribute [local go_sem] is_len is_get
/-- A sign that there is. -/
def gsign (z : Int) : Bool := decide (0 ≤ z ∧ z ≤ 1114111 ∧ (z < 55296 ∨ 57343 < z))
theorem gsign_t {z : Int} (h : 0 ≤ z ∧ z ≤ 1114111 ∧ (z < 55296 ∨ 57343 < z)) : gsign z = true := decide_eq_true h
theorem gsign_f {z : Int} (h : ¬ (0 ≤ z ∧ z ≤ 1114111 ∧ (z < 55296 ∨ 57343 < z))) : gsign z = false := decide_eq_false h
theorem utfGood {z : Int} : Sound Try.prog 69 [.int .i64 z] (.bool (gsign z)) := by
  by_cases h1 : z < 0
  · have e := gsign_f (z := z) (by omega)
    refine Sound.run (N := 13) Try.func69 rfl (by kernel_rfl) rfl rfl rfl (by first | exact args0_0 | exact args0_1 | exact args0_2 | exact args0_3 | exact args0_4 | exact args0_5 | exact args0_6) fun X_ w_ => ?_
    refine goX @e ?_; first | exact trivial | skip
  by_cases h2 : 1114111 < z
  · have e := gsign_f (z := z) (by omega)
    refine Sound.run (N := 13) Try.func69 rfl (by kernel_rfl) rfl rfl rfl (by first | exact args0_0 | exact args0_1 | exact args0_2 | exact args0_3 | exact args0_4 | exact args0_5 | exact args0_6) fun X_ w_ => ?_
    refine goX @e ?_; first | exact trivial | skip
  by_cases h3 : z < 55296
  · have e := gsign_t (z := z) (by omega)
    refine Sound.run (N := 13) Try.func69 rfl (by kernel_rfl) rfl rfl rfl (by first | exact args0_0 | exact args0_1 | exact args0_2 | exact args0_3 | exact args0_4 | exact args0_5 | exact args0_6) fun X_ w_ => ?_
    refine goX @e ?_; first | exact trivial | skip
  by_cases h4 : 57343 < z
  · have e := gsign_t (z := z) (by omega)
    refine Sound.run (N := 13) Try.func69 rfl (by kernel_rfl) rfl rfl rfl (by first | exact args0_0 | exact args0_1 | exact args0_2 | exact args0_3 | exact args0_4 | exact args0_5 | exact args0_6) fun X_ w_ => ?_
    refine goX @e ?_; first | exact trivial | skip
  · have e := gsign_f (z := z) (by omega)
    refine Sound.run (N := 13) Try.func69 rfl (by kernel_rfl) rfl rfl rfl (by first | exact args0_0 | exact args0_1 | exact args0_2 | exact args0_3 | exact args0_4 | exact args0_5 | exact args0_6) fun X_ w_ => ?_
    refine goX @e ?_; first | exact trivial | skip
theorem refGood {z : Int} : Sound Try.prog 84 [.int .i64 z] (.bool (gsign z)) := by
  by_cases h1 : z < 0
  · have e := gsign_f (z := z) (by omega)
    refine Sound.run (N := 17) Try.func84 rfl (by kernel_rfl) rfl rfl rfl (by first | exact args0_0 | exact args0_1 | exact args0_2 | exact args0_3 | exact args0_4 | exact args0_5 | exact args0_6) fun X_ w_ => ?_
    refine goX @e ?_; first | exact trivial | skip
  by_cases h2 : 1114111 < z
  · have e := gsign_f (z := z) (by omega)
    refine Sound.run (N := 17) Try.func84 rfl (by kernel_rfl) rfl rfl rfl (by first | exact args0_0 | exact args0_1 | exact args0_2 | exact args0_3 | exact args0_4 | exact args0_5 | exact args0_6) fun X_ w_ => ?_
    refine goX @e ?_; first | exact trivial | skip
  by_cases h3 : z < 55296
  · have e := gsign_t (z := z) (by omega)
    refine Sound.run (N := 17) Try.func84 rfl (by kernel_rfl) rfl rfl rfl (by first | exact args0_0 | exact args0_1 | exact args0_2 | exact args0_3 | exact args0_4 | exact args0_5 | exact args0_6) fun X_ w_ => ?_
    refine goX @e ?_; first | exact trivial | skip
  by_cases h4 : 57343 < z
  · have e := gsign_t (z := z) (by omega)
    refine Sound.run (N := 17) Try.func84 rfl (by kernel_rfl) rfl rfl rfl (by first | exact args0_0 | exact args0_1 | exact args0_2 | exact args0_3 | exact args0_4 | exact args0_5 | exact args0_6) fun X_ w_ => ?_
    refine goX @e ?_; first | exact trivial | skip
  · have e := gsign_f (z := z) (by omega)
    refine Sound.run (N := 17) Try.func84 rfl (by kernel_rfl) rfl rfl rfl (by first | exact args0_0 | exact args0_1 | exact args0_2 | exact args0_3 | exact args0_4 | exact args0_5 | exact args0_6) fun X_ w_ => ?_
    refine goX @e ?_; first | exact trivial | skip
theorem of1 {z : Int} : Sound Try.prog 113 [.int .i64 z] (.bool (!gsign z)) := by
  refine Sound.run (N := 6) Try.func113 rfl (by kernel_rfl) rfl rfl rfl (by first | exact args0_0 | exact args0_1 | exact args0_2 | exact args0_3 | exact args0_4 | exact args0_5 | exact args0_6) fun X_ w_ => ?_
  have c0_ := @utfGood; refine goT ?_; first | exact trivial | skip
/-- Are all signs good? -/
def allG (l : List Int) : Bool := l.all gsign
theorem allG_step {l : List Int} {k : Nat} (h : k < l.length) : allG (l.take (k + 1)) = (allG (l.take k) && gsign (l[k]!)) := by
  unfold allG
  rw [List.take_add_one, List.all_append, List.getElem?_eq_getElem h, ← getElem!_pos l k h]
  generalize l[k]! = z
  simp
theorem allG_at {l : List Int} {k : Nat} (h : k < l.length) (hb : gsign (l[k]!) = false) : allG l = false := by
  cases hf : allG l with
  | false => rfl
  | true =>
    have := List.all_eq_true.1 hf (l[k]!) (by rw [getElem!_pos l k h]; exact List.getElem_mem h)
    rw [hb] at this; cases this
/-- Where the first bad sign stands. -/
def badI (l : List Int) : Int := if allG l = true then -1 else (l.findIdx (fun z => !gsign z) : Nat)
theorem badI_at {l : List Int} {k : Nat} (h : k < l.length) (hk : allG (l.take k) = true) (hb : gsign (l[k]!) = false) : badI l = (k : Int) := by
  unfold badI
  rw [if_neg (by rw [allG_at h hb]; simp)]
  congr 1
  rw [List.findIdx_eq h]
  refine ⟨by rw [← getElem!_pos l k h, hb]; rfl, fun j hj => ?_⟩
  have hm : l[j] ∈ l.take k := by
    have : (l.take k)[j]? = some l[j] := by rw [List.getElem?_take, if_pos hj, List.getElem?_eq_getElem (by omega)]
    exact List.mem_of_getElem? this
  have := List.all_eq_true.1 hk _ hm
  rw [this]; rfl
set_option maxHeartbeats 4000000 in
set_option maxRecDepth 10000 in
theorem indexF {l : List Int} (hl : l.length ≤ 9223372036854775807) : Sound Try.prog 112 [.sl 1 (is l), .fn 113] (.int .i64 (badI l)) := by
  refine Sound.run (N := 19) Try.func112 rfl (by kernel_rfl) rfl rfl rfl (by first | exact args0_0 | exact args0_1 | exact args0_2 | exact args0_3 | exact args0_4 | exact args0_5 | exact args0_6) fun X_ w_ => ?_
  refine goT ?_; first | exact trivial | skip
  refine WP_loopk (fun k : Nat => k ≤ l.length ∧ allG (l.take k) = true) (fun k => [(0, .d (.sl 1 (is l))), (1, .d (.fn 113)), (7, .d (.int .i64 l.length)), (8, .d (.int .i64 k))]) (fun _ => []) 0 (fun k => l.length - k) [0, 1, 7, 8] [] 0 ⟨Nat.zero_le _, rfl⟩ rfl rfl (Nat.le_refl _) (fun _ _ => rfl) (fun _ _ => rfl) fun k hk => ?_
  obtain ⟨hk1, hw⟩ := hk
  by_cases hk' : k < l.length
  · have hst := allG_step hk'
    cases hg : gsign (l[k]!)
    · have e := badI_at hk' hw hg
      have eg : (!gsign (l[k]!)) = true := by rw [hg]; rfl
      have c0_ := @of1; refine goX (And.intro @e @eg) ?_; first | exact trivial | skip
    · rw [hw, hg] at hst
      have eg : (!gsign (l[k]!)) = false := by rw [hg]; rfl
      have c0_ := @of1; refine goX @eg ?_; first | exact trivial | skip
      refine ⟨k + 1, ⟨by omega, hst⟩, ?_, rfl, by omega⟩
      simp (disch := omega) only [go_sem, keepL, Int.natCast_add, Int.cast_ofNat_Int]
  · have hkl : k = l.length := by omega
    subst hkl
    rw [List.take_length] at hw
    have e : badI l = -1 := by unfold badI; rw [if_pos hw]
    refine goX @e ?_; first | exact trivial | skip
theorem badI_ge (l : List Int) : decide (0 ≤ badI l) = !allG l := by
  unfold badI
  cases h : allG l
  · rw [if_neg (by simp)]; simp
  · rw [if_pos rfl]; rfl
theorem containsF {l : List Int} (hl : l.length ≤ 9223372036854775807) : Sound Try.prog 93 [.sl 1 (is l), .fn 113] (.bool (!allG l)) := by
  have e := badI_ge l
  refine Sound.run (N := 9) Try.func93 rfl (by kernel_rfl) rfl rfl rfl (by first | exact args0_0 | exact args0_1 | exact args0_2 | exact args0_3 | exact args0_4 | exact args0_5 | exact args0_6) fun X_ w_ => ?_
  have c0_ := indexF hl; refine goX @e ?_; first | exact trivial | skip
/-- The first number that is not 0. -/
def orI : List Int → Int
  | [] => 0
  | x :: r => if x = 0 then orI r else x
set_option maxHeartbeats 4000000 in
set_option maxRecDepth 10000 in
theorem cmpOr {l : List Int} (hl : l.length ≤ 9223372036854775807) : Sound Try.prog 97 [.sl 1 (is l)] (.int .i64 (orI l)) := by
  refine Sound.run (N := 18) Try.func97 rfl (by kernel_rfl) rfl rfl rfl (by first | exact args0_0 | exact args0_1 | exact args0_2 | exact args0_3 | exact args0_4 | exact args0_5 | exact args0_6) fun X_ w_ => ?_
  refine goT ?_; first | exact trivial | skip
  refine WP_loopk (fun k : Nat => k ≤ l.length ∧ orI (l.drop k) = orI l) (fun k => [(3, .d (.int .i64 0)), (6, .d (.sl 1 (is l))), (7, .d (.int .i64 l.length)), (8, .d (.int .i64 k))]) (fun _ => []) 0 (fun k => l.length - k) [3, 6, 7, 8] [] 0 ⟨Nat.zero_le _, rfl⟩ rfl rfl (Nat.le_refl _) (fun _ _ => rfl) (fun _ _ => rfl) fun k hk => ?_
  obtain ⟨hk1, hw⟩ := hk
  by_cases hk' : k < l.length
  · rw [drop_at hk'] at hw
    simp only [orI] at hw
    by_cases hz : l[k]! = 0
    · rw [if_pos hz] at hw
      refine goX @hz ?_; first | exact trivial | skip
      refine ⟨k + 1, ⟨by omega, hw⟩, ?_, rfl, by omega⟩
      simp (disch := omega) only [go_sem, keepL, Int.natCast_add, Int.cast_ofNat_Int]
    · rw [if_neg hz] at hw
      refine goX (hw.symm) ?_; first | exact trivial | skip
  · rw [List.drop_eq_nil_of_le (by omega)] at hw
    have e : orI l = 0 := hw.symm
    refine goX @e ?_; first | exact trivial | skip
theorem isNaNu {a : Int} : Sound Try.prog 124 [.int .u64 a] (.bool false) := by
  have e : (a != a) = false := by simp
  refine Sound.run (N := 6) Try.func124 rfl (by kernel_rfl) rfl rfl rfl (by first | exact args0_0 | exact args0_1 | exact args0_2 | exact args0_3 | exact args0_4 | exact args0_5 | exact args0_6) fun X_ w_ => ?_
  refine goX @e ?_; first | exact trivial | skip
theorem cmpCompareU {a b : Int} : Sound Try.prog 98 [.int .u64 a, .int .u64 b] (.int .i64 (icmp a b)) := by
  by_cases h1 : a < b
  · have e : icmp a b = -1 := by unfold icmp; rw [if_pos h1]
    refine Sound.run (N := 20) Try.func98 rfl (by kernel_rfl) rfl rfl rfl (by first | exact args0_0 | exact args0_1 | exact args0_2 | exact args0_3 | exact args0_4 | exact args0_5 | exact args0_6) fun X_ w_ => ?_
    have c0_ := @isNaNu; refine goX @e ?_; first | exact trivial | skip
  · by_cases h2 : b < a
    · have e : icmp a b = 1 := by unfold icmp; rw [if_neg h1, if_pos h2]
      refine Sound.run (N := 20) Try.func98 rfl (by kernel_rfl) rfl rfl rfl (by first | exact args0_0 | exact args0_1 | exact args0_2 | exact args0_3 | exact args0_4 | exact args0_5 | exact args0_6) fun X_ w_ => ?_
      have c0_ := @isNaNu; refine goX @e ?_; first | exact trivial | skip
    · have e : icmp a b = 0 := by unfold icmp; rw [if_neg h1, if_neg h2]
      refine Sound.run (N := 20) Try.func98 rfl (by kernel_rfl) rfl rfl rfl (by first | exact args0_0 | exact args0_1 | exact args0_2 | exact args0_3 | exact args0_4 | exact args0_5 | exact args0_6) fun X_ w_ => ?_
      have c0_ := @isNaNu; refine goX @e ?_; first | exact trivial | skip
/-- A rule. -/
structure Ru where
  left : List Int
  right : List Int
  cost : Int
deriving DecidableEq
instance : Inhabited Ru := ⟨⟨[], [], 0⟩⟩
def ru (r : Ru) : D := .agg [.sl 1 (is r.left), .sl 1 (is r.right), .int .u64 r.cost]
def Ru.ok (r : Ru) : Prop := r.left.length ≤ 9223372036854775807 ∧ r.right.length ≤ 9223372036854775807 ∧ 0 ≤ r.cost ∧ r.cost ≤ 18446744073709551615
def rcmp (r s : Ru) : Int := orI [wcmp r.left s.left, wcmp r.right s.right, icmp r.cost s.cost]
set_option maxHeartbeats 4000000 in
set_option maxRecDepth 10000 in
theorem pCompare {r s : Ru} (hr : r.ok) (hs : s.ok) : Sound Try.prog 79 [ru r, ru s] (.int .i64 (rcmp r s)) := by
  have c := cmpOr (l := [wcmp r.left s.left, wcmp r.right s.right, icmp r.cost s.cost]) (by simp)
  unfold ru
  refine Sound.run (N := 22) Try.func79 rfl (by kernel_rfl) rfl rfl rfl (by first | exact args0_0 | exact args0_1 | exact args0_2 | exact args0_3 | exact args0_4 | exact args0_5 | exact args0_6) fun X_ w_ => ?_
  have c0_ := sCompare hr.1 hs.1; have c1_ := sCompare hr.2.1 hs.2.1; have c2_ := @cmpCompareU; have c3_ := c; refine goT ?_; first | exact trivial | skip
end Go.Eng.Try
set_option linter.unusedVariables false
set_option linter.unusedSimpArgs false
namespace Go.Eng.Try
open Go Go.Eng Go.Proofs Go.RowKit
open Go.Maps (Keyed)
attribute [local go_sem] tys
attribute [local go_sem] is_len is_get
def gi (l : List Int) (i : Nat) : Int := (l[i]?).getD 0
/-- May a side be? -/
def sok (l : List Int) : Bool := allG l && decide (l.length ≤ 8)
def s8 (l : List Int) : List Int := if sok l = true then l else []
/-- A side in one piece. -/
def sd (l : List Int) : D := .agg [.int .i64 l.length, .int .i64 (gi l 0), .int .i64 (gi l 1), .int .i64 (gi l 2), .int .i64 (gi l 3), .int .i64 (gi l 4), .int .i64 (gi l 5), .int .i64 (gi l 6), .int .i64 (gi l 7)]
theorem s8_t {l : List Int} (h : sok l = true) : s8 l = l := if_pos h
theorem s8_f {l : List Int} (h : sok l = false) : s8 l = [] := if_neg (by rw [h]; simp)
set_option maxHeartbeats 4000000 in
set_option maxRecDepth 10000 in
theorem rOf {l : List Int} (hl : l.length ≤ 9223372036854775807) : Sound Try.prog 94 [.sl 1 (is l)] (.tup [sd (s8 l), .bool (sok l)]) := by
  have hc := containsF hl
  by_cases h8 : 8 < l.length
  · have e1 : sok l = false := by unfold sok; rw [decide_eq_false (by omega)]; simp
    rw [s8_f e1, e1]
    unfold sd
    refine Sound.run (N := 18) Try.func94 rfl (by kernel_rfl) rfl rfl rfl (by first | exact args0_0 | exact args0_1 | exact args0_2 | exact args0_3 | exact args0_4 | exact args0_5 | exact args0_6) fun X_ w_ => ?_
    have c0_ := hc; refine goX @gi.eq_1 ?_; first | exact trivial | skip
  cases hg : allG l
  · have e1 : sok l = false := by unfold sok; rw [hg]; rfl
    rw [hg] at hc
    rw [s8_f e1, e1]
    unfold sd
    refine Sound.run (N := 18) Try.func94 rfl (by kernel_rfl) rfl rfl rfl (by first | exact args0_0 | exact args0_1 | exact args0_2 | exact args0_3 | exact args0_4 | exact args0_5 | exact args0_6) fun X_ w_ => ?_
    have c0_ := hc; refine goX @gi.eq_1 ?_; first | exact trivial | skip
  have e1 : sok l = true := by unfold sok; rw [hg, decide_eq_true (by omega)]; rfl
  rw [s8_t e1, e1]
  rw [hg] at hc
  clear e1 hg
  unfold sd
  rcases l with _ | ⟨a0, _ | ⟨a1, _ | ⟨a2, _ | ⟨a3, _ | ⟨a4, _ | ⟨a5, _ | ⟨a6, _ | ⟨a7, _⟩⟩⟩⟩⟩⟩⟩⟩
  · refine Sound.run (N := 18) Try.func94 rfl (by kernel_rfl) rfl rfl rfl (by first | exact args0_0 | exact args0_1 | exact args0_2 | exact args0_3 | exact args0_4 | exact args0_5 | exact args0_6) fun X_ w_ => ?_
    have c0_ := hc; refine goX (And.intro @is.eq_1 @gi.eq_1) ?_; first | exact trivial | skip
  · refine Sound.run (N := 18) Try.func94 rfl (by kernel_rfl) rfl rfl rfl (by first | exact args0_0 | exact args0_1 | exact args0_2 | exact args0_3 | exact args0_4 | exact args0_5 | exact args0_6) fun X_ w_ => ?_
    have c0_ := hc; refine goX (And.intro @is.eq_1 @gi.eq_1) ?_; first | exact trivial | skip
  · refine Sound.run (N := 18) Try.func94 rfl (by kernel_rfl) rfl rfl rfl (by first | exact args0_0 | exact args0_1 | exact args0_2 | exact args0_3 | exact args0_4 | exact args0_5 | exact args0_6) fun X_ w_ => ?_
    have c0_ := hc; refine goX (And.intro @is.eq_1 @gi.eq_1) ?_; first | exact trivial | skip
  · refine Sound.run (N := 18) Try.func94 rfl (by kernel_rfl) rfl rfl rfl (by first | exact args0_0 | exact args0_1 | exact args0_2 | exact args0_3 | exact args0_4 | exact args0_5 | exact args0_6) fun X_ w_ => ?_
    have c0_ := hc; refine goX (And.intro @is.eq_1 @gi.eq_1) ?_; first | exact trivial | skip
  · refine Sound.run (N := 18) Try.func94 rfl (by kernel_rfl) rfl rfl rfl (by first | exact args0_0 | exact args0_1 | exact args0_2 | exact args0_3 | exact args0_4 | exact args0_5 | exact args0_6) fun X_ w_ => ?_
    have c0_ := hc; refine goX (And.intro @is.eq_1 @gi.eq_1) ?_; first | exact trivial | skip
  · refine Sound.run (N := 18) Try.func94 rfl (by kernel_rfl) rfl rfl rfl (by first | exact args0_0 | exact args0_1 | exact args0_2 | exact args0_3 | exact args0_4 | exact args0_5 | exact args0_6) fun X_ w_ => ?_
    have c0_ := hc; refine goX (And.intro @is.eq_1 @gi.eq_1) ?_; first | exact trivial | skip
  · refine Sound.run (N := 18) Try.func94 rfl (by kernel_rfl) rfl rfl rfl (by first | exact args0_0 | exact args0_1 | exact args0_2 | exact args0_3 | exact args0_4 | exact args0_5 | exact args0_6) fun X_ w_ => ?_
    have c0_ := hc; refine goX (And.intro @is.eq_1 @gi.eq_1) ?_; first | exact trivial | skip
  · refine Sound.run (N := 18) Try.func94 rfl (by kernel_rfl) rfl rfl rfl (by first | exact args0_0 | exact args0_1 | exact args0_2 | exact args0_3 | exact args0_4 | exact args0_5 | exact args0_6) fun X_ w_ => ?_
    have c0_ := hc; refine goX (And.intro @is.eq_1 @gi.eq_1) ?_; first | exact trivial | skip
  rename_i r
  rcases r with _ | ⟨b, r⟩
  · refine Sound.run (N := 18) Try.func94 rfl (by kernel_rfl) rfl rfl rfl (by first | exact args0_0 | exact args0_1 | exact args0_2 | exact args0_3 | exact args0_4 | exact args0_5 | exact args0_6) fun X_ w_ => ?_
    have c0_ := hc; refine goX (And.intro @is.eq_1 @gi.eq_1) ?_; first | exact trivial | skip
  · exfalso; simp only [List.length_cons] at h8; omega
end Go.Eng.Try

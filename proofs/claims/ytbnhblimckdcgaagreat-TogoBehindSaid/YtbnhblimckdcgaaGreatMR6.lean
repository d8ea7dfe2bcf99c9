/- Costs: what may be written; whether rules may be. (and what stands behind it: texts laid together) -/
import Derived.Test.YtbnhblimckdcgaaGreatMG4
import Derived.Test.YtbnhblimckdcgaaGreatMR5
set_option linter.unusedVariables false
set_option linter.unusedSimpArgs false
namespace Go.Eng.Tryz
open Go Go.Eng Go.Proofs Go.RowKit
attribute [local go_sem] tys
attribute [local go_sem] is_len is_get rs_len rs_get
theorem itake {a b : List Int} {k : Nat} (hw : a.take k = b.take k) (h1 : k < a.length) (h2 : k < b.length) (h : a[k]! = b[k]!) : a.take (k + 1) = b.take (k + 1) := by
  rw [List.take_add_one, List.take_add_one, hw, List.getElem?_eq_getElem h1, List.getElem?_eq_getElem h2, ← getElem!_pos a k h1, ← getElem!_pos b k h2, h]
set_option maxHeartbeats 4000000 in
set_option maxRecDepth 10000 in
theorem sEqual {a b : List Int} (ha : a.length ≤ 9223372036854775807) (hb : b.length ≤ 9223372036854775807) : Sound Tryz.prog 57 [.sl 1 (is a), .sl 1 (is b)] (.bool (decide (a = b))) := by
  by_cases hl : a.length = b.length
  · refine Sound.run (N := 26) Tryz.func57 rfl (by kernel_rfl) rfl rfl rfl (by first | exact args0_0 | exact args0_1 | exact args0_2 | exact args0_3 | exact args0_4 | exact args0_5 | exact args0_6) fun X_ w_ => ?_
    refine goT ?_; first | exact trivial | skip
    refine WP_loopk (fun k : Nat => k ≤ a.length ∧ a.take k = b.take k) (fun k => [(0, .d (.sl 1 (is a))), (1, .d (.sl 1 (is b))), (12, .d (.int .i64 a.length)), (13, .d (.int .i64 k))]) (fun _ => []) 0 (fun k => a.length - k) [0, 1, 12, 13] [] 0 ⟨Nat.zero_le _, rfl⟩ rfl rfl (Nat.le_refl _) (fun _ _ => rfl) (fun _ _ => rfl) fun k hk => ?_
    obtain ⟨hk1, hw⟩ := hk
    by_cases hk' : k < a.length
    · have hk2 : k < b.length := by omega
      by_cases hc : a[k]! = b[k]!
      · have e := itake hw hk' hk2 hc
        refine goX @hc ?_; first | exact trivial | skip
        refine ⟨k + 1, ⟨by omega, e⟩, ?_, rfl, by omega⟩
        simp (disch := omega) only [go_sem, keepL, Int.natCast_add, Int.cast_ofNat_Int]
      · have e : decide (a = b) = false := decide_eq_false fun h => hc (by rw [h])
        refine goX @e ?_; first | exact trivial | skip
    · have hk' : k = a.length := by omega
      subst hk'
      have e : decide (a = b) = true := decide_eq_true (by rw [List.take_length, hl, List.take_length] at hw; exact hw)
      refine goX @e ?_; first | exact trivial | skip
  · have e : decide (a = b) = false := decide_eq_false fun h => hl (by rw [h])
    refine Sound.run (N := 26) Tryz.func57 rfl (by kernel_rfl) rfl rfl rfl (by first | exact args0_0 | exact args0_1 | exact args0_2 | exact args0_3 | exact args0_4 | exact args0_5 | exact args0_6) fun X_ w_ => ?_
    refine goX @e ?_; first | exact trivial | skip
/-- Where the first is of which something holds. -/
def fidx {α : Type} (p : α → Bool) (l : List α) : Int := if l.any p = true then (l.findIdx p : Nat) else -1
theorem fidx_ge {α : Type} (p : α → Bool) (l : List α) : decide (0 ≤ fidx p l) = l.any p := by
  unfold fidx
  cases h : l.any p
  · rw [if_neg (by simp)]; simp
  · rw [if_pos rfl]; simp
theorem fidx_at {α : Type} [Inhabited α] {p : α → Bool} {l : List α} {k : Nat} (h : k < l.length) (hk : (l.take k).any p = false) (hb : p (l[k]!) = true) : fidx p l = (k : Int) := by
  unfold fidx
  rw [getElem!_pos l k h] at hb
  rw [if_pos (List.any_eq_true.2 ⟨l[k], List.getElem_mem h, hb⟩)]
  congr 1
  rw [List.findIdx_eq h]
  refine ⟨hb, fun j hj => ?_⟩
  have hm : l[j] ∈ l.take k := by
    have : (l.take k)[j]? = some l[j] := by rw [List.getElem?_take, if_pos hj, List.getElem?_eq_getElem (by omega)]
    exact List.mem_of_getElem? this
  cases hp : p l[j] with
  | false => rfl
  | true =>
    have := List.any_eq_true.2 ⟨l[j], hm, hp⟩
    rw [hk] at this; cases this
theorem any_step {α : Type} [Inhabited α] {p : α → Bool} {l : List α} {k : Nat} (h : k < l.length) (hk : (l.take k).any p = false) (hb : p (l[k]!) = false) : (l.take (k + 1)).any p = false := by
  rw [List.take_add_one, List.any_append, List.getElem?_eq_getElem h, hk]
  rw [getElem!_pos l k h] at hb
  simp [hb]
theorem fidx_none {α : Type} {p : α → Bool} {l : List α} (h : l.any p = false) : fidx p l = -1 := by unfold fidx; rw [h]; rfl
set_option maxHeartbeats 4000000 in
set_option maxRecDepth 10000 in
theorem indexG {p : Int → Bool} {g : Nat} (hp : ∀ z, Sound Tryz.prog g [.int .i64 z] (.bool (p z))) {l : List Int} (hl : l.length ≤ 9223372036854775807) : Sound Tryz.prog 91 [.sl 1 (is l), .fn g] (.int .i64 (fidx p l)) := by
  refine Sound.run (N := 19) Tryz.func91 rfl (by kernel_rfl) rfl rfl rfl (by first | exact args0_0 | exact args0_1 | exact args0_2 | exact args0_3 | exact args0_4 | exact args0_5 | exact args0_6) fun X_ w_ => ?_
  refine goT ?_; first | exact trivial | skip
  refine WP_loopk (fun k : Nat => k ≤ l.length ∧ (l.take k).any p = false) (fun k => [(0, .d (.sl 1 (is l))), (1, .d (.fn g)), (7, .d (.int .i64 l.length)), (8, .d (.int .i64 k))]) (fun _ => []) 0 (fun k => l.length - k) [0, 1, 7, 8] [] 0 ⟨Nat.zero_le _, rfl⟩ rfl rfl (Nat.le_refl _) (fun _ _ => rfl) (fun _ _ => rfl) fun k hk => ?_
  obtain ⟨hk1, hw⟩ := hk
  by_cases hk' : k < l.length
  · have c := hp (l[k]!)
    cases hg : p (l[k]!)
    · have hst := any_step hk' hw hg
      rw [hg] at c
      have c0_ := c; refine goT ?_; first | exact trivial | skip
      refine ⟨k + 1, ⟨by omega, hst⟩, ?_, rfl, by omega⟩
      simp (disch := omega) only [go_sem, keepL, Int.natCast_add, Int.cast_ofNat_Int]
    · have e := fidx_at hk' hw hg
      rw [hg] at c
      have c0_ := c; refine goX @e ?_; first | exact trivial | skip
  · have hkl : k = l.length := by omega
    subst hkl
    rw [List.take_length] at hw
    have e := fidx_none hw
    refine goX @e ?_; first | exact trivial | skip
theorem containsG {p : Int → Bool} {g : Nat} (hp : ∀ z, Sound Tryz.prog g [.int .i64 z] (.bool (p z))) {l : List Int} (hl : l.length ≤ 9223372036854775807) : Sound Tryz.prog 72 [.sl 1 (is l), .fn g] (.bool (l.any p)) := by
  have e := fidx_ge p l
  refine Sound.run (N := 9) Tryz.func72 rfl (by kernel_rfl) rfl rfl rfl (by first | exact args0_0 | exact args0_1 | exact args0_2 | exact args0_3 | exact args0_4 | exact args0_5 | exact args0_6) fun X_ w_ => ?_
  have c0_ := indexG hp hl; refine goX @e ?_; first | exact trivial | skip
def blank (z : Int) : Bool := decide (z = 32 ∨ z = 9 ∨ z = 10)
theorem blank_t {z : Int} (h : z = 32 ∨ z = 9 ∨ z = 10) : blank z = true := decide_eq_true h
theorem blank_f {z : Int} (h : ¬ (z = 32 ∨ z = 9 ∨ z = 10)) : blank z = false := decide_eq_false h
theorem plain1 {z : Int} : Sound Tryz.prog 71 [.int .i64 z] (.bool (blank z)) := by
  by_cases h1 : z = 32
  · have e := blank_t (z := z) (by omega)
    refine Sound.run (N := 13) Tryz.func71 rfl (by kernel_rfl) rfl rfl rfl (by first | exact args0_0 | exact args0_1 | exact args0_2 | exact args0_3 | exact args0_4 | exact args0_5 | exact args0_6) fun X_ w_ => ?_
    refine goX (And.intro @e @h1) ?_; first | exact trivial | skip
  by_cases h2 : z = 9
  · have e := blank_t (z := z) (by omega)
    refine Sound.run (N := 13) Tryz.func71 rfl (by kernel_rfl) rfl rfl rfl (by first | exact args0_0 | exact args0_1 | exact args0_2 | exact args0_3 | exact args0_4 | exact args0_5 | exact args0_6) fun X_ w_ => ?_
    refine goX (And.intro @e (And.intro @h1 @h2)) ?_; first | exact trivial | skip
  by_cases h3 : z = 10
  · have e := blank_t (z := z) (by omega)
    refine Sound.run (N := 13) Tryz.func71 rfl (by kernel_rfl) rfl rfl rfl (by first | exact args0_0 | exact args0_1 | exact args0_2 | exact args0_3 | exact args0_4 | exact args0_5 | exact args0_6) fun X_ w_ => ?_
    refine goX (And.intro @e (And.intro @h1 (And.intro @h2 @h3))) ?_; first | exact trivial | skip
  · have e := blank_f (z := z) (by omega)
    refine Sound.run (N := 13) Tryz.func71 rfl (by kernel_rfl) rfl rfl rfl (by first | exact args0_0 | exact args0_1 | exact args0_2 | exact args0_3 | exact args0_4 | exact args0_5 | exact args0_6) fun X_ w_ => ?_
    refine goX (And.intro @e (And.intro @h1 (And.intro @h2 @h3))) ?_; first | exact trivial | skip
/-- May a side be written? -/
def plainL (l : List Int) : Bool := !l.any blank && decide (l ≠ [95])
set_option maxHeartbeats 4000000 in
set_option maxRecDepth 10000 in
theorem sPlain {l : List Int} (hl : l.length ≤ 9223372036854775807) : Sound Tryz.prog 51 [.sl 1 (is l)] (.bool (plainL l)) := by
  have c1 := containsG (p := blank) (g := 71) (fun z => plain1) hl
  have c2 : Sound Tryz.prog 57 [.sl 1 (is l), .sl 1 [.int .i64 95]] (.bool (decide (l = [95]))) := sEqual (b := [95]) hl (by decide)
  cases h : l.any blank
  · rw [h] at c1
    by_cases h2 : l = [95]
    · have e : plainL l = false := by unfold plainL; rw [decide_eq_false (fun hh => hh h2)]; simp
      rw [decide_eq_true h2] at c2
      refine Sound.run (N := 14) Tryz.func51 rfl (by kernel_rfl) rfl rfl rfl (by first | exact args0_0 | exact args0_1 | exact args0_2 | exact args0_3 | exact args0_4 | exact args0_5 | exact args0_6) fun X_ w_ => ?_
      have c0_ := c1; have c1_ := c2; refine goX @e ?_; first | exact trivial | skip
    · have e : plainL l = true := by unfold plainL; rw [decide_eq_true h2, h]; rfl
      rw [decide_eq_false h2] at c2
      refine Sound.run (N := 14) Tryz.func51 rfl (by kernel_rfl) rfl rfl rfl (by first | exact args0_0 | exact args0_1 | exact args0_2 | exact args0_3 | exact args0_4 | exact args0_5 | exact args0_6) fun X_ w_ => ?_
      have c0_ := c1; have c1_ := c2; refine goX @e ?_; first | exact trivial | skip
  · rw [h] at c1
    have e : plainL l = false := by unfold plainL; rw [h]; rfl
    refine Sound.run (N := 14) Tryz.func51 rfl (by kernel_rfl) rfl rfl rfl (by first | exact args0_0 | exact args0_1 | exact args0_2 | exact args0_3 | exact args0_4 | exact args0_5 | exact args0_6) fun X_ w_ => ?_
    have c0_ := c1; have c1_ := c2; refine goX @e ?_; first | exact trivial | skip
/-- May a rule be written? -/
def fit (r : Ru) : Bool := rok r && plainL r.left && plainL r.right
set_option maxHeartbeats 4000000 in
set_option maxRecDepth 10000 in
theorem sFit {r : Ru} (hr : r.ok) : Sound Tryz.prog 33 [ru r] (.bool (fit r)) := by
  have c0 := pRCheck hr
  have c1 := sPlain hr.1
  have c2 := sPlain hr.2.1
  have e : fit r = (rok r && plainL r.left && plainL r.right) := rfl
  unfold ru at c0 ⊢
  cases h0 : rok r <;> cases h1 : plainL r.left <;> cases h2 : plainL r.right <;> rw [h0] at c0 <;> rw [h1] at c1 <;> rw [h2] at c2 <;> simp only [h0, h1, h2, Bool.and_true, Bool.and_false, Bool.false_and] at e
  all_goals refine Sound.run (N := 15) Tryz.func33 rfl (by kernel_rfl) rfl rfl rfl (by first | exact args0_0 | exact args0_1 | exact args0_2 | exact args0_3 | exact args0_4 | exact args0_5 | exact args0_6) fun X_ w_ => ?_
  all_goals (have c0_ := c0; have c1_ := c1; have c2_ := c2; refine goX @e ?_; first | exact trivial | skip)
theorem sFit1 {r : Ru} (hr : r.ok) : Sound Tryz.prog 32 [ru r] (.bool (!fit r)) := by
  have c := sFit hr
  unfold ru at c ⊢
  refine Sound.run (N := 6) Tryz.func32 rfl (by kernel_rfl) rfl rfl rfl (by first | exact args0_0 | exact args0_1 | exact args0_2 | exact args0_3 | exact args0_4 | exact args0_5 | exact args0_6) fun X_ w_ => ?_
  have c0_ := c; refine goT ?_; first | exact trivial | skip
set_option maxHeartbeats 4000000 in
set_option maxRecDepth 10000 in
theorem indexR {l : List Ru} (hok : ∀ r ∈ l, r.ok) (hl : l.length ≤ 9223372036854775807) : Sound Tryz.prog 52 [.sl 3 (rs l), .fn 32] (.int .i64 (fidx (fun r => !fit r) l)) := by
  refine Sound.run (N := 19) Tryz.func52 rfl (by kernel_rfl) rfl rfl rfl (by first | exact args0_0 | exact args0_1 | exact args0_2 | exact args0_3 | exact args0_4 | exact args0_5 | exact args0_6) fun X_ w_ => ?_
  refine goT ?_; first | exact trivial | skip
  refine WP_loopk (fun k : Nat => k ≤ l.length ∧ (l.take k).any (fun r => !fit r) = false) (fun k => [(0, .d (.sl 3 (rs l))), (1, .d (.fn 32)), (7, .d (.int .i64 l.length)), (8, .d (.int .i64 k))]) (fun _ => []) 0 (fun k => l.length - k) [0, 1, 7, 8] [] 0 ⟨Nat.zero_le _, rfl⟩ rfl rfl (Nat.le_refl _) (fun _ _ => rfl) (fun _ _ => rfl) fun k hk => ?_
  obtain ⟨hk1, hw⟩ := hk
  by_cases hk' : k < l.length
  · have c := sFit1 (rok_get hok hk')
    unfold ru at c
    cases hg : fit (l[k]!)
    · have e := fidx_at (p := fun r => !fit r) hk' hw (by simp only [hg]; rfl)
      rw [hg] at c
      have c0_ := c; refine goX @e ?_; first | exact trivial | skip
    · have hst := any_step (p := fun r => !fit r) hk' hw (by simp only [hg]; rfl)
      rw [hg] at c
      have c0_ := c; refine goT ?_; first | exact trivial | skip
      refine ⟨k + 1, ⟨by omega, hst⟩, ?_, rfl, by omega⟩
      simp (disch := omega) only [go_sem, keepL, Int.natCast_add, Int.cast_ofNat_Int]
  · have hkl : k = l.length := by omega
    subst hkl
    rw [List.take_length] at hw
    have e := fidx_none hw
    refine goX @e ?_; first | exact trivial | skip
theorem containsR {l : List Ru} (hok : ∀ r ∈ l, r.ok) (hl : l.length ≤ 9223372036854775807) : Sound Tryz.prog 36 [.sl 3 (rs l), .fn 32] (.bool (l.any fun r => !fit r)) := by
  have e := fidx_ge (fun r => !fit r) l
  refine Sound.run (N := 9) Tryz.func36 rfl (by kernel_rfl) rfl rfl rfl (by first | exact args0_0 | exact args0_1 | exact args0_2 | exact args0_3 | exact args0_4 | exact args0_5 | exact args0_6) fun X_ w_ => ?_
  have c0_ := indexR hok hl; refine goX @e ?_; first | exact trivial | skip
set_option maxHeartbeats 4000000 in
set_option maxRecDepth 10000 in
theorem sSame {r s : Ru} (hr : r.ok) (hs : s.ok) : Sound Tryz.prog 39 [ru r, ru s] (.bool (decide (r = s))) := by
  have c1 := sEqual hr.1 hs.1
  have c2 := sEqual hr.2.1 hs.2.1
  unfold ru
  by_cases h1 : r.left = s.left
  · rw [decide_eq_true h1] at c1
    by_cases h2 : r.right = s.right
    · rw [decide_eq_true h2] at c2
      by_cases h3 : r.cost = s.cost
      · have e : decide (r = s) = true := decide_eq_true (by cases r; cases s; simp only at h1 h2 h3; rw [h1, h2, h3])
        refine Sound.run (N := 24) Tryz.func39 rfl (by kernel_rfl) rfl rfl rfl (by first | exact args0_0 | exact args0_1 | exact args0_2 | exact args0_3 | exact args0_4 | exact args0_5 | exact args0_6) fun X_ w_ => ?_
        have c0_ := c1; have c1_ := c2; refine goX (And.intro @e @h3) ?_; first | exact trivial | skip
      · have e : decide (r = s) = false := decide_eq_false (fun h => h3 (by rw [h]))
        refine Sound.run (N := 24) Tryz.func39 rfl (by kernel_rfl) rfl rfl rfl (by first | exact args0_0 | exact args0_1 | exact args0_2 | exact args0_3 | exact args0_4 | exact args0_5 | exact args0_6) fun X_ w_ => ?_
        have c0_ := c1; have c1_ := c2; refine goX (And.intro @e @h3) ?_; first | exact trivial | skip
    · rw [decide_eq_false h2] at c2
      have e : decide (r = s) = false := decide_eq_false (fun h => h2 (by rw [h]))
      refine Sound.run (N := 24) Tryz.func39 rfl (by kernel_rfl) rfl rfl rfl (by first | exact args0_0 | exact args0_1 | exact args0_2 | exact args0_3 | exact args0_4 | exact args0_5 | exact args0_6) fun X_ w_ => ?_
      have c0_ := c1; have c1_ := c2; refine goX @e ?_; first | exact trivial | skip
  · rw [decide_eq_false h1] at c1
    have e : decide (r = s) = false := decide_eq_false (fun h => h1 (by rw [h]))
    refine Sound.run (N := 24) Tryz.func39 rfl (by kernel_rfl) rfl rfl rfl (by first | exact args0_0 | exact args0_1 | exact args0_2 | exact args0_3 | exact args0_4 | exact args0_5 | exact args0_6) fun X_ w_ => ?_
    have c0_ := c1; have c1_ := c2; refine goX @e ?_; first | exact trivial | skip
end Go.Eng.Tryz

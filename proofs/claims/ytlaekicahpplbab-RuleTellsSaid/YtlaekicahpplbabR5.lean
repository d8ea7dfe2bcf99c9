
/- Rules in order: the order; the library's sort at rules. -/
import Derived.Test.YtlaekicahpplbabR4
import Derived.Test.YtlaekicahpplbabL1
import Derived.Test.YtlaekicahpplbabG36
set_option linter.unusedVariables false
set_option linter.unusedSimpArgs false
namespace Go.Eng.Try
open Go Go.Eng Go.Proofs Go.RowKit
theorem wcmp_swap : ∀ (a b : List Int), wcmp b a = - wcmp a b
  | [], [] => by simp [wcmp]
  | [], _ :: _ => by simp [wcmp]
  | _ :: _, [] => by simp [wcmp]
  | x :: a, y :: b => by
    simp only [wcmp]
    by_cases h : x < y
    · rw [if_pos h, if_neg (by omega), if_pos h]; rfl
    · by_cases h2 : y < x
      · rw [if_pos h2, if_neg h, if_pos h2]
      · rw [if_neg h2, if_neg h, if_neg h, if_neg h2, wcmp_swap a b]
theorem wcmp_le_trans : ∀ (a b c : List Int), wcmp a b ≤ 0 → wcmp b c ≤ 0 → wcmp a c ≤ 0
  | [], b, c, _, _ => by cases c <;> simp [wcmp]
  | x :: a, [], c, h, _ => by simp [wcmp] at h
  | x :: a, y :: b, [], _, h => by simp [wcmp] at h
  | x :: a, y :: b, z :: c, h1, h2 => by
    have ih := wcmp_le_trans a b c
    simp only [wcmp] at h1 h2 ⊢
    rcases Int.lt_trichotomy x y with hxy | hxy | hxy
    · rcases Int.lt_trichotomy y z with hyz | hyz | hyz
      · rw [if_pos (by omega)]; decide
      · rw [if_pos (by omega)]; decide
      · rw [if_neg (by omega), if_pos hyz] at h2; omega
    · subst hxy
      rw [if_neg (by omega), if_neg (by omega)] at h1
      rcases Int.lt_trichotomy x z with hyz | hyz | hyz
      · rw [if_pos (by omega)]; decide
      · subst hyz
        rw [if_neg (by omega), if_neg (by omega)] at h2 ⊢
        exact ih h1 h2
      · rw [if_neg (by omega), if_pos hyz] at h2; omega
    · rw [if_neg (by omega), if_pos hxy] at h1; omega
/-- Of two words: what is behind one that is behind. -/
theorem wcmp_lt_trans {a b c : List Int} (h1 : wcmp a b < 0) (h2 : wcmp b c ≤ 0) : wcmp a c < 0 := by
  have h3 := wcmp_le_trans a b c (by omega) h2
  by_cases h : wcmp a c = 0
  · have e := (wcmp_eq _ _).1 h
    rw [← e] at h2
    have := wcmp_swap a b
    omega
  · omega
theorem wcmp_lt_trans' {a b c : List Int} (h1 : wcmp a b ≤ 0) (h2 : wcmp b c < 0) : wcmp a c < 0 := by
  have h3 := wcmp_le_trans a b c h1 (by omega)
  by_cases h : wcmp a c = 0
  · have e := (wcmp_eq _ _).1 h
    rw [e] at h1
    have := wcmp_swap c b
    omega
  · omega
/-- One stands ahead of another. -/
def rlt (r s : Ru) : Prop := wcmp r.left s.left < 0 ∨ r.left = s.left ∧ (wcmp r.right s.right < 0 ∨ r.right = s.right ∧ r.cost < s.cost)
theorem rcmp_lt {r s : Ru} : rcmp r s < 0 ↔ rlt r s := by
  rw [rcmp_def]
  unfold rlt
  have z1 := (wcmp_eq s.left s.left).2 rfl
  have z2 := (wcmp_eq s.right s.right).2 rfl
  by_cases h1 : wcmp r.left s.left = 0
  · rw [if_neg (by simpa using h1)]
    have e1 := (wcmp_eq _ _).1 h1
    by_cases h2 : wcmp r.right s.right = 0
    · rw [if_neg (by simpa using h2), icmp_lt]
      have e2 := (wcmp_eq _ _).1 h2
      simp [h1, h2, e1, e2, z1, z2]
    · rw [if_pos h2]
      have e2 : r.right ≠ s.right := fun h => h2 ((wcmp_eq _ _).2 h)
      simp [h1, e1, e2, z1]
  · rw [if_pos h1]
    have e1 : r.left ≠ s.left := fun h => h1 ((wcmp_eq _ _).2 h)
    simp [e1]
theorem rlt_irr (r : Ru) : ¬ rlt r r := by
  unfold rlt
  have h1 := (wcmp_eq r.left r.left).2 rfl
  have h2 := (wcmp_eq r.right r.right).2 rfl
  omega
theorem rlt_trans {r s t : Ru} (h1 : rlt r s) (h2 : rlt s t) : rlt r t := by
  unfold rlt at *
  rcases h1 with h1 | ⟨e1, h1⟩
  · rcases h2 with h2 | ⟨e2, h2⟩
    · exact .inl (wcmp_lt_trans h1 (by omega))
    · rw [e2] at h1; exact .inl h1
  · rcases h2 with h2 | ⟨e2, h2⟩
    · rw [e1]; exact .inl h2
    · refine .inr ⟨e1.trans e2, ?_⟩
      rcases h1 with h1 | ⟨f1, h1⟩
      · rcases h2 with h2 | ⟨f2, h2⟩
        · exact .inl (wcmp_lt_trans h1 (by omega))
        · rw [f2] at h1; exact .inl h1
      · rcases h2 with h2 | ⟨f2, h2⟩
        · rw [f1]; exact .inl h2
        · exact .inr ⟨f1.trans f2, by omega⟩
theorem rlt_total (r s : Ru) : rlt r s ∨ r = s ∨ rlt s r := by
  unfold rlt
  have w1 := wcmp_swap r.left s.left
  have w2 := wcmp_swap r.right s.right
  by_cases h1 : wcmp r.left s.left = 0
  · have e1 := (wcmp_eq _ _).1 h1
    by_cases h2 : wcmp r.right s.right = 0
    · have e2 := (wcmp_eq _ _).1 h2
      rcases Int.lt_trichotomy r.cost s.cost with h | h | h
      · exact .inl (.inr ⟨e1, .inr ⟨e2, h⟩⟩)
      · exact .inr (.inl (by cases r; cases s; simp_all))
      · exact .inr (.inr (.inr ⟨e1.symm, .inr ⟨e2.symm, h⟩⟩))
    · by_cases h3 : wcmp r.right s.right < 0
      · exact .inl (.inr ⟨e1, .inl h3⟩)
      · exact .inr (.inr (.inr ⟨e1.symm, .inl (by omega)⟩))
  · by_cases h3 : wcmp r.left s.left < 0
    · exact .inl (.inl h3)
    · exact .inr (.inr (.inl (by omega)))
theorem rlt_ntrans {r s t : Ru} (h1 : ¬ rlt r s) (h2 : ¬ rlt s t) : ¬ rlt r t := fun h => by
  rcases rlt_total r s with h3 | h3 | h3
  · exact h1 h3
  · exact h2 (h3 ▸ h)
  · exact h2 (rlt_trans h3 h)
def rs (l : List Ru) : List D := l.map ru
theorem is_inj {a b : List Int} (h : is a = is b) : a = b := by
  have := congrArg (List.map fun d => match d with | D.int _ z => z | _ => 0) h
  simpa [is, List.map_map, Function.comp_def] using this
theorem ru_inj {r s : Ru} (h : ru r = ru s) : r = s := by
  unfold ru at h
  simp only [D.agg.injEq, List.cons.injEq, D.sl.injEq, D.int.injEq, true_and, and_true] at h
  obtain ⟨h1, h2, h3⟩ := h
  cases r; cases s
  simp only at h1 h2 h3
  rw [is_inj h1, is_inj h2, h3]
open Classical in
noncomputable def unru (d : D) : Ru := if h : ∃ r, d = ru r then h.choose else default
theorem unru_ru (r : Ru) : unru (ru r) = r := by
  unfold unru
  have h : ∃ r', ru r = ru r' := ⟨r, rfl⟩
  rw [dif_pos h]
  exact (ru_inj h.choose_spec).symm
theorem pSort {xs ys : List Ru} (hok : ∀ r ∈ xs, r.ok) (h0 : 0 < xs.length) (hmax : xs.length < 4611686018427387904) (hp : ys.Perm xs) (hs : ys.Pairwise (fun a b => ¬ rlt b a)) :
    SoundM Try.prog 52 [.own 0 xs.length, .d (.fn 49)] [(0, .row 36 3 (rs xs))] (.tup []) [(0, .row 36 3 (rs ys))] 1 := by
  have eg : ∀ args w, (callFunc 49 args).run Try.prog w = .ok (.enter 49 args) w := enters_of Try.func49 (by kernel_rfl) rfl
  have hlen : (rs xs).length = xs.length := by simp [rs]
  have gd : ∀ x, (∃ r : Ru, r.ok ∧ x = ru r) → ru (unru x) = x ∧ (unru x).ok := fun x ⟨r, h1, h2⟩ => by rw [h2, unru_ru]; exact ⟨rfl, h1⟩
  have := sort_sound (P := Try.prog) Try.sortRule (sz := 3) (by decide) Try.isAgg36 Try.sizeOf36 eg (Good := fun x => ∃ r : Ru, r.ok ∧ x = ru r) (cf := fun x y => rcmp (unru x) (unru y))
    (fun x y hx hy => by
      have := pCompare (gd x hx).2 (gd y hy).2
      rwa [(gd x hx).1, (gd y hy).1] at this)
    (fun x hx => by rw [rcmp_lt]; exact rlt_irr _) (fun x y z _ _ _ h1 h2 => by rw [rcmp_lt] at *; exact rlt_trans h1 h2) (fun x y z _ _ _ h1 h2 => by rw [rcmp_lt] at *; exact rlt_ntrans h1 h2)
    (fun x y hx hy h1 h2 => by
      rw [rcmp_lt] at h1 h2
      rcases rlt_total (unru x) (unru y) with h | h | h
      · exact absurd h h1
      · rw [← (gd x hx).1, ← (gd y hy).1, h]
      · exact absurd h h2)
    (fun x ⟨r, _, h⟩ => ⟨_, h⟩) (e := 36) (xs := rs xs) (ys := rs ys) (fun x hx => by
      obtain ⟨r, hr, rfl⟩ := List.mem_map.1 hx
      exact ⟨r, hok r hr, rfl⟩) (by rw [hlen]; exact h0) (by rw [hlen]; exact hmax) (hp.map ru) (by
      unfold rs
      rw [List.pairwise_map]
      exact hs.imp (fun {a b} h => by rw [unru_ru, unru_ru, rcmp_lt]; exact h))
  rw [hlen] at this
  exact this
end Go.Eng.Try

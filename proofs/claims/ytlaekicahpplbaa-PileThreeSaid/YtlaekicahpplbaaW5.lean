
/- Piles in plain words: up, down, what is pushed and popped. -/
import Derived.Test.YtlaekicahpplbaaW3
set_option linter.unusedVariables false
set_option linter.unusedSimpArgs false
namespace Go.Eng.Try
open Go Go.Eng Go.Proofs Go.RowKit
theorem wcmp_le_trans : ∀ (a b c : List Int), wcmp a b ≤ 0 → wcmp b c ≤ 0 → wcmp a c ≤ 0
  | [], b, c, _, _ => by cases c <;> simp [wcmp]
  | x :: a, [], c, h, _ => by simp [wcmp] at h
  | x :: a, y :: b, [], _, h => by simp [wcmp] at h
  | x :: a, y :: b, z :: c, h1, h2 => by
    have ih := wcmp_le_trans a b c
    simp only [wcmp] at h1 h2 ⊢
    rcases Int.lt_trichotomy x y with hxy | hxy | hxy
    · rcases Int.lt_trichotomy y z with hyz | hyz | hyz
      · rw [if_pos (by omega)]; decide
      · rw [if_pos (by omega)]; decide
      · rw [if_neg (by omega), if_pos hyz] at h2; omega
    · subst hxy
      rw [if_neg (by omega), if_neg (by omega)] at h1
      rcases Int.lt_trichotomy x z with hyz | hyz | hyz
      · rw [if_pos (by omega)]; decide
      · subst hyz
        rw [if_neg (by omega), if_neg (by omega)] at h2 ⊢
        exact ih h1 h2
      · rw [if_neg (by omega), if_pos hyz] at h2; omega
    · rw [if_neg (by omega), if_pos hxy] at h1; omega
theorem wcmp_self (a : List Int) : wcmp a a = 0 := (wcmp_eq a a).2 rfl
theorem eless_iff {a b : En} : eless a b = true ↔ a.cost < b.cost ∨ a.cost = b.cost ∧ (wcmp a.word b.word < 0 ∨ wcmp a.word b.word = 0 ∧ a.done = false ∧ b.done = true) := by
  unfold eless
  have hs := wcmp_swap a.word b.word
  by_cases h1 : a.cost = b.cost
  · rw [if_neg (by simpa using h1)]
    by_cases h2 : wcmp a.word b.word < 0
    · rw [if_pos h2]; simp [h1, h2]
    · rw [if_neg h2]
      by_cases h3 : wcmp b.word a.word < 0
      · rw [if_pos h3]
        constructor
        · intro h; cases h
        · rintro (h | ⟨_, h | ⟨h, _⟩⟩) <;> omega
      · rw [if_neg h3]
        have h4 : wcmp a.word b.word = 0 := by omega
        simp [h1, h4, Bool.and_eq_true]
  · rw [if_pos h1]
    simp [h1]
theorem eless_asym {a b : En} (h : eless a b = true) : eless b a = false := by
  cases hb : eless b a with
  | false => rfl
  | true =>
    rw [eless_iff] at h hb
    have hs := wcmp_swap a.word b.word
    rcases h with h | ⟨h, h' | ⟨h', h2, h3⟩⟩ <;> rcases hb with k | ⟨k, k' | ⟨k', k2, k3⟩⟩ <;> first | omega | (rw [h3] at k2; cases k2)
theorem eless_self (a : En) : eless a a = false := by
  cases h : eless a a with
  | false => rfl
  | true => exact (eless_asym h).symm.trans h |>.symm ▸ rfl
/-- Whoever is behind one is behind, or ahead of whom that one is ahead. -/
theorem eless_or {a b c : En} (h : eless a c = true) : eless a b = true ∨ eless b c = true := by
  rw [eless_iff] at h
  rw [eless_iff, eless_iff]
  have t1 := wcmp_le_trans c.word b.word a.word
  have s1 := wcmp_swap a.word b.word
  have s2 := wcmp_swap b.word c.word
  have s3 := wcmp_swap a.word c.word
  by_cases h1 : a.cost < b.cost
  · exact .inl (.inl h1)
  · by_cases h2 : b.cost < c.cost
    · exact .inr (.inl h2)
    · have e1 : a.cost = c.cost ∧ a.cost = b.cost ∧ b.cost = c.cost := by
        rcases h with h | ⟨h, _⟩ <;> omega
      have h' : wcmp a.word c.word < 0 ∨ wcmp a.word c.word = 0 ∧ a.done = false ∧ c.done = true := by
        rcases h with h | ⟨_, h⟩
        · omega
        · exact h
      by_cases h3 : wcmp a.word b.word < 0
      · exact .inl (.inr ⟨e1.2.1, .inl h3⟩)
      · by_cases h4 : wcmp b.word c.word < 0
        · exact .inr (.inr ⟨e1.2.2, .inl h4⟩)
        · have h5 : wcmp c.word a.word ≤ 0 := t1 (by omega) (by omega)
          rcases h' with h' | ⟨h', h6, h7⟩
          · omega
          · have ea := (wcmp_eq _ _).1 h'
            have h8 : wcmp a.word b.word = 0 := by
              rw [← ea] at h4 s2
              omega
            have h9 : wcmp b.word c.word = 0 := by
              rw [← ea] at h4 ⊢ s2
              omega
            cases hb : b.done
            · exact .inr (.inr ⟨e1.2.2, .inr ⟨h9, rfl, h7⟩⟩)
            · exact .inl (.inr ⟨e1.2.1, .inr ⟨h8, h6, rfl⟩⟩)
theorem eless_nt {a b c : En} (h1 : eless a b = false) (h2 : eless b c = false) : eless a c = false := by
  cases h : eless a c with
  | false => rfl
  | true => rcases eless_or (b := b) h with h | h <;> simp_all
theorem eless_trans {a b c : En} (h1 : eless a b = true) (h2 : eless b c = true) : eless a c = true := by
  rcases eless_or (b := c) h1 with h | h
  · exact h
  · rw [eless_asym h2] at h; cases h
theorem eless_same {a b : En} (h1 : eless a b = false) (h2 : eless b a = false) : a.cost = b.cost ∧ a.done = b.done ∧ a.word = b.word := by
  have hs := wcmp_swap a.word b.word
  have n1 : ¬ (a.cost < b.cost ∨ a.cost = b.cost ∧ (wcmp a.word b.word < 0 ∨ wcmp a.word b.word = 0 ∧ a.done = false ∧ b.done = true)) := fun h => by rw [eless_iff.2 h] at h1; cases h1
  have n2 : ¬ (b.cost < a.cost ∨ b.cost = a.cost ∧ (wcmp b.word a.word < 0 ∨ wcmp b.word a.word = 0 ∧ b.done = false ∧ a.done = true)) := fun h => by rw [eless_iff.2 h] at h2; cases h2
  have e1 : a.cost = b.cost := by omega
  have e2 : wcmp a.word b.word = 0 := by
    have : ¬ wcmp a.word b.word < 0 := fun h => n1 (.inr ⟨e1, .inl h⟩)
    have : ¬ wcmp b.word a.word < 0 := fun h => n2 (.inr ⟨e1.symm, .inl h⟩)
    omega
  refine ⟨e1, ?_, (wcmp_eq _ _).1 e2⟩
  cases ha : a.done
  · cases hb : b.done
    · rfl
    · exact absurd (.inr ⟨e1, .inr ⟨e2, ha, hb⟩⟩) n1
  · cases hb : b.done
    · exact absurd (.inr ⟨e1.symm, .inr ⟨by omega, hb, ha⟩⟩) n2
    · rfl

/-! ### Rows -/
theorem set_get! {l : List En} {i k : Nat} {v : En} (hk : k < l.length) : (l.set i v)[k]! = if i = k then v else l[k]! := by
  rw [getElem!_pos _ k (by simpa using hk), List.getElem_set]
  split
  · rfl
  · rw [getElem!_pos l k hk]
theorem swp_get {l : List En} {i j k : Nat} (hi : i < l.length) (hj : j < l.length) (hk : k < l.length) : (swp l i j)[k]! = if k = j then l[i]! else if k = i then l[j]! else l[k]! := by
  unfold swp
  rw [set_get! (by simpa using hk), set_get! hk]
  by_cases h1 : k = j
  · rw [if_pos h1.symm, if_pos h1]
  · rw [if_neg (fun h => h1 h.symm), if_neg h1]
    by_cases h2 : k = i
    · rw [if_pos h2.symm, if_pos h2]
    · rw [if_neg (fun h => h2 h.symm), if_neg h2]
theorem swp_perm {l : List En} {i j : Nat} (hi : i < l.length) (hj : j < l.length) : (swp l i j).Perm l := by
  unfold swp
  rw [getElem!_pos l i hi, getElem!_pos l j hj]
  exact List.set_set_perm hi hj
theorem upF_perm : ∀ (f : Nat) (l : List En) (i : Nat), i < l.length → (upF f l i).Perm l
  | 0, l, i, _ => List.Perm.refl _
  | f + 1, l, i, hi => by
    simp only [upF]
    split
    · exact List.Perm.refl _
    · split
      · have hp : (i - 1) / 2 < l.length := by omega
        exact (upF_perm f _ _ (by rw [swp_len]; exact hp)).trans (swp_perm hi hp)
      · exact List.Perm.refl _
theorem pchk_iff {l : List En} : pchk l = true ↔ ∀ c, c < l.length → 0 < c → eless (l[c]!) (l[(c - 1) / 2]!) = false := by
  unfold pchk
  rw [decide_eq_true_eq]
theorem up_heap : ∀ (f : Nat) (l : List En) (i : Nat), i < l.length → i ≤ f → (∀ c, c < l.length → 0 < c → c ≠ i → eless (l[c]!) (l[(c - 1) / 2]!) = false) → (∀ c, c < l.length → 0 < c → (c - 1) / 2 = i → 0 < i → eless (l[c]!) (l[(i - 1) / 2]!) = false) → pchk (upF f l i) = true
  | 0, l, i, hi, hf, h1, h2 => by
    simp only [upF]
    exact pchk_iff.2 fun c hc h0 => h1 c hc h0 (by omega)
  | f + 1, l, i, hi, hf, h1, h2 => by
    simp only [upF]
    by_cases h0 : i = 0
    · rw [if_pos h0]
      exact pchk_iff.2 fun c hc h0' => h1 c hc h0' (by omega)
    · rw [if_neg h0]
      have hp : (i - 1) / 2 < l.length := by omega
      cases he : eless (l[i]!) (l[(i - 1) / 2]!) with
      | false =>
        simp only [Bool.false_eq_true, if_false]
        refine pchk_iff.2 fun c hc h0' => ?_
        by_cases hci : c = i
        · subst hci; exact he
        · exact h1 c hc h0' hci
      | true =>
        simp only [if_true]
        have hpi : (i - 1) / 2 < i := by omega
        generalize hpe : (i - 1) / 2 = p at *
        refine up_heap f (swp l i p) p (by rw [swp_len]; exact hp) (by omega) (fun c hc h0' hcp => ?_) (fun c hc h0' hcp hp0 => ?_)
        · rw [swp_len] at hc
          have hq : (c - 1) / 2 < l.length := by omega
          rw [swp_get hi hp hc, swp_get hi hp hq, if_neg hcp]
          by_cases hci : c = i
          · subst hci
            rw [if_pos rfl, if_pos hpe]
            exact eless_asym he
          · rw [if_neg hci]
            by_cases hc1 : (c - 1) / 2 = p
            · rw [if_pos hc1]
              have := h1 c hc h0' hci
              rw [hc1] at this
              cases hx : eless (l[c]!) (l[i]!) with
              | false => rfl
              | true => rw [eless_trans hx he] at this; cases this
            · rw [if_neg hc1]
              by_cases hc2 : (c - 1) / 2 = i
              · rw [if_pos hc2]
                exact h2 c hc h0' hc2 (by omega)
              · rw [if_neg hc2]
                exact h1 c hc h0' hci
        · rw [swp_len] at hc
          have hq : (p - 1) / 2 < l.length := by omega
          rw [swp_get hi hp hc, swp_get hi hp hq, if_neg (by omega), if_neg (show ¬ (p - 1) / 2 = p by omega), if_neg (show ¬ (p - 1) / 2 = i by omega)]
          have hpp := h1 p hp hp0 (by omega)
          by_cases hci : c = i
          · rw [if_pos hci]
            exact hpp
          · rw [if_neg hci]
            have := h1 c hc h0' hci
            rw [hcp] at this
            exact eless_nt this hpp

/-! ### Down -/
def pickU (l : List En) (i : Nat) : Nat := if 2 * i + 2 < l.length ∧ eless (l[2 * i + 2]!) (l[2 * i + 1]!) = true then 2 * i + 2 else 2 * i + 1
def downF : Nat → List En → Nat → List En
  | 0, l, _ => l
  | f + 1, l, i => if 2 * i + 1 < l.length then if eless (l[pickU l i]!) (l[i]!) = true then downF f (swp l i (pickU l i)) (pickU l i) else l else l
theorem pickU_lt {l : List En} {i : Nat} (h : 2 * i + 1 < l.length) : pickU l i < l.length ∧ (pickU l i - 1) / 2 = i ∧ i < pickU l i := by
  unfold pickU
  split <;> omega
theorem pickU_le {l : List En} {i c : Nat} (hc : c < l.length) (h0 : 0 < c) (hp : (c - 1) / 2 = i) : eless (l[c]!) (l[pickU l i]!) = false := by
  unfold pickU
  rcases (by omega : c = 2 * i + 1 ∨ c = 2 * i + 2) with rfl | rfl
  · split
    · rename_i h; exact eless_asym h.2
    · exact eless_self _
  · split
    · exact eless_self _
    · rename_i h
      cases hx : eless (l[2 * i + 2]!) (l[2 * i + 1]!) with
      | false => rfl
      | true => exact absurd ⟨hc, hx⟩ h
theorem downF_perm : ∀ (f : Nat) (l : List En) (i : Nat), i < l.length → (downF f l i).Perm l
  | 0, l, i, _ => List.Perm.refl _
  | f + 1, l, i, hi => by
    simp only [downF]
    split
    · rename_i h
      split
      · obtain ⟨hu, _, _⟩ := pickU_lt h
        exact (downF_perm f _ _ (by rw [swp_len]; exact hu)).trans (swp_perm hi hu)
      · exact List.Perm.refl _
    · exact List.Perm.refl _
theorem dn_heap : ∀ (f : Nat) (l : List En) (i : Nat), i < l.length → l.length ≤ i + f → (∀ c, c < l.length → 0 < c → (c - 1) / 2 ≠ i → eless (l[c]!) (l[(c - 1) / 2]!) = false) → (∀ c, c < l.length → 0 < c → (c - 1) / 2 = i → 0 < i → eless (l[c]!) (l[(i - 1) / 2]!) = false) → pchk (downF f l i) = true
  | 0, l, i, hi, hf, h1, h2 => by omega
  | f + 1, l, i, hi, hf, h1, h2 => by
    simp only [downF]
    by_cases h : 2 * i + 1 < l.length
    · rw [if_pos h]
      obtain ⟨hu, hui, hlt⟩ := pickU_lt h
      have hmin := fun c hc h0 hp => pickU_le (l := l) (i := i) (c := c) hc h0 hp
      generalize pickU l i = u at *
      cases he : eless (l[u]!) (l[i]!) with
      | false =>
        simp only [Bool.false_eq_true, if_false]
        refine pchk_iff.2 fun c hc h0 => ?_
        by_cases hp : (c - 1) / 2 = i
        · rw [hp]; exact eless_nt (hmin c hc h0 hp) he
        · exact h1 c hc h0 hp
      | true =>
        simp only [if_true]
        refine dn_heap f (swp l i u) u (by rw [swp_len]; exact hu) (by rw [swp_len]; omega) (fun c hc h0 hcu => ?_) (fun c hc h0 hcu hu0 => ?_)
        · rw [swp_len] at hc
          have hq : (c - 1) / 2 < l.length := by omega
          rw [swp_get hi hu hc, swp_get hi hu hq, if_neg hcu]
          by_cases hp : (c - 1) / 2 = i
          · rw [if_pos hp]
            by_cases hcu2 : c = u
            · rw [if_pos hcu2]; exact eless_asym he
            · rw [if_neg hcu2, if_neg (by omega)]
              exact hmin c hc h0 hp
          · rw [if_neg hp, if_neg (by intro e; subst e; exact hp hui)]
            by_cases hci : c = i
            · rw [if_pos hci]
              subst hci
              exact h2 u hu (by omega) hui h0
            · rw [if_neg hci]
              exact h1 c hc h0 hp
        · rw [swp_len] at hc
          rw [swp_get hi hu hc, swp_get hi hu (by omega), if_neg (by omega), if_neg (by omega), if_neg (by omega), hui, if_pos rfl]
          have := h1 c hc h0 (by omega)
          rw [hcu] at this
          exact this
    · rw [if_neg h]
      exact pchk_iff.2 fun c hc h0 => h1 c hc h0 (by omega)

/-! ### The first one -/
theorem head_min {l : List En} (h : pchk l = true) : ∀ (n c : Nat), c ≤ n → c < l.length → eless (l[c]!) (l[0]!) = false
  | 0, c, hn, hc => by
    have : c = 0 := by omega
    subst this
    exact eless_self _
  | n + 1, c, hn, hc => by
    by_cases h0 : c = 0
    · subst h0; exact eless_self _
    · exact eless_nt (pchk_iff.1 h c hc (by omega)) (head_min h n ((c - 1) / 2) (by omega) (by omega))
def hpush (l : List En) (e : En) : List En := upF l.length (l ++ [e]) l.length
def hrest (l : List En) : List En := downF l.length ((l.set 0 (l[l.length - 1]!)).take (l.length - 1)) 0
theorem app_get {l : List En} {e : En} {k : Nat} (hk : k < l.length) : (l ++ [e])[k]! = l[k]! := by
  rw [getElem!_pos _ k (by simp; omega), getElem!_pos l k hk, List.getElem_append_left hk]
theorem app_last {l : List En} {e : En} : (l ++ [e])[l.length]! = e := by
  rw [getElem!_pos _ _ (by simp)]; simp
theorem hpush_perm (l : List En) (e : En) : (hpush l e).Perm (l ++ [e]) := upF_perm _ _ _ (by simp)
theorem hpush_len (l : List En) (e : En) : (hpush l e).length = l.length + 1 := by rw [(hpush_perm l e).length_eq]; simp
theorem hpush_heap {l : List En} {e : En} (h : pchk l = true) : pchk (hpush l e) = true := by
  refine up_heap _ _ _ (by simp) (Nat.le_refl _) (fun c hc h0 hcl => ?_) (fun c hc h0 hcp hl => ?_)
  · simp only [List.length_append, List.length_cons, List.length_nil] at hc
    rw [app_get (by omega), app_get (by omega)]
    exact pchk_iff.1 h c (by omega) h0
  · simp only [List.length_append, List.length_cons, List.length_nil] at hc
    omega
theorem hrest_perm {l : List En} (h : 0 < l.length) : (hrest l).Perm l.tail := by
  match l, h with
  | [a], _ => exact List.Perm.refl _
  | a :: b :: m, _ =>
    unfold hrest
    have hm : 0 < (b :: m).length := by simp
    generalize b :: m = t at hm
    have hne : t ≠ [] := by intro e; subst e; simp at hm
    obtain ⟨q, z, rfl⟩ : ∃ q z, t = q ++ [z] := ⟨t.dropLast, t.getLast hne, (List.dropLast_concat_getLast hne).symm⟩
    refine (downF_perm _ _ _ (by simp)).trans ?_
    have e1 : (a :: (q ++ [z]))[(a :: (q ++ [z])).length - 1]! = z := by
      rw [getElem!_pos _ _ (by simp)]; simp
    rw [e1]
    have e2 : ((a :: (q ++ [z])).set 0 z).take ((a :: (q ++ [z])).length - 1) = z :: q := by simp
    rw [e2]
    exact (List.perm_append_singleton z q).symm
theorem hrest_len {l : List En} (h : 0 < l.length) : (hrest l).length = l.length - 1 := by rw [(hrest_perm h).length_eq]; simp
theorem take_get {l : List En} {n k : Nat} (hk : k < n) (hn : n ≤ l.length) : (l.take n)[k]! = l[k]! := by
  rw [getElem!_pos _ k (by simp; omega), getElem!_pos l k (by omega), List.getElem_take]
theorem hrest_heap {l : List En} (h0 : 0 < l.length) (h : pchk l = true) : pchk (hrest l) = true := by
  by_cases h1 : l.length = 1
  · have : hrest l = [] := List.eq_nil_of_length_eq_zero (by rw [hrest_len h0]; omega)
    rw [this]; rfl
  · have hlen : ((l.set 0 (l[l.length - 1]!)).take (l.length - 1)).length = l.length - 1 := by simp
    refine dn_heap _ _ _ (by rw [hlen]; omega) (by rw [hlen]; omega) (fun c hc hc0 hp => ?_) (fun c hc hc0 hp h0' => by omega)
    rw [hlen] at hc
    rw [take_get hc (by simp), take_get (by omega) (by simp), set_get! (by omega), set_get! (by omega), if_neg (by omega), if_neg (by omega)]
    exact pchk_iff.1 h c (by omega) hc0
theorem mem_min {l : List En} (h : pchk l = true) {e : En} (he : e ∈ l) : eless e (l[0]!) = false := by
  obtain ⟨k, hk0⟩ := List.mem_iff_getElem?.1 he
  obtain ⟨hk, rfl⟩ := List.getElem?_eq_some_iff.1 hk0
  rw [← getElem!_pos l k hk]
  exact head_min h k k (Nat.le_refl _) hk
theorem ecount_perm {l m : List En} (h : l.Perm m) (e : En) : ecount l e = ecount m e := by
  unfold ecount
  exact (h.filter _).length_eq
theorem ecount_app (l m : List En) (e : En) : ecount (l ++ m) e = ecount l e + ecount m e := by
  unfold ecount; simp
theorem ok_perm {l m : List En} (h : l.Perm m) (hm : ∀ e ∈ m, e.ok) : ∀ e ∈ l, e.ok := fun e he => hm e (h.mem_iff.1 he)
end Go.Eng.Try

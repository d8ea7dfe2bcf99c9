/- Is each state led to, and does each lead to one that is final? (and what stands behind it: texts laid together) -/
import Derived.Test.YtabfoaoeghikoaaGreatDoorMG4
import Derived.Test.YtabfoaoeghikoaaGreatDoorMR16
import Derived.Test.YtabfoaoeghikoaaGreatDoorMR17
import Derived.Test.YtabfoaoeghikoaaGreatDoorMR6
set_option linter.unusedVariables false
set_option linter.unusedSimpArgs false
namespace Go.Eng.Tryz
open Go Go.Eng Go.Proofs Go.RowKit
attribute [local go_sem] ty0 ty1 ty2 ty3 ty4 ty5 ty6 ty7 ty8 ty9 ty10 ty11 ty12 ty13 ty14 ty15 ty16 ty17 ty18
attribute [local go_sem] is_len is_get iss_len iss_get ars_len ars_get stas_len stas_get bls_len bls_get bls_set
def Led (l : List Sta) (t : Nat) : Prop := ∃ u, leadF l 0 u = some (t : Int)
def Fin (l : List Sta) (t : Nat) : Prop := ∃ v s, leadF l t v = some s ∧ (l[s.toNat]!).final = true
theorem step_of {l : List Sta} (hka : achk l = true) {k : Nat} (hk : k < l.length) {a : Ar} (ha : a ∈ (l[k]!).arcs) : stepF l k a.sign = some a.to := by
  unfold stepF
  rw [if_pos ⟨by omega, by omega⟩, Int.toNat_natCast, arcs_find2 (statesOk_le (achk_iff.1 hka).1 hk) a ha]
  rfl
theorem Led.iff {l : List Sta} (hka : achk l = true) {t : Nat} (ht : t < l.length) : Led l t ↔ t = 0 ∨ ∃ p, p < t ∧ Led l p ∧ ∃ a ∈ (l[p]!).arcs, a.to.toNat = t := by
  have hl0 := (achk_iff.1 hka).2.1
  constructor
  · rintro ⟨u, hu⟩
    rcases List.eq_nil_or_concat u with rfl | ⟨v, z, rfl⟩
    · left
      simp only [leadF, Option.some.injEq] at hu
      omega
    · right
      rw [List.concat_eq_append, leadF_app] at hu
      cases h : leadF l 0 v with
      | none => rw [h] at hu; cases hu
      | some s =>
        rw [h] at hu
        simp only [leadF] at hu
        have hin := lead_in hka v 0 s (Int.le_refl _) (by omega) h
        obtain ⟨p, rfl⟩ := Int.eq_ofNat_of_zero_le hin.1
        cases hs : stepF l p z with
        | none => rw [hs] at hu; cases hu
        | some q =>
          rw [hs] at hu
          simp only [Option.some.injEq] at hu
          subst hu
          obtain ⟨h1, a, ha, e1, e2⟩ := stepF_arc hka hs
          have := stepF_in hka hs
          exact ⟨p, by omega, ⟨v, h⟩, a, ha, by rw [e2]; simp⟩
  · rintro (rfl | ⟨p, hp, ⟨v, hv⟩, a, ha, e⟩)
    · exact ⟨[], rfl⟩
    · have hin := achk_arc hka (by omega) a ha
      refine ⟨v ++ [a.sign], ?_⟩
      rw [leadF_app, hv]
      simp only [leadF, step_of hka (show p < l.length by omega) ha]
      congr 1
      omega
theorem Fin.iff {l : List Sta} (hka : achk l = true) {t : Nat} (ht : t < l.length) : Fin l t ↔ (l[t]!).final = true ∨ ∃ a ∈ (l[t]!).arcs, Fin l a.to.toNat := by
  constructor
  · rintro ⟨v, s, h1, h2⟩
    cases v with
    | nil =>
      simp only [leadF, Option.some.injEq] at h1
      subst h1
      exact .inl (by simpa using h2)
    | cons z v =>
      simp only [leadF] at h1
      cases hs : stepF l t z with
      | none => rw [hs] at h1; cases h1
      | some q =>
        rw [hs] at h1
        obtain ⟨_, a, ha, e1, e2⟩ := stepF_arc hka hs
        have := stepF_in hka hs
        exact .inr ⟨a, ha, v, s, by rw [e2, Int.toNat_of_nonneg (by omega)]; exact h1, h2⟩
  · rintro (h | ⟨a, ha, v, s, h1, h2⟩)
    · exact ⟨[], t, rfl, by simpa using h⟩
    · have hin := achk_arc hka ht a ha
      rw [Int.toNat_of_nonneg (by omega)] at h1
      exact ⟨a.sign :: v, s, by simp only [leadF, step_of hka ht ha]; exact h1, h2⟩
/-- Each state is used. -/
def usedP (l : List Sta) : Prop := ∀ t, t < l.length → Led l t ∧ Fin l t
open Classical in
noncomputable def usedB (l : List Sta) : Bool := decide (usedP l)
theorem usedB_t {l : List Sta} (h : usedP l) : usedB l = true := by unfold usedB; exact @decide_eq_true _ (Classical.propDecidable _) h
theorem usedB_f {l : List Sta} (h : ¬ usedP l) : usedB l = false := by unfold usedB; exact @decide_eq_false _ (Classical.propDecidable _) h
theorem usedB_of {l : List Sta} (h : usedB l = true) : usedP l := Classical.byContradiction fun k => by rw [usedB_f k] at h; cases h
/-- Led to by the states ahead of k. -/
def FrI (l : List Sta) (k t : Nat) : Prop := (t = 0 ∧ 0 < k) ∨ ∃ p, p < k ∧ Led l p ∧ ∃ a ∈ (l[p]!).arcs, a.to.toNat = t
theorem FrI.self {l : List Sta} (hka : achk l = true) {k : Nat} (hk : k < l.length) : Led l k ↔ k = 0 ∨ FrI l k k := by
  rw [Led.iff hka hk]
  unfold FrI
  constructor
  · rintro (h | h)
    · exact .inl h
    · exact .inr (.inr h)
  · rintro (h | ⟨h, _⟩ | h)
    · exact .inl h
    · exact .inl h
    · exact .inr h
theorem FrI.next {l : List Sta} (hka : achk l = true) {k t : Nat} (hk : k < l.length) (ht : t < l.length) (hL : Led l k) : ((t = k ∨ FrI l k t) ∨ ∃ a ∈ (l[k]!).arcs, a.to.toNat = t) ↔ FrI l (k + 1) t := by
  constructor
  · rintro ((h | h) | ⟨a, ha, e⟩)
    · subst h
      rcases (Led.iff hka hk).1 hL with h | ⟨p, hp, h⟩
      · exact .inl ⟨h, by omega⟩
      · exact .inr ⟨p, by omega, h⟩
    · rcases h with ⟨h1, h2⟩ | ⟨p, hp, h⟩
      · exact .inl ⟨h1, by omega⟩
      · exact .inr ⟨p, by omega, h⟩
    · exact .inr ⟨k, by omega, hL, a, ha, e⟩
  · rintro (⟨h, _⟩ | ⟨p, hp, h, a, ha, e⟩)
    · by_cases e : k = 0
      · exact .inl (.inl (by omega))
      · exact .inl (.inr (.inl ⟨h, by omega⟩))
    · by_cases e2 : p = k
      · subst e2; exact .inr ⟨a, ha, e⟩
      · exact .inl (.inr (.inr ⟨p, by omega, h, a, ha, e⟩))
theorem FrI.skip {l : List Sta} {k t : Nat} (hk : k ≠ 0) (hL : ¬ Led l k) : FrI l (k + 1) t ↔ FrI l k t := by
  constructor
  · rintro (⟨h, _⟩ | ⟨p, hp, h, r⟩)
    · exact .inl ⟨h, by omega⟩
    · by_cases e : p = k
      · subst e; exact absurd h hL
      · exact .inr ⟨p, by omega, h, r⟩
  · rintro (⟨h, _⟩ | ⟨p, hp, h⟩)
    · exact .inl ⟨h, by omega⟩
    · exact .inr ⟨p, by omega, h⟩
theorem FrI.ini {l : List Sta} {k t : Nat} {F : List Bool} (hk : k < F.length) (h : F[t]! = true ↔ FrI l k t) : (F.set k true)[t]! = true ↔ (t = k ∨ FrI l k t) ∨ ∃ a ∈ (l[k]!).arcs.take 0, a.to.toNat = t := by
  rw [getB_setI hk]
  by_cases e : t = k
  · rw [if_pos e]
    exact ⟨fun _ => .inl (.inl e), fun _ => rfl⟩
  · rw [if_neg e, h]
    constructor
    · exact fun h => .inl (.inr h)
    · rintro ((h | h) | ⟨a, ha, _⟩)
      · exact absurd h e
      · exact h
      · simp at ha
set_option maxHeartbeats 16000000 in
set_option maxRecDepth 10000 in
theorem pUsed {l : List Sta} (hl : StaOk l) (hka : achk l = true) : Sound Tryz.prog 21 [.sl 2 (stas l)] (.bool (usedB l)) := by
  have hle := (achk_iff.1 hka).2.2
  have hl0 := (achk_iff.1 hka).2.1
  have hfew : ∀ k, k < l.length → (l[k]!).arcs.length ≤ 9223372036854775807 := fun k hk => hl.get hk
  have hfw : ∀ k, k < l.length → ∀ a ∈ (l[k]!).arcs, 0 ≤ a.to ∧ k < a.to.toNat ∧ a.to.toNat < l.length := fun k hk a ha => by
    have := achk_arc hka hk a ha
    omega
  refine Sound.run (N := 117) Tryz.func21 rfl (by kernel_rfl) rfl rfl rfl (by first | exact args0_0 | exact args0_1 | exact args0_2 | exact args0_3 | exact args0_4 | exact args0_5 | exact args0_6) fun X_ w_ => ?_
  refine goT ?_; first | exact trivial | skip
  refine WP_loopk (α := Nat × List Bool) (fun x => x.1 ≤ l.length ∧ x.2.length = l.length ∧ ∀ t, t < l.length → (x.2[t]! = true ↔ FrI l x.1 t))
    (fun x => [(0, .d (.sl 2 (stas l))), (3, .own 1002 l.length), (4, .own 2002 l.length), (5, .d (.int .i64 x.1))])
    (fun x => [(2002, .row 4 1 (bls (List.replicate l.length false))), (1002, .row 4 1 (bls x.2))]) 20000 (fun x => l.length - x.1) [0, 3, 4, 5] [2002, 1002] (0, List.replicate l.length false) ⟨Nat.zero_le _, by simp, fun t ht => by
      constructor
      · intro h
        rw [getElem!_pos _ t (by simpa using ht)] at h
        simp at h
      · rintro (⟨_, h⟩ | ⟨p, h, _⟩) <;> exact absurd h (Nat.not_lt_zero _)⟩ rfl (by rw [bls_rep]; rfl) (Nat.le_of_ble_eq_true rfl) (fun _ _ => rfl) (fun _ _ => rfl) fun ⟨k, F⟩ hx => ?_
  obtain ⟨h1, h2, h3⟩ := hx
  simp only at h1 h2 h3
  by_cases hk3 : k < l.length
  · have hfk := hfew k hk3
    have hsl : ∀ b, (F.set k b).length = l.length := fun b => by rw [List.length_set, h2]
    have hself := FrI.self hka hk3
    rw [← h3 k hk3] at hself
    cases hA : F[k]!
    · by_cases hk0 : k = 0
      · have hLk : Led l k := hself.2 (.inl hk0)
        refine goX (And.intro @h2 @hA) ?_; first | exact trivial | skip
        refine WP_loopk (α := Nat × List Bool) (fun y => y.1 ≤ (l[k]!).arcs.length ∧ y.2.length = l.length ∧ y.2[k]! = true ∧ ∀ t, t < l.length → (y.2[t]! = true ↔ (t = k ∨ FrI l k t) ∨ ∃ a ∈ (l[k]!).arcs.take y.1, a.to.toNat = t))
          (fun y => [(0, .d (.sl 2 (stas l))), (3, .own 1002 l.length), (4, .own 2002 l.length), (5, .d (.int .i64 k)), (6, .d (.int .i64 y.1))])
          (fun y => [(2002, .row 4 1 (bls (List.replicate l.length false))), (1002, .row 4 1 (bls y.2))]) 30000 (fun y => (l[k]!).arcs.length - y.1) [0, 3, 4, 5, 6] [2002, 1002] (0, F.set k true) ⟨Nat.zero_le _, hsl true, by rw [getB_setI (by omega), if_pos rfl], fun t ht => FrI.ini (by omega) (h3 t ht)⟩ rfl rfl (Nat.le_of_ble_eq_true rfl) (fun _ _ => rfl) (fun _ _ => rfl) fun ⟨j, G⟩ hj => ?_
        obtain ⟨j1, j2, j3, j4⟩ := hj
        simp only at j1 j2 j3 j4
        by_cases hj7 : j < (l[k]!).arcs.length
        · have hmem : (l[k]!).arcs[j]! ∈ (l[k]!).arcs := getM hj7
          have htk := atake_snoc hj7
          obtain ⟨g1, g2, g3⟩ := hfw k hk3 _ hmem
          obtain ⟨t, ht⟩ := Int.eq_ofNat_of_zero_le g1
          rw [ht, Int.toNat_natCast] at g2 g3
          have hsl2 : (G.set t true).length = l.length := by rw [List.length_set, j2]
          refine goX (And.intro @j2 (And.intro @j3 (And.intro @ht @Int.toNat_natCast))) ?_; first | exact trivial | skip
          refine ⟨(j + 1, G.set t true), ⟨by simp only; omega, hsl2, ?_, fun q hq => ?_⟩, ?_, ?_, by simp only; omega⟩
          · simp only; rw [getB_setI (by omega), if_neg (by omega)]; exact j3
          · simp only
            rw [getB_setI (by omega), htk]
            simp only [List.mem_append, List.mem_singleton]
            by_cases e : q = t
            · rw [if_pos e]
              simp only [true_iff]
              exact .inr ⟨_, .inr rfl, by rw [ht, Int.toNat_natCast, e]⟩
            · rw [if_neg e, j4 q hq]
              constructor
              · rintro (h | ⟨a, ha, h⟩)
                · exact .inl h
                · exact .inr ⟨a, .inl ha, h⟩
              · rintro (h | ⟨a, ha | rfl, h⟩)
                · exact .inl h
                · exact .inr ⟨a, ha, h⟩
                · rw [ht, Int.toNat_natCast] at h; exact absurd h.symm e
          · simp (disch := omega) only [go_sem, keepL, Int.natCast_add, Int.cast_ofNat_Int]
          · simp (disch := omega) only [go_sem, keepL]
        · have hje : j = (l[k]!).arcs.length := by omega
          subst hje
          rw [List.take_length] at j4
          refine goT ?_; first | exact trivial | skip
          refine ⟨(k + 1, G), ⟨by simp only; omega, j2, fun t ht => ?_⟩, ?_, ?_, by simp only; omega⟩
          · simp only
            rw [j4 t ht, FrI.next hka hk3 ht hLk]
          · simp (disch := omega) only [go_sem, keepL, Int.natCast_add, Int.cast_ofNat_Int]
          · simp (disch := omega) only [go_sem, keepL]
      · have hnL : ¬ Led l k := fun h => by
          rcases hself.1 h with h | h
          · exact hk0 h
          · rw [hA] at h; cases h
        refine goX (And.intro @h2 @hA) ?_; first | exact trivial | skip
        have e3 : F.set k false = F := by
          refine List.ext_getElem (by rw [List.length_set]) fun i i1 i2 => ?_
          rw [List.getElem_set]
          split
          · rename_i e
            subst e
            rw [getElem!_pos F k i2] at hA
            exact hA.symm
          · rfl
        rw [e3]
        refine WP_once ?_
        by_cases ha0 : 0 < (l[k]!).arcs.length
        · refine goX (And.intro @h2 @hA) ?_; first | exact trivial | skip
          refine ⟨(k + 1, F), ⟨by simp only; omega, h2, fun t ht => by simp only; rw [FrI.skip hk0 hnL]; exact h3 t ht⟩, ?_, ?_, by simp only; omega⟩
          · simp (disch := omega) only [go_sem, keepL, Int.natCast_add, Int.cast_ofNat_Int]
          · simp (disch := omega) only [go_sem, keepL]
        · refine goX (And.intro @h2 @hA) ?_; first | exact trivial | skip
          refine ⟨(k + 1, F), ⟨by simp only; omega, h2, fun t ht => by simp only; rw [FrI.skip hk0 hnL]; exact h3 t ht⟩, ?_, ?_, by simp only; omega⟩
          · simp (disch := omega) only [go_sem, keepL, Int.natCast_add, Int.cast_ofNat_Int]
          · simp (disch := omega) only [go_sem, keepL]
    · have hLk : Led l k := hself.2 (.inr hA)
      refine goX (And.intro @h2 @hA) ?_; first | exact trivial | skip
      refine WP_loopk (α := Nat × List Bool) (fun y => y.1 ≤ (l[k]!).arcs.length ∧ y.2.length = l.length ∧ y.2[k]! = true ∧ ∀ t, t < l.length → (y.2[t]! = true ↔ (t = k ∨ FrI l k t) ∨ ∃ a ∈ (l[k]!).arcs.take y.1, a.to.toNat = t))
        (fun y => [(0, .d (.sl 2 (stas l))), (3, .own 1002 l.length), (4, .own 2002 l.length), (5, .d (.int .i64 k)), (6, .d (.int .i64 y.1))])
        (fun y => [(2002, .row 4 1 (bls (List.replicate l.length false))), (1002, .row 4 1 (bls y.2))]) 30000 (fun y => (l[k]!).arcs.length - y.1) [0, 3, 4, 5, 6] [2002, 1002] (0, F.set k true) ⟨Nat.zero_le _, hsl true, by rw [getB_setI (by omega), if_pos rfl], fun t ht => FrI.ini (by omega) (h3 t ht)⟩ rfl rfl (Nat.le_of_ble_eq_true rfl) (fun _ _ => rfl) (fun _ _ => rfl) fun ⟨j, G⟩ hj => ?_
      obtain ⟨j1, j2, j3, j4⟩ := hj
      simp only at j1 j2 j3 j4
      by_cases hj7 : j < (l[k]!).arcs.length
      · have hmem : (l[k]!).arcs[j]! ∈ (l[k]!).arcs := getM hj7
        have htk := atake_snoc hj7
        obtain ⟨g1, g2, g3⟩ := hfw k hk3 _ hmem
        obtain ⟨t, ht⟩ := Int.eq_ofNat_of_zero_le g1
        rw [ht, Int.toNat_natCast] at g2 g3
        have hsl2 : (G.set t true).length = l.length := by rw [List.length_set, j2]
        refine goX (And.intro @j2 (And.intro @j3 (And.intro @ht @Int.toNat_natCast))) ?_; first | exact trivial | skip
        refine ⟨(j + 1, G.set t true), ⟨by simp only; omega, hsl2, ?_, fun q hq => ?_⟩, ?_, ?_, by simp only; omega⟩
        · simp only; rw [getB_setI (by omega), if_neg (by omega)]; exact j3
        · simp only
          rw [getB_setI (by omega), htk]
          simp only [List.mem_append, List.mem_singleton]
          by_cases e : q = t
          · rw [if_pos e]
            simp only [true_iff]
            exact .inr ⟨_, .inr rfl, by rw [ht, Int.toNat_natCast, e]⟩
          · rw [if_neg e, j4 q hq]
            constructor
            · rintro (h | ⟨a, ha, h⟩)
              · exact .inl h
              · exact .inr ⟨a, .inl ha, h⟩
            · rintro (h | ⟨a, ha | rfl, h⟩)
              · exact .inl h
              · exact .inr ⟨a, ha, h⟩
              · rw [ht, Int.toNat_natCast] at h; exact absurd h.symm e
        · simp (disch := omega) only [go_sem, keepL, Int.natCast_add, Int.cast_ofNat_Int]
        · simp (disch := omega) only [go_sem, keepL]
      · have hje : j = (l[k]!).arcs.length := by omega
        subst hje
        rw [List.take_length] at j4
        refine goT ?_; first | exact trivial | skip
        refine ⟨(k + 1, G), ⟨by simp only; omega, j2, fun t ht => ?_⟩, ?_, ?_, by simp only; omega⟩
        · simp only
          rw [j4 t ht, FrI.next hka hk3 ht hLk]
        · simp (disch := omega) only [go_sem, keepL, Int.natCast_add, Int.cast_ofNat_Int]
        · simp (disch := omega) only [go_sem, keepL]
  · have hke : k = l.length := by omega
    subst hke
    have hF : ∀ t, t < l.length → (F[t]! = true ↔ Led l t) := fun t ht => by
      rw [h3 t ht, Led.iff hka ht]
      constructor
      · rintro (⟨h, _⟩ | ⟨p, hp, h, a, ha, e⟩)
        · exact .inl h
        · have := hfw p hp a ha
          exact .inr ⟨p, by omega, h, a, ha, e⟩
      · rintro (h | ⟨p, hp, h⟩)
        · exact .inl ⟨h, hl0⟩
        · exact .inr ⟨p, by omega, h⟩
    refine goT ?_; first | exact trivial | skip
    refine WP_loopk (α := Nat × List Bool) (fun x => x.1 ≤ l.length ∧ x.2.length = l.length ∧ ∀ t, x.1 ≤ t → t < l.length → x.2[t]! = true ∧ Led l t ∧ Fin l t)
      (fun x => [(0, .d (.sl 2 (stas l))), (3, .own 1002 l.length), (4, .own 2002 l.length), (7, .d (.int .i64 ((x.1 : Int) - 1)))])
      (fun x => [(2002, .row 4 1 (bls x.2)), (1002, .row 4 1 (bls F))]) 40000 (fun x => x.1) [0, 3, 4, 7] [2002, 1002] (l.length, List.replicate l.length false) ⟨Nat.le_refl _, by simp, fun t h1 h2 => by simp only at h1; omega⟩ rfl rfl (Nat.le_of_ble_eq_true rfl) (fun _ _ => rfl) (fun _ _ => rfl) fun ⟨d, T⟩ hx => ?_
    obtain ⟨d1, d2, d3⟩ := hx
    simp only at d1 d2 d3
    by_cases hd0 : 0 < d
    · obtain ⟨i, hi⟩ : ∃ i, d = i + 1 := ⟨d - 1, by omega⟩
      have ei : (d : Int) - 1 = (i : Int) := by omega
      have hil : i < l.length := by omega
      have hfk := hfew i hil
      obtain ⟨f, hf⟩ : ∃ f, (l[i]!).final = f := ⟨_, rfl⟩
      have hsl : (T.set i f).length = l.length := by rw [List.length_set, d2]
      refine goX (And.intro @ei (And.intro @d2 (And.intro @hf @Int.toNat_natCast))) ?_; first | exact trivial | skip
      refine WP_loopk (α := Nat × List Bool) (fun y => y.1 ≤ (l[i]!).arcs.length ∧ y.2.length = l.length ∧ (∀ t, d ≤ t → t < l.length → y.2[t]! = true) ∧ y.2[i]! = (f || decide (0 < y.1)))
        (fun y => [(0, .d (.sl 2 (stas l))), (3, .own 1002 l.length), (4, .own 2002 l.length), (7, .d (.int .i64 i)), (8, .d (.int .i64 y.1))])
        (fun y => [(2002, .row 4 1 (bls y.2)), (1002, .row 4 1 (bls F))]) 50000 (fun y => (l[i]!).arcs.length - y.1) [0, 3, 4, 7, 8] [2002, 1002] (0, T.set i f) ⟨Nat.zero_le _, hsl, fun t t1 t2 => by rw [getB_setI (by omega), if_neg (by omega)]; exact (d3 t t1 t2).1, by rw [getB_setI (by omega), if_pos rfl]; simp⟩ (by rw [← ei]; rfl) rfl (Nat.le_of_ble_eq_true rfl) (fun _ _ => rfl) (fun _ _ => rfl) fun ⟨j, G⟩ hj => ?_
      obtain ⟨j1, j2, j3, j4⟩ := hj
      simp only at j1 j2 j3 j4
      by_cases hj7 : j < (l[i]!).arcs.length
      · have hmem : (l[i]!).arcs[j]! ∈ (l[i]!).arcs := getM hj7
        obtain ⟨g1, g2, g3⟩ := hfw i hil _ hmem
        obtain ⟨t, ht⟩ := Int.eq_ofNat_of_zero_le g1
        rw [ht, Int.toNat_natCast] at g2 g3
        have hGt := j3 t (by omega) g3
        have hsl2 : (G.set i true).length = l.length := by rw [List.length_set, j2]
        have hI : (G.set i true).length = l.length ∧ (∀ t, d ≤ t → t < l.length → (G.set i true)[t]! = true) ∧ (G.set i true)[i]! = (f || decide (0 < j + 1)) := ⟨hsl2, fun t t1 t2 => by rw [getB_setI (by omega), if_neg (by omega)]; exact j3 t t1 t2, by rw [getB_setI (by omega), if_pos rfl, decide_eq_true (by omega), Bool.or_true]⟩
        cases hGi : G[i]!
        · refine goX (And.intro @j2 (And.intro @hGi (And.intro @hGt (And.intro @ht @Int.toNat_natCast)))) ?_; first | exact trivial | skip
          refine ⟨(j + 1, G.set i true), ⟨by simp only; omega, hI⟩, ?_, ?_, by simp only; omega⟩
          · simp (disch := omega) only [go_sem, keepL, Int.natCast_add, Int.cast_ofNat_Int]
          · simp (disch := omega) only [go_sem, keepL]
        · refine goX (And.intro @j2 (And.intro @hGi (And.intro @hGt (And.intro @ht @Int.toNat_natCast)))) ?_; first | exact trivial | skip
          refine ⟨(j + 1, G.set i true), ⟨by simp only; omega, hI⟩, ?_, ?_, by simp only; omega⟩
          · simp (disch := omega) only [go_sem, keepL, Int.natCast_add, Int.cast_ofNat_Int]
          · simp (disch := omega) only [go_sem, keepL]
      · have hje : j = (l[i]!).arcs.length := by omega
        have hfi : G[i]! = true ↔ Fin l i := by
          rw [Fin.iff hka hil, j4, Bool.or_eq_true, decide_eq_true_eq, hf]
          refine or_congr Iff.rfl ⟨fun h => ?_, fun ⟨a, ha, _⟩ => by have := List.length_pos_of_mem ha; omega⟩
          obtain ⟨a, ha⟩ := List.exists_mem_of_length_pos (show 0 < (l[i]!).arcs.length by omega)
          have hin := hfw i hil a ha
          exact ⟨a, ha, (d3 _ (by omega) (by omega)).2.2⟩
        cases hGi : G[i]!
        · have e : usedB l = false := usedB_f fun h => by
            have := hfi.2 (h i hil).2
            rw [hGi] at this
            cases this
          refine goX (And.intro @j2 (And.intro @h2 (And.intro @hGi @e))) ?_; first | exact trivial | skip
        · cases hFi : F[i]!
          · have e : usedB l = false := usedB_f fun h => by
              have := (hF i hil).2 (h i hil).1
              rw [hFi] at this
              cases this
            refine goX (And.intro @j2 (And.intro @h2 (And.intro @hGi (And.intro @hFi @e)))) ?_; first | exact trivial | skip
          · refine goX (And.intro @j2 (And.intro @h2 (And.intro @hGi @hFi))) ?_; first | exact trivial | skip
            refine ⟨(i, G), ⟨by simp only; omega, j2, fun t t1 t2 => ?_⟩, ?_, ?_, by simp only; omega⟩
            · by_cases e : t = i
              · subst e; exact ⟨hGi, (hF t hil).1 hFi, hfi.1 hGi⟩
              · have ht : d ≤ t := by simp only at t1; omega
                exact ⟨j3 t ht t2, (d3 t ht t2).2⟩
            · simp (disch := omega) only [go_sem, keepL]
            · simp (disch := omega) only [go_sem, keepL]
    · have hd : d = 0 := by omega
      subst hd
      have e : usedB l = true := usedB_t fun t ht => (d3 t (Nat.zero_le _) ht).2
      rw [e]
      refine goT ?_; first | exact trivial | skip
end Go.Eng.Tryz
set_option linter.unusedVariables false
set_option linter.unusedSimpArgs false
namespace Go.Eng.Tryz
open Go Go.Eng Go.Proofs Go.RowKit
attribute [local go_sem] ty0 ty1 ty2 ty3 ty4 ty5 ty6 ty7 ty8 ty9 ty10 ty11 ty12 ty13 ty14 ty15 ty16 ty17 ty18
attribute [local go_sem] is_len is_get ars_len ars_get stas_len stas_get iss_len iss_get dels
theorem is_snoc {l : List Int} {z : Int} : is l ++ [.int .i64 z] = is (l ++ [z]) := by simp [is]
theorem is_takeW {l : List Int} {k : Nat} : (is l).take k = is (l.take k) := by simp [is, List.map_take]
end Go.Eng.Tryz

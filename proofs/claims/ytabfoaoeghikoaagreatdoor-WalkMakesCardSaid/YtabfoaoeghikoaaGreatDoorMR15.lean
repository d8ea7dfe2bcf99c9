/- The least automaton, plainly, part 3: what follows from it. (and what stands behind it: texts laid together) -/
import Derived.Test.YtabfoaoeghikoaaGreatDoorMR14
import Derived.Test.YtabfoaoeghikoaaGreatDoorMG4
import Derived.Test.YtabfoaoeghikoaaGreatDoorMR5
import Derived.Test.YtabfoaoeghikoaaGreatDoorMR12
import Derived.Test.YtabfoaoeghikoaaGreatDoorMR13
import Derived.Test.YtabfoaoeghikoaaGreatDoorMR2
import Derived.Test.YtabfoaoeghikoaaGreatDoorMR4
import Derived.Test.YtabfoaoeghikoaaGreatDoorMR3
set_option linter.unusedVariables false
set_option linter.unusedSimpArgs false
namespace Go.Eng.Tryz
open Go Go.Eng Go.Proofs Go.RowKit
theorem find_sgn : ∀ {l : List Ar} {a : Ar}, l.Pairwise (fun a b => a.sign < b.sign) → a ∈ l → l.find? (sgn a.sign) = some a
  | [], _, _, h => by cases h
  | b :: l, a, hp, h => by
    rw [List.pairwise_cons] at hp
    rcases List.mem_cons.1 h with e | e
    · subst e; simp [sgn]
    · have := hp.1 a e
      rw [List.find?_cons_of_neg (by simp [sgn]; omega)]
      exact find_sgn hp.2 e
theorem longest : ∀ {L : List (List Int)}, L ≠ [] → ∃ w ∈ L, ∀ v ∈ L, v.length ≤ w.length
  | [], h => absurd rfl h
  | [a], _ => ⟨a, by simp, by simp⟩
  | a :: b :: L, _ => by
    obtain ⟨w, h1, h2⟩ := longest (L := b :: L) (by simp)
    by_cases h : w.length ≤ a.length
    · exact ⟨a, by simp, fun v hv => by
        rcases List.mem_cons.1 hv with e | e
        · subst e; exact Nat.le_refl _
        · have := h2 v e; omega⟩
    · exact ⟨w, List.mem_cons_of_mem _ h1, fun v hv => by
        rcases List.mem_cons.1 hv with e | e
        · rw [e]; omega
        · exact h2 v e⟩
theorem EnE.root {L : List (List Int)} (hL : L ≠ []) {u v : List Int} (h : EnE L (u ++ v) u) : (∃ w, u ++ w ∈ L) → v = [] := fun ⟨w0, hw0⟩ => by
  have key : ∀ n w, u ++ w ∈ L → ∃ w', u ++ w' ∈ L ∧ w'.length = n * v.length + w.length := by
    intro n
    induction n with
    | zero => intro w hw; exact ⟨w, hw, by simp⟩
    | succ n ih =>
      intro w hw
      have h1 := (h w).2 hw
      rw [List.append_assoc] at h1
      obtain ⟨w', e1, e2⟩ := ih _ h1
      refine ⟨w', e1, ?_⟩
      rw [e2, List.length_append, Nat.succ_mul]
      omega
  obtain ⟨m, m1, m2⟩ := longest hL
  by_cases hv : v = []
  · exact hv
  · have : 0 < v.length := List.length_pos_iff.2 hv
    obtain ⟨w', e1, e2⟩ := key (m.length + 1) w0 hw0
    have := m2 _ e1
    have h3 : (m.length + 1) * 1 ≤ (m.length + 1) * v.length := Nat.mul_le_mul_left _ (by omega)
    rw [List.length_append] at this
    omega
theorem EnE.nil {L : List (List Int)} (hL : L ≠ []) {v : List Int} (h : EnE L v []) : v = [] := by
  obtain ⟨m, m1, m2⟩ := longest hL
  exact EnE.root hL (u := []) (v := v) (by simpa using h) ⟨m, by simpa using m1⟩
section
variable {L : List (List Int)} {l : List Sta} {K : List (List Int)}
theorem DawgK.pos (h : DawgK L l K) : 0 < l.length := by
  obtain ⟨k, hk, _⟩ := h.cov [] (.inl rfl)
  omega
theorem DawgK.root (h : DawgK L l K) : EnE L (K[0]!) [] := by
  by_cases hL : L = []
  · intro w
    rw [hL]; simp
  · obtain ⟨k, hk, e⟩ := h.cov [] (.inl rfl)
    by_cases h0 : k = 0
    · subst h0; exact e
    · obtain ⟨m, n, h1, h2, h3⟩ := h.cb (i := 0) (j := k) (by omega) hk
      obtain ⟨_, v, v1, v2, v3⟩ := h2
      have e1 := EnE.nil hL (v2.trans e)
      subst e1
      obtain ⟨_, u, u1, u2, u3⟩ := h1
      have : u.length = 0 := by simp at v3; omega
      have e2 := List.length_eq_zero_iff.1 this
      subst e2
      exact u2.symm
theorem DawgK.step (h : DawgK L l K) {k : Nat} (hk : k < l.length) (z : Int) (hb : Bg L (K[k]! ++ [z])) : ∃ t : Nat, t < l.length ∧ stepF l k z = some (t : Int) ∧ EnE L (K[t]!) (K[k]! ++ [z]) := by
  obtain ⟨t, ht, e⟩ := h.cov _ hb
  have hm : (⟨z, t⟩ : Ar) ∈ (l[k]!).arcs := (h.arcs k hk _).2 ⟨by simp, by simpa using ht, hb, by simpa using e⟩
  have := find_sgn (h.ris k hk) hm
  refine ⟨t, ht, ?_, e⟩
  unfold stepF
  rw [if_pos (by omega), Int.toNat_natCast, this]
  rfl
theorem DawgK.nostep (h : DawgK L l K) {k : Nat} (hk : k < l.length) (z : Int) (hb : ¬ Bg L (K[k]! ++ [z])) : stepF l k z = none := by
  unfold stepF
  rw [if_pos (by omega), Int.toNat_natCast]
  rw [Option.map_eq_none_iff, List.find?_eq_none]
  intro a ha hs
  have := of_decide_eq_true hs
  subst this
  exact hb ((h.arcs k hk a).1 ha).2.2.1
theorem DawgK.lead (h : DawgK L l K) : ∀ (w : List Int) {k : Nat}, k < l.length → (Bg L (K[k]! ++ w) → ∃ t : Nat, t < l.length ∧ leadF l k w = some (t : Int) ∧ EnE L (K[t]!) (K[k]! ++ w)) ∧ (¬ Bg L (K[k]! ++ w) → leadF l k w = none)
  | [], k, hk => ⟨fun _ => ⟨k, hk, rfl, by rw [List.append_nil]; exact EnE.refl _⟩, fun hn => absurd (h.rep hk).1 (by rwa [List.append_nil] at hn)⟩
  | z :: w, k, hk => by
    have e1 : K[k]! ++ z :: w = K[k]! ++ [z] ++ w := by simp
    rw [e1]
    unfold leadF
    by_cases hz : Bg L (K[k]! ++ [z])
    · obtain ⟨t, t1, t2, t3⟩ := h.step hk z hz
      rw [t2]
      simp only
      obtain ⟨i1, i2⟩ := DawgK.lead h w t1
      refine ⟨fun hb => ?_, fun hb => ?_⟩
      · have hb2 : Bg L (K[t]! ++ w) := by
          by_cases hw : w = []
          · subst hw; rw [List.append_nil]; exact (h.rep t1).1
          · exact t3.symm.bg hw hb
        obtain ⟨s, s1, s2, s3⟩ := i1 hb2
        exact ⟨s, s1, s2, s3.trans (t3.ext w)⟩
      · refine i2 fun hb2 => hb ?_
        by_cases hw : w = []
        · subst hw; rw [List.append_nil]; exact hz
        · exact t3.bg hw hb2
    · rw [h.nostep hk z hz]
      exact ⟨fun hb => absurd hb.cut hz, fun _ => rfl⟩
/-- Where a word leads from the start. -/
theorem DawgK.has (h : DawgK L l K) (w : List Int) : (Bg L w → ∃ t : Nat, t < l.length ∧ leadF l 0 w = some (t : Int) ∧ ((l[t]!).final = true ↔ w ∈ L)) ∧ (¬ Bg L w → leadF l 0 w = none) := by
  have hr := h.root
  obtain ⟨i1, i2⟩ := h.lead w h.pos
  have hbb : Bg L (K[0]! ++ w) ↔ Bg L w := by
    by_cases hw : w = []
    · subst hw; rw [List.append_nil]; exact ⟨fun _ => .inl rfl, fun _ => (h.rep h.pos).1⟩
    · have a := hr.bg (x := w) hw
      have b := hr.symm.bg (x := w) hw
      rw [List.nil_append] at a b
      exact ⟨a, b⟩
  refine ⟨fun hb => ?_, fun hb => i2 fun x => hb (hbb.1 x)⟩
  obtain ⟨t, t1, t2, t3⟩ := i1 (hbb.2 hb)
  refine ⟨t, t1, t2, ?_⟩
  have := t3.trans (hr.ext w)
  rw [List.nil_append] at this
  rw [h.fin t t1]
  exact this.mem
/-- Each state is led to. -/
theorem DawgK.from (h : DawgK L l K) {k : Nat} (h0 : 0 < k) (hk : k < l.length) : ∃ i, i < k ∧ ∃ a ∈ (l[i]!).arcs, a.to = (k : Int) := by
  have hr := h.rep hk
  have hne : K[k]! ≠ [] := fun e => by
    have := h.inj h.pos hk (by rw [e]; exact h.root)
    omega
  obtain ⟨u, z, e⟩ : ∃ u z, K[k]! = u ++ [z] := ⟨_, _, (List.dropLast_concat_getLast hne).symm⟩
  have hb := hr.1
  rw [e] at hb
  obtain ⟨i, hi, ei⟩ := h.cov u hb.cut
  have hb2 := ei.symm.bg (x := [z]) (by simp) hb
  have hm : (⟨z, k⟩ : Ar) ∈ (l[i]!).arcs := (h.arcs i hi _).2 ⟨by simp, by simpa using hk, hb2, by
    simp only [Int.toNat_natCast]
    rw [e]
    exact (ei.ext _).symm⟩
  have := (h.fwd hi hm).2.1
  simp only [Int.toNat_natCast] at this
  exact ⟨i, this, _, hm, rfl⟩
/-- Each state leads on, or is final. -/
theorem DawgK.on (h : DawgK L l K) (hL : L ≠ []) {k : Nat} (hk : k < l.length) : (l[k]!).final = true ∨ (l[k]!).arcs ≠ [] := by
  have hr := (h.rep hk).1
  obtain ⟨v, hv⟩ : ∃ v, K[k]! ++ v ∈ L := by
    rcases hr with hr | ⟨w, hw, ⟨t, ht⟩⟩
    · obtain ⟨w, hw⟩ := List.exists_mem_of_ne_nil L hL
      exact ⟨w, by rw [hr]; exact hw⟩
    · exact ⟨t, by rw [ht]; exact hw⟩
  cases v with
  | nil => exact .inl ((h.fin k hk).2 (by simpa using hv))
  | cons z v =>
    right
    have e1 : K[k]! ++ z :: v = K[k]! ++ [z] ++ v := by simp
    have hb : Bg L (K[k]! ++ [z]) := .inr ⟨_, hv, by rw [e1]; exact List.prefix_append _ _⟩
    obtain ⟨t, ht, et⟩ := h.cov _ hb
    have hm : (⟨z, t⟩ : Ar) ∈ (l[k]!).arcs := (h.arcs k hk _).2 ⟨by simp, by simpa using ht, hb, by simpa using et⟩
    exact fun e => by rw [e] at hm; cases hm
theorem DawgK.none (h : DawgK [] l K) : l.length = 1 := by
  have := h.pos
  have hb : ∀ k, k < l.length → K[k]! = [] := fun k hk => by
    rcases (h.rep hk).1 with e | ⟨w, hw, _⟩
    · exact e
    · cases hw
  by_cases h1 : 1 < l.length
  · have := h.inj (i := 0) (j := 1) (by omega) h1 (by rw [hb 0 (by omega), hb 1 h1]; exact EnE.refl _)
    omega
  · omega
theorem DawgK.nodup (h : DawgK L l K) : K.Nodup := h.ord.imp fun {a b} hc e => by subst e; exact Cb.irr _ hc
end
/-! ### A sign ahead -/
section
variable {L : List (List Int)} {l : List Sta} {K : List (List Int)}
def hdL (y : Int) (L : List (List Int)) : List (List Int) := L.map (y :: ·)
def upA (a : Ar) : Ar := ⟨a.sign, a.to + 1⟩
def upS (s : Sta) : Sta := ⟨s.final, s.arcs.map upA⟩
def hdS (y : Int) (l : List Sta) : List Sta := ⟨false, [⟨y, 1⟩]⟩ :: l.map upS
theorem hdL_mem {y : Int} {u : List Int} : u ∈ hdL y L ↔ ∃ v ∈ L, u = y :: v := by simp [hdL, eq_comm]
theorem hdL_cons {y : Int} {u : List Int} : y :: u ∈ hdL y L ↔ u ∈ L := by simp [hdL]
theorem hd_bg {y : Int} (hL : L ≠ []) {u : List Int} : Bg (hdL y L) u ↔ u = [] ∨ ∃ v, u = y :: v ∧ Bg L v := by
  constructor
  · rintro (h | ⟨w, hw, ⟨t, ht⟩⟩)
    · exact .inl h
    · obtain ⟨x, hx, rfl⟩ := hdL_mem.1 hw
      cases u with
      | nil => exact .inl rfl
      | cons z u =>
        simp only [List.cons_append, List.cons.injEq] at ht
        exact .inr ⟨u, by rw [ht.1], .inr ⟨x, hx, ⟨t, ht.2⟩⟩⟩
  · rintro (h | ⟨v, rfl, h⟩)
    · exact .inl h
    · right
      rcases h with h | ⟨w, hw, ⟨t, ht⟩⟩
      · subst h
        obtain ⟨w, hw⟩ := List.exists_mem_of_ne_nil L hL
        exact ⟨y :: w, hdL_cons.2 hw, ⟨w, rfl⟩⟩
      · exact ⟨y :: w, hdL_cons.2 hw, ⟨t, by rw [← ht]; rfl⟩⟩
theorem hd_en {y : Int} {u v : List Int} : EnE (hdL y L) (y :: u) (y :: v) ↔ EnE L u v := by
  unfold EnE
  simp only [List.cons_append, hdL_cons]
theorem hdL_ne {y : Int} (hL : L ≠ []) : hdL y L ≠ [] := by simpa [hdL] using hL
theorem hd_nil {y : Int} (hL : L ≠ []) {u : List Int} (h : EnE (hdL y L) u []) : u = [] := EnE.nil (hdL_ne hL) h
theorem hd_lg {y : Int} (hL : L ≠ []) {u : List Int} {m : Int} (h : LgOK L u m) : LgOK (hdL y L) (y :: u) (m + 1) := by
  obtain ⟨h1, v, v1, v2, v3⟩ := h
  refine ⟨fun w hw he => ?_, y :: v, (hd_bg hL).2 (.inr ⟨v, rfl, v1⟩), hd_en.2 v2, by simp only [List.length_cons]; omega⟩
  rcases (hd_bg hL).1 hw with rfl | ⟨x, rfl, hx⟩
  · simp only [List.length_nil]
    omega
  · have := h1 x hx (hd_en.1 he)
    simp only [List.length_cons]
    omega
theorem hd_rep {y : Int} (hL : L ≠ []) {u : List Int} : Rep (hdL y L) u ↔ u = [] ∨ ∃ v, u = y :: v ∧ Rep L v := by
  constructor
  · rintro ⟨h1, h2⟩
    rcases (hd_bg hL).1 h1 with h | ⟨v, rfl, hv⟩
    · exact .inl h
    · refine .inr ⟨v, rfl, hv, fun w hw he => ?_⟩
      have := h2 (y :: w) ((hd_bg hL).2 (.inr ⟨w, rfl, hw⟩)) (hd_en.2 he)
      simpa [wcmp] using this
  · rintro (rfl | ⟨v, rfl, hv⟩)
    · exact ⟨.inl rfl, fun v _ _ => wcmp_nil _⟩
    · refine ⟨(hd_bg hL).2 (.inr ⟨v, rfl, hv.1⟩), fun w hw he => ?_⟩
      rcases (hd_bg hL).1 hw with rfl | ⟨x, rfl, hx⟩
      · exact absurd (hd_nil hL he.symm) (by simp)
      · have := hv.2 x hx (hd_en.1 he)
        simpa [wcmp] using this
theorem cons_at {α : Type} [Inhabited α] {l : List α} {x : α} {k : Nat} : (x :: l)[k + 1]! = l[k]! := by simp [List.getElem!_eq_getElem?_getD]
theorem map_at' {α β : Type} [Inhabited α] [Inhabited β] {l : List α} {f : α → β} {k : Nat} (h : k < l.length) : (l.map f)[k]! = f (l[k]!) := by
  rw [getElem!_pos _ k (by simpa using h), getElem!_pos l k h]; simp
theorem DawgK.head (h : DawgK L l K) (hL : L ≠ []) (y : Int) : DawgK (hdL y L) (hdS y l) ([] :: K.map (y :: ·)) := by
  have hl : (hdS y l).length = l.length + 1 := by simp [hdS]
  have hKl := h.len
  have hS : ∀ k, k < l.length → (hdS y l)[k + 1]! = upS (l[k]!) := fun k hk => by unfold hdS; rw [cons_at, map_at' hk]
  have hK : ∀ k, k < l.length → ([] :: K.map (y :: ·))[k + 1]! = y :: K[k]! := fun k hk => by rw [cons_at, map_at' (by omega)]
  have hS0 : (hdS y l)[0]! = ⟨false, [⟨y, 1⟩]⟩ := rfl
  have hK0 : (([] : List Int) :: K.map (y :: ·))[0]! = [] := rfl
  have lg0 : LgOK (hdL y L) [] 0 := ⟨fun v hv he => by rw [hd_nil hL he]; simp, [], .inl rfl, EnE.refl _, by simp⟩
  have hk' : ∀ k, k < l.length + 1 → k = 0 ∨ ∃ j, k = j + 1 ∧ j < l.length := fun k hk => by
    rcases Nat.eq_zero_or_pos k with h0 | h0
    · exact .inl h0
    · exact .inr ⟨k - 1, by omega, by omega⟩
  refine ⟨by simp [hl, hKl], fun u => ?_, fun v hv => ?_, fun k hk => ?_, ?_, fun k hk => ?_, fun k hk a => ?_, fun k hk => ?_⟩
  · rw [hd_rep hL, List.mem_cons, List.mem_map]
    refine or_congr Iff.rfl ⟨fun ⟨v, h1, h2⟩ => ⟨v, h2.symm, (h.mem v).1 h1⟩, fun ⟨v, h1, h2⟩ => ⟨v, (h.mem v).2 h2, h1.symm⟩⟩
  · rcases (hd_bg hL).1 hv with rfl | ⟨x, rfl, hx⟩
    · exact ⟨0, by omega, by rw [hK0]; exact EnE.refl _⟩
    · obtain ⟨k, k1, k2⟩ := h.cov x hx
      exact ⟨k + 1, by omega, by rw [hK k k1]; exact hd_en.2 k2⟩
  · rw [hl] at hk
    rcases hk' k hk with rfl | ⟨j, rfl, hj⟩
    · exact ⟨0, by rw [hK0]; exact lg0⟩
    · obtain ⟨m, hm⟩ := h.lg j hj
      exact ⟨m + 1, by rw [hK j hj]; exact hd_lg hL hm⟩
  · rw [List.pairwise_cons]
    constructor
    · intro v hv
      obtain ⟨u, hu, rfl⟩ := List.mem_map.1 hv
      obtain ⟨k, hk, rfl⟩ := List.getElem_of_mem hu
      obtain ⟨m, hm⟩ := h.lg k (by omega)
      rw [getElem!_pos K k hk] at hm
      refine ⟨0, m + 1, lg0, hd_lg hL hm, .inl ?_⟩
      obtain ⟨_, v, _, _, e⟩ := hm
      omega
    · rw [List.pairwise_map]
      refine h.ord.imp fun {a b} ⟨m, n, h1, h2, h3⟩ => ⟨m + 1, n + 1, hd_lg hL h1, hd_lg hL h2, ?_⟩
      have : wcmp (y :: a) (y :: b) = wcmp a b := by simp [wcmp]
      omega
  · rw [hl] at hk
    rcases hk' k hk with rfl | ⟨j, rfl, hj⟩
    · rw [hS0, hK0]
      simp [hdL]
    · rw [hS j hj, hK j hj, hdL_cons]
      exact h.fin j hj
  · rw [hl] at hk ⊢
    rcases hk' k hk with rfl | ⟨j, rfl, hj⟩
    · rw [hS0, hK0]
      simp only [List.mem_singleton, List.nil_append]
      constructor
      · rintro rfl
        have hp := h.pos
        refine ⟨by simp, by simp; omega, (hd_bg hL).2 (.inr ⟨[], rfl, .inl rfl⟩), ?_⟩
        have : ((1 : Int)).toNat = 0 + 1 := rfl
        simp only
        rw [this, hK 0 hp]
        exact hd_en.2 h.root
      · rintro ⟨a1, a2, a3, a4⟩
        have es : a.sign = y := by
          rcases (hd_bg hL).1 a3 with e | ⟨v, e, _⟩
          · cases e
          · simpa using (List.cons.inj e).1
        rw [es] at a4
        rcases hk' _ a2 with e | ⟨t, e, ht⟩
        · rw [e, hK0] at a4
          exact absurd (hd_nil hL a4.symm) (by simp)
        · rw [e, hK t ht] at a4
          have := h.inj ht h.pos ((hd_en.1 a4).trans h.root.symm)
          subst this
          cases a
          simp only at es e a1
          simp only [Ar.mk.injEq]
          omega
    · rw [hS j hj, hK j hj]
      unfold upS
      simp only
      constructor
      · intro ha
        obtain ⟨b, b1, rfl⟩ := List.mem_map.1 ha
        obtain ⟨g1, g2, g3, g4⟩ := (h.arcs j hj b).1 b1
        have e : (upA b).to.toNat = b.to.toNat + 1 := by unfold upA; simp only; omega
        refine ⟨by unfold upA; simp only; omega, by omega, (hd_bg hL).2 (.inr ⟨_, rfl, g3⟩), ?_⟩
        rw [e, hK _ g2]
        exact hd_en.2 g4
      · rintro ⟨a1, a2, a3, a4⟩
        have hb : Bg L (K[j]! ++ [a.sign]) := by
          rcases (hd_bg hL).1 a3 with e | ⟨v, e, hv⟩
          · cases e
          · simp only [List.cons_append, List.cons.injEq, true_and] at e
            rw [e]; exact hv
        rcases hk' _ a2 with e | ⟨t, e, ht⟩
        · rw [e, hK0] at a4
          exact absurd (hd_nil hL a4.symm) (by simp)
        · rw [e, hK t ht] at a4
          refine List.mem_map.2 ⟨⟨a.sign, t⟩, (h.arcs j hj _).2 ⟨by simp, by simpa using ht, hb, by simpa using hd_en.1 a4⟩, ?_⟩
          cases a
          simp only at e a1
          simp only [upA, Ar.mk.injEq, true_and]
          omega
  · rw [hl] at hk
    rcases hk' k hk with rfl | ⟨j, rfl, hj⟩
    · rw [hS0]; simp
    · rw [hS j hj]
      unfold upS
      simp only [List.pairwise_map]
      exact h.ris j hj
end
/-! ### A sign behind -/
section
variable {L L' : List (List Int)} {l l' : List Sta} {K K' : List (List Int)} {z : Int}
theorem tl_bg (hL : L ≠ []) (hm : ∀ u, u ∈ L' ↔ ∃ w ∈ L, u = w ++ [z]) {u : List Int} : Bg L' u ↔ Bg L u ∨ ∃ w ∈ L, u = w ++ [z] := by
  constructor
  · rintro (h | ⟨w, hw, hp⟩)
    · exact .inl (.inl h)
    · obtain ⟨x, hx, rfl⟩ := (hm w).1 hw
      rcases List.prefix_concat_iff.1 hp with h | h
      · exact .inr ⟨x, hx, h⟩
      · exact .inl (.inr ⟨x, hx, h⟩)
  · rintro ((h | ⟨w, hw, hp⟩) | ⟨w, hw, rfl⟩)
    · exact .inl h
    · exact .inr ⟨w ++ [z], (hm _).2 ⟨w, hw, rfl⟩, hp.trans (List.prefix_append _ _)⟩
    · exact .inr ⟨w ++ [z], (hm _).2 ⟨w, hw, rfl⟩, List.prefix_rfl⟩
theorem Bg.no (hz : ∀ w ∈ L, z ∉ w) {u : List Int} (h : Bg L u) : z ∉ u := by
  rcases h with rfl | ⟨w, hw, hp⟩
  · simp
  · exact fun hx => hz w hw (hp.subset hx)
theorem tl_mem (hm : ∀ u, u ∈ L' ↔ ∃ w ∈ L, u = w ++ [z]) {u w : List Int} : u ++ w ∈ L' ↔ (∃ x, w = x ++ [z] ∧ u ++ x ∈ L) ∨ (w = [] ∧ ∃ v ∈ L, u = v ++ [z]) := by
  rw [hm]
  constructor
  · rintro ⟨v, hv, e⟩
    rcases List.eq_nil_or_concat w with rfl | ⟨x, y, rfl⟩
    · exact .inr ⟨rfl, v, hv, by simpa using e⟩
    · rw [List.concat_eq_append, ← List.append_assoc] at e
      obtain ⟨e1, e2⟩ := List.append_inj' e rfl
      left
      refine ⟨x, ?_, by rw [e1]; exact hv⟩
      rw [List.concat_eq_append, e2]
  · rintro (⟨x, rfl, hx⟩ | ⟨rfl, v, hv, rfl⟩)
    · exact ⟨u ++ x, hx, by simp⟩
    · exact ⟨v, hv, by simp⟩
theorem tl_en (hm : ∀ u, u ∈ L' ↔ ∃ w ∈ L, u = w ++ [z]) {u v : List Int} (hu : z ∉ u) (hv : z ∉ v) : EnE L' u v ↔ EnE L u v := by
  have nu : ¬ ∃ x ∈ L, u = x ++ [z] := fun ⟨x, _, e⟩ => hu (by rw [e]; simp)
  have nv : ¬ ∃ x ∈ L, v = x ++ [z] := fun ⟨x, _, e⟩ => hv (by rw [e]; simp)
  unfold EnE
  simp only [tl_mem hm, nu, nv, and_false, or_false]
  constructor
  · intro h w
    have := h (w ++ [z])
    simp only [List.append_cancel_right_eq] at this
    constructor
    · intro hw
      obtain ⟨x, rfl, hx⟩ := this.1 ⟨w, rfl, hw⟩
      exact hx
    · intro hw
      obtain ⟨x, rfl, hx⟩ := this.2 ⟨w, rfl, hw⟩
      exact hx
  · intro h w
    constructor
    · rintro ⟨x, rfl, hx⟩; exact ⟨x, rfl, (h x).1 hx⟩
    · rintro ⟨x, rfl, hx⟩; exact ⟨x, rfl, (h x).2 hx⟩
theorem tl_ne (hm : ∀ u, u ∈ L' ↔ ∃ w ∈ L, u = w ++ [z]) {u w : List Int} (hu : z ∉ u) (hw : w ∈ L) : ¬ EnE L' u (w ++ [z]) := fun h => by
  have := (h []).2 (by rw [List.append_nil]; exact (hm _).2 ⟨w, hw, rfl⟩)
  rw [List.append_nil, hm] at this
  obtain ⟨x, _, e⟩ := this
  exact hu (by rw [e]; simp)
theorem tl_eq (hz : ∀ w ∈ L, z ∉ w) (hm : ∀ u, u ∈ L' ↔ ∃ w ∈ L, u = w ++ [z]) {v w : List Int} (hv : v ∈ L) (hw : w ∈ L) : EnE L' (v ++ [z]) (w ++ [z]) := by
  have key : ∀ {v w : List Int}, v ∈ L → w ∈ L → ∀ x, v ++ [z] ++ x ∈ L' → w ++ [z] ++ x ∈ L' := by
    intro v w hv hw x hx
    rcases (tl_mem hm).1 hx with ⟨y, rfl, hy⟩ | ⟨rfl, _⟩
    · exact absurd (by simp) (hz _ hy)
    · rw [List.append_nil]; exact (hm _).2 ⟨w, hw, rfl⟩
  exact fun x => ⟨key hv hw x, key hw hv x⟩
theorem nd_len {α : Type} [DecidableEq α] : ∀ {l m : List α}, l.Nodup → m.Nodup → (∀ x, x ∈ l ↔ x ∈ m) → l.length = m.length
  | [], m, _, _, h => by
    cases m with
    | nil => rfl
    | cons a m => exact absurd ((h a).2 (by simp)) (by simp)
  | a :: l, m, hl, hm, h => by
    have ha : a ∈ m := (h a).1 (by simp)
    have hl2 : a ∉ l ∧ l.Nodup := List.nodup_cons.1 hl
    have := nd_len hl2.2 (hm.erase a) fun x => by
      rw [hm.mem_erase_iff]
      constructor
      · intro hx
        exact ⟨fun e => hl2.1 (e ▸ hx), (h x).1 (by simp [hx])⟩
      · rintro ⟨h1, h2⟩
        rcases List.mem_cons.1 ((h x).2 h2) with e | e
        · exact absurd e h1
        · exact e
    rw [List.length_erase_of_mem ha] at this
    have := List.length_pos_of_mem ha
    simp only [List.length_cons]
    omega
theorem DawgK.tail (h : DawgK L l K) (h' : DawgK L' l' K') (hL : L ≠ []) (hz : ∀ w ∈ L, z ∉ w) (hm : ∀ u, u ∈ L' ↔ ∃ w ∈ L, u = w ++ [z]) : l'.length = l.length + 1 := by
  obtain ⟨w0, hw0⟩ := List.exists_mem_of_ne_nil L hL
  obtain ⟨k, hk, ek⟩ := h'.cov (w0 ++ [z]) ((tl_bg hL hm).2 (.inr ⟨w0, hw0, rfl⟩))
  have hr := h'.rep hk
  have hrz : ∃ w ∈ L, K'[k]! = w ++ [z] := by
    rcases (tl_bg hL hm).1 hr.1 with hb | hb
    · exact absurd ek (tl_ne hm (hb.no hz) hw0)
    · exact hb
  have hmem : ∀ u, u ∈ K' ↔ u ∈ K ++ [K'[k]!] := fun u => by
    rw [List.mem_append, List.mem_singleton, h'.mem, h.mem]
    constructor
    · intro hu
      rcases (tl_bg hL hm).1 hu.1 with hb | ⟨w, hw, rfl⟩
      · left
        refine ⟨hb, fun v hv he => hu.2 v ((tl_bg hL hm).2 (.inl hv)) ((tl_en hm (hv.no hz) (hb.no hz)).2 he)⟩
      · right
        refine hu.one hr ((tl_eq hz hm hw hw0).trans ek.symm)
    · rintro (hu | rfl)
      · refine ⟨(tl_bg hL hm).2 (.inl hu.1), fun v hv he => ?_⟩
        rcases (tl_bg hL hm).1 hv with hb | ⟨w, hw, rfl⟩
        · exact hu.2 v hb ((tl_en hm (hb.no hz) (hu.1.no hz)).1 he)
        · exact absurd he.symm (tl_ne hm (hu.1.no hz) hw)
      · exact hr
  have hnd : (K ++ [K'[k]!]).Nodup := by
    rw [List.nodup_append]
    refine ⟨h.nodup, by simp, fun a ha b hb => ?_⟩
    simp only [List.mem_singleton] at hb
    subst hb
    intro e
    obtain ⟨w, hw, e2⟩ := hrz
    have := ((h.mem a).1 ha).1.no hz
    rw [e, e2] at this
    simp at this
  have := nd_len h'.nodup hnd hmem
  rw [List.length_append, h.len, h'.len] at this
  simpa using this
end
end Go.Eng.Tryz
set_option linter.unusedVariables false
set_option linter.unusedSimpArgs false
namespace Go.Eng.Tryz
open Go Go.Eng Go.Proofs Go.RowKit
attribute [local go_sem] ty0 ty1 ty2 ty3 ty4 ty5 ty6 ty7 ty8 ty9 ty10 ty11 ty12 ty13 ty14 ty15 ty16 ty17 ty18
attribute [local go_sem] is_len is_get iss_len iss_get iss_snoc ars_len ars_get stas_len stas_get
def dawgS (L : List (List Int)) : MS := mrun (trieF L) (begF (trieF L) (trieF L).length) (trieF L).length
/-- The least automaton of words. -/
def dawgF (L : List (List Int)) : List Sta := outF (trieF L) (dawgS L) (dawgS L).all.length
def dawgR (L : List (List Int)) : D := if wrE L = 0 then .tup [.sl 2 (stas (dawgF L)), .int .i64 0] else .tup [.nils, .int .i64 (wrE L)]
/-- All that is known of it. -/
structure DawgH (L : List (List Int)) (K : List (List Int)) : Prop where
  k : DawgK L (dawgF L) K
  chk : achk (dawgF L) = true
  ok : StaOk (dawgF L)
  few : ∀ p, p < (dawgF L).length → ((dawgF L)[p]!).arcs.length ≤ 6001
  len : (dawgF L).length ≤ (trieF L).length
  words : ∀ w ∈ L, 0 < w.length ∧ w.length ≤ 20 ∧ w.all gsign = true
theorem dawg_K {L : List (List Int)} (he : wrE L = 0) : ∃ K, DawgH L K := by
  obtain ⟨B, hB⟩ := trie_K he
  have hb := begF_B hB.b
  have hI := mrun_all hB.b
  obtain ⟨h1, h2, h3⟩ := wrE_ok he
  have hw : ∀ w ∈ L, 0 < w.length ∧ w.length ≤ 20 ∧ w.all gsign = true := fun w h => wfit_le (List.all_eq_true.1 h2 w h)
  have eS : dawgS L = mrun (trieF L) B (trieF L).length := by unfold dawgS; rw [hb]
  have hK := hI.dawg hB.b
  rw [← eS] at hK hI
  have hF : dawgF L = outF (trieF L) (dawgS L) (dawgS L).all.length := rfl
  rw [← hF] at hK
  obtain ⟨hm, hml⟩ := mrun_ok hB.dw (trieF L).length (Nat.le_refl _)
  rw [← eS] at hm hml
  have hlen : (dawgF L).length = (dawgS L).all.length := by simp [dawgF, outF]
  have hl1 := hB.l1
  have hfew : ∀ p, p < (dawgF L).length → ((dawgF L)[p]!).arcs.length ≤ 6001 := fun p hp => by
    rw [hlen] at hp
    have e : (dawgF L)[p]! = outS (trieF L) (dawgS L) p := map_at hp
    rw [e]
    unfold outS
    simp only [List.length_map]
    exact hB.few _
  refine ⟨_, hK, ?_, ?_, hfew, by omega, hw⟩
  · unfold achk
    rw [decide_eq_true ⟨hK.pos, by omega⟩, Bool.and_true]
    unfold statesOk
    refine List.all_eq_true.2 fun p hp => ?_
    rw [List.mem_range] at hp
    refine arcsOk_of (hK.ris p hp) fun a ha => ?_
    obtain ⟨f1, f2, f3⟩ := hK.fwd hp ha
    have hb2 := ((hK.arcs p hp a).1 ha).2.2.1
    have hg : gsign a.sign = true := by
      rcases hb2 with e | ⟨w, hw1, hw2⟩
      · simp at e
      · exact List.all_eq_true.1 (hw w hw1).2.2 _ (hw2.subset (by simp))
    have := of_decide_eq_true hg
    exact ⟨by omega, hg, by omega, by omega⟩
  · refine ⟨by omega, fun s hs => ?_⟩
    obtain ⟨p, hp, rfl⟩ := List.getElem_of_mem hs
    have := hfew p hp
    rw [getElem!_pos _ p hp] at this
    omega
theorem pMakeE {L : List (List Int)} (hok : WsOk L) (he : wrE L ≠ 0) : Sound Tryz.prog 13 [.sl 1 (iss L)] (.tup [.nils, .int .i64 (wrE L)]) := by
  have ct := pTrieG hok
  unfold trieR at ct
  rw [if_neg he] at ct
  rcases wrE_some L with h | h | h
  · exact absurd h he
  · rw [h] at ct ⊢
    refine Sound.run (N := 154) Tryz.func13 rfl (by kernel_rfl) rfl rfl rfl (by first | exact args0_0 | exact args0_1 | exact args0_2 | exact args0_3 | exact args0_4 | exact args0_5 | exact args0_6) fun X_ w_ => ?_
    have c0_ := ct; refine goT ?_; first | exact trivial | skip
  · rw [h] at ct ⊢
    refine Sound.run (N := 154) Tryz.func13 rfl (by kernel_rfl) rfl rfl rfl (by first | exact args0_0 | exact args0_1 | exact args0_2 | exact args0_3 | exact args0_4 | exact args0_5 | exact args0_6) fun X_ w_ => ?_
    have c0_ := ct; refine goT ?_; first | exact trivial | skip
theorem pMake {L : List (List Int)} (hok : WsOk L) : Sound Tryz.prog 13 [.sl 1 (iss L)] (dawgR L) := by
  unfold dawgR
  by_cases he : wrE L = 0
  · rw [if_pos he]
    obtain ⟨B, hB⟩ := trie_K he
    have hb := begF_B hB.b
    have hI := mrun_all hB.b
    rw [← hb] at hI
    have hdw := hB.dw
    rw [← hb] at hdw
    refine pMake0 hok he hB.sok hB.achk hdw ?_ (fun p hp => hI.rng p (Nat.zero_le _) hp) fun c hc => ?_
    · have hI2 := hI
      rw [hb] at hI2 ⊢
      exact hI2.inj hB.b
    · obtain ⟨p, _, p1, p2, _⟩ := hI.isr c hc
      rw [p2]
      omega
  · rw [if_neg he]
    exact pMakeE hok he
theorem dawgR_ok {L : List (List Int)} (he : wrE L = 0) : dawgR L = .tup [.sl 2 (stas (dawgF L)), .int .i64 0] := if_pos he
theorem dawgR_no {L : List (List Int)} (he : wrE L ≠ 0) : dawgR L = .tup [.nils, .int .i64 (wrE L)] := if_neg he
end Go.Eng.Tryz
set_option linter.unusedVariables false
set_option linter.unusedSimpArgs false
namespace Go.Eng.Tryz
open Go Go.Eng Go.Proofs Go.RowKit
theorem Lng.same {L M : List (List Int)} {l : List Sta} (h : Lng L l) (k : Lng M l) (hL : SrtW L) (hM : SrtW M) : L = M :=
  srt_ext2 (R := fun a b => wcmp a b < 0) wcmp_lt_irr (fun a b h k => by have := wcmp_swap a b; omega) hL hM fun u => (h u).trans (k u).symm
theorem Lng.at {L : List (List Int)} {l : List Sta} (h : Lng L l) {u : List Int} {s : Int} (hu : leadF l 0 u = some s) (w : List Int) : u ++ w ∈ L ↔ ∃ t, leadF l s w = some t ∧ (l[t.toNat]!).final = true := by
  have e : leadF l 0 (u ++ w) = leadF l s w := by rw [leadF_app, hu]
  rw [h (u ++ w), e]
theorem DawgK.lng {L K : List (List Int)} {l : List Sta} (h : DawgK L l K) : Lng L l := fun u => by
  obtain ⟨h1, h2⟩ := h.has u
  constructor
  · intro hu
    obtain ⟨t, t1, t2, t3⟩ := h1 (.inr ⟨u, hu, List.prefix_rfl⟩)
    exact ⟨t, t2, by rw [Int.toNat_natCast]; exact t3.2 hu⟩
  · rintro ⟨t, g1, g2⟩
    by_cases hb : Bg L u
    · obtain ⟨s, s1, s2, s3⟩ := h1 hb
      rw [g1] at s2
      cases s2
      rw [Int.toNat_natCast] at g2
      exact s3.1 g2
    · rw [h2 hb] at g1; cases g1
theorem TrieB.lead {L : List (List Int)} {l : List Sta} {B : List (List Int)} (h : TrieB L l B) : ∀ (u : List Int) {p : Nat}, p < l.length → (Bg L (B[p]! ++ u) → ∃ t : Nat, t < l.length ∧ leadF l p u = some (t : Int) ∧ B[t]! = B[p]! ++ u) ∧ (¬ Bg L (B[p]! ++ u) → leadF l p u = none)
  | [], p, hp => ⟨fun _ => ⟨p, hp, rfl, by simp⟩, fun hn => absurd (h.bgp hp) (by rwa [List.append_nil] at hn)⟩
  | z :: u, p, hp => by
    have e1 : B[p]! ++ z :: u = B[p]! ++ [z] ++ u := by simp
    rw [e1]
    unfold leadF
    by_cases hz : Bg L (B[p]! ++ [z])
    · obtain ⟨t, t1, t2, t3⟩ := h.arc_of hp hz
      have hs : stepF l p z = some (t : Int) := by
        have := find_sgn (h.ris p _ (h.at hp)) t3
        unfold stepF
        rw [if_pos (by omega), Int.toNat_natCast, this]
        rfl
      rw [hs]
      simp only
      rw [← t2]
      exact TrieB.lead h u t1
    · have hs : stepF l p z = none := by
        unfold stepF
        rw [if_pos (by omega), Int.toNat_natCast, Option.map_eq_none_iff, List.find?_eq_none]
        intro a ha hs
        have := of_decide_eq_true hs
        subst this
        obtain ⟨g1, g2, g3, g4⟩ := h.arc hp ha
        exact hz (by rw [← g4]; exact h.bgp g3)
      rw [hs]
      exact ⟨fun hb => absurd hb.cut hz, fun _ => rfl⟩
theorem TrieK.lng {L : List (List Int)} {l : List Sta} {B : List (List Int)} (h : TrieK L l B) : Lng L l := fun u => by
  have h0 : B[0]! = [] := getE h.b.root
  obtain ⟨h1, h2⟩ := h.b.lead u h.l0
  rw [h0, List.nil_append] at h1 h2
  constructor
  · intro hu
    obtain ⟨t, t1, t2, t3⟩ := h1 (.inr ⟨u, hu, List.prefix_rfl⟩)
    exact ⟨t, t2, by rw [Int.toNat_natCast, h.b.fin' t1, t3]; exact hu⟩
  · rintro ⟨t, g1, g2⟩
    by_cases hb : Bg L u
    · obtain ⟨s, s1, s2, s3⟩ := h1 hb
      rw [show ((0 : Nat) : Int) = 0 from rfl, g1] at s2
      cases s2
      rw [Int.toNat_natCast, h.b.fin' s1, s3] at g2
      exact g2
    · have := h2 hb
      rw [show ((0 : Nat) : Int) = 0 from rfl, g1] at this; cases this
end Go.Eng.Tryz
set_option linter.unusedVariables false
set_option linter.unusedSimpArgs false
namespace Go.Eng.Tryz
open Go Go.Eng Go.Proofs Go.RowKit
attribute [local go_sem] ty0 ty1 ty2 ty3 ty4 ty5 ty6 ty7 ty8 ty9 ty10 ty11 ty12 ty13 ty14 ty15 ty16 ty17 ty18
attribute [local go_sem] is_len is_get iss_len iss_get iss_snoc bys_len bys_snoc bys_app ars_len ars_get stas_len stas_get
end Go.Eng.Tryz
set_option linter.unusedVariables false
set_option linter.unusedSimpArgs false
namespace Go.Eng.Tryz
open Go Go.Eng Go.Proofs Go.RowKit
open Go.Maps (Keyed)
attribute [local go_sem] ty0 ty1 ty2 ty3 ty4 ty5 ty6 ty7 ty8 ty9 ty10 ty11 ty12 ty13 ty14 ty15 ty16 ty17 ty18
attribute [local go_sem] is_len is_get iss_len iss_get iss_snoc ars_len ars_get stas_len stas_get
/-- States that can be named. -/
def Nam (n : Nat) (s : Sta) : Prop := (∀ a ∈ s.arcs, 0 ≤ a.sign ∧ a.sign ≤ 1114111 ∧ 0 ≤ a.to ∧ a.to < n) ∧ s.arcs.length ≤ 10000
theorem Nam.ok {n : Nat} {s : Sta} (hn : n ≤ 6001) (h : Nam n s) : SOk s := by
  refine ⟨fun a ha => ⟨(h.1 a ha).1, (h.1 a ha).2.2.1⟩, ?_⟩
  have hnl := nameB_len s.final s.arcs (fun a ha => by have := h.1 a ha; omega)
  have e1 : (keyN s).size = (nameS s).length := by simp [keyN, bytesOf, ByteArray.size]
  have := h.2
  rw [e1]
  simp only [maxLen]
  unfold nameS
  omega
end Go.Eng.Tryz
set_option linter.unusedVariables false
set_option linter.unusedSimpArgs false
namespace Go.Eng.Tryz
open Go Go.Eng Go.Proofs Go.RowKit
set_option maxRecDepth 100000 in
theorem ty_is {n : Nat} {ds : List D} (h : TyC Tryz.prog n 36 ds) : ∃ l, dOf Tryz.prog 36 ds = .sl 1 (is l) ∧ l.length ≤ 9223372036854775807 := by
  obtain ⟨m, xs, rfl, h1, h2⟩ := ty_sl Tryz.underlying36 h
  obtain ⟨l, e1, e2, _⟩ := ty_list (f := fun z => D.int .i64 z) (ok := fun _ => True) (fun x hx => by
    obtain ⟨z, rfl, _⟩ := ty_int Tryz.underlying3 hx
    exact ⟨z, dOf_int Tryz.underlying3, trivial⟩) xs h2
  rw [e1, dOf_sl Tryz.underlying36]
  exact ⟨l, rfl, by omega⟩
end Go.Eng.Tryz
set_option linter.unusedVariables false
set_option linter.unusedSimpArgs false
namespace Go.Eng.Tryz
open Go Go.Eng Go.Proofs Go.RowKit
attribute [local go_sem] ty0 ty1 ty2 ty3 ty4 ty5 ty6 ty7 ty8 ty9 ty10 ty11 ty12 ty13 ty14 ty15 ty16 ty17 ty18
attribute [local go_sem] is_len is_get iss_len iss_get ars_len ars_get stas_len stas_get
set_option maxRecDepth 100000 in
theorem ty_iss {n : Nat} {ds : List D} (h : TyC Tryz.prog n 22 ds) : ∃ l, dOf Tryz.prog 22 ds = .sl 1 (iss l) ∧ WsOk l := by
  obtain ⟨m, xs, rfl, h1, h2⟩ := ty_sl Tryz.underlying22 h
  obtain ⟨l, e1, e2, h3⟩ := ty_list (f := fun w => D.sl 1 (is w)) (ok := fun w => w.length ≤ 9223372036854775807) (fun x hx => ty_is hx) xs h2
  rw [e1, dOf_sl Tryz.underlying22]
  exact ⟨l, rfl, by omega, h3⟩
def fewW (l : List (List Int)) (n : Nat) : Bool := (l.all fun w => decide (w.length ≤ 100)) && decide (l.length ≤ n)
theorem fewW_iff {l : List (List Int)} {n : Nat} : fewW l n = true ↔ (∀ k, k < l.length → (l[k]!).length ≤ 100) ∧ l.length ≤ n := by
  unfold fewW
  rw [Bool.and_eq_true, List.all_eq_true, decide_eq_true_eq]
  refine and_congr ⟨fun h k hk => ?_, fun h s hs => ?_⟩ Iff.rfl
  · rw [getElem!_pos l k hk]; exact of_decide_eq_true (h _ (List.getElem_mem hk))
  · obtain ⟨k, hk, rfl⟩ := List.getElem_of_mem hs
    have := h k hk
    rw [getElem!_pos l k hk] at this
    exact decide_eq_true this
set_option maxHeartbeats 4000000 in
set_option maxRecDepth 10000 in
theorem pFewW {l : List (List Int)} {n : Nat} (hl : WsOk l) (hn : n ≤ 1000000) : Sound Tryz.prog 11 [.sl 1 (iss l), .int .i64 n] (.bool (fewW l n)) := by
  have hlen := hl.1
  refine Sound.run (N := 22) Tryz.func11 rfl (by kernel_rfl) rfl rfl rfl (by first | exact args0_0 | exact args0_1 | exact args0_2 | exact args0_3 | exact args0_4 | exact args0_5 | exact args0_6) fun X_ w_ => ?_
  refine goT ?_; first | exact trivial | skip
  refine WP_loopk (fun k : Nat => k ≤ l.length ∧ ∀ j, j < k → (l[j]!).length ≤ 100) (fun k => [(0, .d (.sl 1 (iss l))), (1, .d (.int .i64 n)), (5, .d (.int .i64 k))]) (fun _ => []) 0 (fun k => l.length - k) [0, 1, 5] [] 0 ⟨Nat.zero_le _, fun j h => by omega⟩ rfl rfl (Nat.le_refl _) (fun _ _ => rfl) (fun _ _ => rfl) fun k hk => ?_
  obtain ⟨hk1, hk2⟩ := hk
  by_cases hk : k < l.length
  · have ha := hl.2 (l[k]!) (getM hk)
    by_cases h1 : 100 < (l[k]!).length
    · have e : fewW l n = false := by
        cases h : fewW l n with
        | false => rfl
        | true => have := (fewW_iff.1 h).1 k hk; omega
      refine goX @e ?_; first | exact trivial | skip
    · refine goT ?_; first | exact trivial | skip
      refine ⟨k + 1, ⟨by omega, fun j hj => ?_⟩, ?_, rfl, by omega⟩
      · by_cases e : j = k
        · subst e; omega
        · exact hk2 j (by omega)
      · simp (disch := omega) only [go_sem, keepL, Int.natCast_add, Int.cast_ofNat_Int]
  · have hkl : k = l.length := by omega
    subst hkl
    have e : fewW l n = decide ((l.length : Int) ≤ n) := by
      by_cases h2 : l.length ≤ n
      · rw [fewW_iff.2 ⟨hk2, h2⟩, decide_eq_true (by omega)]
      · cases h : fewW l n with
        | false => rw [decide_eq_false (by omega)]
        | true => have := (fewW_iff.1 h).2; omega
    rw [e]
    refine goT ?_; first | exact trivial | skip
end Go.Eng.Tryz
set_option linter.unusedVariables false
set_option linter.unusedSimpArgs false
namespace Go.Eng.Tryz
open Go Go.Eng Go.Proofs Go.RowKit
attribute [local go_sem] ty0 ty1 ty2 ty3 ty4 ty5 ty6 ty7 ty8 ty9 ty10 ty11 ty12 ty13 ty14 ty15 ty16 ty17 ty18
attribute [local go_sem] is_len is_get iss_len iss_get ars_len ars_get stas_len stas_get
end Go.Eng.Tryz


/- Rules in order: parts, and sides turned, in plain words. -/
import Derived.Test.YtlaekicahpplbabR11
set_option linter.unusedVariables false
set_option linter.unusedSimpArgs false
namespace Go.Eng.Try
open Go Go.Eng Go.Proofs Go.RowKit
/-- Of each that may be there is one that costs no more. -/
def dom (A B : List Ru) : Prop := ∀ x ∈ A, rok x = true → ∃ y ∈ B, rok y = true ∧ ssame y x ∧ y.cost ≤ x.cost
theorem ru_eq {x y : Ru} (h : ssame x y) (hc : x.cost = y.cost) : x = y := by
  cases x; cases y
  simp only [ssame] at h hc
  rw [h.1, h.2, hc]
theorem dom_mem {A B : List Ru} (h1 : dom A B) (h2 : dom B A) {x : Ru} (hx : x ∈ norm A) : x ∈ norm B := by
  obtain ⟨a1, a2, a3⟩ := norm_mem.1 hx
  obtain ⟨y, b1, b2, b3, b4⟩ := h1 x a1 a2
  obtain ⟨z, c1, c2, c3, c4⟩ := h2 y b1 b2
  have := a3 z c1 c2 (ssame_trans c3 b3)
  have e : y = x := ru_eq b3 (by omega)
  subst e
  refine norm_mem.2 ⟨b1, a2, fun w hw hwo hws => ?_⟩
  obtain ⟨v, d1, d2, d3, d4⟩ := h2 w hw hwo
  have := a3 v d1 d2 (ssame_trans d3 hws)
  omega
theorem norm_dom {A B : List Ru} (h1 : dom A B) (h2 : dom B A) : norm A = norm B :=
  srt_ext (norm_srt A) (norm_srt B) fun x => ⟨dom_mem h1 h2, dom_mem h2 h1⟩
theorem dom_sub {A B : List Ru} (h : ∀ x ∈ A, x ∈ B) : dom A B := fun x hx ho => ⟨x, h x hx, ho, ⟨rfl, rfl⟩, Int.le_refl _⟩
theorem dom_norm (A : List Ru) : dom A (norm A) := fun x hx ho => by
  obtain ⟨m, m1, m2, m3, m4⟩ := cheapest (l := A) (r := x) ⟨x, hx, ho, ⟨rfl, rfl⟩⟩
  exact ⟨m, norm_mem.2 ⟨m1, m2, fun y hy hyo hys => m4 y hy hyo (ssame_trans hys m3)⟩, m2, m3, m4 x hx ho ⟨rfl, rfl⟩⟩
theorem norm_dom' (A : List Ru) : dom (norm A) A := dom_sub fun x hx => (norm_mem.1 hx).1
theorem dom_trans {A B C : List Ru} (h1 : dom A B) (h2 : dom B C) : dom A C := fun x hx ho => by
  obtain ⟨y, b1, b2, b3, b4⟩ := h1 x hx ho
  obtain ⟨z, c1, c2, c3, c4⟩ := h2 y b1 b2
  exact ⟨z, c1, c2, ssame_trans c3 b3, by omega⟩
theorem dom_app {A B C D : List Ru} (h1 : dom A C) (h2 : dom B D) : dom (A ++ B) (C ++ D) := fun x hx ho => by
  rcases List.mem_append.1 hx with h | h
  · obtain ⟨y, b1, b2⟩ := h1 x h ho
    exact ⟨y, by simp [b1], b2⟩
  · obtain ⟨y, b1, b2⟩ := h2 x h ho
    exact ⟨y, by simp [b1], b2⟩
theorem norm_norm (A : List Ru) : norm (norm A) = norm A := norm_dom (norm_dom' A) (dom_norm A)
theorem norm_swap (A B : List Ru) : norm (B ++ A) = norm (A ++ B) := norm_dom (dom_sub fun x hx => by simp at hx ⊢; exact hx.symm) (dom_sub fun x hx => by simp at hx ⊢; exact hx.symm)
theorem norm_parts (A B : List Ru) : norm (norm A ++ norm B) = norm (A ++ B) := norm_dom (dom_app (norm_dom' A) (norm_dom' B)) (dom_app (dom_norm A) (dom_norm B))
theorem turn1_rok (r : Ru) : rok (turn1 r) = rok r := by
  cases h : rok r with
  | true => obtain ⟨a, b, c, d⟩ := rok_iff.1 h; exact rok_iff.2 ⟨b, a, fun e => c e.symm, d⟩
  | false =>
    refine rok_f fun ⟨a, b, c, d⟩ => ?_
    rw [rok_iff.2 ⟨b, a, fun e => c e.symm, d⟩] at h
    cases h
theorem turn1_turn1 (r : Ru) : turn1 (turn1 r) = r := rfl
theorem turn1_same {r s : Ru} (h : ssame r s) : ssame (turn1 r) (turn1 s) := ⟨h.2, h.1⟩
theorem dom_turn {A B : List Ru} (h : dom A B) : dom (A.map turn1) (B.map turn1) := fun x hx ho => by
  obtain ⟨z, hz, rfl⟩ := List.mem_map.1 hx
  rw [turn1_rok] at ho
  obtain ⟨y, b1, b2, b3, b4⟩ := h z hz ho
  exact ⟨turn1 y, List.mem_map_of_mem b1, by rw [turn1_rok]; exact b2, turn1_same b3, b4⟩
theorem map_turn (A : List Ru) : (A.map turn1).map turn1 = A := by
  rw [List.map_map]
  conv => rhs; rw [← List.map_id A]
  rfl
theorem norm_back (A : List Ru) : norm ((norm (A.map turn1)).map turn1) = norm A := by
  have h1 := dom_turn (norm_dom' (A.map turn1))
  have h2 := dom_turn (dom_norm (A.map turn1))
  rw [map_turn] at h1 h2
  exact norm_dom h1 h2
theorem turn1_ok {r : Ru} (h : r.ok) : (turn1 r).ok := ⟨h.2.1, h.1, h.2.2.1, h.2.2.2⟩
theorem turns_ok {l : List Ru} (h : ∀ r ∈ l, r.ok) : ∀ r ∈ l.map turn1, r.ok := fun r hr => by
  obtain ⟨z, hz, rfl⟩ := List.mem_map.1 hr
  exact turn1_ok (h z hz)
theorem turns_at {l : List Ru} {k : Nat} (h : k < l.length) : rok ((l.map turn1)[k]!) = rok (l[k]!) := by
  rw [getElem!_pos _ k (by simpa using h), getElem!_pos l k h, List.getElem_map, turn1_rok]
theorem fewR_len {l : List Ru} {n : Int} (h : fewR l n = true) : (l.length : Int) ≤ n := by
  simp only [fewR, Bool.and_eq_true, decide_eq_true_eq] at h
  exact h.2
end Go.Eng.Try

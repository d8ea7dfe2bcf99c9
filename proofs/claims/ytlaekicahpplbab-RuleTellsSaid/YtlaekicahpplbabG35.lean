/- The engine, part 35: worlds that have grown; sorted rows. -/
import Derived.Test.YtlaekicahpplbabG34
import Derived.Sort.Grow
import Derived.Sort.Statements
set_option linter.unusedVariables false
set_option linter.unusedSimpArgs false
namespace Go.Eng
open Go.RowKit
open Go.Sort (grow)
theorem Bl.grows {w w' : World} (h : Bl w.heap.size w w') : ∃ q os', w' = grow (w.drewN q) os' := by
  refine ⟨w'.drawn - w.drawn, w'.heap.extract w.heap.size w'.heap.size, ?_⟩
  obtain ⟨⟨h1, h2, h3, h4, h5⟩, h6⟩ := h
  have hh : w'.heap = w.heap ++ w'.heap.extract w.heap.size w'.heap.size := by
    refine Array.ext_getElem? fun i => ?_
    by_cases hi : i < w.heap.size
    · rw [Array.getElem?_append_left hi, h5 i hi]
    · rw [Array.getElem?_append_right (by omega), Array.getElem?_extract]
      by_cases hj : i < w'.heap.size
      · rw [if_pos (by omega)]
        congr 1
        omega
      · rw [if_neg (by omega), Array.getElem?_eq_none (by omega)]
  obtain ⟨heap, tape, drawn, os, output⟩ := w
  obtain ⟨heap', tape', drawn', os', output'⟩ := w'
  simp only at h1 h2 h3 h4 h5 h6 hh
  subst h1; subst h2; subst h3
  simp only [grow, World.drewN]
  congr 1
  omega
theorem perm_sorted_eq {α : Type} {R : α → α → Prop} : ∀ {l1 l2 : List α}, l1.Perm l2 → l1.Pairwise R → l2.Pairwise R → (∀ a ∈ l1, ∀ b ∈ l1, R a b → R b a → a = b) → l1 = l2
  | [], l2, h, _, _, _ => h.nil_eq
  | a :: l1, [], h, _, _, _ => by simpa using h.length_eq
  | a :: l1, b :: l2, h, h1, h2, hA => by
    have p1 := List.pairwise_cons.1 h1
    have p2 := List.pairwise_cons.1 h2
    have hab : a = b := by
      have ha : a ∈ b :: l2 := h.mem_iff.1 (by simp)
      have hb : b ∈ a :: l1 := h.mem_iff.2 (by simp)
      rcases List.mem_cons.1 ha with e | ha'
      · exact e
      · rcases List.mem_cons.1 hb with e | hb'
        · exact e.symm
        · exact hA a (by simp) b hb (p1.1 b hb') (p2.1 a ha')
    subst hab
    rw [perm_sorted_eq ((List.perm_cons a).1 h) p1.2 p2.2 (fun x hx y hy => hA x (by simp [hx]) y (by simp [hy]))]
end Go.Eng

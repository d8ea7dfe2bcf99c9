/- The engine, part 26: nil in a slot as a slice of no elements. -/
import Derived.Test.YtlaekicahpplbabG24
set_option linter.unusedVariables false
set_option linter.unusedSimpArgs false
namespace Go.Eng
open Go.RowKit
section
variable {P : Program} {S : Sp} {Q : Exit → St → Prop}
/-- Data in a slot may say less. -/
theorem Rel.weak {E : Env} {hp : Heap} {c : Nat} {a : Act} {w : World} (h : Rel S ⟨E, hp, c⟩ a w) (n : Nat) {d d' : D} (hl : lk E n = some (.d d)) (hw : Wk d d') : Rel S ⟨(n, .d d') :: E, hp, c⟩ a w := by
  obtain ⟨hle, ν, hI, hx⟩ := h
  refine ⟨hle, ν, ⟨hI.heap, fun m av' hm => ?_, hI.size, hI.defers⟩, hx⟩
  simp only [lk] at hm
  split at hm
  · rename_i em
    subst em
    cases hm
    have := hI.env n _ hl
    generalize a.tmps.getD n undef = u at this
    cases this with
    | d h => exact .d (h.wk hw)
  · exact hI.env m av' hm
theorem WP_weak {code : Code} {E : Env} {hp : Heap} {c : Nat} (n : Nat) {d d' : D} (hl : lk E n = some (.d d)) (hw : Wk d d') (h : WP P S code ⟨(n, .d d') :: E, hp, c⟩ Q) : WP P S code ⟨E, hp, c⟩ Q :=
  fun a w hr => h a w (hr.weak n hl hw)
theorem WP_nil {code : Code} {E : Env} {hp : Heap} {c : Nat} (n sz : Nat) (hl : lk E n = some (.d .nils)) (h : WP P S code ⟨(n, .d (.sl sz [])) :: E, hp, c⟩ Q) : WP P S code ⟨E, hp, c⟩ Q :=
  WP_weak n hl (.nil sz) h
end
end Go.Eng

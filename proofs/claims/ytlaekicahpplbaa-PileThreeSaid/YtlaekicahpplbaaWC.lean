
/- Entries that a call hands in. -/
import Derived.Test.YtlaekicahpplbaaW2
import Derived.Test.YtlaekicahpplbaaG25
set_option linter.unusedVariables false
set_option linter.unusedSimpArgs false
namespace Go.Eng.Try
open Go Go.Eng Go.Proofs Go.RowKit
set_option maxRecDepth 100000 in
theorem ty_is {n : Nat} {ds : List D} (h : TyC Try.prog n 39 ds) : ∃ l, dOf Try.prog 39 ds = .sl 1 (is l) ∧ l.length ≤ 9223372036854775807 := by
  obtain ⟨m, xs, rfl, h1, h2⟩ := ty_sl Try.underlying39 h
  obtain ⟨l, e1, e2, _⟩ := ty_list (f := fun z => D.int .i64 z) (ok := fun _ => True) (fun x hx => by
    obtain ⟨z, rfl, _⟩ := ty_int Try.underlying3 hx
    exact ⟨z, dOf_int Try.underlying3, trivial⟩) xs h2
  rw [e1, dOf_sl Try.underlying39]
  exact ⟨l, rfl, by omega⟩
set_option maxRecDepth 100000 in
theorem ty_en {n : Nat} {ds : List D} (h : TyC Try.prog n 41 ds) : ∃ e : En, dOf Try.prog 41 ds = en e ∧ e.ok := by
  obtain ⟨m, h⟩ := ty_struct Try.underlying41 h
  obtain ⟨_, _, rfl, h1, _, _, rfl, h2, _, _, rfl, h3, _, _, rfl, h4, rfl⟩ := h
  obtain ⟨c, rfl, _⟩ := ty_int Try.underlying23 h1
  obtain ⟨l, e2, o2⟩ := ty_is h2
  obtain ⟨k, xs, rfl, _, _⟩ := ty_sl Try.underlying39 h2
  rw [dOf_sl Try.underlying39] at e2
  obtain ⟨b, rfl⟩ := ty_bool Try.underlying4 h3
  obtain ⟨p, rfl, _⟩ := ty_int Try.underlying3 h4
  rw [dOf_struct Try.underlying41, e2]
  exact ⟨⟨c, l, b, p⟩, rfl, o2⟩
set_option maxRecDepth 100000 in
theorem ty_es {n : Nat} {ds : List D} (h : TyC Try.prog n 38 ds) : ∃ l, dOf Try.prog 38 ds = .sl 4 (es l) ∧ (∀ e ∈ l, e.ok) ∧ l.length ≤ 9223372036854775807 := by
  obtain ⟨m, xs, rfl, h1, h2⟩ := ty_sl Try.underlying38 h
  obtain ⟨l, e1, e2, h3⟩ := ty_list (f := en) (ok := En.ok) (fun x hx => ty_en hx) xs h2
  rw [e1, dOf_sl Try.underlying38]
  exact ⟨l, rfl, h3, by omega⟩
end Go.Eng.Try


/- Rules that a call hands in. -/
import Derived.Test.YtlaekicahpplbabR6
import Derived.Test.YtlaekicahpplbabG39
set_option linter.unusedVariables false
set_option linter.unusedSimpArgs false
namespace Go.Eng.Try
open Go Go.Eng Go.Proofs Go.RowKit
set_option maxRecDepth 100000 in
theorem ty_is {n : Nat} {ds : List D} (h : TyC Try.prog n 24 ds) : ∃ l, dOf Try.prog 24 ds = .sl 1 (is l) ∧ l.length ≤ 9223372036854775807 := by
  obtain ⟨m, xs, rfl, h1, h2⟩ := ty_sl Try.underlying24 h
  obtain ⟨l, e1, e2, _⟩ := ty_list (f := fun z => D.int .i64 z) (ok := fun _ => True) (fun x hx => by
    obtain ⟨z, rfl, _⟩ := ty_int Try.underlying3 hx
    exact ⟨z, dOf_int Try.underlying3, trivial⟩) xs h2
  rw [e1, dOf_sl Try.underlying24]
  exact ⟨l, rfl, by omega⟩
set_option maxRecDepth 100000 in
theorem ty_ru {n : Nat} {ds : List D} (h : TyC Try.prog n 36 ds) : ∃ r : Ru, dOf Try.prog 36 ds = ru r ∧ r.ok := by
  obtain ⟨m, h⟩ := ty_struct Try.underlying36 h
  obtain ⟨_, _, rfl, h1, _, _, rfl, h2, _, _, rfl, h3, rfl⟩ := h
  obtain ⟨c, rfl, hc⟩ := ty_int Try.underlying23 h3
  obtain ⟨l, e1, o1⟩ := ty_is h1
  obtain ⟨k, xs, rfl, _, _⟩ := ty_sl Try.underlying24 h1
  rw [dOf_sl Try.underlying24] at e1
  obtain ⟨l', e2, o2⟩ := ty_is h2
  obtain ⟨k', xs', rfl, _, _⟩ := ty_sl Try.underlying24 h2
  rw [dOf_sl Try.underlying24] at e2
  rw [dOf_struct Try.underlying36, e1, e2]
  exact ⟨⟨l, l', c⟩, rfl, o1, o2, wf_u64 hc⟩
set_option maxRecDepth 100000 in
theorem ty_rs {n : Nat} {ds : List D} (h : TyC Try.prog n 34 ds) : ∃ l, dOf Try.prog 34 ds = .sl 3 (rs l) ∧ (∀ r ∈ l, r.ok) ∧ l.length ≤ 9223372036854775807 := by
  obtain ⟨m, xs, rfl, h1, h2⟩ := ty_sl Try.underlying34 h
  obtain ⟨l, e1, e2, h3⟩ := ty_list (f := ru) (ok := Ru.ok) (fun x hx => ty_ru hx) xs h2
  rw [e1, dOf_sl Try.underlying34]
  exact ⟨l, rfl, h3, by omega⟩
end Go.Eng.Try

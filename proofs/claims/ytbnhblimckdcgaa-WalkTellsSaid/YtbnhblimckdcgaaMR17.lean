/- Automata that a call hands in. (and what stands behind it: texts laid together) -/
import Derived.Test.YtbnhblimckdcgaaMR7
import Derived.Test.YtbnhblimckdcgaaMR16
set_option linter.unusedVariables false
set_option linter.unusedSimpArgs false
namespace Go.Eng.Try
open Go Go.Eng Go.Proofs Go.RowKit
set_option maxRecDepth 100000 in
theorem ty_ar {n : Nat} {ds : List D} (h : TyC Try.prog n 64 ds) : ∃ a : Ar, dOf Try.prog 64 ds = ar a ∧ True := by
  obtain ⟨m, h⟩ := ty_struct Try.underlying64 h
  obtain ⟨_, _, rfl, h1, _, _, rfl, h2, rfl⟩ := h
  obtain ⟨s, rfl, _⟩ := ty_int Try.underlying3 h1
  obtain ⟨t, rfl, _⟩ := ty_int Try.underlying3 h2
  rw [dOf_struct Try.underlying64]
  exact ⟨⟨s, t⟩, rfl, trivial⟩
set_option maxRecDepth 100000 in
theorem ty_ars {n : Nat} {ds : List D} (h : TyC Try.prog n 60 ds) : ∃ l, dOf Try.prog 60 ds = .sl 2 (ars l) ∧ l.length ≤ 9223372036854775807 := by
  obtain ⟨m, xs, rfl, h1, h2⟩ := ty_sl Try.underlying60 h
  obtain ⟨l, e1, e2, h3⟩ := ty_list (f := ar) (ok := fun _ => True) (fun x hx => ty_ar hx) xs h2
  rw [e1, dOf_sl Try.underlying60]
  exact ⟨l, rfl, by omega⟩
set_option maxRecDepth 100000 in
theorem ty_sta {n : Nat} {ds : List D} (h : TyC Try.prog n 62 ds) : ∃ s : Sta, dOf Try.prog 62 ds = sta s ∧ s.arcs.length ≤ 9223372036854775807 := by
  obtain ⟨m, h⟩ := ty_struct Try.underlying62 h
  obtain ⟨_, _, rfl, h1, _, _, rfl, h2, rfl⟩ := h
  obtain ⟨b, rfl⟩ := ty_bool Try.underlying4 h1
  obtain ⟨l, e1, o1⟩ := ty_ars h2
  obtain ⟨k, xs, rfl, _, _⟩ := ty_sl Try.underlying60 h2
  rw [dOf_sl Try.underlying60] at e1
  rw [dOf_struct Try.underlying62, e1]
  exact ⟨⟨b, l⟩, rfl, o1⟩
set_option maxRecDepth 100000 in
theorem ty_sts {n : Nat} {ds : List D} (h : TyC Try.prog n 40 ds) : ∃ l, dOf Try.prog 40 ds = .sl 2 (stas l) ∧ StaOk l := by
  obtain ⟨m, xs, rfl, h1, h2⟩ := ty_sl Try.underlying40 h
  obtain ⟨l, e1, e2, h3⟩ := ty_list (f := sta) (ok := fun s => s.arcs.length ≤ 9223372036854775807) (fun x hx => ty_sta hx) xs h2
  rw [e1, dOf_sl Try.underlying40]
  exact ⟨l, rfl, by omega, h3⟩
end Go.Eng.Try

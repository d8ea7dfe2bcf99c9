/- Costs, and numbers, that a call hands in. (and what stands behind it: texts laid together) -/
import Derived.Test.YtbnhblimckdcgaaGreatMR8
import Derived.Test.YtbnhblimckdcgaaGreatMR20
import Derived.Test.YtbnhblimckdcgaaGreatMR14
set_option linter.unusedVariables false
set_option linter.unusedSimpArgs false
namespace Go.Eng.Tryz
open Go Go.Eng Go.Proofs Go.RowKit
set_option maxRecDepth 100000 in
theorem ty_i64 {n : Nat} {ds : List D} (h : TyC Tryz.prog n 3 ds) : ∃ z : Int, dOf Tryz.prog 3 ds = .int .i64 z ∧ (-9223372036854775808 ≤ z ∧ z ≤ 9223372036854775807) := by
  obtain ⟨z, rfl, hz⟩ := ty_int Tryz.underlying3 h
  exact ⟨z, dOf_int Tryz.underlying3, wf_i64 hz⟩
set_option maxRecDepth 100000 in
theorem ty_u8 {n : Nat} {ds : List D} (h : TyC Tryz.prog n 5 ds) : ∃ z : Int, dOf Tryz.prog 5 ds = .int .u8 z ∧ (0 ≤ z ∧ z ≤ 255) := by
  obtain ⟨z, rfl, hz⟩ := ty_int Tryz.underlying5 h
  exact ⟨z, dOf_int Tryz.underlying5, wf_u8 hz⟩
set_option maxRecDepth 100000 in
theorem ty_co {n : Nat} {ds : List D} (h : TyC Tryz.prog n 25 ds) : ∃ c : Co, dOf Tryz.prog 25 ds = co c ∧ c.ok := by
  obtain ⟨m, h⟩ := ty_struct Tryz.underlying25 h
  obtain ⟨_, _, rfl, h1, _, _, rfl, h2, _, _, rfl, h3, _, _, rfl, h4, _, _, rfl, h5, rfl⟩ := h
  obtain ⟨c1, rfl, hc1⟩ := ty_int Tryz.underlying22 h1
  obtain ⟨c2, rfl, hc2⟩ := ty_int Tryz.underlying22 h2
  obtain ⟨c3, rfl, hc3⟩ := ty_int Tryz.underlying22 h3
  obtain ⟨c4, rfl, hc4⟩ := ty_int Tryz.underlying22 h4
  obtain ⟨l, e1, o1, o2⟩ := ty_rs h5
  obtain ⟨k, xs, rfl, _, _⟩ := ty_sl Tryz.underlying23 h5
  rw [dOf_sl Tryz.underlying23] at e1
  rw [dOf_struct Tryz.underlying25, e1]
  exact ⟨⟨c1, c2, c3, c4, l⟩, rfl, wf_u64 hc1, wf_u64 hc2, wf_u64 hc3, wf_u64 hc4, o1, o2⟩
end Go.Eng.Tryz
set_option linter.unusedVariables false
set_option linter.unusedSimpArgs false
namespace Go.Eng.Tryz
open Go Go.Eng Go.Proofs Go.RowKit
set_option maxRecDepth 100000 in
theorem ty_ar {n : Nat} {ds : List D} (h : TyC Tryz.prog n 41 ds) : ∃ a : Ar, dOf Tryz.prog 41 ds = ar a ∧ True := by
  obtain ⟨m, h⟩ := ty_struct Tryz.underlying41 h
  obtain ⟨_, _, rfl, h1, _, _, rfl, h2, rfl⟩ := h
  obtain ⟨s, rfl, _⟩ := ty_int Tryz.underlying3 h1
  obtain ⟨t, rfl, _⟩ := ty_int Tryz.underlying3 h2
  rw [dOf_struct Tryz.underlying41]
  exact ⟨⟨s, t⟩, rfl, trivial⟩
set_option maxRecDepth 100000 in
theorem ty_ars {n : Nat} {ds : List D} (h : TyC Tryz.prog n 37 ds) : ∃ l, dOf Tryz.prog 37 ds = .sl 2 (ars l) ∧ l.length ≤ 9223372036854775807 := by
  obtain ⟨m, xs, rfl, h1, h2⟩ := ty_sl Tryz.underlying37 h
  obtain ⟨l, e1, e2, h3⟩ := ty_list (f := ar) (ok := fun _ => True) (fun x hx => ty_ar hx) xs h2
  rw [e1, dOf_sl Tryz.underlying37]
  exact ⟨l, rfl, by omega⟩
set_option maxRecDepth 100000 in
theorem ty_sta {n : Nat} {ds : List D} (h : TyC Tryz.prog n 39 ds) : ∃ s : Sta, dOf Tryz.prog 39 ds = sta s ∧ s.arcs.length ≤ 9223372036854775807 := by
  obtain ⟨m, h⟩ := ty_struct Tryz.underlying39 h
  obtain ⟨_, _, rfl, h1, _, _, rfl, h2, rfl⟩ := h
  obtain ⟨b, rfl⟩ := ty_bool Tryz.underlying4 h1
  obtain ⟨l, e1, o1⟩ := ty_ars h2
  obtain ⟨k, xs, rfl, _, _⟩ := ty_sl Tryz.underlying37 h2
  rw [dOf_sl Tryz.underlying37] at e1
  rw [dOf_struct Tryz.underlying39, e1]
  exact ⟨⟨b, l⟩, rfl, o1⟩
set_option maxRecDepth 100000 in
theorem ty_sts {n : Nat} {ds : List D} (h : TyC Tryz.prog n 27 ds) : ∃ l, dOf Tryz.prog 27 ds = .sl 2 (stas l) ∧ StaOk l := by
  obtain ⟨m, xs, rfl, h1, h2⟩ := ty_sl Tryz.underlying27 h
  obtain ⟨l, e1, e2, h3⟩ := ty_list (f := sta) (ok := fun s => s.arcs.length ≤ 9223372036854775807) (fun x hx => ty_sta hx) xs h2
  rw [e1, dOf_sl Tryz.underlying27]
  exact ⟨l, rfl, by omega, h3⟩
end Go.Eng.Tryz

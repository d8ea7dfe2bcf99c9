/- Rules that a call hands in. (and what stands behind it: texts laid together) -/
import Derived.Test.YtabfoaoeghikoaaGreatDoorMR3
import Derived.Test.YtabfoaoeghikoaaGreatDoorMG4
import Derived.Test.YtabfoaoeghikoaaGreatDoorMR5
import Derived.Test.YtabfoaoeghikoaaGreatDoorMR7
set_option maxHeartbeats 32000000
set_option maxRecDepth 100000
set_option linter.unusedVariables false
set_option linter.unusedSimpArgs false
namespace Go.Eng.Tryz
open Go Go.Eng Go.Proofs Go.RowKit
theorem ty_is {n : Nat} {ds : List D} (h : TyC Tryz.prog n 36 ds) : ∃ l, dOf Tryz.prog 36 ds = .sl 1 (is l) ∧ l.length ≤ 9223372036854775807 := by
  obtain ⟨m, xs, rfl, h1, h2⟩ := ty_sl Tryz.underlying36 h
  obtain ⟨l, e1, e2, _⟩ := ty_list (f := fun z => D.int .i64 z) (ok := fun _ => True) (fun x hx => by
    obtain ⟨z, rfl, _⟩ := ty_int Tryz.underlying3 hx
    exact ⟨z, dOf_int Tryz.underlying3, trivial⟩) xs h2
  rw [e1, dOf_sl Tryz.underlying36]
  exact ⟨l, rfl, by omega⟩
theorem ty_ru {n : Nat} {ds : List D} (h : TyC Tryz.prog n 106 ds) : ∃ r : Ru, dOf Tryz.prog 106 ds = ru r ∧ r.ok := by
  obtain ⟨m, h⟩ := ty_struct Tryz.underlying106 h
  obtain ⟨_, _, rfl, h1, _, _, rfl, h2, _, _, rfl, h3, rfl⟩ := h
  obtain ⟨c, rfl, hc⟩ := ty_int Tryz.underlying42 h3
  obtain ⟨l, e1, o1⟩ := ty_is h1
  obtain ⟨k, xs, rfl, _, _⟩ := ty_sl Tryz.underlying36 h1
  rw [dOf_sl Tryz.underlying36] at e1
  obtain ⟨l', e2, o2⟩ := ty_is h2
  obtain ⟨k', xs', rfl, _, _⟩ := ty_sl Tryz.underlying36 h2
  rw [dOf_sl Tryz.underlying36] at e2
  rw [dOf_struct Tryz.underlying106, e1, e2]
  exact ⟨⟨l, l', c⟩, rfl, o1, o2, wf_u64 hc⟩
theorem ty_rs {n : Nat} {ds : List D} (h : TyC Tryz.prog n 43 ds) : ∃ l, dOf Tryz.prog 43 ds = .sl 3 (rs l) ∧ (∀ r ∈ l, r.ok) ∧ l.length ≤ 9223372036854775807 := by
  obtain ⟨m, xs, rfl, h1, h2⟩ := ty_sl Tryz.underlying43 h
  obtain ⟨l, e1, e2, h3⟩ := ty_list (f := ru) (ok := Ru.ok) (fun x hx => ty_ru hx) xs h2
  rw [e1, dOf_sl Tryz.underlying43]
  exact ⟨l, rfl, h3, by omega⟩
end Go.Eng.Tryz
set_option linter.unusedVariables false
set_option linter.unusedSimpArgs false
namespace Go.Eng.Tryz
open Go Go.Eng Go.Proofs Go.RowKit
theorem ty_co {n : Nat} {ds : List D} (h : TyC Tryz.prog n 45 ds) : ∃ c : Co, dOf Tryz.prog 45 ds = co c ∧ c.ok := by
  obtain ⟨m, h⟩ := ty_struct Tryz.underlying45 h
  obtain ⟨_, _, rfl, h1, _, _, rfl, h2, _, _, rfl, h3, _, _, rfl, h4, _, _, rfl, h5, rfl⟩ := h
  obtain ⟨c1, rfl, hc1⟩ := ty_int Tryz.underlying42 h1
  obtain ⟨c2, rfl, hc2⟩ := ty_int Tryz.underlying42 h2
  obtain ⟨c3, rfl, hc3⟩ := ty_int Tryz.underlying42 h3
  obtain ⟨c4, rfl, hc4⟩ := ty_int Tryz.underlying42 h4
  obtain ⟨l, e1, o1, o2⟩ := ty_rs h5
  obtain ⟨k, xs, rfl, _, _⟩ := ty_sl Tryz.underlying43 h5
  rw [dOf_sl Tryz.underlying43] at e1
  rw [dOf_struct Tryz.underlying45, e1]
  exact ⟨⟨c1, c2, c3, c4, l⟩, rfl, wf_u64 hc1, wf_u64 hc2, wf_u64 hc3, wf_u64 hc4, o1, o2⟩
end Go.Eng.Tryz
set_option linter.unusedVariables false
set_option linter.unusedSimpArgs false
namespace Go.Eng.Tryz
open Go Go.Eng Go.Proofs Go.RowKit
theorem ty_ar {n : Nat} {ds : List D} (h : TyC Tryz.prog n 70 ds) : ∃ a : Ar, dOf Tryz.prog 70 ds = ar a ∧ True := by
  obtain ⟨m, h⟩ := ty_struct Tryz.underlying70 h
  obtain ⟨_, _, rfl, h1, _, _, rfl, h2, rfl⟩ := h
  obtain ⟨s, rfl, _⟩ := ty_int Tryz.underlying3 h1
  obtain ⟨t, rfl, _⟩ := ty_int Tryz.underlying3 h2
  rw [dOf_struct Tryz.underlying70]
  exact ⟨⟨s, t⟩, rfl, trivial⟩
theorem ty_ars {n : Nat} {ds : List D} (h : TyC Tryz.prog n 66 ds) : ∃ l, dOf Tryz.prog 66 ds = .sl 2 (ars l) ∧ l.length ≤ 9223372036854775807 := by
  obtain ⟨m, xs, rfl, h1, h2⟩ := ty_sl Tryz.underlying66 h
  obtain ⟨l, e1, e2, h3⟩ := ty_list (f := ar) (ok := fun _ => True) (fun x hx => ty_ar hx) xs h2
  rw [e1, dOf_sl Tryz.underlying66]
  exact ⟨l, rfl, by omega⟩
theorem ty_sta {n : Nat} {ds : List D} (h : TyC Tryz.prog n 68 ds) : ∃ s : Sta, dOf Tryz.prog 68 ds = sta s ∧ s.arcs.length ≤ 9223372036854775807 := by
  obtain ⟨m, h⟩ := ty_struct Tryz.underlying68 h
  obtain ⟨_, _, rfl, h1, _, _, rfl, h2, rfl⟩ := h
  obtain ⟨b, rfl⟩ := ty_bool Tryz.underlying4 h1
  obtain ⟨l, e1, o1⟩ := ty_ars h2
  obtain ⟨k, xs, rfl, _, _⟩ := ty_sl Tryz.underlying66 h2
  rw [dOf_sl Tryz.underlying66] at e1
  rw [dOf_struct Tryz.underlying68, e1]
  exact ⟨⟨b, l⟩, rfl, o1⟩
theorem ty_sts {n : Nat} {ds : List D} (h : TyC Tryz.prog n 23 ds) : ∃ l, dOf Tryz.prog 23 ds = .sl 2 (stas l) ∧ StaOk l := by
  obtain ⟨m, xs, rfl, h1, h2⟩ := ty_sl Tryz.underlying23 h
  obtain ⟨l, e1, e2, h3⟩ := ty_list (f := sta) (ok := fun s => s.arcs.length ≤ 9223372036854775807) (fun x hx => ty_sta hx) xs h2
  rw [e1, dOf_sl Tryz.underlying23]
  exact ⟨l, rfl, by omega, h3⟩
end Go.Eng.Tryz
set_option linter.unusedVariables false
set_option linter.unusedSimpArgs false
namespace Go.Eng.Tryz
open Go Go.Eng Go.Proofs Go.RowKit
theorem ty_im {n : Nat} {ds : List D} (h : TyC Tryz.prog n 47 ds) : ∃ x : List Sta × Co, dOf Tryz.prog 47 ds = im x.1 x.2 ∧ StaOk x.1 ∧ x.2.ok := by
  obtain ⟨m, hi⟩ := ty_struct Tryz.underlying47 h
  obtain ⟨_, _, rfl, h0, _, _, rfl, hc, rfl⟩ := hi
  obtain ⟨l, e0, o0⟩ := ty_sts h0
  obtain ⟨k0, xs0, rfl, _, _⟩ := ty_sl Tryz.underlying23 h0
  rw [dOf_sl Tryz.underlying23] at e0
  obtain ⟨m2, hd⟩ := ty_struct Tryz.underlying45 hc
  obtain ⟨_, _, rfl, h1, _, _, rfl, h2, _, _, rfl, h3, _, _, rfl, h4, _, _, rfl, h5, rfl⟩ := hd
  obtain ⟨c1, rfl, hc1⟩ := ty_int Tryz.underlying42 h1
  obtain ⟨c2, rfl, hc2⟩ := ty_int Tryz.underlying42 h2
  obtain ⟨c3, rfl, hc3⟩ := ty_int Tryz.underlying42 h3
  obtain ⟨c4, rfl, hc4⟩ := ty_int Tryz.underlying42 h4
  obtain ⟨r, e1, o1, o2⟩ := ty_rs h5
  obtain ⟨k, xs, rfl, _, _⟩ := ty_sl Tryz.underlying43 h5
  rw [dOf_sl Tryz.underlying43] at e1
  rw [dOf_struct Tryz.underlying47, e0, e1]
  exact ⟨(l, ⟨c1, c2, c3, c4, r⟩), rfl, o0, wf_u64 hc1, wf_u64 hc2, wf_u64 hc3, wf_u64 hc4, o1, o2⟩
end Go.Eng.Tryz

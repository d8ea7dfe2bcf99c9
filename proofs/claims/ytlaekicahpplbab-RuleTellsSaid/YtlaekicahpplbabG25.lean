/- The engine, part 25: what of a type data is. -/
import Derived.Test.YtlaekicahpplbabG23
import Derived.Test.YtlaekicahpplbabG24
set_option linter.unusedVariables false
set_option linter.unusedSimpArgs false
namespace Go.Eng
section
variable {P : Program} {n : Nat} {t : TypeId} {ds : List D}
theorem ty_int {k : IntKind} (ht : P.underlying t = some (.int k)) (h : TyC P n t ds) : ∃ z, ds = [.int k z] ∧ (Lit.int k z).wf = true := by
  cases n with
  | zero => exact h.elim
  | succ n => unfold TyC at h; rw [ht] at h; exact h
theorem ty_bool (ht : P.underlying t = some .bool) (h : TyC P n t ds) : ∃ b, ds = [.bool b] := by
  cases n with
  | zero => exact h.elim
  | succ n => unfold TyC at h; rw [ht] at h; exact h
theorem ty_str (ht : P.underlying t = some .string) (h : TyC P n t ds) : ∃ s, ds = [.str s] ∧ s.size ≤ maxLen := by
  cases n with
  | zero => exact h.elim
  | succ n => unfold TyC at h; rw [ht] at h; exact h
theorem ty_sl {e : TypeId} (ht : P.underlying t = some (.slice e)) (h : TyC P n t ds) : ∃ (m : Nat) (xs : List (List D)), ds = [.sl (P.cellsOf e) (xs.map (dOf P e))] ∧ xs.length ≤ 9223372036854775807 ∧ ∀ x ∈ xs, TyC P m e x := by
  cases n with
  | zero => exact h.elim
  | succ n => unfold TyC at h; rw [ht] at h; exact ⟨n, h⟩
theorem ty_struct {fs : Array Field} (ht : P.underlying t = some (.struct fs)) (h : TyC P n t ds) : ∃ m, Tiles (TyC P m) (fs.toList.map (·.type)) ds := by
  cases n with
  | zero => exact h.elim
  | succ n => unfold TyC at h; rw [ht] at h; exact ⟨n, h⟩
theorem ty_array {m : Nat} {e : TypeId} (ht : P.underlying t = some (.array m e)) (h : TyC P n t ds) : ∃ k, Tiles (TyC P k) (List.replicate m e) ds := by
  cases n with
  | zero => exact h.elim
  | succ n => unfold TyC at h; rw [ht] at h; exact ⟨n, h⟩
theorem dOf_int {k : IntKind} {x : D} (ht : P.underlying t = some (.int k)) : dOf P t [x] = x := by unfold dOf; rw [ht]; rfl
theorem dOf_bool {x : D} (ht : P.underlying t = some .bool) : dOf P t [x] = x := by unfold dOf; rw [ht]; rfl
theorem dOf_str {x : D} (ht : P.underlying t = some .string) : dOf P t [x] = x := by unfold dOf; rw [ht]; rfl
theorem dOf_sl {e : TypeId} {x : D} (ht : P.underlying t = some (.slice e)) : dOf P t [x] = x := by unfold dOf; rw [ht]; rfl
theorem dOf_struct {fs : Array Field} (ht : P.underlying t = some (.struct fs)) : dOf P t ds = .agg ds := by unfold dOf; rw [ht]
theorem dOf_array {m : Nat} {e : TypeId} (ht : P.underlying t = some (.array m e)) : dOf P t ds = .agg ds := by unfold dOf; rw [ht]
/-- A slice's elements, each of one form. -/
theorem ty_list {α : Type} {f : α → D} {ok : α → Prop} {m : Nat} (H : ∀ x, TyC P m t x → ∃ e, dOf P t x = f e ∧ ok e) : ∀ (xs : List (List D)), (∀ x ∈ xs, TyC P m t x) → ∃ l : List α, xs.map (dOf P t) = l.map f ∧ l.length = xs.length ∧ ∀ e ∈ l, ok e
  | [], _ => ⟨[], rfl, rfl, by simp⟩
  | x :: xs, h => by
    obtain ⟨l, h1, h2, h3⟩ := ty_list H xs (fun y hy => h y (by simp [hy]))
    obtain ⟨e, h4, h5⟩ := H x (h x (by simp))
    refine ⟨e :: l, by simp [h1, h4], by simp [h2], fun y hy => ?_⟩
    rcases List.mem_cons.1 hy with rfl | hy
    · exact h5
    · exact h3 y hy
end
end Go.Eng

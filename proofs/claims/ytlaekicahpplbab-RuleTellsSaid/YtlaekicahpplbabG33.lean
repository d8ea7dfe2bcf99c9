/- The engine, part 33: structs and arrays held against each other. -/
import Derived.Test.YtlaekicahpplbabG32
set_option linter.unusedVariables false
set_option linter.unusedSimpArgs false
namespace Go.Eng
open Go.RowKit
open Go.Maps (Keyed)
/-- A type whose values are told apart by their cells alone. -/
def AggOk (P : Program) (t : TypeId) : Prop := Keyed P t ∧ (∃ d, P.underlying t = some d ∧ ((∃ fs, d = .struct fs) ∨ ∃ n e, d = .array n e)) ∧ P.eqGuardType P.depth t = false
/-- Are two things the same? -/
noncomputable def same {α : Type} (a b : α) : Bool := @decide (a = b) (Classical.propDecidable _)
theorem same_t {α : Type} {a b : α} (h : a = b) : same a b = true := @decide_eq_true _ (Classical.propDecidable _) h
theorem same_f {α : Type} {a b : α} (h : a ≠ b) : same a b = false := @decide_eq_false _ (Classical.propDecidable _) h
open Classical in
noncomputable def evAgg (P : Program) (t : TypeId) (op : BinOp) (x y : AV) : Option AV :=
  match x, y with
  | .d (.agg a), .d (.agg b) => if AggOk P t ∧ KeyD P t (.agg a) ∧ KeyD P t (.agg b) then
      match op with
      | .eql => some (.d (.bool (same a b)))
      | .neq => some (.d (.bool (!same a b)))
      | _ => none
    else none
  | _, _ => none
section
variable {P : Program} {w : World}
theorem equal_keyed {t : TypeId} {d : TypeDesc} (K : Keyed P t) (hd : P.underlying t = some d) (hw : (∃ fs, d = .struct fs) ∨ ∃ n e, d = .array n e) {x y : Value} {lx ly : Lit} (hx : keyOf P t x = some lx) (hy : keyOf P t y = some ly) :
    (Op.equal t x y).run P w = .ok (same x y) w := by
  have hf : (Instr.findKey t x [⟨y, undef, 0⟩]).run P w = (Instr.findAsking t x [⟨y, undef, 0⟩]).run P w := by
    have hn : Instr.findNow d x [⟨y, undef, 0⟩] 0 = none := by
      rcases hw with ⟨fs, rfl⟩ | ⟨n, e, rfl⟩ <;> simp [Instr.findNow, Instr.sameNow]
    simp only [Instr.findKey, Sem.run_bind, run_underlying hd, Result.andThen_ok, hn]
  rcases K.find w hx [⟨y, undef, 0⟩] (fun e he => by simp at he; subst he; exact ⟨ly, hy⟩) with ⟨h1, h2⟩ | ⟨j, e, h1, h2, h3⟩
  · rw [hf] at h1
    have hne : x ≠ y := fun e => h2 ⟨y, undef, 0⟩ (List.mem_singleton.2 rfl) e.symm
    simp only [Instr.findAsking, Sem.run_bind] at h1
    cases hq : (Op.equal t x y).run P w with
    | halt _ _ => rw [hq] at h1; simp [Result.andThen] at h1
    | ok b w1 =>
      rw [hq] at h1
      simp only [Result.andThen_ok] at h1
      cases b with
      | true => simp at h1
      | false =>
        simp at h1
        rw [same_f hne, h1]
  · rw [hf] at h1
    have hj : j = 0 := by
      have := (List.getElem?_eq_some_iff.1 h2).1
      simp at this
      exact this
    subst hj
    simp at h2
    subst h2
    simp only at h3
    simp only [Instr.findAsking, Sem.run_bind] at h1
    cases hq : (Op.equal t x y).run P w with
    | halt _ _ => rw [hq] at h1; simp [Result.andThen] at h1
    | ok b w1 =>
      rw [hq] at h1
      simp only [Result.andThen_ok] at h1
      cases b with
      | false => simp at h1
      | true =>
        simp at h1
        rw [same_t h3.symm, h1]
theorem evAgg_sound {M : Nat → Prop} {H : Nat → Option HO} {ν : Nat → Value} {used : Nat → Prop} {t : TypeId} {op : BinOp} {x y : AV} {v1 v2 : Value} {r : AV} (ox oy : Operand) (h1 : RepA w M H ν used x v1) (h2 : RepA w M H ν used y v2) (he : evAgg P t op x y = some r) :
    ∃ v, (do eqGuard op t ox oy v1 v2; binOp op t v1 v2 : Sem Value).run P w = .ok v w ∧ RepA w M H ν used r v := by
  unfold evAgg at he
  split at he
  · rename_i a b
    split at he
    · rename_i hc
      obtain ⟨⟨K, ⟨d, hd, hw⟩, hgt⟩, ⟨hpa, va, la, hva, hla⟩, ⟨hpb, vb, lb, hvb, hlb⟩⟩ := hc
      cases h1 with
      | d h1 =>
        cases h2 with
        | d h2 =>
          have e1 := pure_det hpa h1 (hva w M)
          have e2 := pure_det hpb h2 (hvb w M)
          subst e1; subst e2
          have heq := equal_keyed (w := w) K hd hw hla hlb
          have hiff : (v1 = v2) ↔ (a = b) := by
            constructor
            · intro e
              subst e
              have := pure_inj hpa hpb h1 h2
              simpa using this
            · intro e
              subst e
              exact pure_det hpa h1 h2
          have hdec : same v1 v2 = same a b := by
            by_cases e : a = b
            · rw [same_t e, same_t (hiff.2 e)]
            · rw [same_f e, same_f (fun h => e (hiff.1 h))]
          cases h1 with
          | agg hl1 hc1 hh1 =>
            cases h2 with
            | agg hl2 hc2 hh2 =>
              rename_i cs1 cs2
              have hg : (eqGuard op t ox oy (.agg cs1.toArray) (.agg cs2.toArray)).run P w = .ok () w := by
                unfold eqGuard
                cases op <;> simp [hgt]
              split at he
              · cases he
                refine ⟨_, ?_, .d (.bool _)⟩
                simp only [Sem.run_bind, hg, Result.andThen_ok, binOp, heq, Sem.run_pure, hdec]
              · cases he
                refine ⟨_, ?_, .d (.bool _)⟩
                simp only [Sem.run_bind, hg, Result.andThen_ok, binOp, heq, Sem.run_pure, hdec]
              · cases he
    · cases he
  · cases he
end
end Go.Eng

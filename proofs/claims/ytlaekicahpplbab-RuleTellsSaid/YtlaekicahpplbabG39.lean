/- The engine, part 39: how long a slice is that a call hands in. -/
import Derived.Test.YtlaekicahpplbabG25
import Derived.SizedLaws
set_option linter.unusedVariables false
set_option linter.unusedSimpArgs false
namespace Go.Eng
open Go.ChangeShapes Go.WideShapes Go.ChangeAt Go.RowKit
theorem slice_room {H : Type} {enc : TypeId × Value → H} {P : Program} {W : World} {base : Nat} {spare : Nat → Bool} {held : Bool} {t e : TypeId} {v : Value} {d : DataW H} {ps : List MemPlace} (hu : P.underlying t = some (.slice e)) (hd : DataW.Trod enc P W base spare held t v d ps)
    (hw : ∀ elems rest, d = .slice elems rest → (elems.length + rest.length) * P.bytesOf e ≤ reachBytes) {sz : Nat} {xs : List D} {M : Nat → Prop} (hr : RepD W M (.sl sz xs) v) : xs.length * P.bytesOf e ≤ 140737488351232 := by
  obtain ⟨a, c, rfl, hc1, hc2, hn⟩ := hr.sl_val
  obtain ⟨fuel, hd⟩ := hd
  cases fuel with
  | zero => simp [DataW.trod] at hd
  | succ n =>
    rw [DataW.trod_step] at hd
    unfold DataW.trodStep at hd
    rw [hu] at hd
    have hcl : (Value.slice a xs.length c).cells.toList = [Value.slice a xs.length c] := rfl
    rw [hcl] at hd
    cases a with
    | none =>
      obtain ⟨rfl, _⟩ := hn rfl
      simp
    | some a =>
      simp only at hd
      split at hd
      · obtain ⟨elems, he, h2⟩ := Option.bind_eq_some_iff.1 hd
        have hlen : elems.length = xs.length := by simpa using mapM_some_length he
        obtain ⟨rest, h3, h4⟩ := Option.map_eq_some_iff.1 h2
        have h5 : DataW.slice (elems.map (·.1)) (rest.map (·.1)) = d := congrArg Prod.fst h4
        have := hw _ _ h5.symm
        simp only [List.length_map, hlen] at this
        have h6 : reachBytes = 140737488351232 := rfl
        rw [h6, Nat.add_mul] at this
        exact Nat.le_trans (Nat.le_add_right _ _) this
      · cases hd
end Go.Eng

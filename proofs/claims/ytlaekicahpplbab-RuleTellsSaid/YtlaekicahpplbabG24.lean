/- The engine, part 24: data that says less: nil is a slice of no elements. -/
import Derived.Test.YtlaekicahpplbabG22
set_option linter.unusedVariables false
set_option linter.unusedSimpArgs false
namespace Go.Eng
open Go.RowKit

mutual
inductive Wk : D → D → Prop where
  | refl (x : D) : Wk x x
  | nil (sz : Nat) : Wk .nils (.sl sz [])
  | agg {a b : List D} (h : Wks a b) : Wk (.agg a) (.agg b)
  | tup {a b : List D} (h : Wks a b) : Wk (.tup a) (.tup b)
  | sl {sz : Nat} {a b : List D} (h : Wks a b) : Wk (.sl sz a) (.sl sz b)
inductive Wks : List D → List D → Prop where
  | nil : Wks [] []
  | cons {x y : D} {a b : List D} (h : Wk x y) (t : Wks a b) : Wks (x :: a) (y :: b)
end
theorem Wks.refl : ∀ (l : List D), Wks l l
  | [] => .nil
  | x :: l => .cons (.refl x) (Wks.refl l)
theorem Wks.len {a b : List D} (h : Wks a b) : a.length = b.length := by
  induction a generalizing b with
  | nil => cases h; rfl
  | cons x a ih => cases h with | cons _ t => simp [ih t]
theorem Wks.get {a b : List D} (h : Wks a b) : ∀ (i : Nat) x y, a[i]? = some x → b[i]? = some y → Wk x y := by
  induction a generalizing b with
  | nil => intro i x y hx; simp at hx
  | cons z a ih =>
    cases h with
    | cons hh t =>
      intro i x y hx hy
      cases i with
      | zero => simp at hx hy; subst hx; subst hy; exact hh
      | succ i => simp at hx hy; exact ih t i x y hx hy
theorem Wk.cell {a b : D} (h : Wk a b) : a.cell = b.cell := by cases h <;> rfl
theorem Wk.comps {a b : D} (h : Wk a b) : Wks a.comps b.comps := by
  cases h with
  | refl => exact Wks.refl _
  | nil sz => exact .cons (.nil sz) .nil
  | agg h => exact h
  | tup h => exact .cons (.tup h) .nil
  | sl h => exact .cons (.sl h) .nil
theorem RepD.wk {w : World} {M : Nat → Prop} {a : D} {v : Value} (hr : RepD w M a v) : ∀ {b : D}, Wk a b → RepD w M b v := by
  induction hr with
  | bool b => intro b h; cases h; exact .bool _
  | int k n => intro b h; cases h; exact .int _ _
  | str s => intro b h; cases h; exact .str _
  | fn f => intro b h; cases h; exact .fn _
  | nilf => intro b h; cases h; exact .nilf
  | agg hl hc hh ih =>
    intro b h
    cases h with
    | refl => exact .agg hl hc hh
    | agg h =>
      rename_i fs cs b
      refine .agg (by rw [← h.len]; exact hl) (fun d hd => ?_) (fun i d v hd hv => ?_)
      · obtain ⟨i, hi⟩ := List.mem_iff_getElem?.1 hd
        have hlt : i < fs.length := by rw [h.len]; exact (List.getElem?_eq_some_iff.1 hi).1
        have hx := List.getElem?_eq_getElem hlt
        rw [← (h.get i _ _ hx hi).cell]
        exact hc _ (List.mem_of_getElem? hx)
      · have hlt : i < fs.length := by rw [h.len]; exact (List.getElem?_eq_some_iff.1 hd).1
        have hx := List.getElem?_eq_getElem hlt
        exact ih i _ v hx hv (h.get i _ _ hx hd)
  | tup hl hh ih =>
    intro b h
    cases h with
    | refl => exact .tup hl hh
    | tup h =>
      rename_i fs cs b
      refine .tup (by rw [← h.len]; exact hl) (fun i d v hd hv => ?_)
      have hlt : i < fs.length := by rw [h.len]; exact (List.getElem?_eq_some_iff.1 hd).1
      have hx := List.getElem?_eq_getElem hlt
      exact ih i _ v hx hv (h.get i _ _ hx hd)
  | nils => intro b h; cases h <;> constructor
  | sl0 =>
    intro b h
    cases h with
    | refl => exact .sl0
    | sl h => cases h; exact .sl0
  | sl val hb hM hc hm hs h1 h2 ih =>
    intro b h
    cases h with
    | refl => exact .sl val hb hM hc hm hs h1 h2
    | sl h =>
      rename_i sz c xs a b
      have hne : b ≠ [] → xs ≠ [] := fun hb he => by subst he; cases h; exact hb rfl
      have look : ∀ i y, b[i]? = some y → ∃ x, xs[i]? = some x ∧ Wk x y := fun i y hy => by
        have hlt : i < xs.length := by rw [h.len]; exact (List.getElem?_eq_some_iff.1 hy).1
        exact ⟨_, List.getElem?_eq_getElem hlt, h.get i _ _ (List.getElem?_eq_getElem hlt) hy⟩
      have lookc : ∀ {x y : D}, Wk x y → ∀ (j : Nat) d, y.comps[j]? = some d → ∃ d', x.comps[j]? = some d' ∧ Wk d' d := fun {x y} hxy j d hd => by
        have hlt : j < x.comps.length := by rw [hxy.comps.len]; exact (List.getElem?_eq_some_iff.1 hd).1
        exact ⟨_, List.getElem?_eq_getElem hlt, hxy.comps.get j _ _ (List.getElem?_eq_getElem hlt) hd⟩
      rw [h.len]
      refine .sl val (fun hn => hb (hne hn)) (fun hn => hM (hne hn)) (by rw [← h.len]; exact hc) hm (fun i y hy => ?_) (fun i y j d hy hd => ?_) (fun i y j d hy hd => ?_)
      · obtain ⟨x, hx, hxy⟩ := look i y hy
        refine ⟨by rw [← hxy.comps.len]; exact (hs i x hx).1, fun d hd => ?_⟩
        obtain ⟨j, hj⟩ := List.mem_iff_getElem?.1 hd
        obtain ⟨d', hd', hw⟩ := lookc hxy j d hj
        rw [← hw.cell]
        exact (hs i x hx).2 d' (List.mem_of_getElem? hd')
      · obtain ⟨x, hx, hxy⟩ := look i y hy
        obtain ⟨d', hd', hw⟩ := lookc hxy j d hd
        exact h1 i x j d' hx hd'
      · obtain ⟨x, hx, hxy⟩ := look i y hy
        obtain ⟨d', hd', hw⟩ := lookc hxy j d hd
        exact ih i x j d' hx hd' hw
/-- A contract holds for arguments that say more, and gives what says less. -/
theorem Sound.wk {P : Program} {g : FuncId} {as as' : List D} {r r' : D} (h : Sound P g as r) (ha : Wks as' as) (hr : Wk r r') : Sound P g as' r' := by
  intro w M vs hM hl hv
  rcases h w M vs hM (by rw [← ha.len]; exact hl) (fun i d v hd hvv => by
    have hlt : i < as'.length := by rw [ha.len]; exact (List.getElem?_eq_some_iff.1 hd).1
    have hx := List.getElem?_eq_getElem hlt
    exact (hv i _ v hx hvv).wk (ha.get i _ _ hx hd)) with ⟨v, w', h1, h2, h3⟩ | ⟨h1, h2⟩
  · exact .inl ⟨v, w', h1, h2.wk hr, h3⟩
  · exact .inr ⟨h1, h2.mono fun e w' ⟨v, k1, k2, k3⟩ => ⟨v, k1, k2.wk hr, k3⟩⟩
end Go.Eng

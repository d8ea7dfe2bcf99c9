/- The engine, part 23: what a call hands in, of any plain type, as data. -/
import Derived.Test.YtlaekicahpplbabG19
import Derived.ChangeBears
import Derived.DataReads
import Derived.Carry
set_option linter.unusedVariables false
set_option linter.unusedSimpArgs false
namespace Go.Eng
open Go.ChangeShapes Go.WideShapes Go.ChangeAt Go.RowKit

/-- Cells that are laid one type behind the other. -/
def Tiles (p : TypeId → List D → Prop) : List TypeId → List D → Prop
  | [], ds => ds = []
  | t :: ts, ds => ∃ a b, ds = a ++ b ∧ p t a ∧ Tiles p ts b
/-- A type's cells, as one piece of data. -/
def dOf (P : Program) (t : TypeId) (ds : List D) : D :=
  match P.underlying t with
  | some (.struct _) | some (.array _ _) => .agg ds
  | _ => ds.headD .nils
/-- Cells that are of a type. -/
def TyC (P : Program) : Nat → TypeId → List D → Prop
  | 0, _, _ => False
  | f + 1, t, ds => match P.underlying t with
    | some .bool => ∃ b, ds = [.bool b]
    | some (.int k) => ∃ n, ds = [.int k n] ∧ (Lit.int k n).wf = true
    | some .string => ∃ s, ds = [.str s] ∧ s.size ≤ maxLen
    | some (.slice e) => ∃ xs : List (List D), ds = [.sl (P.cellsOf e) (xs.map (dOf P e))] ∧ xs.length ≤ maxLen ∧ ∀ x ∈ xs, TyC P f e x
    | some (.struct fs) => Tiles (TyC P f) (fs.toList.map (·.type)) ds
    | some (.array n e) => Tiles (TyC P f) (List.replicate n e) ds
    | _ => False
/-- The types that this covers. -/
def supp (P : Program) : Nat → TypeId → Bool
  | 0, _ => false
  | f + 1, t => match P.underlying t with
    | some .bool => true
    | some (.int _) => true
    | some .string => true
    | some (.slice e) => decide (0 < P.cellsOf e) && supp P f e
    | some (.struct fs) => fs.toList.all fun g => supp P f g.type
    | some (.array n e) => supp P f e
    | _ => false
def RepL (w : World) (ds : List D) (cs : List Value) : Prop := ds.length = cs.length ∧ (∀ d ∈ ds, d.cell = true) ∧ ∀ (i : Nat) d v, ds[i]? = some d → cs[i]? = some v → RepD w (fun _ => False) d v
theorem RepL.nil {w : World} : RepL w [] [] := ⟨rfl, by simp, by simp⟩
theorem RepL.one {w : World} {d : D} {v : Value} (hc : d.cell = true) (h : RepD w (fun _ => False) d v) : RepL w [d] [v] := by
  refine ⟨rfl, by simpa using hc, fun i x u hx hu => ?_⟩
  cases i with
  | zero => simp at hx hu; subst hx; subst hu; exact h
  | succ i => simp at hx
theorem RepL.app {w : World} {ds ds' : List D} {cs cs' : List Value} (h : RepL w ds cs) (h' : RepL w ds' cs') : RepL w (ds ++ ds') (cs ++ cs') := by
  obtain ⟨h1, h2, h3⟩ := h
  obtain ⟨k1, k2, k3⟩ := h'
  refine ⟨by simp [h1, k1], fun d hd => ?_, fun i d v hd hv => ?_⟩
  · rcases List.mem_append.1 hd with hd | hd
    · exact h2 d hd
    · exact k2 d hd
  · by_cases hi : i < ds.length
    · rw [List.getElem?_append_left hi] at hd
      rw [List.getElem?_append_left (by omega)] at hv
      exact h3 i d v hd hv
    · rw [List.getElem?_append_right (by omega)] at hd
      rw [List.getElem?_append_right (by omega)] at hv
      rw [h1] at hd
      exact k3 _ d v hd hv
theorem TyC_comps {P : Program} {w : World} {f : Nat} {t : TypeId} {ds : List D} {cs : List Value} (h : TyC P f t ds) (hr : RepL w ds cs) : (dOf P t ds).comps = ds := by
  cases f with
  | zero => exact h.elim
  | succ f =>
    unfold TyC at h
    unfold dOf
    split at h
    · rename_i e; obtain ⟨b, rfl⟩ := h; simp only [e]; rfl
    · rename_i e; obtain ⟨b, rfl, _⟩ := h; simp only [e]; rfl
    · rename_i e; obtain ⟨b, rfl, _⟩ := h; simp only [e]; rfl
    · rename_i e; obtain ⟨b, rfl, _⟩ := h; simp only [e]; rfl
    · rename_i e; simp only [e]; rfl
    · rename_i e; simp only [e]; rfl
    · exact h.elim
theorem tiles_open {H : Type} {P : Program} {W : World} {p : TypeId → List D → Prop} (g : TypeId → List Value → Option (DataW H × List MemPlace)) : ∀ (ts : List TypeId) (cs : List Value), cs.length = (ts.map P.cellsOf).sum →
    (∀ (i : Nat) t, ts[i]? = some t → ∃ x, g t ((cs.drop ((ts.take i).map P.cellsOf).sum).take (P.cellsOf t)) = some x) →
    (∀ t ∈ ts, ∀ cs' x, g t cs' = some x → ∃ ds, p t ds ∧ RepL W ds cs') → ∃ ds, Tiles p ts ds ∧ RepL W ds cs
  | [], cs, hl, _, _ => by
    have : cs = [] := List.eq_nil_of_length_eq_zero (by simpa using hl)
    subst this
    exact ⟨[], rfl, RepL.nil⟩
  | t :: ts, cs, hl, h1, h2 => by
    simp only [List.map_cons, List.sum_cons] at hl
    obtain ⟨x, hx⟩ := h1 0 t rfl
    simp only [List.take_zero, List.map_nil, List.sum_nil, List.drop_zero] at hx
    obtain ⟨a, ha, ra⟩ := h2 t (by simp) _ _ hx
    obtain ⟨b, hb, rb⟩ := tiles_open (P := P) (W := W) (p := p) g ts (cs.drop (P.cellsOf t)) (by simp; omega) (fun i u hu => by
      obtain ⟨y, hy⟩ := h1 (i + 1) u (by simpa using hu)
      simp only [List.take_succ_cons, List.map_cons, List.sum_cons] at hy
      exact ⟨y, by rw [List.drop_drop]; exact hy⟩) (fun u hu => h2 u (by simp [hu]))
    refine ⟨a ++ b, ⟨a, b, rfl, ha, hb⟩, ?_⟩
    have := ra.app rb
    rwa [List.take_append_drop] at this
theorem open_cells {H : Type} {enc : TypeId × Value → H} {P : Program} {W : World} {base : Nat} {spare : Nat → Bool} {held : Bool} (hl : laidOutB P = true) : ∀ (f : Nat) (t : TypeId), supp P f t = true → t < P.types.size → ∀ (n : Nat) (cs : List Value) (x : DataW H × List MemPlace),
    DataW.trod enc P W base spare held n t cs = some x → ∃ ds, TyC P f t ds ∧ RepL W ds cs
  | 0, t, hs, _, _, _, _, _ => by simp [supp] at hs
  | f + 1, t, hs, ht, 0, cs, x, h => by simp [DataW.trod] at h
  | f + 1, t, hs, ht, n + 1, cs, x, h => by
    have hx0 := h
    rw [DataW.trod_step] at h
    unfold DataW.trodStep at h
    simp only [supp] at hs
    simp only [TyC]
    cases hu : P.underlying t with
    | none => simp [hu] at hs
    | some u =>
    rw [hu] at h hs
    cases u with
    | bool =>
      rcases cs with _ | ⟨v, _ | ⟨v', cs'⟩⟩
      · simp at h
      · cases v <;> simp at h
        exact ⟨_, ⟨_, rfl⟩, RepL.one rfl (.bool _)⟩
      · simp at h
    | int k =>
      rcases cs with _ | ⟨v, _ | ⟨v', cs'⟩⟩
      · simp at h
      · cases v <;> simp at h
        obtain ⟨⟨rfl, hw⟩, -⟩ := h
        exact ⟨_, ⟨_, rfl, hw⟩, RepL.one rfl (.int _ _)⟩
      · simp at h
    | string =>
      rcases cs with _ | ⟨v, _ | ⟨v', cs'⟩⟩
      · simp at h
      · cases v <;> simp at h
        exact ⟨_, ⟨_, rfl, h.1⟩, RepL.one rfl (.str _)⟩
      · simp at h
    | slice e =>
      simp only [Bool.and_eq_true, decide_eq_true_eq] at hs
      have hte := kid_slice hl ht hu
      rcases cs with _ | ⟨v, _ | ⟨v', cs'⟩⟩
      · simp at h
      · cases v <;> try (simp at h; done)
        rename_i a len cap
        cases a with
        | none =>
          have hz : len = 0 ∧ cap = 0 := by cases len <;> cases cap <;> simp at h <;> simp
          obtain ⟨rfl, rfl⟩ := hz
          exact ⟨_, ⟨[], rfl, Nat.zero_le _, by simp⟩, RepL.one rfl .sl0⟩
        | some a =>
          simp only at h
          split at h
          · rename_i hb
            obtain ⟨elems, he, _⟩ := Option.bind_eq_some_iff.1 h
            have hlen : elems.length = len := by simpa using mapM_some_length he
            have hds : ∀ i, ∃ q : List D × List Value, i < len → W.cells? base (a.add (i * P.cellsOf e)) (P.cellsOf e) = some q.2 ∧ TyC P f e q.1 ∧ RepL W q.1 q.2 := fun i => by
              by_cases hi : i < len
              · have := mapM_some_get he i i (by simp [hi])
                rw [List.getElem?_eq_getElem (by omega)] at this
                obtain ⟨cs', h1, h2⟩ := Option.bind_eq_some_iff.1 this
                obtain ⟨ds, h3, h4⟩ := open_cells hl f e hs.2 hte n cs' _ h2
                exact ⟨(ds, cs'), fun _ => ⟨h1, h3, h4⟩⟩
              · exact ⟨([], []), fun h => absurd h hi⟩
            obtain ⟨g, hg⟩ := Classical.axiomOfChoice hds
            have at' : ∀ (i : Nat) x, (((List.range len).map fun i => (g i).1).map (dOf P e))[i]? = some x → i < len ∧ x = dOf P e (g i).1 := fun i x hx => by
              have hi : i < len := by have := (List.getElem?_eq_some_iff.1 hx).1; simpa using this
              simp only [List.getElem?_map, List.getElem?_range hi, Option.map_some, Option.some.injEq] at hx
              exact ⟨hi, hx.symm⟩
            refine ⟨_, ⟨(List.range len).map fun i => (g i).1, rfl, by simp; omega, fun x hx => ?_⟩, RepL.one rfl ?_⟩
            · obtain ⟨i, hi, rfl⟩ := List.mem_map.1 hx
              exact (hg i (by simpa using hi)).2.1
            · have elen : len = (((List.range len).map fun i => (g i).1).map (dOf P e)).length := by simp
              conv => arg 4; rw [elen]
              refine .sl (fun i j => (g i).2.getD j undef) (fun hn => ?_) (fun _ h => h) (by rw [← elen]; exact hb.2.1) hb.2.2 (fun i x hx => ?_) (fun i x j d hx hj => ?_) (fun i x j d hx hj => ?_)
              · have h0 : 0 < len := Nat.pos_of_ne_zero fun e => hn (by subst e; rfl)
                have := World.cells?_block (hg 0 h0).1 hs.1
                rwa [add_block] at this
              · obtain ⟨hi, rfl⟩ := at' i x hx
                obtain ⟨k1, k2, k3⟩ := hg i hi
                obtain ⟨_, k4, _⟩ := World.cells?_some k1
                rw [TyC_comps k2 k3]
                exact ⟨by rw [k3.1, k4], k3.2.1⟩
              · obtain ⟨hi, rfl⟩ := at' i x hx
                obtain ⟨k1, k2, k3⟩ := hg i hi
                obtain ⟨_, k4, k5⟩ := World.cells?_some k1
                rw [TyC_comps k2 k3] at hj
                have hjl : j < (g i).2.length := by have := (List.getElem?_eq_some_iff.1 hj).1; rw [k3.1] at this; exact this
                rw [← add_add', k5 j (by omega), List.getD_eq_getElem?_getD, List.getElem?_eq_getElem hjl]
                rfl
              · obtain ⟨hi, rfl⟩ := at' i x hx
                obtain ⟨k1, k2, k3⟩ := hg i hi
                rw [TyC_comps k2 k3] at hj
                have hjl : j < (g i).2.length := by have := (List.getElem?_eq_some_iff.1 hj).1; rw [k3.1] at this; exact this
                refine k3.2.2 j d _ hj ?_
                rw [List.getD_eq_getElem?_getD, List.getElem?_eq_getElem hjl]
                rfl
          · cases h
      · simp at h
    | struct fs =>
      obtain ⟨hty, hsum, hoff⟩ := kid_struct hl ht hu
      simp only at h
      split at h
      · rename_i hcl
        obtain ⟨xs, hxs, _⟩ := Option.map_eq_some_iff.1 h
        refine tiles_open (P := P) (fun t cs => DataW.trod enc P W base spare held n t cs) _ cs (by rw [hcl, hsum, List.map_map]; rfl) (fun i u hi => ?_) (fun u hu' cs' x hx => ?_)
        · rw [List.getElem?_map] at hi
          obtain ⟨fl, hfl, rfl⟩ := Option.map_eq_some_iff.1 hi
          have := mapM_some_get hxs i fl hfl
          rw [hoff i fl hfl] at this
          have hlt : i < xs.length := by rw [mapM_some_length hxs]; exact (List.getElem?_eq_some_iff.1 hfl).1
          rw [List.getElem?_eq_getElem hlt] at this
          refine ⟨xs[i], ?_⟩
          rw [← List.map_take, List.map_map]
          exact this
        · obtain ⟨fl, hfl, rfl⟩ := List.mem_map.1 hu'
          exact open_cells hl f fl.type (List.all_eq_true.1 hs fl hfl) (hty fl hfl) n cs' x hx
      · cases h
    | array m e =>
      obtain ⟨hte, hce⟩ := kid_array hl ht hu
      simp only at h
      split at h
      · rename_i hcl
        obtain ⟨xs, hxs, _⟩ := Option.map_eq_some_iff.1 h
        refine tiles_open (P := P) (fun t cs => DataW.trod enc P W base spare held n t cs) _ cs (by rw [hcl, hce, List.map_replicate, List.sum_replicate_nat]) (fun i u hi => ?_) (fun u hu' cs' x hx => ?_)
        · rw [List.getElem?_replicate] at hi
          split at hi
          · rename_i hi'
            cases hi
            have := mapM_some_get hxs i i (by simp [hi'])
            have hlt : i < xs.length := by rw [mapM_some_length hxs]; simpa using hi'
            rw [List.getElem?_eq_getElem hlt] at this
            refine ⟨xs[i], ?_⟩
            rw [List.take_replicate, List.map_replicate, List.sum_replicate_nat, Nat.min_eq_left (by omega)]
            exact this
          · cases hi
        · obtain ⟨_, rfl⟩ := List.mem_replicate.1 hu'
          exact open_cells hl f u hs hte n cs' x hx
      · cases h
    | _ => simp at hs
/-- A value of a plain type that a call hands in. -/
theorem open_any {H : Type} {enc : TypeId × Value → H} {P : Program} {W : World} {r : Reach} {b0 base : Nat} {spare : Nat → Bool} {held : Bool} {t : TypeId} {v : Value} {d : DataW H} {ps : List MemPlace} (f : Nat) (hl : laidOutB P = true) (hs : supp P f t = true) (ht : t < P.types.size)
    (hval : Value.okWide P W r b0 t v) (hd : DataW.Trod enc P W base spare held t v d ps) : ∃ ds, TyC P f t ds ∧ RepD W (fun _ => False) (dOf P t ds) v := by
  obtain ⟨fuel, hd⟩ := hd
  obtain ⟨ds, h1, h2⟩ := open_cells hl f t hs ht fuel _ _ hd
  refine ⟨ds, h1, ?_⟩
  cases f with
  | zero => exact h1.elim
  | succ f =>
    unfold TyC at h1
    unfold Value.okWide at hval
    unfold dOf
    have one : ∀ x, ds = [x] → (∀ cs, v ≠ .agg cs) → (∀ cs, v ≠ .tuple cs) → RepD W (fun _ => False) (ds.headD .nils) v := fun x hx hv hv' => by
      subst hx
      have hc : v.cells.toList = [v] := by cases v <;> first | rfl | exact absurd rfl (hv _) | exact absurd rfl (hv' _)
      rw [hc] at h2
      exact h2.2.2 0 x v rfl rfl
    have agg : (∃ cs, v = .agg cs) → RepD W (fun _ => False) (.agg ds) v := fun ⟨cs, hv⟩ => by
      subst hv
      have hc : (Value.agg cs).cells.toList = cs.toList := rfl
      rw [hc] at h2
      have := RepD.agg (w := W) (M := fun _ => False) h2.1 h2.2.1 h2.2.2
      simpa using this
    cases hu : P.underlying t with
    | none => simp [hu] at h1
    | some u =>
    have hv1 := hval
    simp only [hu] at h1 hval ⊢
    cases u with
    | bool =>
      obtain ⟨b, hb⟩ := h1
      obtain ⟨_, rfl⟩ := okWide_bool hu hv1
      exact one _ hb (fun _ h => by cases h) (fun _ h => by cases h)
    | int k =>
      obtain ⟨b, hb, _⟩ := h1
      obtain ⟨_, rfl⟩ := okWide_int hu hv1
      exact one _ hb (fun _ h => by cases h) (fun _ h => by cases h)
    | string =>
      obtain ⟨b, hb, _⟩ := h1
      obtain ⟨_, rfl⟩ := okWide_string hu hv1
      exact one _ hb (fun _ h => by cases h) (fun _ h => by cases h)
    | slice e =>
      obtain ⟨b, hb, _⟩ := h1
      obtain ⟨_, _, _, rfl⟩ := okWide_slice hu hv1
      exact one _ hb (fun _ h => by cases h) (fun _ h => by cases h)
    | struct fs =>
      obtain ⟨cs, hv, _⟩ := hval
      exact agg ⟨cs, hv⟩
    | array m e =>
      obtain ⟨cs, hv, _⟩ := hval
      exact agg ⟨cs, hv⟩
    | _ => exact h1.elim
end Go.Eng

/- The engine, part 8: slices written out, made, cut; small operations. -/
import Derived.Test.YtlaekicahpplbabG7
set_option linter.unusedVariables false
set_option linter.unusedSimpArgs false
namespace Go.Eng
open Go.RowKit

/-! ### A slice written out -/
def inOrder {α : Type} : Nat → List (Nat × α) → Bool
  | _, [] => true
  | s, (i, _) :: l => i == s && inOrder (s + 1) l
def allFlat (sz : Nat) : List D → Bool
  | [] => true
  | d :: ds => (AV.d d).sto && d.comps.length == sz && allFlat sz ds
def evBuildSlice (P : Program) (key : Nat) (H : Nat → Option HO) (t : TypeId) (len : Nat) (ps : List (Nat × AV)) : Option (AV × List (Nat × Option HO) × List Nat) :=
  match elT P t with
  | some e => match szT P e with
    | some sz => if 0 < sz ∧ len * sz ≤ 16777216 ∧ ps.length = len ∧ inOrder 0 ps = true ∧ (zeroD P e).isSome = true then
        match toDs H (ps.map Prod.snd) with
        | some (ds, ks) => if allFlat sz ds = true then some (.own key ds.length, ks.map (fun q => (q, none)) ++ [(key, some (.row e sz ds))], ks) else none
        | none => none
      else none
    | none => none
  | none => none
section
variable {P : Program} {X : Ctx} {hp : Heap} {ν : Nat → Value} {used : Nat → Prop} {w : World} {key : Nat}
theorem allFlat_mem {sz : Nat} : ∀ {ds : List D}, allFlat sz ds = true → ∀ d ∈ ds, (AV.d d).sto = true ∧ d.comps.length = sz
  | [], _, d, h => by cases h
  | x :: ds, h, d, hd => by
    simp only [allFlat, Bool.and_eq_true, beq_iff_eq] at h
    cases hd with
    | head => exact h.1
    | tail _ hd => exact allFlat_mem h.2 d hd
/-- Parts in order, each of sz cells, fill the row from place s on. -/
theorem fill_row {M : Nat → Prop} {sz : Nat} : ∀ (ds : List D) (vs : List (Nat × Value)) (s : Nat) (cells : Array Value) (len : Nat), ds.length = vs.length → inOrder s vs = true → s + ds.length = len → cells.size = len * sz →
    (∀ (j : Nat) d q, ds[j]? = some d → vs[j]? = some q → RepD w M d q.2) → allFlat sz ds = true →
    ∃ out, Instr.fill (fun i => some (i * sz, sz)) cells vs = some out ∧ out.size = len * sz ∧ (∀ q, q < s * sz → out.toList[q]? = cells.toList[q]?) ∧
      ∀ (i : Nat) x (j : Nat) d, ds[i]? = some x → x.comps[j]? = some d → ∃ u, out.toList[(s + i) * sz + j]? = some u ∧ RepD w M d u
  | [], vs, s, cells, len, hl, ho, hs, hc, h, hf => by
    cases vs with
    | cons _ _ => simp at hl
    | nil => exact ⟨cells, rfl, hc, fun _ _ => rfl, fun i x j d hx => by simp at hx⟩
  | x :: ds, vs, s, cells, len, hl, ho, hs, hc, h, hf => by
    cases vs with
    | nil => simp at hl
    | cons q vs =>
      obtain ⟨i, v⟩ := q
      simp only [inOrder, Bool.and_eq_true, beq_iff_eq] at ho
      obtain ⟨rfl, ho⟩ := ho
      simp only [allFlat, Bool.and_eq_true, beq_iff_eq] at hf
      have hv := h 0 x _ rfl rfl
      obtain ⟨c1, c2, c3⟩ := repD_comps hv hf.1.1
      replace c1 : v.cells.toList.length = x.comps.length := c1
      replace c3 : ∀ (i : Nat) d u, x.comps[i]? = some d → v.cells.toList[i]? = some u → RepD w M d u := c3
      simp only [List.length_cons] at hs hl
      have hle : i * sz + sz ≤ len * sz := by
        have : (i + 1) * sz ≤ len * sz := Nat.mul_le_mul_right _ (by omega)
        rw [Nat.add_mul] at this
        omega
      have hvs : v.cells.size = sz := by have : v.cells.toList.length = sz := by omega
                                         simpa using this
      have hfold : (v.cells.zipIdx.foldl (fun cs (c, j) => cs.setIfInBounds (i * sz + j) c) cells).toList = splice cells.toList (i * sz) v.cells.toList := by
        rw [← fold_splice v.cells.toList cells (i * sz) (by simp; omega), ← Array.foldl_toList]
        simp [Array.toList_zipIdx]
      have hsize : (v.cells.zipIdx.foldl (fun cs (c, j) => cs.setIfInBounds (i * sz + j) c) cells).size = len * sz := by
        have := congrArg List.length hfold
        rw [splice_length _ _ _ (by simp; omega)] at this
        simpa [hc] using this
      obtain ⟨out, g1, g2, g3, g4⟩ := fill_row ds vs (i + 1) _ len (by omega) ho (by omega) hsize (fun j d q hd hq => h (j + 1) d q (by simpa using hd) (by simpa using hq)) hf.2
      refine ⟨out, ?_, g2, fun q hq => ?_, fun i' y j d hy hd => ?_⟩
      · simp only [Instr.fill]
        rw [if_neg (by simp [hvs]; omega)]
        exact g1
      · rw [g3 q (by rw [Nat.add_mul]; omega), hfold, splice_get _ _ _ (by simp; omega), if_neg (by omega)]
      · cases i' with
        | zero =>
          simp at hy
          subst hy
          have hj := (List.getElem?_eq_some_iff.1 hd).1
          have hu := List.getElem?_eq_getElem (l := v.cells.toList) (i := j) (by omega)
          refine ⟨_, ?_, c3 j d _ hd hu⟩
          rw [Nat.add_zero, g3 _ (by rw [Nat.add_mul]; omega), hfold, splice_get _ _ _ (by simp; omega), if_pos (by rw [c1]; omega), ← hu]
          congr 1
          omega
        | succ i' =>
          obtain ⟨u, hu, hr⟩ := g4 i' y j d (by simpa using hy) hd
          exact ⟨u, by rw [show i + (i' + 1) = i + 1 + i' from by omega]; exact hu, hr⟩
theorem evBuildSlice_sound (hI : HInv X (lk hp) ν used w) (hk : ¬ used key) {t len : Nat} {ps : List (Nat × AV)} {vs : List (Nat × Value)} {r : AV} {es : List (Nat × Option HO)} {acc : List Nat} (hl : ps.length = vs.length)
    (h : ∀ (j : Nat) p q, ps[j]? = some p → vs[j]? = some q → p.1 = q.1 ∧ RepA w (Mut X.M0 (lk hp) ν) (lk hp) ν used p.2 q.2) (he : evBuildSlice P key (lk hp) t len ps = some (r, es, acc)) :
    ∃ v w', (Instr.buildSlice t len vs.toArray).run P w = .ok v w' ∧ Post X hp ν used w key (eff hp es) r v w' := by
  unfold evBuildSlice at he
  split at he
  · rename_i e hel
    split at he
    · rename_i sz hsz
      split at he
      · rename_i hc
        obtain ⟨hz, hlim, hlen, hord, hzd⟩ := hc
        split at he
        · rename_i ds ks hds
          split at he
          · rename_i hf
            simp at he
            obtain ⟨rfl, rfl, rfl⟩ := he
            obtain ⟨zd, hzd⟩ := Option.isSome_iff_exists.1 hzd
            obtain ⟨z, hzr, _, _⟩ := zeroD_run hzd
            obtain ⟨hI1, x1⟩ := hI.drops ks
            have hvl : (ps.map Prod.snd).length = (vs.map Prod.snd).length := by simp [hl]
            have hrep := toDs_rep hI Mut.dels_sub (ps.map Prod.snd) (vs.map Prod.snd) ds ks hvl (fun i d v hd hv => by
              simp at hd hv
              obtain ⟨a, hd⟩ := hd
              obtain ⟨b, hv⟩ := hv
              exact (h i _ _ hd hv).2) hds (hI.notMut (toDs_keys _ _ _ hds))
            obtain ⟨r1, r2⟩ := hrep
            have hord' : inOrder 0 vs = true := by
              have aux : ∀ (s : Nat) (ps : List (Nat × AV)) (vs : List (Nat × Value)), ps.length = vs.length → (∀ (j : Nat) p q, ps[j]? = some p → vs[j]? = some q → p.1 = q.1) → inOrder s ps = true → inOrder s vs = true := by
                intro s ps
                induction ps generalizing s with
                | nil => intro vs hl _ _; cases vs with
                  | nil => rfl
                  | cons _ _ => simp at hl
                | cons p ps ih => intro vs hl hh ho; cases vs with
                  | nil => simp at hl
                  | cons q vs =>
                    simp only [inOrder, Bool.and_eq_true, beq_iff_eq] at ho ⊢
                    exact ⟨by rw [← hh 0 p q rfl rfl]; exact ho.1, ih _ vs (by simpa using hl) (fun j p q hp hq => hh (j + 1) p q (by simpa using hp) (by simpa using hq)) ho.2⟩
              exact aux 0 ps vs hl (fun j p q hp hq => (h j p q hp hq).1) hord
            have hdl : ds.length = vs.length := by simpa using r1
            let cells0 : Array Value := (Array.range (len * sz)).map (fun q => z.cells[q % z.cells.size]!)
            obtain ⟨out, g1, g2, _, g4⟩ := fill_row (w := w) (M := Mut X.M0 (lk (dels hp ks)) ν) (sz := sz) ds vs 0 ((Array.range (len * sz)).map ((if len * sz = 0 then (#[] : Array Value) else z.cells)[· % (if len * sz = 0 then (#[] : Array Value) else z.cells).size]!)) len hdl hord' (by omega) (by simp)
              (fun j d q hd hq => r2 j d q.2 hd (by simp [hq])) hf
            have hrun : (Instr.buildSlice t len vs.toArray).run P w = .ok (.slice (some ⟨w.heap.size, 0, none⟩) len len) (w.alloc (.cells out e)) := by
              by_cases h0 : len * sz = 0
              · have hl0 : len = 0 := by rcases Nat.mul_eq_zero.1 h0 with h | h <;> omega
                have hv0 : vs = [] := List.eq_nil_of_length_eq_zero (by omega)
                subst hv0
                subst hl0
                simp [Instr.fill] at g1
                subst g1
                simp [Instr.buildSlice, run_underlying (elT_und hel), run_sizeOf' hsz, Instr.fill, newRow]
              · simp only [h0, if_false] at g1
                simp only [Instr.buildSlice, run_underlying (elT_und hel), Sem.run_bind, Result.andThen_ok, run_sizeOf' hsz, if_neg (show ¬ len * sz > 2 ^ 24 by omega), h0, if_false, Sem.run_pure, hzr, g1]
                simp [newRow]
            refine ⟨_, _, hrun, ?_⟩
            rw [eff_dels]
            obtain ⟨hI2, x2⟩ := hI1.reν hk (.slice none 0 0)
            have hown : Owns (w.alloc (.cells out e)) X.base e sz (.slice (some ⟨w.heap.size, 0, none⟩) len len) ds.length out.toList := by
              have : ds.length = len := by omega
              rw [this]
              refine ⟨by simpa using g2, .inr ⟨w.heap.size, len, out, rfl, hI.below.size, heap_alloc_new w _, Nat.le_refl _, by simp only [maxLen]; have := Nat.le_mul_of_pos_right len hz; omega, Nat.le_of_eq g2.symm, ?_⟩⟩
              rw [List.take_of_length_le (by simp [g2])]
            have hp := row_post (key := key) (k := key) (e := e) (sz := sz) (xs := []) (xs' := ds) hI2 hk (.inl ⟨rfl, lk_none hI1 hk, upd_same _ _ _⟩) hz hown (by rw [upd_same]; exact ⟨World.grownBy_alloc w _ _, Nat.le_refl _⟩) (.inr ⟨_, rfl, Nat.le_refl _⟩)
              (fun hu => absurd hu hk) (by simp) (fun x hx => ?_) (fun i x j d hx hd => ?_)
            · obtain ⟨ν', p1, p2, p3⟩ := hp
              exact ⟨ν', p1, x1.trans (x2.trans p2), p3⟩
            · obtain ⟨f1, f2⟩ := allFlat_mem hf x hx
              obtain ⟨i, hi⟩ := List.mem_iff_getElem?.1 hx
              have hil := (List.getElem?_eq_some_iff.1 hi).1
              have hq := List.getElem?_eq_getElem (l := vs.map Prod.snd) (i := i) (by simp; omega)
              exact ⟨f2, (repD_comps (r2 i x _ hi hq) f1).2.1⟩
            · obtain ⟨u, hu, hr⟩ := g4 i x j d hx hd
              exact ⟨u, by simpa using hu, hr.mono x2.same x2.shrink⟩
          · cases he
        · cases he
      · cases he
    · cases he
  · cases he
end
end Go.Eng

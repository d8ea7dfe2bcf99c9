/- The engine, part 7: values built, slices made, appended to, cut. -/
import Derived.Test.YtlaekicahpplbabG6
set_option linter.unusedVariables false
set_option linter.unusedSimpArgs false
namespace Go.Eng
open Go.RowKit

/-! ### A struct that is built -/
def allSz (P : Program) (t : TypeId) : Bool := match P.underlying t with
  | some (.struct fs) => fs.toList.all fun f => (szT P f.type).isSome
  | _ => false
def fillA (P : Program) (t : TypeId) : List AV → List (Nat × AV) → Option (List AV)
  | cs, [] => some cs
  | cs, (i, av) :: ps => match fldT P t i with
    | some (off, n) => if av.sto ∧ av.comps.length = n ∧ off + n ≤ cs.length then fillA P t (splice cs off av.comps) ps else none
    | none => none
def evBuild (P : Program) (t : TypeId) (ps : List (Nat × AV)) : Option AV :=
  if allSz P t then
    match zeroD P t with
    | some z => if (AV.d z).sto then match fillA P t (z.comps.map .d) ps with
      | some cs => some (pack cs)
      | none => none
      else none
    | none => none
  else none

section
variable {P : Program} {w : World} {M : Nat → Prop} {H : Nat → Option HO} {ν : Nat → Value} {used : Nat → Prop}
theorem run_mapM_places : ∀ (l : List Field), (∀ f ∈ l, (szT P f.type).isSome = true) →
    (l.mapM (fun f => do pure (f.offset, ← sizeOf f.type)) : Sem (List (Nat × Nat))).run P w = .ok (l.map fun f => (f.offset, (szT P f.type).getD 0)) w
  | [], _ => by simp
  | f :: l, h => by
    obtain ⟨n, hn⟩ := Option.isSome_iff_exists.1 (h f (by simp))
    rw [List.mapM_cons]
    simp only [Sem.run_bind, Sem.run_pure, run_sizeOf' hn, Result.andThen_ok, run_mapM_places l (fun g hg => h g (by simp [hg])), List.map_cons, hn, Option.getD_some]
theorem fold_splice : ∀ (vs : List Value) (cs : Array Value) (o : Nat), o + vs.length ≤ cs.size →
    ((vs.zipIdx.foldl (fun (cs : Array Value) (p : Value × Nat) => cs.setIfInBounds (o + p.2) p.1) cs)).toList = splice cs.toList o vs := by
  have gen : ∀ (vs : List Value) (k : Nat) (cs : Array Value) (o : Nat), o + k + vs.length ≤ cs.size →
      (((vs.zipIdx k).foldl (fun (cs : Array Value) (p : Value × Nat) => cs.setIfInBounds (o + p.2) p.1) cs)).toList = splice cs.toList (o + k) vs := by
    intro vs
    induction vs with
    | nil => intro k cs o _; simp [splice]
    | cons v vs ih =>
      intro k cs o h
      simp only [List.length_cons] at h
      rw [List.zipIdx_cons, List.foldl_cons, ih (k + 1) _ o (by simp; omega)]
      apply List.ext_getElem?
      intro j
      rw [splice_get _ _ _ (by simp; omega), splice_get _ _ _ (by simp; omega)]
      simp only [Array.toList_setIfInBounds, List.length_cons]
      by_cases h1 : o + (k + 1) ≤ j ∧ j < o + (k + 1) + vs.length
      · rw [if_pos h1, if_pos (by omega), show j - (o + k) = (j - (o + (k + 1))) + 1 from by omega]
        rfl
      · rw [if_neg h1]
        by_cases h2 : j = o + k
        · subst h2
          rw [if_pos (by omega), List.getElem?_set_self (by simp; omega)]
          simp
        · rw [if_neg (by omega), List.getElem?_set_ne (by omega)]
  intro vs cs o h
  have := gen vs 0 cs o (by omega)
  simpa using this
theorem fill_rep {t : Nat} {places : Array (Nat × Nat)} (hp : ∀ i p, fldT P t i = some p → places[i]? = some p) : ∀ (ps : List (Nat × AV)) (vs : List (Nat × Value)) (cs : List AV) (cells : Array Value) (cs' : List AV),
    ps.length = vs.length → (∀ (j : Nat) p q, ps[j]? = some p → vs[j]? = some q → p.1 = q.1 ∧ RepA w M H ν used p.2 q.2) →
    cs.length = cells.size → (∀ c ∈ cs, c.cell = true) → (∀ (i : Nat) d v, cs[i]? = some d → cells.toList[i]? = some v → RepA w M H ν used d v) →
    fillA P t cs ps = some cs' →
    ∃ out, Instr.fill (places[·]?) cells vs = some out ∧ cs'.length = out.toList.length ∧ (∀ c ∈ cs', c.cell = true) ∧ ∀ (i : Nat) d v, cs'[i]? = some d → out.toList[i]? = some v → RepA w M H ν used d v
  | [], vs, cs, cells, cs', hl, h, hlen, hc, hr, he => by
    cases vs with
    | cons _ _ => simp at hl
    | nil =>
      simp [fillA] at he
      subst he
      exact ⟨cells, rfl, by simpa using hlen, hc, hr⟩
  | (i, av) :: ps, vs, cs, cells, cs', hl, h, hlen, hc, hr, he => by
    cases vs with
    | nil => simp at hl
    | cons q vs =>
      obtain ⟨i', v⟩ := q
      obtain ⟨e1, e2⟩ := h 0 _ _ rfl rfl
      simp only at e1 e2
      subst e1
      simp only [fillA] at he
      split at he
      · rename_i off n hf
        split at he
        · rename_i hcond
          obtain ⟨hs, hn, hle⟩ := hcond
          obtain ⟨c1, c2, c3⟩ := comps_rep e2 hs
          have hsz : v.cells.size = n := by have : v.cells.toList.length = n := by omega
                                            simpa using this
          have hfold := fold_splice v.cells.toList cells off (by simp; omega)
          obtain ⟨out, g1, g2, g3, g4⟩ := fill_rep hp ps vs (splice cs off av.comps) ((v.cells.zipIdx.foldl (fun cs (c, j) => cs.setIfInBounds (off + j) c) cells)) cs' (by simpa using hl)
            (fun j p q hp hq => h (j + 1) p q (by simpa using hp) (by simpa using hq))
            (by rw [splice_length _ _ _ (by omega)]
                have := congrArg List.length hfold
                rw [splice_length _ _ _ (by simp; omega)] at this
                rw [hlen]
                simp only [Array.length_toList] at this
                rw [← this, ← Array.foldl_toList]
                simp [Array.toList_zipIdx])
            (fun c hc' => by
              unfold splice at hc'
              simp at hc'
              rcases hc' with h | h | h
              · exact hc c (List.mem_of_mem_take h)
              · exact c2 c h
              · exact hc c (List.mem_of_mem_drop h))
            (fun j d u hd hu => by
              have e : (v.cells.zipIdx.foldl (fun cs (c, j) => cs.setIfInBounds (off + j) c) cells).toList = splice cells.toList off v.cells.toList := by
                rw [← hfold, ← Array.foldl_toList]
                simp [Array.toList_zipIdx]
              rw [e] at hu
              rw [splice_get _ _ _ (by omega)] at hd
              rw [splice_get _ _ _ (by simp; omega), c1] at hu
              split at hd
              · rename_i hj
                rw [if_pos hj] at hu
                exact c3 _ _ _ hd hu
              · rename_i hj
                rw [if_neg hj] at hu
                exact hr j d u hd hu) he
          refine ⟨out, ?_, g2, g3, g4⟩
          have hpl := hp i (off, n) hf
          simp only [Instr.fill, hpl]
          rw [if_neg (by simp [hsz]; omega)]
          exact g1
        · cases he
      · cases he
theorem evBuild_sound {t : Nat} {ps : List (Nat × AV)} {vs : List (Nat × Value)} {r : AV} (hl : ps.length = vs.length) (h : ∀ (j : Nat) p q, ps[j]? = some p → vs[j]? = some q → p.1 = q.1 ∧ RepA w M H ν used p.2 q.2) (he : evBuild P t ps = some r) :
    ∃ u, (Instr.build t vs.toArray).run P w = .ok u w ∧ RepA w M H ν used r u := by
  unfold evBuild at he
  split at he
  · rename_i ha
    split at he
    · rename_i z hz
      split at he
      · rename_i hs
        split at he
        · rename_i cs hcs
          simp at he
          subst he
          obtain ⟨zv, hzr, _, hzrep⟩ := zeroD_run hz
          obtain ⟨c1, c2, c3⟩ := repD_comps (hzrep w M) hs
          unfold allSz at ha
          split at ha
          · rename_i fs hu
            have hrun := run_mapM_places (P := P) (w := w) fs.toList (List.all_eq_true.1 ha)
            have hplaces : ∀ i p, fldT P t i = some p → ((fs.toList.map fun f => (f.offset, (szT P f.type).getD 0)).toArray)[i]? = some p := by
              intro i p hp
              obtain ⟨fs', f, hu', hf, hz', ho⟩ := fldT_und hp
              rw [hu] at hu'
              cases hu'
              simp [hf, hz', ho]
            obtain ⟨out, g1, g2, g3, g4⟩ := fill_rep (P := P) (w := w) (M := M) (H := H) (ν := ν) (used := used) hplaces ps vs (z.comps.map .d) zv.cells cs hl h (by simpa using c1.symm)
              (fun c hc => by simp at hc; obtain ⟨y, hy, rfl⟩ := hc; exact c2 y hy)
              (fun i d u hd hu => by simp at hd; obtain ⟨y, hy, rfl⟩ := hd; exact .d (c3 i y u hy hu)) hcs
            refine ⟨_, ?_, pack_rep g2 g3 g4⟩
            have hm : (fs.mapM (fun f => do pure (f.offset, ← sizeOf f.type)) : Sem (Array (Nat × Nat))).run P w = .ok (fs.toList.map fun f => (f.offset, (szT P f.type).getD 0)).toArray w := by
              have e : (fs.mapM (fun f => do pure (f.offset, ← sizeOf f.type)) : Sem (Array (Nat × Nat))) = List.toArray <$> (fs.toList.mapM (fun f => do pure (f.offset, ← sizeOf f.type))) := by
                rw [Array.mapM_eq_mapM_toList]
              rw [e, Sem.run_map, hrun]
              rfl
            simp only [Instr.build, Sem.run_bind, hzr, Result.andThen_ok, run_underlying hu, hm, g1, Sem.run_pure]
          · cases ha
        · cases he
      · cases he
    · cases he
  · cases he

/-! ### A slice's cells -/
theorem flat_cells {w : World} {M : Nat → Prop} {sz c : Nat} {xs : List D} {a : Addr} {n : Nat} (hz : 0 < sz) (h : RepD w M (.sl sz xs) (.slice (some a) n c)) :
    ∃ news : List Value, news.length = xs.length * sz ∧ n = xs.length ∧ (∀ (j : Nat) v, news[j]? = some v → w.cell? (a.add j) = some v) ∧ (∀ v ∈ news, v.oneCell' = true) ∧ Flat sz xs ∧ RepRow w M sz xs news := by
  cases h with
  | sl val hb hM hc hm hs h1 h2 =>
    have key : ∀ q, q < xs.length * sz → ∃ x d, xs[q / sz]? = some x ∧ x.comps[q % sz]? = some d ∧ d.cell = true := by
      intro q hq
      have hlt : q / sz < xs.length := by rw [Nat.div_lt_iff_lt_mul hz]; exact hq
      have hx := List.getElem?_eq_getElem hlt
      obtain ⟨g1, g2⟩ := hs _ _ hx
      have hm : q % sz < (xs[q / sz]).comps.length := by rw [g1]; exact Nat.mod_lt _ hz
      exact ⟨_, _, hx, List.getElem?_eq_getElem hm, g2 _ (List.getElem_mem _)⟩
    refine ⟨(List.range (xs.length * sz)).map fun q => val (q / sz) (q % sz), by simp, rfl, fun j v hj => ?_, fun v hv => ?_, fun x hx => ?_, fun i x j d hx hd => ?_⟩
    · obtain ⟨hq, rfl⟩ := range_map_get hj
      obtain ⟨x, d, hx, hd, _⟩ := key j hq
      have := h1 _ x _ d hx hd
      rwa [Nat.mul_comm, Nat.div_add_mod] at this
    · simp at hv
      obtain ⟨q, hq, rfl⟩ := hv
      obtain ⟨x, d, hx, hd, hcell⟩ := key q hq
      exact (h2 _ x _ d hx hd).oneCell hcell
    · obtain ⟨i, hi⟩ := List.mem_iff_getElem?.1 hx
      exact hs i x hi
    · have hi := (List.getElem?_eq_some_iff.1 hx).1
      have hj := (List.getElem?_eq_some_iff.1 hd).1
      rw [(hs i x hx).1] at hj
      have hlt : i * sz + j < xs.length * sz := by
        have : (i + 1) * sz ≤ xs.length * sz := Nat.mul_le_mul_right _ hi
        rw [Nat.add_mul] at this
        omega
      refine ⟨_, by rw [List.getElem?_map, List.getElem?_range hlt]; rfl, ?_⟩
      have e1 : (i * sz + j) / sz = i := by rw [Nat.mul_comm, Nat.mul_add_div hz, Nat.div_eq_of_lt hj]; omega
      have e2 : (i * sz + j) % sz = j := by rw [Nat.mul_comm, Nat.mul_add_mod, Nat.mod_eq_of_lt hj]
      show RepD w M d (val ((i * sz + j) / sz) ((i * sz + j) % sz))
      rw [e1, e2]
      exact h2 i x j d hx hd
theorem RepRow.append {w : World} {M : Nat → Prop} {sz : Nat} {xs ys : List D} {as bs : List Value} (hl : as.length = xs.length * sz) (hf : Flat sz xs) (h : RepRow w M sz xs as) (k : RepRow w M sz ys bs) : RepRow w M sz (xs ++ ys) (as ++ bs) := by
  intro i x j d hx hd
  by_cases hi : i < xs.length
  · rw [List.getElem?_append_left hi] at hx
    obtain ⟨u, hu, hr⟩ := h i x j d hx hd
    exact ⟨u, by rw [List.getElem?_append_left ((List.getElem?_eq_some_iff.1 hu).1)]; exact hu, hr⟩
  · rw [List.getElem?_append_right (by omega)] at hx
    obtain ⟨u, hu, hr⟩ := k _ x j d hx hd
    refine ⟨u, ?_, hr⟩
    have hm : xs.length * sz ≤ i * sz := Nat.mul_le_mul_right _ (by omega)
    rw [List.getElem?_append_right (by omega), hl, show i * sz + j - xs.length * sz = (i - xs.length) * sz + j from by rw [Nat.sub_mul]; omega]
    exact hu
theorem Flat.append {sz : Nat} {xs ys : List D} (h : Flat sz xs) (k : Flat sz ys) : Flat sz (xs ++ ys) := fun x hx => by
  rcases List.mem_append.1 hx with h' | h'
  · exact h x h'
  · exact k x h'
def zOk (P : Program) (e : TypeId) : Bool := match P.info? e with
  | some i => match i.zero with | some z => z.cells.size == i.size | none => false
  | none => false
/-- The elements of a slice's data, of cells sz. -/
def elems (sz : Nat) : D → Option (List D)
  | .sl s xs => if s = sz then some xs else none
  | .nils => some []
  | _ => none
theorem elems_rep {w : World} {M : Nat → Prop} {sz : Nat} {d : D} {ys : List D} {v : Value} (h : RepD w M d v) (he : elems sz d = some ys) : RepD w M (.sl sz ys) v := by
  cases d <;> simp only [elems] at he <;> try (cases he; done)
  · split at he
    · simp at he; subst he; rename_i hs; subst hs; exact h
    · cases he
  · simp at he; subst he; exact h.of_nils _

def room (n by_ : Nat) : Prop := n * by_ ≤ 140737488355328 ∧ n ≤ 9223372036854775807
instance (n b : Nat) : Decidable (room n b) := by unfold room; infer_instance
/-- append. -/
def evAppend (P : Program) (key : Nat) (H : Nat → Option HO) (t : TypeId) (x y : AV) : Option (AV × List (Nat × Option HO) × List Nat) :=
  match elT P t with
  | none => none
  | some e => match szT P e, byT P e with
    | some sz, some b => if 0 < sz ∧ zOk P e = true then
        match toD H y with
        | some (d, ks) => match elems sz d with
          | some ys => match x with
            | .own k n => match H k with
              | some (.row e' sz' xs) => if n = xs.length ∧ e' = e ∧ sz' = sz ∧ k ∉ ks then
                  if room (xs.length + ys.length) b then some (.own k (xs ++ ys).length, ks.map (fun q => (q, none)) ++ [(k, some (.row e sz (xs ++ ys)))], k :: ks) else none
                else none
              | _ => none
            | .d x => match x with
              | .nils => if room ys.length b then some (.own key ys.length, ks.map (fun q => (q, none)) ++ [(key, some (.row e sz ys))], ks) else none
              | _ => none
            | _ => none
          | none => none
        | none => none
      else none
    | _, _ => none
/-- A world that has grown, but for one row's block. -/
structure Gb (w w' : World) (row : Option Nat) : Prop where
  lo : w.grownBy w' row
  drawn : w.drawn ≤ w'.drawn
theorem Bl.grown {B : Nat} {a w : World} {row : Option Nat} (hg : Gb a w row) (hB : B ≤ a.heap.size) (hr : ∀ b, row = some b → B ≤ b) : Bl B a w := ⟨(Below.refl _ _).grown hg.lo hB hr, hg.drawn⟩
theorem run_append_any {P : Program} {w : World} {base : Nat} {t e : TypeId} {sz b : Nat} (hel : elT P t = some e) (hsz : szT P e = some sz) (hb : byT P e = some b) (hz : 0 < sz) (hzo : zOk P e = true) (ty : TypeId)
    {v : Value} {n : Nat} {vals : List Value} (hown : Owns w base e sz v n vals) {M : Nat → Prop} {ys : List D} {vy : Value} (hy : RepD w M (.sl sz ys) vy) (hroom : room (n + ys.length) b) (hbase : base ≤ w.heap.size) :
    ∃ v' w' news, (Builtin.append_ #[t, t] ty #[v, vy]).run P w = .ok v' w' ∧ Owns w' base e sz v' (n + ys.length) (vals ++ news) ∧ Gb w w' v.ownBlock ∧ Flat sz ys ∧ RepRow w M sz ys news ∧
      (v'.ownBlock = v.ownBlock ∨ ∃ g, v'.ownBlock = some g ∧ w.heap.size ≤ g) ∧ (ys = [] → v' = v) := by
  have ht := elT_und hel
  obtain ⟨i, hi, hisz⟩ := szT_info hsz
  have hib : i.bytes = b := by simp [byT, hi] at hb; exact hb
  cases hy' : vy with
  | slice ao m c =>
    subst hy'
    cases ao with
    | none =>
      cases hy with
      | sl0 =>
        have hr : (Builtin.append_ #[t, t] ty #[v, .slice none 0 0]).run P w = .ok v w := by
          rcases hown.2 with ⟨rfl, rfl⟩ | ⟨g, cap, cur, rfl, _, _, hnc, _⟩
          · exact run_append_owned_none (P := P) (w := w) base t ty e i sz ht hi (.slice none 0 0) 0 [] (World.ownsRow_nil w base e sz)
          · simp [Builtin.append_, run_underlying ht, sizeOf, typeInfo, hi, Builtin.lenOf, hnc, Builtin.firstCells, loadCells, loadCellsFrom, storeCells]
        exact ⟨v, w, [], hr, by simpa using hown, ⟨⟨rfl, rfl, rfl, Nat.le_refl _, fun _ _ _ => rfl⟩, Nat.le_refl _⟩, (by intro x hx; cases hx), (by intro i x j d hx; simp at hx), .inl rfl, fun _ => rfl⟩
    | some a =>
      obtain ⟨news, hl, rfl, h1, h2, h3, h4⟩ := flat_cells hz hy
      unfold zOk at hzo
      rw [hi] at hzo
      simp only at hzo
      cases hzz : i.zero with
      | none => simp [hzz] at hzo
      | some z =>
        simp [hzz] at hzo
        have hsz' : i.size = sz := hisz
        subst hsz'
        have hr2 := hroom.2
        have hzs : z.cells.size = i.size := by omega
        have hlen : (vals ++ news).length = (n + ys.length) * i.size := by rw [List.length_append, hown.1, hl, Nat.add_mul]
        have grown : ∀ (old : Nat) (row : Option Nat),
            Owns (w.drew.alloc (.cells (vals.toArray ++ news.toArray ++ Builtin.zeroCells z.cells (grownCap w (n + ys.length) old e - (n + ys.length))) e)) base e i.size (.slice (some ⟨w.heap.size, 0, none⟩) (n + ys.length) (grownCap w (n + ys.length) old e)) (n + ys.length) (vals ++ news) ∧
            Gb w (w.drew.alloc (.cells (vals.toArray ++ news.toArray ++ Builtin.zeroCells z.cells (grownCap w (n + ys.length) old e - (n + ys.length))) e)) row := fun old row => by
          have hge := grownCap_ge w (n + ys.length) old e
          refine ⟨⟨hlen, .inr ⟨w.heap.size, _, _, rfl, hbase, heap_alloc_new w.drew _, hge, grownCap_le_maxLen w _ old e (by simp only [maxLen]; omega), ?_, ?_⟩⟩, ⟨⟨rfl, rfl, rfl, by simp, fun k hk _ => heap_alloc_old w.drew _ hk⟩, Nat.le_succ _⟩⟩
          · simp only [Array.size_append, List.size_toArray, size_zeroCells, hzs, hown.1, hl, ← Nat.add_mul]
            exact Nat.mul_le_mul_right _ (by omega)
          · simp only [Array.toList_append, List.append_assoc]
            rw [← List.append_assoc, ← hlen]
            exact List.take_left
        have fin : ∃ v' w', (Builtin.append_ #[t, t] ty #[v, .slice (some a) ys.length c]).run P w = .ok v' w' ∧ Owns w' base e i.size v' (n + ys.length) (vals ++ news) ∧ Gb w w' v.ownBlock ∧ (v'.ownBlock = v.ownBlock ∨ ∃ g, v'.ownBlock = some g ∧ w.heap.size ≤ g) ∧ (ys = [] → v' = v) := by
          rcases hown.2 with ⟨rfl, rfl⟩ | ⟨g, cap, cur, rfl, hbg, hg, hnc, hcm, hcs, htake⟩
          · have hv0 : vals = [] := List.eq_nil_of_length_eq_zero (by simpa using hown.1)
            subst hv0
            by_cases h0 : ys.length = 0
            · have hy0 := List.eq_nil_of_length_eq_zero h0
              have hn0 : news = [] := List.eq_nil_of_length_eq_zero (by rw [hl, h0]; omega)
              subst hn0
              subst hy0
              refine ⟨.slice none 0 0, w, ?_, Owns.nil, ⟨⟨rfl, rfl, rfl, Nat.le_refl _, fun _ _ _ => rfl⟩, Nat.le_refl _⟩, .inl rfl, fun _ => rfl⟩
              simp [Builtin.append_, run_underlying ht, sizeOf, typeInfo, hi, Builtin.lenOf, Builtin.firstCells, loadCells, loadCellsFrom]
            · have hr := run_append_nil (P := P) w t ty e i z ht hi hzz a ys.length c news hl h1 (by omega) (by omega) (by have := hroom.1; subst hib; simp only [Nat.zero_add] at this; omega)
              have hgr := grown 0 (Value.ownBlock (.slice none 0 0))
              simp only [Nat.zero_add, List.nil_append, Array.empty_append] at hgr ⊢
              exact ⟨_, _, hr, hgr.1, hgr.2, .inr ⟨_, rfl, Nat.le_refl _⟩, fun h => by simp [h] at h0⟩
          · by_cases hc : n + ys.length ≤ cap
            · have hcc : (n + ys.length) * i.size ≤ cap * i.size := Nat.mul_le_mul_right _ hc
              have hfit : n * i.size + news.length ≤ cur.size := by rw [hl, ← Nat.add_mul]; omega
              have hr := run_append_room (P := P) w t ty e i ht hi g n cap cur hg a ys.length c news hl h1 h2 hc hfit
              refine ⟨_, _, hr, ⟨hlen, .inr ⟨g, cap, _, rfl, hbg, setRow_heap w g cur _ e _ hg, hc, hcm, ?_, ?_⟩⟩, ⟨⟨rfl, rfl, rfl, by simp, fun k _ hk => setRow_other w g k _ (fun e => hk (by simp [Value.ownBlock, e]))⟩, Nat.le_refl _⟩, .inl rfl, fun h => by simp [h]⟩
              · simp only [List.size_toArray, List.length_append, List.length_take, List.length_drop, Array.length_toList]
                omega
              · rw [htake, ← hlen]
                exact List.take_left
            · have holds : ∀ (j : Nat) u, vals[j]? = some u → w.cell? ((⟨g, 0, none⟩ : Addr).add j) = some u := hown.cells (g := g) rfl
              have hr := run_append_grow (P := P) w t ty e i z ht hi hzz ⟨g, 0, none⟩ n cap vals hown.1 holds a ys.length c news hl h1 (by omega) (by omega)
                (growslice_fits (by omega) (by rw [hib]; exact hroom.1))
              have hgr := grown cap (Value.ownBlock (.slice (some ⟨g, 0, none⟩) n cap))
              exact ⟨_, _, hr, hgr.1, hgr.2, .inr ⟨_, rfl, Nat.le_refl _⟩, fun h => by simp [h] at hc; omega⟩
        obtain ⟨v', w', hr, g1, g2, hfresh⟩ := fin
        exact ⟨v', w', news, hr, g1, g2, h3, h4, hfresh⟩
  | _ => subst hy'; cases hy
theorem blockOf_own {w : World} {base : Nat} {e : TypeId} {sz n : Nat} {v : Value} {vals : List Value} (h : Owns w base e sz v n vals) : blockOf v = v.ownBlock := by
  rcases h.2 with ⟨rfl, _⟩ | ⟨g, cap, cur, rfl, _⟩ <;> rfl
theorem own_value {w : World} {base : Nat} {e : TypeId} {sz n : Nat} {v : Value} {vals : List Value} (h : Owns w base e sz v n vals) : ∃ a c, v = .slice a n c ∧ (n ≤ c ∧ c ≤ maxLen) ∧ (a = none → n = 0 ∧ c = 0) := by
  rcases h.2 with ⟨rfl, rfl⟩ | ⟨g, cap, cur, rfl, _, _, h1, h2, _⟩
  · exact ⟨none, 0, rfl, ⟨Nat.le_refl _, by simp [maxLen]⟩, fun _ => ⟨rfl, rfl⟩⟩
  · exact ⟨_, cap, rfl, ⟨h1, h2⟩, fun h => by cases h⟩

/-- A row of the call's own turns into another one. -/
theorem row_post {X : Ctx} {hp : Heap} {ν : Nat → Value} {used : Nat → Prop} {w w' : World} {key k : Nat} (hI : HInv X (lk hp) ν used w) (hkey : ¬ used key) {e : TypeId} {sz : Nat} {xs xs' : List D} {v' : Value} {vals' : List Value}
    (hk : k = key ∧ lk hp k = none ∧ ν k = .slice none 0 0 ∨ lk hp k = some (.row e sz xs)) (hz : 0 < sz)
    (hown : Owns w' X.base e sz v' xs'.length vals') (hg : Gb w w' (ν k).ownBlock)
    (hfr : v'.ownBlock = (ν k).ownBlock ∨ ∃ g, v'.ownBlock = some g ∧ w.heap.size ≤ g) (hst : used k → xs.length = xs'.length → v' = ν k) (hlen : xs.length ≤ xs'.length) (hf : Flat sz xs')
    (hrow : RepRow w (Mut X.M0 (lk hp) ν) sz xs' vals') :
    Post X hp ν used w key (put hp k (.row e sz xs')) (.own k xs'.length) v' w' := by
  have hbv : blockOf v' = v'.ownBlock := blockOf_own hown
  have hbν : blockOf (ν k) = (ν k).ownBlock := by
    rcases hk with ⟨_, _, h⟩ | h
    · rw [h]; rfl
    · obtain ⟨vals, ho, _⟩ := hI.obj _ _ h; exact blockOf_own ho
  have hMk : ∀ b, (ν k).ownBlock = some b → Mut X.M0 (lk hp) ν b := fun b hb => by
    rcases hk with ⟨_, _, h⟩ | h
    · rw [h] at hb; simp [Value.ownBlock] at hb
    · exact .inr ⟨k, _, h, by rw [hbν]; exact hb⟩
  have hOk : ∀ b, (ν k).ownBlock = some b → Own (lk hp) ν b := fun b hb => by
    rcases hk with ⟨_, _, h⟩ | h
    · rw [h] at hb; simp [Value.ownBlock] at hb
    · exact ⟨k, _, h, by rw [hbν]; exact hb⟩
  have hOf : ∀ b, (ν k).ownBlock = some b → ¬ X.M0 b := fun b hb => by
    rcases hk with ⟨_, _, h⟩ | h
    · rw [h] at hb; simp [Value.ownBlock] at hb
    · exact hI.far _ _ _ h (by rw [hbν]; exact hb)
  have hother : ∀ q o b, q ≠ k → lk hp q = some o → blockOf (ν q) = some b → (ν k).ownBlock ≠ some b := fun q o b hne hq hb hh => by
    rcases hk with ⟨_, _, h⟩ | h
    · rw [h] at hh; simp [Value.ownBlock] at hh
    · exact hne (hI.inj _ _ _ _ _ hq h hb (by rw [hbν]; exact hh))
  have hused : used k ∨ k = key := by
    rcases hk with ⟨h, _⟩ | h
    · exact .inr h
    · exact .inl (hI.usd _ _ h)
  have hx : Ext (Mut X.M0 (lk hp) ν) (lk hp) ν used w (Mut X.M0 (lk (put hp k (.row e sz xs'))) (upd ν k v')) (lk (put hp k (.row e sz xs'))) (upd ν k v') (fun q => used q ∨ q = key) w' := by
    refine ⟨⟨hg.lo.size, fun b hb hM => hg.lo.block b hb (fun h => hM (hMk b h.symm))⟩, fun b hb hM => ?_, fun q hq => .inl hq, fun q hq o' ho' => ?_, ⟨hg.lo.size, fun b hb hM => hg.lo.block b hb (fun h => hM (hOk b h.symm))⟩, fun b hb hM => ?_⟩
    · rcases hM with h | ⟨q, o', hq, hbq⟩
      · exact .inl h
      · by_cases h : q = k
        · subst h
          rw [upd_same, hbv] at hbq
          rcases hfr with h | ⟨g, h, hle⟩
          · exact hMk b (h ▸ hbq)
          · rw [hbq] at h; cases h; omega
        · rw [lk_put_other _ _ _ _ h] at hq
          rw [upd_other _ _ _ _ h] at hbq
          exact .inr ⟨q, o', hq, hbq⟩
    · by_cases h : q = k
      · subst h
        rw [lk_put_same] at ho'
        cases ho'
        rcases hk with ⟨h, _⟩ | h
        · subst h; exact absurd hq hkey
        · exact ⟨_, h, ⟨rfl, rfl, hlen⟩, fun hs => by rw [upd_same]; exact hst hq hs⟩
      · rw [lk_put_other _ _ _ _ h] at ho'
        exact ⟨o', ho', by cases o' <;> simp [HO.later], fun _ => upd_other _ _ _ _ h⟩
    · obtain ⟨q, o', hq, hbq⟩ := hM
      by_cases h : q = k
      · subst h
        rw [upd_same, hbv] at hbq
        rcases hfr with h | ⟨g, h, hle⟩
        · exact hOk b (h ▸ hbq)
        · rw [hbq] at h; cases h; omega
      · rw [lk_put_other _ _ _ _ h] at hq
        rw [upd_other _ _ _ _ h] at hbq
        exact ⟨q, o', hq, hbq⟩
  have hbel : Bl X.base w w' := Bl.grown hg hI.below.size (fun b hb => by
    rcases hk with ⟨_, _, h⟩ | h
    · rw [h] at hb; simp [Value.ownBlock] at hb
    · exact (hI.blk _ _ _ h (by rw [hbν]; exact hb)).1)
  have hlt : ∀ b, v'.ownBlock = some b → X.base ≤ b ∧ b < w'.heap.size := fun b hb => hown.lt b hb
  refine ⟨upd ν k v', hI.step hbel hx hused (fun b hb => ?_) (fun q o' b hne hq hb => ?_) ?_, hx, ?_⟩
  · rw [hbv] at hb
    refine ⟨(hlt b hb).1, (hlt b hb).2, fun q o' hne hq hbq => ?_, ?_⟩
    · rcases hfr with h | ⟨g, h, hle⟩
      · exact hother q o' b hne hq hbq (h ▸ hb)
      · rw [hb] at h; cases h
        have := (hI.blk _ _ _ hq hbq).2
        omega
    · rcases hfr with h | ⟨g, h, hle⟩
      · exact hOf b (h ▸ hb)
      · rw [hb] at h; cases h
        exact fun hh => by have := hI.M0 _ hh; omega
  · exact hg.lo.block b (hI.blk _ _ _ hq hb).2 (fun h => hother q o' b hne hq hb h.symm)
  · exact ⟨vals', hown, hz, hf, hrow.mono hx.same hx.shrink⟩
  · obtain ⟨a, c, h1, h2, h3⟩ := own_value hown
    refine .own hused h1 h2 h3 fun o ho => ?_
    rw [lk_put_same] at ho
    cases ho
    exact ⟨e, sz, xs', rfl, Nat.le_refl _, fun _ => (upd_same _ _ _).symm⟩
theorem Post.after {X : Ctx} {hp hp1 hp' : Heap} {ν : Nat → Value} {used : Nat → Prop} {w w' : World} {key : Nat} {av : AV} {v : Value} (hx : Ext (Mut X.M0 (lk hp) ν) (lk hp) ν used w (Mut X.M0 (lk hp1) ν) (lk hp1) ν used w)
    (h : Post X hp1 ν used w key hp' av v w') : Post X hp ν used w key hp' av v w' :=
  let ⟨ν', h1, h2, h3⟩ := h
  ⟨ν', h1, hx.trans h2, h3⟩
/-- The value of a key that is not used yet is of no account. -/
theorem HInv.reν {X : Ctx} {hp : Heap} {ν : Nat → Value} {used : Nat → Prop} {w : World} {key : Nat} (hI : HInv X (lk hp) ν used w) (hk : ¬ used key) (v : Value) :
    HInv X (lk hp) (upd ν key v) used w ∧ Ext (Mut X.M0 (lk hp) ν) (lk hp) ν used w (Mut X.M0 (lk hp) (upd ν key v)) (lk hp) (upd ν key v) used w := by
  have hne : ∀ q o, lk hp q = some o → q ≠ key := fun q o h e => hk (e ▸ hI.usd _ _ h)
  have hM : ∀ b, Mut X.M0 (lk hp) (upd ν key v) b → Mut X.M0 (lk hp) ν b := fun b h => by
    rcases h with h | ⟨q, o, hq, hb⟩
    · exact .inl h
    · rw [upd_other _ _ _ _ (hne _ _ hq)] at hb; exact .inr ⟨q, o, hq, hb⟩
  have hx : Ext (Mut X.M0 (lk hp) ν) (lk hp) ν used w (Mut X.M0 (lk hp) (upd ν key v)) (lk hp) (upd ν key v) used w :=
    ⟨Same.refl _ _, fun b _ h => hM b h, fun _ h => h, fun q _ o ho => ⟨o, ho, by cases o <;> simp [HO.later], fun _ => upd_other _ _ _ _ (hne _ _ ho)⟩, Same.refl _ _, fun b _ ⟨q, o, hq, hb⟩ => by
      rw [upd_other _ _ _ _ (hne _ _ hq)] at hb; exact ⟨q, o, hq, hb⟩⟩
  refine ⟨⟨hI.below, hI.M0, fun q o b hq hb => by rw [upd_other _ _ _ _ (hne _ _ hq)] at hb; exact hI.far _ _ _ hq hb, hI.usd, fun q o b hq hb => ?_, fun q q' o o' b h h' hb hb' => ?_, fun q o hq => ?_⟩, hx⟩
  · rw [upd_other _ _ _ _ (hne _ _ hq)] at hb; exact hI.blk _ _ _ hq hb
  · rw [upd_other _ _ _ _ (hne _ _ h)] at hb
    rw [upd_other _ _ _ _ (hne _ _ h')] at hb'
    exact hI.inj _ _ _ _ _ h h' hb hb'
  · rw [upd_other _ _ _ _ (hne _ _ hq)]; exact (hI.obj _ _ hq).ext hx (fun _ _ => rfl)
theorem lk_none {X : Ctx} {hp : Heap} {ν : Nat → Value} {used : Nat → Prop} {w : World} {key : Nat} (hI : HInv X (lk hp) ν used w) (hk : ¬ used key) : lk hp key = none := by
  cases h : lk hp key with
  | none => rfl
  | some o => exact absurd (hI.usd _ _ h) hk
theorem evAppend_sound {P : Program} {X : Ctx} {hp : Heap} {ν : Nat → Value} {used : Nat → Prop} {w : World} {key : Nat} (hI : HInv X (lk hp) ν used w) (hk : ¬ used key) {t ty : TypeId} {x y r : AV} {vx vy : Value} {es : List (Nat × Option HO)} {acc : List Nat}
    (hx : RepA w (Mut X.M0 (lk hp) ν) (lk hp) ν used x vx) (hy : RepA w (Mut X.M0 (lk hp) ν) (lk hp) ν used y vy) (he : evAppend P key (lk hp) t x y = some (r, es, acc)) :
    ∃ v w', (Builtin.append_ #[t, t] ty #[vx, vy]).run P w = .ok v w' ∧ Post X hp ν used w key (eff hp es) r v w' := by
  unfold evAppend at he
  split at he
  · cases he
  · rename_i e hel
    split at he
    · rename_i sz b hsz hb
      split at he
      · rename_i hc
        obtain ⟨hz, hzo⟩ := hc
        split at he
        · rename_i d ks hd
          split at he
          · rename_i ys hys
            obtain ⟨hI1, x1⟩ := hI.drops ks
            have hdr := elems_rep (toD_drop hI hy hd) hys
            split at he
            · rename_i k n
              split at he
              · rename_i e' sz' xs ho
                split at he
                · rename_i hc
                  obtain ⟨rfl, rfl, rfl, hnk⟩ := hc
                  split at he
                  · rename_i hroom
                    simp at he
                    obtain ⟨rfl, rfl, rfl⟩ := he
                    have ho1 : lk (dels hp ks) k = some (.row e' sz' xs) := by rw [lk_dels_other _ _ _ hnk]; exact ho
                    cases hx with
                    | own hu hv hcc ha h =>
                      obtain ⟨_, _, _, he, _, hvν⟩ := h _ ho
                      cases he
                      have hvν := hvν rfl
                      obtain ⟨vals, hown, _, hf, hrow⟩ := hI1.obj _ _ ho1
                      rw [hvν]
                      obtain ⟨v', w', news, hr, g1, g2, g3, g4, g5, g6⟩ := run_append_any (P := P) hel hsz hb hz hzo ty hown hdr hroom hI.below.size
                      refine ⟨v', w', hr, ?_⟩
                      rw [eff_dels]
                      have := row_post (key := key) (k := k) (xs' := xs ++ ys) hI1 hk (.inr ho1) hz (by rw [List.length_append]; exact g1) g2 g5 (fun _ hl => g6 (by simp at hl; exact hl)) (by simp) (hf.append g3) (hrow.append hown.1 hf g4)
                      simp only [List.length_append] at this
                      exact this.after x1
                  · cases he
                · cases he
              · cases he
            · split at he
              · split at he
                · rename_i hroom
                  simp at he
                  obtain ⟨rfl, rfl, rfl⟩ := he
                  cases hx with
                  | d hx =>
                    cases hx
                    obtain ⟨hI2, x2⟩ := hI1.reν hk (.slice none 0 0)
                    have hdr2 : RepD w (Mut X.M0 (lk (dels hp ks)) (upd ν key (.slice none 0 0))) (.sl sz ys) vy := hdr.mono x2.same x2.shrink
                    obtain ⟨v', w', news, hr, g1, g2, g3, g4, g5, g6⟩ := run_append_any (P := P) hel hsz hb hz hzo ty (Owns.nil) hdr2 (by simpa using hroom) hI.below.size
                    refine ⟨v', w', hr, ?_⟩
                    rw [eff_dels]
                    simp only [Nat.zero_add, List.nil_append] at g1
                    have := row_post (key := key) (k := key) (xs := []) (xs' := ys) hI2 hk (.inl ⟨rfl, lk_none hI1 hk, upd_same _ _ _⟩) hz g1 (by rw [upd_same]; exact g2) (by rw [upd_same]; exact g5) (fun _ hl => by rw [upd_same]; exact g6 (List.eq_nil_of_length_eq_zero hl.symm)) (by simp) g3 g4
                    obtain ⟨ν', p1, p2, p3⟩ := this
                    exact ⟨ν', p1, x1.trans (x2.trans p2), p3⟩
                · cases he
              · cases he
            · cases he
          · cases he
        · cases he
      · cases he
    · cases he
end
end Go.Eng

/- The engine, part 10: one operation. -/
import Derived.Test.YtlaekicahpplbabG33
set_option linter.unusedVariables false
set_option linter.unusedSimpArgs false
namespace Go.Eng
open Go.RowKit

abbrev Res := Option (AV × List (Nat × Option HO) × List Nat)
def evLen (P : Program) (t : TypeId) (x : AV) : Option AV :=
  match x with
  | .d x => match x with
    | .str s => if isStrT P t = true then some (.d (.int .i64 s.size)) else none
    | .sl _ xs => match elT P t with | some _ => some (.d (.int .i64 xs.length)) | none => none
    | .nils => match elT P t with | some _ => some (.d (.int .i64 0)) | none => none
    | _ => none
  | .clip _ xs => match elT P t with | some _ => some (.d (.int .i64 xs.length)) | none => none
  | .own _ n => match elT P t with | some _ => some (.d (.int .i64 n)) | none => none
  | _ => none
def evMin (x y : AV) : Option AV :=
  match x, y with
  | .d (.int k a), .d (.int _ b) => some (.d (.int k (if b < a then b else a)))
  | _, _ => none
def evMax (x y : AV) : Option AV :=
  match x, y with
  | .d (.int k a), .d (.int _ b) => some (.d (.int k (if b > a then b else a)))
  | _, _ => none
def evConv (P : Program) (s d : TypeId) (x : AV) : Option AV :=
  match P.underlying s with
  | some _ => match x with
    | .d (.int _ n) => match intT P d with | some k => some (.d (.int k (k.wrap n))) | none => none
    | .d (.str b) => if isStrT P d = true then some (.d (.str b)) else none
    | _ => none
  | none => none
def evNil (x : AV) : Option AV :=
  match x with
  | .ref k o => some (.ref k o)
  | .eref k n i s o => some (.eref k n i s o)
  | .dref f => some (.dref f)
  | .fn f c => some (.fn f c)
  | .d (.fn f) => some (.d (.fn f))
  | _ => none
def evExtract (x : AV) (i : Nat) : Option AV :=
  match x with
  | .tup vs => vs[i]?
  | .d (.tup ds) => match ds[i]? with | some d => some (.d d) | none => none
  | _ => none
def just (x : Option AV) : Res := match x with | some a => some (a, [], []) | none => none
def evAppendClip (P : Program) (key : Nat) (H : Nat → Option HO) (t : TypeId) (sz' : Nat) (xs : List D) (y : AV) : Res :=
  match elT P t with
  | none => none
  | some e => match szT P e, byT P e with
    | some sz, some b => if 0 < sz ∧ zOk P e = true ∧ sz' = sz then
        match toD H y with
        | some (d, ks) => match elems sz d with
          | some ys => match ys with
            | [] => some (.clip sz xs, ks.map (fun q => (q, none)), ks)
            | y :: ys => if room (xs.length + (y :: ys).length) b then some (.own key (xs ++ y :: ys).length, ks.map (fun q => (q, none)) ++ [(key, some (.row e sz (xs ++ y :: ys)))], ks) else none
          | none => none
        | none => none
      else none
    | _, _ => none
def evBuiltin (P : Program) (key : Nat) (ρ : Operand → AV) (H : Nat → Option HO) (b : Builtin) (args : Array Operand) (ts : Array TypeId) : Res :=
  match b with
  | .len => match args.toList, ts.toList with
    | [x], [t] => just (evLen P t (ρ x))
    | _, _ => none
  | .min => match args.toList with
    | [x, y] => just (evMin (ρ x) (ρ y))
    | _ => none
  | .max => match args.toList with
    | [x, y] => just (evMax (ρ x) (ρ y))
    | _ => none
  | .append => match args.toList, ts.toList with
    | [x, y], [t, t'] => if t' = t then
        match ρ x with
        | .clip sz xs => evAppendClip P key H t sz xs (ρ y)
        | x => match evAppendV P H t x (ρ y) with
          | some r => some r
          | none => evAppend P key H t x (ρ y)
      else none
    | _, _ => none
  | .copy => match args.toList, ts.toList with
    | [x, y], [t, _] => evCopy P H t (ρ x) (ρ y)
    | _, _ => none
  | _ => none
noncomputable def evOp (P : Program) (key : Nat) (ρ : Operand → AV) (H : Nat → Option HO) (o : Op) : Res :=
  match o with
  | .move x => some (ρ x, [], [])
  | .assign x => some (ρ x, [], [])
  | .pick c a b => match ρ c with | .d (.bool t) => some (if t then ρ a else ρ b, [], []) | _ => none
  | .alloc t => match zeroD P t with
    | some z => if (AV.d z).sto = true then some (.ref key 0, [(key, some (.var (AV.d z).comps))], []) else none
    | none => none
  | .box _ x => if (ρ x).sto = true then some (.ref key 0, [(key, some (.var (ρ x).comps))], []) else none
  | .build t ps => just (evBuild P t (ps.toList.map fun p => (p.1, ρ p.2)))
  | .buildSlice t len ps => evBuildSlice P key H t len (ps.toList.map fun p => (p.1, ρ p.2))
  | .load t a => match evLoad P H t (ρ a) with | some (x, acc) => some (x, [], acc) | none => none
  | .store t a x => match evStore P H t (ρ a) (ρ x) with | some (es, acc) => some (.undef, es, acc) | none => none
  | .nilCheck x => just (evNil (ρ x))
  | .binOp op t x y _ => match evAgg P t op (ρ x) (ρ y) with
    | some r => just (some r)
    | none => just (evBin P t op (ρ x) (ρ y))
  | .unOp op _ x => just (evUn op (ρ x))
  | .convert s d x => just (evConv P s d (ρ x))
  | .makeFunc fn first caps => match fn with
    | .func f => match first.toList, caps.toList with
      | [], [] => some (.d (.fn f), [], [])
      | [], c :: cs => some (.fn f ((c :: cs).map ρ), [], [])
      | _, _ => none
    | _ => none
  | .makeSlice t l c => evMake P key t (ρ l) (ρ c)
  | .slice t x lo hi mx => match evView P H t (ρ x) (lo.map ρ) (hi.map ρ) (mx.map ρ) with
    | some r => some r
    | none => evSliceO P key H t (ρ x) (lo.map ρ) (hi.map ρ) (mx.map ρ)
  | .makeMap t r => match r with
    | none => evMakeMap P key t false
    | some _ => none
  | .lookup t x i ok => match evLookup P H t (ρ x) (ρ i) ok with
    | some (r, acc) => some (r, [], acc)
    | none => none
  | .mapUpdate t m k x => match evMapUpd P H t (ρ m) (ρ k) (ρ x) with
    | some (es, acc) => some (.undef, es, acc)
    | none => none
  | .range t x => evRange key P H t (ρ x)
  | .entry it => match evEntry H (ρ it) with
    | some (r, acc) => some (r, [], acc)
    | none => none
  | .fieldAddr s x f => just (evField P s (ρ x) f)
  | .indexAddr t x i => just (evIndex P t (ρ x) (ρ i))
  | .extract t i => just (evExtract (ρ t) i)
  | .call c => match c.callee with
    | .builtin b => evBuiltin P key ρ H b c.args c.argTypes
    | _ => none
  | _ => none

section
variable {P : Program} {X : Ctx} {hp : Heap} {ν : Nat → Value} {used : Nat → Prop} {w : World} {key : Nat}
theorem just_some {x : Option AV} {r : AV} {es : List (Nat × Option HO)} {acc : List Nat} (h : just x = some (r, es, acc)) : x = some r ∧ es = [] ∧ acc = [] := by
  cases x with
  | none => simp [just] at h
  | some a => simp [just] at h; obtain ⟨rfl, rfl, rfl⟩ := h; exact ⟨rfl, rfl, rfl⟩
theorem evLen_sound {M : Nat → Prop} {H : Nat → Option HO} {t ty : Nat} {x r : AV} {v : Value} (h : RepA w M H ν used x v) (he : evLen P t x = some r) : ∃ u, (Builtin.len_ #[t] ty #[v]).run P w = .ok u w ∧ RepA w M H ν used r u := by
  unfold evLen at he
  split at he
  · cases h with
    | d h =>
      split at he
      · split at he
        · rename_i hs
          cases h
          simp at he
          subst he
          exact ⟨_, by simp [Builtin.len_, run_underlying (isStrT_und hs), goInt]; rfl, .d (by constructor)⟩
        · cases he
      · split at he
        · rename_i e hel
          simp at he
          subst he
          obtain ⟨a, c, rfl, _⟩ := h.sl_val
          exact ⟨_, by simp [Builtin.len_, run_underlying (elT_und hel), goInt]; rfl, .d (by constructor)⟩
        · cases he
      · split at he
        · rename_i e hel
          cases h
          simp at he
          subst he
          exact ⟨.int .i64 0, by simp [Builtin.len_, run_underlying (elT_und hel), goInt], .d (by constructor)⟩
        · cases he
      · cases he
  · split at he
    · rename_i e hel
      simp at he
      subst he
      cases h with
      | clip h => exact ⟨_, by simp [Builtin.len_, run_underlying (elT_und hel), goInt]; rfl, .d (by constructor)⟩
    · cases he
  · split at he
    · rename_i e hel
      simp at he
      subst he
      cases h with
      | own hu hv hc ha h => subst hv; exact ⟨_, by simp [Builtin.len_, run_underlying (elT_und hel), goInt]; rfl, .d (by constructor)⟩
    · cases he
  · cases he
theorem evConv_sound {M : Nat → Prop} {H : Nat → Option HO} {s d : Nat} {x r : AV} {v : Value} (h : RepA w M H ν used x v) (he : evConv P s d x = some r) : ∃ u, (convert s d v).run P w = .ok u w ∧ RepA w M H ν used r u := by
  unfold evConv at he
  split at he
  · rename_i ds hs
    split at he
    · split at he
      · rename_i k hk
        simp at he
        subst he
        cases h with
        | d h => cases h; exact ⟨_, by cases ds <;> simp [convert, run_underlying hs, run_underlying (intT_und hk), Conv.intToInt] <;> rfl, .d (by constructor)⟩
      · cases he
    · split at he
      · rename_i hd
        simp at he
        subst he
        cases h with
        | d h => cases h; exact ⟨_, by cases ds <;> simp [convert, run_underlying hs, run_underlying (isStrT_und hd)] <;> rfl, .d (by constructor)⟩
      · cases he
    · cases he
  · cases he
theorem evExtract_sound {M : Nat → Prop} {H : Nat → Option HO} {i : Nat} {x r : AV} {v : Value} (h : RepA w M H ν used x v) (he : evExtract x i = some r) : ∃ u, (Instr.extract v i).run P w = .ok u w ∧ RepA w M H ν used r u := by
  unfold evExtract at he
  split at he
  · rename_i vs
    cases h with
    | tup hl h =>
      rename_i cs
      have hi := (List.getElem?_eq_some_iff.1 he).1
      have hc := List.getElem?_eq_getElem (l := cs) (i := i) (by omega)
      exact ⟨cs[i]'(by omega), by simp [Instr.extract, hc], h i r _ he hc⟩
  · rename_i ds
    split at he
    · rename_i d hd
      simp at he
      subst he
      cases h with
      | d h => cases h with
        | tup hl h =>
          rename_i cs
          have hi := (List.getElem?_eq_some_iff.1 hd).1
          have hc := List.getElem?_eq_getElem (l := cs) (i := i) (by omega)
          exact ⟨cs[i]'(by omega), by simp [Instr.extract, hc], .d (h i d _ hd hc)⟩
    · cases he
  · cases he
theorem evAppendClip_sound (hI : HInv X (lk hp) ν used w) (hk : ¬ used key) {t ty : TypeId} {sz' : Nat} {xs : List D} {y r : AV} {vx vy : Value} {es : List (Nat × Option HO)} {acc : List Nat}
    (hx : RepA w (Mut X.M0 (lk hp) ν) (lk hp) ν used (.clip sz' xs) vx) (hy : RepA w (Mut X.M0 (lk hp) ν) (lk hp) ν used y vy) (he : evAppendClip P key (lk hp) t sz' xs y = some (r, es, acc)) :
    ∃ v w', (Builtin.append_ #[t, t] ty #[vx, vy]).run P w = .ok v w' ∧ Post X hp ν used w key (eff hp es) r v w' := by
  unfold evAppendClip at he
  split at he
  · cases he
  · rename_i e hel
    split at he
    · rename_i sz b hsz hb
      split at he
      · rename_i hc
        obtain ⟨hz, hzo, rfl⟩ := hc
        split at he
        · rename_i d ks hd
          split at he
          · rename_i ys hys
            obtain ⟨hI1, x1⟩ := hI.drops ks
            have hdr := elems_rep (toD_drop hI hy hd) hys
            obtain ⟨i, hi, hisz⟩ := szT_info hsz
            subst hisz
            have hib : i.bytes = b := by simp [byT, hi] at hb; exact hb
            have ht := elT_und hel
            have hxr := hx.ext x1
            cases hx with
            | clip hx =>
              rename_i ao
              split at he
              · simp at he
                obtain ⟨rfl, rfl, rfl⟩ := he
                rw [eff_dels0]
                refine ⟨_, _, ?_, (Post.same hI1 hk hxr).after x1⟩
                obtain ⟨a, c, rfl, h1, h2, h3⟩ := hdr.sl_val
                cases a with
                | none => cases ao <;> simp [Builtin.append_, run_underlying ht, run_sizeOf' hsz, Builtin.lenOf, Builtin.firstCells, storeCells]
                | some a => cases ao <;> simp [Builtin.append_, run_underlying ht, run_sizeOf' hsz, Builtin.lenOf, Builtin.firstCells, loadCells, loadCellsFrom, storeCells]
              · rename_i y0 ys
                split at he
                · rename_i hroom
                  simp only [Option.some.injEq, Prod.mk.injEq] at he
                  obtain ⟨rfl, rfl, rfl⟩ := he
                  rw [eff_dels]
                  obtain ⟨a, c, rfl, h1, h2, h3⟩ := hdr.sl_val
                  cases a with
                  | none => exact absurd (h3 rfl).1 (by simp)
                  | some a =>
                    obtain ⟨news, hl, _, n1, n2, n3, n4⟩ := flat_cells hz hdr
                    unfold zOk at hzo
                    rw [hi] at hzo
                    simp only at hzo
                    cases hzz : i.zero with
                    | none => simp [hzz] at hzo
                    | some z =>
                      simp [hzz] at hzo
                      obtain ⟨hI2, x2⟩ := hI1.reν hk (.slice none 0 0)
                      have hroom' := hroom
                      obtain ⟨q1, q2⟩ := hroom
                      simp only [List.length_cons] at q1 q2 hl
                      have fin : ∀ (olds : List Value) (cap : Nat), olds.length = xs.length * i.size → xs.length + (ys.length + 1) ≤ cap → cap ≤ maxLen → Flat i.size xs → RepRow w (Mut X.M0 (lk (dels hp ks)) ν) i.size xs olds →
                          ∀ (z' : Array Value), z'.size = (cap - (xs.length + (ys.length + 1))) * i.size →
                          Post X hp ν used w key (put (dels hp ks) key (.row e i.size (xs ++ y0 :: ys))) (.own key (xs ++ y0 :: ys).length) (.slice (some ⟨w.heap.size, 0, none⟩) (xs.length + (ys.length + 1)) cap) (w.drew.alloc (.cells (olds.toArray ++ news.toArray ++ z') e)) := by
                        intro olds cap ho hcap hcm hf hrow z' hz'
                        have hlen : (xs ++ y0 :: ys).length = xs.length + (ys.length + 1) := by simp
                        have hown : Owns (w.drew.alloc (.cells (olds.toArray ++ news.toArray ++ z') e)) X.base e i.size (.slice (some ⟨w.heap.size, 0, none⟩) (xs.length + (ys.length + 1)) cap) (xs ++ y0 :: ys).length (olds ++ news) := by
                          rw [hlen]
                          refine ⟨by rw [List.length_append, ho, hl, ← Nat.add_mul], .inr ⟨w.heap.size, cap, _, rfl, hI.below.size, heap_alloc_new w.drew _, hcap, hcm, ?_, ?_⟩⟩
                          · simp only [Array.size_append, List.size_toArray, ho, hl, hz', ← Nat.add_mul]
                            exact Nat.mul_le_mul_right _ (by omega)
                          · simp only [Array.toList_append, List.append_assoc]
                            rw [← List.append_assoc, show (xs.length + (ys.length + 1)) * i.size = (olds ++ news).length from by rw [List.length_append, ho, hl, ← Nat.add_mul]]
                            exact List.take_left
                        have hp := row_post (key := key) (k := key) (e := e) (sz := i.size) (xs := []) (xs' := xs ++ y0 :: ys) hI2 hk (.inl ⟨rfl, lk_none hI1 hk, upd_same _ _ _⟩) hz hown
                          (by rw [upd_same]; exact ⟨⟨rfl, rfl, rfl, by simp, fun k hk _ => Below.heap_alloc w.drew _ k hk⟩, Nat.le_succ _⟩) (.inr ⟨_, rfl, Nat.le_refl _⟩) (fun hu => absurd hu hk) (by simp) (hf.append n3)
                          ((hrow.append ho hf n4).mono x2.same x2.shrink)
                        obtain ⟨ν', p1, p2, p3⟩ := hp
                        exact ⟨ν', p1, x1.trans (x2.trans p2), p3⟩
                      cases hxr with
                      | clip hxr =>
                        cases ao with
                        | none =>
                          cases hx' : xs with
                          | cons _ _ => rw [hx'] at hxr; cases hxr
                          | nil =>
                            subst hx'
                            have hr := run_append_nil (P := P) w t ty e i z ht hi hzz a (ys.length + 1) c news (by simpa using hl) n1 (by omega) (by simp at q2; omega) (by subst hib; simp at q1; omega)
                            have hge := grownCap_ge w (ys.length + 1) 0 e
                            have hcm := grownCap_le_maxLen w (ys.length + 1) 0 e (by simp only [maxLen]; simp at q2; omega)
                            have := fin [] (grownCap w (ys.length + 1) 0 e) (by simp) (by simpa using hge) hcm (by intro x hx; cases hx) (by intro i x j d hx; simp at hx) (Builtin.zeroCells z.cells (grownCap w (ys.length + 1) 0 e - (ys.length + 1))) (by rw [size_zeroCells, hzo]; simp)
                            simp only [List.length_nil, Nat.zero_add, Array.empty_append, List.nil_append] at this
                            refine ⟨_, _, hr, ?_⟩
                            simpa [eff] using this
                        | some ad =>
                          obtain ⟨olds, o1, _, o2, o3, o4, o5⟩ := flat_cells hz hxr
                          have hr := run_append_grow (P := P) w t ty e i z ht hi hzz ad xs.length xs.length olds o1 o2 a (ys.length + 1) c news hl n1 (by omega) (by omega) (growslice_fits (by omega) (by rw [hib]; exact q1))
                          have hge := grownCap_ge w (xs.length + (ys.length + 1)) xs.length e
                          have hcm := grownCap_le_maxLen w (xs.length + (ys.length + 1)) xs.length e (by simp only [maxLen]; omega)
                          exact ⟨_, _, hr, fin olds _ o1 hge hcm o4 o5 _ (by rw [size_zeroCells, hzo])⟩
                · cases he
          · cases he
        · cases he
      · cases he
    · cases he

theorem evOp_sound (hI : HInv X (lk hp) ν used w) (hk : ¬ used key) {ρ : Operand → AV} {val : Operand → Value} (hρ : ∀ x, RepA w (Mut X.M0 (lk hp) ν) (lk hp) ν used (ρ x) (val x)) {o : Oper} {r : AV} {es : List (Nat × Option HO)} {acc : List Nat}
    (he : evOp P key ρ (lk hp) o.op = some (r, es, acc)) :
    ∃ nx v w', (execOp val o).run P w = .ok nx w' ∧ (nx = .value v ∨ nx = .skip ∧ v = undef) ∧ Post X hp ν used w key (eff hp es) r v w' := by
  have here : ∀ {v : Value} {r : AV}, RepA w (Mut X.M0 (lk hp) ν) (lk hp) ν used r v → Post X hp ν used w key (eff hp []) r v w := fun h => Post.same hI hk h
  unfold execOp
  generalize o.op = op at he ⊢
  cases op <;> simp only [evOp] at he
  case move x => simp at he; obtain ⟨rfl, rfl, rfl⟩ := he; exact ⟨.value (val x), val x, w, by simp, .inl rfl, here (hρ x)⟩
  case assign x => simp at he; obtain ⟨rfl, rfl, rfl⟩ := he; exact ⟨.value (val x), val x, w, by simp, .inl rfl, here (hρ x)⟩
  case pick c a b =>
    split at he
    · rename_i t ht
      simp at he
      obtain ⟨rfl, rfl, rfl⟩ := he
      have := hρ c
      rw [ht] at this
      generalize hv : val c = vc at this
      cases this with
      | d h =>
        cases h
        refine ⟨.value (if t then val a else val b), _, w, by simp [hv, asBool], .inl rfl, here ?_⟩
        cases t
        · exact hρ b
        · exact hρ a
    · cases he
  case alloc t =>
    split at he
    · rename_i z hz
      split at he
      · rename_i hs
        simp at he
        obtain ⟨rfl, rfl, rfl⟩ := he
        obtain ⟨zv, hzr, _, hrep⟩ := zeroD_run hz
        exact ⟨.value (.pointer (some ⟨w.heap.size, 0, none⟩)), _, _, by simp [run_alloc hzr], .inl rfl, newVar_post hI hk t (.d (hrep w _)) hs⟩
      · cases he
    · cases he
  case box t x =>
    split at he
    · rename_i hs
      simp at he
      obtain ⟨rfl, rfl, rfl⟩ := he
      exact ⟨.value (.pointer (some ⟨w.heap.size, 0, none⟩)), _, _, by simp [run_box], .inl rfl, newVar_post hI hk t (hρ x) hs⟩
    · cases he
  case build t ps =>
    obtain ⟨he', rfl, rfl⟩ := just_some he
    obtain ⟨u, hr, hu⟩ := evBuild_sound (w := w) (vs := (ps.toList.map fun p => (p.1, val p.2))) (by simp) (fun j p q hp hq => by
      simp at hp hq
      obtain ⟨a, b, h1, rfl⟩ := hp
      rw [h1] at hq
      simp at hq
      obtain ⟨_, _, ⟨rfl, rfl⟩, rfl⟩ := hq
      exact ⟨rfl, hρ _⟩) he'
    refine ⟨_, _, _, ?_, .inl rfl, here hu⟩
    have e : ps.map (fun (i, x) => (i, val x)) = ((ps.toList.map fun p => (p.1, val p.2))).toArray := by simp [← Array.toList_map]
    simp only [e, Sem.run_bind, hr, Result.andThen_ok, Sem.run_pure]
  case buildSlice t len ps =>
    obtain ⟨v, w', hr, hp⟩ := evBuildSlice_sound hI hk (vs := (ps.toList.map fun p => (p.1, val p.2))) (by simp) (fun j p q hp hq => by
      simp at hp hq
      obtain ⟨a, b, h1, rfl⟩ := hp
      rw [h1] at hq
      simp at hq
      obtain ⟨_, _, ⟨rfl, rfl⟩, rfl⟩ := hq
      exact ⟨rfl, hρ _⟩) he
    refine ⟨_, _, _, ?_, .inl rfl, hp⟩
    have e : ps.map (fun (i, x) => (i, val x)) = ((ps.toList.map fun p => (p.1, val p.2))).toArray := by simp [← Array.toList_map]
    simp only [e, Sem.run_bind, hr, Result.andThen_ok, Sem.run_pure]
  case load t a =>
    split at he
    · rename_i x acc' hl
      simp at he
      obtain ⟨rfl, rfl, rfl⟩ := he
      obtain ⟨u, hr, hu⟩ := evLoad_sound hI (hρ a) hl
      exact ⟨_, _, _, by simp only [Sem.run_bind, hr, Result.andThen_ok, Sem.run_pure], .inl rfl, here hu⟩
    · cases he
  case store t a x =>
    split at he
    · rename_i es' acc' hs
      simp at he
      obtain ⟨rfl, rfl, rfl⟩ := he
      obtain ⟨w', hr, hp⟩ := evStore_sound hI hk (hρ a) (hρ x) hs
      exact ⟨_, _, _, by simp only [Sem.run_bind, hr, Result.andThen_ok, Sem.run_pure], .inr ⟨rfl, rfl⟩, hp⟩
    · cases he
  case nilCheck x =>
    obtain ⟨he', rfl, rfl⟩ := just_some he
    have hx := hρ x
    have key : ∀ v : Value, val x = v → (match v with | .pointer none | .nilIface | .nilFunc => False | .func (.method _) _ _ => False | _ => True) → (execOp val { o with op := .nilCheck x }).run P w = .ok (.value v) w := by
      intro v hv hok
      unfold execOp
      simp only [hv]
      split <;> simp_all
    unfold evNil at he'
    split at he' <;> first | (cases he'; done) | skip
    all_goals simp at he'; subst he'
    all_goals rename_i heq; rw [heq] at hx; generalize hv : val x = v at hx
    · cases hx with | ref hu h => exact ⟨_, _, _, by simpa [execOp] using key _ hv trivial, .inl rfl, here (.ref hu h)⟩
    · cases hx with | eref hu hi ho h => exact ⟨_, _, _, by simpa [execOp] using key _ hv trivial, .inl rfl, here (.eref hu hi ho h)⟩
    · cases hx with | dref val' hb hM hc h1 h2 => exact ⟨_, _, _, by simpa [execOp] using key _ hv trivial, .inl rfl, here (.dref val' hb hM hc h1 h2)⟩
    · cases hx with | fn hl h => exact ⟨_, _, _, by simpa [execOp] using key _ hv trivial, .inl rfl, here (.fn hl h)⟩
    · cases hx with | d h => cases h; exact ⟨_, _, _, by simpa [execOp] using key _ hv trivial, .inl rfl, here (.d (.fn _))⟩
  case binOp op t x y ty =>
    split at he
    · rename_i r' hq
      obtain ⟨he', rfl, rfl⟩ := just_some he
      cases he'
      obtain ⟨u, hr, hu⟩ := evAgg_sound (P := P) x y (hρ x) (hρ y) hq
      refine ⟨.value u, u, w, ?_, .inl rfl, here hu⟩
      simp only [Sem.run_bind] at hr ⊢
      rw [hr]
      rfl
    · obtain ⟨he', rfl, rfl⟩ := just_some he
      obtain ⟨u, hr, hu⟩ := evBin_sound (P := P) x y (hρ x) (hρ y) he'
      refine ⟨.value u, u, w, ?_, .inl rfl, here hu⟩
      simp only [Sem.run_bind] at hr ⊢
      rw [hr]
      rfl
  case makeMap t r =>
    split at he
    · obtain ⟨v, w', hr, hp⟩ := evMakeMap_sound hI hk he
      exact ⟨_, _, _, by simp only [Option.map_none, Sem.run_bind, hr, Result.andThen_ok, Sem.run_pure], .inl rfl, hp⟩
    · cases he
  case lookup t x i ok =>
    split at he
    · rename_i r' acc' hq
      simp only [Option.some.injEq, Prod.mk.injEq] at he
      obtain ⟨rfl, rfl, rfl⟩ := he
      obtain ⟨v, hr, hp⟩ := evLookup_sound hI (hρ x) (hρ i) hq
      exact ⟨_, _, _, by simp only [Sem.run_bind, hr, Result.andThen_ok, Sem.run_pure], .inl rfl, here hp⟩
    · cases he
  case mapUpdate t m k x =>
    split at he
    · rename_i es' acc' hq
      simp only [Option.some.injEq, Prod.mk.injEq] at he
      obtain ⟨rfl, rfl, rfl⟩ := he
      obtain ⟨w', hr, hp⟩ := evMapUpd_sound hI hk (hρ m) (hρ k) (hρ x) hq
      exact ⟨_, _, _, by simp only [Sem.run_bind, hr, Result.andThen_ok, Sem.run_pure], .inr ⟨rfl, rfl⟩, hp⟩
    · cases he
  case range t x =>
    obtain ⟨v, w', hr, hp⟩ := evRange_sound hI hk (hρ x) he
    exact ⟨_, _, _, by simp only [Sem.run_bind, hr, Result.andThen_ok, Sem.run_pure], .inl rfl, hp⟩
  case entry it =>
    split at he
    · rename_i r' acc' hq
      simp only [Option.some.injEq, Prod.mk.injEq] at he
      obtain ⟨rfl, rfl, rfl⟩ := he
      obtain ⟨v, hr, hp⟩ := evEntry_sound (P := P) hI (hρ it) hq
      exact ⟨_, _, _, by simp only [Sem.run_bind, hr, Result.andThen_ok, Sem.run_pure], .inl rfl, here hp⟩
    · cases he
  case unOp op t x =>
    obtain ⟨he', rfl, rfl⟩ := just_some he
    obtain ⟨u, hr, hu⟩ := evUn_sound (P := P) (hρ x) he'
    exact ⟨_, _, _, by simp only [Sem.run_bind, hr, Result.andThen_ok, Sem.run_pure], .inl rfl, here hu⟩
  case convert s d x =>
    obtain ⟨he', rfl, rfl⟩ := just_some he
    obtain ⟨u, hr, hu⟩ := evConv_sound (P := P) (hρ x) he'
    exact ⟨_, _, _, by simp only [Sem.run_bind, hr, Result.andThen_ok, Sem.run_pure], .inl rfl, here hu⟩
  case makeFunc fn first caps =>
    split at he
    · rename_i f
      split at he
      · rename_i h1 h2
        simp at he
        obtain ⟨rfl, rfl, rfl⟩ := he
        have e1 : first = #[] := by cases first; simp_all
        have e2 : caps = #[] := by cases caps; simp_all
        subst e1; subst e2
        exact ⟨.value (.func (.func f) #[] #[]), _, w, by simp [Instr.makeFunc], .inl rfl, here (.d (.fn f))⟩
      · rename_i c cs h1 h2
        simp only [Option.some.injEq, Prod.mk.injEq] at he
        obtain ⟨rfl, rfl, rfl⟩ := he
        have e1 : first = #[] := by cases first; simp_all
        subst e1
        have e2 : caps = (c :: cs).toArray := by cases caps; simp_all
        subst e2
        refine ⟨.value (.func (.func f) #[] ((c :: cs).toArray.map val)), _, w, by simp [Instr.makeFunc], .inl rfl, here ?_⟩
        have := RepA.fn (w := w) (M := Mut X.M0 (lk hp) ν) (H := lk hp) (ν := ν) (used := used) (f := f) (caps := (c :: cs).map ρ) (cs := (c :: cs).map val) (by simp) (fun i d v hd hv => by
          rw [List.getElem?_map] at hd hv
          cases hq : (c :: cs)[i]? with
          | none => rw [hq] at hd; simp at hd
          | some q => rw [hq] at hd hv; simp at hd hv; subst hd; subst hv; exact hρ q)
        simpa using this
      · cases he
    · cases he
  case makeSlice t l c =>
    obtain ⟨v, w', hr, hp⟩ := evMake_sound hI hk (hρ l) (hρ c) he
    exact ⟨_, _, _, by simp only [Sem.run_bind, hr, Result.andThen_ok, Sem.run_pure], .inl rfl, hp⟩
  case slice t x lo hi mx =>
    have ro : ∀ q : Option Operand, RepOpt w (Mut X.M0 (lk hp) ν) (lk hp) ν used (q.map ρ) (q.map val) := fun q => by
      cases q with
      | none => exact .none
      | some q => exact .some (hρ q)
    split at he
    · rename_i q hq
      cases he
      obtain ⟨v, hr, hp⟩ := evView_sound hI hk (hρ x) (ro lo) (ro hi) (ro mx) hq
      exact ⟨_, _, _, by simp only [Sem.run_bind, hr, Result.andThen_ok, Sem.run_pure], .inl rfl, hp⟩
    · obtain ⟨v, hr, hp⟩ := evSliceO_sound hI hk (hρ x) (ro lo) (ro hi) (ro mx) he
      exact ⟨_, _, _, by simp only [Sem.run_bind, hr, Result.andThen_ok, Sem.run_pure], .inl rfl, hp⟩
  case fieldAddr s x f =>
    obtain ⟨he', rfl, rfl⟩ := just_some he
    obtain ⟨u, hr, hu⟩ := evField_sound (P := P) (hρ x) he'
    exact ⟨_, _, _, by simp only [Sem.run_bind, hr, Result.andThen_ok, Sem.run_pure], .inl rfl, here hu⟩
  case indexAddr t x i =>
    obtain ⟨he', rfl, rfl⟩ := just_some he
    obtain ⟨u, hr, hu⟩ := evIndex_sound (P := P) hI (hρ x) (hρ i) he'
    exact ⟨_, _, _, by simp only [Sem.run_bind, hr, Result.andThen_ok, Sem.run_pure], .inl rfl, here hu⟩
  case extract t i =>
    obtain ⟨he', rfl, rfl⟩ := just_some he
    obtain ⟨u, hr, hu⟩ := evExtract_sound (P := P) (hρ t) he'
    exact ⟨_, _, _, by simp only [Sem.run_bind, hr, Result.andThen_ok, Sem.run_pure], .inl rfl, here hu⟩
  case call c =>
    obtain ⟨cal, args, ts⟩ := c
    cases cal with
    | value f => simp at he
    | invoke r m => simp at he
    | builtin b =>
      simp only at he
      have arr : ∀ {α : Type} {a : Array α} {l : List α}, a.toList = l → a = l.toArray := by intro α a l h; subst h; simp
      cases b <;> simp only [evBuiltin] at he <;> try (cases he; done)
      case len =>
        split at he
        · rename_i x t h1 h2
          obtain rfl := arr h1
          obtain rfl := arr h2
          obtain ⟨he', rfl, rfl⟩ := just_some he
          obtain ⟨u, hr, hu⟩ := evLen_sound (P := P) (ty := o.type) (hρ x) he'
          exact ⟨.value u, u, w, by simp [resolve, invoke, builtin, hr], .inl rfl, here hu⟩
        · cases he
      case min =>
        split at he
        · rename_i x y h1
          obtain rfl := arr h1
          obtain ⟨he', rfl, rfl⟩ := just_some he
          unfold evMin at he'
          split at he'
          · rename_i k a k' b hx hy
            simp at he'
            subst he'
            have rx := hρ x
            have ry := hρ y
            rw [hx] at rx
            rw [hy] at ry
            generalize hvx : val x = vx at rx
            generalize hvy : val y = vy at ry
            cases rx with
            | d rx => cases rx; cases ry with
              | d ry => cases ry; exact ⟨.value (.int k (if b < a then b else a)), _, _, by simp [resolve, invoke, builtin, Builtin.min_, Builtin.min2, hvx, hvy], .inl rfl, here (.d (by constructor))⟩
          · cases he'
        · cases he
      case max =>
        split at he
        · rename_i x y h1
          obtain rfl := arr h1
          obtain ⟨he', rfl, rfl⟩ := just_some he
          unfold evMax at he'
          split at he'
          · rename_i k a k' b hx hy
            simp at he'
            subst he'
            have rx := hρ x
            have ry := hρ y
            rw [hx] at rx
            rw [hy] at ry
            generalize hvx : val x = vx at rx
            generalize hvy : val y = vy at ry
            cases rx with
            | d rx => cases rx; cases ry with
              | d ry => cases ry; exact ⟨.value (.int k (if b > a then b else a)), _, _, by simp [resolve, invoke, builtin, Builtin.max_, Builtin.max2, hvx, hvy], .inl rfl, here (.d (by constructor))⟩
          · cases he'
        · cases he
      case append =>
        split at he
        · rename_i x y t t' h1 h2
          obtain rfl := arr h1
          obtain rfl := arr h2
          split at he
          · rename_i ht
            subst ht
            split at he
            · rename_i sz xs hx
              have rx := hρ x
              rw [hx] at rx
              obtain ⟨v, w', hr, hp⟩ := evAppendClip_sound (ty := o.type) hI hk rx (hρ y) he
              exact ⟨.value v, v, w', by simp [resolve, invoke, builtin, hr], .inl rfl, hp⟩
            · split at he
              · rename_i q hq
                cases he
                obtain ⟨v, w', hr, hp⟩ := evAppendV_sound (ty := o.type) hI hk (hρ x) (hρ y) hq
                exact ⟨.value v, v, w', by simp [resolve, invoke, builtin, hr], .inl rfl, hp⟩
              · obtain ⟨v, w', hr, hp⟩ := evAppend_sound (ty := o.type) hI hk (hρ x) (hρ y) he
                exact ⟨.value v, v, w', by simp [resolve, invoke, builtin, hr], .inl rfl, hp⟩
          · cases he
        · cases he
      case copy =>
        split at he
        · rename_i x y t t' h1 h2
          obtain rfl := arr h1
          obtain rfl := arr h2
          obtain ⟨v, w', hr, hp⟩ := evCopy_sound (t' := t') (ty := o.type) hI hk (hρ x) (hρ y) he
          exact ⟨.value v, v, w', by simp [resolve, invoke, builtin, hr], .inl rfl, hp⟩
        · cases he
  all_goals cases he
end
end Go.Eng

/- The engine, part 30: slices of a variable's array; copy into them. (and what stands behind it: texts laid together) -/
import Derived.Test.YtabfoaoeghikoaaGreatDoorMG1
import Derived.Maps.Keyed
import Derived.Maps.RangeRun
import Derived.Carry
import Derived.DeepKeys5
import Derived.Lib.SliceRun
import Derived.Laws.IdiomStrings
import Derived.Lib.AppendStr
set_option maxHeartbeats 32000000
set_option maxRecDepth 100000
set_option linter.unusedVariables false
set_option linter.unusedSimpArgs false
namespace Go.Eng
open Go.RowKit
def arrT (P : Program) (t : TypeId) : Option (Nat × TypeId) := match P.underlying t with | some (.array n e) => some (n, e) | _ => none
theorem arrT_und {P : Program} {t n e : Nat} (h : arrT P t = some (n, e)) : P.underlying t = some (.array n e) := by
  unfold arrT at h
  split at h
  · rename_i n' e' hu; simp at h; obtain ⟨rfl, rfl⟩ := h; exact hu
  · cases h
def evView (P : Program) (H : Nat → Option HO) (t : TypeId) (x : AV) (lo hi mx : Option AV) : Option (AV × List (Nat × Option HO) × List Nat) :=
  match lo, mx, x with
  | none, none, .ref k off => match arrT P t with
    | some (n, e) => match H k, szT P e, ofInt hi n with
      | some (.var cs), some sz, some h => if sz = 1 ∧ h ≤ n ∧ off + n ≤ cs.length ∧ n ≤ 1000000 then some (.vs k off h, [], [k]) else none
      | _, _, _ => none
    | none => none
  | _, _, _ => none
section
variable {P : Program} {X : Ctx} {hp : Heap} {ν : Nat → Value} {used : Nat → Prop} {w : World} {key : Nat}
theorem run_boundA {i : Int} {k : IntKind} {y : Nat} {code : BoundsCode} (h0 : 0 ≤ i) (h1 : i ≤ y) : (Instr.sliceBound (.int k i) y code).run P w = .ok i.toNat w := by
  simp [Instr.sliceBound, asIntOf, h0, h1]
theorem evView_sound (hI : HInv X (lk hp) ν used w) (hk : ¬ used key) {t : Nat} {x r : AV} {vx : Value} {lo hi mx : Option AV} {vlo vhi vmx : Option Value} {es : List (Nat × Option HO)} {acc : List Nat}
    (hx : RepA w (Mut X.M0 (lk hp) ν) (lk hp) ν used x vx) (hlo : RepOpt w (Mut X.M0 (lk hp) ν) (lk hp) ν used lo vlo) (hhi : RepOpt w (Mut X.M0 (lk hp) ν) (lk hp) ν used hi vhi) (hmx : RepOpt w (Mut X.M0 (lk hp) ν) (lk hp) ν used mx vmx)
    (he : evView P (lk hp) t x lo hi mx = some (r, es, acc)) : ∃ v, (Instr.sliceAt t vx vlo vhi vmx).run P w = .ok v w ∧ Post X hp ν used w key (eff hp es) r v w := by
  unfold evView at he
  split at he
  · rename_i k off
    cases hlo
    cases hmx
    split at he
    · rename_i n e ha
      split at he
      · rename_i cs sz h ho hsz hh
        split at he
        · rename_i hc
          obtain ⟨rfl, hhn, hoff, hmax⟩ := hc
          simp at he
          obtain ⟨rfl, rfl, rfl⟩ := he
          cases hx with
          | ref hu href =>
            rename_i a
            have hb : (Instr.sliceBounds false n n none vhi none).run P w = .ok (0, h, n) w := by
              cases hhi with
              | none => simp [ofInt] at hh; subst hh; simp [Instr.sliceBounds]
              | some hq =>
                simp only [ofInt] at hh
                split at hh
                · split at hh
                  · rename_i h0
                    simp at hh
                    cases hq with
                    | d hq =>
                      cases hq
                      subst hh
                      simp [Instr.sliceBounds, run_boundA (P := P) (w := w) h0 (show _ ≤ (n : Int) by omega)]
                  · cases hh
                · cases hh
            refine ⟨.slice (some a) h n, ?_, ?_⟩
            · simp only [Instr.sliceAt, Sem.run_bind, run_underlying (arrT_und ha), Result.andThen_ok, Instr.sureAddr, Sem.run_pure, hb, run_sizeOf' hsz]
              have : (if n = 0 then a else a.add (0 * 1)) = a := by split <;> simp [Addr.add]
              rw [this]
              rfl
            · refine Post.same hI hk (.vs hu ⟨hhn, by simp only [maxLen]; omega⟩ fun o' ho' => ?_)
              obtain ⟨cs', b, rfl, h2, h3⟩ := href o' ho'
              rw [ho] at ho'
              cases ho'
              exact ⟨_, b, rfl, h2, h3, by omega⟩
        · cases he
      · cases he
    · cases he
  · cases he
def evViewV (P : Program) (H : Nat → Option HO) (t : TypeId) (x : AV) (lo hi mx : Option AV) : Option (AV × List (Nat × Option HO) × List Nat) :=
  match mx, x with
  | none, .vs k off n => match elT P t with
    | some e => match H k, szT P e, ofInt lo 0, ofInt hi n with
      | some (.var cs), some sz, some l, some h => if sz = 1 ∧ l ≤ h ∧ h ≤ n ∧ l < n ∧ off + n ≤ cs.length then some (.vs k (off + l) (h - l), [], [k]) else none
      | _, _, _, _ => none
    | none => none
  | _, _ => none
theorem evViewV_sound (hI : HInv X (lk hp) ν used w) (hk : ¬ used key) {t : Nat} {x r : AV} {vx : Value} {lo hi mx : Option AV} {vlo vhi vmx : Option Value} {es : List (Nat × Option HO)} {acc : List Nat}
    (hx : RepA w (Mut X.M0 (lk hp) ν) (lk hp) ν used x vx) (hlo : RepOpt w (Mut X.M0 (lk hp) ν) (lk hp) ν used lo vlo) (hhi : RepOpt w (Mut X.M0 (lk hp) ν) (lk hp) ν used hi vhi) (hmx : RepOpt w (Mut X.M0 (lk hp) ν) (lk hp) ν used mx vmx)
    (he : evViewV P (lk hp) t x lo hi mx = some (r, es, acc)) : ∃ v, (Instr.sliceAt t vx vlo vhi vmx).run P w = .ok v w ∧ Post X hp ν used w key (eff hp es) r v w := by
  unfold evViewV at he
  split at he
  · rename_i k off n
    cases hmx
    split at he
    · rename_i e hel
      split at he
      · rename_i cs sz l h ho hsz hl hh
        split at he
        · rename_i hc
          obtain ⟨rfl, hlh, hhn, hln, hoff⟩ := hc
          simp only [Option.some.injEq, Prod.mk.injEq] at he
          obtain ⟨rfl, rfl, rfl⟩ := he
          cases hx with
          | vs hu hcc href =>
            rename_i c a
            have hl' : ((match vlo with | some v => Instr.sliceBound v h .sliceB | none => pure 0 : Sem Nat)).run P w = .ok l w := by
              cases hlo with
              | none => simp [ofInt] at hl; subst hl; rfl
              | some hq =>
                simp only [ofInt] at hl
                split at hl
                · split at hl
                  · rename_i h0
                    simp at hl
                    cases hq with
                    | d hq => cases hq; subst hl; exact run_bound h0 (by omega)
                  · cases hl
                · cases hl
            have hi_ok : ((match vhi with | some v => Instr.sliceBound v c .sliceAcap | none => pure n : Sem Nat)).run P w = .ok h w := by
              cases hhi with
              | none => simp [ofInt] at hh; subst hh; rfl
              | some hq =>
                simp only [ofInt] at hh
                split at hh
                · split at hh
                  · rename_i h0
                    simp at hh
                    cases hq with
                    | d hq => cases hq; subst hh; exact run_bound h0 (by omega)
                  · cases hh
                · cases hh
            have hb : (Instr.sliceBounds true n c vlo vhi none).run P w = .ok (l, h, c) w := by
              cases vhi <;> cases vlo <;> simp_all [Instr.sliceBounds]
            refine ⟨.slice (if c = l then some a else (some a).map (·.add (l * 1))) (h - l) (c - l), ?_, ?_⟩
            · rw [elT_notArr hel]
              simp only [Instr.slice, Sem.run_bind, run_underlying (elT_und hel), Result.andThen_ok, hb, run_sizeOf' hsz, Sem.run_pure]
            · rw [if_neg (by omega)]
              refine Post.same hI hk (.vs hu ⟨by omega, by omega⟩ fun o' ho' => ?_)
              obtain ⟨cs', b, rfl, h2, h3, h4⟩ := href o' ho'
              rw [ho] at ho'
              cases ho'
              refine ⟨_, b, rfl, h2, ?_, by omega⟩
              rw [h3, Nat.mul_one]
              exact Addr.add_lit ..
        · cases he
      · cases he
    · cases he
  · cases he
theorem evViewV_local {H H' : Nat → Option HO} {t : TypeId} {x : AV} {lo hi mx : Option AV} {r : AV} {es : List (Nat × Option HO)} {acc : List Nat} (he : evViewV P H t x lo hi mx = some (r, es, acc)) (h : ∀ k ∈ acc, H' k = H k) : evViewV P H' t x lo hi mx = some (r, es, acc) := by
  unfold evViewV at he ⊢
  split at he
  · split at he
    · split at he
      · rename_i cs sz l h' ho hsz hl hh
        split at he
        · rename_i hc
          simp only [Option.some.injEq, Prod.mk.injEq] at he
          obtain ⟨rfl, rfl, rfl⟩ := he
          simp only [h _ (List.mem_singleton.2 rfl), ho, hsz, hl, hh]
          rw [if_pos hc]
        · cases he
      · cases he
    · cases he
  · cases he
theorem var_write (hI : HInv X (lk hp) ν used w) (hk : ¬ used key) {k off b : Nat} {cs : List AV} {e : TypeId} {cells : Array Value} (ho : lk hp k = some (.var cs)) (hν : ν k = .pointer (some ⟨b, 0, none⟩)) (hg : w.heap[b]? = some (.cells cells e (0, 0))) (hlen : cells.size = cs.length)
    (hcell : ∀ c ∈ cs, c.cell = true) (hr : ∀ (i : Nat) av u, cs[i]? = some av → cells[i]? = some u → RepA w (Mut X.M0 (lk hp) ν) (lk hp) ν used av u) {ds : List AV} {us : List Value} (hl : us.length = ds.length) (hle : off + ds.length ≤ cs.length) (hdc : ∀ d ∈ ds, d.cell = true)
    (hd : ∀ (i : Nat) av u, ds[i]? = some av → us[i]? = some u → RepA w (Mut X.M0 (lk hp) ν) (lk hp) ν used av u) :
    ∃ ν', HInv X (lk (put hp k (.var (splice cs off ds)))) ν' (fun q => used q ∨ q = key) (w.setRow b (splice cells.toList off us).toArray) ∧
      Ext (Mut X.M0 (lk hp) ν) (lk hp) ν used w (Mut X.M0 (lk (put hp k (.var (splice cs off ds)))) ν') (lk (put hp k (.var (splice cs off ds)))) ν' (fun q => used q ∨ q = key) (w.setRow b (splice cells.toList off us).toArray) := by
  have hb : hasB (ν k) b := by rw [hν]; exact rfl
  obtain ⟨g1, g2⟩ := hI.write (o' := .var (splice cs off ds)) ho hb (splice cells.toList off us).toArray (by simp only [HO.later]; rw [splice_length _ _ _ hle])
    (fun M' H' hx' => by
      refine ⟨b, _, e, hν, setRow_heap _ _ _ _ _ _ hg, ?_, fun c hc => ?_, fun i av u h1 h2 => ?_⟩
      · simp only [List.size_toArray]
        rw [splice_length _ _ _ (by simp; omega), splice_length _ _ _ hle]
        simpa using hlen
      · unfold splice at hc
        simp at hc
        rcases hc with h | h | h
        · exact hcell c (List.mem_of_mem_take h)
        · exact hdc c h
        · exact hcell c (List.mem_of_mem_drop h)
      · simp only [List.getElem?_toArray] at h2
        rw [splice_get _ _ _ hle] at h1
        rw [splice_get _ _ _ (by simp; omega)] at h2
        rw [hl] at h2
        split at h1
        · rename_i hij
          rw [if_pos hij] at h2
          exact (hd _ _ _ h1 h2).ext hx'
        · rename_i hij
          rw [if_neg hij] at h2
          exact (hr i av u h1 (by simpa using h2)).ext hx')
  obtain ⟨m1, m2⟩ := g1.more hk
  exact ⟨ν, m1, g2.trans m2⟩
def evCopy (P : Program) (H : Nat → Option HO) (t : TypeId) (x y : AV) : Option (AV × List (Nat × Option HO) × List Nat) :=
  match elT P t with
  | some e => match szT P e with
    | some sz => if sz = 1 then match x with
      | .vs k off n => match H k, toD H y with
        | some (.var cs), some (.sl 1 ys, ks) => if off + n ≤ cs.length ∧ ys.all D.flat = true then
            some (.d (.int .i64 ((min ys.length n : Nat) : Int)), [(k, some (.var (splice cs off ((ys.take n).map .d))))], k :: ks) else none
        | _, _ => none
      | _ => none
      else none
    | none => none
  | none => none
theorem flat_cell {d : D} (h : d.flat = true) : d.cell = true := by cases d <;> first | rfl | (simp [D.flat] at h)
theorem evCopy_sound (hI : HInv X (lk hp) ν used w) (hk : ¬ used key) {t t' ty : Nat} {x y r : AV} {vx vy : Value} {es : List (Nat × Option HO)} {acc : List Nat}
    (hx : RepA w (Mut X.M0 (lk hp) ν) (lk hp) ν used x vx) (hy : RepA w (Mut X.M0 (lk hp) ν) (lk hp) ν used y vy)
    (he : evCopy P (lk hp) t x y = some (r, es, acc)) : ∃ v w', (Builtin.copy_ #[t, t'] ty #[vx, vy]).run P w = .ok v w' ∧ Post X hp ν used w key (eff hp es) r v w' := by
  unfold evCopy at he
  split at he
  · rename_i e hel
    split at he
    · rename_i sz hsz
      split at he
      · rename_i h1
        subst h1
        split at he
        · rename_i k off n
          split at he
          · rename_i cs ys ks ho hyd
            split at he
            · rename_i hc
              obtain ⟨hoff, hflat⟩ := hc
              simp only [Option.some.injEq, Prod.mk.injEq] at he
              obtain ⟨rfl, rfl, rfl⟩ := he
              cases hx with
              | vs hu hc h =>
                rename_i c a
                obtain ⟨cs', b, he, hν, ha, _⟩ := h _ ho
                cases he
                obtain ⟨b', cells, e', hv, hg, hlen, hcell, hr⟩ := hI.obj _ _ ho
                rw [hν] at hv
                cases hv
                have hrd := toD_rep hI (M' := fun _ => False) (fun _ h => h.elim) y vy _ ks hy hyd (fun _ _ _ _ h => h)
                have hst : ∀ (us : List Value), us.length ≤ n → (∀ u ∈ us, u.oneCell' = true) → (storeCells a us).run P w = .ok () (w.setRow b (splice cells.toList off us).toArray) := fun us hul huc => by
                  subst ha
                  have := run_storeCells_at P b off e' us 0 cells w hg (by omega) huc
                  simpa [splice] using this
                have key_ : ∀ (us : List Value) (m : Nat), us.length = m → m = min ys.length n → (∀ (i : Nat) d u, ys[i]? = some d → us[i]? = some u → RepD w (fun _ => False) d u) → (Builtin.lenOf vy).run P w = .ok ys.length w → (Builtin.firstCells 1 (min ys.length n) vy).run P w = .ok us.toArray w →
                    ∃ v w', (Builtin.copy_ #[t, t'] ty #[.slice (some a) n c, vy]).run P w = .ok v w' ∧ Post X hp ν used w key (eff hp [(k, some (.var (splice cs off ((ys.take n).map .d))))]) (.d (.int .i64 ((min ys.length n : Nat) : Int))) v w' := fun us m hul hm hus hlo hfc => by
                  have hdl : ((ys.take n).map AV.d).length = m := by simp; omega
                  have hun : us.length ≤ n := by omega
                  have fl : ∀ d ∈ ys, d.flat = true := List.all_eq_true.1 hflat
                  have dv : ∀ (i : Nat) av u, ((ys.take n).map AV.d)[i]? = some av → us[i]? = some u → RepA w (Mut X.M0 (lk hp) ν) (lk hp) ν used av u := fun i av u hi hui => by
                    rw [List.getElem?_map, List.getElem?_take] at hi
                    split at hi
                    · obtain ⟨d, hd, rfl⟩ := Option.map_eq_some_iff.1 hi
                      exact .d ((hus i d u hd hui).flat (fl d (List.mem_of_getElem? hd)))
                    · cases hi
                  have hdc : ∀ d ∈ (ys.take n).map AV.d, d.cell = true := fun d hd => by
                    obtain ⟨z, hz, rfl⟩ := List.mem_map.1 hd
                    exact flat_cell (fl z (List.mem_of_mem_take hz))
                  have huc : ∀ u ∈ us, u.oneCell' = true := fun u hu => by
                    obtain ⟨i, hi⟩ := List.mem_iff_getElem?.1 hu
                    have hil : i < ((ys.take n).map AV.d).length := by rw [hdl, ← hul]; exact (List.getElem?_eq_some_iff.1 hi).1
                    have hd := List.getElem?_eq_getElem hil
                    exact (dv i _ u hd hi).oneCell (hdc _ (List.getElem_mem hil))
                  obtain ⟨ν', m1, m2⟩ := var_write hI hk ho hν hg hlen hcell hr (us := us) (ds := (ys.take n).map AV.d) (off := off) (by rw [hul, hdl]) (by rw [hdl]; omega) hdc dv
                  refine ⟨.int .i64 ((min ys.length n : Nat) : Int), _, ?_, ν', m1, m2, .d (.int _ _)⟩
                  have hfc' : (Builtin.firstCells 1 (Nat.min ys.length n) vy).run P w = .ok us.toArray w := hfc
                  simp only [Builtin.copy_, List.getElem?_toArray, List.getElem?_cons_zero, List.getElem?_cons_succ, Sem.run_bind, run_underlying (elT_und hel), Result.andThen_ok, hlo, run_sizeOf' hsz, hfc', hst us hun huc, goInt, Sem.run_pure]
                cases hrd with
                | sl0 => exact key_ [] 0 rfl (by simp) (fun i d u hd => by simp at hd) rfl (by simp [Builtin.firstCells])
                | sl val hb hM hcc hm hs h1 h2 =>
                  rename_i c' a'
                  have hget : ∀ (i : Nat), i < min ys.length n → ∃ d, ys[i]? = some d ∧ d.comps = [d] := fun i hi => by
                    have hil : i < ys.length := by omega
                    have hd := List.getElem?_eq_getElem hil
                    refine ⟨_, hd, ?_⟩
                    have hf := flat_cell (List.all_eq_true.1 hflat _ (List.getElem_mem hil))
                    generalize ys[i] = d at hf
                    cases d <;> first | rfl | (simp [D.cell] at hf)
                  refine key_ ((List.range (min ys.length n)).map fun i => val i 0) _ (by simp) rfl (fun i d u hd hu => ?_) rfl ?_
                  · obtain ⟨hi, rfl⟩ := range_map_get hu
                    obtain ⟨d', hd', hcp⟩ := hget i hi
                    rw [hd] at hd'
                    cases hd'
                    exact h2 i d 0 d hd (by rw [hcp]; rfl)
                  · refine run_firstCells_some w 1 _ a' _ c' _ (by simp) fun j v hj => ?_
                    obtain ⟨hi, rfl⟩ := range_map_get hj
                    obtain ⟨d', hd', hcp⟩ := hget j hi
                    have := h1 j d' 0 d' hd' (by rw [hcp]; rfl)
                    simpa using this
            · cases he
          · cases he
        · cases he
      · cases he
    · cases he
  · cases he
def evAppendV (P : Program) (H : Nat → Option HO) (t : TypeId) (x y : AV) : Option (AV × List (Nat × Option HO) × List Nat) :=
  match x, y with
  | .own k n, .vs kv off m => match elT P t with
    | some e => match szT P e, byT P e, H k, toD H (.vs kv off m) with
      | some sz, some b, some (.row e' sz' xs), some (.sl s ys, _) => if sz = 1 ∧ s = 1 ∧ zOk P e = true ∧ n = xs.length ∧ e' = e ∧ sz' = 1 ∧ k ≠ kv ∧ ys.all D.flat = true ∧ room (xs.length + ys.length) b then
          some (.own k (xs.length + ys.length), [(k, some (.row e 1 (xs ++ ys)))], [k, kv]) else none
      | _, _, _, _ => none
    | none => none
  | _, _ => none
theorem evAppendV_sound (hI : HInv X (lk hp) ν used w) (hk : ¬ used key) {t ty : TypeId} {x y r : AV} {vx vy : Value} {es : List (Nat × Option HO)} {acc : List Nat}
    (hx : RepA w (Mut X.M0 (lk hp) ν) (lk hp) ν used x vx) (hy : RepA w (Mut X.M0 (lk hp) ν) (lk hp) ν used y vy) (he : evAppendV P (lk hp) t x y = some (r, es, acc)) :
    ∃ v w', (Builtin.append_ #[t, t] ty #[vx, vy]).run P w = .ok v w' ∧ Post X hp ν used w key (eff hp es) r v w' := by
  unfold evAppendV at he
  split at he
  · rename_i k n kv off m
    split at he
    · rename_i e hel
      split at he
      · rename_i sz b e' sz' xs s ys q hsz hb ho hyd
        split at he
        · rename_i hc
          obtain ⟨rfl, rfl, hzo, rfl, rfl, rfl, hne, hflat, hroom⟩ := hc
          simp only [Option.some.injEq, Prod.mk.injEq] at he
          obtain ⟨rfl, rfl, rfl⟩ := he
          have hrd := toD_rep hI (M' := fun _ => False) (fun _ h => h.elim) _ vy _ _ hy hyd (fun _ _ _ _ h => h)
          cases hx with
          | own hu hv hcc ha h =>
            obtain ⟨_, _, _, he, _, hvν⟩ := h _ ho
            cases he
            have hvν := hvν rfl
            obtain ⟨vals, hown, hz, hf, hrow⟩ := hI.obj _ _ ho
            rw [hvν]
            obtain ⟨v', w', news, hr, g1, g2, g3, g4, g5, g6⟩ := run_append_any (P := P) hel hsz hb hz hzo ty hown hrd hroom hI.below.size
            refine ⟨v', w', hr, ?_⟩
            have g4' : RepRow w (Mut X.M0 (lk hp) ν) 1 ys news := fun i x j d hx hd => by
              obtain ⟨u, hu, hru⟩ := g4 i x j d hx hd
              have hfx := List.all_eq_true.1 hflat x (List.mem_of_getElem? hx)
              have hdx : d = x := by
                cases x <;> simp [D.flat] at hfx <;> (cases j <;> simp [D.comps] at hd; exact hd.symm)
              exact ⟨u, hu, hru.flat (hdx ▸ hfx)⟩
            have := row_post (key := key) (k := k) (xs' := xs ++ ys) hI hk (.inr ho) hz (by rw [List.length_append]; exact g1) g2 g5 (fun _ hl => g6 (by simp at hl; exact hl)) (by simp) (hf.append g3) (hrow.append hown.1 hf g4')
            simp only [List.length_append] at this
            exact this
        · cases he
      · cases he
    · cases he
  · cases he
theorem evAppendV_congr {H H' : Nat → Option HO} {t : TypeId} {x y : AV} (h1 : ∀ k n, x = .own k n → H' k = H k) (h2 : ∀ k o n, y = .vs k o n → H' k = H k) : evAppendV P H' t x y = evAppendV P H t x y := by
  unfold evAppendV
  cases x <;> try rfl
  cases y <;> try rfl
  rename_i k n kv off m
  simp only [toD, h1 k n rfl, h2 kv off m rfl]
theorem evAppendV_acc {H : Nat → Option HO} {t : TypeId} {x y r : AV} {es : List (Nat × Option HO)} {acc : List Nat} (he : evAppendV P H t x y = some (r, es, acc)) : (∀ k n, x = .own k n → k ∈ acc) ∧ ∀ k o n, y = .vs k o n → k ∈ acc := by
  unfold evAppendV at he
  split at he
  · split at he
    · split at he
      · split at he
        · simp only [Option.some.injEq, Prod.mk.injEq] at he
          obtain ⟨-, -, rfl⟩ := he
          refine ⟨fun k n e => ?_, fun k o n e => ?_⟩
          · cases e; simp
          · cases e; simp
        · cases he
      · cases he
    · cases he
  · cases he
theorem evAppend_acc {H : Nat → Option HO} {t : TypeId} {x y r : AV} {es : List (Nat × Option HO)} {acc : List Nat} (he : evAppend P key H t x y = some (r, es, acc)) : (∀ k n, x = .own k n → k ∈ acc) ∧ ∀ k o n, y = .vs k o n → k ∈ acc := by
  unfold evAppend at he
  split at he
  · cases he
  · split at he
    · split at he
      · split at he
        · rename_i d ks hd
          have hkv : ∀ k o n, y = .vs k o n → k ∈ ks := fun k o n e => by
            subst e
            simp only [toD] at hd
            split at hd
            · split at hd
              · split at hd
                · simp only [Option.some.injEq, Prod.mk.injEq] at hd
                  obtain ⟨-, rfl⟩ := hd; simp
                · cases hd
              · cases hd
            · cases hd
          split at he
          · split at he
            · split at he
              · split at he
                · split at he
                  · simp only [Option.some.injEq, Prod.mk.injEq] at he
                    obtain ⟨-, -, rfl⟩ := he
                    exact ⟨fun k n e => by cases e; simp, fun k o n e => by simp [hkv k o n e]⟩
                  · cases he
                · cases he
              · cases he
            · split at he
              · split at he
                · simp only [Option.some.injEq, Prod.mk.injEq] at he
                  obtain ⟨-, -, rfl⟩ := he
                  exact ⟨fun k n e => by simp at e, hkv⟩
                · cases he
              · cases he
            · cases he
          · cases he
        · cases he
      · cases he
    · cases he
end
end Go.Eng
set_option linter.unusedVariables false
set_option linter.unusedSimpArgs false
namespace Go.Eng
open Go.RowKit
open Go.Maps (Keyed)
open Go.ChangeMaps (setBlock)
def D.leaf : D → Bool
  | .bool _ | .int .. | .str _ => true
  | _ => false
def D.pure : D → Bool
  | .agg fs => fs.all D.leaf
  | .bool _ | .int .. | .str _ => true
  | _ => false
theorem leaf_det {d : D} (hd : d.leaf = true) {w w' : World} {M M' : Nat → Prop} {v v' : Value} (h : RepD w M d v) (h' : RepD w' M' d v') : v = v' := by
  cases d <;> first | (simp [D.leaf] at hd; done) | (cases h; cases h'; rfl)
theorem leaf_inj {a b : D} (ha : a.leaf = true) (hb : b.leaf = true) {w w' : World} {M M' : Nat → Prop} {v : Value} (h : RepD w M a v) (h' : RepD w' M' b v) : a = b := by
  cases a <;> first | (simp [D.leaf] at ha; done) | skip
  all_goals cases b <;> first | (simp [D.leaf] at hb; done) | skip
  all_goals cases h <;> cases h' <;> rfl
theorem pure_det {d : D} (hd : d.pure = true) {w w' : World} {M M' : Nat → Prop} {v v' : Value} (h : RepD w M d v) (h' : RepD w' M' d v') : v = v' := by
  cases d <;> first | (simp [D.pure] at hd; done) | (cases h; cases h'; rfl) | skip
  rename_i fs
  cases h with
  | agg hl hc hh =>
    rename_i cs
    cases h' with
    | agg hl' hc' hh' =>
      rename_i cs'
      have : cs = cs' := List.ext_getElem? fun i => by
        by_cases hi : i < cs.length
        · have h1 := List.getElem?_eq_getElem (l := fs) (i := i) (by omega)
          have h2 := List.getElem?_eq_getElem hi
          have h3 := List.getElem?_eq_getElem (l := cs') (i := i) (by omega)
          rw [h2, h3, leaf_det (List.all_eq_true.1 hd _ (List.mem_of_getElem? h1)) (hh i _ _ h1 h2) (hh' i _ _ h1 h3)]
        · rw [List.getElem?_eq_none (by omega), List.getElem?_eq_none (by omega)]
      rw [this]
theorem pure_inj {a b : D} (ha : a.pure = true) (hb : b.pure = true) {w w' : World} {M M' : Nat → Prop} {v : Value} (h : RepD w M a v) (h' : RepD w' M' b v) : a = b := by
  cases a <;> first | (simp [D.pure] at ha; done) | skip
  all_goals cases b <;> first | (simp [D.pure] at hb; done) | skip
  all_goals cases h <;> first | (cases h'; done) | (cases h'; rfl) | skip
  rename_i fs fs' cs hl hc hh
  generalize hv : Value.agg cs.toArray = v at h'
  cases h' with
  | agg hl' hc' hh' =>
    rename_i cs'
    have hcs : cs = cs' := by simpa using hv
    subst hcs
    congr 1
    refine List.ext_getElem? fun i => ?_
    by_cases hi : i < fs.length
    · have h1 := List.getElem?_eq_getElem hi
      have h2 := List.getElem?_eq_getElem (l := fs') (i := i) (by omega)
      have h3 := List.getElem?_eq_getElem (l := cs) (i := i) (by omega)
      rw [h1, h2, leaf_inj (List.all_eq_true.1 ha _ (List.mem_of_getElem? h1)) (List.all_eq_true.1 hb _ (List.mem_of_getElem? h2)) (hh i _ _ h1 h3) (hh' i _ _ h2 h3)]
    · rw [List.getElem?_eq_none (by omega), List.getElem?_eq_none (by omega)]
def mapT (P : Program) (t : TypeId) : Option (TypeId × TypeId) := match P.underlying t with | some (.map k e) => some (k, e) | _ => none
theorem mapT_und {P : Program} {t k e : Nat} (h : mapT P t = some (k, e)) : P.underlying t = some (.map k e) := by
  unfold mapT at h
  split at h
  · rename_i k' e' hu; simp at h; obtain ⟨rfl, rfl⟩ := h; exact hu
  · cases h
def KeyD (P : Program) (kt : TypeId) (kd : D) : Prop := kd.pure = true ∧ ∃ v l, (∀ w M, RepD w M kd v) ∧ keyOf P kt v = some l
def MapOk (P : Program) (kt : TypeId) (es : List (D × D)) (kd : D) : Prop := Keyed P kt ∧ KeyD P kt kd ∧ (∀ p ∈ es, KeyD P kt p.1) ∧ (es.map (·.1)).Nodup
open Classical in
noncomputable def mget : List (D × D) → D → Option D
  | [], _ => none
  | (a, b) :: l, k => if a = k then some b else mget l k
open Classical in
noncomputable def mput : List (D × D) → D → D → List (D × D)
  | [], k, v => [(k, v)]
  | (a, b) :: l, k, v => if a = k then (k, v) :: l else (a, b) :: mput l k v
theorem mget_none {es : List (D × D)} {k : D} (h : ∀ p ∈ es, p.1 ≠ k) : mget es k = none := by
  induction es with
  | nil => rfl
  | cons p es ih =>
    obtain ⟨a, b⟩ := p
    simp only [mget]
    rw [if_neg (h (a, b) (by simp)), ih (fun p hp => h p (by simp [hp]))]
theorem mput_none {es : List (D × D)} {k v : D} (h : ∀ p ∈ es, p.1 ≠ k) : mput es k v = es ++ [(k, v)] := by
  induction es with
  | nil => rfl
  | cons p es ih =>
    obtain ⟨a, b⟩ := p
    simp only [mput]
    rw [if_neg (h (a, b) (by simp)), ih (fun p hp => h p (by simp [hp]))]
    rfl
theorem mget_at {es : List (D × D)} (hn : (es.map (·.1)).Nodup) {j : Nat} {k v : D} (h : es[j]? = some (k, v)) : mget es k = some v := by
  induction es generalizing j with
  | nil => simp at h
  | cons p es ih =>
    obtain ⟨a, b⟩ := p
    simp only [List.map_cons, List.nodup_cons] at hn
    simp only [mget]
    cases j with
    | zero => simp at h; obtain ⟨rfl, rfl⟩ := h; rw [if_pos rfl]
    | succ j =>
      have h' : es[j]? = some (k, v) := by simpa using h
      have : a ≠ k := fun e => hn.1 (by rw [e]; exact List.mem_map.2 ⟨_, List.mem_of_getElem? h', rfl⟩)
      rw [if_neg this]
      exact ih hn.2 h'
theorem mput_at {es : List (D × D)} (hn : (es.map (·.1)).Nodup) {j : Nat} {k v v' : D} (h : es[j]? = some (k, v)) : mput es k v' = es.set j (k, v') := by
  induction es generalizing j with
  | nil => simp at h
  | cons p es ih =>
    obtain ⟨a, b⟩ := p
    simp only [List.map_cons, List.nodup_cons] at hn
    simp only [mput]
    cases j with
    | zero => simp at h; obtain ⟨rfl, rfl⟩ := h; rw [if_pos rfl]; rfl
    | succ j =>
      have h' : es[j]? = some (k, v) := by simpa using h
      have : a ≠ k := fun e => hn.1 (by rw [e]; exact List.mem_map.2 ⟨_, List.mem_of_getElem? h', rfl⟩)
      rw [if_neg this, ih hn.2 h']
      rfl
section
variable {P : Program} {X : Ctx} {hp : Heap} {ν : Nat → Value} {used : Nat → Prop} {w : World} {key : Nat}
theorem HInv.turn (hI : HInv X (lk hp) ν used w) {k : Nat} {o o' : HO} (ho : lk hp k = some o) {b : Nat} (hb : hasB (ν k) b) {w1 : World} (h1 : w1 = w ∨ w1 = w.drew) (ob : Obj) (hl : o.later o')
    (hrep : ∀ M' H', Ext (Mut X.M0 (lk hp) ν) (lk hp) ν used w M' H' ν used (setBlock w1 b ob) → RepO X.base (setBlock w1 b ob) M' H' ν used (ν k) o') :
    HInv X (lk (put hp k o')) ν used (setBlock w1 b ob) ∧
    Ext (Mut X.M0 (lk hp) ν) (lk hp) ν used w (Mut X.M0 (lk (put hp k o')) ν) (lk (put hp k o')) ν used (setBlock w1 b ob) := by
  have hM : Mut X.M0 (lk hp) ν b := .inr ⟨k, o, ho, hb⟩
  have hheap : w1.heap = w.heap := by rcases h1 with rfl | rfl <;> rfl
  have hsz : (setBlock w1 b ob).heap.size = w.heap.size := by simp [setBlock, hheap]
  have hoth : ∀ q, q ≠ b → (setBlock w1 b ob).heap[q]? = w.heap[q]? := fun q hq => by
    simp only [setBlock, hheap]
    rw [Array.getElem?_setIfInBounds, if_neg (fun e => hq e.symm)]
  have hx : Ext (Mut X.M0 (lk hp) ν) (lk hp) ν used w (Mut X.M0 (lk (put hp k o')) ν) (lk (put hp k o')) ν used (setBlock w1 b ob) := by
    refine ⟨⟨by rw [hsz]; exact Nat.le_refl _, fun b' _ hM' => hoth _ (fun h => hM' (h ▸ hM))⟩, fun b' _ hM' => ?_, fun q hq => hq, fun q hq o'' ho'' => ?_, ⟨by rw [hsz]; exact Nat.le_refl _, fun b' _ hM' => hoth _ (fun h => hM' (h ▸ ⟨k, o, ho, hb⟩))⟩, fun b' _ hM' => ?_⟩
    · rcases hM' with h | ⟨q, o'', hq, hbq⟩
      · exact .inl h
      · by_cases h : q = k
        · subst h; exact .inr ⟨q, o, ho, hbq⟩
        · rw [lk_put_other _ _ _ _ h] at hq
          exact .inr ⟨q, o'', hq, hbq⟩
    · by_cases h : q = k
      · subst h
        rw [lk_put_same] at ho''
        cases ho''
        exact ⟨o, ho, hl, HO.keeps_of⟩
      · rw [lk_put_other _ _ _ _ h] at ho''
        exact ⟨o'', ho'', HO.later.refl _, HO.keeps_of⟩
    · obtain ⟨q, o'', hq, hbq⟩ := hM'
      by_cases h : q = k
      · subst h; exact ⟨q, o, ho, hbq⟩
      · rw [lk_put_other _ _ _ _ h] at hq
        exact ⟨q, o'', hq, hbq⟩
  have hbk := hI.blk _ _ _ ho hb
  have hbel : Bl X.base w (setBlock w1 b ob) := by
    refine ⟨⟨?_, ?_, ?_, by rw [hsz]; exact Nat.le_refl _, fun q hq => hoth _ (by omega)⟩, ?_⟩
    all_goals rcases h1 with rfl | rfl <;> first | rfl | exact Nat.le_refl _ | exact Nat.le_succ _
  have hν : upd ν k (ν k) = ν := by funext q; by_cases h : q = k <;> simp [upd, h]
  have := hI.step (k := k) (o := o') (v := ν k) (used' := used) (w' := setBlock w1 b ob) hbel (by rw [hν]; exact hx) (hI.usd _ _ ho)
    (fun b' hb' => ⟨(hI.blk _ _ _ ho hb').1, by rw [hsz]; exact (hI.blk _ _ _ ho hb').2, fun q o'' hne hq hbq => hne (hI.inj _ _ _ _ _ hq ho hbq hb'), hI.far _ _ _ ho hb'⟩)
    (fun q o'' b' hne hq hb' => hoth _ (fun h => hne (hI.inj _ _ _ _ _ hq ho (h ▸ hb') hb))) (by rw [hν]; exact hrep _ _ hx)
  rw [hν] at this
  exact ⟨this, hx⟩
theorem setBlock_at {w1 : World} {b : Nat} {ob : Obj} (h : b < w1.heap.size) : (setBlock w1 b ob).heap[b]? = some ob := by
  simp [setBlock, h]
def evMakeMap (P : Program) (key : Nat) (t : TypeId) (r : Bool) : Option (AV × List (Nat × Option HO) × List Nat) :=
  match mapT P t with
  | some (k, e) => if r = false then some (.map key, [(key, some (.map k e []))], []) else none
  | none => none
theorem evMakeMap_sound (hI : HInv X (lk hp) ν used w) (hk : ¬ used key) {t : Nat} {r : AV} {es : List (Nat × Option HO)} {acc : List Nat} (he : evMakeMap P key t false = some (r, es, acc)) :
    ∃ v w', (Instr.makeMap t none).run P w = .ok v w' ∧ Post X hp ν used w key (eff hp es) r v w' := by
  unfold evMakeMap at he
  split at he
  · rename_i k e hm
    simp at he
    obtain ⟨rfl, rfl, rfl⟩ := he
    refine ⟨_, _, run_makeMap t w, ?_⟩
    obtain ⟨g1, g2⟩ := hI.alloc hk (.map #[] 0) (.map k e []) (.map (some w.heap.size)) (fun b hb => (Option.some.inj hb).symm) (fun M' H' ν' used' hx =>
      ⟨w.heap.size, #[], rfl, heap_alloc_new w _, rfl, fun i kd vd en h1 => by simp at h1⟩)
    refine ⟨_, g1, g2, ?_⟩
    refine .map (.inr rfl) fun o ho => ?_
    simp only [eff] at ho
    rw [lk_put_same] at ho
    cases ho
    exact ⟨k, e, [], rfl, by rw [upd_same]⟩
  · cases he
theorem find_run {M : Nat → Prop} {kt : TypeId} {es : List (D × D)} {ents : Array MapEntry} {kd : D} {vk : Value} (hok : MapOk P kt es kd) (hsz : ents.size = es.length)
    (hr : ∀ (i : Nat) kd vd en, es[i]? = some (kd, vd) → ents[i]? = some en → en.born = i ∧ RepD w M kd en.key ∧ RepD w M vd en.val) (hvk : RepD w M kd vk) :
    (∀ (w : World) (em : Bool), (Instr.checkKey em 10000 kt vk).run P w = .ok () w) ∧ (∀ w : World, (Instr.keyThatStays vk vk).run P w = .ok vk w) ∧
    (((Instr.findKey kt vk ents.toList).run P w = .ok none w ∧ ∀ p ∈ es, p.1 ≠ kd) ∨
      ∃ j en vd, (Instr.findKey kt vk ents.toList).run P w = .ok (some (j, en.val)) w ∧ ents[j]? = some en ∧ en.key = vk ∧ es[j]? = some (kd, vd) ∧ RepD w M vd en.val) := by
  obtain ⟨K, ⟨hp1, v0, l0, hv0, hl0⟩, hes, hn⟩ := hok
  have e0 : vk = v0 := pure_det hp1 hvk (hv0 w M)
  subst e0
  refine ⟨fun w em => K.check w em hl0, fun w => K.stays w hl0, ?_⟩
  have hall : ∀ e ∈ ents.toList, ∃ l, keyOf P kt e.key = some l := fun e he => by
    obtain ⟨i, hi⟩ := List.mem_iff_getElem?.1 he
    have hil : i < es.length := by rw [← hsz]; have := (List.getElem?_eq_some_iff.1 hi).1; simpa using this
    have h1 := List.getElem?_eq_getElem hil
    obtain ⟨_, h2, _⟩ := hr i _ _ e h1 (by simpa using hi)
    obtain ⟨hpi, v1, l1, hv1, hl1⟩ := hes _ (List.mem_of_getElem? h1)
    have := pure_det hpi h2 (hv1 w M)
    exact ⟨l1, by rw [this]; exact hl1⟩
  rcases K.find w hl0 ents.toList hall with ⟨h1, h2⟩ | ⟨j, e, h1, h2, h3⟩
  · refine .inl ⟨h1, fun p hp heq => ?_⟩
    obtain ⟨i, hi⟩ := List.mem_iff_getElem?.1 hp
    have hil : i < ents.size := by rw [hsz]; exact (List.getElem?_eq_some_iff.1 hi).1
    have he := Array.getElem?_eq_getElem hil
    obtain ⟨a, b⟩ := p
    simp only at heq
    subst heq
    obtain ⟨_, h4, _⟩ := hr i _ _ _ hi he
    exact h2 _ (by simp) (pure_det hp1 h4 hvk)
  · refine .inr ?_
    have h2' : ents[j]? = some e := by simpa using h2
    have hjl : j < es.length := by rw [← hsz]; exact (Array.getElem?_eq_some_iff.1 h2').1
    have h4 := List.getElem?_eq_getElem hjl
    obtain ⟨_, h5, h6⟩ := hr j _ _ _ h4 h2'
    have hkk : es[j].1 = kd := by
      rw [h3] at h5
      exact pure_inj (hes _ (List.mem_of_getElem? h4)).1 hp1 h5 hvk
    refine ⟨j, e, es[j].2, h1, h2', h3, ?_, h6⟩
    rw [h4, ← hkk]
open Classical in
noncomputable def evLookup (P : Program) (H : Nat → Option HO) (t : TypeId) (x i : AV) (ok : Bool) : Option (AV × List Nat) :=
  match x, i with
  | .map k, .d kd => match H k, mapT P t with
    | some (.map kt et es), some (kt', et') => if kt' = kt ∧ et' = et ∧ MapOk P kt es kd then
        match mget es kd with
        | some vd => some (if ok then .tup [.d vd, .d (.bool true)] else .d vd, [k])
        | none => match zeroD P et with
          | some z => some (if ok then .tup [.d z, .d (.bool false)] else .d z, [k])
          | none => none
      else none
    | _, _ => none
  | _, _ => none
theorem evLookup_sound (hI : HInv X (lk hp) ν used w) {t : Nat} {x i r : AV} {vx vi : Value} {ok : Bool} {acc : List Nat}
    (hx : RepA w (Mut X.M0 (lk hp) ν) (lk hp) ν used x vx) (hi : RepA w (Mut X.M0 (lk hp) ν) (lk hp) ν used i vi) (he : evLookup P (lk hp) t x i ok = some (r, acc)) :
    ∃ v, (Instr.lookup t vx vi ok).run P w = .ok v w ∧ RepA w (Mut X.M0 (lk hp) ν) (lk hp) ν used r v := by
  unfold evLookup at he
  split at he
  · rename_i k kd
    split at he
    · rename_i kt et es kt' et' ho hm
      split at he
      · rename_i hc
        obtain ⟨rfl, rfl, hok⟩ := hc
        cases hx with
        | map hu h =>
          rename_i mr
          cases hi with
          | d hi =>
            obtain ⟨_, _, _, he', hν⟩ := h _ ho
            cases he'
            obtain ⟨r0, ents, hv, hg, hsz, hr⟩ := hI.obj _ _ ho
            rw [hν] at hv
            cases hv
            obtain ⟨c1, c2, c3⟩ := find_run (w := w) hok hsz hr hi
            have tup : ∀ (vd : D) (u : Value) (b : Bool), RepD w (Mut X.M0 (lk hp) ν) vd u → RepA w (Mut X.M0 (lk hp) ν) (lk hp) ν used (if ok then .tup [.d vd, .d (.bool b)] else .d vd) (if ok then .tuple #[u, .bool b] else u) := fun vd u b h => by
              cases ok with
              | false => exact .d h
              | true =>
                simp only [if_true]
                refine RepA.tup (cs := [u, .bool b]) rfl fun i d v h1 h2 => ?_
                match i with
                | 0 => simp at h1 h2; subst h1; subst h2; exact .d h
                | 1 => simp at h1 h2; subst h1; subst h2; exact .d (.bool _)
                | i + 2 => simp at h1
            rcases c3 with ⟨f1, f2⟩ | ⟨j, en, vd, f1, f2, f3, f4, f5⟩
            · rw [mget_none f2] at he
              simp only at he
              split at he
              · rename_i z hz
                simp only [Option.some.injEq, Prod.mk.injEq] at he
                obtain ⟨rfl, rfl⟩ := he
                obtain ⟨zv, hzr, _, hrep⟩ := zeroD_run hz
                refine ⟨_, ?_, tup z zv false (hrep _ _)⟩
                simp only [Instr.lookup, Sem.run_bind, run_underlying (mapT_und hm), Result.andThen_ok, Go.MapKept.run_getObj_map hg, Sem.run_pure, c1, f1, hzr]
              · cases he
            · rw [mget_at hok.2.2.2 f4] at he
              simp only [Option.some.injEq, Prod.mk.injEq] at he
              obtain ⟨rfl, rfl⟩ := he
              refine ⟨_, ?_, tup vd en.val true f5⟩
              simp only [Instr.lookup, Sem.run_bind, run_underlying (mapT_und hm), Result.andThen_ok, Go.MapKept.run_getObj_map hg, Sem.run_pure, c1, f1]
      · cases he
    · cases he
  · cases he
open Classical in
noncomputable def evMapUpd (P : Program) (H : Nat → Option HO) (t : TypeId) (x i y : AV) : Option (List (Nat × Option HO) × List Nat) :=
  match x, i, y with
  | .map k, .d kd, .d vd => match H k, mapT P t with
    | some (.map kt et es), some (kt', et') => if kt' = kt ∧ et' = et ∧ MapOk P kt es kd then some ([(k, some (.map kt et (mput es kd vd)))], [k]) else none
    | _, _ => none
  | _, _, _ => none
theorem evMapUpd_sound (hI : HInv X (lk hp) ν used w) (hk : ¬ used key) {t : Nat} {x i y : AV} {vx vi vy : Value} {es : List (Nat × Option HO)} {acc : List Nat}
    (hx : RepA w (Mut X.M0 (lk hp) ν) (lk hp) ν used x vx) (hi : RepA w (Mut X.M0 (lk hp) ν) (lk hp) ν used i vi) (hy : RepA w (Mut X.M0 (lk hp) ν) (lk hp) ν used y vy) (he : evMapUpd P (lk hp) t x i y = some (es, acc)) :
    ∃ w', (Instr.mapUpdate t vx vi vy).run P w = .ok () w' ∧ Post X hp ν used w key (eff hp es) .undef undef w' := by
  unfold evMapUpd at he
  split at he
  · rename_i k kd vd
    split at he
    · rename_i kt et ms kt' et' ho hm
      split at he
      · rename_i hc
        obtain ⟨rfl, rfl, hok⟩ := hc
        simp only [Option.some.injEq, Prod.mk.injEq] at he
        obtain ⟨rfl, rfl⟩ := he
        cases hx with
        | map hu h =>
          rename_i mr
          cases hi with
          | d hi =>
            cases hy with
            | d hy =>
              obtain ⟨_, _, _, he', hν⟩ := h _ ho
              cases he'
              obtain ⟨r0, ents, hv, hg, hsz, hr⟩ := hI.obj _ _ ho
              rw [hν] at hv
              cases hv
              have hbk : hasB (ν k) mr := by rw [hν]; exact rfl
              have hlt := (hI.blk _ _ _ ho hbk).2
              obtain ⟨c1, c2, c3⟩ := find_run (w := w) hok hsz hr hi
              have fin : ∀ (ents' : Array MapEntry), ents'.size = (mput ms kd vd).length → (∀ (i : Nat) kd' vd' en, (mput ms kd vd)[i]? = some (kd', vd') → ents'[i]? = some en → en.born = i ∧ RepD w (Mut X.M0 (lk hp) ν) kd' en.key ∧ RepD w (Mut X.M0 (lk hp) ν) vd' en.val) →
                  Post X hp ν used w key (eff hp [(k, some (.map kt' et' (mput ms kd vd)))]) .undef undef (setBlock w mr (.map ents' (mput ms kd vd).length)) := fun ents' hs hrr => by
                obtain ⟨g1, g2⟩ := hI.turn (o' := .map kt' et' (mput ms kd vd)) ho hbk (.inl rfl) (.map ents' (mput ms kd vd).length) ⟨rfl, rfl⟩ (fun M' H' hx' =>
                  ⟨mr, ents', hν, setBlock_at hlt, hs, fun i kd' vd' en h1 h2 => let ⟨a, b, c⟩ := hrr i kd' vd' en h1 h2; ⟨a, b.mono hx'.same hx'.shrink, c.mono hx'.same hx'.shrink⟩⟩)
                obtain ⟨m1, m2⟩ := g1.more hk
                exact ⟨ν, m1, g2.trans m2, .undef _⟩
              rcases c3 with ⟨f1, f2⟩ | ⟨j, en, vd0, f1, f2, f3, f4, f5⟩
              · have hp2 := mput_none (v := vd) f2
                have hlen : (mput ms kd vd).length = ms.length + 1 := by rw [hp2]; simp
                refine ⟨_, ?_, fin (ents.push { key := vi, val := vy, born := ms.length }) (by rw [hlen]; simp [hsz]) (fun i kd' vd' en h1 h2 => ?_)⟩
                · simp only [Instr.mapUpdate, Sem.run_bind, run_underlying (mapT_und hm), Result.andThen_ok, Go.MapKept.run_getObj_map hg, Sem.run_pure, c1, f1, Go.MapKept.run_setObj_map _ hg, hlen]
                  rfl
                · rw [hp2] at h1
                  by_cases hil : i < ms.length
                  · rw [List.getElem?_append_left hil] at h1
                    rw [Array.getElem?_push, if_neg (by omega)] at h2
                    exact hr i _ _ _ h1 h2
                  · rw [List.getElem?_append_right (by omega)] at h1
                    have : i = ms.length := by
                      have := (List.getElem?_eq_some_iff.1 h1).1
                      simp at this
                      omega
                    subst this
                    simp at h1
                    obtain ⟨rfl, rfl⟩ := h1
                    rw [Array.getElem?_push, if_pos hsz.symm] at h2
                    cases h2
                    exact ⟨rfl, hi, hy⟩
              · have hp2 := mput_at hok.2.2.2 (v' := vd) f4
                have hlen : (mput ms kd vd).length = ms.length := by rw [hp2]; simp
                have hjl : j < ents.size := (Array.getElem?_eq_some_iff.1 f2).1
                refine ⟨_, ?_, fin (ents.modify j fun e => { e with key := vi, val := vy }) (by rw [hlen]; simp [hsz]) (fun i kd' vd' en' h1 h2 => ?_)⟩
                · have hkey : ((ents[j]?).map (·.key)).getD vi = vi := by rw [f2]; simp [f3]
                  simp only [Instr.mapUpdate, Sem.run_bind, run_underlying (mapT_und hm), Result.andThen_ok, Go.MapKept.run_getObj_map hg, Sem.run_pure, c1, f1, hkey, c2, Go.MapKept.run_setObj_map _ hg, hlen]
                  rfl
                · rw [hp2] at h1
                  rw [Array.getElem?_modify] at h2
                  by_cases hij : i = j
                  · subst hij
                    rw [if_pos rfl, f2] at h2
                    simp at h2
                    rw [List.getElem?_set_self (by omega)] at h1
                    cases h1
                    subst h2
                    exact ⟨(hr i _ _ _ f4 f2).1, hi, hy⟩
                  · rw [if_neg (fun e => hij e.symm)] at h2
                    rw [List.getElem?_set_ne (fun e => hij e.symm)] at h1
                    exact hr i _ _ _ h1 h2
      · cases he
    · cases he
  · cases he
def evRange (key : Nat) (P : Program) (H : Nat → Option HO) (t : TypeId) (x : AV) : Option (AV × List (Nat × Option HO) × List Nat) :=
  match x with
  | .map k => match H k, mapT P t with
    | some (.map kt et es), some _ => some (.it key, [(key, some (.iter k es.length []))], [k])
    | _, _ => none
  | _ => none
theorem evRange_sound (hI : HInv X (lk hp) ν used w) (hk : ¬ used key) {t : Nat} {x r : AV} {vx : Value} {es : List (Nat × Option HO)} {acc : List Nat}
    (hx : RepA w (Mut X.M0 (lk hp) ν) (lk hp) ν used x vx) (he : evRange key P (lk hp) t x = some (r, es, acc)) :
    ∃ v w', (Instr.range t vx).run P w = .ok v w' ∧ Post X hp ν used w key (eff hp es) r v w' := by
  unfold evRange at he
  split at he
  · rename_i k
    split at he
    · rename_i kt et ms p ho hm
      obtain ⟨kt', et'⟩ := p
      simp only [Option.some.injEq, Prod.mk.injEq] at he
      obtain ⟨rfl, rfl, rfl⟩ := he
      cases hx with
      | map hu h =>
        rename_i mr
        obtain ⟨_, _, _, he', hν⟩ := h _ ho
        cases he'
        obtain ⟨r0, ents, hv, hg, hsz, hr⟩ := hI.obj _ _ ho
        rw [hν] at hv
        cases hv
        refine ⟨.pointer (some ⟨w.heap.size, 0, none⟩), w.alloc (.mapIter (some mr) ms.length #[] ms.length), ?_, ?_⟩
        · simp only [Instr.range, Sem.run_bind, run_underlying (mapT_und hm), Result.andThen_ok, Go.MapKept.run_getObj_map hg, Sem.run_pure, run_newObj_alloc]
        · obtain ⟨g1, g2⟩ := hI.alloc hk (.mapIter (some mr) ms.length #[] ms.length) (.iter k ms.length []) (.pointer (some ⟨w.heap.size, 0, none⟩)) (fun b hb => (Option.some.inj hb).symm) (fun M' H' ν' used' hx' =>
            ⟨w.heap.size, mr, rfl, heap_alloc_new w _, hx'.usd _ hu, fun o' ho' => by
              obtain ⟨o, ho2, hl, hst⟩ := hx'.obj _ hu o' ho'
              rw [ho] at ho2
              cases ho2
              cases o' with
              | map kt'' et'' es'' => exact ⟨_, _, es'', rfl, by rw [show _ = _ from hst]; exact hν⟩
              | row _ _ _ => exact hl.elim
              | var _ => exact hl.elim
              | iter _ _ _ => exact hl.elim
              | tab _ _ _ => exact hl.elim
              | loop _ _ _ => exact hl.elim⟩)
          refine ⟨_, g1, g2, ?_⟩
          refine .it (.inr rfl) fun o ho' => ?_
          simp only [eff] at ho'
          rw [lk_put_same] at ho'
          cases ho'
          exact ⟨_, _, _, w.heap.size, rfl, by rw [upd_same], rfl⟩
    · cases he
  · cases he
def evEntry (H : Nat → Option HO) (x : AV) : Option (AV × List Nat) :=
  match x with
  | .it k => match H k with
    | some (.iter m c seen) => match H m, seen.getLast? with
      | some (.map kt et es), some i => if es.length = c then match es[i]? with
          | some (kd, vd) => some (.tup [.d kd, .d vd], [k, m])
          | none => none
        else none
      | _, _ => none
    | _ => none
  | _ => none
theorem evEntry_sound (hI : HInv X (lk hp) ν used w) {x r : AV} {vx : Value} {acc : List Nat}
    (hx : RepA w (Mut X.M0 (lk hp) ν) (lk hp) ν used x vx) (he : evEntry (lk hp) x = some (r, acc)) :
    ∃ v, (Instr.entry vx).run P w = .ok v w ∧ RepA w (Mut X.M0 (lk hp) ν) (lk hp) ν used r v := by
  unfold evEntry at he
  split at he
  · rename_i k
    split at he
    · rename_i m c seen ho
      split at he
      · rename_i kt et es i hm hlast
        split at he
        · rename_i hc
          subst hc
          split at he
          · rename_i kd vd hi
            simp only [Option.some.injEq, Prod.mk.injEq] at he
            obtain ⟨rfl, rfl⟩ := he
            cases hx with
            | it hu h =>
              obtain ⟨_, _, _, b, he', hν, ha⟩ := h _ ho
              cases he'
              subst ha
              obtain ⟨b', mr, hv, hg, hum, hmm⟩ := hI.obj _ _ ho
              rw [hν] at hv
              cases hv
              obtain ⟨_, _, _, he2, hνm⟩ := hmm _ hm
              cases he2
              obtain ⟨r0, ents, hv2, hg2, hsz, hr⟩ := hI.obj _ _ hm
              rw [hνm] at hv2
              cases hv2
              have hil : i < ents.size := by rw [hsz]; exact (List.getElem?_eq_some_iff.1 hi).1
              have hen := Array.getElem?_eq_getElem hil
              obtain ⟨h1, h2, h3⟩ := hr i _ _ _ hi hen
              have hne : seen ≠ [] := fun e => by rw [e] at hlast; simp at hlast
              have hseen : seen.toArray = (seen.dropLast.toArray).push (ents[i]).born := by
                have : seen.getLast hne = i := by
                  rw [List.getLast?_eq_some_getLast hne] at hlast
                  simpa using hlast
                conv => lhs; rw [← List.dropLast_concat_getLast hne, this]
                rw [h1]
                simp
              have hnd : (ents.toList.map (·.born)).Nodup := by
                have : ents.toList.map (·.born) = List.range ents.size := List.ext_getElem? fun j => by
                  by_cases hj : j < ents.size
                  · have hj' := List.getElem?_eq_getElem (l := es) (i := j) (by omega)
                    have hje := Array.getElem?_eq_getElem hj
                    rw [List.getElem?_map, List.getElem?_range hj]
                    simp only [Array.getElem?_toList, hje, Option.map_some, Option.some.injEq]
                    exact (hr j _ _ _ hj' hje).1
                  · rw [List.getElem?_eq_none (by simp; omega), List.getElem?_eq_none (by simp; omega)]
                rw [this]
                exact List.nodup_range
              rw [hseen] at hg
              refine ⟨_, run_entry_at w b mr _ _ ents _ ents[i] hg hg2 (by simp) hnd, ?_⟩
              refine RepA.tup (cs := [_, _]) rfl fun q d v q1 q2 => ?_
              match q with
              | 0 => simp at q1 q2; subst q1; subst q2; exact .d h2
              | 1 => simp at q1 q2; subst q1; subst q2; exact .d h3
              | q + 2 => simp at q1
          · cases he
        · cases he
      · cases he
    · cases he
  · cases he
end
end Go.Eng
set_option linter.unusedVariables false
set_option linter.unusedSimpArgs false
namespace Go.Eng
open Go.RowKit
open Go.Maps (Keyed)
def AggOk (P : Program) (t : TypeId) : Prop := Keyed P t ∧ (∃ d, P.underlying t = some d ∧ ((∃ fs, d = .struct fs) ∨ ∃ n e, d = .array n e)) ∧ P.eqGuardType P.depth t = false
noncomputable def same {α : Type} (a b : α) : Bool := @decide (a = b) (Classical.propDecidable _)
theorem same_t {α : Type} {a b : α} (h : a = b) : same a b = true := @decide_eq_true _ (Classical.propDecidable _) h
theorem same_f {α : Type} {a b : α} (h : a ≠ b) : same a b = false := @decide_eq_false _ (Classical.propDecidable _) h
open Classical in
noncomputable def evAgg (P : Program) (t : TypeId) (op : BinOp) (x y : AV) : Option AV :=
  match x, y with
  | .d (.agg a), .d (.agg b) => if AggOk P t ∧ KeyD P t (.agg a) ∧ KeyD P t (.agg b) then
      match op with
      | .eql => some (.d (.bool (same a b)))
      | .neq => some (.d (.bool (!same a b)))
      | _ => none
    else none
  | _, _ => none
section
variable {P : Program} {w : World}
theorem equal_keyed {t : TypeId} {d : TypeDesc} (K : Keyed P t) (hd : P.underlying t = some d) (hw : (∃ fs, d = .struct fs) ∨ ∃ n e, d = .array n e) {x y : Value} {lx ly : Lit} (hx : keyOf P t x = some lx) (hy : keyOf P t y = some ly) :
    (Op.equal t x y).run P w = .ok (same x y) w := by
  have hf : (Instr.findKey t x [⟨y, undef, 0⟩]).run P w = (Instr.findAsking t x [⟨y, undef, 0⟩]).run P w := by
    have hn : Instr.findNow d x [⟨y, undef, 0⟩] 0 = none := by
      rcases hw with ⟨fs, rfl⟩ | ⟨n, e, rfl⟩ <;> simp [Instr.findNow, Instr.sameNow]
    simp only [Instr.findKey, Sem.run_bind, run_underlying hd, Result.andThen_ok, hn]
  rcases K.find w hx [⟨y, undef, 0⟩] (fun e he => by simp at he; subst he; exact ⟨ly, hy⟩) with ⟨h1, h2⟩ | ⟨j, e, h1, h2, h3⟩
  · rw [hf] at h1
    have hne : x ≠ y := fun e => h2 ⟨y, undef, 0⟩ (List.mem_singleton.2 rfl) e.symm
    simp only [Instr.findAsking, Sem.run_bind] at h1
    cases hq : (Op.equal t x y).run P w with
    | halt _ _ => rw [hq] at h1; simp [Result.andThen] at h1
    | ok b w1 =>
      rw [hq] at h1
      simp only [Result.andThen_ok] at h1
      cases b with
      | true => simp at h1
      | false =>
        simp at h1
        rw [same_f hne, h1]
  · rw [hf] at h1
    have hj : j = 0 := by
      have := (List.getElem?_eq_some_iff.1 h2).1
      simp at this
      exact this
    subst hj
    simp at h2
    subst h2
    simp only at h3
    simp only [Instr.findAsking, Sem.run_bind] at h1
    cases hq : (Op.equal t x y).run P w with
    | halt _ _ => rw [hq] at h1; simp [Result.andThen] at h1
    | ok b w1 =>
      rw [hq] at h1
      simp only [Result.andThen_ok] at h1
      cases b with
      | false => simp at h1
      | true =>
        simp at h1
        rw [same_t h3.symm, h1]
theorem evAgg_sound {M : Nat → Prop} {H : Nat → Option HO} {ν : Nat → Value} {used : Nat → Prop} {t : TypeId} {op : BinOp} {x y : AV} {v1 v2 : Value} {r : AV} (ox oy : Operand) (h1 : RepA w M H ν used x v1) (h2 : RepA w M H ν used y v2) (he : evAgg P t op x y = some r) :
    ∃ v, (do eqGuard op t ox oy v1 v2; binOp op t v1 v2 : Sem Value).run P w = .ok v w ∧ RepA w M H ν used r v := by
  unfold evAgg at he
  split at he
  · rename_i a b
    split at he
    · rename_i hc
      obtain ⟨⟨K, ⟨d, hd, hw⟩, hgt⟩, ⟨hpa, va, la, hva, hla⟩, ⟨hpb, vb, lb, hvb, hlb⟩⟩ := hc
      cases h1 with
      | d h1 =>
        cases h2 with
        | d h2 =>
          have e1 := pure_det hpa h1 (hva w M)
          have e2 := pure_det hpb h2 (hvb w M)
          subst e1; subst e2
          have heq := equal_keyed (w := w) K hd hw hla hlb
          have hiff : (v1 = v2) ↔ (a = b) := by
            constructor
            · intro e
              subst e
              have := pure_inj hpa hpb h1 h2
              simpa using this
            · intro e
              subst e
              exact pure_det hpa h1 h2
          have hdec : same v1 v2 = same a b := by
            by_cases e : a = b
            · rw [same_t e, same_t (hiff.2 e)]
            · rw [same_f e, same_f (fun h => e (hiff.1 h))]
          cases h1 with
          | agg hl1 hc1 hh1 =>
            cases h2 with
            | agg hl2 hc2 hh2 =>
              rename_i cs1 cs2
              have hg : (eqGuard op t ox oy (.agg cs1.toArray) (.agg cs2.toArray)).run P w = .ok () w := by
                unfold eqGuard
                cases op <;> simp [hgt]
              split at he
              · cases he
                refine ⟨_, ?_, .d (.bool _)⟩
                simp only [Sem.run_bind, hg, Result.andThen_ok, binOp, heq, Sem.run_pure, hdec]
              · cases he
                refine ⟨_, ?_, .d (.bool _)⟩
                simp only [Sem.run_bind, hg, Result.andThen_ok, binOp, heq, Sem.run_pure, hdec]
              · cases he
    · cases he
  · cases he
end
end Go.Eng
set_option linter.unusedVariables false
set_option linter.unusedSimpArgs false
namespace Go.Eng
open Go.RowKit
theorem HInv.bulk {X : Ctx} {hp hp' : Heap} {ν ν' : Nat → Value} {used used' : Nat → Prop} {w w' : World} (hI : HInv X (lk hp) ν used w) (C : Nat → Prop)
    (hsame : ∀ j o, ¬ C j → lk hp' j = some o → lk hp j = some o) (hν : ∀ j, ¬ C j → ν' j = ν j) (hbel : Bl X.base w w')
    (hx : Ext (Mut X.M0 (lk hp) ν) (lk hp) ν used w (Mut X.M0 (lk hp') ν') (lk hp') ν' used' w')
    (husd : ∀ j o, C j → lk hp' j = some o → used' j)
    (hnew : ∀ j o b, C j → lk hp' j = some o → hasB (ν' j) b → X.base ≤ b ∧ b < w'.heap.size ∧ ¬ X.M0 b ∧ ∀ j' o', lk hp' j' = some o' → hasB (ν' j') b → j' = j)
    (hold : ∀ j o b, ¬ C j → lk hp' j = some o → hasB (ν j) b → w'.heap[b]? = w.heap[b]?)
    (hrep : ∀ j o, C j → lk hp' j = some o → RepO X.base w' (Mut X.M0 (lk hp') ν') (lk hp') ν' used' (ν' j) o) : HInv X (lk hp') ν' used' w' := by
  refine ⟨hI.below.trans hbel, fun b hb => Nat.lt_of_lt_of_le (hI.M0 b hb) hbel.size, fun j o b hj hb => ?_, fun j o hj => ?_, fun j o b hj hb => ?_, fun j j' o o' b hj hj' hb hb' => ?_, fun j o hj => ?_⟩
  · by_cases h : C j
    · exact (hnew j o b h hj hb).2.2.1
    · rw [hν j h] at hb; exact hI.far _ _ _ (hsame j o h hj) hb
  · by_cases h : C j
    · exact husd j o h hj
    · exact hx.usd _ (hI.usd _ _ (hsame j o h hj))
  · by_cases h : C j
    · exact ⟨(hnew j o b h hj hb).1, (hnew j o b h hj hb).2.1⟩
    · rw [hν j h] at hb
      have := hI.blk _ _ _ (hsame j o h hj) hb
      exact ⟨this.1, Nat.lt_of_lt_of_le this.2 hbel.size⟩
  · by_cases h : C j
    · exact ((hnew j o b h hj hb).2.2.2 j' o' hj' hb').symm
    · by_cases h' : C j'
      · exact (hnew j' o' b h' hj' hb').2.2.2 j o hj hb
      · rw [hν j h] at hb
        rw [hν j' h'] at hb'
        exact hI.inj _ _ _ _ _ (hsame j o h hj) (hsame j' o' h' hj') hb hb'
  · by_cases h : C j
    · exact hrep j o h hj
    · rw [hν j h]
      exact (hI.obj _ _ (hsame j o h hj)).ext hx (fun b hb => hold j o b h hj hb)
theorem Ext.bulk {M0 : Nat → Prop} {hp hp' : Heap} {ν ν' : Nat → Value} {used used' : Nat → Prop} {w w' : World} (C : Nat → Prop)
    (hsame : ∀ j o, ¬ C j → lk hp' j = some o → lk hp j = some o) (hν : ∀ j, ¬ C j → ν' j = ν j)
    (hw : w.heap.size ≤ w'.heap.size) (hb : ∀ b, b < w.heap.size → ¬ Own (lk hp) ν b → w'.heap[b]? = w.heap[b]?) (hu : ∀ q, used q → used' q)
    (hv : ∀ j o b, C j → lk hp' j = some o → hasB (ν' j) b → b < w.heap.size → Own (lk hp) ν b)
    (hl : ∀ j o', C j → used j → lk hp' j = some o' → ∃ o, lk hp j = some o ∧ o.later o' ∧ o.keeps o' (ν j) (ν' j)) :
    Ext (Mut M0 (lk hp) ν) (lk hp) ν used w (Mut M0 (lk hp') ν') (lk hp') ν' used' w' := by
  have hO : ∀ b, b < w.heap.size → Own (lk hp') ν' b → Own (lk hp) ν b := fun b hb' ⟨j, o, hj, hbj⟩ => by
    by_cases h : C j
    · exact hv j o b h hj hbj hb'
    · rw [hν j h] at hbj; exact ⟨j, o, hsame j o h hj, hbj⟩
  refine ⟨⟨hw, fun b hb' hM => hb b hb' (fun h => hM (.inr h))⟩, fun b hb' hM => ?_, hu, fun j hj o' ho' => ?_, ⟨hw, hb⟩, hO⟩
  · rcases hM with h | h
    · exact .inl h
    · exact .inr (hO b hb' h)
  · by_cases h : C j
    · exact hl j o' h hj ho'
    · exact ⟨o', hsame j o' h ho', HO.later.refl _, HO.keeps_eq (hν j h)⟩
def tset (v : Value) (i : Nat) (u : Value) : Value := match v with
  | .tuple vs => .tuple (vs.setIfInBounds i u)
  | v => v
theorem vnth_tset {vs : Array Value} {i j : Nat} {u : Value} (hi : i < vs.size) : vnth (tset (.tuple vs) i u) j = if j = i then u else vnth (.tuple vs) j := by
  simp only [tset, vnth, Array.getD_eq_getD_getElem?, Array.getElem?_setIfInBounds]
  by_cases h : j = i
  · subst h; simp [hi]
  · rw [if_neg (fun e => h e.symm), if_neg h]
theorem tset_self {vs : Array Value} {i : Nat} : tset (.tuple vs) i (vnth (.tuple vs) i) = .tuple vs := by
  simp only [tset, vnth]
  congr 1
  apply Array.ext_getElem?
  intro j
  rw [Array.getElem?_setIfInBounds]
  split
  · rename_i h
    subst h
    split
    · rename_i h; simp [Array.getD_eq_getD_getElem?, h]
    · rename_i h; simp at h; simp [h]
  · rfl
theorem idx_inj {so i i' j j' : Nat} (hj : j < so) (hj' : j' < so) (h : i * so + j = i' * so + j') : i = i' ∧ j = j' := by
  rcases Nat.lt_trichotomy i i' with h1 | h1 | h1
  · have : (i + 1) * so ≤ i' * so := Nat.mul_le_mul_right _ h1
    rw [Nat.add_mul] at this
    omega
  · subst h1; exact ⟨rfl, by omega⟩
  · have : (i' + 1) * so ≤ i * so := Nat.mul_le_mul_right _ h1
    rw [Nat.add_mul] at this
    omega
def D.put (y : D) (off : Nat) (d : D) : D := match y with
  | .agg fs => .agg (fs.set off d)
  | _ => d
theorem D.comps_one {d : D} (h : d.cell = true) : d.comps = [d] := by cases d <;> first | rfl | (simp [D.cell] at h)
theorem D.put_comps {y d : D} {off : Nat} (hd : d.cell = true) (ho : off < y.comps.length) : (y.put off d).comps = y.comps.set off d := by
  have h1 := D.comps_one hd
  cases y
  case agg => rfl
  all_goals
    have : off = 0 := by simpa [D.comps] using ho
    subst this
    simp only [D.put]
    rw [h1]
    rfl
theorem Tb.inn_of {T : Tb} {r : D} {z : Nat} {xs : List D} (h : r.comps[T.off]? = some (.sl z xs)) : T.inn r = xs := by simp [Tb.inn, h]
theorem Tb.ilen_at {T : Tb} {rows : List D} {i : Nat} {r : D} (h : rows[i]? = some r) : T.ilen rows i = (T.inn r).length := by simp [Tb.ilen, List.getD_eq_getElem?_getD, h]
theorem Tb.ilen_set {T : Tb} {rows : List D} {i j : Nat} {r : D} (h : i < rows.length) : T.ilen (rows.set i r) j = if j = i then (T.inn r).length else T.ilen rows j := by
  unfold Tb.ilen
  simp only [List.getD_eq_getElem?_getD, List.getElem?_set]
  by_cases e : j = i
  · subst e; simp [h]
  · rw [if_neg (fun x => e x.symm), if_neg e]
def TRow (base : Nat) (w : World) (M : Nat → Prop) (v : Value) (T : Tb) (vals : List Value) (q : Option Nat) (i : Nat) (r : D) : Prop :=
  (r.comps[T.off]? = some (.sl T.si (T.inn r)) ∧ Flat T.si (T.inn r)) ∧
    (q ≠ some i → vals[i * T.so + T.off]? = some (vnth v (i + 1)) ∧ ∃ vs, Owns w base T.ei T.si (vnth v (i + 1)) (T.inn r).length vs ∧ RepRow w M T.si (T.inn r) vs) ∧
    (q = some i → blockOf (vnth v (i + 1)) = none) ∧
    ∀ (j : Nat) d, j ≠ T.off → r.comps[j]? = some d → ∃ u, vals[i * T.so + j]? = some u ∧ RepD w M d u
theorem RepT.upd {base : Nat} {w w' : World} {M M' : Nat → Prop} {v : Value} {T : Tb} {rows : List D} {q : Option Nat} {i : Nat} {r : D} {u : Value} {xs' : List D} {vals vals' : List Value}
    (hsz : ∃ vs, v = .tuple vs ∧ vs.size = rows.length + 1) (h1 : 0 < T.so ∧ 0 < T.si ∧ Flat T.so rows) (h2 : ∀ i j b, blockOf (vnth v i) = some b → blockOf (vnth v j) = some b → i = j)
    (hr : ∀ (i : Nat) r, rows[i]? = some r → TRow base w M v T vals q i r) (hi : rows[i]? = some r)
    (hown' : Owns w' base T.eo T.so (vnth v 0) rows.length vals') (hoth : ∀ j', j' ≠ i * T.so + T.off → vals'[j']? = vals[j']?) (hat : vals'[i * T.so + T.off]? = some u)
    (hu : ∃ us, Owns w' base T.ei T.si u xs'.length us ∧ RepRow w' M' T.si xs' us) (hfl : Flat T.si xs') (hq : q = none ∨ q = some i)
    (hblk : ∀ j b, j ≠ 0 → j ≠ i + 1 → blockOf (vnth v j) = some b → w'.heap[b]? = w.heap[b]?) (hap : ∀ j b, j ≠ i + 1 → blockOf (vnth v j) = some b → blockOf u ≠ some b)
    (hs : Same M w w') (hM : ∀ b, b < w.heap.size → M' b → M b) : RepT base w' M' (tset v (i + 1) u) T (rows.set i (r.put T.off (.sl T.si xs'))) none := by
  obtain ⟨vs, rfl, hvs⟩ := hsz
  have hlt : i < rows.length := (List.getElem?_eq_some_iff.1 hi).1
  have hin : i + 1 < vs.size := by omega
  have hvn := fun j => vnth_tset (vs := vs) (i := i + 1) (j := j) (u := u) hin
  have hfr := h1.2.2 r (List.mem_of_getElem? hi)
  have hoff : T.off < r.comps.length := (List.getElem?_eq_some_iff.1 (hr i r hi).1.1).1
  have hpc : (r.put T.off (.sl T.si xs')).comps = r.comps.set T.off (.sl T.si xs') := D.put_comps rfl hoff
  have hin' : T.inn (r.put T.off (.sl T.si xs')) = xs' := Tb.inn_of (z := T.si) (by rw [hpc, List.getElem?_set_self hoff])
  refine ⟨⟨vs.setIfInBounds (i + 1) u, rfl, by simp [hvs]⟩, ⟨h1.1, h1.2.1, fun x hx => ?_⟩, fun a b c ha hb => ?_, vals', ?_, fun i' r' hi' => ?_⟩
  · rcases List.mem_or_eq_of_mem_set hx with h | h
    · exact h1.2.2 x h
    · subst h
      rw [hpc]
      refine ⟨by rw [List.length_set]; exact hfr.1, fun d hd => ?_⟩
      rcases List.mem_or_eq_of_mem_set hd with h | h
      · exact hfr.2 d h
      · subst h; rfl
  · rw [hvn] at ha hb
    split at ha
    · split at hb
      · omega
      · rename_i e1 e2; exact absurd ha (hap b c e2 hb)
    · split at hb
      · rename_i e1 e2; exact absurd hb (hap a c e1 ha)
      · exact h2 a b c ha hb
  · rw [hvn, if_neg (by omega), List.length_set]; exact hown'
  · by_cases e : i' = i
    · subst e
      rw [List.getElem?_set_self hlt] at hi'
      cases hi'
      obtain ⟨a1, a2, a3, a4⟩ := hr i' r hi
      refine ⟨⟨by rw [hpc, hin', List.getElem?_set_self hoff], by rw [hin']; exact hfl⟩, fun _ => ?_, fun h => by simp at h, fun j d hj hd => ?_⟩
      · rw [hvn, if_pos rfl, hin']
        exact ⟨hat, hu⟩
      · rw [hpc, List.getElem?_set_ne (fun h => hj h.symm)] at hd
        obtain ⟨x, hx, hrx⟩ := a4 j d hj hd
        have hjl := (List.getElem?_eq_some_iff.1 hd).1
        exact ⟨x, by rw [hoth _ (by omega)]; exact hx, hrx.mono hs hM⟩
    · rw [List.getElem?_set_ne (fun h => e h.symm)] at hi'
      obtain ⟨a1, a2, a3, a4⟩ := hr i' r' hi'
      have hfr' := h1.2.2 r' (List.mem_of_getElem? hi')
      have hq' : q ≠ some i' := by rcases hq with h | h <;> rw [h] <;> simp; omega
      refine ⟨a1, fun _ => ?_, fun h => by simp at h, fun j d hj hd => ?_⟩
      · obtain ⟨b1, us, b2, b3⟩ := a2 hq'
        rw [hvn, if_neg (by omega)]
        refine ⟨?_, us, b2.keep (fun b hb => hblk (i' + 1) b (by omega) (by omega) hb), b3.mono hs hM⟩
        rw [hoth _ (fun h => e (idx_inj (by omega) (by omega) h).1)]
        exact b1
      · obtain ⟨x, hx, hrx⟩ := a4 j d hj hd
        have hjl := (List.getElem?_eq_some_iff.1 hd).1
        exact ⟨x, by rw [hoth _ (fun h => e (idx_inj (by omega) (by omega) h).1)]; exact hx, hrx.mono hs hM⟩
theorem RepT.updc {base : Nat} {w w' : World} {M M' : Nat → Prop} {v : Value} {T : Tb} {rows : List D} {q : Option Nat} {i off : Nat} {r d : D} {u : Value} {vals vals' : List Value}
    (hsz : ∃ vs, v = .tuple vs ∧ vs.size = rows.length + 1) (h1 : 0 < T.so ∧ 0 < T.si ∧ Flat T.so rows) (h2 : ∀ i j b, blockOf (vnth v i) = some b → blockOf (vnth v j) = some b → i = j)
    (hr : ∀ (i : Nat) r, rows[i]? = some r → TRow base w M v T vals q i r) (hi : rows[i]? = some r) (ho : off ≠ T.off) (hol : off < T.so) (hdc : d.cell = true) (hd : RepD w' M' d u)
    (hown' : Owns w' base T.eo T.so (vnth v 0) rows.length vals') (hoth : ∀ j', j' ≠ i * T.so + off → vals'[j']? = vals[j']?) (hat : vals'[i * T.so + off]? = some u)
    (hblk : ∀ j b, j ≠ 0 → blockOf (vnth v j) = some b → w'.heap[b]? = w.heap[b]?)
    (hs : Same M w w') (hM : ∀ b, b < w.heap.size → M' b → M b) : RepT base w' M' v T (rows.set i (r.put off d)) q := by
  obtain ⟨vs, rfl, hvs⟩ := hsz
  have hlt : i < rows.length := (List.getElem?_eq_some_iff.1 hi).1
  have hfr := h1.2.2 r (List.mem_of_getElem? hi)
  have hoff : T.off < r.comps.length := (List.getElem?_eq_some_iff.1 (hr i r hi).1.1).1
  have hpc : (r.put off d).comps = r.comps.set off d := D.put_comps hdc (by omega)
  have hin' : T.inn (r.put off d) = T.inn r := by unfold Tb.inn; rw [hpc, List.getElem?_set_ne ho]
  refine ⟨⟨vs, rfl, by simp [hvs]⟩, ⟨h1.1, h1.2.1, fun x hx => ?_⟩, h2, vals', by rw [List.length_set]; exact hown', fun i' r' hi' => ?_⟩
  · rcases List.mem_or_eq_of_mem_set hx with h | h
    · exact h1.2.2 x h
    · subst h
      rw [hpc]
      refine ⟨by rw [List.length_set]; exact hfr.1, fun d' hd => ?_⟩
      rcases List.mem_or_eq_of_mem_set hd with h | h
      · exact hfr.2 d' h
      · subst h; exact hdc
  · by_cases e : i' = i
    · subst e
      rw [List.getElem?_set_self hlt] at hi'
      cases hi'
      obtain ⟨a1, a2, a3, a4⟩ := hr i' r hi
      refine ⟨⟨by rw [hpc, hin', List.getElem?_set_ne ho]; exact a1.1, by rw [hin']; exact a1.2⟩, fun hq => ?_, a3, fun j d' hj hd' => ?_⟩
      · obtain ⟨b1, us, b2, b3⟩ := a2 hq
        rw [hin']
        exact ⟨by rw [hoth _ (by omega)]; exact b1, us, b2.keep (fun b hb => hblk _ b (by omega) hb), b3.mono hs hM⟩
      · rw [hpc, List.getElem?_set] at hd'
        split at hd'
        · rename_i e
          subst e
          rw [if_pos (by omega)] at hd'
          cases hd'
          exact ⟨u, hat, hd⟩
        · rename_i e
          obtain ⟨x, hx, hrx⟩ := a4 j d' hj hd'
          exact ⟨x, by rw [hoth _ (by omega)]; exact hx, hrx.mono hs hM⟩
    · rw [List.getElem?_set_ne (fun h => e h.symm)] at hi'
      obtain ⟨a1, a2, a3, a4⟩ := hr i' r' hi'
      have hfr' := h1.2.2 r' (List.mem_of_getElem? hi')
      refine ⟨a1, fun hq => ?_, a3, fun j d' hj hd' => ?_⟩
      · obtain ⟨b1, us, b2, b3⟩ := a2 hq
        refine ⟨?_, us, b2.keep (fun b hb => hblk (i' + 1) b (by omega) hb), b3.mono hs hM⟩
        rw [hoth _ (fun h => e (idx_inj (by omega) (by omega) h).1)]
        exact b1
      · obtain ⟨x, hx, hrx⟩ := a4 j d' hj hd'
        have hjl := (List.getElem?_eq_some_iff.1 hd').1
        exact ⟨x, by rw [hoth _ (fun h => e (idx_inj (by omega) (by omega) h).1)]; exact hx, hrx.mono hs hM⟩
end Go.Eng
set_option linter.unusedVariables false
set_option linter.unusedSimpArgs false
namespace Go.Eng
open Go.RowKit
def stT (H : Nat → Option HO) (n : Nat) (k m i sz off : Nat) (x : AV) : Option (List (Nat × Option HO) × List Nat) :=
  match H k with
  | some (.tab T rows q) => if m = rows.length ∧ T.so = sz ∧ n = 1 then
      if off = T.off then
        match x with
        | .own r l => match H r with
          | some (.row e z xs) => if e = T.ei ∧ z = T.si ∧ l = xs.length ∧ T.ilen rows i < l ∧ r ≠ k ∧ (q = none ∨ q = some i) then
              some ([(r, none), (k, some (.tab T (rows.set i ((rows.getD i .nils).put T.off (.sl T.si xs))) none))], [k, r])
            else none
          | _ => none
        | _ => none
      else match toD H x with
        | some (d, ks) => if d.cell = true ∧ k ∉ ks then some (ks.map (fun q => (q, none)) ++ [(k, some (.tab T (rows.set i ((rows.getD i .nils).put off d)) q))], k :: ks) else none
        | none => none
    else none
  | _ => none
def stI (H : Nat → Option HO) (n : Nat) (k i m j sz off : Nat) (x : AV) : Option (List (Nat × Option HO) × List Nat) :=
  match H k with
  | some (.tab T rows none) => if m = T.ilen rows i ∧ T.si = sz then
      match (T.inn (rows.getD i .nils))[j]?, toD H x with
      | some y, some (d, ks) => if (AV.d d).sto ∧ d.comps.length = n ∧ off + n ≤ y.comps.length ∧ k ∉ ks then
          match y.rebuild (splice y.comps off d.comps) with
          | some y' => some (ks.map (fun q => (q, none)) ++ [(k, some (.tab T (rows.set i ((rows.getD i .nils).put T.off (.sl T.si ((T.inn (rows.getD i .nils)).set j y')))) none))], k :: ks)
          | none => none
        else none
      | _, _ => none
    else none
  | _ => none
def evStoreT (P : Program) (H : Nat → Option HO) (t : TypeId) (a x : AV) : Option (List (Nat × Option HO) × List Nat) :=
  match szT P t with
  | none => none
  | some n => match a with
    | .toref k m i sz off => stT H n k m i sz off x
    | .tref k i m j sz off => stI H n k i m j sz off x
    | _ => none
section
variable {P : Program} {X : Ctx} {hp : Heap} {ν : Nat → Value} {used : Nat → Prop} {w : World} {key : Nat}
theorem Owns.split {w : World} {base : Nat} {e : TypeId} {sz n c g : Nat} {vals : List Value} (h : Owns w base e sz (.slice (some ⟨g, 0, none⟩) n c) n vals) : ∃ cur, w.heap[g]? = some (.cells cur e (0, 0)) ∧ n * sz ≤ cur.size ∧ base ≤ g := by
  rcases h.2 with ⟨h2, _⟩ | ⟨g', cap, cur, h2, hb, hh, hn, hm, hs, ht⟩
  · cases h2
  · cases h2
    exact ⟨cur, hh, Nat.le_trans (Nat.mul_le_mul_right _ hn) hs, hb⟩
theorem splice_one {α : Type} (l : List α) (o : Nat) (u : α) (h : o < l.length) (j : Nat) : (splice l o [u])[j]? = if j = o then some u else l[j]? := by
  rw [splice_get _ _ _ (by simp; omega)]
  by_cases e : j = o
  · subst e; simp
  · rw [if_neg e, if_neg (by simp; omega)]
theorem later_set {T : Tb} {rows : List D} {q : Option Nat} {i : Nat} {r' : D} (hi : i < rows.length) (hl : T.ilen rows i ≤ (T.inn r').length) : (HO.tab T rows q).later (.tab T (rows.set i r') q) := by
  refine ⟨rfl, by simp, fun j hj => ⟨?_, fun h => .inl h⟩⟩
  rw [Tb.ilen_set hi]
  split
  · rename_i e; subst e; exact hl
  · exact Nat.le_refl _
theorem stI_sound (hI : HInv X (lk hp) ν used w) (hk : ¬ used key) {t n : Nat} (hn : szT P t = some n) {k i m j sz off : Nat} {x : AV} {va vx : Value} {es : List (Nat × Option HO)} {acc : List Nat}
    (ha : RepA w (Mut X.M0 (lk hp) ν) (lk hp) ν used (.tref k i m j sz off) va) (hx : RepA w (Mut X.M0 (lk hp) ν) (lk hp) ν used x vx) (he : stI (lk hp) n k i m j sz off x = some (es, acc)) :
    ∃ w', (Instr.storeAt t va vx).run P w = .ok () w' ∧ Post X hp ν used w key (eff hp es) .undef undef w' := by
  unfold stI at he
  split at he
  · rename_i T rows ho
    split at he
    · rename_i hm
      obtain ⟨hm, hsi⟩ := hm
      subst hsi
      split at he
      · rename_i y d ks hy hd
        split at he
        · rename_i hc
          obtain ⟨hs, hl, hle, hnk⟩ := hc
          split at he
          · rename_i y' hy'
            simp only [Option.some.injEq, Prod.mk.injEq] at he
            obtain ⟨rfl, rfl⟩ := he
            rw [eff_dels]
            simp only [eff]
            obtain ⟨hI1, x1⟩ := hI.drops ks
            have ho1 : lk (dels hp ks) k = some (.tab T rows none) := by rw [lk_dels_other _ _ _ hnk]; exact ho
            have hdr := toD_drop hI hx hd
            cases ha with
            | tref hu hj hoff h =>
              obtain ⟨_, _, _, he, hlt, _, hv⟩ := h _ ho
              cases he
              obtain ⟨g, c, hν, rfl⟩ := hv (by simp) hm
              obtain ⟨hsz, h1, h2, vals, hown, hr⟩ := hI1.obj _ _ ho1
              have hri := List.getElem?_eq_getElem hlt
              obtain ⟨a1, a2, a3, a4⟩ := hr i _ hri
              obtain ⟨b1, us, b2, b3⟩ := a2 (by simp)
              have hil := Tb.ilen_at (T := T) hri
              have hgd : rows.getD i .nils = rows[i] := by simp [List.getD_eq_getElem?_getD, hri]
              rw [hgd] at hy ⊢
              have b20 := b2
              rw [hν, ← hil, ← hm] at b2
              obtain ⟨cur, hg, hcs, hbg⟩ := b2.split
              obtain ⟨c1, c2, c3⟩ := repD_comps hdr hs
              have hl2 : vx.cells.toList.length = n := by omega
              have hl3 : vx.cells.size = n := by simpa using hl2
              have hone : ∀ u ∈ vx.cells.toList, u.oneCell' = true := fun u hu => by
                obtain ⟨q, hq⟩ := List.mem_iff_getElem?.1 hu
                have hil := (List.getElem?_eq_some_iff.1 hq).1
                have hd := List.getElem?_eq_getElem (l := d.comps) (i := q) (by omega)
                exact (c3 q _ u hd hq).oneCell (c2 _ (List.getElem_mem _))
              have hfy := a1.2 y (List.mem_of_getElem? hy)
              have hjm : j < (T.inn rows[i]).length := (List.getElem?_eq_some_iff.1 hy).1
              have hrange : j * T.si + off + n ≤ m * T.si := by
                have : (j + 1) * T.si ≤ m * T.si := Nat.mul_le_mul_right _ hj
                rw [Nat.add_mul] at this
                omega
              refine ⟨_, run_storeAt hn hg hl3 (by omega) hone, ?_⟩
              obtain ⟨vs, hvs, hvsz⟩ := hsz
              have hb : hasB (ν k) g := hasB_vnth hvs (i := i + 1) (by rw [hν]; rfl)
              have hsc : ∀ q ∈ splice y.comps off d.comps, q.cell = true := fun q hq => by
                unfold splice at hq
                simp at hq
                rcases hq with h | h | h
                · exact hfy.2 q (List.mem_of_mem_take h)
                · exact c2 q h
                · exact hfy.2 q (List.mem_of_mem_drop h)
              have hyc := rebuild_comps hy' hsc
              have hsl : (splice y.comps off d.comps).length = T.si := by rw [splice_length _ _ _ (by omega)]; exact hfy.1
              have hoff' : T.off < (rows[i]).comps.length := (List.getElem?_eq_some_iff.1 a1.1).1
              have hinn : T.inn ((rows[i]).put T.off (.sl T.si ((T.inn rows[i]).set j y'))) = (T.inn rows[i]).set j y' := Tb.inn_of (z := T.si) (by rw [D.put_comps rfl hoff', List.getElem?_set_self hoff'])
              obtain ⟨g1, g2⟩ := hI1.write (o' := .tab T (rows.set i ((rows[i]).put T.off (.sl T.si ((T.inn rows[i]).set j y')))) none) ho1 hb (splice cur.toList (j * T.si + off) vx.cells.toList).toArray
                (later_set hlt (by rw [hinn, List.length_set, hil]; exact Nat.le_refl _))
                (fun M' H' hx' => by
                  have hg' := setRow_heap _ _ _ (splice cur.toList (j * T.si + off) vx.cells.toList).toArray _ _ hg
                  have hfar : ∀ j' b, j' ≠ i + 1 → blockOf (vnth (ν k) j') = some b → b ≠ g := fun j' b hj' hb' e => by
                    subst e
                    exact hj' (h2 j' (i + 1) b hb' (by rw [hν]; rfl))
                  have := RepT.upd (u := vnth (ν k) (i + 1)) (w' := w.setRow g (splice cur.toList (j * T.si + off) vx.cells.toList).toArray) (M' := M') (xs' := (T.inn rows[i]).set j y') (q := none) (vals' := vals) ⟨vs, hvs, hvsz⟩ h1 h2 hr hri
                    (hown.keep (fun b hb' => setRow_other _ _ _ _ (hfar 0 b (by omega) hb'))) (fun _ _ => rfl) b1
                    ⟨splice us (j * T.si + off) vx.cells.toList, by rw [hν, List.length_set, ← hil, ← hm]; exact owns_splice b2 (by omega) hg hg', fun i' x j' dd hx2 hdd => by
                      have hul := b2.1
                      rw [splice_get _ _ _ (by omega)]
                      have hjl := (List.getElem?_eq_some_iff.1 hdd).1
                      by_cases hii : i' = j
                      · subst hii
                        rw [List.getElem?_set_self hjm] at hx2
                        cases hx2
                        rw [hyc] at hdd hjl
                        rw [splice_get _ _ _ (by omega)] at hdd
                        split at hdd
                        · rename_i hj
                          rw [if_pos (by omega)]
                          have hu := List.getElem?_eq_getElem (l := vx.cells.toList) (i := j' - off) (by omega)
                          refine ⟨_, ?_, (c3 _ _ _ hdd hu).mono hx'.same hx'.shrink⟩
                          rw [← hu]
                          congr 1
                          omega
                        · rename_i hj
                          rw [if_neg (by omega)]
                          obtain ⟨u, hu, hru⟩ := b3 _ y j' dd hy hdd
                          exact ⟨u, hu, hru.mono hx'.same hx'.shrink⟩
                      · rw [List.getElem?_set_ne (fun h => hii h.symm)] at hx2
                        have hjl' : j' < T.si := by rw [(a1.2 x (List.mem_of_getElem? hx2)).1] at hjl; exact hjl
                        obtain ⟨u, hu, hru⟩ := b3 _ x j' dd hx2 hdd
                        rw [if_neg ?_]
                        · exact ⟨u, hu, hru.mono hx'.same hx'.shrink⟩
                        · intro hh
                          rcases Nat.lt_or_gt_of_ne hii with h | h
                          · have : (i' + 1) * T.si ≤ j * T.si := Nat.mul_le_mul_right _ h
                            rw [Nat.add_mul] at this
                            omega
                          · have : (j + 1) * T.si ≤ i' * T.si := Nat.mul_le_mul_right _ h
                            rw [Nat.add_mul] at this
                            omega⟩
                    (fun x hx2 => by
                      rcases List.mem_or_eq_of_mem_set hx2 with h | h
                      · exact a1.2 x h
                      · subst h; rw [hyc]; exact ⟨hsl, hsc⟩) (.inl rfl)
                    (fun j' b _ hj' hb' => setRow_other _ _ _ _ (hfar j' b hj' hb'))
                    (fun j' b hj' hb' hh => hj' (h2 j' (i + 1) b hb' hh)) hx'.same hx'.shrink
                  show RepT _ _ _ (ν k) _ _ _
                  rw [hvs] at this ⊢
                  rw [tset_self] at this
                  exact this)
              obtain ⟨m1, m2⟩ := g1.more hk
              exact ⟨ν, m1, (x1.trans g2).trans m2, .undef _⟩
          · cases he
        · cases he
      · cases he
    · cases he
  · cases he
theorem blk_slice {v : Value} {a : Option Addr} {n c b : Nat} (h : v = .slice a n c) : hasB v b ↔ blockOf v = some b := by subst h; exact Iff.rfl
theorem stT_sound (hI : HInv X (lk hp) ν used w) (hk : ¬ used key) {t n : Nat} (hn : szT P t = some n) {k m i sz off : Nat} {x : AV} {va vx : Value} {es : List (Nat × Option HO)} {acc : List Nat}
    (ha : RepA w (Mut X.M0 (lk hp) ν) (lk hp) ν used (.toref k m i sz off) va) (hx : RepA w (Mut X.M0 (lk hp) ν) (lk hp) ν used x vx) (he : stT (lk hp) n k m i sz off x = some (es, acc)) :
    ∃ w', (Instr.storeAt t va vx).run P w = .ok () w' ∧ Post X hp ν used w key (eff hp es) .undef undef w' := by
  unfold stT at he
  split at he
  · rename_i T rows q ho
    split at he
    · rename_i hm
      obtain ⟨hm, hso, rfl⟩ := hm
      subst hso
      cases ha with
      | toref hu hi hoff h =>
        obtain ⟨_, _, _, he', _, hv⟩ := h _ ho
        cases he'
        obtain ⟨g, c, hν, rfl⟩ := hv hm
        have hlt : i < rows.length := by omega
        have hri := List.getElem?_eq_getElem hlt
        have hgd : rows.getD i .nils = rows[i] := by simp [List.getD_eq_getElem?_getD, hri]
        rw [hgd] at he
        split at he
        · rename_i hoT
          subst hoT
          split at he
          · rename_i r l
            split at he
            · rename_i e z xs hor
              split at he
              · rename_i hc
                obtain ⟨rfl, rfl, rfl, hilt, hrk, hq⟩ := hc
                simp only [Option.some.injEq, Prod.mk.injEq] at he
                obtain ⟨rfl, rfl⟩ := he
                simp only [eff]
                obtain ⟨hsz, h1, h2, vals, hown, hr⟩ := hI.obj _ _ ho
                obtain ⟨us, hu1, hu2, hu3, hu4⟩ := hI.obj _ _ hor
                cases hx with
                | own hur hvx hcx hax hx =>
                  obtain ⟨_, _, _, he', _, hvr⟩ := hx _ hor
                  cases he'
                  have hvr := hvr rfl
                  have hsl := hvx
                  rw [hvr] at hsl
                  subst hvr
                  rw [hν, hm] at hown
                  obtain ⟨cur, hg, hcs, hbg⟩ := hown.split
                  obtain ⟨a1, a2, a3, a4⟩ := hr i _ hri
                  have hil := Tb.ilen_at (T := T) hri
                  have hcells : (ν r).cells.toList = [ν r] := by rw [hsl]; rfl
                  have hvl : vals.length = rows.length * T.so := hown.1
                  have hidx : i * T.so + T.off < rows.length * T.so := row_at hlt hoff
                  refine ⟨_, run_storeAt hn hg (by rw [hsl]; rfl) (by omega) (fun u hu => by rw [hcells] at hu; simp at hu; subst hu; rw [hsl]; rfl), ?_⟩
                  rw [hcells]
                  obtain ⟨vs, hvs, hvsz⟩ := hsz
                  have hin : i + 1 < vs.size := by omega
                  have hvn : ∀ j, vnth (tset (ν k) (i + 1) (ν r)) j = if j = i + 1 then ν r else vnth (ν k) j := fun j => by rw [hvs]; exact vnth_tset hin
                  have hgb : hasB (ν k) g := hasB_vnth hvs (i := 0) (by rw [hν]; rfl)
                  have hrb : ∀ b, hasB (ν r) b ↔ blockOf (ν r) = some b := fun b => blk_slice hsl
                  have hoff' : T.off < (rows[i]).comps.length := (List.getElem?_eq_some_iff.1 a1.1).1
                  have hinn : T.inn ((rows[i]).put T.off (.sl T.si xs)) = xs := Tb.inn_of (z := T.si) (by rw [D.put_comps rfl hoff', List.getElem?_set_self hoff'])
                  have hnb : ∀ b, hasB (tset (ν k) (i + 1) (ν r)) b → hasB (ν k) b ∨ hasB (ν r) b := fun b hb => by
                    have hts : tset (ν k) (i + 1) (ν r) = .tuple (vs.setIfInBounds (i + 1) (ν r)) := by rw [hvs]; rfl
                    rw [hts] at hb
                    obtain ⟨j, hj⟩ := hasB_tup.1 hb
                    rw [← hts, hvn] at hj
                    split at hj
                    · exact .inr ((hrb b).2 hj)
                    · exact .inl (hasB_vnth hvs hj)
                  generalize ho' : HO.tab T (rows.set i ((rows[i]).put T.off (.sl T.si xs))) none = o'
                  generalize hw' : w.setRow g (splice cur.toList (i * T.so + T.off) [ν r]).toArray = w'
                  have hg' : w'.heap[g]? = some (.cells (splice cur.toList (i * T.so + T.off) [ν r]).toArray T.eo (0, 0)) := by rw [← hw']; exact setRow_heap _ _ _ _ _ _ hg
                  have hothr : ∀ b, b ≠ g → w'.heap[b]? = w.heap[b]? := fun b hb => by rw [← hw']; exact setRow_other _ _ _ _ (fun h => hb (by simpa using h))
                  have hsize : w'.heap.size = w.heap.size := by rw [← hw']; simp
                  let C : Nat → Prop := fun j => j = k ∨ j = r
                  have hlk : ∀ j, lk (put (del hp r) k o') j = if j = k then some o' else if j = r then none else lk hp j := fun j => by
                    by_cases e : j = k
                    · subst e; rw [lk_put_same, if_pos rfl]
                    · rw [lk_put_other _ _ _ _ e, if_neg e]
                      by_cases e' : j = r
                      · subst e'; rw [lk_del_same, if_pos rfl]
                      · rw [lk_del_other _ _ _ e', if_neg e']
                  have hsame : ∀ j o, ¬ C j → lk (put (del hp r) k o') j = some o → lk hp j = some o := fun j o hC h => by
                    rw [hlk, if_neg (fun e => hC (.inl e)), if_neg (fun e => hC (.inr e))] at h; exact h
                  have hνC : ∀ j, ¬ C j → upd ν k (tset (ν k) (i + 1) (ν r)) j = ν j := fun j hC => upd_other _ _ _ _ (fun e => hC (.inl e))
                  have hbel : Bl X.base w w' := by
                    rw [← hw']; exact ⟨⟨rfl, rfl, rfl, by simp, fun q hq => setRow_other _ _ _ _ (by omega)⟩, Nat.le_refl _⟩
                  have hx : Ext (Mut X.M0 (lk hp) ν) (lk hp) ν used w (Mut X.M0 (lk (put (del hp r) k o')) (upd ν k (tset (ν k) (i + 1) (ν r)))) (lk (put (del hp r) k o')) (upd ν k (tset (ν k) (i + 1) (ν r))) used w' := by
                    refine Ext.bulk C hsame hνC (by omega) (fun b _ hb => hothr b (fun e => hb (e ▸ ⟨k, _, ho, hgb⟩))) (fun _ h => h) (fun j o b hC hj hb _ => ?_) (fun j o2 hC hju hj => ?_)
                    · rw [hlk] at hj
                      split at hj
                      · rename_i e
                        subst e
                        rw [upd_same] at hb
                        rcases hnb b hb with h | h
                        · exact ⟨_, _, ho, h⟩
                        · exact ⟨_, _, hor, h⟩
                      · rcases hC with e | e
                        · exact absurd e (by assumption)
                        · subst e; simp at hj
                    · rw [hlk] at hj
                      split at hj
                      · rename_i e
                        subst e
                        cases hj
                        refine ⟨_, ho, ?_, ?_⟩
                        · rw [← ho']
                          refine ⟨rfl, by simp, fun j hj => ?_⟩
                          rw [Tb.ilen_set hlt]
                          split
                          · rename_i e; subst e; rw [hinn]; exact ⟨by omega, fun _ => .inr hilt⟩
                          · rename_i e; exact ⟨Nat.le_refl _, fun hh => by rcases hq with h | h <;> rw [h] at hh <;> simp at hh; omega⟩
                        · rw [← ho', upd_same]
                          refine ⟨fun _ => by rw [hvn, if_neg (by omega)], fun j hj hjl _ => ?_⟩
                          rw [hvn, if_neg (fun e => ?_)]
                          have e : j = i := by omega
                          subst e
                          rw [Tb.ilen_set hlt, if_pos rfl, hinn] at hjl
                          omega
                      · rcases hC with e | e
                        · exact absurd e (by assumption)
                        · subst e; simp at hj
                  have hI' : HInv X (lk (put (del hp r) k o')) (upd ν k (tset (ν k) (i + 1) (ν r))) used w' := by
                    refine hI.bulk C hsame hνC hbel hx (fun j o hC _ => ?_) (fun j o b hC hj hb => ?_) (fun j o b hC hj hb => ?_) (fun j o hC hj => ?_)
                    · rcases hC with e | e
                      · exact e ▸ hu
                      · exact e ▸ hur
                    · rw [hlk] at hj
                      split at hj
                      · rename_i e
                        subst e
                        rw [upd_same] at hb
                        have main : X.base ≤ b ∧ b < w.heap.size ∧ ¬ X.M0 b ∧ ∀ j' o2, lk hp j' = some o2 → hasB (ν j') b → j' = j ∨ j' = r := by
                          rcases hnb b hb with h | h
                          · exact ⟨(hI.blk _ _ _ ho h).1, (hI.blk _ _ _ ho h).2, hI.far _ _ _ ho h, fun j' o2 h1 h2 => .inl (hI.inj _ _ _ _ _ h1 ho h2 h)⟩
                          · exact ⟨(hI.blk _ _ _ hor h).1, (hI.blk _ _ _ hor h).2, hI.far _ _ _ hor h, fun j' o2 h1 h2 => .inr (hI.inj _ _ _ _ _ h1 hor h2 h)⟩
                        refine ⟨main.1, by rw [hsize]; exact main.2.1, main.2.2.1, fun j' o2 h1 h2 => ?_⟩
                        by_cases e : j' = j
                        · exact e
                        · rw [hlk, if_neg e] at h1
                          rw [upd_other _ _ _ _ e] at h2
                          split at h1
                          · cases h1
                          · rcases main.2.2.2 j' o2 h1 h2 with h | h
                            · exact h
                            · exact absurd h (by assumption)
                      · rcases hC with e | e
                        · exact absurd e (by assumption)
                        · subst e; simp at hj
                    · have := hsame j o hC hj
                      exact hothr b (fun e => hC (.inl (hI.inj _ _ _ _ _ this ho hb (e ▸ hgb))))
                    · rw [hlk] at hj
                      split at hj
                      · rename_i e
                        subst e
                        cases hj
                        subst ho'
                        rw [upd_same]
                        have hug : ∀ b, blockOf (ν r) = some b → b ≠ g := fun b hb e => by
                          subst e
                          exact hrk (hI.inj _ _ _ _ _ hor ho ((hrb b).2 hb) hgb)
                        refine RepT.upd (xs' := xs) (q := q) (vals' := splice vals (i * T.so + T.off) [ν r]) ⟨vs, hvs, hvsz⟩ h1 h2 hr hri ?_ (fun j' hj' => ?_) ?_ ⟨us, hu1.keep (fun b hb => hothr b (hug b hb)), hu4.mono hx.same hx.shrink⟩ hu3 hq (fun j' b h0 _ hb => ?_) (fun j' b _ hb hh => ?_) hx.same hx.shrink
                        · rw [hν, hm]
                          exact owns_splice hown (by simp; omega) hg hg'
                        · rw [splice_one _ _ _ (by omega), if_neg hj']
                        · rw [splice_one _ _ _ (by omega), if_pos rfl]
                        · exact hothr b (fun e => by subst e; exact h0 (h2 j' 0 b hb (by rw [hν]; rfl)))
                        · exact hrk (hI.inj _ _ _ _ _ hor ho ((hrb b).2 hh) (hasB_vnth hvs hb))
                      · rcases hC with e | e
                        · exact absurd e (by assumption)
                        · subst e; simp at hj
                  obtain ⟨m1, m2⟩ := hI'.more hk
                  exact ⟨_, m1, hx.trans m2, .undef _⟩
              · cases he
            · cases he
          · cases he
        · rename_i hoT
          split at he
          · rename_i d ks hd
            split at he
            · rename_i hc
              obtain ⟨hdc, hnk⟩ := hc
              simp only [Option.some.injEq, Prod.mk.injEq] at he
              obtain ⟨rfl, rfl⟩ := he
              rw [eff_dels]
              simp only [eff]
              obtain ⟨hI1, x1⟩ := hI.drops ks
              have ho1 : lk (dels hp ks) k = some (.tab T rows q) := by rw [lk_dels_other _ _ _ hnk]; exact ho
              have hdr := toD_drop hI hx hd
              obtain ⟨hsz, h1, h2, vals, hown, hr⟩ := hI1.obj _ _ ho1
              rw [hν, hm] at hown
              obtain ⟨cur, hg, hcs, hbg⟩ := hown.split
              have hcells : vx.cells.toList = [vx] := cells_one (hdr.oneCell hdc)
              have hidx : i * T.so + off < rows.length * T.so := row_at hlt hoff
              have hvl : vals.length = rows.length * T.so := hown.1
              have hone := hdr.oneCell hdc
              refine ⟨_, run_storeAt hn hg (by simpa using congrArg List.length hcells) (by omega) (fun u hu => by rw [hcells] at hu; simp at hu; subst hu; exact hone), ?_⟩
              rw [hcells]
              obtain ⟨vs, hvs, hvsz⟩ := hsz
              have hgb : hasB (ν k) g := hasB_vnth hvs (i := 0) (by rw [hν]; rfl)
              have hil := Tb.ilen_at (T := T) hri
              obtain ⟨a1, a2, a3, a4⟩ := hr i _ hri
              have hfr := h1.2.2 _ (List.mem_of_getElem? hri)
              have hinn : T.inn ((rows[i]).put off d) = T.inn rows[i] := by unfold Tb.inn; rw [D.put_comps hdc (by omega), List.getElem?_set_ne hoT]
              obtain ⟨g1, g2⟩ := hI1.write (o' := .tab T (rows.set i ((rows[i]).put off d)) q) ho1 hgb (splice cur.toList (i * T.so + off) [vx]).toArray
                (later_set hlt (by rw [hinn, hil]; exact Nat.le_refl _))
                (fun M' H' hx' => by
                  have hg' := setRow_heap _ _ _ (splice cur.toList (i * T.so + off) [vx]).toArray _ _ hg
                  refine RepT.updc (u := vx) (vals' := splice vals (i * T.so + off) [vx]) ⟨vs, hvs, hvsz⟩ h1 h2 hr hri hoT hoff hdc (hdr.mono hx'.same hx'.shrink) ?_ (fun j' hj' => ?_) ?_ (fun j' b h0 hb => ?_) hx'.same hx'.shrink
                  · rw [hν, hm]
                    exact owns_splice hown (by simp; omega) hg hg'
                  · rw [splice_one _ _ _ (by omega), if_neg hj']
                  · rw [splice_one _ _ _ (by omega), if_pos rfl]
                  · exact setRow_other _ _ _ _ (fun e => by subst e; exact h0 (h2 j' 0 _ hb (by rw [hν]; rfl))))
              obtain ⟨m1, m2⟩ := g1.more hk
              exact ⟨ν, m1, (x1.trans g2).trans m2, .undef _⟩
            · cases he
          · cases he
    · cases he
  · cases he
theorem evStoreT_sound (hI : HInv X (lk hp) ν used w) (hk : ¬ used key) {t : Nat} {a x : AV} {va vx : Value} {es : List (Nat × Option HO)} {acc : List Nat}
    (ha : RepA w (Mut X.M0 (lk hp) ν) (lk hp) ν used a va) (hx : RepA w (Mut X.M0 (lk hp) ν) (lk hp) ν used x vx) (he : evStoreT P (lk hp) t a x = some (es, acc)) :
    ∃ w', (Instr.storeAt t va vx).run P w = .ok () w' ∧ Post X hp ν used w key (eff hp es) .undef undef w' := by
  unfold evStoreT at he
  split at he
  · cases he
  · rename_i n hn
    split at he
    · exact stT_sound hI hk hn ha hx he
    · exact stI_sound hI hk hn ha hx he
    · cases he
end
end Go.Eng
set_option linter.unusedVariables false
set_option linter.unusedSimpArgs false
namespace Go.Eng
open Go.RowKit
section
variable {P : Program} {X : Ctx} {hp : Heap} {ν : Nat → Value} {used : Nat → Prop} {w : World} {key : Nat}
theorem HInv.takeout (hI : HInv X (lk hp) ν used w) (hk : ¬ used key) {k i : Nat} {T : Tb} {rows : List D} (ho : lk hp k = some (.tab T rows none)) {r : D} (hri : rows[i]? = some r) :
    HInv X (lk (put (put hp k (.tab T rows (some i))) key (.row T.ei T.si (T.inn r)))) (upd (upd ν k (tset (ν k) (i + 1) (.slice none 0 0))) key (vnth (ν k) (i + 1))) (fun q => used q ∨ q = key) w ∧
    Ext (Mut X.M0 (lk hp) ν) (lk hp) ν used w (Mut X.M0 (lk (put (put hp k (.tab T rows (some i))) key (.row T.ei T.si (T.inn r)))) (upd (upd ν k (tset (ν k) (i + 1) (.slice none 0 0))) key (vnth (ν k) (i + 1))))
      (lk (put (put hp k (.tab T rows (some i))) key (.row T.ei T.si (T.inn r)))) (upd (upd ν k (tset (ν k) (i + 1) (.slice none 0 0))) key (vnth (ν k) (i + 1))) (fun q => used q ∨ q = key) w := by
  have hlt : i < rows.length := (List.getElem?_eq_some_iff.1 hri).1
  have hku : used k := hI.usd _ _ ho
  have hkk : k ≠ key := fun e => hk (e ▸ hku)
  obtain ⟨⟨vs, hvs, hvsz⟩, h1, h2, vals, hown, hr⟩ := hI.obj _ _ ho
  obtain ⟨a1, a2, a3, a4⟩ := hr i _ hri
  obtain ⟨b1, us, b2, b3⟩ := a2 (by simp)
  have hin : i + 1 < vs.size := by omega
  have hvn : ∀ j, vnth (tset (ν k) (i + 1) (.slice none 0 0)) j = if j = i + 1 then .slice none 0 0 else vnth (ν k) j := fun j => by rw [hvs]; exact vnth_tset hin
  have hts : tset (ν k) (i + 1) (.slice none 0 0) = .tuple (vs.setIfInBounds (i + 1) (.slice none 0 0)) := by rw [hvs]; rfl
  have hnb : ∀ b, hasB (tset (ν k) (i + 1) (.slice none 0 0)) b → ∃ j, j ≠ i + 1 ∧ blockOf (vnth (ν k) j) = some b := fun b hb => by
    rw [hts] at hb
    obtain ⟨j, hj⟩ := hasB_tup.1 hb
    rw [← hts, hvn] at hj
    split at hj
    · cases hj
    · rename_i e; exact ⟨j, e, hj⟩
  have hub : ∀ b, hasB (vnth (ν k) (i + 1)) b ↔ blockOf (vnth (ν k) (i + 1)) = some b := fun b => by
    obtain ⟨a, c, h, _⟩ := own_value b2; exact blk_slice h
  generalize hto : HO.tab T rows (some i) = o1
  generalize hro : HO.row T.ei T.si (T.inn r) = o2
  generalize hv1 : tset (ν k) (i + 1) (.slice none 0 0) = v1 at *
  generalize hv2 : vnth (ν k) (i + 1) = v2 at *
  let C : Nat → Prop := fun j => j = k ∨ j = key
  have hlk : ∀ j, lk (put (put hp k o1) key o2) j = if j = key then some o2 else if j = k then some o1 else lk hp j := fun j => by
    by_cases e : j = key
    · subst e; rw [lk_put_same, if_pos rfl]
    · rw [lk_put_other _ _ _ _ e, if_neg e]
      by_cases e' : j = k
      · subst e'; rw [lk_put_same, if_pos rfl]
      · rw [lk_put_other _ _ _ _ e', if_neg e']
  have hνk : upd (upd ν k v1) key v2 k = v1 := by rw [upd_other _ _ _ _ hkk, upd_same]
  have hνq : upd (upd ν k v1) key v2 key = v2 := upd_same _ _ _
  have hsame : ∀ j o, ¬ C j → lk (put (put hp k o1) key o2) j = some o → lk hp j = some o := fun j o hC h => by
    rw [hlk, if_neg (fun e => hC (.inr e)), if_neg (fun e => hC (.inl e))] at h; exact h
  have hνC : ∀ j, ¬ C j → upd (upd ν k v1) key v2 j = ν j := fun j hC => by rw [upd_other _ _ _ _ (fun e => hC (.inr e)), upd_other _ _ _ _ (fun e => hC (.inl e))]
  have hkb : ∀ j b, blockOf (vnth (ν k) j) = some b → hasB (ν k) b := fun j b h => hasB_vnth hvs h
  have hC : ∀ j o b, C j → lk (put (put hp k o1) key o2) j = some o → hasB (upd (upd ν k v1) key v2 j) b → hasB (ν k) b := fun j o b hC hj hb => by
    rcases hC with e | e
    · subst e
      rw [hνk] at hb
      obtain ⟨j, _, h⟩ := hnb b hb
      exact hkb j b h
    · subst e
      rw [hνq] at hb
      exact hkb (i + 1) b (by rw [hv2]; exact (hub b).1 hb)
  have hx : Ext (Mut X.M0 (lk hp) ν) (lk hp) ν used w (Mut X.M0 (lk (put (put hp k o1) key o2)) (upd (upd ν k v1) key v2)) (lk (put (put hp k o1) key o2)) (upd (upd ν k v1) key v2) (fun q => used q ∨ q = key) w := by
    refine Ext.bulk C hsame hνC (Nat.le_refl _) (fun _ _ _ => rfl) (fun _ h => .inl h) (fun j o b hC' hj hb _ => ⟨k, _, ho, hC j o b hC' hj hb⟩) (fun j o hC' hju hj => ?_)
    rcases hC' with e | e
    · subst e
      rw [hlk, if_neg hkk, if_pos rfl] at hj
      cases hj
      rw [hνk, ← hto]
      refine ⟨_, ho, ⟨rfl, Nat.le_refl _, fun _ _ => ⟨Nat.le_refl _, fun h => by cases h⟩⟩, fun _ => by rw [hvn, if_neg (by omega)], fun j hj _ hq => ?_⟩
      rw [hvn, if_neg (fun e => hq (by congr 1; omega))]
    · exact absurd (e ▸ hju) hk
  refine ⟨hI.bulk C hsame hνC (Bl.refl _ _) hx (fun j o hC' _ => ?_) (fun j o b hC' hj hb => ?_) (fun _ _ _ _ _ _ => rfl) (fun j o hC' hj => ?_), hx⟩
  · rcases hC' with e | e
    · exact .inl (e ▸ hku)
    · exact .inr e
  · have h := hC j o b hC' hj hb
    refine ⟨(hI.blk _ _ _ ho h).1, (hI.blk _ _ _ ho h).2, hI.far _ _ _ ho h, fun j' o' hj' hb' => ?_⟩
    by_cases hC2 : C j'
    · rcases hC' with e | e
      · rcases hC2 with e' | e'
        · rw [e, e']
        · exfalso
          subst e; subst e'
          rw [hνk] at hb
          rw [hνq] at hb'
          obtain ⟨j2, hj2, h3⟩ := hnb b hb
          exact hj2 (h2 j2 (i + 1) b h3 (by rw [hv2]; exact (hub b).1 hb'))
      · rcases hC2 with e' | e'
        · exfalso
          subst e; subst e'
          rw [hνq] at hb
          rw [hνk] at hb'
          obtain ⟨j2, hj2, h3⟩ := hnb b hb'
          exact hj2 (h2 j2 (i + 1) b h3 (by rw [hv2]; exact (hub b).1 hb))
        · rw [e, e']
    · rw [hνC j' hC2] at hb'
      exact absurd (.inl (hI.inj _ _ _ _ _ (hsame j' o' hC2 hj') ho hb' h)) hC2
  · rcases hC' with e | e
    · subst e
      rw [hlk, if_neg hkk, if_pos rfl] at hj
      cases hj
      rw [hνk]
      subst hto
      show RepT _ _ _ _ _ _ _
      refine ⟨⟨_, hts, by simp [hvsz]⟩, h1, fun a b c ha hb => ?_, vals, ?_, fun i' r' hi' => ?_⟩
      · rw [hvn] at ha hb
        split at ha
        · cases ha
        · split at hb
          · cases hb
          · exact h2 a b c ha hb
      · rw [hvn, if_neg (by omega)]; exact hown
      · obtain ⟨c1, c2, c3, c4⟩ := hr i' r' hi'
        refine ⟨c1, fun hq => ?_, fun hq => ?_, fun j d hj hd => ?_⟩
        · obtain ⟨d1, ds, d2, d3⟩ := c2 (by simp)
          rw [hvn, if_neg (fun e => hq (by congr 1; omega))]
          exact ⟨d1, ds, d2, d3.mono hx.same hx.shrink⟩
        · cases hq
          rw [hvn, if_pos rfl]; rfl
        · obtain ⟨u, hu, hru⟩ := c4 j d hj hd
          exact ⟨u, hu, hru.mono hx.same hx.shrink⟩
    · subst e
      rw [hlk, if_pos rfl] at hj
      cases hj
      rw [hνq]
      subst hro
      exact ⟨us, b2, h1.2.1, a1.2, b3.mono hx.same hx.shrink⟩
def evAppendT (P : Program) (key : Nat) (H : Nat → Option HO) (t : TypeId) (k i n : Nat) (y : AV) : Option (AV × List (Nat × Option HO) × List Nat) :=
  match elT P t with
  | none => none
  | some e => match szT P e, byT P e with
    | some sz, some b => if 0 < sz ∧ zOk P e = true then
        match toD H y with
        | some (d, ks) => match elems sz d with
          | some ys => match H k with
            | some (.tab T rows none) => match rows[i]? with
              | some r => if n = (T.inn r).length ∧ T.ei = e ∧ T.si = sz ∧ k ∉ ks then
                  if room ((T.inn r).length + ys.length) b then some (.own key (T.inn r ++ ys).length, ks.map (fun q => (q, none)) ++ [(k, some (.tab T rows (some i))), (key, some (.row e sz (T.inn r ++ ys)))], k :: ks) else none
                else none
              | none => none
            | _ => none
          | none => none
        | none => none
      else none
    | _, _ => none
theorem HInv.usedEq {H : Nat → Option HO} {used' : Nat → Prop} (hI : HInv X H ν used w) (h : ∀ k, used k ↔ used' k) : HInv X H ν used' w := by
  have : used = used' := funext fun k => propext (h k)
  exact this ▸ hI
theorem evAppendT_sound (hI : HInv X (lk hp) ν used w) (hk : ¬ used key) {t ty : TypeId} {k i n : Nat} {y r : AV} {vx vy : Value} {es : List (Nat × Option HO)} {acc : List Nat}
    (hx : RepA w (Mut X.M0 (lk hp) ν) (lk hp) ν used (.trow k i n) vx) (hy : RepA w (Mut X.M0 (lk hp) ν) (lk hp) ν used y vy) (he : evAppendT P key (lk hp) t k i n y = some (r, es, acc)) :
    ∃ v w', (Builtin.append_ #[t, t] ty #[vx, vy]).run P w = .ok v w' ∧ Post X hp ν used w key (eff hp es) r v w' := by
  unfold evAppendT at he
  split at he
  · cases he
  · rename_i e hel
    split at he
    · rename_i sz b hsz hb
      split at he
      · rename_i hc
        obtain ⟨hz, hzo⟩ := hc
        split at he
        · rename_i d ks hd
          split at he
          · rename_i ys hys
            obtain ⟨hI1, x1⟩ := hI.drops ks
            have hdr := elems_rep (toD_drop hI hy hd) hys
            split at he
            · rename_i T rows ho
              split at he
              · rename_i rw0 hri
                split at he
                · rename_i hc
                  obtain ⟨rfl, rfl, rfl, hnk⟩ := hc
                  split at he
                  · rename_i hroom
                    simp only [Option.some.injEq, Prod.mk.injEq] at he
                    obtain ⟨rfl, rfl, rfl⟩ := he
                    have ho1 : lk (dels hp ks) k = some (.tab T rows none) := by rw [lk_dels_other _ _ _ hnk]; exact ho
                    cases hx with
                    | trow hu hv hcc ha h =>
                      obtain ⟨_, _, _, he, hlt, _, hvν⟩ := h _ ho
                      cases he
                      have hvν := hvν (by simp) (Tb.ilen_at hri).symm
                      obtain ⟨hI2, x2⟩ := hI1.takeout hk ho1 hri
                      have hro : lk (put (put (dels hp ks) k (.tab T rows (some i))) key (.row T.ei T.si (T.inn rw0))) key = some (.row T.ei T.si (T.inn rw0)) := lk_put_same _ _ _
                      have hνq : upd (upd ν k (tset (ν k) (i + 1) (.slice none 0 0))) key (vnth (ν k) (i + 1)) key = vnth (ν k) (i + 1) := upd_same _ _ _
                      obtain ⟨vals, hown, _, hf, hrow⟩ := hI2.obj _ _ hro
                      rw [hvν]
                      have hown' := hown
                      rw [hνq] at hown'
                      obtain ⟨v', w', news, hr, g1, g2, g3, g4, g5, g6⟩ := run_append_any (P := P) hel hsz hb hz hzo ty hown' (hdr.mono x2.same x2.shrink) hroom hI2.below.size
                      refine ⟨v', w', hr, ?_⟩
                      rw [eff_dels]
                      simp only [eff]
                      have hpp : ∀ (o : HO), lk (put (put (put (dels hp ks) k (.tab T rows (some i))) key (.row T.ei T.si (T.inn rw0))) key o) = lk (put (put (dels hp ks) k (.tab T rows (some i))) key o) := fun o => by
                        funext j
                        by_cases e : j = key
                        · subst e; rw [lk_put_same, lk_put_same]
                        · rw [lk_put_other _ _ _ _ e, lk_put_other _ _ _ _ e, lk_put_other _ _ _ _ e]
                      have := row_post' (key := key) (k := key) (xs' := T.inn rw0 ++ ys) hI2 (fun h => by rw [hro] at h; cases h) (.inr hro) hz (by rw [List.length_append]; exact g1) (by rw [hνq]; exact g2) (by rw [hνq]; exact g5) (fun _ hl => by rw [hνq]; exact g6 (by simp at hl; exact hl)) (by simp) (hf.append g3) (hrow.append hown.1 hf g4)
                      obtain ⟨ν', p1, p2, p3⟩ := this
                      have hue : (fun q => (used q ∨ q = key) ∨ q = key) = fun q => used q ∨ q = key := funext fun q => propext ⟨fun h => h.elim id .inr, .inl⟩
                      rw [hpp, hue] at p1 p2 p3
                      exact ⟨ν', p1, x1.trans (x2.trans p2), p3⟩
                  · cases he
                · cases he
              · cases he
            · cases he
          · cases he
        · cases he
      · cases he
    · cases he
end
end Go.Eng
set_option linter.unusedVariables false
set_option linter.unusedSimpArgs false
namespace Go.Eng
open Go.RowKit
def evCopyT (P : Program) (H : Nat → Option HO) (t : TypeId) (x y : AV) : Option (AV × List (Nat × Option HO) × List Nat) :=
  match elT P t with
  | some e => match szT P e with
    | some sz => if sz = 1 then match x with
      | .trow k i n => match H k, toD H y with
        | some (.tab T rows none), some (.sl 1 ys, ks) => if n = T.ilen rows i ∧ 0 < n ∧ T.si = 1 ∧ ys.length = n ∧ ys.all D.flat = true ∧ k ∉ ks ∧ i < rows.length then
            some (.d (.int .i64 (n : Int)), [(k, some (.tab T (rows.set i ((rows.getD i .nils).put T.off (.sl T.si ys))) none))], k :: ks) else none
        | _, _ => none
      | _ => none
      else none
    | none => none
  | none => none
section
variable {P : Program} {X : Ctx} {hp : Heap} {ν : Nat → Value} {used : Nat → Prop} {w : World} {key : Nat}
theorem flat_comps {d : D} (h : d.flat = true) : d.comps = [d] := D.comps_one (flat_cell h)
theorem evCopyT_sound (hI : HInv X (lk hp) ν used w) (hk : ¬ used key) {t t' ty : Nat} {x y r : AV} {vx vy : Value} {es : List (Nat × Option HO)} {acc : List Nat}
    (hx : RepA w (Mut X.M0 (lk hp) ν) (lk hp) ν used x vx) (hy : RepA w (Mut X.M0 (lk hp) ν) (lk hp) ν used y vy)
    (he : evCopyT P (lk hp) t x y = some (r, es, acc)) : ∃ v w', (Builtin.copy_ #[t, t'] ty #[vx, vy]).run P w = .ok v w' ∧ Post X hp ν used w key (eff hp es) r v w' := by
  unfold evCopyT at he
  split at he
  · rename_i e hel
    split at he
    · rename_i sz hsz
      split at he
      · rename_i h1
        subst h1
        split at he
        · rename_i k i n
          split at he
          · rename_i T rows ys ks ho hyd
            split at he
            · rename_i hc
              obtain ⟨hn, hn0, hsi, hyl, hflat, hks, hlt⟩ := hc
              simp only [Option.some.injEq, Prod.mk.injEq] at he
              obtain ⟨rfl, rfl, rfl⟩ := he
              have fl : ∀ d ∈ ys, d.flat = true := List.all_eq_true.1 hflat
              have hrd := toD_rep hI (M' := fun _ => False) (fun _ h => h.elim) y vy _ ks hy hyd (fun _ _ _ _ h => h)
              cases hx with
              | trow hu hv hcc ha h =>
                rename_i c a
                obtain ⟨_, _, _, he, _, _, hvν⟩ := h _ ho
                cases he
                have hvν := hvν (by simp) hn
                obtain ⟨hsz', h1, h2, vals, hown, hr⟩ := hI.obj _ _ ho
                have hri := List.getElem?_eq_getElem hlt
                obtain ⟨a1, a2, a3, a4⟩ := hr i _ hri
                obtain ⟨b1, us, b2, b3⟩ := a2 (by simp)
                have hil := Tb.ilen_at (T := T) hri
                have hgd : rows.getD i .nils = rows[i] := by simp [List.getD_eq_getElem?_getD, hri]
                rw [hgd]
                have b20 := b2
                rw [← hvν, ← hil, ← hn, hv] at b2
                obtain ⟨vs, hvs, hvsz⟩ := hsz'
                cases a with
                | none => have := (ha rfl).1; omega
                | some a =>
                have hform : ∃ g, a = ⟨g, 0, none⟩ := by
                  obtain ⟨g, h, _⟩ := b2.form rfl
                  exact ⟨g, h⟩
                obtain ⟨g, rfl⟩ := hform
                obtain ⟨cur, hg, hcs, hbg⟩ := b2.split
                rw [hsi] at hcs b2
                have hνg : vnth (ν k) (i + 1) = .slice (some ⟨g, 0, none⟩) n c := by rw [← hvν, hv]
                have hb : hasB (ν k) g := hasB_vnth hvs (i := i + 1) (by rw [hνg]; rfl)
                have key_ : ∀ (us' : List Value), us'.length = n → (∀ (i : Nat) d u, ys[i]? = some d → us'[i]? = some u → RepD w (fun _ => False) d u) → (Builtin.lenOf vy).run P w = .ok ys.length w → (Builtin.firstCells 1 (min ys.length n) vy).run P w = .ok us'.toArray w →
                    ∃ v w', (Builtin.copy_ #[t, t'] ty #[vx, vy]).run P w = .ok v w' ∧ Post X hp ν used w key (eff hp [(k, some (.tab T (rows.set i ((rows[i]).put T.off (.sl T.si ys))) none))]) (.d (.int .i64 (n : Int))) v w' := fun us' hul hus hlo hfc => by
                  have huc : ∀ u ∈ us', u.oneCell' = true := fun u hu => by
                    obtain ⟨q, hq⟩ := List.mem_iff_getElem?.1 hu
                    have hql : q < ys.length := by rw [hyl, ← hul]; exact (List.getElem?_eq_some_iff.1 hq).1
                    have hd := List.getElem?_eq_getElem hql
                    exact (hus q _ u hd hq).oneCell (flat_cell (fl _ (List.getElem_mem hql)))
                  have hst : (storeCells ⟨g, 0, none⟩ us').run P w = .ok () (w.setRow g (splice cur.toList 0 us').toArray) := by
                    have := run_storeCells_at P g 0 T.ei us' 0 cur w hg (by omega) huc
                    simpa [splice] using this
                  have hoff' : T.off < (rows[i]).comps.length := (List.getElem?_eq_some_iff.1 a1.1).1
                  have hinn : T.inn ((rows[i]).put T.off (.sl T.si ys)) = ys := Tb.inn_of (z := T.si) (by rw [D.put_comps rfl hoff', List.getElem?_set_self hoff'])
                  obtain ⟨g1, g2⟩ := hI.write (o' := .tab T (rows.set i ((rows[i]).put T.off (.sl T.si ys))) none) ho hb (splice cur.toList 0 us').toArray
                    (later_set hlt (by rw [hinn, hyl, hn]; exact Nat.le_refl _))
                    (fun M' H' hx' => by
                      have hg' := setRow_heap _ _ _ (splice cur.toList 0 us').toArray _ _ hg
                      have hfar : ∀ j' b, j' ≠ i + 1 → blockOf (vnth (ν k) j') = some b → b ≠ g := fun j' b hj' hb' e => by
                        subst e
                        exact hj' (h2 j' (i + 1) b hb' (by rw [hνg]; rfl))
                      have := RepT.upd (u := vnth (ν k) (i + 1)) (w' := w.setRow g (splice cur.toList 0 us').toArray) (M' := M') (xs' := ys) (q := none) (vals' := vals) ⟨vs, hvs, hvsz⟩ h1 h2 hr hri
                        (hown.keep (fun b hb' => setRow_other _ _ _ _ (hfar 0 b (by omega) hb'))) (fun _ _ => rfl) b1
                        ⟨splice us 0 us', by rw [hνg, hyl, hsi]; exact owns_splice b2 (by omega) hg hg', fun i' x j' dd hx2 hdd => by
                          have hxf := fl x (List.mem_of_getElem? hx2)
                          rw [flat_comps hxf] at hdd
                          have hj0 : j' = 0 := by have := (List.getElem?_eq_some_iff.1 hdd).1; simp at this; exact this
                          subst hj0
                          simp at hdd
                          subst hdd
                          have hi' := (List.getElem?_eq_some_iff.1 hx2).1
                          have hul2 := b2.1
                          have hu2 := List.getElem?_eq_getElem (l := us') (i := i') (by omega)
                          refine ⟨us'[i']'(by omega), ?_, (hus i' _ _ hx2 hu2).flat hxf⟩
                          rw [splice_get _ _ _ (by omega), hsi, if_pos (by omega), ← hu2]
                          congr 1
                          omega⟩
                        (fun x hx2 => by rw [hsi, flat_comps (fl x hx2)]; exact ⟨rfl, fun d hd => by simp at hd; subst hd; exact flat_cell (fl _ hx2)⟩) (.inl rfl)
                        (fun j' b _ hj' hb' => setRow_other _ _ _ _ (hfar j' b hj' hb'))
                        (fun j' b hj' hb' hh => hj' (h2 j' (i + 1) b hb' hh)) hx'.same hx'.shrink
                      show RepT _ _ _ (ν k) _ _ _
                      rw [hvs] at this ⊢
                      rw [tset_self] at this
                      exact this)
                  obtain ⟨m1, m2⟩ := g1.more hk
                  refine ⟨.int .i64 (n : Int), _, ?_, ν, m1, g2.trans m2, .d (.int _ _)⟩
                  have hmin : Nat.min ys.length n = n := by rw [hyl]; exact Nat.min_self n
                  have hfc' : (Builtin.firstCells 1 (Nat.min ys.length n) vy).run P w = .ok us'.toArray w := hfc
                  rw [hmin] at hfc'
                  rw [hv]
                  simp only [Builtin.copy_, List.getElem?_toArray, List.getElem?_cons_zero, List.getElem?_cons_succ, Sem.run_bind, run_underlying (elT_und hel), Result.andThen_ok, hlo, run_sizeOf' hsz, hfc', hst, goInt, Sem.run_pure, hmin]
                generalize hvy : vy = vy' at hrd
                cases hrd with
                | sl0 => simp at hyl; omega
                | sl val hb' hM hcc' hm hs h1' h2' =>
                  rename_i c' a'
                  have hcp : ∀ (i : Nat) d, ys[i]? = some d → d.comps[0]? = some d := fun i d hd => by rw [flat_comps (fl d (List.mem_of_getElem? hd))]; rfl
                  rw [hvy] at key_
                  refine key_ ((List.range (min ys.length n)).map fun i => val i 0) (by simp; omega) (fun i d u hd hu => ?_) rfl ?_
                  · obtain ⟨hi, rfl⟩ := range_map_get hu
                    exact h2' i d 0 d hd (hcp i d hd)
                  · refine run_firstCells_some w 1 _ a' _ c' _ (by simp) fun j v hj => ?_
                    obtain ⟨hi, rfl⟩ := range_map_get hj
                    have hd' := List.getElem?_eq_getElem (l := ys) (i := j) (by omega)
                    have := h1' j _ 0 _ hd' (hcp j _ hd')
                    simpa using this
            · cases he
          · cases he
        · cases he
      · cases he
    · cases he
  · cases he
def Tb.nilAt (T : Tb) (y : D) : Bool := match y.comps[T.off]? with | some .nils => true | _ => false
def Tb.ini (T : Tb) (y : D) : D := y.put T.off (.sl T.si [])
theorem Tb.nilAt_iff {T : Tb} {y : D} : T.nilAt y = true ↔ y.comps[T.off]? = some .nils := by
  unfold Tb.nilAt
  split
  · rename_i h; simp [h]
  · rename_i h; simp; intro e; exact h e
theorem Tb.ini_comps {T : Tb} {y : D} (h : T.nilAt y = true) : (T.ini y).comps = y.comps.set T.off (.sl T.si []) ∧ T.off < y.comps.length := by
  have h := Tb.nilAt_iff.1 h
  have ho := (List.getElem?_eq_some_iff.1 h).1
  exact ⟨D.put_comps rfl ho, ho⟩
theorem Tb.ini_inn {T : Tb} {y : D} (h : T.nilAt y = true) : T.inn (T.ini y) = [] := by
  obtain ⟨h1, h2⟩ := Tb.ini_comps h
  exact Tb.inn_of (z := T.si) (by rw [h1, List.getElem?_set_self h2])
theorem Tb.ini_flat {T : Tb} {xs : List D} (hn : xs.all T.nilAt = true) (h : Flat T.so xs) : Flat T.so (xs.map T.ini) := fun y hy => by
  obtain ⟨x, hx, rfl⟩ := List.mem_map.1 hy
  obtain ⟨h1, h2⟩ := Tb.ini_comps (List.all_eq_true.1 hn x hx)
  obtain ⟨f1, f2⟩ := h x hx
  rw [h1]
  refine ⟨by rw [List.length_set]; exact f1, fun d hd => ?_⟩
  rcases List.mem_or_eq_of_mem_set hd with h | h
  · exact f2 d h
  · subst h; rfl
theorem vnth_list {l : List Value} {j : Nat} : vnth (.tuple l.toArray) j = l.getD j undef := by simp [vnth, List.getD_eq_getElem?_getD]
theorem nilv_rep {w : World} {M : Nat → Prop} {u : Value} (h : RepD w M .nils u) : u = .slice none 0 0 := by cases h; rfl
theorem RepT.ofNils {base : Nat} {w : World} {M : Nat → Prop} {v : Value} {T : Tb} {xs : List D} {vals : List Value} (hown : Owns w base T.eo T.so v xs.length vals) (hz : 0 < T.so) (hsi : 0 < T.si) (hf : Flat T.so xs) (hrow : RepRow w M T.so xs vals) (hn : xs.all T.nilAt = true) :
    RepT base w M (.tuple (v :: List.replicate xs.length (.slice none 0 0)).toArray) T (xs.map T.ini) none := by
  have hv0 : vnth (.tuple (v :: List.replicate xs.length (.slice none 0 0)).toArray) 0 = v := by rw [vnth_list]; rfl
  have hvS : ∀ j, blockOf (vnth (.tuple (v :: List.replicate xs.length (.slice none 0 0)).toArray) (j + 1)) = none := fun j => by
    rw [vnth_list]
    simp only [List.getD_eq_getElem?_getD, List.getElem?_cons_succ, List.getElem?_replicate]
    split
    · rfl
    · rfl
  have hvi : ∀ j, j < xs.length → vnth (.tuple (v :: List.replicate xs.length (.slice none 0 0)).toArray) (j + 1) = .slice none 0 0 := fun j hj => by
    rw [vnth_list]
    simp [List.getD_eq_getElem?_getD, List.getElem?_replicate, hj]
  refine ⟨⟨_, rfl, by simp⟩, ⟨hz, hsi, Tb.ini_flat hn hf⟩, fun i j b hi hj => ?_, vals, by rw [hv0, List.length_map]; exact hown, fun i r hi => ?_⟩
  · cases i with
    | zero => cases j with
      | zero => rfl
      | succ j => rw [hvS] at hj; cases hj
    | succ i => rw [hvS] at hi; cases hi
  · rw [List.getElem?_map] at hi
    obtain ⟨x, hx, rfl⟩ := Option.map_eq_some_iff.1 hi
    have hnx := List.all_eq_true.1 hn x (List.mem_of_getElem? hx)
    obtain ⟨c1, c2⟩ := Tb.ini_comps hnx
    have hin := Tb.ini_inn hnx
    have hlt := (List.getElem?_eq_some_iff.1 hx).1
    obtain ⟨u, hu, hru⟩ := hrow i x T.off .nils hx (Tb.nilAt_iff.1 hnx)
    have hun := nilv_rep hru
    subst hun
    refine ⟨⟨by rw [c1, hin, List.getElem?_set_self c2], by rw [hin]; intro y hy; cases hy⟩, fun _ => ?_, (fun h => by cases h), fun j d hj hd => ?_⟩
    · rw [hvi i hlt, hin]
      exact ⟨hu, [], Owns.nil, fun i x j d hx => by simp at hx⟩
    · rw [c1, List.getElem?_set_ne (fun h => hj h.symm)] at hd
      exact hrow i x j d hx hd
theorem HInv.totab (hI : HInv X (lk hp) ν used w) (hk : ¬ used key) {k : Nat} {e : TypeId} {sz : Nat} {xs : List D} {T : Tb} (ho : lk hp k = some (.row e sz xs)) (he : T.eo = e) (hs : T.so = sz) (hsi : 0 < T.si) (hn : xs.all T.nilAt = true) :
    HInv X (lk (put (del hp k) key (.tab T (xs.map T.ini) none))) (upd ν key (.tuple (ν k :: List.replicate xs.length (.slice none 0 0)).toArray)) (fun q => used q ∨ q = key) w ∧
    Ext (Mut X.M0 (lk hp) ν) (lk hp) ν used w (Mut X.M0 (lk (put (del hp k) key (.tab T (xs.map T.ini) none))) (upd ν key (.tuple (ν k :: List.replicate xs.length (.slice none 0 0)).toArray)))
      (lk (put (del hp k) key (.tab T (xs.map T.ini) none))) (upd ν key (.tuple (ν k :: List.replicate xs.length (.slice none 0 0)).toArray)) (fun q => used q ∨ q = key) w := by
  subst he hs
  obtain ⟨vals, hown, hz, hf, hrow⟩ := hI.obj _ _ ho
  have hku : used k := hI.usd _ _ ho
  have hkk : k ≠ key := fun e => hk (e ▸ hku)
  generalize hv1 : (Value.tuple (ν k :: List.replicate xs.length (.slice none 0 0)).toArray) = v1
  generalize ho1 : HO.tab T (xs.map T.ini) none = o1
  have hvb : ∀ b, hasB v1 b → hasB (ν k) b := fun b hb => by
    rw [← hv1] at hb
    obtain ⟨j, hj⟩ := hasB_tup.1 hb
    rw [vnth_list] at hj
    cases j with
    | zero =>
      obtain ⟨a, c, h, _⟩ := own_value hown
      exact (blk_slice h).2 (by simpa using hj)
    | succ j =>
      simp only [List.getD_eq_getElem?_getD, List.getElem?_cons_succ, List.getElem?_replicate] at hj
      split at hj <;> cases hj
  let C : Nat → Prop := fun j => j = k ∨ j = key
  have hlk : ∀ j, lk (put (del hp k) key o1) j = if j = key then some o1 else if j = k then none else lk hp j := fun j => by
    by_cases e : j = key
    · subst e; rw [lk_put_same, if_pos rfl]
    · rw [lk_put_other _ _ _ _ e, if_neg e]
      by_cases e' : j = k
      · subst e'; rw [lk_del_same, if_pos rfl]
      · rw [lk_del_other _ _ _ e', if_neg e']
  have hsame : ∀ j o, ¬ C j → lk (put (del hp k) key o1) j = some o → lk hp j = some o := fun j o hC h => by
    rw [hlk, if_neg (fun e => hC (.inr e)), if_neg (fun e => hC (.inl e))] at h; exact h
  have hνC : ∀ j, ¬ C j → upd ν key v1 j = ν j := fun j hC => upd_other _ _ _ _ (fun e => hC (.inr e))
  have honly : ∀ j o, C j → lk (put (del hp k) key o1) j = some o → j = key ∧ o = o1 := fun j o hC h => by
    rcases hC with e | e
    · subst e
      rw [hlk, if_neg hkk, if_pos rfl] at h; cases h
    · subst e
      rw [lk_put_same] at h; cases h; exact ⟨rfl, rfl⟩
  have hx : Ext (Mut X.M0 (lk hp) ν) (lk hp) ν used w (Mut X.M0 (lk (put (del hp k) key o1)) (upd ν key v1)) (lk (put (del hp k) key o1)) (upd ν key v1) (fun q => used q ∨ q = key) w := by
    refine Ext.bulk C hsame hνC (Nat.le_refl _) (fun _ _ _ => rfl) (fun _ h => .inl h) (fun j o b hC hj hb _ => ?_) (fun j o hC hju hj => ?_)
    · obtain ⟨rfl, rfl⟩ := honly j o hC hj
      rw [upd_same] at hb
      exact ⟨k, _, ho, hvb b hb⟩
    · obtain ⟨rfl, rfl⟩ := honly j o hC hj
      exact absurd hju hk
  refine ⟨hI.bulk C hsame hνC (Bl.refl _ _) hx (fun j o hC hj => .inr (honly j o hC hj).1) (fun j o b hC hj hb => ?_) (fun _ _ _ _ _ _ => rfl) (fun j o hC hj => ?_), hx⟩
  · obtain ⟨rfl, rfl⟩ := honly j o hC hj
    rw [upd_same] at hb
    have h := hvb b hb
    refine ⟨(hI.blk _ _ _ ho h).1, (hI.blk _ _ _ ho h).2, hI.far _ _ _ ho h, fun j' o' hj' hb' => ?_⟩
    by_cases hC2 : C j'
    · exact (honly j' o' hC2 hj').1
    · rw [hνC j' hC2] at hb'
      exact absurd (.inl (hI.inj _ _ _ _ _ (hsame j' o' hC2 hj') ho hb' h)) hC2
  · obtain ⟨rfl, rfl⟩ := honly j o hC hj
    rw [upd_same]
    subst ho1 hv1
    exact RepT.ofNils hown hz hsi hf (hrow.mono hx.same hx.shrink) hn
def NRow (base : Nat) (w : World) (M : Nat → Prop) (T : Tb) (news : List Value) (i : Nat) (r : D) (u : Value) : Prop :=
  (r.comps[T.off]? = some (.sl T.si (T.inn r)) ∧ Flat T.si (T.inn r)) ∧
    (news[i * T.so + T.off]? = some u ∧ ∃ vs, Owns w base T.ei T.si u (T.inn r).length vs ∧ RepRow w M T.si (T.inn r) vs) ∧
    ∀ (j : Nat) d, j ≠ T.off → r.comps[j]? = some d → ∃ u, news[i * T.so + j]? = some u ∧ RepD w M d u
theorem RepT.app {base : Nat} {w w' : World} {M M' : Nat → Prop} {v0' : Value} {vs : Array Value} {T : Tb} {rows ys : List D} {us vals news : List Value}
    (hvs : vs.size = rows.length + 1) (h1 : 0 < T.so ∧ 0 < T.si ∧ Flat T.so rows) (h2 : ∀ i j b, blockOf (vnth (.tuple vs) i) = some b → blockOf (vnth (.tuple vs) j) = some b → i = j)
    (hvl : vals.length = rows.length * T.so) (hr : ∀ (i : Nat) r, rows[i]? = some r → TRow base w M (.tuple vs) T vals none i r) (hf : Flat T.so ys) (hul : us.length = ys.length)
    (hn : ∀ (i : Nat) r u, ys[i]? = some r → us[i]? = some u → NRow base w' M' T news i r u)
    (hown' : Owns w' base T.eo T.so v0' (rows.length + ys.length) (vals ++ news))
    (hblk : ∀ j b, j ≠ 0 → blockOf (vnth (.tuple vs) j) = some b → w'.heap[b]? = w.heap[b]?)
    (hap0 : ∀ j b, j ≠ 0 → blockOf (vnth (.tuple vs) j) = some b → blockOf v0' ≠ some b)
    (hap : ∀ (i : Nat) u b, us[i]? = some u → blockOf u = some b → blockOf v0' ≠ some b ∧ (∀ j, j ≠ 0 → blockOf (vnth (.tuple vs) j) ≠ some b) ∧ ∀ (i' : Nat) u', us[i']? = some u' → blockOf u' = some b → i = i')
    (hs : Same M w w') (hM : ∀ b, b < w.heap.size → M' b → M b) : RepT base w' M' (.tuple (v0' :: (vs.toList.drop 1 ++ us)).toArray) T (rows ++ ys) none := by
  have hv0 : vnth (.tuple (v0' :: (vs.toList.drop 1 ++ us)).toArray) 0 = v0' := by rw [vnth_list]; rfl
  have hvo : ∀ j, j < rows.length → vnth (.tuple (v0' :: (vs.toList.drop 1 ++ us)).toArray) (j + 1) = vnth (.tuple vs) (j + 1) := fun j hj => by
    rw [vnth_list]
    simp only [List.getD_eq_getElem?_getD, List.getElem?_cons_succ, vnth, Array.getD_eq_getD_getElem?]
    rw [List.getElem?_append_left (by simp; omega), List.getElem?_drop]
    simp [Nat.add_comm]
  have hvn : ∀ j, vnth (.tuple (v0' :: (vs.toList.drop 1 ++ us)).toArray) (rows.length + j + 1) = us.getD j undef := fun j => by
    rw [vnth_list]
    simp only [List.getD_eq_getElem?_getD, List.getElem?_cons_succ]
    rw [List.getElem?_append_right (by simp; omega)]
    congr 2
    simp; omega
  have hcase : ∀ j b, blockOf (vnth (.tuple (v0' :: (vs.toList.drop 1 ++ us)).toArray) j) = some b → (j = 0 ∧ blockOf v0' = some b) ∨ (∃ i, j = i + 1 ∧ i < rows.length ∧ blockOf (vnth (.tuple vs) (i + 1)) = some b) ∨ ∃ i u, j = rows.length + i + 1 ∧ us[i]? = some u ∧ blockOf u = some b := fun j b hb => by
    cases j with
    | zero => rw [hv0] at hb; exact .inl ⟨rfl, hb⟩
    | succ j =>
      by_cases hj : j < rows.length
      · rw [hvo j hj] at hb; exact .inr (.inl ⟨j, rfl, hj, hb⟩)
      · have e : j + 1 = rows.length + (j - rows.length) + 1 := by omega
        rw [e, hvn] at hb
        refine .inr (.inr ⟨j - rows.length, us.getD (j - rows.length) undef, e, ?_, hb⟩)
        simp only [List.getD_eq_getElem?_getD] at hb ⊢
        cases h : us[j - rows.length]? with
        | none => simp [h, undef, blockOf] at hb
        | some u => rfl
  refine ⟨⟨_, rfl, by simp [hvs, hul]⟩, ⟨h1.1, h1.2.1, h1.2.2.append hf⟩, fun i j b hi hj => ?_, vals ++ news, by rw [hv0, List.length_append]; exact hown', fun i r hi => ?_⟩
  · rcases hcase i b hi with ⟨rfl, hi⟩ | ⟨i, rfl, hil, hi⟩ | ⟨i, u, rfl, hu, hi⟩ <;> rcases hcase j b hj with ⟨rfl, hj⟩ | ⟨j, rfl, hjl, hj⟩ | ⟨j, u', rfl, hu', hj⟩
    · rfl
    · exact absurd hi (hap0 _ _ (by omega) hj)
    · exact absurd hi (hap _ _ _ hu' hj).1
    · exact absurd hj (hap0 _ _ (by omega) hi)
    · exact h2 _ _ _ hi hj
    · exact absurd hi ((hap _ _ _ hu' hj).2.1 _ (by omega))
    · exact absurd hj (hap _ _ _ hu hi).1
    · exact absurd hj ((hap _ _ _ hu hi).2.1 _ (by omega))
    · have := (hap _ _ _ hu hi).2.2 _ _ hu' hj; omega
  · by_cases hlt : i < rows.length
    · rw [List.getElem?_append_left hlt] at hi
      obtain ⟨a1, a2, a3, a4⟩ := hr i r hi
      have hfr := h1.2.2 r (List.mem_of_getElem? hi)
      have hcell : ∀ j, j < T.so → (vals ++ news)[i * T.so + j]? = vals[i * T.so + j]? := fun j hj => List.getElem?_append_left (by rw [hvl]; exact row_at hlt hj)
      have hofl : T.off < T.so := by rw [← hfr.1]; exact (List.getElem?_eq_some_iff.1 a1.1).1
      refine ⟨a1, fun _ => ?_, (fun h => by cases h), fun j d hj hd => ?_⟩
      · obtain ⟨b1, us', b2, b3⟩ := a2 (by simp)
        rw [hvo i hlt, hcell _ hofl]
        exact ⟨b1, us', b2.keep (fun b hb => hblk _ b (by omega) hb), b3.mono hs hM⟩
      · obtain ⟨u, hu, hru⟩ := a4 j d hj hd
        have hjl := (List.getElem?_eq_some_iff.1 hd).1
        exact ⟨u, by rw [hcell _ (by omega)]; exact hu, hru.mono hs hM⟩
    · rw [List.getElem?_append_right (by omega)] at hi
      have hil := (List.getElem?_eq_some_iff.1 hi).1
      have hu := List.getElem?_eq_getElem (l := us) (i := i - rows.length) (by omega)
      obtain ⟨a1, a2, a4⟩ := hn _ r _ hi hu
      have e : i + 1 = rows.length + (i - rows.length) + 1 := by omega
      have hcell : ∀ j, (vals ++ news)[i * T.so + j]? = news[(i - rows.length) * T.so + j]? := fun j => by
        have hle : rows.length * T.so ≤ i * T.so := Nat.mul_le_mul_right _ (by omega)
        rw [List.getElem?_append_right (by rw [hvl]; omega), hvl]
        congr 1
        rw [Nat.sub_mul]; omega
      refine ⟨a1, fun _ => ?_, (fun h => by cases h), fun j d hj hd => ?_⟩
      · rw [e, hvn, hcell]
        simp only [List.getD_eq_getElem?_getD, hu, Option.getD_some]
        exact a2
      · rw [hcell]; exact a4 j d hj hd
def evAppendTD (P : Program) (H : Nat → Option HO) (t : TypeId) (x y : AV) : Option (AV × List (Nat × Option HO) × List Nat) :=
  match x, y with
  | .tab k n, .own r m => match elT P t with
    | some e => match szT P e, byT P e with
      | some sz, some b => if zOk P e = true then match H k, H r with
        | some (.tab T rows none), some (.row e' sz' ys) => if n = rows.length ∧ m = ys.length ∧ T.eo = e ∧ T.so = sz ∧ e' = e ∧ sz' = sz ∧ r ≠ k ∧ room (rows.length + ys.length) b ∧ ys.all T.nilAt = true then
            some (.tab k (rows.length + ys.length), [(r, none), (k, some (.tab T (rows ++ ys.map T.ini) none))], [k, r])
          else none
        | _, _ => none
        else none
      | _, _ => none
    | none => none
  | _, _ => none
theorem evAppendTD_sound (hI : HInv X (lk hp) ν used w) (hk : ¬ used key) {t ty : TypeId} {x y r : AV} {vx vy : Value} {es : List (Nat × Option HO)} {acc : List Nat}
    (hx : RepA w (Mut X.M0 (lk hp) ν) (lk hp) ν used x vx) (hy : RepA w (Mut X.M0 (lk hp) ν) (lk hp) ν used y vy) (he : evAppendTD P (lk hp) t x y = some (r, es, acc)) :
    ∃ v w', (Builtin.append_ #[t, t] ty #[vx, vy]).run P w = .ok v w' ∧ Post X hp ν used w key (eff hp es) r v w' := by
  unfold evAppendTD at he
  split at he
  · rename_i k n q m
    split at he
    · rename_i e hel
      split at he
      · rename_i sz b hsz hb
        split at he
        · rename_i hzo
          split at he
          · rename_i T rows e' sz' ys ho hoq
            split at he
            · rename_i hc
              obtain ⟨hn, hm, rfl, rfl, rfl, rfl, hqk, hroom, hnil⟩ := hc
              simp only [Option.some.injEq, Prod.mk.injEq] at he
              obtain ⟨rfl, rfl, rfl⟩ := he
              have hyd : toD (lk hp) (.own q m) = some (.sl T.so ys, [q]) := by simp [toD, hoq, hm]
              have hdr := toD_drop hI hy hyd
              obtain ⟨hI1, x1⟩ := hI.drops [q]
              have ho1 : lk (dels hp [q]) k = some (.tab T rows none) := by rw [lk_dels_other _ _ _ (by simp; exact fun h => hqk h.symm)]; exact ho
              cases hx with
              | tab hu hv hcc ha h =>
                obtain ⟨_, _, _, he, _, hvν⟩ := h _ ho
                cases he
                have hvν := hvν hn
                obtain ⟨⟨vs, hvs, hvsz⟩, h1, h2, vals, hown, hr⟩ := hI1.obj _ _ ho1
                rw [hvν]
                obtain ⟨v', w', news, hrun, g1, g2, g3, g4, g5, g6⟩ := run_append_any (P := P) hel hsz hb h1.1 hzo ty hown hdr hroom hI1.below.size
                refine ⟨v', w', hrun, ?_⟩
                have heff : eff hp [(q, none), (k, some (.tab T (rows ++ ys.map T.ini) none))] = put (dels hp [q]) k (.tab T (rows ++ ys.map T.ini) none) := rfl
                rw [heff]
                generalize hhp : dels hp [q] = hp1 at hI1 x1 ho1 hdr g4 hr ⊢
                have hob0 : ∀ b, (vnth (ν k) 0).ownBlock = some b → blockOf (vnth (ν k) 0) = some b := fun b hb => by
                  obtain ⟨a, c, h, _⟩ := own_value hown
                  rw [h] at hb ⊢
                  cases a with
                  | none => simp [Value.ownBlock] at hb
                  | some a => simpa [Value.ownBlock, blockOf] using hb
                have hob' : ∀ b, blockOf v' = some b ↔ v'.ownBlock = some b := fun b => by
                  rcases g1.2 with ⟨h, _⟩ | ⟨g, cap, cur, h, _⟩ <;> rw [h] <;> simp [blockOf, Value.ownBlock]
                have hob0' : ∀ b, blockOf (vnth (ν k) 0) = some b ↔ (vnth (ν k) 0).ownBlock = some b := fun b => by
                  rcases hown.2 with ⟨h, _⟩ | ⟨g, cap, cur, h, _⟩ <;> rw [h] <;> simp [blockOf, Value.ownBlock]
                have hv0B : ∀ b, (vnth (ν k) 0).ownBlock = some b → hasB (ν k) b := fun b hb => hasB_vnth hvs ((hob0' b).2 hb)
                let v1 : Value := .tuple (v' :: (vs.toList.drop 1 ++ List.replicate ys.length (.slice none 0 0))).toArray
                have hv1B : ∀ b, hasB v1 b → v'.ownBlock = some b ∨ ∃ j, j ≠ 0 ∧ blockOf (vnth (ν k) j) = some b := fun b hb => by
                  obtain ⟨u, hu, hub⟩ := hb
                  simp only [List.toList_toArray, List.mem_cons, List.mem_append] at hu
                  rcases hu with rfl | hu | hu
                  · exact .inl ((hob' b).1 hub)
                  · obtain ⟨j, hj⟩ := List.mem_iff_getElem?.1 hu
                    rw [List.getElem?_drop] at hj
                    refine .inr ⟨1 + j, by omega, ?_⟩
                    rw [hvs]
                    have : vs[1 + j]? = some u := by simpa using hj
                    simp [vnth, Array.getD_eq_getD_getElem?, this, hub]
                  · rw [List.eq_of_mem_replicate hu] at hub; cases hub
                have hv'c : ∀ b, v'.ownBlock = some b → (vnth (ν k) 0).ownBlock = some b ∨ w.heap.size ≤ b := fun b hb => by
                  rcases g5 with h | ⟨g, h, hle⟩
                  · exact .inl (h ▸ hb)
                  · rw [hb] at h; cases h; exact .inr hle
                have hv1O : ∀ b, hasB v1 b → hasB (ν k) b ∨ w.heap.size ≤ b := fun b hb => by
                  rcases hv1B b hb with h | ⟨j, _, h⟩
                  · rcases hv'c b h with h | h
                    · exact .inl (hv0B b h)
                    · exact .inr h
                  · exact .inl (hasB_vnth hvs h)
                let C : Nat → Prop := fun j => j = k
                let o1 : HO := .tab T (rows ++ ys.map T.ini) none
                have hsame : ∀ j o, ¬ C j → lk (put hp1 k o1) j = some o → lk hp1 j = some o := fun j o hC h => by rw [lk_put_other _ _ _ _ hC] at h; exact h
                have hνC : ∀ j, ¬ C j → upd ν k v1 j = ν j := fun j hC => upd_other _ _ _ _ hC
                have honly : ∀ j o, C j → lk (put hp1 k o1) j = some o → j = k ∧ o = o1 := fun j o hC h => by
                  have hC : j = k := hC
                  subst hC
                  rw [lk_put_same] at h; cases h; exact ⟨rfl, rfl⟩
                have hvk0 : vnth v1 0 = v' := by show vnth (.tuple _) 0 = _; rw [vnth_list]; rfl
                have hvkS : ∀ i, i < rows.length → vnth v1 (i + 1) = vnth (ν k) (i + 1) := fun i hi => by
                  show vnth (.tuple _) (i + 1) = _
                  rw [vnth_list, hvs]
                  simp only [List.getD_eq_getElem?_getD, List.getElem?_cons_succ, vnth, Array.getD_eq_getD_getElem?]
                  rw [List.getElem?_append_left (by simp; omega), List.getElem?_drop]
                  simp [Nat.add_comm]
                have hxx : Ext (Mut X.M0 (lk hp1) ν) (lk hp1) ν used w (Mut X.M0 (lk (put hp1 k o1)) (upd ν k v1)) (lk (put hp1 k o1)) (upd ν k v1) used w' := by
                  refine Ext.bulk C hsame hνC g2.lo.size (fun b hb hO => g2.lo.block b hb (fun h => hO ⟨k, _, ho1, hv0B b h.symm⟩)) (fun _ h => h) (fun j o b hC hj hb hlt => ?_) (fun j o hC hju hj => ?_)
                  · obtain ⟨rfl, rfl⟩ := honly j o hC hj
                    rw [upd_same] at hb
                    rcases hv1O b hb with h | h
                    · exact ⟨_, _, ho1, h⟩
                    · omega
                  · obtain ⟨rfl, rfl⟩ := honly j o hC hj
                    refine ⟨_, ho1, ⟨rfl, by simp, fun i hi => ⟨?_, fun h => by cases h⟩⟩, ?_, ?_⟩
                    · unfold Tb.ilen
                      rw [List.getD_eq_getElem?_getD, List.getD_eq_getElem?_getD, List.getElem?_append_left hi]
                      exact Nat.le_refl _
                    · intro hl
                      rw [upd_same, hvk0]
                      have : ys = [] := by simpa using hl
                      exact g6 this
                    · intro i hi _ _
                      rw [upd_same]
                      exact hvkS i hi
                have hbel : Bl X.base w w' := Bl.grown g2 hI1.below.size (fun b hb => (hI1.blk _ _ _ ho1 (hv0B b hb)).1)
                have hI2 : HInv X (lk (put hp1 k o1)) (upd ν k v1) used w' := by
                  refine hI1.bulk C hsame hνC hbel hxx (fun j o hC hj => by obtain ⟨rfl, _⟩ := honly j o hC hj; exact hu) (fun j o b hC hj hb => ?_) (fun j o b hC hj hb => ?_) (fun j o hC hj => ?_)
                  · obtain ⟨rfl, rfl⟩ := honly j o hC hj
                    rw [upd_same] at hb
                    have hoth : ∀ j' o', lk (put hp1 j o1) j' = some o' → hasB (upd ν j v1 j') b → j' ≠ j → lk hp1 j' = some o' ∧ hasB (ν j') b := fun j' o' hj' hb' hne => by
                      rw [lk_put_other _ _ _ _ hne] at hj'
                      rw [upd_other _ _ _ _ hne] at hb'
                      exact ⟨hj', hb'⟩
                    rcases hv1O b hb with h | h
                    · have hbk := hI1.blk _ _ _ ho1 h
                      refine ⟨hbk.1, Nat.lt_of_lt_of_le hbk.2 g2.lo.size, hI1.far _ _ _ ho1 h, fun j' o' hj' hb' => ?_⟩
                      by_cases hne : j' = j
                      · exact hne
                      · obtain ⟨p1, p2⟩ := hoth j' o' hj' hb' hne
                        exact hI1.inj _ _ _ _ _ p1 ho1 p2 h
                    · have hb0 : v'.ownBlock = some b := by
                        rcases hv1B b hb with h' | ⟨i, _, h'⟩
                        · exact h'
                        · have := (hI1.blk _ _ _ ho1 (hasB_vnth hvs h')).2; omega
                      refine ⟨(g1.lt b hb0).1, (g1.lt b hb0).2, fun hh => by have := hI1.M0 _ hh; omega, fun j' o' hj' hb' => ?_⟩
                      by_cases hne : j' = j
                      · exact hne
                      · obtain ⟨p1, p2⟩ := hoth j' o' hj' hb' hne
                        have := (hI1.blk _ _ _ p1 p2).2
                        omega
                  · have hjk : j ≠ k := hC
                    rw [lk_put_other _ _ _ _ hjk] at hj
                    exact g2.lo.block b (hI1.blk _ _ _ hj hb).2 (fun h => hjk (hI1.inj _ _ _ _ _ hj ho1 hb (hv0B b h.symm)))
                  · obtain ⟨rfl, rfl⟩ := honly j o hC hj
                    rw [upd_same]
                    have hvs' := hvs
                    rw [hvs'] at h2 hr
                    refine RepT.app (w := w) (M := Mut X.M0 (lk hp1) ν) hvsz h1 h2 hown.1 hr (Tb.ini_flat hnil g3) (by simp) (fun i r u hi hu => ?_) (by rw [List.length_map]; exact g1) (fun j' b hj' hb' => ?_) (fun j' b hj' hb' hh => ?_) (fun i u b hu hb => ?_) hxx.same hxx.shrink
                    · rw [List.getElem?_map] at hi
                      obtain ⟨y, hy, rfl⟩ := Option.map_eq_some_iff.1 hi
                      have hny := List.all_eq_true.1 hnil y (List.mem_of_getElem? hy)
                      obtain ⟨c1, c2⟩ := Tb.ini_comps hny
                      have hin := Tb.ini_inn hny
                      rw [List.getElem?_replicate] at hu
                      split at hu
                      · cases hu
                        obtain ⟨u, hu, hru⟩ := g4 i y T.off .nils hy (Tb.nilAt_iff.1 hny)
                        have hun := nilv_rep hru
                        subst hun
                        refine ⟨⟨by rw [c1, hin, List.getElem?_set_self c2], by rw [hin]; intro y hy; cases hy⟩, ⟨hu, by rw [hin]; exact ⟨[], Owns.nil, fun i x j d hx => by simp at hx⟩⟩, fun j d hj hd => ?_⟩
                        rw [c1, List.getElem?_set_ne (fun h => hj h.symm)] at hd
                        obtain ⟨u, hu, hru⟩ := g4 i y j d hy hd
                        exact ⟨u, hu, hru.mono hxx.same hxx.shrink⟩
                      · cases hu
                    · rw [← hvs'] at hb' h2
                      exact g2.lo.block b (hI1.blk _ _ _ ho1 (hasB_vnth hvs hb')).2 (fun h => hj' (h2 _ _ _ hb' ((hob0' b).2 h.symm)))
                    · rw [← hvs'] at hb' h2
                      rcases hv'c b ((hob' b).1 hh) with h | h
                      · exact hj' (h2 _ _ _ hb' ((hob0' b).2 h))
                      · have := (hI1.blk _ _ _ ho1 (hasB_vnth hvs hb')).2; omega
                    · rw [List.getElem?_replicate] at hu
                      split at hu
                      · cases hu; cases hb
                      · cases hu
                obtain ⟨m1, m2⟩ := hI2.more hk
                refine ⟨_, m1, (x1.trans hxx).trans m2, ?_⟩
                obtain ⟨a, c, p1, p2, p3⟩ := own_value g1
                refine .tab (.inl hu) p1 p2 p3 fun o ho' => ?_
                rw [lk_put_same] at ho'
                cases ho'
                exact ⟨_, _, _, rfl, by simp, fun _ => by rw [upd_same]; exact hvk0.symm⟩
            · cases he
          · cases he
        · cases he
      · cases he
    · cases he
  · cases he
end
end Go.Eng
set_option linter.unusedVariables false
set_option linter.unusedSimpArgs false
namespace Go.Eng
open Go.RowKit
def evBuildSliceT (P : Program) (key : Nat) (H : Nat → Option HO) (t : TypeId) (len : Nat) (ps : List (Nat × AV)) : Option (AV × List (Nat × Option HO) × List Nat) :=
  match ps with
  | [p] => match p.2 with
    | .own q m => match elT P t, H q with
      | some e, some (.row ei si xs) => match szT P e with
        | some sz => if p.1 = 0 ∧ 500000 ≤ key ∧ sz = 1 ∧ len = 1 ∧ m = xs.length ∧ (zeroD P e).isSome = true then
            some (.tab key 1, [(q, none), (key, some (.tab ⟨e, 1, 0, ei, si⟩ [.sl si xs] none))], [q])
          else none
        | none => none
      | _, _ => none
    | _ => none
  | _ => none
def evAppendTT (P : Program) (H : Nat → Option HO) (t : TypeId) (k n q m : Nat) : Option (AV × List (Nat × Option HO) × List Nat) :=
  match elT P t with
  | some e => match szT P e, byT P e with
    | some sz, some b => if zOk P e = true then match H k, H q with
      | some (.tab T rows none), some (.tab T2 [.sl z xs] none) => if n = rows.length ∧ m = 1 ∧ T.eo = e ∧ T.so = 1 ∧ T.off = 0 ∧ sz = 1 ∧ T2.so = 1 ∧ T2.off = 0 ∧ T2.ei = T.ei ∧ T2.si = T.si ∧ z = T.si ∧ q ≠ k ∧ room (rows.length + 1) b then
          some (.tab k (rows.length + 1), [(q, none), (k, some (.tab T (rows ++ [.sl T.si xs]) none))], [k, q])
        else none
      | _, _ => none
      else none
    | _, _ => none
  | none => none
section
variable {P : Program} {X : Ctx} {hp : Heap} {ν : Nat → Value} {used : Nat → Prop} {w : World} {key : Nat}
theorem run_append_news {P : Program} {w : World} {base : Nat} {t e : TypeId} {sz b : Nat} (hel : elT P t = some e) (hsz : szT P e = some sz) (hb : byT P e = some b) (hz : 0 < sz) (hzo : zOk P e = true) (ty : TypeId)
    {v : Value} {n : Nat} {vals : List Value} (hown : Owns w base e sz v n vals) {a : Addr} {m c : Nat} {news : List Value} (hl : news.length = m * sz) (h1 : ∀ (j : Nat) v, news[j]? = some v → w.cell? (a.add j) = some v) (h2 : ∀ v ∈ news, v.oneCell' = true)
    (hm0 : 0 < m) (hroom : room (n + m) b) (hbase : base ≤ w.heap.size) :
    ∃ v' w', (Builtin.append_ #[t, t] ty #[v, .slice (some a) m c]).run P w = .ok v' w' ∧ Owns w' base e sz v' (n + m) (vals ++ news) ∧ Gb w w' v.ownBlock ∧ (v'.ownBlock = v.ownBlock ∨ ∃ g, v'.ownBlock = some g ∧ w.heap.size ≤ g) := by
  have ht := elT_und hel
  obtain ⟨i, hi, hisz⟩ := szT_info hsz
  have hib : i.bytes = b := by simp [byT, hi] at hb; exact hb
  unfold zOk at hzo
  rw [hi] at hzo
  simp only at hzo
  cases hzz : i.zero with
  | none => simp [hzz] at hzo
  | some z =>
    simp [hzz] at hzo
    have hsz' : i.size = sz := hisz
    subst hsz'
    have hr2 := hroom.2
    have hzs : z.cells.size = i.size := by omega
    have hlen : (vals ++ news).length = (n + m) * i.size := by rw [List.length_append, hown.1, hl, Nat.add_mul]
    have grown : ∀ (old : Nat) (row : Option Nat),
        Owns (w.drew.alloc (.cells (vals.toArray ++ news.toArray ++ Builtin.zeroCells z.cells (grownCap w (n + m) old e - (n + m))) e)) base e i.size (.slice (some ⟨w.heap.size, 0, none⟩) (n + m) (grownCap w (n + m) old e)) (n + m) (vals ++ news) ∧
        Gb w (w.drew.alloc (.cells (vals.toArray ++ news.toArray ++ Builtin.zeroCells z.cells (grownCap w (n + m) old e - (n + m))) e)) row := fun old row => by
      have hge := grownCap_ge w (n + m) old e
      refine ⟨⟨hlen, .inr ⟨w.heap.size, _, _, rfl, hbase, heap_alloc_new w.drew _, hge, grownCap_le_maxLen w _ old e (by simp only [maxLen]; omega), ?_, ?_⟩⟩, ⟨⟨rfl, rfl, rfl, by simp, fun k hk _ => heap_alloc_old w.drew _ hk⟩, Nat.le_succ _⟩⟩
      · simp only [Array.size_append, List.size_toArray, size_zeroCells, hzs, hown.1, hl, ← Nat.add_mul]
        exact Nat.mul_le_mul_right _ (by omega)
      · simp only [Array.toList_append, List.append_assoc]
        rw [← List.append_assoc, ← hlen]
        exact List.take_left
    show ∃ v' w', (Builtin.append_ #[t, t] ty #[v, .slice (some a) m c]).run P w = .ok v' w' ∧ Owns w' base e i.size v' (n + m) (vals ++ news) ∧ Gb w w' v.ownBlock ∧ (v'.ownBlock = v.ownBlock ∨ ∃ g, v'.ownBlock = some g ∧ w.heap.size ≤ g)
    rcases hown.2 with ⟨rfl, rfl⟩ | ⟨g, cap, cur, rfl, hbg, hg, hnc, hcm, hcs, htake⟩
    · have hv0 : vals = [] := List.eq_nil_of_length_eq_zero (by simpa using hown.1)
      subst hv0
      have hr := run_append_nil (P := P) w t ty e i z ht hi hzz a m c news hl h1 (by omega) (by omega) (by have := hroom.1; subst hib; simp only [Nat.zero_add] at this; omega)
      have hgr := grown 0 (Value.ownBlock (.slice none 0 0))
      simp only [Nat.zero_add, List.nil_append, Array.empty_append] at hgr ⊢
      exact ⟨_, _, hr, hgr.1, hgr.2, .inr ⟨_, rfl, Nat.le_refl _⟩⟩
    · by_cases hc : n + m ≤ cap
      · have hcc : (n + m) * i.size ≤ cap * i.size := Nat.mul_le_mul_right _ hc
        have hfit : n * i.size + news.length ≤ cur.size := by rw [hl, ← Nat.add_mul]; omega
        have hr := run_append_room (P := P) w t ty e i ht hi g n cap cur hg a m c news hl h1 h2 hc hfit
        refine ⟨_, _, hr, ⟨hlen, .inr ⟨g, cap, _, rfl, hbg, setRow_heap w g cur _ e _ hg, hc, hcm, ?_, ?_⟩⟩, ⟨⟨rfl, rfl, rfl, by simp, fun k _ hk => setRow_other w g k _ (fun e => hk (by simp [Value.ownBlock, e]))⟩, Nat.le_refl _⟩, .inl rfl⟩
        · simp only [List.size_toArray, List.length_append, List.length_take, List.length_drop, Array.length_toList]
          omega
        · rw [htake, ← hlen]
          exact List.take_left
      · have holds : ∀ (j : Nat) u, vals[j]? = some u → w.cell? ((⟨g, 0, none⟩ : Addr).add j) = some u := hown.cells (g := g) rfl
        have hr := run_append_grow (P := P) w t ty e i z ht hi hzz ⟨g, 0, none⟩ n cap vals hown.1 holds a m c news hl h1 (by omega) (by omega)
          (growslice_fits (by omega) (by rw [hib]; exact hroom.1))
        have hgr := grown cap (Value.ownBlock (.slice (some ⟨g, 0, none⟩) n cap))
        exact ⟨_, _, hr, hgr.1, hgr.2, .inr ⟨_, rfl, Nat.le_refl _⟩⟩
theorem vnth2_0 {a b : Value} : vnth (.tuple [a, b].toArray) 0 = a := rfl
theorem vnth2_S {a b : Value} {j : Nat} : vnth (.tuple [a, b].toArray) (j + 2) = undef := by rw [vnth_list]; rfl
theorem inn_sl {T : Tb} (h : T.off = 0) {z : Nat} {xs : List D} : T.inn (.sl z xs) = xs := by unfold Tb.inn; rw [h]; rfl
theorem flat_sl1 {z : Nat} {xs : List D} : Flat 1 [D.sl z xs] := fun x hx => by
  simp only [List.mem_singleton] at hx
  subst hx
  exact ⟨rfl, fun d hd => by simp [D.comps] at hd; subst hd; rfl⟩
theorem evBuildSliceT_sound (hI : HInv X (lk hp) ν used w) (hk : ¬ used key) {t len : Nat} {ps : List (Nat × AV)} {vs : List (Nat × Value)} {r : AV} {es : List (Nat × Option HO)} {acc : List Nat} (hl : ps.length = vs.length)
    (h : ∀ (j : Nat) p q, ps[j]? = some p → vs[j]? = some q → p.1 = q.1 ∧ RepA w (Mut X.M0 (lk hp) ν) (lk hp) ν used p.2 q.2) (he : evBuildSliceT P key (lk hp) t len ps = some (r, es, acc)) :
    ∃ v w', (Instr.buildSlice t len vs.toArray).run P w = .ok v w' ∧ Post X hp ν used w key (eff hp es) r v w' := by
  unfold evBuildSliceT at he
  split at he
  · rename_i p
    obtain ⟨p1, p2⟩ := p
    split at he
    · rename_i q m hp2
      simp only at hp2
      subst hp2
      split at he
      · rename_i e ei si xs hel ho
        split at he
        · rename_i sz hsz
          split at he
          · rename_i hc
            obtain ⟨hp1, _, rfl, rfl, hm, hzd⟩ := hc
            simp only at hp1
            subst hp1
            simp only [Option.some.injEq, Prod.mk.injEq] at he
            obtain ⟨rfl, rfl, rfl⟩ := he
            obtain ⟨i0, v0, rfl⟩ : ∃ i0 v0, vs = [(i0, v0)] := by
              match vs, hl with
              | [(a, b)], _ => exact ⟨a, b, rfl⟩
            obtain ⟨e0, hr0⟩ := h 0 _ _ rfl rfl
            simp only at e0 hr0
            subst e0
            have hku : used q := hI.usd _ _ ho
            have hkk : q ≠ key := fun e => hk (e ▸ hku)
            obtain ⟨uvals, hown, hz, hf, hrow⟩ := hI.obj _ _ ho
            have hv0 : v0 = ν q := by
              cases hr0 with
              | own hu h1 hc ha h =>
                obtain ⟨_, _, _, heq, _, hv⟩ := h _ ho
                cases heq
                exact hv hm
            subst hv0
            obtain ⟨sa, sc, hsl, _⟩ := own_value hown
            obtain ⟨zd, hzd⟩ := Option.isSome_iff_exists.1 hzd
            obtain ⟨z, hzr, _, _⟩ := zeroD_run hzd
            have hcells : (ν q).cells = #[ν q] := by rw [hsl]; rfl
            have g1 : ∀ c0 : Value, Instr.fill (fun i => some (i * 1, 1)) #[c0] [(0, ν q)] = some #[ν q] := fun c0 => by
              simp [Instr.fill, hcells]
            have hrun : (Instr.buildSlice t 1 [(0, ν q)].toArray).run P w = .ok (.slice (some ⟨w.heap.size, 0, none⟩) 1 1) (w.alloc (.cells #[ν q] e)) := by
              have hg : Instr.fill (fun i => some (i * 1, 1)) ((Array.range (1 * 1)).map (fun q => z.cells[q % z.cells.size]!)) [(0, ν q)] = some #[ν q] := by
                have e1 : Array.range (1 * 1) = #[0] := by decide
                rw [e1, List.map_toArray]
                exact g1 _
              simp only [Instr.buildSlice, run_underlying (elT_und hel), Sem.run_bind, Result.andThen_ok, run_sizeOf' hsz, if_neg (show ¬ 1 * 1 > 2 ^ 24 by omega), if_neg (show ¬ 1 * 1 = 0 by omega), Sem.run_pure, hzr, hg]
              simp [newRow]
            refine ⟨_, _, hrun, ?_⟩
            generalize hw' : w.alloc (.cells #[ν q] e) = w'
            have hgN : w'.heap[w.heap.size]? = some (.cells #[ν q] e (0, 0)) := by rw [← hw']; exact heap_alloc_new w _
            have hold : ∀ b, b < w.heap.size → w'.heap[b]? = w.heap[b]? := fun b hb => by rw [← hw']; exact heap_alloc_old w _ hb
            have hsize : w.heap.size ≤ w'.heap.size ∧ w.heap.size < w'.heap.size := by rw [← hw']; simp
            have hbl : Bl w.heap.size w w' := by rw [← hw']; exact Bl.grown (row := none) ⟨World.grownBy_alloc w _ _, Nat.le_refl _⟩ (Nat.le_refl _) (fun b h => by cases h)
            have hbel : Bl X.base w w' := hbl.mono hI.below.size
            generalize hvn : (Value.slice (some ⟨w.heap.size, 0, none⟩) 1 1) = vn
            have hown0 : Owns w' X.base e 1 vn 1 [ν q] := by
              rw [← hvn]
              exact ⟨rfl, .inr ⟨w.heap.size, 1, #[ν q], rfl, hI.below.size, hgN, Nat.le_refl _, by simp [maxLen], by simp, rfl⟩⟩
            have hbn : ∀ b, blockOf vn = some b ↔ b = w.heap.size := fun b => by rw [← hvn]; simp [blockOf]; exact eq_comm
            have hqb : ∀ b, hasB (ν q) b ↔ blockOf (ν q) = some b := fun b => blk_slice hsl
            generalize ho1 : HO.tab ⟨e, 1, 0, ei, si⟩ [.sl si xs] none = o1
            have hef : eff hp [(q, none), (key, some o1)] = put (del hp q) key o1 := rfl
            rw [hef]
            generalize hv1 : (Value.tuple [vn, ν q].toArray) = v1
            have hvb : ∀ b, hasB v1 b → hasB (ν q) b ∨ b = w.heap.size := fun b hb => by
              rw [← hv1] at hb
              obtain ⟨j, hj⟩ := hasB_tup.1 hb
              match j with
              | 0 => exact .inr ((hbn b).1 hj)
              | 1 => exact .inl ((hqb b).2 hj)
              | j + 2 => rw [vnth2_S] at hj; cases hj
            let C : Nat → Prop := fun j => j = q ∨ j = key
            have hlk : ∀ j, lk (put (del hp q) key o1) j = if j = key then some o1 else if j = q then none else lk hp j := fun j => by
              by_cases e : j = key
              · subst e; rw [lk_put_same, if_pos rfl]
              · rw [lk_put_other _ _ _ _ e, if_neg e]
                by_cases e' : j = q
                · subst e'; rw [lk_del_same, if_pos rfl]
                · rw [lk_del_other _ _ _ e', if_neg e']
            have hsame : ∀ j o, ¬ C j → lk (put (del hp q) key o1) j = some o → lk hp j = some o := fun j o hC h => by
              rw [hlk, if_neg (fun e => hC (.inr e)), if_neg (fun e => hC (.inl e))] at h; exact h
            have hνC : ∀ j, ¬ C j → upd ν key v1 j = ν j := fun j hC => upd_other _ _ _ _ (fun e => hC (.inr e))
            have honly : ∀ j o, C j → lk (put (del hp q) key o1) j = some o → j = key ∧ o = o1 := fun j o hC h => by
              rcases hC with e | e
              · subst e
                rw [hlk, if_neg hkk, if_pos rfl] at h; cases h
              · subst e
                rw [lk_put_same] at h; cases h; exact ⟨rfl, rfl⟩
            have hx : Ext (Mut X.M0 (lk hp) ν) (lk hp) ν used w (Mut X.M0 (lk (put (del hp q) key o1)) (upd ν key v1)) (lk (put (del hp q) key o1)) (upd ν key v1) (fun q => used q ∨ q = key) w' := by
              refine Ext.bulk C hsame hνC hsize.1 (fun b hb _ => hold b hb) (fun _ h => .inl h) (fun j o b hC hj hb hlt => ?_) (fun j o hC hju hj => ?_)
              · obtain ⟨rfl, rfl⟩ := honly j o hC hj
                rw [upd_same] at hb
                rcases hvb b hb with h | h
                · exact ⟨q, _, ho, h⟩
                · omega
              · obtain ⟨rfl, rfl⟩ := honly j o hC hj
                exact absurd hju hk
            have hI2 : HInv X (lk (put (del hp q) key o1)) (upd ν key v1) (fun q => used q ∨ q = key) w' := by
              refine hI.bulk C hsame hνC hbel hx (fun j o hC hj => .inr (honly j o hC hj).1) (fun j o b hC hj hb => ?_) (fun j o b hC hj hb => hold b (hI.blk _ _ _ (hsame j o hC hj) hb).2) (fun j o hC hj => ?_)
              · obtain ⟨rfl, rfl⟩ := honly j o hC hj
                rw [upd_same] at hb
                rcases hvb b hb with h | h
                · refine ⟨(hI.blk _ _ _ ho h).1, Nat.lt_of_lt_of_le (hI.blk _ _ _ ho h).2 hsize.1, hI.far _ _ _ ho h, fun j' o' hj' hb' => ?_⟩
                  by_cases hC2 : C j'
                  · exact (honly j' o' hC2 hj').1
                  · rw [hνC j' hC2] at hb'
                    exact absurd (.inl (hI.inj _ _ _ _ _ (hsame j' o' hC2 hj') ho hb' h)) hC2
                · subst h
                  refine ⟨hI.below.size, hsize.2, fun hh => by have := hI.M0 _ hh; omega, fun j' o' hj' hb' => ?_⟩
                  by_cases hC2 : C j'
                  · exact (honly j' o' hC2 hj').1
                  · rw [hνC j' hC2] at hb'
                    have := (hI.blk _ _ _ (hsame j' o' hC2 hj') hb').2
                    omega
              · obtain ⟨rfl, rfl⟩ := honly j o hC hj
                rw [upd_same]
                subst ho1 hv1
                have hqk : ∀ b, blockOf (ν q) = some b → w'.heap[b]? = w.heap[b]? := fun b hb => hold b (hI.blk _ _ _ ho ((hqb b).2 hb)).2
                refine ⟨⟨_, rfl, rfl⟩, ⟨Nat.zero_lt_one, hz, flat_sl1⟩, fun i j b hi hj => ?_, [ν q], by rw [vnth2_0]; exact hown0, fun i r hi => ?_⟩
                · have hne : blockOf vn = some b → blockOf (ν q) = some b → False := fun h1 h2 => by
                    have := (hI.blk _ _ _ ho ((hqb b).2 h2)).2
                    have := (hbn b).1 h1
                    omega
                  match i, j with
                  | 0, 0 => rfl
                  | 1, 1 => rfl
                  | 0, 1 => exact (hne hi hj).elim
                  | 1, 0 => exact (hne hj hi).elim
                  | i + 2, _ => rw [vnth2_S] at hi; cases hi
                  | 0, j + 2 => rw [vnth2_S] at hj; cases hj
                  | 1, j + 2 => rw [vnth2_S] at hj; cases hj
                · cases i with
                  | succ i => simp at hi
                  | zero =>
                    simp only [List.getElem?_cons_zero, Option.some.injEq] at hi
                    subst hi
                    refine ⟨⟨by rw [inn_sl rfl]; rfl, by rw [inn_sl rfl]; exact hf⟩, fun _ => ⟨rfl, uvals, ?_, ?_⟩, (fun h => by cases h), fun j d hj hd => ?_⟩
                    · rw [inn_sl rfl]
                      exact hown.keep hqk
                    · rw [inn_sl rfl]
                      exact hrow.mono hx.same hx.shrink
                    · have := (List.getElem?_eq_some_iff.1 hd).1
                      simp [D.comps] at this
                      exact absurd this hj
            refine ⟨_, hI2, hx, ?_⟩
            obtain ⟨a, c, p1, p2, p3⟩ := own_value hown0
            refine .tab (.inr rfl) p1 p2 p3 fun o ho' => ?_
            rw [lk_put_same] at ho'
            cases ho'
            subst ho1
            exact ⟨_, _, _, rfl, Nat.le_refl _, fun _ => by rw [upd_same, ← hv1]; rfl⟩
          · cases he
        · cases he
      · cases he
    · cases he
  · cases he
theorem evAppendTT_sound (hI : HInv X (lk hp) ν used w) (hk : ¬ used key) {t ty : TypeId} {k n q m : Nat} {r : AV} {vx vy : Value} {es : List (Nat × Option HO)} {acc : List Nat}
    (hx : RepA w (Mut X.M0 (lk hp) ν) (lk hp) ν used (.tab k n) vx) (hy : RepA w (Mut X.M0 (lk hp) ν) (lk hp) ν used (.tab q m) vy) (he : evAppendTT P (lk hp) t k n q m = some (r, es, acc)) :
    ∃ v w', (Builtin.append_ #[t, t] ty #[vx, vy]).run P w = .ok v w' ∧ Post X hp ν used w key (eff hp es) r v w' := by
  unfold evAppendTT at he
  split at he
  · rename_i e hel
    split at he
    · rename_i sz b hsz hb
      split at he
      · rename_i hzo
        split at he
        · rename_i T rows T2 z xs ho hoq
          split at he
          · rename_i hc
            obtain ⟨hn, rfl, rfl, hso, hoff, hsz1, hso2, hoff2, hei, hsi, rfl, hqk, hroom⟩ := hc
            simp only [Option.some.injEq, Prod.mk.injEq] at he
            obtain ⟨rfl, rfl, rfl⟩ := he
            obtain ⟨⟨vsq, hvsq, hvsqz⟩, hq1, hq2, valsq, hownq, hrq⟩ := hI.obj _ _ hoq
            obtain ⟨⟨vs, hvs, hvsz⟩, h1, h2, vals, hown, hr⟩ := hI.obj _ _ ho
            obtain ⟨c1, c2, _, _⟩ := hrq 0 _ rfl
            obtain ⟨c3, us, c4, c5⟩ := c2 (by simp)
            rw [inn_sl hoff2] at c1 c4 c5
            rw [hei, hsi] at c4
            rw [hsi] at c1 c5
            rw [hso2, hoff2] at c3
            rw [hso2] at hownq
            have hvq1 : valsq = [vnth (ν q) 1] := by
              have hlen := hownq.1
              match valsq, hlen, c3 with
              | [x], _, c3 => simp at c3; rw [c3]
            subst hvq1
            have hvx : vx = vnth (ν k) 0 := by
              cases hx with
              | tab hu hv hcc ha h =>
                obtain ⟨_, _, _, he, _, hvν⟩ := h _ ho
                cases he
                exact hvν hn
            have hvy : vy = vnth (ν q) 0 := by
              cases hy with
              | tab hu hv hcc ha h =>
                obtain ⟨_, _, _, he, _, hvν⟩ := h _ hoq
                cases he
                exact hvν rfl
            have hu : used k := hI.usd _ _ ho
            have huq : used q := hI.usd _ _ hoq
            subst hvx hvy
            obtain ⟨gq, cq, hslq⟩ : ∃ g c, vnth (ν q) 0 = .slice (some ⟨g, 0, none⟩) 1 c := by
              rcases hownq.2 with ⟨_, h⟩ | ⟨g, cap, cur, h, _⟩
              · cases h
              · exact ⟨g, cap, h⟩
            obtain ⟨su, sc, hslu, _⟩ := own_value c4
            have hown1 : Owns w X.base T.eo 1 (vnth (ν k) 0) rows.length vals := by rw [← hso]; exact hown
            obtain ⟨v', w', hrun, g1, g2, g5⟩ := run_append_news (P := P) hel (by rw [hsz, hsz1]) hb (by decide) hzo ty hown1 (a := ⟨gq, 0, none⟩) (m := 1) (c := cq) (news := [vnth (ν q) 1]) rfl
              (fun j u hj => hownq.cells (g := gq) (by rw [hslq]; rfl) j u hj) (fun u hu => by simp only [List.mem_singleton] at hu; subst hu; rw [hslu]; rfl) (by decide) hroom hI.below.size
            rw [← hslq] at hrun
            refine ⟨v', w', hrun, ?_⟩
            generalize ho1 : HO.tab T (rows ++ [.sl T.si xs]) none = o1
            have hef : eff hp [(q, none), (k, some o1)] = put (del hp q) k o1 := rfl
            rw [hef]
            have hob' : ∀ b, blockOf v' = some b ↔ v'.ownBlock = some b := fun b => by
              rcases g1.2 with ⟨h, _⟩ | ⟨g, cap, cur, h, _⟩ <;> rw [h] <;> simp [blockOf, Value.ownBlock]
            have hob0 : ∀ b, blockOf (vnth (ν k) 0) = some b ↔ (vnth (ν k) 0).ownBlock = some b := fun b => by
              rcases hown.2 with ⟨h, _⟩ | ⟨g, cap, cur, h, _⟩ <;> rw [h] <;> simp [blockOf, Value.ownBlock]
            have hv0B : ∀ b, (vnth (ν k) 0).ownBlock = some b → hasB (ν k) b := fun b hb => hasB_vnth hvs ((hob0 b).2 hb)
            have hq1B : ∀ b, blockOf (vnth (ν q) 1) = some b → hasB (ν q) b := fun b hb => hasB_vnth hvsq hb
            generalize hv1 : (Value.tuple (v' :: (vs.toList.drop 1 ++ [vnth (ν q) 1])).toArray) = v1
            have hv1B : ∀ b, hasB v1 b → v'.ownBlock = some b ∨ (∃ j, j ≠ 0 ∧ blockOf (vnth (ν k) j) = some b) ∨ blockOf (vnth (ν q) 1) = some b := fun b hb => by
              rw [← hv1] at hb
              obtain ⟨u, hu, hub⟩ := hb
              simp only [List.toList_toArray, List.mem_cons, List.mem_append, List.not_mem_nil, or_false] at hu
              rcases hu with rfl | hu | rfl
              · exact .inl ((hob' b).1 hub)
              · obtain ⟨j, hj⟩ := List.mem_iff_getElem?.1 hu
                rw [List.getElem?_drop] at hj
                refine .inr (.inl ⟨1 + j, by omega, ?_⟩)
                rw [hvs]
                have : vs[1 + j]? = some u := by simpa using hj
                simp [vnth, Array.getD_eq_getD_getElem?, this, hub]
              · exact .inr (.inr hub)
            have hv'c : ∀ b, v'.ownBlock = some b → (vnth (ν k) 0).ownBlock = some b ∨ w.heap.size ≤ b := fun b hb => by
              rcases g5 with h | ⟨g, h, hle⟩
              · exact .inl (h ▸ hb)
              · rw [hb] at h; cases h; exact .inr hle
            have hv1O : ∀ b, hasB v1 b → hasB (ν k) b ∨ hasB (ν q) b ∨ v'.ownBlock = some b ∧ w.heap.size ≤ b := fun b hb => by
              rcases hv1B b hb with h | ⟨j, _, h⟩ | h
              · rcases hv'c b h with h' | h'
                · exact .inl (hv0B b h')
                · exact .inr (.inr ⟨h, h'⟩)
              · exact .inl (hasB_vnth hvs h)
              · exact .inr (.inl (hq1B b h))
            let C : Nat → Prop := fun j => j = k ∨ j = q
            have hlk : ∀ j, lk (put (del hp q) k o1) j = if j = k then some o1 else if j = q then none else lk hp j := fun j => by
              by_cases e : j = k
              · subst e; rw [lk_put_same, if_pos rfl]
              · rw [lk_put_other _ _ _ _ e, if_neg e]
                by_cases e' : j = q
                · subst e'; rw [lk_del_same, if_pos rfl]
                · rw [lk_del_other _ _ _ e', if_neg e']
            have hsame : ∀ j o, ¬ C j → lk (put (del hp q) k o1) j = some o → lk hp j = some o := fun j o hC h => by
              rw [hlk, if_neg (fun e => hC (.inl e)), if_neg (fun e => hC (.inr e))] at h; exact h
            have hνC : ∀ j, ¬ C j → upd ν k v1 j = ν j := fun j hC => upd_other _ _ _ _ (fun e => hC (.inl e))
            have honly : ∀ j o, C j → lk (put (del hp q) k o1) j = some o → j = k ∧ o = o1 := fun j o hC h => by
              rcases hC with e | e
              · subst e
                rw [lk_put_same] at h; cases h; exact ⟨rfl, rfl⟩
              · subst e
                rw [hlk, if_neg hqk, if_pos rfl] at h; cases h
            have hvk0 : vnth v1 0 = v' := by rw [← hv1, vnth_list]; rfl
            have hvkS : ∀ i, i < rows.length → vnth v1 (i + 1) = vnth (ν k) (i + 1) := fun i hi => by
              rw [← hv1, vnth_list, hvs]
              simp only [List.getD_eq_getElem?_getD, List.getElem?_cons_succ, vnth, Array.getD_eq_getD_getElem?]
              rw [List.getElem?_append_left (by simp; omega), List.getElem?_drop]
              simp [Nat.add_comm]
            have hxx : Ext (Mut X.M0 (lk hp) ν) (lk hp) ν used w (Mut X.M0 (lk (put (del hp q) k o1)) (upd ν k v1)) (lk (put (del hp q) k o1)) (upd ν k v1) used w' := by
              refine Ext.bulk C hsame hνC g2.lo.size (fun b hb hO => g2.lo.block b hb (fun h => hO ⟨k, _, ho, hv0B b h.symm⟩)) (fun _ h => h) (fun j o b hC hj hb hlt => ?_) (fun j o hC hju hj => ?_)
              · obtain ⟨rfl, rfl⟩ := honly j o hC hj
                rw [upd_same] at hb
                rcases hv1O b hb with h | h | h
                · exact ⟨_, _, ho, h⟩
                · exact ⟨_, _, hoq, h⟩
                · omega
              · obtain ⟨rfl, rfl⟩ := honly j o hC hj
                refine ⟨_, ho, ?_, ?_⟩
                · rw [← ho1]
                  refine ⟨rfl, by simp, fun i hi => ⟨?_, fun h => by cases h⟩⟩
                  unfold Tb.ilen
                  rw [List.getD_eq_getElem?_getD, List.getD_eq_getElem?_getD, List.getElem?_append_left hi]
                  exact Nat.le_refl _
                · rw [← ho1, upd_same]
                  exact ⟨fun hl => by simp at hl, fun i hi _ _ => hvkS i hi⟩
            have hbel : Bl X.base w w' := Bl.grown g2 hI.below.size (fun b hb => (hI.blk _ _ _ ho (hv0B b hb)).1)
            have hkeep : ∀ j o b, lk hp j = some o → hasB (ν j) b → (j = k → (vnth (ν k) 0).ownBlock ≠ some b) → w'.heap[b]? = w.heap[b]? := fun j o b hj hb hne =>
              g2.lo.block b (hI.blk _ _ _ hj hb).2 (fun h => by
                have e := hI.inj _ _ _ _ _ hj ho hb (hv0B b h.symm)
                exact hne e h.symm)
            have hI2 : HInv X (lk (put (del hp q) k o1)) (upd ν k v1) used w' := by
              refine hI.bulk C hsame hνC hbel hxx (fun j o hC hj => by obtain ⟨rfl, _⟩ := honly j o hC hj; exact hu) (fun j o b hC hj hb => ?_) (fun j o b hC hj hb => hkeep j o b (hsame j o hC hj) hb (fun e => absurd (.inl e) hC)) (fun j o hC hj => ?_)
              · obtain ⟨rfl, rfl⟩ := honly j o hC hj
                rw [upd_same] at hb
                have hoth : ∀ j' o', lk (put (del hp q) j o) j' = some o' → hasB (upd ν j v1 j') b → j' ≠ j → j' ≠ q ∧ lk hp j' = some o' ∧ hasB (ν j') b := fun j' o' hj' hb' hne => by
                  rw [hlk, if_neg hne] at hj'
                  rw [upd_other _ _ _ _ hne] at hb'
                  split at hj'
                  · cases hj'
                  · rename_i h; exact ⟨h, hj', hb'⟩
                rcases hv1O b hb with h | h | ⟨h, hle⟩
                · have hbk := hI.blk _ _ _ ho h
                  refine ⟨hbk.1, Nat.lt_of_lt_of_le hbk.2 g2.lo.size, hI.far _ _ _ ho h, fun j' o' hj' hb' => ?_⟩
                  by_cases hne : j' = j
                  · exact hne
                  · obtain ⟨_, p1, p2⟩ := hoth j' o' hj' hb' hne
                    exact hI.inj _ _ _ _ _ p1 ho p2 h
                · have hbk := hI.blk _ _ _ hoq h
                  refine ⟨hbk.1, Nat.lt_of_lt_of_le hbk.2 g2.lo.size, hI.far _ _ _ hoq h, fun j' o' hj' hb' => ?_⟩
                  by_cases hne : j' = j
                  · exact hne
                  · obtain ⟨p0, p1, p2⟩ := hoth j' o' hj' hb' hne
                    exact absurd (hI.inj _ _ _ _ _ p1 hoq p2 h) p0
                · refine ⟨(g1.lt b h).1, (g1.lt b h).2, fun hh => by have := hI.M0 _ hh; omega, fun j' o' hj' hb' => ?_⟩
                  by_cases hne : j' = j
                  · exact hne
                  · obtain ⟨_, p1, p2⟩ := hoth j' o' hj' hb' hne
                    have := (hI.blk _ _ _ p1 p2).2
                    omega
              · obtain ⟨rfl, rfl⟩ := honly j o hC hj
                rw [upd_same]
                subst ho1 hv1
                have hvs' := hvs
                rw [hvs'] at h2 hr
                refine RepT.app (w := w) (M := Mut X.M0 (lk hp) ν) (vals := vals) (news := [vnth (ν q) 1]) hvsz h1 h2 hown.1 hr (by rw [hso]; exact flat_sl1) rfl (fun i r u hi hu => ?_) (by rw [hso]; exact g1) (fun j' b hj' hb' => ?_) (fun j' b hj' hb' hh => ?_) (fun i u b hu hb => ?_) hxx.same hxx.shrink
                · cases i with
                  | succ i => simp at hi
                  | zero =>
                    simp only [List.getElem?_cons_zero, Option.some.injEq] at hi hu
                    subst hi hu
                    refine ⟨⟨by rw [inn_sl hoff, hoff]; rfl, by rw [inn_sl hoff]; exact c1.2⟩, ⟨by rw [hoff]; simp, us, ?_, ?_⟩, fun j d hj hd => ?_⟩
                    · rw [inn_sl hoff]
                      exact c4.keep (fun b hb => hkeep q _ b hoq (hq1B b hb) (fun e => absurd e hqk))
                    · rw [inn_sl hoff]
                      exact c5.mono hxx.same hxx.shrink
                    · have := (List.getElem?_eq_some_iff.1 hd).1
                      simp [D.comps] at this
                      exact absurd (this.trans hoff.symm) hj
                · rw [← hvs'] at hb' h2
                  exact hkeep j _ b ho (hasB_vnth hvs hb') (fun _ h => hj' (h2 _ _ _ hb' ((hob0 b).2 h)))
                · rw [← hvs'] at hb' h2
                  rcases hv'c b ((hob' b).1 hh) with h | h
                  · exact hj' (h2 _ _ _ hb' ((hob0 b).2 h))
                  · have := (hI.blk _ _ _ ho (hasB_vnth hvs hb')).2; omega
                · cases i with
                  | succ i => simp at hu
                  | zero =>
                    simp only [List.getElem?_cons_zero, Option.some.injEq] at hu
                    subst hu
                    have hbq := hq1B b hb
                    refine ⟨fun hh => ?_, fun j' _ hb' => ?_, fun i' u' hu' _ => ?_⟩
                    · rcases hv'c b ((hob' b).1 hh) with h | h
                      · exact hqk (hI.inj _ _ _ _ _ hoq ho hbq (hv0B b h))
                      · have := (hI.blk _ _ _ hoq hbq).2; omega
                    · rw [← hvs'] at hb'
                      exact hqk (hI.inj _ _ _ _ _ hoq ho hbq (hasB_vnth hvs hb'))
                    · cases i' with
                      | zero => rfl
                      | succ i' => simp at hu'
            obtain ⟨m1, m2⟩ := hI2.more hk
            refine ⟨_, m1, hxx.trans m2, ?_⟩
            obtain ⟨a, c, p1, p2, p3⟩ := own_value g1
            refine .tab (.inl hu) p1 p2 p3 fun o ho' => ?_
            rw [lk_put_same] at ho'
            cases ho'
            subst ho1
            exact ⟨_, _, _, rfl, by simp, fun _ => by rw [upd_same]; exact hvk0.symm⟩
          · cases he
        · cases he
      · cases he
    · cases he
  · cases he
theorem evBuildSliceT_local {P : Program} {key : Nat} {H H' : Nat → Option HO} {t : TypeId} {len : Nat} {ps : List (Nat × AV)} {r : AV} {es : List (Nat × Option HO)} {acc : List Nat} (he : evBuildSliceT P key H t len ps = some (r, es, acc)) (h : ∀ k ∈ acc, H' k = H k) :
    evBuildSliceT P key H' t len ps = some (r, es, acc) := by
  unfold evBuildSliceT at he ⊢
  split at he
  · rename_i p
    obtain ⟨p1, p2⟩ := p
    split at he
    · rename_i q m hp2
      simp only at hp2
      subst hp2
      split at he
      · rename_i e ei si xs hel ho
        split at he
        · rename_i sz hsz
          split at he
          · rename_i hc
            simp only [Option.some.injEq, Prod.mk.injEq] at he
            obtain ⟨rfl, rfl, rfl⟩ := he
            simp only [h q (by simp), ho, hel, hsz]
            rw [if_pos hc]
          · cases he
        · cases he
      · cases he
    · cases he
  · cases he
theorem evAppendTT_local {P : Program} {H H' : Nat → Option HO} {t : TypeId} {k n q m : Nat} {r : AV} {es : List (Nat × Option HO)} {acc : List Nat} (he : evAppendTT P H t k n q m = some (r, es, acc)) (h : ∀ k ∈ acc, H' k = H k) :
    evAppendTT P H' t k n q m = some (r, es, acc) := by
  unfold evAppendTT at he ⊢
  split at he
  · rename_i e hel
    split at he
    · rename_i sz b hsz hb
      split at he
      · rename_i hzo
        rw [if_pos hzo]
        split at he
        · rename_i T rows T2 z xs ho hoq
          split at he
          · rename_i hc
            simp only [Option.some.injEq, Prod.mk.injEq] at he
            obtain ⟨rfl, rfl, rfl⟩ := he
            simp only [h k (by simp), h q (by simp), ho, hoq]
            rw [if_pos hc]
          · cases he
        · cases he
      · cases he
    · cases he
  · cases he
def isOwn1 (ps : List (Nat × AV)) : Bool :=
  match ps with
  | [p] => match p.2 with
    | .own _ _ => true
    | _ => false
  | _ => false
def evBuildSliceX (P : Program) (key : Nat) (H : Nat → Option HO) (t : TypeId) (len : Nat) (ps : List (Nat × AV)) : Option (AV × List (Nat × Option HO) × List Nat) :=
  if 500000 ≤ key then (if isOwn1 ps = true then evBuildSliceT P key H t len ps else evBuildSlice P key H t len ps) else evBuildSlice P key H t len ps
theorem evBuildSliceX_sound (hI : HInv X (lk hp) ν used w) (hk : ¬ used key) {t len : Nat} {ps : List (Nat × AV)} {vs : List (Nat × Value)} {r : AV} {es : List (Nat × Option HO)} {acc : List Nat} (hl : ps.length = vs.length)
    (h : ∀ (j : Nat) p q, ps[j]? = some p → vs[j]? = some q → p.1 = q.1 ∧ RepA w (Mut X.M0 (lk hp) ν) (lk hp) ν used p.2 q.2) (he : evBuildSliceX P key (lk hp) t len ps = some (r, es, acc)) :
    ∃ v w', (Instr.buildSlice t len vs.toArray).run P w = .ok v w' ∧ Post X hp ν used w key (eff hp es) r v w' := by
  unfold evBuildSliceX at he
  split at he
  · split at he
    · exact evBuildSliceT_sound hI hk hl h he
    · exact evBuildSlice_sound hI hk hl h he
  · exact evBuildSlice_sound hI hk hl h he
def evAppendTX (P : Program) (H : Nat → Option HO) (t : TypeId) (k n : Nat) (y : AV) : Option (AV × List (Nat × Option HO) × List Nat) :=
  match y with
  | .tab q m => evAppendTT P H t k n q m
  | y => evAppendTD P H t (.tab k n) y
theorem evAppendTX_sound (hI : HInv X (lk hp) ν used w) (hk : ¬ used key) {t ty : TypeId} {k n : Nat} {y r : AV} {vx vy : Value} {es : List (Nat × Option HO)} {acc : List Nat}
    (hx : RepA w (Mut X.M0 (lk hp) ν) (lk hp) ν used (.tab k n) vx) (hy : RepA w (Mut X.M0 (lk hp) ν) (lk hp) ν used y vy) (he : evAppendTX P (lk hp) t k n y = some (r, es, acc)) :
    ∃ v w', (Builtin.append_ #[t, t] ty #[vx, vy]).run P w = .ok v w' ∧ Post X hp ν used w key (eff hp es) r v w' := by
  unfold evAppendTX at he
  split at he
  · exact evAppendTT_sound hI hk hx hy he
  · exact evAppendTD_sound hI hk hx hy he
end
end Go.Eng
set_option linter.unusedVariables false
set_option linter.unusedSimpArgs false
namespace Go.Eng
open Go.RowKit
def evRv (P : Program) (key : Nat) (H : Nat → Option HO) (t : TypeId) (x : AV) (lo hi mx : Option AV) : Option (AV × List (Nat × Option HO) × List Nat) :=
  match x with
  | .own k n => if 500000 ≤ key then
      match lo, hi, mx with
      | some l, none, none => match H k, elT P t, ofInt (some l) 0 with
        | some (.row e sz xs), some e', some l => match szT P e' with
          | some sz' => if n = xs.length ∧ e' = e ∧ sz' = sz ∧ l < n then some (.rv k n l (n - l) sz, [], [k]) else none
          | none => none
        | _, _, _ => none
      | _, _, _ => none
      else none
  | _ => none
def evClear (P : Program) (H : Nat → Option HO) (t : TypeId) (x : AV) : Option (AV × List (Nat × Option HO) × List Nat) :=
  match x with
  | .rv k n lo m sz => match H k, elT P t with
    | some (.row e sz' xs), some e' => match zeroD P e' with
      | some z => if n = xs.length ∧ sz = 1 ∧ sz' = 1 ∧ 0 < m ∧ lo + m = n ∧ z.cell = true ∧ (AV.d z).sto = true ∧ z.comps.length = 1 then some (.d (.tup []), [(k, some (.row e sz' (xs.take lo ++ List.replicate m z)))], [k]) else none
      | none => none
    | _, _ => none
  | _ => none
section
variable {P : Program} {X : Ctx} {hp : Heap} {ν : Nat → Value} {used : Nat → Prop} {w : World} {key : Nat}
theorem evRv_sound (hI : HInv X (lk hp) ν used w) (hk : ¬ used key) {t : Nat} {x r : AV} {vx : Value} {lo hi mx : Option AV} {vlo vhi vmx : Option Value} {es : List (Nat × Option HO)} {acc : List Nat}
    (hx : RepA w (Mut X.M0 (lk hp) ν) (lk hp) ν used x vx) (hlo : RepOpt w (Mut X.M0 (lk hp) ν) (lk hp) ν used lo vlo) (hhi : RepOpt w (Mut X.M0 (lk hp) ν) (lk hp) ν used hi vhi) (hmx : RepOpt w (Mut X.M0 (lk hp) ν) (lk hp) ν used mx vmx)
    (he : evRv P key (lk hp) t x lo hi mx = some (r, es, acc)) : ∃ v, (Instr.sliceAt t vx vlo vhi vmx).run P w = .ok v w ∧ Post X hp ν used w key (eff hp es) r v w := by
  unfold evRv at he
  split at he
  · rename_i k n
    split at he
    · split at he
      · rename_i l
        split at he
        · rename_i e sz xs e' l' ho hel hl
          split at he
          · rename_i sz' hsz
            split at he
            · rename_i hc
              obtain ⟨rfl, rfl, rfl, hln⟩ := hc
              simp at he
              obtain ⟨rfl, rfl, rfl⟩ := he
              cases hhi
              cases hmx
              cases hx with
              | own hu h1 hcc ha hr =>
                rename_i c0 a
                obtain ⟨e2, sz2, xs2, ho2, hn2, hv2⟩ := hr _ ho
                cases ho2
                have hν := hv2 rfl
                cases a with
                | none => have := (ha rfl).1; omega
                | some a =>
                  rw [h1] at hν
                  subst h1
                  obtain ⟨g, rfl, _⟩ := own_form hI ho hν
                  cases hlo with
                  | some hq =>
                    rename_i vl
                    have hb : (Instr.sliceBounds true xs.length c0 (some vl) none none).run P w = .ok (l', xs.length, c0) w := by
                      simp only [ofInt] at hl
                      split at hl
                      · split at hl
                        · rename_i h0
                          simp at hl
                          cases hq with
                          | d hq => cases hq; subst hl; simp [Instr.sliceBounds, run_bound h0 (y := xs.length) (by omega)]
                        · cases hl
                      · cases hl
                    refine ⟨.slice (some ⟨g, l' * sz', none⟩) (xs.length - l') (c0 - l'), ?_, ?_⟩
                    · rw [elT_notArr hel]
                      have hne : c0 ≠ l' := by have := hcc.1; omega
                      simp only [Instr.slice, Sem.run_bind, run_underlying (elT_und hel), Result.andThen_ok, hb, run_sizeOf' hsz, Sem.run_pure]
                      rw [if_neg hne]
                      simp [Addr.add_lit]
                    · refine Post.same hI hk (.rv hu ⟨by have := hcc.1; omega, by have := hcc.2; omega⟩ (by omega) fun o ho' => ?_)
                      rw [ho] at ho'
                      cases ho'
                      exact ⟨_, _, _, rfl, Nat.le_refl _, fun _ => ⟨g, c0, hν.symm, rfl⟩⟩
            · cases he
          · cases he
        · cases he
      · cases he
    · cases he
  · cases he
theorem evClear_sound (hI : HInv X (lk hp) ν used w) (hk : ¬ used key) {t ty : Nat} {x r : AV} {vx : Value} {es : List (Nat × Option HO)} {acc : List Nat}
    (hx : RepA w (Mut X.M0 (lk hp) ν) (lk hp) ν used x vx) (he : evClear P (lk hp) t x = some (r, es, acc)) : ∃ v w', (Builtin.clear_ #[t] ty #[vx]).run P w = .ok v w' ∧ Post X hp ν used w key (eff hp es) r v w' := by
  unfold evClear at he
  split at he
  · rename_i k n lo m sz
    split at he
    · rename_i e sz' xs e' ho hel
      split at he
      · rename_i z hz
        split at he
        · rename_i hc
          obtain ⟨rfl, rfl, rfl, hm0, hlm, hzc, hzs, hzl⟩ := hc
          simp at he
          obtain ⟨rfl, rfl, rfl⟩ := he
          simp only [eff]
          obtain ⟨zv, hzr, ⟨i', hi', hzz⟩, hrep⟩ := zeroD_run hz
          have hz1 := hrep w (fun _ => False)
          obtain ⟨c1, c2, c3⟩ := repD_comps hz1 hzs
          have hone : zv.oneCell' = true := hz1.oneCell hzc
          have hcz : zv.cells = #[zv] := by
            cases hz1 <;> first | rfl | (simp [D.cell] at hzc; done) | (cases zv <;> first | rfl | (simp [Value.oneCell'] at hone; done))
          cases hx with
          | rv hu hcc hle h =>
            rename_i c0 a
            obtain ⟨_, _, _, he1, _, hv⟩ := h _ ho
            cases he1
            obtain ⟨g, c, hν, rfl⟩ := hv rfl
            obtain ⟨vals, hown, hzp, hf, hr⟩ := hI.obj _ _ ho
            rw [hν] at hown
            have hown0 := hown
            rcases hown with ⟨hvl, ⟨h2, _⟩ | ⟨g', cap, cur, h2, hbg, hg, hnc, hcm, hcs, htake⟩⟩
            · cases h2
            · cases h2
              have hst := run_storeCells_at P g (lo * 1) e (List.replicate m zv) 0 cur w hg (by simp; omega) (fun u hu => by rw [List.eq_of_mem_replicate hu]; exact hone)
              have hzcs : (Builtin.zeroCells zv.cells m).toList = List.replicate m zv := by
                rw [hcz]
                simp [Builtin.zeroCells]
                apply List.ext_getElem
                · simp
                · intro i h1 h2
                  simp [Nat.mod_one]
              have hrun : (Builtin.clear_ #[t] ty #[.slice (some ⟨g, lo * 1, none⟩) m c0]).run P w = .ok (.tuple #[]) (w.setRow g (splice cur.toList (lo * 1) (List.replicate m zv)).toArray) := by
                obtain ⟨m, rfl⟩ : ∃ q, m = q + 1 := ⟨m - 1, by omega⟩
                simp only [Nat.add_zero, Nat.mul_one] at hst
                simp [Builtin.clear_, run_underlying (elT_und hel), hzr, hzcs, hst, splice]
              refine ⟨_, _, hrun, ?_⟩
              have hb : hasB (ν k) g := by rw [hν]; exact rfl
              have hxl : (xs.take lo ++ List.replicate m z).length = xs.length := by simp; omega
              obtain ⟨g1, g2⟩ := hI.write (o' := .row e 1 (xs.take lo ++ List.replicate m z)) ho hb (splice cur.toList (lo * 1) (List.replicate m zv)).toArray ⟨rfl, rfl, by omega⟩
                (fun M' H' hx' => by
                  refine ⟨splice vals (lo * 1) (List.replicate m zv), ?_, hzp, fun q hq => ?_, fun i' q j dd hq hdd => ?_⟩
                  · rw [hν, hxl]
                    exact owns_splice hown0 (by simp; omega) hg (setRow_heap _ _ _ _ _ _ hg)
                  · rcases List.mem_append.1 hq with h | h
                    · exact hf q (List.mem_of_mem_take h)
                    · rw [List.eq_of_mem_replicate h]
                      exact ⟨hzl, c2⟩
                  · rw [splice_get _ _ _ (by simp; omega)]
                    have hjl := (List.getElem?_eq_some_iff.1 hdd).1
                    have hil := (List.getElem?_eq_some_iff.1 hq).1
                    rw [hxl] at hil
                    by_cases hii : i' < lo
                    · rw [List.getElem?_append_left (by simp; omega), List.getElem?_take, if_pos hii] at hq
                      rw [(hf q (List.mem_of_getElem? hq)).1] at hjl
                      obtain ⟨u, hu, hru⟩ := hr _ q j dd hq hdd
                      rw [if_neg (by omega)]
                      exact ⟨u, hu, hru.mono hx'.same hx'.shrink⟩
                    · rw [List.getElem?_append_right (by simp; omega), List.getElem?_replicate] at hq
                      split at hq
                      · cases hq
                        rw [hzl] at hjl
                        have hj0 : j = 0 := by omega
                        subst hj0
                        rw [if_pos (by simp; omega)]
                        refine ⟨zv, by rw [List.getElem?_replicate, if_pos (by omega)], ?_⟩
                        have := (hrep w (Mut X.M0 (lk hp) ν))
                        obtain ⟨_, _, c3'⟩ := repD_comps this hzs
                        exact (c3' 0 _ zv hdd (by simp [hcz])).mono hx'.same hx'.shrink
                      · cases hq)
              obtain ⟨m1, m2⟩ := g1.more hk
              exact ⟨ν, m1, g2.trans m2, .d (.tup rfl (fun i d v hd => by simp at hd))⟩
        · cases he
      · cases he
    · cases he
  · cases he
theorem evRv_local {H H' : Nat → Option HO} {t : TypeId} {x : AV} {lo hi mx : Option AV} {q : AV × List (Nat × Option HO) × List Nat} (he : evRv P key H t x lo hi mx = some q) (h : ∀ k ∈ q.2.2, H' k = H k) : evRv P key H' t x lo hi mx = some q := by
  unfold evRv at he ⊢
  split at he
  · rename_i k n
    split at he
    · rename_i h5
      rw [if_pos h5]
      split at he
      · rename_i l
        split at he
        · rename_i e sz xs e' l' ho hel hl
          split at he
          · rename_i sz' hsz
            split at he
            · rename_i hc
              simp only [Option.some.injEq] at he
              subst he
              have := h k (by simp)
              simp only [this, ho, hel, hl, hsz]
              rw [if_pos hc]
            · cases he
          · cases he
        · cases he
      · cases he
    · cases he
  · cases he
theorem evClear_local {H H' : Nat → Option HO} {t : TypeId} {x : AV} {q : AV × List (Nat × Option HO) × List Nat} (he : evClear P H t x = some q) (h : ∀ k ∈ q.2.2, H' k = H k) : evClear P H' t x = some q := by
  unfold evClear at he ⊢
  split at he
  · rename_i k n lo m sz
    split at he
    · rename_i e sz' xs e' ho hel
      split at he
      · rename_i z hz
        split at he
        · rename_i hc
          simp only [Option.some.injEq] at he
          subst he
          have := h k (by simp)
          simp only [this, ho, hel, hz]
          rw [if_pos hc]
        · cases he
      · cases he
    · cases he
  · cases he
theorem evRv_acc {H : Nat → Option HO} {t : TypeId} {x : AV} {lo hi mx : Option AV} {q : AV × List (Nat × Option HO) × List Nat} (he : evRv P key H t x lo hi mx = some q) : ∃ k n, x = .own k n := by
  unfold evRv at he
  split at he
  · exact ⟨_, _, rfl⟩
  · cases he
end
def evConv (P : Program) (s d : TypeId) (x : AV) : Option AV :=
  match P.underlying s with
  | some _ => match x with
    | .d (.int _ n) => match intT P d with | some k => some (.d (.int k (k.wrap n))) | none => none
    | .d (.str b) => if isStrT P d = true then some (.d (.str b)) else none
    | _ => none
  | none => none
section
variable {P : Program} {ν : Nat → Value} {used : Nat → Prop} {w : World}
theorem evConv_sound {M : Nat → Prop} {H : Nat → Option HO} {s d : Nat} {x r : AV} {v : Value} (h : RepA w M H ν used x v) (he : evConv P s d x = some r) : ∃ u, (convert s d v).run P w = .ok u w ∧ RepA w M H ν used r u := by
  unfold evConv at he
  split at he
  · rename_i ds hs
    split at he
    · split at he
      · rename_i k hk
        simp at he
        subst he
        cases h with
        | d h => cases h; exact ⟨_, by cases ds <;> simp [convert, run_underlying hs, run_underlying (intT_und hk), Conv.intToInt] <;> rfl, .d (by constructor)⟩
      · cases he
    · split at he
      · rename_i hd
        simp at he
        subst he
        cases h with
        | d h => cases h; exact ⟨_, by cases ds <;> simp [convert, run_underlying hs, run_underlying (isStrT_und hd)] <;> rfl, .d (by constructor)⟩
      · cases he
    · cases he
  · cases he
end
def bytesD : List D → Option (List UInt8)
  | [] => some []
  | x :: l => match x with
    | .int k n => if k = .u8 ∧ 0 ≤ n ∧ n < 256 then (match bytesD l with | some r => some (UInt8.ofNat n.toNat :: r) | none => none) else none
    | _ => none
def evConvX (P : Program) (H : Nat → Option HO) (s d : TypeId) (x : AV) : Option (AV × List (Nat × Option HO) × List Nat) :=
  match evConv P s d x with
  | some r => some (r, [], [])
  | none => match elT P s, toD H x with
    | some e, some (y, ks) => match intT P e, y with
      | some k, .sl z xs => if k = .u8 ∧ z = 1 ∧ isStrT P d = true then
          match bytesD xs with
          | some (b :: l) => some (.d (.str ⟨(b :: l).toArray⟩), [], ks)
          | _ => none
        else none
      | _, _ => none
    | _, _ => none
theorem bytesD_get : ∀ {xs : List D} {l : List UInt8}, bytesD xs = some l → l.length = xs.length ∧ ∀ (i : Nat) b, l[i]? = some b → xs[i]? = some (.int .u8 (b.toNat : Int))
  | [], l, h => by simp [bytesD] at h; subst h; exact ⟨rfl, fun i b h => by simp at h⟩
  | x :: xs, l, h => by
    cases x <;> simp only [bytesD] at h <;> try (cases h; done)
    split at h
    · rename_i k n hc
      obtain ⟨rfl, h0, h1⟩ := hc
      cases hb : bytesD xs with
      | none => rw [hb] at h; cases h
      | some r =>
        rw [hb] at h
        simp only [Option.some.injEq] at h
        subst h
        obtain ⟨g1, g2⟩ := bytesD_get hb
        refine ⟨by simp [g1], fun i b hi => ?_⟩
        cases i with
        | zero =>
          simp at hi
          subst hi
          have e : (UInt8.ofNat n.toNat).toNat = n.toNat := by simp; omega
          simp only [List.getElem?_cons_zero, Option.some.injEq, D.int.injEq, true_and]
          rw [e]; omega
        | succ i => simpa using g2 i b (by simpa using hi)
    · cases h
theorem evConvX_sound {P : Program} {X : Ctx} {hp : Heap} {ν : Nat → Value} {used : Nat → Prop} {w : World} {key : Nat} (hI : HInv X (lk hp) ν used w) (hk : ¬ used key) {s d : TypeId} {x r : AV} {vx : Value} {es : List (Nat × Option HO)} {acc : List Nat}
    (hx : RepA w (Mut X.M0 (lk hp) ν) (lk hp) ν used x vx) (he : evConvX P (lk hp) s d x = some (r, es, acc)) : ∃ v, (convert s d vx).run P w = .ok v w ∧ Post X hp ν used w key (eff hp es) r v w := by
  unfold evConvX at he
  split at he
  · rename_i r' hr
    simp only [Option.some.injEq, Prod.mk.injEq] at he
    obtain ⟨rfl, rfl, rfl⟩ := he
    obtain ⟨u, hu, hq⟩ := evConv_sound (P := P) hx hr
    exact ⟨u, hu, Post.same hI hk hq⟩
  · split at he
    · rename_i e y ks hel hd
      split at he
      · rename_i k z xs hk8
        split at he
        · rename_i hc
          obtain ⟨rfl, rfl, hst⟩ := hc
          split at he
          · rename_i b l hb
            simp only [Option.some.injEq, Prod.mk.injEq] at he
            obtain ⟨rfl, rfl, rfl⟩ := he
            have hr := toD_drop hI hx hd
            obtain ⟨g1, g2⟩ := bytesD_get hb
            generalize hM : Mut X.M0 (lk (dels hp ks)) ν = M' at hr
            cases hr with
            | sl0 => simp at g1
            | sl val hbk hMb hc hm hs h1 h2 =>
              rename_i c a
              refine ⟨.string ⟨(b :: l).toArray⟩, ?_, Post.same hI hk (.d (by constructor))⟩
              rw [← g1]
              refine run_convert_bytes_back w s d e a c (b :: l) (elT_und hel) (intT_und hk8) (isStrT_und hst) fun j hj => ?_
              have hx' := g2 j _ (List.getElem?_eq_getElem hj)
              have e1 := h1 j _ 0 _ hx' rfl
              have e2 := h2 j _ 0 _ hx' rfl
              cases e3 : val j 0 <;> rw [e3] at e2 <;> cases e2
              rw [e3] at e1
              simpa using e1
          · cases he
        · cases he
      · cases he
    · cases he
def strD (s : ByteArray) : List D := s.data.toList.map fun b => .int .u8 (b.toNat : Int)
theorem strD_len (s : ByteArray) : (strD s).length = s.size := by rw [strD, List.length_map, Array.length_toList]; rfl
def evAppendS (P : Program) (H : Nat → Option HO) (t u : TypeId) (x y : AV) : Option (AV × List (Nat × Option HO) × List Nat) :=
  match x, y with
  | .own k n, .d (.str s) => match H k, elT P t with
    | some (.row e sz xs), some e' => if n = xs.length ∧ e' = e ∧ sz = 1 ∧ szT P e' = some 1 ∧ byT P e' = some 1 ∧ zOk P e' = true ∧ isStrT P u = true ∧ n + s.size ≤ 140737488355328 then
        some (.own k (xs ++ strD s).length, [(k, some (.row e sz (xs ++ strD s)))], [k]) else none
    | _, _ => none
  | _, _ => none
theorem run_append_str {P : Program} {w : World} {base : Nat} {t u e : TypeId} (hel : elT P t = some e) (hu : isStrT P u = true) (hsz : szT P e = some 1) (hb : byT P e = some 1) (hzo : zOk P e = true) (ty : TypeId)
    {v : Value} {n : Nat} {vals : List Value} (hown : Owns w base e 1 v n vals) (s : ByteArray) (hroom : n + s.size ≤ 140737488355328) (hbase : base ≤ w.heap.size) :
    ∃ v' w', (Builtin.append_ #[t, u] ty #[v, .string s]).run P w = .ok v' w' ∧ Owns w' base e 1 v' (n + s.size) (vals ++ Lib.strCells s) ∧ Gb w w' v.ownBlock ∧
      (v'.ownBlock = v.ownBlock ∨ ∃ g, v'.ownBlock = some g ∧ w.heap.size ≤ g) ∧ (s.size = 0 → v' = v) := by
  have ht := elT_und hel
  have hu := isStrT_und hu
  obtain ⟨i, hi, hisz⟩ := szT_info hsz
  have hib : i.bytes = 1 := by simp [byT, hi] at hb; exact hb
  unfold zOk at hzo
  rw [hi] at hzo
  simp only at hzo
  cases hzz : i.zero with
  | none => simp [hzz] at hzo
  | some z =>
    simp [hzz] at hzo
    have hzs : z.cells.size = 1 := by omega
    have hxl : vals.length = n := by simpa using hown.1
    have hlen : (vals ++ Lib.strCells s).length = (n + s.size) * 1 := by rw [List.length_append, hxl, Lib.strCells_length, Nat.mul_one]
    have grown : ∀ (old : Nat) (row : Option Nat),
        Owns (w.drew.alloc (.cells (vals.toArray ++ (Lib.strCells s).toArray ++ Builtin.zeroCells z.cells (grownCap w (n + s.size) old e - (n + s.size))) e)) base e 1 (.slice (some ⟨w.heap.size, 0, none⟩) (n + s.size) (grownCap w (n + s.size) old e)) (n + s.size) (vals ++ Lib.strCells s) ∧
        Gb w (w.drew.alloc (.cells (vals.toArray ++ (Lib.strCells s).toArray ++ Builtin.zeroCells z.cells (grownCap w (n + s.size) old e - (n + s.size))) e)) row := fun old row => by
      have hge := grownCap_ge w (n + s.size) old e
      refine ⟨⟨hlen, .inr ⟨w.heap.size, _, _, rfl, hbase, heap_alloc_new w.drew _, hge, grownCap_le_maxLen w _ old e (by simp only [maxLen]; omega), ?_, ?_⟩⟩, ⟨⟨rfl, rfl, rfl, by simp, fun k hk _ => heap_alloc_old w.drew _ hk⟩, Nat.le_succ _⟩⟩
      · simp only [Array.size_append, List.size_toArray, size_zeroCells, hzs, hxl, Lib.strCells_length]
        omega
      · simp only [Array.toList_append, List.append_assoc]
        rw [← List.append_assoc, ← hlen]
        exact List.take_left
    rcases hown.2 with ⟨rfl, rfl⟩ | ⟨g, cap, cur, rfl, hbg, hg, hnc, hcm, hcs, htake⟩
    · have hx : vals = [] := List.eq_nil_of_length_eq_zero hxl
      subst hx
      by_cases hm : s.size = 0
      · have hn : Lib.strCells s = [] := List.eq_nil_of_length_eq_zero (by rw [Lib.strCells_length]; exact hm)
        refine ⟨.slice none 0 0, w, ?_, by rw [hm, hn]; exact Owns.nil, ⟨⟨rfl, rfl, rfl, Nat.le_refl _, fun _ _ _ => rfl⟩, Nat.le_refl _⟩, .inl rfl, fun _ => rfl⟩
        have hf := Lib.run_firstCells_string (P := P) w 1 s
        rw [hm] at hf
        simp [Builtin.append_, run_underlying ht, run_underlying hu, sizeOf, typeInfo, hi, hisz, Builtin.lenOf, hm, hf]
      · have hr := run_append_nil_string (P := P) w t u ty e i z ht hu hi hzz s (by omega) (by omega) (by rw [hib]; omega)
        have hgr := grown 0 (Value.ownBlock (.slice none 0 0))
        simp only [Nat.zero_add, List.nil_append, Array.empty_append] at hgr ⊢
        have e1 : (s.data.map fun b => Value.int .u8 b.toNat) = (Lib.strCells s).toArray := by
          apply Array.ext'
          simp [Lib.strCells]
        rw [e1] at hr
        exact ⟨_, _, hr, hgr.1, hgr.2, .inr ⟨_, rfl, Nat.le_refl _⟩, fun h => absurd h hm⟩
    · by_cases hc : n + s.size ≤ cap
      · have hr := Lib.run_append_room_string (P := P) w t u ty e i ht hu hi hisz g n cap cur hg s hc (by omega)
        refine ⟨_, _, hr, ⟨hlen, .inr ⟨g, cap, _, rfl, hbg, setRow_heap w g cur _ e _ hg, hc, hcm, ?_, ?_⟩⟩, ⟨⟨rfl, rfl, rfl, by simp, fun k _ hk => setRow_other w g k _ (fun e => hk (by simp [Value.ownBlock, e]))⟩, Nat.le_refl _⟩, .inl rfl, fun h => by simp [h]⟩
        · simp only [List.size_toArray, List.length_append, List.length_take, List.length_drop, Array.length_toList, Lib.strCells_length]
          omega
        · have ht' : cur.toList.take n = vals := by simpa using htake
          rw [ht', ← hlen]
          exact List.take_left
      · have holds : ∀ (j : Nat) u, vals[j]? = some u → w.cell? ((⟨g, 0, none⟩ : Addr).add j) = some u := hown.cells (g := g) rfl
        have hr := Lib.run_append_grow_string (P := P) w t u ty e i z ht hu hi hzz ⟨g, 0, none⟩ n cap vals (by rw [hisz]; simpa using hxl) holds s (by omega) (by omega) (by rw [hib]; exact growslice_fits (by omega) (by omega))
        have hgr := grown cap (Value.ownBlock (.slice (some ⟨g, 0, none⟩) n cap))
        exact ⟨_, _, hr, hgr.1, hgr.2, .inr ⟨_, rfl, Nat.le_refl _⟩, fun h => by omega⟩
theorem evAppendS_sound {P : Program} {X : Ctx} {hp : Heap} {ν : Nat → Value} {used : Nat → Prop} {w : World} {key : Nat} (hI : HInv X (lk hp) ν used w) (hk : ¬ used key) {t u ty : TypeId} {x y r : AV} {vx vy : Value} {es : List (Nat × Option HO)} {acc : List Nat}
    (hx : RepA w (Mut X.M0 (lk hp) ν) (lk hp) ν used x vx) (hy : RepA w (Mut X.M0 (lk hp) ν) (lk hp) ν used y vy) (he : evAppendS P (lk hp) t u x y = some (r, es, acc)) :
    ∃ v w', (Builtin.append_ #[t, u] ty #[vx, vy]).run P w = .ok v w' ∧ Post X hp ν used w key (eff hp es) r v w' := by
  unfold evAppendS at he
  split at he
  · rename_i k n s
    split at he
    · rename_i e sz xs e' ho hel
      split at he
      · rename_i hc
        obtain ⟨rfl, rfl, rfl, h1, h2, h3, h4, h5⟩ := hc
        simp only [Option.some.injEq, Prod.mk.injEq] at he
        obtain ⟨rfl, rfl, rfl⟩ := he
        cases hy with
        | d hy =>
        cases hy
        cases hx with
        | own hu hv hcc ha h =>
          obtain ⟨_, _, _, he, _, hvν⟩ := h _ ho
          cases he
          have hvν := hvν rfl
          obtain ⟨vals, hown, _, hf, hrow⟩ := hI.obj _ _ ho
          rw [hvν]
          obtain ⟨v', w', hr, g1, g2, g5, g6⟩ := run_append_str (P := P) hel h4 h1 h2 h3 ty hown s h5 hI.below.size
          refine ⟨v', w', hr, ?_⟩
          have hfl : Flat 1 (strD s) := fun q hq => by
            obtain ⟨b, _, rfl⟩ := List.mem_map.1 hq
            exact ⟨rfl, fun d hd => by simp [D.comps] at hd; subst hd; rfl⟩
          have hrr : RepRow w (Mut X.M0 (lk hp) ν) 1 (strD s) (Lib.strCells s) := fun i q j d hq hd => by
            unfold strD at hq
            rw [List.getElem?_map] at hq
            cases hb : s.data.toList[i]? with
            | none => rw [hb] at hq; cases hq
            | some b =>
              rw [hb] at hq
              simp only [Option.map_some, Option.some.injEq] at hq
              subst hq
              cases j with
              | zero =>
                simp [D.comps] at hd
                subst hd
                exact ⟨.int .u8 (b.toNat : Int), by simp only [Lib.strCells, Nat.mul_one, Nat.add_zero, List.getElem?_map, hb, Option.map_some], .int _ _⟩
              | succ j => simp [D.comps] at hd
          have := row_post (key := key) (k := k) (xs' := xs ++ strD s) hI hk (.inr ho) (by decide) (by rw [List.length_append, strD_len]; exact g1) g2 g5 (fun _ hl => g6 (by simp only [List.length_append, strD_len] at hl; omega)) (by simp) (hf.append hfl) (hrow.append hown.1 hf hrr)
          exact this
      · cases he
    · cases he
  · cases he
theorem evAppendS_local {P : Program} {H H' : Nat → Option HO} {t u : TypeId} {x y : AV} {q : AV × List (Nat × Option HO) × List Nat} (he : evAppendS P H t u x y = some q) (h : ∀ k ∈ q.2.2, H' k = H k) : evAppendS P H' t u x y = some q := by
  unfold evAppendS at he ⊢
  split at he
  · rename_i k n s
    split at he
    · rename_i e sz xs e' ho hel
      split at he
      · rename_i hc
        simp only [Option.some.injEq] at he
        subst he
        have := h k (by simp)
        simp only [this, ho, hel]
        rw [if_pos hc]
      · cases he
    · cases he
  · cases he
end Go.Eng
set_option linter.unusedVariables false
set_option linter.unusedSimpArgs false
namespace Go.Eng
open Go.RowKit
def evIdxV (P : Program) (t : TypeId) (x i : AV) : Option AV :=
  match x, i with
  | .d (.agg fs), .d (.int k z) => match arrT P t with
    | some (n, e) => match szT P e with
      | some sz => if 0 ≤ z ∧ z < n ∧ n * sz = fs.length ∧ 0 < sz then (ldD P e (fs.drop (z.toNat * sz))).map .d else none
      | none => none
    | none => none
  | _, _ => none
section
variable {P : Program} {w : World}
theorem run_partAgg {t n : Nat} (ha : aggT P t = some true) (hn : szT P t = some n) (cs : Array Value) (off : Nat) : (part t cs off).run P w = .ok (.agg (cs.extract off (off + n))) w := by
  simp [part, run_isAgg ha, run_sizeOf' hn]
theorem run_partOne {t : Nat} (ha : aggT P t = some false) {cs : Array Value} {off : Nat} {v : Value} (h : cs[off]? = some v) : (part t cs off).run P w = .ok v w := by
  simp [part, run_isAgg ha, h]
theorem evIdxV_sound {M : Nat → Prop} {H : Nat → Option HO} {ν : Nat → Value} {used : Nat → Prop} {t : TypeId} {x i r : AV} {vx vi : Value} (hx : RepA w M H ν used x vx) (hi : RepA w M H ν used i vi) (he : evIdxV P t x i = some r) :
    ∃ u, (Instr.index t vx vi).run P w = .ok u w ∧ RepA w M H ν used r u := by
  unfold evIdxV at he
  split at he
  · rename_i fs k z
    split at he
    · rename_i n e hn
      split at he
      · rename_i sz hz
        split at he
        · rename_i hc
          obtain ⟨z0, z1, z2, z3⟩ := hc
          obtain ⟨y, hy, rfl⟩ := Option.map_eq_some_iff.1 he
          cases hx with
          | d hx =>
            cases hi with
            | d hi =>
              cases hi
              cases hx with
              | agg hl hcl h =>
                rename_i cs
                obtain ⟨j, rfl⟩ := Int.eq_ofNat_of_zero_le z0
                rw [Int.toNat_natCast] at hy
                have hjn : j < n := by omega
                have hbound : j * sz + sz ≤ cs.length := by
                  rw [← hl, ← z2, ← Nat.succ_mul]
                  exact Nat.mul_le_mul_right _ hjn
                have hrun : (Instr.index t (.agg cs.toArray) (.int k (j : Int))).run P w = (part e cs.toArray (j * sz)).run P w := by
                  simp [Instr.index, asIntOf, run_underlying (arrT_und hn), z1, run_sizeOf' hz]
                  exact fun hx => absurd hjn (by omega)
                rw [hrun]
                unfold ldD at hy
                split at hy
                · rename_i ha
                  rw [hz] at hy
                  simp only at hy
                  split at hy
                  · rename_i hle
                    simp only [Option.some.injEq] at hy
                    subst hy
                    refine ⟨_, run_partAgg ha hz _ _, .d ?_⟩
                    rw [List.extract_toArray]
                    have e1 : cs.extract (j * sz) (j * sz + sz) = (cs.drop (j * sz)).take sz := by
                      rw [List.extract_eq_take_drop, Nat.add_sub_cancel_left]
                    rw [e1]
                    refine .agg (by simp; omega) (fun d hd => hcl d (List.mem_of_mem_drop (List.mem_of_mem_take hd))) fun q d v hd hv => ?_
                    rw [List.getElem?_take] at hd hv
                    split at hd
                    · rename_i hq
                      rw [if_pos hq] at hv
                      rw [List.getElem?_drop] at hd hv
                      exact h _ d v hd hv
                    · cases hd
                  · cases hy
                · rename_i ha
                  split at hy
                  · rename_i d rest hd
                    simp only [Option.some.injEq] at hy
                    subst hy
                    have h0 : fs[j * sz]? = some d := by
                      have := congrArg (·[0]?) hd
                      simpa [List.getElem?_drop] using this
                    have hlt : j * sz < cs.length := by omega
                    have h1 : cs[j * sz]? = some cs[j * sz] := List.getElem?_eq_getElem hlt
                    refine ⟨_, run_partOne ha (v := cs[j * sz]) (by simp), .d (h _ _ _ h0 h1)⟩
                  · cases hy
                · cases hy
        · cases he
      · cases he
    · cases he
  · cases he
end
def fillV (sz : Nat) : List AV → List (Nat × AV) → Option (List AV)
  | cs, [] => some cs
  | cs, (i, av) :: ps => if av.sto ∧ av.comps.length = sz ∧ i * sz + sz ≤ cs.length then fillV sz (splice cs (i * sz) av.comps) ps else none
def evBuildA (P : Program) (t : TypeId) (ps : List (Nat × AV)) : Option AV :=
  match arrT P t with
  | some (_, e) => match szT P e, zeroD P t with
    | some sz, some z => if (AV.d z).sto then match fillV sz (z.comps.map .d) ps with
      | some cs => some (pack cs)
      | none => none
      else none
    | _, _ => none
  | none => none
def evBuildX (P : Program) (t : TypeId) (ps : List (Nat × AV)) : Option AV := if allSz P t then evBuild P t ps else evBuildA P t ps
section
variable {P : Program} {w : World} {M : Nat → Prop} {H : Nat → Option HO} {ν : Nat → Value} {used : Nat → Prop}
theorem fillV_rep {sz : Nat} : ∀ (ps : List (Nat × AV)) (vs : List (Nat × Value)) (cs : List AV) (cells : Array Value) (cs' : List AV),
    ps.length = vs.length → (∀ (j : Nat) p q, ps[j]? = some p → vs[j]? = some q → p.1 = q.1 ∧ RepA w M H ν used p.2 q.2) →
    cs.length = cells.size → (∀ c ∈ cs, c.cell = true) → (∀ (i : Nat) d v, cs[i]? = some d → cells.toList[i]? = some v → RepA w M H ν used d v) →
    fillV sz cs ps = some cs' →
    ∃ out, Instr.fill (fun i => some (i * sz, sz)) cells vs = some out ∧ cs'.length = out.toList.length ∧ (∀ c ∈ cs', c.cell = true) ∧ ∀ (i : Nat) d v, cs'[i]? = some d → out.toList[i]? = some v → RepA w M H ν used d v
  | [], vs, cs, cells, cs', hl, h, hlen, hc, hr, he => by
    cases vs with
    | cons _ _ => simp at hl
    | nil =>
      simp [fillV] at he
      subst he
      exact ⟨cells, rfl, by simpa using hlen, hc, hr⟩
  | (i, av) :: ps, vs, cs, cells, cs', hl, h, hlen, hc, hr, he => by
    cases vs with
    | nil => simp at hl
    | cons q vs =>
      obtain ⟨i', v⟩ := q
      obtain ⟨e1, e2⟩ := h 0 _ _ rfl rfl
      simp only at e1 e2
      subst e1
      simp only [fillV] at he
      split at he
      · rename_i hcond
        obtain ⟨hs, hn, hle⟩ := hcond
        obtain ⟨c1, c2, c3⟩ := comps_rep e2 hs
        have hsz : v.cells.size = sz := by
          have : v.cells.toList.length = sz := by omega
          simpa using this
        have hfold := fold_splice v.cells.toList cells (i * sz) (by simp; omega)
        obtain ⟨out, g1, g2, g3, g4⟩ := fillV_rep ps vs (splice cs (i * sz) av.comps) ((v.cells.zipIdx.foldl (fun cs (c, j) => cs.setIfInBounds ((i * sz) + j) c) cells)) cs' (by simpa using hl)
          (fun j p q hp hq => h (j + 1) p q (by simpa using hp) (by simpa using hq))
          (by rw [splice_length _ _ _ (by omega)]
              have := congrArg List.length hfold
              rw [splice_length _ _ _ (by simp; omega)] at this
              rw [hlen]
              simp only [Array.length_toList] at this
              rw [← this, ← Array.foldl_toList]
              simp [Array.toList_zipIdx])
          (fun c hc' => by
            unfold splice at hc'
            simp at hc'
            rcases hc' with h | h | h
            · exact hc c (List.mem_of_mem_take h)
            · exact c2 c h
            · exact hc c (List.mem_of_mem_drop h))
          (fun j d u hd hu => by
            have e : (v.cells.zipIdx.foldl (fun cs (c, j) => cs.setIfInBounds ((i * sz) + j) c) cells).toList = splice cells.toList (i * sz) v.cells.toList := by
              rw [← hfold, ← Array.foldl_toList]
              simp [Array.toList_zipIdx]
            rw [e] at hu
            rw [splice_get _ _ _ (by omega)] at hd
            rw [splice_get _ _ _ (by simp; omega), c1] at hu
            split at hd
            · rename_i hj
              rw [if_pos hj] at hu
              exact c3 _ _ _ hd hu
            · rename_i hj
              rw [if_neg hj] at hu
              exact hr j d u hd hu) he
        refine ⟨out, ?_, g2, g3, g4⟩
        simp only [Instr.fill]
        rw [if_neg (by simp [hsz]; omega)]
        exact g1
      · cases he
theorem evBuildX_sound {t : Nat} {ps : List (Nat × AV)} {vs : List (Nat × Value)} {r : AV} (hl : ps.length = vs.length) (h : ∀ (j : Nat) p q, ps[j]? = some p → vs[j]? = some q → p.1 = q.1 ∧ RepA w M H ν used p.2 q.2) (he : evBuildX P t ps = some r) :
    ∃ u, (Instr.build t vs.toArray).run P w = .ok u w ∧ RepA w M H ν used r u := by
  unfold evBuildX at he
  split at he
  · exact evBuild_sound hl h he
  · unfold evBuildA at he
    split at he
    · rename_i n e hn
      split at he
      · rename_i sz z hz hzd
        split at he
        · rename_i hs
          split at he
          · rename_i cs hcs
            simp only [Option.some.injEq] at he
            subst he
            obtain ⟨zv, hzr, _, hzrep⟩ := zeroD_run hzd
            obtain ⟨c1, c2, c3⟩ := repD_comps (hzrep w M) hs
            obtain ⟨out, g1, g2, g3, g4⟩ := fillV_rep (w := w) (M := M) (H := H) (ν := ν) (used := used) (sz := sz) ps vs (z.comps.map .d) zv.cells cs hl h (by simpa using c1.symm)
              (fun c hc => by simp at hc; obtain ⟨y, hy, rfl⟩ := hc; exact c2 y hy)
              (fun i d u hd hu => by simp at hd; obtain ⟨y, hy, rfl⟩ := hd; exact .d (c3 i y u hy hu)) hcs
            refine ⟨_, ?_, pack_rep g2 g3 g4⟩
            simp only [Instr.build, Sem.run_bind, hzr, Result.andThen_ok, run_underlying (arrT_und hn), run_sizeOf' hz, g1, Sem.run_pure]
          · cases he
        · cases he
      · cases he
    · cases he
end
end Go.Eng

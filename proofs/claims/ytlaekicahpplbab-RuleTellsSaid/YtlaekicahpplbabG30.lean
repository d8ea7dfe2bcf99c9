/- The engine, part 30: slices of a variable's array; copy into them. -/
import Derived.Test.YtlaekicahpplbabG9
set_option linter.unusedVariables false
set_option linter.unusedSimpArgs false
namespace Go.Eng
open Go.RowKit

def arrT (P : Program) (t : TypeId) : Option (Nat × TypeId) := match P.underlying t with | some (.array n e) => some (n, e) | _ => none
theorem arrT_und {P : Program} {t n e : Nat} (h : arrT P t = some (n, e)) : P.underlying t = some (.array n e) := by
  unfold arrT at h
  split at h
  · rename_i n' e' hu; simp at h; obtain ⟨rfl, rfl⟩ := h; exact hu
  · cases h
def evView (P : Program) (H : Nat → Option HO) (t : TypeId) (x : AV) (lo hi mx : Option AV) : Option (AV × List (Nat × Option HO) × List Nat) :=
  match lo, mx, x with
  | none, none, .ref k off => match arrT P t with
    | some (n, e) => match H k, szT P e, ofInt hi n with
      | some (.var cs), some sz, some h => if sz = 1 ∧ h ≤ n ∧ off + n ≤ cs.length ∧ n ≤ 1000000 then some (.vs k off h, [], [k]) else none
      | _, _, _ => none
    | none => none
  | _, _, _ => none
section
variable {P : Program} {X : Ctx} {hp : Heap} {ν : Nat → Value} {used : Nat → Prop} {w : World} {key : Nat}
theorem run_boundA {i : Int} {k : IntKind} {y : Nat} {code : BoundsCode} (h0 : 0 ≤ i) (h1 : i ≤ y) : (Instr.sliceBound (.int k i) y code).run P w = .ok i.toNat w := by
  simp [Instr.sliceBound, asIntOf, h0, h1]
theorem evView_sound (hI : HInv X (lk hp) ν used w) (hk : ¬ used key) {t : Nat} {x r : AV} {vx : Value} {lo hi mx : Option AV} {vlo vhi vmx : Option Value} {es : List (Nat × Option HO)} {acc : List Nat}
    (hx : RepA w (Mut X.M0 (lk hp) ν) (lk hp) ν used x vx) (hlo : RepOpt w (Mut X.M0 (lk hp) ν) (lk hp) ν used lo vlo) (hhi : RepOpt w (Mut X.M0 (lk hp) ν) (lk hp) ν used hi vhi) (hmx : RepOpt w (Mut X.M0 (lk hp) ν) (lk hp) ν used mx vmx)
    (he : evView P (lk hp) t x lo hi mx = some (r, es, acc)) : ∃ v, (Instr.sliceAt t vx vlo vhi vmx).run P w = .ok v w ∧ Post X hp ν used w key (eff hp es) r v w := by
  unfold evView at he
  split at he
  · rename_i k off
    cases hlo
    cases hmx
    split at he
    · rename_i n e ha
      split at he
      · rename_i cs sz h ho hsz hh
        split at he
        · rename_i hc
          obtain ⟨rfl, hhn, hoff, hmax⟩ := hc
          simp at he
          obtain ⟨rfl, rfl, rfl⟩ := he
          cases hx with
          | ref hu href =>
            rename_i a
            have hb : (Instr.sliceBounds false n n none vhi none).run P w = .ok (0, h, n) w := by
              cases hhi with
              | none => simp [ofInt] at hh; subst hh; simp [Instr.sliceBounds]
              | some hq =>
                simp only [ofInt] at hh
                split at hh
                · split at hh
                  · rename_i h0
                    simp at hh
                    cases hq with
                    | d hq =>
                      cases hq
                      subst hh
                      simp [Instr.sliceBounds, run_boundA (P := P) (w := w) h0 (show _ ≤ (n : Int) by omega)]
                  · cases hh
                · cases hh
            refine ⟨.slice (some a) h n, ?_, ?_⟩
            · simp only [Instr.sliceAt, Sem.run_bind, run_underlying (arrT_und ha), Result.andThen_ok, Instr.sureAddr, Sem.run_pure, hb, run_sizeOf' hsz]
              have : (if n = 0 then a else a.add (0 * 1)) = a := by split <;> simp [Addr.add]
              rw [this]
              rfl
            · refine Post.same hI hk (.vs hu ⟨hhn, by simp only [maxLen]; omega⟩ fun o' ho' => ?_)
              obtain ⟨cs', b, rfl, h2, h3⟩ := href o' ho'
              rw [ho] at ho'
              cases ho'
              exact ⟨_, b, rfl, h2, h3, by omega⟩
        · cases he
      · cases he
    · cases he
  · cases he
/-- A variable's cells are written. -/
theorem var_write (hI : HInv X (lk hp) ν used w) (hk : ¬ used key) {k off b : Nat} {cs : List AV} {e : TypeId} {cells : Array Value} (ho : lk hp k = some (.var cs)) (hν : ν k = .pointer (some ⟨b, 0, none⟩)) (hg : w.heap[b]? = some (.cells cells e (0, 0))) (hlen : cells.size = cs.length)
    (hcell : ∀ c ∈ cs, c.cell = true) (hr : ∀ (i : Nat) av u, cs[i]? = some av → cells[i]? = some u → RepA w (Mut X.M0 (lk hp) ν) (lk hp) ν used av u) {ds : List AV} {us : List Value} (hl : us.length = ds.length) (hle : off + ds.length ≤ cs.length) (hdc : ∀ d ∈ ds, d.cell = true)
    (hd : ∀ (i : Nat) av u, ds[i]? = some av → us[i]? = some u → RepA w (Mut X.M0 (lk hp) ν) (lk hp) ν used av u) :
    ∃ ν', HInv X (lk (put hp k (.var (splice cs off ds)))) ν' (fun q => used q ∨ q = key) (w.setRow b (splice cells.toList off us).toArray) ∧
      Ext (Mut X.M0 (lk hp) ν) (lk hp) ν used w (Mut X.M0 (lk (put hp k (.var (splice cs off ds)))) ν') (lk (put hp k (.var (splice cs off ds)))) ν' (fun q => used q ∨ q = key) (w.setRow b (splice cells.toList off us).toArray) := by
  have hb : blockOf (ν k) = some b := by rw [hν]; rfl
  obtain ⟨g1, g2⟩ := hI.write (o' := .var (splice cs off ds)) ho hb (splice cells.toList off us).toArray (by simp only [HO.later]; rw [splice_length _ _ _ hle])
    (fun M' H' hx' => by
      refine ⟨b, _, e, hν, setRow_heap _ _ _ _ _ _ hg, ?_, fun c hc => ?_, fun i av u h1 h2 => ?_⟩
      · simp only [List.size_toArray]
        rw [splice_length _ _ _ (by simp; omega), splice_length _ _ _ hle]
        simpa using hlen
      · unfold splice at hc
        simp at hc
        rcases hc with h | h | h
        · exact hcell c (List.mem_of_mem_take h)
        · exact hdc c h
        · exact hcell c (List.mem_of_mem_drop h)
      · simp only [List.getElem?_toArray] at h2
        rw [splice_get _ _ _ hle] at h1
        rw [splice_get _ _ _ (by simp; omega)] at h2
        rw [hl] at h2
        split at h1
        · rename_i hij
          rw [if_pos hij] at h2
          exact (hd _ _ _ h1 h2).ext hx'
        · rename_i hij
          rw [if_neg hij] at h2
          exact (hr i av u h1 (by simpa using h2)).ext hx')
  obtain ⟨m1, m2⟩ := g1.more hk
  exact ⟨ν, m1, g2.trans m2⟩
def evCopy (P : Program) (H : Nat → Option HO) (t : TypeId) (x y : AV) : Option (AV × List (Nat × Option HO) × List Nat) :=
  match elT P t with
  | some e => match szT P e with
    | some sz => if sz = 1 then match x with
      | .vs k off n => match H k, toD H y with
        | some (.var cs), some (.sl 1 ys, ks) => if off + n ≤ cs.length ∧ ys.all D.flat = true ∧ k ∉ ks then
            some (.d (.int .i64 ((min ys.length n : Nat) : Int)), [(k, some (.var (splice cs off ((ys.take n).map .d))))], k :: ks) else none
        | _, _ => none
      | _ => none
      else none
    | none => none
  | none => none
theorem flat_cell {d : D} (h : d.flat = true) : d.cell = true := by cases d <;> first | rfl | (simp [D.flat] at h)
theorem evCopy_sound (hI : HInv X (lk hp) ν used w) (hk : ¬ used key) {t t' ty : Nat} {x y r : AV} {vx vy : Value} {es : List (Nat × Option HO)} {acc : List Nat}
    (hx : RepA w (Mut X.M0 (lk hp) ν) (lk hp) ν used x vx) (hy : RepA w (Mut X.M0 (lk hp) ν) (lk hp) ν used y vy)
    (he : evCopy P (lk hp) t x y = some (r, es, acc)) : ∃ v w', (Builtin.copy_ #[t, t'] ty #[vx, vy]).run P w = .ok v w' ∧ Post X hp ν used w key (eff hp es) r v w' := by
  unfold evCopy at he
  split at he
  · rename_i e hel
    split at he
    · rename_i sz hsz
      split at he
      · rename_i h1
        subst h1
        split at he
        · rename_i k off n
          split at he
          · rename_i cs ys ks ho hyd
            split at he
            · rename_i hc
              obtain ⟨hoff, hflat, hks⟩ := hc
              simp only [Option.some.injEq, Prod.mk.injEq] at he
              obtain ⟨rfl, rfl, rfl⟩ := he
              cases hx with
              | vs hu hc h =>
                rename_i c a
                obtain ⟨cs', b, he, hν, ha, _⟩ := h _ ho
                cases he
                obtain ⟨b', cells, e', hv, hg, hlen, hcell, hr⟩ := hI.obj _ _ ho
                rw [hν] at hv
                cases hv
                have hrd := toD_rep hI (M' := fun _ => False) (fun _ h => h.elim) y vy _ ks hy hyd (fun _ _ _ _ h => h)
                have hst : ∀ (us : List Value), us.length ≤ n → (∀ u ∈ us, u.oneCell' = true) → (storeCells a us).run P w = .ok () (w.setRow b (splice cells.toList off us).toArray) := fun us hul huc => by
                  subst ha
                  have := run_storeCells_at P b off e' us 0 cells w hg (by omega) huc
                  simpa [splice] using this
                have key_ : ∀ (us : List Value) (m : Nat), us.length = m → m = min ys.length n → (∀ (i : Nat) d u, ys[i]? = some d → us[i]? = some u → RepD w (fun _ => False) d u) → (Builtin.lenOf vy).run P w = .ok ys.length w → (Builtin.firstCells 1 (min ys.length n) vy).run P w = .ok us.toArray w →
                    ∃ v w', (Builtin.copy_ #[t, t'] ty #[.slice (some a) n c, vy]).run P w = .ok v w' ∧ Post X hp ν used w key (eff hp [(k, some (.var (splice cs off ((ys.take n).map .d))))]) (.d (.int .i64 ((min ys.length n : Nat) : Int))) v w' := fun us m hul hm hus hlo hfc => by
                  have hdl : ((ys.take n).map AV.d).length = m := by simp; omega
                  have hun : us.length ≤ n := by omega
                  have fl : ∀ d ∈ ys, d.flat = true := List.all_eq_true.1 hflat
                  have dv : ∀ (i : Nat) av u, ((ys.take n).map AV.d)[i]? = some av → us[i]? = some u → RepA w (Mut X.M0 (lk hp) ν) (lk hp) ν used av u := fun i av u hi hui => by
                    rw [List.getElem?_map, List.getElem?_take] at hi
                    split at hi
                    · obtain ⟨d, hd, rfl⟩ := Option.map_eq_some_iff.1 hi
                      exact .d ((hus i d u hd hui).flat (fl d (List.mem_of_getElem? hd)))
                    · cases hi
                  have hdc : ∀ d ∈ (ys.take n).map AV.d, d.cell = true := fun d hd => by
                    obtain ⟨z, hz, rfl⟩ := List.mem_map.1 hd
                    exact flat_cell (fl z (List.mem_of_mem_take hz))
                  have huc : ∀ u ∈ us, u.oneCell' = true := fun u hu => by
                    obtain ⟨i, hi⟩ := List.mem_iff_getElem?.1 hu
                    have hil : i < ((ys.take n).map AV.d).length := by rw [hdl, ← hul]; exact (List.getElem?_eq_some_iff.1 hi).1
                    have hd := List.getElem?_eq_getElem hil
                    exact (dv i _ u hd hi).oneCell (hdc _ (List.getElem_mem hil))
                  obtain ⟨ν', m1, m2⟩ := var_write hI hk ho hν hg hlen hcell hr (us := us) (ds := (ys.take n).map AV.d) (off := off) (by rw [hul, hdl]) (by rw [hdl]; omega) hdc dv
                  refine ⟨.int .i64 ((min ys.length n : Nat) : Int), _, ?_, ν', m1, m2, .d (.int _ _)⟩
                  have hfc' : (Builtin.firstCells 1 (Nat.min ys.length n) vy).run P w = .ok us.toArray w := hfc
                  simp only [Builtin.copy_, List.getElem?_toArray, List.getElem?_cons_zero, List.getElem?_cons_succ, Sem.run_bind, run_underlying (elT_und hel), Result.andThen_ok, hlo, run_sizeOf' hsz, hfc', hst us hun huc, goInt, Sem.run_pure]
                cases hrd with
                | sl0 => exact key_ [] 0 rfl (by simp) (fun i d u hd => by simp at hd) rfl (by simp [Builtin.firstCells])
                | sl val hb hM hcc hm hs h1 h2 =>
                  rename_i c' a'
                  have hget : ∀ (i : Nat), i < min ys.length n → ∃ d, ys[i]? = some d ∧ d.comps = [d] := fun i hi => by
                    have hil : i < ys.length := by omega
                    have hd := List.getElem?_eq_getElem hil
                    refine ⟨_, hd, ?_⟩
                    have hf := flat_cell (List.all_eq_true.1 hflat _ (List.getElem_mem hil))
                    generalize ys[i] = d at hf
                    cases d <;> first | rfl | (simp [D.cell] at hf)
                  refine key_ ((List.range (min ys.length n)).map fun i => val i 0) _ (by simp) rfl (fun i d u hd hu => ?_) rfl ?_
                  · obtain ⟨hi, rfl⟩ := range_map_get hu
                    obtain ⟨d', hd', hcp⟩ := hget i hi
                    rw [hd] at hd'
                    cases hd'
                    exact h2 i d 0 d hd (by rw [hcp]; rfl)
                  · refine run_firstCells_some w 1 _ a' _ c' _ (by simp) fun j v hj => ?_
                    obtain ⟨hi, rfl⟩ := range_map_get hj
                    obtain ⟨d', hd', hcp⟩ := hget j hi
                    have := h1 j d' 0 d' hd' (by rw [hcp]; rfl)
                    simpa using this
            · cases he
          · cases he
        · cases he
      · cases he
    · cases he
  · cases he
/-- append of a variable's plain cells: the variable stays. -/
def evAppendV (P : Program) (H : Nat → Option HO) (t : TypeId) (x y : AV) : Option (AV × List (Nat × Option HO) × List Nat) :=
  match x, y with
  | .own k n, .vs kv off m => match elT P t with
    | some e => match szT P e, byT P e, H k, toD H (.vs kv off m) with
      | some sz, some b, some (.row e' sz' xs), some (.sl s ys, _) => if sz = 1 ∧ s = 1 ∧ zOk P e = true ∧ n = xs.length ∧ e' = e ∧ sz' = 1 ∧ k ≠ kv ∧ ys.all D.flat = true ∧ room (xs.length + ys.length) b then
          some (.own k (xs.length + ys.length), [(k, some (.row e 1 (xs ++ ys)))], [k, kv]) else none
      | _, _, _, _ => none
    | none => none
  | _, _ => none
theorem evAppendV_sound (hI : HInv X (lk hp) ν used w) (hk : ¬ used key) {t ty : TypeId} {x y r : AV} {vx vy : Value} {es : List (Nat × Option HO)} {acc : List Nat}
    (hx : RepA w (Mut X.M0 (lk hp) ν) (lk hp) ν used x vx) (hy : RepA w (Mut X.M0 (lk hp) ν) (lk hp) ν used y vy) (he : evAppendV P (lk hp) t x y = some (r, es, acc)) :
    ∃ v w', (Builtin.append_ #[t, t] ty #[vx, vy]).run P w = .ok v w' ∧ Post X hp ν used w key (eff hp es) r v w' := by
  unfold evAppendV at he
  split at he
  · rename_i k n kv off m
    split at he
    · rename_i e hel
      split at he
      · rename_i sz b e' sz' xs s ys q hsz hb ho hyd
        split at he
        · rename_i hc
          obtain ⟨rfl, rfl, hzo, rfl, rfl, rfl, hne, hflat, hroom⟩ := hc
          simp only [Option.some.injEq, Prod.mk.injEq] at he
          obtain ⟨rfl, rfl, rfl⟩ := he
          have hrd := toD_rep hI (M' := fun _ => False) (fun _ h => h.elim) _ vy _ _ hy hyd (fun _ _ _ _ h => h)
          cases hx with
          | own hu hv hcc ha h =>
            obtain ⟨_, _, _, he, _, hvν⟩ := h _ ho
            cases he
            have hvν := hvν rfl
            obtain ⟨vals, hown, hz, hf, hrow⟩ := hI.obj _ _ ho
            rw [hvν]
            obtain ⟨v', w', news, hr, g1, g2, g3, g4, g5, g6⟩ := run_append_any (P := P) hel hsz hb hz hzo ty hown hrd hroom hI.below.size
            refine ⟨v', w', hr, ?_⟩
            have g4' : RepRow w (Mut X.M0 (lk hp) ν) 1 ys news := fun i x j d hx hd => by
              obtain ⟨u, hu, hru⟩ := g4 i x j d hx hd
              have hfx := List.all_eq_true.1 hflat x (List.mem_of_getElem? hx)
              have hdx : d = x := by
                cases x <;> simp [D.flat] at hfx <;> (cases j <;> simp [D.comps] at hd; exact hd.symm)
              exact ⟨u, hu, hru.flat (hdx ▸ hfx)⟩
            have := row_post (key := key) (k := k) (xs' := xs ++ ys) hI hk (.inr ho) hz (by rw [List.length_append]; exact g1) g2 g5 (fun _ hl => g6 (by simp at hl; exact hl)) (by simp) (hf.append g3) (hrow.append hown.1 hf g4')
            simp only [List.length_append] at this
            exact this
        · cases he
      · cases he
    · cases he
  · cases he
theorem evAppendV_congr {H H' : Nat → Option HO} {t : TypeId} {x y : AV} (h1 : ∀ k n, x = .own k n → H' k = H k) (h2 : ∀ k o n, y = .vs k o n → H' k = H k) : evAppendV P H' t x y = evAppendV P H t x y := by
  unfold evAppendV
  cases x <;> try rfl
  cases y <;> try rfl
  rename_i k n kv off m
  simp only [toD, h1 k n rfl, h2 kv off m rfl]
theorem evAppendV_acc {H : Nat → Option HO} {t : TypeId} {x y r : AV} {es : List (Nat × Option HO)} {acc : List Nat} (he : evAppendV P H t x y = some (r, es, acc)) : (∀ k n, x = .own k n → k ∈ acc) ∧ ∀ k o n, y = .vs k o n → k ∈ acc := by
  unfold evAppendV at he
  split at he
  · split at he
    · split at he
      · split at he
        · simp only [Option.some.injEq, Prod.mk.injEq] at he
          obtain ⟨-, -, rfl⟩ := he
          refine ⟨fun k n e => ?_, fun k o n e => ?_⟩
          · cases e; simp
          · cases e; simp
        · cases he
      · cases he
    · cases he
  · cases he
theorem evAppend_acc {H : Nat → Option HO} {t : TypeId} {x y r : AV} {es : List (Nat × Option HO)} {acc : List Nat} (he : evAppend P key H t x y = some (r, es, acc)) : (∀ k n, x = .own k n → k ∈ acc) ∧ ∀ k o n, y = .vs k o n → k ∈ acc := by
  unfold evAppend at he
  split at he
  · cases he
  · split at he
    · split at he
      · split at he
        · rename_i d ks hd
          have hkv : ∀ k o n, y = .vs k o n → k ∈ ks := fun k o n e => by
            subst e
            simp only [toD] at hd
            split at hd
            · split at hd
              · split at hd
                · simp only [Option.some.injEq, Prod.mk.injEq] at hd
                  obtain ⟨-, rfl⟩ := hd; simp
                · cases hd
              · cases hd
            · cases hd
          split at he
          · split at he
            · split at he
              · split at he
                · split at he
                  · simp only [Option.some.injEq, Prod.mk.injEq] at he
                    obtain ⟨-, -, rfl⟩ := he
                    exact ⟨fun k n e => by cases e; simp, fun k o n e => by simp [hkv k o n e]⟩
                  · cases he
                · cases he
              · cases he
            · split at he
              · split at he
                · simp only [Option.some.injEq, Prod.mk.injEq] at he
                  obtain ⟨-, -, rfl⟩ := he
                  exact ⟨fun k n e => by simp at e, hkv⟩
                · cases he
              · cases he
            · cases he
          · cases he
        · cases he
      · cases he
    · cases he
end
end Go.Eng

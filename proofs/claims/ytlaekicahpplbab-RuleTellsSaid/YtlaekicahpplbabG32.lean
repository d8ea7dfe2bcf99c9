/- The engine, part 32: maps of the call's own. -/
import Derived.Test.YtlaekicahpplbabG30
import Derived.Maps.Keyed
import Derived.Maps.RangeRun
import Derived.Carry
import Derived.DeepKeys5
set_option linter.unusedVariables false
set_option linter.unusedSimpArgs false
namespace Go.Eng
open Go.RowKit
open Go.Maps (Keyed)
open Go.ChangeMaps (setBlock)

def D.leaf : D → Bool
  | .bool _ | .int .. | .str _ => true
  | _ => false
/-- Bools, numbers, strings, and a struct of such: a value, without a place. -/
def D.pure : D → Bool
  | .agg fs => fs.all D.leaf
  | .bool _ | .int .. | .str _ => true
  | _ => false
theorem leaf_det {d : D} (hd : d.leaf = true) {w w' : World} {M M' : Nat → Prop} {v v' : Value} (h : RepD w M d v) (h' : RepD w' M' d v') : v = v' := by
  cases d <;> first | (simp [D.leaf] at hd; done) | (cases h; cases h'; rfl)
theorem leaf_inj {a b : D} (ha : a.leaf = true) (hb : b.leaf = true) {w w' : World} {M M' : Nat → Prop} {v : Value} (h : RepD w M a v) (h' : RepD w' M' b v) : a = b := by
  cases a <;> first | (simp [D.leaf] at ha; done) | skip
  all_goals cases b <;> first | (simp [D.leaf] at hb; done) | skip
  all_goals cases h <;> cases h' <;> rfl
theorem pure_det {d : D} (hd : d.pure = true) {w w' : World} {M M' : Nat → Prop} {v v' : Value} (h : RepD w M d v) (h' : RepD w' M' d v') : v = v' := by
  cases d <;> first | (simp [D.pure] at hd; done) | (cases h; cases h'; rfl) | skip
  rename_i fs
  cases h with
  | agg hl hc hh =>
    rename_i cs
    cases h' with
    | agg hl' hc' hh' =>
      rename_i cs'
      have : cs = cs' := List.ext_getElem? fun i => by
        by_cases hi : i < cs.length
        · have h1 := List.getElem?_eq_getElem (l := fs) (i := i) (by omega)
          have h2 := List.getElem?_eq_getElem hi
          have h3 := List.getElem?_eq_getElem (l := cs') (i := i) (by omega)
          rw [h2, h3, leaf_det (List.all_eq_true.1 hd _ (List.mem_of_getElem? h1)) (hh i _ _ h1 h2) (hh' i _ _ h1 h3)]
        · rw [List.getElem?_eq_none (by omega), List.getElem?_eq_none (by omega)]
      rw [this]
theorem pure_inj {a b : D} (ha : a.pure = true) (hb : b.pure = true) {w w' : World} {M M' : Nat → Prop} {v : Value} (h : RepD w M a v) (h' : RepD w' M' b v) : a = b := by
  cases a <;> first | (simp [D.pure] at ha; done) | skip
  all_goals cases b <;> first | (simp [D.pure] at hb; done) | skip
  all_goals cases h <;> first | (cases h'; done) | (cases h'; rfl) | skip
  rename_i fs fs' cs hl hc hh
  generalize hv : Value.agg cs.toArray = v at h'
  cases h' with
  | agg hl' hc' hh' =>
    rename_i cs'
    have hcs : cs = cs' := by simpa using hv
    subst hcs
    congr 1
    refine List.ext_getElem? fun i => ?_
    by_cases hi : i < fs.length
    · have h1 := List.getElem?_eq_getElem hi
      have h2 := List.getElem?_eq_getElem (l := fs') (i := i) (by omega)
      have h3 := List.getElem?_eq_getElem (l := cs) (i := i) (by omega)
      rw [h1, h2, leaf_inj (List.all_eq_true.1 ha _ (List.mem_of_getElem? h1)) (List.all_eq_true.1 hb _ (List.mem_of_getElem? h2)) (hh i _ _ h1 h3) (hh' i _ _ h2 h3)]
    · rw [List.getElem?_eq_none (by omega), List.getElem?_eq_none (by omega)]

def mapT (P : Program) (t : TypeId) : Option (TypeId × TypeId) := match P.underlying t with | some (.map k e) => some (k, e) | _ => none
theorem mapT_und {P : Program} {t k e : Nat} (h : mapT P t = some (k, e)) : P.underlying t = some (.map k e) := by
  unfold mapT at h
  split at h
  · rename_i k' e' hu; simp at h; obtain ⟨rfl, rfl⟩ := h; exact hu
  · cases h
/-- A key that the type takes. -/
def KeyD (P : Program) (kt : TypeId) (kd : D) : Prop := kd.pure = true ∧ ∃ v l, (∀ w M, RepD w M kd v) ∧ keyOf P kt v = some l
/-- A map's keys are good, and so is one more. -/
def MapOk (P : Program) (kt : TypeId) (es : List (D × D)) (kd : D) : Prop := Keyed P kt ∧ KeyD P kt kd ∧ (∀ p ∈ es, KeyD P kt p.1) ∧ (es.map (·.1)).Nodup
open Classical in
noncomputable def mget : List (D × D) → D → Option D
  | [], _ => none
  | (a, b) :: l, k => if a = k then some b else mget l k
open Classical in
noncomputable def mput : List (D × D) → D → D → List (D × D)
  | [], k, v => [(k, v)]
  | (a, b) :: l, k, v => if a = k then (k, v) :: l else (a, b) :: mput l k v
theorem mget_none {es : List (D × D)} {k : D} (h : ∀ p ∈ es, p.1 ≠ k) : mget es k = none := by
  induction es with
  | nil => rfl
  | cons p es ih =>
    obtain ⟨a, b⟩ := p
    simp only [mget]
    rw [if_neg (h (a, b) (by simp)), ih (fun p hp => h p (by simp [hp]))]
theorem mput_none {es : List (D × D)} {k v : D} (h : ∀ p ∈ es, p.1 ≠ k) : mput es k v = es ++ [(k, v)] := by
  induction es with
  | nil => rfl
  | cons p es ih =>
    obtain ⟨a, b⟩ := p
    simp only [mput]
    rw [if_neg (h (a, b) (by simp)), ih (fun p hp => h p (by simp [hp]))]
    rfl
theorem mget_at {es : List (D × D)} (hn : (es.map (·.1)).Nodup) {j : Nat} {k v : D} (h : es[j]? = some (k, v)) : mget es k = some v := by
  induction es generalizing j with
  | nil => simp at h
  | cons p es ih =>
    obtain ⟨a, b⟩ := p
    simp only [List.map_cons, List.nodup_cons] at hn
    simp only [mget]
    cases j with
    | zero => simp at h; obtain ⟨rfl, rfl⟩ := h; rw [if_pos rfl]
    | succ j =>
      have h' : es[j]? = some (k, v) := by simpa using h
      have : a ≠ k := fun e => hn.1 (by rw [e]; exact List.mem_map.2 ⟨_, List.mem_of_getElem? h', rfl⟩)
      rw [if_neg this]
      exact ih hn.2 h'
theorem mput_at {es : List (D × D)} (hn : (es.map (·.1)).Nodup) {j : Nat} {k v v' : D} (h : es[j]? = some (k, v)) : mput es k v' = es.set j (k, v') := by
  induction es generalizing j with
  | nil => simp at h
  | cons p es ih =>
    obtain ⟨a, b⟩ := p
    simp only [List.map_cons, List.nodup_cons] at hn
    simp only [mput]
    cases j with
    | zero => simp at h; obtain ⟨rfl, rfl⟩ := h; rw [if_pos rfl]; rfl
    | succ j =>
      have h' : es[j]? = some (k, v) := by simpa using h
      have : a ≠ k := fun e => hn.1 (by rw [e]; exact List.mem_map.2 ⟨_, List.mem_of_getElem? h', rfl⟩)
      rw [if_neg this, ih hn.2 h']
      rfl

section
variable {P : Program} {X : Ctx} {hp : Heap} {ν : Nat → Value} {used : Nat → Prop} {w : World} {key : Nat}
/-- An object's own block turns. -/
theorem HInv.turn (hI : HInv X (lk hp) ν used w) {k : Nat} {o o' : HO} (ho : lk hp k = some o) {b : Nat} (hb : blockOf (ν k) = some b) {w1 : World} (h1 : w1 = w ∨ w1 = w.drew) (ob : Obj) (hl : o.later o') (hst : o.still o')
    (hrep : ∀ M' H', Ext (Mut X.M0 (lk hp) ν) (lk hp) ν used w M' H' ν used (setBlock w1 b ob) → RepO X.base (setBlock w1 b ob) M' H' ν used (ν k) o') :
    HInv X (lk (put hp k o')) ν used (setBlock w1 b ob) ∧
    Ext (Mut X.M0 (lk hp) ν) (lk hp) ν used w (Mut X.M0 (lk (put hp k o')) ν) (lk (put hp k o')) ν used (setBlock w1 b ob) := by
  have hM : Mut X.M0 (lk hp) ν b := .inr ⟨k, o, ho, hb⟩
  have hheap : w1.heap = w.heap := by rcases h1 with rfl | rfl <;> rfl
  have hsz : (setBlock w1 b ob).heap.size = w.heap.size := by simp [setBlock, hheap]
  have hoth : ∀ q, q ≠ b → (setBlock w1 b ob).heap[q]? = w.heap[q]? := fun q hq => by
    simp only [setBlock, hheap]
    rw [Array.getElem?_setIfInBounds, if_neg (fun e => hq e.symm)]
  have hx : Ext (Mut X.M0 (lk hp) ν) (lk hp) ν used w (Mut X.M0 (lk (put hp k o')) ν) (lk (put hp k o')) ν used (setBlock w1 b ob) := by
    refine ⟨⟨by rw [hsz]; exact Nat.le_refl _, fun b' _ hM' => hoth _ (fun h => hM' (h ▸ hM))⟩, fun b' _ hM' => ?_, fun q hq => hq, fun q hq o'' ho'' => ?_, ⟨by rw [hsz]; exact Nat.le_refl _, fun b' _ hM' => hoth _ (fun h => hM' (h ▸ ⟨k, o, ho, hb⟩))⟩, fun b' _ hM' => ?_⟩
    · rcases hM' with h | ⟨q, o'', hq, hbq⟩
      · exact .inl h
      · by_cases h : q = k
        · subst h; exact .inr ⟨q, o, ho, hbq⟩
        · rw [lk_put_other _ _ _ _ h] at hq
          exact .inr ⟨q, o'', hq, hbq⟩
    · by_cases h : q = k
      · subst h
        rw [lk_put_same] at ho''
        cases ho''
        exact ⟨o, ho, hl, fun _ => rfl⟩
      · rw [lk_put_other _ _ _ _ h] at ho''
        exact ⟨o'', ho'', by cases o'' <;> simp [HO.later], fun _ => rfl⟩
    · obtain ⟨q, o'', hq, hbq⟩ := hM'
      by_cases h : q = k
      · subst h; exact ⟨q, o, ho, hbq⟩
      · rw [lk_put_other _ _ _ _ h] at hq
        exact ⟨q, o'', hq, hbq⟩
  have hbk := hI.blk _ _ _ ho hb
  have hbel : Bl X.base w (setBlock w1 b ob) := by
    refine ⟨⟨?_, ?_, ?_, by rw [hsz]; exact Nat.le_refl _, fun q hq => hoth _ (by omega)⟩, ?_⟩
    all_goals rcases h1 with rfl | rfl <;> first | rfl | exact Nat.le_refl _ | exact Nat.le_succ _
  have hν : upd ν k (ν k) = ν := by funext q; by_cases h : q = k <;> simp [upd, h]
  have := hI.step (k := k) (o := o') (v := ν k) (used' := used) (w' := setBlock w1 b ob) hbel (by rw [hν]; exact hx) (hI.usd _ _ ho)
    (fun b' hb' => ⟨(hI.blk _ _ _ ho hb').1, by rw [hsz]; exact (hI.blk _ _ _ ho hb').2, fun q o'' hne hq hbq => hne (hI.inj _ _ _ _ _ hq ho hbq hb'), hI.far _ _ _ ho hb'⟩)
    (fun q o'' b' hne hq hb' => hoth _ (fun h => hne (hI.inj _ _ _ _ _ hq ho (h ▸ hb') hb))) (by rw [hν]; exact hrep _ _ hx)
  rw [hν] at this
  exact ⟨this, hx⟩
theorem setBlock_at {w1 : World} {b : Nat} {ob : Obj} (h : b < w1.heap.size) : (setBlock w1 b ob).heap[b]? = some ob := by
  simp [setBlock, h]

/-! ### The operations -/
def evMakeMap (P : Program) (key : Nat) (t : TypeId) (r : Bool) : Option (AV × List (Nat × Option HO) × List Nat) :=
  match mapT P t with
  | some (k, e) => if r = false then some (.map key, [(key, some (.map k e []))], []) else none
  | none => none
theorem evMakeMap_sound (hI : HInv X (lk hp) ν used w) (hk : ¬ used key) {t : Nat} {r : AV} {es : List (Nat × Option HO)} {acc : List Nat} (he : evMakeMap P key t false = some (r, es, acc)) :
    ∃ v w', (Instr.makeMap t none).run P w = .ok v w' ∧ Post X hp ν used w key (eff hp es) r v w' := by
  unfold evMakeMap at he
  split at he
  · rename_i k e hm
    simp at he
    obtain ⟨rfl, rfl, rfl⟩ := he
    refine ⟨_, _, run_makeMap t w, ?_⟩
    obtain ⟨g1, g2⟩ := hI.alloc hk (.map #[] 0) (.map k e []) (.map (some w.heap.size)) rfl (fun M' H' ν' used' hx =>
      ⟨w.heap.size, #[], rfl, heap_alloc_new w _, rfl, fun i kd vd en h1 => by simp at h1⟩)
    refine ⟨_, g1, g2, ?_⟩
    refine .map (.inr rfl) fun o ho => ?_
    simp only [eff] at ho
    rw [lk_put_same] at ho
    cases ho
    exact ⟨k, e, [], rfl, by rw [upd_same]⟩
  · cases he
/-- What finding a key in a map's entries comes to. -/
theorem find_run {M : Nat → Prop} {kt : TypeId} {es : List (D × D)} {ents : Array MapEntry} {kd : D} {vk : Value} (hok : MapOk P kt es kd) (hsz : ents.size = es.length)
    (hr : ∀ (i : Nat) kd vd en, es[i]? = some (kd, vd) → ents[i]? = some en → en.born = i ∧ RepD w M kd en.key ∧ RepD w M vd en.val) (hvk : RepD w M kd vk) :
    (∀ (w : World) (em : Bool), (Instr.checkKey em 10000 kt vk).run P w = .ok () w) ∧ (∀ w : World, (Instr.keyThatStays vk vk).run P w = .ok vk w) ∧
    (((Instr.findKey kt vk ents.toList).run P w = .ok none w ∧ ∀ p ∈ es, p.1 ≠ kd) ∨
      ∃ j en vd, (Instr.findKey kt vk ents.toList).run P w = .ok (some (j, en.val)) w ∧ ents[j]? = some en ∧ en.key = vk ∧ es[j]? = some (kd, vd) ∧ RepD w M vd en.val) := by
  obtain ⟨K, ⟨hp1, v0, l0, hv0, hl0⟩, hes, hn⟩ := hok
  have e0 : vk = v0 := pure_det hp1 hvk (hv0 w M)
  subst e0
  refine ⟨fun w em => K.check w em hl0, fun w => K.stays w hl0, ?_⟩
  have hall : ∀ e ∈ ents.toList, ∃ l, keyOf P kt e.key = some l := fun e he => by
    obtain ⟨i, hi⟩ := List.mem_iff_getElem?.1 he
    have hil : i < es.length := by rw [← hsz]; have := (List.getElem?_eq_some_iff.1 hi).1; simpa using this
    have h1 := List.getElem?_eq_getElem hil
    obtain ⟨_, h2, _⟩ := hr i _ _ e h1 (by simpa using hi)
    obtain ⟨hpi, v1, l1, hv1, hl1⟩ := hes _ (List.mem_of_getElem? h1)
    have := pure_det hpi h2 (hv1 w M)
    exact ⟨l1, by rw [this]; exact hl1⟩
  rcases K.find w hl0 ents.toList hall with ⟨h1, h2⟩ | ⟨j, e, h1, h2, h3⟩
  · refine .inl ⟨h1, fun p hp heq => ?_⟩
    obtain ⟨i, hi⟩ := List.mem_iff_getElem?.1 hp
    have hil : i < ents.size := by rw [hsz]; exact (List.getElem?_eq_some_iff.1 hi).1
    have he := Array.getElem?_eq_getElem hil
    obtain ⟨a, b⟩ := p
    simp only at heq
    subst heq
    obtain ⟨_, h4, _⟩ := hr i _ _ _ hi he
    exact h2 _ (by simp) (pure_det hp1 h4 hvk)
  · refine .inr ?_
    have h2' : ents[j]? = some e := by simpa using h2
    have hjl : j < es.length := by rw [← hsz]; exact (Array.getElem?_eq_some_iff.1 h2').1
    have h4 := List.getElem?_eq_getElem hjl
    obtain ⟨_, h5, h6⟩ := hr j _ _ _ h4 h2'
    have hkk : es[j].1 = kd := by
      rw [h3] at h5
      exact pure_inj (hes _ (List.mem_of_getElem? h4)).1 hp1 h5 hvk
    refine ⟨j, e, es[j].2, h1, h2', h3, ?_, h6⟩
    rw [h4, ← hkk]
open Classical in
noncomputable def evLookup (P : Program) (H : Nat → Option HO) (t : TypeId) (x i : AV) (ok : Bool) : Option (AV × List Nat) :=
  match x, i with
  | .map k, .d kd => match H k, mapT P t with
    | some (.map kt et es), some (kt', et') => if kt' = kt ∧ et' = et ∧ MapOk P kt es kd then
        match mget es kd with
        | some vd => some (if ok then .tup [.d vd, .d (.bool true)] else .d vd, [k])
        | none => match zeroD P et with
          | some z => some (if ok then .tup [.d z, .d (.bool false)] else .d z, [k])
          | none => none
      else none
    | _, _ => none
  | _, _ => none
theorem evLookup_sound (hI : HInv X (lk hp) ν used w) {t : Nat} {x i r : AV} {vx vi : Value} {ok : Bool} {acc : List Nat}
    (hx : RepA w (Mut X.M0 (lk hp) ν) (lk hp) ν used x vx) (hi : RepA w (Mut X.M0 (lk hp) ν) (lk hp) ν used i vi) (he : evLookup P (lk hp) t x i ok = some (r, acc)) :
    ∃ v, (Instr.lookup t vx vi ok).run P w = .ok v w ∧ RepA w (Mut X.M0 (lk hp) ν) (lk hp) ν used r v := by
  unfold evLookup at he
  split at he
  · rename_i k kd
    split at he
    · rename_i kt et es kt' et' ho hm
      split at he
      · rename_i hc
        obtain ⟨rfl, rfl, hok⟩ := hc
        cases hx with
        | map hu h =>
          rename_i mr
          cases hi with
          | d hi =>
            obtain ⟨_, _, _, he', hν⟩ := h _ ho
            cases he'
            obtain ⟨r0, ents, hv, hg, hsz, hr⟩ := hI.obj _ _ ho
            rw [hν] at hv
            cases hv
            obtain ⟨c1, c2, c3⟩ := find_run (w := w) hok hsz hr hi
            have tup : ∀ (vd : D) (u : Value) (b : Bool), RepD w (Mut X.M0 (lk hp) ν) vd u → RepA w (Mut X.M0 (lk hp) ν) (lk hp) ν used (if ok then .tup [.d vd, .d (.bool b)] else .d vd) (if ok then .tuple #[u, .bool b] else u) := fun vd u b h => by
              cases ok with
              | false => exact .d h
              | true =>
                simp only [if_true]
                refine RepA.tup (cs := [u, .bool b]) rfl fun i d v h1 h2 => ?_
                match i with
                | 0 => simp at h1 h2; subst h1; subst h2; exact .d h
                | 1 => simp at h1 h2; subst h1; subst h2; exact .d (.bool _)
                | i + 2 => simp at h1
            rcases c3 with ⟨f1, f2⟩ | ⟨j, en, vd, f1, f2, f3, f4, f5⟩
            · rw [mget_none f2] at he
              simp only at he
              split at he
              · rename_i z hz
                simp only [Option.some.injEq, Prod.mk.injEq] at he
                obtain ⟨rfl, rfl⟩ := he
                obtain ⟨zv, hzr, _, hrep⟩ := zeroD_run hz
                refine ⟨_, ?_, tup z zv false (hrep _ _)⟩
                simp only [Instr.lookup, Sem.run_bind, run_underlying (mapT_und hm), Result.andThen_ok, Go.MapKept.run_getObj_map hg, Sem.run_pure, c1, f1, hzr]
              · cases he
            · rw [mget_at hok.2.2.2 f4] at he
              simp only [Option.some.injEq, Prod.mk.injEq] at he
              obtain ⟨rfl, rfl⟩ := he
              refine ⟨_, ?_, tup vd en.val true f5⟩
              simp only [Instr.lookup, Sem.run_bind, run_underlying (mapT_und hm), Result.andThen_ok, Go.MapKept.run_getObj_map hg, Sem.run_pure, c1, f1]
      · cases he
    · cases he
  · cases he
open Classical in
noncomputable def evMapUpd (P : Program) (H : Nat → Option HO) (t : TypeId) (x i y : AV) : Option (List (Nat × Option HO) × List Nat) :=
  match x, i, y with
  | .map k, .d kd, .d vd => match H k, mapT P t with
    | some (.map kt et es), some (kt', et') => if kt' = kt ∧ et' = et ∧ MapOk P kt es kd then some ([(k, some (.map kt et (mput es kd vd)))], [k]) else none
    | _, _ => none
  | _, _, _ => none
theorem evMapUpd_sound (hI : HInv X (lk hp) ν used w) (hk : ¬ used key) {t : Nat} {x i y : AV} {vx vi vy : Value} {es : List (Nat × Option HO)} {acc : List Nat}
    (hx : RepA w (Mut X.M0 (lk hp) ν) (lk hp) ν used x vx) (hi : RepA w (Mut X.M0 (lk hp) ν) (lk hp) ν used i vi) (hy : RepA w (Mut X.M0 (lk hp) ν) (lk hp) ν used y vy) (he : evMapUpd P (lk hp) t x i y = some (es, acc)) :
    ∃ w', (Instr.mapUpdate t vx vi vy).run P w = .ok () w' ∧ Post X hp ν used w key (eff hp es) .undef undef w' := by
  unfold evMapUpd at he
  split at he
  · rename_i k kd vd
    split at he
    · rename_i kt et ms kt' et' ho hm
      split at he
      · rename_i hc
        obtain ⟨rfl, rfl, hok⟩ := hc
        simp only [Option.some.injEq, Prod.mk.injEq] at he
        obtain ⟨rfl, rfl⟩ := he
        cases hx with
        | map hu h =>
          rename_i mr
          cases hi with
          | d hi =>
            cases hy with
            | d hy =>
              obtain ⟨_, _, _, he', hν⟩ := h _ ho
              cases he'
              obtain ⟨r0, ents, hv, hg, hsz, hr⟩ := hI.obj _ _ ho
              rw [hν] at hv
              cases hv
              have hbk : blockOf (ν k) = some mr := by rw [hν]; rfl
              have hlt := (hI.blk _ _ _ ho hbk).2
              obtain ⟨c1, c2, c3⟩ := find_run (w := w) hok hsz hr hi
              have fin : ∀ (ents' : Array MapEntry), ents'.size = (mput ms kd vd).length → (∀ (i : Nat) kd' vd' en, (mput ms kd vd)[i]? = some (kd', vd') → ents'[i]? = some en → en.born = i ∧ RepD w (Mut X.M0 (lk hp) ν) kd' en.key ∧ RepD w (Mut X.M0 (lk hp) ν) vd' en.val) →
                  Post X hp ν used w key (eff hp [(k, some (.map kt' et' (mput ms kd vd)))]) .undef undef (setBlock w mr (.map ents' (mput ms kd vd).length)) := fun ents' hs hrr => by
                obtain ⟨g1, g2⟩ := hI.turn (o' := .map kt' et' (mput ms kd vd)) ho hbk (.inl rfl) (.map ents' (mput ms kd vd).length) ⟨rfl, rfl⟩ trivial (fun M' H' hx' =>
                  ⟨mr, ents', hν, setBlock_at hlt, hs, fun i kd' vd' en h1 h2 => let ⟨a, b, c⟩ := hrr i kd' vd' en h1 h2; ⟨a, b.mono hx'.same hx'.shrink, c.mono hx'.same hx'.shrink⟩⟩)
                obtain ⟨m1, m2⟩ := g1.more hk
                exact ⟨ν, m1, g2.trans m2, .undef _⟩
              rcases c3 with ⟨f1, f2⟩ | ⟨j, en, vd0, f1, f2, f3, f4, f5⟩
              · have hp2 := mput_none (v := vd) f2
                have hlen : (mput ms kd vd).length = ms.length + 1 := by rw [hp2]; simp
                refine ⟨_, ?_, fin (ents.push { key := vi, val := vy, born := ms.length }) (by rw [hlen]; simp [hsz]) (fun i kd' vd' en h1 h2 => ?_)⟩
                · simp only [Instr.mapUpdate, Sem.run_bind, run_underlying (mapT_und hm), Result.andThen_ok, Go.MapKept.run_getObj_map hg, Sem.run_pure, c1, f1, Go.MapKept.run_setObj_map _ hg, hlen]
                  rfl
                · rw [hp2] at h1
                  by_cases hil : i < ms.length
                  · rw [List.getElem?_append_left hil] at h1
                    rw [Array.getElem?_push, if_neg (by omega)] at h2
                    exact hr i _ _ _ h1 h2
                  · rw [List.getElem?_append_right (by omega)] at h1
                    have : i = ms.length := by
                      have := (List.getElem?_eq_some_iff.1 h1).1
                      simp at this
                      omega
                    subst this
                    simp at h1
                    obtain ⟨rfl, rfl⟩ := h1
                    rw [Array.getElem?_push, if_pos hsz.symm] at h2
                    cases h2
                    exact ⟨rfl, hi, hy⟩
              · have hp2 := mput_at hok.2.2.2 (v' := vd) f4
                have hlen : (mput ms kd vd).length = ms.length := by rw [hp2]; simp
                have hjl : j < ents.size := (Array.getElem?_eq_some_iff.1 f2).1
                refine ⟨_, ?_, fin (ents.modify j fun e => { e with key := vi, val := vy }) (by rw [hlen]; simp [hsz]) (fun i kd' vd' en' h1 h2 => ?_)⟩
                · have hkey : ((ents[j]?).map (·.key)).getD vi = vi := by rw [f2]; simp [f3]
                  simp only [Instr.mapUpdate, Sem.run_bind, run_underlying (mapT_und hm), Result.andThen_ok, Go.MapKept.run_getObj_map hg, Sem.run_pure, c1, f1, hkey, c2, Go.MapKept.run_setObj_map _ hg, hlen]
                  rfl
                · rw [hp2] at h1
                  rw [Array.getElem?_modify] at h2
                  by_cases hij : i = j
                  · subst hij
                    rw [if_pos rfl, f2] at h2
                    simp at h2
                    rw [List.getElem?_set_self (by omega)] at h1
                    cases h1
                    subst h2
                    exact ⟨(hr i _ _ _ f4 f2).1, hi, hy⟩
                  · rw [if_neg (fun e => hij e.symm)] at h2
                    rw [List.getElem?_set_ne (fun e => hij e.symm)] at h1
                    exact hr i _ _ _ h1 h2
      · cases he
    · cases he
  · cases he
def evRange (key : Nat) (P : Program) (H : Nat → Option HO) (t : TypeId) (x : AV) : Option (AV × List (Nat × Option HO) × List Nat) :=
  match x with
  | .map k => match H k, mapT P t with
    | some (.map kt et es), some _ => some (.it key, [(key, some (.iter k es.length []))], [k])
    | _, _ => none
  | _ => none
theorem evRange_sound (hI : HInv X (lk hp) ν used w) (hk : ¬ used key) {t : Nat} {x r : AV} {vx : Value} {es : List (Nat × Option HO)} {acc : List Nat}
    (hx : RepA w (Mut X.M0 (lk hp) ν) (lk hp) ν used x vx) (he : evRange key P (lk hp) t x = some (r, es, acc)) :
    ∃ v w', (Instr.range t vx).run P w = .ok v w' ∧ Post X hp ν used w key (eff hp es) r v w' := by
  unfold evRange at he
  split at he
  · rename_i k
    split at he
    · rename_i kt et ms p ho hm
      obtain ⟨kt', et'⟩ := p
      simp only [Option.some.injEq, Prod.mk.injEq] at he
      obtain ⟨rfl, rfl, rfl⟩ := he
      cases hx with
      | map hu h =>
        rename_i mr
        obtain ⟨_, _, _, he', hν⟩ := h _ ho
        cases he'
        obtain ⟨r0, ents, hv, hg, hsz, hr⟩ := hI.obj _ _ ho
        rw [hν] at hv
        cases hv
        refine ⟨.pointer (some ⟨w.heap.size, 0, none⟩), w.alloc (.mapIter (some mr) ms.length #[] ms.length), ?_, ?_⟩
        · simp only [Instr.range, Sem.run_bind, run_underlying (mapT_und hm), Result.andThen_ok, Go.MapKept.run_getObj_map hg, Sem.run_pure, run_newObj_alloc]
        · obtain ⟨g1, g2⟩ := hI.alloc hk (.mapIter (some mr) ms.length #[] ms.length) (.iter k ms.length []) (.pointer (some ⟨w.heap.size, 0, none⟩)) rfl (fun M' H' ν' used' hx' =>
            ⟨w.heap.size, mr, rfl, heap_alloc_new w _, hx'.usd _ hu, fun o' ho' => by
              obtain ⟨o, ho2, hl, hst⟩ := hx'.obj _ hu o' ho'
              rw [ho] at ho2
              cases ho2
              cases o' with
              | map kt'' et'' es'' => exact ⟨_, _, es'', rfl, by rw [hst trivial]; exact hν⟩
              | row _ _ _ => exact hl.elim
              | var _ => exact hl.elim
              | iter _ _ _ => exact hl.elim
              | loop _ _ _ => exact hl.elim⟩)
          refine ⟨_, g1, g2, ?_⟩
          refine .it (.inr rfl) fun o ho' => ?_
          simp only [eff] at ho'
          rw [lk_put_same] at ho'
          cases ho'
          exact ⟨_, _, _, w.heap.size, rfl, by rw [upd_same], rfl⟩
    · cases he
  · cases he
def evEntry (H : Nat → Option HO) (x : AV) : Option (AV × List Nat) :=
  match x with
  | .it k => match H k with
    | some (.iter m c seen) => match H m, seen.getLast? with
      | some (.map kt et es), some i => if es.length = c then match es[i]? with
          | some (kd, vd) => some (.tup [.d kd, .d vd], [k, m])
          | none => none
        else none
      | _, _ => none
    | _ => none
  | _ => none
theorem evEntry_sound (hI : HInv X (lk hp) ν used w) {x r : AV} {vx : Value} {acc : List Nat}
    (hx : RepA w (Mut X.M0 (lk hp) ν) (lk hp) ν used x vx) (he : evEntry (lk hp) x = some (r, acc)) :
    ∃ v, (Instr.entry vx).run P w = .ok v w ∧ RepA w (Mut X.M0 (lk hp) ν) (lk hp) ν used r v := by
  unfold evEntry at he
  split at he
  · rename_i k
    split at he
    · rename_i m c seen ho
      split at he
      · rename_i kt et es i hm hlast
        split at he
        · rename_i hc
          subst hc
          split at he
          · rename_i kd vd hi
            simp only [Option.some.injEq, Prod.mk.injEq] at he
            obtain ⟨rfl, rfl⟩ := he
            cases hx with
            | it hu h =>
              obtain ⟨_, _, _, b, he', hν, ha⟩ := h _ ho
              cases he'
              subst ha
              obtain ⟨b', mr, hv, hg, hum, hmm⟩ := hI.obj _ _ ho
              rw [hν] at hv
              cases hv
              obtain ⟨_, _, _, he2, hνm⟩ := hmm _ hm
              cases he2
              obtain ⟨r0, ents, hv2, hg2, hsz, hr⟩ := hI.obj _ _ hm
              rw [hνm] at hv2
              cases hv2
              have hil : i < ents.size := by rw [hsz]; exact (List.getElem?_eq_some_iff.1 hi).1
              have hen := Array.getElem?_eq_getElem hil
              obtain ⟨h1, h2, h3⟩ := hr i _ _ _ hi hen
              have hne : seen ≠ [] := fun e => by rw [e] at hlast; simp at hlast
              have hseen : seen.toArray = (seen.dropLast.toArray).push (ents[i]).born := by
                have : seen.getLast hne = i := by
                  rw [List.getLast?_eq_some_getLast hne] at hlast
                  simpa using hlast
                conv => lhs; rw [← List.dropLast_concat_getLast hne, this]
                rw [h1]
                simp
              have hnd : (ents.toList.map (·.born)).Nodup := by
                have : ents.toList.map (·.born) = List.range ents.size := List.ext_getElem? fun j => by
                  by_cases hj : j < ents.size
                  · have hj' := List.getElem?_eq_getElem (l := es) (i := j) (by omega)
                    have hje := Array.getElem?_eq_getElem hj
                    rw [List.getElem?_map, List.getElem?_range hj]
                    simp only [Array.getElem?_toList, hje, Option.map_some, Option.some.injEq]
                    exact (hr j _ _ _ hj' hje).1
                  · rw [List.getElem?_eq_none (by simp; omega), List.getElem?_eq_none (by simp; omega)]
                rw [this]
                exact List.nodup_range
              rw [hseen] at hg
              refine ⟨_, run_entry_at w b mr _ _ ents _ ents[i] hg hg2 (by simp) hnd, ?_⟩
              refine RepA.tup (cs := [_, _]) rfl fun q d v q1 q2 => ?_
              match q with
              | 0 => simp at q1 q2; subst q1; subst q2; exact .d h2
              | 1 => simp at q1 q2; subst q1; subst q2; exact .d h3
              | q + 2 => simp at q1
          · cases he
        · cases he
      · cases he
    · cases he
  · cases he
end
end Go.Eng

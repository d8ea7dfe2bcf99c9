/- The engine, part 2: what holds of the heap, and how it turns. -/
import Derived.Test.YtlaekicahpplbabG1
set_option linter.unusedVariables false
set_option linter.unusedSimpArgs false
namespace Go.Eng
open Go.RowKit

def Flat (sz : Nat) (xs : List D) : Prop := ∀ x ∈ xs, x.comps.length = sz ∧ ∀ d ∈ x.comps, d.cell = true
/-- The cells of rows, one behind the other. -/
def RepRow (w : World) (M : Nat → Prop) (sz : Nat) (xs : List D) (vals : List Value) : Prop :=
  ∀ (i : Nat) x (j : Nat) d, xs[i]? = some x → x.comps[j]? = some d → ∃ u, vals[i * sz + j]? = some u ∧ RepD w M d u
/-- A row of the call's own, in a block that has room for its capacity. -/
def Owns (w : World) (base : Nat) (e : TypeId) (sz : Nat) (v : Value) (n : Nat) (xs : List Value) : Prop :=
  xs.length = n * sz ∧ ((v = .slice none 0 0 ∧ n = 0) ∨
    ∃ g cap cur, v = .slice (some ⟨g, 0, none⟩) n cap ∧ base ≤ g ∧ w.heap[g]? = some (.cells cur e (0, 0)) ∧ n ≤ cap ∧ cap ≤ maxLen ∧ cap * sz ≤ cur.size ∧ cur.toList.take (n * sz) = xs)
theorem Owns.of {w : World} {base : Nat} {e : TypeId} {sz n : Nat} {v : Value} {xs : List Value} (h : w.ownsRow base e sz v n xs) : Owns w base e sz v n xs := by
  refine ⟨h.1, ?_⟩
  rcases h.2 with h | ⟨g, cap, cur, h1, h2, h3, h4, h5, h6, h7⟩
  · exact .inl h
  · exact .inr ⟨g, cap, cur, h1, h2, h3, h4, h5, by omega, h7⟩
theorem Owns.nil {w : World} {base : Nat} {e : TypeId} {sz : Nat} : Owns w base e sz (.slice none 0 0) 0 [] := ⟨by simp, .inl ⟨rfl, rfl⟩⟩
theorem Owns.lt {w : World} {base : Nat} {e : TypeId} {sz n : Nat} {v : Value} {xs : List Value} (h : Owns w base e sz v n xs) : ∀ k, v.ownBlock = some k → base ≤ k ∧ k < w.heap.size := by
  intro k hk
  rcases h.2 with ⟨rfl, _⟩ | ⟨g, cap, cur, rfl, hb, hg, _⟩
  · simp [Value.ownBlock] at hk
  · simp [Value.ownBlock] at hk
    subst hk
    refine ⟨hb, ?_⟩
    by_cases hlt : g < w.heap.size
    · exact hlt
    · rw [Array.getElem?_eq_none (by omega)] at hg; cases hg
theorem Owns.cells {w : World} {base : Nat} {e : TypeId} {sz n : Nat} {v : Value} {xs : List Value} (h : Owns w base e sz v n xs) {g : Nat} (hg : v.ownBlock = some g) : ∀ (j : Nat) u, xs[j]? = some u → w.cell? ((⟨g, 0, none⟩ : Addr).add j) = some u := by
  intro j u hj
  rcases h.2 with ⟨rfl, _⟩ | ⟨g', cap, cur, rfl, hb, hh, _, _, _, ht⟩
  · simp [Value.ownBlock] at hg
  · simp [Value.ownBlock] at hg
    subst hg
    rw [← ht, List.getElem?_take] at hj
    split at hj
    · have := hj
      simp only [Array.getElem?_toList] at this
      by_cases h0 : j = 0
      · subst h0; simp [World.cell?, Addr.add, hh, this]
      · simp [World.cell?, Addr.add, hh, this, h0]
    · cases hj
def RepO (base : Nat) (w : World) (M : Nat → Prop) (H : Nat → Option HO) (ν : Nat → Value) (used : Nat → Prop) (v : Value) : HO → Prop
  | .var cs => ∃ b cells e, v = .pointer (some ⟨b, 0, none⟩) ∧ w.heap[b]? = some (.cells cells e (0, 0)) ∧ cells.size = cs.length ∧ (∀ c ∈ cs, c.cell = true) ∧
      ∀ (i : Nat) av u, cs[i]? = some av → cells[i]? = some u → RepA w M H ν used av u
  | .row e sz xs => ∃ vals, Owns w base e sz v xs.length vals ∧ 0 < sz ∧ Flat sz xs ∧ RepRow w M sz xs vals
  | .map kt et es => ∃ r entries, v = .map (some r) ∧ w.heap[r]? = some (.map entries es.length) ∧ entries.size = es.length ∧
      ∀ (i : Nat) kd vd en, es[i]? = some (kd, vd) → entries[i]? = some en → en.born = i ∧ RepD w M kd en.key ∧ RepD w M vd en.val
  | .iter m c seen => ∃ b mr, v = .pointer (some ⟨b, 0, none⟩) ∧ w.heap[b]? = some (.mapIter (some mr) c seen.toArray c) ∧ used m ∧
      ∀ o, H m = some o → ∃ kt et es, o = .map kt et es ∧ ν m = .map (some mr)
  | .loop Y cs st => ∃ l lr, v = .func (.yield l) #[] #[] ∧ w.heap[l]? = some (.loop lr) ∧ (lr.params = Y.ps ∧ lr.assign = Y.assign ∧ lr.body = Y.body) ∧ st.of lr ∧ cs.length = lr.tmps.toList.length ∧
      ∀ (i : Nat) av u, cs[i]? = some av → lr.tmps.toList[i]? = some u → RepA w M H ν used av u

theorem ownsRow_of_block {w w' : World} {base : Nat} {e : TypeId} {sz n : Nat} {v : Value} {vals : List Value} (h : Owns w base e sz v n vals) (hb : ∀ b, blockOf v = some b → w'.heap[b]? = w.heap[b]?) : Owns w' base e sz v n vals := by
  refine ⟨h.1, ?_⟩
  rcases h.2 with hn | ⟨g, cap, cur, rfl, hbg, hg, rest⟩
  · exact .inl hn
  · exact .inr ⟨g, cap, cur, rfl, hbg, by rw [hb g rfl]; exact hg, rest⟩
theorem RepRow.mono {w w' : World} {M M' : Nat → Prop} {sz : Nat} {xs : List D} {vals : List Value} (h : RepRow w M sz xs vals) (hs : Same M w w') (hM : ∀ b, b < w.heap.size → M' b → M b) : RepRow w' M' sz xs vals :=
  fun i x j d hx hd => let ⟨u, hu, hr⟩ := h i x j d hx hd; ⟨u, hu, hr.mono hs hM⟩

theorem RepO.ext {base : Nat} {M M' : Nat → Prop} {H H' : Nat → Option HO} {ν ν' : Nat → Value} {used used' : Nat → Prop} {w w' : World} (hx : Ext M H ν used w M' H' ν' used' w') {v : Value} {o : HO}
    (hb : ∀ b, blockOf v = some b → w'.heap[b]? = w.heap[b]?) (h : RepO base w M H ν used v o) : RepO base w' M' H' ν' used' v o := by
  cases o with
  | var cs =>
    obtain ⟨b, cells, e, rfl, hg, hl, hc, hr⟩ := h
    exact ⟨b, cells, e, rfl, by rw [hb b rfl]; exact hg, hl, hc, fun i av u h1 h2 => (hr i av u h1 h2).ext hx⟩
  | row e sz xs =>
    obtain ⟨vals, ho, hz, hf, hr⟩ := h
    exact ⟨vals, ownsRow_of_block ho hb, hz, hf, hr.mono hx.same hx.shrink⟩
  | map kt et es =>
    obtain ⟨r, entries, rfl, hg, hl, hr⟩ := h
    exact ⟨r, entries, rfl, by rw [hb r rfl]; exact hg, hl, fun i kd vd en h1 h2 => let ⟨a, b, c⟩ := hr i kd vd en h1 h2; ⟨a, b.mono hx.same hx.shrink, c.mono hx.same hx.shrink⟩⟩
  | iter m c seen =>
    obtain ⟨b, mr, rfl, hg, hu, hm⟩ := h
    refine ⟨b, mr, rfl, by rw [hb b rfl]; exact hg, hx.usd _ hu, fun o' ho' => ?_⟩
    obtain ⟨o, ho, hl, hst⟩ := hx.obj _ hu o' ho'
    obtain ⟨kt, et, es, rfl, hn⟩ := hm o ho
    cases o' with
    | map kt' et' es' => exact ⟨_, _, es', rfl, by rw [hst trivial]; exact hn⟩
    | row _ _ _ => exact hl.elim
    | var _ => exact hl.elim
    | iter _ _ _ => exact hl.elim
    | loop _ _ _ => exact hl.elim
  | loop Y cs st =>
    obtain ⟨l, lr, rfl, hg, h1, h2, hl, hr⟩ := h
    exact ⟨l, lr, rfl, by rw [hb l rfl]; exact hg, h1, h2, hl, fun i av u h1 h2 => (hr i av u h1 h2).ext hx⟩

structure Ctx where
  w0 : World
  M0 : Nat → Prop
  lo : Nat := 0
def Ctx.at (X : Ctx) (n : Nat) : Ctx := ⟨X.w0, X.M0, n⟩
def Ctx.base (X : Ctx) : Nat := X.w0.heap.size

structure HInv (X : Ctx) (H : Nat → Option HO) (ν : Nat → Value) (used : Nat → Prop) (w : World) : Prop where
  below : Bl X.base X.w0 w
  M0 : ∀ b, X.M0 b → b < w.heap.size
  far : ∀ k o b, H k = some o → blockOf (ν k) = some b → ¬ X.M0 b
  usd : ∀ k o, H k = some o → used k
  blk : ∀ k o b, H k = some o → blockOf (ν k) = some b → X.base ≤ b ∧ b < w.heap.size
  inj : ∀ k k' o o' b, H k = some o → H k' = some o' → blockOf (ν k) = some b → blockOf (ν k') = some b → k = k'
  obj : ∀ k o, H k = some o → RepO X.base w (Mut X.M0 H ν) H ν used (ν k) o

theorem HInv.at {X : Ctx} {H : Nat → Option HO} {ν : Nat → Value} {used : Nat → Prop} {w : World} (h : HInv X H ν used w) (n : Nat) : HInv (X.at n) H ν used w := ⟨h.below, h.M0, h.far, h.usd, h.blk, h.inj, h.obj⟩
theorem HInv.unat {X : Ctx} {H : Nat → Option HO} {ν : Nat → Value} {used : Nat → Prop} {w : World} {n : Nat} (h : HInv (X.at n) H ν used w) : HInv X H ν used w := ⟨h.below, h.M0, h.far, h.usd, h.blk, h.inj, h.obj⟩
def upd (ν : Nat → Value) (k : Nat) (v : Value) : Nat → Value := fun q => if q = k then v else ν q
theorem upd_same (ν : Nat → Value) (k : Nat) (v : Value) : upd ν k v k = v := by simp [upd]
theorem upd_other (ν : Nat → Value) (k q : Nat) (v : Value) (h : q ≠ k) : upd ν k v q = ν q := by simp [upd, h]

/-- One object turns, or comes: all others stay. -/
theorem HInv.step {X : Ctx} {hp : Heap} {ν : Nat → Value} {used used' : Nat → Prop} {w w' : World} (hI : HInv X (lk hp) ν used w) {k : Nat} {o : HO} {v : Value}
    (hbel : Bl X.base w w') (hx : Ext (Mut X.M0 (lk hp) ν) (lk hp) ν used w (Mut X.M0 (lk (put hp k o)) (upd ν k v)) (lk (put hp k o)) (upd ν k v) used' w')
    (hk : used' k) (hnew : ∀ b, blockOf v = some b → X.base ≤ b ∧ b < w'.heap.size ∧ (∀ q o', q ≠ k → lk hp q = some o' → blockOf (ν q) ≠ some b) ∧ ¬ X.M0 b)
    (hold : ∀ q o' b, q ≠ k → lk hp q = some o' → blockOf (ν q) = some b → w'.heap[b]? = w.heap[b]?)
    (hrep : RepO X.base w' (Mut X.M0 (lk (put hp k o)) (upd ν k v)) (lk (put hp k o)) (upd ν k v) used' v o) : HInv X (lk (put hp k o)) (upd ν k v) used' w' := by
  refine ⟨hI.below.trans hbel, fun b hb => Nat.lt_of_lt_of_le (hI.M0 b hb) hbel.size, fun q o' b hq hb => ?_, fun q o' hq => ?_, fun q o' b hq hb => ?_, fun q q' o1 o2 b h1 h2 hb1 hb2 => ?_, fun q o' hq => ?_⟩
  · by_cases h : q = k
    · subst h
      rw [upd_same] at hb
      exact (hnew b hb).2.2.2
    · rw [lk_put_other _ _ _ _ h] at hq
      rw [upd_other _ _ _ _ h] at hb
      exact hI.far _ _ _ hq hb
  · by_cases h : q = k
    · subst h; exact hk
    · rw [lk_put_other _ _ _ _ h] at hq; exact hx.usd _ (hI.usd _ _ hq)
  · by_cases h : q = k
    · subst h
      rw [upd_same] at hb
      exact ⟨(hnew b hb).1, (hnew b hb).2.1⟩
    · rw [lk_put_other _ _ _ _ h] at hq
      rw [upd_other _ _ _ _ h] at hb
      have := hI.blk _ _ _ hq hb
      exact ⟨this.1, Nat.lt_of_lt_of_le this.2 hbel.size⟩
  · by_cases h : q = k
    · by_cases h' : q' = k
      · rw [h, h']
      · subst h
        rw [lk_put_other _ _ _ _ h'] at h2
        rw [upd_same] at hb1
        rw [upd_other _ _ _ _ h'] at hb2
        exact absurd hb2 ((hnew b hb1).2.2.1 q' o2 h' h2)
    · by_cases h' : q' = k
      · subst h'
        rw [lk_put_other _ _ _ _ h] at h1
        rw [upd_same] at hb2
        rw [upd_other _ _ _ _ h] at hb1
        exact absurd hb1 ((hnew b hb2).2.2.1 q o1 h h1)
      · rw [lk_put_other _ _ _ _ h] at h1
        rw [lk_put_other _ _ _ _ h'] at h2
        rw [upd_other _ _ _ _ h] at hb1
        rw [upd_other _ _ _ _ h'] at hb2
        exact hI.inj _ _ _ _ _ h1 h2 hb1 hb2
  · by_cases h : q = k
    · subst h
      rw [lk_put_same] at hq
      cases hq
      rw [upd_same]
      exact hrep
    · rw [lk_put_other _ _ _ _ h] at hq
      have := (hI.obj _ _ hq).ext hx (fun b hb => hold q o' b h hq hb)
      rwa [upd_other _ _ _ _ h]

/-- A thing of a new key: in a new block, or (a nil row) in none. -/
theorem Ext.fresh {M0 : Nat → Prop} {hp : Heap} {ν : Nat → Value} {used : Nat → Prop} {w w' : World} {k : Nat} (o : HO) (v : Value) (hk : ¬ used k)
    (hw : w.heap.size ≤ w'.heap.size) (hb : ∀ b, b < w.heap.size → w'.heap[b]? = w.heap[b]?) (hv : ∀ b, blockOf v = some b → w.heap.size ≤ b) (hu : ∀ q o', lk hp q = some o' → used q) :
    Ext (Mut M0 (lk hp) ν) (lk hp) ν used w (Mut M0 (lk (put hp k o)) (upd ν k v)) (lk (put hp k o)) (upd ν k v) (fun q => used q ∨ q = k) w' := by
  refine ⟨⟨hw, fun b hb' _ => hb b hb'⟩, fun b hb' hM => ?_, fun q hq => .inl hq, fun q hq o' ho' => ?_, ⟨hw, fun b hb' _ => hb b hb'⟩, fun b hb' hM => ?_⟩
  · rcases hM with h | ⟨q, o', hq, hbq⟩
    · exact .inl h
    · by_cases h : q = k
      · subst h
        rw [upd_same] at hbq
        exact absurd (hv b hbq) (by omega)
      · rw [lk_put_other _ _ _ _ h] at hq
        rw [upd_other _ _ _ _ h] at hbq
        exact .inr ⟨q, o', hq, hbq⟩
  · have h : q ≠ k := fun h => hk (h ▸ hq)
    rw [lk_put_other _ _ _ _ h] at ho'
    exact ⟨o', ho', by cases o' <;> simp [HO.later], fun _ => upd_other _ _ _ _ h⟩
  · obtain ⟨q, o', hq, hbq⟩ := hM
    by_cases h : q = k
    · subst h
      rw [upd_same] at hbq
      exact absurd (hv b hbq) (by omega)
    · rw [lk_put_other _ _ _ _ h] at hq
      rw [upd_other _ _ _ _ h] at hbq
      exact ⟨q, o', hq, hbq⟩

theorem HInv.alloc {X : Ctx} {hp : Heap} {ν : Nat → Value} {used : Nat → Prop} {w : World} (hI : HInv X (lk hp) ν used w) {k : Nat} (hk : ¬ used k) (ob : Obj) (o : HO) (v : Value) (hv : blockOf v = some w.heap.size)
    (hrep : ∀ M' H' ν' used', Ext (Mut X.M0 (lk hp) ν) (lk hp) ν used w M' H' ν' used' (w.alloc ob) → RepO X.base (w.alloc ob) M' H' ν' used' v o) :
    HInv X (lk (put hp k o)) (upd ν k v) (fun q => used q ∨ q = k) (w.alloc ob) ∧
    Ext (Mut X.M0 (lk hp) ν) (lk hp) ν used w (Mut X.M0 (lk (put hp k o)) (upd ν k v)) (lk (put hp k o)) (upd ν k v) (fun q => used q ∨ q = k) (w.alloc ob) := by
  have hx := Ext.fresh (M0 := X.M0) (hp := hp) (ν := ν) (used := used) (w := w) (w' := w.alloc ob) (k := k) o v hk (by simp) (fun b hb => Below.heap_alloc w ob b hb)
    (fun b hb => by rw [hv] at hb; cases hb; exact Nat.le_refl _) hI.usd
  have hbel : Bl X.base w (w.alloc ob) := ⟨(Below.refl _ _).alloc hI.below.size ob, Nat.le_refl _⟩
  refine ⟨hI.step hbel hx (.inr rfl) (fun b hb => ?_) (fun q o' b _ hq hb => ?_) (hrep _ _ _ _ hx), hx⟩
  · rw [hv] at hb
    cases hb
    exact ⟨hI.below.size, by simp, fun q o' _ hq hbq => by have := (hI.blk _ _ _ hq hbq).2; omega, fun hh => by have := hI.M0 _ hh; omega⟩
  · exact Below.heap_alloc w ob b (hI.blk _ _ _ hq hb).2

/-- An object's own block is written. -/
theorem HInv.write {X : Ctx} {hp : Heap} {ν : Nat → Value} {used : Nat → Prop} {w : World} (hI : HInv X (lk hp) ν used w) {k : Nat} {o o' : HO} (ho : lk hp k = some o) {b : Nat} (hb : blockOf (ν k) = some b) (cs : Array Value)
    (hl : o.later o')
    (hrep : ∀ M' H', Ext (Mut X.M0 (lk hp) ν) (lk hp) ν used w M' H' ν used (w.setRow b cs) → RepO X.base (w.setRow b cs) M' H' ν used (ν k) o') :
    HInv X (lk (put hp k o')) ν used (w.setRow b cs) ∧
    Ext (Mut X.M0 (lk hp) ν) (lk hp) ν used w (Mut X.M0 (lk (put hp k o')) ν) (lk (put hp k o')) ν used (w.setRow b cs) := by
  have hM : Mut X.M0 (lk hp) ν b := .inr ⟨k, o, ho, hb⟩
  have hx : Ext (Mut X.M0 (lk hp) ν) (lk hp) ν used w (Mut X.M0 (lk (put hp k o')) ν) (lk (put hp k o')) ν used (w.setRow b cs) := by
    refine ⟨⟨by simp, fun b' _ hM' => setRow_other _ _ _ _ (fun h => hM' (h ▸ hM))⟩, fun b' _ hM' => ?_, fun q hq => hq, fun q hq o'' ho'' => ?_, ⟨by simp, fun b' _ hM' => setRow_other _ _ _ _ (fun h => hM' (h ▸ ⟨k, o, ho, hb⟩))⟩, fun b' _ hM' => ?_⟩
    · rcases hM' with h | ⟨q, o'', hq, hbq⟩
      · exact .inl h
      · by_cases h : q = k
        · subst h; exact .inr ⟨q, o, ho, hbq⟩
        · rw [lk_put_other _ _ _ _ h] at hq
          exact .inr ⟨q, o'', hq, hbq⟩
    · by_cases h : q = k
      · subst h
        rw [lk_put_same] at ho''
        cases ho''
        exact ⟨o, ho, hl, fun _ => rfl⟩
      · rw [lk_put_other _ _ _ _ h] at ho''
        exact ⟨o'', ho'', by cases o'' <;> simp [HO.later], fun _ => rfl⟩
    · obtain ⟨q, o'', hq, hbq⟩ := hM'
      by_cases h : q = k
      · subst h; exact ⟨q, o, ho, hbq⟩
      · rw [lk_put_other _ _ _ _ h] at hq
        exact ⟨q, o'', hq, hbq⟩
  have hbk := hI.blk _ _ _ ho hb
  have hbel : Bl X.base w (w.setRow b cs) := ⟨⟨rfl, rfl, rfl, by simp, fun q hq => setRow_other _ _ _ _ (by omega)⟩, Nat.le_refl _⟩
  have hν : upd ν k (ν k) = ν := by funext q; by_cases h : q = k <;> simp [upd, h]
  have := hI.step (k := k) (o := o') (v := ν k) (used' := used) (w' := w.setRow b cs) hbel (by rw [hν]; exact hx) (hI.usd _ _ ho)
    (fun b' hb' => ⟨(hI.blk _ _ _ ho hb').1, by simpa using (hI.blk _ _ _ ho hb').2, fun q o'' hne hq hbq => hne (hI.inj _ _ _ _ _ hq ho hbq hb'), hI.far _ _ _ ho hb'⟩)
    (fun q o'' b' hne hq hb' => setRow_other _ _ _ _ (fun h => hne (hI.inj _ _ _ _ _ hq ho (h ▸ hb') hb))) (by rw [hν]; exact hrep _ _ hx)
  rw [hν] at this
  exact ⟨this, hx⟩

/-- An object falls out of sight: what it held may be read from now on, and is written no more. -/
theorem HInv.drop {X : Ctx} {hp : Heap} {ν : Nat → Value} {used : Nat → Prop} {w : World} (hI : HInv X (lk hp) ν used w) (k : Nat) :
    HInv X (lk (del hp k)) ν used w ∧ Ext (Mut X.M0 (lk hp) ν) (lk hp) ν used w (Mut X.M0 (lk (del hp k)) ν) (lk (del hp k)) ν used w := by
  have hsub : ∀ q o, lk (del hp k) q = some o → lk hp q = some o := fun q o h => by
    by_cases e : q = k
    · subst e; rw [lk_del_same] at h; cases h
    · rwa [lk_del_other _ _ _ e] at h
  have hx : Ext (Mut X.M0 (lk hp) ν) (lk hp) ν used w (Mut X.M0 (lk (del hp k)) ν) (lk (del hp k)) ν used w :=
    ⟨Same.refl _ _, fun b _ h => by
      rcases h with h | ⟨q, o, hq, hb⟩
      · exact .inl h
      · exact .inr ⟨q, o, hsub _ _ hq, hb⟩, fun _ h => h, fun q _ o ho => ⟨o, hsub _ _ ho, by cases o <;> simp [HO.later], fun _ => rfl⟩, Same.refl _ _, fun b _ ⟨q, o, hq, hb⟩ => ⟨q, o, hsub _ _ hq, hb⟩⟩
  exact ⟨⟨hI.below, hI.M0, fun q o b hq hb => hI.far _ _ _ (hsub _ _ hq) hb, fun q o hq => hI.usd _ _ (hsub _ _ hq), fun q o b hq hb => hI.blk _ _ _ (hsub _ _ hq) hb, fun q q' o o' b h h' => hI.inj _ _ _ _ _ (hsub _ _ h) (hsub _ _ h'),
    fun q o hq => (hI.obj _ _ (hsub _ _ hq)).ext hx (fun _ _ => rfl)⟩, hx⟩

/-- A draw. -/
theorem HInv.world {X : Ctx} {H : Nat → Option HO} {ν : Nat → Value} {used : Nat → Prop} {w w' : World} (hI : HInv X H ν used w) (hb : Bl w.heap.size w w') :
    HInv X H ν used w' ∧ Ext (Mut X.M0 H ν) H ν used w (Mut X.M0 H ν) H ν used w' := by
  have hx : Ext (Mut X.M0 H ν) H ν used w (Mut X.M0 H ν) H ν used w' := ⟨Same.of_below hb _, fun _ _ h => h, fun _ h => h, fun q _ o ho => ⟨o, ho, by cases o <;> simp [HO.later], fun _ => rfl⟩, Same.of_below hb _, fun _ _ h => h⟩
  exact ⟨⟨hI.below.trans (hb.mono hI.below.size), fun b h => Nat.lt_of_lt_of_le (hI.M0 b h) hb.size, hI.far, hI.usd, fun k o b h h' => ⟨(hI.blk k o b h h').1, Nat.lt_of_lt_of_le (hI.blk k o b h h').2 hb.size⟩, hI.inj,
    fun k o h => (hI.obj k o h).ext hx (fun b hb' => hb.block b (hI.blk k o b h hb').2)⟩, hx⟩
theorem HInv.used_mono {X : Ctx} {H : Nat → Option HO} {ν : Nat → Value} {used used' : Nat → Prop} {w : World} (hI : HInv X H ν used w) (hu : ∀ k, used k → used' k) (hn : ∀ k, used' k → ¬ used k → H k = none) :
    HInv X H ν used' w := by
  have hx : Ext (Mut X.M0 H ν) H ν used w (Mut X.M0 H ν) H ν used' w := ⟨Same.refl _ _, fun _ _ h => h, hu, fun q _ o ho => ⟨o, ho, by cases o <;> simp [HO.later], fun _ => rfl⟩, Same.refl _ _, fun _ _ h => h⟩
  exact ⟨hI.below, hI.M0, hI.far, fun k o h => hu _ (hI.usd k o h), hI.blk, hI.inj, fun k o h => (hI.obj k o h).ext hx (fun _ _ => rfl)⟩
end Go.Eng

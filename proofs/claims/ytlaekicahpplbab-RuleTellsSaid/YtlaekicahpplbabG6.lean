/- The engine, part 6: places, stores, new memory. -/
import Derived.Test.YtlaekicahpplbabG5
set_option linter.unusedVariables false
set_option linter.unusedSimpArgs false
namespace Go.Eng
open Go.RowKit

/-- Behind an operation: the heap, and what it gave. -/
def Post (X : Ctx) (hp : Heap) (ν : Nat → Value) (used : Nat → Prop) (w : World) (key : Nat) (hp' : Heap) (av : AV) (v : Value) (w' : World) : Prop :=
  ∃ ν', HInv X (lk hp') ν' (fun q => used q ∨ q = key) w' ∧
    Ext (Mut X.M0 (lk hp) ν) (lk hp) ν used w (Mut X.M0 (lk hp') ν') (lk hp') ν' (fun q => used q ∨ q = key) w' ∧
    RepA w' (Mut X.M0 (lk hp') ν') (lk hp') ν' (fun q => used q ∨ q = key) av v

section
variable {P : Program} {X : Ctx} {hp : Heap} {ν : Nat → Value} {used : Nat → Prop} {w : World} {key : Nat}

theorem HInv.more (hI : HInv X (lk hp) ν used w) (hk : ¬ used key) : HInv X (lk hp) ν (fun q => used q ∨ q = key) w ∧
    Ext (Mut X.M0 (lk hp) ν) (lk hp) ν used w (Mut X.M0 (lk hp) ν) (lk hp) ν (fun q => used q ∨ q = key) w := by
  refine ⟨hI.used_mono (fun k h => .inl h) (fun k h hn => ?_), Same.refl _ _, fun _ _ h => h, fun _ h => .inl h, fun q _ o ho => ⟨o, ho, by cases o <;> simp [HO.later], fun _ => rfl⟩, Same.refl _ _, fun _ _ h => h⟩
  cases ho : lk hp k with
  | none => rfl
  | some o => exact absurd (hI.usd _ _ ho) hn
theorem Post.same (hI : HInv X (lk hp) ν used w) (hk : ¬ used key) {av : AV} {v : Value} (h : RepA w (Mut X.M0 (lk hp) ν) (lk hp) ν used av v) : Post X hp ν used w key hp av v w :=
  have ⟨h1, h2⟩ := hI.more hk
  ⟨ν, h1, h2, h.ext h2⟩

/-! ### Places -/
def evField (P : Program) (s : TypeId) (a : AV) (f : Nat) : Option AV :=
  match fldT P s f with
  | some (off, n) => if n = 0 then none else
    match a with
    | .ref k o => some (.ref k (o + off))
    | .eref k m i sz o => if o + off < sz then some (.eref k m i sz (o + off)) else none
    | .dref fs => some (.dref (fs.drop off))
    | _ => none
  | none => none
theorem run_fieldAt {s f : Nat} {off n : Nat} (h : fldT P s f = some (off, n)) (hn : n ≠ 0) (a : Addr) : (Instr.fieldAt s (.pointer (some a)) f).run P w = .ok (.pointer (some (a.add off))) w := by
  obtain ⟨fs, fd, hu, hf, hz, ho⟩ := fldT_und h
  simp only at hz ho
  subst ho
  have h0 : n = 0 ↔ False := by simp [hn]
  simp [Instr.fieldAt, run_underlying hu, hf, Instr.sureAddr, fieldPlace, run_sizeOf' hz, h0]
theorem evField_sound {H : Nat → Option HO} {M : Nat → Prop} {s f : Nat} {a r : AV} {v : Value} (h : RepA w M H ν used a v) (he : evField P s a f = some r) :
    ∃ u, (Instr.fieldAt s v f).run P w = .ok u w ∧ RepA w M H ν used r u := by
  unfold evField at he
  split at he
  · rename_i off n hf
    split at he
    · cases he
    · rename_i hn
      split at he
      · rename_i k o
        simp at he
        subst he
        cases h with
        | ref hu h =>
          refine ⟨_, run_fieldAt hf hn _, .ref hu fun ob hob => ?_⟩
          obtain ⟨cs, b, h1, h2, rfl⟩ := h ob hob
          exact ⟨cs, b, h1, h2, Addr.add_lit _ _ _⟩
      · rename_i k m i sz o
        split at he
        · rename_i hlt
          simp at he
          subst he
          cases h with
          | eref hu hi ho h =>
            refine ⟨_, run_fieldAt hf hn _, .eref hu hi hlt fun ob hob => ?_⟩
            obtain ⟨e, sz', xs, h1, h2, h3⟩ := h ob hob
            refine ⟨e, sz', xs, h1, h2, fun hm => ?_⟩
            obtain ⟨g, c, h4, rfl⟩ := h3 hm
            exact ⟨g, c, h4, by rw [Addr.add_lit]; congr 1; omega⟩
        · cases he
      · rename_i fs
        simp at he
        subst he
        cases h with
        | dref val hb hM hc h1 h2 =>
          refine ⟨_, run_fieldAt hf hn _, .dref (fun j => val (off + j)) (by rw [add_block]; exact hb) (by rw [add_block]; exact hM) (fun d hd => hc d (List.mem_of_mem_drop hd)) (fun j d hd => ?_) (fun j d hd => ?_)⟩
          · simp at hd
            rw [add_add']
            exact h1 _ d hd
          · simp at hd
            exact h2 _ d hd
      · cases he
  · cases he

def evIndex (P : Program) (t : TypeId) (x i : AV) : Option AV :=
  match elT P t, i with
  | some e, .d (.int _ j) =>
    match szT P e with
    | some sz => if 0 ≤ j then
      match x with
      | .d (.sl sz' xs) => match xs[j.toNat]? with
        | some y => if sz' = sz then some (.dref y.comps) else none
        | none => none
      | .clip sz' xs => match xs[j.toNat]? with
        | some y => if sz' = sz then some (.dref y.comps) else none
        | none => none
      | .own k n => if j < n ∧ 0 < sz then some (.eref k n j.toNat sz 0) else none
      | _ => none
      else none
    | none => none
  | _, _ => none
theorem run_indexAt {t e sz : Nat} (he : elT P t = some e) (hz : szT P e = some sz) (a : Addr) (n c : Nat) (k : IntKind) (j : Int) (h0 : 0 ≤ j) (hj : j < n) :
    (Instr.indexAt t (.slice (some a) n c) (.int k j)).run P w = .ok (.pointer (some (a.add (j.toNat * sz)))) w := by
  have hu := elT_und he
  simp [Instr.indexAt, asIntOf, run_underlying hu, h0, hj, run_sizeOf' hz]
theorem dref_of {M : Nat → Prop} {H : Nat → Option HO} {sz : Nat} {xs : List D} {v : Value} {j : Nat} {y : D} (h : RepD w M (.sl sz xs) v) (hy : xs[j]? = some y) :
    ∃ a c, v = .slice (some a) xs.length c ∧ RepA w M H ν used (.dref y.comps) (.pointer (some (a.add (j * sz)))) := by
  cases h with
  | sl0 => simp at hy
  | sl val hb hM hc hm hs h1 h2 =>
    refine ⟨_, _, rfl, .dref (fun i => val j i) (by rw [add_block]; exact hb (ne_of_get hy)) (by rw [add_block]; exact hM (ne_of_get hy)) (hs j y hy).2 (fun i d hd => ?_) (fun i d hd => h2 j y i d hy hd)⟩
    rw [add_add']
    exact h1 j y i d hy hd
theorem own_form {X : Ctx} {H : Nat → Option HO} (hI : HInv X H ν used w) {k : Nat} {e : TypeId} {sz : Nat} {xs : List D} (ho : H k = some (.row e sz xs)) {a : Addr} {n c : Nat} (hv : .slice (some a) n c = ν k) :
    ∃ g, a = ⟨g, 0, none⟩ ∧ n = xs.length := by
  obtain ⟨vals, hown, _⟩ := hI.obj _ _ ho
  rcases hown.2 with ⟨h, _⟩ | ⟨g, cap, cur, h, _⟩
  · rw [← hv] at h; cases h
  · rw [← hv] at h; cases h; exact ⟨g, rfl, rfl⟩
theorem evIndex_sound {H : Nat → Option HO} {M : Nat → Prop} (hI : HInv X H ν used w) {t : Nat} {x i r : AV} {vx vi : Value} (hx : RepA w M H ν used x vx) (hi : RepA w M H ν used i vi) (he : evIndex P t x i = some r) :
    ∃ u, (Instr.indexAt t vx vi).run P w = .ok u w ∧ RepA w M H ν used r u := by
  unfold evIndex at he
  split at he
  · rename_i e k j hel
    cases hi with
    | d hi =>
      cases hi
      split at he
      · rename_i sz hz
        split at he
        · rename_i h0
          split at he
          · rename_i sz' xs
            split at he
            · rename_i y hy
              split at he
              · rename_i hsz
                subst hsz
                simp at he
                subst he
                cases hx with
                | d hx =>
                  obtain ⟨a, c, rfl, hr⟩ := dref_of (H := H) (ν := ν) (used := used) hx hy
                  have hlt := (List.getElem?_eq_some_iff.1 hy).1
                  exact ⟨_, run_indexAt hel hz a _ c k j h0 (by omega), hr⟩
              · cases he
            · cases he
          · rename_i sz' xs
            split at he
            · rename_i y hy
              split at he
              · rename_i hsz
                subst hsz
                simp at he
                subst he
                cases hx with
                | clip hx =>
                  obtain ⟨a, c, he, hr⟩ := dref_of (H := H) (ν := ν) (used := used) hx hy
                  have hlt := (List.getElem?_eq_some_iff.1 hy).1
                  rw [he]
                  exact ⟨_, run_indexAt hel hz a _ c k j h0 (by omega), hr⟩
              · cases he
            · cases he
          · rename_i q n
            split at he
            · rename_i hjn
              simp at he
              subst he
              cases hx with
              | own hu hv hc ha h =>
                rename_i c a
                cases a with
                | none => have := (ha rfl).1; omega
                | some a =>
                  subst hv
                  refine ⟨_, run_indexAt hel hz a n c k j h0 (by omega), .eref hu (by omega) hjn.2 fun o ho => ?_⟩
                  obtain ⟨e', sz', xs, h1, h2, h3⟩ := h o ho
                  refine ⟨e', sz', xs, h1, h2, fun hn => ?_⟩
                  have hv := h3 hn
                  subst h1
                  obtain ⟨g, rfl, _⟩ := own_form hI ho hv
                  exact ⟨g, c, hv.symm, by rw [Addr.add_lit]; simp⟩
            · cases he
          · cases he
        · cases he
      · cases he
  · cases he

end

/-! ### New variables -/
mutual
def v2d : Value → Option D
  | .bool b => some (.bool b) | .int k n => some (.int k n) | .string s => some (.str s) | .nilFunc => some .nilf
  | .slice a n c => match a with | none => if n = 0 ∧ c = 0 then some .nils else none | some _ => none
  | .agg cs => match v2ds cs.toList with | some ds => if ds.all D.cell then some (.agg ds) else none | none => none
  | _ => none
def v2ds : List Value → Option (List D)
  | [] => some []
  | v :: vs => match v2d v with
    | some d => match v2ds vs with | some ds => some (d :: ds) | none => none
    | none => none
end
mutual
theorem v2d_rep {w : World} {M : Nat → Prop} : ∀ (v : Value) (d : D), v2d v = some d → RepD w M d v
  | .bool b, d, h => by simp [v2d] at h; subst h; constructor
  | .int k n, d, h => by simp [v2d] at h; subst h; constructor
  | .string s, d, h => by simp [v2d] at h; subst h; constructor
  | .nilFunc, d, h => by simp [v2d] at h; subst h; constructor
  | .slice a n c, d, h => by
    cases a with
    | some a => simp [v2d] at h
    | none =>
      simp [v2d] at h
      obtain ⟨⟨rfl, rfl⟩, rfl⟩ := h
      constructor
  | .agg cs, d, h => by
    simp only [v2d] at h
    split at h
    · rename_i ds hd
      split at h
      · rename_i ha
        simp at h
        subst h
        obtain ⟨h1, h2⟩ := v2ds_rep cs.toList ds hd
        have := RepD.agg h1 (by simpa using ha) h2
        simpa using this
      · cases h
    · cases h
  | .float .., d, h => by simp [v2d] at h
  | .complex .., d, h => by simp [v2d] at h
  | .pointer _, d, h => by simp [v2d] at h
  | .map _, d, h => by simp [v2d] at h
  | .chan _, d, h => by simp [v2d] at h
  | .func .., d, h => by simp [v2d] at h
  | .iface .., d, h => by simp [v2d] at h
  | .nilIface, d, h => by simp [v2d] at h
  | .tuple _, d, h => by simp [v2d] at h
theorem v2ds_rep {w : World} {M : Nat → Prop} : ∀ (vs : List Value) (ds : List D), v2ds vs = some ds → ds.length = vs.length ∧ ∀ (i : Nat) d v, ds[i]? = some d → vs[i]? = some v → RepD w M d v
  | [], ds, h => by simp [v2ds] at h; subst h; exact ⟨rfl, fun i d v hd _ => by simp at hd⟩
  | v :: vs, ds, h => by
    simp only [v2ds] at h
    split at h
    · rename_i x hx
      split at h
      · rename_i xs hxs
        simp at h
        subst h
        have h0 := v2d_rep (w := w) (M := M) v x hx
        obtain ⟨h1, h2⟩ := v2ds_rep (w := w) (M := M) vs xs hxs
        refine ⟨by simp [h1], fun i d u hd hu => ?_⟩
        cases i with
        | zero => simp at hd hu; subst hd; subst hu; exact h0
        | succ i => exact h2 i d u (by simpa using hd) (by simpa using hu)
      · cases h
    · cases h
end
def zeroD (P : Program) (t : TypeId) : Option D := match P.info? t with
  | some i => match i.zero with
    | some z => v2d z
    | none => none
  | none => none
section
variable {P : Program} {X : Ctx} {hp : Heap} {ν : Nat → Value} {used : Nat → Prop} {w : World} {key : Nat}
theorem zeroD_run {t : Nat} {d : D} (h : zeroD P t = some d) : ∃ z, (∀ w : World, (zeroValue t).run P w = .ok z w) ∧ (∃ i, P.info? t = some i ∧ i.zero = some z) ∧ ∀ w M, RepD w M d z := by
  unfold zeroD at h
  split at h
  · rename_i i hi
    split at h
    · rename_i z hz
      exact ⟨z, fun w => by simp [zeroValue, typeInfo, hi, hz], ⟨i, hi, hz⟩, fun w M => v2d_rep z d h⟩
    · cases h
  · cases h

/-- A variable in a block of its own. -/
theorem newVar_post (hI : HInv X (lk hp) ν used w) (hk : ¬ used key) (t : TypeId) {av : AV} {v : Value} (h : RepA w (Mut X.M0 (lk hp) ν) (lk hp) ν used av v) (hs : av.sto = true) :
    Post X hp ν used w key (put hp key (.var av.comps)) (.ref key 0) (.pointer (some ⟨w.heap.size, 0, none⟩)) (w.alloc (.cells v.cells t)) := by
  obtain ⟨h1, h2, h3⟩ := comps_rep h hs
  obtain ⟨g1, g2⟩ := hI.alloc hk (.cells v.cells t) (.var av.comps) (.pointer (some ⟨w.heap.size, 0, none⟩)) rfl (fun M' H' ν' used' hx => by
    refine ⟨_, v.cells, t, rfl, heap_alloc_new w _, by simpa using h1, h2, fun i a u ha hu => ?_⟩
    exact (h3 i a u ha (by simpa using hu)).ext hx)
  refine ⟨_, g1, g2, .ref (.inr rfl) fun o ho => ?_⟩
  rw [lk_put_same] at ho
  cases ho
  exact ⟨_, _, rfl, upd_same _ _ _, rfl⟩
theorem run_box (t : TypeId) (v : Value) : (Instr.box t v).run P w = .ok (.pointer (some ⟨w.heap.size, 0, none⟩)) (w.alloc (.cells v.cells t)) := by
  simp [Instr.box, newVar, newRow]
theorem run_alloc {t : TypeId} {z : Value} (hz : ∀ w : World, (zeroValue t).run P w = .ok z w) : (Instr.alloc t true (.tuple #[])).run P w = .ok (.pointer (some ⟨w.heap.size, 0, none⟩)) (w.alloc (.cells z.cells t)) := by
  simp [Instr.alloc, hz, newVar, newRow]

/-! ### Stores -/
def D.rebuild (x : D) (cs : List D) : Option D := match x with
  | .agg _ => some (.agg cs)
  | _ => match cs with | [d] => some d | _ => none
/-- What a store turns: key, object, keys read. -/
def evStore (P : Program) (H : Nat → Option HO) (t : TypeId) (a x : AV) : Option (List (Nat × Option HO) × List Nat) :=
  match szT P t with
  | none => none
  | some n => match a with
    | .ref k off => match H k with
      | some (.var cs) => if x.sto ∧ x.comps.length = n ∧ off + n ≤ cs.length then some ([(k, some (.var (splice cs off x.comps)))], [k]) else none
      | _ => none
    | .eref k m i sz off => match H k with
      | some (.row e sz' xs) => if m = xs.length ∧ sz' = sz then
          match xs[i]?, toD H x with
          | some y, some (d, ks) => if (AV.d d).sto ∧ d.comps.length = n ∧ off + n ≤ y.comps.length ∧ k ∉ ks then
              match y.rebuild (splice y.comps off d.comps) with
              | some y' => some (ks.map (fun q => (q, none)) ++ [(k, some (.row e sz' (xs.set i y')))], k :: ks)
              | none => none
            else none
          | _, _ => none
        else none
      | _ => none
    | _ => none
def eff (hp : Heap) : List (Nat × Option HO) → Heap
  | [] => hp
  | (k, o) :: l => match o with
    | some o => eff (put hp k o) l
    | none => eff (del hp k) l
theorem eff_dels (ks : List Nat) (l : List (Nat × Option HO)) : ∀ hp : Heap, eff hp (ks.map (fun q => (q, none)) ++ l) = eff (dels hp ks) l := by
  induction ks with
  | nil => intro hp; rfl
  | cons k ks ih => intro hp; simp [eff, dels, ih]
theorem run_storeAt {t n : Nat} (hz : szT P t = some n) {g o : Nat} {e : TypeId} {cur : Array Value} (hg : w.heap[g]? = some (.cells cur e (0, 0))) {v : Value} (hl : v.cells.size = n) (ho : o + n ≤ cur.size) (h1 : ∀ u ∈ v.cells.toList, u.oneCell' = true) :
    (Instr.storeAt t (.pointer (some ⟨g, o, none⟩)) v).run P w = .ok () (w.setRow g (splice cur.toList o v.cells.toList).toArray) := by
  have := run_storeCells_at P g o e v.cells.toList 0 cur w hg (by simp; omega) h1
  simp only [Nat.add_zero] at this
  simp [Instr.storeAt, Instr.sureAddr, storeVar, run_sizeOf' hz, hl, this, splice]
theorem lk_dels_other (ks : List Nat) : ∀ (hp : Heap) (k : Nat), k ∉ ks → lk (dels hp ks) k = lk hp k := by
  induction ks with
  | nil => exact fun _ _ _ => rfl
  | cons q ks ih =>
    intro hp k h
    simp at h
    rw [dels, ih _ _ h.2, lk_del_other _ _ _ h.1]
theorem rebuild_comps {y y' : D} {cs : List D} (h : y.rebuild cs = some y') (hc : ∀ d ∈ cs, d.cell = true) : y'.comps = cs := by
  have one : ∀ d : D, d.cell = true → d.comps = [d] := by intro d hd; cases d <;> first | rfl | (simp [D.cell] at hd)
  cases y <;> simp only [D.rebuild] at h
  case agg => simp at h; subst h; rfl
  all_goals
    split at h
    · simp at h
      subst h
      exact one _ (hc _ (by simp))
    · cases h
theorem owns_splice {w w' : World} {base : Nat} {e : TypeId} {sz n c : Nat} {g : Nat} {vals vs : List Value} {o : Nat} (h : Owns w base e sz (.slice (some ⟨g, 0, none⟩) n c) n vals) (ho : o + vs.length ≤ n * sz) {cur : Array Value}
    (hg : w.heap[g]? = some (.cells cur e (0, 0))) (hg' : w'.heap[g]? = some (.cells (splice cur.toList o vs).toArray e (0, 0))) : Owns w' base e sz (.slice (some ⟨g, 0, none⟩) n c) n (splice vals o vs) := by
  rcases h with ⟨h1, ⟨h2, _⟩ | ⟨g', cap, cur', h2, hb, hh, hn, hm, hs, ht⟩⟩
  · cases h2
  · cases h2
    rw [hg] at hh
    cases hh
    have hle : n * sz ≤ cur.toList.length := by rw [Array.length_toList]; exact Nat.le_trans (Nat.mul_le_mul_right _ hn) hs
    refine ⟨by rw [splice_length _ _ _ (by omega)]; exact h1, .inr ⟨g, c, _, rfl, hb, hg', hn, hm, by simp only [List.size_toArray]; rw [splice_length _ _ _ (by omega)]; simpa using hs, ?_⟩⟩
    apply List.ext_getElem?
    intro j
    simp only [List.toList_toArray]
    rw [splice_get _ _ _ (by omega), List.getElem?_take]
    by_cases hj : j < n * sz
    · rw [if_pos hj, splice_get _ _ _ (by omega)]
      split
      · rfl
      · rw [← ht, List.getElem?_take, if_pos hj]
    · rw [if_neg hj, if_neg (by omega), List.getElem?_eq_none (by omega)]
theorem evStore_sound (hI : HInv X (lk hp) ν used w) (hk : ¬ used key) {t : Nat} {a x : AV} {va vx : Value} {es : List (Nat × Option HO)} {acc : List Nat}
    (ha : RepA w (Mut X.M0 (lk hp) ν) (lk hp) ν used a va) (hx : RepA w (Mut X.M0 (lk hp) ν) (lk hp) ν used x vx) (he : evStore P (lk hp) t a x = some (es, acc)) :
    ∃ w', (Instr.storeAt t va vx).run P w = .ok () w' ∧ Post X hp ν used w key (eff hp es) .undef undef w' := by
  unfold evStore at he
  split at he
  · cases he
  · rename_i n hn
    split at he
    · rename_i k off
      split at he
      · rename_i cs ho
        split at he
        · rename_i hc
          obtain ⟨hs, hl, hle⟩ := hc
          simp at he
          obtain ⟨rfl, rfl⟩ := he
          cases ha with
          | ref hu h =>
            obtain ⟨cs', b, he, hν, rfl⟩ := h _ ho
            cases he
            obtain ⟨b', cells, e, hv, hg, hlen, hcell, hr⟩ := hI.obj _ _ ho
            rw [hν] at hv
            cases hv
            obtain ⟨c1, c2, c3⟩ := comps_rep hx hs
            have hl' : vx.cells.toList.length = n := by omega
            have hl2 : vx.cells.size = n := by simpa using hl'
            have hone : ∀ u ∈ vx.cells.toList, u.oneCell' = true := fun u hu => by
              obtain ⟨i, hi⟩ := List.mem_iff_getElem?.1 hu
              have hil := (List.getElem?_eq_some_iff.1 hi).1
              have hd := List.getElem?_eq_getElem (l := x.comps) (i := i) (by omega)
              exact (c3 i _ u hd hi).oneCell (c2 _ (List.getElem_mem _))
            refine ⟨_, run_storeAt hn hg (by simpa using hl') (by omega) hone, ?_⟩
            have hb : blockOf (ν k) = some b := by rw [hν]; rfl
            obtain ⟨g1, g2⟩ := hI.write (o' := .var (splice cs off x.comps)) ho hb (splice cells.toList off vx.cells.toList).toArray (by simp only [HO.later]; rw [splice_length _ _ _ (by omega)])
              (fun M' H' hx' => by
                refine ⟨b, _, e, hν, setRow_heap _ _ _ _ _ _ hg, ?_, fun c hc => ?_, fun i av u h1 h2 => ?_⟩
                · simp only [List.size_toArray]
                  rw [splice_length _ _ _ (by simp; omega), splice_length _ _ _ (by omega)]
                  simpa using hlen
                · unfold splice at hc
                  simp at hc
                  rcases hc with h | h | h
                  · exact hcell c (List.mem_of_mem_take h)
                  · exact c2 c h
                  · exact hcell c (List.mem_of_mem_drop h)
                · simp only [List.getElem?_toArray] at h2
                  rw [splice_get _ _ _ (by omega)] at h1
                  rw [splice_get _ _ _ (by simp; omega)] at h2
                  rw [c1] at h2
                  split at h1
                  · rename_i hij
                    rw [if_pos hij] at h2
                    exact (c3 _ _ _ h1 h2).ext hx'
                  · rename_i hij
                    rw [if_neg hij] at h2
                    exact (hr i av u h1 (by simpa using h2)).ext hx')
            obtain ⟨m1, m2⟩ := g1.more hk
            exact ⟨ν, m1, g2.trans m2, .undef _⟩
        · cases he
      · cases he
    · rename_i k m i sz off
      split at he
      · rename_i e sz' xs ho
        split at he
        · rename_i hm
          obtain ⟨hm, rfl⟩ := hm
          split at he
          · rename_i y d ks hy hd
            split at he
            · rename_i hc
              obtain ⟨hs, hl, hle, hnk⟩ := hc
              split at he
              · rename_i y' hy'
                simp at he
                obtain ⟨rfl, rfl⟩ := he
                rw [eff_dels]
                simp only [eff]
                obtain ⟨hI1, x1⟩ := hI.drops ks
                have ho1 : lk (dels hp ks) k = some (.row e sz' xs) := by rw [lk_dels_other _ _ _ hnk]; exact ho
                have hdr := toD_drop hI hx hd
                cases ha with
                | eref hu hi hoff h =>
                  obtain ⟨_, _, _, he, _, hv⟩ := h _ ho
                  cases he
                  obtain ⟨g, c, hν, rfl⟩ := hv hm
                  subst hm
                  obtain ⟨vals, hown, hz, hf, hr⟩ := hI1.obj _ _ ho1
                  rw [hν] at hown
                  have hown0 := hown
                  rcases hown with ⟨hvl, ⟨h2, _⟩ | ⟨g', cap, cur, h2, hbg, hg, hnc, hcm, hcs, htake⟩⟩
                  · cases h2
                  · cases h2
                    obtain ⟨c1, c2, c3⟩ := repD_comps hdr hs
                    have hl2 : vx.cells.toList.length = n := by omega
                    have hl3 : vx.cells.size = n := by simpa using hl2
                    have hone : ∀ u ∈ vx.cells.toList, u.oneCell' = true := fun u hu => by
                      obtain ⟨q, hq⟩ := List.mem_iff_getElem?.1 hu
                      have hil := (List.getElem?_eq_some_iff.1 hq).1
                      have hd := List.getElem?_eq_getElem (l := d.comps) (i := q) (by omega)
                      exact (c3 q _ u hd hq).oneCell (c2 _ (List.getElem_mem _))
                    have hyl := (hf y (List.mem_of_getElem? hy)).1
                    have hi1 : (i + 1) * sz' ≤ xs.length * sz' := Nat.mul_le_mul_right _ hi
                    have hi2 : (i + 1) * sz' = i * sz' + sz' := by rw [Nat.add_mul]; omega
                    have hcap : xs.length * sz' ≤ c * sz' := Nat.mul_le_mul_right _ hnc
                    have hrange : i * sz' + off + n ≤ xs.length * sz' := by omega
                    refine ⟨_, run_storeAt hn hg hl3 (by omega) hone, ?_⟩
                    have hb : blockOf (ν k) = some g := by rw [hν]; rfl
                    have hsc : ∀ q ∈ splice y.comps off d.comps, q.cell = true := fun q hq => by
                      unfold splice at hq
                      simp at hq
                      rcases hq with h | h | h
                      · exact (hf y (List.mem_of_getElem? hy)).2 q (List.mem_of_mem_take h)
                      · exact c2 q h
                      · exact (hf y (List.mem_of_getElem? hy)).2 q (List.mem_of_mem_drop h)
                    have hyc := rebuild_comps hy' hsc
                    have hsl : (splice y.comps off d.comps).length = sz' := by rw [splice_length _ _ _ (by omega)]; exact hyl
                    obtain ⟨g1, g2⟩ := hI1.write (o' := .row e sz' (xs.set i y')) ho1 hb (splice cur.toList (i * sz' + off) vx.cells.toList).toArray ⟨rfl, rfl, by simp⟩
                      (fun M' H' hx' => by
                        refine ⟨splice vals (i * sz' + off) vx.cells.toList, ?_, hz, fun q hq => ?_, fun i' q j dd hq hdd => ?_⟩
                        · rw [hν, List.length_set]
                          exact owns_splice hown0 (by omega) hg (setRow_heap _ _ _ _ _ _ hg)
                        · rcases List.mem_or_eq_of_mem_set hq with h | h
                          · exact hf q h
                          · subst h
                            rw [hyc]
                            exact ⟨hsl, hsc⟩
                        · rw [splice_get _ _ _ (by omega)]
                          have hjl := (List.getElem?_eq_some_iff.1 hdd).1
                          by_cases hii : i' = i
                          · subst hii
                            rw [List.getElem?_set_self hi] at hq
                            cases hq
                            rw [hyc] at hdd hjl
                            rw [splice_get _ _ _ (by omega)] at hdd
                            split at hdd
                            · rename_i hj
                              rw [if_pos (by omega)]
                              have hd' := (List.getElem?_eq_some_iff.1 hdd).1
                              have hu := List.getElem?_eq_getElem (l := vx.cells.toList) (i := j - off) (by omega)
                              refine ⟨_, ?_, (c3 _ _ _ hdd hu).mono hx'.same hx'.shrink⟩
                              rw [← hu]
                              congr 1
                              omega
                            · rename_i hj
                              rw [if_neg (by omega)]
                              obtain ⟨u, hu, hru⟩ := hr _ y j dd hy hdd
                              exact ⟨u, hu, hru.mono hx'.same hx'.shrink⟩
                          · rw [List.getElem?_set_ne (fun h => hii h.symm)] at hq
                            have hjl' : j < sz' := by rw [(hf q (List.mem_of_getElem? hq)).1] at hjl; exact hjl
                            obtain ⟨u, hu, hru⟩ := hr _ q j dd hq hdd
                            rw [if_neg ?_]
                            · exact ⟨u, hu, hru.mono hx'.same hx'.shrink⟩
                            · intro hh
                              rcases Nat.lt_or_gt_of_ne hii with h | h
                              · have : (i' + 1) * sz' ≤ i * sz' := Nat.mul_le_mul_right _ h
                                rw [Nat.add_mul] at this
                                omega
                              · have : (i + 1) * sz' ≤ i' * sz' := Nat.mul_le_mul_right _ h
                                omega)
                    obtain ⟨m1, m2⟩ := g1.more hk
                    exact ⟨ν, m1, (x1.trans g2).trans m2, .undef _⟩
              · cases he
            · cases he
          · cases he
        · cases he
      · cases he
    · cases he
end
end Go.Eng

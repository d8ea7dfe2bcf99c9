/- The engine, part 3: what an operation comes to. -/
import Derived.Test.YtlaekicahpplbabG2
set_option linter.unusedVariables false
set_option linter.unusedSimpArgs false
namespace Go.Eng
open Go.RowKit

/-- A variable's cells, where all are data. -/
def cellsD : List AV → Option (List D)
  | [] => some []
  | a :: as => match a with
    | .d x => match cellsD as with
      | some xs => if x.cell = true then some (x :: xs) else none
      | none => none
    | _ => none
theorem cellsD_get : ∀ {as : List AV} {xs : List D}, cellsD as = some xs → xs.length = as.length ∧ ∀ (i : Nat) x, xs[i]? = some x → x.cell = true ∧ as[i]? = some (.d x)
  | [], xs, h => by simp only [cellsD, Option.some.injEq] at h; subst h; simp
  | a :: as, xs, h => by
    simp only [cellsD] at h
    split at h
    · split at h
      · rename_i x ys hy
        split at h
        · rename_i hc
          cases h
          obtain ⟨h1, h2⟩ := cellsD_get hy
          refine ⟨by simp [h1], fun i z hz => ?_⟩
          cases i with
          | zero => simp at hz; subst hz; exact ⟨hc, rfl⟩
          | succ i => exact h2 i z (by simpa using hz)
        · cases h
      · cases h
    · cases h
mutual
def toD (H : Nat → Option HO) : AV → Option (D × List Nat)
  | .d x => some (x, [])
  | .clip sz xs => some (.sl sz xs, [])
  | .own k n => match H k with | some (.row _ sz xs) => if n = xs.length then some (.sl sz xs, [k]) else none | _ => none
  | .agg fs => match toDs H fs with | some (ds, ks) => if ds.all D.cell then some (.agg ds, ks) else none | none => none
  | .tup fs => match toDs H fs with | some (ds, ks) => some (.tup ds, ks) | none => none
  | .fn f caps => match caps with | [] => some (.fn f, []) | _ :: _ => none
  | .vs k off n => match H k with
    | some (.var cs) => match cellsD ((cs.drop off).take n) with
      | some xs => if xs.length = n then some (.sl 1 xs, [k]) else none
      | none => none
    | _ => none
  | .undef => none | .ref .. => none | .eref .. => none | .dref .. => none | .map .. => none | .it .. => none | .yld .. => none
def toDs (H : Nat → Option HO) : List AV → Option (List D × List Nat)
  | [] => some ([], [])
  | a :: as => match toD H a with
    | some (x, k) => match toDs H as with
      | some (xs, ks) => some (x :: xs, k ++ ks)
      | none => none
    | none => none
end

theorem row_rep {X : Ctx} {H : Nat → Option HO} {ν : Nat → Value} {used : Nat → Prop} {w : World} (hI : HInv X H ν used w) {M' : Nat → Prop} (hM' : ∀ b, M' b → Mut X.M0 H ν b) {k : Nat} {e : TypeId} {sz : Nat} {xs : List D}
    (ho : H k = some (.row e sz xs)) (hk : ∀ b, blockOf (ν k) = some b → ¬ M' b) : RepD w M' (.sl sz xs) (ν k) := by
  obtain ⟨vals, hown, hz, hf, hr⟩ := hI.obj _ _ ho
  rcases hown.2 with ⟨hv, hn⟩ | ⟨g, cap, cur, hv, hbg, hg, hnc, hcm, hcs, htake⟩
  · have : xs = [] := List.eq_nil_of_length_eq_zero hn
    subst this
    rw [hv]
    exact .sl0
  · have hbk : blockOf (ν k) = some g := by rw [hv]; rfl
    rw [hv]
    refine .sl (fun i j => vals.getD (i * sz + j) undef) (fun _ => (hI.blk _ _ _ ho hbk).2) (fun _ => hk g hbk) hnc hcm (fun i x hx => hf x (List.mem_of_getElem? hx)) (fun i x j d hx hd => ?_) (fun i x j d hx hd => ?_)
    · obtain ⟨u, hu, _⟩ := hr i x j d hx hd
      rw [hown.cells (g := g) (by rw [hv]; rfl) _ _ hu]
      simp [List.getD_eq_getElem?_getD, hu]
    · obtain ⟨u, hu, hru⟩ := hr i x j d hx hd
      simp only [List.getD_eq_getElem?_getD, hu, Option.getD_some]
      exact hru.mono (Same.refl _ _) (fun b _ h => hM' b h)

theorem cell_at {w : World} {b j : Nat} {cells : Array Value} {e : TypeId} {u : Value} (h : w.heap[b]? = some (.cells cells e (0, 0))) (hj : cells[j]? = some u) (off i : Nat) (hij : off + i = j) : w.cell? ((⟨b, off, none⟩ : Addr).add i) = some u := by
  subst hij
  by_cases h0 : i = 0
  · subst h0; simp at hj; simp [World.cell?, Addr.add, h, hj]
  · simp [World.cell?, Addr.add, h, hj, h0]
theorem view_rep {X : Ctx} {H : Nat → Option HO} {ν : Nat → Value} {used : Nat → Prop} {w : World} (hI : HInv X H ν used w) {M' : Nat → Prop} (hM' : ∀ b, M' b → Mut X.M0 H ν b) {k off n c : Nat} {cs : List AV} {xs : List D} {a : Addr}
    (ho : H k = some (.var cs)) (hx : cellsD ((cs.drop off).take n) = some xs) (hn : xs.length = n) (hc : n ≤ c ∧ c ≤ maxLen) {b : Nat} (hν : ν k = .pointer (some ⟨b, 0, none⟩)) (ha : a = ⟨b, off, none⟩) (hk : ∀ b, blockOf (ν k) = some b → ¬ M' b) : RepD w M' (.sl 1 xs) (.slice (some a) n c) := by
  subst ha
  obtain ⟨b', cells, e, hv, hg, hl, hcc, hr⟩ := hI.obj _ _ ho
  rw [hν] at hv
  cases hv
  obtain ⟨h1, h2⟩ := cellsD_get hx
  have hbk : blockOf (ν k) = some b := by rw [hν]; rfl
  have at' : ∀ (i : Nat) x, xs[i]? = some x → x.cell = true ∧ ∃ u, cells[off + i]? = some u ∧ RepD w M' x u := fun i x hxi => by
    obtain ⟨k1, k2⟩ := h2 i x hxi
    have hi : i < n := by rw [← hn]; exact (List.getElem?_eq_some_iff.1 hxi).1
    rw [List.getElem?_take, if_pos hi, List.getElem?_drop] at k2
    have hlt : off + i < cells.size := by rw [hl]; exact (List.getElem?_eq_some_iff.1 k2).1
    refine ⟨k1, cells[off + i], Array.getElem?_eq_getElem hlt, ?_⟩
    have := hr (off + i) _ _ k2 (Array.getElem?_eq_getElem hlt)
    cases this with
    | d h => exact h.mono (Same.refl _ _) (fun b _ h => hM' b h)
  subst hn
  refine .sl (fun i j => (cells[off + i]?).getD undef) (fun _ => (hI.blk _ _ _ ho hbk).2) (fun _ => hk b hbk) hc.1 hc.2 (fun i x hxi => ?_) (fun i x j d hxi hd => ?_) (fun i x j d hxi hd => ?_)
  · obtain ⟨k1, _⟩ := at' i x hxi
    cases x <;> first | (simp [D.cell] at k1; done) | exact ⟨rfl, fun d hd => by simp [D.comps] at hd; subst hd; rfl⟩
  · obtain ⟨k1, u, hu, hru⟩ := at' i x hxi
    have hj : j = 0 ∧ d = x := by
      cases x <;> first | (simp [D.cell] at k1; done) | (cases j <;> simp [D.comps] at hd; exact ⟨rfl, hd.symm⟩)
    obtain ⟨rfl, rfl⟩ := hj
    rw [hu]
    exact cell_at hg hu off (i * 1 + 0) (by omega)
  · obtain ⟨k1, u, hu, hru⟩ := at' i x hxi
    have hj : j = 0 ∧ d = x := by
      cases x <;> first | (simp [D.cell] at k1; done) | (cases j <;> simp [D.comps] at hd; exact ⟨rfl, hd.symm⟩)
    obtain ⟨rfl, rfl⟩ := hj
    rw [hu]
    exact hru
mutual
theorem toD_rep {X : Ctx} {H : Nat → Option HO} {ν : Nat → Value} {used : Nat → Prop} {w : World} (hI : HInv X H ν used w) {M' : Nat → Prop} (hM' : ∀ b, M' b → Mut X.M0 H ν b) :
    ∀ (av : AV) (v : Value) (x : D) (ks : List Nat), RepA w (Mut X.M0 H ν) H ν used av v → toD H av = some (x, ks) → (∀ k ∈ ks, ∀ b, blockOf (ν k) = some b → ¬ M' b) → RepD w M' x v
  | .d y, v, x, ks, h, he, hk => by
    simp only [toD, Option.some.injEq, Prod.mk.injEq] at he
    obtain ⟨rfl, rfl⟩ := he
    cases h with
    | d h => exact h.mono (Same.refl _ _) (fun b _ h => hM' b h)
  | .clip sz xs, v, x, ks, h, he, hk => by
    simp only [toD, Option.some.injEq, Prod.mk.injEq] at he
    obtain ⟨rfl, rfl⟩ := he
    cases h with
    | clip h => exact h.mono (Same.refl _ _) (fun b _ h => hM' b h)
  | .own k n, v, x, ks, h, he, hk => by
    simp only [toD] at he
    split at he
    · rename_i e sz xs ho
      split at he
      · rename_i hn
        simp only [Option.some.injEq, Prod.mk.injEq] at he
        obtain ⟨rfl, rfl⟩ := he
        cases h with
        | own hu h1 hc ha h =>
          obtain ⟨_, _, _, he, _, hv⟩ := h _ ho
          cases he
          rw [hv hn]
          exact row_rep hI hM' ho (hk k (by simp))
      · cases he
    · cases he
  | .vs k off n, v, x, ks, h, he, hk => by
    simp only [toD] at he
    split at he
    · rename_i cs ho
      split at he
      · rename_i xs hx
        split at he
        · rename_i hn
          simp only [Option.some.injEq, Prod.mk.injEq] at he
          obtain ⟨rfl, rfl⟩ := he
          cases h with
          | vs hu hc h =>
            obtain ⟨_, b, he, hν, ha, _⟩ := h _ ho
            cases he
            exact view_rep hI hM' ho hx hn hc hν ha (hk k (by simp))
        · cases he
      · cases he
    · cases he
  | .agg fs, v, x, ks, h, he, hk => by
    simp only [toD] at he
    split at he
    · rename_i ds ks' hds
      split at he
      · rename_i hall
        simp only [Option.some.injEq, Prod.mk.injEq] at he
        obtain ⟨rfl, rfl⟩ := he
        cases h with
        | agg hl hc h =>
          obtain ⟨h1, h2⟩ := toDs_rep hI hM' fs _ _ _ hl h hds hk
          exact .agg h1 (by simpa using hall) h2
      · cases he
    · cases he
  | .tup fs, v, x, ks, h, he, hk => by
    simp only [toD] at he
    split at he
    · rename_i ds ks' hds
      simp only [Option.some.injEq, Prod.mk.injEq] at he
      obtain ⟨rfl, rfl⟩ := he
      cases h with
      | tup hl h =>
        obtain ⟨h1, h2⟩ := toDs_rep hI hM' fs _ _ _ hl h hds hk
        exact .tup h1 h2
    · cases he
  | .fn f caps, v, x, ks, h, he, hk => by
    simp only [toD] at he
    split at he
    · simp only [Option.some.injEq, Prod.mk.injEq] at he
      obtain ⟨rfl, rfl⟩ := he
      cases h with
      | fn hl h =>
        rename_i cs
        have : cs = [] := List.eq_nil_of_length_eq_zero (by simpa using hl.symm)
        subst this
        exact .fn f
    · cases he
  | .undef, _, _, _, _, he, _ => by simp [toD] at he
  | .ref .., _, _, _, _, he, _ => by simp [toD] at he
  | .eref .., _, _, _, _, he, _ => by simp [toD] at he
  | .dref .., _, _, _, _, he, _ => by simp [toD] at he
  | .yld .., _, _, _, _, he, _ => by simp [toD] at he
  | .map .., _, _, _, _, he, _ => by simp [toD] at he
  | .it .., _, _, _, _, he, _ => by simp [toD] at he
theorem toDs_rep {X : Ctx} {H : Nat → Option HO} {ν : Nat → Value} {used : Nat → Prop} {w : World} (hI : HInv X H ν used w) {M' : Nat → Prop} (hM' : ∀ b, M' b → Mut X.M0 H ν b) :
    ∀ (fs : List AV) (cs : List Value) (ds : List D) (ks : List Nat), fs.length = cs.length → (∀ (i : Nat) d v, fs[i]? = some d → cs[i]? = some v → RepA w (Mut X.M0 H ν) H ν used d v) → toDs H fs = some (ds, ks) →
      (∀ k ∈ ks, ∀ b, blockOf (ν k) = some b → ¬ M' b) → ds.length = cs.length ∧ ∀ (i : Nat) d v, ds[i]? = some d → cs[i]? = some v → RepD w M' d v
  | [], cs, ds, ks, hl, h, he, hk => by
    simp only [toDs, Option.some.injEq, Prod.mk.injEq] at he
    obtain ⟨rfl, rfl⟩ := he
    exact ⟨hl, fun i d v hd _ => by simp at hd⟩
  | a :: as, cs, ds, ks, hl, h, he, hk => by
    cases cs with
    | nil => simp at hl
    | cons c cs =>
      simp only [toDs] at he
      split at he
      · rename_i x k hx
        split at he
        · rename_i xs ks' hxs
          simp only [Option.some.injEq, Prod.mk.injEq] at he
          obtain ⟨rfl, rfl⟩ := he
          have h0 := toD_rep hI hM' a c x k (h 0 a c rfl rfl) hx (fun q hq => hk q (by simp [hq]))
          obtain ⟨h1, h2⟩ := toDs_rep hI hM' as cs xs ks' (by simpa using hl) (fun i d v hd hv => h (i + 1) d v (by simpa using hd) (by simpa using hv)) hxs (fun q hq => hk q (by simp [hq]))
          refine ⟨by simp [h1], fun i d v hd hv => ?_⟩
          cases i with
          | zero => simp at hd hv; subst hd; subst hv; exact h0
          | succ i => exact h2 i d v (by simpa using hd) (by simpa using hv)
        · cases he
      · cases he
end

def dels (hp : Heap) : List Nat → Heap
  | [] => hp
  | k :: ks => dels (del hp k) ks
theorem HInv.drops {X : Ctx} {ν : Nat → Value} {used : Nat → Prop} {w : World} (ks : List Nat) : ∀ {hp : Heap}, HInv X (lk hp) ν used w →
    HInv X (lk (dels hp ks)) ν used w ∧ Ext (Mut X.M0 (lk hp) ν) (lk hp) ν used w (Mut X.M0 (lk (dels hp ks)) ν) (lk (dels hp ks)) ν used w := by
  induction ks with
  | nil => exact fun h => ⟨h, Ext.refl _ _ _ _ _⟩
  | cons k ks ih =>
    intro hp h
    obtain ⟨h1, x1⟩ := h.drop k
    obtain ⟨h2, x2⟩ := ih h1
    exact ⟨h2, x1.trans x2⟩
theorem lk_dels_mem (ks : List Nat) : ∀ (hp : Heap) (k : Nat), k ∈ ks → lk (dels hp ks) k = none := by
  induction ks with
  | nil => intro hp k h; cases h
  | cons q ks ih =>
    intro hp k h
    by_cases hk : k ∈ ks
    · exact ih _ _ hk
    · have : k = q := by cases h with
        | head => rfl
        | tail _ h => exact absurd h hk
      subst this
      have aux : ∀ (l : List Nat) (g : Heap), lk g k = none → lk (dels g l) k = none := by
        intro l
        induction l with
        | nil => exact fun _ h => h
        | cons q l ih => intro g hg; exact ih _ (by by_cases e : k = q; · subst e; exact lk_del_same _ _
                                                    · rw [lk_del_other _ _ _ e]; exact hg)
      exact aux ks _ (lk_del_same _ _)
theorem lk_dels_sub (ks : List Nat) : ∀ (hp : Heap) (k : Nat) (o : HO), lk (dels hp ks) k = some o → lk hp k = some o := by
  induction ks with
  | nil => exact fun _ _ _ h => h
  | cons q ks ih =>
    intro hp k o h
    have := ih _ _ _ h
    by_cases e : k = q
    · subst e; rw [lk_del_same] at this; cases this
    · rwa [lk_del_other _ _ _ e] at this
theorem Mut.dels_sub {M0 : Nat → Prop} {hp : Heap} {ν : Nat → Value} {ks : List Nat} : ∀ b, Mut M0 (lk (dels hp ks)) ν b → Mut M0 (lk hp) ν b :=
  fun b h => by
    rcases h with h | ⟨k, o, hk, hb⟩
    · exact .inl h
    · exact .inr ⟨k, o, lk_dels_sub _ _ _ _ hk, hb⟩
theorem HInv.notMut {X : Ctx} {hp : Heap} {ν : Nat → Value} {used : Nat → Prop} {w : World} (hI : HInv X (lk hp) ν used w) {ks : List Nat} (hk : ∀ k ∈ ks, ∃ o, lk hp k = some o) :
    ∀ k ∈ ks, ∀ b, blockOf (ν k) = some b → ¬ Mut X.M0 (lk (dels hp ks)) ν b := by
  intro k hks b hb hM
  obtain ⟨o, ho⟩ := hk k hks
  rcases hM with h | ⟨q, o', hq, hbq⟩
  · exact hI.far _ _ _ ho hb h
  · have hq' := lk_dels_sub _ _ _ _ hq
    have := hI.inj _ _ _ _ _ hq' ho hbq hb
    subst this
    rw [lk_dels_mem _ _ _ hks] at hq
    cases hq
mutual
theorem toD_keys {H : Nat → Option HO} : ∀ (av : AV) (x : D) (ks : List Nat), toD H av = some (x, ks) → ∀ k ∈ ks, ∃ o, H k = some o
  | .d y, x, ks, he => by simp only [toD, Option.some.injEq, Prod.mk.injEq] at he; obtain ⟨rfl, rfl⟩ := he; intro k h; cases h
  | .clip sz xs, x, ks, he => by simp only [toD, Option.some.injEq, Prod.mk.injEq] at he; obtain ⟨rfl, rfl⟩ := he; intro k h; cases h
  | .own q n, x, ks, he => by
    simp only [toD] at he
    split at he
    · rename_i e sz xs ho
      split at he
      · simp only [Option.some.injEq, Prod.mk.injEq] at he
        obtain ⟨rfl, rfl⟩ := he
        intro k hk
        simp at hk
        subst hk
        exact ⟨_, ho⟩
      · cases he
    · cases he
  | .agg fs, x, ks, he => by
    simp only [toD] at he
    split at he
    · rename_i ds ks' hds
      split at he
      · simp only [Option.some.injEq, Prod.mk.injEq] at he
        obtain ⟨rfl, rfl⟩ := he
        exact toDs_keys fs _ _ hds
      · cases he
    · cases he
  | .tup fs, x, ks, he => by
    simp only [toD] at he
    split at he
    · rename_i ds ks' hds
      simp only [Option.some.injEq, Prod.mk.injEq] at he
      obtain ⟨rfl, rfl⟩ := he
      exact toDs_keys fs _ _ hds
    · cases he
  | .fn f caps, x, ks, he => by
    simp only [toD] at he
    split at he
    · simp only [Option.some.injEq, Prod.mk.injEq] at he
      obtain ⟨rfl, rfl⟩ := he
      intro k h; cases h
    · cases he
  | .undef, _, _, he => by simp [toD] at he
  | .ref .., _, _, he => by simp [toD] at he
  | .eref .., _, _, he => by simp [toD] at he
  | .yld .., _, _, he => by simp [toD] at he
  | .dref .., _, _, he => by simp [toD] at he
  | .map .., _, _, he => by simp [toD] at he
  | .it .., _, _, he => by simp [toD] at he
  | .vs q off n, x, ks, he => by
    simp only [toD] at he
    split at he
    · rename_i cs ho
      split at he
      · split at he
        · simp only [Option.some.injEq, Prod.mk.injEq] at he
          obtain ⟨rfl, rfl⟩ := he
          intro k hk
          simp at hk
          subst hk
          exact ⟨_, ho⟩
        · cases he
      · cases he
    · cases he
theorem toDs_keys {H : Nat → Option HO} : ∀ (fs : List AV) (ds : List D) (ks : List Nat), toDs H fs = some (ds, ks) → ∀ k ∈ ks, ∃ o, H k = some o
  | [], ds, ks, he => by simp only [toDs, Option.some.injEq, Prod.mk.injEq] at he; obtain ⟨rfl, rfl⟩ := he; intro k h; cases h
  | a :: as, ds, ks, he => by
    simp only [toDs] at he
    split at he
    · rename_i x k hx
      split at he
      · rename_i xs ks' hxs
        simp only [Option.some.injEq, Prod.mk.injEq] at he
        obtain ⟨rfl, rfl⟩ := he
        intro q hq
        rcases List.mem_append.1 hq with h | h
        · exact toD_keys a _ _ hx q h
        · exact toDs_keys as _ _ hxs q h
      · cases he
    · cases he
end
/-- What is told as data, its own rows given up. -/
theorem toD_drop {X : Ctx} {hp : Heap} {ν : Nat → Value} {used : Nat → Prop} {w : World} (hI : HInv X (lk hp) ν used w) {av : AV} {v : Value} {x : D} {ks : List Nat}
    (h : RepA w (Mut X.M0 (lk hp) ν) (lk hp) ν used av v) (he : toD (lk hp) av = some (x, ks)) : RepD w (Mut X.M0 (lk (dels hp ks)) ν) x v :=
  toD_rep hI Mut.dels_sub av v x ks h he (hI.notMut (toD_keys _ _ _ he))
end Go.Eng

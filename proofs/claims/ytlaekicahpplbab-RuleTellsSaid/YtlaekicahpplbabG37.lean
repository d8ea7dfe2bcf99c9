/- The engine, part 37: a thing's key is told by another name. -/
import Derived.Test.YtlaekicahpplbabG26
set_option linter.unusedVariables false
set_option linter.unusedSimpArgs false
namespace Go.Eng
open Go.RowKit
def swk (j k x : Nat) : Nat := if x = j then k else if x = k then j else x
theorem swk_swk (j k x : Nat) : swk j k (swk j k x) = x := by
  unfold swk
  by_cases h1 : x = j
  · subst h1
    rw [if_pos rfl]
    by_cases h2 : k = x
    · subst h2; simp
    · rw [if_neg h2, if_pos rfl]
  · rw [if_neg h1]
    by_cases h2 : x = k
    · subst h2; rw [if_pos rfl, if_pos rfl]
    · rw [if_neg h2, if_neg h1, if_neg h2]
theorem swk_inj {j k x y : Nat} (h : swk j k x = swk j k y) : x = y := by
  have := congrArg (swk j k) h
  rwa [swk_swk, swk_swk] at this
theorem swk_lt {j k c x : Nat} (hj : j < c) (hk : k < c) (h : x < c) : swk j k x < c := by
  unfold swk; split
  · exact hk
  · split
    · exact hj
    · exact h
theorem swk_low {j k c x : Nat} (hj : c ≤ j) (hk : c ≤ k) (h : x < c) : swk j k x = x := by
  unfold swk
  rw [if_neg (by omega), if_neg (by omega)]
def rnE (σ : Nat → Nat) (E : Env) : Env := E.map fun p => (p.1, p.2.rn σ)
def rnH (σ : Nat → Nat) (hp : Heap) : Heap := hp.map fun p => (σ p.1, p.2.rn σ)
theorem lk_rnE {σ : Nat → Nat} (E : Env) (n : Nat) : lk (rnE σ E) n = (lk E n).map (AV.rn σ) := by
  induction E with
  | nil => rfl
  | cons p l ih =>
    simp only [rnE, List.map_cons, lk] at ih ⊢
    split
    · rfl
    · exact ih
theorem lk_rnH {σ : Nat → Nat} (hi : ∀ x y, σ x = σ y → x = y) (hp : Heap) (n : Nat) : lk (rnH σ hp) (σ n) = (lk hp n).map (HO.rn σ) := by
  induction hp with
  | nil => rfl
  | cons p l ih =>
    simp only [rnH, List.map_cons, lk] at ih ⊢
    by_cases h : p.1 = n
    · rw [if_pos h, if_pos (by rw [h])]; rfl
    · rw [if_neg h, if_neg (fun e => h (hi _ _ e))]; exact ih
def fixIt (σ : Nat → Nat) : HO → Bool
  | .iter m _ _ => Nat.beq (σ m) m
  | _ => true
theorem later_rn {σ : Nat → Nat} {o o' : HO} (h : o.later o') (hf : fixIt σ o' = true) : o.later (o'.rn σ) := by
  cases o <;> cases o' <;> simp_all [HO.later, HO.rn, rns_length, fixIt]
theorem still_rn {σ : Nat → Nat} {o o' : HO} (h : o.still (o'.rn σ)) : o.still o' := by
  cases o <;> cases o' <;> simp_all [HO.still, HO.rn]
theorem mem_kss : ∀ {fs : List AV} {k : Nat}, k ∈ kss fs → ∃ (i : Nat) (d : AV), fs[i]? = some d ∧ k ∈ d.ks
  | [], k, h => by simp [kss] at h
  | x :: l, k, h => by
    simp only [kss, List.mem_append] at h
    rcases h with h | h
    · exact ⟨0, x, rfl, h⟩
    · obtain ⟨i, d, h1, h2⟩ := mem_kss h
      exact ⟨i + 1, d, by simpa using h1, h2⟩
theorem RepA.usedKs {w : World} {M : Nat → Prop} {H : Nat → Option HO} {ν : Nat → Value} {used : Nat → Prop} {av : AV} {v : Value} (h : RepA w M H ν used av v) : ∀ k ∈ av.ks, used k := by
  have gen : ∀ {fs : List AV} {cs : List Value}, fs.length = cs.length → (∀ (i : Nat) d v, fs[i]? = some d → cs[i]? = some v → ∀ k ∈ d.ks, used k) → ∀ k ∈ kss fs, used k := fun {fs cs} hl ih k hk => by
    obtain ⟨i, d, h1, h2⟩ := mem_kss hk
    have hlt : i < cs.length := by rw [← hl]; exact (List.getElem?_eq_some_iff.1 h1).1
    exact ih i d _ h1 (List.getElem?_eq_getElem hlt) k h2
  induction h with
  | agg hl _ _ ih => exact gen hl ih
  | tup hl _ ih => exact gen hl ih
  | fn hl _ ih => exact gen hl ih
  | yld hu => intro k hk; simp [AV.ks] at hk; subst hk; exact hu
  | own hu => intro k hk; simp [AV.ks] at hk; subst hk; exact hu
  | ref hu => intro k hk; simp [AV.ks] at hk; subst hk; exact hu
  | eref hu => intro k hk; simp [AV.ks] at hk; subst hk; exact hu
  | map hu => intro k hk; simp [AV.ks] at hk; subst hk; exact hu
  | it hu => intro k hk; simp [AV.ks] at hk; subst hk; exact hu
  | vs hu => intro k hk; simp [AV.ks] at hk; subst hk; exact hu
  | _ => intro k hk; simp [AV.ks] at hk
section
variable {P : Program} {S : Sp} {Q : Exit → St → Prop}
theorem Rel.rn {E : Env} {hp : Heap} {c : Nat} {a : Act} {w : World} (h : Rel S ⟨E, hp, c⟩ a w) (j k : Nat) (hj : S.R.c ≤ j) (hk : S.R.c ≤ k) (hjc : j < c) (hkc : k < c) (hf : (hp.all fun p => fixIt (swk j k) p.2) = true) :
    Rel S ⟨rnE (swk j k) E, rnH (swk j k) hp, c⟩ a w := by
  obtain ⟨hle, ν, hI, hx⟩ := h
  simp only at hI hx hle
  let σ := swk j k
  have hσ : ∀ x, σ (σ x) = x := swk_swk j k
  have hinj : ∀ x y, σ x = σ y → x = y := fun x y h => swk_inj h
  have hget : ∀ q o, lk (rnH σ hp) q = some o → ∃ o', lk hp (σ q) = some o' ∧ o = o'.rn σ := fun q o h => by
    rw [← hσ q, lk_rnH hinj] at h
    obtain ⟨o', h1, h2⟩ := Option.map_eq_some_iff.1 h
    exact ⟨o', h1, h2.symm⟩
  let ν' : Nat → Value := fun q => ν (σ q)
  have hM : ∀ b, Mut S.X.M0 (lk (rnH σ hp)) ν' b → Mut S.X.M0 (lk hp) ν b := fun b h => by
    rcases h with h | ⟨q, o, hq, hb⟩
    · exact .inl h
    · obtain ⟨o', h1, _⟩ := hget q o hq
      exact .inr ⟨σ q, o', h1, hb⟩
  have hO : ∀ b, Own (lk (rnH σ hp)) ν' b → Own (lk hp) ν b := fun b ⟨q, o, hq, hb⟩ => by
    obtain ⟨o', h1, _⟩ := hget q o hq
    exact ⟨σ q, o', h1, hb⟩
  have hpk : ∀ q, q < c → σ q < c ∧ ν' (σ q) = ν q ∧ ∀ o', lk (rnH σ hp) (σ q) = some o' → ∃ o, lk hp q = some o ∧ o' = o.rn σ := fun q hq => by
    refine ⟨swk_lt hjc hkc hq, by show ν (σ (σ q)) = ν q; rw [hσ], fun o' ho' => ?_⟩
    obtain ⟨o, h1, h2⟩ := hget _ _ ho'
    rw [hσ] at h1
    exact ⟨o, h1, h2⟩
  have hpush : ∀ {av : AV} {v : Value}, RepA w (Mut S.X.M0 (lk hp) ν) (lk hp) ν (· < c) av v → RepA w (Mut S.X.M0 (lk (rnH σ hp)) ν') (lk (rnH σ hp)) ν' (· < c) (av.rn σ) v := fun {av v} hr =>
    hr.push hM fun k hk => hpk k (hr.usedKs k hk)
  refine ⟨hle, ν', ⟨⟨hI.heap.below, hI.heap.M0, fun q o b hq hb => ?_, fun q o hq => ?_, fun q o b hq hb => ?_, fun q q' o o' b h1 h2 hb1 hb2 => ?_, fun q o hq => ?_⟩, fun n av hn => ?_, hI.size, hI.defers.mono (Same.refl _ _) (fun b _ h => hM b h)⟩, ?_⟩
  · obtain ⟨o', h1, _⟩ := hget q o hq
    exact hI.heap.far _ _ _ h1 hb
  · obtain ⟨o', h1, _⟩ := hget q o hq
    have := hI.heap.usd _ _ h1
    have h2 := swk_lt hjc hkc this
    show q < c
    rw [← hσ q]; exact h2
  · obtain ⟨o', h1, _⟩ := hget q o hq
    exact hI.heap.blk _ _ _ h1 hb
  · obtain ⟨o1, g1, _⟩ := hget q o h1
    obtain ⟨o2, g2, _⟩ := hget q' o' h2
    exact hinj _ _ (hI.heap.inj _ _ _ _ _ g1 g2 hb1 hb2)
  · obtain ⟨o', h1, rfl⟩ := hget q o hq
    have hob := hI.heap.obj _ _ h1
    show RepO _ _ _ _ _ _ (ν (σ q)) _
    cases o' with
    | var cs =>
      obtain ⟨b, cells, e, h1, h2, h3, h4, h5⟩ := hob
      refine ⟨b, cells, e, h1, h2, by rw [h3, rns_length], fun x hx => ?_, fun i av u hi hu => ?_⟩
      · rw [rns_map] at hx
        obtain ⟨y, hy, rfl⟩ := List.mem_map.1 hx
        rw [rn_cell]; exact h4 y hy
      · obtain ⟨b, hb, rfl⟩ := rns_get hi
        exact hpush (h5 i b u hb hu)
    | row e sz xs =>
      obtain ⟨vals, h1, h2, h3, h4⟩ := hob
      exact ⟨vals, h1, h2, h3, h4.mono (Same.refl _ _) (fun b _ h => hM b h)⟩
    | map kt et es =>
      obtain ⟨r0, ents, h1, h2, h3, h4⟩ := hob
      exact ⟨r0, ents, h1, h2, h3, fun i kd vd en q1 q2 => let ⟨x, y, z⟩ := h4 i kd vd en q1 q2; ⟨x, y.mono (Same.refl _ _) (fun b _ h => hM b h), z.mono (Same.refl _ _) (fun b _ h => hM b h)⟩⟩
    | iter m c' seen =>
      obtain ⟨b, mr, h1, h2, h3, h4⟩ := hob
      obtain ⟨p1, p2, p3⟩ := hpk m h3
      refine ⟨b, mr, h1, h2, p1, fun o ho => ?_⟩
      obtain ⟨o1, ho1, rfl⟩ := p3 o ho
      obtain ⟨kt, et, es, rfl, e2⟩ := h4 _ ho1
      exact ⟨kt, et, es, rfl, by rw [p2]; exact e2⟩
    | loop Y cs st =>
      obtain ⟨l, lr, h1, h2, h3, h4, h5, h6⟩ := hob
      refine ⟨l, lr, h1, h2, h3, h4, by rw [← h5, rns_length], fun i av u hi hu => ?_⟩
      obtain ⟨b, hb, rfl⟩ := rns_get hi
      exact hpush (h6 i b u hb hu)
  · rw [lk_rnE] at hn
    obtain ⟨av', h1, rfl⟩ := Option.map_eq_some_iff.1 hn
    exact hpush (hI.env n av' h1)
  · refine ⟨hx.same, fun b hb h => hx.shrink b hb (hM b h), hx.usd, fun q hq o ho => ?_, hx.sameO, fun b hb h => hx.shrinkO b hb (hO b h)⟩
    have hqq : σ q = q := swk_low hj hk hq
    obtain ⟨o', h1, rfl⟩ := hget q o ho
    rw [hqq] at h1
    obtain ⟨o1, g1, g2, g3⟩ := hx.obj q hq o' h1
    refine ⟨o1, g1, later_rn g2 (List.all_eq_true.1 hf _ (lk_mem h1)), fun hs => ?_⟩
    show ν (σ q) = _
    rw [hqq]; exact g3 (still_rn hs)
/-- Two keys may change their names. -/
theorem WP_rn {code : Code} {E : Env} {hp : Heap} {c : Nat} (j k : Nat) {E' : Env} {hp' : Heap} (hj : S.R.c ≤ j) (hk : S.R.c ≤ k) (hjc : j < c) (hkc : k < c) (hf : (hp.all fun p => fixIt (swk j k) p.2) = true) (hE : rnE (swk j k) E = E') (hh : rnH (swk j k) hp = hp') (h : WP P S code ⟨E', hp', c⟩ Q) : WP P S code ⟨E, hp, c⟩ Q :=
  fun a w hr => h a w (hE ▸ hh ▸ hr.rn j k hj hk hjc hkc hf)
theorem Rel.cut {s : St} {a : Act} {w : World} (h : Rel S s a w) (ns ks : List Nat) : Rel S ⟨keepL s.E ns, keepL s.hp ks, s.c⟩ a w := by
  obtain ⟨hle, ν, hI, hx⟩ := h
  obtain ⟨i1, x1⟩ := hI.heap.sub (H' := lk (keepL s.hp ks)) (fun q o h => lk_keepL h)
  exact ⟨hle, ν, ⟨i1, fun n av hn => (hI.env n av (lk_keepL hn)).ext x1, hI.size, hI.defers.mono x1.same x1.shrink⟩, hx.trans x1⟩
theorem Rel.low {E : Env} {hp : Heap} {c0 : Nat} {a : Act} {w : World} (h : Rel S ⟨E, hp, c0⟩ a w) (c : Nat) (hc : S.R.c ≤ c) (hE : envBelow c E = true) (hH : heapBelow c hp = true) : Rel S ⟨E, hp, c⟩ a w := by
  obtain ⟨hle, ν, hI, hx⟩ := h
  simp only at hI hx hle
  have hkb : ∀ q o, lk hp q = some o → q < c ∧ hoBelow c o = true := fun q o h => by
    have := List.all_eq_true.1 hH _ (lk_mem h)
    simpa using this
  have i1 := hI.heap
  refine ⟨hc, ν, ⟨⟨i1.below, i1.M0, i1.far, fun q o hq => (hkb q o hq).1, i1.blk, i1.inj, fun q o hq => ?_⟩, fun n av hn => ?_, hI.size, hI.defers⟩, ?_⟩
  · have hob := i1.obj q o hq
    cases o with
    | var cs =>
      obtain ⟨b, cells, e, h1, h2, h3, h4, h5⟩ := hob
      have hcs : kbs c cs = true := (hkb q _ hq).2
      exact ⟨b, cells, e, h1, h2, h3, h4, fun i av u ha hu => RepA.restricts cs cells.toList (fun i d v hd hv => h5 i d v hd (by simpa using hv)) hcs i av u ha (by simpa using hu)⟩
    | row e sz xs => exact hob
    | map _ _ _ => exact hob
    | iter m c' seen =>
      obtain ⟨b, mr, h1, h2, hu, hm⟩ := hob
      exact ⟨b, mr, h1, h2, by have := (hkb q _ hq).2; simpa [hoBelow] using this, hm⟩
    | loop Y cs st =>
      obtain ⟨l, lr, h1, h2, h3, h4, h5, h6⟩ := hob
      have hcs : kbs c cs = true := (hkb q _ hq).2
      exact ⟨l, lr, h1, h2, h3, h4, h5, fun i av u ha hu => RepA.restricts cs lr.tmps.toList h6 hcs i av u ha hu⟩
  · have hb := List.all_eq_true.1 hE _ (lk_mem hn)
    exact RepA.restrict av _ (hI.env n av hn) (by simpa using hb)
  · exact ⟨hx.same, hx.shrink, fun k hk => Nat.lt_of_lt_of_le hk hc, hx.obj, hx.sameO, hx.shrinkO⟩
/-- A loop each round of which may end with another thing in the place of one (of key j). -/
theorem WP_loopr {α : Type} (I : α → Prop) (stE : α → Env) (stH : α → Heap) (c0 : Nat) (μ : α → Nat) (ns ks : List Nat) (j : Nat) (x0 : α) (hI : I x0) {E : Env} {hp : Heap} {c : Nat} (hE : stE x0 = keepL E ns) (hH : stH x0 = keepL hp ks) (hc : S.R.c ≤ c0) (hj : S.R.c ≤ j)
    (hbE : ∀ x, I x → envBelow c0 (stE x) = true) (hbH : ∀ x, I x → heapBelow c0 (stH x) = true) {body : Code}
    (round : ∀ x, I x → WP P S body ⟨stE x, stH x, c0⟩ (thenQ (fun s' => ∃ y k ks', S.R.c ≤ k ∧ j < s'.c ∧ k < s'.c ∧ I y ∧ ((keepL s'.hp ks').all fun p => fixIt (swk j k) p.2) = true ∧ rnE (swk j k) (keepL s'.E ns) = stE y ∧ rnH (swk j k) (keepL s'.hp ks') = stH y ∧ μ y < μ x) Q)) : WP P S (.loop body) ⟨E, hp, c⟩ Q := by
  refine WP_keep ns ks c0 hc (hE ▸ hbE x0 hI) (hH ▸ hbH x0 hI) ?_
  refine WP_loop (α := {x // I x}) (fun x => ⟨stE x.1, stH x.1, c0⟩) (fun x => μ x.1) ⟨x0, hI⟩ (by rw [hE, hH]) fun ⟨x, hx⟩ => ?_
  intro a w hr
  refine wpIn_mono (round x hx a w hr) ?_
  rintro e a' w' ⟨s', h1, h2⟩
  cases e with
  | normal =>
    obtain ⟨y, k, ks', hk, hjc, hkc, hy, hf, e1, e2, h3⟩ := h2
    have := ((h1.cut ns ks').rn j k hj hk hjc hkc hf)
    rw [e1, e2] at this
    exact ⟨_, this.low c0 hc (hbE y hy) (hbH y hy), ⟨y, hy⟩, rfl, h3⟩
  | _ => exact ⟨s', h1, h2⟩
end
end Go.Eng

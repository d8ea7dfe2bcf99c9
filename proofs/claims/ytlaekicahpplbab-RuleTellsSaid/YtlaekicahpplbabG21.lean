/- The engine, part 21: calls that are handed what is the caller's own. -/
import Derived.Test.YtlaekicahpplbabG20
import Derived.RangeFuncRecord
import Derived.RangeFuncLeaves
import Derived.RangeFuncCalls
set_option linter.unusedVariables false
set_option linter.unusedSimpArgs false
namespace Go.Eng
open Go.RowKit

/-- Something that is called, over things of the caller's: what it gives, and what they are then. Keys below n are the caller's; those above are new. -/
def SoundK (C : World → List Value → (Ending → World → Prop) → Prop) (as : List AV) (hp : Heap) (r : AV) (hp' : Heap) (n : Nat) : Prop :=
  ∀ (X : Ctx) (ν : Nat → Value) (w : World) (vs : List Value), HInv X (lk hp) ν (· < n) w → as.length = vs.length →
    (∀ (i : Nat) d v, as[i]? = some d → vs[i]? = some v → RepA w (Mut X.M0 (lk hp) ν) (lk hp) ν (· < n) d v) →
    C w vs fun e w' => ∃ v ν' c, e = .returned v ∧ HInv X (lk hp') ν' (· < c) w' ∧
      Ext (Mut X.M0 (lk hp) ν) (lk hp) ν (· < n) w (Mut X.M0 (lk hp') ν') (lk hp') ν' (· < c) w' ∧ RepA w' (Mut X.M0 (lk hp') ν') (lk hp') ν' (· < c) r v
/-- It is a function. -/
def CM (P : Program) (g : FuncId) : World → List Value → (Ending → World → Prop) → Prop := fun w vs R => (callFunc g vs.toArray).run P w = .ok (.enter g vs.toArray) w ∧ Calls P g vs.toArray w R
def SoundM (P : Program) (g : FuncId) (as : List AV) (hp : Heap) (r : AV) (hp' : Heap) (n : Nat) : Prop := SoundK (CM P g) as hp r hp' n
/-- It is a loop's round: the loop's own value, then what it is handed. -/
def CY (P : Program) : World → List Value → (Ending → World → Prop) → Prop := fun w vs R =>
  ∃ l xs fn tmps assign body, vs = .func (.yield l) #[] #[] :: xs ∧ (Instr.yield l xs.toArray).run P w = .ok (.round l fn tmps assign body) w ∧ RoundIn Fence.wide 0 P l fn tmps assign body w R
def SoundY (P : Program) (as : List AV) (hp : Heap) (r : AV) (hp' : Heap) (n : Nat) : Prop := SoundK (CY P) as hp r hp' n
def CGood (C : World → List Value → (Ending → World → Prop) → Prop) : Prop := ∀ (w : World) (vs : List Value) (R R' : Ending → World → Prop), (∀ e w, R e w → R' e w) → C w vs R → C w vs R'
theorem CM.good (P : Program) (g : FuncId) : CGood (CM P g) := fun _ _ _ _ h hc => ⟨hc.1, hc.2.mono h⟩
theorem CY.good (P : Program) : CGood (CY P) := fun _ _ _ _ h ⟨l, xs, fn, tmps, assign, body, h1, h2, h3⟩ => ⟨l, xs, fn, tmps, assign, body, h1, h2, h3.mono h⟩

def subL (l m : List Nat) : Bool := l.all fun k => m.elem k
def passB (q n : Nat) (σ : Nat → Nat) (ks fs : List Nat) (as : List AV) (hpc : Heap) (r : AV) (hp' : Heap) : Bool :=
  ks.all (fun k => Nat.blt k n) && decide ((ks ++ fs).map σ).Nodup && fs.all (fun f => Nat.beq (σ f) q) && subL (kss as) ks && hpc.all (fun p => ks.elem p.1 && subL p.2.ks ks) && subL r.ks (ks ++ fs) && hp'.all (fun p => (ks ++ fs).elem p.1 && subL p.2.ks (ks ++ fs))
theorem subL_mem {l m : List Nat} (h : subL l m = true) : ∀ k ∈ l, k ∈ m := fun k hk => by
  have := List.all_eq_true.1 h k hk
  simpa using this
theorem find_of {σ : Nat → Nat} : ∀ {l : List Nat}, (l.map σ).Nodup → ∀ k ∈ l, l.find? (fun x => σ x == σ k) = some k
  | [], _, k, h => by simp at h
  | x :: l, hn, k, h => by
    simp only [List.map_cons, List.nodup_cons] at hn
    simp only [List.find?_cons]
    rcases List.mem_cons.1 h with rfl | h
    · simp
    · have : ¬ σ x = σ k := fun e => hn.1 (e ▸ List.mem_map_of_mem h)
      have e : (σ x == σ k) = false := beq_eq_false_iff_ne.2 this
      rw [e]
      exact find_of hn.2 k h
theorem find_none {σ : Nat → Nat} {l : List Nat} {j : Nat} (h : ∀ k ∈ l, σ k ≠ j) : l.find? (fun x => σ x == j) = none := by
  rw [List.find?_eq_none]
  intro x hx
  simpa using h x hx
def passE (σ : Nat → Nat) (L : List Nat) (hp' : Heap) : List (Nat × Option HO) := L.map fun k => (σ k, (lk hp' k).map (HO.rn σ))
theorem lk_pass {σ : Nat → Nat} {G : Nat → Option HO} : ∀ {l : List Nat} (hp : Heap), (l.map σ).Nodup → ∀ k ∈ l, lk (eff hp (l.map fun k => (σ k, G k))) (σ k) = G k
  | [], hp, _, k, h => by simp at h
  | x :: l, hp, hn, k, h => by
    simp only [List.map_cons, List.nodup_cons] at hn
    have hne : ∀ hq : Heap, k = x → lk (eff hq (l.map fun k => (σ k, G k))) (σ x) = lk hq (σ x) := fun hq e => lk_eff_other _ _ _ (by
      simp only [keys, List.map_map]
      exact fun hm => hn.1 (by obtain ⟨y, hy, e⟩ := List.mem_map.1 hm; exact List.mem_map.2 ⟨y, hy, e⟩))
    by_cases e : k = x
    · subst e
      simp only [List.map_cons]
      cases hG : G k with
      | none => rw [eff, hne _ rfl, lk_del_same]
      | some o => rw [eff, hne _ rfl, lk_put_same]
    · have hk : k ∈ l := by rcases List.mem_cons.1 h with h | h; exact absurd h e; exact h
      simp only [List.map_cons]
      cases hG : G x with
      | none => exact lk_pass _ hn.2 k hk
      | some o => exact lk_pass _ hn.2 k hk
theorem lk_pass_other {σ : Nat → Nat} {L : List Nat} {hp hp' : Heap} {j : Nat} (h : ∀ k ∈ L, σ k ≠ j) : lk (eff hp (passE σ L hp')) j = lk hp j :=
  lk_eff_other _ _ _ (by
    simp only [passE, keys, List.map_map]
    exact fun hm => by obtain ⟨y, hy, e⟩ := List.mem_map.1 hm; exact h y hy e)
def passν (σ : Nat → Nat) (L : List Nat) (ν ν' : Nat → Value) (j : Nat) : Value := match L.find? (fun x => σ x == j) with | some k => ν' k | none => ν j

theorem call_pass {C : World → List Value → (Ending → World → Prop) → Prop} (hC : CGood C) {X : Ctx} {hp hpc hp' : Heap} {ν : Nat → Value} {used : Nat → Prop} {w : World} {q n : Nat} {σ : Nat → Nat} {ks fs : List Nat} {as : List AV} {r : AV} (hI : HInv X (lk hp) ν used w) (hq : ¬ used q) (hs : SoundK C as hpc r hp' n)
    (hb : passB q n σ ks fs as hpc r hp' = true) (hsub : ∀ k ∈ ks, ∃ o, lk hpc k = some o ∧ lk hp (σ k) = some (o.rn σ)) {vs : List Value} (hl : as.length = vs.length)
    (ha : ∀ (i : Nat) d v, as[i]? = some d → vs[i]? = some v → RepA w (Mut X.M0 (lk hp) ν) (lk hp) ν used (d.rn σ) v) :
    C w vs fun e w' => ∃ v ν', e = .returned v ∧ HInv X (lk (eff hp (passE σ (ks ++ fs) hp'))) ν' (fun k => used k ∨ k = q) w' ∧
      Ext (Mut X.M0 (lk hp) ν) (lk hp) ν used w (Mut X.M0 (lk (eff hp (passE σ (ks ++ fs) hp'))) ν') (lk (eff hp (passE σ (ks ++ fs) hp'))) ν' (fun k => used k ∨ k = q) w' ∧
      RepA w' (Mut X.M0 (lk (eff hp (passE σ (ks ++ fs) hp'))) ν') (lk (eff hp (passE σ (ks ++ fs) hp'))) ν' (fun k => used k ∨ k = q) (r.rn σ) v := by
  simp only [passB, Bool.and_eq_true, decide_eq_true_eq] at hb
  obtain ⟨⟨⟨⟨⟨⟨b1, b2⟩, b3⟩, b4⟩, b5⟩, b6⟩, b7⟩ := hb
  have hlt : ∀ k ∈ ks, k < n := fun k hk => by have := List.all_eq_true.1 b1 k hk; simp [Nat.blt] at this; omega
  have hfs : ∀ f ∈ fs, σ f = q := fun f hf => by have := List.all_eq_true.1 b3 f hf; simpa using this
  have hc : ∀ k o, lk hpc k = some o → k ∈ ks ∧ ∀ k' ∈ o.ks, k' ∈ ks := fun k o ho => by
    have := List.all_eq_true.1 b5 _ (lk_mem ho)
    simp only [Bool.and_eq_true] at this
    exact ⟨by simpa using this.1, subL_mem this.2⟩
  have hc' : ∀ k o, lk hp' k = some o → k ∈ ks ++ fs ∧ ∀ k' ∈ o.ks, k' ∈ ks ++ fs := fun k o ho => by
    have := List.all_eq_true.1 b7 _ (lk_mem ho)
    simp only [Bool.and_eq_true] at this
    exact ⟨by simpa using this.1, subL_mem this.2⟩
  have hfind := find_of b2
  have inj : ∀ k ∈ ks ++ fs, ∀ k' ∈ ks ++ fs, σ k = σ k' → k = k' := fun k hk k' hk' e => by
    have h1 := hfind k hk
    rw [e, hfind k' hk'] at h1
    cases h1; rfl
  have husd : ∀ k ∈ ks, used (σ k) := fun k hk => by obtain ⟨o, _, ho⟩ := hsub k hk; exact hI.usd _ _ ho
  have hsub' : ∀ k o, lk hpc k = some o → lk hp (σ k) = some (o.rn σ) := fun k o ho => by
    obtain ⟨o1, h1, h2⟩ := hsub k (hc k o ho).1
    rw [ho] at h1; cases h1; exact h2
  -- the callee's world
  let R : Nat → Prop := fun b => X.M0 b ∨ ∃ j o, lk hp j = some o ∧ (∀ k ∈ ks, σ k ≠ j) ∧ blockOf (ν j) = some b
  let X' : Ctx := ⟨X.w0, R, 0⟩
  let νc : Nat → Value := fun k => ν (σ k)
  have hMsub : ∀ b, Mut R (lk hpc) νc b → Mut X.M0 (lk hp) ν b := fun b h => by
    rcases h with (h | ⟨j, o, hj, _, hbj⟩) | ⟨k, o, hk, hbk⟩
    · exact .inl h
    · exact .inr ⟨j, o, hj, hbj⟩
    · exact .inr ⟨σ k, _, hsub' k o hk, hbk⟩
  have hOsub : ∀ b, Own (lk hpc) νc b → Own (lk hp) ν b := fun b ⟨k, o, hk, hbk⟩ => ⟨σ k, _, hsub' k o hk, hbk⟩
  have hkc : ∀ k ∈ ks, k < n ∧ νc k = ν (σ k) ∧ ∀ o, lk hpc k = some o → lk hp (σ k) = some (o.rn σ) := fun k hk => ⟨hlt k hk, rfl, hsub' k⟩
  have hIc : HInv X' (lk hpc) νc (· < n) w := by
    refine ⟨hI.below, fun b h => ?_, fun k o b hk hbk h => ?_, fun k o hk => hlt k (hc k o hk).1, fun k o b hk hbk => hI.blk _ _ _ (hsub' k o hk) hbk, fun k k' o o' b hk hk' hb hb' => ?_, fun k o hk => ?_⟩
    · rcases h with h | ⟨j, o, hj, _, hbj⟩
      · exact hI.M0 b h
      · exact (hI.blk _ _ _ hj hbj).2
    · rcases h with h | ⟨j, o', hj, hne, hbj⟩
      · exact hI.far _ _ _ (hsub' k o hk) hbk h
      · exact hne k (hc k o hk).1 (hI.inj _ _ _ _ _ (hsub' k o hk) hj hbk hbj)
    · exact inj k (List.mem_append_left _ (hc k o hk).1) k' (List.mem_append_left _ (hc k' o' hk').1) (hI.inj _ _ _ _ _ (hsub' k o hk) (hsub' k' o' hk') hb hb')
    · have ho := hI.obj _ _ (hsub' k o hk)
      cases o with
      | var cs =>
        obtain ⟨b, cells, e, h1, h2, h3, h4, h5⟩ := ho
        refine ⟨b, cells, e, h1, h2, by rw [h3, rns_length], fun c hcm => ?_, fun i av u hi hu => ?_⟩
        · have := h4 (c.rn σ) (by rw [rns_map]; exact List.mem_map_of_mem hcm)
          rwa [rn_cell] at this
        · exact RepA.pull hMsub av u (h5 i _ u (rns_get' hi) hu) (fun k' hk' => hkc k' ((hc k _ hk).2 k' (kss_mem hi k' hk')))
      | row e sz xs =>
        obtain ⟨vals, h1, h2, h3, h4⟩ := ho
        exact ⟨vals, h1, h2, h3, h4.mono (Same.refl _ _) (fun b _ h => hMsub b h)⟩
      | map kt et es =>
        obtain ⟨r0, ents, h1, h2, h3, h4⟩ := ho
        exact ⟨r0, ents, h1, h2, h3, fun i kd vd en q1 q2 => let ⟨x, y, z⟩ := h4 i kd vd en q1 q2; ⟨x, y.mono (Same.refl _ _) (fun b _ h => hMsub b h), z.mono (Same.refl _ _) (fun b _ h => hMsub b h)⟩⟩
      | iter m c seen =>
        obtain ⟨b, mr, h1, h2, h3, h4⟩ := ho
        have hm := (hc k _ hk).2 m (by simp [HO.ks])
        refine ⟨b, mr, h1, h2, hlt m hm, fun o ho' => ?_⟩
        obtain ⟨kt, et, es, e1, e2⟩ := h4 _ (hsub' m o ho')
        cases o <;> simp [HO.rn] at e1
        exact ⟨_, _, _, rfl, e2⟩
      | loop Y cs st =>
        obtain ⟨l, lr, h1, h2, h3, h4, h5, h6⟩ := ho
        exact ⟨l, lr, h1, h2, h3, h4, by rw [← h5, rns_length], fun i av u hi hu => RepA.pull hMsub av u (h6 i _ u (rns_get' hi) hu) (fun k' hk' => hkc k' ((hc k _ hk).2 k' (kss_mem hi k' hk')))⟩
  refine hC _ _ _ _ ?_ (hs X' νc w vs hIc hl (fun i d v hd hv => RepA.pull hMsub d v (ha i d v hd hv) (fun k hk => hkc k (subL_mem b4 k (kss_mem hd k hk)))))
  rintro e w' ⟨v, ν', c, rfl, hI', hx, hr⟩
  have hcan : ∀ k ∈ ks ++ fs, lk (eff hp (passE σ (ks ++ fs) hp')) (σ k) = (lk hp' k).map (HO.rn σ) := fun k hk => lk_pass hp b2 k hk
  have hν : ∀ k ∈ ks ++ fs, passν σ (ks ++ fs) ν ν' (σ k) = ν' k := fun k hk => by simp only [passν, hfind k hk]
  have hνo : ∀ j, (∀ k ∈ ks ++ fs, σ k ≠ j) → passν σ (ks ++ fs) ν ν' j = ν j := fun j hj => by simp only [passν, find_none hj]
  have split : ∀ j, (∃ k ∈ ks ++ fs, σ k = j) ∨ ∀ k ∈ ks ++ fs, σ k ≠ j := fun j => by
    by_cases h : ∃ k ∈ ks ++ fs, σ k = j
    · exact .inl h
    · exact .inr fun k hk e => h ⟨k, hk, e⟩
  have hget : ∀ k ∈ ks ++ fs, ∀ o, lk (eff hp (passE σ (ks ++ fs) hp')) (σ k) = some o → ∃ o', lk hp' k = some o' ∧ o = o'.rn σ := fun k hk o ho => by
    rw [hcan k hk] at ho
    cases h : lk hp' k with
    | none => rw [h] at ho; cases ho
    | some o' => rw [h] at ho; cases ho; exact ⟨o', rfl, rfl⟩
  have hrest : ∀ j o b, (∀ k ∈ ks ++ fs, σ k ≠ j) → lk hp j = some o → blockOf (ν j) = some b → R b := fun j o b hj ho hbj => .inr ⟨j, o, ho, fun k hk => hj k (List.mem_append_left _ hk), hbj⟩
  have hM' : ∀ b, Mut X.M0 (lk (eff hp (passE σ (ks ++ fs) hp'))) (passν σ (ks ++ fs) ν ν') b → Mut R (lk hp') ν' b := fun b h => by
    rcases h with h | ⟨j, o, hj, hbj⟩
    · exact .inl (.inl h)
    · rcases split j with ⟨k, hk, rfl⟩ | hne
      · rw [hν k hk] at hbj
        obtain ⟨o', ho', _⟩ := hget k hk o hj
        exact .inr ⟨k, o', ho', hbj⟩
      · rw [lk_pass_other hne] at hj
        rw [hνo j hne] at hbj
        exact .inl (hrest j o b hne hj hbj)
  have hused : ∀ k ∈ ks ++ fs, used (σ k) ∨ σ k = q := fun k hk => by
    rcases List.mem_append.1 hk with h | h
    · exact .inl (husd k h)
    · exact .inr (hfs k h)
  have hpush : ∀ k ∈ ks ++ fs, (used (σ k) ∨ σ k = q) ∧ passν σ (ks ++ fs) ν ν' (σ k) = ν' k ∧ ∀ o', lk (eff hp (passE σ (ks ++ fs) hp')) (σ k) = some o' → ∃ o, lk hp' k = some o ∧ o' = o.rn σ :=
    fun k hk => ⟨hused k hk, hν k hk, hget k hk⟩
  have hxx : Ext (Mut X.M0 (lk hp) ν) (lk hp) ν used w (Mut X.M0 (lk (eff hp (passE σ (ks ++ fs) hp'))) (passν σ (ks ++ fs) ν ν')) (lk (eff hp (passE σ (ks ++ fs) hp'))) (passν σ (ks ++ fs) ν ν') (fun k => used k ∨ k = q) w' := by
    refine ⟨⟨hx.same.size, fun b hb hM => hx.same.block b hb (fun h => hM (hMsub b h))⟩, fun b hb h => ?_, fun k h => .inl h, fun j hj o ho => ?_, ⟨hx.sameO.size, fun b hb hM => hx.sameO.block b hb (fun h => hM (hOsub b h))⟩, fun b hb h => ?_⟩
    · exact hMsub b (hx.shrink b hb (hM' b h))
    · rcases split j with ⟨k, hk, rfl⟩ | hne
      · rcases List.mem_append.1 hk with h | h
        · obtain ⟨o', ho', rfl⟩ := hget k hk o ho
          obtain ⟨o1, h1, h2, h3⟩ := hx.obj k (hlt k h) o' ho'
          exact ⟨_, hsub' k o1 h1, HO.rn_later h2, fun hst => by rw [hν k hk]; exact h3 (HO.rn_still hst)⟩
        · exact absurd (hfs k h ▸ hj) hq
      · rw [lk_pass_other hne] at ho
        exact ⟨o, ho, by cases o <;> simp [HO.later], fun _ => hνo j hne⟩
    · obtain ⟨j, o, hj, hbj⟩ := h
      rcases split j with ⟨k, hk, rfl⟩ | hne
      · rw [hν k hk] at hbj
        obtain ⟨o', ho', _⟩ := hget k hk o hj
        exact hOsub b (hx.shrinkO b hb ⟨k, o', ho', hbj⟩)
      · rw [lk_pass_other hne] at hj
        rw [hνo j hne] at hbj
        exact ⟨j, o, hj, hbj⟩
  refine ⟨v, passν σ (ks ++ fs) ν ν', rfl, ⟨hI'.below, fun b h => Nat.lt_of_lt_of_le (hI.M0 b h) hx.same.size, fun j o b hj hbj => ?_, fun j o hj => ?_, fun j o b hj hbj => ?_, fun j j' o o' b hj hj' hb hb' => ?_, fun j o hj => ?_⟩, hxx, hr.push hM' (fun k hk => hpush k (subL_mem b6 k hk))⟩
  · rcases split j with ⟨k, hk, rfl⟩ | hne
    · rw [hν k hk] at hbj
      obtain ⟨o', ho', _⟩ := hget k hk o hj
      exact fun h => hI'.far _ _ _ ho' hbj (.inl h)
    · rw [lk_pass_other hne] at hj
      rw [hνo j hne] at hbj
      exact hI.far _ _ _ hj hbj
  · rcases split j with ⟨k, hk, rfl⟩ | hne
    · exact hused k hk
    · rw [lk_pass_other hne] at hj
      exact .inl (hI.usd _ _ hj)
  · rcases split j with ⟨k, hk, rfl⟩ | hne
    · rw [hν k hk] at hbj
      obtain ⟨o', ho', _⟩ := hget k hk o hj
      exact hI'.blk _ _ _ ho' hbj
    · rw [lk_pass_other hne] at hj
      rw [hνo j hne] at hbj
      have := hI.blk _ _ _ hj hbj
      exact ⟨this.1, Nat.lt_of_lt_of_le this.2 hx.same.size⟩
  · rcases split j with ⟨k, hk, rfl⟩ | hne
    · rw [hν k hk] at hb
      obtain ⟨o1, ho1, _⟩ := hget k hk o hj
      rcases split j' with ⟨k', hk', rfl⟩ | hne'
      · rw [hν k' hk'] at hb'
        obtain ⟨o2, ho2, _⟩ := hget k' hk' o' hj'
        rw [hI'.inj _ _ _ _ _ ho1 ho2 hb hb']
      · rw [lk_pass_other hne'] at hj'
        rw [hνo j' hne'] at hb'
        exact absurd (hrest j' o' b hne' hj' hb') (hI'.far _ _ _ ho1 hb)
    · rw [lk_pass_other hne] at hj
      rw [hνo j hne] at hb
      rcases split j' with ⟨k', hk', rfl⟩ | hne'
      · rw [hν k' hk'] at hb'
        obtain ⟨o2, ho2, _⟩ := hget k' hk' o' hj'
        exact absurd (hrest j o b hne hj hb) (hI'.far _ _ _ ho2 hb')
      · rw [lk_pass_other hne'] at hj'
        rw [hνo j' hne'] at hb'
        exact hI.inj _ _ _ _ _ hj hj' hb hb'
  · rcases split j with ⟨k, hk, rfl⟩ | hne
    · obtain ⟨o', ho', rfl⟩ := hget k hk o hj
      rw [hν k hk]
      have hob := hI'.obj _ _ ho'
      cases o' with
      | var cs =>
        obtain ⟨b, cells, e, h1, h2, h3, h4, h5⟩ := hob
        refine ⟨b, cells, e, h1, h2, by rw [h3, rns_length], fun c hcm => ?_, fun i av u hi hu => ?_⟩
        · rw [rns_map] at hcm
          obtain ⟨a, ha', rfl⟩ := List.mem_map.1 hcm
          rw [rn_cell]; exact h4 a ha'
        · obtain ⟨a, ha', rfl⟩ := rns_get hi
          exact (h5 i a u ha' hu).push hM' (fun k' hk' => hpush k' ((hc' k _ ho').2 k' (kss_mem ha' k' hk')))
      | row e sz xs =>
        obtain ⟨vals, h1, h2, h3, h4⟩ := hob
        exact ⟨vals, h1, h2, h3, h4.mono (Same.refl _ _) (fun b _ h => hM' b h)⟩
      | map kt et es =>
        obtain ⟨r0, ents, h1, h2, h3, h4⟩ := hob
        exact ⟨r0, ents, h1, h2, h3, fun i kd vd en q1 q2 => let ⟨x, y, z⟩ := h4 i kd vd en q1 q2; ⟨x, y.mono (Same.refl _ _) (fun b _ h => hM' b h), z.mono (Same.refl _ _) (fun b _ h => hM' b h)⟩⟩
      | iter m c seen =>
        obtain ⟨b, mr, h1, h2, h3, h4⟩ := hob
        obtain ⟨g1, g2, g3⟩ := hpush m ((hc' k _ ho').2 m (by simp [HO.ks]))
        refine ⟨b, mr, h1, h2, g1, fun o ho2 => ?_⟩
        obtain ⟨o1, hoo, rfl⟩ := g3 o ho2
        obtain ⟨kt, et, es, rfl, hn⟩ := h4 o1 hoo
        exact ⟨kt, et, es, rfl, by rw [g2]; exact hn⟩
      | loop Y cs st =>
        obtain ⟨l, lr, h1, h2, h3, h4, h5, h6⟩ := hob
        refine ⟨l, lr, h1, h2, h3, h4, by rw [← h5, rns_length], fun i av u hi hu => ?_⟩
        obtain ⟨a, ha', rfl⟩ := rns_get hi
        exact (h6 i a u ha' hu).push hM' (fun k' hk' => hpush k' ((hc' k _ ho').2 k' (kss_mem ha' k' hk')))
    · rw [lk_pass_other hne] at hj
      rw [hνo j hne]
      refine (hI.obj _ _ hj).ext hxx (fun b hbj => ?_)
      refine hx.sameO.block b (hI.blk _ _ _ hj hbj).2 (fun ⟨k, o', hk, hbk⟩ => ?_)
      exact hne k (List.mem_append_left _ (hc k o' hk).1) (hI.inj _ _ _ _ _ (hsub' k o' hk) hj hbk hbj)
end Go.Eng

/- The engine, part 20: keys renamed. -/
import Derived.Test.YtlaekicahpplbabG10
import Derived.Orders
set_option linter.unusedVariables false
set_option linter.unusedSimpArgs false
namespace Go.Eng
open Go.RowKit

theorem lk_mem {α : Type} : ∀ {l : List (Nat × α)} {n : Nat} {a : α}, lk l n = some a → (n, a) ∈ l
  | [], _, _, h => by simp [lk] at h
  | (m, b) :: l, n, a, h => by
    simp only [lk] at h
    split at h
    · rename_i e; subst e; cases h; simp
    · simp [lk_mem h]
def keys (es : List (Nat × Option HO)) : List Nat := es.map (·.1)
theorem lk_eff_other : ∀ (es : List (Nat × Option HO)) (hp : Heap) (k : Nat), k ∉ keys es → lk (eff hp es) k = lk hp k
  | [], _, _, _ => rfl
  | (q, o) :: es, hp, k, h => by
    simp [keys] at h
    have hr := lk_eff_other es
    cases o with
    | none => rw [eff, hr _ k (by simp [keys]; exact h.2), lk_del_other _ _ _ h.1]
    | some o => rw [eff, hr _ k (by simp [keys]; exact h.2), lk_put_other _ _ _ _ h.1]

mutual
def AV.rn (σ : Nat → Nat) : AV → AV
  | .own k n => .own (σ k) n | .ref k o => .ref (σ k) o | .eref k n i s o => .eref (σ k) n i s o | .map k => .map (σ k) | .it k => .it (σ k) | .yld k => .yld (σ k) | .vs k o n => .vs (σ k) o n
  | .agg fs => .agg (rns σ fs) | .tup fs => .tup (rns σ fs) | .fn f fs => .fn f (rns σ fs)
  | .undef => .undef | .d x => .d x | .clip s x => .clip s x | .dref f => .dref f
def rns (σ : Nat → Nat) : List AV → List AV
  | [] => []
  | a :: as => a.rn σ :: rns σ as
end
mutual
def AV.ks : AV → List Nat
  | .own k _ => [k] | .ref k _ => [k] | .eref k _ _ _ _ => [k] | .map k => [k] | .it k => [k] | .yld k => [k] | .vs k _ _ => [k]
  | .agg fs => kss fs | .tup fs => kss fs | .fn _ fs => kss fs
  | .undef => [] | .d _ => [] | .clip .. => [] | .dref _ => []
def kss : List AV → List Nat
  | [] => []
  | a :: as => a.ks ++ kss as
end
def HO.rn (σ : Nat → Nat) : HO → HO
  | .var cs => .var (rns σ cs)
  | .row e sz xs => .row e sz xs
  | .map a b c => .map a b c
  | .iter m c s => .iter (σ m) c s
  | .loop Y cs st => .loop Y (rns σ cs) st
def HO.ks : HO → List Nat
  | .var cs => kss cs
  | .row .. => []
  | .map .. => []
  | .iter m _ _ => [m]
  | .loop _ cs _ => kss cs
theorem rns_get {σ : Nat → Nat} : ∀ {l : List AV} {i : Nat} {a : AV}, (rns σ l)[i]? = some a → ∃ b, l[i]? = some b ∧ a = b.rn σ
  | [], i, a, h => by simp [rns] at h
  | x :: l, 0, a, h => by simp [rns] at h; exact ⟨x, rfl, h.symm⟩
  | x :: l, i + 1, a, h => by simp [rns] at h; simpa using rns_get h
theorem rns_get' {σ : Nat → Nat} : ∀ {l : List AV} {i : Nat} {b : AV}, l[i]? = some b → (rns σ l)[i]? = some (b.rn σ)
  | [], i, a, h => by simp at h
  | x :: l, 0, a, h => by simp at h; subst h; rfl
  | x :: l, i + 1, a, h => by simp at h; simpa [rns] using rns_get' h
theorem rns_length {σ : Nat → Nat} : ∀ l : List AV, (rns σ l).length = l.length
  | [] => rfl
  | x :: l => by simp [rns, rns_length l]
theorem rns_map {σ : Nat → Nat} : ∀ l : List AV, rns σ l = l.map (AV.rn σ)
  | [] => rfl
  | x :: l => by simp [rns, rns_map l]
theorem kss_mem : ∀ {l : List AV} {i : Nat} {a : AV}, l[i]? = some a → ∀ k ∈ a.ks, k ∈ kss l
  | [], i, a, h => by simp at h
  | x :: l, 0, a, h => by simp at h; subst h; intro k hk; simp [kss, hk]
  | x :: l, i + 1, a, h => by
    simp at h
    intro k hk
    have := kss_mem h k hk
    simp [kss, this]
theorem rn_cell {σ : Nat → Nat} (a : AV) : (a.rn σ).cell = a.cell := by
  cases a <;> simp [AV.rn, AV.cell]
theorem HO.rn_later {σ : Nat → Nat} {o o' : HO} (h : o.later o') : (o.rn σ).later (o'.rn σ) := by
  cases o <;> cases o' <;> simp_all [HO.later, HO.rn, rns_length]
theorem HO.rn_still {σ : Nat → Nat} {o o' : HO} (h : (o.rn σ).still (o'.rn σ)) : o.still o' := by
  cases o <;> cases o' <;> simp_all [HO.still, HO.rn]

section
variable {w : World} {M M' : Nat → Prop} {H H' : Nat → Option HO} {ν ν' : Nat → Value} {used used' : Nat → Prop} {σ : Nat → Nat}
/-- Told by its keys' new names. -/
theorem RepA.push {av : AV} {v : Value} (h : RepA w M H ν used av v) (hM : ∀ b, M' b → M b) (hk : ∀ k ∈ av.ks, used' (σ k) ∧ ν' (σ k) = ν k ∧ ∀ o', H' (σ k) = some o' → ∃ o, H k = some o ∧ o' = o.rn σ) : RepA w M' H' ν' used' (av.rn σ) v := by
  induction h with
  | undef v => exact .undef v
  | d h => exact .d (h.mono (Same.refl _ _) (fun b _ h => hM b h))
  | @agg fs cs hl hc _ ih =>
    refine .agg (by rw [rns_length]; exact hl) (fun d hd => ?_) (fun i d u hd hu => ?_)
    · rw [rns_map] at hd
      obtain ⟨a, ha, rfl⟩ := List.mem_map.1 hd
      rw [rn_cell]; exact hc a ha
    · obtain ⟨b, hb, rfl⟩ := rns_get hd
      exact ih i b u hb hu (fun k hk' => hk k (kss_mem hb k hk'))
  | @tup fs cs hl _ ih =>
    refine .tup (by rw [rns_length]; exact hl) (fun i d u hd hu => ?_)
    obtain ⟨b, hb, rfl⟩ := rns_get hd
    exact ih i b u hb hu (fun k hk' => hk k (kss_mem hb k hk'))
  | @own k n c a v hu h1 hc ha h =>
    obtain ⟨g1, g2, g3⟩ := hk k (by simp [AV.ks])
    refine .own g1 h1 hc ha fun o' ho' => ?_
    obtain ⟨o, ho, rfl⟩ := g3 o' ho'
    obtain ⟨e, sz, xs, rfl, hn, hv⟩ := h o ho
    exact ⟨e, sz, xs, rfl, hn, fun hh => by rw [g2]; exact hv hh⟩
  | clip h => exact .clip (h.mono (Same.refl _ _) (fun b _ h => hM b h))
  | @ref k off a hu h =>
    obtain ⟨g1, g2, g3⟩ := hk k (by simp [AV.ks])
    refine .ref g1 fun o' ho' => ?_
    obtain ⟨o, ho, rfl⟩ := g3 o' ho'
    obtain ⟨cs, b, rfl, hn, hv⟩ := h o ho
    exact ⟨_, b, rfl, by rw [g2]; exact hn, hv⟩
  | @eref k n i sz off a hu hi hoff h =>
    obtain ⟨g1, g2, g3⟩ := hk k (by simp [AV.ks])
    refine .eref g1 hi hoff fun o' ho' => ?_
    obtain ⟨o, ho, rfl⟩ := g3 o' ho'
    obtain ⟨e, sz', xs, rfl, hn, hv⟩ := h o ho
    exact ⟨e, sz', xs, rfl, hn, fun hh => by rw [g2]; exact hv hh⟩
  | dref val hb hM' hc h1 h2 => exact .dref val hb (fun h => hM' (hM _ h)) hc h1 (fun j d hd => (h2 j d hd).mono (Same.refl _ _) (fun b _ h => hM b h))
  | @fn f caps cs hl _ ih =>
    refine .fn (by rw [rns_length]; exact hl) (fun i d u hd hu => ?_)
    obtain ⟨b, hb, rfl⟩ := rns_get hd
    exact ih i b u hb hu (fun k hk' => hk k (kss_mem hb k hk'))
  | @yld k l hu h =>
    obtain ⟨g1, g2, g3⟩ := hk k (by simp [AV.ks])
    refine .yld g1 fun o' ho' => ?_
    obtain ⟨o, ho, rfl⟩ := g3 o' ho'
    obtain ⟨Y, cs, st, rfl, hn⟩ := h o ho
    exact ⟨Y, _, st, rfl, by rw [g2]; exact hn⟩
  | @map k r hu h =>
    obtain ⟨g1, g2, g3⟩ := hk k (by simp [AV.ks])
    refine .map g1 fun o' ho' => ?_
    obtain ⟨o, ho, rfl⟩ := g3 o' ho'
    obtain ⟨kt, et, es, rfl, hn⟩ := h o ho
    exact ⟨kt, et, es, rfl, by rw [g2]; exact hn⟩
  | @it k a hu h =>
    obtain ⟨g1, g2, g3⟩ := hk k (by simp [AV.ks])
    refine .it g1 fun o' ho' => ?_
    obtain ⟨o, ho, rfl⟩ := g3 o' ho'
    obtain ⟨m, c, seen, b, rfl, hn, hv⟩ := h o ho
    exact ⟨σ m, c, seen, b, rfl, by rw [g2]; exact hn, hv⟩
  | @vs k off n c a hu hc h =>
    obtain ⟨g1, g2, g3⟩ := hk k (by simp [AV.ks])
    refine .vs g1 hc fun o' ho' => ?_
    obtain ⟨o, ho, rfl⟩ := g3 o' ho'
    obtain ⟨cs, b, rfl, hn, hv, hle⟩ := h o ho
    exact ⟨_, b, rfl, by rw [g2]; exact hn, hv, by rw [rns_length]; exact hle⟩
mutual
/-- Told by its keys' old names. -/
theorem RepA.pull (hM : ∀ b, M' b → M b) : ∀ (av : AV) (v : Value), RepA w M H ν used (av.rn σ) v → (∀ k ∈ av.ks, used' k ∧ ν' k = ν (σ k) ∧ ∀ o, H' k = some o → H (σ k) = some (o.rn σ)) → RepA w M' H' ν' used' av v
  | .undef, v, h, hk => .undef v
  | .d x, v, h, hk => by cases h with | d h => exact .d (h.mono (Same.refl _ _) (fun b _ h => hM b h))
  | .clip s x, v, h, hk => by cases h with | clip h => exact .clip (h.mono (Same.refl _ _) (fun b _ h => hM b h))
  | .dref f, v, h, hk => by cases h with | dref val hb hM' hc h1 h2 => exact .dref val hb (fun h => hM' (hM _ h)) hc h1 (fun j d hd => (h2 j d hd).mono (Same.refl _ _) (fun b _ h => hM b h))
  | .agg fs, v, h, hk => by
    cases h with
    | agg hl hc h =>
      refine .agg (by rw [rns_length] at hl; exact hl) (fun d hd => ?_) (RepA.pulls hM fs _ h hk)
      have := hc (d.rn σ) (by rw [rns_map]; exact List.mem_map_of_mem hd)
      rwa [rn_cell] at this
  | .tup fs, v, h, hk => by
    cases h with
    | tup hl h => exact .tup (by rw [rns_length] at hl; exact hl) (RepA.pulls hM fs _ h hk)
  | .fn f fs, v, h, hk => by
    cases h with
    | fn hl h => exact .fn (by rw [rns_length] at hl; exact hl) (RepA.pulls hM fs _ h hk)
  | .yld k, v, h, hk => by
    obtain ⟨g1, g2, g3⟩ := hk k (by simp [AV.ks])
    cases h with
    | yld hu h =>
      refine .yld g1 fun o ho => ?_
      obtain ⟨Y, cs, st, ho', hn⟩ := h _ (g3 o ho)
      cases o <;> simp [HO.rn] at ho'
      exact ⟨_, _, _, rfl, by rw [g2]; exact hn⟩
  | .own k n, v, h, hk => by
    obtain ⟨g1, g2, g3⟩ := hk k (by simp [AV.ks])
    cases h with
    | own hu h1 hc ha h =>
      refine .own g1 h1 hc ha fun o ho => ?_
      obtain ⟨e, sz, xs, ho', hn, hv⟩ := h _ (g3 o ho)
      cases o <;> simp [HO.rn] at ho'
      obtain ⟨rfl, rfl, rfl⟩ := ho'
      exact ⟨_, _, _, rfl, hn, fun hh => by rw [g2]; exact hv hh⟩
  | .ref k o, v, h, hk => by
    obtain ⟨g1, g2, g3⟩ := hk k (by simp [AV.ks])
    cases h with
    | ref hu h =>
      refine .ref g1 fun o ho => ?_
      obtain ⟨cs, b, ho', hn, hv⟩ := h _ (g3 o ho)
      cases o <;> simp [HO.rn] at ho'
      exact ⟨_, b, rfl, by rw [g2]; exact hn, hv⟩
  | .eref k n i s o, v, h, hk => by
    obtain ⟨g1, g2, g3⟩ := hk k (by simp [AV.ks])
    cases h with
    | eref hu hi hoff h =>
      refine .eref g1 hi hoff fun o ho => ?_
      obtain ⟨e, sz, xs, ho', hn, hv⟩ := h _ (g3 o ho)
      cases o <;> simp [HO.rn] at ho'
      obtain ⟨rfl, rfl, rfl⟩ := ho'
      exact ⟨_, _, _, rfl, hn, fun hh => by rw [g2]; exact hv hh⟩
  | .map k, v, h, hk => by
    obtain ⟨g1, g2, g3⟩ := hk k (by simp [AV.ks])
    cases h with
    | map hu h =>
      refine .map g1 fun o ho => ?_
      obtain ⟨kt, et, es, ho', hn⟩ := h _ (g3 o ho)
      cases o <;> simp [HO.rn] at ho'
      obtain ⟨rfl, rfl, rfl⟩ := ho'
      exact ⟨_, _, _, rfl, by rw [g2]; exact hn⟩
  | .it k, v, h, hk => by
    obtain ⟨g1, g2, g3⟩ := hk k (by simp [AV.ks])
    cases h with
    | it hu h =>
      refine .it g1 fun o ho => ?_
      obtain ⟨m, c, seen, b, ho', hn, hv⟩ := h _ (g3 o ho)
      cases o <;> simp [HO.rn] at ho'
      exact ⟨_, _, _, b, rfl, by rw [g2]; exact hn, hv⟩
  | .vs k off n, v, h, hk => by
    obtain ⟨g1, g2, g3⟩ := hk k (by simp [AV.ks])
    cases h with
    | vs hu hc h =>
      refine .vs g1 hc fun o ho => ?_
      obtain ⟨cs, b, ho', hn, hv, hle⟩ := h _ (g3 o ho)
      cases o <;> simp [HO.rn] at ho'
      subst ho'
      exact ⟨_, b, rfl, by rw [g2]; exact hn, hv, by rw [rns_length] at hle; exact hle⟩
theorem RepA.pulls (hM : ∀ b, M' b → M b) : ∀ (fs : List AV) (cs : List Value), (∀ (i : Nat) d v, (rns σ fs)[i]? = some d → cs[i]? = some v → RepA w M H ν used d v) → (∀ k ∈ kss fs, used' k ∧ ν' k = ν (σ k) ∧ ∀ o, H' k = some o → H (σ k) = some (o.rn σ)) →
    ∀ (i : Nat) d v, fs[i]? = some d → cs[i]? = some v → RepA w M' H' ν' used' d v
  | [], cs, h, hk, i, dd, v, hd, hv => by simp at hd
  | a :: as, cs, h, hk, i, dd, v, hd, hv => by
    cases i with
    | zero =>
      simp at hd
      subst hd
      exact RepA.pull hM a v (h 0 _ v rfl hv) (fun k hk' => hk k (by simp [kss, hk']))
    | succ i =>
      cases cs with
      | nil => simp at hv
      | cons u cs => exact RepA.pulls hM as cs (fun j d v h1 h2 => h (j + 1) d v (by simpa [rns] using h1) (by simpa using h2)) (fun k hk' => hk k (by simp [kss, hk'])) i dd v (by simpa using hd) (by simpa using hv)
end
end
end Go.Eng

/- The engine, part 12: regions, in the text's order and in any. -/
import Derived.Test.YtlaekicahpplbabG11
import Derived.Tactics
import Derived.Still
set_option linter.unusedVariables false
set_option linter.unusedSimpArgs false
namespace Go.Eng
open Go.RowKit

inductive Ev (P : Program) (ops : Array Oper) (c : Nat) : Nat → List Oper → Env → Heap → List Out → Env → Heap → Prop where
  | nil {i : Nat} {E : Env} {hp : Heap} : Ev P ops c i [] E hp [] E hp
  | cons {i : Nat} {o : Oper} {os : List Oper} {E E' : Env} {hp hp' : Heap} {out : Out} {outs : List Out} (h : OpEv P ops (c + i) o E hp out) (t : Ev P ops c (i + 1) os (setE E o.dst out.v) (eff hp out.es) outs E' hp') :
      Ev P ops c i (o :: os) E hp (out :: outs) E' hp'
def dstOk (N : Nat) (ops : List Oper) : Bool := ops.all fun o => match o.dst with | some d => decide (d < N) | none => true

section
variable {P : Program} {X : Ctx} {N : Nat}
theorem dstOk_mem {ops : List Oper} (h : dstOk N ops = true) {o : Oper} (ho : o ∈ ops) : ∀ t, o.dst = some t → t < N := by
  intro t ht
  have := List.all_eq_true.1 h o ho
  simpa [ht] using this
theorem EInv.usedEq {E : Env} {H : Nat → Option HO} {ν : Nat → Value} {u u' : Nat → Prop} {a : Act} {w : World} (h : EInv X N E H ν u a w) (e : ∀ k, u k ↔ u' k) : EInv X N E H ν u' a w := by
  have : u = u' := funext fun k => propext (e k)
  exact this ▸ h
theorem Ev.list {ops : Array Oper} {c : Nat} {Q : Exit → Act → World → Prop} {rd : Option Nat} : ∀ (l : List Oper) (i : Nat) (E : Env) (hp : Heap) (outs : List Out) (E' : Env) (hp' : Heap) (ν : Nat → Value) (a : Act) (w : World), dstOk N l = true →
    EInv X N E (lk hp) ν (· < c + i) a w → Ev P ops c i l E hp outs E' hp' →
    (∀ a' w' ν', EInv X N E' (lk hp') ν' (· < c + i + l.length) a' w' → Ext (Mut X.M0 (lk hp) ν) (lk hp) ν (· < c + i) w (Mut X.M0 (lk hp') ν') (lk hp') ν' (· < c + i + l.length) w' → Q .normal a' w') → wpListIn (FR rd) 0 P ops Q l a w
  | [], i, E, hp, outs, E', hp', ν, a, w, hd, hI, he, hQ => by
    cases he
    exact hQ a w ν (by simpa using hI) (by simpa using Ext.refl _ _ _ _ _)
  | o :: l, i, E, hp, outs, E', hp', ν, a, w, hd, hI, he, hQ => by
    cases he with
    | cons ho ht =>
      have hd' := dstOk_mem hd (List.mem_cons_self (a := o) (l := l))
      have hdl : dstOk N l = true := by simp only [dstOk, List.all_cons, Bool.and_eq_true] at hd; exact hd.2
      have ee : ∀ k, (k < c + i ∨ k = c + i) ↔ k < c + (i + 1) := fun k => by omega
      have efun : (fun k => k < c + i ∨ k = c + i) = (fun k => k < c + (i + 1)) := funext fun k => propext (ee k)
      have hs := ho.sound (K := wpListIn (FR rd) 0 P ops Q l) (Q := Q) (rd := rd) hI (by omega) hd' (fun a' w' ν' hI' hx => by
        rw [efun] at hx
        refine Ev.list l (i + 1) _ _ _ E' hp' ν' a' w' hdl (hI'.usedEq ee) ht (fun a2 w2 ν2 hI2 hx2 => ?_)
        have e2 : ∀ k, (k < c + (i + 1) + l.length) ↔ k < c + i + (o :: l).length := fun k => by simp only [List.length_cons]; omega
        have e2f : (fun k => k < c + (i + 1) + l.length) = (fun k => k < c + i + (o :: l).length) := funext fun k => propext (e2 k)
        have hx3 := hx.trans hx2
        rw [e2f] at hx3
        exact hQ a2 w2 ν2 (hI2.usedEq e2) hx3)
      unfold wpListIn
      split
      · rename_i hw; rw [if_pos hw] at hs; exact hs
      · rename_i hw; rw [if_neg hw] at hs; exact hs

/-! ### Any order -/
theorem lk_eff_congr : ∀ (es : List (Nat × Option HO)) (hp hp' : Heap) (k : Nat), lk hp k = lk hp' k → lk (eff hp es) k = lk (eff hp' es) k
  | [], _, _, _, h => h
  | (q, o) :: es, hp, hp', k, h => by
    cases o with
    | none =>
      refine lk_eff_congr es _ _ k ?_
      by_cases e : k = q
      · subst e; rw [lk_del_same, lk_del_same]
      · rw [lk_del_other _ _ _ e, lk_del_other _ _ _ e, h]
    | some o =>
      refine lk_eff_congr es _ _ k ?_
      by_cases e : k = q
      · subst e; rw [lk_put_same, lk_put_same]
      · rw [lk_put_other _ _ _ _ e, lk_put_other _ _ _ _ e, h]
theorem lk_eff_mem : ∀ (es : List (Nat × Option HO)) (hp hp' : Heap) (k : Nat), k ∈ keys es → lk (eff hp es) k = lk (eff hp' es) k
  | [], _, _, _, h => by simp [keys] at h
  | (q, o) :: es, hp, hp', k, h => by
    by_cases hm : k ∈ keys es
    · cases o with
      | none => exact lk_eff_mem es _ _ k hm
      | some o => exact lk_eff_mem es _ _ k hm
    · have e : k = q := by simp [keys] at h hm; rcases h with h | ⟨x, h⟩; exact h; exact absurd h (hm x)
      subst e
      cases o with
      | none => rw [eff, eff, lk_eff_other _ _ _ hm, lk_eff_other _ _ _ hm, lk_del_same, lk_del_same]
      | some o => rw [eff, eff, lk_eff_other _ _ _ hm, lk_eff_other _ _ _ hm, lk_put_same, lk_put_same]

/-- What stands once those of S have come up. -/
def foldS (S : Nat → Bool) : Nat → List Out → Env → Heap → Env × Heap
  | _, [], E, hp => (E, hp)
  | i, o :: outs, E, hp => if S i then foldS S (i + 1) outs (setE E o.dst o.v) (eff hp o.es) else foldS S (i + 1) outs E hp
theorem lk_setE_other {E : Env} {d : Option Nat} {v : AV} {t : Nat} (h : d ≠ some t) : lk (setE E d v) t = lk E t := by
  cases d with
  | none => rfl
  | some d => simp only [setE, lk]; rw [if_neg (fun e => h (by rw [e]))]
theorem lk_setE_same {E : Env} {v : AV} {t : Nat} : lk (setE E (some t) v) t = some v := by simp [setE, lk]
theorem lk_setE_congr {E E' : Env} {d : Option Nat} {v : AV} {t : Nat} (h : lk E t = lk E' t) : lk (setE E d v) t = lk (setE E' d v) t := by
  cases d with
  | none => exact h
  | some d => simp only [setE, lk, h]
theorem foldS_env {S S' : Nat → Bool} {t : Nat} : ∀ (outs : List Out) (i : Nat) (E E1 : Env) (hp hp1 : Heap), lk E t = lk E1 t → (∀ (j : Nat) o, outs[j]? = some o → o.dst = some t → S (i + j) = S' (i + j)) →
    lk (foldS S i outs E hp).1 t = lk (foldS S' i outs E1 hp1).1 t
  | [], _, _, _, _, _, h, _ => h
  | o :: outs, i, E, E1, hp, hp1, h, hj => by
    have hrest : ∀ (j : Nat) o', outs[j]? = some o' → o'.dst = some t → S (i + 1 + j) = S' (i + 1 + j) := fun j o' h1 h2 => by
      have := hj (j + 1) o' (by simpa using h1) h2
      rwa [show i + (j + 1) = i + 1 + j from by omega] at this
    by_cases hd : o.dst = some t
    · have := hj 0 o rfl hd
      simp only [Nat.add_zero] at this
      simp only [foldS, this]
      split
      · exact foldS_env outs (i + 1) _ _ _ _ (lk_setE_congr h) hrest
      · exact foldS_env outs (i + 1) _ _ _ _ h hrest
    · simp only [foldS]
      split <;> split
      · exact foldS_env outs (i + 1) _ _ _ _ (lk_setE_congr h) hrest
      · exact foldS_env outs (i + 1) _ _ _ _ (by rw [lk_setE_other hd]; exact h) hrest
      · exact foldS_env outs (i + 1) _ _ _ _ (by rw [lk_setE_other hd]; exact h) hrest
      · exact foldS_env outs (i + 1) _ _ _ _ h hrest
theorem foldS_heap {S S' : Nat → Bool} {k : Nat} : ∀ (outs : List Out) (i : Nat) (E E1 : Env) (hp hp1 : Heap), lk hp k = lk hp1 k → (∀ (j : Nat) o, outs[j]? = some o → k ∈ keys o.es → S (i + j) = S' (i + j)) →
    lk (foldS S i outs E hp).2 k = lk (foldS S' i outs E1 hp1).2 k
  | [], _, _, _, _, _, h, _ => h
  | o :: outs, i, E, E1, hp, hp1, h, hj => by
    have hrest : ∀ (j : Nat) o', outs[j]? = some o' → k ∈ keys o'.es → S (i + 1 + j) = S' (i + 1 + j) := fun j o' h1 h2 => by
      have := hj (j + 1) o' (by simpa using h1) h2
      rwa [show i + (j + 1) = i + 1 + j from by omega] at this
    by_cases hd : k ∈ keys o.es
    · have := hj 0 o rfl hd
      simp only [Nat.add_zero] at this
      simp only [foldS, this]
      split
      · exact foldS_heap outs (i + 1) _ _ _ _ (lk_eff_congr _ _ _ _ h) hrest
      · exact foldS_heap outs (i + 1) _ _ _ _ h hrest
    · simp only [foldS]
      split <;> split
      · exact foldS_heap outs (i + 1) _ _ _ _ (lk_eff_congr _ _ _ _ h) hrest
      · exact foldS_heap outs (i + 1) _ _ _ _ (by rw [lk_eff_other _ _ _ hd]; exact h) hrest
      · exact foldS_heap outs (i + 1) _ _ _ _ (by rw [lk_eff_other _ _ _ hd]; exact h) hrest
      · exact foldS_heap outs (i + 1) _ _ _ _ h hrest
/-- The last writer tells. -/
theorem foldS_env_last {S : Nat → Bool} {t : Nat} {v : AV} : ∀ (outs : List Out) (i m : Nat) (E : Env) (hp : Heap) (o : Out), outs[m]? = some o → o.dst = some t → o.v = v → S (i + m) = true →
    (∀ (j : Nat) o', m < j → outs[j]? = some o' → o'.dst = some t → S (i + j) = false) → lk (foldS S i outs E hp).1 t = some v
  | [], _, _, _, _, _, h, _, _, _, _ => by simp at h
  | o1 :: outs, i, m, E, hp, o, ho, hd, hv, hS, hj => by
    cases m with
    | zero =>
      simp at ho
      subst ho
      simp only [Nat.add_zero] at hS
      simp only [foldS, hS, if_true]
      have := foldS_env (S := S) (S' := fun _ => false) outs (i + 1) (setE E o1.dst o1.v) (setE E o1.dst o1.v) (eff hp o1.es) (eff hp o1.es) (t := t) rfl (fun j o' h1 h2 => by
        have := hj (j + 1) o' (by omega) (by simpa using h1) h2
        rwa [show i + (j + 1) = i + 1 + j from by omega] at this)
      rw [this]
      have none : ∀ (l : List Out) (q : Nat) (E : Env) (hp : Heap), foldS (fun _ => false) q l E hp = (E, hp) := by
        intro l
        induction l with
        | nil => intro q E hp; rfl
        | cons x l ih => intro q E hp; simp [foldS, ih]
      rw [none, hd, lk_setE_same, hv]
    | succ m =>
      have rest := fun (E : Env) (hp : Heap) => foldS_env_last outs (i + 1) m E hp o (by simpa using ho) hd hv (by rwa [show i + 1 + m = i + (m + 1) from by omega]) (fun j o' h0 h1 h2 => by
        have := hj (j + 1) o' (by omega) (by simpa using h1) h2
        rwa [show i + (j + 1) = i + 1 + j from by omega] at this)
      simp only [foldS]
      split
      · exact rest _ _
      · exact rest _ _
theorem foldS_heap_last {S : Nat → Bool} {k : Nat} : ∀ (outs : List Out) (i m : Nat) (E : Env) (hp h0 : Heap) (o : Out), outs[m]? = some o → k ∈ keys o.es → S (i + m) = true →
    (∀ (j : Nat) o', m < j → outs[j]? = some o' → k ∈ keys o'.es → S (i + j) = false) → lk (foldS S i outs E hp).2 k = lk (eff h0 o.es) k
  | [], _, _, _, _, _, _, h, _, _, _ => by simp at h
  | o1 :: outs, i, m, E, hp, h0, o, ho, hd, hS, hj => by
    cases m with
    | zero =>
      simp at ho
      subst ho
      simp only [Nat.add_zero] at hS
      simp only [foldS, hS, if_true]
      have := foldS_heap (S := S) (S' := fun _ => false) outs (i + 1) (setE E o1.dst o1.v) (setE E o1.dst o1.v) (eff hp o1.es) (eff hp o1.es) (k := k) rfl (fun j o' h1 h2 => by
        have := hj (j + 1) o' (by omega) (by simpa using h1) h2
        rwa [show i + (j + 1) = i + 1 + j from by omega] at this)
      rw [this]
      have none : ∀ (l : List Out) (q : Nat) (E : Env) (hp : Heap), foldS (fun _ => false) q l E hp = (E, hp) := by
        intro l
        induction l with
        | nil => intro q E hp; rfl
        | cons x l ih => intro q E hp; simp [foldS, ih]
      rw [none]
      exact lk_eff_mem _ _ _ _ hd
    | succ m =>
      have rest := fun (E : Env) (hp : Heap) => foldS_heap_last outs (i + 1) m E hp h0 o (by simpa using ho) hd (by rwa [show i + 1 + m = i + (m + 1) from by omega]) (fun j o' h0 h1 h2 => by
        have := hj (j + 1) o' (by omega) (by simpa using h1) h2
        rwa [show i + (j + 1) = i + 1 + j from by omega] at this)
      simp only [foldS]
      split
      · exact rest _ _
      · exact rest _ _
end
end Go.Eng

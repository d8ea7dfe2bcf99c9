/- The engine, part 18: own rows from nil, data from own rows. -/
import Derived.Test.YtlaekicahpplbabG17
set_option linter.unusedVariables false
set_option linter.unusedSimpArgs false
namespace Go.Eng
open Go.RowKit

section
variable {P : Program} {S : Sp} {Q : Exit → St → Prop}
/-- A nil slice in a slot is an own row of no elements. -/
theorem Rel.own {E : Env} {hp : Heap} {c : Nat} {a : Act} {w : World} (h : Rel S ⟨E, hp, c⟩ a w) (n k e sz : Nat) (hl : lk E n = some (.d .nils)) (hz : 0 < sz) (hk : c ≤ k) : Rel S ⟨(n, .own k 0) :: E, put hp k (.row e sz []), k + 1⟩ a w := by
  obtain ⟨hle, ν, hI, hx⟩ := h
  simp only at hI hx hle
  have hv : a.tmps.getD n undef = .slice none 0 0 := by
    have := hI.env n _ hl
    generalize a.tmps.getD n undef = u at this
    cases this with
    | d h => cases h; rfl
  have x1 := Ext.fresh (M0 := S.X.M0) (hp := hp) (ν := ν) (used := (· < c)) (w := w) (w' := w) (k := k) (.row e sz []) (.slice none 0 0) (by omega) (Nat.le_refl _) (fun _ _ => rfl) (fun b hb => by simp [blockOf] at hb) hI.heap.usd
  have i1 := hI.heap.step (k := k) (o := .row e sz []) (v := .slice none 0 0) (Bl.refl _ _) x1 (.inr rfl) (fun b hb => by simp [blockOf] at hb) (fun q o' b _ hq hb => rfl)
    ⟨[], ⟨by simp, .inl ⟨rfl, rfl⟩⟩, hz, fun x hx => by simp at hx, fun i x j d hx => by simp at hx⟩
  have hu : ∀ q, (q < c ∨ q = k) → q < k + 1 := fun q hq => by omega
  have i2 := i1.used_mono hu (fun q _ hn => by
    cases ho : lk (put hp k (.row e sz [])) q with
    | none => rfl
    | some o => exact absurd (i1.usd _ _ ho) hn)
  have x2 : Ext (Mut S.X.M0 (lk (put hp k (.row e sz []))) (upd ν k (.slice none 0 0))) (lk (put hp k (.row e sz []))) (upd ν k (.slice none 0 0)) (fun q => q < c ∨ q = k) w (Mut S.X.M0 (lk (put hp k (.row e sz []))) (upd ν k (.slice none 0 0))) (lk (put hp k (.row e sz []))) (upd ν k (.slice none 0 0)) (· < k + 1) w :=
    ⟨Same.refl _ _, fun _ _ h => h, hu, fun q _ o ho => ⟨o, ho, by cases o <;> simp [HO.later], fun _ => rfl⟩, Same.refl _ _, fun _ _ h => h⟩
  refine ⟨by show S.R.c ≤ k + 1; omega, _, ⟨i2, fun m av hm => ?_, hI.size, (hI.defers.mono x1.same x1.shrink).mono x2.same x2.shrink⟩, hx.trans (x1.trans x2)⟩
  simp only [lk] at hm
  split at hm
  · rename_i em
    subst em
    cases hm
    rw [hv]
    refine .own (by show k < k + 1; omega) rfl ⟨Nat.le_refl _, Nat.zero_le _⟩ (fun _ => ⟨rfl, rfl⟩) fun o ho => ?_
    rw [lk_put_same] at ho
    cases ho
    exact ⟨_, _, _, rfl, Nat.le_refl _, fun _ => by rw [upd_same]⟩
  · exact (hI.env m av hm).ext (x1.trans x2)
theorem WP_own {code : Code} {E : Env} {hp : Heap} {c : Nat} (n k e sz : Nat) (hl : lk E n = some (.d .nils)) (hz : 0 < sz) (hk : c ≤ k) (h : WP P S code ⟨(n, .own k 0) :: E, put hp k (.row e sz []), k + 1⟩ Q) : WP P S code ⟨E, hp, c⟩ Q :=
  fun a w hr => h a w (hr.own n k e sz hl hz hk)
/-- An own row in a slot is data from now on. -/
theorem Rel.dat {E : Env} {hp : Heap} {c : Nat} {a : Act} {w : World} (h : Rel S ⟨E, hp, c⟩ a w) (n : Nat) {av : AV} {d : D} {ks : List Nat} (hl : lk E n = some av) (hd : toD (lk hp) av = some (d, ks)) : Rel S ⟨(n, .d d) :: E, dels hp ks, c⟩ a w := by
  obtain ⟨hle, ν, hI, hx⟩ := h
  obtain ⟨i1, x1⟩ := hI.heap.drops ks
  refine ⟨hle, ν, ⟨i1, fun m av' hm => ?_, hI.size, hI.defers.mono x1.same x1.shrink⟩, hx.trans x1⟩
  simp only [lk] at hm
  split at hm
  · rename_i em
    subst em
    cases hm
    exact .d (toD_drop hI.heap (hI.env n av hl) hd)
  · exact (hI.env m av' hm).ext x1
theorem WP_dat {code : Code} {E : Env} {hp : Heap} {c : Nat} (n : Nat) {av : AV} {d : D} {ks : List Nat} (hl : lk E n = some av) (hd : toD (lk hp) av = some (d, ks)) (h : WP P S code ⟨(n, .d d) :: E, dels hp ks, c⟩ Q) : WP P S code ⟨E, hp, c⟩ Q :=
  fun a w hr => h a w (hr.dat n hl hd)
end
end Go.Eng

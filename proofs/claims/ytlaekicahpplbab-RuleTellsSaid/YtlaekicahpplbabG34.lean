/- The engine, part 34: a round over a map: whichever entry comes. -/
import Derived.Test.YtlaekicahpplbabG27
set_option linter.unusedVariables false
set_option linter.unusedSimpArgs false
namespace Go.Eng
open Go.RowKit
open Go.ChangeMaps (setBlock)
section
variable {P : Program} {X : Ctx} {N : Nat} {E : Env} {hp : Heap} {ν : Nat → Value} {used : Nat → Prop} {a : Act} {w : World} {key : Nat}
theorem next_sound {ops : Array Oper} {o : Oper} {d x k m c : Nat} {seen : List Nat} {kt et : TypeId} {es : List (D × D)} (h : EInv X N E (lk hp) ν used a w) (hk : ¬ used key) (hop : o.op = .next (.tmp x) false) (hdst : o.dst = some d) (hgd : o.guard = none) (hd : d < N)
    (hl : lk E x = some (.it k)) (ho : lk hp k = some (.iter m c seen)) (hm : lk hp m = some (.map kt et es)) (hc : es.length = c) {K : Act → World → Prop} {Q : Exit → Act → World → Prop} {rd : Option Nat}
    (hsome : ∀ (i : Nat) kd vd, es[i]? = some (kd, vd) → i ∉ seen → ∀ a' w' ν', EInv X N (setE E (some d) (.tup [.d (.bool true), .d kd, .d vd])) (lk (put hp k (.iter m c (seen ++ [i])))) ν' (fun q => used q ∨ q = key) a' w' →
      Ext (Mut X.M0 (lk hp) ν) (lk hp) ν used w (Mut X.M0 (lk (put hp k (.iter m c (seen ++ [i])))) ν') (lk (put hp k (.iter m c (seen ++ [i])))) ν' (fun q => used q ∨ q = key) w' → K a' w')
    (hnone : (∀ i, i < es.length → i ∈ seen) → ∀ a' w' ν', EInv X N (setE E (some d) (.tup [.d (.bool false)])) (lk hp) ν' (fun q => used q ∨ q = key) a' w' →
      Ext (Mut X.M0 (lk hp) ν) (lk hp) ν used w (Mut X.M0 (lk hp) ν') (lk hp) ν' (fun q => used q ∨ q = key) w' → K a' w') :
    if Region.wanted o (yielded ops a.tmps) then o.wpIn (FR rd) 0 P a w K Q else (∀ f, o.about P w a.eval = some f → (FR rd).fn f) ∧ K (a.put o.dst undef) w := by
  have hw : Region.wanted o (yielded ops a.tmps) = true := by unfold Region.wanted; rw [hgd]
  rw [hw]
  simp only [if_true]
  subst hc
  have hx := h.env x _ hl
  have hev : a.eval (.tmp x) = a.tmps.getD x undef := rfl
  generalize hu0 : a.tmps.getD x undef = u at hx
  cases hx with
  | it hu hh =>
    obtain ⟨_, _, _, b, he', hν, ha⟩ := hh _ ho
    cases he'
    subst ha
    obtain ⟨b', mr, hv, hg, hum, hmm⟩ := h.heap.obj _ _ ho
    rw [hν] at hv
    cases hv
    obtain ⟨_, _, _, he2, hνm⟩ := hmm _ hm
    cases he2
    obtain ⟨r0, ents, hv2, hg2, hsz, hr⟩ := h.heap.obj _ _ hm
    rw [hνm] at hv2
    cases hv2
    have hbk : blockOf (ν k) = some b := by rw [hν]; rfl
    have hblt := (h.heap.blk _ _ _ ho hbk).2
    have born : ∀ (i : Nat) (hi : i < ents.size), ents[i].born = i := fun i hi => by
      have h1 := List.getElem?_eq_getElem (l := es) (i := i) (by omega)
      exact (hr i _ _ _ h1 (Array.getElem?_eq_getElem hi)).1
    have hold : ∀ e ∈ ents.toList, e.born < es.length := fun e he => by
      obtain ⟨i, hi⟩ := List.mem_iff_getElem?.1 he
      have hi' : i < ents.size := by simpa using (List.getElem?_eq_some_iff.1 hi).1
      have : ents[i] = e := by simpa using (List.getElem?_eq_some_iff.1 hi).2
      rw [← this, born i hi', ← hsz]
      exact hi'
    have hdd : ∀ t, o.dst = some t → t < N := fun t ht => by rw [hdst] at ht; cases ht; exact hd
    rw [← hdst] at hsome hnone
    refine ⟨fun _ _ => trivial, ?_⟩
    rw [Oper.semAt_eq _ _ _ (fun c hc => by rw [hop] at hc; cases hc)]
    have hexec : (execOp a.eval o).run P w = ((do let v ← Instr.next (.pointer (some ⟨b, 0, none⟩)) false o.type; Pure.pure (Next.value v)) : Sem Next).run P w := by
      unfold execOp
      rw [hop]
      simp only [hev, hu0]
    rw [hexec]
    simp only [Sem.run_bind]
    rcases run_next_at (P := P) w o.type b mr es.length es.length seen.toArray ents es.length hg hg2 hold (Nat.le_refl _) with ⟨h1, h2⟩ | ⟨e, he, w1, hw1, h2⟩
    · rw [h2]
      simp only [Result.andThen_ok, Sem.run_pure]
      have hall : ∀ i, i < es.length → i ∈ seen := fun i hi => by
        have hi' : i < ents.size := by omega
        have h0 : leftOf ents seen.toArray = #[] := Array.eq_empty_of_size_eq_zero h1
        unfold leftOf at h0
        rw [Array.filter_eq_empty_iff] at h0
        have := h0 ents[i] (Array.getElem_mem hi')
        rw [born i hi'] at this
        simpa using this
      obtain ⟨m1, m2⟩ := h.heap.more hk
      refine hnone hall _ _ ν (h.put m1 m2 (RepA.tup (cs := [_]) rfl fun i d v q1 q2 => ?_) hdd) m2
      cases i with
      | zero => simp at q1 q2; subst q1; subst q2; exact .d (.bool _)
      | succ i => simp at q1
    · rw [h2]
      simp only [Result.andThen_ok, Sem.run_pure]
      have hem : e ∈ ents.toList ∧ ¬ e.born ∈ seen := by
        unfold leftOf at he
        simp at he
        exact ⟨by simpa using he.1, by simpa using he.2⟩
      obtain ⟨i, hi⟩ := List.mem_iff_getElem?.1 hem.1
      have hi' : i < ents.size := by simpa using (List.getElem?_eq_some_iff.1 hi).1
      have hei : ents[i] = e := by simpa using (List.getElem?_eq_some_iff.1 hi).2
      have hei' : ents[i]? = some e := by rw [Array.getElem?_eq_getElem hi', hei]
      have hb : e.born = i := by rw [← hei]; exact born i hi'
      have h3 := List.getElem?_eq_getElem (l := es) (i := i) (by omega)
      obtain ⟨_, h4, h5⟩ := hr i _ _ _ h3 hei'
      have hpush : seen.toArray.push e.born = (seen ++ [i]).toArray := by rw [hb]; simp
      rw [hpush]
      obtain ⟨g1, g2⟩ := h.heap.turn (o' := .iter m es.length (seen ++ [i])) ho hbk hw1 (.mapIter (some mr) es.length (seen ++ [i]).toArray es.length) ⟨rfl, rfl⟩ trivial (fun M' H' hx' => by
        refine ⟨b, mr, hν, setBlock_at (by rcases hw1 with rfl | rfl <;> exact hblt), hum, fun o' ho' => ?_⟩
        obtain ⟨o1, ho1, hlt, hst⟩ := hx'.obj _ hum o' ho'
        obtain ⟨kt', et', es', rfl, hn⟩ := hmm o1 ho1
        cases o' with
        | map kt'' et'' es'' => exact ⟨_, _, es'', rfl, by rw [hst trivial]; exact hn⟩
        | row _ _ _ => exact hlt.elim
        | var _ => exact hlt.elim
        | iter _ _ _ => exact hlt.elim
        | loop _ _ _ => exact hlt.elim)
      obtain ⟨m1, m2⟩ := g1.more hk
      have hx2 := g2.trans m2
      refine hsome i _ _ h3 (by rw [← hb]; exact hem.2) _ _ ν (h.put m1 hx2 (RepA.tup (cs := [_, _, _]) rfl fun q dd v q1 q2 => ?_) hdd) hx2
      match q with
      | 0 => simp at q1 q2; subst q1; subst q2; exact .d (.bool _)
      | 1 => simp at q1 q2; subst q1; subst q2; exact .d (h4.mono hx2.same hx2.shrink)
      | 2 => simp at q1 q2; subst q1; subst q2; exact .d (h5.mono hx2.same hx2.shrink)
      | q + 3 => simp at q1
/-- A step over a map's entries, and whether there was one left. -/
theorem WP_next {S : Sp} {Q : Exit → St → Prop} {id d d2 x k m n c c' : Nat} {seen : List Nat} {kt et ty ty2 : TypeId} {pos pos2 : String} {after after2 : Array Edge} {es : List (D × D)} (hN : S.N = n) (hd : (Nat.blt d n && Nat.blt d2 n) = true) (hcc : c + 2 = c')
    (hl : lk E x = some (.it k)) (ho : lk hp k = some (.iter m es.length seen)) (hm : lk hp m = some (.map kt et es))
    (hsome : ∀ (i : Nat) kd vd, es[i]? = some (kd, vd) → i ∉ seen → Q .normal ⟨(d2, .d (.bool true)) :: (d, .tup [.d (.bool true), .d kd, .d vd]) :: E, put hp k (.iter m es.length (seen ++ [i])), c'⟩)
    (hnone : (∀ i, i < es.length → i ∈ seen) → Q .normal ⟨(d2, .d (.bool false)) :: (d, .tup [.d (.bool false)]) :: E, hp, c'⟩) :
    WP P S (.region id #[⟨some d, .next (.tmp x) false, ty, pos, after, none⟩, ⟨some d2, .extract (.tmp d) 0, ty2, pos2, after2, none⟩] false) ⟨E, hp, c⟩ Q := by
  subst hcc
  subst hN
  simp only [Bool.and_eq_true, Nat.blt_eq] at hd
  intro a w ⟨hle, ν, hI, hx⟩
  simp only at hle hI hx
  refine wpIn_region_list ?_
  unfold wpListIn
  have e1 : ∀ k, (k < c ∨ k = c) ↔ k < c + 1 := fun k => by omega
  have e1f : (fun k => k < c ∨ k = c) = (fun k => k < c + 1) := funext fun k => propext (e1 k)
  have fin : ∀ (v : AV) (b : Bool) (hp1 : Heap), (∃ rest, v = .tup (.d (.bool b) :: rest)) → (Q .normal ⟨(d2, .d (.bool b)) :: (d, v) :: E, hp1, c + 2⟩) → ∀ a' w' ν', EInv S.X S.N (setE E (some d) v) (lk hp1) ν' (fun q => q < c ∨ q = c) a' w' →
      Ext (Mut S.X.M0 (lk hp) ν) (lk hp) ν (· < c) w (Mut S.X.M0 (lk hp1) ν') (lk hp1) ν' (fun q => q < c ∨ q = c) w' →
      wpListIn (FR S.rd) 0 P #[⟨some d, .next (.tmp x) false, ty, pos, after, none⟩, ⟨some d2, .extract (.tmp d) 0, ty2, pos2, after2, none⟩] (fun e a w => ∃ s', Rel S s' a w ∧ Q e s') [⟨some d2, .extract (.tmp d) 0, ty2, pos2, after2, none⟩] a' w' := fun v b hp1 ⟨rest, hv⟩ hq a' w' ν' hI' hx' => by
    rw [e1f] at hI' hx'
    refine Ev.list (ops := #[⟨some d, .next (.tmp x) false, ty, pos, after, none⟩, ⟨some d2, .extract (.tmp d) 0, ty2, pos2, after2, none⟩]) (c := c) [⟨some d2, .extract (.tmp d) 0, ty2, pos2, after2, none⟩] 1 (setE E (some d) v) hp1 [⟨some d2, .d (.bool b), [], []⟩] ((d2, .d (.bool b)) :: (d, v) :: E) hp1 ν' a' w' (by simp [dstOk, hd.2]) hI' ?_ (fun a2 w2 ν2 h1 h2 => ?_)
    · refine Ev_d rfl ?_ rfl .nil
      subst hv
      simp [evOp, just, evExtract, opnd, setE, lk]
    · exact ⟨_, ⟨by show S.R.c ≤ c + 2; omega, ν2, by simpa using h1, by have := hx.trans (hx'.trans h2); simpa using this⟩, hq⟩
  have hs := next_sound (P := P) (ops := #[⟨some d, .next (.tmp x) false, ty, pos, after, none⟩, ⟨some d2, .extract (.tmp d) 0, ty2, pos2, after2, none⟩]) (o := ⟨some d, .next (.tmp x) false, ty, pos, after, none⟩) (key := c) (rd := S.rd) (K := wpListIn (FR S.rd) 0 P #[⟨some d, .next (.tmp x) false, ty, pos, after, none⟩, ⟨some d2, .extract (.tmp d) 0, ty2, pos2, after2, none⟩] (fun e a w => ∃ s', Rel S s' a w ∧ Q e s') [⟨some d2, .extract (.tmp d) 0, ty2, pos2, after2, none⟩]) (Q := fun e a w => ∃ s', Rel S s' a w ∧ Q e s') hI (Nat.lt_irrefl _) rfl rfl rfl hd.1 hl ho hm rfl
    (fun i kd vd h1 h2 => fin _ true _ ⟨_, rfl⟩ (hsome i kd vd h1 h2)) (fun h1 => fin _ false _ ⟨_, rfl⟩ (hnone h1))
  split
  · rename_i hw; rw [if_pos hw] at hs; exact hs
  · rename_i hw; rw [if_neg hw] at hs; exact hs
end
end Go.Eng

/- Rules in order, in plain words. (and what stands behind it: texts laid together) -/
import Derived.Test.YtabfoaoeghikoaaDoorMR2
import Derived.Test.YtabfoaoeghikoaaDoorMG4
set_option linter.unusedVariables false
set_option linter.unusedSimpArgs false
namespace Go.Eng.Tryd
open Go Go.Eng Go.Proofs Go.RowKit
/-- The same sides. -/
def ssame (r s : Ru) : Prop := r.left = s.left ∧ r.right = s.right
instance (r s : Ru) : Decidable (ssame r s) := by unfold ssame; infer_instance
/-- Sides that stand ahead. -/
def slt (r s : Ru) : Prop := wcmp r.left s.left < 0 ∨ r.left = s.left ∧ wcmp r.right s.right < 0
instance (r s : Ru) : Decidable (slt r s) := by unfold slt; infer_instance
theorem slt_zero {r s : Ru} : slt r s ↔ rlt ⟨r.left, r.right, 0⟩ ⟨s.left, s.right, 0⟩ := by
  unfold slt rlt
  simp
theorem slt_irr (r : Ru) : ¬ slt r r := by rw [slt_zero]; exact rlt_irr _
theorem slt_trans {r s t : Ru} (h1 : slt r s) (h2 : slt s t) : slt r t := by rw [slt_zero] at *; exact rlt_trans h1 h2
theorem slt_total (r s : Ru) : slt r s ∨ ssame r s ∨ slt s r := by
  rw [slt_zero, slt_zero]
  rcases rlt_total ⟨r.left, r.right, 0⟩ ⟨s.left, s.right, 0⟩ with h | h | h
  · exact .inl h
  · simp at h; exact .inr (.inl h)
  · exact .inr (.inr h)
theorem ssame_slt {r s t : Ru} (h : ssame r s) : (slt r t ↔ slt s t) ∧ (slt t r ↔ slt t s) := by
  unfold slt
  rw [h.1, h.2]
  exact ⟨Iff.rfl, Iff.rfl⟩
theorem slt_not_same {r s : Ru} (h : slt r s) : ¬ ssame r s := fun e => slt_irr s (((ssame_slt e).1).1 h)
theorem ssame_symm {r s : Ru} (h : ssame r s) : ssame s r := ⟨h.1.symm, h.2.symm⟩
theorem ssame_trans {r s t : Ru} (h : ssame r s) (h' : ssame s t) : ssame r t := ⟨h.1.trans h'.1, h.2.trans h'.2⟩
theorem slt_rlt {r s : Ru} (h : slt r s) : rlt r s := by
  unfold slt at h
  unfold rlt
  rcases h with h | ⟨h, h'⟩
  · exact .inl h
  · exact .inr ⟨h, .inl h'⟩
theorem slt_nrlt {r s : Ru} (h : slt r s) : ¬ rlt s r := fun h' => rlt_irr _ (rlt_trans (slt_rlt h) h')
/-- The cheaper of two of one sides. -/
def best (x r : Ru) : Ru := if r.cost < x.cost then r else x
def nput : List Ru → Ru → List Ru
  | [], r => [r]
  | x :: t, r => if ssame x r then best x r :: t else x :: nput t r
def nins : List Ru → Ru → List Ru
  | [], r => [r]
  | x :: t, r => if slt x r then x :: nins t r else if ssame x r then best x r :: t else r :: x :: t
theorem nput_new {ms : List Ru} {r : Ru} (h : ∀ x ∈ ms, ¬ ssame x r) : nput ms r = ms ++ [r] := by
  induction ms with
  | nil => rfl
  | cons x t ih =>
    simp only [nput]
    rw [if_neg (h x (by simp)), ih (fun y hy => h y (by simp [hy]))]
    rfl
theorem nput_old {ms : List Ru} {r : Ru} (h : ∃ x ∈ ms, ssame x r) : ∃ x rest, x ∈ ms ∧ ssame x r ∧ ms.Perm (x :: rest) ∧ (nput ms r).Perm (best x r :: rest) := by
  induction ms with
  | nil => obtain ⟨x, hx, _⟩ := h; simp at hx
  | cons y t ih =>
    simp only [nput]
    by_cases hy : ssame y r
    · rw [if_pos hy]
      exact ⟨y, t, by simp, hy, List.Perm.refl _, List.Perm.refl _⟩
    · rw [if_neg hy]
      obtain ⟨x, rest, h1, h2, h3, h4⟩ := ih (by
        obtain ⟨x, hx, hs⟩ := h
        rcases List.mem_cons.1 hx with rfl | hx
        · exact absurd hs hy
        · exact ⟨x, hx, hs⟩)
      exact ⟨x, y :: rest, by simp [h1], h2, (h3.cons y).trans (List.Perm.swap _ _ _), (h4.cons y).trans (List.Perm.swap _ _ _)⟩
def Srt (o : List Ru) : Prop := o.Pairwise slt
theorem nins_new {o : List Ru} {r : Ru} (h : ∀ x ∈ o, ¬ ssame x r) : (nins o r).Perm (r :: o) := by
  induction o with
  | nil => exact List.Perm.refl _
  | cons x t ih =>
    simp only [nins]
    by_cases h1 : slt x r
    · rw [if_pos h1]
      exact ((ih (fun y hy => h y (by simp [hy]))).cons x).trans (List.Perm.swap _ _ _)
    · rw [if_neg h1, if_neg (h x (by simp))]
theorem nins_old {o : List Ru} {r : Ru} (hs : Srt o) (h : ∃ x ∈ o, ssame x r) : ∃ x rest, x ∈ o ∧ ssame x r ∧ o.Perm (x :: rest) ∧ (nins o r).Perm (best x r :: rest) := by
  induction o with
  | nil => obtain ⟨x, hx, _⟩ := h; simp at hx
  | cons y t ih =>
    have hp := List.pairwise_cons.1 hs
    simp only [nins]
    by_cases h1 : slt y r
    · rw [if_pos h1]
      obtain ⟨x, rest, q1, q2, q3, q4⟩ := ih hp.2 (by
        obtain ⟨x, hx, hs'⟩ := h
        rcases List.mem_cons.1 hx with rfl | hx
        · exact absurd hs' (slt_not_same h1)
        · exact ⟨x, hx, hs'⟩)
      exact ⟨x, y :: rest, by simp [q1], q2, (q3.cons y).trans (List.Perm.swap _ _ _), (q4.cons y).trans (List.Perm.swap _ _ _)⟩
    · rw [if_neg h1]
      by_cases h2 : ssame y r
      · rw [if_pos h2]
        exact ⟨y, t, by simp, h2, List.Perm.refl _, List.Perm.refl _⟩
      · exfalso
        obtain ⟨x, hx, hs'⟩ := h
        rcases List.mem_cons.1 hx with rfl | hx
        · exact h2 hs'
        · exact h1 (((ssame_slt hs').2).1 (hp.1 x hx))
theorem best_same {x r : Ru} (h : ssame x r) : ssame (best x r) r := by
  unfold best
  split
  · exact ⟨rfl, rfl⟩
  · exact h
theorem nins_mem {o : List Ru} {r x : Ru} (h : x ∈ nins o r) : x ∈ o ∨ x = r := by
  induction o with
  | nil => simp only [nins, List.mem_singleton] at h; exact .inr h
  | cons y t ih =>
    simp only [nins] at h
    split at h
    · rcases List.mem_cons.1 h with rfl | h
      · exact .inl (by simp)
      · rcases ih h with h | h
        · exact .inl (by simp [h])
        · exact .inr h
    · split at h
      · rcases List.mem_cons.1 h with rfl | h
        · unfold best
          split
          · exact .inr rfl
          · exact .inl (by simp)
        · exact .inl (by simp [h])
      · rcases List.mem_cons.1 h with rfl | h
        · exact .inr rfl
        · exact .inl h
theorem nins_srt {o : List Ru} {r : Ru} (hs : Srt o) : Srt (nins o r) := by
  induction o with
  | nil => simp [nins, Srt]
  | cons y t ih =>
    have hp := List.pairwise_cons.1 hs
    simp only [nins]
    by_cases h1 : slt y r
    · rw [if_pos h1]
      refine List.pairwise_cons.2 ⟨fun z hz => ?_, ih hp.2⟩
      rcases nins_mem hz with h | rfl
      · exact hp.1 z h
      · exact h1
    · rw [if_neg h1]
      by_cases h2 : ssame y r
      · rw [if_pos h2]
        refine List.pairwise_cons.2 ⟨fun z hz => ?_, hp.2⟩
        exact ((ssame_slt (ssame_trans (best_same h2) (ssame_symm h2))).1).2 (hp.1 z hz)
      · rw [if_neg h2]
        have h3 : slt r y := by
          rcases slt_total y r with h | h | h
          · exact absurd h h1
          · exact absurd h h2
          · exact h
        refine List.pairwise_cons.2 ⟨fun z hz => ?_, hs⟩
        rcases List.mem_cons.1 hz with rfl | hz
        · exact h3
        · exact slt_trans h3 (hp.1 z hz)
/-- Rules in order. -/
def norm (l : List Ru) : List Ru := l.foldl (fun o r => if rok r = true then nins o r else o) []
/-- The same, as they come. -/
def norm1 (l : List Ru) : List Ru := l.foldl (fun o r => if rok r = true then nput o r else o) []
theorem norm_snoc (l : List Ru) (r : Ru) : norm (l ++ [r]) = if rok r = true then nins (norm l) r else norm l := by simp [norm]
theorem norm1_snoc (l : List Ru) (r : Ru) : norm1 (l ++ [r]) = if rok r = true then nput (norm1 l) r else norm1 l := by simp [norm1]
theorem snoc_ind {p : List Ru → Prop} (h0 : p []) (h1 : ∀ l r, p l → p (l ++ [r])) (l : List Ru) : p l := by
  rw [← List.reverse_reverse l]
  induction l.reverse with
  | nil => exact h0
  | cons r t ih => rw [List.reverse_cons]; exact h1 _ _ ih
theorem norm_srt (l : List Ru) : Srt (norm l) := by
  refine snoc_ind (p := fun l => Srt (norm l)) ?_ (fun l r ih => ?_) l
  · exact List.Pairwise.nil
  · rw [norm_snoc]
    split
    · exact nins_srt ih
    · exact ih
theorem srt_diff {o : List Ru} (h : Srt o) : o.Pairwise (fun a b => ¬ ssame a b) := h.imp slt_not_same
theorem norm_perm (l : List Ru) : (norm l).Perm (norm1 l) := by
  refine snoc_ind (p := fun l => (norm l).Perm (norm1 l)) (List.Perm.refl _) (fun l r ih => ?_) l
  rw [norm_snoc, norm1_snoc]
  split
  · have hs := norm_srt l
    generalize norm l = o at ih hs
    generalize norm1 l = ms at ih
    by_cases h : ∃ x ∈ o, ssame x r
    · obtain ⟨x, rest, q1, q2, q3, q4⟩ := nins_old hs h
      obtain ⟨x', rest', p1, p2, p3, p4⟩ := nput_old (ms := ms) (r := r) (by obtain ⟨x, hx, h⟩ := h; exact ⟨x, ih.mem_iff.1 hx, h⟩)
      have hd := srt_diff hs
      have hd' : (x :: rest).Pairwise (fun a b => ¬ ssame a b) := (q3.pairwise_iff (fun {a b} h h' => h (ssame_symm h'))).1 hd
      have hx' : x' ∈ x :: rest := q3.mem_iff.1 (ih.mem_iff.2 p1)
      have : x' = x := by
        rcases List.mem_cons.1 hx' with e | hx'
        · exact e
        · exact absurd (ssame_trans q2 (ssame_symm p2)) ((List.pairwise_cons.1 hd').1 x' hx')
      subst this
      have hr : rest.Perm rest' := (List.perm_cons x').1 (q3.symm.trans (ih.trans p3))
      exact q4.trans ((hr.cons _).trans p4.symm)
    · have h1 : ∀ x ∈ o, ¬ ssame x r := fun x hx hs => h ⟨x, hx, hs⟩
      have h2 : ∀ x ∈ ms, ¬ ssame x r := fun x hx => h1 x (ih.mem_iff.2 hx)
      rw [nput_new h2]
      exact (nins_new h1).trans ((ih.cons r).trans (List.perm_append_singleton r ms).symm)
  · exact ih
theorem norm_rise (l : List Ru) : (norm l).Pairwise (fun a b => ¬ rlt b a) := (norm_srt l).imp slt_nrlt
theorem cheapest {l : List Ru} {r : Ru} (h : ∃ y ∈ l, rok y = true ∧ ssame y r) : ∃ m ∈ l, rok m = true ∧ ssame m r ∧ ∀ z ∈ l, rok z = true → ssame z r → m.cost ≤ z.cost := by
  induction l with
  | nil => obtain ⟨y, hy, _⟩ := h; simp at hy
  | cons a t iht =>
    by_cases hex : ∃ y ∈ t, rok y = true ∧ ssame y r
    · obtain ⟨m, m1, m2, m3, m4⟩ := iht hex
      by_cases ha : rok a = true ∧ ssame a r ∧ a.cost < m.cost
      · refine ⟨a, by simp, ha.1, ha.2.1, fun z hz hzo hzs => ?_⟩
        rcases List.mem_cons.1 hz with rfl | hz
        · exact Int.le_refl _
        · have := m4 z hz hzo hzs; omega
      · refine ⟨m, by simp [m1], m2, m3, fun z hz hzo hzs => ?_⟩
        rcases List.mem_cons.1 hz with rfl | hz
        · by_cases hc : z.cost < m.cost
          · exact absurd ⟨hzo, hzs, hc⟩ ha
          · omega
        · exact m4 z hz hzo hzs
    · obtain ⟨y, hy, hyo, hys⟩ := h
      rcases List.mem_cons.1 hy with rfl | hy
      · refine ⟨y, by simp, hyo, hys, fun z hz hzo hzs => ?_⟩
        rcases List.mem_cons.1 hz with rfl | hz
        · exact Int.le_refl _
        · exact absurd ⟨z, hz, hzo, hzs⟩ hex
      · exact absurd ⟨y, hy, hyo, hys⟩ hex
/-- What is in order: of each sides the cheapest one. -/
theorem norm_mem {l : List Ru} {x : Ru} : x ∈ norm l ↔ x ∈ l ∧ rok x = true ∧ ∀ y ∈ l, rok y = true → ssame y x → x.cost ≤ y.cost := by
  revert x
  refine snoc_ind (p := fun l => ∀ {x : Ru}, x ∈ norm l ↔ x ∈ l ∧ rok x = true ∧ ∀ y ∈ l, rok y = true → ssame y x → x.cost ≤ y.cost) (fun {x} => by simp [norm]) (fun l r ih {x} => ?_) l
  rw [norm_snoc]
  by_cases hr : rok r = true
  · rw [if_pos hr]
    have hs := norm_srt l
    by_cases h : ∃ z ∈ norm l, ssame z r
    · obtain ⟨z, rest, q1, q2, q3, q4⟩ := nins_old hs h
      have hd' : (z :: rest).Pairwise (fun a b => ¬ ssame a b) := (q3.pairwise_iff (fun {a b} h h' => h (ssame_symm h'))).1 (srt_diff hs)
      have hzr := (List.pairwise_cons.1 hd').1
      have hz := ih.1 q1
      have hrest : ∀ y, y ∈ rest ↔ y ∈ norm l ∧ ¬ ssame y r := fun y => by
        constructor
        · intro hy
          exact ⟨q3.mem_iff.2 (by simp [hy]), fun e => hzr y hy (ssame_trans q2 (ssame_symm e))⟩
        · intro ⟨hy, hn⟩
          rcases List.mem_cons.1 (q3.mem_iff.1 hy) with rfl | h
          · exact absurd q2 hn
          · exact h
      rw [q4.mem_iff, List.mem_cons, hrest, ih]
      constructor
      · rintro (rfl | ⟨⟨h1, h2, h3⟩, h4⟩)
        · unfold best
          split
          · rename_i hc
            refine ⟨by simp, hr, fun y hy hyo hys => ?_⟩
            rcases List.mem_append.1 hy with hy | hy
            · have := hz.2.2 y hy hyo (ssame_trans hys (ssame_symm q2)); omega
            · rw [List.mem_singleton.1 hy]; exact Int.le_refl _
          · rename_i hc
            refine ⟨by simp [hz.1], hz.2.1, fun y hy hyo hys => ?_⟩
            rcases List.mem_append.1 hy with hy | hy
            · exact hz.2.2 y hy hyo hys
            · rw [List.mem_singleton.1 hy]; omega
        · refine ⟨by simp [h1], h2, fun y hy hyo hys => ?_⟩
          rcases List.mem_append.1 hy with hy | hy
          · exact h3 y hy hyo hys
          · rw [List.mem_singleton.1 hy] at hys; exact absurd (ssame_symm hys) h4
      · rintro ⟨h1, h2, h3⟩
        by_cases hxr : ssame x r
        · left
          have hxz := h3 z (by simp [hz.1]) hz.2.1 (ssame_trans q2 (ssame_symm hxr))
          have hxr' := h3 r (by simp) hr (ssame_symm hxr)
          have hcase : x = r ∨ x = z := by
            rcases List.mem_append.1 h1 with hx | hx
            · have := hz.2.2 x hx h2 (ssame_trans hxr (ssame_symm q2))
              right
              have e1 := hxr.1.trans q2.1.symm
              have e2 := hxr.2.trans q2.2.symm
              have e3 : x.cost = z.cost := by omega
              cases x; cases z; simp_all
            · exact .inl (List.mem_singleton.1 hx)
          unfold best
          rcases hcase with rfl | rfl
          · split
            · rfl
            · rename_i hc
              have e3 : x.cost = z.cost := by omega
              have := q2.1
              have := q2.2
              cases x; cases z; simp_all
          · rw [if_neg (by omega)]
        · right
          refine ⟨⟨?_, h2, fun y hy => h3 y (by simp [hy])⟩, hxr⟩
          rcases List.mem_append.1 h1 with hx | hx
          · exact hx
          · exact absurd (by rw [List.mem_singleton.1 hx]; exact ⟨rfl, rfl⟩) hxr
    · have hn : ∀ y ∈ norm l, ¬ ssame y r := fun y hy hs' => h ⟨y, hy, hs'⟩
      rw [(nins_new hn).mem_iff, List.mem_cons, ih]
      -- none of the elder ones has these sides
      have hno : ∀ y ∈ l, rok y = true → ¬ ssame y r := by
        intro y hy hyo hys
        have := cheapest (l := l) (r := r) ⟨y, hy, hyo, hys⟩
        obtain ⟨m, m1, m2, m3, m4⟩ := this
        exact hn m (ih.2 ⟨m1, m2, fun z hz hzo hzs => m4 z hz hzo (ssame_trans hzs m3)⟩) m3
      constructor
      · rintro (rfl | ⟨h1, h2, h3⟩)
        · refine ⟨by simp, hr, fun y hy hyo hys => ?_⟩
          rcases List.mem_append.1 hy with hy | hy
          · exact absurd hys (hno y hy hyo)
          · rw [List.mem_singleton.1 hy]; exact Int.le_refl _
        · refine ⟨by simp [h1], h2, fun y hy hyo hys => ?_⟩
          rcases List.mem_append.1 hy with hy | hy
          · exact h3 y hy hyo hys
          · rw [List.mem_singleton.1 hy] at hys; exact absurd (ssame_symm hys) (hno x h1 h2)
      · rintro ⟨h1, h2, h3⟩
        rcases List.mem_append.1 h1 with hx | hx
        · exact .inr ⟨hx, h2, fun y hy => h3 y (by simp [hy])⟩
        · exact .inl (List.mem_singleton.1 hx)
  · rw [if_neg hr, ih]
    constructor
    · rintro ⟨h1, h2, h3⟩
      refine ⟨by simp [h1], h2, fun y hy hyo hys => ?_⟩
      rcases List.mem_append.1 hy with hy | hy
      · exact h3 y hy hyo hys
      · rw [List.mem_singleton.1 hy] at hyo; exact absurd hyo hr
    · rintro ⟨h1, h2, h3⟩
      refine ⟨?_, h2, fun y hy => h3 y (by simp [hy])⟩
      rcases List.mem_append.1 h1 with hx | hx
      · exact hx
      · rw [List.mem_singleton.1 hx] at h2; exact absurd h2 hr
/-- Rows of rules in order that have the same rules are the same. -/
theorem srt_ext : ∀ {o o' : List Ru}, Srt o → Srt o' → (∀ x, x ∈ o ↔ x ∈ o') → o = o'
  | [], [], _, _, _ => rfl
  | [], x :: t, _, _, h => absurd ((h x).2 (by simp)) (by simp)
  | x :: t, [], _, _, h => absurd ((h x).1 (by simp)) (by simp)
  | x :: t, y :: u, h1, h2, h => by
    have p1 := List.pairwise_cons.1 h1
    have p2 := List.pairwise_cons.1 h2
    have e : x = y := by
      rcases List.mem_cons.1 ((h x).1 (by simp)) with e | hx
      · exact e
      · rcases List.mem_cons.1 ((h y).2 (by simp)) with e | hy
        · exact e.symm
        · exact absurd (slt_trans (p1.1 y hy) (p2.1 x hx)) (slt_irr x)
    subst e
    rw [srt_ext p1.2 p2.2 (fun z => by
      constructor
      · intro hz
        rcases List.mem_cons.1 ((h z).1 (by simp [hz])) with rfl | h'
        · exact absurd (p1.1 z hz) (slt_irr z)
        · exact h'
      · intro hz
        rcases List.mem_cons.1 ((h z).2 (by simp [hz])) with rfl | h'
        · exact absurd (p2.1 z hz) (slt_irr z)
        · exact h')]
theorem norm_len (l : List Ru) : (norm l).length ≤ l.length := by
  refine snoc_ind (p := fun l => (norm l).length ≤ l.length) (Nat.le_refl _) (fun l r ih => ?_) l
  rw [norm_snoc]
  split
  · have hs := norm_srt l
    by_cases h : ∃ x ∈ norm l, ssame x r
    · obtain ⟨x, rest, q1, q2, q3, q4⟩ := nins_old hs h
      rw [q4.length_eq]
      have := q3.length_eq
      simp at this ⊢
      omega
    · rw [(nins_new (fun x hx hs => h ⟨x, hx, hs⟩)).length_eq]
      simp; omega
  · simp; omega
theorem norm_ok {l : List Ru} (h : ∀ r ∈ l, r.ok) : ∀ r ∈ norm l, r.ok := fun r hr => h r (norm_mem.1 hr).1
end Go.Eng.Tryd
set_option linter.unusedVariables false
set_option linter.unusedSimpArgs false
namespace Go.Eng.Tryd
open Go Go.Eng Go.Proofs Go.RowKit
attribute [local go_sem] evFold rnE ksE roundE frz frzs List.set_cons_zero List.set_cons_succ List.zip_cons_cons List.zip_nil_right List.foldl_cons List.foldl_nil D.flat rns AV.rn HO.rn AV.ks kss HO.ks sg dedup objKs reach passE fresh List.filter fnOf evOp opnd lk v2d v2ds just evBin intBin nilBin isNil strBin evUn evLoad ldD ldA evStore evField evIndex evBuild fillA evBuildSlice evBuildSliceX evBuildSliceT isOwn1 evAppendTX evAppendTT evAppend evAppendClip elems evMake evSlice evSliceO evSliceX evSliceY evViewV evStoreX evStoreT stT stI evCopyT evAppendT evAppendTD ldT ldI Tb.inn Tb.ilen Tb.nilAt Tb.ini D.put evCut evView evCopy evAppendV evAgg evMakeMap evLookup evMapUpd evRange evEntry cellsD AV.kb splice List.getLast?_append resM resAs resA resD keepL List.replicate_zero List.take_length ofInt evLen evMin evMax evConv evNil evExtract evBuiltin toD toDs allD pack splice D.comps AV.comps AV.sto D.cell D.rebuild inOrder allFlat del put setE eff gd gslot kills Option.map_some Option.map_none Option.bind_some Option.isSome_some List.map_cons List.map_nil List.append_nil List.nil_append List.cons_append List.length_cons List.length_nil List.length_map List.length_append List.take_zero List.take_succ_cons List.take_nil List.drop_zero List.drop_succ_cons List.drop_nil List.getElem?_cons_zero List.getElem?_cons_succ List.getElem?_map List.all_cons List.all_nil List.mem_cons List.not_mem_nil List.elem_cons List.elem_nil Bool.and_true Bool.true_and Bool.and_self Bool.not_true Bool.not_false Bool.or_true Bool.or_false and_self and_true true_and or_false false_or or_true true_or not_false_eq_true not_true_eq_false if_true if_false decide_true decide_false decide_eq_true_eq Int.toNat_natCast Int.toNat_zero beq_self_eq_true bne_self_eq_false Bool.false_eq_true Nat.add_zero Nat.zero_add tys room le_i lt_i eq_n le_n lt_n len0 gdE bb_tf bb_ft mapP arrL if_min tdiv_nn tmod_nn us_len us_get wrap_i64 wrap_u64 dec_lt dec_nlt dec_le dec_nle beq_t beq_f bne_t bne_f get_lt gt_iff_lt ge_iff_le
attribute [local go_sem ↓] map_P reduceIte
attribute [local go_sem] reduceCtorEq Nat.reduceEqDiff Nat.reduceAdd Nat.reduceSub Nat.reduceMul Nat.reduceLeDiff Nat.reduceLT Nat.reduceBEq Nat.reduceBNe Int.reduceToNat Int.reduceLT Int.reduceLE Int.reduceEq Int.reduceAdd Int.reduceSub Int.reduceNeg Int.reduceBEq Int.reduceBNe
end Go.Eng.Tryd
set_option linter.unusedVariables false
set_option linter.unusedSimpArgs false
namespace Go.Eng.Tryd
open Go Go.Eng Go.Proofs Go.RowKit
open Go.Maps (Keyed)
attribute [local go_sem] tys
theorem rs_len {l : List Ru} : (rs l).length = l.length := by simp [rs]
theorem rs_get {l : List Ru} {k : Nat} (h : k < l.length) : (rs l)[k]? = some (.agg [.sl 1 (is (l[k]!).left), .sl 1 (is (l[k]!).right), .int .u64 (l[k]!).cost]) := by
  simp [rs, ru, List.getElem?_eq_getElem h, getElem!_pos l k h]
theorem rs_snoc {l : List Ru} {r : Ru} : rs l ++ [.agg [.sl 1 (is r.left), .sl 1 (is r.right), .int .u64 r.cost]] = rs (l ++ [r]) := by simp [rs, ru]
attribute [local go_sem] is_len is_get rs_len rs_get rs_snoc
theorem rok_get {l : List Ru} (h : ∀ r ∈ l, r.ok) {k : Nat} (hk : k < l.length) : (l[k]!).ok := by
  rw [getElem!_pos l k hk]; exact h _ (List.getElem_mem hk)
/-- A map's entries. -/
def em (ms : List Ru) : List (D × D) := ms.map fun r => (bd r.left r.right, .int .u64 r.cost)
theorem em_len (ms : List Ru) : (em ms).length = ms.length := by simp [em]
/-- What the map has. -/
def Ms (ms : List Ru) : Prop := (∀ r ∈ ms, rok r = true) ∧ ms.Pairwise (fun a b => ¬ ssame a b)
theorem rok_fits {r : Ru} (h : rok r = true) : fits r.left ∧ fits r.right := by
  obtain ⟨h1, h2, _, _⟩ := rok_iff.1 h
  have f1 := fits_s8 r.left
  have f2 := fits_s8 r.right
  rw [s8_t h1] at f1
  rw [s8_t h2] at f2
  exact ⟨f1, f2⟩
theorem em_nodup {ms : List Ru} (h : Ms ms) : ((em ms).map (·.1)).Nodup := by
  unfold em
  rw [List.map_map]
  rw [List.Nodup, List.pairwise_map]
  refine h.2.imp_of_mem (fun {a b} ha hb hn he => hn ?_)
  obtain ⟨f1, f2⟩ := rok_fits (h.1 a ha)
  exact bd_inj f1.1 f2.1 he
/-- What some sides cost. -/
def fget : List Ru → List Int → List Int → Option Int
  | [], _, _ => none
  | x :: t, a, b => if x.left = a ∧ x.right = b then some x.cost else fget t a b
theorem mget_em {ms : List Ru} (h : ∀ r ∈ ms, rok r = true) (a b : List Int) : mget (em ms) (bd a b) = (fget ms a b).map (D.int .u64) := by
  induction ms with
  | nil => rfl
  | cons x t ih =>
    obtain ⟨f1, f2⟩ := rok_fits (h x (by simp))
    simp only [em, List.map_cons, mget, fget]
    by_cases hx : x.left = a ∧ x.right = b
    · rw [if_pos hx, if_pos (by rw [hx.1, hx.2])]; rfl
    · rw [if_neg hx, if_neg (fun e => hx (bd_inj f1.1 f2.1 e))]
      exact ih (fun r hr => h r (by simp [hr]))
def nset : List Ru → Ru → List Ru
  | [], r => [r]
  | x :: t, r => if ssame x r then r :: t else x :: nset t r
theorem mput_em {ms : List Ru} (h : ∀ r ∈ ms, rok r = true) (r : Ru) : mput (em ms) (bd r.left r.right) (.int .u64 r.cost) = em (nset ms r) := by
  induction ms with
  | nil => rfl
  | cons x t ih =>
    obtain ⟨f1, f2⟩ := rok_fits (h x (by simp))
    simp only [em, List.map_cons, mput, nset]
    by_cases hx : ssame x r
    · rw [if_pos hx, if_pos (by rw [hx.1, hx.2])]; rfl
    · rw [if_neg hx, if_neg (fun e => hx (bd_inj f1.1 f2.1 e))]
      simp only [List.map_cons]
      rw [← show em t = t.map _ from rfl, ih (fun r hr => h r (by simp [hr]))]
      rfl
theorem nput_none {ms : List Ru} {r : Ru} (h : fget ms r.left r.right = none) : nput ms r = nset ms r := by
  induction ms with
  | nil => rfl
  | cons x t ih =>
    simp only [fget] at h
    split at h
    · cases h
    · rename_i hx
      simp only [nput, nset]
      rw [if_neg (show ¬ ssame x r from hx), if_neg (show ¬ ssame x r from hx), ih h]
theorem nput_less {ms : List Ru} {r : Ru} {c : Int} (h : fget ms r.left r.right = some c) (hc : r.cost < c) : nput ms r = nset ms r := by
  induction ms with
  | nil => rfl
  | cons x t ih =>
    simp only [fget] at h
    simp only [nput, nset]
    split at h
    · rename_i hx
      cases h
      rw [if_pos (show ssame x r from hx), if_pos (show ssame x r from hx)]
      unfold best
      rw [if_pos hc]
    · rename_i hx
      rw [if_neg (show ¬ ssame x r from hx), if_neg (show ¬ ssame x r from hx), ih h]
theorem nput_keep {ms : List Ru} {r : Ru} {c : Int} (h : fget ms r.left r.right = some c) (hc : ¬ r.cost < c) : nput ms r = ms := by
  induction ms with
  | nil => simp [fget] at h
  | cons x t ih =>
    simp only [fget] at h
    simp only [nput]
    split at h
    · rename_i hx
      cases h
      rw [if_pos (show ssame x r from hx)]
      unfold best
      rw [if_neg hc]
    · rename_i hx
      rw [if_neg (show ¬ ssame x r from hx), ih h]
theorem norm1_ms (l : List Ru) : Ms (norm1 l) := by
  refine ⟨fun r hr => ?_, ?_⟩
  · exact (norm_mem.1 ((norm_perm l).mem_iff.2 hr)).2.1
  · exact ((norm_perm l).pairwise_iff (fun {a b} h h' => h (ssame_symm h'))).1 (srt_diff (norm_srt l))
theorem rtake_snoc {l : List Ru} {k : Nat} (h : k < l.length) : l.take (k + 1) = l.take k ++ [l[k]!] := by
  rw [List.take_add_one, List.getElem?_eq_getElem h, ← getElem!_pos l k h]; rfl
theorem norm1_step {l : List Ru} {k : Nat} (h : k < l.length) : norm1 (l.take (k + 1)) = if rok (l[k]!) = true then nput (norm1 (l.take k)) (l[k]!) else norm1 (l.take k) := by
  rw [rtake_snoc h, norm1_snoc]
theorem view_side {a : List Int} (h : a.length ≤ 8) (rest : List AV) : cellsD (((AV.d (.int .i64 (gi a 0)) :: AV.d (.int .i64 (gi a 1)) :: AV.d (.int .i64 (gi a 2)) :: AV.d (.int .i64 (gi a 3)) :: AV.d (.int .i64 (gi a 4)) :: AV.d (.int .i64 (gi a 5)) :: AV.d (.int .i64 (gi a 6)) :: AV.d (.int .i64 (gi a 7)) :: rest)).take a.length) = some (is a) := by
  rcases a with _ | ⟨a0, _ | ⟨a1, _ | ⟨a2, _ | ⟨a3, _ | ⟨a4, _ | ⟨a5, _ | ⟨a6, _ | ⟨a7, _⟩⟩⟩⟩⟩⟩⟩⟩
  · simp [gi, is, cellsD, D.cell]
  · simp [gi, is, cellsD, D.cell]
  · simp [gi, is, cellsD, D.cell]
  · simp [gi, is, cellsD, D.cell]
  · simp [gi, is, cellsD, D.cell]
  · simp [gi, is, cellsD, D.cell]
  · simp [gi, is, cellsD, D.cell]
  · simp [gi, is, cellsD, D.cell]
  rename_i r
  rcases r with _ | ⟨b, r⟩
  · simp [gi, is, cellsD, D.cell]
  · exfalso; simp only [List.length_cons] at h; omega
theorem em_get {ms : List Ru} {i : Nat} {kd vd : D} (h : (em ms)[i]? = some (kd, vd)) : i < ms.length ∧ kd = bd (ms[i]!).left (ms[i]!).right ∧ vd = .int .u64 (ms[i]!).cost := by
  unfold em at h
  rw [List.getElem?_map] at h
  obtain ⟨r, hr, he⟩ := Option.map_eq_some_iff.1 h
  have hi := (List.getElem?_eq_some_iff.1 hr).1
  have : ms[i]! = r := by rw [getElem!_pos ms i hi]; exact (List.getElem?_eq_some_iff.1 hr).2
  rw [this]
  cases he
  exact ⟨hi, rfl, rfl⟩
theorem seen_perm {ms : List Ru} {x : List Nat} (h1 : x.Nodup) (h2 : ∀ i ∈ x, i < ms.length) (h3 : ∀ i, i < ms.length → i ∈ x) : ms.Perm (x.map (ms[·]!)) := by
  have hp : (List.range ms.length).Perm x := (List.perm_ext_iff_of_nodup List.nodup_range h1).2 fun i => by
    rw [List.mem_range]; exact ⟨h3 i, h2 i⟩
  have hm : (List.range ms.length).map (ms[·]!) = ms := List.ext_getElem? fun i => by
    by_cases hi : i < ms.length
    · rw [List.getElem?_map, List.getElem?_range hi, List.getElem?_eq_getElem hi, Option.map_some, getElem!_pos ms i hi]
    · rw [List.getElem?_eq_none (by simp; omega), List.getElem?_eq_none (by omega)]
  have := hp.map (ms[·]!)
  rwa [hm] at this
theorem seen_len {n : Nat} {x : List Nat} (h1 : x.Nodup) (h2 : ∀ i ∈ x, i < n) : x.length ≤ n := by
  have := (List.nodup_range (n := n))
  clear this
  induction n generalizing x with
  | zero =>
    cases x with
    | nil => simp
    | cons a t => exact absurd (h2 a (by simp)) (Nat.not_lt_zero _)
  | succ n ih =>
    by_cases hn : n ∈ x
    · have h3 := List.perm_cons_erase hn
      have h4 : (n :: x.erase n).Nodup := h3.nodup_iff.1 h1
      have h5 := List.nodup_cons.1 h4
      have := ih h5.2 (fun i hi => by
        have h6 := h2 i (h3.mem_iff.2 (by simp [hi]))
        have : i ≠ n := fun e => h5.1 (e ▸ hi)
        omega)
      rw [h3.length_eq]
      simp only [List.length_cons]
      omega
    · have := ih h1 (fun i hi => by
        have h6 := h2 i hi
        have : i ≠ n := fun e => hn (e ▸ hi)
        omega)
      omega
theorem is_flat {a : List Int} : (is a).all D.flat = true := by simp [is, D.flat]
/-- A slice of a variable, in memory of its own. -/
theorem pCloneV {cs : List AV} {off : Nat} {a : List Int} (h : cellsD ((cs.drop off).take a.length) = some (is a)) (hl : a.length ≤ 1000000) :
    SoundM Tryd.prog 23 [.vs 0 off a.length] [(0, .var cs)] (.own 2001 a.length) [(0, .var cs), (2001, .row 3 1 (is a))] 1 := by
  refine SoundM.run (N := 8) (ks := [0, 2001]) Tryd.func23 rfl (by kernel_rfl) rfl rfl rfl (by first | exact argsA_0 | exact argsA_1 | exact argsA_2 | exact argsA_3 | exact argsA_4 | exact argsA_5 | exact argsA_6) fun X_ ν_ w_ => ?_
  repeat (first | with_reducible exact Ev.nil | with_reducible exact gd_n | ((with_reducible apply lk_ok); rfl) | ((with_reducible apply gslot_ok); rfl) | ((with_reducible apply v2d_ok); rfl) | with_reducible apply then_n | with_reducible apply WP_seq | with_reducible apply WP_skip | ((with_reducible apply WP_r (N := 8) rfl rfl); (focus simp only [Nat.reduceAdd] <;> rfl)) | ((with_reducible apply WP_d (N := 8) mixed rfl rfl); (focus simp only [Nat.reduceAdd] <;> rfl)) | ((with_reducible apply Ev_s); (focus first | (apply gd_u; (focus rfl); rfl) | (apply gd_f; (focus rfl); (focus rfl); rfl))) | ((with_reducible apply Ev_sn); (focus first | (apply gd_u; (focus rfl); rfl) | (apply gd_f; (focus rfl); (focus rfl); rfl))) | with_reducible apply gd_t | with_reducible apply Ev_mv | with_reducible apply Ev_as | with_reducible apply Ev_mc | with_reducible apply Ev_ac | ((first | (with_reducible apply Ev_pt) | (with_reducible apply Ev_ptc)); (focus rfl)) | ((first | (with_reducible apply Ev_pf) | (with_reducible apply Ev_pfc)); (focus rfl)) | ((with_reducible apply Ev_d); (focus simp only [Nat.reduceAdd] <;> rfl); (focus simp (disch := omega) only [go_sem, h, is_flat, ne_eq] <;> rfl)) | ((first | (with_reducible apply Ev_od) | (with_reducible apply Ev_on)); (focus simp only [Nat.reduceAdd] <;> rfl); (focus simp (disch := omega) only [go_sem, h, is_flat, ne_eq] <;> rfl); (focus first | (simp (disch := omega) only [go_sem, h, is_flat, ne_eq] <;> rfl) | rfl)) | with_reducible apply endM_n | with_reducible apply endM_r | with_reducible apply then_r | with_reducible apply then_x | with_reducible apply block_n | with_reducible apply block_r | with_reducible apply block_x | with_reducible apply block_y rfl | with_reducible apply scope_n | with_reducible apply scope_r | with_reducible apply scope_x | with_reducible apply end_n | with_reducible apply end_r | with_reducible apply WP_block | with_reducible apply WP_exit | with_reducible apply WP_ret | with_reducible apply WP_label | with_reducible apply WP_scope | ((with_reducible apply WP_t); (focus first | (simp (disch := omega) only [go_sem, h, is_flat, ne_eq] <;> rfl) | rfl)) | ((with_reducible apply WP_f); (focus first | (simp (disch := omega) only [go_sem, h, is_flat, ne_eq] <;> rfl) | rfl)) | ((with_reducible apply resD_t); (focus rfl)) | ((with_reducible apply resD_2); (focus rfl); (focus rfl)) | (with_reducible rfl) | ((with_reducible show List.map outKeys _ = _); simp only [List.map_cons, List.map_nil, outKeys, keys]; rfl) | ((with_reducible show orderOk _ _ = true); kernel_rfl) | ((with_reducible show _ = _); simp (disch := omega) only [go_sem, h, is_flat, ne_eq] <;> rfl) | ((fail_if_success (with_reducible show Ev _ _ _ _ (_ :: _) _ _ _ _ _)); (show Ev _ _ _ _ (_ :: _) _ _ _ _ _)) | fail)
end Go.Eng.Tryd
set_option linter.unusedVariables false
set_option linter.unusedSimpArgs false
namespace Go.Eng.Tryd
open Go Go.Eng Go.Proofs Go.RowKit
attribute [local go_sem] evFold rnE ksE roundE frz frzs List.set_cons_zero List.set_cons_succ List.zip_cons_cons List.zip_nil_right List.foldl_cons List.foldl_nil D.flat rns AV.rn HO.rn AV.ks kss HO.ks sg dedup objKs reach passE fresh List.filter fnOf evOp opnd lk v2d v2ds just evBin intBin nilBin isNil strBin evUn evLoad ldD ldA evStore evField evIndex evBuild fillA evBuildSlice evBuildSliceX evBuildSliceT isOwn1 evAppendTX evAppendTT evAppend evAppendClip elems evMake evSlice evSliceO evSliceX evSliceY evViewV evStoreX evStoreT stT stI evCopyT evAppendT evAppendTD ldT ldI Tb.inn Tb.ilen Tb.nilAt Tb.ini D.put evCut evView evCopy evAppendV evAgg evMakeMap evLookup evMapUpd evRange evEntry cellsD AV.kb splice List.getLast?_append resM resAs resA resD keepL List.replicate_zero List.take_length ofInt evLen evMin evMax evConv evNil evExtract evBuiltin toD toDs allD pack splice D.comps AV.comps AV.sto D.cell D.rebuild inOrder allFlat del put setE eff gd gslot kills Option.map_some Option.map_none Option.bind_some Option.isSome_some List.map_cons List.map_nil List.append_nil List.nil_append List.cons_append List.length_cons List.length_nil List.length_map List.length_append List.take_zero List.take_succ_cons List.take_nil List.drop_zero List.drop_succ_cons List.drop_nil List.getElem?_cons_zero List.getElem?_cons_succ List.getElem?_map List.all_cons List.all_nil List.mem_cons List.not_mem_nil List.elem_cons List.elem_nil Bool.and_true Bool.true_and Bool.and_self Bool.not_true Bool.not_false Bool.or_true Bool.or_false and_self and_true true_and or_false false_or or_true true_or not_false_eq_true not_true_eq_false if_true if_false decide_true decide_false decide_eq_true_eq Int.toNat_natCast Int.toNat_zero beq_self_eq_true bne_self_eq_false Bool.false_eq_true Nat.add_zero Nat.zero_add tys room le_i lt_i eq_n le_n lt_n len0 gdE bb_tf bb_ft mapP arrL if_min tdiv_nn tmod_nn us_len us_get wrap_i64 wrap_u64 dec_lt dec_nlt dec_le dec_nle beq_t beq_f bne_t bne_f get_lt gt_iff_lt ge_iff_le
attribute [local go_sem ↓] map_P reduceIte
attribute [local go_sem] reduceCtorEq Nat.reduceEqDiff Nat.reduceAdd Nat.reduceSub Nat.reduceMul Nat.reduceLeDiff Nat.reduceLT Nat.reduceBEq Nat.reduceBNe Int.reduceToNat Int.reduceLT Int.reduceLE Int.reduceEq Int.reduceAdd Int.reduceSub Int.reduceNeg Int.reduceBEq Int.reduceBNe
attribute [local go_sem] is_len is_get rs_len rs_get rs_snoc
def few1 (r : Ru) : Bool := decide (r.left.length ≤ 100) && decide (r.right.length ≤ 100)
theorem few1_t {r : Ru} (h1 : r.left.length ≤ 100) (h2 : r.right.length ≤ 100) : few1 r = true := by simp [few1, h1, h2]
theorem few1_f {r : Ru} (h : ¬ (r.left.length ≤ 100 ∧ r.right.length ≤ 100)) : few1 r = false := by
  cases hf : few1 r with
  | false => rfl
  | true => simp [few1] at hf; exact absurd hf h
def fewR (l : List Ru) (n : Int) : Bool := l.all few1 && decide ((l.length : Int) ≤ n)
theorem fewR_step {l : List Ru} {k : Nat} (h : k < l.length) : (l.take (k + 1)).all few1 = ((l.take k).all few1 && few1 (l[k]!)) := by
  rw [List.take_add_one, List.all_append, List.getElem?_eq_getElem h, ← getElem!_pos l k h]
  generalize l[k]! = z
  simp
theorem fewR_f {l : List Ru} {k : Nat} {n : Int} (h : k < l.length) (hf : few1 (l[k]!) = false) : fewR l n = false := by
  have hm : l[k]! ∈ l := by rw [getElem!_pos l k h]; exact List.getElem_mem h
  cases hh : fewR l n with
  | false => rfl
  | true =>
    simp only [fewR, Bool.and_eq_true, List.all_eq_true] at hh
    have := hh.1 _ hm
    rw [hf] at this; cases this
theorem ru_take {a b : List Ru} {k : Nat} (hk : k < a.length) (hl : a.length = b.length) (h : a.take k = b.take k) (he : a[k]! = b[k]!) : a.take (k + 1) = b.take (k + 1) := by
  rw [rtake_snoc hk, rtake_snoc (by omega), h, he]
theorem ru_at {a b : List Ru} {k : Nat} (h : a[k]! ≠ b[k]!) : a ≠ b := fun e => h (by rw [e])
def turn1 (r : Ru) : Ru := ⟨r.right, r.left, r.cost⟩
end Go.Eng.Tryd

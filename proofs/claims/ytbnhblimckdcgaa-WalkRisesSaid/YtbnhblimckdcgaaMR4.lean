/- Rules in order, in plain words. (and what stands behind it: texts laid together) -/
import Derived.Test.YtbnhblimckdcgaaMR3
import Derived.Test.YtbnhblimckdcgaaMG4
set_option linter.unusedVariables false
set_option linter.unusedSimpArgs false
namespace Go.Eng.Try
open Go Go.Eng Go.Proofs Go.RowKit
/-- The same sides. -/
def ssame (r s : Ru) : Prop := r.left = s.left ∧ r.right = s.right
instance (r s : Ru) : Decidable (ssame r s) := by unfold ssame; infer_instance
/-- Sides that stand ahead. -/
def slt (r s : Ru) : Prop := wcmp r.left s.left < 0 ∨ r.left = s.left ∧ wcmp r.right s.right < 0
instance (r s : Ru) : Decidable (slt r s) := by unfold slt; infer_instance
theorem slt_zero {r s : Ru} : slt r s ↔ rlt ⟨r.left, r.right, 0⟩ ⟨s.left, s.right, 0⟩ := by
  unfold slt rlt
  simp
theorem slt_irr (r : Ru) : ¬ slt r r := by rw [slt_zero]; exact rlt_irr _
theorem slt_trans {r s t : Ru} (h1 : slt r s) (h2 : slt s t) : slt r t := by rw [slt_zero] at *; exact rlt_trans h1 h2
theorem slt_total (r s : Ru) : slt r s ∨ ssame r s ∨ slt s r := by
  rw [slt_zero, slt_zero]
  rcases rlt_total ⟨r.left, r.right, 0⟩ ⟨s.left, s.right, 0⟩ with h | h | h
  · exact .inl h
  · simp at h; exact .inr (.inl h)
  · exact .inr (.inr h)
theorem ssame_slt {r s t : Ru} (h : ssame r s) : (slt r t ↔ slt s t) ∧ (slt t r ↔ slt t s) := by
  unfold slt
  rw [h.1, h.2]
  exact ⟨Iff.rfl, Iff.rfl⟩
theorem slt_not_same {r s : Ru} (h : slt r s) : ¬ ssame r s := fun e => slt_irr s (((ssame_slt e).1).1 h)
theorem ssame_symm {r s : Ru} (h : ssame r s) : ssame s r := ⟨h.1.symm, h.2.symm⟩
theorem ssame_trans {r s t : Ru} (h : ssame r s) (h' : ssame s t) : ssame r t := ⟨h.1.trans h'.1, h.2.trans h'.2⟩
theorem slt_rlt {r s : Ru} (h : slt r s) : rlt r s := by
  unfold slt at h
  unfold rlt
  rcases h with h | ⟨h, h'⟩
  · exact .inl h
  · exact .inr ⟨h, .inl h'⟩
theorem slt_nrlt {r s : Ru} (h : slt r s) : ¬ rlt s r := fun h' => rlt_irr _ (rlt_trans (slt_rlt h) h')
/-- The cheaper of two of one sides. -/
def best (x r : Ru) : Ru := if r.cost < x.cost then r else x
def nput : List Ru → Ru → List Ru
  | [], r => [r]
  | x :: t, r => if ssame x r then best x r :: t else x :: nput t r
def nins : List Ru → Ru → List Ru
  | [], r => [r]
  | x :: t, r => if slt x r then x :: nins t r else if ssame x r then best x r :: t else r :: x :: t
theorem nput_new {ms : List Ru} {r : Ru} (h : ∀ x ∈ ms, ¬ ssame x r) : nput ms r = ms ++ [r] := by
  induction ms with
  | nil => rfl
  | cons x t ih =>
    simp only [nput]
    rw [if_neg (h x (by simp)), ih (fun y hy => h y (by simp [hy]))]
    rfl
theorem nput_old {ms : List Ru} {r : Ru} (h : ∃ x ∈ ms, ssame x r) : ∃ x rest, x ∈ ms ∧ ssame x r ∧ ms.Perm (x :: rest) ∧ (nput ms r).Perm (best x r :: rest) := by
  induction ms with
  | nil => obtain ⟨x, hx, _⟩ := h; simp at hx
  | cons y t ih =>
    simp only [nput]
    by_cases hy : ssame y r
    · rw [if_pos hy]
      exact ⟨y, t, by simp, hy, List.Perm.refl _, List.Perm.refl _⟩
    · rw [if_neg hy]
      obtain ⟨x, rest, h1, h2, h3, h4⟩ := ih (by
        obtain ⟨x, hx, hs⟩ := h
        rcases List.mem_cons.1 hx with rfl | hx
        · exact absurd hs hy
        · exact ⟨x, hx, hs⟩)
      exact ⟨x, y :: rest, by simp [h1], h2, (h3.cons y).trans (List.Perm.swap _ _ _), (h4.cons y).trans (List.Perm.swap _ _ _)⟩
def Srt (o : List Ru) : Prop := o.Pairwise slt
theorem nins_new {o : List Ru} {r : Ru} (h : ∀ x ∈ o, ¬ ssame x r) : (nins o r).Perm (r :: o) := by
  induction o with
  | nil => exact List.Perm.refl _
  | cons x t ih =>
    simp only [nins]
    by_cases h1 : slt x r
    · rw [if_pos h1]
      exact ((ih (fun y hy => h y (by simp [hy]))).cons x).trans (List.Perm.swap _ _ _)
    · rw [if_neg h1, if_neg (h x (by simp))]
theorem nins_old {o : List Ru} {r : Ru} (hs : Srt o) (h : ∃ x ∈ o, ssame x r) : ∃ x rest, x ∈ o ∧ ssame x r ∧ o.Perm (x :: rest) ∧ (nins o r).Perm (best x r :: rest) := by
  induction o with
  | nil => obtain ⟨x, hx, _⟩ := h; simp at hx
  | cons y t ih =>
    have hp := List.pairwise_cons.1 hs
    simp only [nins]
    by_cases h1 : slt y r
    · rw [if_pos h1]
      obtain ⟨x, rest, q1, q2, q3, q4⟩ := ih hp.2 (by
        obtain ⟨x, hx, hs'⟩ := h
        rcases List.mem_cons.1 hx with rfl | hx
        · exact absurd hs' (slt_not_same h1)
        · exact ⟨x, hx, hs'⟩)
      exact ⟨x, y :: rest, by simp [q1], q2, (q3.cons y).trans (List.Perm.swap _ _ _), (q4.cons y).trans (List.Perm.swap _ _ _)⟩
    · rw [if_neg h1]
      by_cases h2 : ssame y r
      · rw [if_pos h2]
        exact ⟨y, t, by simp, h2, List.Perm.refl _, List.Perm.refl _⟩
      · exfalso
        obtain ⟨x, hx, hs'⟩ := h
        rcases List.mem_cons.1 hx with rfl | hx
        · exact h2 hs'
        · exact h1 (((ssame_slt hs').2).1 (hp.1 x hx))
theorem best_same {x r : Ru} (h : ssame x r) : ssame (best x r) r := by
  unfold best
  split
  · exact ⟨rfl, rfl⟩
  · exact h
theorem nins_mem {o : List Ru} {r x : Ru} (h : x ∈ nins o r) : x ∈ o ∨ x = r := by
  induction o with
  | nil => simp only [nins, List.mem_singleton] at h; exact .inr h
  | cons y t ih =>
    simp only [nins] at h
    split at h
    · rcases List.mem_cons.1 h with rfl | h
      · exact .inl (by simp)
      · rcases ih h with h | h
        · exact .inl (by simp [h])
        · exact .inr h
    · split at h
      · rcases List.mem_cons.1 h with rfl | h
        · unfold best
          split
          · exact .inr rfl
          · exact .inl (by simp)
        · exact .inl (by simp [h])
      · rcases List.mem_cons.1 h with rfl | h
        · exact .inr rfl
        · exact .inl h
theorem nins_srt {o : List Ru} {r : Ru} (hs : Srt o) : Srt (nins o r) := by
  induction o with
  | nil => simp [nins, Srt]
  | cons y t ih =>
    have hp := List.pairwise_cons.1 hs
    simp only [nins]
    by_cases h1 : slt y r
    · rw [if_pos h1]
      refine List.pairwise_cons.2 ⟨fun z hz => ?_, ih hp.2⟩
      rcases nins_mem hz with h | rfl
      · exact hp.1 z h
      · exact h1
    · rw [if_neg h1]
      by_cases h2 : ssame y r
      · rw [if_pos h2]
        refine List.pairwise_cons.2 ⟨fun z hz => ?_, hp.2⟩
        exact ((ssame_slt (ssame_trans (best_same h2) (ssame_symm h2))).1).2 (hp.1 z hz)
      · rw [if_neg h2]
        have h3 : slt r y := by
          rcases slt_total y r with h | h | h
          · exact absurd h h1
          · exact absurd h h2
          · exact h
        refine List.pairwise_cons.2 ⟨fun z hz => ?_, hs⟩
        rcases List.mem_cons.1 hz with rfl | hz
        · exact h3
        · exact slt_trans h3 (hp.1 z hz)
/-- Rules in order. -/
def norm (l : List Ru) : List Ru := l.foldl (fun o r => if rok r = true then nins o r else o) []
/-- The same, as they come. -/
def norm1 (l : List Ru) : List Ru := l.foldl (fun o r => if rok r = true then nput o r else o) []
theorem norm_snoc (l : List Ru) (r : Ru) : norm (l ++ [r]) = if rok r = true then nins (norm l) r else norm l := by simp [norm]
theorem norm1_snoc (l : List Ru) (r : Ru) : norm1 (l ++ [r]) = if rok r = true then nput (norm1 l) r else norm1 l := by simp [norm1]
theorem snoc_ind {p : List Ru → Prop} (h0 : p []) (h1 : ∀ l r, p l → p (l ++ [r])) (l : List Ru) : p l := by
  rw [← List.reverse_reverse l]
  induction l.reverse with
  | nil => exact h0
  | cons r t ih => rw [List.reverse_cons]; exact h1 _ _ ih
theorem norm_srt (l : List Ru) : Srt (norm l) := by
  refine snoc_ind (p := fun l => Srt (norm l)) ?_ (fun l r ih => ?_) l
  · exact List.Pairwise.nil
  · rw [norm_snoc]
    split
    · exact nins_srt ih
    · exact ih
theorem srt_diff {o : List Ru} (h : Srt o) : o.Pairwise (fun a b => ¬ ssame a b) := h.imp slt_not_same
theorem norm_perm (l : List Ru) : (norm l).Perm (norm1 l) := by
  refine snoc_ind (p := fun l => (norm l).Perm (norm1 l)) (List.Perm.refl _) (fun l r ih => ?_) l
  rw [norm_snoc, norm1_snoc]
  split
  · have hs := norm_srt l
    generalize norm l = o at ih hs
    generalize norm1 l = ms at ih
    by_cases h : ∃ x ∈ o, ssame x r
    · obtain ⟨x, rest, q1, q2, q3, q4⟩ := nins_old hs h
      obtain ⟨x', rest', p1, p2, p3, p4⟩ := nput_old (ms := ms) (r := r) (by obtain ⟨x, hx, h⟩ := h; exact ⟨x, ih.mem_iff.1 hx, h⟩)
      have hd := srt_diff hs
      have hd' : (x :: rest).Pairwise (fun a b => ¬ ssame a b) := (q3.pairwise_iff (fun {a b} h h' => h (ssame_symm h'))).1 hd
      have hx' : x' ∈ x :: rest := q3.mem_iff.1 (ih.mem_iff.2 p1)
      have : x' = x := by
        rcases List.mem_cons.1 hx' with e | hx'
        · exact e
        · exact absurd (ssame_trans q2 (ssame_symm p2)) ((List.pairwise_cons.1 hd').1 x' hx')
      subst this
      have hr : rest.Perm rest' := (List.perm_cons x').1 (q3.symm.trans (ih.trans p3))
      exact q4.trans ((hr.cons _).trans p4.symm)
    · have h1 : ∀ x ∈ o, ¬ ssame x r := fun x hx hs => h ⟨x, hx, hs⟩
      have h2 : ∀ x ∈ ms, ¬ ssame x r := fun x hx => h1 x (ih.mem_iff.2 hx)
      rw [nput_new h2]
      exact (nins_new h1).trans ((ih.cons r).trans (List.perm_append_singleton r ms).symm)
  · exact ih
theorem norm_rise (l : List Ru) : (norm l).Pairwise (fun a b => ¬ rlt b a) := (norm_srt l).imp slt_nrlt
theorem cheapest {l : List Ru} {r : Ru} (h : ∃ y ∈ l, rok y = true ∧ ssame y r) : ∃ m ∈ l, rok m = true ∧ ssame m r ∧ ∀ z ∈ l, rok z = true → ssame z r → m.cost ≤ z.cost := by
  induction l with
  | nil => obtain ⟨y, hy, _⟩ := h; simp at hy
  | cons a t iht =>
    by_cases hex : ∃ y ∈ t, rok y = true ∧ ssame y r
    · obtain ⟨m, m1, m2, m3, m4⟩ := iht hex
      by_cases ha : rok a = true ∧ ssame a r ∧ a.cost < m.cost
      · refine ⟨a, by simp, ha.1, ha.2.1, fun z hz hzo hzs => ?_⟩
        rcases List.mem_cons.1 hz with rfl | hz
        · exact Int.le_refl _
        · have := m4 z hz hzo hzs; omega
      · refine ⟨m, by simp [m1], m2, m3, fun z hz hzo hzs => ?_⟩
        rcases List.mem_cons.1 hz with rfl | hz
        · by_cases hc : z.cost < m.cost
          · exact absurd ⟨hzo, hzs, hc⟩ ha
          · omega
        · exact m4 z hz hzo hzs
    · obtain ⟨y, hy, hyo, hys⟩ := h
      rcases List.mem_cons.1 hy with rfl | hy
      · refine ⟨y, by simp, hyo, hys, fun z hz hzo hzs => ?_⟩
        rcases List.mem_cons.1 hz with rfl | hz
        · exact Int.le_refl _
        · exact absurd ⟨z, hz, hzo, hzs⟩ hex
      · exact absurd ⟨y, hy, hyo, hys⟩ hex
/-- What is in order: of each sides the cheapest one. -/
theorem norm_mem {l : List Ru} {x : Ru} : x ∈ norm l ↔ x ∈ l ∧ rok x = true ∧ ∀ y ∈ l, rok y = true → ssame y x → x.cost ≤ y.cost := by
  revert x
  refine snoc_ind (p := fun l => ∀ {x : Ru}, x ∈ norm l ↔ x ∈ l ∧ rok x = true ∧ ∀ y ∈ l, rok y = true → ssame y x → x.cost ≤ y.cost) (fun {x} => by simp [norm]) (fun l r ih {x} => ?_) l
  rw [norm_snoc]
  by_cases hr : rok r = true
  · rw [if_pos hr]
    have hs := norm_srt l
    by_cases h : ∃ z ∈ norm l, ssame z r
    · obtain ⟨z, rest, q1, q2, q3, q4⟩ := nins_old hs h
      have hd' : (z :: rest).Pairwise (fun a b => ¬ ssame a b) := (q3.pairwise_iff (fun {a b} h h' => h (ssame_symm h'))).1 (srt_diff hs)
      have hzr := (List.pairwise_cons.1 hd').1
      have hz := ih.1 q1
      have hrest : ∀ y, y ∈ rest ↔ y ∈ norm l ∧ ¬ ssame y r := fun y => by
        constructor
        · intro hy
          exact ⟨q3.mem_iff.2 (by simp [hy]), fun e => hzr y hy (ssame_trans q2 (ssame_symm e))⟩
        · intro ⟨hy, hn⟩
          rcases List.mem_cons.1 (q3.mem_iff.1 hy) with rfl | h
          · exact absurd q2 hn
          · exact h
      rw [q4.mem_iff, List.mem_cons, hrest, ih]
      constructor
      · rintro (rfl | ⟨⟨h1, h2, h3⟩, h4⟩)
        · unfold best
          split
          · rename_i hc
            refine ⟨by simp, hr, fun y hy hyo hys => ?_⟩
            rcases List.mem_append.1 hy with hy | hy
            · have := hz.2.2 y hy hyo (ssame_trans hys (ssame_symm q2)); omega
            · rw [List.mem_singleton.1 hy]; exact Int.le_refl _
          · rename_i hc
            refine ⟨by simp [hz.1], hz.2.1, fun y hy hyo hys => ?_⟩
            rcases List.mem_append.1 hy with hy | hy
            · exact hz.2.2 y hy hyo hys
            · rw [List.mem_singleton.1 hy]; omega
        · refine ⟨by simp [h1], h2, fun y hy hyo hys => ?_⟩
          rcases List.mem_append.1 hy with hy | hy
          · exact h3 y hy hyo hys
          · rw [List.mem_singleton.1 hy] at hys; exact absurd (ssame_symm hys) h4
      · rintro ⟨h1, h2, h3⟩
        by_cases hxr : ssame x r
        · left
          have hxz := h3 z (by simp [hz.1]) hz.2.1 (ssame_trans q2 (ssame_symm hxr))
          have hxr' := h3 r (by simp) hr (ssame_symm hxr)
          have hcase : x = r ∨ x = z := by
            rcases List.mem_append.1 h1 with hx | hx
            · have := hz.2.2 x hx h2 (ssame_trans hxr (ssame_symm q2))
              right
              have e1 := hxr.1.trans q2.1.symm
              have e2 := hxr.2.trans q2.2.symm
              have e3 : x.cost = z.cost := by omega
              cases x; cases z; simp_all
            · exact .inl (List.mem_singleton.1 hx)
          unfold best
          rcases hcase with rfl | rfl
          · split
            · rfl
            · rename_i hc
              have e3 : x.cost = z.cost := by omega
              have := q2.1
              have := q2.2
              cases x; cases z; simp_all
          · rw [if_neg (by omega)]
        · right
          refine ⟨⟨?_, h2, fun y hy => h3 y (by simp [hy])⟩, hxr⟩
          rcases List.mem_append.1 h1 with hx | hx
          · exact hx
          · exact absurd (by rw [List.mem_singleton.1 hx]; exact ⟨rfl, rfl⟩) hxr
    · have hn : ∀ y ∈ norm l, ¬ ssame y r := fun y hy hs' => h ⟨y, hy, hs'⟩
      rw [(nins_new hn).mem_iff, List.mem_cons, ih]
      -- none of the elder ones has these sides
      have hno : ∀ y ∈ l, rok y = true → ¬ ssame y r := by
        intro y hy hyo hys
        have := cheapest (l := l) (r := r) ⟨y, hy, hyo, hys⟩
        obtain ⟨m, m1, m2, m3, m4⟩ := this
        exact hn m (ih.2 ⟨m1, m2, fun z hz hzo hzs => m4 z hz hzo (ssame_trans hzs m3)⟩) m3
      constructor
      · rintro (rfl | ⟨h1, h2, h3⟩)
        · refine ⟨by simp, hr, fun y hy hyo hys => ?_⟩
          rcases List.mem_append.1 hy with hy | hy
          · exact absurd hys (hno y hy hyo)
          · rw [List.mem_singleton.1 hy]; exact Int.le_refl _
        · refine ⟨by simp [h1], h2, fun y hy hyo hys => ?_⟩
          rcases List.mem_append.1 hy with hy | hy
          · exact h3 y hy hyo hys
          · rw [List.mem_singleton.1 hy] at hys; exact absurd (ssame_symm hys) (hno x h1 h2)
      · rintro ⟨h1, h2, h3⟩
        rcases List.mem_append.1 h1 with hx | hx
        · exact .inr ⟨hx, h2, fun y hy => h3 y (by simp [hy])⟩
        · exact .inl (List.mem_singleton.1 hx)
  · rw [if_neg hr, ih]
    constructor
    · rintro ⟨h1, h2, h3⟩
      refine ⟨by simp [h1], h2, fun y hy hyo hys => ?_⟩
      rcases List.mem_append.1 hy with hy | hy
      · exact h3 y hy hyo hys
      · rw [List.mem_singleton.1 hy] at hyo; exact absurd hyo hr
    · rintro ⟨h1, h2, h3⟩
      refine ⟨?_, h2, fun y hy => h3 y (by simp [hy])⟩
      rcases List.mem_append.1 h1 with hx | hx
      · exact hx
      · rw [List.mem_singleton.1 hx] at h2; exact absurd h2 hr
/-- Rows of rules in order that have the same rules are the same. -/
theorem srt_ext : ∀ {o o' : List Ru}, Srt o → Srt o' → (∀ x, x ∈ o ↔ x ∈ o') → o = o'
  | [], [], _, _, _ => rfl
  | [], x :: t, _, _, h => absurd ((h x).2 (by simp)) (by simp)
  | x :: t, [], _, _, h => absurd ((h x).1 (by simp)) (by simp)
  | x :: t, y :: u, h1, h2, h => by
    have p1 := List.pairwise_cons.1 h1
    have p2 := List.pairwise_cons.1 h2
    have e : x = y := by
      rcases List.mem_cons.1 ((h x).1 (by simp)) with e | hx
      · exact e
      · rcases List.mem_cons.1 ((h y).2 (by simp)) with e | hy
        · exact e.symm
        · exact absurd (slt_trans (p1.1 y hy) (p2.1 x hx)) (slt_irr x)
    subst e
    rw [srt_ext p1.2 p2.2 (fun z => by
      constructor
      · intro hz
        rcases List.mem_cons.1 ((h z).1 (by simp [hz])) with rfl | h'
        · exact absurd (p1.1 z hz) (slt_irr z)
        · exact h'
      · intro hz
        rcases List.mem_cons.1 ((h z).2 (by simp [hz])) with rfl | h'
        · exact absurd (p2.1 z hz) (slt_irr z)
        · exact h')]
theorem norm_len (l : List Ru) : (norm l).length ≤ l.length := by
  refine snoc_ind (p := fun l => (norm l).length ≤ l.length) (Nat.le_refl _) (fun l r ih => ?_) l
  rw [norm_snoc]
  split
  · have hs := norm_srt l
    by_cases h : ∃ x ∈ norm l, ssame x r
    · obtain ⟨x, rest, q1, q2, q3, q4⟩ := nins_old hs h
      rw [q4.length_eq]
      have := q3.length_eq
      simp at this ⊢
      omega
    · rw [(nins_new (fun x hx hs => h ⟨x, hx, hs⟩)).length_eq]
      simp; omega
  · simp; omega
theorem norm_ok {l : List Ru} (h : ∀ r ∈ l, r.ok) : ∀ r ∈ norm l, r.ok := fun r hr => h r (norm_mem.1 hr).1
end Go.Eng.Try
set_option linter.unusedVariables false
set_option linter.unusedSimpArgs false
namespace Go.Eng.Try
open Go Go.Eng Go.Proofs Go.RowKit
attribute [local go_sem] tys
theorem bitsLen0 : Sound Try.prog 96 [.int .u64 0] (.int .i64 0) := by
  intro w M vs hM hl hv
  match vs, hl with
  | [v], _ =>
  have := hv 0 _ v rfl rfl
  cases this
  have L := Try.sortRule
  have eg : ∀ args w, (callFunc 96 args).run Try.prog w = .ok (.enter 96 args) w := enters_of Try.func96 (by kernel_rfl) rfl
  have h := Any.bits_Len (SlLaysF0.n15.bits (P := Try.prog) (ρ := Try.sortRule_ren) { L with }) (0 : Int) w (by decide) (by decide)
  refine .inr ⟨eg _ _, ?_⟩
  refine Calls.mono (P := Try.prog) h ?_
  rintro e w' ⟨rfl, rfl⟩
  exact ⟨_, rfl, .int _ _, Bl.refl _ _⟩
theorem ins0 : Sound Try.prog 114 [.sl 3 [], .int .i64 0, .int .i64 0, .fn 79] (.tup []) := by
  refine Sound.run (N := 53) Try.func114 rfl (by kernel_rfl) rfl rfl rfl (by first | exact args0_0 | exact args0_1 | exact args0_2 | exact args0_3 | exact args0_4 | exact args0_5 | exact args0_6) fun X_ w_ => ?_
  refine goT ?_; first | exact trivial | skip
  refine WP_once ?_
  refine goT ?_; first | exact trivial | skip
set_option maxRecDepth 10000 in
theorem pdq0 : Sound Try.prog 95 [.sl 3 [], .int .i64 0, .int .i64 0, .int .i64 0, .fn 79] (.tup []) := by
  refine Sound.run (N := 148) Try.func95 rfl (by kernel_rfl) rfl rfl rfl (by first | exact args0_0 | exact args0_1 | exact args0_2 | exact args0_3 | exact args0_4 | exact args0_5 | exact args0_6) fun X_ w_ => ?_
  have c0_ := ins0; refine goT ?_; first | exact trivial | skip
  refine WP_once ?_
  have c0_ := ins0; refine goT ?_; first | exact trivial | skip
set_option maxRecDepth 100000 in
theorem pSort0 : Sound Try.prog 78 [.sl 3 [], .fn 79] (.tup []) := by
  refine Sound.run (N := 14) Try.func78 rfl (by kernel_rfl) rfl rfl rfl (by first | exact args0_0 | exact args0_1 | exact args0_2 | exact args0_3 | exact args0_4 | exact args0_5 | exact args0_6) fun X_ w_ => ?_
  have c0_ := bitsLen0; have c1_ := pdq0; refine goT ?_; first | exact trivial | skip
end Go.Eng.Try

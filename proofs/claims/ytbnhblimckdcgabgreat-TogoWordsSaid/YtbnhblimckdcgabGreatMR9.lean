/- Rules in order: parts, and sides turned, in plain words. (and what stands behind it: texts laid together) -/
import Derived.Test.YtbnhblimckdcgabGreatMR8
import Derived.Test.YtbnhblimckdcgabGreatMG4
set_option linter.unusedVariables false
set_option linter.unusedSimpArgs false
namespace Go.Eng.Tryz
open Go Go.Eng Go.Proofs Go.RowKit
/-- Of each that may be there is one that costs no more. -/
def dom (A B : List Ru) : Prop := ∀ x ∈ A, rok x = true → ∃ y ∈ B, rok y = true ∧ ssame y x ∧ y.cost ≤ x.cost
theorem ru_eq {x y : Ru} (h : ssame x y) (hc : x.cost = y.cost) : x = y := by
  cases x; cases y
  simp only [ssame] at h hc
  rw [h.1, h.2, hc]
theorem dom_mem {A B : List Ru} (h1 : dom A B) (h2 : dom B A) {x : Ru} (hx : x ∈ norm A) : x ∈ norm B := by
  obtain ⟨a1, a2, a3⟩ := norm_mem.1 hx
  obtain ⟨y, b1, b2, b3, b4⟩ := h1 x a1 a2
  obtain ⟨z, c1, c2, c3, c4⟩ := h2 y b1 b2
  have := a3 z c1 c2 (ssame_trans c3 b3)
  have e : y = x := ru_eq b3 (by omega)
  subst e
  refine norm_mem.2 ⟨b1, a2, fun w hw hwo hws => ?_⟩
  obtain ⟨v, d1, d2, d3, d4⟩ := h2 w hw hwo
  have := a3 v d1 d2 (ssame_trans d3 hws)
  omega
theorem norm_dom {A B : List Ru} (h1 : dom A B) (h2 : dom B A) : norm A = norm B :=
  srt_ext (norm_srt A) (norm_srt B) fun x => ⟨dom_mem h1 h2, dom_mem h2 h1⟩
theorem dom_sub {A B : List Ru} (h : ∀ x ∈ A, x ∈ B) : dom A B := fun x hx ho => ⟨x, h x hx, ho, ⟨rfl, rfl⟩, Int.le_refl _⟩
theorem dom_norm (A : List Ru) : dom A (norm A) := fun x hx ho => by
  obtain ⟨m, m1, m2, m3, m4⟩ := cheapest (l := A) (r := x) ⟨x, hx, ho, ⟨rfl, rfl⟩⟩
  exact ⟨m, norm_mem.2 ⟨m1, m2, fun y hy hyo hys => m4 y hy hyo (ssame_trans hys m3)⟩, m2, m3, m4 x hx ho ⟨rfl, rfl⟩⟩
theorem norm_dom' (A : List Ru) : dom (norm A) A := dom_sub fun x hx => (norm_mem.1 hx).1
theorem dom_trans {A B C : List Ru} (h1 : dom A B) (h2 : dom B C) : dom A C := fun x hx ho => by
  obtain ⟨y, b1, b2, b3, b4⟩ := h1 x hx ho
  obtain ⟨z, c1, c2, c3, c4⟩ := h2 y b1 b2
  exact ⟨z, c1, c2, ssame_trans c3 b3, by omega⟩
theorem dom_app {A B C D : List Ru} (h1 : dom A C) (h2 : dom B D) : dom (A ++ B) (C ++ D) := fun x hx ho => by
  rcases List.mem_append.1 hx with h | h
  · obtain ⟨y, b1, b2⟩ := h1 x h ho
    exact ⟨y, by simp [b1], b2⟩
  · obtain ⟨y, b1, b2⟩ := h2 x h ho
    exact ⟨y, by simp [b1], b2⟩
theorem norm_norm (A : List Ru) : norm (norm A) = norm A := norm_dom (norm_dom' A) (dom_norm A)
theorem norm_swap (A B : List Ru) : norm (B ++ A) = norm (A ++ B) := norm_dom (dom_sub fun x hx => by simp at hx ⊢; exact hx.symm) (dom_sub fun x hx => by simp at hx ⊢; exact hx.symm)
theorem norm_parts (A B : List Ru) : norm (norm A ++ norm B) = norm (A ++ B) := norm_dom (dom_app (norm_dom' A) (norm_dom' B)) (dom_app (dom_norm A) (dom_norm B))
theorem turn1_rok (r : Ru) : rok (turn1 r) = rok r := by
  cases h : rok r with
  | true => obtain ⟨a, b, c, d⟩ := rok_iff.1 h; exact rok_iff.2 ⟨b, a, fun e => c e.symm, d⟩
  | false =>
    refine rok_f fun ⟨a, b, c, d⟩ => ?_
    rw [rok_iff.2 ⟨b, a, fun e => c e.symm, d⟩] at h
    cases h
theorem turn1_turn1 (r : Ru) : turn1 (turn1 r) = r := rfl
theorem turn1_same {r s : Ru} (h : ssame r s) : ssame (turn1 r) (turn1 s) := ⟨h.2, h.1⟩
theorem dom_turn {A B : List Ru} (h : dom A B) : dom (A.map turn1) (B.map turn1) := fun x hx ho => by
  obtain ⟨z, hz, rfl⟩ := List.mem_map.1 hx
  rw [turn1_rok] at ho
  obtain ⟨y, b1, b2, b3, b4⟩ := h z hz ho
  exact ⟨turn1 y, List.mem_map_of_mem b1, by rw [turn1_rok]; exact b2, turn1_same b3, b4⟩
theorem map_turn (A : List Ru) : (A.map turn1).map turn1 = A := by
  rw [List.map_map]
  conv => rhs; rw [← List.map_id A]
  rfl
theorem norm_back (A : List Ru) : norm ((norm (A.map turn1)).map turn1) = norm A := by
  have h1 := dom_turn (norm_dom' (A.map turn1))
  have h2 := dom_turn (dom_norm (A.map turn1))
  rw [map_turn] at h1 h2
  exact norm_dom h1 h2
theorem turn1_ok {r : Ru} (h : r.ok) : (turn1 r).ok := ⟨h.2.1, h.1, h.2.2.1, h.2.2.2⟩
theorem turns_ok {l : List Ru} (h : ∀ r ∈ l, r.ok) : ∀ r ∈ l.map turn1, r.ok := fun r hr => by
  obtain ⟨z, hz, rfl⟩ := List.mem_map.1 hr
  exact turn1_ok (h z hz)
theorem turns_at {l : List Ru} {k : Nat} (h : k < l.length) : rok ((l.map turn1)[k]!) = rok (l[k]!) := by
  rw [getElem!_pos _ k (by simpa using h), getElem!_pos l k h, List.getElem_map, turn1_rok]
theorem fewR_len {l : List Ru} {n : Int} (h : fewR l n = true) : (l.length : Int) ≤ n := by
  simp only [fewR, Bool.and_eq_true, decide_eq_true_eq] at h
  exact h.2
end Go.Eng.Tryz
set_option linter.unusedVariables false
set_option linter.unusedSimpArgs false
namespace Go.Eng.Tryz
open Go Go.Eng Go.Proofs Go.RowKit
theorem allF_get (c : Co) (q : List Int) {n i : Nat} (h : i < n) : (allF c q n)[i]! = stAt c (q.drop i) := by
  have hl : i < (allF c q n).length := by rw [allF_len]; exact h
  rw [getElem!_pos _ i hl]
  simp [allF]
theorem norm_fix {l : List Ru} : norm l = l ↔ Srt l ∧ ∀ r ∈ l, rok r = true := by
  constructor
  · intro h
    refine ⟨h ▸ norm_srt l, fun r hr => ?_⟩
    rw [← h] at hr
    exact (norm_mem.1 hr).2.1
  · rintro ⟨h1, h2⟩
    refine srt_ext (norm_srt l) h1 fun x => ⟨fun h => (norm_mem.1 h).1, fun h => norm_mem.2 ⟨h, h2 x h, fun y hy _ hs => ?_⟩⟩
    obtain ⟨i, hi, rfl⟩ := List.mem_iff_getElem.1 h
    obtain ⟨j, hj, rfl⟩ := List.mem_iff_getElem.1 hy
    have hd := List.pairwise_iff_getElem.1 (srt_diff h1)
    rcases Nat.lt_trichotomy i j with e | e | e
    · exact absurd ⟨hs.1.symm, hs.2.symm⟩ (hd i j hi hj e)
    · subst e; exact Int.le_refl _
    · exact absurd hs (hd j i hj hi e)
theorem st1_mem {c : Co} {rest : List Int} {s : Se} : s ∈ st1 c rest ↔ ∃ x t, rest = x :: t ∧ (s = ⟨1, [x], false, 0⟩ ∨ s = ⟨1, [], true, c.other⟩ ∨ s = ⟨1, [], false, c.less⟩) := by
  cases rest with
  | nil => simp [st1]
  | cons x t => simp [st1]
theorem st2_mem {c : Co} {rest : List Int} {s : Se} : s ∈ st2 c rest ↔ ∃ x y t, rest = x :: y :: t ∧ x ≠ y ∧ s = ⟨2, [y, x], false, c.turned⟩ := by
  match rest with
  | [] => simp [st2]
  | [x] => simp [st2]
  | x :: y :: t =>
    simp only [st2]
    split
    · rename_i h; simp; constructor
      · intro e; exact ⟨x, y, ⟨rfl, rfl⟩, h, e⟩
      · rintro ⟨x', y', ⟨rfl, rfl⟩, _, e⟩; exact e
    · rename_i h; simp at h; subst h; simp
theorem st4_some {rest : List Int} {r : Ru} {s : Se} : st4 rest r = some s ↔ rest.take r.left.length = r.left ∧ s = ⟨r.left.length, r.right, false, r.cost⟩ := by
  unfold st4
  split
  · rename_i h; simp [h]; exact ⟨fun h => h.symm, fun h => h.symm⟩
  · rename_i h; simp [h]
theorem stAt_mem {c : Co} {rest : List Int} {s : Se} : s ∈ stAt c rest ↔ s ∈ st1 c rest ∨ s ∈ st2 c rest ∨ s = ⟨0, [], true, c.more⟩ ∨ ∃ r ∈ c.rules, rest.take r.left.length = r.left ∧ s = ⟨r.left.length, r.right, false, r.cost⟩ := by
  unfold stAt st3
  simp only [List.mem_append, List.mem_filterMap, List.mem_singleton, st4_some, or_assoc]
theorem stAt_app {c : Co} {rest more : List Int} {s : Se} (h : s ∈ stAt c rest) : s ∈ stAt c (rest ++ more) := by
  rw [stAt_mem] at h ⊢
  rcases h with h | h | h | ⟨r, hr, h1, h2⟩
  · obtain ⟨x, t, rfl, h'⟩ := st1_mem.1 h
    exact .inl (st1_mem.2 ⟨x, t ++ more, rfl, h'⟩)
  · obtain ⟨x, y, t, rfl, h'⟩ := st2_mem.1 h
    exact .inr (.inl (st2_mem.2 ⟨x, y, t ++ more, rfl, h'⟩))
  · exact .inr (.inr (.inl h))
  · refine .inr (.inr (.inr ⟨r, hr, ?_, h2⟩))
    have := congrArg List.length h1
    simp only [List.length_take] at this
    rw [List.take_append_of_le_length (by omega)]
    exact h1
/-- Costs that may be, and what was asked. -/
theorem stAt_ok {c : Co} (hc : c.ok) (hk : cok c = true) {rest : List Int} {s : Se} (h : s ∈ stAt c rest) : 0 ≤ s.eat ∧ s.eat.toNat ≤ rest.length ∧ U s.cost ∧ s.put.length ≤ 8 ∧ ∀ w j n, putsN s w j = some n → 0 < s.eat.toNat + n := by
  obtain ⟨u1, u2, u3, u4, hr, _⟩ := hc
  rw [stAt_mem] at h
  rcases h with h | h | h | ⟨r, hr2, h1, h2⟩
  · obtain ⟨x, t, rfl, h'⟩ := st1_mem.1 h
    clear h
    rcases h' with rfl | rfl | rfl
    · exact ⟨by simp, by simp, ⟨by simp, by simp⟩, by simp, fun w j n _ => by simp; omega⟩
    · exact ⟨by simp, by simp, u3, by simp, fun w j n _ => by simp; omega⟩
    · exact ⟨by simp, by simp, u2, by simp, fun w j n _ => by simp; omega⟩
  · obtain ⟨x, y, t, rfl, _, rfl⟩ := st2_mem.1 h
    exact ⟨by simp, by simp, u4, by simp, fun w j n _ => by simp; omega⟩
  · subst h
    refine ⟨by simp, by simp, u1, by simp, fun w j n hn => ?_⟩
    unfold putsN at hn
    simp at hn
    omega
  · subst h2
    obtain ⟨_, _, h3, _⟩ := cok_iff.1 hk
    have hf := List.all_eq_true.1 h3 r hr2
    have hro : rok r = true := by simp only [fit, Bool.and_eq_true] at hf; exact hf.1.1
    obtain ⟨_, _, hne, hlt⟩ := rok_iff.1 hro
    have := congrArg List.length h1
    simp only [List.length_take] at this
    have hro' := hr r hr2
    refine ⟨by simp, by simp; omega, ⟨hro'.2.2.1, hro'.2.2.2⟩, (fit_lens hf).2, fun w j n hn => ?_⟩
    unfold putsN at hn
    simp at hn
    obtain ⟨_, rfl⟩ := hn
    simp only [Int.toNat_natCast]
    by_cases h0 : r.left = []
    · cases hr0 : r.right with
      | nil => rw [h0, hr0] at hne; exact absurd rfl hne
      | cons _ _ => simp only [List.length_cons]; omega
    · have := List.length_pos_iff.2 h0
      omega
theorem all_steps {c : Co} (hc : c.ok) (hk : cok c = true) (q w : List Int) : Steps (allF c q (q.length + 1)) w := fun i hi s hs => by
  rw [allF_len] at hi
  rw [allF_get c q hi] at hs
  obtain ⟨h1, h2, h3, _, h4⟩ := stAt_ok hc hk hs
  simp only [List.length_drop] at h2
  exact ⟨h1, by rw [allF_len]; omega, h3, fun j n => h4 w j n⟩
/-- What the whole word costs. -/
def ofD (c : Co) (q w : List Int) : Int := if may c q = true ∧ w.length ≤ 20 then get2 (tbl (allF c q (q.length + 1)) w) q.length w.length else 18446744073709551615
theorem putsN_app {s : Se} {w y : List Int} {j n : Nat} (hj : j ≤ w.length) (h : putsN s w j = some n) : putsN s (w ++ y) j = some n := by
  unfold putsN at h ⊢
  split at h
  · rename_i h1
    rw [if_pos h1]
    split at h
    · rw [if_pos (by simp; omega)]; exact h
    · cases h
  · rename_i h1
    rw [if_neg h1]
    split at h
    · rename_i h2
      have := congrArg List.length h2
      simp only [List.length_take, List.length_drop] at this
      rw [if_pos ?_]
      · exact h
      · rw [List.drop_append_of_le_length hj, List.take_append_of_le_length (by simp; omega)]; exact h2
    · cases h
theorem putsN_shift {s : Se} {x y : List Int} {j : Nat} : putsN s (x ++ y) (x.length + j) = putsN s y j := by
  unfold putsN
  have e : (x ++ y).drop (x.length + j) = y.drop j := List.drop_length_add_append ..
  rw [e]
  simp only [List.length_append, Nat.add_lt_add_iff_left]
theorem way_app {c : Co} {a b x y : List Int} {i j : Nat} {v : Int} (h : Way (allF c a (a.length + 1)) x i j v) : Way (allF c (a ++ b) ((a ++ b).length + 1)) (x ++ y) i j v := by
  induction h with
  | zero => exact .zero
  | step h hs hi hn ih =>
    rw [allF_len] at hi
    rw [allF_get c a hi] at hs
    refine ih.step ?_ (by rw [allF_len]; simp; omega) (putsN_app (way_j h) hn)
    rw [allF_get c (a ++ b) (by simp; omega), List.drop_append_of_le_length (by omega)]
    exact stAt_app hs
theorem way_shift {c : Co} {a b x y : List Int} {i j : Nat} {v v0 : Int} (h0 : Way (allF c (a ++ b) ((a ++ b).length + 1)) (x ++ y) a.length x.length v0) (h : Way (allF c b (b.length + 1)) y i j v) :
    Way (allF c (a ++ b) ((a ++ b).length + 1)) (x ++ y) (a.length + i) (x.length + j) (v0 + v) := by
  induction h with
  | zero => simpa using h0
  | step h hs hi hn ih =>
    rename_i i j n v s
    rw [allF_len] at hi
    rw [allF_get c b hi] at hs
    have := ih.step (s := s) (n := n) (by
      rw [allF_get c (a ++ b) (by simp; omega), List.drop_length_add_append]
      exact hs) (by rw [allF_len]; simp; omega) (by rw [putsN_shift]; exact hn)
    rw [Nat.add_assoc, Nat.add_assoc, Int.add_assoc] at this
    exact this
theorem ofD_u {c : Co} (hc : c.ok) (q w : List Int) : U (ofD c q w) := by
  unfold ofD
  split
  · rename_i h
    exact (tbl_good (all_steps hc (may_iff.1 h.1).2 q w) (by rw [allF_len]; omega)).u _ _ (by rw [allF_len]; omega) (by omega)
  · exact ⟨by decide, by decide⟩
theorem ofD_way {c : Co} (hc : c.ok) {q w : List Int} : ofD c q w = 18446744073709551615 ∨ (may c q = true ∧ w.length ≤ 20) ∧ Way (allF c q (q.length + 1)) w q.length w.length (ofD c q w) := by
  unfold ofD
  split
  · rename_i h
    rcases (tbl_good (all_steps hc (may_iff.1 h.1).2 q w) (by rw [allF_len]; omega)).way q.length w.length (by rw [allF_len]; omega) (by omega) with h1 | h1
    · exact .inl h1
    · exact .inr ⟨h, h1⟩
  · exact .inl rfl
theorem ofD_le {c : Co} (hc : c.ok) {q w : List Int} (h : may c q = true ∧ w.length ≤ 20) {v : Int} (hw : Way (allF c q (q.length + 1)) w q.length w.length v) : ofD c q w ≤ v := by
  unfold ofD
  rw [if_pos h]
  exact tbl_le (all_steps hc (may_iff.1 h.1).2 q w) (by rw [allF_len]; omega) hw
theorem ofD_eq {c : Co} (hc : c.ok) {q w : List Int} (h : may c q = true ∧ w.length ≤ 20) {x : Int} (hx : x ≤ 18446744073709551615) (h1 : ∀ v, Way (allF c q (q.length + 1)) w q.length w.length v → x ≤ v) (h2 : x = 18446744073709551615 ∨ Way (allF c q (q.length + 1)) w q.length w.length x) : ofD c q w = x := by
  unfold ofD
  rw [if_pos h]
  exact tbl_eq (all_steps hc (may_iff.1 h.1).2 q w) (by rw [allF_len]; omega) (by rw [allF_len]; omega) (Nat.le_refl _) hx h1 h2
/-- A word of two parts. -/
theorem dist_parts {c : Co} (hc : c.ok) (hk : cok c = true) {a b x y : List Int} (ha : a.length ≤ 10) (hb : b.length ≤ 10) (hx : x.length ≤ 10) (hy : y.length ≤ 10) : ofD c (a ++ b) (x ++ y) ≤ cadd (ofD c a x) (ofD c b y) := by
  have hU := ofD_u hc (a ++ b) (x ++ y)
  have h1 := ofD_u hc a x
  have h2 := ofD_u hc b y
  rcases ofD_way (q := a) (w := x) hc with e | ⟨_, e⟩
  · rw [e]; unfold cadd U at *; split <;> omega
  rcases ofD_way (q := b) (w := y) hc with f | ⟨_, f⟩
  · rw [f]; unfold cadd U at *; split <;> omega
  have := way_shift (way_app (b := b) (y := y) e) f
  have hm : may c (a ++ b) = true ∧ (x ++ y).length ≤ 20 := ⟨may_iff.2 ⟨by simp; omega, hk⟩, by simp; omega⟩
  rw [← List.length_append, ← List.length_append] at this
  have hle := ofD_le hc hm this
  unfold cadd U at *
  split <;> omega
/-- A beginning of a word. -/
theorem putsN_take {s : Se} {w : List Int} {j n k : Nat} (h : putsN s w j = some n) (hk : j + n ≤ k) : putsN s (w.take k) j = some n := by
  unfold putsN at h ⊢
  split at h
  · rename_i h1
    rw [if_pos h1]
    split at h
    · cases h; rw [if_pos (by simp; omega)]
    · cases h
  · rename_i h1
    rw [if_neg h1]
    split at h
    · rename_i h2
      cases h
      rw [if_pos]
      rw [List.drop_take, List.take_take, Nat.min_eq_left (by omega)]
      exact h2
    · cases h
theorem way_take {all : List (List Se)} {w : List Int} {k i j : Nat} {v : Int} (h : Way all w i j v) (hj : j ≤ k) : Way all (w.take k) i j v := by
  induction h with
  | zero => exact .zero
  | step h hs hi hn ih => exact (ih (by omega)).step hs hi (putsN_take hn hj)
theorem way_untake {all : List (List Se)} {w : List Int} {k i j : Nat} {v : Int} (h : Way all (w.take k) i j v) : Way all w i j v := by
  induction h with
  | zero => exact .zero
  | step h hs hi hn ih =>
    have := putsN_app (y := w.drop k) (way_j h) hn
    rw [List.take_append_drop] at this
    exact ih.step hs hi this
theorem dist_begins {all : List (List Se)} {w : List Int} {k : Nat} (hS : ∀ w, Steps all w) (hn : 0 < all.length) (hk : k ≤ w.length) {i j : Nat} (hi : i < all.length) (hj : j ≤ k) : get2 (tbl all (w.take k)) i j = get2 (tbl all w) i j := by
  have hg := tbl_good (hS w) hn
  have hu := hg.u i j hi (by omega)
  refine tbl_eq (hS _) hn hi (by simp; omega) hu.2 (fun v hv => tbl_le (hS w) hn (way_untake hv)) ?_
  rcases hg.way i j hi (by omega) with h | h
  · exact .inl h
  · exact .inr (way_take h hj)
/-- Costs so many times. -/
def scR (k : Int) (r : Ru) : Ru := ⟨r.left, r.right, k * r.cost⟩
def scC (k : Int) (c : Co) : Co := ⟨k * c.more, k * c.less, k * c.other, k * c.turned, c.rules.map (scR k)⟩
def scS (k : Int) (s : Se) : Se := ⟨s.eat, s.put, s.any, k * s.cost⟩
theorem st_scale (k : Int) (c : Co) (rest : List Int) : stAt (scC k c) rest = (stAt c rest).map (scS k) := by
  unfold stAt st3
  have h1 : st1 (scC k c) rest = (st1 c rest).map (scS k) := by cases rest <;> simp [st1, scS, scC]
  have h2 : st2 (scC k c) rest = (st2 c rest).map (scS k) := by
    match rest with
    | [] => rfl
    | [_] => rfl
    | x :: y :: t => simp only [st2]; split <;> simp [scS, scC]
  rw [h1, h2]
  simp only [List.map_append, List.map_cons, List.map_nil]
  congr 1
  simp only [scC, List.filterMap_map, List.map_filterMap]
  congr 1
  funext r
  simp only [Function.comp_apply, st4, scR]
  by_cases h : rest.take r.left.length = r.left
  · simp [h, scS]
  · simp [h]
theorem putsN_sc (k : Int) (s : Se) (w : List Int) (j : Nat) : putsN (scS k s) w j = putsN s w j := rfl
theorem way_sc {k : Int} {c : Co} {q w : List Int} {i j : Nat} {v : Int} (h : Way (allF c q (q.length + 1)) w i j v) : Way (allF (scC k c) q (q.length + 1)) w i j (k * v) := by
  induction h with
  | zero => simpa using Way.zero
  | step h hs hi hn ih =>
    rename_i i j n v s
    rw [allF_len] at hi
    rw [allF_get c q hi] at hs
    rw [Int.mul_add]
    exact ih.step (s := scS k s) (by rw [allF_get _ q hi, st_scale]; exact List.mem_map.2 ⟨s, hs, rfl⟩) (by rw [allF_len]; exact hi) hn
theorem way_unsc {k : Int} {c : Co} {q w : List Int} {i j : Nat} {v : Int} (h : Way (allF (scC k c) q (q.length + 1)) w i j v) : ∃ u, v = k * u ∧ Way (allF c q (q.length + 1)) w i j u := by
  induction h with
  | zero => exact ⟨0, by simp, .zero⟩
  | step h hs hi hn ih =>
    obtain ⟨u, rfl, hu⟩ := ih
    rw [allF_len] at hi
    rw [allF_get _ q hi, st_scale] at hs
    obtain ⟨s, hs', rfl⟩ := List.mem_map.1 hs
    refine ⟨u + s.cost, by simp [scS, Int.mul_add], hu.step (s := s) (by rw [allF_get c q hi]; exact hs') (by rw [allF_len]; exact hi) hn⟩
/-- By signs less, and more, there is always a way. -/
theorem way_less {c : Co} {q w : List Int} : ∀ i, i ≤ q.length → Way (allF c q (q.length + 1)) w i 0 (i * c.less) := by
  intro i
  induction i with
  | zero => intro _; simpa using Way.zero
  | succ i ih =>
    intro hi
    have hd : q.drop i = q[i]! :: q.drop (i + 1) := drop_at (by omega)
    have := (ih (by omega)).step (s := ⟨1, [], false, c.less⟩) (n := 0) (by
      rw [allF_get c q (by omega), stAt_mem, hd]
      exact .inl (st1_mem.2 ⟨_, _, rfl, .inr (.inr rfl)⟩)) (by rw [allF_len]; omega) (by simp [putsN])
    simp only [Nat.add_zero, Int.toNat_one] at this
    rw [show ((i + 1 : Nat) : Int) * c.less = (i : Int) * c.less + c.less from by rw [Int.natCast_add, Int.add_mul]; simp]
    exact this
theorem way_more {c : Co} {q w : List Int} : ∀ j, j ≤ w.length → Way (allF c q (q.length + 1)) w q.length j (q.length * c.less + j * c.more) := by
  intro j
  induction j with
  | zero => intro _; simpa using way_less (w := w) q.length (Nat.le_refl _)
  | succ j ih =>
    intro hj
    have := (ih (by omega)).step (s := ⟨0, [], true, c.more⟩) (n := 1) (by
      rw [allF_get c q (by omega), stAt_mem]
      exact .inr (.inr (.inl rfl))) (by rw [allF_len]; omega) (by simp only [putsN, if_true]; rw [if_pos (by omega)])
    simp only [Int.toNat_zero, Nat.add_zero] at this
    rw [show (q.length : Int) * c.less + ((j + 1 : Nat) : Int) * c.more = (q.length : Int) * c.less + (j : Int) * c.more + c.more from by rw [Int.natCast_add, Int.add_mul]; simp; omega]
    exact this
theorem srt_sc {k : Int} {l : List Ru} (h : Srt l) : Srt (l.map (scR k)) := by
  unfold Srt at h ⊢
  rw [List.pairwise_map]
  exact h.imp fun h => h
theorem dist_scale {c : Co} (hc : c.ok) (hk : cok c = true) {k : Int} (h0 : 0 ≤ k) (h1 : k ≤ 255) (hm : c.more ≤ 1099511627776 ∧ c.less ≤ 1099511627776 ∧ c.other ≤ 1099511627776 ∧ c.turned ≤ 1099511627776) (hr : ∀ r ∈ c.rules, r.cost ≤ 1099511627776) :
    (scC k c).ok ∧ cok (scC k c) = true ∧ ∀ {q w : List Int}, q.length ≤ 20 → w.length ≤ 20 → ofD (scC k c) q w = k * ofD c q w ∧ k * ofD c q w ≤ 18446744073709551615 := by
  have hmul : ∀ {x : Int}, 0 ≤ x → x ≤ 1099511627776 → 0 ≤ k * x ∧ k * x ≤ 280375465082880 := fun {x} hx0 hx1 => by
    refine ⟨Int.mul_nonneg h0 hx0, ?_⟩
    have := Int.mul_le_mul h1 hx1 hx0 (by omega : (0 : Int) ≤ 255)
    omega
  obtain ⟨u1, u2, u3, u4, hro, hlen⟩ := hc
  have m1 := hmul u1.1 hm.1
  have m2 := hmul u2.1 hm.2.1
  have m3 := hmul u3.1 hm.2.2.1
  have m4 := hmul u4.1 hm.2.2.2
  have hok : (scC k c).ok := by
    refine ⟨⟨m1.1, by simp only [scC]; omega⟩, ⟨m2.1, by simp only [scC]; omega⟩, ⟨m3.1, by simp only [scC]; omega⟩, ⟨m4.1, by simp only [scC]; omega⟩, fun r hr' => ?_, by simp only [scC, List.length_map]; exact hlen⟩
    obtain ⟨s, hs, rfl⟩ := List.mem_map.1 hr'
    have ho := hro s hs
    have := hmul ho.2.2.1 (hr s hs)
    exact ⟨ho.1, ho.2.1, this.1, by simp only [scR]; omega⟩
  obtain ⟨k1, k2, k3, k4⟩ := cok_iff.1 hk
  have hfit : ∀ r ∈ c.rules, fit (scR k r) = true := fun r hr' => by
    have hf := List.all_eq_true.1 k3 r hr'
    simp only [fit, Bool.and_eq_true] at hf ⊢
    obtain ⟨⟨f1, f2⟩, f3⟩ := hf
    obtain ⟨g1, g2, g3, g4⟩ := rok_iff.1 f1
    have := hmul (hro r hr').2.2.1 (hr r hr')
    exact ⟨⟨rok_iff.2 ⟨g1, g2, g3, by simp only [scR]; omega⟩, f2⟩, f3⟩
  have hcok : cok (scC k c) = true := by
    refine cok_iff.2 ⟨?_, by simpa [scC] using k2, ?_, ?_⟩
    · simp only [cmax, umax, List.foldl_cons, List.foldl_nil, scC]; omega
    · rw [List.all_eq_true]
      intro r hr'
      obtain ⟨s, hs, rfl⟩ := List.mem_map.1 hr'
      exact hfit s hs
    · refine norm_fix.2 ⟨srt_sc (norm_fix.1 k4).1, fun r hr' => ?_⟩
      obtain ⟨s, hs, rfl⟩ := List.mem_map.1 hr'
      have hf := hfit s hs
      simp only [fit, Bool.and_eq_true] at hf
      exact hf.1.1
  refine ⟨hok, hcok, fun {q w} hq hw => ?_⟩
  have hc' : c.ok := ⟨u1, u2, u3, u4, hro, hlen⟩
  have hmay : may c q = true ∧ w.length ≤ 20 := ⟨may_iff.2 ⟨hq, hk⟩, hw⟩
  have hmay' : may (scC k c) q = true ∧ w.length ≤ 20 := ⟨may_iff.2 ⟨hq, hcok⟩, hw⟩
  have hle := ofD_le hc' hmay (way_more (c := c) (q := q) (w := w) w.length (Nat.le_refl _))
  have b1 : (q.length : Int) * c.less ≤ 20 * 1099511627776 := Int.mul_le_mul (by omega) hm.2.1 u2.1 (by omega)
  have b2 : (w.length : Int) * c.more ≤ 20 * 1099511627776 := Int.mul_le_mul (by omega) hm.1 u1.1 (by omega)
  have hU := ofD_u hc' q w
  have hb : k * ofD c q w ≤ 255 * (40 * 1099511627776) := Int.mul_le_mul h1 (by omega) hU.1 (by omega)
  refine ⟨ofD_eq hok hmay' (by omega) (fun v hv => ?_) ?_, by omega⟩
  · obtain ⟨u, rfl, hu⟩ := way_unsc hv
    exact Int.mul_le_mul_of_nonneg_left (ofD_le hc' hmay hu) h0
  · rcases ofD_way (q := q) (w := w) hc' with h | ⟨_, h⟩
    · omega
    · exact .inr (way_sc h)
end Go.Eng.Tryz
set_option linter.unusedVariables false
set_option linter.unusedSimpArgs false
namespace Go.Eng.Tryz
open Go Go.Eng Go.Proofs Go.RowKit
attribute [local go_sem] tys
attribute [local go_sem] is_len is_get ses_len ses_get sss_len sss_get is_drop is_take
theorem putsN_drop {s : Se} {w : List Int} {j : Nat} : putsN s (w.drop j) 0 = putsN s w j := by
  unfold putsN
  simp only [List.length_drop, List.drop_zero]
  by_cases h : s.any = true
  · rw [if_pos h, if_pos h]
    by_cases h2 : j < w.length
    · rw [if_pos h2, if_pos (by omega)]
    · rw [if_neg h2, if_neg (by omega)]
  · rw [if_neg h, if_neg h]
/-- What puts tells. -/
def putsI (s : Se) (w : List Int) (j : Nat) : Int := match putsN s w j with | some n => n | none => -1
set_option maxHeartbeats 4000000 in
set_option maxRecDepth 10000 in
theorem pPuts {s : Se} {w : List Int} (hw : w.length ≤ 9223372036854775807) (hs : s.put.length ≤ 9223372036854775807) : Sound Tryz.prog 52 [se s, .sl 1 (is w)] (.int .i64 (putsI s w 0)) := by
  unfold se
  cases ha : s.any
  · by_cases h1 : s.put.length ≤ w.length
    · have ce := sEqual (a := w.take s.put.length) (b := s.put) (by simp only [List.length_take]; omega) hs
      by_cases h2 : w.take s.put.length = s.put
      · have e : putsI s w 0 = s.put.length := by unfold putsI putsN; rw [ha, if_neg (by decide), List.drop_zero, if_pos h2]
        rw [decide_eq_true h2] at ce
        rw [e]
        refine Sound.run (N := 38) Tryz.func52 rfl (by kernel_rfl) rfl rfl rfl (by first | exact args0_0 | exact args0_1 | exact args0_2 | exact args0_3 | exact args0_4 | exact args0_5 | exact args0_6) fun X_ w_ => ?_
        have c0_ := ce; refine goT ?_; first | exact trivial | skip
      · have e : putsI s w 0 = -1 := by unfold putsI putsN; rw [ha, if_neg (by decide), List.drop_zero, if_neg h2]
        rw [decide_eq_false h2] at ce
        rw [e]
        refine Sound.run (N := 38) Tryz.func52 rfl (by kernel_rfl) rfl rfl rfl (by first | exact args0_0 | exact args0_1 | exact args0_2 | exact args0_3 | exact args0_4 | exact args0_5 | exact args0_6) fun X_ w_ => ?_
        have c0_ := ce; refine goT ?_; first | exact trivial | skip
    · have e : putsI s w 0 = -1 := by
        unfold putsI putsN
        rw [ha, if_neg (by decide), List.drop_zero, if_neg]
        intro h
        have := congrArg List.length h
        simp only [List.length_take] at this
        omega
      rw [e]
      refine Sound.run (N := 38) Tryz.func52 rfl (by kernel_rfl) rfl rfl rfl (by first | exact args0_0 | exact args0_1 | exact args0_2 | exact args0_3 | exact args0_4 | exact args0_5 | exact args0_6) fun X_ w_ => ?_
      refine goT ?_; first | exact trivial | skip
  · by_cases h1 : 0 < w.length
    · have e : putsI s w 0 = 1 := by unfold putsI putsN; rw [ha, if_pos rfl, if_pos h1]; rfl
      rw [e]
      refine Sound.run (N := 38) Tryz.func52 rfl (by kernel_rfl) rfl rfl rfl (by first | exact args0_0 | exact args0_1 | exact args0_2 | exact args0_3 | exact args0_4 | exact args0_5 | exact args0_6) fun X_ w_ => ?_
      refine goT ?_; first | exact trivial | skip
    · have e : putsI s w 0 = -1 := by unfold putsI putsN; rw [ha, if_pos rfl, if_neg h1]
      rw [e]
      refine Sound.run (N := 38) Tryz.func52 rfl (by kernel_rfl) rfl rfl rfl (by first | exact args0_0 | exact args0_1 | exact args0_2 | exact args0_3 | exact args0_4 | exact args0_5 | exact args0_6) fun X_ w_ => ?_
      refine goT ?_; first | exact trivial | skip
/-- A table of costs. -/
def tt (t : List (List Int)) : List D := t.map fun r => .sl 1 (us r)
theorem tt_len {t : List (List Int)} : (tt t).length = t.length := by simp [tt]
theorem tt_getD {t : List (List Int)} {i : Nat} (h : i < t.length) : (tt t).getD i .nils = .sl 1 (us (t[i]!)) := by
  simp [tt, List.getD_eq_getElem?_getD, List.getElem?_eq_getElem h, getElem!_pos t i h]
theorem tt_get {t : List (List Int)} {i : Nat} (h : i < t.length) : (tt t)[i]? = some (.sl 1 (us (t[i]!))) := by
  simp [tt, List.getElem?_eq_getElem h, getElem!_pos t i h]
theorem tt_set {t : List (List Int)} {i : Nat} {r : List Int} : (tt t).set i (.sl 1 (us r)) = tt (t.set i r) := by simp [tt, List.map_set]
theorem us_set {r : List Int} {j : Nat} {v : Int} : (us r).set j (.int .u64 v) = us (r.set j v) := by simp [us, List.map_set]
theorem rep_us {n : Nat} {x : Int} : List.replicate n (D.int .u64 x) = us (List.replicate n x) := by simp [us]
attribute [local go_sem] tt_len tt_getD tt_get tt_set us_set rep_us
def TU : Tb := ⟨40, 1, 0, 22, 1⟩
attribute [local go_sem] TU
theorem set2_self {t : List (List Int)} {i j : Nat} (hi : i < t.length) (hj : j < (t[i]!).length) : set2 t i j (get2 t i j) = t := by
  unfold set2 get2
  rw [getElem!_pos t i hi] at hj ⊢
  rw [getElem!_pos _ j hj, List.set_getElem_self, List.set_getElem_self]
theorem relax_inf {all : List (List Se)} {w : List Int} {t : List (List Int)} {i j : Nat} (hS : Steps all w) (hg : Good all w t) (hi : i < all.length) (hj : j < w.length + 1) (h : get2 t i j = 18446744073709551615) {s : Se} (hs : s ∈ all[i]!) : relax w i j t s = t := by
  unfold relax
  obtain ⟨h1, h2, h3, h4⟩ := hS i hi s hs
  split
  · rename_i n hn
    have hle := putsN_le (by omega) hn
    have hu := hg.u (i + s.eat.toNat) (j + n) h2 (by omega)
    have : min (get2 t (i + s.eat.toNat) (j + n)) (cadd (get2 t i j) s.cost) = get2 t (i + s.eat.toNat) (j + n) := by
      rw [h]; unfold cadd U at *; split <;> omega
    rw [this, set2_self (by rw [hg.shape.1]; exact h2) (by rw [hg.shape.2 _ h2]; omega)]
  · rfl
theorem fold_inf {all : List (List Se)} {w : List Int} {t : List (List Int)} {i j : Nat} (hS : Steps all w) (hg : Good all w t) (hi : i < all.length) (hj : j < w.length + 1) (h : get2 t i j = 18446744073709551615) : ∀ l : List Se, (∀ s ∈ l, s ∈ all[i]!) → l.foldl (relax w i j) t = t
  | [], _ => rfl
  | s :: l, hl => by
    rw [List.foldl_cons, relax_inf hS hg hi hj h (hl s (by simp))]
    exact fold_inf hS hg hi hj h l fun x hx => hl x (by simp [hx])
theorem tblJ_inf {all : List (List Se)} {w : List Int} {t : List (List Int)} {i j : Nat} (hS : Steps all w) (hd : Done all w (tblJ all w i j t) i j) (hi : i < all.length) (hj : j < w.length + 1) (h : get2 (tblJ all w i j t) i j = 18446744073709551615) : tblJ all w i (j + 1) t = tblJ all w i j t := by
  rw [tblJ_step, tblK, List.take_length]
  exact fold_inf hS hd.good hi hj h _ fun s hs => hs
def ini (n M k : Nat) : List (List Int) := List.replicate k (List.replicate M 18446744073709551615) ++ List.replicate (n - k) []
theorem ini_len {n M k : Nat} (h : k ≤ n) : (ini n M k).length = n := by simp [ini]; omega
theorem ini_at {n M k : Nat} (h : k < n) : (ini n M k)[k]! = [] := by
  simp only [List.getElem!_eq_getElem?_getD, ini]
  rw [List.getElem?_append_right (by simp)]
  simp [List.getElem?_replicate, show 0 < n - k from by omega]
theorem ini_step {n M k : Nat} (h : k < n) : (ini n M k).set k (List.replicate M 18446744073709551615) = ini n M (k + 1) := by
  unfold ini
  rw [List.set_append_right _ _ (by simp), List.length_replicate, Nat.sub_self, show n - k = (n - (k + 1)) + 1 from by omega, List.replicate_succ, List.set_cons_zero]
  rw [List.replicate_succ' (n := k), List.append_assoc]
  rfl
theorem set_same {α : Type} [Inhabited α] {l : List α} {i : Nat} {v : α} (h : i < l.length) : (l.set i v)[i]! = v := by rw [getB_set h, if_pos rfl]
theorem nilAt_rep {n : Nat} : (List.replicate n D.nils).all TU.nilAt = true := by simp [Tb.nilAt, TU, D.comps]
theorem ini_rep {n M : Nat} : (List.replicate n D.nils).map TU.ini = tt (ini n M 0) := by simp [Tb.ini, TU, D.put, tt, ini, us]
theorem allN {c : Co} {q : List Int} (hc : c.ok) (hq : q.length ≤ 9223372036854775807) (hm : may c q = false) : Sound Tryz.prog 32 [co c, .sl 1 (is q)] .nils := by
  have cw := pWrong hc hq
  rw [show (!(decide (q.length ≤ 20) && cok c)) = !may c q from rfl, hm] at cw
  unfold co at cw ⊢
  refine Sound.run (N := 24) Tryz.func32 rfl (by kernel_rfl) rfl rfl rfl (by first | exact args0_0 | exact args0_1 | exact args0_2 | exact args0_3 | exact args0_4 | exact args0_5 | exact args0_6) fun X_ w_ => ?_
  have c0_ := cw; refine goT ?_; first | exact trivial | skip
/-- What the table tells. -/
def tableD (c : Co) (q w : List Int) : List (List Int) := if may c q = true ∧ w.length ≤ 20 then tbl (allF c q (q.length + 1)) w else []
end Go.Eng.Tryz

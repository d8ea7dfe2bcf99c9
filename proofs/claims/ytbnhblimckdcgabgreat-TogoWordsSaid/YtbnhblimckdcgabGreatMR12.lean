/- What it costs to finish, plainly. (and what stands behind it: texts laid together) -/
import Derived.Test.YtbnhblimckdcgabGreatMR10
import Derived.Test.YtbnhblimckdcgabGreatMR11
import Derived.Test.YtbnhblimckdcgabGreatMG4
set_option linter.unusedVariables false
set_option linter.unusedSimpArgs false
namespace Go.Eng.Tryz
open Go Go.Eng Go.Proofs Go.RowKit
/-- The states that a step may lead to. -/
def endsF (s : Se) (l : List Sta) (k : Nat) : List Int := if s.any = true then (l[k]!).arcs.map (·.to) else match leadG l k s.put with | some e => [e] | none => []
theorem endsF_in {l : List Sta} (h : achk l = true) {s : Se} {k : Nat} (hk : k < l.length) {e : Int} (he : e ∈ endsF s l k) : (k : Int) ≤ e ∧ e < l.length ∧ (s.any = true ∨ s.put ≠ [] → (k : Int) < e) := by
  unfold endsF at he
  split at he
  · rename_i ha
    obtain ⟨a, hm, rfl⟩ := List.mem_map.1 he
    have := achk_arc h hk a hm
    exact ⟨by omega, this.2.1, fun _ => this.1⟩
  · rename_i ha
    unfold leadG at he
    rw [if_pos ⟨by omega, by omega⟩] at he
    split at he
    · rename_i t ht
      simp only [List.mem_singleton] at he
      subst he
      obtain ⟨h1, h2, h3⟩ := leadF_in h (by omega) (by omega) ht
      exact ⟨h1, h2, fun hh => h3 (hh.resolve_left ha)⟩
    · cases he
def endK (t : List (List Int)) (i : Nat) (s : Se) (m e : Int) : Int := min m (cadd s.cost (get2 t (i + s.eat.toNat) e.toNat))
def stK (l : List Sta) (t : List (List Int)) (i k : Nat) (m : Int) (s : Se) : Int := (endsF s l k).foldl (endK t i s) m
def base (n : Nat) (l : List Sta) (i k : Nat) : Int := if i + 1 = n ∧ (l[k]!).final = true then 0 else 18446744073709551615
def cellT (all : List (List Se)) (l : List Sta) (t : List (List Int)) (i k : Nat) : Int := (all[i]!).foldl (stK l t i k) (base all.length l i k)
def tgM (all : List (List Se)) (l : List Sta) (i : Nat) (t : List (List Int)) (m : Nat) : List (List Int) := (List.range m).foldl (fun t m => set2 t i (l.length - 1 - m) (cellT all l t i (l.length - 1 - m))) t
def tgI (all : List (List Se)) (l : List Sta) (k : Nat) : List (List Int) := (List.range k).foldl (fun t k => tgM all l (all.length - 1 - k) (t.set (all.length - 1 - k) (List.replicate l.length 0)) l.length) (List.replicate all.length [])
def tg (all : List (List Se)) (l : List Sta) : List (List Int) := tgI all l all.length
theorem tgM_step (all : List (List Se)) (l : List Sta) (i : Nat) (t : List (List Int)) (m : Nat) : tgM all l i t (m + 1) = set2 (tgM all l i t m) i (l.length - 1 - m) (cellT all l (tgM all l i t m) i (l.length - 1 - m)) := by simp [tgM, List.range_succ]
theorem tgI_step (all : List (List Se)) (l : List Sta) (k : Nat) : tgI all l (k + 1) = tgM all l (all.length - 1 - k) ((tgI all l k).set (all.length - 1 - k) (List.replicate l.length 0)) l.length := by simp [tgI, List.range_succ]
/-- What may be said of the steps of all places. -/
def StepsG (all : List (List Se)) : Prop := ∀ i, i < all.length → ∀ s ∈ all[i]!, 0 ≤ s.eat ∧ i + s.eat.toNat < all.length ∧ U s.cost ∧ (s.eat = 0 → s.any = true ∨ s.put ≠ [])
theorem endK_U {t : List (List Int)} {i : Nat} {s : Se} {m e : Int} (hm : U m) (hs : U s.cost) (ht : U (get2 t (i + s.eat.toNat) e.toNat)) : U (endK t i s m e) := by
  have := U_cadd hs ht
  unfold endK U at *
  omega
theorem ends_fold {t : List (List Int)} {i : Nat} {s : Se} (hs : U s.cost) : ∀ (es : List Int) (m : Int), U m → (∀ e ∈ es, U (get2 t (i + s.eat.toNat) e.toNat)) → U (es.foldl (endK t i s) m)
  | [], m, h, _ => h
  | e :: es, m, h, ht => ends_fold hs es _ (endK_U h hs (ht e (by simp))) fun x hx => ht x (by simp [hx])
/-- A fold of the least: it is no more than each, and is the first, or one. -/
theorem ends_le {t : List (List Int)} {i : Nat} {s : Se} : ∀ (es : List Int) (m : Int), es.foldl (endK t i s) m ≤ m ∧ (∀ e ∈ es, es.foldl (endK t i s) m ≤ cadd s.cost (get2 t (i + s.eat.toNat) e.toNat)) ∧ (es.foldl (endK t i s) m = m ∨ ∃ e ∈ es, es.foldl (endK t i s) m = cadd s.cost (get2 t (i + s.eat.toNat) e.toNat))
  | [], m => ⟨Int.le_refl _, fun e h => (by cases h), .inl rfl⟩
  | e :: es, m => by
    obtain ⟨h1, h2, h3⟩ := ends_le (t := t) (i := i) (s := s) es (endK t i s m e)
    simp only [List.foldl_cons]
    have hk : endK t i s m e = min m (cadd s.cost (get2 t (i + s.eat.toNat) e.toNat)) := rfl
    refine ⟨by omega, fun x hx => ?_, ?_⟩
    · rcases List.mem_cons.1 hx with rfl | hx
      · omega
      · exact h2 x hx
    · rcases h3 with h3 | ⟨x, hx, h3⟩
      · rw [h3, hk]
        rcases (by omega : min m (cadd s.cost (get2 t (i + s.eat.toNat) e.toNat)) = m ∨ min m (cadd s.cost (get2 t (i + s.eat.toNat) e.toNat)) = cadd s.cost (get2 t (i + s.eat.toNat) e.toNat)) with h | h
        · exact .inl h
        · exact .inr ⟨e, by simp, h⟩
      · exact .inr ⟨x, by simp [hx], h3⟩
theorem cell_le {l : List Sta} {t : List (List Int)} {i k : Nat} : ∀ (ss : List Se) (m : Int), ss.foldl (stK l t i k) m ≤ m ∧ (∀ s ∈ ss, ∀ e ∈ endsF s l k, ss.foldl (stK l t i k) m ≤ cadd s.cost (get2 t (i + s.eat.toNat) e.toNat)) ∧ (ss.foldl (stK l t i k) m = m ∨ ∃ s ∈ ss, ∃ e ∈ endsF s l k, ss.foldl (stK l t i k) m = cadd s.cost (get2 t (i + s.eat.toNat) e.toNat))
  | [], m => ⟨Int.le_refl _, fun s h => (by cases h), .inl rfl⟩
  | s :: ss, m => by
    obtain ⟨h1, h2, h3⟩ := cell_le (l := l) (t := t) (i := i) (k := k) ss (stK l t i k m s)
    obtain ⟨g1, g2, g3⟩ := ends_le (t := t) (i := i) (s := s) (endsF s l k) m
    simp only [List.foldl_cons]
    change stK l t i k m s ≤ m at g1
    refine ⟨by omega, fun x hx e he => ?_, ?_⟩
    · rcases List.mem_cons.1 hx with rfl | hx
      · have := g2 e he
        change stK l t i k m x ≤ _ at this
        omega
      · exact h2 x hx e he
    · rcases h3 with h3 | ⟨x, hx, e, he, h3⟩
      · rw [h3]
        rcases g3 with g3 | ⟨e, he, g3⟩
        · exact .inl g3
        · exact .inr ⟨s, by simp, e, he, g3⟩
      · exact .inr ⟨x, by simp [hx], e, he, h3⟩
/-- A cell hangs on the cells behind alone. -/
theorem stK_congr {l : List Sta} {t t' : List (List Int)} {i k : Nat} {s : Se} (h : ∀ e ∈ endsF s l k, get2 t' (i + s.eat.toNat) e.toNat = get2 t (i + s.eat.toNat) e.toNat) (m : Int) : stK l t' i k m s = stK l t i k m s := by
  unfold stK
  have : ∀ (es : List Int) (m : Int), (∀ e ∈ es, e ∈ endsF s l k) → es.foldl (endK t' i s) m = es.foldl (endK t i s) m := by
    intro es
    induction es with
    | nil => intro m _; rfl
    | cons e es ih =>
      intro m he
      simp only [List.foldl_cons]
      have : endK t' i s m e = endK t i s m e := by unfold endK; rw [h e (he e (by simp))]
      rw [this]
      exact ih _ fun x hx => he x (by simp [hx])
  exact this _ m fun e he => he
theorem cell_congr {all : List (List Se)} {l : List Sta} {t t' : List (List Int)} {i k : Nat} (h : ∀ s ∈ all[i]!, ∀ e ∈ endsF s l k, get2 t' (i + s.eat.toNat) e.toNat = get2 t (i + s.eat.toNat) e.toNat) : cellT all l t' i k = cellT all l t i k := by
  unfold cellT
  have : ∀ (ss : List Se) (m : Int), (∀ s ∈ ss, s ∈ all[i]!) → ss.foldl (stK l t' i k) m = ss.foldl (stK l t i k) m := by
    intro ss
    induction ss with
    | nil => intro m _; rfl
    | cons s ss ih =>
      intro m he
      simp only [List.foldl_cons]
      rw [stK_congr (h s (he s (by simp)))]
      exact ih _ fun x hx => he x (by simp [hx])
  exact this _ _ fun s hs => hs
/-- A cell whose value is what the cells behind tell. -/
def Fix (all : List (List Se)) (l : List Sta) (t : List (List Int)) (i k : Nat) : Prop := get2 t i k = cellT all l t i k ∧ U (get2 t i k)
/-- What holds when the rows from i on are told, and of row i, if r, those states from k on. -/
structure DoneG (all : List (List Se)) (l : List Sta) (t : List (List Int)) (i k : Nat) : Prop where
  len : t.length = all.length
  rows : ∀ a, i < a → a < all.length → (t[a]!).length = l.length
  row : i < all.length → k < l.length → (t[i]!).length = l.length
  fix : ∀ a b, i < a → a < all.length → b < l.length → Fix all l t a b
  fixi : i < all.length → ∀ b, k ≤ b → b < l.length → Fix all l t i b
theorem cell_U {all : List (List Se)} {l : List Sta} {t : List (List Int)} {i k : Nat} (hS : StepsG all) (hi : i < all.length) (h : ∀ s ∈ all[i]!, ∀ e ∈ endsF s l k, U (get2 t (i + s.eat.toNat) e.toNat)) : U (cellT all l t i k) := by
  unfold cellT
  have : ∀ (ss : List Se) (m : Int), U m → (∀ s ∈ ss, s ∈ all[i]!) → U (ss.foldl (stK l t i k) m) := by
    intro ss
    induction ss with
    | nil => intro m hm _; exact hm
    | cons s ss ih =>
      intro m hm he
      simp only [List.foldl_cons]
      refine ih _ ?_ fun x hx => he x (by simp [hx])
      exact ends_fold (hS i hi s (he s (by simp))).2.2.1 _ _ hm fun e hee => h s (he s (by simp)) e hee
  exact this _ _ (by unfold base U; split <;> omega) fun s hs => hs
theorem behind {all : List (List Se)} {l : List Sta} {t : List (List Int)} {i k : Nat} (hS : StepsG all) (hl : achk l = true) (hi : i < all.length) (hk : k < l.length) {s : Se} (hs : s ∈ all[i]!) {e : Int} (he : e ∈ endsF s l k) : i + s.eat.toNat < all.length ∧ e.toNat < l.length ∧ (i < i + s.eat.toNat ∨ i + s.eat.toNat = i ∧ k < e.toNat) := by
  obtain ⟨h1, h2, h3, h4⟩ := hS i hi s hs
  obtain ⟨g1, g2, g3⟩ := endsF_in hl hk he
  refine ⟨h2, by omega, ?_⟩
  by_cases h0 : s.eat = 0
  · have := g3 (h4 h0)
    right
    rw [h0]
    simp
    omega
  · left; omega
theorem tgM_done {all : List (List Se)} {l : List Sta} {t : List (List Int)} {i : Nat} (hS : StepsG all) (hl : achk l = true) (hi : i < all.length) (hlen : t.length = all.length) (hrow : (t[i]!).length = l.length) (hrows : ∀ a, i < a → a < all.length → (t[a]!).length = l.length) (hfix : ∀ a b, i < a → a < all.length → b < l.length → Fix all l t a b) :
    ∀ m, m ≤ l.length → (tgM all l i t m).length = all.length ∧ (∀ a, i ≤ a → a < all.length → ((tgM all l i t m)[a]!).length = l.length) ∧ (∀ a b, i < a → a < all.length → b < l.length → Fix all l (tgM all l i t m) a b) ∧ (∀ b, l.length - m ≤ b → b < l.length → Fix all l (tgM all l i t m) i b) := by
  intro m
  induction m with
  | zero =>
    intro _
    refine ⟨by simpa [tgM] using hlen, fun a h1 h2 => ?_, fun a b h1 h2 h3 => by simpa [tgM] using hfix a b h1 h2 h3, fun b h1 h2 => by omega⟩
    by_cases e : a = i
    · subst e; simpa [tgM] using hrow
    · simpa [tgM] using hrows a (by omega) h2
  | succ m ih =>
    intro hm
    obtain ⟨i1, i2, i3, i4⟩ := ih (by omega)
    rw [tgM_step]
    generalize hT : tgM all l i t m = T at *
    have hk : l.length - 1 - m < l.length := by omega
    generalize hkk : l.length - 1 - m = k at *
    have hri := i2 i (Nat.le_refl _) hi
    have hg : ∀ a b, i ≤ a → a < all.length → b < l.length → get2 (set2 T i k (cellT all l T i k)) a b = if a = i ∧ b = k then cellT all l T i k else get2 T a b := fun a b h1 h2 h3 => by
      unfold get2 set2
      rw [getB_set (by omega)]
      by_cases e : a = i
      · subst e
        rw [if_pos rfl, getB_set (by omega)]
        by_cases e2 : b = k
        · subst e2; simp
        · rw [if_neg e2, if_neg (fun x => e2 x.2)]
      · rw [if_neg e, if_neg (fun x => e x.1)]
    have hsame : ∀ a b, i ≤ a → a < all.length → b < l.length → (i < a ∨ k < b) → get2 (set2 T i k (cellT all l T i k)) a b = get2 T a b := fun a b h1 h2 h3 h4 => by
      rw [hg a b h1 h2 h3, if_neg (by omega)]
    have hcong : ∀ a b, i ≤ a → a < all.length → b < l.length → (i < a ∨ k ≤ b) → cellT all l (set2 T i k (cellT all l T i k)) a b = cellT all l T a b := fun a b h1 h2 h3 h4 => cell_congr fun s hs e he => by
      obtain ⟨q1, q2, q3⟩ := behind (t := T) hS hl h2 h3 hs he
      exact hsame _ _ (by omega) q1 q2 (by omega)
    have hfi : ∀ a b, i ≤ a → a < all.length → b < l.length → (i < a ∨ k < b) → Fix all l T a b → Fix all l (set2 T i k (cellT all l T i k)) a b := fun a b h1 h2 h3 h4 hf => by
      unfold Fix at hf ⊢
      rw [hsame a b h1 h2 h3 h4, hcong a b h1 h2 h3 (by omega)]
      exact hf
    refine ⟨by simp [set2, i1], fun a h1 h2 => ?_, fun a b h1 h2 h3 => hfi a b (by omega) h2 h3 (.inl h1) (i3 a b h1 h2 h3), fun b h1 h2 => ?_⟩
    · unfold set2
      rw [getB_set (by omega)]
      split
      · rename_i e; subst e; rw [List.length_set]; exact hri
      · exact i2 a h1 h2
    · by_cases e : b = k
      · subst e
        unfold Fix
        rw [hg i b (Nat.le_refl _) hi h2, if_pos ⟨rfl, rfl⟩, hcong i b (Nat.le_refl _) hi h2 (.inr (Nat.le_refl _))]
        refine ⟨rfl, cell_U hS hi fun s hs e he => ?_⟩
        obtain ⟨q1, q2, q3⟩ := behind (t := T) hS hl hi h2 hs he
        rcases q3 with q3 | ⟨q3, q4⟩
        · exact (i3 _ _ q3 q1 q2).2
        · rw [q3]; exact (i4 _ (by omega) q2).2
      · exact hfi i b (Nat.le_refl _) hi h2 (.inr (by omega)) (i4 b (by omega) h2)
theorem tgI_done {all : List (List Se)} {l : List Sta} (hS : StepsG all) (hl : achk l = true) : ∀ k, k ≤ all.length → (tgI all l k).length = all.length ∧ (∀ a, all.length - k ≤ a → a < all.length → ((tgI all l k)[a]!).length = l.length) ∧ (∀ a, a < all.length - k → (tgI all l k)[a]! = []) ∧ ∀ a b, all.length - k ≤ a → a < all.length → b < l.length → Fix all l (tgI all l k) a b := by
  intro k
  induction k with
  | zero =>
    intro _
    refine ⟨by simp [tgI], fun a h1 h2 => by omega, fun a h1 => ?_, fun a b h1 h2 => by omega⟩
    simp only [tgI, List.range_zero, List.foldl_nil]
    rw [getElem!_pos _ a (by simp; omega)]
    simp
  | succ k ih =>
    intro hk
    obtain ⟨i1, i2, i3, i4⟩ := ih (by omega)
    rw [tgI_step]
    generalize hT : tgI all l k = T at *
    obtain ⟨i, hi⟩ : ∃ i, i = all.length - 1 - k := ⟨_, rfl⟩
    rw [← hi]
    have hia : i < all.length := by omega
    have hget : ∀ a, (T.set i (List.replicate l.length 0))[a]! = if a = i then List.replicate l.length 0 else T[a]! := fun a => getB_set (by omega)
    have hg2 : ∀ a b, a ≠ i → get2 (T.set i (List.replicate l.length 0)) a b = get2 T a b := fun a b h => by unfold get2; rw [hget, if_neg h]
    have := tgM_done (t := T.set i (List.replicate l.length 0)) hS hl hia (by simp [i1]) (by rw [hget, if_pos rfl]; simp) (fun a h1 h2 => by rw [hget, if_neg (by omega)]; exact i2 a (by omega) h2)
      (fun a b h1 h2 h3 => by
        have hf := i4 a b (by omega) h2 h3
        unfold Fix at hf ⊢
        rw [hg2 a b (by omega), cell_congr fun s hs e he => by
          obtain ⟨q1, q2, q3⟩ := behind (t := T) hS hl h2 h3 hs he
          exact hg2 _ _ (by omega)]
        exact hf) l.length (Nat.le_refl _)
    obtain ⟨j1, j2, j3, j4⟩ := this
    refine ⟨j1, fun a h1 h2 => j2 a (by omega) h2, fun a h1 => ?_, fun a b h1 h2 h3 => ?_⟩
    · have : ∀ m, (tgM all l i (T.set i (List.replicate l.length 0)) m)[a]! = T[a]! := by
        intro m
        induction m with
        | zero => simp only [tgM, List.range_zero, List.foldl_nil]; rw [hget, if_neg (by omega)]
        | succ m ihm =>
          rw [tgM_step]
          unfold set2
          by_cases hlt : i < (tgM all l i (T.set i (List.replicate l.length 0)) m).length
          · rw [getB_set hlt, if_neg (by omega)]; exact ihm
          · rw [List.set_eq_of_length_le (by omega)]; exact ihm
      rw [this]
      exact i3 a (by omega)
    · by_cases e : a = i
      · subst e; exact j4 b (by omega) h3
      · exact j3 a b (by omega) h2 h3
/-- What the table tells. -/
structure TG (all : List (List Se)) (l : List Sta) (t : List (List Int)) : Prop where
  len : t.length = all.length
  rows : ∀ a, a < all.length → (t[a]!).length = l.length
  fix : ∀ a b, a < all.length → b < l.length → Fix all l t a b
theorem tg_all {all : List (List Se)} {l : List Sta} (hS : StepsG all) (hl : achk l = true) : TG all l (tg all l) := by
  obtain ⟨h1, h2, _, h4⟩ := tgI_done hS hl all.length (Nat.le_refl _)
  exact ⟨h1, fun a ha => h2 a (by omega) ha, fun a b ha hb => h4 a b (by omega) ha hb⟩
theorem tg_steps {c : Co} (hc : c.ok) (hk : cok c = true) (q : List Int) : StepsG (allF c q (q.length + 1)) := fun i hi s hs => by
  have hS := all_steps hc hk q [] i hi s hs
  rw [allF_len] at hi
  rw [allF_get c q hi] at hs
  refine ⟨hS.1, hS.2.1, hS.2.2.1, fun h0 => ?_⟩
  have h4 := (stAt_ok hc hk hs).2.2.2.2
  by_cases ha : s.any = true
  · exact .inl ha
  · right
    intro hp
    have := h4 [] 0 0 (by unfold putsN; rw [if_neg ha, hp]; rfl)
    rw [h0] at this
    simp at this
end Go.Eng.Tryz
set_option linter.unusedVariables false
set_option linter.unusedSimpArgs false
namespace Go.Eng.Tryz
open Go Go.Eng Go.Proofs Go.RowKit
attribute [local go_sem] tys
attribute [local go_sem] is_len is_get ars_len ars_get stas_len stas_get tt_len tt_getD tt_get TU
set_option maxHeartbeats 4000000 in
set_option maxRecDepth 10000 in
theorem pLead {l : List Sta} {f : Int} {w : List Int} (hl : StaOk l) (hw : w.length ≤ 9223372036854775807) : Sound Tryz.prog 13 [.sl 2 (stas l), .int .i64 f, .sl 1 (is w)] (stepR (leadG l f w)) := by
  have hlen := hl.1
  by_cases h0 : f < 0
  · have e : leadG l f w = none := if_neg (by omega)
    rw [e]; unfold stepR
    refine Sound.run (N := 37) Tryz.func13 rfl (by kernel_rfl) rfl rfl rfl (by first | exact args0_0 | exact args0_1 | exact args0_2 | exact args0_3 | exact args0_4 | exact args0_5 | exact args0_6) fun X_ w_ => ?_
    refine goT ?_; first | exact trivial | skip
  by_cases h1 : (l.length : Int) ≤ f
  · have e : leadG l f w = none := if_neg (by omega)
    rw [e]; unfold stepR
    refine Sound.run (N := 37) Tryz.func13 rfl (by kernel_rfl) rfl rfl rfl (by first | exact args0_0 | exact args0_1 | exact args0_2 | exact args0_3 | exact args0_4 | exact args0_5 | exact args0_6) fun X_ w_ => ?_
    refine goT ?_; first | exact trivial | skip
  have eG : leadG l f w = leadF l f w := if_pos (by omega)
  rw [eG]
  refine Sound.run (N := 37) Tryz.func13 rfl (by kernel_rfl) rfl rfl rfl (by first | exact args0_0 | exact args0_1 | exact args0_2 | exact args0_3 | exact args0_4 | exact args0_5 | exact args0_6) fun X_ w_ => ?_
  refine goT ?_; first | exact trivial | skip
  refine WP_loopk (fun p : Nat × Int => p.1 ≤ w.length ∧ leadF l f (w.take p.1) = some p.2) (fun p => [(0, .d (.sl 2 (stas l))), (1, .d (.int .i64 p.2)), (8, .d (.bool true)), (19, .d (.sl 1 (is w))), (20, .d (.int .i64 w.length)), (21, .d (.int .i64 p.1))]) (fun _ => []) 0 (fun p => w.length - p.1) [0, 1, 8, 19, 20, 21] [] (0, f) ⟨Nat.zero_le _, rfl⟩ rfl rfl (Nat.le_refl _) (fun _ _ => rfl) (fun _ _ => rfl) fun p hp => ?_
  obtain ⟨k, t⟩ := p
  obtain ⟨hk1, hk2⟩ := hp
  simp only at hk1 hk2
  by_cases hk3 : k < w.length
  · have cs := pStep (f := t) (z := w[k]!) hl
    have hst := leadF_take (l := l) (f := f) hk3
    rw [hk2] at hst
    simp only at hst
    cases hsf : stepF l t (w[k]!) with
    | none =>
      rw [hsf] at cs hst
      rw [leadF_none hst]
      unfold stepR at cs ⊢
      have c0_ := cs; refine goT ?_; first | exact trivial | skip
    | some u =>
      rw [hsf] at cs hst
      unfold stepR at cs
      have c0_ := cs; refine goT ?_; first | exact trivial | skip
      refine ⟨(k + 1, u), ⟨by show k + 1 ≤ _; omega, hst⟩, ?_, rfl, by show w.length - (k + 1) < w.length - k; omega⟩
      simp (disch := omega) only [go_sem, keepL, Int.natCast_add, Int.cast_ofNat_Int]
  · have hkl : k = w.length := by omega
    subst hkl
    rw [List.take_length] at hk2
    rw [hk2]; unfold stepR
    refine goT ?_; first | exact trivial | skip
/-- What the closure looks at. -/
def Cl (m : Int) (s : Se) (n : Nat) (i : Nat) (t : List (List Int)) : Heap := [(0, .var [.d (.int .u64 m)]), (1, .var [.d (.int .i64 s.eat), .d (.sl 1 (is s.put)), .d (.bool s.any), .d (.int .u64 s.cost)]), (2, .var [.tab 4 n]), (3, .var [.d (.int .i64 i)]), (4, .tab TU (tt t) none)]
set_option maxHeartbeats 4000000 in
set_option maxRecDepth 10000 in
theorem pTb1 {m : Int} {s : Se} {n i : Nat} {t : List (List Int)} {e : Nat} (hn : t.length = n) (hi : i + s.eat.toNat < n) (he0 : 0 ≤ s.eat) (hrow : (t[i + s.eat.toNat]!).length ≤ 1000000) (he : e < (t[i + s.eat.toNat]!).length) (hnn : n ≤ 1000000)
    (hm : U m) (hc : U s.cost) (hv : U (get2 t (i + s.eat.toNat) e)) : SoundM Tryz.prog 34 [.d (.int .i64 e), .ref 0 0, .ref 1 0, .ref 2 0, .ref 3 0] (Cl m s n i t) (.tup []) (Cl (endK t i s m e) s n i t) 5 := by
  obtain ⟨eat, put, any, cost⟩ := s
  obtain ⟨d, rfl⟩ := Int.eq_ofNat_of_zero_le he0
  simp only [Int.toNat_natCast] at hi hrow he hv
  have c1 := costAdd hc hv
  have c2 := costLeast2 hm (U_cadd hc hv)
  have ei : (i : Int) + (d : Int) = ((i + d : Nat) : Int) := by omega
  have eE : endK t i ⟨d, put, any, cost⟩ m e = min m (cadd cost ((t[i + d]!)[e]!)) := rfl
  rw [eE]
  unfold get2 at c1 c2
  unfold Cl
  refine SoundM.run (N := 22) (ks := [0, 1, 2, 3, 4]) Tryz.func34 rfl (by kernel_rfl) rfl rfl rfl (by first | exact argsA_0 | exact argsA_1 | exact argsA_2 | exact argsA_3 | exact argsA_4 | exact argsA_5 | exact argsA_6) fun X_ ν_ w_ => ?_
  have c0_ := c1; have c1_ := c2; refine goX (And.intro @hn (And.intro @ei @us_len)) ?_; first | exact trivial | skip
set_option maxHeartbeats 4000000 in
set_option maxRecDepth 10000 in
theorem pEnds {m : Int} {s : Se} {n i k : Nat} {t : List (List Int)} {l : List Sta} (hl : StaOk l) (hchk : achk l = true) (hk : k < l.length) (hn : t.length = n) (hi : i + s.eat.toNat < n) (he0 : 0 ≤ s.eat) (hrow : (t[i + s.eat.toNat]!).length = l.length) (hnn : n ≤ 1000000) (hput : s.put.length ≤ 9223372036854775807)
    (hm : U m) (hc : U s.cost) (hv : ∀ e ∈ endsF s l k, U (get2 t (i + s.eat.toNat) e.toNat)) : SoundM Tryz.prog 33 [.d (se s), .d (.sl 2 (stas l)), .d (.int .i64 k), .fn 34 [.ref 0 0, .ref 1 0, .ref 2 0, .ref 3 0]] (Cl m s n i t) (.tup []) (Cl (stK l t i k m s) s n i t) 5 := by
  have hlen := (achk_iff.1 hchk).2.2
  have hlok := hl.1
  have hak := hl.get hk
  unfold se
  cases ha : s.any
  · have cl := pLead (f := k) (w := s.put) hl hput
    cases hg : leadG l k s.put with
    | none =>
      have e : endsF s l k = [] := by unfold endsF; rw [ha, if_neg (by decide), hg]
      have eS : stK l t i k m s = m := by unfold stK; rw [e]; rfl
      rw [hg] at cl
      unfold stepR at cl
      rw [eS]
      unfold Cl
      rw [ha]
      refine SoundM.run (N := 41) (ks := [0, 1, 2, 3, 4]) Tryz.func33 rfl (by kernel_rfl) rfl rfl rfl (by first | exact argsA_0 | exact argsA_1 | exact argsA_2 | exact argsA_3 | exact argsA_4 | exact argsA_5 | exact argsA_6) fun X_ ν_ w_ => ?_
      have c0_ := cl; refine goT ?_; first | exact trivial | skip
    | some e0 =>
      have e : endsF s l k = [e0] := by unfold endsF; rw [ha, if_neg (by decide), hg]
      have eS : stK l t i k m s = endK t i s m e0 := by unfold stK; rw [e]; rfl
      have hin := endsF_in hchk hk (s := s) (e := e0) (by rw [e]; simp)
      obtain ⟨x, rfl⟩ := Int.eq_ofNat_of_zero_le (by omega : 0 ≤ e0)
      have hvx := hv x (by rw [e]; simp)
      have ct := pTb1 (m := m) (s := s) (n := n) (i := i) (t := t) (e := x) hn hi he0 (by omega) (by omega) hnn hm hc (by simpa using hvx)
      rw [hg] at cl
      unfold stepR at cl
      rw [eS]
      unfold Cl at ct ⊢
      rw [ha] at ct ⊢
      refine SoundM.run (N := 41) (ks := [0, 1, 2, 3, 4]) Tryz.func33 rfl (by kernel_rfl) rfl rfl rfl (by first | exact argsA_0 | exact argsA_1 | exact argsA_2 | exact argsA_3 | exact argsA_4 | exact argsA_5 | exact argsA_6) fun X_ ν_ w_ => ?_
      have c0_ := cl; have c1_ := ct; refine goT ?_; first | exact trivial | skip
  · have e : endsF s l k = (l[k]!).arcs.map (·.to) := by unfold endsF; rw [ha, if_pos rfl]
    have eS : stK l t i k m s = ((l[k]!).arcs.map (·.to)).foldl (endK t i s) m := by unfold stK; rw [e]
    rw [eS]
    rw [e] at hv
    unfold Cl
    rw [ha]
    refine SoundM.run (N := 41) (ks := [0, 1, 2, 3, 4]) Tryz.func33 rfl (by kernel_rfl) rfl rfl rfl (by first | exact argsA_0 | exact argsA_1 | exact argsA_2 | exact argsA_3 | exact argsA_4 | exact argsA_5 | exact argsA_6) fun X_ ν_ w_ => ?_
    refine goT ?_; first | exact trivial | skip
    refine WP_loopk (fun j : Nat => j ≤ (l[k]!).arcs.length) (fun j => [(3, .fn 34 [.ref 0 0, .ref 1 0, .ref 2 0, .ref 3 0]), (18, .d (.sl 2 (ars (l[k]!).arcs))), (19, .d (.int .i64 (l[k]!).arcs.length)), (20, .d (.int .i64 j))])
      (fun j => [(0, .var [.d (.int .u64 ((((l[k]!).arcs.take j).map (·.to)).foldl (endK t i s) m))]), (1, .var [.d (.int .i64 s.eat), .d (.sl 1 (is s.put)), .d (.bool true), .d (.int .u64 s.cost)]), (2, .var [.tab 4 n]), (3, .var [.d (.int .i64 i)]), (4, .tab TU (tt t) none)]) 5 (fun j => (l[k]!).arcs.length - j) [3, 18, 19, 20] [0, 1, 2, 3, 4] 0 (Nat.zero_le _) rfl rfl (Nat.le_of_ble_eq_true rfl) (fun _ _ => rfl) (fun _ _ => rfl) fun j hj => ?_
    by_cases hj2 : j < (l[k]!).arcs.length
    · have hmem : (l[k]!).arcs[j]! ∈ (l[k]!).arcs := by rw [getElem!_pos _ j hj2]; exact List.getElem_mem hj2
      have harc := achk_arc hchk hk _ hmem
      obtain ⟨x, hx⟩ := Int.eq_ofNat_of_zero_le (by omega : 0 ≤ ((l[k]!).arcs[j]!).to)
      have hvx := hv x (List.mem_map.2 ⟨_, hmem, hx⟩)
      have hum : U ((((l[k]!).arcs.take j).map (·.to)).foldl (endK t i s) m) := ends_fold hc _ _ hm fun e he => by
        obtain ⟨a, ham, rfl⟩ := List.mem_map.1 he
        exact hv _ (List.mem_map.2 ⟨a, List.mem_of_mem_take ham, rfl⟩)
      have ct := pTb1 (m := (((l[k]!).arcs.take j).map (·.to)).foldl (endK t i s) m) (s := s) (n := n) (i := i) (t := t) (e := x) hn hi he0 (by omega) (by omega) hnn hum hc (by simpa using hvx)
      have hst : (((l[k]!).arcs.take (j + 1)).map (·.to)).foldl (endK t i s) m = endK t i s ((((l[k]!).arcs.take j).map (·.to)).foldl (endK t i s) m) x := by
        rw [atake_snoc hj2, List.map_append, List.foldl_append, List.map_cons, List.map_nil, hx]; rfl
      unfold Cl at ct
      rw [ha] at ct
      have c0_ := ct; refine goX @hx ?_; first | exact trivial | skip
      refine ⟨j + 1, by omega, ?_, ?_, by omega⟩
      · simp (disch := omega) only [go_sem, keepL, Int.natCast_add, Int.cast_ofNat_Int]
      · simp (disch := omega) only [go_sem, keepL, hst]
    · have hje : j = (l[k]!).arcs.length := by omega
      subst hje
      rw [List.take_length]
      refine goT ?_; first | exact trivial | skip
end Go.Eng.Tryz

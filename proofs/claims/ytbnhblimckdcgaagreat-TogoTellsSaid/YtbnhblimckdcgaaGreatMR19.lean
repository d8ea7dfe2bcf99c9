/- What it costs to finish: the laws, plainly. (and what stands behind it: texts laid together) -/
import Derived.Test.YtbnhblimckdcgaaGreatMR18
import Derived.Test.YtbnhblimckdcgaaGreatMR14
set_option linter.unusedVariables false
set_option linter.unusedSimpArgs false
namespace Go.Eng.Tryz
open Go Go.Eng Go.Proofs Go.RowKit
theorem cadd_mono {a x y : Int} (h : x ≤ y) : cadd a x ≤ cadd a y := by unfold cadd; split <;> split <;> omega
/-- Of two tables, the one with more steps and more ends is no greater. -/
theorem tg_le {all all' : List (List Se)} {l l' : List Sta} {t t' : List (List Int)} (hS : StepsG all) (hl : achk l = true) (hlen : all'.length = all.length) (hll : l'.length = l.length)
    (hsub : ∀ i, i < all.length → ∀ s ∈ all'[i]!, s ∈ all[i]!) (hends : ∀ s k, endsF s l' k = endsF s l k) (hbase : ∀ i k, k < l.length → base all.length l i k ≤ base all.length l' i k) (ht : TG all l t) (ht' : TG all' l' t') :
    ∀ a b i k, i < all.length → k < l.length → all.length - i = a → l.length - k = b → get2 t i k ≤ get2 t' i k := by
  intro a
  induction a using Nat.strongRecOn with
  | _ a iha =>
  intro b
  induction b using Nat.strongRecOn with
  | _ b ihb =>
  intro i k hi hk ea eb
  have f1 := (ht.fix i k hi hk).1
  have f2 := (ht'.fix i k (by omega) (by omega)).1
  have l1 := cell_le (l := l) (t := t) (i := i) (k := k) (all[i]!) (base all.length l i k)
  have l2 := cell_le (l := l') (t := t') (i := i) (k := k) (all'[i]!) (base all'.length l' i k)
  rw [f1, f2]
  unfold cellT
  obtain ⟨p1, p2, p3⟩ := l1
  clear p3
  rcases l2.2.2 with e | ⟨s, hs, e, he, h⟩
  · rw [e, hlen]
    exact Int.le_trans p1 (hbase i k hk)
  · rw [hends] at he
    have hs2 := hsub i hi s hs
    obtain ⟨q1, q2, q3⟩ := behind (t := t) hS hl hi hk hs2 he
    rw [h]
    refine Int.le_trans (p2 s hs2 e he) (cadd_mono ?_)
    clear l2 p1 p2 h f1 f2
    rcases q3 with q3 | ⟨q3, q4⟩
    · exact iha (all.length - (i + s.eat.toNat)) (by omega) _ _ _ q1 q2 rfl rfl
    · rw [q3]
      exact ihb (l.length - e.toNat) (by omega) _ _ hi q2 ea rfl
theorem stAt_sub {c : Co} {rest : List Int} {k : Nat} {s : Se} (h : s ∈ stAt ⟨c.more, c.less, c.other, c.turned, c.rules.take k⟩ rest) : s ∈ stAt c rest := by
  rw [stAt_mem] at h ⊢
  rcases h with h | h | h | ⟨r, hr, h1, h2⟩
  · exact .inl h
  · exact .inr (.inl h)
  · exact .inr (.inr (.inl h))
  · exact .inr (.inr (.inr ⟨r, List.mem_of_mem_take hr, h1, h2⟩))
/-- The first ones of rules in order are in order. -/
theorem srt_take {l : List Ru} (h : Srt l) (k : Nat) : Srt (l.take k) := List.Pairwise.sublist (List.take_sublist k l) h
theorem norm_take {l : List Ru} (h : norm l = l) (k : Nat) : norm (l.take k) = l.take k := by
  obtain ⟨h1, h2⟩ := norm_fix.1 h
  exact norm_fix.2 ⟨srt_take h1 k, fun r hr => h2 r (List.mem_of_mem_take hr)⟩
theorem cok_take {c : Co} (h : cok c = true) (k : Nat) : cok ⟨c.more, c.less, c.other, c.turned, c.rules.take k⟩ = true := by
  obtain ⟨h1, h2, h3, h4⟩ := cok_iff.1 h
  refine cok_iff.2 ⟨h1, by show (c.rules.take k).length ≤ 200; simp only [List.length_take]; omega, List.all_eq_true.2 fun r hr => List.all_eq_true.1 h3 r (List.mem_of_mem_take hr), norm_take h4 k⟩
theorem ok_take {c : Co} (hc : c.ok) (n : Nat) : Co.ok ⟨c.more, c.less, c.other, c.turned, c.rules.take n⟩ := by
  obtain ⟨u1, u2, u3, u4, hr, hl⟩ := hc
  exact ⟨u1, u2, u3, u4, fun r hr' => hr r (List.mem_of_mem_take hr'), by simp only [List.length_take]; omega⟩
/-- What a table tells, when it tells. -/
theorem tableG_TG {c : Co} {q : List Int} {l : List Sta} (hc : c.ok) (h : mayG c q l = true) : q.length ≤ 20 ∧ cok c = true ∧ achk l = true ∧ TG (allF c q (q.length + 1)) l (tableG c q l) := by
  have e : tableG c q l = tg (allF c q (q.length + 1)) l := if_pos h
  unfold mayG at h
  rw [Bool.and_eq_true] at h
  obtain ⟨h1, h2⟩ := may_iff.1 h.1
  exact ⟨h1, h2, h.2, e ▸ tg_all (tg_steps hc h2 q) h.2⟩
/-- Two tables, as the laws look at them: as large, and no greater. -/
def LeT (a b : List (List Int)) (L : Nat) : Prop := b.length = a.length ∧ (∀ i, i < a.length → (a[i]!).length = L ∧ (b[i]!).length = L) ∧ ∀ i k, i < a.length → k < L → (a[i]!)[k]! ≤ (b[i]!)[k]!
theorem togo_few {c : Co} {q : List Int} {l : List Sta} (hc : c.ok) (hk : cok c = true) (n : Nat) : LeT (tableG c q l) (tableG ⟨c.more, c.less, c.other, c.turned, c.rules.take n⟩ q l) l.length := by
  have em : mayG ⟨c.more, c.less, c.other, c.turned, c.rules.take n⟩ q l = mayG c q l := by unfold mayG may; rw [cok_take hk, hk]
  cases hm : mayG c q l
  · have e1 : tableG c q l = [] := if_neg (by rw [hm]; simp)
    have e2 : tableG ⟨c.more, c.less, c.other, c.turned, c.rules.take n⟩ q l = [] := if_neg (by rw [em, hm]; simp)
    rw [e1, e2]
    exact ⟨rfl, fun i hi => absurd hi (by simp), fun i k hi => absurd hi (by simp)⟩
  · obtain ⟨_, _, h3, t1⟩ := tableG_TG hc hm
    obtain ⟨_, _, _, t2⟩ := tableG_TG (ok_take hc n) (em.trans hm)
    have hl1 := t1.len
    have hl2 := t2.len
    rw [allF_len] at hl1 hl2
    refine ⟨by omega, fun i hi => ⟨t1.rows i (by rw [allF_len]; omega), t2.rows i (by rw [allF_len]; omega)⟩, fun i k hi hkk => ?_⟩
    refine tg_le (tg_steps hc hk q) h3 (by rw [allF_len, allF_len]) rfl (fun i hi s hs => ?_) (fun _ _ => rfl) (fun i k hk => by rw [allF_len]; exact Int.le_refl _) t1 t2 _ _ i k (by rw [allF_len]; omega) hkk rfl rfl
    rw [allF_len] at hi
    rw [allF_get _ q hi] at hs ⊢
    exact stAt_sub hs
def setF (l : List Sta) (k : Nat) : List Sta := l.set k ⟨true, (l[k]!).arcs⟩
theorem getB_set4 {l : List Sta} {i j : Nat} {v : Sta} (h : i < l.length) : (l.set i v)[j]! = if j = i then v else l[j]! := getB_setI h
theorem setF_arcs {l : List Sta} {k : Nat} (hk : k < l.length) (j : Nat) : ((setF l k)[j]!).arcs = (l[j]!).arcs := by
  unfold setF
  rw [getB_set4 hk]
  split
  · rename_i h; rw [h]
  · rfl
theorem setF_len (l : List Sta) (k : Nat) : (setF l k).length = l.length := by simp [setF]
theorem achk_arcs {l l' : List Sta} (hl : l'.length = l.length) (h : ∀ j : Nat, (l'[j]!).arcs = (l[j]!).arcs) : achk l' = achk l := by
  unfold achk statesOk
  rw [hl]
  have : ∀ n m : Nat, (List.range n).all (fun i => arcsOk i m (-1) (l'[i]!).arcs) = (List.range n).all (fun i => arcsOk i m (-1) (l[i]!).arcs) := fun n m => by simp only [h]
  rw [this]
theorem stepF_arcs {l l' : List Sta} (hl : l'.length = l.length) (h : ∀ j : Nat, (l'[j]!).arcs = (l[j]!).arcs) (f z : Int) : stepF l' f z = stepF l f z := by unfold stepF; rw [hl, h]
theorem leadF_arcs {l l' : List Sta} (hl : l'.length = l.length) (h : ∀ j : Nat, (l'[j]!).arcs = (l[j]!).arcs) : ∀ (w : List Int) (f : Int), leadF l' f w = leadF l f w
  | [], f => rfl
  | z :: w, f => by simp only [leadF, stepF_arcs hl h, leadF_arcs hl h w]
theorem endsF_arcs {l l' : List Sta} (hl : l'.length = l.length) (h : ∀ j : Nat, (l'[j]!).arcs = (l[j]!).arcs) (s : Se) (k : Nat) : endsF s l' k = endsF s l k := by
  unfold endsF leadG
  rw [hl, h, leadF_arcs hl h]
theorem mayG_arcs {l l' : List Sta} (hl : l'.length = l.length) (h : ∀ j : Nat, (l'[j]!).arcs = (l[j]!).arcs) (c : Co) (q : List Int) : mayG c q l' = mayG c q l := by unfold mayG; rw [achk_arcs hl h]
theorem StaOk.setF {l : List Sta} (h : StaOk l) {k : Nat} (hk : k < l.length) : StaOk (setF l k) := by
  refine ⟨by rw [setF_len]; exact h.1, fun s hs => ?_⟩
  obtain ⟨j, hj, rfl⟩ := List.getElem_of_mem hs
  rw [← getElem!_pos _ j hj, setF_arcs hk]
  rw [setF_len] at hj
  exact h.get hj
theorem setF_final {l : List Sta} {k j : Nat} (hk : k < l.length) (h : (l[j]!).final = true) : ((setF l k)[j]!).final = true := by
  unfold setF
  rw [getB_set4 hk]
  split
  · rfl
  · exact h
theorem togo_final {c : Co} {q : List Int} {l : List Sta} (hc : c.ok) (hm : mayG c q l = true) {k : Nat} (hk : k < l.length) :
    (tableG c q l).length = q.length + 1 ∧ LeT (tableG c q (setF l k)) (tableG c q l) l.length ∧ ((tableG c q (setF l k))[q.length]!)[k]! = 0 := by
  obtain ⟨h1, h2, h3, t1⟩ := tableG_TG hc hm
  have em := mayG_arcs (setF_len l k) (setF_arcs hk) c q
  obtain ⟨_, _, h4, t2⟩ := tableG_TG hc (em.trans hm)
  have hl1 := t1.len
  have hl2 := t2.len
  have hr2 := t2.rows
  rw [setF_len] at hr2
  rw [allF_len] at hl1 hl2
  refine ⟨hl1, ⟨by omega, fun i hi => ⟨hr2 i (by rw [allF_len]; omega), t1.rows i (by rw [allF_len]; omega)⟩, fun i j hi hj => ?_⟩, ?_⟩
  · refine tg_le (tg_steps hc h2 q) h4 rfl (by rw [setF_len]) (fun i hi s hs => hs) (fun s j => (endsF_arcs (setF_len l k) (setF_arcs hk) s j).symm) (fun i j hj => ?_) t2 t1 _ _ i j (by rw [allF_len]; omega) (by rw [setF_len]; exact hj) rfl rfl
    unfold base
    by_cases h : i + 1 = (allF c q (q.length + 1)).length ∧ (l[j]!).final = true
    · rw [if_pos h, if_pos ⟨h.1, setF_final hk h.2⟩]; exact Int.le_refl _
    · rw [if_neg h]; split <;> omega
  · obtain ⟨f1, f2⟩ := t2.fix q.length k (by rw [allF_len]; omega) (by rw [setF_len]; exact hk)
    have := (cell_le (l := setF l k) (t := tableG c q (setF l k)) (i := q.length) (k := k) ((allF c q (q.length + 1))[q.length]!) (base (allF c q (q.length + 1)).length (setF l k) q.length k)).1
    have hb : base (allF c q (q.length + 1)).length (setF l k) q.length k = 0 := by
      unfold base
      rw [if_pos]
      refine ⟨by rw [allF_len], ?_⟩
      unfold setF; rw [getB_set4 hk, if_pos rfl]
    rw [hb] at this
    unfold cellT at f1
    rw [hb] at f1
    have e : ((tableG c q (setF l k))[q.length]!)[k]! = get2 (tableG c q (setF l k)) q.length k := rfl
    have h0 := f2.1
    omega
theorem arcs_find {i n : Int} : ∀ {l : List Ar} {last : Int}, arcsOk i n last l = true → ∀ a ∈ l, l.find? (sgn a.sign) = some a
  | [], _, _, a, ha => by cases ha
  | b :: l, last, h, a, ha => by
    rcases List.mem_cons.1 ha with e | e
    · subst e; simp [List.find?, sgn]
    · simp only [arcsOk, Bool.and_eq_true] at h
      have := arcsOk_mem h.2 a e
      have hne : sgn a.sign b = false := decide_eq_false (by omega)
      rw [List.find?_cons_of_neg (by simp [hne])]
      exact arcs_find h.2 a e
/-- What a table tells of steps on single signs. -/
theorem togo_leads {c : Co} {q : List Int} {l : List Sta} (hc : c.ok) (hm : mayG c q l = true) {i k : Nat} (hi : i < q.length) (hk : k < l.length) :
    get2 (tableG c q l) i k ≤ cadd c.less (get2 (tableG c q l) (i + 1) k) ∧ ∀ a ∈ (l[k]!).arcs, get2 (tableG c q l) i k ≤ cadd c.other (get2 (tableG c q l) (i + 1) a.to.toNat) ∧ get2 (tableG c q l) i k ≤ cadd c.more (get2 (tableG c q l) i a.to.toNat) ∧ (a.sign = q[i]! → get2 (tableG c q l) i k ≤ get2 (tableG c q l) (i + 1) a.to.toNat) := by
  obtain ⟨h1, h2, h3, t1⟩ := tableG_TG hc hm
  have hi2 : i < (allF c q (q.length + 1)).length := by rw [allF_len]; omega
  obtain ⟨f1, f2⟩ := t1.fix i k hi2 hk
  have hc1 := (cell_le (l := l) (t := tableG c q l) (i := i) (k := k) ((allF c q (q.length + 1))[i]!) (base (allF c q (q.length + 1)).length l i k)).2.1
  unfold cellT at f1
  rw [← f1, allF_get c q (by omega)] at hc1
  have hd : q.drop i = q[i]! :: q.drop (i + 1) := by rw [List.drop_eq_getElem_cons hi, getElem!_pos q i hi]
  have m1 : ∀ s, (s = ⟨1, [q[i]!], false, 0⟩ ∨ s = ⟨1, [], true, c.other⟩ ∨ s = ⟨1, [], false, c.less⟩) → s ∈ stAt c (q.drop i) := fun s hs => stAt_mem.2 (.inl (st1_mem.2 ⟨_, _, hd, hs⟩))
  have m2 : (⟨0, [], true, c.more⟩ : Se) ∈ stAt c (q.drop i) := stAt_mem.2 (.inr (.inr (.inl rfl)))
  refine ⟨?_, fun a ha => ⟨?_, ?_, fun hs => ?_⟩⟩
  · have := hc1 _ (m1 _ (.inr (.inr rfl))) k (by unfold endsF leadG; rw [if_neg (by simp), if_pos ⟨by omega, by omega⟩]; simp [leadF])
    simpa using this
  · have := hc1 _ (m1 _ (.inr (.inl rfl))) a.to (by unfold endsF; rw [if_pos rfl]; exact List.mem_map.2 ⟨a, ha, rfl⟩)
    simpa using this
  · have := hc1 _ m2 a.to (by unfold endsF; rw [if_pos rfl]; exact List.mem_map.2 ⟨a, ha, rfl⟩)
    simpa using this
  · have hf := arcs_find (statesOk_le (achk_iff.1 h3).1 hk) a ha
    have := hc1 _ (m1 _ (.inl rfl)) a.to (by
      unfold endsF leadG
      rw [if_neg (by simp), if_pos ⟨by omega, by omega⟩]
      simp only [leadF, stepF]
      rw [if_pos ⟨by omega, by omega⟩, Int.toNat_natCast, ← hs, hf]
      simp)
    have hU := achk_arc h3 hk a ha
    obtain ⟨_, u2⟩ := t1.fix (i + 1) a.to.toNat (by rw [allF_len]; omega) (by omega)
    simp only [Int.toNat_one] at this
    unfold U at u2
    unfold cadd at this
    rw [if_pos (by omega)] at this
    omega
end Go.Eng.Tryz
set_option linter.unusedVariables false
set_option linter.unusedSimpArgs false
namespace Go.Eng.Tryz
open Go Go.Eng Go.Proofs Go.RowKit
/-- The least cost of finishing by a step first. -/
def byF (s : Se) (l : List Sta) (k : Nat) (row : List Int) : Int := (endsF s l k).foldl (fun m e => min m (cadd s.cost (row[e.toNat]!))) 18446744073709551615
theorem stK_by {l : List Sta} {t : List (List Int)} {i k : Nat} {m : Int} {s : Se} (hm : m ≤ 18446744073709551615) : stK l t i k m s = min m (byF s l k (t[i + s.eat.toNat]!)) := by
  unfold stK byF
  have : ∀ (es : List Int) (a b : Int), es.foldl (endK t i s) (min a b) = min a (es.foldl (fun m e => min m (cadd s.cost ((t[i + s.eat.toNat]!)[e.toNat]!))) b) := by
    intro es
    induction es with
    | nil => intro a b; rfl
    | cons e es ih =>
      intro a b
      simp only [List.foldl_cons]
      have e1 : endK t i s (min a b) e = min a (min b (cadd s.cost ((t[i + s.eat.toNat]!)[e.toNat]!))) := by unfold endK get2; omega
      rw [e1]
      exact ih _ _
  have h := this (endsF s l k) m 18446744073709551615
  rw [Int.min_eq_left hm] at h
  exact h
def rel1 (l : List Sta) (i k : Nat) (x : List (List Int) × Bool) (s : Se) : List (List Int) × Bool :=
  (set2 x.1 i k (min (get2 x.1 i k) (byF s l k (x.1[i + s.eat.toNat]!))), x.2 || decide (byF s l k (x.1[i + s.eat.toNat]!) < get2 x.1 i k))
def relK (all : List (List Se)) (l : List Sta) (i k n : Nat) (x : List (List Int) × Bool) : List (List Int) × Bool := ((all[i]!).take n).foldl (rel1 l i k) x
def relM (all : List (List Se)) (l : List Sta) (i m : Nat) (x : List (List Int) × Bool) : List (List Int) × Bool := (List.range m).foldl (fun x m => (all[i]!).foldl (rel1 l i (l.length - 1 - m)) x) x
def relI (all : List (List Se)) (l : List Sta) (n : Nat) (x : List (List Int) × Bool) : List (List Int) × Bool := (List.range n).foldl (fun x j => relM all l (all.length - 1 - j) l.length x) x
theorem relK_step {all : List (List Se)} {l : List Sta} {i k n : Nat} {x : List (List Int) × Bool} (h : n < (all[i]!).length) : relK all l i k (n + 1) x = rel1 l i k (relK all l i k n x) ((all[i]!)[n]!) := by
  unfold relK
  rw [List.take_add_one, List.foldl_append, List.getElem?_eq_getElem h, getElem!_pos (all[i]!) n h]
  rfl
theorem relM_step (all : List (List Se)) (l : List Sta) (i m : Nat) (x : List (List Int) × Bool) : relM all l i (m + 1) x = relK all l i (l.length - 1 - m) (all[i]!).length (relM all l i m x) := by simp [relM, relK, List.range_succ]
theorem relI_step (all : List (List Se)) (l : List Sta) (n : Nat) (x : List (List Int) × Bool) : relI all l (n + 1) x = relM all l (all.length - 1 - n) l.length (relI all l n x) := by simp [relI, List.range_succ]
/-- Rows from which nothing can be finished, but at the end. -/
def empR (n : Nat) (l : List Sta) (i : Nat) : List Int := (List.range l.length).map fun k => base n l i k
def emp0 (n : Nat) (l : List Sta) : List (List Int) := (List.range n).map fun i => empR n l i
theorem emp0_shape (n : Nat) (l : List Sta) : Shape (emp0 n l) n l.length := ⟨by simp [emp0], fun i hi => by
  rw [getElem!_pos _ i (by simpa [emp0] using hi)]
  simp [emp0, empR]⟩
theorem emp0_get {n : Nat} {l : List Sta} {i k : Nat} (hi : i < n) (hk : k < l.length) : get2 (emp0 n l) i k = base n l i k := by
  unfold get2
  rw [getElem!_pos (emp0 n l) i (by simpa [emp0] using hi)]
  simp only [emp0, List.getElem_map, List.getElem_range]
  rw [getElem!_pos _ k (by simpa [empR] using hk)]
  simp [empR]
theorem base_U (n : Nat) (l : List Sta) (i k : Nat) : U (base n l i k) := by unfold base U; split <;> omega
theorem set2_set2 {t : List (List Int)} {n m i k : Nat} {v v' : Int} (h : Shape t n m) (hi : i < n) : set2 (set2 t i k v) i k v' = set2 t i k v' := by
  unfold set2
  rw [getB_set (by rw [h.1]; exact hi), if_pos rfl, List.set_set, List.set_set]
theorem set2_selfS {t : List (List Int)} {n m i k : Nat} (h : Shape t n m) (hi : i < n) (hk : k < m) : set2 t i k (get2 t i k) = t := by
  unfold set2 get2
  have h1 : i < t.length := by rw [h.1]; exact hi
  have h2 : k < (t[i]!).length := by rw [h.2 i hi]; exact hk
  rw [getElem!_pos (t[i]!) k h2, List.set_getElem_self, getElem!_pos t i h1, List.set_getElem_self]
theorem byF_congr {s : Se} {l : List Sta} {k : Nat} {r r' : List Int} (h : ∀ e ∈ endsF s l k, r'[e.toNat]! = r[e.toNat]!) : byF s l k r' = byF s l k r := by
  unfold byF
  generalize (18446744073709551615 : Int) = m
  generalize endsF s l k = es at h
  induction es generalizing m with
  | nil => rfl
  | cons e es ih =>
    simp only [List.foldl_cons]
    rw [h e (by simp)]
    exact ih _ fun x hx => h x (by simp [hx])
theorem stK_le {l : List Sta} {t : List (List Int)} {i k : Nat} {m : Int} {s : Se} : stK l t i k m s ≤ m := by unfold stK; exact (ends_le _ _).1
/-- One cell's steps. -/
theorem relK_at {all : List (List Se)} {l : List Sta} {t : List (List Int)} {i k : Nat} {b : Bool} (hS : StepsG all) (hl : achk l = true) (hsh : Shape t all.length l.length) (hi : i < all.length) (hk : k < l.length) (hu : get2 t i k ≤ 18446744073709551615) :
    ∀ n, n ≤ (all[i]!).length → ∃ b', relK all l i k n (t, b) = (set2 t i k (((all[i]!).take n).foldl (stK l t i k) (get2 t i k)), b') := by
  intro n
  induction n with
  | zero => intro _; exact ⟨b, by simp only [relK, List.take_zero, List.foldl_nil]; rw [set2_selfS hsh hi hk]⟩
  | succ n ih =>
    intro hn
    obtain ⟨b', hb⟩ := ih (by omega)
    rw [relK_step (by omega), hb]
    have hmem : (all[i]!)[n]! ∈ all[i]! := by rw [getElem!_pos (all[i]!) n (by omega)]; exact List.getElem_mem _
    have hft : ((all[i]!).take (n + 1)).foldl (stK l t i k) (get2 t i k) = stK l t i k (((all[i]!).take n).foldl (stK l t i k) (get2 t i k)) ((all[i]!)[n]!) := by
      rw [List.take_add_one, List.foldl_append, List.getElem?_eq_getElem (show n < (all[i]!).length by omega), getElem!_pos (all[i]!) n (by omega)]
      rfl
    rw [hft]
    have hv : ((all[i]!).take n).foldl (stK l t i k) (get2 t i k) ≤ 18446744073709551615 := Int.le_trans (cell_le (l := l) (t := t) (i := i) (k := k) _ _).1 hu
    generalize ((all[i]!).take n).foldl (stK l t i k) (get2 t i k) = v at *
    generalize (all[i]!)[n]! = s at *
    have hg : get2 (set2 t i k v) i k = v := by rw [get2_set hsh hi hk, if_pos ⟨rfl, rfl⟩]
    have hrow : byF s l k ((set2 t i k v)[i + s.eat.toNat]!) = byF s l k (t[i + s.eat.toNat]!) := byF_congr fun e he => by
      obtain ⟨q1, q2, q3⟩ := behind (t := t) hS hl hi hk hmem he
      have := get2_set (a := i + s.eat.toNat) (b := e.toNat) (v := v) hsh hi hk
      rw [if_neg (by omega)] at this
      exact this
    refine ⟨b' || decide (byF s l k (t[i + s.eat.toNat]!) < v), ?_⟩
    unfold rel1
    simp only
    rw [hg, hrow, set2_set2 hsh hi, stK_by hv]
/-- What holds in the first round: the cells from (i, k) on are told, the others are as they were. -/
structure P1 (all : List (List Se)) (l : List Sta) (t : List (List Int)) (i k : Nat) : Prop where
  shape : Shape t all.length l.length
  fix : ∀ a b, a < all.length → b < l.length → (i < a ∨ a = i ∧ k ≤ b) → Fix all l t a b
  raw : ∀ a b, a < all.length → b < l.length → ¬ (i < a ∨ a = i ∧ k ≤ b) → get2 t a b = base all.length l a b
theorem P1.u {all : List (List Se)} {l : List Sta} {t : List (List Int)} {i k : Nat} (h : P1 all l t i k) {a b : Nat} (ha : a < all.length) (hb : b < l.length) : U (get2 t a b) := by
  by_cases hc : i < a ∨ a = i ∧ k ≤ b
  · exact (h.fix a b ha hb hc).2
  · rw [h.raw a b ha hb hc]; exact base_U _ _ _ _
theorem P1.step {all : List (List Se)} {l : List Sta} {t : List (List Int)} {i k : Nat} (hS : StepsG all) (hl : achk l = true) (hi : i < all.length) (hk : k < l.length) (h : P1 all l t i (k + 1)) (b : Bool) :
    ∃ t' b', relK all l i k (all[i]!).length (t, b) = (t', b') ∧ P1 all l t' i k := by
  obtain ⟨b', hb⟩ := relK_at (b := b) hS hl h.shape hi hk (h.u hi hk).2 (all[i]!).length (Nat.le_refl _)
  rw [List.take_length, h.raw i k hi hk (by omega)] at hb
  change relK all l i k (all[i]!).length (t, b) = (set2 t i k (cellT all l t i k), b') at hb
  refine ⟨_, _, hb, ?_⟩
  have hg : ∀ a b, get2 (set2 t i k (cellT all l t i k)) a b = if a = i ∧ b = k then cellT all l t i k else get2 t a b := fun a b => get2_set h.shape hi hk
  have hsame : ∀ a b, ¬ (a = i ∧ b = k) → get2 (set2 t i k (cellT all l t i k)) a b = get2 t a b := fun a b h4 => by rw [hg a b, if_neg h4]
  have hcong : ∀ a b, a < all.length → b < l.length → (i < a ∨ a = i ∧ k ≤ b) → cellT all l (set2 t i k (cellT all l t i k)) a b = cellT all l t a b := fun a b h2 h3 h4 => cell_congr fun s hs e he => by
    obtain ⟨q1, q2, q3⟩ := behind (t := t) hS hl h2 h3 hs he
    exact hsame _ _ (by omega)
  refine ⟨h.shape.set hi, fun a b ha hb hab => ?_, fun a b ha hb hab => ?_⟩
  · unfold Fix
    rw [hcong a b ha hb hab]
    by_cases e : a = i ∧ b = k
    · obtain ⟨rfl, rfl⟩ := e
      rw [hg, if_pos ⟨rfl, rfl⟩]
      refine ⟨rfl, cell_U hS hi fun s hs e he => ?_⟩
      obtain ⟨q1, q2, _⟩ := behind (t := t) hS hl hi hk hs he
      exact h.u q1 q2
    · rw [hsame a b e]
      exact h.fix a b ha hb (by omega)
  · rw [hsame a b (by omega)]
    exact h.raw a b ha hb (by omega)
theorem relM_P1 {all : List (List Se)} {l : List Sta} {t : List (List Int)} {i : Nat} {b : Bool} (hS : StepsG all) (hl : achk l = true) (hi : i < all.length) (h : P1 all l t i l.length) :
    ∀ m, m ≤ l.length → ∃ t' b', relM all l i m (t, b) = (t', b') ∧ P1 all l t' i (l.length - m) := by
  intro m
  induction m with
  | zero => intro _; exact ⟨t, b, rfl, h⟩
  | succ m ih =>
    intro hm
    obtain ⟨t1, b1, e1, h1⟩ := ih (by omega)
    rw [relM_step, e1]
    have hk : l.length - 1 - m < l.length := by omega
    have e : l.length - m = (l.length - 1 - m) + 1 := by omega
    rw [e] at h1
    obtain ⟨t2, b2, e2, h2⟩ := h1.step hS hl hi hk b1
    exact ⟨t2, b2, e2, by rw [show l.length - (m + 1) = l.length - 1 - m by omega]; exact h2⟩
theorem relI_P1 {all : List (List Se)} {l : List Sta} {b : Bool} (hS : StepsG all) (hl : achk l = true) (hn : 0 < all.length) :
    ∀ n, n ≤ all.length → ∃ t' b', relI all l n (emp0 all.length l, b) = (t', b') ∧ (n < all.length → P1 all l t' (all.length - 1 - n) l.length) ∧ (n = all.length → TG all l t') := by
  intro n
  induction n with
  | zero =>
    intro _
    refine ⟨_, b, rfl, fun _ => ⟨emp0_shape _ _, fun a b ha hb hab => by omega, fun a b ha hb _ => emp0_get ha hb⟩, fun h => by omega⟩
  | succ n ih =>
    intro hm
    obtain ⟨t1, b1, e1, h1, _⟩ := ih (by omega)
    rw [relI_step, e1]
    obtain ⟨t2, b2, e2, h2⟩ := relM_P1 (b := b1) hS hl (by omega) (h1 (by omega)) l.length (Nat.le_refl _)
    rw [Nat.sub_self] at h2
    refine ⟨t2, b2, e2, fun h => ⟨h2.shape, fun a b ha hb hab => h2.fix a b ha hb (by omega), fun a b ha hb hab => h2.raw a b ha hb (by omega)⟩, fun h => ?_⟩
    exact ⟨h2.shape.1, h2.shape.2, fun a b ha hb => h2.fix a b ha hb (by omega)⟩
theorem TG_uniq {all : List (List Se)} {l : List Sta} {t t' : List (List Int)} (hS : StepsG all) (hl : achk l = true) (h : TG all l t) (h' : TG all l t') : t = t' := by
  have h1 := h.len
  have h2 := h'.len
  refine List.ext_getElem (by omega) fun i g1 g2 => ?_
  have r1 := h.rows i (by omega)
  have r2 := h'.rows i (by omega)
  rw [getElem!_pos t i g1] at r1
  rw [getElem!_pos t' i g2] at r2
  refine List.ext_getElem (by omega) fun k k1 k2 => ?_
  have a1 := tg_le (all := all) (all' := all) (l := l) (l' := l) hS hl rfl rfl (fun _ _ s hs => hs) (fun _ _ => rfl) (fun _ _ _ => Int.le_refl _) h h' _ _ i k (by omega) (by omega) rfl rfl
  have a2 := tg_le (all := all) (all' := all) (l := l) (l' := l) hS hl rfl rfl (fun _ _ s hs => hs) (fun _ _ => rfl) (fun _ _ _ => Int.le_refl _) h' h _ _ i k (by omega) (by omega) rfl rfl
  have e1 : get2 t i k = t[i][k] := by unfold get2; rw [getElem!_pos t i g1, getElem!_pos t[i] k k1]
  have e2 : get2 t' i k = t'[i][k] := by unfold get2; rw [getElem!_pos t' i g2, getElem!_pos t'[i] k k2]
  omega
/-- The first round tells all. -/
theorem relI_first {all : List (List Se)} {l : List Sta} (hS : StepsG all) (hl : achk l = true) (hn : 0 < all.length) : ∃ b', relI all l all.length (emp0 all.length l, false) = (tg all l, b') := by
  obtain ⟨t, b, e, _, h⟩ := relI_P1 (b := false) hS hl hn all.length (Nat.le_refl _)
  exact ⟨b, by rw [e, TG_uniq hS hl (h rfl) (tg_all hS hl)]⟩
/-- Another round changes nothing. -/
theorem relI_again {all : List (List Se)} {l : List Sta} (hS : StepsG all) (hl : achk l = true) : relI all l all.length (tg all l, false) = (tg all l, false) := by
  have ht := tg_all hS hl
  generalize tg all l = t at *
  have hsh : Shape t all.length l.length := ⟨ht.len, ht.rows⟩
  have h1 : ∀ i k, i < all.length → k < l.length → ∀ s ∈ all[i]!, rel1 l i k (t, false) s = (t, false) := fun i k hi hk s hs => by
    obtain ⟨f1, f2⟩ := ht.fix i k hi hk
    have hc := (cell_le (l := l) (t := t) (i := i) (k := k) (all[i]!) (base all.length l i k)).2.1 s hs
    unfold cellT at f1
    rw [← f1] at hc
    have hle : get2 t i k ≤ byF s l k (t[i + s.eat.toNat]!) := by
      have := ends_le (t := t) (i := i) (s := s) (endsF s l k) 18446744073709551615
      have hb : stK l t i k 18446744073709551615 s = byF s l k (t[i + s.eat.toNat]!) := by
        rw [stK_by (Int.le_refl _)]
        have : byF s l k (t[i + s.eat.toNat]!) ≤ 18446744073709551615 := by
          have h := @stK_le l t i k 18446744073709551615 s
          rw [stK_by (Int.le_refl _)] at h
          have h2 : byF s l k (t[i + s.eat.toNat]!) ≤ 18446744073709551615 := by
            unfold byF
            generalize (18446744073709551615 : Int) = m
            have : ∀ (es : List Int) (m : Int), es.foldl (fun m e => min m (cadd s.cost ((t[i + s.eat.toNat]!)[e.toNat]!))) m ≤ m := by
              intro es
              induction es with
              | nil => intro m; exact Int.le_refl _
              | cons e es ih => intro m; exact Int.le_trans (ih _) (Int.min_le_left _ _)
            exact this _ _
          exact h2
        omega
      change stK l t i k 18446744073709551615 s ≤ _ ∧ _ ∧ (stK l t i k 18446744073709551615 s = _ ∨ ∃ e ∈ endsF s l k, stK l t i k 18446744073709551615 s = _) at this
      rw [hb] at this
      rcases this.2.2 with h | ⟨e, he, h⟩
      · rw [h]; exact f2.2
      · rw [h]; exact hc e he
    unfold rel1
    simp only
    rw [Int.min_eq_left hle, set2_selfS hsh hi hk, decide_eq_false (by omega)]
    rfl
  have hf : ∀ (i k : Nat), i < all.length → k < l.length → ∀ ss : List Se, (∀ s ∈ ss, s ∈ all[i]!) → ss.foldl (rel1 l i k) (t, false) = (t, false) := by
    intro i k hi hk ss
    induction ss with
    | nil => intro _; rfl
    | cons s ss ih =>
      intro h
      simp only [List.foldl_cons]
      rw [h1 i k hi hk s (h s (by simp))]
      exact ih fun x hx => h x (by simp [hx])
  have hM : ∀ i m, i < all.length → m ≤ l.length → relM all l i m (t, false) = (t, false) := by
    intro i m hi
    induction m with
    | zero => intro _; rfl
    | succ m ih =>
      intro hm
      rw [relM_step, ih (by omega)]
      unfold relK
      rw [List.take_length]
      exact hf i _ hi (by omega) _ fun s hs => hs
  have hI : ∀ n, n ≤ all.length → relI all l n (t, false) = (t, false) := by
    intro n
    induction n with
    | zero => intro _; rfl
    | succ n ih =>
      intro hn
      rw [relI_step, ih (by omega)]
      exact hM _ _ (by omega) (Nat.le_refl _)
  exact hI _ (Nat.le_refl _)
/-- What holds of a table all the time. -/
def GoodT (all : List (List Se)) (l : List Sta) (t : List (List Int)) : Prop := Shape t all.length l.length ∧ ∀ a b, a < all.length → b < l.length → U (get2 t a b)
theorem byF_U {s : Se} {l : List Sta} {k : Nat} {row : List Int} (hs : U s.cost) (h : ∀ e ∈ endsF s l k, U (row[e.toNat]!)) : U (byF s l k row) := by
  unfold byF
  have : ∀ (es : List Int) (m : Int), U m → (∀ e ∈ es, U (row[e.toNat]!)) → U (es.foldl (fun m e => min m (cadd s.cost (row[e.toNat]!))) m) := by
    intro es
    induction es with
    | nil => intro m hm _; exact hm
    | cons e es ih =>
      intro m hm he
      simp only [List.foldl_cons]
      refine ih _ ?_ fun x hx => he x (by simp [hx])
      have := U_cadd hs (he e (by simp))
      unfold U at *
      omega
  exact this _ _ ⟨by decide, by decide⟩ h
theorem rel1_good {all : List (List Se)} {l : List Sta} {x : List (List Int) × Bool} {i k : Nat} {s : Se} (hS : StepsG all) (hl : achk l = true) (hi : i < all.length) (hk : k < l.length) (hs : s ∈ all[i]!) (h : GoodT all l x.1) : U (byF s l k (x.1[i + s.eat.toNat]!)) ∧ GoodT all l (rel1 l i k x s).1 := by
  have hu : U (byF s l k (x.1[i + s.eat.toNat]!)) := byF_U (hS i hi s hs).2.2.1 fun e he => by
    obtain ⟨q1, q2, _⟩ := behind (t := x.1) hS hl hi hk hs he
    exact h.2 _ _ q1 q2
  refine ⟨hu, h.1.set hi, fun a b ha hb => ?_⟩
  have h0 := h.2 i k hi hk
  have h1 := h.2 a b ha hb
  unfold rel1
  simp only
  rw [get2_set h.1 hi hk]
  split
  · unfold U at *; omega
  · exact h1
theorem relK_good {all : List (List Se)} {l : List Sta} {x : List (List Int) × Bool} {i k : Nat} (hS : StepsG all) (hl : achk l = true) (hi : i < all.length) (hk : k < l.length) (h : GoodT all l x.1) : ∀ n, n ≤ (all[i]!).length → GoodT all l (relK all l i k n x).1 := by
  intro n
  induction n with
  | zero => intro _; exact h
  | succ n ih =>
    intro hn
    rw [relK_step (by omega)]
    exact (rel1_good hS hl hi hk (by rw [getElem!_pos (all[i]!) n (by omega)]; exact List.getElem_mem _) (ih (by omega))).2
theorem relM_good {all : List (List Se)} {l : List Sta} {x : List (List Int) × Bool} {i : Nat} (hS : StepsG all) (hl : achk l = true) (hi : i < all.length) (h : GoodT all l x.1) : ∀ m, m ≤ l.length → GoodT all l (relM all l i m x).1 := by
  intro m
  induction m with
  | zero => intro _; exact h
  | succ m ih =>
    intro hm
    rw [relM_step]
    exact relK_good hS hl hi (by omega) (ih (by omega)) _ (Nat.le_refl _)
theorem relI_good {all : List (List Se)} {l : List Sta} {x : List (List Int) × Bool} (hS : StepsG all) (hl : achk l = true) (h : GoodT all l x.1) : ∀ n, n ≤ all.length → GoodT all l (relI all l n x).1 := by
  intro n
  induction n with
  | zero => intro _; exact h
  | succ n ih =>
    intro hn
    rw [relI_step]
    exact relM_good hS hl (by omega) (ih (by omega)) _ (Nat.le_refl _)
def tabP (all : List (List Se)) (l : List Sta) (p : Nat) : List (List Int) := if p = 0 then emp0 all.length l else tg all l
theorem tabP_good {all : List (List Se)} {l : List Sta} (hS : StepsG all) (hl : achk l = true) (p : Nat) : GoodT all l (tabP all l p) := by
  unfold tabP
  split
  · exact ⟨emp0_shape _ _, fun a b ha hb => by rw [emp0_get ha hb]; exact base_U _ _ _ _⟩
  · have ht := tg_all hS hl
    exact ⟨⟨ht.len, ht.rows⟩, fun a b ha hb => (ht.fix a b ha hb).2⟩
theorem tabP_round {all : List (List Se)} {l : List Sta} (hS : StepsG all) (hl : achk l = true) (hn : 0 < all.length) (p : Nat) : ∃ b', relI all l all.length (tabP all l p, false) = (tg all l, b') ∧ (p ≠ 0 → b' = false) := by
  unfold tabP
  by_cases h : p = 0
  · obtain ⟨b', hb⟩ := relI_first hS hl hn
    rw [if_pos h]
    exact ⟨b', hb, fun h2 => absurd h h2⟩
  · rw [if_neg h]
    exact ⟨false, relI_again hS hl, fun _ => rfl⟩
end Go.Eng.Tryz
set_option linter.unusedVariables false
set_option linter.unusedSimpArgs false
namespace Go.Eng.Tryz
open Go Go.Eng Go.Proofs Go.RowKit
attribute [local go_sem] evFold rnE ksE roundE frz frzs List.set_cons_zero List.set_cons_succ List.zip_cons_cons List.zip_nil_right List.foldl_cons List.foldl_nil D.flat rns AV.rn HO.rn AV.ks kss HO.ks sg dedup objKs reach passE fresh List.filter fnOf evOp opnd lk v2d v2ds just evBin intBin nilBin isNil strBin evUn evLoad ldD ldA evStore evField evIndex evBuild fillA evBuildSlice evBuildSliceX evBuildSliceT isOwn1 evAppendTX evAppendTT evAppend evAppendClip elems evMake evSlice evSliceO evSliceX evSliceY evViewV evStoreX evStoreT stT stI evCopyT evAppendT evAppendTD ldT ldI Tb.inn Tb.ilen Tb.nilAt Tb.ini D.put evCut evView evCopy evAppendV evAgg evMakeMap evLookup evMapUpd evRange evEntry cellsD AV.kb splice List.getLast?_append resM resAs resA resD keepL List.replicate_zero List.take_length ofInt evLen evMin evMax evConv evNil evExtract evBuiltin toD toDs allD pack splice D.comps AV.comps AV.sto D.cell D.rebuild inOrder allFlat del put setE eff gd gslot kills Option.map_some Option.map_none Option.bind_some Option.isSome_some List.map_cons List.map_nil List.append_nil List.nil_append List.cons_append List.length_cons List.length_nil List.length_map List.length_append List.take_zero List.take_succ_cons List.take_nil List.drop_zero List.drop_succ_cons List.drop_nil List.getElem?_cons_zero List.getElem?_cons_succ List.getElem?_map List.all_cons List.all_nil List.mem_cons List.not_mem_nil List.elem_cons List.elem_nil Bool.and_true Bool.true_and Bool.and_self Bool.not_true Bool.not_false Bool.or_true Bool.or_false and_self and_true true_and or_false false_or or_true true_or not_false_eq_true not_true_eq_false if_true if_false decide_true decide_false decide_eq_true_eq Int.toNat_natCast Int.toNat_zero beq_self_eq_true bne_self_eq_false Bool.false_eq_true Nat.add_zero Nat.zero_add tys room le_i lt_i eq_n le_n lt_n len0 gdE bb_tf bb_ft mapP arrL if_min tdiv_nn tmod_nn us_len us_get wrap_i64 wrap_u64 dec_lt dec_nlt dec_le dec_nle beq_t beq_f bne_t bne_f get_lt gt_iff_lt ge_iff_le
attribute [local go_sem ↓] map_P reduceIte
attribute [local go_sem] reduceCtorEq Nat.reduceEqDiff Nat.reduceAdd Nat.reduceSub Nat.reduceMul Nat.reduceLeDiff Nat.reduceLT Nat.reduceBEq Nat.reduceBNe Int.reduceToNat Int.reduceLT Int.reduceLE Int.reduceEq Int.reduceAdd Int.reduceSub Int.reduceNeg Int.reduceBEq Int.reduceBNe
attribute [local go_sem] is_len is_get ars_len ars_get stas_len stas_get
theorem getB_setZ {l : List Int} {i j : Nat} {v : Int} (h : i < l.length) : (l.set i v)[j]! = if j = i then v else l[j]! := by
  by_cases e : j = i
  · subst e; rw [if_pos rfl, getElem!_pos _ _ (by simpa using h)]; simp
  · rw [if_neg e, List.getElem!_eq_getElem?_getD, List.getElem!_eq_getElem?_getD, List.getElem?_set_ne (Ne.symm e)]
theorem is_setZ {l : List Int} {i : Nat} {z : Int} : (is l).set i (.int .i64 z) = is (l.set i z) := by simp [is, List.map_set]
theorem is_repZ {n : Nat} {x : Int} : List.replicate n (D.int .i64 x) = is (List.replicate n x) := by simp [is]
attribute [local go_sem] is_setZ is_repZ
/-- What is told of the last j states. -/
def toldI (f : Sta → List Int → Int) (l : List Sta) (j : Nat) : List Int := (List.range j).foldl (fun out j => out.set (l.length - 1 - j) (f (l[l.length - 1 - j]!) out)) (List.replicate l.length 0)
theorem toldI_step (f : Sta → List Int → Int) (l : List Sta) (j : Nat) : toldI f l (j + 1) = (toldI f l j).set (l.length - 1 - j) (f (l[l.length - 1 - j]!) (toldI f l j)) := by simp [toldI, List.range_succ]
theorem toldI_len (f : Sta → List Int → Int) (l : List Sta) : ∀ j, (toldI f l j).length = l.length
  | 0 => by simp [toldI]
  | j + 1 => by rw [toldI_step, List.length_set]; exact toldI_len f l j
theorem mem_setZ {l : List Int} {i : Nat} {v z : Int} (h : z ∈ l.set i v) : z = v ∨ z ∈ l := (List.mem_or_eq_of_mem_set h).symm
theorem toldI_inv {f : Sta → List Int → Int} {l : List Sta} {inv : Nat → Int → Prop} (h0 : inv 0 0) (hm : ∀ j z, inv j z → inv (j + 1) z) (hf : ∀ j out, (∀ z ∈ out, inv j z) → inv (j + 1) (f (l[l.length - 1 - j]!) out)) : ∀ j, ∀ z ∈ toldI f l j, inv j z
  | 0, z, hz => by
    simp only [toldI, List.range_zero, List.foldl_nil] at hz
    rw [List.eq_of_mem_replicate hz]; exact h0
  | j + 1, z, hz => by
    rw [toldI_step] at hz
    have ih := toldI_inv h0 hm hf j
    rcases mem_setZ hz with rfl | h
    · exact hf j _ ih
    · exact hm j z (ih z h)
theorem toldI_get0 (f : Sta → List Int → Int) (l : List Sta) : ∀ j a, a + j < l.length → (toldI f l j)[a]! = 0
  | 0, a, h => by
    simp only [toldI, List.range_zero, List.foldl_nil]
    rw [getElem!_pos _ a (by simp; omega)]
    simp
  | j + 1, a, h => by
    rw [toldI_step, getB_setZ (by rw [toldI_len]; omega), if_neg (by omega)]
    exact toldI_get0 f l j a (by omega)
theorem toldI_fix {f : Sta → List Int → Int} {l : List Sta} (hka : achk l = true) (hc : ∀ s out out', (∀ a ∈ s.arcs, out[a.to.toNat]! = out'[a.to.toNat]!) → f s out = f s out') : ∀ j, j ≤ l.length → ∀ k, l.length ≤ k + j → k < l.length → (toldI f l j)[k]! = f (l[k]!) (toldI f l j)
  | 0, _, k, h1, h2 => by omega
  | j + 1, hj, k, h1, h2 => by
    have hl := toldI_len f l j
    have ih := toldI_fix hka hc j (by omega)
    have hc2 : f (l[k]!) (toldI f l (j + 1)) = f (l[k]!) (toldI f l j) := hc _ _ _ fun a ha => by
      have := achk_arc hka h2 a ha
      rw [toldI_step, getB_setZ (by omega), if_neg (by omega)]
    rw [hc2, toldI_step, getB_setZ (by omega)]
    split
    · rename_i e; rw [e]
    · exact ih k (by omega) h2
theorem foldl_congrA {α β : Type} {f g : β → α → β} : ∀ {l : List α} {b : β}, (∀ a ∈ l, ∀ b, f b a = g b a) → l.foldl f b = l.foldl g b
  | [], b, h => rfl
  | a :: l, b, h => by
    simp only [List.foldl_cons]
    rw [h a (by simp)]
    exact foldl_congrA fun x hx => h x (by simp [hx])
theorem manyF_congr (s : Sta) (out out' : List Int) (h : ∀ a ∈ s.arcs, out[a.to.toNat]! = out'[a.to.toNat]!) : manyF s out = manyF s out' := foldl_congrA fun a ha b => by unfold many1; rw [h a ha]
def deep1 (out : List Int) (m : Int) (a : Ar) : Int := if 0 ≤ out[a.to.toNat]! then max m (out[a.to.toNat]! + 1) else m
def deepF (s : Sta) (out : List Int) : Int := s.arcs.foldl (deep1 out) (if s.final = true then 0 else -1)
theorem deepF_congr (s : Sta) (out out' : List Int) (h : ∀ a ∈ s.arcs, out[a.to.toNat]! = out'[a.to.toNat]!) : deepF s out = deepF s out' := foldl_congrA fun a ha b => by unfold deep1; rw [h a ha]
theorem get_in {out : List Int} {P : Int → Prop} (h : ∀ z ∈ out, P z) (h0 : P 0) (t : Nat) : P (out[t]!) := by
  by_cases ht : t < out.length
  · rw [getElem!_pos out t ht]; exact h _ (List.getElem_mem ht)
  · rw [List.getElem!_eq_getElem?_getD, List.getElem?_eq_none (by omega)]; exact h0
theorem deep_fold {out : List Int} {n : Nat} (ho : ∀ z ∈ out, -1 ≤ z ∧ z ≤ n) : ∀ (l : List Ar) (m : Int), (-1 ≤ m ∧ m ≤ n + 1) → -1 ≤ l.foldl (deep1 out) m ∧ l.foldl (deep1 out) m ≤ n + 1
  | [], m, h => h
  | a :: l, m, h => deep_fold ho l _ (by
    have := get_in (P := fun z => -1 ≤ z ∧ z ≤ (n : Int)) ho (by omega) a.to.toNat
    unfold deep1
    split <;> omega)
end Go.Eng.Tryz

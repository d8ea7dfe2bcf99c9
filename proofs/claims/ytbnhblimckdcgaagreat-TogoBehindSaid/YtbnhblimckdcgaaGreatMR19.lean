/- What it costs to finish: the laws, plainly. (and what stands behind it: texts laid together) -/
import Derived.Test.YtbnhblimckdcgaaGreatMR18
import Derived.Test.YtbnhblimckdcgaaGreatMR4
import Derived.Test.YtbnhblimckdcgaaGreatMG4
import Derived.Test.YtbnhblimckdcgaaGreatMR8
import Derived.Test.YtbnhblimckdcgaaGreatMR14
set_option linter.unusedVariables false
set_option linter.unusedSimpArgs false
namespace Go.Eng.Tryz
open Go Go.Eng Go.Proofs Go.RowKit
theorem cadd_mono {a x y : Int} (h : x ≤ y) : cadd a x ≤ cadd a y := by unfold cadd; split <;> split <;> omega
/-- Of two tables, the one with more steps and more ends is no greater. -/
theorem tg_le {all all' : List (List Se)} {l l' : List Sta} {t t' : List (List Int)} (hS : StepsG all) (hl : achk l = true) (hlen : all'.length = all.length) (hll : l'.length = l.length)
    (hsub : ∀ i, i < all.length → ∀ s ∈ all'[i]!, s ∈ all[i]!) (hends : ∀ s k, endsF s l' k = endsF s l k) (hbase : ∀ i k, k < l.length → base all.length l i k ≤ base all.length l' i k) (ht : TG all l t) (ht' : TG all' l' t') :
    ∀ a b i k, i < all.length → k < l.length → all.length - i = a → l.length - k = b → get2 t i k ≤ get2 t' i k := by
  intro a
  induction a using Nat.strongRecOn with
  | _ a iha =>
  intro b
  induction b using Nat.strongRecOn with
  | _ b ihb =>
  intro i k hi hk ea eb
  have f1 := (ht.fix i k hi hk).1
  have f2 := (ht'.fix i k (by omega) (by omega)).1
  have l1 := cell_le (l := l) (t := t) (i := i) (k := k) (all[i]!) (base all.length l i k)
  have l2 := cell_le (l := l') (t := t') (i := i) (k := k) (all'[i]!) (base all'.length l' i k)
  rw [f1, f2]
  unfold cellT
  obtain ⟨p1, p2, p3⟩ := l1
  clear p3
  rcases l2.2.2 with e | ⟨s, hs, e, he, h⟩
  · rw [e, hlen]
    exact Int.le_trans p1 (hbase i k hk)
  · rw [hends] at he
    have hs2 := hsub i hi s hs
    obtain ⟨q1, q2, q3⟩ := behind (t := t) hS hl hi hk hs2 he
    rw [h]
    refine Int.le_trans (p2 s hs2 e he) (cadd_mono ?_)
    clear l2 p1 p2 h f1 f2
    rcases q3 with q3 | ⟨q3, q4⟩
    · exact iha (all.length - (i + s.eat.toNat)) (by omega) _ _ _ q1 q2 rfl rfl
    · rw [q3]
      exact ihb (l.length - e.toNat) (by omega) _ _ hi q2 ea rfl
theorem stAt_sub {c : Co} {rest : List Int} {k : Nat} {s : Se} (h : s ∈ stAt ⟨c.more, c.less, c.other, c.turned, c.rules.take k⟩ rest) : s ∈ stAt c rest := by
  rw [stAt_mem] at h ⊢
  rcases h with h | h | h | ⟨r, hr, h1, h2⟩
  · exact .inl h
  · exact .inr (.inl h)
  · exact .inr (.inr (.inl h))
  · exact .inr (.inr (.inr ⟨r, List.mem_of_mem_take hr, h1, h2⟩))
/-- The first ones of rules in order are in order. -/
theorem srt_take {l : List Ru} (h : Srt l) (k : Nat) : Srt (l.take k) := List.Pairwise.sublist (List.take_sublist k l) h
theorem norm_take {l : List Ru} (h : norm l = l) (k : Nat) : norm (l.take k) = l.take k := by
  obtain ⟨h1, h2⟩ := norm_fix.1 h
  exact norm_fix.2 ⟨srt_take h1 k, fun r hr => h2 r (List.mem_of_mem_take hr)⟩
theorem cok_take {c : Co} (h : cok c = true) (k : Nat) : cok ⟨c.more, c.less, c.other, c.turned, c.rules.take k⟩ = true := by
  obtain ⟨h1, h2, h3, h4⟩ := cok_iff.1 h
  refine cok_iff.2 ⟨h1, by show (c.rules.take k).length ≤ 200; simp only [List.length_take]; omega, List.all_eq_true.2 fun r hr => List.all_eq_true.1 h3 r (List.mem_of_mem_take hr), norm_take h4 k⟩
theorem ok_take {c : Co} (hc : c.ok) (n : Nat) : Co.ok ⟨c.more, c.less, c.other, c.turned, c.rules.take n⟩ := by
  obtain ⟨u1, u2, u3, u4, hr, hl⟩ := hc
  exact ⟨u1, u2, u3, u4, fun r hr' => hr r (List.mem_of_mem_take hr'), by simp only [List.length_take]; omega⟩
/-- What a table tells, when it tells. -/
theorem tableG_TG {c : Co} {q : List Int} {l : List Sta} (hc : c.ok) (h : mayG c q l = true) : q.length ≤ 20 ∧ cok c = true ∧ achk l = true ∧ TG (allF c q (q.length + 1)) l (tableG c q l) := by
  have e : tableG c q l = tg (allF c q (q.length + 1)) l := if_pos h
  unfold mayG at h
  rw [Bool.and_eq_true] at h
  obtain ⟨h1, h2⟩ := may_iff.1 h.1
  exact ⟨h1, h2, h.2, e ▸ tg_all (tg_steps hc h2 q) h.2⟩
/-- Two tables, as the laws look at them: as large, and no greater. -/
def LeT (a b : List (List Int)) (L : Nat) : Prop := b.length = a.length ∧ (∀ i, i < a.length → (a[i]!).length = L ∧ (b[i]!).length = L) ∧ ∀ i k, i < a.length → k < L → (a[i]!)[k]! ≤ (b[i]!)[k]!
theorem togo_few {c : Co} {q : List Int} {l : List Sta} (hc : c.ok) (hk : cok c = true) (n : Nat) : LeT (tableG c q l) (tableG ⟨c.more, c.less, c.other, c.turned, c.rules.take n⟩ q l) l.length := by
  have em : mayG ⟨c.more, c.less, c.other, c.turned, c.rules.take n⟩ q l = mayG c q l := by unfold mayG may; rw [cok_take hk, hk]
  cases hm : mayG c q l
  · have e1 : tableG c q l = [] := if_neg (by rw [hm]; simp)
    have e2 : tableG ⟨c.more, c.less, c.other, c.turned, c.rules.take n⟩ q l = [] := if_neg (by rw [em, hm]; simp)
    rw [e1, e2]
    exact ⟨rfl, fun i hi => absurd hi (by simp), fun i k hi => absurd hi (by simp)⟩
  · obtain ⟨_, _, h3, t1⟩ := tableG_TG hc hm
    obtain ⟨_, _, _, t2⟩ := tableG_TG (ok_take hc n) (em.trans hm)
    have hl1 := t1.len
    have hl2 := t2.len
    rw [allF_len] at hl1 hl2
    refine ⟨by omega, fun i hi => ⟨t1.rows i (by rw [allF_len]; omega), t2.rows i (by rw [allF_len]; omega)⟩, fun i k hi hkk => ?_⟩
    refine tg_le (tg_steps hc hk q) h3 (by rw [allF_len, allF_len]) rfl (fun i hi s hs => ?_) (fun _ _ => rfl) (fun i k hk => by rw [allF_len]; exact Int.le_refl _) t1 t2 _ _ i k (by rw [allF_len]; omega) hkk rfl rfl
    rw [allF_len] at hi
    rw [allF_get _ q hi] at hs ⊢
    exact stAt_sub hs
def setF (l : List Sta) (k : Nat) : List Sta := l.set k ⟨true, (l[k]!).arcs⟩
theorem getB_set4 {l : List Sta} {i j : Nat} {v : Sta} (h : i < l.length) : (l.set i v)[j]! = if j = i then v else l[j]! := getB_setI h
theorem setF_arcs {l : List Sta} {k : Nat} (hk : k < l.length) (j : Nat) : ((setF l k)[j]!).arcs = (l[j]!).arcs := by
  unfold setF
  rw [getB_set4 hk]
  split
  · rename_i h; rw [h]
  · rfl
theorem setF_len (l : List Sta) (k : Nat) : (setF l k).length = l.length := by simp [setF]
theorem achk_arcs {l l' : List Sta} (hl : l'.length = l.length) (h : ∀ j : Nat, (l'[j]!).arcs = (l[j]!).arcs) : achk l' = achk l := by
  unfold achk statesOk
  rw [hl]
  have : ∀ n m : Nat, (List.range n).all (fun i => arcsOk i m (-1) (l'[i]!).arcs) = (List.range n).all (fun i => arcsOk i m (-1) (l[i]!).arcs) := fun n m => by simp only [h]
  rw [this]
theorem stepF_arcs {l l' : List Sta} (hl : l'.length = l.length) (h : ∀ j : Nat, (l'[j]!).arcs = (l[j]!).arcs) (f z : Int) : stepF l' f z = stepF l f z := by unfold stepF; rw [hl, h]
theorem leadF_arcs {l l' : List Sta} (hl : l'.length = l.length) (h : ∀ j : Nat, (l'[j]!).arcs = (l[j]!).arcs) : ∀ (w : List Int) (f : Int), leadF l' f w = leadF l f w
  | [], f => rfl
  | z :: w, f => by simp only [leadF, stepF_arcs hl h, leadF_arcs hl h w]
theorem endsF_arcs {l l' : List Sta} (hl : l'.length = l.length) (h : ∀ j : Nat, (l'[j]!).arcs = (l[j]!).arcs) (s : Se) (k : Nat) : endsF s l' k = endsF s l k := by
  unfold endsF leadG
  rw [hl, h, leadF_arcs hl h]
theorem mayG_arcs {l l' : List Sta} (hl : l'.length = l.length) (h : ∀ j : Nat, (l'[j]!).arcs = (l[j]!).arcs) (c : Co) (q : List Int) : mayG c q l' = mayG c q l := by unfold mayG; rw [achk_arcs hl h]
theorem StaOk.setF {l : List Sta} (h : StaOk l) {k : Nat} (hk : k < l.length) : StaOk (setF l k) := by
  refine ⟨by rw [setF_len]; exact h.1, fun s hs => ?_⟩
  obtain ⟨j, hj, rfl⟩ := List.getElem_of_mem hs
  rw [← getElem!_pos _ j hj, setF_arcs hk]
  rw [setF_len] at hj
  exact h.get hj
theorem setF_final {l : List Sta} {k j : Nat} (hk : k < l.length) (h : (l[j]!).final = true) : ((setF l k)[j]!).final = true := by
  unfold setF
  rw [getB_set4 hk]
  split
  · rfl
  · exact h
theorem togo_final {c : Co} {q : List Int} {l : List Sta} (hc : c.ok) (hm : mayG c q l = true) {k : Nat} (hk : k < l.length) :
    (tableG c q l).length = q.length + 1 ∧ LeT (tableG c q (setF l k)) (tableG c q l) l.length ∧ ((tableG c q (setF l k))[q.length]!)[k]! = 0 := by
  obtain ⟨h1, h2, h3, t1⟩ := tableG_TG hc hm
  have em := mayG_arcs (setF_len l k) (setF_arcs hk) c q
  obtain ⟨_, _, h4, t2⟩ := tableG_TG hc (em.trans hm)
  have hl1 := t1.len
  have hl2 := t2.len
  have hr2 := t2.rows
  rw [setF_len] at hr2
  rw [allF_len] at hl1 hl2
  refine ⟨hl1, ⟨by omega, fun i hi => ⟨hr2 i (by rw [allF_len]; omega), t1.rows i (by rw [allF_len]; omega)⟩, fun i j hi hj => ?_⟩, ?_⟩
  · refine tg_le (tg_steps hc h2 q) h4 rfl (by rw [setF_len]) (fun i hi s hs => hs) (fun s j => (endsF_arcs (setF_len l k) (setF_arcs hk) s j).symm) (fun i j hj => ?_) t2 t1 _ _ i j (by rw [allF_len]; omega) (by rw [setF_len]; exact hj) rfl rfl
    unfold base
    by_cases h : i + 1 = (allF c q (q.length + 1)).length ∧ (l[j]!).final = true
    · rw [if_pos h, if_pos ⟨h.1, setF_final hk h.2⟩]; exact Int.le_refl _
    · rw [if_neg h]; split <;> omega
  · obtain ⟨f1, f2⟩ := t2.fix q.length k (by rw [allF_len]; omega) (by rw [setF_len]; exact hk)
    have := (cell_le (l := setF l k) (t := tableG c q (setF l k)) (i := q.length) (k := k) ((allF c q (q.length + 1))[q.length]!) (base (allF c q (q.length + 1)).length (setF l k) q.length k)).1
    have hb : base (allF c q (q.length + 1)).length (setF l k) q.length k = 0 := by
      unfold base
      rw [if_pos]
      refine ⟨by rw [allF_len], ?_⟩
      unfold setF; rw [getB_set4 hk, if_pos rfl]
    rw [hb] at this
    unfold cellT at f1
    rw [hb] at f1
    have e : ((tableG c q (setF l k))[q.length]!)[k]! = get2 (tableG c q (setF l k)) q.length k := rfl
    have h0 := f2.1
    omega
theorem arcs_find {i n : Int} : ∀ {l : List Ar} {last : Int}, arcsOk i n last l = true → ∀ a ∈ l, l.find? (sgn a.sign) = some a
  | [], _, _, a, ha => by cases ha
  | b :: l, last, h, a, ha => by
    rcases List.mem_cons.1 ha with e | e
    · subst e; simp [List.find?, sgn]
    · simp only [arcsOk, Bool.and_eq_true] at h
      have := arcsOk_mem h.2 a e
      have hne : sgn a.sign b = false := decide_eq_false (by omega)
      rw [List.find?_cons_of_neg (by simp [hne])]
      exact arcs_find h.2 a e
/-- What a table tells of steps on single signs. -/
theorem togo_leads {c : Co} {q : List Int} {l : List Sta} (hc : c.ok) (hm : mayG c q l = true) {i k : Nat} (hi : i < q.length) (hk : k < l.length) :
    get2 (tableG c q l) i k ≤ cadd c.less (get2 (tableG c q l) (i + 1) k) ∧ ∀ a ∈ (l[k]!).arcs, get2 (tableG c q l) i k ≤ cadd c.other (get2 (tableG c q l) (i + 1) a.to.toNat) ∧ get2 (tableG c q l) i k ≤ cadd c.more (get2 (tableG c q l) i a.to.toNat) ∧ (a.sign = q[i]! → get2 (tableG c q l) i k ≤ get2 (tableG c q l) (i + 1) a.to.toNat) := by
  obtain ⟨h1, h2, h3, t1⟩ := tableG_TG hc hm
  have hi2 : i < (allF c q (q.length + 1)).length := by rw [allF_len]; omega
  obtain ⟨f1, f2⟩ := t1.fix i k hi2 hk
  have hc1 := (cell_le (l := l) (t := tableG c q l) (i := i) (k := k) ((allF c q (q.length + 1))[i]!) (base (allF c q (q.length + 1)).length l i k)).2.1
  unfold cellT at f1
  rw [← f1, allF_get c q (by omega)] at hc1
  have hd : q.drop i = q[i]! :: q.drop (i + 1) := by rw [List.drop_eq_getElem_cons hi, getElem!_pos q i hi]
  have m1 : ∀ s, (s = ⟨1, [q[i]!], false, 0⟩ ∨ s = ⟨1, [], true, c.other⟩ ∨ s = ⟨1, [], false, c.less⟩) → s ∈ stAt c (q.drop i) := fun s hs => stAt_mem.2 (.inl (st1_mem.2 ⟨_, _, hd, hs⟩))
  have m2 : (⟨0, [], true, c.more⟩ : Se) ∈ stAt c (q.drop i) := stAt_mem.2 (.inr (.inr (.inl rfl)))
  refine ⟨?_, fun a ha => ⟨?_, ?_, fun hs => ?_⟩⟩
  · have := hc1 _ (m1 _ (.inr (.inr rfl))) k (by unfold endsF leadG; rw [if_neg (by simp), if_pos ⟨by omega, by omega⟩]; simp [leadF])
    simpa using this
  · have := hc1 _ (m1 _ (.inr (.inl rfl))) a.to (by unfold endsF; rw [if_pos rfl]; exact List.mem_map.2 ⟨a, ha, rfl⟩)
    simpa using this
  · have := hc1 _ m2 a.to (by unfold endsF; rw [if_pos rfl]; exact List.mem_map.2 ⟨a, ha, rfl⟩)
    simpa using this
  · have hf := arcs_find (statesOk_le (achk_iff.1 h3).1 hk) a ha
    have := hc1 _ (m1 _ (.inl rfl)) a.to (by
      unfold endsF leadG
      rw [if_neg (by simp), if_pos ⟨by omega, by omega⟩]
      simp only [leadF, stepF]
      rw [if_pos ⟨by omega, by omega⟩, Int.toNat_natCast, ← hs, hf]
      simp)
    have hU := achk_arc h3 hk a ha
    obtain ⟨_, u2⟩ := t1.fix (i + 1) a.to.toNat (by rw [allF_len]; omega) (by omega)
    simp only [Int.toNat_one] at this
    unfold U at u2
    unfold cadd at this
    rw [if_pos (by omega)] at this
    omega
end Go.Eng.Tryz
set_option linter.unusedVariables false
set_option linter.unusedSimpArgs false
namespace Go.Eng.Tryz
open Go Go.Eng Go.Proofs Go.RowKit
/-- The states from s on, as they are then numbered. -/
def shA (s : Nat) (a : Ar) : Ar := ⟨a.sign, a.to - s⟩
def shS (s : Nat) (x : Sta) : Sta := ⟨x.final, x.arcs.map (shA s)⟩
def restS (l : List Sta) (s : Nat) : List Sta := (l.drop s).map (shS s)
theorem restS_len (l : List Sta) (s : Nat) : (restS l s).length = l.length - s := by simp [restS]
theorem restS_get {l : List Sta} {s k : Nat} (h : s + k < l.length) : (restS l s)[k]! = shS s (l[s + k]!) := by
  have h1 : k < (restS l s).length := by rw [restS_len]; omega
  rw [getElem!_pos _ k h1, getElem!_pos l (s + k) h]
  simp [restS]
theorem arcsOk_sh {i n : Int} {s : Nat} : ∀ {l : List Ar} {last : Int}, arcsOk i n last l = true → arcsOk (i - s) (n - s) last (l.map (shA s)) = true
  | [], _, _ => rfl
  | a :: t, last, h => by
    simp only [arcsOk, arcOk, Bool.and_eq_true, decide_eq_true_eq] at h
    simp only [List.map_cons, arcsOk, arcOk, Bool.and_eq_true, decide_eq_true_eq, shA]
    exact ⟨⟨⟨⟨h.1.1.1.1, h.1.1.1.2⟩, by omega⟩, by omega⟩, arcsOk_sh h.2⟩
theorem achk_rest {l : List Sta} (h : achk l = true) {s : Nat} (hs : s < l.length) : achk (restS l s) = true := by
  obtain ⟨h1, h2, h3⟩ := achk_iff.1 h
  refine achk_iff.2 ⟨List.all_eq_true.2 fun i hi => ?_, by rw [restS_len]; omega, by rw [restS_len]; omega⟩
  have hi := List.mem_range.1 hi
  rw [restS_len] at hi
  have := arcsOk_sh (s := s) (statesOk_le h1 (k := s + i) (by omega))
  rw [restS_get (by omega), restS_len]
  have e1 : ((s + i : Nat) : Int) - s = i := by omega
  have e2 : (l.length : Int) - s = ((l.length - s : Nat) : Int) := by omega
  rw [e1, e2] at this
  exact this
theorem find_sh (s : Nat) (z : Int) : ∀ l : List Ar, (l.map (shA s)).find? (sgn z) = (l.find? (sgn z)).map (shA s)
  | [] => rfl
  | a :: t => by
    simp only [List.map_cons, List.find?]
    have e : sgn z (shA s a) = sgn z a := rfl
    rw [e]
    cases sgn z a
    · exact find_sh s z t
    · rfl
theorem stepF_sh {l : List Sta} {s k : Nat} (hk : s + k < l.length) (z : Int) : stepF (restS l s) k z = (stepF l ((s + k : Nat) : Int) z).map (fun t : Int => t - (s : Int)) := by
  unfold stepF
  rw [if_pos ⟨by omega, by rw [restS_len]; omega⟩, if_pos ⟨by omega, by omega⟩, Int.toNat_natCast, Int.toNat_natCast, restS_get hk]
  show (((l[s + k]!).arcs.map (shA s)).find? (sgn z)).map _ = _
  rw [find_sh]
  cases (l[s + k]!).arcs.find? (sgn z) <;> rfl
theorem leadF_sh {l : List Sta} (h : achk l = true) {s : Nat} : ∀ (w : List Int) (k : Nat), s + k < l.length → leadF (restS l s) k w = (leadF l ((s + k : Nat) : Int) w).map (fun t : Int => t - (s : Int))
  | [], k, _ => by
    simp only [leadF, Option.map_some, Option.some.injEq]
    omega
  | z :: w, k, hk => by
    simp only [leadF]
    rw [stepF_sh hk]
    cases hu : stepF l ((s + k : Nat) : Int) z with
    | none => rfl
    | some t =>
      obtain ⟨_, _, h2, h3⟩ := stepF_in h hu
      obtain ⟨j, hj⟩ : ∃ j : Nat, t = ((s + j : Nat) : Int) := ⟨(t - s).toNat, by omega⟩
      subst hj
      have e : ((s + j : Nat) : Int) - s = (j : Int) := by omega
      simp only [Option.map_some, e]
      exact leadF_sh h w j (by omega)
theorem ends_sh {l : List Sta} (h : achk l = true) {s b : Nat} (hb : s + b < l.length) (st : Se) : endsF st (restS l s) b = (endsF st l (s + b)).map (fun t : Int => t - (s : Int)) := by
  unfold endsF
  by_cases ha : st.any = true
  · rw [if_pos ha, if_pos ha, restS_get hb]
    simp only [shS, List.map_map]
    rfl
  · rw [if_neg ha, if_neg ha]
    unfold leadG
    rw [if_pos ⟨by omega, by rw [restS_len]; omega⟩, if_pos ⟨by omega, by omega⟩, leadF_sh h _ _ hb]
    cases leadF l ((s + b : Nat) : Int) st.put <;> rfl
theorem tg_sh {all all' : List (List Se)} {l : List Sta} {t t' : List (List Int)} {i s : Nat} (hS : StepsG all) (hl : achk l = true) (hlen : all'.length + i = all.length)
    (hsame : ∀ k, k < all'.length → all'[k]! = all[i + k]!) (ht : TG all l t) (ht' : TG all' (restS l s) t') :
    ∀ a b k j, k < all'.length → s + j < l.length → all'.length - k = a → l.length - j = b → get2 t' k j = get2 t (i + k) (s + j) := by
  intro a
  induction a using Nat.strongRecOn with
  | _ a iha =>
  intro b
  induction b using Nat.strongRecOn with
  | _ b ihb =>
  intro k j hk hj ea eb
  have f1 := (ht'.fix k j hk (by rw [restS_len]; omega)).1
  have f2 := (ht.fix (i + k) (s + j) (by omega) hj).1
  rw [f1, f2]
  unfold cellT
  rw [hsame k hk]
  have hbase : base all'.length (restS l s) k j = base all.length l (i + k) (s + j) := by
    unfold base
    rw [restS_get hj]
    have e : (k + 1 = all'.length) ↔ (i + k + 1 = all.length) := by omega
    simp only [shS, e]
  rw [hbase]
  have hcell : ∀ st ∈ all[i + k]!, ∀ e ∈ endsF st l (s + j), get2 t' (k + st.eat.toNat) (e - s).toNat = get2 t (i + k + st.eat.toNat) e.toNat := fun st hst e he => by
    obtain ⟨q1, q2, q3⟩ := behind (t := t) hS hl (by omega) hj hst he
    obtain ⟨g1, g2, _⟩ := endsF_in hl hj he
    obtain ⟨x, hx⟩ : ∃ x : Nat, e.toNat = s + x := ⟨e.toNat - s, by omega⟩
    have ex : (e - s).toNat = x := by omega
    rw [ex, hx]
    rw [hx] at q2 q3
    rcases q3 with q3 | ⟨q3, q4⟩
    · have := iha (all'.length - (k + st.eat.toNat)) (by omega) _ (k + st.eat.toNat) x (by omega) q2 rfl rfl
      rw [this]
      congr 1
      omega
    · have e0 : st.eat.toNat = 0 := by omega
      rw [e0]
      exact ihb (l.length - x) (by omega) k x hk q2 ea rfl
  have hst : ∀ st ∈ all[i + k]!, ∀ m, stK (restS l s) t' k j m st = stK l t (i + k) (s + j) m st := fun st hst m => by
    unfold stK
    rw [ends_sh hl hj, List.foldl_map]
    have := hcell st hst
    generalize endsF st l (s + j) = es at this
    induction es generalizing m with
    | nil => rfl
    | cons e es ih =>
      simp only [List.foldl_cons]
      have e1 : endK t' k st m (e - s) = endK t (i + k) st m e := by unfold endK; rw [this e (by simp)]
      rw [e1]
      exact ih _ fun x hx => this x (by simp [hx])
  generalize base all.length l (i + k) (s + j) = m
  generalize all[i + k]! = ss at hst
  clear hcell f1 f2
  induction ss generalizing m with
  | nil => rfl
  | cons x ss ih =>
    simp only [List.foldl_cons]
    rw [hst x (by simp)]
    exact ih _ fun y hy => hst y (by simp [hy])
theorem togo_behind {c : Co} {q : List Int} {l : List Sta} (hc : c.ok) (hm : mayG c q l = true) {i s : Nat} (hi : i ≤ q.length) (hs : s < l.length) :
    (tableG c q l).length = q.length + 1 ∧ (tableG c (q.drop i) (restS l s)).length = q.length - i + 1 ∧ (∀ k, k ≤ q.length → ((tableG c q l)[k]!).length = l.length) ∧
    ∀ k, k ≤ q.length - i → (tableG c (q.drop i) (restS l s))[k]! = ((tableG c q l)[i + k]!).drop s := by
  obtain ⟨h1, h2, h3, t1⟩ := tableG_TG hc hm
  have em : mayG c (q.drop i) (restS l s) = true := by
    unfold mayG
    rw [Bool.and_eq_true]
    exact ⟨may_iff.2 ⟨by rw [List.length_drop]; omega, h2⟩, achk_rest h3 hs⟩
  obtain ⟨_, _, _, t2⟩ := tableG_TG hc em
  have hl1 := t1.len
  have hl2 := t2.len
  rw [allF_len] at hl1 hl2
  rw [List.length_drop] at hl2
  have hr1 := t1.rows
  have hr2 := t2.rows
  rw [allF_len] at hr1 hr2
  rw [List.length_drop, restS_len] at hr2
  refine ⟨hl1, hl2, fun k hk => hr1 k (by omega), fun k hk => ?_⟩
  have r1 := hr1 (i + k) (by omega)
  have r2 := hr2 k (by omega)
  refine List.ext_getElem (by rw [r2, List.length_drop, r1]) fun j g1 g2 => ?_
  have := tg_sh (i := i) (s := s) (tg_steps hc h2 q) h3 (by rw [allF_len, allF_len, List.length_drop]; omega) (fun k hk => by
    rw [allF_len] at hk
    rw [allF_get c _ hk, allF_get c q (by rw [List.length_drop] at hk; omega), List.drop_drop]) t1 t2 _ _ k j (by rw [allF_len, List.length_drop]; omega) (by omega) rfl rfl
  unfold get2 at this
  rw [getElem!_pos _ j g1, getElem!_pos _ (s + j) (by omega)] at this
  rw [this, List.getElem_drop]
end Go.Eng.Tryz
set_option linter.unusedVariables false
set_option linter.unusedSimpArgs false
namespace Go.Eng.Tryz
open Go Go.Eng Go.Proofs Go.RowKit
set_option maxRecDepth 100000 in
theorem ty_is {n : Nat} {ds : List D} (h : TyC Tryz.prog n 26 ds) : ∃ l, dOf Tryz.prog 26 ds = .sl 1 (is l) ∧ l.length ≤ 9223372036854775807 := by
  obtain ⟨m, xs, rfl, h1, h2⟩ := ty_sl Tryz.underlying26 h
  obtain ⟨l, e1, e2, _⟩ := ty_list (f := fun z => D.int .i64 z) (ok := fun _ => True) (fun x hx => by
    obtain ⟨z, rfl, _⟩ := ty_int Tryz.underlying3 hx
    exact ⟨z, dOf_int Tryz.underlying3, trivial⟩) xs h2
  rw [e1, dOf_sl Tryz.underlying26]
  exact ⟨l, rfl, by omega⟩
set_option maxRecDepth 100000 in
theorem ty_ru {n : Nat} {ds : List D} (h : TyC Tryz.prog n 68 ds) : ∃ r : Ru, dOf Tryz.prog 68 ds = ru r ∧ r.ok := by
  obtain ⟨m, h⟩ := ty_struct Tryz.underlying68 h
  obtain ⟨_, _, rfl, h1, _, _, rfl, h2, _, _, rfl, h3, rfl⟩ := h
  obtain ⟨c, rfl, hc⟩ := ty_int Tryz.underlying22 h3
  obtain ⟨l, e1, o1⟩ := ty_is h1
  obtain ⟨k, xs, rfl, _, _⟩ := ty_sl Tryz.underlying26 h1
  rw [dOf_sl Tryz.underlying26] at e1
  obtain ⟨l', e2, o2⟩ := ty_is h2
  obtain ⟨k', xs', rfl, _, _⟩ := ty_sl Tryz.underlying26 h2
  rw [dOf_sl Tryz.underlying26] at e2
  rw [dOf_struct Tryz.underlying68, e1, e2]
  exact ⟨⟨l, l', c⟩, rfl, o1, o2, wf_u64 hc⟩
set_option maxRecDepth 100000 in
theorem ty_rs {n : Nat} {ds : List D} (h : TyC Tryz.prog n 23 ds) : ∃ l, dOf Tryz.prog 23 ds = .sl 3 (rs l) ∧ (∀ r ∈ l, r.ok) ∧ l.length ≤ 9223372036854775807 := by
  obtain ⟨m, xs, rfl, h1, h2⟩ := ty_sl Tryz.underlying23 h
  obtain ⟨l, e1, e2, h3⟩ := ty_list (f := ru) (ok := Ru.ok) (fun x hx => ty_ru hx) xs h2
  rw [e1, dOf_sl Tryz.underlying23]
  exact ⟨l, rfl, h3, by omega⟩
end Go.Eng.Tryz
set_option linter.unusedVariables false
set_option linter.unusedSimpArgs false
namespace Go.Eng.Tryz
open Go Go.Eng Go.Proofs Go.RowKit
set_option maxRecDepth 100000 in
theorem ty_i64 {n : Nat} {ds : List D} (h : TyC Tryz.prog n 3 ds) : ∃ z : Int, dOf Tryz.prog 3 ds = .int .i64 z ∧ (-9223372036854775808 ≤ z ∧ z ≤ 9223372036854775807) := by
  obtain ⟨z, rfl, hz⟩ := ty_int Tryz.underlying3 h
  exact ⟨z, dOf_int Tryz.underlying3, wf_i64 hz⟩
set_option maxRecDepth 100000 in
theorem ty_u8 {n : Nat} {ds : List D} (h : TyC Tryz.prog n 5 ds) : ∃ z : Int, dOf Tryz.prog 5 ds = .int .u8 z ∧ (0 ≤ z ∧ z ≤ 255) := by
  obtain ⟨z, rfl, hz⟩ := ty_int Tryz.underlying5 h
  exact ⟨z, dOf_int Tryz.underlying5, wf_u8 hz⟩
set_option maxRecDepth 100000 in
theorem ty_co {n : Nat} {ds : List D} (h : TyC Tryz.prog n 25 ds) : ∃ c : Co, dOf Tryz.prog 25 ds = co c ∧ c.ok := by
  obtain ⟨m, h⟩ := ty_struct Tryz.underlying25 h
  obtain ⟨_, _, rfl, h1, _, _, rfl, h2, _, _, rfl, h3, _, _, rfl, h4, _, _, rfl, h5, rfl⟩ := h
  obtain ⟨c1, rfl, hc1⟩ := ty_int Tryz.underlying22 h1
  obtain ⟨c2, rfl, hc2⟩ := ty_int Tryz.underlying22 h2
  obtain ⟨c3, rfl, hc3⟩ := ty_int Tryz.underlying22 h3
  obtain ⟨c4, rfl, hc4⟩ := ty_int Tryz.underlying22 h4
  obtain ⟨l, e1, o1, o2⟩ := ty_rs h5
  obtain ⟨k, xs, rfl, _, _⟩ := ty_sl Tryz.underlying23 h5
  rw [dOf_sl Tryz.underlying23] at e1
  rw [dOf_struct Tryz.underlying25, e1]
  exact ⟨⟨c1, c2, c3, c4, l⟩, rfl, wf_u64 hc1, wf_u64 hc2, wf_u64 hc3, wf_u64 hc4, o1, o2⟩
end Go.Eng.Tryz
set_option linter.unusedVariables false
set_option linter.unusedSimpArgs false
namespace Go.Eng.Tryz
open Go Go.Eng Go.Proofs Go.RowKit
set_option maxRecDepth 100000 in
theorem ty_ar {n : Nat} {ds : List D} (h : TyC Tryz.prog n 41 ds) : ∃ a : Ar, dOf Tryz.prog 41 ds = ar a ∧ True := by
  obtain ⟨m, h⟩ := ty_struct Tryz.underlying41 h
  obtain ⟨_, _, rfl, h1, _, _, rfl, h2, rfl⟩ := h
  obtain ⟨s, rfl, _⟩ := ty_int Tryz.underlying3 h1
  obtain ⟨t, rfl, _⟩ := ty_int Tryz.underlying3 h2
  rw [dOf_struct Tryz.underlying41]
  exact ⟨⟨s, t⟩, rfl, trivial⟩
set_option maxRecDepth 100000 in
theorem ty_ars {n : Nat} {ds : List D} (h : TyC Tryz.prog n 37 ds) : ∃ l, dOf Tryz.prog 37 ds = .sl 2 (ars l) ∧ l.length ≤ 9223372036854775807 := by
  obtain ⟨m, xs, rfl, h1, h2⟩ := ty_sl Tryz.underlying37 h
  obtain ⟨l, e1, e2, h3⟩ := ty_list (f := ar) (ok := fun _ => True) (fun x hx => ty_ar hx) xs h2
  rw [e1, dOf_sl Tryz.underlying37]
  exact ⟨l, rfl, by omega⟩
set_option maxRecDepth 100000 in
theorem ty_sta {n : Nat} {ds : List D} (h : TyC Tryz.prog n 39 ds) : ∃ s : Sta, dOf Tryz.prog 39 ds = sta s ∧ s.arcs.length ≤ 9223372036854775807 := by
  obtain ⟨m, h⟩ := ty_struct Tryz.underlying39 h
  obtain ⟨_, _, rfl, h1, _, _, rfl, h2, rfl⟩ := h
  obtain ⟨b, rfl⟩ := ty_bool Tryz.underlying4 h1
  obtain ⟨l, e1, o1⟩ := ty_ars h2
  obtain ⟨k, xs, rfl, _, _⟩ := ty_sl Tryz.underlying37 h2
  rw [dOf_sl Tryz.underlying37] at e1
  rw [dOf_struct Tryz.underlying39, e1]
  exact ⟨⟨b, l⟩, rfl, o1⟩
set_option maxRecDepth 100000 in
theorem ty_sts {n : Nat} {ds : List D} (h : TyC Tryz.prog n 27 ds) : ∃ l, dOf Tryz.prog 27 ds = .sl 2 (stas l) ∧ StaOk l := by
  obtain ⟨m, xs, rfl, h1, h2⟩ := ty_sl Tryz.underlying27 h
  obtain ⟨l, e1, e2, h3⟩ := ty_list (f := sta) (ok := fun s => s.arcs.length ≤ 9223372036854775807) (fun x hx => ty_sta hx) xs h2
  rw [e1, dOf_sl Tryz.underlying27]
  exact ⟨l, rfl, by omega, h3⟩
end Go.Eng.Tryz

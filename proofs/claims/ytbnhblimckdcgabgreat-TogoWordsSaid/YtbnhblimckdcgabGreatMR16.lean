/- What it costs to finish: the laws, plainly. (and what stands behind it: texts laid together) -/
import Derived.Test.YtbnhblimckdcgabGreatMR15
import Derived.Test.YtbnhblimckdcgabGreatMG4
import Derived.Test.YtbnhblimckdcgabGreatMR11
set_option linter.unusedVariables false
set_option linter.unusedSimpArgs false
namespace Go.Eng.Tryz
open Go Go.Eng Go.Proofs Go.RowKit
theorem cadd_mono {a x y : Int} (h : x ≤ y) : cadd a x ≤ cadd a y := by unfold cadd; split <;> split <;> omega
/-- Of two tables, the one with more steps and more ends is no greater. -/
theorem tg_le {all all' : List (List Se)} {l l' : List Sta} {t t' : List (List Int)} (hS : StepsG all) (hl : achk l = true) (hlen : all'.length = all.length) (hll : l'.length = l.length)
    (hsub : ∀ i, i < all.length → ∀ s ∈ all'[i]!, s ∈ all[i]!) (hends : ∀ s k, endsF s l' k = endsF s l k) (hbase : ∀ i k, k < l.length → base all.length l i k ≤ base all.length l' i k) (ht : TG all l t) (ht' : TG all' l' t') :
    ∀ a b i k, i < all.length → k < l.length → all.length - i = a → l.length - k = b → get2 t i k ≤ get2 t' i k := by
  intro a
  induction a using Nat.strongRecOn with
  | _ a iha =>
  intro b
  induction b using Nat.strongRecOn with
  | _ b ihb =>
  intro i k hi hk ea eb
  have f1 := (ht.fix i k hi hk).1
  have f2 := (ht'.fix i k (by omega) (by omega)).1
  have l1 := cell_le (l := l) (t := t) (i := i) (k := k) (all[i]!) (base all.length l i k)
  have l2 := cell_le (l := l') (t := t') (i := i) (k := k) (all'[i]!) (base all'.length l' i k)
  rw [f1, f2]
  unfold cellT
  obtain ⟨p1, p2, p3⟩ := l1
  clear p3
  rcases l2.2.2 with e | ⟨s, hs, e, he, h⟩
  · rw [e, hlen]
    exact Int.le_trans p1 (hbase i k hk)
  · rw [hends] at he
    have hs2 := hsub i hi s hs
    obtain ⟨q1, q2, q3⟩ := behind (t := t) hS hl hi hk hs2 he
    rw [h]
    refine Int.le_trans (p2 s hs2 e he) (cadd_mono ?_)
    clear l2 p1 p2 h f1 f2
    rcases q3 with q3 | ⟨q3, q4⟩
    · exact iha (all.length - (i + s.eat.toNat)) (by omega) _ _ _ q1 q2 rfl rfl
    · rw [q3]
      exact ihb (l.length - e.toNat) (by omega) _ _ hi q2 ea rfl
theorem stAt_sub {c : Co} {rest : List Int} {k : Nat} {s : Se} (h : s ∈ stAt ⟨c.more, c.less, c.other, c.turned, c.rules.take k⟩ rest) : s ∈ stAt c rest := by
  rw [stAt_mem] at h ⊢
  rcases h with h | h | h | ⟨r, hr, h1, h2⟩
  · exact .inl h
  · exact .inr (.inl h)
  · exact .inr (.inr (.inl h))
  · exact .inr (.inr (.inr ⟨r, List.mem_of_mem_take hr, h1, h2⟩))
/-- The first ones of rules in order are in order. -/
theorem srt_take {l : List Ru} (h : Srt l) (k : Nat) : Srt (l.take k) := List.Pairwise.sublist (List.take_sublist k l) h
theorem norm_take {l : List Ru} (h : norm l = l) (k : Nat) : norm (l.take k) = l.take k := by
  obtain ⟨h1, h2⟩ := norm_fix.1 h
  exact norm_fix.2 ⟨srt_take h1 k, fun r hr => h2 r (List.mem_of_mem_take hr)⟩
theorem cok_take {c : Co} (h : cok c = true) (k : Nat) : cok ⟨c.more, c.less, c.other, c.turned, c.rules.take k⟩ = true := by
  obtain ⟨h1, h2, h3, h4⟩ := cok_iff.1 h
  refine cok_iff.2 ⟨h1, by show (c.rules.take k).length ≤ 200; simp only [List.length_take]; omega, List.all_eq_true.2 fun r hr => List.all_eq_true.1 h3 r (List.mem_of_mem_take hr), norm_take h4 k⟩
theorem ok_take {c : Co} (hc : c.ok) (n : Nat) : Co.ok ⟨c.more, c.less, c.other, c.turned, c.rules.take n⟩ := by
  obtain ⟨u1, u2, u3, u4, hr, hl⟩ := hc
  exact ⟨u1, u2, u3, u4, fun r hr' => hr r (List.mem_of_mem_take hr'), by simp only [List.length_take]; omega⟩
/-- What a table tells, when it tells. -/
theorem tableG_TG {c : Co} {q : List Int} {l : List Sta} (hc : c.ok) (h : mayG c q l = true) : q.length ≤ 20 ∧ cok c = true ∧ achk l = true ∧ TG (allF c q (q.length + 1)) l (tableG c q l) := by
  have e : tableG c q l = tg (allF c q (q.length + 1)) l := if_pos h
  unfold mayG at h
  rw [Bool.and_eq_true] at h
  obtain ⟨h1, h2⟩ := may_iff.1 h.1
  exact ⟨h1, h2, h.2, e ▸ tg_all (tg_steps hc h2 q) h.2⟩
/-- Two tables, as the laws look at them: as large, and no greater. -/
def LeT (a b : List (List Int)) (L : Nat) : Prop := b.length = a.length ∧ (∀ i, i < a.length → (a[i]!).length = L ∧ (b[i]!).length = L) ∧ ∀ i k, i < a.length → k < L → (a[i]!)[k]! ≤ (b[i]!)[k]!
theorem togo_few {c : Co} {q : List Int} {l : List Sta} (hc : c.ok) (hk : cok c = true) (n : Nat) : LeT (tableG c q l) (tableG ⟨c.more, c.less, c.other, c.turned, c.rules.take n⟩ q l) l.length := by
  have em : mayG ⟨c.more, c.less, c.other, c.turned, c.rules.take n⟩ q l = mayG c q l := by unfold mayG may; rw [cok_take hk, hk]
  cases hm : mayG c q l
  · have e1 : tableG c q l = [] := if_neg (by rw [hm]; simp)
    have e2 : tableG ⟨c.more, c.less, c.other, c.turned, c.rules.take n⟩ q l = [] := if_neg (by rw [em, hm]; simp)
    rw [e1, e2]
    exact ⟨rfl, fun i hi => absurd hi (by simp), fun i k hi => absurd hi (by simp)⟩
  · obtain ⟨_, _, h3, t1⟩ := tableG_TG hc hm
    obtain ⟨_, _, _, t2⟩ := tableG_TG (ok_take hc n) (em.trans hm)
    have hl1 := t1.len
    have hl2 := t2.len
    rw [allF_len] at hl1 hl2
    refine ⟨by omega, fun i hi => ⟨t1.rows i (by rw [allF_len]; omega), t2.rows i (by rw [allF_len]; omega)⟩, fun i k hi hkk => ?_⟩
    refine tg_le (tg_steps hc hk q) h3 (by rw [allF_len, allF_len]) rfl (fun i hi s hs => ?_) (fun _ _ => rfl) (fun i k hk => by rw [allF_len]; exact Int.le_refl _) t1 t2 _ _ i k (by rw [allF_len]; omega) hkk rfl rfl
    rw [allF_len] at hi
    rw [allF_get _ q hi] at hs ⊢
    exact stAt_sub hs
def setF (l : List Sta) (k : Nat) : List Sta := l.set k ⟨true, (l[k]!).arcs⟩
theorem getB_set4 {l : List Sta} {i j : Nat} {v : Sta} (h : i < l.length) : (l.set i v)[j]! = if j = i then v else l[j]! := getB_setI h
theorem setF_arcs {l : List Sta} {k : Nat} (hk : k < l.length) (j : Nat) : ((setF l k)[j]!).arcs = (l[j]!).arcs := by
  unfold setF
  rw [getB_set4 hk]
  split
  · rename_i h; rw [h]
  · rfl
theorem setF_len (l : List Sta) (k : Nat) : (setF l k).length = l.length := by simp [setF]
theorem achk_arcs {l l' : List Sta} (hl : l'.length = l.length) (h : ∀ j : Nat, (l'[j]!).arcs = (l[j]!).arcs) : achk l' = achk l := by
  unfold achk statesOk
  rw [hl]
  have : ∀ n m : Nat, (List.range n).all (fun i => arcsOk i m (-1) (l'[i]!).arcs) = (List.range n).all (fun i => arcsOk i m (-1) (l[i]!).arcs) := fun n m => by simp only [h]
  rw [this]
theorem stepF_arcs {l l' : List Sta} (hl : l'.length = l.length) (h : ∀ j : Nat, (l'[j]!).arcs = (l[j]!).arcs) (f z : Int) : stepF l' f z = stepF l f z := by unfold stepF; rw [hl, h]
theorem leadF_arcs {l l' : List Sta} (hl : l'.length = l.length) (h : ∀ j : Nat, (l'[j]!).arcs = (l[j]!).arcs) : ∀ (w : List Int) (f : Int), leadF l' f w = leadF l f w
  | [], f => rfl
  | z :: w, f => by simp only [leadF, stepF_arcs hl h, leadF_arcs hl h w]
theorem endsF_arcs {l l' : List Sta} (hl : l'.length = l.length) (h : ∀ j : Nat, (l'[j]!).arcs = (l[j]!).arcs) (s : Se) (k : Nat) : endsF s l' k = endsF s l k := by
  unfold endsF leadG
  rw [hl, h, leadF_arcs hl h]
theorem mayG_arcs {l l' : List Sta} (hl : l'.length = l.length) (h : ∀ j : Nat, (l'[j]!).arcs = (l[j]!).arcs) (c : Co) (q : List Int) : mayG c q l' = mayG c q l := by unfold mayG; rw [achk_arcs hl h]
theorem StaOk.setF {l : List Sta} (h : StaOk l) {k : Nat} (hk : k < l.length) : StaOk (setF l k) := by
  refine ⟨by rw [setF_len]; exact h.1, fun s hs => ?_⟩
  obtain ⟨j, hj, rfl⟩ := List.getElem_of_mem hs
  rw [← getElem!_pos _ j hj, setF_arcs hk]
  rw [setF_len] at hj
  exact h.get hj
theorem setF_final {l : List Sta} {k j : Nat} (hk : k < l.length) (h : (l[j]!).final = true) : ((setF l k)[j]!).final = true := by
  unfold setF
  rw [getB_set4 hk]
  split
  · rfl
  · exact h
theorem togo_final {c : Co} {q : List Int} {l : List Sta} (hc : c.ok) (hm : mayG c q l = true) {k : Nat} (hk : k < l.length) :
    (tableG c q l).length = q.length + 1 ∧ LeT (tableG c q (setF l k)) (tableG c q l) l.length ∧ ((tableG c q (setF l k))[q.length]!)[k]! = 0 := by
  obtain ⟨h1, h2, h3, t1⟩ := tableG_TG hc hm
  have em := mayG_arcs (setF_len l k) (setF_arcs hk) c q
  obtain ⟨_, _, h4, t2⟩ := tableG_TG hc (em.trans hm)
  have hl1 := t1.len
  have hl2 := t2.len
  have hr2 := t2.rows
  rw [setF_len] at hr2
  rw [allF_len] at hl1 hl2
  refine ⟨hl1, ⟨by omega, fun i hi => ⟨hr2 i (by rw [allF_len]; omega), t1.rows i (by rw [allF_len]; omega)⟩, fun i j hi hj => ?_⟩, ?_⟩
  · refine tg_le (tg_steps hc h2 q) h4 rfl (by rw [setF_len]) (fun i hi s hs => hs) (fun s j => (endsF_arcs (setF_len l k) (setF_arcs hk) s j).symm) (fun i j hj => ?_) t2 t1 _ _ i j (by rw [allF_len]; omega) (by rw [setF_len]; exact hj) rfl rfl
    unfold base
    by_cases h : i + 1 = (allF c q (q.length + 1)).length ∧ (l[j]!).final = true
    · rw [if_pos h, if_pos ⟨h.1, setF_final hk h.2⟩]; exact Int.le_refl _
    · rw [if_neg h]; split <;> omega
  · obtain ⟨f1, f2⟩ := t2.fix q.length k (by rw [allF_len]; omega) (by rw [setF_len]; exact hk)
    have := (cell_le (l := setF l k) (t := tableG c q (setF l k)) (i := q.length) (k := k) ((allF c q (q.length + 1))[q.length]!) (base (allF c q (q.length + 1)).length (setF l k) q.length k)).1
    have hb : base (allF c q (q.length + 1)).length (setF l k) q.length k = 0 := by
      unfold base
      rw [if_pos]
      refine ⟨by rw [allF_len], ?_⟩
      unfold setF; rw [getB_set4 hk, if_pos rfl]
    rw [hb] at this
    unfold cellT at f1
    rw [hb] at f1
    have e : ((tableG c q (setF l k))[q.length]!)[k]! = get2 (tableG c q (setF l k)) q.length k := rfl
    have h0 := f2.1
    omega
theorem arcs_find {i n : Int} : ∀ {l : List Ar} {last : Int}, arcsOk i n last l = true → ∀ a ∈ l, l.find? (sgn a.sign) = some a
  | [], _, _, a, ha => by cases ha
  | b :: l, last, h, a, ha => by
    rcases List.mem_cons.1 ha with e | e
    · subst e; simp [List.find?, sgn]
    · simp only [arcsOk, Bool.and_eq_true] at h
      have := arcsOk_mem h.2 a e
      have hne : sgn a.sign b = false := decide_eq_false (by omega)
      rw [List.find?_cons_of_neg (by simp [hne])]
      exact arcs_find h.2 a e
/-- What a table tells of steps on single signs. -/
theorem togo_leads {c : Co} {q : List Int} {l : List Sta} (hc : c.ok) (hm : mayG c q l = true) {i k : Nat} (hi : i < q.length) (hk : k < l.length) :
    get2 (tableG c q l) i k ≤ cadd c.less (get2 (tableG c q l) (i + 1) k) ∧ ∀ a ∈ (l[k]!).arcs, get2 (tableG c q l) i k ≤ cadd c.other (get2 (tableG c q l) (i + 1) a.to.toNat) ∧ get2 (tableG c q l) i k ≤ cadd c.more (get2 (tableG c q l) i a.to.toNat) ∧ (a.sign = q[i]! → get2 (tableG c q l) i k ≤ get2 (tableG c q l) (i + 1) a.to.toNat) := by
  obtain ⟨h1, h2, h3, t1⟩ := tableG_TG hc hm
  have hi2 : i < (allF c q (q.length + 1)).length := by rw [allF_len]; omega
  obtain ⟨f1, f2⟩ := t1.fix i k hi2 hk
  have hc1 := (cell_le (l := l) (t := tableG c q l) (i := i) (k := k) ((allF c q (q.length + 1))[i]!) (base (allF c q (q.length + 1)).length l i k)).2.1
  unfold cellT at f1
  rw [← f1, allF_get c q (by omega)] at hc1
  have hd : q.drop i = q[i]! :: q.drop (i + 1) := by rw [List.drop_eq_getElem_cons hi, getElem!_pos q i hi]
  have m1 : ∀ s, (s = ⟨1, [q[i]!], false, 0⟩ ∨ s = ⟨1, [], true, c.other⟩ ∨ s = ⟨1, [], false, c.less⟩) → s ∈ stAt c (q.drop i) := fun s hs => stAt_mem.2 (.inl (st1_mem.2 ⟨_, _, hd, hs⟩))
  have m2 : (⟨0, [], true, c.more⟩ : Se) ∈ stAt c (q.drop i) := stAt_mem.2 (.inr (.inr (.inl rfl)))
  refine ⟨?_, fun a ha => ⟨?_, ?_, fun hs => ?_⟩⟩
  · have := hc1 _ (m1 _ (.inr (.inr rfl))) k (by unfold endsF leadG; rw [if_neg (by simp), if_pos ⟨by omega, by omega⟩]; simp [leadF])
    simpa using this
  · have := hc1 _ (m1 _ (.inr (.inl rfl))) a.to (by unfold endsF; rw [if_pos rfl]; exact List.mem_map.2 ⟨a, ha, rfl⟩)
    simpa using this
  · have := hc1 _ m2 a.to (by unfold endsF; rw [if_pos rfl]; exact List.mem_map.2 ⟨a, ha, rfl⟩)
    simpa using this
  · have hf := arcs_find (statesOk_le (achk_iff.1 h3).1 hk) a ha
    have := hc1 _ (m1 _ (.inl rfl)) a.to (by
      unfold endsF leadG
      rw [if_neg (by simp), if_pos ⟨by omega, by omega⟩]
      simp only [leadF, stepF]
      rw [if_pos ⟨by omega, by omega⟩, Int.toNat_natCast, ← hs, hf]
      simp)
    have hU := achk_arc h3 hk a ha
    obtain ⟨_, u2⟩ := t1.fix (i + 1) a.to.toNat (by rw [allF_len]; omega) (by omega)
    simp only [Int.toNat_one] at this
    unfold U at u2
    unfold cadd at this
    rw [if_pos (by omega)] at this
    omega
end Go.Eng.Tryz
set_option linter.unusedVariables false
set_option linter.unusedSimpArgs false
namespace Go.Eng.Tryz
open Go Go.Eng Go.Proofs Go.RowKit
attribute [local go_sem] tys
attribute [local go_sem] is_len is_get ars_len ars_get stas_len stas_get
theorem getB_setZ {l : List Int} {i j : Nat} {v : Int} (h : i < l.length) : (l.set i v)[j]! = if j = i then v else l[j]! := by
  by_cases e : j = i
  · subst e; rw [if_pos rfl, getElem!_pos _ _ (by simpa using h)]; simp
  · rw [if_neg e, List.getElem!_eq_getElem?_getD, List.getElem!_eq_getElem?_getD, List.getElem?_set_ne (Ne.symm e)]
theorem is_setZ {l : List Int} {i : Nat} {z : Int} : (is l).set i (.int .i64 z) = is (l.set i z) := by simp [is, List.map_set]
theorem is_repZ {n : Nat} {x : Int} : List.replicate n (D.int .i64 x) = is (List.replicate n x) := by simp [is]
attribute [local go_sem] is_setZ is_repZ
/-- What is told of the last j states. -/
def toldI (f : Sta → List Int → Int) (l : List Sta) (j : Nat) : List Int := (List.range j).foldl (fun out j => out.set (l.length - 1 - j) (f (l[l.length - 1 - j]!) out)) (List.replicate l.length 0)
theorem toldI_step (f : Sta → List Int → Int) (l : List Sta) (j : Nat) : toldI f l (j + 1) = (toldI f l j).set (l.length - 1 - j) (f (l[l.length - 1 - j]!) (toldI f l j)) := by simp [toldI, List.range_succ]
theorem toldI_len (f : Sta → List Int → Int) (l : List Sta) : ∀ j, (toldI f l j).length = l.length
  | 0 => by simp [toldI]
  | j + 1 => by rw [toldI_step, List.length_set]; exact toldI_len f l j
theorem mem_setZ {l : List Int} {i : Nat} {v z : Int} (h : z ∈ l.set i v) : z = v ∨ z ∈ l := (List.mem_or_eq_of_mem_set h).symm
theorem toldI_inv {f : Sta → List Int → Int} {l : List Sta} {inv : Nat → Int → Prop} (h0 : inv 0 0) (hm : ∀ j z, inv j z → inv (j + 1) z) (hf : ∀ j out, (∀ z ∈ out, inv j z) → inv (j + 1) (f (l[l.length - 1 - j]!) out)) : ∀ j, ∀ z ∈ toldI f l j, inv j z
  | 0, z, hz => by
    simp only [toldI, List.range_zero, List.foldl_nil] at hz
    rw [List.eq_of_mem_replicate hz]; exact h0
  | j + 1, z, hz => by
    rw [toldI_step] at hz
    have ih := toldI_inv h0 hm hf j
    rcases mem_setZ hz with rfl | h
    · exact hf j _ ih
    · exact hm j z (ih z h)
theorem toldI_get0 (f : Sta → List Int → Int) (l : List Sta) : ∀ j a, a + j < l.length → (toldI f l j)[a]! = 0
  | 0, a, h => by
    simp only [toldI, List.range_zero, List.foldl_nil]
    rw [getElem!_pos _ a (by simp; omega)]
    simp
  | j + 1, a, h => by
    rw [toldI_step, getB_setZ (by rw [toldI_len]; omega), if_neg (by omega)]
    exact toldI_get0 f l j a (by omega)
theorem toldI_fix {f : Sta → List Int → Int} {l : List Sta} (hka : achk l = true) (hc : ∀ s out out', (∀ a ∈ s.arcs, out[a.to.toNat]! = out'[a.to.toNat]!) → f s out = f s out') : ∀ j, j ≤ l.length → ∀ k, l.length ≤ k + j → k < l.length → (toldI f l j)[k]! = f (l[k]!) (toldI f l j)
  | 0, _, k, h1, h2 => by omega
  | j + 1, hj, k, h1, h2 => by
    have hl := toldI_len f l j
    have ih := toldI_fix hka hc j (by omega)
    have hc2 : f (l[k]!) (toldI f l (j + 1)) = f (l[k]!) (toldI f l j) := hc _ _ _ fun a ha => by
      have := achk_arc hka h2 a ha
      rw [toldI_step, getB_setZ (by omega), if_neg (by omega)]
    rw [hc2, toldI_step, getB_setZ (by omega)]
    split
    · rename_i e; rw [e]
    · exact ih k (by omega) h2
theorem foldl_congrA {α β : Type} {f g : β → α → β} : ∀ {l : List α} {b : β}, (∀ a ∈ l, ∀ b, f b a = g b a) → l.foldl f b = l.foldl g b
  | [], b, h => rfl
  | a :: l, b, h => by
    simp only [List.foldl_cons]
    rw [h a (by simp)]
    exact foldl_congrA fun x hx => h x (by simp [hx])
theorem manyF_congr (s : Sta) (out out' : List Int) (h : ∀ a ∈ s.arcs, out[a.to.toNat]! = out'[a.to.toNat]!) : manyF s out = manyF s out' := foldl_congrA fun a ha b => by unfold many1; rw [h a ha]
def deep1 (out : List Int) (m : Int) (a : Ar) : Int := if 0 ≤ out[a.to.toNat]! then max m (out[a.to.toNat]! + 1) else m
def deepF (s : Sta) (out : List Int) : Int := s.arcs.foldl (deep1 out) (if s.final = true then 0 else -1)
theorem deepF_congr (s : Sta) (out out' : List Int) (h : ∀ a ∈ s.arcs, out[a.to.toNat]! = out'[a.to.toNat]!) : deepF s out = deepF s out' := foldl_congrA fun a ha b => by unfold deep1; rw [h a ha]
theorem get_in {out : List Int} {P : Int → Prop} (h : ∀ z ∈ out, P z) (h0 : P 0) (t : Nat) : P (out[t]!) := by
  by_cases ht : t < out.length
  · rw [getElem!_pos out t ht]; exact h _ (List.getElem_mem ht)
  · rw [List.getElem!_eq_getElem?_getD, List.getElem?_eq_none (by omega)]; exact h0
theorem deep_fold {out : List Int} {n : Nat} (ho : ∀ z ∈ out, -1 ≤ z ∧ z ≤ n) : ∀ (l : List Ar) (m : Int), (-1 ≤ m ∧ m ≤ n + 1) → -1 ≤ l.foldl (deep1 out) m ∧ l.foldl (deep1 out) m ≤ n + 1
  | [], m, h => h
  | a :: l, m, h => deep_fold ho l _ (by
    have := get_in (P := fun z => -1 ≤ z ∧ z ≤ (n : Int)) ho (by omega) a.to.toNat
    unfold deep1
    split <;> omega)
set_option maxHeartbeats 4000000 in
set_option maxRecDepth 10000 in
theorem pDeep1 {s : Sta} {out : List Int} {n : Nat} (hn0 : n ≤ 1000000) (ho : ∀ z ∈ out, -1 ≤ z ∧ z ≤ n) (hs : arcsIn s out.length) (hn : s.arcs.length ≤ 9223372036854775807) (hout : out.length ≤ 1000000) : SoundM Tryz.prog 28 [.d (sta s), .fn 48 [.ref 0 0]] (Out out) (.d (.int .i64 (deepF s out))) (Out out) 2 := by
  have fin : ∀ (m0 : Int), (-1 ≤ m0 ∧ m0 ≤ n + 1) → ∀ k, k ≤ s.arcs.length → -1 ≤ (s.arcs.take k).foldl (deep1 out) m0 ∧ (s.arcs.take k).foldl (deep1 out) m0 ≤ n + 1 := fun m0 h k _ => deep_fold ho _ _ h
  unfold sta
  cases hf : s.final
  · have e : deepF s out = s.arcs.foldl (deep1 out) (-1) := by unfold deepF; rw [hf]; rfl
    rw [e]
    unfold Out
    refine SoundM.run (N := 30) (ks := [0, 1]) Tryz.func28 rfl (by kernel_rfl) rfl rfl rfl (by first | exact argsA_0 | exact argsA_1 | exact argsA_2 | exact argsA_3 | exact argsA_4 | exact argsA_5 | exact argsA_6) fun X_ ν_ w_ => ?_
    refine goT ?_; first | exact trivial | skip
    refine WP_loopk (fun k : Nat => k ≤ s.arcs.length) (fun k => [(1, .fn 48 [.ref 0 0]), (5, .d (.int .i64 ((s.arcs.take k).foldl (deep1 out) (-1)))), (12, .d (.sl 2 (ars s.arcs))), (13, .d (.int .i64 s.arcs.length)), (14, .d (.int .i64 k))]) (fun k => [(0, .var [.own 1 out.length]), (1, .row 3 1 (is out))]) 2 (fun k => s.arcs.length - k) [1, 5, 12, 13, 14] [0, 1] 0 (Nat.zero_le _) rfl rfl (Nat.le_of_ble_eq_true rfl) (fun _ _ => rfl) (fun _ _ => rfl) fun k hk => ?_
    have hm := fin (-1) (by omega) k hk
    by_cases hk3 : k < s.arcs.length
    · have hin := hs.get hk3
      have hst := foldl_take (deep1 out) (-1) hk3
      obtain ⟨t, ht⟩ := Int.eq_ofNat_of_zero_le hin.1
      have htl : t < out.length := by omega
      have cw := pTold1 (out := out) (k := t) htl
      have hv := ho (out[t]!) (by rw [getElem!_pos out t htl]; exact List.getElem_mem htl)
      have e1 : deep1 out ((s.arcs.take k).foldl (deep1 out) (-1)) (s.arcs[k]!) = if 0 ≤ out[t]! then max ((s.arcs.take k).foldl (deep1 out) (-1)) (out[t]! + 1) else (s.arcs.take k).foldl (deep1 out) (-1) := by unfold deep1; rw [ht]; rfl
      rw [e1] at hst
      unfold Out at cw
      by_cases hz : 0 ≤ out[t]!
      · rw [if_pos hz] at hst
        have c0_ := cw; refine goX (And.intro @ht @if_max) ?_; first | exact trivial | skip
        refine ⟨k + 1, by omega, ?_, ?_, by omega⟩
        · simp (disch := omega) only [go_sem, keepL, Int.natCast_add, Int.cast_ofNat_Int, hst]
        · simp (disch := omega) only [go_sem, keepL]
      · rw [if_neg hz] at hst
        have c0_ := cw; refine goX (And.intro @ht @if_max) ?_; first | exact trivial | skip
        refine ⟨k + 1, by omega, ?_, ?_, by omega⟩
        · simp (disch := omega) only [go_sem, keepL, Int.natCast_add, Int.cast_ofNat_Int, hst]
        · simp (disch := omega) only [go_sem, keepL]
    · have hkl : k = s.arcs.length := by omega
      subst hkl
      rw [List.take_length]
      refine goT ?_; first | exact trivial | skip
  · have e : deepF s out = s.arcs.foldl (deep1 out) 0 := by unfold deepF; rw [hf]; rfl
    rw [e]
    unfold Out
    refine SoundM.run (N := 30) (ks := [0, 1]) Tryz.func28 rfl (by kernel_rfl) rfl rfl rfl (by first | exact argsA_0 | exact argsA_1 | exact argsA_2 | exact argsA_3 | exact argsA_4 | exact argsA_5 | exact argsA_6) fun X_ ν_ w_ => ?_
    refine goT ?_; first | exact trivial | skip
    refine WP_loopk (fun k : Nat => k ≤ s.arcs.length) (fun k => [(1, .fn 48 [.ref 0 0]), (5, .d (.int .i64 ((s.arcs.take k).foldl (deep1 out) 0))), (12, .d (.sl 2 (ars s.arcs))), (13, .d (.int .i64 s.arcs.length)), (14, .d (.int .i64 k))]) (fun k => [(0, .var [.own 1 out.length]), (1, .row 3 1 (is out))]) 2 (fun k => s.arcs.length - k) [1, 5, 12, 13, 14] [0, 1] 0 (Nat.zero_le _) rfl rfl (Nat.le_of_ble_eq_true rfl) (fun _ _ => rfl) (fun _ _ => rfl) fun k hk => ?_
    have hm := fin 0 (by omega) k hk
    by_cases hk3 : k < s.arcs.length
    · have hin := hs.get hk3
      have hst := foldl_take (deep1 out) 0 hk3
      obtain ⟨t, ht⟩ := Int.eq_ofNat_of_zero_le hin.1
      have htl : t < out.length := by omega
      have cw := pTold1 (out := out) (k := t) htl
      have hv := ho (out[t]!) (by rw [getElem!_pos out t htl]; exact List.getElem_mem htl)
      have e1 : deep1 out ((s.arcs.take k).foldl (deep1 out) 0) (s.arcs[k]!) = if 0 ≤ out[t]! then max ((s.arcs.take k).foldl (deep1 out) 0) (out[t]! + 1) else (s.arcs.take k).foldl (deep1 out) 0 := by unfold deep1; rw [ht]; rfl
      rw [e1] at hst
      unfold Out at cw
      by_cases hz : 0 ≤ out[t]!
      · rw [if_pos hz] at hst
        have c0_ := cw; refine goX (And.intro @ht @if_max) ?_; first | exact trivial | skip
        refine ⟨k + 1, by omega, ?_, ?_, by omega⟩
        · simp (disch := omega) only [go_sem, keepL, Int.natCast_add, Int.cast_ofNat_Int, hst]
        · simp (disch := omega) only [go_sem, keepL]
      · rw [if_neg hz] at hst
        have c0_ := cw; refine goX (And.intro @ht @if_max) ?_; first | exact trivial | skip
        refine ⟨k + 1, by omega, ?_, ?_, by omega⟩
        · simp (disch := omega) only [go_sem, keepL, Int.natCast_add, Int.cast_ofNat_Int, hst]
        · simp (disch := omega) only [go_sem, keepL]
    · have hkl : k = s.arcs.length := by omega
      subst hkl
      rw [List.take_length]
      refine goT ?_; first | exact trivial | skip
set_option maxHeartbeats 4000000 in
set_option maxRecDepth 10000 in
theorem pTold {l : List Sta} {g : Nat} {f : Sta → List Int → Int} {inv : Nat → Int → Prop} (hka : achk l = true) (hl : StaOk l) (h0 : inv 0 0) (hm : ∀ j z, inv j z → inv (j + 1) z) (hf : ∀ j out, (∀ z ∈ out, inv j z) → inv (j + 1) (f (l[l.length - 1 - j]!) out))
    (hby : ∀ (s : Sta) (out : List Int) (j : Nat), j ≤ l.length → s ∈ l → out.length = l.length → (∀ z ∈ out, inv j z) → SoundM Tryz.prog g [.d (sta s), .fn 48 [.ref 0 0]] (Out out) (.d (.int .i64 (f s out))) (Out out) 2) :
    Sound Tryz.prog 27 [.sl 2 (stas l), .fn g] (.sl 1 (is (toldI f l l.length))) := by
  obtain ⟨_, hl0, hl1⟩ := achk_iff.1 hka
  refine Sound.run (N := 35) Tryz.func27 rfl (by kernel_rfl) rfl rfl rfl (by first | exact args0_0 | exact args0_1 | exact args0_2 | exact args0_3 | exact args0_4 | exact args0_5 | exact args0_6) fun X_ w_ => ?_
  refine goT ?_; first | exact trivial | skip
  refine WP_loopk (fun j : Nat => j ≤ l.length) (fun j => [(0, .d (.sl 2 (stas l))), (1, .d (.fn g)), (5, .ref 1003 0), (6, .fn 48 [.ref 1003 0]), (14, .d (.int .i64 l.length)), (15, .d (.int .i64 j))]) (fun j => [(1003, .var [.own 1002 l.length]), (1002, .row 3 1 (is (toldI f l j)))]) 4000 (fun j => l.length - j) [0, 1, 5, 6, 14, 15] [1003, 1002] 0 (Nat.zero_le _) rfl rfl (Nat.zero_le _) (fun _ _ => rfl) (fun _ _ => rfl) fun j hj => ?_
  by_cases hj2 : j < l.length
  · have hst := toldI_step f l j
    have hin := toldI_inv (l := l) h0 hm hf j
    have hlo := toldI_len f l j
    generalize toldI f l j = out at *
    obtain ⟨i, hi⟩ : ∃ i, i = l.length - 1 - j := ⟨_, rfl⟩
    have ei : (l.length : Int) - 1 - (j : Int) = (i : Int) := by omega
    rw [← hi] at hst
    have hi2 : i < out.length := by omega
    have hmem : l[i]! ∈ l := by rw [getElem!_pos l i (by omega)]; exact List.getElem_mem _
    have cb := hby (l[i]!) out j (by omega) hmem hlo hin
    unfold sta Out at cb
    rw [hlo] at cb
    have c0_ := cb; refine goX (And.intro @ei @hlo) ?_; first | exact trivial | skip
    refine ⟨j + 1, by omega, ?_, ?_, by omega⟩
    · simp (disch := omega) only [go_sem, keepL, Int.natCast_add, Int.cast_ofNat_Int]
    · simp (disch := omega) only [go_sem, keepL, hst]
  · have hjl : j = l.length := by omega
    subst hjl
    have hlo := toldI_len f l l.length
    refine goX @hlo ?_; first | exact trivial | skip
end Go.Eng.Tryz
set_option linter.unusedVariables false
set_option linter.unusedSimpArgs false
namespace Go.Eng.Tryz
open Go Go.Eng Go.Proofs Go.RowKit
attribute [local go_sem] tys
attribute [local go_sem] is_len is_get ars_len ars_get stas_len stas_get is_setZ is_repZ
theorem arcsIn_of {l : List Sta} (hka : achk l = true) {s : Sta} (h : s ∈ l) : arcsIn s l.length := by
  obtain ⟨k, hk, rfl⟩ := List.getElem_of_mem h
  intro a ha
  rw [← getElem!_pos l k hk] at ha
  have := achk_arc hka hk a ha
  exact ⟨by omega, this.2.1⟩
theorem deep_in {out : List Int} {j : Nat} (h : ∀ z ∈ out, -1 ≤ z ∧ z ≤ (j : Int)) (s : Sta) : -1 ≤ deepF s out ∧ deepF s out ≤ ((j + 1 : Nat) : Int) := by
  have := deep_fold h s.arcs (if s.final = true then 0 else -1) (by split <;> omega)
  have e : deepF s out = s.arcs.foldl (deep1 out) (if s.final = true then 0 else -1) := rfl
  rw [e]
  omega
theorem manyI_in (l : List Sta) (j : Nat) : ∀ z ∈ toldI manyF l j, 0 ≤ z ∧ z ≤ 301 := toldI_inv (inv := fun _ z => 0 ≤ z ∧ z ≤ 301) (by decide) (fun _ _ h => h) (fun j out h => many_fold h _ _ (by split <;> decide)) j
theorem deepI_in (l : List Sta) (j : Nat) : ∀ z ∈ toldI deepF l j, -1 ≤ z ∧ z ≤ j := toldI_inv (inv := fun j z => -1 ≤ z ∧ z ≤ (j : Int)) (by decide) (fun _ _ h => by omega) (fun j out h => deep_in h _) j
theorem pToldM {l : List Sta} (hl : StaOk l) (hka : achk l = true) : Sound Tryz.prog 27 [.sl 2 (stas l), .fn 49] (.sl 1 (is (toldI manyF l l.length))) := by
  have h6 := (achk_iff.1 hka).2.2
  exact pTold (inv := fun _ z => 0 ≤ z ∧ z ≤ 301) hka hl (by decide) (fun _ _ h => h) (fun j out h => many_fold h _ _ (by split <;> decide)) (fun s out j _ hs ho hin => pMany1 hin (ho ▸ arcsIn_of hka hs) (hl.2 s hs) (by omega))
theorem pToldD {l : List Sta} (hl : StaOk l) (hka : achk l = true) : Sound Tryz.prog 27 [.sl 2 (stas l), .fn 28] (.sl 1 (is (toldI deepF l l.length))) := by
  have h6 := (achk_iff.1 hka).2.2
  exact pTold (inv := fun j z => -1 ≤ z ∧ z ≤ (j : Int)) hka hl (by decide) (fun _ _ h => by omega) (fun j out h => deep_in h _) (fun s out j hj hs ho hin => pDeep1 (n := j) (by omega) hin (ho ▸ arcsIn_of hka hs) (hl.2 s hs) (by omega))
def manyN (l : List Sta) : Int := if achk l = true then (toldI manyF l l.length)[0]! else 0
def deepN (l : List Sta) : Int := if achk l = true then (toldI deepF l l.length)[0]! else -1
set_option maxHeartbeats 4000000 in
set_option maxRecDepth 10000 in
theorem pManyW {l : List Sta} (hl : StaOk l) : Sound Tryz.prog 29 [.sl 2 (stas l)] (.int .i64 (manyN l)) := by
  have cch := pCheckA hl
  cases hka : achk l
  · have e : manyN l = 0 := if_neg (by rw [hka]; simp)
    rw [hka] at cch
    rw [e]
    refine Sound.run (N := 10) Tryz.func29 rfl (by kernel_rfl) rfl rfl rfl (by first | exact args0_0 | exact args0_1 | exact args0_2 | exact args0_3 | exact args0_4 | exact args0_5 | exact args0_6) fun X_ w_ => ?_
    have c0_ := cch; refine goT ?_; first | exact trivial | skip
  · have e : manyN l = (toldI manyF l l.length)[0]! := if_pos hka
    have ct := pToldM hl hka
    have hlo := toldI_len manyF l l.length
    have hl0 := (achk_iff.1 hka).2.1
    rw [hka] at cch
    rw [e]
    generalize toldI manyF l l.length = out at *
    refine Sound.run (N := 10) Tryz.func29 rfl (by kernel_rfl) rfl rfl rfl (by first | exact args0_0 | exact args0_1 | exact args0_2 | exact args0_3 | exact args0_4 | exact args0_5 | exact args0_6) fun X_ w_ => ?_
    have c0_ := cch; have c1_ := ct; refine goX @hlo ?_; first | exact trivial | skip
set_option maxHeartbeats 4000000 in
set_option maxRecDepth 10000 in
theorem pDeepW {l : List Sta} (hl : StaOk l) : Sound Tryz.prog 8 [.sl 2 (stas l)] (.int .i64 (deepN l)) := by
  have cch := pCheckA hl
  cases hka : achk l
  · have e : deepN l = -1 := if_neg (by rw [hka]; simp)
    rw [hka] at cch
    rw [e]
    refine Sound.run (N := 10) Tryz.func8 rfl (by kernel_rfl) rfl rfl rfl (by first | exact args0_0 | exact args0_1 | exact args0_2 | exact args0_3 | exact args0_4 | exact args0_5 | exact args0_6) fun X_ w_ => ?_
    have c0_ := cch; refine goT ?_; first | exact trivial | skip
  · have e : deepN l = (toldI deepF l l.length)[0]! := if_pos hka
    have ct := pToldD hl hka
    have hlo := toldI_len deepF l l.length
    have hl0 := (achk_iff.1 hka).2.1
    rw [hka] at cch
    rw [e]
    generalize toldI deepF l l.length = out at *
    refine Sound.run (N := 10) Tryz.func8 rfl (by kernel_rfl) rfl rfl rfl (by first | exact args0_0 | exact args0_1 | exact args0_2 | exact args0_3 | exact args0_4 | exact args0_5 | exact args0_6) fun X_ w_ => ?_
    have c0_ := cch; have c1_ := ct; refine goX @hlo ?_; first | exact trivial | skip
/-! ### The law's own -/
theorem lastS_take {l : List Ar} {k : Nat} (h : k < l.length) (last : Int) : lastS last (l.take (k + 1)) = (l[k]!).sign := by rw [atake_snoc h, lastS_snoc]
theorem arcsOk_f {i n last : Int} {l : List Ar} {k : Nat} (hk : k < l.length) (h : arcsOk i n last (l.take k) = true) (hb : arcOk i n (lastS last (l.take k)) (l[k]!) = false) : arcsOk i n last l = false := by
  have e : l = l.take k ++ (l[k]! :: l.drop (k + 1)) := by rw [← adrop_at hk, List.take_append_drop]
  rw [e, arcsOk_app, h]
  simp only [arcsOk, hb, Bool.false_and, Bool.and_false]
theorem achk_len {l : List Sta} (h : statesOk l l.length = true) : achk l = (decide ((1 : Int) ≤ l.length) && decide ((l.length : Int) ≤ 6001)) := by
  unfold achk
  rw [h, Bool.true_and]
  by_cases h1 : 0 < l.length ∧ l.length ≤ 6001
  · rw [decide_eq_true h1, decide_eq_true (by omega), decide_eq_true (by omega)]; rfl
  · rw [decide_eq_false h1]
    by_cases h2 : 0 < l.length
    · rw [decide_eq_false (show ¬ (l.length : Int) ≤ 6001 by omega), Bool.and_false]
    · rw [decide_eq_false (show ¬ (1 : Int) ≤ l.length by omega), Bool.false_and]
theorem find_at {α : Type} [Inhabited α] {p : α → Bool} : ∀ {l : List α} {k : Nat}, k < l.length → (∀ j, j < k → p (l[j]!) = false) → p (l[k]!) = true → l.find? p = some (l[k]!)
  | [], k, h, _, _ => by simp at h
  | a :: l, 0, _, _, h2 => by simp only [List.getElem!_cons_zero] at h2 ⊢; rw [List.find?_cons_of_pos h2]
  | a :: l, k + 1, h, h1, h2 => by
    have h0 := h1 0 (by omega)
    simp only [List.getElem!_cons_zero] at h0
    simp only [List.getElem!_cons_succ] at h2 ⊢
    rw [List.find?_cons_of_neg (by simp [h0])]
    exact find_at (by simpa using h) (fun j hj => by have := h1 (j + 1) (by omega); simpa using this) h2
/-! ### Whether a word is in an automaton -/
def hasF (l : List Sta) (w : List Int) : Bool := achk l && (match leadF l 0 w with | some t => (l[t.toNat]!).final | none => false)
end Go.Eng.Tryz
set_option linter.unusedVariables false
set_option linter.unusedSimpArgs false
namespace Go.Eng.Tryz
open Go Go.Eng Go.Proofs Go.RowKit
attribute [local go_sem] evFold rnE ksE roundE frz frzs List.set_cons_zero List.set_cons_succ List.zip_cons_cons List.zip_nil_right List.foldl_cons List.foldl_nil D.flat rns AV.rn HO.rn AV.ks kss HO.ks sg dedup objKs reach passE fresh List.filter fnOf evOp opnd lk v2d v2ds just evBin intBin nilBin isNil strBin evUn evLoad ldD ldA evStore evField evIndex evBuild fillA evBuildSlice evBuildSliceX evBuildSliceT isOwn1 evAppendTX evAppendTT evAppend evAppendClip elems evMake evSlice evSliceO evSliceX evSliceY evViewV evStoreX evStoreT stT stI evCopyT evAppendT evAppendTD ldT ldI Tb.inn Tb.ilen Tb.nilAt Tb.ini D.put evCut evView evCopy evAppendV evAgg evMakeMap evLookup evMapUpd evRange evEntry cellsD AV.kb splice List.getLast?_append resM resAs resA resD keepL List.replicate_zero List.take_length ofInt evLen evMin evMax evConv evNil evExtract evBuiltin toD toDs allD pack splice D.comps AV.comps AV.sto D.cell D.rebuild inOrder allFlat del put setE eff gd gslot kills Option.map_some Option.map_none Option.bind_some Option.isSome_some List.map_cons List.map_nil List.append_nil List.nil_append List.cons_append List.length_cons List.length_nil List.length_map List.length_append List.take_zero List.take_succ_cons List.take_nil List.drop_zero List.drop_succ_cons List.drop_nil List.getElem?_cons_zero List.getElem?_cons_succ List.getElem?_map List.all_cons List.all_nil List.mem_cons List.not_mem_nil List.elem_cons List.elem_nil Bool.and_true Bool.true_and Bool.and_self Bool.not_true Bool.not_false Bool.or_true Bool.or_false and_self and_true true_and or_false false_or or_true true_or not_false_eq_true not_true_eq_false if_true if_false decide_true decide_false decide_eq_true_eq Int.toNat_natCast Int.toNat_zero beq_self_eq_true bne_self_eq_false Bool.false_eq_true Nat.add_zero Nat.zero_add tys room le_i lt_i eq_n le_n lt_n len0 gdE bb_tf bb_ft mapP arrL if_min tdiv_nn tmod_nn us_len us_get wrap_i64 wrap_u64 dec_lt dec_nlt dec_le dec_nle beq_t beq_f bne_t bne_f get_lt gt_iff_lt ge_iff_le
attribute [local go_sem ↓] map_P reduceIte
attribute [local go_sem] reduceCtorEq Nat.reduceEqDiff Nat.reduceAdd Nat.reduceSub Nat.reduceMul Nat.reduceLeDiff Nat.reduceLT Nat.reduceBEq Nat.reduceBNe Int.reduceToNat Int.reduceLT Int.reduceLE Int.reduceEq Int.reduceAdd Int.reduceSub Int.reduceNeg Int.reduceBEq Int.reduceBNe
attribute [local go_sem] is_len is_get ars_len ars_get stas_len stas_get is_setZ is_repZ
/-! ### How many words -/
end Go.Eng.Tryz

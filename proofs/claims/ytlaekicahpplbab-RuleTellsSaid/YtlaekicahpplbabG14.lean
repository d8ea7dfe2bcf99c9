/- The engine, part 14: one walk in the text's order serves every order. -/
import Derived.Test.YtlaekicahpplbabG13
set_option linter.unusedVariables false
set_option linter.unusedSimpArgs false
namespace Go.Eng
open Go.RowKit

/-- What must have come up ahead: as bits. -/
def maskOf (acc : List Nat) (o : Oper) : Nat := o.after.toList.foldl (fun s e => if Region.binds .any e then s ||| 2 ^ e.on ||| acc.getD e.on 0 else s) 0
def masks : List Oper → List Nat → List Nat
  | [], acc => acc
  | o :: os, acc => masks os (acc ++ [maskOf acc o])
def backOk : Nat → List Oper → Bool
  | _, [] => true
  | i, o :: os => (o.after.toList.all fun e => !Region.binds .any e || decide (e.on < i)) && backOk (i + 1) os
def disj (a b : List Nat) : Bool := a.all fun x => !b.contains x
/-- Whatever stands in no order looks at other things. ks: keys written, keys looked at. -/
def pairOk (ops : Array Oper) (ms : List Nat) (ks : List (List Nat × List Nat)) (i j : Nat) : Bool :=
  (ms.getD j 0).testBit i || match ops[i]?, ops[j]? with
    | some a, some b => a.apart ops b && match ks[i]?, ks[j]? with
      | some k, some l => disj k.1 l.1 && disj k.1 l.2 && disj l.1 k.2
      | _, _ => false
    | _, _ => true
def orderOk (ops : Array Oper) (ks : List (List Nat × List Nat)) : Bool :=
  backOk 0 ops.toList && (let ms := masks ops.toList []; (List.range ops.size).all fun j => (List.range j).all fun i => pairOk ops ms ks i j)
def outKeys (o : Out) : List Nat × List Nat := (keys o.es, o.acc)

/-- Closed under what must come ahead. -/
def Closed (ops : Array Oper) (S : Nat → Bool) : Prop := ∀ (j : Nat) o, ops[j]? = some o → S j = true → ∀ e ∈ o.after, Region.binds .any e = true → S e.on = true
theorem maskOf_spec {S : Nat → Bool} {acc : List Nat} {o : Oper} (hacc : ∀ (j : Nat) m i, acc[j]? = some m → m.testBit i = true → S j = true → S i = true) (ho : ∀ e ∈ o.after, Region.binds .any e = true → S e.on = true) (i : Nat) (h : (maskOf acc o).testBit i = true) : S i = true := by
  have : ∀ (l : List Edge) (s : Nat), (∀ e ∈ l, Region.binds .any e = true → S e.on = true) → (s.testBit i = true → S i = true) → (l.foldl (fun s e => if Region.binds .any e then s ||| 2 ^ e.on ||| acc.getD e.on 0 else s) s).testBit i = true → S i = true := by
    intro l
    induction l with
    | nil => intro s _ hs h; exact hs h
    | cons e l ih =>
      intro s hl hs h
      refine ih _ (fun e' he' => hl e' (by simp [he'])) (fun h' => ?_) h
      dsimp only at h'
      split at h'
      · rename_i hb
        simp only [Nat.testBit_or, Bool.or_eq_true] at h'
        rcases h' with (h' | h') | h'
        · exact hs h'
        · rw [Nat.testBit_two_pow] at h'
          have := of_decide_eq_true h'
          subst this
          exact hl e (by simp) hb
        · have hS := hl e (by simp) hb
          rw [List.getD_eq_getElem?_getD] at h'
          cases hq : acc[e.on]? with
          | none => rw [hq] at h'; simp at h'
          | some m => rw [hq] at h'; exact hacc _ m i hq h' hS
      · exact hs h'
  exact this o.after.toList 0 (fun e he => ho e (by simpa using he)) (by simp) h
theorem masks_spec {ops : Array Oper} {S : Nat → Bool} (hS : Closed ops S) : ∀ (l : List Oper) (acc : List Nat), (∀ j, l[j]? = ops[acc.length + j]?) → (∀ (j : Nat) m i, acc[j]? = some m → m.testBit i = true → S j = true → S i = true) →
    ∀ (j : Nat) m i, (masks l acc)[j]? = some m → m.testBit i = true → S j = true → S i = true
  | [], acc, _, hacc => hacc
  | o :: l, acc, hl, hacc => by
    refine masks_spec hS l (acc ++ [maskOf acc o]) (fun j => ?_) (fun j m i hj hb hSj => ?_)
    · have := hl (j + 1)
      simp only [List.length_append, List.length_cons, List.length_nil]
      rw [show acc.length + (0 + 1) + j = acc.length + (j + 1) from by omega, ← this]
      simp
    · by_cases h : j < acc.length
      · rw [List.getElem?_append_left h] at hj
        exact hacc j m i hj hb hSj
      · rw [List.getElem?_append_right (by omega)] at hj
        have h0 : j = acc.length := by
          have := (List.getElem?_eq_some_iff.1 hj).1
          simp at this
          omega
        subst h0
        simp at hj
        subst hj
        have hops := hl 0
        simp at hops
        exact maskOf_spec hacc (fun e he hbd => hS acc.length o hops.symm hSj e he hbd) i hb
theorem backOk_spec : ∀ (l : List Oper) (i : Nat), backOk i l = true → ∀ (j : Nat) o, l[j]? = some o → ∀ e ∈ o.after, Region.binds .any e = true → e.on < i + j
  | [], _, _, j, o, h, _, _, _ => by simp at h
  | o :: l, i, hb, j, o', h, e, he, hbd => by
    simp only [backOk, Bool.and_eq_true] at hb
    cases j with
    | zero =>
      simp at h
      subst h
      have := List.all_eq_true.1 hb.1 e (by simpa using he)
      simpa [hbd] using this
    | succ j =>
      have := backOk_spec l (i + 1) hb.2 j o' (by simpa using h) e he hbd
      omega
theorem disj_spec {a b : List Nat} (h : disj a b = true) {x : Nat} (ha : x ∈ a) : x ∉ b := by
  have := List.all_eq_true.1 h x ha
  simpa using this

/-- What a run in the text's order tells of each operation. -/
theorem Ev.at {P : Program} {ops : Array Oper} {c : Nat} : ∀ (l : List Oper) (i : Nat) (E : Env) (hp : Heap) (outs : List Out) (E' : Env) (hp' : Heap), Ev P ops c i l E hp outs E' hp' →
    outs.length = l.length ∧ foldS (fun _ => true) i outs E hp = (E', hp') ∧
    ∀ (j : Nat) o out, l[j]? = some o → outs[j]? = some out → OpEv P ops (c + (i + j)) o (foldS (fun q => decide (q < i + j)) i outs E hp).1 (foldS (fun q => decide (q < i + j)) i outs E hp).2 out ∧ out.dst = o.dst
  | [], i, E, hp, outs, E', hp', h => by
    cases h
    exact ⟨rfl, rfl, fun j o out hj => by simp at hj⟩
  | o :: l, i, E, hp, outs, E', hp', h => by
    cases h with
    | cons h0 ht =>
      rename_i out outs
      obtain ⟨h1, h2, h3⟩ := Ev.at l (i + 1) _ _ _ _ _ ht
      have hd : out.dst = o.dst := by cases h0 <;> rfl
      have none : ∀ (l : List Out) (q m : Nat) (E : Env) (hp : Heap), m ≤ q → foldS (fun x => decide (x < m)) q l E hp = (E, hp) := by
        intro l
        induction l with
        | nil => intro q m E hp _; rfl
        | cons x l ih => intro q m E hp hm; simp only [foldS]; rw [if_neg (by simp; omega)]; exact ih _ _ _ _ (by omega)
      refine ⟨by simp [h1], by simp [foldS, hd, h2], fun j o' out' ho' hout' => ?_⟩
      cases j with
      | zero =>
        simp at ho' hout'
        subst ho'
        subst hout'
        rw [none _ _ _ _ _ (by omega)]
        exact ⟨h0, hd⟩
      | succ j =>
        have := h3 j o' out' (by simpa using ho') (by simpa using hout')
        simp only [foldS]
        rw [if_pos (by simp), hd, show i + (j + 1) = i + 1 + j from by omega]
        exact this

section
variable {P : Program} {X : Ctx} {N : Nat} {rd : Option Nat}
def usedS (c n : Nat) (S : Nat → Bool) (k : Nat) : Prop := k < c ∨ ∃ j, j < n ∧ S j = true ∧ k = c + j
theorem EInv.congr {E E' : Env} {H H' : Nat → Option HO} {ν : Nat → Value} {u : Nat → Prop} {a : Act} {w : World} (h : EInv X N E H ν u a w) (hE : ∀ t, lk E' t = lk E t) (hH : ∀ k, H' k = H k) : EInv X N E' H' ν u a w := by
  have : H' = H := funext hH
  subst this
  exact ⟨h.heap, fun n av hn => h.env n av (by rw [← hE]; exact hn), h.size, h.defers⟩

/-- One more of a region comes up. -/
theorem order_step {ops : Array Oper} {c : Nat} {E0 : Env} {hp0 : Heap} {outs : List Out} {E' : Env} {hp' : Heap} (hev : Ev P ops c 0 ops.toList E0 hp0 outs E' hp') (hok : orderOk ops (outs.map outKeys) = true) (hdst : dstOk N ops.toList = true)
    {S : Nat → Bool} (hS : Closed ops S) {i : Nat} {o : Oper} (ho : ops[i]? = some o) (hi : S i = false) (hpred : ∀ e ∈ o.after, Region.binds .any e = true → S e.on = true)
    {ν : Nat → Value} {a : Act} {w : World} (hI : EInv X N (foldS S 0 outs E0 hp0).1 (lk (foldS S 0 outs E0 hp0).2) ν (usedS c ops.size S) a w) {K : Act → World → Prop} {Q : Exit → Act → World → Prop}
    (hK : ∀ a' w' ν', EInv X N (foldS (fun j => j == i || S j) 0 outs E0 hp0).1 (lk (foldS (fun j => j == i || S j) 0 outs E0 hp0).2) ν' (usedS c ops.size (fun j => j == i || S j)) a' w' →
      Ext (Mut X.M0 (lk (foldS S 0 outs E0 hp0).2) ν) (lk (foldS S 0 outs E0 hp0).2) ν (usedS c ops.size S) w (Mut X.M0 (lk (foldS (fun j => j == i || S j) 0 outs E0 hp0).2) ν') (lk (foldS (fun j => j == i || S j) 0 outs E0 hp0).2) ν' (usedS c ops.size (fun j => j == i || S j)) w' → K a' w') :
    wpOpIn (FR rd) 0 P ops Q i K a w := by
  obtain ⟨hlen, _, hat⟩ := hev.at
  have hil : i < ops.size := (Array.getElem?_eq_some_iff.1 ho).1
  have hol : ops.toList[i]? = some o := by simpa using ho
  obtain ⟨out, hout⟩ : ∃ out, outs[i]? = some out := ⟨_, List.getElem?_eq_getElem (by rw [hlen]; simpa using hil)⟩
  obtain ⟨hop, hod⟩ := hat i o out hol hout
  simp only [Nat.zero_add] at hop
  simp only [orderOk, Bool.and_eq_true] at hok
  obtain ⟨hback, hpairs⟩ := hok
  -- the masks tell what stands ahead
  have hS' : Closed ops (fun j => j == i || S j) := fun j oj hoj hj e he hb => by
    simp only [Bool.or_eq_true, beq_iff_eq] at hj ⊢
    rcases hj with rfl | hj
    · rw [ho] at hoj; cases hoj; exact .inr (hpred e he hb)
    · exact .inr (hS j oj hoj hj e he hb)
  have pair : ∀ (x y : Nat), x < y → y < ops.size → pairOk ops (masks ops.toList []) (outs.map outKeys) x y = true := fun x y hxy hy => by
    have := List.all_eq_true.1 hpairs y (List.mem_range.2 hy)
    exact List.all_eq_true.1 this x (List.mem_range.2 hxy)
  have mk : ∀ {T : Nat → Bool}, Closed ops T → ∀ (x y : Nat), ((masks ops.toList []).getD y 0).testBit x = true → T y = true → T x = true := fun {T} hT x y hb hy => by
    rw [List.getD_eq_getElem?_getD] at hb
    cases hq : (masks ops.toList [])[y]? with
    | none => rw [hq] at hb; simp at hb
    | some m => rw [hq] at hb; exact masks_spec hT ops.toList [] (fun j => by simp) (fun j m i hj => by simp at hj) y m x hq hb hy
  -- another operation: either it stands in order with i, and then S says which is first; or it is apart from i
  have apart : ∀ (j : Nat) oj outj, j ≠ i → ops[j]? = some oj → outs[j]? = some outj → (S j = decide (j < i)) ∨
      ((∀ d, oj.dst = some d → d ∉ o.looksAt ops ∧ o.dst ≠ some d) ∧ ∀ k ∈ keys outj.es, k ∉ out.acc ∧ k ∉ keys out.es) := by
    intro j oj outj hji hoj houtj
    have hjl : j < ops.size := (Array.getElem?_eq_some_iff.1 hoj).1
    rcases Nat.lt_or_gt_of_ne hji with h | h
    · have hp := pair j i h hil
      simp only [pairOk, Bool.or_eq_true] at hp
      rcases hp with hp | hp
      · left
        have := mk hS' j i hp (by simp)
        simp [hji] at this
        simp [this, h]
      · right
        simp only [hoj, ho, Bool.and_eq_true, List.getElem?_map, houtj, hout, Option.map_some, outKeys] at hp
        obtain ⟨h1, h2, h3⟩ := Oper.apart_spec hp.1
        refine ⟨fun d hd => ⟨h1 d hd, h2 d hd⟩, fun k hk => ⟨disj_spec hp.2.1.2 hk, disj_spec hp.2.1.1 hk⟩⟩
    · have hp := pair i j h hjl
      simp only [pairOk, Bool.or_eq_true] at hp
      rcases hp with hp | hp
      · left
        have : S j = false := by
          cases hq : S j with
          | false => rfl
          | true => have := mk hS i j hp hq; rw [hi] at this; cases this
        simp [this]
        omega
      · right
        simp only [hoj, ho, Bool.and_eq_true, List.getElem?_map, houtj, hout, Option.map_some, outKeys] at hp
        obtain ⟨h1, h2, h3⟩ := Oper.apart_spec hp.1
        refine ⟨fun d hd => ⟨h3 d hd, fun e => h2 d e hd⟩, fun k hk => ⟨disj_spec hp.2.2 hk, fun hk' => disj_spec hp.2.1.1 hk' hk⟩⟩
  have opj : ∀ (j : Nat) outj, outs[j]? = some outj → ∃ oj, ops[j]? = some oj ∧ outj.dst = oj.dst := fun j outj hj => by
    have hjl := (List.getElem?_eq_some_iff.1 hj).1
    rw [hlen] at hjl
    have := List.getElem?_eq_getElem hjl
    exact ⟨_, by simp, (hat j _ outj this hj).2⟩
  -- so i sees what it saw
  have hopS : OpEv P ops (c + i) o (foldS S 0 outs E0 hp0).1 (foldS S 0 outs E0 hp0).2 out := by
    refine hop.local (fun t ht => foldS_env outs 0 _ _ _ _ rfl fun j outj hj hdj => ?_) (fun k hk => foldS_heap outs 0 _ _ _ _ rfl fun j outj hj hkj => ?_)
    · simp only [Nat.zero_add]
      by_cases hji : j = i
      · subst hji; simp [hi]
      · obtain ⟨oj, hoj, hdd⟩ := opj j outj hj
        rcases apart j oj outj hji hoj hj with h | h
        · exact h
        · exact absurd ht (h.1 t (by rw [← hdd]; exact hdj)).1
    · simp only [Nat.zero_add]
      by_cases hji : j = i
      · subst hji; simp [hi]
      · obtain ⟨oj, hoj, hdd⟩ := opj j outj hj
        rcases apart j oj outj hji hoj hj with h | h
        · exact h
        · exact absurd hk (h.2 k hkj).1
  have later : ∀ (j : Nat) outj, i < j → outs[j]? = some outj → (∃ t, outj.dst = some t ∧ o.dst = some t) ∨ (∃ k, k ∈ keys outj.es ∧ k ∈ keys out.es) → S j = false := fun j outj hij hj hh => by
    obtain ⟨oj, hoj, hdd⟩ := opj j outj hj
    rcases apart j oj outj (by omega) hoj hj with h | h
    · rw [h]; simp; omega
    · rcases hh with ⟨t, h1, h2⟩ | ⟨k, h1, h2⟩
      · exact absurd h2 (h.1 t (by rw [← hdd]; exact h1)).2
      · exact absurd h2 (h.2 k h1).2
  have hEeq : ∀ t, lk (foldS (fun j => j == i || S j) 0 outs E0 hp0).1 t = lk (setE (foldS S 0 outs E0 hp0).1 o.dst out.v) t := fun t => by
    by_cases hd : o.dst = some t
    · rw [hd, lk_setE_same]
      exact foldS_env_last outs 0 i E0 hp0 out hout (by rw [hod]; exact hd) rfl (by simp) (fun j o' hij hj hdj => by
        have := later j o' hij hj (.inl ⟨t, hdj, hd⟩)
        have hne : ¬ j = i := by omega
        simp [this, hne])
    · rw [lk_setE_other hd]
      refine foldS_env outs 0 _ _ _ _ rfl fun j o' hj hdj => ?_
      simp only [Nat.zero_add]
      have hne : j ≠ i := fun e => by
        subst e
        rw [hout] at hj
        cases hj
        exact hd (by rw [← hod]; exact hdj)
      simp [hne]
  have hHeq : ∀ k, lk (foldS (fun j => j == i || S j) 0 outs E0 hp0).2 k = lk (eff (foldS S 0 outs E0 hp0).2 out.es) k := fun k => by
    by_cases hk : k ∈ keys out.es
    · exact foldS_heap_last outs 0 i E0 hp0 _ out hout hk (by simp) (fun j o' hij hj hkj => by
        have := later j o' hij hj (.inr ⟨k, hkj, hk⟩)
        have hne : ¬ j = i := by omega
        simp [this, hne])
    · rw [lk_eff_other _ _ _ hk]
      refine foldS_heap outs 0 _ _ _ _ rfl fun j o' hj hkj => ?_
      simp only [Nat.zero_add]
      have hne : j ≠ i := fun e => by
        subst e
        rw [hout] at hj
        cases hj
        exact hk hkj
      simp [hne]
  have hkey : ¬ usedS c ops.size S (c + i) := by
    rintro (h | ⟨j, _, hj, he⟩)
    · omega
    · have : j = i := by omega
      subst this
      rw [hi] at hj
      cases hj
  have hue : ∀ k, (usedS c ops.size S k ∨ k = c + i) ↔ usedS c ops.size (fun j => j == i || S j) k := fun k => by
    constructor
    · rintro ((h | ⟨j, h1, h2, h3⟩) | h)
      · exact .inl h
      · exact .inr ⟨j, h1, by simp [h2], h3⟩
      · exact .inr ⟨i, hil, by simp, h⟩
    · rintro (h | ⟨j, h1, h2, h3⟩)
      · exact .inl (.inl h)
      · simp only [Bool.or_eq_true, beq_iff_eq] at h2
        rcases h2 with rfl | h2
        · exact .inr h3
        · exact .inl (.inr ⟨j, h1, h2, h3⟩)
  have huf : (fun k => usedS c ops.size S k ∨ k = c + i) = usedS c ops.size (fun j => j == i || S j) := funext fun k => propext (hue k)
  have hHf : lk (foldS (fun j => j == i || S j) 0 outs E0 hp0).2 = lk (eff (foldS S 0 outs E0 hp0).2 out.es) := funext hHeq
  have hs := hopS.sound (K := K) (Q := Q) (rd := rd) hI hkey (dstOk_mem hdst (List.mem_of_getElem? hol)) (fun a' w' ν' h1 h2 => by
    rw [huf] at h1 h2
    refine hK a' w' ν' (h1.congr hEeq hHeq) ?_
    rw [hHf]
    exact h2)
  unfold wpOpIn
  simp only [ho]
  split
  · rename_i hw; rw [if_pos hw] at hs; exact hs
  · rename_i hw; rw [if_neg hw] at hs; exact hs

def cnt (S : Nat → Bool) (n : Nat) : Nat := ((List.range n).filter S).length
theorem cnt_le (S : Nat → Bool) (n : Nat) : cnt S n ≤ n := by
  have := List.length_filter_le S (List.range n)
  simpa [cnt] using this
theorem cnt_all {S : Nat → Bool} {n : Nat} (h : cnt S n = n) : ∀ i, i < n → S i = true := by
  intro i hi
  have h' : ((List.range n).filter S).length = (List.range n).length := by simpa [cnt] using h
  have := List.length_filter_eq_length_iff.1 h' i (List.mem_range.2 hi)
  exact this
theorem cnt_one {S : Nat → Bool} {n i : Nat} (hi : i < n) (h : S i = false) : cnt (fun j => j == i || S j) n = cnt S n + 1 := by
  unfold cnt
  induction n with
  | zero => omega
  | succ n ih =>
    rw [List.range_succ, List.filter_append, List.filter_append, List.length_append, List.length_append]
    by_cases e : i = n
    · subst e
      have : (List.range i).filter (fun j => j == i || S j) = (List.range i).filter S := List.filter_congr fun x hx => by
        have := List.mem_range.1 hx
        have hne : ¬ x = i := by omega
        simp [hne]
      rw [this]
      simp [h]
    · have := ih (by omega)
      rw [this]
      have hne : ¬ n = i := fun e' => e e'.symm
      by_cases hs : S n = true <;> simp [hne, hs] <;> omega
theorem foldS_congr {S S' : Nat → Bool} : ∀ (outs : List Out) (i : Nat) (E : Env) (hp : Heap), (∀ j, j < outs.length → S (i + j) = S' (i + j)) → foldS S i outs E hp = foldS S' i outs E hp
  | [], _, _, _, _ => rfl
  | o :: outs, i, E, hp, h => by
    have h0 := h 0 (by simp)
    simp only [Nat.add_zero] at h0
    simp only [foldS, h0]
    have hr : ∀ j, j < outs.length → S (i + 1 + j) = S' (i + 1 + j) := fun j hj => by
      have := h (j + 1) (by simp; omega)
      rwa [show i + (j + 1) = i + 1 + j from by omega] at this
    split
    · exact foldS_congr outs _ _ _ hr
    · exact foldS_congr outs _ _ _ hr
/-- A region that draws its order: the run in the text's order tells of every order. -/
theorem Ev.any {ops : Array Oper} {c : Nat} {E0 : Env} {hp0 : Heap} {outs : List Out} {E' : Env} {hp' : Heap} (hev : Ev P ops c 0 ops.toList E0 hp0 outs E' hp') (hok : orderOk ops (outs.map outKeys) = true) (hdst : dstOk N ops.toList = true)
    {Q : Exit → Act → World → Prop} {M0 : Nat → Prop} {H0 : Nat → Option HO} {ν0 : Nat → Value} {u0 : Nat → Prop} {w0 : World}
    (hQ : ∀ a' w' ν', EInv X N E' (lk hp') ν' (· < c + ops.size) a' w' → Ext M0 H0 ν0 u0 w0 (Mut X.M0 (lk hp') ν') (lk hp') ν' (· < c + ops.size) w' → Q .normal a' w') :
    ∀ (fuel : Nat) (listed : Array Bool) (S : Nat → Bool) (ν : Nat → Value) (a : Act) (w : World), listed.size = ops.size → (∀ i, i < ops.size → listed.getD i true = S i) → (∀ i, ops.size ≤ i → S i = false) → Closed ops S → cnt S ops.size + fuel = ops.size →
      EInv X N (foldS S 0 outs E0 hp0).1 (lk (foldS S 0 outs E0 hp0).2) ν (usedS c ops.size S) a w →
      Ext M0 H0 ν0 u0 w0 (Mut X.M0 (lk (foldS S 0 outs E0 hp0).2) ν) (lk (foldS S 0 outs E0 hp0).2) ν (usedS c ops.size S) w → wpAnyIn (FR rd) 0 P .any ops Q fuel listed a w := by
  obtain ⟨hlen, hfin, _⟩ := hev.at
  have hlen' : outs.length = ops.size := by simpa using hlen
  have hback : ∀ (j : Nat) o, ops[j]? = some o → ∀ e ∈ o.after, Region.binds .any e = true → e.on < j := fun j o ho e he hb => by
    simp only [orderOk, Bool.and_eq_true] at hok
    have := backOk_spec ops.toList 0 hok.1 j o (by simpa using ho) e he hb
    omega
  have done : ∀ (S : Nat → Bool) (ν : Nat → Value) (a : Act) (w : World), (∀ i, i < ops.size → S i = true) → EInv X N (foldS S 0 outs E0 hp0).1 (lk (foldS S 0 outs E0 hp0).2) ν (usedS c ops.size S) a w →
      Ext M0 H0 ν0 u0 w0 (Mut X.M0 (lk (foldS S 0 outs E0 hp0).2) ν) (lk (foldS S 0 outs E0 hp0).2) ν (usedS c ops.size S) w → Q .normal a w := fun S ν a w hall hI hx => by
    have e : foldS S 0 outs E0 hp0 = (E', hp') := by
      rw [← hfin]
      exact foldS_congr outs 0 E0 hp0 (fun j hj => by rw [hall]; omega)
    rw [e] at hI hx
    have ue : ∀ k, usedS c ops.size S k ↔ k < c + ops.size := fun k => by
      constructor
      · rintro (h | ⟨j, h1, _, h3⟩) <;> omega
      · intro h
        by_cases hk : k < c
        · exact .inl hk
        · exact .inr ⟨k - c, by omega, hall _ (by omega), by omega⟩
    have uf : usedS c ops.size S = (· < c + ops.size) := funext fun k => propext (ue k)
    rw [uf] at hI hx
    exact hQ a w ν hI hx
  intro fuel
  induction fuel with
  | zero =>
    intro listed S ν a w hl hg hout hS hc hI hx
    have hall := cnt_all (S := S) (n := ops.size) (by omega)
    refine ⟨?_, done S ν a w hall hI hx⟩
    unfold Region.ready
    rw [List.filter_eq_nil_iff]
    intro i hi
    have hi' := List.mem_range.1 hi
    rw [hg i hi', hall i hi']
    simp
  | succ fuel ih =>
    intro listed S ν a w hl hg hout hS hc hI hx
    refine ⟨fun hr => ?_, fun i hir => ?_⟩
    · -- nothing is ready: all have come up
      refine done S ν a w (fun i hi => ?_) hI hx
      induction i using Nat.strongRecOn with
      | _ i ihi =>
        cases hq : S i with
        | true => rfl
        | false =>
          exfalso
          have hio : ops[i]? = some ops[i] := Array.getElem?_eq_getElem hi
          have hmem : i ∈ Region.ready .any ops listed := by
            unfold Region.ready
            rw [List.mem_filter]
            refine ⟨List.mem_range.2 hi, ?_⟩
            rw [hg i hi, hq, hio]
            simp only [Bool.not_false, Bool.true_and, Option.map_some, Option.getD_some]
            rw [Array.all_eq_true_iff_forall_mem]
            intro e he
            cases hb : Region.binds .any e with
            | false => simp
            | true =>
              have hlt := hback i _ hio e he hb
              have := ihi e.on hlt (by omega)
              have hge := hg e.on (by omega)
              have hgf : listed.getD e.on false = true := by
                rw [Array.getD_eq_getD_getElem?, Array.getElem?_eq_getElem (by omega)] at hge ⊢
                simpa [this] using hge
              simp [hgf]
          rw [hr] at hmem
          cases hmem
    · unfold Region.ready at hir
      rw [List.mem_filter] at hir
      obtain ⟨hi, hcond⟩ := hir
      have hi := List.mem_range.1 hi
      have hio : ops[i]? = some ops[i] := Array.getElem?_eq_getElem hi
      rw [hg i hi, hio] at hcond
      simp only [Option.map_some, Option.getD_some, Bool.and_eq_true, Bool.not_eq_true'] at hcond
      obtain ⟨hSi, hedges⟩ := hcond
      rw [Array.all_eq_true_iff_forall_mem] at hedges
      have hpred : ∀ e ∈ (ops[i]).after, Region.binds .any e = true → S e.on = true := fun e he hb => by
        have := hedges e he
        simp only [hb, Bool.not_true, Bool.false_or] at this
        have hlt := hback i _ hio e he hb
        rw [← hg e.on (by omega)]
        rw [Array.getD_eq_getD_getElem?, Array.getElem?_eq_getElem (by omega)] at this ⊢
        simpa using this
      refine order_step hev hok hdst hS hio hSi hpred hI fun a' w' ν' hI' hx' => ?_
      refine ih _ (fun j => j == i || S j) ν' a' w' (by simpa using hl) (fun j hj => ?_) (fun j hj => ?_) (fun j oj hoj hj e he hb => ?_) ?_ hI' (hx.trans hx')
      · by_cases hji : j = i
        · subst hji
          rw [Array.getD_eq_getD_getElem?, Array.getElem?_setIfInBounds_self_of_lt (by omega)]
          simp
        · rw [Array.getD_eq_getD_getElem?, Array.getElem?_setIfInBounds_ne (fun e => hji e.symm), ← Array.getD_eq_getD_getElem?, hg j hj]
          simp [hji]
      · have hne : ¬ j = i := by omega
        simp [hne, hout j hj]
      · simp only [Bool.or_eq_true, beq_iff_eq] at hj ⊢
        rcases hj with rfl | hj
        · rw [hio] at hoj; cases hoj; exact .inr (hpred e he hb)
        · exact .inr (hS j oj hoj hj e he hb)
      · rw [cnt_one hi hSi]; omega
end
end Go.Eng

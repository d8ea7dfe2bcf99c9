/- Least, part 2: whether no two states of an automaton are alike. (and what stands behind it: texts laid together) -/
import Derived.Test.YtabfoaoeghikoaaDoorMG4
import Derived.Test.YtabfoaoeghikoaaDoorMR12
import Derived.Test.YtabfoaoeghikoaaDoorMR13
set_option linter.unusedVariables false
set_option linter.unusedSimpArgs false
namespace Go.Eng.Tryd
open Go Go.Eng Go.Proofs Go.RowKit
open Go.Maps (Keyed)
attribute [local go_sem] tys
attribute [local go_sem] is_len is_get iss_len iss_get iss_snoc ars_len ars_get stas_len stas_get
/-- The names that were seen. -/
def ems (m : List Sta) : List (D × D) := m.map fun s => (.str (keyN s), .bool true)
theorem mget_ems {m : List Sta} (hm : ∀ p ∈ m, SOk p) {s : Sta} (hs : SOk s) : mget (ems m) (.str (keyN s)) = if s ∈ m then some (.bool true) else none := by
  induction m with
  | nil => rfl
  | cons x t ih =>
    simp only [ems, List.map_cons, mget]
    by_cases hx : x = s
    · rw [if_pos (by rw [hx]), if_pos (by rw [hx]; simp)]
    · rw [if_neg (fun e => hx (keyN_inj (hm x (by simp)).1 hs.1 (by simpa using e)))]
      have := ih fun p hp => hm p (by simp [hp])
      unfold ems at this
      rw [this]
      have e : s ∈ x :: t ↔ s ∈ t := by
        rw [List.mem_cons]
        exact ⟨fun h => h.resolve_left (fun e => hx e.symm), .inr⟩
      simp only [e]
theorem mput_ems {m : List Sta} (hm : ∀ p ∈ m, SOk p) {s : Sta} (hs : SOk s) : mput (ems m) (.str (keyN s)) (.bool true) = ems (if s ∈ m then m else m ++ [s]) := by
  induction m with
  | nil => rfl
  | cons x t ih =>
    simp only [ems, List.map_cons, mput]
    by_cases hx : x = s
    · rw [if_pos (by rw [hx]), if_pos (by rw [hx]; simp)]
      rw [hx]; rfl
    · rw [if_neg (fun e => hx (keyN_inj (hm x (by simp)).1 hs.1 (by simpa using e)))]
      have := ih fun p hp => hm p (by simp [hp])
      unfold ems at this
      rw [this]
      have e : s ∈ x :: t ↔ s ∈ t := by
        rw [List.mem_cons]
        exact ⟨fun h => h.resolve_left (fun e => hx e.symm), .inr⟩
      simp only [e]
      split <;> rfl
theorem ems_ok {m : List Sta} (hm : ∀ p ∈ m, SOk p) (hn : m.Nodup) {s : Sta} (hs : SOk s) : MapOk Tryd.prog 9 (ems m) (.str (keyN s)) := by
  refine ⟨keyed_str, keyd_str hs.2, fun p hp => ?_, ?_⟩
  · obtain ⟨r, hr, rfl⟩ := List.mem_map.1 hp
    exact keyd_str (hm r hr).2
  · unfold ems
    rw [List.map_map, List.Nodup, List.pairwise_map]
    exact hn.imp_of_mem fun {a b} ha hb hne he => hne (keyN_inj (hm a ha).1 (hm b hb).1 (by simpa using he))
theorem idF_at {n k : Nat} (h : k < n) : (idF n n)[k]! = (k : Int) := by
  have e := idF_ns n
  have e2 : (is (idF n n))[k]? = (ns (List.range n))[k]? := by rw [e]
  rw [is_get (by rw [idF_len]; exact h), ns_get (by simpa using h)] at e2
  have e3 : (List.range n)[k]! = k := by rw [getElem!_pos _ k (by simpa using h)]; simp
  rw [e3] at e2
  simpa using e2
theorem idF_ok {n : Nat} (hn : n ≤ 6001) : OfOk (idF n n) := by
  refine ⟨by rw [idF_len]; omega, fun z hz => ?_⟩
  obtain ⟨k, hk, rfl⟩ := List.getElem_of_mem hz
  have hk2 : k < n := by rwa [idF_len] at hk
  have := idF_at hk2
  rw [getElem!_pos _ k hk] at this
  omega
theorem keyS_id {n : Nat} {s : Sta} (hs : ∀ a ∈ s.arcs, 0 ≤ a.to ∧ a.to < n) : keyS (idF n n) s = s := by
  unfold keyS
  have : s.arcs.map (reOf (idF n n)) = s.arcs := by
    refine (List.map_congr_left fun a ha => ?_).trans (List.map_id _)
    obtain ⟨h1, h2⟩ := hs a ha
    unfold reOf
    rw [idF_at (by omega)]
    cases a
    simp only at h1
    simp only [Ar.mk.injEq, true_and, id]
    omega
  rw [this]
/-- States that can be named. -/
def Nam (n : Nat) (s : Sta) : Prop := (∀ a ∈ s.arcs, 0 ≤ a.sign ∧ a.sign ≤ 1114111 ∧ 0 ≤ a.to ∧ a.to < n) ∧ s.arcs.length ≤ 10000
theorem Nam.ok {n : Nat} {s : Sta} (hn : n ≤ 6001) (h : Nam n s) : SOk s := by
  refine ⟨fun a ha => ⟨(h.1 a ha).1, (h.1 a ha).2.2.1⟩, ?_⟩
  have hnl := nameB_len s.final s.arcs (fun a ha => by have := h.1 a ha; omega)
  have e1 : (keyN s).size = (nameS s).length := by simp [keyN, bytesOf, ByteArray.size]
  have := h.2
  rw [e1]
  simp only [maxLen]
  unfold nameS
  omega
def Hs (n : Nat) (m : List Sta) : Heap := [(0, .var [.ref 2 0]), (1, .var [.map 3]), (2, .var [.d .nils, .d .nils, .own 4 n, .d .nilm, .d .nils]), (3, .map 9 4 (ems m)), (4, .row 3 1 (is (idF n n)))]
set_option maxHeartbeats 8000000 in
set_option maxRecDepth 10000 in
theorem pLeast1 {n : Nat} {s : Sta} {m : List Sta} (hn : n ≤ 6001) (hs : Nam n s) (hm : ∀ p ∈ m, SOk p) (hd : m.Nodup) :
    SoundM Tryd.prog 36 [.d (sta s), .ref 0 0, .ref 1 0] (Hs n m) (.d (.bool (decide (s ∈ m)))) (Hs n (if s ∈ m then m else m ++ [s])) 5 := by
  have hso := hs.ok hn
  have cn := pNameL (s := s) (of := idF n n) (idF_ok hn) (fun a ha => by rw [idF_len]; exact hs.1 a ha) hs.2
  rw [keyS_id (fun a ha => ⟨(hs.1 a ha).2.2.1, (hs.1 a ha).2.2.2⟩), idF_len] at cn
  have mk := eq_true (ems_ok hm hd hso)
  have mg := mget_ems hm hso
  have mp := mput_ems hm hso
  unfold Hs
  generalize keyN s = key at cn mk mg mp
  unfold sta at cn ⊢
  by_cases h : s ∈ m
  · rw [if_pos h] at mg mp
    rw [if_pos h, decide_eq_true h]
    refine SoundM.run (N := 16) (ks := [0, 1, 2, 3, 4]) Tryd.func36 rfl (by kernel_rfl) rfl rfl rfl (by first | exact argsA_0 | exact argsA_1 | exact argsA_2 | exact argsA_3 | exact argsA_4 | exact argsA_5 | exact argsA_6) fun X_ ν_ w_ => ?_
    have c0_ := cn; refine goX (And.intro @mk (And.intro @mg @mp)) ?_; first | exact trivial | skip
  · rw [if_neg h] at mg mp
    rw [if_neg h, decide_eq_false h]
    refine SoundM.run (N := 16) (ks := [0, 1, 2, 3, 4]) Tryd.func36 rfl (by kernel_rfl) rfl rfl rfl (by first | exact argsA_0 | exact argsA_1 | exact argsA_2 | exact argsA_3 | exact argsA_4 | exact argsA_5 | exact argsA_6) fun X_ ν_ w_ => ?_
    have c0_ := cn; refine goX (And.intro @mk (And.intro @mg @mp)) ?_; first | exact trivial | skip
set_option maxHeartbeats 8000000 in
set_option maxRecDepth 10000 in
theorem pIndexL {n k0 : Nat} {l : List Sta} (hn : n ≤ 6001) (hl : l.length ≤ 6001) (hs : ∀ p, p < l.length → Nam n (l[p]!)) (hk0 : k0 ≤ l.length) (h1 : ∀ j, j < k0 → l[j]! ∉ l.take j) (h2 : k0 < l.length → l[k0]! ∈ l.take k0) :
    SoundM Tryd.prog 51 [.d (.sl 2 (stas l)), .fn 36 [.ref 0 0, .ref 1 0]] (Hs n []) (.d (.int .i64 (if k0 < l.length then (k0 : Int) else -1))) (Hs n (l.take k0)) 5 := by
  have hso : ∀ k, ∀ p ∈ l.take k, SOk p := fun k p hp => by
    obtain ⟨q, hq, rfl⟩ := List.getElem_of_mem (List.mem_of_mem_take hp)
    have := (hs q hq).ok hn
    rwa [getElem!_pos l q hq] at this
  have hnd : ∀ k, k ≤ k0 → (l.take k).Nodup := by
    intro k
    induction k with
    | zero => intro _; simp
    | succ k ih =>
      intro hk
      rw [atake_snoc (by omega), List.nodup_append]
      exact ⟨ih (by omega), by simp, fun a ha b hb => by
        simp only [List.mem_singleton] at hb
        subst hb
        exact fun e => h1 k (by omega) (e ▸ ha)⟩
  unfold Hs
  refine SoundM.run (N := 19) (ks := [0, 1, 2, 3, 4]) Tryd.func51 rfl (by kernel_rfl) rfl rfl rfl (by first | exact argsA_0 | exact argsA_1 | exact argsA_2 | exact argsA_3 | exact argsA_4 | exact argsA_5 | exact argsA_6) fun X_ ν_ w_ => ?_
  refine goT ?_; first | exact trivial | skip
  refine WP_loopk (fun k : Nat => k ≤ k0) (fun k => [(0, .d (.sl 2 (stas l))), (1, .fn 36 [.ref 0 0, .ref 1 0]), (7, .d (.int .i64 l.length)), (8, .d (.int .i64 k))]) (fun k => Hs n (l.take k)) 5 (fun k => l.length - k) [0, 1, 7, 8] [0, 1, 2, 3, 4] 0 (Nat.zero_le _) rfl rfl (Nat.le_of_ble_eq_true rfl) (fun _ _ => rfl) (fun _ _ => rfl) fun k hk => ?_
  by_cases hk3 : k < l.length
  · have cl := pLeast1 hn (hs k hk3) (hso k) (hnd k hk)
    unfold Hs sta at cl
    unfold Hs
    by_cases hk4 : k < k0
    · have hsn := atake_snoc hk3
      rw [decide_eq_false (h1 k hk4), if_neg (h1 k hk4), ← hsn] at cl
      generalize l.take k = m0 at cl
      generalize hm1 : l.take (k + 1) = m1 at cl
      have c0_ := cl; refine goT ?_; first | exact trivial | skip
      refine ⟨k + 1, by omega, ?_, ?_, by omega⟩
      · simp (disch := omega) only [go_sem, keepL, Int.natCast_add, Int.cast_ofNat_Int]
      · simp (disch := omega) only [go_sem, keepL, hm1]
    · have hke : k = k0 := by omega
      subst hke
      rw [decide_eq_true (h2 hk3), if_pos (h2 hk3)] at cl
      rw [if_pos hk3]
      generalize l.take k = m0 at cl
      have c0_ := cl; refine goT ?_; first | exact trivial | skip
  · have hke : k0 = l.length := by omega
    have hke2 : k = k0 := by omega
    subst hke2
    rw [if_neg hk3]
    unfold Hs
    refine goT ?_; first | exact trivial | skip
set_option maxHeartbeats 8000000 in
set_option maxRecDepth 10000 in
theorem pContL {n k0 : Nat} {l : List Sta} (hn : n ≤ 6001) (hl : l.length ≤ 6001) (hs : ∀ p, p < l.length → Nam n (l[p]!)) (hk0 : k0 ≤ l.length) (h1 : ∀ j, j < k0 → l[j]! ∉ l.take j) (h2 : k0 < l.length → l[k0]! ∈ l.take k0) :
    SoundM Tryd.prog 35 [.d (.sl 2 (stas l)), .fn 36 [.ref 0 0, .ref 1 0]] (Hs n []) (.d (.bool (decide (k0 < l.length)))) (Hs n (l.take k0)) 5 := by
  have ci := pIndexL hn hl hs hk0 h1 h2
  unfold Hs at ci ⊢
  by_cases h : k0 < l.length
  · rw [if_pos h] at ci
    rw [decide_eq_true h]
    refine SoundM.run (N := 9) (ks := [0, 1, 2, 3, 4]) Tryd.func35 rfl (by kernel_rfl) rfl rfl rfl (by first | exact argsA_0 | exact argsA_1 | exact argsA_2 | exact argsA_3 | exact argsA_4 | exact argsA_5 | exact argsA_6) fun X_ ν_ w_ => ?_
    have c0_ := ci; refine goT ?_; first | exact trivial | skip
  · rw [if_neg h] at ci
    rw [decide_eq_false h]
    refine SoundM.run (N := 9) (ks := [0, 1, 2, 3, 4]) Tryd.func35 rfl (by kernel_rfl) rfl rfl rfl (by first | exact argsA_0 | exact argsA_1 | exact argsA_2 | exact argsA_3 | exact argsA_4 | exact argsA_5 | exact argsA_6) fun X_ ν_ w_ => ?_
    have c0_ := ci; refine goT ?_; first | exact trivial | skip
/-- The first state that is like one ahead of it. -/
theorem first_two (l : List Sta) : ∃ k0, k0 ≤ l.length ∧ (∀ j, j < k0 → l[j]! ∉ l.take j) ∧ (k0 < l.length → l[k0]! ∈ l.take k0) := by
  have key : ∀ n, n ≤ l.length → (∃ k0, k0 < n ∧ (∀ j, j < k0 → l[j]! ∉ l.take j) ∧ l[k0]! ∈ l.take k0) ∨ ∀ j, j < n → l[j]! ∉ l.take j := by
    intro n
    induction n with
    | zero => intro _; exact .inr fun j hj => by omega
    | succ n ih =>
      intro hn
      rcases ih (by omega) with ⟨k0, a, b, c⟩ | h
      · exact .inl ⟨k0, by omega, b, c⟩
      · by_cases hm : l[n]! ∈ l.take n
        · exact .inl ⟨n, by omega, h, hm⟩
        · refine .inr fun j hj => ?_
          by_cases e : j = n
          · subst e; exact hm
          · exact h j (by omega)
  rcases key l.length (Nat.le_refl _) with ⟨k0, a, b, c⟩ | h
  · exact ⟨k0, by omega, b, fun _ => c⟩
  · exact ⟨l.length, Nat.le_refl _, h, fun h => by omega⟩
theorem nodup_two {l : List Sta} : l.Nodup ↔ ∀ j, j < l.length → l[j]! ∉ l.take j := by
  constructor
  · intro h j hj hm
    obtain ⟨i, hi, e⟩ := List.getElem_of_mem hm
    have hi2 : i < j := by simp at hi; omega
    rw [List.getElem_take, getElem!_pos l j hj] at e
    exact (List.pairwise_iff_getElem.1 h i j (by omega) hj hi2) e
  · intro h
    refine List.pairwise_iff_getElem.2 fun i j hi hj hij e => ?_
    refine h j hj ?_
    rw [getElem!_pos l j hj, ← e]
    exact List.mem_take_iff_getElem.2 ⟨i, by omega, rfl⟩
def leastB (l : List Sta) : Bool := achk l && decide l.Nodup
set_option maxHeartbeats 8000000 in
set_option maxRecDepth 10000 in
theorem pLeast {l : List Sta} (hl : StaOk l) (hf : achk l = true → ∀ p, p < l.length → (l[p]!).arcs.length ≤ 10000) : Sound Tryd.prog 15 [.sl 2 (stas l)] (.bool (leastB l)) := by
  have cc := pCheckA hl
  unfold leastB
  cases hka : achk l
  · rw [hka] at cc
    refine Sound.run (N := 35) Tryd.func15 rfl (by kernel_rfl) rfl rfl rfl (by first | exact args0_0 | exact args0_1 | exact args0_2 | exact args0_3 | exact args0_4 | exact args0_5 | exact args0_6) fun X_ w_ => ?_
    have c0_ := cc; refine goT ?_; first | exact trivial | skip
  · rw [hka] at cc
    obtain ⟨_, hl0, hl1⟩ := achk_iff.1 hka
    obtain ⟨k0, hk0, h1, h2⟩ := first_two l
    have hs : ∀ p, p < l.length → Nam l.length (l[p]!) := fun p hp => ⟨fun a ha => by
      obtain ⟨g1, g2, g3⟩ := achk_arc hka hp a ha
      have := of_decide_eq_true g3
      omega, hf hka p hp⟩
    have ci := pContL (n := l.length) hl1 hl1 hs hk0 h1 h2
    unfold Hs at ci
    have e : decide l.Nodup = !decide (k0 < l.length) := by
      by_cases h : k0 < l.length
      · rw [decide_eq_true h, decide_eq_false (fun hn => nodup_two.1 hn k0 h (h2 h))]; rfl
      · have hke : k0 = l.length := by omega
        rw [decide_eq_false h, decide_eq_true (nodup_two.2 (by rw [← hke]; exact h1))]; rfl
    rw [e]
    refine Sound.run (N := 35) Tryd.func15 rfl (by kernel_rfl) rfl rfl rfl (by first | exact args0_0 | exact args0_1 | exact args0_2 | exact args0_3 | exact args0_4 | exact args0_5 | exact args0_6) fun X_ w_ => ?_
    have c0_ := cc; refine goT ?_; first | exact trivial | skip
    refine WP_loopk (fun k : Nat => k ≤ l.length) (fun k => [(0, .d (.sl 2 (stas l))), (3, .ref 2005 0), (18, .d (.int .i64 l.length)), (19, .d (.int .i64 k))])
      (fun k => [(2005, .var [.ref 2004 0]), (2004, .var [.d .nils, .d .nils, .own 2002 l.length, .d .nilm, .d .nils]), (2002, .row 3 1 (is (idF l.length k)))]) 4000 (fun k => l.length - k) [0, 3, 18, 19] [2005, 2004, 2002] 0 (Nat.zero_le _) rfl (by rw [is_repl]; rfl) (Nat.le_of_ble_eq_true rfl) (fun _ _ => rfl) (fun _ _ => rfl) fun k hk => ?_
    have hkl : (idF l.length k).length = l.length := idF_len ..
    by_cases hk3 : k < l.length
    · have hst3 := idF_step l.length k
      have hset : (is (idF l.length k)).set k (.int .i64 k) = is (idF l.length (k + 1)) := by rw [hst3]; simp [is, List.map_set]
      refine goX (And.intro @hkl (And.intro @hset @Int.toNat_natCast)) ?_; first | exact trivial | skip
      refine ⟨k + 1, by omega, ?_, ?_, by omega⟩
      · simp (disch := omega) only [go_sem, keepL, Int.natCast_add, Int.cast_ofNat_Int]
      · simp (disch := omega) only [go_sem, keepL]
    · have hke : k = l.length := by omega
      subst hke
      rw [show ems [] = [] from rfl] at ci
      have c0_ := ci; refine goT ?_; first | exact trivial | skip
end Go.Eng.Tryd
set_option linter.unusedVariables false
set_option linter.unusedSimpArgs false
namespace Go.Eng.Tryd
open Go Go.Eng Go.Proofs Go.RowKit
/-! ### The beginnings of the states -/
theorem TrieB.idx {L : List (List Int)} {l : List Sta} {B : List (List Int)} (h : TrieB L l B) {u : List Int} (hu : u ∈ B) : ∃ k : Nat, B[k]? = some u := by
  obtain ⟨k, hk⟩ := List.getElem_of_mem hu
  exact ⟨k, by rw [← hk.2]; exact List.getElem?_eq_getElem hk.1⟩
theorem TrieB.closed {L : List (List Int)} {l : List Sta} {B : List (List Int)} (h : TrieB L l B) {u : List Int} {z : Int} (hu : u ++ [z] ∈ B) : u ∈ B := by
  rcases (h.mem _).1 hu with h1 | ⟨w, h1, h2⟩
  · simp at h1
  · exact (h.mem _).2 (.inr ⟨w, h1, (List.prefix_append _ _).trans h2⟩)
/-- Each state but the first has one ahead of it that leads to it. -/
theorem TrieB.parent {L : List (List Int)} {l : List Sta} {B : List (List Int)} (h : TrieB L l B) {t : Nat} (h0 : 0 < t) (ht : t < l.length) : ∃ p u z, p < t ∧ B[p]? = some u ∧ B[t]? = some (u ++ [z]) ∧ (⟨z, (t : Int)⟩ : Ar) ∈ (l[p]!).arcs := by
  have htB : t < B.length := by rw [h.len]; exact ht
  have hu := List.getElem?_eq_getElem htB
  have hne : B[t] ≠ [] := fun e => by
    rw [e] at hu
    have := srt_inj h.srt hu h.root
    omega
  obtain ⟨u, z, e⟩ : ∃ u z, B[t] = u ++ [z] := ⟨_, _, (List.dropLast_concat_getLast hne).symm⟩
  rw [e] at hu
  obtain ⟨p, hp⟩ := h.idx (h.closed (List.mem_of_getElem? hu))
  refine ⟨p, u, z, ?_, hp, hu, (h.arcs p u hp ⟨z, t⟩).2 ⟨by simp, by simpa using hu⟩⟩
  rcases Nat.lt_trichotomy p t with h1 | h1 | h1
  · exact h1
  · subst h1
    rw [hp] at hu
    have := congrArg List.length (Option.some.inj hu)
    simp at this
  · exfalso
    obtain ⟨g1, e1⟩ := List.getElem?_eq_some_iff.1 hp
    have := List.pairwise_iff_getElem.1 h.srt t p htB g1 h1
    rw [e1, e] at this
    rcases this with h2 | ⟨h2, _⟩ <;> (simp at h2; try omega)
/-- An arc leads on. -/
theorem TrieB.fwd {L : List (List Int)} {l : List Sta} {B : List (List Int)} (h : TrieB L l B) {p : Nat} {a : Ar} (hp : p < l.length) (ha : a ∈ (l[p]!).arcs) : 0 ≤ a.to ∧ p < a.to.toNat ∧ a.to.toNat < l.length := by
  have hpB : p < B.length := by rw [h.len]; exact hp
  have hu := List.getElem?_eq_getElem hpB
  obtain ⟨h1, h2⟩ := (h.arcs p _ hu a).1 ha
  obtain ⟨g1, e1⟩ := List.getElem?_eq_some_iff.1 h2
  refine ⟨h1, ?_, by rw [← h.len]; exact g1⟩
  rcases Nat.lt_trichotomy p a.to.toNat with h3 | h3 | h3
  · exact h3
  · exfalso
    rw [← h3, hu] at h2
    have := congrArg List.length (Option.some.inj h2)
    simp at this
  · exfalso
    have := List.pairwise_iff_getElem.1 h.srt a.to.toNat p g1 hpB h3
    rw [e1] at this
    rcases this with h4 | ⟨h4, _⟩ <;> (simp at h4; try omega)
theorem getB_setO {X : List (List Int)} {q i : Nat} {v : List Int} (h : q ≠ i) : (X.set q v)[i]! = X[i]! := by
  simp only [List.getElem!_eq_getElem?_getD, List.getElem?_set_ne h]
theorem getB_setS {X : List (List Int)} {q : Nat} {v : List Int} (h : q < X.length) : (X.set q v)[q]! = v := by
  simp [List.getElem!_eq_getElem?_getD, List.getElem?_set_self h]
structure BegI (l : List Sta) (B : List (List Int)) (i k : Nat) (R : List (List Int)) : Prop where
  len : R.length = l.length
  val : ∀ t, t < l.length → R[t]! = B[t]! ∨ R[t]! = []
  done : ∀ p a, p < i → a ∈ (l[p]!).arcs → R[a.to.toNat]! = B[a.to.toNat]!
  part : ∀ a, a ∈ (l[i]!).arcs.take k → R[a.to.toNat]! = B[a.to.toNat]!
theorem BegI.self {L : List (List Int)} {l : List Sta} {B : List (List Int)} (h : TrieB L l B) {i k : Nat} {R : List (List Int)} (hR : BegI l B i k R) (hi : i < l.length) : R[i]! = B[i]! := by
  by_cases h0 : i = 0
  · subst h0
    have hB0 : B[0]! = [] := getE h.root
    rcases hR.val 0 hi with h1 | h1
    · exact h1
    · rw [h1, hB0]
  · obtain ⟨p, u, z, h1, h2, h3, h4⟩ := h.parent (by omega) hi
    have := hR.done p _ h1 h4
    simpa using this
theorem BegI.step {L : List (List Int)} {l : List Sta} {B : List (List Int)} (h : TrieB L l B) {i k : Nat} {R : List (List Int)} (hR : BegI l B i k R) (hi : i < l.length) (hk : k < (l[i]!).arcs.length) : BegI l B i (k + 1) (bstA i R ((l[i]!).arcs[k]!)) := by
  have hs := hR.self h hi
  have hmem : (l[i]!).arcs[k]! ∈ (l[i]!).arcs := by rw [getElem!_pos _ k hk]; exact List.getElem_mem hk
  have hsn : (l[i]!).arcs.take (k + 1) = (l[i]!).arcs.take k ++ [(l[i]!).arcs[k]!] := atake_snoc hk
  generalize (l[i]!).arcs[k]! = a at hmem hsn ⊢
  obtain ⟨f1, f2, f3⟩ := h.fwd hi hmem
  have hiB : i < B.length := by rw [h.len]; exact hi
  have hto := ((h.arcs i _ (List.getElem?_eq_getElem hiB) a).1 hmem).2
  have hv : B[a.to.toNat]! = R[i]! ++ [a.sign] := by rw [getE hto, hs, getElem!_pos B i hiB]
  have key : ∀ t, (bstA i R a)[t]! = if t = a.to.toNat then B[t]! else R[t]! := fun t => by
    unfold bstA
    by_cases e : t = a.to.toNat
    · subst e
      rw [if_pos rfl, getB_setS (by rw [hR.len]; exact f3), hv]
    · rw [if_neg e, getB_setO (fun x => e x.symm)]
  refine ⟨by unfold bstA; rw [List.length_set]; exact hR.len, fun t ht => ?_, fun p b hp hb => ?_, fun b hb => ?_⟩
  · rw [key]
    split
    · exact .inl rfl
    · exact hR.val t ht
  · rw [key]
    split
    · rfl
    · exact hR.done p b hp hb
  · rw [key]
    split
    · rfl
    · rename_i hne
      rw [hsn] at hb
      rcases List.mem_append.1 hb with h1 | h1
      · exact hR.part b h1
      · simp only [List.mem_singleton] at h1
        subst h1
        exact absurd rfl hne
theorem begF_I {L : List (List Int)} {l : List Sta} {B : List (List Int)} (h : TrieB L l B) : ∀ j, j ≤ l.length → BegI l B j 0 (begF l j) := by
  intro j
  induction j with
  | zero =>
    intro _
    refine ⟨by simp [begF], fun t ht => .inr ?_, fun p a hp => by omega, fun a ha => by simp at ha⟩
    have : begF l 0 = List.replicate l.length [] := rfl
    rw [this, getElem!_pos _ t (by simpa using ht)]
    simp
  | succ j ih =>
    intro hj
    have h0 := ih (by omega)
    have hin : ∀ k, k ≤ (l[j]!).arcs.length → BegI l B j k (bstI l (begF l j) j k) := fun k => by
      induction k with
      | zero => intro _; exact h0
      | succ k ihk =>
        intro hk
        rw [bstI_step l (begF l j) j (by omega)]
        exact (ihk (by omega)).step h (by omega) (by omega)
    have h1 := hin _ (Nat.le_refl _)
    rw [begF_step]
    refine ⟨h1.len, h1.val, fun p a hp ha => ?_, fun a ha => by simp at ha⟩
    by_cases e : p = j
    · subst e
      exact h1.part a (by rw [List.take_length]; exact ha)
    · exact h1.done p a (by omega) ha
/-- The beginnings that are found are these. -/
theorem begF_B {L : List (List Int)} {l : List Sta} {B : List (List Int)} (h : TrieB L l B) : begF l l.length = B := by
  have hI := begF_I h l.length (Nat.le_refl _)
  apply List.ext_getElem (by rw [hI.len, h.len])
  intro t h1 h2
  have ht : t < l.length := by rw [← hI.len]; exact h1
  rw [← getElem!_pos _ t h1, ← getElem!_pos _ t h2]
  by_cases h0 : t = 0
  · subst h0
    have hB0 : B[0]! = [] := getE h.root
    rcases hI.val 0 ht with h3 | h3
    · exact h3
    · rw [h3, hB0]
  · obtain ⟨p, u, z, g1, g2, g3, g4⟩ := h.parent (by omega) ht
    have := hI.done p _ (by omega) g4
    simpa using this
theorem arcsOk_of {i n : Int} : ∀ {l : List Ar} {last : Int}, l.Pairwise (fun a b => a.sign < b.sign) → (∀ a ∈ l, last < a.sign ∧ gsign a.sign = true ∧ i < a.to ∧ a.to < n) → arcsOk i n last l = true
  | [], _, _, _ => rfl
  | a :: t, last, hp, h => by
    obtain ⟨h1, h2, h3, h4⟩ := h a (by simp)
    rw [List.pairwise_cons] at hp
    simp only [arcsOk, arcOk, Bool.and_eq_true, decide_eq_true_eq]
    refine ⟨⟨⟨⟨h1, h2⟩, h3⟩, h4⟩, arcsOk_of hp.2 fun b hb => ?_⟩
    obtain ⟨_, g2, g3, g4⟩ := h b (by simp [hb])
    exact ⟨hp.1 b hb, g2, g3, g4⟩
/-- What the automaton of words is, in all that is asked of it. -/
structure TrieK (L : List (List Int)) (l : List Sta) (B : List (List Int)) : Prop where
  b : TrieB L l B
  l0 : 0 < l.length
  l1 : l.length ≤ 6001
  good : ∀ p : Nat, p < l.length → ∀ a ∈ (l[p]!).arcs, gsign a.sign = true
  few : ∀ p : Nat, (l[p]!).arcs.length ≤ 6001
  long : ∀ w ∈ B, w.length ≤ 20
theorem trie_K {L : List (List Int)} (he : wrE L = 0) : ∃ B, TrieK L (trieF L) B := by
  obtain ⟨h1, h2, h3⟩ := wrE_ok he
  have hw : ∀ w ∈ L, 0 < w.length ∧ w.length ≤ 20 ∧ w.all gsign = true := fun w h => wfit_le (List.all_eq_true.1 h2 w h)
  obtain ⟨B, hB⟩ := trie_B ⟨h3, fun j hj => by rw [getElem!_pos L j hj]; exact (hw _ (List.getElem_mem hj)).1⟩ (fun w h => (hw w h).2.1)
  have hz : ∀ w ∈ L, ∀ z ∈ w, -9223372036854775808 ≤ z ∧ z ≤ 9223372036854775807 := fun w h z hz => by
    have := of_decide_eq_true (List.all_eq_true.1 (hw w h).2.2 z hz)
    omega
  have ti := tlev_inv hz h1 20 (Nat.le_refl _)
  have hlen : (trieF L).length ≤ 6001 := by have := ti.len; simp only at this; unfold trieF; omega
  refine ⟨B, hB, ti.pos, hlen, fun p hp a ha => ?_, fun p => ?_, fun w hwB => ?_⟩
  · have hpB : p < B.length := by rw [hB.len]; exact hp
    obtain ⟨g1, g2⟩ := (hB.arcs p _ (List.getElem?_eq_getElem hpB) a).1 ha
    rcases (hB.mem _).1 (List.mem_of_getElem? g2) with h | ⟨w, hw1, hw2⟩
    · simp at h
    · refine List.all_eq_true.1 (hw w hw1).2.2 _ (hw2.subset (by simp))
  · have := ti.arcs p
    simp only at this
    unfold trieF
    omega
  · rcases (hB.mem _).1 hwB with h | ⟨v, hv1, hv2⟩
    · rw [h]; simp
    · exact Nat.le_trans hv2.length_le (hw v hv1).2.1
theorem TrieK.achk {L : List (List Int)} {l : List Sta} {B : List (List Int)} (h : TrieK L l B) : achk l = true := by
  unfold Go.Eng.Tryd.achk
  rw [decide_eq_true ⟨h.l0, h.l1⟩, Bool.and_true]
  unfold statesOk
  refine List.all_eq_true.2 fun p hp => ?_
  rw [List.mem_range] at hp
  have hpB : p < B.length := by rw [h.b.len]; exact hp
  refine arcsOk_of (h.b.ris p _ (List.getElem?_eq_getElem hpB)) fun a ha => ?_
  have hg := h.good p hp a ha
  obtain ⟨f1, f2, f3⟩ := h.b.fwd hp ha
  have := of_decide_eq_true hg
  exact ⟨by omega, hg, by omega, by omega⟩
theorem TrieK.sok {L : List (List Int)} {l : List Sta} {B : List (List Int)} (h : TrieK L l B) : StaOk l := by
  refine ⟨by have := h.l1; omega, fun s hs => ?_⟩
  obtain ⟨p, hp, rfl⟩ := List.getElem_of_mem hs
  have := h.few p
  rw [getElem!_pos l p hp] at this
  omega
theorem TrieK.dw {L : List (List Int)} {l : List Sta} {B : List (List Int)} (h : TrieK L l B) : DwH l B := by
  refine ⟨h.l0, h.l1, h.b.len, fun w hw => by have := h.long w hw; omega, fun p hp a ha => ?_, fun p hp => by have := h.few p; omega⟩
  have hg := of_decide_eq_true (h.good p hp a ha)
  obtain ⟨f1, f2, f3⟩ := h.b.fwd hp ha
  omega
end Go.Eng.Tryd

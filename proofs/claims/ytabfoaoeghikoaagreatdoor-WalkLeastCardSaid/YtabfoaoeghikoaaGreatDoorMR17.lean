/- Least, part 1: a state's name within a merger of the places alone. (and what stands behind it: texts laid together) -/
import Derived.Test.YtabfoaoeghikoaaGreatDoorMG4
import Derived.Test.YtabfoaoeghikoaaGreatDoorMR13
import Derived.Test.YtabfoaoeghikoaaGreatDoorMR14
import Derived.Test.YtabfoaoeghikoaaGreatDoorMR2
import Derived.Test.YtabfoaoeghikoaaGreatDoorMR16
import Derived.Test.YtabfoaoeghikoaaGreatDoorMR4
import Derived.Test.YtabfoaoeghikoaaGreatDoorMR3
set_option linter.unusedVariables false
set_option linter.unusedSimpArgs false
namespace Go.Eng.Tryz
open Go Go.Eng Go.Proofs Go.RowKit
attribute [local go_sem] ty0 ty1 ty2 ty3 ty4 ty5 ty6 ty7 ty8 ty9 ty10 ty11 ty12 ty13 ty14 ty15 ty16 ty17 ty18
attribute [local go_sem] is_len is_get iss_len iss_get iss_snoc bys_len bys_snoc bys_app ars_len ars_get stas_len stas_get
set_option maxHeartbeats 8000000 in
set_option maxRecDepth 10000 in
/-- The name, within a merger of the places alone. -/
theorem pNameL {s : Sta} {of : List Int} (hof : OfOk of) (hs : ∀ a ∈ s.arcs, 0 ≤ a.sign ∧ a.sign ≤ 1114111 ∧ 0 ≤ a.to ∧ a.to < of.length) (hal : s.arcs.length ≤ 10000) :
    SoundM Tryz.prog 60 [.ref 0 0, .d (sta s)] [(0, .var [.d .nils, .d .nils, .own 1 of.length, .d .nilm, .d .nils]), (1, .row 3 1 (is of))] (.d (.str (keyN (keyS of s)))) [(0, .var [.d .nils, .d .nils, .own 1 of.length, .d .nilm, .d .nils]), (1, .row 3 1 (is of))] 2 := by
  have c0 := pAppI0 (z := 0) (by omega)
  have c1 := pAppI0 (z := 1) (by omega)
  have hre : ∀ k, ∀ a ∈ (s.arcs.take k).map (reOf of), a.sign < 18446744073709551616 ∧ a.to < 18446744073709551616 := fun k a ha => by
    obtain ⟨x, hx, rfl⟩ := List.mem_map.1 ha
    obtain ⟨g1, g2, g3, g4⟩ := hs x (List.mem_of_mem_take hx)
    have := hof.get (k := x.to.toNat) (by omega)
    simp only [reOf]
    omega
  refine SoundM.run (N := 40) (ks := [0, 1]) Tryz.func60 rfl (by kernel_rfl) rfl rfl rfl (by first | exact argsA_0 | exact argsA_1 | exact argsA_2 | exact argsA_3 | exact argsA_4 | exact argsA_5 | exact argsA_6) fun X_ ν_ w_ => ?_
  cases hf : s.final
  · have c0_ := c0; refine goX @hf ?_; first | exact trivial | skip
    refine WP_loopk (fun k : Nat => k ≤ s.arcs.length) (fun k => [(0, .ref 0 0), (5, .own 1002 (nameB false ((s.arcs.take k).map (reOf of))).length), (13, .d (.sl 2 (ars s.arcs))), (14, .d (.int .i64 s.arcs.length)), (15, .d (.int .i64 k))]) (fun k => [(0, .var [.d .nils, .d .nils, .own 1 of.length, .d .nilm, .d .nils]), (1, .row 3 1 (is of)), (1002, .row 5 1 (bys (nameB false ((s.arcs.take k).map (reOf of)))))]) 20000 (fun k => s.arcs.length - k) [0, 5, 13, 14, 15] [0, 1, 1002] 0 (Nat.zero_le _) (by rw [List.take_zero, List.map_nil, nameB_nil]; rfl) (by rw [List.take_zero, List.map_nil, nameB_nil]; rfl) (Nat.le_of_ble_eq_true rfl) (fun _ _ => rfl) (fun _ _ => rfl) fun k hk => ?_
    have hlb := nameB_len false ((s.arcs.take k).map (reOf of)) (hre k)
    have hll : ((s.arcs.take k).map (reOf of)).length = k := by simp; omega
    rw [hll] at hlb
    by_cases hk3 : k < s.arcs.length
    · have hst : nameB false ((s.arcs.take (k + 1)).map (reOf of)) = nameB false ((s.arcs.take k).map (reOf of)) ++ [32] ++ decI (s.arcs[k]!).sign.toNat ++ [58] ++ decI (of[(s.arcs[k]!).to.toNat]!).toNat := by
        rw [atake_snoc hk3, List.map_append, List.map_cons, List.map_nil, nameB_snoc]
        simp only [arcB, reOf, List.append_assoc]
      obtain ⟨g1, g2, g3, g4⟩ := hs (s.arcs[k]!) (by rw [getElem!_pos s.arcs k hk3]; exact List.getElem_mem hk3)
      obtain ⟨z, hz⟩ := Int.eq_ofNat_of_zero_le g1
      obtain ⟨t, ht⟩ := Int.eq_ofNat_of_zero_le g3
      rw [hz, ht] at hst
      have htl : t < of.length := by omega
      obtain ⟨o1, o2⟩ := hof.get htl
      obtain ⟨y, hy⟩ := Int.eq_ofNat_of_zero_le o1
      simp only [Int.toNat_natCast, hy] at hst
      generalize nameB false ((s.arcs.take k).map (reOf of)) = N at hst hlb ⊢
      have hd1 := decI_20 (u := z) (by omega)
      have c3 := pAppI (b := N ++ [32]) (z := z) (by omega) (by simp only [List.length_append, List.length_cons, List.length_nil]; omega)
      have c4 := pAppI (b := N ++ [32] ++ decI z ++ [58]) (z := y) (by omega) (by simp only [List.length_append, List.length_cons, List.length_nil]; omega)
      simp only [List.length_append, List.length_cons, List.length_nil, Nat.zero_add] at c3 c4
      have c0_ := c3; have c1_ := c4; refine goX (And.intro @hz (And.intro @ht (And.intro @hy @Int.toNat_natCast))) ?_; first | exact trivial | skip
      refine ⟨k + 1, by omega, ?_, ?_, by omega⟩
      · simp (disch := omega) only [go_sem, keepL, Int.natCast_add, Int.cast_ofNat_Int, hst, List.length_append, List.length_cons, List.length_nil]
      · simp (disch := omega) only [go_sem, keepL, hst]
    · have hke : k = s.arcs.length := by omega
      subst hke
      rw [List.take_length]
      have hb1 := bytesD_bys (l := nameB false (s.arcs.map (reOf of))) (nameB_b _ _)
      have hb2 : keyN (keyS of s) = bytesOf (nameB false (s.arcs.map (reOf of))) := by unfold keyN keyS nameS; rw [hf]
      rw [hb2]
      rw [List.take_length] at hlb
      unfold bytesOf
      generalize nameB false (s.arcs.map (reOf of)) = N at hb1 hlb ⊢
      obtain ⟨b, l, hbl⟩ : ∃ b l, (N.map fun z => UInt8.ofNat z.toNat) = b :: l := by
        cases N with
        | nil => simp at hlb
        | cons x t => exact ⟨_, _, rfl⟩
      rw [hbl] at hb1 ⊢
      refine goX @hb1 ?_; first | exact trivial | skip

  · have c0_ := c0; have c1_ := c1; refine goX @hf ?_; first | exact trivial | skip
    refine WP_loopk (fun k : Nat => k ≤ s.arcs.length) (fun k => [(0, .ref 0 0), (5, .own 3002 (nameB true ((s.arcs.take k).map (reOf of))).length), (13, .d (.sl 2 (ars s.arcs))), (14, .d (.int .i64 s.arcs.length)), (15, .d (.int .i64 k))]) (fun k => [(0, .var [.d .nils, .d .nils, .own 1 of.length, .d .nilm, .d .nils]), (1, .row 3 1 (is of)), (3002, .row 5 1 (bys (nameB true ((s.arcs.take k).map (reOf of)))))]) 20000 (fun k => s.arcs.length - k) [0, 5, 13, 14, 15] [0, 1, 3002] 0 (Nat.zero_le _) (by rw [List.take_zero, List.map_nil, nameB_nil]; rfl) (by rw [List.take_zero, List.map_nil, nameB_nil]; rfl) (Nat.le_of_ble_eq_true rfl) (fun _ _ => rfl) (fun _ _ => rfl) fun k hk => ?_
    have hlb := nameB_len true ((s.arcs.take k).map (reOf of)) (hre k)
    have hll : ((s.arcs.take k).map (reOf of)).length = k := by simp; omega
    rw [hll] at hlb
    by_cases hk3 : k < s.arcs.length
    · have hst : nameB true ((s.arcs.take (k + 1)).map (reOf of)) = nameB true ((s.arcs.take k).map (reOf of)) ++ [32] ++ decI (s.arcs[k]!).sign.toNat ++ [58] ++ decI (of[(s.arcs[k]!).to.toNat]!).toNat := by
        rw [atake_snoc hk3, List.map_append, List.map_cons, List.map_nil, nameB_snoc]
        simp only [arcB, reOf, List.append_assoc]
      obtain ⟨g1, g2, g3, g4⟩ := hs (s.arcs[k]!) (by rw [getElem!_pos s.arcs k hk3]; exact List.getElem_mem hk3)
      obtain ⟨z, hz⟩ := Int.eq_ofNat_of_zero_le g1
      obtain ⟨t, ht⟩ := Int.eq_ofNat_of_zero_le g3
      rw [hz, ht] at hst
      have htl : t < of.length := by omega
      obtain ⟨o1, o2⟩ := hof.get htl
      obtain ⟨y, hy⟩ := Int.eq_ofNat_of_zero_le o1
      simp only [Int.toNat_natCast, hy] at hst
      generalize nameB true ((s.arcs.take k).map (reOf of)) = N at hst hlb ⊢
      have hd1 := decI_20 (u := z) (by omega)
      have c3 := pAppI (b := N ++ [32]) (z := z) (by omega) (by simp only [List.length_append, List.length_cons, List.length_nil]; omega)
      have c4 := pAppI (b := N ++ [32] ++ decI z ++ [58]) (z := y) (by omega) (by simp only [List.length_append, List.length_cons, List.length_nil]; omega)
      simp only [List.length_append, List.length_cons, List.length_nil, Nat.zero_add] at c3 c4
      have c0_ := c3; have c1_ := c4; refine goX (And.intro @hz (And.intro @ht (And.intro @hy @Int.toNat_natCast))) ?_; first | exact trivial | skip
      refine ⟨k + 1, by omega, ?_, ?_, by omega⟩
      · simp (disch := omega) only [go_sem, keepL, Int.natCast_add, Int.cast_ofNat_Int, hst, List.length_append, List.length_cons, List.length_nil]
      · simp (disch := omega) only [go_sem, keepL, hst]
    · have hke : k = s.arcs.length := by omega
      subst hke
      rw [List.take_length]
      have hb1 := bytesD_bys (l := nameB true (s.arcs.map (reOf of))) (nameB_b _ _)
      have hb2 : keyN (keyS of s) = bytesOf (nameB true (s.arcs.map (reOf of))) := by unfold keyN keyS nameS; rw [hf]
      rw [hb2]
      rw [List.take_length] at hlb
      unfold bytesOf
      generalize nameB true (s.arcs.map (reOf of)) = N at hb1 hlb ⊢
      obtain ⟨b, l, hbl⟩ : ∃ b l, (N.map fun z => UInt8.ofNat z.toNat) = b :: l := by
        cases N with
        | nil => simp at hlb
        | cons x t => exact ⟨_, _, rfl⟩
      rw [hbl] at hb1 ⊢
      refine goX @hb1 ?_; first | exact trivial | skip

end Go.Eng.Tryz
set_option linter.unusedVariables false
set_option linter.unusedSimpArgs false
namespace Go.Eng.Tryz
open Go Go.Eng Go.Proofs Go.RowKit
open Go.Maps (Keyed)
attribute [local go_sem] ty0 ty1 ty2 ty3 ty4 ty5 ty6 ty7 ty8 ty9 ty10 ty11 ty12 ty13 ty14 ty15 ty16 ty17 ty18
attribute [local go_sem] is_len is_get iss_len iss_get iss_snoc ars_len ars_get stas_len stas_get
/-- The names that were seen. -/
def ems (m : List Sta) : List (D × D) := m.map fun s => (.str (keyN s), .bool true)
theorem mget_ems {m : List Sta} (hm : ∀ p ∈ m, SOk p) {s : Sta} (hs : SOk s) : mget (ems m) (.str (keyN s)) = if s ∈ m then some (.bool true) else none := by
  induction m with
  | nil => rfl
  | cons x t ih =>
    simp only [ems, List.map_cons, mget]
    by_cases hx : x = s
    · rw [if_pos (by rw [hx]), if_pos (by rw [hx]; simp)]
    · rw [if_neg (fun e => hx (keyN_inj (hm x (by simp)).1 hs.1 (by simpa using e)))]
      have := ih fun p hp => hm p (by simp [hp])
      unfold ems at this
      rw [this]
      have e : s ∈ x :: t ↔ s ∈ t := by
        rw [List.mem_cons]
        exact ⟨fun h => h.resolve_left (fun e => hx e.symm), .inr⟩
      simp only [e]
theorem mput_ems {m : List Sta} (hm : ∀ p ∈ m, SOk p) {s : Sta} (hs : SOk s) : mput (ems m) (.str (keyN s)) (.bool true) = ems (if s ∈ m then m else m ++ [s]) := by
  induction m with
  | nil => rfl
  | cons x t ih =>
    simp only [ems, List.map_cons, mput]
    by_cases hx : x = s
    · rw [if_pos (by rw [hx]), if_pos (by rw [hx]; simp)]
      rw [hx]; rfl
    · rw [if_neg (fun e => hx (keyN_inj (hm x (by simp)).1 hs.1 (by simpa using e)))]
      have := ih fun p hp => hm p (by simp [hp])
      unfold ems at this
      rw [this]
      have e : s ∈ x :: t ↔ s ∈ t := by
        rw [List.mem_cons]
        exact ⟨fun h => h.resolve_left (fun e => hx e.symm), .inr⟩
      simp only [e]
      split <;> rfl
theorem ems_ok {m : List Sta} (hm : ∀ p ∈ m, SOk p) (hn : m.Nodup) {s : Sta} (hs : SOk s) : MapOk Tryz.prog 9 (ems m) (.str (keyN s)) := by
  refine ⟨keyed_str, keyd_str hs.2, fun p hp => ?_, ?_⟩
  · obtain ⟨r, hr, rfl⟩ := List.mem_map.1 hp
    exact keyd_str (hm r hr).2
  · unfold ems
    rw [List.map_map, List.Nodup, List.pairwise_map]
    exact hn.imp_of_mem fun {a b} ha hb hne he => hne (keyN_inj (hm a ha).1 (hm b hb).1 (by simpa using he))
theorem idF_at {n k : Nat} (h : k < n) : (idF n n)[k]! = (k : Int) := by
  have e := idF_ns n
  have e2 : (is (idF n n))[k]? = (ns (List.range n))[k]? := by rw [e]
  rw [is_get (by rw [idF_len]; exact h), ns_get (by simpa using h)] at e2
  have e3 : (List.range n)[k]! = k := by rw [getElem!_pos _ k (by simpa using h)]; simp
  rw [e3] at e2
  simpa using e2
theorem idF_ok {n : Nat} (hn : n ≤ 6001) : OfOk (idF n n) := by
  refine ⟨by rw [idF_len]; omega, fun z hz => ?_⟩
  obtain ⟨k, hk, rfl⟩ := List.getElem_of_mem hz
  have hk2 : k < n := by rwa [idF_len] at hk
  have := idF_at hk2
  rw [getElem!_pos _ k hk] at this
  omega
theorem keyS_id {n : Nat} {s : Sta} (hs : ∀ a ∈ s.arcs, 0 ≤ a.to ∧ a.to < n) : keyS (idF n n) s = s := by
  unfold keyS
  have : s.arcs.map (reOf (idF n n)) = s.arcs := by
    refine (List.map_congr_left fun a ha => ?_).trans (List.map_id _)
    obtain ⟨h1, h2⟩ := hs a ha
    unfold reOf
    rw [idF_at (by omega)]
    cases a
    simp only at h1
    simp only [Ar.mk.injEq, true_and, id]
    omega
  rw [this]
/-- States that can be named. -/
def Nam (n : Nat) (s : Sta) : Prop := (∀ a ∈ s.arcs, 0 ≤ a.sign ∧ a.sign ≤ 1114111 ∧ 0 ≤ a.to ∧ a.to < n) ∧ s.arcs.length ≤ 10000
theorem Nam.ok {n : Nat} {s : Sta} (hn : n ≤ 6001) (h : Nam n s) : SOk s := by
  refine ⟨fun a ha => ⟨(h.1 a ha).1, (h.1 a ha).2.2.1⟩, ?_⟩
  have hnl := nameB_len s.final s.arcs (fun a ha => by have := h.1 a ha; omega)
  have e1 : (keyN s).size = (nameS s).length := by simp [keyN, bytesOf, ByteArray.size]
  have := h.2
  rw [e1]
  simp only [maxLen]
  unfold nameS
  omega
def Hs (n : Nat) (m : List Sta) : Heap := [(0, .var [.ref 2 0]), (1, .var [.map 3]), (2, .var [.d .nils, .d .nils, .own 4 n, .d .nilm, .d .nils]), (3, .map 9 4 (ems m)), (4, .row 3 1 (is (idF n n)))]
set_option maxHeartbeats 8000000 in
set_option maxRecDepth 10000 in
theorem pLeast1 {n : Nat} {s : Sta} {m : List Sta} (hn : n ≤ 6001) (hs : Nam n s) (hm : ∀ p ∈ m, SOk p) (hd : m.Nodup) :
    SoundM Tryz.prog 59 [.d (sta s), .ref 0 0, .ref 1 0] (Hs n m) (.d (.bool (decide (s ∈ m)))) (Hs n (if s ∈ m then m else m ++ [s])) 5 := by
  have hso := hs.ok hn
  have cn := pNameL (s := s) (of := idF n n) (idF_ok hn) (fun a ha => by rw [idF_len]; exact hs.1 a ha) hs.2
  rw [keyS_id (fun a ha => ⟨(hs.1 a ha).2.2.1, (hs.1 a ha).2.2.2⟩), idF_len] at cn
  have mk := eq_true (ems_ok hm hd hso)
  have mg := mget_ems hm hso
  have mp := mput_ems hm hso
  unfold Hs
  generalize keyN s = key at cn mk mg mp
  unfold sta at cn ⊢
  by_cases h : s ∈ m
  · rw [if_pos h] at mg mp
    rw [if_pos h, decide_eq_true h]
    refine SoundM.run (N := 16) (ks := [0, 1, 2, 3, 4]) Tryz.func59 rfl (by kernel_rfl) rfl rfl rfl (by first | exact argsA_0 | exact argsA_1 | exact argsA_2 | exact argsA_3 | exact argsA_4 | exact argsA_5 | exact argsA_6) fun X_ ν_ w_ => ?_
    have c0_ := cn; refine goX (And.intro @mk (And.intro @mg @mp)) ?_; first | exact trivial | skip
  · rw [if_neg h] at mg mp
    rw [if_neg h, decide_eq_false h]
    refine SoundM.run (N := 16) (ks := [0, 1, 2, 3, 4]) Tryz.func59 rfl (by kernel_rfl) rfl rfl rfl (by first | exact argsA_0 | exact argsA_1 | exact argsA_2 | exact argsA_3 | exact argsA_4 | exact argsA_5 | exact argsA_6) fun X_ ν_ w_ => ?_
    have c0_ := cn; refine goX (And.intro @mk (And.intro @mg @mp)) ?_; first | exact trivial | skip
set_option maxHeartbeats 8000000 in
set_option maxRecDepth 10000 in
theorem pIndexL {n k0 : Nat} {l : List Sta} (hn : n ≤ 6001) (hl : l.length ≤ 6001) (hs : ∀ p, p < l.length → Nam n (l[p]!)) (hk0 : k0 ≤ l.length) (h1 : ∀ j, j < k0 → l[j]! ∉ l.take j) (h2 : k0 < l.length → l[k0]! ∈ l.take k0) :
    SoundM Tryz.prog 114 [.d (.sl 2 (stas l)), .fn 59 [.ref 0 0, .ref 1 0]] (Hs n []) (.d (.int .i64 (if k0 < l.length then (k0 : Int) else -1))) (Hs n (l.take k0)) 5 := by
  have hso : ∀ k, ∀ p ∈ l.take k, SOk p := fun k p hp => by
    obtain ⟨q, hq, rfl⟩ := List.getElem_of_mem (List.mem_of_mem_take hp)
    have := (hs q hq).ok hn
    rwa [getElem!_pos l q hq] at this
  have hnd : ∀ k, k ≤ k0 → (l.take k).Nodup := by
    intro k
    induction k with
    | zero => intro _; simp
    | succ k ih =>
      intro hk
      rw [atake_snoc (by omega), List.nodup_append]
      exact ⟨ih (by omega), by simp, fun a ha b hb => by
        simp only [List.mem_singleton] at hb
        subst hb
        exact fun e => h1 k (by omega) (e ▸ ha)⟩
  unfold Hs
  refine SoundM.run (N := 19) (ks := [0, 1, 2, 3, 4]) Tryz.func114 rfl (by kernel_rfl) rfl rfl rfl (by first | exact argsA_0 | exact argsA_1 | exact argsA_2 | exact argsA_3 | exact argsA_4 | exact argsA_5 | exact argsA_6) fun X_ ν_ w_ => ?_
  refine goT ?_; first | exact trivial | skip
  refine WP_loopk (fun k : Nat => k ≤ k0) (fun k => [(0, .d (.sl 2 (stas l))), (1, .fn 59 [.ref 0 0, .ref 1 0]), (7, .d (.int .i64 l.length)), (8, .d (.int .i64 k))]) (fun k => Hs n (l.take k)) 5 (fun k => l.length - k) [0, 1, 7, 8] [0, 1, 2, 3, 4] 0 (Nat.zero_le _) rfl rfl (Nat.le_of_ble_eq_true rfl) (fun _ _ => rfl) (fun _ _ => rfl) fun k hk => ?_
  by_cases hk3 : k < l.length
  · have cl := pLeast1 hn (hs k hk3) (hso k) (hnd k hk)
    unfold Hs sta at cl
    unfold Hs
    by_cases hk4 : k < k0
    · have hsn := atake_snoc hk3
      rw [decide_eq_false (h1 k hk4), if_neg (h1 k hk4), ← hsn] at cl
      generalize l.take k = m0 at cl
      generalize hm1 : l.take (k + 1) = m1 at cl
      have c0_ := cl; refine goT ?_; first | exact trivial | skip
      refine ⟨k + 1, by omega, ?_, ?_, by omega⟩
      · simp (disch := omega) only [go_sem, keepL, Int.natCast_add, Int.cast_ofNat_Int]
      · simp (disch := omega) only [go_sem, keepL, hm1]
    · have hke : k = k0 := by omega
      subst hke
      rw [decide_eq_true (h2 hk3), if_pos (h2 hk3)] at cl
      rw [if_pos hk3]
      generalize l.take k = m0 at cl
      have c0_ := cl; refine goT ?_; first | exact trivial | skip
  · have hke : k0 = l.length := by omega
    have hke2 : k = k0 := by omega
    subst hke2
    rw [if_neg hk3]
    unfold Hs
    refine goT ?_; first | exact trivial | skip
set_option maxHeartbeats 8000000 in
set_option maxRecDepth 10000 in
theorem pContL {n k0 : Nat} {l : List Sta} (hn : n ≤ 6001) (hl : l.length ≤ 6001) (hs : ∀ p, p < l.length → Nam n (l[p]!)) (hk0 : k0 ≤ l.length) (h1 : ∀ j, j < k0 → l[j]! ∉ l.take j) (h2 : k0 < l.length → l[k0]! ∈ l.take k0) :
    SoundM Tryz.prog 58 [.d (.sl 2 (stas l)), .fn 59 [.ref 0 0, .ref 1 0]] (Hs n []) (.d (.bool (decide (k0 < l.length)))) (Hs n (l.take k0)) 5 := by
  have ci := pIndexL hn hl hs hk0 h1 h2
  unfold Hs at ci ⊢
  by_cases h : k0 < l.length
  · rw [if_pos h] at ci
    rw [decide_eq_true h]
    refine SoundM.run (N := 9) (ks := [0, 1, 2, 3, 4]) Tryz.func58 rfl (by kernel_rfl) rfl rfl rfl (by first | exact argsA_0 | exact argsA_1 | exact argsA_2 | exact argsA_3 | exact argsA_4 | exact argsA_5 | exact argsA_6) fun X_ ν_ w_ => ?_
    have c0_ := ci; refine goT ?_; first | exact trivial | skip
  · rw [if_neg h] at ci
    rw [decide_eq_false h]
    refine SoundM.run (N := 9) (ks := [0, 1, 2, 3, 4]) Tryz.func58 rfl (by kernel_rfl) rfl rfl rfl (by first | exact argsA_0 | exact argsA_1 | exact argsA_2 | exact argsA_3 | exact argsA_4 | exact argsA_5 | exact argsA_6) fun X_ ν_ w_ => ?_
    have c0_ := ci; refine goT ?_; first | exact trivial | skip
/-- The first state that is like one ahead of it. -/
theorem first_two (l : List Sta) : ∃ k0, k0 ≤ l.length ∧ (∀ j, j < k0 → l[j]! ∉ l.take j) ∧ (k0 < l.length → l[k0]! ∈ l.take k0) := by
  have key : ∀ n, n ≤ l.length → (∃ k0, k0 < n ∧ (∀ j, j < k0 → l[j]! ∉ l.take j) ∧ l[k0]! ∈ l.take k0) ∨ ∀ j, j < n → l[j]! ∉ l.take j := by
    intro n
    induction n with
    | zero => intro _; exact .inr fun j hj => by omega
    | succ n ih =>
      intro hn
      rcases ih (by omega) with ⟨k0, a, b, c⟩ | h
      · exact .inl ⟨k0, by omega, b, c⟩
      · by_cases hm : l[n]! ∈ l.take n
        · exact .inl ⟨n, by omega, h, hm⟩
        · refine .inr fun j hj => ?_
          by_cases e : j = n
          · subst e; exact hm
          · exact h j (by omega)
  rcases key l.length (Nat.le_refl _) with ⟨k0, a, b, c⟩ | h
  · exact ⟨k0, by omega, b, fun _ => c⟩
  · exact ⟨l.length, Nat.le_refl _, h, fun h => by omega⟩
theorem nodup_two {l : List Sta} : l.Nodup ↔ ∀ j, j < l.length → l[j]! ∉ l.take j := by
  constructor
  · intro h j hj hm
    obtain ⟨i, hi, e⟩ := List.getElem_of_mem hm
    have hi2 : i < j := by simp at hi; omega
    rw [List.getElem_take, getElem!_pos l j hj] at e
    exact (List.pairwise_iff_getElem.1 h i j (by omega) hj hi2) e
  · intro h
    refine List.pairwise_iff_getElem.2 fun i j hi hj hij e => ?_
    refine h j hj ?_
    rw [getElem!_pos l j hj, ← e]
    exact List.mem_take_iff_getElem.2 ⟨i, by omega, rfl⟩
def leastB (l : List Sta) : Bool := achk l && decide l.Nodup
set_option maxHeartbeats 8000000 in
set_option maxRecDepth 10000 in
theorem pLeast {l : List Sta} (hl : StaOk l) (hf : achk l = true → ∀ p, p < l.length → (l[p]!).arcs.length ≤ 10000) : Sound Tryz.prog 16 [.sl 2 (stas l)] (.bool (leastB l)) := by
  have cc := pCheckA hl
  unfold leastB
  cases hka : achk l
  · rw [hka] at cc
    refine Sound.run (N := 35) Tryz.func16 rfl (by kernel_rfl) rfl rfl rfl (by first | exact args0_0 | exact args0_1 | exact args0_2 | exact args0_3 | exact args0_4 | exact args0_5 | exact args0_6) fun X_ w_ => ?_
    have c0_ := cc; refine goT ?_; first | exact trivial | skip
  · rw [hka] at cc
    obtain ⟨_, hl0, hl1⟩ := achk_iff.1 hka
    obtain ⟨k0, hk0, h1, h2⟩ := first_two l
    have hs : ∀ p, p < l.length → Nam l.length (l[p]!) := fun p hp => ⟨fun a ha => by
      obtain ⟨g1, g2, g3⟩ := achk_arc hka hp a ha
      have := of_decide_eq_true g3
      omega, hf hka p hp⟩
    have ci := pContL (n := l.length) hl1 hl1 hs hk0 h1 h2
    unfold Hs at ci
    have e : decide l.Nodup = !decide (k0 < l.length) := by
      by_cases h : k0 < l.length
      · rw [decide_eq_true h, decide_eq_false (fun hn => nodup_two.1 hn k0 h (h2 h))]; rfl
      · have hke : k0 = l.length := by omega
        rw [decide_eq_false h, decide_eq_true (nodup_two.2 (by rw [← hke]; exact h1))]; rfl
    rw [e]
    refine Sound.run (N := 35) Tryz.func16 rfl (by kernel_rfl) rfl rfl rfl (by first | exact args0_0 | exact args0_1 | exact args0_2 | exact args0_3 | exact args0_4 | exact args0_5 | exact args0_6) fun X_ w_ => ?_
    have c0_ := cc; refine goT ?_; first | exact trivial | skip
    refine WP_loopk (fun k : Nat => k ≤ l.length) (fun k => [(0, .d (.sl 2 (stas l))), (3, .ref 2005 0), (18, .d (.int .i64 l.length)), (19, .d (.int .i64 k))])
      (fun k => [(2005, .var [.ref 2004 0]), (2004, .var [.d .nils, .d .nils, .own 2002 l.length, .d .nilm, .d .nils]), (2002, .row 3 1 (is (idF l.length k)))]) 4000 (fun k => l.length - k) [0, 3, 18, 19] [2005, 2004, 2002] 0 (Nat.zero_le _) rfl (by rw [is_repl]; rfl) (Nat.le_of_ble_eq_true rfl) (fun _ _ => rfl) (fun _ _ => rfl) fun k hk => ?_
    have hkl : (idF l.length k).length = l.length := idF_len ..
    by_cases hk3 : k < l.length
    · have hst3 := idF_step l.length k
      have hset : (is (idF l.length k)).set k (.int .i64 k) = is (idF l.length (k + 1)) := by rw [hst3]; simp [is, List.map_set]
      refine goX (And.intro @hkl (And.intro @hset @Int.toNat_natCast)) ?_; first | exact trivial | skip
      refine ⟨k + 1, by omega, ?_, ?_, by omega⟩
      · simp (disch := omega) only [go_sem, keepL, Int.natCast_add, Int.cast_ofNat_Int]
      · simp (disch := omega) only [go_sem, keepL]
    · have hke : k = l.length := by omega
      subst hke
      rw [show ems [] = [] from rfl] at ci
      have c0_ := ci; refine goT ?_; first | exact trivial | skip
end Go.Eng.Tryz
set_option linter.unusedVariables false
set_option linter.unusedSimpArgs false
namespace Go.Eng.Tryz
open Go Go.Eng Go.Proofs Go.RowKit
end Go.Eng.Tryz
set_option linter.unusedVariables false
set_option linter.unusedSimpArgs false
namespace Go.Eng.Tryz
open Go Go.Eng Go.Proofs Go.RowKit
attribute [local go_sem] ty0 ty1 ty2 ty3 ty4 ty5 ty6 ty7 ty8 ty9 ty10 ty11 ty12 ty13 ty14 ty15 ty16 ty17 ty18
attribute [local go_sem] is_len is_get iss_len iss_get ars_len ars_get stas_len stas_get
end Go.Eng.Tryz
set_option linter.unusedVariables false
set_option linter.unusedSimpArgs false
namespace Go.Eng.Tryz
open Go Go.Eng Go.Proofs Go.RowKit
attribute [local go_sem] ty0 ty1 ty2 ty3 ty4 ty5 ty6 ty7 ty8 ty9 ty10 ty11 ty12 ty13 ty14 ty15 ty16 ty17 ty18
attribute [local go_sem] is_len is_get iss_len iss_get ars_len ars_get stas_len stas_get
end Go.Eng.Tryz
set_option linter.unusedVariables false
set_option linter.unusedSimpArgs false
namespace Go.Eng.Tryz
open Go Go.Eng Go.Proofs Go.RowKit
attribute [local go_sem] evFold rnE ksE roundE frz frzs List.set_cons_zero List.set_cons_succ List.zip_cons_cons List.zip_nil_right List.foldl_cons List.foldl_nil D.flat rns AV.rn HO.rn AV.ks kss HO.ks sg dedup objKs reach passE fresh List.filter fnOf evOp opnd lk v2d v2ds just evBin intBin nilBin isNil strBin evUn evLoad ldD ldA evStore evField evIndex evBuild fillA evBuildSlice evBuildSliceX evBuildSliceT isOwn1 evAppendTX evAppendTT evAppend evAppendClip elems evMake evSlice evSliceO evSliceX evSliceY evViewV evStoreX evStoreT stT stI evCopyT evAppendT evAppendTD ldT ldI Tb.inn Tb.ilen Tb.nilAt Tb.ini D.put evCut evView evCopy evAppendV evAgg evMakeMap evLookup evMapUpd evRange evEntry cellsD AV.kb splice List.getLast?_append resM resAs resA resD keepL List.replicate_zero List.take_length ofInt evLen evMin evMax evConv evNil evExtract evBuiltin toD toDs allD pack splice D.comps AV.comps AV.sto D.cell D.rebuild inOrder allFlat del put setE eff gd gslot kills Option.map_some Option.map_none Option.bind_some Option.isSome_some List.map_cons List.map_nil List.append_nil List.nil_append List.cons_append List.length_cons List.length_nil List.length_map List.length_append List.take_zero List.take_succ_cons List.take_nil List.drop_zero List.drop_succ_cons List.drop_nil List.getElem?_cons_zero List.getElem?_cons_succ List.getElem?_map List.all_cons List.all_nil List.mem_cons List.not_mem_nil List.elem_cons List.elem_nil Bool.and_true Bool.true_and Bool.and_self Bool.not_true Bool.not_false Bool.or_true Bool.or_false and_self and_true true_and or_false false_or or_true true_or not_false_eq_true not_true_eq_false if_true if_false decide_true decide_false decide_eq_true_eq Int.toNat_natCast Int.toNat_zero beq_self_eq_true bne_self_eq_false Bool.false_eq_true Nat.add_zero Nat.zero_add ty0 ty1 ty2 ty3 ty4 ty5 ty6 ty7 ty8 ty9 ty10 ty11 ty12 ty13 ty14 ty15 ty16 ty17 ty18 room le_i lt_i eq_n le_n lt_n len0 gdE bb_tf bb_ft mapP arrL if_min tdiv_nn tmod_nn us_len us_get wrap_i64 wrap_u64 dec_lt dec_nlt dec_le dec_nle beq_t beq_f bne_t bne_f get_lt gt_iff_lt ge_iff_le
attribute [local go_sem ↓] map_P reduceIte
attribute [local go_sem] reduceCtorEq Nat.reduceEqDiff Nat.reduceAdd Nat.reduceSub Nat.reduceMul Nat.reduceLeDiff Nat.reduceLT Nat.reduceBEq Nat.reduceBNe Int.reduceToNat Int.reduceLT Int.reduceLE Int.reduceEq Int.reduceAdd Int.reduceSub Int.reduceNeg Int.reduceBEq Int.reduceBNe
attribute [local go_sem] is_len is_get iss_len iss_get ars_len ars_get stas_len stas_get
def bls (l : List Bool) : List D := l.map D.bool
theorem bls_len {l : List Bool} : (bls l).length = l.length := by simp [bls]
theorem bls_get {l : List Bool} {k : Nat} (h : k < l.length) : (bls l)[k]? = some (.bool (l[k]!)) := by simp [bls, List.getElem?_eq_getElem h, getElem!_pos l k h]
theorem bls_set {l : List Bool} {k : Nat} {b : Bool} : (bls l).set k (.bool b) = bls (l.set k b) := by simp [bls, List.map_set]
theorem bls_rep (n : Nat) : List.replicate n (D.bool false) = bls (List.replicate n false) := by simp [bls]
attribute [local go_sem] bls_len bls_get bls_set
end Go.Eng.Tryz

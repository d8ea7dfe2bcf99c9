/- The least automaton, part 1: a state's name; the beginnings. (and what stands behind it: texts laid together) -/
import Derived.Test.YtabfoaoeghikoaaGreatDoorMG4
import Derived.Test.YtabfoaoeghikoaaGreatDoorMR9
import Derived.Test.YtabfoaoeghikoaaGreatDoorMR10
set_option maxHeartbeats 32000000
set_option maxRecDepth 100000
set_option linter.unusedVariables false
set_option linter.unusedSimpArgs false
namespace Go.Eng.Tryz
open Go Go.Eng Go.Proofs Go.RowKit
attribute [local go_sem] is_len is_get iss_len iss_get iss_snoc bys_len bys_snoc bys_app ars_len ars_get stas_len stas_get
def arcB (z t : Int) : List Int := [32] ++ decI z.toNat ++ [58] ++ decI t.toNat
def arcsB (arcs : List Ar) : List Int := arcs.flatMap fun a => arcB a.sign a.to
theorem arcsB_cons (a : Ar) (l : List Ar) : arcsB (a :: l) = 32 :: (decI a.sign.toNat ++ 58 :: (decI a.to.toNat ++ arcsB l)) := by simp [arcsB, arcB]
def nameB (fin : Bool) (arcs : List Ar) : List Int := decI (if fin then 1 else 0) ++ arcsB arcs
def reOf (of : List Int) (a : Ar) : Ar := ⟨a.sign, of[a.to.toNat]!⟩
def keyS (of : List Int) (s : Sta) : Sta := ⟨s.final, s.arcs.map (reOf of)⟩
def nameS (s : Sta) : List Int := nameB s.final s.arcs
def bytesOf (l : List Int) : ByteArray := ⟨(l.map fun z => UInt8.ofNat z.toNat).toArray⟩
theorem arcB_len (z t : Nat) (hz : z < 18446744073709551616) (ht : t < 18446744073709551616) : (arcB z t).length ≤ 42 := by
  have := decI_20 hz
  have := decI_20 ht
  simp only [arcB, List.length_append, List.length_cons, List.length_nil, Int.toNat_natCast]
  omega
theorem bytesD_bys : ∀ {l : List Int}, (∀ z ∈ l, 0 ≤ z ∧ z < 256) → bytesD (bys l) = some (l.map fun z => UInt8.ofNat z.toNat)
  | [], _ => rfl
  | z :: l, h => by
    have h1 := h z (by simp)
    have ih := bytesD_bys (l := l) fun z hz => h z (by simp [hz])
    simp only [bys] at ih
    simp only [bys, List.map_cons, bytesD]
    simp only [true_and]
    rw [if_pos h1, ih]
theorem decI_b (u : Nat) : ∀ z ∈ decI u, 0 ≤ z ∧ z < 256 := fun z hz => by
  obtain ⟨b, _, rfl⟩ := List.mem_map.1 hz
  have := b.toNat_lt
  omega
theorem nameB_b (fin : Bool) (arcs : List Ar) : ∀ z ∈ nameB fin arcs, 0 ≤ z ∧ z < 256 := fun z hz => by
  simp only [nameB, arcsB, List.mem_append, List.mem_flatMap, arcB, List.mem_cons, List.not_mem_nil, or_false] at hz
  rcases hz with h | ⟨a, _, ((h | h) | h) | h⟩
  · exact decI_b _ _ h
  · omega
  · exact decI_b _ _ h
  · omega
  · exact decI_b _ _ h
theorem nameB_snoc (fin : Bool) (arcs : List Ar) (a : Ar) : nameB fin (arcs ++ [a]) = nameB fin arcs ++ arcB a.sign a.to := by simp [nameB, arcsB]
theorem nameB_len (fin : Bool) (arcs : List Ar) (h : ∀ a ∈ arcs, a.sign < 18446744073709551616 ∧ a.to < 18446744073709551616) : 1 ≤ (nameB fin arcs).length ∧ (nameB fin arcs).length ≤ 20 + 42 * arcs.length := by
  induction arcs with
  | nil => simp only [nameB, arcsB, List.flatMap_nil, List.append_nil, List.length_nil]; have := decI_20 (u := if fin then 1 else 0) (by split <;> omega); omega
  | cons a l ih =>
    have h1 := ih fun a ha => h a (by simp [ha])
    have h2 := h a (by simp)
    have h3 := arcB_len a.sign.toNat a.to.toNat (by omega) (by omega)
    simp only [nameB, arcsB, List.flatMap_cons, List.length_append, List.length_cons, arcB, Int.toNat_natCast] at h1 h3 ⊢
    omega
theorem dec_char (u : Nat) : ∀ z ∈ decI u, 48 ≤ z ∧ z ≤ 57 := by
  induction u using Nat.strongRecOn with
  | _ u ih =>
    intro z hz
    unfold decI Lib.decDigits at hz
    split at hz
    · simp at hz
      subst hz
      have : (UInt8.ofNat (48 + u)).toNat = 48 + u := by simp; omega
      simp at this ⊢
      omega
    · rw [List.map_append, List.mem_append] at hz
      rcases hz with h | h
      · exact ih (u / 10) (by omega) z h
      · simp at h
        subst h
        have : (UInt8.ofNat (48 + u % 10)).toNat = 48 + u % 10 := by simp; omega
        simp at this ⊢
        omega
theorem dec_val : ∀ u : Nat, (decI u).foldl (fun s z => s * 10 + (z - 48)) 0 = (u : Int) := by
  intro u
  induction u using Nat.strongRecOn with
  | _ u ih =>
    unfold decI Lib.decDigits
    split
    · have : (UInt8.ofNat (48 + u)).toNat = 48 + u := by simp; omega
      simp only [List.map_cons, List.map_nil, List.foldl_cons, List.foldl_nil, this]
      omega
    · have h1 := ih (u / 10) (by omega)
      unfold decI at h1
      have : (UInt8.ofNat (48 + u % 10)).toNat = 48 + u % 10 := by simp; omega
      simp only [List.map_append, List.foldl_append, h1, List.map_cons, List.map_nil, List.foldl_cons, List.foldl_nil, this]
      omega
theorem decI_inj {u v : Nat} (h : decI u = decI v) : u = v := by
  have h1 := dec_val u
  have h2 := dec_val v
  rw [h] at h1
  omega
theorem dec_cut {c : Int} (hc : c < 48 ∨ 57 < c) : ∀ {a b x y : List Int}, (∀ z ∈ a, 48 ≤ z ∧ z ≤ 57) → (∀ z ∈ b, 48 ≤ z ∧ z ≤ 57) → a ++ c :: x = b ++ c :: y → a = b ∧ x = y
  | [], [], x, y, _, _, h => by simpa using h
  | [], b :: bs, x, y, _, hb, h => by
    simp only [List.nil_append, List.cons_append, List.cons.injEq] at h
    have := hb b (by simp)
    omega
  | a :: az, [], x, y, ha, _, h => by
    simp only [List.nil_append, List.cons_append, List.cons.injEq] at h
    have := ha a (by simp)
    omega
  | a :: az, b :: bs, x, y, ha, hb, h => by
    simp only [List.cons_append, List.cons.injEq] at h
    obtain ⟨h1, h2⟩ := dec_cut hc (fun z hz => ha z (by simp [hz])) (fun z hz => hb z (by simp [hz])) h.2
    exact ⟨by rw [h.1, h1], h2⟩
theorem arcsB_tail (k : List Ar) : arcsB k = [] ∨ ∃ t, arcsB k = 32 :: t := by
  cases k with
  | nil => exact .inl rfl
  | cons c k => exact .inr ⟨_, arcsB_cons c k⟩
theorem arcs_inj : ∀ {l m : List Ar}, (∀ a ∈ l, 0 ≤ a.sign ∧ 0 ≤ a.to) → (∀ a ∈ m, 0 ≤ a.sign ∧ 0 ≤ a.to) → arcsB l = arcsB m → l = m
  | [], [], _, _, _ => rfl
  | [], a :: m, _, _, h => by rw [arcsB_cons] at h; cases h
  | a :: l, [], _, _, h => by rw [arcsB_cons] at h; cases h
  | a :: l, b :: m, hl, hm, h => by
    have h1 := hl a (by simp)
    have h2 := hm b (by simp)
    rw [arcsB_cons, arcsB_cons] at h
    simp only [List.cons.injEq, true_and] at h
    obtain ⟨e1, h⟩ := dec_cut (c := 58) (by omega) (dec_char _) (dec_char _) h
    have es : a.sign = b.sign := by have := decI_inj e1; omega
    have key : decI a.to.toNat = decI b.to.toNat ∧ arcsB l = arcsB m := by
      rcases arcsB_tail l with t1 | ⟨t1, e1⟩ <;> rcases arcsB_tail m with t2 | ⟨t2, e2⟩
      · rw [t1, t2] at h ⊢
        simp only [List.append_nil] at h
        exact ⟨h, rfl⟩
      · exfalso
        rw [t1, e2, List.append_nil] at h
        have : (32 : Int) ∈ decI a.to.toNat := by rw [h]; simp
        have := dec_char _ _ this
        omega
      · exfalso
        rw [e1, t2, List.append_nil] at h
        have : (32 : Int) ∈ decI b.to.toNat := by rw [← h]; simp
        have := dec_char _ _ this
        omega
      · rw [e1, e2] at h ⊢
        obtain ⟨g1, g2⟩ := dec_cut (c := 32) (by omega) (dec_char _) (dec_char _) h
        exact ⟨g1, by rw [g2]⟩
    have et : a.to = b.to := by have := decI_inj key.1; omega
    rw [arcs_inj (fun c hc => hl c (by simp [hc])) (fun c hc => hm c (by simp [hc])) key.2]
    cases a; cases b
    simp only at es et
    rw [es, et]
theorem nameS_inj {s t : Sta} (hs : ∀ a ∈ s.arcs, 0 ≤ a.sign ∧ 0 ≤ a.to) (ht : ∀ a ∈ t.arcs, 0 ≤ a.sign ∧ 0 ≤ a.to) (h : nameS s = nameS t) : s = t := by
  obtain ⟨f, l⟩ := s
  obtain ⟨g, m⟩ := t
  have d0 : decI 0 = [48] := by unfold decI Lib.decDigits; rfl
  have d1 : decI 1 = [49] := by unfold decI Lib.decDigits; rfl
  simp only [nameS, nameB] at h
  cases f <;> cases g <;> simp only [if_true, if_false, Bool.false_eq_true, d0, d1, List.cons_append, List.nil_append, List.cons.injEq] at h
  · have := arcs_inj hs ht h.2
    simp only at this
    rw [this]
  · omega
  · omega
  · have := arcs_inj hs ht h.2
    simp only at this
    rw [this]
theorem nameB_nil (f : Bool) : nameB f [] = decI (if f then 1 else 0) := by simp [nameB, arcsB]
theorem bytesOf_inj {l m : List Int} (hl : ∀ z ∈ l, 0 ≤ z ∧ z < 256) (hm : ∀ z ∈ m, 0 ≤ z ∧ z < 256) (h : bytesOf l = bytesOf m) : l = m := by
  have h1 : (l.map fun z => UInt8.ofNat z.toNat) = m.map fun z => UInt8.ofNat z.toNat := by simpa [bytesOf] using h
  have back : ∀ {k : List Int}, (∀ z ∈ k, 0 ≤ z ∧ z < 256) → (k.map fun z => UInt8.ofNat z.toNat).map (fun b => (b.toNat : Int)) = k := fun {k} hk => by
    rw [List.map_map]
    refine (List.map_congr_left fun z hz => ?_).trans (List.map_id k)
    have := hk z hz
    have e : (UInt8.ofNat z.toNat).toNat = z.toNat := by simp; omega
    simp only [Function.comp, id, e]
    omega
  rw [← back hl, ← back hm, h1]
def keyN (s : Sta) : ByteArray := bytesOf (nameS s)
theorem keyN_inj {s t : Sta} (hs : ∀ a ∈ s.arcs, 0 ≤ a.sign ∧ 0 ≤ a.to) (ht : ∀ a ∈ t.arcs, 0 ≤ a.sign ∧ 0 ≤ a.to) (h : keyN s = keyN t) : s = t :=
  nameS_inj hs ht (bytesOf_inj (nameB_b _ _) (nameB_b _ _) h)
def OfOk (of : List Int) : Prop := of.length ≤ 1000000 ∧ ∀ z ∈ of, 0 ≤ z ∧ z ≤ 1000000
theorem OfOk.get {of : List Int} (h : OfOk of) {k : Nat} (hk : k < of.length) : 0 ≤ of[k]! ∧ of[k]! ≤ 1000000 := by
  rw [getElem!_pos of k hk]; exact h.2 _ (List.getElem_mem hk)
theorem pName {s : Sta} {of : List Int} {d0 d1 : D} {m sz3 : Nat} {kt2 et2 e3 : TypeId} {es2 : List (D × D)} {xs3 : List D} (hof : OfOk of) (hs : ∀ a ∈ s.arcs, 0 ≤ a.sign ∧ a.sign ≤ 1114111 ∧ 0 ≤ a.to ∧ a.to < of.length) (hal : s.arcs.length ≤ 10000) :
    SoundM Tryz.prog 60 [.ref 0 0, .d (sta s)] [(0, .var [.d d0, .d d1, .own 1 of.length, .map 2, .own 3 m]), (1, .row 3 1 (is of)), (2, .map kt2 et2 es2), (3, .row e3 sz3 xs3)] (.d (.str (keyN (keyS of s)))) [(0, .var [.d d0, .d d1, .own 1 of.length, .map 2, .own 3 m]), (1, .row 3 1 (is of)), (2, .map kt2 et2 es2), (3, .row e3 sz3 xs3)] 4 := by
  have c0 := pAppI0 (z := 0) (by omega)
  have c1 := pAppI0 (z := 1) (by omega)
  have hre : ∀ k, ∀ a ∈ (s.arcs.take k).map (reOf of), a.sign < 18446744073709551616 ∧ a.to < 18446744073709551616 := fun k a ha => by
    obtain ⟨x, hx, rfl⟩ := List.mem_map.1 ha
    obtain ⟨g1, g2, g3, g4⟩ := hs x (List.mem_of_mem_take hx)
    have := hof.get (k := x.to.toNat) (by omega)
    simp only [reOf]
    omega
  refine SoundM.run (N := 40) (ks := [0, 1, 2, 3]) Tryz.func60 rfl (by kernel_rfl) rfl rfl rfl (by exact argsA_2) fun X_ ν_ w_ => ?_
  cases hf : s.final
  · have c0_ := c0; refine goX @hf ?_; try exact trivial
    refine WP_loopk (fun k : Nat => k ≤ s.arcs.length) (fun k => [(0, .ref 0 0), (5, .own 1004 (nameB false ((s.arcs.take k).map (reOf of))).length), (13, .d (.sl 2 (ars s.arcs))), (14, .d (.int .i64 s.arcs.length)), (15, .d (.int .i64 k))]) (fun k => [(0, .var [.d d0, .d d1, .own 1 of.length, .map 2, .own 3 m]), (1, .row 3 1 (is of)), (2, .map kt2 et2 es2), (3, .row e3 sz3 xs3), (1004, .row 5 1 (bys (nameB false ((s.arcs.take k).map (reOf of)))))]) 20000 (fun k => s.arcs.length - k) [0, 5, 13, 14, 15] [0, 1, 2, 3, 1004] 0 (Nat.zero_le _) (by rw [List.take_zero, List.map_nil, nameB_nil]; rfl) (by rw [List.take_zero, List.map_nil, nameB_nil]; rfl) (Nat.le_of_ble_eq_true rfl) (fun _ _ => rfl) (fun _ _ => rfl) fun k hk => ?_
    have hlb := nameB_len false ((s.arcs.take k).map (reOf of)) (hre k)
    have hll : ((s.arcs.take k).map (reOf of)).length = k := by simp; omega
    rw [hll] at hlb
    by_cases hk3 : k < s.arcs.length
    · have hst : nameB false ((s.arcs.take (k + 1)).map (reOf of)) = nameB false ((s.arcs.take k).map (reOf of)) ++ [32] ++ decI (s.arcs[k]!).sign.toNat ++ [58] ++ decI (of[(s.arcs[k]!).to.toNat]!).toNat := by
        rw [atake_snoc hk3, List.map_append, List.map_cons, List.map_nil, nameB_snoc]
        simp only [arcB, reOf, List.append_assoc]
      obtain ⟨g1, g2, g3, g4⟩ := hs (s.arcs[k]!) (by rw [getElem!_pos s.arcs k hk3]; exact List.getElem_mem hk3)
      obtain ⟨z, hz⟩ := Int.eq_ofNat_of_zero_le g1
      obtain ⟨t, ht⟩ := Int.eq_ofNat_of_zero_le g3
      rw [hz, ht] at hst
      have htl : t < of.length := by omega
      obtain ⟨o1, o2⟩ := hof.get htl
      obtain ⟨y, hy⟩ := Int.eq_ofNat_of_zero_le o1
      simp only [Int.toNat_natCast, hy] at hst
      generalize nameB false ((s.arcs.take k).map (reOf of)) = N at hst hlb ⊢
      have hd1 := decI_20 (u := z) (by omega)
      have c3 := pAppI (b := N ++ [32]) (z := z) (by omega) (by simp only [List.length_append, List.length_cons, List.length_nil]; omega)
      have c4 := pAppI (b := N ++ [32] ++ decI z ++ [58]) (z := y) (by omega) (by simp only [List.length_append, List.length_cons, List.length_nil]; omega)
      simp only [List.length_append, List.length_cons, List.length_nil, Nat.zero_add] at c3 c4
      have c0_ := c3; have c1_ := c4; refine goX (And.intro @hz (And.intro @ht (And.intro @hy @Int.toNat_natCast))) ?_; try exact trivial
      refine ⟨k + 1, by omega, ?_, ?_, by omega⟩
      · simp (disch := omega) only [go_sem, keepL, Int.natCast_add, Int.cast_ofNat_Int, hst, List.length_append, List.length_cons, List.length_nil]
      · simp (disch := omega) only [go_sem, keepL, hst]
    · have hke : k = s.arcs.length := by omega
      subst hke
      rw [List.take_length]
      have hb1 := bytesD_bys (l := nameB false (s.arcs.map (reOf of))) (nameB_b _ _)
      have hb2 : keyN (keyS of s) = bytesOf (nameB false (s.arcs.map (reOf of))) := by unfold keyN keyS nameS; rw [hf]
      rw [hb2]
      rw [List.take_length] at hlb
      unfold bytesOf
      generalize nameB false (s.arcs.map (reOf of)) = N at hb1 hlb ⊢
      obtain ⟨b, l, hbl⟩ : ∃ b l, (N.map fun z => UInt8.ofNat z.toNat) = b :: l := by
        cases N with
        | nil => simp at hlb
        | cons x t => exact ⟨_, _, rfl⟩
      rw [hbl] at hb1 ⊢
      refine goX @hb1 ?_; try exact trivial
  · have c0_ := c0; have c1_ := c1; refine goX @hf ?_; try exact trivial
    refine WP_loopk (fun k : Nat => k ≤ s.arcs.length) (fun k => [(0, .ref 0 0), (5, .own 3004 (nameB true ((s.arcs.take k).map (reOf of))).length), (13, .d (.sl 2 (ars s.arcs))), (14, .d (.int .i64 s.arcs.length)), (15, .d (.int .i64 k))]) (fun k => [(0, .var [.d d0, .d d1, .own 1 of.length, .map 2, .own 3 m]), (1, .row 3 1 (is of)), (2, .map kt2 et2 es2), (3, .row e3 sz3 xs3), (3004, .row 5 1 (bys (nameB true ((s.arcs.take k).map (reOf of)))))]) 20000 (fun k => s.arcs.length - k) [0, 5, 13, 14, 15] [0, 1, 2, 3, 3004] 0 (Nat.zero_le _) (by rw [List.take_zero, List.map_nil, nameB_nil]; rfl) (by rw [List.take_zero, List.map_nil, nameB_nil]; rfl) (Nat.le_of_ble_eq_true rfl) (fun _ _ => rfl) (fun _ _ => rfl) fun k hk => ?_
    have hlb := nameB_len true ((s.arcs.take k).map (reOf of)) (hre k)
    have hll : ((s.arcs.take k).map (reOf of)).length = k := by simp; omega
    rw [hll] at hlb
    by_cases hk3 : k < s.arcs.length
    · have hst : nameB true ((s.arcs.take (k + 1)).map (reOf of)) = nameB true ((s.arcs.take k).map (reOf of)) ++ [32] ++ decI (s.arcs[k]!).sign.toNat ++ [58] ++ decI (of[(s.arcs[k]!).to.toNat]!).toNat := by
        rw [atake_snoc hk3, List.map_append, List.map_cons, List.map_nil, nameB_snoc]
        simp only [arcB, reOf, List.append_assoc]
      obtain ⟨g1, g2, g3, g4⟩ := hs (s.arcs[k]!) (by rw [getElem!_pos s.arcs k hk3]; exact List.getElem_mem hk3)
      obtain ⟨z, hz⟩ := Int.eq_ofNat_of_zero_le g1
      obtain ⟨t, ht⟩ := Int.eq_ofNat_of_zero_le g3
      rw [hz, ht] at hst
      have htl : t < of.length := by omega
      obtain ⟨o1, o2⟩ := hof.get htl
      obtain ⟨y, hy⟩ := Int.eq_ofNat_of_zero_le o1
      simp only [Int.toNat_natCast, hy] at hst
      generalize nameB true ((s.arcs.take k).map (reOf of)) = N at hst hlb ⊢
      have hd1 := decI_20 (u := z) (by omega)
      have c3 := pAppI (b := N ++ [32]) (z := z) (by omega) (by simp only [List.length_append, List.length_cons, List.length_nil]; omega)
      have c4 := pAppI (b := N ++ [32] ++ decI z ++ [58]) (z := y) (by omega) (by simp only [List.length_append, List.length_cons, List.length_nil]; omega)
      simp only [List.length_append, List.length_cons, List.length_nil, Nat.zero_add] at c3 c4
      have c0_ := c3; have c1_ := c4; refine goX (And.intro @hz (And.intro @ht (And.intro @hy @Int.toNat_natCast))) ?_; try exact trivial
      refine ⟨k + 1, by omega, ?_, ?_, by omega⟩
      · simp (disch := omega) only [go_sem, keepL, Int.natCast_add, Int.cast_ofNat_Int, hst, List.length_append, List.length_cons, List.length_nil]
      · simp (disch := omega) only [go_sem, keepL, hst]
    · have hke : k = s.arcs.length := by omega
      subst hke
      rw [List.take_length]
      have hb1 := bytesD_bys (l := nameB true (s.arcs.map (reOf of))) (nameB_b _ _)
      have hb2 : keyN (keyS of s) = bytesOf (nameB true (s.arcs.map (reOf of))) := by unfold keyN keyS nameS; rw [hf]
      rw [hb2]
      rw [List.take_length] at hlb
      unfold bytesOf
      generalize nameB true (s.arcs.map (reOf of)) = N at hb1 hlb ⊢
      obtain ⟨b, l, hbl⟩ : ∃ b l, (N.map fun z => UInt8.ofNat z.toNat) = b :: l := by
        cases N with
        | nil => simp at hlb
        | cons x t => exact ⟨_, _, rfl⟩
      rw [hbl] at hb1 ⊢
      refine goX @hb1 ?_; try exact trivial
end Go.Eng.Tryz

/- The least automaton, part 1: a state's name; the beginnings. (and what stands behind it: texts laid together) -/
import Derived.Test.YtabfoaoeghikoaaDoorMG4
import Derived.Test.YtabfoaoeghikoaaDoorMR6
import Derived.Test.YtabfoaoeghikoaaDoorMR8
import Derived.Test.YtabfoaoeghikoaaDoorMR4

set_option linter.unusedVariables false
set_option linter.unusedSimpArgs false
namespace Go.Eng.Tryd
open Go Go.Eng Go.Proofs Go.RowKit
attribute [local go_sem] tys
attribute [local go_sem] is_len is_get iss_len iss_get iss_snoc bys_len bys_snoc bys_app ars_len ars_get stas_len stas_get
/-! ### A state's name -/
/-- An arc, told: its sign, and its class. -/
def arcB (z t : Int) : List Int := [32] ++ decI z.toNat ++ [58] ++ decI t.toNat
/-- Where its arcs lead, by classes. -/
def arcsB (arcs : List Ar) : List Int := arcs.flatMap fun a => arcB a.sign a.to
theorem arcsB_cons (a : Ar) (l : List Ar) : arcsB (a :: l) = 32 :: (decI a.sign.toNat ++ 58 :: (decI a.to.toNat ++ arcsB l)) := by simp [arcsB, arcB]
def nameB (fin : Bool) (arcs : List Ar) : List Int := decI (if fin then 1 else 0) ++ arcsB arcs
def reOf (of : List Int) (a : Ar) : Ar := ⟨a.sign, of[a.to.toNat]!⟩
/-- A state, its arcs led to classes. -/
def keyS (of : List Int) (s : Sta) : Sta := ⟨s.final, s.arcs.map (reOf of)⟩
def nameS (s : Sta) : List Int := nameB s.final s.arcs
def bytesOf (l : List Int) : ByteArray := ⟨(l.map fun z => UInt8.ofNat z.toNat).toArray⟩
theorem arcB_len (z t : Nat) (hz : z < 18446744073709551616) (ht : t < 18446744073709551616) : (arcB z t).length ≤ 42 := by
  have := decI_20 hz
  have := decI_20 ht
  simp only [arcB, List.length_append, List.length_cons, List.length_nil, Int.toNat_natCast]
  omega
theorem bytesD_bys : ∀ {l : List Int}, (∀ z ∈ l, 0 ≤ z ∧ z < 256) → bytesD (bys l) = some (l.map fun z => UInt8.ofNat z.toNat)
  | [], _ => rfl
  | z :: l, h => by
    have h1 := h z (by simp)
    have ih := bytesD_bys (l := l) fun z hz => h z (by simp [hz])
    simp only [bys] at ih
    simp only [bys, List.map_cons, bytesD]
    simp only [true_and]
    rw [if_pos h1, ih]
theorem decI_b (u : Nat) : ∀ z ∈ decI u, 0 ≤ z ∧ z < 256 := fun z hz => by
  obtain ⟨b, _, rfl⟩ := List.mem_map.1 hz
  have := b.toNat_lt
  omega
theorem nameB_b (fin : Bool) (arcs : List Ar) : ∀ z ∈ nameB fin arcs, 0 ≤ z ∧ z < 256 := fun z hz => by
  simp only [nameB, arcsB, List.mem_append, List.mem_flatMap, arcB, List.mem_cons, List.not_mem_nil, or_false] at hz
  rcases hz with h | ⟨a, _, ((h | h) | h) | h⟩
  · exact decI_b _ _ h
  · omega
  · exact decI_b _ _ h
  · omega
  · exact decI_b _ _ h
theorem nameB_snoc (fin : Bool) (arcs : List Ar) (a : Ar) : nameB fin (arcs ++ [a]) = nameB fin arcs ++ arcB a.sign a.to := by simp [nameB, arcsB]
theorem nameB_len (fin : Bool) (arcs : List Ar) (h : ∀ a ∈ arcs, a.sign < 18446744073709551616 ∧ a.to < 18446744073709551616) : 1 ≤ (nameB fin arcs).length ∧ (nameB fin arcs).length ≤ 20 + 42 * arcs.length := by
  induction arcs with
  | nil => simp only [nameB, arcsB, List.flatMap_nil, List.append_nil, List.length_nil]; have := decI_20 (u := if fin then 1 else 0) (by split <;> omega); omega
  | cons a l ih =>
    have h1 := ih fun a ha => h a (by simp [ha])
    have h2 := h a (by simp)
    have h3 := arcB_len a.sign.toNat a.to.toNat (by omega) (by omega)
    simp only [nameB, arcsB, List.flatMap_cons, List.length_append, List.length_cons, arcB, Int.toNat_natCast] at h1 h3 ⊢
    omega
/-- What a class of states is told by: two states' names are one just if they are alike. -/
theorem dec_char (u : Nat) : ∀ z ∈ decI u, 48 ≤ z ∧ z ≤ 57 := by
  induction u using Nat.strongRecOn with
  | _ u ih =>
    intro z hz
    unfold decI Lib.decDigits at hz
    split at hz
    · simp at hz
      subst hz
      have : (UInt8.ofNat (48 + u)).toNat = 48 + u := by simp; omega
      simp at this ⊢
      omega
    · rw [List.map_append, List.mem_append] at hz
      rcases hz with h | h
      · exact ih (u / 10) (by omega) z h
      · simp at h
        subst h
        have : (UInt8.ofNat (48 + u % 10)).toNat = 48 + u % 10 := by simp; omega
        simp at this ⊢
        omega
theorem dec_val : ∀ u : Nat, (decI u).foldl (fun s z => s * 10 + (z - 48)) 0 = (u : Int) := by
  intro u
  induction u using Nat.strongRecOn with
  | _ u ih =>
    unfold decI Lib.decDigits
    split
    · have : (UInt8.ofNat (48 + u)).toNat = 48 + u := by simp; omega
      simp only [List.map_cons, List.map_nil, List.foldl_cons, List.foldl_nil, this]
      omega
    · have h1 := ih (u / 10) (by omega)
      unfold decI at h1
      have : (UInt8.ofNat (48 + u % 10)).toNat = 48 + u % 10 := by simp; omega
      simp only [List.map_append, List.foldl_append, h1, List.map_cons, List.map_nil, List.foldl_cons, List.foldl_nil, this]
      omega
theorem decI_inj {u v : Nat} (h : decI u = decI v) : u = v := by
  have h1 := dec_val u
  have h2 := dec_val v
  rw [h] at h1
  omega
/-- Digits, up to a sign that is none. -/
theorem dec_cut {c : Int} (hc : c < 48 ∨ 57 < c) : ∀ {a b x y : List Int}, (∀ z ∈ a, 48 ≤ z ∧ z ≤ 57) → (∀ z ∈ b, 48 ≤ z ∧ z ≤ 57) → a ++ c :: x = b ++ c :: y → a = b ∧ x = y
  | [], [], x, y, _, _, h => by simpa using h
  | [], b :: bs, x, y, _, hb, h => by
    simp only [List.nil_append, List.cons_append, List.cons.injEq] at h
    have := hb b (by simp)
    omega
  | a :: az, [], x, y, ha, _, h => by
    simp only [List.nil_append, List.cons_append, List.cons.injEq] at h
    have := ha a (by simp)
    omega
  | a :: az, b :: bs, x, y, ha, hb, h => by
    simp only [List.cons_append, List.cons.injEq] at h
    obtain ⟨h1, h2⟩ := dec_cut hc (fun z hz => ha z (by simp [hz])) (fun z hz => hb z (by simp [hz])) h.2
    exact ⟨by rw [h.1, h1], h2⟩
theorem arcsB_tail (k : List Ar) : arcsB k = [] ∨ ∃ t, arcsB k = 32 :: t := by
  cases k with
  | nil => exact .inl rfl
  | cons c k => exact .inr ⟨_, arcsB_cons c k⟩
theorem arcs_inj : ∀ {l m : List Ar}, (∀ a ∈ l, 0 ≤ a.sign ∧ 0 ≤ a.to) → (∀ a ∈ m, 0 ≤ a.sign ∧ 0 ≤ a.to) → arcsB l = arcsB m → l = m
  | [], [], _, _, _ => rfl
  | [], a :: m, _, _, h => by rw [arcsB_cons] at h; cases h
  | a :: l, [], _, _, h => by rw [arcsB_cons] at h; cases h
  | a :: l, b :: m, hl, hm, h => by
    have h1 := hl a (by simp)
    have h2 := hm b (by simp)
    rw [arcsB_cons, arcsB_cons] at h
    simp only [List.cons.injEq, true_and] at h
    obtain ⟨e1, h⟩ := dec_cut (c := 58) (by omega) (dec_char _) (dec_char _) h
    have es : a.sign = b.sign := by have := decI_inj e1; omega
    have key : decI a.to.toNat = decI b.to.toNat ∧ arcsB l = arcsB m := by
      rcases arcsB_tail l with t1 | ⟨t1, e1⟩ <;> rcases arcsB_tail m with t2 | ⟨t2, e2⟩
      · rw [t1, t2] at h ⊢
        simp only [List.append_nil] at h
        exact ⟨h, rfl⟩
      · exfalso
        rw [t1, e2, List.append_nil] at h
        have : (32 : Int) ∈ decI a.to.toNat := by rw [h]; simp
        have := dec_char _ _ this
        omega
      · exfalso
        rw [e1, t2, List.append_nil] at h
        have : (32 : Int) ∈ decI b.to.toNat := by rw [← h]; simp
        have := dec_char _ _ this
        omega
      · rw [e1, e2] at h ⊢
        obtain ⟨g1, g2⟩ := dec_cut (c := 32) (by omega) (dec_char _) (dec_char _) h
        exact ⟨g1, by rw [g2]⟩
    have et : a.to = b.to := by have := decI_inj key.1; omega
    rw [arcs_inj (fun c hc => hl c (by simp [hc])) (fun c hc => hm c (by simp [hc])) key.2]
    cases a; cases b
    simp only at es et
    rw [es, et]
theorem nameS_inj {s t : Sta} (hs : ∀ a ∈ s.arcs, 0 ≤ a.sign ∧ 0 ≤ a.to) (ht : ∀ a ∈ t.arcs, 0 ≤ a.sign ∧ 0 ≤ a.to) (h : nameS s = nameS t) : s = t := by
  obtain ⟨f, l⟩ := s
  obtain ⟨g, m⟩ := t
  have d0 : decI 0 = [48] := by unfold decI Lib.decDigits; rfl
  have d1 : decI 1 = [49] := by unfold decI Lib.decDigits; rfl
  simp only [nameS, nameB] at h
  cases f <;> cases g <;> simp only [if_true, if_false, Bool.false_eq_true, d0, d1, List.cons_append, List.nil_append, List.cons.injEq] at h
  · have := arcs_inj hs ht h.2
    simp only at this
    rw [this]
  · omega
  · omega
  · have := arcs_inj hs ht h.2
    simp only at this
    rw [this]
theorem nameB_nil (f : Bool) : nameB f [] = decI (if f then 1 else 0) := by simp [nameB, arcsB]
theorem bytesOf_inj {l m : List Int} (hl : ∀ z ∈ l, 0 ≤ z ∧ z < 256) (hm : ∀ z ∈ m, 0 ≤ z ∧ z < 256) (h : bytesOf l = bytesOf m) : l = m := by
  have h1 : (l.map fun z => UInt8.ofNat z.toNat) = m.map fun z => UInt8.ofNat z.toNat := by simpa [bytesOf] using h
  have back : ∀ {k : List Int}, (∀ z ∈ k, 0 ≤ z ∧ z < 256) → (k.map fun z => UInt8.ofNat z.toNat).map (fun b => (b.toNat : Int)) = k := fun {k} hk => by
    rw [List.map_map]
    refine (List.map_congr_left fun z hz => ?_).trans (List.map_id k)
    have := hk z hz
    have e : (UInt8.ofNat z.toNat).toNat = z.toNat := by simp; omega
    simp only [Function.comp, id, e]
    omega
  rw [← back hl, ← back hm, h1]
/-- A state's name, as text. -/
def keyN (s : Sta) : ByteArray := bytesOf (nameS s)
theorem keyN_inj {s t : Sta} (hs : ∀ a ∈ s.arcs, 0 ≤ a.sign ∧ 0 ≤ a.to) (ht : ∀ a ∈ t.arcs, 0 ≤ a.sign ∧ 0 ≤ a.to) (h : keyN s = keyN t) : s = t :=
  nameS_inj hs ht (bytesOf_inj (nameB_b _ _) (nameB_b _ _) h)
/-- The classes that are known: numbers that may be told. -/
def OfOk (of : List Int) : Prop := of.length ≤ 1000000 ∧ ∀ z ∈ of, 0 ≤ z ∧ z ≤ 1000000
theorem OfOk.get {of : List Int} (h : OfOk of) {k : Nat} (hk : k < of.length) : 0 ≤ of[k]! ∧ of[k]! ≤ 1000000 := by
  rw [getElem!_pos of k hk]; exact h.2 _ (List.getElem_mem hk)
set_option maxHeartbeats 8000000 in
set_option maxRecDepth 10000 in
/-- The name, within the merger (all its parts are there). -/
theorem pName {s : Sta} {of : List Int} {d0 d1 : D} {m sz3 : Nat} {kt2 et2 e3 : TypeId} {es2 : List (D × D)} {xs3 : List D} (hof : OfOk of) (hs : ∀ a ∈ s.arcs, 0 ≤ a.sign ∧ a.sign ≤ 1114111 ∧ 0 ≤ a.to ∧ a.to < of.length) (hal : s.arcs.length ≤ 10000) :
    SoundM Tryd.prog 37 [.ref 0 0, .d (sta s)] [(0, .var [.d d0, .d d1, .own 1 of.length, .map 2, .own 3 m]), (1, .row 3 1 (is of)), (2, .map kt2 et2 es2), (3, .row e3 sz3 xs3)] (.d (.str (keyN (keyS of s)))) [(0, .var [.d d0, .d d1, .own 1 of.length, .map 2, .own 3 m]), (1, .row 3 1 (is of)), (2, .map kt2 et2 es2), (3, .row e3 sz3 xs3)] 4 := by
  have c0 := pAppI0 (z := 0) (by omega)
  have c1 := pAppI0 (z := 1) (by omega)
  have hre : ∀ k, ∀ a ∈ (s.arcs.take k).map (reOf of), a.sign < 18446744073709551616 ∧ a.to < 18446744073709551616 := fun k a ha => by
    obtain ⟨x, hx, rfl⟩ := List.mem_map.1 ha
    obtain ⟨g1, g2, g3, g4⟩ := hs x (List.mem_of_mem_take hx)
    have := hof.get (k := x.to.toNat) (by omega)
    simp only [reOf]
    omega
  refine SoundM.run (N := 40) (ks := [0, 1, 2, 3]) Tryd.func37 rfl (by kernel_rfl) rfl rfl rfl (by first | exact argsA_0 | exact argsA_1 | exact argsA_2 | exact argsA_3 | exact argsA_4 | exact argsA_5 | exact argsA_6) fun X_ ν_ w_ => ?_
  cases hf : s.final
  · have c0_ := c0; refine goX @hf ?_; first | exact trivial | skip
    refine WP_loopk (fun k : Nat => k ≤ s.arcs.length) (fun k => [(0, .ref 0 0), (5, .own 1004 (nameB false ((s.arcs.take k).map (reOf of))).length), (13, .d (.sl 2 (ars s.arcs))), (14, .d (.int .i64 s.arcs.length)), (15, .d (.int .i64 k))]) (fun k => [(0, .var [.d d0, .d d1, .own 1 of.length, .map 2, .own 3 m]), (1, .row 3 1 (is of)), (2, .map kt2 et2 es2), (3, .row e3 sz3 xs3), (1004, .row 5 1 (bys (nameB false ((s.arcs.take k).map (reOf of)))))]) 20000 (fun k => s.arcs.length - k) [0, 5, 13, 14, 15] [0, 1, 2, 3, 1004] 0 (Nat.zero_le _) (by rw [List.take_zero, List.map_nil, nameB_nil]; rfl) (by rw [List.take_zero, List.map_nil, nameB_nil]; rfl) (Nat.le_of_ble_eq_true rfl) (fun _ _ => rfl) (fun _ _ => rfl) fun k hk => ?_
    have hlb := nameB_len false ((s.arcs.take k).map (reOf of)) (hre k)
    have hll : ((s.arcs.take k).map (reOf of)).length = k := by simp; omega
    rw [hll] at hlb
    by_cases hk3 : k < s.arcs.length
    · have hst : nameB false ((s.arcs.take (k + 1)).map (reOf of)) = nameB false ((s.arcs.take k).map (reOf of)) ++ [32] ++ decI (s.arcs[k]!).sign.toNat ++ [58] ++ decI (of[(s.arcs[k]!).to.toNat]!).toNat := by
        rw [atake_snoc hk3, List.map_append, List.map_cons, List.map_nil, nameB_snoc]
        simp only [arcB, reOf, List.append_assoc]
      obtain ⟨g1, g2, g3, g4⟩ := hs (s.arcs[k]!) (by rw [getElem!_pos s.arcs k hk3]; exact List.getElem_mem hk3)
      obtain ⟨z, hz⟩ := Int.eq_ofNat_of_zero_le g1
      obtain ⟨t, ht⟩ := Int.eq_ofNat_of_zero_le g3
      rw [hz, ht] at hst
      have htl : t < of.length := by omega
      obtain ⟨o1, o2⟩ := hof.get htl
      obtain ⟨y, hy⟩ := Int.eq_ofNat_of_zero_le o1
      simp only [Int.toNat_natCast, hy] at hst
      generalize nameB false ((s.arcs.take k).map (reOf of)) = N at hst hlb ⊢
      have hd1 := decI_20 (u := z) (by omega)
      have c3 := pAppI (b := N ++ [32]) (z := z) (by omega) (by simp only [List.length_append, List.length_cons, List.length_nil]; omega)
      have c4 := pAppI (b := N ++ [32] ++ decI z ++ [58]) (z := y) (by omega) (by simp only [List.length_append, List.length_cons, List.length_nil]; omega)
      simp only [List.length_append, List.length_cons, List.length_nil, Nat.zero_add] at c3 c4
      have c0_ := c3; have c1_ := c4; refine goX (And.intro @hz (And.intro @ht (And.intro @hy @Int.toNat_natCast))) ?_; first | exact trivial | skip
      refine ⟨k + 1, by omega, ?_, ?_, by omega⟩
      · simp (disch := omega) only [go_sem, keepL, Int.natCast_add, Int.cast_ofNat_Int, hst, List.length_append, List.length_cons, List.length_nil]
      · simp (disch := omega) only [go_sem, keepL, hst]
    · have hke : k = s.arcs.length := by omega
      subst hke
      rw [List.take_length]
      have hb1 := bytesD_bys (l := nameB false (s.arcs.map (reOf of))) (nameB_b _ _)
      have hb2 : keyN (keyS of s) = bytesOf (nameB false (s.arcs.map (reOf of))) := by unfold keyN keyS nameS; rw [hf]
      rw [hb2]
      rw [List.take_length] at hlb
      unfold bytesOf
      generalize nameB false (s.arcs.map (reOf of)) = N at hb1 hlb ⊢
      obtain ⟨b, l, hbl⟩ : ∃ b l, (N.map fun z => UInt8.ofNat z.toNat) = b :: l := by
        cases N with
        | nil => simp at hlb
        | cons x t => exact ⟨_, _, rfl⟩
      rw [hbl] at hb1 ⊢
      refine goX @hb1 ?_; first | exact trivial | skip

  · have c0_ := c0; have c1_ := c1; refine goX @hf ?_; first | exact trivial | skip
    refine WP_loopk (fun k : Nat => k ≤ s.arcs.length) (fun k => [(0, .ref 0 0), (5, .own 3004 (nameB true ((s.arcs.take k).map (reOf of))).length), (13, .d (.sl 2 (ars s.arcs))), (14, .d (.int .i64 s.arcs.length)), (15, .d (.int .i64 k))]) (fun k => [(0, .var [.d d0, .d d1, .own 1 of.length, .map 2, .own 3 m]), (1, .row 3 1 (is of)), (2, .map kt2 et2 es2), (3, .row e3 sz3 xs3), (3004, .row 5 1 (bys (nameB true ((s.arcs.take k).map (reOf of)))))]) 20000 (fun k => s.arcs.length - k) [0, 5, 13, 14, 15] [0, 1, 2, 3, 3004] 0 (Nat.zero_le _) (by rw [List.take_zero, List.map_nil, nameB_nil]; rfl) (by rw [List.take_zero, List.map_nil, nameB_nil]; rfl) (Nat.le_of_ble_eq_true rfl) (fun _ _ => rfl) (fun _ _ => rfl) fun k hk => ?_
    have hlb := nameB_len true ((s.arcs.take k).map (reOf of)) (hre k)
    have hll : ((s.arcs.take k).map (reOf of)).length = k := by simp; omega
    rw [hll] at hlb
    by_cases hk3 : k < s.arcs.length
    · have hst : nameB true ((s.arcs.take (k + 1)).map (reOf of)) = nameB true ((s.arcs.take k).map (reOf of)) ++ [32] ++ decI (s.arcs[k]!).sign.toNat ++ [58] ++ decI (of[(s.arcs[k]!).to.toNat]!).toNat := by
        rw [atake_snoc hk3, List.map_append, List.map_cons, List.map_nil, nameB_snoc]
        simp only [arcB, reOf, List.append_assoc]
      obtain ⟨g1, g2, g3, g4⟩ := hs (s.arcs[k]!) (by rw [getElem!_pos s.arcs k hk3]; exact List.getElem_mem hk3)
      obtain ⟨z, hz⟩ := Int.eq_ofNat_of_zero_le g1
      obtain ⟨t, ht⟩ := Int.eq_ofNat_of_zero_le g3
      rw [hz, ht] at hst
      have htl : t < of.length := by omega
      obtain ⟨o1, o2⟩ := hof.get htl
      obtain ⟨y, hy⟩ := Int.eq_ofNat_of_zero_le o1
      simp only [Int.toNat_natCast, hy] at hst
      generalize nameB true ((s.arcs.take k).map (reOf of)) = N at hst hlb ⊢
      have hd1 := decI_20 (u := z) (by omega)
      have c3 := pAppI (b := N ++ [32]) (z := z) (by omega) (by simp only [List.length_append, List.length_cons, List.length_nil]; omega)
      have c4 := pAppI (b := N ++ [32] ++ decI z ++ [58]) (z := y) (by omega) (by simp only [List.length_append, List.length_cons, List.length_nil]; omega)
      simp only [List.length_append, List.length_cons, List.length_nil, Nat.zero_add] at c3 c4
      have c0_ := c3; have c1_ := c4; refine goX (And.intro @hz (And.intro @ht (And.intro @hy @Int.toNat_natCast))) ?_; first | exact trivial | skip
      refine ⟨k + 1, by omega, ?_, ?_, by omega⟩
      · simp (disch := omega) only [go_sem, keepL, Int.natCast_add, Int.cast_ofNat_Int, hst, List.length_append, List.length_cons, List.length_nil]
      · simp (disch := omega) only [go_sem, keepL, hst]
    · have hke : k = s.arcs.length := by omega
      subst hke
      rw [List.take_length]
      have hb1 := bytesD_bys (l := nameB true (s.arcs.map (reOf of))) (nameB_b _ _)
      have hb2 : keyN (keyS of s) = bytesOf (nameB true (s.arcs.map (reOf of))) := by unfold keyN keyS nameS; rw [hf]
      rw [hb2]
      rw [List.take_length] at hlb
      unfold bytesOf
      generalize nameB true (s.arcs.map (reOf of)) = N at hb1 hlb ⊢
      obtain ⟨b, l, hbl⟩ : ∃ b l, (N.map fun z => UInt8.ofNat z.toNat) = b :: l := by
        cases N with
        | nil => simp at hlb
        | cons x t => exact ⟨_, _, rfl⟩
      rw [hbl] at hb1 ⊢
      refine goX @hb1 ?_; first | exact trivial | skip

end Go.Eng.Tryd
set_option linter.unusedVariables false
set_option linter.unusedSimpArgs false
namespace Go.Eng.Tryd
open Go Go.Eng Go.Proofs Go.RowKit
attribute [local go_sem] tys
attribute [local go_sem] is_len is_get ars_len ars_get stas_len stas_get
theorem ris_set {l : List Int} {i : Nat} {z : Int} : (is l).set i (.int .i64 z) = is (l.set i z) := by simp [is, List.map_set]
theorem ris_rep {n : Nat} {x : Int} : List.replicate n (D.int .i64 x) = is (List.replicate n x) := by simp [is]
attribute [local go_sem] ris_set ris_rep
/-! ### A step -/
def sgn (z : Int) (a : Ar) : Bool := decide (a.sign = z)
theorem pStep1 {a : Ar} {z : Int} : SoundM Tryd.prog 50 [.d (ar a), .ref 0 0] [(0, .var [.d (.int .i64 z)])] (.d (.bool (sgn z a))) [(0, .var [.d (.int .i64 z)])] 1 := by
  unfold ar
  by_cases h : a.sign = z
  · rw [show sgn z a = true from decide_eq_true h]
    refine SoundM.run (N := 8) (ks := [0]) Tryd.func50 rfl (by kernel_rfl) rfl rfl rfl (by first | exact argsA_0 | exact argsA_1 | exact argsA_2 | exact argsA_3 | exact argsA_4 | exact argsA_5 | exact argsA_6) fun X_ ν_ w_ => ?_
    refine goX @h ?_; first | exact trivial | skip
  · rw [show sgn z a = false from decide_eq_false h]
    refine SoundM.run (N := 8) (ks := [0]) Tryd.func50 rfl (by kernel_rfl) rfl rfl rfl (by first | exact argsA_0 | exact argsA_1 | exact argsA_2 | exact argsA_3 | exact argsA_4 | exact argsA_5 | exact argsA_6) fun X_ ν_ w_ => ?_
    refine goX @h ?_; first | exact trivial | skip
set_option maxHeartbeats 4000000 in
set_option maxRecDepth 10000 in
theorem pIndexS {z : Int} {al : List Ar} (ha : al.length ≤ 9223372036854775807) : SoundM Tryd.prog 49 [.d (.sl 2 (ars al)), .fn 50 [.ref 0 0]]
    [(0, .var [.d (.int .i64 z)])] (.d (.int .i64 (fidx (sgn z) al))) [(0, .var [.d (.int .i64 z)])] 1 := by
  refine SoundM.run (N := 19) (ks := [0]) Tryd.func49 rfl (by kernel_rfl) rfl rfl rfl (by first | exact argsA_0 | exact argsA_1 | exact argsA_2 | exact argsA_3 | exact argsA_4 | exact argsA_5 | exact argsA_6) fun X_ ν_ w_ => ?_
  refine goT ?_; first | exact trivial | skip
  refine WP_loopk (fun k : Nat => k ≤ al.length ∧ (al.take k).any (sgn z) = false) (fun k => [(0, .d (.sl 2 (ars al))), (1, .fn 50 [.ref 0 0]), (7, .d (.int .i64 al.length)), (8, .d (.int .i64 k))]) (fun k => [(0, .var [.d (.int .i64 z)])]) 1 (fun k => al.length - k) [0, 1, 7, 8] [0] 0 ⟨Nat.zero_le _, rfl⟩ rfl rfl (Nat.le_of_ble_eq_true rfl) (fun _ _ => rfl) (fun _ _ => rfl) fun k hk => ?_
  obtain ⟨hk1, hk2⟩ := hk
  by_cases hk3 : k < al.length
  · have cw := pStep1 (a := al[k]!) (z := z)
    unfold ar at cw
    cases hb : sgn z (al[k]!)
    · rw [hb] at cw
      have hst := any_step (p := sgn z) hk3 hk2 hb
      have c0_ := cw; refine goT ?_; first | exact trivial | skip
      refine ⟨k + 1, ⟨by omega, hst⟩, ?_, ?_, by omega⟩
      · simp (disch := omega) only [go_sem, keepL, Int.natCast_add, Int.cast_ofNat_Int]
      · simp (disch := omega) only [go_sem, keepL]
    · rw [hb] at cw
      have e := fidx_at (p := sgn z) hk3 hk2 hb
      rw [e]
      have c0_ := cw; refine goT ?_; first | exact trivial | skip
  · have hkl : k = al.length := by omega
    subst hkl
    rw [List.take_length] at hk2
    rw [fidx_none hk2]
    refine goT ?_; first | exact trivial | skip
/-- Where a sign leads. -/
def stepF (l : List Sta) (from_ z : Int) : Option Int :=
  if 0 ≤ from_ ∧ from_ < l.length then ((l[from_.toNat]!).arcs.find? (sgn z)).map (·.to) else none
def stepR : Option Int → D
  | some t => .tup [.int .i64 t, .bool true]
  | none => .tup [.int .i64 0, .bool false]
theorem fidx_find {α : Type} [Inhabited α] {p : α → Bool} {l : List α} (h : l.any p = true) : ∃ k : Nat, fidx p l = k ∧ k < l.length ∧ l.find? p = some (l[k]!) := by
  unfold fidx
  rw [if_pos h]
  obtain ⟨x, hx, hp⟩ := List.any_eq_true.1 h
  have hlt : l.findIdx p < l.length := List.findIdx_lt_length_of_exists ⟨x, hx, hp⟩
  refine ⟨_, rfl, hlt, ?_⟩
  rw [getElem!_pos l _ hlt, List.find?_eq_some_iff_getElem]
  exact ⟨List.findIdx_getElem (w := hlt), _, hlt, rfl, fun j hj => by simpa using List.not_of_lt_findIdx hj⟩
set_option maxHeartbeats 4000000 in
set_option maxRecDepth 10000 in
theorem pStep {l : List Sta} {f z : Int} (hl : StaOk l) : Sound Tryd.prog 30 [.sl 2 (stas l), .int .i64 f, .int .i64 z] (stepR (stepF l f z)) := by
  have hlen := hl.1
  by_cases h0 : f < 0
  · have e : stepF l f z = none := if_neg (by omega)
    rw [e]; unfold stepR
    refine Sound.run (N := 35) Tryd.func30 rfl (by kernel_rfl) rfl rfl rfl (by first | exact args0_0 | exact args0_1 | exact args0_2 | exact args0_3 | exact args0_4 | exact args0_5 | exact args0_6) fun X_ w_ => ?_
    refine goT ?_; first | exact trivial | skip
  by_cases h1 : (l.length : Int) ≤ f
  · have e : stepF l f z = none := if_neg (by omega)
    rw [e]; unfold stepR
    refine Sound.run (N := 35) Tryd.func30 rfl (by kernel_rfl) rfl rfl rfl (by first | exact args0_0 | exact args0_1 | exact args0_2 | exact args0_3 | exact args0_4 | exact args0_5 | exact args0_6) fun X_ w_ => ?_
    refine goT ?_; first | exact trivial | skip
  obtain ⟨k, rfl⟩ := Int.eq_ofNat_of_zero_le (by omega : 0 ≤ f)
  have hk : k < l.length := by omega
  have hak := hl.get hk
  have ci := pIndexS (z := z) (al := (l[k]!).arcs) hak
  have e : stepF l k z = ((l[k]!).arcs.find? (sgn z)).map (·.to) := by unfold stepF; rw [if_pos ⟨by omega, by omega⟩]; rfl
  rw [e]
  cases hany : (l[k]!).arcs.any (sgn z)
  · rw [fidx_none hany] at ci
    have e2 : (l[k]!).arcs.find? (sgn z) = none := by
      rw [List.find?_eq_none]
      intro x hx hp
      have := List.any_eq_true.2 ⟨x, hx, hp⟩
      rw [hany] at this; cases this
    rw [e2]; unfold stepR
    simp only [Option.map_none]
    refine Sound.run (N := 35) Tryd.func30 rfl (by kernel_rfl) rfl rfl rfl (by first | exact args0_0 | exact args0_1 | exact args0_2 | exact args0_3 | exact args0_4 | exact args0_5 | exact args0_6) fun X_ w_ => ?_
    have c0_ := ci; refine goT ?_; first | exact trivial | skip
  · obtain ⟨j, e1, hj, e2⟩ := fidx_find hany
    rw [e1] at ci
    rw [e2]; unfold stepR
    simp only [Option.map_some]
    refine Sound.run (N := 35) Tryd.func30 rfl (by kernel_rfl) rfl rfl rfl (by first | exact args0_0 | exact args0_1 | exact args0_2 | exact args0_3 | exact args0_4 | exact args0_5 | exact args0_6) fun X_ w_ => ?_
    have c0_ := ci; refine goT ?_; first | exact trivial | skip
/-! ### What is told of each state -/
def Out (out : List Int) : Heap := [(0, .var [.own 1 out.length]), (1, .row 3 1 (is out))]
def arcsIn (s : Sta) (n : Nat) : Prop := ∀ a ∈ s.arcs, 0 ≤ a.to ∧ a.to < n
theorem arcsIn.get {s : Sta} {n : Nat} (h : arcsIn s n) {k : Nat} (hk : k < s.arcs.length) : 0 ≤ (s.arcs[k]!).to ∧ (s.arcs[k]!).to < n := by
  rw [getElem!_pos s.arcs k hk]; exact h _ (List.getElem_mem hk)
def many1 (out : List Int) (m : Int) (a : Ar) : Int := min 301 (m + out[a.to.toNat]!)
def manyF (s : Sta) (out : List Int) : Int := s.arcs.foldl (many1 out) (if s.final = true then 1 else 0)
theorem many1_in {out : List Int} (ho : ∀ z ∈ out, 0 ≤ z ∧ z ≤ 301) {m : Int} (hm : 0 ≤ m ∧ m ≤ 301) (a : Ar) : 0 ≤ many1 out m a ∧ many1 out m a ≤ 301 := by
  unfold many1
  have : 0 ≤ out[a.to.toNat]! := by
    by_cases h : a.to.toNat < out.length
    · rw [getElem!_pos out _ h]; exact (ho _ (List.getElem_mem h)).1
    · rw [List.getElem!_eq_getElem?_getD, List.getElem?_eq_none (by omega)]; decide
  omega
theorem many_fold {out : List Int} (ho : ∀ z ∈ out, 0 ≤ z ∧ z ≤ 301) : ∀ (l : List Ar) (m : Int), (0 ≤ m ∧ m ≤ 301) → 0 ≤ l.foldl (many1 out) m ∧ l.foldl (many1 out) m ≤ 301
  | [], m, h => h
  | a :: l, m, h => many_fold ho l _ (many1_in ho h a)
theorem foldl_take {α β : Type} [Inhabited α] (f : β → α → β) (b : β) {l : List α} {k : Nat} (h : k < l.length) : (l.take (k + 1)).foldl f b = f ((l.take k).foldl f b) (l[k]!) := by
  rw [atake_snoc h, List.foldl_append]; rfl
end Go.Eng.Tryd
set_option linter.unusedVariables false
set_option linter.unusedSimpArgs false
namespace Go.Eng.Tryd
open Go Go.Eng Go.Proofs Go.RowKit
/-- Where signs lead. -/
def leadF (l : List Sta) : Int → List Int → Option Int
  | at_, [] => some at_
  | at_, z :: w => match stepF l at_ z with | some t => leadF l t w | none => none
def leadG (l : List Sta) (at_ : Int) (w : List Int) : Option Int := if 0 ≤ at_ ∧ at_ < l.length then leadF l at_ w else none
theorem arcsOk_mem {i n : Int} : ∀ {l : List Ar} {last : Int}, arcsOk i n last l = true → ∀ a ∈ l, i < a.to ∧ a.to < n ∧ gsign a.sign = true ∧ last < a.sign
  | [], _, _, a, h => by cases h
  | b :: l, last, h, a, ha => by
    simp only [arcsOk, Bool.and_eq_true] at h
    have hb := h.1
    simp only [arcOk, Bool.and_eq_true, decide_eq_true_eq] at hb
    rcases List.mem_cons.1 ha with e | e
    · subst e; exact ⟨hb.1.2, hb.2, hb.1.1.2, hb.1.1.1⟩
    · obtain ⟨h1, h2, h3, h4⟩ := arcsOk_mem h.2 a e
      exact ⟨h1, h2, h3, by omega⟩
theorem achk_iff {l : List Sta} : achk l = true ↔ statesOk l l.length = true ∧ 0 < l.length ∧ l.length ≤ 6001 := by
  unfold achk; simp [Bool.and_eq_true, decide_eq_true_eq]
theorem achk_arc {l : List Sta} (h : achk l = true) {k : Nat} (hk : k < l.length) : ∀ a ∈ (l[k]!).arcs, (k : Int) < a.to ∧ a.to < l.length ∧ gsign a.sign = true := fun a ha => by
  have := arcsOk_mem (statesOk_le (achk_iff.1 h).1 hk) a ha
  exact ⟨this.1, this.2.1, this.2.2.1⟩
theorem stepF_in {l : List Sta} (h : achk l = true) {f z t : Int} (hs : stepF l f z = some t) : 0 ≤ f ∧ f < l.length ∧ f < t ∧ t < l.length := by
  unfold stepF at hs
  split at hs
  · rename_i hf
    obtain ⟨a, ha, rfl⟩ := Option.map_eq_some_iff.1 hs
    have hm := List.mem_of_find?_eq_some ha
    obtain ⟨k, rfl⟩ := Int.eq_ofNat_of_zero_le hf.1
    have := achk_arc h (k := k) (by omega) a hm
    exact ⟨hf.1, hf.2, by simpa using this.1, this.2.1⟩
  · cases hs
theorem leadF_in {l : List Sta} (h : achk l = true) : ∀ {w : List Int} {f t : Int}, 0 ≤ f → f < l.length → leadF l f w = some t → f ≤ t ∧ t < l.length ∧ (w ≠ [] → f < t)
  | [], f, t, h0, h1, hs => by simp only [leadF, Option.some.injEq] at hs; subst hs; exact ⟨Int.le_refl _, h1, fun h => absurd rfl h⟩
  | z :: w, f, t, h0, h1, hs => by
    simp only [leadF] at hs
    split at hs
    · rename_i u hu
      obtain ⟨_, _, h2, h3⟩ := stepF_in h hu
      obtain ⟨h4, h5, _⟩ := leadF_in h (by omega) h3 hs
      exact ⟨by omega, h5, fun _ => by omega⟩
    · cases hs
theorem leadF_app (l : List Sta) : ∀ (a b : List Int) (f : Int), leadF l f (a ++ b) = match leadF l f a with | some t => leadF l t b | none => none
  | [], b, f => rfl
  | z :: a, b, f => by
    simp only [List.cons_append, leadF]
    cases stepF l f z with
    | none => rfl
    | some t => exact leadF_app l a b t
theorem leadF_take {l : List Sta} {f : Int} {w : List Int} {k : Nat} (h : k < w.length) : leadF l f (w.take (k + 1)) = match leadF l f (w.take k) with | some t => stepF l t (w[k]!) | none => none := by
  rw [atake_snoc h, leadF_app]
  cases leadF l f (w.take k) with
  | none => rfl
  | some t => simp only [leadF]; cases stepF l t (w[k]!) <;> rfl
theorem leadF_none {l : List Sta} {f : Int} {w : List Int} {k : Nat} (h : leadF l f (w.take k) = none) : leadF l f w = none := by
  have := leadF_app l (w.take k) (w.drop k) f
  rw [List.take_append_drop, h] at this
  exact this
end Go.Eng.Tryd
set_option linter.unusedVariables false
set_option linter.unusedSimpArgs false
namespace Go.Eng.Tryd
open Go Go.Eng Go.Proofs Go.RowKit
attribute [local go_sem] evFold rnE ksE roundE frz frzs List.set_cons_zero List.set_cons_succ List.zip_cons_cons List.zip_nil_right List.foldl_cons List.foldl_nil D.flat rns AV.rn HO.rn AV.ks kss HO.ks sg dedup objKs reach passE fresh List.filter fnOf evOp opnd lk v2d v2ds just evBin intBin nilBin isNil strBin evUn evLoad ldD ldA evStore evField evIndex evBuild fillA evBuildSlice evBuildSliceX evBuildSliceT isOwn1 evAppendTX evAppendTT evAppend evAppendClip elems evMake evSlice evSliceO evSliceX evSliceY evViewV evStoreX evStoreT stT stI evCopyT evAppendT evAppendTD ldT ldI Tb.inn Tb.ilen Tb.nilAt Tb.ini D.put evCut evView evCopy evAppendV evAgg evMakeMap evLookup evMapUpd evRange evEntry cellsD AV.kb splice List.getLast?_append resM resAs resA resD keepL List.replicate_zero List.take_length ofInt evLen evMin evMax evConv evNil evExtract evBuiltin toD toDs allD pack splice D.comps AV.comps AV.sto D.cell D.rebuild inOrder allFlat del put setE eff gd gslot kills Option.map_some Option.map_none Option.bind_some Option.isSome_some List.map_cons List.map_nil List.append_nil List.nil_append List.cons_append List.length_cons List.length_nil List.length_map List.length_append List.take_zero List.take_succ_cons List.take_nil List.drop_zero List.drop_succ_cons List.drop_nil List.getElem?_cons_zero List.getElem?_cons_succ List.getElem?_map List.all_cons List.all_nil List.mem_cons List.not_mem_nil List.elem_cons List.elem_nil Bool.and_true Bool.true_and Bool.and_self Bool.not_true Bool.not_false Bool.or_true Bool.or_false and_self and_true true_and or_false false_or or_true true_or not_false_eq_true not_true_eq_false if_true if_false decide_true decide_false decide_eq_true_eq Int.toNat_natCast Int.toNat_zero beq_self_eq_true bne_self_eq_false Bool.false_eq_true Nat.add_zero Nat.zero_add tys room le_i lt_i eq_n le_n lt_n len0 gdE bb_tf bb_ft mapP arrL if_min tdiv_nn tmod_nn us_len us_get wrap_i64 wrap_u64 dec_lt dec_nlt dec_le dec_nle beq_t beq_f bne_t bne_f get_lt gt_iff_lt ge_iff_le
attribute [local go_sem ↓] map_P reduceIte
attribute [local go_sem] reduceCtorEq Nat.reduceEqDiff Nat.reduceAdd Nat.reduceSub Nat.reduceMul Nat.reduceLeDiff Nat.reduceLT Nat.reduceBEq Nat.reduceBNe Int.reduceToNat Int.reduceLT Int.reduceLE Int.reduceEq Int.reduceAdd Int.reduceSub Int.reduceNeg Int.reduceBEq Int.reduceBNe
attribute [local go_sem] is_len is_get ars_len ars_get stas_len stas_get
theorem getB_setZ {l : List Int} {i j : Nat} {v : Int} (h : i < l.length) : (l.set i v)[j]! = if j = i then v else l[j]! := by
  by_cases e : j = i
  · subst e; rw [if_pos rfl, getElem!_pos _ _ (by simpa using h)]; simp
  · rw [if_neg e, List.getElem!_eq_getElem?_getD, List.getElem!_eq_getElem?_getD, List.getElem?_set_ne (Ne.symm e)]
theorem is_setZ {l : List Int} {i : Nat} {z : Int} : (is l).set i (.int .i64 z) = is (l.set i z) := by simp [is, List.map_set]
theorem is_repZ {n : Nat} {x : Int} : List.replicate n (D.int .i64 x) = is (List.replicate n x) := by simp [is]
attribute [local go_sem] is_setZ is_repZ
/-- What is told of the last j states. -/
def toldI (f : Sta → List Int → Int) (l : List Sta) (j : Nat) : List Int := (List.range j).foldl (fun out j => out.set (l.length - 1 - j) (f (l[l.length - 1 - j]!) out)) (List.replicate l.length 0)
theorem toldI_step (f : Sta → List Int → Int) (l : List Sta) (j : Nat) : toldI f l (j + 1) = (toldI f l j).set (l.length - 1 - j) (f (l[l.length - 1 - j]!) (toldI f l j)) := by simp [toldI, List.range_succ]
theorem toldI_len (f : Sta → List Int → Int) (l : List Sta) : ∀ j, (toldI f l j).length = l.length
  | 0 => by simp [toldI]
  | j + 1 => by rw [toldI_step, List.length_set]; exact toldI_len f l j
theorem mem_setZ {l : List Int} {i : Nat} {v z : Int} (h : z ∈ l.set i v) : z = v ∨ z ∈ l := (List.mem_or_eq_of_mem_set h).symm
theorem toldI_inv {f : Sta → List Int → Int} {l : List Sta} {inv : Nat → Int → Prop} (h0 : inv 0 0) (hm : ∀ j z, inv j z → inv (j + 1) z) (hf : ∀ j out, (∀ z ∈ out, inv j z) → inv (j + 1) (f (l[l.length - 1 - j]!) out)) : ∀ j, ∀ z ∈ toldI f l j, inv j z
  | 0, z, hz => by
    simp only [toldI, List.range_zero, List.foldl_nil] at hz
    rw [List.eq_of_mem_replicate hz]; exact h0
  | j + 1, z, hz => by
    rw [toldI_step] at hz
    have ih := toldI_inv h0 hm hf j
    rcases mem_setZ hz with rfl | h
    · exact hf j _ ih
    · exact hm j z (ih z h)
theorem toldI_get0 (f : Sta → List Int → Int) (l : List Sta) : ∀ j a, a + j < l.length → (toldI f l j)[a]! = 0
  | 0, a, h => by
    simp only [toldI, List.range_zero, List.foldl_nil]
    rw [getElem!_pos _ a (by simp; omega)]
    simp
  | j + 1, a, h => by
    rw [toldI_step, getB_setZ (by rw [toldI_len]; omega), if_neg (by omega)]
    exact toldI_get0 f l j a (by omega)
theorem toldI_fix {f : Sta → List Int → Int} {l : List Sta} (hka : achk l = true) (hc : ∀ s out out', (∀ a ∈ s.arcs, out[a.to.toNat]! = out'[a.to.toNat]!) → f s out = f s out') : ∀ j, j ≤ l.length → ∀ k, l.length ≤ k + j → k < l.length → (toldI f l j)[k]! = f (l[k]!) (toldI f l j)
  | 0, _, k, h1, h2 => by omega
  | j + 1, hj, k, h1, h2 => by
    have hl := toldI_len f l j
    have ih := toldI_fix hka hc j (by omega)
    have hc2 : f (l[k]!) (toldI f l (j + 1)) = f (l[k]!) (toldI f l j) := hc _ _ _ fun a ha => by
      have := achk_arc hka h2 a ha
      rw [toldI_step, getB_setZ (by omega), if_neg (by omega)]
    rw [hc2, toldI_step, getB_setZ (by omega)]
    split
    · rename_i e; rw [e]
    · exact ih k (by omega) h2
theorem foldl_congrA {α β : Type} {f g : β → α → β} : ∀ {l : List α} {b : β}, (∀ a ∈ l, ∀ b, f b a = g b a) → l.foldl f b = l.foldl g b
  | [], b, h => rfl
  | a :: l, b, h => by
    simp only [List.foldl_cons]
    rw [h a (by simp)]
    exact foldl_congrA fun x hx => h x (by simp [hx])
theorem manyF_congr (s : Sta) (out out' : List Int) (h : ∀ a ∈ s.arcs, out[a.to.toNat]! = out'[a.to.toNat]!) : manyF s out = manyF s out' := foldl_congrA fun a ha b => by unfold many1; rw [h a ha]
def deep1 (out : List Int) (m : Int) (a : Ar) : Int := if 0 ≤ out[a.to.toNat]! then max m (out[a.to.toNat]! + 1) else m
def deepF (s : Sta) (out : List Int) : Int := s.arcs.foldl (deep1 out) (if s.final = true then 0 else -1)
theorem deepF_congr (s : Sta) (out out' : List Int) (h : ∀ a ∈ s.arcs, out[a.to.toNat]! = out'[a.to.toNat]!) : deepF s out = deepF s out' := foldl_congrA fun a ha b => by unfold deep1; rw [h a ha]
theorem get_in {out : List Int} {P : Int → Prop} (h : ∀ z ∈ out, P z) (h0 : P 0) (t : Nat) : P (out[t]!) := by
  by_cases ht : t < out.length
  · rw [getElem!_pos out t ht]; exact h _ (List.getElem_mem ht)
  · rw [List.getElem!_eq_getElem?_getD, List.getElem?_eq_none (by omega)]; exact h0
theorem deep_fold {out : List Int} {n : Nat} (ho : ∀ z ∈ out, -1 ≤ z ∧ z ≤ n) : ∀ (l : List Ar) (m : Int), (-1 ≤ m ∧ m ≤ n + 1) → -1 ≤ l.foldl (deep1 out) m ∧ l.foldl (deep1 out) m ≤ n + 1
  | [], m, h => h
  | a :: l, m, h => deep_fold ho l _ (by
    have := get_in (P := fun z => -1 ≤ z ∧ z ≤ (n : Int)) ho (by omega) a.to.toNat
    unfold deep1
    split <;> omega)
end Go.Eng.Tryd

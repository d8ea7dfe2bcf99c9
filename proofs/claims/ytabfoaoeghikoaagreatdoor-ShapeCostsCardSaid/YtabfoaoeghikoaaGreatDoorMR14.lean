/- The least automaton, part 4: it is made. (and what stands behind it: texts laid together) -/
import Derived.Test.YtabfoaoeghikoaaGreatDoorMG4
import Derived.Test.YtabfoaoeghikoaaGreatDoorMR13
import Derived.Test.YtabfoaoeghikoaaGreatDoorMH1
set_option maxHeartbeats 32000000
set_option maxRecDepth 100000
set_option linter.unusedVariables false
set_option linter.unusedSimpArgs false
namespace Go.Eng.Tryz
open Go Go.Eng Go.Proofs Go.RowKit
attribute [local go_sem] is_len is_get iss_len iss_get iss_snoc ars_len ars_get stas_len stas_get cls_len cls_get cls_snoc cls_set
def mrun (l : List Sta) (B : List (List Int)) (j : Nat) : MS := (List.range j).foldl (fun s j => mstep l B s (l.length - 1 - j)) ⟨List.replicate l.length 0, [], []⟩
theorem mrun_step (l : List Sta) (B : List (List Int)) (j : Nat) : mrun l B (j + 1) = mstep l B (mrun l B j) (l.length - 1 - j) := by simp [mrun, List.range_succ]
theorem mset {l : List Int} {i : Nat} {x z : Int} (h : z ∈ l.set i x) : z = x ∨ z ∈ l := (List.mem_or_eq_of_mem_set h).symm
theorem MOk.step {l : List Sta} {B : List (List Int)} {s : MS} {i : Nat} (hl1 : l.length ≤ 6001) (hi : i < l.length) (hB : B.length = l.length) (hBl : ∀ w ∈ B, w.length ≤ 6001) (hs : ∀ a ∈ (l[i]!).arcs, 0 ≤ a.sign ∧ a.sign ≤ 1114111 ∧ 0 ≤ a.to ∧ a.to < l.length) (hal : (l[i]!).arcs.length ≤ 10000) (hm : MOk l B s) (hfew : s.all.length < l.length) : MOk l B (mstep l B s i) := by
  obtain ⟨h1, h2, h3, h4, h5, h6, h7⟩ := hm
  have hkn : SOk (keyS s.of (l[i]!)) := by
    refine ⟨fun a ha => ?_, ?_⟩
    · obtain ⟨x, hx, rfl⟩ := List.mem_map.1 ha
      obtain ⟨g1, g2, g3, g4⟩ := hs x hx
      have := h2.get (k := x.to.toNat) (by omega)
      exact ⟨g1, this.1⟩
    · have hnl := nameB_len (keyS s.of (l[i]!)).final (keyS s.of (l[i]!)).arcs (fun a ha => by
        obtain ⟨x, hx, rfl⟩ := List.mem_map.1 ha
        obtain ⟨g1, g2, g3, g4⟩ := hs x hx
        have := h2.get (k := x.to.toNat) (by omega)
        simp only [reOf]; omega)
      have e1 : (keyN (keyS s.of (l[i]!))).size = (nameS (keyS s.of (l[i]!))).length := by simp [keyN, bytesOf, ByteArray.size]
      have e2 : (keyS s.of (l[i]!)).arcs.length = (l[i]!).arcs.length := by simp [keyS]
      rw [e1]
      simp only [maxLen]
      unfold nameS
      omega
  have hBi : (B[i]!).length ≤ 6001 := by rw [getElem!_pos B i (by omega)]; exact hBl _ (List.getElem_mem _)
  unfold mstep
  cases hg : nget s.names (keyS s.of (l[i]!)) with
  | none =>
    have hnot : ∀ p ∈ s.names, p.1 ≠ keyS s.of (l[i]!) := fun p hp e => by
      have : ∀ {m : List (Sta × Int)}, p ∈ m → nget m p.1 ≠ none := fun {m} hp => by
        induction m with
        | nil => cases hp
        | cons x t ih =>
          simp only [nget]
          split
          · simp
          · rename_i hx
            rcases List.mem_cons.1 hp with h | h
            · exact absurd (by rw [h]) hx
            · exact ih h
      exact this hp (by rw [e]; exact hg)
    refine ⟨by simp [h1], ⟨by simp only [List.length_set]; exact h2.1, fun z hz => ?_⟩, by simp; omega, fun p hp => ?_, ?_, fun p hp => ?_, fun c hc => ?_⟩
    · rcases mset hz with h | h
      · subst h; omega
      · exact h2.2 z h
    · rcases List.mem_append.1 hp with h | h
      · exact h4 p h
      · simp only [List.mem_singleton] at h; subst h; exact hkn
    · simp only [List.map_append, List.map_cons, List.map_nil]
      rw [List.nodup_append]
      refine ⟨h5, by simp, fun a ha b hb => ?_⟩
      simp only [List.mem_singleton] at hb
      obtain ⟨p, hp, rfl⟩ := List.mem_map.1 ha
      subst hb
      exact hnot p hp
    · simp only [List.length_append, List.length_cons, List.length_nil]
      rcases List.mem_append.1 hp with h | h
      · have := h6 p h; omega
      · simp only [List.mem_singleton] at h; subst h; simp only; omega
    · rcases List.mem_append.1 hc with h | h
      · exact h7 c h
      · simp only [List.mem_singleton] at h; subst h; simp only; omega
  | some c =>
    have hv := h6 _ (nget_mem hg)
    simp only at hv
    refine ⟨by simp [h1], ⟨by simp only [List.length_set]; exact h2.1, fun z hz => ?_⟩, by simp only [List.length_set]; exact h3, h4, h5, fun p hp => by simp only [List.length_set]; exact h6 p hp, fun q hq => ?_⟩
    · rcases mset hz with h | h
      · subst h; omega
      · exact h2.2 z h
    · rcases List.mem_or_eq_of_mem_set hq with h | h
      · exact h7 q h
      · have hc := h7 (s.all[c.toNat]!) (by rw [getElem!_pos s.all c.toNat (by omega)]; exact List.getElem_mem _)
        rw [h]
        simp only
        refine ⟨by split <;> omega, by omega, by omega⟩
theorem mstep_few (l : List Sta) (B : List (List Int)) (s : MS) (i : Nat) : (mstep l B s i).all.length ≤ s.all.length + 1 := by
  unfold mstep
  split <;> simp
structure DwH (l : List Sta) (B : List (List Int)) : Prop where
  l0 : 0 < l.length
  l1 : l.length ≤ 6001
  bl : B.length = l.length
  bs : ∀ w ∈ B, w.length ≤ 6001
  arcs : ∀ i, i < l.length → ∀ a ∈ (l[i]!).arcs, 0 ≤ a.sign ∧ a.sign ≤ 1114111 ∧ 0 ≤ a.to ∧ a.to < l.length
  few : ∀ i, i < l.length → (l[i]!).arcs.length ≤ 10000
theorem mrun_ok {l : List Sta} {B : List (List Int)} (h : DwH l B) : ∀ j, j ≤ l.length → MOk l B (mrun l B j) ∧ (mrun l B j).all.length ≤ j := by
  intro j
  induction j with
  | zero =>
    intro _
    refine ⟨⟨by simp [mrun], ⟨by simp [mrun]; have := h.l1; omega, fun z hz => ?_⟩, by simp [mrun], fun p hp => ?_, by simp [mrun], fun p hp => ?_, fun c hc => ?_⟩, by simp [mrun]⟩
    · have : z ∈ List.replicate l.length (0 : Int) := hz
      rw [List.eq_of_mem_replicate this]; omega
    · cases hp
    · cases hp
    · cases hc
  | succ j ih =>
    intro hj
    obtain ⟨h1, h2⟩ := ih (by omega)
    rw [mrun_step]
    exact ⟨h1.step h.l1 (by omega) h.bl h.bs (h.arcs _ (by omega)) (h.few _ (by omega)) (by omega), by have := mstep_few l B (mrun l B j) (l.length - 1 - j); omega⟩
theorem is_repl (n : Nat) : List.replicate n (D.int .i64 0) = is (List.replicate n 0) := by simp [is]
def idF (n k : Nat) : List Int := (List.range k).foldl (fun R i => R.set i (i : Int)) (List.replicate n 0)
theorem idF_step (n k : Nat) : idF n (k + 1) = (idF n k).set k (k : Int) := by simp [idF, List.range_succ]
theorem idF_len (n k : Nat) : (idF n k).length = n := by
  induction k with
  | zero => simp [idF]
  | succ k ih => rw [idF_step, List.length_set, ih]
theorem idF_ns (n : Nat) : is (idF n n) = ns (List.range n) := by
  have key : ∀ k, k ≤ n → idF n k = (List.range k).map (fun (i : Nat) => (i : Int)) ++ List.replicate (n - k) 0 := by
    intro k
    induction k with
    | zero => intro _; simp [idF]
    | succ k ih =>
      intro hk
      rw [idF_step, ih (by omega), List.set_append_right _ _ (by simp)]
      obtain ⟨m, hm⟩ : ∃ m, n - k = m + 1 := ⟨n - k - 1, by omega⟩
      have hm2 : n - (k + 1) = m := by omega
      rw [hm, hm2]
      simp [List.range_succ, List.replicate_succ]
  rw [key n (Nat.le_refl _), Nat.sub_self, ns_is]
  simp
def cins (all : List Cl) (a : Nat) : List Nat → List Nat
  | [] => [a]
  | b :: t => if ccmp all b a < 0 then b :: cins all a t else a :: b :: t
def csort (all : List Cl) : List Nat := (List.range all.length).foldr (cins all) []
theorem cins_perm (all : List Cl) (a : Nat) : ∀ l : List Nat, (cins all a l).Perm (a :: l)
  | [] => .refl _
  | b :: t => by
    unfold cins
    split
    · exact ((cins_perm all a t).cons b).trans (.swap a b t)
    · exact .refl _
theorem cins_ord (all : List Cl) (a : Nat) : ∀ l : List Nat, l.Pairwise (fun a b => ¬ CLt all b a) → (cins all a l).Pairwise (fun a b => ¬ CLt all b a)
  | [], _ => by simp [cins]
  | b :: t, h => by
    rw [List.pairwise_cons] at h
    unfold cins
    split
    · rename_i hc
      rw [ccmp_lt] at hc
      rw [List.pairwise_cons]
      refine ⟨fun y hy => ?_, cins_ord all a t h.2⟩
      rcases List.mem_cons.1 ((cins_perm all a t).mem_iff.1 hy) with e | e
      · subst e; exact fun k => CLt.irr _ _ (hc.trans k)
      · exact h.1 y e
    · rename_i hc
      rw [ccmp_lt] at hc
      rw [List.pairwise_cons, List.pairwise_cons]
      refine ⟨fun y hy => ?_, h⟩
      rcases List.mem_cons.1 hy with e | e
      · subst e; exact hc
      · exact CLt.ntrans (h.1 y e) hc
theorem csort_perm (all : List Cl) : (csort all).Perm (List.range all.length) := by
  unfold csort
  generalize List.range all.length = l
  induction l with
  | nil => exact .refl _
  | cons x t ih => exact (cins_perm all x _).trans (ih.cons x)
theorem csort_ord (all : List Cl) : (csort all).Pairwise (fun a b => ¬ CLt all b a) := by
  unfold csort
  generalize List.range all.length = l
  induction l with
  | nil => simp
  | cons x t ih => exact cins_ord all x _ ih
theorem csort_len (all : List Cl) : (csort all).length = all.length := by rw [(csort_perm all).length_eq, List.length_range]
theorem csort_lt (all : List Cl) {k : Nat} (h : k < all.length) : (csort all)[k]! < all.length := by
  rw [getElem!_pos _ k (by rw [csort_len]; exact h)]
  exact List.mem_range.1 ((csort_perm all).mem_iff.1 (List.getElem_mem _))
theorem ns_len {l : List Nat} : (ns l).length = l.length := by simp [ns]
theorem ns_get {l : List Nat} {k : Nat} (h : k < l.length) : (ns l)[k]? = some (.int .i64 ((l[k]! : Nat) : Int)) := by simp [ns, List.getElem?_eq_getElem h, getElem!_pos l k h]
def atF (all : List Cl) (k : Nat) : List Int := (List.range k).foldl (fun (R : List Int) (i : Nat) => R.set ((csort all)[i]!) (i : Int)) (List.replicate all.length 0)
theorem atF_step (all : List Cl) (k : Nat) : atF all (k + 1) = (atF all k).set ((csort all)[k]!) (k : Int) := by simp [atF, List.range_succ]
theorem atF_len (all : List Cl) (k : Nat) : (atF all k).length = all.length := by
  induction k with
  | zero => simp [atF]
  | succ k ih => rw [atF_step, List.length_set, ih]
theorem mstep_pos (l : List Sta) (B : List (List Int)) (s : MS) (i : Nat) (h : 0 < s.all.length ∨ s.names = []) : 0 < (mstep l B s i).all.length := by
  unfold mstep
  split
  · rename_i c hc
    rcases h with h | h
    · simpa using h
    · rw [h] at hc; cases hc
  · simp
theorem mrun_pos (l : List Sta) (B : List (List Int)) (j : Nat) : 0 < (mrun l B (j + 1)).all.length := by
  induction j with
  | zero => rw [mrun_step]; exact mstep_pos _ _ _ _ (.inr rfl)
  | succ j ih => rw [mrun_step]; exact mstep_pos _ _ _ _ (.inl ih)
def goA (S : MS) (a : Ar) : Ar := ⟨a.sign, (atF S.all S.all.length)[(S.of[a.to.toNat]!).toNat]!⟩
def outS (l : List Sta) (S : MS) (k : Nat) : Sta := ⟨(l[(S.all[(csort S.all)[k]!]!).is_.toNat]!).final, (l[(S.all[(csort S.all)[k]!]!).is_.toNat]!).arcs.map (goA S)⟩
def outF (l : List Sta) (S : MS) (k : Nat) : List Sta := (List.range k).map (outS l S)
def outP (l : List Sta) (S : MS) (k : Nat) : List Sta := outF l S k ++ List.replicate (S.all.length - k) ⟨false, []⟩
theorem outP_len {l : List Sta} {S : MS} {k : Nat} (h : k ≤ S.all.length) : (outP l S k).length = S.all.length := by simp [outP, outF]; omega
theorem outP_at {l : List Sta} {S : MS} {k : Nat} (h : k < S.all.length) : (outP l S k)[k]! = ⟨false, []⟩ := by
  have e : (outF l S k).length = k := by simp [outF]
  unfold outP
  rw [List.getElem!_eq_getElem?_getD, List.getElem?_append_right (by omega), e, Nat.sub_self, List.getElem?_replicate, if_pos (by omega)]
  rfl
theorem outP_step {l : List Sta} {S : MS} {k : Nat} (h : k < S.all.length) : (outP l S k).set k (outS l S k) = outP l S (k + 1) := by
  have e : (outF l S k).length = k := by simp [outF]
  obtain ⟨m, hm⟩ : ∃ m, S.all.length - k = m + 1 := ⟨S.all.length - k - 1, by omega⟩
  have hm2 : S.all.length - (k + 1) = m := by omega
  unfold outP
  rw [List.set_append_right _ _ (by omega), e, Nat.sub_self, hm, hm2, List.replicate_succ, List.set_cons_zero]
  simp [outF, List.range_succ]
theorem outP_end (l : List Sta) (S : MS) : outP l S S.all.length = outF l S S.all.length := by simp [outP]
theorem nilAt_rs {n : Nat} : (List.replicate n (D.agg [.bool false, .nils])).all TA.nilAt = true := by simp [Tb.nilAt, TA, D.comps]
theorem ini_rs {l : List Sta} {S : MS} : (List.replicate S.all.length (D.agg [.bool false, .nils])).map TA.ini = stas (outP l S 0) := by simp [Tb.ini, TA, D.put, stas, sta, ars, outP, outF]
attribute [local go_sem] stas_getD stas_set ars_snoc TA
theorem pMake0 {L : List (List Int)} (hok : WsOk L) (he : wrE L = 0) (hst : StaOk (trieF L)) (hka : achk (trieF L) = true) (hdw : DwH (trieF L) (begF (trieF L) (trieF L).length)) (hci : CInj (mrun (trieF L) (begF (trieF L) (trieF L).length) (trieF L).length).all)
    (hof : ∀ p, p < (trieF L).length → 0 ≤ (mrun (trieF L) (begF (trieF L) (trieF L).length) (trieF L).length).of[p]! ∧ (mrun (trieF L) (begF (trieF L) (trieF L).length) (trieF L).length).of[p]! < (mrun (trieF L) (begF (trieF L) (trieF L).length) (trieF L).length).all.length)
    (his : ∀ c, c < (mrun (trieF L) (begF (trieF L) (trieF L).length) (trieF L).length).all.length → 0 ≤ ((mrun (trieF L) (begF (trieF L) (trieF L).length) (trieF L).length).all[c]!).is_ ∧ ((mrun (trieF L) (begF (trieF L) (trieF L).length) (trieF L).length).all[c]!).is_ < (trieF L).length) :
    Sound Tryz.prog 13 [.sl 1 (iss L)] (.tup [.sl 2 (stas (outF (trieF L) (mrun (trieF L) (begF (trieF L) (trieF L).length) (trieF L).length) (mrun (trieF L) (begF (trieF L) (trieF L).length) (trieF L).length).all.length)), .int .i64 0]) := by
  have ct := pTrieG hok
  unfold trieR at ct
  rw [if_pos he] at ct
  have cb := pBeg hst hka
  generalize trieF L = l at *
  obtain ⟨_, hl0, hl1⟩ := achk_iff.1 hka
  refine Sound.run (N := 154) Tryz.func13 rfl (by kernel_rfl) rfl rfl rfl (by exact args0_1) fun X_ w_ => ?_
  have c0_ := ct; have c1_ := cb; refine goT ?_; try exact trivial
  generalize begF l l.length = B at *
  refine WP_ownv 3008 4 20000 82 3 rfl rfl (by decide) (Nat.le_of_ble_eq_true rfl) rfl ?_
  refine WP_loopk (fun j : Nat => j ≤ l.length) (fun j => [(4, .d (.sl 2 (stas l))), (6, .ref 3009 0), (7, .mref 46 3008 0), (40, .d (.int .i64 l.length)), (41, .d (.int .i64 j))])
    (fun j => [(3009, .var [.ref 3008 0]), (3008, .var [.d (.sl 2 (stas l)), .d (.sl 1 (iss B)), .own 3005 l.length, .map 3006, .own 20000 (mrun l B j).all.length]), (3005, .row 3 1 (is (mrun l B j).of)), (3006, .map 9 3 (emn (mrun l B j).names)), (20000, .row 82 3 (cls (mrun l B j).all))]) 21000 (fun j => l.length - j) [4, 6, 7, 40, 41] [3009, 3008, 3005, 3006, 20000] 0 (Nat.zero_le _) rfl (by rw [is_repl]; rfl) (Nat.le_of_ble_eq_true rfl) (fun _ _ => rfl) (fun _ _ => rfl) fun j hj => ?_
  by_cases hj3 : j < l.length
  · obtain ⟨hm, hf⟩ := mrun_ok hdw j hj
    obtain ⟨i, hi⟩ : ∃ i, i = l.length - 1 - j := ⟨_, rfl⟩
    have ei : (l.length : Int) - 1 - (j : Int) = (i : Int) := by omega
    have hst2 := mrun_step l B j
    rw [← hi] at hst2
    have hil : i < l.length := by omega
    have cm := pMerge hl1 hil hdw.bl hdw.bs (hdw.arcs i hil) (hdw.few i hil) hm
    have hm' := hm.step hl1 hil hdw.bl hdw.bs (hdw.arcs i hil) (hdw.few i hil) (by omega)
    have e1 := hm.len
    have e2 := hm'.len
    rw [← hst2] at cm e2
    simp only [Hm, e1, e2] at cm
    obtain ⟨S', hS⟩ : ∃ S', mrun l B (j + 1) = S' := ⟨_, rfl⟩
    rw [hS] at cm
    generalize mrun l B j = S at cm ⊢
    have c0_ := cm; refine goX @ei ?_; try exact trivial
    refine ⟨j + 1, by omega, ?_, ?_, by omega⟩
    · simp (disch := omega) only [go_sem, keepL, Int.natCast_add, Int.cast_ofNat_Int]
    · simp (disch := omega) only [go_sem, keepL, hS]
  · have hje : j = l.length := by omega
    subst hje
    obtain ⟨hm, hf⟩ := mrun_ok hdw l.length hj
    have hpos : 0 < (mrun l B l.length).all.length := by obtain ⟨q, hq⟩ : ∃ q, l.length = q + 1 := ⟨l.length - 1, by omega⟩; rw [hq]; exact mrun_pos l B q
    generalize mrun l B l.length = S at hm hf hpos hci hof his ⊢
    have hml : S.all.length ≤ 6001 := by omega
    refine goT ?_; try exact trivial
    refine WP_loopk (fun k : Nat => k ≤ S.all.length) (fun k => [(4, .d (.sl 2 (stas l))), (6, .ref 3009 0), (9, .own 22005 S.all.length), (59, .d (.int .i64 S.all.length)), (60, .d (.int .i64 k))])
      (fun k => [(3009, .var [.ref 3008 0]), (3008, .var [.d (.sl 2 (stas l)), .d (.sl 1 (iss B)), .own 3005 l.length, .map 3006, .own 20000 S.all.length]), (3005, .row 3 1 (is S.of)), (3006, .map 9 3 (emn S.names)), (20000, .row 82 3 (cls S.all)), (22005, .row 3 1 (is (idF S.all.length k)))]) 30000 (fun k => S.all.length - k) [4, 6, 9, 59, 60] [3009, 3008, 3005, 3006, 20000, 22005] 0 (Nat.zero_le _) rfl (by rw [is_repl]; rfl) (Nat.le_of_ble_eq_true rfl) (fun _ _ => rfl) (fun _ _ => rfl) fun k hk => ?_
    have hkl : (idF S.all.length k).length = S.all.length := idF_len ..
    by_cases hk3 : k < S.all.length
    · have hst3 := idF_step S.all.length k
      have hset : (is (idF S.all.length k)).set k (.int .i64 k) = is (idF S.all.length (k + 1)) := by rw [hst3]; simp [is, List.map_set]
      refine goX (And.intro @hkl (And.intro @hset @Int.toNat_natCast)) ?_; try exact trivial
      refine ⟨k + 1, by omega, ?_, ?_, by omega⟩
      · simp (disch := omega) only [go_sem, keepL, Int.natCast_add, Int.cast_ofNat_Int]
      · simp (disch := omega) only [go_sem, keepL]
    · have hke : k = S.all.length := by omega
      subst hke
      have hfz : frzD [(3009, HO.var [AV.ref 3008 0]), (3008, HO.var [AV.d (D.sl 2 (stas l)), AV.d (D.sl 1 (iss B)), AV.own 3005 l.length, AV.map 3006, AV.own 20000 S.all.length]), (3005, HO.row 3 1 (is S.of)), (3006, HO.map 9 3 (emn S.names)), (20000, HO.row 82 3 (cls S.all)), (22005, HO.row 3 1 (is (idF S.all.length S.all.length)))] 3 (AV.ref 3009 0) = some (.ptr [.ptr (MD l B S)], [3009, 3008, 3005, 3006, 20000]) := by
        have hol : l.length = (is S.of).length := by rw [is_len, hm.len]
        simp [frzD, frzL, toD, lk, ← hol, cls_len, MD, D.cell]
      have hid : is (idF S.all.length S.all.length) = ns (List.range S.all.length) := idF_ns _
      have cs := pSortC (l := l) (B := B) (S := S) (xs := List.range S.all.length) (ys := csort S.all) (fun c hc => (hm.fst c hc).1) hci (fun x hx => List.mem_range.1 hx) (by simp; omega) (by simp; omega) (csort_perm _) (csort_ord _)
      rw [List.length_range] at cs
      refine WP_frzd (hp' := [(22005, .row 3 1 (is (idF S.all.length S.all.length)))]) 6 3 rfl hfz rfl ?_
      rw [hid]
      have c0_ := cs; refine goT ?_; try exact trivial
      have hcl := csort_len S.all
      refine WP_loopk (fun k : Nat => k ≤ S.all.length) (fun k => [(4, .d (.sl 2 (stas l))), (6, .d (.ptr [.ptr (MD l B S)])), (9, .own 22005 S.all.length), (11, .own 32005 S.all.length), (77, .own 22005 S.all.length), (78, .d (.int .i64 S.all.length)), (79, .d (.int .i64 k))])
        (fun k => [(32005, .row 3 1 (is (atF S.all k))), (22005, .row 3 1 (ns (csort S.all)))]) 40000 (fun k => S.all.length - k) [4, 6, 9, 11, 77, 78, 79] [32005, 22005] 0 (Nat.zero_le _) rfl (by rw [is_repl]; rfl) (Nat.le_of_ble_eq_true rfl) (fun _ _ => rfl) (fun _ _ => rfl) fun k hk => ?_
      have hal := atF_len S.all k
      by_cases hk3 : k < S.all.length
      · have hst3 := atF_step S.all k
        have hck := csort_lt S.all hk3
        have hset : (is (atF S.all k)).set ((csort S.all)[k]!) (.int .i64 k) = is (atF S.all (k + 1)) := by rw [hst3]; simp [is, List.map_set]
        have hg := ns_get (l := csort S.all) (k := k) (by omega)
        have hnl := ns_len (l := csort S.all)
        refine goX (And.intro @hal (And.intro @hg (And.intro @hcl (And.intro @hnl (And.intro @hset @Int.toNat_natCast))))) ?_; try exact trivial
        refine ⟨k + 1, by omega, ?_, ?_, by omega⟩
        · simp (disch := omega) only [go_sem, keepL, Int.natCast_add, Int.cast_ofNat_Int]
        · simp (disch := omega) only [go_sem, keepL]
      · have hke : k = S.all.length := by omega
        subst hke
        have hnl := ns_len (l := csort S.all)
        refine goX (And.intro @hal (And.intro @hcl @hnl)) ?_; try exact trivial
        refine WP_tab 14 50000 TA rfl rfl (by simp) rfl rfl (by decide) nilAt_rs (Nat.le_of_ble_eq_true rfl) (ini_rs (l := l)) rfl ?_
        refine WP_loopk (fun k : Nat => k ≤ S.all.length) (fun k => [(4, .d (.sl 2 (stas l))), (6, .d (.ptr [.ptr (MD l B S)])), (11, .own 32005 S.all.length), (14, .tab 50000 S.all.length), (95, .own 22005 S.all.length), (96, .d (.int .i64 S.all.length)), (97, .d (.int .i64 k))])
          (fun k => [(50000, .tab TA (stas (outP l S k)) none), (32005, .row 3 1 (is (atF S.all S.all.length))), (22005, .row 3 1 (ns (csort S.all)))]) 60000 (fun k => S.all.length - k) [4, 6, 11, 14, 95, 96, 97] [50000, 32005, 22005] 0 (Nat.zero_le _) rfl rfl (Nat.le_of_ble_eq_true rfl) (fun _ _ => rfl) (fun _ _ => rfl) fun k hk => ?_
        have hol := outP_len (l := l) hk
        by_cases hk3 : k < S.all.length
        · have hck := csort_lt S.all hk3
          have hg := ns_get (l := csort S.all) (k := k) (by omega)
          have hok := outP_at (l := l) hk3
          have hos := outP_step (l := l) hk3
          unfold outS at hos
          obtain ⟨s1, s2⟩ := his _ hck
          generalize (csort S.all)[k]! = c at hck hg hos s1 s2
          obtain ⟨i, hi⟩ := Int.eq_ofNat_of_zero_le s1
          rw [hi, Int.toNat_natCast] at hos
          have hil : i < l.length := by omega
          have hfw := hdw.few i hil
          have har := hdw.arcs i hil
          generalize hP : outP l S (k + 1) = P1 at hos
          generalize outP l S k = o at hol hok hos ⊢
          refine goX (And.intro @hal (And.intro @hcl (And.intro @hnl (And.intro @hg (And.intro @hi (And.intro @hol (And.intro @hok @Int.toNat_natCast))))))) ?_; try exact trivial
          refine WP_loopk (fun j : Nat => j ≤ (l[i]!).arcs.length) (fun j => [(4, .d (.sl 2 (stas l))), (6, .d (.ptr [.ptr (MD l B S)])), (11, .own 32005 S.all.length), (14, .tab 50000 S.all.length), (15, .d (.int .i64 k)), (95, .own 22005 S.all.length), (96, .d (.int .i64 S.all.length)), (97, .d (.int .i64 k)), (120, .d (.sl 2 (ars (l[i]!).arcs))), (121, .d (.int .i64 (l[i]!).arcs.length)), (122, .d (.int .i64 j))])
            (fun j => [(50000, .tab TA (stas (o.set k ⟨(l[i]!).final, ((l[i]!).arcs.take j).map (goA S)⟩)) none), (32005, .row 3 1 (is (atF S.all S.all.length))), (22005, .row 3 1 (ns (csort S.all)))]) 70000 (fun j => (l[i]!).arcs.length - j) [4, 6, 11, 14, 15, 95, 96, 97, 120, 121, 122] [50000, 32005, 22005] 0 (Nat.zero_le _) rfl (by rw [List.take_zero, List.map_nil]; rfl) (Nat.le_of_ble_eq_true rfl) (fun _ _ => rfl) (fun _ _ => rfl) fun j hj => ?_
          have hsl : ∀ r : Sta, (o.set k r).length = S.all.length := fun r => by rw [List.length_set, hol]
          have hsg : ∀ r : Sta, (o.set k r)[k]! = r := fun r => by rw [getB_setI (by omega), if_pos rfl]
          have hmj : (((l[i]!).arcs.take j).map (goA S)).length = j := by rw [List.length_map, List.length_take]; omega
          by_cases hj3 : j < (l[i]!).arcs.length
          · obtain ⟨g1, g2, g3, g4⟩ := har ((l[i]!).arcs[j]!) (by rw [getElem!_pos (l[i]!).arcs j hj3]; exact List.getElem_mem hj3)
            obtain ⟨t, ht⟩ := Int.eq_ofNat_of_zero_le g3
            have htl : t < l.length := by omega
            have htl2 : t < S.of.length := by rw [hm.len]; exact htl
            obtain ⟨o1, o2⟩ := hof t htl
            obtain ⟨y, hy⟩ := Int.eq_ofNat_of_zero_le o1
            have hst : ((l[i]!).arcs.take (j + 1)).map (goA S) = ((l[i]!).arcs.take j).map (goA S) ++ [⟨((l[i]!).arcs[j]!).sign, (atF S.all S.all.length)[y]!⟩] := by
              have hga : goA S ((l[i]!).arcs[j]!) = ⟨((l[i]!).arcs[j]!).sign, (atF S.all S.all.length)[y]!⟩ := by unfold goA; rw [ht, Int.toNat_natCast, hy, Int.toNat_natCast]
              rw [atake_snoc hj3, List.map_append, ← hga]; rfl
            have hyl : y < S.all.length := by omega
            generalize ((l[i]!).arcs.take j).map (goA S) = A0 at hst hmj
            have hs1 := hsl ⟨(l[i]!).final, A0⟩
            have hs2 := hsl ⟨(l[i]!).final, A0 ++ [⟨((l[i]!).arcs[j]!).sign, (atF S.all S.all.length)[y]!⟩]⟩
            have hlA : (A0 ++ [(⟨((l[i]!).arcs[j]!).sign, (atF S.all S.all.length)[y]!⟩ : Ar)]).length = j + 1 := by rw [List.length_append, hmj]; rfl
            refine goX (And.intro @hal (And.intro @hcl (And.intro @hnl (And.intro @hsl (And.intro @hsg (And.intro @ht (And.intro @hy (And.intro @hmj @Int.toNat_natCast)))))))) ?_; try exact trivial
            refine ⟨j + 1, by omega, ?_, ?_, by omega⟩
            · simp (disch := omega) only [go_sem, keepL, Int.natCast_add, Int.cast_ofNat_Int]
            · simp (disch := omega) only [go_sem, keepL, List.set_set, hst]
          · have hje : j = (l[i]!).arcs.length := by omega
            subst hje
            rw [List.take_length, hos]
            refine goT ?_; try exact trivial
            refine ⟨k + 1, by omega, ?_, ?_, by omega⟩
            · simp (disch := omega) only [go_sem, keepL, Int.natCast_add, Int.cast_ofNat_Int]
            · simp (disch := omega) only [go_sem, keepL, hP]
        · have hke : k = S.all.length := by omega
          subst hke
          rw [outP_end] at hol ⊢
          refine goX @hol ?_; try exact trivial
end Go.Eng.Tryz
set_option linter.unusedVariables false
set_option linter.unusedSimpArgs false
namespace Go.Eng.Tryz
open Go Go.Eng Go.Proofs Go.RowKit
theorem TrieB.idx {L : List (List Int)} {l : List Sta} {B : List (List Int)} (h : TrieB L l B) {u : List Int} (hu : u ∈ B) : ∃ k : Nat, B[k]? = some u := by
  obtain ⟨k, hk⟩ := List.getElem_of_mem hu
  exact ⟨k, by rw [← hk.2]; exact List.getElem?_eq_getElem hk.1⟩
theorem TrieB.closed {L : List (List Int)} {l : List Sta} {B : List (List Int)} (h : TrieB L l B) {u : List Int} {z : Int} (hu : u ++ [z] ∈ B) : u ∈ B := by
  rcases (h.mem _).1 hu with h1 | ⟨w, h1, h2⟩
  · simp at h1
  · exact (h.mem _).2 (.inr ⟨w, h1, (List.prefix_append _ _).trans h2⟩)
theorem TrieB.parent {L : List (List Int)} {l : List Sta} {B : List (List Int)} (h : TrieB L l B) {t : Nat} (h0 : 0 < t) (ht : t < l.length) : ∃ p u z, p < t ∧ B[p]? = some u ∧ B[t]? = some (u ++ [z]) ∧ (⟨z, (t : Int)⟩ : Ar) ∈ (l[p]!).arcs := by
  have htB : t < B.length := by rw [h.len]; exact ht
  have hu := List.getElem?_eq_getElem htB
  have hne : B[t] ≠ [] := fun e => by
    rw [e] at hu
    have := srt_inj h.srt hu h.root
    omega
  obtain ⟨u, z, e⟩ : ∃ u z, B[t] = u ++ [z] := ⟨_, _, (List.dropLast_concat_getLast hne).symm⟩
  rw [e] at hu
  obtain ⟨p, hp⟩ := h.idx (h.closed (List.mem_of_getElem? hu))
  refine ⟨p, u, z, ?_, hp, hu, (h.arcs p u hp ⟨z, t⟩).2 ⟨by simp, by simpa using hu⟩⟩
  rcases Nat.lt_trichotomy p t with h1 | h1 | h1
  · exact h1
  · subst h1
    rw [hp] at hu
    have := congrArg List.length (Option.some.inj hu)
    simp at this
  · exfalso
    obtain ⟨g1, e1⟩ := List.getElem?_eq_some_iff.1 hp
    have := List.pairwise_iff_getElem.1 h.srt t p htB g1 h1
    rw [e1, e] at this
    rcases this with h2 | ⟨h2, _⟩ <;> (simp at h2; try omega)
theorem TrieB.fwd {L : List (List Int)} {l : List Sta} {B : List (List Int)} (h : TrieB L l B) {p : Nat} {a : Ar} (hp : p < l.length) (ha : a ∈ (l[p]!).arcs) : 0 ≤ a.to ∧ p < a.to.toNat ∧ a.to.toNat < l.length := by
  have hpB : p < B.length := by rw [h.len]; exact hp
  have hu := List.getElem?_eq_getElem hpB
  obtain ⟨h1, h2⟩ := (h.arcs p _ hu a).1 ha
  obtain ⟨g1, e1⟩ := List.getElem?_eq_some_iff.1 h2
  refine ⟨h1, ?_, by rw [← h.len]; exact g1⟩
  rcases Nat.lt_trichotomy p a.to.toNat with h3 | h3 | h3
  · exact h3
  · exfalso
    rw [← h3, hu] at h2
    have := congrArg List.length (Option.some.inj h2)
    simp at this
  · exfalso
    have := List.pairwise_iff_getElem.1 h.srt a.to.toNat p g1 hpB h3
    rw [e1] at this
    rcases this with h4 | ⟨h4, _⟩ <;> (simp at h4; try omega)
theorem getB_setO {X : List (List Int)} {q i : Nat} {v : List Int} (h : q ≠ i) : (X.set q v)[i]! = X[i]! := by
  simp only [List.getElem!_eq_getElem?_getD, List.getElem?_set_ne h]
theorem getB_setS {X : List (List Int)} {q : Nat} {v : List Int} (h : q < X.length) : (X.set q v)[q]! = v := by
  simp [List.getElem!_eq_getElem?_getD, List.getElem?_set_self h]
structure BegI (l : List Sta) (B : List (List Int)) (i k : Nat) (R : List (List Int)) : Prop where
  len : R.length = l.length
  val : ∀ t, t < l.length → R[t]! = B[t]! ∨ R[t]! = []
  done : ∀ p a, p < i → a ∈ (l[p]!).arcs → R[a.to.toNat]! = B[a.to.toNat]!
  part : ∀ a, a ∈ (l[i]!).arcs.take k → R[a.to.toNat]! = B[a.to.toNat]!
theorem BegI.self {L : List (List Int)} {l : List Sta} {B : List (List Int)} (h : TrieB L l B) {i k : Nat} {R : List (List Int)} (hR : BegI l B i k R) (hi : i < l.length) : R[i]! = B[i]! := by
  by_cases h0 : i = 0
  · subst h0
    have hB0 : B[0]! = [] := getE h.root
    rcases hR.val 0 hi with h1 | h1
    · exact h1
    · rw [h1, hB0]
  · obtain ⟨p, u, z, h1, h2, h3, h4⟩ := h.parent (by omega) hi
    have := hR.done p _ h1 h4
    simpa using this
theorem BegI.step {L : List (List Int)} {l : List Sta} {B : List (List Int)} (h : TrieB L l B) {i k : Nat} {R : List (List Int)} (hR : BegI l B i k R) (hi : i < l.length) (hk : k < (l[i]!).arcs.length) : BegI l B i (k + 1) (bstA i R ((l[i]!).arcs[k]!)) := by
  have hs := hR.self h hi
  have hmem : (l[i]!).arcs[k]! ∈ (l[i]!).arcs := by rw [getElem!_pos _ k hk]; exact List.getElem_mem hk
  have hsn : (l[i]!).arcs.take (k + 1) = (l[i]!).arcs.take k ++ [(l[i]!).arcs[k]!] := atake_snoc hk
  generalize (l[i]!).arcs[k]! = a at hmem hsn ⊢
  obtain ⟨f1, f2, f3⟩ := h.fwd hi hmem
  have hiB : i < B.length := by rw [h.len]; exact hi
  have hto := ((h.arcs i _ (List.getElem?_eq_getElem hiB) a).1 hmem).2
  have hv : B[a.to.toNat]! = R[i]! ++ [a.sign] := by rw [getE hto, hs, getElem!_pos B i hiB]
  have key : ∀ t, (bstA i R a)[t]! = if t = a.to.toNat then B[t]! else R[t]! := fun t => by
    unfold bstA
    by_cases e : t = a.to.toNat
    · subst e
      rw [if_pos rfl, getB_setS (by rw [hR.len]; exact f3), hv]
    · rw [if_neg e, getB_setO (fun x => e x.symm)]
  refine ⟨by unfold bstA; rw [List.length_set]; exact hR.len, fun t ht => ?_, fun p b hp hb => ?_, fun b hb => ?_⟩
  · rw [key]
    split
    · exact .inl rfl
    · exact hR.val t ht
  · rw [key]
    split
    · rfl
    · exact hR.done p b hp hb
  · rw [key]
    split
    · rfl
    · rename_i hne
      rw [hsn] at hb
      rcases List.mem_append.1 hb with h1 | h1
      · exact hR.part b h1
      · simp only [List.mem_singleton] at h1
        subst h1
        exact absurd rfl hne
theorem begF_I {L : List (List Int)} {l : List Sta} {B : List (List Int)} (h : TrieB L l B) : ∀ j, j ≤ l.length → BegI l B j 0 (begF l j) := by
  intro j
  induction j with
  | zero =>
    intro _
    refine ⟨by simp [begF], fun t ht => .inr ?_, fun p a hp => by omega, fun a ha => by simp at ha⟩
    have : begF l 0 = List.replicate l.length [] := rfl
    rw [this, getElem!_pos _ t (by simpa using ht)]
    simp
  | succ j ih =>
    intro hj
    have h0 := ih (by omega)
    have hin : ∀ k, k ≤ (l[j]!).arcs.length → BegI l B j k (bstI l (begF l j) j k) := fun k => by
      induction k with
      | zero => intro _; exact h0
      | succ k ihk =>
        intro hk
        rw [bstI_step l (begF l j) j (by omega)]
        exact (ihk (by omega)).step h (by omega) (by omega)
    have h1 := hin _ (Nat.le_refl _)
    rw [begF_step]
    refine ⟨h1.len, h1.val, fun p a hp ha => ?_, fun a ha => by simp at ha⟩
    by_cases e : p = j
    · subst e
      exact h1.part a (by rw [List.take_length]; exact ha)
    · exact h1.done p a (by omega) ha
theorem begF_B {L : List (List Int)} {l : List Sta} {B : List (List Int)} (h : TrieB L l B) : begF l l.length = B := by
  have hI := begF_I h l.length (Nat.le_refl _)
  apply List.ext_getElem (by rw [hI.len, h.len])
  intro t h1 h2
  have ht : t < l.length := by rw [← hI.len]; exact h1
  rw [← getElem!_pos _ t h1, ← getElem!_pos _ t h2]
  by_cases h0 : t = 0
  · subst h0
    have hB0 : B[0]! = [] := getE h.root
    rcases hI.val 0 ht with h3 | h3
    · exact h3
    · rw [h3, hB0]
  · obtain ⟨p, u, z, g1, g2, g3, g4⟩ := h.parent (by omega) ht
    have := hI.done p _ (by omega) g4
    simpa using this
theorem arcsOk_of {i n : Int} : ∀ {l : List Ar} {last : Int}, l.Pairwise (fun a b => a.sign < b.sign) → (∀ a ∈ l, last < a.sign ∧ gsign a.sign = true ∧ i < a.to ∧ a.to < n) → arcsOk i n last l = true
  | [], _, _, _ => rfl
  | a :: t, last, hp, h => by
    obtain ⟨h1, h2, h3, h4⟩ := h a (by simp)
    rw [List.pairwise_cons] at hp
    simp only [arcsOk, arcOk, Bool.and_eq_true, decide_eq_true_eq]
    refine ⟨⟨⟨⟨h1, h2⟩, h3⟩, h4⟩, arcsOk_of hp.2 fun b hb => ?_⟩
    obtain ⟨_, g2, g3, g4⟩ := h b (by simp [hb])
    exact ⟨hp.1 b hb, g2, g3, g4⟩
structure TrieK (L : List (List Int)) (l : List Sta) (B : List (List Int)) : Prop where
  b : TrieB L l B
  l0 : 0 < l.length
  l1 : l.length ≤ 6001
  good : ∀ p : Nat, p < l.length → ∀ a ∈ (l[p]!).arcs, gsign a.sign = true
  few : ∀ p : Nat, (l[p]!).arcs.length ≤ 6001
  long : ∀ w ∈ B, w.length ≤ 20
theorem trie_K {L : List (List Int)} (he : wrE L = 0) : ∃ B, TrieK L (trieF L) B := by
  obtain ⟨h1, h2, h3⟩ := wrE_ok he
  have hw : ∀ w ∈ L, 0 < w.length ∧ w.length ≤ 20 ∧ w.all gsign = true := fun w h => wfit_le (List.all_eq_true.1 h2 w h)
  obtain ⟨B, hB⟩ := trie_B ⟨h3, fun j hj => by rw [getElem!_pos L j hj]; exact (hw _ (List.getElem_mem hj)).1⟩ (fun w h => (hw w h).2.1)
  have hz : ∀ w ∈ L, ∀ z ∈ w, -9223372036854775808 ≤ z ∧ z ≤ 9223372036854775807 := fun w h z hz => by
    have := of_decide_eq_true (List.all_eq_true.1 (hw w h).2.2 z hz)
    omega
  have ti := tlev_inv hz h1 20 (Nat.le_refl _)
  have hlen : (trieF L).length ≤ 6001 := by have := ti.len; simp only at this; unfold trieF; omega
  refine ⟨B, hB, ti.pos, hlen, fun p hp a ha => ?_, fun p => ?_, fun w hwB => ?_⟩
  · have hpB : p < B.length := by rw [hB.len]; exact hp
    obtain ⟨g1, g2⟩ := (hB.arcs p _ (List.getElem?_eq_getElem hpB) a).1 ha
    rcases (hB.mem _).1 (List.mem_of_getElem? g2) with h | ⟨w, hw1, hw2⟩
    · simp at h
    · refine List.all_eq_true.1 (hw w hw1).2.2 _ (hw2.subset (by simp))
  · have := ti.arcs p
    simp only at this
    unfold trieF
    omega
  · rcases (hB.mem _).1 hwB with h | ⟨v, hv1, hv2⟩
    · rw [h]; simp
    · exact Nat.le_trans hv2.length_le (hw v hv1).2.1
theorem TrieK.achk {L : List (List Int)} {l : List Sta} {B : List (List Int)} (h : TrieK L l B) : achk l = true := by
  unfold Go.Eng.Tryz.achk
  rw [decide_eq_true ⟨h.l0, h.l1⟩, Bool.and_true]
  unfold statesOk
  refine List.all_eq_true.2 fun p hp => ?_
  rw [List.mem_range] at hp
  have hpB : p < B.length := by rw [h.b.len]; exact hp
  refine arcsOk_of (h.b.ris p _ (List.getElem?_eq_getElem hpB)) fun a ha => ?_
  have hg := h.good p hp a ha
  obtain ⟨f1, f2, f3⟩ := h.b.fwd hp ha
  have := of_decide_eq_true hg
  exact ⟨by omega, hg, by omega, by omega⟩
theorem TrieK.sok {L : List (List Int)} {l : List Sta} {B : List (List Int)} (h : TrieK L l B) : StaOk l := by
  refine ⟨by have := h.l1; omega, fun s hs => ?_⟩
  obtain ⟨p, hp, rfl⟩ := List.getElem_of_mem hs
  have := h.few p
  rw [getElem!_pos l p hp] at this
  omega
theorem TrieK.dw {L : List (List Int)} {l : List Sta} {B : List (List Int)} (h : TrieK L l B) : DwH l B := by
  refine ⟨h.l0, h.l1, h.b.len, fun w hw => by have := h.long w hw; omega, fun p hp a ha => ?_, fun p hp => by have := h.few p; omega⟩
  have hg := of_decide_eq_true (h.good p hp a ha)
  obtain ⟨f1, f2, f3⟩ := h.b.fwd hp ha
  omega
end Go.Eng.Tryz

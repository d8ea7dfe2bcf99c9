/- dawg.Make, for all words; what is known of what it makes. (and what stands behind it: texts laid together) -/
import Derived.Test.YtabfoaoeghikoaaGreatDoorMG4
import Derived.Test.YtabfoaoeghikoaaGreatDoorMR15
import Derived.Test.YtabfoaoeghikoaaGreatDoorMR7
set_option maxHeartbeats 32000000
set_option maxRecDepth 100000
set_option linter.unusedVariables false
set_option linter.unusedSimpArgs false
namespace Go.Eng.Tryz
open Go Go.Eng Go.Proofs Go.RowKit
attribute [local go_sem] is_len is_get iss_len iss_get iss_snoc ars_len ars_get stas_len stas_get
def dawgS (L : List (List Int)) : MS := mrun (trieF L) (begF (trieF L) (trieF L).length) (trieF L).length
def dawgF (L : List (List Int)) : List Sta := outF (trieF L) (dawgS L) (dawgS L).all.length
def dawgR (L : List (List Int)) : D := if wrE L = 0 then .tup [.sl 2 (stas (dawgF L)), .int .i64 0] else .tup [.nils, .int .i64 (wrE L)]
structure DawgH (L : List (List Int)) (K : List (List Int)) : Prop where
  k : DawgK L (dawgF L) K
  chk : achk (dawgF L) = true
  ok : StaOk (dawgF L)
  few : ∀ p, p < (dawgF L).length → ((dawgF L)[p]!).arcs.length ≤ 6001
  len : (dawgF L).length ≤ (trieF L).length
  words : ∀ w ∈ L, 0 < w.length ∧ w.length ≤ 20 ∧ w.all gsign = true
theorem dawg_K {L : List (List Int)} (he : wrE L = 0) : ∃ K, DawgH L K := by
  obtain ⟨B, hB⟩ := trie_K he
  have hb := begF_B hB.b
  have hI := mrun_all hB.b
  obtain ⟨h1, h2, h3⟩ := wrE_ok he
  have hw : ∀ w ∈ L, 0 < w.length ∧ w.length ≤ 20 ∧ w.all gsign = true := fun w h => wfit_le (List.all_eq_true.1 h2 w h)
  have eS : dawgS L = mrun (trieF L) B (trieF L).length := by unfold dawgS; rw [hb]
  have hK := hI.dawg hB.b
  rw [← eS] at hK hI
  have hF : dawgF L = outF (trieF L) (dawgS L) (dawgS L).all.length := rfl
  rw [← hF] at hK
  obtain ⟨hm, hml⟩ := mrun_ok hB.dw (trieF L).length (Nat.le_refl _)
  rw [← eS] at hm hml
  have hlen : (dawgF L).length = (dawgS L).all.length := by simp [dawgF, outF]
  have hl1 := hB.l1
  have hfew : ∀ p, p < (dawgF L).length → ((dawgF L)[p]!).arcs.length ≤ 6001 := fun p hp => by
    rw [hlen] at hp
    have e : (dawgF L)[p]! = outS (trieF L) (dawgS L) p := map_at hp
    rw [e]
    unfold outS
    simp only [List.length_map]
    exact hB.few _
  refine ⟨_, hK, ?_, ?_, hfew, by omega, hw⟩
  · unfold achk
    rw [decide_eq_true ⟨hK.pos, by omega⟩, Bool.and_true]
    unfold statesOk
    refine List.all_eq_true.2 fun p hp => ?_
    rw [List.mem_range] at hp
    refine arcsOk_of (hK.ris p hp) fun a ha => ?_
    obtain ⟨f1, f2, f3⟩ := hK.fwd hp ha
    have hb2 := ((hK.arcs p hp a).1 ha).2.2.1
    have hg : gsign a.sign = true := by
      rcases hb2 with e | ⟨w, hw1, hw2⟩
      · simp at e
      · exact List.all_eq_true.1 (hw w hw1).2.2 _ (hw2.subset (by simp))
    have := of_decide_eq_true hg
    exact ⟨by omega, hg, by omega, by omega⟩
  · refine ⟨by omega, fun s hs => ?_⟩
    obtain ⟨p, hp, rfl⟩ := List.getElem_of_mem hs
    have := hfew p hp
    rw [getElem!_pos _ p hp] at this
    omega
theorem pMakeE {L : List (List Int)} (hok : WsOk L) (he : wrE L ≠ 0) : Sound Tryz.prog 13 [.sl 1 (iss L)] (.tup [.nils, .int .i64 (wrE L)]) := by
  have ct := pTrieG hok
  unfold trieR at ct
  rw [if_neg he] at ct
  rcases wrE_some L with h | h | h
  · exact absurd h he
  · rw [h] at ct ⊢
    refine Sound.run (N := 154) Tryz.func13 rfl (by kernel_rfl) rfl rfl rfl (by exact args0_1) fun X_ w_ => ?_
    have c0_ := ct; refine goT ?_; try exact trivial
  · rw [h] at ct ⊢
    refine Sound.run (N := 154) Tryz.func13 rfl (by kernel_rfl) rfl rfl rfl (by exact args0_1) fun X_ w_ => ?_
    have c0_ := ct; refine goT ?_; try exact trivial
theorem pMake {L : List (List Int)} (hok : WsOk L) : Sound Tryz.prog 13 [.sl 1 (iss L)] (dawgR L) := by
  unfold dawgR
  by_cases he : wrE L = 0
  · rw [if_pos he]
    obtain ⟨B, hB⟩ := trie_K he
    have hb := begF_B hB.b
    have hI := mrun_all hB.b
    rw [← hb] at hI
    have hdw := hB.dw
    rw [← hb] at hdw
    refine pMake0 hok he hB.sok hB.achk hdw ?_ (fun p hp => hI.rng p (Nat.zero_le _) hp) fun c hc => ?_
    · have hI2 := hI
      rw [hb] at hI2 ⊢
      exact hI2.inj hB.b
    · obtain ⟨p, _, p1, p2, _⟩ := hI.isr c hc
      rw [p2]
      omega
  · rw [if_neg he]
    exact pMakeE hok he
theorem dawgR_ok {L : List (List Int)} (he : wrE L = 0) : dawgR L = .tup [.sl 2 (stas (dawgF L)), .int .i64 0] := if_pos he
theorem dawgR_no {L : List (List Int)} (he : wrE L ≠ 0) : dawgR L = .tup [.nils, .int .i64 (wrE L)] := if_neg he
end Go.Eng.Tryz
set_option linter.unusedVariables false
set_option linter.unusedSimpArgs false
namespace Go.Eng.Tryz
open Go Go.Eng Go.Proofs Go.RowKit
theorem Lng.same {L M : List (List Int)} {l : List Sta} (h : Lng L l) (k : Lng M l) (hL : SrtW L) (hM : SrtW M) : L = M :=
  srt_ext2 (R := fun a b => wcmp a b < 0) wcmp_lt_irr (fun a b h k => by have := wcmp_swap a b; omega) hL hM fun u => (h u).trans (k u).symm
theorem Lng.at {L : List (List Int)} {l : List Sta} (h : Lng L l) {u : List Int} {s : Int} (hu : leadF l 0 u = some s) (w : List Int) : u ++ w ∈ L ↔ ∃ t, leadF l s w = some t ∧ (l[t.toNat]!).final = true := by
  have e : leadF l 0 (u ++ w) = leadF l s w := by rw [leadF_app, hu]
  rw [h (u ++ w), e]
theorem DawgK.lng {L K : List (List Int)} {l : List Sta} (h : DawgK L l K) : Lng L l := fun u => by
  obtain ⟨h1, h2⟩ := h.has u
  constructor
  · intro hu
    obtain ⟨t, t1, t2, t3⟩ := h1 (.inr ⟨u, hu, List.prefix_rfl⟩)
    exact ⟨t, t2, by rw [Int.toNat_natCast]; exact t3.2 hu⟩
  · rintro ⟨t, g1, g2⟩
    by_cases hb : Bg L u
    · obtain ⟨s, s1, s2, s3⟩ := h1 hb
      rw [g1] at s2
      cases s2
      rw [Int.toNat_natCast] at g2
      exact s3.1 g2
    · rw [h2 hb] at g1; cases g1
theorem TrieB.lead {L : List (List Int)} {l : List Sta} {B : List (List Int)} (h : TrieB L l B) : ∀ (u : List Int) {p : Nat}, p < l.length → (Bg L (B[p]! ++ u) → ∃ t : Nat, t < l.length ∧ leadF l p u = some (t : Int) ∧ B[t]! = B[p]! ++ u) ∧ (¬ Bg L (B[p]! ++ u) → leadF l p u = none)
  | [], p, hp => ⟨fun _ => ⟨p, hp, rfl, by simp⟩, fun hn => absurd (h.bgp hp) (by rwa [List.append_nil] at hn)⟩
  | z :: u, p, hp => by
    have e1 : B[p]! ++ z :: u = B[p]! ++ [z] ++ u := by simp
    rw [e1]
    unfold leadF
    by_cases hz : Bg L (B[p]! ++ [z])
    · obtain ⟨t, t1, t2, t3⟩ := h.arc_of hp hz
      have hs : stepF l p z = some (t : Int) := by
        have := find_sgn (h.ris p _ (h.at hp)) t3
        unfold stepF
        rw [if_pos (by omega), Int.toNat_natCast, this]
        rfl
      rw [hs]
      simp only
      rw [← t2]
      exact TrieB.lead h u t1
    · have hs : stepF l p z = none := by
        unfold stepF
        rw [if_pos (by omega), Int.toNat_natCast, Option.map_eq_none_iff, List.find?_eq_none]
        intro a ha hs
        have := of_decide_eq_true hs
        subst this
        obtain ⟨g1, g2, g3, g4⟩ := h.arc hp ha
        exact hz (by rw [← g4]; exact h.bgp g3)
      rw [hs]
      exact ⟨fun hb => absurd hb.cut hz, fun _ => rfl⟩
theorem TrieK.lng {L : List (List Int)} {l : List Sta} {B : List (List Int)} (h : TrieK L l B) : Lng L l := fun u => by
  have h0 : B[0]! = [] := getE h.b.root
  obtain ⟨h1, h2⟩ := h.b.lead u h.l0
  rw [h0, List.nil_append] at h1 h2
  constructor
  · intro hu
    obtain ⟨t, t1, t2, t3⟩ := h1 (.inr ⟨u, hu, List.prefix_rfl⟩)
    exact ⟨t, t2, by rw [Int.toNat_natCast, h.b.fin' t1, t3]; exact hu⟩
  · rintro ⟨t, g1, g2⟩
    by_cases hb : Bg L u
    · obtain ⟨s, s1, s2, s3⟩ := h1 hb
      rw [show ((0 : Nat) : Int) = 0 from rfl, g1] at s2
      cases s2
      rw [Int.toNat_natCast, h.b.fin' s1, s3] at g2
      exact g2
    · have := h2 hb
      rw [show ((0 : Nat) : Int) = 0 from rfl, g1] at this; cases this
theorem nd_le {α : Type} [DecidableEq α] : ∀ {l m : List α}, l.Nodup → (∀ x ∈ l, x ∈ m) → l.length ≤ m.length
  | [], m, _, _ => Nat.zero_le _
  | a :: l, m, hl, h => by
    have ha : a ∈ m := h a (by simp)
    have hl2 : a ∉ l ∧ l.Nodup := List.nodup_cons.1 hl
    have := nd_le (m := m.erase a) hl2.2 fun x hx => by
      refine (List.mem_erase_of_ne fun e => hl2.1 (by rw [← e]; exact hx)).2 (h x (by simp [hx]))
    rw [List.length_erase_of_mem ha] at this
    have := List.length_pos_of_mem ha
    simp only [List.length_cons]
    omega
theorem pig {n m : Nat} {f : Nat → Nat} (h1 : ∀ i, i < n → f i < m) (h2 : ∀ i j, i < n → j < n → f i = f j → i = j) : n ≤ m := by
  have := nd_le (l := (List.range n).map f) (m := List.range m) (by
    rw [List.Nodup, List.pairwise_map, List.pairwise_iff_getElem]
    intro i j hi hj hij e
    simp only [List.length_range] at hi hj
    simp only [List.getElem_range] at e
    have := h2 i j hi hj e
    omega) (fun x hx => by
    obtain ⟨i, hi, rfl⟩ := List.mem_map.1 hx
    exact List.mem_range.2 (h1 i (List.mem_range.1 hi)))
  simpa using this
theorem least_le {L K : List (List Int)} {l d : List Sta} (hka : achk l = true) (hl : Lng L l) (hd : DawgK L d K) : d.length ≤ l.length := by
  have hl0 := (achk_iff.1 hka).2.1
  have key : ∀ k, ∃ s : Nat, k < d.length → s < l.length ∧ leadF l 0 (K[k]!) = some (s : Int) := fun k => by
    by_cases hk : k < d.length
    · have hb := (hd.rep hk).1
      have : ∃ t, leadF l 0 (K[k]!) = some t := by
        rcases hb with e | ⟨w, hw, ⟨v, hv⟩⟩
        · rw [e]; exact ⟨0, rfl⟩
        · obtain ⟨t, t1, _⟩ := (hl w).1 hw
          rw [← hv, leadF_app] at t1
          cases h : leadF l 0 (K[k]!) with
          | none => rw [h] at t1; cases t1
          | some s => exact ⟨s, rfl⟩
      obtain ⟨t, ht⟩ := this
      have := lead_in hka _ 0 t (Int.le_refl _) (by omega) ht
      exact ⟨t.toNat, fun _ => ⟨by omega, by rw [ht]; congr 1; omega⟩⟩
    · exact ⟨0, fun h => absurd h hk⟩
  refine pig (f := fun k => Classical.choose (key k)) (fun k hk => (Classical.choose_spec (key k) hk).1) fun i j hi hj e => ?_
  have h1 := (Classical.choose_spec (key i) hi).2
  have h2 := (Classical.choose_spec (key j) hj).2
  rw [e] at h1
  refine hd.inj hi hj fun w => ?_
  exact (hl.at h1 w).trans (hl.at h2 w).symm
end Go.Eng.Tryz
set_option linter.unusedVariables false
set_option linter.unusedSimpArgs false
namespace Go.Eng.Tryz
open Go Go.Eng Go.Proofs Go.RowKit
attribute [local go_sem] is_len is_get ars_len ars_get stas_len stas_get iss_len iss_get dels
theorem is_snoc {l : List Int} {z : Int} : is l ++ [.int .i64 z] = is (l ++ [z]) := by simp [is]
theorem is_takeW {l : List Int} {k : Nat} : (is l).take k = is (l.take k) := by simp [is, List.map_take]
end Go.Eng.Tryz

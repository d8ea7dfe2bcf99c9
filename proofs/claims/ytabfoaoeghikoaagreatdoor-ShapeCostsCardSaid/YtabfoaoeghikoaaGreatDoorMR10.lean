/- The automaton that has a state for each beginning of words: what is done, plainly. (and what stands behind it: texts laid together) -/
import Derived.Test.YtabfoaoeghikoaaGreatDoorMR7
import Derived.Test.YtabfoaoeghikoaaGreatDoorMR2
import Derived.Test.YtabfoaoeghikoaaGreatDoorMG4
import Derived.Test.YtabfoaoeghikoaaGreatDoorMR9
set_option maxHeartbeats 32000000
set_option maxRecDepth 100000
set_option linter.unusedVariables false
set_option linter.unusedSimpArgs false
namespace Go.Eng.Tryz
open Go Go.Eng Go.Proofs Go.RowKit
open Go.Maps (Keyed)
theorem keyed_arc : Keyed Tryz.prog 70 := Keyed.of_law (deep_law_gate (by kernel_rfl) (of_decide_eq_true (by kernel_rfl)) (of_decide_eq_true (by kernel_rfl)) (by kernel_rfl) (by rw [Tryz.underlying70]))
theorem ar_inj {a b : Ar} (h : ar a = ar b) : a = b := by
  unfold ar at h
  simp only [D.agg.injEq, List.cons.injEq, D.int.injEq, true_and, and_true] at h
  cases a; cases b; simp only at h; rw [h.1, h.2]
theorem c_arc : Tryz.prog.cellsOf 70 = 2 := by kernel_rfl
def Ar.fits (a : Ar) : Prop := (-9223372036854775808 ≤ a.sign ∧ a.sign ≤ 9223372036854775807) ∧ (-9223372036854775808 ≤ a.to ∧ a.to ≤ 9223372036854775807)
theorem kl_arc {d : Nat} {a : Ar} (h : a.fits) : Tryz.prog.keyLits (d + 2) 70 [.int .i64 a.sign, .int .i64 a.to] = some [.int .i64 a.sign, .int .i64 a.to] := by
  unfold Program.keyLits
  rw [Tryz.underlying70]
  simp [List.mapM_cons, c_arc, c_i, kl_int h.1, kl_int h.2]
theorem keyd_arc {a : Ar} (h : a.fits) : KeyD Tryz.prog 70 (ar a) := by
  obtain ⟨d, hd⟩ := depth_eq
  refine ⟨pure_ints (l := [a.sign, a.to]), _, .string (keyBytes [.int .i64 a.sign, .int .i64 a.to]), fun w M => rep_ints (l := [a.sign, a.to]), ?_⟩
  unfold keyOf
  rw [Tryz.underlying70]
  have hk : Tryz.prog.keyType 70 = true := by kernel_rfl
  have hf : (Value.agg (([a.sign, a.to]).map fun z => Value.int .i64 z).toArray).formed Tryz.prog 70 = true := by
    simp [Value.formed, Tryz.underlying70, c_arc]
  simp only [hk, hf, Bool.and_self, if_true, hd]
  have := kl_arc (d := d + 2) h
  simp only [Value.cells, List.map_cons, List.map_nil]
  rw [this]
  rfl
def ema (m : List (Ar × Int)) : List (D × D) := m.map fun p => (ar p.1, .int .i64 p.2)
def MsA (m : List (Ar × Int)) : Prop := (∀ p ∈ m, p.1.fits) ∧ (m.map (·.1)).Nodup
theorem ema_nodup {m : List (Ar × Int)} (h : MsA m) : ((ema m).map (·.1)).Nodup := by
  unfold ema
  rw [List.map_map, List.Nodup, List.pairwise_map]
  have := h.2
  rw [List.Nodup, List.pairwise_map] at this
  exact this.imp fun hn he => hn (ar_inj he)
theorem ema_ok {m : List (Ar × Int)} (h : MsA m) {a : Ar} (ha : a.fits) : MapOk Tryz.prog 70 (ema m) (ar a) := by
  refine ⟨keyed_arc, keyd_arc ha, fun p hp => ?_, ema_nodup h⟩
  obtain ⟨r, hr, rfl⟩ := List.mem_map.1 hp
  exact keyd_arc (h.1 r hr)
def aget : List (Ar × Int) → Ar → Option Int
  | [], _ => none
  | x :: t, a => if x.1 = a then some x.2 else aget t a
theorem mget_ema (m : List (Ar × Int)) (a : Ar) : mget (ema m) (ar a) = (aget m a).map (D.int .i64) := by
  induction m with
  | nil => rfl
  | cons x t ih =>
    simp only [ema, List.map_cons, mget, aget]
    by_cases hx : x.1 = a
    · rw [if_pos hx, if_pos (by rw [hx])]; rfl
    · rw [if_neg hx, if_neg (fun e => hx (ar_inj e))]; exact ih
theorem mput_ema {m : List (Ar × Int)} {a : Ar} {z : Int} (h : aget m a = none) : mput (ema m) (ar a) (.int .i64 z) = ema (m ++ [(a, z)]) := by
  induction m with
  | nil => rfl
  | cons x t ih =>
    simp only [aget] at h
    split at h
    · cases h
    · rename_i hx
      simp only [ema, List.map_cons, mput, List.cons_append]
      rw [if_neg (fun e => hx (ar_inj e))]
      exact congrArg _ (ih h)
theorem aget_mem {m : List (Ar × Int)} {a : Ar} {z : Int} (h : aget m a = some z) : (a, z) ∈ m := by
  induction m with
  | nil => cases h
  | cons x t ih =>
    simp only [aget] at h
    split at h
    · rename_i hx; cases h; subst hx; simp
    · exact List.mem_cons_of_mem _ (ih h)
theorem aget_none {m : List (Ar × Int)} {a : Ar} (h : aget m a = none) : a ∉ m.map (·.1) := by
  induction m with
  | nil => simp
  | cons x t ih =>
    simp only [aget] at h
    split at h
    · cases h
    · rename_i hx
      simp only [List.map_cons, List.mem_cons, not_or]
      exact ⟨fun e => hx e.symm, ih h⟩
theorem getB_setI {α : Type} [Inhabited α] {l : List α} {i j : Nat} {v : α} (h : i < l.length) : (l.set i v)[j]! = if j = i then v else l[j]! := by
  simp only [List.getElem!_eq_getElem?_getD, List.getElem?_set]
  by_cases e : j = i
  · subst e; simp [h]
  · rw [if_neg (fun x => e x.symm), if_neg e]
structure TS where
  out : List Sta
  at_ : List Int
  m : List (Ar × Int)
def setFin (l : List Sta) (k : Nat) (b : Bool) : List Sta := l.set k ⟨(l[k]!).final || b, (l[k]!).arcs⟩
def addArc (l : List Sta) (k : Nat) (a : Ar) : List Sta := l.set k ⟨(l[k]!).final, (l[k]!).arcs ++ [a]⟩
def tword (L : List (List Int)) (n i : Nat) (s : TS) : TS :=
  if n < (L[i]!).length then
    match aget s.m ⟨(L[i]!)[n]!, s.at_[i]!⟩ with
    | some to => ⟨setFin s.out to.toNat (decide (n + 1 = (L[i]!).length)), s.at_.set i to, s.m⟩
    | none => ⟨setFin (addArc (s.out ++ [⟨false, []⟩]) (s.at_[i]!).toNat ⟨(L[i]!)[n]!, s.out.length⟩) s.out.length (decide (n + 1 = (L[i]!).length)), s.at_.set i s.out.length, s.m ++ [((⟨(L[i]!)[n]!, s.at_[i]!⟩ : Ar), (s.out.length : Int))]⟩
  else s
def twords (L : List (List Int)) (n i : Nat) (s : TS) : TS := (List.range i).foldl (fun s i => tword L n i s) s
def tlev (L : List (List Int)) (n : Nat) : TS := (List.range n).foldl (fun s n => twords L n L.length ⟨s.out, s.at_, []⟩) (⟨[⟨false, []⟩], List.replicate L.length 0, []⟩ : TS)
def trieF (L : List (List Int)) : List Sta := (tlev L 20).out
theorem twords_step (L : List (List Int)) (n i : Nat) (s : TS) : twords L n (i + 1) s = tword L n i (twords L n i s) := by simp [twords, List.range_succ]
theorem tlev_step (L : List (List Int)) (n : Nat) : tlev L (n + 1) = twords L n L.length ⟨(tlev L n).out, (tlev L n).at_, []⟩ := by simp [tlev, List.range_succ]
theorem setFin_len (l : List Sta) (k : Nat) (b : Bool) : (setFin l k b).length = l.length := by simp [setFin]
theorem addArc_len (l : List Sta) (k : Nat) (a : Ar) : (addArc l k a).length = l.length := by simp [addArc]
structure TI (L : List (List Int)) (s : TS) (c : Nat) : Prop where
  pos : 0 < s.out.length
  len : s.out.length ≤ c
  at_ : s.at_.length = L.length
  ats : ∀ i, i < L.length → 0 ≤ s.at_[i]! ∧ s.at_[i]! < s.out.length
  vals : ∀ p ∈ s.m, 0 ≤ p.2 ∧ p.2 < s.out.length
  keys : MsA s.m
  arcs : ∀ k : Nat, (s.out[k]!).arcs.length ≤ c
theorem setFin_arcs (l : List Sta) (k : Nat) (b : Bool) (j : Nat) : ((setFin l k b)[j]!).arcs = (l[j]!).arcs := by
  unfold setFin
  by_cases h : k < l.length
  · rw [getB_setI h]
    split
    · rename_i e; subst e; rfl
    · rfl
  · rw [List.set_eq_of_length_le (by omega)]
theorem addArc_arcs (l : List Sta) (k : Nat) (a : Ar) (j : Nat) : ((addArc l k a)[j]!).arcs.length ≤ (l[j]!).arcs.length + 1 := by
  unfold addArc
  by_cases h : k < l.length
  · rw [getB_setI h]
    split
    · rename_i e; subst e; simp
    · omega
  · rw [List.set_eq_of_length_le (by omega)]; omega
theorem snoc_arcs (l : List Sta) (j : Nat) : ((l ++ [⟨false, []⟩])[j]!).arcs.length ≤ (l[j]!).arcs.length := by
  simp only [List.getElem!_eq_getElem?_getD, List.getElem?_append]
  split
  · exact Nat.le_refl _
  · rename_i h
    rw [List.getElem?_eq_none (l := l) (by omega)]
    cases hq : [(⟨false, []⟩ : Sta)][j - l.length]? with
    | none => simp
    | some x =>
      have := List.mem_of_getElem? hq
      simp at this
      subst this
      simp
theorem tword_inv {L : List (List Int)} {n i c : Nat} {s : TS} (hL : ∀ w ∈ L, ∀ z ∈ w, -9223372036854775808 ≤ z ∧ z ≤ 9223372036854775807) (hi : i < L.length) (hc : c ≤ 1000000) (h : TI L s c) : TI L (tword L n i s) (c + 1) := by
  obtain ⟨h1, h2, h3, h4, h5, h6, h7⟩ := h
  unfold tword
  split
  · rename_i hn
    have hz : -9223372036854775808 ≤ (L[i]!)[n]! ∧ (L[i]!)[n]! ≤ 9223372036854775807 := by
      rw [getElem!_pos (L[i]!) n hn]
      exact hL (L[i]!) (by rw [getElem!_pos L i hi]; exact List.getElem_mem hi) _ (List.getElem_mem hn)
    have hat := h4 i hi
    split
    · rename_i to hto
      have hv := h5 _ (aget_mem hto)
      simp only at hv
      refine ⟨by rw [setFin_len]; exact h1, by rw [setFin_len]; omega, by simp [h3], fun j hj => ?_, fun p hp => by rw [setFin_len]; exact h5 p hp, h6, fun k => by rw [setFin_arcs]; have := h7 k; omega⟩
      rw [setFin_len]
      simp only
      rw [getB_setI (by rw [h3]; exact hi)]
      split
      · exact hv
      · exact h4 j hj
    · rename_i hto
      have el : (setFin (addArc (s.out ++ [⟨false, []⟩]) (s.at_[i]!).toNat ⟨(L[i]!)[n]!, s.out.length⟩) s.out.length (decide (n + 1 = (L[i]!).length))).length = s.out.length + 1 := by rw [setFin_len, addArc_len]; simp
      refine ⟨by rw [el]; omega, by rw [el]; omega, by simp [h3], fun j hj => ?_, fun p hp => ?_, ⟨fun p hp => ?_, ?_⟩, fun k => ?_⟩
      · rw [el]
        simp only
        rw [getB_setI (by rw [h3]; exact hi)]
        split
        · omega
        · have := h4 j hj; omega
      · rw [el]
        simp only [List.mem_append, List.mem_singleton] at hp
        rcases hp with hp | hp
        · have := h5 p hp; omega
        · subst hp; simp only; omega
      · simp only [List.mem_append, List.mem_singleton] at hp
        rcases hp with hp | hp
        · exact h6.1 p hp
        · subst hp; exact ⟨hz, by show _ ≤ s.at_[i]!; omega, by show s.at_[i]! ≤ _; omega⟩
      · simp only [List.map_append, List.map_cons, List.map_nil]
        rw [List.nodup_append]
        refine ⟨h6.2, by simp, fun a ha b hb => ?_⟩
        simp only [List.mem_singleton] at hb
        subst hb
        exact fun e => aget_none hto (e ▸ ha)
      · rw [setFin_arcs]
        have q1 := addArc_arcs (s.out ++ [⟨false, []⟩]) (s.at_[i]!).toNat ⟨(L[i]!)[n]!, s.out.length⟩ k
        have q2 := snoc_arcs s.out k
        have q3 := h7 k
        omega
  · exact ⟨h1, by omega, h3, h4, h5, h6, fun k => by have := h7 k; omega⟩
theorem twords_inv {L : List (List Int)} {n c : Nat} {s : TS} (hL : ∀ w ∈ L, ∀ z ∈ w, -9223372036854775808 ≤ z ∧ z ≤ 9223372036854775807) (h : TI L s c) : ∀ i, i ≤ L.length → c + i ≤ 1000000 → TI L (twords L n i s) (c + i) := by
  intro i
  induction i with
  | zero => intro _ _; simpa [twords] using h
  | succ i ih =>
    intro hi hc
    rw [twords_step]
    have := tword_inv (n := n) (i := i) hL (by omega) (by omega) (ih (by omega) (by omega))
    rw [Nat.add_assoc] at this
    exact this
theorem tlev_inv {L : List (List Int)} (hL : ∀ w ∈ L, ∀ z ∈ w, -9223372036854775808 ≤ z ∧ z ≤ 9223372036854775807) (hl : L.length ≤ 300) : ∀ n, n ≤ 20 → TI L ⟨(tlev L n).out, (tlev L n).at_, []⟩ (1 + n * L.length) := by
  intro n
  induction n with
  | zero =>
    intro _
    refine ⟨by simp [tlev], by simp [tlev], by simp [tlev], fun i hi => ?_, fun p hp => by simp at hp, ⟨fun p hp => by simp at hp, by simp⟩, fun k => ?_⟩
    rotate_left
    · cases k with
      | zero => simp [tlev, List.getElem!_eq_getElem?_getD]
      | succ k =>
        simp only [tlev, List.range_zero, List.foldl_nil, List.getElem!_eq_getElem?_getD, List.getElem?_cons_succ, List.getElem?_nil, Option.getD_none]
        exact Nat.zero_le _
    simp only [tlev, List.range_zero, List.foldl_nil]
    rw [getElem!_pos _ i (by simpa using hi)]
    simp
  | succ n ih =>
    intro hn
    have hb : n * L.length ≤ 20 * 300 := Nat.mul_le_mul (by omega) hl
    have := twords_inv (n := n) hL (ih (by omega)) L.length (Nat.le_refl _) (by omega)
    rw [← tlev_step] at this
    obtain ⟨h1, h2, h3, h4, h5, h6, h7⟩ := this
    exact ⟨h1, by rw [Nat.add_mul]; simp only at h2 ⊢; omega, h3, h4, fun p hp => by simp at hp, ⟨fun p hp => by simp at hp, by simp⟩, fun k => by rw [Nat.add_mul]; have := h7 k; simp only at this ⊢; omega⟩
end Go.Eng.Tryz
set_option linter.unusedVariables false
set_option linter.unusedSimpArgs false
namespace Go.Eng.Tryz
open Go Go.Eng Go.Proofs Go.RowKit
def TA : Tb := ⟨68, 2, 1, 70, 2⟩
theorem stas_getD {l : List Sta} {i : Nat} (h : i < l.length) : (stas l).getD i .nils = .agg [.bool (l[i]!).final, .sl 2 (ars (l[i]!).arcs)] := by
  rw [List.getD_eq_getElem?_getD, stas_get h]; rfl
theorem stas_set {l : List Sta} {i : Nat} {b : Bool} {as_ : List Ar} : (stas l).set i (.agg [.bool b, .sl 2 (ars as_)]) = stas (l.set i ⟨b, as_⟩) := by simp [stas, sta, List.map_set]
theorem stas_snoc {l : List Sta} : stas l ++ [.agg [.bool false, .sl 2 []]] = stas (l ++ [⟨false, []⟩]) := by simp [stas, sta, ars]
theorem ars_snoc {l : List Ar} {s t : Int} : ars l ++ [.agg [.int .i64 s, .int .i64 t]] = ars (l ++ [⟨s, t⟩]) := by simp [ars, ar]
theorem is_set {l : List Int} {i : Nat} {z : Int} : (is l).set i (.int .i64 z) = is (l.set i z) := by simp [is, List.map_set]
theorem rep_is {n : Nat} {x : Int} : List.replicate n (D.int .i64 x) = is (List.replicate n x) := by simp [is]
attribute [local go_sem] is_len is_get iss_len iss_get ars_len ars_get stas_len stas_get stas_getD stas_set stas_snoc ars_snoc is_set rep_is TA
theorem beq_len {n k : Nat} : (((n : Int) + 1) == (k : Int)) = decide (n + 1 = k) := by
  by_cases h : n + 1 = k
  · rw [decide_eq_true h, beq_iff_eq]; omega
  · rw [decide_eq_false h, beq_eq_false_iff_ne]; omega
theorem pTrie {L : List (List Int)} {bs : D} (hlen : L.length ≤ 300) (hw : ∀ w ∈ L, w.length ≤ 20 ∧ ∀ z ∈ w, -9223372036854775808 ≤ z ∧ z ≤ 9223372036854775807) (hW : Sound Tryz.prog 41 [.sl 1 (iss L)] (.tup [bs, .int .i64 0])) :
    Sound Tryz.prog 23 [.sl 1 (iss L)] (.tup [.sl 2 (stas (trieF L)), .int .i64 0]) := by
  have hL : ∀ w ∈ L, ∀ z ∈ w, -9223372036854775808 ≤ z ∧ z ≤ 9223372036854775807 := fun w h => (hw w h).2
  have e0 : [D.agg [.bool false, .sl 2 []]] = stas [⟨false, []⟩] := rfl
  have en : [D.agg [.bool false, .nils]].all TA.nilAt = true := rfl
  refine Sound.run (N := 111) Tryz.func23 rfl (by kernel_rfl) rfl rfl rfl (by exact args0_1) fun X_ w_ => ?_
  have c0_ := hW; repeat ((fail_if_success (with_reducible show WP _ _ (.region 5 _ _) _ _)); first | with_reducible exact Ev.nil | with_reducible exact gd_n | ((with_reducible apply lk_ok); rfl) | ((with_reducible apply gslot_ok); rfl) | ((with_reducible apply v2d_ok); rfl) | with_reducible apply then_n | with_reducible apply WP_seq | with_reducible apply WP_skip | ((with_reducible apply WP_r (N := 111) rfl rfl); (focus simp only [Nat.reduceAdd] <;> rfl)) | ((with_reducible apply WP_d (N := 111) mixed rfl rfl); (focus simp only [Nat.reduceAdd] <;> rfl)) | ((with_reducible apply Ev_s); (focus first | (apply gd_u; (focus rfl); rfl) | (apply gd_f; (focus rfl); (focus rfl); rfl))) | ((with_reducible apply Ev_sn); (focus first | (apply gd_u; (focus rfl); rfl) | (apply gd_f; (focus rfl); (focus rfl); rfl))) | with_reducible apply gd_t | with_reducible apply Ev_mv | with_reducible apply Ev_as | with_reducible apply Ev_mc | with_reducible apply Ev_ac | ((first | (with_reducible apply Ev_pt) | (with_reducible apply Ev_ptc)); (focus rfl)) | ((first | (with_reducible apply Ev_pf) | (with_reducible apply Ev_pfc)); (focus rfl)) | (apply Ev_cf; (focus simp (disch := omega) only [go_sem] <;> rfl); (focus first | exact c0_); (focus rfl); (focus first | (simp (disch := omega) only [go_sem] <;> rfl) | rfl)) | ((with_reducible apply Ev_d); (focus simp only [Nat.reduceAdd] <;> rfl); (focus simp (disch := omega) only [go_sem] <;> rfl)) | (apply Ev_cv; (focus rfl); (focus simp (disch := omega) only [go_sem] <;> rfl); (focus first | exact c0_); (iterate 3 (focus first | (simp (disch := omega) only [go_sem] <;> rfl) | rfl))) | ((first | apply Ev_cmd | apply Ev_cmn); (focus simp only [Nat.reduceAdd] <;> rfl); (focus rfl); (iterate 2 (focus simp (disch := omega) only [go_sem] <;> rfl)); (first | ((focus first | exact c0_); (iterate 2 (focus first | (simp (disch := omega) only [go_sem] <;> rfl) | rfl)); (focus rfl); (iterate 3 (focus first | (simp (disch := omega) only [go_sem] <;> rfl) | rfl))))) | ((first | (with_reducible apply Ev_od) | (with_reducible apply Ev_on)); (focus simp only [Nat.reduceAdd] <;> rfl); (focus simp (disch := omega) only [go_sem] <;> rfl); (focus first | (simp (disch := omega) only [go_sem] <;> rfl) | rfl)) | with_reducible apply endM_n | with_reducible apply endM_r | with_reducible apply then_r | with_reducible apply then_x | with_reducible apply block_n | with_reducible apply block_r | with_reducible apply block_x | with_reducible apply block_y rfl | with_reducible apply scope_n | with_reducible apply scope_r | with_reducible apply scope_x | with_reducible apply end_n | with_reducible apply end_r | with_reducible apply WP_block | with_reducible apply WP_exit | with_reducible apply WP_ret | with_reducible apply WP_label | with_reducible apply WP_scope | ((with_reducible apply WP_t); (focus first | (simp (disch := omega) only [go_sem] <;> rfl) | rfl)) | ((with_reducible apply WP_f); (focus first | (simp (disch := omega) only [go_sem] <;> rfl) | rfl)) | ((with_reducible apply resD_t); (focus rfl)) | ((with_reducible apply resD_2); (focus rfl); (focus rfl)) | (with_reducible rfl) | ((with_reducible show List.map outKeys _ = _); simp only [List.map_cons, List.map_nil, outKeys, keys]; rfl) | ((with_reducible show orderOk _ _ = true); kernel_rfl) | ((with_reducible show _ = _); simp (disch := omega) only [go_sem] <;> rfl) | ((fail_if_success (with_reducible show Ev _ _ _ _ (_ :: _) _ _ _ _ _)); (show Ev _ _ _ _ (_ :: _) _ _ _ _ _)) | fail)
  refine WP_tab 6 20000 TA rfl rfl rfl rfl rfl (by decide) en (Nat.le_of_ble_eq_true rfl) e0 rfl ?_
  refine goT ?_; try exact trivial
  refine WP_loopk (fun n : Nat => n ≤ 20) (fun n => [(0, .d (.sl 1 (iss L))), (6, .tab 20000 (tlev L n).out.length), (7, .own 20003 L.length), (29, .d (.int .i64 n))]) (fun n => [(20000, .tab TA (stas (tlev L n).out) none), (20003, .row 3 1 (is (tlev L n).at_))]) 30000 (fun n => 20 - n) [0, 6, 7, 29] [20000, 20003] 0 (Nat.zero_le _) rfl rfl (Nat.zero_le _) (fun _ _ => rfl) (fun _ _ => rfl) fun n hn => ?_
  have hI0 := tlev_inv hL hlen n hn
  have hstep := tlev_step L n
  by_cases hn2 : n < 20
  · refine goT ?_; try exact trivial
    refine WP_loopk (fun i : Nat => i ≤ L.length) (fun i => [(0, .d (.sl 1 (iss L))), (6, .tab 20000 (twords L n i ⟨(tlev L n).out, (tlev L n).at_, []⟩).out.length), (7, .own 20003 L.length), (29, .d (.int .i64 n)), (8, .d (.int .i64 n)), (9, .map 32000), (33, .d (.sl 1 (iss L))), (34, .d (.int .i64 L.length)), (35, .d (.int .i64 i))])
      (fun i => [(20000, .tab TA (stas (twords L n i ⟨(tlev L n).out, (tlev L n).at_, []⟩).out) none), (20003, .row 3 1 (is (twords L n i ⟨(tlev L n).out, (tlev L n).at_, []⟩).at_)), (32000, .map 70 3 (ema (twords L n i ⟨(tlev L n).out, (tlev L n).at_, []⟩).m))]) 40000 (fun i => L.length - i) [0, 6, 7, 29, 8, 9, 33, 34, 35] [20000, 20003, 32000] 0 (Nat.zero_le _) rfl rfl (Nat.zero_le _) (fun _ _ => rfl) (fun _ _ => rfl) fun i hi => ?_
    have hb : n * L.length ≤ 20 * 300 := Nat.mul_le_mul (by omega) hlen
    have hI := twords_inv (n := n) hL hI0 i hi (by omega)
    have hst := twords_step L n i ⟨(tlev L n).out, (tlev L n).at_, []⟩
    generalize hs : twords L n i ⟨(tlev L n).out, (tlev L n).at_, []⟩ = s at hI hst ⊢
    obtain ⟨h1, h2, h3, h4, h5, h6, h7⟩ := hI
    obtain ⟨c, hc⟩ : ∃ c, c = 1 + n * L.length + i := ⟨_, rfl⟩
    rw [← hc] at h2 h7
    have hc2 : c ≤ 10000 := by omega
    by_cases hi2 : i < L.length
    · have hmem : L[i]! ∈ L := by rw [getElem!_pos L i hi2]; exact List.getElem_mem hi2
      have hwl := (hw _ hmem).1
      by_cases hnw : n < (L[i]!).length
      · have hz : -9223372036854775808 ≤ (L[i]!)[n]! ∧ (L[i]!)[n]! ≤ 9223372036854775807 := hL _ hmem _ (by rw [getElem!_pos (L[i]!) n hnw]; exact List.getElem_mem hnw)
        have hat := h4 i hi2
        obtain ⟨f, hf⟩ : ∃ f : Nat, s.at_[i]! = f := ⟨_, (Int.eq_ofNat_of_zero_le hat.1).choose_spec⟩
        rw [hf] at hat
        have mk := eq_true (ema_ok h6 (a := ⟨(L[i]!)[n]!, f⟩) ⟨hz, by show _ ≤ (f : Int); omega, by show (f : Int) ≤ _; omega⟩)
        have mg := mget_ema s.m ⟨(L[i]!)[n]!, f⟩
        have eb := beq_len (n := n) (k := (L[i]!).length)
        unfold ar at mk mg
        cases hg : aget s.m ⟨(L[i]!)[n]!, f⟩ with
        | some to =>
          rw [hg] at mg
          simp only [Option.map_some] at mg
          have hto := h5 _ (aget_mem hg)
          simp only at hto
          obtain ⟨t, rfl⟩ := Int.eq_ofNat_of_zero_le hto.1
          have hx : tword L n i s = ⟨setFin s.out t (decide (n + 1 = (L[i]!).length)), s.at_.set i t, s.m⟩ := by
            unfold tword
            rw [if_pos hnw, hf, hg]
            rfl
          rw [hx] at hst
          have hln := setFin_len s.out t (decide (n + 1 = (L[i]!).length))
          unfold setFin at hst hln
          cases hfin : (s.out[t]!).final
          · rw [hfin, Bool.false_or] at hst hln
            refine goX (And.intro @h3 (And.intro @hf (And.intro @mk (And.intro @mg (And.intro @hfin @eb))))) ?_; try exact trivial
            refine ⟨i + 1, by omega, ?_, ?_, by omega⟩
            · simp (disch := omega) only [go_sem, keepL, Int.natCast_add, Int.cast_ofNat_Int, hst, hln]
            · simp (disch := omega) only [go_sem, keepL, hst]
          · rw [hfin, Bool.true_or] at hst hln
            refine goX (And.intro @h3 (And.intro @hf (And.intro @mk (And.intro @mg (And.intro @hfin @eb))))) ?_; try exact trivial
            refine ⟨i + 1, by omega, ?_, ?_, by omega⟩
            · simp (disch := omega) only [go_sem, keepL, Int.natCast_add, Int.cast_ofNat_Int, hst, hln]
            · simp (disch := omega) only [go_sem, keepL, hst]
        | none =>
          rw [hg] at mg
          simp only [Option.map_none] at mg
          have mp := mput_ema (z := s.out.length) hg
          unfold ar at mp
          have hx : tword L n i s = ⟨setFin (addArc (s.out ++ [⟨false, []⟩]) f ⟨(L[i]!)[n]!, s.out.length⟩) s.out.length (decide (n + 1 = (L[i]!).length)), s.at_.set i s.out.length, s.m ++ [((⟨(L[i]!)[n]!, f⟩ : Ar), (s.out.length : Int))]⟩ := by
            unfold tword
            rw [if_pos hnw, hf, hg]
            rfl
          rw [hx] at hst
          have hff : f < s.out.length := by omega
          have hl1 : (s.out ++ [(⟨false, []⟩ : Sta)]).length = s.out.length + 1 := by simp
          have hl2 := addArc_len (s.out ++ [⟨false, []⟩]) f ⟨(L[i]!)[n]!, s.out.length⟩
          have hl3 := setFin_len (addArc (s.out ++ [⟨false, []⟩]) f ⟨(L[i]!)[n]!, s.out.length⟩) s.out.length (decide (n + 1 = (L[i]!).length))
          have ha1 := snoc_arcs s.out f
          have ha2 := h7 f
          have hfin : ((addArc (s.out ++ [⟨false, []⟩]) f ⟨(L[i]!)[n]!, s.out.length⟩)[s.out.length]!).final = false := by
            unfold addArc
            rw [getB_setI (by rw [hl1]; omega), if_neg (by omega)]
            simp [List.getElem!_eq_getElem?_getD]
          unfold setFin at hst hl3
          rw [hfin, Bool.false_or] at hst hl3
          unfold addArc at hst hl2 hl3 hfin
          rw [hl1] at hl2
          rw [hl2] at hl3
          generalize ho1 : s.out ++ [(⟨false, []⟩ : Sta)] = o1 at hst hl1 hl2 hl3 ha1 hfin
          refine goX (And.intro @h3 (And.intro @hf (And.intro @mk (And.intro @mg (And.intro @mp (And.intro @ho1 (And.intro @hl1 (And.intro @hl2 (And.intro @hfin @eb))))))))) ?_; try exact trivial
          refine ⟨i + 1, by omega, ?_, ?_, by omega⟩
          · simp (disch := omega) only [go_sem, keepL, Int.natCast_add, Int.cast_ofNat_Int, hst, hl2, hl3]
          · simp (disch := omega) only [go_sem, keepL, hst]
      · have hx : tword L n i s = s := by unfold tword; rw [if_neg hnw]
        rw [hx] at hst
        refine goT ?_; try exact trivial
        refine ⟨i + 1, by omega, ?_, ?_, by omega⟩
        · simp (disch := omega) only [go_sem, keepL, Int.natCast_add, Int.cast_ofNat_Int, hst]
        · simp (disch := omega) only [go_sem, keepL, hst]
    · have hil : i = L.length := by omega
      subst hil
      rw [hs] at hstep
      refine goT ?_; try exact trivial
      refine ⟨n + 1, by omega, ?_, ?_, by omega⟩
      · simp (disch := omega) only [go_sem, keepL, Int.natCast_add, Int.cast_ofNat_Int, hstep]
      · simp (disch := omega) only [go_sem, keepL, hstep]
  have hne : n = 20 := by omega
  subst hne
  rw [show trieF L = (tlev L 20).out from rfl]
  refine goT ?_; try exact trivial
end Go.Eng.Tryz
set_option linter.unusedVariables false
set_option linter.unusedSimpArgs false
namespace Go.Eng.Tryz
open Go Go.Eng Go.Proofs Go.RowKit
attribute [local go_sem] is_len is_get iss_len iss_get iss_snoc bys_len bys_snoc bys_app
def wrE (l : List (List Int)) : Int := if 300 < l.length then 81 else if l.all wfit && srtB l then 0 else 90
theorem wfit_le {w : List Int} (h : wfit w = true) : 0 < w.length ∧ w.length ≤ 20 ∧ w.all gsign = true := by
  simp only [wfit, Bool.and_eq_true, decide_eq_true_eq] at h
  refine ⟨h.1.1.1, h.1.1.2, List.all_eq_true.2 fun z hz => ?_⟩
  have h2 := h.2
  simp only [Bool.not_eq_true', List.any_eq_false] at h2
  have := h2 z hz
  unfold badS at this
  cases hg : gsign z
  · rw [hg] at this; simp at this
  · rfl
theorem pWriteN {l : List (List Int)} (h : 300 < l.length) (hok : WsOk l) : Sound Tryz.prog 41 [.sl 1 (iss l)] (.tup [.nils, .int .i64 81]) := by
  refine Sound.run (N := 46) Tryz.func41 rfl (by kernel_rfl) rfl rfl rfl (by exact args0_1) fun X_ w_ => ?_
  refine goT ?_; try exact trivial
theorem pWriteF {l : List (List Int)} (h : l.length ≤ 300) (hok : WsOk l) (hf : l.all wfit = false) : Sound Tryz.prog 41 [.sl 1 (iss l)] (.tup [.nils, .int .i64 90]) := by
  have c1 := containsW (p := fun w => !wfit w) (g := 93) (fun w hw => pNoFit hw) hok
  rw [any_not, hf] at c1
  have h3 : ¬ 300 < l.length := by omega
  refine Sound.run (N := 46) Tryz.func41 rfl (by kernel_rfl) rfl rfl rfl (by exact args0_1) fun X_ w_ => ?_
  have c0_ := c1; refine goT ?_; try exact trivial
theorem pWriteS {l : List (List Int)} (h : l.length ≤ 300) (h0 : 0 < l.length) (hok : WsOk l) (hf : l.all wfit = true) (hs : ¬ SrtW l) : Sound Tryz.prog 41 [.sl 1 (iss l)] (.tup [.nils, .int .i64 90]) := by
  have hw20 : ∀ w ∈ l, w.length ≤ 1000000 := fun w hw => by have := wfit_le (List.all_eq_true.1 hf w hw); omega
  have c1 := containsW (p := fun w => !wfit w) (g := 93) (fun w hw => pNoFit hw) hok
  rw [any_not, hf] at c1
  have h3 : ¬ 300 < l.length := by omega
  rcases pOSort hw20 (by omega) h0 with ⟨g1, c2⟩ | ⟨g1, L, g2, c2⟩
  · have hsl := wsorted_len l
    have hd : ∃ d, d + 1 < l.length ∧ wcmp (l[d + 1]!) (l[d]!) < 0 := by
      refine Classical.byContradiction fun hn => hs ?_
      have hord : ∀ d, d + 1 < l.length → ¬ wcmp (l[d + 1]!) (l[d]!) < 0 := fun d hd hc => hn ⟨d, hd, hc⟩
      have hp : l.Pairwise (fun a b => ¬ wcmp b a < 0) := by
        rw [List.pairwise_iff_getElem]
        intro i j hi hj hij
        have h2 : ∀ d, i + d < l.length → ¬ wcmp (l[i + d]!) (l[i]!) < 0 := fun d => by
          induction d with
          | zero => intro _; exact wcmp_lt_irr _
          | succ d ih =>
            intro hd
            have a1 := ih (by omega)
            have a2 := hord (i + d) (by omega)
            have b1 := wcmp_swap (l[i]!) (l[i + d]!)
            have b2 := wcmp_swap (l[i + d]!) (l[i + d + 1]!)
            have b3 := wcmp_swap (l[i]!) (l[i + d + 1]!)
            have := wcmp_le_trans (l[i]!) (l[i + d]!) (l[i + d + 1]!) (by omega) (by omega)
            rw [show i + (d + 1) = i + d + 1 by omega]
            omega
        have := h2 (j - i) (by omega)
        rw [show i + (j - i) = j by omega, getElem!_pos l i hi, getElem!_pos l j hj] at this
        exact this
      refine srt_of hp fun j hj e => ?_
      -- two that are alike would stand in the sorted list, too
      have h5 : (wsorted l).Nodup := g1.imp fun {a b} h1 e => by rw [e] at h1; exact wcmp_lt_irr _ h1
      have h6 : l.Nodup := (wsorted_perm l).nodup_iff.1 h5
      rw [getElem!_pos l j (by omega), getElem!_pos l (j + 1) hj] at e
      have := (List.getElem_inj h6).1 e
      omega
    obtain ⟨d, d1, d2⟩ := hd
    have c3 := pIsSortedF hok d1 d2
    refine Sound.run (N := 46) Tryz.func41 rfl (by kernel_rfl) rfl rfl rfl (by exact args0_1) fun X_ w_ => ?_
    have c0_ := c1; have c1_ := c2; have c2_ := c3; refine goX @hsl ?_; try exact trivial
  · have hne : ¬ ((L.length : Int) = (l.length : Int)) := by omega
    have hbe : ((L.length : Int) != (l.length : Int)) = true := by simp; omega
    refine Sound.run (N := 46) Tryz.func41 rfl (by kernel_rfl) rfl rfl rfl (by exact args0_1) fun X_ w_ => ?_
    have c0_ := c1; have c1_ := c2; refine goX @hbe ?_; try exact trivial
theorem pWrite0 : Sound Tryz.prog 41 [.sl 1 (iss [])] (.tup [.nils, .int .i64 0]) := by
  have c1 := containsW (p := fun w => !wfit w) (g := 93) (fun w hw => pNoFit hw) (l := []) ⟨by decide, by simp⟩
  have c2 := pOSort0
  have c3 := pIsSorted (l := []) ⟨by decide, by simp⟩ List.Pairwise.nil
  simp only [iss, List.map_nil, List.any_nil] at c1 c3 ⊢
  refine Sound.run (N := 46) Tryz.func41 rfl (by kernel_rfl) rfl rfl rfl (by exact args0_1) fun X_ w_ => ?_
  have c0_ := c1; have c1_ := c2; have c2_ := c3; refine goT ?_; try exact trivial
  refine WP_once ?_
  refine goT ?_; try exact trivial
theorem pWriteW {l : List (List Int)} (h0 : 0 < l.length) (h1 : l.length ≤ 300) (hf : l.all wfit = true) (hs : SrtW l) : Sound Tryz.prog 41 [.sl 1 (iss l)] (.tup [.sl 1 (bys (lenc l)), .int .i64 0]) := by
  have hw20 : ∀ w ∈ l, w.length ≤ 20 := fun w hw => (wfit_le (List.all_eq_true.1 hf w hw)).2.1
  have hok : WsOk l := ⟨by omega, fun w hw => Nat.le_trans (hw20 w hw) (by decide)⟩
  have c1 := containsW (p := fun w => !wfit w) (g := 93) (fun w hw => pNoFit hw) hok
  rw [any_not, hf] at c1
  have c2 := pWSort1 (fun w hw => Nat.le_trans (hw20 w hw) (by decide)) (by omega) h0 hs
  have c3 := pIsSorted hok hs
  refine Sound.run (N := 46) Tryz.func41 rfl (by kernel_rfl) rfl rfl rfl (by exact args0_1) fun X_ w_ => ?_
  have c0_ := c1; have c1_ := c2; have c2_ := c3; repeat ((fail_if_success (with_reducible show WP _ _ (.region 6 _ _) _ _)); first | with_reducible exact Ev.nil | with_reducible exact gd_n | ((with_reducible apply lk_ok); rfl) | ((with_reducible apply gslot_ok); rfl) | ((with_reducible apply v2d_ok); rfl) | with_reducible apply then_n | with_reducible apply WP_seq | with_reducible apply WP_skip | ((with_reducible apply WP_r (N := 46) rfl rfl); (focus simp only [Nat.reduceAdd] <;> rfl)) | ((with_reducible apply WP_d (N := 46) mixed rfl rfl); (focus simp only [Nat.reduceAdd] <;> rfl)) | ((with_reducible apply Ev_s); (focus first | (apply gd_u; (focus rfl); rfl) | (apply gd_f; (focus rfl); (focus rfl); rfl))) | ((with_reducible apply Ev_sn); (focus first | (apply gd_u; (focus rfl); rfl) | (apply gd_f; (focus rfl); (focus rfl); rfl))) | with_reducible apply gd_t | with_reducible apply Ev_mv | with_reducible apply Ev_as | with_reducible apply Ev_mc | with_reducible apply Ev_ac | ((first | (with_reducible apply Ev_pt) | (with_reducible apply Ev_ptc)); (focus rfl)) | ((first | (with_reducible apply Ev_pf) | (with_reducible apply Ev_pfc)); (focus rfl)) | (apply Ev_cf; (focus simp (disch := omega) only [go_sem] <;> rfl); (focus first | exact c0_ | exact c1_ | exact c2_); (focus rfl); (focus first | (simp (disch := omega) only [go_sem] <;> rfl) | rfl)) | ((with_reducible apply Ev_d); (focus simp only [Nat.reduceAdd] <;> rfl); (focus simp (disch := omega) only [go_sem] <;> rfl)) | (apply Ev_cv; (focus rfl); (focus simp (disch := omega) only [go_sem] <;> rfl); (focus first | exact c0_ | exact c1_ | exact c2_); (iterate 3 (focus first | (simp (disch := omega) only [go_sem] <;> rfl) | rfl))) | ((first | apply Ev_cmd | apply Ev_cmn); (focus simp only [Nat.reduceAdd] <;> rfl); (focus rfl); (iterate 2 (focus simp (disch := omega) only [go_sem] <;> rfl)); (first | ((focus first | exact c0_ | exact c1_ | exact c2_); (iterate 2 (focus first | (simp (disch := omega) only [go_sem] <;> rfl) | rfl)); (focus rfl); (iterate 3 (focus first | (simp (disch := omega) only [go_sem] <;> rfl) | rfl))))) | ((first | (with_reducible apply Ev_od) | (with_reducible apply Ev_on)); (focus simp only [Nat.reduceAdd] <;> rfl); (focus simp (disch := omega) only [go_sem] <;> rfl); (focus first | (simp (disch := omega) only [go_sem] <;> rfl) | rfl)) | with_reducible apply endM_n | with_reducible apply endM_r | with_reducible apply then_r | with_reducible apply then_x | with_reducible apply block_n | with_reducible apply block_r | with_reducible apply block_x | with_reducible apply block_y rfl | with_reducible apply scope_n | with_reducible apply scope_r | with_reducible apply scope_x | with_reducible apply end_n | with_reducible apply end_r | with_reducible apply WP_block | with_reducible apply WP_exit | with_reducible apply WP_ret | with_reducible apply WP_label | with_reducible apply WP_scope | ((with_reducible apply WP_t); (focus first | (simp (disch := omega) only [go_sem] <;> rfl) | rfl)) | ((with_reducible apply WP_f); (focus first | (simp (disch := omega) only [go_sem] <;> rfl) | rfl)) | ((with_reducible apply resD_t); (focus rfl)) | ((with_reducible apply resD_2); (focus rfl); (focus rfl)) | (with_reducible rfl) | ((with_reducible show List.map outKeys _ = _); simp only [List.map_cons, List.map_nil, outKeys, keys]; rfl) | ((with_reducible show orderOk _ _ = true); kernel_rfl) | ((with_reducible show _ = _); simp (disch := omega) only [go_sem] <;> rfl) | ((fail_if_success (with_reducible show Ev _ _ _ _ (_ :: _) _ _ _ _ _)); (show Ev _ _ _ _ (_ :: _) _ _ _ _ _)) | fail)
  refine WP_own 2 9000 5 1 rfl (by decide) (Nat.le_of_ble_eq_true rfl) ?_
  refine goT ?_; try exact trivial
  refine WP_loopk (fun k : Nat => k ≤ l.length) (fun k => [(2, .own 9000 (lenc (l.take k)).length), (28, .d (.sl 1 (iss l))), (29, .d (.int .i64 l.length)), (30, .d (.int .i64 k))]) (fun k => [(9000, .row 5 1 (bys (lenc (l.take k))))]) 9001 (fun k => l.length - k) [2, 28, 29, 30] [9000] 0 (Nat.zero_le _) rfl rfl (Nat.zero_le _) (fun _ _ => rfl) (fun _ _ => rfl) fun k hk => ?_
  have hbl := lenc_len (l.take k) fun w hw => hw20 w (List.mem_of_mem_take hw)
  have hkl : (l.take k).length = k := by simp; omega
  by_cases hk3 : k < l.length
  · have hmem : l[k]! ∈ l := by rw [getElem!_pos l k hk3]; exact List.getElem_mem hk3
    have hk20 := hw20 _ hmem
    have hwl := wenc_len (l[k]!)
    have cp := pPutW (w := l[k]!) (wfit_le (List.all_eq_true.1 hf _ hmem)).2.2 (by omega)
    have hst : lenc (l.take (k + 1)) = lenc (l.take k) ++ wenc (l[k]!) ++ [10] := by rw [atake_snoc hk3, lenc_snoc]
    have c0_ := cp; refine goT ?_; try exact trivial
    refine ⟨k + 1, by omega, ?_, ?_, by omega⟩
    · simp (disch := omega) only [go_sem, keepL, Int.natCast_add, Int.cast_ofNat_Int, hst, List.length_append, List.length_cons, List.length_nil]
    · simp (disch := omega) only [go_sem, keepL, hst, List.append_assoc, List.length_append, List.length_cons, List.length_nil]
  · have hke : k = l.length := by omega
    subst hke
    rw [List.take_length]
    refine goT ?_; try exact trivial
theorem pWrite {l : List (List Int)} (hok : WsOk l) : ∃ bs, Sound Tryz.prog 41 [.sl 1 (iss l)] (.tup [bs, .int .i64 (wrE l)]) := by
  unfold wrE
  by_cases h : 300 < l.length
  · rw [if_pos h]; exact ⟨_, pWriteN h hok⟩
  rw [if_neg h]
  cases hf : l.all wfit
  · exact ⟨_, pWriteF (by omega) hok hf⟩
  cases hs : srtB l
  · have h0 : 0 < l.length := by
      cases l with
      | nil => exact absurd hs (by decide)
      | cons a t => simp
    exact ⟨_, pWriteS (by omega) h0 hok hf (fun h => by rw [srtB_iff.2 h] at hs; cases hs)⟩
  · by_cases h0 : 0 < l.length
    · exact ⟨_, pWriteW h0 (by omega) hf (srtB_iff.1 hs)⟩
    · have : l = [] := by cases l with
        | nil => rfl
        | cons a t => simp at h0
      subst this
      exact ⟨_, pWrite0⟩
theorem wrE_ok {l : List (List Int)} (h : wrE l = 0) : l.length ≤ 300 ∧ l.all wfit = true ∧ SrtW l := by
  unfold wrE at h
  split at h
  · cases h
  · rename_i h1
    split at h
    · rename_i h2
      rw [Bool.and_eq_true] at h2
      exact ⟨by omega, h2.1, srtB_iff.1 h2.2⟩
    · cases h
theorem wrE_of {l : List (List Int)} (h1 : l.length ≤ 300) (h2 : l.all wfit = true) (h3 : SrtW l) : wrE l = 0 := by
  unfold wrE
  rw [if_neg (by omega), h2, srtB_iff.2 h3]
  rfl
theorem wrE_some (l : List (List Int)) : wrE l = 0 ∨ wrE l = 81 ∨ wrE l = 90 := by
  unfold wrE
  split
  · exact .inr (.inl rfl)
  · split
    · exact .inl rfl
    · exact .inr (.inr rfl)
def trieR (l : List (List Int)) : D := if wrE l = 0 then .tup [.sl 2 (stas (trieF l)), .int .i64 0] else .tup [.nils, .int .i64 (wrE l)]
theorem pTrieG {l : List (List Int)} (hok : WsOk l) : Sound Tryz.prog 23 [.sl 1 (iss l)] (trieR l) := by
  obtain ⟨bs, cw⟩ := pWrite hok
  unfold trieR
  by_cases h : wrE l = 0
  · rw [if_pos h]
    rw [h] at cw
    obtain ⟨h1, h2, h3⟩ := wrE_ok h
    refine pTrie h1 (fun w hw => ?_) cw
    obtain ⟨_, g2, g3⟩ := wfit_le (List.all_eq_true.1 h2 w hw)
    refine ⟨g2, fun z hz => ?_⟩
    have := of_decide_eq_true (List.all_eq_true.1 g3 z hz)
    omega
  · rw [if_neg h]
    rcases wrE_some l with e | e | e
    · exact absurd e h
    · rw [e] at cw ⊢
      refine Sound.run (N := 111) Tryz.func23 rfl (by kernel_rfl) rfl rfl rfl (by exact args0_1) fun X_ w_ => ?_
      have c0_ := cw; refine goT ?_; try exact trivial
    · rw [e] at cw ⊢
      refine Sound.run (N := 111) Tryz.func23 rfl (by kernel_rfl) rfl rfl rfl (by exact args0_1) fun X_ w_ => ?_
      have c0_ := cw; refine goT ?_; try exact trivial
end Go.Eng.Tryz

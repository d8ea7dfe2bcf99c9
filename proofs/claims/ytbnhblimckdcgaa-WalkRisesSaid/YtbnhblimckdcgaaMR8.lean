/- Automata: a step; what is told of each state. (and what stands behind it: texts laid together) -/
import Derived.Test.YtbnhblimckdcgaaMG4
import Derived.Test.YtbnhblimckdcgaaMR7
set_option linter.unusedVariables false
set_option linter.unusedSimpArgs false
namespace Go.Eng.Try
open Go Go.Eng Go.Proofs Go.RowKit
attribute [local go_sem] tys
attribute [local go_sem] is_len is_get ars_len ars_get stas_len stas_get
theorem ris_set {l : List Int} {i : Nat} {z : Int} : (is l).set i (.int .i64 z) = is (l.set i z) := by simp [is, List.map_set]
theorem ris_rep {n : Nat} {x : Int} : List.replicate n (D.int .i64 x) = is (List.replicate n x) := by simp [is]
attribute [local go_sem] ris_set ris_rep
/-! ### A step -/
def sgn (z : Int) (a : Ar) : Bool := decide (a.sign = z)
theorem pStep1 {a : Ar} {z : Int} : SoundM Try.prog 89 [.d (ar a), .ref 0 0] [(0, .var [.d (.int .i64 z)])] (.d (.bool (sgn z a))) [(0, .var [.d (.int .i64 z)])] 1 := by
  unfold ar
  by_cases h : a.sign = z
  · rw [show sgn z a = true from decide_eq_true h]
    refine SoundM.run (N := 8) (ks := [0]) Try.func89 rfl (by kernel_rfl) rfl rfl rfl (by first | exact argsA_0 | exact argsA_1 | exact argsA_2 | exact argsA_3 | exact argsA_4 | exact argsA_5 | exact argsA_6) fun X_ ν_ w_ => ?_
    refine goX @h ?_; first | exact trivial | skip
  · rw [show sgn z a = false from decide_eq_false h]
    refine SoundM.run (N := 8) (ks := [0]) Try.func89 rfl (by kernel_rfl) rfl rfl rfl (by first | exact argsA_0 | exact argsA_1 | exact argsA_2 | exact argsA_3 | exact argsA_4 | exact argsA_5 | exact argsA_6) fun X_ ν_ w_ => ?_
    refine goX @h ?_; first | exact trivial | skip
set_option maxHeartbeats 4000000 in
set_option maxRecDepth 10000 in
theorem pIndexS {z : Int} {al : List Ar} (ha : al.length ≤ 9223372036854775807) : SoundM Try.prog 88 [.d (.sl 2 (ars al)), .fn 89 [.ref 0 0]]
    [(0, .var [.d (.int .i64 z)])] (.d (.int .i64 (fidx (sgn z) al))) [(0, .var [.d (.int .i64 z)])] 1 := by
  refine SoundM.run (N := 19) (ks := [0]) Try.func88 rfl (by kernel_rfl) rfl rfl rfl (by first | exact argsA_0 | exact argsA_1 | exact argsA_2 | exact argsA_3 | exact argsA_4 | exact argsA_5 | exact argsA_6) fun X_ ν_ w_ => ?_
  refine goT ?_; first | exact trivial | skip
  refine WP_loopk (fun k : Nat => k ≤ al.length ∧ (al.take k).any (sgn z) = false) (fun k => [(0, .d (.sl 2 (ars al))), (1, .fn 89 [.ref 0 0]), (7, .d (.int .i64 al.length)), (8, .d (.int .i64 k))]) (fun k => [(0, .var [.d (.int .i64 z)])]) 1 (fun k => al.length - k) [0, 1, 7, 8] [0] 0 ⟨Nat.zero_le _, rfl⟩ rfl rfl (Nat.le_of_ble_eq_true rfl) (fun _ _ => rfl) (fun _ _ => rfl) fun k hk => ?_
  obtain ⟨hk1, hk2⟩ := hk
  by_cases hk3 : k < al.length
  · have cw := pStep1 (a := al[k]!) (z := z)
    unfold ar at cw
    cases hb : sgn z (al[k]!)
    · rw [hb] at cw
      have hst := any_step (p := sgn z) hk3 hk2 hb
      have c0_ := cw; refine goT ?_; first | exact trivial | skip
      refine ⟨k + 1, ⟨by omega, hst⟩, ?_, ?_, by omega⟩
      · simp (disch := omega) only [go_sem, keepL, Int.natCast_add, Int.cast_ofNat_Int]
      · simp (disch := omega) only [go_sem, keepL]
    · rw [hb] at cw
      have e := fidx_at (p := sgn z) hk3 hk2 hb
      rw [e]
      have c0_ := cw; refine goT ?_; first | exact trivial | skip
  · have hkl : k = al.length := by omega
    subst hkl
    rw [List.take_length] at hk2
    rw [fidx_none hk2]
    refine goT ?_; first | exact trivial | skip
/-- Where a sign leads. -/
def stepF (l : List Sta) (from_ z : Int) : Option Int :=
  if 0 ≤ from_ ∧ from_ < l.length then ((l[from_.toNat]!).arcs.find? (sgn z)).map (·.to) else none
def stepR : Option Int → D
  | some t => .tup [.int .i64 t, .bool true]
  | none => .tup [.int .i64 0, .bool false]
theorem fidx_find {α : Type} [Inhabited α] {p : α → Bool} {l : List α} (h : l.any p = true) : ∃ k : Nat, fidx p l = k ∧ k < l.length ∧ l.find? p = some (l[k]!) := by
  unfold fidx
  rw [if_pos h]
  obtain ⟨x, hx, hp⟩ := List.any_eq_true.1 h
  have hlt : l.findIdx p < l.length := List.findIdx_lt_length_of_exists ⟨x, hx, hp⟩
  refine ⟨_, rfl, hlt, ?_⟩
  rw [getElem!_pos l _ hlt, List.find?_eq_some_iff_getElem]
  exact ⟨List.findIdx_getElem (w := hlt), _, hlt, rfl, fun j hj => by simpa using List.not_of_lt_findIdx hj⟩
set_option maxHeartbeats 4000000 in
set_option maxRecDepth 10000 in
theorem pStep {l : List Sta} {f z : Int} (hl : StaOk l) : Sound Try.prog 59 [.sl 2 (stas l), .int .i64 f, .int .i64 z] (stepR (stepF l f z)) := by
  have hlen := hl.1
  by_cases h0 : f < 0
  · have e : stepF l f z = none := if_neg (by omega)
    rw [e]; unfold stepR
    refine Sound.run (N := 35) Try.func59 rfl (by kernel_rfl) rfl rfl rfl (by first | exact args0_0 | exact args0_1 | exact args0_2 | exact args0_3 | exact args0_4 | exact args0_5 | exact args0_6) fun X_ w_ => ?_
    refine goT ?_; first | exact trivial | skip
  by_cases h1 : (l.length : Int) ≤ f
  · have e : stepF l f z = none := if_neg (by omega)
    rw [e]; unfold stepR
    refine Sound.run (N := 35) Try.func59 rfl (by kernel_rfl) rfl rfl rfl (by first | exact args0_0 | exact args0_1 | exact args0_2 | exact args0_3 | exact args0_4 | exact args0_5 | exact args0_6) fun X_ w_ => ?_
    refine goT ?_; first | exact trivial | skip
  obtain ⟨k, rfl⟩ := Int.eq_ofNat_of_zero_le (by omega : 0 ≤ f)
  have hk : k < l.length := by omega
  have hak := hl.get hk
  have ci := pIndexS (z := z) (al := (l[k]!).arcs) hak
  have e : stepF l k z = ((l[k]!).arcs.find? (sgn z)).map (·.to) := by unfold stepF; rw [if_pos ⟨by omega, by omega⟩]; rfl
  rw [e]
  cases hany : (l[k]!).arcs.any (sgn z)
  · rw [fidx_none hany] at ci
    have e2 : (l[k]!).arcs.find? (sgn z) = none := by
      rw [List.find?_eq_none]
      intro x hx hp
      have := List.any_eq_true.2 ⟨x, hx, hp⟩
      rw [hany] at this; cases this
    rw [e2]; unfold stepR
    simp only [Option.map_none]
    refine Sound.run (N := 35) Try.func59 rfl (by kernel_rfl) rfl rfl rfl (by first | exact args0_0 | exact args0_1 | exact args0_2 | exact args0_3 | exact args0_4 | exact args0_5 | exact args0_6) fun X_ w_ => ?_
    have c0_ := ci; refine goT ?_; first | exact trivial | skip
  · obtain ⟨j, e1, hj, e2⟩ := fidx_find hany
    rw [e1] at ci
    rw [e2]; unfold stepR
    simp only [Option.map_some]
    refine Sound.run (N := 35) Try.func59 rfl (by kernel_rfl) rfl rfl rfl (by first | exact args0_0 | exact args0_1 | exact args0_2 | exact args0_3 | exact args0_4 | exact args0_5 | exact args0_6) fun X_ w_ => ?_
    have c0_ := ci; refine goT ?_; first | exact trivial | skip
/-! ### What is told of each state -/
def Out (out : List Int) : Heap := [(0, .var [.own 1 out.length]), (1, .row 3 1 (is out))]
theorem pTold1 {out : List Int} {k : Nat} (hk : k < out.length) : SoundM Try.prog 90 [.d (.int .i64 k), .ref 0 0] (Out out) (.d (.int .i64 (out[k]!))) (Out out) 2 := by
  unfold Out
  refine SoundM.run (N := 8) (ks := [0, 1]) Try.func90 rfl (by kernel_rfl) rfl rfl rfl (by first | exact argsA_0 | exact argsA_1 | exact argsA_2 | exact argsA_3 | exact argsA_4 | exact argsA_5 | exact argsA_6) fun X_ ν_ w_ => ?_
  refine goT ?_; first | exact trivial | skip
def arcsIn (s : Sta) (n : Nat) : Prop := ∀ a ∈ s.arcs, 0 ≤ a.to ∧ a.to < n
theorem arcsIn.get {s : Sta} {n : Nat} (h : arcsIn s n) {k : Nat} (hk : k < s.arcs.length) : 0 ≤ (s.arcs[k]!).to ∧ (s.arcs[k]!).to < n := by
  rw [getElem!_pos s.arcs k hk]; exact h _ (List.getElem_mem hk)
def many1 (out : List Int) (m : Int) (a : Ar) : Int := min 301 (m + out[a.to.toNat]!)
def manyF (s : Sta) (out : List Int) : Int := s.arcs.foldl (many1 out) (if s.final = true then 1 else 0)
theorem many1_in {out : List Int} (ho : ∀ z ∈ out, 0 ≤ z ∧ z ≤ 301) {m : Int} (hm : 0 ≤ m ∧ m ≤ 301) (a : Ar) : 0 ≤ many1 out m a ∧ many1 out m a ≤ 301 := by
  unfold many1
  have : 0 ≤ out[a.to.toNat]! := by
    by_cases h : a.to.toNat < out.length
    · rw [getElem!_pos out _ h]; exact (ho _ (List.getElem_mem h)).1
    · rw [List.getElem!_eq_getElem?_getD, List.getElem?_eq_none (by omega)]; decide
  omega
theorem many_fold {out : List Int} (ho : ∀ z ∈ out, 0 ≤ z ∧ z ≤ 301) : ∀ (l : List Ar) (m : Int), (0 ≤ m ∧ m ≤ 301) → 0 ≤ l.foldl (many1 out) m ∧ l.foldl (many1 out) m ≤ 301
  | [], m, h => h
  | a :: l, m, h => many_fold ho l _ (many1_in ho h a)
theorem foldl_take {α β : Type} [Inhabited α] (f : β → α → β) (b : β) {l : List α} {k : Nat} (h : k < l.length) : (l.take (k + 1)).foldl f b = f ((l.take k).foldl f b) (l[k]!) := by
  rw [atake_snoc h, List.foldl_append]; rfl
set_option maxHeartbeats 4000000 in
set_option maxRecDepth 10000 in
theorem pMany1 {s : Sta} {out : List Int} (ho : ∀ z ∈ out, 0 ≤ z ∧ z ≤ 301) (hs : arcsIn s out.length) (hn : s.arcs.length ≤ 9223372036854775807) (hout : out.length ≤ 1000000) : SoundM Try.prog 62 [.d (sta s), .fn 90 [.ref 0 0]] (Out out) (.d (.int .i64 (manyF s out))) (Out out) 2 := by
  have fin : ∀ (m0 : Int), (0 ≤ m0 ∧ m0 ≤ 301) → ∀ k, k ≤ s.arcs.length → 0 ≤ (s.arcs.take k).foldl (many1 out) m0 ∧ (s.arcs.take k).foldl (many1 out) m0 ≤ 301 := fun m0 h k _ => many_fold ho _ _ h
  unfold sta
  cases hf : s.final
  · have e : manyF s out = s.arcs.foldl (many1 out) 0 := by unfold manyF; rw [hf]; rfl
    rw [e]
    unfold Out
    refine SoundM.run (N := 25) (ks := [0, 1]) Try.func62 rfl (by kernel_rfl) rfl rfl rfl (by first | exact argsA_0 | exact argsA_1 | exact argsA_2 | exact argsA_3 | exact argsA_4 | exact argsA_5 | exact argsA_6) fun X_ ν_ w_ => ?_
    refine goT ?_; first | exact trivial | skip
    refine WP_loopk (fun k : Nat => k ≤ s.arcs.length) (fun k => [(1, .fn 90 [.ref 0 0]), (4, .d (.int .i64 ((s.arcs.take k).foldl (many1 out) 0))), (10, .d (.sl 2 (ars s.arcs))), (11, .d (.int .i64 s.arcs.length)), (12, .d (.int .i64 k))]) (fun k => [(0, .var [.own 1 out.length]), (1, .row 3 1 (is out))]) 2 (fun k => s.arcs.length - k) [1, 4, 10, 11, 12] [0, 1] 0 (Nat.zero_le _) rfl rfl (Nat.le_of_ble_eq_true rfl) (fun _ _ => rfl) (fun _ _ => rfl) fun k hk => ?_
    have hm := fin 0 (by omega) k hk
    by_cases hk3 : k < s.arcs.length
    · have hin := hs.get hk3
      have hst := foldl_take (many1 out) 0 hk3
      obtain ⟨t, ht⟩ := Int.eq_ofNat_of_zero_le hin.1
      have htl : t < out.length := by omega
      have cw := pTold1 (out := out) (k := t) htl
      have hv := ho (out[t]!) (by rw [getElem!_pos out t htl]; exact List.getElem_mem htl)
      have e1 : many1 out ((s.arcs.take k).foldl (many1 out) 0) (s.arcs[k]!) = min 301 ((s.arcs.take k).foldl (many1 out) 0 + out[t]!) := by unfold many1; rw [ht]; rfl
      rw [e1] at hst
      unfold Out at cw
      have c0_ := cw; refine goX (And.intro @ht @if_minI) ?_; first | exact trivial | skip
      refine ⟨k + 1, by omega, ?_, ?_, by omega⟩
      · simp (disch := omega) only [go_sem, keepL, Int.natCast_add, Int.cast_ofNat_Int, hst]
      · simp (disch := omega) only [go_sem, keepL]
    · have hkl : k = s.arcs.length := by omega
      subst hkl
      rw [List.take_length]
      refine goT ?_; first | exact trivial | skip
  · have e : manyF s out = s.arcs.foldl (many1 out) 1 := by unfold manyF; rw [hf]; rfl
    rw [e]
    unfold Out
    refine SoundM.run (N := 25) (ks := [0, 1]) Try.func62 rfl (by kernel_rfl) rfl rfl rfl (by first | exact argsA_0 | exact argsA_1 | exact argsA_2 | exact argsA_3 | exact argsA_4 | exact argsA_5 | exact argsA_6) fun X_ ν_ w_ => ?_
    refine goT ?_; first | exact trivial | skip
    refine WP_loopk (fun k : Nat => k ≤ s.arcs.length) (fun k => [(1, .fn 90 [.ref 0 0]), (4, .d (.int .i64 ((s.arcs.take k).foldl (many1 out) 1))), (10, .d (.sl 2 (ars s.arcs))), (11, .d (.int .i64 s.arcs.length)), (12, .d (.int .i64 k))]) (fun k => [(0, .var [.own 1 out.length]), (1, .row 3 1 (is out))]) 2 (fun k => s.arcs.length - k) [1, 4, 10, 11, 12] [0, 1] 0 (Nat.zero_le _) rfl rfl (Nat.le_of_ble_eq_true rfl) (fun _ _ => rfl) (fun _ _ => rfl) fun k hk => ?_
    have hm := fin 1 (by omega) k hk
    by_cases hk3 : k < s.arcs.length
    · have hin := hs.get hk3
      have hst := foldl_take (many1 out) 1 hk3
      obtain ⟨t, ht⟩ := Int.eq_ofNat_of_zero_le hin.1
      have htl : t < out.length := by omega
      have cw := pTold1 (out := out) (k := t) htl
      have hv := ho (out[t]!) (by rw [getElem!_pos out t htl]; exact List.getElem_mem htl)
      have e1 : many1 out ((s.arcs.take k).foldl (many1 out) 1) (s.arcs[k]!) = min 301 ((s.arcs.take k).foldl (many1 out) 1 + out[t]!) := by unfold many1; rw [ht]; rfl
      rw [e1] at hst
      unfold Out at cw
      have c0_ := cw; refine goX (And.intro @ht @if_minI) ?_; first | exact trivial | skip
      refine ⟨k + 1, by omega, ?_, ?_, by omega⟩
      · simp (disch := omega) only [go_sem, keepL, Int.natCast_add, Int.cast_ofNat_Int, hst]
      · simp (disch := omega) only [go_sem, keepL]
    · have hkl : k = s.arcs.length := by omega
      subst hkl
      rw [List.take_length]
      refine goT ?_; first | exact trivial | skip
end Go.Eng.Try
set_option linter.unusedVariables false
set_option linter.unusedSimpArgs false
namespace Go.Eng.Try
open Go Go.Eng Go.Proofs Go.RowKit
/-- Where signs lead. -/
def leadF (l : List Sta) : Int → List Int → Option Int
  | at_, [] => some at_
  | at_, z :: w => match stepF l at_ z with | some t => leadF l t w | none => none
def leadG (l : List Sta) (at_ : Int) (w : List Int) : Option Int := if 0 ≤ at_ ∧ at_ < l.length then leadF l at_ w else none
theorem arcsOk_mem {i n : Int} : ∀ {l : List Ar} {last : Int}, arcsOk i n last l = true → ∀ a ∈ l, i < a.to ∧ a.to < n ∧ gsign a.sign = true ∧ last < a.sign
  | [], _, _, a, h => by cases h
  | b :: l, last, h, a, ha => by
    simp only [arcsOk, Bool.and_eq_true] at h
    have hb := h.1
    simp only [arcOk, Bool.and_eq_true, decide_eq_true_eq] at hb
    rcases List.mem_cons.1 ha with e | e
    · subst e; exact ⟨hb.1.2, hb.2, hb.1.1.2, hb.1.1.1⟩
    · obtain ⟨h1, h2, h3, h4⟩ := arcsOk_mem h.2 a e
      exact ⟨h1, h2, h3, by omega⟩
theorem achk_iff {l : List Sta} : achk l = true ↔ statesOk l l.length = true ∧ 0 < l.length ∧ l.length ≤ 6001 := by
  unfold achk; simp [Bool.and_eq_true, decide_eq_true_eq]
theorem achk_arc {l : List Sta} (h : achk l = true) {k : Nat} (hk : k < l.length) : ∀ a ∈ (l[k]!).arcs, (k : Int) < a.to ∧ a.to < l.length ∧ gsign a.sign = true := fun a ha => by
  have := arcsOk_mem (statesOk_le (achk_iff.1 h).1 hk) a ha
  exact ⟨this.1, this.2.1, this.2.2.1⟩
theorem stepF_in {l : List Sta} (h : achk l = true) {f z t : Int} (hs : stepF l f z = some t) : 0 ≤ f ∧ f < l.length ∧ f < t ∧ t < l.length := by
  unfold stepF at hs
  split at hs
  · rename_i hf
    obtain ⟨a, ha, rfl⟩ := Option.map_eq_some_iff.1 hs
    have hm := List.mem_of_find?_eq_some ha
    obtain ⟨k, rfl⟩ := Int.eq_ofNat_of_zero_le hf.1
    have := achk_arc h (k := k) (by omega) a hm
    exact ⟨hf.1, hf.2, by simpa using this.1, this.2.1⟩
  · cases hs
theorem leadF_in {l : List Sta} (h : achk l = true) : ∀ {w : List Int} {f t : Int}, 0 ≤ f → f < l.length → leadF l f w = some t → f ≤ t ∧ t < l.length ∧ (w ≠ [] → f < t)
  | [], f, t, h0, h1, hs => by simp only [leadF, Option.some.injEq] at hs; subst hs; exact ⟨Int.le_refl _, h1, fun h => absurd rfl h⟩
  | z :: w, f, t, h0, h1, hs => by
    simp only [leadF] at hs
    split at hs
    · rename_i u hu
      obtain ⟨_, _, h2, h3⟩ := stepF_in h hu
      obtain ⟨h4, h5, _⟩ := leadF_in h (by omega) h3 hs
      exact ⟨by omega, h5, fun _ => by omega⟩
    · cases hs
theorem leadF_app (l : List Sta) : ∀ (a b : List Int) (f : Int), leadF l f (a ++ b) = match leadF l f a with | some t => leadF l t b | none => none
  | [], b, f => rfl
  | z :: a, b, f => by
    simp only [List.cons_append, leadF]
    cases stepF l f z with
    | none => rfl
    | some t => exact leadF_app l a b t
theorem leadF_take {l : List Sta} {f : Int} {w : List Int} {k : Nat} (h : k < w.length) : leadF l f (w.take (k + 1)) = match leadF l f (w.take k) with | some t => stepF l t (w[k]!) | none => none := by
  rw [atake_snoc h, leadF_app]
  cases leadF l f (w.take k) with
  | none => rfl
  | some t => simp only [leadF]; cases stepF l t (w[k]!) <;> rfl
theorem leadF_none {l : List Sta} {f : Int} {w : List Int} {k : Nat} (h : leadF l f (w.take k) = none) : leadF l f w = none := by
  have := leadF_app l (w.take k) (w.drop k) f
  rw [List.take_append_drop, h] at this
  exact this
end Go.Eng.Try
set_option linter.unusedVariables false
set_option linter.unusedSimpArgs false
namespace Go.Eng.Try
open Go Go.Eng Go.Proofs Go.RowKit
attribute [local go_sem] tys
attribute [local go_sem] is_len is_get ars_len ars_get stas_len stas_get
theorem getB_setZ {l : List Int} {i j : Nat} {v : Int} (h : i < l.length) : (l.set i v)[j]! = if j = i then v else l[j]! := by
  by_cases e : j = i
  · subst e; rw [if_pos rfl, getElem!_pos _ _ (by simpa using h)]; simp
  · rw [if_neg e, List.getElem!_eq_getElem?_getD, List.getElem!_eq_getElem?_getD, List.getElem?_set_ne (Ne.symm e)]
theorem is_setZ {l : List Int} {i : Nat} {z : Int} : (is l).set i (.int .i64 z) = is (l.set i z) := by simp [is, List.map_set]
theorem is_repZ {n : Nat} {x : Int} : List.replicate n (D.int .i64 x) = is (List.replicate n x) := by simp [is]
attribute [local go_sem] is_setZ is_repZ
/-- What is told of the last j states. -/
def toldI (f : Sta → List Int → Int) (l : List Sta) (j : Nat) : List Int := (List.range j).foldl (fun out j => out.set (l.length - 1 - j) (f (l[l.length - 1 - j]!) out)) (List.replicate l.length 0)
theorem toldI_step (f : Sta → List Int → Int) (l : List Sta) (j : Nat) : toldI f l (j + 1) = (toldI f l j).set (l.length - 1 - j) (f (l[l.length - 1 - j]!) (toldI f l j)) := by simp [toldI, List.range_succ]
theorem toldI_len (f : Sta → List Int → Int) (l : List Sta) : ∀ j, (toldI f l j).length = l.length
  | 0 => by simp [toldI]
  | j + 1 => by rw [toldI_step, List.length_set]; exact toldI_len f l j
theorem mem_setZ {l : List Int} {i : Nat} {v z : Int} (h : z ∈ l.set i v) : z = v ∨ z ∈ l := (List.mem_or_eq_of_mem_set h).symm
theorem toldI_inv {f : Sta → List Int → Int} {l : List Sta} {inv : Nat → Int → Prop} (h0 : inv 0 0) (hm : ∀ j z, inv j z → inv (j + 1) z) (hf : ∀ j out, (∀ z ∈ out, inv j z) → inv (j + 1) (f (l[l.length - 1 - j]!) out)) : ∀ j, ∀ z ∈ toldI f l j, inv j z
  | 0, z, hz => by
    simp only [toldI, List.range_zero, List.foldl_nil] at hz
    rw [List.eq_of_mem_replicate hz]; exact h0
  | j + 1, z, hz => by
    rw [toldI_step] at hz
    have ih := toldI_inv h0 hm hf j
    rcases mem_setZ hz with rfl | h
    · exact hf j _ ih
    · exact hm j z (ih z h)
theorem toldI_get0 (f : Sta → List Int → Int) (l : List Sta) : ∀ j a, a + j < l.length → (toldI f l j)[a]! = 0
  | 0, a, h => by
    simp only [toldI, List.range_zero, List.foldl_nil]
    rw [getElem!_pos _ a (by simp; omega)]
    simp
  | j + 1, a, h => by
    rw [toldI_step, getB_setZ (by rw [toldI_len]; omega), if_neg (by omega)]
    exact toldI_get0 f l j a (by omega)
theorem toldI_fix {f : Sta → List Int → Int} {l : List Sta} (hka : achk l = true) (hc : ∀ s out out', (∀ a ∈ s.arcs, out[a.to.toNat]! = out'[a.to.toNat]!) → f s out = f s out') : ∀ j, j ≤ l.length → ∀ k, l.length ≤ k + j → k < l.length → (toldI f l j)[k]! = f (l[k]!) (toldI f l j)
  | 0, _, k, h1, h2 => by omega
  | j + 1, hj, k, h1, h2 => by
    have hl := toldI_len f l j
    have ih := toldI_fix hka hc j (by omega)
    have hc2 : f (l[k]!) (toldI f l (j + 1)) = f (l[k]!) (toldI f l j) := hc _ _ _ fun a ha => by
      have := achk_arc hka h2 a ha
      rw [toldI_step, getB_setZ (by omega), if_neg (by omega)]
    rw [hc2, toldI_step, getB_setZ (by omega)]
    split
    · rename_i e; rw [e]
    · exact ih k (by omega) h2
theorem foldl_congrA {α β : Type} {f g : β → α → β} : ∀ {l : List α} {b : β}, (∀ a ∈ l, ∀ b, f b a = g b a) → l.foldl f b = l.foldl g b
  | [], b, h => rfl
  | a :: l, b, h => by
    simp only [List.foldl_cons]
    rw [h a (by simp)]
    exact foldl_congrA fun x hx => h x (by simp [hx])
theorem manyF_congr (s : Sta) (out out' : List Int) (h : ∀ a ∈ s.arcs, out[a.to.toNat]! = out'[a.to.toNat]!) : manyF s out = manyF s out' := foldl_congrA fun a ha b => by unfold many1; rw [h a ha]
def deep1 (out : List Int) (m : Int) (a : Ar) : Int := if 0 ≤ out[a.to.toNat]! then max m (out[a.to.toNat]! + 1) else m
def deepF (s : Sta) (out : List Int) : Int := s.arcs.foldl (deep1 out) (if s.final = true then 0 else -1)
theorem deepF_congr (s : Sta) (out out' : List Int) (h : ∀ a ∈ s.arcs, out[a.to.toNat]! = out'[a.to.toNat]!) : deepF s out = deepF s out' := foldl_congrA fun a ha b => by unfold deep1; rw [h a ha]
theorem get_in {out : List Int} {P : Int → Prop} (h : ∀ z ∈ out, P z) (h0 : P 0) (t : Nat) : P (out[t]!) := by
  by_cases ht : t < out.length
  · rw [getElem!_pos out t ht]; exact h _ (List.getElem_mem ht)
  · rw [List.getElem!_eq_getElem?_getD, List.getElem?_eq_none (by omega)]; exact h0
theorem deep_fold {out : List Int} {n : Nat} (ho : ∀ z ∈ out, -1 ≤ z ∧ z ≤ n) : ∀ (l : List Ar) (m : Int), (-1 ≤ m ∧ m ≤ n + 1) → -1 ≤ l.foldl (deep1 out) m ∧ l.foldl (deep1 out) m ≤ n + 1
  | [], m, h => h
  | a :: l, m, h => deep_fold ho l _ (by
    have := get_in (P := fun z => -1 ≤ z ∧ z ≤ (n : Int)) ho (by omega) a.to.toNat
    unfold deep1
    split <;> omega)
set_option maxHeartbeats 4000000 in
set_option maxRecDepth 10000 in
theorem pDeep1 {s : Sta} {out : List Int} {n : Nat} (hn0 : n ≤ 1000000) (ho : ∀ z ∈ out, -1 ≤ z ∧ z ≤ n) (hs : arcsIn s out.length) (hn : s.arcs.length ≤ 9223372036854775807) (hout : out.length ≤ 1000000) : SoundM Try.prog 63 [.d (sta s), .fn 90 [.ref 0 0]] (Out out) (.d (.int .i64 (deepF s out))) (Out out) 2 := by
  have fin : ∀ (m0 : Int), (-1 ≤ m0 ∧ m0 ≤ n + 1) → ∀ k, k ≤ s.arcs.length → -1 ≤ (s.arcs.take k).foldl (deep1 out) m0 ∧ (s.arcs.take k).foldl (deep1 out) m0 ≤ n + 1 := fun m0 h k _ => deep_fold ho _ _ h
  unfold sta
  cases hf : s.final
  · have e : deepF s out = s.arcs.foldl (deep1 out) (-1) := by unfold deepF; rw [hf]; rfl
    rw [e]
    unfold Out
    refine SoundM.run (N := 30) (ks := [0, 1]) Try.func63 rfl (by kernel_rfl) rfl rfl rfl (by first | exact argsA_0 | exact argsA_1 | exact argsA_2 | exact argsA_3 | exact argsA_4 | exact argsA_5 | exact argsA_6) fun X_ ν_ w_ => ?_
    refine goT ?_; first | exact trivial | skip
    refine WP_loopk (fun k : Nat => k ≤ s.arcs.length) (fun k => [(1, .fn 90 [.ref 0 0]), (5, .d (.int .i64 ((s.arcs.take k).foldl (deep1 out) (-1)))), (12, .d (.sl 2 (ars s.arcs))), (13, .d (.int .i64 s.arcs.length)), (14, .d (.int .i64 k))]) (fun k => [(0, .var [.own 1 out.length]), (1, .row 3 1 (is out))]) 2 (fun k => s.arcs.length - k) [1, 5, 12, 13, 14] [0, 1] 0 (Nat.zero_le _) rfl rfl (Nat.le_of_ble_eq_true rfl) (fun _ _ => rfl) (fun _ _ => rfl) fun k hk => ?_
    have hm := fin (-1) (by omega) k hk
    by_cases hk3 : k < s.arcs.length
    · have hin := hs.get hk3
      have hst := foldl_take (deep1 out) (-1) hk3
      obtain ⟨t, ht⟩ := Int.eq_ofNat_of_zero_le hin.1
      have htl : t < out.length := by omega
      have cw := pTold1 (out := out) (k := t) htl
      have hv := ho (out[t]!) (by rw [getElem!_pos out t htl]; exact List.getElem_mem htl)
      have e1 : deep1 out ((s.arcs.take k).foldl (deep1 out) (-1)) (s.arcs[k]!) = if 0 ≤ out[t]! then max ((s.arcs.take k).foldl (deep1 out) (-1)) (out[t]! + 1) else (s.arcs.take k).foldl (deep1 out) (-1) := by unfold deep1; rw [ht]; rfl
      rw [e1] at hst
      unfold Out at cw
      by_cases hz : 0 ≤ out[t]!
      · rw [if_pos hz] at hst
        have c0_ := cw; refine goX (And.intro @ht @if_max) ?_; first | exact trivial | skip
        refine ⟨k + 1, by omega, ?_, ?_, by omega⟩
        · simp (disch := omega) only [go_sem, keepL, Int.natCast_add, Int.cast_ofNat_Int, hst]
        · simp (disch := omega) only [go_sem, keepL]
      · rw [if_neg hz] at hst
        have c0_ := cw; refine goX (And.intro @ht @if_max) ?_; first | exact trivial | skip
        refine ⟨k + 1, by omega, ?_, ?_, by omega⟩
        · simp (disch := omega) only [go_sem, keepL, Int.natCast_add, Int.cast_ofNat_Int, hst]
        · simp (disch := omega) only [go_sem, keepL]
    · have hkl : k = s.arcs.length := by omega
      subst hkl
      rw [List.take_length]
      refine goT ?_; first | exact trivial | skip
  · have e : deepF s out = s.arcs.foldl (deep1 out) 0 := by unfold deepF; rw [hf]; rfl
    rw [e]
    unfold Out
    refine SoundM.run (N := 30) (ks := [0, 1]) Try.func63 rfl (by kernel_rfl) rfl rfl rfl (by first | exact argsA_0 | exact argsA_1 | exact argsA_2 | exact argsA_3 | exact argsA_4 | exact argsA_5 | exact argsA_6) fun X_ ν_ w_ => ?_
    refine goT ?_; first | exact trivial | skip
    refine WP_loopk (fun k : Nat => k ≤ s.arcs.length) (fun k => [(1, .fn 90 [.ref 0 0]), (5, .d (.int .i64 ((s.arcs.take k).foldl (deep1 out) 0))), (12, .d (.sl 2 (ars s.arcs))), (13, .d (.int .i64 s.arcs.length)), (14, .d (.int .i64 k))]) (fun k => [(0, .var [.own 1 out.length]), (1, .row 3 1 (is out))]) 2 (fun k => s.arcs.length - k) [1, 5, 12, 13, 14] [0, 1] 0 (Nat.zero_le _) rfl rfl (Nat.le_of_ble_eq_true rfl) (fun _ _ => rfl) (fun _ _ => rfl) fun k hk => ?_
    have hm := fin 0 (by omega) k hk
    by_cases hk3 : k < s.arcs.length
    · have hin := hs.get hk3
      have hst := foldl_take (deep1 out) 0 hk3
      obtain ⟨t, ht⟩ := Int.eq_ofNat_of_zero_le hin.1
      have htl : t < out.length := by omega
      have cw := pTold1 (out := out) (k := t) htl
      have hv := ho (out[t]!) (by rw [getElem!_pos out t htl]; exact List.getElem_mem htl)
      have e1 : deep1 out ((s.arcs.take k).foldl (deep1 out) 0) (s.arcs[k]!) = if 0 ≤ out[t]! then max ((s.arcs.take k).foldl (deep1 out) 0) (out[t]! + 1) else (s.arcs.take k).foldl (deep1 out) 0 := by unfold deep1; rw [ht]; rfl
      rw [e1] at hst
      unfold Out at cw
      by_cases hz : 0 ≤ out[t]!
      · rw [if_pos hz] at hst
        have c0_ := cw; refine goX (And.intro @ht @if_max) ?_; first | exact trivial | skip
        refine ⟨k + 1, by omega, ?_, ?_, by omega⟩
        · simp (disch := omega) only [go_sem, keepL, Int.natCast_add, Int.cast_ofNat_Int, hst]
        · simp (disch := omega) only [go_sem, keepL]
      · rw [if_neg hz] at hst
        have c0_ := cw; refine goX (And.intro @ht @if_max) ?_; first | exact trivial | skip
        refine ⟨k + 1, by omega, ?_, ?_, by omega⟩
        · simp (disch := omega) only [go_sem, keepL, Int.natCast_add, Int.cast_ofNat_Int, hst]
        · simp (disch := omega) only [go_sem, keepL]
    · have hkl : k = s.arcs.length := by omega
      subst hkl
      rw [List.take_length]
      refine goT ?_; first | exact trivial | skip
set_option maxHeartbeats 4000000 in
set_option maxRecDepth 10000 in
theorem pTold {l : List Sta} {g : Nat} {f : Sta → List Int → Int} {inv : Nat → Int → Prop} (hka : achk l = true) (hl : StaOk l) (h0 : inv 0 0) (hm : ∀ j z, inv j z → inv (j + 1) z) (hf : ∀ j out, (∀ z ∈ out, inv j z) → inv (j + 1) (f (l[l.length - 1 - j]!) out))
    (hby : ∀ (s : Sta) (out : List Int) (j : Nat), j ≤ l.length → s ∈ l → out.length = l.length → (∀ z ∈ out, inv j z) → SoundM Try.prog g [.d (sta s), .fn 90 [.ref 0 0]] (Out out) (.d (.int .i64 (f s out))) (Out out) 2) :
    Sound Try.prog 61 [.sl 2 (stas l), .fn g] (.sl 1 (is (toldI f l l.length))) := by
  obtain ⟨_, hl0, hl1⟩ := achk_iff.1 hka
  refine Sound.run (N := 35) Try.func61 rfl (by kernel_rfl) rfl rfl rfl (by first | exact args0_0 | exact args0_1 | exact args0_2 | exact args0_3 | exact args0_4 | exact args0_5 | exact args0_6) fun X_ w_ => ?_
  refine goT ?_; first | exact trivial | skip
  refine WP_loopk (fun j : Nat => j ≤ l.length) (fun j => [(0, .d (.sl 2 (stas l))), (1, .d (.fn g)), (5, .ref 1003 0), (6, .fn 90 [.ref 1003 0]), (14, .d (.int .i64 l.length)), (15, .d (.int .i64 j))]) (fun j => [(1003, .var [.own 1002 l.length]), (1002, .row 3 1 (is (toldI f l j)))]) 4000 (fun j => l.length - j) [0, 1, 5, 6, 14, 15] [1003, 1002] 0 (Nat.zero_le _) rfl rfl (Nat.zero_le _) (fun _ _ => rfl) (fun _ _ => rfl) fun j hj => ?_
  by_cases hj2 : j < l.length
  · have hst := toldI_step f l j
    have hin := toldI_inv (l := l) h0 hm hf j
    have hlo := toldI_len f l j
    generalize toldI f l j = out at *
    obtain ⟨i, hi⟩ : ∃ i, i = l.length - 1 - j := ⟨_, rfl⟩
    have ei : (l.length : Int) - 1 - (j : Int) = (i : Int) := by omega
    rw [← hi] at hst
    have hi2 : i < out.length := by omega
    have hmem : l[i]! ∈ l := by rw [getElem!_pos l i (by omega)]; exact List.getElem_mem _
    have cb := hby (l[i]!) out j (by omega) hmem hlo hin
    unfold sta Out at cb
    rw [hlo] at cb
    have c0_ := cb; refine goX (And.intro @ei @hlo) ?_; first | exact trivial | skip
    refine ⟨j + 1, by omega, ?_, ?_, by omega⟩
    · simp (disch := omega) only [go_sem, keepL, Int.natCast_add, Int.cast_ofNat_Int]
    · simp (disch := omega) only [go_sem, keepL, hst]
  · have hjl : j = l.length := by omega
    subst hjl
    have hlo := toldI_len f l l.length
    refine goX @hlo ?_; first | exact trivial | skip
end Go.Eng.Try

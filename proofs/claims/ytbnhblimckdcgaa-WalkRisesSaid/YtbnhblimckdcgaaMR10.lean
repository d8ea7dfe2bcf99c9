/- Automata: how many words, as the law tells it. (and what stands behind it: texts laid together) -/
import Derived.Test.YtbnhblimckdcgaaMG4
import Derived.Test.YtbnhblimckdcgaaMR9
import Derived.Test.YtbnhblimckdcgaaMR6
import Derived.Test.YtbnhblimckdcgaaMR7
set_option linter.unusedVariables false
set_option linter.unusedSimpArgs false
namespace Go.Eng.Try
open Go Go.Eng Go.Proofs Go.RowKit
attribute [local go_sem] tys
attribute [local go_sem] is_len is_get ars_len ars_get stas_len stas_get is_setZ is_repZ
/-! ### How many words -/
set_option maxHeartbeats 8000000 in
set_option maxRecDepth 10000 in
theorem rMany {l : List Sta} (hl : StaOk l) (hka : achk l = true) : Sound Try.prog 57 [.sl 2 (stas l)] (.sl 1 (is (toldI manyF l l.length))) := by
  obtain ⟨_, hl0, hl1⟩ := achk_iff.1 hka
  refine Sound.run (N := 56) Try.func57 rfl (by kernel_rfl) rfl rfl rfl (by first | exact args0_0 | exact args0_1 | exact args0_2 | exact args0_3 | exact args0_4 | exact args0_5 | exact args0_6) fun X_ w_ => ?_
  refine goT ?_; first | exact trivial | skip
  refine WP_loopk (fun j : Nat => j ≤ l.length) (fun j => [(0, .d (.sl 2 (stas l))), (3, .own 1002 l.length), (4, .d (.int .i64 ((l.length : Int) - 1 - j)))]) (fun j => [(1002, .row 3 1 (is (toldI manyF l j)))]) 4000 (fun j => l.length - j) [0, 3, 4] [1002] 0 (Nat.zero_le _) (by rw [show ((l.length : Int) - 1 - ((0 : Nat) : Int)) = (l.length : Int) - 1 by omega]; rfl) rfl (Nat.zero_le _) (fun _ _ => rfl) (fun _ _ => rfl) fun j hj => ?_
  by_cases hj2 : j < l.length
  · have hst := toldI_step manyF l j
    have hin := manyI_in l j
    have hlo := toldI_len manyF l j
    obtain ⟨i, hi⟩ : ∃ i, i = l.length - 1 - j := ⟨_, rfl⟩
    have ei : (l.length : Int) - 1 - (j : Int) = (i : Int) := by omega
    have ej : (l.length : Int) - 1 - ((j : Int) + 1) = (i : Int) - 1 := by omega
    have h0 := toldI_get0 manyF l j i (by omega)
    rw [← hi] at hst
    generalize toldI manyF l j = out at *
    rw [ei]
    have hi2 : i < out.length := by omega
    have hi3 : i < l.length := by omega
    have hai := hl.get (k := i) hi3
    have hset0 : out.set i 0 = out := by
      have e : out[i] = 0 := by rw [← getElem!_pos out i hi2]; exact h0
      have := List.set_getElem_self hi2
      rw [e] at this
      exact this
    have hset : ∀ x, (is out).set i (.int .i64 x) = is (out.set i x) := fun x => is_setZ
    cases hf : (l[i]!).final
    · have e : manyF (l[i]!) out = (l[i]!).arcs.foldl (many1 out) 0 := by unfold manyF; rw [hf]; rfl
      rw [e] at hst
      refine goX (And.intro @hf (And.intro @hset @hlo)) ?_; first | exact trivial | skip
      refine WP_loopk (fun k : Nat => k ≤ (l[i]!).arcs.length) (fun k => [(0, .d (.sl 2 (stas l))), (3, .own 1002 l.length), (4, .d (.int .i64 i)), (5, .d (.int .i64 k))]) (fun k => [(1002, .row 3 1 (is (out.set i (((l[i]!).arcs.take k).foldl (many1 out) 0))))]) 4000 (fun k => (l[i]!).arcs.length - k) [0, 3, 4, 5] [1002] 0 (Nat.zero_le _) rfl (by rw [List.take_zero, List.foldl_nil, hset0]; rfl) (Nat.zero_le _) (fun _ _ => rfl) (fun _ _ => rfl) fun k hk => ?_
      have hm := many_fold (out := out) hin ((l[i]!).arcs.take k) 0 (by omega)
      generalize hM : ((l[i]!).arcs.take k).foldl (many1 out) 0 = M at hm ⊢
      by_cases hk3 : k < (l[i]!).arcs.length
      · have hmem : (l[i]!).arcs[k]! ∈ (l[i]!).arcs := by rw [getElem!_pos _ k hk3]; exact List.getElem_mem hk3
        obtain ⟨g1, g2, _⟩ := achk_arc hka (show i < l.length by omega) _ hmem
        have hst2 := foldl_take (many1 out) 0 hk3
        rw [hM] at hst2
        obtain ⟨t, ht⟩ := Int.eq_ofNat_of_zero_le (by omega : 0 ≤ ((l[i]!).arcs[k]!).to)
        have htl : t < out.length := by omega
        have hv := hin (out[t]!) (by rw [getElem!_pos out t htl]; exact List.getElem_mem htl)
        have e1 : many1 out M ((l[i]!).arcs[k]!) = min 301 (M + out[t]!) := by unfold many1; rw [ht]; rfl
        rw [e1] at hst2
        have r1 : (out.set i M)[i]! = M := by rw [getB_setZ hi2, if_pos rfl]
        have r2 : (out.set i M)[t]! = out[t]! := by rw [getB_setZ hi2, if_neg (by omega)]
        have r3 : ∀ x, (out.set i M).set i x = out.set i x := fun x => List.set_set ..
        have r4 : (out.set i M).length = l.length := by rw [List.length_set]; exact hlo
        refine goX (And.intro @ht (And.intro @if_minI (And.intro @r1 (And.intro @r2 (And.intro @r3 @r4))))) ?_; first | exact trivial | skip
        refine ⟨k + 1, by omega, ?_, ?_, by omega⟩
        · simp (disch := omega) only [go_sem, keepL, Int.natCast_add, Int.cast_ofNat_Int]
        · simp (disch := omega) only [go_sem, keepL, hst2]
      · have hkl : k = (l[i]!).arcs.length := by omega
        subst hkl
        rw [List.take_length] at hM
        rw [hM] at hst
        have r4 : (out.set i M).length = l.length := by rw [List.length_set]; exact hlo
        refine goX @r4 ?_; first | exact trivial | skip
        refine ⟨j + 1, by omega, ?_, ?_, by omega⟩
        · simp (disch := omega) only [go_sem, keepL, Int.natCast_add, Int.cast_ofNat_Int, ej]
        · simp (disch := omega) only [go_sem, keepL, hst]
    · have e : manyF (l[i]!) out = (l[i]!).arcs.foldl (many1 out) 1 := by unfold manyF; rw [hf]; rfl
      rw [e] at hst
      refine goX (And.intro @hf (And.intro @hset @hlo)) ?_; first | exact trivial | skip
      refine WP_loopk (fun k : Nat => k ≤ (l[i]!).arcs.length) (fun k => [(0, .d (.sl 2 (stas l))), (3, .own 1002 l.length), (4, .d (.int .i64 i)), (5, .d (.int .i64 k))]) (fun k => [(1002, .row 3 1 (is (out.set i (((l[i]!).arcs.take k).foldl (many1 out) 1))))]) 4000 (fun k => (l[i]!).arcs.length - k) [0, 3, 4, 5] [1002] 0 (Nat.zero_le _) rfl rfl (Nat.zero_le _) (fun _ _ => rfl) (fun _ _ => rfl) fun k hk => ?_
      have hm := many_fold (out := out) hin ((l[i]!).arcs.take k) 1 (by omega)
      generalize hM : ((l[i]!).arcs.take k).foldl (many1 out) 1 = M at hm ⊢
      by_cases hk3 : k < (l[i]!).arcs.length
      · have hmem : (l[i]!).arcs[k]! ∈ (l[i]!).arcs := by rw [getElem!_pos _ k hk3]; exact List.getElem_mem hk3
        obtain ⟨g1, g2, _⟩ := achk_arc hka (show i < l.length by omega) _ hmem
        have hst2 := foldl_take (many1 out) 1 hk3
        rw [hM] at hst2
        obtain ⟨t, ht⟩ := Int.eq_ofNat_of_zero_le (by omega : 0 ≤ ((l[i]!).arcs[k]!).to)
        have htl : t < out.length := by omega
        have hv := hin (out[t]!) (by rw [getElem!_pos out t htl]; exact List.getElem_mem htl)
        have e1 : many1 out M ((l[i]!).arcs[k]!) = min 301 (M + out[t]!) := by unfold many1; rw [ht]; rfl
        rw [e1] at hst2
        have r1 : (out.set i M)[i]! = M := by rw [getB_setZ hi2, if_pos rfl]
        have r2 : (out.set i M)[t]! = out[t]! := by rw [getB_setZ hi2, if_neg (by omega)]
        have r3 : ∀ x, (out.set i M).set i x = out.set i x := fun x => List.set_set ..
        have r4 : (out.set i M).length = l.length := by rw [List.length_set]; exact hlo
        refine goX (And.intro @ht (And.intro @if_minI (And.intro @r1 (And.intro @r2 (And.intro @r3 @r4))))) ?_; first | exact trivial | skip
        refine ⟨k + 1, by omega, ?_, ?_, by omega⟩
        · simp (disch := omega) only [go_sem, keepL, Int.natCast_add, Int.cast_ofNat_Int]
        · simp (disch := omega) only [go_sem, keepL, hst2]
      · have hkl : k = (l[i]!).arcs.length := by omega
        subst hkl
        rw [List.take_length] at hM
        rw [hM] at hst
        have r4 : (out.set i M).length = l.length := by rw [List.length_set]; exact hlo
        refine goX @r4 ?_; first | exact trivial | skip
        refine ⟨j + 1, by omega, ?_, ?_, by omega⟩
        · simp (disch := omega) only [go_sem, keepL, Int.natCast_add, Int.cast_ofNat_Int, ej]
        · simp (disch := omega) only [go_sem, keepL, hst]
  · have hjl : j = l.length := by omega
    subst hjl
    have hlo := toldI_len manyF l l.length
    have e0 : (l.length : Int) - 1 - (l.length : Int) = -1 := by omega
    rw [e0]
    refine goX @hlo ?_; first | exact trivial | skip
set_option maxHeartbeats 4000000 in
set_option maxRecDepth 10000 in
theorem rManyW {l : List Sta} (hl : StaOk l) : Sound Try.prog 29 [.sl 2 (stas l)] (.int .i64 (manyN l)) := by
  have cch := rCheckA hl
  cases hka : achk l
  · have e : manyN l = 0 := if_neg (by rw [hka]; simp)
    rw [hka] at cch
    rw [e]
    refine Sound.run (N := 12) Try.func29 rfl (by kernel_rfl) rfl rfl rfl (by first | exact args0_0 | exact args0_1 | exact args0_2 | exact args0_3 | exact args0_4 | exact args0_5 | exact args0_6) fun X_ w_ => ?_
    have c0_ := cch; refine goT ?_; first | exact trivial | skip
  · have e : manyN l = (toldI manyF l l.length)[0]! := if_pos hka
    have ct := rMany hl hka
    have hlo := toldI_len manyF l l.length
    have hl0 := (achk_iff.1 hka).2.1
    rw [hka] at cch
    rw [e]
    generalize toldI manyF l l.length = out at *
    refine Sound.run (N := 12) Try.func29 rfl (by kernel_rfl) rfl rfl rfl (by first | exact args0_0 | exact args0_1 | exact args0_2 | exact args0_3 | exact args0_4 | exact args0_5 | exact args0_6) fun X_ w_ => ?_
    have c0_ := cch; have c1_ := ct; refine goX @hlo ?_; first | exact trivial | skip
end Go.Eng.Try
set_option linter.unusedVariables false
set_option linter.unusedSimpArgs false
namespace Go.Eng.Try
open Go Go.Eng Go.Proofs Go.RowKit
attribute [local go_sem] tys
theorem is_cons {x : Int} {l : List Int} : is (x :: l) = .int .i64 x :: is l := rfl
attribute [local go_sem] is_len is_get rs_len rs_get
/-- A step. -/
structure Se where
  eat : Int
  put : List Int
  any : Bool
  cost : Int
deriving DecidableEq
instance : Inhabited Se := ⟨⟨0, [], false, 0⟩⟩
def se (s : Se) : D := .agg [.int .i64 s.eat, .sl 1 (is s.put), .bool s.any, .int .u64 s.cost]
def ses (l : List Se) : List D := l.map se
theorem ses_len {l : List Se} : (ses l).length = l.length := by simp [ses]
theorem ses_get {l : List Se} {k : Nat} (h : k < l.length) : (ses l)[k]? = some (.agg [.int .i64 (l[k]!).eat, .sl 1 (is (l[k]!).put), .bool (l[k]!).any, .int .u64 (l[k]!).cost]) := by
  simp [ses, se, List.getElem?_eq_getElem h, getElem!_pos l k h]
theorem ses_snoc {l : List Se} {e p : _} {a : Bool} {c : Int} : ses l ++ [.agg [.int .i64 e, .sl 1 (is p), .bool a, .int .u64 c]] = ses (l ++ [⟨e, p, a, c⟩]) := by simp [ses, se]
theorem ses_nil : ses [] = [] := rfl
attribute [local go_sem] ses_len ses_get ses_snoc
set_option maxHeartbeats 4000000 in
set_option maxRecDepth 10000 in
theorem pClone {l : List Int} (hl : l.length ≤ 1000000) : Sound Try.prog 77 [.sl 1 (is l)] (.sl 1 (is l)) := by
  cases l with
  | nil =>
    have h1 : Sound Try.prog 77 [.nils] .nils := by
      refine Sound.run (N := 8) Try.func77 rfl (by kernel_rfl) rfl rfl rfl (by first | exact args0_0 | exact args0_1 | exact args0_2 | exact args0_3 | exact args0_4 | exact args0_5 | exact args0_6) fun X_ w_ => ?_
      refine goT ?_; first | exact trivial | skip
    have h2 : Sound Try.prog 77 [.emp 1] (.sl 1 []) := by
      refine Sound.run (N := 8) Try.func77 rfl (by kernel_rfl) rfl rfl rfl (by first | exact args0_0 | exact args0_1 | exact args0_2 | exact args0_3 | exact args0_4 | exact args0_5 | exact args0_6) fun X_ w_ => ?_
      refine goT ?_; first | exact trivial | skip
    exact Sound.nil_at (sz := 1) 0 rfl (h1.wk (Wks.refl _) (.nil 1)) h2
  | cons x l =>
    simp only [List.length_cons] at hl
    refine Sound.run (N := 8) Try.func77 rfl (by kernel_rfl) rfl rfl rfl (by first | exact args0_0 | exact args0_1 | exact args0_2 | exact args0_3 | exact args0_4 | exact args0_5 | exact args0_6) fun X_ w_ => ?_
    refine goX @is_cons ?_; first | exact trivial | skip
/-- What a loop over steps holds: its variable's slot has key 1; the row's key is 2. -/
def St (Y : Ym) (xs : List Se) : Heap := [(0, .loop Y [(6, .ref 1 0)] .ready), (1, .var [.own 2 xs.length]), (2, .row 82 4 (ses xs))]
def Takes (Y : Ym) : Prop := ∀ (xs : List Se) (s : Se), xs.length ≤ 1000 → s.put.length ≤ 1000000 → SoundY Try.prog [.yld 0, .d (se s)] (St Y xs) (.d (.bool true)) (St Y (xs ++ [s])) 3
def St2 (Y : Ym) (xs : List Se) : Heap := [(0, .var [.yld 1]), (1, .loop Y [(6, .ref 2 0)] .ready), (2, .var [.own 3 xs.length]), (3, .row 82 4 (ses xs))]
set_option maxHeartbeats 4000000 in
set_option maxRecDepth 10000 in
theorem putN {Y : Ym} {xs : List Se} {e : Int} {p : D} {a : Bool} {c : Int} :
    SoundM Try.prog 126 [.d (.bool false), .d (.agg [.int .i64 e, p, .bool a, .int .u64 c]), .ref 0 0] (St2 Y xs) (.d (.bool true)) (St2 Y xs) 4 := by
  unfold St2
  refine SoundM.run (N := 13) (ks := [0, 1, 2, 3]) Try.func126 rfl (by kernel_rfl) rfl rfl rfl (by first | exact argsA_0 | exact argsA_1 | exact argsA_2 | exact argsA_3 | exact argsA_4 | exact argsA_5 | exact argsA_6) fun X_ ν_ w_ => ?_
  refine goT ?_; first | exact trivial | skip
set_option maxHeartbeats 4000000 in
set_option maxRecDepth 10000 in
theorem putY {Y : Ym} (hy : Takes Y) {xs : List Se} {s : Se} (hx : xs.length ≤ 1000) (hs : s.put.length ≤ 1000000) :
    SoundM Try.prog 126 [.d (.bool true), .d (se s), .ref 0 0] (St2 Y xs) (.d (.bool true)) (St2 Y (xs ++ [s])) 4 := by
  have c := hy xs s hx hs
  unfold St2
  unfold St at c
  unfold se at c ⊢
  refine SoundM.run (N := 13) (ks := [0, 1, 2, 3]) Try.func126 rfl (by kernel_rfl) rfl rfl rfl (by first | exact argsA_0 | exact argsA_1 | exact argsA_2 | exact argsA_3 | exact argsA_4 | exact argsA_5 | exact argsA_6) fun X_ ν_ w_ => ?_
  have c0_ := c; refine goT ?_; first | exact trivial | skip
end Go.Eng.Try
set_option linter.unusedVariables false
set_option linter.unusedSimpArgs false
namespace Go.Eng.Try
open Go Go.Eng Go.Proofs Go.RowKit
attribute [local go_sem] tys
attribute [local go_sem] is_len is_get
/-- Words, as a slice's elements. -/
def iss (l : List (List Int)) : List D := l.map fun w => .sl 1 (is w)
theorem iss_len {l : List (List Int)} : (iss l).length = l.length := by simp [iss]
theorem iss_get {l : List (List Int)} {k : Nat} (h : k < l.length) : (iss l)[k]? = some (.sl 1 (is (l[k]!))) := by
  simp [iss, List.getElem?_eq_getElem h, getElem!_pos l k h]
theorem iss_snoc {l : List (List Int)} {w : List Int} : iss l ++ [.sl 1 (is w)] = iss (l ++ [w]) := by simp [iss]
attribute [local go_sem] iss_len iss_get iss_snoc
/-- How long words may be, that a call hands in. -/
def WsOk (l : List (List Int)) : Prop := l.length ≤ 9223372036854775807 ∧ ∀ w ∈ l, w.length ≤ 9223372036854775807
theorem WsOk.get {l : List (List Int)} (h : WsOk l) {k : Nat} (hk : k < l.length) : (l[k]!).length ≤ 9223372036854775807 := by
  rw [getElem!_pos l k hk]; exact h.2 _ (List.getElem_mem hk)
def badS (z : Int) : Bool := !gsign z || blank z
theorem fit1 {z : Int} : Sound Try.prog 127 [.int .i64 z] (.bool (badS z)) := by
  have cg := utfGood (z := z)
  cases hg : gsign z
  · have e : badS z = true := by unfold badS; rw [hg]; rfl
    rw [hg] at cg
    refine Sound.run (N := 18) Try.func127 rfl (by kernel_rfl) rfl rfl rfl (by first | exact args0_0 | exact args0_1 | exact args0_2 | exact args0_3 | exact args0_4 | exact args0_5 | exact args0_6) fun X_ w_ => ?_
    have c0_ := cg; refine goX @e ?_; first | exact trivial | skip
  have eb : badS z = blank z := by unfold badS; rw [hg]; rfl
  rw [hg] at cg
  rw [eb]
  by_cases h1 : z = 32
  · subst h1
    have e : blank 32 = true := by decide
    refine Sound.run (N := 18) Try.func127 rfl (by kernel_rfl) rfl rfl rfl (by first | exact args0_0 | exact args0_1 | exact args0_2 | exact args0_3 | exact args0_4 | exact args0_5 | exact args0_6) fun X_ w_ => ?_
    have c0_ := cg; refine goX @e ?_; first | exact trivial | skip
  by_cases h2 : z = 9
  · subst h2
    have e : blank 9 = true := by decide
    refine Sound.run (N := 18) Try.func127 rfl (by kernel_rfl) rfl rfl rfl (by first | exact args0_0 | exact args0_1 | exact args0_2 | exact args0_3 | exact args0_4 | exact args0_5 | exact args0_6) fun X_ w_ => ?_
    have c0_ := cg; refine goX @e ?_; first | exact trivial | skip
  by_cases h3 : z = 10
  · subst h3
    have e : blank 10 = true := by decide
    refine Sound.run (N := 18) Try.func127 rfl (by kernel_rfl) rfl rfl rfl (by first | exact args0_0 | exact args0_1 | exact args0_2 | exact args0_3 | exact args0_4 | exact args0_5 | exact args0_6) fun X_ w_ => ?_
    have c0_ := cg; refine goX @e ?_; first | exact trivial | skip
  · have e := blank_f (z := z) (by omega)
    refine Sound.run (N := 18) Try.func127 rfl (by kernel_rfl) rfl rfl rfl (by first | exact args0_0 | exact args0_1 | exact args0_2 | exact args0_3 | exact args0_4 | exact args0_5 | exact args0_6) fun X_ w_ => ?_
    have c0_ := cg; refine goX (And.intro @e (And.intro @h1 (And.intro @h2 @h3))) ?_; first | exact trivial | skip
/-- Can a word be written? -/
def wfit (w : List Int) : Bool := decide (0 < w.length ∧ w.length ≤ 20) && decide (w[0]! ≠ 35) && !w.any badS
set_option maxHeartbeats 4000000 in
set_option maxRecDepth 10000 in
theorem pWFit {w : List Int} (hw : w.length ≤ 9223372036854775807) : Sound Try.prog 103 [.sl 1 (is w)] (.bool (wfit w)) := by
  have c1 := containsG (p := badS) (g := 127) (fun z => fit1) hw
  by_cases h0 : 0 < w.length
  · by_cases h1 : w.length ≤ 20
    · by_cases h2 : w[0]! = 35
      · have e : wfit w = false := by unfold wfit; rw [decide_eq_false (p := w[0]! ≠ 35) (fun h => h h2)]; simp
        rw [e]
        refine Sound.run (N := 24) Try.func103 rfl (by kernel_rfl) rfl rfl rfl (by first | exact args0_0 | exact args0_1 | exact args0_2 | exact args0_3 | exact args0_4 | exact args0_5 | exact args0_6) fun X_ w_ => ?_
        have c0_ := c1; refine goX @h2 ?_; first | exact trivial | skip
      · have e : wfit w = !w.any badS := by unfold wfit; rw [decide_eq_true ⟨h0, h1⟩, decide_eq_true (p := w[0]! ≠ 35) h2]; rfl
        rw [e]
        refine Sound.run (N := 24) Try.func103 rfl (by kernel_rfl) rfl rfl rfl (by first | exact args0_0 | exact args0_1 | exact args0_2 | exact args0_3 | exact args0_4 | exact args0_5 | exact args0_6) fun X_ w_ => ?_
        have c0_ := c1; refine goX @h2 ?_; first | exact trivial | skip
    · have e : wfit w = false := by unfold wfit; rw [decide_eq_false (by omega)]; rfl
      rw [e]
      refine Sound.run (N := 24) Try.func103 rfl (by kernel_rfl) rfl rfl rfl (by first | exact args0_0 | exact args0_1 | exact args0_2 | exact args0_3 | exact args0_4 | exact args0_5 | exact args0_6) fun X_ w_ => ?_
      have c0_ := c1; refine goT ?_; first | exact trivial | skip
  · have e : wfit w = false := by unfold wfit; rw [decide_eq_false (by omega)]; rfl
    rw [e]
    refine Sound.run (N := 24) Try.func103 rfl (by kernel_rfl) rfl rfl rfl (by first | exact args0_0 | exact args0_1 | exact args0_2 | exact args0_3 | exact args0_4 | exact args0_5 | exact args0_6) fun X_ w_ => ?_
    have c0_ := c1; refine goT ?_; first | exact trivial | skip
theorem pNoFit {w : List Int} (hw : w.length ≤ 9223372036854775807) : Sound Try.prog 102 [.sl 1 (is w)] (.bool (!wfit w)) := by
  have c := pWFit hw
  refine Sound.run (N := 6) Try.func102 rfl (by kernel_rfl) rfl rfl rfl (by first | exact args0_0 | exact args0_1 | exact args0_2 | exact args0_3 | exact args0_4 | exact args0_5 | exact args0_6) fun X_ w_ => ?_
  have c0_ := c; refine goT ?_; first | exact trivial | skip
set_option maxHeartbeats 4000000 in
set_option maxRecDepth 10000 in
theorem indexW {p : List Int → Bool} {g : Nat} (hp : ∀ w, w.length ≤ 9223372036854775807 → Sound Try.prog g [.sl 1 (is w)] (.bool (p w))) {l : List (List Int)} (hl : WsOk l) : Sound Try.prog 128 [.sl 1 (iss l), .fn g] (.int .i64 (fidx p l)) := by
  have hlen := hl.1
  refine Sound.run (N := 19) Try.func128 rfl (by kernel_rfl) rfl rfl rfl (by first | exact args0_0 | exact args0_1 | exact args0_2 | exact args0_3 | exact args0_4 | exact args0_5 | exact args0_6) fun X_ w_ => ?_
  refine goT ?_; first | exact trivial | skip
  refine WP_loopk (fun k : Nat => k ≤ l.length ∧ (l.take k).any p = false) (fun k => [(0, .d (.sl 1 (iss l))), (1, .d (.fn g)), (7, .d (.int .i64 l.length)), (8, .d (.int .i64 k))]) (fun _ => []) 0 (fun k => l.length - k) [0, 1, 7, 8] [] 0 ⟨Nat.zero_le _, rfl⟩ rfl rfl (Nat.le_refl _) (fun _ _ => rfl) (fun _ _ => rfl) fun k hk => ?_
  obtain ⟨hk1, hw⟩ := hk
  by_cases hk' : k < l.length
  · have c := hp (l[k]!) (hl.get hk')
    cases hg : p (l[k]!)
    · have hst := any_step (p := p) hk' hw hg
      rw [hg] at c
      have c0_ := c; refine goT ?_; first | exact trivial | skip
      refine ⟨k + 1, ⟨by omega, hst⟩, ?_, rfl, by omega⟩
      simp (disch := omega) only [go_sem, keepL, Int.natCast_add, Int.cast_ofNat_Int]
    · have e := fidx_at (p := p) hk' hw hg
      rw [hg] at c
      have c0_ := c; refine goX @e ?_; first | exact trivial | skip
  · have hkl : k = l.length := by omega
    subst hkl
    rw [List.take_length] at hw
    have e := fidx_none hw
    refine goX @e ?_; first | exact trivial | skip
theorem containsW {p : List Int → Bool} {g : Nat} (hp : ∀ w, w.length ≤ 9223372036854775807 → Sound Try.prog g [.sl 1 (is w)] (.bool (p w))) {l : List (List Int)} (hl : WsOk l) : Sound Try.prog 104 [.sl 1 (iss l), .fn g] (.bool (l.any p)) := by
  have e := fidx_ge p l
  refine Sound.run (N := 9) Try.func104 rfl (by kernel_rfl) rfl rfl rfl (by first | exact args0_0 | exact args0_1 | exact args0_2 | exact args0_3 | exact args0_4 | exact args0_5 | exact args0_6) fun X_ w_ => ?_
  have c0_ := indexW hp hl; refine goX @e ?_; first | exact trivial | skip
/-- Do words rise, or stay? -/
def risesW (l : List (List Int)) (n : Nat) : Bool := (List.range n).all fun i => decide (¬ wcmp (l[i + 1]!) (l[i]!) < 0)
set_option maxHeartbeats 4000000 in
set_option maxRecDepth 10000 in
theorem pCmp2 {a b : List Int} (ha : a.length ≤ 9223372036854775807) (hb : b.length ≤ 9223372036854775807) : Sound Try.prog 107 [.sl 1 (is a), .sl 1 (is b)] (.int .i64 (wcmp a b)) := by
  have c := sCompare ha hb
  refine Sound.run (N := 8) Try.func107 rfl (by kernel_rfl) rfl rfl rfl (by first | exact args0_0 | exact args0_1 | exact args0_2 | exact args0_3 | exact args0_4 | exact args0_5 | exact args0_6) fun X_ w_ => ?_
  have c0_ := c; refine goT ?_; first | exact trivial | skip
theorem pCmp1 {a b : List Int} (ha : a.length ≤ 9223372036854775807) (hb : b.length ≤ 9223372036854775807) : Sound Try.prog 130 [.sl 1 (is a), .sl 1 (is b)] (.int .i64 (wcmp a b)) := by
  have c := sCompare ha hb
  refine Sound.run (N := 8) Try.func130 rfl (by kernel_rfl) rfl rfl rfl (by first | exact args0_0 | exact args0_1 | exact args0_2 | exact args0_3 | exact args0_4 | exact args0_5 | exact args0_6) fun X_ w_ => ?_
  have c0_ := c; refine goT ?_; first | exact trivial | skip
theorem pEq2 {a b : List Int} (ha : a.length ≤ 9223372036854775807) (hb : b.length ≤ 9223372036854775807) : Sound Try.prog 132 [.sl 1 (is a), .sl 1 (is b)] (.bool (decide (a = b))) := by
  have c := sEqual ha hb
  refine Sound.run (N := 8) Try.func132 rfl (by kernel_rfl) rfl rfl rfl (by first | exact args0_0 | exact args0_1 | exact args0_2 | exact args0_3 | exact args0_4 | exact args0_5 | exact args0_6) fun X_ w_ => ?_
  have c0_ := c; refine goT ?_; first | exact trivial | skip
/-- Words that rise, each once. -/
def SrtW (l : List (List Int)) : Prop := l.Pairwise fun a b => wcmp a b < 0
theorem SrtW.at {l : List (List Int)} (h : SrtW l) {i j : Nat} (hij : i < j) (hj : j < l.length) : wcmp (l[i]!) (l[j]!) < 0 := by
  rw [getElem!_pos l i (by omega), getElem!_pos l j hj]
  exact List.pairwise_iff_getElem.1 h i j (by omega) hj hij
set_option maxHeartbeats 4000000 in
set_option maxRecDepth 10000 in
theorem pIsSorted {l : List (List Int)} (hl : WsOk l) (hs : SrtW l) : Sound Try.prog 106 [.sl 1 (iss l), .fn 107] (.bool true) := by
  have hlen := hl.1
  refine Sound.run (N := 25) Try.func106 rfl (by kernel_rfl) rfl rfl rfl (by first | exact args0_0 | exact args0_1 | exact args0_2 | exact args0_3 | exact args0_4 | exact args0_5 | exact args0_6) fun X_ w_ => ?_
  by_cases h0 : l.length = 0
  · refine goX @h0 ?_; first | exact trivial | skip
    refine WP_once ?_
    refine goT ?_; first | exact trivial | skip
  obtain ⟨n, hn⟩ : ∃ n, l.length = n + 1 := ⟨l.length - 1, by omega⟩
  have en : (l.length : Int) - 1 = n := by omega
  refine goX @en ?_; first | exact trivial | skip
  refine WP_loopk (fun k : Nat => k ≤ n) (fun k => [(0, .d (.sl 1 (iss l))), (1, .d (.fn 107)), (5, .d (.int .i64 k))]) (fun _ => []) 0 (fun k => k) [0, 1, 5] [] n (Nat.le_refl _) rfl rfl (Nat.le_refl _) (fun _ _ => rfl) (fun _ _ => rfl) fun k hk => ?_
  by_cases hk0 : k = 0
  · subst hk0
    refine goT ?_; first | exact trivial | skip
  · obtain ⟨m, rfl⟩ : ∃ m, k = m + 1 := ⟨k - 1, by omega⟩
    have em : ((m + 1 : Nat) : Int) - 1 = m := by omega
    have c := pCmp2 (hl.get (k := m + 1) (by omega)) (hl.get (k := m) (by omega))
    have h1 := hs.at (i := m) (j := m + 1) (by omega) (by omega)
    have h2 := wcmp_swap (l[m]!) (l[m + 1]!)
    have h3 : ¬ wcmp (l[m + 1]!) (l[m]!) < 0 := by omega
    have c0_ := c; refine goX (And.intro @em @h3) ?_; first | exact trivial | skip
    refine ⟨m, by omega, ?_, rfl, by omega⟩
    simp (disch := omega) only [go_sem, keepL, em]
set_option maxHeartbeats 4000000 in
set_option maxRecDepth 10000 in
/-- Where no two that stand together are alike, nothing falls away. -/
theorem pCompact {l : List (List Int)} (hl : WsOk l) (hs : SrtW l) (h0 : 0 < l.length) : SoundM Try.prog 131 [.own 0 l.length, .d (.fn 132)] [(0, .row 26 1 (iss l))] (.own 0 l.length) [(0, .row 26 1 (iss l))] 1 := by
  have hlen := hl.1
  refine SoundM.run (N := 66) (ks := [0]) Try.func131 rfl (by kernel_rfl) rfl rfl rfl (by first | exact argsA_0 | exact argsA_1 | exact argsA_2 | exact argsA_3 | exact argsA_4 | exact argsA_5 | exact argsA_6) fun X_ ν_ w_ => ?_
  by_cases h1 : l.length < 2
  · refine goT ?_; first | exact trivial | skip
  refine goT ?_; first | exact trivial | skip
  refine WP_loopk (fun k : Nat => 1 ≤ k ∧ k ≤ l.length) (fun k => [(0, .own 0 l.length), (1, .d (.fn 132)), (5, .d (.int .i64 k))]) (fun _ => [(0, .row 26 1 (iss l))]) 1 (fun k => l.length - k) [0, 1, 5] [0] 1 ⟨Nat.le_refl _, by omega⟩ rfl rfl (Nat.le_of_ble_eq_true rfl) (fun _ _ => rfl) (fun _ _ => rfl) fun k hk => ?_
  obtain ⟨hk1, hk2⟩ := hk
  by_cases hk3 : k < l.length
  · obtain ⟨m, rfl⟩ : ∃ m, k = m + 1 := ⟨k - 1, by omega⟩
    have em : ((m + 1 : Nat) : Int) - 1 = m := by omega
    have c := pEq2 (hl.get (k := m + 1) (by omega)) (hl.get (k := m) (by omega))
    have h1 := hs.at (i := m) (j := m + 1) (by omega) (by omega)
    have h2 : decide (l[m + 1]! = l[m]!) = false := decide_eq_false fun e => by
      rw [e] at h1
      have := (wcmp_eq (l[m]!) (l[m]!)).2 rfl
      omega
    rw [h2] at c
    have c0_ := c; refine goX @em ?_; first | exact trivial | skip
    refine ⟨m + 1 + 1, ⟨by omega, by omega⟩, ?_, ?_, by omega⟩
    · simp (disch := omega) only [go_sem, keepL, Int.natCast_add, Int.cast_ofNat_Int]
    · simp (disch := omega) only [go_sem, keepL]
  · have hkl : k = l.length := by omega
    subst hkl
    refine goT ?_; first | exact trivial | skip
end Go.Eng.Try

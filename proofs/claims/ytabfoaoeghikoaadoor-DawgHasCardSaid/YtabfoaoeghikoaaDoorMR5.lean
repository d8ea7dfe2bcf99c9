/- Steps: one that is put, or not; a round. (and what stands behind it: texts laid together) -/
import Derived.Test.YtabfoaoeghikoaaDoorMG4
import Derived.Test.YtabfoaoeghikoaaDoorMR4
import Derived.Shelf.SlSortCmp.WholeK
import Derived.Shelf.SlGeneric
import Derived.Ground.SlsfProg
import Derived.Test.YtabfoaoeghikoaaDoorProg
import Derived.Test.YtabfoaoeghikoaaDoorMH1
set_option linter.unusedVariables false
set_option linter.unusedSimpArgs false
namespace Go.Eng.Tryd
open Go Go.Eng Go.Proofs Go.RowKit
attribute [local go_sem] tys
theorem is_cons {x : Int} {l : List Int} : is (x :: l) = .int .i64 x :: is l := rfl
attribute [local go_sem] is_len is_get rs_len rs_get
/-- A step. -/
structure Se where
  eat : Int
  put : List Int
  any : Bool
  cost : Int
deriving DecidableEq
instance : Inhabited Se := ⟨⟨0, [], false, 0⟩⟩
def se (s : Se) : D := .agg [.int .i64 s.eat, .sl 1 (is s.put), .bool s.any, .int .u64 s.cost]
def ses (l : List Se) : List D := l.map se
theorem ses_len {l : List Se} : (ses l).length = l.length := by simp [ses]
theorem ses_get {l : List Se} {k : Nat} (h : k < l.length) : (ses l)[k]? = some (.agg [.int .i64 (l[k]!).eat, .sl 1 (is (l[k]!).put), .bool (l[k]!).any, .int .u64 (l[k]!).cost]) := by
  simp [ses, se, List.getElem?_eq_getElem h, getElem!_pos l k h]
theorem ses_snoc {l : List Se} {e p : _} {a : Bool} {c : Int} : ses l ++ [.agg [.int .i64 e, .sl 1 (is p), .bool a, .int .u64 c]] = ses (l ++ [⟨e, p, a, c⟩]) := by simp [ses, se]
theorem ses_nil : ses [] = [] := rfl
attribute [local go_sem] ses_len ses_get ses_snoc
set_option maxHeartbeats 4000000 in
set_option maxRecDepth 10000 in
theorem pClone {l : List Int} (hl : l.length ≤ 1000000) : Sound Tryd.prog 23 [.sl 1 (is l)] (.sl 1 (is l)) := by
  cases l with
  | nil =>
    have h1 : Sound Tryd.prog 23 [.nils] .nils := by
      refine Sound.run (N := 8) Tryd.func23 rfl (by kernel_rfl) rfl rfl rfl (by first | exact args0_0 | exact args0_1 | exact args0_2 | exact args0_3 | exact args0_4 | exact args0_5 | exact args0_6) fun X_ w_ => ?_
      refine goT ?_; first | exact trivial | skip
    have h2 : Sound Tryd.prog 23 [.emp 1] (.sl 1 []) := by
      refine Sound.run (N := 8) Tryd.func23 rfl (by kernel_rfl) rfl rfl rfl (by first | exact args0_0 | exact args0_1 | exact args0_2 | exact args0_3 | exact args0_4 | exact args0_5 | exact args0_6) fun X_ w_ => ?_
      refine goT ?_; first | exact trivial | skip
    exact Sound.nil_at (sz := 1) 0 rfl (h1.wk (Wks.refl _) (.nil 1)) h2
  | cons x l =>
    simp only [List.length_cons] at hl
    refine Sound.run (N := 8) Tryd.func23 rfl (by kernel_rfl) rfl rfl rfl (by first | exact args0_0 | exact args0_1 | exact args0_2 | exact args0_3 | exact args0_4 | exact args0_5 | exact args0_6) fun X_ w_ => ?_
    refine goX @is_cons ?_; first | exact trivial | skip
end Go.Eng.Tryd
set_option linter.unusedVariables false
set_option linter.unusedSimpArgs false
namespace Go.Eng.Tryd
open Go Go.Eng Go.Proofs Go.RowKit
attribute [local go_sem] tys
attribute [local go_sem] is_len is_get
/-- Words, as a slice's elements. -/
def iss (l : List (List Int)) : List D := l.map fun w => .sl 1 (is w)
theorem iss_len {l : List (List Int)} : (iss l).length = l.length := by simp [iss]
theorem iss_get {l : List (List Int)} {k : Nat} (h : k < l.length) : (iss l)[k]? = some (.sl 1 (is (l[k]!))) := by
  simp [iss, List.getElem?_eq_getElem h, getElem!_pos l k h]
theorem iss_snoc {l : List (List Int)} {w : List Int} : iss l ++ [.sl 1 (is w)] = iss (l ++ [w]) := by simp [iss]
attribute [local go_sem] iss_len iss_get iss_snoc
/-- How long words may be, that a call hands in. -/
def WsOk (l : List (List Int)) : Prop := l.length ≤ 9223372036854775807 ∧ ∀ w ∈ l, w.length ≤ 9223372036854775807
theorem WsOk.get {l : List (List Int)} (h : WsOk l) {k : Nat} (hk : k < l.length) : (l[k]!).length ≤ 9223372036854775807 := by
  rw [getElem!_pos l k hk]; exact h.2 _ (List.getElem_mem hk)
def badS (z : Int) : Bool := !gsign z || blank z
theorem fit1 {z : Int} : Sound Tryd.prog 71 [.int .i64 z] (.bool (badS z)) := by
  have cg := utfGood (z := z)
  cases hg : gsign z
  · have e : badS z = true := by unfold badS; rw [hg]; rfl
    rw [hg] at cg
    refine Sound.run (N := 18) Tryd.func71 rfl (by kernel_rfl) rfl rfl rfl (by first | exact args0_0 | exact args0_1 | exact args0_2 | exact args0_3 | exact args0_4 | exact args0_5 | exact args0_6) fun X_ w_ => ?_
    have c0_ := cg; refine goX @e ?_; first | exact trivial | skip
  have eb : badS z = blank z := by unfold badS; rw [hg]; rfl
  rw [hg] at cg
  rw [eb]
  by_cases h1 : z = 32
  · subst h1
    have e : blank 32 = true := by decide
    refine Sound.run (N := 18) Tryd.func71 rfl (by kernel_rfl) rfl rfl rfl (by first | exact args0_0 | exact args0_1 | exact args0_2 | exact args0_3 | exact args0_4 | exact args0_5 | exact args0_6) fun X_ w_ => ?_
    have c0_ := cg; refine goX @e ?_; first | exact trivial | skip
  by_cases h2 : z = 9
  · subst h2
    have e : blank 9 = true := by decide
    refine Sound.run (N := 18) Tryd.func71 rfl (by kernel_rfl) rfl rfl rfl (by first | exact args0_0 | exact args0_1 | exact args0_2 | exact args0_3 | exact args0_4 | exact args0_5 | exact args0_6) fun X_ w_ => ?_
    have c0_ := cg; refine goX @e ?_; first | exact trivial | skip
  by_cases h3 : z = 10
  · subst h3
    have e : blank 10 = true := by decide
    refine Sound.run (N := 18) Tryd.func71 rfl (by kernel_rfl) rfl rfl rfl (by first | exact args0_0 | exact args0_1 | exact args0_2 | exact args0_3 | exact args0_4 | exact args0_5 | exact args0_6) fun X_ w_ => ?_
    have c0_ := cg; refine goX @e ?_; first | exact trivial | skip
  · have e := blank_f (z := z) (by omega)
    refine Sound.run (N := 18) Tryd.func71 rfl (by kernel_rfl) rfl rfl rfl (by first | exact args0_0 | exact args0_1 | exact args0_2 | exact args0_3 | exact args0_4 | exact args0_5 | exact args0_6) fun X_ w_ => ?_
    have c0_ := cg; refine goX (And.intro @e (And.intro @h1 (And.intro @h2 @h3))) ?_; first | exact trivial | skip
/-- Can a word be written? -/
def wfit (w : List Int) : Bool := decide (0 < w.length ∧ w.length ≤ 20) && decide (w[0]! ≠ 35) && !w.any badS
set_option maxHeartbeats 4000000 in
set_option maxRecDepth 10000 in
theorem pWFit {w : List Int} (hw : w.length ≤ 9223372036854775807) : Sound Tryd.prog 44 [.sl 1 (is w)] (.bool (wfit w)) := by
  have c1 := containsG (p := badS) (g := 71) (fun z => fit1) hw
  by_cases h0 : 0 < w.length
  · by_cases h1 : w.length ≤ 20
    · by_cases h2 : w[0]! = 35
      · have e : wfit w = false := by unfold wfit; rw [decide_eq_false (p := w[0]! ≠ 35) (fun h => h h2)]; simp
        rw [e]
        refine Sound.run (N := 24) Tryd.func44 rfl (by kernel_rfl) rfl rfl rfl (by first | exact args0_0 | exact args0_1 | exact args0_2 | exact args0_3 | exact args0_4 | exact args0_5 | exact args0_6) fun X_ w_ => ?_
        have c0_ := c1; refine goX @h2 ?_; first | exact trivial | skip
      · have e : wfit w = !w.any badS := by unfold wfit; rw [decide_eq_true ⟨h0, h1⟩, decide_eq_true (p := w[0]! ≠ 35) h2]; rfl
        rw [e]
        refine Sound.run (N := 24) Tryd.func44 rfl (by kernel_rfl) rfl rfl rfl (by first | exact args0_0 | exact args0_1 | exact args0_2 | exact args0_3 | exact args0_4 | exact args0_5 | exact args0_6) fun X_ w_ => ?_
        have c0_ := c1; refine goX @h2 ?_; first | exact trivial | skip
    · have e : wfit w = false := by unfold wfit; rw [decide_eq_false (by omega)]; rfl
      rw [e]
      refine Sound.run (N := 24) Tryd.func44 rfl (by kernel_rfl) rfl rfl rfl (by first | exact args0_0 | exact args0_1 | exact args0_2 | exact args0_3 | exact args0_4 | exact args0_5 | exact args0_6) fun X_ w_ => ?_
      have c0_ := c1; refine goT ?_; first | exact trivial | skip
  · have e : wfit w = false := by unfold wfit; rw [decide_eq_false (by omega)]; rfl
    rw [e]
    refine Sound.run (N := 24) Tryd.func44 rfl (by kernel_rfl) rfl rfl rfl (by first | exact args0_0 | exact args0_1 | exact args0_2 | exact args0_3 | exact args0_4 | exact args0_5 | exact args0_6) fun X_ w_ => ?_
    have c0_ := c1; refine goT ?_; first | exact trivial | skip
theorem pNoFit {w : List Int} (hw : w.length ≤ 9223372036854775807) : Sound Tryd.prog 43 [.sl 1 (is w)] (.bool (!wfit w)) := by
  have c := pWFit hw
  refine Sound.run (N := 6) Tryd.func43 rfl (by kernel_rfl) rfl rfl rfl (by first | exact args0_0 | exact args0_1 | exact args0_2 | exact args0_3 | exact args0_4 | exact args0_5 | exact args0_6) fun X_ w_ => ?_
  have c0_ := c; refine goT ?_; first | exact trivial | skip
set_option maxHeartbeats 4000000 in
set_option maxRecDepth 10000 in
theorem indexW {p : List Int → Bool} {g : Nat} (hp : ∀ w, w.length ≤ 9223372036854775807 → Sound Tryd.prog g [.sl 1 (is w)] (.bool (p w))) {l : List (List Int)} (hl : WsOk l) : Sound Tryd.prog 73 [.sl 1 (iss l), .fn g] (.int .i64 (fidx p l)) := by
  have hlen := hl.1
  refine Sound.run (N := 19) Tryd.func73 rfl (by kernel_rfl) rfl rfl rfl (by first | exact args0_0 | exact args0_1 | exact args0_2 | exact args0_3 | exact args0_4 | exact args0_5 | exact args0_6) fun X_ w_ => ?_
  refine goT ?_; first | exact trivial | skip
  refine WP_loopk (fun k : Nat => k ≤ l.length ∧ (l.take k).any p = false) (fun k => [(0, .d (.sl 1 (iss l))), (1, .d (.fn g)), (7, .d (.int .i64 l.length)), (8, .d (.int .i64 k))]) (fun _ => []) 0 (fun k => l.length - k) [0, 1, 7, 8] [] 0 ⟨Nat.zero_le _, rfl⟩ rfl rfl (Nat.le_refl _) (fun _ _ => rfl) (fun _ _ => rfl) fun k hk => ?_
  obtain ⟨hk1, hw⟩ := hk
  by_cases hk' : k < l.length
  · have c := hp (l[k]!) (hl.get hk')
    cases hg : p (l[k]!)
    · have hst := any_step (p := p) hk' hw hg
      rw [hg] at c
      have c0_ := c; refine goT ?_; first | exact trivial | skip
      refine ⟨k + 1, ⟨by omega, hst⟩, ?_, rfl, by omega⟩
      simp (disch := omega) only [go_sem, keepL, Int.natCast_add, Int.cast_ofNat_Int]
    · have e := fidx_at (p := p) hk' hw hg
      rw [hg] at c
      have c0_ := c; refine goX @e ?_; first | exact trivial | skip
  · have hkl : k = l.length := by omega
    subst hkl
    rw [List.take_length] at hw
    have e := fidx_none hw
    refine goX @e ?_; first | exact trivial | skip
theorem containsW {p : List Int → Bool} {g : Nat} (hp : ∀ w, w.length ≤ 9223372036854775807 → Sound Tryd.prog g [.sl 1 (is w)] (.bool (p w))) {l : List (List Int)} (hl : WsOk l) : Sound Tryd.prog 45 [.sl 1 (iss l), .fn g] (.bool (l.any p)) := by
  have e := fidx_ge p l
  refine Sound.run (N := 9) Tryd.func45 rfl (by kernel_rfl) rfl rfl rfl (by first | exact args0_0 | exact args0_1 | exact args0_2 | exact args0_3 | exact args0_4 | exact args0_5 | exact args0_6) fun X_ w_ => ?_
  have c0_ := indexW hp hl; refine goX @e ?_; first | exact trivial | skip
/-- Do words rise, or stay? -/
def risesW (l : List (List Int)) (n : Nat) : Bool := (List.range n).all fun i => decide (¬ wcmp (l[i + 1]!) (l[i]!) < 0)
set_option maxHeartbeats 4000000 in
set_option maxRecDepth 10000 in
theorem pCmp2 {a b : List Int} (ha : a.length ≤ 9223372036854775807) (hb : b.length ≤ 9223372036854775807) : Sound Tryd.prog 47 [.sl 1 (is a), .sl 1 (is b)] (.int .i64 (wcmp a b)) := by
  have c := sCompare ha hb
  refine Sound.run (N := 8) Tryd.func47 rfl (by kernel_rfl) rfl rfl rfl (by first | exact args0_0 | exact args0_1 | exact args0_2 | exact args0_3 | exact args0_4 | exact args0_5 | exact args0_6) fun X_ w_ => ?_
  have c0_ := c; refine goT ?_; first | exact trivial | skip
theorem pCmp1 {a b : List Int} (ha : a.length ≤ 9223372036854775807) (hb : b.length ≤ 9223372036854775807) : Sound Tryd.prog 25 [.sl 1 (is a), .sl 1 (is b)] (.int .i64 (wcmp a b)) := by
  have c := sCompare ha hb
  refine Sound.run (N := 8) Tryd.func25 rfl (by kernel_rfl) rfl rfl rfl (by first | exact args0_0 | exact args0_1 | exact args0_2 | exact args0_3 | exact args0_4 | exact args0_5 | exact args0_6) fun X_ w_ => ?_
  have c0_ := c; refine goT ?_; first | exact trivial | skip
theorem pEq2 {a b : List Int} (ha : a.length ≤ 9223372036854775807) (hb : b.length ≤ 9223372036854775807) : Sound Tryd.prog 27 [.sl 1 (is a), .sl 1 (is b)] (.bool (decide (a = b))) := by
  have c := sEqual ha hb
  refine Sound.run (N := 8) Tryd.func27 rfl (by kernel_rfl) rfl rfl rfl (by first | exact args0_0 | exact args0_1 | exact args0_2 | exact args0_3 | exact args0_4 | exact args0_5 | exact args0_6) fun X_ w_ => ?_
  have c0_ := c; refine goT ?_; first | exact trivial | skip
/-- Words that rise, each once. -/
def SrtW (l : List (List Int)) : Prop := l.Pairwise fun a b => wcmp a b < 0
theorem SrtW.at {l : List (List Int)} (h : SrtW l) {i j : Nat} (hij : i < j) (hj : j < l.length) : wcmp (l[i]!) (l[j]!) < 0 := by
  rw [getElem!_pos l i (by omega), getElem!_pos l j hj]
  exact List.pairwise_iff_getElem.1 h i j (by omega) hj hij
set_option maxHeartbeats 4000000 in
set_option maxRecDepth 10000 in
theorem pIsSorted {l : List (List Int)} (hl : WsOk l) (hs : SrtW l) : Sound Tryd.prog 46 [.sl 1 (iss l), .fn 47] (.bool true) := by
  have hlen := hl.1
  refine Sound.run (N := 25) Tryd.func46 rfl (by kernel_rfl) rfl rfl rfl (by first | exact args0_0 | exact args0_1 | exact args0_2 | exact args0_3 | exact args0_4 | exact args0_5 | exact args0_6) fun X_ w_ => ?_
  by_cases h0 : l.length = 0
  · refine goX @h0 ?_; first | exact trivial | skip
    refine WP_once ?_
    refine goT ?_; first | exact trivial | skip
  obtain ⟨n, hn⟩ : ∃ n, l.length = n + 1 := ⟨l.length - 1, by omega⟩
  have en : (l.length : Int) - 1 = n := by omega
  refine goX @en ?_; first | exact trivial | skip
  refine WP_loopk (fun k : Nat => k ≤ n) (fun k => [(0, .d (.sl 1 (iss l))), (1, .d (.fn 47)), (5, .d (.int .i64 k))]) (fun _ => []) 0 (fun k => k) [0, 1, 5] [] n (Nat.le_refl _) rfl rfl (Nat.le_refl _) (fun _ _ => rfl) (fun _ _ => rfl) fun k hk => ?_
  by_cases hk0 : k = 0
  · subst hk0
    refine goT ?_; first | exact trivial | skip
  · obtain ⟨m, rfl⟩ : ∃ m, k = m + 1 := ⟨k - 1, by omega⟩
    have em : ((m + 1 : Nat) : Int) - 1 = m := by omega
    have c := pCmp2 (hl.get (k := m + 1) (by omega)) (hl.get (k := m) (by omega))
    have h1 := hs.at (i := m) (j := m + 1) (by omega) (by omega)
    have h2 := wcmp_swap (l[m]!) (l[m + 1]!)
    have h3 : ¬ wcmp (l[m + 1]!) (l[m]!) < 0 := by omega
    have c0_ := c; refine goX (And.intro @em @h3) ?_; first | exact trivial | skip
    refine ⟨m, by omega, ?_, rfl, by omega⟩
    simp (disch := omega) only [go_sem, keepL, em]
set_option maxHeartbeats 4000000 in
set_option maxRecDepth 10000 in
/-- Where no two that stand together are alike, nothing falls away. -/
theorem pCompact {l : List (List Int)} (hl : WsOk l) (hs : SrtW l) (h0 : 0 < l.length) : SoundM Tryd.prog 26 [.own 0 l.length, .d (.fn 27)] [(0, .row 36 1 (iss l))] (.own 0 l.length) [(0, .row 36 1 (iss l))] 1 := by
  have hlen := hl.1
  refine SoundM.run (N := 66) (ks := [0]) Tryd.func26 rfl (by kernel_rfl) rfl rfl rfl (by first | exact argsA_0 | exact argsA_1 | exact argsA_2 | exact argsA_3 | exact argsA_4 | exact argsA_5 | exact argsA_6) fun X_ ν_ w_ => ?_
  by_cases h1 : l.length < 2
  · refine goT ?_; first | exact trivial | skip
  refine goT ?_; first | exact trivial | skip
  refine WP_loopk (fun k : Nat => 1 ≤ k ∧ k ≤ l.length) (fun k => [(0, .own 0 l.length), (1, .d (.fn 27)), (5, .d (.int .i64 k))]) (fun _ => [(0, .row 36 1 (iss l))]) 1 (fun k => l.length - k) [0, 1, 5] [0] 1 ⟨Nat.le_refl _, by omega⟩ rfl rfl (Nat.le_of_ble_eq_true rfl) (fun _ _ => rfl) (fun _ _ => rfl) fun k hk => ?_
  obtain ⟨hk1, hk2⟩ := hk
  by_cases hk3 : k < l.length
  · obtain ⟨m, rfl⟩ : ∃ m, k = m + 1 := ⟨k - 1, by omega⟩
    have em : ((m + 1 : Nat) : Int) - 1 = m := by omega
    have c := pEq2 (hl.get (k := m + 1) (by omega)) (hl.get (k := m) (by omega))
    have h1 := hs.at (i := m) (j := m + 1) (by omega) (by omega)
    have h2 : decide (l[m + 1]! = l[m]!) = false := decide_eq_false fun e => by
      rw [e] at h1
      have := (wcmp_eq (l[m]!) (l[m]!)).2 rfl
      omega
    rw [h2] at c
    have c0_ := c; refine goX @em ?_; first | exact trivial | skip
    refine ⟨m + 1 + 1, ⟨by omega, by omega⟩, ?_, ?_, by omega⟩
    · simp (disch := omega) only [go_sem, keepL, Int.natCast_add, Int.cast_ofNat_Int]
    · simp (disch := omega) only [go_sem, keepL]
  · have hkl : k = l.length := by omega
    subst hkl
    refine goT ?_; first | exact trivial | skip
end Go.Eng.Tryd
namespace Go.Proofs
open Go.Shelf Go.RowKit Go.Lib Go.Sort
def Tryd.sortWord_ren : Go.Shelf.Ren := ⟨fun | 6 => 24 | 15 => 40 | 14 => 42 | 28 => 61 | 29 => 62 | 20 => 63 | 21 => 64 | 22 => 65 | 23 => 66 | 24 => 67 | 25 => 68 | 26 => 69 | 27 => 70 | 46 => 81 | 47 => 77 | 48 => 78 | 49 => 82 | 50 => 83 | 57 => 88 | n => n, fun | 22 => 22 | 24 => 36 | 25 => 41 | 3 => 3 | 39 => 75 | 0 => 0 | 53 => 92 | 55 => 94 | 4 => 4 | 46 => 86 | 45 => 85 | 50 => 39 | 5 => 5 | 9 => 9 | 66 => 103 | 70 => 107 | 76 => 113 | 77 => 114 | n => n, fun | n => n⟩
theorem Tryd.sortWord : Go.Proofs.SlLaysF.n6 Tryd.prog Tryd.sortWord_ren := {
  mixed := by kernel_rfl
  f6 := ⟨Tryd.f24.name, by decide, Tryd.func24.trans (congrArg some (by kernel_rfl))⟩
  f14 := ⟨Tryd.f42.name, by decide, Tryd.func42.trans (congrArg some (by kernel_rfl))⟩
  f15 := Tryd.func40.trans (congrArg some (by kernel_rfl))
  f20 := ⟨Tryd.f63.name, by decide, Tryd.func63.trans (congrArg some (by kernel_rfl))⟩
  f21 := ⟨Tryd.f64.name, by decide, Tryd.func64.trans (congrArg some (by kernel_rfl))⟩
  f22 := ⟨Tryd.f65.name, by decide, Tryd.func65.trans (congrArg some (by kernel_rfl))⟩
  f23 := ⟨Tryd.f66.name, by decide, Tryd.func66.trans (congrArg some (by kernel_rfl))⟩
  f24 := ⟨Tryd.f67.name, by decide, Tryd.func67.trans (congrArg some (by kernel_rfl))⟩
  f25 := ⟨Tryd.f68.name, by decide, Tryd.func68.trans (congrArg some (by kernel_rfl))⟩
  f26 := ⟨Tryd.f69.name, by decide, Tryd.func69.trans (congrArg some (by kernel_rfl))⟩
  f27 := ⟨Tryd.f70.name, by decide, Tryd.func70.trans (congrArg some (by kernel_rfl))⟩
  f28 := Tryd.func61.trans (congrArg some (by kernel_rfl))
  f29 := Tryd.func62.trans (congrArg some (by kernel_rfl))
  f46 := ⟨Tryd.f81.name, by decide, Tryd.func81.trans (congrArg some (by kernel_rfl))⟩
  f47 := Tryd.func77.trans (congrArg some (by kernel_rfl))
  f48 := Tryd.func78.trans (congrArg some (by kernel_rfl))
  f49 := ⟨Tryd.f82.name, by decide, Tryd.func82.trans (congrArg some (by kernel_rfl))⟩
  f50 := ⟨Tryd.f83.name, by decide, Tryd.func83.trans (congrArg some (by kernel_rfl))⟩
  f57 := ⟨Tryd.f88.name, by decide, Tryd.func88.trans (congrArg some (by kernel_rfl))⟩
  t0 := Tryd.underlying0
  a0 := Tryd.isAgg0
  z0 := Tryd.sizeOf0
  v0 := Tryd.zeroValue0
  t3 := Tryd.underlying3
  a3 := Tryd.isAgg3
  z3 := Tryd.sizeOf3
  v3 := Tryd.zeroValue3
  t4 := Tryd.underlying4
  a4 := Tryd.isAgg4
  z4 := Tryd.sizeOf4
  v4 := Tryd.zeroValue4
  t5 := Tryd.underlying5
  a5 := Tryd.isAgg5
  z5 := Tryd.sizeOf5
  v5 := Tryd.zeroValue5
  t9 := Tryd.underlying9
  a9 := Tryd.isAgg9
  z9 := Tryd.sizeOf9
  v9 := Tryd.zeroValue9
  t22 := Tryd.underlying22
  a22 := Tryd.isAgg22
  z22 := Tryd.sizeOf22
  v22 := Tryd.zeroValue22
  a24 := Tryd.isAgg36
  z24 := Tryd.sizeOf36
  t25 := Tryd.underlying41
  a25 := Tryd.isAgg41
  z25 := Tryd.sizeOf41
  v25 := Tryd.zeroValue41
  t39 := Tryd.underlying75
  a39 := Tryd.isAgg75
  z39 := Tryd.sizeOf75
  v39 := Tryd.zeroValue75
  t45 := Tryd.underlying85
  a45 := Tryd.isAgg85
  z45 := Tryd.sizeOf85
  v45 := Tryd.zeroValue85
  t46 := Tryd.underlying86
  a46 := Tryd.isAgg86
  z46 := Tryd.sizeOf86
  v46 := Tryd.zeroValue86
  t50 := Tryd.underlying39
  a50 := Tryd.isAgg39
  z50 := Tryd.sizeOf39
  v50 := Tryd.zeroValue39
  t53 := Tryd.underlying92
  a53 := Tryd.isAgg92
  z53 := Tryd.sizeOf92
  v53 := Tryd.zeroValue92
  t55 := Tryd.underlying94
  a55 := Tryd.isAgg94
  z55 := Tryd.sizeOf94
  v55 := Tryd.zeroValue94
  t66 := Tryd.underlying103
  a66 := Tryd.isAgg103
  z66 := Tryd.sizeOf103
  v66 := Tryd.zeroValue103
  t70 := Tryd.underlying107
  a70 := Tryd.isAgg107
  z70 := Tryd.sizeOf107
  v70 := Tryd.zeroValue107
  t76 := Tryd.underlying113
  a76 := Tryd.isAgg113
  z76 := Tryd.sizeOf113
  v76 := Tryd.zeroValue113
  t77 := Tryd.underlying114
  a77 := Tryd.isAgg114
  z77 := Tryd.sizeOf114
  v77 := Tryd.zeroValue114 }
end Go.Proofs
set_option linter.unusedVariables false
set_option linter.unusedSimpArgs false
namespace Go.Eng.Tryd
open Go Go.Eng Go.Proofs Go.RowKit
attribute [local go_sem] tys
attribute [local go_sem] is_len is_get iss_len iss_get iss_snoc
def unI (x : D) : Int := match x with | .int _ z => z | _ => 0
def unisX (d : D) : List Int := match d with | .sl _ xs => xs.map unI | _ => []
theorem unisX_is (w : List Int) : unisX (.sl 1 (is w)) = w := by simp [unisX, is, unI, List.map_map, Function.comp_def]
theorem wcmp_lt_irr (a : List Int) : ¬ wcmp a a < 0 := by have := (wcmp_eq a a).2 rfl; omega
set_option maxRecDepth 10000 in
theorem pSortW {xs ys : List (List Int)} (hok : ∀ w ∈ xs, w.length ≤ 9223372036854775807) (h0 : 0 < xs.length) (hmax : xs.length < 4611686018427387904) (hp : ys.Perm xs) (hs : ys.Pairwise (fun a b => ¬ wcmp b a < 0)) :
    SoundM Tryd.prog 24 [.own 0 xs.length, .d (.fn 25)] [(0, .row 36 1 (iss xs))] (.tup []) [(0, .row 36 1 (iss ys))] 1 := by
  have eg : ∀ args w, (callFunc 25 args).run Tryd.prog w = .ok (.enter 25 args) w := enters_of Tryd.func25 (by kernel_rfl) rfl
  have hlen : (iss xs).length = xs.length := iss_len
  have gd : ∀ x, (∃ w : List Int, w.length ≤ 9223372036854775807 ∧ x = D.sl 1 (is w)) → D.sl 1 (is (unisX x)) = x ∧ (unisX x).length ≤ 9223372036854775807 := fun x ⟨r, h1, h2⟩ => by rw [h2, unisX_is]; exact ⟨rfl, h1⟩
  have := sort_sound1 (P := Tryd.prog) Tryd.sortWord eg (Good := fun x => ∃ w : List Int, w.length ≤ 9223372036854775807 ∧ x = D.sl 1 (is w)) (cf := fun x y => wcmp (unisX x) (unisX y))
    (fun x y hx hy => by
      have := pCmp1 (gd x hx).2 (gd y hy).2
      rwa [(gd x hx).1, (gd y hy).1] at this)
    (fun x hx => wcmp_lt_irr _) (fun x y z _ _ _ h1 h2 => wcmp_lt_trans h1 (by omega)) (fun x y z _ _ _ h1 h2 => by
      have a1 := wcmp_swap (unisX x) (unisX y)
      have a2 := wcmp_swap (unisX y) (unisX z)
      have a3 := wcmp_swap (unisX x) (unisX z)
      have := wcmp_le_trans (unisX z) (unisX y) (unisX x) (by omega) (by omega)
      omega)
    (fun x y hx hy h1 h2 => by
      have a1 := wcmp_swap (unisX x) (unisX y)
      have e := (wcmp_eq (unisX x) (unisX y)).1 (by omega)
      rw [← (gd x hx).1, ← (gd y hy).1, e])
    (fun x ⟨r, _, h⟩ => by rw [h]; rfl) (e := 36) (xs := iss xs) (ys := iss ys) (fun x hx => by
      obtain ⟨w, hw, rfl⟩ := List.mem_map.1 hx
      exact ⟨w, hok w hw, rfl⟩) (by rw [hlen]; exact h0) (by rw [hlen]; exact hmax) (hp.map _) (by
      unfold iss
      rw [List.pairwise_map]
      exact hs.imp (fun {a b} h => by rw [unisX_is, unisX_is]; exact h))
  rw [hlen] at this
  exact this
theorem SrtW.stay {l : List (List Int)} (h : SrtW l) : l.Pairwise (fun a b => ¬ wcmp b a < 0) := h.imp fun {a b} h => by have := wcmp_swap a b; omega
theorem iss_take_succ {l : List (List Int)} {k : Nat} (h : k < l.length) : l.take (k + 1) = l.take k ++ [l[k]!] := atake_snoc h
set_option maxHeartbeats 4000000 in
set_option maxRecDepth 10000 in
/-- Words that are in order stay so. -/
theorem pWSort1 {l : List (List Int)} (hl : ∀ w ∈ l, w.length ≤ 1000000) (hlen : l.length ≤ 1000000) (h0 : 0 < l.length) (hs : SrtW l) : Sound Tryd.prog 10 [.sl 1 (iss l)] (.sl 1 (iss l)) := by
  have hok : ∀ w ∈ l, w.length ≤ 9223372036854775807 := fun w hw => Nat.le_trans (hl w hw) (by decide)
  have c1 := pSortW (xs := l) (ys := l) hok h0 (by omega) (List.Perm.refl _) hs.stay
  have c2 := pCompact ⟨by omega, hok⟩ hs h0
  refine Sound.run (N := 25) Tryd.func10 rfl (by kernel_rfl) rfl rfl rfl (by first | exact args0_0 | exact args0_1 | exact args0_2 | exact args0_3 | exact args0_4 | exact args0_5 | exact args0_6) fun X_ w_ => ?_
  refine goT ?_; first | exact trivial | skip
  refine WP_loopk (fun k : Nat => k ≤ l.length) (fun k => [(3, .own 1002 (l.take k).length), (9, .d (.sl 1 (iss l))), (10, .d (.int .i64 l.length)), (11, .d (.int .i64 k))]) (fun k => [(1002, .row 36 1 (iss (l.take k)))]) 1003 (fun k => l.length - k) [3, 9, 10, 11] [1002] 0 (Nat.zero_le _) rfl rfl (Nat.zero_le _) (fun _ _ => rfl) (fun _ _ => rfl) fun k hk => ?_
  have hkl : (l.take k).length = k := by simp; omega
  by_cases hk3 : k < l.length
  · have hst := iss_take_succ hk3
    have cl := pClone (l := l[k]!) (by rw [getElem!_pos l k hk3]; exact hl _ (List.getElem_mem hk3))
    have c0_ := cl; refine goX @hkl ?_; first | exact trivial | skip
    refine ⟨k + 1, by omega, ?_, ?_, by omega⟩
    · simp (disch := omega) only [go_sem, keepL, Int.natCast_add, Int.cast_ofNat_Int, hst, hkl, List.length_append, List.length_cons, List.length_nil]
    · simp (disch := omega) only [go_sem, keepL, hst]
  · have hke : k = l.length := by omega
    subst hke
    rw [List.take_length]
    have c0_ := c1; have c1_ := c2; refine goT ?_; first | exact trivial | skip
/-- Bytes, as a slice's elements. -/
def bys (l : List Int) : List D := l.map fun z => .int .u8 z
theorem bys_len {l : List Int} : (bys l).length = l.length := by simp [bys]
theorem bys_snoc {l : List Int} {z : Int} : bys l ++ [.int .u8 z] = bys (l ++ [z]) := by simp [bys]
theorem bys_app {a b : List Int} : bys a ++ bys b = bys (a ++ b) := by simp [bys]
attribute [local go_sem] bys_len bys_snoc bys_app
set_option maxHeartbeats 4000000 in
set_option maxRecDepth 10000 in
/-- A sign below 128. -/
theorem pAppRune {b : List Int} {z : Int} (h0 : 0 ≤ z) (h1 : z ≤ 127) (hb : b.length ≤ 1000000) : SoundM Tryd.prog 74 [.own 0 b.length, .d (.int .i32 z)] [(0, .row 5 1 (bys b))] (.own 0 (b.length + 1)) [(0, .row 5 1 (bys (b ++ [z])))] 1 := by
  have e1 : IntKind.u32.wrap z = z := by simp [IntKind.wrap, IntKind.bits, IntKind.signed]; omega
  have e2 : IntKind.u8.wrap z = z := by simp [IntKind.wrap, IntKind.bits, IntKind.signed]; omega
  refine SoundM.run (N := 16) (ks := [0]) Tryd.func74 rfl (by kernel_rfl) rfl rfl rfl (by first | exact argsA_0 | exact argsA_1 | exact argsA_2 | exact argsA_3 | exact argsA_4 | exact argsA_5 | exact argsA_6) fun X_ ν_ w_ => ?_
  refine goX (And.intro @e1 @e2) ?_; first | exact trivial | skip
theorem asc_good {z : Int} (h0 : 0 ≤ z) (h1 : z ≤ 127) : gsign z = true := decide_eq_true ⟨h0, by omega, by omega⟩
set_option maxHeartbeats 4000000 in
set_option maxRecDepth 10000 in
theorem pPutA {w : List Int} (hw : ∀ z ∈ w, 0 ≤ z ∧ z ≤ 127) (hlen : w.length ≤ 1000000) : Sound Tryd.prog 48 [.sl 1 (is w)] (.tup [.sl 1 (bys w), .int .i64 0]) := by
  refine Sound.run (N := 22) Tryd.func48 rfl (by kernel_rfl) rfl rfl rfl (by first | exact args0_0 | exact args0_1 | exact args0_2 | exact args0_3 | exact args0_4 | exact args0_5 | exact args0_6) fun X_ w_ => ?_
  repeat ((fail_if_success (with_reducible show WP _ _ (.region 2 _ _) _ _)); first | with_reducible exact Ev.nil | with_reducible exact gd_n | ((with_reducible apply lk_ok); rfl) | ((with_reducible apply gslot_ok); rfl) | ((with_reducible apply v2d_ok); rfl) | with_reducible apply then_n | with_reducible apply WP_seq | with_reducible apply WP_skip | ((with_reducible apply WP_r (N := 22) rfl rfl); (focus simp only [Nat.reduceAdd] <;> rfl)) | ((with_reducible apply WP_d (N := 22) mixed rfl rfl); (focus simp only [Nat.reduceAdd] <;> rfl)) | ((with_reducible apply Ev_s); (focus first | (apply gd_u; (focus rfl); rfl) | (apply gd_f; (focus rfl); (focus rfl); rfl))) | ((with_reducible apply Ev_sn); (focus first | (apply gd_u; (focus rfl); rfl) | (apply gd_f; (focus rfl); (focus rfl); rfl))) | with_reducible apply gd_t | with_reducible apply Ev_mv | with_reducible apply Ev_as | with_reducible apply Ev_mc | with_reducible apply Ev_ac | ((first | (with_reducible apply Ev_pt) | (with_reducible apply Ev_ptc)); (focus rfl)) | ((first | (with_reducible apply Ev_pf) | (with_reducible apply Ev_pfc)); (focus rfl)) | ((with_reducible apply Ev_d); (focus simp only [Nat.reduceAdd] <;> rfl); (focus simp (disch := omega) only [go_sem] <;> rfl)) | ((first | (with_reducible apply Ev_od) | (with_reducible apply Ev_on)); (focus simp only [Nat.reduceAdd] <;> rfl); (focus simp (disch := omega) only [go_sem] <;> rfl); (focus first | (simp (disch := omega) only [go_sem] <;> rfl) | rfl)) | with_reducible apply endM_n | with_reducible apply endM_r | with_reducible apply then_r | with_reducible apply then_x | with_reducible apply block_n | with_reducible apply block_r | with_reducible apply block_x | with_reducible apply block_y rfl | with_reducible apply scope_n | with_reducible apply scope_r | with_reducible apply scope_x | with_reducible apply end_n | with_reducible apply end_r | with_reducible apply WP_block | with_reducible apply WP_exit | with_reducible apply WP_ret | with_reducible apply WP_label | with_reducible apply WP_scope | ((with_reducible apply WP_t); (focus first | (simp (disch := omega) only [go_sem] <;> rfl) | rfl)) | ((with_reducible apply WP_f); (focus first | (simp (disch := omega) only [go_sem] <;> rfl) | rfl)) | ((with_reducible apply resD_t); (focus rfl)) | ((with_reducible apply resD_2); (focus rfl); (focus rfl)) | (with_reducible rfl) | ((with_reducible show List.map outKeys _ = _); simp only [List.map_cons, List.map_nil, outKeys, keys]; rfl) | ((with_reducible show orderOk _ _ = true); kernel_rfl) | ((with_reducible show _ = _); simp (disch := omega) only [go_sem] <;> rfl) | ((fail_if_success (with_reducible show Ev _ _ _ _ (_ :: _) _ _ _ _ _)); (show Ev _ _ _ _ (_ :: _) _ _ _ _ _)) | fail)
  refine WP_own 4 3000 5 1 rfl (by decide) (Nat.le_of_ble_eq_true rfl) ?_
  refine goT ?_; first | exact trivial | skip
  refine WP_loopk (fun k : Nat => k ≤ w.length) (fun k => [(4, .own 3000 (w.take k).length), (7, .d (.sl 1 (is w))), (8, .d (.int .i64 w.length)), (9, .d (.int .i64 k))]) (fun k => [(3000, .row 5 1 (bys (w.take k)))]) 3001 (fun k => w.length - k) [4, 7, 8, 9] [3000] 0 (Nat.zero_le _) rfl rfl (Nat.zero_le _) (fun _ _ => rfl) (fun _ _ => rfl) fun k hk => ?_
  have hkl : (w.take k).length = k := by simp; omega
  by_cases hk3 : k < w.length
  · have hz := hw (w[k]!) (by rw [getElem!_pos w k hk3]; exact List.getElem_mem hk3)
    have cg := utfGood (z := w[k]!)
    rw [asc_good hz.1 hz.2] at cg
    have hst : w.take (k + 1) = w.take k ++ [w[k]!] := atake_snoc hk3
    have ca := pAppRune (b := w.take k) hz.1 hz.2 (by omega)
    rw [hkl] at ca
    have e1 : IntKind.i32.wrap (w[k]!) = w[k]! := by
      obtain ⟨h0, h1⟩ := hz
      generalize w[k]! = z at h0 h1 ⊢
      simp [IntKind.wrap, IntKind.bits, IntKind.signed]; omega
    have c0_ := cg; have c1_ := ca; refine goX (And.intro @hkl @e1) ?_; first | exact trivial | skip
    refine ⟨k + 1, by omega, ?_, ?_, by omega⟩
    · simp (disch := omega) only [go_sem, keepL, Int.natCast_add, Int.cast_ofNat_Int, hst, hkl, List.length_append, List.length_cons, List.length_nil]
    · simp (disch := omega) only [go_sem, keepL, hst]
  · have hke : k = w.length := by omega
    subst hke
    rw [List.take_length]
    refine goT ?_; first | exact trivial | skip
/-- The bytes of a list. -/
def wbytes (l : List (List Int)) : List Int := l.flatMap fun w => w ++ [10]
theorem wbytes_snoc (l : List (List Int)) (w : List Int) : wbytes (l ++ [w]) = wbytes l ++ w ++ [10] := by simp [wbytes]
theorem wbytes_len (l : List (List Int)) (h : ∀ w ∈ l, w.length ≤ 20) : (wbytes l).length ≤ 21 * l.length := by
  induction l with
  | nil => simp [wbytes]
  | cons x t ih =>
    have h1 := ih fun w hw => h w (by simp [hw])
    have h2 := h x (by simp)
    simp only [wbytes, List.flatMap_cons, List.length_append, List.length_cons, List.length_nil] at h1 ⊢
    omega
set_option maxHeartbeats 4000000 in
set_option maxRecDepth 10000 in
/-- The list of words that are in order, their signs below 128. -/
theorem pWriteA {l : List (List Int)} (h0 : 0 < l.length) (h1 : l.length ≤ 300) (hf : l.all wfit = true) (hs : SrtW l) (ha : ∀ w ∈ l, ∀ z ∈ w, 0 ≤ z ∧ z ≤ 127) : Sound Tryd.prog 29 [.sl 1 (iss l)] (.tup [.sl 1 (bys (wbytes l)), .int .i64 0]) := by
  have hw20 : ∀ w ∈ l, w.length ≤ 20 := fun w hw => by
    have := List.all_eq_true.1 hf w hw
    simp only [wfit, Bool.and_eq_true, decide_eq_true_eq] at this
    exact this.1.1.2
  have hok : WsOk l := ⟨by omega, fun w hw => Nat.le_trans (hw20 w hw) (by decide)⟩
  have c1 := containsW (p := fun w => !wfit w) (g := 43) (fun w hw => pNoFit hw) hok
  rw [any_not, hf] at c1
  have c2 := pWSort1 (fun w hw => Nat.le_trans (hw20 w hw) (by decide)) (by omega) h0 hs
  have c3 := pIsSorted hok hs
  refine Sound.run (N := 46) Tryd.func29 rfl (by kernel_rfl) rfl rfl rfl (by first | exact args0_0 | exact args0_1 | exact args0_2 | exact args0_3 | exact args0_4 | exact args0_5 | exact args0_6) fun X_ w_ => ?_
  have c0_ := c1; have c1_ := c2; have c2_ := c3; repeat ((fail_if_success (with_reducible show WP _ _ (.region 6 _ _) _ _)); first | with_reducible exact Ev.nil | with_reducible exact gd_n | ((with_reducible apply lk_ok); rfl) | ((with_reducible apply gslot_ok); rfl) | ((with_reducible apply v2d_ok); rfl) | with_reducible apply then_n | with_reducible apply WP_seq | with_reducible apply WP_skip | ((with_reducible apply WP_r (N := 46) rfl rfl); (focus simp only [Nat.reduceAdd] <;> rfl)) | ((with_reducible apply WP_d (N := 46) mixed rfl rfl); (focus simp only [Nat.reduceAdd] <;> rfl)) | ((with_reducible apply Ev_s); (focus first | (apply gd_u; (focus rfl); rfl) | (apply gd_f; (focus rfl); (focus rfl); rfl))) | ((with_reducible apply Ev_sn); (focus first | (apply gd_u; (focus rfl); rfl) | (apply gd_f; (focus rfl); (focus rfl); rfl))) | with_reducible apply gd_t | with_reducible apply Ev_mv | with_reducible apply Ev_as | with_reducible apply Ev_mc | with_reducible apply Ev_ac | ((first | (with_reducible apply Ev_pt) | (with_reducible apply Ev_ptc)); (focus rfl)) | ((first | (with_reducible apply Ev_pf) | (with_reducible apply Ev_pfc)); (focus rfl)) | (apply Ev_cf; (focus simp (disch := omega) only [go_sem] <;> rfl); (focus first | exact c0_ | exact c1_ | exact c2_); (focus rfl); (focus first | (simp (disch := omega) only [go_sem] <;> rfl) | rfl)) | ((with_reducible apply Ev_d); (focus simp only [Nat.reduceAdd] <;> rfl); (focus simp (disch := omega) only [go_sem] <;> rfl)) | (apply Ev_cv; (focus rfl); (focus simp (disch := omega) only [go_sem] <;> rfl); (focus first | exact c0_ | exact c1_ | exact c2_); (iterate 3 (focus first | (simp (disch := omega) only [go_sem] <;> rfl) | rfl))) | ((first | apply Ev_cmd | apply Ev_cmn); (focus simp only [Nat.reduceAdd] <;> rfl); (focus rfl); (iterate 2 (focus simp (disch := omega) only [go_sem] <;> rfl)); (first | ((focus first | exact c0_ | exact c1_ | exact c2_); (iterate 2 (focus first | (simp (disch := omega) only [go_sem] <;> rfl) | rfl)); (focus rfl); (iterate 3 (focus first | (simp (disch := omega) only [go_sem] <;> rfl) | rfl))))) | ((first | (with_reducible apply Ev_od) | (with_reducible apply Ev_on)); (focus simp only [Nat.reduceAdd] <;> rfl); (focus simp (disch := omega) only [go_sem] <;> rfl); (focus first | (simp (disch := omega) only [go_sem] <;> rfl) | rfl)) | with_reducible apply endM_n | with_reducible apply endM_r | with_reducible apply then_r | with_reducible apply then_x | with_reducible apply block_n | with_reducible apply block_r | with_reducible apply block_x | with_reducible apply block_y rfl | with_reducible apply scope_n | with_reducible apply scope_r | with_reducible apply scope_x | with_reducible apply end_n | with_reducible apply end_r | with_reducible apply WP_block | with_reducible apply WP_exit | with_reducible apply WP_ret | with_reducible apply WP_label | with_reducible apply WP_scope | ((with_reducible apply WP_t); (focus first | (simp (disch := omega) only [go_sem] <;> rfl) | rfl)) | ((with_reducible apply WP_f); (focus first | (simp (disch := omega) only [go_sem] <;> rfl) | rfl)) | ((with_reducible apply resD_t); (focus rfl)) | ((with_reducible apply resD_2); (focus rfl); (focus rfl)) | (with_reducible rfl) | ((with_reducible show List.map outKeys _ = _); simp only [List.map_cons, List.map_nil, outKeys, keys]; rfl) | ((with_reducible show orderOk _ _ = true); kernel_rfl) | ((with_reducible show _ = _); simp (disch := omega) only [go_sem] <;> rfl) | ((fail_if_success (with_reducible show Ev _ _ _ _ (_ :: _) _ _ _ _ _)); (show Ev _ _ _ _ (_ :: _) _ _ _ _ _)) | fail)
  refine WP_own 2 9000 5 1 rfl (by decide) (Nat.le_of_ble_eq_true rfl) ?_
  refine goT ?_; first | exact trivial | skip
  refine WP_loopk (fun k : Nat => k ≤ l.length) (fun k => [(2, .own 9000 (wbytes (l.take k)).length), (28, .d (.sl 1 (iss l))), (29, .d (.int .i64 l.length)), (30, .d (.int .i64 k))]) (fun k => [(9000, .row 5 1 (bys (wbytes (l.take k))))]) 9001 (fun k => l.length - k) [2, 28, 29, 30] [9000] 0 (Nat.zero_le _) rfl rfl (Nat.zero_le _) (fun _ _ => rfl) (fun _ _ => rfl) fun k hk => ?_
  have hbl := wbytes_len (l.take k) fun w hw => hw20 w (List.mem_of_mem_take hw)
  have hkl : (l.take k).length = k := by simp; omega
  by_cases hk3 : k < l.length
  · have hmem : l[k]! ∈ l := by rw [getElem!_pos l k hk3]; exact List.getElem_mem hk3
    have hk20 := hw20 _ hmem
    have cp := pPutA (w := l[k]!) (ha _ hmem) (by omega)
    have hst : wbytes (l.take (k + 1)) = wbytes (l.take k) ++ (l[k]!) ++ [10] := by rw [atake_snoc hk3, wbytes_snoc]
    have c0_ := cp; refine goT ?_; first | exact trivial | skip
    refine ⟨k + 1, by omega, ?_, ?_, by omega⟩
    · simp (disch := omega) only [go_sem, keepL, Int.natCast_add, Int.cast_ofNat_Int, hst, List.length_append, List.length_cons, List.length_nil]
    · simp (disch := omega) only [go_sem, keepL, hst, List.append_assoc, List.length_append, List.length_cons, List.length_nil]
  · have hke : k = l.length := by omega
    subst hke
    rw [List.take_length]
    refine goT ?_; first | exact trivial | skip
end Go.Eng.Tryd

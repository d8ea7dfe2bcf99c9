/- Images that may be used: what is wrong with one; its words; one of words, and costs. (and what stands behind it: texts laid together) -/
import Derived.Test.YtabfoaoeghikoaaGreatDoorMG4
import Derived.Test.YtabfoaoeghikoaaGreatDoorMR6
import Derived.Test.YtabfoaoeghikoaaGreatDoorMR5
import Derived.Test.YtabfoaoeghikoaaGreatDoorMR3
set_option maxHeartbeats 32000000
set_option maxRecDepth 100000
set_option linter.unusedVariables false
set_option linter.unusedSimpArgs false
namespace Go.Eng.Tryz
open Go Go.Eng Go.Proofs Go.RowKit
attribute [local go_sem] is_len is_get ars_len ars_get stas_len stas_get rs_len rs_get
def im (l : List Sta) (c : Co) : D := .agg [.sl 2 (stas l), .int .u64 c.more, .int .u64 c.less, .int .u64 c.other, .int .u64 c.turned, .sl 3 (rs c.rules)]
theorem pAuto {l : List Sta} {c : Co} (hl : StaOk l) : Sound Tryz.prog 74 [im l c] (.bool (!achk l)) := by
  have cc := pCheckA hl
  unfold im
  refine Sound.run (N := 7) Tryz.func74 rfl (by kernel_rfl) rfl rfl rfl (by exact args0_1) fun X_ w_ => ?_
  have c0_ := cc; refine goT ?_; try exact trivial
theorem pRuleS {l : List Sta} {c : Co} (hc : c.ok) : Sound Tryz.prog 75 [im l c] (.bool (!cok c)) := by
  have cc := sCheck hc
  unfold im
  unfold co at cc
  refine Sound.run (N := 7) Tryz.func75 rfl (by kernel_rfl) rfl rfl rfl (by exact args0_1) fun X_ w_ => ?_
  have c0_ := cc; refine goT ?_; try exact trivial
theorem pManyS {l : List Sta} {c : Co} (hl : StaOk l) : Sound Tryz.prog 76 [im l c] (.bool (decide (300 < manyN l))) := by
  have cc := pManyW hl
  unfold im
  generalize manyN l = m at *
  refine Sound.run (N := 7) Tryz.func76 rfl (by kernel_rfl) rfl rfl rfl (by exact args0_1) fun X_ w_ => ?_
  have c0_ := cc; refine goT ?_; try exact trivial
theorem pLongS {l : List Sta} {c : Co} (hl : StaOk l) (h0 : 0 < l.length) : Sound Tryz.prog 77 [im l c] (.bool (decide (20 < deepN l) || (l[0]!).final)) := by
  have cc := pDeepW hl
  unfold im
  generalize deepN l = m at *
  by_cases h : 20 < m
  · rw [decide_eq_true h, Bool.true_or]
    refine Sound.run (N := 14) Tryz.func77 rfl (by kernel_rfl) rfl rfl rfl (by exact args0_1) fun X_ w_ => ?_
    have c0_ := cc; refine goT ?_; try exact trivial
  · rw [decide_eq_false h, Bool.false_or]
    refine Sound.run (N := 14) Tryz.func77 rfl (by kernel_rfl) rfl rfl rfl (by exact args0_1) fun X_ w_ => ?_
    have c0_ := cc; refine goT ?_; try exact trivial
def shE (l : List Sta) (c : Co) : Int := if achk l = false then 100 else if cok c = false then 60 else if 300 < manyN l then 81 else if (decide (20 < deepN l) || (l[0]!).final) = true then 90 else 0
theorem pSCheck {l : List Sta} {c : Co} (hl : StaOk l) (hc : c.ok) : Sound Tryz.prog 34 [im l c] (.int .i64 (shE l c)) := by
  have c1 := pAuto (c := c) hl
  have c2 := pRuleS (l := l) hc
  have c3 := pManyS (c := c) hl
  have c4 := fun h => pLongS (c := c) hl h
  have h0 : achk l = true → 0 < l.length := fun h => (achk_iff.1 h).2.1
  unfold shE
  cases ha : achk l
  · rw [ha] at c1
    rw [if_pos rfl]
    unfold im at c1 ⊢
    refine Sound.run (N := 20) Tryz.func34 rfl (by kernel_rfl) rfl rfl rfl (by exact args0_1) fun X_ w_ => ?_
    refine goT ?_; try exact trivial
    refine WP_once ?_
    have c0_ := c1; refine goT ?_; try exact trivial
  rw [ha] at c1
  have c4 := c4 (h0 ha)
  have e3 : (if 300 < manyN l then (81 : Int) else if (decide (20 < deepN l) || (l[0]!).final) = true then 90 else 0) = if decide (300 < manyN l) = true then 81 else if (decide (20 < deepN l) || (l[0]!).final) = true then 90 else 0 := by
    by_cases h : 300 < manyN l
    · rw [if_pos h, if_pos (decide_eq_true h)]
    · have hd : decide (300 < manyN l) = false := decide_eq_false h
      rw [hd, if_neg h]
      simp only [Bool.false_eq_true, if_false]
  rw [if_neg (by decide), e3]
  generalize (decide (20 < deepN l) || (l[0]!).final) = b4 at c4 ⊢
  generalize decide (300 < manyN l) = b3 at c3 ⊢
  generalize cok c = b2 at c2 ⊢
  obtain ⟨e, he⟩ : ∃ e : Int, (if b2 = false then (60 : Int) else if b3 = true then 81 else if b4 = true then 90 else 0) = e := ⟨_, rfl⟩
  rw [he]
  have z0 : ((0 : Nat) : Int) = 0 := rfl
  have z1 : ((1 : Nat) : Int) = 1 := rfl
  have z2 : ((2 : Nat) : Int) = 2 := rfl
  have z3 : ((3 : Nat) : Int) = 3 := rfl
  have z4 : ((4 : Nat) : Int) = 4 := rfl
  have t1 : (1 : Int).toNat = 1 := rfl
  have t2 : (2 : Int).toNat = 2 := rfl
  have t3 : (3 : Int).toNat = 3 := rfl
  unfold im at c1 c2 c3 c4 ⊢
  refine Sound.run (N := 20) Tryz.func34 rfl (by kernel_rfl) rfl rfl rfl (by exact args0_1) fun X_ w_ => ?_
  refine goT ?_; try exact trivial
  refine WP_loopk (fun k : Nat => k ≤ 4 ∧ (1 < k → b2 = true) ∧ (2 < k → b3 = false) ∧ (3 < k → b4 = false)) (fun k => [(1, .ref 0 0), (9, .d (.agg [.fn 74, .int .i64 100, .fn 75, .int .i64 60, .fn 76, .int .i64 81, .fn 77, .int .i64 90])), (10, .d (.int .i64 k))])
    (fun _ => [(0, .var [.d (.sl 2 (stas l)), .d (.int .u64 c.more), .d (.int .u64 c.less), .d (.int .u64 c.other), .d (.int .u64 c.turned), .d (.sl 3 (rs c.rules))])]) 20000 (fun k => 4 - k) [1, 9, 10] [0] 0 ⟨Nat.zero_le _, fun h => by omega, fun h => by omega, fun h => by omega⟩ rfl rfl (Nat.le_of_ble_eq_true rfl) (fun _ _ => rfl) (fun _ _ => rfl) fun k hk => ?_
  obtain ⟨k1, k2, k3, k4⟩ := hk
  by_cases q0 : k = 0
  · subst q0
    have c0_ := c1; refine goX (And.intro @z0 (And.intro @Int.toNat_zero @Nat.zero_mul)) ?_; try exact trivial
    refine ⟨1, ⟨by omega, fun h => by omega, fun h => by omega, fun h => by omega⟩, ?_, ?_, by omega⟩
    · simp (disch := omega) only [go_sem, keepL, z1, Int.zero_add]
    · simp (disch := omega) only [go_sem, keepL]
  by_cases q1 : k = 1
  · subst q1
    cases hb2 : b2
    · rw [hb2] at c2
      have : e = 60 := by rw [← he, hb2]; rfl
      subst this
      have c0_ := c2; refine goX (And.intro @z1 @t1) ?_; try exact trivial
    · rw [hb2] at c2
      have c0_ := c2; refine goX (And.intro @z1 @t1) ?_; try exact trivial
      refine ⟨2, ⟨by omega, fun h => rfl, fun h => by omega, fun h => by omega⟩, ?_, ?_, by omega⟩
      · simp (disch := omega) only [go_sem, keepL, z2]
      · simp (disch := omega) only [go_sem, keepL]
  by_cases q2 : k = 2
  · subst q2
    have hb2 := k2 (by omega)
    cases hb3 : b3
    · rw [hb3] at c3
      have c0_ := c3; refine goX (And.intro @z2 @t2) ?_; try exact trivial
      refine ⟨3, ⟨by omega, fun h => hb2, fun h => rfl, fun h => by omega⟩, ?_, ?_, by omega⟩
      · simp (disch := omega) only [go_sem, keepL, z3]
      · simp (disch := omega) only [go_sem, keepL]
    · rw [hb3] at c3
      have : e = 81 := by rw [← he, hb2, hb3]; rfl
      subst this
      have c0_ := c3; refine goX (And.intro @z2 @t2) ?_; try exact trivial
  by_cases q3 : k = 3
  · subst q3
    have hb2 := k2 (by omega)
    have hb3 := k3 (by omega)
    cases hb4 : b4
    · rw [hb4] at c4
      have c0_ := c4; refine goX (And.intro @z3 @t3) ?_; try exact trivial
      refine ⟨4, ⟨by omega, fun h => hb2, fun h => hb3, fun h => rfl⟩, ?_, ?_, by omega⟩
      · simp (disch := omega) only [go_sem, keepL, z4]
      · simp (disch := omega) only [go_sem, keepL]
    · rw [hb4] at c4
      have : e = 90 := by rw [← he, hb2, hb3, hb4]; rfl
      subst this
      have c0_ := c4; refine goX (And.intro @z3 @t3) ?_; try exact trivial
  · have q4 : k = 4 := by omega
    subst q4
    have : e = 0 := by rw [← he, k2 (by omega), k3 (by omega), k4 (by omega)]; rfl
    subst this
    refine goX @z4 ?_; try exact trivial
end Go.Eng.Tryz
set_option linter.unusedVariables false
set_option linter.unusedSimpArgs false
namespace Go.Eng.Tryz
open Go Go.Eng Go.Proofs Go.RowKit
attribute [local go_sem] is_len is_get ars_len ars_get stas_len stas_get is_setZ is_repZ
end Go.Eng.Tryz
set_option linter.unusedVariables false
set_option linter.unusedSimpArgs false
namespace Go.Eng.Tryz
open Go Go.Eng Go.Proofs Go.RowKit
theorem is_cons {x : Int} {l : List Int} : is (x :: l) = .int .i64 x :: is l := rfl
attribute [local go_sem] is_len is_get rs_len rs_get
structure Se where
  eat : Int
  put : List Int
  any : Bool
  cost : Int
deriving DecidableEq
instance : Inhabited Se := ⟨⟨0, [], false, 0⟩⟩
def se (s : Se) : D := .agg [.int .i64 s.eat, .sl 1 (is s.put), .bool s.any, .int .u64 s.cost]
def ses (l : List Se) : List D := l.map se
theorem ses_len {l : List Se} : (ses l).length = l.length := by simp [ses]
theorem ses_get {l : List Se} {k : Nat} (h : k < l.length) : (ses l)[k]? = some (.agg [.int .i64 (l[k]!).eat, .sl 1 (is (l[k]!).put), .bool (l[k]!).any, .int .u64 (l[k]!).cost]) := by
  simp [ses, se, List.getElem?_eq_getElem h, getElem!_pos l k h]
theorem ses_snoc {l : List Se} {e p : _} {a : Bool} {c : Int} : ses l ++ [.agg [.int .i64 e, .sl 1 (is p), .bool a, .int .u64 c]] = ses (l ++ [⟨e, p, a, c⟩]) := by simp [ses, se]
attribute [local go_sem] ses_len ses_get ses_snoc
theorem pClone {l : List Int} (hl : l.length ≤ 1000000) : Sound Tryz.prog 106 [.sl 1 (is l)] (.sl 1 (is l)) := by
  cases l with
  | nil =>
    have h1 : Sound Tryz.prog 106 [.nils] .nils := by
      refine Sound.run (N := 8) Tryz.func106 rfl (by kernel_rfl) rfl rfl rfl (by exact args0_1) fun X_ w_ => ?_
      refine goT ?_; try exact trivial
    have h2 : Sound Tryz.prog 106 [.emp 1] (.sl 1 []) := by
      refine Sound.run (N := 8) Tryz.func106 rfl (by kernel_rfl) rfl rfl rfl (by exact args0_1) fun X_ w_ => ?_
      refine goT ?_; try exact trivial
    exact Sound.nil_at (sz := 1) 0 rfl (h1.wk (Wks.refl _) (.nil 1)) h2
  | cons x l =>
    simp only [List.length_cons] at hl
    refine Sound.run (N := 8) Tryz.func106 rfl (by kernel_rfl) rfl rfl rfl (by exact args0_1) fun X_ w_ => ?_
    refine goX @is_cons ?_; try exact trivial
end Go.Eng.Tryz
set_option linter.unusedVariables false
set_option linter.unusedSimpArgs false
namespace Go.Eng.Tryz
open Go Go.Eng Go.Proofs Go.RowKit
attribute [local go_sem] is_len is_get
def iss (l : List (List Int)) : List D := l.map fun w => .sl 1 (is w)
theorem iss_len {l : List (List Int)} : (iss l).length = l.length := by simp [iss]
theorem iss_get {l : List (List Int)} {k : Nat} (h : k < l.length) : (iss l)[k]? = some (.sl 1 (is (l[k]!))) := by
  simp [iss, List.getElem?_eq_getElem h, getElem!_pos l k h]
theorem iss_snoc {l : List (List Int)} {w : List Int} : iss l ++ [.sl 1 (is w)] = iss (l ++ [w]) := by simp [iss]
attribute [local go_sem] iss_len iss_get iss_snoc
def WsOk (l : List (List Int)) : Prop := l.length ≤ 9223372036854775807 ∧ ∀ w ∈ l, w.length ≤ 9223372036854775807
theorem WsOk.get {l : List (List Int)} (h : WsOk l) {k : Nat} (hk : k < l.length) : (l[k]!).length ≤ 9223372036854775807 := by
  rw [getElem!_pos l k hk]; exact h.2 _ (List.getElem_mem hk)
def badS (z : Int) : Bool := !gsign z || blank z
theorem fit1 {z : Int} : Sound Tryz.prog 91 [.int .i64 z] (.bool (badS z)) := by
  have cg := utfGood (z := z)
  cases hg : gsign z
  · have e : badS z = true := by unfold badS; rw [hg]; rfl
    rw [hg] at cg
    refine Sound.run (N := 18) Tryz.func91 rfl (by kernel_rfl) rfl rfl rfl (by exact args0_1) fun X_ w_ => ?_
    have c0_ := cg; refine goX @e ?_; try exact trivial
  have eb : badS z = blank z := by unfold badS; rw [hg]; rfl
  rw [hg] at cg
  rw [eb]
  by_cases h1 : z = 32
  · subst h1
    have e : blank 32 = true := by decide
    refine Sound.run (N := 18) Tryz.func91 rfl (by kernel_rfl) rfl rfl rfl (by exact args0_1) fun X_ w_ => ?_
    have c0_ := cg; refine goX @e ?_; try exact trivial
  by_cases h2 : z = 9
  · subst h2
    have e : blank 9 = true := by decide
    refine Sound.run (N := 18) Tryz.func91 rfl (by kernel_rfl) rfl rfl rfl (by exact args0_1) fun X_ w_ => ?_
    have c0_ := cg; refine goX @e ?_; try exact trivial
  by_cases h3 : z = 10
  · subst h3
    have e : blank 10 = true := by decide
    refine Sound.run (N := 18) Tryz.func91 rfl (by kernel_rfl) rfl rfl rfl (by exact args0_1) fun X_ w_ => ?_
    have c0_ := cg; refine goX @e ?_; try exact trivial
  · have e := blank_f (z := z) (by omega)
    refine Sound.run (N := 18) Tryz.func91 rfl (by kernel_rfl) rfl rfl rfl (by exact args0_1) fun X_ w_ => ?_
    have c0_ := cg; refine goX (And.intro @e (And.intro @h1 (And.intro @h2 @h3))) ?_; try exact trivial
def wfit (w : List Int) : Bool := decide (0 < w.length ∧ w.length ≤ 20) && decide (w[0]! ≠ 35) && !w.any badS
theorem pWFit {w : List Int} (hw : w.length ≤ 9223372036854775807) : Sound Tryz.prog 39 [.sl 1 (is w)] (.bool (wfit w)) := by
  have c1 := containsG (p := badS) (g := 91) (fun z => fit1) hw
  by_cases h0 : 0 < w.length
  · by_cases h1 : w.length ≤ 20
    · by_cases h2 : w[0]! = 35
      · have e : wfit w = false := by unfold wfit; rw [decide_eq_false (p := w[0]! ≠ 35) (fun h => h h2)]; simp
        rw [e]
        refine Sound.run (N := 24) Tryz.func39 rfl (by kernel_rfl) rfl rfl rfl (by exact args0_1) fun X_ w_ => ?_
        have c0_ := c1; refine goX @h2 ?_; try exact trivial
      · have e : wfit w = !w.any badS := by unfold wfit; rw [decide_eq_true ⟨h0, h1⟩, decide_eq_true (p := w[0]! ≠ 35) h2]; rfl
        rw [e]
        refine Sound.run (N := 24) Tryz.func39 rfl (by kernel_rfl) rfl rfl rfl (by exact args0_1) fun X_ w_ => ?_
        have c0_ := c1; refine goX @h2 ?_; try exact trivial
    · have e : wfit w = false := by unfold wfit; rw [decide_eq_false (by omega)]; rfl
      rw [e]
      refine Sound.run (N := 24) Tryz.func39 rfl (by kernel_rfl) rfl rfl rfl (by exact args0_1) fun X_ w_ => ?_
      have c0_ := c1; refine goT ?_; try exact trivial
  · have e : wfit w = false := by unfold wfit; rw [decide_eq_false (by omega)]; rfl
    rw [e]
    refine Sound.run (N := 24) Tryz.func39 rfl (by kernel_rfl) rfl rfl rfl (by exact args0_1) fun X_ w_ => ?_
    have c0_ := c1; refine goT ?_; try exact trivial
theorem pNoFit {w : List Int} (hw : w.length ≤ 9223372036854775807) : Sound Tryz.prog 93 [.sl 1 (is w)] (.bool (!wfit w)) := by
  have c := pWFit hw
  refine Sound.run (N := 6) Tryz.func93 rfl (by kernel_rfl) rfl rfl rfl (by exact args0_1) fun X_ w_ => ?_
  have c0_ := c; refine goT ?_; try exact trivial
theorem indexW {p : List Int → Bool} {g : Nat} (hp : ∀ w, w.length ≤ 9223372036854775807 → Sound Tryz.prog g [.sl 1 (is w)] (.bool (p w))) {l : List (List Int)} (hl : WsOk l) : Sound Tryz.prog 131 [.sl 1 (iss l), .fn g] (.int .i64 (fidx p l)) := by
  have hlen := hl.1
  refine Sound.run (N := 19) Tryz.func131 rfl (by kernel_rfl) rfl rfl rfl (by exact args0_2) fun X_ w_ => ?_
  refine goT ?_; try exact trivial
  refine WP_loopk (fun k : Nat => k ≤ l.length ∧ (l.take k).any p = false) (fun k => [(0, .d (.sl 1 (iss l))), (1, .d (.fn g)), (7, .d (.int .i64 l.length)), (8, .d (.int .i64 k))]) (fun _ => []) 0 (fun k => l.length - k) [0, 1, 7, 8] [] 0 ⟨Nat.zero_le _, rfl⟩ rfl rfl (Nat.le_refl _) (fun _ _ => rfl) (fun _ _ => rfl) fun k hk => ?_
  obtain ⟨hk1, hw⟩ := hk
  by_cases hk' : k < l.length
  · have c := hp (l[k]!) (hl.get hk')
    cases hg : p (l[k]!)
    · have hst := any_step (p := p) hk' hw hg
      rw [hg] at c
      have c0_ := c; refine goT ?_; try exact trivial
      refine ⟨k + 1, ⟨by omega, hst⟩, ?_, rfl, by omega⟩
      simp (disch := omega) only [go_sem, keepL, Int.natCast_add, Int.cast_ofNat_Int]
    · have e := fidx_at (p := p) hk' hw hg
      rw [hg] at c
      have c0_ := c; refine goX @e ?_; try exact trivial
  · have hkl : k = l.length := by omega
    subst hkl
    rw [List.take_length] at hw
    have e := fidx_none hw
    refine goX @e ?_; try exact trivial
theorem containsW {p : List Int → Bool} {g : Nat} (hp : ∀ w, w.length ≤ 9223372036854775807 → Sound Tryz.prog g [.sl 1 (is w)] (.bool (p w))) {l : List (List Int)} (hl : WsOk l) : Sound Tryz.prog 94 [.sl 1 (iss l), .fn g] (.bool (l.any p)) := by
  have e := fidx_ge p l
  refine Sound.run (N := 9) Tryz.func94 rfl (by kernel_rfl) rfl rfl rfl (by exact args0_2) fun X_ w_ => ?_
  have c0_ := indexW hp hl; refine goX @e ?_; try exact trivial
theorem pCmp2 {a b : List Int} (ha : a.length ≤ 9223372036854775807) (hb : b.length ≤ 9223372036854775807) : Sound Tryz.prog 97 [.sl 1 (is a), .sl 1 (is b)] (.int .i64 (wcmp a b)) := by
  have c := sCompare ha hb
  refine Sound.run (N := 8) Tryz.func97 rfl (by kernel_rfl) rfl rfl rfl (by exact args0_2) fun X_ w_ => ?_
  have c0_ := c; refine goT ?_; try exact trivial
theorem pCmp1 {a b : List Int} (ha : a.length ≤ 9223372036854775807) (hb : b.length ≤ 9223372036854775807) : Sound Tryz.prog 133 [.sl 1 (is a), .sl 1 (is b)] (.int .i64 (wcmp a b)) := by
  have c := sCompare ha hb
  refine Sound.run (N := 8) Tryz.func133 rfl (by kernel_rfl) rfl rfl rfl (by exact args0_2) fun X_ w_ => ?_
  have c0_ := c; refine goT ?_; try exact trivial
theorem pEq2 {a b : List Int} (ha : a.length ≤ 9223372036854775807) (hb : b.length ≤ 9223372036854775807) : Sound Tryz.prog 135 [.sl 1 (is a), .sl 1 (is b)] (.bool (decide (a = b))) := by
  have c := sEqual ha hb
  refine Sound.run (N := 8) Tryz.func135 rfl (by kernel_rfl) rfl rfl rfl (by exact args0_2) fun X_ w_ => ?_
  have c0_ := c; refine goT ?_; try exact trivial
def SrtW (l : List (List Int)) : Prop := l.Pairwise fun a b => wcmp a b < 0
theorem SrtW.at {l : List (List Int)} (h : SrtW l) {i j : Nat} (hij : i < j) (hj : j < l.length) : wcmp (l[i]!) (l[j]!) < 0 := by
  rw [getElem!_pos l i (by omega), getElem!_pos l j hj]
  exact List.pairwise_iff_getElem.1 h i j (by omega) hj hij
theorem pIsSorted {l : List (List Int)} (hl : WsOk l) (hs : SrtW l) : Sound Tryz.prog 96 [.sl 1 (iss l), .fn 97] (.bool true) := by
  have hlen := hl.1
  refine Sound.run (N := 25) Tryz.func96 rfl (by kernel_rfl) rfl rfl rfl (by exact args0_2) fun X_ w_ => ?_
  by_cases h0 : l.length = 0
  · refine goX @h0 ?_; try exact trivial
    refine WP_once ?_
    refine goT ?_; try exact trivial
  obtain ⟨n, hn⟩ : ∃ n, l.length = n + 1 := ⟨l.length - 1, by omega⟩
  have en : (l.length : Int) - 1 = n := by omega
  refine goX @en ?_; try exact trivial
  refine WP_loopk (fun k : Nat => k ≤ n) (fun k => [(0, .d (.sl 1 (iss l))), (1, .d (.fn 97)), (5, .d (.int .i64 k))]) (fun _ => []) 0 (fun k => k) [0, 1, 5] [] n (Nat.le_refl _) rfl rfl (Nat.le_refl _) (fun _ _ => rfl) (fun _ _ => rfl) fun k hk => ?_
  by_cases hk0 : k = 0
  · subst hk0
    refine goT ?_; try exact trivial
  · obtain ⟨m, rfl⟩ : ∃ m, k = m + 1 := ⟨k - 1, by omega⟩
    have em : ((m + 1 : Nat) : Int) - 1 = m := by omega
    have c := pCmp2 (hl.get (k := m + 1) (by omega)) (hl.get (k := m) (by omega))
    have h1 := hs.at (i := m) (j := m + 1) (by omega) (by omega)
    have h2 := wcmp_swap (l[m]!) (l[m + 1]!)
    have h3 : ¬ wcmp (l[m + 1]!) (l[m]!) < 0 := by omega
    have c0_ := c; refine goX (And.intro @em @h3) ?_; try exact trivial
    refine ⟨m, by omega, ?_, rfl, by omega⟩
    simp (disch := omega) only [go_sem, keepL, em]
theorem pCompact {l : List (List Int)} (hl : WsOk l) (hs : SrtW l) (h0 : 0 < l.length) : SoundM Tryz.prog 134 [.own 0 l.length, .d (.fn 135)] [(0, .row 36 1 (iss l))] (.own 0 l.length) [(0, .row 36 1 (iss l))] 1 := by
  have hlen := hl.1
  refine SoundM.run (N := 66) (ks := [0]) Tryz.func134 rfl (by kernel_rfl) rfl rfl rfl (by exact argsA_2) fun X_ ν_ w_ => ?_
  by_cases h1 : l.length < 2
  · refine goT ?_; try exact trivial
  refine goT ?_; try exact trivial
  refine WP_loopk (fun k : Nat => 1 ≤ k ∧ k ≤ l.length) (fun k => [(0, .own 0 l.length), (1, .d (.fn 135)), (5, .d (.int .i64 k))]) (fun _ => [(0, .row 36 1 (iss l))]) 1 (fun k => l.length - k) [0, 1, 5] [0] 1 ⟨Nat.le_refl _, by omega⟩ rfl rfl (Nat.le_of_ble_eq_true rfl) (fun _ _ => rfl) (fun _ _ => rfl) fun k hk => ?_
  obtain ⟨hk1, hk2⟩ := hk
  by_cases hk3 : k < l.length
  · obtain ⟨m, rfl⟩ : ∃ m, k = m + 1 := ⟨k - 1, by omega⟩
    have em : ((m + 1 : Nat) : Int) - 1 = m := by omega
    have c := pEq2 (hl.get (k := m + 1) (by omega)) (hl.get (k := m) (by omega))
    have h1 := hs.at (i := m) (j := m + 1) (by omega) (by omega)
    have h2 : decide (l[m + 1]! = l[m]!) = false := decide_eq_false fun e => by
      rw [e] at h1
      have := (wcmp_eq (l[m]!) (l[m]!)).2 rfl
      omega
    rw [h2] at c
    have c0_ := c; refine goX @em ?_; try exact trivial
    refine ⟨m + 1 + 1, ⟨by omega, by omega⟩, ?_, ?_, by omega⟩
    · simp (disch := omega) only [go_sem, keepL, Int.natCast_add, Int.cast_ofNat_Int]
    · simp (disch := omega) only [go_sem, keepL]
  · have hkl : k = l.length := by omega
    subst hkl
    refine goT ?_; try exact trivial
end Go.Eng.Tryz
set_option linter.unusedVariables false
set_option linter.unusedSimpArgs false
namespace Go.Eng.Tryz
open Go Go.Eng Go.Proofs Go.RowKit
theorem wcmp_pre : ∀ (u a b : List Int), wcmp (u ++ a) (u ++ b) = wcmp a b
  | [], a, b => rfl
  | x :: u, a, b => by simp only [List.cons_append, wcmp, Int.lt_irrefl, if_false]; exact wcmp_pre u a b
theorem wcmp_nil (w : List Int) : ¬ wcmp w [] < 0 := by cases w <;> simp [wcmp]
theorem wcmp_ext (w u : List Int) (a : Int) : wcmp w (w ++ a :: u) < 0 := by
  have := wcmp_pre w [] (a :: u)
  rw [List.append_nil] at this
  rw [this]; simp [wcmp]
theorem wcmp_branch {a b : Int} (h : a < b) (w u v : List Int) : wcmp (w ++ a :: u) (w ++ b :: v) < 0 := by
  rw [wcmp_pre]; simp [wcmp, h]
def cutW (w f : List Int) : Bool := decide (wcmp (w.take (min w.length f.length)) (f.take (min w.length f.length)) < 0)
theorem cutW_nil (w : List Int) : cutW w [] = false := by simp [cutW, wcmp]
theorem cutW_cons (x y : Int) (u f : List Int) : cutW (x :: u) (y :: f) = (decide (x < y) || (decide (x = y) && cutW u f)) := by
  unfold cutW
  simp only [List.length_cons, Nat.add_min_add_right, List.take_succ_cons, wcmp]
  by_cases h1 : x < y
  · simp [h1]
  · by_cases h2 : y < x
    · have : ¬ x = y := by omega
      simp [h1, h2, this]
    · have : x = y := by omega
      simp [h1, h2, this]
theorem cutW_less : ∀ {u f : List Int}, cutW u f = true → ∀ v, wcmp (u ++ v) f < 0
  | [], f, h, v => by simp [cutW, wcmp] at h
  | x :: u, [], h, v => by rw [cutW_nil] at h; cases h
  | x :: u, y :: f, h, v => by
    rw [cutW_cons, Bool.or_eq_true, Bool.and_eq_true, decide_eq_true_eq, decide_eq_true_eq] at h
    simp only [List.cons_append, wcmp]
    rcases h with h | ⟨h, h'⟩
    · rw [if_pos h]; decide
    · rw [if_neg (by omega), if_neg (by omega)]
      exact cutW_less h' v
def wf (l : List Sta) (f : List Int) : Nat → Nat → List Int → List (List Int)
  | 0, _, _ => []
  | n + 1, k, w => (if (l[k]!).final = true ∧ ¬ wcmp w f < 0 then [w] else []) ++ (l[k]!).arcs.flatMap fun a => if cutW (w ++ [a.sign]) f = true then [] else wf l f n a.to.toNat (w ++ [a.sign])
theorem wf_filter (l : List Sta) (f : List Int) : ∀ (n k : Nat) (w : List Int), wf l f n k w = (wf l [] n k w).filter fun x => decide (¬ wcmp x f < 0)
  | 0, k, w => rfl
  | n + 1, k, w => by
    simp only [wf, List.filter_append, List.filter_flatMap]
    congr 1
    · have hw := wcmp_nil w
      by_cases h1 : (l[k]!).final = true
      · rw [if_pos (show (l[k]!).final = true ∧ ¬ wcmp w [] < 0 from ⟨h1, hw⟩)]
        by_cases h2 : wcmp w f < 0
        · rw [if_neg (fun h => h.2 h2), List.filter_cons_of_neg (by simp [h2])]; rfl
        · rw [if_pos ⟨h1, h2⟩, List.filter_cons_of_pos (by simp only [h2, not_false_eq_true, decide_true])]; rfl
      · rw [if_neg (fun h => h1 h.1), if_neg (fun h => h1 h.1)]; rfl
    · congr 1
      funext a
      rw [cutW_nil, if_neg (show ¬ (false = true) by simp), ← wf_filter l f n]
      split
      · rename_i h
        rw [wf_filter l f n]
        refine (List.filter_eq_nil_iff.2 fun x hx => ?_).symm
        obtain ⟨u, rfl⟩ : ∃ u, x = (w ++ [a.sign]) ++ u := wf_beg l [] n _ _ x hx
        simpa using cutW_less h u
      · rfl
where
  wf_beg (l : List Sta) (f : List Int) : ∀ (n k : Nat) (w x : List Int), x ∈ wf l f n k w → ∃ u, x = w ++ u
    | 0, k, w, x, h => by simp [wf] at h
    | n + 1, k, w, x, h => by
      simp only [wf, List.mem_append, List.mem_flatMap] at h
      rcases h with h | ⟨a, _, h⟩
      · split at h
        · simp only [List.mem_singleton] at h; exact ⟨[], by rw [h, List.append_nil]⟩
        · cases h
      · split at h
        · cases h
        · obtain ⟨u, rfl⟩ := wf_beg l f n _ _ x h
          exact ⟨a.sign :: u, by simp⟩
theorem wf_pre {l : List Sta} {f : List Int} {n k : Nat} {w x : List Int} (h : x ∈ wf l f n k w) : ∃ u, x = w ++ u := wf_filter.wf_beg l f n k w x h
theorem arcs_pw {i n : Int} : ∀ {l : List Ar} {last : Int}, arcsOk i n last l = true → l.Pairwise fun a b => a.sign < b.sign
  | [], _, _ => List.Pairwise.nil
  | b :: l, last, h => by
    simp only [arcsOk, Bool.and_eq_true] at h
    exact List.Pairwise.cons (fun a ha => (arcsOk_mem h.2 a ha).2.2.2) (arcs_pw h.2)
theorem wf_srt {l : List Sta} (hka : achk l = true) : ∀ (n k : Nat) (w : List Int), k < l.length → SrtW (wf l [] n k w)
  | 0, k, w, _ => List.Pairwise.nil
  | n + 1, k, w, hk => by
    simp only [wf, cutW_nil, Bool.false_eq_true, if_false]
    refine List.pairwise_append.2 ⟨by split <;> simp, List.pairwise_flatMap.2 ⟨fun a ha => ?_, ?_⟩, fun x hx y hy => ?_⟩
    · have := achk_arc hka hk a ha
      exact wf_srt hka n _ _ (by omega)
    · refine (arcs_pw (statesOk_le (achk_iff.1 hka).1 hk)).imp fun {a b} hab x hx y hy => ?_
      obtain ⟨u, rfl⟩ := wf_pre hx
      obtain ⟨v, rfl⟩ := wf_pre hy
      simp only [List.append_assoc, List.singleton_append]
      exact wcmp_branch hab _ _ _
    · split at hx
      · simp only [List.mem_singleton] at hx
        subst hx
        obtain ⟨a, _, ha⟩ := List.mem_flatMap.1 hy
        obtain ⟨u, rfl⟩ := wf_pre ha
        simp only [List.append_assoc, List.singleton_append]
        exact wcmp_ext _ _ _
      · cases hx
theorem arcs_find2 {i n : Int} : ∀ {l : List Ar} {last : Int}, arcsOk i n last l = true → ∀ a ∈ l, l.find? (sgn a.sign) = some a
  | [], _, _, a, ha => by cases ha
  | b :: l, last, h, a, ha => by
    rcases List.mem_cons.1 ha with e | e
    · subst e; simp [List.find?, sgn]
    · simp only [arcsOk, Bool.and_eq_true] at h
      have := arcsOk_mem h.2 a e
      have hne : sgn a.sign b = false := decide_eq_false (by omega)
      rw [List.find?_cons_of_neg (by simp [hne])]
      exact arcs_find2 h.2 a e
theorem wf_lead {l : List Sta} (hka : achk l = true) {f : List Int} : ∀ (n k : Nat) (w : List Int), k < l.length → ∀ x ∈ wf l f n k w, ∃ u t, x = w ++ u ∧ leadF l k u = some t ∧ (l[t.toNat]!).final = true ∧ ∀ z ∈ u, 0 ≤ z
  | 0, k, w, _, x, h => by simp [wf] at h
  | n + 1, k, w, hk, x, h => by
    simp only [wf, List.mem_append, List.mem_flatMap] at h
    rcases h with h | ⟨a, ha, h⟩
    · split at h
      · rename_i hf
        simp only [List.mem_singleton] at h
        exact ⟨[], k, by rw [h, List.append_nil], rfl, by simpa using hf.1, fun z hz => by cases hz⟩
      · cases h
    · split at h
      · cases h
      · obtain ⟨g1, g2, g3⟩ := achk_arc hka hk a ha
        obtain ⟨u, t, rfl, e1, e2, e3⟩ := wf_lead hka n _ _ (by omega) x h
        have hf := arcs_find2 (statesOk_le (achk_iff.1 hka).1 hk) a ha
        have et : ((a.to.toNat : Nat) : Int) = a.to := by omega
        refine ⟨a.sign :: u, t, by simp, ?_, e2, fun z hz => ?_⟩
        · simp only [leadF, stepF]
          rw [if_pos ⟨by omega, by omega⟩, Int.toNat_natCast, hf]
          simp only [Option.map_some]
          rw [et] at e1
          exact e1
        · rcases List.mem_cons.1 hz with rfl | hz
          · exact (of_decide_eq_true g3).1
          · exact e3 z hz
theorem fold_cnt {M : List Int} {cnt : Ar → Nat} : ∀ (al : List Ar) (c : Nat), (∀ a ∈ al, M[a.to.toNat]! = min 301 (cnt a : Int)) → al.foldl (many1 M) (min 301 (c : Int)) = min 301 ((c + (al.map cnt).sum : Nat) : Int)
  | [], c, h => by simp
  | a :: al, c, h => by
    simp only [List.foldl_cons, List.map_cons, List.sum_cons]
    have e : many1 M (min 301 (c : Int)) a = min 301 (((c + cnt a : Nat)) : Int) := by unfold many1; rw [h a (by simp)]; omega
    rw [e, fold_cnt al (c + cnt a) fun x hx => h x (by simp [hx])]
    congr 2
    omega
theorem wf_many {l : List Sta} (hka : achk l = true) : ∀ (n k : Nat) (w : List Int), k < l.length → l.length ≤ n + k → (toldI manyF l l.length)[k]! = min 301 ((wf l [] n k w).length : Int)
  | 0, k, w, h1, h2 => by omega
  | n + 1, k, w, h1, h2 => by
    rw [toldI_fix hka manyF_congr l.length (Nat.le_refl _) k (by omega) h1]
    unfold manyF
    have e0 : (if (l[k]!).final = true then (1 : Int) else 0) = min 301 (((if (l[k]!).final = true ∧ ¬ wcmp w [] < 0 then [w] else []).length : Nat) : Int) := by
      by_cases hf : (l[k]!).final = true
      · rw [if_pos hf, if_pos ⟨hf, wcmp_nil w⟩]; rfl
      · rw [if_neg hf, if_neg fun h => hf h.1]; rfl
    rw [e0, fold_cnt (cnt := fun a => (wf l [] n a.to.toNat (w ++ [a.sign])).length) _ _ fun a ha => ?_]
    · simp only [wf, cutW_nil, Bool.false_eq_true, if_false, List.length_append, List.length_flatMap]
    · have := achk_arc hka h1 a ha
      exact wf_many hka n _ _ (by omega) (by omega)
theorem wf_zero {l : List Sta} (hka : achk l = true) {f : List Int} {n k : Nat} {w : List Int} (h1 : k < l.length) (h2 : l.length ≤ n + k) (h : (toldI manyF l l.length)[k]! = 0) : wf l f n k w = [] := by
  rw [wf_many hka n k w h1 h2] at h
  have : (wf l [] n k w) = [] := List.eq_nil_of_length_eq_zero (by omega)
  rw [wf_filter, this]; rfl
def wordsF (l : List Sta) (f : List Int) : List (List Int) := wf l f l.length 0 []
theorem wordsF_filter (l : List Sta) (f : List Int) : wordsF l f = (wordsF l []).filter fun x => decide (¬ wcmp x f < 0) := wf_filter l f _ _ _
theorem wordsF_srt {l : List Sta} (hka : achk l = true) (f : List Int) : SrtW (wordsF l f) := by
  rw [wordsF_filter]
  exact (wf_srt hka _ _ _ (achk_iff.1 hka).2.1).filter _
where
  wcmp_lt_irr0 (a : List Int) : ¬ wcmp a a < 0 := by have := (wcmp_eq a a).2 rfl; omega
end Go.Eng.Tryz
set_option linter.unusedVariables false
set_option linter.unusedSimpArgs false
namespace Go.Eng.Tryz
open Go Go.Eng Go.Proofs Go.RowKit
theorem stepF_arc {l : List Sta} (hka : achk l = true) {k : Nat} {z t : Int} (h : stepF l k z = some t) : k < l.length ∧ ∃ a ∈ (l[k]!).arcs, a.sign = z ∧ a.to = t := by
  have hin := stepF_in hka h
  unfold stepF at h
  rw [if_pos ⟨by omega, by omega⟩, Int.toNat_natCast] at h
  obtain ⟨a, ha, h2⟩ := Option.map_eq_some_iff.1 h
  refine ⟨by omega, a, List.mem_of_find?_eq_some ha, ?_, h2⟩
  have := List.find?_some ha
  simpa [sgn] using this
theorem wf_mem {l : List Sta} (hka : achk l = true) : ∀ (n : Nat) (u : List Int) (k : Nat) (w : List Int) (t : Int), k < l.length → l.length ≤ n + k → leadF l k u = some t → (l[t.toNat]!).final = true → w ++ u ∈ wf l [] n k w := by
  intro n
  induction n with
  | zero => intro u k w t h1 h2; omega
  | succ n ih =>
    intro u k w t h1 h2 h3 h4
    cases u with
    | nil =>
      simp only [leadF, Option.some.injEq] at h3
      subst h3
      simp only [wf, List.mem_append]
      left
      rw [if_pos ⟨by simpa using h4, wcmp_nil w⟩]
      simp
    | cons z u =>
      simp only [leadF] at h3
      cases hs : stepF l k z with
      | none => rw [hs] at h3; cases h3
      | some t1 =>
        rw [hs] at h3
        simp only at h3
        have hin := stepF_in hka hs
        obtain ⟨_, a, hm, hz, ht⟩ := stepF_arc hka hs
        obtain ⟨j, hj⟩ : ∃ j : Nat, t1 = j := ⟨t1.toNat, by omega⟩
        subst hj
        have := ih u j (w ++ [z]) t (by omega) (by omega) h3 h4
        simp only [wf, List.mem_append, List.mem_flatMap]
        right
        refine ⟨a, hm, ?_⟩
        rw [cutW_nil, hz, ht, Int.toNat_natCast]
        simpa using this
theorem wordsF_mem {l : List Sta} (hka : achk l = true) {u : List Int} {t : Int} (h1 : leadF l 0 u = some t) (h2 : (l[t.toNat]!).final = true) : u ∈ wordsF l [] := by
  have := wf_mem hka l.length u 0 [] t (achk_iff.1 hka).2.1 (by omega) h1 h2
  simpa [wordsF] using this
theorem deep_ge {out : List Int} : ∀ (al : List Ar) (m : Int), m ≤ al.foldl (deep1 out) m ∧ ∀ a ∈ al, 0 ≤ out[a.to.toNat]! → out[a.to.toNat]! + 1 ≤ al.foldl (deep1 out) m
  | [], m => ⟨Int.le_refl _, fun a h => (by cases h)⟩
  | b :: al, m => by
    obtain ⟨h1, h2⟩ := deep_ge (out := out) al (deep1 out m b)
    simp only [List.foldl_cons]
    have hb : m ≤ deep1 out m b ∧ (0 ≤ out[b.to.toNat]! → out[b.to.toNat]! + 1 ≤ deep1 out m b) := by unfold deep1; split <;> omega
    refine ⟨by omega, fun a ha h0 => ?_⟩
    rcases List.mem_cons.1 ha with rfl | ha
    · have := hb.2 h0; omega
    · exact h2 a ha h0
theorem deep_lead {l : List Sta} (hka : achk l = true) : ∀ (u : List Int) (k : Nat) (t : Int), k < l.length → leadF l k u = some t → (l[t.toNat]!).final = true → (u.length : Int) ≤ (toldI deepF l l.length)[k]! := by
  intro u
  induction u with
  | nil =>
    intro k t hk h1 h2
    simp only [leadF, Option.some.injEq] at h1
    subst h1
    rw [toldI_fix hka deepF_congr l.length (Nat.le_refl _) k (by omega) hk]
    unfold deepF
    rw [Int.toNat_natCast] at h2
    rw [if_pos h2]
    exact (deep_ge _ _).1
  | cons z u ih =>
    intro k t hk h1 h2
    simp only [leadF] at h1
    cases hs : stepF l k z with
    | none => rw [hs] at h1; cases h1
    | some t1 =>
      rw [hs] at h1
      simp only at h1
      have hin := stepF_in hka hs
      obtain ⟨_, a, hm, hz, ht⟩ := stepF_arc hka hs
      obtain ⟨j, hj⟩ : ∃ j : Nat, t1 = j := ⟨t1.toNat, by omega⟩
      subst hj
      have h3 := ih j t (by omega) h1 h2
      rw [toldI_fix hka deepF_congr l.length (Nat.le_refl _) k (by omega) hk]
      have h4 := (deep_ge (out := toldI deepF l l.length) (l[k]!).arcs (if (l[k]!).final = true then 0 else -1)).2 a hm
      rw [ht, Int.toNat_natCast] at h4
      have h5 := h4 (by omega)
      show ((u.length + 1 : Nat) : Int) ≤ (l[k]!).arcs.foldl (deep1 (toldI deepF l l.length)) (if (l[k]!).final = true then 0 else -1)
      omega
theorem deep_foldA {out : List Int} : ∀ (al : List Ar) (m : Int), al.foldl (deep1 out) m = m ∨ ∃ a ∈ al, 0 ≤ out[a.to.toNat]! ∧ al.foldl (deep1 out) m = out[a.to.toNat]! + 1
  | [], m => .inl rfl
  | b :: al, m => by
    simp only [List.foldl_cons]
    rcases deep_foldA (out := out) al (deep1 out m b) with h | ⟨a, ha, h0, h⟩
    · rw [h]
      unfold deep1
      split
      · rename_i h0
        by_cases h1 : m ≤ out[b.to.toNat]! + 1
        · exact .inr ⟨b, by simp, h0, by omega⟩
        · left; omega
      · exact .inl rfl
    · exact .inr ⟨a, List.mem_cons_of_mem _ ha, h0, h⟩
theorem deep_att {l : List Sta} (hka : achk l = true) : ∀ (n k : Nat), k < l.length → l.length ≤ n + k → (toldI deepF l l.length)[k]! = -1 ∨ ∃ u t, leadF l k u = some t ∧ (l[t.toNat]!).final = true ∧ (u.length : Int) = (toldI deepF l l.length)[k]! := by
  intro n
  induction n with
  | zero => intro k h1 h2; omega
  | succ n ih =>
    intro k h1 h2
    have e := toldI_fix hka deepF_congr l.length (Nat.le_refl _) k (by omega) h1
    have e2 : deepF (l[k]!) (toldI deepF l l.length) = (l[k]!).arcs.foldl (deep1 (toldI deepF l l.length)) (if (l[k]!).final = true then 0 else -1) := rfl
    rw [e2] at e
    rcases deep_foldA (out := toldI deepF l l.length) (l[k]!).arcs (if (l[k]!).final = true then 0 else -1) with h | ⟨a, ha, h0, h⟩
    · by_cases hf : (l[k]!).final = true
      · right
        refine ⟨[], k, rfl, by simpa using hf, ?_⟩
        rw [e, h, if_pos hf]
        rfl
      · left
        rw [e, h, if_neg hf]
    · have hin := achk_arc hka h1 a ha
      obtain ⟨j, hj⟩ : ∃ j : Nat, a.to = j := ⟨a.to.toNat, by omega⟩
      have hst : stepF l k a.sign = some (j : Int) := by
        unfold stepF
        rw [if_pos ⟨by omega, by omega⟩, Int.toNat_natCast, arcs_find2 (statesOk_le (achk_iff.1 hka).1 h1) a ha, ← hj]
        rfl
      rw [hj, Int.toNat_natCast] at h0 h
      rcases ih j (by omega) (by omega) with h3 | ⟨u, t, u1, u2, u3⟩
      · omega
      · right
        refine ⟨a.sign :: u, t, by simp only [leadF, hst]; exact u1, u2, ?_⟩
        rw [e, h, ← u3]
        simp
def Lng (L : List (List Int)) (l : List Sta) : Prop := ∀ u, u ∈ L ↔ ∃ t, leadF l 0 u = some t ∧ (l[t.toNat]!).final = true
theorem lng_words {l : List Sta} (hka : achk l = true) : Lng (wordsF l []) l := fun u => by
  constructor
  · intro h
    obtain ⟨v, t, e, e1, e2, e3⟩ := wf_lead hka _ _ _ (achk_iff.1 hka).2.1 u h
    simp only [List.nil_append] at e
    subst e
    exact ⟨t, e1, e2⟩
  · rintro ⟨t, h1, h2⟩
    exact wordsF_mem hka h1 h2
theorem Lng.deep {L : List (List Int)} {l : List Sta} (h : Lng L l) (hka : achk l = true) : -1 ≤ deepN l ∧ (∀ w ∈ L, (w.length : Int) ≤ deepN l) ∧ (deepN l = -1 ∨ ∃ w ∈ L, (w.length : Int) = deepN l) := by
  have hl0 := (achk_iff.1 hka).2.1
  have e : deepN l = (toldI deepF l l.length)[0]! := by unfold deepN; rw [if_pos hka]
  rw [e]
  have ha := deep_att hka l.length 0 hl0 (by omega)
  refine ⟨?_, fun w hw => ?_, ?_⟩
  · rcases ha with h | ⟨u, t, _, _, h⟩ <;> omega
  · obtain ⟨t, h1, h2⟩ := (h w).1 hw
    exact deep_lead hka w 0 t hl0 h1 h2
  · rcases ha with h1 | ⟨u, t, u1, u2, u3⟩
    · exact .inl h1
    · exact .inr ⟨u, (h u).2 ⟨t, u1, u2⟩, u3⟩
theorem lead_in {l : List Sta} (hka : achk l = true) : ∀ (u : List Int) (k t : Int), 0 ≤ k → k < l.length → leadF l k u = some t → k ≤ t ∧ t < l.length := by
  intro u
  induction u with
  | nil => intro k t h0 h1 h; simp only [leadF, Option.some.injEq] at h; omega
  | cons z u ih =>
    intro k t h0 h1 h
    simp only [leadF] at h
    cases hs : stepF l k z with
    | none => rw [hs] at h; cases h
    | some s =>
      rw [hs] at h
      have := stepF_in hka hs
      have := ih s t (by omega) (by omega) h
      omega
end Go.Eng.Tryz

/- The library's sort, laid at this program. (and what stands behind it: texts laid together) -/
import Derived.Shelf.SlSortCmp.WholeK
import Derived.Shelf.SlGeneric
import Derived.Ground.SlsfProg
import Derived.Test.YtbnhblimckdcgabGreatProg
import Derived.Test.YtbnhblimckdcgabGreatMG4
import Derived.Test.YtbnhblimckdcgabGreatMR14
import Derived.Test.YtbnhblimckdcgabGreatMH1
import Derived.Test.YtbnhblimckdcgabGreatMR13
namespace Go.Proofs
open Go.Shelf Go.RowKit Go.Lib Go.Sort
def Tryz.sortWord_ren : Go.Shelf.Ren := ⟨fun | 6 => 78 | 15 => 69 | 14 => 103 | 28 => 94 | 29 => 95 | 20 => 111 | 21 => 112 | 22 => 113 | 23 => 114 | 24 => 115 | 25 => 116 | 26 => 117 | 27 => 118 | 46 => 120 | 47 => 107 | 48 => 108 | 49 => 121 | 50 => 122 | 57 => 123 | n => n, fun | 22 => 33 | 24 => 26 | 25 => 112 | 3 => 3 | 39 => 119 | 0 => 0 | 53 => 145 | 55 => 22 | 4 => 4 | 46 => 139 | 45 => 138 | 50 => 43 | 5 => 5 | 9 => 9 | 66 => 154 | 70 => 158 | 76 => 165 | 77 => 166 | n => n, fun | n => n⟩
theorem Tryz.sortWord : Go.Proofs.SlLaysF.n6 Tryz.prog Tryz.sortWord_ren := {
  mixed := by kernel_rfl
  f6 := ⟨Tryz.f78.name, by decide, Tryz.func78.trans (congrArg some (by kernel_rfl))⟩
  f14 := ⟨Tryz.f103.name, by decide, Tryz.func103.trans (congrArg some (by kernel_rfl))⟩
  f15 := Tryz.func69.trans (congrArg some (by kernel_rfl))
  f20 := ⟨Tryz.f111.name, by decide, Tryz.func111.trans (congrArg some (by kernel_rfl))⟩
  f21 := ⟨Tryz.f112.name, by decide, Tryz.func112.trans (congrArg some (by kernel_rfl))⟩
  f22 := ⟨Tryz.f113.name, by decide, Tryz.func113.trans (congrArg some (by kernel_rfl))⟩
  f23 := ⟨Tryz.f114.name, by decide, Tryz.func114.trans (congrArg some (by kernel_rfl))⟩
  f24 := ⟨Tryz.f115.name, by decide, Tryz.func115.trans (congrArg some (by kernel_rfl))⟩
  f25 := ⟨Tryz.f116.name, by decide, Tryz.func116.trans (congrArg some (by kernel_rfl))⟩
  f26 := ⟨Tryz.f117.name, by decide, Tryz.func117.trans (congrArg some (by kernel_rfl))⟩
  f27 := ⟨Tryz.f118.name, by decide, Tryz.func118.trans (congrArg some (by kernel_rfl))⟩
  f28 := Tryz.func94.trans (congrArg some (by kernel_rfl))
  f29 := Tryz.func95.trans (congrArg some (by kernel_rfl))
  f46 := ⟨Tryz.f120.name, by decide, Tryz.func120.trans (congrArg some (by kernel_rfl))⟩
  f47 := Tryz.func107.trans (congrArg some (by kernel_rfl))
  f48 := Tryz.func108.trans (congrArg some (by kernel_rfl))
  f49 := ⟨Tryz.f121.name, by decide, Tryz.func121.trans (congrArg some (by kernel_rfl))⟩
  f50 := ⟨Tryz.f122.name, by decide, Tryz.func122.trans (congrArg some (by kernel_rfl))⟩
  f57 := ⟨Tryz.f123.name, by decide, Tryz.func123.trans (congrArg some (by kernel_rfl))⟩
  t0 := Tryz.underlying0
  a0 := Tryz.isAgg0
  z0 := Tryz.sizeOf0
  v0 := Tryz.zeroValue0
  t3 := Tryz.underlying3
  a3 := Tryz.isAgg3
  z3 := Tryz.sizeOf3
  v3 := Tryz.zeroValue3
  t4 := Tryz.underlying4
  a4 := Tryz.isAgg4
  z4 := Tryz.sizeOf4
  v4 := Tryz.zeroValue4
  t5 := Tryz.underlying5
  a5 := Tryz.isAgg5
  z5 := Tryz.sizeOf5
  v5 := Tryz.zeroValue5
  t9 := Tryz.underlying9
  a9 := Tryz.isAgg9
  z9 := Tryz.sizeOf9
  v9 := Tryz.zeroValue9
  t22 := Tryz.underlying33
  a22 := Tryz.isAgg33
  z22 := Tryz.sizeOf33
  v22 := Tryz.zeroValue33
  a24 := Tryz.isAgg26
  z24 := Tryz.sizeOf26
  t25 := Tryz.underlying112
  a25 := Tryz.isAgg112
  z25 := Tryz.sizeOf112
  v25 := Tryz.zeroValue112
  t39 := Tryz.underlying119
  a39 := Tryz.isAgg119
  z39 := Tryz.sizeOf119
  v39 := Tryz.zeroValue119
  t45 := Tryz.underlying138
  a45 := Tryz.isAgg138
  z45 := Tryz.sizeOf138
  v45 := Tryz.zeroValue138
  t46 := Tryz.underlying139
  a46 := Tryz.isAgg139
  z46 := Tryz.sizeOf139
  v46 := Tryz.zeroValue139
  t50 := Tryz.underlying43
  a50 := Tryz.isAgg43
  z50 := Tryz.sizeOf43
  v50 := Tryz.zeroValue43
  t53 := Tryz.underlying145
  a53 := Tryz.isAgg145
  z53 := Tryz.sizeOf145
  v53 := Tryz.zeroValue145
  t55 := Tryz.underlying22
  a55 := Tryz.isAgg22
  z55 := Tryz.sizeOf22
  v55 := Tryz.zeroValue22
  t66 := Tryz.underlying154
  a66 := Tryz.isAgg154
  z66 := Tryz.sizeOf154
  v66 := Tryz.zeroValue154
  t70 := Tryz.underlying158
  a70 := Tryz.isAgg158
  z70 := Tryz.sizeOf158
  v70 := Tryz.zeroValue158
  t76 := Tryz.underlying165
  a76 := Tryz.isAgg165
  z76 := Tryz.sizeOf165
  v76 := Tryz.zeroValue165
  t77 := Tryz.underlying166
  a77 := Tryz.isAgg166
  z77 := Tryz.sizeOf166
  v77 := Tryz.zeroValue166 }
end Go.Proofs
set_option linter.unusedVariables false
set_option linter.unusedSimpArgs false
namespace Go.Eng.Tryz
open Go Go.Eng Go.Proofs Go.RowKit
attribute [local go_sem] tys
attribute [local go_sem] is_len is_get iss_len iss_get iss_snoc
def unI (x : D) : Int := match x with | .int _ z => z | _ => 0
def unisX (d : D) : List Int := match d with | .sl _ xs => xs.map unI | _ => []
theorem unisX_is (w : List Int) : unisX (.sl 1 (is w)) = w := by simp [unisX, is, unI, List.map_map, Function.comp_def]
theorem wcmp_lt_irr (a : List Int) : ¬ wcmp a a < 0 := by have := (wcmp_eq a a).2 rfl; omega
set_option maxRecDepth 10000 in
theorem pSortW {xs ys : List (List Int)} (hok : ∀ w ∈ xs, w.length ≤ 9223372036854775807) (h0 : 0 < xs.length) (hmax : xs.length < 4611686018427387904) (hp : ys.Perm xs) (hs : ys.Pairwise (fun a b => ¬ wcmp b a < 0)) :
    SoundM Tryz.prog 78 [.own 0 xs.length, .d (.fn 79)] [(0, .row 26 1 (iss xs))] (.tup []) [(0, .row 26 1 (iss ys))] 1 := by
  have eg : ∀ args w, (callFunc 79 args).run Tryz.prog w = .ok (.enter 79 args) w := enters_of Tryz.func79 (by kernel_rfl) rfl
  have hlen : (iss xs).length = xs.length := iss_len
  have gd : ∀ x, (∃ w : List Int, w.length ≤ 9223372036854775807 ∧ x = D.sl 1 (is w)) → D.sl 1 (is (unisX x)) = x ∧ (unisX x).length ≤ 9223372036854775807 := fun x ⟨r, h1, h2⟩ => by rw [h2, unisX_is]; exact ⟨rfl, h1⟩
  have := sort_sound1 (P := Tryz.prog) Tryz.sortWord eg (Good := fun x => ∃ w : List Int, w.length ≤ 9223372036854775807 ∧ x = D.sl 1 (is w)) (cf := fun x y => wcmp (unisX x) (unisX y))
    (fun x y hx hy => by
      have := pCmp1 (gd x hx).2 (gd y hy).2
      rwa [(gd x hx).1, (gd y hy).1] at this)
    (fun x hx => wcmp_lt_irr _) (fun x y z _ _ _ h1 h2 => wcmp_lt_trans h1 (by omega)) (fun x y z _ _ _ h1 h2 => by
      have a1 := wcmp_swap (unisX x) (unisX y)
      have a2 := wcmp_swap (unisX y) (unisX z)
      have a3 := wcmp_swap (unisX x) (unisX z)
      have := wcmp_le_trans (unisX z) (unisX y) (unisX x) (by omega) (by omega)
      omega)
    (fun x y hx hy h1 h2 => by
      have a1 := wcmp_swap (unisX x) (unisX y)
      have e := (wcmp_eq (unisX x) (unisX y)).1 (by omega)
      rw [← (gd x hx).1, ← (gd y hy).1, e])
    (fun x ⟨r, _, h⟩ => by rw [h]; rfl) (e := 26) (xs := iss xs) (ys := iss ys) (fun x hx => by
      obtain ⟨w, hw, rfl⟩ := List.mem_map.1 hx
      exact ⟨w, hok w hw, rfl⟩) (by rw [hlen]; exact h0) (by rw [hlen]; exact hmax) (hp.map _) (by
      unfold iss
      rw [List.pairwise_map]
      exact hs.imp (fun {a b} h => by rw [unisX_is, unisX_is]; exact h))
  rw [hlen] at this
  exact this
theorem SrtW.stay {l : List (List Int)} (h : SrtW l) : l.Pairwise (fun a b => ¬ wcmp b a < 0) := h.imp fun {a b} h => by have := wcmp_swap a b; omega
theorem iss_take_succ {l : List (List Int)} {k : Nat} (h : k < l.length) : l.take (k + 1) = l.take k ++ [l[k]!] := atake_snoc h
set_option maxHeartbeats 4000000 in
set_option maxRecDepth 10000 in
/-- Words that are in order stay so. -/
theorem pWSort1 {l : List (List Int)} (hl : ∀ w ∈ l, w.length ≤ 1000000) (hlen : l.length ≤ 1000000) (h0 : 0 < l.length) (hs : SrtW l) : Sound Tryz.prog 59 [.sl 1 (iss l)] (.sl 1 (iss l)) := by
  have hok : ∀ w ∈ l, w.length ≤ 9223372036854775807 := fun w hw => Nat.le_trans (hl w hw) (by decide)
  have c1 := pSortW (xs := l) (ys := l) hok h0 (by omega) (List.Perm.refl _) hs.stay
  have c2 := pCompact ⟨by omega, hok⟩ hs h0
  refine Sound.run (N := 25) Tryz.func59 rfl (by kernel_rfl) rfl rfl rfl (by first | exact args0_0 | exact args0_1 | exact args0_2 | exact args0_3 | exact args0_4 | exact args0_5 | exact args0_6) fun X_ w_ => ?_
  refine goT ?_; first | exact trivial | skip
  refine WP_loopk (fun k : Nat => k ≤ l.length) (fun k => [(3, .own 1002 (l.take k).length), (9, .d (.sl 1 (iss l))), (10, .d (.int .i64 l.length)), (11, .d (.int .i64 k))]) (fun k => [(1002, .row 26 1 (iss (l.take k)))]) 1003 (fun k => l.length - k) [3, 9, 10, 11] [1002] 0 (Nat.zero_le _) rfl rfl (Nat.zero_le _) (fun _ _ => rfl) (fun _ _ => rfl) fun k hk => ?_
  have hkl : (l.take k).length = k := by simp; omega
  by_cases hk3 : k < l.length
  · have hst := iss_take_succ hk3
    have cl := pClone (l := l[k]!) (by rw [getElem!_pos l k hk3]; exact hl _ (List.getElem_mem hk3))
    have c0_ := cl; refine goX @hkl ?_; first | exact trivial | skip
    refine ⟨k + 1, by omega, ?_, ?_, by omega⟩
    · simp (disch := omega) only [go_sem, keepL, Int.natCast_add, Int.cast_ofNat_Int, hst, hkl, List.length_append, List.length_cons, List.length_nil]
    · simp (disch := omega) only [go_sem, keepL, hst]
  · have hke : k = l.length := by omega
    subst hke
    rw [List.take_length]
    have c0_ := c1; have c1_ := c2; refine goT ?_; first | exact trivial | skip
/-- Bytes, as a slice's elements. -/
def bys (l : List Int) : List D := l.map fun z => .int .u8 z
theorem bys_len {l : List Int} : (bys l).length = l.length := by simp [bys]
theorem bys_snoc {l : List Int} {z : Int} : bys l ++ [.int .u8 z] = bys (l ++ [z]) := by simp [bys]
theorem bys_app {a b : List Int} : bys a ++ bys b = bys (a ++ b) := by simp [bys]
attribute [local go_sem] bys_len bys_snoc bys_app
set_option maxHeartbeats 4000000 in
set_option maxRecDepth 10000 in
/-- A sign below 128. -/
theorem pAppRune {b : List Int} {z : Int} (h0 : 0 ≤ z) (h1 : z ≤ 127) (hb : b.length ≤ 1000000) : SoundM Tryz.prog 83 [.own 0 b.length, .d (.int .i32 z)] [(0, .row 5 1 (bys b))] (.own 0 (b.length + 1)) [(0, .row 5 1 (bys (b ++ [z])))] 1 := by
  have e1 : IntKind.u32.wrap z = z := by simp [IntKind.wrap, IntKind.bits, IntKind.signed]; omega
  have e2 : IntKind.u8.wrap z = z := by simp [IntKind.wrap, IntKind.bits, IntKind.signed]; omega
  refine SoundM.run (N := 16) (ks := [0]) Tryz.func83 rfl (by kernel_rfl) rfl rfl rfl (by first | exact argsA_0 | exact argsA_1 | exact argsA_2 | exact argsA_3 | exact argsA_4 | exact argsA_5 | exact argsA_6) fun X_ ν_ w_ => ?_
  refine goX (And.intro @e1 @e2) ?_; first | exact trivial | skip
theorem asc_good {z : Int} (h0 : 0 ≤ z) (h1 : z ≤ 127) : gsign z = true := decide_eq_true ⟨h0, by omega, by omega⟩
set_option maxHeartbeats 4000000 in
set_option maxRecDepth 10000 in
theorem pPutA {w : List Int} (hw : ∀ z ∈ w, 0 ≤ z ∧ z ≤ 127) (hlen : w.length ≤ 1000000) : Sound Tryz.prog 63 [.sl 1 (is w)] (.tup [.sl 1 (bys w), .int .i64 0]) := by
  refine Sound.run (N := 22) Tryz.func63 rfl (by kernel_rfl) rfl rfl rfl (by first | exact args0_0 | exact args0_1 | exact args0_2 | exact args0_3 | exact args0_4 | exact args0_5 | exact args0_6) fun X_ w_ => ?_
  repeat ((fail_if_success (with_reducible show WP _ _ (.region 2 _ _) _ _)); first | with_reducible exact Ev.nil | with_reducible exact gd_n | ((with_reducible apply lk_ok); rfl) | ((with_reducible apply gslot_ok); rfl) | ((with_reducible apply v2d_ok); rfl) | with_reducible apply then_n | with_reducible apply WP_seq | with_reducible apply WP_skip | ((with_reducible apply WP_r (N := 22) rfl rfl); (focus simp only [Nat.reduceAdd] <;> rfl)) | ((with_reducible apply WP_d (N := 22) mixed rfl rfl); (focus simp only [Nat.reduceAdd] <;> rfl)) | ((with_reducible apply Ev_s); (focus first | (apply gd_u; (focus rfl); rfl) | (apply gd_f; (focus rfl); (focus rfl); rfl))) | ((with_reducible apply Ev_sn); (focus first | (apply gd_u; (focus rfl); rfl) | (apply gd_f; (focus rfl); (focus rfl); rfl))) | with_reducible apply gd_t | with_reducible apply Ev_mv | with_reducible apply Ev_as | with_reducible apply Ev_mc | with_reducible apply Ev_ac | ((first | (with_reducible apply Ev_pt) | (with_reducible apply Ev_ptc)); (focus rfl)) | ((first | (with_reducible apply Ev_pf) | (with_reducible apply Ev_pfc)); (focus rfl)) | ((with_reducible apply Ev_d); (focus simp only [Nat.reduceAdd] <;> rfl); (focus simp (disch := omega) only [go_sem] <;> rfl)) | ((first | (with_reducible apply Ev_od) | (with_reducible apply Ev_on)); (focus simp only [Nat.reduceAdd] <;> rfl); (focus simp (disch := omega) only [go_sem] <;> rfl); (focus first | (simp (disch := omega) only [go_sem] <;> rfl) | rfl)) | with_reducible apply endM_n | with_reducible apply endM_r | with_reducible apply then_r | with_reducible apply then_x | with_reducible apply block_n | with_reducible apply block_r | with_reducible apply block_x | with_reducible apply block_y rfl | with_reducible apply scope_n | with_reducible apply scope_r | with_reducible apply scope_x | with_reducible apply end_n | with_reducible apply end_r | with_reducible apply WP_block | with_reducible apply WP_exit | with_reducible apply WP_ret | with_reducible apply WP_label | with_reducible apply WP_scope | ((with_reducible apply WP_t); (focus first | (simp (disch := omega) only [go_sem] <;> rfl) | rfl)) | ((with_reducible apply WP_f); (focus first | (simp (disch := omega) only [go_sem] <;> rfl) | rfl)) | ((with_reducible apply resD_t); (focus rfl)) | ((with_reducible apply resD_2); (focus rfl); (focus rfl)) | (with_reducible rfl) | ((with_reducible show List.map outKeys _ = _); simp only [List.map_cons, List.map_nil, outKeys, keys]; rfl) | ((with_reducible show orderOk _ _ = true); kernel_rfl) | ((with_reducible show _ = _); simp (disch := omega) only [go_sem] <;> rfl) | ((fail_if_success (with_reducible show Ev _ _ _ _ (_ :: _) _ _ _ _ _)); (show Ev _ _ _ _ (_ :: _) _ _ _ _ _)) | fail)
  refine WP_own 4 3000 5 1 rfl (by decide) (Nat.le_of_ble_eq_true rfl) ?_
  refine goT ?_; first | exact trivial | skip
  refine WP_loopk (fun k : Nat => k ≤ w.length) (fun k => [(4, .own 3000 (w.take k).length), (7, .d (.sl 1 (is w))), (8, .d (.int .i64 w.length)), (9, .d (.int .i64 k))]) (fun k => [(3000, .row 5 1 (bys (w.take k)))]) 3001 (fun k => w.length - k) [4, 7, 8, 9] [3000] 0 (Nat.zero_le _) rfl rfl (Nat.zero_le _) (fun _ _ => rfl) (fun _ _ => rfl) fun k hk => ?_
  have hkl : (w.take k).length = k := by simp; omega
  by_cases hk3 : k < w.length
  · have hz := hw (w[k]!) (by rw [getElem!_pos w k hk3]; exact List.getElem_mem hk3)
    have cg := utfGood (z := w[k]!)
    rw [asc_good hz.1 hz.2] at cg
    have hst : w.take (k + 1) = w.take k ++ [w[k]!] := atake_snoc hk3
    have ca := pAppRune (b := w.take k) hz.1 hz.2 (by omega)
    rw [hkl] at ca
    have e1 : IntKind.i32.wrap (w[k]!) = w[k]! := by
      obtain ⟨h0, h1⟩ := hz
      generalize w[k]! = z at h0 h1 ⊢
      simp [IntKind.wrap, IntKind.bits, IntKind.signed]; omega
    have c0_ := cg; have c1_ := ca; refine goX (And.intro @hkl @e1) ?_; first | exact trivial | skip
    refine ⟨k + 1, by omega, ?_, ?_, by omega⟩
    · simp (disch := omega) only [go_sem, keepL, Int.natCast_add, Int.cast_ofNat_Int, hst, hkl, List.length_append, List.length_cons, List.length_nil]
    · simp (disch := omega) only [go_sem, keepL, hst]
  · have hke : k = w.length := by omega
    subst hke
    rw [List.take_length]
    refine goT ?_; first | exact trivial | skip
/-- The bytes of a list. -/
def wbytes (l : List (List Int)) : List Int := l.flatMap fun w => w ++ [10]
theorem wbytes_snoc (l : List (List Int)) (w : List Int) : wbytes (l ++ [w]) = wbytes l ++ w ++ [10] := by simp [wbytes]
theorem wbytes_len (l : List (List Int)) (h : ∀ w ∈ l, w.length ≤ 20) : (wbytes l).length ≤ 21 * l.length := by
  induction l with
  | nil => simp [wbytes]
  | cons x t ih =>
    have h1 := ih fun w hw => h w (by simp [hw])
    have h2 := h x (by simp)
    simp only [wbytes, List.flatMap_cons, List.length_append, List.length_cons, List.length_nil] at h1 ⊢
    omega
set_option maxHeartbeats 4000000 in
set_option maxRecDepth 10000 in
/-- The list of words that are in order, their signs below 128. -/
theorem pWriteA {l : List (List Int)} (h0 : 0 < l.length) (h1 : l.length ≤ 300) (hf : l.all wfit = true) (hs : SrtW l) (ha : ∀ w ∈ l, ∀ z ∈ w, 0 ≤ z ∧ z ≤ 127) : Sound Tryz.prog 37 [.sl 1 (iss l)] (.tup [.sl 1 (bys (wbytes l)), .int .i64 0]) := by
  have hw20 : ∀ w ∈ l, w.length ≤ 20 := fun w hw => by
    have := List.all_eq_true.1 hf w hw
    simp only [wfit, Bool.and_eq_true, decide_eq_true_eq] at this
    exact this.1.1.2
  have hok : WsOk l := ⟨by omega, fun w hw => Nat.le_trans (hw20 w hw) (by decide)⟩
  have c1 := containsW (p := fun w => !wfit w) (g := 56) (fun w hw => pNoFit hw) hok
  rw [any_not, hf] at c1
  have c2 := pWSort1 (fun w hw => Nat.le_trans (hw20 w hw) (by decide)) (by omega) h0 hs
  have c3 := pIsSorted hok hs
  refine Sound.run (N := 46) Tryz.func37 rfl (by kernel_rfl) rfl rfl rfl (by first | exact args0_0 | exact args0_1 | exact args0_2 | exact args0_3 | exact args0_4 | exact args0_5 | exact args0_6) fun X_ w_ => ?_
  have c0_ := c1; have c1_ := c2; have c2_ := c3; repeat ((fail_if_success (with_reducible show WP _ _ (.region 6 _ _) _ _)); first | with_reducible exact Ev.nil | with_reducible exact gd_n | ((with_reducible apply lk_ok); rfl) | ((with_reducible apply gslot_ok); rfl) | ((with_reducible apply v2d_ok); rfl) | with_reducible apply then_n | with_reducible apply WP_seq | with_reducible apply WP_skip | ((with_reducible apply WP_r (N := 46) rfl rfl); (focus simp only [Nat.reduceAdd] <;> rfl)) | ((with_reducible apply WP_d (N := 46) mixed rfl rfl); (focus simp only [Nat.reduceAdd] <;> rfl)) | ((with_reducible apply Ev_s); (focus first | (apply gd_u; (focus rfl); rfl) | (apply gd_f; (focus rfl); (focus rfl); rfl))) | ((with_reducible apply Ev_sn); (focus first | (apply gd_u; (focus rfl); rfl) | (apply gd_f; (focus rfl); (focus rfl); rfl))) | with_reducible apply gd_t | with_reducible apply Ev_mv | with_reducible apply Ev_as | with_reducible apply Ev_mc | with_reducible apply Ev_ac | ((first | (with_reducible apply Ev_pt) | (with_reducible apply Ev_ptc)); (focus rfl)) | ((first | (with_reducible apply Ev_pf) | (with_reducible apply Ev_pfc)); (focus rfl)) | (apply Ev_cf; (focus simp (disch := omega) only [go_sem] <;> rfl); (focus first | exact c0_ | exact c1_ | exact c2_); (focus rfl); (focus first | (simp (disch := omega) only [go_sem] <;> rfl) | rfl)) | ((with_reducible apply Ev_d); (focus simp only [Nat.reduceAdd] <;> rfl); (focus simp (disch := omega) only [go_sem] <;> rfl)) | (apply Ev_cv; (focus rfl); (focus simp (disch := omega) only [go_sem] <;> rfl); (focus first | exact c0_ | exact c1_ | exact c2_); (iterate 3 (focus first | (simp (disch := omega) only [go_sem] <;> rfl) | rfl))) | ((first | apply Ev_cmd | apply Ev_cmn); (focus simp only [Nat.reduceAdd] <;> rfl); (focus rfl); (iterate 2 (focus simp (disch := omega) only [go_sem] <;> rfl)); (first | ((focus first | exact c0_ | exact c1_ | exact c2_); (iterate 2 (focus first | (simp (disch := omega) only [go_sem] <;> rfl) | rfl)); (focus rfl); (iterate 3 (focus first | (simp (disch := omega) only [go_sem] <;> rfl) | rfl))))) | ((first | (with_reducible apply Ev_od) | (with_reducible apply Ev_on)); (focus simp only [Nat.reduceAdd] <;> rfl); (focus simp (disch := omega) only [go_sem] <;> rfl); (focus first | (simp (disch := omega) only [go_sem] <;> rfl) | rfl)) | with_reducible apply endM_n | with_reducible apply endM_r | with_reducible apply then_r | with_reducible apply then_x | with_reducible apply block_n | with_reducible apply block_r | with_reducible apply block_x | with_reducible apply block_y rfl | with_reducible apply scope_n | with_reducible apply scope_r | with_reducible apply scope_x | with_reducible apply end_n | with_reducible apply end_r | with_reducible apply WP_block | with_reducible apply WP_exit | with_reducible apply WP_ret | with_reducible apply WP_label | with_reducible apply WP_scope | ((with_reducible apply WP_t); (focus first | (simp (disch := omega) only [go_sem] <;> rfl) | rfl)) | ((with_reducible apply WP_f); (focus first | (simp (disch := omega) only [go_sem] <;> rfl) | rfl)) | ((with_reducible apply resD_t); (focus rfl)) | ((with_reducible apply resD_2); (focus rfl); (focus rfl)) | (with_reducible rfl) | ((with_reducible show List.map outKeys _ = _); simp only [List.map_cons, List.map_nil, outKeys, keys]; rfl) | ((with_reducible show orderOk _ _ = true); kernel_rfl) | ((with_reducible show _ = _); simp (disch := omega) only [go_sem] <;> rfl) | ((fail_if_success (with_reducible show Ev _ _ _ _ (_ :: _) _ _ _ _ _)); (show Ev _ _ _ _ (_ :: _) _ _ _ _ _)) | fail)
  refine WP_own 2 9000 5 1 rfl (by decide) (Nat.le_of_ble_eq_true rfl) ?_
  refine goT ?_; first | exact trivial | skip
  refine WP_loopk (fun k : Nat => k ≤ l.length) (fun k => [(2, .own 9000 (wbytes (l.take k)).length), (28, .d (.sl 1 (iss l))), (29, .d (.int .i64 l.length)), (30, .d (.int .i64 k))]) (fun k => [(9000, .row 5 1 (bys (wbytes (l.take k))))]) 9001 (fun k => l.length - k) [2, 28, 29, 30] [9000] 0 (Nat.zero_le _) rfl rfl (Nat.zero_le _) (fun _ _ => rfl) (fun _ _ => rfl) fun k hk => ?_
  have hbl := wbytes_len (l.take k) fun w hw => hw20 w (List.mem_of_mem_take hw)
  have hkl : (l.take k).length = k := by simp; omega
  by_cases hk3 : k < l.length
  · have hmem : l[k]! ∈ l := by rw [getElem!_pos l k hk3]; exact List.getElem_mem hk3
    have hk20 := hw20 _ hmem
    have cp := pPutA (w := l[k]!) (ha _ hmem) (by omega)
    have hst : wbytes (l.take (k + 1)) = wbytes (l.take k) ++ (l[k]!) ++ [10] := by rw [atake_snoc hk3, wbytes_snoc]
    have c0_ := cp; refine goT ?_; first | exact trivial | skip
    refine ⟨k + 1, by omega, ?_, ?_, by omega⟩
    · simp (disch := omega) only [go_sem, keepL, Int.natCast_add, Int.cast_ofNat_Int, hst, List.length_append, List.length_cons, List.length_nil]
    · simp (disch := omega) only [go_sem, keepL, hst, List.append_assoc, List.length_append, List.length_cons, List.length_nil]
  · have hke : k = l.length := by omega
    subst hke
    rw [List.take_length]
    refine goT ?_; first | exact trivial | skip
end Go.Eng.Tryz
set_option linter.unusedVariables false
set_option linter.unusedSimpArgs false
namespace Go.Eng.Tryz
open Go Go.Eng Go.Proofs Go.RowKit
attribute [local go_sem] tys
attribute [local go_sem] is_len is_get ses_len ses_get sss_len sss_get ars_len ars_get stas_len stas_get tt_len tt_get dels
set_option maxHeartbeats 4000000 in
set_option maxRecDepth 10000 in
theorem pTGN {c : Co} {q : List Int} {l : List Sta} (hc : c.ok) (hq : q.length ≤ 9223372036854775807) (hl : StaOk l) (h : mayG c q l = false) : Sound Tryz.prog 11 [co c, .sl 1 (is q), .sl 2 (stas l)] .nils := by
  cases hm : may c q
  · have ca := allN hc hq hm
    unfold co at ca ⊢
    refine Sound.run (N := 90) Tryz.func11 rfl (by kernel_rfl) rfl rfl rfl (by first | exact args0_0 | exact args0_1 | exact args0_2 | exact args0_3 | exact args0_4 | exact args0_5 | exact args0_6) fun X_ w_ => ?_
    have c0_ := ca; refine goT ?_; first | exact trivial | skip
  · have hchk : achk l = false := by unfold mayG at h; rw [hm] at h; simpa using h
    have cch := pCheckA hl
    rw [hchk] at cch
    have ca := pAll hc hq
    have eA : stepsAll c q = allF c q (q.length + 1) := if_pos hm
    rw [eA] at ca
    have hlen := allF_len c q (q.length + 1)
    obtain ⟨A0, A1, hA⟩ : ∃ A0 A1, allF c q (q.length + 1) = A0 :: A1 := by
      cases h : allF c q (q.length + 1) with
      | nil => rw [h] at hlen; simp at hlen
      | cons a b => exact ⟨a, b, rfl⟩
    have eN : sss (allF c q (q.length + 1)) = .sl 4 (ses A0) :: sss A1 := by rw [hA]; rfl
    unfold co at ca ⊢
    refine Sound.run (N := 90) Tryz.func11 rfl (by kernel_rfl) rfl rfl rfl (by first | exact args0_0 | exact args0_1 | exact args0_2 | exact args0_3 | exact args0_4 | exact args0_5 | exact args0_6) fun X_ w_ => ?_
    have c0_ := ca; have c1_ := cch; refine goX @eN ?_; first | exact trivial | skip
theorem pTG {c : Co} {q : List Int} {l : List Sta} (hc : c.ok) (hq : q.length ≤ 9223372036854775807) (hl : StaOk l) : Sound Tryz.prog 11 [co c, .sl 1 (is q), .sl 2 (stas l)] (.sl 1 (tt (tableG c q l))) := by
  unfold tableG
  cases h : mayG c q l
  · rw [if_neg (by simp)]; exact (pTGN hc hq hl h).wk (Wks.refl _) (.nil 1)
  · rw [if_pos rfl]
    unfold mayG at h
    rw [Bool.and_eq_true] at h
    exact pTG1 hc h.1 hl h.2
def fewG (c : Co) (q : List Int) (l : List Sta) : Bool := fewA l 60 && fewR c.rules 300 && decide ((q.length : Int) ≤ 100)
theorem fewG_iff {c : Co} {q : List Int} {l : List Sta} : fewG c q l = true ↔ fewA l 60 = true ∧ fewR c.rules 300 = true ∧ q.length ≤ 100 := by
  unfold fewG
  simp only [Bool.and_eq_true, decide_eq_true_eq, and_assoc]
  exact and_congr Iff.rfl (and_congr Iff.rfl (by omega))
set_option maxHeartbeats 4000000 in
set_option maxRecDepth 10000 in
theorem pFewG {c : Co} {q : List Int} {l : List Sta} (hc : c.ok) (hq : q.length ≤ 9223372036854775807) (hl : StaOk l) : Sound Tryz.prog 5 [co c, .sl 1 (is q), .sl 2 (stas l)] (.bool (fewG c q l)) := by
  have cf := rFewR (n := 300) hc.2.2.2.2.1 hc.2.2.2.2.2
  have ca := pFewA (n := 60) hl (by omega)
  have e : fewG c q l = (fewA l 60 && fewR c.rules 300 && decide ((q.length : Int) ≤ 100)) := rfl
  unfold co
  cases ha : fewA l 60
  · rw [ha] at ca e
    simp only [Bool.false_and] at e
    refine Sound.run (N := 21) Tryz.func5 rfl (by kernel_rfl) rfl rfl rfl (by first | exact args0_0 | exact args0_1 | exact args0_2 | exact args0_3 | exact args0_4 | exact args0_5 | exact args0_6) fun X_ w_ => ?_
    have c0_ := ca; refine goX @e ?_; first | exact trivial | skip
  rw [ha] at ca e
  cases hf : fewR c.rules 300
  · rw [hf] at cf e
    simp only [Bool.false_and, Bool.and_false] at e
    refine Sound.run (N := 21) Tryz.func5 rfl (by kernel_rfl) rfl rfl rfl (by first | exact args0_0 | exact args0_1 | exact args0_2 | exact args0_3 | exact args0_4 | exact args0_5 | exact args0_6) fun X_ w_ => ?_
    have c0_ := ca; have c1_ := cf; refine goX @e ?_; first | exact trivial | skip
  rw [hf] at cf e
  by_cases h1 : q.length ≤ 100
  · have e : fewG c q l = true := by rw [e]; simp; omega
    refine Sound.run (N := 21) Tryz.func5 rfl (by kernel_rfl) rfl rfl rfl (by first | exact args0_0 | exact args0_1 | exact args0_2 | exact args0_3 | exact args0_4 | exact args0_5 | exact args0_6) fun X_ w_ => ?_
    have c0_ := ca; have c1_ := cf; refine goX @e ?_; first | exact trivial | skip
  · have e : fewG c q l = false := by rw [e]; simp; omega
    refine Sound.run (N := 21) Tryz.func5 rfl (by kernel_rfl) rfl rfl rfl (by first | exact args0_0 | exact args0_1 | exact args0_2 | exact args0_3 | exact args0_4 | exact args0_5 | exact args0_6) fun X_ w_ => ?_
    have c0_ := ca; have c1_ := cf; refine goX @e ?_; first | exact trivial | skip
def lG0 : List (List Int) := [[97, 98, 99], [98]]
def sG0 : List Sta := [⟨false, [⟨97, 1⟩, ⟨98, 2⟩]⟩, ⟨false, [⟨98, 3⟩]⟩, ⟨true, []⟩, ⟨false, [⟨99, 4⟩]⟩, ⟨true, []⟩]
theorem trie_G0 : trieF lG0 = sG0 := by decide +kernel
theorem tab_G0 : tableG cD1 [97, 98] sG0 = [[1, 2, 2, 2, 2], [0, 1, 1, 1, 1], [1, 2, 0, 1, 0]] := by decide +kernel
theorem tab_G1 : mayG cD1 [] [] = false := by decide +kernel
def cGI : Co := ⟨0, 18446744073709551615, 0, 0, []⟩
theorem ok_GI : cGI.ok := by unfold Co.ok cGI U Ru.ok; decide
theorem tab_G2 : mayG cGI [] sG0 = false := by decide +kernel
theorem ok_sG : StaOk sG0 := by unfold StaOk sG0; decide
theorem trie_G : Sound Tryz.prog 12 [.sl 1 (iss lG0)] (.tup [.sl 2 (stas sG0), .int .i64 0]) := by
  have hW := pWriteA (l := lG0) (by decide) (by decide) (by decide +kernel) (by unfold SrtW lG0; decide +kernel) (by decide)
  have := pTrie (L := lG0) (by decide) (by decide) hW
  rw [trie_G0] at this
  exact this
set_option maxHeartbeats 4000000 in
set_option maxRecDepth 10000 in
theorem togoAwake : Sound Tryz.prog 4 [] (.bool true) := by
  have t0 := trie_G
  have d1 := pTG (c := cD1) (q := [97, 98]) (l := sG0) ok_D1 (by decide) ok_sG
  rw [tab_G0] at d1
  have d2 := pTGN (c := cD1) (q := []) (l := []) ok_D1 (by decide) (by unfold StaOk; decide) tab_G1
  have d3 := pTGN (c := cGI) (q := []) (l := sG0) ok_GI (by decide) ok_sG tab_G2
  have e1 := pLead (l := sG0) (f := 0) (w := [97, 98]) ok_sG (by decide)
  have e2 := pLead (l := sG0) (f := 2) (w := []) ok_sG (by decide)
  have e3 := pLead (l := sG0) (f := 0) (w := [99]) ok_sG (by decide)
  rw [show leadG sG0 0 [97, 98] = some 3 by decide +kernel] at e1
  rw [show leadG sG0 2 [] = some 2 by decide +kernel] at e2
  rw [show leadG sG0 0 [99] = none by decide +kernel] at e3
  have d1 := d1.wk (as' := [.agg [.int .u64 1, .int .u64 1, .int .u64 1, .int .u64 1, .nils], .sl 1 (is [97, 98]), .sl 2 (stas sG0)]) (.cons (.agg (.cons (.refl _) (.cons (.refl _) (.cons (.refl _) (.cons (.refl _) (.cons (.nil 3) .nil)))))) (.cons (.refl _) (.cons (.refl _) .nil))) (.refl _)
  have d2 := d2.wk (as' := [.agg [.int .u64 1, .int .u64 1, .int .u64 1, .int .u64 1, .nils], .nils, .nils]) (.cons (.agg (.cons (.refl _) (.cons (.refl _) (.cons (.refl _) (.cons (.refl _) (.cons (.nil 3) .nil)))))) (.cons (.nil 1) (.cons (.nil 2) .nil))) (.refl _)
  have d3 := d3.wk (as' := [.agg [.int .u64 0, .int .u64 18446744073709551615, .int .u64 0, .int .u64 0, .nils], .nils, .sl 2 (stas sG0)]) (.cons (.agg (.cons (.refl _) (.cons (.refl _) (.cons (.refl _) (.cons (.refl _) (.cons (.nil 3) .nil)))))) (.cons (.nil 1) (.cons (.refl _) .nil))) (.refl _)
  have e2 := e2.wk (as' := [.sl 2 (stas sG0), .int .i64 2, .nils]) (.cons (.refl _) (.cons (.refl _) (.cons (.nil 1) .nil))) (.refl _)
  have hs5 : sG0.length = 5 := rfl
  simp only [lG0, iss, is, tt, us, List.map_cons, List.map_nil] at t0 d1 d2 d3
  simp only [is, List.map_cons, List.map_nil] at e1 e2 e3
  unfold stepR at e1 e2 e3
  refine Sound.run (N := 115) Tryz.func4 rfl (by kernel_rfl) rfl rfl rfl (by first | exact args0_0 | exact args0_1 | exact args0_2 | exact args0_3 | exact args0_4 | exact args0_5 | exact args0_6) fun X_ w_ => ?_
  have c0_ := t0; have c1_ := d1; have c2_ := d2; have c3_ := d3; have c4_ := e1; have c5_ := e2; have c6_ := e3; repeat ((fail_if_success (with_reducible show WP _ _ (.region 4 _ _) _ _)); first | with_reducible exact Ev.nil | with_reducible exact gd_n | ((with_reducible apply lk_ok); rfl) | ((with_reducible apply gslot_ok); rfl) | ((with_reducible apply v2d_ok); rfl) | with_reducible apply then_n | with_reducible apply WP_seq | with_reducible apply WP_skip | ((with_reducible apply WP_r (N := 115) rfl rfl); (focus simp only [Nat.reduceAdd] <;> rfl)) | ((with_reducible apply WP_d (N := 115) mixed rfl rfl); (focus simp only [Nat.reduceAdd] <;> rfl)) | ((with_reducible apply Ev_s); (focus first | (apply gd_u; (focus rfl); rfl) | (apply gd_f; (focus rfl); (focus rfl); rfl))) | ((with_reducible apply Ev_sn); (focus first | (apply gd_u; (focus rfl); rfl) | (apply gd_f; (focus rfl); (focus rfl); rfl))) | with_reducible apply gd_t | with_reducible apply Ev_mv | with_reducible apply Ev_as | with_reducible apply Ev_mc | with_reducible apply Ev_ac | ((first | (with_reducible apply Ev_pt) | (with_reducible apply Ev_ptc)); (focus rfl)) | ((first | (with_reducible apply Ev_pf) | (with_reducible apply Ev_pfc)); (focus rfl)) | (apply Ev_cf; (focus simp (disch := omega) only [go_sem, hs5] <;> rfl); (focus first | exact c0_ | exact c1_ | exact c2_ | exact c3_ | exact c4_ | exact c5_ | exact c6_); (focus rfl); (focus first | (simp (disch := omega) only [go_sem, hs5] <;> rfl) | rfl)) | ((with_reducible apply Ev_d); (focus simp only [Nat.reduceAdd] <;> rfl); (focus simp (disch := omega) only [go_sem, hs5] <;> rfl)) | (apply Ev_cv; (focus rfl); (focus simp (disch := omega) only [go_sem, hs5] <;> rfl); (focus first | exact c0_ | exact c1_ | exact c2_ | exact c3_ | exact c4_ | exact c5_ | exact c6_); (iterate 3 (focus first | (simp (disch := omega) only [go_sem, hs5] <;> rfl) | rfl))) | ((first | apply Ev_cmd | apply Ev_cmn); (focus simp only [Nat.reduceAdd] <;> rfl); (focus rfl); (iterate 2 (focus simp (disch := omega) only [go_sem, hs5] <;> rfl)); (first | ((focus first | exact c0_ | exact c1_ | exact c2_ | exact c3_ | exact c4_ | exact c5_ | exact c6_); (iterate 2 (focus first | (simp (disch := omega) only [go_sem, hs5] <;> rfl) | rfl)); (focus rfl); (iterate 3 (focus first | (simp (disch := omega) only [go_sem, hs5] <;> rfl) | rfl))))) | ((first | (with_reducible apply Ev_od) | (with_reducible apply Ev_on)); (focus simp only [Nat.reduceAdd] <;> rfl); (focus simp (disch := omega) only [go_sem, hs5] <;> rfl); (focus first | (simp (disch := omega) only [go_sem, hs5] <;> rfl) | rfl)) | with_reducible apply endM_n | with_reducible apply endM_r | with_reducible apply then_r | with_reducible apply then_x | with_reducible apply block_n | with_reducible apply block_r | with_reducible apply block_x | with_reducible apply block_y rfl | with_reducible apply scope_n | with_reducible apply scope_r | with_reducible apply scope_x | with_reducible apply end_n | with_reducible apply end_r | with_reducible apply WP_block | with_reducible apply WP_exit | with_reducible apply WP_ret | with_reducible apply WP_label | with_reducible apply WP_scope | ((with_reducible apply WP_t); (focus first | (simp (disch := omega) only [go_sem, hs5] <;> rfl) | rfl)) | ((with_reducible apply WP_f); (focus first | (simp (disch := omega) only [go_sem, hs5] <;> rfl) | rfl)) | ((with_reducible apply resD_t); (focus rfl)) | ((with_reducible apply resD_2); (focus rfl); (focus rfl)) | (with_reducible rfl) | ((with_reducible show List.map outKeys _ = _); simp only [List.map_cons, List.map_nil, outKeys, keys]; rfl) | ((with_reducible show orderOk _ _ = true); kernel_rfl) | ((with_reducible show _ = _); simp (disch := omega) only [go_sem, hs5] <;> rfl) | ((fail_if_success (with_reducible show Ev _ _ _ _ (_ :: _) _ _ _ _ _)); (show Ev _ _ _ _ (_ :: _) _ _ _ _ _)) | fail)
  refine WP_fix 1001 rfl rfl rfl rfl (by simp (disch := omega) only [go_sem]; rfl) ?_
  have c0_ := t0; have c1_ := d1; have c2_ := d2; have c3_ := d3; have c4_ := e1; have c5_ := e2; have c6_ := e3; refine goX @hs5 ?_; first | exact trivial | skip
end Go.Eng.Tryz

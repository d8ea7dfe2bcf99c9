/- The library's sort, laid at this program. (and what stands behind it: texts laid together) -/
import Derived.Shelf.SlSortCmp.WholeK
import Derived.Shelf.SlGeneric
import Derived.Ground.SlsfProg
import Derived.Test.YtabfoaoeghikoaaGreatDoorProg
import Derived.Test.YtabfoaoeghikoaaGreatDoorMG4
import Derived.Test.YtabfoaoeghikoaaGreatDoorMR7
import Derived.Test.YtabfoaoeghikoaaGreatDoorMH1
import Derived.Shelf.LaysM
set_option maxHeartbeats 32000000
set_option maxRecDepth 100000
namespace Go.Proofs
open Go.Shelf Go.RowKit Go.Lib Go.Sort
def Tryz.sortWord_ren : Go.Shelf.Ren := ⟨fun | 6 => 132 | 15 => 108 | 14 => 171 | 28 => 154 | 29 => 155 | 20 => 194 | 21 => 195 | 22 => 196 | 23 => 197 | 24 => 198 | 25 => 199 | 26 => 200 | 27 => 201 | 46 => 210 | 47 => 176 | 48 => 177 | 49 => 211 | 50 => 212 | 57 => 218 | n => n, fun | 22 => 22 | 24 => 36 | 25 => 83 | 3 => 3 | 39 => 140 | 0 => 0 | 53 => 168 | 55 => 42 | 4 => 4 | 46 => 179 | 45 => 178 | 50 => 37 | 5 => 5 | 9 => 9 | 66 => 199 | 70 => 202 | 76 => 217 | 77 => 218 | n => n, fun | n => n⟩
theorem Tryz.sortWord : Go.Proofs.SlLaysF.n6 Tryz.prog Tryz.sortWord_ren := {
  mixed := by kernel_rfl
  f6 := ⟨Tryz.f132.name, by decide, Tryz.func132.trans (congrArg some (by kernel_rfl))⟩
  f14 := ⟨Tryz.f171.name, by decide, Tryz.func171.trans (congrArg some (by kernel_rfl))⟩
  f15 := Tryz.func108.trans (congrArg some (by kernel_rfl))
  f20 := ⟨Tryz.f194.name, by decide, Tryz.func194.trans (congrArg some (by kernel_rfl))⟩
  f21 := ⟨Tryz.f195.name, by decide, Tryz.func195.trans (congrArg some (by kernel_rfl))⟩
  f22 := ⟨Tryz.f196.name, by decide, Tryz.func196.trans (congrArg some (by kernel_rfl))⟩
  f23 := ⟨Tryz.f197.name, by decide, Tryz.func197.trans (congrArg some (by kernel_rfl))⟩
  f24 := ⟨Tryz.f198.name, by decide, Tryz.func198.trans (congrArg some (by kernel_rfl))⟩
  f25 := ⟨Tryz.f199.name, by decide, Tryz.func199.trans (congrArg some (by kernel_rfl))⟩
  f26 := ⟨Tryz.f200.name, by decide, Tryz.func200.trans (congrArg some (by kernel_rfl))⟩
  f27 := ⟨Tryz.f201.name, by decide, Tryz.func201.trans (congrArg some (by kernel_rfl))⟩
  f28 := Tryz.func154.trans (congrArg some (by kernel_rfl))
  f29 := Tryz.func155.trans (congrArg some (by kernel_rfl))
  f46 := ⟨Tryz.f210.name, by decide, Tryz.func210.trans (congrArg some (by kernel_rfl))⟩
  f47 := Tryz.func176.trans (congrArg some (by kernel_rfl))
  f48 := Tryz.func177.trans (congrArg some (by kernel_rfl))
  f49 := ⟨Tryz.f211.name, by decide, Tryz.func211.trans (congrArg some (by kernel_rfl))⟩
  f50 := ⟨Tryz.f212.name, by decide, Tryz.func212.trans (congrArg some (by kernel_rfl))⟩
  f57 := ⟨Tryz.f218.name, by decide, Tryz.func218.trans (congrArg some (by kernel_rfl))⟩
  t0 := Tryz.underlying0
  a0 := Tryz.isAgg0
  z0 := Tryz.sizeOf0
  v0 := Tryz.zeroValue0
  t3 := Tryz.underlying3
  a3 := Tryz.isAgg3
  z3 := Tryz.sizeOf3
  v3 := Tryz.zeroValue3
  t4 := Tryz.underlying4
  a4 := Tryz.isAgg4
  z4 := Tryz.sizeOf4
  v4 := Tryz.zeroValue4
  t5 := Tryz.underlying5
  a5 := Tryz.isAgg5
  z5 := Tryz.sizeOf5
  v5 := Tryz.zeroValue5
  t9 := Tryz.underlying9
  a9 := Tryz.isAgg9
  z9 := Tryz.sizeOf9
  v9 := Tryz.zeroValue9
  t22 := Tryz.underlying22
  a22 := Tryz.isAgg22
  z22 := Tryz.sizeOf22
  v22 := Tryz.zeroValue22
  a24 := Tryz.isAgg36
  z24 := Tryz.sizeOf36
  t25 := Tryz.underlying83
  a25 := Tryz.isAgg83
  z25 := Tryz.sizeOf83
  v25 := Tryz.zeroValue83
  t39 := Tryz.underlying140
  a39 := Tryz.isAgg140
  z39 := Tryz.sizeOf140
  v39 := Tryz.zeroValue140
  t45 := Tryz.underlying178
  a45 := Tryz.isAgg178
  z45 := Tryz.sizeOf178
  v45 := Tryz.zeroValue178
  t46 := Tryz.underlying179
  a46 := Tryz.isAgg179
  z46 := Tryz.sizeOf179
  v46 := Tryz.zeroValue179
  t50 := Tryz.underlying37
  a50 := Tryz.isAgg37
  z50 := Tryz.sizeOf37
  v50 := Tryz.zeroValue37
  t53 := Tryz.underlying168
  a53 := Tryz.isAgg168
  z53 := Tryz.sizeOf168
  v53 := Tryz.zeroValue168
  t55 := Tryz.underlying42
  a55 := Tryz.isAgg42
  z55 := Tryz.sizeOf42
  v55 := Tryz.zeroValue42
  t66 := Tryz.underlying199
  a66 := Tryz.isAgg199
  z66 := Tryz.sizeOf199
  v66 := Tryz.zeroValue199
  t70 := Tryz.underlying202
  a70 := Tryz.isAgg202
  z70 := Tryz.sizeOf202
  v70 := Tryz.zeroValue202
  t76 := Tryz.underlying217
  a76 := Tryz.isAgg217
  z76 := Tryz.sizeOf217
  v76 := Tryz.zeroValue217
  t77 := Tryz.underlying218
  a77 := Tryz.isAgg218
  z77 := Tryz.sizeOf218
  v77 := Tryz.zeroValue218 }
end Go.Proofs
set_option linter.unusedVariables false
set_option linter.unusedSimpArgs false
namespace Go.Eng.Tryz
open Go Go.Eng Go.Proofs Go.RowKit
attribute [local go_sem] is_len is_get iss_len iss_get iss_snoc
def unI (x : D) : Int := match x with | .int _ z => z | _ => 0
def unisX (d : D) : List Int := match d with | .sl _ xs => xs.map unI | _ => []
theorem unisX_is (w : List Int) : unisX (.sl 1 (is w)) = w := by simp [unisX, is, unI, List.map_map, Function.comp_def]
theorem wcmp_lt_irr (a : List Int) : ¬ wcmp a a < 0 := by have := (wcmp_eq a a).2 rfl; omega
theorem pSortW {xs ys : List (List Int)} (hok : ∀ w ∈ xs, w.length ≤ 9223372036854775807) (h0 : 0 < xs.length) (hmax : xs.length < 4611686018427387904) (hp : ys.Perm xs) (hs : ys.Pairwise (fun a b => ¬ wcmp b a < 0)) :
    SoundM Tryz.prog 132 [.own 0 xs.length, .d (.fn 133)] [(0, .row 36 1 (iss xs))] (.tup []) [(0, .row 36 1 (iss ys))] 1 := by
  have eg : ∀ args w, (callFunc 133 args).run Tryz.prog w = .ok (.enter 133 args) w := enters_of Tryz.func133 (by kernel_rfl) rfl
  have hlen : (iss xs).length = xs.length := iss_len
  have gd : ∀ x, (∃ w : List Int, w.length ≤ 9223372036854775807 ∧ x = D.sl 1 (is w)) → D.sl 1 (is (unisX x)) = x ∧ (unisX x).length ≤ 9223372036854775807 := fun x ⟨r, h1, h2⟩ => by rw [h2, unisX_is]; exact ⟨rfl, h1⟩
  have := sort_sound1 (P := Tryz.prog) Tryz.sortWord eg (Good := fun x => ∃ w : List Int, w.length ≤ 9223372036854775807 ∧ x = D.sl 1 (is w)) (cf := fun x y => wcmp (unisX x) (unisX y))
    (fun x y hx hy => by
      have := pCmp1 (gd x hx).2 (gd y hy).2
      rwa [(gd x hx).1, (gd y hy).1] at this)
    (fun x hx => wcmp_lt_irr _) (fun x y z _ _ _ h1 h2 => wcmp_lt_trans h1 (by omega)) (fun x y z _ _ _ h1 h2 => by
      have a1 := wcmp_swap (unisX x) (unisX y)
      have a2 := wcmp_swap (unisX y) (unisX z)
      have a3 := wcmp_swap (unisX x) (unisX z)
      have := wcmp_le_trans (unisX z) (unisX y) (unisX x) (by omega) (by omega)
      omega)
    (fun x y hx hy h1 h2 => by
      have a1 := wcmp_swap (unisX x) (unisX y)
      have e := (wcmp_eq (unisX x) (unisX y)).1 (by omega)
      rw [← (gd x hx).1, ← (gd y hy).1, e])
    (fun x ⟨r, _, h⟩ => by rw [h]; rfl) (e := 36) (xs := iss xs) (ys := iss ys) (fun x hx => by
      obtain ⟨w, hw, rfl⟩ := List.mem_map.1 hx
      exact ⟨w, hok w hw, rfl⟩) (by rw [hlen]; exact h0) (by rw [hlen]; exact hmax) (hp.map _) (by
      unfold iss
      rw [List.pairwise_map]
      exact hs.imp (fun {a b} h => by rw [unisX_is, unisX_is]; exact h))
  rw [hlen] at this
  exact this
theorem SrtW.stay {l : List (List Int)} (h : SrtW l) : l.Pairwise (fun a b => ¬ wcmp b a < 0) := h.imp fun {a b} h => by have := wcmp_swap a b; omega
theorem iss_take_succ {l : List (List Int)} {k : Nat} (h : k < l.length) : l.take (k + 1) = l.take k ++ [l[k]!] := atake_snoc h
theorem pWSort1 {l : List (List Int)} (hl : ∀ w ∈ l, w.length ≤ 1000000) (hlen : l.length ≤ 1000000) (h0 : 0 < l.length) (hs : SrtW l) : Sound Tryz.prog 95 [.sl 1 (iss l)] (.sl 1 (iss l)) := by
  have hok : ∀ w ∈ l, w.length ≤ 9223372036854775807 := fun w hw => Nat.le_trans (hl w hw) (by decide)
  have c1 := pSortW (xs := l) (ys := l) hok h0 (by omega) (List.Perm.refl _) hs.stay
  have c2 := pCompact ⟨by omega, hok⟩ hs h0
  refine Sound.run (N := 25) Tryz.func95 rfl (by kernel_rfl) rfl rfl rfl (by exact args0_1) fun X_ w_ => ?_
  refine goT ?_; try exact trivial
  refine WP_loopk (fun k : Nat => k ≤ l.length) (fun k => [(3, .own 1002 (l.take k).length), (9, .d (.sl 1 (iss l))), (10, .d (.int .i64 l.length)), (11, .d (.int .i64 k))]) (fun k => [(1002, .row 36 1 (iss (l.take k)))]) 1003 (fun k => l.length - k) [3, 9, 10, 11] [1002] 0 (Nat.zero_le _) rfl rfl (Nat.zero_le _) (fun _ _ => rfl) (fun _ _ => rfl) fun k hk => ?_
  have hkl : (l.take k).length = k := by simp; omega
  by_cases hk3 : k < l.length
  · have hst := iss_take_succ hk3
    have cl := pClone (l := l[k]!) (by rw [getElem!_pos l k hk3]; exact hl _ (List.getElem_mem hk3))
    have c0_ := cl; refine goX @hkl ?_; try exact trivial
    refine ⟨k + 1, by omega, ?_, ?_, by omega⟩
    · simp (disch := omega) only [go_sem, keepL, Int.natCast_add, Int.cast_ofNat_Int, hst, hkl, List.length_append, List.length_cons, List.length_nil]
    · simp (disch := omega) only [go_sem, keepL, hst]
  · have hke : k = l.length := by omega
    subst hke
    rw [List.take_length]
    have c0_ := c1; have c1_ := c2; refine goT ?_; try exact trivial
def bys (l : List Int) : List D := l.map fun z => .int .u8 z
theorem bys_len {l : List Int} : (bys l).length = l.length := by simp [bys]
theorem bys_snoc {l : List Int} {z : Int} : bys l ++ [.int .u8 z] = bys (l ++ [z]) := by simp [bys]
theorem bys_app {a b : List Int} : bys a ++ bys b = bys (a ++ b) := by simp [bys]
attribute [local go_sem] bys_len bys_snoc bys_app
theorem pAppRune {b : List Int} {z : Int} (h0 : 0 ≤ z) (h1 : z ≤ 127) (hb : b.length ≤ 1000000) : SoundM Tryz.prog 136 [.own 0 b.length, .d (.int .i32 z)] [(0, .row 5 1 (bys b))] (.own 0 (b.length + 1)) [(0, .row 5 1 (bys (b ++ [z])))] 1 := by
  have e1 : IntKind.u32.wrap z = z := by simp [IntKind.wrap, IntKind.bits, IntKind.signed]; omega
  have e2 : IntKind.u8.wrap z = z := by simp [IntKind.wrap, IntKind.bits, IntKind.signed]; omega
  refine SoundM.run (N := 16) (ks := [0]) Tryz.func136 rfl (by kernel_rfl) rfl rfl rfl (by exact argsA_2) fun X_ ν_ w_ => ?_
  refine goX (And.intro @e1 @e2) ?_; try exact trivial
end Go.Eng.Tryz
set_option linter.unusedVariables false
set_option linter.unusedSimpArgs false
namespace Go.Eng.Tryz
open Go Go.Eng Go.Proofs Go.RowKit
attribute [local go_sem] is_len is_get iss_len iss_get iss_snoc bys_len bys_snoc bys_app
def orB (a b : Int) : Int := IntKind.u8.wrap ((BitVec.ofInt 8 a ||| BitVec.ofInt 8 b).toNat)
def andB (a b : Int) : Int := IntKind.u8.wrap ((BitVec.ofInt 8 a &&& BitVec.ofInt 8 b).toNat)
def w8 (a : Int) : Int := IntKind.u8.wrap a
theorem or_u8 (a b : Int) : intBin .or .u8 a .u8 b = some (.int .u8 (orB a b)) := rfl
theorem and_u8 (a b : Int) : intBin .and .u8 a .u8 b = some (.int .u8 (andB a b)) := rfl
theorem wrap_w8 (a : Int) : IntKind.u8.wrap a = w8 a := rfl
theorem shr6 (a : Int) : intBin .shr .i32 a .u64 6 = some (.int .i32 (a.fdiv 64)) := rfl
theorem shr12 (a : Int) : intBin .shr .i32 a .u64 12 = some (.int .i32 (a.fdiv 4096)) := rfl
theorem shr18 (a : Int) : intBin .shr .i32 a .u64 18 = some (.int .i32 (a.fdiv 262144)) := rfl
def u8enc (z : Int) : List Int :=
  if z ≤ 127 then [z]
  else if z ≤ 2047 then [orB 192 (w8 (z.fdiv 64)), orB 128 (andB (w8 z) 63)]
  else if z ≤ 65535 then [orB 224 (w8 (z.fdiv 4096)), orB 128 (andB (w8 (z.fdiv 64)) 63), orB 128 (andB (w8 z) 63)]
  else [orB 240 (w8 (z.fdiv 262144)), orB 128 (andB (w8 (z.fdiv 4096)) 63), orB 128 (andB (w8 (z.fdiv 64)) 63), orB 128 (andB (w8 z) 63)]
theorem u8enc_len (z : Int) : 1 ≤ (u8enc z).length ∧ (u8enc z).length ≤ 4 := by
  unfold u8enc
  by_cases h1 : z ≤ 127
  · rw [if_pos h1]; simp
  by_cases h2 : z ≤ 2047
  · rw [if_neg h1, if_pos h2]; simp
  by_cases h3 : z ≤ 65535
  · rw [if_neg h1, if_neg h2, if_pos h3]; simp
  · rw [if_neg h1, if_neg h2, if_neg h3]; simp
theorem bys_2 {b : List Int} {x y : Int} : bys b ++ [.int .u8 x, .int .u8 y] = bys (b ++ [x, y]) := by simp [bys]
theorem bys_3 {b : List Int} {x y z : Int} : bys b ++ [.int .u8 x, .int .u8 y, .int .u8 z] = bys (b ++ [x, y, z]) := by simp [bys]
theorem bys_4 {b : List Int} {x y z t : Int} : bys b ++ [.int .u8 x, .int .u8 y, .int .u8 z, .int .u8 t] = bys (b ++ [x, y, z, t]) := by simp [bys]
attribute [local go_sem] bys_2 bys_3 bys_4
attribute [local go_sem ↓] or_u8 and_u8 shr6 shr12 shr18
attribute [local go_sem] wrap_w8
theorem u32_id {z : Int} (h0 : 0 ≤ z) (h1 : z ≤ 1114111) : IntKind.u32.wrap z = z := by simp [IntKind.wrap, IntKind.bits, IntKind.signed]; omega
theorem pAppNon {b : List Int} {z : Int} (h0 : 128 ≤ z) (h1 : z ≤ 1114111) (h2 : z < 55296 ∨ 57343 < z) (hb : b.length ≤ 1000000) : SoundM Tryz.prog 172 [.own 0 b.length, .d (.int .i32 z)] [(0, .row 5 1 (bys b))] (.own 0 (b.length + (u8enc z).length)) [(0, .row 5 1 (bys (b ++ u8enc z)))] 1 := by
  have e1 := u32_id (z := z) (by omega) (by omega)
  have c0 : ¬ z ≤ 127 := by omega
  by_cases c1 : z ≤ 2047
  · have eu : u8enc z = [orB 192 (w8 (z.fdiv 64)), orB 128 (andB (w8 z) 63)] := by unfold u8enc; rw [if_neg c0, if_pos c1]
    rw [eu]
    refine SoundM.run (N := 78) (ks := [0]) Tryz.func172 rfl (by kernel_rfl) rfl rfl rfl (by exact argsA_2) fun X_ ν_ w_ => ?_
    refine goX @e1 ?_; try exact trivial
  by_cases c2 : z ≤ 65535
  · have eu : u8enc z = [orB 224 (w8 (z.fdiv 4096)), orB 128 (andB (w8 (z.fdiv 64)) 63), orB 128 (andB (w8 z) 63)] := by unfold u8enc; rw [if_neg c0, if_neg c1, if_pos c2]
    rw [eu]
    by_cases c3 : z < 55296
    · refine SoundM.run (N := 78) (ks := [0]) Tryz.func172 rfl (by kernel_rfl) rfl rfl rfl (by exact argsA_2) fun X_ ν_ w_ => ?_
      refine goX @e1 ?_; try exact trivial
    · have c4 : 57343 < z := by omega
      refine SoundM.run (N := 78) (ks := [0]) Tryz.func172 rfl (by kernel_rfl) rfl rfl rfl (by exact argsA_2) fun X_ ν_ w_ => ?_
      refine goX @e1 ?_; try exact trivial
  · have eu : u8enc z = [orB 240 (w8 (z.fdiv 262144)), orB 128 (andB (w8 (z.fdiv 4096)) 63), orB 128 (andB (w8 (z.fdiv 64)) 63), orB 128 (andB (w8 z) 63)] := by unfold u8enc; rw [if_neg c0, if_neg c1, if_neg c2]
    rw [eu]
    have c3 : ¬ z < 55296 := by omega
    have c4 : 57343 < z := by omega
    refine SoundM.run (N := 78) (ks := [0]) Tryz.func172 rfl (by kernel_rfl) rfl rfl rfl (by exact argsA_2) fun X_ ν_ w_ => ?_
    refine goX @e1 ?_; try exact trivial
theorem pAppR {b : List Int} {z : Int} (hg : gsign z = true) (hb : b.length ≤ 1000000) : SoundM Tryz.prog 136 [.own 0 b.length, .d (.int .i32 z)] [(0, .row 5 1 (bys b))] (.own 0 (b.length + (u8enc z).length)) [(0, .row 5 1 (bys (b ++ u8enc z)))] 1 := by
  have hg2 := of_decide_eq_true hg
  obtain ⟨g0, g1, g2⟩ := hg2
  have e1 := u32_id (z := z) g0 g1
  by_cases h1 : z ≤ 127
  · have c := pAppRune (b := b) g0 h1 hb
    have eu : u8enc z = [z] := by unfold u8enc; rw [if_pos h1]
    rw [eu]
    exact c
  · have c := pAppNon (b := b) (z := z) (by omega) g1 g2 hb
    refine SoundM.run (N := 16) (ks := [0]) Tryz.func136 rfl (by kernel_rfl) rfl rfl rfl (by exact argsA_2) fun X_ ν_ w_ => ?_
    have c0_ := c; refine goX @e1 ?_; try exact trivial
def wenc (w : List Int) : List Int := w.flatMap u8enc
theorem wenc_snoc (w : List Int) (z : Int) : wenc (w ++ [z]) = wenc w ++ u8enc z := by simp [wenc]
theorem wenc_len (w : List Int) : (wenc w).length ≤ 4 * w.length := by
  induction w with
  | nil => simp [wenc]
  | cons x t ih =>
    have := u8enc_len x
    simp only [wenc, List.flatMap_cons, List.length_append, List.length_cons] at ih ⊢
    omega
theorem pPutW {w : List Int} (hw : w.all gsign = true) (hlen : w.length ≤ 200000) : Sound Tryz.prog 98 [.sl 1 (is w)] (.tup [.sl 1 (bys (wenc w)), .int .i64 0]) := by
  refine Sound.run (N := 22) Tryz.func98 rfl (by kernel_rfl) rfl rfl rfl (by exact args0_1) fun X_ w_ => ?_
  repeat ((fail_if_success (with_reducible show WP _ _ (.region 2 _ _) _ _)); first | with_reducible exact Ev.nil | with_reducible exact gd_n | ((with_reducible apply lk_ok); rfl) | ((with_reducible apply gslot_ok); rfl) | ((with_reducible apply v2d_ok); rfl) | with_reducible apply then_n | with_reducible apply WP_seq | with_reducible apply WP_skip | ((with_reducible apply WP_r (N := 22) rfl rfl); (focus simp only [Nat.reduceAdd] <;> rfl)) | ((with_reducible apply WP_d (N := 22) mixed rfl rfl); (focus simp only [Nat.reduceAdd] <;> rfl)) | ((with_reducible apply Ev_s); (focus first | (apply gd_u; (focus rfl); rfl) | (apply gd_f; (focus rfl); (focus rfl); rfl))) | ((with_reducible apply Ev_sn); (focus first | (apply gd_u; (focus rfl); rfl) | (apply gd_f; (focus rfl); (focus rfl); rfl))) | with_reducible apply gd_t | with_reducible apply Ev_mv | with_reducible apply Ev_as | with_reducible apply Ev_mc | with_reducible apply Ev_ac | ((first | (with_reducible apply Ev_pt) | (with_reducible apply Ev_ptc)); (focus rfl)) | ((first | (with_reducible apply Ev_pf) | (with_reducible apply Ev_pfc)); (focus rfl)) | ((with_reducible apply Ev_d); (focus simp only [Nat.reduceAdd] <;> rfl); (focus simp (disch := omega) only [go_sem] <;> rfl)) | ((first | (with_reducible apply Ev_od) | (with_reducible apply Ev_on)); (focus simp only [Nat.reduceAdd] <;> rfl); (focus simp (disch := omega) only [go_sem] <;> rfl); (focus first | (simp (disch := omega) only [go_sem] <;> rfl) | rfl)) | with_reducible apply endM_n | with_reducible apply endM_r | with_reducible apply then_r | with_reducible apply then_x | with_reducible apply block_n | with_reducible apply block_r | with_reducible apply block_x | with_reducible apply block_y rfl | with_reducible apply scope_n | with_reducible apply scope_r | with_reducible apply scope_x | with_reducible apply end_n | with_reducible apply end_r | with_reducible apply WP_block | with_reducible apply WP_exit | with_reducible apply WP_ret | with_reducible apply WP_label | with_reducible apply WP_scope | ((with_reducible apply WP_t); (focus first | (simp (disch := omega) only [go_sem] <;> rfl) | rfl)) | ((with_reducible apply WP_f); (focus first | (simp (disch := omega) only [go_sem] <;> rfl) | rfl)) | ((with_reducible apply resD_t); (focus rfl)) | ((with_reducible apply resD_2); (focus rfl); (focus rfl)) | (with_reducible rfl) | ((with_reducible show List.map outKeys _ = _); simp only [List.map_cons, List.map_nil, outKeys, keys]; rfl) | ((with_reducible show orderOk _ _ = true); kernel_rfl) | ((with_reducible show _ = _); simp (disch := omega) only [go_sem] <;> rfl) | ((fail_if_success (with_reducible show Ev _ _ _ _ (_ :: _) _ _ _ _ _)); (show Ev _ _ _ _ (_ :: _) _ _ _ _ _)) | fail)
  refine WP_own 4 3000 5 1 rfl (by decide) (Nat.le_of_ble_eq_true rfl) ?_
  refine goT ?_; try exact trivial
  refine WP_loopk (fun k : Nat => k ≤ w.length) (fun k => [(4, .own 3000 (wenc (w.take k)).length), (7, .d (.sl 1 (is w))), (8, .d (.int .i64 w.length)), (9, .d (.int .i64 k))]) (fun k => [(3000, .row 5 1 (bys (wenc (w.take k))))]) 3001 (fun k => w.length - k) [4, 7, 8, 9] [3000] 0 (Nat.zero_le _) rfl rfl (Nat.zero_le _) (fun _ _ => rfl) (fun _ _ => rfl) fun k hk => ?_
  have hkl : (w.take k).length = k := by simp; omega
  have hbl := wenc_len (w.take k)
  by_cases hk3 : k < w.length
  · have hz := List.all_eq_true.1 hw (w[k]!) (by rw [getElem!_pos w k hk3]; exact List.getElem_mem hk3)
    have cg := utfGood (z := w[k]!)
    rw [hz] at cg
    have hst : wenc (w.take (k + 1)) = wenc (w.take k) ++ u8enc (w[k]!) := by rw [← wenc_snoc, atake_snoc hk3]
    have ca := pAppR (b := wenc (w.take k)) hz (by omega)
    have e1 : IntKind.i32.wrap (w[k]!) = w[k]! := by
      obtain ⟨h0, h1, _⟩ := of_decide_eq_true hz
      generalize w[k]! = z at h0 h1 ⊢
      simp [IntKind.wrap, IntKind.bits, IntKind.signed]; omega
    have c0_ := cg; have c1_ := ca; refine goX @e1 ?_; try exact trivial
    refine ⟨k + 1, by omega, ?_, ?_, by omega⟩
    · simp (disch := omega) only [go_sem, keepL, Int.natCast_add, Int.cast_ofNat_Int, hst, List.length_append]
    · simp (disch := omega) only [go_sem, keepL, hst]
  · have hke : k = w.length := by omega
    subst hke
    rw [List.take_length]
    refine goT ?_; try exact trivial
def lenc (l : List (List Int)) : List Int := l.flatMap fun w => wenc w ++ [10]
theorem lenc_snoc (l : List (List Int)) (w : List Int) : lenc (l ++ [w]) = lenc l ++ wenc w ++ [10] := by simp [lenc]
theorem lenc_len (l : List (List Int)) (h : ∀ w ∈ l, w.length ≤ 20) : (lenc l).length ≤ 81 * l.length := by
  induction l with
  | nil => simp [lenc]
  | cons x t ih =>
    have h1 := ih fun w hw => h w (by simp [hw])
    have h2 := h x (by simp)
    have h3 := wenc_len x
    simp only [lenc, List.flatMap_cons, List.length_append, List.length_cons, List.length_nil] at h1 ⊢
    omega
end Go.Eng.Tryz
namespace Go.Proofs
open Go.Shelf
def Tryz.strcU_ren : Go.Shelf.Ren := ⟨fun | 288 => 181 | 283 => 203 | 284 => 204 | 285 => 205 | 286 => 206 | 129 => 155 | 317 => 213 | 318 => 214 | 319 => 215 | 320 => 216 | 337 => 219 | 338 => 220 | n => n, fun | 37 => 59 | 53 => 42 | 3 => 3 | 4 => 4 | 9 => 9 | 171 => 221 | 0 => 0 | 173 => 223 | 212 => 230 | 51 => 168 | 5 => 5 | 20 => 20 | 213 => 231 | 46 => 140 | 232 => 234 | 233 => 235 | n => n, fun | 17 => 0 | 18 => 1 | 19 => 2 | n => n⟩
theorem Tryz.strcU : Go.Proofs.LaysM.n288 Tryz.prog Tryz.strcU_ren := {
  mixed := by kernel_rfl
  f129 := Tryz.func155.trans (congrArg some (by kernel_rfl))
  f283 := Tryz.func203.trans (congrArg some (by kernel_rfl))
  f284 := Tryz.func204.trans (congrArg some (by kernel_rfl))
  f285 := Tryz.func205.trans (congrArg some (by kernel_rfl))
  f286 := Tryz.func206.trans (congrArg some (by kernel_rfl))
  f288 := Tryz.func181.trans (congrArg some (by kernel_rfl))
  f317 := Tryz.func213.trans (congrArg some (by kernel_rfl))
  f318 := Tryz.func214.trans (congrArg some (by kernel_rfl))
  f319 := Tryz.func215.trans (congrArg some (by kernel_rfl))
  f320 := Tryz.func216.trans (congrArg some (by kernel_rfl))
  f337 := Tryz.func219.trans (congrArg some (by kernel_rfl))
  f338 := Tryz.func220.trans (congrArg some (by kernel_rfl))
  t0 := Tryz.underlying0
  a0 := Tryz.isAgg0
  z0 := Tryz.sizeOf0
  v0 := Tryz.zeroValue0
  t3 := Tryz.underlying3
  a3 := Tryz.isAgg3
  z3 := Tryz.sizeOf3
  v3 := Tryz.zeroValue3
  t4 := Tryz.underlying4
  a4 := Tryz.isAgg4
  z4 := Tryz.sizeOf4
  v4 := Tryz.zeroValue4
  t5 := Tryz.underlying5
  a5 := Tryz.isAgg5
  z5 := Tryz.sizeOf5
  v5 := Tryz.zeroValue5
  t9 := Tryz.underlying9
  a9 := Tryz.isAgg9
  z9 := Tryz.sizeOf9
  v9 := Tryz.zeroValue9
  t20 := Tryz.underlying20
  a20 := Tryz.isAgg20
  z20 := Tryz.sizeOf20
  v20 := Tryz.zeroValue20
  t37 := Tryz.underlying59
  a37 := Tryz.isAgg59
  z37 := Tryz.sizeOf59
  v37 := Tryz.zeroValue59
  t46 := Tryz.underlying140
  a46 := Tryz.isAgg140
  z46 := Tryz.sizeOf140
  v46 := Tryz.zeroValue140
  t51 := Tryz.underlying168
  a51 := Tryz.isAgg168
  z51 := Tryz.sizeOf168
  v51 := Tryz.zeroValue168
  t53 := Tryz.underlying42
  a53 := Tryz.isAgg42
  z53 := Tryz.sizeOf42
  v53 := Tryz.zeroValue42
  t171 := Tryz.underlying221
  a171 := Tryz.isAgg221
  z171 := Tryz.sizeOf221
  v171 := Tryz.zeroValue221
  t173 := Tryz.underlying223
  a173 := Tryz.isAgg223
  z173 := Tryz.sizeOf223
  v173 := Tryz.zeroValue223
  t212 := Tryz.underlying230
  a212 := Tryz.isAgg230
  z212 := Tryz.sizeOf230
  v212 := Tryz.zeroValue230
  t213 := Tryz.underlying231
  a213 := Tryz.isAgg231
  z213 := Tryz.sizeOf231
  t232 := Tryz.underlying234
  a232 := Tryz.isAgg234
  z232 := Tryz.sizeOf234
  v232 := Tryz.zeroValue234
  t233 := Tryz.underlying235
  a233 := Tryz.isAgg235
  z233 := Tryz.sizeOf235
  v233 := Tryz.zeroValue235
  g17 := by kernel_rfl
  g18 := by kernel_rfl
  g19 := by kernel_rfl
  i0 := by kernel_rfl
  i3 := by kernel_rfl
  i4 := by kernel_rfl
  i5 := by kernel_rfl
  i9 := by kernel_rfl
  i20 := by kernel_rfl
  i37 := by kernel_rfl
  i46 := by kernel_rfl
  i51 := by kernel_rfl
  i53 := by kernel_rfl
  i171 := by kernel_rfl
  i173 := by kernel_rfl
  i212 := by kernel_rfl
  i232 := by kernel_rfl
  i233 := by kernel_rfl
  m17 := by kernel_rfl
  m18 := by kernel_rfl
  m19 := by kernel_rfl }
end Go.Proofs

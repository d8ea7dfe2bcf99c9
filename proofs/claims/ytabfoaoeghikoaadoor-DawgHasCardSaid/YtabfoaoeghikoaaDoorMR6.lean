/- Word lists, written: whatever they are. (and what stands behind it: texts laid together) -/
import Derived.Test.YtabfoaoeghikoaaDoorMG4
import Derived.Test.YtabfoaoeghikoaaDoorMR5
import Derived.Shelf.LaysM
import Derived.Test.YtabfoaoeghikoaaDoorProg
import Derived.Shelf.Strconv.AppendUint10
set_option linter.unusedVariables false
set_option linter.unusedSimpArgs false
namespace Go.Eng.Tryd
open Go Go.Eng Go.Proofs Go.RowKit
attribute [local go_sem] tys
attribute [local go_sem] is_len is_get iss_len iss_get iss_snoc bys_len bys_snoc bys_app
/-! ### Signs as bytes -/
def orB (a b : Int) : Int := IntKind.u8.wrap ((BitVec.ofInt 8 a ||| BitVec.ofInt 8 b).toNat)
def andB (a b : Int) : Int := IntKind.u8.wrap ((BitVec.ofInt 8 a &&& BitVec.ofInt 8 b).toNat)
def w8 (a : Int) : Int := IntKind.u8.wrap a
theorem or_u8 (a b : Int) : intBin .or .u8 a .u8 b = some (.int .u8 (orB a b)) := rfl
theorem and_u8 (a b : Int) : intBin .and .u8 a .u8 b = some (.int .u8 (andB a b)) := rfl
theorem wrap_w8 (a : Int) : IntKind.u8.wrap a = w8 a := rfl
theorem shr6 (a : Int) : intBin .shr .i32 a .u64 6 = some (.int .i32 (a.fdiv 64)) := rfl
theorem shr12 (a : Int) : intBin .shr .i32 a .u64 12 = some (.int .i32 (a.fdiv 4096)) := rfl
theorem shr18 (a : Int) : intBin .shr .i32 a .u64 18 = some (.int .i32 (a.fdiv 262144)) := rfl
/-- The bytes of a sign. -/
def u8enc (z : Int) : List Int :=
  if z ≤ 127 then [z]
  else if z ≤ 2047 then [orB 192 (w8 (z.fdiv 64)), orB 128 (andB (w8 z) 63)]
  else if z ≤ 65535 then [orB 224 (w8 (z.fdiv 4096)), orB 128 (andB (w8 (z.fdiv 64)) 63), orB 128 (andB (w8 z) 63)]
  else [orB 240 (w8 (z.fdiv 262144)), orB 128 (andB (w8 (z.fdiv 4096)) 63), orB 128 (andB (w8 (z.fdiv 64)) 63), orB 128 (andB (w8 z) 63)]
theorem u8enc_len (z : Int) : 1 ≤ (u8enc z).length ∧ (u8enc z).length ≤ 4 := by
  unfold u8enc
  by_cases h1 : z ≤ 127
  · rw [if_pos h1]; simp
  by_cases h2 : z ≤ 2047
  · rw [if_neg h1, if_pos h2]; simp
  by_cases h3 : z ≤ 65535
  · rw [if_neg h1, if_neg h2, if_pos h3]; simp
  · rw [if_neg h1, if_neg h2, if_neg h3]; simp
theorem bys_2 {b : List Int} {x y : Int} : bys b ++ [.int .u8 x, .int .u8 y] = bys (b ++ [x, y]) := by simp [bys]
theorem bys_3 {b : List Int} {x y z : Int} : bys b ++ [.int .u8 x, .int .u8 y, .int .u8 z] = bys (b ++ [x, y, z]) := by simp [bys]
theorem bys_4 {b : List Int} {x y z t : Int} : bys b ++ [.int .u8 x, .int .u8 y, .int .u8 z, .int .u8 t] = bys (b ++ [x, y, z, t]) := by simp [bys]
attribute [local go_sem] bys_2 bys_3 bys_4
attribute [local go_sem ↓] or_u8 and_u8 shr6 shr12 shr18
attribute [local go_sem] wrap_w8
theorem u32_id {z : Int} (h0 : 0 ≤ z) (h1 : z ≤ 1114111) : IntKind.u32.wrap z = z := by simp [IntKind.wrap, IntKind.bits, IntKind.signed]; omega
set_option maxHeartbeats 4000000 in
set_option maxRecDepth 10000 in
theorem pAppNon {b : List Int} {z : Int} (h0 : 128 ≤ z) (h1 : z ≤ 1114111) (h2 : z < 55296 ∨ 57343 < z) (hb : b.length ≤ 1000000) : SoundM Tryd.prog 85 [.own 0 b.length, .d (.int .i32 z)] [(0, .row 5 1 (bys b))] (.own 0 (b.length + (u8enc z).length)) [(0, .row 5 1 (bys (b ++ u8enc z)))] 1 := by
  have e1 := u32_id (z := z) (by omega) (by omega)
  have c0 : ¬ z ≤ 127 := by omega
  by_cases c1 : z ≤ 2047
  · have eu : u8enc z = [orB 192 (w8 (z.fdiv 64)), orB 128 (andB (w8 z) 63)] := by unfold u8enc; rw [if_neg c0, if_pos c1]
    rw [eu]
    refine SoundM.run (N := 78) (ks := [0]) Tryd.func85 rfl (by kernel_rfl) rfl rfl rfl (by first | exact argsA_0 | exact argsA_1 | exact argsA_2 | exact argsA_3 | exact argsA_4 | exact argsA_5 | exact argsA_6) fun X_ ν_ w_ => ?_
    refine goX @e1 ?_; first | exact trivial | skip
  by_cases c2 : z ≤ 65535
  · have eu : u8enc z = [orB 224 (w8 (z.fdiv 4096)), orB 128 (andB (w8 (z.fdiv 64)) 63), orB 128 (andB (w8 z) 63)] := by unfold u8enc; rw [if_neg c0, if_neg c1, if_pos c2]
    rw [eu]
    by_cases c3 : z < 55296
    · refine SoundM.run (N := 78) (ks := [0]) Tryd.func85 rfl (by kernel_rfl) rfl rfl rfl (by first | exact argsA_0 | exact argsA_1 | exact argsA_2 | exact argsA_3 | exact argsA_4 | exact argsA_5 | exact argsA_6) fun X_ ν_ w_ => ?_
      refine goX @e1 ?_; first | exact trivial | skip
    · have c4 : 57343 < z := by omega
      refine SoundM.run (N := 78) (ks := [0]) Tryd.func85 rfl (by kernel_rfl) rfl rfl rfl (by first | exact argsA_0 | exact argsA_1 | exact argsA_2 | exact argsA_3 | exact argsA_4 | exact argsA_5 | exact argsA_6) fun X_ ν_ w_ => ?_
      refine goX @e1 ?_; first | exact trivial | skip
  · have eu : u8enc z = [orB 240 (w8 (z.fdiv 262144)), orB 128 (andB (w8 (z.fdiv 4096)) 63), orB 128 (andB (w8 (z.fdiv 64)) 63), orB 128 (andB (w8 z) 63)] := by unfold u8enc; rw [if_neg c0, if_neg c1, if_neg c2]
    rw [eu]
    have c3 : ¬ z < 55296 := by omega
    have c4 : 57343 < z := by omega
    refine SoundM.run (N := 78) (ks := [0]) Tryd.func85 rfl (by kernel_rfl) rfl rfl rfl (by first | exact argsA_0 | exact argsA_1 | exact argsA_2 | exact argsA_3 | exact argsA_4 | exact argsA_5 | exact argsA_6) fun X_ ν_ w_ => ?_
    refine goX @e1 ?_; first | exact trivial | skip
set_option maxHeartbeats 4000000 in
set_option maxRecDepth 10000 in
theorem pAppR {b : List Int} {z : Int} (hg : gsign z = true) (hb : b.length ≤ 1000000) : SoundM Tryd.prog 74 [.own 0 b.length, .d (.int .i32 z)] [(0, .row 5 1 (bys b))] (.own 0 (b.length + (u8enc z).length)) [(0, .row 5 1 (bys (b ++ u8enc z)))] 1 := by
  have hg2 := of_decide_eq_true hg
  obtain ⟨g0, g1, g2⟩ := hg2
  have e1 := u32_id (z := z) g0 g1
  by_cases h1 : z ≤ 127
  · have c := pAppRune (b := b) g0 h1 hb
    have eu : u8enc z = [z] := by unfold u8enc; rw [if_pos h1]
    rw [eu]
    exact c
  · have c := pAppNon (b := b) (z := z) (by omega) g1 g2 hb
    refine SoundM.run (N := 16) (ks := [0]) Tryd.func74 rfl (by kernel_rfl) rfl rfl rfl (by first | exact argsA_0 | exact argsA_1 | exact argsA_2 | exact argsA_3 | exact argsA_4 | exact argsA_5 | exact argsA_6) fun X_ ν_ w_ => ?_
    have c0_ := c; refine goX @e1 ?_; first | exact trivial | skip
/-- A word's bytes. -/
def wenc (w : List Int) : List Int := w.flatMap u8enc
theorem wenc_snoc (w : List Int) (z : Int) : wenc (w ++ [z]) = wenc w ++ u8enc z := by simp [wenc]
theorem wenc_len (w : List Int) : (wenc w).length ≤ 4 * w.length := by
  induction w with
  | nil => simp [wenc]
  | cons x t ih =>
    have := u8enc_len x
    simp only [wenc, List.flatMap_cons, List.length_append, List.length_cons] at ih ⊢
    omega
set_option maxHeartbeats 4000000 in
set_option maxRecDepth 10000 in
theorem pPutW {w : List Int} (hw : w.all gsign = true) (hlen : w.length ≤ 200000) : Sound Tryd.prog 48 [.sl 1 (is w)] (.tup [.sl 1 (bys (wenc w)), .int .i64 0]) := by
  refine Sound.run (N := 22) Tryd.func48 rfl (by kernel_rfl) rfl rfl rfl (by first | exact args0_0 | exact args0_1 | exact args0_2 | exact args0_3 | exact args0_4 | exact args0_5 | exact args0_6) fun X_ w_ => ?_
  repeat ((fail_if_success (with_reducible show WP _ _ (.region 2 _ _) _ _)); first | with_reducible exact Ev.nil | with_reducible exact gd_n | ((with_reducible apply lk_ok); rfl) | ((with_reducible apply gslot_ok); rfl) | ((with_reducible apply v2d_ok); rfl) | with_reducible apply then_n | with_reducible apply WP_seq | with_reducible apply WP_skip | ((with_reducible apply WP_r (N := 22) rfl rfl); (focus simp only [Nat.reduceAdd] <;> rfl)) | ((with_reducible apply WP_d (N := 22) mixed rfl rfl); (focus simp only [Nat.reduceAdd] <;> rfl)) | ((with_reducible apply Ev_s); (focus first | (apply gd_u; (focus rfl); rfl) | (apply gd_f; (focus rfl); (focus rfl); rfl))) | ((with_reducible apply Ev_sn); (focus first | (apply gd_u; (focus rfl); rfl) | (apply gd_f; (focus rfl); (focus rfl); rfl))) | with_reducible apply gd_t | with_reducible apply Ev_mv | with_reducible apply Ev_as | with_reducible apply Ev_mc | with_reducible apply Ev_ac | ((first | (with_reducible apply Ev_pt) | (with_reducible apply Ev_ptc)); (focus rfl)) | ((first | (with_reducible apply Ev_pf) | (with_reducible apply Ev_pfc)); (focus rfl)) | ((with_reducible apply Ev_d); (focus simp only [Nat.reduceAdd] <;> rfl); (focus simp (disch := omega) only [go_sem] <;> rfl)) | ((first | (with_reducible apply Ev_od) | (with_reducible apply Ev_on)); (focus simp only [Nat.reduceAdd] <;> rfl); (focus simp (disch := omega) only [go_sem] <;> rfl); (focus first | (simp (disch := omega) only [go_sem] <;> rfl) | rfl)) | with_reducible apply endM_n | with_reducible apply endM_r | with_reducible apply then_r | with_reducible apply then_x | with_reducible apply block_n | with_reducible apply block_r | with_reducible apply block_x | with_reducible apply block_y rfl | with_reducible apply scope_n | with_reducible apply scope_r | with_reducible apply scope_x | with_reducible apply end_n | with_reducible apply end_r | with_reducible apply WP_block | with_reducible apply WP_exit | with_reducible apply WP_ret | with_reducible apply WP_label | with_reducible apply WP_scope | ((with_reducible apply WP_t); (focus first | (simp (disch := omega) only [go_sem] <;> rfl) | rfl)) | ((with_reducible apply WP_f); (focus first | (simp (disch := omega) only [go_sem] <;> rfl) | rfl)) | ((with_reducible apply resD_t); (focus rfl)) | ((with_reducible apply resD_2); (focus rfl); (focus rfl)) | (with_reducible rfl) | ((with_reducible show List.map outKeys _ = _); simp only [List.map_cons, List.map_nil, outKeys, keys]; rfl) | ((with_reducible show orderOk _ _ = true); kernel_rfl) | ((with_reducible show _ = _); simp (disch := omega) only [go_sem] <;> rfl) | ((fail_if_success (with_reducible show Ev _ _ _ _ (_ :: _) _ _ _ _ _)); (show Ev _ _ _ _ (_ :: _) _ _ _ _ _)) | fail)
  refine WP_own 4 3000 5 1 rfl (by decide) (Nat.le_of_ble_eq_true rfl) ?_
  refine goT ?_; first | exact trivial | skip
  refine WP_loopk (fun k : Nat => k ≤ w.length) (fun k => [(4, .own 3000 (wenc (w.take k)).length), (7, .d (.sl 1 (is w))), (8, .d (.int .i64 w.length)), (9, .d (.int .i64 k))]) (fun k => [(3000, .row 5 1 (bys (wenc (w.take k))))]) 3001 (fun k => w.length - k) [4, 7, 8, 9] [3000] 0 (Nat.zero_le _) rfl rfl (Nat.zero_le _) (fun _ _ => rfl) (fun _ _ => rfl) fun k hk => ?_
  have hkl : (w.take k).length = k := by simp; omega
  have hbl := wenc_len (w.take k)
  by_cases hk3 : k < w.length
  · have hz := List.all_eq_true.1 hw (w[k]!) (by rw [getElem!_pos w k hk3]; exact List.getElem_mem hk3)
    have cg := utfGood (z := w[k]!)
    rw [hz] at cg
    have hst : wenc (w.take (k + 1)) = wenc (w.take k) ++ u8enc (w[k]!) := by rw [← wenc_snoc, atake_snoc hk3]
    have ca := pAppR (b := wenc (w.take k)) hz (by omega)
    have e1 : IntKind.i32.wrap (w[k]!) = w[k]! := by
      obtain ⟨h0, h1, _⟩ := of_decide_eq_true hz
      generalize w[k]! = z at h0 h1 ⊢
      simp [IntKind.wrap, IntKind.bits, IntKind.signed]; omega
    have c0_ := cg; have c1_ := ca; refine goX @e1 ?_; first | exact trivial | skip
    refine ⟨k + 1, by omega, ?_, ?_, by omega⟩
    · simp (disch := omega) only [go_sem, keepL, Int.natCast_add, Int.cast_ofNat_Int, hst, List.length_append]
    · simp (disch := omega) only [go_sem, keepL, hst]
  · have hke : k = w.length := by omega
    subst hke
    rw [List.take_length]
    refine goT ?_; first | exact trivial | skip
/-- A list's bytes. -/
def lenc (l : List (List Int)) : List Int := l.flatMap fun w => wenc w ++ [10]
theorem lenc_snoc (l : List (List Int)) (w : List Int) : lenc (l ++ [w]) = lenc l ++ wenc w ++ [10] := by simp [lenc]
theorem lenc_len (l : List (List Int)) (h : ∀ w ∈ l, w.length ≤ 20) : (lenc l).length ≤ 81 * l.length := by
  induction l with
  | nil => simp [lenc]
  | cons x t ih =>
    have h1 := ih fun w hw => h w (by simp [hw])
    have h2 := h x (by simp)
    have h3 := wenc_len x
    simp only [lenc, List.flatMap_cons, List.length_append, List.length_cons, List.length_nil] at h1 ⊢
    omega
end Go.Eng.Tryd
namespace Go.Proofs
open Go.Shelf
def Tryd.strcU_ren : Go.Shelf.Ren := ⟨fun | 288 => 86 | 283 => 89 | 284 => 90 | 285 => 91 | 286 => 92 | 129 => 62 | 317 => 93 | 318 => 94 | 319 => 95 | 320 => 96 | 337 => 97 | 338 => 98 | n => n, fun | 37 => 60 | 53 => 94 | 3 => 3 | 4 => 4 | 9 => 9 | 171 => 118 | 0 => 0 | 173 => 120 | 212 => 124 | 51 => 92 | 5 => 5 | 20 => 20 | 213 => 125 | 46 => 75 | 232 => 126 | 233 => 127 | n => n, fun | 17 => 0 | 18 => 1 | 19 => 2 | n => n⟩
theorem Tryd.strcU : Go.Proofs.LaysM.n288 Tryd.prog Tryd.strcU_ren := {
  mixed := by kernel_rfl
  f129 := Tryd.func62.trans (congrArg some (by kernel_rfl))
  f283 := Tryd.func89.trans (congrArg some (by kernel_rfl))
  f284 := Tryd.func90.trans (congrArg some (by kernel_rfl))
  f285 := Tryd.func91.trans (congrArg some (by kernel_rfl))
  f286 := Tryd.func92.trans (congrArg some (by kernel_rfl))
  f288 := Tryd.func86.trans (congrArg some (by kernel_rfl))
  f317 := Tryd.func93.trans (congrArg some (by kernel_rfl))
  f318 := Tryd.func94.trans (congrArg some (by kernel_rfl))
  f319 := Tryd.func95.trans (congrArg some (by kernel_rfl))
  f320 := Tryd.func96.trans (congrArg some (by kernel_rfl))
  f337 := Tryd.func97.trans (congrArg some (by kernel_rfl))
  f338 := Tryd.func98.trans (congrArg some (by kernel_rfl))
  t0 := Tryd.underlying0
  a0 := Tryd.isAgg0
  z0 := Tryd.sizeOf0
  v0 := Tryd.zeroValue0
  t3 := Tryd.underlying3
  a3 := Tryd.isAgg3
  z3 := Tryd.sizeOf3
  v3 := Tryd.zeroValue3
  t4 := Tryd.underlying4
  a4 := Tryd.isAgg4
  z4 := Tryd.sizeOf4
  v4 := Tryd.zeroValue4
  t5 := Tryd.underlying5
  a5 := Tryd.isAgg5
  z5 := Tryd.sizeOf5
  v5 := Tryd.zeroValue5
  t9 := Tryd.underlying9
  a9 := Tryd.isAgg9
  z9 := Tryd.sizeOf9
  v9 := Tryd.zeroValue9
  t20 := Tryd.underlying20
  a20 := Tryd.isAgg20
  z20 := Tryd.sizeOf20
  v20 := Tryd.zeroValue20
  t37 := Tryd.underlying60
  a37 := Tryd.isAgg60
  z37 := Tryd.sizeOf60
  v37 := Tryd.zeroValue60
  t46 := Tryd.underlying75
  a46 := Tryd.isAgg75
  z46 := Tryd.sizeOf75
  v46 := Tryd.zeroValue75
  t51 := Tryd.underlying92
  a51 := Tryd.isAgg92
  z51 := Tryd.sizeOf92
  v51 := Tryd.zeroValue92
  t53 := Tryd.underlying94
  a53 := Tryd.isAgg94
  z53 := Tryd.sizeOf94
  v53 := Tryd.zeroValue94
  t171 := Tryd.underlying118
  a171 := Tryd.isAgg118
  z171 := Tryd.sizeOf118
  v171 := Tryd.zeroValue118
  t173 := Tryd.underlying120
  a173 := Tryd.isAgg120
  z173 := Tryd.sizeOf120
  v173 := Tryd.zeroValue120
  t212 := Tryd.underlying124
  a212 := Tryd.isAgg124
  z212 := Tryd.sizeOf124
  v212 := Tryd.zeroValue124
  t213 := Tryd.underlying125
  a213 := Tryd.isAgg125
  z213 := Tryd.sizeOf125
  t232 := Tryd.underlying126
  a232 := Tryd.isAgg126
  z232 := Tryd.sizeOf126
  v232 := Tryd.zeroValue126
  t233 := Tryd.underlying127
  a233 := Tryd.isAgg127
  z233 := Tryd.sizeOf127
  v233 := Tryd.zeroValue127
  g17 := by kernel_rfl
  g18 := by kernel_rfl
  g19 := by kernel_rfl
  i0 := by kernel_rfl
  i3 := by kernel_rfl
  i4 := by kernel_rfl
  i5 := by kernel_rfl
  i9 := by kernel_rfl
  i20 := by kernel_rfl
  i37 := by kernel_rfl
  i46 := by kernel_rfl
  i51 := by kernel_rfl
  i53 := by kernel_rfl
  i171 := by kernel_rfl
  i173 := by kernel_rfl
  i212 := by kernel_rfl
  i232 := by kernel_rfl
  i233 := by kernel_rfl
  m17 := by kernel_rfl
  m18 := by kernel_rfl
  m19 := by kernel_rfl }
end Go.Proofs
set_option linter.unusedVariables false
set_option linter.unusedSimpArgs false
namespace Go.Eng.Tryd
open Go Go.Eng Go.Proofs Go.RowKit
attribute [local go_sem] tys
attribute [local go_sem] is_len is_get bys_len bys_snoc bys_app
theorem pSmall {u : Nat} (hu : u < 100) : Sound Tryd.prog 89 [.int .i64 u] (.str ⟨(Lib.decDigits u).toArray⟩) := by
  intro w M vs hW hM hl hv
  match vs, hl with
  | [v], _ =>
  have := hv 0 _ v rfl rfl
  cases this
  have L := Tryd.strcU
  have eg : ∀ args w, (callFunc 89 args).run Tryd.prog w = .ok (.enter 89 args) w := enters_of Tryd.func89 (by kernel_rfl) rfl
  have h := Any.internal_strconv_small (P := Tryd.prog) (ρ := Tryd.strcU_ren) { L with } u hu w
  refine .inr ⟨eg _ _, ?_⟩
  refine Calls.mono (P := Tryd.prog) h ?_
  rintro e w' ⟨rfl, rfl⟩
  exact ⟨_, rfl, .str _, Bl.refl _ _⟩
theorem pNumD {u : Nat} (h1 : 1 ≤ u) (hu : u < 18446744073709551616) : Sound Tryd.prog 90 [.int .u64 u] (.int .i64 (Lib.nDigits u)) := by
  intro w M vs hW hM hl hv
  match vs, hl with
  | [v], _ =>
  have := hv 0 _ v rfl rfl
  cases this
  have L := Tryd.strcU
  have eg : ∀ args w, (callFunc 90 args).run Tryd.prog w = .ok (.enter 90 args) w := enters_of Tryd.func90 (by kernel_rfl) rfl
  have h := Any.internal_strconv_numDigits (P := Tryd.prog) (ρ := Tryd.strcU_ren) { L with } u h1 hu w hW
  refine .inr ⟨eg _ _, ?_⟩
  refine Calls.mono (P := Tryd.prog) h ?_
  rintro e w' ⟨rfl, rfl⟩
  exact ⟨_, rfl, .int _ _, Bl.refl _ _⟩
/-- A number's digits, as bytes. -/
def decI (u : Nat) : List Int := (Lib.decDigits u).map fun b => (b.toNat : Int)
def zc (n : Nat) : List AV := List.replicate n (.d (.int .u8 0))
def bysA (l : List Int) : List AV := l.map fun z => .d (.int .u8 z)
theorem putRow_setRow {α : Type} [Inhabited α] (enc : α → Value) (w : World) (b : Nat) (d : Array α) {cells : Array Value} {e : TypeId} (hg : w.heap[b]? = some (.cells cells e (0, 0))) : Sort.putRow enc w b 0 d = w.setRow b (Sort.putCells enc 0 d cells) := by
  unfold Sort.putRow Sort.mapBlock World.setRow
  congr 1
  apply Array.ext_getElem?
  intro i
  simp only [Array.getElem?_modify]
  split
  · rename_i h
    subst h
    rw [hg]
    rfl
  · rfl
theorem nDigits_le {u : Nat} (h1 : 1 ≤ u) (hu : u < 18446744073709551616) : Lib.nDigits u ≤ 20 := by have := Lib.numDigits_eq u h1 hu; split at this <;> omega
set_option maxRecDepth 100000 in
theorem pFmt {u : Nat} (h1 : 1 ≤ u) (hu : u < 18446744073709551616) : SoundM Tryd.prog 91 [.vs 0 0 (Lib.nDigits u), .d (.int .u64 u)] [(0, .var (zc 24))] (.tup []) [(0, .var (bysA (decI u) ++ zc (24 - Lib.nDigits u)))] 1 := by
  have hnd := nDigits_le h1 hu
  have hdl := Lib.decDigits_length u
  intro X ν w vs hI hl hv
  match vs, hl with
  | [v0, v1], _ =>
  have r0 := hv 0 _ v0 rfl rfl
  have r1 := hv 1 _ v1 rfl rfl
  have ho : lk [(0, HO.var (zc 24))] 0 = some (.var (zc 24)) := rfl
  cases r1 with
  | d r1 =>
  cases r1
  cases r0 with
  | @vs _ _ _ c a hu0 hc h =>
  obtain ⟨cs, b, he, hν, rfl, hle⟩ := h _ ho
  cases he
  obtain ⟨b', cells, e, hv0, hg, hlen, hcell, hr⟩ := hI.obj _ _ ho
  rw [hν] at hv0
  cases hv0
  have hcs : cells.size = 24 := by simpa [zc] using hlen
  have hcv : ∀ j, j < 24 → cells[j]? = some (.int .u8 0) := fun j hj => by
    have hx : (zc 24)[j]? = some (.d (.int .u8 0)) := by unfold zc; rw [List.getElem?_replicate, if_pos hj]
    have hy := Array.getElem?_eq_getElem (xs := cells) (i := j) (by omega)
    have hr' := hr j _ _ hx hy
    generalize cells[j] = u' at hy hr'
    cases hr' with
    | d hr' => cases hr'; exact hy
  let enc : UInt8 → Value := fun b => .int .u8 (b.toNat : Int)
  have hH : Sort.Holds enc w b 0 (Array.replicate (Lib.nDigits u) 0) := fun j hj => by
    rw [Array.size_replicate] at hj
    refine ⟨?_, by simp [World.frozen?, hg]⟩
    have e1 : (Array.replicate (Lib.nDigits u) (0 : UInt8))[j]! = 0 := by rw [getElem!_pos _ j (by simpa using hj)]; simp
    rw [e1]
    have := hcv j (by omega)
    have h2 := cell_at hg this 0 j (by omega)
    have e3 : (⟨b, 0 + j, none⟩ : Addr) = (⟨b, 0, none⟩ : Addr).add j := by unfold Addr.add; by_cases h : j = 0 <;> simp [h]
    rw [e3, h2]
    rfl
  have L := Tryd.strcU
  have eg : ∀ args w, (callFunc 91 args).run Tryd.prog w = .ok (.enter 91 args) w := enters_of Tryd.func91 (by kernel_rfl) rfl
  have hcon := Any.internal_strconv_formatBase10 (P := Tryd.prog) (ρ := Tryd.strcU_ren) { L with } b 0 c u (Array.replicate (Lib.nDigits u) 0) w hH (by rw [Array.size_replicate]; exact Lib.lt_pow_nDigits u) hu (by rw [Array.size_replicate]; omega)
  rw [Array.size_replicate] at hcon
  refine ⟨eg _ _, ?_⟩
  refine Calls.mono (P := Tryd.prog) hcon ?_
  rintro ex w' ⟨rfl, n, v', dk, rfl, hF⟩
  rw [putRow_setRow enc w b dk hg]
  have hb : hasB (ν 0) b := by rw [hν]; exact rfl
  have hsz := hF.size
  obtain ⟨g1, g2⟩ := hI.write (o' := .var (bysA (decI u) ++ zc (24 - Lib.nDigits u))) ho hb (Sort.putCells enc 0 dk cells) (by simp [HO.later, zc, bysA, decI]; omega)
    (fun M' H' hx' => by
      refine ⟨b, Sort.putCells enc 0 dk cells, e, hν, setRow_heap _ _ _ _ _ _ hg, by simp [Sort.putCells, zc, bysA, decI]; omega, fun q hq => ?_, fun i av u' hi hu' => ?_⟩
      · simp only [List.mem_append, bysA, zc, List.mem_map] at hq
        rcases hq with ⟨z, _, rfl⟩ | hq
        · rfl
        · rw [List.eq_of_mem_replicate hq]; rfl
      · simp only [Sort.putCells, Array.getElem?_mapIdx] at hu'
        by_cases hin : i < Lib.nDigits u
        · rw [List.getElem?_append_left (by simp [bysA, decI]; omega)] at hi
          simp only [bysA, decI, List.map_map, List.getElem?_map] at hi
          rw [List.getElem?_eq_getElem (by omega : i < (Lib.decDigits u).length)] at hi
          simp only [Option.map_some, Option.some.injEq, Function.comp] at hi
          subst hi
          rw [hcv i (by omega)] at hu'
          simp only [Option.map_some, Option.some.injEq] at hu'
          rw [if_pos (by omega)] at hu'
          subst hu'
          have := Lib.row_is_numeral hF i (by omega)
          rw [Nat.sub_zero]
          show RepA _ _ _ _ _ _ (Value.int .u8 ((dk[i]!).toNat : Int))
          rw [← this]
          exact .d (.int _ _)
        · rw [List.getElem?_append_right (by simp [bysA, decI]; omega)] at hi
          have hl24 := (List.getElem?_eq_some_iff.1 hi).1
          simp [zc, bysA, decI] at hl24
          have := List.mem_of_getElem? hi
          rw [List.eq_of_mem_replicate this]
          rw [hcv i (by omega)] at hu'
          simp only [Option.map_some, Option.some.injEq] at hu'
          rw [if_neg (by omega)] at hu'
          subst hu'
          exact .d (.int _ _))
  have hbl : Bl (w.setRow b (Sort.putCells enc 0 dk cells)).heap.size (w.setRow b (Sort.putCells enc 0 dk cells)) ((w.setRow b (Sort.putCells enc 0 dk cells)).drewN n) := by
    clear g1 g2
    induction n with
    | zero => exact Bl.refl _ _
    | succ n ih => exact ih.drew
  obtain ⟨i1, x1⟩ := g1.world hbl
  refine ⟨.tuple #[], ν, 1, rfl, i1, g2.trans x1, .tup rfl (fun i d v hd => by simp at hd)⟩
theorem strD_dec (u : Nat) : strD ⟨(Lib.decDigits u).toArray⟩ = bys (decI u) := by simp [strD, bys, decI, List.map_map, Function.comp_def]
theorem decI_len (u : Nat) : (decI u).length = (Lib.decDigits u).length := by simp [decI]
theorem decI_20 {u : Nat} (hu : u < 18446744073709551616) : 1 ≤ (decI u).length ∧ (decI u).length ≤ 20 := by
  rw [decI_len, Lib.decDigits_length]
  by_cases h : 1 ≤ u
  · have := nDigits_le h hu
    have h2 := Lib.decDigits_length u
    refine ⟨?_, this⟩
    rw [← h2]
    unfold Lib.decDigits
    split <;> simp
  · have : u = 0 := by omega
    subst this
    rw [← Lib.decDigits_length]
    have : Lib.decDigits 0 = [48] := by unfold Lib.decDigits; rfl
    rw [this]; decide
theorem str_size (u : Nat) : (⟨(Lib.decDigits u).toArray⟩ : ByteArray).size = (decI u).length := by simp [decI, ByteArray.size]
theorem cellsD_bysA : ∀ (l : List Int), cellsD (bysA l) = some (bys l)
  | [] => rfl
  | z :: l => by simp only [bysA, List.map_cons, cellsD]; have := cellsD_bysA l; simp only [bysA] at this; rw [this]; rfl
/-- The array's cells, one by one. -/
def dz (u i : Nat) : Int := if i < Lib.nDigits u then (((Lib.decDigits u)[i]!).toNat : Int) else 0
def dl (u : Nat) : List AV := [.d (.int .u8 (dz u 0)), .d (.int .u8 (dz u 1)), .d (.int .u8 (dz u 2)), .d (.int .u8 (dz u 3)), .d (.int .u8 (dz u 4)), .d (.int .u8 (dz u 5)), .d (.int .u8 (dz u 6)), .d (.int .u8 (dz u 7)), .d (.int .u8 (dz u 8)), .d (.int .u8 (dz u 9)), .d (.int .u8 (dz u 10)), .d (.int .u8 (dz u 11)), .d (.int .u8 (dz u 12)), .d (.int .u8 (dz u 13)), .d (.int .u8 (dz u 14)), .d (.int .u8 (dz u 15)), .d (.int .u8 (dz u 16)), .d (.int .u8 (dz u 17)), .d (.int .u8 (dz u 18)), .d (.int .u8 (dz u 19)), .d (.int .u8 (dz u 20)), .d (.int .u8 (dz u 21)), .d (.int .u8 (dz u 22)), .d (.int .u8 (dz u 23))]
theorem dl_range (u : Nat) : dl u = (List.range 24).map fun i => .d (.int .u8 (dz u i)) := rfl
theorem rns_dl (σ : Nat → Nat) (u : Nat) : rns σ (dl u) = dl u := rfl
attribute [local go_sem] rns_dl
theorem dl_eq {u : Nat} (hnd : Lib.nDigits u ≤ 20) : bysA (decI u) ++ zc (24 - Lib.nDigits u) = dl u := by
  have hdl := Lib.decDigits_length u
  rw [dl_range]
  apply List.ext_getElem
  · simp [bysA, decI, zc]; omega
  · intro i h1 h2
    simp only [List.length_map, List.length_range] at h2
    rw [List.getElem_map, List.getElem_range]
    unfold dz
    by_cases h : i < Lib.nDigits u
    · rw [List.getElem_append_left (by simp [bysA, decI]; omega), if_pos h, getElem!_pos _ i (by omega)]
      simp [bysA, decI]
    · rw [List.getElem_append_right (by simp [bysA, decI]; omega), if_neg h]
      simp [zc]
set_option maxHeartbeats 4000000 in
set_option maxRecDepth 10000 in
theorem pAppU {b : List Int} {u : Nat} (hu : u < 18446744073709551616) (hb : b.length ≤ 1000000) : SoundM Tryd.prog 86 [.own 0 b.length, .d (.int .u64 u), .d (.int .i64 10)] [(0, .row 5 1 (bys b))] (.own 0 (b.length + (decI u).length)) [(0, .row 5 1 (bys (b ++ decI u)))] 1 := by
  obtain ⟨hd1, hd2⟩ := decI_20 hu
  have hss := str_size u
  by_cases h : u < 100
  · have c := pSmall h
    have e1 : IntKind.i64.wrap (u : Int) = u := by simp [IntKind.wrap, IntKind.bits, IntKind.signed]; omega
    have hsd : List.map (fun b : UInt8 => D.int .u8 (b.toNat : Int)) (⟨(Lib.decDigits u).toArray⟩ : ByteArray).data.toList = bys (decI u) := strD_dec u
    have hsl : (⟨(Lib.decDigits u).toArray⟩ : ByteArray).data.toList.length = (decI u).length := by simp [decI]
    generalize (⟨(Lib.decDigits u).toArray⟩ : ByteArray) = st at c hss hsd hsl
    refine SoundM.run (N := 36) (ks := [0]) Tryd.func86 rfl (by kernel_rfl) rfl rfl rfl (by first | exact argsA_0 | exact argsA_1 | exact argsA_2 | exact argsA_3 | exact argsA_4 | exact argsA_5 | exact argsA_6) fun X_ ν_ w_ => ?_
    have c0_ := c; refine goX (And.intro @e1 (And.intro @hss (And.intro @hsd @hsl))) ?_; first | exact trivial | skip
  · have c1 := pNumD (u := u) (by omega) hu
    have c2 := pFmt (u := u) (by omega) hu
    have hnd := nDigits_le (u := u) (by omega) hu
    have hdn : (decI u).length = Lib.nDigits u := by rw [decI_len, Lib.decDigits_length]
    rw [dl_eq hnd] at c2
    have e3 : cellsD ((dl u).take (decI u).length) = some (bys (decI u)) := by
      rw [← dl_eq hnd, List.take_append_of_le_length (by simp [bysA]), List.take_of_length_le (by simp [bysA]), cellsD_bysA]
    have e4 : (dl u).length = 24 := rfl
    have e5 : (bys (decI u)).all D.flat = true := by rw [List.all_eq_true]; intro x hx; obtain ⟨z, _, rfl⟩ := List.mem_map.1 hx; rfl
    rw [← hdn] at c1 c2 hnd
    refine SoundM.run (N := 36) (ks := [0]) Tryd.func86 rfl (by kernel_rfl) rfl rfl rfl (by first | exact argsA_0 | exact argsA_1 | exact argsA_2 | exact argsA_3 | exact argsA_4 | exact argsA_5 | exact argsA_6) fun X_ ν_ w_ => ?_
    have c0_ := c1; have c1_ := c2; repeat (first | with_reducible exact Ev.nil | with_reducible exact gd_n | ((with_reducible apply lk_ok); rfl) | ((with_reducible apply gslot_ok); rfl) | ((with_reducible apply v2d_ok); rfl) | with_reducible apply then_n | with_reducible apply WP_seq | with_reducible apply WP_skip | ((with_reducible apply WP_r (N := 36) rfl rfl); (focus simp only [Nat.reduceAdd] <;> rfl)) | ((with_reducible apply WP_d (N := 36) mixed rfl rfl); (focus simp only [Nat.reduceAdd] <;> rfl)) | ((with_reducible apply Ev_s); (focus first | (apply gd_u; (focus rfl); rfl) | (apply gd_f; (focus rfl); (focus rfl); rfl))) | ((with_reducible apply Ev_sn); (focus first | (apply gd_u; (focus rfl); rfl) | (apply gd_f; (focus rfl); (focus rfl); rfl))) | with_reducible apply gd_t | with_reducible apply Ev_mv | with_reducible apply Ev_as | with_reducible apply Ev_mc | with_reducible apply Ev_ac | ((first | (with_reducible apply Ev_pt) | (with_reducible apply Ev_ptc)); (focus rfl)) | ((first | (with_reducible apply Ev_pf) | (with_reducible apply Ev_pfc)); (focus rfl)) | (apply Ev_cf; (focus simp (disch := omega) only [go_sem, e3, e4, e5, List.drop_zero] <;> rfl); (focus first | exact c0_ | exact c1_); (focus rfl); (focus first | (simp (disch := omega) only [go_sem, e3, e4, e5, List.drop_zero] <;> rfl) | rfl)) | ((with_reducible apply Ev_d); (focus simp only [Nat.reduceAdd] <;> rfl); (focus simp (disch := omega) only [go_sem, e3, e4, e5, List.drop_zero] <;> rfl)) | (apply Ev_cv; (focus rfl); (focus simp (disch := omega) only [go_sem, e3, e4, e5, List.drop_zero] <;> rfl); (focus first | exact c0_ | exact c1_); (iterate 3 (focus first | (simp (disch := omega) only [go_sem, e3, e4, e5, List.drop_zero] <;> rfl) | rfl))) | ((first | apply Ev_cmd | apply Ev_cmn); (focus simp only [Nat.reduceAdd] <;> rfl); (focus rfl); (iterate 2 (focus simp (disch := omega) only [go_sem, e3, e4, e5, List.drop_zero] <;> rfl)); (first | ((focus first | exact c0_ | exact c1_); (iterate 2 (focus first | (simp (disch := omega) only [go_sem, e3, e4, e5, List.drop_zero] <;> rfl) | rfl)); (focus rfl); (iterate 3 (focus first | (simp (disch := omega) only [go_sem, e3, e4, e5, List.drop_zero] <;> rfl) | rfl))))) | ((first | (with_reducible apply Ev_od) | (with_reducible apply Ev_on)); (focus simp only [Nat.reduceAdd] <;> rfl); (focus simp (disch := omega) only [go_sem, e3, e4, e5, List.drop_zero] <;> rfl); (focus first | (simp (disch := omega) only [go_sem, e3, e4, e5, List.drop_zero] <;> rfl) | rfl)) | with_reducible apply endM_n | with_reducible apply endM_r | with_reducible apply then_r | with_reducible apply then_x | with_reducible apply block_n | with_reducible apply block_r | with_reducible apply block_x | with_reducible apply block_y rfl | with_reducible apply scope_n | with_reducible apply scope_r | with_reducible apply scope_x | with_reducible apply end_n | with_reducible apply end_r | with_reducible apply WP_block | with_reducible apply WP_exit | with_reducible apply WP_ret | with_reducible apply WP_label | with_reducible apply WP_scope | ((with_reducible apply WP_t); (focus first | (simp (disch := omega) only [go_sem, e3, e4, e5, List.drop_zero] <;> rfl) | rfl)) | ((with_reducible apply WP_f); (focus first | (simp (disch := omega) only [go_sem, e3, e4, e5, List.drop_zero] <;> rfl) | rfl)) | ((with_reducible apply resD_t); (focus rfl)) | ((with_reducible apply resD_2); (focus rfl); (focus rfl)) | (with_reducible rfl) | ((with_reducible show List.map outKeys _ = _); simp only [List.map_cons, List.map_nil, outKeys, keys]; rfl) | ((with_reducible show orderOk _ _ = true); kernel_rfl) | ((with_reducible show _ = _); simp (disch := omega) only [go_sem, e3, e4, e5, List.drop_zero] <;> rfl) | ((fail_if_success (with_reducible show Ev _ _ _ _ (_ :: _) _ _ _ _ _)); (show Ev _ _ _ _ (_ :: _) _ _ _ _ _)) | fail)
set_option maxHeartbeats 4000000 in
set_option maxRecDepth 10000 in
theorem pAppI {b : List Int} {z : Nat} (hz : z ≤ 9223372036854775807) (hb : b.length ≤ 1000000) : SoundM Tryd.prog 52 [.own 0 b.length, .d (.int .i64 z), .d (.int .i64 10)] [(0, .row 5 1 (bys b))] (.own 0 (b.length + (decI z).length)) [(0, .row 5 1 (bys (b ++ decI z)))] 1 := by
  have e1 : IntKind.u64.wrap (z : Int) = z := by simp [IntKind.wrap, IntKind.bits, IntKind.signed]; omega
  have c := pAppU (b := b) (u := z) (by omega) hb
  have c2 : SoundM Tryd.prog 75 [.own 0 b.length, .d (.int .i64 z), .d (.int .i64 10)] [(0, .row 5 1 (bys b))] (.own 0 (b.length + (decI z).length)) [(0, .row 5 1 (bys (b ++ decI z)))] 1 := by
    refine SoundM.run (N := 21) (ks := [0]) Tryd.func75 rfl (by kernel_rfl) rfl rfl rfl (by first | exact argsA_0 | exact argsA_1 | exact argsA_2 | exact argsA_3 | exact argsA_4 | exact argsA_5 | exact argsA_6) fun X_ ν_ w_ => ?_
    have c0_ := c; refine goX @e1 ?_; first | exact trivial | skip
  refine SoundM.run (N := 11) (ks := [0]) Tryd.func52 rfl (by kernel_rfl) rfl rfl rfl (by first | exact argsA_0 | exact argsA_1 | exact argsA_2 | exact argsA_3 | exact argsA_4 | exact argsA_5 | exact argsA_6) fun X_ ν_ w_ => ?_
  have c0_ := c2; refine goT ?_; first | exact trivial | skip
set_option maxHeartbeats 4000000 in
set_option maxRecDepth 10000 in
/-- Behind nothing. -/
theorem pAppI0 {z : Nat} (hz : z ≤ 9223372036854775807) : SoundM Tryd.prog 52 [.d .nils, .d (.int .i64 z), .d (.int .i64 10)] [] (.own 3000 (decI z).length) [(3000, .row 5 1 (bys (decI z)))] 0 := by
  have e1 : IntKind.u64.wrap (z : Int) = z := by simp [IntKind.wrap, IntKind.bits, IntKind.signed]; omega
  have c := pAppU (b := []) (u := z) (by omega) (by decide)
  have c2 : SoundM Tryd.prog 75 [.own 0 0, .d (.int .i64 z), .d (.int .i64 10)] [(0, .row 5 1 (bys []))] (.own 0 (decI z).length) [(0, .row 5 1 (bys (decI z)))] 1 := by
    rw [List.nil_append, List.length_nil, Nat.zero_add] at c
    refine SoundM.run (N := 21) (ks := [0]) Tryd.func75 rfl (by kernel_rfl) rfl rfl rfl (by first | exact argsA_0 | exact argsA_1 | exact argsA_2 | exact argsA_3 | exact argsA_4 | exact argsA_5 | exact argsA_6) fun X_ ν_ w_ => ?_
    have c0_ := c; refine goX @e1 ?_; first | exact trivial | skip
  refine SoundM.run (N := 11) (ks := [3000]) Tryd.func52 rfl (by kernel_rfl) rfl rfl rfl (by first | exact argsA_0 | exact argsA_1 | exact argsA_2 | exact argsA_3 | exact argsA_4 | exact argsA_5 | exact argsA_6) fun X_ ν_ w_ => ?_
  refine WP_own 0 3000 5 1 rfl (by decide) (Nat.le_of_ble_eq_true rfl) ?_
  have c0_ := c2; refine goT ?_; first | exact trivial | skip
end Go.Eng.Tryd

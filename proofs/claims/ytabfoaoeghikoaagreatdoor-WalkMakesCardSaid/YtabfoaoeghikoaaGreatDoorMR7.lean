/- Numbers as text: strconv.AppendInt, of numbers not below 0. (and what stands behind it: texts laid together) -/
import Derived.Test.YtabfoaoeghikoaaGreatDoorMG4
import Derived.Test.YtabfoaoeghikoaaGreatDoorMR6
import Derived.Shelf.Strconv.AppendUint10
set_option linter.unusedVariables false
set_option linter.unusedSimpArgs false
namespace Go.Eng.Tryz
open Go Go.Eng Go.Proofs Go.RowKit
attribute [local go_sem] ty0 ty1 ty2 ty3 ty4 ty5 ty6 ty7 ty8 ty9 ty10 ty11 ty12 ty13 ty14 ty15 ty16 ty17 ty18
attribute [local go_sem] is_len is_get bys_len bys_snoc bys_app
theorem pSmall {u : Nat} (hu : u < 100) : Sound Tryz.prog 203 [.int .i64 u] (.str ⟨(Lib.decDigits u).toArray⟩) := by
  intro w M vs hW hM hl hv
  match vs, hl with
  | [v], _ =>
  have := hv 0 _ v rfl rfl
  cases this
  have L := Tryz.strcU
  have eg : ∀ args w, (callFunc 203 args).run Tryz.prog w = .ok (.enter 203 args) w := enters_of Tryz.func203 (by kernel_rfl) rfl
  have h := Any.internal_strconv_small (P := Tryz.prog) (ρ := Tryz.strcU_ren) { L with } u hu w
  refine .inr ⟨eg _ _, ?_⟩
  refine Calls.mono (P := Tryz.prog) h ?_
  rintro e w' ⟨rfl, rfl⟩
  exact ⟨_, rfl, .str _, Bl.refl _ _⟩
theorem pNumD {u : Nat} (h1 : 1 ≤ u) (hu : u < 18446744073709551616) : Sound Tryz.prog 204 [.int .u64 u] (.int .i64 (Lib.nDigits u)) := by
  intro w M vs hW hM hl hv
  match vs, hl with
  | [v], _ =>
  have := hv 0 _ v rfl rfl
  cases this
  have L := Tryz.strcU
  have eg : ∀ args w, (callFunc 204 args).run Tryz.prog w = .ok (.enter 204 args) w := enters_of Tryz.func204 (by kernel_rfl) rfl
  have h := Any.internal_strconv_numDigits (P := Tryz.prog) (ρ := Tryz.strcU_ren) { L with } u h1 hu w hW
  refine .inr ⟨eg _ _, ?_⟩
  refine Calls.mono (P := Tryz.prog) h ?_
  rintro e w' ⟨rfl, rfl⟩
  exact ⟨_, rfl, .int _ _, Bl.refl _ _⟩
/-- A number's digits, as bytes. -/
def decI (u : Nat) : List Int := (Lib.decDigits u).map fun b => (b.toNat : Int)
def zc (n : Nat) : List AV := List.replicate n (.d (.int .u8 0))
def bysA (l : List Int) : List AV := l.map fun z => .d (.int .u8 z)
theorem putRow_setRow {α : Type} [Inhabited α] (enc : α → Value) (w : World) (b : Nat) (d : Array α) {cells : Array Value} {e : TypeId} (hg : w.heap[b]? = some (.cells cells e (0, 0))) : Sort.putRow enc w b 0 d = w.setRow b (Sort.putCells enc 0 d cells) := by
  unfold Sort.putRow Sort.mapBlock World.setRow
  congr 1
  apply Array.ext_getElem?
  intro i
  simp only [Array.getElem?_modify]
  split
  · rename_i h
    subst h
    rw [hg]
    rfl
  · rfl
theorem nDigits_le {u : Nat} (h1 : 1 ≤ u) (hu : u < 18446744073709551616) : Lib.nDigits u ≤ 20 := by have := Lib.numDigits_eq u h1 hu; split at this <;> omega
set_option maxRecDepth 100000 in
theorem pFmt {u : Nat} (h1 : 1 ≤ u) (hu : u < 18446744073709551616) : SoundM Tryz.prog 205 [.vs 0 0 (Lib.nDigits u), .d (.int .u64 u)] [(0, .var (zc 24))] (.tup []) [(0, .var (bysA (decI u) ++ zc (24 - Lib.nDigits u)))] 1 := by
  have hnd := nDigits_le h1 hu
  have hdl := Lib.decDigits_length u
  intro X ν w vs hI hl hv
  match vs, hl with
  | [v0, v1], _ =>
  have r0 := hv 0 _ v0 rfl rfl
  have r1 := hv 1 _ v1 rfl rfl
  have ho : lk [(0, HO.var (zc 24))] 0 = some (.var (zc 24)) := rfl
  cases r1 with
  | d r1 =>
  cases r1
  cases r0 with
  | @vs _ _ _ c a hu0 hc h =>
  obtain ⟨cs, b, he, hν, rfl, hle⟩ := h _ ho
  cases he
  obtain ⟨b', cells, e, hv0, hg, hlen, hcell, hr⟩ := hI.obj _ _ ho
  rw [hν] at hv0
  cases hv0
  have hcs : cells.size = 24 := by simpa [zc] using hlen
  have hcv : ∀ j, j < 24 → cells[j]? = some (.int .u8 0) := fun j hj => by
    have hx : (zc 24)[j]? = some (.d (.int .u8 0)) := by unfold zc; rw [List.getElem?_replicate, if_pos hj]
    have hy := Array.getElem?_eq_getElem (xs := cells) (i := j) (by omega)
    have hr' := hr j _ _ hx hy
    generalize cells[j] = u' at hy hr'
    cases hr' with
    | d hr' => cases hr'; exact hy
  let enc : UInt8 → Value := fun b => .int .u8 (b.toNat : Int)
  have hH : Sort.Holds enc w b 0 (Array.replicate (Lib.nDigits u) 0) := fun j hj => by
    rw [Array.size_replicate] at hj
    refine ⟨?_, by simp [World.frozen?, hg]⟩
    have e1 : (Array.replicate (Lib.nDigits u) (0 : UInt8))[j]! = 0 := by rw [getElem!_pos _ j (by simpa using hj)]; simp
    rw [e1]
    have := hcv j (by omega)
    have h2 := cell_at hg this 0 j (by omega)
    have e3 : (⟨b, 0 + j, none⟩ : Addr) = (⟨b, 0, none⟩ : Addr).add j := by unfold Addr.add; by_cases h : j = 0 <;> simp [h]
    rw [e3, h2]
    rfl
  have L := Tryz.strcU
  have eg : ∀ args w, (callFunc 205 args).run Tryz.prog w = .ok (.enter 205 args) w := enters_of Tryz.func205 (by kernel_rfl) rfl
  have hcon := Any.internal_strconv_formatBase10 (P := Tryz.prog) (ρ := Tryz.strcU_ren) { L with } b 0 c u (Array.replicate (Lib.nDigits u) 0) w hH (by rw [Array.size_replicate]; exact Lib.lt_pow_nDigits u) hu (by rw [Array.size_replicate]; omega)
  rw [Array.size_replicate] at hcon
  refine ⟨eg _ _, ?_⟩
  refine Calls.mono (P := Tryz.prog) hcon ?_
  rintro ex w' ⟨rfl, n, v', dk, rfl, hF⟩
  rw [putRow_setRow enc w b dk hg]
  have hb : hasB (ν 0) b := by rw [hν]; exact rfl
  have hsz := hF.size
  obtain ⟨g1, g2⟩ := hI.write (o' := .var (bysA (decI u) ++ zc (24 - Lib.nDigits u))) ho hb (Sort.putCells enc 0 dk cells) (by simp [HO.later, zc, bysA, decI]; omega)
    (fun M' H' hx' => by
      refine ⟨b, Sort.putCells enc 0 dk cells, e, hν, setRow_heap _ _ _ _ _ _ hg, by simp [Sort.putCells, zc, bysA, decI]; omega, fun q hq => ?_, fun i av u' hi hu' => ?_⟩
      · simp only [List.mem_append, bysA, zc, List.mem_map] at hq
        rcases hq with ⟨z, _, rfl⟩ | hq
        · rfl
        · rw [List.eq_of_mem_replicate hq]; rfl
      · simp only [Sort.putCells, Array.getElem?_mapIdx] at hu'
        by_cases hin : i < Lib.nDigits u
        · rw [List.getElem?_append_left (by simp [bysA, decI]; omega)] at hi
          simp only [bysA, decI, List.map_map, List.getElem?_map] at hi
          rw [List.getElem?_eq_getElem (by omega : i < (Lib.decDigits u).length)] at hi
          simp only [Option.map_some, Option.some.injEq, Function.comp] at hi
          subst hi
          rw [hcv i (by omega)] at hu'
          simp only [Option.map_some, Option.some.injEq] at hu'
          rw [if_pos (by omega)] at hu'
          subst hu'
          have := Lib.row_is_numeral hF i (by omega)
          rw [Nat.sub_zero]
          show RepA _ _ _ _ _ _ (Value.int .u8 ((dk[i]!).toNat : Int))
          rw [← this]
          exact .d (.int _ _)
        · rw [List.getElem?_append_right (by simp [bysA, decI]; omega)] at hi
          have hl24 := (List.getElem?_eq_some_iff.1 hi).1
          simp [zc, bysA, decI] at hl24
          have := List.mem_of_getElem? hi
          rw [List.eq_of_mem_replicate this]
          rw [hcv i (by omega)] at hu'
          simp only [Option.map_some, Option.some.injEq] at hu'
          rw [if_neg (by omega)] at hu'
          subst hu'
          exact .d (.int _ _))
  have hbl : Bl (w.setRow b (Sort.putCells enc 0 dk cells)).heap.size (w.setRow b (Sort.putCells enc 0 dk cells)) ((w.setRow b (Sort.putCells enc 0 dk cells)).drewN n) := by
    clear g1 g2
    induction n with
    | zero => exact Bl.refl _ _
    | succ n ih => exact ih.drew
  obtain ⟨i1, x1⟩ := g1.world hbl
  refine ⟨.tuple #[], ν, 1, rfl, i1, g2.trans x1, .tup rfl (fun i d v hd => by simp at hd)⟩
theorem strD_dec (u : Nat) : strD ⟨(Lib.decDigits u).toArray⟩ = bys (decI u) := by simp [strD, bys, decI, List.map_map, Function.comp_def]
theorem decI_len (u : Nat) : (decI u).length = (Lib.decDigits u).length := by simp [decI]
theorem decI_20 {u : Nat} (hu : u < 18446744073709551616) : 1 ≤ (decI u).length ∧ (decI u).length ≤ 20 := by
  rw [decI_len, Lib.decDigits_length]
  by_cases h : 1 ≤ u
  · have := nDigits_le h hu
    have h2 := Lib.decDigits_length u
    refine ⟨?_, this⟩
    rw [← h2]
    unfold Lib.decDigits
    split <;> simp
  · have : u = 0 := by omega
    subst this
    rw [← Lib.decDigits_length]
    have : Lib.decDigits 0 = [48] := by unfold Lib.decDigits; rfl
    rw [this]; decide
theorem str_size (u : Nat) : (⟨(Lib.decDigits u).toArray⟩ : ByteArray).size = (decI u).length := by simp [decI, ByteArray.size]
theorem cellsD_bysA : ∀ (l : List Int), cellsD (bysA l) = some (bys l)
  | [] => rfl
  | z :: l => by simp only [bysA, List.map_cons, cellsD]; have := cellsD_bysA l; simp only [bysA] at this; rw [this]; rfl
/-- The array's cells, one by one. -/
def dz (u i : Nat) : Int := if i < Lib.nDigits u then (((Lib.decDigits u)[i]!).toNat : Int) else 0
def dl (u : Nat) : List AV := [.d (.int .u8 (dz u 0)), .d (.int .u8 (dz u 1)), .d (.int .u8 (dz u 2)), .d (.int .u8 (dz u 3)), .d (.int .u8 (dz u 4)), .d (.int .u8 (dz u 5)), .d (.int .u8 (dz u 6)), .d (.int .u8 (dz u 7)), .d (.int .u8 (dz u 8)), .d (.int .u8 (dz u 9)), .d (.int .u8 (dz u 10)), .d (.int .u8 (dz u 11)), .d (.int .u8 (dz u 12)), .d (.int .u8 (dz u 13)), .d (.int .u8 (dz u 14)), .d (.int .u8 (dz u 15)), .d (.int .u8 (dz u 16)), .d (.int .u8 (dz u 17)), .d (.int .u8 (dz u 18)), .d (.int .u8 (dz u 19)), .d (.int .u8 (dz u 20)), .d (.int .u8 (dz u 21)), .d (.int .u8 (dz u 22)), .d (.int .u8 (dz u 23))]
theorem dl_range (u : Nat) : dl u = (List.range 24).map fun i => .d (.int .u8 (dz u i)) := rfl
theorem rns_dl (σ : Nat → Nat) (u : Nat) : rns σ (dl u) = dl u := rfl
attribute [local go_sem] rns_dl
theorem dl_eq {u : Nat} (hnd : Lib.nDigits u ≤ 20) : bysA (decI u) ++ zc (24 - Lib.nDigits u) = dl u := by
  have hdl := Lib.decDigits_length u
  rw [dl_range]
  apply List.ext_getElem
  · simp [bysA, decI, zc]; omega
  · intro i h1 h2
    simp only [List.length_map, List.length_range] at h2
    rw [List.getElem_map, List.getElem_range]
    unfold dz
    by_cases h : i < Lib.nDigits u
    · rw [List.getElem_append_left (by simp [bysA, decI]; omega), if_pos h, getElem!_pos _ i (by omega)]
      simp [bysA, decI]
    · rw [List.getElem_append_right (by simp [bysA, decI]; omega), if_neg h]
      simp [zc]
set_option maxHeartbeats 4000000 in
set_option maxRecDepth 10000 in
theorem pAppU {b : List Int} {u : Nat} (hu : u < 18446744073709551616) (hb : b.length ≤ 1000000) : SoundM Tryz.prog 181 [.own 0 b.length, .d (.int .u64 u), .d (.int .i64 10)] [(0, .row 5 1 (bys b))] (.own 0 (b.length + (decI u).length)) [(0, .row 5 1 (bys (b ++ decI u)))] 1 := by
  obtain ⟨hd1, hd2⟩ := decI_20 hu
  have hss := str_size u
  by_cases h : u < 100
  · have c := pSmall h
    have e1 : IntKind.i64.wrap (u : Int) = u := by simp [IntKind.wrap, IntKind.bits, IntKind.signed]; omega
    have hsd : List.map (fun b : UInt8 => D.int .u8 (b.toNat : Int)) (⟨(Lib.decDigits u).toArray⟩ : ByteArray).data.toList = bys (decI u) := strD_dec u
    have hsl : (⟨(Lib.decDigits u).toArray⟩ : ByteArray).data.toList.length = (decI u).length := by simp [decI]
    generalize (⟨(Lib.decDigits u).toArray⟩ : ByteArray) = st at c hss hsd hsl
    refine SoundM.run (N := 36) (ks := [0]) Tryz.func181 rfl (by kernel_rfl) rfl rfl rfl (by first | exact argsA_0 | exact argsA_1 | exact argsA_2 | exact argsA_3 | exact argsA_4 | exact argsA_5 | exact argsA_6) fun X_ ν_ w_ => ?_
    have c0_ := c; refine goX (And.intro @e1 (And.intro @hss (And.intro @hsd @hsl))) ?_; first | exact trivial | skip
  · have c1 := pNumD (u := u) (by omega) hu
    have c2 := pFmt (u := u) (by omega) hu
    have hnd := nDigits_le (u := u) (by omega) hu
    have hdn : (decI u).length = Lib.nDigits u := by rw [decI_len, Lib.decDigits_length]
    rw [dl_eq hnd] at c2
    have e3 : cellsD ((dl u).take (decI u).length) = some (bys (decI u)) := by
      rw [← dl_eq hnd, List.take_append_of_le_length (by simp [bysA]), List.take_of_length_le (by simp [bysA]), cellsD_bysA]
    have e4 : (dl u).length = 24 := rfl
    have e5 : (bys (decI u)).all D.flat = true := by rw [List.all_eq_true]; intro x hx; obtain ⟨z, _, rfl⟩ := List.mem_map.1 hx; rfl
    rw [← hdn] at c1 c2 hnd
    refine SoundM.run (N := 36) (ks := [0]) Tryz.func181 rfl (by kernel_rfl) rfl rfl rfl (by first | exact argsA_0 | exact argsA_1 | exact argsA_2 | exact argsA_3 | exact argsA_4 | exact argsA_5 | exact argsA_6) fun X_ ν_ w_ => ?_
    have c0_ := c1; have c1_ := c2; repeat (first | with_reducible exact Ev.nil | with_reducible exact gd_n | ((with_reducible apply lk_ok); rfl) | ((with_reducible apply gslot_ok); rfl) | ((with_reducible apply v2d_ok); rfl) | with_reducible apply then_n | with_reducible apply WP_seq | with_reducible apply WP_skip | ((with_reducible apply WP_r (N := 36) rfl rfl); (focus simp only [Nat.reduceAdd] <;> rfl)) | ((with_reducible apply WP_d (N := 36) mixed rfl rfl); (focus simp only [Nat.reduceAdd] <;> rfl)) | ((with_reducible apply Ev_s); (focus first | (apply gd_u; (focus rfl); rfl) | (apply gd_f; (focus rfl); (focus rfl); rfl))) | ((with_reducible apply Ev_sn); (focus first | (apply gd_u; (focus rfl); rfl) | (apply gd_f; (focus rfl); (focus rfl); rfl))) | with_reducible apply gd_t | with_reducible apply Ev_mv | with_reducible apply Ev_as | with_reducible apply Ev_mc | with_reducible apply Ev_ac | ((first | (with_reducible apply Ev_pt) | (with_reducible apply Ev_ptc)); (focus rfl)) | ((first | (with_reducible apply Ev_pf) | (with_reducible apply Ev_pfc)); (focus rfl)) | (apply Ev_cf; (focus simp (disch := omega) only [go_sem, e3, e4, e5, List.drop_zero] <;> rfl); (focus first | exact c0_ | exact c1_); (focus rfl); (focus first | (simp (disch := omega) only [go_sem, e3, e4, e5, List.drop_zero] <;> rfl) | rfl)) | ((with_reducible apply Ev_d); (focus simp only [Nat.reduceAdd] <;> rfl); (focus simp (disch := omega) only [go_sem, e3, e4, e5, List.drop_zero] <;> rfl)) | (apply Ev_cv; (focus rfl); (focus simp (disch := omega) only [go_sem, e3, e4, e5, List.drop_zero] <;> rfl); (focus first | exact c0_ | exact c1_); (iterate 3 (focus first | (simp (disch := omega) only [go_sem, e3, e4, e5, List.drop_zero] <;> rfl) | rfl))) | ((first | apply Ev_cmd | apply Ev_cmn); (focus simp only [Nat.reduceAdd] <;> rfl); (focus rfl); (iterate 2 (focus simp (disch := omega) only [go_sem, e3, e4, e5, List.drop_zero] <;> rfl)); (first | ((focus first | exact c0_ | exact c1_); (iterate 2 (focus first | (simp (disch := omega) only [go_sem, e3, e4, e5, List.drop_zero] <;> rfl) | rfl)); (focus rfl); (iterate 3 (focus first | (simp (disch := omega) only [go_sem, e3, e4, e5, List.drop_zero] <;> rfl) | rfl))))) | ((first | (with_reducible apply Ev_od) | (with_reducible apply Ev_on)); (focus simp only [Nat.reduceAdd] <;> rfl); (focus simp (disch := omega) only [go_sem, e3, e4, e5, List.drop_zero] <;> rfl); (focus first | (simp (disch := omega) only [go_sem, e3, e4, e5, List.drop_zero] <;> rfl) | rfl)) | with_reducible apply endM_n | with_reducible apply endM_r | with_reducible apply then_r | with_reducible apply then_x | with_reducible apply block_n | with_reducible apply block_r | with_reducible apply block_x | with_reducible apply block_y rfl | with_reducible apply scope_n | with_reducible apply scope_r | with_reducible apply scope_x | with_reducible apply end_n | with_reducible apply end_r | with_reducible apply WP_block | with_reducible apply WP_exit | with_reducible apply WP_ret | with_reducible apply WP_label | with_reducible apply WP_scope | ((with_reducible apply WP_t); (focus first | (simp (disch := omega) only [go_sem, e3, e4, e5, List.drop_zero] <;> rfl) | rfl)) | ((with_reducible apply WP_f); (focus first | (simp (disch := omega) only [go_sem, e3, e4, e5, List.drop_zero] <;> rfl) | rfl)) | ((with_reducible apply resD_t); (focus rfl)) | ((with_reducible apply resD_2); (focus rfl); (focus rfl)) | (with_reducible rfl) | ((with_reducible show List.map outKeys _ = _); simp only [List.map_cons, List.map_nil, outKeys, keys]; rfl) | ((with_reducible show orderOk _ _ = true); kernel_rfl) | ((with_reducible show _ = _); simp (disch := omega) only [go_sem, e3, e4, e5, List.drop_zero] <;> rfl) | ((fail_if_success (with_reducible show Ev _ _ _ _ (_ :: _) _ _ _ _ _)); (show Ev _ _ _ _ (_ :: _) _ _ _ _ _)) | fail)
set_option maxHeartbeats 4000000 in
set_option maxRecDepth 10000 in
theorem pAppI {b : List Int} {z : Nat} (hz : z ≤ 9223372036854775807) (hb : b.length ≤ 1000000) : SoundM Tryz.prog 115 [.own 0 b.length, .d (.int .i64 z), .d (.int .i64 10)] [(0, .row 5 1 (bys b))] (.own 0 (b.length + (decI z).length)) [(0, .row 5 1 (bys (b ++ decI z)))] 1 := by
  have e1 : IntKind.u64.wrap (z : Int) = z := by simp [IntKind.wrap, IntKind.bits, IntKind.signed]; omega
  have c := pAppU (b := b) (u := z) (by omega) hb
  have c2 : SoundM Tryz.prog 160 [.own 0 b.length, .d (.int .i64 z), .d (.int .i64 10)] [(0, .row 5 1 (bys b))] (.own 0 (b.length + (decI z).length)) [(0, .row 5 1 (bys (b ++ decI z)))] 1 := by
    refine SoundM.run (N := 21) (ks := [0]) Tryz.func160 rfl (by kernel_rfl) rfl rfl rfl (by first | exact argsA_0 | exact argsA_1 | exact argsA_2 | exact argsA_3 | exact argsA_4 | exact argsA_5 | exact argsA_6) fun X_ ν_ w_ => ?_
    have c0_ := c; refine goX @e1 ?_; first | exact trivial | skip
  refine SoundM.run (N := 11) (ks := [0]) Tryz.func115 rfl (by kernel_rfl) rfl rfl rfl (by first | exact argsA_0 | exact argsA_1 | exact argsA_2 | exact argsA_3 | exact argsA_4 | exact argsA_5 | exact argsA_6) fun X_ ν_ w_ => ?_
  have c0_ := c2; refine goT ?_; first | exact trivial | skip
set_option maxHeartbeats 4000000 in
set_option maxRecDepth 10000 in
/-- Behind nothing. -/
theorem pAppI0 {z : Nat} (hz : z ≤ 9223372036854775807) : SoundM Tryz.prog 115 [.d .nils, .d (.int .i64 z), .d (.int .i64 10)] [] (.own 3000 (decI z).length) [(3000, .row 5 1 (bys (decI z)))] 0 := by
  have e1 : IntKind.u64.wrap (z : Int) = z := by simp [IntKind.wrap, IntKind.bits, IntKind.signed]; omega
  have c := pAppU (b := []) (u := z) (by omega) (by decide)
  have c2 : SoundM Tryz.prog 160 [.own 0 0, .d (.int .i64 z), .d (.int .i64 10)] [(0, .row 5 1 (bys []))] (.own 0 (decI z).length) [(0, .row 5 1 (bys (decI z)))] 1 := by
    rw [List.nil_append, List.length_nil, Nat.zero_add] at c
    refine SoundM.run (N := 21) (ks := [0]) Tryz.func160 rfl (by kernel_rfl) rfl rfl rfl (by first | exact argsA_0 | exact argsA_1 | exact argsA_2 | exact argsA_3 | exact argsA_4 | exact argsA_5 | exact argsA_6) fun X_ ν_ w_ => ?_
    have c0_ := c; refine goX @e1 ?_; first | exact trivial | skip
  refine SoundM.run (N := 11) (ks := [3000]) Tryz.func115 rfl (by kernel_rfl) rfl rfl rfl (by first | exact argsA_0 | exact argsA_1 | exact argsA_2 | exact argsA_3 | exact argsA_4 | exact argsA_5 | exact argsA_6) fun X_ ν_ w_ => ?_
  refine WP_own 0 3000 5 1 rfl (by decide) (Nat.le_of_ble_eq_true rfl) ?_
  have c0_ := c2; refine goT ?_; first | exact trivial | skip
end Go.Eng.Tryz

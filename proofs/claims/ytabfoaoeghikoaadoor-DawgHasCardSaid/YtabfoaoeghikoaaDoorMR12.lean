/- The least automaton, part 3: states that are alike are found. (and what stands behind it: texts laid together) -/
import Derived.Test.YtabfoaoeghikoaaDoorMG4
import Derived.Test.YtabfoaoeghikoaaDoorMR11
import Derived.Shelf.SlSortCmp.WholeK
import Derived.Shelf.SlGeneric
import Derived.Ground.SlsfProg
import Derived.Test.YtabfoaoeghikoaaDoorProg
import Derived.Test.YtabfoaoeghikoaaDoorMH1
set_option linter.unusedVariables false
set_option linter.unusedSimpArgs false
namespace Go.Eng.Tryd
open Go Go.Eng Go.Proofs Go.RowKit
open Go.Maps (Keyed)
attribute [local go_sem] tys
attribute [local go_sem] is_len is_get iss_len iss_get iss_snoc ars_len ars_get stas_len stas_get
theorem keyed_str : Keyed Tryd.prog 9 := Go.Maps.string_keyed Tryd.underlying9
theorem keyd_str {s : ByteArray} (hs : s.size ≤ maxLen) : KeyD Tryd.prog 9 (.str s) := by
  refine ⟨rfl, .string s, .string s.data.toList, fun w M => .str s, ?_⟩
  simp [keyOf, mapKey, Tryd.underlying9, hs]
/-- Classes: one of their states, the longest beginning's length, and the first one. -/
structure Cl where
  is_ : Int
  long : Int
  first : List Int
  deriving Inhabited
def clD (c : Cl) : D := .agg [.int .i64 c.is_, .int .i64 c.long, .sl 1 (is c.first)]
def cls (l : List Cl) : List D := l.map clD
theorem cls_len {l : List Cl} : (cls l).length = l.length := by simp [cls]
theorem cls_get {l : List Cl} {k : Nat} (h : k < l.length) : (cls l)[k]? = some (.agg [.int .i64 (l[k]!).is_, .int .i64 (l[k]!).long, .sl 1 (is (l[k]!).first)]) := by simp [cls, clD, List.getElem?_eq_getElem h, getElem!_pos l k h]
theorem cls_snoc {l : List Cl} {a b : Int} {w : List Int} : cls l ++ [.agg [.int .i64 a, .int .i64 b, .sl 1 (is w)]] = cls (l ++ [⟨a, b, w⟩]) := by simp [cls, clD]
theorem cls_set {l : List Cl} {k : Nat} {a b : Int} {w : List Int} : (cls l).set k (.agg [.int .i64 a, .int .i64 b, .sl 1 (is w)]) = cls (l.set k ⟨a, b, w⟩) := by simp [cls, clD, List.map_set]
attribute [local go_sem] cls_len cls_get cls_snoc cls_set
deriving instance DecidableEq for Sta
/-- What the merger knows. -/
structure MS where
  of : List Int
  names : List (Sta × Int)
  all : List Cl
def nget : List (Sta × Int) → Sta → Option Int
  | [], _ => none
  | x :: t, a => if x.1 = a then some x.2 else nget t a
def emn (m : List (Sta × Int)) : List (D × D) := m.map fun p => (.str (keyN p.1), .int .i64 p.2)
def SOk (s : Sta) : Prop := (∀ a ∈ s.arcs, 0 ≤ a.sign ∧ 0 ≤ a.to) ∧ (keyN s).size ≤ maxLen
theorem mget_emn {m : List (Sta × Int)} (hm : ∀ p ∈ m, SOk p.1) {s : Sta} (hs : SOk s) : mget (emn m) (.str (keyN s)) = (nget m s).map (D.int .i64) := by
  induction m with
  | nil => rfl
  | cons x t ih =>
    simp only [emn, List.map_cons, mget, nget]
    by_cases hx : x.1 = s
    · rw [if_pos hx, if_pos (by rw [hx])]; rfl
    · rw [if_neg hx, if_neg (fun e => hx (keyN_inj (hm x (by simp)).1 hs.1 (by simpa using e)))]
      exact ih fun p hp => hm p (by simp [hp])
theorem mput_emn {m : List (Sta × Int)} (hm : ∀ p ∈ m, SOk p.1) {s : Sta} (hs : SOk s) {z : Int} (h : nget m s = none) : mput (emn m) (.str (keyN s)) (.int .i64 z) = emn (m ++ [(s, z)]) := by
  induction m with
  | nil => rfl
  | cons x t ih =>
    simp only [nget] at h
    split at h
    · cases h
    · rename_i hx
      simp only [emn, List.map_cons, mput, List.cons_append]
      rw [if_neg (fun e => hx (keyN_inj (hm x (by simp)).1 hs.1 (by simpa using e)))]
      exact congrArg _ (ih (fun p hp => hm p (by simp [hp])) h)
theorem emn_ok {m : List (Sta × Int)} (hm : ∀ p ∈ m, SOk p.1) (hn : (m.map (·.1)).Nodup) {s : Sta} (hs : SOk s) : MapOk Tryd.prog 9 (emn m) (.str (keyN s)) := by
  refine ⟨keyed_str, keyd_str hs.2, fun p hp => ?_, ?_⟩
  · obtain ⟨r, hr, rfl⟩ := List.mem_map.1 hp
    exact keyd_str (hm r hr).2
  · unfold emn
    rw [List.map_map, List.Nodup, List.pairwise_map]
    rw [List.Nodup, List.pairwise_map] at hn
    exact hn.imp_of_mem fun {a b} ha hb hne he => hne (keyN_inj (hm a ha).1 (hm b hb).1 (by simpa using he))
/-- One state more is put into its class. -/
def mstep (l : List Sta) (B : List (List Int)) (s : MS) (i : Nat) : MS :=
  match nget s.names (keyS s.of (l[i]!)) with
  | some c => ⟨s.of.set i c, s.names, s.all.set c.toNat ⟨(s.all[c.toNat]!).is_, max (s.all[c.toNat]!).long (B[i]!).length, if wcmp (B[i]!) (s.all[c.toNat]!).first < 0 then B[i]! else (s.all[c.toNat]!).first⟩⟩
  | none => ⟨s.of.set i s.all.length, s.names ++ [(keyS s.of (l[i]!), (s.all.length : Int))], s.all ++ [⟨i, (B[i]!).length, B[i]!⟩]⟩
/-- What holds of it all the time. -/
structure MOk (l : List Sta) (B : List (List Int)) (s : MS) : Prop where
  len : s.of.length = l.length
  of : OfOk s.of
  few : s.all.length ≤ l.length
  nok : ∀ p ∈ s.names, SOk p.1
  nd : (s.names.map (·.1)).Nodup
  val : ∀ p ∈ s.names, 0 ≤ p.2 ∧ p.2 < s.all.length
  fst : ∀ c ∈ s.all, c.first.length ≤ 1000000 ∧ 0 ≤ c.long ∧ c.long ≤ 1000000
theorem nget_mem {m : List (Sta × Int)} {s : Sta} {z : Int} (h : nget m s = some z) : (s, z) ∈ m := by
  induction m with
  | nil => cases h
  | cons x t ih =>
    simp only [nget] at h
    split at h
    · rename_i e
      cases h
      obtain ⟨a, b⟩ := x
      simp only at e
      subst e
      simp
    · exact List.mem_cons_of_mem _ (ih h)
def Hm (l : List Sta) (B : List (List Int)) (s : MS) : Heap := [(0, .var [.d (.sl 2 (stas l)), .d (.sl 1 (iss B)), .own 1 s.of.length, .map 2, .own 3 s.all.length]), (1, .row 3 1 (is s.of)), (2, .map 9 3 (emn s.names)), (3, .row 55 3 (cls s.all))]
theorem if_maxI {a b : Int} : (if b > a then b else a) = max a b := by split <;> omega
set_option maxHeartbeats 16000000 in
set_option maxRecDepth 10000 in
theorem pMerge {l : List Sta} {B : List (List Int)} {s : MS} {i : Nat} (hl1 : l.length ≤ 6001) (hi : i < l.length) (hB : B.length = l.length) (hBl : ∀ w ∈ B, w.length ≤ 6001) (hs : ∀ a ∈ (l[i]!).arcs, 0 ≤ a.sign ∧ a.sign ≤ 1114111 ∧ 0 ≤ a.to ∧ a.to < l.length) (hal : (l[i]!).arcs.length ≤ 10000) (hm : MOk l B s) :
    SoundM Tryd.prog 17 [.ref 0 0, .d (.int .i64 i)] (Hm l B s) (.tup []) (Hm l B (mstep l B s i)) 4 := by
  obtain ⟨h1, h2, h3, h4, h5, h6, h7⟩ := hm
  have hkn : SOk (keyS s.of (l[i]!)) := by
    refine ⟨fun a ha => ?_, ?_⟩
    · obtain ⟨x, hx, rfl⟩ := List.mem_map.1 ha
      obtain ⟨g1, g2, g3, g4⟩ := hs x hx
      have := h2.get (k := x.to.toNat) (by omega)
      exact ⟨g1, this.1⟩
    · have hnl := nameB_len (keyS s.of (l[i]!)).final (keyS s.of (l[i]!)).arcs (fun a ha => by
        obtain ⟨x, hx, rfl⟩ := List.mem_map.1 ha
        obtain ⟨g1, g2, g3, g4⟩ := hs x hx
        have := h2.get (k := x.to.toNat) (by omega)
        simp only [reOf]; omega)
      have e1 : (keyN (keyS s.of (l[i]!))).size = (nameS (keyS s.of (l[i]!))).length := by simp [keyN, bytesOf, ByteArray.size]
      have e2 : (keyS s.of (l[i]!)).arcs.length = (l[i]!).arcs.length := by simp [keyS]
      rw [e1]
      simp only [maxLen]
      unfold nameS
      omega
  have cn := pName (s := l[i]!) (of := s.of) (d0 := .sl 2 (stas l)) (d1 := .sl 1 (iss B)) (m := s.all.length) (kt2 := 9) (et2 := 3) (es2 := emn s.names) (e3 := 55) (sz3 := 3) (xs3 := cls s.all) h2 (fun a ha => by have := hs a ha; omega) hal
  have mk := eq_true (emn_ok h4 h5 hkn)
  have mg := mget_emn h4 hkn
  have hBi : (B[i]!).length ≤ 6001 := by rw [getElem!_pos B i (by omega)]; exact hBl _ (List.getElem_mem _)
  have hset : ∀ x, (is s.of).set i (.int .i64 x) = is (s.of.set i x) := fun x => by simp [is, List.map_set]
  have hsl : ∀ x, (s.of.set i x).length = s.of.length := fun x => List.length_set ..
  cases hg : nget s.names (keyS s.of (l[i]!)) with
  | none =>
    rw [hg] at mg
    simp only [Option.map_none] at mg
    have hput : mput (emn s.names) (.str (keyN (keyS s.of (l[i]!)))) (.int .i64 (s.all.length : Int)) = emn (s.names ++ [(keyS s.of (l[i]!), (s.all.length : Int))]) := mput_emn h4 hkn hg
    have em : mstep l B s i = ⟨s.of.set i s.all.length, s.names ++ [(keyS s.of (l[i]!), (s.all.length : Int))], s.all ++ [⟨i, (B[i]!).length, B[i]!⟩]⟩ := by unfold mstep; rw [hg]
    rw [em]
    unfold Hm
    generalize keyN (keyS s.of (l[i]!)) = key at cn mk mg hput
    generalize s.names ++ [(keyS s.of (l[i]!), (s.all.length : Int))] = names' at hput ⊢
    have cl := orderLess (a := B[i]!) (b := B[i]!) (by omega) (by omega)
    rw [decide_eq_false (wcmp_lt_irr _)] at cl
    have hlast : (s.all ++ [(⟨i, (B[i]!).length, B[i]!⟩ : Cl)])[s.all.length]! = ⟨i, (B[i]!).length, B[i]!⟩ := by simp
    have hll : (s.all ++ [(⟨i, (B[i]!).length, B[i]!⟩ : Cl)]).length = s.all.length + 1 := by simp
    have hset2 : (s.all ++ [(⟨i, (B[i]!).length, B[i]!⟩ : Cl)]).set s.all.length ⟨i, (B[i]!).length, B[i]!⟩ = s.all ++ [⟨i, (B[i]!).length, B[i]!⟩] := by simp
    refine SoundM.run (N := 116) (ks := [0, 1, 2, 3]) Tryd.func17 rfl (by kernel_rfl) rfl rfl rfl (by first | exact argsA_0 | exact argsA_1 | exact argsA_2 | exact argsA_3 | exact argsA_4 | exact argsA_5 | exact argsA_6) fun X_ ν_ w_ => ?_
    have c0_ := cn; have c1_ := cl; refine goX (And.intro @mk (And.intro @mg (And.intro @hput (And.intro @hset (And.intro @hsl (And.intro @h1 (And.intro @hB (And.intro @hlast (And.intro @hset2 (And.intro @Int.max_self @if_maxI)))))))))) ?_; first | exact trivial | skip
  | some c =>
    rw [hg] at mg
    simp only [Option.map_some] at mg
    have hv := h6 _ (nget_mem hg)
    simp only at hv
    obtain ⟨q, rfl⟩ := Int.eq_ofNat_of_zero_le hv.1
    have hq : q < s.all.length := by omega
    have hf := h7 (s.all[q]!) (by rw [getElem!_pos s.all q hq]; exact List.getElem_mem hq)
    have cl := orderLess (a := B[i]!) (b := (s.all[q]!).first) (by omega) (by omega)
    have em : mstep l B s i = ⟨s.of.set i q, s.names, s.all.set q ⟨(s.all[q]!).is_, max (s.all[q]!).long (B[i]!).length, if wcmp (B[i]!) (s.all[q]!).first < 0 then B[i]! else (s.all[q]!).first⟩⟩ := by unfold mstep; rw [hg]; rfl
    rw [em]
    unfold Hm
    generalize keyN (keyS s.of (l[i]!)) = key at cn mk mg
    have g1 : (s.all.set q (⟨(s.all[q]!).is_, max (s.all[q]!).long (B[i]!).length, (s.all[q]!).first⟩ : Cl))[q]! = ⟨(s.all[q]!).is_, max (s.all[q]!).long (B[i]!).length, (s.all[q]!).first⟩ := by rw [getB_setI hq, if_pos rfl]
    have g2 : ∀ x y : Cl, (s.all.set q x).set q y = s.all.set q y := fun x y => List.set_set ..
    have g3 : ∀ x : Cl, (s.all.set q x).length = s.all.length := fun x => List.length_set ..
    have hq3 : q < (s.all.set q (⟨(s.all[q]!).is_, max (s.all[q]!).long (B[i]!).length, (s.all[q]!).first⟩ : Cl)).length := by rw [g3]; exact hq
    by_cases hw : wcmp (B[i]!) (s.all[q]!).first < 0
    · rw [decide_eq_true hw] at cl
      rw [if_pos hw]
      refine SoundM.run (N := 116) (ks := [0, 1, 2, 3]) Tryd.func17 rfl (by kernel_rfl) rfl rfl rfl (by first | exact argsA_0 | exact argsA_1 | exact argsA_2 | exact argsA_3 | exact argsA_4 | exact argsA_5 | exact argsA_6) fun X_ ν_ w_ => ?_
      have c0_ := cn; have c1_ := cl; refine goX (And.intro @mk (And.intro @mg (And.intro @hset (And.intro @hsl (And.intro @h1 (And.intro @hB (And.intro @g1 (And.intro @g2 (And.intro @g3 (And.intro @if_maxI @Int.toNat_natCast)))))))))) ?_; first | exact trivial | skip
    · rw [decide_eq_false hw] at cl
      rw [if_neg hw]
      refine SoundM.run (N := 116) (ks := [0, 1, 2, 3]) Tryd.func17 rfl (by kernel_rfl) rfl rfl rfl (by first | exact argsA_0 | exact argsA_1 | exact argsA_2 | exact argsA_3 | exact argsA_4 | exact argsA_5 | exact argsA_6) fun X_ ν_ w_ => ?_
      have c0_ := cn; have c1_ := cl; refine goX (And.intro @mk (And.intro @mg (And.intro @hset (And.intro @hsl (And.intro @h1 (And.intro @hB (And.intro @g1 (And.intro @g2 (And.intro @g3 (And.intro @if_maxI @Int.toNat_natCast)))))))))) ?_; first | exact trivial | skip
end Go.Eng.Tryd
namespace Go.Proofs
open Go.Shelf Go.RowKit Go.Lib Go.Sort
def Tryd.sortInt_ren : Go.Shelf.Ren := ⟨fun | 6 => 18 | 15 => 40 | 14 => 39 | 28 => 61 | 29 => 62 | 20 => 53 | 21 => 54 | 22 => 55 | 23 => 56 | 24 => 57 | 25 => 58 | 26 => 59 | 27 => 60 | 46 => 76 | 47 => 77 | 48 => 78 | 49 => 79 | 50 => 80 | 57 => 87 | n => n, fun | 22 => 36 | 24 => 3 | 25 => 53 | 3 => 3 | 39 => 75 | 0 => 0 | 53 => 92 | 55 => 94 | 4 => 4 | 46 => 86 | 45 => 85 | 50 => 39 | 5 => 5 | 9 => 9 | 66 => 103 | 70 => 107 | 76 => 113 | 77 => 114 | n => n, fun | n => n⟩
theorem Tryd.sortInt : Go.Proofs.SlLaysF.n6 Tryd.prog Tryd.sortInt_ren := {
  mixed := by kernel_rfl
  f6 := ⟨Tryd.f18.name, by decide, Tryd.func18.trans (congrArg some (by kernel_rfl))⟩
  f14 := ⟨Tryd.f39.name, by decide, Tryd.func39.trans (congrArg some (by kernel_rfl))⟩
  f15 := Tryd.func40.trans (congrArg some (by kernel_rfl))
  f20 := ⟨Tryd.f53.name, by decide, Tryd.func53.trans (congrArg some (by kernel_rfl))⟩
  f21 := ⟨Tryd.f54.name, by decide, Tryd.func54.trans (congrArg some (by kernel_rfl))⟩
  f22 := ⟨Tryd.f55.name, by decide, Tryd.func55.trans (congrArg some (by kernel_rfl))⟩
  f23 := ⟨Tryd.f56.name, by decide, Tryd.func56.trans (congrArg some (by kernel_rfl))⟩
  f24 := ⟨Tryd.f57.name, by decide, Tryd.func57.trans (congrArg some (by kernel_rfl))⟩
  f25 := ⟨Tryd.f58.name, by decide, Tryd.func58.trans (congrArg some (by kernel_rfl))⟩
  f26 := ⟨Tryd.f59.name, by decide, Tryd.func59.trans (congrArg some (by kernel_rfl))⟩
  f27 := ⟨Tryd.f60.name, by decide, Tryd.func60.trans (congrArg some (by kernel_rfl))⟩
  f28 := Tryd.func61.trans (congrArg some (by kernel_rfl))
  f29 := Tryd.func62.trans (congrArg some (by kernel_rfl))
  f46 := ⟨Tryd.f76.name, by decide, Tryd.func76.trans (congrArg some (by kernel_rfl))⟩
  f47 := Tryd.func77.trans (congrArg some (by kernel_rfl))
  f48 := Tryd.func78.trans (congrArg some (by kernel_rfl))
  f49 := ⟨Tryd.f79.name, by decide, Tryd.func79.trans (congrArg some (by kernel_rfl))⟩
  f50 := ⟨Tryd.f80.name, by decide, Tryd.func80.trans (congrArg some (by kernel_rfl))⟩
  f57 := ⟨Tryd.f87.name, by decide, Tryd.func87.trans (congrArg some (by kernel_rfl))⟩
  t0 := Tryd.underlying0
  a0 := Tryd.isAgg0
  z0 := Tryd.sizeOf0
  v0 := Tryd.zeroValue0
  t3 := Tryd.underlying3
  a3 := Tryd.isAgg3
  z3 := Tryd.sizeOf3
  v3 := Tryd.zeroValue3
  t4 := Tryd.underlying4
  a4 := Tryd.isAgg4
  z4 := Tryd.sizeOf4
  v4 := Tryd.zeroValue4
  t5 := Tryd.underlying5
  a5 := Tryd.isAgg5
  z5 := Tryd.sizeOf5
  v5 := Tryd.zeroValue5
  t9 := Tryd.underlying9
  a9 := Tryd.isAgg9
  z9 := Tryd.sizeOf9
  v9 := Tryd.zeroValue9
  t22 := Tryd.underlying36
  a22 := Tryd.isAgg36
  z22 := Tryd.sizeOf36
  v22 := Tryd.zeroValue36
  a24 := Tryd.isAgg3
  z24 := Tryd.sizeOf3
  t25 := Tryd.underlying53
  a25 := Tryd.isAgg53
  z25 := Tryd.sizeOf53
  v25 := Tryd.zeroValue53
  t39 := Tryd.underlying75
  a39 := Tryd.isAgg75
  z39 := Tryd.sizeOf75
  v39 := Tryd.zeroValue75
  t45 := Tryd.underlying85
  a45 := Tryd.isAgg85
  z45 := Tryd.sizeOf85
  v45 := Tryd.zeroValue85
  t46 := Tryd.underlying86
  a46 := Tryd.isAgg86
  z46 := Tryd.sizeOf86
  v46 := Tryd.zeroValue86
  t50 := Tryd.underlying39
  a50 := Tryd.isAgg39
  z50 := Tryd.sizeOf39
  v50 := Tryd.zeroValue39
  t53 := Tryd.underlying92
  a53 := Tryd.isAgg92
  z53 := Tryd.sizeOf92
  v53 := Tryd.zeroValue92
  t55 := Tryd.underlying94
  a55 := Tryd.isAgg94
  z55 := Tryd.sizeOf94
  v55 := Tryd.zeroValue94
  t66 := Tryd.underlying103
  a66 := Tryd.isAgg103
  z66 := Tryd.sizeOf103
  v66 := Tryd.zeroValue103
  t70 := Tryd.underlying107
  a70 := Tryd.isAgg107
  z70 := Tryd.sizeOf107
  v70 := Tryd.zeroValue107
  t76 := Tryd.underlying113
  a76 := Tryd.isAgg113
  z76 := Tryd.sizeOf113
  v76 := Tryd.zeroValue113
  t77 := Tryd.underlying114
  a77 := Tryd.isAgg114
  z77 := Tryd.sizeOf114
  v77 := Tryd.zeroValue114 }
end Go.Proofs
set_option linter.unusedVariables false
set_option linter.unusedSimpArgs false
namespace Go.Eng.Tryd
open Go Go.Eng Go.Proofs Go.RowKit
attribute [local go_sem] tys
attribute [local go_sem] is_len is_get iss_len iss_get iss_snoc ars_len ars_get stas_len stas_get cls_len cls_get cls_snoc cls_set
/-- The merger, as data. -/
def MD (l : List Sta) (B : List (List Int)) (S : MS) : List D := [.sl 2 (stas l), .sl 1 (iss B), .sl 1 (is S.of), .any, .sl 3 (cls S.all)]
def ccmp (all : List Cl) (a b : Nat) : Int := orI [icmp (all[a]!).long (all[b]!).long, wcmp (all[a]!).first (all[b]!).first]
set_option maxHeartbeats 8000000 in
set_option maxRecDepth 10000 in
theorem pMake1 {l : List Sta} {B : List (List Int)} {S : MS} {a b : Nat} (ha : a < S.all.length) (hb : b < S.all.length) (hf : ∀ c ∈ S.all, c.first.length ≤ 1000000) :
    Sound Tryd.prog 19 [.int .i64 a, .int .i64 b, .ptr [.ptr (MD l B S)]] (.int .i64 (ccmp S.all a b)) := by
  have h1 := hf (S.all[a]!) (by rw [getElem!_pos S.all a ha]; exact List.getElem_mem ha)
  have h2 := hf (S.all[b]!) (by rw [getElem!_pos S.all b hb]; exact List.getElem_mem hb)
  have c1 := cmpCompare (a := (S.all[a]!).long) (b := (S.all[b]!).long)
  have c2 := sCompare (a := (S.all[a]!).first) (b := (S.all[b]!).first) (by omega) (by omega)
  have c3 := cmpOr (l := [icmp (S.all[a]!).long (S.all[b]!).long, wcmp (S.all[a]!).first (S.all[b]!).first]) (by simp)
  have e3 : is [icmp (S.all[a]!).long (S.all[b]!).long, wcmp (S.all[a]!).first (S.all[b]!).first] = [.int .i64 (icmp (S.all[a]!).long (S.all[b]!).long), .int .i64 (wcmp (S.all[a]!).first (S.all[b]!).first)] := rfl
  rw [e3] at c3
  unfold ccmp MD
  refine Sound.run (N := 42) Tryd.func19 rfl (by kernel_rfl) rfl rfl rfl (by first | exact args0_0 | exact args0_1 | exact args0_2 | exact args0_3 | exact args0_4 | exact args0_5 | exact args0_6) fun X_ w_ => ?_
  have c0_ := c1; have c1_ := c2; have c2_ := c3; refine goX @Int.toNat_natCast ?_; first | exact trivial | skip
/-- Class a stands ahead of class b. -/
def CLt (all : List Cl) (a b : Nat) : Prop := (all[a]!).long < (all[b]!).long ∨ (all[a]!).long = (all[b]!).long ∧ wcmp (all[a]!).first (all[b]!).first < 0
theorem ccmp_lt (all : List Cl) (a b : Nat) : ccmp all a b < 0 ↔ CLt all a b := by
  unfold ccmp CLt icmp orI orI orI
  generalize (all[a]!).long = x
  generalize (all[b]!).long = y
  generalize wcmp (all[a]!).first (all[b]!).first = z
  by_cases h1 : x < y
  · simp [h1]
  · by_cases h2 : y < x
    · simp [h1, h2]; omega
    · have : x = y := by omega
      subst this
      by_cases h3 : z = 0
      · subst h3; simp
      · simp [h3]
theorem CLt.irr (all : List Cl) (a : Nat) : ¬ CLt all a a := fun h => by
  rcases h with h | ⟨_, h⟩
  · omega
  · exact wcmp_lt_irr _ h
theorem CLt.trans {all : List Cl} {a b c : Nat} (h : CLt all a b) (k : CLt all b c) : CLt all a c := by
  unfold CLt at *
  rcases h with h | ⟨h, h'⟩ <;> rcases k with k | ⟨k, k'⟩
  · exact .inl (by omega)
  · exact .inl (by omega)
  · exact .inl (by omega)
  · exact .inr ⟨by omega, wcmp_lt_trans h' (by omega)⟩
theorem CLt.ntrans {all : List Cl} {a b c : Nat} (h : ¬ CLt all a b) (k : ¬ CLt all b c) : ¬ CLt all a c := by
  unfold CLt at *
  have s1 := wcmp_swap (all[a]!).first (all[b]!).first
  have s2 := wcmp_swap (all[b]!).first (all[c]!).first
  have s3 := wcmp_swap (all[a]!).first (all[c]!).first
  have tr := wcmp_le_trans (all[c]!).first (all[b]!).first (all[a]!).first
  intro hac
  rcases hac with h1 | ⟨h1, h2⟩
  · omega
  · have e1 : (all[a]!).long = (all[b]!).long := by omega
    have e2 : (all[b]!).long = (all[c]!).long := by omega
    have := tr (by omega) (by omega)
    omega
/-- No two classes stand at one place. -/
def CInj (all : List Cl) : Prop := ∀ a b, a < all.length → b < all.length → (all[a]!).first = (all[b]!).first → a = b
theorem CLt.tot {all : List Cl} (hi : CInj all) {a b : Nat} (ha : a < all.length) (hb : b < all.length) (h : ¬ CLt all a b) (k : ¬ CLt all b a) : a = b := by
  unfold CLt at *
  have s1 := wcmp_swap (all[a]!).first (all[b]!).first
  have e1 : (all[a]!).long = (all[b]!).long := by omega
  exact hi a b ha hb ((wcmp_eq _ _).1 (by omega))
def natD (x : D) : Nat := match x with | .int _ z => z.toNat | _ => 0
def ns (l : List Nat) : List D := l.map fun (k : Nat) => .int .i64 (k : Int)
theorem ns_is (l : List Nat) : ns l = is (l.map fun (k : Nat) => (k : Int)) := by simp [ns, is]
set_option maxRecDepth 10000 in
theorem pSortC {l : List Sta} {B : List (List Int)} {S : MS} {xs ys : List Nat} (hf : ∀ c ∈ S.all, c.first.length ≤ 1000000) (hi : CInj S.all) (hx : ∀ x ∈ xs, x < S.all.length) (h0 : 0 < xs.length) (hmax : xs.length < 4611686018427387904) (hp : ys.Perm xs) (hs : ys.Pairwise (fun a b => ¬ CLt S.all b a)) :
    SoundM Tryd.prog 18 [.own 0 xs.length, .fn 19 [.d (.ptr [.ptr (MD l B S)])]] [(0, .row 3 1 (ns xs))] (.tup []) [(0, .row 3 1 (ns ys))] 1 := by
  have eg : ∀ args w, (callFunc 19 args).run Tryd.prog w = .ok (.enter 19 args) w := enters_of Tryd.func19 (by kernel_rfl) rfl
  have hlen : (ns xs).length = xs.length := by simp [ns]
  have gd : ∀ x, (∃ k : Nat, k < S.all.length ∧ x = D.int .i64 k) → D.int .i64 (natD x) = x ∧ natD x < S.all.length := fun x ⟨k, h1, h2⟩ => by subst h2; exact ⟨by simp [natD], by simpa [natD] using h1⟩
  have := sort_soundC (P := Tryd.prog) Tryd.sortInt eg (Good := fun x => ∃ k : Nat, k < S.all.length ∧ x = D.int .i64 k) (cf := fun x y => ccmp S.all (natD x) (natD y)) (cap0 := .ptr [.ptr (MD l B S)])
    (fun x y hx hy => by
      have := pMake1 (l := l) (B := B) (S := S) (gd x hx).2 (gd y hy).2 hf
      rwa [(gd x hx).1, (gd y hy).1] at this)
    (fun x hx => by rw [ccmp_lt]; exact CLt.irr _ _) (fun x y z _ _ _ h1 h2 => by rw [ccmp_lt] at *; exact h1.trans h2) (fun x y z _ _ _ h1 h2 => by rw [ccmp_lt] at *; exact CLt.ntrans h1 h2)
    (fun x y hx hy h1 h2 => by
      rw [ccmp_lt] at h1 h2
      have := CLt.tot hi (gd x hx).2 (gd y hy).2 h1 h2
      rw [← (gd x hx).1, ← (gd y hy).1, this])
    (fun x ⟨k, _, h⟩ => by rw [h]; rfl) (e := 3) (xs := ns xs) (ys := ns ys) (fun x hx' => by
      obtain ⟨k, hk, rfl⟩ := List.mem_map.1 hx'
      exact ⟨k, hx k hk, rfl⟩) (by rw [hlen]; exact h0) (by rw [hlen]; exact hmax) (hp.map _) (by
      unfold ns
      rw [List.pairwise_map]
      exact hs.imp (fun {a b} h => by rw [ccmp_lt]; simpa [natD] using h))
  rw [hlen] at this
  exact this
end Go.Eng.Tryd
set_option linter.unusedVariables false
set_option linter.unusedSimpArgs false
namespace Go.Eng.Tryd
open Go Go.Eng Go.Proofs Go.RowKit
attribute [local go_sem] tys
attribute [local go_sem] is_len is_get iss_len iss_get iss_snoc bys_len bys_snoc bys_app ars_len ars_get stas_len stas_get
set_option maxHeartbeats 8000000 in
set_option maxRecDepth 10000 in
/-- The name, within a merger of the places alone. -/
theorem pNameL {s : Sta} {of : List Int} (hof : OfOk of) (hs : ∀ a ∈ s.arcs, 0 ≤ a.sign ∧ a.sign ≤ 1114111 ∧ 0 ≤ a.to ∧ a.to < of.length) (hal : s.arcs.length ≤ 10000) :
    SoundM Tryd.prog 37 [.ref 0 0, .d (sta s)] [(0, .var [.d .nils, .d .nils, .own 1 of.length, .d .nilm, .d .nils]), (1, .row 3 1 (is of))] (.d (.str (keyN (keyS of s)))) [(0, .var [.d .nils, .d .nils, .own 1 of.length, .d .nilm, .d .nils]), (1, .row 3 1 (is of))] 2 := by
  have c0 := pAppI0 (z := 0) (by omega)
  have c1 := pAppI0 (z := 1) (by omega)
  have hre : ∀ k, ∀ a ∈ (s.arcs.take k).map (reOf of), a.sign < 18446744073709551616 ∧ a.to < 18446744073709551616 := fun k a ha => by
    obtain ⟨x, hx, rfl⟩ := List.mem_map.1 ha
    obtain ⟨g1, g2, g3, g4⟩ := hs x (List.mem_of_mem_take hx)
    have := hof.get (k := x.to.toNat) (by omega)
    simp only [reOf]
    omega
  refine SoundM.run (N := 40) (ks := [0, 1]) Tryd.func37 rfl (by kernel_rfl) rfl rfl rfl (by first | exact argsA_0 | exact argsA_1 | exact argsA_2 | exact argsA_3 | exact argsA_4 | exact argsA_5 | exact argsA_6) fun X_ ν_ w_ => ?_
  cases hf : s.final
  · have c0_ := c0; refine goX @hf ?_; first | exact trivial | skip
    refine WP_loopk (fun k : Nat => k ≤ s.arcs.length) (fun k => [(0, .ref 0 0), (5, .own 1002 (nameB false ((s.arcs.take k).map (reOf of))).length), (13, .d (.sl 2 (ars s.arcs))), (14, .d (.int .i64 s.arcs.length)), (15, .d (.int .i64 k))]) (fun k => [(0, .var [.d .nils, .d .nils, .own 1 of.length, .d .nilm, .d .nils]), (1, .row 3 1 (is of)), (1002, .row 5 1 (bys (nameB false ((s.arcs.take k).map (reOf of)))))]) 20000 (fun k => s.arcs.length - k) [0, 5, 13, 14, 15] [0, 1, 1002] 0 (Nat.zero_le _) (by rw [List.take_zero, List.map_nil, nameB_nil]; rfl) (by rw [List.take_zero, List.map_nil, nameB_nil]; rfl) (Nat.le_of_ble_eq_true rfl) (fun _ _ => rfl) (fun _ _ => rfl) fun k hk => ?_
    have hlb := nameB_len false ((s.arcs.take k).map (reOf of)) (hre k)
    have hll : ((s.arcs.take k).map (reOf of)).length = k := by simp; omega
    rw [hll] at hlb
    by_cases hk3 : k < s.arcs.length
    · have hst : nameB false ((s.arcs.take (k + 1)).map (reOf of)) = nameB false ((s.arcs.take k).map (reOf of)) ++ [32] ++ decI (s.arcs[k]!).sign.toNat ++ [58] ++ decI (of[(s.arcs[k]!).to.toNat]!).toNat := by
        rw [atake_snoc hk3, List.map_append, List.map_cons, List.map_nil, nameB_snoc]
        simp only [arcB, reOf, List.append_assoc]
      obtain ⟨g1, g2, g3, g4⟩ := hs (s.arcs[k]!) (by rw [getElem!_pos s.arcs k hk3]; exact List.getElem_mem hk3)
      obtain ⟨z, hz⟩ := Int.eq_ofNat_of_zero_le g1
      obtain ⟨t, ht⟩ := Int.eq_ofNat_of_zero_le g3
      rw [hz, ht] at hst
      have htl : t < of.length := by omega
      obtain ⟨o1, o2⟩ := hof.get htl
      obtain ⟨y, hy⟩ := Int.eq_ofNat_of_zero_le o1
      simp only [Int.toNat_natCast, hy] at hst
      generalize nameB false ((s.arcs.take k).map (reOf of)) = N at hst hlb ⊢
      have hd1 := decI_20 (u := z) (by omega)
      have c3 := pAppI (b := N ++ [32]) (z := z) (by omega) (by simp only [List.length_append, List.length_cons, List.length_nil]; omega)
      have c4 := pAppI (b := N ++ [32] ++ decI z ++ [58]) (z := y) (by omega) (by simp only [List.length_append, List.length_cons, List.length_nil]; omega)
      simp only [List.length_append, List.length_cons, List.length_nil, Nat.zero_add] at c3 c4
      have c0_ := c3; have c1_ := c4; refine goX (And.intro @hz (And.intro @ht (And.intro @hy @Int.toNat_natCast))) ?_; first | exact trivial | skip
      refine ⟨k + 1, by omega, ?_, ?_, by omega⟩
      · simp (disch := omega) only [go_sem, keepL, Int.natCast_add, Int.cast_ofNat_Int, hst, List.length_append, List.length_cons, List.length_nil]
      · simp (disch := omega) only [go_sem, keepL, hst]
    · have hke : k = s.arcs.length := by omega
      subst hke
      rw [List.take_length]
      have hb1 := bytesD_bys (l := nameB false (s.arcs.map (reOf of))) (nameB_b _ _)
      have hb2 : keyN (keyS of s) = bytesOf (nameB false (s.arcs.map (reOf of))) := by unfold keyN keyS nameS; rw [hf]
      rw [hb2]
      rw [List.take_length] at hlb
      unfold bytesOf
      generalize nameB false (s.arcs.map (reOf of)) = N at hb1 hlb ⊢
      obtain ⟨b, l, hbl⟩ : ∃ b l, (N.map fun z => UInt8.ofNat z.toNat) = b :: l := by
        cases N with
        | nil => simp at hlb
        | cons x t => exact ⟨_, _, rfl⟩
      rw [hbl] at hb1 ⊢
      refine goX @hb1 ?_; first | exact trivial | skip

  · have c0_ := c0; have c1_ := c1; refine goX @hf ?_; first | exact trivial | skip
    refine WP_loopk (fun k : Nat => k ≤ s.arcs.length) (fun k => [(0, .ref 0 0), (5, .own 3002 (nameB true ((s.arcs.take k).map (reOf of))).length), (13, .d (.sl 2 (ars s.arcs))), (14, .d (.int .i64 s.arcs.length)), (15, .d (.int .i64 k))]) (fun k => [(0, .var [.d .nils, .d .nils, .own 1 of.length, .d .nilm, .d .nils]), (1, .row 3 1 (is of)), (3002, .row 5 1 (bys (nameB true ((s.arcs.take k).map (reOf of)))))]) 20000 (fun k => s.arcs.length - k) [0, 5, 13, 14, 15] [0, 1, 3002] 0 (Nat.zero_le _) (by rw [List.take_zero, List.map_nil, nameB_nil]; rfl) (by rw [List.take_zero, List.map_nil, nameB_nil]; rfl) (Nat.le_of_ble_eq_true rfl) (fun _ _ => rfl) (fun _ _ => rfl) fun k hk => ?_
    have hlb := nameB_len true ((s.arcs.take k).map (reOf of)) (hre k)
    have hll : ((s.arcs.take k).map (reOf of)).length = k := by simp; omega
    rw [hll] at hlb
    by_cases hk3 : k < s.arcs.length
    · have hst : nameB true ((s.arcs.take (k + 1)).map (reOf of)) = nameB true ((s.arcs.take k).map (reOf of)) ++ [32] ++ decI (s.arcs[k]!).sign.toNat ++ [58] ++ decI (of[(s.arcs[k]!).to.toNat]!).toNat := by
        rw [atake_snoc hk3, List.map_append, List.map_cons, List.map_nil, nameB_snoc]
        simp only [arcB, reOf, List.append_assoc]
      obtain ⟨g1, g2, g3, g4⟩ := hs (s.arcs[k]!) (by rw [getElem!_pos s.arcs k hk3]; exact List.getElem_mem hk3)
      obtain ⟨z, hz⟩ := Int.eq_ofNat_of_zero_le g1
      obtain ⟨t, ht⟩ := Int.eq_ofNat_of_zero_le g3
      rw [hz, ht] at hst
      have htl : t < of.length := by omega
      obtain ⟨o1, o2⟩ := hof.get htl
      obtain ⟨y, hy⟩ := Int.eq_ofNat_of_zero_le o1
      simp only [Int.toNat_natCast, hy] at hst
      generalize nameB true ((s.arcs.take k).map (reOf of)) = N at hst hlb ⊢
      have hd1 := decI_20 (u := z) (by omega)
      have c3 := pAppI (b := N ++ [32]) (z := z) (by omega) (by simp only [List.length_append, List.length_cons, List.length_nil]; omega)
      have c4 := pAppI (b := N ++ [32] ++ decI z ++ [58]) (z := y) (by omega) (by simp only [List.length_append, List.length_cons, List.length_nil]; omega)
      simp only [List.length_append, List.length_cons, List.length_nil, Nat.zero_add] at c3 c4
      have c0_ := c3; have c1_ := c4; refine goX (And.intro @hz (And.intro @ht (And.intro @hy @Int.toNat_natCast))) ?_; first | exact trivial | skip
      refine ⟨k + 1, by omega, ?_, ?_, by omega⟩
      · simp (disch := omega) only [go_sem, keepL, Int.natCast_add, Int.cast_ofNat_Int, hst, List.length_append, List.length_cons, List.length_nil]
      · simp (disch := omega) only [go_sem, keepL, hst]
    · have hke : k = s.arcs.length := by omega
      subst hke
      rw [List.take_length]
      have hb1 := bytesD_bys (l := nameB true (s.arcs.map (reOf of))) (nameB_b _ _)
      have hb2 : keyN (keyS of s) = bytesOf (nameB true (s.arcs.map (reOf of))) := by unfold keyN keyS nameS; rw [hf]
      rw [hb2]
      rw [List.take_length] at hlb
      unfold bytesOf
      generalize nameB true (s.arcs.map (reOf of)) = N at hb1 hlb ⊢
      obtain ⟨b, l, hbl⟩ : ∃ b l, (N.map fun z => UInt8.ofNat z.toNat) = b :: l := by
        cases N with
        | nil => simp at hlb
        | cons x t => exact ⟨_, _, rfl⟩
      rw [hbl] at hb1 ⊢
      refine goX @hb1 ?_; first | exact trivial | skip

end Go.Eng.Tryd

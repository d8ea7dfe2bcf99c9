/- The least automaton, part 3: states that are alike are found. (and what stands behind it: texts laid together) -/
import Derived.Test.YtabfoaoeghikoaaGreatDoorMG4
import Derived.Test.YtabfoaoeghikoaaGreatDoorMR12
import Derived.Shelf.SlSortCmp.WholeK
import Derived.Shelf.SlGeneric
import Derived.Ground.SlsfProg
import Derived.Test.YtabfoaoeghikoaaGreatDoorProg
import Derived.Test.YtabfoaoeghikoaaGreatDoorMH1
set_option maxHeartbeats 32000000
set_option maxRecDepth 100000
set_option linter.unusedVariables false
set_option linter.unusedSimpArgs false
namespace Go.Eng.Tryz
open Go Go.Eng Go.Proofs Go.RowKit
open Go.Maps (Keyed)
attribute [local go_sem] is_len is_get iss_len iss_get iss_snoc ars_len ars_get stas_len stas_get
theorem keyed_str : Keyed Tryz.prog 9 := Go.Maps.string_keyed Tryz.underlying9
theorem keyd_str {s : ByteArray} (hs : s.size ≤ maxLen) : KeyD Tryz.prog 9 (.str s) := by
  refine ⟨rfl, .string s, .string s.data.toList, fun w M => .str s, ?_⟩
  simp [keyOf, mapKey, Tryz.underlying9, hs]
structure Cl where
  is_ : Int
  long : Int
  first : List Int
  deriving Inhabited
def clD (c : Cl) : D := .agg [.int .i64 c.is_, .int .i64 c.long, .sl 1 (is c.first)]
def cls (l : List Cl) : List D := l.map clD
theorem cls_len {l : List Cl} : (cls l).length = l.length := by simp [cls]
theorem cls_get {l : List Cl} {k : Nat} (h : k < l.length) : (cls l)[k]? = some (.agg [.int .i64 (l[k]!).is_, .int .i64 (l[k]!).long, .sl 1 (is (l[k]!).first)]) := by simp [cls, clD, List.getElem?_eq_getElem h, getElem!_pos l k h]
theorem cls_snoc {l : List Cl} {a b : Int} {w : List Int} : cls l ++ [.agg [.int .i64 a, .int .i64 b, .sl 1 (is w)]] = cls (l ++ [⟨a, b, w⟩]) := by simp [cls, clD]
theorem cls_set {l : List Cl} {k : Nat} {a b : Int} {w : List Int} : (cls l).set k (.agg [.int .i64 a, .int .i64 b, .sl 1 (is w)]) = cls (l.set k ⟨a, b, w⟩) := by simp [cls, clD, List.map_set]
attribute [local go_sem] cls_len cls_get cls_snoc cls_set
deriving instance DecidableEq for Sta
structure MS where
  of : List Int
  names : List (Sta × Int)
  all : List Cl
def nget : List (Sta × Int) → Sta → Option Int
  | [], _ => none
  | x :: t, a => if x.1 = a then some x.2 else nget t a
def emn (m : List (Sta × Int)) : List (D × D) := m.map fun p => (.str (keyN p.1), .int .i64 p.2)
def SOk (s : Sta) : Prop := (∀ a ∈ s.arcs, 0 ≤ a.sign ∧ 0 ≤ a.to) ∧ (keyN s).size ≤ maxLen
theorem mget_emn {m : List (Sta × Int)} (hm : ∀ p ∈ m, SOk p.1) {s : Sta} (hs : SOk s) : mget (emn m) (.str (keyN s)) = (nget m s).map (D.int .i64) := by
  induction m with
  | nil => rfl
  | cons x t ih =>
    simp only [emn, List.map_cons, mget, nget]
    by_cases hx : x.1 = s
    · rw [if_pos hx, if_pos (by rw [hx])]; rfl
    · rw [if_neg hx, if_neg (fun e => hx (keyN_inj (hm x (by simp)).1 hs.1 (by simpa using e)))]
      exact ih fun p hp => hm p (by simp [hp])
theorem mput_emn {m : List (Sta × Int)} (hm : ∀ p ∈ m, SOk p.1) {s : Sta} (hs : SOk s) {z : Int} (h : nget m s = none) : mput (emn m) (.str (keyN s)) (.int .i64 z) = emn (m ++ [(s, z)]) := by
  induction m with
  | nil => rfl
  | cons x t ih =>
    simp only [nget] at h
    split at h
    · cases h
    · rename_i hx
      simp only [emn, List.map_cons, mput, List.cons_append]
      rw [if_neg (fun e => hx (keyN_inj (hm x (by simp)).1 hs.1 (by simpa using e)))]
      exact congrArg _ (ih (fun p hp => hm p (by simp [hp])) h)
theorem emn_ok {m : List (Sta × Int)} (hm : ∀ p ∈ m, SOk p.1) (hn : (m.map (·.1)).Nodup) {s : Sta} (hs : SOk s) : MapOk Tryz.prog 9 (emn m) (.str (keyN s)) := by
  refine ⟨keyed_str, keyd_str hs.2, fun p hp => ?_, ?_⟩
  · obtain ⟨r, hr, rfl⟩ := List.mem_map.1 hp
    exact keyd_str (hm r hr).2
  · unfold emn
    rw [List.map_map, List.Nodup, List.pairwise_map]
    rw [List.Nodup, List.pairwise_map] at hn
    exact hn.imp_of_mem fun {a b} ha hb hne he => hne (keyN_inj (hm a ha).1 (hm b hb).1 (by simpa using he))
def mstep (l : List Sta) (B : List (List Int)) (s : MS) (i : Nat) : MS :=
  match nget s.names (keyS s.of (l[i]!)) with
  | some c => ⟨s.of.set i c, s.names, s.all.set c.toNat ⟨(s.all[c.toNat]!).is_, max (s.all[c.toNat]!).long (B[i]!).length, if wcmp (B[i]!) (s.all[c.toNat]!).first < 0 then B[i]! else (s.all[c.toNat]!).first⟩⟩
  | none => ⟨s.of.set i s.all.length, s.names ++ [(keyS s.of (l[i]!), (s.all.length : Int))], s.all ++ [⟨i, (B[i]!).length, B[i]!⟩]⟩
structure MOk (l : List Sta) (B : List (List Int)) (s : MS) : Prop where
  len : s.of.length = l.length
  of : OfOk s.of
  few : s.all.length ≤ l.length
  nok : ∀ p ∈ s.names, SOk p.1
  nd : (s.names.map (·.1)).Nodup
  val : ∀ p ∈ s.names, 0 ≤ p.2 ∧ p.2 < s.all.length
  fst : ∀ c ∈ s.all, c.first.length ≤ 1000000 ∧ 0 ≤ c.long ∧ c.long ≤ 1000000
theorem nget_mem {m : List (Sta × Int)} {s : Sta} {z : Int} (h : nget m s = some z) : (s, z) ∈ m := by
  induction m with
  | nil => cases h
  | cons x t ih =>
    simp only [nget] at h
    split at h
    · rename_i e
      cases h
      obtain ⟨a, b⟩ := x
      simp only at e
      subst e
      simp
    · exact List.mem_cons_of_mem _ (ih h)
def Hm (l : List Sta) (B : List (List Int)) (s : MS) : Heap := [(0, .var [.d (.sl 2 (stas l)), .d (.sl 1 (iss B)), .own 1 s.of.length, .map 2, .own 3 s.all.length]), (1, .row 3 1 (is s.of)), (2, .map 9 3 (emn s.names)), (3, .row 82 3 (cls s.all))]
theorem if_maxI {a b : Int} : (if b > a then b else a) = max a b := by split <;> omega
theorem pMerge {l : List Sta} {B : List (List Int)} {s : MS} {i : Nat} (hl1 : l.length ≤ 6001) (hi : i < l.length) (hB : B.length = l.length) (hBl : ∀ w ∈ B, w.length ≤ 6001) (hs : ∀ a ∈ (l[i]!).arcs, 0 ≤ a.sign ∧ a.sign ≤ 1114111 ∧ 0 ≤ a.to ∧ a.to < l.length) (hal : (l[i]!).arcs.length ≤ 10000) (hm : MOk l B s) :
    SoundM Tryz.prog 46 [.ref 0 0, .d (.int .i64 i)] (Hm l B s) (.tup []) (Hm l B (mstep l B s i)) 4 := by
  obtain ⟨h1, h2, h3, h4, h5, h6, h7⟩ := hm
  have hkn : SOk (keyS s.of (l[i]!)) := by
    refine ⟨fun a ha => ?_, ?_⟩
    · obtain ⟨x, hx, rfl⟩ := List.mem_map.1 ha
      obtain ⟨g1, g2, g3, g4⟩ := hs x hx
      have := h2.get (k := x.to.toNat) (by omega)
      exact ⟨g1, this.1⟩
    · have hnl := nameB_len (keyS s.of (l[i]!)).final (keyS s.of (l[i]!)).arcs (fun a ha => by
        obtain ⟨x, hx, rfl⟩ := List.mem_map.1 ha
        obtain ⟨g1, g2, g3, g4⟩ := hs x hx
        have := h2.get (k := x.to.toNat) (by omega)
        simp only [reOf]; omega)
      have e1 : (keyN (keyS s.of (l[i]!))).size = (nameS (keyS s.of (l[i]!))).length := by simp [keyN, bytesOf, ByteArray.size]
      have e2 : (keyS s.of (l[i]!)).arcs.length = (l[i]!).arcs.length := by simp [keyS]
      rw [e1]
      simp only [maxLen]
      unfold nameS
      omega
  have cn := pName (s := l[i]!) (of := s.of) (d0 := .sl 2 (stas l)) (d1 := .sl 1 (iss B)) (m := s.all.length) (kt2 := 9) (et2 := 3) (es2 := emn s.names) (e3 := 82) (sz3 := 3) (xs3 := cls s.all) h2 (fun a ha => by have := hs a ha; omega) hal
  have mk := eq_true (emn_ok h4 h5 hkn)
  have mg := mget_emn h4 hkn
  have hBi : (B[i]!).length ≤ 6001 := by rw [getElem!_pos B i (by omega)]; exact hBl _ (List.getElem_mem _)
  have hset : ∀ x, (is s.of).set i (.int .i64 x) = is (s.of.set i x) := fun x => by simp [is, List.map_set]
  have hsl : ∀ x, (s.of.set i x).length = s.of.length := fun x => List.length_set ..
  cases hg : nget s.names (keyS s.of (l[i]!)) with
  | none =>
    rw [hg] at mg
    simp only [Option.map_none] at mg
    have hput : mput (emn s.names) (.str (keyN (keyS s.of (l[i]!)))) (.int .i64 (s.all.length : Int)) = emn (s.names ++ [(keyS s.of (l[i]!), (s.all.length : Int))]) := mput_emn h4 hkn hg
    have em : mstep l B s i = ⟨s.of.set i s.all.length, s.names ++ [(keyS s.of (l[i]!), (s.all.length : Int))], s.all ++ [⟨i, (B[i]!).length, B[i]!⟩]⟩ := by unfold mstep; rw [hg]
    rw [em]
    unfold Hm
    generalize keyN (keyS s.of (l[i]!)) = key at cn mk mg hput
    generalize s.names ++ [(keyS s.of (l[i]!), (s.all.length : Int))] = names' at hput ⊢
    have cl := orderLess (a := B[i]!) (b := B[i]!) (by omega) (by omega)
    rw [decide_eq_false (wcmp_lt_irr _)] at cl
    have hlast : (s.all ++ [(⟨i, (B[i]!).length, B[i]!⟩ : Cl)])[s.all.length]! = ⟨i, (B[i]!).length, B[i]!⟩ := by simp
    have hll : (s.all ++ [(⟨i, (B[i]!).length, B[i]!⟩ : Cl)]).length = s.all.length + 1 := by simp
    have hset2 : (s.all ++ [(⟨i, (B[i]!).length, B[i]!⟩ : Cl)]).set s.all.length ⟨i, (B[i]!).length, B[i]!⟩ = s.all ++ [⟨i, (B[i]!).length, B[i]!⟩] := by simp
    refine SoundM.run (N := 116) (ks := [0, 1, 2, 3]) Tryz.func46 rfl (by kernel_rfl) rfl rfl rfl (by exact argsA_2) fun X_ ν_ w_ => ?_
    have c0_ := cn; have c1_ := cl; refine goX (And.intro @mk (And.intro @mg (And.intro @hput (And.intro @hset (And.intro @hsl (And.intro @h1 (And.intro @hB (And.intro @hlast (And.intro @hset2 (And.intro @Int.max_self @if_maxI)))))))))) ?_; try exact trivial
  | some c =>
    rw [hg] at mg
    simp only [Option.map_some] at mg
    have hv := h6 _ (nget_mem hg)
    simp only at hv
    obtain ⟨q, rfl⟩ := Int.eq_ofNat_of_zero_le hv.1
    have hq : q < s.all.length := by omega
    have hf := h7 (s.all[q]!) (by rw [getElem!_pos s.all q hq]; exact List.getElem_mem hq)
    have cl := orderLess (a := B[i]!) (b := (s.all[q]!).first) (by omega) (by omega)
    have em : mstep l B s i = ⟨s.of.set i q, s.names, s.all.set q ⟨(s.all[q]!).is_, max (s.all[q]!).long (B[i]!).length, if wcmp (B[i]!) (s.all[q]!).first < 0 then B[i]! else (s.all[q]!).first⟩⟩ := by unfold mstep; rw [hg]; rfl
    rw [em]
    unfold Hm
    generalize keyN (keyS s.of (l[i]!)) = key at cn mk mg
    have g1 : (s.all.set q (⟨(s.all[q]!).is_, max (s.all[q]!).long (B[i]!).length, (s.all[q]!).first⟩ : Cl))[q]! = ⟨(s.all[q]!).is_, max (s.all[q]!).long (B[i]!).length, (s.all[q]!).first⟩ := by rw [getB_setI hq, if_pos rfl]
    have g2 : ∀ x y : Cl, (s.all.set q x).set q y = s.all.set q y := fun x y => List.set_set ..
    have g3 : ∀ x : Cl, (s.all.set q x).length = s.all.length := fun x => List.length_set ..
    have hq3 : q < (s.all.set q (⟨(s.all[q]!).is_, max (s.all[q]!).long (B[i]!).length, (s.all[q]!).first⟩ : Cl)).length := by rw [g3]; exact hq
    by_cases hw : wcmp (B[i]!) (s.all[q]!).first < 0
    · rw [decide_eq_true hw] at cl
      rw [if_pos hw]
      refine SoundM.run (N := 116) (ks := [0, 1, 2, 3]) Tryz.func46 rfl (by kernel_rfl) rfl rfl rfl (by exact argsA_2) fun X_ ν_ w_ => ?_
      have c0_ := cn; have c1_ := cl; refine goX (And.intro @mk (And.intro @mg (And.intro @hset (And.intro @hsl (And.intro @h1 (And.intro @hB (And.intro @g1 (And.intro @g2 (And.intro @g3 (And.intro @if_maxI @Int.toNat_natCast)))))))))) ?_; try exact trivial
    · rw [decide_eq_false hw] at cl
      rw [if_neg hw]
      refine SoundM.run (N := 116) (ks := [0, 1, 2, 3]) Tryz.func46 rfl (by kernel_rfl) rfl rfl rfl (by exact argsA_2) fun X_ ν_ w_ => ?_
      have c0_ := cn; have c1_ := cl; refine goX (And.intro @mk (And.intro @mg (And.intro @hset (And.intro @hsl (And.intro @h1 (And.intro @hB (And.intro @g1 (And.intro @g2 (And.intro @g3 (And.intro @if_maxI @Int.toNat_natCast)))))))))) ?_; try exact trivial
end Go.Eng.Tryz
namespace Go.Proofs
open Go.Shelf Go.RowKit Go.Lib Go.Sort
def Tryz.sortInt_ren : Go.Shelf.Ren := ⟨fun | 6 => 47 | 15 => 108 | 14 => 107 | 28 => 154 | 29 => 155 | 20 => 146 | 21 => 147 | 22 => 148 | 23 => 149 | 24 => 150 | 25 => 151 | 26 => 152 | 27 => 153 | 46 => 175 | 47 => 176 | 48 => 177 | 49 => 178 | 50 => 179 | 57 => 202 | n => n, fun | 22 => 36 | 24 => 3 | 25 => 80 | 3 => 3 | 39 => 140 | 0 => 0 | 53 => 168 | 55 => 42 | 4 => 4 | 46 => 179 | 45 => 178 | 50 => 37 | 5 => 5 | 9 => 9 | 66 => 199 | 70 => 202 | 76 => 217 | 77 => 218 | n => n, fun | n => n⟩
theorem Tryz.sortInt : Go.Proofs.SlLaysF.n6 Tryz.prog Tryz.sortInt_ren := {
  mixed := by kernel_rfl
  f6 := ⟨Tryz.f47.name, by decide, Tryz.func47.trans (congrArg some (by kernel_rfl))⟩
  f14 := ⟨Tryz.f107.name, by decide, Tryz.func107.trans (congrArg some (by kernel_rfl))⟩
  f15 := Tryz.func108.trans (congrArg some (by kernel_rfl))
  f20 := ⟨Tryz.f146.name, by decide, Tryz.func146.trans (congrArg some (by kernel_rfl))⟩
  f21 := ⟨Tryz.f147.name, by decide, Tryz.func147.trans (congrArg some (by kernel_rfl))⟩
  f22 := ⟨Tryz.f148.name, by decide, Tryz.func148.trans (congrArg some (by kernel_rfl))⟩
  f23 := ⟨Tryz.f149.name, by decide, Tryz.func149.trans (congrArg some (by kernel_rfl))⟩
  f24 := ⟨Tryz.f150.name, by decide, Tryz.func150.trans (congrArg some (by kernel_rfl))⟩
  f25 := ⟨Tryz.f151.name, by decide, Tryz.func151.trans (congrArg some (by kernel_rfl))⟩
  f26 := ⟨Tryz.f152.name, by decide, Tryz.func152.trans (congrArg some (by kernel_rfl))⟩
  f27 := ⟨Tryz.f153.name, by decide, Tryz.func153.trans (congrArg some (by kernel_rfl))⟩
  f28 := Tryz.func154.trans (congrArg some (by kernel_rfl))
  f29 := Tryz.func155.trans (congrArg some (by kernel_rfl))
  f46 := ⟨Tryz.f175.name, by decide, Tryz.func175.trans (congrArg some (by kernel_rfl))⟩
  f47 := Tryz.func176.trans (congrArg some (by kernel_rfl))
  f48 := Tryz.func177.trans (congrArg some (by kernel_rfl))
  f49 := ⟨Tryz.f178.name, by decide, Tryz.func178.trans (congrArg some (by kernel_rfl))⟩
  f50 := ⟨Tryz.f179.name, by decide, Tryz.func179.trans (congrArg some (by kernel_rfl))⟩
  f57 := ⟨Tryz.f202.name, by decide, Tryz.func202.trans (congrArg some (by kernel_rfl))⟩
  t0 := Tryz.underlying0
  a0 := Tryz.isAgg0
  z0 := Tryz.sizeOf0
  v0 := Tryz.zeroValue0
  t3 := Tryz.underlying3
  a3 := Tryz.isAgg3
  z3 := Tryz.sizeOf3
  v3 := Tryz.zeroValue3
  t4 := Tryz.underlying4
  a4 := Tryz.isAgg4
  z4 := Tryz.sizeOf4
  v4 := Tryz.zeroValue4
  t5 := Tryz.underlying5
  a5 := Tryz.isAgg5
  z5 := Tryz.sizeOf5
  v5 := Tryz.zeroValue5
  t9 := Tryz.underlying9
  a9 := Tryz.isAgg9
  z9 := Tryz.sizeOf9
  v9 := Tryz.zeroValue9
  t22 := Tryz.underlying36
  a22 := Tryz.isAgg36
  z22 := Tryz.sizeOf36
  v22 := Tryz.zeroValue36
  a24 := Tryz.isAgg3
  z24 := Tryz.sizeOf3
  t25 := Tryz.underlying80
  a25 := Tryz.isAgg80
  z25 := Tryz.sizeOf80
  v25 := Tryz.zeroValue80
  t39 := Tryz.underlying140
  a39 := Tryz.isAgg140
  z39 := Tryz.sizeOf140
  v39 := Tryz.zeroValue140
  t45 := Tryz.underlying178
  a45 := Tryz.isAgg178
  z45 := Tryz.sizeOf178
  v45 := Tryz.zeroValue178
  t46 := Tryz.underlying179
  a46 := Tryz.isAgg179
  z46 := Tryz.sizeOf179
  v46 := Tryz.zeroValue179
  t50 := Tryz.underlying37
  a50 := Tryz.isAgg37
  z50 := Tryz.sizeOf37
  v50 := Tryz.zeroValue37
  t53 := Tryz.underlying168
  a53 := Tryz.isAgg168
  z53 := Tryz.sizeOf168
  v53 := Tryz.zeroValue168
  t55 := Tryz.underlying42
  a55 := Tryz.isAgg42
  z55 := Tryz.sizeOf42
  v55 := Tryz.zeroValue42
  t66 := Tryz.underlying199
  a66 := Tryz.isAgg199
  z66 := Tryz.sizeOf199
  v66 := Tryz.zeroValue199
  t70 := Tryz.underlying202
  a70 := Tryz.isAgg202
  z70 := Tryz.sizeOf202
  v70 := Tryz.zeroValue202
  t76 := Tryz.underlying217
  a76 := Tryz.isAgg217
  z76 := Tryz.sizeOf217
  v76 := Tryz.zeroValue217
  t77 := Tryz.underlying218
  a77 := Tryz.isAgg218
  z77 := Tryz.sizeOf218
  v77 := Tryz.zeroValue218 }
end Go.Proofs
set_option linter.unusedVariables false
set_option linter.unusedSimpArgs false
namespace Go.Eng.Tryz
open Go Go.Eng Go.Proofs Go.RowKit
attribute [local go_sem] is_len is_get iss_len iss_get iss_snoc ars_len ars_get stas_len stas_get cls_len cls_get cls_snoc cls_set
def MD (l : List Sta) (B : List (List Int)) (S : MS) : List D := [.sl 2 (stas l), .sl 1 (iss B), .sl 1 (is S.of), .any, .sl 3 (cls S.all)]
def ccmp (all : List Cl) (a b : Nat) : Int := orI [icmp (all[a]!).long (all[b]!).long, wcmp (all[a]!).first (all[b]!).first]
theorem pMake1 {l : List Sta} {B : List (List Int)} {S : MS} {a b : Nat} (ha : a < S.all.length) (hb : b < S.all.length) (hf : ∀ c ∈ S.all, c.first.length ≤ 1000000) :
    Sound Tryz.prog 48 [.int .i64 a, .int .i64 b, .ptr [.ptr (MD l B S)]] (.int .i64 (ccmp S.all a b)) := by
  have h1 := hf (S.all[a]!) (by rw [getElem!_pos S.all a ha]; exact List.getElem_mem ha)
  have h2 := hf (S.all[b]!) (by rw [getElem!_pos S.all b hb]; exact List.getElem_mem hb)
  have c1 := cmpCompare (a := (S.all[a]!).long) (b := (S.all[b]!).long)
  have c2 := sCompare (a := (S.all[a]!).first) (b := (S.all[b]!).first) (by omega) (by omega)
  have c3 := cmpOr (l := [icmp (S.all[a]!).long (S.all[b]!).long, wcmp (S.all[a]!).first (S.all[b]!).first]) (by simp)
  have e3 : is [icmp (S.all[a]!).long (S.all[b]!).long, wcmp (S.all[a]!).first (S.all[b]!).first] = [.int .i64 (icmp (S.all[a]!).long (S.all[b]!).long), .int .i64 (wcmp (S.all[a]!).first (S.all[b]!).first)] := rfl
  rw [e3] at c3
  unfold ccmp MD
  refine Sound.run (N := 42) Tryz.func48 rfl (by kernel_rfl) rfl rfl rfl (by exact args0_3) fun X_ w_ => ?_
  have c0_ := c1; have c1_ := c2; have c2_ := c3; refine goX @Int.toNat_natCast ?_; try exact trivial
def CLt (all : List Cl) (a b : Nat) : Prop := (all[a]!).long < (all[b]!).long ∨ (all[a]!).long = (all[b]!).long ∧ wcmp (all[a]!).first (all[b]!).first < 0
theorem ccmp_lt (all : List Cl) (a b : Nat) : ccmp all a b < 0 ↔ CLt all a b := by
  unfold ccmp CLt icmp orI orI orI
  generalize (all[a]!).long = x
  generalize (all[b]!).long = y
  generalize wcmp (all[a]!).first (all[b]!).first = z
  by_cases h1 : x < y
  · simp [h1]
  · by_cases h2 : y < x
    · simp [h1, h2]; omega
    · have : x = y := by omega
      subst this
      by_cases h3 : z = 0
      · subst h3; simp
      · simp [h3]
theorem CLt.irr (all : List Cl) (a : Nat) : ¬ CLt all a a := fun h => by
  rcases h with h | ⟨_, h⟩
  · omega
  · exact wcmp_lt_irr _ h
theorem CLt.trans {all : List Cl} {a b c : Nat} (h : CLt all a b) (k : CLt all b c) : CLt all a c := by
  unfold CLt at *
  rcases h with h | ⟨h, h'⟩ <;> rcases k with k | ⟨k, k'⟩
  · exact .inl (by omega)
  · exact .inl (by omega)
  · exact .inl (by omega)
  · exact .inr ⟨by omega, wcmp_lt_trans h' (by omega)⟩
theorem CLt.ntrans {all : List Cl} {a b c : Nat} (h : ¬ CLt all a b) (k : ¬ CLt all b c) : ¬ CLt all a c := by
  unfold CLt at *
  have s1 := wcmp_swap (all[a]!).first (all[b]!).first
  have s2 := wcmp_swap (all[b]!).first (all[c]!).first
  have s3 := wcmp_swap (all[a]!).first (all[c]!).first
  have tr := wcmp_le_trans (all[c]!).first (all[b]!).first (all[a]!).first
  intro hac
  rcases hac with h1 | ⟨h1, h2⟩
  · omega
  · have e1 : (all[a]!).long = (all[b]!).long := by omega
    have e2 : (all[b]!).long = (all[c]!).long := by omega
    have := tr (by omega) (by omega)
    omega
def CInj (all : List Cl) : Prop := ∀ a b, a < all.length → b < all.length → (all[a]!).first = (all[b]!).first → a = b
theorem CLt.tot {all : List Cl} (hi : CInj all) {a b : Nat} (ha : a < all.length) (hb : b < all.length) (h : ¬ CLt all a b) (k : ¬ CLt all b a) : a = b := by
  unfold CLt at *
  have s1 := wcmp_swap (all[a]!).first (all[b]!).first
  have e1 : (all[a]!).long = (all[b]!).long := by omega
  exact hi a b ha hb ((wcmp_eq _ _).1 (by omega))
def natD (x : D) : Nat := match x with | .int _ z => z.toNat | _ => 0
def ns (l : List Nat) : List D := l.map fun (k : Nat) => .int .i64 (k : Int)
theorem ns_is (l : List Nat) : ns l = is (l.map fun (k : Nat) => (k : Int)) := by simp [ns, is]
theorem pSortC {l : List Sta} {B : List (List Int)} {S : MS} {xs ys : List Nat} (hf : ∀ c ∈ S.all, c.first.length ≤ 1000000) (hi : CInj S.all) (hx : ∀ x ∈ xs, x < S.all.length) (h0 : 0 < xs.length) (hmax : xs.length < 4611686018427387904) (hp : ys.Perm xs) (hs : ys.Pairwise (fun a b => ¬ CLt S.all b a)) :
    SoundM Tryz.prog 47 [.own 0 xs.length, .fn 48 [.d (.ptr [.ptr (MD l B S)])]] [(0, .row 3 1 (ns xs))] (.tup []) [(0, .row 3 1 (ns ys))] 1 := by
  have eg : ∀ args w, (callFunc 48 args).run Tryz.prog w = .ok (.enter 48 args) w := enters_of Tryz.func48 (by kernel_rfl) rfl
  have hlen : (ns xs).length = xs.length := by simp [ns]
  have gd : ∀ x, (∃ k : Nat, k < S.all.length ∧ x = D.int .i64 k) → D.int .i64 (natD x) = x ∧ natD x < S.all.length := fun x ⟨k, h1, h2⟩ => by subst h2; exact ⟨by simp [natD], by simpa [natD] using h1⟩
  have := sort_soundC (P := Tryz.prog) Tryz.sortInt eg (Good := fun x => ∃ k : Nat, k < S.all.length ∧ x = D.int .i64 k) (cf := fun x y => ccmp S.all (natD x) (natD y)) (cap0 := .ptr [.ptr (MD l B S)])
    (fun x y hx hy => by
      have := pMake1 (l := l) (B := B) (S := S) (gd x hx).2 (gd y hy).2 hf
      rwa [(gd x hx).1, (gd y hy).1] at this)
    (fun x hx => by rw [ccmp_lt]; exact CLt.irr _ _) (fun x y z _ _ _ h1 h2 => by rw [ccmp_lt] at *; exact h1.trans h2) (fun x y z _ _ _ h1 h2 => by rw [ccmp_lt] at *; exact CLt.ntrans h1 h2)
    (fun x y hx hy h1 h2 => by
      rw [ccmp_lt] at h1 h2
      have := CLt.tot hi (gd x hx).2 (gd y hy).2 h1 h2
      rw [← (gd x hx).1, ← (gd y hy).1, this])
    (fun x ⟨k, _, h⟩ => by rw [h]; rfl) (e := 3) (xs := ns xs) (ys := ns ys) (fun x hx' => by
      obtain ⟨k, hk, rfl⟩ := List.mem_map.1 hx'
      exact ⟨k, hx k hk, rfl⟩) (by rw [hlen]; exact h0) (by rw [hlen]; exact hmax) (hp.map _) (by
      unfold ns
      rw [List.pairwise_map]
      exact hs.imp (fun {a b} h => by rw [ccmp_lt]; simpa [natD] using h))
  rw [hlen] at this
  exact this
end Go.Eng.Tryz

/- The law: each state of what is made is led to, and leads on. (and what stands behind it: texts laid together) -/
import Derived.Test.YtabfoaoeghikoaaGreatDoorMR15
import Derived.Test.YtabfoaoeghikoaaGreatDoorMG4
import Derived.Test.YtabfoaoeghikoaaGreatDoorMR5
set_option linter.unusedVariables false
set_option linter.unusedSimpArgs false
namespace Go.Eng.Tryz
open Go Go.Eng Go.Proofs Go.RowKit
attribute [local go_sem] evFold rnE ksE roundE frz frzs List.set_cons_zero List.set_cons_succ List.zip_cons_cons List.zip_nil_right List.foldl_cons List.foldl_nil D.flat rns AV.rn HO.rn AV.ks kss HO.ks sg dedup objKs reach passE fresh List.filter fnOf evOp opnd lk v2d v2ds just evBin intBin nilBin isNil strBin evUn evLoad ldD ldA evStore evField evIndex evBuild fillA evBuildSlice evBuildSliceX evBuildSliceT isOwn1 evAppendTX evAppendTT evAppend evAppendClip elems evMake evSlice evSliceO evSliceX evSliceY evViewV evStoreX evStoreT stT stI evCopyT evAppendT evAppendTD ldT ldI Tb.inn Tb.ilen Tb.nilAt Tb.ini D.put evCut evView evCopy evAppendV evAgg evMakeMap evLookup evMapUpd evRange evEntry cellsD AV.kb splice List.getLast?_append resM resAs resA resD keepL List.replicate_zero List.take_length ofInt evLen evMin evMax evConv evNil evExtract evBuiltin toD toDs allD pack splice D.comps AV.comps AV.sto D.cell D.rebuild inOrder allFlat del put setE eff gd gslot kills Option.map_some Option.map_none Option.bind_some Option.isSome_some List.map_cons List.map_nil List.append_nil List.nil_append List.cons_append List.length_cons List.length_nil List.length_map List.length_append List.take_zero List.take_succ_cons List.take_nil List.drop_zero List.drop_succ_cons List.drop_nil List.getElem?_cons_zero List.getElem?_cons_succ List.getElem?_map List.all_cons List.all_nil List.mem_cons List.not_mem_nil List.elem_cons List.elem_nil Bool.and_true Bool.true_and Bool.and_self Bool.not_true Bool.not_false Bool.or_true Bool.or_false and_self and_true true_and or_false false_or or_true true_or not_false_eq_true not_true_eq_false if_true if_false decide_true decide_false decide_eq_true_eq Int.toNat_natCast Int.toNat_zero beq_self_eq_true bne_self_eq_false Bool.false_eq_true Nat.add_zero Nat.zero_add ty0 ty1 ty2 ty3 ty4 ty5 ty6 ty7 ty8 ty9 ty10 ty11 ty12 ty13 ty14 ty15 ty16 ty17 ty18 room le_i lt_i eq_n le_n lt_n len0 gdE bb_tf bb_ft mapP arrL if_min tdiv_nn tmod_nn us_len us_get wrap_i64 wrap_u64 dec_lt dec_nlt dec_le dec_nle beq_t beq_f bne_t bne_f get_lt gt_iff_lt ge_iff_le
attribute [local go_sem ↓] map_P reduceIte
attribute [local go_sem] reduceCtorEq Nat.reduceEqDiff Nat.reduceAdd Nat.reduceSub Nat.reduceMul Nat.reduceLeDiff Nat.reduceLT Nat.reduceBEq Nat.reduceBNe Int.reduceToNat Int.reduceLT Int.reduceLE Int.reduceEq Int.reduceAdd Int.reduceSub Int.reduceNeg Int.reduceBEq Int.reduceBNe
attribute [local go_sem] is_len is_get iss_len iss_get ars_len ars_get stas_len stas_get
def bls (l : List Bool) : List D := l.map D.bool
theorem bls_len {l : List Bool} : (bls l).length = l.length := by simp [bls]
theorem bls_get {l : List Bool} {k : Nat} (h : k < l.length) : (bls l)[k]? = some (.bool (l[k]!)) := by simp [bls, List.getElem?_eq_getElem h, getElem!_pos l k h]
theorem bls_set {l : List Bool} {k : Nat} {b : Bool} : (bls l).set k (.bool b) = bls (l.set k b) := by simp [bls, List.map_set]
attribute [local go_sem] bls_len bls_get bls_set
end Go.Eng.Tryz
set_option linter.unusedVariables false
set_option linter.unusedSimpArgs false
namespace Go.Eng.Tryz
open Go Go.Eng Go.Proofs Go.RowKit
attribute [local go_sem] ty0 ty1 ty2 ty3 ty4 ty5 ty6 ty7 ty8 ty9 ty10 ty11 ty12 ty13 ty14 ty15 ty16 ty17 ty18
attribute [local go_sem] is_len is_get iss_len iss_get ars_len ars_get stas_len stas_get bls_len bls_get bls_set
def Led (l : List Sta) (t : Nat) : Prop := ∃ u, leadF l 0 u = some (t : Int)
def Fin (l : List Sta) (t : Nat) : Prop := ∃ v s, leadF l t v = some s ∧ (l[s.toNat]!).final = true
theorem step_of {l : List Sta} (hka : achk l = true) {k : Nat} (hk : k < l.length) {a : Ar} (ha : a ∈ (l[k]!).arcs) : stepF l k a.sign = some a.to := by
  unfold stepF
  rw [if_pos ⟨by omega, by omega⟩, Int.toNat_natCast, arcs_find2 (statesOk_le (achk_iff.1 hka).1 hk) a ha]
  rfl
theorem Led.iff {l : List Sta} (hka : achk l = true) {t : Nat} (ht : t < l.length) : Led l t ↔ t = 0 ∨ ∃ p, p < t ∧ Led l p ∧ ∃ a ∈ (l[p]!).arcs, a.to.toNat = t := by
  have hl0 := (achk_iff.1 hka).2.1
  constructor
  · rintro ⟨u, hu⟩
    rcases List.eq_nil_or_concat u with rfl | ⟨v, z, rfl⟩
    · left
      simp only [leadF, Option.some.injEq] at hu
      omega
    · right
      rw [List.concat_eq_append, leadF_app] at hu
      cases h : leadF l 0 v with
      | none => rw [h] at hu; cases hu
      | some s =>
        rw [h] at hu
        simp only [leadF] at hu
        have hin := lead_in hka v 0 s (Int.le_refl _) (by omega) h
        obtain ⟨p, rfl⟩ := Int.eq_ofNat_of_zero_le hin.1
        cases hs : stepF l p z with
        | none => rw [hs] at hu; cases hu
        | some q =>
          rw [hs] at hu
          simp only [Option.some.injEq] at hu
          subst hu
          obtain ⟨h1, a, ha, e1, e2⟩ := stepF_arc hka hs
          have := stepF_in hka hs
          exact ⟨p, by omega, ⟨v, h⟩, a, ha, by rw [e2]; simp⟩
  · rintro (rfl | ⟨p, hp, ⟨v, hv⟩, a, ha, e⟩)
    · exact ⟨[], rfl⟩
    · have hin := achk_arc hka (by omega) a ha
      refine ⟨v ++ [a.sign], ?_⟩
      rw [leadF_app, hv]
      simp only [leadF, step_of hka (show p < l.length by omega) ha]
      congr 1
      omega
theorem Fin.iff {l : List Sta} (hka : achk l = true) {t : Nat} (ht : t < l.length) : Fin l t ↔ (l[t]!).final = true ∨ ∃ a ∈ (l[t]!).arcs, Fin l a.to.toNat := by
  constructor
  · rintro ⟨v, s, h1, h2⟩
    cases v with
    | nil =>
      simp only [leadF, Option.some.injEq] at h1
      subst h1
      exact .inl (by simpa using h2)
    | cons z v =>
      simp only [leadF] at h1
      cases hs : stepF l t z with
      | none => rw [hs] at h1; cases h1
      | some q =>
        rw [hs] at h1
        obtain ⟨_, a, ha, e1, e2⟩ := stepF_arc hka hs
        have := stepF_in hka hs
        exact .inr ⟨a, ha, v, s, by rw [e2, Int.toNat_of_nonneg (by omega)]; exact h1, h2⟩
  · rintro (h | ⟨a, ha, v, s, h1, h2⟩)
    · exact ⟨[], t, rfl, by simpa using h⟩
    · have hin := achk_arc hka ht a ha
      rw [Int.toNat_of_nonneg (by omega)] at h1
      exact ⟨a.sign :: v, s, by simp only [leadF, step_of hka ht ha]; exact h1, h2⟩
/-- Led to by the states ahead of k. -/
def FrI (l : List Sta) (k t : Nat) : Prop := (t = 0 ∧ 0 < k) ∨ ∃ p, p < k ∧ Led l p ∧ ∃ a ∈ (l[p]!).arcs, a.to.toNat = t
theorem FrI.self {l : List Sta} (hka : achk l = true) {k : Nat} (hk : k < l.length) : Led l k ↔ k = 0 ∨ FrI l k k := by
  rw [Led.iff hka hk]
  unfold FrI
  constructor
  · rintro (h | h)
    · exact .inl h
    · exact .inr (.inr h)
  · rintro (h | ⟨h, _⟩ | h)
    · exact .inl h
    · exact .inl h
    · exact .inr h
theorem FrI.next {l : List Sta} (hka : achk l = true) {k t : Nat} (hk : k < l.length) (ht : t < l.length) (hL : Led l k) : ((t = k ∨ FrI l k t) ∨ ∃ a ∈ (l[k]!).arcs, a.to.toNat = t) ↔ FrI l (k + 1) t := by
  constructor
  · rintro ((h | h) | ⟨a, ha, e⟩)
    · subst h
      rcases (Led.iff hka hk).1 hL with h | ⟨p, hp, h⟩
      · exact .inl ⟨h, by omega⟩
      · exact .inr ⟨p, by omega, h⟩
    · rcases h with ⟨h1, h2⟩ | ⟨p, hp, h⟩
      · exact .inl ⟨h1, by omega⟩
      · exact .inr ⟨p, by omega, h⟩
    · exact .inr ⟨k, by omega, hL, a, ha, e⟩
  · rintro (⟨h, _⟩ | ⟨p, hp, h, a, ha, e⟩)
    · by_cases e : k = 0
      · exact .inl (.inl (by omega))
      · exact .inl (.inr (.inl ⟨h, by omega⟩))
    · by_cases e2 : p = k
      · subst e2; exact .inr ⟨a, ha, e⟩
      · exact .inl (.inr (.inr ⟨p, by omega, h, a, ha, e⟩))
theorem FrI.skip {l : List Sta} {k t : Nat} (hk : k ≠ 0) (hL : ¬ Led l k) : FrI l (k + 1) t ↔ FrI l k t := by
  constructor
  · rintro (⟨h, _⟩ | ⟨p, hp, h, r⟩)
    · exact .inl ⟨h, by omega⟩
    · by_cases e : p = k
      · subst e; exact absurd h hL
      · exact .inr ⟨p, by omega, h, r⟩
  · rintro (⟨h, _⟩ | ⟨p, hp, h⟩)
    · exact .inl ⟨h, by omega⟩
    · exact .inr ⟨p, by omega, h⟩
theorem FrI.ini {l : List Sta} {k t : Nat} {F : List Bool} (hk : k < F.length) (h : F[t]! = true ↔ FrI l k t) : (F.set k true)[t]! = true ↔ (t = k ∨ FrI l k t) ∨ ∃ a ∈ (l[k]!).arcs.take 0, a.to.toNat = t := by
  rw [getB_setI hk]
  by_cases e : t = k
  · rw [if_pos e]
    exact ⟨fun _ => .inl (.inl e), fun _ => rfl⟩
  · rw [if_neg e, h]
    constructor
    · exact fun h => .inl (.inr h)
    · rintro ((h | h) | ⟨a, ha, _⟩)
      · exact absurd h e
      · exact h
      · simp at ha
end Go.Eng.Tryz
set_option linter.unusedVariables false
set_option linter.unusedSimpArgs false
namespace Go.Eng.Tryz
open Go Go.Eng Go.Proofs Go.RowKit
attribute [local go_sem] ty0 ty1 ty2 ty3 ty4 ty5 ty6 ty7 ty8 ty9 ty10 ty11 ty12 ty13 ty14 ty15 ty16 ty17 ty18
attribute [local go_sem] is_len is_get ars_len ars_get stas_len stas_get iss_len iss_get dels
theorem is_snoc {l : List Int} {z : Int} : is l ++ [.int .i64 z] = is (l ++ [z]) := by simp [is]
theorem is_takeW {l : List Int} {k : Nat} : (is l).take k = is (l.take k) := by simp [is, List.map_take]
end Go.Eng.Tryz

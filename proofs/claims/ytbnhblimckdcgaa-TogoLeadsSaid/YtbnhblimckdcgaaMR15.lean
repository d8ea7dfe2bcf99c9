/- What it costs to finish: where signs lead; a step's ends. (and what stands behind it: texts laid together) -/
import Derived.Test.YtbnhblimckdcgaaMG4
import Derived.Test.YtbnhblimckdcgaaMR14
set_option linter.unusedVariables false
set_option linter.unusedSimpArgs false
namespace Go.Eng.Try
open Go Go.Eng Go.Proofs Go.RowKit
attribute [local go_sem] evFold rnE ksE roundE frz frzs List.set_cons_zero List.set_cons_succ List.zip_cons_cons List.zip_nil_right List.foldl_cons List.foldl_nil D.flat rns AV.rn HO.rn AV.ks kss HO.ks sg dedup objKs reach passE fresh List.filter fnOf evOp opnd lk v2d v2ds just evBin intBin nilBin isNil strBin evUn evLoad ldD ldA evStore evField evIndex evBuild fillA evBuildSlice evAppend evAppendClip elems evMake evSlice evSliceO evSliceX evSliceY evViewV evStoreX evStoreT stT stI evCopyT evAppendT evAppendTD ldT ldI Tb.inn Tb.ilen Tb.nilAt Tb.ini D.put evCut evView evCopy evAppendV evAgg evMakeMap evLookup evMapUpd evRange evEntry cellsD AV.kb splice List.getLast?_append resM resAs resA resD keepL List.replicate_zero List.take_length ofInt evLen evMin evMax evConv evNil evExtract evBuiltin toD toDs allD pack splice D.comps AV.comps AV.sto D.cell D.rebuild inOrder allFlat del put setE eff gd gslot kills Option.map_some Option.map_none Option.bind_some Option.isSome_some List.map_cons List.map_nil List.append_nil List.nil_append List.cons_append List.length_cons List.length_nil List.length_map List.length_append List.take_zero List.take_succ_cons List.take_nil List.drop_zero List.drop_succ_cons List.drop_nil List.getElem?_cons_zero List.getElem?_cons_succ List.getElem?_map List.all_cons List.all_nil List.mem_cons List.not_mem_nil List.elem_cons List.elem_nil Bool.and_true Bool.true_and Bool.and_self Bool.not_true Bool.not_false Bool.or_true Bool.or_false and_self and_true true_and or_false false_or or_true true_or not_false_eq_true not_true_eq_false if_true if_false decide_true decide_false decide_eq_true_eq Int.toNat_natCast Int.toNat_zero beq_self_eq_true bne_self_eq_false Bool.false_eq_true Nat.add_zero Nat.zero_add tys room le_i lt_i eq_n le_n lt_n len0 gdE bb_tf bb_ft mapP arrL if_min tdiv_nn tmod_nn us_len us_get wrap_i64 wrap_u64 dec_lt dec_nlt dec_le dec_nle beq_t beq_f bne_t bne_f get_lt gt_iff_lt ge_iff_le
attribute [local go_sem ↓] map_P reduceIte
attribute [local go_sem] reduceCtorEq Nat.reduceEqDiff Nat.reduceAdd Nat.reduceSub Nat.reduceMul Nat.reduceLeDiff Nat.reduceLT Nat.reduceBEq Nat.reduceBNe Int.reduceToNat Int.reduceLT Int.reduceLE Int.reduceEq Int.reduceAdd Int.reduceSub Int.reduceNeg Int.reduceBEq Int.reduceBNe
attribute [local go_sem] is_len is_get ars_len ars_get stas_len stas_get tt_len tt_getD tt_get TU
theorem leadF_take {l : List Sta} {f : Int} {w : List Int} {k : Nat} (h : k < w.length) : leadF l f (w.take (k + 1)) = match leadF l f (w.take k) with | some t => stepF l t (w[k]!) | none => none := by
  rw [atake_snoc h, leadF_app]
  cases leadF l f (w.take k) with
  | none => rfl
  | some t => simp only [leadF]; cases stepF l t (w[k]!) <;> rfl
theorem leadF_none {l : List Sta} {f : Int} {w : List Int} {k : Nat} (h : leadF l f (w.take k) = none) : leadF l f w = none := by
  have := leadF_app l (w.take k) (w.drop k) f
  rw [List.take_append_drop, h] at this
  exact this
set_option maxHeartbeats 4000000 in
set_option maxRecDepth 10000 in
theorem pLead {l : List Sta} {f : Int} {w : List Int} (hl : StaOk l) (hw : w.length ≤ 9223372036854775807) : Sound Try.prog 37 [.sl 2 (stas l), .int .i64 f, .sl 1 (is w)] (stepR (leadG l f w)) := by
  have hlen := hl.1
  by_cases h0 : f < 0
  · have e : leadG l f w = none := if_neg (by omega)
    rw [e]; unfold stepR
    refine Sound.run (N := 37) Try.func37 rfl (by kernel_rfl) rfl rfl rfl (by first | exact args0_0 | exact args0_1 | exact args0_2 | exact args0_3 | exact args0_4 | exact args0_5 | exact args0_6) fun X_ w_ => ?_
    refine goT ?_; first | exact trivial | skip
  by_cases h1 : (l.length : Int) ≤ f
  · have e : leadG l f w = none := if_neg (by omega)
    rw [e]; unfold stepR
    refine Sound.run (N := 37) Try.func37 rfl (by kernel_rfl) rfl rfl rfl (by first | exact args0_0 | exact args0_1 | exact args0_2 | exact args0_3 | exact args0_4 | exact args0_5 | exact args0_6) fun X_ w_ => ?_
    refine goT ?_; first | exact trivial | skip
  have eG : leadG l f w = leadF l f w := if_pos (by omega)
  rw [eG]
  refine Sound.run (N := 37) Try.func37 rfl (by kernel_rfl) rfl rfl rfl (by first | exact args0_0 | exact args0_1 | exact args0_2 | exact args0_3 | exact args0_4 | exact args0_5 | exact args0_6) fun X_ w_ => ?_
  refine goT ?_; first | exact trivial | skip
  refine WP_loopk (fun p : Nat × Int => p.1 ≤ w.length ∧ leadF l f (w.take p.1) = some p.2) (fun p => [(0, .d (.sl 2 (stas l))), (1, .d (.int .i64 p.2)), (8, .d (.bool true)), (19, .d (.sl 1 (is w))), (20, .d (.int .i64 w.length)), (21, .d (.int .i64 p.1))]) (fun _ => []) 0 (fun p => w.length - p.1) [0, 1, 8, 19, 20, 21] [] (0, f) ⟨Nat.zero_le _, rfl⟩ rfl rfl (Nat.le_refl _) (fun _ _ => rfl) (fun _ _ => rfl) fun p hp => ?_
  obtain ⟨k, t⟩ := p
  obtain ⟨hk1, hk2⟩ := hp
  simp only at hk1 hk2
  by_cases hk3 : k < w.length
  · have cs := pStep (f := t) (z := w[k]!) hl
    have hst := leadF_take (l := l) (f := f) hk3
    rw [hk2] at hst
    simp only at hst
    cases hsf : stepF l t (w[k]!) with
    | none =>
      rw [hsf] at cs hst
      rw [leadF_none hst]
      unfold stepR at cs ⊢
      have c0_ := cs; refine goT ?_; first | exact trivial | skip
    | some u =>
      rw [hsf] at cs hst
      unfold stepR at cs
      have c0_ := cs; refine goT ?_; first | exact trivial | skip
      refine ⟨(k + 1, u), ⟨by show k + 1 ≤ _; omega, hst⟩, ?_, rfl, by show w.length - (k + 1) < w.length - k; omega⟩
      simp (disch := omega) only [go_sem, keepL, Int.natCast_add, Int.cast_ofNat_Int]
  · have hkl : k = w.length := by omega
    subst hkl
    rw [List.take_length] at hk2
    rw [hk2]; unfold stepR
    refine goT ?_; first | exact trivial | skip
/-- What the closure looks at. -/
def Cl (m : Int) (s : Se) (n : Nat) (i : Nat) (t : List (List Int)) : Heap := [(0, .var [.d (.int .u64 m)]), (1, .var [.d (.int .i64 s.eat), .d (.sl 1 (is s.put)), .d (.bool s.any), .d (.int .u64 s.cost)]), (2, .var [.tab 4 n]), (3, .var [.d (.int .i64 i)]), (4, .tab TU (tt t) none)]
set_option maxHeartbeats 4000000 in
set_option maxRecDepth 10000 in
theorem pTb1 {m : Int} {s : Se} {n i : Nat} {t : List (List Int)} {e : Nat} (hn : t.length = n) (hi : i + s.eat.toNat < n) (he0 : 0 ≤ s.eat) (hrow : (t[i + s.eat.toNat]!).length ≤ 1000000) (he : e < (t[i + s.eat.toNat]!).length) (hnn : n ≤ 1000000)
    (hm : U m) (hc : U s.cost) (hv : U (get2 t (i + s.eat.toNat) e)) : SoundM Try.prog 72 [.d (.int .i64 e), .ref 0 0, .ref 1 0, .ref 2 0, .ref 3 0] (Cl m s n i t) (.tup []) (Cl (endK t i s m e) s n i t) 5 := by
  obtain ⟨eat, put, any, cost⟩ := s
  obtain ⟨d, rfl⟩ := Int.eq_ofNat_of_zero_le he0
  simp only [Int.toNat_natCast] at hi hrow he hv
  have c1 := costAdd hc hv
  have c2 := costLeast2 hm (U_cadd hc hv)
  have ei : (i : Int) + (d : Int) = ((i + d : Nat) : Int) := by omega
  have eE : endK t i ⟨d, put, any, cost⟩ m e = min m (cadd cost ((t[i + d]!)[e]!)) := rfl
  rw [eE]
  unfold get2 at c1 c2
  unfold Cl
  refine SoundM.run (N := 22) (ks := [0, 1, 2, 3, 4]) Try.func72 rfl (by kernel_rfl) rfl rfl rfl (by first | exact argsA_0 | exact argsA_1 | exact argsA_2 | exact argsA_3 | exact argsA_4 | exact argsA_5 | exact argsA_6) fun X_ ν_ w_ => ?_
  have c0_ := c1; have c1_ := c2; refine goX (And.intro @hn (And.intro @ei @us_len)) ?_; first | exact trivial | skip
set_option maxHeartbeats 4000000 in
set_option maxRecDepth 10000 in
theorem pEnds {m : Int} {s : Se} {n i k : Nat} {t : List (List Int)} {l : List Sta} (hl : StaOk l) (hchk : achk l = true) (hk : k < l.length) (hn : t.length = n) (hi : i + s.eat.toNat < n) (he0 : 0 ≤ s.eat) (hrow : (t[i + s.eat.toNat]!).length = l.length) (hnn : n ≤ 1000000) (hput : s.put.length ≤ 9223372036854775807)
    (hm : U m) (hc : U s.cost) (hv : ∀ e ∈ endsF s l k, U (get2 t (i + s.eat.toNat) e.toNat)) : SoundM Try.prog 71 [.d (se s), .d (.sl 2 (stas l)), .d (.int .i64 k), .fn 72 [.ref 0 0, .ref 1 0, .ref 2 0, .ref 3 0]] (Cl m s n i t) (.tup []) (Cl (stK l t i k m s) s n i t) 5 := by
  have hlen := (achk_iff.1 hchk).2.2
  have hlok := hl.1
  have hak := hl.get hk
  unfold se
  cases ha : s.any
  · have cl := pLead (f := k) (w := s.put) hl hput
    cases hg : leadG l k s.put with
    | none =>
      have e : endsF s l k = [] := by unfold endsF; rw [ha, if_neg (by decide), hg]
      have eS : stK l t i k m s = m := by unfold stK; rw [e]; rfl
      rw [hg] at cl
      unfold stepR at cl
      rw [eS]
      unfold Cl
      rw [ha]
      refine SoundM.run (N := 41) (ks := [0, 1, 2, 3, 4]) Try.func71 rfl (by kernel_rfl) rfl rfl rfl (by first | exact argsA_0 | exact argsA_1 | exact argsA_2 | exact argsA_3 | exact argsA_4 | exact argsA_5 | exact argsA_6) fun X_ ν_ w_ => ?_
      have c0_ := cl; refine goT ?_; first | exact trivial | skip
    | some e0 =>
      have e : endsF s l k = [e0] := by unfold endsF; rw [ha, if_neg (by decide), hg]
      have eS : stK l t i k m s = endK t i s m e0 := by unfold stK; rw [e]; rfl
      have hin := endsF_in hchk hk (s := s) (e := e0) (by rw [e]; simp)
      obtain ⟨x, rfl⟩ := Int.eq_ofNat_of_zero_le (by omega : 0 ≤ e0)
      have hvx := hv x (by rw [e]; simp)
      have ct := pTb1 (m := m) (s := s) (n := n) (i := i) (t := t) (e := x) hn hi he0 (by omega) (by omega) hnn hm hc (by simpa using hvx)
      rw [hg] at cl
      unfold stepR at cl
      rw [eS]
      unfold Cl at ct ⊢
      rw [ha] at ct ⊢
      refine SoundM.run (N := 41) (ks := [0, 1, 2, 3, 4]) Try.func71 rfl (by kernel_rfl) rfl rfl rfl (by first | exact argsA_0 | exact argsA_1 | exact argsA_2 | exact argsA_3 | exact argsA_4 | exact argsA_5 | exact argsA_6) fun X_ ν_ w_ => ?_
      have c0_ := cl; have c1_ := ct; refine goT ?_; first | exact trivial | skip
  · have e : endsF s l k = (l[k]!).arcs.map (·.to) := by unfold endsF; rw [ha, if_pos rfl]
    have eS : stK l t i k m s = ((l[k]!).arcs.map (·.to)).foldl (endK t i s) m := by unfold stK; rw [e]
    rw [eS]
    rw [e] at hv
    unfold Cl
    rw [ha]
    refine SoundM.run (N := 41) (ks := [0, 1, 2, 3, 4]) Try.func71 rfl (by kernel_rfl) rfl rfl rfl (by first | exact argsA_0 | exact argsA_1 | exact argsA_2 | exact argsA_3 | exact argsA_4 | exact argsA_5 | exact argsA_6) fun X_ ν_ w_ => ?_
    refine goT ?_; first | exact trivial | skip
    refine WP_loopk (fun j : Nat => j ≤ (l[k]!).arcs.length) (fun j => [(3, .fn 72 [.ref 0 0, .ref 1 0, .ref 2 0, .ref 3 0]), (18, .d (.sl 2 (ars (l[k]!).arcs))), (19, .d (.int .i64 (l[k]!).arcs.length)), (20, .d (.int .i64 j))])
      (fun j => [(0, .var [.d (.int .u64 ((((l[k]!).arcs.take j).map (·.to)).foldl (endK t i s) m))]), (1, .var [.d (.int .i64 s.eat), .d (.sl 1 (is s.put)), .d (.bool true), .d (.int .u64 s.cost)]), (2, .var [.tab 4 n]), (3, .var [.d (.int .i64 i)]), (4, .tab TU (tt t) none)]) 5 (fun j => (l[k]!).arcs.length - j) [3, 18, 19, 20] [0, 1, 2, 3, 4] 0 (Nat.zero_le _) rfl rfl (Nat.le_of_ble_eq_true rfl) (fun _ _ => rfl) (fun _ _ => rfl) fun j hj => ?_
    by_cases hj2 : j < (l[k]!).arcs.length
    · have hmem : (l[k]!).arcs[j]! ∈ (l[k]!).arcs := by rw [getElem!_pos _ j hj2]; exact List.getElem_mem hj2
      have harc := achk_arc hchk hk _ hmem
      obtain ⟨x, hx⟩ := Int.eq_ofNat_of_zero_le (by omega : 0 ≤ ((l[k]!).arcs[j]!).to)
      have hvx := hv x (List.mem_map.2 ⟨_, hmem, hx⟩)
      have hum : U ((((l[k]!).arcs.take j).map (·.to)).foldl (endK t i s) m) := ends_fold hc _ _ hm fun e he => by
        obtain ⟨a, ham, rfl⟩ := List.mem_map.1 he
        exact hv _ (List.mem_map.2 ⟨a, List.mem_of_mem_take ham, rfl⟩)
      have ct := pTb1 (m := (((l[k]!).arcs.take j).map (·.to)).foldl (endK t i s) m) (s := s) (n := n) (i := i) (t := t) (e := x) hn hi he0 (by omega) (by omega) hnn hum hc (by simpa using hvx)
      have hst : (((l[k]!).arcs.take (j + 1)).map (·.to)).foldl (endK t i s) m = endK t i s ((((l[k]!).arcs.take j).map (·.to)).foldl (endK t i s) m) x := by
        rw [atake_snoc hj2, List.map_append, List.foldl_append, List.map_cons, List.map_nil, hx]; rfl
      unfold Cl at ct
      rw [ha] at ct
      have c0_ := ct; refine goX @hx ?_; first | exact trivial | skip
      refine ⟨j + 1, by omega, ?_, ?_, by omega⟩
      · simp (disch := omega) only [go_sem, keepL, Int.natCast_add, Int.cast_ofNat_Int]
      · simp (disch := omega) only [go_sem, keepL, hst]
    · have hje : j = (l[k]!).arcs.length := by omega
      subst hje
      rw [List.take_length]
      refine goT ?_; first | exact trivial | skip
end Go.Eng.Try
set_option linter.unusedVariables false
set_option linter.unusedSimpArgs false
namespace Go.Eng.Try
open Go Go.Eng Go.Proofs Go.RowKit
attribute [local go_sem] evFold rnE ksE roundE frz frzs List.set_cons_zero List.set_cons_succ List.zip_cons_cons List.zip_nil_right List.foldl_cons List.foldl_nil D.flat rns AV.rn HO.rn AV.ks kss HO.ks sg dedup objKs reach passE fresh List.filter fnOf evOp opnd lk v2d v2ds just evBin intBin nilBin isNil strBin evUn evLoad ldD ldA evStore evField evIndex evBuild fillA evBuildSlice evAppend evAppendClip elems evMake evSlice evSliceO evSliceX evSliceY evViewV evStoreX evStoreT stT stI evCopyT evAppendT evAppendTD ldT ldI Tb.inn Tb.ilen Tb.nilAt Tb.ini D.put evCut evView evCopy evAppendV evAgg evMakeMap evLookup evMapUpd evRange evEntry cellsD AV.kb splice List.getLast?_append resM resAs resA resD keepL List.replicate_zero List.take_length ofInt evLen evMin evMax evConv evNil evExtract evBuiltin toD toDs allD pack splice D.comps AV.comps AV.sto D.cell D.rebuild inOrder allFlat del put setE eff gd gslot kills Option.map_some Option.map_none Option.bind_some Option.isSome_some List.map_cons List.map_nil List.append_nil List.nil_append List.cons_append List.length_cons List.length_nil List.length_map List.length_append List.take_zero List.take_succ_cons List.take_nil List.drop_zero List.drop_succ_cons List.drop_nil List.getElem?_cons_zero List.getElem?_cons_succ List.getElem?_map List.all_cons List.all_nil List.mem_cons List.not_mem_nil List.elem_cons List.elem_nil Bool.and_true Bool.true_and Bool.and_self Bool.not_true Bool.not_false Bool.or_true Bool.or_false and_self and_true true_and or_false false_or or_true true_or not_false_eq_true not_true_eq_false if_true if_false decide_true decide_false decide_eq_true_eq Int.toNat_natCast Int.toNat_zero beq_self_eq_true bne_self_eq_false Bool.false_eq_true Nat.add_zero Nat.zero_add tys room le_i lt_i eq_n le_n lt_n len0 gdE bb_tf bb_ft mapP arrL if_min tdiv_nn tmod_nn us_len us_get wrap_i64 wrap_u64 dec_lt dec_nlt dec_le dec_nle beq_t beq_f bne_t bne_f get_lt gt_iff_lt ge_iff_le
attribute [local go_sem ↓] map_P reduceIte
attribute [local go_sem] reduceCtorEq Nat.reduceEqDiff Nat.reduceAdd Nat.reduceSub Nat.reduceMul Nat.reduceLeDiff Nat.reduceLT Nat.reduceBEq Nat.reduceBNe Int.reduceToNat Int.reduceLT Int.reduceLE Int.reduceEq Int.reduceAdd Int.reduceSub Int.reduceNeg Int.reduceBEq Int.reduceBNe
attribute [local go_sem] is_len is_get ses_len ses_get sss_len sss_get ars_len ars_get stas_len stas_get tt_len tt_getD tt_get tt_set us_set rep_us TU
theorem nilAt_rep0 {n : Nat} : (List.replicate n D.nils).all TU.nilAt = true := nilAt_rep
theorem ini_rep0 {n : Nat} : (List.replicate n D.nils).map TU.ini = tt (List.replicate n []) := by simp [Tb.ini, TU, D.put, tt, us]
def mayG (c : Co) (q : List Int) (l : List Sta) : Bool := may c q && achk l
/-- What the table tells. -/
def tableG (c : Co) (q : List Int) (l : List Sta) : List (List Int) := if mayG c q l = true then tg (allF c q (q.length + 1)) l else []
set_option maxHeartbeats 16000000 in
set_option maxRecDepth 10000 in
theorem pTG1 {c : Co} {q : List Int} {l : List Sta} (hc : c.ok) (hm : may c q = true) (hl : StaOk l) (hchk : achk l = true) : Sound Try.prog 38 [co c, .sl 1 (is q), .sl 2 (stas l)] (.sl 1 (tt (tg (allF c q (q.length + 1)) l))) := by
  obtain ⟨hq, hk⟩ := may_iff.1 hm
  have ca := pAll (q := q) hc (by omega)
  have eA : stepsAll c q = allF c q (q.length + 1) := if_pos hm
  rw [eA] at ca
  have cch := pCheckA hl
  rw [hchk] at cch
  have hS := tg_steps hc hk q
  have hput : ∀ i, i < q.length + 1 → ∀ s ∈ (allF c q (q.length + 1))[i]!, s.put.length ≤ 8 := fun i hi s hs => by
    rw [allF_get c q hi] at hs
    exact (stAt_ok hc hk hs).2.2.2.1
  have hlen := allF_len c q (q.length + 1)
  have hllen := achk_iff.1 hchk
  obtain ⟨A0, A1, hA⟩ : ∃ A0 A1, allF c q (q.length + 1) = A0 :: A1 := by
    cases h : allF c q (q.length + 1) with
    | nil => rw [h] at hlen; simp at hlen
    | cons a b => exact ⟨a, b, rfl⟩
  have eN : sss (allF c q (q.length + 1)) = .sl 4 (ses A0) :: sss A1 := by rw [hA]; rfl
  have hL : A1.length + 1 = (allF c q (q.length + 1)).length := by rw [hA]; simp
  have hsl : ∀ i, i < q.length + 1 → ((allF c q (q.length + 1))[i]!).length ≤ 1000 := fun i hi => by
    obtain ⟨k1, k2⟩ := cok_rules hk
    rw [allF_get c q hi]
    have h1 := st3_len c (q.drop i)
    have h2 := st4_len (q.drop i) c.rules
    unfold stAt
    simp only [List.length_append]
    omega
  generalize hall : allF c q (q.length + 1) = all at *
  have h0 : 0 < all.length := by omega
  unfold co at ca ⊢
  refine Sound.run (N := 90) Try.func38 rfl (by kernel_rfl) rfl rfl rfl (by first | exact args0_0 | exact args0_1 | exact args0_2 | exact args0_3 | exact args0_4 | exact args0_5 | exact args0_6) fun X_ w_ => ?_
  have c0_ := ca; have c1_ := cch; repeat ((fail_if_success (with_reducible show WP _ _ (.region 5 _ _) _ _)); first | with_reducible exact Ev.nil | with_reducible exact gd_n | ((with_reducible apply lk_ok); rfl) | ((with_reducible apply gslot_ok); rfl) | ((with_reducible apply v2d_ok); rfl) | with_reducible apply then_n | with_reducible apply WP_seq | with_reducible apply WP_skip | ((with_reducible apply WP_r (N := 90) rfl rfl); (focus simp only [Nat.reduceAdd] <;> rfl)) | ((with_reducible apply WP_d (N := 90) mixed rfl rfl); (focus simp only [Nat.reduceAdd] <;> rfl)) | ((with_reducible apply Ev_s); (focus first | (apply gd_u; (focus rfl); rfl) | (apply gd_f; (focus rfl); (focus rfl); rfl))) | ((with_reducible apply Ev_sn); (focus first | (apply gd_u; (focus rfl); rfl) | (apply gd_f; (focus rfl); (focus rfl); rfl))) | with_reducible apply gd_t | with_reducible apply Ev_mv | with_reducible apply Ev_as | with_reducible apply Ev_mc | with_reducible apply Ev_ac | ((first | (with_reducible apply Ev_pt) | (with_reducible apply Ev_ptc)); (focus rfl)) | ((first | (with_reducible apply Ev_pf) | (with_reducible apply Ev_pfc)); (focus rfl)) | (apply Ev_cf; (focus simp (disch := omega) only [go_sem, eN, hL] <;> rfl); (focus first | exact c0_ | exact c1_); (focus rfl); (focus first | (simp (disch := omega) only [go_sem, eN, hL] <;> rfl) | rfl)) | ((with_reducible apply Ev_d); (focus simp only [Nat.reduceAdd] <;> rfl); (focus simp (disch := omega) only [go_sem, eN, hL] <;> rfl)) | (apply Ev_cv; (focus rfl); (focus simp (disch := omega) only [go_sem, eN, hL] <;> rfl); (focus first | exact c0_ | exact c1_); (iterate 3 (focus first | (simp (disch := omega) only [go_sem, eN, hL] <;> rfl) | rfl))) | ((first | apply Ev_cmd | apply Ev_cmn); (focus simp only [Nat.reduceAdd] <;> rfl); (focus rfl); (iterate 2 (focus simp (disch := omega) only [go_sem, eN, hL] <;> rfl)); (first | ((focus first | exact c0_ | exact c1_); (iterate 2 (focus first | (simp (disch := omega) only [go_sem, eN, hL] <;> rfl) | rfl)); (focus rfl); (iterate 3 (focus first | (simp (disch := omega) only [go_sem, eN, hL] <;> rfl) | rfl))))) | ((first | (with_reducible apply Ev_od) | (with_reducible apply Ev_on)); (focus simp only [Nat.reduceAdd] <;> rfl); (focus simp (disch := omega) only [go_sem, eN, hL] <;> rfl); (focus first | (simp (disch := omega) only [go_sem, eN, hL] <;> rfl) | rfl)) | with_reducible apply endM_n | with_reducible apply endM_r | with_reducible apply then_r | with_reducible apply then_x | with_reducible apply block_n | with_reducible apply block_r | with_reducible apply block_x | with_reducible apply block_y rfl | with_reducible apply scope_n | with_reducible apply scope_r | with_reducible apply scope_x | with_reducible apply end_n | with_reducible apply end_r | with_reducible apply WP_block | with_reducible apply WP_exit | with_reducible apply WP_ret | with_reducible apply WP_label | with_reducible apply WP_scope | ((with_reducible apply WP_t); (focus first | (simp (disch := omega) only [go_sem, eN, hL] <;> rfl) | rfl)) | ((with_reducible apply WP_f); (focus first | (simp (disch := omega) only [go_sem, eN, hL] <;> rfl) | rfl)) | ((with_reducible apply resD_t); (focus rfl)) | ((with_reducible apply resD_2); (focus rfl); (focus rfl)) | (with_reducible rfl) | ((with_reducible show List.map outKeys _ = _); simp only [List.map_cons, List.map_nil, outKeys, keys]; rfl) | ((with_reducible show orderOk _ _ = true); kernel_rfl) | ((with_reducible show _ = _); simp (disch := omega) only [go_sem, eN, hL] <;> rfl) | ((fail_if_success (with_reducible show Ev _ _ _ _ (_ :: _) _ _ _ _ _)); (show Ev _ _ _ _ (_ :: _) _ _ _ _ _)) | fail)
  refine WP_tabv 3003 0 20000 TU rfl rfl rfl (by simp) rfl rfl (by decide) nilAt_rep0 (Nat.le_of_ble_eq_true rfl) ini_rep0 rfl ?_
  refine goX @hL ?_; first | exact trivial | skip
  refine WP_loopk (fun k : Nat => k ≤ all.length) (fun k => [(1, .d (.sl 1 (is q))), (2, .d (.sl 2 (stas l))), (7, .d (.sl 1 (sss all))), (8, .ref 3003 0), (30, .d (.int .i64 all.length)), (31, .d (.int .i64 k))]) (fun k => [(3003, .var [.tab 20000 all.length]), (20000, .tab TU (tt (tgI all l k)) none)]) 20001 (fun k => all.length - k) [1, 2, 7, 8, 30, 31] [3003, 20000] 0 (Nat.zero_le _) (by rw [eN]; rfl) rfl (Nat.zero_le _) (fun _ _ => rfl) (fun _ _ => rfl) fun k hk' => ?_
  obtain ⟨i1, i2, i3, i4⟩ := tgI_done hS hchk k hk'
  have hst1 := tgI_step all l k
  by_cases hk2 : k < all.length
  · obtain ⟨i, hi⟩ : ∃ i, i = all.length - 1 - k := ⟨_, rfl⟩
    have ei : (q.length : Int) - (k : Int) = (i : Int) := by omega
    have hia : i < all.length := by omega
    rw [← hi] at hst1
    have hni : (tgI all l k)[i]! = [] := i3 i (by omega)
    have f0 : (tgI all l k).length = all.length := i1
    have hll0 : 0 < l.length := hllen.2.1
    repeat (first | with_reducible exact Ev.nil | with_reducible exact gd_n | ((with_reducible apply lk_ok); rfl) | ((with_reducible apply gslot_ok); rfl) | ((with_reducible apply v2d_ok); rfl) | with_reducible apply then_n | with_reducible apply WP_seq | with_reducible apply WP_skip | ((with_reducible apply WP_r (N := 90) rfl rfl); (focus simp only [Nat.reduceAdd] <;> rfl)) | ((with_reducible apply WP_d (N := 90) mixed rfl rfl); (focus simp only [Nat.reduceAdd] <;> rfl)) | ((with_reducible apply Ev_s); (focus first | (apply gd_u; (focus rfl); rfl) | (apply gd_f; (focus rfl); (focus rfl); rfl))) | ((with_reducible apply Ev_sn); (focus first | (apply gd_u; (focus rfl); rfl) | (apply gd_f; (focus rfl); (focus rfl); rfl))) | with_reducible apply gd_t | with_reducible apply Ev_mv | with_reducible apply Ev_as | with_reducible apply Ev_mc | with_reducible apply Ev_ac | ((first | (with_reducible apply Ev_pt) | (with_reducible apply Ev_ptc)); (focus rfl)) | ((first | (with_reducible apply Ev_pf) | (with_reducible apply Ev_pfc)); (focus rfl)) | ((with_reducible apply Ev_d); (focus simp only [Nat.reduceAdd] <;> rfl); (focus simp (disch := omega) only [go_sem, ei, f0, hni, us_len, List.length_replicate] <;> rfl)) | ((first | (with_reducible apply Ev_od) | (with_reducible apply Ev_on)); (focus simp only [Nat.reduceAdd] <;> rfl); (focus simp (disch := omega) only [go_sem, ei, f0, hni, us_len, List.length_replicate] <;> rfl); (focus first | (simp (disch := omega) only [go_sem, ei, f0, hni, us_len, List.length_replicate] <;> rfl) | rfl)) | with_reducible apply endM_n | with_reducible apply endM_r | with_reducible apply then_r | with_reducible apply then_x | with_reducible apply block_n | with_reducible apply block_r | with_reducible apply block_x | with_reducible apply block_y rfl | with_reducible apply scope_n | with_reducible apply scope_r | with_reducible apply scope_x | with_reducible apply end_n | with_reducible apply end_r | with_reducible apply WP_block | with_reducible apply WP_exit | with_reducible apply WP_ret | with_reducible apply WP_label | with_reducible apply WP_scope | ((with_reducible apply WP_t); (focus first | (simp (disch := omega) only [go_sem, ei, f0, hni, us_len, List.length_replicate] <;> rfl) | rfl)) | ((with_reducible apply WP_f); (focus first | (simp (disch := omega) only [go_sem, ei, f0, hni, us_len, List.length_replicate] <;> rfl) | rfl)) | ((with_reducible apply resD_t); (focus rfl)) | ((with_reducible apply resD_2); (focus rfl); (focus rfl)) | (with_reducible rfl) | ((with_reducible show List.map outKeys _ = _); simp only [List.map_cons, List.map_nil, outKeys, keys]; rfl) | ((with_reducible show orderOk _ _ = true); kernel_rfl) | ((with_reducible show _ = _); simp (disch := omega) only [go_sem, ei, f0, hni, us_len, List.length_replicate] <;> rfl) | ((fail_if_success (with_reducible show Ev _ _ _ _ (_ :: _) _ _ _ _ _)); (show Ev _ _ _ _ (_ :: _) _ _ _ _ _)) | fail)
    refine WP_loopk (fun m : Nat => m ≤ l.length) (fun m => [(1, .d (.sl 1 (is q))), (2, .d (.sl 2 (stas l))), (7, .d (.sl 1 (sss all))), (8, .ref 3003 0), (30, .d (.int .i64 all.length)), (31, .d (.int .i64 k)), (10, .ref 22005 0), (45, .d (.int .i64 l.length)), (46, .d (.int .i64 m))]) (fun m => [(3003, .var [.tab 20000 all.length]), (20000, .tab TU (tt (tgM all l i ((tgI all l k).set i (List.replicate l.length 0)) m)) none), (22005, .var [.d (.int .i64 i)])]) 30000 (fun m => l.length - m) [1, 2, 7, 8, 30, 31, 10, 45, 46] [3003, 20000, 22005] 0 (Nat.zero_le _) rfl rfl (Nat.zero_le _) (fun _ _ => rfl) (fun _ _ => rfl) fun m hm' => ?_
    generalize hT0 : (tgI all l k).set i (List.replicate l.length 0) = T0 at hst1 ⊢
    have hget : ∀ a, T0[a]! = if a = i then List.replicate l.length 0 else (tgI all l k)[a]! := fun a => by rw [← hT0]; exact getB_set (by omega)
    have hg2 : ∀ a b, a ≠ i → get2 T0 a b = get2 (tgI all l k) a b := fun a b h => by unfold get2; rw [hget, if_neg h]
    obtain ⟨j1, j2, j3, j4⟩ := tgM_done (t := T0) hS hchk hia (by rw [← hT0]; simp [i1]) (by rw [hget, if_pos rfl]; simp) (fun a h1 h2 => by rw [hget, if_neg (by omega)]; exact i2 a (by omega) h2)
      (fun a b h1 h2 h3 => by
        have hf := i4 a b (by omega) h2 h3
        unfold Fix at hf ⊢
        rw [hg2 a b (by omega), cell_congr fun s hs e he => by
          obtain ⟨q1, q2, q3⟩ := behind (t := tgI all l k) hS hchk h2 h3 hs he
          exact hg2 _ _ (by omega)]
        exact hf) m hm'
    have hst2 := tgM_step all l i T0 m
    by_cases hm2 : m < l.length
    · obtain ⟨x, hx⟩ : ∃ x, x = l.length - 1 - m := ⟨_, rfl⟩
      have ex : (l.length : Int) - 1 - (m : Int) = (x : Int) := by omega
      have hxl : x < l.length := by omega
      rw [← hx] at hst2
      generalize hT : tgM all l i T0 m = T at *
      have hTi := j2 i (Nat.le_refl _) hia
      have hbase : ∀ (b : Int), base all.length l i x = b → b = 0 ∨ b = 18446744073709551615 := fun b hb => by rw [← hb]; unfold base; split <;> simp
      have hlim := hsl i (by omega)
      by_cases hbb : i + 1 = all.length ∧ (l[x]!).final = true
      · have eb : base all.length l i x = 0 := if_pos hbb
        have eiq : (i : Int) = (q.length : Int) := by omega
        obtain ⟨hb1, hb2⟩ := hbb
        refine goX (And.intro @ex @hb2) ?_; first | exact trivial | skip
        refine WP_loopk (fun j : Nat => j ≤ (all[i]!).length) (fun j => [(1, .d (.sl 1 (is q))), (2, .d (.sl 2 (stas l))), (7, .d (.sl 1 (sss all))), (8, .ref 3003 0), (30, .d (.int .i64 all.length)), (31, .d (.int .i64 k)), (10, .ref 22005 0), (45, .d (.int .i64 l.length)), (46, .d (.int .i64 m)), (12, .d (.int .i64 x)), (13, .ref 33000 0), (68, .d (.sl 4 (ses (all[i]!)))), (69, .d (.int .i64 (all[i]!).length)), (70, .d (.int .i64 j))]) (fun j => [(3003, .var [.tab 20000 all.length]), (20000, .tab TU (tt T) none), (22005, .var [.d (.int .i64 i)]), (33000, .var [.d (.int .u64 (((all[i]!).take j).foldl (stK l T i x) (base all.length l i x)))])]) 40000 (fun j => (all[i]!).length - j) [1, 2, 7, 8, 30, 31, 10, 45, 46, 12, 13, 68, 69, 70] [3003, 20000, 22005, 33000] 0 (Nat.zero_le _) rfl (by rw [eb]; rfl) (Nat.zero_le _) (fun _ _ => rfl) (fun _ _ => rfl) fun j hj => ?_
        have hvU : ∀ s ∈ all[i]!, ∀ e ∈ endsF s l x, U (get2 T (i + s.eat.toNat) e.toNat) := fun s hs e he => by
          obtain ⟨q1, q2, q3⟩ := behind (t := T) hS hchk hia hxl hs he
          rcases q3 with q3 | ⟨q3, q4⟩
          · exact (j3 _ _ q3 q1 q2).2
          · rw [q3]; exact (j4 _ (by omega) q2).2
        have hmU : U (((all[i]!).take j).foldl (stK l T i x) (base all.length l i x)) := by
          have : ∀ (ss : List Se) (b : Int), U b → (∀ s ∈ ss, s ∈ all[i]!) → U (ss.foldl (stK l T i x) b) := by
            intro ss
            induction ss with
            | nil => intro b hb _; exact hb
            | cons s ss ih =>
              intro b hb he
              simp only [List.foldl_cons]
              exact ih _ (ends_fold (hS i hia s (he s (by simp))).2.2.1 _ _ hb fun e hee => hvU s (he s (by simp)) e hee) fun y hy => he y (by simp [hy])
          exact this _ _ (by rw [eb]; exact ⟨by decide, by decide⟩) fun s hs => List.mem_of_mem_take hs
        by_cases hj2 : j < (all[i]!).length
        · have hmem : (all[i]!)[j]! ∈ all[i]! := by rw [getElem!_pos (all[i]!) j hj2]; exact List.getElem_mem _
          obtain ⟨s1, s2, s3, s4⟩ := hS i hia _ hmem
          have s5 := hput i (by omega) _ hmem
          have hrowS := j2 (i + ((all[i]!)[j]!).eat.toNat) (by omega) s2
          have ce := pEnds (m := ((all[i]!).take j).foldl (stK l T i x) (base all.length l i x)) (s := (all[i]!)[j]!) (n := all.length) (i := i) (k := x) (t := T) hl hchk hxl j1 s2 s1 hrowS (by omega) (by omega) hmU s3 (hvU _ hmem)
          have hst3 := foldl_take (stK l T i x) (base all.length l i x) hj2
          unfold se Cl at ce
          have c0_ := ce; refine goT ?_; first | exact trivial | skip
          refine ⟨j + 1, by omega, ?_, ?_, by omega⟩
          · simp (disch := omega) only [go_sem, keepL, Int.natCast_add, Int.cast_ofNat_Int]
          · simp (disch := omega) only [go_sem, keepL, hst3]
        · have hje : j = (all[i]!).length := by omega
          subst hje
          rw [List.take_length] at hmU ⊢
          have eC : (all[i]!).foldl (stK l T i x) (base all.length l i x) = cellT all l T i x := rfl
          rw [eC] at hmU ⊢
          generalize hv : cellT all l T i x = v at *
          have hx2 : set2 T i x v = T.set i ((T[i]!).set x v) := rfl
          rw [hx2] at hst2
          refine goX (And.intro @j1 (And.intro @hTi @us_len)) ?_; first | exact trivial | skip
          refine ⟨m + 1, by omega, ?_, ?_, by omega⟩
          · simp (disch := omega) only [go_sem, keepL, Int.natCast_add, Int.cast_ofNat_Int]
          · simp (disch := omega) only [go_sem, keepL, hst2]
      · have eb : base all.length l i x = 18446744073709551615 := if_neg hbb
        by_cases hiq : i + 1 = all.length
        · have hb2 : (l[x]!).final = false := by
            cases h : (l[x]!).final with
            | false => rfl
            | true => exact absurd ⟨hiq, h⟩ hbb
          have eiq : (i : Int) = (q.length : Int) := by omega
          refine goX (And.intro @ex @hb2) ?_; first | exact trivial | skip
          refine WP_loopk (fun j : Nat => j ≤ (all[i]!).length) (fun j => [(1, .d (.sl 1 (is q))), (2, .d (.sl 2 (stas l))), (7, .d (.sl 1 (sss all))), (8, .ref 3003 0), (30, .d (.int .i64 all.length)), (31, .d (.int .i64 k)), (10, .ref 22005 0), (45, .d (.int .i64 l.length)), (46, .d (.int .i64 m)), (12, .d (.int .i64 x)), (13, .ref 33000 0), (68, .d (.sl 4 (ses (all[i]!)))), (69, .d (.int .i64 (all[i]!).length)), (70, .d (.int .i64 j))]) (fun j => [(3003, .var [.tab 20000 all.length]), (20000, .tab TU (tt T) none), (22005, .var [.d (.int .i64 i)]), (33000, .var [.d (.int .u64 (((all[i]!).take j).foldl (stK l T i x) (base all.length l i x)))])]) 40000 (fun j => (all[i]!).length - j) [1, 2, 7, 8, 30, 31, 10, 45, 46, 12, 13, 68, 69, 70] [3003, 20000, 22005, 33000] 0 (Nat.zero_le _) rfl (by rw [eb]; rfl) (Nat.zero_le _) (fun _ _ => rfl) (fun _ _ => rfl) fun j hj => ?_
          have hvU : ∀ s ∈ all[i]!, ∀ e ∈ endsF s l x, U (get2 T (i + s.eat.toNat) e.toNat) := fun s hs e he => by
            obtain ⟨q1, q2, q3⟩ := behind (t := T) hS hchk hia hxl hs he
            rcases q3 with q3 | ⟨q3, q4⟩
            · exact (j3 _ _ q3 q1 q2).2
            · rw [q3]; exact (j4 _ (by omega) q2).2
          have hmU : U (((all[i]!).take j).foldl (stK l T i x) (base all.length l i x)) := by
            have : ∀ (ss : List Se) (b : Int), U b → (∀ s ∈ ss, s ∈ all[i]!) → U (ss.foldl (stK l T i x) b) := by
              intro ss
              induction ss with
              | nil => intro b hb _; exact hb
              | cons s ss ih =>
                intro b hb he
                simp only [List.foldl_cons]
                exact ih _ (ends_fold (hS i hia s (he s (by simp))).2.2.1 _ _ hb fun e hee => hvU s (he s (by simp)) e hee) fun y hy => he y (by simp [hy])
            exact this _ _ (by rw [eb]; exact ⟨by decide, by decide⟩) fun s hs => List.mem_of_mem_take hs
          by_cases hj2 : j < (all[i]!).length
          · have hmem : (all[i]!)[j]! ∈ all[i]! := by rw [getElem!_pos (all[i]!) j hj2]; exact List.getElem_mem _
            obtain ⟨s1, s2, s3, s4⟩ := hS i hia _ hmem
            have s5 := hput i (by omega) _ hmem
            have hrowS := j2 (i + ((all[i]!)[j]!).eat.toNat) (by omega) s2
            have ce := pEnds (m := ((all[i]!).take j).foldl (stK l T i x) (base all.length l i x)) (s := (all[i]!)[j]!) (n := all.length) (i := i) (k := x) (t := T) hl hchk hxl j1 s2 s1 hrowS (by omega) (by omega) hmU s3 (hvU _ hmem)
            have hst3 := foldl_take (stK l T i x) (base all.length l i x) hj2
            unfold se Cl at ce
            have c0_ := ce; refine goT ?_; first | exact trivial | skip
            refine ⟨j + 1, by omega, ?_, ?_, by omega⟩
            · simp (disch := omega) only [go_sem, keepL, Int.natCast_add, Int.cast_ofNat_Int]
            · simp (disch := omega) only [go_sem, keepL, hst3]
          · have hje : j = (all[i]!).length := by omega
            subst hje
            rw [List.take_length] at hmU ⊢
            have eC : (all[i]!).foldl (stK l T i x) (base all.length l i x) = cellT all l T i x := rfl
            rw [eC] at hmU ⊢
            generalize hv : cellT all l T i x = v at *
            have hx2 : set2 T i x v = T.set i ((T[i]!).set x v) := rfl
            rw [hx2] at hst2
            refine goX (And.intro @j1 (And.intro @hTi @us_len)) ?_; first | exact trivial | skip
            refine ⟨m + 1, by omega, ?_, ?_, by omega⟩
            · simp (disch := omega) only [go_sem, keepL, Int.natCast_add, Int.cast_ofNat_Int]
            · simp (disch := omega) only [go_sem, keepL, hst2]
        · have eiq : ¬ (i : Int) = (q.length : Int) := by omega
          refine goX (And.intro @ex @eiq) ?_; first | exact trivial | skip
          refine WP_loopk (fun j : Nat => j ≤ (all[i]!).length) (fun j => [(1, .d (.sl 1 (is q))), (2, .d (.sl 2 (stas l))), (7, .d (.sl 1 (sss all))), (8, .ref 3003 0), (30, .d (.int .i64 all.length)), (31, .d (.int .i64 k)), (10, .ref 22005 0), (45, .d (.int .i64 l.length)), (46, .d (.int .i64 m)), (12, .d (.int .i64 x)), (13, .ref 33000 0), (68, .d (.sl 4 (ses (all[i]!)))), (69, .d (.int .i64 (all[i]!).length)), (70, .d (.int .i64 j))]) (fun j => [(3003, .var [.tab 20000 all.length]), (20000, .tab TU (tt T) none), (22005, .var [.d (.int .i64 i)]), (33000, .var [.d (.int .u64 (((all[i]!).take j).foldl (stK l T i x) (base all.length l i x)))])]) 40000 (fun j => (all[i]!).length - j) [1, 2, 7, 8, 30, 31, 10, 45, 46, 12, 13, 68, 69, 70] [3003, 20000, 22005, 33000] 0 (Nat.zero_le _) rfl (by rw [eb]; rfl) (Nat.zero_le _) (fun _ _ => rfl) (fun _ _ => rfl) fun j hj => ?_
          have hvU : ∀ s ∈ all[i]!, ∀ e ∈ endsF s l x, U (get2 T (i + s.eat.toNat) e.toNat) := fun s hs e he => by
            obtain ⟨q1, q2, q3⟩ := behind (t := T) hS hchk hia hxl hs he
            rcases q3 with q3 | ⟨q3, q4⟩
            · exact (j3 _ _ q3 q1 q2).2
            · rw [q3]; exact (j4 _ (by omega) q2).2
          have hmU : U (((all[i]!).take j).foldl (stK l T i x) (base all.length l i x)) := by
            have : ∀ (ss : List Se) (b : Int), U b → (∀ s ∈ ss, s ∈ all[i]!) → U (ss.foldl (stK l T i x) b) := by
              intro ss
              induction ss with
              | nil => intro b hb _; exact hb
              | cons s ss ih =>
                intro b hb he
                simp only [List.foldl_cons]
                exact ih _ (ends_fold (hS i hia s (he s (by simp))).2.2.1 _ _ hb fun e hee => hvU s (he s (by simp)) e hee) fun y hy => he y (by simp [hy])
            exact this _ _ (by rw [eb]; exact ⟨by decide, by decide⟩) fun s hs => List.mem_of_mem_take hs
          by_cases hj2 : j < (all[i]!).length
          · have hmem : (all[i]!)[j]! ∈ all[i]! := by rw [getElem!_pos (all[i]!) j hj2]; exact List.getElem_mem _
            obtain ⟨s1, s2, s3, s4⟩ := hS i hia _ hmem
            have s5 := hput i (by omega) _ hmem
            have hrowS := j2 (i + ((all[i]!)[j]!).eat.toNat) (by omega) s2
            have ce := pEnds (m := ((all[i]!).take j).foldl (stK l T i x) (base all.length l i x)) (s := (all[i]!)[j]!) (n := all.length) (i := i) (k := x) (t := T) hl hchk hxl j1 s2 s1 hrowS (by omega) (by omega) hmU s3 (hvU _ hmem)
            have hst3 := foldl_take (stK l T i x) (base all.length l i x) hj2
            unfold se Cl at ce
            have c0_ := ce; refine goT ?_; first | exact trivial | skip
            refine ⟨j + 1, by omega, ?_, ?_, by omega⟩
            · simp (disch := omega) only [go_sem, keepL, Int.natCast_add, Int.cast_ofNat_Int]
            · simp (disch := omega) only [go_sem, keepL, hst3]
          · have hje : j = (all[i]!).length := by omega
            subst hje
            rw [List.take_length] at hmU ⊢
            have eC : (all[i]!).foldl (stK l T i x) (base all.length l i x) = cellT all l T i x := rfl
            rw [eC] at hmU ⊢
            generalize hv : cellT all l T i x = v at *
            have hx2 : set2 T i x v = T.set i ((T[i]!).set x v) := rfl
            rw [hx2] at hst2
            refine goX (And.intro @j1 (And.intro @hTi @us_len)) ?_; first | exact trivial | skip
            refine ⟨m + 1, by omega, ?_, ?_, by omega⟩
            · simp (disch := omega) only [go_sem, keepL, Int.natCast_add, Int.cast_ofNat_Int]
            · simp (disch := omega) only [go_sem, keepL, hst2]
    · have hml : m = l.length := by omega
      subst hml
      refine goT ?_; first | exact trivial | skip
      refine ⟨k + 1, by omega, ?_, ?_, by omega⟩
      · simp (disch := omega) only [go_sem, keepL, Int.natCast_add, Int.cast_ofNat_Int]
      · simp (disch := omega) only [go_sem, keepL, hst1]
  have hka : k = all.length := by omega
  subst hka
  refine goX @i1 ?_; first | exact trivial | skip
end Go.Eng.Try

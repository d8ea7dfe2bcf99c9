/- The laws of what words cost: two parts; beginnings. (and what stands behind it: texts laid together) -/
import Derived.Test.YtbnhblimckdcgaaMG4
import Derived.Test.YtbnhblimckdcgaaMR13
set_option linter.unusedVariables false
set_option linter.unusedSimpArgs false
namespace Go.Eng.Try
open Go Go.Eng Go.Proofs Go.RowKit
attribute [local go_sem] evFold rnE ksE roundE frz frzs List.set_cons_zero List.set_cons_succ List.zip_cons_cons List.zip_nil_right List.foldl_cons List.foldl_nil D.flat rns AV.rn HO.rn AV.ks kss HO.ks sg dedup objKs reach passE fresh List.filter fnOf evOp opnd lk v2d v2ds just evBin intBin nilBin isNil strBin evUn evLoad ldD ldA evStore evField evIndex evBuild fillA evBuildSlice evAppend evAppendClip elems evMake evSlice evSliceO evSliceX evSliceY evViewV evStoreX evStoreT stT stI evCopyT evAppendT evAppendTD ldT ldI Tb.inn Tb.ilen Tb.nilAt Tb.ini D.put evCut evView evCopy evAppendV evAgg evMakeMap evLookup evMapUpd evRange evEntry cellsD AV.kb splice List.getLast?_append resM resAs resA resD keepL List.replicate_zero List.take_length ofInt evLen evMin evMax evConv evNil evExtract evBuiltin toD toDs allD pack splice D.comps AV.comps AV.sto D.cell D.rebuild inOrder allFlat del put setE eff gd gslot kills Option.map_some Option.map_none Option.bind_some Option.isSome_some List.map_cons List.map_nil List.append_nil List.nil_append List.cons_append List.length_cons List.length_nil List.length_map List.length_append List.take_zero List.take_succ_cons List.take_nil List.drop_zero List.drop_succ_cons List.drop_nil List.getElem?_cons_zero List.getElem?_cons_succ List.getElem?_map List.all_cons List.all_nil List.mem_cons List.not_mem_nil List.elem_cons List.elem_nil Bool.and_true Bool.true_and Bool.and_self Bool.not_true Bool.not_false Bool.or_true Bool.or_false and_self and_true true_and or_false false_or or_true true_or not_false_eq_true not_true_eq_false if_true if_false decide_true decide_false decide_eq_true_eq Int.toNat_natCast Int.toNat_zero beq_self_eq_true bne_self_eq_false Bool.false_eq_true Nat.add_zero Nat.zero_add tys room le_i lt_i eq_n le_n lt_n len0 gdE bb_tf bb_ft mapP arrL if_min tdiv_nn tmod_nn us_len us_get wrap_i64 wrap_u64 dec_lt dec_nlt dec_le dec_nle beq_t beq_f bne_t bne_f get_lt gt_iff_lt ge_iff_le
attribute [local go_sem ↓] map_P reduceIte
attribute [local go_sem] reduceCtorEq Nat.reduceEqDiff Nat.reduceAdd Nat.reduceSub Nat.reduceMul Nat.reduceLeDiff Nat.reduceLT Nat.reduceBEq Nat.reduceBNe Int.reduceToNat Int.reduceLT Int.reduceLE Int.reduceEq Int.reduceAdd Int.reduceSub Int.reduceNeg Int.reduceBEq Int.reduceBNe
attribute [local go_sem] is_len is_get rs_len rs_get tt_len tt_get dels
theorem is_app {a b : List Int} : is a ++ is b = is (a ++ b) := by simp [is]
theorem us_take {l : List Int} {k : Nat} : (us l).take k = us (l.take k) := by simp [us, List.map_take]
set_option maxHeartbeats 4000000 in
set_option maxRecDepth 10000 in
theorem lawDParts {c : Co} {a b x y : List Int} (hc : c.ok) (ha : a.length ≤ 9223372036854775807) (hb : b.length ≤ 9223372036854775807) (hx : x.length ≤ 9223372036854775807) (hy : y.length ≤ 9223372036854775807) : Sound Try.prog 3 [co c, .sl 1 (is a), .sl 1 (is b), .sl 1 (is x), .sl 1 (is y)] (.bool true) := by
  have cf := pFewD (q := a) (w := x) hc ha hx
  have aw := distAwake
  have cc := sCheck hc
  cases hf : fewD c a x
  · rw [hf] at cf
    unfold co at cf ⊢
    refine Sound.run (N := 71) Try.func3 rfl (by kernel_rfl) rfl rfl rfl (by first | exact args0_0 | exact args0_1 | exact args0_2 | exact args0_3 | exact args0_4 | exact args0_5 | exact args0_6) fun X_ w_ => ?_
    have c0_ := aw; have c1_ := cf; refine goT ?_; first | exact trivial | skip
  rw [hf] at cf
  by_cases h1 : 10 < a.length
  · unfold co at cf ⊢
    refine Sound.run (N := 71) Try.func3 rfl (by kernel_rfl) rfl rfl rfl (by first | exact args0_0 | exact args0_1 | exact args0_2 | exact args0_3 | exact args0_4 | exact args0_5 | exact args0_6) fun X_ w_ => ?_
    have c0_ := aw; have c1_ := cf; refine goT ?_; first | exact trivial | skip
  by_cases h2 : 10 < b.length
  · unfold co at cf ⊢
    refine Sound.run (N := 71) Try.func3 rfl (by kernel_rfl) rfl rfl rfl (by first | exact args0_0 | exact args0_1 | exact args0_2 | exact args0_3 | exact args0_4 | exact args0_5 | exact args0_6) fun X_ w_ => ?_
    have c0_ := aw; have c1_ := cf; refine goT ?_; first | exact trivial | skip
  by_cases h3 : 10 < x.length
  · unfold co at cf ⊢
    refine Sound.run (N := 71) Try.func3 rfl (by kernel_rfl) rfl rfl rfl (by first | exact args0_0 | exact args0_1 | exact args0_2 | exact args0_3 | exact args0_4 | exact args0_5 | exact args0_6) fun X_ w_ => ?_
    have c0_ := aw; have c1_ := cf; refine goT ?_; first | exact trivial | skip
  by_cases h4 : 10 < y.length
  · unfold co at cf ⊢
    refine Sound.run (N := 71) Try.func3 rfl (by kernel_rfl) rfl rfl rfl (by first | exact args0_0 | exact args0_1 | exact args0_2 | exact args0_3 | exact args0_4 | exact args0_5 | exact args0_6) fun X_ w_ => ?_
    have c0_ := aw; have c1_ := cf; refine goT ?_; first | exact trivial | skip
  cases hk : cok c
  · rw [hk] at cc
    unfold co at cf cc ⊢
    refine Sound.run (N := 71) Try.func3 rfl (by kernel_rfl) rfl rfl rfl (by first | exact args0_0 | exact args0_1 | exact args0_2 | exact args0_3 | exact args0_4 | exact args0_5 | exact args0_6) fun X_ w_ => ?_
    have c0_ := aw; have c1_ := cf; have c2_ := cc; refine goT ?_; first | exact trivial | skip
  rw [hk] at cc
  have hle := dist_parts (c := c) (a := a) (b := b) (x := x) (y := y) hc hk (by omega) (by omega) (by omega) (by omega)
  have c1 := pOf (c := c) (q := a ++ b) (w := x ++ y) hc (by simp; omega) (by simp; omega)
  have c2 := pOf (c := c) (q := a) (w := x) hc ha hx
  have c3 := pOf (c := c) (q := b) (w := y) hc hb hy
  have c4 := costAdd (ofD_u hc a x) (ofD_u hc b y)
  unfold co at cf cc c1 c2 c3 ⊢
  refine Sound.run (N := 71) Try.func3 rfl (by kernel_rfl) rfl rfl rfl (by first | exact args0_0 | exact args0_1 | exact args0_2 | exact args0_3 | exact args0_4 | exact args0_5 | exact args0_6) fun X_ w_ => ?_
  have c0_ := aw; have c1_ := cf; have c2_ := cc; have c3_ := c1; have c4_ := c2; have c5_ := c3; have c6_ := c4; refine goX @is_app ?_; first | exact trivial | skip
set_option maxHeartbeats 4000000 in
set_option maxRecDepth 10000 in
theorem lawDBegins {c : Co} {q w : List Int} {n : Int} (hc : c.ok) (hq : q.length ≤ 9223372036854775807) (hw : w.length ≤ 9223372036854775807) (hn : 0 ≤ n ∧ n ≤ 255) : Sound Try.prog 5 [co c, .sl 1 (is q), .sl 1 (is w), .int .u8 n] (.bool true) := by
  have cf := pFewD (q := q) (w := w) hc hq hw
  have aw := distAwake
  have cc := sCheck hc
  cases hf : fewD c q w
  · rw [hf] at cf
    unfold co at cf ⊢
    refine Sound.run (N := 96) Try.func5 rfl (by kernel_rfl) rfl rfl rfl (by first | exact args0_0 | exact args0_1 | exact args0_2 | exact args0_3 | exact args0_4 | exact args0_5 | exact args0_6) fun X_ w_ => ?_
    have c0_ := aw; have c1_ := cf; refine goT ?_; first | exact trivial | skip
  rw [hf] at cf
  by_cases h1 : 20 < q.length
  · unfold co at cf ⊢
    refine Sound.run (N := 96) Try.func5 rfl (by kernel_rfl) rfl rfl rfl (by first | exact args0_0 | exact args0_1 | exact args0_2 | exact args0_3 | exact args0_4 | exact args0_5 | exact args0_6) fun X_ w_ => ?_
    have c0_ := aw; have c1_ := cf; refine goT ?_; first | exact trivial | skip
  by_cases h2 : 20 < w.length
  · unfold co at cf ⊢
    refine Sound.run (N := 96) Try.func5 rfl (by kernel_rfl) rfl rfl rfl (by first | exact args0_0 | exact args0_1 | exact args0_2 | exact args0_3 | exact args0_4 | exact args0_5 | exact args0_6) fun X_ w_ => ?_
    have c0_ := aw; have c1_ := cf; refine goT ?_; first | exact trivial | skip
  cases hk : cok c
  · rw [hk] at cc
    unfold co at cf cc ⊢
    refine Sound.run (N := 96) Try.func5 rfl (by kernel_rfl) rfl rfl rfl (by first | exact args0_0 | exact args0_1 | exact args0_2 | exact args0_3 | exact args0_4 | exact args0_5 | exact args0_6) fun X_ w_ => ?_
    have c0_ := aw; have c1_ := cf; have c2_ := cc; refine goT ?_; first | exact trivial | skip
  rw [hk] at cc
  obtain ⟨k, hkn⟩ : ∃ k : Nat, n % ((w.length : Int) + 1) = (k : Int) := Int.eq_ofNat_of_zero_le (Int.emod_nonneg _ (by omega))
  have hkl : k ≤ w.length := by
    have := Int.emod_lt_of_pos n (show (0 : Int) < (w.length : Int) + 1 by omega)
    omega
  have hm : may c q = true := may_iff.2 ⟨by omega, hk⟩
  have c1 := pTable1 (q := q) (w := w) hc hm (by omega)
  have c2 := pTable1 (q := q) (w := w.take k) hc hm (by simp only [List.length_take]; omega)
  have hA := allF_len c q (q.length + 1)
  have hS := fun w => all_steps hc hk q w
  have g1 := tbl_good (hS w) (by omega)
  have g2 := tbl_good (hS (w.take k)) (by omega)
  have hl1 : (tbl (allF c q (q.length + 1)) w).length = q.length + 1 := by rw [g1.shape.1, hA]
  have hl2 : (tbl (allF c q (q.length + 1)) (w.take k)).length = q.length + 1 := by rw [g2.shape.1, hA]
  have hr1 : ∀ i, i < q.length + 1 → ((tbl (allF c q (q.length + 1)) w)[i]!).length = w.length + 1 := fun i hi => g1.shape.2 i (by omega)
  have hr2 : ∀ i, i < q.length + 1 → ((tbl (allF c q (q.length + 1)) (w.take k))[i]!).length = k + 1 := fun i hi => by
    rw [g2.shape.2 i (by omega)]; simp only [List.length_take]; omega
  have heq : ∀ i, i < q.length + 1 → ((tbl (allF c q (q.length + 1)) w)[i]!).take (k + 1) = (tbl (allF c q (q.length + 1)) (w.take k))[i]! := fun i hi => by
    refine List.ext_getElem? fun j => ?_
    rw [List.getElem?_take]
    have a1 := hr1 i hi
    have a2 := hr2 i hi
    by_cases hj : j < k + 1
    · rw [if_pos hj, get_lt (by omega), get_lt (by omega)]
      exact congrArg some (dist_begins (all := allF c q (q.length + 1)) hS (by omega) hkl (by omega) (by omega)).symm
    · rw [if_neg hj, List.getElem?_eq_none (by omega)]
  generalize tbl (allF c q (q.length + 1)) w = t1 at *
  generalize tbl (allF c q (q.length + 1)) (w.take k) = t2 at *
  have ek : (k : Int) + 1 = ((k + 1 : Nat) : Int) := by omega
  unfold co at cf cc c1 c2 ⊢
  refine Sound.run (N := 96) Try.func5 rfl (by kernel_rfl) rfl rfl rfl (by first | exact args0_0 | exact args0_1 | exact args0_2 | exact args0_3 | exact args0_4 | exact args0_5 | exact args0_6) fun X_ w_ => ?_
  have c0_ := aw; have c1_ := cf; have c2_ := cc; have c3_ := c1; have c4_ := c2; refine goX (And.intro @is_take (And.intro @hkn (And.intro @hl1 @hl2))) ?_; first | exact trivial | skip
  refine WP_loopk (fun i : Nat => i ≤ q.length + 1) (fun i => [(2, .d (.sl 1 (is w))), (9, .d (.bool true)), (10, .d (.int .i64 k)), (11, .d (.sl 1 (tt t1))), (12, .d (.sl 1 (tt t2))), (13, .d (.int .i64 i))]) (fun _ => []) 0 (fun i => q.length + 1 - i) [2, 9, 10, 11, 12, 13] [] 0 (Nat.zero_le _) rfl rfl (Nat.le_refl _) (fun _ _ => rfl) (fun _ _ => rfl) fun i hi => ?_
  by_cases hi2 : i < q.length + 1
  · have a1 := hr1 i hi2
    have a2 := hr2 i hi2
    have cs := ref02Same (a := (t1[i]!).take (k + 1)) (b := t2[i]!) (by rw [heq i hi2]; omega) (by omega)
    rw [decide_eq_true (heq i hi2)] at cs
    have c0_ := cs; refine goX (And.intro @hl1 (And.intro @hl2 (And.intro @a1 (And.intro @us_len (And.intro @us_take @ek))))) ?_; first | exact trivial | skip
    refine ⟨i + 1, by omega, ?_, rfl, by omega⟩
    simp (disch := omega) only [go_sem, keepL, Int.natCast_add, Int.cast_ofNat_Int]
  · have hiq : i = q.length + 1 := by omega
    subst hiq
    refine goX @hl1 ?_; first | exact trivial | skip
end Go.Eng.Try

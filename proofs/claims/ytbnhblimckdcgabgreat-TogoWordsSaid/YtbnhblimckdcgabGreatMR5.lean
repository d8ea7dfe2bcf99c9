/- Costs: what may be written; whether rules may be. (and what stands behind it: texts laid together) -/
import Derived.Test.YtbnhblimckdcgabGreatMG4
import Derived.Test.YtbnhblimckdcgabGreatMR4
set_option linter.unusedVariables false
set_option linter.unusedSimpArgs false
namespace Go.Eng.Tryz
open Go Go.Eng Go.Proofs Go.RowKit
attribute [local go_sem] tys
attribute [local go_sem] is_len is_get rs_len rs_get
theorem itake {a b : List Int} {k : Nat} (hw : a.take k = b.take k) (h1 : k < a.length) (h2 : k < b.length) (h : a[k]! = b[k]!) : a.take (k + 1) = b.take (k + 1) := by
  rw [List.take_add_one, List.take_add_one, hw, List.getElem?_eq_getElem h1, List.getElem?_eq_getElem h2, ← getElem!_pos a k h1, ← getElem!_pos b k h2, h]
set_option maxHeartbeats 4000000 in
set_option maxRecDepth 10000 in
theorem sEqual {a b : List Int} (ha : a.length ≤ 9223372036854775807) (hb : b.length ≤ 9223372036854775807) : Sound Tryz.prog 46 [.sl 1 (is a), .sl 1 (is b)] (.bool (decide (a = b))) := by
  by_cases hl : a.length = b.length
  · refine Sound.run (N := 26) Tryz.func46 rfl (by kernel_rfl) rfl rfl rfl (by first | exact args0_0 | exact args0_1 | exact args0_2 | exact args0_3 | exact args0_4 | exact args0_5 | exact args0_6) fun X_ w_ => ?_
    refine goT ?_; first | exact trivial | skip
    refine WP_loopk (fun k : Nat => k ≤ a.length ∧ a.take k = b.take k) (fun k => [(0, .d (.sl 1 (is a))), (1, .d (.sl 1 (is b))), (12, .d (.int .i64 a.length)), (13, .d (.int .i64 k))]) (fun _ => []) 0 (fun k => a.length - k) [0, 1, 12, 13] [] 0 ⟨Nat.zero_le _, rfl⟩ rfl rfl (Nat.le_refl _) (fun _ _ => rfl) (fun _ _ => rfl) fun k hk => ?_
    obtain ⟨hk1, hw⟩ := hk
    by_cases hk' : k < a.length
    · have hk2 : k < b.length := by omega
      by_cases hc : a[k]! = b[k]!
      · have e := itake hw hk' hk2 hc
        refine goX @hc ?_; first | exact trivial | skip
        refine ⟨k + 1, ⟨by omega, e⟩, ?_, rfl, by omega⟩
        simp (disch := omega) only [go_sem, keepL, Int.natCast_add, Int.cast_ofNat_Int]
      · have e : decide (a = b) = false := decide_eq_false fun h => hc (by rw [h])
        refine goX @e ?_; first | exact trivial | skip
    · have hk' : k = a.length := by omega
      subst hk'
      have e : decide (a = b) = true := decide_eq_true (by rw [List.take_length, hl, List.take_length] at hw; exact hw)
      refine goX @e ?_; first | exact trivial | skip
  · have e : decide (a = b) = false := decide_eq_false fun h => hl (by rw [h])
    refine Sound.run (N := 26) Tryz.func46 rfl (by kernel_rfl) rfl rfl rfl (by first | exact args0_0 | exact args0_1 | exact args0_2 | exact args0_3 | exact args0_4 | exact args0_5 | exact args0_6) fun X_ w_ => ?_
    refine goX @e ?_; first | exact trivial | skip
/-- Where the first is of which something holds. -/
def fidx {α : Type} (p : α → Bool) (l : List α) : Int := if l.any p = true then (l.findIdx p : Nat) else -1
theorem fidx_ge {α : Type} (p : α → Bool) (l : List α) : decide (0 ≤ fidx p l) = l.any p := by
  unfold fidx
  cases h : l.any p
  · rw [if_neg (by simp)]; simp
  · rw [if_pos rfl]; simp
theorem fidx_at {α : Type} [Inhabited α] {p : α → Bool} {l : List α} {k : Nat} (h : k < l.length) (hk : (l.take k).any p = false) (hb : p (l[k]!) = true) : fidx p l = (k : Int) := by
  unfold fidx
  rw [getElem!_pos l k h] at hb
  rw [if_pos (List.any_eq_true.2 ⟨l[k], List.getElem_mem h, hb⟩)]
  congr 1
  rw [List.findIdx_eq h]
  refine ⟨hb, fun j hj => ?_⟩
  have hm : l[j] ∈ l.take k := by
    have : (l.take k)[j]? = some l[j] := by rw [List.getElem?_take, if_pos hj, List.getElem?_eq_getElem (by omega)]
    exact List.mem_of_getElem? this
  cases hp : p l[j] with
  | false => rfl
  | true =>
    have := List.any_eq_true.2 ⟨l[j], hm, hp⟩
    rw [hk] at this; cases this
theorem any_step {α : Type} [Inhabited α] {p : α → Bool} {l : List α} {k : Nat} (h : k < l.length) (hk : (l.take k).any p = false) (hb : p (l[k]!) = false) : (l.take (k + 1)).any p = false := by
  rw [List.take_add_one, List.any_append, List.getElem?_eq_getElem h, hk]
  rw [getElem!_pos l k h] at hb
  simp [hb]
theorem fidx_none {α : Type} {p : α → Bool} {l : List α} (h : l.any p = false) : fidx p l = -1 := by unfold fidx; rw [h]; rfl
set_option maxHeartbeats 4000000 in
set_option maxRecDepth 10000 in
theorem indexG {p : Int → Bool} {g : Nat} (hp : ∀ z, Sound Tryz.prog g [.int .i64 z] (.bool (p z))) {l : List Int} (hl : l.length ≤ 9223372036854775807) : Sound Tryz.prog 84 [.sl 1 (is l), .fn g] (.int .i64 (fidx p l)) := by
  refine Sound.run (N := 19) Tryz.func84 rfl (by kernel_rfl) rfl rfl rfl (by first | exact args0_0 | exact args0_1 | exact args0_2 | exact args0_3 | exact args0_4 | exact args0_5 | exact args0_6) fun X_ w_ => ?_
  refine goT ?_; first | exact trivial | skip
  refine WP_loopk (fun k : Nat => k ≤ l.length ∧ (l.take k).any p = false) (fun k => [(0, .d (.sl 1 (is l))), (1, .d (.fn g)), (7, .d (.int .i64 l.length)), (8, .d (.int .i64 k))]) (fun _ => []) 0 (fun k => l.length - k) [0, 1, 7, 8] [] 0 ⟨Nat.zero_le _, rfl⟩ rfl rfl (Nat.le_refl _) (fun _ _ => rfl) (fun _ _ => rfl) fun k hk => ?_
  obtain ⟨hk1, hw⟩ := hk
  by_cases hk' : k < l.length
  · have c := hp (l[k]!)
    cases hg : p (l[k]!)
    · have hst := any_step hk' hw hg
      rw [hg] at c
      have c0_ := c; refine goT ?_; first | exact trivial | skip
      refine ⟨k + 1, ⟨by omega, hst⟩, ?_, rfl, by omega⟩
      simp (disch := omega) only [go_sem, keepL, Int.natCast_add, Int.cast_ofNat_Int]
    · have e := fidx_at hk' hw hg
      rw [hg] at c
      have c0_ := c; refine goX @e ?_; first | exact trivial | skip
  · have hkl : k = l.length := by omega
    subst hkl
    rw [List.take_length] at hw
    have e := fidx_none hw
    refine goX @e ?_; first | exact trivial | skip
theorem containsG {p : Int → Bool} {g : Nat} (hp : ∀ z, Sound Tryz.prog g [.int .i64 z] (.bool (p z))) {l : List Int} (hl : l.length ≤ 9223372036854775807) : Sound Tryz.prog 66 [.sl 1 (is l), .fn g] (.bool (l.any p)) := by
  have e := fidx_ge p l
  refine Sound.run (N := 9) Tryz.func66 rfl (by kernel_rfl) rfl rfl rfl (by first | exact args0_0 | exact args0_1 | exact args0_2 | exact args0_3 | exact args0_4 | exact args0_5 | exact args0_6) fun X_ w_ => ?_
  have c0_ := indexG hp hl; refine goX @e ?_; first | exact trivial | skip
def blank (z : Int) : Bool := decide (z = 32 ∨ z = 9 ∨ z = 10)
theorem blank_t {z : Int} (h : z = 32 ∨ z = 9 ∨ z = 10) : blank z = true := decide_eq_true h
theorem blank_f {z : Int} (h : ¬ (z = 32 ∨ z = 9 ∨ z = 10)) : blank z = false := decide_eq_false h
theorem plain1 {z : Int} : Sound Tryz.prog 65 [.int .i64 z] (.bool (blank z)) := by
  by_cases h1 : z = 32
  · have e := blank_t (z := z) (by omega)
    refine Sound.run (N := 13) Tryz.func65 rfl (by kernel_rfl) rfl rfl rfl (by first | exact args0_0 | exact args0_1 | exact args0_2 | exact args0_3 | exact args0_4 | exact args0_5 | exact args0_6) fun X_ w_ => ?_
    refine goX (And.intro @e @h1) ?_; first | exact trivial | skip
  by_cases h2 : z = 9
  · have e := blank_t (z := z) (by omega)
    refine Sound.run (N := 13) Tryz.func65 rfl (by kernel_rfl) rfl rfl rfl (by first | exact args0_0 | exact args0_1 | exact args0_2 | exact args0_3 | exact args0_4 | exact args0_5 | exact args0_6) fun X_ w_ => ?_
    refine goX (And.intro @e (And.intro @h1 @h2)) ?_; first | exact trivial | skip
  by_cases h3 : z = 10
  · have e := blank_t (z := z) (by omega)
    refine Sound.run (N := 13) Tryz.func65 rfl (by kernel_rfl) rfl rfl rfl (by first | exact args0_0 | exact args0_1 | exact args0_2 | exact args0_3 | exact args0_4 | exact args0_5 | exact args0_6) fun X_ w_ => ?_
    refine goX (And.intro @e (And.intro @h1 (And.intro @h2 @h3))) ?_; first | exact trivial | skip
  · have e := blank_f (z := z) (by omega)
    refine Sound.run (N := 13) Tryz.func65 rfl (by kernel_rfl) rfl rfl rfl (by first | exact args0_0 | exact args0_1 | exact args0_2 | exact args0_3 | exact args0_4 | exact args0_5 | exact args0_6) fun X_ w_ => ?_
    refine goX (And.intro @e (And.intro @h1 (And.intro @h2 @h3))) ?_; first | exact trivial | skip
/-- May a side be written? -/
def plainL (l : List Int) : Bool := !l.any blank && decide (l ≠ [95])
set_option maxHeartbeats 4000000 in
set_option maxRecDepth 10000 in
theorem sPlain {l : List Int} (hl : l.length ≤ 9223372036854775807) : Sound Tryz.prog 40 [.sl 1 (is l)] (.bool (plainL l)) := by
  have c1 := containsG (p := blank) (g := 65) (fun z => plain1) hl
  have c2 : Sound Tryz.prog 46 [.sl 1 (is l), .sl 1 [.int .i64 95]] (.bool (decide (l = [95]))) := sEqual (b := [95]) hl (by decide)
  cases h : l.any blank
  · rw [h] at c1
    by_cases h2 : l = [95]
    · have e : plainL l = false := by unfold plainL; rw [decide_eq_false (fun hh => hh h2)]; simp
      rw [decide_eq_true h2] at c2
      refine Sound.run (N := 14) Tryz.func40 rfl (by kernel_rfl) rfl rfl rfl (by first | exact args0_0 | exact args0_1 | exact args0_2 | exact args0_3 | exact args0_4 | exact args0_5 | exact args0_6) fun X_ w_ => ?_
      have c0_ := c1; have c1_ := c2; refine goX @e ?_; first | exact trivial | skip
    · have e : plainL l = true := by unfold plainL; rw [decide_eq_true h2, h]; rfl
      rw [decide_eq_false h2] at c2
      refine Sound.run (N := 14) Tryz.func40 rfl (by kernel_rfl) rfl rfl rfl (by first | exact args0_0 | exact args0_1 | exact args0_2 | exact args0_3 | exact args0_4 | exact args0_5 | exact args0_6) fun X_ w_ => ?_
      have c0_ := c1; have c1_ := c2; refine goX @e ?_; first | exact trivial | skip
  · rw [h] at c1
    have e : plainL l = false := by unfold plainL; rw [h]; rfl
    refine Sound.run (N := 14) Tryz.func40 rfl (by kernel_rfl) rfl rfl rfl (by first | exact args0_0 | exact args0_1 | exact args0_2 | exact args0_3 | exact args0_4 | exact args0_5 | exact args0_6) fun X_ w_ => ?_
    have c0_ := c1; have c1_ := c2; refine goX @e ?_; first | exact trivial | skip
/-- May a rule be written? -/
def fit (r : Ru) : Bool := rok r && plainL r.left && plainL r.right
set_option maxHeartbeats 4000000 in
set_option maxRecDepth 10000 in
theorem sFit {r : Ru} (hr : r.ok) : Sound Tryz.prog 17 [ru r] (.bool (fit r)) := by
  have c0 := pRCheck hr
  have c1 := sPlain hr.1
  have c2 := sPlain hr.2.1
  have e : fit r = (rok r && plainL r.left && plainL r.right) := rfl
  unfold ru at c0 ⊢
  cases h0 : rok r <;> cases h1 : plainL r.left <;> cases h2 : plainL r.right <;> rw [h0] at c0 <;> rw [h1] at c1 <;> rw [h2] at c2 <;> simp only [h0, h1, h2, Bool.and_true, Bool.and_false, Bool.false_and] at e
  all_goals refine Sound.run (N := 15) Tryz.func17 rfl (by kernel_rfl) rfl rfl rfl (by first | exact args0_0 | exact args0_1 | exact args0_2 | exact args0_3 | exact args0_4 | exact args0_5 | exact args0_6) fun X_ w_ => ?_
  all_goals (have c0_ := c0; have c1_ := c1; have c2_ := c2; refine goX @e ?_; first | exact trivial | skip)
theorem sFit1 {r : Ru} (hr : r.ok) : Sound Tryz.prog 16 [ru r] (.bool (!fit r)) := by
  have c := sFit hr
  unfold ru at c ⊢
  refine Sound.run (N := 6) Tryz.func16 rfl (by kernel_rfl) rfl rfl rfl (by first | exact args0_0 | exact args0_1 | exact args0_2 | exact args0_3 | exact args0_4 | exact args0_5 | exact args0_6) fun X_ w_ => ?_
  have c0_ := c; refine goT ?_; first | exact trivial | skip
set_option maxHeartbeats 4000000 in
set_option maxRecDepth 10000 in
theorem indexR {l : List Ru} (hok : ∀ r ∈ l, r.ok) (hl : l.length ≤ 9223372036854775807) : Sound Tryz.prog 41 [.sl 3 (rs l), .fn 16] (.int .i64 (fidx (fun r => !fit r) l)) := by
  refine Sound.run (N := 19) Tryz.func41 rfl (by kernel_rfl) rfl rfl rfl (by first | exact args0_0 | exact args0_1 | exact args0_2 | exact args0_3 | exact args0_4 | exact args0_5 | exact args0_6) fun X_ w_ => ?_
  refine goT ?_; first | exact trivial | skip
  refine WP_loopk (fun k : Nat => k ≤ l.length ∧ (l.take k).any (fun r => !fit r) = false) (fun k => [(0, .d (.sl 3 (rs l))), (1, .d (.fn 16)), (7, .d (.int .i64 l.length)), (8, .d (.int .i64 k))]) (fun _ => []) 0 (fun k => l.length - k) [0, 1, 7, 8] [] 0 ⟨Nat.zero_le _, rfl⟩ rfl rfl (Nat.le_refl _) (fun _ _ => rfl) (fun _ _ => rfl) fun k hk => ?_
  obtain ⟨hk1, hw⟩ := hk
  by_cases hk' : k < l.length
  · have c := sFit1 (rok_get hok hk')
    unfold ru at c
    cases hg : fit (l[k]!)
    · have e := fidx_at (p := fun r => !fit r) hk' hw (by simp only [hg]; rfl)
      rw [hg] at c
      have c0_ := c; refine goX @e ?_; first | exact trivial | skip
    · have hst := any_step (p := fun r => !fit r) hk' hw (by simp only [hg]; rfl)
      rw [hg] at c
      have c0_ := c; refine goT ?_; first | exact trivial | skip
      refine ⟨k + 1, ⟨by omega, hst⟩, ?_, rfl, by omega⟩
      simp (disch := omega) only [go_sem, keepL, Int.natCast_add, Int.cast_ofNat_Int]
  · have hkl : k = l.length := by omega
    subst hkl
    rw [List.take_length] at hw
    have e := fidx_none hw
    refine goX @e ?_; first | exact trivial | skip
theorem containsR {l : List Ru} (hok : ∀ r ∈ l, r.ok) (hl : l.length ≤ 9223372036854775807) : Sound Tryz.prog 20 [.sl 3 (rs l), .fn 16] (.bool (l.any fun r => !fit r)) := by
  have e := fidx_ge (fun r => !fit r) l
  refine Sound.run (N := 9) Tryz.func20 rfl (by kernel_rfl) rfl rfl rfl (by first | exact args0_0 | exact args0_1 | exact args0_2 | exact args0_3 | exact args0_4 | exact args0_5 | exact args0_6) fun X_ w_ => ?_
  have c0_ := indexR hok hl; refine goX @e ?_; first | exact trivial | skip
set_option maxHeartbeats 4000000 in
set_option maxRecDepth 10000 in
theorem sSame {r s : Ru} (hr : r.ok) (hs : s.ok) : Sound Tryz.prog 23 [ru r, ru s] (.bool (decide (r = s))) := by
  have c1 := sEqual hr.1 hs.1
  have c2 := sEqual hr.2.1 hs.2.1
  unfold ru
  by_cases h1 : r.left = s.left
  · rw [decide_eq_true h1] at c1
    by_cases h2 : r.right = s.right
    · rw [decide_eq_true h2] at c2
      by_cases h3 : r.cost = s.cost
      · have e : decide (r = s) = true := decide_eq_true (by cases r; cases s; simp only at h1 h2 h3; rw [h1, h2, h3])
        refine Sound.run (N := 24) Tryz.func23 rfl (by kernel_rfl) rfl rfl rfl (by first | exact args0_0 | exact args0_1 | exact args0_2 | exact args0_3 | exact args0_4 | exact args0_5 | exact args0_6) fun X_ w_ => ?_
        have c0_ := c1; have c1_ := c2; refine goX (And.intro @e @h3) ?_; first | exact trivial | skip
      · have e : decide (r = s) = false := decide_eq_false (fun h => h3 (by rw [h]))
        refine Sound.run (N := 24) Tryz.func23 rfl (by kernel_rfl) rfl rfl rfl (by first | exact args0_0 | exact args0_1 | exact args0_2 | exact args0_3 | exact args0_4 | exact args0_5 | exact args0_6) fun X_ w_ => ?_
        have c0_ := c1; have c1_ := c2; refine goX (And.intro @e @h3) ?_; first | exact trivial | skip
    · rw [decide_eq_false h2] at c2
      have e : decide (r = s) = false := decide_eq_false (fun h => h2 (by rw [h]))
      refine Sound.run (N := 24) Tryz.func23 rfl (by kernel_rfl) rfl rfl rfl (by first | exact args0_0 | exact args0_1 | exact args0_2 | exact args0_3 | exact args0_4 | exact args0_5 | exact args0_6) fun X_ w_ => ?_
      have c0_ := c1; have c1_ := c2; refine goX @e ?_; first | exact trivial | skip
  · rw [decide_eq_false h1] at c1
    have e : decide (r = s) = false := decide_eq_false (fun h => h1 (by rw [h]))
    refine Sound.run (N := 24) Tryz.func23 rfl (by kernel_rfl) rfl rfl rfl (by first | exact args0_0 | exact args0_1 | exact args0_2 | exact args0_3 | exact args0_4 | exact args0_5 | exact args0_6) fun X_ w_ => ?_
    have c0_ := c1; have c1_ := c2; refine goX @e ?_; first | exact trivial | skip
end Go.Eng.Tryz
set_option linter.unusedVariables false
set_option linter.unusedSimpArgs false
namespace Go.Eng.Tryz
open Go Go.Eng Go.Proofs Go.RowKit
attribute [local go_sem] evFold rnE ksE roundE frz frzs List.set_cons_zero List.set_cons_succ List.zip_cons_cons List.zip_nil_right List.foldl_cons List.foldl_nil D.flat rns AV.rn HO.rn AV.ks kss HO.ks sg dedup objKs reach passE fresh List.filter fnOf evOp opnd lk v2d v2ds just evBin intBin nilBin isNil strBin evUn evLoad ldD ldA evStore evField evIndex evBuild fillA evBuildSlice evBuildSliceX evBuildSliceT isOwn1 evAppendTX evAppendTT evAppend evAppendClip elems evMake evSlice evSliceO evSliceX evSliceY evViewV evStoreX evStoreT stT stI evCopyT evAppendT evAppendTD ldT ldI Tb.inn Tb.ilen Tb.nilAt Tb.ini D.put evCut evView evCopy evAppendV evAgg evMakeMap evLookup evMapUpd evRange evEntry cellsD AV.kb splice List.getLast?_append resM resAs resA resD keepL List.replicate_zero List.take_length ofInt evLen evMin evMax evConv evNil evExtract evBuiltin toD toDs allD pack splice D.comps AV.comps AV.sto D.cell D.rebuild inOrder allFlat del put setE eff gd gslot kills Option.map_some Option.map_none Option.bind_some Option.isSome_some List.map_cons List.map_nil List.append_nil List.nil_append List.cons_append List.length_cons List.length_nil List.length_map List.length_append List.take_zero List.take_succ_cons List.take_nil List.drop_zero List.drop_succ_cons List.drop_nil List.getElem?_cons_zero List.getElem?_cons_succ List.getElem?_map List.all_cons List.all_nil List.mem_cons List.not_mem_nil List.elem_cons List.elem_nil Bool.and_true Bool.true_and Bool.and_self Bool.not_true Bool.not_false Bool.or_true Bool.or_false and_self and_true true_and or_false false_or or_true true_or not_false_eq_true not_true_eq_false if_true if_false decide_true decide_false decide_eq_true_eq Int.toNat_natCast Int.toNat_zero beq_self_eq_true bne_self_eq_false Bool.false_eq_true Nat.add_zero Nat.zero_add tys room le_i lt_i eq_n le_n lt_n len0 gdE bb_tf bb_ft mapP arrL if_min tdiv_nn tmod_nn us_len us_get wrap_i64 wrap_u64 dec_lt dec_nlt dec_le dec_nle beq_t beq_f bne_t bne_f get_lt gt_iff_lt ge_iff_le
attribute [local go_sem ↓] map_P reduceIte
attribute [local go_sem] reduceCtorEq Nat.reduceEqDiff Nat.reduceAdd Nat.reduceSub Nat.reduceMul Nat.reduceLeDiff Nat.reduceLT Nat.reduceBEq Nat.reduceBNe Int.reduceToNat Int.reduceLT Int.reduceLE Int.reduceEq Int.reduceAdd Int.reduceSub Int.reduceNeg Int.reduceBEq Int.reduceBNe
attribute [local go_sem] is_len is_get rs_len rs_get rs_snoc
theorem nins_at (r : Ru) : ∀ (o : List Ru) (j : Nat), j ≤ o.length → (∀ i, i < j → slt (o[i]!) r) → (j < o.length → ¬ slt (o[j]!) r) → nins o r = if j < o.length ∧ ssame (o[j]!) r then o.set j (best (o[j]!) r) else o.take j ++ r :: o.drop j
  | [], j, h, _, _ => by
    have : j = 0 := by simpa using h
    subst this; simp [nins]
  | x :: t, 0, _, _, h => by
    have h1 : ¬ slt x r := h (by simp)
    simp only [nins, if_neg h1]
    by_cases h2 : ssame x r
    · rw [if_pos h2, if_pos ⟨by simp, h2⟩]; rfl
    · rw [if_neg h2, if_neg (fun e => h2 e.2)]; rfl
  | x :: t, j + 1, hj, hb, h => by
    have h1 : slt x r := hb 0 (by omega)
    have ih := nins_at r t j (by simpa using hj) (fun i hi => hb (i + 1) (by omega)) (fun hj => h (by simpa using hj))
    simp only [nins, if_pos h1, ih]
    by_cases h2 : j < t.length ∧ ssame (t[j]!) r
    · rw [if_pos h2, if_pos ⟨by simpa using h2.1, h2.2⟩]; rfl
    · rw [if_neg h2, if_neg (fun e => h2 ⟨by simpa using e.1, e.2⟩)]; rfl
theorem rs_take {l : List Ru} {k : Nat} : (rs l).take k = rs (l.take k) := by simp [rs, List.map_take]
theorem rs_drop {l : List Ru} {k : Nat} : (rs l).drop k = rs (l.drop k) := by simp [rs, List.map_drop]
theorem rs_app {a b : List Ru} : rs a ++ rs b = rs (a ++ b) := by simp [rs]
theorem rs_set {l : List Ru} {k : Nat} {x : Ru} : (rs l).set k (.agg [.sl 1 (is x.left), .sl 1 (is x.right), .int .u64 x.cost]) = rs (l.set k x) := by simp [rs, ru, List.map_set]
theorem rs_nil : rs [] = [] := rfl
end Go.Eng.Tryz
set_option linter.unusedVariables false
set_option linter.unusedSimpArgs false
namespace Go.Eng.Tryz
open Go Go.Eng Go.Proofs Go.RowKit
attribute [local go_sem] tys
attribute [local go_sem] is_len is_get rs_len rs_get
theorem rtake {a b : List Ru} {k : Nat} (hw : a.take k = b.take k) (h1 : k < a.length) (h2 : k < b.length) (h : a[k]! = b[k]!) : a.take (k + 1) = b.take (k + 1) := by
  rw [rtake_snoc h1, rtake_snoc h2, hw, h]
set_option maxHeartbeats 4000000 in
set_option maxRecDepth 10000 in
theorem sEqualR {a b : List Ru} (ha : ∀ r ∈ a, r.ok) (hb : ∀ r ∈ b, r.ok) (hla : a.length ≤ 9223372036854775807) (hlb : b.length ≤ 9223372036854775807) : Sound Tryz.prog 21 [.sl 3 (rs a), .sl 3 (rs b), .fn 23] (.bool (decide (a = b))) := by
  by_cases hl : a.length = b.length
  · refine Sound.run (N := 32) Tryz.func21 rfl (by kernel_rfl) rfl rfl rfl (by first | exact args0_0 | exact args0_1 | exact args0_2 | exact args0_3 | exact args0_4 | exact args0_5 | exact args0_6) fun X_ w_ => ?_
    refine goT ?_; first | exact trivial | skip
    refine WP_loopk (fun k : Nat => k ≤ a.length ∧ a.take k = b.take k) (fun k => [(1, .d (.sl 3 (rs b))), (2, .d (.fn 23)), (15, .d (.sl 3 (rs a))), (16, .d (.int .i64 a.length)), (17, .d (.int .i64 k))]) (fun _ => []) 0 (fun k => a.length - k) [1, 2, 15, 16, 17] [] 0 ⟨Nat.zero_le _, rfl⟩ rfl rfl (Nat.le_refl _) (fun _ _ => rfl) (fun _ _ => rfl) fun k hk => ?_
    obtain ⟨hk1, hw⟩ := hk
    by_cases hk' : k < a.length
    · have hk2 : k < b.length := by omega
      have c := sSame (rok_get ha hk') (rok_get hb hk2)
      unfold ru at c
      by_cases hc : a[k]! = b[k]!
      · have e := rtake hw hk' hk2 hc
        rw [decide_eq_true hc] at c
        have c0_ := c; refine goT ?_; first | exact trivial | skip
        refine ⟨k + 1, ⟨by omega, e⟩, ?_, rfl, by omega⟩
        simp (disch := omega) only [go_sem, keepL, Int.natCast_add, Int.cast_ofNat_Int]
      · have e : decide (a = b) = false := decide_eq_false fun h => hc (by rw [h])
        rw [decide_eq_false hc] at c
        have c0_ := c; refine goX @e ?_; first | exact trivial | skip
    · have hk' : k = a.length := by omega
      subst hk'
      have e : decide (a = b) = true := decide_eq_true (by rw [List.take_length, hl, List.take_length] at hw; exact hw)
      refine goX @e ?_; first | exact trivial | skip
  · have e : decide (a = b) = false := decide_eq_false fun h => hl (by rw [h])
    refine Sound.run (N := 32) Tryz.func21 rfl (by kernel_rfl) rfl rfl rfl (by first | exact args0_0 | exact args0_1 | exact args0_2 | exact args0_3 | exact args0_4 | exact args0_5 | exact args0_6) fun X_ w_ => ?_
    refine goX @e ?_; first | exact trivial | skip
/-- The greatest of some. -/
def umax (l : List Int) : Int := l.foldl max 0
theorem umax_step {l : List Int} {k : Nat} (h : k < l.length) : umax (l.take (k + 1)) = max (umax (l.take k)) (l[k]!) := by
  unfold umax
  rw [List.take_add_one, List.foldl_append, List.getElem?_eq_getElem h, ← getElem!_pos l k h]
  rfl
theorem if_max {a b : Int} : (if a < b then b else a) = max a b := by split <;> omega
set_option maxHeartbeats 4000000 in
set_option maxRecDepth 10000 in
theorem sMax {l : List Int} (h0 : 0 < l.length) (hl : l.length ≤ 9223372036854775807) (hU : ∀ z ∈ l, 0 ≤ z) : Sound Tryz.prog 18 [.sl 1 (us l)] (.int .u64 (umax l)) := by
  have e1 : umax (l.take 1) = l[0]! := by
    rw [umax_step h0]
    have : 0 ≤ l[0]! := by rw [getElem!_pos l 0 h0]; exact hU _ (List.getElem_mem h0)
    show max 0 _ = _
    omega
  refine Sound.run (N := 25) Tryz.func18 rfl (by kernel_rfl) rfl rfl rfl (by first | exact args0_0 | exact args0_1 | exact args0_2 | exact args0_3 | exact args0_4 | exact args0_5 | exact args0_6) fun X_ w_ => ?_
  refine goT ?_; first | exact trivial | skip
  refine WP_loopk (fun k : Nat => 1 ≤ k ∧ k ≤ l.length) (fun k => [(0, .d (.sl 1 (us l))), (3, .d (.int .u64 (umax (l.take k)))), (4, .d (.int .i64 k))]) (fun _ => []) 0 (fun k => l.length - k) [0, 3, 4] [] 1 ⟨Nat.le_refl _, h0⟩ (by rw [e1]; rfl) rfl (Nat.le_refl _) (fun _ _ => rfl) (fun _ _ => rfl) fun k hk => ?_
  obtain ⟨hk0, hk1⟩ := hk
  by_cases hk' : k < l.length
  · have hst := umax_step hk'
    refine goX @if_max ?_; first | exact trivial | skip
    refine ⟨k + 1, ⟨by omega, by omega⟩, ?_, rfl, by omega⟩
    simp (disch := omega) only [go_sem, keepL, Int.natCast_add, Int.cast_ofNat_Int, hst, if_max]
  · have hkl : k = l.length := by omega
    subst hkl
    rw [List.take_length]
    refine goT ?_; first | exact trivial | skip
/-- Costs. -/
structure Co where
  more : Int
  less : Int
  other : Int
  turned : Int
  rules : List Ru
deriving DecidableEq
def co (c : Co) : D := .agg [.int .u64 c.more, .int .u64 c.less, .int .u64 c.other, .int .u64 c.turned, .sl 3 (rs c.rules)]
def Co.ok (c : Co) : Prop := U c.more ∧ U c.less ∧ U c.other ∧ U c.turned ∧ (∀ r ∈ c.rules, r.ok) ∧ c.rules.length ≤ 9223372036854775807
def cmax (c : Co) : Int := umax [c.more, c.less, c.other, c.turned]
def cok (c : Co) : Bool := decide (cmax c < 18446744073709551615) && decide (c.rules.length ≤ 200) && c.rules.all fit && decide (norm c.rules = c.rules)
theorem cok_iff {c : Co} : cok c = true ↔ cmax c < 18446744073709551615 ∧ c.rules.length ≤ 200 ∧ c.rules.all fit = true ∧ norm c.rules = c.rules := by
  simp [cok, Bool.and_eq_true, and_assoc]
theorem cok_f {c : Co} (h : ¬ (cmax c < 18446744073709551615 ∧ c.rules.length ≤ 200 ∧ c.rules.all fit = true ∧ norm c.rules = c.rules)) : cok c = false := by
  cases hc : cok c with
  | false => rfl
  | true => exact absurd (cok_iff.1 hc) h
theorem any_not {α : Type} (p : α → Bool) (l : List α) : (l.any fun r => !p r) = !l.all p := by
  induction l with
  | nil => rfl
  | cons x l ih => simp [ih]
theorem sSteps {c : Co} (hc : c.ok) : Sound Tryz.prog 19 [co c] (.sl 1 [.int .u64 c.more, .int .u64 c.less, .int .u64 c.other, .int .u64 c.turned]) := by
  unfold co
  refine Sound.run (N := 12) Tryz.func19 rfl (by kernel_rfl) rfl rfl rfl (by first | exact args0_0 | exact args0_1 | exact args0_2 | exact args0_3 | exact args0_4 | exact args0_5 | exact args0_6) fun X_ w_ => ?_
  refine goT ?_; first | exact trivial | skip
set_option maxHeartbeats 4000000 in
set_option maxRecDepth 10000 in
theorem sCheck {c : Co} (hc : c.ok) : Sound Tryz.prog 6 [co c] (.bool (cok c)) := by
  obtain ⟨u1, u2, u3, u4, hr, hl⟩ := hc
  have c0 := sSteps (c := c) ⟨u1, u2, u3, u4, hr, hl⟩
  have c1 : Sound Tryz.prog 18 [.sl 1 [.int .u64 c.more, .int .u64 c.less, .int .u64 c.other, .int .u64 c.turned]] (.int .u64 (cmax c)) :=
    sMax (l := [c.more, c.less, c.other, c.turned]) (by simp) (by simp) (fun z hz => by simp at hz; rcases hz with rfl | rfl | rfl | rfl; exact u1.1; exact u2.1; exact u3.1; exact u4.1)
  have c2 := containsR hr hl
  rw [any_not] at c2
  unfold co at c0 ⊢
  by_cases h1 : cmax c < 18446744073709551615
  · by_cases h2 : c.rules.length ≤ 200
    · cases h3 : c.rules.all fit
      · have e := cok_f (c := c) (fun h => by rw [h.2.2.1] at h3; cases h3)
        rw [h3] at c2
        refine Sound.run (N := 29) Tryz.func6 rfl (by kernel_rfl) rfl rfl rfl (by first | exact args0_0 | exact args0_1 | exact args0_2 | exact args0_3 | exact args0_4 | exact args0_5 | exact args0_6) fun X_ w_ => ?_
        have c0_ := c0; have c1_ := c1; have c2_ := c2; refine goX @e ?_; first | exact trivial | skip
      · rw [h3] at c2
        have c3 := pNorm hr (by omega)
        have c4 := sEqualR (norm_ok hr) hr (Nat.le_trans (norm_len _) (by omega)) hl
        by_cases h4 : norm c.rules = c.rules
        · have e := cok_iff.2 ⟨h1, h2, h3, h4⟩
          rw [decide_eq_true h4] at c4
          refine Sound.run (N := 29) Tryz.func6 rfl (by kernel_rfl) rfl rfl rfl (by first | exact args0_0 | exact args0_1 | exact args0_2 | exact args0_3 | exact args0_4 | exact args0_5 | exact args0_6) fun X_ w_ => ?_
          have c0_ := c0; have c1_ := c1; have c2_ := c2; have c3_ := c3; have c4_ := c4; refine goX @e ?_; first | exact trivial | skip
        · have e := cok_f (c := c) (fun h => h4 h.2.2.2)
          rw [decide_eq_false h4] at c4
          refine Sound.run (N := 29) Tryz.func6 rfl (by kernel_rfl) rfl rfl rfl (by first | exact args0_0 | exact args0_1 | exact args0_2 | exact args0_3 | exact args0_4 | exact args0_5 | exact args0_6) fun X_ w_ => ?_
          have c0_ := c0; have c1_ := c1; have c2_ := c2; have c3_ := c3; have c4_ := c4; refine goX @e ?_; first | exact trivial | skip
    · have e := cok_f (c := c) (fun h => h2 h.2.1)
      refine Sound.run (N := 29) Tryz.func6 rfl (by kernel_rfl) rfl rfl rfl (by first | exact args0_0 | exact args0_1 | exact args0_2 | exact args0_3 | exact args0_4 | exact args0_5 | exact args0_6) fun X_ w_ => ?_
      have c0_ := c0; have c1_ := c1; refine goX @e ?_; first | exact trivial | skip
  · have e := cok_f (c := c) (fun h => h1 h.1)
    refine Sound.run (N := 29) Tryz.func6 rfl (by kernel_rfl) rfl rfl rfl (by first | exact args0_0 | exact args0_1 | exact args0_2 | exact args0_3 | exact args0_4 | exact args0_5 | exact args0_6) fun X_ w_ => ?_
    have c0_ := c0; have c1_ := c1; refine goX @e ?_; first | exact trivial | skip
end Go.Eng.Tryz
set_option linter.unusedVariables false
set_option linter.unusedSimpArgs false
namespace Go.Eng.Tryz
open Go Go.Eng Go.Proofs Go.RowKit
attribute [local go_sem] tys
theorem is_cons {x : Int} {l : List Int} : is (x :: l) = .int .i64 x :: is l := rfl
attribute [local go_sem] is_len is_get rs_len rs_get
/-- A step. -/
structure Se where
  eat : Int
  put : List Int
  any : Bool
  cost : Int
deriving DecidableEq
instance : Inhabited Se := ⟨⟨0, [], false, 0⟩⟩
def se (s : Se) : D := .agg [.int .i64 s.eat, .sl 1 (is s.put), .bool s.any, .int .u64 s.cost]
def ses (l : List Se) : List D := l.map se
theorem ses_len {l : List Se} : (ses l).length = l.length := by simp [ses]
theorem ses_get {l : List Se} {k : Nat} (h : k < l.length) : (ses l)[k]? = some (.agg [.int .i64 (l[k]!).eat, .sl 1 (is (l[k]!).put), .bool (l[k]!).any, .int .u64 (l[k]!).cost]) := by
  simp [ses, se, List.getElem?_eq_getElem h, getElem!_pos l k h]
theorem ses_snoc {l : List Se} {e p : _} {a : Bool} {c : Int} : ses l ++ [.agg [.int .i64 e, .sl 1 (is p), .bool a, .int .u64 c]] = ses (l ++ [⟨e, p, a, c⟩]) := by simp [ses, se]
theorem ses_nil : ses [] = [] := rfl
attribute [local go_sem] ses_len ses_get ses_snoc
set_option maxHeartbeats 4000000 in
set_option maxRecDepth 10000 in
theorem pClone {l : List Int} (hl : l.length ≤ 1000000) : Sound Tryz.prog 43 [.sl 1 (is l)] (.sl 1 (is l)) := by
  cases l with
  | nil =>
    have h1 : Sound Tryz.prog 43 [.nils] .nils := by
      refine Sound.run (N := 8) Tryz.func43 rfl (by kernel_rfl) rfl rfl rfl (by first | exact args0_0 | exact args0_1 | exact args0_2 | exact args0_3 | exact args0_4 | exact args0_5 | exact args0_6) fun X_ w_ => ?_
      refine goT ?_; first | exact trivial | skip
    have h2 : Sound Tryz.prog 43 [.emp 1] (.sl 1 []) := by
      refine Sound.run (N := 8) Tryz.func43 rfl (by kernel_rfl) rfl rfl rfl (by first | exact args0_0 | exact args0_1 | exact args0_2 | exact args0_3 | exact args0_4 | exact args0_5 | exact args0_6) fun X_ w_ => ?_
      refine goT ?_; first | exact trivial | skip
    exact Sound.nil_at (sz := 1) 0 rfl (h1.wk (Wks.refl _) (.nil 1)) h2
  | cons x l =>
    simp only [List.length_cons] at hl
    refine Sound.run (N := 8) Tryz.func43 rfl (by kernel_rfl) rfl rfl rfl (by first | exact args0_0 | exact args0_1 | exact args0_2 | exact args0_3 | exact args0_4 | exact args0_5 | exact args0_6) fun X_ w_ => ?_
    refine goX @is_cons ?_; first | exact trivial | skip
/-- What a loop over steps holds: its variable's slot has key 1; the row's key is 2. -/
def St (Y : Ym) (xs : List Se) : Heap := [(0, .loop Y [(6, .ref 1 0)] .ready), (1, .var [.own 2 xs.length]), (2, .row 72 4 (ses xs))]
def Takes (Y : Ym) : Prop := ∀ (xs : List Se) (s : Se), xs.length ≤ 1000 → s.put.length ≤ 1000000 → SoundY Tryz.prog [.yld 0, .d (se s)] (St Y xs) (.d (.bool true)) (St Y (xs ++ [s])) 3
def St2 (Y : Ym) (xs : List Se) : Heap := [(0, .var [.yld 1]), (1, .loop Y [(6, .ref 2 0)] .ready), (2, .var [.own 3 xs.length]), (3, .row 72 4 (ses xs))]
set_option maxHeartbeats 4000000 in
set_option maxRecDepth 10000 in
theorem putN {Y : Ym} {xs : List Se} {e : Int} {p : D} {a : Bool} {c : Int} :
    SoundM Tryz.prog 102 [.d (.bool false), .d (.agg [.int .i64 e, p, .bool a, .int .u64 c]), .ref 0 0] (St2 Y xs) (.d (.bool true)) (St2 Y xs) 4 := by
  unfold St2
  refine SoundM.run (N := 13) (ks := [0, 1, 2, 3]) Tryz.func102 rfl (by kernel_rfl) rfl rfl rfl (by first | exact argsA_0 | exact argsA_1 | exact argsA_2 | exact argsA_3 | exact argsA_4 | exact argsA_5 | exact argsA_6) fun X_ ν_ w_ => ?_
  refine goT ?_; first | exact trivial | skip
set_option maxHeartbeats 4000000 in
set_option maxRecDepth 10000 in
theorem putY {Y : Ym} (hy : Takes Y) {xs : List Se} {s : Se} (hx : xs.length ≤ 1000) (hs : s.put.length ≤ 1000000) :
    SoundM Tryz.prog 102 [.d (.bool true), .d (se s), .ref 0 0] (St2 Y xs) (.d (.bool true)) (St2 Y (xs ++ [s])) 4 := by
  have c := hy xs s hx hs
  unfold St2
  unfold St at c
  unfold se at c ⊢
  refine SoundM.run (N := 13) (ks := [0, 1, 2, 3]) Tryz.func102 rfl (by kernel_rfl) rfl rfl rfl (by first | exact argsA_0 | exact argsA_1 | exact argsA_2 | exact argsA_3 | exact argsA_4 | exact argsA_5 | exact argsA_6) fun X_ ν_ w_ => ?_
  have c0_ := c; refine goT ?_; first | exact trivial | skip
end Go.Eng.Tryz

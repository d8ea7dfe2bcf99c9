/- Automata: how many, how deep, whether; as told, and as the law tells it. (and what stands behind it: texts laid together) -/
import Derived.Test.YtabfoaoeghikoaaDoorMR9
import Derived.Test.YtabfoaoeghikoaaDoorMR5
import Derived.Test.YtabfoaoeghikoaaDoorMR2
set_option linter.unusedVariables false
set_option linter.unusedSimpArgs false
namespace Go.Eng.Tryd
open Go Go.Eng Go.Proofs Go.RowKit
attribute [local go_sem] evFold rnE ksE roundE frz frzs List.set_cons_zero List.set_cons_succ List.zip_cons_cons List.zip_nil_right List.foldl_cons List.foldl_nil D.flat rns AV.rn HO.rn AV.ks kss HO.ks sg dedup objKs reach passE fresh List.filter fnOf evOp opnd lk v2d v2ds just evBin intBin nilBin isNil strBin evUn evLoad ldD ldA evStore evField evIndex evBuild fillA evBuildSlice evBuildSliceX evBuildSliceT isOwn1 evAppendTX evAppendTT evAppend evAppendClip elems evMake evSlice evSliceO evSliceX evSliceY evViewV evStoreX evStoreT stT stI evCopyT evAppendT evAppendTD ldT ldI Tb.inn Tb.ilen Tb.nilAt Tb.ini D.put evCut evView evCopy evAppendV evAgg evMakeMap evLookup evMapUpd evRange evEntry cellsD AV.kb splice List.getLast?_append resM resAs resA resD keepL List.replicate_zero List.take_length ofInt evLen evMin evMax evConv evNil evExtract evBuiltin toD toDs allD pack splice D.comps AV.comps AV.sto D.cell D.rebuild inOrder allFlat del put setE eff gd gslot kills Option.map_some Option.map_none Option.bind_some Option.isSome_some List.map_cons List.map_nil List.append_nil List.nil_append List.cons_append List.length_cons List.length_nil List.length_map List.length_append List.take_zero List.take_succ_cons List.take_nil List.drop_zero List.drop_succ_cons List.drop_nil List.getElem?_cons_zero List.getElem?_cons_succ List.getElem?_map List.all_cons List.all_nil List.mem_cons List.not_mem_nil List.elem_cons List.elem_nil Bool.and_true Bool.true_and Bool.and_self Bool.not_true Bool.not_false Bool.or_true Bool.or_false and_self and_true true_and or_false false_or or_true true_or not_false_eq_true not_true_eq_false if_true if_false decide_true decide_false decide_eq_true_eq Int.toNat_natCast Int.toNat_zero beq_self_eq_true bne_self_eq_false Bool.false_eq_true Nat.add_zero Nat.zero_add tys room le_i lt_i eq_n le_n lt_n len0 gdE bb_tf bb_ft mapP arrL if_min tdiv_nn tmod_nn us_len us_get wrap_i64 wrap_u64 dec_lt dec_nlt dec_le dec_nle beq_t beq_f bne_t bne_f get_lt gt_iff_lt ge_iff_le
attribute [local go_sem ↓] map_P reduceIte
attribute [local go_sem] reduceCtorEq Nat.reduceEqDiff Nat.reduceAdd Nat.reduceSub Nat.reduceMul Nat.reduceLeDiff Nat.reduceLT Nat.reduceBEq Nat.reduceBNe Int.reduceToNat Int.reduceLT Int.reduceLE Int.reduceEq Int.reduceAdd Int.reduceSub Int.reduceNeg Int.reduceBEq Int.reduceBNe
attribute [local go_sem] is_len is_get ars_len ars_get stas_len stas_get is_setZ is_repZ
theorem arcsIn_of {l : List Sta} (hka : achk l = true) {s : Sta} (h : s ∈ l) : arcsIn s l.length := by
  obtain ⟨k, hk, rfl⟩ := List.getElem_of_mem h
  intro a ha
  rw [← getElem!_pos l k hk] at ha
  have := achk_arc hka hk a ha
  exact ⟨by omega, this.2.1⟩
theorem deep_in {out : List Int} {j : Nat} (h : ∀ z ∈ out, -1 ≤ z ∧ z ≤ (j : Int)) (s : Sta) : -1 ≤ deepF s out ∧ deepF s out ≤ ((j + 1 : Nat) : Int) := by
  have := deep_fold h s.arcs (if s.final = true then 0 else -1) (by split <;> omega)
  have e : deepF s out = s.arcs.foldl (deep1 out) (if s.final = true then 0 else -1) := rfl
  rw [e]
  omega
theorem manyI_in (l : List Sta) (j : Nat) : ∀ z ∈ toldI manyF l j, 0 ≤ z ∧ z ≤ 301 := toldI_inv (inv := fun _ z => 0 ≤ z ∧ z ≤ 301) (by decide) (fun _ _ h => h) (fun j out h => many_fold h _ _ (by split <;> decide)) j
theorem deepI_in (l : List Sta) (j : Nat) : ∀ z ∈ toldI deepF l j, -1 ≤ z ∧ z ≤ j := toldI_inv (inv := fun j z => -1 ≤ z ∧ z ≤ (j : Int)) (by decide) (fun _ _ h => by omega) (fun j out h => deep_in h _) j
def manyN (l : List Sta) : Int := if achk l = true then (toldI manyF l l.length)[0]! else 0
def deepN (l : List Sta) : Int := if achk l = true then (toldI deepF l l.length)[0]! else -1
/-! ### The law's own -/
theorem lastS_take {l : List Ar} {k : Nat} (h : k < l.length) (last : Int) : lastS last (l.take (k + 1)) = (l[k]!).sign := by rw [atake_snoc h, lastS_snoc]
theorem arcsOk_f {i n last : Int} {l : List Ar} {k : Nat} (hk : k < l.length) (h : arcsOk i n last (l.take k) = true) (hb : arcOk i n (lastS last (l.take k)) (l[k]!) = false) : arcsOk i n last l = false := by
  have e : l = l.take k ++ (l[k]! :: l.drop (k + 1)) := by rw [← adrop_at hk, List.take_append_drop]
  rw [e, arcsOk_app, h]
  simp only [arcsOk, hb, Bool.false_and, Bool.and_false]
theorem achk_len {l : List Sta} (h : statesOk l l.length = true) : achk l = (decide ((1 : Int) ≤ l.length) && decide ((l.length : Int) ≤ 6001)) := by
  unfold achk
  rw [h, Bool.true_and]
  by_cases h1 : 0 < l.length ∧ l.length ≤ 6001
  · rw [decide_eq_true h1, decide_eq_true (by omega), decide_eq_true (by omega)]; rfl
  · rw [decide_eq_false h1]
    by_cases h2 : 0 < l.length
    · rw [decide_eq_false (show ¬ (l.length : Int) ≤ 6001 by omega), Bool.and_false]
    · rw [decide_eq_false (show ¬ (1 : Int) ≤ l.length by omega), Bool.false_and]
theorem find_at {α : Type} [Inhabited α] {p : α → Bool} : ∀ {l : List α} {k : Nat}, k < l.length → (∀ j, j < k → p (l[j]!) = false) → p (l[k]!) = true → l.find? p = some (l[k]!)
  | [], k, h, _, _ => by simp at h
  | a :: l, 0, _, _, h2 => by simp only [List.getElem!_cons_zero] at h2 ⊢; rw [List.find?_cons_of_pos h2]
  | a :: l, k + 1, h, h1, h2 => by
    have h0 := h1 0 (by omega)
    simp only [List.getElem!_cons_zero] at h0
    simp only [List.getElem!_cons_succ] at h2 ⊢
    rw [List.find?_cons_of_neg (by simp [h0])]
    exact find_at (by simpa using h) (fun j hj => by have := h1 (j + 1) (by omega); simpa using this) h2
/-! ### Whether a word is in an automaton -/
def hasF (l : List Sta) (w : List Int) : Bool := achk l && (match leadF l 0 w with | some t => (l[t.toNat]!).final | none => false)
end Go.Eng.Tryd
set_option linter.unusedVariables false
set_option linter.unusedSimpArgs false
namespace Go.Eng.Tryd
open Go Go.Eng Go.Proofs Go.RowKit
attribute [local go_sem] evFold rnE ksE roundE frz frzs List.set_cons_zero List.set_cons_succ List.zip_cons_cons List.zip_nil_right List.foldl_cons List.foldl_nil D.flat rns AV.rn HO.rn AV.ks kss HO.ks sg dedup objKs reach passE fresh List.filter fnOf evOp opnd lk v2d v2ds just evBin intBin nilBin isNil strBin evUn evLoad ldD ldA evStore evField evIndex evBuild fillA evBuildSlice evBuildSliceX evBuildSliceT isOwn1 evAppendTX evAppendTT evAppend evAppendClip elems evMake evSlice evSliceO evSliceX evSliceY evViewV evStoreX evStoreT stT stI evCopyT evAppendT evAppendTD ldT ldI Tb.inn Tb.ilen Tb.nilAt Tb.ini D.put evCut evView evCopy evAppendV evAgg evMakeMap evLookup evMapUpd evRange evEntry cellsD AV.kb splice List.getLast?_append resM resAs resA resD keepL List.replicate_zero List.take_length ofInt evLen evMin evMax evConv evNil evExtract evBuiltin toD toDs allD pack splice D.comps AV.comps AV.sto D.cell D.rebuild inOrder allFlat del put setE eff gd gslot kills Option.map_some Option.map_none Option.bind_some Option.isSome_some List.map_cons List.map_nil List.append_nil List.nil_append List.cons_append List.length_cons List.length_nil List.length_map List.length_append List.take_zero List.take_succ_cons List.take_nil List.drop_zero List.drop_succ_cons List.drop_nil List.getElem?_cons_zero List.getElem?_cons_succ List.getElem?_map List.all_cons List.all_nil List.mem_cons List.not_mem_nil List.elem_cons List.elem_nil Bool.and_true Bool.true_and Bool.and_self Bool.not_true Bool.not_false Bool.or_true Bool.or_false and_self and_true true_and or_false false_or or_true true_or not_false_eq_true not_true_eq_false if_true if_false decide_true decide_false decide_eq_true_eq Int.toNat_natCast Int.toNat_zero beq_self_eq_true bne_self_eq_false Bool.false_eq_true Nat.add_zero Nat.zero_add tys room le_i lt_i eq_n le_n lt_n len0 gdE bb_tf bb_ft mapP arrL if_min tdiv_nn tmod_nn us_len us_get wrap_i64 wrap_u64 dec_lt dec_nlt dec_le dec_nle beq_t beq_f bne_t bne_f get_lt gt_iff_lt ge_iff_le
attribute [local go_sem ↓] map_P reduceIte
attribute [local go_sem] reduceCtorEq Nat.reduceEqDiff Nat.reduceAdd Nat.reduceSub Nat.reduceMul Nat.reduceLeDiff Nat.reduceLT Nat.reduceBEq Nat.reduceBNe Int.reduceToNat Int.reduceLT Int.reduceLE Int.reduceEq Int.reduceAdd Int.reduceSub Int.reduceNeg Int.reduceBEq Int.reduceBNe
attribute [local go_sem] is_len is_get ars_len ars_get stas_len stas_get is_setZ is_repZ
/-! ### How many words -/
end Go.Eng.Tryd
set_option linter.unusedVariables false
set_option linter.unusedSimpArgs false
namespace Go.Eng.Tryd
open Go Go.Eng Go.Proofs Go.RowKit
theorem wcmp_pre : ∀ (u a b : List Int), wcmp (u ++ a) (u ++ b) = wcmp a b
  | [], a, b => rfl
  | x :: u, a, b => by simp only [List.cons_append, wcmp, Int.lt_irrefl, if_false]; exact wcmp_pre u a b
theorem wcmp_nil (w : List Int) : ¬ wcmp w [] < 0 := by cases w <;> simp [wcmp]
theorem wcmp_ext (w u : List Int) (a : Int) : wcmp w (w ++ a :: u) < 0 := by
  have := wcmp_pre w [] (a :: u)
  rw [List.append_nil] at this
  rw [this]; simp [wcmp]
theorem wcmp_branch {a b : Int} (h : a < b) (w u v : List Int) : wcmp (w ++ a :: u) (w ++ b :: v) < 0 := by
  rw [wcmp_pre]; simp [wcmp, h]
/-- May no word that begins so be as great? -/
def cutW (w f : List Int) : Bool := decide (wcmp (w.take (min w.length f.length)) (f.take (min w.length f.length)) < 0)
theorem cutW_nil (w : List Int) : cutW w [] = false := by simp [cutW, wcmp]
theorem cutW_cons (x y : Int) (u f : List Int) : cutW (x :: u) (y :: f) = (decide (x < y) || (decide (x = y) && cutW u f)) := by
  unfold cutW
  simp only [List.length_cons, Nat.add_min_add_right, List.take_succ_cons, wcmp]
  by_cases h1 : x < y
  · simp [h1]
  · by_cases h2 : y < x
    · have : ¬ x = y := by omega
      simp [h1, h2, this]
    · have : x = y := by omega
      simp [h1, h2, this]
theorem cutW_less : ∀ {u f : List Int}, cutW u f = true → ∀ v, wcmp (u ++ v) f < 0
  | [], f, h, v => by simp [cutW, wcmp] at h
  | x :: u, [], h, v => by rw [cutW_nil] at h; cases h
  | x :: u, y :: f, h, v => by
    rw [cutW_cons, Bool.or_eq_true, Bool.and_eq_true, decide_eq_true_eq, decide_eq_true_eq] at h
    simp only [List.cons_append, wcmp]
    rcases h with h | ⟨h, h'⟩
    · rw [if_pos h]; decide
    · rw [if_neg (by omega), if_neg (by omega)]
      exact cutW_less h' v
/-- The words behind a state, no less than one, that begin so. -/
def wf (l : List Sta) (f : List Int) : Nat → Nat → List Int → List (List Int)
  | 0, _, _ => []
  | n + 1, k, w => (if (l[k]!).final = true ∧ ¬ wcmp w f < 0 then [w] else []) ++ (l[k]!).arcs.flatMap fun a => if cutW (w ++ [a.sign]) f = true then [] else wf l f n a.to.toNat (w ++ [a.sign])
theorem wf_filter (l : List Sta) (f : List Int) : ∀ (n k : Nat) (w : List Int), wf l f n k w = (wf l [] n k w).filter fun x => decide (¬ wcmp x f < 0)
  | 0, k, w => rfl
  | n + 1, k, w => by
    simp only [wf, List.filter_append, List.filter_flatMap]
    congr 1
    · have hw := wcmp_nil w
      by_cases h1 : (l[k]!).final = true
      · rw [if_pos (show (l[k]!).final = true ∧ ¬ wcmp w [] < 0 from ⟨h1, hw⟩)]
        by_cases h2 : wcmp w f < 0
        · rw [if_neg (fun h => h.2 h2), List.filter_cons_of_neg (by simp [h2])]; rfl
        · rw [if_pos ⟨h1, h2⟩, List.filter_cons_of_pos (by simp only [h2, not_false_eq_true, decide_true])]; rfl
      · rw [if_neg (fun h => h1 h.1), if_neg (fun h => h1 h.1)]; rfl
    · congr 1
      funext a
      rw [cutW_nil, if_neg (show ¬ (false = true) by simp), ← wf_filter l f n]
      split
      · rename_i h
        rw [wf_filter l f n]
        refine (List.filter_eq_nil_iff.2 fun x hx => ?_).symm
        obtain ⟨u, rfl⟩ : ∃ u, x = (w ++ [a.sign]) ++ u := wf_beg l [] n _ _ x hx
        simpa using cutW_less h u
      · rfl
where
  wf_beg (l : List Sta) (f : List Int) : ∀ (n k : Nat) (w x : List Int), x ∈ wf l f n k w → ∃ u, x = w ++ u
    | 0, k, w, x, h => by simp [wf] at h
    | n + 1, k, w, x, h => by
      simp only [wf, List.mem_append, List.mem_flatMap] at h
      rcases h with h | ⟨a, _, h⟩
      · split at h
        · simp only [List.mem_singleton] at h; exact ⟨[], by rw [h, List.append_nil]⟩
        · cases h
      · split at h
        · cases h
        · obtain ⟨u, rfl⟩ := wf_beg l f n _ _ x h
          exact ⟨a.sign :: u, by simp⟩
theorem wf_pre {l : List Sta} {f : List Int} {n k : Nat} {w x : List Int} (h : x ∈ wf l f n k w) : ∃ u, x = w ++ u := wf_filter.wf_beg l f n k w x h
theorem arcs_pw {i n : Int} : ∀ {l : List Ar} {last : Int}, arcsOk i n last l = true → l.Pairwise fun a b => a.sign < b.sign
  | [], _, _ => List.Pairwise.nil
  | b :: l, last, h => by
    simp only [arcsOk, Bool.and_eq_true] at h
    exact List.Pairwise.cons (fun a ha => (arcsOk_mem h.2 a ha).2.2.2) (arcs_pw h.2)
/-- They come in order. -/
theorem wf_srt {l : List Sta} (hka : achk l = true) : ∀ (n k : Nat) (w : List Int), k < l.length → SrtW (wf l [] n k w)
  | 0, k, w, _ => List.Pairwise.nil
  | n + 1, k, w, hk => by
    simp only [wf, cutW_nil, Bool.false_eq_true, if_false]
    refine List.pairwise_append.2 ⟨by split <;> simp, List.pairwise_flatMap.2 ⟨fun a ha => ?_, ?_⟩, fun x hx y hy => ?_⟩
    · have := achk_arc hka hk a ha
      exact wf_srt hka n _ _ (by omega)
    · refine (arcs_pw (statesOk_le (achk_iff.1 hka).1 hk)).imp fun {a b} hab x hx y hy => ?_
      obtain ⟨u, rfl⟩ := wf_pre hx
      obtain ⟨v, rfl⟩ := wf_pre hy
      simp only [List.append_assoc, List.singleton_append]
      exact wcmp_branch hab _ _ _
    · split at hx
      · simp only [List.mem_singleton] at hx
        subst hx
        obtain ⟨a, _, ha⟩ := List.mem_flatMap.1 hy
        obtain ⟨u, rfl⟩ := wf_pre ha
        simp only [List.append_assoc, List.singleton_append]
        exact wcmp_ext _ _ _
      · cases hx
theorem arcs_find2 {i n : Int} : ∀ {l : List Ar} {last : Int}, arcsOk i n last l = true → ∀ a ∈ l, l.find? (sgn a.sign) = some a
  | [], _, _, a, ha => by cases ha
  | b :: l, last, h, a, ha => by
    rcases List.mem_cons.1 ha with e | e
    · subst e; simp [List.find?, sgn]
    · simp only [arcsOk, Bool.and_eq_true] at h
      have := arcsOk_mem h.2 a e
      have hne : sgn a.sign b = false := decide_eq_false (by omega)
      rw [List.find?_cons_of_neg (by simp [hne])]
      exact arcs_find2 h.2 a e
/-- Signs lead to each; and they are signs. -/
theorem wf_lead {l : List Sta} (hka : achk l = true) {f : List Int} : ∀ (n k : Nat) (w : List Int), k < l.length → ∀ x ∈ wf l f n k w, ∃ u t, x = w ++ u ∧ leadF l k u = some t ∧ (l[t.toNat]!).final = true ∧ ∀ z ∈ u, 0 ≤ z
  | 0, k, w, _, x, h => by simp [wf] at h
  | n + 1, k, w, hk, x, h => by
    simp only [wf, List.mem_append, List.mem_flatMap] at h
    rcases h with h | ⟨a, ha, h⟩
    · split at h
      · rename_i hf
        simp only [List.mem_singleton] at h
        exact ⟨[], k, by rw [h, List.append_nil], rfl, by simpa using hf.1, fun z hz => by cases hz⟩
      · cases h
    · split at h
      · cases h
      · obtain ⟨g1, g2, g3⟩ := achk_arc hka hk a ha
        obtain ⟨u, t, rfl, e1, e2, e3⟩ := wf_lead hka n _ _ (by omega) x h
        have hf := arcs_find2 (statesOk_le (achk_iff.1 hka).1 hk) a ha
        have et : ((a.to.toNat : Nat) : Int) = a.to := by omega
        refine ⟨a.sign :: u, t, by simp, ?_, e2, fun z hz => ?_⟩
        · simp only [leadF, stepF]
          rw [if_pos ⟨by omega, by omega⟩, Int.toNat_natCast, hf]
          simp only [Option.map_some]
          rw [et] at e1
          exact e1
        · rcases List.mem_cons.1 hz with rfl | hz
          · exact (of_decide_eq_true g3).1
          · exact e3 z hz
theorem fold_cnt {M : List Int} {cnt : Ar → Nat} : ∀ (al : List Ar) (c : Nat), (∀ a ∈ al, M[a.to.toNat]! = min 301 (cnt a : Int)) → al.foldl (many1 M) (min 301 (c : Int)) = min 301 ((c + (al.map cnt).sum : Nat) : Int)
  | [], c, h => by simp
  | a :: al, c, h => by
    simp only [List.foldl_cons, List.map_cons, List.sum_cons]
    have e : many1 M (min 301 (c : Int)) a = min 301 (((c + cnt a : Nat)) : Int) := by unfold many1; rw [h a (by simp)]; omega
    rw [e, fold_cnt al (c + cnt a) fun x hx => h x (by simp [hx])]
    congr 2
    omega
/-- What is told of a state: how many words are behind it. -/
theorem wf_many {l : List Sta} (hka : achk l = true) : ∀ (n k : Nat) (w : List Int), k < l.length → l.length ≤ n + k → (toldI manyF l l.length)[k]! = min 301 ((wf l [] n k w).length : Int)
  | 0, k, w, h1, h2 => by omega
  | n + 1, k, w, h1, h2 => by
    rw [toldI_fix hka manyF_congr l.length (Nat.le_refl _) k (by omega) h1]
    unfold manyF
    have e0 : (if (l[k]!).final = true then (1 : Int) else 0) = min 301 (((if (l[k]!).final = true ∧ ¬ wcmp w [] < 0 then [w] else []).length : Nat) : Int) := by
      by_cases hf : (l[k]!).final = true
      · rw [if_pos hf, if_pos ⟨hf, wcmp_nil w⟩]; rfl
      · rw [if_neg hf, if_neg fun h => hf h.1]; rfl
    rw [e0, fold_cnt (cnt := fun a => (wf l [] n a.to.toNat (w ++ [a.sign])).length) _ _ fun a ha => ?_]
    · simp only [wf, cutW_nil, Bool.false_eq_true, if_false, List.length_append, List.length_flatMap]
    · have := achk_arc hka h1 a ha
      exact wf_many hka n _ _ (by omega) (by omega)
theorem wf_zero {l : List Sta} (hka : achk l = true) {f : List Int} {n k : Nat} {w : List Int} (h1 : k < l.length) (h2 : l.length ≤ n + k) (h : (toldI manyF l l.length)[k]! = 0) : wf l f n k w = [] := by
  rw [wf_many hka n k w h1 h2] at h
  have : (wf l [] n k w) = [] := List.eq_nil_of_length_eq_zero (by omega)
  rw [wf_filter, this]; rfl
/-- All words, no less than one. -/
def wordsF (l : List Sta) (f : List Int) : List (List Int) := wf l f l.length 0 []
theorem wordsF_filter (l : List Sta) (f : List Int) : wordsF l f = (wordsF l []).filter fun x => decide (¬ wcmp x f < 0) := wf_filter l f _ _ _
theorem succ_iff : ∀ (x y : List Int), (∀ z ∈ y, 0 ≤ z) → (¬ wcmp y (x ++ [0]) < 0 ↔ wcmp x y < 0)
  | [], [], _ => by simp [wcmp]
  | [], a :: u, h => by
    have ha := h a (by simp)
    simp only [List.nil_append, wcmp]
    rw [if_neg (by omega)]
    split
    · simp
    · simp [wcmp_nil]
  | b :: x, [], _ => by simp [wcmp]
  | b :: x, a :: u, h => by
    simp only [List.cons_append, wcmp]
    by_cases h1 : a < b
    · rw [if_pos h1, if_neg (by omega), if_pos h1]; simp
    · rw [if_neg h1]
      by_cases h2 : b < a
      · rw [if_pos h2, if_pos h2]; simp
      · rw [if_neg h2, if_neg h2, if_neg h1]
        exact succ_iff x u fun z hz => h z (by simp [hz])
/-- Of words in order: those from a place on. -/
theorem srt_drop {X : List (List Int)} {p : List Int → Bool} {m : Nat} (h1 : ∀ j, j < m → j < X.length → p (X[j]!) = false) (h2 : ∀ j, m ≤ j → j < X.length → p (X[j]!) = true) : X.filter p = X.drop m := by
  have e : X.filter p = (X.take m ++ X.drop m).filter p := by rw [List.take_append_drop]
  rw [e, List.filter_append]
  have a1 : (X.take m).filter p = [] := List.filter_eq_nil_iff.2 fun x hx => by
    obtain ⟨j, hj, rfl⟩ := List.getElem_of_mem hx
    simp only [List.length_take] at hj
    have := h1 j (by omega) (by omega)
    rw [getElem!_pos X j (by omega)] at this
    simp [List.getElem_take, this]
  have a2 : (X.drop m).filter p = X.drop m := List.filter_eq_self.2 fun x hx => by
    obtain ⟨j, hj, rfl⟩ := List.getElem_of_mem hx
    simp only [List.length_drop] at hj
    have := h2 (m + j) (by omega) (by omega)
    rw [getElem!_pos X (m + j) (by omega)] at this
    simp [this]
  rw [a1, a2, List.nil_append]
theorem wordsF_srt {l : List Sta} (hka : achk l = true) (f : List Int) : SrtW (wordsF l f) := by
  rw [wordsF_filter]
  exact (wf_srt hka _ _ _ (achk_iff.1 hka).2.1).filter _
theorem wordsF_has {l : List Sta} (hka : achk l = true) {f x : List Int} (h : x ∈ wordsF l f) : hasF l x = true ∧ ¬ wcmp x f < 0 ∧ ∀ z ∈ x, 0 ≤ z := by
  obtain ⟨u, t, e, e1, e2, e3⟩ := wf_lead hka _ _ _ (achk_iff.1 hka).2.1 x h
  simp only [List.nil_append] at e
  subst e
  refine ⟨?_, ?_, e3⟩
  · unfold hasF
    rw [hka]
    have e1 : leadF l 0 x = some t := e1
    rw [e1]; exact e2
  · rw [wordsF_filter] at h
    simpa using (List.mem_filter.1 h).2
/-- Behind the last of some words the rest comes. -/
theorem words_on {l : List Sta} (hka : achk l = true) {f : List Int} {n m : Nat} (hn : n = ((wordsF l f).take m).length) (h0 : 0 < n) : wordsF l (((wordsF l f).take m)[n - 1]! ++ [0]) = (wordsF l f).drop m := by
  have hs := wordsF_srt hka f
  have hnm : n = min m (wordsF l f).length := by rw [hn, List.length_take]
  have ex : ((wordsF l f).take m)[n - 1]! = (wordsF l f)[n - 1]! := by
    rw [getElem!_pos _ (n - 1) (by omega), getElem!_pos (wordsF l f) (n - 1) (by omega), List.getElem_take]
  rw [ex]
  have ed : (wordsF l f).drop m = (wordsF l f).drop n := by
    by_cases h : m ≤ (wordsF l f).length
    · rw [hnm, Nat.min_eq_left h]
    · rw [List.drop_eq_nil_of_le (by omega), List.drop_eq_nil_of_le (by omega)]
  rw [ed]
  have hx := List.getElem_mem (l := wordsF l f) (show n - 1 < (wordsF l f).length by omega)
  rw [← getElem!_pos (wordsF l f) (n - 1) (by omega)] at hx
  have hxf := (wordsF_has hka hx).2.1
  generalize hxx : (wordsF l f)[n - 1]! = x at *
  have e1 : wordsF l (x ++ [0]) = (wordsF l f).filter fun y => decide (wcmp x y < 0) := by
    rw [wordsF_filter l (x ++ [0]), wordsF_filter l f, List.filter_filter]
    refine List.filter_congr fun y hy => ?_
    have hz := (wordsF_has hka hy).2.2
    have := succ_iff x y hz
    by_cases hxy : wcmp x y < 0
    · have h3 := this.2 hxy
      have h4 : ¬ wcmp y f < 0 := fun h => by
        have := wcmp_lt_trans hxy (Int.le_of_lt h)
        exact hxf this
      simp [hxy, h3, h4]
    · have h3 : wcmp y (x ++ [0]) < 0 := by
        by_cases h : wcmp y (x ++ [0]) < 0
        · exact h
        · exact absurd (this.1 h) hxy
      simp [hxy, h3]
  rw [e1]
  refine srt_drop (fun j h1 h2 => ?_) fun j h1 h2 => ?_
  · rw [decide_eq_false_iff_not, ← hxx]
    by_cases e : j = n - 1
    · rw [e]; exact wcmp_lt_irr0 _
    · have := hs.at (show j < n - 1 by omega) (by omega)
      have := wcmp_swap ((wordsF l f)[j]!) ((wordsF l f)[n - 1]!)
      omega
  · rw [decide_eq_true_eq, ← hxx]
    exact hs.at (by omega) h2
where
  wcmp_lt_irr0 (a : List Int) : ¬ wcmp a a < 0 := by have := (wcmp_eq a a).2 rfl; omega
end Go.Eng.Tryd

/- Automata: a step; what is told of each state. (and what stands behind it: texts laid together) -/
import Derived.Test.YtbnhblimckdcgaaMG4
import Derived.Test.YtbnhblimckdcgaaMR13
set_option linter.unusedVariables false
set_option linter.unusedSimpArgs false
namespace Go.Eng.Try
open Go Go.Eng Go.Proofs Go.RowKit
attribute [local go_sem] evFold rnE ksE roundE frz frzs List.set_cons_zero List.set_cons_succ List.zip_cons_cons List.zip_nil_right List.foldl_cons List.foldl_nil D.flat rns AV.rn HO.rn AV.ks kss HO.ks sg dedup objKs reach passE fresh List.filter fnOf evOp opnd lk v2d v2ds just evBin intBin nilBin isNil strBin evUn evLoad ldD ldA evStore evField evIndex evBuild fillA evBuildSlice evAppend evAppendClip elems evMake evSlice evSliceO evSliceX evSliceY evViewV evStoreX evStoreT stT stI evCopyT evAppendT evAppendTD ldT ldI Tb.inn Tb.ilen Tb.nilAt Tb.ini D.put evCut evView evCopy evAppendV evAgg evMakeMap evLookup evMapUpd evRange evEntry cellsD AV.kb splice List.getLast?_append resM resAs resA resD keepL List.replicate_zero List.take_length ofInt evLen evMin evMax evConv evNil evExtract evBuiltin toD toDs allD pack splice D.comps AV.comps AV.sto D.cell D.rebuild inOrder allFlat del put setE eff gd gslot kills Option.map_some Option.map_none Option.bind_some Option.isSome_some List.map_cons List.map_nil List.append_nil List.nil_append List.cons_append List.length_cons List.length_nil List.length_map List.length_append List.take_zero List.take_succ_cons List.take_nil List.drop_zero List.drop_succ_cons List.drop_nil List.getElem?_cons_zero List.getElem?_cons_succ List.getElem?_map List.all_cons List.all_nil List.mem_cons List.not_mem_nil List.elem_cons List.elem_nil Bool.and_true Bool.true_and Bool.and_self Bool.not_true Bool.not_false Bool.or_true Bool.or_false and_self and_true true_and or_false false_or or_true true_or not_false_eq_true not_true_eq_false if_true if_false decide_true decide_false decide_eq_true_eq Int.toNat_natCast Int.toNat_zero beq_self_eq_true bne_self_eq_false Bool.false_eq_true Nat.add_zero Nat.zero_add tys room le_i lt_i eq_n le_n lt_n len0 gdE bb_tf bb_ft mapP arrL if_min tdiv_nn tmod_nn us_len us_get wrap_i64 wrap_u64 dec_lt dec_nlt dec_le dec_nle beq_t beq_f bne_t bne_f get_lt gt_iff_lt ge_iff_le
attribute [local go_sem ↓] map_P reduceIte
attribute [local go_sem] reduceCtorEq Nat.reduceEqDiff Nat.reduceAdd Nat.reduceSub Nat.reduceMul Nat.reduceLeDiff Nat.reduceLT Nat.reduceBEq Nat.reduceBNe Int.reduceToNat Int.reduceLT Int.reduceLE Int.reduceEq Int.reduceAdd Int.reduceSub Int.reduceNeg Int.reduceBEq Int.reduceBNe
attribute [local go_sem] is_len is_get ars_len ars_get stas_len stas_get
theorem ris_set {l : List Int} {i : Nat} {z : Int} : (is l).set i (.int .i64 z) = is (l.set i z) := by simp [is, List.map_set]
theorem ris_rep {n : Nat} {x : Int} : List.replicate n (D.int .i64 x) = is (List.replicate n x) := by simp [is]
attribute [local go_sem] ris_set ris_rep
/-! ### A step -/
def sgn (z : Int) (a : Ar) : Bool := decide (a.sign = z)
theorem pStep1 {a : Ar} {z : Int} : SoundM Try.prog 89 [.d (ar a), .ref 0 0] [(0, .var [.d (.int .i64 z)])] (.d (.bool (sgn z a))) [(0, .var [.d (.int .i64 z)])] 1 := by
  unfold ar
  by_cases h : a.sign = z
  · rw [show sgn z a = true from decide_eq_true h]
    refine SoundM.run (N := 8) (ks := [0]) Try.func89 rfl (by kernel_rfl) rfl rfl rfl (by first | exact argsA_0 | exact argsA_1 | exact argsA_2 | exact argsA_3 | exact argsA_4 | exact argsA_5 | exact argsA_6) fun X_ ν_ w_ => ?_
    refine goX @h ?_; first | exact trivial | skip
  · rw [show sgn z a = false from decide_eq_false h]
    refine SoundM.run (N := 8) (ks := [0]) Try.func89 rfl (by kernel_rfl) rfl rfl rfl (by first | exact argsA_0 | exact argsA_1 | exact argsA_2 | exact argsA_3 | exact argsA_4 | exact argsA_5 | exact argsA_6) fun X_ ν_ w_ => ?_
    refine goX @h ?_; first | exact trivial | skip
set_option maxHeartbeats 4000000 in
set_option maxRecDepth 10000 in
theorem pIndexS {z : Int} {al : List Ar} (ha : al.length ≤ 9223372036854775807) : SoundM Try.prog 88 [.d (.sl 2 (ars al)), .fn 89 [.ref 0 0]]
    [(0, .var [.d (.int .i64 z)])] (.d (.int .i64 (fidx (sgn z) al))) [(0, .var [.d (.int .i64 z)])] 1 := by
  refine SoundM.run (N := 19) (ks := [0]) Try.func88 rfl (by kernel_rfl) rfl rfl rfl (by first | exact argsA_0 | exact argsA_1 | exact argsA_2 | exact argsA_3 | exact argsA_4 | exact argsA_5 | exact argsA_6) fun X_ ν_ w_ => ?_
  refine goT ?_; first | exact trivial | skip
  refine WP_loopk (fun k : Nat => k ≤ al.length ∧ (al.take k).any (sgn z) = false) (fun k => [(0, .d (.sl 2 (ars al))), (1, .fn 89 [.ref 0 0]), (7, .d (.int .i64 al.length)), (8, .d (.int .i64 k))]) (fun k => [(0, .var [.d (.int .i64 z)])]) 1 (fun k => al.length - k) [0, 1, 7, 8] [0] 0 ⟨Nat.zero_le _, rfl⟩ rfl rfl (Nat.le_of_ble_eq_true rfl) (fun _ _ => rfl) (fun _ _ => rfl) fun k hk => ?_
  obtain ⟨hk1, hk2⟩ := hk
  by_cases hk3 : k < al.length
  · have cw := pStep1 (a := al[k]!) (z := z)
    unfold ar at cw
    cases hb : sgn z (al[k]!)
    · rw [hb] at cw
      have hst := any_step (p := sgn z) hk3 hk2 hb
      have c0_ := cw; refine goT ?_; first | exact trivial | skip
      refine ⟨k + 1, ⟨by omega, hst⟩, ?_, ?_, by omega⟩
      · simp (disch := omega) only [go_sem, keepL, Int.natCast_add, Int.cast_ofNat_Int]
      · simp (disch := omega) only [go_sem, keepL]
    · rw [hb] at cw
      have e := fidx_at (p := sgn z) hk3 hk2 hb
      rw [e]
      have c0_ := cw; refine goT ?_; first | exact trivial | skip
  · have hkl : k = al.length := by omega
    subst hkl
    rw [List.take_length] at hk2
    rw [fidx_none hk2]
    refine goT ?_; first | exact trivial | skip
/-- Where a sign leads. -/
def stepF (l : List Sta) (from_ z : Int) : Option Int :=
  if 0 ≤ from_ ∧ from_ < l.length then ((l[from_.toNat]!).arcs.find? (sgn z)).map (·.to) else none
def stepR : Option Int → D
  | some t => .tup [.int .i64 t, .bool true]
  | none => .tup [.int .i64 0, .bool false]
theorem fidx_find {α : Type} [Inhabited α] {p : α → Bool} {l : List α} (h : l.any p = true) : ∃ k : Nat, fidx p l = k ∧ k < l.length ∧ l.find? p = some (l[k]!) := by
  unfold fidx
  rw [if_pos h]
  obtain ⟨x, hx, hp⟩ := List.any_eq_true.1 h
  have hlt : l.findIdx p < l.length := List.findIdx_lt_length_of_exists ⟨x, hx, hp⟩
  refine ⟨_, rfl, hlt, ?_⟩
  rw [getElem!_pos l _ hlt, List.find?_eq_some_iff_getElem]
  exact ⟨List.findIdx_getElem (w := hlt), _, hlt, rfl, fun j hj => by simpa using List.not_of_lt_findIdx hj⟩
set_option maxHeartbeats 4000000 in
set_option maxRecDepth 10000 in
theorem pStep {l : List Sta} {f z : Int} (hl : StaOk l) : Sound Try.prog 59 [.sl 2 (stas l), .int .i64 f, .int .i64 z] (stepR (stepF l f z)) := by
  have hlen := hl.1
  by_cases h0 : f < 0
  · have e : stepF l f z = none := if_neg (by omega)
    rw [e]; unfold stepR
    refine Sound.run (N := 35) Try.func59 rfl (by kernel_rfl) rfl rfl rfl (by first | exact args0_0 | exact args0_1 | exact args0_2 | exact args0_3 | exact args0_4 | exact args0_5 | exact args0_6) fun X_ w_ => ?_
    refine goT ?_; first | exact trivial | skip
  by_cases h1 : (l.length : Int) ≤ f
  · have e : stepF l f z = none := if_neg (by omega)
    rw [e]; unfold stepR
    refine Sound.run (N := 35) Try.func59 rfl (by kernel_rfl) rfl rfl rfl (by first | exact args0_0 | exact args0_1 | exact args0_2 | exact args0_3 | exact args0_4 | exact args0_5 | exact args0_6) fun X_ w_ => ?_
    refine goT ?_; first | exact trivial | skip
  obtain ⟨k, rfl⟩ := Int.eq_ofNat_of_zero_le (by omega : 0 ≤ f)
  have hk : k < l.length := by omega
  have hak := hl.get hk
  have ci := pIndexS (z := z) (al := (l[k]!).arcs) hak
  have e : stepF l k z = ((l[k]!).arcs.find? (sgn z)).map (·.to) := by unfold stepF; rw [if_pos ⟨by omega, by omega⟩]; rfl
  rw [e]
  cases hany : (l[k]!).arcs.any (sgn z)
  · rw [fidx_none hany] at ci
    have e2 : (l[k]!).arcs.find? (sgn z) = none := by
      rw [List.find?_eq_none]
      intro x hx hp
      have := List.any_eq_true.2 ⟨x, hx, hp⟩
      rw [hany] at this; cases this
    rw [e2]; unfold stepR
    simp only [Option.map_none]
    refine Sound.run (N := 35) Try.func59 rfl (by kernel_rfl) rfl rfl rfl (by first | exact args0_0 | exact args0_1 | exact args0_2 | exact args0_3 | exact args0_4 | exact args0_5 | exact args0_6) fun X_ w_ => ?_
    have c0_ := ci; refine goT ?_; first | exact trivial | skip
  · obtain ⟨j, e1, hj, e2⟩ := fidx_find hany
    rw [e1] at ci
    rw [e2]; unfold stepR
    simp only [Option.map_some]
    refine Sound.run (N := 35) Try.func59 rfl (by kernel_rfl) rfl rfl rfl (by first | exact args0_0 | exact args0_1 | exact args0_2 | exact args0_3 | exact args0_4 | exact args0_5 | exact args0_6) fun X_ w_ => ?_
    have c0_ := ci; refine goT ?_; first | exact trivial | skip
/-! ### What is told of each state -/
def Out (out : List Int) : Heap := [(0, .var [.own 1 out.length]), (1, .row 3 1 (is out))]
theorem pTold1 {out : List Int} {k : Nat} (hk : k < out.length) : SoundM Try.prog 90 [.d (.int .i64 k), .ref 0 0] (Out out) (.d (.int .i64 (out[k]!))) (Out out) 2 := by
  unfold Out
  refine SoundM.run (N := 8) (ks := [0, 1]) Try.func90 rfl (by kernel_rfl) rfl rfl rfl (by first | exact argsA_0 | exact argsA_1 | exact argsA_2 | exact argsA_3 | exact argsA_4 | exact argsA_5 | exact argsA_6) fun X_ ν_ w_ => ?_
  refine goT ?_; first | exact trivial | skip
def arcsIn (s : Sta) (n : Nat) : Prop := ∀ a ∈ s.arcs, 0 ≤ a.to ∧ a.to < n
theorem arcsIn.get {s : Sta} {n : Nat} (h : arcsIn s n) {k : Nat} (hk : k < s.arcs.length) : 0 ≤ (s.arcs[k]!).to ∧ (s.arcs[k]!).to < n := by
  rw [getElem!_pos s.arcs k hk]; exact h _ (List.getElem_mem hk)
def many1 (out : List Int) (m : Int) (a : Ar) : Int := min 301 (m + out[a.to.toNat]!)
def manyF (s : Sta) (out : List Int) : Int := s.arcs.foldl (many1 out) (if s.final = true then 1 else 0)
theorem many1_in {out : List Int} (ho : ∀ z ∈ out, 0 ≤ z ∧ z ≤ 301) {m : Int} (hm : 0 ≤ m ∧ m ≤ 301) (a : Ar) : 0 ≤ many1 out m a ∧ many1 out m a ≤ 301 := by
  unfold many1
  have : 0 ≤ out[a.to.toNat]! := by
    by_cases h : a.to.toNat < out.length
    · rw [getElem!_pos out _ h]; exact (ho _ (List.getElem_mem h)).1
    · rw [List.getElem!_eq_getElem?_getD, List.getElem?_eq_none (by omega)]; decide
  omega
theorem many_fold {out : List Int} (ho : ∀ z ∈ out, 0 ≤ z ∧ z ≤ 301) : ∀ (l : List Ar) (m : Int), (0 ≤ m ∧ m ≤ 301) → 0 ≤ l.foldl (many1 out) m ∧ l.foldl (many1 out) m ≤ 301
  | [], m, h => h
  | a :: l, m, h => many_fold ho l _ (many1_in ho h a)
theorem foldl_take {α β : Type} [Inhabited α] (f : β → α → β) (b : β) {l : List α} {k : Nat} (h : k < l.length) : (l.take (k + 1)).foldl f b = f ((l.take k).foldl f b) (l[k]!) := by
  rw [atake_snoc h, List.foldl_append]; rfl
set_option maxHeartbeats 4000000 in
set_option maxRecDepth 10000 in
theorem pMany1 {s : Sta} {out : List Int} (ho : ∀ z ∈ out, 0 ≤ z ∧ z ≤ 301) (hs : arcsIn s out.length) (hn : s.arcs.length ≤ 9223372036854775807) (hout : out.length ≤ 1000000) : SoundM Try.prog 62 [.d (sta s), .fn 90 [.ref 0 0]] (Out out) (.d (.int .i64 (manyF s out))) (Out out) 2 := by
  have fin : ∀ (m0 : Int), (0 ≤ m0 ∧ m0 ≤ 301) → ∀ k, k ≤ s.arcs.length → 0 ≤ (s.arcs.take k).foldl (many1 out) m0 ∧ (s.arcs.take k).foldl (many1 out) m0 ≤ 301 := fun m0 h k _ => many_fold ho _ _ h
  unfold sta
  cases hf : s.final
  · have e : manyF s out = s.arcs.foldl (many1 out) 0 := by unfold manyF; rw [hf]; rfl
    rw [e]
    unfold Out
    refine SoundM.run (N := 25) (ks := [0, 1]) Try.func62 rfl (by kernel_rfl) rfl rfl rfl (by first | exact argsA_0 | exact argsA_1 | exact argsA_2 | exact argsA_3 | exact argsA_4 | exact argsA_5 | exact argsA_6) fun X_ ν_ w_ => ?_
    refine goT ?_; first | exact trivial | skip
    refine WP_loopk (fun k : Nat => k ≤ s.arcs.length) (fun k => [(1, .fn 90 [.ref 0 0]), (4, .d (.int .i64 ((s.arcs.take k).foldl (many1 out) 0))), (10, .d (.sl 2 (ars s.arcs))), (11, .d (.int .i64 s.arcs.length)), (12, .d (.int .i64 k))]) (fun k => [(0, .var [.own 1 out.length]), (1, .row 3 1 (is out))]) 2 (fun k => s.arcs.length - k) [1, 4, 10, 11, 12] [0, 1] 0 (Nat.zero_le _) rfl rfl (Nat.le_of_ble_eq_true rfl) (fun _ _ => rfl) (fun _ _ => rfl) fun k hk => ?_
    have hm := fin 0 (by omega) k hk
    by_cases hk3 : k < s.arcs.length
    · have hin := hs.get hk3
      have hst := foldl_take (many1 out) 0 hk3
      obtain ⟨t, ht⟩ := Int.eq_ofNat_of_zero_le hin.1
      have htl : t < out.length := by omega
      have cw := pTold1 (out := out) (k := t) htl
      have hv := ho (out[t]!) (by rw [getElem!_pos out t htl]; exact List.getElem_mem htl)
      have e1 : many1 out ((s.arcs.take k).foldl (many1 out) 0) (s.arcs[k]!) = min 301 ((s.arcs.take k).foldl (many1 out) 0 + out[t]!) := by unfold many1; rw [ht]; rfl
      rw [e1] at hst
      unfold Out at cw
      have c0_ := cw; refine goX (And.intro @ht @if_minI) ?_; first | exact trivial | skip
      refine ⟨k + 1, by omega, ?_, ?_, by omega⟩
      · simp (disch := omega) only [go_sem, keepL, Int.natCast_add, Int.cast_ofNat_Int, hst]
      · simp (disch := omega) only [go_sem, keepL]
    · have hkl : k = s.arcs.length := by omega
      subst hkl
      rw [List.take_length]
      refine goT ?_; first | exact trivial | skip
  · have e : manyF s out = s.arcs.foldl (many1 out) 1 := by unfold manyF; rw [hf]; rfl
    rw [e]
    unfold Out
    refine SoundM.run (N := 25) (ks := [0, 1]) Try.func62 rfl (by kernel_rfl) rfl rfl rfl (by first | exact argsA_0 | exact argsA_1 | exact argsA_2 | exact argsA_3 | exact argsA_4 | exact argsA_5 | exact argsA_6) fun X_ ν_ w_ => ?_
    refine goT ?_; first | exact trivial | skip
    refine WP_loopk (fun k : Nat => k ≤ s.arcs.length) (fun k => [(1, .fn 90 [.ref 0 0]), (4, .d (.int .i64 ((s.arcs.take k).foldl (many1 out) 1))), (10, .d (.sl 2 (ars s.arcs))), (11, .d (.int .i64 s.arcs.length)), (12, .d (.int .i64 k))]) (fun k => [(0, .var [.own 1 out.length]), (1, .row 3 1 (is out))]) 2 (fun k => s.arcs.length - k) [1, 4, 10, 11, 12] [0, 1] 0 (Nat.zero_le _) rfl rfl (Nat.le_of_ble_eq_true rfl) (fun _ _ => rfl) (fun _ _ => rfl) fun k hk => ?_
    have hm := fin 1 (by omega) k hk
    by_cases hk3 : k < s.arcs.length
    · have hin := hs.get hk3
      have hst := foldl_take (many1 out) 1 hk3
      obtain ⟨t, ht⟩ := Int.eq_ofNat_of_zero_le hin.1
      have htl : t < out.length := by omega
      have cw := pTold1 (out := out) (k := t) htl
      have hv := ho (out[t]!) (by rw [getElem!_pos out t htl]; exact List.getElem_mem htl)
      have e1 : many1 out ((s.arcs.take k).foldl (many1 out) 1) (s.arcs[k]!) = min 301 ((s.arcs.take k).foldl (many1 out) 1 + out[t]!) := by unfold many1; rw [ht]; rfl
      rw [e1] at hst
      unfold Out at cw
      have c0_ := cw; refine goX (And.intro @ht @if_minI) ?_; first | exact trivial | skip
      refine ⟨k + 1, by omega, ?_, ?_, by omega⟩
      · simp (disch := omega) only [go_sem, keepL, Int.natCast_add, Int.cast_ofNat_Int, hst]
      · simp (disch := omega) only [go_sem, keepL]
    · have hkl : k = s.arcs.length := by omega
      subst hkl
      rw [List.take_length]
      refine goT ?_; first | exact trivial | skip
end Go.Eng.Try
set_option linter.unusedVariables false
set_option linter.unusedSimpArgs false
namespace Go.Eng.Try
open Go Go.Eng Go.Proofs Go.RowKit
/-- Where signs lead. -/
def leadF (l : List Sta) : Int → List Int → Option Int
  | at_, [] => some at_
  | at_, z :: w => match stepF l at_ z with | some t => leadF l t w | none => none
def leadG (l : List Sta) (at_ : Int) (w : List Int) : Option Int := if 0 ≤ at_ ∧ at_ < l.length then leadF l at_ w else none
theorem arcsOk_mem {i n : Int} : ∀ {l : List Ar} {last : Int}, arcsOk i n last l = true → ∀ a ∈ l, i < a.to ∧ a.to < n ∧ gsign a.sign = true ∧ last < a.sign
  | [], _, _, a, h => by cases h
  | b :: l, last, h, a, ha => by
    simp only [arcsOk, Bool.and_eq_true] at h
    have hb := h.1
    simp only [arcOk, Bool.and_eq_true, decide_eq_true_eq] at hb
    rcases List.mem_cons.1 ha with e | e
    · subst e; exact ⟨hb.1.2, hb.2, hb.1.1.2, hb.1.1.1⟩
    · obtain ⟨h1, h2, h3, h4⟩ := arcsOk_mem h.2 a e
      exact ⟨h1, h2, h3, by omega⟩
theorem achk_iff {l : List Sta} : achk l = true ↔ statesOk l l.length = true ∧ 0 < l.length ∧ l.length ≤ 6001 := by
  unfold achk; simp [Bool.and_eq_true, decide_eq_true_eq]
theorem achk_arc {l : List Sta} (h : achk l = true) {k : Nat} (hk : k < l.length) : ∀ a ∈ (l[k]!).arcs, (k : Int) < a.to ∧ a.to < l.length ∧ gsign a.sign = true := fun a ha => by
  have := arcsOk_mem (statesOk_le (achk_iff.1 h).1 hk) a ha
  exact ⟨this.1, this.2.1, this.2.2.1⟩
theorem stepF_in {l : List Sta} (h : achk l = true) {f z t : Int} (hs : stepF l f z = some t) : 0 ≤ f ∧ f < l.length ∧ f < t ∧ t < l.length := by
  unfold stepF at hs
  split at hs
  · rename_i hf
    obtain ⟨a, ha, rfl⟩ := Option.map_eq_some_iff.1 hs
    have hm := List.mem_of_find?_eq_some ha
    obtain ⟨k, rfl⟩ := Int.eq_ofNat_of_zero_le hf.1
    have := achk_arc h (k := k) (by omega) a hm
    exact ⟨hf.1, hf.2, by simpa using this.1, this.2.1⟩
  · cases hs
theorem leadF_in {l : List Sta} (h : achk l = true) : ∀ {w : List Int} {f t : Int}, 0 ≤ f → f < l.length → leadF l f w = some t → f ≤ t ∧ t < l.length ∧ (w ≠ [] → f < t)
  | [], f, t, h0, h1, hs => by simp only [leadF, Option.some.injEq] at hs; subst hs; exact ⟨Int.le_refl _, h1, fun h => absurd rfl h⟩
  | z :: w, f, t, h0, h1, hs => by
    simp only [leadF] at hs
    split at hs
    · rename_i u hu
      obtain ⟨_, _, h2, h3⟩ := stepF_in h hu
      obtain ⟨h4, h5, _⟩ := leadF_in h (by omega) h3 hs
      exact ⟨by omega, h5, fun _ => by omega⟩
    · cases hs
theorem leadF_app (l : List Sta) : ∀ (a b : List Int) (f : Int), leadF l f (a ++ b) = match leadF l f a with | some t => leadF l t b | none => none
  | [], b, f => rfl
  | z :: a, b, f => by
    simp only [List.cons_append, leadF]
    cases stepF l f z with
    | none => rfl
    | some t => exact leadF_app l a b t
/-- The states that a step may lead to. -/
def endsF (s : Se) (l : List Sta) (k : Nat) : List Int := if s.any = true then (l[k]!).arcs.map (·.to) else match leadG l k s.put with | some e => [e] | none => []
theorem endsF_in {l : List Sta} (h : achk l = true) {s : Se} {k : Nat} (hk : k < l.length) {e : Int} (he : e ∈ endsF s l k) : (k : Int) ≤ e ∧ e < l.length ∧ (s.any = true ∨ s.put ≠ [] → (k : Int) < e) := by
  unfold endsF at he
  split at he
  · rename_i ha
    obtain ⟨a, hm, rfl⟩ := List.mem_map.1 he
    have := achk_arc h hk a hm
    exact ⟨by omega, this.2.1, fun _ => this.1⟩
  · rename_i ha
    unfold leadG at he
    rw [if_pos ⟨by omega, by omega⟩] at he
    split at he
    · rename_i t ht
      simp only [List.mem_singleton] at he
      subst he
      obtain ⟨h1, h2, h3⟩ := leadF_in h (by omega) (by omega) ht
      exact ⟨h1, h2, fun hh => h3 (hh.resolve_left ha)⟩
    · cases he
def endK (t : List (List Int)) (i : Nat) (s : Se) (m e : Int) : Int := min m (cadd s.cost (get2 t (i + s.eat.toNat) e.toNat))
def stK (l : List Sta) (t : List (List Int)) (i k : Nat) (m : Int) (s : Se) : Int := (endsF s l k).foldl (endK t i s) m
def base (n : Nat) (l : List Sta) (i k : Nat) : Int := if i + 1 = n ∧ (l[k]!).final = true then 0 else 18446744073709551615
def cellT (all : List (List Se)) (l : List Sta) (t : List (List Int)) (i k : Nat) : Int := (all[i]!).foldl (stK l t i k) (base all.length l i k)
def tgM (all : List (List Se)) (l : List Sta) (i : Nat) (t : List (List Int)) (m : Nat) : List (List Int) := (List.range m).foldl (fun t m => set2 t i (l.length - 1 - m) (cellT all l t i (l.length - 1 - m))) t
def tgI (all : List (List Se)) (l : List Sta) (k : Nat) : List (List Int) := (List.range k).foldl (fun t k => tgM all l (all.length - 1 - k) (t.set (all.length - 1 - k) (List.replicate l.length 0)) l.length) (List.replicate all.length [])
def tg (all : List (List Se)) (l : List Sta) : List (List Int) := tgI all l all.length
theorem tgM_step (all : List (List Se)) (l : List Sta) (i : Nat) (t : List (List Int)) (m : Nat) : tgM all l i t (m + 1) = set2 (tgM all l i t m) i (l.length - 1 - m) (cellT all l (tgM all l i t m) i (l.length - 1 - m)) := by simp [tgM, List.range_succ]
theorem tgI_step (all : List (List Se)) (l : List Sta) (k : Nat) : tgI all l (k + 1) = tgM all l (all.length - 1 - k) ((tgI all l k).set (all.length - 1 - k) (List.replicate l.length 0)) l.length := by simp [tgI, List.range_succ]
/-- What may be said of the steps of all places. -/
def StepsG (all : List (List Se)) : Prop := ∀ i, i < all.length → ∀ s ∈ all[i]!, 0 ≤ s.eat ∧ i + s.eat.toNat < all.length ∧ U s.cost ∧ (s.eat = 0 → s.any = true ∨ s.put ≠ [])
theorem endK_U {t : List (List Int)} {i : Nat} {s : Se} {m e : Int} (hm : U m) (hs : U s.cost) (ht : U (get2 t (i + s.eat.toNat) e.toNat)) : U (endK t i s m e) := by
  have := U_cadd hs ht
  unfold endK U at *
  omega
theorem ends_fold {t : List (List Int)} {i : Nat} {s : Se} (hs : U s.cost) : ∀ (es : List Int) (m : Int), U m → (∀ e ∈ es, U (get2 t (i + s.eat.toNat) e.toNat)) → U (es.foldl (endK t i s) m)
  | [], m, h, _ => h
  | e :: es, m, h, ht => ends_fold hs es _ (endK_U h hs (ht e (by simp))) fun x hx => ht x (by simp [hx])
/-- A fold of the least: it is no more than each, and is the first, or one. -/
theorem ends_le {t : List (List Int)} {i : Nat} {s : Se} : ∀ (es : List Int) (m : Int), es.foldl (endK t i s) m ≤ m ∧ (∀ e ∈ es, es.foldl (endK t i s) m ≤ cadd s.cost (get2 t (i + s.eat.toNat) e.toNat)) ∧ (es.foldl (endK t i s) m = m ∨ ∃ e ∈ es, es.foldl (endK t i s) m = cadd s.cost (get2 t (i + s.eat.toNat) e.toNat))
  | [], m => ⟨Int.le_refl _, fun e h => (by cases h), .inl rfl⟩
  | e :: es, m => by
    obtain ⟨h1, h2, h3⟩ := ends_le (t := t) (i := i) (s := s) es (endK t i s m e)
    simp only [List.foldl_cons]
    have hk : endK t i s m e = min m (cadd s.cost (get2 t (i + s.eat.toNat) e.toNat)) := rfl
    refine ⟨by omega, fun x hx => ?_, ?_⟩
    · rcases List.mem_cons.1 hx with rfl | hx
      · omega
      · exact h2 x hx
    · rcases h3 with h3 | ⟨x, hx, h3⟩
      · rw [h3, hk]
        rcases (by omega : min m (cadd s.cost (get2 t (i + s.eat.toNat) e.toNat)) = m ∨ min m (cadd s.cost (get2 t (i + s.eat.toNat) e.toNat)) = cadd s.cost (get2 t (i + s.eat.toNat) e.toNat)) with h | h
        · exact .inl h
        · exact .inr ⟨e, by simp, h⟩
      · exact .inr ⟨x, by simp [hx], h3⟩
theorem cell_le {l : List Sta} {t : List (List Int)} {i k : Nat} : ∀ (ss : List Se) (m : Int), ss.foldl (stK l t i k) m ≤ m ∧ (∀ s ∈ ss, ∀ e ∈ endsF s l k, ss.foldl (stK l t i k) m ≤ cadd s.cost (get2 t (i + s.eat.toNat) e.toNat)) ∧ (ss.foldl (stK l t i k) m = m ∨ ∃ s ∈ ss, ∃ e ∈ endsF s l k, ss.foldl (stK l t i k) m = cadd s.cost (get2 t (i + s.eat.toNat) e.toNat))
  | [], m => ⟨Int.le_refl _, fun s h => (by cases h), .inl rfl⟩
  | s :: ss, m => by
    obtain ⟨h1, h2, h3⟩ := cell_le (l := l) (t := t) (i := i) (k := k) ss (stK l t i k m s)
    obtain ⟨g1, g2, g3⟩ := ends_le (t := t) (i := i) (s := s) (endsF s l k) m
    simp only [List.foldl_cons]
    change stK l t i k m s ≤ m at g1
    refine ⟨by omega, fun x hx e he => ?_, ?_⟩
    · rcases List.mem_cons.1 hx with rfl | hx
      · have := g2 e he
        change stK l t i k m x ≤ _ at this
        omega
      · exact h2 x hx e he
    · rcases h3 with h3 | ⟨x, hx, e, he, h3⟩
      · rw [h3]
        rcases g3 with g3 | ⟨e, he, g3⟩
        · exact .inl g3
        · exact .inr ⟨s, by simp, e, he, g3⟩
      · exact .inr ⟨x, by simp [hx], e, he, h3⟩
/-- A cell hangs on the cells behind alone. -/
theorem stK_congr {l : List Sta} {t t' : List (List Int)} {i k : Nat} {s : Se} (h : ∀ e ∈ endsF s l k, get2 t' (i + s.eat.toNat) e.toNat = get2 t (i + s.eat.toNat) e.toNat) (m : Int) : stK l t' i k m s = stK l t i k m s := by
  unfold stK
  have : ∀ (es : List Int) (m : Int), (∀ e ∈ es, e ∈ endsF s l k) → es.foldl (endK t' i s) m = es.foldl (endK t i s) m := by
    intro es
    induction es with
    | nil => intro m _; rfl
    | cons e es ih =>
      intro m he
      simp only [List.foldl_cons]
      have : endK t' i s m e = endK t i s m e := by unfold endK; rw [h e (he e (by simp))]
      rw [this]
      exact ih _ fun x hx => he x (by simp [hx])
  exact this _ m fun e he => he
theorem cell_congr {all : List (List Se)} {l : List Sta} {t t' : List (List Int)} {i k : Nat} (h : ∀ s ∈ all[i]!, ∀ e ∈ endsF s l k, get2 t' (i + s.eat.toNat) e.toNat = get2 t (i + s.eat.toNat) e.toNat) : cellT all l t' i k = cellT all l t i k := by
  unfold cellT
  have : ∀ (ss : List Se) (m : Int), (∀ s ∈ ss, s ∈ all[i]!) → ss.foldl (stK l t' i k) m = ss.foldl (stK l t i k) m := by
    intro ss
    induction ss with
    | nil => intro m _; rfl
    | cons s ss ih =>
      intro m he
      simp only [List.foldl_cons]
      rw [stK_congr (h s (he s (by simp)))]
      exact ih _ fun x hx => he x (by simp [hx])
  exact this _ _ fun s hs => hs
/-- A cell whose value is what the cells behind tell. -/
def Fix (all : List (List Se)) (l : List Sta) (t : List (List Int)) (i k : Nat) : Prop := get2 t i k = cellT all l t i k ∧ U (get2 t i k)
/-- What holds when the rows from i on are told, and of row i, if r, those states from k on. -/
structure DoneG (all : List (List Se)) (l : List Sta) (t : List (List Int)) (i k : Nat) : Prop where
  len : t.length = all.length
  rows : ∀ a, i < a → a < all.length → (t[a]!).length = l.length
  row : i < all.length → k < l.length → (t[i]!).length = l.length
  fix : ∀ a b, i < a → a < all.length → b < l.length → Fix all l t a b
  fixi : i < all.length → ∀ b, k ≤ b → b < l.length → Fix all l t i b
theorem cell_U {all : List (List Se)} {l : List Sta} {t : List (List Int)} {i k : Nat} (hS : StepsG all) (hi : i < all.length) (h : ∀ s ∈ all[i]!, ∀ e ∈ endsF s l k, U (get2 t (i + s.eat.toNat) e.toNat)) : U (cellT all l t i k) := by
  unfold cellT
  have : ∀ (ss : List Se) (m : Int), U m → (∀ s ∈ ss, s ∈ all[i]!) → U (ss.foldl (stK l t i k) m) := by
    intro ss
    induction ss with
    | nil => intro m hm _; exact hm
    | cons s ss ih =>
      intro m hm he
      simp only [List.foldl_cons]
      refine ih _ ?_ fun x hx => he x (by simp [hx])
      exact ends_fold (hS i hi s (he s (by simp))).2.2.1 _ _ hm fun e hee => h s (he s (by simp)) e hee
  exact this _ _ (by unfold base U; split <;> omega) fun s hs => hs
theorem behind {all : List (List Se)} {l : List Sta} {t : List (List Int)} {i k : Nat} (hS : StepsG all) (hl : achk l = true) (hi : i < all.length) (hk : k < l.length) {s : Se} (hs : s ∈ all[i]!) {e : Int} (he : e ∈ endsF s l k) : i + s.eat.toNat < all.length ∧ e.toNat < l.length ∧ (i < i + s.eat.toNat ∨ i + s.eat.toNat = i ∧ k < e.toNat) := by
  obtain ⟨h1, h2, h3, h4⟩ := hS i hi s hs
  obtain ⟨g1, g2, g3⟩ := endsF_in hl hk he
  refine ⟨h2, by omega, ?_⟩
  by_cases h0 : s.eat = 0
  · have := g3 (h4 h0)
    right
    rw [h0]
    simp
    omega
  · left; omega
theorem tgM_done {all : List (List Se)} {l : List Sta} {t : List (List Int)} {i : Nat} (hS : StepsG all) (hl : achk l = true) (hi : i < all.length) (hlen : t.length = all.length) (hrow : (t[i]!).length = l.length) (hrows : ∀ a, i < a → a < all.length → (t[a]!).length = l.length) (hfix : ∀ a b, i < a → a < all.length → b < l.length → Fix all l t a b) :
    ∀ m, m ≤ l.length → (tgM all l i t m).length = all.length ∧ (∀ a, i ≤ a → a < all.length → ((tgM all l i t m)[a]!).length = l.length) ∧ (∀ a b, i < a → a < all.length → b < l.length → Fix all l (tgM all l i t m) a b) ∧ (∀ b, l.length - m ≤ b → b < l.length → Fix all l (tgM all l i t m) i b) := by
  intro m
  induction m with
  | zero =>
    intro _
    refine ⟨by simpa [tgM] using hlen, fun a h1 h2 => ?_, fun a b h1 h2 h3 => by simpa [tgM] using hfix a b h1 h2 h3, fun b h1 h2 => by omega⟩
    by_cases e : a = i
    · subst e; simpa [tgM] using hrow
    · simpa [tgM] using hrows a (by omega) h2
  | succ m ih =>
    intro hm
    obtain ⟨i1, i2, i3, i4⟩ := ih (by omega)
    rw [tgM_step]
    generalize hT : tgM all l i t m = T at *
    have hk : l.length - 1 - m < l.length := by omega
    generalize hkk : l.length - 1 - m = k at *
    have hri := i2 i (Nat.le_refl _) hi
    have hg : ∀ a b, i ≤ a → a < all.length → b < l.length → get2 (set2 T i k (cellT all l T i k)) a b = if a = i ∧ b = k then cellT all l T i k else get2 T a b := fun a b h1 h2 h3 => by
      unfold get2 set2
      rw [getB_set (by omega)]
      by_cases e : a = i
      · subst e
        rw [if_pos rfl, getB_set (by omega)]
        by_cases e2 : b = k
        · subst e2; simp
        · rw [if_neg e2, if_neg (fun x => e2 x.2)]
      · rw [if_neg e, if_neg (fun x => e x.1)]
    have hsame : ∀ a b, i ≤ a → a < all.length → b < l.length → (i < a ∨ k < b) → get2 (set2 T i k (cellT all l T i k)) a b = get2 T a b := fun a b h1 h2 h3 h4 => by
      rw [hg a b h1 h2 h3, if_neg (by omega)]
    have hcong : ∀ a b, i ≤ a → a < all.length → b < l.length → (i < a ∨ k ≤ b) → cellT all l (set2 T i k (cellT all l T i k)) a b = cellT all l T a b := fun a b h1 h2 h3 h4 => cell_congr fun s hs e he => by
      obtain ⟨q1, q2, q3⟩ := behind (t := T) hS hl h2 h3 hs he
      exact hsame _ _ (by omega) q1 q2 (by omega)
    have hfi : ∀ a b, i ≤ a → a < all.length → b < l.length → (i < a ∨ k < b) → Fix all l T a b → Fix all l (set2 T i k (cellT all l T i k)) a b := fun a b h1 h2 h3 h4 hf => by
      unfold Fix at hf ⊢
      rw [hsame a b h1 h2 h3 h4, hcong a b h1 h2 h3 (by omega)]
      exact hf
    refine ⟨by simp [set2, i1], fun a h1 h2 => ?_, fun a b h1 h2 h3 => hfi a b (by omega) h2 h3 (.inl h1) (i3 a b h1 h2 h3), fun b h1 h2 => ?_⟩
    · unfold set2
      rw [getB_set (by omega)]
      split
      · rename_i e; subst e; rw [List.length_set]; exact hri
      · exact i2 a h1 h2
    · by_cases e : b = k
      · subst e
        unfold Fix
        rw [hg i b (Nat.le_refl _) hi h2, if_pos ⟨rfl, rfl⟩, hcong i b (Nat.le_refl _) hi h2 (.inr (Nat.le_refl _))]
        refine ⟨rfl, cell_U hS hi fun s hs e he => ?_⟩
        obtain ⟨q1, q2, q3⟩ := behind (t := T) hS hl hi h2 hs he
        rcases q3 with q3 | ⟨q3, q4⟩
        · exact (i3 _ _ q3 q1 q2).2
        · rw [q3]; exact (i4 _ (by omega) q2).2
      · exact hfi i b (Nat.le_refl _) hi h2 (.inr (by omega)) (i4 b (by omega) h2)
theorem tgI_done {all : List (List Se)} {l : List Sta} (hS : StepsG all) (hl : achk l = true) : ∀ k, k ≤ all.length → (tgI all l k).length = all.length ∧ (∀ a, all.length - k ≤ a → a < all.length → ((tgI all l k)[a]!).length = l.length) ∧ (∀ a, a < all.length - k → (tgI all l k)[a]! = []) ∧ ∀ a b, all.length - k ≤ a → a < all.length → b < l.length → Fix all l (tgI all l k) a b := by
  intro k
  induction k with
  | zero =>
    intro _
    refine ⟨by simp [tgI], fun a h1 h2 => by omega, fun a h1 => ?_, fun a b h1 h2 => by omega⟩
    simp only [tgI, List.range_zero, List.foldl_nil]
    rw [getElem!_pos _ a (by simp; omega)]
    simp
  | succ k ih =>
    intro hk
    obtain ⟨i1, i2, i3, i4⟩ := ih (by omega)
    rw [tgI_step]
    generalize hT : tgI all l k = T at *
    obtain ⟨i, hi⟩ : ∃ i, i = all.length - 1 - k := ⟨_, rfl⟩
    rw [← hi]
    have hia : i < all.length := by omega
    have hget : ∀ a, (T.set i (List.replicate l.length 0))[a]! = if a = i then List.replicate l.length 0 else T[a]! := fun a => getB_set (by omega)
    have hg2 : ∀ a b, a ≠ i → get2 (T.set i (List.replicate l.length 0)) a b = get2 T a b := fun a b h => by unfold get2; rw [hget, if_neg h]
    have := tgM_done (t := T.set i (List.replicate l.length 0)) hS hl hia (by simp [i1]) (by rw [hget, if_pos rfl]; simp) (fun a h1 h2 => by rw [hget, if_neg (by omega)]; exact i2 a (by omega) h2)
      (fun a b h1 h2 h3 => by
        have hf := i4 a b (by omega) h2 h3
        unfold Fix at hf ⊢
        rw [hg2 a b (by omega), cell_congr fun s hs e he => by
          obtain ⟨q1, q2, q3⟩ := behind (t := T) hS hl h2 h3 hs he
          exact hg2 _ _ (by omega)]
        exact hf) l.length (Nat.le_refl _)
    obtain ⟨j1, j2, j3, j4⟩ := this
    refine ⟨j1, fun a h1 h2 => j2 a (by omega) h2, fun a h1 => ?_, fun a b h1 h2 h3 => ?_⟩
    · have : ∀ m, (tgM all l i (T.set i (List.replicate l.length 0)) m)[a]! = T[a]! := by
        intro m
        induction m with
        | zero => simp only [tgM, List.range_zero, List.foldl_nil]; rw [hget, if_neg (by omega)]
        | succ m ihm =>
          rw [tgM_step]
          unfold set2
          by_cases hlt : i < (tgM all l i (T.set i (List.replicate l.length 0)) m).length
          · rw [getB_set hlt, if_neg (by omega)]; exact ihm
          · rw [List.set_eq_of_length_le (by omega)]; exact ihm
      rw [this]
      exact i3 a (by omega)
    · by_cases e : a = i
      · subst e; exact j4 b (by omega) h3
      · exact j3 a b (by omega) h2 h3
/-- What the table tells. -/
structure TG (all : List (List Se)) (l : List Sta) (t : List (List Int)) : Prop where
  len : t.length = all.length
  rows : ∀ a, a < all.length → (t[a]!).length = l.length
  fix : ∀ a b, a < all.length → b < l.length → Fix all l t a b
theorem tg_all {all : List (List Se)} {l : List Sta} (hS : StepsG all) (hl : achk l = true) : TG all l (tg all l) := by
  obtain ⟨h1, h2, _, h4⟩ := tgI_done hS hl all.length (Nat.le_refl _)
  exact ⟨h1, fun a ha => h2 a (by omega) ha, fun a b ha hb => h4 a b (by omega) ha hb⟩
theorem tg_steps {c : Co} (hc : c.ok) (hk : cok c = true) (q : List Int) : StepsG (allF c q (q.length + 1)) := fun i hi s hs => by
  have hS := all_steps hc hk q [] i hi s hs
  rw [allF_len] at hi
  rw [allF_get c q hi] at hs
  refine ⟨hS.1, hS.2.1, hS.2.2.1, fun h0 => ?_⟩
  have h4 := (stAt_ok hc hk hs).2.2.2.2
  by_cases ha : s.any = true
  · exact .inl ha
  · right
    intro hp
    have := h4 [] 0 0 (by unfold putsN; rw [if_neg ha, hp]; rfl)
    rw [h0] at this
    simp at this
end Go.Eng.Try

/- The law: what an image's words are may be made, in no more states. (and what stands behind it: texts laid together) -/
import Derived.Test.YtabfoaoeghikoaaGreatDoorMG4
import Derived.Test.YtabfoaoeghikoaaGreatDoorMR18
import Derived.Test.YtabfoaoeghikoaaGreatDoorMR3
import Derived.Test.YtabfoaoeghikoaaGreatDoorMR5
import Derived.Test.YtabfoaoeghikoaaGreatDoorMR7
set_option maxHeartbeats 32000000
set_option maxRecDepth 100000
set_option linter.unusedVariables false
set_option linter.unusedSimpArgs false
namespace Go.Eng.Tryz
open Go Go.Eng Go.Proofs Go.RowKit
attribute [local go_sem] is_len is_get iss_len iss_get ars_len ars_get stas_len stas_get rs_len rs_get
theorem Lng.hasS {L : List (List Int)} {l : List Sta} (h : Lng L l) (hka : achk l = true) {w : List Int} (hw : w ∈ L) : hasF l w = true := by
  obtain ⟨t, h1, h2⟩ := (h w).1 hw
  unfold hasF
  rw [hka, h1]
  simpa using h2
theorem Lng.nil0 {L : List (List Int)} {l : List Sta} (h : Lng L l) : [] ∈ L ↔ (l[0]!).final = true := by
  rw [h []]
  constructor
  · rintro ⟨t, h1, h2⟩
    simp only [leadF, Option.some.injEq] at h1
    subst h1
    simpa using h2
  · intro h1
    exact ⟨0, rfl, by simpa using h1⟩
theorem lawSReads {l : List Sta} {c : Co} (hl : StaOk l) (hc : c.ok) : Sound Tryz.prog 8 [im l c] (.bool true) := by
  have aw := shapeAwake
  have f1 := pFewI hl hc
  have w1 := pSWords hl hc
  cases g1 : fewI l c
  · rw [g1] at f1
    unfold im at *
    refine Sound.run (N := 107) Tryz.func8 rfl (by kernel_rfl) rfl rfl rfl (by exact args0_1) fun X_ w_ => ?_
    have c0_ := aw; have c1_ := f1; refine goT ?_; try exact trivial
  rw [g1] at f1
  by_cases h : shE l c = 0
  rotate_left
  · have k1 := pSCheck hl hc
    generalize swW l c = W at *
    generalize shE l c = e at *
    unfold im at *
    refine Sound.run (N := 107) Tryz.func8 rfl (by kernel_rfl) rfl rfl rfl (by exact args0_1) fun X_ w_ => ?_
    have c0_ := aw; have c1_ := f1; have c2_ := w1; have c3_ := k1; refine goT ?_; try exact trivial
  obtain ⟨ha, hk, h3, h4, h5⟩ := shE_0.1 h
  have hLn := lng_words ha
  have hsr := wordsF_srt ha []
  have hmn : manyN l = min 301 ((wordsF l []).length : Int) := by
    have : manyN l = (toldI manyF l l.length)[0]! := if_pos ha
    rw [this]
    exact wf_many ha l.length 0 [] (achk_iff.1 ha).2.1 (by omega)
  have hlen : (wordsF l []).length ≤ 300 := by omega
  obtain ⟨e1, e2, _⟩ := ws_ofS ha hLn hsr hlen
  have e3 : swW l c = wordsF l [] := by unfold swW; rw [if_pos h, e1]
  rw [e3, h] at w1
  have hWok := (wsW_ok l).2.1
  rw [e1] at hWok
  have hlong : ∀ w ∈ wordsF l [], w.length ≤ 20 := fun w hw => by
    have := (hLn.deep ha).2.1 w hw
    omega
  have hpos : ∀ w ∈ wordsF l [], 1 ≤ w.length := fun w hw => by
    cases w with
    | nil => have := hLn.nil0.1 hw; rw [h5] at this; cases this
    | cons x y => simp
  have hhas := fun w hw => hLn.hasS ha (w := w) hw
  have hmake : (∀ w ∈ wordsF l [], wfit w = true) → wrE (wordsF l []) = 0 ∧ shE (dawgF (wordsF l [])) c = 0 ∧ swW (dawgF (wordsF l [])) c = wordsF l [] ∧ (dawgF (wordsF l [])).length ≤ l.length ∧ StaOk (dawgF (wordsF l [])) := fun hf => by
    have he : wrE (wordsF l []) = 0 := wrE_of hlen (List.all_eq_true.2 hf) hsr
    obtain ⟨K, hK⟩ := dawg_K he
    have hdL := hK.k.lng
    obtain ⟨f1, f2, f3⟩ := ws_ofS hK.chk hdL hsr hlen
    have hs0 : shE (dawgF (wordsF l [])) c = 0 := by
      refine shE_0.2 ⟨hK.chk, hk, by omega, ?_, ?_⟩
      · rcases (hdL.deep hK.chk).2.2 with e | ⟨w, hw, e⟩
        · omega
        · have := hlong w hw; omega
      · cases hf0 : ((dawgF (wordsF l []))[0]!).final
        · rfl
        · have := hpos _ (hdL.nil0.2 hf0)
          simp at this
    refine ⟨he, hs0, by unfold swW; rw [if_pos hs0, f1], least_le ha hLn hK.k, hK.ok⟩
  have mk := fun he => pSMakeO (L := wordsF l []) hWok hc he hk
  have s0 := rSameW hWok hWok
  rw [decide_eq_true rfl] at s0
  have hcl : ∀ w ∈ wordsF l [], w.length ≤ 9223372036854775807 := fun w hw => by have := hlong w hw; omega
  have cH := fun w (hw : w ∈ wordsF l []) => pHasW hl (hcl w hw)
  have cF := fun w (hw : w ∈ wordsF l []) => pWFit (hcl w hw)
  have w2 := fun hok => pSWords (l := dawgF (wordsF l [])) (c := c) hok hc
  generalize dawgF (wordsF l []) = d at *
  generalize wordsF l [] = W at *
  unfold im at *
  refine Sound.run (N := 107) Tryz.func8 rfl (by kernel_rfl) rfl rfl rfl (by exact args0_1) fun X_ w_ => ?_
  have c0_ := aw; have c1_ := f1; have c2_ := w1; refine goT ?_; try exact trivial
  refine WP_loopk (fun i : Nat => i ≤ W.length ∧ ∀ j, j < i → wfit (W[j]!) = true) (fun i => [(1, .ref 0 0), (3, .d (.bool true)), (4, .d (.sl 1 (iss W))), (6, .d (.int .i64 i))]) (fun _ => [(0, .var [.d (.sl 2 (stas l)), .d (.int .u64 c.more), .d (.int .u64 c.less), .d (.int .u64 c.other), .d (.int .u64 c.turned), .d (.sl 3 (rs c.rules))])]) 20000 (fun i => W.length - i) [1, 3, 4, 6] [0] 0 ⟨Nat.zero_le _, fun j h => by omega⟩ rfl rfl (Nat.le_of_ble_eq_true rfl) (fun _ _ => rfl) (fun _ _ => rfl) fun i hi => ?_
  obtain ⟨hi1, hi2⟩ := hi
  by_cases hi3 : i < W.length
  · have hm := getM hi3
    have c1 := cH _ hm
    have c2 := cF _ hm
    rw [hhas _ hm] at c1
    have p1 := hpos _ hm
    have p2 := hlong _ hm
    cases hf : wfit (W[i]!)
    · rw [hf] at c2
      have c0_ := c1; have c1_ := c2; refine goT ?_; try exact trivial
    · rw [hf] at c2
      have c0_ := c1; have c1_ := c2; refine goT ?_; try exact trivial
      refine ⟨i + 1, ⟨by omega, fun j hj => ?_⟩, ?_, rfl, by omega⟩
      · by_cases e : j = i
        · subst e; exact hf
        · exact hi2 j (by omega)
      · simp (disch := omega) only [go_sem, keepL, Int.natCast_add, Int.cast_ofNat_Int]
  · have hie : i = W.length := by omega
    obtain ⟨q1, q2, q3, q4, q5⟩ := hmake fun w hw => by
      obtain ⟨j, hj, rfl⟩ := List.getElem_of_mem hw
      have := hi2 j (by omega)
      rwa [getElem!_pos W j hj] at this
    have c1 := mk q1
    have c2 := w2 q5
    rw [q2, q3] at c2
    unfold co at c1
    have c0_ := c1; have c1_ := c2; have c2_ := s0; refine goT ?_; try exact trivial
end Go.Eng.Tryz
set_option linter.unusedVariables false
set_option linter.unusedSimpArgs false
namespace Go.Eng.Tryz
open Go Go.Eng Go.Proofs Go.RowKit
theorem ty_is {n : Nat} {ds : List D} (h : TyC Tryz.prog n 36 ds) : ∃ l, dOf Tryz.prog 36 ds = .sl 1 (is l) ∧ l.length ≤ 9223372036854775807 := by
  obtain ⟨m, xs, rfl, h1, h2⟩ := ty_sl Tryz.underlying36 h
  obtain ⟨l, e1, e2, _⟩ := ty_list (f := fun z => D.int .i64 z) (ok := fun _ => True) (fun x hx => by
    obtain ⟨z, rfl, _⟩ := ty_int Tryz.underlying3 hx
    exact ⟨z, dOf_int Tryz.underlying3, trivial⟩) xs h2
  rw [e1, dOf_sl Tryz.underlying36]
  exact ⟨l, rfl, by omega⟩
theorem ty_ru {n : Nat} {ds : List D} (h : TyC Tryz.prog n 106 ds) : ∃ r : Ru, dOf Tryz.prog 106 ds = ru r ∧ r.ok := by
  obtain ⟨m, h⟩ := ty_struct Tryz.underlying106 h
  obtain ⟨_, _, rfl, h1, _, _, rfl, h2, _, _, rfl, h3, rfl⟩ := h
  obtain ⟨c, rfl, hc⟩ := ty_int Tryz.underlying42 h3
  obtain ⟨l, e1, o1⟩ := ty_is h1
  obtain ⟨k, xs, rfl, _, _⟩ := ty_sl Tryz.underlying36 h1
  rw [dOf_sl Tryz.underlying36] at e1
  obtain ⟨l', e2, o2⟩ := ty_is h2
  obtain ⟨k', xs', rfl, _, _⟩ := ty_sl Tryz.underlying36 h2
  rw [dOf_sl Tryz.underlying36] at e2
  rw [dOf_struct Tryz.underlying106, e1, e2]
  exact ⟨⟨l, l', c⟩, rfl, o1, o2, wf_u64 hc⟩
theorem ty_rs {n : Nat} {ds : List D} (h : TyC Tryz.prog n 43 ds) : ∃ l, dOf Tryz.prog 43 ds = .sl 3 (rs l) ∧ (∀ r ∈ l, r.ok) ∧ l.length ≤ 9223372036854775807 := by
  obtain ⟨m, xs, rfl, h1, h2⟩ := ty_sl Tryz.underlying43 h
  obtain ⟨l, e1, e2, h3⟩ := ty_list (f := ru) (ok := Ru.ok) (fun x hx => ty_ru hx) xs h2
  rw [e1, dOf_sl Tryz.underlying43]
  exact ⟨l, rfl, h3, by omega⟩
end Go.Eng.Tryz
set_option linter.unusedVariables false
set_option linter.unusedSimpArgs false
namespace Go.Eng.Tryz
open Go Go.Eng Go.Proofs Go.RowKit
theorem ty_co {n : Nat} {ds : List D} (h : TyC Tryz.prog n 45 ds) : ∃ c : Co, dOf Tryz.prog 45 ds = co c ∧ c.ok := by
  obtain ⟨m, h⟩ := ty_struct Tryz.underlying45 h
  obtain ⟨_, _, rfl, h1, _, _, rfl, h2, _, _, rfl, h3, _, _, rfl, h4, _, _, rfl, h5, rfl⟩ := h
  obtain ⟨c1, rfl, hc1⟩ := ty_int Tryz.underlying42 h1
  obtain ⟨c2, rfl, hc2⟩ := ty_int Tryz.underlying42 h2
  obtain ⟨c3, rfl, hc3⟩ := ty_int Tryz.underlying42 h3
  obtain ⟨c4, rfl, hc4⟩ := ty_int Tryz.underlying42 h4
  obtain ⟨l, e1, o1, o2⟩ := ty_rs h5
  obtain ⟨k, xs, rfl, _, _⟩ := ty_sl Tryz.underlying43 h5
  rw [dOf_sl Tryz.underlying43] at e1
  rw [dOf_struct Tryz.underlying45, e1]
  exact ⟨⟨c1, c2, c3, c4, l⟩, rfl, wf_u64 hc1, wf_u64 hc2, wf_u64 hc3, wf_u64 hc4, o1, o2⟩
end Go.Eng.Tryz
set_option linter.unusedVariables false
set_option linter.unusedSimpArgs false
namespace Go.Eng.Tryz
open Go Go.Eng Go.Proofs Go.RowKit
theorem ty_ar {n : Nat} {ds : List D} (h : TyC Tryz.prog n 70 ds) : ∃ a : Ar, dOf Tryz.prog 70 ds = ar a ∧ True := by
  obtain ⟨m, h⟩ := ty_struct Tryz.underlying70 h
  obtain ⟨_, _, rfl, h1, _, _, rfl, h2, rfl⟩ := h
  obtain ⟨s, rfl, _⟩ := ty_int Tryz.underlying3 h1
  obtain ⟨t, rfl, _⟩ := ty_int Tryz.underlying3 h2
  rw [dOf_struct Tryz.underlying70]
  exact ⟨⟨s, t⟩, rfl, trivial⟩
theorem ty_ars {n : Nat} {ds : List D} (h : TyC Tryz.prog n 66 ds) : ∃ l, dOf Tryz.prog 66 ds = .sl 2 (ars l) ∧ l.length ≤ 9223372036854775807 := by
  obtain ⟨m, xs, rfl, h1, h2⟩ := ty_sl Tryz.underlying66 h
  obtain ⟨l, e1, e2, h3⟩ := ty_list (f := ar) (ok := fun _ => True) (fun x hx => ty_ar hx) xs h2
  rw [e1, dOf_sl Tryz.underlying66]
  exact ⟨l, rfl, by omega⟩
theorem ty_sta {n : Nat} {ds : List D} (h : TyC Tryz.prog n 68 ds) : ∃ s : Sta, dOf Tryz.prog 68 ds = sta s ∧ s.arcs.length ≤ 9223372036854775807 := by
  obtain ⟨m, h⟩ := ty_struct Tryz.underlying68 h
  obtain ⟨_, _, rfl, h1, _, _, rfl, h2, rfl⟩ := h
  obtain ⟨b, rfl⟩ := ty_bool Tryz.underlying4 h1
  obtain ⟨l, e1, o1⟩ := ty_ars h2
  obtain ⟨k, xs, rfl, _, _⟩ := ty_sl Tryz.underlying66 h2
  rw [dOf_sl Tryz.underlying66] at e1
  rw [dOf_struct Tryz.underlying68, e1]
  exact ⟨⟨b, l⟩, rfl, o1⟩
theorem ty_sts {n : Nat} {ds : List D} (h : TyC Tryz.prog n 23 ds) : ∃ l, dOf Tryz.prog 23 ds = .sl 2 (stas l) ∧ StaOk l := by
  obtain ⟨m, xs, rfl, h1, h2⟩ := ty_sl Tryz.underlying23 h
  obtain ⟨l, e1, e2, h3⟩ := ty_list (f := sta) (ok := fun s => s.arcs.length ≤ 9223372036854775807) (fun x hx => ty_sta hx) xs h2
  rw [e1, dOf_sl Tryz.underlying23]
  exact ⟨l, rfl, by omega, h3⟩
end Go.Eng.Tryz
set_option linter.unusedVariables false
set_option linter.unusedSimpArgs false
namespace Go.Eng.Tryz
open Go Go.Eng Go.Proofs Go.RowKit
theorem ty_im {n : Nat} {ds : List D} (h : TyC Tryz.prog n 47 ds) : ∃ x : List Sta × Co, dOf Tryz.prog 47 ds = im x.1 x.2 ∧ StaOk x.1 ∧ x.2.ok := by
  obtain ⟨m, hi⟩ := ty_struct Tryz.underlying47 h
  obtain ⟨_, _, rfl, h0, _, _, rfl, hc, rfl⟩ := hi
  obtain ⟨l, e0, o0⟩ := ty_sts h0
  obtain ⟨k0, xs0, rfl, _, _⟩ := ty_sl Tryz.underlying23 h0
  rw [dOf_sl Tryz.underlying23] at e0
  obtain ⟨m2, hd⟩ := ty_struct Tryz.underlying45 hc
  obtain ⟨_, _, rfl, h1, _, _, rfl, h2, _, _, rfl, h3, _, _, rfl, h4, _, _, rfl, h5, rfl⟩ := hd
  obtain ⟨c1, rfl, hc1⟩ := ty_int Tryz.underlying42 h1
  obtain ⟨c2, rfl, hc2⟩ := ty_int Tryz.underlying42 h2
  obtain ⟨c3, rfl, hc3⟩ := ty_int Tryz.underlying42 h3
  obtain ⟨c4, rfl, hc4⟩ := ty_int Tryz.underlying42 h4
  obtain ⟨r, e1, o1, o2⟩ := ty_rs h5
  obtain ⟨k, xs, rfl, _, _⟩ := ty_sl Tryz.underlying43 h5
  rw [dOf_sl Tryz.underlying43] at e1
  rw [dOf_struct Tryz.underlying47, e0, e1]
  exact ⟨(l, ⟨c1, c2, c3, c4, r⟩), rfl, o0, wf_u64 hc1, wf_u64 hc2, wf_u64 hc3, wf_u64 hc4, o1, o2⟩
end Go.Eng.Tryz

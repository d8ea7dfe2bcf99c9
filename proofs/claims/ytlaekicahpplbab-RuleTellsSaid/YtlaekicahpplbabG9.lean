/- The engine, part 9: make, cuts, and small operations. -/
import Derived.Test.YtlaekicahpplbabG8
set_option linter.unusedVariables false
set_option linter.unusedSimpArgs false
namespace Go.Eng
open Go.RowKit

def evMake (P : Program) (key : Nat) (t : TypeId) (l c : AV) : Option (AV × List (Nat × Option HO) × List Nat) :=
  match l, c with
  | .d (.int _ l), .d (.int _ c) =>
    match elT P t with
    | some e => match szT P e, byT P e, zeroD P e with
      | some sz, some b, some z => if 0 < sz ∧ (AV.d z).sto = true ∧ z.comps.length = sz ∧ 0 ≤ l ∧ l ≤ c ∧ (b : Int) * c ≤ 281474976710656 ∧ c ≤ 9223372036854775807 then
          some (.own key l.toNat, [(key, some (.row e sz (List.replicate l.toNat z)))], [])
        else none
      | _, _, _ => none
    | none => none
  | _, _ => none
section
variable {P : Program} {X : Ctx} {hp : Heap} {ν : Nat → Value} {used : Nat → Prop} {w : World} {key : Nat}
theorem evMake_sound (hI : HInv X (lk hp) ν used w) (hk : ¬ used key) {t : Nat} {l c r : AV} {vl vc : Value} {es : List (Nat × Option HO)} {acc : List Nat}
    (hl : RepA w (Mut X.M0 (lk hp) ν) (lk hp) ν used l vl) (hc : RepA w (Mut X.M0 (lk hp) ν) (lk hp) ν used c vc) (he : evMake P key t l c = some (r, es, acc)) :
    ∃ v w', (Instr.makeSlice t vl vc).run P w = .ok v w' ∧ Post X hp ν used w key (eff hp es) r v w' := by
  unfold evMake at he
  split at he
  · rename_i kl l kc c
    cases hl with
    | d hl => cases hl; cases hc with
      | d hc =>
        cases hc
        split at he
        · rename_i e hel
          split at he
          · rename_i sz b z hsz hb hz
            split at he
            · rename_i hcond
              obtain ⟨h0, hs, hcl, hl0, hlc, hbb, h63⟩ := hcond
              simp at he
              obtain ⟨rfl, rfl, rfl⟩ := he
              obtain ⟨i, hi, hisz⟩ := szT_info hsz
              have hib : i.bytes = b := by simp [byT, hi] at hb; exact hb
              obtain ⟨zv, hzr, ⟨i', hi', hzz⟩, hrep⟩ := zeroD_run hz
              rw [hi] at hi'
              cases hi'
              subst hisz
              subst hib
              have hr := run_make (P := P) w t e i zv (elT_und hel) hi hzz kl kc l c hl0 hlc hbb h63
              refine ⟨_, _, hr, ?_⟩
              obtain ⟨hI2, x2⟩ := hI.reν hk (.slice none 0 0)
              have hcap : l.toNat ≤ c.toNat := by omega
              obtain ⟨c1, c2, c3⟩ := repD_comps (hrep w (Mut X.M0 (lk hp) (upd ν key (.slice none 0 0)))) hs
              have hzs : zv.cells.size = i.size := by have : zv.cells.toList.length = i.size := by omega
                                                      simpa using this
              have hown : Owns (w.alloc (.cells (madeCells zv.cells (c.toNat * i.size)) e)) X.base e i.size (.slice (some ⟨w.heap.size, 0, none⟩) l.toNat c.toNat) (List.replicate l.toNat z).length ((madeCells zv.cells (c.toNat * i.size)).toList.take (l.toNat * i.size)) := by
                rw [List.length_replicate]
                refine ⟨?_, .inr ⟨w.heap.size, c.toNat, _, rfl, hI.below.size, heap_alloc_new w _, hcap, by simp only [maxLen]; omega, Nat.le_of_eq (size_madeCells _ _).symm, rfl⟩⟩
                rw [List.length_take, Array.length_toList, size_madeCells]
                exact Nat.min_eq_left (Nat.mul_le_mul_right _ hcap)
              have hp := row_post (key := key) (k := key) (e := e) (sz := i.size) (xs := []) (xs' := List.replicate l.toNat z) hI2 hk (.inl ⟨rfl, lk_none hI hk, upd_same _ _ _⟩) h0 hown (by rw [upd_same]; exact ⟨World.grownBy_alloc w _ _, Nat.le_refl _⟩) (.inr ⟨_, rfl, Nat.le_refl _⟩)
                (fun hu => absurd hu hk) (by simp) (fun x hx => ?_) (fun q x j d hx hd => ?_)
              · obtain ⟨ν', p1, p2, p3⟩ := hp
                rw [List.length_replicate] at p3
                exact ⟨ν', p1, x2.trans p2, p3⟩
              · rw [List.eq_of_mem_replicate hx]
                exact ⟨hcl, c2⟩
              · have hq := (List.getElem?_eq_some_iff.1 hx).1
                simp at hq
                have hxz : x = z := by
                  have := List.mem_of_getElem? hx
                  exact List.eq_of_mem_replicate this
                subst hxz
                have hj := (List.getElem?_eq_some_iff.1 hd).1
                have hu := List.getElem?_eq_getElem (l := zv.cells.toList) (i := j) (by omega)
                refine ⟨_, ?_, c3 j d _ hd hu⟩
                have h1 : (q + 1) * i.size ≤ l.toNat * i.size := Nat.mul_le_mul_right _ (by omega)
                have h2 : l.toNat * i.size ≤ c.toNat * i.size := Nat.mul_le_mul_right _ hcap
                rw [Nat.add_mul] at h1
                have hlt : q * i.size + j < c.toNat * i.size := by omega
                rw [List.getElem?_take, if_pos (by omega)]
                simp only [madeCells, Array.toList_map, Array.toList_range, List.getElem?_map, List.getElem?_range hlt, Option.map_some]
                rw [hzs, Nat.mul_comm, Nat.mul_add_mod, Nat.mod_eq_of_lt (by omega)]
                rw [getElem!_pos zv.cells j (by omega)]
                simp
            · cases he
          · cases he
        · cases he
  · cases he

/-! ### Cuts -/
def ofInt : Option AV → Nat → Option Nat
  | none, n => some n
  | some av, _ => match av with | .d (.int _ i) => if 0 ≤ i then some i.toNat else none | _ => none
def evSlice (P : Program) (H : Nat → Option HO) (t : TypeId) (x : AV) (lo hi mx : Option AV) : Option (AV × List (Nat × Option HO) × List Nat) :=
  match elT P t with
  | some e => match szT P e with
    | some sz => match toD H x with
      | some (d, ks) => match elems sz d with
        | some xs => match ofInt lo 0, ofInt hi xs.length with
          | some l, some h => if l ≤ h ∧ h ≤ xs.length then
              match mx with
              | none => some (.d (.sl sz ((xs.take h).drop l)), ks.map (fun q => (q, none)), ks)
              | some m => match ofInt (some m) 0 with
                | some m => if m = h ∧ hi.isSome = true then some (.clip sz ((xs.take h).drop l), ks.map (fun q => (q, none)), ks) else none
                | none => none
            else none
          | _, _ => none
        | none => none
      | none => none
    | none => none
  | none => none
theorem eff_dels0 (ks : List Nat) (hp : Heap) : eff hp (ks.map (fun q => (q, none))) = dels hp ks := by
  have := eff_dels ks [] hp
  simpa [eff] using this
theorem cut_rep {M : Nat → Prop} {sz n c l h m : Nat} {xs : List D} {a : Option Addr} (hr : RepD w M (.sl sz xs) (.slice a n c)) (h1 : l ≤ h) (h2 : h ≤ xs.length) (h3 : h ≤ m) (h4 : m ≤ c) :
    RepD w M (.sl sz ((xs.take h).drop l)) (.slice (if m = l then a else a.map (·.add (l * sz))) (h - l) (m - l)) := by
  cases hr with
  | sl0 =>
    simp at h2
    subst h2
    have : l = 0 := by omega
    subst this
    have : m = 0 := by omega
    subst this
    simpa using RepD.sl0
  | sl val hb hM hc hm hs g1 g2 =>
    rename_i a
    have hlen : ((xs.take h).drop l).length = h - l := by simp; omega
    have hget : ∀ (i : Nat) x, ((xs.take h).drop l)[i]? = some x → xs[l + i]? = some x := fun i x hx => by
      rw [List.getElem?_drop, List.getElem?_take] at hx
      split at hx
      · exact hx
      · cases hx
    by_cases hml : m = l
    · rw [if_pos hml]
      have h0 : (xs.take h).drop l = [] := List.eq_nil_of_length_eq_zero (by omega)
      rw [h0]
      have := RepD.sl (w := w) (M := M) (sz := sz) (c := m - l) (xs := []) (a := a) (fun _ _ => undef) (fun h => absurd rfl h) (fun h => absurd rfl h) (by simp) (by omega) (fun i x hx => by simp at hx) (fun i x j d hx => by simp at hx) (fun i x j d hx => by simp at hx)
      rw [show h - l = 0 from by omega]
      exact this
    · rw [if_neg hml]
      have := RepD.sl (w := w) (M := M) (sz := sz) (c := m - l) (xs := (xs.take h).drop l) (a := a.add (l * sz)) (fun i j => val (l + i) j) (fun hn => by rw [add_block]; exact hb (fun e => hn (by simp [e]))) (fun hn => by rw [add_block]; exact hM (fun e => hn (by simp [e]))) (by omega) (by omega)
        (fun i x hx => hs _ x (hget i x hx)) (fun i x j d hx hd => by
          have := g1 _ x j d (hget i x hx) hd
          rw [add_add']
          rwa [show l * sz + (i * sz + j) = (l + i) * sz + j from by rw [Nat.add_mul]; omega]) (fun i x j d hx hd => g2 _ x j d (hget i x hx) hd)
      rw [hlen] at this
      exact this
theorem run_bound {i : Int} {k : IntKind} {y : Nat} {code : BoundsCode} (h0 : 0 ≤ i) (h1 : i ≤ y) : (Instr.sliceBound (.int k i) y code).run P w = .ok i.toNat w := by
  simp [Instr.sliceBound, asIntOf, h0, h1]
theorem elT_notArr {t e : Nat} (h : elT P t = some e) (v : Value) (a b c : Option Value) : (Instr.sliceAt t v a b c).run P w = (Instr.slice t v a b c).run P w := by
  simp [Instr.sliceAt, run_underlying (elT_und h)]
/-! ### An own row cut short -/
def evCut (P : Program) (key : Nat) (H : Nat → Option HO) (t : TypeId) (x : AV) (lo hi mx : Option AV) : Option (AV × List (Nat × Option HO) × List Nat) :=
  match lo, x with
  | none, .own k n => match H k, elT P t with
    | some (.row e sz xs), some e' => match szT P e', ofInt hi xs.length with
      | some sz', some h => if n = xs.length ∧ e' = e ∧ sz' = sz ∧ h ≤ xs.length then
          match mx with
          | none => some (.own key h, [(k, none), (key, some (.row e sz (xs.take h)))], [k])
          | some m => match ofInt (some m) 0 with
            | some m => if m = h ∧ hi.isSome = true then some (.own key h, [(k, none), (key, some (.row e sz (xs.take h)))], [k]) else none
            | none => none
        else none
      | _, _ => none
    | _, _ => none
  | _, _ => none
/-- A row of the call's own is held by its first elements, under a new key. -/
theorem HInv.cut (hI : HInv X (lk hp) ν used w) (hk : ¬ used key) {k : Nat} {e : TypeId} {sz : Nat} {xs : List D} (ho : lk hp k = some (.row e sz xs)) {h c : Nat} (hh : h ≤ xs.length) {a : Option Addr} {n c0 : Nat} (hν : ν k = .slice a n c0) (hhc : h ≤ c) (hc : c ≤ c0) (h0 : a = none → c = 0) :
    Post X hp ν used w key (put (del hp k) key (.row e sz (xs.take h))) (.own key h) (.slice a h c) w := by
  obtain ⟨vals, hown, hz, hf, hrow⟩ := hI.obj _ _ ho
  have hne : k ≠ key := fun e => hk (e ▸ hI.usd _ _ ho)
  have hget : ∀ q o, lk (put (del hp k) key (.row e sz (xs.take h))) q = some o → (q = key ∧ o = .row e sz (xs.take h)) ∨ (q ≠ key ∧ q ≠ k ∧ lk hp q = some o) := fun q o hq => by
    by_cases e1 : q = key
    · subst e1; rw [lk_put_same] at hq; cases hq; exact .inl ⟨rfl, rfl⟩
    · rw [lk_put_other _ _ _ _ e1] at hq
      by_cases e2 : q = k
      · subst e2; rw [lk_del_same] at hq; cases hq
      · rw [lk_del_other _ _ _ e2] at hq; exact .inr ⟨e1, e2, hq⟩
  have hblk : ∀ b, blockOf (.slice a h c) = some b → blockOf (ν k) = some b := fun b hb => by
    rw [hν]
    cases a with
    | none => simp [blockOf] at hb
    | some a => exact hb
  have hsubO : ∀ b, Own (lk (put (del hp k) key (.row e sz (xs.take h)))) (upd ν key (.slice a h c)) b → Own (lk hp) ν b := fun b ⟨q, o, hq, hb⟩ => by
    rcases hget q o hq with ⟨rfl, rfl⟩ | ⟨e1, e2, hq'⟩
    · rw [upd_same] at hb; exact ⟨k, _, ho, hblk b hb⟩
    · rw [upd_other _ _ _ _ e1] at hb; exact ⟨q, o, hq', hb⟩
  have hx : Ext (Mut X.M0 (lk hp) ν) (lk hp) ν used w (Mut X.M0 (lk (put (del hp k) key (.row e sz (xs.take h)))) (upd ν key (.slice a h c))) (lk (put (del hp k) key (.row e sz (xs.take h)))) (upd ν key (.slice a h c)) (fun q => used q ∨ q = key) w :=
    ⟨Same.refl _ _, fun b _ hM => by
      rcases hM with hM | hM
      · exact .inl hM
      · exact .inr (hsubO b hM), fun q hq => .inl hq, fun q hq o' ho' => by
      rcases hget q o' ho' with ⟨rfl, _⟩ | ⟨e1, _, hq'⟩
      · exact absurd hq hk
      · exact ⟨o', hq', by cases o' <;> simp [HO.later], fun _ => upd_other _ _ _ _ e1⟩, Same.refl _ _, fun b _ hM => hsubO b hM⟩
  refine ⟨upd ν key (.slice a h c), ⟨hI.below, hI.M0, fun q o b hq hb => ?_, fun q o hq => ?_, fun q o b hq hb => ?_, fun q q' o o' b hq hq' hb hb' => ?_, fun q o hq => ?_⟩, hx, ?_⟩
  · rcases hget q o hq with ⟨rfl, rfl⟩ | ⟨e1, e2, hq'⟩
    · rw [upd_same] at hb; exact hI.far _ _ _ ho (hblk b hb)
    · rw [upd_other _ _ _ _ e1] at hb; exact hI.far _ _ _ hq' hb
  · rcases hget q o hq with ⟨rfl, rfl⟩ | ⟨e1, e2, hq'⟩
    · exact .inr rfl
    · exact .inl (hI.usd _ _ hq')
  · rcases hget q o hq with ⟨rfl, rfl⟩ | ⟨e1, e2, hq'⟩
    · rw [upd_same] at hb; exact hI.blk _ _ _ ho (hblk b hb)
    · rw [upd_other _ _ _ _ e1] at hb; exact hI.blk _ _ _ hq' hb
  · rcases hget q o hq with ⟨rfl, rfl⟩ | ⟨e1, e2, hq1⟩
    · rcases hget q' o' hq' with ⟨rfl, rfl⟩ | ⟨e3, e4, hq2⟩
      · rfl
      · rw [upd_same] at hb; rw [upd_other _ _ _ _ e3] at hb'
        exact absurd (hI.inj _ _ _ _ _ ho hq2 (hblk b hb) hb').symm e4
    · rw [upd_other _ _ _ _ e1] at hb
      rcases hget q' o' hq' with ⟨rfl, rfl⟩ | ⟨e3, e4, hq2⟩
      · rw [upd_same] at hb'
        exact absurd (hI.inj _ _ _ _ _ hq1 ho hb (hblk b hb')) e2
      · rw [upd_other _ _ _ _ e3] at hb'
        exact hI.inj _ _ _ _ _ hq1 hq2 hb hb'
  · rcases hget q o hq with ⟨rfl, rfl⟩ | ⟨e1, e2, hq'⟩
    · rw [upd_same]
      have hlen : (xs.take h).length = h := by simp; omega
      have hle : h * sz ≤ xs.length * sz := Nat.mul_le_mul_right _ hh
      refine ⟨vals.take (h * sz), ?_, hz, fun x hx => hf x (List.mem_of_mem_take hx), fun i x j d hx' hd => ?_⟩
      · rw [hlen]
        refine ⟨by rw [List.length_take, hown.1]; omega, ?_⟩
        rcases hown.2 with ⟨hv, hn⟩ | ⟨g, cap, cur, hv, hb, hg, h1, h2, h3, h4⟩
        · rw [hν] at hv; cases hv
          have := h0 rfl
          subst this
          have : h = 0 := by omega
          subst this
          exact .inl ⟨rfl, rfl⟩
        · rw [hν] at hv; cases hv
          refine .inr ⟨g, c, cur, rfl, hb, hg, hhc, Nat.le_trans hc h2, Nat.le_trans (Nat.mul_le_mul_right _ hc) h3, ?_⟩
          rw [← h4, List.take_take, Nat.min_eq_left hle]
      · have hi := (List.getElem?_eq_some_iff.1 hx').1
        rw [List.getElem?_take] at hx'
        rw [hlen] at hi
        rw [if_pos hi] at hx'
        obtain ⟨u, hu, hr⟩ := hrow i x j d hx' hd
        have hj := (List.getElem?_eq_some_iff.1 hd).1
        rw [(hf x (List.mem_of_getElem? hx')).1] at hj
        have : i * sz + j < h * sz := by
          have : (i + 1) * sz ≤ h * sz := Nat.mul_le_mul_right _ hi
          rw [Nat.add_mul] at this
          omega
        exact ⟨u, by rw [List.getElem?_take, if_pos this]; exact hu, hr.mono hx.same hx.shrink⟩
    · rw [upd_other _ _ _ _ e1]
      exact (hI.obj _ _ hq').ext hx (fun _ _ => rfl)
  · refine .own (.inr rfl) rfl ⟨hhc, ?_⟩ (fun e => ⟨by have := h0 e; omega, h0 e⟩) fun o ho' => ?_
    · obtain ⟨a', c', hv, hcc, _⟩ := own_value hown
      rw [hν] at hv; cases hv
      omega
    · rw [lk_put_same] at ho'
      cases ho'
      have hlen : (xs.take h).length = h := by simp; omega
      exact ⟨e, sz, _, rfl, by rw [hlen]; exact Nat.le_refl _, fun _ => by rw [upd_same]⟩
inductive RepOpt (w : World) (M : Nat → Prop) (H : Nat → Option HO) (ν : Nat → Value) (used : Nat → Prop) : Option AV → Option Value → Prop where
  | none : RepOpt w M H ν used none none
  | some {a : AV} {v : Value} (h : RepA w M H ν used a v) : RepOpt w M H ν used (some a) (some v)
theorem evCut_sound (hI : HInv X (lk hp) ν used w) (hk : ¬ used key) {t : Nat} {x r : AV} {vx : Value} {lo hi mx : Option AV} {vlo vhi vmx : Option Value} {es : List (Nat × Option HO)} {acc : List Nat}
    (hx : RepA w (Mut X.M0 (lk hp) ν) (lk hp) ν used x vx) (hlo : RepOpt w (Mut X.M0 (lk hp) ν) (lk hp) ν used lo vlo) (hhi : RepOpt w (Mut X.M0 (lk hp) ν) (lk hp) ν used hi vhi) (hmx : RepOpt w (Mut X.M0 (lk hp) ν) (lk hp) ν used mx vmx)
    (he : evCut P key (lk hp) t x lo hi mx = some (r, es, acc)) : ∃ v, (Instr.sliceAt t vx vlo vhi vmx).run P w = .ok v w ∧ Post X hp ν used w key (eff hp es) r v w := by
  unfold evCut at he
  split at he
  · rename_i k n
    split at he
    · rename_i e sz xs e' ho hel
      split at he
      · rename_i sz' h hsz hh
        split at he
        · rename_i hc
          obtain ⟨rfl, rfl, rfl, hhx⟩ := hc
          cases hlo
          cases hx with
          | own hu h1 hcc ha hr =>
            rename_i c0 a
            obtain ⟨e2, sz2, xs2, ho2, hn2, hv2⟩ := hr _ ho
            cases ho2
            have hν := hv2 rfl
            rw [h1] at hν
            subst h1
            cases hmx with
            | none =>
              simp at he
              obtain ⟨rfl, rfl, rfl⟩ := he
              have hb : (Instr.sliceBounds true xs.length c0 none vhi none).run P w = .ok (0, h, c0) w := by
                cases hhi with
                | none => simp [ofInt] at hh; subst hh; simp [Instr.sliceBounds]
                | some hq =>
                  simp only [ofInt] at hh
                  split at hh
                  · split at hh
                    · rename_i h0
                      simp at hh
                      cases hq with
                      | d hq => cases hq; subst hh; simp [Instr.sliceBounds, run_bound h0 (y := c0) (by have := hcc.1; omega)]
                    · cases hh
                  · cases hh
              refine ⟨.slice a h c0, ?_, ?_⟩
              · rw [elT_notArr hel]
                simp only [Instr.slice, Sem.run_bind, run_underlying (elT_und hel), Result.andThen_ok, hb, run_sizeOf' hsz, Sem.run_pure]
                cases a <;> simp [Addr.add]
              · exact hI.cut hk ho hhx hν.symm (by have := hcc.1; omega) (Nat.le_refl _) (fun e => (ha e).2)
            | some hm =>
              rename_i m vm
              simp only at he
              split at he
              · rename_i m' hm'
                split at he
                · rename_i hmh
                  obtain ⟨rfl, hsome⟩ := hmh
                  simp at he
                  obtain ⟨rfl, rfl, rfl⟩ := he
                  have mx_ok : (Instr.sliceBound vm c0 .slice3Acap).run P w = .ok m' w := by
                    simp only [ofInt] at hm'
                    split at hm'
                    · split at hm'
                      · rename_i h0
                        simp at hm'
                        cases hm with
                        | d hm => cases hm; subst hm'; exact run_bound h0 (by have := hcc.1; omega)
                      · cases hm'
                    · cases hm'
                  cases hhi with
                  | none => simp at hsome
                  | some hq =>
                    rename_i hv vhv
                    have hi_ok : (Instr.sliceBound vhv m' .slice3B).run P w = .ok m' w := by
                      simp only [ofInt] at hh
                      split at hh
                      · split at hh
                        · rename_i h0
                          simp at hh
                          cases hq with
                          | d hq => cases hq; rw [run_bound h0 (by omega), hh]
                        · cases hh
                      · cases hh
                    have hb : (Instr.sliceBounds true xs.length c0 none (some vhv) (some vm)).run P w = .ok (0, m', m') w := by
                      simp_all [Instr.sliceBounds]
                    refine ⟨.slice a m' m', ?_, ?_⟩
                    · rw [elT_notArr hel]
                      simp only [Instr.slice, Sem.run_bind, run_underlying (elT_und hel), Result.andThen_ok, hb, run_sizeOf' hsz, Sem.run_pure]
                      cases a <;> simp [Addr.add]
                    · exact hI.cut hk ho hhx hν.symm (Nat.le_refl _) (by have := hcc.1; omega) (fun e => by have := (ha e).1; omega)
                · cases he
              · cases he
        · cases he
      · cases he
    · cases he
  · cases he
/-- A cut: an own row from its start stays the call's own. -/
def evSliceO (P : Program) (key : Nat) (H : Nat → Option HO) (t : TypeId) (x : AV) (lo hi mx : Option AV) : Option (AV × List (Nat × Option HO) × List Nat) :=
  match evCut P key H t x lo hi mx with
  | some r => some r
  | none => evSlice P H t x lo hi mx
theorem evSlice_sound (hI : HInv X (lk hp) ν used w) (hk : ¬ used key) {t : Nat} {x r : AV} {vx : Value} {lo hi mx : Option AV} {vlo vhi vmx : Option Value} {es : List (Nat × Option HO)} {acc : List Nat}
    (hx : RepA w (Mut X.M0 (lk hp) ν) (lk hp) ν used x vx) (hlo : RepOpt w (Mut X.M0 (lk hp) ν) (lk hp) ν used lo vlo) (hhi : RepOpt w (Mut X.M0 (lk hp) ν) (lk hp) ν used hi vhi) (hmx : RepOpt w (Mut X.M0 (lk hp) ν) (lk hp) ν used mx vmx)
    (he : evSlice P (lk hp) t x lo hi mx = some (r, es, acc)) : ∃ v, (Instr.sliceAt t vx vlo vhi vmx).run P w = .ok v w ∧ Post X hp ν used w key (eff hp es) r v w := by
  unfold evSlice at he
  split at he
  · rename_i e hel
    split at he
    · rename_i sz hsz
      split at he
      · rename_i d ks hd
        split at he
        · rename_i xs hxs
          split at he
          · rename_i l h hl hh
            split at he
            · rename_i hc
              obtain ⟨hlh, hhx⟩ := hc
              have hdr := elems_rep (toD_drop hI hx hd) hxs
              obtain ⟨hI1, x1⟩ := hI.drops ks
              obtain ⟨a, c, rfl, hcap, hcm, _⟩ := hdr.sl_val
              have lo_ok : ∀ y, l ≤ y → ∀ code, ((match vlo with | some v => Instr.sliceBound v y code | none => pure 0 : Sem Nat)).run P w = .ok l w := by
                intro y hy code
                cases hlo with
                | none => simp [ofInt] at hl; subst hl; rfl
                | some h =>
                  simp only [ofInt] at hl
                  split at hl
                  · split at hl
                    · rename_i h0
                      simp at hl
                      cases h with
                      | d h => cases h; subst hl; exact run_bound h0 (by omega)
                    · cases hl
                  · cases hl
              cases hmx with
              | none =>
                simp at he
                obtain ⟨rfl, rfl, rfl⟩ := he
                have hi_ok : ((match vhi with | some v => Instr.sliceBound v c .sliceAcap | none => pure xs.length : Sem Nat)).run P w = .ok h w := by
                  cases hhi with
                  | none => simp [ofInt] at hh; subst hh; rfl
                  | some hq =>
                    simp only [ofInt] at hh
                    split at hh
                    · split at hh
                      · rename_i h0
                        simp at hh
                        cases hq with
                        | d hq => cases hq; subst hh; exact run_bound h0 (by omega)
                      · cases hh
                    · cases hh
                have hb : (Instr.sliceBounds true xs.length c vlo vhi none).run P w = .ok (l, h, c) w := by
                  have hl' := lo_ok h hlh .sliceB
                  cases vhi <;> cases vlo <;> simp_all [Instr.sliceBounds]
                refine ⟨.slice (if c = l then a else a.map (·.add (l * sz))) (h - l) (c - l), ?_, ?_⟩
                · rw [elT_notArr hel]
                  simp only [Instr.slice, Sem.run_bind, run_underlying (elT_und hel), Result.andThen_ok, hb, run_sizeOf' hsz, Sem.run_pure]
                · rw [eff_dels0]
                  exact (Post.same hI1 hk (.d (cut_rep hdr hlh hhx (by omega) (Nat.le_refl _)))).after x1
              | some hm =>
                rename_i m vm
                simp only at he
                split at he
                · rename_i m' hm'
                  split at he
                  · rename_i hmh
                    obtain ⟨rfl, hsome⟩ := hmh
                    simp at he
                    obtain ⟨rfl, rfl, rfl⟩ := he
                    have mx_ok : (Instr.sliceBound vm c .slice3Acap).run P w = .ok m' w := by
                      simp only [ofInt] at hm'
                      split at hm'
                      · split at hm'
                        · rename_i h0
                          simp at hm'
                          cases hm with
                          | d hm => cases hm; subst hm'; exact run_bound h0 (by omega)
                        · cases hm'
                      · cases hm'
                    cases hhi with
                    | none => simp at hsome
                    | some hq =>
                      rename_i hv vhv
                      have hi_ok : (Instr.sliceBound vhv m' .slice3B).run P w = .ok m' w := by
                        simp only [ofInt] at hh
                        split at hh
                        · split at hh
                          · rename_i h0
                            simp at hh
                            cases hq with
                            | d hq => cases hq; rw [run_bound h0 (by omega), hh]
                          · cases hh
                        · cases hh
                      have hb : (Instr.sliceBounds true xs.length c vlo (some vhv) (some vm)).run P w = .ok (l, m', m') w := by
                        have hl' := lo_ok m' hlh .slice3C
                        cases vlo <;> simp_all [Instr.sliceBounds]
                      refine ⟨.slice (if m' = l then a else a.map (·.add (l * sz))) (m' - l) (m' - l), ?_, ?_⟩
                      · rw [elT_notArr hel]
                        simp only [Instr.slice, Sem.run_bind, run_underlying (elT_und hel), Result.andThen_ok, hb, run_sizeOf' hsz, Sem.run_pure]
                      · rw [eff_dels0]
                        have hcut := cut_rep (m := m') hdr hlh hhx (Nat.le_refl _) (by omega)
                        have hlen : ((xs.take m').drop l).length = m' - l := by simp; omega
                        rw [← hlen] at hcut ⊢
                        exact (Post.same hI1 hk (.clip hcut)).after x1
                  · cases he
                · cases he
            · cases he
          · cases he
        · cases he
      · cases he
    · cases he
  · cases he
theorem evSliceO_sound (hI : HInv X (lk hp) ν used w) (hk : ¬ used key) {t : Nat} {x r : AV} {vx : Value} {lo hi mx : Option AV} {vlo vhi vmx : Option Value} {es : List (Nat × Option HO)} {acc : List Nat}
    (hx : RepA w (Mut X.M0 (lk hp) ν) (lk hp) ν used x vx) (hlo : RepOpt w (Mut X.M0 (lk hp) ν) (lk hp) ν used lo vlo) (hhi : RepOpt w (Mut X.M0 (lk hp) ν) (lk hp) ν used hi vhi) (hmx : RepOpt w (Mut X.M0 (lk hp) ν) (lk hp) ν used mx vmx)
    (he : evSliceO P key (lk hp) t x lo hi mx = some (r, es, acc)) : ∃ v, (Instr.sliceAt t vx vlo vhi vmx).run P w = .ok v w ∧ Post X hp ν used w key (eff hp es) r v w := by
  unfold evSliceO at he
  split at he
  · rename_i q hq
    cases he
    exact evCut_sound hI hk hx hlo hhi hmx hq
  · exact evSlice_sound hI hk hx hlo hhi hmx he
end
end Go.Eng

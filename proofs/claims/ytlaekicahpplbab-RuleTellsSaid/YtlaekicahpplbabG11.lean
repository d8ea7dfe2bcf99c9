/- The engine, part 11: an operation in its place: guards, calls. -/
import Derived.Test.YtlaekicahpplbabG21
import Derived.OrdersIn
import Derived.TacticsIn
set_option linter.unusedVariables false
set_option linter.unusedSimpArgs false
namespace Go.Eng
open Go.RowKit

def opnd (E : Env) : Operand → AV
  | .tmp t => match lk E t with | some a => a | none => .undef
  | .const v => match v2d v with | some d => .d d | none => .undef
  | .func f => .d (.fn f)
  | .global _ => .undef
def setE (E : Env) (d : Option Nat) (v : AV) : Env := match d with | some d => (d, v) :: E | none => E

/-- A function of data: what it gives. -/
def Sound (P : Program) (g : FuncId) (args : List D) (r : D) : Prop :=
  ∀ (w : World) (M : Nat → Prop) (vs : List Value), (∀ b, M b → b < w.heap.size) → args.length = vs.length → (∀ (i : Nat) d v, args[i]? = some d → vs[i]? = some v → RepD w M d v) →
    (∃ v w', (callFunc g vs.toArray).run P w = .ok (.value v) w' ∧ RepD w' M r v ∧ Bl w.heap.size w w') ∨
    ((callFunc g vs.toArray).run P w = .ok (.enter g vs.toArray) w ∧ Calls P g vs.toArray w fun e w' => ∃ v, e = .returned v ∧ RepD w' M r v ∧ Bl w.heap.size w w')

/-- A function value, and what it has captured. -/
def fnOf : AV → Option (FuncId × List AV)
  | .d x => match x with | .fn g => some (g, []) | _ => none
  | .fn g caps => some (g, caps)
  | _ => none
/-- Functions' frames, and rounds'. -/
def FR (rd : Option Nat) : Fence := { Fence.wide with round := rd }
theorem callsFR {P : Program} {rd : Option Nat} {n : Nat} {f : FuncId} {args : Array Value} {w : World} {R : Ending → World → Prop} (h : Calls P f args w R) : CallsIn (FR rd) n P f args w R := by
  cases rd with
  | none => exact callsIn_wide.2 h
  | some l => exact CallsIn.inRound l (callsIn_wide.2 h)
theorem roundFR {P : Program} {rd : Option Nat} {n l : Nat} {f : FuncId} {tmps : Array Value} {assign body : Code} {w : World} {R : Ending → World → Prop} (h : RoundIn Fence.wide n P l f tmps assign body w R) : RoundIn (FR rd) n P l f tmps assign body w R := by
  cases rd with
  | none => exact h
  | some l' => exact h
theorem deepFR {rd : Option Nat} {n m : Nat} (h : (FR rd).depth.isSome = true) : n ≤ m := by simp [FR, Fence.wide] at h
/-- What an operation in its place does. -/
structure Out where
  dst : Option Nat
  v : AV
  es : List (Nat × Option HO)
  acc : List Nat
def gslot (ops : Array Oper) (j : Nat) : Option Nat := (ops[j]?).bind (·.dst)
/-- Is it carried out? -/
def gd (ops : Array Oper) (E : Env) (g : Option (Nat × Bool)) : Option Bool :=
  match g with
  | none => some true
  | some (j, want) => match gslot ops j with
    | some t => match lk E t with
      | some a => match a with
        | .d x => match x with | .bool b => some (b == want) | _ => none
        | .tup _ => some false
        | _ => none
      | none => none
    | none => none
def kills (ks : List Nat) : List (Nat × Option HO) := ks.map fun q => (q, none)
inductive OpEv (P : Program) (ops : Array Oper) (key : Nat) (o : Oper) (E : Env) (hp : Heap) : Out → Prop where
  | skip (hg : gd ops E o.guard = some false) : OpEv P ops key o E hp ⟨o.dst, .tup [], [], []⟩
  | op {v : AV} {es : List (Nat × Option HO)} {acc : List Nat} (hg : gd ops E o.guard = some true) (he : evOp P key (opnd E) (lk hp) o.op = some (v, es, acc)) : OpEv P ops key o E hp ⟨o.dst, v, es, acc⟩
  | call {f : Operand} {args : Array Operand} {ts : Array TypeId} {g : FuncId} {ds : List D} {ks : List Nat} {r : D} (hg : gd ops E o.guard = some true) (ho : o.op = .call ⟨.value f, args, ts⟩) (hf : opnd E f = .d (.fn g))
      (ha : toDs (lk hp) (args.toList.map (opnd E)) = some (ds, ks)) (hs : Sound P g ds r) : OpEv P ops key o E hp ⟨o.dst, .d r, if r.flat then [] else kills ks, ks⟩
  | callM {f : Operand} {args : Array Operand} {ts : Array TypeId} {g : FuncId} {caps as : List AV} {hpc hp' : Heap} {r : AV} {n : Nat} {σ : Nat → Nat} {ks fs chg : List Nat} (hg : gd ops E o.guard = some true) (ho : o.op = .call ⟨.value f, args, ts⟩) (hf : fnOf (opnd E f) = some (g, caps))
      (ha : as.map (AV.rn σ) = args.toList.map (opnd E) ++ caps) (hs : SoundM P g as hpc r hp' n) (hb : passB key n σ ks fs as hpc r hp' = true) (hsub : ∀ k ∈ ks, ∃ o, lk hpc k = some o ∧ lk hp (σ k) = some (o.rn σ)) (hcs : ∀ k ∈ chg, k ∈ ks) (hch : ∀ k ∈ ks, k ∈ chg ∨ lk hp' k = lk hpc k) :
      OpEv P ops key o E hp ⟨o.dst, r.rn σ, passE σ (chg ++ fs) hp', ks.map σ⟩
  | callY {f : Operand} {args : Array Operand} {ts : Array TypeId} {kl : Nat} {as : List AV} {hpc hp' : Heap} {r : AV} {n : Nat} {σ : Nat → Nat} {ks fs : List Nat} (hg : gd ops E o.guard = some true) (ho : o.op = .call ⟨.value f, args, ts⟩) (hf : opnd E f = .yld kl)
      (ha : as.map (AV.rn σ) = .yld kl :: args.toList.map (opnd E)) (hs : SoundY P as hpc r hp' n) (hb : passB key n σ ks fs as hpc r hp' = true) (hsub : ∀ k ∈ ks, ∃ o, lk hpc k = some o ∧ lk hp (σ k) = some (o.rn σ)) :
      OpEv P ops key o E hp ⟨o.dst, r.rn σ, passE σ (ks ++ fs) hp', ks.map σ⟩

/-- What a frame that ran over functions is to do at its end: nothing. -/
def MarksL (lo : Nat) (w : World) (M : Nat → Prop) : List Deferred → Prop
  | [] => True
  | d :: ds => (∃ B, d = { target := .collected B, args := #[] } ∧ lo ≤ B ∧ w.heap[B]? = some (.deferred (some [])) ∧ ¬ M B) ∧ d ∉ ds ∧ MarksL lo w M ds
theorem MarksL.mono {lo : Nat} {w w' : World} {M M' : Nat → Prop} (hs : Same M w w') (hM : ∀ b, b < w.heap.size → M' b → M b) : ∀ {ds : List Deferred}, MarksL lo w M ds → MarksL lo w' M' ds
  | [], _ => trivial
  | d :: ds, ⟨⟨B, e, h1, h2, h3⟩, hn, h⟩ => by
    have hlt := (Array.getElem?_eq_some_iff.1 h2).1
    exact ⟨⟨B, e, h1, by rw [hs.block B hlt h3]; exact h2, fun hh => h3 (hM _ hlt hh)⟩, hn, h.mono hs hM⟩
def Marks (lo : Nat) (w : World) (M : Nat → Prop) (ds : List Deferred) : Prop := lo ≤ w.heap.size ∧ MarksL lo w M ds
theorem Marks.mono {lo : Nat} {w w' : World} {M M' : Nat → Prop} (hs : Same M w w') (hM : ∀ b, b < w.heap.size → M' b → M b) {ds : List Deferred} (h : Marks lo w M ds) : Marks lo w' M' ds := ⟨Nat.le_trans h.1 hs.size, h.2.mono hs hM⟩

structure EInv (X : Ctx) (N : Nat) (E : Env) (H : Nat → Option HO) (ν : Nat → Value) (used : Nat → Prop) (a : Act) (w : World) : Prop where
  heap : HInv X H ν used w
  env : ∀ n av, lk E n = some av → RepA w (Mut X.M0 H ν) H ν used av (a.tmps.getD n undef)
  size : a.tmps.size = N
  defers : Marks X.lo w (Mut X.M0 H ν) a.defers

section
variable {P : Program} {X : Ctx} {N : Nat} {E : Env} {hp : Heap} {ν : Nat → Value} {used : Nat → Prop} {a : Act} {w : World} {key : Nat}
theorem EInv.opnd {H : Nat → Option HO} (h : EInv X N E H ν used a w) (x : Operand) : RepA w (Mut X.M0 H ν) H ν used (opnd E x) (a.eval x) := by
  cases x with
  | tmp t =>
    simp only [Eng.opnd]
    cases hl : lk E t with
    | none => exact .undef _
    | some av => exact h.env t av hl
  | const v =>
    simp only [Eng.opnd]
    cases hv : v2d v with
    | none => exact .undef _
    | some d => exact .d (v2d_rep v d hv)
  | func f => exact .d (.fn f)
  | global g => exact .undef _
theorem gd_wanted {H : Nat → Option HO} {ops : Array Oper} (h : EInv X N E H ν used a w) (o : Oper) {b : Bool} (hg : gd ops E o.guard = some b) : Region.wanted o (yielded ops a.tmps) = b := by
  unfold gd at hg
  unfold Region.wanted
  cases hgu : o.guard with
  | none => simp [hgu] at hg; simp [hg]
  | some p =>
    obtain ⟨j, want⟩ := p
    simp only [hgu] at hg ⊢
    cases ht : gslot ops j with
    | none => simp [ht] at hg
    | some t =>
      simp only [ht] at hg
      cases hl : lk E t with
      | none => simp [hl] at hg
      | some av =>
        simp only [hl] at hg
        have hr := h.env t av hl
        have hy : yielded ops a.tmps j = match a.tmps.getD t undef with | .bool b => some b | _ => none := by
          unfold yielded
          unfold gslot at ht
          rw [ht]
          simp only [Option.bind_some]
          cases hq : a.tmps[t]? with
          | none => simp [hq, undef]
          | some v => simp [hq]; cases v <;> rfl
        rw [hy]
        cases av with
        | d x =>
          cases x <;> simp at hg
          generalize a.tmps.getD t undef = u at hr
          cases hr with
          | d hr => cases hr; subst hg; simp
        | tup vs =>
          simp at hg
          subst hg
          generalize a.tmps.getD t undef = u at hr
          cases hr
          simp
        | _ => simp at hg
theorem EInv.put {E : Env} {H H' : Nat → Option HO} {ν ν' : Nat → Value} {used used' : Nat → Prop} {w w' : World} (h : EInv X N E H ν used a w) (hI : HInv X H' ν' used' w') (hx : Ext (Mut X.M0 H ν) H ν used w (Mut X.M0 H' ν') H' ν' used' w')
    {av : AV} {v : Value} (hr : RepA w' (Mut X.M0 H' ν') H' ν' used' av v) {d : Option Nat} (hd : ∀ t, d = some t → t < N) : EInv X N (setE E d av) H' ν' used' (a.put d v) w' := by
  refine ⟨hI, fun n av' hn => ?_, ?_, ?_⟩
  · cases d with
    | none => exact (h.env n av' hn).ext hx
    | some t =>
      simp only [setE, lk] at hn
      have ht := hd t rfl
      rw [← h.size] at ht
      split at hn
      · rename_i e
        subst e
        cases hn
        simp only [Act.put, Array.getD_eq_getD_getElem?, Array.getElem?_setIfInBounds_self_of_lt ht, Option.getD_some]
        exact hr
      · rename_i e
        have := (h.env n av' hn).ext hx
        simpa [Act.put, Array.getD_eq_getD_getElem?, Array.getElem?_setIfInBounds_ne e] using this
  · cases d with
    | none => exact h.size
    | some t => simpa [Act.put] using h.size
  · cases d with
    | none => exact h.defers.mono hx.same hx.shrink
    | some t => simpa [Act.put] using h.defers.mono hx.same hx.shrink
theorem eff_kills (ks : List Nat) (hp : Heap) : eff hp (kills ks) = dels hp ks := eff_dels0 ks hp
/-- An operation is carried out (or passed by). -/
theorem OpEv.sound {ops : Array Oper} {o : Oper} {out : Out} (h : EInv X N E (lk hp) ν used a w) (hk : ¬ used key) (hd : ∀ t, o.dst = some t → t < N) (ho : OpEv P ops key o E hp out) {K : Act → World → Prop} {Q : Exit → Act → World → Prop} {rd : Option Nat}
    (hK : ∀ a' w' ν', EInv X N (setE E o.dst out.v) (lk (eff hp out.es)) ν' (fun q => used q ∨ q = key) a' w' → Ext (Mut X.M0 (lk hp) ν) (lk hp) ν used w (Mut X.M0 (lk (eff hp out.es)) ν') (lk (eff hp out.es)) ν' (fun q => used q ∨ q = key) w' → K a' w') :
    if Region.wanted o (yielded ops a.tmps) then o.wpIn (FR rd) 0 P a w K Q else (∀ f, o.about P w a.eval = some f → (FR rd).fn f) ∧ K (a.put o.dst undef) w := by
  cases ho with
  | skip hg =>
    rw [gd_wanted h o hg]
    obtain ⟨m1, m2⟩ := h.heap.more hk
    have hu : RepA w (Mut X.M0 (lk hp) ν) (lk hp) ν (fun q => used q ∨ q = key) (.tup []) undef := .tup (cs := []) rfl (fun i d v hd => by simp at hd)
    exact ⟨fun _ _ => trivial, hK _ _ ν (h.put m1 m2 hu hd) m2⟩
  | op hg he =>
    rw [gd_wanted h o hg]
    obtain ⟨nx, v, w', hr, hnx, ν', p1, p2, p3⟩ := evOp_sound h.heap hk (fun x => h.opnd x) he
    simp only [if_true]
    refine ⟨fun _ _ => trivial, ?_⟩
    rw [Oper.semAt_eq _ _ _ (fun c hc => by rw [hc] at he; simp [evOp] at he), hr]
    rcases hnx with rfl | ⟨rfl, rfl⟩
    · exact hK _ _ ν' (h.put p1 p2 p3 hd) p2
    · exact hK _ _ ν' (h.put p1 p2 p3 hd) p2
  | call hg hop hf ha hs =>
    rename_i f args ts g ds ks r
    rw [gd_wanted h o hg]
    simp only [if_true]
    have hfv := h.opnd f
    rw [hf] at hfv
    generalize hav : a.eval f = fv at hfv
    cases hfv with
    | d hfv =>
      cases hfv
      have hargs : (∀ (i : Nat) d v, (args.toList.map (Eng.opnd E))[i]? = some d → (args.toList.map a.eval)[i]? = some v → RepA w (Mut X.M0 (lk hp) ν) (lk hp) ν used d v) := fun i d v h1 h2 => by
        rw [List.getElem?_map] at h1 h2
        cases hq : args.toList[i]? with
        | none => rw [hq] at h1; simp at h1
        | some q => rw [hq] at h1 h2; simp at h1 h2; subst h1; subst h2; exact h.opnd q
      obtain ⟨l1, l2⟩ := toDs_rep h.heap (Mut.dels_sub (ks := ks)) _ _ ds ks (by simp) hargs ha (h.heap.notMut (toDs_keys _ _ _ ha))
      have hMlt : ∀ b, Mut X.M0 (lk (dels hp ks)) ν b → b < w.heap.size := fun b hb => by
        rcases Mut.dels_sub b hb with h' | ⟨q, o', hq, hb'⟩
        · exact h.heap.M0 b h'
        · exact (h.heap.blk _ _ _ hq hb').2
      have hcall := hs w (Mut X.M0 (lk (dels hp ks)) ν) (args.toList.map a.eval) hMlt l1 l2
      have harr : (args.toList.map a.eval).toArray = args.map a.eval := by simp [← Array.toList_map]
      rw [harr] at hcall
      have hexec : (execOp a.eval o).run P w = (callFunc g (args.map a.eval)).run P w := by
        unfold execOp
        rw [hop]
        simp only [resolve, hav, Deferred.ofValue, Sem.run_bind, Sem.run_pure, Result.andThen_ok, invoke]
        simp
      have fin : ∀ (v : Value) (w' : World), RepD w' (Mut X.M0 (lk (dels hp ks)) ν) r v → Bl w.heap.size w w' → K (a.put o.dst v) w' := by
        intro v w' hv hb
        by_cases hfl : r.flat = true
        · simp only [hfl, if_true] at hK
          obtain ⟨i1, x1⟩ := h.heap.world hb
          obtain ⟨m1, m2⟩ := i1.more hk
          exact hK _ _ ν (h.put m1 (x1.trans m2) (.d (hv.flat hfl)) hd) (x1.trans m2)
        · simp only [hfl, Bool.false_eq_true, if_false, eff_kills] at hK
          obtain ⟨i0, x0⟩ := h.heap.drops ks
          obtain ⟨i1, x1⟩ := i0.world hb
          obtain ⟨m1, m2⟩ := i1.more hk
          exact hK _ _ ν (h.put m1 (x0.trans (x1.trans m2)) (.d (hv.mono m2.same m2.shrink)) hd) (x0.trans (x1.trans m2))
      refine ⟨fun _ _ => trivial, ?_⟩
      rw [Oper.semAt_eq _ _ _ (fun c hc => by rw [hop] at hc; cases hc), hexec]
      rcases hcall with ⟨v, w', hr, hv, hb⟩ | ⟨hr, hc⟩
      · rw [hr]
        exact fin v w' hv hb
      · rw [hr]
        refine ⟨deepFR, callsFR (hc.mono ?_)⟩
        rintro e w' ⟨v, rfl, hv, hb⟩
        exact fin v w' hv hb
  | callM hg hop hf ha hs hb hsub hcs hch =>
    rename_i f args ts g caps as hpc hp' r n σ ks fs chg
    have hb2 : ((ks ++ fs).map σ).Nodup := by
      have hb' := hb
      simp only [passB, Bool.and_eq_true, decide_eq_true_eq] at hb'
      exact hb'.1.1.1.1.1.2
    have heff : lk (eff hp (passE σ (chg ++ fs) hp')) = lk (eff hp (passE σ (ks ++ fs) hp')) := by
      have hinj : ∀ a ∈ ks ++ fs, ∀ b ∈ ks ++ fs, σ a = σ b → a = b := fun a ha b hb e => by
        have h1 := find_of hb2 a ha
        rw [e, find_of hb2 b hb] at h1
        cases h1; rfl
      funext j
      by_cases hj : ∃ k ∈ ks ++ fs, σ k = j
      · obtain ⟨k, hk, rfl⟩ := hj
        have e1 : lk (eff hp (passE σ (ks ++ fs) hp')) (σ k) = (lk hp' k).map (HO.rn σ) := lk_pass hp hb2 k hk
        rw [e1]
        by_cases hkc : k ∈ chg ++ fs
        · -- written
          have hmem : ∀ (L : List Nat), k ∈ L → (∀ a ∈ L, a ∈ ks ++ fs) → lk (eff hp (passE σ L hp')) (σ k) = (lk hp' k).map (HO.rn σ) := by
            intro L
            induction L generalizing hp with
            | nil => intro h; cases h
            | cons a L ih =>
              intro hkL hsubL
              by_cases hkL' : k ∈ L
              · simp only [passE, List.map_cons]
                have hgen : ∀ hp0 : Heap, lk (eff hp0 (L.map fun k => (σ k, (lk hp' k).map (HO.rn σ)))) (σ k) = (lk hp' k).map (HO.rn σ) := by
                  intro hp0
                  have : ∀ (L : List Nat) (hp0 : Heap), k ∈ L → (∀ a ∈ L, a ∈ ks ++ fs) → lk (eff hp0 (L.map fun k => (σ k, (lk hp' k).map (HO.rn σ)))) (σ k) = (lk hp' k).map (HO.rn σ) := by
                    intro L
                    induction L with
                    | nil => intro _ h; cases h
                    | cons b L ih2 =>
                      intro hp0 hb1 hb3
                      by_cases hb4 : k ∈ L
                      · simp only [List.map_cons, eff]
                        split <;> exact ih2 _ hb4 (fun a ha => hb3 a (by simp [ha]))
                      · have hbk : k = b := by rcases List.mem_cons.1 hb1 with h | h; exact h; exact absurd h hb4
                        subst hbk
                        have hno : ∀ a ∈ L, σ a ≠ σ k := fun a ha e => hb4 (by rw [← hinj a (hb3 a (by simp [ha])) k (hb3 k (by simp)) e]; exact ha)
                        simp only [List.map_cons, eff]
                        have ho2 : ∀ hp1 : Heap, lk (eff hp1 (L.map fun k => (σ k, (lk hp' k).map (HO.rn σ)))) (σ k) = lk hp1 (σ k) := fun hp1 => lk_pass_other (L := L) (hp' := hp') hno
                        split
                        · rename_i o2 hq
                          rw [ho2, hq, lk_put_same]
                        · rename_i hq
                          rw [ho2, hq, lk_del_same]
                  exact this L hp0 hkL' (fun a ha => hsubL a (by simp [ha]))
                simp only [eff]
                split <;> exact hgen _
              · have hbk : k = a := by rcases List.mem_cons.1 hkL with h | h; exact h; exact absurd h hkL'
                subst hbk
                have hno : ∀ a ∈ L, σ a ≠ σ k := fun a ha e => hkL' (by rw [← hinj a (hsubL a (by simp [ha])) k (hsubL k (by simp)) e]; exact ha)
                simp only [passE, List.map_cons, eff]
                have ho2 : ∀ hp1 : Heap, lk (eff hp1 (L.map fun k => (σ k, (lk hp' k).map (HO.rn σ)))) (σ k) = lk hp1 (σ k) := fun hp1 => lk_pass_other (L := L) (hp' := hp') hno
                split
                · rename_i o2 hq
                  rw [ho2, hq, lk_put_same]
                · rename_i hq
                  rw [ho2, hq, lk_del_same]
          exact hmem (chg ++ fs) hkc (fun a ha => by
            rcases List.mem_append.1 ha with h | h
            · exact List.mem_append_left _ (hcs a h)
            · exact List.mem_append_right _ h)
        · -- as it was
          have hkk : k ∈ ks := by
            rcases List.mem_append.1 hk with h | h
            · exact h
            · exact absurd (List.mem_append_right _ h) hkc
          have hno : ∀ a ∈ chg ++ fs, σ a ≠ σ k := fun a ha e => hkc (by
            have hak : a ∈ ks ++ fs := by
              rcases List.mem_append.1 ha with h | h
              · exact List.mem_append_left _ (hcs a h)
              · exact List.mem_append_right _ h
            rw [← hinj a hak k hk e]; exact ha)
          rw [lk_pass_other hno]
          obtain ⟨o1, h1, h2⟩ := hsub k hkk
          rcases hch k hkk with h | h
          · exact absurd (List.mem_append_left _ h) hkc
          · rw [h, h1, h2]; rfl
      · have hno : ∀ k ∈ ks ++ fs, σ k ≠ j := fun k hk e => hj ⟨k, hk, e⟩
        rw [lk_pass_other hno, lk_pass_other (fun k hk => hno k (by
          rcases List.mem_append.1 hk with h | h
          · exact List.mem_append_left _ (hcs k h)
          · exact List.mem_append_right _ h))]
    simp only [heff] at hK
    rw [gd_wanted h o hg]
    simp only [if_true]
    have hfv := h.opnd f
    have hcap : ∃ cs : List Value, a.eval f = .func (.func g) #[] cs.toArray ∧ caps.length = cs.length ∧ ∀ (i : Nat) d v, caps[i]? = some d → cs[i]? = some v → RepA w (Mut X.M0 (lk hp) ν) (lk hp) ν used d v := by
      generalize a.eval f = fv at hfv
      generalize Eng.opnd E f = fa at hfv hf
      cases fa <;> simp only [fnOf] at hf <;> try (cases hf; done)
      case d x =>
        cases x <;> simp only at hf <;> try (cases hf; done)
        cases hf
        cases hfv with
        | d hfv => cases hfv; exact ⟨[], rfl, rfl, fun i d v hd => by simp at hd⟩
      case fn f' caps' =>
        cases hf
        cases hfv with
        | fn hl hh => exact ⟨_, rfl, hl, hh⟩
    obtain ⟨cs, hav, hcl, hcr⟩ := hcap
    have hall : ∀ (i : Nat) d v, as[i]? = some d → (args.toList.map a.eval ++ cs)[i]? = some v → RepA w (Mut X.M0 (lk hp) ν) (lk hp) ν used (d.rn σ) v := fun i d v h1 h2 => by
      have h3 : (as.map (AV.rn σ))[i]? = some (d.rn σ) := by simp [h1]
      rw [ha] at h3
      by_cases hi : i < args.toList.length
      · rw [List.getElem?_append_left (by simpa using hi), List.getElem?_map] at h3
        rw [List.getElem?_append_left (by simpa using hi), List.getElem?_map] at h2
        have hq := List.getElem?_eq_getElem hi
        rw [hq] at h2 h3
        simp only [Option.map_some, Option.some.injEq] at h2 h3
        rw [← h2, ← h3]
        exact h.opnd _
      · rw [List.getElem?_append_right (by simpa using hi)] at h3 h2
        simp only [List.length_map] at h2 h3
        exact hcr _ _ _ h3 h2
    have hlen : as.length = (args.toList.map a.eval ++ cs).length := by
      have := congrArg List.length ha
      simp only [List.length_map, List.length_append] at this ⊢
      omega
    obtain ⟨hr, hc⟩ := call_pass (CM.good P g) h.heap hk hs hb hsub hlen hall
    have harr : (args.toList.map a.eval ++ cs).toArray = args.map a.eval ++ cs.toArray := by
      simp [← Array.toList_map]
    rw [harr] at hr hc
    have hexec : (execOp a.eval o).run P w = (callFunc g (args.map a.eval ++ cs.toArray)).run P w := by
      unfold execOp
      rw [hop]
      simp only [resolve, hav, Deferred.ofValue, Sem.run_bind, Sem.run_pure, Result.andThen_ok, invoke]
      simp
    refine ⟨fun _ _ => trivial, ?_⟩
    rw [Oper.semAt_eq _ _ _ (fun c hc => by rw [hop] at hc; cases hc), hexec, hr]
    refine ⟨deepFR, callsFR (hc.mono ?_)⟩
    rintro e w' ⟨v, ν', rfl, h1, h2, h3⟩
    exact hK _ _ ν' (h.put h1 h2 h3 hd) h2
  | callY hg hop hf ha hs hb hsub =>
    rename_i f args ts kl as hpc hp' r n σ ks fs
    rw [gd_wanted h o hg]
    simp only [if_true]
    have hfv := h.opnd f
    rw [hf] at hfv
    have hcap : ∃ l : Nat, a.eval f = .func (.yield l) #[] #[] := by
      generalize a.eval f = fv at hfv
      cases hfv with
      | yld hu hh => exact ⟨_, rfl⟩
    obtain ⟨l, hav⟩ := hcap
    have hall : ∀ (i : Nat) d v, as[i]? = some d → (Value.func (.yield l) #[] #[] :: args.toList.map a.eval)[i]? = some v → RepA w (Mut X.M0 (lk hp) ν) (lk hp) ν used (d.rn σ) v := fun i d v h1 h2 => by
      have h3 : (as.map (AV.rn σ))[i]? = some (d.rn σ) := by simp [h1]
      rw [ha] at h3
      cases i with
      | zero =>
        simp at h2 h3
        rw [← h2, ← h3, ← hav]
        exact hfv
      | succ i =>
        simp only [List.getElem?_cons_succ, List.getElem?_map] at h2 h3
        cases hq : args.toList[i]? with
        | none => rw [hq] at h2; cases h2
        | some q =>
          rw [hq] at h2 h3
          simp only [Option.map_some, Option.some.injEq] at h2 h3
          rw [← h2, ← h3]
          exact h.opnd _
    have hlen : as.length = (Value.func (.yield l) #[] #[] :: args.toList.map a.eval).length := by
      have := congrArg List.length ha
      simp only [List.length_map, List.length_cons] at this ⊢
      omega
    obtain ⟨l', xs, fn, tmps, assign, body, e1, hrun, hround⟩ := call_pass (CY.good P) h.heap hk hs hb hsub hlen hall
    cases e1
    have harr : (args.toList.map a.eval).toArray = args.map a.eval := by simp [← Array.toList_map]
    rw [harr] at hrun
    have hexec : (execOp a.eval o).run P w = (Instr.yield l (args.map a.eval)).run P w := by
      unfold execOp
      rw [hop]
      simp only [resolve, hav, Deferred.ofValue, Sem.run_bind, Sem.run_pure, Result.andThen_ok, invoke]
      simp
    refine ⟨fun _ _ => trivial, ?_⟩
    rw [Oper.semAt_eq _ _ _ (fun c hc => by rw [hop] at hc; cases hc), hexec, hrun]
    refine ⟨deepFR, roundFR (hround.mono ?_)⟩
    rintro e w' ⟨v, ν', rfl, h1, h2, h3⟩
    exact hK _ _ ν' (h.put h1 h2 h3 hd) h2
end
end Go.Eng

/- The engine, part 22: functions over the caller's own things, and their calls. -/
import Derived.Test.YtlaekicahpplbabG19
set_option linter.unusedVariables false
set_option linter.unusedSimpArgs false
namespace Go.Eng
open Go.RowKit

def resM (P : Program) (s : St) (rs : List ResultVar) : Option AV :=
  match resAs P s rs with
  | some xs => match xs with | [x] => some x | xs => some (.tup xs)
  | none => none
/-- What a frame over the caller's things ends with. -/
def endM (P : Program) (rs : List ResultVar) (r : AV) (hp' : Heap) (ks : List Nat) : Exit → St → Prop := fun e s => (e = .normal ∨ e = .ret) ∧ resM P s rs = some r ∧ keepL s.hp ks = hp'
def argsA (as : List AV) : Env := (as.zipIdx).map fun p => (p.2, p.1)
theorem lk_argsA {as : List AV} {n : Nat} {av : AV} (h : lk (argsA as) n = some av) : as[n]? = some av := by
  have gen : ∀ (as : List AV) (k : Nat), lk ((as.zipIdx k).map fun p => (p.2, p.1)) n = some av → k ≤ n ∧ as[n - k]? = some av := by
    intro as
    induction as with
    | nil => intro k hh; simp [lk] at hh
    | cons d ds ih =>
      intro k hh
      simp only [List.zipIdx_cons, List.map_cons, lk] at hh
      by_cases e : k = n
      · rw [if_pos e] at hh
        simp at hh
        exact ⟨by omega, by rw [e]; simp [hh]⟩
      · rw [if_neg e] at hh
        obtain ⟨h1, h2⟩ := ih (k + 1) hh
        refine ⟨by omega, ?_⟩
        rw [show n - k = (n - (k + 1)) + 1 from by omega]
        simpa using h2
  simpa using (gen as 0 h).2
theorem argsA_0 : argsA [] = [] := rfl
theorem argsA_1 {a : AV} : argsA [a] = [(0, a)] := rfl
theorem argsA_2 {a b : AV} : argsA [a, b] = [(0, a), (1, b)] := rfl
theorem argsA_3 {a b c : AV} : argsA [a, b, c] = [(0, a), (1, b), (2, c)] := rfl
theorem argsA_4 {a b c d : AV} : argsA [a, b, c, d] = [(0, a), (1, b), (2, c), (3, d)] := rfl
theorem endM_n {P : Program} {rs : List ResultVar} {r : AV} {hp' : Heap} {ks : List Nat} {s : St} (h : resM P s rs = some r) (h2 : keepL s.hp ks = hp') : endM P rs r hp' ks .normal s := ⟨.inl rfl, h, h2⟩
theorem endM_r {P : Program} {rs : List ResultVar} {r : AV} {hp' : Heap} {ks : List Nat} {s : St} (h : resM P s rs = some r) (h2 : keepL s.hp ks = hp') : endM P rs r hp' ks .ret s := ⟨.inr rfl, h, h2⟩
def spM (X : Ctx) (N : Nat) (hp : Heap) (ν : Nat → Value) (n : Nat) (w : World) : Sp := ⟨X, N, ⟨Mut X.M0 (lk hp) ν, lk hp, ν, n, w⟩, none⟩
section
variable {P : Program}
theorem SoundM.run {g : FuncId} {fn : Func} {code : Code} {rs : List ResultVar} {as : List AV} {hp hp' : Heap} {r : AV} {n N : Nat} {ks : List Nat} {E : Env} (hf : P.funcs[g]? = some fn) (hb : fn.body = some code) (hn : (fn.name == "runtime.NumGoroutine") = false) (hrs : fn.results = rs.toArray) (hN : fn.ntmps = N) (hnt : Nat.ble as.length N = true) (hE : argsA as = E)
    (h : ∀ X ν w, WP P (spM X N hp ν n w) code ⟨E, hp, n⟩ (endM P rs r hp' ks)) : SoundM P g as hp r hp' n := by
  subst hE
  subst hN
  intro X ν w vs hI hl hv
  have hnt' := Nat.le_of_ble_eq_true hnt
  refine ⟨?_, ?_⟩
  · have hn' : ¬ fn.name = "runtime.NumGoroutine" := by simpa using hn
    simp [callFunc, hf, hn', hb]
  · refine callsIn_wide.1 (callsIn_of_wp_marks (F := Fence.wide) (n := 0) hf hb trivial ?_)
    have hE : EInv (X.at w.heap.size) fn.ntmps (argsA as) (lk hp) ν (· < n) { tmps := vs.toArray ++ Array.replicate (fn.ntmps - vs.toArray.size) undef, defers := [] } w := by
      refine ⟨hI.at _, fun m av hm => ?_, by simp; omega, Nat.le_refl _, trivial⟩
      have hd := lk_argsA hm
      have hlt := (List.getElem?_eq_some_iff.1 hd).1
      have hvn := List.getElem?_eq_getElem (l := vs) (i := m) (by omega)
      have := hv m av _ hd hvn
      have e : (vs.toArray ++ Array.replicate (fn.ntmps - vs.toArray.size) undef).getD m undef = vs[m]'(by omega) := by
        rw [Array.getD_eq_getD_getElem?, Array.getElem?_append_left (by simp; omega)]
        simp [hvn]
      simp only
      rw [e]
      exact this
    refine wpIn_mono (h (X.at w.heap.size) ν w _ w ⟨Nat.le_refl _, ν, hE, Ext.refl _ _ _ _ _⟩) ?_
    rintro e a' w' ⟨s', ⟨hle, ν', hI', hx⟩, he, hres, hkeep⟩
    have hbase : X.base ≤ w.heap.size := hI.below.size
    have key : LeavesInM Fence.wide 0 P fn a'.tmps (fun e w' => ∃ v ν' c, e = .returned v ∧ HInv X (lk hp') ν' (· < c) w' ∧
      Ext (Mut X.M0 (lk hp) ν) (lk hp) ν (· < n) w (Mut X.M0 (lk hp') ν') (lk hp') ν' (· < c) w' ∧ RepA w' (Mut X.M0 (lk hp') ν') (lk hp') ν' (· < c) r v) a'.defers .returning w' := by
      refine Marks.leave _ _ hI'.defers fun w2 hb => ?_
      have hI2 : EInv (X.at w.heap.size) fn.ntmps s'.E (lk s'.hp) ν' (· < s'.c) { tmps := a'.tmps, defers := [] } w2 :=
        ⟨hI'.heap.book hbase hb, fun n av hn => (hI'.env n av hn).book hb, hI'.size, by rw [hb.size]; exact hI'.defers.1, trivial⟩
      have hx := Ext.book hx hb
      clear hI' hb
      replace hI' := hI2
      clear hI2
      have hsub : ∀ q o, lk (keepL s'.hp ks) q = some o → lk s'.hp q = some o := fun q o h => lk_keepL h
      obtain ⟨i1, x1⟩ := hI'.heap.sub hsub
      rw [hkeep] at i1 x1
      have hval : ∃ v, (results fn a'.tmps).run P w2 = .ok v w2 ∧ RepA w2 (Mut X.M0 (lk s'.hp) ν') (lk s'.hp) ν' (· < s'.c) r v := by
        unfold resM at hres
        cases hxs : resAs P s' rs with
        | none => rw [hxs] at hres; cases hres
        | some xs =>
          obtain ⟨vs', h1, h2, h3⟩ := resAs_run hI' rs xs hxs
          refine ⟨_, results_run hrs h1, ?_⟩
          rw [hxs] at hres
          simp only at hres
          split at hres
          · cases hres
            match vs', h2 with
            | [v], _ => exact h3 0 _ v rfl rfl
          · rename_i hne
            cases hres
            have hv : oneOf vs' = Value.tuple vs'.toArray := by
              match vs', h2 with
              | [], _ => rfl
              | [v], h2 => cases xs with
                | nil => simp at h2
                | cons x xs =>
                  have : xs = [] := List.eq_nil_of_length_eq_zero (by simpa using h2)
                  subst this
                  exact absurd rfl (hne x)
              | _ :: _ :: _, _ => rfl
            rw [hv]
            exact .tup h2 h3
      obtain ⟨v, hr, hv⟩ := hval
      exact ⟨v, hr, v, ν', s'.c, rfl, i1.unat, hx.trans x1, hv.ext x1⟩
    rcases he with rfl | rfl
    · exact key
    · exact key

/-! ### Calls -/
def sg : List Nat → Nat → Nat → Nat
  | [], q, _ => q
  | j :: _, _, 0 => j
  | _ :: l, q, k + 1 => sg l q k
def dedup : List Nat → List Nat → List Nat
  | [], acc => acc
  | k :: l, acc => if acc.elem k then dedup l acc else dedup l (acc ++ [k])
def objKs (hp : Heap) : List Nat → List Nat
  | [] => []
  | k :: l => match lk hp k with | some o => o.ks ++ objKs hp l | none => objKs hp l
def reach (hp : Heap) : Nat → List Nat → List Nat
  | 0, ks => ks
  | n + 1, ks => reach hp n (dedup (objKs hp ks) ks)
def fresh (ks : List Nat) (hp' : Heap) : List Nat := (hp'.map (·.1)).filter fun k => !ks.elem k
theorem lk_of_mem {hpc : Heap} : ∀ {k : Nat} {o : HO}, (hpc.map (·.1)).Nodup → (k, o) ∈ hpc → lk hpc k = some o := by
  induction hpc with
  | nil => intro k o _ h; cases h
  | cons p l ih =>
    intro k o hn h
    obtain ⟨m, a⟩ := p
    simp only [List.map_cons, List.nodup_cons] at hn
    simp only [lk]
    rcases List.mem_cons.1 h with h | h
    · cases h; rw [if_pos rfl]
    · rw [if_neg (fun e => hn.1 (by rw [e]; exact List.mem_map_of_mem (f := (·.1)) h))]
      exact ih hn.2 h
theorem nodup_of_map {σ : Nat → Nat} : ∀ {l m : List Nat}, ((l ++ m).map σ).Nodup → l.Nodup
  | [], _, _ => by simp
  | x :: l, m, h => by
    simp only [List.cons_append, List.map_cons, List.nodup_cons] at h
    refine List.nodup_cons.2 ⟨fun hx => h.1 ?_, nodup_of_map h.2⟩
    exact List.mem_map.2 ⟨x, List.mem_append_left _ hx, rfl⟩
theorem Ev_cmg {ops : Array Oper} {c i q : Nat} {dst : Option Nat} {ty : TypeId} {pos : String} {after : Array Edge} {guard : Option (Nat × Bool)} {os : List Oper} {E E1 E' : Env} {hp hp1 hpE : Heap} {outs : List Out} {f : Operand} {args : List Operand} {ts : Array TypeId}
    {g : FuncId} {caps as as' : List AV} {l : List Nat} {hpc hp' : Heap} {r v : AV} {n : Nat} {es : List (Nat × Option HO)} {chg : List Nat} (hq : c + i = q) (hf : fnOf (opnd E f) = some (g, caps)) (hargs : args.map (opnd E) ++ caps = as') (hl : reach hp 2 (dedup (kss as') []) = l) (hs : SoundM P g as hpc r hp' n)
    (ha : as.map (AV.rn (sg l q)) = as') (hsub : hpc.map (fun p => lk hp (sg l q p.1)) = hpc.map (fun p => some (p.2.rn (sg l q)))) (hb : passB q n (sg l q) (hpc.map (·.1)) (fresh (hpc.map (·.1)) hp') as hpc r hp' = true) (hv : r.rn (sg l q) = v)
    (hcs : ∀ k ∈ chg, k ∈ hpc.map (·.1)) (hch : ∀ k ∈ hpc.map (·.1), k ∈ chg ∨ lk hp' k = lk hpc k)
    (hes : passE (sg l q) (chg ++ fresh (hpc.map (·.1)) hp') hp' = es) (hH : eff hp es = hp1) (hE : setE E dst v = E1) (hg : gd ops E guard = some true) (t : Ev P ops c (i + 1) os E1 hp1 outs E' hpE) :
    Ev P ops c i (⟨dst, .call ⟨.value f, args.toArray, ts⟩, ty, pos, after, guard⟩ :: os) E hp (⟨dst, v, es, (hpc.map (·.1)).map (sg l q)⟩ :: outs) E' hpE := by
  subst hq; subst hargs; subst hv; subst hes; subst hH; subst hE
  refine .cons (.callM hg rfl hf ha hs hb (fun k hk => ?_) hcs hch) t
  obtain ⟨⟨k', o⟩, hm, rfl⟩ := List.mem_map.1 hk
  have hnd : (hpc.map (·.1)).Nodup := by
    have hb' := hb
    simp only [passB, Bool.and_eq_true, decide_eq_true_eq] at hb'
    exact nodup_of_map hb'.1.1.1.1.1.2
  refine ⟨o, lk_of_mem hnd hm, ?_⟩
  obtain ⟨j, hj⟩ := List.mem_iff_getElem?.1 hm
  have := congrArg (fun l => l[j]?) hsub
  simp only [List.getElem?_map, hj, Option.map_some, Option.some.injEq] at this
  exact this
theorem Ev_cm {ops : Array Oper} {c i q : Nat} {dst : Option Nat} {ty : TypeId} {pos : String} {after : Array Edge} {guard : Option (Nat × Bool)} {os : List Oper} {E E1 E' : Env} {hp hp1 hpE : Heap} {outs : List Out} {f : Operand} {args : List Operand} {ts : Array TypeId}
    {g : FuncId} {caps as as' : List AV} {l : List Nat} {hpc hp' : Heap} {r v : AV} {n : Nat} {es : List (Nat × Option HO)} (hq : c + i = q) (hf : fnOf (opnd E f) = some (g, caps)) (hargs : args.map (opnd E) ++ caps = as') (hl : reach hp 2 (dedup (kss as') []) = l) (hs : SoundM P g as hpc r hp' n)
    (ha : as.map (AV.rn (sg l q)) = as') (hsub : hpc.map (fun p => lk hp (sg l q p.1)) = hpc.map (fun p => some (p.2.rn (sg l q)))) (hb : passB q n (sg l q) (hpc.map (·.1)) (fresh (hpc.map (·.1)) hp') as hpc r hp' = true) (hv : r.rn (sg l q) = v)
    (hes : passE (sg l q) (hpc.map (·.1) ++ fresh (hpc.map (·.1)) hp') hp' = es) (hH : eff hp es = hp1) (hE : setE E dst v = E1) (hg : gd ops E guard = some true) (t : Ev P ops c (i + 1) os E1 hp1 outs E' hpE) :
    Ev P ops c i (⟨dst, .call ⟨.value f, args.toArray, ts⟩, ty, pos, after, guard⟩ :: os) E hp (⟨dst, v, es, (hpc.map (·.1)).map (sg l q)⟩ :: outs) E' hpE :=
  Ev_cmg hq hf hargs hl hs ha hsub hb hv (fun _ h => h) (fun _ h => .inl h) hes hH hE hg t
theorem Ev_cmr {ops : Array Oper} {c i q : Nat} {dst : Option Nat} {ty : TypeId} {pos : String} {after : Array Edge} {guard : Option (Nat × Bool)} {os : List Oper} {E E1 E' : Env} {hp hp1 hpE : Heap} {outs : List Out} {f : Operand} {args : List Operand} {ts : Array TypeId}
    {g : FuncId} {caps as as' : List AV} {l : List Nat} {hpc hp' : Heap} {r v : AV} {n : Nat} {es : List (Nat × Option HO)} (hq : c + i = q) (hf : fnOf (opnd E f) = some (g, caps)) (hargs : args.map (opnd E) ++ caps = as') (hl : reach hp 2 (dedup (kss as') []) = l) (hs : SoundM P g as hpc r hp' n)
    (ha : as.map (AV.rn (sg l q)) = as') (hsub : hpc.map (fun p => lk hp (sg l q p.1)) = hpc.map (fun p => some (p.2.rn (sg l q)))) (hb : passB q n (sg l q) (hpc.map (·.1)) (fresh (hpc.map (·.1)) hp') as hpc r hp' = true) (hv : r.rn (sg l q) = v) (hun : hpc.map (fun p => lk hp' p.1) = hpc.map (fun p => some p.2))
    (hes : passE (sg l q) (fresh (hpc.map (·.1)) hp') hp' = es) (hH : eff hp es = hp1) (hE : setE E dst v = E1) (hg : gd ops E guard = some true) (t : Ev P ops c (i + 1) os E1 hp1 outs E' hpE) :
    Ev P ops c i (⟨dst, .call ⟨.value f, args.toArray, ts⟩, ty, pos, after, guard⟩ :: os) E hp (⟨dst, v, es, (hpc.map (·.1)).map (sg l q)⟩ :: outs) E' hpE := by
  have hnd : (hpc.map (·.1)).Nodup := by
    have hb' := hb
    simp only [passB, Bool.and_eq_true, decide_eq_true_eq] at hb'
    exact nodup_of_map hb'.1.1.1.1.1.2
  refine Ev_cmg (chg := []) hq hf hargs hl hs ha hsub hb hv (fun _ h => by cases h) (fun k hk => .inr ?_) hes hH hE hg t
  obtain ⟨⟨k', o⟩, hm, rfl⟩ := List.mem_map.1 hk
  rw [lk_of_mem hnd hm]
  obtain ⟨j, hj⟩ := List.mem_iff_getElem?.1 hm
  have := congrArg (fun l => l[j]?) hun
  simpa [hj] using this
theorem Ev_cmd {ops : Array Oper} {c i q : Nat} {d : Nat} {ty : TypeId} {pos : String} {after : Array Edge} {guard : Option (Nat × Bool)} {os : List Oper} {E E' : Env} {hp hp1 hpE : Heap} {outs : List Out} {f : Operand} {args : List Operand} {ts : Array TypeId}
    {g : FuncId} {caps as as' : List AV} {l : List Nat} {hpc hp' : Heap} {r v : AV} {n : Nat} {es : List (Nat × Option HO)} (hq : c + i = q) (hf : fnOf (opnd E f) = some (g, caps)) (hargs : args.map (opnd E) ++ caps = as') (hl : reach hp 2 (dedup (kss as') []) = l) (hs : SoundM P g as hpc r hp' n)
    (ha : as.map (AV.rn (sg l q)) = as') (hsub : hpc.map (fun p => lk hp (sg l q p.1)) = hpc.map (fun p => some (p.2.rn (sg l q)))) (hb : passB q n (sg l q) (hpc.map (·.1)) (fresh (hpc.map (·.1)) hp') as hpc r hp' = true) (hv : r.rn (sg l q) = v)
    (hes : passE (sg l q) (hpc.map (·.1) ++ fresh (hpc.map (·.1)) hp') hp' = es) (hH : eff hp es = hp1) (hg : gd ops E guard = some true) (t : Ev P ops c (i + 1) os ((d, v) :: E) hp1 outs E' hpE) :
    Ev P ops c i (⟨some d, .call ⟨.value f, args.toArray, ts⟩, ty, pos, after, guard⟩ :: os) E hp (⟨some d, v, es, (hpc.map (·.1)).map (sg l q)⟩ :: outs) E' hpE :=
  Ev_cm hq hf hargs hl hs ha hsub hb hv hes hH rfl hg t
theorem Ev_cmn {ops : Array Oper} {c i q : Nat} {ty : TypeId} {pos : String} {after : Array Edge} {guard : Option (Nat × Bool)} {os : List Oper} {E E' : Env} {hp hp1 hpE : Heap} {outs : List Out} {f : Operand} {args : List Operand} {ts : Array TypeId}
    {g : FuncId} {caps as as' : List AV} {l : List Nat} {hpc hp' : Heap} {r v : AV} {n : Nat} {es : List (Nat × Option HO)} (hq : c + i = q) (hf : fnOf (opnd E f) = some (g, caps)) (hargs : args.map (opnd E) ++ caps = as') (hl : reach hp 2 (dedup (kss as') []) = l) (hs : SoundM P g as hpc r hp' n)
    (ha : as.map (AV.rn (sg l q)) = as') (hsub : hpc.map (fun p => lk hp (sg l q p.1)) = hpc.map (fun p => some (p.2.rn (sg l q)))) (hb : passB q n (sg l q) (hpc.map (·.1)) (fresh (hpc.map (·.1)) hp') as hpc r hp' = true) (hv : r.rn (sg l q) = v)
    (hes : passE (sg l q) (hpc.map (·.1) ++ fresh (hpc.map (·.1)) hp') hp' = es) (hH : eff hp es = hp1) (hg : gd ops E guard = some true) (t : Ev P ops c (i + 1) os E hp1 outs E' hpE) :
    Ev P ops c i (⟨none, .call ⟨.value f, args.toArray, ts⟩, ty, pos, after, guard⟩ :: os) E hp (⟨none, v, es, (hpc.map (·.1)).map (sg l q)⟩ :: outs) E' hpE :=
  Ev_cm hq hf hargs hl hs ha hsub hb hv hes hH rfl hg t
theorem Ev_cmdr {ops : Array Oper} {c i q : Nat} {d : Nat} {ty : TypeId} {pos : String} {after : Array Edge} {guard : Option (Nat × Bool)} {os : List Oper} {E E' : Env} {hp hp1 hpE : Heap} {outs : List Out} {f : Operand} {args : List Operand} {ts : Array TypeId}
    {g : FuncId} {caps as as' : List AV} {l : List Nat} {hpc hp' : Heap} {r v : AV} {n : Nat} {es : List (Nat × Option HO)} (hq : c + i = q) (hf : fnOf (opnd E f) = some (g, caps)) (hargs : args.map (opnd E) ++ caps = as') (hl : reach hp 2 (dedup (kss as') []) = l) (hs : SoundM P g as hpc r hp' n)
    (ha : as.map (AV.rn (sg l q)) = as') (hsub : hpc.map (fun p => lk hp (sg l q p.1)) = hpc.map (fun p => some (p.2.rn (sg l q)))) (hb : passB q n (sg l q) (hpc.map (·.1)) (fresh (hpc.map (·.1)) hp') as hpc r hp' = true) (hv : r.rn (sg l q) = v) (hun : hpc.map (fun p => lk hp' p.1) = hpc.map (fun p => some p.2))
    (hes : passE (sg l q) (fresh (hpc.map (·.1)) hp') hp' = es) (hH : eff hp es = hp1) (hg : gd ops E guard = some true) (t : Ev P ops c (i + 1) os ((d, v) :: E) hp1 outs E' hpE) :
    Ev P ops c i (⟨some d, .call ⟨.value f, args.toArray, ts⟩, ty, pos, after, guard⟩ :: os) E hp (⟨some d, v, es, (hpc.map (·.1)).map (sg l q)⟩ :: outs) E' hpE :=
  Ev_cmr hq hf hargs hl hs ha hsub hb hv hun hes hH rfl hg t
theorem Ev_cmnr {ops : Array Oper} {c i q : Nat} {ty : TypeId} {pos : String} {after : Array Edge} {guard : Option (Nat × Bool)} {os : List Oper} {E E' : Env} {hp hp1 hpE : Heap} {outs : List Out} {f : Operand} {args : List Operand} {ts : Array TypeId}
    {g : FuncId} {caps as as' : List AV} {l : List Nat} {hpc hp' : Heap} {r v : AV} {n : Nat} {es : List (Nat × Option HO)} (hq : c + i = q) (hf : fnOf (opnd E f) = some (g, caps)) (hargs : args.map (opnd E) ++ caps = as') (hl : reach hp 2 (dedup (kss as') []) = l) (hs : SoundM P g as hpc r hp' n)
    (ha : as.map (AV.rn (sg l q)) = as') (hsub : hpc.map (fun p => lk hp (sg l q p.1)) = hpc.map (fun p => some (p.2.rn (sg l q)))) (hb : passB q n (sg l q) (hpc.map (·.1)) (fresh (hpc.map (·.1)) hp') as hpc r hp' = true) (hv : r.rn (sg l q) = v) (hun : hpc.map (fun p => lk hp' p.1) = hpc.map (fun p => some p.2))
    (hes : passE (sg l q) (fresh (hpc.map (·.1)) hp') hp' = es) (hH : eff hp es = hp1) (hg : gd ops E guard = some true) (t : Ev P ops c (i + 1) os E hp1 outs E' hpE) :
    Ev P ops c i (⟨none, .call ⟨.value f, args.toArray, ts⟩, ty, pos, after, guard⟩ :: os) E hp (⟨none, v, es, (hpc.map (·.1)).map (sg l q)⟩ :: outs) E' hpE :=
  Ev_cmr hq hf hargs hl hs ha hsub hb hv hun hes hH rfl hg t
end
end Go.Eng

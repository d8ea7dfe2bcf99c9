/- The engine, part 5: loads, stores, new memory. -/
import Derived.Test.YtlaekicahpplbabG4
set_option linter.unusedVariables false
set_option linter.unusedSimpArgs false
namespace Go.Eng
open Go.RowKit

def AV.comps : AV → List AV
  | .agg fs => fs
  | .d x => x.comps.map .d
  | .undef => [] | .tup _ => []
  | .own k n => [.own k n] | .clip s x => [.clip s x] | .ref k o => [.ref k o] | .eref k n i s o => [.eref k n i s o]
  | .dref f => [.dref f] | .fn f c => [.fn f c] | .map k => [.map k] | .it k => [.it k] | .vs k o n => [.vs k o n] | .yld k => [.yld k]
def AV.sto : AV → Bool
  | .undef | .tup _ => false
  | .d x => match x with | .tup _ => false | _ => true
  | _ => true
def allD : List AV → Option (List D)
  | [] => some []
  | a :: as => match a with
    | .d x => match allD as with | some xs => some (x :: xs) | none => none
    | _ => none
def pack (cs : List AV) : AV := match allD cs with | some ds => .d (.agg ds) | none => .agg cs
def splice {α : Type} (l : List α) (o : Nat) (xs : List α) : List α := l.take o ++ xs ++ l.drop (o + xs.length)

section
variable {P : Program} {w : World} {M : Nat → Prop} {H : Nat → Option HO} {ν : Nat → Value} {used : Nat → Prop}

theorem allD_map : ∀ (cs : List AV) (ds : List D), allD cs = some ds → cs = ds.map .d
  | [], ds, h => by simp [allD] at h; subst h; rfl
  | a :: as, ds, h => by
    cases a <;> simp only [allD] at h <;> try (cases h; done)
    split at h
    · rename_i xs hx
      simp at h
      subst h
      rw [allD_map as xs hx]
      rfl
    · cases h
theorem pack_rep {cs : List AV} {vs : List Value} (hl : cs.length = vs.length) (hc : ∀ c ∈ cs, c.cell = true) (h : ∀ (i : Nat) d v, cs[i]? = some d → vs[i]? = some v → RepA w M H ν used d v) : RepA w M H ν used (pack cs) (.agg vs.toArray) := by
  unfold pack
  split
  · rename_i ds hd
    have := allD_map cs ds hd
    subst this
    refine .d (.agg (by simpa using hl) (fun d hd => by have := hc (.d d) (List.mem_map.2 ⟨d, hd, rfl⟩); simpa [AV.cell] using this) fun i d v h1 h2 => ?_)
    have := h i (.d d) v (by simp [h1]) h2
    cases this with | d h => exact h
  · exact .agg hl hc h
theorem repD_comps {x : D} {v : Value} (h : RepD w M x v) (hs : (AV.d x).sto = true) : v.cells.toList.length = x.comps.length ∧ (∀ c ∈ x.comps, c.cell = true) ∧ ∀ (i : Nat) d u, x.comps[i]? = some d → v.cells.toList[i]? = some u → RepD w M d u := by
  cases h with
  | agg hl hc h => exact ⟨by simp [Value.cells, D.comps, hl], hc, by simpa [Value.cells, D.comps] using h⟩
  | tup hl h => simp [AV.sto] at hs
  | bool b => exact ⟨rfl, by simp [D.comps, D.cell], fun i d u h1 h2 => by cases i <;> simp [D.comps, Value.cells] at h1 h2; subst h1; subst h2; constructor⟩
  | int k n => exact ⟨rfl, by simp [D.comps, D.cell], fun i d u h1 h2 => by cases i <;> simp [D.comps, Value.cells] at h1 h2; subst h1; subst h2; constructor⟩
  | str s => exact ⟨rfl, by simp [D.comps, D.cell], fun i d u h1 h2 => by cases i <;> simp [D.comps, Value.cells] at h1 h2; subst h1; subst h2; constructor⟩
  | fn f => exact ⟨rfl, by simp [D.comps, D.cell], fun i d u h1 h2 => by cases i <;> simp [D.comps, Value.cells] at h1 h2; subst h1; subst h2; constructor⟩
  | nilf => exact ⟨rfl, by simp [D.comps, D.cell], fun i d u h1 h2 => by cases i <;> simp [D.comps, Value.cells] at h1 h2; subst h1; subst h2; constructor⟩
  | nils => exact ⟨rfl, by simp [D.comps, D.cell], fun i d u h1 h2 => by cases i <;> simp [D.comps, Value.cells] at h1 h2; subst h1; subst h2; constructor⟩
  | sl0 => exact ⟨rfl, by simp [D.comps, D.cell], fun i d u h1 h2 => by cases i <;> simp [D.comps, Value.cells] at h1 h2; subst h1; subst h2; constructor⟩
  | sl val hb hM hc hm hs' h1' h2' => exact ⟨rfl, by simp [D.comps, D.cell], fun i d u h1 h2 => by cases i <;> simp [D.comps, Value.cells] at h1 h2; subst h1; subst h2; exact .sl val hb hM hc hm hs' h1' h2'⟩
theorem cells_one {v : Value} (h : v.oneCell' = true) : v.cells.toList = [v] := by
  cases v <;> first | rfl | (simp [Value.oneCell'] at h)
theorem comps_rep {av : AV} {v : Value} (h : RepA w M H ν used av v) (hs : av.sto = true) : v.cells.toList.length = av.comps.length ∧ (∀ c ∈ av.comps, c.cell = true) ∧ ∀ (i : Nat) d u, av.comps[i]? = some d → v.cells.toList[i]? = some u → RepA w M H ν used d u := by
  have one : ∀ {a : AV}, RepA w M H ν used a v → a.cell = true → a.comps = [a] → v.cells.toList.length = a.comps.length ∧ (∀ c ∈ a.comps, c.cell = true) ∧ ∀ (i : Nat) d u, a.comps[i]? = some d → v.cells.toList[i]? = some u → RepA w M H ν used d u := by
    intro a h hc hcs
    rw [cells_one (h.oneCell hc), hcs]
    refine ⟨rfl, by simpa using hc, fun i d u h1 h2 => ?_⟩
    cases i <;> simp at h1 h2
    subst h1; subst h2; exact h
  cases av with
  | undef => simp [AV.sto] at hs
  | tup _ => simp [AV.sto] at hs
  | d x =>
    cases h with
    | d h =>
      obtain ⟨h1, h2, h3⟩ := repD_comps h hs
      refine ⟨by simpa [AV.comps] using h1, fun c hc => ?_, fun i d u hd hu => ?_⟩
      · simp [AV.comps] at hc
        obtain ⟨y, hy, rfl⟩ := hc
        exact h2 y hy
      · simp [AV.comps] at hd
        obtain ⟨y, hy, rfl⟩ := hd
        exact .d (h3 i y u hy (by simpa using hu))
  | agg fs =>
    cases h with
    | agg hl hc h => exact ⟨by simp [Value.cells, AV.comps, hl], hc, by simpa [Value.cells, AV.comps] using h⟩
  | own _ _ => exact one h rfl rfl
  | clip _ _ => exact one h rfl rfl
  | ref _ _ => exact one h rfl rfl
  | eref _ _ _ _ _ => exact one h rfl rfl
  | dref _ => exact one h rfl rfl
  | fn _ _ => exact one h rfl rfl
  | map _ => exact one h rfl rfl
  | it _ => exact one h rfl rfl
  | vs _ _ _ => exact one h rfl rfl
  | yld _ => exact one h rfl rfl

theorem splice_get {α : Type} (l : List α) (o : Nat) (xs : List α) (h : o + xs.length ≤ l.length) (j : Nat) : (splice l o xs)[j]? = if o ≤ j ∧ j < o + xs.length then xs[j - o]? else l[j]? := by
  unfold splice
  have h1 : (l.take o).length = o := by simp; omega
  by_cases hj : j < o
  · rw [List.append_assoc, List.getElem?_append_left (by omega), List.getElem?_take, if_pos hj, if_neg (by omega)]
  · rw [List.append_assoc, List.getElem?_append_right (by omega), h1]
    by_cases hk : j < o + xs.length
    · rw [List.getElem?_append_left (by omega), if_pos ⟨by omega, hk⟩]
    · rw [List.getElem?_append_right (by omega), if_neg (by omega), List.getElem?_drop]
      congr 1
      omega
theorem splice_length {α : Type} (l : List α) (o : Nat) (xs : List α) (h : o + xs.length ≤ l.length) : (splice l o xs).length = l.length := by
  unfold splice
  simp
  omega

theorem range_map_get {α : Type} {n j : Nat} {f : Nat → α} {v : α} (h : ((List.range n).map f)[j]? = some v) : j < n ∧ f j = v := by
  rw [List.getElem?_map] at h
  by_cases hj : j < n
  · rw [List.getElem?_range hj] at h
    simp at h
    exact ⟨hj, h⟩
  · rw [List.getElem?_eq_none (by simpa using hj)] at h
    simp at h

/-! ### Loads -/
theorem run_loadAgg {t n : Nat} (ha : aggT P t = some true) (hn : szT P t = some n) (a : Addr) (vs : List Value) (hl : vs.length = n) (h : ∀ (j : Nat) v, vs[j]? = some v → w.cell? (a.add j) = some v) :
    (Instr.loadAt t (.pointer (some a))).run P w = .ok (.agg vs.toArray) w := by
  subst hl
  simp [Instr.loadAt, Instr.sureAddr, loadVar, run_isAgg ha, run_sizeOf' hn, run_loadCells_list w a vs h]
theorem run_loadOne {t : Nat} (ha : aggT P t = some false) (a : Addr) (v : Value) (h : w.cell? a = some v) : (Instr.loadAt t (.pointer (some a))).run P w = .ok v w := by
  simp [Instr.loadAt, Instr.sureAddr, loadVar, run_isAgg ha, h]
theorem add_add' (a : Addr) (m n : Nat) : (a.add m).add n = a.add (m + n) := by
  unfold Addr.add
  by_cases hm : m = 0 <;> by_cases hn : n = 0 <;> simp_all <;> omega

def ldD (P : Program) (t : TypeId) (fs : List D) : Option D :=
  match aggT P t with
  | some true => match szT P t with
    | some n => if n ≤ fs.length then some (.agg (fs.take n)) else none
    | none => none
  | some false => match fs with
    | x :: _ => some x
    | [] => none
  | none => none
def ldA (P : Program) (t : TypeId) (cs : List AV) : Option AV :=
  match aggT P t with
  | some true => match szT P t with
    | some n => if n ≤ cs.length then some (pack (cs.take n)) else none
    | none => none
  | some false => match cs with
    | x :: _ => some x
    | [] => none
  | none => none
def evLoad (P : Program) (H : Nat → Option HO) (t : TypeId) (a : AV) : Option (AV × List Nat) :=
  match a with
  | .dref fs => match ldD P t fs with | some x => some (.d x, []) | none => none
  | .ref k off => match H k with
    | some (.var cs) => match ldA P t (cs.drop off) with | some x => some (x, [k]) | none => none
    | _ => none
  | .eref k n i sz off => match H k with
    | some (.row _ sz' xs) => if n = xs.length ∧ sz' = sz then
        match xs[i]? with
        | some x => match ldD P t (x.comps.drop off) with | some y => some (.d y, [k]) | none => none
        | none => none
      else none
    | _ => none
  | _ => none
theorem ldD_sound {t : Nat} {fs : List D} {x : D} (h : ldD P t fs = some x) (a : Addr) (val : Nat → Value) (hc : ∀ d ∈ fs, d.cell = true) (h1 : ∀ (j : Nat) d, fs[j]? = some d → w.cell? (a.add j) = some (val j)) (h2 : ∀ (j : Nat) d, fs[j]? = some d → RepD w M d (val j)) :
    ∃ v, (Instr.loadAt t (.pointer (some a))).run P w = .ok v w ∧ RepD w M x v := by
  unfold ldD at h
  split at h
  · rename_i ha
    split at h
    · rename_i n hn
      split at h
      · rename_i hle
        simp at h
        subst h
        refine ⟨_, run_loadAgg ha hn a ((List.range n).map val) (by simp) (fun j v hv => ?_), .agg (by simp; omega) (fun d hd => hc d (List.mem_of_mem_take hd)) fun j d v hd hv => ?_⟩
        · obtain ⟨hj, rfl⟩ := range_map_get hv
          exact h1 j (fs[j]'(by omega)) (List.getElem?_eq_getElem (by omega))
        · obtain ⟨hj, rfl⟩ := range_map_get hv
          rw [List.getElem?_take, if_pos hj] at hd
          exact h2 j d hd
      · cases h
    · cases h
  · rename_i ha
    split at h
    · rename_i y ys
      simp at h
      subst h
      have := h1 0 y rfl
      rw [Addr.add_zero'] at this
      exact ⟨_, run_loadOne ha a _ this, h2 0 y rfl⟩
    · cases h
  · cases h
theorem ldA_sound {t : Nat} {cs : List AV} {x : AV} (h : ldA P t cs = some x) (a : Addr) (vs : List Value) (hl : cs.length = vs.length) (hc : ∀ c ∈ cs, c.cell = true) (h1 : ∀ (j : Nat) v, vs[j]? = some v → w.cell? (a.add j) = some v) (h2 : ∀ (j : Nat) d v, cs[j]? = some d → vs[j]? = some v → RepA w M H ν used d v) :
    ∃ v, (Instr.loadAt t (.pointer (some a))).run P w = .ok v w ∧ RepA w M H ν used x v := by
  unfold ldA at h
  split at h
  · rename_i ha
    split at h
    · rename_i n hn
      split at h
      · rename_i hle
        simp at h
        subst h
        refine ⟨_, run_loadAgg ha hn a (vs.take n) (by simp; omega) (fun j v hv => ?_), pack_rep (by simp; omega) (fun d hd => hc d (List.mem_of_mem_take hd)) fun j d v hd hv => ?_⟩
        · rw [List.getElem?_take] at hv
          split at hv
          · exact h1 j v hv
          · cases hv
        · rw [List.getElem?_take] at hd hv
          split at hd
          · rename_i hj
            rw [if_pos hj] at hv
            exact h2 j d v hd hv
          · cases hd
      · cases h
    · cases h
  · rename_i ha
    split at h
    · rename_i y ys
      simp at h
      subst h
      cases vs with
      | nil => simp at hl
      | cons v vs =>
        have := h1 0 v rfl
        rw [Addr.add_zero'] at this
        exact ⟨_, run_loadOne ha a _ this, h2 0 y v rfl rfl⟩
    · cases h
  · cases h
theorem evLoad_sound {X : Ctx} (hI : HInv X H ν used w) {t : Nat} {a : AV} {v : Value} {r : AV} {acc : List Nat} (h : RepA w (Mut X.M0 H ν) H ν used a v) (he : evLoad P H t a = some (r, acc)) :
    ∃ u, (Instr.loadAt t v).run P w = .ok u w ∧ RepA w (Mut X.M0 H ν) H ν used r u := by
  unfold evLoad at he
  split at he
  · rename_i fs
    split at he
    · rename_i x hx
      simp at he
      obtain ⟨rfl, rfl⟩ := he
      cases h with
      | dref val hb hM hc h1 h2 =>
        obtain ⟨u, hr, hu⟩ := ldD_sound hx _ val hc h1 h2
        exact ⟨u, hr, .d hu⟩
    · cases he
  · rename_i k off
    split at he
    · rename_i cs ho
      split at he
      · rename_i x hx
        simp at he
        obtain ⟨rfl, rfl⟩ := he
        cases h with
        | ref hu h =>
          obtain ⟨cs', b, he, hν, rfl⟩ := h _ ho
          cases he
          obtain ⟨b', cells, e, hv, hg, hl, hc, hr⟩ := hI.obj _ _ ho
          rw [hν] at hv
          cases hv
          refine ldA_sound hx _ (cells.toList.drop off) (by simp [hl]) (fun c h => hc c (List.mem_of_mem_drop h)) (fun j v hj => ?_) (fun j d v hd hv => ?_)
          · simp at hj
            rw [Addr.add_lit]
            simp [World.cell?, hg, hj]
          · simp at hd hv
            exact hr _ d v hd (by simpa using hv)
      · cases he
    · cases he
  · rename_i k n i sz off
    split at he
    · rename_i e sz' xs ho
      split at he
      · rename_i hn
        obtain ⟨hn, rfl⟩ := hn
        split at he
        · rename_i x hx
          split at he
          · rename_i y hy
            simp at he
            obtain ⟨rfl, rfl⟩ := he
            cases h with
            | eref hu hi hoff h =>
              obtain ⟨_, _, _, he, _, hv⟩ := h _ ho
              cases he
              obtain ⟨g, c, hν, rfl⟩ := hv hn
              obtain ⟨vals, hown, hz, hf, hr⟩ := hI.obj _ _ ho
              have hob : (ν k).ownBlock = some g := by rw [hν]; rfl
              have hfx := hf x (List.mem_of_getElem? hx)
              obtain ⟨u, hr, hu⟩ := ldD_sound (w := w) (M := Mut X.M0 H ν) hy ⟨g, i * sz' + off, none⟩ (fun j => vals.getD (i * sz' + (off + j)) undef) (fun d hd => hfx.2 d (List.mem_of_mem_drop hd))
                (fun j d hd => by
                  simp at hd
                  obtain ⟨u, hu, _⟩ := hr i x (off + j) d hx hd
                  have := hown.cells hob _ _ hu
                  rw [Addr.add_lit] at this ⊢
                  rw [show i * sz' + off + j = 0 + (i * sz' + (off + j)) from by omega, this]
                  simp [List.getD_eq_getElem?_getD, hu])
                (fun j d hd => by
                  simp at hd
                  obtain ⟨u, hu, hru⟩ := hr i x (off + j) d hx hd
                  simpa [List.getD_eq_getElem?_getD, hu] using hru)
              exact ⟨u, hr, .d hu⟩
          · cases he
        · cases he
      · cases he
    · cases he
  · cases he
end
end Go.Eng

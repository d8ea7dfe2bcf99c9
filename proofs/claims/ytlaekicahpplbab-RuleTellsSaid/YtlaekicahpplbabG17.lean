/- The engine, part 17: exits, loops, numbers. -/
import Derived.Test.YtlaekicahpplbabG16
import Derived.Laws.Externs
import Derived.Scope
set_option linter.unusedVariables false
set_option linter.unusedSimpArgs false
namespace Go.Eng
open Go.RowKit

section
variable {P : Program} {S : Sp} {s : St} {Q : Exit → St → Prop} {K : St → Prop}
theorem then_r (h : Q .ret s) : thenQ K Q .ret s := h
theorem then_x {i : Nat} (h : Q (.exit i) s) : thenQ K Q (.exit i) s := h
theorem block_n {i : Nat} (h : Q .normal s) : blockQ i Q .normal s := h
theorem block_r {i : Nat} (h : Q .ret s) : blockQ i Q .ret s := h
theorem block_x {i : Nat} (h : Q .normal s) : blockQ i Q (.exit i) s := by simp [blockQ, h]
theorem block_y {i j : Nat} (hne : (j == i) = false) (h : Q (.exit j) s) : blockQ i Q (.exit j) s := by
  have : ¬ j = i := by simpa using hne
  simp [blockQ, this, h]
theorem WP_t {c : Operand} {x y : Code} (hc : opnd s.E c = .d (.bool true)) (h : WP P S x s Q) : WP P S (.cond c x y) s Q := WP_cond hc h
theorem WP_f {c : Operand} {x y : Code} (hc : opnd s.E c = .d (.bool false)) (h : WP P S y s Q) : WP P S (.cond c x y) s Q := WP_cond hc (by simpa using h)
theorem stepR_scope {b : Frame} {a : Act} {k : List Item} {cs : List Frame} {w : World} {c : Code} : step P (lone (b.atR a (.code (.scope c) :: k)) cs w) = .next (lone (b.atR a (.code c :: .inScope c :: k)) cs w) :=
  step_lone_go (by simp [stepG, stepG.exec, Frame.atR])
theorem stepR_inScope {b : Frame} {a : Act} {k : List Item} {cs : List Frame} {w : World} {c : Code} : step P (lone (b.atR a (.inScope c :: k)) cs w) = .next (lone (b.atR a k) cs w) :=
  step_lone_go (by simp [stepG, stepG.exec, Frame.atR])
theorem wpIn_scope_straight {F : Fence} {n : Nat} {c : Code} {a : Act} {w : World} {Q : Exit → Act → World → Prop} (h : c.wpIn F n P (Exit.noGoto Q) a w) : (Code.scope c).wpIn F n P Q a w := by
  intro b k cs hro hb hr
  have h0 : (lone (b.atR a (.code (.scope c) :: k)) cs w).fenced P F := fenced_calm hb hr rfl
  obtain ⟨e, a₁, w₁, hq, harr⟩ := h b (.inScope c :: k) cs hro hb hr
  cases e with
  | normal => exact ⟨.normal, a₁, w₁, hq, .head h0 stepR_scope (StepsIn.trans harr (.one (fenced_calm hb hr rfl) stepR_inScope))⟩
  | exit id =>
    have hx : exitTo id (.inScope c :: k) = exitTo id k := by simp [exitTo]
    exact ⟨.exit id, a₁, w₁, hq, fun k' hk => .head h0 stepR_scope (harr.1 k' (by rw [hx]; exact hk)), fun hr' hk => let ⟨k₁, h1, h2⟩ := harr.2 hr' (by rw [hx]; exact hk); ⟨k₁, h1, .head h0 stepR_scope h2⟩⟩
  | goto l => exact hq.elim
  | ret => exact ⟨_, a₁, w₁, hq, .of_steps (.one h0 stepR_scope) harr⟩
  | panic ch => exact ⟨_, a₁, w₁, hq, .of_steps (.one h0 stepR_scope) harr⟩
  | outgrown => exact ⟨_, a₁, w₁, hq, .of_steps (.one h0 stepR_scope) harr⟩
def scopeQ (Q : Exit → St → Prop) : Exit → St → Prop
  | .goto _, _ => False
  | e, s => Q e s
theorem WP_scope {x : Code} (h : WP P S x s (scopeQ Q)) : WP P S (.scope x) s Q := fun a w hr =>
  wpIn_scope_straight (wpIn_mono (h a w hr) fun e a' w' ⟨s', h1, h2⟩ => by cases e <;> first | exact h2.elim | exact ⟨s', h1, h2⟩)
theorem scope_n (h : Q .normal s) : scopeQ Q .normal s := h
theorem scope_r (h : Q .ret s) : scopeQ Q .ret s := h
theorem scope_x {i : Nat} (h : Q (.exit i) s) : scopeQ Q (.exit i) s := h
/-- What a frame ends with. -/
def endQ (P : Program) (rs : List ResultVar) (r : D) : Exit → St → Prop := fun e s => (e = .normal ∨ e = .ret) ∧ resD P s rs = some r
theorem end_n {rs : List ResultVar} {r : D} (h : resD P s rs = some r) : endQ P rs r .normal s := ⟨.inl rfl, h⟩
theorem end_r {rs : List ResultVar} {r : D} (h : resD P s rs = some r) : endQ P rs r .ret s := ⟨.inr rfl, h⟩
theorem resD_t {t : Nat} {E : Env} {hp : Heap} {c : Nat} {av : AV} {d : D} {ks : List Nat} (h : opnd E (.tmp t) = av) (h2 : toD (lk hp) av = some (d, ks)) : resD P ⟨E, hp, c⟩ [.tmp t] = some d := by
  subst h
  simp [resD, resAs, resA, h2]
/-- A loop that is left in its first round. -/
theorem WP_once {body : Code} (h : WP P S body s (thenQ (fun _ => False) Q)) : WP P S (.loop body) s Q :=
  WP_loop (α := Unit) (fun _ => s) (fun _ => 0) () rfl fun _ => WP_conseq h fun e s' hq => by cases e <;> first | exact hq.elim | exact hq
/-- A loop with an invariant; slots that are not of its form are forgotten at each round's end. -/
theorem WP_loopk {α : Type} (I : α → Prop) (stE : α → Env) (stH : α → Heap) (c0 : Nat) (μ : α → Nat) (ns ks : List Nat) (x0 : α) (hI : I x0) {E : Env} {hp : Heap} {c : Nat} (hE : stE x0 = keepL E ns) (hH : stH x0 = keepL hp ks) (hc : S.R.c ≤ c0)
    (hbE : ∀ x, I x → envBelow c0 (stE x) = true) (hbH : ∀ x, I x → heapBelow c0 (stH x) = true) {body : Code}
    (round : ∀ x, I x → WP P S body ⟨stE x, stH x, c0⟩ (thenQ (fun s' => ∃ y, I y ∧ stE y = keepL s'.E ns ∧ stH y = keepL s'.hp ks ∧ μ y < μ x) Q)) : WP P S (.loop body) ⟨E, hp, c⟩ Q := by
  refine WP_keep ns ks c0 hc (hE ▸ hbE x0 hI) (hH ▸ hbH x0 hI) ?_
  refine WP_loop (α := {x // I x}) (fun x => ⟨stE x.1, stH x.1, c0⟩) (fun x => μ x.1) ⟨x0, hI⟩ (by rw [hE, hH]) fun ⟨x, hx⟩ => ?_
  intro a w hr
  refine wpIn_mono (round x hx a w hr) ?_
  rintro e a' w' ⟨s', h1, h2⟩
  cases e with
  | normal =>
    obtain ⟨y, hy, e1, e2, h3⟩ := h2
    have := h1.keep ns ks c0 hc (e1 ▸ hbE y hy) (e2 ▸ hbH y hy)
    rw [← e1, ← e2] at this
    exact ⟨_, this, ⟨y, hy⟩, rfl, h3⟩
  | _ => exact ⟨s', h1, h2⟩
end

/-- A number of 64 bits. -/
def U (z : Int) : Prop := 0 ≤ z ∧ z ≤ 18446744073709551615
theorem u64_and32 {a : Int} (h0 : 0 ≤ a) (h1 : a ≤ 18446744073709551615) : IntKind.u64.wrap ((BitVec.ofInt IntKind.u64.bits a &&& BitVec.ofInt IntKind.u64.bits 4294967295).toNat : Int) = a % 4294967296 := by
  obtain ⟨n, rfl⟩ := Int.eq_ofNat_of_zero_le h0
  have e : (BitVec.ofInt IntKind.u64.bits (n : Int) &&& BitVec.ofInt IntKind.u64.bits 4294967295).toNat = n % 4294967296 := by
    show (BitVec.ofInt 64 (n : Int) &&& BitVec.ofInt 64 4294967295).toNat = n % 4294967296
    rw [BitVec.toNat_and]
    have e1 : (BitVec.ofInt 64 (n : Int)).toNat = n := by
      simp [BitVec.toNat_ofInt]; omega
    have e2 : (BitVec.ofInt 64 4294967295).toNat = 2 ^ 32 - 1 := by decide
    rw [e1, e2, Nat.and_two_pow_sub_one_eq_mod]
  rw [e, wrap_u64] <;> omega
theorem shr32 {a : Int} : a.fdiv (2 ^ min 32 IntKind.u64.bits) = a / 4294967296 := by
  show a.fdiv 4294967296 = _
  rw [Int.fdiv_eq_ediv_of_nonneg _ (by decide)]
theorem beq_refl' {a : Int} : (a == a) = true := beq_self_eq_true a
theorem args0_0 : args0 [] = [] := rfl
theorem args0_1 {a : D} : args0 [a] = [(0, .d a)] := rfl
theorem args0_2 {a b : D} : args0 [a, b] = [(0, .d a), (1, .d b)] := rfl
theorem args0_3 {a b c : D} : args0 [a, b, c] = [(0, .d a), (1, .d b), (2, .d c)] := rfl
theorem args0_4 {a b c d : D} : args0 [a, b, c, d] = [(0, .d a), (1, .d b), (2, .d c), (3, .d d)] := rfl
/-- A function whose code answers so (the form of proofs by evaluation). -/
theorem Sound.run {P : Program} {g : FuncId} {fn : Func} {code : Code} {rs : List ResultVar} {ds : List D} {r : D} {N : Nat} {E : Env} (hf : P.funcs[g]? = some fn) (hb : fn.body = some code) (hn : (fn.name == "runtime.NumGoroutine") = false) (hrs : fn.results = rs.toArray) (hN : fn.ntmps = N) (hnt : Nat.ble ds.length N = true) (hE : args0 ds = E)
    (h : ∀ X w, WP P (sp0 X N w) code ⟨E, [], 0⟩ (endQ P rs r)) : Sound P g ds r := by
  subst hE
  subst hN
  exact Sound.of hf hb hn hrs (Nat.le_of_ble_eq_true hnt) h
/-- A function without a body, run by the model. -/
theorem Sound.ext {P : Program} {g : FuncId} {fn : Func} {e : Array Value → Sem Value} {ds : List D} {r : D} (hf : P.funcs[g]? = some fn) (hname : (fn.name == "runtime.NumGoroutine") = false)
    (hb : fn.body.isNone = true) (hn : Extern.findNext fn = none) (he : Extern.find fn = some e)
    (h : ∀ (w : World) (M : Nat → Prop) (vs : List Value), ds.length = vs.length → (∀ (i : Nat) d v, ds[i]? = some d → vs[i]? = some v → RepD w M d v) → ∃ v, (e vs.toArray).run P w = .ok v w ∧ RepD w M r v) : Sound P g ds r := by
  intro w M vs hM hl hv
  obtain ⟨v, h1, h2⟩ := h w M vs hl hv
  refine .inl ⟨v, w, ?_, h2, Bl.refl _ _⟩
  rw [run_callFunc_extern hf hname hb hn he, h1]
  rfl
theorem resD_2 {P : Program} {t t' : Nat} {E : Env} {hp : Heap} {c : Nat} {av av' : AV} {ds : List D} {ks : List Nat} (h : opnd E (.tmp t) = av) (h' : opnd E (.tmp t') = av') (h2 : toDs (lk hp) [av, av'] = some (ds, ks)) : resD P ⟨E, hp, c⟩ [.tmp t, .tmp t'] = some (.tup ds) := by
  subst h; subst h'
  simp [resD, resAs, resA, h2]
theorem wrap_u64m {z : Int} : IntKind.u64.wrap z = z % 18446744073709551616 := by
  simp only [IntKind.wrap, IntKind.bits, IntKind.signed]
  simp
theorem tdiv_nn {a b : Int} (h : 0 ≤ a) : a.tdiv b = a / b := Int.tdiv_eq_ediv_of_nonneg h
theorem tmod_nn {a b : Int} (h : 0 ≤ a) : a.tmod b = a % b := Int.tmod_eq_emod_of_nonneg h
theorem U_get {l : List Int} (h : ∀ z ∈ l, U z) {k : Nat} : U (l[k]!) := by
  by_cases hk : k < l.length
  · rw [getElem!_pos l k hk]; exact h _ (List.getElem_mem hk)
  · rw [getElem!_neg l k hk]; exact ⟨by decide, by decide⟩
theorem U_app {l l' : List Int} (h : ∀ z ∈ l, U z) (h' : ∀ z ∈ l', U z) : ∀ z ∈ l ++ l', U z := fun z hz => by
  rcases List.mem_append.1 hz with hz | hz
  · exact h z hz
  · exact h' z hz
/-- Costs, as a slice's elements. -/
def us (l : List Int) : List D := l.map fun z => D.int .u64 z
theorem us_len {l : List Int} : (us l).length = l.length := by simp [us]
theorem us_get {l : List Int} {k : Nat} (h : k < l.length) : (us l)[k]? = some (D.int .u64 (l[k]!)) := by
  simp [us, List.getElem?_eq_getElem h, getElem!_pos l k h]
theorem us_snoc {l : List Int} {z : Int} : us l ++ [D.int .u64 z] = us (l ++ [z]) := by simp [us]
theorem us_app {l l' : List Int} : us l ++ us l' = us (l ++ l') := by simp [us]
theorem if_min {a b : Int} : (if b < a then b else a) = min a b := by split <;> omega
theorem ends2 {k k' : IntKind} {x x' y y' : Int} {ks : List Nat} (h1 : x = x') (h2 : y = y') : some ([D.int k x, D.int k' y], ks) = some ([D.int k x', D.int k' y'], ks) := by subst h1; subst h2; rfl
/-- A slice of costs, nil or not. -/
def Us (d : D) (l : List Int) : Prop := (d = .sl 1 (us l) ∨ d = .nils ∧ l = []) ∧ (∀ z ∈ l, U z) ∧ l.length ≤ 9223372036854775807
def gdE (E : Env) (t : Nat) (want : Bool) : Option Bool :=
  match lk E t with
  | some a => match a with
    | .d x => match x with | .bool b => some (b == want) | _ => none
    | .tup _ => some false
    | _ => none
  | none => none
theorem gd_n {ops : Array Oper} {E : Env} : gd ops E none = some true := rfl
theorem gd_s {ops : Array Oper} {E : Env} {j t : Nat} {want : Bool} {r : Option Bool} (h1 : gslot ops j = some t) (h2 : gdE E t want = r) : gd ops E (some (j, want)) = r := by
  subst h2
  simp only [gd, gdE, h1]
  rfl
theorem gdE_d {E : Env} {t : Nat} {want b : Bool} (h : lk E t = some (.d (.bool b))) : gdE E t want = some (b == want) := by simp [gdE, h]
theorem bb_tf : (true == false) = false := rfl
theorem bb_ft : (false == true) = false := rfl
theorem arrL {α : Type} {l : List α} : l.toArray.toList = l := rfl
def mapP (ρ : Operand → AV) : List (Nat × Operand) → List (Nat × AV)
  | [] => []
  | p :: l => (p.1, ρ p.2) :: mapP ρ l
theorem map_P {ρ : Operand → AV} {l : List (Nat × Operand)} : (l.map fun p => (p.1, ρ p.2)) = mapP ρ l := by
  induction l with
  | nil => rfl
  | cons p l ih => simp [mapP, ih]
theorem le_n {a b : Nat} (h : a ≤ b) : (a ≤ b) = True := eq_true h
theorem lt_n {a b : Nat} (h : a < b) : (a < b) = True := eq_true h
theorem le_i {a b : Int} (h : a ≤ b) : (a ≤ b) = True := eq_true h
theorem lt_i {a b : Int} (h : a < b) : (a < b) = True := eq_true h
theorem len0 : ((0 : Nat) : Int) = 0 := rfl
theorem eq_n {a b : Nat} (h : a = b) : (a = b) = True := eq_true h

/-! ### One operation at a time -/
section
variable {P : Program} {ops : Array Oper} {c i q d : Nat} {ty : TypeId} {pos : String} {after : Array Edge} {guard : Option (Nat × Bool)} {os : List Oper} {E E1 E' : Env} {hp hp1 hp' : Heap} {outs : List Out} {v : AV}
theorem gd_t {j t : Nat} {want : Bool} (h1 : gslot ops j = some t) (h2 : lk E t = some (.d (.bool want))) : gd ops E (some (j, want)) = some true := gd_s h1 (by simp [gdE, h2])
theorem gd_f {j t : Nat} {want b : Bool} (h1 : gslot ops j = some t) (h2 : lk E t = some (.d (.bool b))) (h3 : (b == want) = false) : gd ops E (some (j, want)) = some false := gd_s h1 (by simp [gdE, h2, h3])
theorem gd_u {j t : Nat} {want : Bool} {vs : List AV} (h1 : gslot ops j = some t) (h2 : lk E t = some (.tup vs)) : gd ops E (some (j, want)) = some false := gd_s h1 (by simp [gdE, h2])
theorem Ev_d {o : Op} {acc : List Nat} (hq : c + i = q) (he : evOp P q (opnd E) (lk hp) o = some (v, [], acc)) (hg : gd ops E guard = some true) (t : Ev P ops c (i + 1) os ((d, v) :: E) hp outs E' hp') :
    Ev P ops c i (⟨some d, o, ty, pos, after, guard⟩ :: os) E hp (⟨some d, v, [], acc⟩ :: outs) E' hp' := by
  subst hq
  exact .cons (.op hg he) t
theorem Ev_mv {x : Nat} (hg : gd ops E guard = some true) (hl : lk E x = some v) (t : Ev P ops c (i + 1) os ((d, v) :: E) hp outs E' hp') :
    Ev P ops c i (⟨some d, .move (.tmp x), ty, pos, after, guard⟩ :: os) E hp (⟨some d, v, [], []⟩ :: outs) E' hp' :=
  Ev_d rfl (by simp [evOp, opnd, hl]) hg t
theorem Ev_as {x : Nat} (hg : gd ops E guard = some true) (hl : lk E x = some v) (t : Ev P ops c (i + 1) os ((d, v) :: E) hp outs E' hp') :
    Ev P ops c i (⟨some d, .assign (.tmp x), ty, pos, after, guard⟩ :: os) E hp (⟨some d, v, [], []⟩ :: outs) E' hp' :=
  Ev_d rfl (by simp [evOp, opnd, hl]) hg t
theorem Ev_mc {x : Value} {y : D} (hg : gd ops E guard = some true) (hl : v2d x = some y) (t : Ev P ops c (i + 1) os ((d, .d y) :: E) hp outs E' hp') :
    Ev P ops c i (⟨some d, .move (.const x), ty, pos, after, guard⟩ :: os) E hp (⟨some d, .d y, [], []⟩ :: outs) E' hp' :=
  Ev_d rfl (by simp [evOp, opnd, hl]) hg t
theorem Ev_ac {x : Value} {y : D} (hg : gd ops E guard = some true) (hl : v2d x = some y) (t : Ev P ops c (i + 1) os ((d, .d y) :: E) hp outs E' hp') :
    Ev P ops c i (⟨some d, .assign (.const x), ty, pos, after, guard⟩ :: os) E hp (⟨some d, .d y, [], []⟩ :: outs) E' hp' :=
  Ev_d rfl (by simp [evOp, opnd, hl]) hg t
theorem Ev_pt {x z : Nat} {y : Operand} (hx : lk E x = some (.d (.bool true))) (hg : gd ops E guard = some true) (hl : lk E z = some v) (t : Ev P ops c (i + 1) os ((d, v) :: E) hp outs E' hp') :
    Ev P ops c i (⟨some d, .pick (.tmp x) (.tmp z) y, ty, pos, after, guard⟩ :: os) E hp (⟨some d, v, [], []⟩ :: outs) E' hp' :=
  Ev_d rfl (by simp [evOp, opnd, hl, hx]) hg t
theorem Ev_pf {x z : Nat} {y : Operand} (hx : lk E x = some (.d (.bool false))) (hg : gd ops E guard = some true) (hl : lk E z = some v) (t : Ev P ops c (i + 1) os ((d, v) :: E) hp outs E' hp') :
    Ev P ops c i (⟨some d, .pick (.tmp x) y (.tmp z), ty, pos, after, guard⟩ :: os) E hp (⟨some d, v, [], []⟩ :: outs) E' hp' :=
  Ev_d rfl (by simp [evOp, opnd, hl, hx]) hg t
theorem Ev_ptc {x : Nat} {z : Value} {u : D} {y : Operand} (hx : lk E x = some (.d (.bool true))) (hg : gd ops E guard = some true) (hl : v2d z = some u) (t : Ev P ops c (i + 1) os ((d, .d u) :: E) hp outs E' hp') :
    Ev P ops c i (⟨some d, .pick (.tmp x) (.const z) y, ty, pos, after, guard⟩ :: os) E hp (⟨some d, .d u, [], []⟩ :: outs) E' hp' :=
  Ev_d rfl (by simp [evOp, opnd, hl, hx]) hg t
theorem Ev_pfc {x : Nat} {z : Value} {u : D} {y : Operand} (hx : lk E x = some (.d (.bool false))) (hg : gd ops E guard = some true) (hl : v2d z = some u) (t : Ev P ops c (i + 1) os ((d, .d u) :: E) hp outs E' hp') :
    Ev P ops c i (⟨some d, .pick (.tmp x) y (.const z), ty, pos, after, guard⟩ :: os) E hp (⟨some d, .d u, [], []⟩ :: outs) E' hp' :=
  Ev_d rfl (by simp [evOp, opnd, hl, hx]) hg t
theorem Ev_s {o : Op} (hg : gd ops E guard = some false) (t : Ev P ops c (i + 1) os ((d, .tup []) :: E) hp outs E' hp') :
    Ev P ops c i (⟨some d, o, ty, pos, after, guard⟩ :: os) E hp (⟨some d, .tup [], [], []⟩ :: outs) E' hp' :=
  .cons (.skip hg) t
theorem Ev_sn {o : Op} (hg : gd ops E guard = some false) (t : Ev P ops c (i + 1) os E hp outs E' hp') :
    Ev P ops c i (⟨none, o, ty, pos, after, guard⟩ :: os) E hp (⟨none, .tup [], [], []⟩ :: outs) E' hp' :=
  .cons (.skip hg) t
theorem Ev_cf {args : List Operand} {ts : Array TypeId} {g : FuncId} {ds : List D} {ks : List Nat} {r : D} (ha : toDs (lk hp) (args.map (opnd E)) = some (ds, ks)) (hs : Sound P g ds r) (hfl : r.flat = true) (hr : AV.d r = v) (hg : gd ops E guard = some true)
    (t : Ev P ops c (i + 1) os ((d, v) :: E) hp outs E' hp') :
    Ev P ops c i (⟨some d, .call ⟨.value (.func g), args.toArray, ts⟩, ty, pos, after, guard⟩ :: os) E hp (⟨some d, v, [], ks⟩ :: outs) E' hp' := by
  subst hr
  have := OpEv.call (P := P) (ops := ops) (key := c + i) (o := ⟨some d, .call ⟨.value (.func g), args.toArray, ts⟩, ty, pos, after, guard⟩) (E := E) (hp := hp) (f := .func g) (g := g) hg rfl rfl ha hs
  rw [if_pos hfl] at this
  exact .cons this t
/-- A call whose result may lie in memory: what it was handed is data from then on. -/
theorem Ev_cv {f : Operand} {args : List Operand} {ts : Array TypeId} {g : FuncId} {ds : List D} {ks : List Nat} {r : D} (hf : opnd E f = .d (.fn g)) (ha : toDs (lk hp) (args.map (opnd E)) = some (ds, ks)) (hs : Sound P g ds r) {es : List (Nat × Option HO)} (hes : (if r.flat then [] else kills ks) = es)
    (hr : AV.d r = v) (hH : eff hp es = hp1) (hg : gd ops E guard = some true) (t : Ev P ops c (i + 1) os ((d, v) :: E) hp1 outs E' hp') :
    Ev P ops c i (⟨some d, .call ⟨.value f, args.toArray, ts⟩, ty, pos, after, guard⟩ :: os) E hp (⟨some d, v, es, ks⟩ :: outs) E' hp' := by
  subst hr; subst hes; subst hH
  exact .cons (.call hg rfl hf ha hs) t
theorem Ev_od {o : Op} {acc : List Nat} {es : List (Nat × Option HO)} (hq : c + i = q) (he : evOp P q (opnd E) (lk hp) o = some (v, es, acc)) (hH : eff hp es = hp1) (hg : gd ops E guard = some true) (t : Ev P ops c (i + 1) os ((d, v) :: E) hp1 outs E' hp') :
    Ev P ops c i (⟨some d, o, ty, pos, after, guard⟩ :: os) E hp (⟨some d, v, es, acc⟩ :: outs) E' hp' := by
  subst hq; subst hH
  exact .cons (.op hg he) t
theorem Ev_on {o : Op} {acc : List Nat} {es : List (Nat × Option HO)} (hq : c + i = q) (he : evOp P q (opnd E) (lk hp) o = some (v, es, acc)) (hH : eff hp es = hp1) (hg : gd ops E guard = some true) (t : Ev P ops c (i + 1) os E hp1 outs E' hp') :
    Ev P ops c i (⟨none, o, ty, pos, after, guard⟩ :: os) E hp (⟨none, v, es, acc⟩ :: outs) E' hp' := by
  subst hq; subst hH
  exact .cons (.op hg he) t
end
/-! ### From a contract to a walk's end -/
theorem Sound.calls {P : Program} {g : FuncId} {fn : Func} {ds : List D} {b : Bool} (hf : P.funcs[g]? = some fn) (hb : fn.body.isSome = true) (hn : (fn.name == "runtime.NumGoroutine") = false) (h : Sound P g ds (.bool b)) {w : World} {vs : List Value} (hl : ds.length = vs.length)
    (hv : ∀ (i : Nat) d v, ds[i]? = some d → vs[i]? = some v → RepD w (fun _ => False) d v) : Calls P g vs.toArray w fun e w' => e = .returned (.bool b) ∧ Below w.heap.size w w' := by
  rcases h w (fun _ => False) vs (fun b hb => hb.elim) hl hv with ⟨v, w', hr, _⟩ | ⟨_, hc⟩
  · exfalso
    obtain ⟨c, hc⟩ := Option.isSome_iff_exists.1 hb
    have hn' : ¬ fn.name = "runtime.NumGoroutine" := by simpa using hn
    simp [callFunc, hf, hn', hc] at hr
  · refine hc.mono ?_
    rintro e w' ⟨v, rfl, hv, hbel⟩
    cases hv
    exact ⟨rfl, hbel.lo⟩
theorem reps_nil {w : World} {M : Nat → Prop} : ∀ (i : Nat) d v, ([] : List D)[i]? = some d → ([] : List Value)[i]? = some v → RepD w M d v := fun i d v h => by simp at h
theorem reps_cons {w : World} {M : Nat → Prop} {x : D} {y : Value} {ds : List D} {vs : List Value} (h : RepD w M x y) (t : ∀ (i : Nat) d v, ds[i]? = some d → vs[i]? = some v → RepD w M d v) :
    ∀ (i : Nat) d v, (x :: ds)[i]? = some d → (y :: vs)[i]? = some v → RepD w M d v := fun i d v h1 h2 => by
  cases i with
  | zero => simp at h1 h2; subst h1; subst h2; exact h
  | succ i => exact t i d v (by simpa using h1) (by simpa using h2)
theorem u64_and32b {a : Int} (h0 : 0 ≤ a) (h1 : a ≤ 18446744073709551615) : IntKind.u64.wrap ((BitVec.ofInt 64 a &&& BitVec.ofInt 64 4294967295).toNat : Int) = a % 4294967296 := u64_and32 h0 h1
theorem shr32b {a : Int} : a.fdiv (2 ^ min 32 64) = a / 4294967296 := shr32
theorem u64_and32c {a : Int} (h0 : 0 ≤ a) (h1 : a ≤ 18446744073709551615) : ((BitVec.ofInt 64 a &&& BitVec.ofInt 64 4294967295).toNat : Int) = a % 4294967296 := by
  have h := u64_and32b h0 h1
  have hb := (BitVec.ofInt 64 a &&& BitVec.ofInt 64 4294967295).isLt
  rw [wrap_u64 (by omega) (by omega)] at h
  exact h
theorem and_mask {a : Int} (h0 : 0 ≤ a) (h1 : a ≤ 18446744073709551615) : intBin .and .u64 a .u64 4294967295 = some (.int .u64 (a % 4294967296)) := by
  simp only [intBin, if_true, u64_and32 h0 h1]
theorem shr_32 {a : Int} {k : IntKind} : intBin .shr .u64 a k 32 = some (.int .u64 (a / 4294967296)) := by
  have : a.fdiv (2 ^ min (32 : Int).toNat IntKind.u64.bits) = a / 4294967296 := shr32
  simp only [intBin, this]
  rfl
end Go.Eng

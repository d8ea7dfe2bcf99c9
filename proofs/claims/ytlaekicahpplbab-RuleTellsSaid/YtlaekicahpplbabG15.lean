/- The engine, part 15: code, and functions. -/
import Derived.Test.YtlaekicahpplbabG40
set_option linter.unusedVariables false
set_option linter.unusedSimpArgs false
namespace Go.Eng
open Go.RowKit

structure St where
  E : Env
  hp : Heap
  c : Nat
/-- Where a frame's run began. -/
structure Ref where
  M : Nat → Prop
  H : Nat → Option HO
  ν : Nat → Value
  c : Nat
  w : World
structure Sp where
  X : Ctx
  N : Nat
  R : Ref
  rd : Option Nat := none
def Rel (S : Sp) (s : St) (a : Act) (w : World) : Prop :=
  S.R.c ≤ s.c ∧ ∃ ν, EInv S.X S.N s.E (lk s.hp) ν (· < s.c) a w ∧ Ext S.R.M S.R.H S.R.ν (· < S.R.c) S.R.w (Mut S.X.M0 (lk s.hp) ν) (lk s.hp) ν (· < s.c) w
def WP (P : Program) (S : Sp) (code : Code) (s : St) (Q : Exit → St → Prop) : Prop :=
  ∀ a w, Rel S s a w → code.wpIn (FR S.rd) 0 P (fun e a' w' => ∃ s', Rel S s' a' w' ∧ Q e s') a w

section
variable {P : Program} {S : Sp} {s : St} {Q : Exit → St → Prop}
theorem WP_conseq {code : Code} {Q' : Exit → St → Prop} (h : WP P S code s Q') (hq : ∀ e s, Q' e s → Q e s) : WP P S code s Q :=
  fun a w hr => wpIn_mono (h a w hr) fun e a' w' ⟨s', h1, h2⟩ => ⟨s', h1, hq _ _ h2⟩
theorem WP_skip (h : Q .normal s) : WP P S .skip s Q := fun a w hr => wpIn_skip ⟨s, hr, h⟩
theorem WP_label {l : Nat} (h : Q .normal s) : WP P S (.label l) s Q := fun a w hr => wpIn_label ⟨s, hr, h⟩
theorem WP_exit {i : Nat} (h : Q (.exit i) s) : WP P S (.exit i) s Q := fun a w hr => wpIn_exit ⟨s, hr, h⟩
theorem WP_ret (h : Q .ret s) : WP P S .ret s Q := fun a w hr => wpIn_ret ⟨s, hr, h⟩
def thenQ (K : St → Prop) (Q : Exit → St → Prop) : Exit → St → Prop
  | .normal, s => K s
  | e, s => Q e s
theorem WP_seq {x y : Code} (h : WP P S x s (thenQ (fun s' => WP P S y s' Q) Q)) : WP P S (.seq x y) s Q := fun a w hr =>
  wpIn_seq (wpIn_mono (h a w hr) fun e a' w' ⟨s', h1, h2⟩ => by cases e <;> first | exact h2 a' w' h1 | exact ⟨s', h1, h2⟩)
theorem WP_cond {c : Operand} {x y : Code} {b : Bool} (hc : opnd s.E c = .d (.bool b)) (h : WP P S (if b then x else y) s Q) : WP P S (.cond c x y) s Q := fun a w hr => by
  obtain ⟨hle, ν, hI, hx⟩ := hr
  have ho := hI.opnd c
  rw [hc] at ho
  generalize hv : a.eval c = v at ho
  cases ho with
  | d ho => cases ho; exact wpIn_cond hv (h a w ⟨hle, ν, hI, hx⟩)
theorem WP_if {c : Operand} {x y : Code} {b : Bool} (hc : opnd s.E c = .d (.bool b)) (ht : b = true → WP P S x s Q) (hf : b = false → WP P S y s Q) : WP P S (.cond c x y) s Q :=
  WP_cond hc (by cases b; exact hf rfl; exact ht rfl)
def blockQ (i : Nat) (Q : Exit → St → Prop) : Exit → St → Prop
  | .exit j, s => if j = i then Q .normal s else Q (.exit j) s
  | e, s => Q e s
theorem WP_block {i : Nat} {x : Code} (h : WP P S x s (blockQ i Q)) : WP P S (.block i x) s Q := fun a w hr =>
  wpIn_block (wpIn_mono (h a w hr) fun e a' w' ⟨s', h1, h2⟩ => by
    cases e <;> try exact ⟨s', h1, h2⟩
    simp only [blockQ] at h2
    simp only [Exit.inBlock]
    split
    · rename_i e; rw [if_pos e] at h2; exact ⟨s', h1, h2⟩
    · rename_i e; rw [if_neg e] at h2; exact ⟨s', h1, h2⟩)
/-- A loop: what holds at its head, and what each round lowers. -/
theorem WP_loop {α : Type} (st : α → St) (μ : α → Nat) (x0 : α) (h0 : st x0 = s) {body : Code} (round : ∀ x, WP P S body (st x) (thenQ (fun s' => ∃ y, st y = s' ∧ μ y < μ x) Q)) : WP P S (.loop body) s Q := by
  subst h0
  intro a w hr
  intro b k cs hro hb hrm
  have key : ∀ n x a w, μ x = n → Rel S (st x) a w → ∃ e a' w', (∃ s', Rel S s' a' w' ∧ Q e s') ∧ ArrivesIn (Machine.fenced P (FR S.rd)) P (lone (b.atR a (.code body :: .inLoop body :: k)) cs w) b k cs e a' w' := by
    intro n
    induction n using Nat.strongRecOn with
    | _ n ih =>
      intro x a w hn hr
      obtain ⟨e, a1, w1, ⟨s', hr', hq⟩, harr⟩ := round x a w hr b (.inLoop body :: k) cs hro hb hrm
      cases e with
      | normal =>
        obtain ⟨y, rfl, hlt⟩ := hq
        obtain ⟨e2, a2, w2, hq2, harr2⟩ := ih (μ y) (hn ▸ hlt) y a1 w1 rfl hr'
        exact ⟨e2, a2, w2, hq2, .of_steps (StepsIn.trans harr (.one (fenced_calm hb hrm rfl) stepR_inLoop)) harr2⟩
      | exit id => exact ⟨_, a1, w1, ⟨s', hr', hq⟩, .pass (x := .inLoop body) rfl (fun _ _ => .inl (by simp)) harr⟩
      | goto l => exact ⟨_, a1, w1, ⟨s', hr', hq⟩, .pass (x := .inLoop body) rfl (fun _ _ => .inl (by simp)) harr⟩
      | ret => exact ⟨_, a1, w1, ⟨s', hr', hq⟩, .pass (x := .inLoop body) rfl (fun _ _ => .inl (by simp)) harr⟩
      | panic ch => exact ⟨_, a1, w1, ⟨s', hr', hq⟩, .pass (x := .inLoop body) rfl (fun _ _ => .inl (by simp)) harr⟩
      | outgrown => exact ⟨_, a1, w1, ⟨s', hr', hq⟩, .pass (x := .inLoop body) rfl (fun _ _ => .inl (by simp)) harr⟩
  obtain ⟨e, a', w', hq, harr⟩ := key _ x0 a w rfl hr
  exact ⟨e, a', w', hq, .of_steps (.one (fenced_calm hb hrm rfl) stepR_loop) harr⟩
theorem WP_region {id : Nat} {ops : Array Oper} {outs : List Out} {E' : Env} {hp' : Heap} (hev : Ev P ops s.c 0 ops.toList s.E s.hp outs E' hp') (hd : dstOk S.N ops.toList = true)
    (h : Q .normal ⟨E', hp', s.c + ops.size⟩) : WP P S (.region id ops false) s Q := fun a w ⟨hle, ν, hI, hx⟩ => by
  refine wpIn_region_list (Ev.list (N := S.N) (X := S.X) ops.toList 0 _ _ _ _ _ ν a w hd (by simpa using hI) hev fun a' w' ν' h1 h2 => ?_)
  simp only [Nat.add_zero, Array.length_toList] at h1 h2
  exact ⟨⟨E', hp', s.c + ops.size⟩, ⟨Nat.le_trans hle (Nat.le_add_right _ _), ν', h1, hx.trans h2⟩, h⟩
theorem WP_draw {id : Nat} {ops : Array Oper} {outs : List Out} {E' : Env} {hp' : Heap} (hm : P.follows .mixedOrders = true) (hev : Ev P ops s.c 0 ops.toList s.E s.hp outs E' hp') (hd : dstOk S.N ops.toList = true)
    (hok : orderOk ops (outs.map outKeys) = true) (h : Q .normal ⟨E', hp', s.c + ops.size⟩) : WP P S (.region id ops true) s Q := fun a w ⟨hle, ν, hI, hx⟩ => by
  refine wpIn_region_any hm ?_
  have hdrew : Bl w.heap.size w w.drew := (Bl.refl _ _).drew
  obtain ⟨i1, x1⟩ := hI.heap.world hdrew
  have hI1 : EInv S.X S.N s.E (lk s.hp) ν (· < s.c) a w.drew := ⟨i1, fun n av hn => (hI.env n av hn).ext x1, hI.size, hI.defers.mono x1.same x1.shrink⟩
  have none : ∀ (l : List Out) (q : Nat) (E : Env) (hp : Heap), foldS (fun _ => false) q l E hp = (E, hp) := by
    intro l
    induction l with
    | nil => intro q E hp; rfl
    | cons x l ih => intro q E hp; simp [foldS, ih]
  have hu : ∀ k, (k < s.c) ↔ usedS s.c ops.size (fun _ => false) k := fun k => ⟨fun h => .inl h, fun h => by rcases h with h | ⟨_, _, h, _⟩; exact h; cases h⟩
  have huf : (fun k => k < s.c) = usedS s.c ops.size (fun _ => false) := funext fun k => propext (hu k)
  refine Ev.any (X := S.X) (N := S.N) hev hok hd (M0 := S.R.M) (H0 := S.R.H) (ν0 := S.R.ν) (u0 := (· < S.R.c)) (w0 := S.R.w) (fun a' w' ν' h1 h2 => ?_) ops.size (Array.replicate ops.size false) (fun _ => false) ν a w.drew (by simp) (fun i hi => ?_) (fun _ _ => rfl)
    (fun j o _ h => by cases h) (by simp [cnt]) ?_ ?_
  · exact ⟨⟨E', hp', s.c + ops.size⟩, ⟨Nat.le_trans hle (Nat.le_add_right _ _), ν', h1, h2⟩, h⟩
  · rw [Array.getD_eq_getD_getElem?]; simp [hi]
  · rw [none]; exact hI1.usedEq hu
  · rw [none, ← huf]; exact hx.trans x1

/-! ### What is forgotten -/
mutual
def AV.kb (c : Nat) : AV → Bool
  | .own k _ => decide (k < c) | .ref k _ => decide (k < c) | .eref k _ _ _ _ => decide (k < c) | .map k => decide (k < c) | .it k => decide (k < c) | .yld k => decide (k < c) | .vs k _ _ => decide (k < c)
  | .agg fs => kbs c fs | .tup fs => kbs c fs | .fn _ fs => kbs c fs
  | .undef => true | .d _ => true | .clip .. => true | .dref _ => true
def kbs (c : Nat) : List AV → Bool
  | [] => true
  | a :: as => a.kb c && kbs c as
end
mutual
theorem RepA.restrict {w : World} {M : Nat → Prop} {H : Nat → Option HO} {ν : Nat → Value} {used : Nat → Prop} {c : Nat} : ∀ (av : AV) (v : Value), RepA w M H ν used av v → av.kb c = true → RepA w M H ν (· < c) av v
  | .own k n, v, h, hb => by cases h with | own hu h1 hc ha h => exact .own (by simpa [AV.kb] using hb) h1 hc ha h
  | .ref k o, v, h, hb => by cases h with | ref hu h => exact .ref (by simpa [AV.kb] using hb) h
  | .eref k n i sz o, v, h, hb => by cases h with | eref hu hi ho h => exact .eref (by simpa [AV.kb] using hb) hi ho h
  | .map k, v, h, hb => by cases h with | map hu h => exact .map (by simpa [AV.kb] using hb) h
  | .it k, v, h, hb => by cases h with | it hu h => exact .it (by simpa [AV.kb] using hb) h
  | .vs k o n, v, h, hb => by cases h with | vs hu hc h => exact .vs (by simpa [AV.kb] using hb) hc h
  | .agg fs, v, h, hb => by cases h with | agg hl hc h => exact .agg hl hc (RepA.restricts fs _ h (by simpa [AV.kb] using hb))
  | .tup fs, v, h, hb => by cases h with | tup hl h => exact .tup hl (RepA.restricts fs _ h (by simpa [AV.kb] using hb))
  | .fn f fs, v, h, hb => by cases h with | fn hl h => exact .fn hl (RepA.restricts fs _ h (by simpa [AV.kb] using hb))
  | .yld k, v, h, hb => by cases h with | yld hu h => exact .yld (by simpa [AV.kb] using hb) h
  | .undef, v, h, hb => .undef v
  | .d x, v, h, hb => by cases h with | d h => exact .d h
  | .clip s x, v, h, hb => by cases h with | clip h => exact .clip h
  | .dref f, v, h, hb => by cases h with | dref val h1 h2 h3 h4 h5 => exact .dref val h1 h2 h3 h4 h5
theorem RepA.restricts {w : World} {M : Nat → Prop} {H : Nat → Option HO} {ν : Nat → Value} {used : Nat → Prop} {c : Nat} : ∀ (fs : List AV) (cs : List Value), (∀ (i : Nat) d v, fs[i]? = some d → cs[i]? = some v → RepA w M H ν used d v) → kbs c fs = true →
    ∀ (i : Nat) d v, fs[i]? = some d → cs[i]? = some v → RepA w M H ν (· < c) d v
  | [], cs, h, hb, i, dd, v, hd, hv => by simp at hd
  | a :: as, cs, h, hb, i, dd, v, hd, hv => by
    simp only [kbs, Bool.and_eq_true] at hb
    cases i with
    | zero => simp at hd; subst hd; exact RepA.restrict a v (h 0 a v rfl hv) hb.1
    | succ i =>
      cases cs with
      | nil => simp at hv
      | cons u cs => exact RepA.restricts as cs (fun j d v h1 h2 => h (j + 1) d v (by simpa using h1) (by simpa using h2)) hb.2 i dd v (by simpa using hd) (by simpa using hv)
end
def keepL {α : Type} (l : List (Nat × α)) : List Nat → List (Nat × α)
  | [] => []
  | n :: ns => match lk l n with
    | some a => (n, a) :: keepL l ns
    | none => keepL l ns
theorem lk_keepL {α : Type} {l : List (Nat × α)} : ∀ {ns : List Nat} {n : Nat} {a : α}, lk (keepL l ns) n = some a → lk l n = some a
  | [], n, a, h => by simp [keepL, lk] at h
  | m :: ns, n, a, h => by
    simp only [keepL] at h
    split at h
    · rename_i b hb
      simp only [lk] at h
      split at h
      · rename_i e; subst e; rw [hb]; exact h
      · exact lk_keepL h
    · exact lk_keepL h
def envBelow (c : Nat) (E : Env) : Bool := E.all fun p => p.2.kb c
def hoBelow (c : Nat) : HO → Bool
  | .var cs => kbs c cs
  | .row .. => true
  | .map .. => true
  | .iter m _ _ => decide (m < c)
  | .loop _ cs _ => kbs c cs
def heapBelow (c : Nat) (hp : Heap) : Bool := hp.all fun p => decide (p.1 < c) && hoBelow c p.2
theorem HInv.sub {X : Ctx} {H H' : Nat → Option HO} {ν : Nat → Value} {used : Nat → Prop} {w : World} (hI : HInv X H ν used w) (hsub : ∀ q o, H' q = some o → H q = some o) :
    HInv X H' ν used w ∧ Ext (Mut X.M0 H ν) H ν used w (Mut X.M0 H' ν) H' ν used w := by
  have hx : Ext (Mut X.M0 H ν) H ν used w (Mut X.M0 H' ν) H' ν used w :=
    ⟨Same.refl _ _, fun b _ h => by
      rcases h with h | ⟨q, o, hq, hb⟩
      · exact .inl h
      · exact .inr ⟨q, o, hsub _ _ hq, hb⟩, fun _ h => h, fun q _ o ho => ⟨o, hsub _ _ ho, by cases o <;> simp [HO.later], fun _ => rfl⟩, Same.refl _ _, fun b _ ⟨q, o, hq, hb⟩ => ⟨q, o, hsub _ _ hq, hb⟩⟩
  exact ⟨⟨hI.below, hI.M0, fun q o b hq hb => hI.far _ _ _ (hsub _ _ hq) hb, fun q o hq => hI.usd _ _ (hsub _ _ hq), fun q o b hq hb => hI.blk _ _ _ (hsub _ _ hq) hb, fun q q' o o' b h h' => hI.inj _ _ _ _ _ (hsub _ _ h) (hsub _ _ h'),
    fun q o hq => (hI.obj _ _ (hsub _ _ hq)).ext hx (fun _ _ => rfl)⟩, hx⟩
/-- Slots, things and keys that are not needed fall away. -/
theorem Rel.keep {a : Act} {w : World} (h : Rel S s a w) (ns ks : List Nat) (c : Nat) (hc : S.R.c ≤ c) (hE : envBelow c (keepL s.E ns) = true) (hH : heapBelow c (keepL s.hp ks) = true) : Rel S ⟨keepL s.E ns, keepL s.hp ks, c⟩ a w := by
  obtain ⟨hle, ν, hI, hx⟩ := h
  have hsub : ∀ q o, lk (keepL s.hp ks) q = some o → lk s.hp q = some o := fun q o h => lk_keepL h
  obtain ⟨i1, x1⟩ := hI.heap.sub hsub
  have hkb : ∀ q o, lk (keepL s.hp ks) q = some o → q < c ∧ hoBelow c o = true := fun q o h => by
    have := List.all_eq_true.1 hH _ (lk_mem h)
    simpa using this
  refine ⟨hc, ν, ⟨⟨i1.below, i1.M0, i1.far, fun q o hq => (hkb q o hq).1, i1.blk, i1.inj, fun q o hq => ?_⟩, fun n av hn => ?_, hI.size, hI.defers.mono x1.same x1.shrink⟩, ?_⟩
  · have hob := i1.obj q o hq
    cases o with
    | var cs =>
      obtain ⟨b, cells, e, h1, h2, h3, h4, h5⟩ := hob
      have hcs : kbs c cs = true := (hkb q _ hq).2
      exact ⟨b, cells, e, h1, h2, h3, h4, fun i av u ha hu => RepA.restricts cs cells.toList (fun i d v hd hv => h5 i d v hd (by simpa using hv)) hcs i av u ha (by simpa using hu)⟩
    | row e sz xs => exact hob
    | map _ _ _ => exact hob
    | iter m c' seen =>
      obtain ⟨b, mr, h1, h2, hu, hm⟩ := hob
      exact ⟨b, mr, h1, h2, by have := (hkb q _ hq).2; simpa [hoBelow] using this, hm⟩
    | loop Y cs st =>
      obtain ⟨l, lr, h1, h2, h3, h4, h5, h6⟩ := hob
      have hcs : kbs c cs = true := (hkb q _ hq).2
      exact ⟨l, lr, h1, h2, h3, h4, h5, fun i av u ha hu => RepA.restricts cs lr.tmps.toList h6 hcs i av u ha hu⟩
  · have hb := List.all_eq_true.1 hE _ (lk_mem hn)
    exact RepA.restrict av _ ((hI.env n av (lk_keepL hn)).ext x1) (by simpa using hb)
  · have x2 := hx.trans x1
    exact ⟨x2.same, x2.shrink, fun k hk => Nat.lt_of_lt_of_le hk hc, x2.obj, x2.sameO, x2.shrinkO⟩
theorem WP_keep {code : Code} (ns ks : List Nat) (c : Nat) (hc : S.R.c ≤ c) (hE : envBelow c (keepL s.E ns) = true) (hH : heapBelow c (keepL s.hp ks) = true) (h : WP P S code ⟨keepL s.E ns, keepL s.hp ks, c⟩ Q) : WP P S code s Q :=
  fun a w hr => h a w (hr.keep ns ks c hc hE hH)

/-! ### Functions -/
def resA (P : Program) (s : St) : ResultVar → Option AV
  | .tmp t => some (opnd s.E (.tmp t))
  | .cell a t => match evLoad P (lk s.hp) t (opnd s.E (.tmp a)) with | some (x, _) => some x | none => none
def resAs (P : Program) (s : St) : List ResultVar → Option (List AV)
  | [] => some []
  | r :: rs => match resA P s r with
    | some x => match resAs P s rs with
      | some xs => some (x :: xs)
      | none => none
    | none => none
/-- What a frame hands back. -/
def resD (P : Program) (s : St) (rs : List ResultVar) : Option D :=
  match resAs P s rs with
  | some [x] => match toD (lk s.hp) x with | some (d, _) => some d | none => none
  | some xs => match toDs (lk s.hp) xs with | some (ds, _) => some (.tup ds) | none => none
  | none => none
def resOne (a : Act) : ResultVar → Sem Value
  | .tmp t => pure (a.tmps.getD t undef)
  | .cell q t => do loadVar t (← asAddr (a.tmps.getD q undef))
theorem results_eq (fn : Func) (a : Act) : results fn a.tmps = (fn.results.mapM (resOne a) >>= fun vs => pure (if h : vs.size = 1 then vs[0] else .tuple vs)) := by
  unfold results
  congr 2
def oneOf : List Value → Value
  | [v] => v
  | vs => .tuple vs.toArray
theorem resA_run {a : Act} {w : World} {X : Ctx} {N : Nat} {ν : Nat → Value} {u : Nat → Prop} (hI : EInv X N s.E (lk s.hp) ν u a w) {r : ResultVar} {x : AV} (h : resA P s r = some x) :
    ∃ v, (resOne a r).run P w = .ok v w ∧ RepA w (Mut X.M0 (lk s.hp) ν) (lk s.hp) ν u x v := by
  cases r with
  | tmp t => simp [resA] at h; subst h; exact ⟨_, rfl, hI.opnd (.tmp t)⟩
  | cell q t =>
    simp only [resA] at h
    split at h
    · rename_i x' acc hl
      simp at h
      subst h
      obtain ⟨v, hr, hv⟩ := evLoad_sound hI.heap (hI.opnd (.tmp q)) hl
      refine ⟨v, ?_, hv⟩
      have he : a.eval (.tmp q) = a.tmps.getD q undef := rfl
      rw [he] at hr
      show (asAddr (a.tmps.getD q undef) >>= fun x => loadVar t x).run P w = _
      generalize a.tmps.getD q undef = u at hr ⊢
      cases u <;> simp only [Instr.loadAt, Instr.sureAddr, Sem.run_bind, run_stuck, Result.andThen_halt] at hr <;> try (cases hr; done)
      rename_i ao
      cases ao <;> simp only [run_stuck, Result.andThen_halt, Sem.run_pure, Result.andThen_ok] at hr <;> try (cases hr; done)
      simpa [asAddr] using hr
    · cases h
theorem resAs_run {a : Act} {w : World} {X : Ctx} {N : Nat} {ν : Nat → Value} {u : Nat → Prop} (hI : EInv X N s.E (lk s.hp) ν u a w) : ∀ (rs : List ResultVar) (xs : List AV), resAs P s rs = some xs →
    ∃ vs, (rs.mapM (resOne a) : Sem (List Value)).run P w = .ok vs w ∧ xs.length = vs.length ∧
      ∀ (i : Nat) d v, xs[i]? = some d → vs[i]? = some v → RepA w (Mut X.M0 (lk s.hp) ν) (lk s.hp) ν u d v
  | [], xs, h => by simp [resAs] at h; subst h; exact ⟨[], by simp, rfl, fun i d v hd => by simp at hd⟩
  | r :: rs, xs, h => by
    simp only [resAs] at h
    split at h
    · rename_i x hx
      split at h
      · rename_i xs' hxs
        simp at h
        subst h
        obtain ⟨v, h1, h2⟩ := resA_run hI hx
        obtain ⟨vs, h3, h4, h5⟩ := resAs_run hI rs xs' hxs
        refine ⟨v :: vs, ?_, by simp [h4], fun i d u hd hu => ?_⟩
        · rw [List.mapM_cons]
          simp only [Sem.run_bind, h1, Result.andThen_ok, h3, Sem.run_pure]
        · cases i with
          | zero => simp at hd hu; subst hd; subst hu; exact h2
          | succ i => exact h5 i d u (by simpa using hd) (by simpa using hu)
      · cases h
    · cases h
theorem results_run {fn : Func} {rs : List ResultVar} (hrs : fn.results = rs.toArray) {a : Act} {w : World} {vs : List Value}
    (h : (rs.mapM (resOne a) : Sem (List Value)).run P w = .ok vs w) :
    (results fn a.tmps).run P w = .ok (oneOf vs) w := by
  rw [results_eq, hrs]
  have e : (rs.toArray.mapM (resOne a) : Sem (Array Value)) = List.toArray <$> (rs.mapM (resOne a)) := by
    rw [Array.mapM_eq_mapM_toList]
  simp only [Sem.run_bind]
  rw [e, Sem.run_map, h]
  simp only [Result.andThen_ok, Sem.run_pure]
  match vs with
  | [] => simp [oneOf]
  | [v] => simp [oneOf]
  | v :: u :: vs => simp [oneOf]
theorem resD_run {a : Act} {w : World} {X : Ctx} {N : Nat} {ν : Nat → Value} {u : Nat → Prop} (hI : EInv X N s.E (lk s.hp) ν u a w) {fn : Func} {rs : List ResultVar} (hrs : fn.results = rs.toArray) {d : D} (h : resD P s rs = some d) :
    ∃ v, (results fn a.tmps).run P w = .ok v w ∧ RepD w X.M0 d v := by
  have sub : ∀ {ks : List Nat} {d : D} {v : Value}, RepD w (Mut X.M0 (lk (dels s.hp ks)) ν) d v → RepD w X.M0 d v := fun h => h.mono (Same.refl _ _) (fun b _ hb => .inl hb)
  unfold resD at h
  split at h
  · rename_i x hx
    split at h
    · rename_i d' ks hd
      simp at h
      subst h
      obtain ⟨vs, h1, h2, h3⟩ := resAs_run hI rs [x] hx
      cases vs with
      | nil => simp at h2
      | cons v vs =>
        have : vs = [] := List.eq_nil_of_length_eq_zero (by simpa using h2.symm)
        subst this
        exact ⟨_, results_run hrs h1, sub (toD_drop hI.heap (h3 0 x v rfl rfl) hd)⟩
    · cases h
  · rename_i xs hne hx
    split at h
    · rename_i ds ks hd
      simp at h
      subst h
      obtain ⟨vs, h1, h2, h3⟩ := resAs_run hI rs xs hx
      obtain ⟨l1, l2⟩ := toDs_rep hI.heap (Mut.dels_sub (ks := ks)) xs vs ds ks h2 h3 hd (hI.heap.notMut (toDs_keys _ _ _ hd))
      refine ⟨_, results_run hrs h1, ?_⟩
      have hv : oneOf vs = Value.tuple vs.toArray := by
        match vs, h2 with
        | [], _ => rfl
        | [v], h2 => cases xs with
          | nil => simp at h2
          | cons x xs =>
            have : xs = [] := List.eq_nil_of_length_eq_zero (by simpa using h2)
            subst this
            exact absurd rfl (hne x)
        | _ :: _ :: _, _ => rfl
      rw [hv]
      exact sub (.tup l1 l2)
    · cases h
  · cases h
def args0 (ds : List D) : Env := (ds.zipIdx).map fun p => (p.2, .d p.1)
theorem lk_args0 {ds : List D} {n : Nat} {av : AV} (h : lk (args0 ds) n = some av) : ∃ d, ds[n]? = some d ∧ av = .d d := by
  have gen : ∀ (ds : List D) (k : Nat), lk ((ds.zipIdx k).map fun p => (p.2, AV.d p.1)) n = some av → ∃ d, k ≤ n ∧ ds[n - k]? = some d ∧ av = .d d := by
    intro ds
    induction ds with
    | nil => intro k hh; simp [lk] at hh
    | cons d ds ih =>
      intro k hh
      simp only [List.zipIdx_cons, List.map_cons, lk] at hh
      by_cases e : k = n
      · rw [if_pos e] at hh
        simp at hh
        exact ⟨d, by omega, by rw [e]; simp, hh.symm⟩
      · rw [if_neg e] at hh
        obtain ⟨d', h1, h2, h3⟩ := ih (k + 1) hh
        refine ⟨d', by omega, ?_, h3⟩
        rw [show n - k = (n - (k + 1)) + 1 from by omega]
        simpa using h2
  obtain ⟨d, _, h1, h2⟩ := gen ds 0 h
  exact ⟨d, by simpa using h1, h2⟩
def sp0 (X : Ctx) (N : Nat) (w : World) : Sp := ⟨X, N, ⟨X.M0, fun _ => none, fun _ => undef, 0, w⟩, none⟩
/-- A function whose code answers so. -/
theorem Sound.of {g : FuncId} {fn : Func} {code : Code} {rs : List ResultVar} {ds : List D} {r : D} (hf : P.funcs[g]? = some fn) (hb : fn.body = some code) (hn : (fn.name == "runtime.NumGoroutine") = false) (hrs : fn.results = rs.toArray) (hnt : ds.length ≤ fn.ntmps)
    (h : ∀ X w, WP P (sp0 X fn.ntmps w) code ⟨args0 ds, [], 0⟩ (fun e s => (e = .normal ∨ e = .ret) ∧ resD P s rs = some r)) : Sound P g ds r := by
  intro w M vs hM hl hv
  right
  refine ⟨?_, ?_⟩
  · have hn' : ¬ fn.name = "runtime.NumGoroutine" := by simpa using hn
    simp [callFunc, hf, hn', hb]
  · refine callsIn_wide.1 (callsIn_of_wp_marks (F := Fence.wide) (n := 0) hf hb trivial ?_)
    have hI : EInv ⟨w, M, w.heap.size⟩ fn.ntmps (args0 ds) (lk []) (fun _ => undef) (· < 0) { tmps := vs.toArray ++ Array.replicate (fn.ntmps - vs.toArray.size) undef, defers := [] } w := by
      refine ⟨⟨Bl.refl _ _, hM, fun k o b h => by simp [lk] at h, fun k o h => by simp [lk] at h, fun k o b h => by simp [lk] at h, fun k k' o o' b h => by simp [lk] at h, fun k o h => by simp [lk] at h⟩, fun n av hn => ?_, by simp; omega, Nat.le_refl _, trivial⟩
      obtain ⟨d, hd, rfl⟩ := lk_args0 hn
      have hlt := (List.getElem?_eq_some_iff.1 hd).1
      have hvn := List.getElem?_eq_getElem (l := vs) (i := n) (by omega)
      have := hv n d _ hd hvn
      have e : (vs.toArray ++ Array.replicate (fn.ntmps - vs.toArray.size) undef).getD n undef = vs[n]'(by omega) := by
        rw [Array.getD_eq_getD_getElem?, Array.getElem?_append_left (by simp; omega)]
        simp [hvn]
      simp only
      rw [e]
      exact .d (this.mono (Same.refl _ _) (fun b _ hb => by
        rcases hb with hb | ⟨k, o, hk, _⟩
        · exact hb
        · simp [lk] at hk))
    refine wpIn_mono (h ⟨w, M, w.heap.size⟩ w _ w ⟨Nat.le_refl _, fun _ => undef, hI, ⟨Same.refl _ _, fun b _ hb => by
        rcases hb with hb | ⟨k, o, hk, _⟩
        · exact hb
        · simp [lk] at hk, fun _ h => h, fun k hk => absurd hk (Nat.not_lt_zero _), Same.refl _ _, fun b _ ⟨k, o, hk, _⟩ => by simp [lk] at hk⟩⟩) ?_
    rintro e a' w' ⟨s', ⟨hle, ν, hI', hx⟩, he, hres⟩
    have key : LeavesInM Fence.wide 0 P fn a'.tmps (fun e w' => ∃ v, e = .returned v ∧ RepD w' M r v ∧ Bl w.heap.size w w') a'.defers .returning w' := by
      refine Marks.leave _ _ hI'.defers fun w2 hb => ?_
      have hI2 : EInv ⟨w, M, w.heap.size⟩ fn.ntmps s'.E (lk s'.hp) ν (· < s'.c) { tmps := a'.tmps, defers := [] } w2 :=
        ⟨hI'.heap.book (Nat.le_refl _) hb, fun n av hn => (hI'.env n av hn).book hb, hI'.size, by rw [hb.size]; exact hI'.defers.1, trivial⟩
      obtain ⟨v, hr, hv⟩ := resD_run hI2 hrs hres
      exact ⟨v, hr, v, rfl, hv, hI2.heap.below⟩
    rcases he with rfl | rfl
    · exact key
    · exact key
end
end Go.Eng

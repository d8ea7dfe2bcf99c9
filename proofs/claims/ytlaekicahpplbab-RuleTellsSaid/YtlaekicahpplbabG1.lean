/- The engine, part 1: data as trees, how they lie in memory, and a small abstract heap. -/
import Derived.Below
import Derived.Deep.Draws
import Derived.Laws.AppendOwn
import Derived.Laws.MakeOwn
import Derived.Laws.OwnMore
set_option linter.unusedVariables false
set_option linter.unusedSimpArgs false
namespace Go.Eng
open Go.RowKit

/-- Data without any place in memory. A struct's cells lie flat. -/
inductive D where
  | bool (b : Bool) | int (k : IntKind) (n : Int) | str (s : ByteArray)
  | agg (fs : List D) | sl (sz : Nat) (xs : List D) | nils | fn (f : FuncId) | nilf | tup (vs : List D)
  deriving Inhabited

def D.comps : D → List D
  | .agg fs => fs
  | .bool b => [.bool b] | .int k n => [.int k n] | .str s => [.str s] | .sl z xs => [.sl z xs] | .nils => [.nils]
  | .fn f => [.fn f] | .nilf => [.nilf] | .tup v => [.tup v]
def D.cell : D → Bool
  | .agg _ | .tup _ => false
  | _ => true
/-- Holds no address. -/
def D.flat : D → Bool
  | .bool _ | .int .. | .str _ | .fn _ | .nilf | .nils => true
  | _ => false

inductive RepD (w : World) (M : Nat → Prop) : D → Value → Prop where
  | bool (b : Bool) : RepD w M (.bool b) (.bool b)
  | int (k : IntKind) (n : Int) : RepD w M (.int k n) (.int k n)
  | str (s : ByteArray) : RepD w M (.str s) (.string s)
  | fn (f : FuncId) : RepD w M (.fn f) (.func (.func f) #[] #[])
  | nilf : RepD w M .nilf .nilFunc
  | agg {fs : List D} {cs : List Value} (hl : fs.length = cs.length) (hc : ∀ d ∈ fs, d.cell = true)
      (h : ∀ (i : Nat) d v, fs[i]? = some d → cs[i]? = some v → RepD w M d v) : RepD w M (.agg fs) (.agg cs.toArray)
  | tup {fs : List D} {cs : List Value} (hl : fs.length = cs.length)
      (h : ∀ (i : Nat) d v, fs[i]? = some d → cs[i]? = some v → RepD w M d v) : RepD w M (.tup fs) (.tuple cs.toArray)
  | nils : RepD w M .nils (.slice none 0 0)
  | sl0 {sz : Nat} : RepD w M (.sl sz []) (.slice none 0 0)
  | sl {sz c : Nat} {xs : List D} {a : Addr} (val : Nat → Nat → Value) (hb : xs ≠ [] → a.block < w.heap.size) (hM : xs ≠ [] → ¬ M a.block)
      (hc : xs.length ≤ c) (hm : c ≤ maxLen)
      (hs : ∀ (i : Nat) x, xs[i]? = some x → x.comps.length = sz ∧ ∀ d ∈ x.comps, d.cell = true)
      (h1 : ∀ (i : Nat) x (j : Nat) d, xs[i]? = some x → x.comps[j]? = some d → w.cell? (a.add (i * sz + j)) = some (val i j))
      (h2 : ∀ (i : Nat) x (j : Nat) d, xs[i]? = some x → x.comps[j]? = some d → RepD w M d (val i j)) :
      RepD w M (.sl sz xs) (.slice (some a) xs.length c)

/-- What is not in M is as it was. -/
structure Same (M : Nat → Prop) (w w' : World) : Prop where
  size : w.heap.size ≤ w'.heap.size
  block : ∀ b, b < w.heap.size → ¬ M b → w'.heap[b]? = w.heap[b]?
theorem Same.refl (M : Nat → Prop) (w : World) : Same M w w := ⟨Nat.le_refl _, fun _ _ _ => rfl⟩
theorem Same.cell {M : Nat → Prop} {w w' : World} (h : Same M w w') {a : Addr} (hb : a.block < w.heap.size) (hM : ¬ M a.block) : w'.cell? a = w.cell? a :=
  World.cell?_of_block (h.block _ hb hM)
/-- Below block B as it was, and no draw is taken back. -/
structure Bl (B : Nat) (w w' : World) : Prop where
  lo : Below B w w'
  drawn : w.drawn ≤ w'.drawn
theorem Bl.size {B : Nat} {w w' : World} (h : Bl B w w') : w.heap.size ≤ w'.heap.size := h.lo.size
theorem Bl.block {B : Nat} {w w' : World} (h : Bl B w w') : ∀ k, k < B → w'.heap[k]? = w.heap[k]? := h.lo.block
theorem Bl.refl (B : Nat) (w : World) : Bl B w w := ⟨Below.refl _ _, Nat.le_refl _⟩
theorem Bl.trans {B : Nat} {a b c : World} (h : Bl B a b) (k : Bl B b c) : Bl B a c := ⟨h.lo.trans k.lo, Nat.le_trans h.drawn k.drawn⟩
theorem Bl.mono {B B' : Nat} {w w' : World} (h : Bl B w w') (hB : B' ≤ B) : Bl B' w w' := ⟨h.lo.mono hB, h.drawn⟩
theorem Bl.drew {B : Nat} {a w : World} (h : Bl B a w) : Bl B a w.drew := ⟨h.lo.drew, Nat.le_succ_of_le h.drawn⟩
theorem Same.of_below {w w' : World} (h : Bl w.heap.size w w') (M : Nat → Prop) : Same M w w' := ⟨h.size, fun b hb _ => h.block b hb⟩

theorem ne_of_get {α : Type} {l : List α} {i : Nat} {x : α} (h : l[i]? = some x) : l ≠ [] := fun e => by subst e; simp at h
theorem add_block (a : Addr) (n : Nat) : (a.add n).block = a.block := by unfold Addr.add; split <;> rfl

theorem RepD.mono {M M' : Nat → Prop} {w w' : World} (hs : Same M w w') (hM : ∀ b, b < w.heap.size → M' b → M b) {d : D} {v : Value} (h : RepD w M d v) : RepD w' M' d v := by
  induction h with
  | bool b => exact .bool b
  | int k n => exact .int k n
  | str s => exact .str s
  | fn f => exact .fn f
  | nilf => exact .nilf
  | agg hl hc _ ih => exact .agg hl hc ih
  | tup hl _ ih => exact .tup hl ih
  | nils => exact .nils
  | sl0 => exact .sl0
  | sl val hb hM' hc hm hsz h1 _ ih =>
    refine .sl val (fun hn => Nat.lt_of_lt_of_le (hb hn) hs.size) (fun hn hh => hM' hn (hM _ (hb hn) hh)) hc hm hsz (fun i x j d hx hd => ?_) ih
    have hn := ne_of_get hx
    rw [hs.cell (by rw [add_block]; exact hb hn) (by rw [add_block]; exact hM' hn)]
    exact h1 i x j d hx hd

theorem RepD.oneCell {M : Nat → Prop} {w : World} {d : D} {v : Value} (h : RepD w M d v) (hc : d.cell = true) : v.oneCell' = true := by
  cases h <;> first | rfl | (simp [D.cell] at hc)
theorem RepD.flat {M M' : Nat → Prop} {w w' : World} {d : D} {v : Value} (h : RepD w M d v) (hf : d.flat = true) : RepD w' M' d v := by
  cases h <;> first | (simp [D.flat] at hf; done) | constructor

/-- A slice's data, whether it is nil or not. -/
theorem RepD.of_nils {M : Nat → Prop} {w : World} {v : Value} (h : RepD w M .nils v) (sz : Nat) : RepD w M (.sl sz []) v := by cases h; exact .sl0
theorem RepD.sl_val {M : Nat → Prop} {w : World} {sz : Nat} {xs : List D} {v : Value} (h : RepD w M (.sl sz xs) v) : ∃ a c, v = .slice a xs.length c ∧ xs.length ≤ c ∧ c ≤ maxLen ∧ (a = none → xs = [] ∧ c = 0) := by
  cases h with
  | sl0 => exact ⟨none, 0, rfl, Nat.le_refl _, by simp [maxLen], fun _ => ⟨rfl, rfl⟩⟩
  | sl val hb hM hc hm hs h1 h2 => exact ⟨_, _, rfl, hc, hm, fun h => by cases h⟩

/-! ### What a slot holds -/
/-- A loop over a function: where a round's values go, and what it does. -/
structure Ym where
  ps : Array Tmp
  assign : Code
  body : Code
/-- How a loop over a function stands. -/
inductive LSt where
  | ready | busy | done (c : Code)
  deriving Inhabited
def LSt.of : LSt → Loop → Prop
  | .ready, lr => lr.state = .ready ∧ lr.pending = none
  | .busy, lr => lr.state = .busy ∧ lr.pending = none
  | .done c, lr => lr.state = .done ∧ lr.pending = some c
inductive AV where
  | undef
  | d (x : D)
  | agg (fs : List AV)
  | tup (vs : List AV)
  | own (k n : Nat)
  | clip (sz : Nat) (xs : List D)
  | ref (k off : Nat)
  | eref (k n i sz off : Nat)
  | dref (fs : List D)
  | fn (f : FuncId) (caps : List AV)
  | map (k : Nat)
  | it (k : Nat)
  | vs (k off n : Nat)
  | yld (k : Nat)
  deriving Inhabited
def AV.cell : AV → Bool
  | .agg _ | .tup _ | .undef => false
  | .d x => x.cell
  | _ => true

inductive HO where
  | var (cs : List AV)
  | row (e : TypeId) (sz : Nat) (xs : List D)
  | map (kt et : TypeId) (es : List (D × D))
  | iter (m c : Nat) (seen : List Nat)
  | loop (Y : Ym) (cs : List AV) (st : LSt)
  deriving Inhabited

abbrev Heap := List (Nat × HO)
abbrev Env := List (Nat × AV)
def lk {α : Type} : List (Nat × α) → Nat → Option α
  | [], _ => none
  | (m, a) :: l, n => if m = n then some a else lk l n
def del {α : Type} : List (Nat × α) → Nat → List (Nat × α)
  | [], _ => []
  | (m, a) :: l, n => if m = n then del l n else (m, a) :: del l n
def put {α : Type} (l : List (Nat × α)) (n : Nat) (a : α) : List (Nat × α) := (n, a) :: del l n
theorem lk_del_same {α : Type} (l : List (Nat × α)) (n : Nat) : lk (del l n) n = none := by
  induction l with
  | nil => rfl
  | cons p l ih =>
    obtain ⟨m, a⟩ := p
    by_cases h : m = n
    · simp [del, h, ih]
    · simp [del, lk, h, ih]
theorem lk_del_other {α : Type} (l : List (Nat × α)) (n k : Nat) (hk : k ≠ n) : lk (del l n) k = lk l k := by
  induction l with
  | nil => rfl
  | cons p l ih =>
    obtain ⟨m, a⟩ := p
    by_cases h : m = n
    · subst h
      simp only [del, lk, if_true, ih]
      rw [if_neg (by omega)]
    · simp only [del, lk, h, if_false, ih]
theorem lk_put_same {α : Type} (l : List (Nat × α)) (n : Nat) (a : α) : lk (put l n a) n = some a := by simp [put, lk]
theorem lk_put_other {α : Type} (l : List (Nat × α)) (n k : Nat) (a : α) (hk : k ≠ n) : lk (put l n a) k = lk l k := by
  simp only [put, lk]
  rw [if_neg (by omega), lk_del_other l n k hk]

def blockOf : Value → Option Nat
  | .slice (some a) _ _ => some a.block
  | .pointer (some a) => some a.block
  | .map (some r) => some r
  | .func (.yield l) _ _ => some l
  | _ => none

/-- The abstract heap H, with the value ν k of the thing of each key. -/
def Own (H : Nat → Option HO) (ν : Nat → Value) (b : Nat) : Prop := ∃ k o, H k = some o ∧ blockOf (ν k) = some b
def Mut (M0 : Nat → Prop) (H : Nat → Option HO) (ν : Nat → Value) (b : Nat) : Prop := M0 b ∨ ∃ k o, H k = some o ∧ blockOf (ν k) = some b

inductive RepA (w : World) (M : Nat → Prop) (H : Nat → Option HO) (ν : Nat → Value) (used : Nat → Prop) : AV → Value → Prop where
  | undef (v : Value) : RepA w M H ν used .undef v
  | d {x : D} {v : Value} (h : RepD w M x v) : RepA w M H ν used (.d x) v
  | agg {fs : List AV} {cs : List Value} (hl : fs.length = cs.length) (hc : ∀ d ∈ fs, d.cell = true)
      (h : ∀ (i : Nat) d v, fs[i]? = some d → cs[i]? = some v → RepA w M H ν used d v) : RepA w M H ν used (.agg fs) (.agg cs.toArray)
  | tup {fs : List AV} {cs : List Value} (hl : fs.length = cs.length)
      (h : ∀ (i : Nat) d v, fs[i]? = some d → cs[i]? = some v → RepA w M H ν used d v) : RepA w M H ν used (.tup fs) (.tuple cs.toArray)
  | own {k n c : Nat} {a : Option Addr} {v : Value} (hu : used k) (h1 : v = .slice a n c) (hc : n ≤ c ∧ c ≤ maxLen) (ha : a = none → n = 0 ∧ c = 0) (h : ∀ o, H k = some o → ∃ e sz xs, o = .row e sz xs ∧ n ≤ xs.length ∧ (n = xs.length → v = ν k)) : RepA w M H ν used (.own k n) v
  | clip {sz : Nat} {xs : List D} {a : Option Addr} (h : RepD w M (.sl sz xs) (.slice a xs.length xs.length)) : RepA w M H ν used (.clip sz xs) (.slice a xs.length xs.length)
  | ref {k off : Nat} {a : Addr} (hu : used k) (h : ∀ o, H k = some o → ∃ cs b, o = .var cs ∧ ν k = .pointer (some ⟨b, 0, none⟩) ∧ a = ⟨b, off, none⟩) : RepA w M H ν used (.ref k off) (.pointer (some a))
  | eref {k n i sz off : Nat} {a : Addr} (hu : used k) (hi : i < n) (ho : off < sz) (h : ∀ o, H k = some o → ∃ e sz' xs, o = .row e sz' xs ∧ n ≤ xs.length ∧
      (n = xs.length → ∃ g c, ν k = .slice (some ⟨g, 0, none⟩) n c ∧ a = ⟨g, i * sz + off, none⟩)) : RepA w M H ν used (.eref k n i sz off) (.pointer (some a))
  | dref {fs : List D} {a : Addr} (val : Nat → Value) (hb : a.block < w.heap.size) (hM : ¬ M a.block) (hc : ∀ d ∈ fs, d.cell = true)
      (h1 : ∀ (j : Nat) d, fs[j]? = some d → w.cell? (a.add j) = some (val j)) (h2 : ∀ (j : Nat) d, fs[j]? = some d → RepD w M d (val j)) : RepA w M H ν used (.dref fs) (.pointer (some a))
  | fn {f : FuncId} {caps : List AV} {cs : List Value} (hl : caps.length = cs.length) (h : ∀ (i : Nat) d v, caps[i]? = some d → cs[i]? = some v → RepA w M H ν used d v) :
      RepA w M H ν used (.fn f caps) (.func (.func f) #[] cs.toArray)
  | map {k r : Nat} (hu : used k) (h : ∀ o, H k = some o → ∃ kt et es, o = .map kt et es ∧ ν k = .map (some r)) : RepA w M H ν used (.map k) (.map (some r))
  | it {k : Nat} {a : Addr} (hu : used k) (h : ∀ o, H k = some o → ∃ m c seen b, o = .iter m c seen ∧ ν k = .pointer (some ⟨b, 0, none⟩) ∧ a = ⟨b, 0, none⟩) : RepA w M H ν used (.it k) (.pointer (some a))
  | vs {k off n c : Nat} {a : Addr} (hu : used k) (hc : n ≤ c ∧ c ≤ maxLen) (h : ∀ o, H k = some o → ∃ cs b, o = .var cs ∧ ν k = .pointer (some ⟨b, 0, none⟩) ∧ a = ⟨b, off, none⟩ ∧ off + n ≤ cs.length) : RepA w M H ν used (.vs k off n) (.slice (some a) n c)
  | yld {k l : Nat} (hu : used k) (h : ∀ o, H k = some o → ∃ Y cs st, o = .loop Y cs st ∧ ν k = .func (.yield l) #[] #[]) : RepA w M H ν used (.yld k) (.func (.yield l) #[] #[])

theorem RepA.oneCell {w : World} {M : Nat → Prop} {H : Nat → Option HO} {ν : Nat → Value} {used : Nat → Prop} {av : AV} {v : Value} (h : RepA w M H ν used av v) (hc : av.cell = true) : v.oneCell' = true := by
  cases h <;> first | rfl | assumption | (simp [AV.cell] at hc; done) | skip
  case d h => exact h.oneCell (by simpa [AV.cell] using hc)
  case own => subst_vars; rfl

/-- How an object may turn. -/
def HO.later : HO → HO → Prop
  | .var cs, .var cs' => cs.length = cs'.length
  | .row e sz xs, .row e' sz' xs' => e = e' ∧ sz = sz' ∧ xs.length ≤ xs'.length
  | .map k e _, .map k' e' _ => k = k' ∧ e = e'
  | .iter m c _, .iter m' c' _ => m = m' ∧ c = c'
  | .loop Y cs _, .loop Y' cs' _ => Y = Y' ∧ cs.length = cs'.length
  | _, _ => False
def HO.still : HO → HO → Prop
  | .row _ _ xs, .row _ _ xs' => xs.length = xs'.length
  | _, _ => True

structure Ext (M : Nat → Prop) (H : Nat → Option HO) (ν : Nat → Value) (used : Nat → Prop) (w : World) (M' : Nat → Prop) (H' : Nat → Option HO) (ν' : Nat → Value) (used' : Nat → Prop) (w' : World) : Prop where
  same : Same M w w'
  shrink : ∀ b, b < w.heap.size → M' b → M b
  usd : ∀ k, used k → used' k
  obj : ∀ k, used k → ∀ o', H' k = some o' → ∃ o, H k = some o ∧ o.later o' ∧ (o.still o' → ν' k = ν k)
  sameO : Same (Own H ν) w w'
  shrinkO : ∀ b, b < w.heap.size → Own H' ν' b → Own H ν b

theorem RepA.ext {M M' : Nat → Prop} {H H' : Nat → Option HO} {ν ν' : Nat → Value} {used used' : Nat → Prop} {w w' : World} (hx : Ext M H ν used w M' H' ν' used' w') {av : AV} {v : Value} (h : RepA w M H ν used av v) : RepA w' M' H' ν' used' av v := by
  induction h with
  | undef v => exact .undef v
  | d h => exact .d (h.mono hx.same hx.shrink)
  | agg hl hc _ ih => exact .agg hl hc ih
  | tup hl _ ih => exact .tup hl ih
  | own hu h1 hc ha h =>
    refine .own (hx.usd _ hu) h1 hc ha fun o' ho' => ?_
    obtain ⟨o, ho, hl, hst⟩ := hx.obj _ hu o' ho'
    obtain ⟨e, sz, xs, rfl, hn, hv⟩ := h o ho
    cases o' with
    | row e' sz' xs' =>
      obtain ⟨rfl, rfl, hle⟩ := hl
      refine ⟨_, _, xs', rfl, by omega, fun he => ?_⟩
      rw [hst (by simp [HO.still]; omega)]
      exact hv (by omega)
    | var _ => exact hl.elim
    | map _ _ _ => exact hl.elim
    | iter _ _ _ => exact hl.elim
    | loop _ _ _ => exact hl.elim
  | clip h => exact .clip (h.mono hx.same hx.shrink)
  | ref hu h =>
    refine .ref (hx.usd _ hu) fun o' ho' => ?_
    obtain ⟨o, ho, hl, hst⟩ := hx.obj _ hu o' ho'
    obtain ⟨cs, b, rfl, hn, hv⟩ := h o ho
    cases o' with
    | var cs' => exact ⟨cs', b, rfl, by rw [hst trivial]; exact hn, hv⟩
    | row _ _ _ => exact hl.elim
    | map _ _ _ => exact hl.elim
    | iter _ _ _ => exact hl.elim
    | loop _ _ _ => exact hl.elim
  | eref hu hi hoff h =>
    refine .eref (hx.usd _ hu) hi hoff fun o' ho' => ?_
    obtain ⟨o, ho, hl, hst⟩ := hx.obj _ hu o' ho'
    obtain ⟨e, sz0, xs, rfl, hn, hv⟩ := h o ho
    cases o' with
    | row e' sz' xs' =>
      obtain ⟨rfl, rfl, hle⟩ := hl
      refine ⟨_, _, xs', rfl, by omega, fun he => ?_⟩
      rw [hst (by simp [HO.still]; omega)]
      exact hv (by omega)
    | var _ => exact hl.elim
    | map _ _ _ => exact hl.elim
    | iter _ _ _ => exact hl.elim
    | loop _ _ _ => exact hl.elim
  | dref val hb hM hc h1 h2 =>
    refine .dref val (Nat.lt_of_lt_of_le hb hx.same.size) (fun hh => hM (hx.shrink _ hb hh)) hc (fun j d hd => ?_) (fun j d hd => (h2 j d hd).mono hx.same hx.shrink)
    rw [hx.same.cell (by rw [add_block]; exact hb) (by rw [add_block]; exact hM)]
    exact h1 j d hd
  | fn hl _ ih => exact .fn hl ih
  | yld hu h =>
    refine .yld (hx.usd _ hu) fun o' ho' => ?_
    obtain ⟨o, ho, hl, hst⟩ := hx.obj _ hu o' ho'
    obtain ⟨Y, cs, st, rfl, hn⟩ := h o ho
    cases o' with
    | loop Y' cs' st' => exact ⟨Y', cs', st', rfl, by rw [hst trivial]; exact hn⟩
    | row _ _ _ => exact hl.elim
    | map _ _ _ => exact hl.elim
    | iter _ _ _ => exact hl.elim
    | var _ => exact hl.elim
  | map hu h =>
    refine .map (hx.usd _ hu) fun o' ho' => ?_
    obtain ⟨o, ho, hl, hst⟩ := hx.obj _ hu o' ho'
    obtain ⟨kt, et, es, rfl, hn⟩ := h o ho
    cases o' with
    | map kt' et' es' => exact ⟨_, _, es', rfl, by rw [hst trivial]; exact hn⟩
    | row _ _ _ => exact hl.elim
    | var _ => exact hl.elim
    | iter _ _ _ => exact hl.elim
    | loop _ _ _ => exact hl.elim
  | it hu h =>
    refine .it (hx.usd _ hu) fun o' ho' => ?_
    obtain ⟨o, ho, hl, hst⟩ := hx.obj _ hu o' ho'
    obtain ⟨m, c, seen, b, rfl, hn, hv⟩ := h o ho
    cases o' with
    | iter m' c' s' => exact ⟨m', c', s', b, rfl, by rw [hst trivial]; exact hn, hv⟩
    | loop _ _ _ => exact hl.elim
    | row _ _ _ => exact hl.elim
    | var _ => exact hl.elim
    | map _ _ _ => exact hl.elim
  | vs hu hc h =>
    refine .vs (hx.usd _ hu) hc fun o' ho' => ?_
    obtain ⟨o, ho, hl, hst⟩ := hx.obj _ hu o' ho'
    obtain ⟨cs, b, rfl, hn, hv, hle⟩ := h o ho
    cases o' with
    | var cs' => exact ⟨cs', b, rfl, by rw [hst trivial]; exact hn, hv, by rw [← show cs.length = cs'.length from hl]; exact hle⟩
    | row _ _ _ => exact hl.elim
    | map _ _ _ => exact hl.elim
    | iter _ _ _ => exact hl.elim
    | loop _ _ _ => exact hl.elim

theorem Ext.refl (M : Nat → Prop) (H : Nat → Option HO) (ν : Nat → Value) (used : Nat → Prop) (w : World) : Ext M H ν used w M H ν used w :=
  ⟨Same.refl _ _, fun _ _ h => h, fun _ h => h, fun k _ o ho => ⟨o, ho, by cases o <;> simp [HO.later], fun _ => rfl⟩, Same.refl _ _, fun _ _ h => h⟩
theorem HO.later.trans {a b c : HO} (h : a.later b) (h' : b.later c) : a.later c := by
  cases a <;> cases b <;> first | exact h.elim | skip
  all_goals cases c <;> first | exact h'.elim | skip
  · exact Eq.trans h h'
  · exact ⟨h.1.trans h'.1, h.2.1.trans h'.2.1, Nat.le_trans h.2.2 h'.2.2⟩
  · exact ⟨h.1.trans h'.1, h.2.trans h'.2⟩
  · exact ⟨h.1.trans h'.1, h.2.trans h'.2⟩
  · exact ⟨h.1.trans h'.1, h.2.trans h'.2⟩
theorem HO.still_of {a b c : HO} (h : a.later b) (h' : b.later c) (hs : a.still c) : a.still b ∧ b.still c := by
  cases a <;> cases b <;> first | exact h.elim | skip
  all_goals cases c <;> first | exact h'.elim | skip
  · exact ⟨trivial, trivial⟩
  · have h1 := h.2.2
    have h2 := h'.2.2
    simp only [HO.still] at hs ⊢
    omega
  · exact ⟨trivial, trivial⟩
  · exact ⟨trivial, trivial⟩
  · exact ⟨trivial, trivial⟩
theorem Ext.trans {M M' M'' : Nat → Prop} {H H' H'' : Nat → Option HO} {ν ν' ν'' : Nat → Value} {used used' used'' : Nat → Prop} {w w' w'' : World}
    (h : Ext M H ν used w M' H' ν' used' w') (k : Ext M' H' ν' used' w' M'' H'' ν'' used'' w'') : Ext M H ν used w M'' H'' ν'' used'' w'' := by
  refine ⟨⟨Nat.le_trans h.same.size k.same.size, fun b hb hM => ?_⟩, fun b hb hM => h.shrink b hb (k.shrink b (Nat.lt_of_lt_of_le hb h.same.size) hM), fun q hq => k.usd q (h.usd q hq), fun q hq o'' ho'' => ?_, ⟨Nat.le_trans h.same.size k.same.size, fun b hb hM => ?_⟩, fun b hb hM => h.shrinkO b hb (k.shrinkO b (Nat.lt_of_lt_of_le hb h.same.size) hM)⟩
  · rw [k.same.block b (Nat.lt_of_lt_of_le hb h.same.size) (fun hh => hM (h.shrink b hb hh)), h.same.block b hb hM]
  · obtain ⟨o', ho', hl', hs'⟩ := k.obj q (h.usd q hq) o'' ho''
    obtain ⟨o, ho, hl, hs⟩ := h.obj q hq o' ho'
    refine ⟨o, ho, hl.trans hl', fun hst => ?_⟩
    obtain ⟨h1, h2⟩ := HO.still_of hl hl' hst
    rw [hs' h2, hs h1]
  · rw [k.sameO.block b (Nat.lt_of_lt_of_le hb h.same.size) (fun hh => hM (h.shrinkO b hb hh)), h.sameO.block b hb hM]
end Go.Eng

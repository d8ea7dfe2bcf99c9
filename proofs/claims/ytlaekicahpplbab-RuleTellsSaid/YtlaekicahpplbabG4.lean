/- The engine, part 4: operations that only read. -/
import Derived.Test.YtlaekicahpplbabG3
import Derived.WalkSpells
import Derived.WalkLawsBesides
import Derived.Laws.Cover3
import Derived.Laws.Small
import Derived.Laws.Strings
set_option linter.unusedVariables false
set_option linter.unusedSimpArgs false
namespace Go.Eng
open Go.RowKit

/-! ### What is told of types -/
def aggT (P : Program) (t : TypeId) : Option Bool := match P.underlying t with
  | some (.struct _) => some true | some (.array _ _) => some true | some _ => some false | none => none
def szT (P : Program) (t : TypeId) : Option Nat := (P.info? t).map (·.size)
def byT (P : Program) (t : TypeId) : Option Nat := (P.info? t).map (·.bytes)
def elT (P : Program) (t : TypeId) : Option TypeId := match P.underlying t with | some (.slice e) => some e | _ => none
def isBoolT (P : Program) (t : TypeId) : Bool := match P.underlying t with | some .bool => true | _ => false
def isStrT (P : Program) (t : TypeId) : Bool := match P.underlying t with | some .string => true | _ => false
def intT (P : Program) (t : TypeId) : Option IntKind := match P.underlying t with | some (.int k) => some k | _ => none
/-- A field's place, and its cells. -/
def fldT (P : Program) (s i : Nat) : Option (Nat × Nat) := match P.underlying s with
  | some (.struct fs) => match fs[i]? with
    | some f => match szT P f.type with
      | some n => some (f.offset, n)
      | none => none
    | none => none
  | _ => none

section
variable {P : Program} {w : World}
theorem run_isAgg {t : TypeId} {b : Bool} (h : aggT P t = some b) : (isAgg t).run P w = .ok b w := by
  unfold aggT at h
  cases hu : P.underlying t with
  | none => simp [hu] at h
  | some d => cases d <;> simp [hu] at h <;> subst h <;> simp [isAgg, run_underlying hu]
theorem szT_info {t n : Nat} (h : szT P t = some n) : ∃ i, P.info? t = some i ∧ i.size = n := by
  unfold szT at h
  cases hi : P.info? t with
  | none => simp [hi] at h
  | some i => simp [hi] at h; exact ⟨i, rfl, h⟩
theorem run_sizeOf' {t n : Nat} (h : szT P t = some n) : (sizeOf t).run P w = .ok n w := by
  obtain ⟨i, hi, rfl⟩ := szT_info h
  simp [sizeOf, typeInfo, hi]
theorem elT_und {t e : Nat} (h : elT P t = some e) : P.underlying t = some (.slice e) := by
  unfold elT at h
  split at h
  · rename_i e' hu; simp at h; subst h; exact hu
  · cases h
theorem isBoolT_und {t : Nat} (h : isBoolT P t = true) : P.underlying t = some .bool := by
  unfold isBoolT at h
  split at h
  · assumption
  · cases h
theorem isStrT_und {t : Nat} (h : isStrT P t = true) : P.underlying t = some .string := by
  unfold isStrT at h
  split at h
  · assumption
  · cases h
theorem intT_und {t : Nat} {k : IntKind} (h : intT P t = some k) : P.underlying t = some (.int k) := by
  unfold intT at h
  split at h
  · rename_i k' hu; simp at h; subst h; exact hu
  · cases h
theorem fldT_und {s i : Nat} {p : Nat × Nat} (h : fldT P s i = some p) : ∃ fs f, P.underlying s = some (.struct fs) ∧ fs[i]? = some f ∧ szT P f.type = some p.2 ∧ f.offset = p.1 := by
  unfold fldT at h
  split at h
  · rename_i fs hu
    split at h
    · rename_i f hf
      split at h
      · rename_i n hn
        simp at h
        subst h
        exact ⟨fs, f, hu, hf, hn, rfl⟩
      · cases h
    · cases h
  · cases h
end

/-! ### Numbers, truths, texts -/
def intBin (op : BinOp) (k : IntKind) (a : Int) (k' : IntKind) (b : Int) : Option D :=
  match op with
  | .shl => if b < 0 then none else some (.int k (k.wrap (a * 2 ^ min b.toNat k.bits)))
  | .shr => if b < 0 then none else some (.int k (a.fdiv (2 ^ min b.toNat k.bits)))
  | .add => if k = k' then some (.int k (k.wrap (a + b))) else none
  | .sub => if k = k' then some (.int k (k.wrap (a - b))) else none
  | .mul => if k = k' then some (.int k (k.wrap (a * b))) else none
  | .quo => if k = k' then (if b = 0 then none else some (.int k (k.wrap (a.tdiv b)))) else none
  | .rem => if k = k' then (if b = 0 then none else some (.int k (a.tmod b))) else none
  | .and => if k = k' then some (.int k (k.wrap ((BitVec.ofInt k.bits a &&& BitVec.ofInt k.bits b).toNat))) else none
  | .or => if k = k' then some (.int k (k.wrap ((BitVec.ofInt k.bits a ||| BitVec.ofInt k.bits b).toNat))) else none
  | .xor => if k = k' then some (.int k (k.wrap ((BitVec.ofInt k.bits a ^^^ BitVec.ofInt k.bits b).toNat))) else none
  | .andNot => if k = k' then some (.int k (k.wrap ((BitVec.ofInt k.bits a &&& ~~~BitVec.ofInt k.bits b).toNat))) else none
  | .eql => if k = k' then some (.bool (a == b)) else none
  | .neq => if k = k' then some (.bool (a != b)) else none
  | .lss => if k = k' then some (.bool (decide (a < b))) else none
  | .leq => if k = k' then some (.bool (decide (a ≤ b))) else none
  | .gtr => if k = k' then some (.bool (decide (a > b))) else none
  | .geq => if k = k' then some (.bool (decide (a ≥ b))) else none
def isNil : AV → Option Bool
  | .d x => match x with
    | .nils => some true
    | .sl _ xs => match xs with | [] => none | _ :: _ => some false
    | _ => none
  | .own _ n => if 0 < n then some false else none
  | .vs .. => some false
  | _ => none
def strBin (op : BinOp) (a b : ByteArray) : Option D :=
  match op with
  | .eql => some (.bool (a.toList == b.toList))
  | .neq => some (.bool !(a.toList == b.toList))
  | _ => none
def nilBin (op : BinOp) (b : Bool) : Option D :=
  match op with
  | .eql => some (.bool b)
  | .neq => some (.bool !b)
  | _ => none
def evBin (P : Program) (t : TypeId) (op : BinOp) (x y : AV) : Option AV :=
  match x, y with
  | .d (.int k a), .d (.int k' b) => (intBin op k a k' b).map .d
  | .d (.bool a), .d (.bool b) => if isBoolT P t then (nilBin op (a == b)).map .d else none
  | .d (.str a), .d (.str b) => (strBin op a b).map .d
  | x, .d .nils => match elT P t with
    | some _ => match isNil x with | some b => (nilBin op b).map .d | none => none
    | none => none
  | _, _ => none
def evUn (op : UnOp) (x : AV) : Option AV :=
  match op, x with
  | .not, .d (.bool b) => some (.d (.bool !b))
  | .neg, .d (.int k n) => some (.d (.int k (k.wrap (0 - n))))
  | _, _ => none

section
variable {P : Program} {w : World} {M : Nat → Prop} {H : Nat → Option HO} {ν : Nat → Value} {used : Nat → Prop}
theorem isNil_rep {x : AV} {v : Value} {b : Bool} (h : RepA w M H ν used x v) (he : isNil x = some b) : ∃ a n c, v = .slice a n c ∧ a.isNone = b := by
  cases h with
  | d h =>
    cases h with
    | nils => simp [isNil] at he; subst he; exact ⟨none, 0, 0, rfl, rfl⟩
    | sl0 => simp [isNil] at he
    | sl val hb hM hc hm hs h1 h2 =>
      simp only [isNil] at he
      split at he
      · cases he
      · simp at he; subst he; exact ⟨_, _, _, rfl, rfl⟩
    | _ => simp [isNil] at he
  | own hu h1 hc ha h =>
    rename_i k n c a
    simp only [isNil] at he
    split at he
    · rename_i hn
      simp at he
      subst he
      refine ⟨a, n, c, h1, ?_⟩
      cases a with
      | some _ => rfl
      | none => have := (ha rfl).1; omega
    · cases he
  | vs hu hc h => simp only [isNil, Option.some.injEq] at he; subst he; exact ⟨_, _, _, rfl, rfl⟩
  | _ => simp [isNil] at he
theorem intBin_sound {t : TypeId} {op : BinOp} {k k' : IntKind} {a b : Int} {d : D} (ox oy : Operand) (he : intBin op k a k' b = some d) :
    ∃ v, (do eqGuard op t ox oy (.int k a) (.int k' b); binOp op t (.int k a) (.int k' b) : Sem Value).run P w = .ok v w ∧ RepD w M d v := by
  cases op <;> simp only [intBin] at he
  all_goals (repeat' split at he)
  all_goals first | (cases he; done) | skip
  all_goals (cases he; (try subst k'); refine ⟨_, ?_, by constructor⟩; simp [eqGuard, binOp, Op.intArith, Op.intCmp, Op.intDiv, Op.intBits, Op.shift, *]; done)
theorem evBin_sound {t : TypeId} {op : BinOp} {x y : AV} {v1 v2 : Value} {r : AV} (ox oy : Operand) (h1 : RepA w M H ν used x v1) (h2 : RepA w M H ν used y v2) (he : evBin P t op x y = some r) :
    ∃ v, (do eqGuard op t ox oy v1 v2; binOp op t v1 v2 : Sem Value).run P w = .ok v w ∧ RepA w M H ν used r v := by
  unfold evBin at he
  split at he
  · rename_i k a k' b
    cases h1 with
    | d h1 => cases h1; cases h2 with
      | d h2 =>
        cases h2
        cases hd : intBin op k a k' b with
        | none => simp [hd] at he
        | some d =>
          simp [hd] at he
          subst he
          obtain ⟨v, hr, hv⟩ := intBin_sound (P := P) (w := w) (M := M) (t := t) ox oy hd
          exact ⟨v, hr, .d hv⟩
  · rename_i a b
    split at he
    · rename_i hb
      cases h1 with
      | d h1 => cases h1; cases h2 with
        | d h2 =>
          cases h2
          have hu := isBoolT_und hb
          cases op <;> simp [nilBin] at he <;> subst he
          · exact ⟨.bool (a == b), by simp [eqGuard, run_eql_bool w t a b hu], .d (by constructor)⟩
          · exact ⟨_, by simp [eqGuard, run_neq_bool w t a b hu]; rfl, .d (by constructor)⟩
    · cases he
  · rename_i a b
    cases h1 with
    | d h1 => cases h1; cases h2 with
      | d h2 =>
        cases h2
        cases op <;> simp [strBin] at he <;> subst he
        · exact ⟨_, by simp [eqGuard, binOp_string_eql]; rfl, .d (by constructor)⟩
        · exact ⟨_, by simp [eqGuard, binOp_string_neq]; rfl, .d (by constructor)⟩
  · split at he
    · rename_i e hel
      split at he
      · rename_i b hn
        cases h2 with
        | d h2 =>
          cases h2
          obtain ⟨a, n, c, rfl, rfl⟩ := isNil_rep h1 hn
          have hu := elT_und hel
          cases op <;> simp [nilBin] at he <;> subst he
          · exact ⟨.bool a.isNone, by simp [eqGuard, binOp, run_equal_slice_nil w t e a n c hu], .d (by constructor)⟩
          · exact ⟨_, by simp [eqGuard, run_neq_slice_nil w t e a n c hu]; rfl, .d (by constructor)⟩
      · cases he
    · cases he
  · cases he
theorem evUn_sound {op : UnOp} {x : AV} {v : Value} {r : AV} (h : RepA w M H ν used x v) (he : evUn op x = some r) : ∃ u, (Op.unary op v).run P w = .ok u w ∧ RepA w M H ν used r u := by
  unfold evUn at he
  split at he
  · cases h with
    | d h => cases h; simp at he; subst he; exact ⟨_, by simp [Op.unary]; rfl, .d (by constructor)⟩
  · cases h with
    | d h => cases h; simp at he; subst he; exact ⟨_, by simp [Op.unary, Op.intArith]; rfl, .d (by constructor)⟩
  · cases he
end
end Go.Eng

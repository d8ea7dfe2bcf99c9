/- The engine, part 16: rules for proofs by evaluation. -/
import Derived.Test.YtlaekicahpplbabG15
import Derived.KernelRfl
set_option linter.unusedVariables false
set_option linter.unusedSimpArgs false
namespace Go.Eng
open Go.RowKit

section
variable {P : Program} {S : Sp} {s : St} {Q : Exit → St → Prop} {K : St → Prop}
theorem Rel.more {E : Env} {hp : Heap} {c c' : Nat} {a : Act} {w : World} (h : Rel S ⟨E, hp, c⟩ a w) (hc : c ≤ c') : Rel S ⟨E, hp, c'⟩ a w := by
  obtain ⟨hle, ν, hI, hx⟩ := h
  have hI2 := hI.heap.used_mono (used' := (· < c')) (fun k hk => Nat.lt_of_lt_of_le hk hc) (fun k _ hn => by
    cases ho : lk hp k with
    | none => rfl
    | some o => exact absurd (hI.heap.usd _ _ ho) hn)
  have x2 : Ext (Mut S.X.M0 (lk hp) ν) (lk hp) ν (· < c) w (Mut S.X.M0 (lk hp) ν) (lk hp) ν (· < c') w :=
    ⟨Same.refl _ _, fun _ _ h => h, fun k hk => Nat.lt_of_lt_of_le hk hc, fun q _ o ho => ⟨o, ho, by cases o <;> simp [HO.later], fun _ => rfl⟩, Same.refl _ _, fun _ _ h => h⟩
  exact ⟨Nat.le_trans hle hc, ν, ⟨hI2, fun n av hn => (hI.env n av hn).ext x2, hI.size, hI.defers.mono x2.same x2.shrink⟩, hx.trans x2⟩
theorem WP_r {id : Nat} {l : List Oper} {E : Env} {hp : Heap} {c : Nat} {outs : List Out} {E' : Env} {hp' : Heap} {N : Nat} (hN : S.N = N) (hd : (dstOk N l && Nat.ble l.length 1000) = true) {c' : Nat} (hc : c + 1000 = c') (hev : Ev P l.toArray c 0 l E hp outs E' hp')
    (h : Q .normal ⟨E', hp', c'⟩) : WP P S (.region id l.toArray false) ⟨E, hp, c⟩ Q := by
  subst hN
  subst hc
  simp only [Bool.and_eq_true, Nat.ble_eq] at hd
  refine fun a w hr => wpIn_mono (WP_region (Q := fun e s' => e = .normal ∧ s' = ⟨E', hp', c + l.length⟩) (ops := l.toArray) hev hd.1 ⟨rfl, rfl⟩ a w hr) ?_
  rintro e a' w' ⟨s', h1, rfl, rfl⟩
  exact ⟨_, h1.more (by have := hd.2; omega), h⟩
theorem WP_d {id : Nat} {l : List Oper} {E : Env} {hp : Heap} {c : Nat} {outs : List Out} {E' : Env} {hp' : Heap} {ks : List (List Nat × List Nat)} {N : Nat} (hm : P.follows .mixedOrders = true) (hN : S.N = N) (hd : (dstOk N l && Nat.ble l.length 1000) = true)
    {c' : Nat} (hc : c + 1000 = c') (hev : Ev P l.toArray c 0 l E hp outs E' hp') (hks : outs.map outKeys = ks) (hok : orderOk l.toArray ks = true) (h : Q .normal ⟨E', hp', c'⟩) : WP P S (.region id l.toArray true) ⟨E, hp, c⟩ Q := by
  subst hN
  subst hc
  simp only [Bool.and_eq_true, Nat.ble_eq] at hd
  subst hks
  refine fun a w hr => wpIn_mono (WP_draw (Q := fun e s' => e = .normal ∧ s' = ⟨E', hp', c + l.length⟩) (ops := l.toArray) hm hev hd.1 hok ⟨rfl, rfl⟩ a w hr) ?_
  rintro e a' w' ⟨s', h1, rfl, rfl⟩
  exact ⟨_, h1.more (by have := hd.2; omega), h⟩
theorem Ev_op {ops : Array Oper} {c i q : Nat} {o : Oper} {os : List Oper} {E E1 E' : Env} {hp hp1 hp' : Heap} {v : AV} {es : List (Nat × Option HO)} {acc : List Nat} {outs : List Out} (hq : c + i = q) (hg : gd ops E o.guard = some true) (he : evOp P q (opnd E) (lk hp) o.op = some (v, es, acc))
    (hE : setE E o.dst v = E1) (hH : eff hp es = hp1) (t : Ev P ops c (i + 1) os E1 hp1 outs E' hp') : Ev P ops c i (o :: os) E hp (⟨o.dst, v, es, acc⟩ :: outs) E' hp' := by
  subst hE; subst hH; subst hq
  exact .cons (.op hg he) t
theorem Ev_skip {ops : Array Oper} {c i : Nat} {o : Oper} {os : List Oper} {E E1 E' : Env} {hp hp' : Heap} {outs : List Out} (hg : gd ops E o.guard = some false)
    (hE : setE E o.dst (.tup []) = E1) (t : Ev P ops c (i + 1) os E1 hp outs E' hp') : Ev P ops c i (o :: os) E hp (⟨o.dst, .tup [], [], []⟩ :: outs) E' hp' := by
  subst hE
  exact .cons (.skip hg) t
theorem Ev_call {ops : Array Oper} {c i : Nat} {dst : Option Nat} {ty : TypeId} {pos : String} {after : Array Edge} {guard : Option (Nat × Bool)} {os : List Oper} {E E1 E' : Env} {hp hp1 hp' : Heap} {outs : List Out} {f : Operand} {args : List Operand} {ts : Array TypeId} {g : FuncId} {ds : List D} {ks : List Nat} {r : D}
    (hg : gd ops E guard = some true) (hf : opnd E f = .d (.fn g)) (ha : toDs (lk hp) (args.map (opnd E)) = some (ds, ks)) (hs : Sound P g ds r)
    {es : List (Nat × Option HO)} (hes : (if r.flat then [] else kills ks) = es) (hE : setE E dst (.d r) = E1) (hH : eff hp es = hp1) (t : Ev P ops c (i + 1) os E1 hp1 outs E' hp') :
    Ev P ops c i (⟨dst, .call ⟨.value f, args.toArray, ts⟩, ty, pos, after, guard⟩ :: os) E hp (⟨dst, .d r, es, ks⟩ :: outs) E' hp' := by
  subst hE; subst hH; subst hes
  exact .cons (.call hg rfl hf ha hs) t
theorem then_n (h : K s) : thenQ K Q .normal s := h
theorem WP_k {code : Code} {E : Env} {hp : Heap} {c : Nat} (ns ks : List Nat) (c' : Nat) {E' : Env} {hp' : Heap} (hE : keepL E ns = E') (hH : keepL hp ks = hp') (hc : S.R.c ≤ c') (hE' : envBelow c' E' = true) (hH' : heapBelow c' hp' = true)
    (h : WP P S code ⟨E', hp', c'⟩ Q) : WP P S code ⟨E, hp, c⟩ Q := by
  subst hE
  subst hH
  exact WP_keep ns ks c' hc hE' hH' h
end

/-! ### Numbers that fit -/
theorem wrap_i64 {z : Int} (h0 : -9223372036854775808 ≤ z) (h1 : z ≤ 9223372036854775807) : IntKind.i64.wrap z = z := by
  rw [IntKind.wrap_i64]; omega
theorem wrap_u64 {z : Int} (h0 : 0 ≤ z) (h1 : z ≤ 18446744073709551615) : IntKind.u64.wrap z = z := by
  simp only [IntKind.wrap, IntKind.bits, IntKind.signed]
  simp
  omega
theorem dec_lt {a b : Int} (h : a < b) : decide (a < b) = true := decide_eq_true h
theorem dec_nlt {a b : Int} (h : b ≤ a) : decide (a < b) = false := decide_eq_false (by omega)
theorem dec_le {a b : Int} (h : a ≤ b) : decide (a ≤ b) = true := decide_eq_true h
theorem dec_nle {a b : Int} (h : b < a) : decide (a ≤ b) = false := decide_eq_false (by omega)
theorem beq_t {a b : Int} (h : a = b) : (a == b) = true := beq_iff_eq.2 h
theorem beq_f {a b : Int} (h : a ≠ b) : (a == b) = false := beq_eq_false_iff_ne.2 h
theorem bne_t {a b : Int} (h : a ≠ b) : (a != b) = true := bne_iff_ne.2 h
theorem bne_f {a b : Int} (h : a = b) : (a != b) = false := bne_eq_false_iff_eq.2 h
theorem get_lt {α : Type} [Inhabited α] {l : List α} {k : Nat} (h : k < l.length) : l[k]? = some (l[k]!) := by
  rw [List.getElem?_eq_getElem h, getElem!_pos l k h]
end Go.Eng

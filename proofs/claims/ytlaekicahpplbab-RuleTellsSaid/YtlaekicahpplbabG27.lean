/- The engine, part 27: goals by their heads. -/
import Derived.Test.YtlaekicahpplbabG22
namespace Go.Eng
theorem lk_ok {α : Type} {E : List (Nat × α)} {n : Nat} {v : Option α} (h : lk E n = v) : lk E n = v := h
theorem gslot_ok {ops : Array Oper} {j : Nat} {v : Option Nat} (h : gslot ops j = v) : gslot ops j = v := h
theorem v2d_ok {x : Value} {v : Option D} (h : v2d x = v) : v2d x = v := h
theorem args0_5 {a b c d e : D} : args0 [a, b, c, d, e] = [(0, .d a), (1, .d b), (2, .d c), (3, .d d), (4, .d e)] := rfl
theorem args0_6 {a b c d e f : D} : args0 [a, b, c, d, e, f] = [(0, .d a), (1, .d b), (2, .d c), (3, .d d), (4, .d e), (5, .d f)] := rfl
theorem argsA_5 {a b c d e : AV} : argsA [a, b, c, d, e] = [(0, a), (1, b), (2, c), (3, d), (4, e)] := rfl
theorem argsA_6 {a b c d e f : AV} : argsA [a, b, c, d, e, f] = [(0, a), (1, b), (2, c), (3, d), (4, e), (5, f)] := rfl
end Go.Eng

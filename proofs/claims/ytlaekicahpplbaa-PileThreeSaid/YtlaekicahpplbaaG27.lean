/- The engine, part 27: goals by their heads. -/
import Derived.Test.YtlaekicahpplbaaG22
namespace Go.Eng
theorem lk_ok {α : Type} {E : List (Nat × α)} {n : Nat} {v : Option α} (h : lk E n = v) : lk E n = v := h
theorem gslot_ok {ops : Array Oper} {j : Nat} {v : Option Nat} (h : gslot ops j = v) : gslot ops j = v := h
theorem v2d_ok {x : Value} {v : Option D} (h : v2d x = v) : v2d x = v := h
end Go.Eng

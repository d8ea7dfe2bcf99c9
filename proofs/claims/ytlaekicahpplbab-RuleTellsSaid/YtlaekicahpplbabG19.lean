/- The engine, part 19: what a call hands in, as data. -/
import Derived.Test.YtlaekicahpplbabG18
import Derived.WalkKit
import Derived.ProofKit
import Derived.OpenShut
import Derived.ShutString
import Derived.ChangeOld
import Derived.Below
import Derived.SizedLaws
set_option linter.unusedVariables false
namespace Go.Eng
open Go.ChangeShapes Go.WideShapes Go.ChangeAt Go.RowKit

theorem wf_u64 {n : Int} (h : (Lit.int .u64 n).wf = true) : U n := by
  simp only [Lit.wf, Bool.and_eq_true, decide_eq_true_eq] at h
  exact h
theorem wf_i64 {n : Int} (h : (Lit.int .i64 n).wf = true) : -9223372036854775808 ≤ n ∧ n ≤ 9223372036854775807 := by
  simp only [Lit.wf, Bool.and_eq_true, decide_eq_true_eq] at h
  exact h
theorem wf_u32 {n : Int} (h : (Lit.int .u32 n).wf = true) : 0 ≤ n ∧ n ≤ 4294967295 := by
  simp only [Lit.wf, Bool.and_eq_true, decide_eq_true_eq] at h
  exact h
theorem wf_u8 {n : Int} (h : (Lit.int .u8 n).wf = true) : 0 ≤ n ∧ n ≤ 255 := by
  simp only [Lit.wf, Bool.and_eq_true, decide_eq_true_eq] at h
  exact h
theorem block_of_wide {P : Program} {w : World} {r : Reach} {base : Nat} {t e : TypeId} {a : Addr} {len cap : Nat} (ht : P.underlying t = some (.slice e)) (h : Value.okWide P w r base t (.slice (some a) len cap)) : a.block < w.heap.size := by
  simp only [Value.okWide, ht, Cell.okWide, Cell.ok, World.has] at h
  obtain ⟨_, _, _, _, row, cells, hs, _⟩ := h
  unfold World.shape? at hs
  by_cases hb : a.block < w.heap.size
  · exact hb
  · rw [Array.getElem?_eq_none (by omega)] at hs
    cases hs
/-- A slice of costs that a call hands in. -/
theorem open_us {H : Type} {enc : TypeId × Value → H} {P : Program} {W : World} {r : Reach} {b0 base : Nat} {held : Bool} {t e : TypeId} {v : Value} {d : DataW H} {ps : List MemPlace} (ht : P.underlying t = some (.slice e)) (he : P.underlying e = some (.int .u64)) (hc : P.cellsOf e = 1)
    (hval : Value.okWide P W r b0 t v) (hd : DataW.Trod enc P W base (fun _ => true) held t v d ps) : ∃ l : List Int, (∀ z ∈ l, U z) ∧ l.length ≤ 9223372036854775807 ∧ RepD W (fun _ => False) (.sl 1 (us l)) v := by
  obtain ⟨a, len, cap, rfl⟩ := okWide_slice ht hval
  obtain ⟨fuel, hf⟩ := hd
  rcases open_ints ht he hc hf with ⟨hcs, _⟩ | ⟨x, l, c, zs, hcs, _, hl, hm, hz, _, hcell, hwz⟩
  · simp [Value.cells] at hcs
    obtain ⟨rfl, rfl, rfl⟩ := hcs
    exact ⟨[], by simp, by simp, .sl0⟩
  · simp [Value.cells] at hcs
    obtain ⟨rfl, rfl, rfl⟩ := hcs
    have hb := block_of_wide ht hval
    simp only [if_true] at hz
    have hlen : (zs.take len).length = len := by simp; omega
    have hm' : cap ≤ 9223372036854775807 := hm
    refine ⟨zs.take len, fun z hz => wf_u64 (hwz z (List.mem_of_mem_take hz)), by omega, ?_⟩
    have e : len = (us (zs.take len)).length := by rw [us_len, hlen]
    have at' : ∀ (i : Nat) x, (us (zs.take len))[i]? = some x → i < len ∧ x = .int .u64 (zs.getD i 0) := fun i x hx => by
      have hi : i < len := by have := (List.getElem?_eq_some_iff.1 hx).1; omega
      refine ⟨hi, ?_⟩
      simp only [us, List.getElem?_map, List.getElem?_take, if_pos hi] at hx
      have hzi := List.getElem?_eq_getElem (l := zs) (i := i) (by omega)
      rw [hzi] at hx
      simp at hx
      rw [← hx, List.getD_eq_getElem?_getD, hzi]
      rfl
    conv => arg 4; rw [e]
    refine .sl (fun i _ => .int .u64 (zs.getD i 0)) (fun _ => hb) (fun _ h => h) (by omega) hm (fun i x hx => ?_) (fun i x j d hx hj => ?_) (fun i x j d hx hj => ?_)
    · obtain ⟨_, rfl⟩ := at' i x hx
      exact ⟨rfl, fun d hd => by simp [D.comps] at hd; subst hd; rfl⟩
    · obtain ⟨hi, rfl⟩ := at' i x hx
      cases j with
      | zero => simpa using hcell i (by omega)
      | succ j => simp [D.comps] at hj
    · obtain ⟨hi, rfl⟩ := at' i x hx
      cases j with
      | zero => simp [D.comps] at hj; subst hj; exact .int _ _
      | succ j => simp [D.comps] at hj
end Go.Eng

/- The engine, part 40: the blocks that loops over functions leave behind are shut at a frame's end. -/
import Derived.Test.YtlaekicahpplbabG14
set_option linter.unusedVariables false
set_option linter.unusedSimpArgs false
namespace Go.Eng
open Go.RowKit

/-- Blocks of deferred calls turn, and no others. -/
structure Book (lo : Nat) (M : Nat → Prop) (w w' : World) : Prop where
  os : w'.os = w.os
  tape : w'.tape = w.tape
  output : w'.output = w.output
  drawn : w'.drawn = w.drawn
  size : w'.heap.size = w.heap.size
  block : ∀ b, w'.heap[b]? = w.heap[b]? ∨ (lo ≤ b ∧ ¬ M b ∧ ∃ ds, w.heap[b]? = some (.deferred ds))
theorem Book.refl (lo : Nat) (M : Nat → Prop) (w : World) : Book lo M w w := ⟨rfl, rfl, rfl, rfl, rfl, fun _ => .inl rfl⟩
theorem Book.trans {lo : Nat} {M : Nat → Prop} {a b c : World} (h : Book lo M a b) (k : Book lo M b c) : Book lo M a c :=
  ⟨k.os.trans h.os, k.tape.trans h.tape, k.output.trans h.output, k.drawn.trans h.drawn, k.size.trans h.size, fun q => by
    rcases h.block q with h1 | h1
    · rcases k.block q with h2 | ⟨h2, h3, ds, h4⟩
      · exact .inl (h2.trans h1)
      · exact .inr ⟨h2, h3, ds, h1 ▸ h4⟩
    · exact .inr h1⟩
theorem Book.put {lo : Nat} {M : Nat → Prop} {w : World} {B : Nat} {ds : Option (List Deferred)} {o : Obj} (hl : lo ≤ B) (hM : ¬ M B) (h : w.heap[B]? = some (.deferred ds)) : Book lo M w (w.putObj B o) :=
  ⟨rfl, rfl, rfl, rfl, World.putObj_size, fun b => by
    by_cases e : b = B
    · subst e; exact .inr ⟨hl, hM, ds, h⟩
    · exact .inl (World.putObj_heap_other e)⟩
theorem Book.cell {lo : Nat} {M : Nat → Prop} {w w' : World} (h : Book lo M w w') {a : Addr} {v : Value} (hc : w.cell? a = some v) : w'.cell? a = some v := by
  rcases h.block a.block with h1 | ⟨_, _, ds, h1⟩
  · rw [World.cell?_of_block h1]; exact hc
  · simp [World.cell?, h1] at hc
theorem Book.mut {lo : Nat} {M : Nat → Prop} {w w' : World} (h : Book lo M w w') {b : Nat} (hM : M b) : w'.heap[b]? = w.heap[b]? := by
  rcases h.block b with h1 | ⟨_, h1, _⟩
  · exact h1
  · exact absurd hM h1
theorem Book.low {lo : Nat} {M : Nat → Prop} {w w' : World} (h : Book lo M w w') {b : Nat} (hb : b < lo) : w'.heap[b]? = w.heap[b]? := by
  rcases h.block b with h1 | ⟨h1, _⟩
  · exact h1
  · omega
theorem RepD.book {lo : Nat} {M M' : Nat → Prop} {w w' : World} (hs : Book lo M' w w') {d : D} {v : Value} (h : RepD w M d v) : RepD w' M d v := by
  induction h with
  | bool b => exact .bool b
  | int k n => exact .int k n
  | str s => exact .str s
  | fn f => exact .fn f
  | nilf => exact .nilf
  | agg hl hc _ ih => exact .agg hl hc ih
  | tup hl _ ih => exact .tup hl ih
  | nils => exact .nils
  | sl0 => exact .sl0
  | sl val hb hM' hc hm hsz h1 _ ih => exact .sl val (fun hn => by rw [hs.size]; exact hb hn) hM' hc hm hsz (fun i x j d hx hd => hs.cell (h1 i x j d hx hd)) ih
theorem RepA.book {lo : Nat} {M M' : Nat → Prop} {H : Nat → Option HO} {ν : Nat → Value} {used : Nat → Prop} {w w' : World} (hs : Book lo M' w w') {av : AV} {v : Value} (h : RepA w M H ν used av v) : RepA w' M H ν used av v := by
  induction h with
  | undef v => exact .undef v
  | d h => exact .d (h.book hs)
  | agg hl hc _ ih => exact .agg hl hc ih
  | tup hl _ ih => exact .tup hl ih
  | own hu h1 hc ha h => exact .own hu h1 hc ha h
  | clip h => exact .clip (h.book hs)
  | ref hu h => exact .ref hu h
  | eref hu hi ho h => exact .eref hu hi ho h
  | dref val hb hM hc h1 h2 => exact .dref val (by rw [hs.size]; exact hb) hM hc (fun j d hd => hs.cell (h1 j d hd)) (fun j d hd => (h2 j d hd).book hs)
  | fn hl _ ih => exact .fn hl ih
  | map hu h => exact .map hu h
  | it hu h => exact .it hu h
  | vs hu hc h => exact .vs hu hc h
  | yld hu h => exact .yld hu h
theorem HInv.book {X : Ctx} {H : Nat → Option HO} {ν : Nat → Value} {used : Nat → Prop} {w w' : World} {lo : Nat} (hI : HInv X H ν used w) (hlo : X.base ≤ lo) (hs : Book lo (Mut X.M0 H ν) w w') : HInv X H ν used w' := by
  refine ⟨⟨hI.below.lo.trans ⟨hs.os, hs.tape, hs.output, by rw [hs.size]; exact Nat.le_refl _, fun k hk => hs.low (by omega)⟩, by rw [hs.drawn]; exact hI.below.drawn⟩, fun b hb => by rw [hs.size]; exact hI.M0 b hb, hI.far, hI.usd, fun k o b h1 h2 => by rw [hs.size]; exact hI.blk k o b h1 h2, hI.inj, fun k o hk => ?_⟩
  have hb : ∀ b, blockOf (ν k) = some b → w'.heap[b]? = w.heap[b]? := fun b hb => hs.mut (.inr ⟨k, o, hk, hb⟩)
  have hob := hI.obj k o hk
  generalize ν k = v at hob hb
  cases o with
  | var cs =>
    obtain ⟨b, cells, e, rfl, hg, hl, hc, hr⟩ := hob
    exact ⟨b, cells, e, rfl, by rw [hb b rfl]; exact hg, hl, hc, fun i av u h1 h2 => (hr i av u h1 h2).book hs⟩
  | row e sz xs =>
    obtain ⟨vals, ho, hz, hf, hr⟩ := hob
    exact ⟨vals, ownsRow_of_block ho hb, hz, hf, fun i x j d hx hd => let ⟨u, h1, h2⟩ := hr i x j d hx hd; ⟨u, h1, h2.book hs⟩⟩
  | map kt et es =>
    obtain ⟨r, entries, rfl, hg, hl, hr⟩ := hob
    exact ⟨r, entries, rfl, by rw [hb r rfl]; exact hg, hl, fun i kd vd en h1 h2 => let ⟨a, b, c⟩ := hr i kd vd en h1 h2; ⟨a, b.book hs, c.book hs⟩⟩
  | iter m c seen =>
    obtain ⟨b, mr, rfl, hg, hu, hm⟩ := hob
    exact ⟨b, mr, rfl, by rw [hb b rfl]; exact hg, hu, hm⟩
  | loop Y cs st =>
    obtain ⟨l, lr, rfl, hg, h1, h2, hl, hr⟩ := hob
    exact ⟨l, lr, rfl, by rw [hb l rfl]; exact hg, h1, h2, hl, fun i av u h1 h2 => (hr i av u h1 h2).book hs⟩
theorem Ext.book {M M' : Nat → Prop} {H H' : Nat → Option HO} {ν ν' : Nat → Value} {used used' : Nat → Prop} {w w1 w2 : World} {M2 : Nat → Prop} (h : Ext M H ν used w M' H' ν' used' w1) (hs : Book w.heap.size M2 w1 w2) : Ext M H ν used w M' H' ν' used' w2 :=
  ⟨⟨by rw [hs.size]; exact h.same.size, fun b hb hM => by rw [hs.low hb]; exact h.same.block b hb hM⟩, h.shrink, h.usd, h.obj, ⟨by rw [hs.size]; exact h.sameO.size, fun b hb hM => by rw [hs.low hb]; exact h.sameO.block b hb hM⟩, h.shrinkO⟩
/-- At a frame's end its marks are taken up, one by one; then its results are read. -/
theorem Marks.leave {P : Program} {fn : Func} {tmps : Array Value} {R : Ending → World → Prop} {lo : Nat} {M : Nat → Prop} : ∀ (ds : List Deferred) (w : World), Marks lo w M ds →
    (∀ w', Book lo M w w' → ∃ v, (results fn tmps).run P w' = .ok v w' ∧ R (.returned v) w') → LeavesInM Fence.wide 0 P fn tmps R ds .returning w
  | [], w, _, h => h w (Book.refl _ _ _)
  | d :: ds, w, hm, h => by
    obtain ⟨hs, ⟨B, rfl, h1, h2, h3⟩, hn, hr⟩ := hm
    have hb := Book.put (o := .deferred none) h1 h3 h2
    refine ⟨by simp, .inl ⟨B, w.putObj B (.deferred none), rfl, run_takeDeferred h2, Marks.leave ds _ ⟨by rw [hb.size]; exact hs, ?_⟩ fun w' hw => h w' (hb.trans hw)⟩⟩
    clear h
    induction ds with
    | nil => trivial
    | cons d ds ih =>
      obtain ⟨⟨B', rfl, g1, g2, g3⟩, gn, gr⟩ := hr
      simp only [List.mem_cons, not_or] at hn
      refine ⟨⟨B', rfl, g1, ?_, g3⟩, gn, ih hn.2 gr⟩
      rw [World.putObj_heap_other (fun e => hn.1 (by rw [e]))]
      exact g2
end Go.Eng

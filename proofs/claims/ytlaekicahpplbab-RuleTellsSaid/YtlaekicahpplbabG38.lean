/- The engine, part 38: what a variable holds is data from now on. -/
import Derived.Test.YtlaekicahpplbabG37
set_option linter.unusedVariables false
set_option linter.unusedSimpArgs false
namespace Go.Eng
open Go.RowKit
section
variable {P : Program} {S : Sp} {Q : Exit → St → Prop}
theorem Rel.fix {E : Env} {hp : Heap} {c : Nat} {a : Act} {w : World} (h : Rel S ⟨E, hp, c⟩ a w) (k : Nat) {cs : List AV} {ds : List D} {ks : List Nat} (hl : lk hp k = some (.var cs)) (hd : toDs (lk hp) cs = some (ds, ks)) (hk : ks.elem k = false) (hc : ds.all D.cell = true) :
    Rel S ⟨E, put (dels hp ks) k (.var (ds.map .d)), c⟩ a w := by
  obtain ⟨hle, ν, hI, hx⟩ := h
  simp only at hI hx hle
  have hkk : k ∉ ks := by simpa using hk
  obtain ⟨i1, x1⟩ := hI.heap.drops ks
  have hk1 : lk (dels hp ks) k = some (.var cs) := by rw [lk_dels_other ks hp k hkk]; exact hl
  have hob := hI.heap.obj _ _ hl
  obtain ⟨b, cells, e, h1, h2, h3, h4, h5⟩ := hob
  have hget : ∀ q o, lk (put (dels hp ks) k (.var (ds.map .d))) q = some o → ∃ o', lk (dels hp ks) q = some o' := fun q o h => by
    by_cases e : q = k
    · subst e; exact ⟨_, hk1⟩
    · rw [lk_put_other _ _ _ _ e] at h; exact ⟨o, h⟩
  have hM : ∀ b, Mut S.X.M0 (lk (put (dels hp ks) k (.var (ds.map .d)))) ν b → Mut S.X.M0 (lk (dels hp ks)) ν b := fun b h => by
    rcases h with h | ⟨q, o, hq, hb⟩
    · exact .inl h
    · obtain ⟨o', h'⟩ := hget q o hq; exact .inr ⟨q, o', h', hb⟩
  have hrep := toDs_rep hI.heap (M' := Mut S.X.M0 (lk (put (dels hp ks) k (.var (ds.map .d)))) ν) (fun b h => Mut.dels_sub b (hM b h)) cs cells.toList ds ks (by simp [h3]) (fun i d v hi hv => h5 i d v hi (by simpa using hv)) hd
    (fun q hq b hb h => hI.heap.notMut (toDs_keys _ _ _ hd) q hq b hb (hM b h))
  have hlen : ds.length = cs.length := by rw [hrep.1]; simp [h3]
  have x2 : Ext (Mut S.X.M0 (lk (dels hp ks)) ν) (lk (dels hp ks)) ν (· < c) w (Mut S.X.M0 (lk (put (dels hp ks) k (.var (ds.map .d)))) ν) (lk (put (dels hp ks) k (.var (ds.map .d)))) ν (· < c) w := by
    refine ⟨Same.refl _ _, fun b _ h => hM b h, fun _ h => h, fun q _ o ho => ?_, Same.refl _ _, fun b _ ⟨q, o, hq, hb⟩ => let ⟨o', h'⟩ := hget q o hq; ⟨q, o', h', hb⟩⟩
    by_cases e : q = k
    · subst e
      rw [lk_put_same] at ho
      cases ho
      exact ⟨_, hk1, by simp [HO.later, hlen], fun _ => rfl⟩
    · rw [lk_put_other _ _ _ _ e] at ho
      exact ⟨o, ho, by cases o <;> simp [HO.later], fun _ => rfl⟩
  refine ⟨hle, ν, ⟨⟨i1.below, i1.M0, fun q o b hq hb => ?_, fun q o hq => ?_, fun q o b hq hb => ?_, fun q q' o o' b g1 g2 hb1 hb2 => ?_, fun q o hq => ?_⟩, fun n av hn => (hI.env n av hn).ext (x1.trans x2), hI.size, (hI.defers.mono x1.same x1.shrink).mono x2.same x2.shrink⟩, hx.trans (x1.trans x2)⟩
  · obtain ⟨o', h'⟩ := hget q o hq; exact i1.far _ _ _ h' hb
  · obtain ⟨o', h'⟩ := hget q o hq; exact i1.usd _ _ h'
  · obtain ⟨o', h'⟩ := hget q o hq; exact i1.blk _ _ _ h' hb
  · obtain ⟨o1, k1⟩ := hget q o g1
    obtain ⟨o2, k2⟩ := hget q' o' g2
    exact i1.inj _ _ _ _ _ k1 k2 hb1 hb2
  · by_cases e1 : q = k
    · subst e1
      rw [lk_put_same] at hq
      cases hq
      refine ⟨b, cells, e, h1, h2, by rw [h3, List.length_map, hlen], fun x hx => ?_, fun i av u hi hu => ?_⟩
      · obtain ⟨d, hd1, rfl⟩ := List.mem_map.1 hx
        have := List.all_eq_true.1 hc d hd1
        simpa [AV.cell] using this
      · rw [List.getElem?_map] at hi
        obtain ⟨d, hd1, rfl⟩ := Option.map_eq_some_iff.1 hi
        exact .d (hrep.2 i d u hd1 (by simpa using hu))
    · rw [lk_put_other _ _ _ _ e1] at hq
      exact (i1.obj _ _ hq).ext x2 (fun _ _ => rfl)
theorem WP_fix {code : Code} {E : Env} {hp : Heap} {c : Nat} (k : Nat) {cs : List AV} {ds : List D} {ks : List Nat} {hp' : Heap} (hl : lk hp k = some (.var cs)) (hd : toDs (lk hp) cs = some (ds, ks)) (hk : ks.elem k = false) (hc : ds.all D.cell = true) (hh : put (dels hp ks) k (.var (ds.map .d)) = hp')
    (h : WP P S code ⟨E, hp', c⟩ Q) : WP P S code ⟨E, hp, c⟩ Q :=
  fun a w hr => h a w (hh ▸ hr.fix k hl hd hk hc)
end
end Go.Eng

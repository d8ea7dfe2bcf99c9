/- The engine, part 13: what an operation looks at. -/
import Derived.Test.YtlaekicahpplbabG12
set_option linter.unusedVariables false
set_option linter.unusedSimpArgs false
namespace Go.Eng
open Go.RowKit

mutual
theorem toD_local {H H' : Nat → Option HO} : ∀ (av : AV) (x : D) (ks : List Nat), toD H av = some (x, ks) → (∀ k ∈ ks, H' k = H k) → toD H' av = some (x, ks)
  | .d y, x, ks, he, h => by simpa [toD] using he
  | .clip sz xs, x, ks, he, h => by simpa [toD] using he
  | .own q n, x, ks, he, h => by
    have he0 := he
    simp only [toD] at he
    split at he
    · rename_i e sz xs ho
      split at he
      · rename_i hn
        simp only [Option.some.injEq, Prod.mk.injEq] at he
        obtain ⟨rfl, rfl⟩ := he
        simp only [toD, h q (by simp), ho, hn, if_true]
      · cases he
    · cases he
  | .agg fs, x, ks, he, h => by
    simp only [toD] at he ⊢
    split at he
    · rename_i ds ks' hds
      split at he
      · rename_i hall
        simp only [Option.some.injEq, Prod.mk.injEq] at he
        obtain ⟨rfl, rfl⟩ := he
        rw [toDs_local fs _ _ hds h]
        simp [hall]
      · cases he
    · cases he
  | .tup fs, x, ks, he, h => by
    simp only [toD] at he ⊢
    split at he
    · rename_i ds ks' hds
      simp only [Option.some.injEq, Prod.mk.injEq] at he
      obtain ⟨rfl, rfl⟩ := he
      rw [toDs_local fs _ _ hds h]
    · cases he
  | .fn f caps, x, ks, he, h => by simpa [toD] using he
  | .undef, _, _, he, _ => by simp [toD] at he
  | .ref .., _, _, he, _ => by simp [toD] at he
  | .eref .., _, _, he, _ => by simp [toD] at he
  | .yld .., _, _, he, _ => by simp [toD] at he
  | .dref .., _, _, he, _ => by simp [toD] at he
  | .map .., _, _, he, _ => by simp [toD] at he
  | .it .., _, _, he, _ => by simp [toD] at he
  | .vs q off n, x, ks, he, h => by
    simp only [toD] at he
    split at he
    · rename_i cs ho
      split at he
      · rename_i xs hx
        split at he
        · rename_i hn
          simp only [Option.some.injEq, Prod.mk.injEq] at he
          obtain ⟨rfl, rfl⟩ := he
          simp only [toD, h q (by simp), ho, hx, hn, if_true]
        · cases he
      · cases he
    · cases he
theorem toDs_local {H H' : Nat → Option HO} : ∀ (fs : List AV) (ds : List D) (ks : List Nat), toDs H fs = some (ds, ks) → (∀ k ∈ ks, H' k = H k) → toDs H' fs = some (ds, ks)
  | [], ds, ks, he, h => by simpa [toDs] using he
  | a :: as, ds, ks, he, h => by
    simp only [toDs] at he ⊢
    split at he
    · rename_i x k hx
      split at he
      · rename_i xs ks' hxs
        simp only [Option.some.injEq, Prod.mk.injEq] at he
        obtain ⟨rfl, rfl⟩ := he
        rw [toD_local a _ _ hx (fun q hq => h q (by simp [hq])), toDs_local as _ _ hxs (fun q hq => h q (by simp [hq]))]
      · cases he
    · cases he
end
theorem evOp_congr {P : Program} {key : Nat} {ρ ρ' : Operand → AV} {H : Nat → Option HO} (o : Op) (h : ∀ x ∈ o.operands, ρ' x = ρ x) : evOp P key ρ' H o = evOp P key ρ H o := by
  cases o <;> simp only [Op.operands] at h <;> simp only [evOp]
  case move x => rw [h x (by simp)]
  case assign x => rw [h x (by simp)]
  case pick c a b => rw [h c (by simp), h a (by simp), h b (by simp)]
  case box t x => rw [h x (by simp)]
  case build t ps =>
    have : (ps.toList.map fun p => (p.1, ρ' p.2)) = (ps.toList.map fun p => (p.1, ρ p.2)) := List.map_congr_left fun p hp => by rw [h p.2 (by simp; exact ⟨p.1, by simpa using hp⟩)]
    rw [this]
  case buildSlice t n ps =>
    have : (ps.toList.map fun p => (p.1, ρ' p.2)) = (ps.toList.map fun p => (p.1, ρ p.2)) := List.map_congr_left fun p hp => by rw [h p.2 (by simp; exact ⟨p.1, by simpa using hp⟩)]
    rw [this]
  case load t a => rw [h a (by simp)]
  case store t a x => rw [h a (by simp), h x (by simp)]
  case nilCheck x => rw [h x (by simp)]
  case binOp op t x y ty => rw [h x (by simp), h y (by simp)]
  case unOp op t x => rw [h x (by simp)]
  case convert s d x => rw [h x (by simp)]
  case makeFunc fn first caps =>
    cases fn <;> simp only
    split
    · rfl
    · rename_i c cs h1 h2
      have e : caps = (c :: cs).toArray := by cases caps; simp_all
      subst e
      have : (c :: cs).map ρ' = (c :: cs).map ρ := List.map_congr_left fun p hp => h p (by simp at hp ⊢; exact .inr hp)
      rw [this]
    · rfl
  case makeSlice t l c => rw [h l (by simp), h c (by simp)]
  case slice t x lo hi mx =>
    have ho : ∀ q : Option Operand, (∀ y, q = some y → ρ' y = ρ y) → q.map ρ' = q.map ρ := fun q hq => by
      cases q with
      | none => rfl
      | some y => simp [hq y rfl]
    rw [h x (by simp), ho lo (fun y e => h y (by subst e; simp)), ho hi (fun y e => h y (by subst e; simp)), ho mx (fun y e => h y (by subst e; simp))]
  case lookup t x i ok => rw [h x (by simp), h i (by simp)]
  case mapUpdate t m k x => rw [h m (by simp), h k (by simp), h x (by simp)]
  case range t x => rw [h x (by simp)]
  case entry it => rw [h it (by simp)]
  case fieldAddr s x f => rw [h x (by simp)]
  case indexAddr t x i => rw [h x (by simp), h i (by simp)]
  case extract t i => rw [h t (by simp)]
  case call c =>
    obtain ⟨cal, args, ts⟩ := c
    cases cal with
    | value f => rfl
    | invoke r m => rfl
    | builtin b =>
      have hargs : ∀ x ∈ args.toList, ρ' x = ρ x := fun x hx => h x (by simp [Call.operands]; simpa using hx)
      cases b <;> simp only [evBuiltin]
      case len =>
        split
        · rename_i x t h1 h2; rw [hargs x (by simp [h1])]
        · rfl
      case min =>
        split
        · rename_i x y h1; rw [hargs x (by simp [h1]), hargs y (by simp [h1])]
        · rfl
      case max =>
        split
        · rename_i x y h1; rw [hargs x (by simp [h1]), hargs y (by simp [h1])]
        · rfl
      case append =>
        split
        · rename_i x y t t' h1 h2; rw [hargs x (by simp [h1]), hargs y (by simp [h1])]
        · rfl
      case copy =>
        split
        · rename_i x y t t' h1 h2; rw [hargs x (by simp [h1]), hargs y (by simp [h1])]
        · rfl
theorem evView_local {P : Program} {H H' : Nat → Option HO} {t : TypeId} {x : AV} {lo hi mx : Option AV} {q : AV × List (Nat × Option HO) × List Nat} (he : evView P H t x lo hi mx = some q) (h : ∀ k ∈ q.2.2, H' k = H k) : evView P H' t x lo hi mx = some q := by
  unfold evView at he ⊢
  split at he
  · split at he
    · split at he
      · rename_i ho hs hh
        split at he
        · rename_i hc
          simp only [Option.some.injEq] at he
          subst he
          simp only [h _ (List.mem_singleton.2 rfl), ho, hs, hh]
          rw [if_pos hc]
        · cases he
      · cases he
    · cases he
  · cases he
theorem evView_slice {P : Program} {key : Nat} {H H' : Nat → Option HO} {t : TypeId} {x : AV} {lo hi mx : Option AV} {q : AV × List (Nat × Option HO) × List Nat} (he : evView P H' t x lo hi mx = some q) : evSliceO P key H t x lo hi mx = none := by
  unfold evView at he
  split at he
  · rename_i k off
    split at he
    · rename_i n e ha
      have hu := arrT_und ha
      have hel : elT P t = none := by unfold elT; rw [hu]
      have hc : evCut P key H t (.ref k off) none hi none = none := rfl
      unfold evSliceO
      rw [hc]
      simp only [evSlice, hel]
    · cases he
  · cases he
theorem evLookup_local {P : Program} {H H' : Nat → Option HO} {t : TypeId} {x i : AV} {ok : Bool} {r : AV} {acc : List Nat} (he : evLookup P H t x i ok = some (r, acc)) (h : ∀ k ∈ acc, H' k = H k) : evLookup P H' t x i ok = some (r, acc) := by
  have he0 := he
  unfold evLookup at he ⊢
  split at he
  · rename_i k kd
    have hk : k ∈ acc := by
      split at he
      · split at he
        · split at he
          · simp only [Option.some.injEq, Prod.mk.injEq] at he
            obtain ⟨-, rfl⟩ := he; simp
          · split at he
            · simp only [Option.some.injEq, Prod.mk.injEq] at he
              obtain ⟨-, rfl⟩ := he; simp
            · cases he
        · cases he
      · cases he
    simp only [h k hk]
    exact he
  · cases he
theorem evMapUpd_local {P : Program} {H H' : Nat → Option HO} {t : TypeId} {x i y : AV} {es : List (Nat × Option HO)} {acc : List Nat} (he : evMapUpd P H t x i y = some (es, acc)) (h : ∀ k ∈ acc, H' k = H k) : evMapUpd P H' t x i y = some (es, acc) := by
  unfold evMapUpd at he ⊢
  split at he
  · rename_i k kd vd
    have hk : k ∈ acc := by
      split at he
      · split at he
        · simp only [Option.some.injEq, Prod.mk.injEq] at he
          obtain ⟨-, rfl⟩ := he; simp
        · cases he
      · cases he
    simp only [h k hk]
    exact he
  · cases he
theorem evRange_local {P : Program} {key : Nat} {H H' : Nat → Option HO} {t : TypeId} {x r : AV} {es : List (Nat × Option HO)} {acc : List Nat} (he : evRange key P H t x = some (r, es, acc)) (h : ∀ k ∈ acc, H' k = H k) : evRange key P H' t x = some (r, es, acc) := by
  unfold evRange at he ⊢
  split at he
  · rename_i k
    have hk : k ∈ acc := by
      split at he
      · simp only [Option.some.injEq, Prod.mk.injEq] at he
        obtain ⟨-, -, rfl⟩ := he; simp
      · cases he
    simp only [h k hk]
    exact he
  · cases he
theorem evEntry_local {H H' : Nat → Option HO} {x r : AV} {acc : List Nat} (he : evEntry H x = some (r, acc)) (h : ∀ k ∈ acc, H' k = H k) : evEntry H' x = some (r, acc) := by
  unfold evEntry at he ⊢
  split at he
  · rename_i k
    split at he
    · rename_i m c seen ho
      have hk : k ∈ acc ∧ m ∈ acc := by
        split at he
        · split at he
          · split at he
            · simp only [Option.some.injEq, Prod.mk.injEq] at he
              obtain ⟨-, rfl⟩ := he; simp
            · cases he
          · cases he
        · cases he
      simp only [h k hk.1, ho, h m hk.2]
      exact he
    · cases he
  · cases he
theorem evCopy_local {P : Program} {H H' : Nat → Option HO} {t : TypeId} {x y r : AV} {es : List (Nat × Option HO)} {acc : List Nat} (he : evCopy P H t x y = some (r, es, acc)) (h : ∀ k ∈ acc, H' k = H k) : evCopy P H' t x y = some (r, es, acc) := by
  unfold evCopy at he ⊢
  split at he
  · split at he
    · split at he
      · rename_i h1
        rw [if_pos h1]
        split at he
        · rename_i k off n
          split at he
          · rename_i cs ys ks ho hy
            split at he
            · rename_i hc
              simp only [Option.some.injEq, Prod.mk.injEq] at he
              obtain ⟨rfl, rfl, rfl⟩ := he
              simp only [h k (by simp), ho, toD_local _ _ _ hy (fun q hq => h q (by simp [hq]))]
              rw [if_pos hc]
            · cases he
          · cases he
        · cases he
      · cases he
    · cases he
  · cases he
theorem evCut_local {P : Program} {key : Nat} {H H' : Nat → Option HO} {t : TypeId} {x : AV} {lo hi mx : Option AV} (h : ∀ k n, x = .own k n → H' k = H k) : evCut P key H' t x lo hi mx = evCut P key H t x lo hi mx := by
  unfold evCut
  cases lo with
  | some _ => rfl
  | none =>
    cases x <;> try rfl
    case own k n => simp only [h k n rfl]
theorem evCut_acc {P : Program} {key : Nat} {H : Nat → Option HO} {t : TypeId} {x : AV} {lo hi mx : Option AV} {r : AV} {es : List (Nat × Option HO)} {acc : List Nat} (he : evCut P key H t x lo hi mx = some (r, es, acc)) {k n : Nat} (e : x = .own k n) : k ∈ acc := by
  subst e
  unfold evCut at he
  split at he
  · rename_i e1 e2
    cases e2
    split at he
    · split at he
      · split at he
        · split at he
          · simp at he; obtain ⟨-, -, rfl⟩ := he; simp
          · split at he
            · split at he
              · simp at he; obtain ⟨-, -, rfl⟩ := he; simp
              · cases he
            · cases he
        · cases he
      · cases he
    · cases he
  · cases he
theorem evSlice_acc {P : Program} {H : Nat → Option HO} {t : TypeId} {x : AV} {lo hi mx : Option AV} {r : AV} {es : List (Nat × Option HO)} {acc : List Nat} (he : evSlice P H t x lo hi mx = some (r, es, acc)) {k n : Nat} (e : x = .own k n) : k ∈ acc := by
  subst e
  unfold evSlice at he
  split at he
  · split at he
    · split at he
      · rename_i d ks hd
        have hk : k ∈ ks := by
          simp only [toD] at hd
          split at hd
          · split at hd
            · simp at hd; obtain ⟨-, rfl⟩ := hd; simp
            · cases hd
          · cases hd
        have hks : acc = ks := by
          split at he
          · split at he
            · split at he
              · split at he
                · simp at he; exact he.2.2.symm
                · split at he
                  · split at he
                    · simp at he; exact he.2.2.symm
                    · cases he
                  · cases he
              · cases he
            · cases he
          · cases he
        exact hks ▸ hk
      · cases he
    · cases he
  · cases he
theorem evLoad_local {P : Program} {H H' : Nat → Option HO} {t : Nat} {a r : AV} {acc : List Nat} (he : evLoad P H t a = some (r, acc)) (h : ∀ k ∈ acc, H' k = H k) : evLoad P H' t a = some (r, acc) := by
  have he0 := he
  unfold evLoad at he ⊢
  split at he
  · exact he
  · rename_i k off
    split at he
    · rename_i cs ho
      split at he
      · rename_i x hx
        simp at he
        obtain ⟨rfl, rfl⟩ := he
        simp only [h k (by simp), ho, hx]
      · cases he
    · cases he
  · rename_i k n i sz off
    split at he
    · rename_i e sz' xs ho
      split at he
      · rename_i hc
        split at he
        · rename_i x hx
          split at he
          · rename_i y hy
            simp at he
            obtain ⟨rfl, rfl⟩ := he
            simp only [h k (by simp), ho, hc, and_self, if_true, hx, hy]
          · cases he
        · cases he
      · cases he
    · cases he
  · cases he
theorem evOp_local {P : Program} {key : Nat} {ρ : Operand → AV} {H H' : Nat → Option HO} {o : Op} {r : AV} {es : List (Nat × Option HO)} {acc : List Nat} (he : evOp P key ρ H o = some (r, es, acc)) (h : ∀ k ∈ acc, H' k = H k) :
    evOp P key ρ H' o = some (r, es, acc) := by
  cases o <;> simp only [evOp] at he ⊢ <;> try exact he
  case buildSlice t n ps =>
    unfold evBuildSlice at he ⊢
    split at he
    · split at he
      · split at he
        · rename_i hc
          split at he
          · rename_i ds ks hds
            split at he
            · rename_i hf
              simp at he
              obtain ⟨rfl, rfl, rfl⟩ := he
              rw [if_pos hc, toDs_local _ _ _ hds h]
              simp [hf]
            · cases he
          · cases he
        · cases he
      · cases he
    · cases he
  case load t a =>
    split at he
    · rename_i x acc' hl
      simp at he
      obtain ⟨rfl, rfl, rfl⟩ := he
      rw [evLoad_local hl h]
    · cases he
  case store t a x =>
    split at he
    · rename_i es' acc' hs
      simp at he
      obtain ⟨rfl, rfl, rfl⟩ := he
      have : evStore P H' t (ρ a) (ρ x) = some (es', acc') := by
        unfold evStore at hs ⊢
        split at hs
        · cases hs
        · split at hs
          · rename_i k off ha
            split at hs
            · rename_i cs ho
              split at hs
              · rename_i hc
                simp at hs
                obtain ⟨rfl, rfl⟩ := hs
                simp only [h k (by simp), ho]
                rw [if_pos hc]
              · cases hs
            · cases hs
          · rename_i k m i sz off ha
            split at hs
            · rename_i e sz' xs ho
              split at hs
              · rename_i hm
                split at hs
                · rename_i y d ks hy hd
                  split at hs
                  · rename_i hc
                    split at hs
                    · rename_i y' hy'
                      simp at hs
                      obtain ⟨rfl, rfl⟩ := hs
                      simp only [h k (by simp), ho]
                      rw [if_pos hm, hy, toD_local _ _ _ hd (fun q hq => h q (by simp [hq]))]
                      simp only
                      rw [if_pos hc, hy']
                    · cases hs
                  · cases hs
                · cases hs
              · cases hs
            · cases hs
          · cases hs
      rw [this]
    · cases he
  case lookup t x i ok =>
    split at he
    · rename_i r' acc' hq
      simp only [Option.some.injEq, Prod.mk.injEq] at he
      obtain ⟨rfl, rfl, rfl⟩ := he
      rw [evLookup_local hq h]
    · cases he
  case mapUpdate t m k x =>
    split at he
    · rename_i es' acc' hq
      simp only [Option.some.injEq, Prod.mk.injEq] at he
      obtain ⟨rfl, rfl, rfl⟩ := he
      rw [evMapUpd_local hq h]
    · cases he
  case range t x => exact evRange_local he h
  case entry it =>
    split at he
    · rename_i r' acc' hq
      simp only [Option.some.injEq, Prod.mk.injEq] at he
      obtain ⟨rfl, rfl, rfl⟩ := he
      rw [evEntry_local hq h]
    · cases he
  case slice t x lo hi mx =>
    cases hv : evView P H t (ρ x) (lo.map ρ) (hi.map ρ) (mx.map ρ) with
    | some q =>
      rw [hv] at he
      simp only [Option.some.injEq] at he
      subst he
      rw [evView_local hv h]
    | none =>
    rw [hv] at he
    simp only at he
    cases hv' : evView P H' t (ρ x) (lo.map ρ) (hi.map ρ) (mx.map ρ) with
    | some q =>
      rw [evView_slice (key := key) (H := H) hv'] at he
      cases he
    | none =>
    simp only
    unfold evSliceO at he ⊢
    cases hq : evCut P key H t (ρ x) (lo.map ρ) (hi.map ρ) (mx.map ρ) with
    | some q =>
      rw [hq] at he
      simp only [Option.some.injEq] at he
      subst he
      rw [evCut_local (fun k n e => h k (evCut_acc hq e)), hq]
    | none =>
    rw [hq] at he
    simp only at he
    rw [evCut_local (fun k n e => h k (evSlice_acc he e)), hq]
    simp only
    unfold evSlice at he ⊢
    split at he
    · split at he
      · split at he
        · rename_i d ks hd
          have hks : acc = ks := by
            split at he
            · split at he
              · split at he
                · split at he
                  · simp at he; exact he.2.2.symm
                  · split at he
                    · split at he
                      · simp at he; exact he.2.2.symm
                      · cases he
                    · cases he
                · cases he
              · cases he
            · cases he
          subst hks
          rw [toD_local _ _ _ hd h]
          exact he
        · cases he
      · cases he
    · cases he
  case call c =>
    obtain ⟨cal, args, ts⟩ := c
    cases cal with
    | value f => exact he
    | invoke r m => exact he
    | builtin b =>
      simp only at he ⊢
      cases b <;> simp only [evBuiltin] at he ⊢ <;> try exact he
      case copy =>
        split at he
        · exact evCopy_local he h
        · cases he
      case append =>
        split at he
        · rename_i x0 y0 t0 t0' hx0 hy0
          split at he
          · rename_i ht
            simp only [ht, if_true]
            split at he
            · unfold evAppendClip at he ⊢
              split at he
              · cases he
              · split at he
                · split at he
                  · rename_i hc
                    rw [if_pos hc]
                    split at he
                    · rename_i d ks hd
                      have hks : acc = ks := by
                        split at he
                        · split at he
                          · simp at he; exact he.2.2.symm
                          · split at he
                            · simp at he; exact he.2.2.symm
                            · cases he
                        · cases he
                      subst hks
                      rw [toD_local _ _ _ hd h]
                      exact he
                    · cases he
                  · cases he
                · cases he
            · cases hv : evAppendV P H t0 (ρ x0) (ρ y0) with
              | some q =>
                rw [hv] at he
                simp only [Option.some.injEq] at he
                subst he
                obtain ⟨a1, a2⟩ := evAppendV_acc hv
                rw [evAppendV_congr (fun k n e => h k (a1 k n e)) (fun k o n e => h k (a2 k o n e)), hv]
              | none =>
              rw [hv] at he
              simp only at he
              obtain ⟨a1, a2⟩ := evAppend_acc he
              rw [evAppendV_congr (fun k n e => h k (a1 k n e)) (fun k o n e => h k (a2 k o n e)), hv]
              simp only
              unfold evAppend at he ⊢
              split at he
              · cases he
              · split at he
                · split at he
                  · rename_i hc
                    rw [if_pos hc]
                    split at he
                    · rename_i d ks hd
                      split at he
                      · rename_i ys hys
                        split at he
                        · rename_i k n hx
                          split at he
                          · rename_i e' sz' xs ho
                            split at he
                            · rename_i hcc
                              split at he
                              · rename_i hroom
                                simp at he
                                obtain ⟨rfl, rfl, rfl⟩ := he
                                rw [toD_local _ _ _ hd (fun q hq => h q (by simp [hq]))]
                                simp only [hys, h k (by simp), ho]
                                rw [if_pos hcc, if_pos hroom]
                                simp
                              · cases he
                            · cases he
                          · cases he
                        · have hks : acc = ks := by
                            split at he
                            · split at he
                              · simp at he; exact he.2.2.symm
                              · cases he
                            · cases he
                          subst hks
                          rw [toD_local _ _ _ hd h]
                          simp only [hys]
                          exact he
                        · cases he
                      · cases he
                    · cases he
                  · cases he
                · cases he
          · cases he
        · cases he
theorem OpEv.local {P : Program} {ops : Array Oper} {key : Nat} {o : Oper} {E E' : Env} {hp hp' : Heap} {out : Out} (h : OpEv P ops key o E hp out) (hE : ∀ t ∈ o.looksAt ops, lk E' t = lk E t) (hH : ∀ k ∈ out.acc, lk hp' k = lk hp k) : OpEv P ops key o E' hp' out := by
  have hop : ∀ x ∈ o.op.operands, opnd E' x = opnd E x := fun x hx => by
    cases x with
    | tmp t =>
      simp only [opnd]
      rw [hE t (by simp only [Oper.looksAt, List.mem_append, List.mem_filterMap]; exact .inl ⟨.tmp t, by simpa using hx, rfl⟩)]
    | _ => rfl
  have hgd : gd ops E' o.guard = gd ops E o.guard := by
    unfold gd
    cases hg : o.guard with
    | none => rfl
    | some p =>
      obtain ⟨j, want⟩ := p
      simp only
      cases hs : gslot ops j with
      | none => rfl
      | some t =>
        simp only
        rw [hE t (by
          simp only [Oper.looksAt, hg, List.mem_append]
          refine .inr ?_
          unfold gslot at hs
          rw [hs]
          simp)]
  cases h with
  | skip hg => exact .skip (by rw [hgd]; exact hg)
  | op hg he => exact .op (by rw [hgd]; exact hg) (evOp_local (by rw [evOp_congr _ hop]; exact he) hH)
  | call hg ho hf ha hs =>
    rename_i f args ts g ds ks r
    rw [ho] at hop
    simp only [Op.operands, Call.operands] at hop
    refine .call (by rw [hgd]; exact hg) ho (by rw [hop f (by simp)]; exact hf) ?_ hs
    have : args.toList.map (opnd E') = args.toList.map (opnd E) := List.map_congr_left fun x hx => hop x (by simp; right; simpa using hx)
    rw [this]
    exact toDs_local _ _ _ ha hH
  | callM hg ho hf ha hs hb hsub hcs hch =>
    rename_i f args ts g caps as hpc hp' r n σ ks fs chg
    rw [ho] at hop
    simp only [Op.operands, Call.operands] at hop
    have e : args.toList.map (opnd E') = args.toList.map (opnd E) := List.map_congr_left fun x hx => hop x (by simp; right; simpa using hx)
    refine .callM (by rw [hgd]; exact hg) ho (by rw [hop f (by simp)]; exact hf) (by rw [e]; exact ha) hs hb (fun k hk => ?_) hcs hch
    obtain ⟨o1, h1, h2⟩ := hsub k hk
    exact ⟨o1, h1, by rw [hH _ (List.mem_map_of_mem hk)]; exact h2⟩
  | callY hg ho hf ha hs hb hsub =>
    rename_i f args ts kl as hpc hp' r n σ ks fs
    rw [ho] at hop
    simp only [Op.operands, Call.operands] at hop
    have e : args.toList.map (opnd E') = args.toList.map (opnd E) := List.map_congr_left fun x hx => hop x (by simp; right; simpa using hx)
    refine .callY (by rw [hgd]; exact hg) ho (by rw [hop f (by simp)]; exact hf) (by rw [e]; exact ha) hs hb (fun k hk => ?_)
    obtain ⟨o1, h1, h2⟩ := hsub k hk
    exact ⟨o1, h1, by rw [hH _ (List.mem_map_of_mem hk)]; exact h2⟩
end Go.Eng

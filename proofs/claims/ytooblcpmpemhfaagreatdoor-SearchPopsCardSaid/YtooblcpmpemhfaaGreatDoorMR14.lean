/- What a beginning costs at least: the bound that the program tells is the least that a word costs that begins so. (and what stands behind it: texts laid together) -/
import Derived.Test.YtooblcpmpemhfaaGreatDoorMR13
import Derived.Test.YtooblcpmpemhfaaGreatDoorMG4
import Derived.Test.YtooblcpmpemhfaaGreatDoorMR1
set_option linter.unusedVariables false
set_option linter.unusedSimpArgs false
open Go Go.Eng Go.Proofs Go.RowKit
set_option maxHeartbeats 32000000
set_option maxRecDepth 100000
namespace Go.Eng.Tryz
def Do(l:List Ak)(t:List (List Int))(s:Se)(i at_:Nat)(e:List Int):Int :=
 if s.put.length≤e.length∨s.put.take e.length≠e then 18446744073709551615
 else match ER l at_ (s.put.drop e.length)with|none=>18446744073709551615|some k=>BM s.cost (Ap t (i+s.eat.toNat) k.toNat)
def bS(l:List Ak)(t T:List (List Int))(u:List Int)(i at_ j:Nat)(m:Int)(s:Se):Int:=min m (BM (Ap T i j) (Do l t s i at_ (u.drop j)))
def bJ(all:List (List Se))(l:List Ak)(t T:List (List Int))(u:List Int)(i at_:Nat)(m:Int)(j:Nat):Int:=(all[i]!).foldl (bS l t T u i at_ j) m
def bI(all:List (List Se))(l:List Ak)(t T:List (List Int))(u:List Int)(at_:Nat)(m:Int)(i:Nat):Int:=(List.range u.length).foldl (bJ all l t T u i at_) (min m (BM (Ap T i u.length) (Ap t i at_)))
def EJ(all:List (List Se))(l:List Ak)(t T:List (List Int))(u:List Int)(at_:Nat):Int:=(List.range all.length).foldl (bI all l t T u at_) 18446744073709551615
theorem cO{l:List Ak}{t T:List (List Int)}{u:List Int}{i at_ j:Nat}:∀(ss:List Se) (m:Int),ss.foldl (bS l t T u i at_ j) m≤m∧(∀s∈ss,ss.foldl (bS l t T u i at_ j) m≤BM (Ap T i j) (Do l t s i at_ (u.drop j)))∧(ss.foldl (bS l t T u i at_ j) m=m∨∃s∈ss,ss.foldl (bS l t T u i at_ j) m=BM (Ap T i j) (Do l t s i at_ (u.drop j)))
 |ss,m=>Q5 (fun s=>BM (Ap T i j) (Do l t s i at_ (u.drop j))) ss m
theorem ZG{all:List (List Se)}{l:List Ak}{t T:List (List Int)}{u:List Int}{i at_:Nat}:∀(js:List Nat) (m:Int),js.foldl (bJ all l t T u i at_) m≤m∧(∀j∈js,∀s∈all[i]!,js.foldl (bJ all l t T u i at_) m≤BM (Ap T i j) (Do l t s i at_ (u.drop j)))∧(js.foldl (bJ all l t T u i at_) m=m∨∃j∈js,∃s∈all[i]!,js.foldl (bJ all l t T u i at_) m=BM (Ap T i j) (Do l t s i at_ (u.drop j)))
 | [],m=>⟨Int.le_refl _,fun j h=>(by cases h),.inl rfl⟩
 |j::js,m=>by
  obtain⟨a1,a2,a3⟩:=cO (l:=l) (t:=t) (T:=T) (u:=u) (i:=i) (at_:=at_) (j:=j) (all[i]!) m;change bJ all l t T u i at_ m j≤m at a1;change∀s∈all[i]!,bJ all l t T u i at_ m j≤_ at a2;change bJ all l t T u i at_ m j=m∨∃s∈all[i]!,bJ all l t T u i at_ m j=_ at a3;obtain⟨h1,h2,h3⟩:=ZG js (bJ all l t T u i at_ m j);simp only[List.foldl_cons];refine⟨Int.le_trans h1 a1,fun k hk s hs=>?_,?_⟩
  ·rcases List.mem_cons.1 hk with rfl|hk
   ·exact Int.le_trans h1 (a2 s hs)
   ·exact h2 k hk s hs
  ·rcases h3 with h3|⟨k,hk,s,hs,h3⟩
   ·rcases a3 with a3|⟨s,hs,a3⟩
    ·exact .inl (h3.trans a3)
    ·exact .inr ⟨j,by simp,s,hs,h3.trans a3⟩
   ·exact .inr ⟨k,by simp[hk],s,hs,h3⟩
theorem ZF{all:List (List Se)}{l:List Ak}{t T:List (List Int)}{u:List Int}{at_:Nat}:∀(is_:List Nat) (m:Int),is_.foldl (bI all l t T u at_) m≤m ∧
 (∀i∈is_,is_.foldl (bI all l t T u at_) m≤BM (Ap T i u.length) (Ap t i at_)) ∧
 (∀i∈is_,∀j,j<u.length→∀s∈all[i]!,is_.foldl (bI all l t T u at_) m≤BM (Ap T i j) (Do l t s i at_ (u.drop j))) ∧
 (is_.foldl (bI all l t T u at_) m=m∨(∃i∈is_,is_.foldl (bI all l t T u at_) m=BM (Ap T i u.length) (Ap t i at_))∨∃i∈is_,∃j,j<u.length∧∃s∈all[i]!,is_.foldl (bI all l t T u at_) m=BM (Ap T i j) (Do l t s i at_ (u.drop j)))
 | [],m=>⟨Int.le_refl _,fun j h=>(by cases h),fun j h=>(by cases h),.inl rfl⟩
 |i::is_,m=>by
  obtain⟨a1,a2,a3⟩:=ZG (all:=all) (l:=l) (t:=t) (T:=T) (u:=u) (i:=i) (at_:=at_) (List.range u.length) (min m (BM (Ap T i u.length) (Ap t i at_)));change bI all l t T u at_ m i≤_ at a1;change∀j∈List.range u.length,∀s∈all[i]!,bI all l t T u at_ m i≤_ at a2;change bI all l t T u at_ m i=_∨∃j∈List.range u.length,∃s∈all[i]!,bI all l t T u at_ m i=_ at a3;obtain⟨h1,h2,h3,h4⟩:=ZF is_ (bI all l t T u at_ m i);simp only[List.foldl_cons];have b1:=Int.le_trans h1 a1;refine⟨Int.le_trans b1 (Int.min_le_left _ _),fun k hk=>?_,fun k hk j hj s hs=>?_,?_⟩
  ·rcases List.mem_cons.1 hk with rfl|hk
   ·exact Int.le_trans b1 (Int.min_le_right _ _)
   ·exact h2 k hk
  ·rcases List.mem_cons.1 hk with rfl|hk
   ·exact Int.le_trans h1 (a2 j (List.mem_range.2 hj) s hs)
   ·exact h3 k hk j hj s hs
  ·rcases h4 with h4|⟨k,hk,h4⟩|⟨k,hk,j,hj,s,hs,h4⟩
   ·rcases a3 with a3|⟨j,hj,s,hs,a3⟩
    ·by_cases hm:m≤BM (Ap T i u.length) (Ap t i at_)
     ·exact .inl (h4.trans (a3.trans (Int.min_eq_left hm)))
     ·exact .inr (.inl ⟨i,by simp,h4.trans (a3.trans (Int.min_eq_right (by omega)))⟩)
    ·exact .inr (.inr ⟨i,by simp,j,List.mem_range.1 hj,s,hs,h4.trans a3⟩)
   ·exact .inr (.inl ⟨k,by simp[hk],h4⟩)
   ·exact .inr (.inr ⟨k,by simp[hk],j,hj,s,hs,h4⟩)
theorem KG{all:List (List Se)}{l:List Ak}{t T:List (List Int)}{u:List Int}{at_:Nat} :
 (∀i,i<all.length→EJ all l t T u at_≤BM (Ap T i u.length) (Ap t i at_)) ∧
 (∀i,i<all.length→∀j,j<u.length→∀s∈all[i]!,EJ all l t T u at_≤BM (Ap T i j) (Do l t s i at_ (u.drop j))) ∧
 (EJ all l t T u at_=18446744073709551615∨(∃i,i<all.length∧EJ all l t T u at_=BM (Ap T i u.length) (Ap t i at_))∨∃i,i<all.length∧∃j,j<u.length∧∃s∈all[i]!,EJ all l t T u at_=BM (Ap T i j) (Do l t s i at_ (u.drop j))) ∧
 EJ all l t T u at_≤18446744073709551615:=by
 obtain⟨h1,h2,h3,h4⟩:=ZF (all:=all) (l:=l) (t:=t) (T:=T) (u:=u) (at_:=at_) (List.range all.length) 18446744073709551615;refine⟨fun i hi=>h2 i (List.mem_range.2 hi),fun i hi=>h3 i (List.mem_range.2 hi),?_,h1⟩;rcases h4 with h4|⟨k,hk,h4⟩|⟨k,hk,j,hj,s,hs,h4⟩
 ·exact .inl h4
 ·exact .inr (.inl ⟨k,List.mem_range.1 hk,h4⟩)
 ·exact .inr (.inr ⟨k,List.mem_range.1 hk,j,hj,s,hs,h4⟩)
theorem Fp(a b:Int):BM a b≤a+b:=by unfold BM;split<;>omega
theorem Pp{a b:Int}(h:BM a b≠18446744073709551615):BM a b=a+b∧a+b≤18446744073709551615:=by
 unfold BM at h ⊢;split
 ·rename_i h1;exact⟨rfl,h1⟩
 ·rename_i h1;rw[if_neg h1]at h;exact absurd rfl h
theorem Zv{all:List (List Se)}{l:List Ak}{t:List (List Int)}(hS:Gs all)(hl:achk l=true)(ht:TG all l t){i m:Nat}(hi:i<all.length)(hm:m<l.length){s:Se}(hs:s∈all[i]!){k:Int}(hk:k∈Dx s l m):Ap t i m≤BM s.cost (Ap t (i+s.eat.toNat) k.toNat):=by
 have f1:=(ht.fix i m hi hm).1;have hc:=(LZ (l:=l) (t:=t) (i:=i) (k:=m) (all[i]!) (base all.length l i m)).2.1 s hs k hk;unfold Ep at f1;rw[← f1]at hc;exact hc
theorem Vy{l:List Ak}(hl:achk l=true){w:List Int}{s:Se}{j n m:Nat}(hm:m<l.length)(hn:C6 s w j=some n){k:Int}(hk:Ay l m ((w.drop j).take n)=some k):k∈Dx s l m:=by
 unfold Dx;unfold C6 at hn;by_cases ha:s.any=true
 ·rw[if_pos ha]at hn ⊢;split at hn
  ·rename_i hj2;cases hn;have e1:(w.drop j).take 1=[w[j]]:=by rw[List.drop_eq_getElem_cons hj2];rfl
   rw[e1]at hk;simp only[Ay]at hk;cases hs2:CP l m w[j]with
   |none=>rw[hs2]at hk;cases hk
   |some t1 =>
    rw[hs2]at hk;simp only[Option.some.injEq]at hk;subst hk;obtain⟨_,a,ham,_,hto⟩:=IW hl hs2;exact List.mem_map.2 ⟨a,ham,hto⟩
  ·cases hn
 ·rw[if_neg ha]at hn ⊢;split at hn
  ·rename_i hp;cases hn;rw[hp]at hk;unfold ER;rw[if_pos ⟨by omega,by omega⟩,hk];simp
  ·cases hn
theorem VT{all:List (List Se)}{l:List Ak}{t T:List (List Int)}(hS:Gs all)(hW:∀w,GG all w)(h0:0<all.length)(hl:achk l=true)(ht:TG all l t){u r:List Int}(hT:T=Qv all u){at_:Nat}(hu:Ay l 0 u=some (at_:Int)){f:Int}(hw:Ay l 0 (u++r)=some f){i j:Nat}{v:Int}(h:NU all (u++r) i j v) :
 u.length≤j→∀k,Ay l 0 ((u++r).take j)=some k→EJ all l t T u at_≤v+Ap t i k.toNat:=by
 have hl0:=(Aw.1 hl).2.1;obtain⟨b1,b2,_,_⟩:=KG (all:=all) (l:=l) (t:=t) (T:=T) (u:=u) (at_:=at_);have hpre:∀{i j:Nat} {v:Int},0<all.length→NU all (u++r) i j v→j≤u.length→Ap T i j≤v:=fun h0 h hj=>by
  have:=XM h hj;rw[List.take_left]at this;rw[hT];exact XG (hW u) h0 this
 induction h with
 |zero =>
  intro hj k hk;have hu0:u=[]:=List.eq_nil_of_length_eq_zero (by omega);subst hu0;simp only[List.take_zero,Ay,Option.some.injEq]at hk;simp only[Ay,Option.some.injEq]at hu;have:=b1 0 h0;have h2:=hpre h0 NU.zero (Nat.le_refl _);have h3:=Fp (Ap T 0 0) (Ap t 0 at_);have e:k.toNat=at_:=by omega
  rw[e];simp only[List.length_nil]at this h2;omega
 |step h hs hi hn ih =>
  rename_i i j n v s;intro hj k hk;have hjw:=XL h;obtain⟨s1,s2,s3,s4⟩:=hS i hi s hs;have hsp:(u++r).take (j+n)=(u++r).take j++((u++r).drop j).take n:=List.take_add ..;by_cases hju:u.length≤j
  ·rw[hsp,CD]at hk;cases hk0:Ay l 0 ((u++r).take j)with
   |none=>rw[hk0]at hk;cases hk
   |some k0 =>
    rw[hk0]at hk;simp only at hk;obtain⟨c1,c2,_⟩:=DB hl (Int.le_refl 0) (by omega) hk0;obtain⟨m,hm⟩:∃m:Nat,k0=m:=⟨k0.toNat,by omega⟩
    subst hm;have i1:=ih hju _ hk0;rw[Int.toNat_natCast]at i1;have hml:m<l.length:=by omega
    have hc:=Zv hS hl ht hi hml hs (Vy hl hml hn hk);have:=Fp s.cost (Ap t (i+s.eat.toNat) k.toNat);omega
  ·by_cases hje:j+n=u.length
   ·have hw2:=h.step hs hi hn;have h2:=hpre h0 hw2 (by omega);rw[hje,List.take_left,hu]at hk;simp only[Option.some.injEq]at hk;subst hk;rw[Int.toNat_natCast];have h3:=b1 (i+s.eat.toNat) s2;have h4:=Fp (Ap T (i+s.eat.toNat) u.length) (Ap t (i+s.eat.toNat) at_);rw[hje]at h2;omega
   ·have hgt:u.length<j+n:=by omega
    have h2:=hpre h0 h (by omega);have h3:=b2 i hi j (by omega) s hs;have hna:¬s.any=true:=by
     intro ha;unfold C6 at hn;rw[if_pos ha]at hn;split at hn
     ·cases hn;omega
     ·cases hn
    have hput:((u++r).drop j).take s.put.length=s.put∧n=s.put.length:=by
     unfold C6 at hn;rw[if_neg hna]at hn;split at hn
     ·rename_i hp;cases hn;exact⟨hp,rfl⟩
     ·cases hn
    obtain⟨hp,rfl⟩:=hput;have hd:(u++r).drop j=u.drop j++r:=List.drop_append_of_le_length (by omega);rw[hd]at hp;have hul:(u.drop j).length=u.length-j:=by simp
    have hp1:s.put.take (u.drop j).length=u.drop j:=by
     rw[← hp,List.take_take,Nat.min_eq_left (by omega),List.take_left]
    have hp2:s.put.drop (u.drop j).length=r.take (s.put.length-(u.length-j)):=by
     have:s.put=u.drop j++r.take (s.put.length-(u.length-j)):=by
      conv=>lhs;rw[← hp]
      rw[List.take_append,List.take_of_length_le (by omega),hul]
     conv=>lhs;rw[this]
     rw[List.drop_left]
    have hk2:Ay l at_ (s.put.drop (u.drop j).length)=some k:=by
     rw[hp2];rw[List.take_append,List.take_of_length_le (show u.length≤j+s.put.length by omega),CD,hu]at hk;simp only at hk;rw[show s.put.length-(u.length-j)=j+s.put.length-u.length by omega];exact hk
    obtain⟨c1,c2,_⟩:=DB hl (Int.le_refl 0) (by omega) hu;have ho:Do l t s i at_ (u.drop j)=BM s.cost (Ap t (i+s.eat.toNat) k.toNat):=by
     unfold Do;rw[if_neg (by rw[hp1];simp;omega)];unfold ER;rw[if_pos ⟨c1,c2⟩,hk2]
    rw[ho]at h3;have h4:=Fp (Ap T i j) (BM s.cost (Ap t (i+s.eat.toNat) k.toNat));have h5:=Fp s.cost (Ap t (i+s.eat.toNat) k.toNat);omega
theorem UK{all:List (List Se)}{l:List Ak}{t T:List (List Int)}(hS:Gs all)(hW:∀w,GG all w)(hA:∀i,i<all.length→∀s∈all[i]!,s.any=true→s.put=[])(hl:achk l=true)(ht:TG all l t){u:List Int}(hT:T=Qv all u){at_:Nat}(hu:Ay l 0 u=some (at_:Int))(h:EJ all l t T u at_≠18446744073709551615) :
 ∃r f,Ay l 0 (u++r)=some f∧(l[f.toNat]!).final=true∧NU all (u++r) (all.length-1) (u++r).length (EJ all l t T u at_):=by
 have hl0:=(Aw.1 hl).2.1;obtain⟨c1,c2,_⟩:=DB hl (Int.le_refl 0) (by omega) hu;obtain⟨_,_,b3,_⟩:=KG (all:=all) (l:=l) (t:=t) (T:=T) (u:=u) (at_:=at_);rcases b3 with b3|⟨i,hi,b3⟩|⟨i,hi,j,hj,s,hs,b3⟩
 ·exact absurd b3 h
 ·have hne:=h;rw[b3]at hne;obtain⟨e1,e2⟩:=Pp hne;have hg:=H3 (hW u) (by omega:0<all.length);rw[← hT]at hg;have u1:=hg.u i u.length hi (by omega);have u2:=(ht.fix i at_ hi (by omega)).2;have n1:Ap T i u.length≠18446744073709551615∨Ap t i at_=0:=by unfold U at u1 u2;omega
  by_cases hti:Ap t i at_=18446744073709551615
  ·exfalso;unfold U at u1;apply hne;rw[e1,hti];omega
  obtain⟨r,f,r1,r2,r3⟩:=XH hS hl ht _ _ i at_ hi (by omega) rfl rfl hti;rcases hg.way i u.length hi (by omega)with hw|hw
  ·exfalso;unfold U at u2;apply hne;rw[e1,hw];omega
  refine⟨r,f,by rw[CD,hu];exact r1,r2,?_⟩;rw[b3,e1];refine r3 u _ (NQ (k:=u.length) ?_);rw[List.take_left];exact hw
 ·have hne:=h;rw[b3]at hne;obtain⟨e1,e2⟩:=Pp hne;have hg:=H3 (hW u) (by omega:0<all.length);rw[← hT]at hg;have u1:=hg.u i j hi (by omega);obtain⟨s1,s2,s3,s4⟩:=hS i hi s hs;have ho:Do l t s i at_ (u.drop j)≠18446744073709551615:=by
   intro ho;unfold U at u1;apply hne;rw[e1,ho];rw[ho]at e2;omega
  have hul:(u.drop j).length=u.length-j:=by simp
  unfold Do at ho;by_cases hcut:s.put.length≤(u.drop j).length∨s.put.take (u.drop j).length≠u.drop j
  ·rw[if_pos hcut]at ho;exact absurd rfl ho
  have hov:Do l t s i at_ (u.drop j)=match ER l at_ (s.put.drop (u.drop j).length)with|none=>18446744073709551615|some k=>BM s.cost (Ap t (i+s.eat.toNat) k.toNat):=if_neg hcut
  rw[if_neg hcut]at ho;rw[not_or,Classical.not_not]at hcut;obtain⟨q1,q2⟩:=hcut;cases hg2:ER l at_ (s.put.drop (u.drop j).length)with
  |none=>rw[hg2]at ho;exact absurd rfl ho
  |some k =>
   rw[hg2]at ho hov;simp only at ho hov;obtain⟨e3,e4⟩:=Pp ho;have hlead:Ay l at_ (s.put.drop (u.drop j).length)=some k:=by
    unfold ER at hg2;rw[if_pos ⟨by omega,by omega⟩]at hg2;exact hg2
   obtain⟨d1,d2,_⟩:=DB hl (by omega:(0:Int)≤at_) (by omega) hlead;have u2:=(ht.fix (i+s.eat.toNat) k.toNat s2 (by omega)).2;have hti:Ap t (i+s.eat.toNat) k.toNat≠18446744073709551615:=by
    intro hti;unfold U at s3;apply ho;rw[e3,hti];omega
   obtain⟨r,f,r1,r2,r3⟩:=XH hS hl ht _ _ (i+s.eat.toNat) k.toNat s2 (by omega) rfl rfl hti;rcases hg.way i j hi (by omega)with hw|hw
   ·exfalso;unfold U at u2 s3;apply hne;rw[e1,hw,hov,e3];rw[hw,hov,e3]at e2;omega
   have hnk:((k.toNat:Nat):Int)=k:=by omega
   rw[hnk]at r1;refine⟨s.put.drop (u.drop j).length++r,f,by rw[CD,hu];simp only;rw[CD,hlead];exact r1,r2,?_⟩;have hpu:u++s.put.drop (u.drop j).length=u.take j++s.put:=by
    have hsp:=List.take_append_drop (u.drop j).length s.put;rw[q2]at hsp;have hju:=List.take_append_drop j u;generalize s.put.drop (u.drop j).length=X at hsp ⊢;rw[← hsp,← List.append_assoc,hju]
   have hna:¬s.any=true:=by
    intro ha;have:=hA i hi s hs ha;rw[this]at q1;simp at q1
   have hp:C6 s (u++(s.put.drop (u.drop j).length++r)) j=some s.put.length:=by
    unfold C6;rw[if_neg hna,← List.append_assoc,hpu,List.append_assoc];have hdl:(u.take j++(s.put++r)).drop j=s.put++r:=by
     have:=List.drop_left (l₁:=u.take j) (l₂:=s.put++r)
     rwa [show(u.take j).length=j by simp;omega]at this
    rw[hdl,List.take_left,if_pos rfl]
   have hw2:NU all (u++(s.put.drop (u.drop j).length++r)) i j (Ap T i j):=NQ (k:=u.length) (by rw[List.take_left];exact hw);have hw3:=hw2.step hs hi hp;have hlen:j+s.put.length=(u++s.put.drop (u.drop j).length).length:=by rw[hpu];simp;omega
   rw[hlen,← List.append_assoc]at hw3;have:=r3 _ _ hw3;rw[b3,e1,hov,e3,← Int.add_assoc,← List.append_assoc];exact this
attribute [local go_sem] Aq As
structure En where
 cost:Int
 word:List Int
 done:Bool
 place:Int
deriving DecidableEq
def en(e:En):D:=.agg [.int .u64 e.cost,.sl 1 (is e.word),.bool e.done,.int .i64 e.place]
def En.ok(e:En):Prop:=e.word.length≤9223372036854775807
instance:Inhabited En:=⟨⟨0,[],false,0⟩⟩
def es(l:List En):List D:=l.map en
theorem Jq{l:List En}:(es l).length=l.length:=by simp[es]
theorem KQ{l:List En}{k:Nat}(h:k<l.length):(es l)[k]? =some (.agg [.int .u64 (l[k]!).cost,.sl 1 (is (l[k]!).word),.bool (l[k]!).done,.int .i64 (l[k]!).place]):=by
 simp[es,en,List.getElem?_eq_getElem h,getElem!_pos l k h]
attribute [local go_sem] Jq KQ
theorem BZ{l:List En}(h:∀e∈l,e.ok){k:Nat}(hk:k<l.length):(l[k]!).ok:=by
 rw[getElem!_pos l k hk];exact h _ (List.getElem_mem hk)
def AE(a b:En):Bool :=
 if a.cost≠b.cost then decide (a.cost<b.cost)else if Ae a.word b.word<0 then true else if Ae b.word a.word<0 then false else(!a.done&&b.done)
theorem ZX{a:En}:A3 Tryz.prog 253 [en a] (.int .i64 (if a.done then 1 else 0)):=by
 obtain⟨c,w,d,p⟩:=a;unfold en;cases d
 ·refine A6 5 Tryz.func253 A4 fun X_ w_=>?_;refine Ao ?_;try exact trivial
 ·refine A6 5 Tryz.func253 A4 fun X_ w_=>?_;refine Ao ?_;try exact trivial
theorem HR{a b:En}(ha:a.ok)(hb:b.ok):A3 Tryz.prog 218 [en a,en b] (.bool (AE a b)):=by
 obtain⟨c,w,d,p⟩:=a;obtain⟨c',w',d',p'⟩:=b;unfold En.ok at ha hb;simp only at ha hb;unfold en;by_cases h1:c=c'
 ·by_cases h2:Ae w w'<0
  ·have e:AE ⟨c,w,d,p⟩ ⟨c',w',d',p'⟩=true:=by simp[AE,h1,h2]
   have e2:=decide_eq_true h2;refine A6 33 Tryz.func218 Ah fun X_ w_=>?_;have c0_:=DQ ha hb;refine Au (And.intro @e @e2) ?_;try exact trivial
  ·have e2:=decide_eq_false h2;by_cases h3:Ae w' w<0
   ·have e:AE ⟨c,w,d,p⟩ ⟨c',w',d',p'⟩=false:=by simp[AE,h1,h2,h3]
    have e3:=decide_eq_true h3;refine A6 33 Tryz.func218 Ah fun X_ w_=>?_;have c0_:=DQ ha hb;have c1_:=DQ hb ha;refine Au (And.intro @e (And.intro @e2 @e3)) ?_;try exact trivial
   ·have e3:=decide_eq_false h3;have e:AE ⟨c,w,d,p⟩ ⟨c',w',d',p'⟩=(!d&&d'):=by simp[AE,h1,h2,h3]
    have e4:decide ((if d then(1:Int)else 0)<if d' then 1 else 0)=(!d&&d'):=by cases d<;>cases d'<;>rfl
    rw[← e4]at e;refine A6 33 Tryz.func218 Ah fun X_ w_=>?_;have c0_:=DQ ha hb;have c1_:=DQ hb ha;have c2_:=ZX (a:=⟨c,w,d,p⟩);have c3_:=ZX (a:=⟨c',w',d',p'⟩);have c4_:=@Yl;refine Au (And.intro @e (And.intro @e2 @e3)) ?_;try exact trivial
 ·have e:AE ⟨c,w,d,p⟩ ⟨c',w',d',p'⟩=decide (c<c'):=by simp[AE,h1]
  refine A6 33 Tryz.func218 Ah fun X_ w_=>?_;refine Au @e ?_;try exact trivial
theorem Io:∀(a b:List Int),Ae a b=0↔a=b
 | [],[]=>by simp[Ae]
 | [],_::_=>by simp[Ae]
 |_::_,[]=>by simp[Ae]
 |x::a,y::b=>by
  simp only[Ae,List.cons.injEq];by_cases h:x<y
  ·rw[if_pos h];constructor<;>intro h'<;>omega
  ·rw[if_neg h];by_cases h2:y<x
   ·rw[if_pos h2];constructor<;>intro h'<;>omega
   ·rw[if_neg h2,Io a b];constructor
    ·intro h';exact⟨by omega,h'⟩
    ·exact fun h'=>h'.2
theorem Ek:∀(a b:List Int),Ae b a = - Ae a b
 | [],[]=>by simp[Ae]
 | [],_::_=>by simp[Ae]
 |_::_,[]=>by simp[Ae]
 |x::a,y::b=>by
  simp only[Ae];by_cases h:x<y
  ·rw[if_pos h,if_neg (by omega),if_pos h];rfl
  ·by_cases h2:y<x
   ·rw[if_pos h2,if_neg h,if_pos h2]
   ·rw[if_neg h2,if_neg h,if_neg h,if_neg h2,Ek a b]
def K8(l:List En):Bool:=decide (∀c,c<l.length→0<c→AE (l[c]!) (l[(c-1)/2]!)=false)
end Go.Eng.Tryz
namespace Go.Eng.Tryz
attribute [local go_sem] Aq As Jq KQ
theorem Sy{l:List En}{k:Nat}{e:En}:(es l).set k (.agg [.int .u64 e.cost,.sl 1 (is e.word),.bool e.done,.int .i64 e.place])=es (l.set k e):=by
 simp[es,en,List.map_set]
attribute [local go_sem] Sy List.length_set
def P3(l:List En)(i j:Nat):List En:=(l.set i (l[j]!)).set j (l[i]!)
def Tl:Nat→List En→Nat→List En
 |0,l,_=>l
 |f+1,l,i=>if i=0 then l else if AE (l[i]!) (l[(i-1)/2]!)=true then Tl f (P3 l i ((i-1)/2)) ((i-1)/2)else l
theorem DR{l:List En}{i j:Nat}:(P3 l i j).length=l.length:=by simp[P3]
theorem Qn{l:List En}{i j:Nat}(h:∀e∈l,e.ok)(hi:i<l.length)(hj:j<l.length):∀e∈P3 l i j,e.ok:=fun e he=>by
 unfold P3 at he;rcases List.mem_or_eq_of_mem_set he with he|rfl
 ·rcases List.mem_or_eq_of_mem_set he with he|rfl
  ·exact h e he
  ·exact BZ h hj
 ·exact BZ h hi
theorem fJ{l:List En}{i:Nat}(hl:∀e∈l,e.ok)(hlen:l.length≤9223372036854775807)(hi:i<l.length) :
 Ai Tryz.prog 169 [.agg [.own 0 l.length,.d (.fn 218)],.d (.int .i64 i)] [(0,.row 148 4 (es l))] (.tup []) [(0,.row 148 4 (es (Tl i l i)))] 1:=by
 refine Bo 43 [0] Tryz.func169 Bm fun X_ ν_ w_=>?_;refine Ao ?_;try exact trivial
 refine A8 (fun x:List En×Nat×Nat=>x.1.length=l.length∧(∀e∈x.1,e.ok)∧x.2.1<l.length∧x.2.1≤x.2.2∧Tl x.2.2 x.1 x.2.1=Tl i l i) (fun x=>[(1,.d (.int .i64 x.2.1)),(2,.ref 1 0)]) (fun x=>[(1,.var [.own 0 l.length,.d (.fn 218)]),(0,.row 148 4 (es x.1))]) 1000 (fun x=>x.2.2) [1,2] [1,0] (l,i,i) ⟨rfl,hl,hi,Nat.le_refl _,rfl⟩ rfl rfl (Nat.le_of_ble_eq_true rfl) (fun _ _=>rfl) (fun _ _=>rfl) fun x hx=>?_;obtain⟨l',i',f⟩:=x;obtain⟨h1,h2,h3,h4,h5⟩:=hx;simp only at h1 h2 h3 h4 h5;by_cases h0:i'=0
 ·subst h0;have e:Tl i l i=l':=by rw[← h5];cases f<;>simp[Tl]
  refine Au (And.intro @e @WG) ?_;try exact trivial
 ·have hq:(i'-1)/2<l'.length:=by omega
  have hi':i'<l'.length:=by omega
  have e0:((i':Int)-1)/2=(((i'-1)/2:Nat):Int):=by omega
  obtain⟨f,rfl⟩:∃g,f=g+1:=⟨f-1,by omega⟩
  simp only[Tl,if_neg h0]at h5;cases he:AE (l'[i']!) (l'[(i'-1)/2]!)
  ·rw[he]at h5;simp only[Bool.false_eq_true,if_false]at h5;have c0_:=HR (BZ h2 hi') (BZ h2 hq);refine Au (And.intro @e0 (And.intro @he (h5.symm))) ?_;try exact trivial
  ·rw[he]at h5;simp only[if_true]at h5;have hq2:(i'-1)/2<(l'.set i' (l'[(i'-1)/2]!)).length:=by simp;omega
   have c0_:=HR (BZ h2 hi') (BZ h2 hq);refine Au (And.intro @e0 @he) ?_;try exact trivial
   refine⟨(P3 l' i' ((i'-1)/2),(i'-1)/2,f),⟨by rw[DR];exact h1,Qn h2 hi' hq,by show(i'-1)/2<l.length;omega,by show(i'-1)/2≤f;omega,h5⟩,?_,?_,Nat.lt_succ_self _⟩
   ·exact GL
   ·simp(disch:=omega)only[go_sem,AC,P3]
end Go.Eng.Tryz

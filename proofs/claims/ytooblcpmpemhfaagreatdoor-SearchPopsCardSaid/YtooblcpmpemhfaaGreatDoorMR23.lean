/- Searches, plainly: how entries are taken, one by one; how many there can be. (and what stands behind it: texts laid together) -/
import Derived.Test.YtooblcpmpemhfaaGreatDoorMR22
import Derived.Test.YtooblcpmpemhfaaGreatDoorMG4
import Derived.Test.YtooblcpmpemhfaaGreatDoorMR15
set_option linter.unusedVariables false
set_option linter.unusedSimpArgs false
open Go Go.Eng Go.Proofs Go.RowKit
set_option maxHeartbeats 32000000
set_option maxRecDepth 100000
namespace Go.Eng.Tryz
def Hw(l:List En)(k:Nat):Nat:=(List.range k).foldl (fun a i=>if 0<i∧AE (l[i]!) (l[a]!)=true then i else a) 0
theorem R9(l:List En)(k:Nat):Hw l (k+1)=if 0<k∧AE (l[k]!) (l[Hw l k]!)=true then k else Hw l k:=by simp[Hw,List.range_succ]
theorem N7(l:List En):∀k,(Hw l k<k∨k=0∧Hw l k=0)∧∀i,i<k→AE (l[i]!) (l[Hw l k]!)=false:=by
 intro k;induction k with
 |zero=>exact⟨.inr ⟨rfl,rfl⟩,fun i hi=>by omega⟩
 |succ k ih =>
  obtain⟨h1,h2⟩:=ih;rw[R9];split
  ·rename_i h;refine⟨.inl (by omega),fun i hi=>?_⟩;by_cases e:i=k
   ·subst e;exact Di _
   ·exact JV (h2 i (by omega)) (Eh h.2)
  ·rename_i h;refine⟨.inl (by omega),fun i hi=>?_⟩;by_cases e:i=k
   ·subst e;by_cases h0:0<i
    ·cases hx:AE (l[i]!) (l[Hw l i]!)with
     |false=>rfl
     |true=>exact absurd ⟨h0,hx⟩ h
    ·have:i=0:=by omega
     subst this;exact Di _
   ·exact h2 i (by omega)
def Bs(l:List En):Nat:=Hw l l.length
theorem F7{l:List En}(h:0<l.length):Bs l<l.length:=by
 have:=(N7 l l.length).1;unfold Bs;omega
theorem N6{l:List En}{e:En}(he:e∈l):AE e (l[Bs l]!)=false:=by
 obtain⟨k,hk,rfl⟩:=List.getElem_of_mem he;have:=(N7 l l.length).2 k hk;rw[getElem!_pos l k hk]at this;exact this
structure Ht where
 word:List Int
 cost:Int
deriving DecidableEq
instance:Inhabited Ht:=⟨⟨[],0⟩⟩
def Rn(e:En):Ht:=⟨e.word,e.cost⟩
def Kf(kids:List Int→List En)(n most budget:Int):Nat→List Ht→Nat→List En→List Ht×Nat×Int
 |0,t,p,_=>(t,p,0)
 |f+1,t,p,l =>
  if(t.length:Int)<n∧0<l.length then
   if(p:Int)=budget then(t,p,210)
   else if(l[Bs l]!).done=true then Kf kids n most budget f (t++[Rn (l[Bs l]!)]) (p+1) (l.eraseIdx (Bs l))
   else Kf kids n most budget f t (p+1) (l.eraseIdx (Bs l)++(kids (l[Bs l]!).word).filter (BN most))
  else(t,p,0)
def Tq(W:List (List Int))(e:En):Nat:=if e.done=true then 1 else 1+((W.filter (AK e.word)).map fun w=>2 * (w.length-e.word.length)+2).sum
def Fb(W:List (List Int))(l:List En):Nat:=(l.map (Tq W)).sum
theorem Uy(W:List (List Int))(e:En):1≤Tq W e:=by unfold Tq;split<;>omega
theorem K9(W:List (List Int))(l:List En):l.length≤Fb W l:=by
 unfold Fb;induction l with
 |nil=>simp
 |cons e l ih =>
  have:=Uy W e;simp only[List.map_cons,List.sum_cons,List.length_cons];omega
theorem Xj(W:List (List Int))(a b:List En):Fb W (a++b)=Fb W a+Fb W b:=by simp[Fb]
theorem Vw{W:List (List Int)}{a b:List En}(h:a.Perm b):Fb W a=Fb W b:=(h.map _).sum_nat
theorem NK{α:Type}(p:α→Bool)(h:α→Nat)(l:List α):((l.filter p).map h).sum+((l.filter fun x => !p x).map h).sum=(l.map h).sum:=by
 induction l with
 |nil=>rfl
 |cons x l ih =>
  cases hp:p x
  ·rw[List.filter_cons_of_neg (by simp[hp]),List.filter_cons_of_pos (by simp[hp])];simp only[List.map_cons,List.sum_cons];omega
  ·rw[List.filter_cons_of_pos (by simp[hp]),List.filter_cons_of_neg (by simp[hp])];simp only[List.map_cons,List.sum_cons];omega
theorem P2{α β:Type}[DecidableEq β](f:α→β)(h:α→Nat):∀(xs:List β),xs.Nodup→∀(W:List α),(xs.map fun x=>((W.filter fun w=>decide (f w=x)).map h).sum).sum≤(W.map h).sum
 | [],_,W=>by simp
 |x::xs,hnd,W=>by
  rw[List.nodup_cons]at hnd;have ih:=P2 f h xs hnd.2 (W.filter fun w => !decide (f w=x));have hs:=NK (fun w=>decide (f w=x)) h W;simp only[List.map_cons,List.sum_cons];have e:(xs.map fun y=>((W.filter fun w=>decide (f w=y)).map h).sum)=xs.map fun y=>(((W.filter fun w => !decide (f w=x)).filter fun w=>decide (f w=y)).map h).sum:=by
   refine List.map_congr_left fun y hy=>?_;rw[List.filter_filter];congr 2;refine List.filter_congr fun w _=>?_;by_cases hw:f w=y
   ·have:f w≠x:=fun h'=>hnd.1 (by rw[← h',hw];exact hy);simp[hw,show¬y=x from fun h'=>this (by rw[hw,h'])]
   ·simp[hw]
  rw[e];omega
theorem U3:∀{l:List Nat} {x:Nat},x∈l→x≤l.sum
 |y::l,x,h=>by
  simp only[List.sum_cons];rcases List.mem_cons.1 h with rfl|h
  ·omega
  ·have:=U3 h;omega
theorem Jp{α:Type}[Inhabited α]{l:List α}{i:Nat}(h:i<l.length):(l[i]!::l.eraseIdx i).Perm l:=by
 rw[List.eraseIdx_eq_take_drop_succ];have e:l=l.take i++l[i]!::l.drop (i+1):=by rw[← QA h,List.take_append_drop]
 conv=>rhs;rw[e]
 exact List.perm_middle.symm
theorem OY{xs:List (List Int)}(h:BQ xs):xs.Nodup:=by
 unfold BQ at h;exact h.imp fun hab e=>by subst e;rw[FS]at hab;omega
theorem On{u w:List Int}(h:AK u w=true):(w.take (u.length+1)=u↔w=u)∧∀z,w.take (u.length+1)=u++[z]↔AK (u++[z]) w=true:=by
 obtain⟨r,rfl⟩:=Af.1 h;constructor
 ·cases r with
  |nil=>simp[List.take_of_length_le]
  |cons y r =>
   rw[List.take_append,List.take_of_length_le (by omega)];simp
 ·intro z;have:(u++[z]).length=u.length+1:=by simp
  unfold AK;rw[this,decide_eq_true_eq]
theorem YK{g:List Int→Int}{W:List (List Int)}(u:List Int)(hs:BQ W)(h0:∀w∈W,∀z∈w,0≤z)(e:En)(he:e.done=false)(hw:e.word=u):Fb W (Ew g W u)+1≤Tq W e:=by
 obtain⟨xs,e1,s1,m1⟩:=HC (g:=g) u hs h0;have hwt:Tq W e=1+((W.filter (AK u)).map fun w=>2 * (w.length-u.length)+2).sum:=by unfold Tq;rw[he,hw,if_neg (by simp)]
 have hp:=P2 (fun w=>w.take (u.length+1)) (fun w=>2 * (w.length-u.length)+2) xs (OY s1) (W.filter (AK u));have hle:∀x∈xs,Tq W (OB g W u x)≤(((W.filter (AK u)).filter fun w=>decide (w.take (u.length+1)=x)).map fun w=>2 * (w.length-u.length)+2).sum:=by
  intro x hx;obtain⟨w,hw1,hw2,hw3⟩:=(m1 x).1 hx;unfold OB Tq;by_cases hxu:x=u
  ·rw[if_pos hxu,if_pos rfl];have hmem:w∈(W.filter (AK u)).filter fun w=>decide (w.take (u.length+1)=x):=List.mem_filter.2 ⟨List.mem_filter.2 ⟨hw1,hw2⟩,by simp[hw3]⟩;have:=U3 (l:=((W.filter (AK u)).filter fun w=>decide (w.take (u.length+1)=x)).map fun w=>2 * (w.length-u.length)+2) (List.mem_map.2 ⟨w,hmem,rfl⟩);omega
  ·rw[if_neg hxu];simp only[Bool.false_eq_true,if_false];have hlw:u.length<w.length:=by
    by_cases h:u.length<w.length
    ·exact h
    ·have:=FO hw2 h;rw[this,List.take_of_length_le (by omega)]at hw3;exact absurd hw3 hxu
   obtain⟨q1,r,q2⟩:=F2 hw2 hlw;generalize w[u.length]! =z at q1 q2;rw[q1]at hw3;have ef:W.filter (AK x)=(W.filter (AK u)).filter fun w=>decide (w.take (u.length+1)=x):=by
    rw[List.filter_filter];refine List.filter_congr fun v hv=>?_;rw[hw3];by_cases hb:AK u v=true
    ·have:=(On hb).2 z;by_cases hb2:AK (u++[z]) v=true
     ·rw[hb2,decide_eq_true (this.2 hb2),hb];rfl
     ·have hd:decide (v.take (u.length+1)=u++[z])=false:=decide_eq_false fun h=>hb2 (this.1 h);rw[hd,Bool.false_and];simpa using hb2
    ·have:AK (u++[z]) v=false:=by
      cases h:AK (u++[z]) v with
      |false=>rfl
      |true =>
       obtain⟨r,rfl⟩:=Af.1 h;exact absurd (Af.2 ⟨z::r,by simp⟩) hb
     rw[this];simp[hb]
   rw[ef];have hmem:w∈(W.filter (AK u)).filter fun w=>decide (w.take (u.length+1)=x):=by
    rw[← ef];exact List.mem_filter.2 ⟨hw1,by rw[hw3];exact Af.2 ⟨r,by rw[q2];simp⟩⟩
   have hxl:x.length=u.length+1:=by rw[hw3];simp
   have hall:∀v∈(W.filter (AK u)).filter fun w=>decide (w.take (u.length+1)=x),u.length<v.length:=fun v hv=>by
    have h2:=of_decide_eq_true (List.mem_filter.1 hv).2;have:=congrArg List.length h2;rw[List.length_take,hxl]at this;omega
   generalize(W.filter (AK u)).filter (fun w=>decide (w.take (u.length+1)=x))=V at hmem hall;have key:∀(V:List (List Int)),(∀v∈V,u.length<v.length)→(V.map fun w=>2 * (w.length-x.length)+2).sum+2 * V.length≤(V.map fun w=>2 * (w.length-u.length)+2).sum:=by
    intro V;induction V with
    |nil=>intro _;simp
    |cons v V ih =>
     intro hV;have h1:=hV v (by simp);have h2:=ih fun y hy=>hV y (by simp[hy]);simp only[List.map_cons,List.sum_cons,List.length_cons];omega
   have:=key V hall;have hpos:=List.length_pos_of_mem hmem;omega
 have hsum:(xs.map fun x=>Tq W (OB g W u x)).sum≤(xs.map fun x=>(((W.filter (AK u)).filter fun w=>decide (w.take (u.length+1)=x)).map fun w=>2 * (w.length-u.length)+2).sum).sum:=by
  clear hp m1 s1 e1;induction xs with
  |nil=>simp
  |cons x xs ih =>
   have h1:=hle x (by simp);have h2:=ih fun y hy=>hle y (by simp[hy]);simp only[List.map_cons,List.sum_cons];omega
 have hpot:Fb W (Ew g W u)=(xs.map fun x=>Tq W (OB g W u x)).sum:=by
  unfold Fb;rw[e1,List.map_map];rfl
 omega
theorem LA(W:List (List Int))(p:En→Bool)(l:List En):Fb W (l.filter p)≤Fb W l:=by
 have:=NK p (Tq W) l;unfold Fb;omega
theorem Nu(W:List (List Int)){l:List En}{i:Nat}(h:i<l.length):Fb W (l.eraseIdx i)+Tq W (l[i]!)=Fb W l:=by
 have hp:=Vw (W:=W) (Jp h);rw[← hp];unfold Fb;simp only[List.map_cons,List.sum_cons];omega
theorem RN{W:List (List Int)}{l:List En}(h:0<l.length):Fb W (l.eraseIdx (Bs l))<Fb W l:=by
 have:=Nu W (F7 h);have:=Uy W (l[Bs l]!);omega
theorem Nv{g:List Int→Int}{W:List (List Int)}(hs:BQ W)(h0:∀w∈W,∀z∈w,0≤z){l:List En}(h:0<l.length)(hd:(l[Bs l]!).done=false)(p:En→Bool):Fb W (l.eraseIdx (Bs l)++(Ew g W (l[Bs l]!).word).filter p)<Fb W l:=by
 have h1:=Nu W (F7 h);have h2:=YK (g:=g) (l[Bs l]!).word hs h0 (l[Bs l]!) hd rfl;have h3:=LA W p (Ew g W (l[Bs l]!).word);rw[Xj];omega
theorem OT{W:List (List Int)}(hn:W.length≤300)(hw:∀w∈W,w.length≤20)(e:En)(h:e.word=[]):Tq W e≤12601:=by
 unfold Tq;split
 ·omega
 ·have key:∀(V:List (List Int)),(∀v∈V,v.length≤20)→(V.map fun w=>2 * (w.length-e.word.length)+2).sum≤42 * V.length:=by
   intro V;induction V with
   |nil=>intro _;simp
   |cons v V ih =>
    intro hV;have h1:=hV v (by simp);have h2:=ih fun y hy=>hV y (by simp[hy]);simp only[List.map_cons,List.sum_cons,List.length_cons];omega
  have h1:=key (W.filter (AK e.word)) fun v hv=>hw v (List.mem_filter.1 hv).1;have h2:=List.length_filter_le (AK e.word) W;omega
def GC(g:List Int→Int)(W:List (List Int)):En:=⟨Dg g W [],[],false,0⟩
def N3(g:List Int→Int)(W:List (List Int))(n most budget:Int):List Ht×Nat×Int:=Kf (Ew g W) n most budget 12601 [] 0 ([GC g W].filter (BN most))
theorem QW(a b:En):AE (Du a) (Du b)=AE a b:=rfl
theorem N8{P l:List En}(hp:K8 P=true)(hl:∀e∈l,e.place=0)(h:(P.map Du).Perm l)(h0:0<P.length):Du (P[0]!)=l[Bs l]!∧(P.tail.map Du).Perm (l.eraseIdx (Bs l)):=by
 have hlen:l.length=P.length:=by rw[← h.length_eq];simp
 have hf:=F7 (l:=l) (by omega);have m1:l[Bs l]!∈l:=by rw[getElem!_pos l _ hf];exact List.getElem_mem _
 have m2:Du (P[0]!)∈l:=by
  refine h.mem_iff.1 (List.mem_map.2 ⟨P[0]!,?_,rfl⟩);rw[getElem!_pos P 0 h0];exact List.getElem_mem _
 have e1:AE (Du (P[0]!)) (l[Bs l]!)=false:=N6 m2;have e2:AE (l[Bs l]!) (Du (P[0]!))=false:=by
  obtain⟨x,hx,hx2⟩:=List.mem_map.1 (h.mem_iff.2 m1);rw[← hx2,QW];exact YQ hp hx
 have e3:Du (P[0]!)=l[Bs l]! :=by
  obtain⟨a1,a2,a3⟩:=MJ e1 e2;have key:∀x b:En,x.cost=b.cost→x.word=b.word→x.done=b.done→b.place=0→Du x=b:=by
   rintro⟨x1,x2,x3,x4⟩ ⟨b1,b2,b3,b4⟩ h1 h2 h3 h4;simp only at h1 h2 h3 h4;subst h1 h2 h3 h4;rfl
  exact key _ _ a1 a3 a2 (hl _ m1)
 refine⟨e3,?_⟩;cases P with
 |nil=>simp at h0
 |cons x P =>
  have e4:(x::P)[0]! =x:=rfl;rw[e4]at e3;have hp2:=Jp hf;rw[← e3]at hp2;have h3:(Du x::P.map Du).Perm (Du x::l.eraseIdx (Bs l)):=h.trans hp2.symm;simpa using h3.cons_inv
def DD(most:Int)(P:List En)(e:En):List En:=if BN most e=true then Fw P e else P
theorem IN(most:Int):∀(es:List En) (P:List En),(es.foldl (DD most) P).Perm (P++es.filter (BN most))∧(K8 P=true→K8 (es.foldl (DD most) P)=true)
 | [],P=>⟨by simp,fun h=>h⟩
 |e::es,P=>by
  obtain⟨h1,h2⟩:=IN most es (DD most P e);simp only[List.foldl_cons];unfold DD at h1 h2 ⊢;by_cases hk:BN most e=true
  ·rw[if_pos hk]at h1 h2 ⊢;rw[List.filter_cons_of_pos hk];refine⟨h1.trans ?_,fun hp=>h2 (SI hp)⟩;have:=(N9 P e).append_right (es.filter (BN most));rw[List.append_assoc]at this;exact this
  ·rw[if_neg hk]at h1 h2 ⊢;rw[List.filter_cons_of_neg hk];exact⟨h1,h2⟩
attribute [local go_sem] Aq As Jq KQ Sy List.length_set
theorem ZY{l:List En}{i f:Nat}(hl:∀e∈l,e.ok)(hlen:l.length≤1000000)(hi:i≤1000000)(hf:l.length≤i+f) :
 Ai Tryz.prog 173 [.agg [.own 0 l.length,.d (.fn 218)],.d (.int .i64 i)] [(0,.row 148 4 (es l))] (.tup []) [(0,.row 148 4 (es (Gg f l i)))] 1:=by
 refine Bo 72 [0] Tryz.func173 Bm fun X_ ν_ w_=>?_;refine Ao ?_;try exact trivial
 refine A8 (fun x:List En×Nat×Nat=>x.1.length=l.length∧(∀e∈x.1,e.ok)∧x.2.1≤1000000∧l.length≤x.2.1+x.2.2∧Gg x.2.2 x.1 x.2.1=Gg f l i) (fun x=>[(1,.d (.int .i64 x.2.1)),(2,.ref 1 0)]) (fun x=>[(1,.var [.own 0 l.length,.d (.fn 218)]),(0,.row 148 4 (es x.1))]) 1000 (fun x=>x.2.2) [1,2] [1,0] (l,i,f) ⟨rfl,hl,hi,hf,rfl⟩ rfl rfl (Nat.le_of_ble_eq_true rfl) (fun _ _=>rfl) (fun _ _=>rfl) fun x hx=>?_;obtain⟨l',i',f'⟩:=x;obtain⟨h1,h2,h3,h4,h5⟩:=hx;simp only at h1 h2 h3 h4 h5;have c1:2 * (i':Int)+1=((2 * i'+1:Nat):Int):=by omega
 by_cases h0:2 * i'+1<l'.length
 ·have c2:((2 * i'+1:Nat):Int)+1=((2 * i'+2:Nat):Int):=by omega
  have hi':i'<l'.length:=by omega
  obtain⟨f',rfl⟩:∃g,f'=g+1:=⟨f'-1,by omega⟩
  simp only[Gg,if_pos h0]at h5;obtain⟨hu,hui,hlt⟩:=Nt h0;by_cases hs:2 * i'+2<l'.length
  ·cases e1:AE (l'[2 * i'+2]!) (l'[2 * i'+1]!)
   ·have ep:FI l' i'=2 * i'+1:=by unfold FI;rw[if_neg (by rw[e1];simp)]
    rw[ep]at h5 hu hlt;cases he:AE (l'[2 * i'+1]!) (l'[i']!)
    ·rw[he]at h5;simp only[Bool.false_eq_true,if_false]at h5;have c0_:=HR (BZ h2 hs) (BZ h2 h0);have c1_:=HR (BZ h2 hu) (BZ h2 hi');refine Au (And.intro @c1 (And.intro @c2 (And.intro @e1 (And.intro @he (h5.symm))))) ?_;try exact trivial
    ·rw[he]at h5;simp only[if_true]at h5;have hq2:2 * i'+1<(l'.set i' (l'[2 * i'+1]!)).length:=by simp;omega
     have c0_:=HR (BZ h2 hs) (BZ h2 h0);have c1_:=HR (BZ h2 hu) (BZ h2 hi');refine Au (And.intro @c1 (And.intro @c2 (And.intro @e1 @he))) ?_;try exact trivial
     refine⟨(P3 l' i' (2 * i'+1),2 * i'+1,f'),⟨by rw[DR];exact h1,Qn h2 hi' hu,by show 2 * i'+1≤1000000;omega,by show l.length≤2 * i'+1+f';omega,h5⟩,?_,?_,Nat.lt_succ_self _⟩
     ·exact GL
     ·simp(disch:=omega)only[go_sem,AC,P3]
   ·have ep:FI l' i'=2 * i'+2:=by unfold FI;rw[if_pos ⟨hs,e1⟩]
    rw[ep]at h5 hu hlt;cases he:AE (l'[2 * i'+2]!) (l'[i']!)
    ·rw[he]at h5;simp only[Bool.false_eq_true,if_false]at h5;have c0_:=HR (BZ h2 hs) (BZ h2 h0);have c1_:=HR (BZ h2 hu) (BZ h2 hi');refine Au (And.intro @c1 (And.intro @c2 (And.intro @e1 (And.intro @he (h5.symm))))) ?_;try exact trivial
    ·rw[he]at h5;simp only[if_true]at h5;have hq2:2 * i'+2<(l'.set i' (l'[2 * i'+2]!)).length:=by simp;omega
     have c0_:=HR (BZ h2 hs) (BZ h2 h0);have c1_:=HR (BZ h2 hu) (BZ h2 hi');refine Au (And.intro @c1 (And.intro @c2 (And.intro @e1 @he))) ?_;try exact trivial
     refine⟨(P3 l' i' (2 * i'+2),2 * i'+2,f'),⟨by rw[DR];exact h1,Qn h2 hi' hu,by show 2 * i'+2≤1000000;omega,by show l.length≤2 * i'+2+f';omega,h5⟩,?_,?_,Nat.lt_succ_self _⟩
     ·exact GL
     ·simp(disch:=omega)only[go_sem,AC,P3]
  ·have ep:FI l' i'=2 * i'+1:=by unfold FI;rw[if_neg (fun h=>hs h.1)]
   rw[ep]at h5 hu hlt;cases he:AE (l'[2 * i'+1]!) (l'[i']!)
   ·rw[he]at h5;simp only[Bool.false_eq_true,if_false]at h5;have c0_:=HR (BZ h2 hu) (BZ h2 hi');refine Au (And.intro @c1 (And.intro @c2 (And.intro @he (h5.symm)))) ?_;try exact trivial
   ·rw[he]at h5;simp only[if_true]at h5;have hq2:2 * i'+1<(l'.set i' (l'[2 * i'+1]!)).length:=by simp;omega
    have c0_:=HR (BZ h2 hu) (BZ h2 hi');refine Au (And.intro @c1 (And.intro @c2 @he)) ?_;try exact trivial
    refine⟨(P3 l' i' (2 * i'+1),2 * i'+1,f'),⟨by rw[DR];exact h1,Qn h2 hi' hu,by show 2 * i'+1≤1000000;omega,by show l.length≤2 * i'+1+f';omega,h5⟩,?_,?_,Nat.lt_succ_self _⟩
    ·exact GL
    ·simp(disch:=omega)only[go_sem,AC,P3]
 ·have e:Gg f l i=l':=by
   rw[← h5];cases f' with
   |zero=>rfl
   |succ f'=>simp only[Gg,if_neg h0]
  refine Au (And.intro @c1 @e) ?_;try exact trivial
end Go.Eng.Tryz
namespace Go.Eng.Tryz
attribute [local go_sem] Aq As Jq KQ Sy List.length_set
theorem dE{l:List En}(hl:∀e∈l,e.ok)(hlen:l.length≤1000000) :
 Ai Tryz.prog 168 [.d (.sl 4 (es l))] [] (.agg [.own 1003 l.length,.d (.fn 218)]) [(1003,.row 148 4 (es l))] 0:=by
 refine Bo 10 [1003] Tryz.func168 He fun X_ ν_ w_=>?_;refine Ao ?_;try exact trivial
theorem ae{xs:List D} :
 Ai Tryz.prog 172 [.own 0 xs.length] [(0,.row 148 4 xs)] (.own 1006 xs.length) [(1006,.row 148 4 xs)] 1:=by
 refine Bo 9 [1006] Tryz.func172 He fun X_ ν_ w_=>?_;refine Ao ?_;try exact trivial
theorem Yw{l:List En}{e:En}:es l++[.agg [.int .u64 e.cost,.sl 1 (is e.word),.bool e.done,.int .i64 e.place]]=es (l++[e]):=by
 simp[es,en]
attribute [local go_sem] Yw
theorem YW{l:List En}{e:En}(hl:∀e∈l,e.ok)(he:e.ok):∀x∈l++[e],x.ok:=fun x hx=>by
 rcases List.mem_append.1 hx with h|h
 ·exact hl x h
 ·rw[List.mem_singleton.1 h];exact he
theorem dH{l:List En}{e:En}(hl:∀e∈l,e.ok)(he:e.ok)(hlen:l.length≤999999):A3 Tryz.prog 106 [.sl 4 (es l),en e] (.sl 4 (es (Fw l e))):=by
 have e0:Fw l e=Tl l.length (l++[e]) l.length:=rfl;have e1:(Tl l.length (l++[e]) l.length).length=l.length+1:=V7 l e;unfold en;refine A6 20 Tryz.func106 Ah fun X_ w_=>?_;have c0_:=dE hl (by omega);have c1_:=fJ (i:=l.length) (YW hl he) (by simp;omega) (by simp);refine Au (And.intro @e0 @e1) ?_;try exact trivial
theorem Yx{l:List En}{k:Nat}:(es l).take k=es (l.take k):=by simp[es,List.map_take]
attribute [local go_sem] Yx
theorem eY{l:List En}(hl:∀e∈l,e.ok)(hlen:l.length≤999999)(h0:0<l.length):A3 Tryz.prog 108 [.sl 4 (es l)] (.tup [en (l[0]!),.sl 4 (es (Cd l)),.bool true]):=by
 have c0:(l.length:Int)-1=((l.length-1:Nat):Int):=by omega
 have h1:l.length-1<l.length:=by omega
 have e1:((l.set 0 (l[l.length-1]!)).take (l.length-1)).length=l.length-1:=by simp
 have e2:Gg l.length ((l.set 0 (l[l.length-1]!)).take (l.length-1)) 0=Cd l:=rfl;have e3:=KX h0;have hok:∀e∈(l.set 0 (l[l.length-1]!)).take (l.length-1),e.ok:=fun e he=>by
  rcases List.mem_or_eq_of_mem_set (List.mem_of_mem_take he)with h|rfl
  ·exact hl e h
  ·exact BZ hl h1
 have cd:=ZY (i:=0) (f:=l.length) hok (by omega) (by omega) (by omega);have cc:=ae (xs:=es ((l.set 0 (l[l.length-1]!)).take (l.length-1)));rw[e1,e2]at cd;rw[Jq,e1]at cc;unfold en;refine A6 41 Tryz.func108 A4 fun X_ w_=>?_;have c0_:=dE hl (by omega);have c1_:=cc;have c2_:=cd;refine Au (And.intro @c0 (And.intro @e1 @e3)) ?_;try exact trivial
end Go.Eng.Tryz

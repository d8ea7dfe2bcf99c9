/- The least automaton, part 4: it is made. (and what stands behind it: texts laid together) -/
import Derived.Test.YtooblcpmpemhfaaGreatDoorMG4
import Derived.Test.YtooblcpmpemhfaaGreatDoorMR9
import Derived.Test.YtooblcpmpemhfaaGreatDoorMH1
set_option linter.unusedVariables false
set_option linter.unusedSimpArgs false
open Go Go.Eng Go.Proofs Go.RowKit
set_option maxHeartbeats 32000000
set_option maxRecDepth 100000
namespace Go.Eng.Tryz
attribute [local go_sem] Aq As AK AO Bz AU AW AG AD Ir Ln Je Lm
def C3(l:List AB)(B:List (List Int))(j:Nat):MS:=(List.range j).foldl (fun s j=>Dx l B s (l.length-1-j)) ⟨List.replicate l.length 0,[],[]⟩
theorem Er(l:List AB)(B:List (List Int))(j:Nat):C3 l B (j+1)=Dx l B (C3 l B j) (l.length-1-j):=by simp[C3,List.range_succ]
theorem Ti{l:List Int}{i:Nat}{x z:Int}(h:z∈l.set i x):z=x∨z∈l:=(List.mem_or_eq_of_mem_set h).symm
theorem Ts.step{l:List AB}{B:List (List Int)}{s:MS}{i:Nat}(hl1:l.length≤6001)(hi:i<l.length)(hB:B.length=l.length)(hBl:∀w∈B,w.length≤6001)(hs:∀a∈(l[i]!).arcs,0≤a.sign∧a.sign≤1114111∧0≤a.to∧a.to<l.length)(hal:(l[i]!).arcs.length≤10000)(hm:Ts l B s)(hfew:s.all.length<l.length):Ts l B (Dx l B s i):=by
 obtain⟨h1,h2,h3,h4,h5,h6,h7⟩:=hm;have hkn:Lv (B5 s.of (l[i]!)):=by
  refine⟨fun a ha=>?_,?_⟩
  ·obtain⟨x,hx,rfl⟩:=List.mem_map.1 ha;obtain⟨g1,g2,g3,g4⟩:=hs x hx;have:=h2.get (k:=x.to.toNat) (by omega);exact⟨g1,this.1⟩
  ·have hnl:=CL (B5 s.of (l[i]!)).final (B5 s.of (l[i]!)).arcs (fun a ha=>by
    obtain⟨x,hx,rfl⟩:=List.mem_map.1 ha;obtain⟨g1,g2,g3,g4⟩:=hs x hx;have:=h2.get (k:=x.to.toNat) (by omega);simp only[B6];omega)
   have e1:(Ch (B5 s.of (l[i]!))).size=(DO (B5 s.of (l[i]!))).length:=by simp[Ch,BK,ByteArray.size]
   have e2:(B5 s.of (l[i]!)).arcs.length=(l[i]!).arcs.length:=by simp[B5]
   rw[e1];simp only[maxLen];unfold DO;omega
 have hBi:(B[i]!).length≤6001:=by rw[getElem!_pos B i (by omega)];exact hBl _ (List.getElem_mem _)
 unfold Dx;cases hg:Ep s.names (B5 s.of (l[i]!))with
 |none =>
  have hnot:∀p∈s.names,p.1≠B5 s.of (l[i]!):=fun p hp e=>by
   have:∀{m:List (AB×Int)},p∈m→Ep m p.1≠none:=fun{m} hp=>by
    induction m with
    |nil=>cases hp
    |cons x t ih =>
     simp only[Ep];split
     ·simp
     ·rename_i hx;rcases List.mem_cons.1 hp with h|h
      ·exact absurd (by rw[h]) hx
      ·exact ih h
   exact this hp (by rw[e];exact hg)
  refine⟨by simp[h1],⟨by simp only[List.length_set];exact h2.1,fun z hz=>?_⟩,by simp;omega,fun p hp=>?_,?_,fun p hp=>?_,fun c hc=>?_⟩
  ·rcases Ti hz with h|h
   ·subst h;omega
   ·exact h2.2 z h
  ·rcases List.mem_append.1 hp with h|h
   ·exact h4 p h
   ·simp only[List.mem_singleton]at h;subst h;exact hkn
  ·simp only[List.map_append,List.map_cons,List.map_nil];rw[List.nodup_append];refine⟨h5,by simp,fun a ha b hb=>?_⟩;simp only[List.mem_singleton]at hb;obtain⟨p,hp,rfl⟩:=List.mem_map.1 ha;subst hb;exact hnot p hp
  ·simp only[List.length_append,List.length_cons,List.length_nil];rcases List.mem_append.1 hp with h|h
   ·have:=h6 p h;omega
   ·simp only[List.mem_singleton]at h;subst h;simp only;omega
  ·rcases List.mem_append.1 hc with h|h
   ·exact h7 c h
   ·simp only[List.mem_singleton]at h;subst h;simp only;omega
 |some c =>
  have hv:=h6 _ (IK hg);simp only at hv;refine⟨by simp[h1],⟨by simp only[List.length_set];exact h2.1,fun z hz=>?_⟩,by simp only[List.length_set];exact h3,h4,h5,fun p hp=>by simp only[List.length_set];exact h6 p hp,fun q hq=>?_⟩
  ·rcases Ti hz with h|h
   ·subst h;omega
   ·exact h2.2 z h
  ·rcases List.mem_or_eq_of_mem_set hq with h|h
   ·exact h7 q h
   ·have hc:=h7 (s.all[c.toNat]!) (by rw[getElem!_pos s.all c.toNat (by omega)];exact List.getElem_mem _);rw[h];simp only;refine⟨by split<;>omega,by omega,by omega⟩
theorem Oa(l:List AB)(B:List (List Int))(s:MS)(i:Nat):(Dx l B s i).all.length≤s.all.length+1:=by
 unfold Dx;split<;>simp
structure U4(l:List AB)(B:List (List Int)):Prop where
 l0:0<l.length
 l1:l.length≤6001
 bl:B.length=l.length
 bs:∀w∈B,w.length≤6001
 arcs:∀i,i<l.length→∀a∈(l[i]!).arcs,0≤a.sign∧a.sign≤1114111∧0≤a.to∧a.to<l.length
 few:∀i,i<l.length→(l[i]!).arcs.length≤10000
theorem KT{l:List AB}{B:List (List Int)}(h:U4 l B):∀j,j≤l.length→Ts l B (C3 l B j)∧(C3 l B j).all.length≤j:=by
 intro j;induction j with
 |zero =>
  intro _;refine⟨⟨by simp[C3],⟨by simp[C3];have:=h.l1;omega,fun z hz=>?_⟩,by simp[C3],fun p hp=>?_,by simp[C3],fun p hp=>?_,fun c hc=>?_⟩,by simp[C3]⟩
  ·have:z∈List.replicate l.length (0:Int):=hz;rw[List.eq_of_mem_replicate this];omega
  ·cases hp
  ·cases hp
  ·cases hc
 |succ j ih =>
  intro hj;obtain⟨h1,h2⟩:=ih (by omega);rw[Er];exact⟨h1.step h.l1 (by omega) h.bl h.bs (h.arcs _ (by omega)) (h.few _ (by omega)) (by omega),by have:=Oa l B (C3 l B j) (l.length-1-j);omega⟩
theorem Ik(n:Nat):List.replicate n (D.int .i64 0)=is (List.replicate n 0):=by simp[is]
def HP(n k:Nat):List Int:=(List.range k).foldl (fun R i=>R.set i (i:Int)) (List.replicate n 0)
theorem GR(n k:Nat):HP n (k+1)=(HP n k).set k (k:Int):=by simp[HP,List.range_succ]
theorem EK(n k:Nat):(HP n k).length=n:=by
 induction k with
 |zero=>simp[HP]
 |succ k ih=>rw[GR,List.length_set,ih]
theorem PM(n:Nat):is (HP n n)=ns (List.range n):=by
 have key:∀k,k≤n→HP n k=(List.range k).map (fun(i:Nat)=>(i:Int))++List.replicate (n-k) 0:=by
  intro k;induction k with
  |zero=>intro _;simp[HP]
  |succ k ih =>
   intro hk;rw[GR,ih (by omega),List.set_append_right _ _ (by simp)];obtain⟨m,hm⟩:∃m,n-k=m+1:=⟨n-k-1,by omega⟩
   have hm2:n-(k+1)=m:=by omega
   rw[hm,hm2];simp[List.range_succ,List.replicate_succ]
 rw[key n (Nat.le_refl _),Nat.sub_self,Th];simp
def Ng(all:List Cl)(a:Nat):List Nat→List Nat
 | []=>[a]
 |b::t=>if OF all b a<0 then b::Ng all a t else a::b::t
def Bo(all:List Cl):List Nat:=(List.range all.length).foldr (Ng all) []
theorem Hz(all:List Cl)(a:Nat):∀l:List Nat,(Ng all a l).Perm (a::l)
 | []=>.refl _
 |b::t=>by
  unfold Ng;split
  ·exact((Hz all a t).cons b).trans (.swap a b t)
  ·exact .refl _
theorem Mv(all:List Cl)(a:Nat):∀l:List Nat,l.Pairwise (fun a b=>¬H8 all b a)→(Ng all a l).Pairwise (fun a b=>¬H8 all b a)
 | [],_=>by simp[Ng]
 |b::t,h=>by
  rw[List.pairwise_cons]at h;unfold Ng;split
  ·rename_i hc;rw[EQ]at hc;rw[List.pairwise_cons];refine⟨fun y hy=>?_,Mv all a t h.2⟩;rcases List.mem_cons.1 ((Hz all a t).mem_iff.1 hy)with e|e
   ·subst e;exact fun k=>H8.irr _ _ (hc.trans k)
   ·exact h.1 y e
  ·rename_i hc;rw[EQ]at hc;rw[List.pairwise_cons,List.pairwise_cons];refine⟨fun y hy=>?_,h⟩;rcases List.mem_cons.1 hy with e|e
   ·subst e;exact hc
   ·exact H8.ntrans (h.1 y e) hc
theorem CR(all:List Cl):(Bo all).Perm (List.range all.length):=by
 unfold Bo;generalize List.range all.length=l;induction l with
 |nil=>exact .refl _
 |cons x t ih=>exact(Hz all x _).trans (ih.cons x)
theorem Kn(all:List Cl):(Bo all).Pairwise (fun a b=>¬H8 all b a):=by
 unfold Bo;generalize List.range all.length=l;induction l with
 |nil=>simp
 |cons x t ih=>exact Mv all x _ ih
theorem Ds(all:List Cl):(Bo all).length=all.length:=by rw[(CR all).length_eq,List.length_range]
theorem H1(all:List Cl){k:Nat}(h:k<all.length):(Bo all)[k]! <all.length:=by
 rw[getElem!_pos _ k (by rw[Ds];exact h)];exact List.mem_range.1 ((CR all).mem_iff.1 (List.getElem_mem _))
theorem Pm{l:List Nat}:(ns l).length=l.length:=by simp[ns]
theorem MZ{l:List Nat}{k:Nat}(h:k<l.length):(ns l)[k]? =some (.int .i64 ((l[k]!:Nat):Int)):=by simp[ns,List.getElem?_eq_getElem h,getElem!_pos l k h]
def Lu(all:List Cl)(k:Nat):List Int:=(List.range k).foldl (fun(R:List Int) (i:Nat)=>R.set ((Bo all)[i]!) (i:Int)) (List.replicate all.length 0)
theorem Jh(all:List Cl)(k:Nat):Lu all (k+1)=(Lu all k).set ((Bo all)[k]!) (k:Int):=by simp[Lu,List.range_succ]
theorem NL(all:List Cl)(k:Nat):(Lu all k).length=all.length:=by
 induction k with
 |zero=>simp[Lu]
 |succ k ih=>rw[Jh,List.length_set,ih]
theorem K5(l:List AB)(B:List (List Int))(s:MS)(i:Nat)(h:0<s.all.length∨s.names=[]):0<(Dx l B s i).all.length:=by
 unfold Dx;split
 ·rename_i c hc;rcases h with h|h
  ·simpa using h
  ·rw[h]at hc;cases hc
 ·simp
theorem Po(l:List AB)(B:List (List Int))(j:Nat):0<(C3 l B (j+1)).all.length:=by
 induction j with
 |zero=>rw[Er];exact K5 _ _ _ _ (.inr rfl)
 |succ j ih=>rw[Er];exact K5 _ _ _ _ (.inl ih)
def Qk(S:MS)(a:Ar):Ar:=⟨a.sign,(Lu S.all S.all.length)[(S.of[a.to.toNat]!).toNat]!⟩
def KP(l:List AB)(S:MS)(k:Nat):AB:=⟨(l[(S.all[(Bo S.all)[k]!]!).is_.toNat]!).final,(l[(S.all[(Bo S.all)[k]!]!).is_.toNat]!).arcs.map (Qk S)⟩
def F1(l:List AB)(S:MS)(k:Nat):List AB:=(List.range k).map (KP l S)
def GI(l:List AB)(S:MS)(k:Nat):List AB:=F1 l S k++List.replicate (S.all.length-k) ⟨false,[]⟩
theorem Pi{l:List AB}{S:MS}{k:Nat}(h:k≤S.all.length):(GI l S k).length=S.all.length:=by simp[GI,F1];omega
theorem QY{l:List AB}{S:MS}{k:Nat}(h:k<S.all.length):(GI l S k)[k]! =⟨false,[]⟩:=by
 have e:(F1 l S k).length=k:=by simp[F1]
 unfold GI;rw[List.getElem!_eq_getElem?_getD,List.getElem?_append_right (by omega),e,Nat.sub_self,List.getElem?_replicate,if_pos (by omega)];rfl
theorem O8{l:List AB}{S:MS}{k:Nat}(h:k<S.all.length):(GI l S k).set k (KP l S k)=GI l S (k+1):=by
 have e:(F1 l S k).length=k:=by simp[F1]
 obtain⟨m,hm⟩:∃m,S.all.length-k=m+1:=⟨S.all.length-k-1,by omega⟩
 have hm2:S.all.length-(k+1)=m:=by omega
 unfold GI;rw[List.set_append_right _ _ (by omega),e,Nat.sub_self,hm,hm2,List.replicate_succ,List.set_cons_zero];simp[F1,List.range_succ]
theorem Pj(l:List AB)(S:MS):GI l S S.all.length=F1 l S S.all.length:=by simp[GI]
theorem LU{n:Nat}:(List.replicate n (D.agg [.bool false,.nils])).all TA.nilAt=true:=by simp[Tb.nilAt,TA,D.comps]
theorem Ss{l:List AB}{S:MS}:(List.replicate S.all.length (D.agg [.bool false,.nils])).map TA.ini=AH (GI l S 0):=by simp[Tb.ini,TA,D.put,AH,MO,Gu,GI,F1]
attribute [local go_sem] Hd ID Ji TA
theorem S8{L:List (List Int)}(hok:BY L)(he:F0 L=0)(hst:BZ (Ap L))(hka:achk (Ap L)=true)(hdw:U4 (Ap L) (BX (Ap L) (Ap L).length))(hci:Rv (C3 (Ap L) (BX (Ap L) (Ap L).length) (Ap L).length).all)
 (hof:∀p,p<(Ap L).length→0≤(C3 (Ap L) (BX (Ap L) (Ap L).length) (Ap L).length).of[p]!∧(C3 (Ap L) (BX (Ap L) (Ap L).length) (Ap L).length).of[p]! <(C3 (Ap L) (BX (Ap L) (Ap L).length) (Ap L).length).all.length)
 (his:∀c,c<(C3 (Ap L) (BX (Ap L) (Ap L).length) (Ap L).length).all.length→0≤((C3 (Ap L) (BX (Ap L) (Ap L).length) (Ap L).length).all[c]!).is_∧((C3 (Ap L) (BX (Ap L) (Ap L).length) (Ap L).length).all[c]!).is_<(Ap L).length) :
 A1 Tryz.prog 17 [.sl 1 (AZ L)] (.tup [.sl 2 (AH (F1 (Ap L) (C3 (Ap L) (BX (Ap L) (Ap L).length) (Ap L).length) (C3 (Ap L) (BX (Ap L) (Ap L).length) (Ap L).length).all.length)),.int .i64 0]):=by
 have ct:=Pe hok;unfold Iy at ct;rw[if_pos he]at ct;have cb:=TX hst hka;generalize Ap L=l at *;obtain⟨_,hl0,hl1⟩:=Fo.1 hka;refine A1.run (N:=154) Tryz.func17 rfl (by kernel_rfl) rfl rfl rfl (by exact Ab) fun X_ w_=>?_;have c0_:=ct;have c1_:=cb;refine Aw ?_;try exact trivial
 generalize BX l l.length=B at *;refine NM 3008 4 20000 98 3 rfl rfl (by decide) (Nat.le_of_ble_eq_true rfl) rfl ?_;refine A7 (fun j:Nat=>j≤l.length) (fun j=>[(4,.d (.sl 2 (AH l))),(6,.ref 3009 0),(7,.mref 55 3008 0),(40,.d (.int .i64 l.length)),(41,.d (.int .i64 j))])
  (fun j=>[(3009,.var [.ref 3008 0]),(3008,.var [.d (.sl 2 (AH l)),.d (.sl 1 (AZ B)),.own 3005 l.length,.map 3006,.own 20000 (C3 l B j).all.length]),(3005,.row 3 1 (is (C3 l B j).of)),(3006,.map 9 3 (NC (C3 l B j).names)),(20000,.row 98 3 (cls (C3 l B j).all))]) 21000 (fun j=>l.length-j) [4,6,7,40,41] [3009,3008,3005,3006,20000] 0 (Nat.zero_le _) rfl (by rw[Ik];rfl) (Nat.le_of_ble_eq_true rfl) (fun _ _=>rfl) (fun _ _=>rfl) fun j hj=>?_
 by_cases hj3:j<l.length
 ·obtain⟨hm,hf⟩:=KT hdw j hj;obtain⟨i,hi⟩:∃i,i=l.length-1-j:=⟨_,rfl⟩
  have ei:(l.length:Int)-1-(j:Int)=(i:Int):=by omega
  have hst2:=Er l B j;rw[← hi]at hst2;have hil:i<l.length:=by omega
  have cm:=S5 hl1 hil hdw.bl hdw.bs (hdw.arcs i hil) (hdw.few i hil) hm;have hm':=hm.step hl1 hil hdw.bl hdw.bs (hdw.arcs i hil) (hdw.few i hil) (by omega);have e1:=hm.len;have e2:=hm'.len;rw[← hst2]at cm e2;simp only[Hm,e1,e2]at cm;obtain⟨S',hS⟩:∃S',C3 l B (j+1)=S':=⟨_,rfl⟩
  rw[hS]at cm;generalize C3 l B j=S at cm ⊢;have c0_:=cm;refine AI @ei ?_;try exact trivial
  refine⟨j+1,by omega,?_,?_,by omega⟩
  ·simp(disch:=omega)only[go_sem,A2,Int.natCast_add,Int.cast_ofNat_Int]
  ·simp(disch:=omega)only[go_sem,A2,hS]
 ·have hje:j=l.length:=by omega
  subst hje;obtain⟨hm,hf⟩:=KT hdw l.length hj;have hpos:0<(C3 l B l.length).all.length:=by obtain⟨q,hq⟩:∃q,l.length=q+1:=⟨l.length-1,by omega⟩;rw[hq];exact Po l B q
  generalize C3 l B l.length=S at hm hf hpos hci hof his ⊢;have hml:S.all.length≤6001:=by omega
  refine Aw ?_;try exact trivial
  refine A7 (fun k:Nat=>k≤S.all.length) (fun k=>[(4,.d (.sl 2 (AH l))),(6,.ref 3009 0),(9,.own 22005 S.all.length),(59,.d (.int .i64 S.all.length)),(60,.d (.int .i64 k))])
   (fun k=>[(3009,.var [.ref 3008 0]),(3008,.var [.d (.sl 2 (AH l)),.d (.sl 1 (AZ B)),.own 3005 l.length,.map 3006,.own 20000 S.all.length]),(3005,.row 3 1 (is S.of)),(3006,.map 9 3 (NC S.names)),(20000,.row 98 3 (cls S.all)),(22005,.row 3 1 (is (HP S.all.length k)))]) 30000 (fun k=>S.all.length-k) [4,6,9,59,60] [3009,3008,3005,3006,20000,22005] 0 (Nat.zero_le _) rfl (by rw[Ik];rfl) (Nat.le_of_ble_eq_true rfl) (fun _ _=>rfl) (fun _ _=>rfl) fun k hk=>?_
  have hkl:(HP S.all.length k).length=S.all.length:=EK ..;by_cases hk3:k<S.all.length
  ·have hst3:=GR S.all.length k;have hset:(is (HP S.all.length k)).set k (.int .i64 k)=is (HP S.all.length (k+1)):=by rw[hst3];simp[is,List.map_set]
   refine AI (And.intro @hkl (And.intro @hset @Int.toNat_natCast)) ?_;try exact trivial
   refine⟨k+1,by omega,?_,?_,by omega⟩
   ·simp(disch:=omega)only[go_sem,A2,Int.natCast_add,Int.cast_ofNat_Int]
   ·simp(disch:=omega)only[go_sem,A2]
  ·have hke:k=S.all.length:=by omega
   subst hke;have hfz:L5 [(3009,HO.var [AV.ref 3008 0]),(3008,HO.var [AV.d (D.sl 2 (AH l)),AV.d (D.sl 1 (AZ B)),AV.own 3005 l.length,AV.map 3006,AV.own 20000 S.all.length]),(3005,HO.row 3 1 (is S.of)),(3006,HO.map 9 3 (NC S.names)),(20000,HO.row 98 3 (cls S.all)),(22005,HO.row 3 1 (is (HP S.all.length S.all.length)))] 3 (AV.ref 3009 0)=some (.ptr [.ptr (MD l B S)],[3009,3008,3005,3006,20000]):=by
    have hol:l.length=(is S.of).length:=by rw[Aq,hm.len]
    simp[L5,L4,Bj,lk,← hol,Ir,MD,D.cell]
   have hid:is (HP S.all.length S.all.length)=ns (List.range S.all.length):=PM _;have cs:=S1 (l:=l) (B:=B) (S:=S) (xs:=List.range S.all.length) (ys:=Bo S.all) (fun c hc=>(hm.fst c hc).1) hci (fun x hx=>List.mem_range.1 hx) (by simp;omega) (by simp;omega) (CR _) (Kn _);rw[List.length_range]at cs;refine Rr (hp':=[(22005,.row 3 1 (is (HP S.all.length S.all.length)))]) 6 3 rfl hfz rfl ?_;rw[hid];have c0_:=cs;refine Aw ?_;try exact trivial
   have hcl:=Ds S.all;refine A7 (fun k:Nat=>k≤S.all.length) (fun k=>[(4,.d (.sl 2 (AH l))),(6,.d (.ptr [.ptr (MD l B S)])),(9,.own 22005 S.all.length),(11,.own 32005 S.all.length),(77,.own 22005 S.all.length),(78,.d (.int .i64 S.all.length)),(79,.d (.int .i64 k))])
    (fun k=>[(32005,.row 3 1 (is (Lu S.all k))),(22005,.row 3 1 (ns (Bo S.all)))]) 40000 (fun k=>S.all.length-k) [4,6,9,11,77,78,79] [32005,22005] 0 (Nat.zero_le _) rfl (by rw[Ik];rfl) (Nat.le_of_ble_eq_true rfl) (fun _ _=>rfl) (fun _ _=>rfl) fun k hk=>?_
   have hal:=NL S.all k;by_cases hk3:k<S.all.length
   ·have hst3:=Jh S.all k;have hck:=H1 S.all hk3;have hset:(is (Lu S.all k)).set ((Bo S.all)[k]!) (.int .i64 k)=is (Lu S.all (k+1)):=by rw[hst3];simp[is,List.map_set]
    have hg:=MZ (l:=Bo S.all) (k:=k) (by omega);have hnl:=Pm (l:=Bo S.all);refine AI (And.intro @hal (And.intro @hg (And.intro @hcl (And.intro @hnl (And.intro @hset @Int.toNat_natCast))))) ?_;try exact trivial
    refine⟨k+1,by omega,?_,?_,by omega⟩
    ·simp(disch:=omega)only[go_sem,A2,Int.natCast_add,Int.cast_ofNat_Int]
    ·simp(disch:=omega)only[go_sem,A2]
   ·have hke:k=S.all.length:=by omega
    subst hke;have hnl:=Pm (l:=Bo S.all);refine AI (And.intro @hal (And.intro @hcl @hnl)) ?_;try exact trivial
    refine Nk 14 50000 TA rfl rfl (by simp) rfl rfl (by decide) LU (Nat.le_of_ble_eq_true rfl) (Ss (l:=l)) rfl ?_;refine A7 (fun k:Nat=>k≤S.all.length) (fun k=>[(4,.d (.sl 2 (AH l))),(6,.d (.ptr [.ptr (MD l B S)])),(11,.own 32005 S.all.length),(14,.tab 50000 S.all.length),(95,.own 22005 S.all.length),(96,.d (.int .i64 S.all.length)),(97,.d (.int .i64 k))])
     (fun k=>[(50000,.tab TA (AH (GI l S k)) none),(32005,.row 3 1 (is (Lu S.all S.all.length))),(22005,.row 3 1 (ns (Bo S.all)))]) 60000 (fun k=>S.all.length-k) [4,6,11,14,95,96,97] [50000,32005,22005] 0 (Nat.zero_le _) rfl rfl (Nat.le_of_ble_eq_true rfl) (fun _ _=>rfl) (fun _ _=>rfl) fun k hk=>?_
    have hol:=Pi (l:=l) hk;by_cases hk3:k<S.all.length
    ·have hck:=H1 S.all hk3;have hg:=MZ (l:=Bo S.all) (k:=k) (by omega);have hok:=QY (l:=l) hk3;have hos:=O8 (l:=l) hk3;unfold KP at hos;obtain⟨s1,s2⟩:=his _ hck;generalize(Bo S.all)[k]! =c at hck hg hos s1 s2;obtain⟨i,hi⟩:=Int.eq_ofNat_of_zero_le s1;rw[hi,Int.toNat_natCast]at hos;have hil:i<l.length:=by omega
     have hfw:=hdw.few i hil;have har:=hdw.arcs i hil;generalize hP:GI l S (k+1)=P1 at hos;generalize GI l S k=o at hol hok hos ⊢;refine AI (And.intro @hal (And.intro @hcl (And.intro @hnl (And.intro @hg (And.intro @hi (And.intro @hol (And.intro @hok @Int.toNat_natCast))))))) ?_;try exact trivial
     refine A7 (fun j:Nat=>j≤(l[i]!).arcs.length) (fun j=>[(4,.d (.sl 2 (AH l))),(6,.d (.ptr [.ptr (MD l B S)])),(11,.own 32005 S.all.length),(14,.tab 50000 S.all.length),(15,.d (.int .i64 k)),(95,.own 22005 S.all.length),(96,.d (.int .i64 S.all.length)),(97,.d (.int .i64 k)),(120,.d (.sl 2 (Gu (l[i]!).arcs))),(121,.d (.int .i64 (l[i]!).arcs.length)),(122,.d (.int .i64 j))])
      (fun j=>[(50000,.tab TA (AH (o.set k ⟨(l[i]!).final,((l[i]!).arcs.take j).map (Qk S)⟩)) none),(32005,.row 3 1 (is (Lu S.all S.all.length))),(22005,.row 3 1 (ns (Bo S.all)))]) 70000 (fun j=>(l[i]!).arcs.length-j) [4,6,11,14,15,95,96,97,120,121,122] [50000,32005,22005] 0 (Nat.zero_le _) rfl (by rw[List.take_zero,List.map_nil];rfl) (Nat.le_of_ble_eq_true rfl) (fun _ _=>rfl) (fun _ _=>rfl) fun j hj=>?_
     have hsl:∀r:AB,(o.set k r).length=S.all.length:=fun r=>by rw[List.length_set,hol]
     have hsg:∀r:AB,(o.set k r)[k]! =r:=fun r=>by rw[Av (by omega),if_pos rfl]
     have hmj:(((l[i]!).arcs.take j).map (Qk S)).length=j:=by rw[List.length_map,List.length_take];omega
     by_cases hj3:j<(l[i]!).arcs.length
     ·obtain⟨g1,g2,g3,g4⟩:=har ((l[i]!).arcs[j]!) (by rw[getElem!_pos (l[i]!).arcs j hj3];exact List.getElem_mem hj3);obtain⟨t,ht⟩:=Int.eq_ofNat_of_zero_le g3;have htl:t<l.length:=by omega
      have htl2:t<S.of.length:=by rw[hm.len];exact htl
      obtain⟨o1,o2⟩:=hof t htl;obtain⟨y,hy⟩:=Int.eq_ofNat_of_zero_le o1;have hst:((l[i]!).arcs.take (j+1)).map (Qk S)=((l[i]!).arcs.take j).map (Qk S)++[⟨((l[i]!).arcs[j]!).sign,(Lu S.all S.all.length)[y]!⟩]:=by
       have hga:Qk S ((l[i]!).arcs[j]!)=⟨((l[i]!).arcs[j]!).sign,(Lu S.all S.all.length)[y]!⟩:=by unfold Qk;rw[ht,Int.toNat_natCast,hy,Int.toNat_natCast]
       rw[Ak hj3,List.map_append,← hga];rfl
      have hyl:y<S.all.length:=by omega
      generalize((l[i]!).arcs.take j).map (Qk S)=A0 at hst hmj;have hs1:=hsl ⟨(l[i]!).final,A0⟩;have hs2:=hsl ⟨(l[i]!).final,A0++[⟨((l[i]!).arcs[j]!).sign,(Lu S.all S.all.length)[y]!⟩]⟩;have hlA:(A0++[(⟨((l[i]!).arcs[j]!).sign,(Lu S.all S.all.length)[y]!⟩:Ar)]).length=j+1:=by rw[List.length_append,hmj];rfl
      refine AI (And.intro @hal (And.intro @hcl (And.intro @hnl (And.intro @hsl (And.intro @hsg (And.intro @ht (And.intro @hy (And.intro @hmj @Int.toNat_natCast)))))))) ?_;try exact trivial
      refine⟨j+1,by omega,?_,?_,by omega⟩
      ·simp(disch:=omega)only[go_sem,A2,Int.natCast_add,Int.cast_ofNat_Int]
      ·simp(disch:=omega)only[go_sem,A2,List.set_set,hst]
     ·have hje:j=(l[i]!).arcs.length:=by omega
      subst hje;rw[List.take_length,hos];refine Aw ?_;try exact trivial
      refine⟨k+1,by omega,?_,?_,by omega⟩
      ·simp(disch:=omega)only[go_sem,A2,Int.natCast_add,Int.cast_ofNat_Int]
      ·simp(disch:=omega)only[go_sem,A2,hP]
    ·have hke:k=S.all.length:=by omega
     subst hke;rw[Pj]at hol ⊢;refine AI @hol ?_;try exact trivial
end Go.Eng.Tryz
namespace Go.Eng.Tryz
theorem AP.idx{L:List (List Int)}{l:List AB}{B:List (List Int)}(h:AP L l B){u:List Int}(hu:u∈B):∃k:Nat,B[k]? =some u:=by
 obtain⟨k,hk⟩:=List.getElem_of_mem hu;exact⟨k,by rw[← hk.2];exact List.getElem?_eq_getElem hk.1⟩
theorem AP.closed{L:List (List Int)}{l:List AB}{B:List (List Int)}(h:AP L l B){u:List Int}{z:Int}(hu:u++[z]∈B):u∈B:=by
 rcases(h.mem _).1 hu with h1|⟨w,h1,h2⟩
 ·simp at h1
 ·exact(h.mem _).2 (.inr ⟨w,h1,(List.prefix_append _ _).trans h2⟩)
theorem AP.parent{L:List (List Int)}{l:List AB}{B:List (List Int)}(h:AP L l B){t:Nat}(h0:0<t)(ht:t<l.length):∃p u z,p<t∧B[p]? =some u∧B[t]? =some (u++[z])∧(⟨z,(t:Int)⟩:Ar)∈(l[p]!).arcs:=by
 have htB:t<B.length:=by rw[h.len];exact ht
 have hu:=List.getElem?_eq_getElem htB;have hne:B[t]≠[]:=fun e=>by
  rw[e]at hu;have:=GA h.srt hu h.root;omega
 obtain⟨u,z,e⟩:∃u z,B[t]=u++[z]:=⟨_,_,(List.dropLast_concat_getLast hne).symm⟩
 rw[e]at hu;obtain⟨p,hp⟩:=h.idx (h.closed (List.mem_of_getElem? hu));refine⟨p,u,z,?_,hp,hu,(h.arcs p u hp ⟨z,t⟩).2 ⟨by simp,by simpa using hu⟩⟩;rcases Nat.lt_trichotomy p t with h1|h1|h1
 ·exact h1
 ·subst h1;rw[hp]at hu;have:=congrArg List.length (Option.some.inj hu);simp at this
 ·exfalso;obtain⟨g1,e1⟩:=List.getElem?_eq_some_iff.1 hp;have:=List.pairwise_iff_getElem.1 h.srt t p htB g1 h1;rw[e1,e]at this;rcases this with h2|⟨h2,_⟩<;>(simp at h2;try omega)
theorem AP.fwd{L:List (List Int)}{l:List AB}{B:List (List Int)}(h:AP L l B){p:Nat}{a:Ar}(hp:p<l.length)(ha:a∈(l[p]!).arcs):0≤a.to∧p<a.to.toNat∧a.to.toNat<l.length:=by
 have hpB:p<B.length:=by rw[h.len];exact hp
 have hu:=List.getElem?_eq_getElem hpB;obtain⟨h1,h2⟩:=(h.arcs p _ hu a).1 ha;obtain⟨g1,e1⟩:=List.getElem?_eq_some_iff.1 h2;refine⟨h1,?_,by rw[← h.len];exact g1⟩;rcases Nat.lt_trichotomy p a.to.toNat with h3|h3|h3
 ·exact h3
 ·exfalso;rw[← h3,hu]at h2;have:=congrArg List.length (Option.some.inj h2);simp at this
 ·exfalso;have:=List.pairwise_iff_getElem.1 h.srt a.to.toNat p g1 hpB h3;rw[e1]at this;rcases this with h4|⟨h4,_⟩<;>(simp at h4;try omega)
theorem Oq{X:List (List Int)}{q i:Nat}{v:List Int}(h:q≠i):(X.set q v)[i]! =X[i]! :=by
 simp only[List.getElem!_eq_getElem?_getD,List.getElem?_set_ne h]
theorem Oo{X:List (List Int)}{q:Nat}{v:List Int}(h:q<X.length):(X.set q v)[q]! =v:=by
 simp[List.getElem!_eq_getElem?_getD,List.getElem?_set_self h]
structure Nm(l:List AB)(B:List (List Int))(i k:Nat)(R:List (List Int)):Prop where
 len:R.length=l.length
 val:∀t,t<l.length→R[t]! =B[t]!∨R[t]! =[]
 done:∀p a,p<i→a∈(l[p]!).arcs→R[a.to.toNat]! =B[a.to.toNat]!
 part:∀a,a∈(l[i]!).arcs.take k→R[a.to.toNat]! =B[a.to.toNat]!
theorem Nm.self{L:List (List Int)}{l:List AB}{B:List (List Int)}(h:AP L l B){i k:Nat}{R:List (List Int)}(hR:Nm l B i k R)(hi:i<l.length):R[i]! =B[i]! :=by
 by_cases h0:i=0
 ·subst h0;have hB0:B[0]! =[]:=PO h.root;rcases hR.val 0 hi with h1|h1
  ·exact h1
  ·rw[h1,hB0]
 ·obtain⟨p,u,z,h1,h2,h3,h4⟩:=h.parent (by omega) hi;have:=hR.done p _ h1 h4;simpa using this
theorem Nm.step{L:List (List Int)}{l:List AB}{B:List (List Int)}(h:AP L l B){i k:Nat}{R:List (List Int)}(hR:Nm l B i k R)(hi:i<l.length)(hk:k<(l[i]!).arcs.length):Nm l B i (k+1) (Lo i R ((l[i]!).arcs[k]!)):=by
 have hs:=hR.self h hi;have hmem:(l[i]!).arcs[k]!∈(l[i]!).arcs:=by rw[getElem!_pos _ k hk];exact List.getElem_mem hk
 have hsn:(l[i]!).arcs.take (k+1)=(l[i]!).arcs.take k++[(l[i]!).arcs[k]!]:=Ak hk;generalize(l[i]!).arcs[k]! =a at hmem hsn ⊢;obtain⟨f1,f2,f3⟩:=h.fwd hi hmem;have hiB:i<B.length:=by rw[h.len];exact hi
 have hto:=((h.arcs i _ (List.getElem?_eq_getElem hiB) a).1 hmem).2;have hv:B[a.to.toNat]! =R[i]!++[a.sign]:=by rw[PO hto,hs,getElem!_pos B i hiB]
 have key:∀t,(Lo i R a)[t]! =if t=a.to.toNat then B[t]! else R[t]! :=fun t=>by
  unfold Lo;by_cases e:t=a.to.toNat
  ·subst e;rw[if_pos rfl,Oo (by rw[hR.len];exact f3),hv]
  ·rw[if_neg e,Oq (fun x=>e x.symm)]
 refine⟨by unfold Lo;rw[List.length_set];exact hR.len,fun t ht=>?_,fun p b hp hb=>?_,fun b hb=>?_⟩
 ·rw[key];split
  ·exact .inl rfl
  ·exact hR.val t ht
 ·rw[key];split
  ·rfl
  ·exact hR.done p b hp hb
 ·rw[key];split
  ·rfl
  ·rename_i hne;rw[hsn]at hb;rcases List.mem_append.1 hb with h1|h1
   ·exact hR.part b h1
   ·simp only[List.mem_singleton]at h1;subst h1;exact absurd rfl hne
theorem SJ{L:List (List Int)}{l:List AB}{B:List (List Int)}(h:AP L l B):∀j,j≤l.length→Nm l B j 0 (BX l j):=by
 intro j;induction j with
 |zero =>
  intro _;refine⟨by simp[BX],fun t ht=>.inr ?_,fun p a hp=>by omega,fun a ha=>by simp at ha⟩;have:BX l 0=List.replicate l.length []:=rfl;rw[this,getElem!_pos _ t (by simpa using ht)];simp
 |succ j ih =>
  intro hj;have h0:=ih (by omega);have hin:∀k,k≤(l[j]!).arcs.length→Nm l B j k (Ia l (BX l j) j k):=fun k=>by
   induction k with
   |zero=>intro _;exact h0
   |succ k ihk =>
    intro hk;rw[HA l (BX l j) j (by omega)];exact(ihk (by omega)).step h (by omega) (by omega)
  have h1:=hin _ (Nat.le_refl _);rw[FJ];refine⟨h1.len,h1.val,fun p a hp ha=>?_,fun a ha=>by simp at ha⟩;by_cases e:p=j
  ·subst e;exact h1.part a (by rw[List.take_length];exact ha)
  ·exact h1.done p a (by omega) ha
theorem Q4{L:List (List Int)}{l:List AB}{B:List (List Int)}(h:AP L l B):BX l l.length=B:=by
 have hI:=SJ h l.length (Nat.le_refl _);apply List.ext_getElem (by rw[hI.len,h.len]);intro t h1 h2;have ht:t<l.length:=by rw[← hI.len];exact h1
 rw[← getElem!_pos _ t h1,← getElem!_pos _ t h2];by_cases h0:t=0
 ·subst h0;have hB0:B[0]! =[]:=PO h.root;rcases hI.val 0 ht with h3|h3
  ·exact h3
  ·rw[h3,hB0]
 ·obtain⟨p,u,z,g1,g2,g3,g4⟩:=h.parent (by omega) ht;have:=hI.done p _ (by omega) g4;simpa using this
theorem HC{i n:Int}:∀{l:List Ar} {last:Int},l.Pairwise (fun a b=>a.sign<b.sign)→(∀a∈l,last<a.sign∧BN a.sign=true∧i<a.to∧a.to<n)→AR i n last l=true
 | [],_,_,_=>rfl
 |a::t,last,hp,h=>by
  obtain⟨h1,h2,h3,h4⟩:=h a (by simp);rw[List.pairwise_cons]at hp;simp only[AR,Da,Bool.and_eq_true,decide_eq_true_eq];refine⟨⟨⟨⟨h1,h2⟩,h3⟩,h4⟩,HC hp.2 fun b hb=>?_⟩;obtain⟨_,g2,g3,g4⟩:=h b (by simp[hb]);exact⟨hp.1 b hb,g2,g3,g4⟩
structure I0(L:List (List Int))(l:List AB)(B:List (List Int)):Prop where
 b:AP L l B
 l0:0<l.length
 l1:l.length≤6001
 good:∀p:Nat,p<l.length→∀a∈(l[p]!).arcs,BN a.sign=true
 few:∀p:Nat,(l[p]!).arcs.length≤6001
 long:∀w∈B,w.length≤20
theorem Ky{L:List (List Int)}(he:F0 L=0):∃B,I0 L (Ap L) B:=by
 obtain⟨h1,h2,h3⟩:=H9 he;have hw:∀w∈L,0<w.length∧w.length≤20∧w.all BN=true:=fun w h=>C1 (List.all_eq_true.1 h2 w h);obtain⟨B,hB⟩:=RR ⟨h3,fun j hj=>by rw[getElem!_pos L j hj];exact(hw _ (List.getElem_mem hj)).1⟩ (fun w h=>(hw w h).2.1);have hz:∀w∈L,∀z∈w,-9223372036854775808≤z∧z≤9223372036854775807:=fun w h z hz=>by
  have:=of_decide_eq_true (List.all_eq_true.1 (hw w h).2.2 z hz);omega
 have ti:=LC hz h1 20 (Nat.le_refl _);have hlen:(Ap L).length≤6001:=by have:=ti.len;simp only at this;unfold Ap;omega
 refine⟨B,hB,ti.pos,hlen,fun p hp a ha=>?_,fun p=>?_,fun w hwB=>?_⟩
 ·have hpB:p<B.length:=by rw[hB.len];exact hp
  obtain⟨g1,g2⟩:=(hB.arcs p _ (List.getElem?_eq_getElem hpB) a).1 ha;rcases(hB.mem _).1 (List.mem_of_getElem? g2)with h|⟨w,hw1,hw2⟩
  ·simp at h
  ·refine List.all_eq_true.1 (hw w hw1).2.2 _ (hw2.subset (by simp))
 ·have:=ti.arcs p;simp only at this;unfold Ap;omega
 ·rcases(hB.mem _).1 hwB with h|⟨v,hv1,hv2⟩
  ·rw[h];simp
  ·exact Nat.le_trans hv2.length_le (hw v hv1).2.1
theorem I0.achk{L:List (List Int)}{l:List AB}{B:List (List Int)}(h:I0 L l B):achk l=true:=by
 unfold Go.Eng.Tryz.achk;rw[decide_eq_true ⟨h.l0,h.l1⟩,Bool.and_true];unfold BM;refine List.all_eq_true.2 fun p hp=>?_;rw[List.mem_range]at hp;have hpB:p<B.length:=by rw[h.b.len];exact hp
 refine HC (h.b.ris p _ (List.getElem?_eq_getElem hpB)) fun a ha=>?_;have hg:=h.good p hp a ha;obtain⟨f1,f2,f3⟩:=h.b.fwd hp ha;have:=of_decide_eq_true hg;exact⟨by omega,hg,by omega,by omega⟩
theorem I0.sok{L:List (List Int)}{l:List AB}{B:List (List Int)}(h:I0 L l B):BZ l:=by
 refine⟨by have:=h.l1;omega,fun s hs=>?_⟩;obtain⟨p,hp,rfl⟩:=List.getElem_of_mem hs;have:=h.few p;rw[getElem!_pos l p hp]at this;omega
theorem I0.dw{L:List (List Int)}{l:List AB}{B:List (List Int)}(h:I0 L l B):U4 l B:=by
 refine⟨h.l0,h.l1,h.b.len,fun w hw=>by have:=h.long w hw;omega,fun p hp a ha=>?_,fun p hp=>by have:=h.few p;omega⟩;have hg:=of_decide_eq_true (h.good p hp a ha);obtain⟨f1,f2,f3⟩:=h.b.fwd hp ha;omega
end Go.Eng.Tryz

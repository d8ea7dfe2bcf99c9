/- The least automaton, part 4: it is made. (and what stands behind it: texts laid together) -/
import Derived.Test.YtooblcpmpemhfaaGreatDoorMG4
import Derived.Test.YtooblcpmpemhfaaGreatDoorMR19
import Derived.Test.YtooblcpmpemhfaaGreatDoorMH1
set_option linter.unusedVariables false
set_option linter.unusedSimpArgs false
open Go Go.Eng Go.Proofs Go.RowKit
set_option maxHeartbeats 32000000
set_option maxRecDepth 100000
namespace Go.Eng.Tryz
attribute [local go_sem] Aq As Bb Bh Da AP AO Az Ax M1 Ps MF Pt
def E4(l:List Ak)(B:List (List Int))(j:Nat):MS:=(List.range j).foldl (fun s j=>G4 l B s (l.length-1-j)) ⟨List.replicate l.length 0,[],[]⟩
theorem GS(l:List Ak)(B:List (List Int))(j:Nat):E4 l B (j+1)=G4 l B (E4 l B j) (l.length-1-j):=by simp[E4,List.range_succ]
theorem db{l:List Int}{i:Nat}{x z:Int}(h:z∈l.set i x):z=x∨z∈l:=(List.mem_or_eq_of_mem_set h).symm
theorem cI.step{l:List Ak}{B:List (List Int)}{s:MS}{i:Nat}(hl1:l.length≤6001)(hi:i<l.length)(hB:B.length=l.length)(hBl:∀w∈B,w.length≤6001)(hs:∀a∈(l[i]!).arcs,0≤a.sign∧a.sign≤1114111∧0≤a.to∧a.to<l.length)(hal:(l[i]!).arcs.length≤10000)(hm:cI l B s)(hfew:s.all.length<l.length):cI l B (G4 l B s i):=by
 obtain⟨h1,h2,h3,h4,h5,h6,h7⟩:=hm;have hkn:XQ (Cc s.of (l[i]!)):=by
  refine⟨fun a ha=>?_,?_⟩
  ·obtain⟨x,hx,rfl⟩:=List.mem_map.1 ha;obtain⟨g1,g2,g3,g4⟩:=hs x hx;have:=h2.get (k:=x.to.toNat) (by omega);exact⟨g1,this.1⟩
  ·have hnl:=GT (Cc s.of (l[i]!)).final (Cc s.of (l[i]!)).arcs (fun a ha=>by
    obtain⟨x,hx,rfl⟩:=List.mem_map.1 ha;obtain⟨g1,g2,g3,g4⟩:=hs x hx;have:=h2.get (k:=x.to.toNat) (by omega);simp only[Ec];omega)
   have e1:(Gx (Cc s.of (l[i]!))).size=(HQ (Cc s.of (l[i]!))).length:=by simp[Gx,EK,ByteArray.size]
   have e2:(Cc s.of (l[i]!)).arcs.length=(l[i]!).arcs.length:=by simp[Cc]
   rw[e1];simp only[maxLen];unfold HQ;omega
 have hBi:(B[i]!).length≤6001:=by rw[getElem!_pos B i (by omega)];exact hBl _ (List.getElem_mem _)
 unfold G4;cases hg:GU s.names (Cc s.of (l[i]!))with
 |none =>
  have hnot:∀p∈s.names,p.1≠Cc s.of (l[i]!):=fun p hp e=>by
   have:∀{m:List (Ak×Int)},p∈m→GU m p.1≠none:=fun{m} hp=>by
    induction m with
    |nil=>cases hp
    |cons x t ih =>
     simp only[GU];split
     ·simp
     ·rename_i hx;rcases List.mem_cons.1 hp with h|h
      ·exact absurd (by rw[h]) hx
      ·exact ih h
   exact this hp (by rw[e];exact hg)
  refine⟨by simp[h1],⟨by simp only[List.length_set];exact h2.1,fun z hz=>?_⟩,by simp;omega,fun p hp=>?_,?_,fun p hp=>?_,fun c hc=>?_⟩
  ·rcases db hz with h|h
   ·subst h;omega
   ·exact h2.2 z h
  ·rcases List.mem_append.1 hp with h|h
   ·exact h4 p h
   ·simp only[List.mem_singleton]at h;subst h;exact hkn
  ·simp only[List.map_append,List.map_cons,List.map_nil];rw[List.nodup_append];refine⟨h5,by simp,fun a ha b hb=>?_⟩;simp only[List.mem_singleton]at hb;obtain⟨p,hp,rfl⟩:=List.mem_map.1 ha;subst hb;exact hnot p hp
  ·simp only[List.length_append,List.length_cons,List.length_nil];rcases List.mem_append.1 hp with h|h
   ·have:=h6 p h;omega
   ·simp only[List.mem_singleton]at h;subst h;simp only;omega
  ·rcases List.mem_append.1 hc with h|h
   ·exact h7 c h
   ·simp only[List.mem_singleton]at h;subst h;simp only;omega
 |some c =>
  have hv:=h6 _ (Nm hg);simp only at hv;refine⟨by simp[h1],⟨by simp only[List.length_set];exact h2.1,fun z hz=>?_⟩,by simp only[List.length_set];exact h3,h4,h5,fun p hp=>by simp only[List.length_set];exact h6 p hp,fun q hq=>?_⟩
  ·rcases db hz with h|h
   ·subst h;omega
   ·exact h2.2 z h
  ·rcases List.mem_or_eq_of_mem_set hq with h|h
   ·exact h7 q h
   ·have hc:=h7 (s.all[c.toNat]!) (by rw[getElem!_pos s.all c.toNat (by omega)];exact List.getElem_mem _);rw[h];simp only;refine⟨by split<;>omega,by omega,by omega⟩
theorem Vm(l:List Ak)(B:List (List Int))(s:MS)(i:Nat):(G4 l B s i).all.length≤s.all.length+1:=by
 unfold G4;split<;>simp
structure ez(l:List Ak)(B:List (List Int)):Prop where
 l0:0<l.length
 l1:l.length≤6001
 bl:B.length=l.length
 bs:∀w∈B,w.length≤6001
 arcs:∀i,i<l.length→∀a∈(l[i]!).arcs,0≤a.sign∧a.sign≤1114111∧0≤a.to∧a.to<l.length
 few:∀i,i<l.length→(l[i]!).arcs.length≤10000
theorem U6{l:List Ak}{B:List (List Int)}(h:ez l B):∀j,j≤l.length→cI l B (E4 l B j)∧(E4 l B j).all.length≤j:=by
 intro j;induction j with
 |zero =>
  intro _;refine⟨⟨by simp[E4],⟨by simp[E4];have:=h.l1;omega,fun z hz=>?_⟩,by simp[E4],fun p hp=>?_,by simp[E4],fun p hp=>?_,fun c hc=>?_⟩,by simp[E4]⟩
  ·have:z∈List.replicate l.length (0:Int):=hz;rw[List.eq_of_mem_replicate this];omega
  ·cases hp
  ·cases hp
  ·cases hc
 |succ j ih =>
  intro hj;obtain⟨h1,h2⟩:=ih (by omega);rw[GS];exact⟨h1.step h.l1 (by omega) h.bl h.bs (h.arcs _ (by omega)) (h.few _ (by omega)) (by omega),by have:=Vm l B (E4 l B j) (l.length-1-j);omega⟩
theorem PY(n:Nat):List.replicate n (D.int .i64 0)=is (List.replicate n 0):=by simp[is]
def SK(n k:Nat):List Int:=(List.range k).foldl (fun R i=>R.set i (i:Int)) (List.replicate n 0)
theorem Nb(n k:Nat):SK n (k+1)=(SK n k).set k (k:Int):=by simp[SK,List.range_succ]
theorem YF(n k:Nat):(SK n k).length=n:=by
 induction k with
 |zero=>simp[SK]
 |succ k ih=>rw[Nb,List.length_set,ih]
theorem aU(n:Nat):is (SK n n)=ns (List.range n):=by
 have key:∀k,k≤n→SK n k=(List.range k).map (fun(i:Nat)=>(i:Int))++List.replicate (n-k) 0:=by
  intro k;induction k with
  |zero=>intro _;simp[SK]
  |succ k ih =>
   intro hk;rw[Nb,ih (by omega),List.set_append_right _ _ (by simp)];obtain⟨m,hm⟩:∃m,n-k=m+1:=⟨n-k-1,by omega⟩
   have hm2:n-(k+1)=m:=by omega
   rw[hm,hm2];simp[List.range_succ,List.replicate_succ]
 rw[key n (Nat.le_refl _),Nat.sub_self,de];simp
def Sv(all:List Cl)(a:Nat):List Nat→List Nat
 | []=>[a]
 |b::t=>if UL all b a<0 then b::Sv all a t else a::b::t
def Er(all:List Cl):List Nat:=(List.range all.length).foldr (Sv all) []
theorem KK(all:List Cl)(a:Nat):∀l:List Nat,(Sv all a l).Perm (a::l)
 | []=>.refl _
 |b::t=>by
  unfold Sv;split
  ·exact((KK all a t).cons b).trans (.swap a b t)
  ·exact .refl _
theorem QN(all:List Cl)(a:Nat):∀l:List Nat,l.Pairwise (fun a b=>¬Kw all b a)→(Sv all a l).Pairwise (fun a b=>¬Kw all b a)
 | [],_=>by simp[Sv]
 |b::t,h=>by
  rw[List.pairwise_cons]at h;unfold Sv;split
  ·rename_i hc;rw[Hj]at hc;rw[List.pairwise_cons];refine⟨fun y hy=>?_,QN all a t h.2⟩;rcases List.mem_cons.1 ((KK all a t).mem_iff.1 hy)with e|e
   ·subst e;exact fun k=>Kw.irr _ _ (hc.trans k)
   ·exact h.1 y e
  ·rename_i hc;rw[Hj]at hc;rw[List.pairwise_cons,List.pairwise_cons];refine⟨fun y hy=>?_,h⟩;rcases List.mem_cons.1 hy with e|e
   ·subst e;exact hc
   ·exact Kw.ntrans (h.1 y e) hc
theorem Jo(all:List Cl):(Er all).Perm (List.range all.length):=by
 unfold Er;generalize List.range all.length=l;induction l with
 |nil=>exact .refl _
 |cons x t ih=>exact(KK all x _).trans (ih.cons x)
theorem UQ(all:List Cl):(Er all).Pairwise (fun a b=>¬Kw all b a):=by
 unfold Er;generalize List.range all.length=l;induction l with
 |nil=>simp
 |cons x t ih=>exact QN all x _ ih
theorem Ow(all:List Cl):(Er all).length=all.length:=by rw[(Jo all).length_eq,List.length_range]
theorem QQ(all:List Cl){k:Nat}(h:k<all.length):(Er all)[k]! <all.length:=by
 rw[getElem!_pos _ k (by rw[Ow];exact h)];exact List.mem_range.1 ((Jo all).mem_iff.1 (List.getElem_mem _))
theorem X1{l:List Nat}:(ns l).length=l.length:=by simp[ns]
theorem X0{l:List Nat}{k:Nat}(h:k<l.length):(ns l)[k]? =some (.int .i64 ((l[k]!:Nat):Int)):=by simp[ns,List.getElem?_eq_getElem h,getElem!_pos l k h]
def So(all:List Cl)(k:Nat):List Int:=(List.range k).foldl (fun(R:List Int) (i:Nat)=>R.set ((Er all)[i]!) (i:Int)) (List.replicate all.length 0)
theorem QG(all:List Cl)(k:Nat):So all (k+1)=(So all k).set ((Er all)[k]!) (k:Int):=by simp[So,List.range_succ]
theorem Yc(all:List Cl)(k:Nat):(So all k).length=all.length:=by
 induction k with
 |zero=>simp[So]
 |succ k ih=>rw[QG,List.length_set,ih]
theorem OO(l:List Ak)(B:List (List Int))(s:MS)(i:Nat)(h:0<s.all.length∨s.names=[]):0<(G4 l B s i).all.length:=by
 unfold G4;split
 ·rename_i c hc;rcases h with h|h
  ·simpa using h
  ·rw[h]at hc;cases hc
 ·simp
theorem WT(l:List Ak)(B:List (List Int))(j:Nat):0<(E4 l B (j+1)).all.length:=by
 induction j with
 |zero=>rw[GS];exact OO _ _ _ _ (.inr rfl)
 |succ j ih=>rw[GS];exact OO _ _ _ _ (.inl ih)
def ZP(S:MS)(a:Ar):Ar:=⟨a.sign,(So S.all S.all.length)[(S.of[a.to.toNat]!).toNat]!⟩
def bm(l:List Ak)(S:MS)(k:Nat):Ak:=⟨(l[(S.all[(Er S.all)[k]!]!).is_.toNat]!).final,(l[(S.all[(Er S.all)[k]!]!).is_.toNat]!).arcs.map (ZP S)⟩
def Nr(l:List Ak)(S:MS)(k:Nat):List Ak:=(List.range k).map (bm l S)
def K7(l:List Ak)(S:MS)(k:Nat):List Ak:=Nr l S k++List.replicate (S.all.length-k) ⟨false,[]⟩
theorem X4{l:List Ak}{S:MS}{k:Nat}(h:k≤S.all.length):(K7 l S k).length=S.all.length:=by simp[K7,Nr];omega
theorem YX{l:List Ak}{S:MS}{k:Nat}(h:k<S.all.length):(K7 l S k)[k]! =⟨false,[]⟩:=by
 have e:(Nr l S k).length=k:=by simp[Nr]
 unfold K7;rw[List.getElem!_eq_getElem?_getD,List.getElem?_append_right (by omega),e,Nat.sub_self,List.getElem?_replicate,if_pos (by omega)];rfl
theorem Vs{l:List Ak}{S:MS}{k:Nat}(h:k<S.all.length):(K7 l S k).set k (bm l S k)=K7 l S (k+1):=by
 have e:(Nr l S k).length=k:=by simp[Nr]
 obtain⟨m,hm⟩:∃m,S.all.length-k=m+1:=⟨S.all.length-k-1,by omega⟩
 have hm2:S.all.length-(k+1)=m:=by omega
 unfold K7;rw[List.set_append_right _ _ (by omega),e,Nat.sub_self,hm,hm2,List.replicate_succ,List.set_cons_zero];simp[Nr,List.range_succ]
theorem X3(l:List Ak)(S:MS):K7 l S S.all.length=Nr l S S.all.length:=by simp[K7]
theorem WV{n:Nat}:(List.replicate n (D.agg [.bool false,.nils])).all TA.nilAt=true:=by simp[Tb.nilAt,TA,D.comps]
theorem b8{l:List Ak}{S:MS}:(List.replicate S.all.length (D.agg [.bool false,.nils])).map TA.ini=AQ (K7 l S 0):=by simp[Tb.ini,TA,D.put,AQ,Tg,IZ,K7,Nr]
attribute [local go_sem] OZ S0 QF TA
theorem bz{L:List (List Int)}(hok:Gd L)(he:Oi L=0)(hst:Bt (AS L))(hka:achk (AS L)=true)(hdw:ez (AS L) (Dw (AS L) (AS L).length))(hci:XV (E4 (AS L) (Dw (AS L) (AS L).length) (AS L).length).all)
 (hof:∀p,p<(AS L).length→0≤(E4 (AS L) (Dw (AS L) (AS L).length) (AS L).length).of[p]!∧(E4 (AS L) (Dw (AS L) (AS L).length) (AS L).length).of[p]! <(E4 (AS L) (Dw (AS L) (AS L).length) (AS L).length).all.length)
 (his:∀c,c<(E4 (AS L) (Dw (AS L) (AS L).length) (AS L).length).all.length→0≤((E4 (AS L) (Dw (AS L) (AS L).length) (AS L).length).all[c]!).is_∧((E4 (AS L) (Dw (AS L) (AS L).length) (AS L).length).all[c]!).is_<(AS L).length) :
 A3 Tryz.prog 17 [.sl 1 (CI L)] (.tup [.sl 2 (AQ (Nr (AS L) (E4 (AS L) (Dw (AS L) (AS L).length) (AS L).length) (E4 (AS L) (Dw (AS L) (AS L).length) (AS L).length).all.length)),.int .i64 0]):=by
 have ct:=Xf hok;unfold Uw at ct;rw[if_pos he]at ct;have cb:=eR hst hka;generalize AS L=l at *;obtain⟨_,hl0,hl1⟩:=Aw.1 hka;refine A6 154 Tryz.func17 A4 fun X_ w_=>?_;have c0_:=ct;have c1_:=cb;refine Ao ?_;try exact trivial
 generalize Dw l l.length=B at *;refine LX 3008 4 20000 98 3 rfl rfl (by decide) (Nat.le_of_ble_eq_true rfl) rfl ?_;refine A8 (fun j:Nat=>j≤l.length) (fun j=>[(4,.d (.sl 2 (AQ l))),(6,.ref 3009 0),(7,.mref 55 3008 0),(40,.d (.int .i64 l.length)),(41,.d (.int .i64 j))])
  (fun j=>[(3009,.var [.ref 3008 0]),(3008,.var [.d (.sl 2 (AQ l)),.d (.sl 1 (CI B)),.own 3005 l.length,.map 3006,.own 20000 (E4 l B j).all.length]),(3005,.row 3 1 (is (E4 l B j).of)),(3006,.map 9 3 (TV (E4 l B j).names)),(20000,.row 98 3 (cls (E4 l B j).all))]) 21000 (fun j=>l.length-j) [4,6,7,40,41] [3009,3008,3005,3006,20000] 0 (Nat.zero_le _) rfl (by rw[PY];rfl) (Nat.le_of_ble_eq_true rfl) (fun _ _=>rfl) (fun _ _=>rfl) fun j hj=>?_
 by_cases hj3:j<l.length
 ·obtain⟨hm,hf⟩:=U6 hdw j hj;obtain⟨i,hi⟩:∃i,i=l.length-1-j:=⟨_,rfl⟩
  have ei:(l.length:Int)-1-(j:Int)=(i:Int):=by omega
  have hst2:=GS l B j;rw[← hi]at hst2;have hil:i<l.length:=by omega
  have cm:=bE hl1 hil hdw.bl hdw.bs (hdw.arcs i hil) (hdw.few i hil) hm;have hm':=hm.step hl1 hil hdw.bl hdw.bs (hdw.arcs i hil) (hdw.few i hil) (by omega);have e1:=hm.len;have e2:=hm'.len;rw[← hst2]at cm e2;simp only[Hm,e1,e2]at cm;obtain⟨S',hS⟩:∃S',E4 l B (j+1)=S':=⟨_,rfl⟩
  rw[hS]at cm;generalize E4 l B j=S at cm ⊢;have c0_:=cm;refine Au @ei ?_;try exact trivial
  refine⟨j+1,by omega,?_,?_,by omega⟩
  ·exact Ei
  ·exact Hq @hS
 ·have hje:j=l.length:=by omega
  subst hje;obtain⟨hm,hf⟩:=U6 hdw l.length hj;have hpos:0<(E4 l B l.length).all.length:=by obtain⟨q,hq⟩:∃q,l.length=q+1:=⟨l.length-1,by omega⟩;rw[hq];exact WT l B q
  generalize E4 l B l.length=S at hm hf hpos hci hof his ⊢;have hml:S.all.length≤6001:=by omega
  refine Ao ?_;try exact trivial
  refine A8 (fun k:Nat=>k≤S.all.length) (fun k=>[(4,.d (.sl 2 (AQ l))),(6,.ref 3009 0),(9,.own 22005 S.all.length),(59,.d (.int .i64 S.all.length)),(60,.d (.int .i64 k))])
   (fun k=>[(3009,.var [.ref 3008 0]),(3008,.var [.d (.sl 2 (AQ l)),.d (.sl 1 (CI B)),.own 3005 l.length,.map 3006,.own 20000 S.all.length]),(3005,.row 3 1 (is S.of)),(3006,.map 9 3 (TV S.names)),(20000,.row 98 3 (cls S.all)),(22005,.row 3 1 (is (SK S.all.length k)))]) 30000 (fun k=>S.all.length-k) [4,6,9,59,60] [3009,3008,3005,3006,20000,22005] 0 (Nat.zero_le _) rfl (by rw[PY];rfl) (Nat.le_of_ble_eq_true rfl) (fun _ _=>rfl) (fun _ _=>rfl) fun k hk=>?_
  have hkl:(SK S.all.length k).length=S.all.length:=YF ..;by_cases hk3:k<S.all.length
  ·have hst3:=Nb S.all.length k;have hset:(is (SK S.all.length k)).set k (.int .i64 k)=is (SK S.all.length (k+1)):=by rw[hst3];simp[is,List.map_set]
   refine Au (And.intro @hkl (And.intro @hset @Int.toNat_natCast)) ?_;try exact trivial
   refine⟨k+1,by omega,?_,?_,by omega⟩
   ·exact Ei
   ·exact GL
  ·have hke:k=S.all.length:=by omega
   subst hke;have hfz:PQ [(3009,HO.var [AV.ref 3008 0]),(3008,HO.var [AV.d (D.sl 2 (AQ l)),AV.d (D.sl 1 (CI B)),AV.own 3005 l.length,AV.map 3006,AV.own 20000 S.all.length]),(3005,HO.row 3 1 (is S.of)),(3006,HO.map 9 3 (TV S.names)),(20000,HO.row 98 3 (cls S.all)),(22005,HO.row 3 1 (is (SK S.all.length S.all.length)))] 3 (AV.ref 3009 0)=some (.ptr [.ptr (MD l B S)],[3009,3008,3005,3006,20000]):=by
    have hol:l.length=(is S.of).length:=by rw[Aq,hm.len]
    simp[PQ,PR,Cz,lk,← hol,M1,MD,D.cell]
   have hid:is (SK S.all.length S.all.length)=ns (List.range S.all.length):=aU _;have cs:=bO (l:=l) (B:=B) (S:=S) (xs:=List.range S.all.length) (ys:=Er S.all) (fun c hc=>(hm.fst c hc).1) hci (fun x hx=>List.mem_range.1 hx) (by simp;omega) (by simp;omega) (Jo _) (UQ _);rw[List.length_range]at cs;refine Y3 (hp':=[(22005,.row 3 1 (is (SK S.all.length S.all.length)))]) 6 3 rfl hfz rfl ?_;rw[hid];have c0_:=cs;refine Ao ?_;try exact trivial
   have hcl:=Ow S.all;refine A8 (fun k:Nat=>k≤S.all.length) (fun k=>[(4,.d (.sl 2 (AQ l))),(6,.d (.ptr [.ptr (MD l B S)])),(9,.own 22005 S.all.length),(11,.own 32005 S.all.length),(77,.own 22005 S.all.length),(78,.d (.int .i64 S.all.length)),(79,.d (.int .i64 k))])
    (fun k=>[(32005,.row 3 1 (is (So S.all k))),(22005,.row 3 1 (ns (Er S.all)))]) 40000 (fun k=>S.all.length-k) [4,6,9,11,77,78,79] [32005,22005] 0 (Nat.zero_le _) rfl (by rw[PY];rfl) (Nat.le_of_ble_eq_true rfl) (fun _ _=>rfl) (fun _ _=>rfl) fun k hk=>?_
   have hal:=Yc S.all k;by_cases hk3:k<S.all.length
   ·have hst3:=QG S.all k;have hck:=QQ S.all hk3;have hset:(is (So S.all k)).set ((Er S.all)[k]!) (.int .i64 k)=is (So S.all (k+1)):=by rw[hst3];simp[is,List.map_set]
    have hg:=X0 (l:=Er S.all) (k:=k) (by omega);have hnl:=X1 (l:=Er S.all);refine Au (And.intro @hal (And.intro @hg (And.intro @hcl (And.intro @hnl (And.intro @hset @Int.toNat_natCast))))) ?_;try exact trivial
    refine⟨k+1,by omega,?_,?_,by omega⟩
    ·exact Ei
    ·exact GL
   ·have hke:k=S.all.length:=by omega
    subst hke;have hnl:=X1 (l:=Er S.all);refine Au (And.intro @hal (And.intro @hcl @hnl)) ?_;try exact trivial
    refine Sk 14 50000 TA rfl rfl (by simp) rfl rfl (by decide) WV (Nat.le_of_ble_eq_true rfl) (b8 (l:=l)) rfl ?_;refine A8 (fun k:Nat=>k≤S.all.length) (fun k=>[(4,.d (.sl 2 (AQ l))),(6,.d (.ptr [.ptr (MD l B S)])),(11,.own 32005 S.all.length),(14,.tab 50000 S.all.length),(95,.own 22005 S.all.length),(96,.d (.int .i64 S.all.length)),(97,.d (.int .i64 k))])
     (fun k=>[(50000,.tab TA (AQ (K7 l S k)) none),(32005,.row 3 1 (is (So S.all S.all.length))),(22005,.row 3 1 (ns (Er S.all)))]) 60000 (fun k=>S.all.length-k) [4,6,11,14,95,96,97] [50000,32005,22005] 0 (Nat.zero_le _) rfl rfl (Nat.le_of_ble_eq_true rfl) (fun _ _=>rfl) (fun _ _=>rfl) fun k hk=>?_
    have hol:=X4 (l:=l) hk;by_cases hk3:k<S.all.length
    ·have hck:=QQ S.all hk3;have hg:=X0 (l:=Er S.all) (k:=k) (by omega);have hok:=YX (l:=l) hk3;have hos:=Vs (l:=l) hk3;unfold bm at hos;obtain⟨s1,s2⟩:=his _ hck;generalize(Er S.all)[k]! =c at hck hg hos s1 s2;obtain⟨i,hi⟩:=Int.eq_ofNat_of_zero_le s1;rw[hi,Int.toNat_natCast]at hos;have hil:i<l.length:=by omega
     have hfw:=hdw.few i hil;have har:=hdw.arcs i hil;generalize hP:K7 l S (k+1)=P1 at hos;generalize K7 l S k=o at hol hok hos ⊢;refine Au (And.intro @hal (And.intro @hcl (And.intro @hnl (And.intro @hg (And.intro @hi (And.intro @hol (And.intro @hok @Int.toNat_natCast))))))) ?_;try exact trivial
     refine A8 (fun j:Nat=>j≤(l[i]!).arcs.length) (fun j=>[(4,.d (.sl 2 (AQ l))),(6,.d (.ptr [.ptr (MD l B S)])),(11,.own 32005 S.all.length),(14,.tab 50000 S.all.length),(15,.d (.int .i64 k)),(95,.own 22005 S.all.length),(96,.d (.int .i64 S.all.length)),(97,.d (.int .i64 k)),(120,.d (.sl 2 (IZ (l[i]!).arcs))),(121,.d (.int .i64 (l[i]!).arcs.length)),(122,.d (.int .i64 j))])
      (fun j=>[(50000,.tab TA (AQ (o.set k ⟨(l[i]!).final,((l[i]!).arcs.take j).map (ZP S)⟩)) none),(32005,.row 3 1 (is (So S.all S.all.length))),(22005,.row 3 1 (ns (Er S.all)))]) 70000 (fun j=>(l[i]!).arcs.length-j) [4,6,11,14,15,95,96,97,120,121,122] [50000,32005,22005] 0 (Nat.zero_le _) rfl (by rw[List.take_zero,List.map_nil];rfl) (Nat.le_of_ble_eq_true rfl) (fun _ _=>rfl) (fun _ _=>rfl) fun j hj=>?_
     have hsl:∀r:Ak,(o.set k r).length=S.all.length:=fun r=>by rw[List.length_set,hol]
     have hsg:∀r:Ak,(o.set k r)[k]! =r:=fun r=>by rw[Bw (by omega),if_pos rfl]
     have hmj:(((l[i]!).arcs.take j).map (ZP S)).length=j:=by rw[List.length_map,List.length_take];omega
     by_cases hj3:j<(l[i]!).arcs.length
     ·obtain⟨g1,g2,g3,g4⟩:=har ((l[i]!).arcs[j]!) (by rw[getElem!_pos (l[i]!).arcs j hj3];exact List.getElem_mem hj3);obtain⟨t,ht⟩:=Int.eq_ofNat_of_zero_le g3;have htl:t<l.length:=by omega
      have htl2:t<S.of.length:=by rw[hm.len];exact htl
      obtain⟨o1,o2⟩:=hof t htl;obtain⟨y,hy⟩:=Int.eq_ofNat_of_zero_le o1;have hst:((l[i]!).arcs.take (j+1)).map (ZP S)=((l[i]!).arcs.take j).map (ZP S)++[⟨((l[i]!).arcs[j]!).sign,(So S.all S.all.length)[y]!⟩]:=by
       have hga:ZP S ((l[i]!).arcs[j]!)=⟨((l[i]!).arcs[j]!).sign,(So S.all S.all.length)[y]!⟩:=by unfold ZP;rw[ht,Int.toNat_natCast,hy,Int.toNat_natCast]
       rw[AT hj3,List.map_append,← hga];rfl
      have hyl:y<S.all.length:=by omega
      generalize((l[i]!).arcs.take j).map (ZP S)=A0 at hst hmj;have hs1:=hsl ⟨(l[i]!).final,A0⟩;have hs2:=hsl ⟨(l[i]!).final,A0++[⟨((l[i]!).arcs[j]!).sign,(So S.all S.all.length)[y]!⟩]⟩;have hlA:(A0++[(⟨((l[i]!).arcs[j]!).sign,(So S.all S.all.length)[y]!⟩:Ar)]).length=j+1:=by rw[List.length_append,hmj];rfl
      refine Au (And.intro @hal (And.intro @hcl (And.intro @hnl (And.intro @hsl (And.intro @hsg (And.intro @ht (And.intro @hy (And.intro @hmj @Int.toNat_natCast)))))))) ?_;try exact trivial
      refine⟨j+1,by omega,?_,?_,by omega⟩
      ·exact Ei
      ·simp(disch:=omega)only[go_sem,AC,List.set_set,hst]
     ·have hje:j=(l[i]!).arcs.length:=by omega
      subst hje;rw[List.take_length,hos];refine Ao ?_;try exact trivial
      refine⟨k+1,by omega,?_,?_,by omega⟩
      ·exact Ei
      ·exact Hq @hP
    ·have hke:k=S.all.length:=by omega
     subst hke;rw[X3]at hol ⊢;refine Au @hol ?_;try exact trivial
end Go.Eng.Tryz
namespace Go.Eng.Tryz
theorem BR.idx{L:List (List Int)}{l:List Ak}{B:List (List Int)}(h:BR L l B){u:List Int}(hu:u∈B):∃k:Nat,B[k]? =some u:=by
 obtain⟨k,hk⟩:=List.getElem_of_mem hu;exact⟨k,by rw[← hk.2];exact List.getElem?_eq_getElem hk.1⟩
theorem BR.closed{L:List (List Int)}{l:List Ak}{B:List (List Int)}(h:BR L l B){u:List Int}{z:Int}(hu:u++[z]∈B):u∈B:=by
 rcases(h.mem _).1 hu with h1|⟨w,h1,h2⟩
 ·simp at h1
 ·exact(h.mem _).2 (.inr ⟨w,h1,(List.prefix_append _ _).trans h2⟩)
theorem BR.parent{L:List (List Int)}{l:List Ak}{B:List (List Int)}(h:BR L l B){t:Nat}(h0:0<t)(ht:t<l.length):∃p u z,p<t∧B[p]? =some u∧B[t]? =some (u++[z])∧(⟨z,(t:Int)⟩:Ar)∈(l[p]!).arcs:=by
 have htB:t<B.length:=by rw[h.len];exact ht
 have hu:=List.getElem?_eq_getElem htB;have hne:B[t]≠[]:=fun e=>by
  rw[e]at hu;have:=Kj h.srt hu h.root;omega
 obtain⟨u,z,e⟩:∃u z,B[t]=u++[z]:=⟨_,_,(List.dropLast_concat_getLast hne).symm⟩
 rw[e]at hu;obtain⟨p,hp⟩:=h.idx (h.closed (List.mem_of_getElem? hu));refine⟨p,u,z,?_,hp,hu,(h.arcs p u hp ⟨z,t⟩).2 ⟨by simp,by simpa using hu⟩⟩;rcases Nat.lt_trichotomy p t with h1|h1|h1
 ·exact h1
 ·subst h1;rw[hp]at hu;have:=congrArg List.length (Option.some.inj hu);simp at this
 ·exfalso;obtain⟨g1,e1⟩:=List.getElem?_eq_some_iff.1 hp;have:=List.pairwise_iff_getElem.1 h.srt t p htB g1 h1;rw[e1,e]at this;rcases this with h2|⟨h2,_⟩<;>(simp at h2;try omega)
theorem BR.fwd{L:List (List Int)}{l:List Ak}{B:List (List Int)}(h:BR L l B){p:Nat}{a:Ar}(hp:p<l.length)(ha:a∈(l[p]!).arcs):0≤a.to∧p<a.to.toNat∧a.to.toNat<l.length:=by
 have hpB:p<B.length:=by rw[h.len];exact hp
 have hu:=List.getElem?_eq_getElem hpB;obtain⟨h1,h2⟩:=(h.arcs p _ hu a).1 ha;obtain⟨g1,e1⟩:=List.getElem?_eq_some_iff.1 h2;refine⟨h1,?_,by rw[← h.len];exact g1⟩;rcases Nat.lt_trichotomy p a.to.toNat with h3|h3|h3
 ·exact h3
 ·exfalso;rw[← h3,hu]at h2;have:=congrArg List.length (Option.some.inj h2);simp at this
 ·exfalso;have:=List.pairwise_iff_getElem.1 h.srt a.to.toNat p g1 hpB h3;rw[e1]at this;rcases this with h4|⟨h4,_⟩<;>(simp at h4;try omega)
theorem V3{X:List (List Int)}{q i:Nat}{v:List Int}(h:q≠i):(X.set q v)[i]! =X[i]! :=by
 simp only[List.getElem!_eq_getElem?_getD,List.getElem?_set_ne h]
theorem V4{X:List (List Int)}{q:Nat}{v:List Int}(h:q<X.length):(X.set q v)[q]! =v:=by
 simp[List.getElem!_eq_getElem?_getD,List.getElem?_set_self h]
structure Sg(l:List Ak)(B:List (List Int))(i k:Nat)(R:List (List Int)):Prop where
 len:R.length=l.length
 val:∀t,t<l.length→R[t]! =B[t]!∨R[t]! =[]
 done:∀p a,p<i→a∈(l[p]!).arcs→R[a.to.toNat]! =B[a.to.toNat]!
 part:∀a,a∈(l[i]!).arcs.take k→R[a.to.toNat]! =B[a.to.toNat]!
theorem Sg.self{L:List (List Int)}{l:List Ak}{B:List (List Int)}(h:BR L l B){i k:Nat}{R:List (List Int)}(hR:Sg l B i k R)(hi:i<l.length):R[i]! =B[i]! :=by
 by_cases h0:i=0
 ·subst h0;have hB0:B[0]! =[]:=V6 h.root;rcases hR.val 0 hi with h1|h1
  ·exact h1
  ·rw[h1,hB0]
 ·obtain⟨p,u,z,h1,h2,h3,h4⟩:=h.parent (by omega) hi;have:=hR.done p _ h1 h4;simpa using this
theorem Sg.step{L:List (List Int)}{l:List Ak}{B:List (List Int)}(h:BR L l B){i k:Nat}{R:List (List Int)}(hR:Sg l B i k R)(hi:i<l.length)(hk:k<(l[i]!).arcs.length):Sg l B i (k+1) (Pn i R ((l[i]!).arcs[k]!)):=by
 have hs:=hR.self h hi;have hmem:(l[i]!).arcs[k]!∈(l[i]!).arcs:=by rw[getElem!_pos _ k hk];exact List.getElem_mem hk
 have hsn:(l[i]!).arcs.take (k+1)=(l[i]!).arcs.take k++[(l[i]!).arcs[k]!]:=AT hk;generalize(l[i]!).arcs[k]! =a at hmem hsn ⊢;obtain⟨f1,f2,f3⟩:=h.fwd hi hmem;have hiB:i<B.length:=by rw[h.len];exact hi
 have hto:=((h.arcs i _ (List.getElem?_eq_getElem hiB) a).1 hmem).2;have hv:B[a.to.toNat]! =R[i]!++[a.sign]:=by rw[V6 hto,hs,getElem!_pos B i hiB]
 have key:∀t,(Pn i R a)[t]! =if t=a.to.toNat then B[t]! else R[t]! :=fun t=>by
  unfold Pn;by_cases e:t=a.to.toNat
  ·subst e;rw[if_pos rfl,V4 (by rw[hR.len];exact f3),hv]
  ·rw[if_neg e,V3 (fun x=>e x.symm)]
 refine⟨by unfold Pn;rw[List.length_set];exact hR.len,fun t ht=>?_,fun p b hp hb=>?_,fun b hb=>?_⟩
 ·rw[key];split
  ·exact .inl rfl
  ·exact hR.val t ht
 ·rw[key];split
  ·rfl
  ·exact hR.done p b hp hb
 ·rw[key];split
  ·rfl
  ·rename_i hne;rw[hsn]at hb;rcases List.mem_append.1 hb with h1|h1
   ·exact hR.part b h1
   ·simp only[List.mem_singleton]at h1;subst h1;exact absurd rfl hne
theorem aD{L:List (List Int)}{l:List Ak}{B:List (List Int)}(h:BR L l B):∀j,j≤l.length→Sg l B j 0 (Dw l j):=by
 intro j;induction j with
 |zero =>
  intro _;refine⟨by simp[Dw],fun t ht=>.inr ?_,fun p a hp=>by omega,fun a ha=>by simp at ha⟩;have:Dw l 0=List.replicate l.length []:=rfl;rw[this,getElem!_pos _ t (by simpa using ht)];simp
 |succ j ih =>
  intro hj;have h0:=ih (by omega);have hin:∀k,k≤(l[j]!).arcs.length→Sg l B j k (LG l (Dw l j) j k):=fun k=>by
   induction k with
   |zero=>intro _;exact h0
   |succ k ihk =>
    intro hk;rw[KH l (Dw l j) j (by omega)];exact(ihk (by omega)).step h (by omega) (by omega)
  have h1:=hin _ (Nat.le_refl _);rw[Iu];refine⟨h1.len,h1.val,fun p a hp ha=>?_,fun a ha=>by simp at ha⟩;by_cases e:p=j
  ·subst e;exact h1.part a (by rw[List.take_length];exact ha)
  ·exact h1.done p a (by omega) ha
theorem aC{L:List (List Int)}{l:List Ak}{B:List (List Int)}(h:BR L l B):Dw l l.length=B:=by
 have hI:=aD h l.length (Nat.le_refl _);apply List.ext_getElem (by rw[hI.len,h.len]);intro t h1 h2;have ht:t<l.length:=by rw[← hI.len];exact h1
 rw[← getElem!_pos _ t h1,← getElem!_pos _ t h2];by_cases h0:t=0
 ·subst h0;have hB0:B[0]! =[]:=V6 h.root;rcases hI.val 0 ht with h3|h3
  ·exact h3
  ·rw[h3,hB0]
 ·obtain⟨p,u,z,g1,g2,g3,g4⟩:=h.parent (by omega) ht;have:=hI.done p _ (by omega) g4;simpa using this
theorem Om{i n:Int}:∀{l:List Ar} {last:Int},l.Pairwise (fun a b=>a.sign<b.sign)→(∀a∈l,last<a.sign∧D9 a.sign=true∧i<a.to∧a.to<n)→Bv i n last l=true
 | [],_,_,_=>rfl
 |a::t,last,hp,h=>by
  obtain⟨h1,h2,h3,h4⟩:=h a (by simp);rw[List.pairwise_cons]at hp;simp only[Bv,GI,Bool.and_eq_true,decide_eq_true_eq];refine⟨⟨⟨⟨h1,h2⟩,h3⟩,h4⟩,Om hp.2 fun b hb=>?_⟩;obtain⟨_,g2,g3,g4⟩:=h b (by simp[hb]);exact⟨hp.1 b hb,g2,g3,g4⟩
structure JL(L:List (List Int))(l:List Ak)(B:List (List Int)):Prop where
 b:BR L l B
 l0:0<l.length
 l1:l.length≤6001
 good:∀p:Nat,p<l.length→∀a∈(l[p]!).arcs,D9 a.sign=true
 few:∀p:Nat,(l[p]!).arcs.length≤6001
 long:∀w∈B,w.length≤20
theorem cu{L:List (List Int)}(he:Oi L=0):∃B,JL L (AS L) B:=by
 obtain⟨h1,h2,h3⟩:=XO he;have hw:∀w∈L,0<w.length∧w.length≤20∧w.all D9=true:=fun w h=>Kv (List.all_eq_true.1 h2 w h);obtain⟨B,hB⟩:=c9 ⟨h3,fun j hj=>by rw[getElem!_pos L j hj];exact(hw _ (List.getElem_mem hj)).1⟩ (fun w h=>(hw w h).2.1);have hz:∀w∈L,∀z∈w,-9223372036854775808≤z∧z≤9223372036854775807:=fun w h z hz=>by
  have:=of_decide_eq_true (List.all_eq_true.1 (hw w h).2.2 z hz);omega
 have ti:=S7 hz h1 20 (Nat.le_refl _);have hlen:(AS L).length≤6001:=by have:=ti.len;simp only at this;unfold AS;omega
 refine⟨B,hB,ti.pos,hlen,fun p hp a ha=>?_,fun p=>?_,fun w hwB=>?_⟩
 ·have hpB:p<B.length:=by rw[hB.len];exact hp
  obtain⟨g1,g2⟩:=(hB.arcs p _ (List.getElem?_eq_getElem hpB) a).1 ha;rcases(hB.mem _).1 (List.mem_of_getElem? g2)with h|⟨w,hw1,hw2⟩
  ·simp at h
  ·refine List.all_eq_true.1 (hw w hw1).2.2 _ (hw2.subset (by simp))
 ·have:=ti.arcs p;simp only at this;unfold AS;omega
 ·rcases(hB.mem _).1 hwB with h|⟨v,hv1,hv2⟩
  ·rw[h];simp
  ·exact Nat.le_trans hv2.length_le (hw v hv1).2.1
theorem JL.achk{L:List (List Int)}{l:List Ak}{B:List (List Int)}(h:JL L l B):achk l=true:=by
 unfold Go.Eng.Tryz.achk;rw[decide_eq_true ⟨h.l0,h.l1⟩,Bool.and_true];unfold EU;refine List.all_eq_true.2 fun p hp=>?_;rw[List.mem_range]at hp;have hpB:p<B.length:=by rw[h.b.len];exact hp
 refine Om (h.b.ris p _ (List.getElem?_eq_getElem hpB)) fun a ha=>?_;have hg:=h.good p hp a ha;obtain⟨f1,f2,f3⟩:=h.b.fwd hp ha;have:=of_decide_eq_true hg;exact⟨by omega,hg,by omega,by omega⟩
theorem JL.sok{L:List (List Int)}{l:List Ak}{B:List (List Int)}(h:JL L l B):Bt l:=by
 refine⟨by have:=h.l1;omega,fun s hs=>?_⟩;obtain⟨p,hp,rfl⟩:=List.getElem_of_mem hs;have:=h.few p;rw[getElem!_pos l p hp]at this;omega
theorem JL.dw{L:List (List Int)}{l:List Ak}{B:List (List Int)}(h:JL L l B):ez l B:=by
 refine⟨h.l0,h.l1,h.b.len,fun w hw=>by have:=h.long w hw;omega,fun p hp a ha=>?_,fun p hp=>by have:=h.few p;omega⟩;have hg:=of_decide_eq_true (h.good p hp a ha);obtain⟨f1,f2,f3⟩:=h.b.fwd hp ha;omega
end Go.Eng.Tryz

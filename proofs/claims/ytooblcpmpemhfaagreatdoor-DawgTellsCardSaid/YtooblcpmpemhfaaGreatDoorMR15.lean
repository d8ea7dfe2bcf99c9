/- The document's kinds, walked. (and what stands behind it: texts laid together) -/
import Derived.Test.YtooblcpmpemhfaaGreatDoorMG4
import Derived.Test.YtooblcpmpemhfaaGreatDoorMR14
set_option linter.unusedVariables false
set_option linter.unusedSimpArgs false
open Go Go.Eng Go.Proofs Go.RowKit
set_option maxHeartbeats 32000000
set_option maxRecDepth 100000
namespace Go.Eng.Tryz
attribute [local go_sem] Aq As AK AO Ii KZ
def K6(L:List (List Int))(A:List Kd)(u:List Int):List Kd :=
 if Bt A (AY L u)<0 then A++[⟨AY L u,u.length,u⟩]
 else A.set (Bt A (AY L u)).toNat ⟨(A[(Bt A (AY L u)).toNat]!).ends,max (A[(Bt A (AY L u)).toNat]!).long u.length,if Aj u (A[(Bt A (AY L u)).toNat]!).first<0 then u else(A[(Bt A (AY L u)).toNat]!).first⟩
def CN(L B:List (List Int))(j:Nat):List Kd:=(B.take j).foldl (K6 L) []
theorem Ho{L B:List (List Int)}{j:Nat}(h:j<B.length):CN L B (j+1)=K6 L (CN L B j) (B[j]!):=by
 unfold CN;rw[Ak h,List.foldl_append];rfl
def FM(out:List Kd)(x:Kd):Nat:=out.findIdx fun y => !Be y x
def IS(out:List Kd)(x:Kd):List Kd:=out.take (FM out x)++[x]++out.drop (FM out x)
def Cs(A:List Kd)(j:Nat):List Kd:=(A.take j).foldl IS []
theorem Dy{A:List Kd}{j:Nat}(h:j<A.length):Cs A (j+1)=IS (Cs A j) (A[j]!):=by
 unfold Cs;rw[Ak h,List.foldl_append];rfl
theorem QH(out:List Kd)(x:Kd):FM out x≤out.length:=List.findIdx_le_length
theorem PK(out:List Kd)(x:Kd):(IS out x).length=out.length+1:=by
 have:=QH out x;unfold IS;simp only[List.length_append,List.length_take,List.length_drop,List.length_cons,List.length_nil];omega
theorem K8(A:List Kd):∀j,j≤A.length→(Cs A j).length=j:=by
 intro j;induction j with
 |zero=>intro _;simp[Cs]
 |succ j ih=>intro hj;rw[Dy (by omega),PK,ih (by omega)]
theorem Nw{out:List Kd}{x:Kd}{k:Nat}(hk:k≤out.length)(h:∀j,j<k→Be (out[j]!) x=true)(h2:k<out.length→Be (out[k]!) x=false):FM out x=k:=by
 unfold FM;by_cases hk2:k<out.length
 ·rw[List.findIdx_eq hk2];refine⟨?_,fun j hj=>?_⟩
  ·have:=h2 hk2;rw[getElem!_pos out k hk2]at this;simp[this]
  ·have:=h j hj;rw[getElem!_pos out j (by omega)]at this;simp[this]
 ·have e:k=out.length:=by omega
  rw[e];rw[List.findIdx_eq_length];intro y hy;obtain⟨j,hj,rfl⟩:=List.getElem_of_mem hy;have:=h j (by omega);rw[getElem!_pos out j hj]at this;simp[this]
structure Rt(A:List Kd)(n:Nat):Prop where
 len:A.length≤n
 ok:∀k,k<A.length→(A[k]!).ends.length≤1000∧(∀w∈(A[k]!).ends,w.length≤1000)∧(A[k]!).first.length≤1000∧0≤(A[k]!).long∧(A[k]!).long≤1000
theorem Rt.kds{A:List Kd}{n:Nat}(h:Rt A n)(hn:n≤1000000):NP A:=⟨by have:=h.len;omega,fun k hk=>by
 obtain⟨a,b,c,_⟩:=h.ok k hk;exact⟨⟨by omega,fun w hw=>by have:=b w hw;omega⟩,by omega⟩⟩
theorem Lh{L:List (List Int)}(hL:L.length≤1000)(hw:∀w∈L,w.length≤1000)(u:List Int):(AY L u).length≤1000∧∀w∈AY L u,w.length≤1000:=by
 have h1:=Mq (L:=L) (u:=u);refine⟨by omega,fun w h=>?_⟩;unfold AY at h;obtain⟨v,hv,rfl⟩:=List.mem_map.1 h;have:=hw v (List.mem_filter.1 hv).1;rw[List.length_drop];omega
theorem IT{A:List Kd}{e:List (List Int)}(h:¬Bt A e<0):∃k:Nat,Bt A e=k∧k<A.length∧(A[k]!).ends=e:=by
 unfold Bt at h ⊢;split
 ·rename_i hlt;refine⟨_,rfl,hlt,?_⟩;have:=List.findIdx_getElem (w:=hlt);rw[getElem!_pos A _ hlt];simpa using this
 ·rename_i hlt;rw[if_neg hlt]at h;exact absurd (by decide) h
theorem Nz{L B:List (List Int)}(hL:L.length≤1000)(hw:∀w∈L,w.length≤1000)(hB:∀u∈B,u.length≤1000):∀j,j≤B.length→Rt (CN L B j) j:=by
 intro j;induction j with
 |zero=>intro _;exact⟨by simp[CN],fun k hk=>absurd hk (by simp[CN])⟩
 |succ j ih =>
  intro hj;obtain⟨h1,h2⟩:=ih (by omega);have hu:=hB _ (CG (show j<B.length by omega));obtain⟨e1,e2⟩:=Lh hL hw (B[j]!);rw[Ho (by omega)];unfold K6;by_cases hf:Bt (CN L B j) (AY L (B[j]!))<0
  ·rw[if_pos hf];refine⟨by simp;omega,fun k hk=>?_⟩;simp only[List.length_append,List.length_cons,List.length_nil]at hk;by_cases e:k=(CN L B j).length
   ·subst e;rw[Dz];exact⟨e1,e2,hu,by simp only;omega,by simp only;omega⟩
   ·rw[DA (by omega)];exact h2 k (by omega)
  ·rw[if_neg hf];obtain⟨q,hq,hql,_⟩:=IT hf;rw[hq,Int.toNat_natCast];refine⟨by simp only[List.length_set];omega,fun k hk=>?_⟩;simp only[List.length_set]at hk;rw[Av hql];obtain⟨a,b,c,d,f⟩:=h2 q hql;split
   ·refine⟨a,b,?_,by simp only;omega,by simp only;omega⟩;simp only;split
    ·exact hu
    ·exact c
   ·exact h2 k hk
theorem Pd{l:List Kd}{e:List (List Int)}(hl:NP l)(he:BY e):Ac Tryz.prog 64 [.own 0 l.length,.d (.sl 1 (AZ e))] [(0,.row 105 3 (kds l))] (.d (.int .i64 (Bt l e))) [(0,.row 105 3 (kds l))] 1:=by
 have hl1:=hl.1;refine Ac.run (N:=20) (ks:=[0]) Tryz.func64 rfl (by kernel_rfl) rfl rfl rfl (by exact Bb) fun X_ ν_ w_=>?_;refine Aw ?_;try exact trivial
 refine A7 (fun k:Nat=>k≤l.length∧∀j,j<k→(l[j]!).ends≠e) (fun k=>[(0,.own 0 l.length),(1,.d (.sl 1 (AZ e))),(5,.d (.int .i64 k))]) (fun _=>[(0,.row 105 3 (kds l))]) 20000 (fun k=>l.length-k) [0,1,5] [0] 0 ⟨Nat.zero_le _,fun j h=>by omega⟩ rfl rfl (Nat.le_of_ble_eq_true rfl) (fun _ _=>rfl) (fun _ _=>rfl) fun k hk=>?_;obtain⟨k1,k2⟩:=hk;by_cases hk3:k<l.length
 ·have cs:=Pa (hl.2 k hk3).1 he;by_cases h:(l[k]!).ends=e
  ·rw[decide_eq_true h]at cs;rw[IU hk3 h k2];have c0_:=cs;refine Aw ?_;try exact trivial
  ·rw[decide_eq_false h]at cs;have c0_:=cs;refine Aw ?_;try exact trivial
   refine⟨k+1,⟨by omega,fun j hj=>?_⟩,?_,?_,by omega⟩
   ·by_cases e:j=k
    ·subst e;exact h
    ·exact k2 j (by omega)
   ·simp(disch:=omega)only[go_sem,A2,Int.natCast_add,Int.cast_ofNat_Int]
   ·simp(disch:=omega)only[go_sem,A2]
 ·rw[Mc fun j hj=>k2 j (by omega)];refine Aw ?_;try exact trivial
theorem PJ{O:List Kd}{x y:Kd}(h:y∈IS O x):y=x∨y∈O:=by
 unfold IS at h;rcases List.mem_append.1 h with h|h
 ·rcases List.mem_append.1 h with h|h
  ·exact .inr (List.take_subset _ _ h)
  ·exact .inl (by simpa using h)
 ·exact .inr (List.drop_subset _ _ h)
theorem K7{A:List Kd}:∀i,i≤A.length→∀y∈Cs A i,y∈A:=by
 intro i;induction i with
 |zero=>intro _ y h;simp[Cs]at h
 |succ i ih =>
  intro hi y h;rw[Dy (by omega)]at h;rcases PJ h with h|h
  ·rw[h];exact CG (by omega)
  ·exact ih (by omega) y h
theorem PC{A:List Kd}{n:Nat}(h:Rt A n)(i:Nat)(hi:i≤A.length)(k:Nat)(hk:k<(Cs A i).length):((Cs A i)[k]!).first.length≤1000:=by
 obtain⟨j,hj,e⟩:=List.getElem_of_mem (K7 i hi _ (CG hk));have:=(h.ok j hj).2.2.1;rw[getElem!_pos A j hj,e]at this;exact this
theorem RX{L l B:_}(hL:BY L)(he:F0 L=0)(hB:I0 L l B):A1 Tryz.prog 62 [.sl 1 (AZ L)] (.sl 3 (kds (Cs (CN L B B.length) (CN L B B.length).length))):=by
 obtain⟨w1,w2,w3⟩:=H9 he;have hwl:∀w∈L,w.length≤20:=fun w hw=>(C1 (List.all_eq_true.1 w2 w hw)).2.1;have cb:=MV hL (by omega);rw[Nh w3 hwl hB.b]at cb;have hBl:B.length≤6001:=by rw[hB.b.len];exact hB.l1
 have hlong:=hB.long;have hok:=Nz (L:=L) (B:=B) (by omega) (fun w hw=>by have:=hwl w hw;omega) (fun u hu=>by have:=hlong u hu;omega);refine A1.run (N:=120) Tryz.func62 rfl (by kernel_rfl) rfl rfl rfl (by exact Ab) fun X_ w_=>?_;have c0_:=cb;refine Aw ?_;try exact trivial
 refine DJ 4 10000 105 3 rfl (by decide) (Nat.le_of_ble_eq_true rfl) ?_;refine A7 (fun j:Nat=>j≤B.length) (fun j=>[(0,.d (.sl 1 (AZ L))),(3,.d (.sl 1 (AZ B))),(4,.own 10000 (CN L B j).length),(5,.d (.int .i64 j))]) (fun j=>[(10000,.row 105 3 (kds (CN L B j)))]) 20000 (fun j=>B.length-j) [0,3,4,5] [10000] 0 (Nat.zero_le _) rfl rfl (Nat.le_of_ble_eq_true rfl) (fun _ _=>rfl) (fun _ _=>rfl) fun j hj=>?_;have hoj:=hok j hj;have hlj:=hoj.len;by_cases hj3:j<B.length
 ·have hlu:=hlong _ (CG hj3);have ce:=LL (L:=L) (u:=B[j]!) hL (by omega) (by omega);obtain⟨n1,n2⟩:=Lh (L:=L) (by omega) (fun w hw=>by have:=hwl w hw;omega) (B[j]!);have cf:=Pd (e:=AY L (B[j]!)) (hoj.kds (by omega)) ⟨by omega,fun w hw=>by have:=n2 w hw;omega⟩;have hst:=Ho (L:=L) hj3;unfold K6 at hst;by_cases hf:Bt (CN L B j) (AY L (B[j]!))<0
  ·have hf1:Bt (CN L B j) (AY L (B[j]!)) = -1:=by
    unfold Bt at hf ⊢;split
    ·rename_i h;rw[if_pos h]at hf;omega
    ·rfl
   rw[if_pos hf]at hst;rw[hf1]at cf;generalize AY L (B[j]!)=E at ce cf hst;generalize CN L B j=A at cf hst hlj ⊢;have c0_:=ce;have c1_:=cf;refine AI @IQ ?_;try exact trivial
   refine⟨j+1,by omega,?_,?_,by omega⟩
   ·simp(disch:=omega)only[go_sem,A2,Int.natCast_add,Int.cast_ofNat_Int,hst,List.length_append,List.length_cons,List.length_nil]
   ·simp(disch:=omega)only[go_sem,A2,hst,IQ]
  ·rw[if_neg hf]at hst;obtain⟨q,hq,hql,_⟩:=IT hf;rw[hq,Int.toNat_natCast]at hst;rw[hq]at cf;obtain⟨_,_,o3,o4,o5⟩:=hoj.ok q hql;have cl:=GG (a:=B[j]!) (b:=((CN L B j)[q]!).first) (by omega) (by omega);generalize AY L (B[j]!)=E at ce cf;generalize CN L B j=A at cf hst hlj hql o3 o4 o5 cl ⊢;have hmx:(if((B[j]!).length:Int)>(A[q]!).long then((B[j]!).length:Int)else(A[q]!).long)=max (A[q]!).long ((B[j]!).length:Int):=by split<;>omega
   have g1:∀x:Kd,(A.set q x)[q]! =x:=fun x=>by rw[Av hql,if_pos rfl]
   have g2:∀x y:Kd,(A.set q x).set q y=A.set q y:=fun x y=>List.set_set ..;have g3:∀x:Kd,(A.set q x).length=A.length:=fun x=>List.length_set ..;have hq3:q<(A.set q (⟨(A[q]!).ends,max (A[q]!).long ((B[j]!).length:Int),(A[q]!).first⟩:Kd)).length:=by rw[g3];exact hql
   by_cases hw:Aj (B[j]!) (A[q]!).first<0
   ·rw[decide_eq_true hw]at cl;rw[if_pos hw]at hst;have c0_:=ce;have c1_:=cf;have c2_:=cl;refine AI (And.intro @Ih (And.intro @hmx (And.intro @g1 (And.intro @g2 (And.intro @g3 @Int.toNat_natCast))))) ?_;try exact trivial
    refine⟨j+1,by omega,?_,?_,by omega⟩
    ·simp(disch:=omega)only[go_sem,A2,Int.natCast_add,Int.cast_ofNat_Int,hst,g3]
    ·simp(disch:=omega)only[go_sem,A2,hst,Ih,g2]
   ·rw[decide_eq_false hw]at cl;rw[if_neg hw]at hst;have c0_:=ce;have c1_:=cf;have c2_:=cl;refine AI (And.intro @Ih (And.intro @hmx (And.intro @g1 (And.intro @g2 (And.intro @g3 @Int.toNat_natCast))))) ?_;try exact trivial
    refine⟨j+1,by omega,?_,?_,by omega⟩
    ·simp(disch:=omega)only[go_sem,A2,Int.natCast_add,Int.cast_ofNat_Int,hst,g3]
    ·simp(disch:=omega)only[go_sem,A2,hst,Ih,g2]
 ·have hje:j=B.length:=by omega
  subst hje;generalize CN L B B.length=A at hoj hlj ⊢;refine Aw ?_;try exact trivial
  refine It 4 rfl (by simp(disch:=omega)only[go_sem];rfl) (by simp(disch:=omega)only[go_sem,Bk];rfl) ?_;refine DJ 8 30000 105 3 rfl (by decide) (Nat.le_of_ble_eq_true rfl) ?_;refine It 8 rfl (by simp(disch:=omega)only[go_sem,put];rfl) (by simp(disch:=omega)only[go_sem,put,Bk];rfl) ?_;refine A7 (fun i:Nat=>i≤A.length) (fun i=>[(4,.d (.sl 3 (kds A))),(8,.d (.sl 3 (kds (Cs A i)))),(9,.d (.int .i64 i))]) (fun _=>[]) 40000 (fun i=>A.length-i) [4,8,9] [] 0 (Nat.zero_le _) rfl rfl (Nat.le_of_ble_eq_true rfl) (fun _ _=>rfl) (fun _ _=>rfl) fun i hi=>?_;have hsl:=K8 A i hi;by_cases hi3:i<A.length
  ·have hst:=Dy hi3;have hso:=PC hoj i hi;have hfi:=(hoj.ok i hi3).2.2.1;generalize Cs A i=O at hst hsl hso ⊢;refine Aw ?_;try exact trivial
   refine A7 (fun k:Nat=>k≤O.length∧∀j,j<k→Be (O[j]!) (A[i]!)=true) (fun k=>[(4,.d (.sl 3 (kds A))),(8,.d (.sl 3 (kds O))),(9,.d (.int .i64 i)),(10,.d (.int .i64 k))]) (fun _=>[]) 50000 (fun k=>O.length-k) [4,8,9,10] [] 0 ⟨Nat.zero_le _,fun j h=>by omega⟩ rfl rfl (Nat.le_of_ble_eq_true rfl) (fun _ _=>rfl) (fun _ _=>rfl) fun k hk=>?_;obtain⟨k1,k2⟩:=hk;have f1:List.take O.length (kds O)=kds O:=by rw[← Ii (l:=O),List.take_length]
   have f2:List.drop k (kds O)=kds (O.drop k):=by simp[kds,List.map_drop]
   have f3:List.take k (kds O)=kds (O.take k):=by simp[kds,List.map_take]
   have f4:(O.drop k).length=O.length-k:=List.length_drop;have f5:(O.take k).length=k:=by rw[List.length_take];omega
   have f6:kds (O.take k)++[.agg [.sl 1 (AZ (A[i]!).ends),.int .i64 (A[i]!).long,.sl 1 (is (A[i]!).first)]]=kds (O.take k++[A[i]!]):=IQ;have f7:kds (O.take k++[A[i]!])++kds (O.drop k)=kds (O.take k++[A[i]!]++O.drop k):=by simp[kds]
   have hE:FM O (A[i]!)=k→O.take k++[A[i]!]++O.drop k=Cs A (i+1):=fun h=>by rw[hst,IS,h]
   by_cases hk3:k<O.length
   ·have ca:=RZ (a:=O[k]!) (b:=A[i]!) (by have:=hso k hk3;omega) (by omega);unfold kd at ca;by_cases ha:Be (O[k]!) (A[i]!)=true
    ·rw[ha]at ca;have c0_:=ca;refine Aw ?_;try exact trivial
     refine⟨k+1,⟨by omega,fun j hj=>?_⟩,?_,rfl,by omega⟩
     ·by_cases e:j=k
      ·subst e;exact ha
      ·exact k2 j (by omega)
     ·simp(disch:=omega)only[go_sem,A2,Int.natCast_add,Int.cast_ofNat_Int]
    ·have ha':Be (O[k]!) (A[i]!)=false:=by simpa using ha
     rw[ha']at ca;have hp:=Nw k1 k2 fun _=>ha';rw[hE hp]at f7;have c0_:=ca;repeat ((fail_if_success (with_reducible show WP _ _ (.region 16 _ _) _ _));first|with_reducible exact Ev.nil|with_reducible exact Jy|((with_reducible apply FZ);rfl)|((with_reducible apply C8);rfl)|((with_reducible apply DV);rfl)|with_reducible apply DY|with_reducible apply Ed|with_reducible apply D2|((with_reducible apply JR (N:=120) rfl rfl);(focus simp only[Nat.reduceAdd]<;>rfl))|((with_reducible apply JT (N:=120) mixed rfl rfl);(focus simp only[Nat.reduceAdd]<;>rfl))|((with_reducible apply JU);(focus first|(apply Ex;(focus rfl);rfl)|(apply Ey;(focus rfl);(focus rfl);rfl)))|((with_reducible apply G6);(focus first|(apply Ex;(focus rfl);rfl)|(apply Ey;(focus rfl);(focus rfl);rfl)))|with_reducible apply Jx|with_reducible apply Gc|with_reducible apply Ge|with_reducible apply Gd|with_reducible apply Gf|((first|(with_reducible apply G7)|(with_reducible apply Eg));(focus rfl))|((first|(with_reducible apply G8)|(with_reducible apply Eh));(focus rfl))|(apply Jq;(focus simp(disch:=omega)only[go_sem,f1,f2,f3,f4,f5,f6,f7]<;>rfl);(focus first|exact c0_);(focus rfl);(focus first|(simp(disch:=omega)only[go_sem,f1,f2,f3,f4,f5,f6,f7]<;>rfl)|rfl))|((with_reducible apply F3);(focus simp only[Nat.reduceAdd]<;>rfl);(focus simp(disch:=omega)only[go_sem,f1,f2,f3,f4,f5,f6,f7]<;>rfl))|(apply Jp;(focus rfl);(focus simp(disch:=omega)only[go_sem,f1,f2,f3,f4,f5,f6,f7]<;>rfl);(focus first|exact c0_);(iterate 3 (focus first|(simp(disch:=omega)only[go_sem,f1,f2,f3,f4,f5,f6,f7]<;>rfl)|rfl)))|((first|apply Gt|apply Gs);(focus simp only[Nat.reduceAdd]<;>rfl);(focus rfl);(iterate 2 (focus simp(disch:=omega)only[go_sem,f1,f2,f3,f4,f5,f6,f7]<;>rfl));(first|((focus first|exact c0_);(iterate 2 (focus first|(simp(disch:=omega)only[go_sem,f1,f2,f3,f4,f5,f6,f7]<;>rfl)|rfl));(focus rfl);(iterate 3 (focus first|(simp(disch:=omega)only[go_sem,f1,f2,f3,f4,f5,f6,f7]<;>rfl)|rfl)))))|((first|(with_reducible apply Ga)|(with_reducible apply G9));(focus simp only[Nat.reduceAdd]<;>rfl);(focus simp(disch:=omega)only[go_sem,f1,f2,f3,f4,f5,f6,f7]<;>rfl);(focus first|(simp(disch:=omega)only[go_sem,f1,f2,f3,f4,f5,f6,f7]<;>rfl)|rfl))|with_reducible apply Ec|with_reducible apply Eb|with_reducible apply DX|with_reducible apply DW|with_reducible apply D1|with_reducible apply D0|with_reducible apply CZ|with_reducible apply CX rfl|with_reducible apply CV|with_reducible apply CU|with_reducible apply CT|with_reducible apply G3|with_reducible apply G2|with_reducible apply Ce|with_reducible apply D3|with_reducible apply Ee|with_reducible apply Cd|with_reducible apply Cc|((with_reducible apply JQ);(focus first|(simp(disch:=omega)only[go_sem,f1,f2,f3,f4,f5,f6,f7]<;>rfl)|rfl))|((with_reducible apply JS);(focus first|(simp(disch:=omega)only[go_sem,f1,f2,f3,f4,f5,f6,f7]<;>rfl)|rfl))|((with_reducible apply DZ);(focus rfl))|((with_reducible apply E3);(focus rfl);(focus rfl))|(with_reducible rfl)|((with_reducible show List.map AS _=_);simp only[List.map_cons,List.map_nil,AS,C7];rfl)|((with_reducible show By _ _=true);kernel_rfl)|((with_reducible show _=_);simp(disch:=omega)only[go_sem,f1,f2,f3,f4,f5,f6,f7]<;>rfl)|((fail_if_success (with_reducible show Ev _ _ _ _ (_::_) _ _ _ _ _));(show Ev _ _ _ _ (_::_) _ _ _ _ _))|fail)
     refine It 8 (ks:=[52000]) (d:=.sl 3 (kds (Cs A (i+1)))) rfl (by simp(disch:=omega)only[go_sem]) (by simp(disch:=omega)only[go_sem,Bk];rfl) ?_;refine Aw ?_;try exact trivial
     refine⟨i+1,by omega,?_,rfl,by omega⟩;simp(disch:=omega)only[go_sem,A2,Int.natCast_add,Int.cast_ofNat_Int]
   ·have hke:k=O.length:=by omega
    have hp:=Nw k1 k2 fun h=>absurd h hk3;rw[hE hp]at f7;repeat ((fail_if_success (with_reducible show WP _ _ (.region 16 _ _) _ _));first|with_reducible exact Ev.nil|with_reducible exact Jy|((with_reducible apply FZ);rfl)|((with_reducible apply C8);rfl)|((with_reducible apply DV);rfl)|with_reducible apply DY|with_reducible apply Ed|with_reducible apply D2|((with_reducible apply JR (N:=120) rfl rfl);(focus simp only[Nat.reduceAdd]<;>rfl))|((with_reducible apply JT (N:=120) mixed rfl rfl);(focus simp only[Nat.reduceAdd]<;>rfl))|((with_reducible apply JU);(focus first|(apply Ex;(focus rfl);rfl)|(apply Ey;(focus rfl);(focus rfl);rfl)))|((with_reducible apply G6);(focus first|(apply Ex;(focus rfl);rfl)|(apply Ey;(focus rfl);(focus rfl);rfl)))|with_reducible apply Jx|with_reducible apply Gc|with_reducible apply Ge|with_reducible apply Gd|with_reducible apply Gf|((first|(with_reducible apply G7)|(with_reducible apply Eg));(focus rfl))|((first|(with_reducible apply G8)|(with_reducible apply Eh));(focus rfl))|((with_reducible apply F3);(focus simp only[Nat.reduceAdd]<;>rfl);(focus simp(disch:=omega)only[go_sem,f1,f2,f3,f4,f5,f6,f7]<;>rfl))|((first|(with_reducible apply Ga)|(with_reducible apply G9));(focus simp only[Nat.reduceAdd]<;>rfl);(focus simp(disch:=omega)only[go_sem,f1,f2,f3,f4,f5,f6,f7]<;>rfl);(focus first|(simp(disch:=omega)only[go_sem,f1,f2,f3,f4,f5,f6,f7]<;>rfl)|rfl))|with_reducible apply Ec|with_reducible apply Eb|with_reducible apply DX|with_reducible apply DW|with_reducible apply D1|with_reducible apply D0|with_reducible apply CZ|with_reducible apply CX rfl|with_reducible apply CV|with_reducible apply CU|with_reducible apply CT|with_reducible apply G3|with_reducible apply G2|with_reducible apply Ce|with_reducible apply D3|with_reducible apply Ee|with_reducible apply Cd|with_reducible apply Cc|((with_reducible apply JQ);(focus first|(simp(disch:=omega)only[go_sem,f1,f2,f3,f4,f5,f6,f7]<;>rfl)|rfl))|((with_reducible apply JS);(focus first|(simp(disch:=omega)only[go_sem,f1,f2,f3,f4,f5,f6,f7]<;>rfl)|rfl))|((with_reducible apply DZ);(focus rfl))|((with_reducible apply E3);(focus rfl);(focus rfl))|(with_reducible rfl)|((with_reducible show List.map AS _=_);simp only[List.map_cons,List.map_nil,AS,C7];rfl)|((with_reducible show By _ _=true);kernel_rfl)|((with_reducible show _=_);simp(disch:=omega)only[go_sem,f1,f2,f3,f4,f5,f6,f7]<;>rfl)|((fail_if_success (with_reducible show Ev _ _ _ _ (_::_) _ _ _ _ _));(show Ev _ _ _ _ (_::_) _ _ _ _ _))|fail)
    refine It 8 (ks:=[52000]) (d:=.sl 3 (kds (Cs A (i+1)))) rfl (by simp(disch:=omega)only[go_sem]) (by simp(disch:=omega)only[go_sem,Bk];rfl) ?_;refine Aw ?_;try exact trivial
    refine⟨i+1,by omega,?_,rfl,by omega⟩;simp(disch:=omega)only[go_sem,A2,Int.natCast_add,Int.cast_ofNat_Int]
  ·have hie:i=A.length:=by omega
   subst hie;refine Aw ?_;try exact trivial
end Go.Eng.Tryz

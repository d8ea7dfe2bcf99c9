/- What it costs to finish: the table. (and what stands behind it: texts laid together) -/
import Derived.Test.YtooblcpmpemhfaaGreatDoorMG4
import Derived.Test.YtooblcpmpemhfaaGreatDoorMR9
import Derived.Test.YtooblcpmpemhfaaGreatDoorMR8
import Derived.Test.YtooblcpmpemhfaaGreatDoorMR4
set_option linter.unusedVariables false
set_option linter.unusedSimpArgs false
open Go Go.Eng Go.Proofs Go.RowKit
set_option maxHeartbeats 32000000
set_option maxRecDepth 100000
namespace Go.Eng.Tryz
attribute [local go_sem] Aq As Ef Ee Gp Gn AP AO Az Ax JG Mo JF Tj Tm T5 TU
theorem SW{n:Nat}:(List.replicate n D.nils).all TU.nilAt=true:=OP
theorem Wv{n:Nat}:(List.replicate n D.nils).map TU.ini=tt (List.replicate n []):=by simp[Tb.ini,TU,D.put,tt,us]
def LS(c:Co)(q:List Int)(l:List Ak):Bool:=Mh c q&&achk l
def CJ(c:Co)(q:List Int)(l:List Ak):List (List Int):=if LS c q l=true then tg (Bj c q (q.length+1)) l else[]
theorem eZ{c:Co}{q:List Int}{l:List Ak}(hc:c.ok)(hm:Mh c q=true)(hl:Bt l)(hchk:achk l=true):A3 Tryz.prog 167 [co c,.sl 1 (is q),.sl 2 (AQ l)] (.sl 1 (tt (tg (Bj c q (q.length+1)) l))):=by
 obtain⟨hq,hk⟩:=Fm.1 hm;have ca:=X5 (q:=q) hc (by omega);have eA:FD c q=Bj c q (q.length+1):=if_pos hm;rw[eA]at ca;have cch:=IM hl;rw[hchk]at cch;have hS:=Kn hc hk q;have hput:∀i,i<q.length+1→∀s∈(Bj c q (q.length+1))[i]!,s.put.length≤8:=fun i hi s hs=>by
  rw[EI c q hi]at hs;exact(Kk hc hk hs).2.2.2.1
 have hlen:=BW c q (q.length+1);have hllen:=Aw.1 hchk;obtain⟨A0,A1,hA⟩:∃A0 A1,Bj c q (q.length+1)=A0::A1:=by
  cases h:Bj c q (q.length+1)with
  |nil=>rw[h]at hlen;simp at hlen
  |cons a b=>exact⟨a,b,rfl⟩
 have eN:HT (Bj c q (q.length+1))= .sl 4 (LV A0)::HT A1:=by rw[hA];rfl
 have hL:A1.length+1=(Bj c q (q.length+1)).length:=by rw[hA];simp
 have hsl:∀i,i<q.length+1→((Bj c q (q.length+1))[i]!).length≤1000:=fun i hi=>by
  obtain⟨k1,k2⟩:=Iw hk;rw[EI c q hi];have h1:=Mk c (q.drop i);have h2:=Ml (q.drop i) c.rules;unfold Lc;simp only[List.length_append];omega
 generalize hall:Bj c q (q.length+1)=all at *;have h0:0<all.length:=by omega
 unfold co at ca ⊢;refine A6 90 Tryz.func167 B6 fun X_ w_=>?_;have c0_:=ca;have c1_:=cch;repeat ((fail_if_success (with_reducible show WP _ _ (.region 5 _ _) _ _));first|with_reducible exact Ev.nil|with_reducible exact E2|((with_reducible apply Cw);rfl)|((with_reducible apply AJ);rfl)|((with_reducible apply BH);rfl)|with_reducible apply BE|with_reducible apply Bu|with_reducible apply B5|((with_reducible apply DX (N:=90) rfl rfl);(focus simp only[Nat.reduceAdd]<;>rfl))|((with_reducible apply DV (N:=90) mixed rfl rfl);(focus simp only[Nat.reduceAdd]<;>rfl))|((with_reducible apply DU);(focus first|(apply BK;(focus rfl);rfl)|(apply BJ;(focus rfl);(focus rfl);rfl)))|((with_reducible apply Ct);(focus first|(apply BK;(focus rfl);rfl)|(apply BJ;(focus rfl);(focus rfl);rfl)))|with_reducible apply E3|with_reducible apply Cn|with_reducible apply Ck|with_reducible apply Cm|with_reducible apply Cj|((first|(with_reducible apply Cs)|(with_reducible apply By));(focus rfl))|((first|(with_reducible apply Cr)|(with_reducible apply Bx));(focus rfl))|(apply EG;(focus simp(disch:=omega)only[go_sem,eN,hL]<;>rfl);(focus first|exact c0_|exact c1_);(focus rfl);(focus first|(simp(disch:=omega)only[go_sem,eN,hL]<;>rfl)|rfl))|((with_reducible apply D5);(focus simp only[Nat.reduceAdd]<;>rfl);(focus simp(disch:=omega)only[go_sem,eN,hL]<;>rfl))|(apply EH;(focus rfl);(focus simp(disch:=omega)only[go_sem,eN,hL]<;>rfl);(focus first|exact c0_|exact c1_);(iterate 3 (focus first|(simp(disch:=omega)only[go_sem,eN,hL]<;>rfl)|rfl)))|((first|apply Dc|apply Dd);(focus simp only[Nat.reduceAdd]<;>rfl);(focus rfl);(iterate 2 (focus simp(disch:=omega)only[go_sem,eN,hL]<;>rfl));(first|((focus first|exact c0_|exact c1_);(iterate 2 (focus first|(simp(disch:=omega)only[go_sem,eN,hL]<;>rfl)|rfl));(focus rfl);(iterate 3 (focus first|(simp(disch:=omega)only[go_sem,eN,hL]<;>rfl)|rfl)))))|((first|(with_reducible apply Cp)|(with_reducible apply Cq));(focus simp only[Nat.reduceAdd]<;>rfl);(focus simp(disch:=omega)only[go_sem,eN,hL]<;>rfl);(focus first|(simp(disch:=omega)only[go_sem,eN,hL]<;>rfl)|rfl))|with_reducible apply BA|with_reducible apply BB|with_reducible apply BF|with_reducible apply BG|with_reducible apply B7|with_reducible apply B8|with_reducible apply B9|with_reducible apply Ba rfl|with_reducible apply Bd|with_reducible apply Be|with_reducible apply Bf|with_reducible apply Cu|with_reducible apply Cv|with_reducible apply AG|with_reducible apply B4|with_reducible apply Bz|with_reducible apply AH|with_reducible apply AI|((with_reducible apply DY);(focus first|(simp(disch:=omega)only[go_sem,eN,hL]<;>rfl)|rfl))|((with_reducible apply DW);(focus first|(simp(disch:=omega)only[go_sem,eN,hL]<;>rfl)|rfl))|((with_reducible apply BD);(focus rfl))|((with_reducible apply BC);(focus rfl);(focus rfl))|(with_reducible rfl)|((with_reducible show List.map Ad _=_);simp only[List.map_cons,List.map_nil,Ad,C5];rfl)|((with_reducible show AM _ _=true);kernel_rfl)|((with_reducible show _=_);simp(disch:=omega)only[go_sem,eN,hL]<;>rfl)|((fail_if_success (with_reducible show Ev _ _ _ _ (_::_) _ _ _ _ _));(show Ev _ _ _ _ (_::_) _ _ _ _ _))|fail)
 refine Y4 3003 0 20000 TU rfl rfl rfl (by simp) rfl rfl (by decide) SW (Nat.le_of_ble_eq_true rfl) Wv rfl ?_;refine Au @hL ?_;try exact trivial
 refine A8 (fun k:Nat=>k≤all.length) (fun k=>[(1,.d (.sl 1 (is q))),(2,.d (.sl 2 (AQ l))),(7,.d (.sl 1 (HT all))),(8,.ref 3003 0),(30,.d (.int .i64 all.length)),(31,.d (.int .i64 k))]) (fun k=>[(3003,.var [.tab 20000 all.length]),(20000,.tab TU (tt (Qp all l k)) none)]) 20001 (fun k=>all.length-k) [1,2,7,8,30,31] [3003,20000] 0 (Nat.zero_le _) (by rw[eN];rfl) rfl (Nat.zero_le _) (fun _ _=>rfl) (fun _ _=>rfl) fun k hk'=>?_;obtain⟨i1,i2,i3,i4⟩:=S4 hS hchk k hk';have hst1:=S5 all l k;by_cases hk2:k<all.length
 ·obtain⟨i,hi⟩:∃i,i=all.length-1-k:=⟨_,rfl⟩
  have ei:(q.length:Int)-(k:Int)=(i:Int):=by omega
  have hia:i<all.length:=by omega
  rw[← hi]at hst1;have hni:(Qp all l k)[i]! =[]:=i3 i (by omega);have f0:(Qp all l k).length=all.length:=i1;have hll0:0<l.length:=hllen.2.1;repeat (first|with_reducible exact Ev.nil|with_reducible exact E2|((with_reducible apply Cw);rfl)|((with_reducible apply AJ);rfl)|((with_reducible apply BH);rfl)|with_reducible apply BE|with_reducible apply Bu|with_reducible apply B5|((with_reducible apply DX (N:=90) rfl rfl);(focus simp only[Nat.reduceAdd]<;>rfl))|((with_reducible apply DV (N:=90) mixed rfl rfl);(focus simp only[Nat.reduceAdd]<;>rfl))|((with_reducible apply DU);(focus first|(apply BK;(focus rfl);rfl)|(apply BJ;(focus rfl);(focus rfl);rfl)))|((with_reducible apply Ct);(focus first|(apply BK;(focus rfl);rfl)|(apply BJ;(focus rfl);(focus rfl);rfl)))|with_reducible apply E3|with_reducible apply Cn|with_reducible apply Ck|with_reducible apply Cm|with_reducible apply Cj|((first|(with_reducible apply Cs)|(with_reducible apply By));(focus rfl))|((first|(with_reducible apply Cr)|(with_reducible apply Bx));(focus rfl))|((with_reducible apply D5);(focus simp only[Nat.reduceAdd]<;>rfl);(focus simp(disch:=omega)only[go_sem,ei,f0,hni,AR,List.length_replicate]<;>rfl))|((first|(with_reducible apply Cp)|(with_reducible apply Cq));(focus simp only[Nat.reduceAdd]<;>rfl);(focus simp(disch:=omega)only[go_sem,ei,f0,hni,AR,List.length_replicate]<;>rfl);(focus first|(simp(disch:=omega)only[go_sem,ei,f0,hni,AR,List.length_replicate]<;>rfl)|rfl))|with_reducible apply BA|with_reducible apply BB|with_reducible apply BF|with_reducible apply BG|with_reducible apply B7|with_reducible apply B8|with_reducible apply B9|with_reducible apply Ba rfl|with_reducible apply Bd|with_reducible apply Be|with_reducible apply Bf|with_reducible apply Cu|with_reducible apply Cv|with_reducible apply AG|with_reducible apply B4|with_reducible apply Bz|with_reducible apply AH|with_reducible apply AI|((with_reducible apply DY);(focus first|(simp(disch:=omega)only[go_sem,ei,f0,hni,AR,List.length_replicate]<;>rfl)|rfl))|((with_reducible apply DW);(focus first|(simp(disch:=omega)only[go_sem,ei,f0,hni,AR,List.length_replicate]<;>rfl)|rfl))|((with_reducible apply BD);(focus rfl))|((with_reducible apply BC);(focus rfl);(focus rfl))|(with_reducible rfl)|((with_reducible show List.map Ad _=_);simp only[List.map_cons,List.map_nil,Ad,C5];rfl)|((with_reducible show AM _ _=true);kernel_rfl)|((with_reducible show _=_);simp(disch:=omega)only[go_sem,ei,f0,hni,AR,List.length_replicate]<;>rfl)|((fail_if_success (with_reducible show Ev _ _ _ _ (_::_) _ _ _ _ _));(show Ev _ _ _ _ (_::_) _ _ _ _ _))|fail)
  refine A8 (fun m:Nat=>m≤l.length) (fun m=>[(1,.d (.sl 1 (is q))),(2,.d (.sl 2 (AQ l))),(7,.d (.sl 1 (HT all))),(8,.ref 3003 0),(30,.d (.int .i64 all.length)),(31,.d (.int .i64 k)),(10,.ref 22005 0),(45,.d (.int .i64 l.length)),(46,.d (.int .i64 m))]) (fun m=>[(3003,.var [.tab 20000 all.length]),(20000,.tab TU (tt (P8 all l i ((Qp all l k).set i (List.replicate l.length 0)) m)) none),(22005,.var [.d (.int .i64 i)])]) 30000 (fun m=>l.length-m) [1,2,7,8,30,31,10,45,46] [3003,20000,22005] 0 (Nat.zero_le _) rfl rfl (Nat.zero_le _) (fun _ _=>rfl) (fun _ _=>rfl) fun m hm'=>?_;generalize hT0:(Qp all l k).set i (List.replicate l.length 0)=T0 at hst1 ⊢;have hget:∀a,T0[a]! =if a=i then List.replicate l.length 0 else(Qp all l k)[a]! :=fun a=>by rw[← hT0];exact Eb (by omega)
  have hg2:∀a b,a≠i→Ap T0 a b=Ap (Qp all l k) a b:=fun a b h=>by unfold Ap;rw[hget,if_neg h]
  obtain⟨j1,j2,j3,j4⟩:=S6 (t:=T0) hS hchk hia (by rw[← hT0];simp[i1]) (by rw[hget,if_pos rfl];simp) (fun a h1 h2=>by rw[hget,if_neg (by omega)];exact i2 a (by omega) h2)
   (fun a b h1 h2 h3=>by
     have hf:=i4 a b (by omega) h2 h3;unfold W7 at hf ⊢;rw[hg2 a b (by omega),Jn fun s hs e he=>by
      obtain⟨q1,q2,q3⟩:=AN (t:=Qp all l k) hS hchk h2 h3 hs he;exact hg2 _ _ (by omega)]
     exact hf) m hm'
  have hst2:=NM all l i T0 m;by_cases hm2:m<l.length
  ·obtain⟨x,hx⟩:∃x,x=l.length-1-m:=⟨_,rfl⟩
   have ex:(l.length:Int)-1-(m:Int)=(x:Int):=by omega
   have hxl:x<l.length:=by omega
   rw[← hx]at hst2;generalize hT:P8 all l i T0 m=T at *;have hTi:=j2 i (Nat.le_refl _) hia;have hbase:∀(b:Int),base all.length l i x=b→b=0∨b=18446744073709551615:=fun b hb=>by rw[← hb];unfold base;split<;>simp
   have hlim:=hsl i (by omega);by_cases hbb:i+1=all.length∧(l[x]!).final=true
   case' pos =>
    have eb:base all.length l i x=0:=if_pos hbb;have eiq:(i:Int)=(q.length:Int):=by omega
    obtain⟨hb1,hb2⟩:=hbb;refine Au (And.intro @ex @hb2) ?_;try exact trivial
   case' neg =>
    have eb:base all.length l i x=18446744073709551615:=if_neg hbb;by_cases hiq:i+1=all.length
    case' pos =>
     have hb2:(l[x]!).final=false:=by
      cases h:(l[x]!).final with
      |false=>rfl
      |true=>exact absurd ⟨hiq,h⟩ hbb
     have eiq:(i:Int)=(q.length:Int):=by omega
     refine Au (And.intro @ex @hb2) ?_;try exact trivial
    case' neg =>
     have eiq:¬(i:Int)=(q.length:Int):=by omega
     refine Au (And.intro @ex @eiq) ?_;try exact trivial
   all_goals
    refine A8 (fun j:Nat=>j≤(all[i]!).length) (fun j=>[(1,.d (.sl 1 (is q))),(2,.d (.sl 2 (AQ l))),(7,.d (.sl 1 (HT all))),(8,.ref 3003 0),(30,.d (.int .i64 all.length)),(31,.d (.int .i64 k)),(10,.ref 22005 0),(45,.d (.int .i64 l.length)),(46,.d (.int .i64 m)),(12,.d (.int .i64 x)),(13,.ref 33000 0),(68,.d (.sl 4 (LV (all[i]!)))),(69,.d (.int .i64 (all[i]!).length)),(70,.d (.int .i64 j))]) (fun j=>[(3003,.var [.tab 20000 all.length]),(20000,.tab TU (tt T) none),(22005,.var [.d (.int .i64 i)]),(33000,.var [.d (.int .u64 (((all[i]!).take j).foldl (Ld l T i x) (base all.length l i x)))])]) 40000 (fun j=>(all[i]!).length-j) [1,2,7,8,30,31,10,45,46,12,13,68,69,70] [3003,20000,22005,33000] 0 (Nat.zero_le _) rfl (by rw[eb];rfl) (Nat.zero_le _) (fun _ _=>rfl) (fun _ _=>rfl) fun j hj=>?_;have hvU:∀s∈all[i]!,∀e∈Dx s l x,U (Ap T (i+s.eat.toNat) e.toNat):=fun s hs e he=>by
     obtain⟨q1,q2,q3⟩:=AN (t:=T) hS hchk hia hxl hs he;rcases q3 with q3|⟨q3,q4⟩
     ·exact(j3 _ _ q3 q1 q2).2
     ·rw[q3];exact(j4 _ (by omega) q2).2
    have hmU:U (((all[i]!).take j).foldl (Ld l T i x) (base all.length l i x)):=by
     have:∀(ss:List Se) (b:Int),U b→(∀s∈ss,s∈all[i]!)→U (ss.foldl (Ld l T i x) b):=by
      intro ss;induction ss with
      |nil=>intro b hb _;exact hb
      |cons s ss ih =>
       intro b hb he;simp only[List.foldl_cons];exact ih _ (ID (hS i hia s (he s (by simp))).2.2.1 _ _ hb fun e hee=>hvU s (he s (by simp)) e hee) fun y hy=>he y (by simp[hy])
     exact this _ _ (by rw[eb];exact⟨by decide,by decide⟩) fun s hs=>List.mem_of_mem_take hs
    by_cases hj2:j<(all[i]!).length
    ·have hmem:(all[i]!)[j]!∈all[i]! :=by rw[getElem!_pos (all[i]!) j hj2];exact List.getElem_mem _
     obtain⟨s1,s2,s3,s4⟩:=hS i hia _ hmem;have s5:=hput i (by omega) _ hmem;have hrowS:=j2 (i+((all[i]!)[j]!).eat.toNat) (by omega) s2;have ce:=dr (m:=((all[i]!).take j).foldl (Ld l T i x) (base all.length l i x)) (s:=(all[i]!)[j]!) (n:=all.length) (i:=i) (k:=x) (t:=T) hl hchk hxl j1 s2 s1 hrowS (by omega) (by omega) hmU s3 (hvU _ hmem);have hst3:=CZ (Ld l T i x) (base all.length l i x) hj2;unfold se XP at ce;have c0_:=ce;refine Ao ?_;try exact trivial
     refine⟨j+1,by omega,?_,?_,by omega⟩
     ·exact Ei
     ·exact Hq @hst3
    ·have hje:j=(all[i]!).length:=by omega
     subst hje;rw[List.take_length]at hmU ⊢;have eC:(all[i]!).foldl (Ld l T i x) (base all.length l i x)=Ep all l T i x:=rfl;rw[eC]at hmU ⊢;generalize hv:Ep all l T i x=v at *;have hx2:FM T i x v=T.set i ((T[i]!).set x v):=rfl;rw[hx2]at hst2;refine Au (And.intro @j1 (And.intro @hTi @AR)) ?_;try exact trivial
     refine⟨m+1,by omega,?_,?_,by omega⟩
     ·exact Ei
     ·exact Hq @hst2
  ·have hml:m=l.length:=by omega
   subst hml;refine Ao ?_;try exact trivial
   refine⟨k+1,by omega,?_,?_,by omega⟩
   ·exact Ei
   ·exact Hq @hst1
 have hka:k=all.length:=by omega
 subst hka;refine Au @i1 ?_;try exact trivial
end Go.Eng.Tryz
namespace Go.Eng.Tryz
attribute [local go_sem] Aq As AP AO Az Ax
def Oc(l:List Ak)(n:Nat):Bool:=(l.all fun s=>decide (s.arcs.length≤100))&&decide (l.length≤n)
theorem N1{l:List Ak}{n:Nat}:Oc l n=true↔(∀k,k<l.length→(l[k]!).arcs.length≤100)∧l.length≤n:=by
 unfold Oc;rw[Bool.and_eq_true,List.all_eq_true,decide_eq_true_eq];refine and_congr ⟨fun h k hk=>?_,fun h s hs=>?_⟩ Iff.rfl
 ·rw[getElem!_pos l k hk];exact of_decide_eq_true (h _ (List.getElem_mem hk))
 ·obtain⟨k,hk,rfl⟩:=List.getElem_of_mem hs;have:=h k hk;rw[getElem!_pos l k hk]at this;exact decide_eq_true this
theorem dt{l:List Ak}{n:Nat}(hl:Bt l)(hn:n≤1000000):A3 Tryz.prog 16 [.sl 2 (AQ l),.int .i64 n] (.bool (Oc l n)):=by
 have hlen:=hl.1;refine A6 23 Tryz.func16 Ah fun X_ w_=>?_;refine Ao ?_;try exact trivial
 refine A8 (fun k:Nat=>k≤l.length∧∀j,j<k→(l[j]!).arcs.length≤100) (fun k=>[(0,.d (.sl 2 (AQ l))),(1,.d (.int .i64 n)),(5,.d (.int .i64 k))]) (fun _=>[]) 0 (fun k=>l.length-k) [0,1,5] [] 0 ⟨Nat.zero_le _,fun j h=>by omega⟩ rfl rfl (Nat.le_refl _) (fun _ _=>rfl) (fun _ _=>rfl) fun k hk=>?_;obtain⟨hk1,hk2⟩:=hk;by_cases hk:k<l.length
 ·have ha:=hl.get hk;by_cases h1:100<(l[k]!).arcs.length
  ·have e:Oc l n=false:=by
    cases h:Oc l n with
    |false=>rfl
    |true=>have:=(N1.1 h).1 k hk;omega
   refine Au @e ?_;try exact trivial
  ·refine Ao ?_;try exact trivial
   refine⟨k+1,⟨by omega,fun j hj=>?_⟩,?_,rfl,by omega⟩
   ·by_cases e:j=k
    ·subst e;omega
    ·exact hk2 j (by omega)
   ·exact Ei
 ·have hkl:k=l.length:=by omega
  subst hkl;have e:Oc l n=decide ((l.length:Int)≤n):=by
   by_cases h2:l.length≤n
   ·rw[N1.2 ⟨hk2,h2⟩,decide_eq_true (by omega)]
   ·cases h:Oc l n with
    |false=>rw[decide_eq_false (by omega)]
    |true=>have:=(N1.1 h).2;omega
  rw[e];refine Ao ?_;try exact trivial
end Go.Eng.Tryz
namespace Go.Eng.Tryz
attribute [local go_sem] Aq As
def CI(l:List (List Int)):List D:=l.map fun w=>.sl 1 (is w)
theorem Bb{l:List (List Int)}:(CI l).length=l.length:=by simp[CI]
theorem Bh{l:List (List Int)}{k:Nat}(h:k<l.length):(CI l)[k]? =some (.sl 1 (is (l[k]!))):=by
 simp[CI,List.getElem?_eq_getElem h,getElem!_pos l k h]
theorem Da{l:List (List Int)}{w:List Int}:CI l++[.sl 1 (is w)]=CI (l++[w]):=by simp[CI]
attribute [local go_sem] Bb Bh Da
def Gd(l:List (List Int)):Prop:=l.length≤9223372036854775807∧∀w∈l,w.length≤9223372036854775807
theorem Gd.get{l:List (List Int)}(h:Gd l){k:Nat}(hk:k<l.length):(l[k]!).length≤9223372036854775807:=by
 rw[getElem!_pos l k hk];exact h.2 _ (List.getElem_mem hk)
def Pl(z:Int):Bool := !D9 z||HY z
theorem eK{z:Int}:A3 Tryz.prog 142 [.int .i64 z] (.bool (Pl z)):=by
 have cg:=Mp (z:=z);cases hg:D9 z
 ·have e:Pl z=true:=by unfold Pl;rw[hg];rfl
  rw[hg]at cg;refine A6 18 Tryz.func142 A4 fun X_ w_=>?_;have c0_:=cg;refine Au @e ?_;try exact trivial
 have eb:Pl z=HY z:=by unfold Pl;rw[hg];rfl
 rw[hg]at cg;rw[eb];by_cases h1:z=32
 ·subst h1;have e:HY 32=true:=by decide
  refine A6 18 Tryz.func142 A4 fun X_ w_=>?_;have c0_:=cg;refine Au @e ?_;try exact trivial
 by_cases h2:z=9
 ·subst h2;have e:HY 9=true:=by decide
  refine A6 18 Tryz.func142 A4 fun X_ w_=>?_;have c0_:=cg;refine Au @e ?_;try exact trivial
 by_cases h3:z=10
 ·subst h3;have e:HY 10=true:=by decide
  refine A6 18 Tryz.func142 A4 fun X_ w_=>?_;have c0_:=cg;refine Au @e ?_;try exact trivial
 ·have e:=TK (z:=z) (by omega);refine A6 18 Tryz.func142 A4 fun X_ w_=>?_;have c0_:=cg;refine Au (And.intro @e (And.intro @h1 (And.intro @h2 @h3))) ?_;try exact trivial
def Gf(w:List Int):Bool:=decide (0<w.length∧w.length≤20)&&decide (w[0]!≠35) && !w.any Pl
theorem dO{w:List Int}(hw:w.length≤9223372036854775807):A3 Tryz.prog 82 [.sl 1 (is w)] (.bool (Gf w)):=by
 have c1:=Ou (p:=Pl) (g:=142) (fun z=>eK) hw;by_cases h0:0<w.length
 ·by_cases h1:w.length≤20
  ·by_cases h2:w[0]! =35
   ·have e:Gf w=false:=by unfold Gf;rw[decide_eq_false (p:=w[0]!≠35) (fun h=>h h2)];simp
    rw[e];refine A6 24 Tryz.func82 A4 fun X_ w_=>?_;have c0_:=c1;refine Au @h2 ?_;try exact trivial
   ·have e:Gf w = !w.any Pl:=by unfold Gf;rw[decide_eq_true ⟨h0,h1⟩,decide_eq_true (p:=w[0]!≠35) h2];rfl
    rw[e];refine A6 24 Tryz.func82 A4 fun X_ w_=>?_;have c0_:=c1;refine Au @h2 ?_;try exact trivial
  ·have e:Gf w=false:=by unfold Gf;rw[decide_eq_false (by omega)];rfl
   rw[e];refine A6 24 Tryz.func82 A4 fun X_ w_=>?_;have c0_:=c1;refine Ao ?_;try exact trivial
 ·have e:Gf w=false:=by unfold Gf;rw[decide_eq_false (by omega)];rfl
  rw[e];refine A6 24 Tryz.func82 A4 fun X_ w_=>?_;have c0_:=c1;refine Ao ?_;try exact trivial
theorem Q9{w:List Int}(hw:w.length≤9223372036854775807):A3 Tryz.prog 81 [.sl 1 (is w)] (.bool (!Gf w)):=by
 have c:=dO hw;refine A6 6 Tryz.func81 A4 fun X_ w_=>?_;have c0_:=c;refine Ao ?_;try exact trivial
theorem aY{p:List Int→Bool}{g:Nat}(hp:∀w,w.length≤9223372036854775807→A3 Tryz.prog g [.sl 1 (is w)] (.bool (p w))){l:List (List Int)}(hl:Gd l):A3 Tryz.prog 144 [.sl 1 (CI l),.fn g] (.int .i64 (LR p l)):=by
 have hlen:=hl.1;refine A6 19 Tryz.func144 Ah fun X_ w_=>?_;refine Ao ?_;try exact trivial
 refine A8 (fun k:Nat=>k≤l.length∧(l.take k).any p=false) (fun k=>[(0,.d (.sl 1 (CI l))),(1,.d (.fn g)),(7,.d (.int .i64 l.length)),(8,.d (.int .i64 k))]) (fun _=>[]) 0 (fun k=>l.length-k) [0,1,7,8] [] 0 ⟨Nat.zero_le _,rfl⟩ rfl rfl (Nat.le_refl _) (fun _ _=>rfl) (fun _ _=>rfl) fun k hk=>?_;obtain⟨hk1,hw⟩:=hk;by_cases hk':k<l.length
 ·have c:=hp (l[k]!) (hl.get hk');cases hg:p (l[k]!)
  ·have hst:=JN (p:=p) hk' hw hg;rw[hg]at c;have c0_:=c;refine Ao ?_;try exact trivial
   refine⟨k+1,⟨by omega,hst⟩,?_,rfl,by omega⟩;exact Ei
  ·have e:=M6 (p:=p) hk' hw hg;rw[hg]at c;have c0_:=c;refine Au @e ?_;try exact trivial
 ·have hkl:k=l.length:=by omega
  subst hkl;rw[List.take_length]at hw;have e:=GM hw;refine Au @e ?_;try exact trivial
theorem Iy{p:List Int→Bool}{g:Nat}(hp:∀w,w.length≤9223372036854775807→A3 Tryz.prog g [.sl 1 (is w)] (.bool (p w))){l:List (List Int)}(hl:Gd l):A3 Tryz.prog 83 [.sl 1 (CI l),.fn g] (.bool (l.any p)):=by
 have e:=PP p l;refine A6 9 Tryz.func83 Ah fun X_ w_=>?_;have c0_:=aY hp hl;refine Au @e ?_;try exact trivial
theorem ZW{a b:List Int}(ha:a.length≤9223372036854775807)(hb:b.length≤9223372036854775807):A3 Tryz.prog 86 [.sl 1 (is a),.sl 1 (is b)] (.int .i64 (Ae a b)):=by
 have c:=GZ ha hb;refine A6 8 Tryz.func86 Ah fun X_ w_=>?_;have c0_:=c;refine Ao ?_;try exact trivial
theorem dq{a b:List Int}(ha:a.length≤9223372036854775807)(hb:b.length≤9223372036854775807):A3 Tryz.prog 146 [.sl 1 (is a),.sl 1 (is b)] (.int .i64 (Ae a b)):=by
 have c:=GZ ha hb;refine A6 8 Tryz.func146 Ah fun X_ w_=>?_;have c0_:=c;refine Ao ?_;try exact trivial
theorem br{a b:List Int}(ha:a.length≤9223372036854775807)(hb:b.length≤9223372036854775807):A3 Tryz.prog 148 [.sl 1 (is a),.sl 1 (is b)] (.bool (decide (a=b))):=by
 have c:=Ij ha hb;refine A6 8 Tryz.func148 Ah fun X_ w_=>?_;have c0_:=c;refine Ao ?_;try exact trivial
def BQ(l:List (List Int)):Prop:=l.Pairwise fun a b=>Ae a b<0
theorem BQ.at{l:List (List Int)}(h:BQ l){i j:Nat}(hij:i<j)(hj:j<l.length):Ae (l[i]!) (l[j]!)<0:=by
 rw[getElem!_pos l i (by omega),getElem!_pos l j hj];exact List.pairwise_iff_getElem.1 h i j (by omega) hj hij
theorem OR{l:List (List Int)}(hl:Gd l)(hs:BQ l):A3 Tryz.prog 85 [.sl 1 (CI l),.fn 86] (.bool true):=by
 have hlen:=hl.1;refine A6 25 Tryz.func85 Ah fun X_ w_=>?_;by_cases h0:l.length=0
 ·refine Au @h0 ?_;try exact trivial
  refine De ?_;refine Ao ?_;try exact trivial
 obtain⟨n,hn⟩:∃n,l.length=n+1:=⟨l.length-1,by omega⟩
 have en:(l.length:Int)-1=n:=by omega
 refine Au @en ?_;try exact trivial
 refine A8 (fun k:Nat=>k≤n) (fun k=>[(0,.d (.sl 1 (CI l))),(1,.d (.fn 86)),(5,.d (.int .i64 k))]) (fun _=>[]) 0 (fun k=>k) [0,1,5] [] n (Nat.le_refl _) rfl rfl (Nat.le_refl _) (fun _ _=>rfl) (fun _ _=>rfl) fun k hk=>?_;by_cases hk0:k=0
 ·subst hk0;refine Ao ?_;try exact trivial
 ·obtain⟨m,rfl⟩:∃m,k=m+1:=⟨k-1,by omega⟩
  have em:((m+1:Nat):Int)-1=m:=by omega
  have c:=ZW (hl.get (k:=m+1) (by omega)) (hl.get (k:=m) (by omega));have h1:=hs.at (i:=m) (j:=m+1) (by omega) (by omega)
  have h2:=AD (l[m]!) (l[m+1]!);have h3:¬Ae (l[m+1]!) (l[m]!)<0:=by omega
  have c0_:=c;refine Au (And.intro @em @h3) ?_;try exact trivial
  refine⟨m,by omega,?_,rfl,by omega⟩;simp(disch:=omega)only[go_sem,AC,em]
theorem RJ{l:List (List Int)}(hl:Gd l)(hs:BQ l)(h0:0<l.length):Ai Tryz.prog 147 [.own 0 l.length,.d (.fn 148)] [(0,.row 57 1 (CI l))] (.own 0 l.length) [(0,.row 57 1 (CI l))] 1:=by
 have hlen:=hl.1;refine Bo 66 [0] Tryz.func147 Bm fun X_ ν_ w_=>?_;by_cases h1:l.length<2
 ·refine Ao ?_;try exact trivial
 refine Ao ?_;try exact trivial
 refine A8 (fun k:Nat=>1≤k∧k≤l.length) (fun k=>[(0,.own 0 l.length),(1,.d (.fn 148)),(5,.d (.int .i64 k))]) (fun _=>[(0,.row 57 1 (CI l))]) 1 (fun k=>l.length-k) [0,1,5] [0] 1 ⟨Nat.le_refl _,by omega⟩ rfl rfl (Nat.le_of_ble_eq_true rfl) (fun _ _=>rfl) (fun _ _=>rfl) fun k hk=>?_;obtain⟨hk1,hk2⟩:=hk;by_cases hk3:k<l.length
 ·obtain⟨m,rfl⟩:∃m,k=m+1:=⟨k-1,by omega⟩
  have em:((m+1:Nat):Int)-1=m:=by omega
  have c:=br (hl.get (k:=m+1) (by omega)) (hl.get (k:=m) (by omega));have h1:=hs.at (i:=m) (j:=m+1) (by omega) (by omega)
  have h2:decide (l[m+1]! =l[m]!)=false:=decide_eq_false fun e=>by
   rw[e]at h1;have:=(Cf (l[m]!) (l[m]!)).2 rfl;omega
  rw[h2]at c;have c0_:=c;refine Au @em ?_;try exact trivial
  refine⟨m+1+1,⟨by omega,by omega⟩,?_,?_,by omega⟩
  ·exact Ei
  ·exact GL
 ·have hkl:k=l.length:=by omega
  subst hkl;refine Ao ?_;try exact trivial
end Go.Eng.Tryz

/- Word lists, written: whatever they are; the automaton of any words. (and what stands behind it: texts laid together) -/
import Derived.Test.YtooblcpmpemhfaaGreatDoorMG4
import Derived.Test.YtooblcpmpemhfaaGreatDoorMR16
import Derived.Test.YtooblcpmpemhfaaGreatDoorMR11
set_option linter.unusedVariables false
set_option linter.unusedSimpArgs false
open Go Go.Eng Go.Proofs Go.RowKit
set_option maxHeartbeats 32000000
set_option maxRecDepth 100000
namespace Go.Eng.Tryz
attribute [local go_sem] Aq As Bb Bh Da Hi FW Hh
def Oi(l:List (List Int)):Int:=if 300<l.length then 81 else if l.all Gf&&Zq l then 0 else 90
theorem Kv{w:List Int}(h:Gf w=true):0<w.length∧w.length≤20∧w.all D9=true:=by
 simp only[Gf,Bool.and_eq_true,decide_eq_true_eq]at h;refine⟨h.1.1.1,h.1.1.2,List.all_eq_true.2 fun z hz=>?_⟩;have h2:=h.2;simp only[Bool.not_eq_true',List.any_eq_false]at h2;have:=h2 z hz;unfold Pl at this;cases hg:D9 z
 ·rw[hg]at this;simp at this
 ·rfl
theorem Zb{l:List (List Int)}(h:300<l.length)(hok:Gd l):A3 Tryz.prog 33 [.sl 1 (CI l)] (.tup [.nils,.int .i64 81]):=by
 refine A6 46 Tryz.func33 A4 fun X_ w_=>?_;refine Ao ?_;try exact trivial
theorem Za{l:List (List Int)}(h:l.length≤300)(hok:Gd l)(hf:l.all Gf=false):A3 Tryz.prog 33 [.sl 1 (CI l)] (.tup [.nils,.int .i64 90]):=by
 have c1:=Iy (p:=fun w => !Gf w) (g:=81) (fun w hw=>Q9 hw) hok;rw[LY,hf]at c1;have h3:¬300<l.length:=by omega
 refine A6 46 Tryz.func33 A4 fun X_ w_=>?_;have c0_:=c1;refine Ao ?_;try exact trivial
theorem Zc{l:List (List Int)}(h:l.length≤300)(h0:0<l.length)(hok:Gd l)(hf:l.all Gf=true)(hs:¬BQ l):A3 Tryz.prog 33 [.sl 1 (CI l)] (.tup [.nils,.int .i64 90]):=by
 have hw20:∀w∈l,w.length≤1000000:=fun w hw=>by have:=Kv (List.all_eq_true.1 hf w hw);omega
 have c1:=Iy (p:=fun w => !Gf w) (g:=81) (fun w hw=>Q9 hw) hok;rw[LY,hf]at c1;have h3:¬300<l.length:=by omega
 rcases Xb hw20 (by omega) h0 with⟨g1,c2⟩|⟨g1,L,g2,c2⟩
 ·have hsl:=Ip l;have hd:∃d,d+1<l.length∧Ae (l[d+1]!) (l[d]!)<0:=by
   refine Classical.byContradiction fun hn=>hs ?_;have hord:∀d,d+1<l.length→¬Ae (l[d+1]!) (l[d]!)<0:=fun d hd hc=>hn ⟨d,hd,hc⟩;have hp:l.Pairwise (fun a b=>¬Ae b a<0):=by
    rw[List.pairwise_iff_getElem];intro i j hi hj hij;have h2:∀d,i+d<l.length→¬Ae (l[i+d]!) (l[i]!)<0:=fun d=>by
     induction d with
     |zero=>intro _;exact CQ _
     |succ d ih =>
      intro hd;have a1:=ih (by omega);have a2:=hord (i+d) (by omega);have b1:=AD (l[i]!) (l[i+d]!);have b2:=AD (l[i+d]!) (l[i+d+1]!);have b3:=AD (l[i]!) (l[i+d+1]!);have:=CA (l[i]!) (l[i+d]!) (l[i+d+1]!) (by omega) (by omega);rw[show i+(d+1)=i+d+1 by omega];omega
    have:=h2 (j-i) (by omega);rw[show i+(j-i)=j by omega,getElem!_pos l i hi,getElem!_pos l j hj]at this;exact this
   refine Xv hp fun j hj e=>?_;have h5:(BT l).Nodup:=g1.imp fun{a b} h1 e=>by rw[e]at h1;exact CQ _ h1
   have h6:l.Nodup:=(Dl l).nodup_iff.1 h5;rw[getElem!_pos l j (by omega),getElem!_pos l (j+1) hj]at e;have:=(List.getElem_inj h6).1 e;omega
  obtain⟨d,d1,d2⟩:=hd;have c3:=T1 hok d1 d2;refine A6 46 Tryz.func33 A4 fun X_ w_=>?_;have c0_:=c1;have c1_:=c2;have c2_:=c3;refine Au @hsl ?_;try exact trivial
 ·have hne:¬((L.length:Int)=(l.length:Int)):=by omega
  have hbe:((L.length:Int) !=(l.length:Int))=true:=by simp;omega
  refine A6 46 Tryz.func33 A4 fun X_ w_=>?_;have c0_:=c1;have c1_:=c2;refine Au @hbe ?_;try exact trivial
theorem Z9:A3 Tryz.prog 33 [.sl 1 (CI [])] (.tup [.nils,.int .i64 0]):=by
 have c1:=Iy (p:=fun w => !Gf w) (g:=81) (fun w hw=>Q9 hw) (l:=[]) ⟨by decide,by simp⟩;have c2:=Ud;have c3:=OR (l:=[]) ⟨by decide,by simp⟩ List.Pairwise.nil;simp only[CI,List.map_nil,List.any_nil]at c1 c3 ⊢;refine A6 46 Tryz.func33 A4 fun X_ w_=>?_;have c0_:=c1;have c1_:=c2;have c2_:=c3;refine Ao ?_;try exact trivial
 refine De ?_;refine Ao ?_;try exact trivial
theorem Zd{l:List (List Int)}(h0:0<l.length)(h1:l.length≤300)(hf:l.all Gf=true)(hs:BQ l):A3 Tryz.prog 33 [.sl 1 (CI l)] (.tup [.sl 1 (FP (Ni l)),.int .i64 0]):=by
 have hw20:∀w∈l,w.length≤20:=fun w hw=>(Kv (List.all_eq_true.1 hf w hw)).2.1;have hok:Gd l:=⟨by omega,fun w hw=>Nat.le_trans (hw20 w hw) (by decide)⟩
 have c1:=Iy (p:=fun w => !Gf w) (g:=81) (fun w hw=>Q9 hw) hok;rw[LY,hf]at c1;have c2:=Z7 (fun w hw=>Nat.le_trans (hw20 w hw) (by decide)) (by omega) h0 hs;have c3:=OR hok hs;refine A6 46 Tryz.func33 A4 fun X_ w_=>?_;have c0_:=c1;have c1_:=c2;have c2_:=c3;repeat ((fail_if_success (with_reducible show WP _ _ (.region 6 _ _) _ _));first|with_reducible exact Ev.nil|with_reducible exact E2|((with_reducible apply Cw);rfl)|((with_reducible apply AJ);rfl)|((with_reducible apply BH);rfl)|with_reducible apply BE|with_reducible apply Bu|with_reducible apply B5|((with_reducible apply DX (N:=46) rfl rfl);(focus simp only[Nat.reduceAdd]<;>rfl))|((with_reducible apply DV (N:=46) mixed rfl rfl);(focus simp only[Nat.reduceAdd]<;>rfl))|((with_reducible apply DU);(focus first|(apply BK;(focus rfl);rfl)|(apply BJ;(focus rfl);(focus rfl);rfl)))|((with_reducible apply Ct);(focus first|(apply BK;(focus rfl);rfl)|(apply BJ;(focus rfl);(focus rfl);rfl)))|with_reducible apply E3|with_reducible apply Cn|with_reducible apply Ck|with_reducible apply Cm|with_reducible apply Cj|((first|(with_reducible apply Cs)|(with_reducible apply By));(focus rfl))|((first|(with_reducible apply Cr)|(with_reducible apply Bx));(focus rfl))|(apply EG;(focus simp(disch:=omega)only[go_sem]<;>rfl);(focus first|exact c0_|exact c1_|exact c2_);(focus rfl);(focus first|(simp(disch:=omega)only[go_sem]<;>rfl)|rfl))|((with_reducible apply D5);(focus simp only[Nat.reduceAdd]<;>rfl);(focus simp(disch:=omega)only[go_sem]<;>rfl))|(apply EH;(focus rfl);(focus simp(disch:=omega)only[go_sem]<;>rfl);(focus first|exact c0_|exact c1_|exact c2_);(iterate 3 (focus first|(simp(disch:=omega)only[go_sem]<;>rfl)|rfl)))|((first|apply Dc|apply Dd);(focus simp only[Nat.reduceAdd]<;>rfl);(focus rfl);(iterate 2 (focus simp(disch:=omega)only[go_sem]<;>rfl));(first|((focus first|exact c0_|exact c1_|exact c2_);(iterate 2 (focus first|(simp(disch:=omega)only[go_sem]<;>rfl)|rfl));(focus rfl);(iterate 3 (focus first|(simp(disch:=omega)only[go_sem]<;>rfl)|rfl)))))|((first|(with_reducible apply Cp)|(with_reducible apply Cq));(focus simp only[Nat.reduceAdd]<;>rfl);(focus simp(disch:=omega)only[go_sem]<;>rfl);(focus first|(simp(disch:=omega)only[go_sem]<;>rfl)|rfl))|with_reducible apply BA|with_reducible apply BB|with_reducible apply BF|with_reducible apply BG|with_reducible apply B7|with_reducible apply B8|with_reducible apply B9|with_reducible apply Ba rfl|with_reducible apply Bd|with_reducible apply Be|with_reducible apply Bf|with_reducible apply Cu|with_reducible apply Cv|with_reducible apply AG|with_reducible apply B4|with_reducible apply Bz|with_reducible apply AH|with_reducible apply AI|((with_reducible apply DY);(focus first|(simp(disch:=omega)only[go_sem]<;>rfl)|rfl))|((with_reducible apply DW);(focus first|(simp(disch:=omega)only[go_sem]<;>rfl)|rfl))|((with_reducible apply BD);(focus rfl))|((with_reducible apply BC);(focus rfl);(focus rfl))|(with_reducible rfl)|((with_reducible show List.map Ad _=_);simp only[List.map_cons,List.map_nil,Ad,C5];rfl)|((with_reducible show AM _ _=true);kernel_rfl)|((with_reducible show _=_);simp(disch:=omega)only[go_sem]<;>rfl)|((fail_if_success (with_reducible show Ev _ _ _ _ (_::_) _ _ _ _ _));(show Ev _ _ _ _ (_::_) _ _ _ _ _))|fail)
 refine Jk 2 9000 5 1 rfl (by decide) (Nat.le_of_ble_eq_true rfl) ?_;refine Ao ?_;try exact trivial
 refine A8 (fun k:Nat=>k≤l.length) (fun k=>[(2,.own 9000 (Ni (l.take k)).length),(28,.d (.sl 1 (CI l))),(29,.d (.int .i64 l.length)),(30,.d (.int .i64 k))]) (fun k=>[(9000,.row 5 1 (FP (Ni (l.take k))))]) 9001 (fun k=>l.length-k) [2,28,29,30] [9000] 0 (Nat.zero_le _) rfl rfl (Nat.zero_le _) (fun _ _=>rfl) (fun _ _=>rfl) fun k hk=>?_;have hbl:=WH (l.take k) fun w hw=>hw20 w (List.mem_of_mem_take hw);have hkl:(l.take k).length=k:=by simp;omega
 by_cases hk3:k<l.length
 ·have hmem:l[k]!∈l:=by rw[getElem!_pos l k hk3];exact List.getElem_mem hk3
  have hk20:=hw20 _ hmem;have hwl:=NR (l[k]!);have cp:=dI (w:=l[k]!) (Kv (List.all_eq_true.1 hf _ hmem)).2.2 (by omega);have hst:Ni (l.take (k+1))=Ni (l.take k)++JH (l[k]!)++[10]:=by rw[AT hk3,Vj]
  have c0_:=cp;refine Ao ?_;try exact trivial
  refine⟨k+1,by omega,?_,?_,by omega⟩
  ·simp(disch:=omega)only[go_sem,AC,Int.natCast_add,Int.cast_ofNat_Int,hst,List.length_append,List.length_cons,List.length_nil]
  ·simp(disch:=omega)only[go_sem,AC,hst,List.append_assoc,List.length_append,List.length_cons,List.length_nil]
 ·have hke:k=l.length:=by omega
  subst hke;rw[List.take_length];refine Ao ?_;try exact trivial
theorem bT{l:List (List Int)}(hok:Gd l):∃bs,A3 Tryz.prog 33 [.sl 1 (CI l)] (.tup [bs,.int .i64 (Oi l)]):=by
 unfold Oi;by_cases h:300<l.length
 ·rw[if_pos h];exact⟨_,Zb h hok⟩
 rw[if_neg h];cases hf:l.all Gf
 ·exact⟨_,Za (by omega) hok hf⟩
 cases hs:Zq l
 ·have h0:0<l.length:=by
   cases l with
   |nil=>exact absurd hs (by decide)
   |cons a t=>simp
  exact⟨_,Zc (by omega) h0 hok hf (fun h=>by rw[NH.2 h]at hs;cases hs)⟩
 ·by_cases h0:0<l.length
  ·exact⟨_,Zd h0 (by omega) hf (NH.1 hs)⟩
  ·have:l=[]:=by cases l with
    |nil=>rfl
    |cons a t=>simp at h0
   subst this;exact⟨_,Z9⟩
theorem XO{l:List (List Int)}(h:Oi l=0):l.length≤300∧l.all Gf=true∧BQ l:=by
 unfold Oi at h;split at h
 ·cases h
 ·rename_i h1;split at h
  ·rename_i h2;rw[Bool.and_eq_true]at h2;exact⟨by omega,h2.1,NH.1 h2.2⟩
  ·cases h
theorem Sc(l:List (List Int)):Oi l=0∨Oi l=81∨Oi l=90:=by
 unfold Oi;split
 ·exact .inr (.inl rfl)
 ·split
  ·exact .inl rfl
  ·exact .inr (.inr rfl)
def Uw(l:List (List Int)):D:=if Oi l=0 then .tup [.sl 2 (AQ (AS l)),.int .i64 0]else .tup [.nils,.int .i64 (Oi l)]
theorem Xf{l:List (List Int)}(hok:Gd l):A3 Tryz.prog 53 [.sl 1 (CI l)] (Uw l):=by
 obtain⟨bs,cw⟩:=bT hok;unfold Uw;by_cases h:Oi l=0
 ·rw[if_pos h];rw[h]at cw;obtain⟨h1,h2,h3⟩:=XO h;refine dN h1 (fun w hw=>?_) cw;obtain⟨_,g2,g3⟩:=Kv (List.all_eq_true.1 h2 w hw);refine⟨g2,fun z hz=>?_⟩;have:=of_decide_eq_true (List.all_eq_true.1 g3 z hz);omega
 ·rw[if_neg h];rcases Sc l with e|e|e
  ·exact absurd e h
  ·rw[e]at cw ⊢;refine A6 111 Tryz.func53 A4 fun X_ w_=>?_;have c0_:=cw;refine Ao ?_;try exact trivial
  ·rw[e]at cw ⊢;refine A6 111 Tryz.func53 A4 fun X_ w_=>?_;have c0_:=cw;refine Ao ?_;try exact trivial
end Go.Eng.Tryz
namespace Go.Eng.Tryz
attribute [local go_sem] Aq As Bb Bh Da Hi FW Hh AP AO Az Ax
def Ph(z t:Int):List Int:=[32]++BI z.toNat++[58]++BI t.toNat
def FT(arcs:List Ar):List Int:=arcs.flatMap fun a=>Ph a.sign a.to
theorem FU(a:Ar)(l:List Ar):FT (a::l)=32::(BI a.sign.toNat++58::(BI a.to.toNat++FT l)):=by simp[FT,Ph]
def CO(fin:Bool)(arcs:List Ar):List Int:=BI (if fin then 1 else 0)++FT arcs
def Ec(of:List Int)(a:Ar):Ar:=⟨a.sign,of[a.to.toNat]!⟩
def Cc(of:List Int)(s:Ak):Ak:=⟨s.final,s.arcs.map (Ec of)⟩
def HQ(s:Ak):List Int:=CO s.final s.arcs
def EK(l:List Int):ByteArray:=⟨(l.map fun z=>UInt8.ofNat z.toNat).toArray⟩
theorem Wa(z t:Nat)(hz:z<18446744073709551616)(ht:t<18446744073709551616):(Ph z t).length≤42:=by
 have:=Iz hz;have:=Iz ht;simp only[Ph,List.length_append,List.length_cons,List.length_nil,Int.toNat_natCast];omega
theorem Jm:∀{l:List Int},(∀z∈l,0≤z∧z<256)→I0 (FP l)=some (l.map fun z=>UInt8.ofNat z.toNat)
 | [],_=>rfl
 |z::l,h=>by
  have h1:=h z (by simp);have ih:=Jm (l:=l) fun z hz=>h z (by simp[hz]);simp only[FP]at ih;simp only[FP,List.map_cons,I0];simp only[true_and];rw[if_pos h1,ih]
theorem Sw(u:Nat):∀z∈BI u,0≤z∧z<256:=fun z hz=>by
 obtain⟨b,_,rfl⟩:=List.mem_map.1 hz;have:=b.toNat_lt;omega
theorem Mi(fin:Bool)(arcs:List Ar):∀z∈CO fin arcs,0≤z∧z<256:=fun z hz=>by
 simp only[CO,FT,List.mem_append,List.mem_flatMap,Ph,List.mem_cons,List.not_mem_nil,or_false]at hz;rcases hz with h|⟨a,_,((h|h)|h)|h⟩
 ·exact Sw _ _ h
 ·omega
 ·exact Sw _ _ h
 ·omega
 ·exact Sw _ _ h
theorem Nl(fin:Bool)(arcs:List Ar)(a:Ar):CO fin (arcs++[a])=CO fin arcs++Ph a.sign a.to:=by simp[CO,FT]
theorem GT(fin:Bool)(arcs:List Ar)(h:∀a∈arcs,a.sign<18446744073709551616∧a.to<18446744073709551616):1≤(CO fin arcs).length∧(CO fin arcs).length≤20+42 * arcs.length:=by
 induction arcs with
 |nil=>simp only[CO,FT,List.flatMap_nil,List.append_nil,List.length_nil];have:=Iz (u:=if fin then 1 else 0) (by split<;>omega);omega
 |cons a l ih =>
  have h1:=ih fun a ha=>h a (by simp[ha]);have h2:=h a (by simp);have h3:=Wa a.sign.toNat a.to.toNat (by omega) (by omega)
  simp only[CO,FT,List.flatMap_cons,List.length_append,List.length_cons,Ph,Int.toNat_natCast]at h1 h3 ⊢;omega
theorem GK(u:Nat):∀z∈BI u,48≤z∧z≤57:=by
 induction u using Nat.strongRecOn with
 |_ u ih =>
  intro z hz;unfold BI Lib.decDigits at hz;split at hz
  ·simp at hz;subst hz;have:(UInt8.ofNat (48+u)).toNat=48+u:=by simp;omega
   simp at this ⊢;omega
  ·rw[List.map_append,List.mem_append]at hz;rcases hz with h|h
   ·exact ih (u/10) (by omega) z h
   ·simp at h;subst h;have:(UInt8.ofNat (48+u%10)).toNat=48+u%10:=by simp;omega
    simp at this ⊢;omega
theorem TQ:∀u:Nat,(BI u).foldl (fun s z=>s * 10+(z-48)) 0=(u:Int):=by
 intro u;induction u using Nat.strongRecOn with
 |_ u ih =>
  unfold BI Lib.decDigits;split
  ·have:(UInt8.ofNat (48+u)).toNat=48+u:=by simp;omega
   simp only[List.map_cons,List.map_nil,List.foldl_cons,List.foldl_nil,this];omega
  ·have h1:=ih (u/10) (by omega);unfold BI at h1;have:(UInt8.ofNat (48+u%10)).toNat=48+u%10:=by simp;omega
   simp only[List.map_append,List.foldl_append,h1,List.map_cons,List.map_nil,List.foldl_cons,List.foldl_nil,this];omega
theorem QS{u v:Nat}(h:BI u=BI v):u=v:=by
 have h1:=TQ u;have h2:=TQ v;rw[h]at h1;omega
theorem Py{c:Int}(hc:c<48∨57<c):∀{a b x y:List Int},(∀z∈a,48≤z∧z≤57)→(∀z∈b,48≤z∧z≤57)→a++c::x=b++c::y→a=b∧x=y
 | [],[],x,y,_,_,h=>by simpa using h
 | [],b::bs,x,y,_,hb,h=>by
   simp only[List.nil_append,List.cons_append,List.cons.injEq]at h;have:=hb b (by simp);omega
 |a::az,[],x,y,ha,_,h=>by
  simp only[List.nil_append,List.cons_append,List.cons.injEq]at h;have:=ha a (by simp);omega
 |a::az,b::bs,x,y,ha,hb,h=>by
  simp only[List.cons_append,List.cons.injEq]at h;obtain⟨h1,h2⟩:=Py hc (fun z hz=>ha z (by simp[hz])) (fun z hz=>hb z (by simp[hz])) h.2;exact⟨by rw[h.1,h1],h2⟩
theorem Mv(k:List Ar):FT k=[]∨∃t,FT k=32::t:=by
 cases k with
 |nil=>exact .inl rfl
 |cons c k=>exact .inr ⟨_,FU c k⟩
theorem Mx:∀{l m:List Ar},(∀a∈l,0≤a.sign∧0≤a.to)→(∀a∈m,0≤a.sign∧0≤a.to)→FT l=FT m→l=m
 | [],[],_,_,_=>rfl
 | [],a::m,_,_,h=>by rw[FU]at h;cases h
 |a::l,[],_,_,h=>by rw[FU]at h;cases h
 |a::l,b::m,hl,hm,h=>by
  have h1:=hl a (by simp);have h2:=hm b (by simp);rw[FU,FU]at h;simp only[List.cons.injEq,true_and]at h;obtain⟨e1,h⟩:=Py (c:=58) (by omega) (GK _) (GK _) h;have es:a.sign=b.sign:=by have:=QS e1;omega
  have key:BI a.to.toNat=BI b.to.toNat∧FT l=FT m:=by
   rcases Mv l with t1|⟨t1,e1⟩<;>rcases Mv m with t2|⟨t2,e2⟩
   ·rw[t1,t2]at h ⊢;simp only[List.append_nil]at h;exact⟨h,rfl⟩
   ·exfalso;rw[t1,e2,List.append_nil]at h;have:(32:Int)∈BI a.to.toNat:=by rw[h];simp
    have:=GK _ _ this;omega
   ·exfalso;rw[e1,t2,List.append_nil]at h;have:(32:Int)∈BI b.to.toNat:=by rw[← h];simp
    have:=GK _ _ this;omega
   ·rw[e1,e2]at h ⊢;obtain⟨g1,g2⟩:=Py (c:=32) (by omega) (GK _) (GK _) h;exact⟨g1,by rw[g2]⟩
  have et:a.to=b.to:=by have:=QS key.1;omega
  rw[Mx (fun c hc=>hl c (by simp[hc])) (fun c hc=>hm c (by simp[hc])) key.2];cases a;cases b;simp only at es et;rw[es,et]
theorem Vn{s t:Ak}(hs:∀a∈s.arcs,0≤a.sign∧0≤a.to)(ht:∀a∈t.arcs,0≤a.sign∧0≤a.to)(h:HQ s=HQ t):s=t:=by
 obtain⟨f,l⟩:=s;obtain⟨g,m⟩:=t;have d0:BI 0=[48]:=by unfold BI Lib.decDigits;rfl
 have d1:BI 1=[49]:=by unfold BI Lib.decDigits;rfl
 simp only[HQ,CO]at h;cases f<;>cases g<;>simp only[if_true,if_false,Bool.false_eq_true,d0,d1,List.cons_append,List.nil_append,List.cons.injEq]at h
 ·have:=Mx hs ht h.2;simp only at this;rw[this]
 ·omega
 ·omega
 ·have:=Mx hs ht h.2;simp only at this;rw[this]
theorem IK(f:Bool):CO f []=BI (if f then 1 else 0):=by simp[CO,FT]
theorem QM{l m:List Int}(hl:∀z∈l,0≤z∧z<256)(hm:∀z∈m,0≤z∧z<256)(h:EK l=EK m):l=m:=by
 have h1:(l.map fun z=>UInt8.ofNat z.toNat)=m.map fun z=>UInt8.ofNat z.toNat:=by simpa[EK]using h
 have back:∀{k:List Int},(∀z∈k,0≤z∧z<256)→(k.map fun z=>UInt8.ofNat z.toNat).map (fun b=>(b.toNat:Int))=k:=fun{k} hk=>by
  rw[List.map_map];refine(List.map_congr_left fun z hz=>?_).trans (List.map_id k);have:=hk z hz;have e:(UInt8.ofNat z.toNat).toNat=z.toNat:=by simp;omega
  simp only[Function.comp,id,e];omega
 rw[← back hl,← back hm,h1]
def Gx(s:Ak):ByteArray:=EK (HQ s)
theorem Ng{s t:Ak}(hs:∀a∈s.arcs,0≤a.sign∧0≤a.to)(ht:∀a∈t.arcs,0≤a.sign∧0≤a.to)(h:Gx s=Gx t):s=t :=
 Vn hs ht (QM (Mi _ _) (Mi _ _) h)
def XZ(of:List Int):Prop:=of.length≤1000000∧∀z∈of,0≤z∧z≤1000000
theorem XZ.get{of:List Int}(h:XZ of){k:Nat}(hk:k<of.length):0≤of[k]!∧of[k]!≤1000000:=by
 rw[getElem!_pos of k hk];exact h.2 _ (List.getElem_mem hk)
theorem dA{s:Ak}{of:List Int}{d0 d1:D}{m sz3:Nat}{kt2 et2 e3:TypeId}{es2:List (D×D)}{xs3:List D}(hof:XZ of)(hs:∀a∈s.arcs,0≤a.sign∧a.sign≤1114111∧0≤a.to∧a.to<of.length)(hal:s.arcs.length≤10000) :
 Ai Tryz.prog 69 [.ref 0 0,.d (Tg s)] [(0,.var [.d d0,.d d1,.own 1 of.length,.map 2,.own 3 m]),(1,.row 3 1 (is of)),(2,.map kt2 et2 es2),(3,.row e3 sz3 xs3)] (.d (.str (Gx (Cc of s)))) [(0,.var [.d d0,.d d1,.own 1 of.length,.map 2,.own 3 m]),(1,.row 3 1 (is of)),(2,.map kt2 et2 es2),(3,.row e3 sz3 xs3)] 4:=by
 have c0:=X6 (z:=0) (by omega);have c1:=X6 (z:=1) (by omega);have hre:∀k,∀a∈(s.arcs.take k).map (Ec of),a.sign<18446744073709551616∧a.to<18446744073709551616:=fun k a ha=>by
  obtain⟨x,hx,rfl⟩:=List.mem_map.1 ha;obtain⟨g1,g2,g3,g4⟩:=hs x (List.mem_of_mem_take hx);have:=hof.get (k:=x.to.toNat) (by omega);simp only[Ec];omega
 refine Bo 40 [0,1,2,3] Tryz.func69 Bm fun X_ ν_ w_=>?_;cases hf:s.final
 ·have c0_:=c0;refine Au @hf ?_;try exact trivial
  refine A8 (fun k:Nat=>k≤s.arcs.length) (fun k=>[(0,.ref 0 0),(5,.own 1004 (CO false ((s.arcs.take k).map (Ec of))).length),(13,.d (.sl 2 (IZ s.arcs))),(14,.d (.int .i64 s.arcs.length)),(15,.d (.int .i64 k))]) (fun k=>[(0,.var [.d d0,.d d1,.own 1 of.length,.map 2,.own 3 m]),(1,.row 3 1 (is of)),(2,.map kt2 et2 es2),(3,.row e3 sz3 xs3),(1004,.row 5 1 (FP (CO false ((s.arcs.take k).map (Ec of)))))]) 20000 (fun k=>s.arcs.length-k) [0,5,13,14,15] [0,1,2,3,1004] 0 (Nat.zero_le _) (by rw[List.take_zero,List.map_nil,IK];rfl) (by rw[List.take_zero,List.map_nil,IK];rfl) (Nat.le_of_ble_eq_true rfl) (fun _ _=>rfl) (fun _ _=>rfl) fun k hk=>?_;have hlb:=GT false ((s.arcs.take k).map (Ec of)) (hre k);have hll:((s.arcs.take k).map (Ec of)).length=k:=by simp;omega
  rw[hll]at hlb;by_cases hk3:k<s.arcs.length
  ·have hst:CO false ((s.arcs.take (k+1)).map (Ec of))=CO false ((s.arcs.take k).map (Ec of))++[32]++BI (s.arcs[k]!).sign.toNat++[58]++BI (of[(s.arcs[k]!).to.toNat]!).toNat:=by
    rw[AT hk3,List.map_append,List.map_cons,List.map_nil,Nl];simp only[Ph,Ec,List.append_assoc]
   obtain⟨g1,g2,g3,g4⟩:=hs (s.arcs[k]!) (by rw[getElem!_pos s.arcs k hk3];exact List.getElem_mem hk3);obtain⟨z,hz⟩:=Int.eq_ofNat_of_zero_le g1;obtain⟨t,ht⟩:=Int.eq_ofNat_of_zero_le g3;rw[hz,ht]at hst;have htl:t<of.length:=by omega
   obtain⟨o1,o2⟩:=hof.get htl;obtain⟨y,hy⟩:=Int.eq_ofNat_of_zero_le o1;simp only[Int.toNat_natCast,hy]at hst;generalize CO false ((s.arcs.take k).map (Ec of))=N at hst hlb ⊢;have hd1:=Iz (u:=z) (by omega);have c3:=U8 (b:=N++[32]) (z:=z) (by omega) (by simp only[List.length_append,List.length_cons,List.length_nil];omega);have c4:=U8 (b:=N++[32]++BI z++[58]) (z:=y) (by omega) (by simp only[List.length_append,List.length_cons,List.length_nil];omega);simp only[List.length_append,List.length_cons,List.length_nil,Nat.zero_add]at c3 c4;have c0_:=c3;have c1_:=c4;refine Au (And.intro @hz (And.intro @ht (And.intro @hy @Int.toNat_natCast))) ?_;try exact trivial
   refine⟨k+1,by omega,?_,?_,by omega⟩
   ·simp(disch:=omega)only[go_sem,AC,Int.natCast_add,Int.cast_ofNat_Int,hst,List.length_append,List.length_cons,List.length_nil]
   ·exact Hq @hst
  ·have hke:k=s.arcs.length:=by omega
   subst hke;rw[List.take_length];have hb1:=Jm (l:=CO false (s.arcs.map (Ec of))) (Mi _ _);have hb2:Gx (Cc of s)=EK (CO false (s.arcs.map (Ec of))):=by unfold Gx Cc HQ;rw[hf]
   rw[hb2];rw[List.take_length]at hlb;unfold EK;generalize CO false (s.arcs.map (Ec of))=N at hb1 hlb ⊢;obtain⟨b,l,hbl⟩:∃b l,(N.map fun z=>UInt8.ofNat z.toNat)=b::l:=by
    cases N with
    |nil=>simp at hlb
    |cons x t=>exact⟨_,_,rfl⟩
   rw[hbl]at hb1 ⊢;refine Au @hb1 ?_;try exact trivial
 ·have c0_:=c0;have c1_:=c1;refine Au @hf ?_;try exact trivial
  refine A8 (fun k:Nat=>k≤s.arcs.length) (fun k=>[(0,.ref 0 0),(5,.own 3004 (CO true ((s.arcs.take k).map (Ec of))).length),(13,.d (.sl 2 (IZ s.arcs))),(14,.d (.int .i64 s.arcs.length)),(15,.d (.int .i64 k))]) (fun k=>[(0,.var [.d d0,.d d1,.own 1 of.length,.map 2,.own 3 m]),(1,.row 3 1 (is of)),(2,.map kt2 et2 es2),(3,.row e3 sz3 xs3),(3004,.row 5 1 (FP (CO true ((s.arcs.take k).map (Ec of)))))]) 20000 (fun k=>s.arcs.length-k) [0,5,13,14,15] [0,1,2,3,3004] 0 (Nat.zero_le _) (by rw[List.take_zero,List.map_nil,IK];rfl) (by rw[List.take_zero,List.map_nil,IK];rfl) (Nat.le_of_ble_eq_true rfl) (fun _ _=>rfl) (fun _ _=>rfl) fun k hk=>?_;have hlb:=GT true ((s.arcs.take k).map (Ec of)) (hre k);have hll:((s.arcs.take k).map (Ec of)).length=k:=by simp;omega
  rw[hll]at hlb;by_cases hk3:k<s.arcs.length
  ·have hst:CO true ((s.arcs.take (k+1)).map (Ec of))=CO true ((s.arcs.take k).map (Ec of))++[32]++BI (s.arcs[k]!).sign.toNat++[58]++BI (of[(s.arcs[k]!).to.toNat]!).toNat:=by
    rw[AT hk3,List.map_append,List.map_cons,List.map_nil,Nl];simp only[Ph,Ec,List.append_assoc]
   obtain⟨g1,g2,g3,g4⟩:=hs (s.arcs[k]!) (by rw[getElem!_pos s.arcs k hk3];exact List.getElem_mem hk3);obtain⟨z,hz⟩:=Int.eq_ofNat_of_zero_le g1;obtain⟨t,ht⟩:=Int.eq_ofNat_of_zero_le g3;rw[hz,ht]at hst;have htl:t<of.length:=by omega
   obtain⟨o1,o2⟩:=hof.get htl;obtain⟨y,hy⟩:=Int.eq_ofNat_of_zero_le o1;simp only[Int.toNat_natCast,hy]at hst;generalize CO true ((s.arcs.take k).map (Ec of))=N at hst hlb ⊢;have hd1:=Iz (u:=z) (by omega);have c3:=U8 (b:=N++[32]) (z:=z) (by omega) (by simp only[List.length_append,List.length_cons,List.length_nil];omega);have c4:=U8 (b:=N++[32]++BI z++[58]) (z:=y) (by omega) (by simp only[List.length_append,List.length_cons,List.length_nil];omega);simp only[List.length_append,List.length_cons,List.length_nil,Nat.zero_add]at c3 c4;have c0_:=c3;have c1_:=c4;refine Au (And.intro @hz (And.intro @ht (And.intro @hy @Int.toNat_natCast))) ?_;try exact trivial
   refine⟨k+1,by omega,?_,?_,by omega⟩
   ·simp(disch:=omega)only[go_sem,AC,Int.natCast_add,Int.cast_ofNat_Int,hst,List.length_append,List.length_cons,List.length_nil]
   ·exact Hq @hst
  ·have hke:k=s.arcs.length:=by omega
   subst hke;rw[List.take_length];have hb1:=Jm (l:=CO true (s.arcs.map (Ec of))) (Mi _ _);have hb2:Gx (Cc of s)=EK (CO true (s.arcs.map (Ec of))):=by unfold Gx Cc HQ;rw[hf]
   rw[hb2];rw[List.take_length]at hlb;unfold EK;generalize CO true (s.arcs.map (Ec of))=N at hb1 hlb ⊢;obtain⟨b,l,hbl⟩:∃b l,(N.map fun z=>UInt8.ofNat z.toNat)=b::l:=by
    cases N with
    |nil=>simp at hlb
    |cons x t=>exact⟨_,_,rfl⟩
   rw[hbl]at hb1 ⊢;refine Au @hb1 ?_;try exact trivial
end Go.Eng.Tryz

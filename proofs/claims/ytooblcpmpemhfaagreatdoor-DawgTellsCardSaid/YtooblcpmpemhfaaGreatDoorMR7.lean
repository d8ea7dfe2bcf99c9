/- The least automaton, part 1: a state's name; the beginnings. (and what stands behind it: texts laid together) -/
import Derived.Test.YtooblcpmpemhfaaGreatDoorMG4
import Derived.Test.YtooblcpmpemhfaaGreatDoorMR4
import Derived.Test.YtooblcpmpemhfaaGreatDoorMR6
import Derived.Test.YtooblcpmpemhfaaGreatDoorMR3
import Derived.Test.YtooblcpmpemhfaaGreatDoorMR2
set_option linter.unusedVariables false
set_option linter.unusedSimpArgs false
open Go Go.Eng Go.Proofs Go.RowKit
set_option maxHeartbeats 32000000
set_option maxRecDepth 100000
namespace Go.Eng.Tryz
attribute [local go_sem] Aq As AK AO Bz DS D9 DT AU AW AG AD
def Jm(z t:Int):List Int:=[32]++AQ z.toNat++[58]++AQ t.toNat
def DI(arcs:List Ar):List Int:=arcs.flatMap fun a=>Jm a.sign a.to
theorem DH(a:Ar)(l:List Ar):DI (a::l)=32::(AQ a.sign.toNat++58::(AQ a.to.toNat++DI l)):=by simp[DI,Jm]
def AX(fin:Bool)(arcs:List Ar):List Int:=AQ (if fin then 1 else 0)++DI arcs
def B6(of:List Int)(a:Ar):Ar:=⟨a.sign,of[a.to.toNat]!⟩
def B5(of:List Int)(s:AB):AB:=⟨s.final,s.arcs.map (B6 of)⟩
def DO(s:AB):List Int:=AX s.final s.arcs
def BK(l:List Int):ByteArray:=⟨(l.map fun z=>UInt8.ofNat z.toNat).toArray⟩
theorem Q9(z t:Nat)(hz:z<18446744073709551616)(ht:t<18446744073709551616):(Jm z t).length≤42:=by
 have:=DR hz;have:=DR ht;simp only[Jm,List.length_append,List.length_cons,List.length_nil,Int.toNat_natCast];omega
theorem DG:∀{l:List Int},(∀z∈l,0≤z∧z<256)→Fl (Cu l)=some (l.map fun z=>UInt8.ofNat z.toNat)
 | [],_=>rfl
 |z::l,h=>by
  have h1:=h z (by simp);have ih:=DG (l:=l) fun z hz=>h z (by simp[hz]);simp only[Cu]at ih;simp only[Cu,List.map_cons,Fl];simp only[true_and];rw[if_pos h1,ih]
theorem Nf(u:Nat):∀z∈AQ u,0≤z∧z<256:=fun z hz=>by
 obtain⟨b,_,rfl⟩:=List.mem_map.1 hz;have:=b.toNat_lt;omega
theorem Fw(fin:Bool)(arcs:List Ar):∀z∈AX fin arcs,0≤z∧z<256:=fun z hz=>by
 simp only[AX,DI,List.mem_append,List.mem_flatMap,Jm,List.mem_cons,List.not_mem_nil,or_false]at hz;rcases hz with h|⟨a,_,((h|h)|h)|h⟩
 ·exact Nf _ _ h
 ·omega
 ·exact Nf _ _ h
 ·omega
 ·exact Nf _ _ h
theorem EG(fin:Bool)(arcs:List Ar)(a:Ar):AX fin (arcs++[a])=AX fin arcs++Jm a.sign a.to:=by simp[AX,DI]
theorem CL(fin:Bool)(arcs:List Ar)(h:∀a∈arcs,a.sign<18446744073709551616∧a.to<18446744073709551616):1≤(AX fin arcs).length∧(AX fin arcs).length≤20+42 * arcs.length:=by
 induction arcs with
 |nil=>simp only[AX,DI,List.flatMap_nil,List.append_nil,List.length_nil];have:=DR (u:=if fin then 1 else 0) (by split<;>omega);omega
 |cons a l ih =>
  have h1:=ih fun a ha=>h a (by simp[ha]);have h2:=h a (by simp);have h3:=Q9 a.sign.toNat a.to.toNat (by omega) (by omega)
  simp only[AX,DI,List.flatMap_cons,List.length_append,List.length_cons,Jm,Int.toNat_natCast]at h1 h3 ⊢;omega
theorem EA(u:Nat):∀z∈AQ u,48≤z∧z≤57:=by
 induction u using Nat.strongRecOn with
 |_ u ih =>
  intro z hz;unfold AQ Lib.decDigits at hz;split at hz
  ·simp at hz;subst hz;have:(UInt8.ofNat (48+u)).toNat=48+u:=by simp;omega
   simp at this ⊢;omega
  ·rw[List.map_append,List.mem_append]at hz;rcases hz with h|h
   ·exact ih (u/10) (by omega) z h
   ·simp at h;subst h;have:(UInt8.ofNat (48+u%10)).toNat=48+u%10:=by simp;omega
    simp at this ⊢;omega
theorem NE:∀u:Nat,(AQ u).foldl (fun s z=>s * 10+(z-48)) 0=(u:Int):=by
 intro u;induction u using Nat.strongRecOn with
 |_ u ih =>
  unfold AQ Lib.decDigits;split
  ·have:(UInt8.ofNat (48+u)).toNat=48+u:=by simp;omega
   simp only[List.map_cons,List.map_nil,List.foldl_cons,List.foldl_nil,this];omega
  ·have h1:=ih (u/10) (by omega);unfold AQ at h1;have:(UInt8.ofNat (48+u%10)).toNat=48+u%10:=by simp;omega
   simp only[List.map_append,List.foldl_append,h1,List.map_cons,List.map_nil,List.foldl_cons,List.foldl_nil,this];omega
theorem Ms{u v:Nat}(h:AQ u=AQ v):u=v:=by
 have h1:=NE u;have h2:=NE v;rw[h]at h1;omega
theorem Lk{c:Int}(hc:c<48∨57<c):∀{a b x y:List Int},(∀z∈a,48≤z∧z≤57)→(∀z∈b,48≤z∧z≤57)→a++c::x=b++c::y→a=b∧x=y
 | [],[],x,y,_,_,h=>by simpa using h
 | [],b::bs,x,y,_,hb,h=>by
   simp only[List.nil_append,List.cons_append,List.cons.injEq]at h;have:=hb b (by simp);omega
 |a::az,[],x,y,ha,_,h=>by
  simp only[List.nil_append,List.cons_append,List.cons.injEq]at h;have:=ha a (by simp);omega
 |a::az,b::bs,x,y,ha,hb,h=>by
  simp only[List.cons_append,List.cons.injEq]at h;obtain⟨h1,h2⟩:=Lk hc (fun z hz=>ha z (by simp[hz])) (fun z hz=>hb z (by simp[hz])) h.2;exact⟨by rw[h.1,h1],h2⟩
theorem Jl(k:List Ar):DI k=[]∨∃t,DI k=32::t:=by
 cases k with
 |nil=>exact .inl rfl
 |cons c k=>exact .inr ⟨_,DH c k⟩
theorem Jj:∀{l m:List Ar},(∀a∈l,0≤a.sign∧0≤a.to)→(∀a∈m,0≤a.sign∧0≤a.to)→DI l=DI m→l=m
 | [],[],_,_,_=>rfl
 | [],a::m,_,_,h=>by rw[DH]at h;cases h
 |a::l,[],_,_,h=>by rw[DH]at h;cases h
 |a::l,b::m,hl,hm,h=>by
  have h1:=hl a (by simp);have h2:=hm b (by simp);rw[DH,DH]at h;simp only[List.cons.injEq,true_and]at h;obtain⟨e1,h⟩:=Lk (c:=58) (by omega) (EA _) (EA _) h;have es:a.sign=b.sign:=by have:=Ms e1;omega
  have key:AQ a.to.toNat=AQ b.to.toNat∧DI l=DI m:=by
   rcases Jl l with t1|⟨t1,e1⟩<;>rcases Jl m with t2|⟨t2,e2⟩
   ·rw[t1,t2]at h ⊢;simp only[List.append_nil]at h;exact⟨h,rfl⟩
   ·exfalso;rw[t1,e2,List.append_nil]at h;have:(32:Int)∈AQ a.to.toNat:=by rw[h];simp
    have:=EA _ _ this;omega
   ·exfalso;rw[e1,t2,List.append_nil]at h;have:(32:Int)∈AQ b.to.toNat:=by rw[← h];simp
    have:=EA _ _ this;omega
   ·rw[e1,e2]at h ⊢;obtain⟨g1,g2⟩:=Lk (c:=32) (by omega) (EA _) (EA _) h;exact⟨g1,by rw[g2]⟩
  have et:a.to=b.to:=by have:=Ms key.1;omega
  rw[Jj (fun c hc=>hl c (by simp[hc])) (fun c hc=>hm c (by simp[hc])) key.2];cases a;cases b;simp only at es et;rw[es,et]
theorem O9{s t:AB}(hs:∀a∈s.arcs,0≤a.sign∧0≤a.to)(ht:∀a∈t.arcs,0≤a.sign∧0≤a.to)(h:DO s=DO t):s=t:=by
 obtain⟨f,l⟩:=s;obtain⟨g,m⟩:=t;have d0:AQ 0=[48]:=by unfold AQ Lib.decDigits;rfl
 have d1:AQ 1=[49]:=by unfold AQ Lib.decDigits;rfl
 simp only[DO,AX]at h;cases f<;>cases g<;>simp only[if_true,if_false,Bool.false_eq_true,d0,d1,List.cons_append,List.nil_append,List.cons.injEq]at h
 ·have:=Jj hs ht h.2;simp only at this;rw[this]
 ·omega
 ·omega
 ·have:=Jj hs ht h.2;simp only at this;rw[this]
theorem Cr(f:Bool):AX f []=AQ (if f then 1 else 0):=by simp[AX,DI]
theorem Mw{l m:List Int}(hl:∀z∈l,0≤z∧z<256)(hm:∀z∈m,0≤z∧z<256)(h:BK l=BK m):l=m:=by
 have h1:(l.map fun z=>UInt8.ofNat z.toNat)=m.map fun z=>UInt8.ofNat z.toNat:=by simpa[BK]using h
 have back:∀{k:List Int},(∀z∈k,0≤z∧z<256)→(k.map fun z=>UInt8.ofNat z.toNat).map (fun b=>(b.toNat:Int))=k:=fun{k} hk=>by
  rw[List.map_map];refine(List.map_congr_left fun z hz=>?_).trans (List.map_id k);have:=hk z hz;have e:(UInt8.ofNat z.toNat).toNat=z.toNat:=by simp;omega
  simp only[Function.comp,id,e];omega
 rw[← back hl,← back hm,h1]
def Ch(s:AB):ByteArray:=BK (DO s)
theorem Et{s t:AB}(hs:∀a∈s.arcs,0≤a.sign∧0≤a.to)(ht:∀a∈t.arcs,0≤a.sign∧0≤a.to)(h:Ch s=Ch t):s=t :=
 O9 hs ht (Mw (Fw _ _) (Fw _ _) h)
def OL(of:List Int):Prop:=of.length≤1000000∧∀z∈of,0≤z∧z≤1000000
theorem OL.get{of:List Int}(h:OL of){k:Nat}(hk:k<of.length):0≤of[k]!∧of[k]!≤1000000:=by
 rw[getElem!_pos of k hk];exact h.2 _ (List.getElem_mem hk)
theorem T5{s:AB}{of:List Int}{d0 d1:D}{m sz3:Nat}{kt2 et2 e3:TypeId}{es2:List (D×D)}{xs3:List D}(hof:OL of)(hs:∀a∈s.arcs,0≤a.sign∧a.sign≤1114111∧0≤a.to∧a.to<of.length)(hal:s.arcs.length≤10000) :
 Ac Tryz.prog 69 [.ref 0 0,.d (MO s)] [(0,.var [.d d0,.d d1,.own 1 of.length,.map 2,.own 3 m]),(1,.row 3 1 (is of)),(2,.map kt2 et2 es2),(3,.row e3 sz3 xs3)] (.d (.str (Ch (B5 of s)))) [(0,.var [.d d0,.d d1,.own 1 of.length,.map 2,.own 3 m]),(1,.row 3 1 (is of)),(2,.map kt2 et2 es2),(3,.row e3 sz3 xs3)] 4:=by
 have c0:=KO (z:=0) (by omega);have c1:=KO (z:=1) (by omega);have hre:∀k,∀a∈(s.arcs.take k).map (B6 of),a.sign<18446744073709551616∧a.to<18446744073709551616:=fun k a ha=>by
  obtain⟨x,hx,rfl⟩:=List.mem_map.1 ha;obtain⟨g1,g2,g3,g4⟩:=hs x (List.mem_of_mem_take hx);have:=hof.get (k:=x.to.toNat) (by omega);simp only[B6];omega
 refine Ac.run (N:=40) (ks:=[0,1,2,3]) Tryz.func69 rfl (by kernel_rfl) rfl rfl rfl (by exact Bb) fun X_ ν_ w_=>?_;cases hf:s.final
 ·have c0_:=c0;refine AI @hf ?_;try exact trivial
  refine A7 (fun k:Nat=>k≤s.arcs.length) (fun k=>[(0,.ref 0 0),(5,.own 1004 (AX false ((s.arcs.take k).map (B6 of))).length),(13,.d (.sl 2 (Gu s.arcs))),(14,.d (.int .i64 s.arcs.length)),(15,.d (.int .i64 k))]) (fun k=>[(0,.var [.d d0,.d d1,.own 1 of.length,.map 2,.own 3 m]),(1,.row 3 1 (is of)),(2,.map kt2 et2 es2),(3,.row e3 sz3 xs3),(1004,.row 5 1 (Cu (AX false ((s.arcs.take k).map (B6 of)))))]) 20000 (fun k=>s.arcs.length-k) [0,5,13,14,15] [0,1,2,3,1004] 0 (Nat.zero_le _) (by rw[List.take_zero,List.map_nil,Cr];rfl) (by rw[List.take_zero,List.map_nil,Cr];rfl) (Nat.le_of_ble_eq_true rfl) (fun _ _=>rfl) (fun _ _=>rfl) fun k hk=>?_;have hlb:=CL false ((s.arcs.take k).map (B6 of)) (hre k);have hll:((s.arcs.take k).map (B6 of)).length=k:=by simp;omega
  rw[hll]at hlb;by_cases hk3:k<s.arcs.length
  ·have hst:AX false ((s.arcs.take (k+1)).map (B6 of))=AX false ((s.arcs.take k).map (B6 of))++[32]++AQ (s.arcs[k]!).sign.toNat++[58]++AQ (of[(s.arcs[k]!).to.toNat]!).toNat:=by
    rw[Ak hk3,List.map_append,List.map_cons,List.map_nil,EG];simp only[Jm,B6,List.append_assoc]
   obtain⟨g1,g2,g3,g4⟩:=hs (s.arcs[k]!) (by rw[getElem!_pos s.arcs k hk3];exact List.getElem_mem hk3);obtain⟨z,hz⟩:=Int.eq_ofNat_of_zero_le g1;obtain⟨t,ht⟩:=Int.eq_ofNat_of_zero_le g3;rw[hz,ht]at hst;have htl:t<of.length:=by omega
   obtain⟨o1,o2⟩:=hof.get htl;obtain⟨y,hy⟩:=Int.eq_ofNat_of_zero_le o1;simp only[Int.toNat_natCast,hy]at hst;generalize AX false ((s.arcs.take k).map (B6 of))=N at hst hlb ⊢;have hd1:=DR (u:=z) (by omega);have c3:=HL (b:=N++[32]) (z:=z) (by omega) (by simp only[List.length_append,List.length_cons,List.length_nil];omega);have c4:=HL (b:=N++[32]++AQ z++[58]) (z:=y) (by omega) (by simp only[List.length_append,List.length_cons,List.length_nil];omega);simp only[List.length_append,List.length_cons,List.length_nil,Nat.zero_add]at c3 c4;have c0_:=c3;have c1_:=c4;refine AI (And.intro @hz (And.intro @ht (And.intro @hy @Int.toNat_natCast))) ?_;try exact trivial
   refine⟨k+1,by omega,?_,?_,by omega⟩
   ·simp(disch:=omega)only[go_sem,A2,Int.natCast_add,Int.cast_ofNat_Int,hst,List.length_append,List.length_cons,List.length_nil]
   ·simp(disch:=omega)only[go_sem,A2,hst]
  ·have hke:k=s.arcs.length:=by omega
   subst hke;rw[List.take_length];have hb1:=DG (l:=AX false (s.arcs.map (B6 of))) (Fw _ _);have hb2:Ch (B5 of s)=BK (AX false (s.arcs.map (B6 of))):=by unfold Ch B5 DO;rw[hf]
   rw[hb2];rw[List.take_length]at hlb;unfold BK;generalize AX false (s.arcs.map (B6 of))=N at hb1 hlb ⊢;obtain⟨b,l,hbl⟩:∃b l,(N.map fun z=>UInt8.ofNat z.toNat)=b::l:=by
    cases N with
    |nil=>simp at hlb
    |cons x t=>exact⟨_,_,rfl⟩
   rw[hbl]at hb1 ⊢;refine AI @hb1 ?_;try exact trivial
 ·have c0_:=c0;have c1_:=c1;refine AI @hf ?_;try exact trivial
  refine A7 (fun k:Nat=>k≤s.arcs.length) (fun k=>[(0,.ref 0 0),(5,.own 3004 (AX true ((s.arcs.take k).map (B6 of))).length),(13,.d (.sl 2 (Gu s.arcs))),(14,.d (.int .i64 s.arcs.length)),(15,.d (.int .i64 k))]) (fun k=>[(0,.var [.d d0,.d d1,.own 1 of.length,.map 2,.own 3 m]),(1,.row 3 1 (is of)),(2,.map kt2 et2 es2),(3,.row e3 sz3 xs3),(3004,.row 5 1 (Cu (AX true ((s.arcs.take k).map (B6 of)))))]) 20000 (fun k=>s.arcs.length-k) [0,5,13,14,15] [0,1,2,3,3004] 0 (Nat.zero_le _) (by rw[List.take_zero,List.map_nil,Cr];rfl) (by rw[List.take_zero,List.map_nil,Cr];rfl) (Nat.le_of_ble_eq_true rfl) (fun _ _=>rfl) (fun _ _=>rfl) fun k hk=>?_;have hlb:=CL true ((s.arcs.take k).map (B6 of)) (hre k);have hll:((s.arcs.take k).map (B6 of)).length=k:=by simp;omega
  rw[hll]at hlb;by_cases hk3:k<s.arcs.length
  ·have hst:AX true ((s.arcs.take (k+1)).map (B6 of))=AX true ((s.arcs.take k).map (B6 of))++[32]++AQ (s.arcs[k]!).sign.toNat++[58]++AQ (of[(s.arcs[k]!).to.toNat]!).toNat:=by
    rw[Ak hk3,List.map_append,List.map_cons,List.map_nil,EG];simp only[Jm,B6,List.append_assoc]
   obtain⟨g1,g2,g3,g4⟩:=hs (s.arcs[k]!) (by rw[getElem!_pos s.arcs k hk3];exact List.getElem_mem hk3);obtain⟨z,hz⟩:=Int.eq_ofNat_of_zero_le g1;obtain⟨t,ht⟩:=Int.eq_ofNat_of_zero_le g3;rw[hz,ht]at hst;have htl:t<of.length:=by omega
   obtain⟨o1,o2⟩:=hof.get htl;obtain⟨y,hy⟩:=Int.eq_ofNat_of_zero_le o1;simp only[Int.toNat_natCast,hy]at hst;generalize AX true ((s.arcs.take k).map (B6 of))=N at hst hlb ⊢;have hd1:=DR (u:=z) (by omega);have c3:=HL (b:=N++[32]) (z:=z) (by omega) (by simp only[List.length_append,List.length_cons,List.length_nil];omega);have c4:=HL (b:=N++[32]++AQ z++[58]) (z:=y) (by omega) (by simp only[List.length_append,List.length_cons,List.length_nil];omega);simp only[List.length_append,List.length_cons,List.length_nil,Nat.zero_add]at c3 c4;have c0_:=c3;have c1_:=c4;refine AI (And.intro @hz (And.intro @ht (And.intro @hy @Int.toNat_natCast))) ?_;try exact trivial
   refine⟨k+1,by omega,?_,?_,by omega⟩
   ·simp(disch:=omega)only[go_sem,A2,Int.natCast_add,Int.cast_ofNat_Int,hst,List.length_append,List.length_cons,List.length_nil]
   ·simp(disch:=omega)only[go_sem,A2,hst]
  ·have hke:k=s.arcs.length:=by omega
   subst hke;rw[List.take_length];have hb1:=DG (l:=AX true (s.arcs.map (B6 of))) (Fw _ _);have hb2:Ch (B5 of s)=BK (AX true (s.arcs.map (B6 of))):=by unfold Ch B5 DO;rw[hf]
   rw[hb2];rw[List.take_length]at hlb;unfold BK;generalize AX true (s.arcs.map (B6 of))=N at hb1 hlb ⊢;obtain⟨b,l,hbl⟩:∃b l,(N.map fun z=>UInt8.ofNat z.toNat)=b::l:=by
    cases N with
    |nil=>simp at hlb
    |cons x t=>exact⟨_,_,rfl⟩
   rw[hbl]at hb1 ⊢;refine AI @hb1 ?_;try exact trivial
end Go.Eng.Tryz
namespace Go.Eng.Tryz
attribute [local go_sem] Aq As AU AW AG AD
theorem QC{l:List Int}{i:Nat}{z:Int}:(is l).set i (.int .i64 z)=is (l.set i z):=by simp[is,List.map_set]
theorem QD{n:Nat}{x:Int}:List.replicate n (D.int .i64 x)=is (List.replicate n x):=by simp[is]
attribute [local go_sem] QC QD
def Tv(z:Int)(a:Ar):Bool:=decide (a.sign=z)
def Rx(l:List AB)(from_ z:Int):Option Int :=
 if 0≤from_∧from_<l.length then((l[from_.toNat]!).arcs.find? (Tv z)).map (·.to)else none
def EU(out:List Int):A8:=[(0,.var [.own 1 out.length]),(1,.row 3 1 (is out))]
def Q8(s:AB)(n:Nat):Prop:=∀a∈s.arcs,0≤a.to∧a.to<n
theorem Q8.get{s:AB}{n:Nat}(h:Q8 s n){k:Nat}(hk:k<s.arcs.length):0≤(s.arcs[k]!).to∧(s.arcs[k]!).to<n:=by
 rw[getElem!_pos s.arcs k hk];exact h _ (List.getElem_mem hk)
end Go.Eng.Tryz
namespace Go.Eng.Tryz
theorem Jk{i n:Int}:∀{l:List Ar} {last:Int},AR i n last l=true→∀a∈l,i<a.to∧a.to<n∧BN a.sign=true∧last<a.sign
 | [],_,_,a,h=>by cases h
 |b::l,last,h,a,ha=>by
  simp only[AR,Bool.and_eq_true]at h;have hb:=h.1;simp only[Da,Bool.and_eq_true,decide_eq_true_eq]at hb;rcases List.mem_cons.1 ha with e|e
  ·subst e;exact⟨hb.1.2,hb.2,hb.1.1.2,hb.1.1.1⟩
  ·obtain⟨h1,h2,h3,h4⟩:=Jk h.2 a e;exact⟨h1,h2,h3,by omega⟩
theorem Fo{l:List AB}:achk l=true↔BM l l.length=true∧0<l.length∧l.length≤6001:=by
 unfold achk;simp[Bool.and_eq_true,decide_eq_true_eq]
theorem Fp{l:List AB}(h:achk l=true){k:Nat}(hk:k<l.length):∀a∈(l[k]!).arcs,(k:Int)<a.to∧a.to<l.length∧BN a.sign=true:=fun a ha=>by
 have:=Jk (HJ (Fo.1 h).1 hk) a ha;exact⟨this.1,this.2.1,this.2.2.1⟩
attribute [local go_sem] Aq As AU AW AG AD
theorem Ij{l:List Int}{i:Nat}{z:Int}:(is l).set i (.int .i64 z)=is (l.set i z):=by simp[is,List.map_set]
theorem Il{n:Nat}{x:Int}:List.replicate n (D.int .i64 x)=is (List.replicate n x):=by simp[is]
attribute [local go_sem] Ij Il
end Go.Eng.Tryz
namespace Go.Eng.Tryz
attribute [local go_sem] Aq As AU AW AG AD Ij Il
theorem N2{l:List Ar}{k:Nat}(h:k<l.length)(last:Int):BS last (l.take (k+1))=(l[k]!).sign:=by rw[Ak h,IO]
theorem Q7{i n last:Int}{l:List Ar}{k:Nat}(hk:k<l.length)(h:AR i n last (l.take k)=true)(hb:Da i n (BS last (l.take k)) (l[k]!)=false):AR i n last l=false:=by
 have e:l=l.take k++(l[k]!::l.drop (k+1)):=by rw[← Jn hk,List.take_append_drop]
 rw[e,Gq,h];simp only[AR,hb,Bool.false_and,Bool.and_false]
theorem Qa{l:List AB}(h:BM l l.length=true):achk l=(decide ((1:Int)≤l.length)&&decide ((l.length:Int)≤6001)):=by
 unfold achk;rw[h,Bool.true_and];by_cases h1:0<l.length∧l.length≤6001
 ·rw[decide_eq_true h1,decide_eq_true (by omega),decide_eq_true (by omega)];rfl
 ·rw[decide_eq_false h1];by_cases h2:0<l.length
  ·rw[decide_eq_false (show¬(l.length:Int)≤6001 by omega),Bool.and_false]
  ·rw[decide_eq_false (show¬(1:Int)≤l.length by omega),Bool.false_and]
theorem QG{l:List AB}(hl:BZ l):A1 Tryz.prog 70 [.sl 2 (AH l)] (.bool (achk l)):=by
 obtain⟨hlen,hal⟩:=id hl;refine A1.run (N:=74) Tryz.func70 rfl (by kernel_rfl) rfl rfl rfl (by exact Ab) fun X_ w_=>?_;refine Aw ?_;try exact trivial
 refine A7 (fun i:Nat=>i≤l.length∧BM l i=true) (fun i=>[(0,.d (.sl 2 (AH l))),(3,.d (.int .i64 i))]) (fun _=>[]) 0 (fun i=>l.length-i) [0,3] [] 0 ⟨Nat.zero_le _,rfl⟩ rfl rfl (Nat.zero_le _) (fun _ _=>rfl) (fun _ _=>rfl) fun i hi=>?_;obtain⟨hi1,hi2⟩:=hi;by_cases hi3:i<l.length
 ·have hai:=hl.get hi3;refine Aw ?_;try exact trivial
  refine A7 (fun k:Nat=>k≤(l[i]!).arcs.length∧AR i l.length (-1) ((l[i]!).arcs.take k)=true) (fun k=>[(0,.d (.sl 2 (AH l))),(3,.d (.int .i64 i)),(4,.d (.int .i64 k))]) (fun _=>[]) 0 (fun k=>(l[i]!).arcs.length-k) [0,3,4] [] 0 ⟨Nat.zero_le _,rfl⟩ rfl rfl (Nat.zero_le _) (fun _ _=>rfl) (fun _ _=>rfl) fun k hk=>?_;obtain⟨hk1,hk2⟩:=hk;by_cases hk3:k<(l[i]!).arcs.length
  ·have cg:=KJ (z:=((l[i]!).arcs[k]!).sign);have hs:=Ak hk3;have hbad:Da i l.length (BS (-1) ((l[i]!).arcs.take k)) ((l[i]!).arcs[k]!)=false→achk l=false:=fun hb=>Qb hi3 (Q7 hk3 hk2 hb);have hgo:Da i l.length (BS (-1) ((l[i]!).arcs.take k)) ((l[i]!).arcs[k]!)=true→AR i l.length (-1) ((l[i]!).arcs.take (k+1))=true:=fun hb=>by rw[hs,Gq,hk2];simp only[AR,hb,Bool.and_true]
   have hlast:k=0∧BS (-1) ((l[i]!).arcs.take k) = -1∨∃m,k=m+1∧BS (-1) ((l[i]!).arcs.take k)=((l[i]!).arcs[m]!).sign:=by
    cases k with
    |zero=>exact .inl ⟨rfl,rfl⟩
    |succ m=>exact .inr ⟨m,rfl,N2 (by omega) _⟩
   generalize BS (-1) ((l[i]!).arcs.take k)=last at *;unfold Da at hbad hgo;by_cases h1:BN ((l[i]!).arcs[k]!).sign=true
   ·rw[h1]at cg;by_cases h2:(i:Int)<((l[i]!).arcs[k]!).to
    ·by_cases h3:((l[i]!).arcs[k]!).to<l.length
     ·rcases hlast with⟨rfl,rfl⟩|⟨m,rfl,hlm⟩
      ·have h4:(-1:Int)<((l[i]!).arcs[0]!).sign:=by have:=of_decide_eq_true h1;omega
       have:=hgo (by rw[h1,decide_eq_true h2,decide_eq_true h3,decide_eq_true h4];rfl);have c0_:=cg;refine Aw ?_;try exact trivial
       refine⟨0+1,⟨by omega,this⟩,?_,rfl,by omega⟩;simp(disch:=omega)only[go_sem,A2,Int.natCast_add,Int.cast_ofNat_Int]
      ·have em:((m+1:Nat):Int)-1=(m:Int):=by omega
       by_cases h4:last<((l[i]!).arcs[m+1]!).sign
       ·have:=hgo (by rw[h1,decide_eq_true h2,decide_eq_true h3,decide_eq_true h4];rfl);rw[hlm]at h4;have c0_:=cg;refine AI @em ?_;try exact trivial
        refine⟨m+1+1,⟨by omega,this⟩,?_,rfl,by omega⟩;simp(disch:=omega)only[go_sem,A2,Int.natCast_add,Int.cast_ofNat_Int]
       ·have:=hbad (by rw[decide_eq_false h4];rfl);rw[hlm]at h4;have c0_:=cg;refine AI (And.intro @em @this) ?_;try exact trivial
     ·have:=hbad (by rw[decide_eq_false h3,Bool.and_false]);have c0_:=cg;refine AI @this ?_;try exact trivial
    ·have:=hbad (by rw[decide_eq_false h2,Bool.and_false,Bool.false_and]);have c0_:=cg;refine AI @this ?_;try exact trivial
   ·have h1:=Bool.eq_false_iff.2 h1;rw[h1]at cg;have:=hbad (by rw[h1,Bool.and_false,Bool.false_and,Bool.false_and]);have c0_:=cg;refine AI @this ?_;try exact trivial
  ·have hkl:k=(l[i]!).arcs.length:=by omega
   subst hkl;rw[List.take_length]at hk2;have:=FV l i;rw[hi2,hk2]at this;refine Aw ?_;try exact trivial
   refine⟨i+1,⟨by omega,this⟩,?_,rfl,by omega⟩;simp(disch:=omega)only[go_sem,A2,Int.natCast_add,Int.cast_ofNat_Int]
 ·have hil:i=l.length:=by omega
  subst hil;rw[Qa hi2];by_cases h1:(1:Int)≤l.length
  ·rw[decide_eq_true h1,Bool.true_and];refine Aw ?_;try exact trivial
  ·rw[decide_eq_false h1,Bool.false_and];refine Aw ?_;try exact trivial
end Go.Eng.Tryz
namespace Go.Eng.Tryz
attribute [local go_sem] Aq As AU AW AG AD Ij Il
end Go.Eng.Tryz
namespace Go.Eng.Tryz
theorem Dt:∀(u a b:List Int),Aj (u++a) (u++b)=Aj a b
 | [],a,b=>rfl
 |x::u,a,b=>by simp only[List.cons_append,Aj,Int.lt_irrefl,if_false];exact Dt u a b
theorem Ly(w:List Int):¬Aj w []<0:=by cases w<;>simp[Aj]
theorem F5{a b:Int}(h:a<b)(w u v:List Int):Aj (w++a::u) (w++b::v)<0:=by
 rw[Dt];simp[Aj,h]
def U0(w f:List Int):Bool:=decide (Aj (w.take (min w.length f.length)) (f.take (min w.length f.length))<0)
def wf(l:List AB)(f:List Int):Nat→Nat→List Int→List (List Int)
 |0,_,_=>[]
 |n+1,k,w=>(if(l[k]!).final=true∧¬Aj w f<0 then[w]else[])++(l[k]!).arcs.flatMap fun a=>if U0 (w++[a.sign]) f=true then[]else wf l f n a.to.toNat (w++[a.sign])
end Go.Eng.Tryz

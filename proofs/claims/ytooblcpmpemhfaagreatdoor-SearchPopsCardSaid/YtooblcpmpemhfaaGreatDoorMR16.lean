/- Numbers as text: strconv.AppendInt, of numbers not below 0. (and what stands behind it: texts laid together) -/
import Derived.Test.YtooblcpmpemhfaaGreatDoorMG4
import Derived.Test.YtooblcpmpemhfaaGreatDoorMR15
import Derived.Shelf.Strconv.AppendUint10
set_option linter.unusedVariables false
set_option linter.unusedSimpArgs false
open Go Go.Eng Go.Proofs Go.RowKit
set_option maxHeartbeats 32000000
set_option maxRecDepth 100000
namespace Go.Eng.Tryz
attribute [local go_sem] Aq As Hi FW Hh
theorem bM{u:Nat}(hu:u<100):A3 Tryz.prog 260 [.int .i64 u] (.str ⟨(Lib.decDigits u).toArray⟩):=by
 intro w M vs hW hM hl hv
 match vs,hl with
 | [v],_ =>
 have:=hv 0 _ v rfl rfl;cases this;have L:=Tryz.strcU;have eg:∀args w,(callFunc 260 args).run Tryz.prog w= .ok (.enter 260 args) w:=enters_of Tryz.func260 (by kernel_rfl) rfl;have h:=Any.internal_strconv_small (P:=Tryz.prog) (ρ:=Tryz.strcU_ren) { L with } u hu w;refine .inr ⟨eg _ _,?_⟩;refine Calls.mono (P:=Tryz.prog) h ?_;rintro e w' ⟨rfl,rfl⟩;exact⟨_,rfl,.str _,Bl.refl _ _⟩
theorem dD{u:Nat}(h1:1≤u)(hu:u<18446744073709551616):A3 Tryz.prog 261 [.int .u64 u] (.int .i64 (Lib.nDigits u)):=by
 intro w M vs hW hM hl hv
 match vs,hl with
 | [v],_ =>
 have:=hv 0 _ v rfl rfl;cases this;have L:=Tryz.strcU;have eg:∀args w,(callFunc 261 args).run Tryz.prog w= .ok (.enter 261 args) w:=enters_of Tryz.func261 (by kernel_rfl) rfl;have h:=Any.internal_strconv_numDigits (P:=Tryz.prog) (ρ:=Tryz.strcU_ren) { L with } u h1 hu w hW;refine .inr ⟨eg _ _,?_⟩;refine Calls.mono (P:=Tryz.prog) h ?_;rintro e w' ⟨rfl,rfl⟩;exact⟨_,rfl,.int _ _,Bl.refl _ _⟩
def BI(u:Nat):List Int:=(Lib.decDigits u).map fun b=>(b.toNat:Int)
def zc(n:Nat):List AV:=List.replicate n (.d (.int .u8 0))
def Hg(l:List Int):List AV:=l.map fun z=>.d (.int .u8 z)
theorem Od{α:Type}[Inhabited α](enc:α→Value)(w:World)(b:Nat)(d:Array α){cells:Array Value}{e:TypeId}(hg:w.heap[b]? =some (.cells cells e (0,0))):Sort.putRow enc w b 0 d=w.setRow b (Sort.putCells enc 0 d cells):=by
 unfold Sort.putRow Sort.mapBlock World.setRow;congr 1;apply Array.ext_getElem?;intro i;simp only[Array.getElem?_modify];split
 ·rename_i h;subst h;rw[hg];rfl
 ·rfl
theorem JA{u:Nat}(h1:1≤u)(hu:u<18446744073709551616):Lib.nDigits u≤20:=by have:=Lib.numDigits_eq u h1 hu;split at this<;>omega
theorem eT{u:Nat}(h1:1≤u)(hu:u<18446744073709551616):Ai Tryz.prog 262 [.vs 0 0 (Lib.nDigits u),.d (.int .u64 u)] [(0,.var (zc 24))] (.tup []) [(0,.var (Hg (BI u)++zc (24-Lib.nDigits u)))] 1:=by
 have hnd:=JA h1 hu;have hdl:=Lib.decDigits_length u;intro X ν w vs hI hl hv
 match vs,hl with
 | [v0,v1],_ =>
 have r0:=hv 0 _ v0 rfl rfl;have r1:=hv 1 _ v1 rfl rfl;have ho:lk [(0,HO.var (zc 24))] 0=some (.var (zc 24)):=rfl;cases r1 with
 |d r1 =>
 cases r1;cases r0 with
 | @vs _ _ _ c a hu0 hc h =>
 obtain⟨cs,b,he,hν,rfl,hle⟩:=h _ ho;cases he;obtain⟨b',cells,e,hv0,hg,hlen,hcell,hr⟩:=hI.obj _ _ ho;rw[hν]at hv0;cases hv0;have hcs:cells.size=24:=by simpa[zc]using hlen
 have hcv:∀j,j<24→cells[j]? =some (.int .u8 0):=fun j hj=>by
  have hx:(zc 24)[j]? =some (.d (.int .u8 0)):=by unfold zc;rw[List.getElem?_replicate,if_pos hj]
  have hy:=Array.getElem?_eq_getElem (xs:=cells) (i:=j) (by omega);have hr':=hr j _ _ hx hy;generalize cells[j]=u' at hy hr';cases hr' with
  |d hr'=>cases hr';exact hy
 let enc:UInt8→Value:=fun b=>.int .u8 (b.toNat:Int)
 have hH:Sort.Holds enc w b 0 (Array.replicate (Lib.nDigits u) 0):=fun j hj=>by
  rw[Array.size_replicate]at hj;refine⟨?_,by simp[World.frozen?,hg]⟩;have e1:(Array.replicate (Lib.nDigits u) (0:UInt8))[j]! =0:=by rw[getElem!_pos _ j (by simpa using hj)];simp
  rw[e1];have:=hcv j (by omega);have h2:=JR hg this 0 j (by omega);have e3:(⟨b,0+j,none⟩:Addr)=(⟨b,0,none⟩:Addr).add j:=by unfold Addr.add;by_cases h:j=0<;>simp[h]
  rw[e3,h2];rfl
 have L:=Tryz.strcU;have eg:∀args w,(callFunc 262 args).run Tryz.prog w= .ok (.enter 262 args) w:=enters_of Tryz.func262 (by kernel_rfl) rfl;have hcon:=Any.internal_strconv_formatBase10 (P:=Tryz.prog) (ρ:=Tryz.strcU_ren) { L with } b 0 c u (Array.replicate (Lib.nDigits u) 0) w hH (by rw[Array.size_replicate];exact Lib.lt_pow_nDigits u) hu (by rw[Array.size_replicate];omega);rw[Array.size_replicate]at hcon;refine⟨eg _ _,?_⟩;refine Calls.mono (P:=Tryz.prog) hcon ?_;rintro ex w' ⟨rfl,n,v',dk,rfl,hF⟩;rw[Od enc w b dk hg];have hb:AL (ν 0) b:=by rw[hν];exact rfl
 have hsz:=hF.size;obtain⟨g1,g2⟩:=hI.write (o':=.var (Hg (BI u)++zc (24-Lib.nDigits u))) ho hb (Sort.putCells enc 0 dk cells) (by simp[HO.later,zc,Hg,BI];omega)
  (fun M' H' hx'=>by
    refine⟨b,Sort.putCells enc 0 dk cells,e,hν,setRow_heap _ _ _ _ _ _ hg,by simp[Sort.putCells,zc,Hg,BI];omega,fun q hq=>?_,fun i av u' hi hu'=>?_⟩
    ·simp only[List.mem_append,Hg,zc,List.mem_map]at hq;rcases hq with⟨z,_,rfl⟩|hq
     ·rfl
     ·rw[List.eq_of_mem_replicate hq];rfl
    ·simp only[Sort.putCells,Array.getElem?_mapIdx]at hu';by_cases hin:i<Lib.nDigits u
     ·rw[List.getElem?_append_left (by simp[Hg,BI];omega)]at hi;simp only[Hg,BI,List.map_map,List.getElem?_map]at hi;rw[List.getElem?_eq_getElem (by omega:i<(Lib.decDigits u).length)]at hi;simp only[Option.map_some,Option.some.injEq,Function.comp]at hi;subst hi;rw[hcv i (by omega)]at hu';simp only[Option.map_some,Option.some.injEq]at hu';rw[if_pos (by omega)]at hu';subst hu';have:=Lib.row_is_numeral hF i (by omega);rw[Nat.sub_zero];show A5 _ _ _ _ _ _ (Value.int .u8 ((dk[i]!).toNat:Int));rw[← this];exact .d (.int _ _)
     ·rw[List.getElem?_append_right (by simp[Hg,BI];omega)]at hi;have hl24:=(List.getElem?_eq_some_iff.1 hi).1;simp[zc,Hg,BI]at hl24;have:=List.mem_of_getElem? hi;rw[List.eq_of_mem_replicate this];rw[hcv i (by omega)]at hu';simp only[Option.map_some,Option.some.injEq]at hu';rw[if_neg (by omega)]at hu';subst hu';exact .d (.int _ _))
 have hbl:Bl (w.setRow b (Sort.putCells enc 0 dk cells)).heap.size (w.setRow b (Sort.putCells enc 0 dk cells)) ((w.setRow b (Sort.putCells enc 0 dk cells)).drewN n):=by
  clear g1 g2;induction n with
  |zero=>exact Bl.refl _ _
  |succ n ih=>exact ih.drew
 obtain⟨i1,x1⟩:=g1.world hbl;refine⟨.tuple #[],ν,1,rfl,i1,g2.trans x1,.tup rfl (fun i d v hd=>by simp at hd)⟩
theorem XA(u:Nat):NJ ⟨(Lib.decDigits u).toArray⟩=FP (BI u):=by simp[NJ,FP,BI,List.map_map,Function.comp_def]
theorem QT(u:Nat):(BI u).length=(Lib.decDigits u).length:=by simp[BI]
theorem Iz{u:Nat}(hu:u<18446744073709551616):1≤(BI u).length∧(BI u).length≤20:=by
 rw[QT,Lib.decDigits_length];by_cases h:1≤u
 ·have:=JA h hu;have h2:=Lib.decDigits_length u;refine⟨?_,this⟩;rw[← h2];unfold Lib.decDigits;split<;>simp
 ·have:u=0:=by omega
  subst this;rw[← Lib.decDigits_length];have:Lib.decDigits 0=[48]:=by unfold Lib.decDigits;rfl
  rw[this];decide
theorem XB(u:Nat):(⟨(Lib.decDigits u).toArray⟩:ByteArray).size=(BI u).length:=by simp[BI,ByteArray.size]
theorem Lo:∀(l:List Int),BX (Hg l)=some (FP l)
 | []=>rfl
 |z::l=>by simp only[Hg,List.map_cons,BX];have:=Lo l;simp only[Hg]at this;rw[this];rfl
def dz(u i:Nat):Int:=if i<Lib.nDigits u then(((Lib.decDigits u)[i]!).toNat:Int)else 0
def dl(u:Nat):List AV:=[.d (.int .u8 (dz u 0)),.d (.int .u8 (dz u 1)),.d (.int .u8 (dz u 2)),.d (.int .u8 (dz u 3)),.d (.int .u8 (dz u 4)),.d (.int .u8 (dz u 5)),.d (.int .u8 (dz u 6)),.d (.int .u8 (dz u 7)),.d (.int .u8 (dz u 8)),.d (.int .u8 (dz u 9)),.d (.int .u8 (dz u 10)),.d (.int .u8 (dz u 11)),.d (.int .u8 (dz u 12)),.d (.int .u8 (dz u 13)),.d (.int .u8 (dz u 14)),.d (.int .u8 (dz u 15)),.d (.int .u8 (dz u 16)),.d (.int .u8 (dz u 17)),.d (.int .u8 (dz u 18)),.d (.int .u8 (dz u 19)),.d (.int .u8 (dz u 20)),.d (.int .u8 (dz u 21)),.d (.int .u8 (dz u 22)),.d (.int .u8 (dz u 23))]
theorem Wn(u:Nat):dl u=(List.range 24).map fun i=>.d (.int .u8 (dz u i)):=rfl
theorem bY(σ:Nat→Nat)(u:Nat):NS σ (dl u)=dl u:=rfl
attribute [local go_sem] bY
theorem ZO{u:Nat}(hnd:Lib.nDigits u≤20):Hg (BI u)++zc (24-Lib.nDigits u)=dl u:=by
 have hdl:=Lib.decDigits_length u;rw[Wn];apply List.ext_getElem
 ·simp[Hg,BI,zc];omega
 ·intro i h1 h2;simp only[List.length_map,List.length_range]at h2;rw[List.getElem_map,List.getElem_range];unfold dz;by_cases h:i<Lib.nDigits u
  ·rw[List.getElem_append_left (by simp[Hg,BI];omega),if_pos h,getElem!_pos _ i (by omega)];simp[Hg,BI]
  ·rw[List.getElem_append_right (by simp[Hg,BI];omega),if_neg h];simp[zc]
theorem ZV{b:List Int}{u:Nat}(hu:u<18446744073709551616)(hb:b.length≤1000000):Ai Tryz.prog 228 [.own 0 b.length,.d (.int .u64 u),.d (.int .i64 10)] [(0,.row 5 1 (FP b))] (.own 0 (b.length+(BI u).length)) [(0,.row 5 1 (FP (b++BI u)))] 1:=by
 obtain⟨hd1,hd2⟩:=Iz hu;have hss:=XB u;by_cases h:u<100
 ·have c:=bM h;have e1:IntKind.i64.wrap (u:Int)=u:=by simp[IntKind.wrap,IntKind.bits,IntKind.signed];omega
  have hsd:List.map (fun b:UInt8=>D.int .u8 (b.toNat:Int)) (⟨(Lib.decDigits u).toArray⟩:ByteArray).data.toList=FP (BI u):=XA u;have hsl:(⟨(Lib.decDigits u).toArray⟩:ByteArray).data.toList.length=(BI u).length:=by simp[BI]
  generalize(⟨(Lib.decDigits u).toArray⟩:ByteArray)=st at c hss hsd hsl;refine Bo 36 [0] Tryz.func228 BS fun X_ ν_ w_=>?_;have c0_:=c;refine Au (And.intro @e1 (And.intro @hss (And.intro @hsd @hsl))) ?_;try exact trivial
 ·have c1:=dD (u:=u) (by omega) hu;have c2:=eT (u:=u) (by omega) hu;have hnd:=JA (u:=u) (by omega) hu;have hdn:(BI u).length=Lib.nDigits u:=by rw[QT,Lib.decDigits_length]
  rw[ZO hnd]at c2;have e3:BX ((dl u).take (BI u).length)=some (FP (BI u)):=by
   rw[← ZO hnd,List.take_append_of_le_length (by simp[Hg]),List.take_of_length_le (by simp[Hg]),Lo]
  have e4:(dl u).length=24:=rfl;have e5:(FP (BI u)).all D.flat=true:=by rw[List.all_eq_true];intro x hx;obtain⟨z,_,rfl⟩:=List.mem_map.1 hx;rfl
  rw[← hdn]at c1 c2 hnd;refine Bo 36 [0] Tryz.func228 BS fun X_ ν_ w_=>?_;have c0_:=c1;have c1_:=c2;repeat (first|with_reducible exact Ev.nil|with_reducible exact E2|((with_reducible apply Cw);rfl)|((with_reducible apply AJ);rfl)|((with_reducible apply BH);rfl)|with_reducible apply BE|with_reducible apply Bu|with_reducible apply B5|((with_reducible apply DX (N:=36) rfl rfl);(focus simp only[Nat.reduceAdd]<;>rfl))|((with_reducible apply DV (N:=36) mixed rfl rfl);(focus simp only[Nat.reduceAdd]<;>rfl))|((with_reducible apply DU);(focus first|(apply BK;(focus rfl);rfl)|(apply BJ;(focus rfl);(focus rfl);rfl)))|((with_reducible apply Ct);(focus first|(apply BK;(focus rfl);rfl)|(apply BJ;(focus rfl);(focus rfl);rfl)))|with_reducible apply E3|with_reducible apply Cn|with_reducible apply Ck|with_reducible apply Cm|with_reducible apply Cj|((first|(with_reducible apply Cs)|(with_reducible apply By));(focus rfl))|((first|(with_reducible apply Cr)|(with_reducible apply Bx));(focus rfl))|(apply EG;(focus simp(disch:=omega)only[go_sem,e3,e4,e5,List.drop_zero]<;>rfl);(focus first|exact c0_|exact c1_);(focus rfl);(focus first|(simp(disch:=omega)only[go_sem,e3,e4,e5,List.drop_zero]<;>rfl)|rfl))|((with_reducible apply D5);(focus simp only[Nat.reduceAdd]<;>rfl);(focus simp(disch:=omega)only[go_sem,e3,e4,e5,List.drop_zero]<;>rfl))|(apply EH;(focus rfl);(focus simp(disch:=omega)only[go_sem,e3,e4,e5,List.drop_zero]<;>rfl);(focus first|exact c0_|exact c1_);(iterate 3 (focus first|(simp(disch:=omega)only[go_sem,e3,e4,e5,List.drop_zero]<;>rfl)|rfl)))|((first|apply Dc|apply Dd);(focus simp only[Nat.reduceAdd]<;>rfl);(focus rfl);(iterate 2 (focus simp(disch:=omega)only[go_sem,e3,e4,e5,List.drop_zero]<;>rfl));(first|((focus first|exact c0_|exact c1_);(iterate 2 (focus first|(simp(disch:=omega)only[go_sem,e3,e4,e5,List.drop_zero]<;>rfl)|rfl));(focus rfl);(iterate 3 (focus first|(simp(disch:=omega)only[go_sem,e3,e4,e5,List.drop_zero]<;>rfl)|rfl)))))|((first|(with_reducible apply Cp)|(with_reducible apply Cq));(focus simp only[Nat.reduceAdd]<;>rfl);(focus simp(disch:=omega)only[go_sem,e3,e4,e5,List.drop_zero]<;>rfl);(focus first|(simp(disch:=omega)only[go_sem,e3,e4,e5,List.drop_zero]<;>rfl)|rfl))|with_reducible apply BA|with_reducible apply BB|with_reducible apply BF|with_reducible apply BG|with_reducible apply B7|with_reducible apply B8|with_reducible apply B9|with_reducible apply Ba rfl|with_reducible apply Bd|with_reducible apply Be|with_reducible apply Bf|with_reducible apply Cu|with_reducible apply Cv|with_reducible apply AG|with_reducible apply B4|with_reducible apply Bz|with_reducible apply AH|with_reducible apply AI|((with_reducible apply DY);(focus first|(simp(disch:=omega)only[go_sem,e3,e4,e5,List.drop_zero]<;>rfl)|rfl))|((with_reducible apply DW);(focus first|(simp(disch:=omega)only[go_sem,e3,e4,e5,List.drop_zero]<;>rfl)|rfl))|((with_reducible apply BD);(focus rfl))|((with_reducible apply BC);(focus rfl);(focus rfl))|(with_reducible rfl)|((with_reducible show List.map Ad _=_);simp only[List.map_cons,List.map_nil,Ad,C5];rfl)|((with_reducible show AM _ _=true);kernel_rfl)|((with_reducible show _=_);simp(disch:=omega)only[go_sem,e3,e4,e5,List.drop_zero]<;>rfl)|((fail_if_success (with_reducible show Ev _ _ _ _ (_::_) _ _ _ _ _));(show Ev _ _ _ _ (_::_) _ _ _ _ _))|fail)
theorem U8{b:List Int}{z:Nat}(hz:z≤9223372036854775807)(hb:b.length≤1000000):Ai Tryz.prog 133 [.own 0 b.length,.d (.int .i64 z),.d (.int .i64 10)] [(0,.row 5 1 (FP b))] (.own 0 (b.length+(BI z).length)) [(0,.row 5 1 (FP (b++BI z)))] 1:=by
 have e1:IntKind.u64.wrap (z:Int)=z:=by simp[IntKind.wrap,IntKind.bits,IntKind.signed];omega
 have c:=ZV (b:=b) (u:=z) (by omega) hb;have c2:Ai Tryz.prog 196 [.own 0 b.length,.d (.int .i64 z),.d (.int .i64 10)] [(0,.row 5 1 (FP b))] (.own 0 (b.length+(BI z).length)) [(0,.row 5 1 (FP (b++BI z)))] 1:=by
  refine Bo 21 [0] Tryz.func196 BS fun X_ ν_ w_=>?_;have c0_:=c;refine Au @e1 ?_;try exact trivial
 refine Bo 11 [0] Tryz.func133 BS fun X_ ν_ w_=>?_;have c0_:=c2;refine Ao ?_;try exact trivial
theorem X6{z:Nat}(hz:z≤9223372036854775807):Ai Tryz.prog 133 [.d .nils,.d (.int .i64 z),.d (.int .i64 10)] [] (.own 3000 (BI z).length) [(3000,.row 5 1 (FP (BI z)))] 0:=by
 have e1:IntKind.u64.wrap (z:Int)=z:=by simp[IntKind.wrap,IntKind.bits,IntKind.signed];omega
 have c:=ZV (b:=[]) (u:=z) (by omega) (by decide);have c2:Ai Tryz.prog 196 [.own 0 0,.d (.int .i64 z),.d (.int .i64 10)] [(0,.row 5 1 (FP []))] (.own 0 (BI z).length) [(0,.row 5 1 (FP (BI z)))] 1:=by
  rw[List.nil_append,List.length_nil,Nat.zero_add]at c;refine Bo 21 [0] Tryz.func196 BS fun X_ ν_ w_=>?_;have c0_:=c;refine Au @e1 ?_;try exact trivial
 refine Bo 11 [3000] Tryz.func133 BS fun X_ ν_ w_=>?_;refine Jk 0 3000 5 1 rfl (by decide) (Nat.le_of_ble_eq_true rfl) ?_;have c0_:=c2;refine Ao ?_;try exact trivial
end Go.Eng.Tryz
namespace Go.Eng.Tryz
attribute [local go_sem] Aq As Bb Bh Da Hi FW Hh
theorem WA{l:List (List Int)}{k:Nat}:(CI l).take k=CI (l.take k):=by simp[CI,List.map_take]
theorem YI{l:List (List Int)}{k:Nat}{w:List Int}:(CI l).set k (.sl 1 (is w))=CI (l.set k w):=by simp[CI,List.map_set]
theorem V5{l:List (List Int)}{i j:Nat}{v:List Int}(h:i<l.length):(l.set i v)[j]! =if j=i then v else l[j]! :=by
 by_cases e:j=i
 ·subst e;rw[if_pos rfl];simp[List.getElem!_eq_getElem?_getD,List.getElem?_set_self h]
 ·rw[if_neg e];simp[List.getElem!_eq_getElem?_getD,List.getElem?_set_ne (fun h=>e h.symm)]
def BT(l:List (List Int)):List (List Int):=l.mergeSort fun a b=>decide (¬Ae b a<0)
theorem Dl(l:List (List Int)):(BT l).Perm l:=List.mergeSort_perm _ _
theorem Iq(l:List (List Int)):(BT l).Pairwise (fun a b=>¬Ae b a<0):=by
 have:=List.pairwise_mergeSort (le:=fun a b=>decide (¬Ae b a<0)) (fun a b c h1 h2=>by
  simp only[decide_eq_true_eq]at h1 h2 ⊢;intro h;have:=CA a b c (by have:=AD a b;omega) (by have:=AD b c;omega);have:=AD a c;omega) (fun a b=>by
  simp only[Bool.or_eq_true,decide_eq_true_eq];have:=AD a b;omega) l
 exact this.imp fun{a b} h=>by simpa using h
theorem Ip(l:List (List Int)):(BT l).length=l.length:=(Dl l).length_eq
theorem Xv{l:List (List Int)}(h:l.Pairwise (fun a b=>¬Ae b a<0))(hd:∀j,j+1<l.length→l[j+1]!≠l[j]!):BQ l:=by
 have h1:∀j,j+1<l.length→Ae (l[j]!) (l[j+1]!)<0:=fun j hj=>by
  have a1:=List.pairwise_iff_getElem.1 h j (j+1) (by omega) hj (by omega);rw[← getElem!_pos l j (by omega),← getElem!_pos l (j+1) hj]at a1;have a2:=AD (l[j]!) (l[j+1]!);have a3:Ae (l[j]!) (l[j+1]!)≠0:=fun e=>hd j hj ((Cf _ _).1 e).symm;omega
 unfold BQ;rw[List.pairwise_iff_getElem];intro i j hi hj hij;have h2:∀d,i+d+1<l.length→Ae (l[i]!) (l[i+d+1]!)<0:=fun d=>by
  induction d with
  |zero=>exact h1 i
  |succ d ih =>
   intro hd;have:=ih (by omega);have:=h1 (i+d+1) (by omega);exact D4 ‹Ae (l[i]!) (l[i+d+1]!)<0› (by rw[show i+(d+1)+1=i+d+1+1 by omega];omega)
 have:=h2 (j-i-1) (by omega);rw[show i+(j-i-1)+1=j by omega,getElem!_pos l i hi,getElem!_pos l j hj]at this;exact this
def TO(l:List (List Int))(d j:Nat)(s:List (List Int)×Nat):List (List Int)×Nat:=if l[d+j+1]! =l[d+j]! then s else(s.1.set s.2 (l[d+j+1]!),s.2+1)
def KL(l:List (List Int))(d j:Nat):List (List Int)×Nat:=(List.range j).foldl (fun s j=>TO l d j s) (l,d)
theorem Ov(l:List (List Int))(d j:Nat):KL l d (j+1)=TO l d j (KL l d j):=by simp[KL,List.range_succ]
theorem QP(l:List (List Int))(d:Nat):∀j,d+j+1≤l.length→(KL l d j).1.length=l.length∧d≤(KL l d j).2∧(KL l d j).2≤d+j∧∀q,d+j≤q→(KL l d j).1[q]! =l[q]! :=by
 intro j;induction j with
 |zero=>intro _;exact⟨rfl,Nat.le_refl _,Nat.le_refl _,fun q _=>rfl⟩
 |succ j ih =>
  intro hj;obtain⟨h1,h2,h3,h4⟩:=ih (by omega);rw[Ov];unfold TO;split
  ·exact⟨h1,h2,by omega,fun q hq=>h4 q (by omega)⟩
  ·refine⟨by simp[h1],by simp only;omega,by simp only;omega,fun q hq=>?_⟩;simp only;rw[V5 (by omega),if_neg (by omega)];exact h4 q (by omega)
attribute [local go_sem] YI
theorem Vv{l:List (List Int)}(hl:Gd l)(hmax:l.length≤1000000){d:Nat}(hd0:d+1<l.length)(hd:l[d+1]! =l[d]!)(hlt:∀j,j<d→l[j+1]!≠l[j]!) :
 ∃L:List (List Int),L.length<l.length∧Ai Tryz.prog 147 [.own 0 l.length,.d (.fn 148)] [(0,.row 57 1 (CI l))] (.own 612002 L.length) [(612002,.row 57 1 (CI L))] 1:=by
 obtain⟨n,hn⟩:∃n,l.length=d+2+n:=⟨l.length-d-2,by omega⟩
 have hfin:=QP l (d+1) n (by omega);refine⟨(KL l (d+1) n).1.take (KL l (d+1) n).2,by simp;omega,?_⟩;have hlen:=hl.1;refine Bo 66 [612002] Tryz.func147 Bm fun X_ ν_ w_=>?_;have h2:¬l.length<2:=by omega
 refine Ao ?_;try exact trivial
 refine A8 (fun k:Nat=>1≤k∧k≤d+1) (fun k=>[(0,.own 0 l.length),(1,.d (.fn 148)),(5,.d (.int .i64 k))]) (fun _=>[(0,.row 57 1 (CI l))]) 600000 (fun k=>l.length-k) [0,1,5] [0] 1 ⟨Nat.le_refl _,by omega⟩ rfl rfl (Nat.le_of_ble_eq_true rfl) (fun _ _=>rfl) (fun _ _=>rfl) fun k hk=>?_;obtain⟨hk1,hk2⟩:=hk;obtain⟨m,rfl⟩:∃m,k=m+1:=⟨k-1,by omega⟩
 have em:((m+1:Nat):Int)-1=m:=by omega
 have c:=br (hl.get (k:=m+1) (by omega)) (hl.get (k:=m) (by omega));have hml:m+1<l.length:=by omega
 by_cases hk3:m<d
 ·have h2:decide (l[m+1]! =l[m]!)=false:=decide_eq_false (hlt m hk3);rw[h2]at c;have c0_:=c;refine Au @em ?_;try exact trivial
  refine⟨m+1+1,⟨by omega,by omega⟩,?_,?_,by omega⟩
  ·exact Ei
  ·exact GL
 ·have hmd:m=d:=by omega
  subst hmd;have h2:decide (l[m+1]! =l[m]!)=true:=decide_eq_true hd;rw[h2]at c;have c0_:=c;refine Au @em ?_;try exact trivial
  have eb:((l.length:Int)-((m:Int)+1))=((n+1:Nat):Int):=by omega
  refine A8 (fun j:Nat=>j≤n) (fun j=>[(0,.own 0 l.length),(1,.d (.fn 148)),(5,.d (.int .i64 (KL l (m+1) j).2)),(6,.rv 0 l.length (m+1) (l.length-(m+1)) 1),(7,.d (.int .i64 ((j:Int)+1)))]) (fun j=>[(0,.row 57 1 (CI (KL l (m+1) j).1))]) 610000 (fun j=>n-j) [0,1,5,6,7] [0] 0 (Nat.zero_le _) rfl rfl (Nat.le_of_ble_eq_true rfl) (fun _ _=>rfl) (fun _ _=>rfl) fun j hj=>?_;obtain⟨i1,i2,i3,i4⟩:=QP l (m+1) j (by omega);by_cases hj3:j<n
  ·have hst:=Ov l (m+1) j;unfold TO at hst;generalize KL l (m+1) j=S at i1 i2 i3 i4 hst ⊢;obtain⟨R,k⟩:=S;simp only at i1 i2 i3 i4 hst ⊢;have et:((j:Int)+1).toNat=j+1:=by omega
   have eu:(j:Int)+1-1=(j:Int):=by omega
   have ea:m+1+(j+1)=m+1+j+1:=by omega
   have r1:R[m+1+j+1]! =l[m+1+j+1]! :=i4 _ (by omega);have r2:R[m+1+j]! =l[m+1+j]! :=i4 _ (by omega);have c:=br (hl.get (k:=m+1+j+1) (by omega)) (hl.get (k:=m+1+j) (by omega));by_cases he:l[m+1+j+1]! =l[m+1+j]!
   ·rw[decide_eq_true he]at c;rw[if_pos he]at hst;have c0_:=c;refine Au (And.intro @ea (And.intro @et (And.intro @eu (And.intro @r1 (And.intro @r2 (And.intro @i1 @Int.toNat_natCast)))))) ?_;try exact trivial
    refine⟨j+1,by omega,?_,?_,by omega⟩
    ·exact Sf @hst
    ·exact Hq @hst
   ·rw[decide_eq_false he]at c;rw[if_neg he]at hst;have c0_:=c;refine Au (And.intro @ea (And.intro @et (And.intro @eu (And.intro @r1 (And.intro @r2 (And.intro @i1 @Int.toNat_natCast)))))) ?_;try exact trivial
    refine⟨j+1,by omega,?_,?_,by omega⟩
    ·exact Sf @hst
    ·exact Hq @hst
  ·have hjn:j=n:=by omega
   subst hjn;generalize KL l (m+1) j=S at i1 i2 i3 i4 hfin ⊢;obtain⟨R,k⟩:=S;simp only at i1 i2 i3 i4 hfin ⊢;have e1:min k l.length=k:=by omega
   have e2:k+(l.length-k)=l.length:=by omega
   have e3:List.take k (List.take k (CI R)++List.replicate (l.length-k) D.nils)=CI (R.take k):=by
    rw[List.take_append_of_le_length (by simp[CI];omega),List.take_take,Nat.min_self,WA]
   have e4:(List.take k R).length=k:=by simp;omega
   rw[e4];repeat (first|with_reducible exact Ev.nil|with_reducible exact E2|((with_reducible apply Cw);rfl)|((with_reducible apply AJ);rfl)|((with_reducible apply BH);rfl)|with_reducible apply BE|with_reducible apply Bu|with_reducible apply B5|((with_reducible apply DX (N:=66) rfl rfl);(focus simp only[Nat.reduceAdd]<;>rfl))|((with_reducible apply DV (N:=66) mixed rfl rfl);(focus simp only[Nat.reduceAdd]<;>rfl))|((with_reducible apply DU);(focus first|(apply BK;(focus rfl);rfl)|(apply BJ;(focus rfl);(focus rfl);rfl)))|((with_reducible apply Ct);(focus first|(apply BK;(focus rfl);rfl)|(apply BJ;(focus rfl);(focus rfl);rfl)))|with_reducible apply E3|with_reducible apply Cn|with_reducible apply Ck|with_reducible apply Cm|with_reducible apply Cj|((first|(with_reducible apply Cs)|(with_reducible apply By));(focus rfl))|((first|(with_reducible apply Cr)|(with_reducible apply Bx));(focus rfl))|((with_reducible apply D5);(focus simp only[Nat.reduceAdd]<;>rfl);(focus simp(disch:=omega)only[go_sem,i1,e1,e2,e3,List.length_take,List.length_replicate]<;>rfl))|((first|(with_reducible apply Cp)|(with_reducible apply Cq));(focus simp only[Nat.reduceAdd]<;>rfl);(focus simp(disch:=omega)only[go_sem,i1,e1,e2,e3,List.length_take,List.length_replicate]<;>rfl);(focus first|(simp(disch:=omega)only[go_sem,i1,e1,e2,e3,List.length_take,List.length_replicate]<;>rfl)|rfl))|with_reducible apply BA|with_reducible apply BB|with_reducible apply BF|with_reducible apply BG|with_reducible apply B7|with_reducible apply B8|with_reducible apply B9|with_reducible apply Ba rfl|with_reducible apply Bd|with_reducible apply Be|with_reducible apply Bf|with_reducible apply Cu|with_reducible apply Cv|with_reducible apply AG|with_reducible apply B4|with_reducible apply Bz|with_reducible apply AH|with_reducible apply AI|((with_reducible apply DY);(focus first|(simp(disch:=omega)only[go_sem,i1,e1,e2,e3,List.length_take,List.length_replicate]<;>rfl)|rfl))|((with_reducible apply DW);(focus first|(simp(disch:=omega)only[go_sem,i1,e1,e2,e3,List.length_take,List.length_replicate]<;>rfl)|rfl))|((with_reducible apply BD);(focus rfl))|((with_reducible apply BC);(focus rfl);(focus rfl))|(with_reducible rfl)|((with_reducible show List.map Ad _=_);simp only[List.map_cons,List.map_nil,Ad,C5];rfl)|((with_reducible show AM _ _=true);kernel_rfl)|((with_reducible show _=_);simp(disch:=omega)only[go_sem,i1,e1,e2,e3,List.length_take,List.length_replicate]<;>rfl)|((fail_if_success (with_reducible show Ev _ _ _ _ (_::_) _ _ _ _ _));(show Ev _ _ _ _ (_::_) _ _ _ _ _))|fail)
theorem UJ:A3 Tryz.prog 123 [.int .u64 0] (.int .i64 0):=by
 intro w M vs hW hM hl hv
 match vs,hl with
 | [v],_ =>
 have:=hv 0 _ v rfl rfl;cases this;have L:=Tryz.sortWord;have eg:∀args w,(callFunc 123 args).run Tryz.prog w= .ok (.enter 123 args) w:=enters_of Tryz.func123 (by kernel_rfl) rfl;have h:=Any.bits_Len (SlLaysF0.n15.bits (P:=Tryz.prog) (ρ:=Tryz.sortWord_ren) { L with }) (0:Int) w (by decide) (by decide);refine .inr ⟨eg _ _,?_⟩;refine Calls.mono (P:=Tryz.prog) h ?_;rintro e w' ⟨rfl,rfl⟩;exact⟨_,rfl,.int _ _,Bl.refl _ _⟩
theorem ZR:Ai Tryz.prog 233 [.own 0 0,.d (.int .i64 0),.d (.int .i64 0),.d (.fn 146)] [(0,.row 57 1 [])] (.tup []) [(0,.row 57 1 [])] 1:=by
 refine Bo 53 [0] Tryz.func233 DK fun X_ ν_ w_=>?_;refine Ao ?_;try exact trivial
 refine De ?_;refine Ao ?_;try exact trivial
theorem dQ:Ai Tryz.prog 206 [.own 0 0,.d (.int .i64 0),.d (.int .i64 0),.d (.int .i64 0),.d (.fn 146)] [(0,.row 57 1 [])] (.tup []) [(0,.row 57 1 [])] 1:=by
 refine Bo 148 [0] Tryz.func206 Tz fun X_ ν_ w_=>?_;have c0_:=ZR;refine Ao ?_;try exact trivial
 refine De ?_;have c0_:=ZR;refine Ao ?_;try exact trivial
theorem Z6:Ai Tryz.prog 145 [.own 0 0,.d (.fn 146)] [(0,.row 57 1 [])] (.tup []) [(0,.row 57 1 [])] 1:=by
 refine Bo 14 [0] Tryz.func145 Bm fun X_ ν_ w_=>?_;have c0_:=UJ;have c1_:=dQ;refine Ao ?_;try exact trivial
theorem Vu:Ai Tryz.prog 147 [.own 0 0,.d (.fn 148)] [(0,.row 57 1 [])] (.own 0 0) [(0,.row 57 1 [])] 1:=by
 refine Bo 66 [0] Tryz.func147 Bm fun X_ ν_ w_=>?_;refine Ao ?_;try exact trivial
theorem Ud:A3 Tryz.prog 84 [.sl 1 []] (.sl 1 []):=by
 have c1:=Z6;have c2:=Vu;refine A6 25 Tryz.func84 A4 fun X_ w_=>?_;refine Ao ?_;try exact trivial
 refine De ?_;have c0_:=c1;have c1_:=c2;refine Ao ?_;try exact trivial
def Zq(l:List (List Int)):Bool:=(List.range (l.length-1)).all fun j=>decide (Ae (l[j]!) (l[j+1]!)<0)
theorem NH{l:List (List Int)}:Zq l=true↔BQ l:=by
 unfold Zq;rw[List.all_eq_true];constructor
 ·intro h;have h1:∀j,j+1<l.length→Ae (l[j]!) (l[j+1]!)<0:=fun j hj=>by simpa using h j (List.mem_range.2 (by omega))
  unfold BQ;rw[List.pairwise_iff_getElem];intro i j hi hj hij;have h2:∀d,i+d+1<l.length→Ae (l[i]!) (l[i+d+1]!)<0:=fun d=>by
   induction d with
   |zero=>exact h1 i
   |succ d ih =>
    intro hd;have a:=ih (by omega);have b:=h1 (i+d+1) (by omega);exact D4 a (by rw[show i+(d+1)+1=i+d+1+1 by omega];omega)
  have:=h2 (j-i-1) (by omega);rw[show i+(j-i-1)+1=j by omega,getElem!_pos l i hi,getElem!_pos l j hj]at this;exact this
 ·intro h j hj;rw[List.mem_range]at hj;exact decide_eq_true (h.at (by omega) (by omega))
theorem T1{l:List (List Int)}(hl:Gd l){d:Nat}(hd:d+1<l.length)(hc:Ae (l[d+1]!) (l[d]!)<0):A3 Tryz.prog 85 [.sl 1 (CI l),.fn 86] (.bool false):=by
 have hlen:=hl.1;refine A6 25 Tryz.func85 Ah fun X_ w_=>?_;obtain⟨n,hn⟩:∃n,l.length=n+1:=⟨l.length-1,by omega⟩
 have en:(l.length:Int)-1=n:=by omega
 refine Au @en ?_;try exact trivial
 refine A8 (fun k:Nat=>d+1≤k∧k≤n) (fun k=>[(0,.d (.sl 1 (CI l))),(1,.d (.fn 86)),(5,.d (.int .i64 k))]) (fun _=>[]) 0 (fun k=>k) [0,1,5] [] n ⟨by omega,Nat.le_refl _⟩ rfl rfl (Nat.le_refl _) (fun _ _=>rfl) (fun _ _=>rfl) fun k hk=>?_;obtain⟨m,rfl⟩:∃m,k=m+1:=⟨k-1,by omega⟩
 have em:((m+1:Nat):Int)-1=m:=by omega
 have c:=ZW (hl.get (k:=m+1) (by omega)) (hl.get (k:=m) (by omega));by_cases h3:Ae (l[m+1]!) (l[m]!)<0
 ·have c0_:=c;refine Au (And.intro @em @h3) ?_;try exact trivial
 ·have hne:m≠d:=fun e=>h3 (e▸hc);have c0_:=c;refine Au (And.intro @em @h3) ?_;try exact trivial
  refine⟨m,⟨by omega,by omega⟩,?_,rfl,by omega⟩;simp(disch:=omega)only[go_sem,AC,em]
theorem Ra{l:List (List Int)}(h:∃j,j+1<l.length∧l[j+1]! =l[j]!):∃d,d+1<l.length∧l[d+1]! =l[d]!∧∀j,j<d→l[j+1]!≠l[j]! :=by
 obtain⟨j,hj⟩:=h;induction j using Nat.strongRecOn with
 |_ j ih =>
  by_cases h:∃i,i<j∧l[i+1]! =l[i]!
  ·obtain⟨i,h1,h2⟩:=h;exact ih i h1 ⟨by omega,h2⟩
  ·exact⟨j,hj.1,hj.2,fun i hi e=>h ⟨i,hi,e⟩⟩
theorem Xb{l:List (List Int)}(hl:∀w∈l,w.length≤1000000)(hlen:l.length≤1000000)(h0:0<l.length) :
 (BQ (BT l)∧A3 Tryz.prog 84 [.sl 1 (CI l)] (.sl 1 (CI (BT l))))∨(¬BQ (BT l)∧∃L:List (List Int),L.length<l.length∧A3 Tryz.prog 84 [.sl 1 (CI l)] (.sl 1 (CI L))):=by
 have hok:∀w∈l,w.length≤9223372036854775807:=fun w hw=>Nat.le_trans (hl w hw) (by decide);have hsl:=Ip l;have hokS:Gd (BT l):=⟨by omega,fun w hw=>hok w ((Dl l).mem_iff.1 hw)⟩
 have c1:=Xd (xs:=l) (ys:=BT l) hok h0 (by omega) (Dl l) (Iq l);by_cases hs:BQ (BT l)
 ·left;refine⟨hs,?_⟩;have c2:=RJ hokS hs (by omega);rw[hsl]at c2;refine A6 25 Tryz.func84 A4 fun X_ w_=>?_;refine Ao ?_;try exact trivial
  refine A8 (fun k:Nat=>k≤l.length) (fun k=>[(3,.own 1002 (l.take k).length),(9,.d (.sl 1 (CI l))),(10,.d (.int .i64 l.length)),(11,.d (.int .i64 k))]) (fun k=>[(1002,.row 57 1 (CI (l.take k)))]) 1003 (fun k=>l.length-k) [3,9,10,11] [1002] 0 (Nat.zero_le _) rfl rfl (Nat.zero_le _) (fun _ _=>rfl) (fun _ _=>rfl) fun k hk=>?_;have hkl:(l.take k).length=k:=by simp;omega
  by_cases hk3:k<l.length
  ·have hst:=Gw hk3;have cl:=L3 (l:=l[k]!) (by rw[getElem!_pos l k hk3];exact hl _ (List.getElem_mem hk3));have c0_:=cl;refine Au @hkl ?_;try exact trivial
   refine⟨k+1,by omega,?_,?_,by omega⟩
   ·simp(disch:=omega)only[go_sem,AC,Int.natCast_add,Int.cast_ofNat_Int,hst,hkl,List.length_append,List.length_cons,List.length_nil]
   ·exact Hq @hst
  ·have hke:k=l.length:=by omega
   subst hke;rw[List.take_length];have c0_:=c1;have c1_:=c2;refine Au @hsl ?_;try exact trivial
 ·right;refine⟨hs,?_⟩;have hal:∃j,j+1<(BT l).length∧(BT l)[j+1]! =(BT l)[j]! :=by
   refine Classical.byContradiction fun hn=>hs (Xv (Iq l) fun j hj e=>hn ⟨j,hj,e⟩)
  obtain⟨d,d1,d2,d3⟩:=Ra hal;obtain⟨L,hL,c2⟩:=Vv hokS (by omega) d1 d2 d3;rw[hsl]at c2 hL;refine⟨L,hL,?_⟩;refine A6 25 Tryz.func84 A4 fun X_ w_=>?_;refine Ao ?_;try exact trivial
  refine A8 (fun k:Nat=>k≤l.length) (fun k=>[(3,.own 1002 (l.take k).length),(9,.d (.sl 1 (CI l))),(10,.d (.int .i64 l.length)),(11,.d (.int .i64 k))]) (fun k=>[(1002,.row 57 1 (CI (l.take k)))]) 1003 (fun k=>l.length-k) [3,9,10,11] [1002] 0 (Nat.zero_le _) rfl rfl (Nat.zero_le _) (fun _ _=>rfl) (fun _ _=>rfl) fun k hk=>?_;have hkl:(l.take k).length=k:=by simp;omega
  by_cases hk3:k<l.length
  ·have hst:=Gw hk3;have cl:=L3 (l:=l[k]!) (by rw[getElem!_pos l k hk3];exact hl _ (List.getElem_mem hk3));have c0_:=cl;refine Au @hkl ?_;try exact trivial
   refine⟨k+1,by omega,?_,?_,by omega⟩
   ·simp(disch:=omega)only[go_sem,AC,Int.natCast_add,Int.cast_ofNat_Int,hst,hkl,List.length_append,List.length_cons,List.length_nil]
   ·exact Hq @hst
  ·have hke:k=l.length:=by omega
   subst hke;rw[List.take_length];have c0_:=c1;have c1_:=c2;refine Au @hsl ?_;try exact trivial
end Go.Eng.Tryz

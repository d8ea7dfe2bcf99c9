/- Word lists, written: whatever they are. (and what stands behind it: texts laid together) -/
import Derived.Test.YtooblcpmpemhfaaGreatDoorMG4
import Derived.Test.YtooblcpmpemhfaaGreatDoorMR3
import Derived.Shelf.LaysM
import Derived.Test.YtooblcpmpemhfaaGreatDoorProg
import Derived.Shelf.Strconv.AppendUint10
set_option linter.unusedVariables false
set_option linter.unusedSimpArgs false
open Go Go.Eng Go.Proofs Go.RowKit
set_option maxHeartbeats 32000000
set_option maxRecDepth 100000
namespace Go.Eng.Tryz
attribute [local go_sem] Aq As AK AO Bz DS D9 DT
def KQ(a b:Int):Int:=IntKind.u8.wrap ((BitVec.ofInt 8 a ||| BitVec.ofInt 8 b).toNat)
def HD(a b:Int):Int:=IntKind.u8.wrap ((BitVec.ofInt 8 a &&& BitVec.ofInt 8 b).toNat)
def w8(a:Int):Int:=IntKind.u8.wrap a
theorem Tc(a b:Int):Dc .or .u8 a .u8 b=some (.int .u8 (KQ a b)):=rfl
theorem SL(a b:Int):Dc .and .u8 a .u8 b=some (.int .u8 (HD a b)):=rfl
theorem Gv(a:Int):IntKind.u8.wrap a=w8 a:=rfl
theorem TU(a:Int):Dc .shr .i32 a .u64 6=some (.int .i32 (a.fdiv 64)):=rfl
theorem SY(a:Int):Dc .shr .i32 a .u64 12=some (.int .i32 (a.fdiv 4096)):=rfl
theorem SX(a:Int):Dc .shr .i32 a .u64 18=some (.int .i32 (a.fdiv 262144)):=rfl
def CH(z:Int):List Int :=
 if z≤127 then[z]
 else if z≤2047 then[KQ 192 (w8 (z.fdiv 64)),KQ 128 (HD (w8 z) 63)]
 else if z≤65535 then[KQ 224 (w8 (z.fdiv 4096)),KQ 128 (HD (w8 (z.fdiv 64)) 63),KQ 128 (HD (w8 z) 63)]
 else[KQ 240 (w8 (z.fdiv 262144)),KQ 128 (HD (w8 (z.fdiv 4096)) 63),KQ 128 (HD (w8 (z.fdiv 64)) 63),KQ 128 (HD (w8 z) 63)]
theorem NU(z:Int):1≤(CH z).length∧(CH z).length≤4:=by
 unfold CH;by_cases h1:z≤127
 ·rw[if_pos h1];simp
 by_cases h2:z≤2047
 ·rw[if_neg h1,if_pos h2];simp
 by_cases h3:z≤65535
 ·rw[if_neg h1,if_neg h2,if_pos h3];simp
 ·rw[if_neg h1,if_neg h2,if_neg h3];simp
theorem Tq{b:List Int}{x y:Int}:Cu b++[.int .u8 x,.int .u8 y]=Cu (b++[x,y]):=by simp[Cu]
theorem Tp{b:List Int}{x y z:Int}:Cu b++[.int .u8 x,.int .u8 y,.int .u8 z]=Cu (b++[x,y,z]):=by simp[Cu]
theorem To{b:List Int}{x y z t:Int}:Cu b++[.int .u8 x,.int .u8 y,.int .u8 z,.int .u8 t]=Cu (b++[x,y,z,t]):=by simp[Cu]
attribute [local go_sem] Tq Tp To
attribute [local go_sem ↓] Tc SL TU SY SX
attribute [local go_sem] Gv
theorem OT{z:Int}(h0:0≤z)(h1:z≤1114111):IntKind.u32.wrap z=z:=by simp[IntKind.wrap,IntKind.bits,IntKind.signed];omega
theorem QX{b:List Int}{z:Int}(h0:128≤z)(h1:z≤1114111)(h2:z<55296∨57343<z)(hb:b.length≤1000000):Ac Tryz.prog 207 [.own 0 b.length,.d (.int .i32 z)] [(0,.row 5 1 (Cu b))] (.own 0 (b.length+(CH z).length)) [(0,.row 5 1 (Cu (b++CH z)))] 1:=by
 have e1:=OT (z:=z) (by omega) (by omega);have c0:¬z≤127:=by omega
 by_cases c1:z≤2047
 ·have eu:CH z=[KQ 192 (w8 (z.fdiv 64)),KQ 128 (HD (w8 z) 63)]:=by unfold CH;rw[if_neg c0,if_pos c1]
  rw[eu];refine Ac.run (N:=78) (ks:=[0]) Tryz.func207 rfl (by kernel_rfl) rfl rfl rfl (by exact Bb) fun X_ ν_ w_=>?_;refine AI @e1 ?_;try exact trivial
 by_cases c2:z≤65535
 ·have eu:CH z=[KQ 224 (w8 (z.fdiv 4096)),KQ 128 (HD (w8 (z.fdiv 64)) 63),KQ 128 (HD (w8 z) 63)]:=by unfold CH;rw[if_neg c0,if_neg c1,if_pos c2]
  rw[eu];by_cases c3:z<55296
  ·refine Ac.run (N:=78) (ks:=[0]) Tryz.func207 rfl (by kernel_rfl) rfl rfl rfl (by exact Bb) fun X_ ν_ w_=>?_;refine AI @e1 ?_;try exact trivial
  ·have c4:57343<z:=by omega
   refine Ac.run (N:=78) (ks:=[0]) Tryz.func207 rfl (by kernel_rfl) rfl rfl rfl (by exact Bb) fun X_ ν_ w_=>?_;refine AI @e1 ?_;try exact trivial
 ·have eu:CH z=[KQ 240 (w8 (z.fdiv 262144)),KQ 128 (HD (w8 (z.fdiv 4096)) 63),KQ 128 (HD (w8 (z.fdiv 64)) 63),KQ 128 (HD (w8 z) 63)]:=by unfold CH;rw[if_neg c0,if_neg c1,if_neg c2]
  rw[eu];have c3:¬z<55296:=by omega
  have c4:57343<z:=by omega
  refine Ac.run (N:=78) (ks:=[0]) Tryz.func207 rfl (by kernel_rfl) rfl rfl rfl (by exact Bb) fun X_ ν_ w_=>?_;refine AI @e1 ?_;try exact trivial
theorem Ta{b:List Int}{z:Int}(hg:BN z=true)(hb:b.length≤1000000):Ac Tryz.prog 150 [.own 0 b.length,.d (.int .i32 z)] [(0,.row 5 1 (Cu b))] (.own 0 (b.length+(CH z).length)) [(0,.row 5 1 (Cu (b++CH z)))] 1:=by
 have hg2:=of_decide_eq_true hg;obtain⟨g0,g1,g2⟩:=hg2;have e1:=OT (z:=z) g0 g1;by_cases h1:z≤127
 ·have c:=Ph (b:=b) g0 h1 hb;have eu:CH z=[z]:=by unfold CH;rw[if_pos h1]
  rw[eu];exact c
 ·have c:=QX (b:=b) (z:=z) (by omega) g1 g2 hb;refine Ac.run (N:=16) (ks:=[0]) Tryz.func150 rfl (by kernel_rfl) rfl rfl rfl (by exact Bb) fun X_ ν_ w_=>?_;have c0_:=c;refine AI @e1 ?_;try exact trivial
def Gg(w:List Int):List Int:=w.flatMap CH
theorem NS(w:List Int)(z:Int):Gg (w++[z])=Gg w++CH z:=by simp[Gg]
theorem Iv(w:List Int):(Gg w).length≤4 * w.length:=by
 induction w with
 |nil=>simp[Gg]
 |cons x t ih =>
  have:=NU x;simp only[Gg,List.flatMap_cons,List.length_append,List.length_cons]at ih ⊢;omega
theorem T3{w:List Int}(hw:w.all BN=true)(hlen:w.length≤200000):A1 Tryz.prog 87 [.sl 1 (is w)] (.tup [.sl 1 (Cu (Gg w)),.int .i64 0]):=by
 refine A1.run (N:=22) Tryz.func87 rfl (by kernel_rfl) rfl rfl rfl (by exact Ab) fun X_ w_=>?_;repeat ((fail_if_success (with_reducible show WP _ _ (.region 2 _ _) _ _));first|with_reducible exact Ev.nil|with_reducible exact Jy|((with_reducible apply FZ);rfl)|((with_reducible apply C8);rfl)|((with_reducible apply DV);rfl)|with_reducible apply DY|with_reducible apply Ed|with_reducible apply D2|((with_reducible apply JR (N:=22) rfl rfl);(focus simp only[Nat.reduceAdd]<;>rfl))|((with_reducible apply JT (N:=22) mixed rfl rfl);(focus simp only[Nat.reduceAdd]<;>rfl))|((with_reducible apply JU);(focus first|(apply Ex;(focus rfl);rfl)|(apply Ey;(focus rfl);(focus rfl);rfl)))|((with_reducible apply G6);(focus first|(apply Ex;(focus rfl);rfl)|(apply Ey;(focus rfl);(focus rfl);rfl)))|with_reducible apply Jx|with_reducible apply Gc|with_reducible apply Ge|with_reducible apply Gd|with_reducible apply Gf|((first|(with_reducible apply G7)|(with_reducible apply Eg));(focus rfl))|((first|(with_reducible apply G8)|(with_reducible apply Eh));(focus rfl))|((with_reducible apply F3);(focus simp only[Nat.reduceAdd]<;>rfl);(focus simp(disch:=omega)only[go_sem]<;>rfl))|((first|(with_reducible apply Ga)|(with_reducible apply G9));(focus simp only[Nat.reduceAdd]<;>rfl);(focus simp(disch:=omega)only[go_sem]<;>rfl);(focus first|(simp(disch:=omega)only[go_sem]<;>rfl)|rfl))|with_reducible apply Ec|with_reducible apply Eb|with_reducible apply DX|with_reducible apply DW|with_reducible apply D1|with_reducible apply D0|with_reducible apply CZ|with_reducible apply CX rfl|with_reducible apply CV|with_reducible apply CU|with_reducible apply CT|with_reducible apply G3|with_reducible apply G2|with_reducible apply Ce|with_reducible apply D3|with_reducible apply Ee|with_reducible apply Cd|with_reducible apply Cc|((with_reducible apply JQ);(focus first|(simp(disch:=omega)only[go_sem]<;>rfl)|rfl))|((with_reducible apply JS);(focus first|(simp(disch:=omega)only[go_sem]<;>rfl)|rfl))|((with_reducible apply DZ);(focus rfl))|((with_reducible apply E3);(focus rfl);(focus rfl))|(with_reducible rfl)|((with_reducible show List.map AS _=_);simp only[List.map_cons,List.map_nil,AS,C7];rfl)|((with_reducible show By _ _=true);kernel_rfl)|((with_reducible show _=_);simp(disch:=omega)only[go_sem]<;>rfl)|((fail_if_success (with_reducible show Ev _ _ _ _ (_::_) _ _ _ _ _));(show Ev _ _ _ _ (_::_) _ _ _ _ _))|fail)
 refine DJ 4 3000 5 1 rfl (by decide) (Nat.le_of_ble_eq_true rfl) ?_;refine Aw ?_;try exact trivial
 refine A7 (fun k:Nat=>k≤w.length) (fun k=>[(4,.own 3000 (Gg (w.take k)).length),(7,.d (.sl 1 (is w))),(8,.d (.int .i64 w.length)),(9,.d (.int .i64 k))]) (fun k=>[(3000,.row 5 1 (Cu (Gg (w.take k))))]) 3001 (fun k=>w.length-k) [4,7,8,9] [3000] 0 (Nat.zero_le _) rfl rfl (Nat.zero_le _) (fun _ _=>rfl) (fun _ _=>rfl) fun k hk=>?_;have hkl:(w.take k).length=k:=by simp;omega
 have hbl:=Iv (w.take k);by_cases hk3:k<w.length
 ·have hz:=List.all_eq_true.1 hw (w[k]!) (by rw[getElem!_pos w k hk3];exact List.getElem_mem hk3);have cg:=Kx (z:=w[k]!);rw[hz]at cg;have hst:Gg (w.take (k+1))=Gg (w.take k)++CH (w[k]!):=by rw[← NS,Ak hk3]
  have ca:=Ta (b:=Gg (w.take k)) hz (by omega);have e1:IntKind.i32.wrap (w[k]!)=w[k]! :=by
   obtain⟨h0,h1,_⟩:=of_decide_eq_true hz;generalize w[k]! =z at h0 h1 ⊢;simp[IntKind.wrap,IntKind.bits,IntKind.signed];omega
  have c0_:=cg;have c1_:=ca;refine AI @e1 ?_;try exact trivial
  refine⟨k+1,by omega,?_,?_,by omega⟩
  ·simp(disch:=omega)only[go_sem,A2,Int.natCast_add,Int.cast_ofNat_Int,hst,List.length_append]
  ·simp(disch:=omega)only[go_sem,A2,hst]
 ·have hke:k=w.length:=by omega
  subst hke;rw[List.take_length];refine Aw ?_;try exact trivial
def IN(l:List (List Int)):List Int:=l.flatMap fun w=>Gg w++[10]
theorem Oe(l:List (List Int))(w:List Int):IN (l++[w])=IN l++Gg w++[10]:=by simp[IN]
theorem Py(l:List (List Int))(h:∀w∈l,w.length≤20):(IN l).length≤81 * l.length:=by
 induction l with
 |nil=>simp[IN]
 |cons x t ih =>
  have h1:=ih fun w hw=>h w (by simp[hw]);have h2:=h x (by simp);have h3:=Iv x;simp only[IN,List.flatMap_cons,List.length_append,List.length_cons,List.length_nil]at h1 ⊢;omega
end Go.Eng.Tryz
namespace Go.Proofs
open Go.Shelf
def Tryz.strcU_ren:Go.Shelf.Ren:=⟨fun|288=>228|283=>260|284=>261|285=>262|286=>263|129=>190|317=>274|318=>275|319=>276|320=>277|337=>280|338=>281|n=>n,fun|37=>49|53=>33|3=>3|4=>4|9=>9|171=>296|0=>0|173=>298|212=>307|51=>204|5=>5|20=>20|213=>308|46=>176|232=>311|233=>312|n=>n,fun|17=>0|18=>1|19=>2|n=>n⟩
theorem Tryz.strcU:Go.Proofs.LaysM.n288 Tryz.prog Tryz.strcU_ren:={
 mixed:=by kernel_rfl
 f129:=Tryz.func190.trans (congrArg some (by kernel_rfl))
 f283:=Tryz.func260.trans (congrArg some (by kernel_rfl))
 f284:=Tryz.func261.trans (congrArg some (by kernel_rfl))
 f285:=Tryz.func262.trans (congrArg some (by kernel_rfl))
 f286:=Tryz.func263.trans (congrArg some (by kernel_rfl))
 f288:=Tryz.func228.trans (congrArg some (by kernel_rfl))
 f317:=Tryz.func274.trans (congrArg some (by kernel_rfl))
 f318:=Tryz.func275.trans (congrArg some (by kernel_rfl))
 f319:=Tryz.func276.trans (congrArg some (by kernel_rfl))
 f320:=Tryz.func277.trans (congrArg some (by kernel_rfl))
 f337:=Tryz.func280.trans (congrArg some (by kernel_rfl))
 f338:=Tryz.func281.trans (congrArg some (by kernel_rfl))
 t0:=Tryz.underlying0
 a0:=Tryz.isAgg0
 z0:=Tryz.sizeOf0
 v0:=Tryz.zeroValue0
 t3:=Tryz.underlying3
 a3:=Tryz.isAgg3
 z3:=Tryz.sizeOf3
 v3:=Tryz.zeroValue3
 t4:=Tryz.underlying4
 a4:=Tryz.isAgg4
 z4:=Tryz.sizeOf4
 v4:=Tryz.zeroValue4
 t5:=Tryz.underlying5
 a5:=Tryz.isAgg5
 z5:=Tryz.sizeOf5
 v5:=Tryz.zeroValue5
 t9:=Tryz.underlying9
 a9:=Tryz.isAgg9
 z9:=Tryz.sizeOf9
 v9:=Tryz.zeroValue9
 t20:=Tryz.underlying20
 a20:=Tryz.isAgg20
 z20:=Tryz.sizeOf20
 v20:=Tryz.zeroValue20
 t37:=Tryz.underlying49
 a37:=Tryz.isAgg49
 z37:=Tryz.sizeOf49
 v37:=Tryz.zeroValue49
 t46:=Tryz.underlying176
 a46:=Tryz.isAgg176
 z46:=Tryz.sizeOf176
 v46:=Tryz.zeroValue176
 t51:=Tryz.underlying204
 a51:=Tryz.isAgg204
 z51:=Tryz.sizeOf204
 v51:=Tryz.zeroValue204
 t53:=Tryz.underlying33
 a53:=Tryz.isAgg33
 z53:=Tryz.sizeOf33
 v53:=Tryz.zeroValue33
 t171:=Tryz.underlying296
 a171:=Tryz.isAgg296
 z171:=Tryz.sizeOf296
 v171:=Tryz.zeroValue296
 t173:=Tryz.underlying298
 a173:=Tryz.isAgg298
 z173:=Tryz.sizeOf298
 v173:=Tryz.zeroValue298
 t212:=Tryz.underlying307
 a212:=Tryz.isAgg307
 z212:=Tryz.sizeOf307
 v212:=Tryz.zeroValue307
 t213:=Tryz.underlying308
 a213:=Tryz.isAgg308
 z213:=Tryz.sizeOf308
 t232:=Tryz.underlying311
 a232:=Tryz.isAgg311
 z232:=Tryz.sizeOf311
 v232:=Tryz.zeroValue311
 t233:=Tryz.underlying312
 a233:=Tryz.isAgg312
 z233:=Tryz.sizeOf312
 v233:=Tryz.zeroValue312
 g17:=by kernel_rfl
 g18:=by kernel_rfl
 g19:=by kernel_rfl
 i0:=by kernel_rfl
 i3:=by kernel_rfl
 i4:=by kernel_rfl
 i5:=by kernel_rfl
 i9:=by kernel_rfl
 i20:=by kernel_rfl
 i37:=by kernel_rfl
 i46:=by kernel_rfl
 i51:=by kernel_rfl
 i53:=by kernel_rfl
 i171:=by kernel_rfl
 i173:=by kernel_rfl
 i212:=by kernel_rfl
 i232:=by kernel_rfl
 i233:=by kernel_rfl
 m17:=by kernel_rfl
 m18:=by kernel_rfl
 m19:=by kernel_rfl }
end Go.Proofs
namespace Go.Eng.Tryz
attribute [local go_sem] Aq As DS D9 DT
theorem S2{u:Nat}(hu:u<100):A1 Tryz.prog 260 [.int .i64 u] (.str ⟨(Lib.decDigits u).toArray⟩):=by
 intro w M vs hW hM hl hv
 match vs,hl with
 | [v],_ =>
 have:=hv 0 _ v rfl rfl;cases this;have L:=Tryz.strcU;have eg:∀args w,(callFunc 260 args).run Tryz.prog w= .ok (.enter 260 args) w:=enters_of Tryz.func260 (by kernel_rfl) rfl;have h:=Any.internal_strconv_small (P:=Tryz.prog) (ρ:=Tryz.strcU_ren) { L with } u hu w;refine .inr ⟨eg _ _,?_⟩;refine Calls.mono (P:=Tryz.prog) h ?_;rintro e w' ⟨rfl,rfl⟩;exact⟨_,rfl,.str _,Bl.refl _ _⟩
theorem T4{u:Nat}(h1:1≤u)(hu:u<18446744073709551616):A1 Tryz.prog 261 [.int .u64 u] (.int .i64 (Lib.nDigits u)):=by
 intro w M vs hW hM hl hv
 match vs,hl with
 | [v],_ =>
 have:=hv 0 _ v rfl rfl;cases this;have L:=Tryz.strcU;have eg:∀args w,(callFunc 261 args).run Tryz.prog w= .ok (.enter 261 args) w:=enters_of Tryz.func261 (by kernel_rfl) rfl;have h:=Any.internal_strconv_numDigits (P:=Tryz.prog) (ρ:=Tryz.strcU_ren) { L with } u h1 hu w hW;refine .inr ⟨eg _ _,?_⟩;refine Calls.mono (P:=Tryz.prog) h ?_;rintro e w' ⟨rfl,rfl⟩;exact⟨_,rfl,.int _ _,Bl.refl _ _⟩
def AQ(u:Nat):List Int:=(Lib.decDigits u).map fun b=>(b.toNat:Int)
def zc(n:Nat):List AV:=List.replicate n (.d (.int .u8 0))
def ER(l:List Int):List AV:=l.map fun z=>.d (.int .u8 z)
theorem Jv{α:Type}[Inhabited α](enc:α→Value)(w:World)(b:Nat)(d:Array α){cells:Array Value}{e:TypeId}(hg:w.heap[b]? =some (.cells cells e (0,0))):Sort.putRow enc w b 0 d=w.setRow b (Sort.putCells enc 0 d cells):=by
 unfold Sort.putRow Sort.mapBlock World.setRow;congr 1;apply Array.ext_getElem?;intro i;simp only[Array.getElem?_modify];split
 ·rename_i h;subst h;rw[hg];rfl
 ·rfl
theorem Gk{u:Nat}(h1:1≤u)(hu:u<18446744073709551616):Lib.nDigits u≤20:=by have:=Lib.numDigits_eq u h1 hu;split at this<;>omega
theorem TW{u:Nat}(h1:1≤u)(hu:u<18446744073709551616):Ac Tryz.prog 262 [.vs 0 0 (Lib.nDigits u),.d (.int .u64 u)] [(0,.var (zc 24))] (.tup []) [(0,.var (ER (AQ u)++zc (24-Lib.nDigits u)))] 1:=by
 have hnd:=Gk h1 hu;have hdl:=Lib.decDigits_length u;intro X ν w vs hI hl hv
 match vs,hl with
 | [v0,v1],_ =>
 have r0:=hv 0 _ v0 rfl rfl;have r1:=hv 1 _ v1 rfl rfl;have ho:lk [(0,HO.var (zc 24))] 0=some (.var (zc 24)):=rfl;cases r1 with
 |d r1 =>
 cases r1;cases r0 with
 | @vs _ _ _ c a hu0 hc h =>
 obtain⟨cs,b,he,hν,rfl,hle⟩:=h _ ho;cases he;obtain⟨b',cells,e,hv0,hg,hlen,hcell,hr⟩:=hI.obj _ _ ho;rw[hν]at hv0;cases hv0;have hcs:cells.size=24:=by simpa[zc]using hlen
 have hcv:∀j,j<24→cells[j]? =some (.int .u8 0):=fun j hj=>by
  have hx:(zc 24)[j]? =some (.d (.int .u8 0)):=by unfold zc;rw[List.getElem?_replicate,if_pos hj]
  have hy:=Array.getElem?_eq_getElem (xs:=cells) (i:=j) (by omega);have hr':=hr j _ _ hx hy;generalize cells[j]=u' at hy hr';cases hr' with
  |d hr'=>cases hr';exact hy
 let enc:UInt8→Value:=fun b=>.int .u8 (b.toNat:Int)
 have hH:Sort.Holds enc w b 0 (Array.replicate (Lib.nDigits u) 0):=fun j hj=>by
  rw[Array.size_replicate]at hj;refine⟨?_,by simp[World.frozen?,hg]⟩;have e1:(Array.replicate (Lib.nDigits u) (0:UInt8))[j]! =0:=by rw[getElem!_pos _ j (by simpa using hj)];simp
  rw[e1];have:=hcv j (by omega);have h2:=Is hg this 0 j (by omega);have e3:(⟨b,0+j,none⟩:Addr)=(⟨b,0,none⟩:Addr).add j:=by unfold Addr.add;by_cases h:j=0<;>simp[h]
  rw[e3,h2];rfl
 have L:=Tryz.strcU;have eg:∀args w,(callFunc 262 args).run Tryz.prog w= .ok (.enter 262 args) w:=enters_of Tryz.func262 (by kernel_rfl) rfl;have hcon:=Any.internal_strconv_formatBase10 (P:=Tryz.prog) (ρ:=Tryz.strcU_ren) { L with } b 0 c u (Array.replicate (Lib.nDigits u) 0) w hH (by rw[Array.size_replicate];exact Lib.lt_pow_nDigits u) hu (by rw[Array.size_replicate];omega);rw[Array.size_replicate]at hcon;refine⟨eg _ _,?_⟩;refine Calls.mono (P:=Tryz.prog) hcon ?_;rintro ex w' ⟨rfl,n,v',dk,rfl,hF⟩;rw[Jv enc w b dk hg];have hb:Au (ν 0) b:=by rw[hν];exact rfl
 have hsz:=hF.size;obtain⟨g1,g2⟩:=hI.write (o':=.var (ER (AQ u)++zc (24-Lib.nDigits u))) ho hb (Sort.putCells enc 0 dk cells) (by simp[HO.later,zc,ER,AQ];omega)
  (fun M' H' hx'=>by
    refine⟨b,Sort.putCells enc 0 dk cells,e,hν,setRow_heap _ _ _ _ _ _ hg,by simp[Sort.putCells,zc,ER,AQ];omega,fun q hq=>?_,fun i av u' hi hu'=>?_⟩
    ·simp only[List.mem_append,ER,zc,List.mem_map]at hq;rcases hq with⟨z,_,rfl⟩|hq
     ·rfl
     ·rw[List.eq_of_mem_replicate hq];rfl
    ·simp only[Sort.putCells,Array.getElem?_mapIdx]at hu';by_cases hin:i<Lib.nDigits u
     ·rw[List.getElem?_append_left (by simp[ER,AQ];omega)]at hi;simp only[ER,AQ,List.map_map,List.getElem?_map]at hi;rw[List.getElem?_eq_getElem (by omega:i<(Lib.decDigits u).length)]at hi;simp only[Option.map_some,Option.some.injEq,Function.comp]at hi;subst hi;rw[hcv i (by omega)]at hu';simp only[Option.map_some,Option.some.injEq]at hu';rw[if_pos (by omega)]at hu';subst hu';have:=Lib.row_is_numeral hF i (by omega);rw[Nat.sub_zero];show A3 _ _ _ _ _ _ (Value.int .u8 ((dk[i]!).toNat:Int));rw[← this];exact .d (.int _ _)
     ·rw[List.getElem?_append_right (by simp[ER,AQ];omega)]at hi;have hl24:=(List.getElem?_eq_some_iff.1 hi).1;simp[zc,ER,AQ]at hl24;have:=List.mem_of_getElem? hi;rw[List.eq_of_mem_replicate this];rw[hcv i (by omega)]at hu';simp only[Option.map_some,Option.some.injEq]at hu';rw[if_neg (by omega)]at hu';subst hu';exact .d (.int _ _))
 have hbl:Bl (w.setRow b (Sort.putCells enc 0 dk cells)).heap.size (w.setRow b (Sort.putCells enc 0 dk cells)) ((w.setRow b (Sort.putCells enc 0 dk cells)).drewN n):=by
  clear g1 g2;induction n with
  |zero=>exact Bl.refl _ _
  |succ n ih=>exact ih.drew
 obtain⟨i1,x1⟩:=g1.world hbl;refine⟨.tuple #[],ν,1,rfl,i1,g2.trans x1,.tup rfl (fun i d v hd=>by simp at hd)⟩
theorem OY(u:Nat):IA ⟨(Lib.decDigits u).toArray⟩=Cu (AQ u):=by simp[IA,Cu,AQ,List.map_map,Function.comp_def]
theorem Mr(u:Nat):(AQ u).length=(Lib.decDigits u).length:=by simp[AQ]
theorem DR{u:Nat}(hu:u<18446744073709551616):1≤(AQ u).length∧(AQ u).length≤20:=by
 rw[Mr,Lib.decDigits_length];by_cases h:1≤u
 ·have:=Gk h hu;have h2:=Lib.decDigits_length u;refine⟨?_,this⟩;rw[← h2];unfold Lib.decDigits;split<;>simp
 ·have:u=0:=by omega
  subst this;rw[← Lib.decDigits_length];have:Lib.decDigits 0=[48]:=by unfold Lib.decDigits;rfl
  rw[this];decide
theorem OX(u:Nat):(⟨(Lib.decDigits u).toArray⟩:ByteArray).size=(AQ u).length:=by simp[AQ,ByteArray.size]
theorem HV:∀(l:List Int),CE (ER l)=some (Cu l)
 | []=>rfl
 |z::l=>by simp only[ER,List.map_cons,CE];have:=HV l;simp only[ER]at this;rw[this];rfl
def dz(u i:Nat):Int:=if i<Lib.nDigits u then(((Lib.decDigits u)[i]!).toNat:Int)else 0
def dl(u:Nat):List AV:=[.d (.int .u8 (dz u 0)),.d (.int .u8 (dz u 1)),.d (.int .u8 (dz u 2)),.d (.int .u8 (dz u 3)),.d (.int .u8 (dz u 4)),.d (.int .u8 (dz u 5)),.d (.int .u8 (dz u 6)),.d (.int .u8 (dz u 7)),.d (.int .u8 (dz u 8)),.d (.int .u8 (dz u 9)),.d (.int .u8 (dz u 10)),.d (.int .u8 (dz u 11)),.d (.int .u8 (dz u 12)),.d (.int .u8 (dz u 13)),.d (.int .u8 (dz u 14)),.d (.int .u8 (dz u 15)),.d (.int .u8 (dz u 16)),.d (.int .u8 (dz u 17)),.d (.int .u8 (dz u 18)),.d (.int .u8 (dz u 19)),.d (.int .u8 (dz u 20)),.d (.int .u8 (dz u 21)),.d (.int .u8 (dz u 22)),.d (.int .u8 (dz u 23))]
theorem PS(u:Nat):dl u=(List.range 24).map fun i=>.d (.int .u8 (dz u i)):=rfl
theorem RU(σ:Nat→Nat)(u:Nat):Ju σ (dl u)=dl u:=rfl
attribute [local go_sem] RU
theorem RF{u:Nat}(hnd:Lib.nDigits u≤20):ER (AQ u)++zc (24-Lib.nDigits u)=dl u:=by
 have hdl:=Lib.decDigits_length u;rw[PS];apply List.ext_getElem
 ·simp[ER,AQ,zc];omega
 ·intro i h1 h2;simp only[List.length_map,List.length_range]at h2;rw[List.getElem_map,List.getElem_range];unfold dz;by_cases h:i<Lib.nDigits u
  ·rw[List.getElem_append_left (by simp[ER,AQ];omega),if_pos h,getElem!_pos _ i (by omega)];simp[ER,AQ]
  ·rw[List.getElem_append_right (by simp[ER,AQ];omega),if_neg h];simp[zc]
theorem RC{b:List Int}{u:Nat}(hu:u<18446744073709551616)(hb:b.length≤1000000):Ac Tryz.prog 228 [.own 0 b.length,.d (.int .u64 u),.d (.int .i64 10)] [(0,.row 5 1 (Cu b))] (.own 0 (b.length+(AQ u).length)) [(0,.row 5 1 (Cu (b++AQ u)))] 1:=by
 obtain⟨hd1,hd2⟩:=DR hu;have hss:=OX u;by_cases h:u<100
 ·have c:=S2 h;have e1:IntKind.i64.wrap (u:Int)=u:=by simp[IntKind.wrap,IntKind.bits,IntKind.signed];omega
  have hsd:List.map (fun b:UInt8=>D.int .u8 (b.toNat:Int)) (⟨(Lib.decDigits u).toArray⟩:ByteArray).data.toList=Cu (AQ u):=OY u;have hsl:(⟨(Lib.decDigits u).toArray⟩:ByteArray).data.toList.length=(AQ u).length:=by simp[AQ]
  generalize(⟨(Lib.decDigits u).toArray⟩:ByteArray)=st at c hss hsd hsl;refine Ac.run (N:=36) (ks:=[0]) Tryz.func228 rfl (by kernel_rfl) rfl rfl rfl (by exact DU) fun X_ ν_ w_=>?_;have c0_:=c;refine AI (And.intro @e1 (And.intro @hss (And.intro @hsd @hsl))) ?_;try exact trivial
 ·have c1:=T4 (u:=u) (by omega) hu;have c2:=TW (u:=u) (by omega) hu;have hnd:=Gk (u:=u) (by omega) hu;have hdn:(AQ u).length=Lib.nDigits u:=by rw[Mr,Lib.decDigits_length]
  rw[RF hnd]at c2;have e3:CE ((dl u).take (AQ u).length)=some (Cu (AQ u)):=by
   rw[← RF hnd,List.take_append_of_le_length (by simp[ER]),List.take_of_length_le (by simp[ER]),HV]
  have e4:(dl u).length=24:=rfl;have e5:(Cu (AQ u)).all D.flat=true:=by rw[List.all_eq_true];intro x hx;obtain⟨z,_,rfl⟩:=List.mem_map.1 hx;rfl
  rw[← hdn]at c1 c2 hnd;refine Ac.run (N:=36) (ks:=[0]) Tryz.func228 rfl (by kernel_rfl) rfl rfl rfl (by exact DU) fun X_ ν_ w_=>?_;have c0_:=c1;have c1_:=c2;repeat (first|with_reducible exact Ev.nil|with_reducible exact Jy|((with_reducible apply FZ);rfl)|((with_reducible apply C8);rfl)|((with_reducible apply DV);rfl)|with_reducible apply DY|with_reducible apply Ed|with_reducible apply D2|((with_reducible apply JR (N:=36) rfl rfl);(focus simp only[Nat.reduceAdd]<;>rfl))|((with_reducible apply JT (N:=36) mixed rfl rfl);(focus simp only[Nat.reduceAdd]<;>rfl))|((with_reducible apply JU);(focus first|(apply Ex;(focus rfl);rfl)|(apply Ey;(focus rfl);(focus rfl);rfl)))|((with_reducible apply G6);(focus first|(apply Ex;(focus rfl);rfl)|(apply Ey;(focus rfl);(focus rfl);rfl)))|with_reducible apply Jx|with_reducible apply Gc|with_reducible apply Ge|with_reducible apply Gd|with_reducible apply Gf|((first|(with_reducible apply G7)|(with_reducible apply Eg));(focus rfl))|((first|(with_reducible apply G8)|(with_reducible apply Eh));(focus rfl))|(apply Jq;(focus simp(disch:=omega)only[go_sem,e3,e4,e5,List.drop_zero]<;>rfl);(focus first|exact c0_|exact c1_);(focus rfl);(focus first|(simp(disch:=omega)only[go_sem,e3,e4,e5,List.drop_zero]<;>rfl)|rfl))|((with_reducible apply F3);(focus simp only[Nat.reduceAdd]<;>rfl);(focus simp(disch:=omega)only[go_sem,e3,e4,e5,List.drop_zero]<;>rfl))|(apply Jp;(focus rfl);(focus simp(disch:=omega)only[go_sem,e3,e4,e5,List.drop_zero]<;>rfl);(focus first|exact c0_|exact c1_);(iterate 3 (focus first|(simp(disch:=omega)only[go_sem,e3,e4,e5,List.drop_zero]<;>rfl)|rfl)))|((first|apply Gt|apply Gs);(focus simp only[Nat.reduceAdd]<;>rfl);(focus rfl);(iterate 2 (focus simp(disch:=omega)only[go_sem,e3,e4,e5,List.drop_zero]<;>rfl));(first|((focus first|exact c0_|exact c1_);(iterate 2 (focus first|(simp(disch:=omega)only[go_sem,e3,e4,e5,List.drop_zero]<;>rfl)|rfl));(focus rfl);(iterate 3 (focus first|(simp(disch:=omega)only[go_sem,e3,e4,e5,List.drop_zero]<;>rfl)|rfl)))))|((first|(with_reducible apply Ga)|(with_reducible apply G9));(focus simp only[Nat.reduceAdd]<;>rfl);(focus simp(disch:=omega)only[go_sem,e3,e4,e5,List.drop_zero]<;>rfl);(focus first|(simp(disch:=omega)only[go_sem,e3,e4,e5,List.drop_zero]<;>rfl)|rfl))|with_reducible apply Ec|with_reducible apply Eb|with_reducible apply DX|with_reducible apply DW|with_reducible apply D1|with_reducible apply D0|with_reducible apply CZ|with_reducible apply CX rfl|with_reducible apply CV|with_reducible apply CU|with_reducible apply CT|with_reducible apply G3|with_reducible apply G2|with_reducible apply Ce|with_reducible apply D3|with_reducible apply Ee|with_reducible apply Cd|with_reducible apply Cc|((with_reducible apply JQ);(focus first|(simp(disch:=omega)only[go_sem,e3,e4,e5,List.drop_zero]<;>rfl)|rfl))|((with_reducible apply JS);(focus first|(simp(disch:=omega)only[go_sem,e3,e4,e5,List.drop_zero]<;>rfl)|rfl))|((with_reducible apply DZ);(focus rfl))|((with_reducible apply E3);(focus rfl);(focus rfl))|(with_reducible rfl)|((with_reducible show List.map AS _=_);simp only[List.map_cons,List.map_nil,AS,C7];rfl)|((with_reducible show By _ _=true);kernel_rfl)|((with_reducible show _=_);simp(disch:=omega)only[go_sem,e3,e4,e5,List.drop_zero]<;>rfl)|((fail_if_success (with_reducible show Ev _ _ _ _ (_::_) _ _ _ _ _));(show Ev _ _ _ _ (_::_) _ _ _ _ _))|fail)
theorem HL{b:List Int}{z:Nat}(hz:z≤9223372036854775807)(hb:b.length≤1000000):Ac Tryz.prog 133 [.own 0 b.length,.d (.int .i64 z),.d (.int .i64 10)] [(0,.row 5 1 (Cu b))] (.own 0 (b.length+(AQ z).length)) [(0,.row 5 1 (Cu (b++AQ z)))] 1:=by
 have e1:IntKind.u64.wrap (z:Int)=z:=by simp[IntKind.wrap,IntKind.bits,IntKind.signed];omega
 have c:=RC (b:=b) (u:=z) (by omega) hb;have c2:Ac Tryz.prog 196 [.own 0 b.length,.d (.int .i64 z),.d (.int .i64 10)] [(0,.row 5 1 (Cu b))] (.own 0 (b.length+(AQ z).length)) [(0,.row 5 1 (Cu (b++AQ z)))] 1:=by
  refine Ac.run (N:=21) (ks:=[0]) Tryz.func196 rfl (by kernel_rfl) rfl rfl rfl (by exact DU) fun X_ ν_ w_=>?_;have c0_:=c;refine AI @e1 ?_;try exact trivial
 refine Ac.run (N:=11) (ks:=[0]) Tryz.func133 rfl (by kernel_rfl) rfl rfl rfl (by exact DU) fun X_ ν_ w_=>?_;have c0_:=c2;refine Aw ?_;try exact trivial
theorem KO{z:Nat}(hz:z≤9223372036854775807):Ac Tryz.prog 133 [.d .nils,.d (.int .i64 z),.d (.int .i64 10)] [] (.own 3000 (AQ z).length) [(3000,.row 5 1 (Cu (AQ z)))] 0:=by
 have e1:IntKind.u64.wrap (z:Int)=z:=by simp[IntKind.wrap,IntKind.bits,IntKind.signed];omega
 have c:=RC (b:=[]) (u:=z) (by omega) (by decide);have c2:Ac Tryz.prog 196 [.own 0 0,.d (.int .i64 z),.d (.int .i64 10)] [(0,.row 5 1 (Cu []))] (.own 0 (AQ z).length) [(0,.row 5 1 (Cu (AQ z)))] 1:=by
  rw[List.nil_append,List.length_nil,Nat.zero_add]at c;refine Ac.run (N:=21) (ks:=[0]) Tryz.func196 rfl (by kernel_rfl) rfl rfl rfl (by exact DU) fun X_ ν_ w_=>?_;have c0_:=c;refine AI @e1 ?_;try exact trivial
 refine Ac.run (N:=11) (ks:=[3000]) Tryz.func133 rfl (by kernel_rfl) rfl rfl rfl (by exact DU) fun X_ ν_ w_=>?_;refine DJ 0 3000 5 1 rfl (by decide) (Nat.le_of_ble_eq_true rfl) ?_;have c0_:=c2;refine Aw ?_;try exact trivial
end Go.Eng.Tryz

/- Rules' sides: keys of a map; whether a rule may be. (and what stands behind it: texts laid together) -/
import Derived.Test.YtooblcpmpemhfaaGreatDoorMR1
import Derived.Test.YtooblcpmpemhfaaGreatDoorMG4
import Derived.Shelf.SlSortCmp.WholeK
import Derived.Shelf.SlGeneric
import Derived.Ground.SlsfProg
import Derived.Test.YtooblcpmpemhfaaGreatDoorProg
import Derived.Test.YtooblcpmpemhfaaGreatDoorMH1
set_option linter.unusedVariables false
set_option linter.unusedSimpArgs false
open Go Go.Eng Go.Proofs Go.RowKit
set_option maxHeartbeats 32000000
set_option maxRecDepth 100000
namespace Go.Eng.Tryz
open Go.Maps (Keyed)
attribute [local go_sem] DZ ac ZS NB frz frzs List.set_cons_zero List.set_cons_succ List.zip_cons_cons List.zip_nil_right List.foldl_cons List.foldl_nil D.flat NS AV.rn HO.rn AV.ks J4 HO.ks sg Es Nq EZ C0 fresh List.filter Rf Ft opnd lk J5 Qt GR MN DA Ie Gk Le SE G1 Vg bh Gh Hu Hv Hr JZ BY Cy BU Nd CX CW E8 CN HM Jt EP Dy Fu EQ Fl Fv Dz XT XS Fi Dp CV ZU ZT Tb.inn Tb.ilen Tb.nilAt Tb.ini D.put FZ Ej Gu CC ML F6 E9 Ea Fk Fj BX AV.kb Aj List.getLast?_append RQ GY Oe Kc AC List.replicate_zero List.take_length ofInt MQ Jb Ja Js OD Eu Et Cz FN Pf Qd Aj D.comps AV.comps AV.sto D.cell D.rebuild Ed Fh DM put EF BO gd G2 Nh Option.map_some Option.map_none Option.bind_some Option.isSome_some List.map_cons List.map_nil List.append_nil List.nil_append List.cons_append List.length_cons List.length_nil List.length_map List.length_append List.take_zero List.take_succ_cons List.take_nil List.drop_zero List.drop_succ_cons List.drop_nil List.getElem?_cons_zero List.getElem?_cons_succ List.getElem?_map List.all_cons List.all_nil List.mem_cons List.not_mem_nil List.elem_cons List.elem_nil Bool.and_true Bool.true_and Bool.and_self Bool.not_true Bool.not_false Bool.or_true Bool.or_false and_self and_true true_and or_false false_or or_true true_or not_false_eq_true not_true_eq_false if_true if_false decide_true decide_false decide_eq_true_eq Int.toNat_natCast Int.toNat_zero beq_self_eq_true bne_self_eq_false Bool.false_eq_true Nat.add_zero Nat.zero_add JC YM YO Yv YN YP WG XR TC TB SR Ya PV Mm Mn AR NP wrap_i64 H8 PA M5 Pz M4 TH TF TM TL PS gt_iff_lt ge_iff_le
attribute [local go_sem ↓] U4 reduceIte
attribute [local go_sem] reduceCtorEq Nat.reduceEqDiff Nat.reduceAdd Nat.reduceSub Nat.reduceMul Nat.reduceLeDiff Nat.reduceLT Nat.reduceBEq Nat.reduceBNe Int.reduceToNat Int.reduceLT Int.reduceLE Int.reduceEq Int.reduceAdd Int.reduceSub Int.reduceNeg Int.reduceBEq Int.reduceBNe
attribute [local go_sem] Aq As
theorem G3{d:Nat}{n:Int}(h : -9223372036854775808≤n∧n≤9223372036854775807):Tryz.prog.keyLits (d+1) 3 [.int .i64 n]=some [.int .i64 n]:=by
 have hw:(Lit.int .i64 n).wf=true:=by simp only[Lit.wf,Bool.and_eq_true,decide_eq_true_eq];exact h
 unfold Program.keyLits;rw[Tryz.underlying3];simp only[hw,and_self,if_true]
theorem eJ:Tryz.prog.cellsOf 3=1:=by kernel_rfl
theorem cU:Tryz.prog.cellsOf 193=8:=by kernel_rfl
theorem Su:Tryz.prog.cellsOf 195=9:=by kernel_rfl
theorem Wg:Tryz.prog.cellsOf 197=18:=by kernel_rfl
theorem bb{d:Nat}{x0 x1 x2 x3 x4 x5 x6 x7:Int}(h0 : -9223372036854775808≤x0∧x0≤9223372036854775807)(h1 : -9223372036854775808≤x1∧x1≤9223372036854775807)(h2 : -9223372036854775808≤x2∧x2≤9223372036854775807)(h3 : -9223372036854775808≤x3∧x3≤9223372036854775807)(h4 : -9223372036854775808≤x4∧x4≤9223372036854775807)(h5 : -9223372036854775808≤x5∧x5≤9223372036854775807)(h6 : -9223372036854775808≤x6∧x6≤9223372036854775807)(h7 : -9223372036854775808≤x7∧x7≤9223372036854775807) :
 Tryz.prog.keyLits (d+2) 193 [.int .i64 x0,.int .i64 x1,.int .i64 x2,.int .i64 x3,.int .i64 x4,.int .i64 x5,.int .i64 x6,.int .i64 x7]=some [.int .i64 x0,.int .i64 x1,.int .i64 x2,.int .i64 x3,.int .i64 x4,.int .i64 x5,.int .i64 x6,.int .i64 x7]:=by
 unfold Program.keyLits;rw[Tryz.underlying193];simp only[cU,eJ,List.length_cons,List.length_nil,Nat.reduceAdd,if_true];rw[show List.range 8=[0,1,2,3,4,5,6,7]from rfl];simp[List.mapM_cons,G3 h0,G3 h1,G3 h2,G3 h3,G3 h4,G3 h5,G3 h6,G3 h7]
theorem Q0{d:Nat}{n x0 x1 x2 x3 x4 x5 x6 x7:Int}(h : -9223372036854775808≤n∧n≤9223372036854775807)(h0 : -9223372036854775808≤x0∧x0≤9223372036854775807)(h1 : -9223372036854775808≤x1∧x1≤9223372036854775807)(h2 : -9223372036854775808≤x2∧x2≤9223372036854775807)(h3 : -9223372036854775808≤x3∧x3≤9223372036854775807)(h4 : -9223372036854775808≤x4∧x4≤9223372036854775807)(h5 : -9223372036854775808≤x5∧x5≤9223372036854775807)(h6 : -9223372036854775808≤x6∧x6≤9223372036854775807)(h7 : -9223372036854775808≤x7∧x7≤9223372036854775807) :
 Tryz.prog.keyLits (d+3) 195 [.int .i64 n,.int .i64 x0,.int .i64 x1,.int .i64 x2,.int .i64 x3,.int .i64 x4,.int .i64 x5,.int .i64 x6,.int .i64 x7]=some [.int .i64 n,.int .i64 x0,.int .i64 x1,.int .i64 x2,.int .i64 x3,.int .i64 x4,.int .i64 x5,.int .i64 x6,.int .i64 x7]:=by
 unfold Program.keyLits;rw[Tryz.underlying195];simp[List.mapM_cons,Su,cU,eJ,G3 h,bb h0 h1 h2 h3 h4 h5 h6 h7]
theorem Dt{l:List Int}(h:∀z∈l,-9223372036854775808≤z∧z≤9223372036854775807)(i:Nat) : -9223372036854775808≤gi l i∧gi l i≤9223372036854775807:=by
 unfold gi;cases hq:l[i]? with
 |none=>simp
 |some z=>simpa using h z (List.mem_of_getElem? hq)
def fits(l:List Int):Prop:=l.length≤8∧∀z∈l,-9223372036854775808≤z∧z≤9223372036854775807
theorem Hx(l:List Int):fits (s8 l):=by
 unfold s8;split
 ·rename_i h;simp only[sok,Bool.and_eq_true,decide_eq_true_eq]at h;refine⟨h.2,fun z hz=>?_⟩;have:=List.all_eq_true.1 h.1 z hz;simp only[D9,decide_eq_true_eq]at this;omega
 ·exact⟨by simp,by simp⟩
theorem SN:Keyed Tryz.prog 195:=Keyed.of_law (deep_law_gate (by kernel_rfl) (of_decide_eq_true (by kernel_rfl)) (of_decide_eq_true (by kernel_rfl)) (by kernel_rfl) (by rw[Tryz.underlying195]))
theorem SM:Keyed Tryz.prog 197:=Keyed.of_law (deep_law_gate (by kernel_rfl) (of_decide_eq_true (by kernel_rfl)) (of_decide_eq_true (by kernel_rfl)) (by kernel_rfl) (by rw[Tryz.underlying197]))
theorem Sl:W1 Tryz.prog 195:=⟨SN,⟨_,Tryz.underlying195,.inl ⟨_,rfl⟩⟩,by kernel_rfl⟩
theorem MH:∃d,Tryz.prog.types.size+1=d+4:=⟨Tryz.prog.types.size-3,by have:3≤Tryz.prog.types.size:=of_decide_eq_true (by kernel_rfl);omega⟩
def bd(a b:List Int):D:=.agg [.int .i64 a.length,.int .i64 (gi a 0),.int .i64 (gi a 1),.int .i64 (gi a 2),.int .i64 (gi a 3),.int .i64 (gi a 4),.int .i64 (gi a 5),.int .i64 (gi a 6),.int .i64 (gi a 7),.int .i64 b.length,.int .i64 (gi b 0),.int .i64 (gi b 1),.int .i64 (gi b 2),.int .i64 (gi b 3),.int .i64 (gi b 4),.int .i64 (gi b 5),.int .i64 (gi b 6),.int .i64 (gi b 7)]
theorem Nz{w:World}{M:Nat→Prop}{l:List Int}:An w M (.agg (l.map fun z=>.int .i64 z)) (.agg (l.map fun z=>.int .i64 z).toArray):=by
 refine .agg (by simp) (fun d hd=>?_) (fun i d v h1 h2=>?_)
 ·obtain⟨z,_,rfl⟩:=List.mem_map.1 hd;rfl
 ·rw[List.getElem?_map]at h1 h2;cases hq:l[i]? with
  |none=>rw[hq]at h1;simp at h1
  |some z=>rw[hq]at h1 h2;simp at h1 h2;subst h1;subst h2;exact .int _ _
theorem L5{l:List Int}:(D.agg (l.map fun z=>.int .i64 z)).pure=true:=by
 simp only[D.pure,List.all_eq_true];intro d hd;obtain⟨z,_,rfl⟩:=List.mem_map.1 hd;rfl
theorem OL{a:List Int}(h:fits a):NT Tryz.prog 195 (sd a):=by
 obtain⟨d,hd⟩:=MH;have hl : -9223372036854775808≤(a.length:Int)∧(a.length:Int)≤9223372036854775807:=by have:=h.1;omega
 refine⟨L5 (l:=[(a.length:Int),gi a 0,gi a 1,gi a 2,gi a 3,gi a 4,gi a 5,gi a 6,gi a 7]),_,.string (keyBytes [.int .i64 a.length,.int .i64 (gi a 0),.int .i64 (gi a 1),.int .i64 (gi a 2),.int .i64 (gi a 3),.int .i64 (gi a 4),.int .i64 (gi a 5),.int .i64 (gi a 6),.int .i64 (gi a 7)]),fun w M=>Nz (l:=[(a.length:Int),gi a 0,gi a 1,gi a 2,gi a 3,gi a 4,gi a 5,gi a 6,gi a 7]),?_⟩
 ·unfold keyOf;rw[Tryz.underlying195];have hk:Tryz.prog.keyType 195=true:=by kernel_rfl
  have hf:(Value.agg (([(a.length:Int),gi a 0,gi a 1,gi a 2,gi a 3,gi a 4,gi a 5,gi a 6,gi a 7]).map fun z=>Value.int .i64 z).toArray).formed Tryz.prog 195=true:=by
   simp[Value.formed,Tryz.underlying195,Su]
  simp only[hk,hf,Bool.and_self,if_true,hd];have:=Q0 (d:=d+1) hl (Dt h.2 0) (Dt h.2 1) (Dt h.2 2) (Dt h.2 3) (Dt h.2 4) (Dt h.2 5) (Dt h.2 6) (Dt h.2 7);simp only[Value.cells,List.map_cons,List.map_nil];rw[this];rfl
theorem YL{d:Nat}{a b:List Int}(ha:fits a)(hb:fits b):Tryz.prog.keyLits (d+4) 197 (([(a.length:Int),gi a 0,gi a 1,gi a 2,gi a 3,gi a 4,gi a 5,gi a 6,gi a 7,(b.length:Int),gi b 0,gi b 1,gi b 2,gi b 3,gi b 4,gi b 5,gi b 6,gi b 7]).map fun z=>Value.int .i64 z)=some (([(a.length:Int),gi a 0,gi a 1,gi a 2,gi a 3,gi a 4,gi a 5,gi a 6,gi a 7,(b.length:Int),gi b 0,gi b 1,gi b 2,gi b 3,gi b 4,gi b 5,gi b 6,gi b 7]).map fun z=>Lit.int .i64 z):=by
 have hla : -9223372036854775808≤(a.length:Int)∧(a.length:Int)≤9223372036854775807:=by have:=ha.1;omega
 have hlb : -9223372036854775808≤(b.length:Int)∧(b.length:Int)≤9223372036854775807:=by have:=hb.1;omega
 have e1:=Q0 (d:=d) hla (Dt ha.2 0) (Dt ha.2 1) (Dt ha.2 2) (Dt ha.2 3) (Dt ha.2 4) (Dt ha.2 5) (Dt ha.2 6) (Dt ha.2 7);have e2:=Q0 (d:=d) hlb (Dt hb.2 0) (Dt hb.2 1) (Dt hb.2 2) (Dt hb.2 3) (Dt hb.2 4) (Dt hb.2 5) (Dt hb.2 6) (Dt hb.2 7);unfold Program.keyLits;rw[Tryz.underlying197];simp[List.mapM_cons,Wg,Su,e1,e2]
theorem OK{a b:List Int}(ha:fits a)(hb:fits b):NT Tryz.prog 197 (bd a b):=by
 obtain⟨d,hd⟩:=MH;refine⟨L5 (l:=[(a.length:Int),gi a 0,gi a 1,gi a 2,gi a 3,gi a 4,gi a 5,gi a 6,gi a 7,(b.length:Int),gi b 0,gi b 1,gi b 2,gi b 3,gi b 4,gi b 5,gi b 6,gi b 7]),_,.string (keyBytes (([(a.length:Int),gi a 0,gi a 1,gi a 2,gi a 3,gi a 4,gi a 5,gi a 6,gi a 7,(b.length:Int),gi b 0,gi b 1,gi b 2,gi b 3,gi b 4,gi b 5,gi b 6,gi b 7]).map fun z=>Lit.int .i64 z)),fun w M=>Nz (l:=[(a.length:Int),gi a 0,gi a 1,gi a 2,gi a 3,gi a 4,gi a 5,gi a 6,gi a 7,(b.length:Int),gi b 0,gi b 1,gi b 2,gi b 3,gi b 4,gi b 5,gi b 6,gi b 7]),?_⟩
 ·unfold keyOf;rw[Tryz.underlying197];have hk:Tryz.prog.keyType 197=true:=by kernel_rfl
  have hf:(Value.agg (([(a.length:Int),gi a 0,gi a 1,gi a 2,gi a 3,gi a 4,gi a 5,gi a 6,gi a 7,(b.length:Int),gi b 0,gi b 1,gi b 2,gi b 3,gi b 4,gi b 5,gi b 6,gi b 7]).map fun z=>Value.int .i64 z).toArray).formed Tryz.prog 197=true:=by
   simp[Value.formed,Tryz.underlying197,Wg]
  simp only[hk,hf,Bool.and_self,if_true,hd];have:=YL (d:=d) ha hb;show((Tryz.prog.keyLits (d+4) 197 (([(a.length:Int),gi a 0,gi a 1,gi a 2,gi a 3,gi a 4,gi a 5,gi a 6,gi a 7,(b.length:Int),gi b 0,gi b 1,gi b 2,gi b 3,gi b 4,gi b 5,gi b 6,gi b 7]).map fun z=>Value.int .i64 z)).map fun ls=>Lit.string (keyBytes ls))=_;rw[this];rfl
theorem SH{a b:List Int}(ha:a.length≤8)(hl:a.length=b.length)(h:∀i,i<8→gi a i=gi b i):a=b:=by
 refine List.ext_getElem? fun i=>?_;by_cases hi:i<a.length
 ·have:=h i (by omega);unfold gi at this;rw[List.getElem?_eq_getElem hi,List.getElem?_eq_getElem (by omega)]at this ⊢;simpa using this
 ·rw[List.getElem?_eq_none (by omega),List.getElem?_eq_none (by omega)]
theorem c7{a b:List Int}(ha:a.length≤8)(h:sd a=sd b):a=b:=by
 unfold sd at h;simp only[D.agg.injEq,List.cons.injEq,D.int.injEq,true_and,and_true]at h;obtain⟨h0,g0,g1,g2,g3,g4,g5,g6,g7⟩:=h;refine SH ha (by omega) fun i hi=>?_
 match i,hi with
 |0,_=>exact g0
 |1,_=>exact g1
 |2,_=>exact g2
 |3,_=>exact g3
 |4,_=>exact g4
 |5,_=>exact g5
 |6,_=>exact g6
 |7,_=>exact g7
theorem Sr{a b a' b':List Int}(ha:a.length≤8)(hb:b.length≤8)(h:bd a b=bd a' b'):a=a'∧b=b':=by
 unfold bd at h;simp only[D.agg.injEq,List.cons.injEq,D.int.injEq,true_and,and_true]at h;obtain⟨h0,g0,g1,g2,g3,g4,g5,g6,g7,k0,e0,e1,e2,e3,e4,e5,e6,e7⟩:=h;refine⟨SH ha (by omega) fun i hi=>?_,SH hb (by omega) fun i hi=>?_⟩
 ·match i,hi with
  |0,_=>exact g0
  |1,_=>exact g1
  |2,_=>exact g2
  |3,_=>exact g3
  |4,_=>exact g4
  |5,_=>exact g5
  |6,_=>exact g6
  |7,_=>exact g7
 ·match i,hi with
  |0,_=>exact e0
  |1,_=>exact e1
  |2,_=>exact e2
  |3,_=>exact e3
  |4,_=>exact e4
  |5,_=>exact e5
  |6,_=>exact e6
  |7,_=>exact e7
end Go.Eng.Tryz
namespace Go.Eng.Tryz
open Go.Maps (Keyed)
attribute [local go_sem] Aq As
def JB(r:Ru):Bool:=sok r.left&&sok r.right&&decide (r.left≠r.right)&&decide (r.cost<18446744073709551615)
theorem IS{r:Ru}:JB r=true↔sok r.left=true∧sok r.right=true∧r.left≠r.right∧r.cost<18446744073709551615:=by
 simp[JB,Bool.and_eq_true,and_assoc]
theorem Um{r:Ru}(h:¬(sok r.left=true∧sok r.right=true∧r.left≠r.right∧r.cost<18446744073709551615)):JB r=false:=by
 cases hr:JB r with
 |false=>rfl
 |true=>exact absurd (IS.1 hr) h
theorem Ur{l:List Int}(h:sok l=true):l.length≤8:=by
 simp only[sok,Bool.and_eq_true,decide_eq_true_eq]at h;exact h.2
theorem Xc{r:Ru}(hr:r.ok):A3 Tryz.prog 154 [ru r] (.tup [bd (s8 r.left) (s8 r.right),.bool (JB r)]):=by
 have c1:=fB hr.1;have c2:=fB hr.2.1;have kA:(W1 Tryz.prog 195∧NT Tryz.prog 195 (sd (s8 r.left))∧NT Tryz.prog 195 (sd (s8 r.right)))=True:=eq_true ⟨Sl,OL (Hx _),OL (Hx _)⟩;cases h1:sok r.left
 ·have e:=Um (r:=r) (by rw[h1];simp);unfold sd at c1 c2;unfold ru bd;refine A6 37 Tryz.func154 A4 fun X_ w_=>?_;have c0_:=c1;have c1_:=c2;refine Au (And.intro @e @h1) ?_;try exact trivial
 cases h2:sok r.right
 ·have e:=Um (r:=r) (by rw[h2];simp);unfold sd at c1 c2;unfold ru bd;refine A6 37 Tryz.func154 A4 fun X_ w_=>?_;have c0_:=c1;have c1_:=c2;refine Au (And.intro @e (And.intro @h1 @h2)) ?_;try exact trivial
 by_cases h3:r.left=r.right
 ·have e:=Um (r:=r) (by simp[h3]);have sm:same (sd (s8 r.left)) (sd (s8 r.right))=true:=NE (by rw[h3]);have sm':same [.int .i64 (s8 r.left).length,.int .i64 (gi (s8 r.left) 0),.int .i64 (gi (s8 r.left) 1),.int .i64 (gi (s8 r.left) 2),.int .i64 (gi (s8 r.left) 3),.int .i64 (gi (s8 r.left) 4),.int .i64 (gi (s8 r.left) 5),.int .i64 (gi (s8 r.left) 6),.int .i64 (gi (s8 r.left) 7)] [D.int .i64 (s8 r.right).length,.int .i64 (gi (s8 r.right) 0),.int .i64 (gi (s8 r.right) 1),.int .i64 (gi (s8 r.right) 2),.int .i64 (gi (s8 r.right) 3),.int .i64 (gi (s8 r.right) 4),.int .i64 (gi (s8 r.right) 5),.int .i64 (gi (s8 r.right) 6),.int .i64 (gi (s8 r.right) 7)]=true:=NE (by rw[h3]);clear sm;unfold sd at c1 c2 kA;unfold ru bd;refine A6 37 Tryz.func154 A4 fun X_ w_=>?_;have c0_:=c1;have c1_:=c2;refine Au (And.intro @e (And.intro @h1 (And.intro @h2 (And.intro @kA @sm')))) ?_;try exact trivial
 have sm':same [.int .i64 (s8 r.left).length,.int .i64 (gi (s8 r.left) 0),.int .i64 (gi (s8 r.left) 1),.int .i64 (gi (s8 r.left) 2),.int .i64 (gi (s8 r.left) 3),.int .i64 (gi (s8 r.left) 4),.int .i64 (gi (s8 r.left) 5),.int .i64 (gi (s8 r.left) 6),.int .i64 (gi (s8 r.left) 7)] [D.int .i64 (s8 r.right).length,.int .i64 (gi (s8 r.right) 0),.int .i64 (gi (s8 r.right) 1),.int .i64 (gi (s8 r.right) 2),.int .i64 (gi (s8 r.right) 3),.int .i64 (gi (s8 r.right) 4),.int .i64 (gi (s8 r.right) 5),.int .i64 (gi (s8 r.right) 6),.int .i64 (gi (s8 r.right) 7)]=false:=Qi (fun h=>h3 (by
  have:=c7 (a:=s8 r.left) (b:=s8 r.right) (Hx _).1 (by unfold sd;rw[h])
  rwa [Tc h1,Tc h2]at this))
 by_cases h4:r.cost<18446744073709551615
 ·have e:=IS.2 ⟨h1,h2,h3,h4⟩;unfold sd at c1 c2 kA;unfold ru bd;refine A6 37 Tryz.func154 A4 fun X_ w_=>?_;have c0_:=c1;have c1_:=c2;refine Au (And.intro @e (And.intro @h1 (And.intro @h2 (And.intro @kA @sm')))) ?_;try exact trivial
 ·have e:=Um (r:=r) (fun h=>h4 h.2.2.2);unfold sd at c1 c2 kA;unfold ru bd;refine A6 37 Tryz.func154 A4 fun X_ w_=>?_;have c0_:=c1;have c1_:=c2;refine Au (And.intro @e (And.intro @h1 (And.intro @h2 (And.intro @kA @sm')))) ?_;try exact trivial
theorem Z3{r:Ru}(hr:r.ok):A3 Tryz.prog 151 [ru r] (.bool (JB r)):=by
 have c:=Xc hr;unfold ru bd at c;unfold ru;refine A6 11 Tryz.func151 A4 fun X_ w_=>?_;have c0_:=c;refine Ao ?_;try exact trivial
theorem Xm{r s:Ru}:Xl r s=if Ae r.left s.left≠0 then Ae r.left s.left else if Ae r.right s.right≠0 then Ae r.right s.right else EE r.cost s.cost:=by
 simp only[Xl,VZ];by_cases h1:Ae r.left s.left=0
 ·by_cases h2:Ae r.right s.right=0
  ·by_cases h3:EE r.cost s.cost=0<;>simp[h1,h2,h3]
  ·simp[h1,h2]
 ·simp[h1]
theorem YE{a b:Int}:(EE a b<0)↔a<b:=by
 unfold EE;split
 ·rename_i h;simp[h]
 ·split<;>simp_all
theorem Cf:∀(a b:List Int),Ae a b=0↔a=b
 | [],[]=>by simp[Ae]
 | [],_::_=>by simp[Ae]
 |_::_,[]=>by simp[Ae]
 |x::a,y::b=>by
  simp only[Ae,List.cons.injEq];by_cases h:x<y
  ·rw[if_pos h];constructor<;>intro h'<;>omega
  ·rw[if_neg h];by_cases h2:y<x
   ·rw[if_pos h2];constructor<;>intro h'<;>omega
   ·rw[if_neg h2,Cf a b];constructor
    ·intro h';exact⟨by omega,h'⟩
    ·exact fun h'=>h'.2
end Go.Eng.Tryz
namespace Go.Proofs
open Go.Shelf Go.RowKit Go.Lib Go.Sort
def Tryz.sortRule_ren:Go.Shelf.Ren:=⟨fun|6=>155|15=>123|14=>210|28=>189|29=>190|20=>242|21=>243|22=>244|23=>245|24=>246|25=>247|26=>248|27=>249|46=>268|47=>223|48=>224|49=>269|50=>270|57=>279|n=>n,fun|22=>34|24=>77|25=>202|3=>3|39=>176|0=>0|53=>204|55=>33|4=>4|46=>232|45=>231|50=>166|5=>5|9=>9|66=>261|70=>264|76=>292|77=>293|n=>n,fun|n=>n⟩
theorem Tryz.sortRule:Go.Proofs.SlLaysF0.n6 Tryz.prog Tryz.sortRule_ren:={
 mixed:=by kernel_rfl
 f6:=⟨Tryz.f155.name,by decide,Tryz.func155.trans (congrArg some (by kernel_rfl))⟩
 f14:=⟨Tryz.f210.name,by decide,Tryz.func210.trans (congrArg some (by kernel_rfl))⟩
 f15:=Tryz.func123.trans (congrArg some (by kernel_rfl))
 f20:=⟨Tryz.f242.name,by decide,Tryz.func242.trans (congrArg some (by kernel_rfl))⟩
 f21:=⟨Tryz.f243.name,by decide,Tryz.func243.trans (congrArg some (by kernel_rfl))⟩
 f22:=⟨Tryz.f244.name,by decide,Tryz.func244.trans (congrArg some (by kernel_rfl))⟩
 f23:=⟨Tryz.f245.name,by decide,Tryz.func245.trans (congrArg some (by kernel_rfl))⟩
 f24:=⟨Tryz.f246.name,by decide,Tryz.func246.trans (congrArg some (by kernel_rfl))⟩
 f25:=⟨Tryz.f247.name,by decide,Tryz.func247.trans (congrArg some (by kernel_rfl))⟩
 f26:=⟨Tryz.f248.name,by decide,Tryz.func248.trans (congrArg some (by kernel_rfl))⟩
 f27:=⟨Tryz.f249.name,by decide,Tryz.func249.trans (congrArg some (by kernel_rfl))⟩
 f28:=Tryz.func189.trans (congrArg some (by kernel_rfl))
 f29:=Tryz.func190.trans (congrArg some (by kernel_rfl))
 f46:=⟨Tryz.f268.name,by decide,Tryz.func268.trans (congrArg some (by kernel_rfl))⟩
 f47:=Tryz.func223.trans (congrArg some (by kernel_rfl))
 f48:=Tryz.func224.trans (congrArg some (by kernel_rfl))
 f49:=⟨Tryz.f269.name,by decide,Tryz.func269.trans (congrArg some (by kernel_rfl))⟩
 f50:=⟨Tryz.f270.name,by decide,Tryz.func270.trans (congrArg some (by kernel_rfl))⟩
 f57:=⟨Tryz.f279.name,by decide,Tryz.func279.trans (congrArg some (by kernel_rfl))⟩
 t0:=Tryz.underlying0
 a0:=Tryz.isAgg0
 z0:=Tryz.sizeOf0
 v0:=Tryz.zeroValue0
 t3:=Tryz.underlying3
 a3:=Tryz.isAgg3
 z3:=Tryz.sizeOf3
 v3:=Tryz.zeroValue3
 t4:=Tryz.underlying4
 a4:=Tryz.isAgg4
 z4:=Tryz.sizeOf4
 v4:=Tryz.zeroValue4
 t5:=Tryz.underlying5
 a5:=Tryz.isAgg5
 z5:=Tryz.sizeOf5
 v5:=Tryz.zeroValue5
 t9:=Tryz.underlying9
 a9:=Tryz.isAgg9
 z9:=Tryz.sizeOf9
 v9:=Tryz.zeroValue9
 t22:=Tryz.underlying34
 a22:=Tryz.isAgg34
 z22:=Tryz.sizeOf34
 v22:=Tryz.zeroValue34
 t25:=Tryz.underlying202
 a25:=Tryz.isAgg202
 z25:=Tryz.sizeOf202
 v25:=Tryz.zeroValue202
 t39:=Tryz.underlying176
 a39:=Tryz.isAgg176
 z39:=Tryz.sizeOf176
 v39:=Tryz.zeroValue176
 t45:=Tryz.underlying231
 a45:=Tryz.isAgg231
 z45:=Tryz.sizeOf231
 v45:=Tryz.zeroValue231
 t46:=Tryz.underlying232
 a46:=Tryz.isAgg232
 z46:=Tryz.sizeOf232
 v46:=Tryz.zeroValue232
 t50:=Tryz.underlying166
 a50:=Tryz.isAgg166
 z50:=Tryz.sizeOf166
 v50:=Tryz.zeroValue166
 t53:=Tryz.underlying204
 a53:=Tryz.isAgg204
 z53:=Tryz.sizeOf204
 v53:=Tryz.zeroValue204
 t55:=Tryz.underlying33
 a55:=Tryz.isAgg33
 z55:=Tryz.sizeOf33
 v55:=Tryz.zeroValue33
 t66:=Tryz.underlying261
 a66:=Tryz.isAgg261
 z66:=Tryz.sizeOf261
 v66:=Tryz.zeroValue261
 t70:=Tryz.underlying264
 a70:=Tryz.isAgg264
 z70:=Tryz.sizeOf264
 v70:=Tryz.zeroValue264
 t76:=Tryz.underlying292
 a76:=Tryz.isAgg292
 z76:=Tryz.sizeOf292
 v76:=Tryz.zeroValue292
 t77:=Tryz.underlying293
 a77:=Tryz.isAgg293
 z77:=Tryz.sizeOf293
 v77:=Tryz.zeroValue293 }
end Go.Proofs
namespace Go.Eng.Tryz
theorem AD:∀(a b:List Int),Ae b a = - Ae a b
 | [],[]=>by simp[Ae]
 | [],_::_=>by simp[Ae]
 |_::_,[]=>by simp[Ae]
 |x::a,y::b=>by
  simp only[Ae];by_cases h:x<y
  ·rw[if_pos h,if_neg (by omega),if_pos h];rfl
  ·by_cases h2:y<x
   ·rw[if_pos h2,if_neg h,if_pos h2]
   ·rw[if_neg h2,if_neg h,if_neg h,if_neg h2,AD a b]
theorem CA:∀(a b c:List Int),Ae a b≤0→Ae b c≤0→Ae a c≤0
 | [],b,c,_,_=>by cases c<;>simp[Ae]
 |x::a,[],c,h,_=>by simp[Ae]at h
 |x::a,y::b,[],_,h=>by simp[Ae]at h
 |x::a,y::b,z::c,h1,h2=>by
  have ih:=CA a b c;simp only[Ae]at h1 h2 ⊢;rcases Int.lt_trichotomy x y with hxy|hxy|hxy
  ·rcases Int.lt_trichotomy y z with hyz|hyz|hyz
   ·rw[if_pos (by omega)];decide
   ·rw[if_pos (by omega)];decide
   ·rw[if_neg (by omega),if_pos hyz]at h2;omega
  ·subst hxy;rw[if_neg (by omega),if_neg (by omega)]at h1;rcases Int.lt_trichotomy x z with hyz|hyz|hyz
   ·rw[if_pos (by omega)];decide
   ·subst hyz;rw[if_neg (by omega),if_neg (by omega)]at h2 ⊢;exact ih h1 h2
   ·rw[if_neg (by omega),if_pos hyz]at h2;omega
  ·rw[if_neg (by omega),if_pos hxy]at h1;omega
theorem D4{a b c:List Int}(h1:Ae a b<0)(h2:Ae b c≤0):Ae a c<0:=by
 have h3:=CA a b c (by omega) h2;by_cases h:Ae a c=0
 ·have e:=(Cf _ _).1 h;rw[← e]at h2;have:=AD a b;omega
 ·omega
def Of(r s:Ru):Prop:=Ae r.left s.left<0∨r.left=s.left∧(Ae r.right s.right<0∨r.right=s.right∧r.cost<s.cost)
theorem Kb{r s:Ru}:Xl r s<0↔Of r s:=by
 rw[Xm];unfold Of;have z1:=(Cf s.left s.left).2 rfl;have z2:=(Cf s.right s.right).2 rfl;by_cases h1:Ae r.left s.left=0
 ·rw[if_neg (by simpa using h1)];have e1:=(Cf _ _).1 h1;by_cases h2:Ae r.right s.right=0
  ·rw[if_neg (by simpa using h2),YE];have e2:=(Cf _ _).1 h2;simp[h1,h2,e1,e2,z1,z2]
  ·rw[if_pos h2];have e2:r.right≠s.right:=fun h=>h2 ((Cf _ _).2 h);simp[h1,e1,e2,z1]
 ·rw[if_pos h1];have e1:r.left≠s.left:=fun h=>h1 ((Cf _ _).2 h);simp[e1]
theorem Qg(r:Ru):¬Of r r:=by
 unfold Of;have h1:=(Cf r.left r.left).2 rfl;have h2:=(Cf r.right r.right).2 rfl;omega
theorem IP{r s t:Ru}(h1:Of r s)(h2:Of s t):Of r t:=by
 unfold Of at *;rcases h1 with h1|⟨e1,h1⟩
 ·rcases h2 with h2|⟨e2,h2⟩
  ·exact .inl (D4 h1 (by omega))
  ·rw[e2]at h1;exact .inl h1
 ·rcases h2 with h2|⟨e2,h2⟩
  ·rw[e1];exact .inl h2
  ·refine .inr ⟨e1.trans e2,?_⟩;rcases h1 with h1|⟨f1,h1⟩
   ·rcases h2 with h2|⟨f2,h2⟩
    ·exact .inl (D4 h1 (by omega))
    ·rw[f2]at h1;exact .inl h1
   ·rcases h2 with h2|⟨f2,h2⟩
    ·rw[f1];exact .inl h2
    ·exact .inr ⟨f1.trans f2,by omega⟩
theorem L7(r s:Ru):Of r s∨r=s∨Of s r:=by
 unfold Of;have w1:=AD r.left s.left;have w2:=AD r.right s.right;by_cases h1:Ae r.left s.left=0
 ·have e1:=(Cf _ _).1 h1;by_cases h2:Ae r.right s.right=0
  ·have e2:=(Cf _ _).1 h2;rcases Int.lt_trichotomy r.cost s.cost with h|h|h
   ·exact .inl (.inr ⟨e1,.inr ⟨e2,h⟩⟩)
   ·exact .inr (.inl (by cases r;cases s;simp_all))
   ·exact .inr (.inr (.inr ⟨e1.symm,.inr ⟨e2.symm,h⟩⟩))
  ·by_cases h3:Ae r.right s.right<0
   ·exact .inl (.inr ⟨e1,.inl h3⟩)
   ·exact .inr (.inr (.inr ⟨e1.symm,.inl (by omega)⟩))
 ·by_cases h3:Ae r.left s.left<0
  ·exact .inl (.inl h3)
  ·exact .inr (.inr (.inl (by omega)))
theorem T7{r s t:Ru}(h1:¬Of r s)(h2:¬Of s t):¬Of r t:=fun h=>by
 rcases L7 r s with h3|h3|h3
 ·exact h1 h3
 ·exact h2 (h3▸h)
 ·exact h2 (IP h3 h)
def rs(l:List Ru):List D:=l.map ru
theorem Wy{a b:List Int}(h:is a=is b):a=b:=by
 have:=congrArg (List.map fun d=>match d with|D.int _ z=>z|_=>0) h;simpa[is,List.map_map,Function.comp_def]using this
theorem bZ{r s:Ru}(h:ru r=ru s):r=s:=by
 unfold ru at h;simp only[D.agg.injEq,List.cons.injEq,D.sl.injEq,D.int.injEq,true_and,and_true]at h;obtain⟨h1,h2,h3⟩:=h;cases r;cases s;simp only at h1 h2 h3;rw[Wy h1,Wy h2,h3]
open Classical in
noncomputable def S9(d:D):Ru:=if h:∃r,d=ru r then h.choose else default
theorem Qr(r:Ru):S9 (ru r)=r:=by
 unfold S9;have h:∃r',ru r=ru r':=⟨r,rfl⟩
 rw[dif_pos h];exact(bZ h.choose_spec).symm
theorem dK{xs ys:List Ru}(hok:∀r∈xs,r.ok)(h0:0<xs.length)(hmax:xs.length<4611686018427387904)(hp:ys.Perm xs)(hs:ys.Pairwise (fun a b=>¬Of b a)) :
 Ai Tryz.prog 155 [.own 0 xs.length,.d (.fn 156)] [(0,.row 77 3 (rs xs))] (.tup []) [(0,.row 77 3 (rs ys))] 1:=by
 have eg:∀args w,(callFunc 156 args).run Tryz.prog w= .ok (.enter 156 args) w:=enters_of Tryz.func156 (by kernel_rfl) rfl;have hlen:(rs xs).length=xs.length:=by simp[rs]
 have gd:∀x,(∃r:Ru,r.ok∧x=ru r)→ru (S9 x)=x∧(S9 x).ok:=fun x ⟨r,h1,h2⟩=>by rw[h2,Qr];exact⟨rfl,h1⟩
 have:=Te (P:=Tryz.prog) Tryz.sortRule (sz:=3) (by decide) Tryz.isAgg77 Tryz.sizeOf77 eg (Good:=fun x=>∃r:Ru,r.ok∧x=ru r) (cf:=fun x y=>Xl (S9 x) (S9 y))
  (fun x y hx hy=>by
    have:=X8 (gd x hx).2 (gd y hy).2
    rwa [(gd x hx).1,(gd y hy).1]at this)
  (fun x hx=>by rw[Kb];exact Qg _) (fun x y z _ _ _ h1 h2=>by rw[Kb]at *;exact IP h1 h2) (fun x y z _ _ _ h1 h2=>by rw[Kb]at *;exact T7 h1 h2)
  (fun x y hx hy h1 h2=>by
    rw[Kb]at h1 h2;rcases L7 (S9 x) (S9 y)with h|h|h
    ·exact absurd h h1
    ·rw[← (gd x hx).1,← (gd y hy).1,h]
    ·exact absurd h h2)
  (fun x ⟨r,_,h⟩=>⟨_,h⟩) (e:=77) (xs:=rs xs) (ys:=rs ys) (fun x hx=>by
    obtain⟨r,hr,rfl⟩:=List.mem_map.1 hx;exact⟨r,hok r hr,rfl⟩) (by rw[hlen];exact h0) (by rw[hlen];exact hmax) (hp.map ru) (by
    unfold rs;rw[List.pairwise_map];exact hs.imp (fun{a b} h=>by rw[Qr,Qr,Kb];exact h))
 rw[hlen]at this;exact this
end Go.Eng.Tryz

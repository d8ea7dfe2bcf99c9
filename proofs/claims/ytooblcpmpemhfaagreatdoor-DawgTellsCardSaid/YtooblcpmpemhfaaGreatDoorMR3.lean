/- Automata: whether they may be. (and what stands behind it: texts laid together) -/
import Derived.Test.YtooblcpmpemhfaaGreatDoorMG4
import Derived.Test.YtooblcpmpemhfaaGreatDoorMR2
import Derived.Shelf.SlSortCmp.WholeK
import Derived.Shelf.SlGeneric
import Derived.Ground.SlsfProg
import Derived.Test.YtooblcpmpemhfaaGreatDoorProg
import Derived.Test.YtooblcpmpemhfaaGreatDoorMH1
set_option linter.unusedVariables false
set_option linter.unusedSimpArgs false
open Go Go.Eng Go.Proofs Go.RowKit
set_option maxHeartbeats 32000000
set_option maxRecDepth 100000
namespace Go.Eng.Tryz
attribute [local go_sem] Aq As
structure Ar where
 sign:Int
 to:Int
deriving DecidableEq
instance:Inhabited Ar:=⟨⟨0,0⟩⟩
structure AB where
 final:Bool
 arcs:List Ar
deriving DecidableEq
instance:Inhabited AB:=⟨⟨false,[]⟩⟩
def ar(a:Ar):D:=.agg [.int .i64 a.sign,.int .i64 a.to]
def Gu(l:List Ar):List D:=l.map ar
def MO(s:AB):D:=.agg [.bool s.final,.sl 2 (Gu s.arcs)]
def AH(l:List AB):List D:=l.map MO
theorem AU{l:List Ar}:(Gu l).length=l.length:=by simp[Gu]
theorem AW{l:List Ar}{k:Nat}(h:k<l.length):(Gu l)[k]? =some (.agg [.int .i64 (l[k]!).sign,.int .i64 (l[k]!).to]):=by
 simp[Gu,ar,List.getElem?_eq_getElem h,getElem!_pos l k h]
theorem AG{l:List AB}:(AH l).length=l.length:=by simp[AH]
theorem AD{l:List AB}{k:Nat}(h:k<l.length):(AH l)[k]? =some (.agg [.bool (l[k]!).final,.sl 2 (Gu (l[k]!).arcs)]):=by
 simp[AH,MO,List.getElem?_eq_getElem h,getElem!_pos l k h]
attribute [local go_sem] AU AW AG AD
def BZ(l:List AB):Prop:=l.length≤9223372036854775807∧∀s∈l,s.arcs.length≤9223372036854775807
theorem BZ.get{l:List AB}(h:BZ l){k:Nat}(hk:k<l.length):(l[k]!).arcs.length≤9223372036854775807:=by
 rw[getElem!_pos l k hk];exact h.2 _ (List.getElem_mem hk)
def Da(i n last:Int)(a:Ar):Bool:=decide (last<a.sign)&&BN a.sign&&decide (i<a.to)&&decide (a.to<n)
def AR(i n:Int):Int→List Ar→Bool
 |_,[]=>true
 |last,a::t=>Da i n last a&&AR i n a.sign t
def BS:Int→List Ar→Int
 |last,[]=>last
 |_,a::t=>BS a.sign t
def FU(i n:Int):Int→List Ar→Int
 |last,[]=>last
 |last,a::t=>if Da i n last a=true then FU i n a.sign t else a.sign
def E9(i n:Int):Int→List Ar→Int
 |_,[] => -1
 |last,a::t=>if Da i n last a=true then(if E9 i n a.sign t<0 then -1 else E9 i n a.sign t+1)else 0
theorem IO(last:Int)(l:List Ar)(a:Ar):BS last (l++[a])=a.sign:=by
 induction l generalizing last with
 |nil=>rfl
 |cons b l ih=>exact ih _
theorem Gq(i n last:Int)(l t:List Ar):AR i n last (l++t)=(AR i n last l&&AR i n (BS last l) t):=by
 induction l generalizing last with
 |nil=>simp[AR,BS]
 |cons b l ih=>simp only[List.cons_append,AR,BS,ih,Bool.and_assoc]
theorem JX{i n last:Int}{l t:List Ar}(h:AR i n last l=true):FU i n last (l++t)=FU i n (BS last l) t:=by
 induction l generalizing last with
 |nil=>rfl
 |cons b l ih =>
  simp only[AR,Bool.and_eq_true]at h;simp only[List.cons_append,FU,h.1,if_true,BS,ih h.2]
theorem M3(i n:Int):∀(l:List Ar) (last:Int),decide (0≤E9 i n last l) = !AR i n last l
 | [],_=>rfl
 |a::t,last=>by
  have ih:=M3 i n t a.sign;have e1:AR i n last (a::t)=(Da i n last a&&AR i n a.sign t):=rfl;by_cases h:Da i n last a=true
  ·have e:E9 i n last (a::t)=if E9 i n a.sign t<0 then -1 else E9 i n a.sign t+1:=by simp[E9,h]
   rw[e1,h,Bool.true_and,← ih];generalize E9 i n last (a::t)=v at e ⊢;generalize E9 i n a.sign t=u at e ⊢;subst e;by_cases h2:u<0
   ·simp[h2]
   ·simp[h2];omega
  ·have e:E9 i n last (a::t)=0:=by simp[E9,h]
   rw[e,e1];simp only[Bool.not_eq_true]at h;rw[h];rfl
theorem PL{i n last:Int}{l t:List Ar}(h:AR i n last l=true)(h2:0≤E9 i n (BS last l) t):E9 i n last (l++t)=l.length+E9 i n (BS last l) t:=by
 induction l generalizing last with
 |nil=>simp[BS]
 |cons b l ih =>
  simp only[AR,Bool.and_eq_true]at h;have:=ih h.2 h2;simp only[List.cons_append,E9,h.1,if_true,BS];rw[this,if_neg (by simp only[BS]at h2 ⊢;omega)];simp only[List.length_cons,BS];omega
theorem Om{i n last:Int}{l:List Ar}(h:AR i n last l=true):E9 i n last l = -1:=by
 induction l generalizing last with
 |nil=>rfl
 |cons b l ih =>
  simp only[AR,Bool.and_eq_true]at h;simp only[E9,h.1,if_true,ih h.2];decide
theorem OZ{i n last:Int}{l:List Ar}(h:AR i n last l=true):FU i n last l=BS last l:=by
 have:=JX (t:=[]) h;simpa[FU]using this
theorem Ak{α:Type}[Inhabited α]{l:List α}{k:Nat}(h:k<l.length):l.take (k+1)=l.take k++[l[k]!]:=by
 rw[List.take_add_one,List.getElem?_eq_getElem h,getElem!_pos l k h];rfl
theorem Jn{α:Type}[Inhabited α]{l:List α}{k:Nat}(h:k<l.length):l.drop k=l[k]!::l.drop (k+1):=by
 rw[getElem!_pos l k h];exact List.drop_eq_getElem_cons h
def BM(l:List AB)(k:Nat):Bool:=(List.range k).all fun i=>AR i l.length (-1) (l[i]!).arcs
theorem FV(l:List AB)(k:Nat):BM l (k+1)=(BM l k&&AR k l.length (-1) (l[k]!).arcs):=by simp[BM,List.range_succ]
def achk(l:List AB):Bool:=BM l l.length&&decide (0<l.length∧l.length≤6001)
theorem HJ{l:List AB}{k:Nat}(h:BM l l.length=true)(hk:k<l.length):AR k l.length (-1) (l[k]!).arcs=true:=List.all_eq_true.1 h k (List.mem_range.2 hk)
theorem Qb{l:List AB}{k:Nat}(hk:k<l.length)(h:AR k l.length (-1) (l[k]!).arcs=false):achk l=false:=by
 unfold achk;cases hs:BM l l.length
 ·rfl
 ·rw[HJ hs hk]at h;cases h
theorem QI{last i:Int}{l:List AB}{a:Ar}(hl:l.length≤9223372036854775807):Ac Tryz.prog 129 [.d (ar a),.ref 0 0,.ref 1 0,.ref 2 0]
 [(0,.var [.d (.int .i64 last)]),(1,.var [.d (.int .i64 i)]),(2,.var [.d (.sl 2 (AH l))])] (.d (.bool (!Da i l.length last a))) [(0,.var [.d (.int .i64 a.sign)]),(1,.var [.d (.int .i64 i)]),(2,.var [.d (.sl 2 (AH l))])] 3:=by
 have cg:=Kx (z:=a.sign);unfold ar;by_cases h1:a.sign≤last
 ·have e:Da i l.length last a=false:=by unfold Da;rw[decide_eq_false (by omega)];rfl
  rw[e];refine Ac.run (N:=33) (ks:=[0,1,2]) Tryz.func129 rfl (by kernel_rfl) rfl rfl rfl (by exact FK) fun X_ ν_ w_=>?_;have c0_:=cg;refine Aw ?_;try exact trivial
 have e1:Da i l.length last a=(BN a.sign&&decide (i<a.to)&&decide (a.to<l.length)):=by unfold Da;rw[decide_eq_true (by omega)];rfl
 rw[e1];cases h2:BN a.sign
 ·rw[h2]at cg;refine Ac.run (N:=33) (ks:=[0,1,2]) Tryz.func129 rfl (by kernel_rfl) rfl rfl rfl (by exact FK) fun X_ ν_ w_=>?_;have c0_:=cg;refine AI @Bool.false_and ?_;try exact trivial
 rw[h2]at cg;by_cases h3:a.to≤i
 ·have e:(true&&decide (i<a.to)&&decide (a.to<l.length))=false:=by rw[decide_eq_false (by omega)];rfl
  rw[e];refine Ac.run (N:=33) (ks:=[0,1,2]) Tryz.func129 rfl (by kernel_rfl) rfl rfl rfl (by exact FK) fun X_ ν_ w_=>?_;have c0_:=cg;refine Aw ?_;try exact trivial
 by_cases h4:(l.length:Int)≤a.to
 ·have e:(true&&decide (i<a.to)&&decide (a.to<l.length))=false:=by rw[decide_eq_true (by omega),decide_eq_false (by omega)];rfl
  rw[e];refine Ac.run (N:=33) (ks:=[0,1,2]) Tryz.func129 rfl (by kernel_rfl) rfl rfl rfl (by exact FK) fun X_ ν_ w_=>?_;have c0_:=cg;refine Aw ?_;try exact trivial
 ·have e:(true&&decide (i<a.to)&&decide (a.to<l.length))=true:=by rw[decide_eq_true (by omega),decide_eq_true (by omega)];rfl
  rw[e];refine Ac.run (N:=33) (ks:=[0,1,2]) Tryz.func129 rfl (by kernel_rfl) rfl rfl rfl (by exact FK) fun X_ ν_ w_=>?_;have c0_:=cg;refine Aw ?_;try exact trivial
def SP(last i:Int)(l:List AB):A8:=[(0,.var [.d (.int .i64 last)]),(1,.var [.d (.int .i64 i)]),(2,.var [.d (.sl 2 (AH l))])]
theorem QT{last i:Int}{l:List AB}{al:List Ar}(hl:l.length≤9223372036854775807)(ha:al.length≤9223372036854775807):Ac Tryz.prog 195 [.d (.sl 2 (Gu al)),.fn 129 [.ref 0 0,.ref 1 0,.ref 2 0]]
 (SP last i l) (.d (.int .i64 (E9 i l.length last al))) (SP (FU i l.length last al) i l) 3:=by
 unfold SP;refine Ac.run (N:=19) (ks:=[0,1,2]) Tryz.func195 rfl (by kernel_rfl) rfl rfl rfl (by exact Bb) fun X_ ν_ w_=>?_;refine Aw ?_;try exact trivial
 refine A7 (fun k:Nat=>k≤al.length∧AR i l.length last (al.take k)=true) (fun k=>[(0,.d (.sl 2 (Gu al))),(1,.fn 129 [.ref 0 0,.ref 1 0,.ref 2 0]),(7,.d (.int .i64 al.length)),(8,.d (.int .i64 k))]) (fun k=>[(0,.var [.d (.int .i64 (BS last (al.take k)))]),(1,.var [.d (.int .i64 i)]),(2,.var [.d (.sl 2 (AH l))])]) 3 (fun k=>al.length-k) [0,1,7,8] [0,1,2] 0 ⟨Nat.zero_le _,rfl⟩ rfl rfl (Nat.le_of_ble_eq_true rfl) (fun _ _=>rfl) (fun _ _=>rfl) fun k hk=>?_;obtain⟨hk1,hk2⟩:=hk;by_cases hk3:k<al.length
 ·have cw:=QI (last:=BS last (al.take k)) (i:=i) (a:=al[k]!) hl;have hs:=Ak hk3;have hd:=Jn hk3;unfold ar at cw;cases hb:Da i l.length (BS last (al.take k)) (al[k]!)
  ·rw[hb]at cw;have e1:E9 i l.length last al=k:=by
    have:=PL (t:=al.drop k) hk2 (by rw[hd];simp only[E9,hb];rw[if_neg (by decide)];exact Int.le_refl _);rw[List.take_append_drop]at this;rw[this,hd];simp only[E9,hb,List.length_take];simp only[Bool.false_eq_true,if_false];omega
   have e2:FU i l.length last al=(al[k]!).sign:=by
    have:=JX (t:=al.drop k) hk2;rw[List.take_append_drop]at this;rw[this,hd];simp only[FU,hb,Bool.false_eq_true,if_false]
   rw[e1,e2];have c0_:=cw;refine Aw ?_;try exact trivial
  ·rw[hb]at cw;have e1:=IO last (al.take k) (al[k]!);have e2:AR i l.length last (al.take (k+1))=true:=by rw[hs,Gq,hk2];simp only[AR,hb,Bool.and_true]
   have c0_:=cw;refine Aw ?_;try exact trivial
   refine⟨k+1,⟨by omega,e2⟩,?_,?_,by omega⟩
   ·simp(disch:=omega)only[go_sem,A2,Int.natCast_add,Int.cast_ofNat_Int]
   ·rw[hs,e1];simp(disch:=omega)only[go_sem,A2]
 ·have hkl:k=al.length:=by omega
  subst hkl;rw[List.take_length]at hk2 ⊢;rw[Om hk2,OZ hk2];refine Aw ?_;try exact trivial
theorem Sb{last i:Int}{l:List AB}{al:List Ar}(hl:l.length≤9223372036854775807)(ha:al.length≤9223372036854775807):Ac Tryz.prog 131 [.d (.sl 2 (Gu al)),.fn 129 [.ref 0 0,.ref 1 0,.ref 2 0]]
 (SP last i l) (.d (.bool (!AR i l.length last al))) (SP (FU i l.length last al) i l) 3:=by
 have ci:=QT (last:=last) (i:=i) hl ha;have e:=M3 i l.length al last;unfold SP at ci ⊢;refine Ac.run (N:=9) (ks:=[0,1,2]) Tryz.func131 rfl (by kernel_rfl) rfl rfl rfl (by exact Bb) fun X_ ν_ w_=>?_;have c0_:=ci;refine AI @e ?_;try exact trivial
theorem QW{l:List AB}(hl:BZ l):A1 Tryz.prog 66 [.sl 2 (AH l)] (.bool (achk l)):=by
 obtain⟨hlen,hal⟩:=id hl;refine A1.run (N:=28) Tryz.func66 rfl (by kernel_rfl) rfl rfl rfl (by exact Ab) fun X_ w_=>?_;refine Aw ?_;try exact trivial
 refine A7 (fun k:Nat=>k≤l.length∧BM l k=true) (fun k=>[(1,.ref 0 0),(7,.d (.sl 2 (AH l))),(8,.d (.int .i64 l.length)),(9,.d (.int .i64 k))]) (fun k=>[(0,.var [.d (.sl 2 (AH l))])]) 1 (fun k=>l.length-k) [1,7,8,9] [0] 0 ⟨Nat.zero_le _,rfl⟩ rfl rfl (Nat.zero_le _) (fun _ _=>rfl) (fun _ _=>rfl) fun k hk=>?_;obtain⟨hk1,hk2⟩:=hk;by_cases hk3:k<l.length
 ·have cc:=Sb (last := -1) (i:=k) (l:=l) (al:=(l[k]!).arcs) hlen (hl.get hk3);unfold SP at cc;cases hb:AR k l.length (-1) (l[k]!).arcs
  ·have e:=Qb hk3 hb;rw[hb]at cc;have c0_:=cc;refine AI @e ?_;try exact trivial
  ·rw[hb]at cc;have hst:=FV l k;have c0_:=cc;refine Aw ?_;try exact trivial
   refine⟨k+1,⟨by omega,by rw[hst,hk2,hb];rfl⟩,?_,?_,by omega⟩
   ·simp(disch:=omega)only[go_sem,A2,Int.natCast_add,Int.cast_ofNat_Int]
   ·simp(disch:=omega)only[go_sem,A2]
 ·have hkl:k=l.length:=by omega
  subst hkl;by_cases h0:0<l.length
  ·by_cases h1:l.length≤6001
   ·have e:achk l=true:=by unfold achk;rw[hk2,decide_eq_true ⟨h0,h1⟩];rfl
    refine AI @e ?_;try exact trivial
   ·have e:achk l=false:=by unfold achk;rw[decide_eq_false (by omega)];simp
    refine AI @e ?_;try exact trivial
  ·have e:achk l=false:=by unfold achk;rw[decide_eq_false (by omega)];simp
   refine AI @e ?_;try exact trivial
end Go.Eng.Tryz
namespace Go.Eng.Tryz
theorem R7{x:Int}{l:List Int}:is (x::l)= .int .i64 x::is l:=rfl
attribute [local go_sem] Aq As Hf Hg
structure Se where
 eat:Int
 put:List Int
 any:Bool
 cost:Int
deriving DecidableEq
instance:Inhabited Se:=⟨⟨0,[],false,0⟩⟩
def se(s:Se):D:=.agg [.int .i64 s.eat,.sl 1 (is s.put),.bool s.any,.int .u64 s.cost]
def Rz(l:List Se):List D:=l.map se
theorem Qw{l:List Se}:(Rz l).length=l.length:=by simp[Rz]
theorem Qx{l:List Se}{k:Nat}(h:k<l.length):(Rz l)[k]? =some (.agg [.int .i64 (l[k]!).eat,.sl 1 (is (l[k]!).put),.bool (l[k]!).any,.int .u64 (l[k]!).cost]):=by
 simp[Rz,se,List.getElem?_eq_getElem h,getElem!_pos l k h]
theorem P2{l:List Se}{e p:_}{a:Bool}{c:Int}:Rz l++[.agg [.int .i64 e,.sl 1 (is p),.bool a,.int .u64 c]]=Rz (l++[⟨e,p,a,c⟩]):=by simp[Rz,se]
attribute [local go_sem] Qw Qx P2
theorem MX{l:List Int}(hl:l.length≤1000000):A1 Tryz.prog 109 [.sl 1 (is l)] (.sl 1 (is l)):=by
 cases l with
 |nil =>
  have h1:A1 Tryz.prog 109 [.nils] .nils:=by
   refine A1.run (N:=8) Tryz.func109 rfl (by kernel_rfl) rfl rfl rfl (by exact Ab) fun X_ w_=>?_;refine Aw ?_;try exact trivial
  have h2:A1 Tryz.prog 109 [.emp 1] (.sl 1 []):=by
   refine A1.run (N:=8) Tryz.func109 rfl (by kernel_rfl) rfl rfl rfl (by exact Ab) fun X_ w_=>?_;refine Aw ?_;try exact trivial
  exact A1.nil_at (sz:=1) 0 rfl (h1.wk (Kt.refl _) (.nil 1)) h2
 |cons x l =>
  simp only[List.length_cons]at hl;refine A1.run (N:=8) Tryz.func109 rfl (by kernel_rfl) rfl rfl rfl (by exact Ab) fun X_ w_=>?_;refine AI @R7 ?_;try exact trivial
def St(Y:Ym)(xs:List Se):A8:=[(0,.loop Y [(6,.ref 1 0)] .ready),(1,.var [.own 2 xs.length]),(2,.row 223 4 (Rz xs))]
end Go.Eng.Tryz
namespace Go.Eng.Tryz
attribute [local go_sem] Aq As
def AZ(l:List (List Int)):List D:=l.map fun w=>.sl 1 (is w)
theorem AK{l:List (List Int)}:(AZ l).length=l.length:=by simp[AZ]
theorem AO{l:List (List Int)}{k:Nat}(h:k<l.length):(AZ l)[k]? =some (.sl 1 (is (l[k]!))):=by
 simp[AZ,List.getElem?_eq_getElem h,getElem!_pos l k h]
theorem Bz{l:List (List Int)}{w:List Int}:AZ l++[.sl 1 (is w)]=AZ (l++[w]):=by simp[AZ]
attribute [local go_sem] AK AO Bz
def BY(l:List (List Int)):Prop:=l.length≤9223372036854775807∧∀w∈l,w.length≤9223372036854775807
theorem BY.get{l:List (List Int)}(h:BY l){k:Nat}(hk:k<l.length):(l[k]!).length≤9223372036854775807:=by
 rw[getElem!_pos l k hk];exact h.2 _ (List.getElem_mem hk)
def EB(z:Int):Bool := !BN z||Jg z
theorem TZ{z:Int}:A1 Tryz.prog 142 [.int .i64 z] (.bool (EB z)):=by
 have cg:=Kx (z:=z);cases hg:BN z
 ·have e:EB z=true:=by unfold EB;rw[hg];rfl
  rw[hg]at cg;refine A1.run (N:=18) Tryz.func142 rfl (by kernel_rfl) rfl rfl rfl (by exact Ab) fun X_ w_=>?_;have c0_:=cg;refine AI @e ?_;try exact trivial
 have eb:EB z=Jg z:=by unfold EB;rw[hg];rfl
 rw[hg]at cg;rw[eb];by_cases h1:z=32
 ·subst h1;have e:Jg 32=true:=by decide
  refine A1.run (N:=18) Tryz.func142 rfl (by kernel_rfl) rfl rfl rfl (by exact Ab) fun X_ w_=>?_;have c0_:=cg;refine AI @e ?_;try exact trivial
 by_cases h2:z=9
 ·subst h2;have e:Jg 9=true:=by decide
  refine A1.run (N:=18) Tryz.func142 rfl (by kernel_rfl) rfl rfl rfl (by exact Ab) fun X_ w_=>?_;have c0_:=cg;refine AI @e ?_;try exact trivial
 by_cases h3:z=10
 ·subst h3;have e:Jg 10=true:=by decide
  refine A1.run (N:=18) Tryz.func142 rfl (by kernel_rfl) rfl rfl rfl (by exact Ab) fun X_ w_=>?_;have c0_:=cg;refine AI @e ?_;try exact trivial
 ·have e:=NI (z:=z) (by omega);refine A1.run (N:=18) Tryz.func142 rfl (by kernel_rfl) rfl rfl rfl (by exact Ab) fun X_ w_=>?_;have c0_:=cg;refine AI (And.intro @e (And.intro @h1 (And.intro @h2 @h3))) ?_;try exact trivial
def BC(w:List Int):Bool:=decide (0<w.length∧w.length≤20)&&decide (w[0]!≠35) && !w.any EB
theorem T0{w:List Int}(hw:w.length≤9223372036854775807):A1 Tryz.prog 82 [.sl 1 (is w)] (.bool (BC w)):=by
 have c1:=OC (p:=EB) (g:=142) (fun z=>TZ) hw;by_cases h0:0<w.length
 ·by_cases h1:w.length≤20
  ·by_cases h2:w[0]! =35
   ·have e:BC w=false:=by unfold BC;rw[decide_eq_false (p:=w[0]!≠35) (fun h=>h h2)];simp
    rw[e];refine A1.run (N:=24) Tryz.func82 rfl (by kernel_rfl) rfl rfl rfl (by exact Ab) fun X_ w_=>?_;have c0_:=c1;refine AI @h2 ?_;try exact trivial
   ·have e:BC w = !w.any EB:=by unfold BC;rw[decide_eq_true ⟨h0,h1⟩,decide_eq_true (p:=w[0]!≠35) h2];rfl
    rw[e];refine A1.run (N:=24) Tryz.func82 rfl (by kernel_rfl) rfl rfl rfl (by exact Ab) fun X_ w_=>?_;have c0_:=c1;refine AI @h2 ?_;try exact trivial
  ·have e:BC w=false:=by unfold BC;rw[decide_eq_false (by omega)];rfl
   rw[e];refine A1.run (N:=24) Tryz.func82 rfl (by kernel_rfl) rfl rfl rfl (by exact Ab) fun X_ w_=>?_;have c0_:=c1;refine Aw ?_;try exact trivial
 ·have e:BC w=false:=by unfold BC;rw[decide_eq_false (by omega)];rfl
  rw[e];refine A1.run (N:=24) Tryz.func82 rfl (by kernel_rfl) rfl rfl rfl (by exact Ab) fun X_ w_=>?_;have c0_:=c1;refine Aw ?_;try exact trivial
theorem KM{w:List Int}(hw:w.length≤9223372036854775807):A1 Tryz.prog 81 [.sl 1 (is w)] (.bool (!BC w)):=by
 have c:=T0 hw;refine A1.run (N:=6) Tryz.func81 rfl (by kernel_rfl) rfl rfl rfl (by exact Ab) fun X_ w_=>?_;have c0_:=c;refine Aw ?_;try exact trivial
theorem Su{p:List Int→Bool}{g:Nat}(hp:∀w,w.length≤9223372036854775807→A1 Tryz.prog g [.sl 1 (is w)] (.bool (p w))){l:List (List Int)}(hl:BY l):A1 Tryz.prog 144 [.sl 1 (AZ l),.fn g] (.int .i64 (Mf p l)):=by
 have hlen:=hl.1;refine A1.run (N:=19) Tryz.func144 rfl (by kernel_rfl) rfl rfl rfl (by exact An) fun X_ w_=>?_;refine Aw ?_;try exact trivial
 refine A7 (fun k:Nat=>k≤l.length∧(l.take k).any p=false) (fun k=>[(0,.d (.sl 1 (AZ l))),(1,.d (.fn g)),(7,.d (.int .i64 l.length)),(8,.d (.int .i64 k))]) (fun _=>[]) 0 (fun k=>l.length-k) [0,1,7,8] [] 0 ⟨Nat.zero_le _,rfl⟩ rfl rfl (Nat.le_refl _) (fun _ _=>rfl) (fun _ _=>rfl) fun k hk=>?_;obtain⟨hk1,hw⟩:=hk;by_cases hk':k<l.length
 ·have c:=hp (l[k]!) (hl.get hk');cases hg:p (l[k]!)
  ·have hst:=Mz (p:=p) hk' hw hg;rw[hg]at c;have c0_:=c;refine Aw ?_;try exact trivial
   refine⟨k+1,⟨by omega,hst⟩,?_,rfl,by omega⟩;simp(disch:=omega)only[go_sem,A2,Int.natCast_add,Int.cast_ofNat_Int]
  ·have e:=NB (p:=p) hk' hw hg;rw[hg]at c;have c0_:=c;refine AI @e ?_;try exact trivial
 ·have hkl:k=l.length:=by omega
  subst hkl;rw[List.take_length]at hw;have e:=Kh hw;refine AI @e ?_;try exact trivial
theorem FG{p:List Int→Bool}{g:Nat}(hp:∀w,w.length≤9223372036854775807→A1 Tryz.prog g [.sl 1 (is w)] (.bool (p w))){l:List (List Int)}(hl:BY l):A1 Tryz.prog 83 [.sl 1 (AZ l),.fn g] (.bool (l.any p)):=by
 have e:=NA p l;refine A1.run (N:=9) Tryz.func83 rfl (by kernel_rfl) rfl rfl rfl (by exact An) fun X_ w_=>?_;have c0_:=Su hp hl;refine AI @e ?_;try exact trivial
theorem RB{a b:List Int}(ha:a.length≤9223372036854775807)(hb:b.length≤9223372036854775807):A1 Tryz.prog 86 [.sl 1 (is a),.sl 1 (is b)] (.int .i64 (Aj a b)):=by
 have c:=GC ha hb;refine A1.run (N:=8) Tryz.func86 rfl (by kernel_rfl) rfl rfl rfl (by exact An) fun X_ w_=>?_;have c0_:=c;refine Aw ?_;try exact trivial
theorem T8{a b:List Int}(ha:a.length≤9223372036854775807)(hb:b.length≤9223372036854775807):A1 Tryz.prog 146 [.sl 1 (is a),.sl 1 (is b)] (.int .i64 (Aj a b)):=by
 have c:=GC ha hb;refine A1.run (N:=8) Tryz.func146 rfl (by kernel_rfl) rfl rfl rfl (by exact An) fun X_ w_=>?_;have c0_:=c;refine Aw ?_;try exact trivial
theorem S9{a b:List Int}(ha:a.length≤9223372036854775807)(hb:b.length≤9223372036854775807):A1 Tryz.prog 148 [.sl 1 (is a),.sl 1 (is b)] (.bool (decide (a=b))):=by
 have c:=RT ha hb;refine A1.run (N:=8) Tryz.func148 rfl (by kernel_rfl) rfl rfl rfl (by exact An) fun X_ w_=>?_;have c0_:=c;refine Aw ?_;try exact trivial
def CF(l:List (List Int)):Prop:=l.Pairwise fun a b=>Aj a b<0
theorem CF.at{l:List (List Int)}(h:CF l){i j:Nat}(hij:i<j)(hj:j<l.length):Aj (l[i]!) (l[j]!)<0:=by
 rw[getElem!_pos l i (by omega),getElem!_pos l j hj];exact List.pairwise_iff_getElem.1 h i j (by omega) hj hij
theorem K0{l:List (List Int)}(hl:BY l)(hs:CF l):A1 Tryz.prog 85 [.sl 1 (AZ l),.fn 86] (.bool true):=by
 have hlen:=hl.1;refine A1.run (N:=25) Tryz.func85 rfl (by kernel_rfl) rfl rfl rfl (by exact An) fun X_ w_=>?_;by_cases h0:l.length=0
 ·refine AI @h0 ?_;try exact trivial
  refine H4 ?_;refine Aw ?_;try exact trivial
 obtain⟨n,hn⟩:∃n,l.length=n+1:=⟨l.length-1,by omega⟩
 have en:(l.length:Int)-1=n:=by omega
 refine AI @en ?_;try exact trivial
 refine A7 (fun k:Nat=>k≤n) (fun k=>[(0,.d (.sl 1 (AZ l))),(1,.d (.fn 86)),(5,.d (.int .i64 k))]) (fun _=>[]) 0 (fun k=>k) [0,1,5] [] n (Nat.le_refl _) rfl rfl (Nat.le_refl _) (fun _ _=>rfl) (fun _ _=>rfl) fun k hk=>?_;by_cases hk0:k=0
 ·subst hk0;refine Aw ?_;try exact trivial
 ·obtain⟨m,rfl⟩:∃m,k=m+1:=⟨k-1,by omega⟩
  have em:((m+1:Nat):Int)-1=m:=by omega
  have c:=RB (hl.get (k:=m+1) (by omega)) (hl.get (k:=m) (by omega));have h1:=hs.at (i:=m) (j:=m+1) (by omega) (by omega)
  have h2:=Ao (l[m]!) (l[m+1]!);have h3:¬Aj (l[m+1]!) (l[m]!)<0:=by omega
  have c0_:=c;refine AI (And.intro @em @h3) ?_;try exact trivial
  refine⟨m,by omega,?_,rfl,by omega⟩;simp(disch:=omega)only[go_sem,A2,em]
theorem LO{l:List (List Int)}(hl:BY l)(hs:CF l)(h0:0<l.length):Ac Tryz.prog 147 [.own 0 l.length,.d (.fn 148)] [(0,.row 57 1 (AZ l))] (.own 0 l.length) [(0,.row 57 1 (AZ l))] 1:=by
 have hlen:=hl.1;refine Ac.run (N:=66) (ks:=[0]) Tryz.func147 rfl (by kernel_rfl) rfl rfl rfl (by exact Bb) fun X_ ν_ w_=>?_;by_cases h1:l.length<2
 ·refine Aw ?_;try exact trivial
 refine Aw ?_;try exact trivial
 refine A7 (fun k:Nat=>1≤k∧k≤l.length) (fun k=>[(0,.own 0 l.length),(1,.d (.fn 148)),(5,.d (.int .i64 k))]) (fun _=>[(0,.row 57 1 (AZ l))]) 1 (fun k=>l.length-k) [0,1,5] [0] 1 ⟨Nat.le_refl _,by omega⟩ rfl rfl (Nat.le_of_ble_eq_true rfl) (fun _ _=>rfl) (fun _ _=>rfl) fun k hk=>?_;obtain⟨hk1,hk2⟩:=hk;by_cases hk3:k<l.length
 ·obtain⟨m,rfl⟩:∃m,k=m+1:=⟨k-1,by omega⟩
  have em:((m+1:Nat):Int)-1=m:=by omega
  have c:=S9 (hl.get (k:=m+1) (by omega)) (hl.get (k:=m) (by omega));have h1:=hs.at (i:=m) (j:=m+1) (by omega) (by omega)
  have h2:decide (l[m+1]! =l[m]!)=false:=decide_eq_false fun e=>by
   rw[e]at h1;have:=(C2 (l[m]!) (l[m]!)).2 rfl;omega
  rw[h2]at c;have c0_:=c;refine AI @em ?_;try exact trivial
  refine⟨m+1+1,⟨by omega,by omega⟩,?_,?_,by omega⟩
  ·simp(disch:=omega)only[go_sem,A2,Int.natCast_add,Int.cast_ofNat_Int]
  ·simp(disch:=omega)only[go_sem,A2]
 ·have hkl:k=l.length:=by omega
  subst hkl;refine Aw ?_;try exact trivial
end Go.Eng.Tryz
namespace Go.Proofs
open Go.Shelf Go.RowKit Go.Lib Go.Sort
def Tryz.sortWord_ren:Go.Shelf.Ren:=⟨fun|6=>145|15=>123|14=>206|28=>189|29=>190|20=>233|21=>234|22=>235|23=>236|24=>237|25=>238|26=>239|27=>240|46=>265|47=>223|48=>224|49=>266|50=>267|57=>278|n=>n,fun|22=>22|24=>57|25=>73|3=>3|39=>176|0=>0|53=>204|55=>33|4=>4|46=>232|45=>231|50=>166|5=>5|9=>9|66=>261|70=>264|76=>292|77=>293|n=>n,fun|n=>n⟩
theorem Tryz.sortWord:Go.Proofs.SlLaysF.n6 Tryz.prog Tryz.sortWord_ren:={
 mixed:=by kernel_rfl
 f6:=⟨Tryz.f145.name,by decide,Tryz.func145.trans (congrArg some (by kernel_rfl))⟩
 f14:=⟨Tryz.f206.name,by decide,Tryz.func206.trans (congrArg some (by kernel_rfl))⟩
 f15:=Tryz.func123.trans (congrArg some (by kernel_rfl))
 f20:=⟨Tryz.f233.name,by decide,Tryz.func233.trans (congrArg some (by kernel_rfl))⟩
 f21:=⟨Tryz.f234.name,by decide,Tryz.func234.trans (congrArg some (by kernel_rfl))⟩
 f22:=⟨Tryz.f235.name,by decide,Tryz.func235.trans (congrArg some (by kernel_rfl))⟩
 f23:=⟨Tryz.f236.name,by decide,Tryz.func236.trans (congrArg some (by kernel_rfl))⟩
 f24:=⟨Tryz.f237.name,by decide,Tryz.func237.trans (congrArg some (by kernel_rfl))⟩
 f25:=⟨Tryz.f238.name,by decide,Tryz.func238.trans (congrArg some (by kernel_rfl))⟩
 f26:=⟨Tryz.f239.name,by decide,Tryz.func239.trans (congrArg some (by kernel_rfl))⟩
 f27:=⟨Tryz.f240.name,by decide,Tryz.func240.trans (congrArg some (by kernel_rfl))⟩
 f28:=Tryz.func189.trans (congrArg some (by kernel_rfl))
 f29:=Tryz.func190.trans (congrArg some (by kernel_rfl))
 f46:=⟨Tryz.f265.name,by decide,Tryz.func265.trans (congrArg some (by kernel_rfl))⟩
 f47:=Tryz.func223.trans (congrArg some (by kernel_rfl))
 f48:=Tryz.func224.trans (congrArg some (by kernel_rfl))
 f49:=⟨Tryz.f266.name,by decide,Tryz.func266.trans (congrArg some (by kernel_rfl))⟩
 f50:=⟨Tryz.f267.name,by decide,Tryz.func267.trans (congrArg some (by kernel_rfl))⟩
 f57:=⟨Tryz.f278.name,by decide,Tryz.func278.trans (congrArg some (by kernel_rfl))⟩
 t0:=Tryz.underlying0
 a0:=Tryz.isAgg0
 z0:=Tryz.sizeOf0
 v0:=Tryz.zeroValue0
 t3:=Tryz.underlying3
 a3:=Tryz.isAgg3
 z3:=Tryz.sizeOf3
 v3:=Tryz.zeroValue3
 t4:=Tryz.underlying4
 a4:=Tryz.isAgg4
 z4:=Tryz.sizeOf4
 v4:=Tryz.zeroValue4
 t5:=Tryz.underlying5
 a5:=Tryz.isAgg5
 z5:=Tryz.sizeOf5
 v5:=Tryz.zeroValue5
 t9:=Tryz.underlying9
 a9:=Tryz.isAgg9
 z9:=Tryz.sizeOf9
 v9:=Tryz.zeroValue9
 t22:=Tryz.underlying22
 a22:=Tryz.isAgg22
 z22:=Tryz.sizeOf22
 v22:=Tryz.zeroValue22
 a24:=Tryz.isAgg57
 z24:=Tryz.sizeOf57
 t25:=Tryz.underlying73
 a25:=Tryz.isAgg73
 z25:=Tryz.sizeOf73
 v25:=Tryz.zeroValue73
 t39:=Tryz.underlying176
 a39:=Tryz.isAgg176
 z39:=Tryz.sizeOf176
 v39:=Tryz.zeroValue176
 t45:=Tryz.underlying231
 a45:=Tryz.isAgg231
 z45:=Tryz.sizeOf231
 v45:=Tryz.zeroValue231
 t46:=Tryz.underlying232
 a46:=Tryz.isAgg232
 z46:=Tryz.sizeOf232
 v46:=Tryz.zeroValue232
 t50:=Tryz.underlying166
 a50:=Tryz.isAgg166
 z50:=Tryz.sizeOf166
 v50:=Tryz.zeroValue166
 t53:=Tryz.underlying204
 a53:=Tryz.isAgg204
 z53:=Tryz.sizeOf204
 v53:=Tryz.zeroValue204
 t55:=Tryz.underlying33
 a55:=Tryz.isAgg33
 z55:=Tryz.sizeOf33
 v55:=Tryz.zeroValue33
 t66:=Tryz.underlying261
 a66:=Tryz.isAgg261
 z66:=Tryz.sizeOf261
 v66:=Tryz.zeroValue261
 t70:=Tryz.underlying264
 a70:=Tryz.isAgg264
 z70:=Tryz.sizeOf264
 v70:=Tryz.zeroValue264
 t76:=Tryz.underlying292
 a76:=Tryz.isAgg292
 z76:=Tryz.sizeOf292
 v76:=Tryz.zeroValue292
 t77:=Tryz.underlying293
 a77:=Tryz.isAgg293
 z77:=Tryz.sizeOf293
 v77:=Tryz.zeroValue293 }
end Go.Proofs
namespace Go.Eng.Tryz
attribute [local go_sem] Aq As AK AO Bz
def U5(x:D):Int:=match x with| .int _ z=>z|_=>0
def Cv(d:D):List Int:=match d with| .sl _ xs=>xs.map U5|_=>[]
theorem Iw(w:List Int):Cv (.sl 1 (is w))=w:=by simp[Cv,is,U5,List.map_map,Function.comp_def]
theorem B0(a:List Int):¬Aj a a<0:=by have:=(C2 a a).2 rfl;omega
theorem Pf{xs ys:List (List Int)}(hok:∀w∈xs,w.length≤9223372036854775807)(h0:0<xs.length)(hmax:xs.length<4611686018427387904)(hp:ys.Perm xs)(hs:ys.Pairwise (fun a b=>¬Aj b a<0)) :
 Ac Tryz.prog 145 [.own 0 xs.length,.d (.fn 146)] [(0,.row 57 1 (AZ xs))] (.tup []) [(0,.row 57 1 (AZ ys))] 1:=by
 have eg:∀args w,(callFunc 146 args).run Tryz.prog w= .ok (.enter 146 args) w:=enters_of Tryz.func146 (by kernel_rfl) rfl;have hlen:(AZ xs).length=xs.length:=AK;have gd:∀x,(∃w:List Int,w.length≤9223372036854775807∧x=D.sl 1 (is w))→D.sl 1 (is (Cv x))=x∧(Cv x).length≤9223372036854775807:=fun x ⟨r,h1,h2⟩=>by rw[h2,Iw];exact⟨rfl,h1⟩
 have:=LG (P:=Tryz.prog) Tryz.sortWord eg (Good:=fun x=>∃w:List Int,w.length≤9223372036854775807∧x=D.sl 1 (is w)) (cf:=fun x y=>Aj (Cv x) (Cv y))
  (fun x y hx hy=>by
    have:=T8 (gd x hx).2 (gd y hy).2
    rwa [(gd x hx).1,(gd y hy).1]at this)
  (fun x hx=>B0 _) (fun x y z _ _ _ h1 h2=>Bh h1 (by omega)) (fun x y z _ _ _ h1 h2=>by
    have a1:=Ao (Cv x) (Cv y);have a2:=Ao (Cv y) (Cv z);have a3:=Ao (Cv x) (Cv z);have:=Bu (Cv z) (Cv y) (Cv x) (by omega) (by omega);omega)
  (fun x y hx hy h1 h2=>by
    have a1:=Ao (Cv x) (Cv y);have e:=(C2 (Cv x) (Cv y)).1 (by omega);rw[← (gd x hx).1,← (gd y hy).1,e])
  (fun x ⟨r,_,h⟩=>by rw[h];rfl) (e:=57) (xs:=AZ xs) (ys:=AZ ys) (fun x hx=>by
    obtain⟨w,hw,rfl⟩:=List.mem_map.1 hx;exact⟨w,hok w hw,rfl⟩) (by rw[hlen];exact h0) (by rw[hlen];exact hmax) (hp.map _) (by
    unfold AZ;rw[List.pairwise_map];exact hs.imp (fun{a b} h=>by rw[Iw,Iw];exact h))
 rw[hlen]at this;exact this
theorem CF.stay{l:List (List Int)}(h:CF l):l.Pairwise (fun a b=>¬Aj b a<0):=h.imp fun{a b} h=>by have:=Ao a b;omega
theorem E8{l:List (List Int)}{k:Nat}(h:k<l.length):l.take (k+1)=l.take k++[l[k]!]:=Ak h
theorem QO{l:List (List Int)}(hl:∀w∈l,w.length≤1000000)(hlen:l.length≤1000000)(h0:0<l.length)(hs:CF l):A1 Tryz.prog 84 [.sl 1 (AZ l)] (.sl 1 (AZ l)):=by
 have hok:∀w∈l,w.length≤9223372036854775807:=fun w hw=>Nat.le_trans (hl w hw) (by decide);have c1:=Pf (xs:=l) (ys:=l) hok h0 (by omega) (List.Perm.refl _) hs.stay;have c2:=LO ⟨by omega,hok⟩ hs h0;refine A1.run (N:=25) Tryz.func84 rfl (by kernel_rfl) rfl rfl rfl (by exact Ab) fun X_ w_=>?_;refine Aw ?_;try exact trivial
 refine A7 (fun k:Nat=>k≤l.length) (fun k=>[(3,.own 1002 (l.take k).length),(9,.d (.sl 1 (AZ l))),(10,.d (.int .i64 l.length)),(11,.d (.int .i64 k))]) (fun k=>[(1002,.row 57 1 (AZ (l.take k)))]) 1003 (fun k=>l.length-k) [3,9,10,11] [1002] 0 (Nat.zero_le _) rfl rfl (Nat.zero_le _) (fun _ _=>rfl) (fun _ _=>rfl) fun k hk=>?_;have hkl:(l.take k).length=k:=by simp;omega
 by_cases hk3:k<l.length
 ·have hst:=E8 hk3;have cl:=MX (l:=l[k]!) (by rw[getElem!_pos l k hk3];exact hl _ (List.getElem_mem hk3));have c0_:=cl;refine AI @hkl ?_;try exact trivial
  refine⟨k+1,by omega,?_,?_,by omega⟩
  ·simp(disch:=omega)only[go_sem,A2,Int.natCast_add,Int.cast_ofNat_Int,hst,hkl,List.length_append,List.length_cons,List.length_nil]
  ·simp(disch:=omega)only[go_sem,A2,hst]
 ·have hke:k=l.length:=by omega
  subst hke;rw[List.take_length];have c0_:=c1;have c1_:=c2;refine Aw ?_;try exact trivial
def Cu(l:List Int):List D:=l.map fun z=>.int .u8 z
theorem DS{l:List Int}:(Cu l).length=l.length:=by simp[Cu]
theorem D9{l:List Int}{z:Int}:Cu l++[.int .u8 z]=Cu (l++[z]):=by simp[Cu]
theorem DT{a b:List Int}:Cu a++Cu b=Cu (a++b):=by simp[Cu]
attribute [local go_sem] DS D9 DT
theorem Ph{b:List Int}{z:Int}(h0:0≤z)(h1:z≤127)(hb:b.length≤1000000):Ac Tryz.prog 150 [.own 0 b.length,.d (.int .i32 z)] [(0,.row 5 1 (Cu b))] (.own 0 (b.length+1)) [(0,.row 5 1 (Cu (b++[z])))] 1:=by
 have e1:IntKind.u32.wrap z=z:=by simp[IntKind.wrap,IntKind.bits,IntKind.signed];omega
 have e2:IntKind.u8.wrap z=z:=by simp[IntKind.wrap,IntKind.bits,IntKind.signed];omega
 refine Ac.run (N:=16) (ks:=[0]) Tryz.func150 rfl (by kernel_rfl) rfl rfl rfl (by exact Bb) fun X_ ν_ w_=>?_;refine AI (And.intro @e1 @e2) ?_;try exact trivial
end Go.Eng.Tryz

/- What words cost: the whole; what the laws ask first. (and what stands behind it: texts laid together) -/
import Derived.Test.YtooblcpmpemhfaaGreatDoorMG4
import Derived.Test.YtooblcpmpemhfaaGreatDoorMR7
import Derived.Test.YtooblcpmpemhfaaGreatDoorMR4
import Derived.Test.YtooblcpmpemhfaaGreatDoorMR6
set_option linter.unusedVariables false
set_option linter.unusedSimpArgs false
open Go Go.Eng Go.Proofs Go.RowKit
set_option maxHeartbeats 32000000
set_option maxRecDepth 100000
namespace Go.Eng.Tryz
attribute [local go_sem] Aq As Ef Ee Gp Gn JG JF Bq
theorem Uf{c:Co}{q w:List Int}(hc:c.ok)(hq:q.length≤9223372036854775807)(hw:w.length≤9223372036854775807)(h:¬(Mh c q=true∧w.length≤20)):A3 Tryz.prog 118 [co c,.sl 1 (is q),.sl 1 (is w)] .nils:=by
 cases hm:Mh c q
 ·have ca:=cM hc hq hm;unfold co at ca ⊢;refine A6 123 Tryz.func118 B6 fun X_ w_=>?_;have c0_:=ca;refine Ao ?_;try exact trivial
 ·have hw2:20<w.length:=by
   rcases Nat.lt_or_ge 20 w.length with h2|h2
   ·exact h2
   ·exact absurd ⟨hm,h2⟩ h
  have ca:=X5 hc hq;have eA:FD c q=Bj c q (q.length+1):=if_pos hm;rw[eA]at ca;have hlen:=BW c q (q.length+1);obtain⟨A0,A1,hA⟩:∃A0 A1,Bj c q (q.length+1)=A0::A1:=by
   cases h:Bj c q (q.length+1)with
   |nil=>rw[h]at hlen;simp at hlen
   |cons a b=>exact⟨a,b,rfl⟩
  have eN:HT (Bj c q (q.length+1))= .sl 4 (LV A0)::HT A1:=by rw[hA];rfl
  unfold co at ca ⊢;refine A6 123 Tryz.func118 B6 fun X_ w_=>?_;have c0_:=ca;refine Au @eN ?_;try exact trivial
theorem fA{c:Co}{q w:List Int}(hc:c.ok)(hq:q.length≤9223372036854775807)(hw:w.length≤9223372036854775807):A3 Tryz.prog 49 [co c,.sl 1 (is q),.sl 1 (is w)] (.int .u64 (D2 c q w)):=by
 by_cases h:Mh c q=true∧w.length≤20
 ·have ct:=Ue hc h.1 h.2;obtain⟨hq2,hk⟩:=Fm.1 h.1;have hg:=H3 (Eo hc hk q w) (by rw[BW];omega);have hl:(Qv (Bj c q (q.length+1)) w).length=q.length+1:=by rw[hg.shape.1,BW]
  have hr:((Qv (Bj c q (q.length+1)) w)[q.length]!).length=w.length+1:=hg.shape.2 _ (by rw[BW];omega);have e:D2 c q w=((Qv (Bj c q (q.length+1)) w)[q.length]!)[w.length]! :=if_pos h;rw[e];generalize Qv (Bj c q (q.length+1)) w=t at *;unfold co at ct ⊢;refine A6 24 Tryz.func49 B6 fun X_ w_=>?_;have c0_:=ct;refine Au @hl ?_;try exact trivial
 ·have ct:=Uf hc hq hw h;have e:D2 c q w=18446744073709551615:=if_neg h;rw[e];unfold co at ct ⊢;refine A6 24 Tryz.func49 B6 fun X_ w_=>?_;have c0_:=ct;refine Ao ?_;try exact trivial
end Go.Eng.Tryz
namespace Go.Eng.Tryz
attribute [local go_sem] Aq As
structure Ar where
 sign:Int
 to:Int
deriving DecidableEq
instance:Inhabited Ar:=⟨⟨0,0⟩⟩
structure Ak where
 final:Bool
 arcs:List Ar
deriving DecidableEq
instance:Inhabited Ak:=⟨⟨false,[]⟩⟩
def ar(a:Ar):D:=.agg [.int .i64 a.sign,.int .i64 a.to]
def IZ(l:List Ar):List D:=l.map ar
def Tg(s:Ak):D:=.agg [.bool s.final,.sl 2 (IZ s.arcs)]
def AQ(l:List Ak):List D:=l.map Tg
theorem AP{l:List Ar}:(IZ l).length=l.length:=by simp[IZ]
theorem AO{l:List Ar}{k:Nat}(h:k<l.length):(IZ l)[k]? =some (.agg [.int .i64 (l[k]!).sign,.int .i64 (l[k]!).to]):=by
 simp[IZ,ar,List.getElem?_eq_getElem h,getElem!_pos l k h]
theorem Az{l:List Ak}:(AQ l).length=l.length:=by simp[AQ]
theorem Ax{l:List Ak}{k:Nat}(h:k<l.length):(AQ l)[k]? =some (.agg [.bool (l[k]!).final,.sl 2 (IZ (l[k]!).arcs)]):=by
 simp[AQ,Tg,List.getElem?_eq_getElem h,getElem!_pos l k h]
attribute [local go_sem] AP AO Az Ax
def Bt(l:List Ak):Prop:=l.length≤9223372036854775807∧∀s∈l,s.arcs.length≤9223372036854775807
theorem Bt.get{l:List Ak}(h:Bt l){k:Nat}(hk:k<l.length):(l[k]!).arcs.length≤9223372036854775807:=by
 rw[getElem!_pos l k hk];exact h.2 _ (List.getElem_mem hk)
def GI(i n last:Int)(a:Ar):Bool:=decide (last<a.sign)&&D9 a.sign&&decide (i<a.to)&&decide (a.to<n)
def Bv(i n:Int):Int→List Ar→Bool
 |_,[]=>true
 |last,a::t=>GI i n last a&&Bv i n a.sign t
def Fx:Int→List Ar→Int
 |last,[]=>last
 |_,a::t=>Fx a.sign t
def Ji(i n:Int):Int→List Ar→Int
 |last,[]=>last
 |last,a::t=>if GI i n last a=true then Ji i n a.sign t else a.sign
def Gv(i n:Int):Int→List Ar→Int
 |_,[] => -1
 |last,a::t=>if GI i n last a=true then(if Gv i n a.sign t<0 then -1 else Gv i n a.sign t+1)else 0
theorem SO(last:Int)(l:List Ar)(a:Ar):Fx last (l++[a])=a.sign:=by
 induction l generalizing last with
 |nil=>rfl
 |cons b l ih=>exact ih _
theorem Sn(i n last:Int)(l t:List Ar):Bv i n last (l++t)=(Bv i n last l&&Bv i n (Fx last l) t):=by
 induction l generalizing last with
 |nil=>simp[Bv,Fx]
 |cons b l ih=>simp only[List.cons_append,Bv,Fx,ih,Bool.and_assoc]
theorem P0{i n last:Int}{l t:List Ar}(h:Bv i n last l=true):Ji i n last (l++t)=Ji i n (Fx last l) t:=by
 induction l generalizing last with
 |nil=>rfl
 |cons b l ih =>
  simp only[Bv,Bool.and_eq_true]at h;simp only[List.cons_append,Ji,h.1,if_true,Fx,ih h.2]
theorem Rp(i n:Int):∀(l:List Ar) (last:Int),decide (0≤Gv i n last l) = !Bv i n last l
 | [],_=>rfl
 |a::t,last=>by
  have ih:=Rp i n t a.sign;have e1:Bv i n last (a::t)=(GI i n last a&&Bv i n a.sign t):=rfl;by_cases h:GI i n last a=true
  ·have e:Gv i n last (a::t)=if Gv i n a.sign t<0 then -1 else Gv i n a.sign t+1:=by simp[Gv,h]
   rw[e1,h,Bool.true_and,← ih];generalize Gv i n last (a::t)=v at e ⊢;generalize Gv i n a.sign t=u at e ⊢;subst e;by_cases h2:u<0
   ·simp[h2]
   ·simp[h2];omega
  ·have e:Gv i n last (a::t)=0:=by simp[Gv,h]
   rw[e,e1];simp only[Bool.not_eq_true]at h;rw[h];rfl
theorem Wu{i n last:Int}{l t:List Ar}(h:Bv i n last l=true)(h2:0≤Gv i n (Fx last l) t):Gv i n last (l++t)=l.length+Gv i n (Fx last l) t:=by
 induction l generalizing last with
 |nil=>simp[Fx]
 |cons b l ih =>
  simp only[Bv,Bool.and_eq_true]at h;have:=ih h.2 h2;simp only[List.cons_append,Gv,h.1,if_true,Fx];rw[this,if_neg (by simp only[Fx]at h2 ⊢;omega)];simp only[List.length_cons,Fx];omega
theorem V9{i n last:Int}{l:List Ar}(h:Bv i n last l=true):Gv i n last l = -1:=by
 induction l generalizing last with
 |nil=>rfl
 |cons b l ih =>
  simp only[Bv,Bool.and_eq_true]at h;simp only[Gv,h.1,if_true,ih h.2];decide
theorem Xz{i n last:Int}{l:List Ar}(h:Bv i n last l=true):Ji i n last l=Fx last l:=by
 have:=P0 (t:=[]) h;simpa[Ji]using this
theorem AT{α:Type}[Inhabited α]{l:List α}{k:Nat}(h:k<l.length):l.take (k+1)=l.take k++[l[k]!]:=by
 rw[List.take_add_one,List.getElem?_eq_getElem h,getElem!_pos l k h];rfl
theorem QA{α:Type}[Inhabited α]{l:List α}{k:Nat}(h:k<l.length):l.drop k=l[k]!::l.drop (k+1):=by
 rw[getElem!_pos l k h];exact List.drop_eq_getElem_cons h
def EU(l:List Ak)(k:Nat):Bool:=(List.range k).all fun i=>Bv i l.length (-1) (l[i]!).arcs
theorem Og(l:List Ak)(k:Nat):EU l (k+1)=(EU l k&&Bv k l.length (-1) (l[k]!).arcs):=by simp[EU,List.range_succ]
def achk(l:List Ak):Bool:=EU l l.length&&decide (0<l.length∧l.length≤6001)
theorem DI{l:List Ak}{k:Nat}(h:EU l l.length=true)(hk:k<l.length):Bv k l.length (-1) (l[k]!).arcs=true:=List.all_eq_true.1 h k (List.mem_range.2 hk)
theorem au{l:List Ak}{k:Nat}(hk:k<l.length)(h:Bv k l.length (-1) (l[k]!).arcs=false):achk l=false:=by
 unfold achk;cases hs:EU l l.length
 ·rfl
 ·rw[DI hs hk]at h;cases h
theorem Ze{last i:Int}{l:List Ak}{a:Ar}(hl:l.length≤9223372036854775807):Ai Tryz.prog 129 [.d (ar a),.ref 0 0,.ref 1 0,.ref 2 0]
 [(0,.var [.d (.int .i64 last)]),(1,.var [.d (.int .i64 i)]),(2,.var [.d (.sl 2 (AQ l))])] (.d (.bool (!GI i l.length last a))) [(0,.var [.d (.int .i64 a.sign)]),(1,.var [.d (.int .i64 i)]),(2,.var [.d (.sl 2 (AQ l))])] 3:=by
 have cg:=Mp (z:=a.sign);unfold ar;by_cases h1:a.sign≤last
 ·have e:GI i l.length last a=false:=by unfold GI;rw[decide_eq_false (by omega)];rfl
  rw[e];refine Bo 33 [0,1,2] Tryz.func129 DK fun X_ ν_ w_=>?_;have c0_:=cg;refine Ao ?_;try exact trivial
 have e1:GI i l.length last a=(D9 a.sign&&decide (i<a.to)&&decide (a.to<l.length)):=by unfold GI;rw[decide_eq_true (by omega)];rfl
 rw[e1];cases h2:D9 a.sign
 ·rw[h2]at cg;refine Bo 33 [0,1,2] Tryz.func129 DK fun X_ ν_ w_=>?_;have c0_:=cg;refine Au @Bool.false_and ?_;try exact trivial
 rw[h2]at cg;by_cases h3:a.to≤i
 ·have e:(true&&decide (i<a.to)&&decide (a.to<l.length))=false:=by rw[decide_eq_false (by omega)];rfl
  rw[e];refine Bo 33 [0,1,2] Tryz.func129 DK fun X_ ν_ w_=>?_;have c0_:=cg;refine Ao ?_;try exact trivial
 by_cases h4:(l.length:Int)≤a.to
 ·have e:(true&&decide (i<a.to)&&decide (a.to<l.length))=false:=by rw[decide_eq_true (by omega),decide_eq_false (by omega)];rfl
  rw[e];refine Bo 33 [0,1,2] Tryz.func129 DK fun X_ ν_ w_=>?_;have c0_:=cg;refine Ao ?_;try exact trivial
 ·have e:(true&&decide (i<a.to)&&decide (a.to<l.length))=true:=by rw[decide_eq_true (by omega),decide_eq_true (by omega)];rfl
  rw[e];refine Bo 33 [0,1,2] Tryz.func129 DK fun X_ ν_ w_=>?_;have c0_:=cg;refine Ao ?_;try exact trivial
def ah(last i:Int)(l:List Ak):Aa:=[(0,.var [.d (.int .i64 last)]),(1,.var [.d (.int .i64 i)]),(2,.var [.d (.sl 2 (AQ l))])]
theorem Z1{last i:Int}{l:List Ak}{al:List Ar}(hl:l.length≤9223372036854775807)(ha:al.length≤9223372036854775807):Ai Tryz.prog 195 [.d (.sl 2 (IZ al)),.fn 129 [.ref 0 0,.ref 1 0,.ref 2 0]]
 (ah last i l) (.d (.int .i64 (Gv i l.length last al))) (ah (Ji i l.length last al) i l) 3:=by
 unfold ah;refine Bo 19 [0,1,2] Tryz.func195 Bm fun X_ ν_ w_=>?_;refine Ao ?_;try exact trivial
 refine A8 (fun k:Nat=>k≤al.length∧Bv i l.length last (al.take k)=true) (fun k=>[(0,.d (.sl 2 (IZ al))),(1,.fn 129 [.ref 0 0,.ref 1 0,.ref 2 0]),(7,.d (.int .i64 al.length)),(8,.d (.int .i64 k))]) (fun k=>[(0,.var [.d (.int .i64 (Fx last (al.take k)))]),(1,.var [.d (.int .i64 i)]),(2,.var [.d (.sl 2 (AQ l))])]) 3 (fun k=>al.length-k) [0,1,7,8] [0,1,2] 0 ⟨Nat.zero_le _,rfl⟩ rfl rfl (Nat.le_of_ble_eq_true rfl) (fun _ _=>rfl) (fun _ _=>rfl) fun k hk=>?_;obtain⟨hk1,hk2⟩:=hk;by_cases hk3:k<al.length
 ·have cw:=Ze (last:=Fx last (al.take k)) (i:=i) (a:=al[k]!) hl;have hs:=AT hk3;have hd:=QA hk3;unfold ar at cw;cases hb:GI i l.length (Fx last (al.take k)) (al[k]!)
  ·rw[hb]at cw;have e1:Gv i l.length last al=k:=by
    have:=Wu (t:=al.drop k) hk2 (by rw[hd];simp only[Gv,hb];rw[if_neg (by decide)];exact Int.le_refl _);rw[List.take_append_drop]at this;rw[this,hd];simp only[Gv,hb,List.length_take];simp only[Bool.false_eq_true,if_false];omega
   have e2:Ji i l.length last al=(al[k]!).sign:=by
    have:=P0 (t:=al.drop k) hk2;rw[List.take_append_drop]at this;rw[this,hd];simp only[Ji,hb,Bool.false_eq_true,if_false]
   rw[e1,e2];have c0_:=cw;refine Ao ?_;try exact trivial
  ·rw[hb]at cw;have e1:=SO last (al.take k) (al[k]!);have e2:Bv i l.length last (al.take (k+1))=true:=by rw[hs,Sn,hk2];simp only[Bv,hb,Bool.and_true]
   have c0_:=cw;refine Ao ?_;try exact trivial
   refine⟨k+1,⟨by omega,e2⟩,?_,?_,by omega⟩
   ·exact Ei
   ·rw[hs,e1];exact GL
 ·have hkl:k=al.length:=by omega
  subst hkl;rw[List.take_length]at hk2 ⊢;rw[V9 hk2,Xz hk2];refine Ao ?_;try exact trivial
theorem bo{last i:Int}{l:List Ak}{al:List Ar}(hl:l.length≤9223372036854775807)(ha:al.length≤9223372036854775807):Ai Tryz.prog 131 [.d (.sl 2 (IZ al)),.fn 129 [.ref 0 0,.ref 1 0,.ref 2 0]]
 (ah last i l) (.d (.bool (!Bv i l.length last al))) (ah (Ji i l.length last al) i l) 3:=by
 have ci:=Z1 (last:=last) (i:=i) hl ha;have e:=Rp i l.length al last;unfold ah at ci ⊢;refine Bo 9 [0,1,2] Tryz.func131 Bm fun X_ ν_ w_=>?_;have c0_:=ci;refine Au @e ?_;try exact trivial
theorem IM{l:List Ak}(hl:Bt l):A3 Tryz.prog 66 [.sl 2 (AQ l)] (.bool (achk l)):=by
 obtain⟨hlen,hal⟩:=id hl;refine A6 28 Tryz.func66 A4 fun X_ w_=>?_;refine Ao ?_;try exact trivial
 refine A8 (fun k:Nat=>k≤l.length∧EU l k=true) (fun k=>[(1,.ref 0 0),(7,.d (.sl 2 (AQ l))),(8,.d (.int .i64 l.length)),(9,.d (.int .i64 k))]) (fun k=>[(0,.var [.d (.sl 2 (AQ l))])]) 1 (fun k=>l.length-k) [1,7,8,9] [0] 0 ⟨Nat.zero_le _,rfl⟩ rfl rfl (Nat.zero_le _) (fun _ _=>rfl) (fun _ _=>rfl) fun k hk=>?_;obtain⟨hk1,hk2⟩:=hk;by_cases hk3:k<l.length
 ·have cc:=bo (last := -1) (i:=k) (l:=l) (al:=(l[k]!).arcs) hlen (hl.get hk3);unfold ah at cc;cases hb:Bv k l.length (-1) (l[k]!).arcs
  ·have e:=au hk3 hb;rw[hb]at cc;have c0_:=cc;refine Au @e ?_;try exact trivial
  ·rw[hb]at cc;have hst:=Og l k;have c0_:=cc;refine Ao ?_;try exact trivial
   refine⟨k+1,⟨by omega,by rw[hst,hk2,hb];rfl⟩,?_,?_,by omega⟩
   ·exact Ei
   ·exact GL
 ·have hkl:k=l.length:=by omega
  subst hkl;by_cases h0:0<l.length
  ·by_cases h1:l.length≤6001
   ·have e:achk l=true:=by unfold achk;rw[hk2,decide_eq_true ⟨h0,h1⟩];rfl
    refine Au @e ?_;try exact trivial
   ·have e:achk l=false:=by unfold achk;rw[decide_eq_false (by omega)];simp
    refine Au @e ?_;try exact trivial
  ·have e:achk l=false:=by unfold achk;rw[decide_eq_false (by omega)];simp
   refine Au @e ?_;try exact trivial
end Go.Eng.Tryz
namespace Go.Eng.Tryz
attribute [local go_sem] Aq As AP AO Az Ax
theorem Zh{l:List Int}{i:Nat}{z:Int}:(is l).set i (.int .i64 z)=is (l.set i z):=by simp[is,List.map_set]
theorem Zg{n:Nat}{x:Int}:List.replicate n (D.int .i64 x)=is (List.replicate n x):=by simp[is]
attribute [local go_sem] Zh Zg
def Qk(z:Int)(a:Ar):Bool:=decide (a.sign=z)
theorem bP{a:Ar}{z:Int}:Ai Tryz.prog 220 [.d (ar a),.ref 0 0] [(0,.var [.d (.int .i64 z)])] (.d (.bool (Qk z a))) [(0,.var [.d (.int .i64 z)])] 1:=by
 unfold ar;by_cases h:a.sign=z
 ·rw[show Qk z a=true from decide_eq_true h];refine Bo 8 [0] Tryz.func220 Bm fun X_ ν_ w_=>?_;refine Au @h ?_;try exact trivial
 ·rw[show Qk z a=false from decide_eq_false h];refine Bo 8 [0] Tryz.func220 Bm fun X_ ν_ w_=>?_;refine Au @h ?_;try exact trivial
theorem Z2{z:Int}{al:List Ar}(ha:al.length≤9223372036854775807):Ai Tryz.prog 195 [.d (.sl 2 (IZ al)),.fn 220 [.ref 0 0]]
 [(0,.var [.d (.int .i64 z)])] (.d (.int .i64 (LR (Qk z) al))) [(0,.var [.d (.int .i64 z)])] 1:=by
 refine Bo 19 [0] Tryz.func195 Bm fun X_ ν_ w_=>?_;refine Ao ?_;try exact trivial
 refine A8 (fun k:Nat=>k≤al.length∧(al.take k).any (Qk z)=false) (fun k=>[(0,.d (.sl 2 (IZ al))),(1,.fn 220 [.ref 0 0]),(7,.d (.int .i64 al.length)),(8,.d (.int .i64 k))]) (fun k=>[(0,.var [.d (.int .i64 z)])]) 1 (fun k=>al.length-k) [0,1,7,8] [0] 0 ⟨Nat.zero_le _,rfl⟩ rfl rfl (Nat.le_of_ble_eq_true rfl) (fun _ _=>rfl) (fun _ _=>rfl) fun k hk=>?_;obtain⟨hk1,hk2⟩:=hk;by_cases hk3:k<al.length
 ·have cw:=bP (a:=al[k]!) (z:=z);unfold ar at cw;cases hb:Qk z (al[k]!)
  ·rw[hb]at cw;have hst:=JN (p:=Qk z) hk3 hk2 hb;have c0_:=cw;refine Ao ?_;try exact trivial
   refine⟨k+1,⟨by omega,hst⟩,?_,?_,by omega⟩
   ·exact Ei
   ·exact GL
  ·rw[hb]at cw;have e:=M6 (p:=Qk z) hk3 hk2 hb;rw[e];have c0_:=cw;refine Ao ?_;try exact trivial
 ·have hkl:k=al.length:=by omega
  subst hkl;rw[List.take_length]at hk2;rw[GM hk2];refine Ao ?_;try exact trivial
def CP(l:List Ak)(from_ z:Int):Option Int :=
 if 0≤from_∧from_<l.length then((l[from_.toNat]!).arcs.find? (Qk z)).map (·.to)else none
def FC:Option Int→D
 |some t=>.tup [.int .i64 t,.bool true]
 |none=>.tup [.int .i64 0,.bool false]
theorem UY{α:Type}[Inhabited α]{p:α→Bool}{l:List α}(h:l.any p=true):∃k:Nat,LR p l=k∧k<l.length∧l.find? p=some (l[k]!):=by
 unfold LR;rw[if_pos h];obtain⟨x,hx,hp⟩:=List.any_eq_true.1 h;have hlt:l.findIdx p<l.length:=List.findIdx_lt_length_of_exists ⟨x,hx,hp⟩;refine⟨_,rfl,hlt,?_⟩;rw[getElem!_pos l _ hlt,List.find?_eq_some_iff_getElem];exact⟨List.findIdx_getElem (w:=hlt),_,hlt,rfl,fun j hj=>by simpa using List.not_of_lt_findIdx hj⟩
theorem dL{l:List Ak}{f z:Int}(hl:Bt l):A3 Tryz.prog 178 [.sl 2 (AQ l),.int .i64 f,.int .i64 z] (FC (CP l f z)):=by
 have hlen:=hl.1;by_cases h0:f<0
 ·have e:CP l f z=none:=if_neg (by omega);rw[e];unfold FC;refine A6 35 Tryz.func178 B6 fun X_ w_=>?_;refine Ao ?_;try exact trivial
 by_cases h1:(l.length:Int)≤f
 ·have e:CP l f z=none:=if_neg (by omega);rw[e];unfold FC;refine A6 35 Tryz.func178 B6 fun X_ w_=>?_;refine Ao ?_;try exact trivial
 obtain⟨k,rfl⟩:=Int.eq_ofNat_of_zero_le (by omega:0≤f);have hk:k<l.length:=by omega
 have hak:=hl.get hk;have ci:=Z2 (z:=z) (al:=(l[k]!).arcs) hak;have e:CP l k z=((l[k]!).arcs.find? (Qk z)).map (·.to):=by unfold CP;rw[if_pos ⟨by omega,by omega⟩];rfl
 rw[e];cases hany:(l[k]!).arcs.any (Qk z)
 ·rw[GM hany]at ci;have e2:(l[k]!).arcs.find? (Qk z)=none:=by
   rw[List.find?_eq_none];intro x hx hp;have:=List.any_eq_true.2 ⟨x,hx,hp⟩;rw[hany]at this;cases this
  rw[e2];unfold FC;simp only[Option.map_none];refine A6 35 Tryz.func178 B6 fun X_ w_=>?_;have c0_:=ci;refine Ao ?_;try exact trivial
 ·obtain⟨j,e1,hj,e2⟩:=UY hany;rw[e1]at ci;rw[e2];unfold FC;simp only[Option.map_some];refine A6 35 Tryz.func178 B6 fun X_ w_=>?_;have c0_:=ci;refine Ao ?_;try exact trivial
def EX(out:List Int):Aa:=[(0,.var [.own 1 out.length]),(1,.row 3 1 (is out))]
theorem Qc{out:List Int}{k:Nat}(hk:k<out.length):Ai Tryz.prog 229 [.d (.int .i64 k),.ref 0 0] (EX out) (.d (.int .i64 (out[k]!))) (EX out) 2:=by
 unfold EX;refine Bo 8 [0,1] Tryz.func229 Bm fun X_ ν_ w_=>?_;refine Ao ?_;try exact trivial
def Mw(s:Ak)(n:Nat):Prop:=∀a∈s.arcs,0≤a.to∧a.to<n
theorem Mw.get{s:Ak}{n:Nat}(h:Mw s n){k:Nat}(hk:k<s.arcs.length):0≤(s.arcs[k]!).to∧(s.arcs[k]!).to<n:=by
 rw[getElem!_pos s.arcs k hk];exact h _ (List.getElem_mem hk)
def Db(out:List Int)(m:Int)(a:Ar):Int:=min 301 (m+out[a.to.toNat]!)
def DC(s:Ak)(out:List Int):Int:=s.arcs.foldl (Db out) (if s.final=true then 1 else 0)
theorem WK{out:List Int}(ho:∀z∈out,0≤z∧z≤301){m:Int}(hm:0≤m∧m≤301)(a:Ar):0≤Db out m a∧Db out m a≤301:=by
 unfold Db;have:0≤out[a.to.toNat]! :=by
  by_cases h:a.to.toNat<out.length
  ·rw[getElem!_pos out _ h];exact(ho _ (List.getElem_mem h)).1
  ·rw[List.getElem!_eq_getElem?_getD,List.getElem?_eq_none (by omega)];decide
 omega
theorem IJ{out:List Int}(ho:∀z∈out,0≤z∧z≤301):∀(l:List Ar) (m:Int),(0≤m∧m≤301)→0≤l.foldl (Db out) m∧l.foldl (Db out) m≤301
 | [],m,h=>h
 |a::l,m,h=>IJ ho l _ (WK ho h a)
theorem CZ{α β:Type}[Inhabited α](f:β→α→β)(b:β){l:List α}{k:Nat}(h:k<l.length):(l.take (k+1)).foldl f b=f ((l.take k).foldl f b) (l[k]!):=by
 rw[AT h,List.foldl_append];rfl
theorem bC{s:Ak}{out:List Int}(ho:∀z∈out,0≤z∧z≤301)(hs:Mw s out.length)(hn:s.arcs.length≤9223372036854775807)(hout:out.length≤1000000):Ai Tryz.prog 198 [.d (Tg s),.fn 229 [.ref 0 0]] (EX out) (.d (.int .i64 (DC s out))) (EX out) 2:=by
 have fin:∀(m0:Int),(0≤m0∧m0≤301)→∀k,k≤s.arcs.length→0≤(s.arcs.take k).foldl (Db out) m0∧(s.arcs.take k).foldl (Db out) m0≤301:=fun m0 h k _=>IJ ho _ _ h;unfold Tg;cases hf:s.final
 ·have e:DC s out=s.arcs.foldl (Db out) 0:=by unfold DC;rw[hf];rfl
  rw[e];unfold EX;refine Bo 25 [0,1] Tryz.func198 Bm fun X_ ν_ w_=>?_;refine Ao ?_;try exact trivial
  refine A8 (fun k:Nat=>k≤s.arcs.length) (fun k=>[(1,.fn 229 [.ref 0 0]),(4,.d (.int .i64 ((s.arcs.take k).foldl (Db out) 0))),(10,.d (.sl 2 (IZ s.arcs))),(11,.d (.int .i64 s.arcs.length)),(12,.d (.int .i64 k))]) (fun k=>[(0,.var [.own 1 out.length]),(1,.row 3 1 (is out))]) 2 (fun k=>s.arcs.length-k) [1,4,10,11,12] [0,1] 0 (Nat.zero_le _) rfl rfl (Nat.le_of_ble_eq_true rfl) (fun _ _=>rfl) (fun _ _=>rfl) fun k hk=>?_;have hm:=fin 0 (by omega) k hk;by_cases hk3:k<s.arcs.length
  ·have hin:=hs.get hk3;have hst:=CZ (Db out) 0 hk3;obtain⟨t,ht⟩:=Int.eq_ofNat_of_zero_le hin.1;have htl:t<out.length:=by omega
   have cw:=Qc (out:=out) (k:=t) htl;have hv:=ho (out[t]!) (by rw[getElem!_pos out t htl];exact List.getElem_mem htl);have e1:Db out ((s.arcs.take k).foldl (Db out) 0) (s.arcs[k]!)=min 301 ((s.arcs.take k).foldl (Db out) 0+out[t]!):=by unfold Db;rw[ht];rfl
   rw[e1]at hst;unfold EX at cw;have c0_:=cw;refine Au (And.intro @ht @Hz) ?_;try exact trivial
   refine⟨k+1,by omega,?_,?_,by omega⟩
   ·exact Sf @hst
   ·exact GL
  ·have hkl:k=s.arcs.length:=by omega
   subst hkl;rw[List.take_length];refine Ao ?_;try exact trivial
 ·have e:DC s out=s.arcs.foldl (Db out) 1:=by unfold DC;rw[hf];rfl
  rw[e];unfold EX;refine Bo 25 [0,1] Tryz.func198 Bm fun X_ ν_ w_=>?_;refine Ao ?_;try exact trivial
  refine A8 (fun k:Nat=>k≤s.arcs.length) (fun k=>[(1,.fn 229 [.ref 0 0]),(4,.d (.int .i64 ((s.arcs.take k).foldl (Db out) 1))),(10,.d (.sl 2 (IZ s.arcs))),(11,.d (.int .i64 s.arcs.length)),(12,.d (.int .i64 k))]) (fun k=>[(0,.var [.own 1 out.length]),(1,.row 3 1 (is out))]) 2 (fun k=>s.arcs.length-k) [1,4,10,11,12] [0,1] 0 (Nat.zero_le _) rfl rfl (Nat.le_of_ble_eq_true rfl) (fun _ _=>rfl) (fun _ _=>rfl) fun k hk=>?_;have hm:=fin 1 (by omega) k hk;by_cases hk3:k<s.arcs.length
  ·have hin:=hs.get hk3;have hst:=CZ (Db out) 1 hk3;obtain⟨t,ht⟩:=Int.eq_ofNat_of_zero_le hin.1;have htl:t<out.length:=by omega
   have cw:=Qc (out:=out) (k:=t) htl;have hv:=ho (out[t]!) (by rw[getElem!_pos out t htl];exact List.getElem_mem htl);have e1:Db out ((s.arcs.take k).foldl (Db out) 1) (s.arcs[k]!)=min 301 ((s.arcs.take k).foldl (Db out) 1+out[t]!):=by unfold Db;rw[ht];rfl
   rw[e1]at hst;unfold EX at cw;have c0_:=cw;refine Au (And.intro @ht @Hz) ?_;try exact trivial
   refine⟨k+1,by omega,?_,?_,by omega⟩
   ·exact Sf @hst
   ·exact GL
  ·have hkl:k=s.arcs.length:=by omega
   subst hkl;rw[List.take_length];refine Ao ?_;try exact trivial
end Go.Eng.Tryz
namespace Go.Eng.Tryz
def Ay(l:List Ak):Int→List Int→Option Int
 |at_,[]=>some at_
 |at_,z::w=>match CP l at_ z with|some t=>Ay l t w|none=>none
def ER(l:List Ak)(at_:Int)(w:List Int):Option Int:=if 0≤at_∧at_<l.length then Ay l at_ w else none
theorem Hc{i n:Int}:∀{l:List Ar} {last:Int},Bv i n last l=true→∀a∈l,i<a.to∧a.to<n∧D9 a.sign=true∧last<a.sign
 | [],_,_,a,h=>by cases h
 |b::l,last,h,a,ha=>by
  simp only[Bv,Bool.and_eq_true]at h;have hb:=h.1;simp only[GI,Bool.and_eq_true,decide_eq_true_eq]at hb;rcases List.mem_cons.1 ha with e|e
  ·subst e;exact⟨hb.1.2,hb.2,hb.1.1.2,hb.1.1.1⟩
  ·obtain⟨h1,h2,h3,h4⟩:=Hc h.2 a e;exact⟨h1,h2,h3,by omega⟩
theorem Aw{l:List Ak}:achk l=true↔EU l l.length=true∧0<l.length∧l.length≤6001:=by
 unfold achk;simp[Bool.and_eq_true,decide_eq_true_eq]
theorem CF{l:List Ak}(h:achk l=true){k:Nat}(hk:k<l.length):∀a∈(l[k]!).arcs,(k:Int)<a.to∧a.to<l.length∧D9 a.sign=true:=fun a ha=>by
 have:=Hc (DI (Aw.1 h).1 hk) a ha;exact⟨this.1,this.2.1,this.2.2.1⟩
theorem Il{l:List Ak}(h:achk l=true){f z t:Int}(hs:CP l f z=some t):0≤f∧f<l.length∧f<t∧t<l.length:=by
 unfold CP at hs;split at hs
 ·rename_i hf;obtain⟨a,ha,rfl⟩:=Option.map_eq_some_iff.1 hs;have hm:=List.mem_of_find?_eq_some ha;obtain⟨k,rfl⟩:=Int.eq_ofNat_of_zero_le hf.1;have:=CF h (k:=k) (by omega) a hm;exact⟨hf.1,hf.2,by simpa using this.1,this.2.1⟩
 ·cases hs
theorem DB{l:List Ak}(h:achk l=true):∀{w:List Int} {f t:Int},0≤f→f<l.length→Ay l f w=some t→f≤t∧t<l.length∧(w≠[]→f<t)
 | [],f,t,h0,h1,hs=>by simp only[Ay,Option.some.injEq]at hs;subst hs;exact⟨Int.le_refl _,h1,fun h=>absurd rfl h⟩
 |z::w,f,t,h0,h1,hs=>by
  simp only[Ay]at hs;split at hs
  ·rename_i u hu;obtain⟨_,_,h2,h3⟩:=Il h hu;obtain⟨h4,h5,_⟩:=DB h (by omega) h3 hs;exact⟨by omega,h5,fun _=>by omega⟩
  ·cases hs
theorem CD(l:List Ak):∀(a b:List Int) (f:Int),Ay l f (a++b)=match Ay l f a with|some t=>Ay l t b|none=>none
 | [],b,f=>rfl
 |z::a,b,f=>by
  simp only[List.cons_append,Ay];cases CP l f z with
  |none=>rfl
  |some t=>exact CD l a b t
theorem SQ{l:List Ak}{f:Int}{w:List Int}{k:Nat}(h:k<w.length):Ay l f (w.take (k+1))=match Ay l f (w.take k)with|some t=>CP l t (w[k]!)|none=>none:=by
 rw[AT h,CD];cases Ay l f (w.take k)with
 |none=>rfl
 |some t=>simp only[Ay];cases CP l t (w[k]!)<;>rfl
theorem SP{l:List Ak}{f:Int}{w:List Int}{k:Nat}(h:Ay l f (w.take k)=none):Ay l f w=none:=by
 have:=CD l (w.take k) (w.drop k) f;rw[List.take_append_drop,h]at this;exact this
end Go.Eng.Tryz

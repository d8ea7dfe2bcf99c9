/- The words behind a state, as they are walked. (and what stands behind it: texts laid together) -/
import Derived.Test.YtooblcpmpemhfaaGreatDoorMG4
import Derived.Test.YtooblcpmpemhfaaGreatDoorMR12
import Derived.Test.YtooblcpmpemhfaaGreatDoorMR4
import Derived.Test.YtooblcpmpemhfaaGreatDoorMR11
set_option linter.unusedVariables false
set_option linter.unusedSimpArgs false
open Go Go.Eng Go.Proofs Go.RowKit
set_option maxHeartbeats 32000000
set_option maxRecDepth 100000
namespace Go.Eng.Tryz
attribute [local go_sem] Aq As AP AO Az Ax Bb Bh Bq
theorem dp{w:List Int}(hw:w.length≤1000000):Ai Tryz.prog 264 [.d (.sl 1 (is w))] [] (.clip 1 (is w)) [] 0:=by
 have e:((is w).take w.length).drop 0=is w:=by rw[List.drop_zero];exact List.take_of_length_le (by simp[is])
 have e2:(is w).take w.length=is w:=List.take_of_length_le (by simp[is]);refine Bo 9 [] Tryz.func264 He fun X_ ν_ w_=>?_;refine Au (And.intro @e @e2) ?_;try exact trivial
def JK(Y:Ym)(m:Nat)(out:List (List Int))(st:VW):Aa:=[(0,.loop Y [(6,.ref 1 0),(5,.ref 2 0)] st),(1,.var [.own 3 out.length]),(2,.var [.d (.int .i64 m)]),(3,.row 57 1 (CI out))]
theorem SG{A:List (List Int)}{al:List Ar}{G:Ar→List (List Int)}{j:Nat}:A++al.flatMap G=(A++(al.take j).flatMap G)++(al.drop j).flatMap G:=by
 rw[List.append_assoc,← List.flatMap_append,List.take_append_drop]
structure Sj(Y:Ym)(m:Nat):Prop where
 more:∀(out:List (List Int)) (w:List Int),out.length<m→w.length≤6001→D7 Tryz.prog [.yld 0,.d (.sl 1 (is w))] (JK Y m out .ready) (.d (.bool true)) (JK Y m (out++[w]) .ready) 4
 full:∀(out:List (List Int)) (w:List Int),out.length=m→D7 Tryz.prog [.yld 0,.d (.sl 1 (is w))] (JK Y m out .ready) (.d (.bool false)) (JK Y m out (.done (.exit 1))) 4
def ZE(Y:Ym)(m:Nat)(l:List Ak)(f:List Int)(out:List (List Int))(st:VW):Aa:=[(0,.var [.d (.sl 2 (AQ l)),.d (.sl 1 (is (Ca DC l l.length))),.d (.sl 1 (is f)),.yld 1]),(1,.loop Y [(6,.ref 2 0),(5,.ref 3 0)] st),(2,.var [.own 4 out.length]),(3,.var [.d (.int .i64 m)]),(4,.row 57 1 (CI out))]
def cK(m:Nat)(out W:List (List Int))(b:Bool)(o:List (List Int))(st:VW):Prop:=(out.length+W.length≤m→b=true∧o=out++W∧st= .ready)∧(m<out.length+W.length→b=false∧o=(out++W).take m∧st= .done (.exit 1))
theorem aq(m:Nat)(out W:List (List Int)):∃b o st,cK m out W b o st:=by
 by_cases h:out.length+W.length≤m
 ·exact⟨true,out++W,.ready,fun _=>⟨rfl,rfl,rfl⟩,fun h'=>by omega⟩
 ·exact⟨false,(out++W).take m,.done (.exit 1),fun h'=>by omega,fun _=>⟨rfl,rfl,rfl⟩⟩
theorem dP{l:List Ak}{f:List Int}{Y:Ym}{m:Nat}(hy:Sj Y m)(hm:m≤300)(hl:Bt l)(hka:achk l=true)(hf:f.length≤9223372036854775807):∀(n k:Nat) (w:List Int) (out:List (List Int)) (b:Bool) (o:List (List Int)) (st:VW),k<l.length→l.length≤n+k→w.length≤k→out.length≤m→cK m out (wf l f n k w) b o st →
 Ai Tryz.prog 231 [.ref 0 0,.d (.int .i64 k),.d (.sl 1 (is w))] (ZE Y m l f out .ready) (.d (.bool b)) (ZE Y m l f o st) 5:=by
 have hlo:=Ff DC l l.length;have hL:=(Aw.1 hka).2.2;intro n;induction n with
 |zero=>intro k w out b o st h1 h2;omega
 |succ n ih =>
 intro k w out b o st hk hn hw hout hR;have hak:=hl.get hk;have hin:=Wt (P:=fun z=>0≤z∧z≤301) (WL l l.length) (by decide) k;by_cases hz:(Ca DC l l.length)[k]! =0
 ·have e:=Zz (f:=f) (w:=w) hka hk hn hz;rw[e]at hR;obtain⟨rfl,rfl,rfl⟩:=hR.1 (by simpa using hout);rw[List.append_nil];unfold ZE;refine Bo 90 [0,1,2,3,4] Tryz.func231 BS fun X_ ν_ w_=>?_;refine Au (And.intro @hlo @hz) ?_;try exact trivial
 have cl:=DQ (a:=w) (b:=f) (by omega) hf;have cc:=L3 (l:=w) (by omega);obtain⟨A0,hA0⟩:∃A0,A0=(if(l[k]!).final=true∧¬Ae w f<0 then[w]else[]):=⟨_,rfl⟩
 obtain⟨G,hG⟩:∃G,(fun a:Ar=>if LH (w++[a.sign]) f=true then[]else wf l f n a.to.toNat (w++[a.sign]))=G:=⟨_,rfl⟩
 have hwf:wf l f (n+1) k w=A0++(l[k]!).arcs.flatMap G:=by rw[hA0,← hG];rfl
 rw[hwf]at hR;unfold ZE;cases hfin:(l[k]!).final
 case' false =>
  rw[hfin,if_neg (by simp)]at hA0;refine Bo 90 [0,1,2,3,4] Tryz.func231 BS fun X_ ν_ w_=>?_;refine Au (And.intro @hlo (And.intro @hz @hfin)) ?_;try exact trivial
 case' true =>
  by_cases hlt:Ae w f<0
  case' pos =>
   rw[decide_eq_true hlt]at cl;rw[hfin,if_neg (fun h=>h.2 hlt)]at hA0;refine Bo 90 [0,1,2,3,4] Tryz.func231 BS fun X_ ν_ w_=>?_;have c0_:=cl;refine Au (And.intro @hlo (And.intro @hz @hfin)) ?_;try exact trivial
  case' neg =>
   rw[decide_eq_false hlt]at cl;rw[hfin,if_pos ⟨rfl,hlt⟩]at hA0;by_cases hful:out.length=m
   ·have hWl:m<out.length+(A0++(l[k]!).arcs.flatMap G).length:=by rw[hA0];simp only[List.length_append,List.length_cons,List.length_nil];omega
    obtain⟨rfl,rfl,rfl⟩:=hR.2 hWl;rw[List.take_left' hful];have cy:=hy.full out w hful;unfold JK at cy;refine Bo 90 [0,1,2,3,4] Tryz.func231 BS fun X_ ν_ w_=>?_;have c0_:=cl;have c1_:=cc;have c2_:=cy;refine Au (And.intro @hlo (And.intro @hz @hfin)) ?_;try exact trivial
   have cy:=hy.more out w (by omega) (by omega);unfold JK at cy;refine Bo 90 [0,1,2,3,4] Tryz.func231 BS fun X_ ν_ w_=>?_;have c0_:=cl;have c1_:=cc;have c2_:=cy;refine Au (And.intro @hlo (And.intro @hz @hfin)) ?_;try exact trivial
 all_goals
  refine A8 (fun j:Nat=>j≤(l[k]!).arcs.length∧out.length+(A0++((l[k]!).arcs.take j).flatMap G).length≤m) (fun j=>[(0,.ref 0 0),(2,.d (.sl 1 (is w))),(53,.d (.sl 2 (IZ (l[k]!).arcs))),(54,.d (.int .i64 (l[k]!).arcs.length)),(55,.d (.int .i64 j))]) (fun j=>[(0,.var [.d (.sl 2 (AQ l)),.d (.sl 1 (is (Ca DC l l.length))),.d (.sl 1 (is f)),.yld 1]),(1,.loop Y [(6,.ref 2 0),(5,.ref 3 0)] .ready),(2,.var [.own 4 (out++(A0++((l[k]!).arcs.take j).flatMap G)).length]),(3,.var [.d (.int .i64 m)]),(4,.row 57 1 (CI (out++(A0++((l[k]!).arcs.take j).flatMap G))))]) 5 (fun j=>(l[k]!).arcs.length-j) [0,2,53,54,55] [0,1,2,3,4] 0 ⟨Nat.zero_le _,by rw[List.take_zero,List.flatMap_nil,List.append_nil,hA0];simp only[List.length_nil,List.length_cons];omega⟩ rfl (by rw[List.take_zero,List.flatMap_nil,List.append_nil,hA0];first|rfl|(rw[List.append_nil];rfl)|(simp only[List.length_append,List.length_cons,List.length_nil];rfl)) (Nat.le_of_ble_eq_true rfl) (fun _ _=>rfl) (fun _ _=>rfl) fun j hj=>?_;obtain⟨hj1,hj3⟩:=hj;by_cases hj2:j<(l[k]!).arcs.length
  ·have hmem:(l[k]!).arcs[j]!∈(l[k]!).arcs:=by rw[getElem!_pos _ j hj2];exact List.getElem_mem hj2
   obtain⟨g1,g2,_⟩:=CF hka hk _ hmem;obtain⟨t,ht⟩:=Int.eq_ofNat_of_zero_le (by omega:0≤((l[k]!).arcs[j]!).to);have hst:A0++((l[k]!).arcs.take (j+1)).flatMap G=(A0++((l[k]!).arcs.take j).flatMap G)++G ((l[k]!).arcs[j]!):=by rw[AT hj2,List.flatMap_append,List.append_assoc];simp
   have hW:=SG (A:=A0) (G:=G) (al:=(l[k]!).arcs) (j:=j+1);rw[hst]at hW;generalize hX:A0++((l[k]!).arcs.take j).flatMap G=X at *;have cl2:=DQ (a:=(w++[((l[k]!).arcs[j]!).sign]).take (min (w.length+1) f.length)) (b:=f.take (min (w.length+1) f.length)) (by simp only[List.length_take];omega) (by simp only[List.length_take];omega);have ec:decide (Ae ((w++[((l[k]!).arcs[j]!).sign]).take (min (w.length+1) f.length)) (f.take (min (w.length+1) f.length))<0)=LH (w++[((l[k]!).arcs[j]!).sign]) f:=by unfold LH;simp only[List.length_append,List.length_cons,List.length_nil]
   rw[ec]at cl2;have emin:min ((w.length+1:Nat):Int) (f.length:Int)=((min (w.length+1) f.length:Nat):Int):=by omega
   have ccl:=dp (w:=w) (by omega);have c0_:=ccl;repeat ((fail_if_success (with_reducible show WP _ _ (.region 9 _ _) _ _));first|with_reducible exact Ev.nil|with_reducible exact E2|((with_reducible apply Cw);rfl)|((with_reducible apply AJ);rfl)|((with_reducible apply BH);rfl)|with_reducible apply BE|with_reducible apply Bu|with_reducible apply B5|((with_reducible apply DX (N:=90) rfl rfl);(focus simp only[Nat.reduceAdd]<;>rfl))|((with_reducible apply DV (N:=90) mixed rfl rfl);(focus simp only[Nat.reduceAdd]<;>rfl))|((with_reducible apply DU);(focus first|(apply BK;(focus rfl);rfl)|(apply BJ;(focus rfl);(focus rfl);rfl)))|((with_reducible apply Ct);(focus first|(apply BK;(focus rfl);rfl)|(apply BJ;(focus rfl);(focus rfl);rfl)))|with_reducible apply E3|with_reducible apply Cn|with_reducible apply Ck|with_reducible apply Cm|with_reducible apply Cj|((first|(with_reducible apply Cs)|(with_reducible apply By));(focus rfl))|((first|(with_reducible apply Cr)|(with_reducible apply Bx));(focus rfl))|(apply EG;(focus simp(disch:=omega)only[go_sem,DP]<;>rfl);(focus first|exact c0_);(focus rfl);(focus first|(simp(disch:=omega)only[go_sem,DP]<;>rfl)|rfl))|((with_reducible apply D5);(focus simp only[Nat.reduceAdd]<;>rfl);(focus simp(disch:=omega)only[go_sem,DP]<;>rfl))|(apply EH;(focus rfl);(focus simp(disch:=omega)only[go_sem,DP]<;>rfl);(focus first|exact c0_);(iterate 3 (focus first|(simp(disch:=omega)only[go_sem,DP]<;>rfl)|rfl)))|((first|apply Dc|apply Dd);(focus simp only[Nat.reduceAdd]<;>rfl);(focus rfl);(iterate 2 (focus simp(disch:=omega)only[go_sem,DP]<;>rfl));(first|((focus first|exact c0_);(iterate 2 (focus first|(simp(disch:=omega)only[go_sem,DP]<;>rfl)|rfl));(focus rfl);(iterate 3 (focus first|(simp(disch:=omega)only[go_sem,DP]<;>rfl)|rfl)))))|((first|(with_reducible apply Cp)|(with_reducible apply Cq));(focus simp only[Nat.reduceAdd]<;>rfl);(focus simp(disch:=omega)only[go_sem,DP]<;>rfl);(focus first|(simp(disch:=omega)only[go_sem,DP]<;>rfl)|rfl))|with_reducible apply BA|with_reducible apply BB|with_reducible apply BF|with_reducible apply BG|with_reducible apply B7|with_reducible apply B8|with_reducible apply B9|with_reducible apply Ba rfl|with_reducible apply Bd|with_reducible apply Be|with_reducible apply Bf|with_reducible apply Cu|with_reducible apply Cv|with_reducible apply AG|with_reducible apply B4|with_reducible apply Bz|with_reducible apply AH|with_reducible apply AI|((with_reducible apply DY);(focus first|(simp(disch:=omega)only[go_sem,DP]<;>rfl)|rfl))|((with_reducible apply DW);(focus first|(simp(disch:=omega)only[go_sem,DP]<;>rfl)|rfl))|((with_reducible apply BD);(focus rfl))|((with_reducible apply BC);(focus rfl);(focus rfl))|(with_reducible rfl)|((with_reducible show List.map Ad _=_);simp only[List.map_cons,List.map_nil,Ad,C5];rfl)|((with_reducible show AM _ _=true);kernel_rfl)|((with_reducible show _=_);simp(disch:=omega)only[go_sem,DP]<;>rfl)|((fail_if_success (with_reducible show Ev _ _ _ _ (_::_) _ _ _ _ _));(show Ev _ _ _ _ (_::_) _ _ _ _ _))|fail)
   refine Ha 9 (ks:=[2010]) (d:=.sl 1 (is (w++[((l[k]!).arcs[j]!).sign]))) rfl (by simp(disch:=omega)only[go_sem,List.length_append,List.length_cons,List.length_nil]) (by simp(disch:=omega)only[go_sem,Bq];rfl) ?_;cases hcut:LH (w++[((l[k]!).arcs[j]!).sign]) f
   ·rw[hcut]at cl2;have eG:G ((l[k]!).arcs[j]!)=wf l f n t (w++[((l[k]!).arcs[j]!).sign]):=by rw[← hG];simp only[hcut,Bool.false_eq_true,if_false,ht,Int.toNat_natCast]
    obtain⟨b',o',st',hR'⟩:=aq m (out++X) (G ((l[k]!).arcs[j]!));have hol:(out++X).length=out.length+X.length:=List.length_append;have cr:=ih t (w++[((l[k]!).arcs[j]!).sign]) (out++X) b' o' st' (by omega) (by omega) (by simp only[List.length_append,List.length_cons,List.length_nil];omega) (by omega) (eG▸hR');unfold ZE at cr;by_cases hfit:(out++X).length+(G ((l[k]!).arcs[j]!)).length≤m
    ·obtain⟨rfl,rfl,rfl⟩:=hR'.1 hfit;have c0_:=cl2;have c1_:=cr;refine Au (And.intro @ht (And.intro @emin (And.intro @Nf @Hz))) ?_;try exact trivial
     refine⟨j+1,⟨by omega,by rw[hst,List.length_append];omega⟩,?_,?_,by omega⟩
     ·exact Ei
     ·rw[hst,← List.append_assoc];exact GL
    ·obtain⟨rfl,rfl,rfl⟩:=hR'.2 (by omega);have hWl:m<out.length+(A0++(l[k]!).arcs.flatMap G).length:=by rw[hW];simp only[List.length_append]at hfit ⊢;omega
     obtain⟨rfl,rfl,rfl⟩:=hR.2 hWl;have eo:(out++(A0++(l[k]!).arcs.flatMap G)).take m=((out++X)++G ((l[k]!).arcs[j]!)).take m:=by
      rw[hW,← List.append_assoc,← List.append_assoc,List.take_append_of_le_length (by rw[List.length_append];omega)]
     rw[eo];have c0_:=cl2;have c1_:=cr;refine Au (And.intro @ht (And.intro @emin (And.intro @Nf @Hz))) ?_;try exact trivial
   ·rw[hcut]at cl2;have eG:G ((l[k]!).arcs[j]!)=[]:=by rw[← hG];simp only[hcut,if_true]
    rw[eG,List.append_nil]at hst;have c0_:=cl2;refine Au (And.intro @ht (And.intro @emin (And.intro @Nf @Hz))) ?_;try exact trivial
    refine⟨j+1,⟨by omega,by rw[hst];exact hj3⟩,?_,?_,by omega⟩
    ·exact Ei
    ·rw[hst];exact GL
  ·have hjl:j=(l[k]!).arcs.length:=by omega
   subst hjl;rw[List.take_length]at hj3 ⊢;obtain⟨rfl,rfl,rfl⟩:=hR.1 hj3;refine Ao ?_;try exact trivial
end Go.Eng.Tryz
namespace Go.Eng.Tryz
attribute [local go_sem] Aq As AP AO Az Ax Bb Bh Bq
theorem Dm:CI []=[]:=rfl
theorem OJ{l:List (List Int)}{w:List Int}:CI l++[.sl 1 (is w)]=CI (l++[w]):=by simp[CI]
theorem Ug{l:List Ak}{f:List Int}{Y:Ym}{m:Nat}{b:Bool}{o:List (List Int)}{st:VW}(hy:Sj Y m)(hm:m≤300)(hl:Bt l)(hka:achk l=true)(hf:f.length≤9223372036854775807)(hR:cK m [] (A7 l f) b o st) :
 Ai Tryz.prog 230 [.yld 0,.dref [.sl 2 (AQ l)],.dref [.sl 1 (is f)]] (JK Y m [] .ready) (.tup []) (JK Y m o st) 4:=by
 have ct:=Xe hl hka;have hl0:=(Aw.1 hka).2.1;have cw:=dP hy hm hl hka hf l.length 0 [] [] b o st hl0 (by omega) (Nat.le_refl _) (Nat.zero_le _) hR;have cw2:Ai Tryz.prog 231 [.ref 0 0,.d (.int .i64 0),.d .nils] (ZE Y m l f [] .ready) (.d (.bool b)) (ZE Y m l f o st) 5:=by
  refine F1.wk cw rfl fun i a a' h h'=>?_
  match i with
  |0=>simp at h h';subst h;subst h';exact .inl rfl
  |1=>simp at h h';subst h;subst h';exact .inl rfl
  |2=>simp at h h';subst h;subst h';exact .inr ⟨_,_,rfl,rfl,.nil 1⟩
  |i+3=>simp at h
 unfold ZE at cw2;unfold JK;refine Bo 14 [0,1,2,3] Tryz.func230 BS fun X_ ν_ w_=>?_;have c0_:=ct;have c1_:=cw2;refine Ao ?_;try exact trivial
theorem Xg{l:List Ak}{f:List Int}:Ai Tryz.prog 199 [.d (.sl 2 (AQ l)),.d (.sl 1 (is f))] [] (.fn 230 [.dref [.sl 2 (AQ l)],.dref [.sl 1 (is f)]]) [] 0:=by
 have h:Ai Tryz.prog 199 [.d (.sl 2 (AQ l)),.d (.sl 1 (is f))] [] (.fn 230 [.ref 0 0,.ref 1 0]) [(0,.var [.d (.sl 2 (AQ l))]),(1,.var [.d (.sl 1 (is f))])] 0:=by
  refine Bo 6 [0,1] Tryz.func199 Bm fun X_ ν_ w_=>?_;refine Ao ?_;try exact trivial
 exact h.freeze rfl
def GO(l:List Ak)(n:Int):Int:=if achk l=true then(if 0≤n∧n≤300 then 0 else 1)else 100
def GP(l:List Ak)(f:List Int)(n:Int):List (List Int):=if achk l=true∧0≤n∧n≤300 then(A7 l f).take n.toNat else[]
theorem du{l:List Ak}{f:List Int}{n:Int}(hl:Bt l)(hf:f.length≤9223372036854775807):A3 Tryz.prog 136 [.sl 2 (AQ l),.sl 1 (is f),.int .i64 n] (.tup [.sl 1 (CI (GP l f n)),.int .i64 (GO l n)]):=by
 have cch:=IM hl;cases hka:achk l
 ·have e1:GP l f n=[]:=if_neg (by rw[hka];simp);have e2:GO l n=100:=if_neg (by rw[hka];simp);rw[e1,e2];rw[hka]at cch;refine A3.wk (r:=.tup [.nils,.int .i64 100]) ?_ (Is.refl _) (.tup (.cons (.nil 1) (.cons (.refl _) .nil)));refine A6 33 Tryz.func136 B6 fun X_ w_=>?_;have c0_:=cch;refine Ao ?_;try exact trivial
 rw[hka]at cch;by_cases h0:n<0
 ·have e1:GP l f n=[]:=if_neg (by omega);have e2:GO l n=1:=by unfold GO;rw[if_pos hka,if_neg (by omega)]
  rw[e1,e2];refine A3.wk (r:=.tup [.nils,.int .i64 1]) ?_ (Is.refl _) (.tup (.cons (.nil 1) (.cons (.refl _) .nil)));refine A6 33 Tryz.func136 B6 fun X_ w_=>?_;have c0_:=cch;refine Ao ?_;try exact trivial
 by_cases h1:300<n
 ·have e1:GP l f n=[]:=if_neg (by omega);have e2:GO l n=1:=by unfold GO;rw[if_pos hka,if_neg (by omega)]
  rw[e1,e2];refine A3.wk (r:=.tup [.nils,.int .i64 1]) ?_ (Is.refl _) (.tup (.cons (.nil 1) (.cons (.refl _) .nil)));refine A6 33 Tryz.func136 B6 fun X_ w_=>?_;have c0_:=cch;refine Ao ?_;try exact trivial
 obtain⟨m,rfl⟩:=Int.eq_ofNat_of_zero_le (by omega:0≤n);have e1:GP l f m=(A7 l f).take m:=if_pos ⟨hka,by omega,by omega⟩;have e2:GO l m=0:=by unfold GO;rw[if_pos hka,if_pos ⟨by omega,by omega⟩]
 rw[e1,e2];have cm:=Xg (l:=l) (f:=f);have hm:m≤300:=by omega
 have hT:∀(al bl:Code),(∀(out:List (List Int)) (w:List Int),out.length<m→w.length≤6001→D7 Tryz.prog [.yld 0,.d (.sl 1 (is w))] (JK ⟨33,#[23],al,bl⟩ m out .ready) (.d (.bool true)) (JK ⟨33,#[23],al,bl⟩ m (out++[w]) .ready) 4)→(∀(out:List (List Int)) (w:List Int),out.length=m→D7 Tryz.prog [.yld 0,.d (.sl 1 (is w))] (JK ⟨33,#[23],al,bl⟩ m out .ready) (.d (.bool false)) (JK ⟨33,#[23],al,bl⟩ m out (.done (.exit 1))) 4)→Sj ⟨33,#[23],al,bl⟩ m:=fun al bl h1 h2=>⟨h1,h2⟩
 by_cases hfit:(A7 l f).length≤m
 ·rw[List.take_of_length_le hfit];have hR:cK m [] (A7 l f) true (A7 l f) .ready:=⟨fun _=>⟨rfl,rfl,rfl⟩,fun h=>by simp at h;omega⟩
  refine A6 33 Tryz.func136 B6 fun X_ w_=>?_;have c0_:=cch;have c1_:=cm;refine Ao ?_;try exact trivial
  refine LX 1 0 60000 57 1 rfl rfl (by decide) (by decide) (by simp(disch:=omega)only[go_sem];rfl) ?_;refine Mu [5,6,22] [0,1,60000] 60001 (Nat.le_of_ble_eq_true rfl) (by simp(disch:=omega)only[go_sem,AC,List.set_cons_zero,List.set_cons_succ]<;>rfl) (by simp(disch:=omega)only[go_sem,AC,List.set_cons_zero,List.set_cons_succ]<;>rfl) rfl rfl ?_;refine Ir (cs:=[(6,.ref 1 0),(5,.ref 0 0)]) rfl rfl rfl (by simp(disch:=omega)only[go_sem,J9]) rfl rfl (by simp(disch:=omega)only[go_sem,JK,Dm,List.length_nil];rfl) (Ug (Y:=⟨33,#[23],_,_⟩) ?hy hm hl hka hf hR) rfl (by first|(simp(disch:=omega)only[go_sem,JK,Dm,List.length_nil]<;>rfl)|rfl) (by first|(simp(disch:=omega)only[go_sem,JK,Dm,List.length_nil]<;>rfl)|rfl) rfl (by first|(simp(disch:=omega)only[go_sem,JK,Dm,List.length_nil]<;>rfl)|rfl) (by first|(simp(disch:=omega)only[go_sem,JK,Dm,List.length_nil]<;>rfl)|rfl) (by first|(simp(disch:=omega)only[go_sem,JK,Dm,List.length_nil]<;>rfl)|rfl) ?_
  ·refine hT _ _ (fun out w hx hw=>?_) (fun out w hx=>?_)
   ·unfold JK;refine D7.run (N:=33) (ps:=[23]) (ks:=[0,1,2,3]) rfl rfl rfl rfl rfl (by simp(disch:=omega)only[go_sem];rfl) fun l_ X_ ν_ w_=>?_;dsimp only;refine Ao ?_;try exact trivial
    refine HH (by simp(disch:=omega)only[go_sem]<;>rfl) (by simp(disch:=omega)only[go_sem]<;>rfl) ?_;dsimp only;refine Au @OJ ?_;try exact trivial
   ·unfold JK;refine D7.run (N:=33) (ps:=[23]) (ks:=[0,1,2,3]) rfl rfl rfl rfl rfl (by simp(disch:=omega)only[go_sem];rfl) fun l_ X_ ν_ w_=>?_;dsimp only;refine Ao ?_;try exact trivial
    refine HH (by simp(disch:=omega)only[go_sem]<;>rfl) (by simp(disch:=omega)only[go_sem]<;>rfl) ?_;dsimp only;refine Au @hx ?_;try exact trivial
  ·refine Ao ?_;try exact trivial
 ·have hR:cK m [] (A7 l f) false ((A7 l f).take m) (.done (.exit 1)):=⟨fun h=>by simp at h;omega,fun _=>⟨rfl,rfl,rfl⟩⟩
  generalize(A7 l f).take m=W at *;refine A6 33 Tryz.func136 B6 fun X_ w_=>?_;have c0_:=cch;have c1_:=cm;refine Ao ?_;try exact trivial
  refine LX 1 0 60000 57 1 rfl rfl (by decide) (by decide) (by simp(disch:=omega)only[go_sem];rfl) ?_;refine Mu [5,6,22] [0,1,60000] 60001 (Nat.le_of_ble_eq_true rfl) (by simp(disch:=omega)only[go_sem,AC,List.set_cons_zero,List.set_cons_succ]<;>rfl) (by simp(disch:=omega)only[go_sem,AC,List.set_cons_zero,List.set_cons_succ]<;>rfl) rfl rfl ?_;refine UB (cs:=[(6,.ref 1 0),(5,.ref 0 0)]) rfl rfl rfl (by simp(disch:=omega)only[go_sem,J9]) rfl rfl (by simp(disch:=omega)only[go_sem,JK,Dm,List.length_nil];rfl) (Ug (Y:=⟨33,#[23],_,_⟩) ?hy2 hm hl hka hf hR) rfl (by first|(simp(disch:=omega)only[go_sem,JK,Dm,List.length_nil]<;>rfl)|rfl) (by first|(simp(disch:=omega)only[go_sem,JK,Dm,List.length_nil]<;>rfl)|rfl) rfl (by first|(simp(disch:=omega)only[go_sem,JK,Dm,List.length_nil]<;>rfl)|rfl) (by first|(simp(disch:=omega)only[go_sem,JK,Dm,List.length_nil]<;>rfl)|rfl) (by first|(simp(disch:=omega)only[go_sem,JK,Dm,List.length_nil]<;>rfl)|rfl) ?_
  ·refine hT _ _ (fun out w hx hw=>?_) (fun out w hx=>?_)
   ·unfold JK;refine D7.run (N:=33) (ps:=[23]) (ks:=[0,1,2,3]) rfl rfl rfl rfl rfl (by simp(disch:=omega)only[go_sem];rfl) fun l_ X_ ν_ w_=>?_;dsimp only;refine Ao ?_;try exact trivial
    refine HH (by simp(disch:=omega)only[go_sem]<;>rfl) (by simp(disch:=omega)only[go_sem]<;>rfl) ?_;dsimp only;refine Au @OJ ?_;try exact trivial
   ·unfold JK;refine D7.run (N:=33) (ps:=[23]) (ks:=[0,1,2,3]) rfl rfl rfl rfl rfl (by simp(disch:=omega)only[go_sem];rfl) fun l_ X_ ν_ w_=>?_;dsimp only;refine Ao ?_;try exact trivial
    refine HH (by simp(disch:=omega)only[go_sem]<;>rfl) (by simp(disch:=omega)only[go_sem]<;>rfl) ?_;dsimp only;refine Au @hx ?_;try exact trivial
  ·refine Ao ?_;try exact trivial
end Go.Eng.Tryz
namespace Go.Eng.Tryz
attribute [local go_sem] Aq As AP AO Az Ax Md Mc Bb Bh
def W0(l:List Ak):List (List Int):=if Dn l≤300 then GP l [] 300 else[]
def cD(l:List Ak):Int:=if Dn l≤300 then GO l 300 else 81
theorem Z8{l:List Ak}(hl:Bt l):A3 Tryz.prog 71 [.sl 2 (AQ l)] (.tup [.sl 1 (CI (W0 l)),.int .i64 (cD l)]):=by
 have cm:=Xa hl;by_cases h:Dn l≤300
 ·have e1:W0 l=GP l [] 300:=if_pos h;have e2:cD l=GO l 300:=if_pos h;rw[e1,e2];have cw:A3 Tryz.prog 136 [.sl 2 (AQ l),.nils,.int .i64 300] (.tup [.sl 1 (CI (GP l [] 300)),.int .i64 (GO l 300)]):=(du (f:=[]) (n:=300) hl (Nat.zero_le _)).wk (.cons (.refl _) (.cons (.nil 1) (.cons (.refl _) .nil))) (.refl _);refine A6 11 Tryz.func71 A4 fun X_ w_=>?_;have c0_:=cm;have c1_:=cw;refine Ao ?_;try exact trivial
 ·have e1:W0 l=[]:=if_neg h;have e2:cD l=81:=if_neg h;rw[e1,e2];refine A3.wk (r:=.tup [.nils,.int .i64 81]) ?_ (Is.refl _) (.tup (.cons (.nil 1) (.cons (.refl _) .nil)));refine A6 11 Tryz.func71 A4 fun X_ w_=>?_;have c0_:=cm;refine Ao ?_;try exact trivial
theorem Rz{l:List Ak}(hka:achk l=true):∀(u:List Int) (k t:Int),Ay l k u=some t→k+u.length≤t
 | [],k,t,h=>by simp only[Ay,Option.some.injEq]at h;subst h;simp
 |z::u,k,t,h=>by
  simp only[Ay]at h;split at h
  ·rename_i s hs;have h1:=(Il hka hs).2.2.1;have:=Rz hka u s t h;simp only[List.length_cons];omega
  ·cases h
theorem Tp{l:List Ak}(hka:achk l=true){f x:List Int}(h:x∈A7 l f):x.length≤6001:=by
 obtain⟨u,t,e,e1,e2,e3⟩:=Kt hka _ _ _ (Aw.1 hka).2.1 x h;simp only[List.nil_append]at e;subst e;have h1:=Rz hka _ _ _ e1;have h2:=(DB hka (Int.le_refl 0) (by have:=(Aw.1 hka).2.1;omega) e1).2.1;have h3:=(Aw.1 hka).2.2;have h4:((0:Nat):Int)=0:=rfl;omega
theorem Ws(l:List Ak)(f:List Int)(n:Int):(GP l f n).length≤300∧Gd (GP l f n)∧∀w∈GP l f n,w.length≤6001:=by
 unfold GP;split
 ·rename_i h;have h1:((A7 l f).take n.toNat).length≤300:=by rw[List.length_take];omega
  have h2:∀w∈(A7 l f).take n.toNat,w.length≤6001:=fun w hw=>Tp h.1 (List.mem_of_mem_take hw);exact⟨h1,⟨by omega,fun w hw=>by have:=h2 w hw;omega⟩,h2⟩
 ·exact⟨by simp,⟨by simp,fun w hw=>by cases hw⟩,fun w hw=>by cases hw⟩
theorem cE(l:List Ak):(W0 l).length≤300∧Gd (W0 l)∧∀w∈W0 l,w.length≤6001:=by
 unfold W0;split
 ·exact Ws l [] 300
 ·exact⟨by simp,⟨by simp,fun w hw=>by cases hw⟩,fun w hw=>by cases hw⟩
end Go.Eng.Tryz
namespace Go.Eng.Tryz
theorem XH{all:List (List Se)}{l:List Ak}{t:List (List Int)}(hS:Gs all)(hl:achk l=true)(ht:TG all l t) :
 ∀a b i k,i<all.length→k<l.length→all.length-i=a→l.length-k=b→Ap t i k≠18446744073709551615 →
  ∃u f,Ay l k u=some f∧(l[f.toNat]!).final=true∧∀(p:List Int) (v:Int),NU all (p++u) i p.length v→NU all (p++u) (all.length-1) (p++u).length (v+Ap t i k):=by
 intro a;induction a using Nat.strongRecOn with
 |_ a iha =>
 intro b;induction b using Nat.strongRecOn with
 |_ b ihb =>
 intro i k hi hk ea eb hne;have f1:=(ht.fix i k hi hk).1;have hcell:=(LZ (l:=l) (t:=t) (i:=i) (k:=k) (all[i]!) (base all.length l i k)).2.2;unfold Ep at f1;rw[← f1]at hcell;rcases hcell with h|⟨s,hs,e,he,h⟩
 ·have hb:i+1=all.length∧(l[k]!).final=true:=by
   by_cases hb:i+1=all.length∧(l[k]!).final=true
   ·exact hb
   ·exfalso;unfold base at h;rw[if_neg hb]at h;exact hne h
  have h0:Ap t i k=0:=by rw[h];unfold base;rw[if_pos hb]
  refine⟨[],k,rfl,by simpa using hb.2,fun p v hw=>?_⟩;rw[h0,Int.add_zero];have e:all.length-1=i:=by omega
  rw[e];simpa using hw
 ·obtain⟨q1,q2,q3⟩:=AN (t:=t) hS hl hi hk hs he;obtain⟨s1,s2,s3,s4⟩:=hS i hi s hs;obtain⟨g1,g2,_⟩:=MK hl hk he;have hu:=(ht.fix _ _ q1 q2).2;have hne2:Ap t (i+s.eat.toNat) e.toNat≠18446744073709551615:=by
   intro h2;rw[h2]at h;apply hne;rw[h];unfold BM U at *;split<;>omega
  have hadd:Ap t i k=s.cost+Ap t (i+s.eat.toNat) e.toNat:=by
   by_cases hc:s.cost+Ap t (i+s.eat.toNat) e.toNat≤18446744073709551615
   ·rw[h];unfold BM;rw[if_pos hc]
   ·exfalso;apply hne;rw[h];unfold BM;rw[if_neg hc]
  have ih:∃u f,Ay l (e.toNat:Nat) u=some f∧(l[f.toNat]!).final=true∧∀(p:List Int) (v:Int),NU all (p++u) (i+s.eat.toNat) p.length v→NU all (p++u) (all.length-1) (p++u).length (v+Ap t (i+s.eat.toNat) e.toNat):=by
   rcases q3 with q3|⟨q3,q4⟩
   ·exact iha (all.length-(i+s.eat.toNat)) (by omega) _ _ _ q1 q2 rfl rfl hne2
   ·rw[q3]at hne2 ⊢;exact ihb (l.length-e.toNat) (by omega) _ _ hi q2 ea rfl hne2
  obtain⟨u,f,u1,u2,u3⟩:=ih;have hx:∃x,Ay l k x=some e∧∀(p y:List Int),C6 s (p++(x++y)) p.length=some x.length:=by
   unfold Dx at he;by_cases ha:s.any=true
   ·rw[if_pos ha]at he;obtain⟨a,hm,he2⟩:=List.mem_map.1 he;have hf:=Hd (DI (Aw.1 hl).1 hk) a hm;refine⟨[a.sign],?_,fun p y=>?_⟩
    ·simp only[Ay,CP];rw[if_pos ⟨by omega,by omega⟩,Int.toNat_natCast,hf,← he2];rfl
    ·unfold C6;rw[if_pos ha,if_pos (by simp)];rfl
   ·rw[if_neg ha]at he;unfold ER at he;rw[if_pos ⟨by omega,by omega⟩]at he;split at he
    ·rename_i t0 h0;simp only[List.mem_singleton]at he;refine⟨s.put,by rw[he];exact h0,fun p y=>?_⟩;unfold C6;rw[if_neg ha,List.drop_left,List.take_left,if_pos rfl]
    ·cases he
  obtain⟨x,x1,x2⟩:=hx;refine⟨x++u,f,?_,u2,fun p v hw=>?_⟩
  ·rw[CD,x1];have:((e.toNat:Nat):Int)=e:=by omega
   rw[this]at u1;exact u1
  ·have h1:=hw.step hs hi (x2 p u);have h2:=u3 (p++x) (v+s.cost) (by rw[List.append_assoc,List.length_append];exact h1);rw[List.append_assoc,Int.add_assoc,← hadd]at h2;exact h2
theorem Q5{α:Type}(g:α→Int):∀(W:List α) (m:Int),W.foldl (fun m w=>min m (g w)) m≤m∧(∀w∈W,W.foldl (fun m w=>min m (g w)) m≤g w)∧(W.foldl (fun m w=>min m (g w)) m=m∨∃w∈W,W.foldl (fun m w=>min m (g w)) m=g w)
 | [],m=>⟨Int.le_refl _,fun w h=>(by cases h),.inl rfl⟩
 |x::W,m=>by
  obtain⟨h1,h2,h3⟩:=Q5 g W (min m (g x));simp only[List.foldl_cons];generalize W.foldl (fun m w=>min m (g w)) (min m (g x))=F at *;refine⟨by omega,fun w hw=>?_,?_⟩
  ·rcases List.mem_cons.1 hw with rfl|hw
   ·omega
   ·exact h2 w hw
  ·rcases h3 with h3|⟨w,hw,h3⟩
   ·by_cases h:m≤g x
    ·left;omega
    ·right;exact⟨x,by simp,by omega⟩
   ·exact .inr ⟨w,by simp[hw],h3⟩
end Go.Eng.Tryz

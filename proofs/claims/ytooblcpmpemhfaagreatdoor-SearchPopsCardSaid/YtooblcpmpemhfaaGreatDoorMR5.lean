/- Steps: those that may be done at a place. (and what stands behind it: texts laid together) -/
import Derived.Test.YtooblcpmpemhfaaGreatDoorMG4
import Derived.Test.YtooblcpmpemhfaaGreatDoorMR4
import Derived.Test.YtooblcpmpemhfaaGreatDoorMR1
set_option linter.unusedVariables false
set_option linter.unusedSimpArgs false
open Go Go.Eng Go.Proofs Go.RowKit
set_option maxHeartbeats 32000000
set_option maxRecDepth 100000
namespace Go.Eng.Tryz
attribute [local go_sem] Aq As Ch Cg Ef Ee H1
theorem IG{l:List Int}{k:Nat}:(is l).take k=is (l.take k):=by simp[is,List.map_take]
theorem Mb{l:List Int}{k:Nat}:(is l).drop k=is (l.drop k):=by simp[is,List.map_drop]
def af(c:Co):List Int→List Se
 | []=>[]
 |x::_=>[⟨1,[x],false,0⟩,⟨1,[],true,c.other⟩,⟨1,[],false,c.less⟩]
def Zs(c:Co):List Int→List Se
 |x::y::_=>if x≠y then[⟨2,[y,x],false,c.turned⟩]else[]
 |_=>[]
def Tf(c:Co)(rest:List Int):List Se:=af c rest++Zs c rest++[⟨0,[],true,c.more⟩]
def Ql(rest:List Int)(r:Ru):Option Se:=if rest.take r.left.length=r.left then some ⟨r.left.length,r.right,false,r.cost⟩else none
def Lc(c:Co)(rest:List Int):List Se:=Tf c rest++c.rules.filterMap (Ql rest)
theorem Mk(c:Co)(rest:List Int):(Tf c rest).length≤5:=by
 unfold Tf af Zs;split<;>split<;>simp<;>split<;>simp
theorem Ml(rest:List Int)(l:List Ru):(l.filterMap (Ql rest)).length≤l.length:=List.length_filterMap_le _ _
theorem Xy{rest:List Int}{l:List Ru}{k:Nat}(h:k<l.length):(l.take (k+1)).filterMap (Ql rest)=(l.take k).filterMap (Ql rest)++(match Ql rest (l[k]!)with|some s=>[s]|none=>[]):=by
 rw[HI h,List.filterMap_append];congr 1;generalize l[k]! =r;cases hr:Ql rest r<;>simp[hr]
theorem ev{Y:Ym}(hy:Tu Y){xs:List Se}{s:Se}(hx:xs.length≤1000)(hs:s.put=[]):D7 Tryz.prog [.yld 0,.d (.agg [.int .i64 s.eat,.nils,.bool s.any,.int .u64 s.cost])] (St Y xs) (.d (.bool true)) (St Y (xs++[s])) 3:=by
 refine F1.wk (hy xs s hx (by rw[hs];simp)) rfl fun i a a' h h'=>?_
 match i with
 |0=>simp at h h';subst h;subst h';exact .inl rfl
 |1 =>
  simp at h h';subst h;subst h';refine .inr ⟨_,_,rfl,rfl,.agg (.cons (.refl _) (.cons ?_ (.cons (.refl _) (.cons (.refl _) .nil))))⟩;rw[hs];exact .nil 1
 |i+2=>simp at h
theorem Nx{Y:Ym}(hy:Tu Y){xs:List Se}{s:Se}{p:D}(hx:xs.length≤1000)(hs:s.put.length≤1000000)(hp:Wk p (.sl 1 (is s.put))) :
 Ai Tryz.prog 272 [.d (.bool true),.d (.agg [.int .i64 s.eat,p,.bool s.any,.int .u64 s.cost]),.ref 0 0] (Si Y xs) (.d (.bool true)) (Si Y (xs++[s])) 4:=by
 refine F1.wk (fg hy hx hs) rfl fun i a a' h h'=>?_
 match i with
 |0=>simp at h h';subst h;subst h';exact .inl rfl
 |1=>simp at h h';subst h;subst h';exact .inr ⟨_,_,rfl,rfl,.agg (.cons (.refl _) (.cons hp (.cons (.refl _) (.cons (.refl _) .nil))))⟩
 |2=>simp at h h';subst h;subst h';exact .inl rfl
 |i+3=>simp at h
theorem dy{Y:Ym}(hy:Tu Y){c:Co}{q:List Int}{i:Nat}(hc:c.ok)(hq:q.length≤1000000)(hi:i≤q.length)(hr:c.rules.length≤900)(hrl:∀r∈c.rules,r.right.length≤1000000) :
 Ai Tryz.prog 271 [.yld 0,.dref [.sl 1 (is q)],.dref [.int .i64 i],.dref [.int .u64 c.more,.int .u64 c.less,.int .u64 c.other,.int .u64 c.turned,.sl 3 (rs c.rules)]] (St Y []) (.tup []) (St Y (Lc c (q.drop i))) 3:=by
 obtain⟨u1,u2,u3,u4,hok,hlen⟩:=hc;have Cd:(q.drop i).length≤1000000:=by simp;omega
 generalize hR:q.drop i=rest at Cd ⊢;have eD:((is q).take q.length).drop i=is rest:=by rw[IG,List.take_length,Mb,hR]
 have hcase:rest=[]∨(∃x,rest=[x])∨∃x y t,rest=x::y::t:=by
  rcases rest with _|⟨x,_|⟨y,t⟩⟩
  ·exact .inl rfl
  ·exact .inr (.inl ⟨x,rfl⟩)
  ·exact .inr (.inr ⟨x,y,t,rfl⟩)
 rcases hcase with h0|⟨x,h0⟩|⟨x,y,t,h0⟩
 case' inl =>
  have e3:Tf c rest=[⟨0,[],true,c.more⟩]:=by rw[h0];rfl
  have n0:=RP (Y:=Y) (xs:=[]) (e:=1) (p:=.nils) (a:=false) (c:=0);have n1:=RP (Y:=Y) (xs:=[]) (e:=1) (p:=.nils) (a:=true) (c:=c.other);have n2:=RP (Y:=Y) (xs:=[]) (e:=1) (p:=.nils) (a:=false) (c:=c.less);have n3:=RP (Y:=Y) (xs:=[]) (e:=2) (p:=.nils) (a:=false) (c:=c.turned);have n4:=ev hy (xs:=[]) (s:=⟨0,[],true,c.more⟩) (by simp) rfl;have eD':((is q).take q.length).drop i=[]:=by rw[eD,h0];rfl
  unfold Si at n0 n1 n2 n3;unfold St at n4 ⊢;refine Bo 120 [0,1,2] Tryz.func271 DK fun X_ ν_ w_=>?_;have c0_:=n0;have c1_:=n1;have c2_:=n2;have c3_:=n3;have c4_:=n4;refine Au @eD' ?_;try exact trivial
 case' inr.inl =>
  have e3:Tf c rest=[⟨1,[x],false,0⟩,⟨1,[],true,c.other⟩,⟨1,[],false,c.less⟩,⟨0,[],true,c.more⟩]:=by rw[h0];rfl
  have n0:=Nx hy (xs:=[]) (s:=⟨1,[x],false,0⟩) (p:=.sl 1 [.int .i64 x]) (by simp) (by simp) (.refl _);have n1:=Nx hy (xs:=[⟨1,[x],false,0⟩]) (s:=⟨1,[],true,c.other⟩) (p:=.nils) (by simp) (by simp) (.nil 1);have n2:=Nx hy (xs:=[⟨1,[x],false,0⟩,⟨1,[],true,c.other⟩]) (s:=⟨1,[],false,c.less⟩) (p:=.nils) (by simp) (by simp) (.nil 1);have n3:=RP (Y:=Y) (xs:=[⟨1,[x],false,0⟩,⟨1,[],true,c.other⟩,⟨1,[],false,c.less⟩]) (e:=2) (p:=.nils) (a:=false) (c:=c.turned);have n4:=ev hy (xs:=[⟨1,[x],false,0⟩,⟨1,[],true,c.other⟩,⟨1,[],false,c.less⟩]) (s:=⟨0,[],true,c.more⟩) (by simp) rfl;have eD':((is q).take q.length).drop i=[.int .i64 x]:=by rw[eD,h0];rfl
  unfold Si at n0 n1 n2 n3;unfold St at n4 ⊢;refine Bo 120 [0,1,2] Tryz.func271 DK fun X_ ν_ w_=>?_;have c0_:=n0;have c1_:=n1;have c2_:=n2;have c3_:=n3;have c4_:=n4;refine Au @eD' ?_;try exact trivial
 case' inr.inr =>
  have eD':((is q).take q.length).drop i= .int .i64 x::.int .i64 y::is t:=by rw[eD,h0];rfl
  by_cases hxy:x=y
  case' pos =>
   subst hxy;have e3:Tf c rest=[⟨1,[x],false,0⟩,⟨1,[],true,c.other⟩,⟨1,[],false,c.less⟩,⟨0,[],true,c.more⟩]:=by rw[h0];simp[Tf,af,Zs]
   have n0:=Nx hy (xs:=[]) (s:=⟨1,[x],false,0⟩) (p:=.sl 1 [.int .i64 x]) (by simp) (by simp) (.refl _);have n1:=Nx hy (xs:=[⟨1,[x],false,0⟩]) (s:=⟨1,[],true,c.other⟩) (p:=.nils) (by simp) (by simp) (.nil 1);have n2:=Nx hy (xs:=[⟨1,[x],false,0⟩,⟨1,[],true,c.other⟩]) (s:=⟨1,[],false,c.less⟩) (p:=.nils) (by simp) (by simp) (.nil 1);have n3:=RP (Y:=Y) (xs:=[⟨1,[x],false,0⟩,⟨1,[],true,c.other⟩,⟨1,[],false,c.less⟩]) (e:=2) (p:=.sl 1 [.int .i64 x,.int .i64 x]) (a:=false) (c:=c.turned);have n4:=ev hy (xs:=[⟨1,[x],false,0⟩,⟨1,[],true,c.other⟩,⟨1,[],false,c.less⟩]) (s:=⟨0,[],true,c.more⟩) (by simp) rfl;unfold Si at n0 n1 n2 n3;unfold St at n4 ⊢;refine Bo 120 [0,1,2] Tryz.func271 DK fun X_ ν_ w_=>?_;have c0_:=n0;have c1_:=n1;have c2_:=n2;repeat ((fail_if_success (with_reducible show WP _ _ (.region 10 _ _) _ _));first|with_reducible exact Ev.nil|with_reducible exact E2|((with_reducible apply Cw);rfl)|((with_reducible apply AJ);rfl)|((with_reducible apply BH);rfl)|with_reducible apply BE|with_reducible apply Bu|with_reducible apply B5|((with_reducible apply DX (N:=120) rfl rfl);(focus simp only[Nat.reduceAdd]<;>rfl))|((with_reducible apply DV (N:=120) mixed rfl rfl);(focus simp only[Nat.reduceAdd]<;>rfl))|((with_reducible apply DU);(focus first|(apply BK;(focus rfl);rfl)|(apply BJ;(focus rfl);(focus rfl);rfl)))|((with_reducible apply Ct);(focus first|(apply BK;(focus rfl);rfl)|(apply BJ;(focus rfl);(focus rfl);rfl)))|with_reducible apply E3|with_reducible apply Cn|with_reducible apply Ck|with_reducible apply Cm|with_reducible apply Cj|((first|(with_reducible apply Cs)|(with_reducible apply By));(focus rfl))|((first|(with_reducible apply Cr)|(with_reducible apply Bx));(focus rfl))|(apply EG;(focus simp(disch:=omega)only[go_sem,eD']<;>rfl);(focus fail);(focus rfl);(focus first|(simp(disch:=omega)only[go_sem,eD']<;>rfl)|rfl))|((with_reducible apply D5);(focus simp only[Nat.reduceAdd]<;>rfl);(focus simp(disch:=omega)only[go_sem,eD']<;>rfl))|(apply EH;(focus rfl);(focus simp(disch:=omega)only[go_sem,eD']<;>rfl);(focus fail);(iterate 3 (focus first|(simp(disch:=omega)only[go_sem,eD']<;>rfl)|rfl)))|((first|apply Dc|apply Dd);(focus simp only[Nat.reduceAdd]<;>rfl);(focus rfl);(iterate 2 (focus simp(disch:=omega)only[go_sem,eD']<;>rfl));(first|(exact c0_;(iterate 2 (focus first|(simp(disch:=omega)only[go_sem,eD']<;>rfl)|rfl));(focus rfl);(iterate 3 (focus first|(simp(disch:=omega)only[go_sem,eD']<;>rfl)|rfl)))|(exact c1_;(iterate 2 (focus first|(simp(disch:=omega)only[go_sem,eD']<;>rfl)|rfl));(focus rfl);(iterate 3 (focus first|(simp(disch:=omega)only[go_sem,eD']<;>rfl)|rfl)))|(exact c2_;(iterate 2 (focus first|(simp(disch:=omega)only[go_sem,eD']<;>rfl)|rfl));(focus rfl);(iterate 3 (focus first|(simp(disch:=omega)only[go_sem,eD']<;>rfl)|rfl)))))|((first|(with_reducible apply Cp)|(with_reducible apply Cq));(focus simp only[Nat.reduceAdd]<;>rfl);(focus simp(disch:=omega)only[go_sem,eD']<;>rfl);(focus first|(simp(disch:=omega)only[go_sem,eD']<;>rfl)|rfl))|with_reducible apply BA|with_reducible apply BB|with_reducible apply BF|with_reducible apply BG|with_reducible apply B7|with_reducible apply B8|with_reducible apply B9|with_reducible apply Ba rfl|with_reducible apply Bd|with_reducible apply Be|with_reducible apply Bf|with_reducible apply Cu|with_reducible apply Cv|with_reducible apply AG|with_reducible apply B4|with_reducible apply Bz|with_reducible apply AH|with_reducible apply AI|((with_reducible apply DY);(focus first|(simp(disch:=omega)only[go_sem,eD']<;>rfl)|rfl))|((with_reducible apply DW);(focus first|(simp(disch:=omega)only[go_sem,eD']<;>rfl)|rfl))|((with_reducible apply BD);(focus rfl))|((with_reducible apply BC);(focus rfl);(focus rfl))|(with_reducible rfl)|((with_reducible show List.map Ad _=_);simp only[List.map_cons,List.map_nil,Ad,C5];rfl)|((with_reducible show AM _ _=true);kernel_rfl)|((with_reducible show _=_);simp(disch:=omega)only[go_sem,eD']<;>rfl)|((fail_if_success (with_reducible show Ev _ _ _ _ (_::_) _ _ _ _ _));(show Ev _ _ _ _ (_::_) _ _ _ _ _))|fail)
   refine Ha 9 rfl rfl (by simp(disch:=omega)only[go_sem,Bq];rfl) ?_;have c0_:=n0;have c1_:=n1;have c2_:=n2;have c3_:=n3;have c4_:=n4;refine Au @eD' ?_;try exact trivial
  case' neg =>
   have e3:Tf c rest=[⟨1,[x],false,0⟩,⟨1,[],true,c.other⟩,⟨1,[],false,c.less⟩,⟨2,[y,x],false,c.turned⟩,⟨0,[],true,c.more⟩]:=by rw[h0];simp[Tf,af,Zs,hxy]
   have n0:=Nx hy (xs:=[]) (s:=⟨1,[x],false,0⟩) (p:=.sl 1 [.int .i64 x]) (by simp) (by simp) (.refl _);have n1:=Nx hy (xs:=[⟨1,[x],false,0⟩]) (s:=⟨1,[],true,c.other⟩) (p:=.nils) (by simp) (by simp) (.nil 1);have n2:=Nx hy (xs:=[⟨1,[x],false,0⟩,⟨1,[],true,c.other⟩]) (s:=⟨1,[],false,c.less⟩) (p:=.nils) (by simp) (by simp) (.nil 1);have n3:=Nx hy (xs:=[⟨1,[x],false,0⟩,⟨1,[],true,c.other⟩,⟨1,[],false,c.less⟩]) (s:=⟨2,[y,x],false,c.turned⟩) (p:=.sl 1 [.int .i64 y,.int .i64 x]) (by simp) (by simp) (.refl _);have n4:=ev hy (xs:=[⟨1,[x],false,0⟩,⟨1,[],true,c.other⟩,⟨1,[],false,c.less⟩,⟨2,[y,x],false,c.turned⟩]) (s:=⟨0,[],true,c.more⟩) (by simp) rfl;have hyx:¬y=x:=fun h=>hxy h.symm;unfold Si at n0 n1 n2 n3;unfold St at n4 ⊢;refine Bo 120 [0,1,2] Tryz.func271 DK fun X_ ν_ w_=>?_;have c0_:=n0;have c1_:=n1;have c2_:=n2;repeat ((fail_if_success (with_reducible show WP _ _ (.region 10 _ _) _ _));first|with_reducible exact Ev.nil|with_reducible exact E2|((with_reducible apply Cw);rfl)|((with_reducible apply AJ);rfl)|((with_reducible apply BH);rfl)|with_reducible apply BE|with_reducible apply Bu|with_reducible apply B5|((with_reducible apply DX (N:=120) rfl rfl);(focus simp only[Nat.reduceAdd]<;>rfl))|((with_reducible apply DV (N:=120) mixed rfl rfl);(focus simp only[Nat.reduceAdd]<;>rfl))|((with_reducible apply DU);(focus first|(apply BK;(focus rfl);rfl)|(apply BJ;(focus rfl);(focus rfl);rfl)))|((with_reducible apply Ct);(focus first|(apply BK;(focus rfl);rfl)|(apply BJ;(focus rfl);(focus rfl);rfl)))|with_reducible apply E3|with_reducible apply Cn|with_reducible apply Ck|with_reducible apply Cm|with_reducible apply Cj|((first|(with_reducible apply Cs)|(with_reducible apply By));(focus rfl))|((first|(with_reducible apply Cr)|(with_reducible apply Bx));(focus rfl))|(apply EG;(focus simp(disch:=omega)only[go_sem,eD']<;>rfl);(focus fail);(focus rfl);(focus first|(simp(disch:=omega)only[go_sem,eD']<;>rfl)|rfl))|((with_reducible apply D5);(focus simp only[Nat.reduceAdd]<;>rfl);(focus simp(disch:=omega)only[go_sem,eD']<;>rfl))|(apply EH;(focus rfl);(focus simp(disch:=omega)only[go_sem,eD']<;>rfl);(focus fail);(iterate 3 (focus first|(simp(disch:=omega)only[go_sem,eD']<;>rfl)|rfl)))|((first|apply Dc|apply Dd);(focus simp only[Nat.reduceAdd]<;>rfl);(focus rfl);(iterate 2 (focus simp(disch:=omega)only[go_sem,eD']<;>rfl));(first|(exact c0_;(iterate 2 (focus first|(simp(disch:=omega)only[go_sem,eD']<;>rfl)|rfl));(focus rfl);(iterate 3 (focus first|(simp(disch:=omega)only[go_sem,eD']<;>rfl)|rfl)))|(exact c1_;(iterate 2 (focus first|(simp(disch:=omega)only[go_sem,eD']<;>rfl)|rfl));(focus rfl);(iterate 3 (focus first|(simp(disch:=omega)only[go_sem,eD']<;>rfl)|rfl)))|(exact c2_;(iterate 2 (focus first|(simp(disch:=omega)only[go_sem,eD']<;>rfl)|rfl));(focus rfl);(iterate 3 (focus first|(simp(disch:=omega)only[go_sem,eD']<;>rfl)|rfl)))))|((first|(with_reducible apply Cp)|(with_reducible apply Cq));(focus simp only[Nat.reduceAdd]<;>rfl);(focus simp(disch:=omega)only[go_sem,eD']<;>rfl);(focus first|(simp(disch:=omega)only[go_sem,eD']<;>rfl)|rfl))|with_reducible apply BA|with_reducible apply BB|with_reducible apply BF|with_reducible apply BG|with_reducible apply B7|with_reducible apply B8|with_reducible apply B9|with_reducible apply Ba rfl|with_reducible apply Bd|with_reducible apply Be|with_reducible apply Bf|with_reducible apply Cu|with_reducible apply Cv|with_reducible apply AG|with_reducible apply B4|with_reducible apply Bz|with_reducible apply AH|with_reducible apply AI|((with_reducible apply DY);(focus first|(simp(disch:=omega)only[go_sem,eD']<;>rfl)|rfl))|((with_reducible apply DW);(focus first|(simp(disch:=omega)only[go_sem,eD']<;>rfl)|rfl))|((with_reducible apply BD);(focus rfl))|((with_reducible apply BC);(focus rfl);(focus rfl))|(with_reducible rfl)|((with_reducible show List.map Ad _=_);simp only[List.map_cons,List.map_nil,Ad,C5];rfl)|((with_reducible show AM _ _=true);kernel_rfl)|((with_reducible show _=_);simp(disch:=omega)only[go_sem,eD']<;>rfl)|((fail_if_success (with_reducible show Ev _ _ _ _ (_::_) _ _ _ _ _));(show Ev _ _ _ _ (_::_) _ _ _ _ _))|fail)
   refine Ha 9 rfl rfl (by simp(disch:=omega)only[go_sem,Bq];rfl) ?_;have c0_:=n0;have c1_:=n1;have c2_:=n2;have c3_:=n3;have c4_:=n4;refine Au (And.intro @eD' @hyx) ?_;try exact trivial
 all_goals
  refine A8 (fun k:Nat=>k≤c.rules.length) (fun k=>[(5,.d (.sl 1 (is rest))),(6,.fn 272 [.ref 3 0]),(86,.d (.sl 3 (rs c.rules))),(87,.d (.int .i64 c.rules.length)),(88,.d (.int .i64 k))]) (fun k=>[(0,.loop Y [(6,.ref 1 0)] .ready),(1,.var [.own 2 (Tf c rest++(c.rules.take k).filterMap (Ql rest)).length]),(2,.row 223 4 (LV (Tf c rest++(c.rules.take k).filterMap (Ql rest)))),(3,.var [.yld 0])]) 4 (fun k=>c.rules.length-k) [5,6,86,87,88] [0,1,2,3] 0 (Nat.zero_le _) (by rw[h0];rfl) (by rw[e3];rfl) (Nat.le_of_ble_eq_true rfl) (fun _ _=>rfl) (fun _ _=>rfl) fun k hk=>?_;clear n0 n1 n2 n3 n4;have hX:(Tf c rest++(c.rules.take k).filterMap (Ql rest)).length≤1000:=by
   have h1:=Mk c rest;have h2:=Ml rest (c.rules.take k);simp only[List.length_append,List.length_take]at h2 ⊢;omega
  by_cases hk':k<c.rules.length
  ·have hst:=Xy (rest:=rest) hk';have ho:=Ke hok hk';have hright:(c.rules[k]!).right.length≤1000000:=by rw[getElem!_pos c.rules k hk'];exact hrl _ (List.getElem_mem hk')
   generalize hXX:Tf c rest++(c.rules.take k).filterMap (Ql rest)=X at hX ⊢;by_cases hm:rest.take (c.rules[k]!).left.length=(c.rules[k]!).left
   ·have hn:(c.rules[k]!).left.length≤rest.length:=by
     have:=congrArg List.length hm;simp only[List.length_take]at this;omega
    have hmin:min ((c.rules[k]!).left.length:Int) (rest.length:Int)=((c.rules[k]!).left.length:Int):=by omega
    have ce:=Ij (a:=rest.take (c.rules[k]!).left.length) (b:=(c.rules[k]!).left) (by simp only[List.length_take];omega) ho.1;rw[decide_eq_true hm]at ce;have cp:=Nx hy (xs:=X) (s:=⟨(c.rules[k]!).left.length,(c.rules[k]!).right,false,(c.rules[k]!).cost⟩) (p:=.sl 1 (is (c.rules[k]!).right)) hX hright (.refl _);have e4:Ql rest (c.rules[k]!)=some ⟨(c.rules[k]!).left.length,(c.rules[k]!).right,false,(c.rules[k]!).cost⟩:=by unfold Ql;rw[if_pos hm]
    rw[e4]at hst;unfold Si at cp;have c0_:=ce;have c1_:=cp;refine Au (And.intro @hmin @IG) ?_;try exact trivial
    refine⟨k+1,by omega,?_,?_,by omega⟩
    ·exact Ei
    ·rw[hst,← List.append_assoc,hXX];exact GL
   ·by_cases hn:(c.rules[k]!).left.length≤rest.length
    ·have hmin:min ((c.rules[k]!).left.length:Int) (rest.length:Int)=((c.rules[k]!).left.length:Int):=by omega
     have ce:=Ij (a:=rest.take (c.rules[k]!).left.length) (b:=(c.rules[k]!).left) (by simp only[List.length_take];omega) ho.1;rw[decide_eq_false hm]at ce;have cp:=RP (Y:=Y) (xs:=X) (e:=(c.rules[k]!).left.length) (p:=.sl 1 (is (c.rules[k]!).right)) (a:=false) (c:=(c.rules[k]!).cost);have e4:Ql rest (c.rules[k]!)=none:=by unfold Ql;rw[if_neg hm]
     rw[e4]at hst;unfold Si at cp;have c0_:=ce;have c1_:=cp;refine Au (And.intro @hmin @IG) ?_;try exact trivial
     refine⟨k+1,by omega,?_,?_,by omega⟩
     ·exact Ei
     ·simp only[List.append_nil]at hst;rw[hst,hXX];exact GL
    ·have cp:=RP (Y:=Y) (xs:=X) (e:=(c.rules[k]!).left.length) (p:=.sl 1 (is (c.rules[k]!).right)) (a:=false) (c:=(c.rules[k]!).cost);have e4:Ql rest (c.rules[k]!)=none:=by unfold Ql;rw[if_neg hm]
     rw[e4]at hst;unfold Si at cp;have c0_:=cp;refine Ao ?_;try exact trivial
     refine⟨k+1,by omega,?_,?_,by omega⟩
     ·exact Ei
     ·simp only[List.append_nil]at hst;rw[hst,hXX];exact GL
  ·have hkl:k=c.rules.length:=by omega
   subst hkl;rw[List.take_length];rw[show Lc c rest=Tf c rest++c.rules.filterMap (Ql rest)from rfl];refine Ao ?_;try exact trivial
end Go.Eng.Tryz
namespace Go.Eng.Tryz
attribute [local go_sem] Aq As Ch Cg Ef Ee H1 Bq
theorem eU{c:Co}{q:List Int}{i:Int}:Ai Tryz.prog 251 [.d (co c),.d (.sl 1 (is q)),.d (.int .i64 i)] []
 (.fn 271 [.dref [.sl 1 (is q)],.dref [.int .i64 i],.dref [.int .u64 c.more,.int .u64 c.less,.int .u64 c.other,.int .u64 c.turned,.sl 3 (rs c.rules)]]) [] 0:=by
 have h:Ai Tryz.prog 251 [.d (co c),.d (.sl 1 (is q)),.d (.int .i64 i)] [] (.fn 271 [.ref 1 0,.ref 2 0,.ref 0 0])
  [(0,.var [.d (.int .u64 c.more),.d (.int .u64 c.less),.d (.int .u64 c.other),.d (.int .u64 c.turned),.d (.sl 3 (rs c.rules))]),(1,.var [.d (.sl 1 (is q))]),(2,.var [.d (.int .i64 i)])] 0:=by
  unfold co;refine Bo 8 [0,1,2] Tryz.func251 BS fun X_ ν_ w_=>?_;refine Ao ?_;try exact trivial
 exact h.freeze rfl
theorem eX{c:Co}{q:List Int}{i:Nat}(hc:c.ok)(hq:q.length≤1000000)(hi:i≤q.length)(hr:c.rules.length≤900)(hrl:∀r∈c.rules,r.right.length≤1000000) :
 A3 Tryz.prog 215 [co c,.sl 1 (is q),.int .i64 i] (.sl 4 (LV (Lc c (q.drop i)))):=by
 have cm:=eU (c:=c) (q:=q) (i:=i);unfold co at cm ⊢;refine A6 22 Tryz.func215 B6 fun X_ w_=>?_;have c0_:=cm;refine Ao ?_;try exact trivial
 refine LX 1 0 3000 223 4 rfl rfl (by decide) (by decide) (by simp(disch:=omega)only[go_sem];rfl) ?_;refine Mu [6,11] [1,3000] 3001 (Nat.le_of_ble_eq_true rfl) (by simp(disch:=omega)only[go_sem,AC,List.set_cons_zero,List.set_cons_succ]<;>rfl) (by simp(disch:=omega)only[go_sem,AC,List.set_cons_zero,List.set_cons_succ]<;>rfl) rfl rfl ?_;refine Ir (cs:=[(6,.ref 1 0)]) rfl rfl rfl (by simp(disch:=omega)only[go_sem,J9]) rfl rfl (by simp(disch:=omega)only[go_sem,St,IU,List.length_nil];rfl) (dy (Y:=⟨22,#[12],_,_⟩) ?hy hc hq hi hr hrl) rfl (by first|(simp(disch:=omega)only[go_sem,St,IU,List.length_nil]<;>rfl)|rfl) (by first|(simp(disch:=omega)only[go_sem,St,IU,List.length_nil]<;>rfl)|rfl) rfl (by first|(simp(disch:=omega)only[go_sem,St,IU,List.length_nil]<;>rfl)|rfl) (by first|(simp(disch:=omega)only[go_sem,St,IU,List.length_nil]<;>rfl)|rfl) (by first|(simp(disch:=omega)only[go_sem,St,IU,List.length_nil]<;>rfl)|rfl) ?_
 ·intro xs s hx hs;have ccl:=L3 hs;unfold St se;refine D7.run (N:=22) (ps:=[12]) (ks:=[0,1,2]) rfl rfl rfl rfl rfl (by simp(disch:=omega)only[go_sem];rfl) fun l_ X_ ν_ w_=>?_;dsimp only;refine Ao ?_;try exact trivial
  refine HH (by simp(disch:=omega)only[go_sem]<;>rfl) (by simp(disch:=omega)only[go_sem]<;>rfl) ?_;dsimp only;have c0_:=ccl;refine Ao ?_;try exact trivial
 ·refine Ao ?_;try exact trivial
end Go.Eng.Tryz
namespace Go.Eng.Tryz
attribute [local go_sem] Aq As Ch Cg Ef Ee H1 Bq
theorem Rc{r:Ru}(h:Rb r=true):r.left.length≤8∧r.right.length≤8:=by
 simp only[Rb,Bool.and_eq_true]at h;obtain⟨h1,h2,_,_⟩:=IS.1 h.1.1;exact⟨Ur h1,Ur h2⟩
theorem Iw{c:Co}(h:Lq c=true):c.rules.length≤200∧∀r∈c.rules,r.left.length≤8∧r.right.length≤8:=by
 obtain⟨_,h2,h3,_⟩:=JS.1 h;exact⟨h2,fun r hr=>Rc (List.all_eq_true.1 h3 r hr)⟩
theorem Xh{c:Co}{q:List Int}(hc:c.ok)(hq:q.length≤9223372036854775807):A3 Tryz.prog 214 [co c,.sl 1 (is q)] (.bool (!(decide (q.length≤20)&&Lq c))):=by
 have cc:=Td hc;unfold co at cc ⊢;by_cases h:q.length≤20
 ·have e:(!(decide (q.length≤20)&&Lq c)) = !Lq c:=by simp[h]
  refine A6 13 Tryz.func214 Ah fun X_ w_=>?_;have c0_:=cc;refine Au @e ?_;try exact trivial
 ·have e:(!(decide (q.length≤20)&&Lq c))=true:=by simp[h]
  refine A6 13 Tryz.func214 Ah fun X_ w_=>?_;have c0_:=cc;refine Au @e ?_;try exact trivial
def Mh(c:Co)(q:List Int):Bool:=decide (q.length≤20)&&Lq c
theorem Fm{c:Co}{q:List Int}:Mh c q=true↔q.length≤20∧Lq c=true:=by simp[Mh]
def HT(l:List (List Se)):List D:=l.map fun x=>.sl 4 (LV x)
theorem Gp{l:List (List Se)}:(HT l).length=l.length:=by simp[HT]
theorem Gn{l:List (List Se)}{k:Nat}(h:k<l.length):(HT l)[k]? =some (.sl 4 (LV (l[k]!))):=by simp[HT,List.getElem?_eq_getElem h,getElem!_pos l k h]
theorem RY{l:List (List Se)}{x:List Se}:HT l++[.sl 4 (LV x)]=HT (l++[x]):=by simp[HT]
attribute [local go_sem] Gp Gn RY
def Bj(c:Co)(q:List Int)(n:Nat):List (List Se):=(List.range n).map fun i=>Lc c (q.drop i)
theorem BW(c:Co)(q:List Int)(n:Nat):(Bj c q n).length=n:=by simp[Bj]
theorem UF(c:Co)(q:List Int)(n:Nat):Bj c q (n+1)=Bj c q n++[Lc c (q.drop n)]:=by simp[Bj,List.range_succ]
def FD(c:Co)(q:List Int):List (List Se):=if Mh c q=true then Bj c q (q.length+1)else[]
theorem X5{c:Co}{q:List Int}(hc:c.ok)(hq:q.length≤9223372036854775807):A3 Tryz.prog 166 [co c,.sl 1 (is q)] (.sl 1 (HT (FD c q))):=by
 have cw:=Xh hc hq;rw[show(!(decide (q.length≤20)&&Lq c)) = !Mh c q from rfl]at cw;cases hm:Mh c q
 ·have e:FD c q=[]:=if_neg (by simp[hm]);rw[e];rw[hm]at cw;refine A3.wk (r:=.nils) ?_ (Is.refl _) (.nil 1);unfold co at cw ⊢;refine A6 24 Tryz.func166 Ah fun X_ w_=>?_;have c0_:=cw;refine Ao ?_;try exact trivial
 ·obtain⟨hl,hk⟩:=Fm.1 hm;obtain⟨k1,k2⟩:=Iw hk;have e:FD c q=Bj c q (q.length+1):=if_pos hm;rw[e];rw[hm]at cw;have co':=fun(n:Nat) (hn:n≤q.length)=>eX (q:=q) (i:=n) hc (by omega) hn (by omega) (fun r hr=>Nat.le_trans (k2 r hr).2 (by decide));unfold co at cw co' ⊢;refine A6 24 Tryz.func166 Ah fun X_ w_=>?_;have c0_:=cw;refine Ao ?_;try exact trivial
  refine Jk 4 20000 221 1 rfl (by decide) (Nat.le_of_ble_eq_true rfl) ?_;refine A8 (fun k:Nat=>k≤q.length+1) (fun k=>[(1,.d (.sl 1 (is q))),(2,.ref 0 0),(4,.own 20000 (Bj c q k).length),(11,.d (.int .i64 ((q.length:Int)+1))),(12,.d (.int .i64 k))]) (fun k=>[(0,.var [.d (.int .u64 c.more),.d (.int .u64 c.less),.d (.int .u64 c.other),.d (.int .u64 c.turned),.d (.sl 3 (rs c.rules))]),(20000,.row 221 1 (HT (Bj c q k)))]) 20001 (fun k=>q.length+1-k) [1,2,4,11,12] [0,20000] 0 (Nat.zero_le _) rfl rfl (Nat.zero_le _) (fun _ _=>rfl) (fun _ _=>rfl) fun k hk=>?_;have al:=BW c q k;by_cases hk':k<q.length+1
  ·have ck:=co' k (by omega);have hst:=UF c q k;have c0_:=ck;refine Au @al ?_;try exact trivial
   refine⟨k+1,by omega,?_,?_,by omega⟩
   ·simp(disch:=omega)only[go_sem,AC,Int.natCast_add,Int.cast_ofNat_Int,hst,al,List.length_append,List.length_cons,List.length_nil]
   ·exact Hq @hst
  ·have hkl:k=q.length+1:=by omega
   subst hkl;refine Au @al ?_;try exact trivial
end Go.Eng.Tryz
namespace Go.Eng.Tryz
attribute [local go_sem] Aq As Ch Cg Ef Ee H1 Bq IG Mb
theorem Xk{pre:List D}{l:List Se}{e:Int}{p:List Int}{a:Bool}{c:Int}:pre++LV l++[.agg [.int .i64 e,.sl 1 (is p),.bool a,.int .u64 c]]=pre++LV (l++[⟨e,p,a,c⟩]):=by simp[LV,se]
attribute [local go_sem] Xk
theorem Is.app{a b c d:List D}(h:Is a b)(k:Is c d):Is (a++c) (b++d):=by
 induction a generalizing b with
 |nil=>cases h;exact k
 |cons x a ih=>cases h with|cons h t=>exact .cons h (ih t)
end Go.Eng.Tryz
namespace Go.Eng.Tryz
attribute [local go_sem] Aq As Ch Cg Ef Ee H1 Gp Gn RY Bq
def ZD(l:List Se):Prop:=∀s∈l,s.put.length≤9223372036854775807
theorem ZD.get{l:List Se}(h:ZD l){k:Nat}(hk:k<l.length):(l[k]!).put.length≤9223372036854775807:=by
 rw[getElem!_pos l k hk];exact h _ (List.getElem_mem hk)
end Go.Eng.Tryz
namespace Go.Eng.Tryz
def BM(a b:Int):Int:=if a+b≤18446744073709551615 then a+b else 18446744073709551615
theorem Gt{a b:Int}(ha:U a)(hb:U b):U (BM a b):=by
 unfold U BM at *;split<;>omega
theorem cL{a b c:Int}(ha:U a)(hb:U b)(h0:0≤c)(h1:c≤1):A3 Tryz.prog 119 [.int .u64 a,.int .u64 b,.int .u64 c] (.tup [.int .u64 ((a+b+c)%18446744073709551616),.int .u64 ((a+b+c)/18446744073709551616)]):=by
 refine A3.ext Tryz.func119 (by kernel_rfl) (by kernel_rfl) (by kernel_rfl) (e:=add64Entry) (by kernel_rfl) fun w M vs hl hv=>?_
 match vs,hl with
 | [x,y,z],_ =>
   have hx:=hv 0 _ _ rfl rfl;have hy:=hv 1 _ _ rfl rfl;have hz:=hv 2 _ _ rfl rfl;cases hx;cases hy;cases hz;exact⟨_,run_add64 a b c ha.1 hb.1 h0 h1 w,.tup rfl fun i d v h1 h2=>by
    match i with
    |0=>simp at h1 h2;subst h1;subst h2;constructor
    |1=>simp at h1 h2;subst h1;subst h2;constructor
    |(i+2)=>simp at h1⟩
theorem JT{a b:Int}(ha:U a)(hb:U b):A3 Tryz.prog 51 [.int .u64 a,.int .u64 b] (.int .u64 (BM a b)):=by
 have ha':=ha;have hb':=hb;have c:=cL ha hb (c:=0) (by decide) (by decide);unfold U at ha' hb';by_cases h:a+b≤18446744073709551615
 ·have e:BM a b=a+b:=if_pos h;have e1:(a+b+0)%18446744073709551616=a+b:=by omega
  have e2:(a+b+0)/18446744073709551616=0:=by omega
  rw[e1,e2]at c;rw[e];refine A6 16 Tryz.func51 Ah fun X_ w_=>?_;have c0_:=c;refine Ao ?_;try exact trivial
 ·have e:BM a b=18446744073709551615:=if_neg h;have e2:(a+b+0)/18446744073709551616=1:=by omega
  rw[e2]at c;rw[e];refine A6 16 Tryz.func51 Ah fun X_ w_=>?_;have c0_:=c;refine Ao ?_;try exact trivial
theorem Tn{β:Type}(f:β→Int→β)(a:β)(l:List Int){k:Nat}(h:k<l.length):(l.take (k+1)).foldl f a=f ((l.take k).foldl f a) (l[k]!):=by
 rw[List.take_add_one,List.foldl_append,List.getElem?_eq_getElem h,getElem!_pos l k h];rfl
theorem ak{l:List Int}(h:∀z∈l,U z){k:Nat}:∀z∈l.take k,U z:=fun z hz=>h z (List.mem_of_mem_take hz)
def Pr(l:List Int):Int:=l.foldl min 18446744073709551615
theorem Y0{l:List Int}:∀{a:Int},U a→(∀z∈l,U z)→U (l.foldl min a):=by
 induction l with
 |nil=>intro a ha _;exact ha
 |cons x l ih=>intro a ha h;exact ih (by have:=h x (by simp);unfold U at *;omega) fun z hz=>h z (by simp[hz])
theorem Hz{a b:Int}:(if b<a then b else a)=min a b:=by split<;>omega
theorem UP{l:List Int}(hl:∀z∈l,U z)(hlen:l.length≤9223372036854775807):A3 Tryz.prog 170 [.sl 1 (us l)] (.int .u64 (Pr l)):=by
 refine A6 17 Tryz.func170 A4 fun X_ w_=>?_;refine Ao ?_;try exact trivial
 refine A8 (fun k:Nat=>k≤l.length) (fun k=>[(6,.d (.sl 1 (us l))),(3,.d (.int .u64 ((l.take k).foldl min 18446744073709551615))),(7,.d (.int .i64 l.length)),(8,.d (.int .i64 k))]) (fun _=>[]) 0 (fun k=>l.length-k) [6,3,7,8] [] 0 (Nat.zero_le _) rfl rfl (Nat.le_refl _) (fun _ _=>rfl) (fun _ _=>rfl) fun k hk=>?_;have hU:U ((l.take k).foldl min 18446744073709551615):=Y0 ⟨by decide,by decide⟩ (ak hl);by_cases hk':k<l.length
 ·have e:=Tn min 18446744073709551615 l hk';refine Au @Hz ?_;try exact trivial
  refine⟨k+1,by omega,?_,rfl,by omega⟩;exact Sf (And.intro @e @Hz)
 ·have hk':k=l.length:=by omega
  subst hk';rw[List.take_length,show l.foldl min 18446744073709551615=Pr l from rfl];refine Ao ?_;try exact trivial
theorem Hn{a b:Int}(ha:U a)(hb:U b):A3 Tryz.prog 170 [.sl 1 [.int .u64 a,.int .u64 b]] (.int .u64 (min a b)):=by
 have e:Pr [a,b]=min a b:=by unfold U at *;simp only[Pr,List.foldl_cons,List.foldl_nil];omega
 have:=UP (l:=[a,b]) (fun z hz=>by simp at hz;rcases hz with rfl|rfl;exact ha;exact hb) (by simp);rw[e]at this;exact this
end Go.Eng.Tryz

/- The laws of searches: what is asked first; which automaton has the words does not matter. (and what stands behind it: texts laid together) -/
import Derived.Test.YtooblcpmpemhfaaGreatDoorMG4
import Derived.Test.YtooblcpmpemhfaaGreatDoorMR26
import Derived.Test.YtooblcpmpemhfaaGreatDoorMR23
set_option linter.unusedVariables false
set_option linter.unusedSimpArgs false
open Go Go.Eng Go.Proofs Go.RowKit
set_option maxHeartbeats 32000000
set_option maxRecDepth 100000
namespace Go.Eng.Tryz
attribute [local go_sem] Aq As Bb Bh AP AO Az Ax Ch Cg Gj Gi
def lX:List (List Int):=[[97,98],[97,98,99],[98]]
def sX:List Ak:=[⟨false,[⟨97,1⟩,⟨98,3⟩]⟩,⟨false,[⟨98,2⟩]⟩,⟨true,[⟨99,3⟩]⟩,⟨true,[]⟩]
theorem fu:Oi lX=0:=by decide +kernel
theorem aK:QR lX=sX:=by decide +kernel
theorem X2:Bt sX:=by unfold Bt sX;decide
theorem Yz:Jc sX VX [97,98] 2 18446744073709551615 100=([⟨[97,98],0⟩,⟨[97,98,99],1⟩],6,0):=by decide +kernel
theorem YA:Jc sX VX [97,98] 1 18446744073709551615 3=([],3,210):=by decide +kernel
theorem YB:Jc sX VX [] (-1) 0 0=([],0,1):=by decide +kernel
theorem YC:Jc [] ⟨0,0,0,0,[]⟩ [] 0 0 0=([],0,100):=by decide +kernel
theorem We:MA sX VX [97,98] [98]=1:=by decide +kernel
theorem Wf:MA sX VX [] [99]=18446744073709551615:=by decide +kernel
theorem Gm:A3 Tryz.prog 38 [] (.bool true):=by
 have wc:Wk (.agg [.int .u64 1,.int .u64 1,.int .u64 1,.int .u64 1,.nils]) (co VX):=.agg (.cons (.refl _) (.cons (.refl _) (.cons (.refl _) (.cons (.refl _) (.cons (.nil 3) .nil)))));have m0:=(Z4 (L:=lX) (c:=VX) ⟨by decide,by decide⟩ Ot fu aH).wk (.cons (.refl _) (.cons wc .nil)) (.refl _);rw[aK]at m0;have f1:=Jf (n:=2) (most:=18446744073709551615) (budget:=100) (q:=[97,98]) X2 Ot (by decide);have f2:=Jf (n:=1) (most:=18446744073709551615) (budget:=3) (q:=[97,98]) X2 Ot (by decide);have f3:=(Jf (n := -1) (most:=0) (budget:=0) (q:=[]) X2 Ot (by decide)).wk (as':=[im sX VX,.nils,.int .i64 (-1),.int .u64 0,.int .i64 0]) (.cons (.refl _) (.cons (.nil 1) (.cons (.refl _) (.cons (.refl _) (.cons (.refl _) .nil))))) (.refl _);have f4:=(Jf (n:=0) (most:=0) (budget:=0) (q:=[]) dg cV (by decide)).wk (as':=[fy,.nils,.int .i64 0,.int .u64 0,.int .i64 0]) (.cons (.agg (.cons (.nil 2) (.cons (.refl _) (.cons (.refl _) (.cons (.refl _) (.cons (.refl _) (.cons (.nil 3) .nil))))))) (.cons (.nil 1) (.cons (.refl _) (.cons (.refl _) (.cons (.refl _) .nil))))) (.refl _);have b1:=Qa (q:=[97,98]) (u:=[98]) X2 Ot (by decide) (by decide);have b2:=(Qa (q:=[]) (u:=[99]) X2 Ot (by decide) (by decide)).wk (as':=[im sX VX,.nils,.sl 1 (is [99])]) (.cons (.refl _) (.cons (.nil 1) (.cons (.refl _) .nil))) (.refl _);rw[Yz]at f1;rw[YA]at f2;rw[YB]at f3;rw[YC]at f4;rw[We]at b1;rw[Wf]at b2;simp only[lX,CI,is,List.map_cons,List.map_nil,im,fy,VX,rs,sX,AQ,Tg,IZ,ar,Lx,ED]at m0 f1 f2 f3 f4 b1 b2;refine A6 114 Tryz.func38 Y9 fun X_ w_=>?_;have c0_:=m0;have c1_:=f1;have c2_:=f2;have c3_:=f3;have c4_:=f4;repeat ((fail_if_success (with_reducible show WP _ _ (.region 7 _ _) _ _));first|with_reducible exact Ev.nil|with_reducible exact E2|((with_reducible apply Cw);rfl)|((with_reducible apply AJ);rfl)|((with_reducible apply BH);rfl)|with_reducible apply BE|with_reducible apply Bu|with_reducible apply B5|((with_reducible apply DX (N:=114) rfl rfl);(focus simp only[Nat.reduceAdd]<;>rfl))|((with_reducible apply DV (N:=114) mixed rfl rfl);(focus simp only[Nat.reduceAdd]<;>rfl))|((with_reducible apply DU);(focus first|(apply BK;(focus rfl);rfl)|(apply BJ;(focus rfl);(focus rfl);rfl)))|((with_reducible apply Ct);(focus first|(apply BK;(focus rfl);rfl)|(apply BJ;(focus rfl);(focus rfl);rfl)))|with_reducible apply E3|with_reducible apply Cn|with_reducible apply Ck|with_reducible apply Cm|with_reducible apply Cj|((first|(with_reducible apply Cs)|(with_reducible apply By));(focus rfl))|((first|(with_reducible apply Cr)|(with_reducible apply Bx));(focus rfl))|(apply EG;(focus simp(disch:=omega)only[go_sem]<;>rfl);(focus first|exact c0_|exact c1_|exact c2_|exact c3_|exact c4_);(focus rfl);(focus first|(simp(disch:=omega)only[go_sem]<;>rfl)|rfl))|((with_reducible apply D5);(focus simp only[Nat.reduceAdd]<;>rfl);(focus simp(disch:=omega)only[go_sem]<;>rfl))|(apply EH;(focus rfl);(focus simp(disch:=omega)only[go_sem]<;>rfl);(focus first|exact c0_|exact c1_|exact c2_|exact c3_|exact c4_);(iterate 3 (focus first|(simp(disch:=omega)only[go_sem]<;>rfl)|rfl)))|((first|apply Dc|apply Dd);(focus simp only[Nat.reduceAdd]<;>rfl);(focus rfl);(iterate 2 (focus simp(disch:=omega)only[go_sem]<;>rfl));(first|((focus first|exact c0_|exact c1_|exact c2_|exact c3_|exact c4_);(iterate 2 (focus first|(simp(disch:=omega)only[go_sem]<;>rfl)|rfl));(focus rfl);(iterate 3 (focus first|(simp(disch:=omega)only[go_sem]<;>rfl)|rfl)))))|((first|(with_reducible apply Cp)|(with_reducible apply Cq));(focus simp only[Nat.reduceAdd]<;>rfl);(focus simp(disch:=omega)only[go_sem]<;>rfl);(focus first|(simp(disch:=omega)only[go_sem]<;>rfl)|rfl))|with_reducible apply BA|with_reducible apply BB|with_reducible apply BF|with_reducible apply BG|with_reducible apply B7|with_reducible apply B8|with_reducible apply B9|with_reducible apply Ba rfl|with_reducible apply Bd|with_reducible apply Be|with_reducible apply Bf|with_reducible apply Cu|with_reducible apply Cv|with_reducible apply AG|with_reducible apply B4|with_reducible apply Bz|with_reducible apply AH|with_reducible apply AI|((with_reducible apply DY);(focus first|(simp(disch:=omega)only[go_sem]<;>rfl)|rfl))|((with_reducible apply DW);(focus first|(simp(disch:=omega)only[go_sem]<;>rfl)|rfl))|((with_reducible apply BD);(focus rfl))|((with_reducible apply BC);(focus rfl);(focus rfl))|(with_reducible rfl)|((with_reducible show List.map Ad _=_);simp only[List.map_cons,List.map_nil,Ad,C5];rfl)|((with_reducible show AM _ _=true);kernel_rfl)|((with_reducible show _=_);simp(disch:=omega)only[go_sem]<;>rfl)|((fail_if_success (with_reducible show Ev _ _ _ _ (_::_) _ _ _ _ _));(show Ev _ _ _ _ (_::_) _ _ _ _ _))|fail)
 have c0_:=b1;have c1_:=b2;refine Ao ?_;try exact trivial
theorem Mj{l:List Ak}{c:Co}{q:List Int}(hl:Bt l)(hc:c.ok):A3 Tryz.prog 45 [im l c,.sl 1 (is q)] (.bool (decide (Lp l c q=0))):=by
 have ck:=Qb hl hc;by_cases h:Qu l c=0
 ·rw[h]at ck;by_cases h2:q.length≤20
  ·rw[decide_eq_true (I1.2 ⟨h,h2⟩)];unfold im at *;refine A6 13 Tryz.func45 Ah fun X_ w_=>?_;have c0_:=ck;refine Ao ?_;try exact trivial
  ·rw[decide_eq_false (fun h3=>h2 (I1.1 h3).2)];unfold im at *;refine A6 13 Tryz.func45 Ah fun X_ w_=>?_;have c0_:=ck;refine Ao ?_;try exact trivial
 ·rw[decide_eq_false (fun h3=>h (I1.1 h3).1)];generalize Qu l c=e at *;unfold im at *;refine A6 13 Tryz.func45 Ah fun X_ w_=>?_;have c0_:=ck;refine Ao ?_;try exact trivial
theorem M9{l:List Ak}{c:Co}(h:Qu l c=0):(A7 l []).length≤300∧dY l c=A7 l []∧Gd (A7 l []):=by
 obtain⟨ha,hk,h3,h4,h5⟩:=OW.1 h;have hmn:Dn l=min 301 ((A7 l []).length:Int):=by
  have:Dn l=(Ca DC l l.length)[0]! :=if_pos ha;rw[this];exact Ku ha l.length 0 [] (Aw.1 ha).2.1 (by omega)
 have hlen:(A7 l []).length≤300:=by omega
 obtain⟨e1,e2,_⟩:=cF ha (F9 ha) (Em ha []) hlen;have hWok:=(cE l).2.1;rw[e1]at hWok;exact⟨hlen,by unfold dY;rw[if_pos h,e1],hWok⟩
end Go.Eng.Tryz
namespace Go.Eng.Tryz
def Sd(g:List Int→Int)(w:List Int):En:=⟨g w,w,true,0⟩
def Q8(g:List Int→Int)(W:List (List Int))(u:List Int):En:=⟨Dg g W u,u,false,0⟩
def PW(e:En):List En→List En
 | []=>[e]
 |x::l=>if AE e x=true then e::x::l else if AE x e=true then x::PW e l else x::l
def NG(l:List En):List En:=l.foldr PW []
def GF(l:List En):Prop:=l.Pairwise fun a b=>AE a b=true
theorem QU{a b:En}(h1:AE a b=false)(h2:AE b a=false)(ha:a.place=0)(hb:b.place=0):a=b:=by
 obtain⟨e1,e2,e3⟩:=MJ h1 h2;obtain⟨a1,a2,a3,a4⟩:=a;obtain⟨b1,b2,b3,b4⟩:=b;simp only at e1 e2 e3 ha hb;subst e1 e2 e3 ha hb;rfl
theorem Nc{e:En}(he:e.place=0):∀{l:List En},(∀x∈l,x.place=0)→∀x,x∈PW e l↔x=e∨x∈l
 | [],_,x=>by simp[PW]
 |y::l,h,x=>by
  have ih:=Nc he (l:=l) (fun z hz=>h z (by simp[hz])) x;unfold PW;split
  ·simp
  ·split
   ·simp only[List.mem_cons,ih];constructor
    ·rintro(h|h|h)
     ·exact .inr (.inl h)
     ·exact .inl h
     ·exact .inr (.inr h)
    ·rintro(h|h|h)
     ·exact .inr (.inl h)
     ·exact .inl h
     ·exact .inr (.inr h)
   ·rename_i h1 h2;have:e=y:=QU (by simpa using h1) (by simpa using h2) he (h y (by simp));subst this;simp
theorem Rq{e:En}(he:e.place=0):∀{l:List En},(∀x∈l,x.place=0)→GF l→GF (PW e l)
 | [],_,_=>by simp[PW,GF]
 |y::l,h,hs=>by
  have hs':=hs;unfold GF at hs';rw[List.pairwise_cons]at hs';have ih:=Rq he (l:=l) (fun z hz=>h z (by simp[hz])) hs'.2;unfold PW;split
  ·rename_i h1;unfold GF;rw[List.pairwise_cons];refine⟨fun z hz=>?_,hs⟩;rcases List.mem_cons.1 hz with rfl|hz
   ·exact h1
   ·exact Lt h1 (hs'.1 z hz)
  ·split
   ·rename_i h1 h2;unfold GF;rw[List.pairwise_cons];refine⟨fun z hz=>?_,ih⟩;rcases(Nc he (fun z hz=>h z (by simp[hz])) z).1 hz with rfl|hz
    ·exact h2
    ·exact hs'.1 z hz
   ·exact hs
theorem IV:∀{l:List En},(∀x∈l,x.place=0)→GF (NG l)∧∀x,x∈NG l↔x∈l
 | [],_=>⟨by simp[NG,GF],by simp[NG]⟩
 |e::l,h=>by
  obtain⟨h1,h2⟩:=IV (l:=l) fun x hx=>h x (by simp[hx]);have he:=h e (by simp);have hp:∀x∈NG l,x.place=0:=fun x hx=>h x (by simp[(h2 x).1 hx]);refine⟨Rq he hp h1,fun x=>?_⟩;show x∈PW e (NG l)↔_;rw[Nc he hp,h2,List.mem_cons]
def Y6(g:List Int→Int)(W:List (List Int))(most:Int):List En:=((W.map (Sd g))++W.flatMap fun w=>(List.range (w.length+1)).map fun i=>Q8 g W (w.take i)).filter (BN most)
def BL(g:List Int→Int)(W:List (List Int))(most:Int):List En:=NG (Y6 g W most)
theorem QE{g:List Int→Int}{W:List (List Int)}{most:Int}{e:En}:e∈Y6 g W most↔BN most e=true∧∃w∈W,e=Sd g w∨∃u,AK u w=true∧e=Q8 g W u:=by
 unfold Y6;rw[List.mem_filter,List.mem_append,List.mem_map,List.mem_flatMap];constructor
 ·rintro⟨h|⟨w,hw,h⟩,hk⟩
  ·obtain⟨w,hw,rfl⟩:=h;exact⟨hk,w,hw,.inl rfl⟩
  ·obtain⟨i,hi,rfl⟩:=List.mem_map.1 h;exact⟨hk,w,hw,.inr ⟨_,Af.2 ⟨w.drop i,(List.take_append_drop i w).symm⟩,rfl⟩⟩
 ·rintro⟨hk,w,hw,h|⟨u,hu,h⟩⟩
  ·exact⟨.inl ⟨w,hw,h.symm⟩,hk⟩
  ·refine⟨.inr ⟨w,hw,List.mem_map.2 ⟨u.length,?_,?_⟩⟩,hk⟩
   ·obtain⟨r,rfl⟩:=Af.1 hu;simp;omega
   ·obtain⟨r,rfl⟩:=Af.1 hu;rw[List.take_left,h]
theorem Hb{g:List Int→Int}{W:List (List Int)}{most:Int}:∀e∈Y6 g W most,e.place=0:=fun e he=>by
 obtain⟨_,w,_,h|⟨u,_,h⟩⟩:=QE.1 he<;>rw[h]<;>rfl
theorem Ig(g:List Int→Int)(W:List (List Int))(most:Int):GF (BL g W most):=(IV Hb).1
theorem C9{g:List Int→Int}{W:List (List Int)}{most:Int}{e:En}:e∈BL g W most↔BN most e=true∧∃w∈W,e=Sd g w∨∃u,AK u w=true∧e=Q8 g W u:=by
 unfold BL;rw[(IV Hb).2 e,QE]
theorem K2{most:Int}{a e:En}(h:a.cost≤e.cost)(he:BN most e=true):BN most a=true:=by
 have:=of_decide_eq_true he;exact decide_eq_true (by omega)
theorem Hf{a b c:List Int}(h1:AK a b=true)(h2:AK b c=true):AK a c=true:=by
 obtain⟨r,rfl⟩:=Af.1 h1;obtain⟨s,rfl⟩:=Af.1 h2;exact Af.2 ⟨r++s,by simp⟩
theorem KF(a:List Int):AK a a=true:=Af.2 ⟨[],by simp⟩
theorem FV(a:List Int):AK [] a=true:=Af.2 ⟨a,rfl⟩
theorem QK{g:List Int→Int}{W:List (List Int)}{a b:List Int}(h:AK a b=true):Dg g W a≤Dg g W b:=by
 obtain⟨h1,h2,_⟩:=DL g W a;rcases(DL g W b).2.2 with h3|⟨w,hw,hb,h3⟩
 ·rw[h3];exact h1
 ·rw[h3];exact h2 w hw (Hf h hb)
theorem K6{g:List Int→Int}{W:List (List Int)}{most:Int}{e:En}(he:e∈BL g W most){a:List Int}(h:AK a e.word=true):Dg g W a≤e.cost:=by
 obtain⟨_,w,hw,rfl|⟨u,_,rfl⟩⟩:=C9.1 he
 ·exact(DL g W a).2.1 w hw h
 ·exact QK h
theorem Pg{g:List Int→Int}{W:List (List Int)}{most:Int}{e:En}(he:e∈BL g W most){a:List Int}(h:AK a e.word=true):AE e (Q8 g W a)=false:=by
 have hc:=K6 he h;cases hx:AE e (Q8 g W a)with
 |false=>rfl
 |true =>
  exfalso;obtain⟨r,hr⟩:=Af.1 h;rw[DN]at hx;have hw:¬Ae e.word a<0:=by
   rw[hr];have:=EW a r [];rw[List.append_nil]at this;rw[this];exact Ga _
  rcases hx with hx|⟨hx,hx2|⟨_,_,hx2⟩⟩
  ·simp only[Q8]at hx;omega
  ·exact hw hx2
  ·cases hx2
structure Fr(S L:List En):Prop where
 sub:∀e∈L,e∈S
 cov:∀e∈S,∃a∈L,a=e∨a.done=false∧AK a.word e.word=true
 nd:L.Nodup
 anti:∀a∈L,∀b∈L,a≠b→a.done=false→AK a.word b.word=false
theorem QZ{L:List En}{i:Nat}(hn:L.Nodup)(hi:i<L.length):L[i]!∉L.eraseIdx i∧(L.eraseIdx i).Nodup∧∀x,x∈L.eraseIdx i↔x∈L∧x≠L[i]! :=by
 have hp:=Jp hi;have h2:=hp.nodup_iff.2 hn;rw[List.nodup_cons]at h2;refine⟨h2.1,h2.2,fun x=>?_⟩;have h3:=hp.mem_iff (a:=x);rw[List.mem_cons]at h3;constructor
 ·intro h;exact⟨h3.1 (.inr h),fun e=>h2.1 (e▸h)⟩
 ·rintro⟨h,h'⟩;rcases h3.2 h with h|h
  ·exact absurd h h'
  ·exact h
section
variable {g:List Int→Int} {W:List (List Int)} {most:Int}
theorem Fr.head{pre S L:List En}{h:En}(hS:BL g W most=pre++h::S)(hf:Fr (h::S) L):0<L.length∧L[Bs L]! =h:=by
 have hs:=Ig g W most;rw[hS]at hs;unfold GF at hs;rw[List.pairwise_append,List.pairwise_cons]at hs;have hin:∀e∈h::S,e∈BL g W most:=fun e he=>by rw[hS];exact List.mem_append_right _ he
 have hlt:∀e∈h::S,e≠h→AE h e=true:=fun e he hne=>by
  rcases List.mem_cons.1 he with rfl|he
  ·exact absurd rfl hne
  ·exact hs.2.1.1 e he
 have hL:h∈L:=by
  obtain⟨a,ha,h1|⟨h1,h2⟩⟩:=hf.cov h (by simp)
  ·rw[← h1];exact ha
  ·have haS:=hf.sub a ha;by_cases e:a=h
   ·rw[← e];exact ha
   ·exfalso;have h3:=hlt a haS e;obtain⟨_,w,_,h4|⟨u,_,h4⟩⟩:=C9.1 (hin a haS)
    ·rw[h4]at h1;cases h1
    ·have h5:=Pg (hin h (by simp)) (a:=a.word) h2;rw[h4]at h3 h5;have h6:Q8 g W (Q8 g W u).word=Q8 g W u:=rfl;rw[h6,h3]at h5;cases h5
 have h0:0<L.length:=List.length_pos_of_mem hL;refine⟨h0,?_⟩;have hm:L[Bs L]!∈L:=by rw[getElem!_pos L _ (F7 h0)];exact List.getElem_mem _
 have h1:=N6 hL;by_cases e:L[Bs L]! =h
 ·exact e
 ·rw[hlt _ (hf.sub _ hm) e]at h1;cases h1
theorem Fr.done{pre S L:List En}{h:En}(hS:BL g W most=pre++h::S)(hf:Fr (h::S) L)(hd:h.done=true):Fr S (L.eraseIdx (Bs L)):=by
 obtain⟨h0,h1⟩:=hf.head hS;obtain⟨e1,e2,e3⟩:=QZ hf.nd (F7 h0);rw[h1]at e1 e3;have hs:=Ig g W most;rw[hS]at hs;unfold GF at hs;rw[List.pairwise_append,List.pairwise_cons]at hs;have hne:∀e∈S,e≠h:=fun e he e'=>by
  have:=hs.2.1.1 e he;rw[e',Di]at this;cases this
 refine⟨fun e he=>?_,fun e he=>?_,e2,fun a ha b hb=>hf.anti a ((e3 a).1 ha).1 b ((e3 b).1 hb).1⟩
 ·obtain⟨h2,h3⟩:=(e3 e).1 he;rcases List.mem_cons.1 (hf.sub e h2)with h4|h4
  ·exact absurd h4 h3
  ·exact h4
 ·obtain⟨a,ha,h2⟩:=hf.cov e (by simp[he]);refine⟨a,(e3 a).2 ⟨ha,fun h3=>?_⟩,h2⟩;rcases h2 with h2|⟨h2,_⟩
  ·exact hne e he (h2.symm.trans h3)
  ·rw[h3,hd]at h2;cases h2
theorem Fr.next{pre S L:List En}{h:En}(hW:BQ W)(hW0:∀w∈W,∀z∈w,0≤z)(hS:BL g W most=pre++h::S)(hf:Fr (h::S) L)(hd:h.done=false):Fr S (L.eraseIdx (Bs L)++(Ew g W h.word).filter (BN most)):=by
 obtain⟨h0,h1⟩:=hf.head hS;obtain⟨e1,e2,e3⟩:=QZ hf.nd (F7 h0);rw[h1]at e1 e3;have hhL:h∈L:=by rw[← h1,getElem!_pos L _ (F7 h0)];exact List.getElem_mem _
 have hs:=Ig g W most;rw[hS]at hs;unfold GF at hs;rw[List.pairwise_append,List.pairwise_cons]at hs;have hne:∀e∈S,e≠h:=fun e he e'=>by
  have:=hs.2.1.1 e he;rw[e',Di]at this;cases this
 have hhS:h∈BL g W most:=by rw[hS];simp
 obtain⟨hk,wh,hwh,h4|⟨u,hu,h4⟩⟩:=C9.1 hhS
 ·rw[h4]at hd;cases hd
 have hu2:h.word=u:=by rw[h4];rfl
 obtain⟨xs,x1,x2,x3⟩:=HC (g:=g) u hW hW0;rw[hu2];have hkid:∀k,k∈(Ew g W u).filter (BN most)↔BN most k=true∧∃w∈W,AK u w=true∧k=OB g W u (w.take (u.length+1)):=fun k=>by
  rw[List.mem_filter,x1,List.mem_map];constructor
  ·rintro⟨⟨x,hx,rfl⟩,h2⟩;obtain⟨w,hw1,hw2,rfl⟩:=(x3 x).1 hx;exact⟨h2,w,hw1,hw2,rfl⟩
  ·rintro⟨h2,w,hw1,hw2,rfl⟩;exact⟨⟨_,(x3 _).2 ⟨w,hw1,hw2,rfl⟩,rfl⟩,h2⟩
 have hk2:∀w,AK u w=true→(w=u∧OB g W u (w.take (u.length+1))=Sd g u)∨∃z,AK (u++[z]) w=true∧OB g W u (w.take (u.length+1))=Q8 g W (u++[z]):=fun w hw=>by
  by_cases hl:u.length<w.length
  ·right;obtain⟨q1,r,q2⟩:=F2 hw hl;refine⟨w[u.length]!,Af.2 ⟨r,by rw[List.append_assoc];exact q2⟩,?_⟩;rw[q1];exact if_neg (HE _ _)
  ·left;have:=FO hw hl;refine⟨this,?_⟩;rw[this,List.take_of_length_le (by omega)];exact if_pos rfl
 have hkS:∀k∈(Ew g W u).filter (BN most),k∈S∧AK u k.word=true∧k≠h:=fun k hk'=>by
  obtain⟨q1,w,q2,q3,q4⟩:=(hkid k).1 hk';have hin:k∈BL g W most:=by
   refine C9.2 ⟨q1,w,q2,?_⟩;rcases hk2 w q3 with⟨r1,r2⟩|⟨z,r1,r2⟩
   ·left;rw[q4,r2,r1]
   ·right;exact⟨_,r1,q4.trans r2⟩
  have hb:AK u k.word=true:=by
   rcases hk2 w q3 with⟨r1,r2⟩|⟨z,r1,r2⟩
   ·rw[q4,r2];exact KF u
   ·rw[q4,r2];exact Af.2 ⟨[z],rfl⟩
  have hkn:k≠h:=fun e=>by
   rcases hk2 w q3 with⟨r1,r2⟩|⟨z,r1,r2⟩
   ·rw[q4,r2,h4]at e;have:=congrArg En.done e;cases this
   ·rw[q4,r2,h4]at e;have:=congrArg En.word e;exact HE u z this
  have hlt:AE h k=true:=by
   have h6:=Pg hin hb;cases h7:AE h k with
   |true=>rfl
   |false =>
    exfalso;rw[← h4]at h6;refine hkn (QU h6 h7 ?_ ?_)
    ·exact Hb k ((IV Hb).2 k |>.1 hin)
    ·rw[h4];rfl
  refine⟨?_,hb,hkn⟩;rw[hS]at hin;rcases List.mem_append.1 hin with h8|h8
  ·have:=hs.2.2 k h8 h (by simp);rw[Eh this]at hlt;cases hlt
  ·rcases List.mem_cons.1 h8 with h9|h9
   ·exact absurd h9 hkn
   ·exact h9
 refine⟨fun e he=>?_,fun e he=>?_,?_,fun a ha b hb hab had=>?_⟩
 ·rcases List.mem_append.1 he with he|he
  ·obtain⟨h2,h3⟩:=(e3 e).1 he;rcases List.mem_cons.1 (hf.sub e h2)with h5|h5
   ·exact absurd h5 h3
   ·exact h5
  ·exact(hkS e he).1
 ·obtain⟨a,ha,h2⟩:=hf.cov e (by simp[he]);by_cases hah:a=h;rotate_left
  ·exact⟨a,List.mem_append_left _ ((e3 a).2 ⟨ha,hah⟩),h2⟩
  ·subst hah;have heS:e∈BL g W most:=by rw[hS];simp[he]
   rcases h2 with h2|⟨_,h2⟩
   ·exact absurd h2.symm (hne e he)
   ·rw[hu2]at h2;obtain⟨q1,w,q2,q3⟩:=C9.1 heS;by_cases hl:u.length<e.word.length
    ·obtain⟨p1,r,p2⟩:=F2 h2 hl;generalize e.word[u.length]! =z at p1 p2;have hbw:AK (u++[z]) e.word=true:=Af.2 ⟨r,by rw[List.append_assoc];exact p2⟩;have hww:AK (u++[z]) w=true:=by
      rcases q3 with q3|⟨u',q3,q4⟩
      ·rw[q3]at hbw;exact hbw
      ·rw[q4]at hbw;exact Hf hbw q3
     have huw:AK u w=true:=Hf (Af.2 ⟨[z],rfl⟩) hww;have hwl:u.length<w.length:=by
      obtain⟨r2,rfl⟩:=Af.1 hww;simp
     have hz:w.take (u.length+1)=u++[z]:=((On huw).2 z).2 hww;have hent:OB g W u (w.take (u.length+1))=Q8 g W (u++[z]):=by rw[hz];exact if_neg (HE _ _)
     refine⟨Q8 g W (u++[z]),List.mem_append_right _ ((hkid _).2 ⟨K2 (K6 heS hbw) q1,w,q2,huw,hent.symm⟩),.inr ⟨rfl,hbw⟩⟩
    ·have h5:=FO h2 hl;rcases q3 with q3|⟨u',q3,q4⟩
     ·have hwu:w=u:=by rw[q3]at h5;exact h5
      refine⟨e,List.mem_append_right _ ((hkid _).2 ⟨q1,w,q2,by rw[hwu];exact KF u,?_⟩),.inl rfl⟩;rw[q3,hwu,List.take_of_length_le (by omega)];simp[OB,Sd]
     ·exfalso;have hu':u'=u:=by rw[q4]at h5;exact h5
      rw[hu',← h4]at q4;exact hne e he q4
 ·rw[List.nodup_append];refine⟨e2,?_,fun a ha b hb hab=>?_⟩
  ·have hnx:=OY x2;rw[x1];refine List.Pairwise.filter _ ?_;refine List.Pairwise.map _ (fun x y hxy hent=>hxy ?_) hnx;have hw:∀x,(OB g W u x).word=x:=fun x=>by
    unfold OB;split
    ·rename_i e;exact e.symm
    ·rfl
   rw[← hw x,← hw y,hent]
  ·subst hab;obtain⟨q1,q2,q3⟩:=hkS a hb;have:=hf.anti h hhL a ((e3 a).1 ha).1 (fun e=>q3 e.symm) hd;rw[hu2,q2]at this;cases this
 ·rcases List.mem_append.1 ha with ha|ha
  ·obtain⟨a1,a2⟩:=(e3 a).1 ha;rcases List.mem_append.1 hb with hb|hb
   ·exact hf.anti a a1 b ((e3 b).1 hb).1 hab had
   ·
    obtain⟨q1,w,q2,q3,q4⟩:=(hkid b).1 hb;cases hx:AK a.word b.word with
    |false=>rfl
    |true =>
     exfalso;have hah:=hf.anti a a1 h hhL a2 had;have hha:=hf.anti h hhL a a1 (fun e=>a2 e.symm) hd;rw[hu2]at hah hha;rcases hk2 w q3 with⟨r1,r2⟩|⟨z,r1,r2⟩
     ·rw[q4,r2]at hx;rw[show(Sd g u).word=u from rfl]at hx;rw[hx]at hah;cases hah
     ·rw[q4,r2]at hx;rw[show(Q8 g W (u++[z])).word=u++[z]from rfl]at hx;obtain⟨r,hr⟩:=Af.1 hx;rcases List.eq_nil_or_concat r with h5|⟨r',y,h5⟩
      ·rw[h5,List.append_nil]at hr;rw[← hr,Af.2 ⟨[z],rfl⟩]at hha;cases hha
      ·rw[h5,List.concat_eq_append,← List.append_assoc]at hr;have h6:=(List.append_inj' hr (by simp)).1;rw[Af.2 ⟨r',h6⟩]at hah;cases hah
  ·obtain⟨q1,w,q2,q3,q4⟩:=(hkid a).1 ha;rcases hk2 w q3 with⟨r1,r2⟩|⟨z,r1,r2⟩
   ·rw[q4,r2]at had;cases had
   have haw:a.word=u++[z]:=by rw[q4,r2];rfl
   cases hx:AK a.word b.word with
   |false=>rfl
   |true =>
    exfalso;rw[haw]at hx;rcases List.mem_append.1 hb with hb|hb
    ·obtain⟨b1,b2⟩:=(e3 b).1 hb;have:=hf.anti h hhL b b1 (fun e=>b2 e.symm) hd;rw[hu2,Hf (Af.2 ⟨[z],rfl⟩) hx]at this;cases this
    ·obtain⟨p1,w',p2,p3,p4⟩:=(hkid b).1 hb;rcases hk2 w' p3 with⟨s1,s2⟩|⟨y,s1,s2⟩
     ·rw[p4,s2]at hx;obtain⟨r,hr⟩:=Af.1 hx;have:=congrArg List.length hr;simp[Sd]at this
     ·rw[p4,s2]at hx;obtain⟨r,hr⟩:=Af.1 hx;rw[show(Q8 g W (u++[y])).word=u++[y]from rfl]at hr;have hr0:r=[]:=by
       have:=congrArg List.length hr;simp at this;exact this
      rw[hr0,List.append_nil]at hr;refine hab ?_;rw[q4,r2,p4,s2,hr]
end
def Jh(n budget:Int):List En→List Ht→Nat→List Ht×Nat×Int
 | [],t,p=>(t,p,0)
 |e::S,t,p=>if(t.length:Int)<n then if(p:Int)=budget then(t,p,210)else Jh n budget S (if e.done=true then t++[Rn e]else t) (p+1)else(t,p,0)
theorem Fr.nil{S L:List En}(h:Fr S L):L.length=0↔S=[]:=by
 constructor
 ·intro h0;cases S with
  |nil=>rfl
  |cons e S =>
   obtain⟨a,ha,_⟩:=h.cov e (by simp);have:=List.length_pos_of_mem ha;omega
 ·intro h0;subst h0;cases L with
  |nil=>rfl
  |cons a L=>exact absurd (h.sub a (by simp)) (by simp)
theorem Xq{g:List Int→Int}{W:List (List Int)}{most n budget:Int}(hW:BQ W)(hW0:∀w∈W,∀z∈w,0≤z):∀(f:Nat) (pre S L:List En) (t:List Ht) (p:Nat),BL g W most=pre++S→Fr S L→Fb W L≤f→Kf (Ew g W) n most budget f t p L=Jh n budget S t p:=by
 intro f;induction f with
 |zero =>
  intro pre S L t p hS hf hp;have:=K9 W L;rw[hf.nil.1 (by omega)];rfl
 |succ f ih =>
  intro pre S L t p hS hf hp;cases S with
  |nil =>
   have:=hf.nil.2 rfl;simp only[Kf,Jh];rw[if_neg (by omega)]
  |cons h S =>
   obtain⟨h0,h1⟩:=hf.head hS;simp only[Kf,Jh];by_cases hc:(t.length:Int)<n
   ·rw[if_pos ⟨hc,h0⟩,if_pos hc];by_cases hb:(p:Int)=budget
    ·rw[if_pos hb,if_pos hb]
    ·rw[if_neg hb,if_neg hb,h1];have hS':BL g W most=(pre++[h])++S:=by rw[hS];simp
     cases hd:h.done
     ·have hp2:=Nv (g:=g) hW hW0 h0 (by rw[h1];exact hd) (BN most);rw[h1]at hp2;simp only[Bool.false_eq_true,if_false];exact ih _ _ _ _ _ hS' (hf.next hW hW0 hS hd) (by omega)
     ·have hp2:=RN (W:=W) h0;simp only[if_true];exact ih _ _ _ _ _ hS' (hf.done hS hd) (by omega)
   ·rw[if_neg (fun h=>hc h.1),if_neg hc]
theorem V0{g:List Int→Int}{W:List (List Int)}{most n budget:Int}(hW:BQ W)(hW0:∀w∈W,∀z∈w,0≤z)(hn:W.length≤300)(hw:∀w∈W,w.length≤20):N3 g W n most budget=Jh n budget (BL g W most) [] 0:=by
 unfold N3;refine Xq hW hW0 12601 [] _ _ [] 0 rfl ?_ ?_
 ·by_cases hk:BN most (GC g W)=true
  ·rw[List.filter_cons_of_pos hk,List.filter_nil];have hin:GC g W∈BL g W most:=by
    refine C9.2 ⟨hk,?_⟩;rcases(DL g W []).2.2 with h|⟨w,h1,h2,_⟩
    ·exfalso;have:=(of_decide_eq_true hk).2;simp only[GC]at this;omega
    ·exact⟨w,h1,.inr ⟨[],h2,rfl⟩⟩
   refine⟨fun e he=>by rw[List.mem_singleton.1 he];exact hin,fun e he=>⟨_,List.mem_singleton.2 rfl,.inr ⟨rfl,FV _⟩⟩,by simp,fun a ha b hb hab=>?_⟩;rw[List.mem_singleton.1 ha,List.mem_singleton.1 hb]at hab;exact absurd rfl hab
  ·rw[List.filter_cons_of_neg hk,List.filter_nil];have hemp:BL g W most=[]:=by
    cases hS:BL g W most with
    |nil=>rfl
    |cons e S =>
     exfalso;have he:e∈BL g W most:=by rw[hS];simp
     exact hk (K2 (a:=GC g W) (K6 he (FV _)) (C9.1 he).1)
   rw[hemp];exact⟨fun e he=>(by cases he),fun e he=>(by cases he),by simp,fun a ha=>(by cases ha)⟩
 ·have:=OT hn hw (GC g W) rfl;have h2:=LA W (BN most) [GC g W];have h3:Fb W [GC g W]=Tq W (GC g W):=by simp[Fb]
  omega
end Go.Eng.Tryz

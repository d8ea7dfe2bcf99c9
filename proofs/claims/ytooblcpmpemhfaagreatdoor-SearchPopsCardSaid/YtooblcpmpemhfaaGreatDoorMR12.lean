/- Automata: what each state tells of those behind it. (and what stands behind it: texts laid together) -/
import Derived.Test.YtooblcpmpemhfaaGreatDoorMG4
import Derived.Test.YtooblcpmpemhfaaGreatDoorMR8
import Derived.Test.YtooblcpmpemhfaaGreatDoorMR10
import Derived.Test.YtooblcpmpemhfaaGreatDoorMR2
set_option linter.unusedVariables false
set_option linter.unusedSimpArgs false
open Go Go.Eng Go.Proofs Go.RowKit
set_option maxHeartbeats 32000000
set_option maxRecDepth 100000
namespace Go.Eng.Tryz
attribute [local go_sem] Aq As AP AO Az Ax
theorem OI{l:List Int}{i j:Nat}{v:Int}(h:i<l.length):(l.set i v)[j]! =if j=i then v else l[j]! :=by
 by_cases e:j=i
 ·subst e;rw[if_pos rfl,getElem!_pos _ _ (by simpa using h)];simp
 ·rw[if_neg e,List.getElem!_eq_getElem?_getD,List.getElem!_eq_getElem?_getD,List.getElem?_set_ne (Ne.symm e)]
theorem Md{l:List Int}{i:Nat}{z:Int}:(is l).set i (.int .i64 z)=is (l.set i z):=by simp[is,List.map_set]
theorem Mc{n:Nat}{x:Int}:List.replicate n (D.int .i64 x)=is (List.replicate n x):=by simp[is]
attribute [local go_sem] Md Mc
def Ca(f:Ak→List Int→Int)(l:List Ak)(j:Nat):List Int:=(List.range j).foldl (fun out j=>out.set (l.length-1-j) (f (l[l.length-1-j]!) out)) (List.replicate l.length 0)
theorem G9(f:Ak→List Int→Int)(l:List Ak)(j:Nat):Ca f l (j+1)=(Ca f l j).set (l.length-1-j) (f (l[l.length-1-j]!) (Ca f l j)):=by simp[Ca,List.range_succ]
theorem Ff(f:Ak→List Int→Int)(l:List Ak):∀j,(Ca f l j).length=l.length
 |0=>by simp[Ca]
 |j+1=>by rw[G9,List.length_set];exact Ff f l j
theorem WM{l:List Int}{i:Nat}{v z:Int}(h:z∈l.set i v):z=v∨z∈l:=(List.mem_or_eq_of_mem_set h).symm
theorem Li{f:Ak→List Int→Int}{l:List Ak}{inv:Nat→Int→Prop}(h0:inv 0 0)(hm:∀j z,inv j z→inv (j+1) z)(hf:∀j out,(∀z∈out,inv j z)→inv (j+1) (f (l[l.length-1-j]!) out)):∀j,∀z∈Ca f l j,inv j z
 |0,z,hz=>by
  simp only[Ca,List.range_zero,List.foldl_nil]at hz;rw[List.eq_of_mem_replicate hz];exact h0
 |j+1,z,hz=>by
  rw[G9]at hz;have ih:=Li h0 hm hf j;rcases WM hz with rfl|h
  ·exact hf j _ ih
  ·exact hm j z (ih z h)
theorem IY{f:Ak→List Int→Int}{l:List Ak}(hka:achk l=true)(hc:∀s out out',(∀a∈s.arcs,out[a.to.toNat]! =out'[a.to.toNat]!)→f s out=f s out'):∀j,j≤l.length→∀k,l.length≤k+j→k<l.length→(Ca f l j)[k]! =f (l[k]!) (Ca f l j)
 |0,_,k,h1,h2=>by omega
 |j+1,hj,k,h1,h2=>by
  have hl:=Ff f l j;have ih:=IY hka hc j (by omega);have hc2:f (l[k]!) (Ca f l (j+1))=f (l[k]!) (Ca f l j):=hc _ _ _ fun a ha=>by
   have:=CF hka h2 a ha;rw[G9,OI (by omega),if_neg (by omega)]
  rw[hc2,G9,OI (by omega)];split
  ·rename_i e;rw[e]
  ·exact ih k (by omega) h2
theorem Hy{α β:Type}{f g:β→α→β}:∀{l:List α} {b:β},(∀a∈l,∀b,f b a=g b a)→l.foldl f b=l.foldl g b
 | [],b,h=>rfl
 |a::l,b,h=>by
  simp only[List.foldl_cons];rw[h a (by simp)];exact Hy fun x hx=>h x (by simp[hx])
theorem RB(s:Ak)(out out':List Int)(h:∀a∈s.arcs,out[a.to.toNat]! =out'[a.to.toNat]!):DC s out=DC s out':=Hy fun a ha b=>by unfold Db;rw[h a ha]
def CG(out:List Int)(m:Int)(a:Ar):Int:=if 0≤out[a.to.toNat]! then max m (out[a.to.toNat]!+1)else m
def EN(s:Ak)(out:List Int):Int:=s.arcs.foldl (CG out) (if s.final=true then 0 else -1)
theorem Lr(s:Ak)(out out':List Int)(h:∀a∈s.arcs,out[a.to.toNat]! =out'[a.to.toNat]!):EN s out=EN s out':=Hy fun a ha b=>by unfold CG;rw[h a ha]
theorem Wt{out:List Int}{P:Int→Prop}(h:∀z∈out,P z)(h0:P 0)(t:Nat):P (out[t]!):=by
 by_cases ht:t<out.length
 ·rw[getElem!_pos out t ht];exact h _ (List.getElem_mem ht)
 ·rw[List.getElem!_eq_getElem?_getD,List.getElem?_eq_none (by omega)];exact h0
theorem KN{out:List Int}{n:Nat}(ho:∀z∈out,-1≤z∧z≤n):∀(l:List Ar) (m:Int),(-1≤m∧m≤n+1) → -1≤l.foldl (CG out) m∧l.foldl (CG out) m≤n+1
 | [],m,h=>h
 |a::l,m,h=>KN ho l _ (by
  have:=Wt (P:=fun z => -1≤z∧z≤(n:Int)) ho (by omega) a.to.toNat
  unfold CG;split<;>omega)
theorem bp{s:Ak}{out:List Int}{n:Nat}(hn0:n≤1000000)(ho:∀z∈out,-1≤z∧z≤n)(hs:Mw s out.length)(hn:s.arcs.length≤9223372036854775807)(hout:out.length≤1000000):Ai Tryz.prog 204 [.d (Tg s),.fn 229 [.ref 0 0]] (EX out) (.d (.int .i64 (EN s out))) (EX out) 2:=by
 have fin:∀(m0:Int),(-1≤m0∧m0≤n+1)→∀k,k≤s.arcs.length → -1≤(s.arcs.take k).foldl (CG out) m0∧(s.arcs.take k).foldl (CG out) m0≤n+1:=fun m0 h k _=>KN ho _ _ h;unfold Tg;cases hf:s.final
 ·have e:EN s out=s.arcs.foldl (CG out) (-1):=by unfold EN;rw[hf];rfl
  rw[e];unfold EX;refine Bo 30 [0,1] Tryz.func204 Bm fun X_ ν_ w_=>?_;refine Ao ?_;try exact trivial
  refine A8 (fun k:Nat=>k≤s.arcs.length) (fun k=>[(1,.fn 229 [.ref 0 0]),(5,.d (.int .i64 ((s.arcs.take k).foldl (CG out) (-1)))),(12,.d (.sl 2 (IZ s.arcs))),(13,.d (.int .i64 s.arcs.length)),(14,.d (.int .i64 k))]) (fun k=>[(0,.var [.own 1 out.length]),(1,.row 3 1 (is out))]) 2 (fun k=>s.arcs.length-k) [1,5,12,13,14] [0,1] 0 (Nat.zero_le _) rfl rfl (Nat.le_of_ble_eq_true rfl) (fun _ _=>rfl) (fun _ _=>rfl) fun k hk=>?_;have hm:=fin (-1) (by omega) k hk;by_cases hk3:k<s.arcs.length
  ·have hin:=hs.get hk3;have hst:=CZ (CG out) (-1) hk3;obtain⟨t,ht⟩:=Int.eq_ofNat_of_zero_le hin.1;have htl:t<out.length:=by omega
   have cw:=Qc (out:=out) (k:=t) htl;have hv:=ho (out[t]!) (by rw[getElem!_pos out t htl];exact List.getElem_mem htl);have e1:CG out ((s.arcs.take k).foldl (CG out) (-1)) (s.arcs[k]!)=if 0≤out[t]! then max ((s.arcs.take k).foldl (CG out) (-1)) (out[t]!+1)else(s.arcs.take k).foldl (CG out) (-1):=by unfold CG;rw[ht];rfl
   rw[e1]at hst;unfold EX at cw;by_cases hz:0≤out[t]!
   ·rw[if_pos hz]at hst;have c0_:=cw;refine Au (And.intro @ht @KY) ?_;try exact trivial
    refine⟨k+1,by omega,?_,?_,by omega⟩
    ·exact Sf @hst
    ·exact GL
   ·rw[if_neg hz]at hst;have c0_:=cw;refine Au (And.intro @ht @KY) ?_;try exact trivial
    refine⟨k+1,by omega,?_,?_,by omega⟩
    ·exact Sf @hst
    ·exact GL
  ·have hkl:k=s.arcs.length:=by omega
   subst hkl;rw[List.take_length];refine Ao ?_;try exact trivial
 ·have e:EN s out=s.arcs.foldl (CG out) 0:=by unfold EN;rw[hf];rfl
  rw[e];unfold EX;refine Bo 30 [0,1] Tryz.func204 Bm fun X_ ν_ w_=>?_;refine Ao ?_;try exact trivial
  refine A8 (fun k:Nat=>k≤s.arcs.length) (fun k=>[(1,.fn 229 [.ref 0 0]),(5,.d (.int .i64 ((s.arcs.take k).foldl (CG out) 0))),(12,.d (.sl 2 (IZ s.arcs))),(13,.d (.int .i64 s.arcs.length)),(14,.d (.int .i64 k))]) (fun k=>[(0,.var [.own 1 out.length]),(1,.row 3 1 (is out))]) 2 (fun k=>s.arcs.length-k) [1,5,12,13,14] [0,1] 0 (Nat.zero_le _) rfl rfl (Nat.le_of_ble_eq_true rfl) (fun _ _=>rfl) (fun _ _=>rfl) fun k hk=>?_;have hm:=fin 0 (by omega) k hk;by_cases hk3:k<s.arcs.length
  ·have hin:=hs.get hk3;have hst:=CZ (CG out) 0 hk3;obtain⟨t,ht⟩:=Int.eq_ofNat_of_zero_le hin.1;have htl:t<out.length:=by omega
   have cw:=Qc (out:=out) (k:=t) htl;have hv:=ho (out[t]!) (by rw[getElem!_pos out t htl];exact List.getElem_mem htl);have e1:CG out ((s.arcs.take k).foldl (CG out) 0) (s.arcs[k]!)=if 0≤out[t]! then max ((s.arcs.take k).foldl (CG out) 0) (out[t]!+1)else(s.arcs.take k).foldl (CG out) 0:=by unfold CG;rw[ht];rfl
   rw[e1]at hst;unfold EX at cw;by_cases hz:0≤out[t]!
   ·rw[if_pos hz]at hst;have c0_:=cw;refine Au (And.intro @ht @KY) ?_;try exact trivial
    refine⟨k+1,by omega,?_,?_,by omega⟩
    ·exact Sf @hst
    ·exact GL
   ·rw[if_neg hz]at hst;have c0_:=cw;refine Au (And.intro @ht @KY) ?_;try exact trivial
    refine⟨k+1,by omega,?_,?_,by omega⟩
    ·exact Sf @hst
    ·exact GL
  ·have hkl:k=s.arcs.length:=by omega
   subst hkl;rw[List.take_length];refine Ao ?_;try exact trivial
theorem ab{l:List Ak}{g:Nat}{f:Ak→List Int→Int}{inv:Nat→Int→Prop}(hka:achk l=true)(hl:Bt l)(h0:inv 0 0)(hm:∀j z,inv j z→inv (j+1) z)(hf:∀j out,(∀z∈out,inv j z)→inv (j+1) (f (l[l.length-1-j]!) out))
 (hby:∀(s:Ak) (out:List Int) (j:Nat),j≤l.length→s∈l→out.length=l.length→(∀z∈out,inv j z)→Ai Tryz.prog g [.d (Tg s),.fn 229 [.ref 0 0]] (EX out) (.d (.int .i64 (f s out))) (EX out) 2) :
 A3 Tryz.prog 197 [.sl 2 (AQ l),.fn g] (.sl 1 (is (Ca f l l.length))):=by
 obtain⟨_,hl0,hl1⟩:=Aw.1 hka;refine A6 35 Tryz.func197 Ah fun X_ w_=>?_;refine Ao ?_;try exact trivial
 refine A8 (fun j:Nat=>j≤l.length) (fun j=>[(0,.d (.sl 2 (AQ l))),(1,.d (.fn g)),(5,.ref 1003 0),(6,.fn 229 [.ref 1003 0]),(14,.d (.int .i64 l.length)),(15,.d (.int .i64 j))]) (fun j=>[(1003,.var [.own 1002 l.length]),(1002,.row 3 1 (is (Ca f l j)))]) 4000 (fun j=>l.length-j) [0,1,5,6,14,15] [1003,1002] 0 (Nat.zero_le _) rfl rfl (Nat.zero_le _) (fun _ _=>rfl) (fun _ _=>rfl) fun j hj=>?_;by_cases hj2:j<l.length
 ·have hst:=G9 f l j;have hin:=Li (l:=l) h0 hm hf j;have hlo:=Ff f l j;generalize Ca f l j=out at *;obtain⟨i,hi⟩:∃i,i=l.length-1-j:=⟨_,rfl⟩
  have ei:(l.length:Int)-1-(j:Int)=(i:Int):=by omega
  rw[← hi]at hst;have hi2:i<out.length:=by omega
  have hmem:l[i]!∈l:=by rw[getElem!_pos l i (by omega)];exact List.getElem_mem _
  have cb:=hby (l[i]!) out j (by omega) hmem hlo hin;unfold Tg EX at cb;rw[hlo]at cb;have c0_:=cb;refine Au (And.intro @ei @hlo) ?_;try exact trivial
  refine⟨j+1,by omega,?_,?_,by omega⟩
  ·exact Ei
  ·exact Hq @hst
 ·have hjl:j=l.length:=by omega
  subst hjl;have hlo:=Ff f l l.length;refine Au @hlo ?_;try exact trivial
end Go.Eng.Tryz
namespace Go.Eng.Tryz
attribute [local go_sem] Aq As AP AO Az Ax Md Mc
theorem Ol{l:List Ak}(hka:achk l=true){s:Ak}(h:s∈l):Mw s l.length:=by
 obtain⟨k,hk,rfl⟩:=List.getElem_of_mem h;intro a ha;rw[← getElem!_pos l k hk]at ha;have:=CF hka hk a ha;exact⟨by omega,this.2.1⟩
theorem Yq{out:List Int}{j:Nat}(h:∀z∈out,-1≤z∧z≤(j:Int))(s:Ak) : -1≤EN s out∧EN s out≤((j+1:Nat):Int):=by
 have:=KN h s.arcs (if s.final=true then 0 else -1) (by split<;>omega);have e:EN s out=s.arcs.foldl (CG out) (if s.final=true then 0 else -1):=rfl;rw[e];omega
theorem WL(l:List Ak)(j:Nat):∀z∈Ca DC l j,0≤z∧z≤301:=Li (inv:=fun _ z=>0≤z∧z≤301) (by decide) (fun _ _ h=>h) (fun j out h=>IJ h _ _ (by split<;>decide)) j
theorem Xe{l:List Ak}(hl:Bt l)(hka:achk l=true):A3 Tryz.prog 197 [.sl 2 (AQ l),.fn 198] (.sl 1 (is (Ca DC l l.length))):=by
 have h6:=(Aw.1 hka).2.2;exact ab (inv:=fun _ z=>0≤z∧z≤301) hka hl (by decide) (fun _ _ h=>h) (fun j out h=>IJ h _ _ (by split<;>decide)) (fun s out j _ hs ho hin=>bC hin (ho▸Ol hka hs) (hl.2 s hs) (by omega))
theorem bR{l:List Ak}(hl:Bt l)(hka:achk l=true):A3 Tryz.prog 197 [.sl 2 (AQ l),.fn 204] (.sl 1 (is (Ca EN l l.length))):=by
 have h6:=(Aw.1 hka).2.2;exact ab (inv:=fun j z => -1≤z∧z≤(j:Int)) hka hl (by decide) (fun _ _ h=>by omega) (fun j out h=>Yq h _) (fun s out j hj hs ho hin=>bp (n:=j) (by omega) hin (ho▸Ol hka hs) (hl.2 s hs) (by omega))
def Dn(l:List Ak):Int:=if achk l=true then(Ca DC l l.length)[0]! else 0
def Fq(l:List Ak):Int:=if achk l=true then(Ca EN l l.length)[0]! else -1
theorem Xa{l:List Ak}(hl:Bt l):A3 Tryz.prog 135 [.sl 2 (AQ l)] (.int .i64 (Dn l)):=by
 have cch:=IM hl;cases hka:achk l
 ·have e:Dn l=0:=if_neg (by rw[hka];simp);rw[hka]at cch;rw[e];refine A6 10 Tryz.func135 A4 fun X_ w_=>?_;have c0_:=cch;refine Ao ?_;try exact trivial
 ·have e:Dn l=(Ca DC l l.length)[0]! :=if_pos hka;have ct:=Xe hl hka;have hlo:=Ff DC l l.length;have hl0:=(Aw.1 hka).2.1;rw[hka]at cch;rw[e];generalize Ca DC l l.length=out at *;refine A6 10 Tryz.func135 A4 fun X_ w_=>?_;have c0_:=cch;have c1_:=ct;refine Au @hlo ?_;try exact trivial
theorem bq{l:List Ak}(hl:Bt l):A3 Tryz.prog 140 [.sl 2 (AQ l)] (.int .i64 (Fq l)):=by
 have cch:=IM hl;cases hka:achk l
 ·have e:Fq l = -1:=if_neg (by rw[hka];simp);rw[hka]at cch;rw[e];refine A6 10 Tryz.func140 A4 fun X_ w_=>?_;have c0_:=cch;refine Ao ?_;try exact trivial
 ·have e:Fq l=(Ca EN l l.length)[0]! :=if_pos hka;have ct:=bR hl hka;have hlo:=Ff EN l l.length;have hl0:=(Aw.1 hka).2.1;rw[hka]at cch;rw[e];generalize Ca EN l l.length=out at *;refine A6 10 Tryz.func140 A4 fun X_ w_=>?_;have c0_:=cch;have c1_:=ct;refine Au @hlo ?_;try exact trivial
def d6(l:List Ak)(w:List Int):Bool:=achk l&&(match Ay l 0 w with|some t=>(l[t.toNat]!).final|none=>false)
end Go.Eng.Tryz
namespace Go.Eng.Tryz
attribute [local go_sem] Aq As AP AO Az Ax Md Mc
end Go.Eng.Tryz
namespace Go.Eng.Tryz
theorem EW:∀(u a b:List Int),Ae (u++a) (u++b)=Ae a b
 | [],a,b=>rfl
 |x::u,a,b=>by simp only[List.cons_append,Ae,Int.lt_irrefl,if_false];exact EW u a b
theorem Ga(w:List Int):¬Ae w []<0:=by cases w<;>simp[Ae]
theorem Ks(w u:List Int)(a:Int):Ae w (w++a::u)<0:=by
 have:=EW w [] (a::u);rw[List.append_nil]at this;rw[this];simp[Ae]
theorem EB{a b:Int}(h:a<b)(w u v:List Int):Ae (w++a::u) (w++b::v)<0:=by
 rw[EW];simp[Ae,h]
def LH(w f:List Int):Bool:=decide (Ae (w.take (min w.length f.length)) (f.take (min w.length f.length))<0)
theorem I3(w:List Int):LH w []=false:=by simp[LH,Ae]
theorem UR(x y:Int)(u f:List Int):LH (x::u) (y::f)=(decide (x<y)||(decide (x=y)&&LH u f)):=by
 unfold LH;simp only[List.length_cons,Nat.add_min_add_right,List.take_succ_cons,Ae];by_cases h1:x<y
 ·simp[h1]
 ·by_cases h2:y<x
  ·have:¬x=y:=by omega
   simp[h1,h2,this]
  ·have:x=y:=by omega
   simp[h1,h2,this]
theorem Oy:∀{u f:List Int},LH u f=true→∀v,Ae (u++v) f<0
 | [],f,h,v=>by simp[LH,Ae]at h
 |x::u,[],h,v=>by rw[I3]at h;cases h
 |x::u,y::f,h,v=>by
  rw[UR,Bool.or_eq_true,Bool.and_eq_true,decide_eq_true_eq,decide_eq_true_eq]at h;simp only[List.cons_append,Ae];rcases h with h|⟨h,h'⟩
  ·rw[if_pos h];decide
  ·rw[if_neg (by omega),if_neg (by omega)];exact Oy h' v
def wf(l:List Ak)(f:List Int):Nat→Nat→List Int→List (List Int)
 |0,_,_=>[]
 |n+1,k,w=>(if(l[k]!).final=true∧¬Ae w f<0 then[w]else[])++(l[k]!).arcs.flatMap fun a=>if LH (w++[a.sign]) f=true then[]else wf l f n a.to.toNat (w++[a.sign])
theorem H7(l:List Ak)(f:List Int):∀(n k:Nat) (w:List Int),wf l f n k w=(wf l [] n k w).filter fun x=>decide (¬Ae x f<0)
 |0,k,w=>rfl
 |n+1,k,w=>by
  simp only[wf,List.filter_append,List.filter_flatMap];congr 1
  ·have hw:=Ga w;by_cases h1:(l[k]!).final=true
   ·rw[if_pos (show(l[k]!).final=true∧¬Ae w []<0 from⟨h1,hw⟩)];by_cases h2:Ae w f<0
    ·rw[if_neg (fun h=>h.2 h2),List.filter_cons_of_neg (by simp[h2])];rfl
    ·rw[if_pos ⟨h1,h2⟩,List.filter_cons_of_pos (by simp only[h2,not_false_eq_true,decide_true])];rfl
   ·rw[if_neg (fun h=>h1 h.1),if_neg (fun h=>h1 h.1)];rfl
  ·congr 1;funext a;rw[I3,if_neg (show¬(false=true)by simp),← H7 l f n];split
   ·rename_i h;rw[H7 l f n];refine(List.filter_eq_nil_iff.2 fun x hx=>?_).symm;obtain⟨u,rfl⟩:∃u,x=(w++[a.sign])++u:=wf_beg l [] n _ _ x hx;simpa using Oy h u
   ·rfl
where
 wf_beg (l:List Ak) (f:List Int):∀(n k:Nat) (w x:List Int),x∈wf l f n k w→∃u,x=w++u
  |0,k,w,x,h=>by simp[wf]at h
  |n+1,k,w,x,h=>by
   simp only[wf,List.mem_append,List.mem_flatMap]at h;rcases h with h|⟨a,_,h⟩
   ·split at h
    ·simp only[List.mem_singleton]at h;exact⟨[],by rw[h,List.append_nil]⟩
    ·cases h
   ·split at h
    ·cases h
    ·obtain⟨u,rfl⟩:=wf_beg l f n _ _ x h;exact⟨a.sign::u,by simp⟩
theorem To{l:List Ak}{f:List Int}{n k:Nat}{w x:List Int}(h:x∈wf l f n k w):∃u,x=w++u:=H7.wf_beg l f n k w x h
theorem Pi{i n:Int}:∀{l:List Ar} {last:Int},Bv i n last l=true→l.Pairwise fun a b=>a.sign<b.sign
 | [],_,_=>List.Pairwise.nil
 |b::l,last,h=>by
  simp only[Bv,Bool.and_eq_true]at h;exact List.Pairwise.cons (fun a ha=>(Hc h.2 a ha).2.2.2) (Pi h.2)
theorem XN{l:List Ak}(hka:achk l=true):∀(n k:Nat) (w:List Int),k<l.length→BQ (wf l [] n k w)
 |0,k,w,_=>List.Pairwise.nil
 |n+1,k,w,hk=>by
  simp only[wf,I3,Bool.false_eq_true,if_false];refine List.pairwise_append.2 ⟨by split<;>simp,List.pairwise_flatMap.2 ⟨fun a ha=>?_,?_⟩,fun x hx y hy=>?_⟩
  ·have:=CF hka hk a ha;exact XN hka n _ _ (by omega)
  ·refine(Pi (DI (Aw.1 hka).1 hk)).imp fun{a b} hab x hx y hy=>?_;obtain⟨u,rfl⟩:=To hx;obtain⟨v,rfl⟩:=To hy;simp only[List.append_assoc,List.singleton_append];exact EB hab _ _ _
  ·split at hx
   ·simp only[List.mem_singleton]at hx;subst hx;obtain⟨a,_,ha⟩:=List.mem_flatMap.1 hy;obtain⟨u,rfl⟩:=To ha;simp only[List.append_assoc,List.singleton_append];exact Ks _ _ _
   ·cases hx
theorem Hd{i n:Int}:∀{l:List Ar} {last:Int},Bv i n last l=true→∀a∈l,l.find? (Qk a.sign)=some a
 | [],_,_,a,ha=>by cases ha
 |b::l,last,h,a,ha=>by
  rcases List.mem_cons.1 ha with e|e
  ·subst e;simp[List.find?,Qk]
  ·simp only[Bv,Bool.and_eq_true]at h;have:=Hc h.2 a e;have hne:Qk a.sign b=false:=decide_eq_false (by omega);rw[List.find?_cons_of_neg (by simp[hne])];exact Hd h.2 a e
theorem Kt{l:List Ak}(hka:achk l=true){f:List Int}:∀(n k:Nat) (w:List Int),k<l.length→∀x∈wf l f n k w,∃u t,x=w++u∧Ay l k u=some t∧(l[t.toNat]!).final=true∧∀z∈u,0≤z
 |0,k,w,_,x,h=>by simp[wf]at h
 |n+1,k,w,hk,x,h=>by
  simp only[wf,List.mem_append,List.mem_flatMap]at h;rcases h with h|⟨a,ha,h⟩
  ·split at h
   ·rename_i hf;simp only[List.mem_singleton]at h;exact⟨[],k,by rw[h,List.append_nil],rfl,by simpa using hf.1,fun z hz=>by cases hz⟩
   ·cases h
  ·split at h
   ·cases h
   ·obtain⟨g1,g2,g3⟩:=CF hka hk a ha;obtain⟨u,t,rfl,e1,e2,e3⟩:=Kt hka n _ _ (by omega) x h;have hf:=Hd (DI (Aw.1 hka).1 hk) a ha;have et:((a.to.toNat:Nat):Int)=a.to:=by omega
    refine⟨a.sign::u,t,by simp,?_,e2,fun z hz=>?_⟩
    ·simp only[Ay,CP];rw[if_pos ⟨by omega,by omega⟩,Int.toNat_natCast,hf];simp only[Option.map_some];rw[et]at e1;exact e1
    ·rcases List.mem_cons.1 hz with rfl|hz
     ·exact(of_decide_eq_true g3).1
     ·exact e3 z hz
theorem Rg{M:List Int}{cnt:Ar→Nat}:∀(al:List Ar) (c:Nat),(∀a∈al,M[a.to.toNat]! =min 301 (cnt a:Int))→al.foldl (Db M) (min 301 (c:Int))=min 301 ((c+(al.map cnt).sum:Nat):Int)
 | [],c,h=>by simp
 |a::al,c,h=>by
  simp only[List.foldl_cons,List.map_cons,List.sum_cons];have e:Db M (min 301 (c:Int)) a=min 301 (((c+cnt a:Nat)):Int):=by unfold Db;rw[h a (by simp)];omega
  rw[e,Rg al (c+cnt a) fun x hx=>h x (by simp[hx])];congr 2;omega
theorem Ku{l:List Ak}(hka:achk l=true):∀(n k:Nat) (w:List Int),k<l.length→l.length≤n+k→(Ca DC l l.length)[k]! =min 301 ((wf l [] n k w).length:Int)
 |0,k,w,h1,h2=>by omega
 |n+1,k,w,h1,h2=>by
  rw[IY hka RB l.length (Nat.le_refl _) k (by omega) h1];unfold DC;have e0:(if(l[k]!).final=true then(1:Int)else 0)=min 301 (((if(l[k]!).final=true∧¬Ae w []<0 then[w]else[]).length:Nat):Int):=by
   by_cases hf:(l[k]!).final=true
   ·rw[if_pos hf,if_pos ⟨hf,Ga w⟩];rfl
   ·rw[if_neg hf,if_neg fun h=>hf h.1];rfl
  rw[e0,Rg (cnt:=fun a=>(wf l [] n a.to.toNat (w++[a.sign])).length) _ _ fun a ha=>?_]
  ·simp only[wf,I3,Bool.false_eq_true,if_false,List.length_append,List.length_flatMap]
  ·have:=CF hka h1 a ha;exact Ku hka n _ _ (by omega) (by omega)
theorem Zz{l:List Ak}(hka:achk l=true){f:List Int}{n k:Nat}{w:List Int}(h1:k<l.length)(h2:l.length≤n+k)(h:(Ca DC l l.length)[k]! =0):wf l f n k w=[]:=by
 rw[Ku hka n k w h1 h2]at h;have:(wf l [] n k w)=[]:=List.eq_nil_of_length_eq_zero (by omega);rw[H7,this];rfl
def A7(l:List Ak)(f:List Int):List (List Int):=wf l f l.length 0 []
theorem Jj(l:List Ak)(f:List Int):A7 l f=(A7 l []).filter fun x=>decide (¬Ae x f<0):=H7 l f _ _ _
theorem Em{l:List Ak}(hka:achk l=true)(f:List Int):BQ (A7 l f):=by
 rw[Jj];exact(XN hka _ _ _ (Aw.1 hka).2.1).filter _
theorem Gc{l:List Ak}(hka:achk l=true){f x:List Int}(h:x∈A7 l f):d6 l x=true∧¬Ae x f<0∧∀z∈x,0≤z:=by
 obtain⟨u,t,e,e1,e2,e3⟩:=Kt hka _ _ _ (Aw.1 hka).2.1 x h;simp only[List.nil_append]at e;subst e;refine⟨?_,?_,e3⟩
 ·unfold d6;rw[hka];have e1:Ay l 0 x=some t:=e1;rw[e1];exact e2
 ·rw[Jj]at h;simpa using(List.mem_filter.1 h).2
theorem IW{l:List Ak}(hka:achk l=true){k:Nat}{z t:Int}(h:CP l k z=some t):k<l.length∧∃a∈(l[k]!).arcs,a.sign=z∧a.to=t:=by
 have hin:=Il hka h;unfold CP at h;rw[if_pos ⟨by omega,by omega⟩,Int.toNat_natCast]at h;obtain⟨a,ha,h2⟩:=Option.map_eq_some_iff.1 h;refine⟨by omega,a,List.mem_of_find?_eq_some ha,?_,h2⟩;have:=List.find?_some ha;simpa[Qk]using this
theorem cB{l:List Ak}(hka:achk l=true):∀(n:Nat) (u:List Int) (k:Nat) (w:List Int) (t:Int),k<l.length→l.length≤n+k→Ay l k u=some t→(l[t.toNat]!).final=true→w++u∈wf l [] n k w:=by
 intro n;induction n with
 |zero=>intro u k w t h1 h2;omega
 |succ n ih =>
  intro u k w t h1 h2 h3 h4;cases u with
  |nil =>
   simp only[Ay,Option.some.injEq]at h3;subst h3;simp only[wf,List.mem_append];left;rw[if_pos ⟨by simpa using h4,Ga w⟩];simp
  |cons z u =>
   simp only[Ay]at h3;cases hs:CP l k z with
   |none=>rw[hs]at h3;cases h3
   |some t1 =>
    rw[hs]at h3;simp only at h3;have hin:=Il hka hs;obtain⟨_,a,hm,hz,ht⟩:=IW hka hs;obtain⟨j,hj⟩:∃j:Nat,t1=j:=⟨t1.toNat,by omega⟩
    subst hj;have:=ih u j (w++[z]) t (by omega) (by omega) h3 h4;simp only[wf,List.mem_append,List.mem_flatMap];right;refine⟨a,hm,?_⟩;rw[I3,hz,ht,Int.toNat_natCast];simpa using this
theorem JI{l:List Ak}(hka:achk l=true){u:List Int}{t:Int}(h1:Ay l 0 u=some t)(h2:(l[t.toNat]!).final=true):u∈A7 l []:=by
 have:=cB hka l.length u 0 [] t (Aw.1 hka).2.1 (by omega) h1 h2;simpa[A7]using this
theorem PB{out:List Int}:∀(al:List Ar) (m:Int),m≤al.foldl (CG out) m∧∀a∈al,0≤out[a.to.toNat]!→out[a.to.toNat]!+1≤al.foldl (CG out) m
 | [],m=>⟨Int.le_refl _,fun a h=>(by cases h)⟩
 |b::al,m=>by
  obtain⟨h1,h2⟩:=PB (out:=out) al (CG out m b);simp only[List.foldl_cons];have hb:m≤CG out m b∧(0≤out[b.to.toNat]!→out[b.to.toNat]!+1≤CG out m b):=by unfold CG;split<;>omega
  refine⟨by omega,fun a ha h0=>?_⟩;rcases List.mem_cons.1 ha with rfl|ha
  ·have:=hb.2 h0;omega
  ·exact h2 a ha h0
theorem US{l:List Ak}(hka:achk l=true):∀(u:List Int) (k:Nat) (t:Int),k<l.length→Ay l k u=some t→(l[t.toNat]!).final=true→(u.length:Int)≤(Ca EN l l.length)[k]! :=by
 intro u;induction u with
 |nil =>
  intro k t hk h1 h2;simp only[Ay,Option.some.injEq]at h1;subst h1;rw[IY hka Lr l.length (Nat.le_refl _) k (by omega) hk];unfold EN;rw[Int.toNat_natCast]at h2;rw[if_pos h2];exact(PB _ _).1
 |cons z u ih =>
  intro k t hk h1 h2;simp only[Ay]at h1;cases hs:CP l k z with
  |none=>rw[hs]at h1;cases h1
  |some t1 =>
   rw[hs]at h1;simp only at h1;have hin:=Il hka hs;obtain⟨_,a,hm,hz,ht⟩:=IW hka hs;obtain⟨j,hj⟩:∃j:Nat,t1=j:=⟨t1.toNat,by omega⟩
   subst hj;have h3:=ih j t (by omega) h1 h2;rw[IY hka Lr l.length (Nat.le_refl _) k (by omega) hk];have h4:=(PB (out:=Ca EN l l.length) (l[k]!).arcs (if(l[k]!).final=true then 0 else -1)).2 a hm;rw[ht,Int.toNat_natCast]at h4;have h5:=h4 (by omega);show((u.length+1:Nat):Int)≤(l[k]!).arcs.foldl (CG (Ca EN l l.length)) (if(l[k]!).final=true then 0 else -1);omega
theorem CR{l:List Ak}(hka:achk l=true){n:Nat}(hd:Fq l≤n){w:List Int}(h:w∈A7 l []):w.length≤n:=by
 obtain⟨u,t,e,e1,e2,e3⟩:=Kt hka _ _ _ (Aw.1 hka).2.1 w h;simp only[List.nil_append]at e;subst e;have:=US hka w 0 t (Aw.1 hka).2.1 e1 e2;unfold Fq at hd;rw[if_pos hka]at hd;omega
def XY(L:List (List Int))(l:List Ak):Prop:=∀u,u∈L↔∃t,Ay l 0 u=some t∧(l[t.toNat]!).final=true
theorem F9{l:List Ak}(hka:achk l=true):XY (A7 l []) l:=fun u=>by
 constructor
 ·intro h;obtain⟨v,t,e,e1,e2,e3⟩:=Kt hka _ _ _ (Aw.1 hka).2.1 u h;simp only[List.nil_append]at e;subst e;exact⟨t,e1,e2⟩
 ·rintro⟨t,h1,h2⟩;exact JI hka h1 h2
attribute [local go_sem] Aq As AP AO Az Ax Bb Bh Bq
theorem DP{l:List Int}{z:Int}:is l++[.int .i64 z]=is (l++[z]):=by simp[is]
theorem Nf{l:List Int}{k:Nat}:(is l).take k=is (l.take k):=by simp[is,List.map_take]
end Go.Eng.Tryz

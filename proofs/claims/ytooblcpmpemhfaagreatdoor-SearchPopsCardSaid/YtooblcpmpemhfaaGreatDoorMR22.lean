/- Words of automata, and the least automaton: plainly. (and what stands behind it: texts laid together) -/
import Derived.Test.YtooblcpmpemhfaaGreatDoorMR12
import Derived.Test.YtooblcpmpemhfaaGreatDoorMR21
import Derived.Test.YtooblcpmpemhfaaGreatDoorMG4
import Derived.Test.YtooblcpmpemhfaaGreatDoorMR15
import Derived.Test.YtooblcpmpemhfaaGreatDoorMR13
import Derived.Test.YtooblcpmpemhfaaGreatDoorMR14
set_option linter.unusedVariables false
set_option linter.unusedSimpArgs false
open Go Go.Eng Go.Proofs Go.RowKit
set_option maxHeartbeats 32000000
set_option maxRecDepth 100000
namespace Go.Eng.Tryz
theorem XY.same{L M:List (List Int)}{l:List Ak}(h:XY L l)(k:XY M l)(hL:BQ L)(hM:BQ M):L=M :=
 Ik (R:=fun a b=>Ae a b<0) CQ (fun a b h k=>by have:=AD a b;omega) hL hM fun u=>(h u).trans (k u).symm
theorem XY.at{L:List (List Int)}{l:List Ak}(h:XY L l){u:List Int}{s:Int}(hu:Ay l 0 u=some s)(w:List Int):u++w∈L↔∃t,Ay l s w=some t∧(l[t.toNat]!).final=true:=by
 have e:Ay l 0 (u++w)=Ay l s w:=by rw[CD,hu]
 rw[h (u++w),e]
theorem CE.lng{L K:List (List Int)}{l:List Ak}(h:CE L l K):XY L l:=fun u=>by
 obtain⟨h1,h2⟩:=h.has u;constructor
 ·intro hu;obtain⟨t,t1,t2,t3⟩:=h1 (.inr ⟨u,hu,List.prefix_rfl⟩);exact⟨t,t2,by rw[Int.toNat_natCast];exact t3.2 hu⟩
 ·rintro⟨t,g1,g2⟩;by_cases hb:Bg L u
  ·obtain⟨s,s1,s2,s3⟩:=h1 hb;rw[g1]at s2;cases s2;rw[Int.toNat_natCast]at g2;exact s3.1 g2
  ·rw[h2 hb]at g1;cases g1
theorem BR.lead{L:List (List Int)}{l:List Ak}{B:List (List Int)}(h:BR L l B):∀(u:List Int) {p:Nat},p<l.length→(Bg L (B[p]!++u)→∃t:Nat,t<l.length∧Ay l p u=some (t:Int)∧B[t]! =B[p]!++u)∧(¬Bg L (B[p]!++u)→Ay l p u=none)
 | [],p,hp=>⟨fun _=>⟨p,hp,rfl,by simp⟩,fun hn=>absurd (h.bgp hp) (by rwa [List.append_nil]at hn)⟩
 |z::u,p,hp=>by
  have e1:B[p]!++z::u=B[p]!++[z]++u:=by simp
  rw[e1];unfold Ay;by_cases hz:Bg L (B[p]!++[z])
  ·obtain⟨t,t1,t2,t3⟩:=h.arc_of hp hz;have hs:CP l p z=some (t:Int):=by
    have:=N4 (h.ris p _ (h.at hp)) t3;unfold CP;rw[if_pos (by omega),Int.toNat_natCast,this];rfl
   rw[hs];simp only;rw[← t2];exact BR.lead h u t1
  ·have hs:CP l p z=none:=by
    unfold CP;rw[if_pos (by omega),Int.toNat_natCast,Option.map_eq_none_iff,List.find?_eq_none];intro a ha hs;have:=of_decide_eq_true hs;subst this;obtain⟨g1,g2,g3,g4⟩:=h.arc hp ha;exact hz (by rw[← g4];exact h.bgp g3)
   rw[hs];exact⟨fun hb=>absurd hb.cut hz,fun _=>rfl⟩
theorem JL.lng{L:List (List Int)}{l:List Ak}{B:List (List Int)}(h:JL L l B):XY L l:=fun u=>by
 have h0:B[0]! =[]:=V6 h.b.root;obtain⟨h1,h2⟩:=h.b.lead u h.l0;rw[h0,List.nil_append]at h1 h2;constructor
 ·intro hu;obtain⟨t,t1,t2,t3⟩:=h1 (.inr ⟨u,hu,List.prefix_rfl⟩);exact⟨t,t2,by rw[Int.toNat_natCast,h.b.fin' t1,t3];exact hu⟩
 ·rintro⟨t,g1,g2⟩;by_cases hb:Bg L u
  ·obtain⟨s,s1,s2,s3⟩:=h1 hb;rw[show((0:Nat):Int)=0 from rfl,g1]at s2;cases s2;rw[Int.toNat_natCast,h.b.fin' s1,s3]at g2;exact g2
  ·have:=h2 hb;rw[show((0:Nat):Int)=0 from rfl,g1]at this;cases this
theorem RD{α:Type}[DecidableEq α]:∀{l m:List α},l.Nodup→(∀x∈l,x∈m)→l.length≤m.length
 | [],m,_,_=>Nat.zero_le _
 |a::l,m,hl,h=>by
  have ha:a∈m:=h a (by simp);have hl2:a∉l∧l.Nodup:=List.nodup_cons.1 hl;have:=RD (m:=m.erase a) hl2.2 fun x hx=>by
   refine(List.mem_erase_of_ne fun e=>hl2.1 (by rw[← e];exact hx)).2 (h x (by simp[hx]))
  rw[List.length_erase_of_mem ha]at this;have:=List.length_pos_of_mem ha;simp only[List.length_cons];omega
attribute [local go_sem] Aq As Bb Bh AP AO Az Ax Ch Cg
theorem cF{L:List (List Int)}{l:List Ak}(hka:achk l=true)(hl:XY L l)(hs:BQ L)(hn:L.length≤300):W0 l=L∧cD l=0∧Dn l=L.length:=by
 have e0:A7 l []=L:=(F9 hka).same hl (Em hka []) hs;have hmn:Dn l=min 301 ((A7 l []).length:Int):=by
  have:Dn l=(Ca DC l l.length)[0]! :=if_pos hka;rw[this];exact Ku hka l.length 0 [] (Aw.1 hka).2.1 (by omega)
 rw[e0]at hmn;have h3:Dn l≤300:=by omega
 refine⟨?_,?_,by omega⟩
 ·unfold W0 GP;rw[if_pos h3,if_pos ⟨hka,by omega,by omega⟩,e0];exact List.take_of_length_le hn
 ·unfold cD GO;rw[if_pos h3,if_pos hka,if_pos ⟨by omega,by omega⟩]
theorem OW{l:List Ak}{c:Co}:Qu l c=0↔achk l=true∧Lq c=true∧¬300<Dn l∧¬20<Fq l∧(l[0]!).final=false:=by
 unfold Qu;constructor
 ·intro h;by_cases h1:achk l=false
  ·rw[if_pos h1]at h;exact absurd h (by decide)
  rw[if_neg h1]at h;by_cases h2:Lq c=false
  ·rw[if_pos h2]at h;exact absurd h (by decide)
  rw[if_neg h2]at h;by_cases h3:300<Dn l
  ·rw[if_pos h3]at h;exact absurd h (by decide)
  rw[if_neg h3]at h;by_cases h4:(decide (20<Fq l)||(l[0]!).final)=true
  ·rw[if_pos h4]at h;exact absurd h (by decide)
  rw[Bool.or_eq_true,decide_eq_true_eq,not_or]at h4;exact⟨by simpa using h1,by simpa using h2,h3,h4.1,by simpa using h4.2⟩
 ·rintro⟨h1,h2,h3,h4,h5⟩;rw[if_neg (by rw[h1];decide),if_neg (by rw[h2];decide),if_neg h3,if_neg (by rw[h5,decide_eq_false h4];decide)]
def dY(l:List Ak)(c:Co):List (List Int):=if Qu l c=0 then W0 l else[]
theorem Z5{l:List Ak}{c:Co}(hl:Bt l)(hc:c.ok):A3 Tryz.prog 24 [im l c] (.tup [.sl 1 (CI (dY l c)),.int .i64 (Qu l c)]):=by
 have c1:=Qb hl hc;by_cases h:Qu l c=0
 ·have e1:dY l c=W0 l:=if_pos h;have c2:=Z8 hl;obtain⟨h1,h2,h3,_⟩:=OW.1 h;have e2:cD l=0:=by unfold cD GO;rw[if_pos (by omega),if_pos h1,if_pos ⟨by omega,by omega⟩]
  rw[e2]at c2;rw[e1,h];rw[h]at c1;generalize W0 l=W at c2 ⊢;unfold im at c1 ⊢;refine A6 15 Tryz.func24 A4 fun X_ w_=>?_;have c0_:=c1;have c1_:=c2;refine Ao ?_;try exact trivial
 ·have e1:dY l c=[]:=if_neg h;rw[e1];refine A3.wk (r:=.tup [.nils,.int .i64 (Qu l c)]) ?_ (Is.refl _) (.tup (.cons (.nil 1) (.cons (.refl _) .nil)));generalize Qu l c=e at h c1 ⊢;unfold im at c1 ⊢;refine A6 15 Tryz.func24 A4 fun X_ w_=>?_;have c0_:=c1;refine Ao ?_;try exact trivial
end Go.Eng.Tryz
namespace Go.Eng.Tryz
def AK(u w:List Int):Bool:=decide (w.take u.length=u)
theorem Af{u w:List Int}:AK u w=true↔∃r,w=u++r:=by
 unfold AK;rw[decide_eq_true_eq];constructor
 ·intro h;exact⟨w.drop u.length,by conv=>lhs;rw[← List.take_append_drop u.length w,h]⟩
 ·rintro⟨r,rfl⟩;simp
def Dg(g:List Int→Int)(W:List (List Int))(u:List Int):Int:=(W.filter (AK u)).foldl (fun m w=>min m (g w)) 18446744073709551615
theorem DL(g:List Int→Int)(W:List (List Int))(u:List Int):Dg g W u≤18446744073709551615∧(∀w∈W,AK u w=true→Dg g W u≤g w)∧(Dg g W u=18446744073709551615∨∃w∈W,AK u w=true∧Dg g W u=g w):=by
 obtain⟨h1,h2,h3⟩:=Q5 g (W.filter (AK u)) 18446744073709551615;refine⟨h1,fun w hw hb=>h2 w (List.mem_filter.2 ⟨hw,hb⟩),?_⟩;rcases h3 with h3|⟨w,hw,h3⟩
 ·exact .inl h3
 ·exact .inr ⟨w,(List.mem_filter.1 hw).1,(List.mem_filter.1 hw).2,h3⟩
theorem Y8{c:Co}{rest:List Int}{s:Se}(h:s∈Lc c rest)(ha:s.any=true):s.put=[]:=by
 rw[RZ]at h;rcases h with h|h|h|⟨r,_,_,h2⟩
 ·obtain⟨x,t,_,h'|h'|h'⟩:=Ut.1 h<;>subst h'<;>simp_all
 ·obtain⟨x,y,t,_,_,h'⟩:=Uu.1 h;subst h';simp_all
 ·subst h;rfl
 ·subst h2;simp_all
def FF(c:Co)(q:List Int)(l:List Ak)(u:List Int)(at_:Nat):Int:=if u.length≤20 then EJ (Bj c q (q.length+1)) l (CJ c q l) (Qv (Bj c q (q.length+1)) u) u at_ else 18446744073709551615
theorem MB{c:Co}{q:List Int}{l:List Ak}(hc:c.ok)(hm:LS c q l=true)(hd:Fq l≤20){u:List Int}{at_:Nat}(hu:Ay l 0 u=some (at_:Int)):FF c q l u at_=Dg (D2 c q) (A7 l []) u:=by
 obtain⟨h1,h2,h3,ht⟩:=Lf hc hm;have hl0:=(Aw.1 h3).2.1;obtain⟨m1,m2,m3⟩:=DL (D2 c q) (A7 l []) u;unfold FF;split;rotate_left
 ·rename_i hlong;rcases m3 with m3|⟨w,hw,hb,m3⟩
  ·exact m3.symm
  ·exfalso;obtain⟨r,rfl⟩:=Af.1 hb;have:=CR h3 (n:=20) hd hw;simp only[List.length_append]at this;omega
 rename_i hul;have hS:=Kn hc h2 q;have hW:=fun w=>Eo hc h2 q w;have hlen:=BW c q (q.length+1);have h0:0<(Bj c q (q.length+1)).length:=by omega
 have hA:∀i,i<(Bj c q (q.length+1)).length→∀s∈(Bj c q (q.length+1))[i]!,s.any=true→s.put=[]:=fun i hi s hs ha=>by
  rw[EI c q (by omega)]at hs;exact Y8 hs ha
 obtain⟨_,_,_,b4⟩:=KG (all:=Bj c q (q.length+1)) (l:=l) (t:=CJ c q l) (T:=Qv (Bj c q (q.length+1)) u) (u:=u) (at_:=at_);have hle:EJ (Bj c q (q.length+1)) l (CJ c q l) (Qv (Bj c q (q.length+1)) u) u at_≤Dg (D2 c q) (A7 l []) u:=by
  rcases m3 with m3|⟨w,hw,hb,m3⟩
  ·rw[m3];exact b4
  ·rw[m3];obtain⟨r,rfl⟩:=Af.1 hb;obtain⟨f,e1,e2⟩:=(F9 h3 _).1 hw;rcases YV (q:=q) (w:=u++r) hc with h|⟨_,hway⟩
   ·rw[h];exact b4
   ·have hx:=VT hS hW h0 h3 ht rfl hu e1 hway (by simp) f (by rw[List.take_length];exact e1);obtain⟨c1,c2,_⟩:=DB h3 (Int.le_refl 0) (by omega) e1;have hb:=(LZ (l:=l) (t:=CJ c q l) (i:=q.length) (k:=f.toNat) ((Bj c q (q.length+1))[q.length]!) (base (Bj c q (q.length+1)).length l q.length f.toNat)).1;have f1:=(ht.fix q.length f.toNat (by omega) (by omega)).1;unfold Ep at f1;rw[← f1]at hb;unfold base at hb;rw[if_pos ⟨by omega,e2⟩]at hb;omega
 have hge:Dg (D2 c q) (A7 l []) u≤EJ (Bj c q (q.length+1)) l (CJ c q l) (Qv (Bj c q (q.length+1)) u) u at_:=by
  by_cases hinf:EJ (Bj c q (q.length+1)) l (CJ c q l) (Qv (Bj c q (q.length+1)) u) u at_=18446744073709551615
  ·rw[hinf];exact m1
  ·obtain⟨r,f,e1,e2,e3⟩:=UK hS hW hA h3 ht rfl hu hinf;have hw:=JI h3 e1 e2;have hlen2:=CR h3 (n:=20) hd hw;rw[hlen,Nat.add_sub_cancel]at e3;exact Int.le_trans (m2 _ hw (Af.2 ⟨r,rfl⟩)) (bk hc ⟨Fm.2 ⟨h1,h2⟩,hlen2⟩ e3)
 omega
theorem Ss{g:List Int→Int}{l:List Ak}(hl:achk l=true){u:List Int}(hu:Ay l 0 u=none):Dg g (A7 l []) u=18446744073709551615:=by
 rcases(DL g (A7 l []) u).2.2 with h|⟨w,hw,hb,_⟩
 ·exact h
 ·exfalso;obtain⟨r,rfl⟩:=Af.1 hb;obtain⟨f,e1,_⟩:=(F9 hl _).1 hw;rw[CD,hu]at e1;cases e1
def OB(g:List Int→Int)(W:List (List Int))(u x:List Int):En:=if x=u then⟨g u,u,true,0⟩else⟨Dg g W x,x,false,0⟩
def ey(g:List Int→Int)(W:List (List Int))(u:List Int)(st:List En×Int)(w:List Int):List En×Int :=
 if AK u w=true then
  if w.length=u.length then(st.1++[⟨g w,w,true,0⟩],st.2)
  else if w[u.length]!≠st.2 then(st.1++[⟨Dg g W (w.take (u.length+1)),w.take (u.length+1),false,0⟩],w[u.length]!)else st
 else st
def Ew(g:List Int→Int)(W:List (List Int))(u:List Int):List En:=(W.foldl (ey g W u) ([],-1)).1
structure KI(g:List Int→Int)(W:List (List Int))(u:List Int)(V:List (List Int))(st:List En×Int)(xs:List (List Int)):Prop where
 ents:st.1=xs.map (OB g W u)
 srt:BQ xs
 mem:∀x,x∈xs↔∃w∈V,AK u w=true∧x=w.take (u.length+1)
 last:∀w∈V,AK u w=true→u.length<w.length→w[u.length]!≤st.2
 at_:st.2 = -1∨u++[st.2]∈xs
theorem F2{u w:List Int}(h:AK u w=true)(hl:u.length<w.length):w.take (u.length+1)=u++[w[u.length]!]∧∃r,w=u++w[u.length]!::r:=by
 obtain⟨r,rfl⟩:=Af.1 h;cases r with
 |nil=>simp at hl
 |cons z r =>
  have e:(u++z::r)[u.length]! =z:=by rw[getElem!_pos _ _ (by simp)];simp
  rw[e];refine⟨?_,r,rfl⟩;rw[List.take_append,List.take_of_length_le (by omega)];simp
theorem FO{u w:List Int}(h:AK u w=true)(hl:¬u.length<w.length):w=u:=by
 obtain⟨r,rfl⟩:=Af.1 h;cases r with
 |nil=>simp
 |cons z r=>simp at hl
theorem HE(u:List Int)(z:Int):u++[z]≠u:=fun h=>by have:=congrArg List.length h;simp at this
theorem Xw{xs:List (List Int)}{x:List Int}(h:BQ xs)(hx:∀y∈xs,Ae y x<0):BQ (xs++[x]):=by
 unfold BQ at *;rw[List.pairwise_append];exact⟨h,by simp,fun a ha b hb=>by rw[List.mem_singleton.1 hb];exact hx a ha⟩
theorem KI.go{g:List Int→Int}{W:List (List Int)}{u:List Int}{V:List (List Int)}{st:List En×Int}{xs:List (List Int)}(h:KI g W u V st xs){w:List Int}(hs:∀v∈V,Ae v w<0)(h0:∀v∈V++[w],∀z∈v,0≤z):∃ys,KI g W u (V++[w]) (ey g W u st w) ys:=by
 have hmemV:∀{x:List Int},(∃v∈V++[w],AK u v=true∧x=v.take (u.length+1))↔(∃v∈V,AK u v=true∧x=v.take (u.length+1))∨AK u w=true∧x=w.take (u.length+1):=fun{x}=>by
  constructor
  ·rintro⟨v,hv,hb,e⟩;rcases List.mem_append.1 hv with hv|hv
   ·exact .inl ⟨v,hv,hb,e⟩
   ·rw[List.mem_singleton.1 hv]at hb e;exact .inr ⟨hb,e⟩
  ·rintro(⟨v,hv,hb,e⟩|⟨hb,e⟩)
   ·exact⟨v,List.mem_append_left _ hv,hb,e⟩
   ·exact⟨w,by simp,hb,e⟩
 unfold ey;by_cases hb:AK u w=true;rotate_left
 ·rw[if_neg hb];refine⟨xs,h.ents,h.srt,fun x=>?_,fun v hv hbv hl=>?_,h.at_⟩
  ·rw[hmemV,← h.mem];exact⟨.inl,fun h'=>h'.elim id fun h''=>absurd h''.1 hb⟩
  ·rcases List.mem_append.1 hv with hv|hv
   ·exact h.last v hv hbv hl
   ·rw[List.mem_singleton.1 hv]at hbv;exact absurd hbv hb
 rw[if_pos hb];by_cases hl:u.length<w.length;rotate_left
 ·have hw:=FO hb hl;subst hw;rw[if_pos rfl];have hnil:xs=[]:=by
   cases xs with
   |nil=>rfl
   |cons x xs =>
    exfalso;obtain⟨v,hv,hbv,_⟩:=(h.mem x).1 (by simp);obtain⟨r,rfl⟩:=Af.1 hbv;have:=hs _ hv;have e:=EW w r [];rw[List.append_nil]at e;rw[e]at this;exact Ga _ this
  subst hnil;refine⟨[w],?_,by simp[BQ],fun x=>?_,fun v hv hbv hl2=>?_,?_⟩
  ·have:=h.ents;simp only[List.map_nil]at this;simp[this,OB]
  ·rw[hmemV,← h.mem];simp only[List.not_mem_nil,false_or,List.mem_singleton];have e:w.take (w.length+1)=w:=List.take_of_length_le (by omega);rw[e];exact⟨fun h'=>⟨hb,h'⟩,fun h'=>h'.2⟩
  ·rcases List.mem_append.1 hv with hv|hv
   ·exact h.last v hv hbv hl2
   ·rw[List.mem_singleton.1 hv]at hl2;omega
  ·rcases h.at_ with h'|h'
   ·exact .inl h'
   ·simp at h'
 rw[if_neg (by omega)];obtain⟨et,r,er⟩:=F2 hb hl;generalize hz:w[u.length]! =z at *;have hz0:0≤z:=h0 w (by simp) z (by rw[er];simp);have hle:∀v∈V,AK u v=true→u.length<v.length→v[u.length]!≤z:=fun v hv hbv hlv=>by
  obtain⟨_,r',er'⟩:=F2 hbv hlv;have:=hs v hv;rw[er',er,EW]at this;simp only[Ae]at this;by_cases h1:v[u.length]!≤z
  ·exact h1
  ·exfalso;rw[if_neg (by omega),if_pos (by omega)]at this;omega
 by_cases hlast:z=st.2
 ·rw[if_neg (fun h'=>h' hlast)];have hin:u++[z]∈xs:=by
   rcases h.at_ with h'|h'
   ·omega
   ·rw[hlast];exact h'
  refine⟨xs,h.ents,h.srt,fun x=>?_,fun v hv hbv hl2=>?_,h.at_⟩
  ·rw[hmemV,← h.mem,et];refine⟨.inl,fun h'=>h'.elim id fun h''=>?_⟩;rw[h''.2];exact hin
  ·rcases List.mem_append.1 hv with hv|hv
   ·exact h.last v hv hbv hl2
   ·rw[List.mem_singleton.1 hv,hz];omega
 ·rw[if_pos hlast];refine⟨xs++[u++[z]],?_,Xw h.srt fun y hy=>?_,fun x=>?_,fun v hv hbv hl2=>?_,.inr (by simp)⟩
  ·simp only[List.map_append,List.map_cons,List.map_nil,h.ents,et,OB];rw[if_neg (HE u z)]
  ·obtain⟨v,hv,hbv,e⟩:=(h.mem y).1 hy;by_cases hlv:u.length<v.length
   ·obtain⟨et2,r2,er2⟩:=F2 hbv hlv;have h1:=hle v hv hbv hlv;have h2:=h.last v hv hbv hlv;have hv0:0≤v[u.length]! :=by
     have hin:v[u.length]!∈v:=by rw[getElem!_pos v _ hlv];exact List.getElem_mem _
     exact h0 v (List.mem_append_left _ hv) _ hin
    have h3:v[u.length]! <z:=by
     rcases h.at_ with h'|h'
     ·omega
     ·obtain⟨v2,hv2,hb2,e2⟩:=(h.mem _).1 h';by_cases hl2:u.length<v2.length
      ·have h4:=hle v2 hv2 hb2 hl2;rw[(F2 hb2 hl2).1]at e2;have e3:=List.append_cancel_left e2;simp only[List.cons.injEq,and_true]at e3;omega
      ·have:=FO hb2 hl2;rw[this,List.take_of_length_le (by omega)]at e2;exact absurd e2 (HE _ _)
    rw[e,et2];exact EB h3 u [] []
   ·have:=FO hbv hlv;rw[e,this,List.take_of_length_le (by omega)];exact Ks u [] z
  ·rw[hmemV,← h.mem,List.mem_append,List.mem_singleton,et];exact⟨fun h'=>h'.imp id fun h''=>⟨hb,h''⟩,fun h'=>h'.imp id fun h''=>h''.2⟩
  ·rcases List.mem_append.1 hv with hv|hv
   ·exact hle v hv hbv hl2
   ·rw[List.mem_singleton.1 hv,hz];exact Int.le_refl _
theorem YJ{g:List Int→Int}{W:List (List Int)}(u:List Int)(hs:BQ W)(h0:∀w∈W,∀z∈w,0≤z):∀k,k≤W.length→∃xs,KI g W u (W.take k) ((W.take k).foldl (ey g W u) ([],-1)) xs:=by
 intro k;induction k with
 |zero=>intro _;exact⟨[],by simp,by simp[BQ],fun x=>by simp,fun w hw=>by simp at hw,.inl rfl⟩
 |succ k ih =>
  intro hk;obtain⟨xs,h⟩:=ih (by omega);rw[CZ _ _ (by omega),AT (by omega)];refine h.go (fun v hv=>?_) (fun v hv=>?_)
  ·obtain⟨j,hj,rfl⟩:=List.getElem_of_mem hv;simp only[List.length_take]at hj;rw[List.getElem_take,getElem!_pos W k (by omega)];exact List.pairwise_iff_getElem.1 hs j k (by omega) (by omega) (by omega)
  ·rcases List.mem_append.1 hv with hv|hv
   ·exact h0 v (List.mem_of_mem_take hv)
   ·rw[List.mem_singleton.1 hv,getElem!_pos W k (by omega)];exact h0 _ (List.getElem_mem _)
theorem HC{g:List Int→Int}{W:List (List Int)}(u:List Int)(hs:BQ W)(h0:∀w∈W,∀z∈w,0≤z):∃xs,Ew g W u=xs.map (OB g W u)∧BQ xs∧∀x,x∈xs↔∃w∈W,AK u w=true∧x=w.take (u.length+1):=by
 obtain⟨xs,h⟩:=YJ (g:=g) u hs h0 W.length (Nat.le_refl _);rw[List.take_length]at h;exact⟨xs,h.ents,h.srt,h.mem⟩
def BN(most:Int)(e:En):Bool:=decide (e.cost≤most∧e.cost<18446744073709551615)
def Du(e:En):En:=⟨e.cost,e.word,e.done,0⟩
def Br(c:Co)(q:List Int)(l:List Ak)(u:List Int)(k:Nat):List En :=
 (if(l[k]!).final=true then[⟨D2 c q u,u,true,0⟩]else[])++(l[k]!).arcs.map fun a=>⟨FF c q l (u++[a.sign]) a.to.toNat,u++[a.sign],false,a.to⟩
theorem OM{l:List Ak}{u:List Int}{k:Nat}(hl:achk l=true)(hk:k<l.length)(hu:Ay l 0 u=some (k:Int)){a:Ar}(ha:a∈(l[k]!).arcs):Ay l 0 (u++[a.sign])=some a.to∧0≤a.to∧a.to<l.length:=by
 have h1:=Hd (DI (Aw.1 hl).1 hk) a ha;have h2:=CF hl hk a ha;refine⟨?_,by omega,h2.2.1⟩;rw[CD,hu];simp only[Ay,CP];rw[if_pos ⟨by omega,by omega⟩,Int.toNat_natCast,h1];rfl
theorem Wb{i n:Int}{al:List Ar}{last:Int}(h:Bv i n last al=true)(u:List Int):BQ (al.map fun a=>u++[a.sign]):=by
 unfold BQ;rw[List.pairwise_map];exact(Pi h).imp fun hab=>EB hab u [] []
theorem Vd{c:Co}{q:List Int}{l:List Ak}(hc:c.ok)(hm:LS c q l=true)(hd:Fq l≤20){u:List Int}{k:Nat}(hk:k<l.length)(hu:Ay l 0 u=some (k:Int))(most:Int) :
 ((Br c q l u k).filter (BN most)).map Du=(Ew (D2 c q) (A7 l []) u).filter (BN most):=by
 obtain⟨h1,h2,h3,ht⟩:=Lf hc hm;obtain⟨xs,e1,s1,m1⟩:=HC (g:=D2 c q) u (Em h3 []) (fun w hw=>(Gc h3 hw).2.2);have e2:(Br c q l u k).map Du=((if(l[k]!).final=true then[u]else[])++(l[k]!).arcs.map fun a=>u++[a.sign]).map (OB (D2 c q) (A7 l []) u):=by
  unfold Br;rw[List.map_append,List.map_append];congr 1
  ·split
   ·simp[Du,OB]
   ·rfl
  ·rw[List.map_map,List.map_map];refine List.map_congr_left fun a ha=>?_;obtain⟨b1,b2,b3⟩:=OM h3 hk hu ha;obtain⟨m,hm2⟩:=Int.eq_ofNat_of_zero_le b2;simp only[Function.comp_apply,Du,OB];rw[if_neg (HE _ _)];rw[hm2]at b1;rw[hm2,Int.toNat_natCast,MB hc hm hd b1]
 have e3:((Br c q l u k).filter (BN most)).map Du=((Br c q l u k).map Du).filter (BN most):=by
  rw[List.filter_map];rfl
 rw[e3,e2,e1,List.filter_map,List.filter_map];congr 1;have s2:BQ ((if(l[k]!).final=true then[u]else[])++(l[k]!).arcs.map fun a=>u++[a.sign]):=by
  have:=Wb (DI (Aw.1 h3).1 hk) u;unfold BQ at *;rw[List.pairwise_append];refine⟨by split<;>simp,this,fun a ha b hb=>?_⟩;split at ha
  ·rw[List.mem_singleton.1 ha];obtain⟨z,_,rfl⟩:=List.mem_map.1 hb;exact Ks u [] z.sign
  ·cases ha
 refine Ik (fun a h=>by rw[FS]at h;omega) (fun a b h h'=>by have:=AD a b;omega) (s2.filter _) (s1.filter _) fun x=>?_;rw[List.mem_filter,List.mem_filter];refine⟨fun⟨hx,hk2⟩=>⟨?_,hk2⟩,fun⟨hx,hk2⟩=>⟨?_,hk2⟩⟩
 ·rw[m1];rcases List.mem_append.1 hx with hx|hx
  ·split at hx
   ·rename_i hf;rw[List.mem_singleton.1 hx];exact⟨u,JI h3 hu (by simpa using hf),Af.2 ⟨[],by simp⟩,(List.take_of_length_le (by omega)).symm⟩
   ·cases hx
  ·obtain⟨a,ha,rfl⟩:=List.mem_map.1 hx;have ee:OB (D2 c q) (A7 l []) u (u++[a.sign])=⟨Dg (D2 c q) (A7 l []) (u++[a.sign]),u++[a.sign],false,0⟩:=if_neg (HE _ _);simp only[Function.comp_apply,ee,BN,decide_eq_true_eq]at hk2;rcases(DL (D2 c q) (A7 l []) (u++[a.sign])).2.2 with hb|⟨w,hw,hb,_⟩
   ·omega
   ·obtain⟨r,rfl⟩:=Af.1 hb;refine⟨_,hw,Af.2 ⟨a.sign::r,by simp⟩,?_⟩;rw[show u.length+1=(u++[a.sign]).length by simp,List.take_left]
 ·obtain⟨w,hw,hb,e⟩:=(m1 x).1 hx;obtain⟨f,f1,f2⟩:=(F9 h3 w).1 hw;rw[List.mem_append];obtain⟨r,rfl⟩:=Af.1 hb;rw[CD,hu]at f1;simp only at f1;cases r with
  |nil =>
   left;simp only[Ay,Option.some.injEq]at f1;subst f1;rw[Int.toNat_natCast]at f2;rw[if_pos f2,e,List.append_nil,List.take_of_length_le (by omega)];simp
  |cons z r =>
   right;simp only[Ay]at f1;cases hst:CP l k z with
   |none=>rw[hst]at f1;cases f1
   |some t1 =>
    obtain⟨_,a,ha,hz,_⟩:=IW h3 hst;refine List.mem_map.2 ⟨a,ha,?_⟩;rw[e,hz,List.take_append,List.take_of_length_le (by omega)];simp
end Go.Eng.Tryz

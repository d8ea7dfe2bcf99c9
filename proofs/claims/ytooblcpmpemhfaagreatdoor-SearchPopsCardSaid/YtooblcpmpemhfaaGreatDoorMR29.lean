/- Searches: how many beginnings words have; how many entries are popped. (and what stands behind it: texts laid together) -/
import Derived.Test.YtooblcpmpemhfaaGreatDoorMR28
set_option linter.unusedVariables false
set_option linter.unusedSimpArgs false
open Go Go.Eng Go.Proofs Go.RowKit
set_option maxHeartbeats 32000000
set_option maxRecDepth 100000
namespace Go.Eng.Tryz
attribute [local go_sem] DZ ac ZS NB frz frzs List.set_cons_zero List.set_cons_succ List.zip_cons_cons List.zip_nil_right List.foldl_cons List.foldl_nil D.flat NS AV.rn HO.rn AV.ks J4 HO.ks sg Es Nq EZ C0 fresh List.filter Rf Ft opnd lk J5 Qt GR MN DA Ie Gk Le SE G1 Vg bh Gh Hu Hv Hr JZ BY Cy BU Nd CX CW E8 CN HM Jt EP Dy Fu EQ Fl Fv Dz XT XS Fi Dp CV ZU ZT Tb.inn Tb.ilen Tb.nilAt Tb.ini D.put FZ Ej Gu CC ML F6 E9 Ea Fk Fj BX AV.kb Aj List.getLast?_append RQ GY Oe Kc AC List.replicate_zero List.take_length ofInt MQ Jb Ja Js OD Eu Et Cz FN Pf Qd Aj D.comps AV.comps AV.sto D.cell D.rebuild Ed Fh DM put EF BO gd G2 Nh Option.map_some Option.map_none Option.bind_some Option.isSome_some List.map_cons List.map_nil List.append_nil List.nil_append List.cons_append List.length_cons List.length_nil List.length_map List.length_append List.take_zero List.take_succ_cons List.take_nil List.drop_zero List.drop_succ_cons List.drop_nil List.getElem?_cons_zero List.getElem?_cons_succ List.getElem?_map List.all_cons List.all_nil List.mem_cons List.not_mem_nil List.elem_cons List.elem_nil Bool.and_true Bool.true_and Bool.and_self Bool.not_true Bool.not_false Bool.or_true Bool.or_false and_self and_true true_and or_false false_or or_true true_or not_false_eq_true not_true_eq_false if_true if_false decide_true decide_false decide_eq_true_eq Int.toNat_natCast Int.toNat_zero beq_self_eq_true bne_self_eq_false Bool.false_eq_true Nat.add_zero Nat.zero_add JC YM YO Yv YN YP WG XR TC TB SR Ya PV Mm Mn AR NP wrap_i64 H8 PA M5 Pz M4 TH TF TM TL PS gt_iff_lt ge_iff_le
attribute [local go_sem ↓] U4 reduceIte
attribute [local go_sem] reduceCtorEq Nat.reduceEqDiff Nat.reduceAdd Nat.reduceSub Nat.reduceMul Nat.reduceLeDiff Nat.reduceLT Nat.reduceBEq Nat.reduceBNe Int.reduceToNat Int.reduceLT Int.reduceLE Int.reduceEq Int.reduceAdd Int.reduceSub Int.reduceNeg Int.reduceBEq Int.reduceBNe
attribute [local go_sem] Aq As Bb Bh AP AO Az Ax Ch Cg Gj Gi Bq K1 K0
theorem M3:∀{u v:List Int} (p:List Int),AK u v=true→(u.length≤EM p v↔AK u p=true)
 | [],v,p,_=>⟨fun _=>FV p,fun _=>Nat.zero_le _⟩
 |a::u,v,p,h=>by
  obtain⟨r,rfl⟩:=Af.1 h;cases p with
  |nil =>
   have hc:=Hl [] ((a::u)++r);constructor
   ·intro h2;simp only[List.length_cons,List.length_nil]at hc h2;omega
   ·intro h2;obtain⟨s,hs⟩:=Af.1 h2;cases hs
  |cons b p =>
   have ih:=M3 p (Af.2 ⟨r,rfl⟩:AK u (u++r)=true);simp only[List.cons_append,EM,List.length_cons];by_cases hab:b=a
   ·subst hab;rw[if_pos (by simp)];constructor
    ·intro h2;obtain⟨s,hs⟩:=Af.1 (ih.1 (by omega));exact Af.2 ⟨s,by rw[hs];rfl⟩
    ·intro h2;obtain⟨s,hs⟩:=Af.1 h2;have:=ih.2 (Af.2 ⟨s,by simpa using hs⟩);omega
   ·rw[if_neg (by simpa using hab)];constructor
    ·intro h2;omega
    ·intro h2;obtain⟨s,hs⟩:=Af.1 h2;simp only[List.cons_append,List.cons.injEq]at hs;exact absurd hs.1 hab
def bU(p v:List Int):List (List Int):=(List.range (v.length-EM p v)).map fun i=>v.take (EM p v+1+i)
def L4:List Int→List (List Int)→List (List Int)
 |_,[]=>[]
 |p,v::V=>bU p v++L4 v V
theorem Uh(p v:List Int):(bU p v).length=v.length-EM p v:=by simp[bU]
theorem Ui{p v u:List Int}:u∈bU p v↔AK u v=true∧¬AK u p=true:=by
 have hc:=Hl p v;unfold bU;rw[List.mem_map];constructor
 ·rintro⟨i,hi,rfl⟩;have hi:=List.mem_range.1 hi;have hb:AK (v.take (EM p v+1+i)) v=true:=Af.2 ⟨_,(List.take_append_drop _ v).symm⟩;refine⟨hb,fun h2=>?_⟩;have h3:=(M3 p hb).2 h2;rw[List.length_take]at h3;omega
 ·rintro⟨h1,h2⟩;have h3:¬u.length≤EM p v:=fun h=>h2 ((M3 p h1).1 h);obtain⟨r,rfl⟩:=Af.1 h1;rw[List.length_append]at hc;refine⟨u.length-EM p (u++r)-1,List.mem_range.2 (by rw[List.length_append];omega),?_⟩;rw[show EM p (u++r)+1+(u.length-EM p (u++r)-1)=u.length by omega,List.take_left]
theorem Uj:∀{V:List (List Int)} {p:List Int},BQ (p::V)→(L4 p V).Nodup∧∀u,u∈L4 p V↔∃v∈V,AK u v=true∧¬AK u p=true
 | [],p,_=>⟨by simp[L4],fun u=>by simp[L4]⟩
 |v::V,p,hs=>by
  have hs':=hs;unfold BQ at hs';rw[List.pairwise_cons]at hs';obtain⟨h1,h2⟩:=Uj (V:=V) (p:=v) hs'.2;have hpv:=hs'.1 v (by simp);have hv:=hs'.2;rw[List.pairwise_cons]at hv;unfold L4;refine⟨?_,fun u=>?_⟩
  ·rw[List.nodup_append];refine⟨?_,h1,fun a ha b hb hab=>?_⟩
   ·unfold bU;have hc:=Hl p v;rw[List.Nodup,List.pairwise_map];refine List.Pairwise.imp_of_mem (R:=fun a b=>a<b) (fun{i j} hi hj hij e=>?_) List.pairwise_lt_range;have hi:=List.mem_range.1 hi;have hj:=List.mem_range.1 hj;have:=congrArg List.length e;rw[List.length_take,List.length_take]at this;omega
   ·subst hab;obtain⟨w,_,_,h3⟩:=(h2 a).1 hb;exact h3 (Ui.1 ha).1
  ·rw[List.mem_append,Ui,h2];constructor
   ·rintro(⟨q1,q2⟩|⟨w,hw,q1,q2⟩)
    ·exact⟨v,by simp,q1,q2⟩
    ·refine⟨w,by simp[hw],q1,fun q3=>q2 ?_⟩;obtain⟨r,rfl⟩:=Af.1 q3;have hvw:=hv.1 w hw;refine HX q1 ?_ (Int.le_of_lt hvw);have:Ae u (u++r)≤0:=by
      cases r with
      |nil=>rw[List.append_nil,FS];exact Int.le_refl _
      |cons z r=>exact Int.le_of_lt (Ks u r z)
     exact CA _ _ _ this (Int.le_of_lt hpv)
   ·rintro⟨w,hw,q1,q2⟩;by_cases q3:AK u v=true
    ·exact .inl ⟨q3,q2⟩
    ·rcases List.mem_cons.1 hw with e|hw
     ·rw[e]at q1;exact absurd q1 q3
     ·exact .inr ⟨w,hw,q1,q3⟩
theorem RM:∀(V:List (List Int)) (p v:List Int),L4 p (V++[v])=L4 p V++bU ((p::V)[V.length]!) v
 | [],p,v=>by simp[L4]
 |w::V,p,v=>by
  have ih:=RM V w v;have e:(p::w::V)[(w::V).length]! =(w::V)[V.length]! :=by simp
  rw[e,List.cons_append];simp only[L4];rw[ih,List.append_assoc]
def KP(D:List Ht):Nat:=D.length+(if D=[]then 0 else 1+(L4 [] (BT (D.map (·.word)))).length)
section
variable {g:List Int→Int} {W:List (List Int)} {most:Int}
theorem LE{l:List (List Int)}(h:l.Nodup):BQ (BT l):=by
 have h1:=Iq l;have h2:=(Dl l).nodup_iff.2 h;unfold BQ;refine(h1.and h2).imp fun{a b} hab=>?_;obtain⟨h3,h4⟩:=hab;have h5:=AD a b;by_cases h6:Ae a b=0
 ·exact absurd ((Io a b).1 h6) h4
 ·omega
theorem Ls{P Q:List En}(hS:BL g W most=P++Q):((B2 P).map (·.word)).Nodup:=by
 have hs:Mt (B2 P):=Oz (GV hS).2;have hall:∀h∈B2 P,h=⟨h.word,g h.word⟩:=fun h hh=>by
  obtain⟨w,_,_,rfl⟩:=(FQ hS h).1 hh;rfl
 have hnd:=Us hs;generalize B2 P=D at hnd hall;induction D with
 |nil=>simp
 |cons a D ih =>
  rw[List.nodup_cons]at hnd;rw[List.map_cons,List.nodup_cons];refine⟨fun h=>?_,ih hnd.2 fun x hx=>hall x (by simp[hx])⟩;obtain⟨b,hb,hab⟩:=List.mem_map.1 h;have e1:=hall a (by simp);have e2:=hall b (by simp[hb]);rw[hab,← e1]at e2;rw[e2]at hb;exact hnd.1 hb
theorem TX(hW:BQ W)(hnil:[]∉W){P Q:List En}(hS:BL g W most=P++Q)(hP:P=[]∨Q=[]∨∃P' e,P=P'++[e]∧e.done=true):P.length=KP (B2 P):=by
 rw[ON P];unfold KP;congr 1;have hm:=QI hW hS hP;have hnd:=TE hS;by_cases hD:B2 P=[]
 ·rw[if_pos hD];cases hb:JQ P with
  |nil=>rfl
  |cons u B =>
   obtain⟨h,hh,_⟩:=(hm u).1 (by rw[hb];simp);rw[hD]at hh;cases hh
 ·rw[if_neg hD];have hws:=LE (Ls hS);have hwm:∀w,w∈BT ((B2 P).map (·.word))↔∃h∈B2 P,h.word=w:=fun w=>by
   rw[(Dl _).mem_iff,List.mem_map]
  have hne:∀w∈BT ((B2 P).map (·.word)),w≠[]:=fun w hw e=>by
   obtain⟨h,hh,hw2⟩:=(hwm w).1 hw;obtain⟨w',hw',_,rfl⟩:=(FQ hS h).1 hh;rw[e]at hw2;simp only at hw2;rw[hw2]at hw';exact hnil hw'
  have hs2:BQ ([]::BT ((B2 P).map (·.word))):=by
   unfold BQ at hws ⊢;rw[List.pairwise_cons];refine⟨fun w hw=>?_,hws⟩;have:=hne w hw;cases w with
   |nil=>exact absurd rfl this
   |cons a w=>simp[Ae]
  obtain⟨p1,p2⟩:=Uj hs2;generalize BT ((B2 P).map (·.word))=V at *;have hnn:∀u,u∈L4 [] V↔u≠[]∧∃h∈B2 P,AK u h.word=true:=fun u=>by
   rw[p2];constructor
   ·rintro⟨v,hv,q1,q2⟩;refine⟨fun e=>q2 (by rw[e];exact FV _),?_⟩;obtain⟨h,hh,hw⟩:=(hwm v).1 hv;exact⟨h,hh,by rw[hw];exact q1⟩
   ·rintro⟨q1,h,hh,q2⟩;refine⟨h.word,(hwm _).2 ⟨h,hh,rfl⟩,q2,fun q3=>q1 ?_⟩;obtain⟨r,hr⟩:=Af.1 q3;cases u with
    |nil=>rfl
    |cons a u=>cases hr
  have a1:=RD hnd (m:=[]::L4 [] V) fun u hu=>by
   by_cases e:u=[]
   ·rw[e];simp
   ·exact List.mem_cons_of_mem _ ((hnn u).2 ⟨e,(hm u).1 hu⟩)
  have a2:=RD (l:=[]::L4 [] V) (by rw[List.nodup_cons];exact⟨fun h=>((hnn []).1 h).1 rfl,p1⟩) (m:=JQ P) fun u hu=>by
   rcases List.mem_cons.1 hu with e|hu
   ·obtain⟨h,D,hD2⟩:=List.exists_cons_of_ne_nil hD;rw[e];exact(hm []).2 ⟨h,by rw[hD2];simp,FV _⟩
   ·exact(hm u).2 ((hnn u).1 hu).2
  simp only[List.length_cons]at a1 a2;omega
theorem Pw:∀(S P Q:List En) (m:Nat),S=P++Q→m≤(B2 P).length→(Dh m S).length≤P.length
 |S,P,Q,0,_,_=>by rw[Ox];simp
 | [],P,Q,m+1,h,hm=>by
   have:P=[]:=(List.append_eq_nil_iff.1 h.symm).1;rw[this]at hm;simp[B2]at hm
 |e::S,P,Q,m+1,h,hm=>by
  cases P with
  |nil=>simp[B2]at hm
  |cons x P =>
   simp only[List.cons_append,List.cons.injEq]at h;obtain⟨rfl,h⟩:=h;rw[F3]at hm;simp only[Dh,List.length_cons];cases hd:e.done
   ·rw[hd]at hm;simp only[Bool.false_eq_true,if_false]at hm ⊢;have:=Pw S P Q (m+1) h hm;omega
   ·rw[hd]at hm;simp only[if_true,List.length_cons]at hm ⊢;have:=Pw S P Q m h (by omega);omega
theorem Ve(hW:BQ W){P Q:List En}(hS:BL g W most=P++Q)(hP:P=[]∨Q=[]∨∃P' e,P=P'++[e]∧e.done=true)(h0:P≠[]):∃P' e,P=P'++[e]∧e.done=true:=by
 have hP':=hP;rcases hP with h|h|h
 ·exact absurd h h0
 ·have e1:P=P.dropLast++[P.getLast h0]:=(List.dropLast_concat_getLast h0).symm;refine⟨P.dropLast,P.getLast h0,e1,?_⟩;generalize P.dropLast=P' at e1;generalize P.getLast h0=e at e1;cases hd:e.done with
  |true=>rfl
  |false =>
   exfalso;have heP:e∈P:=by rw[e1];simp
   obtain⟨w,hw,h3,h4⟩:=ZM hW hS hP' heP hd;have hs:=(GV hS).2;have heS:e∈BL g W most:=by rw[hS];exact List.mem_append_left _ heP
   have hwS:Sd g w∈BL g W most:=by rw[hS];exact List.mem_append_left _ h3
   have h5:=Pg hwS (a:=e.word) h4;obtain⟨_,w',_,h6|⟨u,_,h6⟩⟩:=C9.1 heS
   ·rw[h6]at hd;cases hd
   ·have h7:Q8 g W e.word=e:=by rw[h6];rfl
    rw[h7]at h5;rw[e1]at hs h3;unfold GF at hs;rw[List.pairwise_append]at hs;rcases List.mem_append.1 h3 with h8|h8
    ·rw[hs.2.2 _ h8 e (by simp)]at h5;cases h5
    ·rw[← List.mem_singleton.1 h8]at hd;cases hd
 ·exact h
theorem Po(hW:BQ W)(hnil:[]∉W){n b:Nat}(hb:b<(Dh n (BL g W most)).length) :
 let l:=B2 ((BL g W most).take b)
 let all:=(Bp g W most).take n
 l.length<all.length∧l=all.take l.length∧KP l≤b∧b<KP (all.take (l.length+1)):=by
 obtain⟨Q,h1,h2,h3⟩:=GJ (BL g W most) n;obtain⟨P',e,h4,h5⟩:=Ve hW h1 h3 (fun h=>by rw[h]at hb;simp at hb);have hcut:=fun m=>GJ (BL g W most) m;have hent:∀m,KP ((Bp g W most).take m)=(Dh m (BL g W most)).length:=fun m=>by
  obtain⟨Q',q1,q2,q3⟩:=hcut m;rw[TX hW hnil q1 q3,q2];rfl
 have hmin:=fun P Q m h hm=>Pw (BL g W most) P Q m h hm;have htd:B2 (BL g W most)=Bp g W most:=rfl;rw[htd]at h2;generalize Bp g W most=T at *;generalize hSS:BL g W most=S at *;intro l all;have hsp:S=S.take b++S.drop b:=(List.take_append_drop b S).symm;have hT:T=l++B2 (S.drop b):=by
  rw[← htd];conv=>lhs;rw[hsp]
  exact KO _ _
 have hl:l=T.take l.length:=by rw[hT,List.take_left]
 rw[h4]at hb h1 h2;simp only[List.length_append,List.length_cons,List.length_nil]at hb;have hbp:S.take b=P'.take b:=by rw[h1,List.append_assoc,List.take_append_of_le_length (by omega)]
 have hlt:l.length<all.length:=by
  have e1:all=B2 P'++[Rn e]:=by
   show T.take n=_;rw[← h2,KO,F3,h5];rfl
  have e2:l=B2 (P'.take b):=by show B2 (S.take b)=_;rw[hbp]
  have e3:(B2 (P'.take b)).length≤(B2 P').length:=by
   unfold B2;rw[List.length_map,List.length_map];exact((List.take_sublist b P').filter _).length_le
  rw[e1,e2,List.length_append];simp only[List.length_cons,List.length_nil];omega
 have hall:all.length≤n∧all.length≤T.length:=by
  show(T.take n).length≤n∧(T.take n).length≤T.length;rw[List.length_take];omega
 refine⟨hlt,?_,?_,?_⟩
 ·show l=(T.take n).take l.length;rw[List.take_take,Nat.min_eq_left (by omega)];exact hl
 ·have h6:=hent l.length;rw[← hl]at h6;rw[h6];have:=hmin _ _ l.length hsp (Nat.le_refl _);rw[List.length_take]at this;omega
 ·have e1:all.take (l.length+1)=T.take (l.length+1):=by
   show(T.take n).take _=_;rw[List.take_take,Nat.min_eq_left (by omega)]
  rw[e1,hent];by_cases h6:b<(Dh (l.length+1) S).length
  ·exact h6
  ·exfalso;obtain⟨Q',q1,q2,_⟩:=hcut (l.length+1);rw[htd]at q2;have e2:S.take b=Dh (l.length+1) S++Q'.take (b-(Dh (l.length+1) S).length):=by
    conv=>lhs;rw[q1]
    rw[List.take_append,List.take_of_length_le (by omega)]
   have e3:l=T.take (l.length+1)++B2 (Q'.take (b-(Dh (l.length+1) S).length)):=by
    conv=>lhs;change B2 (S.take b)
    rw[e2,KO,q2]
   have:=congrArg List.length e3;rw[List.length_append,List.length_take]at this;omega
end
end Go.Eng.Tryz

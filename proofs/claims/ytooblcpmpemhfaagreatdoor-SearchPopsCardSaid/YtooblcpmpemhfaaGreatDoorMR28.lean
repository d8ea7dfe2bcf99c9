/- Searches, plainly: how many entries are popped; what is told. (and what stands behind it: texts laid together) -/
import Derived.Test.YtooblcpmpemhfaaGreatDoorMR27
import Derived.Test.YtooblcpmpemhfaaGreatDoorMR22
import Derived.Test.YtooblcpmpemhfaaGreatDoorMG4
import Derived.Test.YtooblcpmpemhfaaGreatDoorMR3
import Derived.Test.YtooblcpmpemhfaaGreatDoorMR4
import Derived.Test.YtooblcpmpemhfaaGreatDoorMR8
import Derived.Test.YtooblcpmpemhfaaGreatDoorMR15
import Derived.Test.YtooblcpmpemhfaaGreatDoorMR19
import Derived.Test.YtooblcpmpemhfaaGreatDoorMR20
import Derived.Test.YtooblcpmpemhfaaGreatDoorMR21
import Derived.Test.YtooblcpmpemhfaaGreatDoorMR12
set_option linter.unusedVariables false
set_option linter.unusedSimpArgs false
open Go Go.Eng Go.Proofs Go.RowKit
set_option maxHeartbeats 32000000
set_option maxRecDepth 100000
namespace Go.Eng.Tryz
def B2(S:List En):List Ht:=(S.filter (·.done)).map Rn
theorem KO(a b:List En):B2 (a++b)=B2 a++B2 b:=by simp[B2]
theorem F3(e:En)(S:List En):B2 (e::S)=if e.done=true then Rn e::B2 S else B2 S:=by
 unfold B2;cases h:e.done
 ·rw[List.filter_cons_of_neg (by simp[h])];simp
 ·rw[List.filter_cons_of_pos (by simp[h])];simp
def Dh:Nat→List En→List En
 |0,_=>[]
 |_+1,[]=>[]
 |n+1,e::S=>e::Dh (if e.done=true then n else n+1) S
theorem I2(n:Nat):Dh n []=[]:=by cases n<;>rfl
theorem Ox(S:List En):Dh 0 S=[]:=by cases S<;>rfl
theorem GJ:∀(S:List En) (n:Nat),∃Q,S=Dh n S++Q∧B2 (Dh n S)=(B2 S).take n∧(Dh n S=[]∨Q=[]∨∃P e,Dh n S=P++[e]∧e.done=true)
 | [],n=>⟨[],by rw[I2];rfl,by rw[I2];simp[B2],.inl (I2 n)⟩
 |e::S,0=>⟨e::S,rfl,by simp[Dh,B2],.inl rfl⟩
 |e::S,n+1=>by
  obtain⟨Q,h1,h2,h3⟩:=GJ S (if e.done=true then n else n+1);refine⟨Q,?_,?_,?_⟩
  ·simp only[Dh,List.cons_append];rw[← h1]
  ·simp only[Dh];rw[F3,F3,h2];cases hd:e.done
   ·simp
   ·simp
  ·simp only[Dh];rcases h3 with h3|h3|⟨P,x,h3,h4⟩
   ·rw[h3];cases hd:e.done
    ·rw[hd]at h3;simp only[Bool.false_eq_true,if_false]at h3;cases S with
     |nil=>right;left;simpa[I2]using h1.symm
     |cons y S=>simp[Dh]at h3
    ·exact .inr (.inr ⟨[],e,rfl,hd⟩)
   ·exact .inr (.inl h3)
   ·exact .inr (.inr ⟨e::P,x,by rw[h3];rfl,h4⟩)
theorem NF(n budget:Nat):∀(S:List En) (t:List Ht) (p:Nat),t.length≤n→p≤budget→(p+(Dh (n-t.length) S).length≤budget→Jh n budget S t p=(t++B2 (Dh (n-t.length) S),p+(Dh (n-t.length) S).length,0))∧(budget<p+(Dh (n-t.length) S).length→Jh n budget S t p=(t++B2 (S.take (budget-p)),budget,210))
 | [],t,p,h1,h2=>by
   simp only[Jh,I2,List.length_nil,Nat.add_zero];exact⟨fun _=>by simp[B2],fun h=>by omega⟩
 |e::S,t,p,h1,h2=>by
  by_cases hc:(t.length:Int)<n;rotate_left
  ·have:n-t.length=0:=by omega
   rw[this,Ox];simp only[Jh,if_neg hc,List.length_nil,Nat.add_zero];exact⟨fun _=>by simp[B2],fun h=>by omega⟩
  obtain⟨m,hm⟩:∃m,n-t.length=m+1:=⟨n-t.length-1,by omega⟩
  have hcut:Dh (m+1) (e::S)=e::Dh (if e.done=true then m else m+1) S:=rfl;rw[hm,hcut];simp only[Jh,if_pos hc,List.length_cons];by_cases hb:(p:Int)=budget
  ·have:p=budget:=by omega
   subst this;rw[if_pos rfl,Nat.sub_self];exact⟨fun h=>by omega,fun _=>by simp[B2]⟩
  rw[if_neg hb];obtain⟨k,hk⟩:∃k,budget-p=k+1:=⟨budget-p-1,by omega⟩
  have hk2:budget-(p+1)=k:=by omega
  rw[hk,List.take_succ_cons,F3,F3];cases hd:e.done
  ·simp only[Bool.false_eq_true,if_false];obtain⟨a1,a2⟩:=NF n budget S t (p+1) h1 (by omega);rw[hm]at a1 a2;rw[hk2]at a2;refine⟨fun h=>?_,fun h=>a2 (by omega)⟩;rw[a1 (by omega),Nat.add_assoc,Nat.add_comm 1]
  ·simp only[if_true];obtain⟨a1,a2⟩:=NF n budget S (t++[Rn e]) (p+1) (by simp;omega) (by omega);have hm2:n-(t++[Rn e]).length=m:=by simp;omega
   rw[hm2]at a1 a2;rw[hk2]at a2;refine⟨fun h=>?_,fun h=>?_⟩
   ·rw[a1 (by omega),Nat.add_assoc,Nat.add_comm 1];simp
   ·rw[a2 (by omega)];simp
theorem HX:∀{u w v:List Int},AK u w=true→Ae u v≤0→Ae v w≤0→AK u v=true
 | [],w,v,_,_,_=>FV v
 |a::u,w,v,h,h1,h2=>by
  obtain⟨r,rfl⟩:=Af.1 h;cases v with
  |nil=>simp[Ae]at h1
  |cons b v =>
   simp only[List.cons_append,Ae]at h1 h2;have hab:a=b:=by
    by_cases h3:a<b
    ·rw[if_neg (by omega),if_pos h3]at h2;omega
    ·rw[if_neg h3]at h1;by_cases h4:b<a
     ·rw[if_pos h4]at h1;omega
     ·omega
   subst hab;rw[if_neg (by omega),if_neg (by omega)]at h1 h2;obtain⟨s,rfl⟩:=Af.1 (HX (Af.2 ⟨r,rfl⟩) h1 h2);exact Af.2 ⟨s,rfl⟩
section
variable {g:List Int→Int} {W:List (List Int)} {most:Int}
theorem GV{P Q:List En}(hS:BL g W most=P++Q):(∀a∈P,∀b∈Q,AE a b=true)∧GF P:=by
 have hs:=Ig g W most;rw[hS]at hs;unfold GF at hs;rw[List.pairwise_append]at hs;exact⟨fun a ha b hb=>hs.2.2 a ha b hb,hs.1⟩
theorem ZM(hW:BQ W){P Q:List En}(hS:BL g W most=P++Q)(hP:P=[]∨Q=[]∨∃P' e,P=P'++[e]∧e.done=true){x:En}(hx:x∈P)(hd:x.done=false):∃w∈W,Sd g w∈P∧AK x.word w=true:=by
 have hxS:x∈BL g W most:=by rw[hS];exact List.mem_append_left _ hx
 obtain⟨s1,s2⟩:=GV hS;obtain⟨hk,w0,hw0,h4|⟨u,hu,h4⟩⟩:=C9.1 hxS
 ·rw[h4]at hd;cases hd
 have hxu:x.word=u:=by rw[h4];rfl
 have hxc:x.cost=Dg g W u:=by rw[h4];rfl
 have hkk:=of_decide_eq_true hk;obtain⟨w,hw1,hw2,hw3,hmin⟩:∃w∈W,AK u w=true∧g w=Dg g W u∧∀v∈W,AK u v=true→g v=Dg g W u→Ae w v≤0:=by
  have hne:(W.filter fun v=>AK u v&&decide (g v=Dg g W u))≠[]:=by
   rcases(DL g W u).2.2 with h5|⟨w,h5,h6,h7⟩
   ·rw[hxc,h5]at hkk;omega
   ·intro h8;have:w∈W.filter fun v=>AK u v&&decide (g v=Dg g W u):=List.mem_filter.2 ⟨h5,by rw[h6,decide_eq_true h7.symm];rfl⟩;rw[h8]at this;cases this
  cases hf:W.filter fun v=>AK u v&&decide (g v=Dg g W u)with
  |nil=>exact absurd hf hne
  |cons w F =>
   have hm:∀v,v∈w::F↔v∈W∧AK u v=true∧g v=Dg g W u:=fun v=>by
    rw[← hf,List.mem_filter,Bool.and_eq_true,decide_eq_true_eq]
   have hsF:BQ (w::F):=by
    rw[← hf];unfold BQ at *;exact hW.filter _
   unfold BQ at hsF;rw[List.pairwise_cons]at hsF;obtain⟨a1,a2,a3⟩:=(hm w).1 (by simp);refine⟨w,a1,a2,a3,fun v b1 b2 b3=>?_⟩;rcases List.mem_cons.1 ((hm v).2 ⟨b1,b2,b3⟩)with e|e
   ·rw[e,FS];decide
   ·exact Int.le_of_lt (hsF.1 v e)
 have eP:Sd g w∈BL g W most:=C9.2 ⟨K2 (e:=x) (by rw[hxc,← hw3];exact Int.le_refl _) hk,w,hw1,.inl rfl⟩;rw[hxu];rw[hS]at eP;rcases List.mem_append.1 eP with h5|h5
 ·exact⟨w,hw1,h5,hw2⟩
 ·exfalso;rcases hP with hP|hP|⟨P',e,hP,he⟩
  ·rw[hP]at hx;cases hx
  ·rw[hP]at h5;cases h5
  ·have heP:e∈P:=by rw[hP];simp
   have hed:=s1 e heP _ h5;have hxe:AE x e=true:=by
    rw[hP]at hx s2;unfold GF at s2;rw[List.pairwise_append]at s2;rcases List.mem_append.1 hx with h6|h6
    ·exact s2.2.2 x h6 e (by simp)
    ·rw[List.mem_singleton.1 h6,he]at hd;cases hd
   have heS:e∈BL g W most:=by rw[hS];exact List.mem_append_left _ heP
   obtain⟨_,v,hv,h7|⟨u',_,h7⟩⟩:=C9.1 heS;rotate_left
   ·rw[h7]at he;cases he
   rw[DN]at hxe hed;have hec:e.cost=g v:=by rw[h7];rfl
   have hew:e.word=v:=by rw[h7];rfl
   have hedn:e.done=true:=he;have hdc:(Sd g w).cost=g w:=rfl;have hdw:(Sd g w).word=w:=rfl;rw[hec,hew,hdc,hdw]at hed;rw[hec,hew,hxc,hxu]at hxe;have hcost:g v=Dg g W u:=by
    rcases hxe with q|⟨q,_⟩<;>rcases hed with r|⟨r,_⟩<;>omega
   have q1:Ae u v≤0:=by
    rcases hxe with q|⟨_,q|⟨q,_⟩⟩<;>omega
   have q2:Ae v w<0:=by
    rcases hed with q|⟨_,q|⟨_,q,_⟩⟩
    ·omega
    ·exact q
    ·rw[hedn]at q;cases q
   have q3:=hmin v hv (HX hw2 q1 (Int.le_of_lt q2)) hcost;have:=AD v w;omega
theorem cW{P Q:List En}(hS:BL g W most=P++Q){w:List Int}(hw:w∈W)(hP:Sd g w∈P){u:List Int}(hu:AK u w=true):Q8 g W u∈P:=by
 obtain⟨s1,s2⟩:=GV hS;have hwS:Sd g w∈BL g W most:=by rw[hS];exact List.mem_append_left _ hP
 have hkp:=(C9.1 hwS).1;have hin:Q8 g W u∈BL g W most:=C9.2 ⟨K2 (K6 hwS (a:=u) hu) hkp,w,hw,.inr ⟨u,hu,rfl⟩⟩;rw[hS]at hin;rcases List.mem_append.1 hin with h|h
 ·exact h
 ·have h1:=s1 _ hP _ h;rw[Pg hwS (a:=u) hu]at h1;cases h1
theorem Zr{P:List En}(h:GF P):P.Nodup:=by
 unfold GF at h;exact h.imp fun hab e=>by subst e;rw[Di]at hab;cases hab
def JQ(P:List En):List (List Int):=(P.filter fun e => !e.done).map (·.word)
theorem TE{P Q:List En}(hS:BL g W most=P++Q):(JQ P).Nodup:=by
 obtain⟨_,s2⟩:=GV hS;unfold JQ;have hnd:(P.filter fun e => !e.done).Nodup:=List.Pairwise.filter _ (Zr s2);have hall:∀x∈P.filter fun e => !e.done,x=Q8 g W x.word:=fun x hx=>by
  obtain⟨h1,h2⟩:=List.mem_filter.1 hx;have:x∈BL g W most:=by rw[hS];exact List.mem_append_left _ h1
  obtain⟨_,w,_,h3|⟨u,_,h3⟩⟩:=C9.1 this
  ·rw[h3]at h2;cases h2
  ·rw[h3];rfl
 generalize P.filter (fun e => !e.done)=F at hnd hall;induction F with
 |nil=>simp
 |cons a F ih =>
  rw[List.nodup_cons]at hnd;rw[List.map_cons,List.nodup_cons];refine⟨fun h=>?_,ih hnd.2 fun x hx=>hall x (by simp[hx])⟩;obtain⟨b,hb,hab⟩:=List.mem_map.1 h;have e1:=hall a (by simp);have e2:=hall b (by simp[hb]);rw[hab,← e1]at e2;rw[e2]at hb;exact hnd.1 hb
theorem ON(P:List En):P.length=(B2 P).length+(JQ P).length:=by
 unfold B2 JQ;rw[List.length_map,List.length_map];induction P with
 |nil=>rfl
 |cons a P ih =>
  cases h:a.done
  ·rw[List.filter_cons_of_neg (by simp[h]),List.filter_cons_of_pos (by simp[h])];simp only[List.length_cons];omega
  ·rw[List.filter_cons_of_pos (by simp[h]),List.filter_cons_of_neg (by simp[h])];simp only[List.length_cons];omega
theorem FQ{P Q:List En}(hS:BL g W most=P++Q)(h:Ht):h∈B2 P↔∃w∈W,Sd g w∈P∧h=⟨w,g w⟩:=by
 unfold B2;rw[List.mem_map];constructor
 ·rintro⟨e,he,rfl⟩;obtain⟨h1,h2⟩:=List.mem_filter.1 he;have:e∈BL g W most:=by rw[hS];exact List.mem_append_left _ h1
  obtain⟨_,w,hw,h3|⟨u,_,h3⟩⟩:=C9.1 this
  ·exact⟨w,hw,by rw[← h3];exact h1,by rw[h3];rfl⟩
  ·rw[h3]at h2;cases h2
 ·rintro⟨w,hw,h1,rfl⟩;exact⟨Sd g w,List.mem_filter.2 ⟨h1,rfl⟩,rfl⟩
theorem QI(hW:BQ W){P Q:List En}(hS:BL g W most=P++Q)(hP:P=[]∨Q=[]∨∃P' e,P=P'++[e]∧e.done=true)(u:List Int):u∈JQ P↔∃h∈B2 P,AK u h.word=true:=by
 unfold JQ;rw[List.mem_map];constructor
 ·rintro⟨x,hx,rfl⟩;obtain⟨h1,h2⟩:=List.mem_filter.1 hx;obtain⟨w,hw,h3,h4⟩:=ZM hW hS hP h1 (by simpa using h2);exact⟨⟨w,g w⟩,(FQ hS _).2 ⟨w,hw,h3,rfl⟩,h4⟩
 ·rintro⟨h,hh,hb⟩;obtain⟨w,hw,h3,rfl⟩:=(FQ hS h).1 hh;exact⟨Q8 g W u,List.mem_filter.2 ⟨cW hS hw h3 hb,rfl⟩,rfl⟩
theorem aJ(hW:BQ W)(hw20:∀w∈W,w.length≤20){P Q:List En}(hS:BL g W most=P++Q)(hP:P=[]∨Q=[]∨∃P' e,P=P'++[e]∧e.done=true):P.length≤22 * (B2 P).length:=by
 have h1:=ON P;have h2:(JQ P).length≤((B2 P).flatMap fun h=>(List.range (h.word.length+1)).map fun i=>h.word.take i).length:=by
  refine RD (TE hS) fun u hu=>?_;obtain⟨h,hh,hb⟩:=(QI hW hS hP u).1 hu;refine List.mem_flatMap.2 ⟨h,hh,List.mem_map.2 ⟨u.length,?_,?_⟩⟩
  ·obtain⟨r,hr⟩:=Af.1 hb;rw[hr];simp;omega
  ·obtain⟨r,hr⟩:=Af.1 hb;rw[hr,List.take_left]
 have h3:∀(D:List Ht),(∀h∈D,h.word.length≤20)→(D.flatMap fun h=>(List.range (h.word.length+1)).map fun i=>h.word.take i).length≤21 * D.length:=by
  intro D;induction D with
  |nil=>intro _;simp
  |cons h D ih =>
   intro hD;have a1:=hD h (by simp);have a2:=ih fun x hx=>hD x (by simp[hx]);rw[List.flatMap_cons,List.length_append,List.length_map,List.length_range,List.length_cons];omega
 have h4:=h3 (B2 P) fun h hh=>by
  obtain⟨w,hw,_,rfl⟩:=(FQ hS h).1 hh;exact hw20 w hw
 omega
end
def ZQ(a b:Ht):Prop:=a.cost<b.cost∨a.cost=b.cost∧Ae a.word b.word<0
def Mt(l:List Ht):Prop:=l.Pairwise ZQ
theorem Xu{a b:List Ht}(ha:Mt a)(hb:Mt b)(h:∀x,x∈a↔x∈b):a=b:=by
 refine Ik (R:=ZQ) (fun x hx=>?_) (fun x y h1 h2=>?_) ha hb h
 ·rcases hx with hx|⟨_,hx⟩
  ·omega
  ·rw[FS]at hx;omega
 ·have:=AD x.word y.word;rcases h1 with h1|⟨h1,h1'⟩<;>rcases h2 with h2|⟨h2,h2'⟩<;>omega
theorem Oz{S:List En}(h:GF S):Mt (B2 S):=by
 unfold B2 Mt;rw[List.pairwise_map];unfold GF at h;refine(h.filter _).imp_of_mem fun{a b} ha hb hab=>?_;have hda:=(List.mem_filter.1 ha).2;rw[DN]at hab;rcases hab with q|⟨q,r|⟨_,r,_⟩⟩
 ·exact .inl q
 ·exact .inr ⟨q,r⟩
 ·rw[r]at hda;cases hda
def Bp(g:List Int→Int)(W:List (List Int))(most:Int):List Ht:=B2 (BL g W most)
theorem H4(g:List Int→Int)(W:List (List Int))(most:Int):Mt (Bp g W most):=Oz (Ig g W most)
theorem Fe{g:List Int→Int}{W:List (List Int)}{most:Int}{h:Ht}:h∈Bp g W most↔∃w∈W,h=⟨w,g w⟩∧g w≤most∧g w<18446744073709551615:=by
 unfold Bp;rw[FQ (Q:=[]) (List.append_nil _).symm];constructor
 ·rintro⟨w,hw,h1,h2⟩;have:=of_decide_eq_true (C9.1 h1).1;exact⟨w,hw,h2,this⟩
 ·rintro⟨w,hw,h1,h2⟩;exact⟨w,hw,C9.2 ⟨decide_eq_true h2,w,hw,.inl rfl⟩,h1⟩
theorem Us{l:List Ht}(h:Mt l):l.Nodup:=by
 unfold Mt at h;refine h.imp fun hab e=>?_;subst e;rcases hab with q|⟨_,q⟩
 ·omega
 ·rw[FS]at q;omega
theorem VO(g:List Int→Int)(W:List (List Int))(most:Int):(Bp g W most).length≤W.length:=by
 have:=RD (Us (H4 g W most)) (m:=W.map fun w=>⟨w,g w⟩) fun x hx=>by
  obtain⟨w,hw,h1,_⟩:=Fe.1 hx;exact List.mem_map.2 ⟨w,hw,h1.symm⟩
 simpa using this
theorem R7{g:List Int→Int}{W:List (List Int)}{most:Int}{n budget:Nat}(hW:BQ W)(hW0:∀w∈W,∀z∈w,0≤z)(hn:W.length≤300)(hw:∀w∈W,w.length≤20) :
 N3 g W n most budget=if(Dh n (BL g W most)).length≤budget then((Bp g W most).take n,(Dh n (BL g W most)).length,0)else(B2 ((BL g W most).take budget),budget,210):=by
 obtain⟨a1,a2⟩:=NF n budget (BL g W most) [] 0 (by simp) (Nat.zero_le _);obtain⟨Q,h1,h2,h3⟩:=GJ (BL g W most) n;simp only[List.length_nil,Nat.sub_zero,Nat.zero_add,List.nil_append]at a1 a2;rw[V0 hW hW0 hn hw];split
 ·rename_i h;rw[a1 h,h2];rfl
 ·rename_i h;exact a2 (by omega)
theorem Yy{g:List Int→Int}{W:List (List Int)}{most:Int}{n budget:Nat}(hW:BQ W)(hW0:∀w∈W,∀z∈w,0≤z)(hn:W.length≤300)(hw:∀w∈W,w.length≤20)(hb:22 * n≤budget) :
 N3 g W n most budget=((Bp g W most).take n,(Dh n (BL g W most)).length,0)∧(Dh n (BL g W most)).length≤22 * ((Bp g W most).take n).length:=by
 obtain⟨Q,h1,h2,h3⟩:=GJ (BL g W most) n;have h4:=aJ hW hw h1 h3;rw[h2]at h4;change _≤22 * ((Bp g W most).take n).length at h4;refine⟨?_,h4⟩;rw[R7 hW hW0 hn hw,if_pos];have:((Bp g W most).take n).length≤n:=by rw[List.length_take];omega
 omega
attribute [local go_sem] Aq As Bb Bh AP AO Az Ax Ch Cg Gj Gi Bq
theorem K1{l:List Ht}{k:Nat}:(ED l).take k=ED (l.take k):=by simp[ED,List.map_take]
theorem K0{l:List Ht}{k:Nat}:(ED l).drop k=ED (l.drop k):=by simp[ED,List.map_drop]
theorem YD{a b:List Ht}:ED a++ED b=ED (a++b):=by simp[ED]
attribute [local go_sem] K1 K0
theorem N2{least:Int}:∀{l:List Ht},Mt l→∃m,m≤l.length∧l.filter (fun h=>decide (h.cost≤least))=l.take m∧∀i,m≤i→i<l.length→¬(l[i]!).cost≤least
 | [],_=>⟨0,by simp,by simp,fun i _ h=>by simp at h⟩
 |a::l,hs=>by
  unfold Mt at hs;rw[List.pairwise_cons]at hs;by_cases ha:a.cost≤least
  ·obtain⟨m,h1,h2,h3⟩:=N2 (l:=l) hs.2;refine⟨m+1,by simp;omega,?_,fun i hi hl=>?_⟩
   ·rw[List.filter_cons_of_pos (by simpa using ha),h2,List.take_succ_cons]
   ·cases i with
    |zero=>omega
    |succ i =>
     simp only[List.length_cons]at hl;have:=h3 i (by omega) (by omega);simpa using this
  ·have hall:∀x∈l,¬x.cost≤least:=fun x hx=>by
    rcases hs.1 x hx with h|⟨h,_⟩<;>omega
   refine⟨0,by omega,?_,fun i _ hl=>?_⟩
   ·rw[List.filter_cons_of_neg (by simpa using ha),List.take_zero];exact List.filter_eq_nil_iff.2 fun x hx=>by simpa using hall x hx
   ·cases i with
    |zero=>simpa using ha
    |succ i =>
     simp only[List.length_cons]at hl;have:(a::l)[i+1]! =l[i]! :=by simp
     rw[this,getElem!_pos l i (by omega)];exact hall _ (List.getElem_mem _)
theorem S8{g:List Int→Int}{W:List (List Int)}{most least:Int}(h:least≤most):Bp g W least=(Bp g W most).filter fun x=>decide (x.cost≤least):=by
 refine Xu (H4 g W least) ((H4 g W most).filter _) fun x=>?_;rw[List.mem_filter,Fe,Fe];constructor
 ·rintro⟨w,hw,rfl,h1,h2⟩;exact⟨⟨w,hw,rfl,by omega,h2⟩,by simpa using h1⟩
 ·rintro⟨⟨w,hw,rfl,h1,h2⟩,h3⟩;exact⟨w,hw,rfl,by simpa using h3,h2⟩
theorem ST{g:List Int→Int}{W:List (List Int)}{most least:Int}{n k:Nat}(h:least≤most)(hk:k≤n) :
 ((Bp g W least).take k).length≤((Bp g W most).take n).length∧((Bp g W most).take n).take ((Bp g W least).take k).length=(Bp g W least).take k∧(∀x∈(Bp g W least).take k,x.cost≤least) ∧
 (((Bp g W least).take k).length=k∨((Bp g W least).take k).length=((Bp g W most).take n).length∨least<(((Bp g W most).take n)[((Bp g W least).take k).length]!).cost):=by
 obtain⟨m,h1,h2,h3⟩:=N2 (least:=least) (H4 g W most);rw[← S8 h]at h2;have hall:∀x∈Bp g W least,x.cost≤least:=fun x hx=>by
  obtain⟨w,_,rfl,h4,_⟩:=Fe.1 hx;exact h4
 generalize Bp g W most=T at *;rw[h2]at hall ⊢;rw[List.take_take,List.length_take,List.length_take];refine⟨by omega,?_,fun x hx=>hall x ?_,?_⟩;rotate_left
 ·rw[← List.take_take]at hx;exact List.mem_of_mem_take hx
 rotate_left
 ·rw[List.take_take];congr 1;omega
 ·by_cases h4:min (min k m) T.length=k
  ·exact .inl h4
  ·by_cases h5:min (min k m) T.length=min n T.length
   ·exact .inr (.inl h5)
   ·right;right;have e:min (min k m) T.length=m:=by omega
    rw[e,getElem!_pos (T.take n) m (by rw[List.length_take];omega),List.getElem_take,← getElem!_pos T m (by omega)];have:=h3 m (Nat.le_refl _) (by omega);omega
theorem I7{l:List Ak}{c:Co}{q:List Int}(hck:Lp l c q=0){n budget:Nat}(hn:n≤300)(hb:22 * n≤budget)(most:Int):Jc l c q n most budget=((Bp (D2 c q) (A7 l []) most).take n,(Dh n (BL (D2 c q) (A7 l []) most)).length,0)∧(Dh n (BL (D2 c q) (A7 l []) most)).length≤22 * ((Bp (D2 c q) (A7 l []) most).take n).length:=by
 obtain⟨hm,hd,hka,_⟩:=EL hck;obtain⟨i2,_⟩:=M9 (I1.1 hck).1;obtain⟨h1,h2⟩:=Yy (g:=D2 c q) (most:=most) (Em hka []) (fun w hw=>(Gc hka hw).2.2) i2 (fun w hw=>CR hka (n:=20) hd hw) hb;refine⟨?_,h2⟩;unfold Jc;rw[if_neg (by simp[hck]),if_neg (by omega)];exact h1
theorem Qq{l:List Ak}{c:Co}{q:List Int}(hc:c.ok)(hck:Lp l c q=0)(most:Int):(∀h∈Bp (D2 c q) (A7 l []) most,h.word.length≤1000000∧U h.cost)∧(Bp (D2 c q) (A7 l []) most).length≤300:=by
 obtain⟨hm,hd,hka,_⟩:=EL hck;obtain⟨i2,_⟩:=M9 (I1.1 hck).1;refine⟨fun h hh=>?_,Nat.le_trans (VO _ _ _) i2⟩;obtain⟨w,hw,rfl,h1,h2⟩:=Fe.1 hh;have:=CR hka (n:=20) hd hw;exact⟨by simp only;omega,df hc q w⟩
theorem d9{l:List Ak}{c:Co}{q:List Int}{n k most least:Int}(hl:Bt l)(hc:c.ok)(hq:q.length≤9223372036854775807)(hn:0≤n∧n≤65535)(hk:0≤k∧k≤65535):A3 Tryz.prog 7 [im l c,.sl 1 (is q),.int .u16 n,.int .u16 k,.int .u64 most,.int .u64 least] (.bool true):=by
 have aw:=Gm;have f1:=Qf (q:=q) hl hc hq;have us:=Mj (q:=q) hl hc;cases g1:PO l c q
 ·rw[g1]at f1;unfold im at *;refine A6 135 Tryz.func7 It fun X_ w_=>?_;have c0_:=aw;have c1_:=f1;refine Ao ?_;try exact trivial
 rw[g1]at f1;by_cases hn3:300<n
 ·unfold im at *;refine A6 135 Tryz.func7 It fun X_ w_=>?_;have c0_:=aw;have c1_:=f1;refine Ao ?_;try exact trivial
 by_cases hkn:n<k
 ·unfold im at *;refine A6 135 Tryz.func7 It fun X_ w_=>?_;have c0_:=aw;have c1_:=f1;refine Ao ?_;try exact trivial
 by_cases hml:most<least
 ·unfold im at *;refine A6 135 Tryz.func7 It fun X_ w_=>?_;have c0_:=aw;have c1_:=f1;refine Ao ?_;try exact trivial
 by_cases hck:Lp l c q=0;rotate_left
 ·rw[decide_eq_false hck]at us;unfold im at *;refine A6 135 Tryz.func7 It fun X_ w_=>?_;have c0_:=aw;have c1_:=f1;have c2_:=us;refine Ao ?_;try exact trivial
 rw[decide_eq_true hck]at us;obtain⟨N,rfl⟩:=Int.eq_ofNat_of_zero_le hn.1;obtain⟨K,rfl⟩:=Int.eq_ofNat_of_zero_le hk.1;have fa:=Jf (n:=(N:Int)) (most:=most) (budget:=6600) hl hc hq;have fb:=Jf (n:=(K:Int)) (most:=least) (budget:=6600) hl hc hq;have ea:=(I7 hck (n:=N) (budget:=6600) (by omega) (by omega) most).1;have eb:=(I7 hck (n:=K) (budget:=6600) (by omega) (by omega) least).1;rw[show((6600:Nat):Int)=6600 from rfl]at ea eb;rw[ea]at fa;rw[eb]at fb;obtain⟨m1,m2,m3,m4⟩:=ST (g:=D2 c q) (W:=A7 l []) (most:=most) (least:=least) (n:=N) (k:=K) (by omega) (by omega);obtain⟨t1,t2⟩:=Qq (q:=q) hc hck least;have hBk:((Bp (D2 c q) (A7 l []) least).take K).length≤K:=by rw[List.length_take];omega
 have sm:=Ul (a:=(Bp (D2 c q) (A7 l []) least).take K) (b:=(Bp (D2 c q) (A7 l []) least).take K) (fun h hh=>(t1 h (List.mem_of_mem_take hh)).1) (fun h hh=>(t1 h (List.mem_of_mem_take hh)).1) (by omega) (by omega);rw[decide_eq_true rfl]at sm;generalize(Bp (D2 c q) (A7 l []) least).take K=B at *;generalize(Bp (D2 c q) (A7 l []) most).take N=A at *;generalize(Dh N (BL (D2 c q) (A7 l []) most)).length=p1 at *;generalize(Dh K (BL (D2 c q) (A7 l []) least)).length=p2 at *;unfold Lx at fa fb;simp only at fa fb;unfold im at *;refine A6 135 Tryz.func7 It fun X_ w_=>?_;have c0_:=aw;have c1_:=f1;have c2_:=us;have c3_:=fa;have c4_:=fb;refine Ao ?_;try exact trivial
 refine A8 (fun i:Nat=>i≤B.length) (fun i=>[(3,.d (.int .u16 K)),(5,.d (.int .u64 least)),(13,.d (.bool true)),(14,.d (.sl 2 (ED A))),(17,.d (.sl 2 (ED B))),(20,.d (.int .i64 i))]) (fun _=>[]) 20000 (fun i=>B.length-i) [3,5,13,14,17,20] [] 0 (Nat.zero_le _) rfl rfl (Nat.le_of_ble_eq_true rfl) (fun _ _=>rfl) (fun _ _=>rfl) fun i hi=>?_;by_cases hi2:i<B.length
 ·have hco:=m3 (B[i]!) (by rw[getElem!_pos B i hi2];exact List.getElem_mem _);refine Ao ?_;try exact trivial
  refine⟨i+1,by omega,?_,rfl,by omega⟩;exact Ei
 ·have hie:i=B.length:=by omega
  subst hie;by_cases e1:B.length=K
  ·have c0_:=sm;refine Au @m2 ?_;try exact trivial
  ·by_cases e2:B.length=A.length
   ·rw[← e2]at m1;have c0_:=sm;refine Au @m2 ?_;try exact trivial
   ·have e3:least<(A[B.length]!).cost:=by
     rcases m4 with h|h|h
     ·exact absurd h e1
     ·exact absurd h e2
     ·exact h
    have e4:B.length<A.length:=by omega
    have c0_:=sm;refine Au @m2 ?_;try exact trivial
end Go.Eng.Tryz
namespace Go.Eng.Tryz
theorem ag{n:Nat}{ds:List D}(h:J8 Tryz.prog n 57 ds):∃l,KM Tryz.prog 57 ds= .sl 1 (is l)∧l.length≤9223372036854775807:=by
 obtain⟨m,xs,rfl,h1,h2⟩:=Kr Tryz.underlying57 h;obtain⟨l,e1,e2,_⟩:=Kq (f:=fun z=>D.int .i64 z) (ok:=fun _=>True) (fun x hx=>by
  obtain⟨z,rfl,_⟩:=GE Tryz.underlying3 hx;exact⟨z,Px Tryz.underlying3,trivial⟩) xs h2
 rw[e1,Ho Tryz.underlying57];exact⟨l,rfl,by omega⟩
theorem e9{n:Nat}{ds:List D}(h:J8 Tryz.prog n 77 ds):∃r:Ru,KM Tryz.prog 77 ds=ru r∧r.ok:=by
 obtain⟨m,h⟩:=H6 Tryz.underlying77 h;obtain⟨_,_,rfl,h1,_,_,rfl,h2,_,_,rfl,h3,rfl⟩:=h;obtain⟨c,rfl,hc⟩:=GE Tryz.underlying33 h3;obtain⟨l,e1,o1⟩:=ag h1;obtain⟨k,xs,rfl,_,_⟩:=Kr Tryz.underlying57 h1;rw[Ho Tryz.underlying57]at e1;obtain⟨l',e2,o2⟩:=ag h2;obtain⟨k',xs',rfl,_,_⟩:=Kr Tryz.underlying57 h2;rw[Ho Tryz.underlying57]at e2;rw[Hp Tryz.underlying77,e1,e2];exact⟨⟨l,l',c⟩,rfl,o1,o2,Lk hc⟩
theorem e8{n:Nat}{ds:List D}(h:J8 Tryz.prog n 34 ds):∃l,KM Tryz.prog 34 ds= .sl 3 (rs l)∧(∀r∈l,r.ok)∧l.length≤9223372036854775807:=by
 obtain⟨m,xs,rfl,h1,h2⟩:=Kr Tryz.underlying34 h;obtain⟨l,e1,e2,h3⟩:=Kq (f:=ru) (ok:=Ru.ok) (fun x hx=>e9 hx) xs h2;rw[e1,Ho Tryz.underlying34];exact⟨l,rfl,h3,by omega⟩
theorem dZ{n:Nat}{ds:List D}(h:J8 Tryz.prog n 86 ds):∃a:Ar,KM Tryz.prog 86 ds=ar a∧True:=by
 obtain⟨m,h⟩:=H6 Tryz.underlying86 h;obtain⟨_,_,rfl,h1,_,_,rfl,h2,rfl⟩:=h;obtain⟨s,rfl,_⟩:=GE Tryz.underlying3 h1;obtain⟨t,rfl,_⟩:=GE Tryz.underlying3 h2;rw[Hp Tryz.underlying86];exact⟨⟨s,t⟩,rfl,trivial⟩
theorem cv{n:Nat}{ds:List D}(h:J8 Tryz.prog n 82 ds):∃l,KM Tryz.prog 82 ds= .sl 2 (IZ l)∧l.length≤9223372036854775807:=by
 obtain⟨m,xs,rfl,h1,h2⟩:=Kr Tryz.underlying82 h;obtain⟨l,e1,e2,h3⟩:=Kq (f:=ar) (ok:=fun _=>True) (fun x hx=>dZ hx) xs h2;rw[e1,Ho Tryz.underlying82];exact⟨l,rfl,by omega⟩
theorem cx{n:Nat}{ds:List D}(h:J8 Tryz.prog n 84 ds):∃s:Ak,KM Tryz.prog 84 ds=Tg s∧s.arcs.length≤9223372036854775807:=by
 obtain⟨m,h⟩:=H6 Tryz.underlying84 h;obtain⟨_,_,rfl,h1,_,_,rfl,h2,rfl⟩:=h;obtain⟨b,rfl⟩:=Zw Tryz.underlying4 h1;obtain⟨l,e1,o1⟩:=cv h2;obtain⟨k,xs,rfl,_,_⟩:=Kr Tryz.underlying82 h2;rw[Ho Tryz.underlying82]at e1;rw[Hp Tryz.underlying84,e1];exact⟨⟨b,l⟩,rfl,o1⟩
theorem cz{n:Nat}{ds:List D}(h:J8 Tryz.prog n 23 ds):∃l,KM Tryz.prog 23 ds= .sl 2 (AQ l)∧Bt l:=by
 obtain⟨m,xs,rfl,h1,h2⟩:=Kr Tryz.underlying23 h;obtain⟨l,e1,e2,h3⟩:=Kq (f:=Tg) (ok:=fun s=>s.arcs.length≤9223372036854775807) (fun x hx=>cx hx) xs h2;rw[e1,Ho Tryz.underlying23];exact⟨l,rfl,by omega,h3⟩
theorem fE{n:Nat}{ds:List D}(h:J8 Tryz.prog n 38 ds):∃x:List Ak×Co,KM Tryz.prog 38 ds=im x.1 x.2∧Bt x.1∧x.2.ok:=by
 obtain⟨m,hi⟩:=H6 Tryz.underlying38 h;obtain⟨_,_,rfl,h0,_,_,rfl,hc,rfl⟩:=hi;obtain⟨l,e0,o0⟩:=cz h0;obtain⟨k0,xs0,rfl,_,_⟩:=Kr Tryz.underlying23 h0;rw[Ho Tryz.underlying23]at e0;obtain⟨m2,hd⟩:=H6 Tryz.underlying36 hc;obtain⟨_,_,rfl,h1,_,_,rfl,h2,_,_,rfl,h3,_,_,rfl,h4,_,_,rfl,h5,rfl⟩:=hd;obtain⟨c1,rfl,hc1⟩:=GE Tryz.underlying33 h1;obtain⟨c2,rfl,hc2⟩:=GE Tryz.underlying33 h2;obtain⟨c3,rfl,hc3⟩:=GE Tryz.underlying33 h3;obtain⟨c4,rfl,hc4⟩:=GE Tryz.underlying33 h4;obtain⟨r,e1,o1,o2⟩:=e8 h5;obtain⟨k,xs,rfl,_,_⟩:=Kr Tryz.underlying34 h5;rw[Ho Tryz.underlying34]at e1;rw[Hp Tryz.underlying38,e0,e1];exact⟨(l,⟨c1,c2,c3,c4,r⟩),rfl,o0,Lk hc1,Lk hc2,Lk hc3,Lk hc4,o1,o2⟩
theorem cC{n:Int}(h:(Lit.int .u16 n).wf=true):0≤n∧n≤65535:=by
 simp only[Lit.wf,Bool.and_eq_true,decide_eq_true_eq]at h;exact h
theorem fr{n:Nat}{ds:List D}(h:J8 Tryz.prog n 65 ds):∃z:Int,KM Tryz.prog 65 ds= .int .u16 z∧(0≤z∧z≤65535):=by
 obtain⟨z,rfl,hz⟩:=GE Tryz.underlying65 h;exact⟨z,Px Tryz.underlying65,cC hz⟩
theorem ft{n:Nat}{ds:List D}(h:J8 Tryz.prog n 33 ds):∃z:Int,KM Tryz.prog 33 ds= .int .u64 z∧U z:=by
 obtain⟨z,rfl,hz⟩:=GE Tryz.underlying33 h;exact⟨z,Px Tryz.underlying33,Lk hz⟩
attribute [local go_sem] Aq As Bb Bh AP AO Az Ax Ch Cg Gj Gi Bq K1 K0 Ro YD
end Go.Eng.Tryz
namespace Go.Eng.Tryz
attribute [local go_sem] Aq As Bb Bh Da Hi FW Hh AP AO Az Ax
end Go.Eng.Tryz
namespace Go.Eng.Tryz
open Go.Maps (Keyed)
attribute [local go_sem] Aq As Bb Bh Da AP AO Az Ax
def fx(n:Nat)(s:Ak):Prop:=(∀a∈s.arcs,0≤a.sign∧a.sign≤1114111∧0≤a.to∧a.to<n)∧s.arcs.length≤10000
theorem fx.ok{n:Nat}{s:Ak}(hn:n≤6001)(h:fx n s):XQ s:=by
 refine⟨fun a ha=>⟨(h.1 a ha).1,(h.1 a ha).2.2.1⟩,?_⟩;have hnl:=GT s.final s.arcs (fun a ha=>by have:=h.1 a ha;omega);have e1:(Gx s).size=(HQ s).length:=by simp[Gx,EK,ByteArray.size]
 have:=h.2;rw[e1];simp only[maxLen];unfold HQ;omega
end Go.Eng.Tryz
namespace Go.Eng.Tryz
attribute [local go_sem] Aq As Bb Bh AP AO Az Ax
def EM:List Int→List Int→Nat
 |x::a,y::b=>if x=y then EM a b+1 else 0
 |_,_=>0
theorem Hl:∀(a b:List Int),EM a b≤a.length∧EM a b≤b.length
 | [],b=>by simp[EM]
 |x::a,[]=>by simp[EM]
 |x::a,y::b=>by
  have:=Hl a b;simp only[EM,List.length_cons];split<;>omega
theorem Pu:∀(a b:List Int) (k:Nat),(∀j,j<k→a[j]! =b[j]!)→k≤a.length→k≤b.length→(k=a.length∨k=b.length∨a[k]!≠b[k]!)→EM a b=k
 | [],b,k,h,h1,h2,h3=>by simp at h1;subst h1;simp[EM]
 |x::a,[],k,h,h1,h2,h3=>by simp at h2;subst h2;simp[EM]
 |x::a,y::b,k,h,h1,h2,h3=>by
  simp only[EM];cases k with
  |zero =>
   rcases h3 with h3|h3|h3
   ·simp at h3
   ·simp at h3
   ·rw[if_neg (by simpa using h3)]
  |succ k =>
   have e:=h 0 (by omega);rw[if_pos (by simpa using e)];have:=Pu a b k (fun j hj=>by have:=h (j+1) (by omega);simpa using this) (by simpa using h1) (by simpa using h2) (by
    rcases h3 with h3|h3|h3
    ·left;simp only[List.length_cons]at h3;omega
    ·right;left;simp only[List.length_cons]at h3;omega
    ·right;right;simpa using h3)
   rw[this]
theorem bt{a b:List Int}(ha:a.length≤9223372036854775807)(hb:b.length≤9223372036854775807):A3 Tryz.prog 117 [.sl 1 (is a),.sl 1 (is b)] (.int .i64 (EM a b)):=by
 have hle:=Hl a b;obtain⟨m,hm⟩:∃m,m=min a.length b.length:=⟨_,rfl⟩
 have hmi:min (a.length:Int) (b.length:Int)=(m:Int):=by omega
 refine A6 30 Tryz.func117 Ah fun X_ w_=>?_;refine Au @hmi ?_;try exact trivial
 refine A8 (fun k:Nat=>k≤m∧∀j,j<k→a[j]! =b[j]!) (fun k=>[(0,.d (.sl 1 (is a))),(1,.d (.sl 1 (is b))),(10,.d (.int .i64 m)),(11,.d (.int .i64 k))]) (fun _=>[]) 0 (fun k=>m-k) [0,1,10,11] [] 0 ⟨Nat.zero_le _,fun j h=>by omega⟩ rfl rfl (Nat.le_refl _) (fun _ _=>rfl) (fun _ _=>rfl) fun k hk=>?_;obtain⟨hk1,hk2⟩:=hk;by_cases hk3:k<m
 ·by_cases he:a[k]! =b[k]!
  ·refine Au @he ?_;try exact trivial
   refine⟨k+1,⟨by omega,fun j hj=>?_⟩,?_,rfl,by omega⟩
   ·by_cases e:j=k
    ·subst e;exact he
    ·exact hk2 j (by omega)
   ·exact Ei
  ·have e:EM a b=k:=Pu a b k hk2 (by omega) (by omega) (.inr (.inr he));rw[e];refine Au @he ?_;try exact trivial
 ·have hkm:k=m:=by omega
  subst hkm;have e:EM a b=k:=Pu a b k hk2 (by omega) (by omega) (by omega);rw[e];refine Au @hmi ?_;try exact trivial
theorem Uc{a b:List Int}(ha:a.length≤9223372036854775807)(hb:b.length≤9223372036854775807):A3 Tryz.prog 48 [.sl 1 (is a),.sl 1 (is b)] (.int .i64 (EM a b)):=by
 have cf:=bt ha hb;refine A6 8 Tryz.func48 Ah fun X_ w_=>?_;have c0_:=cf;refine Ao ?_;try exact trivial
end Go.Eng.Tryz

/- Piles in plain words: up, down, what is pushed and popped. (and what stands behind it: texts laid together) -/
import Derived.Test.YtooblcpmpemhfaaGreatDoorMR14
import Derived.Test.YtooblcpmpemhfaaGreatDoorMG4
import Derived.Test.YtooblcpmpemhfaaGreatDoorMR12
import Derived.Test.YtooblcpmpemhfaaGreatDoorMR4
import Derived.Test.YtooblcpmpemhfaaGreatDoorMR11
import Derived.Shelf.LaysM
import Derived.Test.YtooblcpmpemhfaaGreatDoorProg
set_option linter.unusedVariables false
set_option linter.unusedSimpArgs false
open Go Go.Eng Go.Proofs Go.RowKit
set_option maxHeartbeats 32000000
set_option maxRecDepth 100000
namespace Go.Eng.Tryz
theorem LD:∀(a b c:List Int),Ae a b≤0→Ae b c≤0→Ae a c≤0
 | [],b,c,_,_=>by cases c<;>simp[Ae]
 |x::a,[],c,h,_=>by simp[Ae]at h
 |x::a,y::b,[],_,h=>by simp[Ae]at h
 |x::a,y::b,z::c,h1,h2=>by
  have ih:=LD a b c;simp only[Ae]at h1 h2 ⊢;rcases Int.lt_trichotomy x y with hxy|hxy|hxy
  ·rcases Int.lt_trichotomy y z with hyz|hyz|hyz
   ·rw[if_pos (by omega)];decide
   ·rw[if_pos (by omega)];decide
   ·rw[if_neg (by omega),if_pos hyz]at h2;omega
  ·subst hxy;rw[if_neg (by omega),if_neg (by omega)]at h1;rcases Int.lt_trichotomy x z with hyz|hyz|hyz
   ·rw[if_pos (by omega)];decide
   ·subst hyz;rw[if_neg (by omega),if_neg (by omega)]at h2 ⊢;exact ih h1 h2
   ·rw[if_neg (by omega),if_pos hyz]at h2;omega
  ·rw[if_neg (by omega),if_pos hxy]at h1;omega
theorem FS(a:List Int):Ae a a=0:=(Io a a).2 rfl
theorem DN{a b:En}:AE a b=true↔a.cost<b.cost∨a.cost=b.cost∧(Ae a.word b.word<0∨Ae a.word b.word=0∧a.done=false∧b.done=true):=by
 unfold AE;have hs:=Ek a.word b.word;by_cases h1:a.cost=b.cost
 ·rw[if_neg (by simpa using h1)];by_cases h2:Ae a.word b.word<0
  ·rw[if_pos h2];simp[h1,h2]
  ·rw[if_neg h2];by_cases h3:Ae b.word a.word<0
   ·rw[if_pos h3];constructor
    ·intro h;cases h
    ·rintro(h|⟨_,h|⟨h,_⟩⟩)<;>omega
   ·rw[if_neg h3];have h4:Ae a.word b.word=0:=by omega
    simp[h1,h4,Bool.and_eq_true]
 ·rw[if_pos h1];simp[h1]
theorem Eh{a b:En}(h:AE a b=true):AE b a=false:=by
 cases hb:AE b a with
 |false=>rfl
 |true =>
  rw[DN]at h hb;have hs:=Ek a.word b.word;rcases h with h|⟨h,h'|⟨h',h2,h3⟩⟩<;>rcases hb with k|⟨k,k'|⟨k',k2,k3⟩⟩<;>first|omega|(rw[h3]at k2;cases k2)
theorem Di(a:En):AE a a=false:=by
 cases h:AE a a with
 |false=>rfl
 |true=>exact(Eh h).symm.trans h |>.symm▸rfl
theorem QV{a b c:En}(h:AE a c=true):AE a b=true∨AE b c=true:=by
 rw[DN]at h;rw[DN,DN];have t1:=LD c.word b.word a.word;have s1:=Ek a.word b.word;have s2:=Ek b.word c.word;have s3:=Ek a.word c.word;by_cases h1:a.cost<b.cost
 ·exact .inl (.inl h1)
 ·by_cases h2:b.cost<c.cost
  ·exact .inr (.inl h2)
  ·have e1:a.cost=c.cost∧a.cost=b.cost∧b.cost=c.cost:=by
    rcases h with h|⟨h,_⟩<;>omega
   have h':Ae a.word c.word<0∨Ae a.word c.word=0∧a.done=false∧c.done=true:=by
    rcases h with h|⟨_,h⟩
    ·omega
    ·exact h
   by_cases h3:Ae a.word b.word<0
   ·exact .inl (.inr ⟨e1.2.1,.inl h3⟩)
   ·by_cases h4:Ae b.word c.word<0
    ·exact .inr (.inr ⟨e1.2.2,.inl h4⟩)
    ·have h5:Ae c.word a.word≤0:=t1 (by omega) (by omega);rcases h' with h'|⟨h',h6,h7⟩
     ·omega
     ·have ea:=(Io _ _).1 h';have h8:Ae a.word b.word=0:=by
       rw[← ea]at h4 s2;omega
      have h9:Ae b.word c.word=0:=by
       rw[← ea]at h4 ⊢ s2;omega
      cases hb:b.done
      ·exact .inr (.inr ⟨e1.2.2,.inr ⟨h9,rfl,h7⟩⟩)
      ·exact .inl (.inr ⟨e1.2.1,.inr ⟨h8,h6,rfl⟩⟩)
theorem JV{a b c:En}(h1:AE a b=false)(h2:AE b c=false):AE a c=false:=by
 cases h:AE a c with
 |false=>rfl
 |true=>rcases QV (b:=b) h with h|h<;>simp_all
theorem Lt{a b c:En}(h1:AE a b=true)(h2:AE b c=true):AE a c=true:=by
 rcases QV (b:=c) h1 with h|h
 ·exact h
 ·rw[Eh h2]at h;cases h
theorem MJ{a b:En}(h1:AE a b=false)(h2:AE b a=false):a.cost=b.cost∧a.done=b.done∧a.word=b.word:=by
 have hs:=Ek a.word b.word;have n1:¬(a.cost<b.cost∨a.cost=b.cost∧(Ae a.word b.word<0∨Ae a.word b.word=0∧a.done=false∧b.done=true)):=fun h=>by rw[DN.2 h]at h1;cases h1
 have n2:¬(b.cost<a.cost∨b.cost=a.cost∧(Ae b.word a.word<0∨Ae b.word a.word=0∧b.done=false∧a.done=true)):=fun h=>by rw[DN.2 h]at h2;cases h2
 have e1:a.cost=b.cost:=by omega
 have e2:Ae a.word b.word=0:=by
  have:¬Ae a.word b.word<0:=fun h=>n1 (.inr ⟨e1,.inl h⟩);have:¬Ae b.word a.word<0:=fun h=>n2 (.inr ⟨e1.symm,.inl h⟩);omega
 refine⟨e1,?_,(Io _ _).1 e2⟩;cases ha:a.done
 ·cases hb:b.done
  ·rfl
  ·exact absurd (.inr ⟨e1,.inr ⟨e2,ha,hb⟩⟩) n1
 ·cases hb:b.done
  ·exact absurd (.inr ⟨e1.symm,.inr ⟨by omega,hb,ha⟩⟩) n2
  ·rfl
theorem set_get!{l:List En}{i k:Nat}{v:En}(hk:k<l.length):(l.set i v)[k]! =if i=k then v else l[k]! :=by
 rw[getElem!_pos _ k (by simpa using hk),List.getElem_set];split
 ·rfl
 ·rw[getElem!_pos l k hk]
theorem Gq{l:List En}{i j k:Nat}(hi:i<l.length)(hj:j<l.length)(hk:k<l.length):(P3 l i j)[k]! =if k=j then l[i]! else if k=i then l[j]! else l[k]! :=by
 unfold P3;rw[set_get! (by simpa using hk),set_get! hk];by_cases h1:k=j
 ·rw[if_pos h1.symm,if_pos h1]
 ·rw[if_neg (fun h=>h1 h.symm),if_neg h1];by_cases h2:k=i
  ·rw[if_pos h2.symm,if_pos h2]
  ·rw[if_neg (fun h=>h2 h.symm),if_neg h2]
theorem S2{l:List En}{i j:Nat}(hi:i<l.length)(hj:j<l.length):(P3 l i j).Perm l:=by
 unfold P3;rw[getElem!_pos l i hi,getElem!_pos l j hj];exact List.set_set_perm hi hj
theorem Sa:∀(f:Nat) (l:List En) (i:Nat),i<l.length→(Tl f l i).Perm l
 |0,l,i,_=>List.Perm.refl _
 |f+1,l,i,hi=>by
  simp only[Tl];split
  ·exact List.Perm.refl _
  ·split
   ·have hp:(i-1)/2<l.length:=by omega
    exact(Sa f _ _ (by rw[DR];exact hp)).trans (S2 hi hp)
   ·exact List.Perm.refl _
theorem Fz{l:List En}:K8 l=true↔∀c,c<l.length→0<c→AE (l[c]!) (l[(c-1)/2]!)=false:=by
 unfold K8;rw[decide_eq_true_eq]
theorem Ux:∀(f:Nat) (l:List En) (i:Nat),i<l.length→i≤f→(∀c,c<l.length→0<c→c≠i→AE (l[c]!) (l[(c-1)/2]!)=false)→(∀c,c<l.length→0<c→(c-1)/2=i→0<i→AE (l[c]!) (l[(i-1)/2]!)=false)→K8 (Tl f l i)=true
 |0,l,i,hi,hf,h1,h2=>by
  simp only[Tl];exact Fz.2 fun c hc h0=>h1 c hc h0 (by omega)
 |f+1,l,i,hi,hf,h1,h2=>by
  simp only[Tl];by_cases h0:i=0
  ·rw[if_pos h0];exact Fz.2 fun c hc h0'=>h1 c hc h0' (by omega)
  ·rw[if_neg h0];have hp:(i-1)/2<l.length:=by omega
   cases he:AE (l[i]!) (l[(i-1)/2]!)with
   |false =>
    simp only[Bool.false_eq_true,if_false];refine Fz.2 fun c hc h0'=>?_;by_cases hci:c=i
    ·subst hci;exact he
    ·exact h1 c hc h0' hci
   |true =>
    simp only[if_true];have hpi:(i-1)/2<i:=by omega
    generalize hpe:(i-1)/2=p at *;refine Ux f (P3 l i p) p (by rw[DR];exact hp) (by omega) (fun c hc h0' hcp=>?_) (fun c hc h0' hcp hp0=>?_)
    ·rw[DR]at hc;have hq:(c-1)/2<l.length:=by omega
     rw[Gq hi hp hc,Gq hi hp hq,if_neg hcp];by_cases hci:c=i
     ·subst hci;rw[if_pos rfl,if_pos hpe];exact Eh he
     ·rw[if_neg hci];by_cases hc1:(c-1)/2=p
      ·rw[if_pos hc1];have:=h1 c hc h0' hci;rw[hc1]at this;cases hx:AE (l[c]!) (l[i]!)with
       |false=>rfl
       |true=>rw[Lt hx he]at this;cases this
      ·rw[if_neg hc1];by_cases hc2:(c-1)/2=i
       ·rw[if_pos hc2];exact h2 c hc h0' hc2 (by omega)
       ·rw[if_neg hc2];exact h1 c hc h0' hci
    ·rw[DR]at hc;have hq:(p-1)/2<l.length:=by omega
     rw[Gq hi hp hc,Gq hi hp hq,if_neg (by omega),if_neg (show¬(p-1)/2=p by omega),if_neg (show¬(p-1)/2=i by omega)];have hpp:=h1 p hp hp0 (by omega);by_cases hci:c=i
     ·rw[if_pos hci];exact hpp
     ·rw[if_neg hci];have:=h1 c hc h0' hci;rw[hcp]at this;exact JV this hpp
def FI(l:List En)(i:Nat):Nat:=if 2 * i+2<l.length∧AE (l[2 * i+2]!) (l[2 * i+1]!)=true then 2 * i+2 else 2 * i+1
def Gg:Nat→List En→Nat→List En
 |0,l,_=>l
 |f+1,l,i=>if 2 * i+1<l.length then if AE (l[FI l i]!) (l[i]!)=true then Gg f (P3 l i (FI l i)) (FI l i)else l else l
theorem Nt{l:List En}{i:Nat}(h:2 * i+1<l.length):FI l i<l.length∧(FI l i-1)/2=i∧i<FI l i:=by
 unfold FI;split<;>omega
theorem Xi{l:List En}{i c:Nat}(hc:c<l.length)(h0:0<c)(hp:(c-1)/2=i):AE (l[c]!) (l[FI l i]!)=false:=by
 unfold FI;rcases(by omega:c=2 * i+1∨c=2 * i+2)with rfl|rfl
 ·split
  ·rename_i h;exact Eh h.2
  ·exact Di _
 ·split
  ·exact Di _
  ·rename_i h;cases hx:AE (l[2 * i+2]!) (l[2 * i+1]!)with
   |false=>rfl
   |true=>exact absurd ⟨hc,hx⟩ h
theorem MI:∀(f:Nat) (l:List En) (i:Nat),i<l.length→(Gg f l i).Perm l
 |0,l,i,_=>List.Perm.refl _
 |f+1,l,i,hi=>by
  simp only[Gg];split
  ·rename_i h;split
   ·obtain⟨hu,_,_⟩:=Nt h;exact(MI f _ _ (by rw[DR];exact hu)).trans (S2 hi hu)
   ·exact List.Perm.refl _
  ·exact List.Perm.refl _
theorem TR:∀(f:Nat) (l:List En) (i:Nat),i<l.length→l.length≤i+f→(∀c,c<l.length→0<c→(c-1)/2≠i→AE (l[c]!) (l[(c-1)/2]!)=false)→(∀c,c<l.length→0<c→(c-1)/2=i→0<i→AE (l[c]!) (l[(i-1)/2]!)=false)→K8 (Gg f l i)=true
 |0,l,i,hi,hf,h1,h2=>by omega
 |f+1,l,i,hi,hf,h1,h2=>by
  simp only[Gg];by_cases h:2 * i+1<l.length
  ·rw[if_pos h];obtain⟨hu,hui,hlt⟩:=Nt h;have hmin:=fun c hc h0 hp=>Xi (l:=l) (i:=i) (c:=c) hc h0 hp;generalize FI l i=u at *;cases he:AE (l[u]!) (l[i]!)with
   |false =>
    simp only[Bool.false_eq_true,if_false];refine Fz.2 fun c hc h0=>?_;by_cases hp:(c-1)/2=i
    ·rw[hp];exact JV (hmin c hc h0 hp) he
    ·exact h1 c hc h0 hp
   |true =>
    simp only[if_true];refine TR f (P3 l i u) u (by rw[DR];exact hu) (by rw[DR];omega) (fun c hc h0 hcu=>?_) (fun c hc h0 hcu hu0=>?_)
    ·rw[DR]at hc;have hq:(c-1)/2<l.length:=by omega
     rw[Gq hi hu hc,Gq hi hu hq,if_neg hcu];by_cases hp:(c-1)/2=i
     ·rw[if_pos hp];by_cases hcu2:c=u
      ·rw[if_pos hcu2];exact Eh he
      ·rw[if_neg hcu2,if_neg (by omega)];exact hmin c hc h0 hp
     ·rw[if_neg hp,if_neg (by intro e;subst e;exact hp hui)];by_cases hci:c=i
      ·rw[if_pos hci];subst hci;exact h2 u hu (by omega) hui h0
      ·rw[if_neg hci];exact h1 c hc h0 hp
    ·rw[DR]at hc;rw[Gq hi hu hc,Gq hi hu (by omega),if_neg (by omega),if_neg (by omega),if_neg (by omega),hui,if_pos rfl];have:=h1 c hc h0 (by omega);rw[hcu]at this;exact this
  ·rw[if_neg h];exact Fz.2 fun c hc h0=>h1 c hc h0 (by omega)
theorem Rm{l:List En}(h:K8 l=true):∀(n c:Nat),c≤n→c<l.length→AE (l[c]!) (l[0]!)=false
 |0,c,hn,hc=>by
  have:c=0:=by omega
  subst this;exact Di _
 |n+1,c,hn,hc=>by
  by_cases h0:c=0
  ·subst h0;exact Di _
  ·exact JV (Fz.1 h c hc (by omega)) (Rm h n ((c-1)/2) (by omega) (by omega))
def Fw(l:List En)(e:En):List En:=Tl l.length (l++[e]) l.length
def Cd(l:List En):List En:=Gg l.length ((l.set 0 (l[l.length-1]!)).take (l.length-1)) 0
theorem Ty{l:List En}{e:En}{k:Nat}(hk:k<l.length):(l++[e])[k]! =l[k]! :=by
 rw[getElem!_pos _ k (by simp;omega),getElem!_pos l k hk,List.getElem_append_left hk]
theorem N9(l:List En)(e:En):(Fw l e).Perm (l++[e]):=Sa _ _ _ (by simp)
theorem V7(l:List En)(e:En):(Fw l e).length=l.length+1:=by rw[(N9 l e).length_eq];simp
theorem SI{l:List En}{e:En}(h:K8 l=true):K8 (Fw l e)=true:=by
 refine Ux _ _ _ (by simp) (Nat.le_refl _) (fun c hc h0 hcl=>?_) (fun c hc h0 hcp hl=>?_)
 ·simp only[List.length_append,List.length_cons,List.length_nil]at hc;rw[Ty (by omega),Ty (by omega)];exact Fz.1 h c (by omega) h0
 ·simp only[List.length_append,List.length_cons,List.length_nil]at hc;omega
theorem Na{l:List En}(h:0<l.length):(Cd l).Perm l.tail:=by
 match l,h with
 | [a],_=>exact List.Perm.refl _
 |a::b::m,_ =>
  unfold Cd;have hm:0<(b::m).length:=by simp
  generalize b::m=t at hm;have hne:t≠[]:=by intro e;subst e;simp at hm
  obtain⟨q,z,rfl⟩:∃q z,t=q++[z]:=⟨t.dropLast,t.getLast hne,(List.dropLast_concat_getLast hne).symm⟩
  refine(MI _ _ _ (by simp)).trans ?_;have e1:(a::(q++[z]))[(a::(q++[z])).length-1]! =z:=by
   rw[getElem!_pos _ _ (by simp)];simp
  rw[e1];have e2:((a::(q++[z])).set 0 z).take ((a::(q++[z])).length-1)=z::q:=by simp
  rw[e2];exact(List.perm_append_singleton z q).symm
theorem KX{l:List En}(h:0<l.length):(Cd l).length=l.length-1:=by rw[(Na h).length_eq];simp
theorem S3{l:List En}{n k:Nat}(hk:k<n)(hn:n≤l.length):(l.take n)[k]! =l[k]! :=by
 rw[getElem!_pos _ k (by simp;omega),getElem!_pos l k (by omega),List.getElem_take]
theorem SJ{l:List En}(h0:0<l.length)(h:K8 l=true):K8 (Cd l)=true:=by
 by_cases h1:l.length=1
 ·have:Cd l=[]:=List.eq_nil_of_length_eq_zero (by rw[KX h0];omega);rw[this];rfl
 ·have hlen:((l.set 0 (l[l.length-1]!)).take (l.length-1)).length=l.length-1:=by simp
  refine TR _ _ _ (by rw[hlen];omega) (by rw[hlen];omega) (fun c hc hc0 hp=>?_) (fun c hc hc0 hp h0'=>by omega);rw[hlen]at hc;rw[S3 hc (by simp),S3 (by omega) (by simp),set_get! (by omega),set_get! (by omega),if_neg (by omega),if_neg (by omega)];exact Fz.1 h c (by omega) hc0
theorem YQ{l:List En}(h:K8 l=true){e:En}(he:e∈l):AE e (l[0]!)=false:=by
 obtain⟨k,hk0⟩:=List.mem_iff_getElem?.1 he;obtain⟨hk,rfl⟩:=List.getElem?_eq_some_iff.1 hk0;rw[← getElem!_pos l k hk];exact Rm h k k (Nat.le_refl _) hk
attribute [local go_sem] Aq As AP AO Az Ax Ch Cg
def im(l:List Ak)(c:Co):D:=.agg [.sl 2 (AQ l),.int .u64 c.more,.int .u64 c.less,.int .u64 c.other,.int .u64 c.turned,.sl 3 (rs c.rules)]
theorem dm{l:List Ak}{c:Co}(hl:Bt l):A3 Tryz.prog 75 [im l c] (.bool (!achk l)):=by
 have cc:=IM hl;unfold im;refine A6 7 Tryz.func75 A4 fun X_ w_=>?_;have c0_:=cc;refine Ao ?_;try exact trivial
theorem bL{l:List Ak}{c:Co}(hc:c.ok):A3 Tryz.prog 76 [im l c] (.bool (!Lq c)):=by
 have cc:=Td hc;unfold im;unfold co at cc;refine A6 7 Tryz.func76 A4 fun X_ w_=>?_;have c0_:=cc;refine Ao ?_;try exact trivial
theorem bD{l:List Ak}{c:Co}(hl:Bt l):A3 Tryz.prog 77 [im l c] (.bool (decide (300<Dn l))):=by
 have cc:=Xa hl;unfold im;generalize Dn l=m at *;refine A6 7 Tryz.func77 A4 fun X_ w_=>?_;have c0_:=cc;refine Ao ?_;try exact trivial
theorem bx{l:List Ak}{c:Co}(hl:Bt l)(h0:0<l.length):A3 Tryz.prog 78 [im l c] (.bool (decide (20<Fq l)||(l[0]!).final)):=by
 have cc:=bq hl;unfold im;generalize Fq l=m at *;by_cases h:20<m
 ·rw[decide_eq_true h,Bool.true_or];refine A6 14 Tryz.func78 A4 fun X_ w_=>?_;have c0_:=cc;refine Ao ?_;try exact trivial
 ·rw[decide_eq_false h,Bool.false_or];refine A6 14 Tryz.func78 A4 fun X_ w_=>?_;have c0_:=cc;refine Ao ?_;try exact trivial
def Qu(l:List Ak)(c:Co):Int:=if achk l=false then 100 else if Lq c=false then 60 else if 300<Dn l then 81 else if(decide (20<Fq l)||(l[0]!).final)=true then 90 else 0
theorem Qb{l:List Ak}{c:Co}(hl:Bt l)(hc:c.ok):A3 Tryz.prog 28 [im l c] (.int .i64 (Qu l c)):=by
 have c1:=dm (c:=c) hl;have c2:=bL (l:=l) hc;have c3:=bD (c:=c) hl;have c4:=fun h=>bx (c:=c) hl h;have h0:achk l=true→0<l.length:=fun h=>(Aw.1 h).2.1;unfold Qu;cases ha:achk l
 ·rw[ha]at c1;rw[if_pos rfl];unfold im at c1 ⊢;refine A6 20 Tryz.func28 A4 fun X_ w_=>?_;refine Ao ?_;try exact trivial
  refine De ?_;have c0_:=c1;refine Ao ?_;try exact trivial
 rw[ha]at c1;have c4:=c4 (h0 ha);have e3:(if 300<Dn l then(81:Int)else if(decide (20<Fq l)||(l[0]!).final)=true then 90 else 0)=if decide (300<Dn l)=true then 81 else if(decide (20<Fq l)||(l[0]!).final)=true then 90 else 0:=by
  by_cases h:300<Dn l
  ·rw[if_pos h,if_pos (decide_eq_true h)]
  ·have hd:decide (300<Dn l)=false:=decide_eq_false h;rw[hd,if_neg h];simp only[Bool.false_eq_true,if_false]
 rw[if_neg (by decide),e3];generalize(decide (20<Fq l)||(l[0]!).final)=b4 at c4 ⊢;generalize decide (300<Dn l)=b3 at c3 ⊢;generalize Lq c=b2 at c2 ⊢;obtain⟨e,he⟩:∃e:Int,(if b2=false then(60:Int)else if b3=true then 81 else if b4=true then 90 else 0)=e:=⟨_,rfl⟩
 rw[he];have z0:((0:Nat):Int)=0:=rfl;have z1:((1:Nat):Int)=1:=rfl;have z2:((2:Nat):Int)=2:=rfl;have z3:((3:Nat):Int)=3:=rfl;have z4:((4:Nat):Int)=4:=rfl;have t1:(1:Int).toNat=1:=rfl;have t2:(2:Int).toNat=2:=rfl;have t3:(3:Int).toNat=3:=rfl;unfold im at c1 c2 c3 c4 ⊢;refine A6 20 Tryz.func28 A4 fun X_ w_=>?_;refine Ao ?_;try exact trivial
 refine A8 (fun k:Nat=>k≤4∧(1<k→b2=true)∧(2<k→b3=false)∧(3<k→b4=false)) (fun k=>[(1,.ref 0 0),(9,.d (.agg [.fn 75,.int .i64 100,.fn 76,.int .i64 60,.fn 77,.int .i64 81,.fn 78,.int .i64 90])),(10,.d (.int .i64 k))])
  (fun _=>[(0,.var [.d (.sl 2 (AQ l)),.d (.int .u64 c.more),.d (.int .u64 c.less),.d (.int .u64 c.other),.d (.int .u64 c.turned),.d (.sl 3 (rs c.rules))])]) 20000 (fun k=>4-k) [1,9,10] [0] 0 ⟨Nat.zero_le _,fun h=>by omega,fun h=>by omega,fun h=>by omega⟩ rfl rfl (Nat.le_of_ble_eq_true rfl) (fun _ _=>rfl) (fun _ _=>rfl) fun k hk=>?_
 obtain⟨k1,k2,k3,k4⟩:=hk;by_cases q0:k=0
 ·subst q0;have c0_:=c1;refine Au (And.intro @z0 (And.intro @Int.toNat_zero @Nat.zero_mul)) ?_;try exact trivial
  refine⟨1,⟨by omega,fun h=>by omega,fun h=>by omega,fun h=>by omega⟩,?_,?_,by omega⟩
  ·simp(disch:=omega)only[go_sem,AC,z1,Int.zero_add]
  ·exact GL
 by_cases q1:k=1
 ·subst q1;cases hb2:b2
  ·rw[hb2]at c2;have:e=60:=by rw[← he,hb2];rfl
   subst this;have c0_:=c2;refine Au (And.intro @z1 @t1) ?_;try exact trivial
  ·rw[hb2]at c2;have c0_:=c2;refine Au (And.intro @z1 @t1) ?_;try exact trivial
   refine⟨2,⟨by omega,fun h=>rfl,fun h=>by omega,fun h=>by omega⟩,?_,?_,by omega⟩
   ·exact Hq @z2
   ·exact GL
 by_cases q2:k=2
 ·subst q2;have hb2:=k2 (by omega);cases hb3:b3
  ·rw[hb3]at c3;have c0_:=c3;refine Au (And.intro @z2 @t2) ?_;try exact trivial
   refine⟨3,⟨by omega,fun h=>hb2,fun h=>rfl,fun h=>by omega⟩,?_,?_,by omega⟩
   ·exact Hq @z3
   ·exact GL
  ·rw[hb3]at c3;have:e=81:=by rw[← he,hb2,hb3];rfl
   subst this;have c0_:=c3;refine Au (And.intro @z2 @t2) ?_;try exact trivial
 by_cases q3:k=3
 ·subst q3;have hb2:=k2 (by omega);have hb3:=k3 (by omega);cases hb4:b4
  ·rw[hb4]at c4;have c0_:=c4;refine Au (And.intro @z3 @t3) ?_;try exact trivial
   refine⟨4,⟨by omega,fun h=>hb2,fun h=>hb3,fun h=>rfl⟩,?_,?_,by omega⟩
   ·exact Hq @z4
   ·exact GL
  ·rw[hb4]at c4;have:e=90:=by rw[← he,hb2,hb3,hb4];rfl
   subst this;have c0_:=c4;refine Au (And.intro @z3 @t3) ?_;try exact trivial
 ·have q4:k=4:=by omega
  subst q4;have:e=0:=by rw[← he,k2 (by omega),k3 (by omega),k4 (by omega)];rfl
  subst this;refine Au @z4 ?_;try exact trivial
end Go.Eng.Tryz
namespace Go.Eng.Tryz
attribute [local go_sem] Aq As Bb Bh Da Hi FW Hh
def Q6(a b:Int):Int:=IntKind.u8.wrap ((BitVec.ofInt 8 a ||| BitVec.ofInt 8 b).toNat)
def KD(a b:Int):Int:=IntKind.u8.wrap ((BitVec.ofInt 8 a &&& BitVec.ofInt 8 b).toNat)
def w8(a:Int):Int:=IntKind.u8.wrap a
theorem di(a b:Int):DA .or .u8 a .u8 b=some (.int .u8 (Q6 a b)):=rfl
theorem ay(a b:Int):DA .and .u8 a .u8 b=some (.int .u8 (KD a b)):=rfl
theorem ZA(a:Int):IntKind.u8.wrap a=w8 a:=rfl
theorem fj(a:Int):DA .shr .i32 a .u64 6=some (.int .i32 (a.fdiv 64)):=rfl
theorem dV(a:Int):DA .shr .i32 a .u64 12=some (.int .i32 (a.fdiv 4096)):=rfl
theorem dW(a:Int):DA .shr .i32 a .u64 18=some (.int .i32 (a.fdiv 262144)):=rfl
def F0(z:Int):List Int :=
 if z≤127 then[z]
 else if z≤2047 then[Q6 192 (w8 (z.fdiv 64)),Q6 128 (KD (w8 z) 63)]
 else if z≤65535 then[Q6 224 (w8 (z.fdiv 4096)),Q6 128 (KD (w8 (z.fdiv 64)) 63),Q6 128 (KD (w8 z) 63)]
 else[Q6 240 (w8 (z.fdiv 262144)),Q6 128 (KD (w8 (z.fdiv 4096)) 63),Q6 128 (KD (w8 (z.fdiv 64)) 63),Q6 128 (KD (w8 z) 63)]
theorem VR(z:Int):1≤(F0 z).length∧(F0 z).length≤4:=by
 unfold F0;by_cases h1:z≤127
 ·rw[if_pos h1];simp
 by_cases h2:z≤2047
 ·rw[if_neg h1,if_pos h2];simp
 by_cases h3:z≤65535
 ·rw[if_neg h1,if_neg h2,if_pos h3];simp
 ·rw[if_neg h1,if_neg h2,if_neg h3];simp
theorem cQ{b:List Int}{x y:Int}:FP b++[.int .u8 x,.int .u8 y]=FP (b++[x,y]):=by simp[FP]
theorem cR{b:List Int}{x y z:Int}:FP b++[.int .u8 x,.int .u8 y,.int .u8 z]=FP (b++[x,y,z]):=by simp[FP]
theorem cS{b:List Int}{x y z t:Int}:FP b++[.int .u8 x,.int .u8 y,.int .u8 z,.int .u8 t]=FP (b++[x,y,z,t]):=by simp[FP]
attribute [local go_sem] cQ cR cS
attribute [local go_sem ↓] di ay fj dV dW
attribute [local go_sem] ZA
theorem XJ{z:Int}(h0:0≤z)(h1:z≤1114111):IntKind.u32.wrap z=z:=by simp[IntKind.wrap,IntKind.bits,IntKind.signed];omega
theorem YY{b:List Int}{z:Int}(h0:128≤z)(h1:z≤1114111)(h2:z<55296∨57343<z)(hb:b.length≤1000000):Ai Tryz.prog 207 [.own 0 b.length,.d (.int .i32 z)] [(0,.row 5 1 (FP b))] (.own 0 (b.length+(F0 z).length)) [(0,.row 5 1 (FP (b++F0 z)))] 1:=by
 have e1:=XJ (z:=z) (by omega) (by omega);have c0:¬z≤127:=by omega
 by_cases c1:z≤2047
 ·have eu:F0 z=[Q6 192 (w8 (z.fdiv 64)),Q6 128 (KD (w8 z) 63)]:=by unfold F0;rw[if_neg c0,if_pos c1]
  rw[eu];refine Bo 78 [0] Tryz.func207 Bm fun X_ ν_ w_=>?_;refine Au @e1 ?_;try exact trivial
 by_cases c2:z≤65535
 ·have eu:F0 z=[Q6 224 (w8 (z.fdiv 4096)),Q6 128 (KD (w8 (z.fdiv 64)) 63),Q6 128 (KD (w8 z) 63)]:=by unfold F0;rw[if_neg c0,if_neg c1,if_pos c2]
  rw[eu];by_cases c3:z<55296
  ·refine Bo 78 [0] Tryz.func207 Bm fun X_ ν_ w_=>?_;refine Au @e1 ?_;try exact trivial
  ·have c4:57343<z:=by omega
   refine Bo 78 [0] Tryz.func207 Bm fun X_ ν_ w_=>?_;refine Au @e1 ?_;try exact trivial
 ·have eu:F0 z=[Q6 240 (w8 (z.fdiv 262144)),Q6 128 (KD (w8 (z.fdiv 4096)) 63),Q6 128 (KD (w8 (z.fdiv 64)) 63),Q6 128 (KD (w8 z) 63)]:=by unfold F0;rw[if_neg c0,if_neg c1,if_neg c2]
  rw[eu];have c3:¬z<55296:=by omega
  have c4:57343<z:=by omega
  refine Bo 78 [0] Tryz.func207 Bm fun X_ ν_ w_=>?_;refine Au @e1 ?_;try exact trivial
theorem dj{b:List Int}{z:Int}(hg:D9 z=true)(hb:b.length≤1000000):Ai Tryz.prog 150 [.own 0 b.length,.d (.int .i32 z)] [(0,.row 5 1 (FP b))] (.own 0 (b.length+(F0 z).length)) [(0,.row 5 1 (FP (b++F0 z)))] 1:=by
 have hg2:=of_decide_eq_true hg;obtain⟨g0,g1,g2⟩:=hg2;have e1:=XJ (z:=z) g0 g1;by_cases h1:z≤127
 ·have c:=X7 (b:=b) g0 h1 hb;have eu:F0 z=[z]:=by unfold F0;rw[if_pos h1]
  rw[eu];exact c
 ·have c:=YY (b:=b) (z:=z) (by omega) g1 g2 hb;refine Bo 16 [0] Tryz.func150 Bm fun X_ ν_ w_=>?_;have c0_:=c;refine Au @e1 ?_;try exact trivial
def JH(w:List Int):List Int:=w.flatMap F0
theorem VU(w:List Int)(z:Int):JH (w++[z])=JH w++F0 z:=by simp[JH]
theorem NR(w:List Int):(JH w).length≤4 * w.length:=by
 induction w with
 |nil=>simp[JH]
 |cons x t ih =>
  have:=VR x;simp only[JH,List.flatMap_cons,List.length_append,List.length_cons]at ih ⊢;omega
theorem dI{w:List Int}(hw:w.all D9=true)(hlen:w.length≤200000):A3 Tryz.prog 87 [.sl 1 (is w)] (.tup [.sl 1 (FP (JH w)),.int .i64 0]):=by
 refine A6 22 Tryz.func87 A4 fun X_ w_=>?_;repeat ((fail_if_success (with_reducible show WP _ _ (.region 2 _ _) _ _));first|with_reducible exact Ev.nil|with_reducible exact E2|((with_reducible apply Cw);rfl)|((with_reducible apply AJ);rfl)|((with_reducible apply BH);rfl)|with_reducible apply BE|with_reducible apply Bu|with_reducible apply B5|((with_reducible apply DX (N:=22) rfl rfl);(focus simp only[Nat.reduceAdd]<;>rfl))|((with_reducible apply DV (N:=22) mixed rfl rfl);(focus simp only[Nat.reduceAdd]<;>rfl))|((with_reducible apply DU);(focus first|(apply BK;(focus rfl);rfl)|(apply BJ;(focus rfl);(focus rfl);rfl)))|((with_reducible apply Ct);(focus first|(apply BK;(focus rfl);rfl)|(apply BJ;(focus rfl);(focus rfl);rfl)))|with_reducible apply E3|with_reducible apply Cn|with_reducible apply Ck|with_reducible apply Cm|with_reducible apply Cj|((first|(with_reducible apply Cs)|(with_reducible apply By));(focus rfl))|((first|(with_reducible apply Cr)|(with_reducible apply Bx));(focus rfl))|((with_reducible apply D5);(focus simp only[Nat.reduceAdd]<;>rfl);(focus simp(disch:=omega)only[go_sem]<;>rfl))|((first|(with_reducible apply Cp)|(with_reducible apply Cq));(focus simp only[Nat.reduceAdd]<;>rfl);(focus simp(disch:=omega)only[go_sem]<;>rfl);(focus first|(simp(disch:=omega)only[go_sem]<;>rfl)|rfl))|with_reducible apply BA|with_reducible apply BB|with_reducible apply BF|with_reducible apply BG|with_reducible apply B7|with_reducible apply B8|with_reducible apply B9|with_reducible apply Ba rfl|with_reducible apply Bd|with_reducible apply Be|with_reducible apply Bf|with_reducible apply Cu|with_reducible apply Cv|with_reducible apply AG|with_reducible apply B4|with_reducible apply Bz|with_reducible apply AH|with_reducible apply AI|((with_reducible apply DY);(focus first|(simp(disch:=omega)only[go_sem]<;>rfl)|rfl))|((with_reducible apply DW);(focus first|(simp(disch:=omega)only[go_sem]<;>rfl)|rfl))|((with_reducible apply BD);(focus rfl))|((with_reducible apply BC);(focus rfl);(focus rfl))|(with_reducible rfl)|((with_reducible show List.map Ad _=_);simp only[List.map_cons,List.map_nil,Ad,C5];rfl)|((with_reducible show AM _ _=true);kernel_rfl)|((with_reducible show _=_);simp(disch:=omega)only[go_sem]<;>rfl)|((fail_if_success (with_reducible show Ev _ _ _ _ (_::_) _ _ _ _ _));(show Ev _ _ _ _ (_::_) _ _ _ _ _))|fail)
 refine Jk 4 3000 5 1 rfl (by decide) (Nat.le_of_ble_eq_true rfl) ?_;refine Ao ?_;try exact trivial
 refine A8 (fun k:Nat=>k≤w.length) (fun k=>[(4,.own 3000 (JH (w.take k)).length),(7,.d (.sl 1 (is w))),(8,.d (.int .i64 w.length)),(9,.d (.int .i64 k))]) (fun k=>[(3000,.row 5 1 (FP (JH (w.take k))))]) 3001 (fun k=>w.length-k) [4,7,8,9] [3000] 0 (Nat.zero_le _) rfl rfl (Nat.zero_le _) (fun _ _=>rfl) (fun _ _=>rfl) fun k hk=>?_;have hkl:(w.take k).length=k:=by simp;omega
 have hbl:=NR (w.take k);by_cases hk3:k<w.length
 ·have hz:=List.all_eq_true.1 hw (w[k]!) (by rw[getElem!_pos w k hk3];exact List.getElem_mem hk3);have cg:=Mp (z:=w[k]!);rw[hz]at cg;have hst:JH (w.take (k+1))=JH (w.take k)++F0 (w[k]!):=by rw[← VU,AT hk3]
  have ca:=dj (b:=JH (w.take k)) hz (by omega);have e1:IntKind.i32.wrap (w[k]!)=w[k]! :=by
   obtain⟨h0,h1,_⟩:=of_decide_eq_true hz;generalize w[k]! =z at h0 h1 ⊢;simp[IntKind.wrap,IntKind.bits,IntKind.signed];omega
  have c0_:=cg;have c1_:=ca;refine Au @e1 ?_;try exact trivial
  refine⟨k+1,by omega,?_,?_,by omega⟩
  ·simp(disch:=omega)only[go_sem,AC,Int.natCast_add,Int.cast_ofNat_Int,hst,List.length_append]
  ·exact Hq @hst
 ·have hke:k=w.length:=by omega
  subst hke;rw[List.take_length];refine Ao ?_;try exact trivial
def Ni(l:List (List Int)):List Int:=l.flatMap fun w=>JH w++[10]
theorem Vj(l:List (List Int))(w:List Int):Ni (l++[w])=Ni l++JH w++[10]:=by simp[Ni]
theorem WH(l:List (List Int))(h:∀w∈l,w.length≤20):(Ni l).length≤81 * l.length:=by
 induction l with
 |nil=>simp[Ni]
 |cons x t ih =>
  have h1:=ih fun w hw=>h w (by simp[hw]);have h2:=h x (by simp);have h3:=NR x;simp only[Ni,List.flatMap_cons,List.length_append,List.length_cons,List.length_nil]at h1 ⊢;omega
end Go.Eng.Tryz
namespace Go.Proofs
open Go.Shelf
def Tryz.strcU_ren:Go.Shelf.Ren:=⟨fun|288=>228|283=>260|284=>261|285=>262|286=>263|129=>190|317=>274|318=>275|319=>276|320=>277|337=>280|338=>281|n=>n,fun|37=>49|53=>33|3=>3|4=>4|9=>9|171=>296|0=>0|173=>298|212=>307|51=>204|5=>5|20=>20|213=>308|46=>176|232=>311|233=>312|n=>n,fun|17=>0|18=>1|19=>2|n=>n⟩
theorem Tryz.strcU:Go.Proofs.LaysM.n288 Tryz.prog Tryz.strcU_ren:={
 mixed:=by kernel_rfl
 f129:=Tryz.func190.trans (congrArg some (by kernel_rfl))
 f283:=Tryz.func260.trans (congrArg some (by kernel_rfl))
 f284:=Tryz.func261.trans (congrArg some (by kernel_rfl))
 f285:=Tryz.func262.trans (congrArg some (by kernel_rfl))
 f286:=Tryz.func263.trans (congrArg some (by kernel_rfl))
 f288:=Tryz.func228.trans (congrArg some (by kernel_rfl))
 f317:=Tryz.func274.trans (congrArg some (by kernel_rfl))
 f318:=Tryz.func275.trans (congrArg some (by kernel_rfl))
 f319:=Tryz.func276.trans (congrArg some (by kernel_rfl))
 f320:=Tryz.func277.trans (congrArg some (by kernel_rfl))
 f337:=Tryz.func280.trans (congrArg some (by kernel_rfl))
 f338:=Tryz.func281.trans (congrArg some (by kernel_rfl))
 t0:=Tryz.underlying0
 a0:=Tryz.isAgg0
 z0:=Tryz.sizeOf0
 v0:=Tryz.zeroValue0
 t3:=Tryz.underlying3
 a3:=Tryz.isAgg3
 z3:=Tryz.sizeOf3
 v3:=Tryz.zeroValue3
 t4:=Tryz.underlying4
 a4:=Tryz.isAgg4
 z4:=Tryz.sizeOf4
 v4:=Tryz.zeroValue4
 t5:=Tryz.underlying5
 a5:=Tryz.isAgg5
 z5:=Tryz.sizeOf5
 v5:=Tryz.zeroValue5
 t9:=Tryz.underlying9
 a9:=Tryz.isAgg9
 z9:=Tryz.sizeOf9
 v9:=Tryz.zeroValue9
 t20:=Tryz.underlying20
 a20:=Tryz.isAgg20
 z20:=Tryz.sizeOf20
 v20:=Tryz.zeroValue20
 t37:=Tryz.underlying49
 a37:=Tryz.isAgg49
 z37:=Tryz.sizeOf49
 v37:=Tryz.zeroValue49
 t46:=Tryz.underlying176
 a46:=Tryz.isAgg176
 z46:=Tryz.sizeOf176
 v46:=Tryz.zeroValue176
 t51:=Tryz.underlying204
 a51:=Tryz.isAgg204
 z51:=Tryz.sizeOf204
 v51:=Tryz.zeroValue204
 t53:=Tryz.underlying33
 a53:=Tryz.isAgg33
 z53:=Tryz.sizeOf33
 v53:=Tryz.zeroValue33
 t171:=Tryz.underlying296
 a171:=Tryz.isAgg296
 z171:=Tryz.sizeOf296
 v171:=Tryz.zeroValue296
 t173:=Tryz.underlying298
 a173:=Tryz.isAgg298
 z173:=Tryz.sizeOf298
 v173:=Tryz.zeroValue298
 t212:=Tryz.underlying307
 a212:=Tryz.isAgg307
 z212:=Tryz.sizeOf307
 v212:=Tryz.zeroValue307
 t213:=Tryz.underlying308
 a213:=Tryz.isAgg308
 z213:=Tryz.sizeOf308
 t232:=Tryz.underlying311
 a232:=Tryz.isAgg311
 z232:=Tryz.sizeOf311
 v232:=Tryz.zeroValue311
 t233:=Tryz.underlying312
 a233:=Tryz.isAgg312
 z233:=Tryz.sizeOf312
 v233:=Tryz.zeroValue312
 g17:=by kernel_rfl
 g18:=by kernel_rfl
 g19:=by kernel_rfl
 i0:=by kernel_rfl
 i3:=by kernel_rfl
 i4:=by kernel_rfl
 i5:=by kernel_rfl
 i9:=by kernel_rfl
 i20:=by kernel_rfl
 i37:=by kernel_rfl
 i46:=by kernel_rfl
 i51:=by kernel_rfl
 i53:=by kernel_rfl
 i171:=by kernel_rfl
 i173:=by kernel_rfl
 i212:=by kernel_rfl
 i232:=by kernel_rfl
 i233:=by kernel_rfl
 m17:=by kernel_rfl
 m18:=by kernel_rfl
 m19:=by kernel_rfl }
end Go.Proofs

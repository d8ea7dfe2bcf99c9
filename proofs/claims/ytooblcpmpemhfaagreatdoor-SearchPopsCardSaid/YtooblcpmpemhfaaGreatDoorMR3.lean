/- Rules in order, in plain words. (and what stands behind it: texts laid together) -/
import Derived.Test.YtooblcpmpemhfaaGreatDoorMR2
import Derived.Test.YtooblcpmpemhfaaGreatDoorMG4
set_option linter.unusedVariables false
set_option linter.unusedSimpArgs false
open Go Go.Eng Go.Proofs Go.RowKit
set_option maxHeartbeats 32000000
set_option maxRecDepth 100000
namespace Go.Eng.Tryz
def Bk(r s:Ru):Prop:=r.left=s.left∧r.right=s.right
instance (r s:Ru):Decidable (Bk r s):=by unfold Bk;infer_instance
def LW(r s:Ru):Prop:=Ae r.left s.left<0∨r.left=s.left∧Ae r.right s.right<0
instance (r s:Ru):Decidable (LW r s):=by unfold LW;infer_instance
theorem Kh{r s:Ru}:LW r s↔Of ⟨r.left,r.right,0⟩ ⟨s.left,s.right,0⟩:=by
 unfold LW Of;simp
theorem Zo(r:Ru):¬LW r r:=by rw[Kh];exact Qg _
theorem VH{r s t:Ru}(h1:LW r s)(h2:LW s t):LW r t:=by rw[Kh]at *;exact IP h1 h2
theorem VG(r s:Ru):LW r s∨Bk r s∨LW s r:=by
 rw[Kh,Kh];rcases L7 ⟨r.left,r.right,0⟩ ⟨s.left,s.right,0⟩with h|h|h
 ·exact .inl h
 ·simp at h;exact .inr (.inl h)
 ·exact .inr (.inr h)
theorem Lb{r s t:Ru}(h:Bk r s):(LW r t↔LW s t)∧(LW t r↔LW t s):=by
 unfold LW;rw[h.1,h.2];exact⟨Iff.rfl,Iff.rfl⟩
theorem Kg{r s:Ru}(h:LW r s):¬Bk r s:=fun e=>Zo s (((Lb e).1).1 h)
theorem Ci{r s:Ru}(h:Bk r s):Bk s r:=⟨h.1.symm,h.2.symm⟩
theorem DH{r s t:Ru}(h:Bk r s)(h':Bk s t):Bk r t:=⟨h.1.trans h'.1,h.2.trans h'.2⟩
theorem Zp{r s:Ru}(h:LW r s):Of r s:=by
 unfold LW at h;unfold Of;rcases h with h|⟨h,h'⟩
 ·exact .inl h
 ·exact .inr ⟨h,.inl h'⟩
theorem Xt{r s:Ru}(h:LW r s):¬Of s r:=fun h'=>Qg _ (IP (Zp h) h')
def Mz(x r:Ru):Ru:=if r.cost<x.cost then r else x
def K5:List Ru→Ru→List Ru
 | [],r=>[r]
 |x::t,r=>if Bk x r then Mz x r::t else x::K5 t r
def L1:List Ru→Ru→List Ru
 | [],r=>[r]
 |x::t,r=>if LW x r then x::L1 t r else if Bk x r then Mz x r::t else r::x::t
theorem WY{ms:List Ru}{r:Ru}(h:∀x∈ms,¬Bk x r):K5 ms r=ms++[r]:=by
 induction ms with
 |nil=>rfl
 |cons x t ih =>
  simp only[K5];rw[if_neg (h x (by simp)),ih (fun y hy=>h y (by simp[hy]))];rfl
theorem WZ{ms:List Ru}{r:Ru}(h:∃x∈ms,Bk x r):∃x rest,x∈ms∧Bk x r∧ms.Perm (x::rest)∧(K5 ms r).Perm (Mz x r::rest):=by
 induction ms with
 |nil=>obtain⟨x,hx,_⟩:=h;simp at hx
 |cons y t ih =>
  simp only[K5];by_cases hy:Bk y r
  ·rw[if_pos hy];exact⟨y,t,by simp,hy,List.Perm.refl _,List.Perm.refl _⟩
  ·rw[if_neg hy];obtain⟨x,rest,h1,h2,h3,h4⟩:=ih (by
    obtain⟨x,hx,hs⟩:=h;rcases List.mem_cons.1 hx with rfl|hx
    ·exact absurd hs hy
    ·exact⟨x,hx,hs⟩)
   exact⟨x,y::rest,by simp[h1],h2,(h3.cons y).trans (List.Perm.swap _ _ _),(h4.cons y).trans (List.Perm.swap _ _ _)⟩
def ai(o:List Ru):Prop:=o.Pairwise LW
theorem Nn{o:List Ru}{r:Ru}(h:∀x∈o,¬Bk x r):(L1 o r).Perm (r::o):=by
 induction o with
 |nil=>exact List.Perm.refl _
 |cons x t ih =>
  simp only[L1];by_cases h1:LW x r
  ·rw[if_pos h1];exact((ih (fun y hy=>h y (by simp[hy]))).cons x).trans (List.Perm.swap _ _ _)
  ·rw[if_neg h1,if_neg (h x (by simp))]
theorem No{o:List Ru}{r:Ru}(hs:ai o)(h:∃x∈o,Bk x r):∃x rest,x∈o∧Bk x r∧o.Perm (x::rest)∧(L1 o r).Perm (Mz x r::rest):=by
 induction o with
 |nil=>obtain⟨x,hx,_⟩:=h;simp at hx
 |cons y t ih =>
  have hp:=List.pairwise_cons.1 hs;simp only[L1];by_cases h1:LW y r
  ·rw[if_pos h1];obtain⟨x,rest,q1,q2,q3,q4⟩:=ih hp.2 (by
    obtain⟨x,hx,hs'⟩:=h;rcases List.mem_cons.1 hx with rfl|hx
    ·exact absurd hs' (Kg h1)
    ·exact⟨x,hx,hs'⟩)
   exact⟨x,y::rest,by simp[q1],q2,(q3.cons y).trans (List.Perm.swap _ _ _),(q4.cons y).trans (List.Perm.swap _ _ _)⟩
  ·rw[if_neg h1];by_cases h2:Bk y r
   ·rw[if_pos h2];exact⟨y,t,by simp,h2,List.Perm.refl _,List.Perm.refl _⟩
   ·exfalso;obtain⟨x,hx,hs'⟩:=h;rcases List.mem_cons.1 hx with rfl|hx
    ·exact h2 hs'
    ·exact h1 (((Lb hs').2).1 (hp.1 x hx))
theorem UI{x r:Ru}(h:Bk x r):Bk (Mz x r) r:=by
 unfold Mz;split
 ·exact⟨rfl,rfl⟩
 ·exact h
theorem WW{o:List Ru}{r x:Ru}(h:x∈L1 o r):x∈o∨x=r:=by
 induction o with
 |nil=>simp only[L1,List.mem_singleton]at h;exact .inr h
 |cons y t ih =>
  simp only[L1]at h;split at h
  ·rcases List.mem_cons.1 h with rfl|h
   ·exact .inl (by simp)
   ·rcases ih h with h|h
    ·exact .inl (by simp[h])
    ·exact .inr h
  ·split at h
   ·rcases List.mem_cons.1 h with rfl|h
    ·unfold Mz;split
     ·exact .inr rfl
     ·exact .inl (by simp)
    ·exact .inl (by simp[h])
   ·rcases List.mem_cons.1 h with rfl|h
    ·exact .inr rfl
    ·exact .inl h
theorem WX{o:List Ru}{r:Ru}(hs:ai o):ai (L1 o r):=by
 induction o with
 |nil=>simp[L1,ai]
 |cons y t ih =>
  have hp:=List.pairwise_cons.1 hs;simp only[L1];by_cases h1:LW y r
  ·rw[if_pos h1];refine List.pairwise_cons.2 ⟨fun z hz=>?_,ih hp.2⟩;rcases WW hz with h|rfl
   ·exact hp.1 z h
   ·exact h1
  ·rw[if_neg h1];by_cases h2:Bk y r
   ·rw[if_pos h2];refine List.pairwise_cons.2 ⟨fun z hz=>?_,hp.2⟩;exact((Lb (DH (UI h2) (Ci h2))).1).2 (hp.1 z hz)
   ·rw[if_neg h2];have h3:LW r y:=by
     rcases VG y r with h|h|h
     ·exact absurd h h1
     ·exact absurd h h2
     ·exact h
    refine List.pairwise_cons.2 ⟨fun z hz=>?_,hs⟩;rcases List.mem_cons.1 hz with rfl|hz
    ·exact h3
    ·exact VH h3 (hp.1 z hz)
def EY(l:List Ru):List Ru:=l.foldl (fun o r=>if JB r=true then L1 o r else o) []
def AA(l:List Ru):List Ru:=l.foldl (fun o r=>if JB r=true then K5 o r else o) []
theorem IL(l:List Ru)(r:Ru):EY (l++[r])=if JB r=true then L1 (EY l) r else EY l:=by simp[EY]
theorem Np(l:List Ru)(r:Ru):AA (l++[r])=if JB r=true then K5 (AA l) r else AA l:=by simp[AA]
theorem Ki{p:List Ru→Prop}(h0:p [])(h1:∀l r,p l→p (l++[r]))(l:List Ru):p l:=by
 rw[← List.reverse_reverse l];induction l.reverse with
 |nil=>exact h0
 |cons r t ih=>rw[List.reverse_cons];exact h1 _ _ ih
theorem If(l:List Ru):ai (EY l):=by
 refine Ki (p:=fun l=>ai (EY l)) ?_ (fun l r ih=>?_) l
 ·exact List.Pairwise.nil
 ·rw[IL];split
  ·exact WX ih
  ·exact ih
theorem NI{o:List Ru}(h:ai o):o.Pairwise (fun a b=>¬Bk a b):=h.imp Kg
theorem L2(l:List Ru):(EY l).Perm (AA l):=by
 refine Ki (p:=fun l=>(EY l).Perm (AA l)) (List.Perm.refl _) (fun l r ih=>?_) l;rw[IL,Np];split
 ·have hs:=If l;generalize EY l=o at ih hs;generalize AA l=ms at ih;by_cases h:∃x∈o,Bk x r
  ·obtain⟨x,rest,q1,q2,q3,q4⟩:=No hs h;obtain⟨x',rest',p1,p2,p3,p4⟩:=WZ (ms:=ms) (r:=r) (by obtain⟨x,hx,h⟩:=h;exact⟨x,ih.mem_iff.1 hx,h⟩);have hd:=NI hs;have hd':(x::rest).Pairwise (fun a b=>¬Bk a b):=(q3.pairwise_iff (fun{a b} h h'=>h (Ci h'))).1 hd;have hx':x'∈x::rest:=q3.mem_iff.1 (ih.mem_iff.2 p1);have:x'=x:=by
    rcases List.mem_cons.1 hx' with e|hx'
    ·exact e
    ·exact absurd (DH q2 (Ci p2)) ((List.pairwise_cons.1 hd').1 x' hx')
   subst this;have hr:rest.Perm rest':=(List.perm_cons x').1 (q3.symm.trans (ih.trans p3));exact q4.trans ((hr.cons _).trans p4.symm)
  ·have h1:∀x∈o,¬Bk x r:=fun x hx hs=>h ⟨x,hx,hs⟩;have h2:∀x∈ms,¬Bk x r:=fun x hx=>h1 x (ih.mem_iff.2 hx);rw[WY h2];exact(Nn h1).trans ((ih.cons r).trans (List.perm_append_singleton r ms).symm)
 ·exact ih
theorem Vo(l:List Ru):(EY l).Pairwise (fun a b=>¬Of b a):=(If l).imp Xt
theorem Wh{l:List Ru}{r:Ru}(h:∃y∈l,JB y=true∧Bk y r):∃m∈l,JB m=true∧Bk m r∧∀z∈l,JB z=true→Bk z r→m.cost≤z.cost:=by
 induction l with
 |nil=>obtain⟨y,hy,_⟩:=h;simp at hy
 |cons a t iht =>
  by_cases hex:∃y∈t,JB y=true∧Bk y r
  ·obtain⟨m,m1,m2,m3,m4⟩:=iht hex;by_cases ha:JB a=true∧Bk a r∧a.cost<m.cost
   ·refine⟨a,by simp,ha.1,ha.2.1,fun z hz hzo hzs=>?_⟩;rcases List.mem_cons.1 hz with rfl|hz
    ·exact Int.le_refl _
    ·have:=m4 z hz hzo hzs;omega
   ·refine⟨m,by simp[m1],m2,m3,fun z hz hzo hzs=>?_⟩;rcases List.mem_cons.1 hz with rfl|hz
    ·by_cases hc:z.cost<m.cost
     ·exact absurd ⟨hzo,hzs,hc⟩ ha
     ·omega
    ·exact m4 z hz hzo hzs
  ·obtain⟨y,hy,hyo,hys⟩:=h;rcases List.mem_cons.1 hy with rfl|hy
   ·refine⟨y,by simp,hyo,hys,fun z hz hzo hzs=>?_⟩;rcases List.mem_cons.1 hz with rfl|hz
    ·exact Int.le_refl _
    ·exact absurd ⟨z,hz,hzo,hzs⟩ hex
   ·exact absurd ⟨y,hy,hyo,hys⟩ hex
theorem RH{l:List Ru}{x:Ru}:x∈EY l↔x∈l∧JB x=true∧∀y∈l,JB y=true→Bk y x→x.cost≤y.cost:=by
 revert x;refine Ki (p:=fun l=>∀{x:Ru},x∈EY l↔x∈l∧JB x=true∧∀y∈l,JB y=true→Bk y x→x.cost≤y.cost) (fun{x}=>by simp[EY]) (fun l r ih {x}=>?_) l;rw[IL];by_cases hr:JB r=true
 ·rw[if_pos hr];have hs:=If l;by_cases h:∃z∈EY l,Bk z r
  ·obtain⟨z,rest,q1,q2,q3,q4⟩:=No hs h;have hd':(z::rest).Pairwise (fun a b=>¬Bk a b):=(q3.pairwise_iff (fun{a b} h h'=>h (Ci h'))).1 (NI hs);have hzr:=(List.pairwise_cons.1 hd').1;have hz:=ih.1 q1;have Cd:∀y,y∈rest↔y∈EY l∧¬Bk y r:=fun y=>by
    constructor
    ·intro hy;exact⟨q3.mem_iff.2 (by simp[hy]),fun e=>hzr y hy (DH q2 (Ci e))⟩
    ·intro⟨hy,hn⟩;rcases List.mem_cons.1 (q3.mem_iff.1 hy)with rfl|h
     ·exact absurd q2 hn
     ·exact h
   rw[q4.mem_iff,List.mem_cons,Cd,ih];constructor
   ·rintro(rfl|⟨⟨h1,h2,h3⟩,h4⟩)
    ·unfold Mz;split
     ·rename_i hc;refine⟨by simp,hr,fun y hy hyo hys=>?_⟩;rcases List.mem_append.1 hy with hy|hy
      ·have:=hz.2.2 y hy hyo (DH hys (Ci q2));omega
      ·rw[List.mem_singleton.1 hy];exact Int.le_refl _
     ·rename_i hc;refine⟨by simp[hz.1],hz.2.1,fun y hy hyo hys=>?_⟩;rcases List.mem_append.1 hy with hy|hy
      ·exact hz.2.2 y hy hyo hys
      ·rw[List.mem_singleton.1 hy];omega
    ·refine⟨by simp[h1],h2,fun y hy hyo hys=>?_⟩;rcases List.mem_append.1 hy with hy|hy
     ·exact h3 y hy hyo hys
     ·rw[List.mem_singleton.1 hy]at hys;exact absurd (Ci hys) h4
   ·rintro⟨h1,h2,h3⟩;by_cases hxr:Bk x r
    ·left;have hxz:=h3 z (by simp[hz.1]) hz.2.1 (DH q2 (Ci hxr));have hxr':=h3 r (by simp) hr (Ci hxr);have hcase:x=r∨x=z:=by
      rcases List.mem_append.1 h1 with hx|hx
      ·have:=hz.2.2 x hx h2 (DH hxr (Ci q2));right;have e1:=hxr.1.trans q2.1.symm;have e2:=hxr.2.trans q2.2.symm;have e3:x.cost=z.cost:=by omega
       cases x;cases z;simp_all
      ·exact .inl (List.mem_singleton.1 hx)
     unfold Mz;rcases hcase with rfl|rfl
     ·split
      ·rfl
      ·rename_i hc;have e3:x.cost=z.cost:=by omega
       have:=q2.1;have:=q2.2;cases x;cases z;simp_all
     ·rw[if_neg (by omega)]
    ·right;refine⟨⟨?_,h2,fun y hy=>h3 y (by simp[hy])⟩,hxr⟩;rcases List.mem_append.1 h1 with hx|hx
     ·exact hx
     ·exact absurd (by rw[List.mem_singleton.1 hx];exact⟨rfl,rfl⟩) hxr
  ·have hn:∀y∈EY l,¬Bk y r:=fun y hy hs'=>h ⟨y,hy,hs'⟩;rw[(Nn hn).mem_iff,List.mem_cons,ih];have hno:∀y∈l,JB y=true→¬Bk y r:=by
    intro y hy hyo hys;have:=Wh (l:=l) (r:=r) ⟨y,hy,hyo,hys⟩;obtain⟨m,m1,m2,m3,m4⟩:=this;exact hn m (ih.2 ⟨m1,m2,fun z hz hzo hzs=>m4 z hz hzo (DH hzs m3)⟩) m3
   constructor
   ·rintro(rfl|⟨h1,h2,h3⟩)
    ·refine⟨by simp,hr,fun y hy hyo hys=>?_⟩;rcases List.mem_append.1 hy with hy|hy
     ·exact absurd hys (hno y hy hyo)
     ·rw[List.mem_singleton.1 hy];exact Int.le_refl _
    ·refine⟨by simp[h1],h2,fun y hy hyo hys=>?_⟩;rcases List.mem_append.1 hy with hy|hy
     ·exact h3 y hy hyo hys
     ·rw[List.mem_singleton.1 hy]at hys;exact absurd (Ci hys) (hno x h1 h2)
   ·rintro⟨h1,h2,h3⟩;rcases List.mem_append.1 h1 with hx|hx
    ·exact .inr ⟨hx,h2,fun y hy=>h3 y (by simp[hy])⟩
    ·exact .inl (List.mem_singleton.1 hx)
 ·rw[if_neg hr,ih];constructor
  ·rintro⟨h1,h2,h3⟩;refine⟨by simp[h1],h2,fun y hy hyo hys=>?_⟩;rcases List.mem_append.1 hy with hy|hy
   ·exact h3 y hy hyo hys
   ·rw[List.mem_singleton.1 hy]at hyo;exact absurd hyo hr
  ·rintro⟨h1,h2,h3⟩;refine⟨?_,h2,fun y hy=>h3 y (by simp[hy])⟩;rcases List.mem_append.1 h1 with hx|hx
   ·exact hx
   ·rw[List.mem_singleton.1 hx]at h2;exact absurd h2 hr
theorem RG(l:List Ru):(EY l).length≤l.length:=by
 refine Ki (p:=fun l=>(EY l).length≤l.length) (Nat.le_refl _) (fun l r ih=>?_) l;rw[IL];split
 ·have hs:=If l;by_cases h:∃x∈EY l,Bk x r
  ·obtain⟨x,rest,q1,q2,q3,q4⟩:=No hs h;rw[q4.length_eq];have:=q3.length_eq;simp at this ⊢;omega
  ·rw[(Nn (fun x hx hs=>h ⟨x,hx,hs⟩)).length_eq];simp;omega
 ·simp;omega
theorem U7{l:List Ru}(h:∀r∈l,r.ok):∀r∈EY l,r.ok:=fun r hr=>h r (RH.1 hr).1
theorem Wc:A3 Tryz.prog 123 [.int .u64 0] (.int .i64 0):=by
 intro w M vs hW hM hl hv
 match vs,hl with
 | [v],_ =>
 have:=hv 0 _ v rfl rfl;cases this;have L:=Tryz.sortRule;have eg:∀args w,(callFunc 123 args).run Tryz.prog w= .ok (.enter 123 args) w:=enters_of Tryz.func123 (by kernel_rfl) rfl;have h:=Any.bits_Len (SlLaysF0.n15.bits (P:=Tryz.prog) (ρ:=Tryz.sortRule_ren) { L with }) (0:Int) w (by decide) (by decide);refine .inr ⟨eg _ _,?_⟩;refine Calls.mono (P:=Tryz.prog) h ?_;rintro e w' ⟨rfl,rfl⟩;exact⟨_,rfl,.int _ _,Bl.refl _ _⟩
theorem d7:A3 Tryz.prog 242 [.sl 3 [],.int .i64 0,.int .i64 0,.fn 156] (.tup []):=by
 refine A6 53 Tryz.func242 JO fun X_ w_=>?_;refine Ao ?_;try exact trivial
 refine De ?_;refine Ao ?_;try exact trivial
theorem ff:A3 Tryz.prog 210 [.sl 3 [],.int .i64 0,.int .i64 0,.int .i64 0,.fn 156] (.tup []):=by
 refine A6 148 Tryz.func210 Cx fun X_ w_=>?_;have c0_:=d7;refine Ao ?_;try exact trivial
 refine De ?_;have c0_:=d7;refine Ao ?_;try exact trivial
theorem bN:A3 Tryz.prog 155 [.sl 3 [],.fn 156] (.tup []):=by
 refine A6 14 Tryz.func155 Ah fun X_ w_=>?_;have c0_:=Wc;have c1_:=ff;refine Ao ?_;try exact trivial
open Go.Maps (Keyed)
theorem Ch{l:List Ru}:(rs l).length=l.length:=by simp[rs]
theorem Cg{l:List Ru}{k:Nat}(h:k<l.length):(rs l)[k]? =some (.agg [.sl 1 (is (l[k]!).left),.sl 1 (is (l[k]!).right),.int .u64 (l[k]!).cost]):=by
 simp[rs,ru,List.getElem?_eq_getElem h,getElem!_pos l k h]
theorem Qh{l:List Ru}{r:Ru}:rs l++[.agg [.sl 1 (is r.left),.sl 1 (is r.right),.int .u64 r.cost]]=rs (l++[r]):=by simp[rs,ru]
attribute [local go_sem] Aq As Ch Cg Qh
theorem Ke{l:List Ru}(h:∀r∈l,r.ok){k:Nat}(hk:k<l.length):(l[k]!).ok:=by
 rw[getElem!_pos l k hk];exact h _ (List.getElem_mem hk)
def em(ms:List Ru):List (D×D):=ms.map fun r=>(bd r.left r.right,.int .u64 r.cost)
theorem aM(ms:List Ru):(em ms).length=ms.length:=by simp[em]
def Ms(ms:List Ru):Prop:=(∀r∈ms,JB r=true)∧ms.Pairwise (fun a b=>¬Bk a b)
theorem Ii{r:Ru}(h:JB r=true):fits r.left∧fits r.right:=by
 obtain⟨h1,h2,_,_⟩:=IS.1 h;have f1:=Hx r.left;have f2:=Hx r.right;rw[Tc h1]at f1;rw[Tc h2]at f2;exact⟨f1,f2⟩
theorem Wo{ms:List Ru}(h:Ms ms):((em ms).map (·.1)).Nodup:=by
 unfold em;rw[List.map_map];rw[List.Nodup,List.pairwise_map];refine h.2.imp_of_mem (fun{a b} ha hb hn he=>hn ?_);obtain⟨f1,f2⟩:=Ii (h.1 a ha);exact Sr f1.1 f2.1 he
theorem cX{ms:List Ru}(h:Ms ms){a b:List Int}(ha:fits a)(hb:fits b):Oj Tryz.prog 197 (em ms) (bd a b):=by
 refine⟨SM,OK ha hb,fun p hp=>?_,Wo h⟩;obtain⟨r,hr,rfl⟩:=List.mem_map.1 hp;obtain⟨f1,f2⟩:=Ii (h.1 r hr);exact OK f1 f2
def LQ:List Ru→List Int→List Int→Option Int
 | [],_,_=>none
 |x::t,a,b=>if x.left=a∧x.right=b then some x.cost else LQ t a b
theorem YS{ms:List Ru}(h:∀r∈ms,JB r=true)(a b:List Int):LT (em ms) (bd a b)=(LQ ms a b).map (D.int .u64):=by
 induction ms with
 |nil=>rfl
 |cons x t ih =>
  obtain⟨f1,f2⟩:=Ii (h x (by simp));simp only[em,List.map_cons,LT,LQ];by_cases hx:x.left=a∧x.right=b
  ·rw[if_pos hx,if_pos (by rw[hx.1,hx.2])];rfl
  ·rw[if_neg hx,if_neg (fun e=>hx (Sr f1.1 f2.1 e))];exact ih (fun r hr=>h r (by simp[hr]))
def SY:List Ru→Ru→List Ru
 | [],r=>[r]
 |x::t,r=>if Bk x r then r::t else x::SY t r
theorem YU{ms:List Ru}(h:∀r∈ms,JB r=true)(r:Ru):GA (em ms) (bd r.left r.right) (.int .u64 r.cost)=em (SY ms r):=by
 induction ms with
 |nil=>rfl
 |cons x t ih =>
  obtain⟨f1,f2⟩:=Ii (h x (by simp));simp only[em,List.map_cons,GA,SY];by_cases hx:Bk x r
  ·rw[if_pos hx,if_pos (by rw[hx.1,hx.2])];rfl
  ·rw[if_neg hx,if_neg (fun e=>hx (Sr f1.1 f2.1 e))];simp only[List.map_cons];rw[← show em t=t.map _ from rfl,ih (fun r hr=>h r (by simp[hr]))];rfl
theorem Vr{ms:List Ru}{r:Ru}(h:LQ ms r.left r.right=none):K5 ms r=SY ms r:=by
 induction ms with
 |nil=>rfl
 |cons x t ih =>
  simp only[LQ]at h;split at h
  ·cases h
  ·rename_i hx;simp only[K5,SY];rw[if_neg (show¬Bk x r from hx),if_neg (show¬Bk x r from hx),ih h]
theorem Vq{ms:List Ru}{r:Ru}{c:Int}(h:LQ ms r.left r.right=some c)(hc:r.cost<c):K5 ms r=SY ms r:=by
 induction ms with
 |nil=>rfl
 |cons x t ih =>
  simp only[LQ]at h;simp only[K5,SY];split at h
  ·rename_i hx;cases h;rw[if_pos (show Bk x r from hx),if_pos (show Bk x r from hx)];unfold Mz;rw[if_pos hc]
  ·rename_i hx;rw[if_neg (show¬Bk x r from hx),if_neg (show¬Bk x r from hx),ih h]
theorem Vp{ms:List Ru}{r:Ru}{c:Int}(h:LQ ms r.left r.right=some c)(hc:¬r.cost<c):K5 ms r=ms:=by
 induction ms with
 |nil=>simp[LQ]at h
 |cons x t ih =>
  simp only[LQ]at h;simp only[K5];split at h
  ·rename_i hx;cases h;rw[if_pos (show Bk x r from hx)];unfold Mz;rw[if_neg hc]
  ·rename_i hx;rw[if_neg (show¬Bk x r from hx),ih h]
theorem RF(l:List Ru):Ms (AA l):=by
 refine⟨fun r hr=>?_,?_⟩
 ·exact(RH.1 ((L2 l).mem_iff.2 hr)).2.1
 ·exact((L2 l).pairwise_iff (fun{a b} h h'=>h (Ci h'))).1 (NI (If l))
theorem HI{l:List Ru}{k:Nat}(h:k<l.length):l.take (k+1)=l.take k++[l[k]!]:=by
 rw[List.take_add_one,List.getElem?_eq_getElem h,← getElem!_pos l k h];rfl
theorem SX{l:List Ru}{k:Nat}(h:k<l.length):AA (l.take (k+1))=if JB (l[k]!)=true then K5 (AA (l.take k)) (l[k]!)else AA (l.take k):=by
 rw[HI h,Np]
theorem Pb{a:List Int}(h:a.length≤8)(rest:List AV):BX (((AV.d (.int .i64 (gi a 0))::AV.d (.int .i64 (gi a 1))::AV.d (.int .i64 (gi a 2))::AV.d (.int .i64 (gi a 3))::AV.d (.int .i64 (gi a 4))::AV.d (.int .i64 (gi a 5))::AV.d (.int .i64 (gi a 6))::AV.d (.int .i64 (gi a 7))::rest)).take a.length)=some (is a):=by
 rcases a with _|⟨a0,_|⟨a1,_|⟨a2,_|⟨a3,_|⟨a4,_|⟨a5,_|⟨a6,_|⟨a7,_⟩⟩⟩⟩⟩⟩⟩⟩
 ·simp[gi,is,BX,D.cell]
 ·simp[gi,is,BX,D.cell]
 ·simp[gi,is,BX,D.cell]
 ·simp[gi,is,BX,D.cell]
 ·simp[gi,is,BX,D.cell]
 ·simp[gi,is,BX,D.cell]
 ·simp[gi,is,BX,D.cell]
 ·simp[gi,is,BX,D.cell]
 rename_i r;rcases r with _|⟨b,r⟩
 ·simp[gi,is,BX,D.cell]
 ·exfalso;simp only[List.length_cons]at h;omega
theorem aL{ms:List Ru}{i:Nat}{kd vd:D}(h:(em ms)[i]? =some (kd,vd)):i<ms.length∧kd=bd (ms[i]!).left (ms[i]!).right∧vd= .int .u64 (ms[i]!).cost:=by
 unfold em at h;rw[List.getElem?_map]at h;obtain⟨r,hr,he⟩:=Option.map_eq_some_iff.1 h;have hi:=(List.getElem?_eq_some_iff.1 hr).1;have:ms[i]! =r:=by rw[getElem!_pos ms i hi];exact(List.getElem?_eq_some_iff.1 hr).2
 rw[this];cases he;exact⟨hi,rfl,rfl⟩
theorem VE{ms:List Ru}{x:List Nat}(h1:x.Nodup)(h2:∀i∈x,i<ms.length)(h3:∀i,i<ms.length→i∈x):ms.Perm (x.map (ms[·]!)):=by
 have hp:(List.range ms.length).Perm x:=(List.perm_ext_iff_of_nodup List.nodup_range h1).2 fun i=>by
  rw[List.mem_range];exact⟨h3 i,h2 i⟩
 have hm:(List.range ms.length).map (ms[·]!)=ms:=List.ext_getElem? fun i=>by
  by_cases hi:i<ms.length
  ·rw[List.getElem?_map,List.getElem?_range hi,List.getElem?_eq_getElem hi,Option.map_some,getElem!_pos ms i hi]
  ·rw[List.getElem?_eq_none (by simp;omega),List.getElem?_eq_none (by omega)]
 have:=hp.map (ms[·]!)
 rwa [hm]at this
theorem RV{n:Nat}{x:List Nat}(h1:x.Nodup)(h2:∀i∈x,i<n):x.length≤n:=by
 have:=(List.nodup_range (n:=n))
 clear this;induction n generalizing x with
 |zero =>
  cases x with
  |nil=>simp
  |cons a t=>exact absurd (h2 a (by simp)) (Nat.not_lt_zero _)
 |succ n ih =>
  by_cases hn:n∈x
  ·have h3:=List.perm_cons_erase hn;have h4:(n::x.erase n).Nodup:=h3.nodup_iff.1 h1;have h5:=List.nodup_cons.1 h4;have:=ih h5.2 (fun i hi=>by
    have h6:=h2 i (h3.mem_iff.2 (by simp[hi]));have:i≠n:=fun e=>h5.1 (e▸hi);omega)
   rw[h3.length_eq];simp only[List.length_cons];omega
  ·have:=ih h1 (fun i hi=>by
    have h6:=h2 i hi;have:i≠n:=fun e=>hn (e▸hi);omega)
   omega
theorem IF{a:List Int}:(is a).all D.flat=true:=by simp[is,D.flat]
theorem Ub{cs:List AV}{off:Nat}{a:List Int}(h:BX ((cs.drop off).take a.length)=some (is a))(hl:a.length≤1000000) :
 Ai Tryz.prog 109 [.vs 0 off a.length] [(0,.var cs)] (.own 2001 a.length) [(0,.var cs),(2001,.row 3 1 (is a))] 1:=by
 refine Bo 8 [0,2001] Tryz.func109 He fun X_ ν_ w_=>?_;repeat (first|with_reducible exact Ev.nil|with_reducible exact E2|((with_reducible apply Cw);rfl)|((with_reducible apply AJ);rfl)|((with_reducible apply BH);rfl)|with_reducible apply BE|with_reducible apply Bu|with_reducible apply B5|((with_reducible apply DX (N:=8) rfl rfl);(focus simp only[Nat.reduceAdd]<;>rfl))|((with_reducible apply DV (N:=8) mixed rfl rfl);(focus simp only[Nat.reduceAdd]<;>rfl))|((with_reducible apply DU);(focus first|(apply BK;(focus rfl);rfl)|(apply BJ;(focus rfl);(focus rfl);rfl)))|((with_reducible apply Ct);(focus first|(apply BK;(focus rfl);rfl)|(apply BJ;(focus rfl);(focus rfl);rfl)))|with_reducible apply E3|with_reducible apply Cn|with_reducible apply Ck|with_reducible apply Cm|with_reducible apply Cj|((first|(with_reducible apply Cs)|(with_reducible apply By));(focus rfl))|((first|(with_reducible apply Cr)|(with_reducible apply Bx));(focus rfl))|((with_reducible apply D5);(focus simp only[Nat.reduceAdd]<;>rfl);(focus simp(disch:=omega)only[go_sem,h,IF,ne_eq]<;>rfl))|((first|(with_reducible apply Cp)|(with_reducible apply Cq));(focus simp only[Nat.reduceAdd]<;>rfl);(focus simp(disch:=omega)only[go_sem,h,IF,ne_eq]<;>rfl);(focus first|(simp(disch:=omega)only[go_sem,h,IF,ne_eq]<;>rfl)|rfl))|with_reducible apply BA|with_reducible apply BB|with_reducible apply BF|with_reducible apply BG|with_reducible apply B7|with_reducible apply B8|with_reducible apply B9|with_reducible apply Ba rfl|with_reducible apply Bd|with_reducible apply Be|with_reducible apply Bf|with_reducible apply Cu|with_reducible apply Cv|with_reducible apply AG|with_reducible apply B4|with_reducible apply Bz|with_reducible apply AH|with_reducible apply AI|((with_reducible apply DY);(focus first|(simp(disch:=omega)only[go_sem,h,IF,ne_eq]<;>rfl)|rfl))|((with_reducible apply DW);(focus first|(simp(disch:=omega)only[go_sem,h,IF,ne_eq]<;>rfl)|rfl))|((with_reducible apply BD);(focus rfl))|((with_reducible apply BC);(focus rfl);(focus rfl))|(with_reducible rfl)|((with_reducible show List.map Ad _=_);simp only[List.map_cons,List.map_nil,Ad,C5];rfl)|((with_reducible show AM _ _=true);kernel_rfl)|((with_reducible show _=_);simp(disch:=omega)only[go_sem,h,IF,ne_eq]<;>rfl)|((fail_if_success (with_reducible show Ev _ _ _ _ (_::_) _ _ _ _ _));(show Ev _ _ _ _ (_::_) _ _ _ _ _))|fail)
theorem dC{l:List Ru}(hok:∀r∈l,r.ok)(hlen:l.length≤1000000):A3 Tryz.prog 94 [.sl 3 (rs l)] (.sl 3 (rs (EY l))):=by
 refine A6 75 Tryz.func94 A4 fun X_ w_=>?_;refine Ao ?_;try exact trivial
 refine A8 (fun k:Nat=>k≤l.length) (fun k=>[(2,.d .nils),(3,.map 1000),(13,.d (.sl 3 (rs l))),(14,.d (.int .i64 l.length)),(15,.d (.int .i64 k))]) (fun k=>[(1000,.map 197 33 (em (AA (l.take k))))]) 2000 (fun k=>l.length-k) [2,3,13,14,15] [1000] 0 (Nat.zero_le _) rfl rfl (Nat.zero_le _) (fun _ _=>rfl) (fun _ _=>rfl) fun k hk=>?_;by_cases hk':k<l.length
 ·have hr:=Ke hok hk';have hst:=SX hk';have hms:=RF (l.take k);have c1:=Xc hr;have mk:=eq_true (cX hms (Hx (l[k]!).left) (Hx (l[k]!).right));have mg:=YS hms.1 (s8 (l[k]!).left) (s8 (l[k]!).right);cases hrk:JB (l[k]!)
  ·rw[hrk]at hst c1;simp only[Bool.false_eq_true,if_false]at hst;unfold bd at c1 mk mg;cases hf:LQ (AA (l.take k)) (s8 (l[k]!).left) (s8 (l[k]!).right)with
   |none =>
    rw[hf]at mg;simp only[Option.map_none]at mg;have c0_:=c1;refine Au (And.intro @mk @mg) ?_;try exact trivial
    refine⟨k+1,by omega,?_,?_,by omega⟩
    ·exact Ei
    ·exact Hq @hst
   |some c =>
    rw[hf]at mg;simp only[Option.map_some]at mg;have c0_:=c1;refine Au (And.intro @mk @mg) ?_;try exact trivial
    refine⟨k+1,by omega,?_,?_,by omega⟩
    ·exact Ei
    ·exact Hq @hst
  ·rw[hrk]at hst c1;simp only[if_true]at hst;obtain⟨s1,s2,_,_⟩:=IS.1 hrk;have mp:=YU hms.1 (l[k]!);rw[Tc s1,Tc s2]at c1 mk mg;unfold bd at c1 mk mg mp;cases hf:LQ (AA (l.take k)) (l[k]!).left (l[k]!).right with
   |none =>
    rw[hf]at mg;simp only[Option.map_none]at mg;rw[Vr hf]at hst;have c0_:=c1;refine Au (And.intro @mk (And.intro @mg @mp)) ?_;try exact trivial
    refine⟨k+1,by omega,?_,?_,by omega⟩
    ·exact Ei
    ·exact Hq @hst
   |some c =>
    rw[hf]at mg;simp only[Option.map_some]at mg;by_cases hc:(l[k]!).cost<c
    ·rw[Vq hf hc]at hst;have c0_:=c1;refine Au (And.intro @mk (And.intro @mg @mp)) ?_;try exact trivial
     refine⟨k+1,by omega,?_,?_,by omega⟩
     ·exact Ei
     ·exact Hq @hst
    ·rw[Vp hf hc]at hst;have c0_:=c1;refine Au (And.intro @mk (And.intro @mg @mp)) ?_;try exact trivial
     refine⟨k+1,by omega,?_,?_,by omega⟩
     ·exact Ei
     ·exact Hq @hst
 ·have hkl:k=l.length:=by omega
  subst hkl;rw[List.take_length];refine Ao ?_;try exact trivial
  have hperm:=L2 l;have hrise:=Vo l;have hms:=RF l;have hmo:∀r∈AA l,r.ok:=fun r hr=>U7 hok r (hperm.mem_iff.2 hr);have hml:(AA l).length≤1000000:=by rw[← hperm.length_eq];exact Nat.le_trans (RG l) hlen
  by_cases hne:0<(AA l).length
  ·refine Jk 2 4000 77 3 rfl (by decide) (Nat.le_refl _) ?_;refine A8 (fun x:List Nat=>x.Nodup∧∀i∈x,i<(AA l).length) (fun x=>[(2,.own 4000 x.length),(47,.it 3001)]) (fun x=>[(4000,.row 77 3 (rs (x.map ((AA l)[·]!)))),(3001,.iter 1000 (em (AA l)).length x),(1000,.map 197 33 (em (AA l)))]) 5000 (fun x=>(AA l).length-x.length) [2,47] [4000,3001,1000] [] ⟨List.nodup_nil,by simp⟩ rfl rfl (Nat.le_of_ble_eq_true rfl) (fun _ _=>rfl) (fun _ _=>rfl) fun x hx=>?_;obtain⟨hx1,hx2⟩:=hx;refine Bu (Tx (n:=75) rfl rfl rfl rfl rfl rfl (fun i kd vd h1 h2=>?_) (fun h1=>?_))
   ·obtain⟨hi,rfl,rfl⟩:=aL h1;obtain⟨f1,f2⟩:=Ii (hms.1 ((AA l)[i]!) (by rw[getElem!_pos (AA l) i hi];exact List.getElem_mem hi));have l1:=f1.1;have l2:=f2.1;unfold bd at h1 ⊢;have v1:=Pb f1.1 [.d (.int .i64 ((AA l)[i]!).right.length),.d (.int .i64 (gi ((AA l)[i]!).right 0)),.d (.int .i64 (gi ((AA l)[i]!).right 1)),.d (.int .i64 (gi ((AA l)[i]!).right 2)),.d (.int .i64 (gi ((AA l)[i]!).right 3)),.d (.int .i64 (gi ((AA l)[i]!).right 4)),.d (.int .i64 (gi ((AA l)[i]!).right 5)),.d (.int .i64 (gi ((AA l)[i]!).right 6)),.d (.int .i64 (gi ((AA l)[i]!).right 7))];have v2:=Pb f2.1 [];have k1:=Ub (cs:=[.d (.int .i64 ((AA l)[i]!).left.length),.d (.int .i64 (gi ((AA l)[i]!).left 0)),.d (.int .i64 (gi ((AA l)[i]!).left 1)),.d (.int .i64 (gi ((AA l)[i]!).left 2)),.d (.int .i64 (gi ((AA l)[i]!).left 3)),.d (.int .i64 (gi ((AA l)[i]!).left 4)),.d (.int .i64 (gi ((AA l)[i]!).left 5)),.d (.int .i64 (gi ((AA l)[i]!).left 6)),.d (.int .i64 (gi ((AA l)[i]!).left 7)),.d (.int .i64 ((AA l)[i]!).right.length),.d (.int .i64 (gi ((AA l)[i]!).right 0)),.d (.int .i64 (gi ((AA l)[i]!).right 1)),.d (.int .i64 (gi ((AA l)[i]!).right 2)),.d (.int .i64 (gi ((AA l)[i]!).right 3)),.d (.int .i64 (gi ((AA l)[i]!).right 4)),.d (.int .i64 (gi ((AA l)[i]!).right 5)),.d (.int .i64 (gi ((AA l)[i]!).right 6)),.d (.int .i64 (gi ((AA l)[i]!).right 7))]) (off:=1) (a:=((AA l)[i]!).left) v1 (by omega);have k2:=Ub (cs:=[.d (.int .i64 ((AA l)[i]!).left.length),.d (.int .i64 (gi ((AA l)[i]!).left 0)),.d (.int .i64 (gi ((AA l)[i]!).left 1)),.d (.int .i64 (gi ((AA l)[i]!).left 2)),.d (.int .i64 (gi ((AA l)[i]!).left 3)),.d (.int .i64 (gi ((AA l)[i]!).left 4)),.d (.int .i64 (gi ((AA l)[i]!).left 5)),.d (.int .i64 (gi ((AA l)[i]!).left 6)),.d (.int .i64 (gi ((AA l)[i]!).left 7)),.d (.int .i64 ((AA l)[i]!).right.length),.d (.int .i64 (gi ((AA l)[i]!).right 0)),.d (.int .i64 (gi ((AA l)[i]!).right 1)),.d (.int .i64 (gi ((AA l)[i]!).right 2)),.d (.int .i64 (gi ((AA l)[i]!).right 3)),.d (.int .i64 (gi ((AA l)[i]!).right 4)),.d (.int .i64 (gi ((AA l)[i]!).right 5)),.d (.int .i64 (gi ((AA l)[i]!).right 6)),.d (.int .i64 (gi ((AA l)[i]!).right 7))]) (off:=10) (a:=((AA l)[i]!).right) v2 (by omega);have gl:(x++[i]).getLast? =some i:=List.getLast?_concat
    have hxl:=RV hx1 hx2;have hxn:(x++[i]).Nodup:=by
     rw[List.nodup_append];exact⟨hx1,by simp,fun a ha b hb e=>h2 (by simp at hb;rw[← hb,← e];exact ha)⟩
    have hxb:∀j∈x++[i],j<(AA l).length:=fun j hj=>by
     rcases List.mem_append.1 hj with h|h
     ·exact hx2 j h
     ·rw[List.mem_singleton.1 h];exact hi
    have hxm:=RV hxn hxb;simp only[List.length_append,List.length_cons,List.length_nil]at hxm;have c0_:=k1;have c1_:=k2;refine Au (And.intro @gl @h1) ?_;try exact trivial
    refine⟨x++[i],⟨hxn,hxb⟩,?_,?_,by simp only[List.length_append,List.length_cons,List.length_nil];omega⟩
    ·exact GL
    ·simp(disch:=omega)only[go_sem,AC,List.map_append]
   ·have hps:=VE hx1 hx2 (fun i hi=>h1 i (by rw[aM];exact hi));have hxn:(EY l).length=x.length:=by rw[hperm.length_eq,hps.length_eq,List.length_map]
    have ps:=dK (xs:=x.map ((AA l)[·]!)) (ys:=EY l) (fun r hr=>hmo r (hps.mem_iff.2 hr)) (by rw[List.length_map,← hxn,hperm.length_eq];exact hne) (by rw[List.length_map,← hxn,hperm.length_eq];omega) (hperm.trans hps) hrise;rw[List.length_map]at ps;have c0_:=ps;refine Au @hxn ?_;try exact trivial
  ·have h0:AA l=[]:=List.eq_nil_of_length_eq_zero (by omega);have h00:EY l=[]:=List.eq_nil_of_length_eq_zero (by rw[hperm.length_eq];omega);rw[h0,h00];refine ap 2 3 rfl ?_;refine De ?_;refine Bu (Tx (n:=75) rfl rfl rfl rfl rfl rfl (fun i kd vd h1 h2=>?_) (fun h1=>?_))
   ·simp[em]at h1
   ·have c0_:=bN;refine Ao ?_;try exact trivial
end Go.Eng.Tryz
namespace Go.Eng.Tryz
attribute [local go_sem] Aq As Ch Cg Qh
def LP(r:Ru):Bool:=decide (r.left.length≤100)&&decide (r.right.length≤100)
theorem aQ{r:Ru}(h1:r.left.length≤100)(h2:r.right.length≤100):LP r=true:=by simp[LP,h1,h2]
theorem Wp{r:Ru}(h:¬(r.left.length≤100∧r.right.length≤100)):LP r=false:=by
 cases hf:LP r with
 |false=>rfl
 |true=>simp[LP]at hf;exact absurd hf h
def Wq(l:List Ru)(n:Int):Bool:=l.all LP&&decide ((l.length:Int)≤n)
theorem UX{l:List Ru}{k:Nat}(h:k<l.length):(l.take (k+1)).all LP=((l.take k).all LP&&LP (l[k]!)):=by
 rw[List.take_add_one,List.all_append,List.getElem?_eq_getElem h,← getElem!_pos l k h];generalize l[k]! =z;simp
theorem aR{l:List Ru}{k:Nat}{n:Int}(h:k<l.length)(hf:LP (l[k]!)=false):Wq l n=false:=by
 have hm:l[k]!∈l:=by rw[getElem!_pos l k h];exact List.getElem_mem h
 cases hh:Wq l n with
 |false=>rfl
 |true =>
  simp only[Wq,Bool.and_eq_true,List.all_eq_true]at hh;have:=hh.1 _ hm;rw[hf]at this;cases this
end Go.Eng.Tryz

/- The automaton that has a state for each beginning of words: what it is, plainly. (and what stands behind it: texts laid together) -/
import Derived.Test.YtooblcpmpemhfaaGreatDoorMR5
import Derived.Test.YtooblcpmpemhfaaGreatDoorMR7
import Derived.Test.YtooblcpmpemhfaaGreatDoorMG4
set_option linter.unusedVariables false
set_option linter.unusedSimpArgs false
open Go Go.Eng Go.Proofs Go.RowKit
set_option maxHeartbeats 32000000
set_option maxRecDepth 100000
namespace Go.Eng.Tryz
def cov(L:List (List Int))(n i j:Nat):Nat:=if j<i∧n<(L[j]!).length then n+1 else n
def Js(u v:List Int):Prop:=u.length<v.length∨u.length=v.length∧Aj u v<0
structure Cf(L:List (List Int))(n i:Nat)(s:TS)(B:List (List Int)):Prop where
 len:B.length=s.out.length
 atl:s.at_.length=L.length
 root:B[0]? =some []
 atv:∀j,j<L.length→n≤(L[j]!).length→0≤s.at_[j]!∧B[(s.at_[j]!).toNat]? =some ((L[j]!).take (cov L n i j))
 srt:B.Pairwise Js
 mem:∀u,u∈B↔u=[]∨∃j,j<L.length∧∃k,k≤(L[j]!).length∧k≤cov L n i j∧u=(L[j]!).take k
 map:∀z f t,DL s.m ⟨z,f⟩=some t→0≤t∧0≤f∧∃u,B[f.toNat]? =some u∧B[t.toNat]? =some (u++[z])
 mapn:∀z f u,0≤f→B[f.toNat]? =some u→u.length=n→u++[z]∈B→∃t,DL s.m ⟨z,f⟩=some t
 fin:∀(k:Nat) (u:List Int),B[k]? =some u→((s.out[k]!).final=true↔∃j,j<L.length∧L[j]! =u∧u.length≤cov L n i j)
 arcs:∀(k:Nat) (u:List Int),B[k]? =some u→∀a,a∈(s.out[k]!).arcs↔0≤a.to∧B[a.to.toNat]? =some (u++[a.sign])
 ris:∀(k:Nat) (u:List Int),B[k]? =some u→(s.out[k]!).arcs.Pairwise fun a b=>a.sign<b.sign
theorem Js.irr(u:List Int):¬Js u u:=fun h=>by
 rcases h with h|⟨_,h⟩
 ·omega
 ·have:=(C2 u u).2 rfl;omega
theorem GA{B:List (List Int)}(h:B.Pairwise Js){i j:Nat}{u:List Int}(hi:B[i]? =some u)(hj:B[j]? =some u):i=j:=by
 obtain⟨h1,e1⟩:=List.getElem?_eq_some_iff.1 hi;obtain⟨h2,e2⟩:=List.getElem?_eq_some_iff.1 hj;rcases Nat.lt_trichotomy i j with h3|h3|h3
 ·have:=List.pairwise_iff_getElem.1 h i j h1 h2 h3;rw[e1,e2]at this;exact absurd this (Js.irr u)
 ·exact h3
 ·have:=List.pairwise_iff_getElem.1 h j i h2 h1 h3;rw[e1,e2]at this;exact absurd this (Js.irr u)
theorem Ha:∀{a b:List Int} (k:Nat),Aj a b<0→Aj (a.take k) (b.take k)<0∨a.take k=b.take k
 |a,b,0,_=>.inr (by simp)
 | [],b,k+1,h=>by
   cases b with
   |nil=>exact absurd h (Ly [])
   |cons y b=>left;simp only[List.take_nil,List.take_succ_cons];simp[Aj]
 |x::a,b,k+1,h=>by
  cases b with
  |nil=>exact absurd h (Ly _)
  |cons y b =>
   simp only[List.take_succ_cons];by_cases h1:x<y
   ·left;have:=F5 (a:=x) (b:=y) h1 [] (a.take k) (b.take k);simpa using this
   ·by_cases h2:x=y
    ·subst h2;have h3:Aj a b<0:=by have:=Dt [x] a b;simp only[List.singleton_append]at this;omega
     rcases Ha k h3 with h4|h4
     ·left;have:=Dt [x] (a.take k) (b.take k);simp only[List.singleton_append]at this;omega
     ·right;rw[h4]
    ·exfalso;have:=F5 (a:=y) (b:=x) (by omega) [] b a;simp only[List.nil_append]at this;have e:=Ao (x::a) (y::b);omega
theorem Iz{w:List Int}{n:Nat}(h:n<w.length):w.take (n+1)=w.take n++[w[n]!]:=Ak h
structure Tr(L:List (List Int)):Prop where
 srt:CF L
 pos:∀j,j<L.length→0<(L[j]!).length
theorem PY{L:List (List Int)}{n i:Nat}(h:¬n<(L[i]!).length)(j:Nat):cov L n (i+1) j=cov L n i j:=by
 unfold cov;by_cases e:j=i
 ·subst e;rw[if_neg (fun x=>h x.2),if_neg (fun x=>h x.2)]
 ·have:(j<i+1∧n<(L[j]!).length)↔(j<i∧n<(L[j]!).length):=by omega
  simp only[this]
theorem RH{L:List (List Int)}{n i:Nat}(h:n<(L[i]!).length):cov L n (i+1) i=n+1∧cov L n i i=n:=by
 unfold cov;rw[if_pos ⟨by omega,h⟩,if_neg (by omega)];exact⟨rfl,rfl⟩
theorem RG{L:List (List Int)}{n i j:Nat}(h:j≠i):cov L n (i+1) j=cov L n i j:=by
 unfold cov;have:(j<i+1∧n<(L[j]!).length)↔(j<i∧n<(L[j]!).length):=by omega
 simp only[this]
theorem Ll(L:List (List Int))(n i j:Nat):n≤cov L n i j∧cov L n i j≤n+1:=by unfold cov;split<;>omega
theorem SG{L:List (List Int)}{n i j:Nat}(h:cov L n i j=n+1):j<i∧n<(L[j]!).length:=by
 unfold cov at h;split at h
 ·assumption
 ·omega
theorem PO{α:Type}[Inhabited α]{l:List α}{k:Nat}{x:α}(h:l[k]? =some x):l[k]! =x:=by
 simp[List.getElem!_eq_getElem?_getD,h]
theorem Cf.same{L:List (List Int)}{n i:Nat}{s:TS}{B:List (List Int)}(h:Cf L n i s B)(hn:¬n<(L[i]!).length):Cf L n (i+1) s B:=by
 have e:=PY hn;obtain⟨a1,a2,a3,a4,a5,a6,a7,a8,a9,a10,a11⟩:=h;exact⟨a1,a2,a3,fun j h1 h2=>by rw[e];exact a4 j h1 h2,a5,fun u=>by simp only[e];exact a6 u,a7,a8,fun k u hk=>by simp only[e];exact a9 k u hk,a10,a11⟩
theorem He{l:List AB}{t:Nat}{b:Bool}(ht:t<l.length)(k:Nat):((BV l t b)[k]!).final=(if k=t then(l[k]!).final||b else(l[k]!).final):=by
 unfold BV;rw[Av ht];split
 ·rename_i e;subst e;rfl
 ·rfl
theorem Cf.go{L:List (List Int)}{n i:Nat}{s:TS}{B:List (List Int)}{t:Int}(h:Cf L n i s B)(hi:i<L.length)(hn:n<(L[i]!).length)(ht:DL s.m ⟨(L[i]!)[n]!,s.at_[i]!⟩=some t) :
 Cf L n (i+1) ⟨BV s.out t.toNat (decide (n+1=(L[i]!).length)),s.at_.set i t,s.m⟩ B:=by
 obtain⟨a1,a2,a3,a4,a5,a6,a7,a8,a9,a10,a11⟩:=h;obtain⟨c1,c2⟩:=RH hn;obtain⟨f1,f2⟩:=a4 i hi (by omega);rw[c2]at f2;obtain⟨t1,_,u,t2,t3⟩:=a7 _ _ _ ht;rw[f2]at t2;cases t2;rw[← Iz hn]at t3;have htl:t.toNat<s.out.length:=by rw[← a1];exact(List.getElem?_eq_some_iff.1 t3).1
 have hcov:∀j,j≠i→cov L n (i+1) j=cov L n i j:=fun j hj=>RG hj;refine⟨by rw[BE];exact a1,by simp[a2],a3,fun j h1 h2=>?_,a5,fun v=>?_,a7,a8,fun k v hk=>?_,fun k v hk a=>?_,fun k v hk=>?_⟩
 ·simp only;rw[Av (by rw[a2];exact hi)];by_cases e:j=i
  ·subst e;rw[if_pos rfl,c1];exact⟨t1,t3⟩
  ·rw[if_neg e,hcov j e];exact a4 j h1 h2
 ·rw[a6];refine or_congr Iff.rfl ⟨fun⟨j,h1,k,h2,h3,h4⟩=>⟨j,h1,k,h2,?_,h4⟩,fun⟨j,h1,k,h2,h3,h4⟩=>?_⟩
  ·by_cases e:j=i
   ·subst e;omega
   ·rw[hcov j e];exact h3
  ·by_cases e:j=i
   ·subst e;rw[c1]at h3;by_cases hk:k≤n
    ·exact⟨j,h1,k,h2,by omega,h4⟩
    ·have:k=n+1:=by omega
     subst this;have hm:v∈B:=by rw[h4];exact List.mem_of_getElem? t3
     rcases(a6 v).1 hm with h5|h5
     ·rw[h5]at h4;have:=congrArg List.length h4;simp only[List.length_nil,List.length_take]at this;omega
     ·exact h5
   ·rw[hcov j e]at h3;exact⟨j,h1,k,h2,h3,h4⟩
 ·rw[He htl];by_cases e:k=t.toNat
  ·rw[if_pos e];subst e;rw[t3]at hk;cases hk;rw[Bool.or_eq_true,a9 _ _ t3,decide_eq_true_eq];constructor
   ·rintro(⟨j,h1,h2,h3⟩|h1)
    ·refine⟨j,h1,h2,?_⟩;by_cases e:j=i
     ·subst e;omega
     ·rw[hcov j e];exact h3
    ·exact⟨i,hi,by rw[h1,List.take_length],by rw[c1];simp only[List.length_take];omega⟩
   ·rintro⟨j,h1,h2,h3⟩;by_cases e:j=i
    ·subst e;right;have:=congrArg List.length h2;simp only[List.length_take]at this;omega
    ·left;rw[hcov j e]at h3;exact⟨j,h1,h2,h3⟩
  ·rw[if_neg e,a9 k v hk];constructor
   ·rintro⟨j,h1,h2,h3⟩;refine⟨j,h1,h2,?_⟩;by_cases e:j=i
    ·subst e;omega
    ·rw[hcov j e];exact h3
   ·rintro⟨j,h1,h2,h3⟩;by_cases e2:j=i
    ·exfalso;subst e2;rw[c1]at h3;have hl:v.length=n+1:=by rw[← h2]at h3 ⊢;omega
     have hv:v=(L[j]!).take (n+1):=by rw[h2,List.take_of_length_le (by omega)]
     rw[hv]at hk;exact e (GA a5 hk t3)
    ·rw[hcov j e2]at h3;exact⟨j,h1,h2,h3⟩
 ·rw[Cn];exact a10 k v hk a
 ·rw[Cn];exact a11 k v hk
theorem ME{m:List (Ar×Int)}{a b:Ar}{t:Int}(h:DL m b=none):DL (m++[(b,t)]) a=if a=b then some t else DL m a:=by
 induction m with
 |nil=>simp only[List.nil_append,DL];by_cases e:a=b<;>simp[e,eq_comm]
 |cons x m ih =>
  simp only[DL]at h;split at h
  ·cases h
  ·rename_i hx;simp only[List.cons_append,DL];by_cases e:x.1=a
   ·rw[if_pos e,if_pos e,if_neg (fun e2=>hx (e.trans e2))]
   ·rw[if_neg e,if_neg e];exact ih h
theorem Cf.long{L:List (List Int)}{n i:Nat}{s:TS}{B:List (List Int)}(h:Cf L n i s B){v:List Int}(hv:v∈B):v.length≤n+1∧(v.length=n+1→∃j,j<i∧j<L.length∧n<(L[j]!).length∧v=(L[j]!).take (n+1)):=by
 rcases(h.mem v).1 hv with h1|⟨j,h1,k,h2,h3,h4⟩
 ·subst h1;simp
 ·have hl:v.length=k:=by rw[h4,List.length_take];omega
  have hc:=Ll L n i j;refine⟨by omega,fun h5=>?_⟩;have hk:k=n+1:=by omega
  subst hk;obtain⟨h6,h7⟩:=SG (show cov L n i j=n+1 by omega);exact⟨j,h6,h1,h7,h4⟩
theorem Cf.new{L:List (List Int)}{n i:Nat}{s:TS}{B:List (List Int)}(hL:Tr L)(h:Cf L n i s B)(hi:i<L.length)(hn:n<(L[i]!).length)(ht:DL s.m ⟨(L[i]!)[n]!,s.at_[i]!⟩=none) :
 Cf L n (i+1) ⟨BV (BL (s.out++[⟨false,[]⟩]) (s.at_[i]!).toNat ⟨(L[i]!)[n]!,s.out.length⟩) s.out.length (decide (n+1=(L[i]!).length)),s.at_.set i s.out.length,s.m++[((⟨(L[i]!)[n]!,s.at_[i]!⟩:Ar),(s.out.length:Int))]⟩ (B++[(L[i]!).take (n+1)]):=by
 have h0:=h;obtain⟨a1,a2,a3,a4,a5,a6,a7,a8,a9,a10,a11⟩:=h;obtain⟨c1,c2⟩:=RH hn;obtain⟨f1,f2⟩:=a4 i hi (by omega);rw[c2]at f2;have hcov:∀j,j≠i→cov L n (i+1) j=cov L n i j:=fun j hj=>RG hj;have hx:(L[i]!).take (n+1)=(L[i]!).take n++[(L[i]!)[n]!]:=Iz hn;have hxl:((L[i]!).take (n+1)).length=n+1:=by rw[List.length_take];omega
 have hun:((L[i]!).take n).length=n:=by rw[List.length_take];omega
 have hnew:(L[i]!).take (n+1)∉B:=fun hm=>by
  rw[hx]at hm;obtain⟨t,h1⟩:=a8 _ _ _ f1 f2 hun hm;rw[ht]at h1;cases h1
 have hfl:(s.at_[i]!).toNat<s.out.length:=by rw[← a1];exact(List.getElem?_eq_some_iff.1 f2).1
 have hlast:(B++[(L[i]!).take (n+1)])[s.out.length]? =some ((L[i]!).take (n+1)):=by rw[← a1,List.getElem?_append_right (Nat.le_refl _),Nat.sub_self];rfl
 have hold:∀(k:Nat) (u:List Int),B[k]? =some u→(B++[(L[i]!).take (n+1)])[k]? =some u:=fun k u hk=>by rw[List.getElem?_append_left (List.getElem?_eq_some_iff.1 hk).1];exact hk
 have hcase:∀k u,(B++[(L[i]!).take (n+1)])[k]? =some u→B[k]? =some u∨k=s.out.length∧u=(L[i]!).take (n+1):=fun k u hk=>by
  by_cases hlt:k<B.length
  ·rw[List.getElem?_append_left hlt]at hk;exact .inl hk
  ·rw[List.getElem?_append_right (by omega)]at hk;have hl:=(List.getElem?_eq_some_iff.1 hk).1;simp only[List.length_cons,List.length_nil]at hl;have e:k-B.length=0:=by omega
   rw[e]at hk;simp only[List.getElem?_cons_zero,Option.some.injEq]at hk;exact .inr ⟨by omega,hk.symm⟩
 have hord:∀v∈B,Js v ((L[i]!).take (n+1)):=fun v hv=>by
  obtain⟨h1,h2⟩:=h0.long hv;by_cases h3:v.length=n+1
  ·right;refine⟨by omega,?_⟩;obtain⟨j,j1,j2,j3,j4⟩:=h2 h3;have hlt:=hL.srt.at j1 hi;rcases Ha (n+1) hlt with h4|h4
   ·rw[j4];exact h4
   ·rw[← h4,← j4]at hnew;exact absurd hv hnew
  ·left;omega
 have hsrt:(B++[(L[i]!).take (n+1)]).Pairwise Js:=by
  rw[List.pairwise_append];exact⟨a5,by simp,fun v hv u hu=>by simp only[List.mem_singleton]at hu;subst hu;exact hord v hv⟩
 have elen:(BL (s.out++[⟨false,[]⟩]) (s.at_[i]!).toNat ⟨(L[i]!)[n]!,s.out.length⟩).length=s.out.length+1:=by rw[Gr];simp
 have eadd:∀k,k<s.out.length→(BL (s.out++[⟨false,[]⟩]) (s.at_[i]!).toNat ⟨(L[i]!)[n]!,s.out.length⟩)[k]! =if k=(s.at_[i]!).toNat then⟨(s.out[k]!).final,(s.out[k]!).arcs++[⟨(L[i]!)[n]!,s.out.length⟩]⟩else s.out[k]! :=fun k hk=>by
  have e1:∀q,q<s.out.length→(s.out++[(⟨false,[]⟩:AB)])[q]! =s.out[q]! :=fun q hq=>by
   simp only[List.getElem!_eq_getElem?_getD,List.getElem?_append_left hq]
  unfold BL;rw[Av (by simp only[List.length_append,List.length_cons,List.length_nil];omega),e1 _ hfl];split
  ·rename_i e;rw[e]
  ·exact e1 k hk
 have eaddN:(BL (s.out++[⟨false,[]⟩]) (s.at_[i]!).toNat ⟨(L[i]!)[n]!,s.out.length⟩)[s.out.length]! =⟨false,[]⟩:=by
  unfold BL;rw[Av (by simp only[List.length_append,List.length_cons,List.length_nil];omega),if_neg (by omega)];simp[List.getElem!_eq_getElem?_getD]
 have efin:∀k,k<s.out.length→((BV (BL (s.out++[⟨false,[]⟩]) (s.at_[i]!).toNat ⟨(L[i]!)[n]!,s.out.length⟩) s.out.length (decide (n+1=(L[i]!).length)))[k]!).final=(s.out[k]!).final:=fun k hk=>by
  rw[He (by omega),if_neg (by omega),eadd k hk];split<;>rfl
 have efinN:((BV (BL (s.out++[⟨false,[]⟩]) (s.at_[i]!).toNat ⟨(L[i]!)[n]!,s.out.length⟩) s.out.length (decide (n+1=(L[i]!).length)))[s.out.length]!).final=decide (n+1=(L[i]!).length):=by
  rw[He (by omega),if_pos rfl,eaddN];rfl
 refine⟨by rw[BE,elen];simp[a1],by simp[a2],hold 0 [] a3,fun j h1 h2=>?_,hsrt,fun v=>?_,fun z f t hm=>?_,fun z f u hf hu hul hm=>?_,fun k v hk=>?_,fun k v hk a=>?_,fun k v hk=>?_⟩
 ·simp only;rw[Av (by rw[a2];exact hi)];by_cases e:j=i
  ·subst e;rw[if_pos rfl,c1];exact⟨by omega,by rw[Int.toNat_natCast];exact hlast⟩
  ·rw[if_neg e,hcov j e];obtain⟨g1,g2⟩:=a4 j h1 h2;exact⟨g1,hold _ _ g2⟩
 ·rw[List.mem_append,a6,List.mem_singleton];constructor
  ·rintro((h1|⟨j,h1,k,h2,h3,h4⟩)|h1)
   ·exact .inl h1
   ·refine .inr ⟨j,h1,k,h2,?_,h4⟩;by_cases e:j=i
    ·subst e;omega
    ·rw[hcov j e];exact h3
   ·exact .inr ⟨i,hi,n+1,hn,by omega,h1⟩
  ·rintro(h1|⟨j,h1,k,h2,h3,h4⟩)
   ·exact .inl (.inl h1)
   ·by_cases e:j=i
    ·subst e;by_cases hk:k≤n
     ·exact .inl (.inr ⟨j,h1,k,h2,by omega,h4⟩)
     ·have:k=n+1:=by omega
      subst this;exact .inr h4
    ·rw[hcov j e]at h3;exact .inl (.inr ⟨j,h1,k,h2,h3,h4⟩)
 ·simp only at hm;rw[ME ht]at hm;split at hm
  ·rename_i e;cases hm;cases e;exact⟨by omega,f1,_,hold _ _ f2,by rw[Int.toNat_natCast,← hx];exact hlast⟩
  ·obtain⟨g1,g2,u,g3,g4⟩:=a7 _ _ _ hm;exact⟨g1,g2,u,hold _ _ g3,hold _ _ g4⟩
 ·simp only;rw[ME ht];split
  ·exact⟨_,rfl⟩
  ·rename_i hne;have hu0:B[f.toNat]? =some u:=by
    rcases hcase _ _ hu with h1|⟨_,h2⟩
    ·exact h1
    ·rw[h2]at hul;omega
   rw[List.mem_append,List.mem_singleton]at hm;rcases hm with hm|hm
   ·exact a8 _ _ _ hf hu0 hul hm
   ·exfalso;rw[hx]at hm;obtain⟨e1,e2⟩:=List.append_inj' hm rfl;have e3:z=(L[i]!)[n]! :=by simpa using e2
    rw[e1]at hu0;have e4:=GA a5 hu0 f2;apply hne;rw[e3];congr 1;omega
 ·rcases hcase _ _ hk with hkB|⟨rfl,rfl⟩
  ·have hkl:k<s.out.length:=by rw[← a1];exact(List.getElem?_eq_some_iff.1 hkB).1
   rw[efin k hkl,a9 k v hkB];constructor
   ·rintro⟨j,h1,h2,h3⟩;refine⟨j,h1,h2,?_⟩;by_cases e:j=i
    ·subst e;omega
    ·rw[hcov j e];exact h3
   ·rintro⟨j,h1,h2,h3⟩;by_cases e2:j=i
    ·exfalso;subst e2;rw[c1]at h3;have hl:v.length=n+1:=by rw[← h2]at h3 ⊢;omega
     have hv:v=(L[j]!).take (n+1):=by rw[h2,List.take_of_length_le (by omega)]
     rw[hv]at hkB;exact hnew (List.mem_of_getElem? hkB)
    ·rw[hcov j e2]at h3;exact⟨j,h1,h2,h3⟩
  ·rw[efinN,decide_eq_true_eq,hxl];constructor
   ·intro h1;exact⟨i,hi,by rw[h1,List.take_length],by omega⟩
   ·rintro⟨j,h1,h2,h3⟩;by_cases e2:j=i
    ·subst e2;have:=congrArg List.length h2;rw[hxl]at this;exact this.symm
    ·exfalso;rw[hcov j e2]at h3;have hc:=Ll L n i j;have hl:=congrArg List.length h2;rw[hxl]at hl;have:(L[i]!).take (n+1)∈B:=(a6 _).2 (.inr ⟨j,h1,n+1,by omega,by omega,by rw[← h2,List.take_of_length_le (by omega)]⟩);exact hnew this
 ·rw[Cn];rcases hcase _ _ hk with hk|⟨rfl,rfl⟩
  ·have hkl:k<s.out.length:=by rw[← a1];exact(List.getElem?_eq_some_iff.1 hk).1
   have key:(0≤a.to∧(B++[(L[i]!).take (n+1)])[a.to.toNat]? =some (v++[a.sign]))↔(0≤a.to∧B[a.to.toNat]? =some (v++[a.sign]))∨(k=(s.at_[i]!).toNat∧a=⟨(L[i]!)[n]!,s.out.length⟩):=by
    constructor
    ·rintro⟨h1,h2⟩;rcases hcase _ _ h2 with h3|⟨h3,h4⟩
     ·exact .inl ⟨h1,h3⟩
     ·right;rw[hx]at h4;obtain⟨e1,e2⟩:=List.append_inj' h4 rfl;have e3:a.sign=(L[i]!)[n]! :=by simpa using e2
      rw[e1]at hk;refine⟨GA a5 hk f2,?_⟩;cases a;simp only at e3 h3 h1 ⊢;rw[e3];congr 1;omega
    ·rintro(⟨h1,h2⟩|⟨h1,h2⟩)
     ·exact⟨h1,hold _ _ h2⟩
     ·subst h1 h2;rw[f2]at hk;cases hk;exact⟨by simp,by simp only[Int.toNat_natCast];rw[← hx];exact hlast⟩
   rw[key,eadd k hkl];by_cases e:k=(s.at_[i]!).toNat
   ·rw[if_pos e];simp only[List.mem_append,List.mem_singleton,a10 k v hk a];simp only[e,true_and]
   ·rw[if_neg e,a10 k v hk a];simp only[e,false_and,or_false]
  ·rw[eaddN];simp only[List.not_mem_nil,false_iff,not_and];intro _ h2;have hm:=List.mem_of_getElem? h2;rw[List.mem_append,List.mem_singleton]at hm;rcases hm with hm|hm
   ·have:=(h0.long hm).1;simp only[List.length_append,hxl,List.length_cons,List.length_nil]at this;omega
   ·have:=congrArg List.length hm;simp only[List.length_append,hxl,List.length_cons,List.length_nil]at this;omega
 ·rw[Cn];rcases hcase _ _ hk with hk|⟨rfl,rfl⟩
  ·have hkl:k<s.out.length:=by rw[← a1];exact(List.getElem?_eq_some_iff.1 hk).1
   rw[eadd k hkl];by_cases e:k=(s.at_[i]!).toNat
   ·rw[if_pos e];simp only;rw[List.pairwise_append];refine⟨a11 k v hk,by simp,fun a ha b hb=>?_⟩;simp only[List.mem_singleton]at hb;subst hb;subst e;rw[f2]at hk;cases hk;obtain⟨_,h2⟩:=(a10 _ _ f2 a).1 ha;have:=hord _ (List.mem_of_getElem? h2);rcases this with h3|⟨_,h3⟩
    ·simp only[List.length_append,hun,hxl,List.length_cons,List.length_nil]at h3;omega
    ·rw[hx,Dt]at h3;simp only;by_cases h4:a.sign<(L[i]!)[n]!
     ·exact h4
     ·exfalso;by_cases h5:a.sign=(L[i]!)[n]!
      ·rw[h5]at h3;have:=(C2 [(L[i]!)[n]!] [(L[i]!)[n]!]).2 rfl;omega
      ·have h6:=F5 (a:=(L[i]!)[n]!) (b:=a.sign) (by omega) [] [] [];simp only[List.nil_append]at h6;have h7:=Ao [a.sign] [(L[i]!)[n]!];omega
   ·rw[if_neg e];exact a11 k v hk
  ·rw[eaddN];exact List.Pairwise.nil
theorem Cf.word{L:List (List Int)}{n i:Nat}{s:TS}{B:List (List Int)}(hL:Tr L)(h:Cf L n i s B)(hi:i<L.length):∃B',Cf L n (i+1) (EV L n i s) B':=by
 unfold EV;by_cases hn:n<(L[i]!).length
 ·rw[if_pos hn];cases ht:DL s.m ⟨(L[i]!)[n]!,s.at_[i]!⟩with
  |none=>exact⟨_,h.new hL hi hn ht⟩
  |some t=>exact⟨_,h.go hi hn ht⟩
 ·rw[if_neg hn];exact⟨B,h.same hn⟩
theorem Cf.words{L:List (List Int)}{n:Nat}{s:TS}{B:List (List Int)}(hL:Tr L)(h:Cf L n 0 s B):∀i,i≤L.length→∃B',Cf L n i (CJ L n i s) B':=by
 intro i;induction i with
 |zero=>intro _;exact⟨B,h⟩
 |succ i ih =>
  intro hi;obtain⟨B1,h1⟩:=ih (by omega);rw[F6];exact h1.word hL (by omega)
theorem Cf.next{L:List (List Int)}{n:Nat}{s:TS}{B:List (List Int)}(h:Cf L n L.length s B):Cf L (n+1) 0 ⟨s.out,s.at_,[]⟩ B:=by
 have h0:=h;obtain⟨a1,a2,a3,a4,a5,a6,a7,a8,a9,a10,a11⟩:=h;have e:∀j,cov L (n+1) 0 j=n+1:=fun j=>by unfold cov;rw[if_neg (by omega)]
 have e2:∀j,j<L.length→n<(L[j]!).length→cov L n L.length j=n+1:=fun j h1 h2=>by unfold cov;rw[if_pos ⟨h1,h2⟩]
 have e3:∀j,¬n<(L[j]!).length→cov L n L.length j=n:=fun j h2=>by unfold cov;rw[if_neg (fun x=>h2 x.2)]
 refine⟨a1,a2,a3,fun j h1 h2=>?_,a5,fun u=>?_,fun z f t hm=>(by cases hm),fun z f u hf hu hul hm=>?_,fun k u hk=>?_,a10,a11⟩
 ·rw[e,← e2 j h1 (by omega)];exact a4 j h1 (by omega)
 ·rw[a6];refine or_congr Iff.rfl ⟨fun⟨j,h1,k,h2,h3,h4⟩=>⟨j,h1,k,h2,?_,h4⟩,fun⟨j,h1,k,h2,h3,h4⟩=>⟨j,h1,k,h2,?_,h4⟩⟩
  ·rw[e];have:=Ll L n L.length j;omega
  ·rw[e]at h3;by_cases hn:n<(L[j]!).length
   ·rw[e2 j h1 hn];exact h3
   ·rw[e3 j hn];omega
 ·exfalso;have:=(h0.long hm).1;simp only[List.length_append,List.length_cons,List.length_nil]at this;omega
 ·rw[a9 k u hk];refine⟨fun⟨j,h1,h2,h3⟩=>⟨j,h1,h2,?_⟩,fun⟨j,h1,h2,h3⟩=>⟨j,h1,h2,?_⟩⟩
  ·rw[e];have:=Ll L n L.length j;omega
  ·rw[e]at h3;by_cases hn:n<(L[j]!).length
   ·rw[e2 j h1 hn];exact h3
   ·rw[e3 j hn,← h2];omega
theorem OU{L:List (List Int)}(hL:Tr L):∀n,∃B,Cf L n 0 ⟨(BR L n).out,(BR L n).at_,[]⟩ B:=by
 intro n;induction n with
 |zero =>
  refine⟨[[]],rfl,by simp[BR],rfl,fun j h1 _=>?_,by simp,fun u=>?_,fun z f t hm=>(by cases hm),fun z f u hf hu hul hm=>?_,fun k u hk=>?_,fun k u hk a=>?_,fun k u hk=>?_⟩
  ·simp only[BR,List.range_zero,List.foldl_nil];have e:(List.replicate L.length (0:Int))[j]! =0:=by rw[getElem!_pos _ j (by simpa using h1)];simp
   rw[e];exact⟨Int.le_refl _,by simp[cov]⟩
  ·simp only[List.mem_singleton];refine⟨.inl,fun h=>?_⟩;rcases h with h|⟨j,h1,k,h2,h3,h4⟩
   ·exact h
   ·have:k=0:=by simp[cov]at h3;exact h3
    rw[h4,this];simp
  ·simp at hm
  ·have hk0:k=0:=by have:=(List.getElem?_eq_some_iff.1 hk).1;simpa using this
   subst hk0;simp at hk;subst hk;simp only[BR,List.range_zero,List.foldl_nil];constructor
   ·intro h;simp at h
   ·rintro⟨j,h1,h2,_⟩;have:=hL.pos j h1;rw[h2]at this;simp at this
  ·have hk0:k=0:=by have:=(List.getElem?_eq_some_iff.1 hk).1;simpa using this
   subst hk0;simp at hk;subst hk;simp only[BR,List.range_zero,List.foldl_nil];constructor
   ·intro h;simp at h
   ·rintro⟨h1,h2⟩;exfalso;have h3:=(List.getElem?_eq_some_iff.1 h2).1;have:a.to.toNat=0:=by simpa using h3
    rw[this]at h2;simp at h2
  ·have hk0:k=0:=by have:=(List.getElem?_eq_some_iff.1 hk).1;simpa using this
   subst hk0;simp[BR]
 |succ n ih =>
  obtain⟨B,h⟩:=ih;obtain⟨B',h'⟩:=h.words hL L.length (Nat.le_refl _);rw[Hc];exact⟨B',h'.next⟩
structure AP(L:List (List Int))(l:List AB)(B:List (List Int)):Prop where
 len:B.length=l.length
 root:B[0]? =some []
 srt:B.Pairwise Js
 mem:∀u,u∈B↔u=[]∨∃w∈L,u <+: w
 fin:∀(k:Nat) (u:List Int),B[k]? =some u→((l[k]!).final=true↔u∈L)
 arcs:∀(k:Nat) (u:List Int),B[k]? =some u→∀a,a∈(l[k]!).arcs↔0≤a.to∧B[a.to.toNat]? =some (u++[a.sign])
 ris:∀(k:Nat) (u:List Int),B[k]? =some u→(l[k]!).arcs.Pairwise fun a b=>a.sign<b.sign
theorem RR{L:List (List Int)}(hL:Tr L)(hlen:∀w∈L,w.length≤20):∃B,AP L (Ap L) B:=by
 obtain⟨B,h⟩:=OU hL 20;have hj:∀j,j<L.length→(L[j]!).length≤20:=fun j h1=>by rw[getElem!_pos L j h1];exact hlen _ (List.getElem_mem h1)
 have e:∀j,cov L 20 0 j=20:=fun j=>by unfold cov;rw[if_neg (by omega)]
 refine⟨B,h.len,h.root,h.srt,fun u=>?_,fun k u hk=>?_,h.arcs,h.ris⟩
 ·rw[h.mem];refine or_congr Iff.rfl ⟨fun⟨j,h1,k,h2,h3,h4⟩=>?_,fun⟨w,hw,hp⟩=>?_⟩
  ·exact⟨L[j]!,by rw[getElem!_pos L j h1];exact List.getElem_mem h1,by rw[h4];exact List.take_prefix _ _⟩
  ·obtain⟨j,h1,rfl⟩:=List.getElem_of_mem hw;have e2:L[j]! =L[j]:=getElem!_pos L j h1;refine⟨j,h1,u.length,by rw[e2];exact hp.length_le,?_,by rw[e2];exact List.prefix_iff_eq_take.1 hp⟩;rw[e];have:=hp.length_le;have:=hj j h1;rw[e2]at this;omega
 ·have:=h.fin k u hk;show((BR L 20).out[k]!).final=true↔_;rw[this];constructor
  ·rintro⟨j,h1,h2,_⟩;rw[← h2,getElem!_pos L j h1];exact List.getElem_mem h1
  ·intro hu;obtain⟨j,h1,rfl⟩:=List.getElem_of_mem hu;have e2:L[j]! =L[j]:=getElem!_pos L j h1;refine⟨j,h1,e2,?_⟩;rw[e];have:=hj j h1;rw[e2]at this;exact this
attribute [local go_sem] Aq As AK AO Bz AU AW AG AD
def RJ(w:List Int):D:=match w with| []=>.nils|x::t=>.sl 1 (is (x::t))
def HW(R:List (List Int)):List D:=R.map RJ
theorem NK{R:List (List Int)}:(HW R).length=R.length:=by simp[HW]
theorem Ri{R:List (List Int)}{k:Nat}(h:k<R.length):(HW R)[k]? =some (RJ (R[k]!)):=by simp[HW,List.getElem?_eq_getElem h,getElem!_pos R k h]
theorem NJ{R:List (List Int)}{k:Nat}{w:List Int}(hw:w≠[]):(HW R).set k (.sl 1 (is w))=HW (R.set k w):=by
 have:D.sl 1 (is w)=RJ w:=by cases w with|nil=>exact absurd rfl hw|cons x t=>rfl
 rw[this];simp[HW,List.map_set]
theorem Rg(n:Nat):List.replicate n D.nils=HW (List.replicate n []):=by simp[HW,RJ]
theorem Q1(R:List (List Int)):Kt (HW R) (AZ R):=by
 induction R with
 |nil=>exact .nil
 |cons w R ih =>
  refine .cons ?_ ih;cases w with
  |nil=>exact .nil 1
  |cons x t=>exact .refl _
attribute [local go_sem] NK Ri
theorem Ks(w:List Int):RJ w= .nils∨∃l,RJ w= .sl 1 l:=by cases w with|nil=>exact .inl rfl|cons x t=>exact .inr ⟨_,rfl⟩
def Lo(i:Nat)(R:List (List Int))(a:Ar):List (List Int):=R.set a.to.toNat (R[i]!++[a.sign])
def Ia(l:List AB)(R:List (List Int))(i k:Nat):List (List Int):=((l[i]!).arcs.take k).foldl (Lo i) R
def BX(l:List AB)(j:Nat):List (List Int):=(List.range j).foldl (fun R i=>Ia l R i (l[i]!).arcs.length) (List.replicate l.length [])
theorem FJ(l:List AB)(j:Nat):BX l (j+1)=Ia l (BX l j) j (l[j]!).arcs.length:=by simp[BX,List.range_succ]
theorem HA(l:List AB)(R:List (List Int))(i:Nat){k:Nat}(h:k<(l[i]!).arcs.length):Ia l R i (k+1)=Lo i (Ia l R i k) ((l[i]!).arcs[k]!):=by
 unfold Ia;rw[Ak h,List.foldl_append];rfl
theorem Mx(l:List AB)(R:List (List Int))(i k:Nat):(Ia l R i k).length=R.length:=by
 unfold Ia;generalize(l[i]!).arcs.take k=az;induction az generalizing R with
 |nil=>rfl
 |cons a az ih=>rw[List.foldl_cons,ih];simp[Lo]
theorem My(l:List AB)(j:Nat):(BX l j).length=l.length:=by
 induction j with
 |zero=>simp[BX]
 |succ j ih=>rw[FJ,Mx,ih]
theorem Kr(l:List AB)(R:List (List Int))(i n:Nat)(hR:∀w∈R,w.length≤n)(hi:i<R.length)(hf:∀a∈(l[i]!).arcs,(i:Int)<a.to):∀k,k≤(l[i]!).arcs.length→(Ia l R i k)[i]! =R[i]!∧∀w∈Ia l R i k,w.length≤n+1:=by
 intro k;induction k with
 |zero=>intro _;exact⟨rfl,fun w hw=>Nat.le_succ_of_le (hR w hw)⟩
 |succ k ih =>
  intro hk;obtain⟨h1,h2⟩:=ih (by omega);rw[HA l R i (by omega)];have ha:=hf ((l[i]!).arcs[k]!) (by rw[getElem!_pos _ k (by omega)];exact List.getElem_mem _);have hne:i≠((l[i]!).arcs[k]!).to.toNat:=by omega
  unfold Lo;refine⟨?_,fun w hw=>?_⟩
  ·rw[← h1];have gen:∀(X:List (List Int)) (q:Nat) (v:List Int),q≠i→(X.set q v)[i]! =X[i]! :=fun X q v hq=>by
    simp only[List.getElem!_eq_getElem?_getD,List.getElem?_set_ne hq]
   exact gen _ _ _ (fun e=>hne e.symm)
  ·rcases List.mem_or_eq_of_mem_set hw with h|h
   ·exact h2 w h
   ·rw[h,h1,List.length_append,List.length_cons,List.length_nil,getElem!_pos R i hi];have:=hR _ (List.getElem_mem hi);omega
theorem OH{l:List AB}(hka:achk l=true)(j:Nat)(hj:j≤l.length):∀w∈BX l j,w.length≤j:=by
 induction j with
 |zero =>
  intro w hw;simp only[BX,List.range_zero,List.foldl_nil]at hw;rw[List.eq_of_mem_replicate hw];simp
 |succ j ih =>
  rw[FJ];exact(Kr l (BX l j) j j (ih (by omega)) (by rw[My];omega) (fun a ha=>(Fp hka (by omega) a ha).1) _ (Nat.le_refl _)).2
theorem QU{x:Int}{l:List Int}(hl:l.length≤1000000):Ac Tryz.prog 109 [.d (.sl 1 (is (x::l)))] [] (.own 2000 (x::l).length) [(2000,.row 3 1 (is (x::l)))] 0:=by
 refine Ac.run (N:=8) (ks:=[2000]) Tryz.func109 rfl (by kernel_rfl) rfl rfl rfl (by exact Rn) fun X_ ν_ w_=>?_;have h:is (x::l)= .int .i64 x::is l:=rfl;rw[h];refine AI @h ?_;try exact trivial
theorem QV:A1 Tryz.prog 109 [.nils] .nils:=by
 refine A1.run (N:=8) Tryz.func109 rfl (by kernel_rfl) rfl rfl rfl (by exact Ab) fun X_ w_=>?_;refine Aw ?_;try exact trivial
theorem T9{l:List AB}(hl:BZ l)(hka:achk l=true):A1 Tryz.prog 54 [.sl 2 (AH l)] (.sl 1 (HW (BX l l.length))):=by
 obtain⟨_,hl0,hl1⟩:=Fo.1 hka;have cn:=QV;refine A1.run (N:=41) Tryz.func54 rfl (by kernel_rfl) rfl rfl rfl (by exact Ab) fun X_ w_=>?_;refine Aw ?_;try exact trivial
 refine A7 (fun j:Nat=>j≤l.length) (fun j=>[(3,.own 1002 l.length),(11,.d (.sl 2 (AH l))),(12,.d (.int .i64 l.length)),(13,.d (.int .i64 j))]) (fun j=>[(1002,.row 57 1 (HW (BX l j)))]) 4000 (fun j=>l.length-j) [3,11,12,13] [1002] 0 (Nat.zero_le _) rfl (by rw[show BX l 0=List.replicate l.length []from rfl,← Rg];rfl) (Nat.le_of_ble_eq_true rfl) (fun _ _=>rfl) (fun _ _=>rfl) fun j hj=>?_;have hbl:=My l j;by_cases hj3:j<l.length
 ·have hai:=hl.get (k:=j) hj3;have hst:=FJ l j;have hlong:=Kr l (BX l j) j j (OH hka j hj) (by omega) (fun a ha=>(Fp hka hj3 a ha).1);have hilen:=Mx l (BX l j) j;refine Aw ?_;try exact trivial
  refine A7 (fun k:Nat=>k≤(l[j]!).arcs.length) (fun k=>[(3,.own 1002 l.length),(11,.d (.sl 2 (AH l))),(12,.d (.int .i64 l.length)),(13,.d (.int .i64 j)),(4,.d (.int .i64 j)),(19,.d (.sl 2 (Gu (l[j]!).arcs))),(20,.d (.int .i64 (l[j]!).arcs.length)),(21,.d (.int .i64 k))]) (fun k=>[(1002,.row 57 1 (HW (Ia l (BX l j) j k)))]) 10000 (fun k=>(l[j]!).arcs.length-k) [3,11,12,13,4,19,20,21] [1002] 0 (Nat.zero_le _) rfl rfl (Nat.le_of_ble_eq_true rfl) (fun _ _=>rfl) (fun _ _=>rfl) fun k hk=>?_;obtain⟨g1,g2⟩:=hlong k hk;have hil:=hilen k;by_cases hk3:k<(l[j]!).arcs.length
  ·have hst2:=HA l (BX l j) j hk3;unfold Lo at hst2;generalize hR:Ia l (BX l j) j k=R at hst2 g1 g2 hil ⊢;have hRl:R.length=l.length:=by rw[hil,hbl]
   obtain⟨b1,b2,_⟩:=Fp hka hj3 ((l[j]!).arcs[k]!) (by rw[getElem!_pos _ k hk3];exact List.getElem_mem hk3);obtain⟨t,ht⟩:=Int.eq_ofNat_of_zero_le (by omega:0≤((l[j]!).arcs[k]!).to);have htl:t<R.length:=by omega
   rw[ht]at hst2;simp only[Int.toNat_natCast]at hst2;have hjR:j<R.length:=by omega
   have hrl:(R[j]!).length≤j+1:=by rw[getElem!_pos R j hjR];exact g2 _ (List.getElem_mem hjR)
   generalize hw:R[j]! =w at hst2 hrl;cases w with
   |nil =>
    have hbd:RJ (R[j]!)= .nils:=by rw[hw];rfl
    have hs1:(HW R).set t (.sl 1 [.int .i64 ((l[j]!).arcs[k]!).sign])=HW (R.set t [((l[j]!).arcs[k]!).sign]):=NJ (w:=[((l[j]!).arcs[k]!).sign]) (by simp);simp only[List.nil_append]at hst2;rcases Ks (R[t]!)with hbt|⟨lt,hbt⟩
    ·have c0_:=cn;refine AI (And.intro @ht (And.intro @hbd (And.intro @hRl (And.intro @hs1 (And.intro @hbt @Int.toNat_natCast))))) ?_;try exact trivial
     refine⟨k+1,by omega,?_,?_,by omega⟩
     ·simp(disch:=omega)only[go_sem,A2,Int.natCast_add,Int.cast_ofNat_Int]
     ·simp(disch:=omega)only[go_sem,A2,hst2]
    ·have c0_:=cn;refine AI (And.intro @ht (And.intro @hbd (And.intro @hRl (And.intro @hs1 (And.intro @hbt @Int.toNat_natCast))))) ?_;try exact trivial
     refine⟨k+1,by omega,?_,?_,by omega⟩
     ·simp(disch:=omega)only[go_sem,A2,Int.natCast_add,Int.cast_ofNat_Int]
     ·simp(disch:=omega)only[go_sem,A2,hst2]
   |cons x w =>
    simp only[List.length_cons]at hrl;have hbd:RJ (R[j]!)= .sl 1 (is (x::w)):=by rw[hw];rfl
    have hs1:(HW R).set t (.sl 1 (is (x::w)++[.int .i64 ((l[j]!).arcs[k]!).sign]))=HW (R.set t (x::w++[((l[j]!).arcs[k]!).sign])):=by
     rw[← NJ (by simp)];simp[is]
    have co:=QU (x:=x) (l:=w) (by omega);simp only[List.length_cons]at co;rcases Ks (R[t]!)with hbt|⟨lt,hbt⟩
    ·have c0_:=co;refine AI (And.intro @ht (And.intro @hbd (And.intro @hRl (And.intro @hs1 (And.intro @hbt @Int.toNat_natCast))))) ?_;try exact trivial
     refine⟨k+1,by omega,?_,?_,by omega⟩
     ·simp(disch:=omega)only[go_sem,A2,Int.natCast_add,Int.cast_ofNat_Int]
     ·simp(disch:=omega)only[go_sem,A2,hst2]
    ·have c0_:=co;refine AI (And.intro @ht (And.intro @hbd (And.intro @hRl (And.intro @hs1 (And.intro @hbt @Int.toNat_natCast))))) ?_;try exact trivial
     refine⟨k+1,by omega,?_,?_,by omega⟩
     ·simp(disch:=omega)only[go_sem,A2,Int.natCast_add,Int.cast_ofNat_Int]
     ·simp(disch:=omega)only[go_sem,A2,hst2]
  ·have hke:k=(l[j]!).arcs.length:=by omega
   subst hke;rw[← hst];refine Aw ?_;try exact trivial
   refine⟨j+1,by omega,?_,?_,by omega⟩
   ·simp(disch:=omega)only[go_sem,A2,Int.natCast_add,Int.cast_ofNat_Int]
   ·simp(disch:=omega)only[go_sem,A2]
 ·have hje:j=l.length:=by omega
  subst hje;refine Aw ?_;try exact trivial
theorem TX{l:List AB}(hl:BZ l)(hka:achk l=true):A1 Tryz.prog 54 [.sl 2 (AH l)] (.sl 1 (AZ (BX l l.length))):=(T9 hl hka).wk (Kt.refl _) (.sl (Q1 _))
end Go.Eng.Tryz

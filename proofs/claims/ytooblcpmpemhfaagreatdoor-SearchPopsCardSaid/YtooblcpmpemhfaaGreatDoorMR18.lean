/- The automaton that has a state for each beginning of words: what it is, plainly. (and what stands behind it: texts laid together) -/
import Derived.Test.YtooblcpmpemhfaaGreatDoorMR11
import Derived.Test.YtooblcpmpemhfaaGreatDoorMR12
import Derived.Test.YtooblcpmpemhfaaGreatDoorMG4
import Derived.Test.YtooblcpmpemhfaaGreatDoorMR17
set_option linter.unusedVariables false
set_option linter.unusedSimpArgs false
open Go Go.Eng Go.Proofs Go.RowKit
set_option maxHeartbeats 32000000
set_option maxRecDepth 100000
namespace Go.Eng.Tryz
def cov(L:List (List Int))(n i j:Nat):Nat:=if j<i∧n<(L[j]!).length then n+1 else n
def Pd(u v:List Int):Prop:=u.length<v.length∨u.length=v.length∧Ae u v<0
structure E7(L:List (List Int))(n i:Nat)(s:TS)(B:List (List Int)):Prop where
 len:B.length=s.out.length
 atl:s.at_.length=L.length
 root:B[0]? =some []
 atv:∀j,j<L.length→n≤(L[j]!).length→0≤s.at_[j]!∧B[(s.at_[j]!).toNat]? =some ((L[j]!).take (cov L n i j))
 srt:B.Pairwise Pd
 mem:∀u,u∈B↔u=[]∨∃j,j<L.length∧∃k,k≤(L[j]!).length∧k≤cov L n i j∧u=(L[j]!).take k
 map:∀z f t,Ge s.m ⟨z,f⟩=some t→0≤t∧0≤f∧∃u,B[f.toNat]? =some u∧B[t.toNat]? =some (u++[z])
 mapn:∀z f u,0≤f→B[f.toNat]? =some u→u.length=n→u++[z]∈B→∃t,Ge s.m ⟨z,f⟩=some t
 fin:∀(k:Nat) (u:List Int),B[k]? =some u→((s.out[k]!).final=true↔∃j,j<L.length∧L[j]! =u∧u.length≤cov L n i j)
 arcs:∀(k:Nat) (u:List Int),B[k]? =some u→∀a,a∈(s.out[k]!).arcs↔0≤a.to∧B[a.to.toNat]? =some (u++[a.sign])
 ris:∀(k:Nat) (u:List Int),B[k]? =some u→(s.out[k]!).arcs.Pairwise fun a b=>a.sign<b.sign
theorem Pd.irr(u:List Int):¬Pd u u:=fun h=>by
 rcases h with h|⟨_,h⟩
 ·omega
 ·have:=(Cf u u).2 rfl;omega
theorem Kj{B:List (List Int)}(h:B.Pairwise Pd){i j:Nat}{u:List Int}(hi:B[i]? =some u)(hj:B[j]? =some u):i=j:=by
 obtain⟨h1,e1⟩:=List.getElem?_eq_some_iff.1 hi;obtain⟨h2,e2⟩:=List.getElem?_eq_some_iff.1 hj;rcases Nat.lt_trichotomy i j with h3|h3|h3
 ·have:=List.pairwise_iff_getElem.1 h i j h1 h2 h3;rw[e1,e2]at this;exact absurd this (Pd.irr u)
 ·exact h3
 ·have:=List.pairwise_iff_getElem.1 h j i h2 h1 h3;rw[e1,e2]at this;exact absurd this (Pd.irr u)
theorem Pc:∀{a b:List Int} (k:Nat),Ae a b<0→Ae (a.take k) (b.take k)<0∨a.take k=b.take k
 |a,b,0,_=>.inr (by simp)
 | [],b,k+1,h=>by
   cases b with
   |nil=>exact absurd h (Ga [])
   |cons y b=>left;simp only[List.take_nil,List.take_succ_cons];simp[Ae]
 |x::a,b,k+1,h=>by
  cases b with
  |nil=>exact absurd h (Ga _)
  |cons y b =>
   simp only[List.take_succ_cons];by_cases h1:x<y
   ·left;have:=EB (a:=x) (b:=y) h1 [] (a.take k) (b.take k);simpa using this
   ·by_cases h2:x=y
    ·subst h2;have h3:Ae a b<0:=by have:=EW [x] a b;simp only[List.singleton_append]at this;omega
     rcases Pc k h3 with h4|h4
     ·left;have:=EW [x] (a.take k) (b.take k);simp only[List.singleton_append]at this;omega
     ·right;rw[h4]
    ·exfalso;have:=EB (a:=y) (b:=x) (by omega) [] b a;simp only[List.nil_append]at this;have e:=AD (x::a) (y::b);omega
theorem NL{w:List Int}{n:Nat}(h:n<w.length):w.take (n+1)=w.take n++[w[n]!]:=AT h
structure cJ(L:List (List Int)):Prop where
 srt:BQ L
 pos:∀j,j<L.length→0<(L[j]!).length
theorem Wj{L:List (List Int)}{n i:Nat}(h:¬n<(L[i]!).length)(j:Nat):cov L n (i+1) j=cov L n i j:=by
 unfold cov;by_cases e:j=i
 ·subst e;rw[if_neg (fun x=>h x.2),if_neg (fun x=>h x.2)]
 ·have:(j<i+1∧n<(L[j]!).length)↔(j<i∧n<(L[j]!).length):=by omega
  simp only[this]
theorem ZK{L:List (List Int)}{n i:Nat}(h:n<(L[i]!).length):cov L n (i+1) i=n+1∧cov L n i i=n:=by
 unfold cov;rw[if_pos ⟨by omega,h⟩,if_neg (by omega)];exact⟨rfl,rfl⟩
theorem ZL{L:List (List Int)}{n i j:Nat}(h:j≠i):cov L n (i+1) j=cov L n i j:=by
 unfold cov;have:(j<i+1∧n<(L[j]!).length)↔(j<i∧n<(L[j]!).length):=by omega
 simp only[this]
theorem Pv(L:List (List Int))(n i j:Nat):n≤cov L n i j∧cov L n i j≤n+1:=by unfold cov;split<;>omega
theorem aI{L:List (List Int)}{n i j:Nat}(h:cov L n i j=n+1):j<i∧n<(L[j]!).length:=by
 unfold cov at h;split at h
 ·assumption
 ·omega
theorem V6{α:Type}[Inhabited α]{l:List α}{k:Nat}{x:α}(h:l[k]? =some x):l[k]! =x:=by
 simp[List.getElem!_eq_getElem?_getD,h]
theorem E7.same{L:List (List Int)}{n i:Nat}{s:TS}{B:List (List Int)}(h:E7 L n i s B)(hn:¬n<(L[i]!).length):E7 L n (i+1) s B:=by
 have e:=Wj hn;obtain⟨a1,a2,a3,a4,a5,a6,a7,a8,a9,a10,a11⟩:=h;exact⟨a1,a2,a3,fun j h1 h2=>by rw[e];exact a4 j h1 h2,a5,fun u=>by simp only[e];exact a6 u,a7,a8,fun k u hk=>by simp only[e];exact a9 k u hk,a10,a11⟩
theorem L9{l:List Ak}{t:Nat}{b:Bool}(ht:t<l.length)(k:Nat):((DG l t b)[k]!).final=(if k=t then(l[k]!).final||b else(l[k]!).final):=by
 unfold DG;rw[Bw ht];split
 ·rename_i e;subst e;rfl
 ·rfl
theorem E7.go{L:List (List Int)}{n i:Nat}{s:TS}{B:List (List Int)}{t:Int}(h:E7 L n i s B)(hi:i<L.length)(hn:n<(L[i]!).length)(ht:Ge s.m ⟨(L[i]!)[n]!,s.at_[i]!⟩=some t) :
 E7 L n (i+1) ⟨DG s.out t.toNat (decide (n+1=(L[i]!).length)),s.at_.set i t,s.m⟩ B:=by
 obtain⟨a1,a2,a3,a4,a5,a6,a7,a8,a9,a10,a11⟩:=h;obtain⟨c1,c2⟩:=ZK hn;obtain⟨f1,f2⟩:=a4 i hi (by omega);rw[c2]at f2;obtain⟨t1,_,u,t2,t3⟩:=a7 _ _ _ ht;rw[f2]at t2;cases t2;rw[← NL hn]at t3;have htl:t.toNat<s.out.length:=by rw[← a1];exact(List.getElem?_eq_some_iff.1 t3).1
 have hcov:∀j,j≠i→cov L n (i+1) j=cov L n i j:=fun j hj=>ZL hj;refine⟨by rw[Dk];exact a1,by simp[a2],a3,fun j h1 h2=>?_,a5,fun v=>?_,a7,a8,fun k v hk=>?_,fun k v hk a=>?_,fun k v hk=>?_⟩
 ·simp only;rw[Bw (by rw[a2];exact hi)];by_cases e:j=i
  ·subst e;rw[if_pos rfl,c1];exact⟨t1,t3⟩
  ·rw[if_neg e,hcov j e];exact a4 j h1 h2
 ·rw[a6];refine or_congr Iff.rfl ⟨fun⟨j,h1,k,h2,h3,h4⟩=>⟨j,h1,k,h2,?_,h4⟩,fun⟨j,h1,k,h2,h3,h4⟩=>?_⟩
  ·by_cases e:j=i
   ·subst e;omega
   ·rw[hcov j e];exact h3
  ·by_cases e:j=i
   ·subst e;rw[c1]at h3;by_cases hk:k≤n
    ·exact⟨j,h1,k,h2,by omega,h4⟩
    ·have:k=n+1:=by omega
     subst this;have hm:v∈B:=by rw[h4];exact List.mem_of_getElem? t3
     rcases(a6 v).1 hm with h5|h5
     ·rw[h5]at h4;have:=congrArg List.length h4;simp only[List.length_nil,List.length_take]at this;omega
     ·exact h5
   ·rw[hcov j e]at h3;exact⟨j,h1,k,h2,h3,h4⟩
 ·rw[L9 htl];by_cases e:k=t.toNat
  ·rw[if_pos e];subst e;rw[t3]at hk;cases hk;rw[Bool.or_eq_true,a9 _ _ t3,decide_eq_true_eq];constructor
   ·rintro(⟨j,h1,h2,h3⟩|h1)
    ·refine⟨j,h1,h2,?_⟩;by_cases e:j=i
     ·subst e;omega
     ·rw[hcov j e];exact h3
    ·exact⟨i,hi,by rw[h1,List.take_length],by rw[c1];simp only[List.length_take];omega⟩
   ·rintro⟨j,h1,h2,h3⟩;by_cases e:j=i
    ·subst e;right;have:=congrArg List.length h2;simp only[List.length_take]at this;omega
    ·left;rw[hcov j e]at h3;exact⟨j,h1,h2,h3⟩
  ·rw[if_neg e,a9 k v hk];constructor
   ·rintro⟨j,h1,h2,h3⟩;refine⟨j,h1,h2,?_⟩;by_cases e:j=i
    ·subst e;omega
    ·rw[hcov j e];exact h3
   ·rintro⟨j,h1,h2,h3⟩;by_cases e2:j=i
    ·exfalso;subst e2;rw[c1]at h3;have hl:v.length=n+1:=by rw[← h2]at h3 ⊢;omega
     have hv:v=(L[j]!).take (n+1):=by rw[h2,List.take_of_length_le (by omega)]
     rw[hv]at hk;exact e (Kj a5 hk t3)
    ·rw[hcov j e2]at h3;exact⟨j,h1,h2,h3⟩
 ·rw[Ez];exact a10 k v hk a
 ·rw[Ez];exact a11 k v hk
theorem QB{m:List (Ar×Int)}{a b:Ar}{t:Int}(h:Ge m b=none):Ge (m++[(b,t)]) a=if a=b then some t else Ge m a:=by
 induction m with
 |nil=>simp only[List.nil_append,Ge];by_cases e:a=b<;>simp[e,eq_comm]
 |cons x m ih =>
  simp only[Ge]at h;split at h
  ·cases h
  ·rename_i hx;simp only[List.cons_append,Ge];by_cases e:x.1=a
   ·rw[if_pos e,if_pos e,if_neg (fun e2=>hx (e.trans e2))]
   ·rw[if_neg e,if_neg e];exact ih h
theorem E7.long{L:List (List Int)}{n i:Nat}{s:TS}{B:List (List Int)}(h:E7 L n i s B){v:List Int}(hv:v∈B):v.length≤n+1∧(v.length=n+1→∃j,j<i∧j<L.length∧n<(L[j]!).length∧v=(L[j]!).take (n+1)):=by
 rcases(h.mem v).1 hv with h1|⟨j,h1,k,h2,h3,h4⟩
 ·subst h1;simp
 ·have hl:v.length=k:=by rw[h4,List.length_take];omega
  have hc:=Pv L n i j;refine⟨by omega,fun h5=>?_⟩;have hk:k=n+1:=by omega
  subst hk;obtain⟨h6,h7⟩:=aI (show cov L n i j=n+1 by omega);exact⟨j,h6,h1,h7,h4⟩
theorem E7.new{L:List (List Int)}{n i:Nat}{s:TS}{B:List (List Int)}(hL:cJ L)(h:E7 L n i s B)(hi:i<L.length)(hn:n<(L[i]!).length)(ht:Ge s.m ⟨(L[i]!)[n]!,s.at_[i]!⟩=none) :
 E7 L n (i+1) ⟨DG (Df (s.out++[⟨false,[]⟩]) (s.at_[i]!).toNat ⟨(L[i]!)[n]!,s.out.length⟩) s.out.length (decide (n+1=(L[i]!).length)),s.at_.set i s.out.length,s.m++[((⟨(L[i]!)[n]!,s.at_[i]!⟩:Ar),(s.out.length:Int))]⟩ (B++[(L[i]!).take (n+1)]):=by
 have h0:=h;obtain⟨a1,a2,a3,a4,a5,a6,a7,a8,a9,a10,a11⟩:=h;obtain⟨c1,c2⟩:=ZK hn;obtain⟨f1,f2⟩:=a4 i hi (by omega);rw[c2]at f2;have hcov:∀j,j≠i→cov L n (i+1) j=cov L n i j:=fun j hj=>ZL hj;have hx:(L[i]!).take (n+1)=(L[i]!).take n++[(L[i]!)[n]!]:=NL hn;have hxl:((L[i]!).take (n+1)).length=n+1:=by rw[List.length_take];omega
 have hun:((L[i]!).take n).length=n:=by rw[List.length_take];omega
 have hnew:(L[i]!).take (n+1)∉B:=fun hm=>by
  rw[hx]at hm;obtain⟨t,h1⟩:=a8 _ _ _ f1 f2 hun hm;rw[ht]at h1;cases h1
 have hfl:(s.at_[i]!).toNat<s.out.length:=by rw[← a1];exact(List.getElem?_eq_some_iff.1 f2).1
 have hlast:(B++[(L[i]!).take (n+1)])[s.out.length]? =some ((L[i]!).take (n+1)):=by rw[← a1,List.getElem?_append_right (Nat.le_refl _),Nat.sub_self];rfl
 have hold:∀(k:Nat) (u:List Int),B[k]? =some u→(B++[(L[i]!).take (n+1)])[k]? =some u:=fun k u hk=>by rw[List.getElem?_append_left (List.getElem?_eq_some_iff.1 hk).1];exact hk
 have hcase:∀k u,(B++[(L[i]!).take (n+1)])[k]? =some u→B[k]? =some u∨k=s.out.length∧u=(L[i]!).take (n+1):=fun k u hk=>by
  by_cases hlt:k<B.length
  ·rw[List.getElem?_append_left hlt]at hk;exact .inl hk
  ·rw[List.getElem?_append_right (by omega)]at hk;have hl:=(List.getElem?_eq_some_iff.1 hk).1;simp only[List.length_cons,List.length_nil]at hl;have e:k-B.length=0:=by omega
   rw[e]at hk;simp only[List.getElem?_cons_zero,Option.some.injEq]at hk;exact .inr ⟨by omega,hk.symm⟩
 have hord:∀v∈B,Pd v ((L[i]!).take (n+1)):=fun v hv=>by
  obtain⟨h1,h2⟩:=h0.long hv;by_cases h3:v.length=n+1
  ·right;refine⟨by omega,?_⟩;obtain⟨j,j1,j2,j3,j4⟩:=h2 h3;have hlt:=hL.srt.at j1 hi;rcases Pc (n+1) hlt with h4|h4
   ·rw[j4];exact h4
   ·rw[← h4,← j4]at hnew;exact absurd hv hnew
  ·left;omega
 have hsrt:(B++[(L[i]!).take (n+1)]).Pairwise Pd:=by
  rw[List.pairwise_append];exact⟨a5,by simp,fun v hv u hu=>by simp only[List.mem_singleton]at hu;subst hu;exact hord v hv⟩
 have elen:(Df (s.out++[⟨false,[]⟩]) (s.at_[i]!).toNat ⟨(L[i]!)[n]!,s.out.length⟩).length=s.out.length+1:=by rw[Jl];simp
 have eadd:∀k,k<s.out.length→(Df (s.out++[⟨false,[]⟩]) (s.at_[i]!).toNat ⟨(L[i]!)[n]!,s.out.length⟩)[k]! =if k=(s.at_[i]!).toNat then⟨(s.out[k]!).final,(s.out[k]!).arcs++[⟨(L[i]!)[n]!,s.out.length⟩]⟩else s.out[k]! :=fun k hk=>by
  have e1:∀q,q<s.out.length→(s.out++[(⟨false,[]⟩:Ak)])[q]! =s.out[q]! :=fun q hq=>by
   simp only[List.getElem!_eq_getElem?_getD,List.getElem?_append_left hq]
  unfold Df;rw[Bw (by simp only[List.length_append,List.length_cons,List.length_nil];omega),e1 _ hfl];split
  ·rename_i e;rw[e]
  ·exact e1 k hk
 have eaddN:(Df (s.out++[⟨false,[]⟩]) (s.at_[i]!).toNat ⟨(L[i]!)[n]!,s.out.length⟩)[s.out.length]! =⟨false,[]⟩:=by
  unfold Df;rw[Bw (by simp only[List.length_append,List.length_cons,List.length_nil];omega),if_neg (by omega)];simp[List.getElem!_eq_getElem?_getD]
 have efin:∀k,k<s.out.length→((DG (Df (s.out++[⟨false,[]⟩]) (s.at_[i]!).toNat ⟨(L[i]!)[n]!,s.out.length⟩) s.out.length (decide (n+1=(L[i]!).length)))[k]!).final=(s.out[k]!).final:=fun k hk=>by
  rw[L9 (by omega),if_neg (by omega),eadd k hk];split<;>rfl
 have efinN:((DG (Df (s.out++[⟨false,[]⟩]) (s.at_[i]!).toNat ⟨(L[i]!)[n]!,s.out.length⟩) s.out.length (decide (n+1=(L[i]!).length)))[s.out.length]!).final=decide (n+1=(L[i]!).length):=by
  rw[L9 (by omega),if_pos rfl,eaddN];rfl
 refine⟨by rw[Dk,elen];simp[a1],by simp[a2],hold 0 [] a3,fun j h1 h2=>?_,hsrt,fun v=>?_,fun z f t hm=>?_,fun z f u hf hu hul hm=>?_,fun k v hk=>?_,fun k v hk a=>?_,fun k v hk=>?_⟩
 ·simp only;rw[Bw (by rw[a2];exact hi)];by_cases e:j=i
  ·subst e;rw[if_pos rfl,c1];exact⟨by omega,by rw[Int.toNat_natCast];exact hlast⟩
  ·rw[if_neg e,hcov j e];obtain⟨g1,g2⟩:=a4 j h1 h2;exact⟨g1,hold _ _ g2⟩
 ·rw[List.mem_append,a6,List.mem_singleton];constructor
  ·rintro((h1|⟨j,h1,k,h2,h3,h4⟩)|h1)
   ·exact .inl h1
   ·refine .inr ⟨j,h1,k,h2,?_,h4⟩;by_cases e:j=i
    ·subst e;omega
    ·rw[hcov j e];exact h3
   ·exact .inr ⟨i,hi,n+1,hn,by omega,h1⟩
  ·rintro(h1|⟨j,h1,k,h2,h3,h4⟩)
   ·exact .inl (.inl h1)
   ·by_cases e:j=i
    ·subst e;by_cases hk:k≤n
     ·exact .inl (.inr ⟨j,h1,k,h2,by omega,h4⟩)
     ·have:k=n+1:=by omega
      subst this;exact .inr h4
    ·rw[hcov j e]at h3;exact .inl (.inr ⟨j,h1,k,h2,h3,h4⟩)
 ·simp only at hm;rw[QB ht]at hm;split at hm
  ·rename_i e;cases hm;cases e;exact⟨by omega,f1,_,hold _ _ f2,by rw[Int.toNat_natCast,← hx];exact hlast⟩
  ·obtain⟨g1,g2,u,g3,g4⟩:=a7 _ _ _ hm;exact⟨g1,g2,u,hold _ _ g3,hold _ _ g4⟩
 ·simp only;rw[QB ht];split
  ·exact⟨_,rfl⟩
  ·rename_i hne;have hu0:B[f.toNat]? =some u:=by
    rcases hcase _ _ hu with h1|⟨_,h2⟩
    ·exact h1
    ·rw[h2]at hul;omega
   rw[List.mem_append,List.mem_singleton]at hm;rcases hm with hm|hm
   ·exact a8 _ _ _ hf hu0 hul hm
   ·exfalso;rw[hx]at hm;obtain⟨e1,e2⟩:=List.append_inj' hm rfl;have e3:z=(L[i]!)[n]! :=by simpa using e2
    rw[e1]at hu0;have e4:=Kj a5 hu0 f2;apply hne;rw[e3];congr 1;omega
 ·rcases hcase _ _ hk with hkB|⟨rfl,rfl⟩
  ·have hkl:k<s.out.length:=by rw[← a1];exact(List.getElem?_eq_some_iff.1 hkB).1
   rw[efin k hkl,a9 k v hkB];constructor
   ·rintro⟨j,h1,h2,h3⟩;refine⟨j,h1,h2,?_⟩;by_cases e:j=i
    ·subst e;omega
    ·rw[hcov j e];exact h3
   ·rintro⟨j,h1,h2,h3⟩;by_cases e2:j=i
    ·exfalso;subst e2;rw[c1]at h3;have hl:v.length=n+1:=by rw[← h2]at h3 ⊢;omega
     have hv:v=(L[j]!).take (n+1):=by rw[h2,List.take_of_length_le (by omega)]
     rw[hv]at hkB;exact hnew (List.mem_of_getElem? hkB)
    ·rw[hcov j e2]at h3;exact⟨j,h1,h2,h3⟩
  ·rw[efinN,decide_eq_true_eq,hxl];constructor
   ·intro h1;exact⟨i,hi,by rw[h1,List.take_length],by omega⟩
   ·rintro⟨j,h1,h2,h3⟩;by_cases e2:j=i
    ·subst e2;have:=congrArg List.length h2;rw[hxl]at this;exact this.symm
    ·exfalso;rw[hcov j e2]at h3;have hc:=Pv L n i j;have hl:=congrArg List.length h2;rw[hxl]at hl;have:(L[i]!).take (n+1)∈B:=(a6 _).2 (.inr ⟨j,h1,n+1,by omega,by omega,by rw[← h2,List.take_of_length_le (by omega)]⟩);exact hnew this
 ·rw[Ez];rcases hcase _ _ hk with hk|⟨rfl,rfl⟩
  ·have hkl:k<s.out.length:=by rw[← a1];exact(List.getElem?_eq_some_iff.1 hk).1
   have key:(0≤a.to∧(B++[(L[i]!).take (n+1)])[a.to.toNat]? =some (v++[a.sign]))↔(0≤a.to∧B[a.to.toNat]? =some (v++[a.sign]))∨(k=(s.at_[i]!).toNat∧a=⟨(L[i]!)[n]!,s.out.length⟩):=by
    constructor
    ·rintro⟨h1,h2⟩;rcases hcase _ _ h2 with h3|⟨h3,h4⟩
     ·exact .inl ⟨h1,h3⟩
     ·right;rw[hx]at h4;obtain⟨e1,e2⟩:=List.append_inj' h4 rfl;have e3:a.sign=(L[i]!)[n]! :=by simpa using e2
      rw[e1]at hk;refine⟨Kj a5 hk f2,?_⟩;cases a;simp only at e3 h3 h1 ⊢;rw[e3];congr 1;omega
    ·rintro(⟨h1,h2⟩|⟨h1,h2⟩)
     ·exact⟨h1,hold _ _ h2⟩
     ·subst h1 h2;rw[f2]at hk;cases hk;exact⟨by simp,by simp only[Int.toNat_natCast];rw[← hx];exact hlast⟩
   rw[key,eadd k hkl];by_cases e:k=(s.at_[i]!).toNat
   ·rw[if_pos e];simp only[List.mem_append,List.mem_singleton,a10 k v hk a];simp only[e,true_and]
   ·rw[if_neg e,a10 k v hk a];simp only[e,false_and,or_false]
  ·rw[eaddN];simp only[List.not_mem_nil,false_iff,not_and];intro _ h2;have hm:=List.mem_of_getElem? h2;rw[List.mem_append,List.mem_singleton]at hm;rcases hm with hm|hm
   ·have:=(h0.long hm).1;simp only[List.length_append,hxl,List.length_cons,List.length_nil]at this;omega
   ·have:=congrArg List.length hm;simp only[List.length_append,hxl,List.length_cons,List.length_nil]at this;omega
 ·rw[Ez];rcases hcase _ _ hk with hk|⟨rfl,rfl⟩
  ·have hkl:k<s.out.length:=by rw[← a1];exact(List.getElem?_eq_some_iff.1 hk).1
   rw[eadd k hkl];by_cases e:k=(s.at_[i]!).toNat
   ·rw[if_pos e];simp only;rw[List.pairwise_append];refine⟨a11 k v hk,by simp,fun a ha b hb=>?_⟩;simp only[List.mem_singleton]at hb;subst hb;subst e;rw[f2]at hk;cases hk;obtain⟨_,h2⟩:=(a10 _ _ f2 a).1 ha;have:=hord _ (List.mem_of_getElem? h2);rcases this with h3|⟨_,h3⟩
    ·simp only[List.length_append,hun,hxl,List.length_cons,List.length_nil]at h3;omega
    ·rw[hx,EW]at h3;simp only;by_cases h4:a.sign<(L[i]!)[n]!
     ·exact h4
     ·exfalso;by_cases h5:a.sign=(L[i]!)[n]!
      ·rw[h5]at h3;have:=(Cf [(L[i]!)[n]!] [(L[i]!)[n]!]).2 rfl;omega
      ·have h6:=EB (a:=(L[i]!)[n]!) (b:=a.sign) (by omega) [] [] [];simp only[List.nil_append]at h6;have h7:=AD [a.sign] [(L[i]!)[n]!];omega
   ·rw[if_neg e];exact a11 k v hk
  ·rw[eaddN];exact List.Pairwise.nil
theorem E7.word{L:List (List Int)}{n i:Nat}{s:TS}{B:List (List Int)}(hL:cJ L)(h:E7 L n i s B)(hi:i<L.length):∃B',E7 L n (i+1) (HU L n i s) B':=by
 unfold HU;by_cases hn:n<(L[i]!).length
 ·rw[if_pos hn];cases ht:Ge s.m ⟨(L[i]!)[n]!,s.at_[i]!⟩with
  |none=>exact⟨_,h.new hL hi hn ht⟩
  |some t=>exact⟨_,h.go hi hn ht⟩
 ·rw[if_neg hn];exact⟨B,h.same hn⟩
theorem E7.words{L:List (List Int)}{n:Nat}{s:TS}{B:List (List Int)}(hL:cJ L)(h:E7 L n 0 s B):∀i,i≤L.length→∃B',E7 L n i (Fg L n i s) B':=by
 intro i;induction i with
 |zero=>intro _;exact⟨B,h⟩
 |succ i ih =>
  intro hi;obtain⟨B1,h1⟩:=ih (by omega);rw[Im];exact h1.word hL (by omega)
theorem E7.next{L:List (List Int)}{n:Nat}{s:TS}{B:List (List Int)}(h:E7 L n L.length s B):E7 L (n+1) 0 ⟨s.out,s.at_,[]⟩ B:=by
 have h0:=h;obtain⟨a1,a2,a3,a4,a5,a6,a7,a8,a9,a10,a11⟩:=h;have e:∀j,cov L (n+1) 0 j=n+1:=fun j=>by unfold cov;rw[if_neg (by omega)]
 have e2:∀j,j<L.length→n<(L[j]!).length→cov L n L.length j=n+1:=fun j h1 h2=>by unfold cov;rw[if_pos ⟨h1,h2⟩]
 have e3:∀j,¬n<(L[j]!).length→cov L n L.length j=n:=fun j h2=>by unfold cov;rw[if_neg (fun x=>h2 x.2)]
 refine⟨a1,a2,a3,fun j h1 h2=>?_,a5,fun u=>?_,fun z f t hm=>(by cases hm),fun z f u hf hu hul hm=>?_,fun k u hk=>?_,a10,a11⟩
 ·rw[e,← e2 j h1 (by omega)];exact a4 j h1 (by omega)
 ·rw[a6];refine or_congr Iff.rfl ⟨fun⟨j,h1,k,h2,h3,h4⟩=>⟨j,h1,k,h2,?_,h4⟩,fun⟨j,h1,k,h2,h3,h4⟩=>⟨j,h1,k,h2,?_,h4⟩⟩
  ·rw[e];have:=Pv L n L.length j;omega
  ·rw[e]at h3;by_cases hn:n<(L[j]!).length
   ·rw[e2 j h1 hn];exact h3
   ·rw[e3 j hn];omega
 ·exfalso;have:=(h0.long hm).1;simp only[List.length_append,List.length_cons,List.length_nil]at this;omega
 ·rw[a9 k u hk];refine⟨fun⟨j,h1,h2,h3⟩=>⟨j,h1,h2,?_⟩,fun⟨j,h1,h2,h3⟩=>⟨j,h1,h2,?_⟩⟩
  ·rw[e];have:=Pv L n L.length j;omega
  ·rw[e]at h3;by_cases hn:n<(L[j]!).length
   ·rw[e2 j h1 hn];exact h3
   ·rw[e3 j hn,← h2];omega
theorem XI{L:List (List Int)}(hL:cJ L):∀n,∃B,E7 L n 0 ⟨(Ds L n).out,(Ds L n).at_,[]⟩ B:=by
 intro n;induction n with
 |zero =>
  refine⟨[[]],rfl,by simp[Ds],rfl,fun j h1 _=>?_,by simp,fun u=>?_,fun z f t hm=>(by cases hm),fun z f u hf hu hul hm=>?_,fun k u hk=>?_,fun k u hk a=>?_,fun k u hk=>?_⟩
  ·simp only[Ds,List.range_zero,List.foldl_nil];have e:(List.replicate L.length (0:Int))[j]! =0:=by rw[getElem!_pos _ j (by simpa using h1)];simp
   rw[e];exact⟨Int.le_refl _,by simp[cov]⟩
  ·simp only[List.mem_singleton];refine⟨.inl,fun h=>?_⟩;rcases h with h|⟨j,h1,k,h2,h3,h4⟩
   ·exact h
   ·have:k=0:=by simp[cov]at h3;exact h3
    rw[h4,this];simp
  ·simp at hm
  ·have hk0:k=0:=by have:=(List.getElem?_eq_some_iff.1 hk).1;simpa using this
   subst hk0;simp at hk;subst hk;simp only[Ds,List.range_zero,List.foldl_nil];constructor
   ·intro h;simp at h
   ·rintro⟨j,h1,h2,_⟩;have:=hL.pos j h1;rw[h2]at this;simp at this
  ·have hk0:k=0:=by have:=(List.getElem?_eq_some_iff.1 hk).1;simpa using this
   subst hk0;simp at hk;subst hk;simp only[Ds,List.range_zero,List.foldl_nil];constructor
   ·intro h;simp at h
   ·rintro⟨h1,h2⟩;exfalso;have h3:=(List.getElem?_eq_some_iff.1 h2).1;have:a.to.toNat=0:=by simpa using h3
    rw[this]at h2;simp at h2
  ·have hk0:k=0:=by have:=(List.getElem?_eq_some_iff.1 hk).1;simpa using this
   subst hk0;simp[Ds]
 |succ n ih =>
  obtain⟨B,h⟩:=ih;obtain⟨B',h'⟩:=h.words hL L.length (Nat.le_refl _);rw[Lh];exact⟨B',h'.next⟩
structure BR(L:List (List Int))(l:List Ak)(B:List (List Int)):Prop where
 len:B.length=l.length
 root:B[0]? =some []
 srt:B.Pairwise Pd
 mem:∀u,u∈B↔u=[]∨∃w∈L,u <+: w
 fin:∀(k:Nat) (u:List Int),B[k]? =some u→((l[k]!).final=true↔u∈L)
 arcs:∀(k:Nat) (u:List Int),B[k]? =some u→∀a,a∈(l[k]!).arcs↔0≤a.to∧B[a.to.toNat]? =some (u++[a.sign])
 ris:∀(k:Nat) (u:List Int),B[k]? =some u→(l[k]!).arcs.Pairwise fun a b=>a.sign<b.sign
theorem c9{L:List (List Int)}(hL:cJ L)(hlen:∀w∈L,w.length≤20):∃B,BR L (AS L) B:=by
 obtain⟨B,h⟩:=XI hL 20;have hj:∀j,j<L.length→(L[j]!).length≤20:=fun j h1=>by rw[getElem!_pos L j h1];exact hlen _ (List.getElem_mem h1)
 have e:∀j,cov L 20 0 j=20:=fun j=>by unfold cov;rw[if_neg (by omega)]
 refine⟨B,h.len,h.root,h.srt,fun u=>?_,fun k u hk=>?_,h.arcs,h.ris⟩
 ·rw[h.mem];refine or_congr Iff.rfl ⟨fun⟨j,h1,k,h2,h3,h4⟩=>?_,fun⟨w,hw,hp⟩=>?_⟩
  ·exact⟨L[j]!,by rw[getElem!_pos L j h1];exact List.getElem_mem h1,by rw[h4];exact List.take_prefix _ _⟩
  ·obtain⟨j,h1,rfl⟩:=List.getElem_of_mem hw;have e2:L[j]! =L[j]:=getElem!_pos L j h1;refine⟨j,h1,u.length,by rw[e2];exact hp.length_le,?_,by rw[e2];exact List.prefix_iff_eq_take.1 hp⟩;rw[e];have:=hp.length_le;have:=hj j h1;rw[e2]at this;omega
 ·have:=h.fin k u hk;show((Ds L 20).out[k]!).final=true↔_;rw[this];constructor
  ·rintro⟨j,h1,h2,_⟩;rw[← h2,getElem!_pos L j h1];exact List.getElem_mem h1
  ·intro hu;obtain⟨j,h1,rfl⟩:=List.getElem_of_mem hu;have e2:L[j]! =L[j]:=getElem!_pos L j h1;refine⟨j,h1,e2,?_⟩;rw[e];have:=hj j h1;rw[e2]at this;exact this
attribute [local go_sem] Aq As Bb Bh Da AP AO Az Ax
def ZH(w:List Int):D:=match w with| []=>.nils|x::t=>.sl 1 (is (x::t))
def QJ(R:List (List Int)):List D:=R.map ZH
theorem Yj{R:List (List Int)}:(QJ R).length=R.length:=by simp[QJ]
theorem Yi{R:List (List Int)}{k:Nat}(h:k<R.length):(QJ R)[k]? =some (ZH (R[k]!)):=by simp[QJ,List.getElem?_eq_getElem h,getElem!_pos R k h]
theorem TJ{R:List (List Int)}{k:Nat}{w:List Int}(hw:w≠[]):(QJ R).set k (.sl 1 (is w))=QJ (R.set k w):=by
 have:D.sl 1 (is w)=ZH w:=by cases w with|nil=>exact absurd rfl hw|cons x t=>rfl
 rw[this];simp[QJ,List.map_set]
theorem Yk(n:Nat):List.replicate n D.nils=QJ (List.replicate n []):=by simp[QJ,ZH]
theorem aF(R:List (List Int)):Is (QJ R) (CI R):=by
 induction R with
 |nil=>exact .nil
 |cons w R ih =>
  refine .cons ?_ ih;cases w with
  |nil=>exact .nil 1
  |cons x t=>exact .refl _
attribute [local go_sem] Yj Yi
theorem Oo(w:List Int):ZH w= .nils∨∃l,ZH w= .sl 1 l:=by cases w with|nil=>exact .inl rfl|cons x t=>exact .inr ⟨_,rfl⟩
def Pn(i:Nat)(R:List (List Int))(a:Ar):List (List Int):=R.set a.to.toNat (R[i]!++[a.sign])
def LG(l:List Ak)(R:List (List Int))(i k:Nat):List (List Int):=((l[i]!).arcs.take k).foldl (Pn i) R
def Dw(l:List Ak)(j:Nat):List (List Int):=(List.range j).foldl (fun R i=>LG l R i (l[i]!).arcs.length) (List.replicate l.length [])
theorem Iu(l:List Ak)(j:Nat):Dw l (j+1)=LG l (Dw l j) j (l[j]!).arcs.length:=by simp[Dw,List.range_succ]
theorem KH(l:List Ak)(R:List (List Int))(i:Nat){k:Nat}(h:k<(l[i]!).arcs.length):LG l R i (k+1)=Pn i (LG l R i k) ((l[i]!).arcs[k]!):=by
 unfold LG;rw[AT h,List.foldl_append];rfl
theorem QL(l:List Ak)(R:List (List Int))(i k:Nat):(LG l R i k).length=R.length:=by
 unfold LG;generalize(l[i]!).arcs.take k=az;induction az generalizing R with
 |nil=>rfl
 |cons a az ih=>rw[List.foldl_cons,ih];simp[Pn]
theorem QH(l:List Ak)(j:Nat):(Dw l j).length=l.length:=by
 induction j with
 |zero=>simp[Dw]
 |succ j ih=>rw[Iu,QL,ih]
theorem Oq(l:List Ak)(R:List (List Int))(i n:Nat)(hR:∀w∈R,w.length≤n)(hi:i<R.length)(hf:∀a∈(l[i]!).arcs,(i:Int)<a.to):∀k,k≤(l[i]!).arcs.length→(LG l R i k)[i]! =R[i]!∧∀w∈LG l R i k,w.length≤n+1:=by
 intro k;induction k with
 |zero=>intro _;exact⟨rfl,fun w hw=>Nat.le_succ_of_le (hR w hw)⟩
 |succ k ih =>
  intro hk;obtain⟨h1,h2⟩:=ih (by omega);rw[KH l R i (by omega)];have ha:=hf ((l[i]!).arcs[k]!) (by rw[getElem!_pos _ k (by omega)];exact List.getElem_mem _);have hne:i≠((l[i]!).arcs[k]!).to.toNat:=by omega
  unfold Pn;refine⟨?_,fun w hw=>?_⟩
  ·rw[← h1];have gen:∀(X:List (List Int)) (q:Nat) (v:List Int),q≠i→(X.set q v)[i]! =X[i]! :=fun X q v hq=>by
    simp only[List.getElem!_eq_getElem?_getD,List.getElem?_set_ne hq]
   exact gen _ _ _ (fun e=>hne e.symm)
  ·rcases List.mem_or_eq_of_mem_set hw with h|h
   ·exact h2 w h
   ·rw[h,h1,List.length_append,List.length_cons,List.length_nil,getElem!_pos R i hi];have:=hR _ (List.getElem_mem hi);omega
theorem UH{l:List Ak}(hka:achk l=true)(j:Nat)(hj:j≤l.length):∀w∈Dw l j,w.length≤j:=by
 induction j with
 |zero =>
  intro w hw;simp only[Dw,List.range_zero,List.foldl_nil]at hw;rw[List.eq_of_mem_replicate hw];simp
 |succ j ih =>
  rw[Iu];exact(Oq l (Dw l j) j j (ih (by omega)) (by rw[QH];omega) (fun a ha=>(CF hka (by omega) a ha).1) _ (Nat.le_refl _)).2
theorem Ua{x:Int}{l:List Int}(hl:l.length≤1000000):Ai Tryz.prog 109 [.d (.sl 1 (is (x::l)))] [] (.own 2000 (x::l).length) [(2000,.row 3 1 (is (x::l)))] 0:=by
 refine Bo 8 [2000] Tryz.func109 He fun X_ ν_ w_=>?_;have h:is (x::l)= .int .i64 x::is l:=rfl;rw[h];refine Au @h ?_;try exact trivial
theorem U9:A3 Tryz.prog 109 [.nils] .nils:=by
 refine A6 8 Tryz.func109 A4 fun X_ w_=>?_;refine Ao ?_;try exact trivial
theorem dn{l:List Ak}(hl:Bt l)(hka:achk l=true):A3 Tryz.prog 54 [.sl 2 (AQ l)] (.sl 1 (QJ (Dw l l.length))):=by
 obtain⟨_,hl0,hl1⟩:=Aw.1 hka;have cn:=U9;refine A6 41 Tryz.func54 A4 fun X_ w_=>?_;refine Ao ?_;try exact trivial
 refine A8 (fun j:Nat=>j≤l.length) (fun j=>[(3,.own 1002 l.length),(11,.d (.sl 2 (AQ l))),(12,.d (.int .i64 l.length)),(13,.d (.int .i64 j))]) (fun j=>[(1002,.row 57 1 (QJ (Dw l j)))]) 4000 (fun j=>l.length-j) [3,11,12,13] [1002] 0 (Nat.zero_le _) rfl (by rw[show Dw l 0=List.replicate l.length []from rfl,← Yk];rfl) (Nat.le_of_ble_eq_true rfl) (fun _ _=>rfl) (fun _ _=>rfl) fun j hj=>?_;have hbl:=QH l j;by_cases hj3:j<l.length
 ·have hai:=hl.get (k:=j) hj3;have hst:=Iu l j;have hlong:=Oq l (Dw l j) j j (UH hka j hj) (by omega) (fun a ha=>(CF hka hj3 a ha).1);have hilen:=QL l (Dw l j) j;refine Ao ?_;try exact trivial
  refine A8 (fun k:Nat=>k≤(l[j]!).arcs.length) (fun k=>[(3,.own 1002 l.length),(11,.d (.sl 2 (AQ l))),(12,.d (.int .i64 l.length)),(13,.d (.int .i64 j)),(4,.d (.int .i64 j)),(19,.d (.sl 2 (IZ (l[j]!).arcs))),(20,.d (.int .i64 (l[j]!).arcs.length)),(21,.d (.int .i64 k))]) (fun k=>[(1002,.row 57 1 (QJ (LG l (Dw l j) j k)))]) 10000 (fun k=>(l[j]!).arcs.length-k) [3,11,12,13,4,19,20,21] [1002] 0 (Nat.zero_le _) rfl rfl (Nat.le_of_ble_eq_true rfl) (fun _ _=>rfl) (fun _ _=>rfl) fun k hk=>?_;obtain⟨g1,g2⟩:=hlong k hk;have hil:=hilen k;by_cases hk3:k<(l[j]!).arcs.length
  ·have hst2:=KH l (Dw l j) j hk3;unfold Pn at hst2;generalize hR:LG l (Dw l j) j k=R at hst2 g1 g2 hil ⊢;have hRl:R.length=l.length:=by rw[hil,hbl]
   obtain⟨b1,b2,_⟩:=CF hka hj3 ((l[j]!).arcs[k]!) (by rw[getElem!_pos _ k hk3];exact List.getElem_mem hk3);obtain⟨t,ht⟩:=Int.eq_ofNat_of_zero_le (by omega:0≤((l[j]!).arcs[k]!).to);have htl:t<R.length:=by omega
   rw[ht]at hst2;simp only[Int.toNat_natCast]at hst2;have hjR:j<R.length:=by omega
   have hrl:(R[j]!).length≤j+1:=by rw[getElem!_pos R j hjR];exact g2 _ (List.getElem_mem hjR)
   generalize hw:R[j]! =w at hst2 hrl;cases w with
   |nil =>
    have hbd:ZH (R[j]!)= .nils:=by rw[hw];rfl
    have hs1:(QJ R).set t (.sl 1 [.int .i64 ((l[j]!).arcs[k]!).sign])=QJ (R.set t [((l[j]!).arcs[k]!).sign]):=TJ (w:=[((l[j]!).arcs[k]!).sign]) (by simp);simp only[List.nil_append]at hst2;rcases Oo (R[t]!)with hbt|⟨lt,hbt⟩
    ·have c0_:=cn;refine Au (And.intro @ht (And.intro @hbd (And.intro @hRl (And.intro @hs1 (And.intro @hbt @Int.toNat_natCast))))) ?_;try exact trivial
     refine⟨k+1,by omega,?_,?_,by omega⟩
     ·exact Ei
     ·exact Hq @hst2
    ·have c0_:=cn;refine Au (And.intro @ht (And.intro @hbd (And.intro @hRl (And.intro @hs1 (And.intro @hbt @Int.toNat_natCast))))) ?_;try exact trivial
     refine⟨k+1,by omega,?_,?_,by omega⟩
     ·exact Ei
     ·exact Hq @hst2
   |cons x w =>
    simp only[List.length_cons]at hrl;have hbd:ZH (R[j]!)= .sl 1 (is (x::w)):=by rw[hw];rfl
    have hs1:(QJ R).set t (.sl 1 (is (x::w)++[.int .i64 ((l[j]!).arcs[k]!).sign]))=QJ (R.set t (x::w++[((l[j]!).arcs[k]!).sign])):=by
     rw[← TJ (by simp)];simp[is]
    have co:=Ua (x:=x) (l:=w) (by omega);simp only[List.length_cons]at co;rcases Oo (R[t]!)with hbt|⟨lt,hbt⟩
    ·have c0_:=co;refine Au (And.intro @ht (And.intro @hbd (And.intro @hRl (And.intro @hs1 (And.intro @hbt @Int.toNat_natCast))))) ?_;try exact trivial
     refine⟨k+1,by omega,?_,?_,by omega⟩
     ·exact Ei
     ·exact Hq @hst2
    ·have c0_:=co;refine Au (And.intro @ht (And.intro @hbd (And.intro @hRl (And.intro @hs1 (And.intro @hbt @Int.toNat_natCast))))) ?_;try exact trivial
     refine⟨k+1,by omega,?_,?_,by omega⟩
     ·exact Ei
     ·exact Hq @hst2
  ·have hke:k=(l[j]!).arcs.length:=by omega
   subst hke;rw[← hst];refine Ao ?_;try exact trivial
   refine⟨j+1,by omega,?_,?_,by omega⟩
   ·exact Ei
   ·exact GL
 ·have hje:j=l.length:=by omega
  subst hje;refine Ao ?_;try exact trivial
theorem eR{l:List Ak}(hl:Bt l)(hka:achk l=true):A3 Tryz.prog 54 [.sl 2 (AQ l)] (.sl 1 (CI (Dw l l.length))):=(dn hl hka).wk (Is.refl _) (.sl (aF _))
end Go.Eng.Tryz

/- The document's kinds, plainly: they tell the least automaton. (and what stands behind it: texts laid together) -/
import Derived.Test.YtooblcpmpemhfaaGreatDoorMR15
import Derived.Test.YtooblcpmpemhfaaGreatDoorMG4
import Derived.Test.YtooblcpmpemhfaaGreatDoorMR2
import Derived.Test.YtooblcpmpemhfaaGreatDoorMR13
import Derived.Test.YtooblcpmpemhfaaGreatDoorMR12
import Derived.Test.YtooblcpmpemhfaaGreatDoorMR7
set_option linter.unusedVariables false
set_option linter.unusedSimpArgs false
open Go Go.Eng Go.Proofs Go.RowKit
set_option maxHeartbeats 32000000
set_option maxRecDepth 100000
namespace Go.Eng.Tryz
theorem GZ{L:List (List Int)}{u w:List Int}:w∈AY L u↔u++w∈L:=by
 unfold AY;rw[List.mem_map];constructor
 ·rintro⟨v,hv,rfl⟩;obtain⟨h1,h2⟩:=List.mem_filter.1 hv;obtain⟨t,rfl⟩:=of_decide_eq_true h2;simpa using h1
 ·intro h;exact⟨u++w,List.mem_filter.2 ⟨h,decide_eq_true (List.prefix_append _ _)⟩,by simp⟩
theorem Mp{L:List (List Int)}{u:List Int}(hL:CF L):CF (AY L u):=by
 unfold AY CF;rw[List.pairwise_map];refine(List.Pairwise.filter _ hL).imp_of_mem fun{a b} ha hb h=>?_;obtain⟨s,rfl⟩:=of_decide_eq_true (List.mem_filter.1 ha).2;obtain⟨t,rfl⟩:=of_decide_eq_true (List.mem_filter.1 hb).2;rw[Dt]at h;simpa using h
theorem Fj{L:List (List Int)}(hL:CF L){u v:List Int}:AY L u=AY L v↔CS L u v:=by
 constructor
 ·intro h w;rw[← GZ,← GZ,h]
 ·intro h;refine F7 (R:=fun a b=>Aj a b<0) B0 (fun a b h1 h2=>by have:=Ao a b;omega) (Mp hL) (Mp hL) fun w=>?_;rw[GZ,GZ];exact h w
structure TE(L C:List (List Int))(x:Kd):Prop where
 mem:x.first∈C
 ends:AY L x.first=x.ends
 least:∀u∈C,AY L u=x.ends→¬Aj u x.first<0
 most:∀u∈C,AY L u=x.ends→(u.length:Int)≤x.long
 ex:∃u∈C,AY L u=x.ends∧(u.length:Int)=x.long
structure MJ(L C:List (List Int))(A:List Kd):Prop where
 all:∀k,k<A.length→TE L C (A[k]!)
 cov:∀u∈C,∃k,k<A.length∧(A[k]!).ends=AY L u
 inj:∀i j,i<A.length→j<A.length→(A[i]!).ends=(A[j]!).ends→i=j
theorem Ou{A:List Kd}{e:List (List Int)}(h:Bt A e<0):∀k,k<A.length→(A[k]!).ends≠e:=by
 intro k hk he;unfold Bt at h;have hlt:A.findIdx (fun k=>decide (k.ends=e))<A.length:=List.findIdx_lt_length_of_exists ⟨_,CG hk,decide_eq_true he⟩;rw[if_pos hlt]at h;omega
theorem MJ.find{L C:List (List Int)}{A:List Kd}(h:MJ L C A){k:Nat}(hk:k<A.length){e:List (List Int)}(he:(A[k]!).ends=e):Bt A e=k :=
 IU hk he fun j hj he2=>by
  have:=h.inj j k (by omega) hk (by rw[he2,he]);omega
theorem TE.more{L C:List (List Int)}{x:Kd}{u:List Int}(h:TE L C x)(hu:AY L u≠x.ends):TE L (C++[u]) x:=by
 obtain⟨a,b,c,d,v,v1,v2,v3⟩:=h;have key:∀w∈C++[u],AY L w=x.ends→w∈C:=fun w hw he=>by
  rcases List.mem_append.1 hw with h|h
  ·exact h
  ·rw[List.mem_singleton]at h;subst h;exact absurd he hu
 exact⟨List.mem_append_left _ a,b,fun w hw he=>c w (key w hw he) he,fun w hw he=>d w (key w hw he) he,v,List.mem_append_left _ v1,v2,v3⟩
theorem MJ.step{L C:List (List Int)}{A:List Kd}(h:MJ L C A)(u:List Int):MJ L (C++[u]) (K6 L A u):=by
 unfold K6;by_cases hf:Bt A (AY L u)<0
 ·have hno:=Ou hf;rw[if_pos hf];have hlen:(A++[(⟨AY L u,u.length,u⟩:Kd)]).length=A.length+1:=by simp
  have hold:∀k,k<A.length→(A++[(⟨AY L u,u.length,u⟩:Kd)])[k]! =A[k]! :=fun k hk=>DA hk;have hnew:(A++[(⟨AY L u,u.length,u⟩:Kd)])[A.length]! =⟨AY L u,u.length,u⟩:=Dz;have hC:∀w∈C,AY L w≠AY L u:=fun w hw he=>by
   obtain⟨k,k1,k2⟩:=h.cov w hw;exact hno k k1 (k2.trans he)
  have key:∀w∈C++[u],AY L w=AY L u→w=u:=fun w hw he=>by
   rcases List.mem_append.1 hw with h|h
   ·exact absurd he (hC w h)
   ·simpa using h
  refine⟨fun k hk=>?_,fun w hw=>?_,fun i j hi hj he=>?_⟩
  ·by_cases e:k=A.length
   ·subst e;rw[hnew];refine⟨by simp,rfl,fun w hw he=>?_,fun w hw he=>?_,u,by simp,rfl,rfl⟩
    ·rw[key w hw he];exact B0 _
    ·rw[key w hw he];exact Int.le_refl _
   ·rw[hold k (by omega)];exact(h.all k (by omega)).more fun he=>hno k (by omega) he.symm
  ·rcases List.mem_append.1 hw with hw|hw
   ·obtain⟨k,k1,k2⟩:=h.cov w hw;exact⟨k,by omega,by rw[hold k k1];exact k2⟩
   ·rw[List.mem_singleton]at hw;subst hw;exact⟨A.length,by omega,by rw[hnew]⟩
  ·by_cases e1:i=A.length<;>by_cases e2:j=A.length
   ·omega
   ·subst e1;rw[hnew,hold j (by omega)]at he;exact absurd he.symm (hno j (by omega))
   ·subst e2;rw[hnew,hold i (by omega)]at he;exact absurd he (hno i (by omega))
   ·rw[hold i (by omega),hold j (by omega)]at he;exact h.inj i j (by omega) (by omega) he
 ·rw[if_neg hf];obtain⟨q,hq,hql,hqe⟩:=IT hf;rw[hq,Int.toNat_natCast];obtain⟨a,b,c,d,v,v1,v2,v3⟩:=h.all q hql;generalize hx:(⟨(A[q]!).ends,max (A[q]!).long u.length,if Aj u (A[q]!).first<0 then u else(A[q]!).first⟩:Kd)=x;have hat:∀k:Nat,(A.set q x)[k]! =if k=q then x else A[k]! :=fun k=>Av hql;have hends:∀k:Nat,((A.set q x)[k]!).ends=(A[k]!).ends:=fun k=>by
   rw[hat];split
   ·rename_i e;subst e;rw[← hx]
   ·rfl
  have key:∀w∈C++[u],w∈C∨w=u:=fun w hw=>by simpa using hw
  refine⟨fun k hk=>?_,fun w hw=>?_,fun i j hi hj he=>?_⟩
  ·rw[List.length_set]at hk;rw[hat];split
   ·rename_i e;subst e;rw[← hx];refine⟨?_,?_,fun w hw he=>?_,fun w hw he=>?_,?_⟩
    ·simp only;split
     ·simp
     ·exact List.mem_append_left _ a
    ·simp only;split
     ·exact hqe.symm
     ·exact b
    ·simp only at he ⊢;rcases key w hw with hw|rfl
     ·have:=c w hw he;split
      ·rename_i h2;intro h3;exact this (Bh h3 (by omega))
      ·exact this
     ·split
      ·exact B0 _
      ·assumption
    ·simp only at he ⊢;rcases key w hw with hw|rfl
     ·have:=d w hw he;omega
     ·omega
    ·simp only;by_cases hle:(u.length:Int)≤(A[k]!).long
     ·exact⟨v,List.mem_append_left _ v1,v2,by omega⟩
     ·exact⟨u,by simp,hqe.symm,by omega⟩
   ·rename_i e;refine(h.all k hk).more fun he=>e (h.inj k q hk hql ?_);rw[← he,hqe]
  ·rw[List.length_set];rcases key w hw with hw|rfl
   ·obtain⟨k,k1,k2⟩:=h.cov w hw;exact⟨k,k1,by rw[hends];exact k2⟩
   ·exact⟨q,hql,by rw[hends];exact hqe⟩
  ·rw[List.length_set]at hi hj;rw[hends,hends]at he;exact h.inj i j hi hj he
theorem PF(L B:List (List Int)):∀j,j≤B.length→MJ L (B.take j) (CN L B j):=by
 intro j;induction j with
 |zero=>intro _;exact⟨fun k hk=>absurd hk (by simp[CN]),fun u hu=>by simp at hu,fun i j hi=>absurd hi (by simp[CN])⟩
 |succ j ih =>
  intro hj;rw[Ho (by omega),Ak (by omega)];exact(ih (by omega)).step _
theorem HE{a b:Kd}:Be a b=true↔a.long<b.long∨a.long=b.long∧Aj a.first b.first<0:=by simp[Be]
theorem HZ{a b c:Kd}(h:Be a b=true)(k:Be b c=true):Be a c=true:=by
 rw[HE]at *;rcases h with h|⟨h,h'⟩<;>rcases k with k|⟨k,k'⟩
 ·omega
 ·omega
 ·omega
 ·exact .inr ⟨by omega,Bh h' (by omega)⟩
theorem Ol(O:List Kd)(x:Kd):(IS O x).Perm (O++[x]):=by
 unfold IS;have h:O++[x]=O.take (FM O x)++(O.drop (FM O x)++[x]):=by rw[← List.append_assoc,List.take_append_drop]
 rw[h,List.append_assoc];exact List.Perm.append_left _ List.perm_append_comm
theorem PI{O:List Kd}{x:Kd}(h:O.Pairwise fun a b=>Be a b=true)(hne:∀y∈O,y.first≠x.first):(IS O x).Pairwise fun a b=>Be a b=true:=by
 have hb:∀y∈O.take (FM O x),Be y x=true:=fun y hy=>by
  obtain⟨i,hi,rfl⟩:=List.getElem_of_mem hy;rw[List.length_take]at hi;rw[List.getElem_take];have:=List.not_of_lt_findIdx (show i<O.findIdx (fun y => !Be y x)by unfold FM at hi;omega);simpa using this
 have ha:∀y∈O.drop (FM O x),Be x y=true:=fun y hy=>by
  by_cases hp:FM O x<O.length
  ·have h0:Be x (O[FM O x]!)=true:=by
    have h1:(fun y => !Be y x) O[FM O x]=true:=List.findIdx_getElem (p:=fun y => !Be y x) (w:=hp);have h2:=hne _ (CG hp);rw[getElem!_pos O _ hp]at h2 ⊢;generalize O[FM O x]=z at h1 h2 ⊢;have h3:¬Be z x=true:=by simpa using h1
    rw[HE]at h3 ⊢;have h4:=Ao z.first x.first;have h5:¬Aj z.first x.first=0:=fun e=>h2 ((C2 z.first x.first).1 e);omega
   have hd:=h.drop (i:=FM O x);rw[Jn hp]at hy hd;rw[List.pairwise_cons]at hd;rcases List.mem_cons.1 hy with e|hy
   ·rw[e];exact h0
   ·exact HZ h0 (hd.1 y hy)
  ·rw[List.drop_of_length_le (by omega)]at hy;cases hy
 unfold IS;rw[List.append_assoc,List.pairwise_append];refine⟨h.take,?_,fun a h1 b h2=>?_⟩
 ·rw[List.singleton_append,List.pairwise_cons];exact⟨ha,h.drop⟩
 ·rcases List.mem_append.1 h2 with h2|h2
  ·rw[List.mem_singleton]at h2;rw[h2];exact hb a h1
  ·exact HZ (hb a h1) (ha b h2)
theorem IP{A:List Kd}:∀j,j≤A.length→(Cs A j).Perm (A.take j):=by
 intro j;induction j with
 |zero=>intro _;simp[Cs]
 |succ j ih =>
  intro hj;rw[Dy (by omega),Ak (by omega)];exact(Ol _ _).trans ((ih (by omega)).append_right _)
theorem Oj{A:List Kd}(hA:∀i j,i<j→j<A.length→(A[i]!).first≠(A[j]!).first):∀j,j≤A.length→(Cs A j).Pairwise fun a b=>Be a b=true:=by
 intro j;induction j with
 |zero=>intro _;simp[Cs]
 |succ j ih =>
  intro hj;rw[Dy (by omega)];refine PI (ih (by omega)) fun y hy=>?_;have hy2:=(IP j (by omega)).mem_iff.1 hy;obtain⟨i,hi,rfl⟩:=List.getElem_of_mem hy2;rw[List.length_take]at hi;rw[List.getElem_take];have:=hA i j (by omega) (by omega)
  rwa [getElem!_pos A i (by omega)]at this
theorem MJ.first{L C:List (List Int)}{A:List Kd}(h:MJ L C A){i j:Nat}(hi:i<A.length)(hj:j<A.length)(e:(A[i]!).first=(A[j]!).first):i=j :=
 h.inj i j hi hj (by rw[← (h.all i hi).ends,← (h.all j hj).ends,e])
theorem MJ.perm{L C:List (List Int)}{A Z:List Kd}(h:MJ L C A)(hp:Z.Perm A):MJ L C Z:=by
 have hnd:(A.map Kd.ends).Nodup:=by
  refine List.pairwise_iff_getElem.2 fun i j hi hj hij e=>?_;simp only[List.length_map]at hi hj;simp only[List.getElem_map]at e;have:=h.inj i j hi hj (by rw[getElem!_pos A i hi,getElem!_pos A j hj];exact e);omega
 have hnd2:=((hp.map Kd.ends).nodup_iff).2 hnd;refine⟨fun k hk=>?_,fun u hu=>?_,fun i j hi hj e=>?_⟩
 ·obtain⟨i,hi,e⟩:=List.getElem_of_mem (hp.mem_iff.1 (CG hk));rw[← e,← getElem!_pos A i hi];exact h.all i hi
 ·obtain⟨k,k1,k2⟩:=h.cov u hu;obtain⟨i,hi,e⟩:=List.getElem_of_mem (hp.mem_iff.2 (CG k1));exact⟨i,hi,by rw[getElem!_pos Z i hi,e];exact k2⟩
 ·refine KS hnd2 (by simpa using hi) (by simpa using hj) ?_;rw[getElem!_pos Z i hi,getElem!_pos Z j hj]at e;simpa using e
def OO(L B:List (List Int)):List Kd:=Cs (CN L B B.length) (CN L B B.length).length
theorem RD(L B:List (List Int)):MJ L B (OO L B):=by
 have h:=PF L B B.length (Nat.le_refl _);rw[List.take_length]at h;have hp:=IP (A:=CN L B B.length) _ (Nat.le_refl _);rw[List.take_length]at hp;exact h.perm hp
theorem R3(L B:List (List Int)):(OO L B).Pairwise fun a b=>Be a b=true:=by
 have h:=PF L B B.length (Nat.le_refl _);exact Oj (fun i j h1 h2 e=>by have:=h.first (by omega) h2 e;omega) _ (Nat.le_refl _)
def MP(L:List (List Int))(l:List AB)(B:List (List Int))(Z:List Kd)(i:Nat):AB:=⟨(l[i]!).final,(l[i]!).arcs.map fun a=>⟨a.sign,Bt Z (AY L (B[a.to.toNat]!))⟩⟩
def IJ(L:List (List Int))(l:List AB)(B:List (List Int))(Z:List Kd)(i:Nat):List AB:=(List.range Z.length).map fun k=>if B.idxOf (Z[k]!).first<i then MP L l B Z (B.idxOf (Z[k]!).first)else⟨false,[]⟩
theorem GJ{L l B Z i}:(IJ L l B Z i).length=Z.length:=by simp[IJ]
section
variable {L:List (List Int)} {l:List AB} {B:List (List Int)} {Z:List Kd}
theorem AP.nd(h:AP L l B):B.Nodup:=h.srt.imp fun{a b} h e=>by
 subst e;rcases h with h|⟨_,h⟩
 ·omega
 ·exact B0 _ h
theorem AP.idxOf(h:AP L l B){i:Nat}(hi:i<B.length):B.idxOf (B[i]!)=i:=by
 rw[getElem!_pos B i hi];exact h.nd.idxOf_getElem i hi
theorem L3{u:List Int}(hu:u∈B):B.idxOf u<B.length∧B[B.idxOf u]! =u:=by
 have h:=List.idxOf_lt_length_of_mem hu;exact⟨h,by rw[getElem!_pos B _ h];exact List.getElem_idxOf h⟩
theorem Sc(h:AP L l B){i k:Nat}(hi:i<B.length)(hk:k<Z.length)(e:(Z[k]!).first=B[i]!):(IJ L l B Z i)[k]! =⟨false,[]⟩:=by
 unfold IJ;rw[E5 hk,e,h.idxOf hi,if_neg (by omega)]
theorem Pk(h:AP L l B)(hZ:MJ L B Z){i k:Nat}(hi:i<B.length)(hk:k<Z.length)(e:(Z[k]!).first=B[i]!):(IJ L l B Z i).set k (MP L l B Z i)=IJ L l B Z (i+1):=by
 refine IW (by simp[IJ]) fun j hj=>?_;rw[List.length_set,GJ]at hj;rw[Av (by rw[GJ];exact hk)];unfold IJ;rw[E5 hj,E5 hj];by_cases hjk:j=k
 ·subst hjk;rw[if_pos rfl,e,h.idxOf hi,if_pos (by omega)]
 ·rw[if_neg hjk];have hne:B.idxOf (Z[j]!).first≠i:=fun h2=>by
   have:=(L3 (hZ.all j hj).mem).2;rw[h2,← e]at this;exact hjk (hZ.first hj hk this.symm)
  by_cases hlt:B.idxOf (Z[j]!).first<i
  ·rw[if_pos hlt,if_pos (by omega)]
  ·rw[if_neg hlt,if_neg (by omega)]
theorem Pl(h:AP L l B)(hZ:MJ L B Z){i k:Nat}(hi:i<B.length)(hk:k<Z.length)(hf:(Z[k]!).ends=AY L (B[i]!))(e:(Z[k]!).first≠B[i]!):IJ L l B Z i=IJ L l B Z (i+1):=by
 refine IW (by simp[IJ]) fun j hj=>?_;rw[GJ]at hj;unfold IJ;rw[E5 hj,E5 hj];have hne:B.idxOf (Z[j]!).first≠i:=fun h2=>by
  have h3:=(L3 (hZ.all j hj).mem).2;rw[h2]at h3;have h4:=(hZ.all j hj).ends;rw[← h3,← hf]at h4;have:=hZ.inj _ _ hk hj h4;subst this;exact e h3.symm
 by_cases hlt:B.idxOf (Z[j]!).first<i
 ·rw[if_pos hlt,if_pos (by omega)]
 ·rw[if_neg hlt,if_neg (by omega)]
theorem KR(hZ:MJ L B Z){k:Nat}(hk:k<Z.length):(IJ L l B Z B.length)[k]! =MP L l B Z (B.idxOf (Z[k]!).first):=by
 unfold IJ;rw[E5 hk,if_pos (L3 (hZ.all k hk).mem).1]
theorem Tg(hL:CF L)(h:AP L l B)(hZ:MJ L B Z)(hs:Z.Pairwise fun a b=>Be a b=true):Bp L (IJ L l B Z B.length) (Z.map Kd.first):=by
 have hlen:(IJ L l B Z B.length).length=Z.length:=GJ;have hK:∀k,k<Z.length→(Z.map Kd.first)[k]! =(Z[k]!).first:=fun k hk=>by
  rw[getElem!_pos _ k (by simpa using hk),getElem!_pos Z k hk,List.getElem_map]
 have hidx:∀k,k<Z.length→B.idxOf (Z[k]!).first<l.length∧B[B.idxOf (Z[k]!).first]! =(Z[k]!).first:=fun k hk=>by
  obtain⟨a,b⟩:=L3 (hZ.all k hk).mem;exact⟨by rw[← h.len];exact a,b⟩
 have hlg:∀k,k<Z.length→MH L (Z[k]!).first (Z[k]!).long:=fun k hk=>by
  obtain⟨a,b,c,d,v,v1,v2,v3⟩:=hZ.all k hk;refine⟨fun w hw he=>d w ((h.bg w).2 hw) (((Fj hL).2 he).trans b),v,(h.bg v).1 v1,(Fj hL).1 (v2.trans b.symm),v3⟩
 have hrep:∀k,k<Z.length→SO L (Z[k]!).first:=fun k hk=>by
  obtain⟨a,b,c,d,_⟩:=hZ.all k hk;exact⟨(h.bg _).1 a,fun v hv he=>c v ((h.bg v).2 hv) (((Fj hL).2 he).trans b)⟩
 have hcov:∀v,Bg L v→∃k,k<Z.length∧(Z[k]!).ends=AY L v∧CS L (Z[k]!).first v:=fun v hv=>by
  obtain⟨k,k1,k2⟩:=hZ.cov v ((h.bg v).2 hv);exact⟨k,k1,k2,(Fj hL).1 ((hZ.all k k1).ends.trans k2)⟩
 refine⟨by rw[hlen];simp,fun u=>⟨fun hu=>?_,fun hu=>?_⟩,fun v hv=>?_,fun k hk=>?_,?_,fun k hk=>?_,fun k hk a=>?_,fun k hk=>?_⟩
 ·obtain⟨x,hx,rfl⟩:=List.mem_map.1 hu;obtain⟨k,hk,rfl⟩:=List.getElem_of_mem hx;have:=hrep k hk
  rwa [getElem!_pos Z k hk]at this
 ·obtain⟨k,k1,k2,k3⟩:=hcov u hu.1;rw[← (hrep k k1).one hu k3];exact List.mem_map_of_mem (CG k1)
 ·obtain⟨k,k1,k2,k3⟩:=hcov v hv;exact⟨k,by rw[hlen];exact k1,by rw[hK k k1];exact k3⟩
 ·rw[hlen]at hk;rw[hK k hk];exact⟨_,hlg k hk⟩
 ·rw[List.pairwise_map];refine hs.imp_of_mem fun{a b} ha hb h=>?_;obtain⟨i,hi,rfl⟩:=List.getElem_of_mem ha;obtain⟨j,hj,rfl⟩:=List.getElem_of_mem hb;have h1:=hlg i hi;have h2:=hlg j hj;rw[getElem!_pos Z i hi]at h1;rw[getElem!_pos Z j hj]at h2;exact⟨_,_,h1,h2,HE.1 h⟩
 ·rw[hlen]at hk;obtain⟨i1,i2⟩:=hidx k hk;rw[KR hZ hk,hK k hk];unfold MP;rw[h.fin' i1,i2]
 ·rw[hlen]at hk;obtain⟨i1,i2⟩:=hidx k hk;rw[KR hZ hk,hK k hk,hlen];unfold MP;simp only[List.mem_map];constructor
  ·rintro⟨b,hb,rfl⟩;obtain⟨g1,g2,g3,g4⟩:=h.arc i1 hb;have hbg:=h.bgp g3;obtain⟨q,q1,q2,q3⟩:=hcov _ hbg;rw[hZ.find q1 q2];simp only[Int.toNat_natCast];refine⟨by omega,q1,?_,?_⟩
   ·rw[g4,i2]at hbg;exact hbg
   ·rw[hK q q1,← i2,← g4];exact q3
  ·rintro⟨g1,g2,g3,g4⟩;rw[← i2]at g3 g4;obtain⟨t,t1,t2,t3⟩:=h.arc_of i1 g3;refine⟨_,t3,?_⟩;have e:(Z[a.to.toNat]!).ends=AY L (B[t]!):=by
    rw[hK _ g2]at g4;rw[← (hZ.all _ g2).ends,t2];exact(Fj hL).2 g4
   have:=hZ.find g2 e;cases a with
   |mk s t' =>
    simp only[Ar.mk.injEq,Int.toNat_natCast,true_and];simp only at this g1;rw[this];omega
 ·rw[hlen]at hk;obtain⟨i1,i2⟩:=hidx k hk;rw[KR hZ hk];unfold MP;simp only[List.pairwise_map];exact h.ris _ _ (h.at i1)
end
attribute [local go_sem] Aq As AK AO Ii KZ AU AW AG AD Hd ID Ji TA
theorem R4{L B:List (List Int)}(hL:L.length≤1000)(hw:∀w∈L,w.length≤1000)(hB:∀u∈B,u.length≤1000)(hBl:B.length≤10000):NP (OO L B)∧(OO L B).length≤B.length∧∀k,k<(OO L B).length→((OO L B)[k]!).first.length≤1000:=by
 have h:=Nz hL hw hB B.length (Nat.le_refl _);have hl:(OO L B).length=(CN L B B.length).length:=K8 _ _ (Nat.le_refl _);have hle:=h.len;have hm:∀k,k<(OO L B).length→∃i,i<(CN L B B.length).length∧(OO L B)[k]! =(CN L B B.length)[i]! :=fun k hk=>by
  obtain⟨i,hi,e⟩:=List.getElem_of_mem (K7 _ (Nat.le_refl _) _ (CG hk));exact⟨i,hi,by rw[getElem!_pos _ i hi];exact e.symm⟩
 refine⟨⟨by omega,fun k hk=>?_⟩,by omega,fun k hk=>?_⟩
 ·obtain⟨i,hi,e⟩:=hm k hk;rw[e];exact(h.kds (by omega)).2 i hi
 ·obtain⟨i,hi,e⟩:=hm k hk;rw[e];exact(h.ok i hi).2.2.1
theorem R8{L l B Z}:(List.replicate Z.length (D.agg [.bool false,.nils])).map TA.ini=AH (IJ L l B Z 0):=by
 refine List.ext_getElem (by simp[IJ,AH]) fun k h1 h2=>?_;simp[Tb.ini,TA,D.put,AH,MO,Gu,IJ]
theorem QE{L:List (List Int)}(hL:BY L):A1 Tryz.prog 18 [.sl 1 (AZ L)] (J9 L):=by
 have cm:=QF hL;unfold J9;unfold Iy at cm;by_cases he:F0 L=0;rotate_left
 ·rw[if_neg he]at cm ⊢;generalize F0 L=e at *;refine A1.run (N:=106) Tryz.func18 rfl (by kernel_rfl) rfl rfl rfl (by exact Ab) fun X_ w_=>?_;have c0_:=cm;refine Aw ?_;try exact trivial
 rw[if_pos he]at cm ⊢;obtain⟨B,hB⟩:=Ky he;obtain⟨w1,w2,w3⟩:=H9 he;have hwl:∀w∈L,w.length≤20:=fun w hw=>(C1 (List.all_eq_true.1 w2 w hw)).2.1;have cb:=MV hL (by omega);rw[Nh w3 hwl hB.b]at cb;have ck:=RX hL he hB;have hBl:B.length≤6001:=by rw[hB.b.len];exact hB.l1
 have hBn:=hB.b.len;have hlong:=hB.long;obtain⟨z1,z2,z3⟩:=R4 (L:=L) (B:=B) (by omega) (fun w hw=>by have:=hwl w hw;omega) (fun u hu=>by have:=hlong u hu;omega) (by omega);obtain⟨K,hK⟩:=PU he;rw[hK.k.uniq (Tg w3 hB.b (RD L B) (R3 L B))];have hI:=RD L B;have hends:∀u∈B,A1 Tryz.prog 65 [.sl 1 (AZ L),.sl 1 (is u)] (.sl 1 (AZ (AY L u))):=fun u hu=>LL hL (by omega) (by have:=hlong u hu;omega);have hend2:∀u:List Int,BY (AY L u):=fun u=>by
  obtain⟨a,b⟩:=Lh (L:=L) (by omega) (fun w hw=>by have:=hwl w hw;omega) u;exact⟨by omega,fun w hw=>by have:=b w hw;omega⟩
 change A1 Tryz.prog 62 [.sl 1 (AZ L)] (.sl 3 (kds (OO L B)))at ck;have hfew:=hB.few;have hbb:=hB.b;have hini:=fun l=>R8 (L:=L) (l:=l) (B:=B) (Z:=OO L B);generalize OO L B=Z at *;generalize Ap L=l at *;refine A1.run (N:=106) Tryz.func18 rfl (by kernel_rfl) rfl rfl rfl (by exact Ab) fun X_ w_=>?_;have c0_:=cm;have c1_:=ck;have c2_:=cb;refine Aw ?_;try exact trivial
 refine Nk 8 30000 TA rfl rfl (by simp) rfl rfl (by decide) LU (Nat.le_of_ble_eq_true rfl) (hini l) rfl ?_;refine A7 (fun i:Nat=>i≤B.length) (fun i=>[(0,.d (.sl 1 (AZ L))),(4,.d (.sl 2 (AH l))),(6,.d (.sl 3 (kds Z))),(7,.d (.sl 1 (AZ B))),(8,.tab 30000 Z.length),(9,.d (.int .i64 i))]) (fun i=>[(30000,.tab TA (AH (IJ L l B Z i)) none)]) 40000 (fun i=>B.length-i) [0,4,6,7,8,9] [30000] 0 (Nat.zero_le _) rfl rfl (Nat.le_of_ble_eq_true rfl) (fun _ _=>rfl) (fun _ _=>rfl) fun i hi=>?_;have hol:=GJ (L:=L) (l:=l) (B:=B) (Z:=Z) (i:=i);by_cases hi3:i<B.length
 ·have hui:=CG hi3;obtain⟨k,k1,k2⟩:=hI.cov _ hui;have ce:=hends _ hui;have cf:=Nv z1 (hend2 (B[i]!));rw[hI.find k1 k2]at cf;have hlu:=hlong _ hui;have cs:=Fu (a:=(Z[k]!).first) (b:=B[i]!) (by have:=z3 k k1;omega) (by omega);by_cases hs:(Z[k]!).first=B[i]!
  rotate_left
  ·rw[decide_eq_false hs]at cs;have hst:=(Pl (l:=l) hbb hI hi3 k1 k2 hs).symm;generalize IJ L l B Z i=o at hst hol ⊢;generalize AY L (B[i]!)=E at ce cf;have c0_:=ce;have c1_:=cf;have c2_:=cs;refine Aw ?_;try exact trivial
   refine⟨i+1,by omega,?_,?_,by omega⟩
   ·simp(disch:=omega)only[go_sem,A2,Int.natCast_add,Int.cast_ofNat_Int]
   ·simp(disch:=omega)only[go_sem,A2,hst]
  ·rw[decide_eq_true hs]at cs;have hok:=Sc (L:=L) hbb hi3 k1 hs;have hst:=Pk (l:=l) hbb hI hi3 k1 hs;unfold MP at hst;have hil:i<l.length:=by omega
   have hfl:=hfew i;generalize hP:IJ L l B Z (i+1)=P1 at hst;generalize IJ L l B Z i=o at hol hok hst ⊢;generalize AY L (B[i]!)=E at ce cf;have c0_:=ce;have c1_:=cf;have c2_:=cs;refine AI (And.intro @hol (And.intro @hok @Int.toNat_natCast)) ?_;try exact trivial
   refine A7 (fun j:Nat=>j≤(l[i]!).arcs.length) (fun j=>[(0,.d (.sl 1 (AZ L))),(4,.d (.sl 2 (AH l))),(6,.d (.sl 3 (kds Z))),(7,.d (.sl 1 (AZ B))),(8,.tab 30000 Z.length),(9,.d (.int .i64 i)),(10,.d (.int .i64 k)),(11,.d (.int .i64 j))])
    (fun j=>[(30000,.tab TA (AH (o.set k ⟨(l[i]!).final,((l[i]!).arcs.take j).map fun a=>⟨a.sign,Bt Z (AY L (B[a.to.toNat]!))⟩⟩)) none)]) 60000 (fun j=>(l[i]!).arcs.length-j) [0,4,6,7,8,9,10,11] [30000] 0 (Nat.zero_le _) rfl (by rw[List.take_zero,List.map_nil];rfl) (Nat.le_of_ble_eq_true rfl) (fun _ _=>rfl) (fun _ _=>rfl) fun j hj=>?_
   have hsl:∀r:AB,(o.set k r).length=Z.length:=fun r=>by rw[List.length_set,hol]
   have hsg:∀r:AB,(o.set k r)[k]! =r:=fun r=>by rw[Av (by omega),if_pos rfl]
   have hmj:(((l[i]!).arcs.take j).map fun a:Ar=>(⟨a.sign,Bt Z (AY L (B[a.to.toNat]!))⟩:Ar)).length=j:=by rw[List.length_map,List.length_take];omega
   by_cases hj3:j<(l[i]!).arcs.length
   ·obtain⟨g1,g2,g3,g4⟩:=hbb.arc hil (CG hj3);obtain⟨t,ht⟩:=Int.eq_ofNat_of_zero_le g1;rw[ht,Int.toNat_natCast]at g2 g3 g4;have htB:t<B.length:=by omega
    have hut:=CG htB;obtain⟨q,q1,q2⟩:=hI.cov _ hut;have hfq:=hI.find q1 q2;have ce2:=hends _ hut;have cf2:=Nv z1 (hend2 (B[t]!));rw[hfq]at cf2;have hlt:=hlong _ hut;have hsj:((l[i]!).arcs.take (j+1)).map (fun a:Ar=>(⟨a.sign,Bt Z (AY L (B[a.to.toNat]!))⟩:Ar))=(((l[i]!).arcs.take j).map fun a:Ar=>(⟨a.sign,Bt Z (AY L (B[a.to.toNat]!))⟩:Ar))++[⟨((l[i]!).arcs[j]!).sign,(q:Int)⟩]:=by
     rw[Ak hj3,List.map_append,List.map_cons,List.map_nil,ht,Int.toNat_natCast,hfq]
    generalize((l[i]!).arcs.take j).map (fun a:Ar=>(⟨a.sign,Bt Z (AY L (B[a.to.toNat]!))⟩:Ar))=A0 at hsj hmj ⊢;generalize AY L (B[t]!)=E2 at ce2 cf2;have hs1:=hsl ⟨(l[i]!).final,A0⟩;have hs2:=hsl ⟨(l[i]!).final,A0++[⟨((l[i]!).arcs[j]!).sign,(q:Int)⟩]⟩;have hlA:(A0++[(⟨((l[i]!).arcs[j]!).sign,(q:Int)⟩:Ar)]).length=j+1:=by rw[List.length_append,hmj];rfl
    have c0_:=ce2;have c1_:=cf2;refine AI (And.intro @hsl (And.intro @hsg (And.intro @ht (And.intro @hmj @Int.toNat_natCast)))) ?_;try exact trivial
    refine⟨j+1,by omega,?_,?_,by omega⟩
    ·simp(disch:=omega)only[go_sem,A2,Int.natCast_add,Int.cast_ofNat_Int]
    ·simp(disch:=omega)only[go_sem,A2,List.set_set,hsj]
   ·have hje:j=(l[i]!).arcs.length:=by omega
    subst hje;rw[List.take_length]at *;refine AI @hsl ?_;try exact trivial
    refine⟨i+1,by omega,?_,?_,by omega⟩
    ·simp(disch:=omega)only[go_sem,A2,Int.natCast_add,Int.cast_ofNat_Int]
    ·simp(disch:=omega)only[go_sem,A2,hP,hst]
 ·have hie:i=B.length:=by omega
  subst hie;refine Aw ?_;try exact trivial
end Go.Eng.Tryz
namespace Go.Eng.Tryz
theorem SW{n:Nat}{ds:List D}(h:H7 Tryz.prog n 57 ds):∃l,Jc Tryz.prog 57 ds= .sl 1 (is l)∧l.length≤9223372036854775807:=by
 obtain⟨m,xs,rfl,h1,h2⟩:=LB Tryz.underlying57 h;obtain⟨l,e1,e2,_⟩:=Gw (f:=fun z=>D.int .i64 z) (ok:=fun _=>True) (fun x hx=>by
  obtain⟨z,rfl,_⟩:=MM Tryz.underlying3 hx;exact⟨z,Rd Tryz.underlying3,trivial⟩) xs h2
 rw[e1,Jb Tryz.underlying57];exact⟨l,rfl,by omega⟩
attribute [local go_sem] Aq As AK AO AU AW AG AD
theorem RP{n:Nat}{ds:List D}(h:H7 Tryz.prog n 22 ds):∃l,Jc Tryz.prog 22 ds= .sl 1 (AZ l)∧BY l:=by
 obtain⟨m,xs,rfl,h1,h2⟩:=LB Tryz.underlying22 h;obtain⟨l,e1,e2,h3⟩:=Gw (f:=fun w=>D.sl 1 (is w)) (ok:=fun w=>w.length≤9223372036854775807) (fun x hx=>SW hx) xs h2;rw[e1,Jb Tryz.underlying22];exact⟨l,rfl,by omega,h3⟩
def Mg(l:List (List Int))(n:Nat):Bool:=(l.all fun w=>decide (w.length≤100))&&decide (l.length≤n)
theorem IV{l:List (List Int)}{n:Nat}:Mg l n=true↔(∀k,k<l.length→(l[k]!).length≤100)∧l.length≤n:=by
 unfold Mg;rw[Bool.and_eq_true,List.all_eq_true,decide_eq_true_eq];refine and_congr ⟨fun h k hk=>?_,fun h s hs=>?_⟩ Iff.rfl
 ·rw[getElem!_pos l k hk];exact of_decide_eq_true (h _ (List.getElem_mem hk))
 ·obtain⟨k,hk,rfl⟩:=List.getElem_of_mem hs;have:=h k hk;rw[getElem!_pos l k hk]at this;exact decide_eq_true this
theorem T6{l:List (List Int)}{n:Nat}(hl:BY l)(hn:n≤1000000):A1 Tryz.prog 15 [.sl 1 (AZ l),.int .i64 n] (.bool (Mg l n)):=by
 have hlen:=hl.1;refine A1.run (N:=22) Tryz.func15 rfl (by kernel_rfl) rfl rfl rfl (by exact An) fun X_ w_=>?_;refine Aw ?_;try exact trivial
 refine A7 (fun k:Nat=>k≤l.length∧∀j,j<k→(l[j]!).length≤100) (fun k=>[(0,.d (.sl 1 (AZ l))),(1,.d (.int .i64 n)),(5,.d (.int .i64 k))]) (fun _=>[]) 0 (fun k=>l.length-k) [0,1,5] [] 0 ⟨Nat.zero_le _,fun j h=>by omega⟩ rfl rfl (Nat.le_refl _) (fun _ _=>rfl) (fun _ _=>rfl) fun k hk=>?_;obtain⟨hk1,hk2⟩:=hk;by_cases hk:k<l.length
 ·have ha:=hl.2 (l[k]!) (CG hk);by_cases h1:100<(l[k]!).length
  ·have e:Mg l n=false:=by
    cases h:Mg l n with
    |false=>rfl
    |true=>have:=(IV.1 h).1 k hk;omega
   refine AI @e ?_;try exact trivial
  ·refine Aw ?_;try exact trivial
   refine⟨k+1,⟨by omega,fun j hj=>?_⟩,?_,rfl,by omega⟩
   ·by_cases e:j=k
    ·subst e;omega
    ·exact hk2 j (by omega)
   ·simp(disch:=omega)only[go_sem,A2,Int.natCast_add,Int.cast_ofNat_Int]
 ·have hkl:k=l.length:=by omega
  subst hkl;have e:Mg l n=decide ((l.length:Int)≤n):=by
   by_cases h2:l.length≤n
   ·rw[IV.2 ⟨hk2,h2⟩,decide_eq_true (by omega)]
   ·cases h:Mg l n with
    |false=>rw[decide_eq_false (by omega)]
    |true=>have:=(IV.1 h).2;omega
  rw[e];refine Aw ?_;try exact trivial
end Go.Eng.Tryz
namespace Go.Eng.Tryz
attribute [local go_sem] Aq As AK AO AU AW AG AD
def Tw:List (List Int):=[[97,99],[98,99]]
def TY:List (List Int):=[[98],[97]]
def SQ:List AB:=[⟨false,[⟨97,1⟩,⟨98,1⟩]⟩,⟨false,[⟨99,2⟩]⟩,⟨true,[]⟩]
theorem SV:F0 Tw=0:=by decide +kernel
theorem Rw:F0 TY=90:=by decide +kernel
theorem Rc:De Tw=SQ:=by decide +kernel
theorem Tf:BZ SQ:=by unfold BZ SQ;decide
theorem Te:BZ []:=by unfold BZ;decide
theorem Td:BZ [⟨false,[]⟩,⟨false,[]⟩]:=by unfold BZ;decide
theorem OB:A1 Tryz.prog 14 [] (.bool true):=by
 have t0:=Pg (L:=Tw) ⟨by decide,by decide⟩;rw[PV SV,Rc]at t0;have t1:=Pg (L:=TY) ⟨by decide,by decide⟩;rw[PW (by rw[Rw];decide),Rw]at t1;have e0:=KN (l:=SQ) Tf (fun _=>by decide);rw[show leastB SQ=true by decide +kernel]at e0;have e1:=(KN (l:=[]) Te (fun _=>by decide)).wk (as':=[.nils]) (.cons (.nil 2) .nil) (.refl _);rw[show leastB []=false by decide +kernel]at e1;have e2:=(KN (l:=[⟨false,[]⟩,⟨false,[]⟩]) Td (fun _=>by decide)).wk (as':=[.sl 2 [.agg [.bool false,.nils],.agg [.bool false,.nils]]]) (.cons (.sl (.cons (.agg (.cons (.refl _) (.cons (.nil 2) .nil))) (.cons (.agg (.cons (.refl _) (.cons (.nil 2) .nil))) .nil))) .nil) (.refl _);rw[show leastB [⟨false,[]⟩,⟨false,[]⟩]=false by decide +kernel]at e2;simp only[Tw,TY,AZ,is,List.map_cons,List.map_nil]at t0 t1;simp only[SQ,AH,MO,Gu,ar,List.map_cons,List.map_nil]at t0 e0;refine A1.run (N:=84) Tryz.func14 rfl (by kernel_rfl) rfl rfl rfl (by exact Rp) fun X_ w_=>?_;have c0_:=t0;have c1_:=t1;repeat ((fail_if_success (with_reducible show WP _ _ (.region 5 _ _) _ _));first|with_reducible exact Ev.nil|with_reducible exact Jy|((with_reducible apply FZ);rfl)|((with_reducible apply C8);rfl)|((with_reducible apply DV);rfl)|with_reducible apply DY|with_reducible apply Ed|with_reducible apply D2|((with_reducible apply JR (N:=84) rfl rfl);(focus simp only[Nat.reduceAdd]<;>rfl))|((with_reducible apply JT (N:=84) mixed rfl rfl);(focus simp only[Nat.reduceAdd]<;>rfl))|((with_reducible apply JU);(focus first|(apply Ex;(focus rfl);rfl)|(apply Ey;(focus rfl);(focus rfl);rfl)))|((with_reducible apply G6);(focus first|(apply Ex;(focus rfl);rfl)|(apply Ey;(focus rfl);(focus rfl);rfl)))|with_reducible apply Jx|with_reducible apply Gc|with_reducible apply Ge|with_reducible apply Gd|with_reducible apply Gf|((first|(with_reducible apply G7)|(with_reducible apply Eg));(focus rfl))|((first|(with_reducible apply G8)|(with_reducible apply Eh));(focus rfl))|(apply Jq;(focus simp(disch:=omega)only[go_sem]<;>rfl);(focus first|exact c0_|exact c1_);(focus rfl);(focus first|(simp(disch:=omega)only[go_sem]<;>rfl)|rfl))|((with_reducible apply F3);(focus simp only[Nat.reduceAdd]<;>rfl);(focus simp(disch:=omega)only[go_sem]<;>rfl))|(apply Jp;(focus rfl);(focus simp(disch:=omega)only[go_sem]<;>rfl);(focus first|exact c0_|exact c1_);(iterate 3 (focus first|(simp(disch:=omega)only[go_sem]<;>rfl)|rfl)))|((first|apply Gt|apply Gs);(focus simp only[Nat.reduceAdd]<;>rfl);(focus rfl);(iterate 2 (focus simp(disch:=omega)only[go_sem]<;>rfl));(first|((focus first|exact c0_|exact c1_);(iterate 2 (focus first|(simp(disch:=omega)only[go_sem]<;>rfl)|rfl));(focus rfl);(iterate 3 (focus first|(simp(disch:=omega)only[go_sem]<;>rfl)|rfl)))))|((first|(with_reducible apply Ga)|(with_reducible apply G9));(focus simp only[Nat.reduceAdd]<;>rfl);(focus simp(disch:=omega)only[go_sem]<;>rfl);(focus first|(simp(disch:=omega)only[go_sem]<;>rfl)|rfl))|with_reducible apply Ec|with_reducible apply Eb|with_reducible apply DX|with_reducible apply DW|with_reducible apply D1|with_reducible apply D0|with_reducible apply CZ|with_reducible apply CX rfl|with_reducible apply CV|with_reducible apply CU|with_reducible apply CT|with_reducible apply G3|with_reducible apply G2|with_reducible apply Ce|with_reducible apply D3|with_reducible apply Ee|with_reducible apply Cd|with_reducible apply Cc|((with_reducible apply JQ);(focus first|(simp(disch:=omega)only[go_sem]<;>rfl)|rfl))|((with_reducible apply JS);(focus first|(simp(disch:=omega)only[go_sem]<;>rfl)|rfl))|((with_reducible apply DZ);(focus rfl))|((with_reducible apply E3);(focus rfl);(focus rfl))|(with_reducible rfl)|((with_reducible show List.map AS _=_);simp only[List.map_cons,List.map_nil,AS,C7];rfl)|((with_reducible show By _ _=true);kernel_rfl)|((with_reducible show _=_);simp(disch:=omega)only[go_sem]<;>rfl)|((fail_if_success (with_reducible show Ev _ _ _ _ (_::_) _ _ _ _ _));(show Ev _ _ _ _ (_::_) _ _ _ _ _))|fail)
 have c0_:=e0;have c1_:=e1;have c2_:=e2;refine Aw ?_;try exact trivial
end Go.Eng.Tryz

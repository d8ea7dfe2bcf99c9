/- The document's beginnings, walked. (and what stands behind it: texts laid together) -/
import Derived.Test.YtooblcpmpemhfaaGreatDoorMG4
import Derived.Test.YtooblcpmpemhfaaGreatDoorMR13
set_option linter.unusedVariables false
set_option linter.unusedSimpArgs false
open Go Go.Eng Go.Proofs Go.RowKit
set_option maxHeartbeats 32000000
set_option maxRecDepth 100000
namespace Go.Eng.Tryz
attribute [local go_sem] Aq As AK AO NK
theorem Rh{R:List (List Int)}(h:∀w∈R,w≠[]):HW R=AZ R:=by
 unfold HW AZ;refine List.map_congr_left fun w hw=>?_;have:=h w hw;cases w with
 |nil=>exact absurd rfl this
 |cons x t=>rfl
theorem Rj{A R:List (List Int)}(h:∀w∈R,w≠[]):HW A++AZ R=HW (A++R):=by
 rw[← Rh h];simp[HW]
theorem MV{L:List (List Int)}(hL:BY L)(hlen:L.length≤1000):A1 Tryz.prog 63 [.sl 1 (AZ L)] (.sl 1 (AZ (ES L 20))):=by
 refine A1.wk (r:=.sl 1 (HW (ES L 20))) ?_ (Kt.refl _) (.sl (Q1 _));have hb0:HW (ES L 0)=[.nils]:=rfl;have hbl:∀n,n≤20→(ES L n).length≤1+1000 * n:=by
  intro n;induction n with
  |zero=>intro _;simp[ES]
  |succ n ih =>
   intro hn;have:=ih (by omega);have h2:=Ny L (n+1) L.length (Nat.le_refl _);simp only[ES,List.length_append];omega
 refine A1.run (N:=59) Tryz.func63 rfl (by kernel_rfl) rfl rfl rfl (by exact Ab) fun X_ w_=>?_;refine Aw ?_;try exact trivial
 have hstep:∀n,1≤n→ES L n=ES L (n-1)++Es L n L.length:=fun n hn=>by
  obtain⟨m,rfl⟩:∃m,n=m+1:=⟨n-1,by omega⟩
  rfl
 have hne:∀n,1≤n→∀w∈Es L n L.length,w≠[]:=fun n hn w hw=>by
  obtain⟨v,_,h1,rfl⟩:=(KU L n L.length (Nat.le_refl _) w).1 hw;intro e;have:=congrArg List.length e;rw[List.length_take]at this;simp only[List.length_nil]at this;omega
 refine A7 (fun n:Nat=>1≤n∧n≤21) (fun n=>[(0,.d (.sl 1 (AZ L))),(3,.own 1000 (ES L (n-1)).length),(4,.d (.int .i64 n))]) (fun n=>[(1000,.row 57 1 (HW (ES L (n-1))))]) 20000 (fun n=>21-n) [0,3,4] [1000] 1 ⟨Nat.le_refl _,by omega⟩ rfl rfl (Nat.le_of_ble_eq_true rfl) (fun _ _=>rfl) (fun _ _=>rfl) fun n hn=>?_;obtain⟨n1,n2⟩:=hn;have hbn:=hbl (n-1) (by omega);have hst:=hstep n n1;have hnn:=hne n n1;by_cases hn3:n≤20
 ·generalize ES L (n-1)=A at hbn hst ⊢;refine Aw ?_;try exact trivial
  refine DJ 5 30000 57 1 rfl (by decide) (Nat.le_of_ble_eq_true rfl) ?_;refine A7 (fun k:Nat=>k≤L.length) (fun k=>[(0,.d (.sl 1 (AZ L))),(3,.own 1000 A.length),(4,.d (.int .i64 n)),(5,.own 30000 (Es L n k).length),(6,.d (.int .i64 k))]) (fun k=>[(1000,.row 57 1 (HW A)),(30000,.row 57 1 (AZ (Es L n k)))]) 40000 (fun k=>L.length-k) [0,3,4,5,6] [1000,30000] 0 (Nat.zero_le _) rfl rfl (Nat.le_of_ble_eq_true rfl) (fun _ _=>rfl) (fun _ _=>rfl) fun k hk=>?_;have hlk:=Ny L n k hk;by_cases hk3:k<L.length
  ·have hkL:=hL.get hk3;have hsk:=GK (n:=n) hk3;unfold Hk at hsk;by_cases hw:n≤(L[k]!).length;rotate_left
   ·rw[if_neg (fun h=>hw h.1)]at hsk;generalize Es L n k=l at hsk hlk ⊢;refine Aw ?_;try exact trivial
    refine⟨k+1,by omega,?_,?_,by omega⟩
    ·simp(disch:=omega)only[go_sem,A2,Int.natCast_add,Int.cast_ofNat_Int,hsk]
    ·simp(disch:=omega)only[go_sem,A2,hsk]
   by_cases h0:(Es L n k).length=0
   ·rw[if_pos ⟨hw,.inl h0⟩]at hsk;generalize Es L n k=l at hsk hlk h0 ⊢;refine AI (And.intro @Cw @Ct) ?_;try exact trivial
    refine⟨k+1,by omega,?_,?_,by omega⟩
    ·simp(disch:=omega)only[go_sem,A2,Int.natCast_add,Int.cast_ofNat_Int,hsk,List.length_append,List.length_cons,List.length_nil]
    ·simp(disch:=omega)only[go_sem,A2,hsk,Cw,Ct]
   ·obtain⟨q,hq⟩:∃q,q=(Es L n k).length-1:=⟨_,rfl⟩
    have hlast:=CG (show q<(Es L n k).length by omega);obtain⟨v,_,hv1,hv2⟩:=(KU L n k hk _).1 hlast;have cs:=Fu (a:=(Es L n k)[q]!) (b:=(L[k]!).take n) (by rw[hv2,List.length_take];omega) (by rw[List.length_take];omega);by_cases he:(Es L n k)[q]! =(L[k]!).take n
    ·have hno:¬(n≤(L[k]!).length∧((Es L n k).length=0∨(Es L n k)[(Es L n k).length-1]!≠(L[k]!).take n)):=fun h=>h.2.elim h0 fun h=>h (by rw[← hq];exact he);rw[if_neg hno]at hsk;rw[decide_eq_true he]at cs;generalize Es L n k=l at hsk hlk h0 hq cs ⊢;have el:(l.length:Int)-1=(q:Int):=by omega
     have c0_:=cs;refine AI (And.intro @el (And.intro @Cw (And.intro @Ct @Int.toNat_natCast))) ?_;try exact trivial
     refine⟨k+1,by omega,?_,?_,by omega⟩
     ·simp(disch:=omega)only[go_sem,A2,Int.natCast_add,Int.cast_ofNat_Int,hsk]
     ·simp(disch:=omega)only[go_sem,A2,hsk]
    ·rw[if_pos ⟨hw,.inr (by rw[← hq];exact he)⟩]at hsk;rw[decide_eq_false he]at cs;generalize Es L n k=l at hsk hlk h0 hq cs ⊢;have el:(l.length:Int)-1=(q:Int):=by omega
     have c0_:=cs;refine AI (And.intro @el (And.intro @Cw (And.intro @Ct @Int.toNat_natCast))) ?_;try exact trivial
     refine⟨k+1,by omega,?_,?_,by omega⟩
     ·simp(disch:=omega)only[go_sem,A2,Int.natCast_add,Int.cast_ofNat_Int,hsk,List.length_append,List.length_cons,List.length_nil]
     ·simp(disch:=omega)only[go_sem,A2,hsk,Cw,Ct]
  ·have hke:k=L.length:=by omega
   subst hke;have hap:=Rj (A:=A) hnn;generalize Es L n L.length=l at hst hlk hap ⊢;refine AI @hap ?_;try exact trivial
   refine⟨n+1,⟨by omega,by omega⟩,?_,?_,by omega⟩
   ·simp(disch:=omega)only[go_sem,A2,Int.natCast_add,Int.cast_ofNat_Int,Nat.add_sub_cancel,hst,List.length_append]
   ·simp(disch:=omega)only[go_sem,A2,Nat.add_sub_cancel,hst,hap]
 ·have hne2:n=21:=by omega
  subst hne2;refine Aw ?_;try exact trivial
end Go.Eng.Tryz
namespace Go.Eng.Tryz
attribute [local go_sem] Aq As AK AO DS DT D9
def LS(z:Int):List Int :=
 if z<128 then[w8 z]else if z<2048 then[w8 (192+z/64),w8 (128+z%64)]else if z<65536 then[w8 (224+z/4096),w8 (128+z/64%64),w8 (128+z%64)]
 else[w8 (240+z/262144),w8 (128+z/4096%64),w8 (128+z/64%64),w8 (128+z%64)]
theorem LR(z:Int):1≤(LS z).length∧(LS z).length≤4:=by
 unfold LS
 repeat' split
 all_goals simp
theorem TV{z:Int}(h0:0≤z)(h1:z≤1114111):A1 Tryz.prog 227 [.int .i64 z] (.sl 1 (Cu (LS z))):=by
 unfold LS;by_cases h2:z<128
 ·rw[if_pos h2];simp only[Cu,List.map_cons,List.map_nil];refine A1.run (N:=54) Tryz.func227 rfl (by kernel_rfl) rfl rfl rfl (by exact Ab) fun X_ w_=>?_;refine AI @Gv ?_;try exact trivial
 rw[if_neg h2];by_cases h3:z<2048
 ·rw[if_pos h3];simp only[Cu,List.map_cons,List.map_nil];refine A1.run (N:=54) Tryz.func227 rfl (by kernel_rfl) rfl rfl rfl (by exact Ab) fun X_ w_=>?_;refine AI @Gv ?_;try exact trivial
 rw[if_neg h3];by_cases h4:z<65536
 ·rw[if_pos h4];simp only[Cu,List.map_cons,List.map_nil];refine A1.run (N:=54) Tryz.func227 rfl (by kernel_rfl) rfl rfl rfl (by exact Ab) fun X_ w_=>?_;refine AI @Gv ?_;try exact trivial
 ·rw[if_neg h4];simp only[Cu,List.map_cons,List.map_nil];refine A1.run (N:=54) Tryz.func227 rfl (by kernel_rfl) rfl rfl rfl (by exact Ab) fun X_ w_=>?_;refine AI @Gv ?_;try exact trivial
def Gi(w:List Int):List Int:=w.flatMap LS
theorem O3{w:List Int}{k:Nat}(h:k<w.length):Gi (w.take (k+1))=Gi (w.take k)++LS (w[k]!):=by
 rw[Ak h];simp[Gi]
theorem GH(w:List Int):(Gi w).length≤4 * w.length:=by
 unfold Gi;induction w with
 |nil=>simp
 |cons x t ih =>
  have:=(LR x).2;simp only[List.flatMap_cons,List.length_append,List.length_cons];omega
theorem RA{w:List Int}(hw:w.length≤100)(hg:∀k,k<w.length→BN (w[k]!)=true):A1 Tryz.prog 192 [.sl 1 (is w)] (.tup [.sl 1 (Cu (Gi w)),.int .i64 0]):=by
 refine A1.run (N:=26) Tryz.func192 rfl (by kernel_rfl) rfl rfl rfl (by exact Ab) fun X_ w_=>?_;refine Aw ?_;try exact trivial
 refine DJ 4 10000 5 1 rfl (by decide) (Nat.le_of_ble_eq_true rfl) ?_;refine A7 (fun k:Nat=>k≤w.length) (fun k=>[(0,.d (.sl 1 (is w))),(4,.own 10000 (Gi (w.take k)).length),(5,.d (.int .i64 k))]) (fun k=>[(10000,.row 5 1 (Cu (Gi (w.take k))))]) 20000 (fun k=>w.length-k) [0,4,5] [10000] 0 (Nat.zero_le _) rfl rfl (Nat.le_of_ble_eq_true rfl) (fun _ _=>rfl) (fun _ _=>rfl) fun k hk=>?_;have hpl:=GH (w.take k);rw[List.length_take]at hpl;by_cases hk3:k<w.length
 ·have hgk:=hg k hk3;have cg:=KJ (z:=w[k]!);rw[hgk]at cg;have hb:=of_decide_eq_true hgk;have co:=TV (z:=w[k]!) (by omega) (by omega);have ol:=LR (w[k]!);have hst:=O3 hk3;generalize Gi (w.take k)=A at hst hpl ⊢;generalize LS (w[k]!)=o at co hst ol;have c0_:=cg;have c1_:=co;refine Aw ?_;try exact trivial
  refine⟨k+1,by omega,?_,?_,by omega⟩
  ·simp(disch:=omega)only[go_sem,A2,Int.natCast_add,Int.cast_ofNat_Int,hst,List.length_append]
  ·simp(disch:=omega)only[go_sem,A2,hst]
 ·have hke:k=w.length:=by omega
  subst hke;rw[List.take_length];refine Aw ?_;try exact trivial
theorem Pc{w:List Int}(hw:w.length≤9223372036854775807):A1 Tryz.prog 191 [.sl 1 (is w)] (.bool (BC w)):=by
 have hany:w.any EB=true↔∃k,k<w.length∧EB (w[k]!)=true:=by
  rw[List.any_eq_true];constructor
  ·rintro⟨x,hx,h⟩;obtain⟨k,hk,rfl⟩:=List.getElem_of_mem hx;exact⟨k,hk,by rw[getElem!_pos w k hk];exact h⟩
  ·rintro⟨k,hk,h⟩;exact⟨_,CG hk,h⟩
 refine A1.run (N:=51) Tryz.func191 rfl (by kernel_rfl) rfl rfl rfl (by exact Ab) fun X_ w_=>?_;refine Aw ?_;try exact trivial
 refine A7 (fun k:Nat=>k≤w.length∧∀j,j<k→EB (w[j]!)=false) (fun k=>[(0,.d (.sl 1 (is w))),(3,.d (.int .i64 k))]) (fun _=>[]) 20000 (fun k=>w.length-k) [0,3] [] 0 ⟨Nat.zero_le _,fun j h=>by omega⟩ rfl rfl (Nat.le_of_ble_eq_true rfl) (fun _ _=>rfl) (fun _ _=>rfl) fun k hk=>?_;obtain⟨k1,k2⟩:=hk;by_cases hk3:k<w.length
 ·have cg:=KJ (z:=w[k]!);have bad:EB (w[k]!)=true→BC w=false:=fun h=>by
   have:=hany.2 ⟨k,hk3,h⟩;unfold BC;rw[this];simp
  cases hg:BN (w[k]!)
  ·rw[hg]at cg;have e:=bad (by unfold EB;rw[hg];rfl);rw[e];have c0_:=cg;refine Aw ?_;try exact trivial
  ·rw[hg]at cg;by_cases h9:w[k]! =9
   ·have e:=bad (by unfold EB;rw[Lp (by omega)];simp);rw[e];rw[h9]at cg;have c0_:=cg;refine AI @h9 ?_;try exact trivial
   by_cases h10:w[k]! =10
   ·have e:=bad (by unfold EB;rw[Lp (by omega)];simp);rw[e];rw[h10]at cg;have c0_:=cg;refine AI @h10 ?_;try exact trivial
   by_cases h32:w[k]! =32
   ·have e:=bad (by unfold EB;rw[Lp (by omega)];simp);rw[e];rw[h32]at cg;have c0_:=cg;refine AI @h32 ?_;try exact trivial
   ·have c0_:=cg;refine Aw ?_;try exact trivial
    refine⟨k+1,⟨by omega,fun j hj=>?_⟩,?_,rfl,by omega⟩
    ·by_cases e:j=k
     ·subst e;unfold EB;rw[hg,NI (by omega)];rfl
     ·exact k2 j (by omega)
    ·simp(disch:=omega)only[go_sem,A2,Int.natCast_add,Int.cast_ofNat_Int]
 ·have hke:k=w.length:=by omega
  subst hke;have hna:w.any EB=false:=by
   cases h:w.any EB
   ·rfl
   ·obtain⟨j,hj,hb⟩:=hany.1 h;rw[k2 j hj]at hb;cases hb
  by_cases h1:1≤w.length
  ·by_cases h2:w.length≤20
   ·by_cases h35:w[0]! =35
    ·have e:BC w=false:=by unfold BC;rw[decide_eq_false (show¬w[0]!≠35 by simpa using h35)];simp
     rw[e];refine AI @h35 ?_;try exact trivial
    ·have e:BC w=true:=by unfold BC;rw[decide_eq_true h35,hna,decide_eq_true ⟨by omega,h2⟩];rfl
     rw[e];refine Aw ?_;try exact trivial
   ·have e:BC w=false:=by unfold BC;rw[decide_eq_false (by omega)];rfl
    rw[e];refine Aw ?_;try exact trivial
  ·have e:BC w=false:=by unfold BC;rw[decide_eq_false (by omega)];rfl
   rw[e];refine Aw ?_;try exact trivial
def wB(L:List (List Int)):List Int:=L.flatMap fun w=>Gi w++[10]
theorem No{L:List (List Int)}{k:Nat}(h:k<L.length):wB (L.take (k+1))=wB (L.take k)++Gi (L[k]!)++[10]:=by
 rw[Ak h];simp[wB]
theorem OR(L:List (List Int))(h:∀w∈L,w.length≤20):(wB L).length≤81 * L.length:=by
 unfold wB;induction L with
 |nil=>simp
 |cons x t ih =>
  have h1:=GH x;have h2:=h x (by simp);have:=ih fun w hw=>h w (by simp[hw]);simp only[List.flatMap_cons,List.length_append,List.length_cons,List.length_nil];omega
theorem Qu{L:List (List Int)}(h:∀j,j+1<L.length→Aj (L[j]!) (L[j+1]!)<0):CF L:=by
 have key:∀d i:Nat,i+d+1<L.length→Aj (L[i]!) (L[i+d+1]!)<0:=by
  intro d;induction d with
  |zero=>intro i hi;exact h i hi
  |succ d ih =>
   intro i hi;have h1:=ih i (by omega);have h2:=h (i+d+1) (by omega);exact Bh h1 (by have:i+(d+1)+1=i+d+1+1:=by omega
                                                                                     rw[this];omega)
 refine List.pairwise_iff_getElem.2 fun i j hi hj hij=>?_;have:=key (j-i-1) i (by omega);rw[show i+(j-i-1)+1=j by omega,getElem!_pos L i hi,getElem!_pos L j hj]at this;exact this
theorem RN{L:List (List Int)}(h300:¬300<L.length)(h:¬(L.all BC=true∧CF L)):F0 L=90:=by
 unfold F0;rw[if_neg h300,if_neg];intro h2;rw[Bool.and_eq_true]at h2;exact h ⟨h2.1,F8.1 h2.2⟩
theorem P9{L:List (List Int)}(hL:BY L):∃bs,A1 Tryz.prog 125 [.sl 1 (AZ L)] (.tup [bs,.int .i64 (F0 L)]):=by
 have hl1:=hL.1;by_cases h300:300<L.length
 ·have e:F0 L=81:=if_pos h300;refine⟨.nils,?_⟩;rw[e];refine A1.run (N:=56) Tryz.func125 rfl (by kernel_rfl) rfl rfl rfl (by exact Ab) fun X_ w_=>?_;refine Aw ?_;try exact trivial
 by_cases hall:L.all BC=true∧CF L;rotate_left
 ·refine⟨.nils,?_⟩;have e:=RN h300 hall;rw[e];refine A1.run (N:=56) Tryz.func125 rfl (by kernel_rfl) rfl rfl rfl (by exact Ab) fun X_ w_=>?_;refine Aw ?_;try exact trivial
  refine DJ 4 10000 5 1 rfl (by decide) (Nat.le_of_ble_eq_true rfl) ?_;refine A7 (fun k:Nat=>k≤L.length∧(∀j,j<k→BC (L[j]!)=true)∧∀j,0<j→j<k→Aj (L[j-1]!) (L[j]!)<0) (fun k=>[(0,.d (.sl 1 (AZ L))),(4,.own 10000 (wB (L.take k)).length),(5,.d (.int .i64 k))]) (fun k=>[(10000,.row 5 1 (Cu (wB (L.take k))))]) 20000 (fun k=>L.length-k) [0,4,5] [10000] 0 ⟨Nat.zero_le _,fun j h=>by omega,fun j h1 h2=>by omega⟩ rfl rfl (Nat.le_of_ble_eq_true rfl) (fun _ _=>rfl) (fun _ _=>rfl) fun k hk=>?_;obtain⟨k1,k2,k3⟩:=hk;have hfk:∀w∈L.take k,w.length≤20:=fun w hw=>by
   obtain⟨j,hj,rfl⟩:=List.getElem_of_mem hw;rw[List.length_take]at hj;have:=k2 j (by omega);rw[getElem!_pos L j (by omega)]at this;rw[List.getElem_take];exact(C1 this).2.1
  have hbl:=OR (L.take k) hfk;rw[List.length_take]at hbl;by_cases hk3:k<L.length
  ·have cf:=Pc (w:=L[k]!) (hL.get hk3);cases hw:BC (L[k]!)
   ·rw[hw]at cf;have c0_:=cf;refine Aw ?_;try exact trivial
   rw[hw]at cf;obtain⟨w0,w1,w2⟩:=C1 hw;have cp:=RA (w:=L[k]!) (by omega) (fun j hj=>List.all_eq_true.1 w2 _ (CG hj));have hpl:=GH (L[k]!);have hst:=No hk3;have go:(0<k→Aj (L[k-1]!) (L[k]!)<0)→k+1≤L.length∧(∀j,j<k+1→BC (L[j]!)=true)∧∀j,0<j→j<k+1→Aj (L[j-1]!) (L[j]!)<0:=fun hx=>by
    refine⟨by omega,fun j hj=>?_,fun j h0 hj=>?_⟩
    ·by_cases e:j=k
     ·subst e;exact hw
     ·exact k2 j (by omega)
    ·by_cases e:j=k
     ·subst e;exact hx h0
     ·exact k3 j h0 (by omega)
   by_cases hk0:k=0
   ·generalize wB (L.take k)=A at hst hbl ⊢;generalize Gi (L[k]!)=p at cp hpl hst;have c0_:=cf;have c1_:=cp;refine Aw ?_;try exact trivial
    refine⟨k+1,go fun h=>by omega,?_,?_,by omega⟩
    ·simp(disch:=omega)only[go_sem,A2,Int.natCast_add,Int.cast_ofNat_Int,hst,List.length_append,List.length_cons,List.length_nil]
    ·simp(disch:=omega)only[go_sem,A2,hst]
   ·obtain⟨q,hq⟩:∃q,k=q+1:=⟨k-1,by omega⟩
    have eq1:(k:Int)-1=(q:Int):=by omega
    have eq2:k-1=q:=by omega
    rw[eq2]at go;have cl:=GG (a:=L[q]!) (b:=L[k]!) (hL.get (by omega)) (hL.get hk3);by_cases hlt:Aj (L[q]!) (L[k]!)<0
    ·rw[decide_eq_true hlt]at cl;generalize wB (L.take k)=A at hst hbl ⊢;generalize Gi (L[k]!)=p at cp hpl hst;have c0_:=cf;have c1_:=cl;have c2_:=cp;refine AI (And.intro @eq1 @Int.toNat_natCast) ?_;try exact trivial
     refine⟨k+1,go fun _=>hlt,?_,?_,by omega⟩
     ·simp(disch:=omega)only[go_sem,A2,Int.natCast_add,Int.cast_ofNat_Int,hst,List.length_append,List.length_cons,List.length_nil]
     ·simp(disch:=omega)only[go_sem,A2,hst]
    ·rw[decide_eq_false hlt]at cl;have c0_:=cf;have c1_:=cl;refine AI (And.intro @eq1 @Int.toNat_natCast) ?_;try exact trivial
  ·exfalso;have hke:k=L.length:=by omega
   subst hke;refine hall ⟨List.all_eq_true.2 fun w hw=>?_,Qu fun j hj=>?_⟩
   ·obtain⟨j,hj,rfl⟩:=List.getElem_of_mem hw;have:=k2 j hj
    rwa [getElem!_pos L j hj]at this
   ·have:=k3 (j+1) (by omega) hj
    rwa [Nat.add_sub_cancel]at this
 ·obtain⟨a1,a2⟩:=hall;have e:=RM (by omega) a1 a2;refine⟨.sl 1 (Cu (wB L)),?_⟩;rw[e];have hfit:∀k,k<L.length→BC (L[k]!)=true:=fun k hk=>List.all_eq_true.1 a1 _ (CG hk);refine A1.run (N:=56) Tryz.func125 rfl (by kernel_rfl) rfl rfl rfl (by exact Ab) fun X_ w_=>?_;refine Aw ?_;try exact trivial
  refine DJ 4 10000 5 1 rfl (by decide) (Nat.le_of_ble_eq_true rfl) ?_;refine A7 (fun k:Nat=>k≤L.length) (fun k=>[(0,.d (.sl 1 (AZ L))),(4,.own 10000 (wB (L.take k)).length),(5,.d (.int .i64 k))]) (fun k=>[(10000,.row 5 1 (Cu (wB (L.take k))))]) 20000 (fun k=>L.length-k) [0,4,5] [10000] 0 (Nat.zero_le _) rfl rfl (Nat.le_of_ble_eq_true rfl) (fun _ _=>rfl) (fun _ _=>rfl) fun k hk=>?_;have hbl:=OR (L.take k) (fun w hw=>(C1 (List.all_eq_true.1 a1 w (List.mem_of_mem_take hw))).2.1);rw[List.length_take]at hbl;by_cases hk3:k<L.length
  ·have cf:=Pc (w:=L[k]!) (hL.get hk3);have hw:=hfit k hk3;rw[hw]at cf;obtain⟨w0,w1,w2⟩:=C1 hw;have cp:=RA (w:=L[k]!) (by omega) (fun j hj=>List.all_eq_true.1 w2 _ (CG hj));have hpl:=GH (L[k]!);have hst:=No hk3;by_cases hk0:k=0
   ·generalize wB (L.take k)=A at hst hbl ⊢;generalize Gi (L[k]!)=p at cp hpl hst;have c0_:=cf;have c1_:=cp;refine Aw ?_;try exact trivial
    refine⟨k+1,by omega,?_,?_,by omega⟩
    ·simp(disch:=omega)only[go_sem,A2,Int.natCast_add,Int.cast_ofNat_Int,hst,List.length_append,List.length_cons,List.length_nil]
    ·simp(disch:=omega)only[go_sem,A2,hst]
   ·obtain⟨q,hq⟩:∃q,k=q+1:=⟨k-1,by omega⟩
    have eq1:(k:Int)-1=(q:Int):=by omega
    have cl:=GG (a:=L[q]!) (b:=L[k]!) (hL.get (by omega)) (hL.get hk3);rw[decide_eq_true (a2.at (show q<k by omega) hk3)]at cl;generalize wB (L.take k)=A at hst hbl ⊢;generalize Gi (L[k]!)=p at cp hpl hst;have c0_:=cf;have c1_:=cl;have c2_:=cp;refine AI (And.intro @eq1 @Int.toNat_natCast) ?_;try exact trivial
    refine⟨k+1,by omega,?_,?_,by omega⟩
    ·simp(disch:=omega)only[go_sem,A2,Int.natCast_add,Int.cast_ofNat_Int,hst,List.length_append,List.length_cons,List.length_nil]
    ·simp(disch:=omega)only[go_sem,A2,hst]
  ·have hke:k=L.length:=by omega
   subst hke;rw[List.take_length];refine Aw ?_;try exact trivial
end Go.Eng.Tryz
namespace Go.Eng.Tryz
attribute [local go_sem] Aq As AK AO AU AW AG AD
def N3(R:List (List Int))(i k:Nat):Prop:=(R[k]!).length=(R[i]!).length+1∧(R[k]!).take ((R[k]!).length-1)=R[i]!
instance (R:List (List Int)) (i k:Nat):Decidable (N3 R i k):=by unfold N3;infer_instance
def KH(R:List (List Int))(i k:Nat):List Ar:=(List.range k).foldl (fun A j=>if N3 R i j then A++[⟨(R[j]!)[(R[j]!).length-1]!,j⟩]else A) []
theorem GF(R:List (List Int))(i k:Nat):KH R i (k+1)=if N3 R i k then KH R i k++[⟨(R[k]!)[(R[k]!).length-1]!,k⟩]else KH R i k:=by simp[KH,List.range_succ]
theorem QB(R:List (List Int))(i:Nat):∀k,(KH R i k).length≤k:=by
 intro k;induction k with
 |zero=>simp[KH]
 |succ k ih =>
  rw[GF];split
  ·simp;omega
  ·omega
theorem Nu(R:List (List Int))(i:Nat):∀k a,a∈KH R i k↔∃j,j<k∧N3 R i j∧a=⟨(R[j]!)[(R[j]!).length-1]!,(j:Int)⟩:=by
 intro k;induction k with
 |zero=>intro a;simp[KH]
 |succ k ih =>
  intro a;rw[GF];split
  ·rename_i h;rw[List.mem_append,ih,List.mem_singleton];constructor
   ·rintro(⟨j,h1,h2⟩|e)
    ·exact⟨j,by omega,h2⟩
    ·exact⟨k,by omega,h,e⟩
   ·rintro⟨j,h1,h2,h3⟩;by_cases e:j=k
    ·subst e;exact .inr h3
    ·exact .inl ⟨j,by omega,h2,h3⟩
  ·rename_i h;rw[ih];constructor
   ·rintro⟨j,h1,h2⟩;exact⟨j,by omega,h2⟩
   ·rintro⟨j,h1,h2,h3⟩;by_cases e:j=k
    ·subst e;exact absurd h2 h
    ·exact⟨j,by omega,h2,h3⟩
theorem Ig{R:List (List Int)}{i k:Nat}:N3 R i k↔∃z,R[k]! =R[i]!++[z]:=by
 unfold N3;constructor
 ·rintro⟨h1,h2⟩;have hne:R[k]!≠[]:=fun e=>by rw[e]at h1;simp at h1
  refine⟨(R[k]!).getLast hne,?_⟩;rw[← h2,← List.dropLast_eq_take];exact(List.dropLast_concat_getLast hne).symm
 ·rintro⟨z,h⟩;rw[h];simp
theorem GN{R:List (List Int)}{i k:Nat}{z:Int}(h:R[k]! =R[i]!++[z]):(R[k]!)[(R[k]!).length-1]! =z:=by
 rw[h];simp[List.getElem!_eq_getElem?_getD]
def SR(L R:List (List Int))(i:Nat):AB:=⟨decide (R[i]!∈L),KH R i R.length⟩
def OM(L R:List (List Int))(k:Nat):List AB:=(List.range k).map (SR L R)
theorem P5(L R:List (List Int))(k:Nat):OM L R (k+1)=OM L R k++[SR L R k]:=by simp[OM,List.range_succ]
theorem P4{L l B:_}(h:AP L l B):OM L B B.length=l:=by
 refine IW (by simp[OM,h.len]) fun k hk=>?_;have hk:k<l.length:=by simpa[OM,h.len]using hk
 have e:(OM L B B.length)[k]! =SR L B k:=E5 (by rw[h.len];exact hk)
 rw[e];unfold SR;have hf:decide (B[k]!∈L)=(l[k]!).final:=by
  have:=h.fin' hk;cases hl:(l[k]!).final
  ·rw[hl]at this;exact decide_eq_false fun x=>by have:=this.2 x;cases this
  ·exact decide_eq_true (this.1 hl)
 have hA:KH B k B.length=(l[k]!).arcs:=by
  refine Lr ?_ (h.ris k _ (h.at hk)) fun a=>?_
  ·-- rising
   have key:∀n,n≤B.length→(KH B k n).Pairwise fun a b=>a.sign<b.sign:=by
    intro n;induction n with
    |zero=>intro _;simp[KH]
    |succ n ih =>
     intro hn;rw[GF];split
     ·rename_i hkid;rw[List.pairwise_append];refine⟨ih (by omega),by simp,fun a ha b hb=>?_⟩;simp only[List.mem_singleton]at hb;subst hb;obtain⟨j,j1,j2,rfl⟩:=(Nu B k n a).1 ha;obtain⟨z,hz⟩:=Ig.1 j2;obtain⟨y,hy⟩:=Ig.1 hkid;simp only;rw[GN hz,GN hy];have hb:=List.pairwise_iff_getElem.1 h.srt j n (by omega) (by omega) j1;rw[← getElem!_pos B j (by omega),← getElem!_pos B n (by omega),hz,hy]at hb;rcases hb with hb|⟨_,hb⟩
      ·simp at hb
      ·rw[Dt]at hb;simp only[Aj]at hb;split at hb
       ·assumption
       ·split at hb<;>omega
     ·exact ih (by omega)
   exact key _ (Nat.le_refl _)
  ·rw[Nu,h.arcs k _ (h.at hk)];constructor
   ·rintro⟨j,j1,j2,rfl⟩;obtain⟨z,hz⟩:=Ig.1 j2;refine⟨by simp,?_⟩;simp only[Int.toNat_natCast];rw[GN hz,Tm j1,hz]
   ·rintro⟨a1,a2⟩;obtain⟨g1,g2⟩:=List.getElem?_eq_some_iff.1 a2;have hz:B[a.to.toNat]! =B[k]!++[a.sign]:=by rw[getElem!_pos B _ g1,g2]
    refine⟨a.to.toNat,g1,Ig.2 ⟨_,hz⟩,?_⟩;rw[GN hz];cases a;simp only at a1;simp only[Ar.mk.injEq,true_and];omega
 cases hl:l[k]!;rw[hl]at hf hA;simp only at hf hA;rw[hf,hA]
theorem IC{l:List AB}{f:Bool}{A:List Ar}:AH l++[.agg [.bool f,.sl 2 (Gu A)]]=AH (l++[⟨f,A⟩]):=by simp[AH,MO]
theorem HB{A:List Ar}{x y:Int}:Gu A++[.agg [.int .i64 x,.int .i64 y]]=Gu (A++[⟨x,y⟩]):=by simp[Gu,ar]
theorem QF{L:List (List Int)}(hL:BY L):A1 Tryz.prog 61 [.sl 1 (AZ L)] (Iy L):=by
 obtain⟨bs,cw⟩:=P9 hL;unfold Iy;by_cases he:F0 L=0;rotate_left
 ·rw[if_neg he];generalize F0 L=e at *;refine A1.run (N:=88) Tryz.func61 rfl (by kernel_rfl) rfl rfl rfl (by exact Ab) fun X_ w_=>?_;have c0_:=cw;refine Aw ?_;try exact trivial
 rw[if_pos he];rw[he]at cw;obtain⟨B,hB⟩:=Ky he;obtain⟨h1,h2,h3⟩:=H9 he;have hwl:∀w∈L,w.length≤20:=fun w hw=>(C1 (List.all_eq_true.1 h2 w hw)).2.1;have hb:=Nh h3 hwl hB.b;have cb:=MV hL (by omega);have hrm:=P4 hB.b;rw[hb]at cb;have hBl:B.length≤6001:=by rw[hB.b.len];exact hB.l1
 have hlong:=hB.long;rw[← hrm];generalize Ap L=l at *;clear hb hrm;refine A1.run (N:=88) Tryz.func61 rfl (by kernel_rfl) rfl rfl rfl (by exact Ab) fun X_ w_=>?_;have c0_:=cw;have c1_:=cb;refine Aw ?_;try exact trivial
 refine DJ 7 10000 84 2 rfl (by decide) (Nat.le_of_ble_eq_true rfl) ?_;refine A7 (fun i:Nat=>i≤B.length) (fun i=>[(0,.d (.sl 1 (AZ L))),(6,.d (.sl 1 (AZ B))),(7,.own 10000 (OM L B i).length),(8,.d (.int .i64 i))]) (fun i=>[(10000,.row 84 2 (AH (OM L B i)))]) 20000 (fun i=>B.length-i) [0,6,7,8] [10000] 0 (Nat.zero_le _) rfl rfl (Nat.le_of_ble_eq_true rfl) (fun _ _=>rfl) (fun _ _=>rfl) fun i hi=>?_;have hrl:(OM L B i).length=i:=by simp[OM]
 by_cases hi3:i<B.length
 ·have hst:=P5 L B i;have ci:=Um (L:=L) (w:=B[i]!) hL (by have:=hlong _ (CG hi3);omega);have hli:=hlong _ (CG hi3);generalize OM L B i=A at hst hrl ⊢;have c0_:=ci;refine Aw ?_;try exact trivial
  generalize hb:decide (B[i]!∈L)=b;refine NM 21007 1 30000 86 2 rfl rfl (by decide) (by decide) (by simp(disch:=omega)only[go_sem];rfl) ?_;refine A7 (fun k:Nat=>k≤B.length) (fun k=>[(0,.d (.sl 1 (AZ L))),(6,.d (.sl 1 (AZ B))),(7,.own 10000 A.length),(8,.d (.int .i64 i)),(9,.ref 21007 0),(10,.d (.int .i64 k))]) (fun k=>[(21007,.var [.d (.bool b),.own 30000 (KH B i k).length]),(30000,.row 86 2 (Gu (KH B i k))),(10000,.row 84 2 (AH A))]) 40000 (fun k=>B.length-k) [0,6,7,8,9,10] [21007,30000,10000] 0 (Nat.zero_le _) rfl rfl (Nat.le_of_ble_eq_true rfl) (fun _ _=>rfl) (fun _ _=>rfl) fun k hk=>?_;have hal:=QB B i k;by_cases hk3:k<B.length
  ·have hsk:=GF B i k;have hlk:=hlong _ (CG hk3);by_cases hn:(B[k]!).length=(B[i]!).length+1;rotate_left
   ·rw[if_neg (fun h=>hn h.1)]at hsk;generalize KH B i k=C at hsk hal ⊢;refine Aw ?_;try exact trivial
    refine⟨k+1,by omega,?_,?_,by omega⟩
    ·simp(disch:=omega)only[go_sem,A2,Int.natCast_add,Int.cast_ofNat_Int]
    ·simp(disch:=omega)only[go_sem,A2,hsk]
   ·obtain⟨q,hq⟩:∃q,q=(B[k]!).length-1:=⟨_,rfl⟩
    have eq1:((B[k]!).length:Int)-1=(q:Int):=by omega
    have hql:q<(B[k]!).length:=by omega
    have cs:=Fu (a:=(B[k]!).take q) (b:=B[i]!) (by rw[List.length_take];omega) (by omega);by_cases he:(B[k]!).take q=B[i]!
    ·rw[decide_eq_true he]at cs;rw[if_pos ⟨hn,by rw[← hq];exact he⟩,← hq]at hsk;generalize KH B i k=C at hsk hal ⊢;have c0_:=cs;refine AI (And.intro @eq1 (And.intro @Cw (And.intro @HB @Int.toNat_natCast))) ?_;try exact trivial
     refine⟨k+1,by omega,?_,?_,by omega⟩
     ·simp(disch:=omega)only[go_sem,A2,Int.natCast_add,Int.cast_ofNat_Int]
     ·simp(disch:=omega)only[go_sem,A2,hsk,HB,List.length_append,List.length_cons,List.length_nil]
    ·rw[decide_eq_false he]at cs;rw[if_neg (fun h=>he (by rw[hq];exact h.2))]at hsk;generalize KH B i k=C at hsk hal ⊢;have c0_:=cs;refine AI (And.intro @eq1 (And.intro @Cw (And.intro @HB @Int.toNat_natCast))) ?_;try exact trivial
     refine⟨k+1,by omega,?_,?_,by omega⟩
     ·simp(disch:=omega)only[go_sem,A2,Int.natCast_add,Int.cast_ofNat_Int]
     ·simp(disch:=omega)only[go_sem,A2,hsk]
  ·have hke:k=B.length:=by omega
   subst hke;have hS:SR L B i=⟨b,KH B i B.length⟩:=by unfold SR;rw[hb]
   rw[hS]at hst;generalize KH B i B.length=C at hst hal ⊢;refine AI @IC ?_;try exact trivial
   refine⟨i+1,by omega,?_,?_,by omega⟩
   ·simp(disch:=omega)only[go_sem,A2,Int.natCast_add,Int.cast_ofNat_Int,hst,List.length_append,List.length_cons,List.length_nil]
   ·simp(disch:=omega)only[go_sem,A2,hst,IC]
 ·have hie:i=B.length:=by omega
  subst hie;refine Aw ?_;try exact trivial
end Go.Eng.Tryz

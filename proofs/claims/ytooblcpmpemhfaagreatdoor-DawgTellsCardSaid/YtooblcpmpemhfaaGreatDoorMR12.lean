/- dawg.Make, for all words; what is known of what it makes. (and what stands behind it: texts laid together) -/
import Derived.Test.YtooblcpmpemhfaaGreatDoorMG4
import Derived.Test.YtooblcpmpemhfaaGreatDoorMR11
import Derived.Test.YtooblcpmpemhfaaGreatDoorMR9
set_option linter.unusedVariables false
set_option linter.unusedSimpArgs false
open Go Go.Eng Go.Proofs Go.RowKit
set_option maxHeartbeats 32000000
set_option maxRecDepth 100000
namespace Go.Eng.Tryz
attribute [local go_sem] Aq As AK AO Bz AU AW AG AD
def HU(L:List (List Int)):MS:=C3 (Ap L) (BX (Ap L) (Ap L).length) (Ap L).length
def De(L:List (List Int)):List AB:=F1 (Ap L) (HU L) (HU L).all.length
def J9(L:List (List Int)):D:=if F0 L=0 then .tup [.sl 2 (AH (De L)),.int .i64 0]else .tup [.nils,.int .i64 (F0 L)]
structure Tu(L:List (List Int))(K:List (List Int)):Prop where
 k:Bp L (De L) K
 chk:achk (De L)=true
 ok:BZ (De L)
 few:∀p,p<(De L).length→((De L)[p]!).arcs.length≤6001
 len:(De L).length≤(Ap L).length
 words:∀w∈L,0<w.length∧w.length≤20∧w.all BN=true
theorem PU{L:List (List Int)}(he:F0 L=0):∃K,Tu L K:=by
 obtain⟨B,hB⟩:=Ky he;have hb:=Q4 hB.b;have hI:=LV hB.b;obtain⟨h1,h2,h3⟩:=H9 he;have hw:∀w∈L,0<w.length∧w.length≤20∧w.all BN=true:=fun w h=>C1 (List.all_eq_true.1 h2 w h);have eS:HU L=C3 (Ap L) B (Ap L).length:=by unfold HU;rw[hb]
 have hK:=hI.dawg hB.b;rw[← eS]at hK hI;have hF:De L=F1 (Ap L) (HU L) (HU L).all.length:=rfl;rw[← hF]at hK;obtain⟨hm,hml⟩:=KT hB.dw (Ap L).length (Nat.le_refl _);rw[← eS]at hm hml;have hlen:(De L).length=(HU L).all.length:=by simp[De,F1]
 have hl1:=hB.l1;have hfew:∀p,p<(De L).length→((De L)[p]!).arcs.length≤6001:=fun p hp=>by
  rw[hlen]at hp;have e:(De L)[p]! =KP (Ap L) (HU L) p:=E5 hp;rw[e];unfold KP;simp only[List.length_map];exact hB.few _
 refine⟨_,hK,?_,?_,hfew,by omega,hw⟩
 ·unfold achk;rw[decide_eq_true ⟨hK.pos,by omega⟩,Bool.and_true];unfold BM;refine List.all_eq_true.2 fun p hp=>?_;rw[List.mem_range]at hp;refine HC (hK.ris p hp) fun a ha=>?_;obtain⟨f1,f2,f3⟩:=hK.fwd hp ha;have hb2:=((hK.arcs p hp a).1 ha).2.2.1;have hg:BN a.sign=true:=by
   rcases hb2 with e|⟨w,hw1,hw2⟩
   ·simp at e
   ·exact List.all_eq_true.1 (hw w hw1).2.2 _ (hw2.subset (by simp))
  have:=of_decide_eq_true hg;exact⟨by omega,hg,by omega,by omega⟩
 ·refine⟨by omega,fun s hs=>?_⟩;obtain⟨p,hp,rfl⟩:=List.getElem_of_mem hs;have:=hfew p hp;rw[getElem!_pos _ p hp]at this;omega
theorem S6{L:List (List Int)}(hok:BY L)(he:F0 L≠0):A1 Tryz.prog 17 [.sl 1 (AZ L)] (.tup [.nils,.int .i64 (F0 L)]):=by
 have ct:=Pe hok;unfold Iy at ct;rw[if_neg he]at ct;rcases Lw L with h|h|h
 ·exact absurd h he
 ·rw[h]at ct ⊢;refine A1.run (N:=154) Tryz.func17 rfl (by kernel_rfl) rfl rfl rfl (by exact Ab) fun X_ w_=>?_;have c0_:=ct;refine Aw ?_;try exact trivial
 ·rw[h]at ct ⊢;refine A1.run (N:=154) Tryz.func17 rfl (by kernel_rfl) rfl rfl rfl (by exact Ab) fun X_ w_=>?_;have c0_:=ct;refine Aw ?_;try exact trivial
theorem Pg{L:List (List Int)}(hok:BY L):A1 Tryz.prog 17 [.sl 1 (AZ L)] (J9 L):=by
 unfold J9;by_cases he:F0 L=0
 ·rw[if_pos he];obtain⟨B,hB⟩:=Ky he;have hb:=Q4 hB.b;have hI:=LV hB.b;rw[← hb]at hI;have hdw:=hB.dw;rw[← hb]at hdw;refine S8 hok he hB.sok hB.achk hdw ?_ (fun p hp=>hI.rng p (Nat.zero_le _) hp) fun c hc=>?_
  ·have hI2:=hI;rw[hb]at hI2 ⊢;exact hI2.inj hB.b
  ·obtain⟨p,_,p1,p2,_⟩:=hI.isr c hc;rw[p2];omega
 ·rw[if_neg he];exact S6 hok he
theorem PV{L:List (List Int)}(he:F0 L=0):J9 L= .tup [.sl 2 (AH (De L)),.int .i64 0]:=if_pos he
theorem PW{L:List (List Int)}(he:F0 L≠0):J9 L= .tup [.nils,.int .i64 (F0 L)]:=if_neg he
theorem Bp.leastB{L:List (List Int)}{K:List (List Int)}{l:List AB}(h:Bp L l K):l.Nodup:=by
 refine List.pairwise_iff_getElem.2 fun i j hi hj hij e=>?_;have:=h.least hi hj (by rw[getElem!_pos l i hi,getElem!_pos l j hj,e]);omega
end Go.Eng.Tryz
namespace Go.Eng.Tryz
attribute [local go_sem] Aq As AK AO AU AW AG AD
theorem Cw{l:List Int}{k:Nat}:(is l).take k=is (l.take k):=by simp[is,List.map_take]
theorem IR{l:List Int}{k:Nat}:(is l).drop k=is (l.drop k):=by simp[is,List.map_drop]
theorem Ct{l:List (List Int)}{w:List Int}:AZ l++[.sl 1 (is w)]=AZ (l++[w]):=by simp[AZ]
def Mu(L:List (List Int))(w:List Int):Nat:=(L.filter fun x=>decide (Aj x w<0)).length
theorem OD{L:List (List Int)}{w:List Int}{k:Nat}(h:k<L.length):Mu (L.take (k+1)) w=Mu (L.take k) w+(if Aj (L[k]!) w<0 then 1 else 0):=by
 unfold Mu;rw[Ak h,List.filter_append,List.length_append];generalize L[k]! =z;congr 1;by_cases hw:Aj z w<0<;>simp[hw]
theorem RY{L:List (List Int)}{w:List Int}(hL:BY L)(hw:w.length≤9223372036854775807):A1 Tryz.prog 193 [.sl 1 (AZ L),.sl 1 (is w)] (.tup [.int .i64 (Mu L w),.bool (decide (w∈L))]):=by
 have hl1:=hL.1;refine A1.run (N:=34) Tryz.func193 rfl (by kernel_rfl) rfl rfl rfl (by exact An) fun X_ w_=>?_;refine Aw ?_;try exact trivial
 refine A7 (α:=Nat×Bool) (fun x=>x.1≤L.length∧(x.2=true↔w∈L.take x.1)∧Mu (L.take x.1) w≤x.1) (fun x=>[(0,.d (.sl 1 (AZ L))),(1,.d (.sl 1 (is w))),(6,.d (.int .i64 (Mu (L.take x.1) w))),(7,.d (.bool x.2)),(8,.d (.int .i64 x.1))]) (fun _=>[]) 0 (fun x=>L.length-x.1) [0,1,6,7,8] [] (0,false) ⟨Nat.zero_le _,by simp,by simp[Mu]⟩ rfl rfl (Nat.le_refl _) (fun _ _=>rfl) (fun _ _=>rfl) fun⟨k,b⟩ hx=>?_;obtain⟨h1,h2,h3⟩:=hx;simp only at h1 h2 h3;by_cases hk:k<L.length
 ·have hkL:=hL.get hk;have cl:=GG (a:=L[k]!) (b:=w) hkL hw;have cs:=Fu (a:=L[k]!) (b:=w) hkL hw;have hc:=OD (w:=w) hk;have hmem:w∈L.take (k+1)↔w∈L.take k∨L[k]! =w:=by rw[Ak hk,List.mem_append,List.mem_singleton,eq_comm (a:=w)]
  have hI:∀b',(b'=true↔b=true∨L[k]! =w)→(b'=true↔w∈L.take (k+1)):=fun b' hb'=>by rw[hb',hmem,h2]
  by_cases hlt:Aj (L[k]!) w<0
  ·rw[decide_eq_true hlt]at cl;rw[if_pos hlt]at hc;cases b
   ·by_cases he:L[k]! =w
    ·rw[decide_eq_true he]at cs;have c0_:=cl;have c1_:=cs;refine Aw ?_;try exact trivial
     refine⟨(k+1,true),⟨by simp only;omega,hI true (by simp[he]),by simp only;omega⟩,?_,rfl,by simp only;omega⟩;simp(disch:=omega)only[go_sem,A2,Int.natCast_add,Int.cast_ofNat_Int,hc]
    ·rw[decide_eq_false he]at cs;have c0_:=cl;have c1_:=cs;refine Aw ?_;try exact trivial
     refine⟨(k+1,false),⟨by simp only;omega,hI false (by simp only[Bool.false_eq_true,false_or,he]),by simp only;omega⟩,?_,rfl,by simp only;omega⟩;simp(disch:=omega)only[go_sem,A2,Int.natCast_add,Int.cast_ofNat_Int,hc]
   ·have c0_:=cl;have c1_:=cs;refine Aw ?_;try exact trivial
    refine⟨(k+1,true),⟨by simp only;omega,hI true (by simp),by simp only;omega⟩,?_,rfl,by simp only;omega⟩;simp(disch:=omega)only[go_sem,A2,Int.natCast_add,Int.cast_ofNat_Int,hc]
  ·rw[decide_eq_false hlt]at cl;rw[if_neg hlt,Nat.add_zero]at hc;cases b
   ·by_cases he:L[k]! =w
    ·rw[decide_eq_true he]at cs;have c0_:=cl;have c1_:=cs;refine Aw ?_;try exact trivial
     refine⟨(k+1,true),⟨by simp only;omega,hI true (by simp[he]),by simp only;omega⟩,?_,rfl,by simp only;omega⟩;simp(disch:=omega)only[go_sem,A2,Int.natCast_add,Int.cast_ofNat_Int,hc]
    ·rw[decide_eq_false he]at cs;have c0_:=cl;have c1_:=cs;refine Aw ?_;try exact trivial
     refine⟨(k+1,false),⟨by simp only;omega,hI false (by simp only[Bool.false_eq_true,false_or,he]),by simp only;omega⟩,?_,rfl,by simp only;omega⟩;simp(disch:=omega)only[go_sem,A2,Int.natCast_add,Int.cast_ofNat_Int,hc]
   ·have c0_:=cl;have c1_:=cs;refine Aw ?_;try exact trivial
    refine⟨(k+1,true),⟨by simp only;omega,hI true (by simp),by simp only;omega⟩,?_,rfl,by simp only;omega⟩;simp(disch:=omega)only[go_sem,A2,Int.natCast_add,Int.cast_ofNat_Int,hc]
 ·have hke:k=L.length:=by omega
  subst hke;rw[List.take_length]at h2 ⊢;have e:decide (w∈L)=b:=by cases b<;>simp_all
  rw[e];refine Aw ?_;try exact trivial
theorem Um{L:List (List Int)}{w:List Int}(hL:BY L)(hw:w.length≤9223372036854775807):A1 Tryz.prog 126 [.sl 1 (AZ L),.sl 1 (is w)] (.bool (decide (w∈L))):=by
 have cf:=RY hL hw;generalize decide (w∈L)=b at cf ⊢;generalize Mu L w=n at cf;refine A1.run (N:=14) Tryz.func126 rfl (by kernel_rfl) rfl rfl rfl (by exact An) fun X_ w_=>?_;have c0_:=cf;refine Aw ?_;try exact trivial
def AY(L:List (List Int))(u:List Int):List (List Int):=(L.filter fun w=>decide (u <+: w)).map (List.drop u.length)
theorem Oy{L:List (List Int)}{u:List Int}{k:Nat}(h:k<L.length):AY (L.take (k+1)) u=if u <+: L[k]! then AY (L.take k) u++[(L[k]!).drop u.length]else AY (L.take k) u:=by
 unfold AY;rw[Ak h,List.filter_append,List.map_append];generalize L[k]! =z;by_cases hu:u <+: z<;>simp[hu]
theorem Mq{L:List (List Int)}{u:List Int}:(AY L u).length≤L.length:=by
 unfold AY;rw[List.length_map];exact List.length_filter_le _ _
theorem LL{L:List (List Int)}{u:List Int}(hL:BY L)(hlen:L.length≤1000000)(hu:u.length≤9223372036854775807):A1 Tryz.prog 65 [.sl 1 (AZ L),.sl 1 (is u)] (.sl 1 (AZ (AY L u))):=by
 refine A1.run (N:=43) Tryz.func65 rfl (by kernel_rfl) rfl rfl rfl (by exact An) fun X_ w_=>?_;refine Aw ?_;try exact trivial
 refine DJ 5 10000 57 1 rfl (by decide) (Nat.le_of_ble_eq_true rfl) ?_;refine A7 (fun k:Nat=>k≤L.length) (fun k=>[(0,.d (.sl 1 (AZ L))),(1,.d (.sl 1 (is u))),(5,.own 10000 (AY (L.take k) u).length),(6,.d (.int .i64 u.length)),(7,.d (.int .i64 k))]) (fun k=>[(10000,.row 57 1 (AZ (AY (L.take k) u)))]) 20000 (fun k=>L.length-k) [0,1,5,6,7] [10000] 0 (Nat.zero_le _) rfl rfl (Nat.le_of_ble_eq_true rfl) (fun _ _=>rfl) (fun _ _=>rfl) fun k hk=>?_;have hel:=Mq (L:=L.take k) (u:=u);rw[List.length_take]at hel;by_cases hk3:k<L.length
 ·have hkL:=hL.get hk3;have hst:=Oy (u:=u) hk3;by_cases hn:u.length≤(L[k]!).length
  ·have cs:=Fu (a:=(L[k]!).take u.length) (b:=u) (by rw[List.length_take];omega) hu;by_cases hp:u <+: L[k]!
   ·rw[decide_eq_true (List.prefix_iff_eq_take.1 hp).symm]at cs;rw[if_pos hp]at hst;generalize AY (L.take k) u=E0 at hst hel ⊢;have c0_:=cs;refine AI (And.intro @Cw (And.intro @IR @Ct)) ?_;try exact trivial
    refine⟨k+1,by omega,?_,?_,by omega⟩
    ·simp(disch:=omega)only[go_sem,A2,Int.natCast_add,Int.cast_ofNat_Int,hst,List.length_append,List.length_cons,List.length_nil]
    ·simp(disch:=omega)only[go_sem,A2,hst,IR,Ct]
   ·rw[decide_eq_false (fun h=>hp (List.prefix_iff_eq_take.2 h.symm))]at cs;rw[if_neg hp]at hst;generalize AY (L.take k) u=E0 at hst hel ⊢;have c0_:=cs;refine AI (And.intro @Cw (And.intro @IR @Ct)) ?_;try exact trivial
    refine⟨k+1,by omega,?_,?_,by omega⟩
    ·simp(disch:=omega)only[go_sem,A2,Int.natCast_add,Int.cast_ofNat_Int,hst]
    ·simp(disch:=omega)only[go_sem,A2,hst]
  ·have hp:¬u <+: L[k]! :=fun h=>hn h.length_le;rw[if_neg hp]at hst;generalize AY (L.take k) u=E0 at hst hel ⊢;refine Aw ?_;try exact trivial
   refine⟨k+1,by omega,?_,?_,by omega⟩
   ·simp(disch:=omega)only[go_sem,A2,Int.natCast_add,Int.cast_ofNat_Int,hst]
   ·simp(disch:=omega)only[go_sem,A2,hst]
 ·have hke:k=L.length:=by omega
  subst hke;rw[List.take_length];refine Aw ?_;try exact trivial
end Go.Eng.Tryz
namespace Go.Eng.Tryz
attribute [local go_sem] Aq As AU AW AG AD
theorem Nj:Qi Tryz.prog 86:=⟨Kb,⟨_,Tryz.underlying86,.inl ⟨_,rfl⟩⟩,by kernel_rfl⟩
def Nl(l:List AB):Prop:=∀k,k<l.length→∀x∈(l[k]!).arcs,x.fits
theorem IW{α:Type}[Inhabited α]{a b:List α}(h:a.length=b.length)(h2:∀j,j<a.length→a[j]! =b[j]!):a=b:=by
 refine List.ext_getElem h fun j h3 h4=>?_;have:=h2 j h3
 rwa [getElem!_pos a j h3,getElem!_pos b j h4]at this
theorem KK{a b:List AB}(ha:BZ a)(hb:BZ b)(fa:Nl a)(fb:Nl b):A1 Tryz.prog 19 [.sl 2 (AH a),.sl 2 (AH b)] (.bool (decide (a=b))):=by
 have l1:=ha.1;have l2:=hb.1;by_cases hl:a.length=b.length;rotate_left
 ·rw[decide_eq_false (fun e=>hl (by rw[e]))];refine A1.run (N:=71) Tryz.func19 rfl (by kernel_rfl) rfl rfl rfl (by exact An) fun X_ w_=>?_;refine Aw ?_;try exact trivial
 refine A1.run (N:=71) Tryz.func19 rfl (by kernel_rfl) rfl rfl rfl (by exact An) fun X_ w_=>?_;refine Aw ?_;try exact trivial
 refine A7 (fun k:Nat=>k≤a.length∧∀j,j<k→a[j]! =b[j]!) (fun k=>[(0,.d (.sl 2 (AH a))),(1,.d (.sl 2 (AH b))),(5,.d (.int .i64 k))]) (fun _=>[]) 20000 (fun k=>a.length-k) [0,1,5] [] 0 ⟨Nat.zero_le _,fun j h=>by omega⟩ rfl rfl (Nat.le_of_ble_eq_true rfl) (fun _ _=>rfl) (fun _ _=>rfl) fun k hk=>?_;obtain⟨k1,k2⟩:=hk;by_cases hk3:k<a.length
 ·have q1:=ha.get hk3;have q2:=hb.get (show k<b.length by omega);have no:a[k]!≠b[k]!→decide (a=b)=false:=fun h=>decide_eq_false fun e=>h (by rw[e]);by_cases hf:(a[k]!).final=(b[k]!).final;rotate_left
  ·have e:=no fun x=>hf (by rw[x]);have hf2:((a[k]!).final !=(b[k]!).final)=true:=by simpa using hf
   have hf3:((a[k]!).final==(b[k]!).final)=false:=by simpa using hf
   rw[e];refine AI (And.intro @hf2 @hf3) ?_;try exact trivial
  have hf2:((a[k]!).final !=(b[k]!).final)=false:=by simpa using hf
  have hf3:((a[k]!).final==(b[k]!).final)=true:=by simpa using hf
  by_cases hn:(a[k]!).arcs.length=(b[k]!).arcs.length;rotate_left
  ·have e:=no fun x=>hn (by rw[x]);rw[e];refine AI (And.intro @hf2 @hf3) ?_;try exact trivial
  refine AI (And.intro @hf2 @hf3) ?_;try exact trivial
  refine A7 (fun j:Nat=>j≤(a[k]!).arcs.length∧∀q,q<j→(a[k]!).arcs[q]! =(b[k]!).arcs[q]!) (fun j=>[(0,.d (.sl 2 (AH a))),(1,.d (.sl 2 (AH b))),(5,.d (.int .i64 k)),(6,.d (.int .i64 j))]) (fun _=>[]) 30000 (fun j=>(a[k]!).arcs.length-j) [0,1,5,6] [] 0 ⟨Nat.zero_le _,fun j h=>by omega⟩ rfl rfl (Nat.le_of_ble_eq_true rfl) (fun _ _=>rfl) (fun _ _=>rfl) fun j hj=>?_;obtain⟨j1,j2⟩:=hj;by_cases hj3:j<(a[k]!).arcs.length
  ·have d1:=GP (fa k hk3 _ (CG hj3));have d2:=GP (fb k (by omega) _ (CG (show j<(b[k]!).arcs.length by omega)));unfold ar at d1 d2;have dk:(Qi Tryz.prog 86∧MI Tryz.prog 86 (.agg [.int .i64 ((a[k]!).arcs[j]!).sign,.int .i64 ((a[k]!).arcs[j]!).to])∧MI Tryz.prog 86 (.agg [.int .i64 ((b[k]!).arcs[j]!).sign,.int .i64 ((b[k]!).arcs[j]!).to]))=True:=eq_true ⟨Nj,d1,d2⟩;by_cases he:(a[k]!).arcs[j]! =(b[k]!).arcs[j]!
   ·have hs:same [D.int .i64 ((a[k]!).arcs[j]!).sign,D.int .i64 ((a[k]!).arcs[j]!).to] [D.int .i64 ((b[k]!).arcs[j]!).sign,D.int .i64 ((b[k]!).arcs[j]!).to]=true:=KD (by rw[he]);refine AI (And.intro @dk @hs) ?_;try exact trivial
    refine⟨j+1,⟨by omega,fun q hq=>?_⟩,?_,rfl,by omega⟩
    ·by_cases e:q=j
     ·subst e;exact he
     ·exact j2 q (by omega)
    ·simp(disch:=omega)only[go_sem,A2,Int.natCast_add,Int.cast_ofNat_Int]
   ·have hs:same [D.int .i64 ((a[k]!).arcs[j]!).sign,D.int .i64 ((a[k]!).arcs[j]!).to] [D.int .i64 ((b[k]!).arcs[j]!).sign,D.int .i64 ((b[k]!).arcs[j]!).to]=false:=KE (fun e=>he (by
     simp only[List.cons.injEq,D.int.injEq,true_and,and_true]at e;cases h1:(a[k]!).arcs[j]!;cases h2:(b[k]!).arcs[j]!;rw[h1,h2]at e;simp only at e;rw[e.1,e.2]))
    have e:=no fun x=>he (by rw[x]);rw[e];refine AI (And.intro @dk @hs) ?_;try exact trivial
  ·have hje:j=(a[k]!).arcs.length:=by omega
   refine Aw ?_;try exact trivial
   refine⟨k+1,⟨by omega,fun q hq=>?_⟩,?_,rfl,by omega⟩
   ·by_cases e:q=k
    ·subst e;have hA:(a[q]!).arcs=(b[q]!).arcs:=IW hn fun r hr=>j2 r (by omega);cases h1:a[q]!;cases h2:b[q]!;rw[h1,h2]at hA hf;simp only at hA hf;rw[hA,hf]
    ·exact k2 q (by omega)
   ·simp(disch:=omega)only[go_sem,A2,Int.natCast_add,Int.cast_ofNat_Int]
 ·have e:decide (a=b)=true:=decide_eq_true (IW hl fun j hj=>k2 j (by omega));rw[e];refine Aw ?_;try exact trivial
end Go.Eng.Tryz
namespace Go.Eng.Tryz
attribute [local go_sem] Aq As AK AO Bz DS D9 DT AU AW AG AD
theorem S4{s:AB}{of:List Int}(hof:OL of)(hs:∀a∈s.arcs,0≤a.sign∧a.sign≤1114111∧0≤a.to∧a.to<of.length)(hal:s.arcs.length≤10000) :
 Ac Tryz.prog 69 [.ref 0 0,.d (MO s)] [(0,.var [.d .nils,.d .nils,.own 1 of.length,.d .nilm,.d .nils]),(1,.row 3 1 (is of))] (.d (.str (Ch (B5 of s)))) [(0,.var [.d .nils,.d .nils,.own 1 of.length,.d .nilm,.d .nils]),(1,.row 3 1 (is of))] 2:=by
 have c0:=KO (z:=0) (by omega);have c1:=KO (z:=1) (by omega);have hre:∀k,∀a∈(s.arcs.take k).map (B6 of),a.sign<18446744073709551616∧a.to<18446744073709551616:=fun k a ha=>by
  obtain⟨x,hx,rfl⟩:=List.mem_map.1 ha;obtain⟨g1,g2,g3,g4⟩:=hs x (List.mem_of_mem_take hx);have:=hof.get (k:=x.to.toNat) (by omega);simp only[B6];omega
 refine Ac.run (N:=40) (ks:=[0,1]) Tryz.func69 rfl (by kernel_rfl) rfl rfl rfl (by exact Bb) fun X_ ν_ w_=>?_;cases hf:s.final
 ·have c0_:=c0;refine AI @hf ?_;try exact trivial
  refine A7 (fun k:Nat=>k≤s.arcs.length) (fun k=>[(0,.ref 0 0),(5,.own 1002 (AX false ((s.arcs.take k).map (B6 of))).length),(13,.d (.sl 2 (Gu s.arcs))),(14,.d (.int .i64 s.arcs.length)),(15,.d (.int .i64 k))]) (fun k=>[(0,.var [.d .nils,.d .nils,.own 1 of.length,.d .nilm,.d .nils]),(1,.row 3 1 (is of)),(1002,.row 5 1 (Cu (AX false ((s.arcs.take k).map (B6 of)))))]) 20000 (fun k=>s.arcs.length-k) [0,5,13,14,15] [0,1,1002] 0 (Nat.zero_le _) (by rw[List.take_zero,List.map_nil,Cr];rfl) (by rw[List.take_zero,List.map_nil,Cr];rfl) (Nat.le_of_ble_eq_true rfl) (fun _ _=>rfl) (fun _ _=>rfl) fun k hk=>?_;have hlb:=CL false ((s.arcs.take k).map (B6 of)) (hre k);have hll:((s.arcs.take k).map (B6 of)).length=k:=by simp;omega
  rw[hll]at hlb;by_cases hk3:k<s.arcs.length
  ·have hst:AX false ((s.arcs.take (k+1)).map (B6 of))=AX false ((s.arcs.take k).map (B6 of))++[32]++AQ (s.arcs[k]!).sign.toNat++[58]++AQ (of[(s.arcs[k]!).to.toNat]!).toNat:=by
    rw[Ak hk3,List.map_append,List.map_cons,List.map_nil,EG];simp only[Jm,B6,List.append_assoc]
   obtain⟨g1,g2,g3,g4⟩:=hs (s.arcs[k]!) (by rw[getElem!_pos s.arcs k hk3];exact List.getElem_mem hk3);obtain⟨z,hz⟩:=Int.eq_ofNat_of_zero_le g1;obtain⟨t,ht⟩:=Int.eq_ofNat_of_zero_le g3;rw[hz,ht]at hst;have htl:t<of.length:=by omega
   obtain⟨o1,o2⟩:=hof.get htl;obtain⟨y,hy⟩:=Int.eq_ofNat_of_zero_le o1;simp only[Int.toNat_natCast,hy]at hst;generalize AX false ((s.arcs.take k).map (B6 of))=N at hst hlb ⊢;have hd1:=DR (u:=z) (by omega);have c3:=HL (b:=N++[32]) (z:=z) (by omega) (by simp only[List.length_append,List.length_cons,List.length_nil];omega);have c4:=HL (b:=N++[32]++AQ z++[58]) (z:=y) (by omega) (by simp only[List.length_append,List.length_cons,List.length_nil];omega);simp only[List.length_append,List.length_cons,List.length_nil,Nat.zero_add]at c3 c4;have c0_:=c3;have c1_:=c4;refine AI (And.intro @hz (And.intro @ht (And.intro @hy @Int.toNat_natCast))) ?_;try exact trivial
   refine⟨k+1,by omega,?_,?_,by omega⟩
   ·simp(disch:=omega)only[go_sem,A2,Int.natCast_add,Int.cast_ofNat_Int,hst,List.length_append,List.length_cons,List.length_nil]
   ·simp(disch:=omega)only[go_sem,A2,hst]
  ·have hke:k=s.arcs.length:=by omega
   subst hke;rw[List.take_length];have hb1:=DG (l:=AX false (s.arcs.map (B6 of))) (Fw _ _);have hb2:Ch (B5 of s)=BK (AX false (s.arcs.map (B6 of))):=by unfold Ch B5 DO;rw[hf]
   rw[hb2];rw[List.take_length]at hlb;unfold BK;generalize AX false (s.arcs.map (B6 of))=N at hb1 hlb ⊢;obtain⟨b,l,hbl⟩:∃b l,(N.map fun z=>UInt8.ofNat z.toNat)=b::l:=by
    cases N with
    |nil=>simp at hlb
    |cons x t=>exact⟨_,_,rfl⟩
   rw[hbl]at hb1 ⊢;refine AI @hb1 ?_;try exact trivial
 ·have c0_:=c0;have c1_:=c1;refine AI @hf ?_;try exact trivial
  refine A7 (fun k:Nat=>k≤s.arcs.length) (fun k=>[(0,.ref 0 0),(5,.own 3002 (AX true ((s.arcs.take k).map (B6 of))).length),(13,.d (.sl 2 (Gu s.arcs))),(14,.d (.int .i64 s.arcs.length)),(15,.d (.int .i64 k))]) (fun k=>[(0,.var [.d .nils,.d .nils,.own 1 of.length,.d .nilm,.d .nils]),(1,.row 3 1 (is of)),(3002,.row 5 1 (Cu (AX true ((s.arcs.take k).map (B6 of)))))]) 20000 (fun k=>s.arcs.length-k) [0,5,13,14,15] [0,1,3002] 0 (Nat.zero_le _) (by rw[List.take_zero,List.map_nil,Cr];rfl) (by rw[List.take_zero,List.map_nil,Cr];rfl) (Nat.le_of_ble_eq_true rfl) (fun _ _=>rfl) (fun _ _=>rfl) fun k hk=>?_;have hlb:=CL true ((s.arcs.take k).map (B6 of)) (hre k);have hll:((s.arcs.take k).map (B6 of)).length=k:=by simp;omega
  rw[hll]at hlb;by_cases hk3:k<s.arcs.length
  ·have hst:AX true ((s.arcs.take (k+1)).map (B6 of))=AX true ((s.arcs.take k).map (B6 of))++[32]++AQ (s.arcs[k]!).sign.toNat++[58]++AQ (of[(s.arcs[k]!).to.toNat]!).toNat:=by
    rw[Ak hk3,List.map_append,List.map_cons,List.map_nil,EG];simp only[Jm,B6,List.append_assoc]
   obtain⟨g1,g2,g3,g4⟩:=hs (s.arcs[k]!) (by rw[getElem!_pos s.arcs k hk3];exact List.getElem_mem hk3);obtain⟨z,hz⟩:=Int.eq_ofNat_of_zero_le g1;obtain⟨t,ht⟩:=Int.eq_ofNat_of_zero_le g3;rw[hz,ht]at hst;have htl:t<of.length:=by omega
   obtain⟨o1,o2⟩:=hof.get htl;obtain⟨y,hy⟩:=Int.eq_ofNat_of_zero_le o1;simp only[Int.toNat_natCast,hy]at hst;generalize AX true ((s.arcs.take k).map (B6 of))=N at hst hlb ⊢;have hd1:=DR (u:=z) (by omega);have c3:=HL (b:=N++[32]) (z:=z) (by omega) (by simp only[List.length_append,List.length_cons,List.length_nil];omega);have c4:=HL (b:=N++[32]++AQ z++[58]) (z:=y) (by omega) (by simp only[List.length_append,List.length_cons,List.length_nil];omega);simp only[List.length_append,List.length_cons,List.length_nil,Nat.zero_add]at c3 c4;have c0_:=c3;have c1_:=c4;refine AI (And.intro @hz (And.intro @ht (And.intro @hy @Int.toNat_natCast))) ?_;try exact trivial
   refine⟨k+1,by omega,?_,?_,by omega⟩
   ·simp(disch:=omega)only[go_sem,A2,Int.natCast_add,Int.cast_ofNat_Int,hst,List.length_append,List.length_cons,List.length_nil]
   ·simp(disch:=omega)only[go_sem,A2,hst]
  ·have hke:k=s.arcs.length:=by omega
   subst hke;rw[List.take_length];have hb1:=DG (l:=AX true (s.arcs.map (B6 of))) (Fw _ _);have hb2:Ch (B5 of s)=BK (AX true (s.arcs.map (B6 of))):=by unfold Ch B5 DO;rw[hf]
   rw[hb2];rw[List.take_length]at hlb;unfold BK;generalize AX true (s.arcs.map (B6 of))=N at hb1 hlb ⊢;obtain⟨b,l,hbl⟩:∃b l,(N.map fun z=>UInt8.ofNat z.toNat)=b::l:=by
    cases N with
    |nil=>simp at hlb
    |cons x t=>exact⟨_,_,rfl⟩
   rw[hbl]at hb1 ⊢;refine AI @hb1 ?_;try exact trivial
end Go.Eng.Tryz

/- Automata: few enough? (and what stands behind it: texts laid together) -/
import Derived.Test.YtooblcpmpemhfaaGreatDoorMG4
import Derived.Test.YtooblcpmpemhfaaGreatDoorMR7
import Derived.Test.YtooblcpmpemhfaaGreatDoorMR16
import Derived.Test.YtooblcpmpemhfaaGreatDoorMR2
import Derived.Test.YtooblcpmpemhfaaGreatDoorMR3
import Derived.Test.YtooblcpmpemhfaaGreatDoorMR12
set_option linter.unusedVariables false
set_option linter.unusedSimpArgs false
open Go Go.Eng Go.Proofs Go.RowKit
set_option maxHeartbeats 32000000
set_option maxRecDepth 100000
namespace Go.Eng.Tryz
attribute [local go_sem] Aq As AU AW AG AD
def Mh(l:List AB)(n:Nat):Bool:=(l.all fun s=>decide (s.arcs.length≤100))&&decide (l.length≤n)
theorem GT{l:List AB}{n:Nat}:Mh l n=true↔(∀k,k<l.length→(l[k]!).arcs.length≤100)∧l.length≤n:=by
 unfold Mh;rw[Bool.and_eq_true,List.all_eq_true,decide_eq_true_eq];refine and_congr ⟨fun h k hk=>?_,fun h s hs=>?_⟩ Iff.rfl
 ·rw[getElem!_pos l k hk];exact of_decide_eq_true (h _ (List.getElem_mem hk))
 ·obtain⟨k,hk,rfl⟩:=List.getElem_of_mem hs;have:=h k hk;rw[getElem!_pos l k hk]at this;exact decide_eq_true this
theorem T7{l:List AB}{n:Nat}(hl:BZ l)(hn:n≤1000000):A1 Tryz.prog 16 [.sl 2 (AH l),.int .i64 n] (.bool (Mh l n)):=by
 have hlen:=hl.1;refine A1.run (N:=23) Tryz.func16 rfl (by kernel_rfl) rfl rfl rfl (by exact An) fun X_ w_=>?_;refine Aw ?_;try exact trivial
 refine A7 (fun k:Nat=>k≤l.length∧∀j,j<k→(l[j]!).arcs.length≤100) (fun k=>[(0,.d (.sl 2 (AH l))),(1,.d (.int .i64 n)),(5,.d (.int .i64 k))]) (fun _=>[]) 0 (fun k=>l.length-k) [0,1,5] [] 0 ⟨Nat.zero_le _,fun j h=>by omega⟩ rfl rfl (Nat.le_refl _) (fun _ _=>rfl) (fun _ _=>rfl) fun k hk=>?_;obtain⟨hk1,hk2⟩:=hk;by_cases hk:k<l.length
 ·have ha:=hl.get hk;by_cases h1:100<(l[k]!).arcs.length
  ·have e:Mh l n=false:=by
    cases h:Mh l n with
    |false=>rfl
    |true=>have:=(GT.1 h).1 k hk;omega
   refine AI @e ?_;try exact trivial
  ·refine Aw ?_;try exact trivial
   refine⟨k+1,⟨by omega,fun j hj=>?_⟩,?_,rfl,by omega⟩
   ·by_cases e:j=k
    ·subst e;omega
    ·exact hk2 j (by omega)
   ·simp(disch:=omega)only[go_sem,A2,Int.natCast_add,Int.cast_ofNat_Int]
 ·have hkl:k=l.length:=by omega
  subst hkl;have e:Mh l n=decide ((l.length:Int)≤n):=by
   by_cases h2:l.length≤n
   ·rw[GT.2 ⟨hk2,h2⟩,decide_eq_true (by omega)]
   ·cases h:Mh l n with
    |false=>rw[decide_eq_false (by omega)]
    |true=>have:=(GT.1 h).2;omega
  rw[e];refine Aw ?_;try exact trivial
end Go.Eng.Tryz
namespace Go.Eng.Tryz
attribute [local go_sem] Aq As AK AO AU AW AG AD
theorem PQ{l:List AB}(h:achk l=true):Nl l:=fun k hk x hx=>by
 obtain⟨a,b,c⟩:=Fp h hk x hx;have:=of_decide_eq_true c;have:=(Fo.1 h).2.2;unfold Ar.fits;omega
theorem Oi{L:List (List Int)}{l:List AB}(hL:BY L)(hl:BZ l)(hf:Nl l):A1 Tryz.prog 3 [.sl 1 (AZ L),.sl 2 (AH l)] (.bool true):=by
 have aw:=OB;have cf:=T6 (n:=30) hL (by omega);have ca:=T7 (n:=500) hl (by omega);have cm:=Pg hL;have ct:=QE hL;have r2:=Pb hl hf;cases h1:Mg L 30
 ·rw[h1]at cf;refine A1.run (N:=48) Tryz.func3 rfl (by kernel_rfl) rfl rfl rfl (by exact An) fun X_ w_=>?_;have c0_:=aw;have c1_:=cf;refine Aw ?_;try exact trivial
 rw[h1]at cf;cases h2:Mh l 500
 ·rw[h2]at ca;refine A1.run (N:=48) Tryz.func3 rfl (by kernel_rfl) rfl rfl rfl (by exact An) fun X_ w_=>?_;have c0_:=aw;have c1_:=cf;have c2_:=ca;refine Aw ?_;try exact trivial
 rw[h2]at ca;have r1:=KN hl fun _ p hp=>by have:=(GT.1 h2).1 p hp;omega
 generalize leastB l=b at r1 r2;unfold J9 at cm ct;by_cases he:F0 L=0
 ·rw[if_pos he]at cm ct;obtain⟨K,hK⟩:=PU he;have hs:=KK hK.ok hK.ok (PQ hK.chk) (PQ hK.chk);rw[decide_eq_true rfl]at hs;generalize De L=A at *;refine A1.run (N:=48) Tryz.func3 rfl (by kernel_rfl) rfl rfl rfl (by exact An) fun X_ w_=>?_;have c0_:=aw;have c1_:=cf;have c2_:=ca;have c3_:=cm;have c4_:=ct;have c5_:=hs;have c6_:=r1;have c7_:=r2;refine Aw ?_;try exact trivial
 ·rw[if_neg he]at cm ct;have hs:=(KK (a:=[]) (b:=[]) ⟨by simp,by simp⟩ ⟨by simp,by simp⟩ (fun k hk=>absurd hk (by simp)) (fun k hk=>absurd hk (by simp))).wk (as':=[.nils,.nils]) (.cons (.nil 2) (.cons (.nil 2) .nil)) (.refl _);rw[decide_eq_true rfl]at hs;generalize F0 L=e at *;refine A1.run (N:=48) Tryz.func3 rfl (by kernel_rfl) rfl rfl rfl (by exact An) fun X_ w_=>?_;have c0_:=aw;have c1_:=cf;have c2_:=ca;have c3_:=cm;have c4_:=ct;have c5_:=hs;have c6_:=r1;have c7_:=r2;refine Aw ?_;try exact trivial
end Go.Eng.Tryz
namespace Go.Eng.Tryz
theorem RQ{n:Nat}{ds:List D}(h:H7 Tryz.prog n 86 ds):∃a:Ar,Jc Tryz.prog 86 ds=ar a∧a.fits:=by
 obtain⟨m,h⟩:=JV Tryz.underlying86 h;obtain⟨_,_,rfl,h1,_,_,rfl,h2,rfl⟩:=h;obtain⟨s,rfl,b1⟩:=MM Tryz.underlying3 h1;obtain⟨t,rfl,b2⟩:=MM Tryz.underlying3 h2;rw[Ja Tryz.underlying86];exact⟨⟨s,t⟩,rfl,OP b1,OP b2⟩
theorem Qp{n:Nat}{ds:List D}(h:H7 Tryz.prog n 82 ds):∃l,Jc Tryz.prog 82 ds= .sl 2 (Gu l)∧l.length≤9223372036854775807∧∀x∈l,x.fits:=by
 obtain⟨m,xs,rfl,h1,h2⟩:=LB Tryz.underlying82 h;obtain⟨l,e1,e2,h3⟩:=Gw (f:=ar) (ok:=fun x=>x.fits) (fun x hx=>RQ hx) xs h2;rw[e1,Jb Tryz.underlying82];exact⟨l,rfl,by omega,h3⟩
theorem Qn{n:Nat}{ds:List D}(h:H7 Tryz.prog n 84 ds):∃s:AB,Jc Tryz.prog 84 ds=MO s∧s.arcs.length≤9223372036854775807∧∀x∈s.arcs,x.fits:=by
 obtain⟨m,h⟩:=JV Tryz.underlying84 h;obtain⟨_,_,rfl,h1,_,_,rfl,h2,rfl⟩:=h;obtain⟨b,rfl⟩:=Qo Tryz.underlying4 h1;obtain⟨l,e1,o1⟩:=Qp h2;obtain⟨k,xs,rfl,_,_⟩:=LB Tryz.underlying82 h2;rw[Jb Tryz.underlying82]at e1;rw[Ja Tryz.underlying84,e1];exact⟨⟨b,l⟩,rfl,o1⟩
theorem RO{n:Nat}{ds:List D}(h:H7 Tryz.prog n 23 ds):∃l,Jc Tryz.prog 23 ds= .sl 2 (AH l)∧BZ l∧Nl l:=by
 obtain⟨m,xs,rfl,h1,h2⟩:=LB Tryz.underlying23 h;obtain⟨l,e1,e2,h3⟩:=Gw (f:=MO) (ok:=fun s=>s.arcs.length≤9223372036854775807∧∀x∈s.arcs,x.fits) (fun x hx=>Qn hx) xs h2;rw[e1,Jb Tryz.underlying23];exact⟨l,rfl,⟨by omega,fun s hs=>(h3 s hs).1⟩,fun k hk=>by rw[getElem!_pos l k hk];exact(h3 _ (List.getElem_mem hk)).2⟩
end Go.Eng.Tryz

/- Words in order, each once: whatever they are. (and what stands behind it: texts laid together) -/
import Derived.Test.YtooblcpmpemhfaaGreatDoorMG4
import Derived.Test.YtooblcpmpemhfaaGreatDoorMR4
import Derived.Test.YtooblcpmpemhfaaGreatDoorMR3
import Derived.Test.YtooblcpmpemhfaaGreatDoorMR2
set_option linter.unusedVariables false
set_option linter.unusedSimpArgs false
open Go Go.Eng Go.Proofs Go.RowKit
set_option maxHeartbeats 32000000
set_option maxRecDepth 100000
namespace Go.Eng.Tryz
attribute [local go_sem] Aq As AK AO Bz DS D9 DT
theorem PG{l:List (List Int)}{k:Nat}:(AZ l).take k=AZ (l.take k):=by simp[AZ,List.map_take]
theorem R6{l:List (List Int)}{k:Nat}{w:List Int}:(AZ l).set k (.sl 1 (is w))=AZ (l.set k w):=by simp[AZ,List.map_set]
theorem On{l:List (List Int)}{i j:Nat}{v:List Int}(h:i<l.length):(l.set i v)[j]! =if j=i then v else l[j]! :=by
 by_cases e:j=i
 ·subst e;rw[if_pos rfl];simp[List.getElem!_eq_getElem?_getD,List.getElem?_set_self h]
 ·rw[if_neg e];simp[List.getElem!_eq_getElem?_getD,List.getElem?_set_ne (fun h=>e h.symm)]
def C0(l:List (List Int)):List (List Int):=l.mergeSort fun a b=>decide (¬Aj b a<0)
theorem Df(l:List (List Int)):(C0 l).Perm l:=List.mergeSort_perm _ _
theorem HH(l:List (List Int)):(C0 l).Pairwise (fun a b=>¬Aj b a<0):=by
 have:=List.pairwise_mergeSort (le:=fun a b=>decide (¬Aj b a<0)) (fun a b c h1 h2=>by
  simp only[decide_eq_true_eq]at h1 h2 ⊢;intro h;have:=Bu a b c (by have:=Ao a b;omega) (by have:=Ao b c;omega);have:=Ao a c;omega) (fun a b=>by
  simp only[Bool.or_eq_true,decide_eq_true_eq];have:=Ao a b;omega) l
 exact this.imp fun{a b} h=>by simpa using h
theorem HI(l:List (List Int)):(C0 l).length=l.length:=(Df l).length_eq
theorem P0{l:List (List Int)}(h:l.Pairwise (fun a b=>¬Aj b a<0))(hd:∀j,j+1<l.length→l[j+1]!≠l[j]!):CF l:=by
 have h1:∀j,j+1<l.length→Aj (l[j]!) (l[j+1]!)<0:=fun j hj=>by
  have a1:=List.pairwise_iff_getElem.1 h j (j+1) (by omega) hj (by omega);rw[← getElem!_pos l j (by omega),← getElem!_pos l (j+1) hj]at a1;have a2:=Ao (l[j]!) (l[j+1]!);have a3:Aj (l[j]!) (l[j+1]!)≠0:=fun e=>hd j hj ((C2 _ _).1 e).symm;omega
 unfold CF;rw[List.pairwise_iff_getElem];intro i j hi hj hij;have h2:∀d,i+d+1<l.length→Aj (l[i]!) (l[i+d+1]!)<0:=fun d=>by
  induction d with
  |zero=>exact h1 i
  |succ d ih =>
   intro hd;have:=ih (by omega);have:=h1 (i+d+1) (by omega);exact Bh ‹Aj (l[i]!) (l[i+d+1]!)<0› (by rw[show i+(d+1)+1=i+d+1+1 by omega];omega)
 have:=h2 (j-i-1) (by omega);rw[show i+(j-i-1)+1=j by omega,getElem!_pos l i hi,getElem!_pos l j hj]at this;exact this
def NG(l:List (List Int))(d j:Nat)(s:List (List Int)×Nat):List (List Int)×Nat:=if l[d+j+1]! =l[d+j]! then s else(s.1.set s.2 (l[d+j+1]!),s.2+1)
def Hy(l:List (List Int))(d j:Nat):List (List Int)×Nat:=(List.range j).foldl (fun s j=>NG l d j s) (l,d)
theorem Ko(l:List (List Int))(d j:Nat):Hy l d (j+1)=NG l d j (Hy l d j):=by simp[Hy,List.range_succ]
theorem Mt(l:List (List Int))(d:Nat):∀j,d+j+1≤l.length→(Hy l d j).1.length=l.length∧d≤(Hy l d j).2∧(Hy l d j).2≤d+j∧∀q,d+j≤q→(Hy l d j).1[q]! =l[q]! :=by
 intro j;induction j with
 |zero=>intro _;exact⟨rfl,Nat.le_refl _,Nat.le_refl _,fun q _=>rfl⟩
 |succ j ih =>
  intro hj;obtain⟨h1,h2,h3,h4⟩:=ih (by omega);rw[Ko];unfold NG;split
  ·exact⟨h1,h2,by omega,fun q hq=>h4 q (by omega)⟩
  ·refine⟨by simp[h1],by simp only;omega,by simp only;omega,fun q hq=>?_⟩;simp only;rw[On (by omega),if_neg (by omega)];exact h4 q (by omega)
attribute [local go_sem] R6
theorem O5{l:List (List Int)}(hl:BY l)(hmax:l.length≤1000000){d:Nat}(hd0:d+1<l.length)(hd:l[d+1]! =l[d]!)(hlt:∀j,j<d→l[j+1]!≠l[j]!) :
 ∃L:List (List Int),L.length<l.length∧Ac Tryz.prog 147 [.own 0 l.length,.d (.fn 148)] [(0,.row 57 1 (AZ l))] (.own 612002 L.length) [(612002,.row 57 1 (AZ L))] 1:=by
 obtain⟨n,hn⟩:∃n,l.length=d+2+n:=⟨l.length-d-2,by omega⟩
 have hfin:=Mt l (d+1) n (by omega);refine⟨(Hy l (d+1) n).1.take (Hy l (d+1) n).2,by simp;omega,?_⟩;have hlen:=hl.1;refine Ac.run (N:=66) (ks:=[612002]) Tryz.func147 rfl (by kernel_rfl) rfl rfl rfl (by exact Bb) fun X_ ν_ w_=>?_;have h2:¬l.length<2:=by omega
 refine Aw ?_;try exact trivial
 refine A7 (fun k:Nat=>1≤k∧k≤d+1) (fun k=>[(0,.own 0 l.length),(1,.d (.fn 148)),(5,.d (.int .i64 k))]) (fun _=>[(0,.row 57 1 (AZ l))]) 600000 (fun k=>l.length-k) [0,1,5] [0] 1 ⟨Nat.le_refl _,by omega⟩ rfl rfl (Nat.le_of_ble_eq_true rfl) (fun _ _=>rfl) (fun _ _=>rfl) fun k hk=>?_;obtain⟨hk1,hk2⟩:=hk;obtain⟨m,rfl⟩:∃m,k=m+1:=⟨k-1,by omega⟩
 have em:((m+1:Nat):Int)-1=m:=by omega
 have c:=S9 (hl.get (k:=m+1) (by omega)) (hl.get (k:=m) (by omega));have hml:m+1<l.length:=by omega
 by_cases hk3:m<d
 ·have h2:decide (l[m+1]! =l[m]!)=false:=decide_eq_false (hlt m hk3);rw[h2]at c;have c0_:=c;refine AI @em ?_;try exact trivial
  refine⟨m+1+1,⟨by omega,by omega⟩,?_,?_,by omega⟩
  ·simp(disch:=omega)only[go_sem,A2,Int.natCast_add,Int.cast_ofNat_Int]
  ·simp(disch:=omega)only[go_sem,A2]
 ·have hmd:m=d:=by omega
  subst hmd;have h2:decide (l[m+1]! =l[m]!)=true:=decide_eq_true hd;rw[h2]at c;have c0_:=c;refine AI @em ?_;try exact trivial
  have eb:((l.length:Int)-((m:Int)+1))=((n+1:Nat):Int):=by omega
  refine A7 (fun j:Nat=>j≤n) (fun j=>[(0,.own 0 l.length),(1,.d (.fn 148)),(5,.d (.int .i64 (Hy l (m+1) j).2)),(6,.rv 0 l.length (m+1) (l.length-(m+1)) 1),(7,.d (.int .i64 ((j:Int)+1)))]) (fun j=>[(0,.row 57 1 (AZ (Hy l (m+1) j).1))]) 610000 (fun j=>n-j) [0,1,5,6,7] [0] 0 (Nat.zero_le _) rfl rfl (Nat.le_of_ble_eq_true rfl) (fun _ _=>rfl) (fun _ _=>rfl) fun j hj=>?_;obtain⟨i1,i2,i3,i4⟩:=Mt l (m+1) j (by omega);by_cases hj3:j<n
  ·have hst:=Ko l (m+1) j;unfold NG at hst;generalize Hy l (m+1) j=S at i1 i2 i3 i4 hst ⊢;obtain⟨R,k⟩:=S;simp only at i1 i2 i3 i4 hst ⊢;have et:((j:Int)+1).toNat=j+1:=by omega
   have eu:(j:Int)+1-1=(j:Int):=by omega
   have ea:m+1+(j+1)=m+1+j+1:=by omega
   have r1:R[m+1+j+1]! =l[m+1+j+1]! :=i4 _ (by omega);have r2:R[m+1+j]! =l[m+1+j]! :=i4 _ (by omega);have c:=S9 (hl.get (k:=m+1+j+1) (by omega)) (hl.get (k:=m+1+j) (by omega));by_cases he:l[m+1+j+1]! =l[m+1+j]!
   ·rw[decide_eq_true he]at c;rw[if_pos he]at hst;have c0_:=c;refine AI (And.intro @ea (And.intro @et (And.intro @eu (And.intro @r1 (And.intro @r2 (And.intro @i1 @Int.toNat_natCast)))))) ?_;try exact trivial
    refine⟨j+1,by omega,?_,?_,by omega⟩
    ·simp(disch:=omega)only[go_sem,A2,Int.natCast_add,Int.cast_ofNat_Int,hst]
    ·simp(disch:=omega)only[go_sem,A2,hst]
   ·rw[decide_eq_false he]at c;rw[if_neg he]at hst;have c0_:=c;refine AI (And.intro @ea (And.intro @et (And.intro @eu (And.intro @r1 (And.intro @r2 (And.intro @i1 @Int.toNat_natCast)))))) ?_;try exact trivial
    refine⟨j+1,by omega,?_,?_,by omega⟩
    ·simp(disch:=omega)only[go_sem,A2,Int.natCast_add,Int.cast_ofNat_Int,hst]
    ·simp(disch:=omega)only[go_sem,A2,hst]
  ·have hjn:j=n:=by omega
   subst hjn;generalize Hy l (m+1) j=S at i1 i2 i3 i4 hfin ⊢;obtain⟨R,k⟩:=S;simp only at i1 i2 i3 i4 hfin ⊢;have e1:min k l.length=k:=by omega
   have e2:k+(l.length-k)=l.length:=by omega
   have e3:List.take k (List.take k (AZ R)++List.replicate (l.length-k) D.nils)=AZ (R.take k):=by
    rw[List.take_append_of_le_length (by simp[AZ];omega),List.take_take,Nat.min_self,PG]
   have e4:(List.take k R).length=k:=by simp;omega
   rw[e4];repeat (first|with_reducible exact Ev.nil|with_reducible exact Jy|((with_reducible apply FZ);rfl)|((with_reducible apply C8);rfl)|((with_reducible apply DV);rfl)|with_reducible apply DY|with_reducible apply Ed|with_reducible apply D2|((with_reducible apply JR (N:=66) rfl rfl);(focus simp only[Nat.reduceAdd]<;>rfl))|((with_reducible apply JT (N:=66) mixed rfl rfl);(focus simp only[Nat.reduceAdd]<;>rfl))|((with_reducible apply JU);(focus first|(apply Ex;(focus rfl);rfl)|(apply Ey;(focus rfl);(focus rfl);rfl)))|((with_reducible apply G6);(focus first|(apply Ex;(focus rfl);rfl)|(apply Ey;(focus rfl);(focus rfl);rfl)))|with_reducible apply Jx|with_reducible apply Gc|with_reducible apply Ge|with_reducible apply Gd|with_reducible apply Gf|((first|(with_reducible apply G7)|(with_reducible apply Eg));(focus rfl))|((first|(with_reducible apply G8)|(with_reducible apply Eh));(focus rfl))|((with_reducible apply F3);(focus simp only[Nat.reduceAdd]<;>rfl);(focus simp(disch:=omega)only[go_sem,i1,e1,e2,e3,List.length_take,List.length_replicate]<;>rfl))|((first|(with_reducible apply Ga)|(with_reducible apply G9));(focus simp only[Nat.reduceAdd]<;>rfl);(focus simp(disch:=omega)only[go_sem,i1,e1,e2,e3,List.length_take,List.length_replicate]<;>rfl);(focus first|(simp(disch:=omega)only[go_sem,i1,e1,e2,e3,List.length_take,List.length_replicate]<;>rfl)|rfl))|with_reducible apply Ec|with_reducible apply Eb|with_reducible apply DX|with_reducible apply DW|with_reducible apply D1|with_reducible apply D0|with_reducible apply CZ|with_reducible apply CX rfl|with_reducible apply CV|with_reducible apply CU|with_reducible apply CT|with_reducible apply G3|with_reducible apply G2|with_reducible apply Ce|with_reducible apply D3|with_reducible apply Ee|with_reducible apply Cd|with_reducible apply Cc|((with_reducible apply JQ);(focus first|(simp(disch:=omega)only[go_sem,i1,e1,e2,e3,List.length_take,List.length_replicate]<;>rfl)|rfl))|((with_reducible apply JS);(focus first|(simp(disch:=omega)only[go_sem,i1,e1,e2,e3,List.length_take,List.length_replicate]<;>rfl)|rfl))|((with_reducible apply DZ);(focus rfl))|((with_reducible apply E3);(focus rfl);(focus rfl))|(with_reducible rfl)|((with_reducible show List.map AS _=_);simp only[List.map_cons,List.map_nil,AS,C7];rfl)|((with_reducible show By _ _=true);kernel_rfl)|((with_reducible show _=_);simp(disch:=omega)only[go_sem,i1,e1,e2,e3,List.length_take,List.length_replicate]<;>rfl)|((fail_if_success (with_reducible show Ev _ _ _ _ (_::_) _ _ _ _ _));(show Ev _ _ _ _ (_::_) _ _ _ _ _))|fail)
theorem OG:A1 Tryz.prog 123 [.int .u64 0] (.int .i64 0):=by
 intro w M vs hW hM hl hv
 match vs,hl with
 | [v],_ =>
 have:=hv 0 _ v rfl rfl;cases this;have L:=Tryz.sortWord;have eg:∀args w,(callFunc 123 args).run Tryz.prog w= .ok (.enter 123 args) w:=enters_of Tryz.func123 (by kernel_rfl) rfl;have h:=Any.bits_Len (SlLaysF0.n15.bits (P:=Tryz.prog) (ρ:=Tryz.sortWord_ren) { L with }) (0:Int) w (by decide) (by decide);refine .inr ⟨eg _ _,?_⟩;refine Calls.mono (P:=Tryz.prog) h ?_;rintro e w' ⟨rfl,rfl⟩;exact⟨_,rfl,.int _ _,Bl.refl _ _⟩
theorem RE:Ac Tryz.prog 233 [.own 0 0,.d (.int .i64 0),.d (.int .i64 0),.d (.fn 146)] [(0,.row 57 1 [])] (.tup []) [(0,.row 57 1 [])] 1:=by
 refine Ac.run (N:=53) (ks:=[0]) Tryz.func233 rfl (by kernel_rfl) rfl rfl rfl (by exact FK) fun X_ ν_ w_=>?_;refine Aw ?_;try exact trivial
 refine H4 ?_;refine Aw ?_;try exact trivial
theorem SZ:Ac Tryz.prog 206 [.own 0 0,.d (.int .i64 0),.d (.int .i64 0),.d (.int .i64 0),.d (.fn 146)] [(0,.row 57 1 [])] (.tup []) [(0,.row 57 1 [])] 1:=by
 refine Ac.run (N:=148) (ks:=[0]) Tryz.func206 rfl (by kernel_rfl) rfl rfl rfl (by exact Rm) fun X_ ν_ w_=>?_;have c0_:=RE;refine Aw ?_;try exact trivial
 refine H4 ?_;have c0_:=RE;refine Aw ?_;try exact trivial
theorem QP:Ac Tryz.prog 145 [.own 0 0,.d (.fn 146)] [(0,.row 57 1 [])] (.tup []) [(0,.row 57 1 [])] 1:=by
 refine Ac.run (N:=14) (ks:=[0]) Tryz.func145 rfl (by kernel_rfl) rfl rfl rfl (by exact Bb) fun X_ ν_ w_=>?_;have c0_:=OG;have c1_:=SZ;refine Aw ?_;try exact trivial
theorem O6:Ac Tryz.prog 147 [.own 0 0,.d (.fn 148)] [(0,.row 57 1 [])] (.own 0 0) [(0,.row 57 1 [])] 1:=by
 refine Ac.run (N:=66) (ks:=[0]) Tryz.func147 rfl (by kernel_rfl) rfl rfl rfl (by exact Bb) fun X_ ν_ w_=>?_;refine Aw ?_;try exact trivial
theorem QQ:A1 Tryz.prog 84 [.sl 1 []] (.sl 1 []):=by
 have c1:=QP;have c2:=O6;refine A1.run (N:=25) Tryz.func84 rfl (by kernel_rfl) rfl rfl rfl (by exact Ab) fun X_ w_=>?_;refine Aw ?_;try exact trivial
 refine H4 ?_;have c0_:=c1;have c1_:=c2;refine Aw ?_;try exact trivial
def Qv(l:List (List Int)):Bool:=(List.range (l.length-1)).all fun j=>decide (Aj (l[j]!) (l[j+1]!)<0)
theorem F8{l:List (List Int)}:Qv l=true↔CF l:=by
 unfold Qv;rw[List.all_eq_true];constructor
 ·intro h;have h1:∀j,j+1<l.length→Aj (l[j]!) (l[j+1]!)<0:=fun j hj=>by simpa using h j (List.mem_range.2 (by omega))
  unfold CF;rw[List.pairwise_iff_getElem];intro i j hi hj hij;have h2:∀d,i+d+1<l.length→Aj (l[i]!) (l[i+d+1]!)<0:=fun d=>by
   induction d with
   |zero=>exact h1 i
   |succ d ih =>
    intro hd;have a:=ih (by omega);have b:=h1 (i+d+1) (by omega);exact Bh a (by rw[show i+(d+1)+1=i+d+1+1 by omega];omega)
  have:=h2 (j-i-1) (by omega);rw[show i+(j-i-1)+1=j by omega,getElem!_pos l i hi,getElem!_pos l j hj]at this;exact this
 ·intro h j hj;rw[List.mem_range]at hj;exact decide_eq_true (h.at (by omega) (by omega))
theorem MW{l:List (List Int)}(hl:BY l){d:Nat}(hd:d+1<l.length)(hc:Aj (l[d+1]!) (l[d]!)<0):A1 Tryz.prog 85 [.sl 1 (AZ l),.fn 86] (.bool false):=by
 have hlen:=hl.1;refine A1.run (N:=25) Tryz.func85 rfl (by kernel_rfl) rfl rfl rfl (by exact An) fun X_ w_=>?_;obtain⟨n,hn⟩:∃n,l.length=n+1:=⟨l.length-1,by omega⟩
 have en:(l.length:Int)-1=n:=by omega
 refine AI @en ?_;try exact trivial
 refine A7 (fun k:Nat=>d+1≤k∧k≤n) (fun k=>[(0,.d (.sl 1 (AZ l))),(1,.d (.fn 86)),(5,.d (.int .i64 k))]) (fun _=>[]) 0 (fun k=>k) [0,1,5] [] n ⟨by omega,Nat.le_refl _⟩ rfl rfl (Nat.le_refl _) (fun _ _=>rfl) (fun _ _=>rfl) fun k hk=>?_;obtain⟨m,rfl⟩:∃m,k=m+1:=⟨k-1,by omega⟩
 have em:((m+1:Nat):Int)-1=m:=by omega
 have c:=RB (hl.get (k:=m+1) (by omega)) (hl.get (k:=m) (by omega));by_cases h3:Aj (l[m+1]!) (l[m]!)<0
 ·have c0_:=c;refine AI (And.intro @em @h3) ?_;try exact trivial
 ·have hne:m≠d:=fun e=>h3 (e▸hc);have c0_:=c;refine AI (And.intro @em @h3) ?_;try exact trivial
  refine⟨m,⟨by omega,by omega⟩,?_,rfl,by omega⟩;simp(disch:=omega)only[go_sem,A2,em]
theorem M9{l:List (List Int)}(h:∃j,j+1<l.length∧l[j+1]! =l[j]!):∃d,d+1<l.length∧l[d+1]! =l[d]!∧∀j,j<d→l[j+1]!≠l[j]! :=by
 obtain⟨j,hj⟩:=h;induction j using Nat.strongRecOn with
 |_ j ih =>
  by_cases h:∃i,i<j∧l[i+1]! =l[i]!
  ·obtain⟨i,h1,h2⟩:=h;exact ih i h1 ⟨by omega,h2⟩
  ·exact⟨j,hj.1,hj.2,fun i hi e=>h ⟨i,hi,e⟩⟩
theorem S3{l:List (List Int)}(hl:∀w∈l,w.length≤1000000)(hlen:l.length≤1000000)(h0:0<l.length) :
 (CF (C0 l)∧A1 Tryz.prog 84 [.sl 1 (AZ l)] (.sl 1 (AZ (C0 l))))∨(¬CF (C0 l)∧∃L:List (List Int),L.length<l.length∧A1 Tryz.prog 84 [.sl 1 (AZ l)] (.sl 1 (AZ L))):=by
 have hok:∀w∈l,w.length≤9223372036854775807:=fun w hw=>Nat.le_trans (hl w hw) (by decide);have hsl:=HI l;have hokS:BY (C0 l):=⟨by omega,fun w hw=>hok w ((Df l).mem_iff.1 hw)⟩
 have c1:=Pf (xs:=l) (ys:=C0 l) hok h0 (by omega) (Df l) (HH l);by_cases hs:CF (C0 l)
 ·left;refine⟨hs,?_⟩;have c2:=LO hokS hs (by omega);rw[hsl]at c2;refine A1.run (N:=25) Tryz.func84 rfl (by kernel_rfl) rfl rfl rfl (by exact Ab) fun X_ w_=>?_;refine Aw ?_;try exact trivial
  refine A7 (fun k:Nat=>k≤l.length) (fun k=>[(3,.own 1002 (l.take k).length),(9,.d (.sl 1 (AZ l))),(10,.d (.int .i64 l.length)),(11,.d (.int .i64 k))]) (fun k=>[(1002,.row 57 1 (AZ (l.take k)))]) 1003 (fun k=>l.length-k) [3,9,10,11] [1002] 0 (Nat.zero_le _) rfl rfl (Nat.zero_le _) (fun _ _=>rfl) (fun _ _=>rfl) fun k hk=>?_;have hkl:(l.take k).length=k:=by simp;omega
  by_cases hk3:k<l.length
  ·have hst:=E8 hk3;have cl:=MX (l:=l[k]!) (by rw[getElem!_pos l k hk3];exact hl _ (List.getElem_mem hk3));have c0_:=cl;refine AI @hkl ?_;try exact trivial
   refine⟨k+1,by omega,?_,?_,by omega⟩
   ·simp(disch:=omega)only[go_sem,A2,Int.natCast_add,Int.cast_ofNat_Int,hst,hkl,List.length_append,List.length_cons,List.length_nil]
   ·simp(disch:=omega)only[go_sem,A2,hst]
  ·have hke:k=l.length:=by omega
   subst hke;rw[List.take_length];have c0_:=c1;have c1_:=c2;refine AI @hsl ?_;try exact trivial
 ·right;refine⟨hs,?_⟩;have hal:∃j,j+1<(C0 l).length∧(C0 l)[j+1]! =(C0 l)[j]! :=by
   refine Classical.byContradiction fun hn=>hs (P0 (HH l) fun j hj e=>hn ⟨j,hj,e⟩)
  obtain⟨d,d1,d2,d3⟩:=M9 hal;obtain⟨L,hL,c2⟩:=O5 hokS (by omega) d1 d2 d3;rw[hsl]at c2 hL;refine⟨L,hL,?_⟩;refine A1.run (N:=25) Tryz.func84 rfl (by kernel_rfl) rfl rfl rfl (by exact Ab) fun X_ w_=>?_;refine Aw ?_;try exact trivial
  refine A7 (fun k:Nat=>k≤l.length) (fun k=>[(3,.own 1002 (l.take k).length),(9,.d (.sl 1 (AZ l))),(10,.d (.int .i64 l.length)),(11,.d (.int .i64 k))]) (fun k=>[(1002,.row 57 1 (AZ (l.take k)))]) 1003 (fun k=>l.length-k) [3,9,10,11] [1002] 0 (Nat.zero_le _) rfl rfl (Nat.zero_le _) (fun _ _=>rfl) (fun _ _=>rfl) fun k hk=>?_;have hkl:(l.take k).length=k:=by simp;omega
  by_cases hk3:k<l.length
  ·have hst:=E8 hk3;have cl:=MX (l:=l[k]!) (by rw[getElem!_pos l k hk3];exact hl _ (List.getElem_mem hk3));have c0_:=cl;refine AI @hkl ?_;try exact trivial
   refine⟨k+1,by omega,?_,?_,by omega⟩
   ·simp(disch:=omega)only[go_sem,A2,Int.natCast_add,Int.cast_ofNat_Int,hst,hkl,List.length_append,List.length_cons,List.length_nil]
   ·simp(disch:=omega)only[go_sem,A2,hst]
  ·have hke:k=l.length:=by omega
   subst hke;rw[List.take_length];have c0_:=c1;have c1_:=c2;refine AI @hsl ?_;try exact trivial
end Go.Eng.Tryz
namespace Go.Eng.Tryz
open Go.Maps (Keyed)
theorem Kb:Keyed Tryz.prog 86:=Keyed.of_law (deep_law_gate (by kernel_rfl) (of_decide_eq_true (by kernel_rfl)) (of_decide_eq_true (by kernel_rfl)) (by kernel_rfl) (by rw[Tryz.underlying86]))
theorem Ni{a b:Ar}(h:ar a=ar b):a=b:=by
 unfold ar at h;simp only[D.agg.injEq,List.cons.injEq,D.int.injEq,true_and,and_true]at h;cases a;cases b;simp only at h;rw[h.1,h.2]
theorem RI:Tryz.prog.cellsOf 86=2:=by kernel_rfl
def Ar.fits(a:Ar):Prop:=(-9223372036854775808≤a.sign∧a.sign≤9223372036854775807)∧(-9223372036854775808≤a.to∧a.to≤9223372036854775807)
theorem Sq{d:Nat}{a:Ar}(h:a.fits):Tryz.prog.keyLits (d+2) 86 [.int .i64 a.sign,.int .i64 a.to]=some [.int .i64 a.sign,.int .i64 a.to]:=by
 unfold Program.keyLits;rw[Tryz.underlying86];simp[List.mapM_cons,RI,Un,PD h.1,PD h.2]
theorem GP{a:Ar}(h:a.fits):MI Tryz.prog 86 (ar a):=by
 obtain⟨d,hd⟩:=PT;refine⟨O4 (l:=[a.sign,a.to]),_,.string (keyBytes [.int .i64 a.sign,.int .i64 a.to]),fun w M=>P8 (l:=[a.sign,a.to]),?_⟩;unfold keyOf;rw[Tryz.underlying86];have hk:Tryz.prog.keyType 86=true:=by kernel_rfl
 have hf:(Value.agg (([a.sign,a.to]).map fun z=>Value.int .i64 z).toArray).formed Tryz.prog 86=true:=by
  simp[Value.formed,Tryz.underlying86,RI]
 simp only[hk,hf,Bool.and_self,if_true,hd];have:=Sq (d:=d+2) h;simp only[Value.cells,List.map_cons,List.map_nil];rw[this];rfl
def Ra(m:List (Ar×Int)):List (D×D):=m.map fun p=>(ar p.1,.int .i64 p.2)
def U3(m:List (Ar×Int)):Prop:=(∀p∈m,p.1.fits)∧(m.map (·.1)).Nodup
theorem Oz{m:List (Ar×Int)}(h:U3 m):((Ra m).map (·.1)).Nodup:=by
 unfold Ra;rw[List.map_map,List.Nodup,List.pairwise_map];have:=h.2;rw[List.Nodup,List.pairwise_map]at this;exact this.imp fun hn he=>hn (Ni he)
theorem SF{m:List (Ar×Int)}(h:U3 m){a:Ar}(ha:a.fits):Kv Tryz.prog 86 (Ra m) (ar a):=by
 refine⟨Kb,GP ha,fun p hp=>?_,Oz h⟩;obtain⟨r,hr,rfl⟩:=List.mem_map.1 hp;exact GP (h.1 r hr)
def DL:List (Ar×Int)→Ar→Option Int
 | [],_=>none
 |x::t,a=>if x.1=a then some x.2 else DL t a
theorem Pu(m:List (Ar×Int))(a:Ar):I2 (Ra m) (ar a)=(DL m a).map (D.int .i64):=by
 induction m with
 |nil=>rfl
 |cons x t ih =>
  simp only[Ra,List.map_cons,I2,DL];by_cases hx:x.1=a
  ·rw[if_pos hx,if_pos (by rw[hx])];rfl
  ·rw[if_neg hx,if_neg (fun e=>hx (Ni e))];exact ih
theorem Pr{m:List (Ar×Int)}{a:Ar}{z:Int}(h:DL m a=none):E4 (Ra m) (ar a) (.int .i64 z)=Ra (m++[(a,z)]):=by
 induction m with
 |nil=>rfl
 |cons x t ih =>
  simp only[DL]at h;split at h
  ·cases h
  ·rename_i hx;simp only[Ra,List.map_cons,E4,List.cons_append];rw[if_neg (fun e=>hx (Ni e))];exact congrArg _ (ih h)
theorem MC{m:List (Ar×Int)}{a:Ar}{z:Int}(h:DL m a=some z):(a,z)∈m:=by
 induction m with
 |nil=>cases h
 |cons x t ih =>
  simp only[DL]at h;split at h
  ·rename_i hx;cases h;subst hx;simp
  ·exact List.mem_cons_of_mem _ (ih h)
theorem OI{m:List (Ar×Int)}{a:Ar}(h:DL m a=none):a∉m.map (·.1):=by
 induction m with
 |nil=>simp
 |cons x t ih =>
  simp only[DL]at h;split at h
  ·cases h
  ·rename_i hx;simp only[List.map_cons,List.mem_cons,not_or];exact⟨fun e=>hx e.symm,ih h⟩
theorem Av{α:Type}[Inhabited α]{l:List α}{i j:Nat}{v:α}(h:i<l.length):(l.set i v)[j]! =if j=i then v else l[j]! :=by
 simp only[List.getElem!_eq_getElem?_getD,List.getElem?_set];by_cases e:j=i
 ·subst e;simp[h]
 ·rw[if_neg (fun x=>e x.symm),if_neg e]
structure TS where
 out:List AB
 at_:List Int
 m:List (Ar×Int)
def BV(l:List AB)(k:Nat)(b:Bool):List AB:=l.set k ⟨(l[k]!).final||b,(l[k]!).arcs⟩
def BL(l:List AB)(k:Nat)(a:Ar):List AB:=l.set k ⟨(l[k]!).final,(l[k]!).arcs++[a]⟩
def EV(L:List (List Int))(n i:Nat)(s:TS):TS :=
 if n<(L[i]!).length then
  match DL s.m ⟨(L[i]!)[n]!,s.at_[i]!⟩with
  |some to=>⟨BV s.out to.toNat (decide (n+1=(L[i]!).length)),s.at_.set i to,s.m⟩
  |none=>⟨BV (BL (s.out++[⟨false,[]⟩]) (s.at_[i]!).toNat ⟨(L[i]!)[n]!,s.out.length⟩) s.out.length (decide (n+1=(L[i]!).length)),s.at_.set i s.out.length,s.m++[((⟨(L[i]!)[n]!,s.at_[i]!⟩:Ar),(s.out.length:Int))]⟩
 else s
def CJ(L:List (List Int))(n i:Nat)(s:TS):TS:=(List.range i).foldl (fun s i=>EV L n i s) s
def BR(L:List (List Int))(n:Nat):TS:=(List.range n).foldl (fun s n=>CJ L n L.length ⟨s.out,s.at_,[]⟩) (⟨[⟨false,[]⟩],List.replicate L.length 0,[]⟩:TS)
def Ap(L:List (List Int)):List AB:=(BR L 20).out
theorem F6(L:List (List Int))(n i:Nat)(s:TS):CJ L n (i+1) s=EV L n i (CJ L n i s):=by simp[CJ,List.range_succ]
theorem Hc(L:List (List Int))(n:Nat):BR L (n+1)=CJ L n L.length ⟨(BR L n).out,(BR L n).at_,[]⟩:=by simp[BR,List.range_succ]
theorem BE(l:List AB)(k:Nat)(b:Bool):(BV l k b).length=l.length:=by simp[BV]
theorem Gr(l:List AB)(k:Nat)(a:Ar):(BL l k a).length=l.length:=by simp[BL]
structure TI(L:List (List Int))(s:TS)(c:Nat):Prop where
 pos:0<s.out.length
 len:s.out.length≤c
 at_:s.at_.length=L.length
 ats:∀i,i<L.length→0≤s.at_[i]!∧s.at_[i]! <s.out.length
 vals:∀p∈s.m,0≤p.2∧p.2<s.out.length
 C7:U3 s.m
 arcs:∀k:Nat,(s.out[k]!).arcs.length≤c
theorem Cn(l:List AB)(k:Nat)(b:Bool)(j:Nat):((BV l k b)[j]!).arcs=(l[j]!).arcs:=by
 unfold BV;by_cases h:k<l.length
 ·rw[Av h];split
  ·rename_i e;subst e;rfl
  ·rfl
 ·rw[List.set_eq_of_length_le (by omega)]
theorem MF(l:List AB)(k:Nat)(a:Ar)(j:Nat):((BL l k a)[j]!).arcs.length≤(l[j]!).arcs.length+1:=by
 unfold BL;by_cases h:k<l.length
 ·rw[Av h];split
  ·rename_i e;subst e;simp
  ·omega
 ·rw[List.set_eq_of_length_le (by omega)];omega
theorem JY(l:List AB)(j:Nat):((l++[⟨false,[]⟩])[j]!).arcs.length≤(l[j]!).arcs.length:=by
 simp only[List.getElem!_eq_getElem?_getD,List.getElem?_append];split
 ·exact Nat.le_refl _
 ·rename_i h;rw[List.getElem?_eq_none (l:=l) (by omega)];cases hq:[(⟨false,[]⟩:AB)][j-l.length]? with
  |none=>simp
  |some x =>
   have:=List.mem_of_getElem? hq;simp at this;subst this;simp
theorem NV{L:List (List Int)}{n i c:Nat}{s:TS}(hL:∀w∈L,∀z∈w,-9223372036854775808≤z∧z≤9223372036854775807)(hi:i<L.length)(hc:c≤1000000)(h:TI L s c):TI L (EV L n i s) (c+1):=by
 obtain⟨h1,h2,h3,h4,h5,h6,h7⟩:=h;unfold EV;split
 ·rename_i hn;have hz : -9223372036854775808≤(L[i]!)[n]!∧(L[i]!)[n]!≤9223372036854775807:=by
   rw[getElem!_pos (L[i]!) n hn];exact hL (L[i]!) (by rw[getElem!_pos L i hi];exact List.getElem_mem hi) _ (List.getElem_mem hn)
  have hat:=h4 i hi;split
  ·rename_i to hto;have hv:=h5 _ (MC hto);simp only at hv;refine⟨by rw[BE];exact h1,by rw[BE];omega,by simp[h3],fun j hj=>?_,fun p hp=>by rw[BE];exact h5 p hp,h6,fun k=>by rw[Cn];have:=h7 k;omega⟩;rw[BE];simp only;rw[Av (by rw[h3];exact hi)];split
   ·exact hv
   ·exact h4 j hj
  ·rename_i hto;have el:(BV (BL (s.out++[⟨false,[]⟩]) (s.at_[i]!).toNat ⟨(L[i]!)[n]!,s.out.length⟩) s.out.length (decide (n+1=(L[i]!).length))).length=s.out.length+1:=by rw[BE,Gr];simp
   refine⟨by rw[el];omega,by rw[el];omega,by simp[h3],fun j hj=>?_,fun p hp=>?_,⟨fun p hp=>?_,?_⟩,fun k=>?_⟩
   ·rw[el];simp only;rw[Av (by rw[h3];exact hi)];split
    ·omega
    ·have:=h4 j hj;omega
   ·rw[el];simp only[List.mem_append,List.mem_singleton]at hp;rcases hp with hp|hp
    ·have:=h5 p hp;omega
    ·subst hp;simp only;omega
   ·simp only[List.mem_append,List.mem_singleton]at hp;rcases hp with hp|hp
    ·exact h6.1 p hp
    ·subst hp;exact⟨hz,by show _≤s.at_[i]!;omega,by show s.at_[i]!≤_;omega⟩
   ·simp only[List.map_append,List.map_cons,List.map_nil];rw[List.nodup_append];refine⟨h6.2,by simp,fun a ha b hb=>?_⟩;simp only[List.mem_singleton]at hb;subst hb;exact fun e=>OI hto (e▸ha)
   ·rw[Cn];have q1:=MF (s.out++[⟨false,[]⟩]) (s.at_[i]!).toNat ⟨(L[i]!)[n]!,s.out.length⟩ k;have q2:=JY s.out k;have q3:=h7 k;omega
 ·exact⟨h1,by omega,h3,h4,h5,h6,fun k=>by have:=h7 k;omega⟩
theorem Ix{L:List (List Int)}{n c:Nat}{s:TS}(hL:∀w∈L,∀z∈w,-9223372036854775808≤z∧z≤9223372036854775807)(h:TI L s c):∀i,i≤L.length→c+i≤1000000→TI L (CJ L n i s) (c+i):=by
 intro i;induction i with
 |zero=>intro _ _;simpa[CJ]using h
 |succ i ih =>
  intro hi hc;rw[F6];have:=NV (n:=n) (i:=i) hL (by omega) (by omega) (ih (by omega) (by omega));rw[Nat.add_assoc]at this;exact this
theorem LC{L:List (List Int)}(hL:∀w∈L,∀z∈w,-9223372036854775808≤z∧z≤9223372036854775807)(hl:L.length≤300):∀n,n≤20→TI L ⟨(BR L n).out,(BR L n).at_,[]⟩ (1+n * L.length):=by
 intro n;induction n with
 |zero =>
  intro _;refine⟨by simp[BR],by simp[BR],by simp[BR],fun i hi=>?_,fun p hp=>by simp at hp,⟨fun p hp=>by simp at hp,by simp⟩,fun k=>?_⟩;rotate_left
  ·cases k with
   |zero=>simp[BR,List.getElem!_eq_getElem?_getD]
   |succ k =>
    simp only[BR,List.range_zero,List.foldl_nil,List.getElem!_eq_getElem?_getD,List.getElem?_cons_succ,List.getElem?_nil,Option.getD_none];exact Nat.zero_le _
  simp only[BR,List.range_zero,List.foldl_nil];rw[getElem!_pos _ i (by simpa using hi)];simp
 |succ n ih =>
  intro hn;have hb:n * L.length≤20 * 300:=Nat.mul_le_mul (by omega) hl;have:=Ix (n:=n) hL (ih (by omega)) L.length (Nat.le_refl _) (by omega);rw[← Hc]at this;obtain⟨h1,h2,h3,h4,h5,h6,h7⟩:=this;exact⟨h1,by rw[Nat.add_mul];simp only at h2 ⊢;omega,h3,h4,fun p hp=>by simp at hp,⟨fun p hp=>by simp at hp,by simp⟩,fun k=>by rw[Nat.add_mul];have:=h7 k;simp only at this ⊢;omega⟩
end Go.Eng.Tryz

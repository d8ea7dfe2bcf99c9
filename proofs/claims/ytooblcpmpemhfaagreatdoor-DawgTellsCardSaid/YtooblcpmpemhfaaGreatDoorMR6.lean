/- The automaton that has a state for each beginning of words: the walk. (and what stands behind it: texts laid together) -/
import Derived.Test.YtooblcpmpemhfaaGreatDoorMG4
import Derived.Test.YtooblcpmpemhfaaGreatDoorMR5
set_option linter.unusedVariables false
set_option linter.unusedSimpArgs false
open Go Go.Eng Go.Proofs Go.RowKit
set_option maxHeartbeats 32000000
set_option maxRecDepth 100000
namespace Go.Eng.Tryz
def TA:Tb:=⟨84,2,1,86,2⟩
theorem Hd{l:List AB}{i:Nat}(h:i<l.length):(AH l).getD i .nils= .agg [.bool (l[i]!).final,.sl 2 (Gu (l[i]!).arcs)]:=by
 rw[List.getD_eq_getElem?_getD,AD h];rfl
theorem ID{l:List AB}{i:Nat}{b:Bool}{as_:List Ar}:(AH l).set i (.agg [.bool b,.sl 2 (Gu as_)])=AH (l.set i ⟨b,as_⟩):=by simp[AH,MO,List.map_set]
theorem NX{l:List AB}:AH l++[.agg [.bool false,.sl 2 []]]=AH (l++[⟨false,[]⟩]):=by simp[AH,MO,Gu]
theorem Ji{l:List Ar}{s t:Int}:Gu l++[.agg [.int .i64 s,.int .i64 t]]=Gu (l++[⟨s,t⟩]):=by simp[Gu,ar]
theorem Sr{l:List Int}{i:Nat}{z:Int}:(is l).set i (.int .i64 z)=is (l.set i z):=by simp[is,List.map_set]
theorem RW{n:Nat}{x:Int}:List.replicate n (D.int .i64 x)=is (List.replicate n x):=by simp[is]
attribute [local go_sem] Aq As AK AO AU AW AG AD Hd ID NX Ji Sr RW TA
theorem Rk{n k:Nat}:(((n:Int)+1)==(k:Int))=decide (n+1=k):=by
 by_cases h:n+1=k
 ·rw[decide_eq_true h,beq_iff_eq];omega
 ·rw[decide_eq_false h,beq_eq_false_iff_ne];omega
theorem T1{L:List (List Int)}{bs:D}(hlen:L.length≤300)(hw:∀w∈L,w.length≤20∧∀z∈w,-9223372036854775808≤z∧z≤9223372036854775807)(hW:A1 Tryz.prog 33 [.sl 1 (AZ L)] (.tup [bs,.int .i64 0])) :
 A1 Tryz.prog 53 [.sl 1 (AZ L)] (.tup [.sl 2 (AH (Ap L)),.int .i64 0]):=by
 have hL:∀w∈L,∀z∈w,-9223372036854775808≤z∧z≤9223372036854775807:=fun w h=>(hw w h).2;have e0:[D.agg [.bool false,.sl 2 []]]=AH [⟨false,[]⟩]:=rfl;have en:[D.agg [.bool false,.nils]].all TA.nilAt=true:=rfl;refine A1.run (N:=111) Tryz.func53 rfl (by kernel_rfl) rfl rfl rfl (by exact Ab) fun X_ w_=>?_;have c0_:=hW;repeat ((fail_if_success (with_reducible show WP _ _ (.region 5 _ _) _ _));first|with_reducible exact Ev.nil|with_reducible exact Jy|((with_reducible apply FZ);rfl)|((with_reducible apply C8);rfl)|((with_reducible apply DV);rfl)|with_reducible apply DY|with_reducible apply Ed|with_reducible apply D2|((with_reducible apply JR (N:=111) rfl rfl);(focus simp only[Nat.reduceAdd]<;>rfl))|((with_reducible apply JT (N:=111) mixed rfl rfl);(focus simp only[Nat.reduceAdd]<;>rfl))|((with_reducible apply JU);(focus first|(apply Ex;(focus rfl);rfl)|(apply Ey;(focus rfl);(focus rfl);rfl)))|((with_reducible apply G6);(focus first|(apply Ex;(focus rfl);rfl)|(apply Ey;(focus rfl);(focus rfl);rfl)))|with_reducible apply Jx|with_reducible apply Gc|with_reducible apply Ge|with_reducible apply Gd|with_reducible apply Gf|((first|(with_reducible apply G7)|(with_reducible apply Eg));(focus rfl))|((first|(with_reducible apply G8)|(with_reducible apply Eh));(focus rfl))|(apply Jq;(focus simp(disch:=omega)only[go_sem]<;>rfl);(focus first|exact c0_);(focus rfl);(focus first|(simp(disch:=omega)only[go_sem]<;>rfl)|rfl))|((with_reducible apply F3);(focus simp only[Nat.reduceAdd]<;>rfl);(focus simp(disch:=omega)only[go_sem]<;>rfl))|(apply Jp;(focus rfl);(focus simp(disch:=omega)only[go_sem]<;>rfl);(focus first|exact c0_);(iterate 3 (focus first|(simp(disch:=omega)only[go_sem]<;>rfl)|rfl)))|((first|apply Gt|apply Gs);(focus simp only[Nat.reduceAdd]<;>rfl);(focus rfl);(iterate 2 (focus simp(disch:=omega)only[go_sem]<;>rfl));(first|((focus first|exact c0_);(iterate 2 (focus first|(simp(disch:=omega)only[go_sem]<;>rfl)|rfl));(focus rfl);(iterate 3 (focus first|(simp(disch:=omega)only[go_sem]<;>rfl)|rfl)))))|((first|(with_reducible apply Ga)|(with_reducible apply G9));(focus simp only[Nat.reduceAdd]<;>rfl);(focus simp(disch:=omega)only[go_sem]<;>rfl);(focus first|(simp(disch:=omega)only[go_sem]<;>rfl)|rfl))|with_reducible apply Ec|with_reducible apply Eb|with_reducible apply DX|with_reducible apply DW|with_reducible apply D1|with_reducible apply D0|with_reducible apply CZ|with_reducible apply CX rfl|with_reducible apply CV|with_reducible apply CU|with_reducible apply CT|with_reducible apply G3|with_reducible apply G2|with_reducible apply Ce|with_reducible apply D3|with_reducible apply Ee|with_reducible apply Cd|with_reducible apply Cc|((with_reducible apply JQ);(focus first|(simp(disch:=omega)only[go_sem]<;>rfl)|rfl))|((with_reducible apply JS);(focus first|(simp(disch:=omega)only[go_sem]<;>rfl)|rfl))|((with_reducible apply DZ);(focus rfl))|((with_reducible apply E3);(focus rfl);(focus rfl))|(with_reducible rfl)|((with_reducible show List.map AS _=_);simp only[List.map_cons,List.map_nil,AS,C7];rfl)|((with_reducible show By _ _=true);kernel_rfl)|((with_reducible show _=_);simp(disch:=omega)only[go_sem]<;>rfl)|((fail_if_success (with_reducible show Ev _ _ _ _ (_::_) _ _ _ _ _));(show Ev _ _ _ _ (_::_) _ _ _ _ _))|fail)
 refine Nk 6 20000 TA rfl rfl rfl rfl rfl (by decide) en (Nat.le_of_ble_eq_true rfl) e0 rfl ?_;refine Aw ?_;try exact trivial
 refine A7 (fun n:Nat=>n≤20) (fun n=>[(0,.d (.sl 1 (AZ L))),(6,.tab 20000 (BR L n).out.length),(7,.own 20003 L.length),(29,.d (.int .i64 n))]) (fun n=>[(20000,.tab TA (AH (BR L n).out) none),(20003,.row 3 1 (is (BR L n).at_))]) 30000 (fun n=>20-n) [0,6,7,29] [20000,20003] 0 (Nat.zero_le _) rfl rfl (Nat.zero_le _) (fun _ _=>rfl) (fun _ _=>rfl) fun n hn=>?_;have hI0:=LC hL hlen n hn;have hstep:=Hc L n;by_cases hn2:n<20
 ·refine Aw ?_;try exact trivial
  refine A7 (fun i:Nat=>i≤L.length) (fun i=>[(0,.d (.sl 1 (AZ L))),(6,.tab 20000 (CJ L n i ⟨(BR L n).out,(BR L n).at_,[]⟩).out.length),(7,.own 20003 L.length),(29,.d (.int .i64 n)),(8,.d (.int .i64 n)),(9,.map 32000),(33,.d (.sl 1 (AZ L))),(34,.d (.int .i64 L.length)),(35,.d (.int .i64 i))])
   (fun i=>[(20000,.tab TA (AH (CJ L n i ⟨(BR L n).out,(BR L n).at_,[]⟩).out) none),(20003,.row 3 1 (is (CJ L n i ⟨(BR L n).out,(BR L n).at_,[]⟩).at_)),(32000,.map 86 3 (Ra (CJ L n i ⟨(BR L n).out,(BR L n).at_,[]⟩).m))]) 40000 (fun i=>L.length-i) [0,6,7,29,8,9,33,34,35] [20000,20003,32000] 0 (Nat.zero_le _) rfl rfl (Nat.zero_le _) (fun _ _=>rfl) (fun _ _=>rfl) fun i hi=>?_
  have hb:n * L.length≤20 * 300:=Nat.mul_le_mul (by omega) hlen;have hI:=Ix (n:=n) hL hI0 i hi (by omega);have hst:=F6 L n i ⟨(BR L n).out,(BR L n).at_,[]⟩;generalize hs:CJ L n i ⟨(BR L n).out,(BR L n).at_,[]⟩=s at hI hst ⊢;obtain⟨h1,h2,h3,h4,h5,h6,h7⟩:=hI;obtain⟨c,hc⟩:∃c,c=1+n * L.length+i:=⟨_,rfl⟩
  rw[← hc]at h2 h7;have hc2:c≤10000:=by omega
  by_cases hi2:i<L.length
  ·have hmem:L[i]!∈L:=by rw[getElem!_pos L i hi2];exact List.getElem_mem hi2
   have hwl:=(hw _ hmem).1;by_cases hnw:n<(L[i]!).length
   ·have hz : -9223372036854775808≤(L[i]!)[n]!∧(L[i]!)[n]!≤9223372036854775807:=hL _ hmem _ (by rw[getElem!_pos (L[i]!) n hnw];exact List.getElem_mem hnw);have hat:=h4 i hi2;obtain⟨f,hf⟩:∃f:Nat,s.at_[i]! =f:=⟨_,(Int.eq_ofNat_of_zero_le hat.1).choose_spec⟩
    rw[hf]at hat
    have mk:=eq_true (SF h6 (a:=⟨(L[i]!)[n]!,f⟩) ⟨hz,by show _≤(f:Int);omega,by show(f:Int)≤_;omega⟩);have mg:=Pu s.m ⟨(L[i]!)[n]!,f⟩;have eb:=Rk (n:=n) (k:=(L[i]!).length);unfold ar at mk mg;cases hg:DL s.m ⟨(L[i]!)[n]!,f⟩with
    |some to =>
     rw[hg]at mg;simp only[Option.map_some]at mg;have hto:=h5 _ (MC hg);simp only at hto;obtain⟨t,rfl⟩:=Int.eq_ofNat_of_zero_le hto.1;have hx:EV L n i s=⟨BV s.out t (decide (n+1=(L[i]!).length)),s.at_.set i t,s.m⟩:=by
      unfold EV;rw[if_pos hnw,hf,hg];rfl
     rw[hx]at hst;have hln:=BE s.out t (decide (n+1=(L[i]!).length));unfold BV at hst hln;cases hfin:(s.out[t]!).final
     ·rw[hfin,Bool.false_or]at hst hln;refine AI (And.intro @h3 (And.intro @hf (And.intro @mk (And.intro @mg (And.intro @hfin @eb))))) ?_;try exact trivial
      refine⟨i+1,by omega,?_,?_,by omega⟩
      ·simp(disch:=omega)only[go_sem,A2,Int.natCast_add,Int.cast_ofNat_Int,hst,hln]
      ·simp(disch:=omega)only[go_sem,A2,hst]
     ·rw[hfin,Bool.true_or]at hst hln;refine AI (And.intro @h3 (And.intro @hf (And.intro @mk (And.intro @mg (And.intro @hfin @eb))))) ?_;try exact trivial
      refine⟨i+1,by omega,?_,?_,by omega⟩
      ·simp(disch:=omega)only[go_sem,A2,Int.natCast_add,Int.cast_ofNat_Int,hst,hln]
      ·simp(disch:=omega)only[go_sem,A2,hst]
    |none =>
     rw[hg]at mg;simp only[Option.map_none]at mg;have mp:=Pr (z:=s.out.length) hg;unfold ar at mp;have hx:EV L n i s=⟨BV (BL (s.out++[⟨false,[]⟩]) f ⟨(L[i]!)[n]!,s.out.length⟩) s.out.length (decide (n+1=(L[i]!).length)),s.at_.set i s.out.length,s.m++[((⟨(L[i]!)[n]!,f⟩:Ar),(s.out.length:Int))]⟩:=by
      unfold EV;rw[if_pos hnw,hf,hg];rfl
     rw[hx]at hst;have hff:f<s.out.length:=by omega
     have hl1:(s.out++[(⟨false,[]⟩:AB)]).length=s.out.length+1:=by simp
     have hl2:=Gr (s.out++[⟨false,[]⟩]) f ⟨(L[i]!)[n]!,s.out.length⟩;have hl3:=BE (BL (s.out++[⟨false,[]⟩]) f ⟨(L[i]!)[n]!,s.out.length⟩) s.out.length (decide (n+1=(L[i]!).length));have ha1:=JY s.out f;have ha2:=h7 f;have hfin:((BL (s.out++[⟨false,[]⟩]) f ⟨(L[i]!)[n]!,s.out.length⟩)[s.out.length]!).final=false:=by
      unfold BL;rw[Av (by rw[hl1];omega),if_neg (by omega)];simp[List.getElem!_eq_getElem?_getD]
     unfold BV at hst hl3;rw[hfin,Bool.false_or]at hst hl3;unfold BL at hst hl2 hl3 hfin;rw[hl1]at hl2;rw[hl2]at hl3;generalize ho1:s.out++[(⟨false,[]⟩:AB)]=o1 at hst hl1 hl2 hl3 ha1 hfin;refine AI (And.intro @h3 (And.intro @hf (And.intro @mk (And.intro @mg (And.intro @mp (And.intro @ho1 (And.intro @hl1 (And.intro @hl2 (And.intro @hfin @eb))))))))) ?_;try exact trivial
     refine⟨i+1,by omega,?_,?_,by omega⟩
     ·simp(disch:=omega)only[go_sem,A2,Int.natCast_add,Int.cast_ofNat_Int,hst,hl2,hl3]
     ·simp(disch:=omega)only[go_sem,A2,hst]
   ·have hx:EV L n i s=s:=by unfold EV;rw[if_neg hnw]
    rw[hx]at hst;refine Aw ?_;try exact trivial
    refine⟨i+1,by omega,?_,?_,by omega⟩
    ·simp(disch:=omega)only[go_sem,A2,Int.natCast_add,Int.cast_ofNat_Int,hst]
    ·simp(disch:=omega)only[go_sem,A2,hst]
  ·have hil:i=L.length:=by omega
   subst hil;rw[hs]at hstep;refine Aw ?_;try exact trivial
   refine⟨n+1,by omega,?_,?_,by omega⟩
   ·simp(disch:=omega)only[go_sem,A2,Int.natCast_add,Int.cast_ofNat_Int,hstep]
   ·simp(disch:=omega)only[go_sem,A2,hstep]
 have hne:n=20:=by omega
 subst hne;rw[show Ap L=(BR L 20).out from rfl];refine Aw ?_;try exact trivial
end Go.Eng.Tryz
namespace Go.Eng.Tryz
attribute [local go_sem] Aq As AK AO Bz DS D9 DT
def F0(l:List (List Int)):Int:=if 300<l.length then 81 else if l.all BC&&Qv l then 0 else 90
theorem C1{w:List Int}(h:BC w=true):0<w.length∧w.length≤20∧w.all BN=true:=by
 simp only[BC,Bool.and_eq_true,decide_eq_true_eq]at h;refine⟨h.1.1.1,h.1.1.2,List.all_eq_true.2 fun z hz=>?_⟩;have h2:=h.2;simp only[Bool.not_eq_true',List.any_eq_false]at h2;have:=h2 z hz;unfold EB at this;cases hg:BN z
 ·rw[hg]at this;simp at this
 ·rfl
theorem QL{l:List (List Int)}(h:300<l.length)(hok:BY l):A1 Tryz.prog 33 [.sl 1 (AZ l)] (.tup [.nils,.int .i64 81]):=by
 refine A1.run (N:=46) Tryz.func33 rfl (by kernel_rfl) rfl rfl rfl (by exact Ab) fun X_ w_=>?_;refine Aw ?_;try exact trivial
theorem QM{l:List (List Int)}(h:l.length≤300)(hok:BY l)(hf:l.all BC=false):A1 Tryz.prog 33 [.sl 1 (AZ l)] (.tup [.nils,.int .i64 90]):=by
 have c1:=FG (p:=fun w => !BC w) (g:=81) (fun w hw=>KM hw) hok;rw[Ls,hf]at c1;have h3:¬300<l.length:=by omega
 refine A1.run (N:=46) Tryz.func33 rfl (by kernel_rfl) rfl rfl rfl (by exact Ab) fun X_ w_=>?_;have c0_:=c1;refine Aw ?_;try exact trivial
theorem QK{l:List (List Int)}(h:l.length≤300)(h0:0<l.length)(hok:BY l)(hf:l.all BC=true)(hs:¬CF l):A1 Tryz.prog 33 [.sl 1 (AZ l)] (.tup [.nils,.int .i64 90]):=by
 have hw20:∀w∈l,w.length≤1000000:=fun w hw=>by have:=C1 (List.all_eq_true.1 hf w hw);omega
 have c1:=FG (p:=fun w => !BC w) (g:=81) (fun w hw=>KM hw) hok;rw[Ls,hf]at c1;have h3:¬300<l.length:=by omega
 rcases S3 hw20 (by omega) h0 with⟨g1,c2⟩|⟨g1,L,g2,c2⟩
 ·have hsl:=HI l;have hd:∃d,d+1<l.length∧Aj (l[d+1]!) (l[d]!)<0:=by
   refine Classical.byContradiction fun hn=>hs ?_;have hord:∀d,d+1<l.length→¬Aj (l[d+1]!) (l[d]!)<0:=fun d hd hc=>hn ⟨d,hd,hc⟩;have hp:l.Pairwise (fun a b=>¬Aj b a<0):=by
    rw[List.pairwise_iff_getElem];intro i j hi hj hij;have h2:∀d,i+d<l.length→¬Aj (l[i+d]!) (l[i]!)<0:=fun d=>by
     induction d with
     |zero=>intro _;exact B0 _
     |succ d ih =>
      intro hd;have a1:=ih (by omega);have a2:=hord (i+d) (by omega);have b1:=Ao (l[i]!) (l[i+d]!);have b2:=Ao (l[i+d]!) (l[i+d+1]!);have b3:=Ao (l[i]!) (l[i+d+1]!);have:=Bu (l[i]!) (l[i+d]!) (l[i+d+1]!) (by omega) (by omega);rw[show i+(d+1)=i+d+1 by omega];omega
    have:=h2 (j-i) (by omega);rw[show i+(j-i)=j by omega,getElem!_pos l i hi,getElem!_pos l j hj]at this;exact this
   refine P0 hp fun j hj e=>?_;have h5:(C0 l).Nodup:=g1.imp fun{a b} h1 e=>by rw[e]at h1;exact B0 _ h1
   have h6:l.Nodup:=(Df l).nodup_iff.1 h5;rw[getElem!_pos l j (by omega),getElem!_pos l (j+1) hj]at e;have:=(List.getElem_inj h6).1 e;omega
  obtain⟨d,d1,d2⟩:=hd;have c3:=MW hok d1 d2;refine A1.run (N:=46) Tryz.func33 rfl (by kernel_rfl) rfl rfl rfl (by exact Ab) fun X_ w_=>?_;have c0_:=c1;have c1_:=c2;have c2_:=c3;refine AI @hsl ?_;try exact trivial
 ·have hne:¬((L.length:Int)=(l.length:Int)):=by omega
  have hbe:((L.length:Int) !=(l.length:Int))=true:=by simp;omega
  refine A1.run (N:=46) Tryz.func33 rfl (by kernel_rfl) rfl rfl rfl (by exact Ab) fun X_ w_=>?_;have c0_:=c1;have c1_:=c2;refine AI @hbe ?_;try exact trivial
theorem QN:A1 Tryz.prog 33 [.sl 1 (AZ [])] (.tup [.nils,.int .i64 0]):=by
 have c1:=FG (p:=fun w => !BC w) (g:=81) (fun w hw=>KM hw) (l:=[]) ⟨by decide,by simp⟩;have c2:=QQ;have c3:=K0 (l:=[]) ⟨by decide,by simp⟩ List.Pairwise.nil;simp only[AZ,List.map_nil,List.any_nil]at c1 c3 ⊢;refine A1.run (N:=46) Tryz.func33 rfl (by kernel_rfl) rfl rfl rfl (by exact Ab) fun X_ w_=>?_;have c0_:=c1;have c1_:=c2;have c2_:=c3;refine Aw ?_;try exact trivial
 refine H4 ?_;refine Aw ?_;try exact trivial
theorem QJ{l:List (List Int)}(h0:0<l.length)(h1:l.length≤300)(hf:l.all BC=true)(hs:CF l):A1 Tryz.prog 33 [.sl 1 (AZ l)] (.tup [.sl 1 (Cu (IN l)),.int .i64 0]):=by
 have hw20:∀w∈l,w.length≤20:=fun w hw=>(C1 (List.all_eq_true.1 hf w hw)).2.1;have hok:BY l:=⟨by omega,fun w hw=>Nat.le_trans (hw20 w hw) (by decide)⟩
 have c1:=FG (p:=fun w => !BC w) (g:=81) (fun w hw=>KM hw) hok;rw[Ls,hf]at c1;have c2:=QO (fun w hw=>Nat.le_trans (hw20 w hw) (by decide)) (by omega) h0 hs;have c3:=K0 hok hs;refine A1.run (N:=46) Tryz.func33 rfl (by kernel_rfl) rfl rfl rfl (by exact Ab) fun X_ w_=>?_;have c0_:=c1;have c1_:=c2;have c2_:=c3;repeat ((fail_if_success (with_reducible show WP _ _ (.region 6 _ _) _ _));first|with_reducible exact Ev.nil|with_reducible exact Jy|((with_reducible apply FZ);rfl)|((with_reducible apply C8);rfl)|((with_reducible apply DV);rfl)|with_reducible apply DY|with_reducible apply Ed|with_reducible apply D2|((with_reducible apply JR (N:=46) rfl rfl);(focus simp only[Nat.reduceAdd]<;>rfl))|((with_reducible apply JT (N:=46) mixed rfl rfl);(focus simp only[Nat.reduceAdd]<;>rfl))|((with_reducible apply JU);(focus first|(apply Ex;(focus rfl);rfl)|(apply Ey;(focus rfl);(focus rfl);rfl)))|((with_reducible apply G6);(focus first|(apply Ex;(focus rfl);rfl)|(apply Ey;(focus rfl);(focus rfl);rfl)))|with_reducible apply Jx|with_reducible apply Gc|with_reducible apply Ge|with_reducible apply Gd|with_reducible apply Gf|((first|(with_reducible apply G7)|(with_reducible apply Eg));(focus rfl))|((first|(with_reducible apply G8)|(with_reducible apply Eh));(focus rfl))|(apply Jq;(focus simp(disch:=omega)only[go_sem]<;>rfl);(focus first|exact c0_|exact c1_|exact c2_);(focus rfl);(focus first|(simp(disch:=omega)only[go_sem]<;>rfl)|rfl))|((with_reducible apply F3);(focus simp only[Nat.reduceAdd]<;>rfl);(focus simp(disch:=omega)only[go_sem]<;>rfl))|(apply Jp;(focus rfl);(focus simp(disch:=omega)only[go_sem]<;>rfl);(focus first|exact c0_|exact c1_|exact c2_);(iterate 3 (focus first|(simp(disch:=omega)only[go_sem]<;>rfl)|rfl)))|((first|apply Gt|apply Gs);(focus simp only[Nat.reduceAdd]<;>rfl);(focus rfl);(iterate 2 (focus simp(disch:=omega)only[go_sem]<;>rfl));(first|((focus first|exact c0_|exact c1_|exact c2_);(iterate 2 (focus first|(simp(disch:=omega)only[go_sem]<;>rfl)|rfl));(focus rfl);(iterate 3 (focus first|(simp(disch:=omega)only[go_sem]<;>rfl)|rfl)))))|((first|(with_reducible apply Ga)|(with_reducible apply G9));(focus simp only[Nat.reduceAdd]<;>rfl);(focus simp(disch:=omega)only[go_sem]<;>rfl);(focus first|(simp(disch:=omega)only[go_sem]<;>rfl)|rfl))|with_reducible apply Ec|with_reducible apply Eb|with_reducible apply DX|with_reducible apply DW|with_reducible apply D1|with_reducible apply D0|with_reducible apply CZ|with_reducible apply CX rfl|with_reducible apply CV|with_reducible apply CU|with_reducible apply CT|with_reducible apply G3|with_reducible apply G2|with_reducible apply Ce|with_reducible apply D3|with_reducible apply Ee|with_reducible apply Cd|with_reducible apply Cc|((with_reducible apply JQ);(focus first|(simp(disch:=omega)only[go_sem]<;>rfl)|rfl))|((with_reducible apply JS);(focus first|(simp(disch:=omega)only[go_sem]<;>rfl)|rfl))|((with_reducible apply DZ);(focus rfl))|((with_reducible apply E3);(focus rfl);(focus rfl))|(with_reducible rfl)|((with_reducible show List.map AS _=_);simp only[List.map_cons,List.map_nil,AS,C7];rfl)|((with_reducible show By _ _=true);kernel_rfl)|((with_reducible show _=_);simp(disch:=omega)only[go_sem]<;>rfl)|((fail_if_success (with_reducible show Ev _ _ _ _ (_::_) _ _ _ _ _));(show Ev _ _ _ _ (_::_) _ _ _ _ _))|fail)
 refine DJ 2 9000 5 1 rfl (by decide) (Nat.le_of_ble_eq_true rfl) ?_;refine Aw ?_;try exact trivial
 refine A7 (fun k:Nat=>k≤l.length) (fun k=>[(2,.own 9000 (IN (l.take k)).length),(28,.d (.sl 1 (AZ l))),(29,.d (.int .i64 l.length)),(30,.d (.int .i64 k))]) (fun k=>[(9000,.row 5 1 (Cu (IN (l.take k))))]) 9001 (fun k=>l.length-k) [2,28,29,30] [9000] 0 (Nat.zero_le _) rfl rfl (Nat.zero_le _) (fun _ _=>rfl) (fun _ _=>rfl) fun k hk=>?_;have hbl:=Py (l.take k) fun w hw=>hw20 w (List.mem_of_mem_take hw);have hkl:(l.take k).length=k:=by simp;omega
 by_cases hk3:k<l.length
 ·have hmem:l[k]!∈l:=by rw[getElem!_pos l k hk3];exact List.getElem_mem hk3
  have hk20:=hw20 _ hmem;have hwl:=Iv (l[k]!);have cp:=T3 (w:=l[k]!) (C1 (List.all_eq_true.1 hf _ hmem)).2.2 (by omega);have hst:IN (l.take (k+1))=IN (l.take k)++Gg (l[k]!)++[10]:=by rw[Ak hk3,Oe]
  have c0_:=cp;refine Aw ?_;try exact trivial
  refine⟨k+1,by omega,?_,?_,by omega⟩
  ·simp(disch:=omega)only[go_sem,A2,Int.natCast_add,Int.cast_ofNat_Int,hst,List.length_append,List.length_cons,List.length_nil]
  ·simp(disch:=omega)only[go_sem,A2,hst,List.append_assoc,List.length_append,List.length_cons,List.length_nil]
 ·have hke:k=l.length:=by omega
  subst hke;rw[List.take_length];refine Aw ?_;try exact trivial
theorem S0{l:List (List Int)}(hok:BY l):∃bs,A1 Tryz.prog 33 [.sl 1 (AZ l)] (.tup [bs,.int .i64 (F0 l)]):=by
 unfold F0;by_cases h:300<l.length
 ·rw[if_pos h];exact⟨_,QL h hok⟩
 rw[if_neg h];cases hf:l.all BC
 ·exact⟨_,QM (by omega) hok hf⟩
 cases hs:Qv l
 ·have h0:0<l.length:=by
   cases l with
   |nil=>exact absurd hs (by decide)
   |cons a t=>simp
  exact⟨_,QK (by omega) h0 hok hf (fun h=>by rw[F8.2 h]at hs;cases hs)⟩
 ·by_cases h0:0<l.length
  ·exact⟨_,QJ h0 (by omega) hf (F8.1 hs)⟩
  ·have:l=[]:=by cases l with
    |nil=>rfl
    |cons a t=>simp at h0
   subst this;exact⟨_,QN⟩
theorem H9{l:List (List Int)}(h:F0 l=0):l.length≤300∧l.all BC=true∧CF l:=by
 unfold F0 at h;split at h
 ·cases h
 ·rename_i h1;split at h
  ·rename_i h2;rw[Bool.and_eq_true]at h2;exact⟨by omega,h2.1,F8.1 h2.2⟩
  ·cases h
theorem RM{l:List (List Int)}(h1:l.length≤300)(h2:l.all BC=true)(h3:CF l):F0 l=0:=by
 unfold F0;rw[if_neg (by omega),h2,F8.2 h3];rfl
theorem Lw(l:List (List Int)):F0 l=0∨F0 l=81∨F0 l=90:=by
 unfold F0;split
 ·exact .inr (.inl rfl)
 ·split
  ·exact .inl rfl
  ·exact .inr (.inr rfl)
def Iy(l:List (List Int)):D:=if F0 l=0 then .tup [.sl 2 (AH (Ap l)),.int .i64 0]else .tup [.nils,.int .i64 (F0 l)]
theorem Pe{l:List (List Int)}(hok:BY l):A1 Tryz.prog 53 [.sl 1 (AZ l)] (Iy l):=by
 obtain⟨bs,cw⟩:=S0 hok;unfold Iy;by_cases h:F0 l=0
 ·rw[if_pos h];rw[h]at cw;obtain⟨h1,h2,h3⟩:=H9 h;refine T1 h1 (fun w hw=>?_) cw;obtain⟨_,g2,g3⟩:=C1 (List.all_eq_true.1 h2 w hw);refine⟨g2,fun z hz=>?_⟩;have:=of_decide_eq_true (List.all_eq_true.1 g3 z hz);omega
 ·rw[if_neg h];rcases Lw l with e|e|e
  ·exact absurd e h
  ·rw[e]at cw ⊢;refine A1.run (N:=111) Tryz.func53 rfl (by kernel_rfl) rfl rfl rfl (by exact Ab) fun X_ w_=>?_;have c0_:=cw;refine Aw ?_;try exact trivial
  ·rw[e]at cw ⊢;refine A1.run (N:=111) Tryz.func53 rfl (by kernel_rfl) rfl rfl rfl (by exact Ab) fun X_ w_=>?_;have c0_:=cw;refine Aw ?_;try exact trivial
end Go.Eng.Tryz

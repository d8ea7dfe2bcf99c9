/- The automaton that has a state for each beginning of words: what is done, plainly. (and what stands behind it: texts laid together) -/
import Derived.Test.YtooblcpmpemhfaaGreatDoorMR10
import Derived.Test.YtooblcpmpemhfaaGreatDoorMR2
import Derived.Test.YtooblcpmpemhfaaGreatDoorMG4
import Derived.Shelf.SlSortCmp.WholeK
import Derived.Shelf.SlGeneric
import Derived.Ground.SlsfProg
import Derived.Test.YtooblcpmpemhfaaGreatDoorProg
import Derived.Test.YtooblcpmpemhfaaGreatDoorMH1
set_option linter.unusedVariables false
set_option linter.unusedSimpArgs false
open Go Go.Eng Go.Proofs Go.RowKit
set_option maxHeartbeats 32000000
set_option maxRecDepth 100000
namespace Go.Eng.Tryz
open Go.Maps (Keyed)
theorem Vb:Keyed Tryz.prog 86:=Keyed.of_law (deep_law_gate (by kernel_rfl) (of_decide_eq_true (by kernel_rfl)) (of_decide_eq_true (by kernel_rfl)) (by kernel_rfl) (by rw[Tryz.underlying86]))
theorem Sm{a b:Ar}(h:ar a=ar b):a=b:=by
 unfold ar at h;simp only[D.agg.injEq,List.cons.injEq,D.int.injEq,true_and,and_true]at h;cases a;cases b;simp only at h;rw[h.1,h.2]
theorem ZI:Tryz.prog.cellsOf 86=2:=by kernel_rfl
def Ar.fits(a:Ar):Prop:=(-9223372036854775808≤a.sign∧a.sign≤9223372036854775807)∧(-9223372036854775808≤a.to∧a.to≤9223372036854775807)
theorem ba{d:Nat}{a:Ar}(h:a.fits):Tryz.prog.keyLits (d+2) 86 [.int .i64 a.sign,.int .i64 a.to]=some [.int .i64 a.sign,.int .i64 a.to]:=by
 unfold Program.keyLits;rw[Tryz.underlying86];simp[List.mapM_cons,ZI,eJ,G3 h.1,G3 h.2]
theorem Rw{a:Ar}(h:a.fits):NT Tryz.prog 86 (ar a):=by
 obtain⟨d,hd⟩:=MH;refine⟨L5 (l:=[a.sign,a.to]),_,.string (keyBytes [.int .i64 a.sign,.int .i64 a.to]),fun w M=>Nz (l:=[a.sign,a.to]),?_⟩;unfold keyOf;rw[Tryz.underlying86];have hk:Tryz.prog.keyType 86=true:=by kernel_rfl
 have hf:(Value.agg (([a.sign,a.to]).map fun z=>Value.int .i64 z).toArray).formed Tryz.prog 86=true:=by
  simp[Value.formed,Tryz.underlying86,ZI]
 simp only[hk,hf,Bool.and_self,if_true,hd];have:=ba (d:=d+2) h;simp only[Value.cells,List.map_cons,List.map_nil];rw[this];rfl
def Ys(m:List (Ar×Int)):List (D×D):=m.map fun p=>(ar p.1,.int .i64 p.2)
def eH(m:List (Ar×Int)):Prop:=(∀p∈m,p.1.fits)∧(m.map (·.1)).Nodup
theorem UU{m:List (Ar×Int)}(h:eH m):((Ys m).map (·.1)).Nodup:=by
 unfold Ys;rw[List.map_map,List.Nodup,List.pairwise_map];have:=h.2;rw[List.Nodup,List.pairwise_map]at this;exact this.imp fun hn he=>hn (Sm he)
theorem aN{m:List (Ar×Int)}(h:eH m){a:Ar}(ha:a.fits):Oj Tryz.prog 86 (Ys m) (ar a):=by
 refine⟨Vb,Rw ha,fun p hp=>?_,UU h⟩;obtain⟨r,hr,rfl⟩:=List.mem_map.1 hp;exact Rw (h.1 r hr)
def Ge:List (Ar×Int)→Ar→Option Int
 | [],_=>none
 |x::t,a=>if x.1=a then some x.2 else Ge t a
theorem WN(m:List (Ar×Int))(a:Ar):LT (Ys m) (ar a)=(Ge m a).map (D.int .i64):=by
 induction m with
 |nil=>rfl
 |cons x t ih =>
  simp only[Ys,List.map_cons,LT,Ge];by_cases hx:x.1=a
  ·rw[if_pos hx,if_pos (by rw[hx])];rfl
  ·rw[if_neg hx,if_neg (fun e=>hx (Sm e))];exact ih
theorem WQ{m:List (Ar×Int)}{a:Ar}{z:Int}(h:Ge m a=none):GA (Ys m) (ar a) (.int .i64 z)=Ys (m++[(a,z)]):=by
 induction m with
 |nil=>rfl
 |cons x t ih =>
  simp only[Ge]at h;split at h
  ·cases h
  ·rename_i hx;simp only[Ys,List.map_cons,GA,List.cons_append];rw[if_neg (fun e=>hx (Sm e))];exact congrArg _ (ih h)
theorem QC{m:List (Ar×Int)}{a:Ar}{z:Int}(h:Ge m a=some z):(a,z)∈m:=by
 induction m with
 |nil=>cases h
 |cons x t ih =>
  simp only[Ge]at h;split at h
  ·rename_i hx;cases h;subst hx;simp
  ·exact List.mem_cons_of_mem _ (ih h)
theorem UD{m:List (Ar×Int)}{a:Ar}(h:Ge m a=none):a∉m.map (·.1):=by
 induction m with
 |nil=>simp
 |cons x t ih =>
  simp only[Ge]at h;split at h
  ·cases h
  ·rename_i hx;simp only[List.map_cons,List.mem_cons,not_or];exact⟨fun e=>hx e.symm,ih h⟩
theorem Bw{α:Type}[Inhabited α]{l:List α}{i j:Nat}{v:α}(h:i<l.length):(l.set i v)[j]! =if j=i then v else l[j]! :=by
 simp only[List.getElem!_eq_getElem?_getD,List.getElem?_set];by_cases e:j=i
 ·subst e;simp[h]
 ·rw[if_neg (fun x=>e x.symm),if_neg e]
structure TS where
 out:List Ak
 at_:List Int
 m:List (Ar×Int)
def DG(l:List Ak)(k:Nat)(b:Bool):List Ak:=l.set k ⟨(l[k]!).final||b,(l[k]!).arcs⟩
def Df(l:List Ak)(k:Nat)(a:Ar):List Ak:=l.set k ⟨(l[k]!).final,(l[k]!).arcs++[a]⟩
def HU(L:List (List Int))(n i:Nat)(s:TS):TS :=
 if n<(L[i]!).length then
  match Ge s.m ⟨(L[i]!)[n]!,s.at_[i]!⟩with
  |some to=>⟨DG s.out to.toNat (decide (n+1=(L[i]!).length)),s.at_.set i to,s.m⟩
  |none=>⟨DG (Df (s.out++[⟨false,[]⟩]) (s.at_[i]!).toNat ⟨(L[i]!)[n]!,s.out.length⟩) s.out.length (decide (n+1=(L[i]!).length)),s.at_.set i s.out.length,s.m++[((⟨(L[i]!)[n]!,s.at_[i]!⟩:Ar),(s.out.length:Int))]⟩
 else s
def Fg(L:List (List Int))(n i:Nat)(s:TS):TS:=(List.range i).foldl (fun s i=>HU L n i s) s
def Ds(L:List (List Int))(n:Nat):TS:=(List.range n).foldl (fun s n=>Fg L n L.length ⟨s.out,s.at_,[]⟩) (⟨[⟨false,[]⟩],List.replicate L.length 0,[]⟩:TS)
def AS(L:List (List Int)):List Ak:=(Ds L 20).out
theorem Im(L:List (List Int))(n i:Nat)(s:TS):Fg L n (i+1) s=HU L n i (Fg L n i s):=by simp[Fg,List.range_succ]
theorem Lh(L:List (List Int))(n:Nat):Ds L (n+1)=Fg L n L.length ⟨(Ds L n).out,(Ds L n).at_,[]⟩:=by simp[Ds,List.range_succ]
theorem Dk(l:List Ak)(k:Nat)(b:Bool):(DG l k b).length=l.length:=by simp[DG]
theorem Jl(l:List Ak)(k:Nat)(a:Ar):(Df l k a).length=l.length:=by simp[Df]
structure TI(L:List (List Int))(s:TS)(c:Nat):Prop where
 pos:0<s.out.length
 len:s.out.length≤c
 at_:s.at_.length=L.length
 ats:∀i,i<L.length→0≤s.at_[i]!∧s.at_[i]! <s.out.length
 vals:∀p∈s.m,0≤p.2∧p.2<s.out.length
 C5:eH s.m
 arcs:∀k:Nat,(s.out[k]!).arcs.length≤c
theorem Ez(l:List Ak)(k:Nat)(b:Bool)(j:Nat):((DG l k b)[j]!).arcs=(l[j]!).arcs:=by
 unfold DG;by_cases h:k<l.length
 ·rw[Bw h];split
  ·rename_i e;subst e;rfl
  ·rfl
 ·rw[List.set_eq_of_length_le (by omega)]
theorem Qz(l:List Ak)(k:Nat)(a:Ar)(j:Nat):((Df l k a)[j]!).arcs.length≤(l[j]!).arcs.length+1:=by
 unfold Df;by_cases h:k<l.length
 ·rw[Bw h];split
  ·rename_i e;subst e;simp
  ·omega
 ·rw[List.set_eq_of_length_le (by omega)];omega
theorem OX(l:List Ak)(j:Nat):((l++[⟨false,[]⟩])[j]!).arcs.length≤(l[j]!).arcs.length:=by
 simp only[List.getElem!_eq_getElem?_getD,List.getElem?_append];split
 ·exact Nat.le_refl _
 ·rename_i h;rw[List.getElem?_eq_none (l:=l) (by omega)];cases hq:[(⟨false,[]⟩:Ak)][j-l.length]? with
  |none=>simp
  |some x =>
   have:=List.mem_of_getElem? hq;simp at this;subst this;simp
theorem VP{L:List (List Int)}{n i c:Nat}{s:TS}(hL:∀w∈L,∀z∈w,-9223372036854775808≤z∧z≤9223372036854775807)(hi:i<L.length)(hc:c≤1000000)(h:TI L s c):TI L (HU L n i s) (c+1):=by
 obtain⟨h1,h2,h3,h4,h5,h6,h7⟩:=h;unfold HU;split
 ·rename_i hn;have hz : -9223372036854775808≤(L[i]!)[n]!∧(L[i]!)[n]!≤9223372036854775807:=by
   rw[getElem!_pos (L[i]!) n hn];exact hL (L[i]!) (by rw[getElem!_pos L i hi];exact List.getElem_mem hi) _ (List.getElem_mem hn)
  have hat:=h4 i hi;split
  ·rename_i to hto;have hv:=h5 _ (QC hto);simp only at hv;refine⟨by rw[Dk];exact h1,by rw[Dk];omega,by simp[h3],fun j hj=>?_,fun p hp=>by rw[Dk];exact h5 p hp,h6,fun k=>by rw[Ez];have:=h7 k;omega⟩;rw[Dk];simp only;rw[Bw (by rw[h3];exact hi)];split
   ·exact hv
   ·exact h4 j hj
  ·rename_i hto;have el:(DG (Df (s.out++[⟨false,[]⟩]) (s.at_[i]!).toNat ⟨(L[i]!)[n]!,s.out.length⟩) s.out.length (decide (n+1=(L[i]!).length))).length=s.out.length+1:=by rw[Dk,Jl];simp
   refine⟨by rw[el];omega,by rw[el];omega,by simp[h3],fun j hj=>?_,fun p hp=>?_,⟨fun p hp=>?_,?_⟩,fun k=>?_⟩
   ·rw[el];simp only;rw[Bw (by rw[h3];exact hi)];split
    ·omega
    ·have:=h4 j hj;omega
   ·rw[el];simp only[List.mem_append,List.mem_singleton]at hp;rcases hp with hp|hp
    ·have:=h5 p hp;omega
    ·subst hp;simp only;omega
   ·simp only[List.mem_append,List.mem_singleton]at hp;rcases hp with hp|hp
    ·exact h6.1 p hp
    ·subst hp;exact⟨hz,by show _≤s.at_[i]!;omega,by show s.at_[i]!≤_;omega⟩
   ·simp only[List.map_append,List.map_cons,List.map_nil];rw[List.nodup_append];refine⟨h6.2,by simp,fun a ha b hb=>?_⟩;simp only[List.mem_singleton]at hb;subst hb;exact fun e=>UD hto (e▸ha)
   ·rw[Ez];have q1:=Qz (s.out++[⟨false,[]⟩]) (s.at_[i]!).toNat ⟨(L[i]!)[n]!,s.out.length⟩ k;have q2:=OX s.out k;have q3:=h7 k;omega
 ·exact⟨h1,by omega,h3,h4,h5,h6,fun k=>by have:=h7 k;omega⟩
theorem NN{L:List (List Int)}{n c:Nat}{s:TS}(hL:∀w∈L,∀z∈w,-9223372036854775808≤z∧z≤9223372036854775807)(h:TI L s c):∀i,i≤L.length→c+i≤1000000→TI L (Fg L n i s) (c+i):=by
 intro i;induction i with
 |zero=>intro _ _;simpa[Fg]using h
 |succ i ih =>
  intro hi hc;rw[Im];have:=VP (n:=n) (i:=i) hL (by omega) (by omega) (ih (by omega) (by omega));rw[Nat.add_assoc]at this;exact this
theorem S7{L:List (List Int)}(hL:∀w∈L,∀z∈w,-9223372036854775808≤z∧z≤9223372036854775807)(hl:L.length≤300):∀n,n≤20→TI L ⟨(Ds L n).out,(Ds L n).at_,[]⟩ (1+n * L.length):=by
 intro n;induction n with
 |zero =>
  intro _;refine⟨by simp[Ds],by simp[Ds],by simp[Ds],fun i hi=>?_,fun p hp=>by simp at hp,⟨fun p hp=>by simp at hp,by simp⟩,fun k=>?_⟩;rotate_left
  ·cases k with
   |zero=>simp[Ds,List.getElem!_eq_getElem?_getD]
   |succ k =>
    simp only[Ds,List.range_zero,List.foldl_nil,List.getElem!_eq_getElem?_getD,List.getElem?_cons_succ,List.getElem?_nil,Option.getD_none];exact Nat.zero_le _
  simp only[Ds,List.range_zero,List.foldl_nil];rw[getElem!_pos _ i (by simpa using hi)];simp
 |succ n ih =>
  intro hn;have hb:n * L.length≤20 * 300:=Nat.mul_le_mul (by omega) hl;have:=NN (n:=n) hL (ih (by omega)) L.length (Nat.le_refl _) (by omega);rw[← Lh]at this;obtain⟨h1,h2,h3,h4,h5,h6,h7⟩:=this;exact⟨h1,by rw[Nat.add_mul];simp only at h2 ⊢;omega,h3,h4,fun p hp=>by simp at hp,⟨fun p hp=>by simp at hp,by simp⟩,fun k=>by rw[Nat.add_mul];have:=h7 k;simp only at this ⊢;omega⟩
end Go.Eng.Tryz
namespace Go.Eng.Tryz
def TA:Tb:=⟨84,2,1,86,2⟩
theorem OZ{l:List Ak}{i:Nat}(h:i<l.length):(AQ l).getD i .nils= .agg [.bool (l[i]!).final,.sl 2 (IZ (l[i]!).arcs)]:=by
 rw[List.getD_eq_getElem?_getD,Ax h];rfl
theorem S0{l:List Ak}{i:Nat}{b:Bool}{as_:List Ar}:(AQ l).set i (.agg [.bool b,.sl 2 (IZ as_)])=AQ (l.set i ⟨b,as_⟩):=by simp[AQ,Tg,List.map_set]
theorem VN{l:List Ak}:AQ l++[.agg [.bool false,.sl 2 []]]=AQ (l++[⟨false,[]⟩]):=by simp[AQ,Tg,IZ]
theorem QF{l:List Ar}{s t:Int}:IZ l++[.agg [.int .i64 s,.int .i64 t]]=IZ (l++[⟨s,t⟩]):=by simp[IZ,ar]
theorem b9{l:List Int}{i:Nat}{z:Int}:(is l).set i (.int .i64 z)=is (l.set i z):=by simp[is,List.map_set]
theorem bX{n:Nat}{x:Int}:List.replicate n (D.int .i64 x)=is (List.replicate n x):=by simp[is]
attribute [local go_sem] Aq As Bb Bh AP AO Az Ax OZ S0 VN QF b9 bX TA
theorem Yh{n k:Nat}:(((n:Int)+1)==(k:Int))=decide (n+1=k):=by
 by_cases h:n+1=k
 ·rw[decide_eq_true h,beq_iff_eq];omega
 ·rw[decide_eq_false h,beq_eq_false_iff_ne];omega
theorem dN{L:List (List Int)}{bs:D}(hlen:L.length≤300)(hw:∀w∈L,w.length≤20∧∀z∈w,-9223372036854775808≤z∧z≤9223372036854775807)(hW:A3 Tryz.prog 33 [.sl 1 (CI L)] (.tup [bs,.int .i64 0])) :
 A3 Tryz.prog 53 [.sl 1 (CI L)] (.tup [.sl 2 (AQ (AS L)),.int .i64 0]):=by
 have hL:∀w∈L,∀z∈w,-9223372036854775808≤z∧z≤9223372036854775807:=fun w h=>(hw w h).2;have e0:[D.agg [.bool false,.sl 2 []]]=AQ [⟨false,[]⟩]:=rfl;have en:[D.agg [.bool false,.nils]].all TA.nilAt=true:=rfl;refine A6 111 Tryz.func53 A4 fun X_ w_=>?_;have c0_:=hW;repeat ((fail_if_success (with_reducible show WP _ _ (.region 5 _ _) _ _));first|with_reducible exact Ev.nil|with_reducible exact E2|((with_reducible apply Cw);rfl)|((with_reducible apply AJ);rfl)|((with_reducible apply BH);rfl)|with_reducible apply BE|with_reducible apply Bu|with_reducible apply B5|((with_reducible apply DX (N:=111) rfl rfl);(focus simp only[Nat.reduceAdd]<;>rfl))|((with_reducible apply DV (N:=111) mixed rfl rfl);(focus simp only[Nat.reduceAdd]<;>rfl))|((with_reducible apply DU);(focus first|(apply BK;(focus rfl);rfl)|(apply BJ;(focus rfl);(focus rfl);rfl)))|((with_reducible apply Ct);(focus first|(apply BK;(focus rfl);rfl)|(apply BJ;(focus rfl);(focus rfl);rfl)))|with_reducible apply E3|with_reducible apply Cn|with_reducible apply Ck|with_reducible apply Cm|with_reducible apply Cj|((first|(with_reducible apply Cs)|(with_reducible apply By));(focus rfl))|((first|(with_reducible apply Cr)|(with_reducible apply Bx));(focus rfl))|(apply EG;(focus simp(disch:=omega)only[go_sem]<;>rfl);(focus first|exact c0_);(focus rfl);(focus first|(simp(disch:=omega)only[go_sem]<;>rfl)|rfl))|((with_reducible apply D5);(focus simp only[Nat.reduceAdd]<;>rfl);(focus simp(disch:=omega)only[go_sem]<;>rfl))|(apply EH;(focus rfl);(focus simp(disch:=omega)only[go_sem]<;>rfl);(focus first|exact c0_);(iterate 3 (focus first|(simp(disch:=omega)only[go_sem]<;>rfl)|rfl)))|((first|apply Dc|apply Dd);(focus simp only[Nat.reduceAdd]<;>rfl);(focus rfl);(iterate 2 (focus simp(disch:=omega)only[go_sem]<;>rfl));(first|((focus first|exact c0_);(iterate 2 (focus first|(simp(disch:=omega)only[go_sem]<;>rfl)|rfl));(focus rfl);(iterate 3 (focus first|(simp(disch:=omega)only[go_sem]<;>rfl)|rfl)))))|((first|(with_reducible apply Cp)|(with_reducible apply Cq));(focus simp only[Nat.reduceAdd]<;>rfl);(focus simp(disch:=omega)only[go_sem]<;>rfl);(focus first|(simp(disch:=omega)only[go_sem]<;>rfl)|rfl))|with_reducible apply BA|with_reducible apply BB|with_reducible apply BF|with_reducible apply BG|with_reducible apply B7|with_reducible apply B8|with_reducible apply B9|with_reducible apply Ba rfl|with_reducible apply Bd|with_reducible apply Be|with_reducible apply Bf|with_reducible apply Cu|with_reducible apply Cv|with_reducible apply AG|with_reducible apply B4|with_reducible apply Bz|with_reducible apply AH|with_reducible apply AI|((with_reducible apply DY);(focus first|(simp(disch:=omega)only[go_sem]<;>rfl)|rfl))|((with_reducible apply DW);(focus first|(simp(disch:=omega)only[go_sem]<;>rfl)|rfl))|((with_reducible apply BD);(focus rfl))|((with_reducible apply BC);(focus rfl);(focus rfl))|(with_reducible rfl)|((with_reducible show List.map Ad _=_);simp only[List.map_cons,List.map_nil,Ad,C5];rfl)|((with_reducible show AM _ _=true);kernel_rfl)|((with_reducible show _=_);simp(disch:=omega)only[go_sem]<;>rfl)|((fail_if_success (with_reducible show Ev _ _ _ _ (_::_) _ _ _ _ _));(show Ev _ _ _ _ (_::_) _ _ _ _ _))|fail)
 refine Sk 6 20000 TA rfl rfl rfl rfl rfl (by decide) en (Nat.le_of_ble_eq_true rfl) e0 rfl ?_;refine Ao ?_;try exact trivial
 refine A8 (fun n:Nat=>n≤20) (fun n=>[(0,.d (.sl 1 (CI L))),(6,.tab 20000 (Ds L n).out.length),(7,.own 20003 L.length),(29,.d (.int .i64 n))]) (fun n=>[(20000,.tab TA (AQ (Ds L n).out) none),(20003,.row 3 1 (is (Ds L n).at_))]) 30000 (fun n=>20-n) [0,6,7,29] [20000,20003] 0 (Nat.zero_le _) rfl rfl (Nat.zero_le _) (fun _ _=>rfl) (fun _ _=>rfl) fun n hn=>?_;have hI0:=S7 hL hlen n hn;have hstep:=Lh L n;by_cases hn2:n<20
 ·refine Ao ?_;try exact trivial
  refine A8 (fun i:Nat=>i≤L.length) (fun i=>[(0,.d (.sl 1 (CI L))),(6,.tab 20000 (Fg L n i ⟨(Ds L n).out,(Ds L n).at_,[]⟩).out.length),(7,.own 20003 L.length),(29,.d (.int .i64 n)),(8,.d (.int .i64 n)),(9,.map 32000),(33,.d (.sl 1 (CI L))),(34,.d (.int .i64 L.length)),(35,.d (.int .i64 i))])
   (fun i=>[(20000,.tab TA (AQ (Fg L n i ⟨(Ds L n).out,(Ds L n).at_,[]⟩).out) none),(20003,.row 3 1 (is (Fg L n i ⟨(Ds L n).out,(Ds L n).at_,[]⟩).at_)),(32000,.map 86 3 (Ys (Fg L n i ⟨(Ds L n).out,(Ds L n).at_,[]⟩).m))]) 40000 (fun i=>L.length-i) [0,6,7,29,8,9,33,34,35] [20000,20003,32000] 0 (Nat.zero_le _) rfl rfl (Nat.zero_le _) (fun _ _=>rfl) (fun _ _=>rfl) fun i hi=>?_
  have hb:n * L.length≤20 * 300:=Nat.mul_le_mul (by omega) hlen;have hI:=NN (n:=n) hL hI0 i hi (by omega);have hst:=Im L n i ⟨(Ds L n).out,(Ds L n).at_,[]⟩;generalize hs:Fg L n i ⟨(Ds L n).out,(Ds L n).at_,[]⟩=s at hI hst ⊢;obtain⟨h1,h2,h3,h4,h5,h6,h7⟩:=hI;obtain⟨c,hc⟩:∃c,c=1+n * L.length+i:=⟨_,rfl⟩
  rw[← hc]at h2 h7;have hc2:c≤10000:=by omega
  by_cases hi2:i<L.length
  ·have hmem:L[i]!∈L:=by rw[getElem!_pos L i hi2];exact List.getElem_mem hi2
   have hwl:=(hw _ hmem).1;by_cases hnw:n<(L[i]!).length
   ·have hz : -9223372036854775808≤(L[i]!)[n]!∧(L[i]!)[n]!≤9223372036854775807:=hL _ hmem _ (by rw[getElem!_pos (L[i]!) n hnw];exact List.getElem_mem hnw);have hat:=h4 i hi2;obtain⟨f,hf⟩:∃f:Nat,s.at_[i]! =f:=⟨_,(Int.eq_ofNat_of_zero_le hat.1).choose_spec⟩
    rw[hf]at hat
    have mk:=eq_true (aN h6 (a:=⟨(L[i]!)[n]!,f⟩) ⟨hz,by show _≤(f:Int);omega,by show(f:Int)≤_;omega⟩);have mg:=WN s.m ⟨(L[i]!)[n]!,f⟩;have eb:=Yh (n:=n) (k:=(L[i]!).length);unfold ar at mk mg;cases hg:Ge s.m ⟨(L[i]!)[n]!,f⟩with
    |some to =>
     rw[hg]at mg;simp only[Option.map_some]at mg;have hto:=h5 _ (QC hg);simp only at hto;obtain⟨t,rfl⟩:=Int.eq_ofNat_of_zero_le hto.1;have hx:HU L n i s=⟨DG s.out t (decide (n+1=(L[i]!).length)),s.at_.set i t,s.m⟩:=by
      unfold HU;rw[if_pos hnw,hf,hg];rfl
     rw[hx]at hst;have hln:=Dk s.out t (decide (n+1=(L[i]!).length));unfold DG at hst hln;cases hfin:(s.out[t]!).final
     ·rw[hfin,Bool.false_or]at hst hln;refine Au (And.intro @h3 (And.intro @hf (And.intro @mk (And.intro @mg (And.intro @hfin @eb))))) ?_;try exact trivial
      refine⟨i+1,by omega,?_,?_,by omega⟩
      ·exact Sf (And.intro @hst @hln)
      ·exact Hq @hst
     ·rw[hfin,Bool.true_or]at hst hln;refine Au (And.intro @h3 (And.intro @hf (And.intro @mk (And.intro @mg (And.intro @hfin @eb))))) ?_;try exact trivial
      refine⟨i+1,by omega,?_,?_,by omega⟩
      ·exact Sf (And.intro @hst @hln)
      ·exact Hq @hst
    |none =>
     rw[hg]at mg;simp only[Option.map_none]at mg;have mp:=WQ (z:=s.out.length) hg;unfold ar at mp;have hx:HU L n i s=⟨DG (Df (s.out++[⟨false,[]⟩]) f ⟨(L[i]!)[n]!,s.out.length⟩) s.out.length (decide (n+1=(L[i]!).length)),s.at_.set i s.out.length,s.m++[((⟨(L[i]!)[n]!,f⟩:Ar),(s.out.length:Int))]⟩:=by
      unfold HU;rw[if_pos hnw,hf,hg];rfl
     rw[hx]at hst;have hff:f<s.out.length:=by omega
     have hl1:(s.out++[(⟨false,[]⟩:Ak)]).length=s.out.length+1:=by simp
     have hl2:=Jl (s.out++[⟨false,[]⟩]) f ⟨(L[i]!)[n]!,s.out.length⟩;have hl3:=Dk (Df (s.out++[⟨false,[]⟩]) f ⟨(L[i]!)[n]!,s.out.length⟩) s.out.length (decide (n+1=(L[i]!).length));have ha1:=OX s.out f;have ha2:=h7 f;have hfin:((Df (s.out++[⟨false,[]⟩]) f ⟨(L[i]!)[n]!,s.out.length⟩)[s.out.length]!).final=false:=by
      unfold Df;rw[Bw (by rw[hl1];omega),if_neg (by omega)];simp[List.getElem!_eq_getElem?_getD]
     unfold DG at hst hl3;rw[hfin,Bool.false_or]at hst hl3;unfold Df at hst hl2 hl3 hfin;rw[hl1]at hl2;rw[hl2]at hl3;generalize ho1:s.out++[(⟨false,[]⟩:Ak)]=o1 at hst hl1 hl2 hl3 ha1 hfin;refine Au (And.intro @h3 (And.intro @hf (And.intro @mk (And.intro @mg (And.intro @mp (And.intro @ho1 (And.intro @hl1 (And.intro @hl2 (And.intro @hfin @eb))))))))) ?_;try exact trivial
     refine⟨i+1,by omega,?_,?_,by omega⟩
     ·exact Sf (And.intro @hst (And.intro @hl2 @hl3))
     ·exact Hq @hst
   ·have hx:HU L n i s=s:=by unfold HU;rw[if_neg hnw]
    rw[hx]at hst;refine Ao ?_;try exact trivial
    refine⟨i+1,by omega,?_,?_,by omega⟩
    ·exact Sf @hst
    ·exact Hq @hst
  ·have hil:i=L.length:=by omega
   subst hil;rw[hs]at hstep;refine Ao ?_;try exact trivial
   refine⟨n+1,by omega,?_,?_,by omega⟩
   ·exact Sf @hstep
   ·exact Hq @hstep
 have hne:n=20:=by omega
 subst hne;rw[show AS L=(Ds L 20).out from rfl];refine Ao ?_;try exact trivial
end Go.Eng.Tryz
namespace Go.Proofs
open Go.Shelf Go.RowKit Go.Lib Go.Sort
def Tryz.sortWord_ren:Go.Shelf.Ren:=⟨fun|6=>145|15=>123|14=>206|28=>189|29=>190|20=>233|21=>234|22=>235|23=>236|24=>237|25=>238|26=>239|27=>240|46=>265|47=>223|48=>224|49=>266|50=>267|57=>278|n=>n,fun|22=>22|24=>57|25=>73|3=>3|39=>176|0=>0|53=>204|55=>33|4=>4|46=>232|45=>231|50=>166|5=>5|9=>9|66=>261|70=>264|76=>292|77=>293|n=>n,fun|n=>n⟩
theorem Tryz.sortWord:Go.Proofs.SlLaysF.n6 Tryz.prog Tryz.sortWord_ren:={
 mixed:=by kernel_rfl
 f6:=⟨Tryz.f145.name,by decide,Tryz.func145.trans (congrArg some (by kernel_rfl))⟩
 f14:=⟨Tryz.f206.name,by decide,Tryz.func206.trans (congrArg some (by kernel_rfl))⟩
 f15:=Tryz.func123.trans (congrArg some (by kernel_rfl))
 f20:=⟨Tryz.f233.name,by decide,Tryz.func233.trans (congrArg some (by kernel_rfl))⟩
 f21:=⟨Tryz.f234.name,by decide,Tryz.func234.trans (congrArg some (by kernel_rfl))⟩
 f22:=⟨Tryz.f235.name,by decide,Tryz.func235.trans (congrArg some (by kernel_rfl))⟩
 f23:=⟨Tryz.f236.name,by decide,Tryz.func236.trans (congrArg some (by kernel_rfl))⟩
 f24:=⟨Tryz.f237.name,by decide,Tryz.func237.trans (congrArg some (by kernel_rfl))⟩
 f25:=⟨Tryz.f238.name,by decide,Tryz.func238.trans (congrArg some (by kernel_rfl))⟩
 f26:=⟨Tryz.f239.name,by decide,Tryz.func239.trans (congrArg some (by kernel_rfl))⟩
 f27:=⟨Tryz.f240.name,by decide,Tryz.func240.trans (congrArg some (by kernel_rfl))⟩
 f28:=Tryz.func189.trans (congrArg some (by kernel_rfl))
 f29:=Tryz.func190.trans (congrArg some (by kernel_rfl))
 f46:=⟨Tryz.f265.name,by decide,Tryz.func265.trans (congrArg some (by kernel_rfl))⟩
 f47:=Tryz.func223.trans (congrArg some (by kernel_rfl))
 f48:=Tryz.func224.trans (congrArg some (by kernel_rfl))
 f49:=⟨Tryz.f266.name,by decide,Tryz.func266.trans (congrArg some (by kernel_rfl))⟩
 f50:=⟨Tryz.f267.name,by decide,Tryz.func267.trans (congrArg some (by kernel_rfl))⟩
 f57:=⟨Tryz.f278.name,by decide,Tryz.func278.trans (congrArg some (by kernel_rfl))⟩
 t0:=Tryz.underlying0
 a0:=Tryz.isAgg0
 z0:=Tryz.sizeOf0
 v0:=Tryz.zeroValue0
 t3:=Tryz.underlying3
 a3:=Tryz.isAgg3
 z3:=Tryz.sizeOf3
 v3:=Tryz.zeroValue3
 t4:=Tryz.underlying4
 a4:=Tryz.isAgg4
 z4:=Tryz.sizeOf4
 v4:=Tryz.zeroValue4
 t5:=Tryz.underlying5
 a5:=Tryz.isAgg5
 z5:=Tryz.sizeOf5
 v5:=Tryz.zeroValue5
 t9:=Tryz.underlying9
 a9:=Tryz.isAgg9
 z9:=Tryz.sizeOf9
 v9:=Tryz.zeroValue9
 t22:=Tryz.underlying22
 a22:=Tryz.isAgg22
 z22:=Tryz.sizeOf22
 v22:=Tryz.zeroValue22
 a24:=Tryz.isAgg57
 z24:=Tryz.sizeOf57
 t25:=Tryz.underlying73
 a25:=Tryz.isAgg73
 z25:=Tryz.sizeOf73
 v25:=Tryz.zeroValue73
 t39:=Tryz.underlying176
 a39:=Tryz.isAgg176
 z39:=Tryz.sizeOf176
 v39:=Tryz.zeroValue176
 t45:=Tryz.underlying231
 a45:=Tryz.isAgg231
 z45:=Tryz.sizeOf231
 v45:=Tryz.zeroValue231
 t46:=Tryz.underlying232
 a46:=Tryz.isAgg232
 z46:=Tryz.sizeOf232
 v46:=Tryz.zeroValue232
 t50:=Tryz.underlying166
 a50:=Tryz.isAgg166
 z50:=Tryz.sizeOf166
 v50:=Tryz.zeroValue166
 t53:=Tryz.underlying204
 a53:=Tryz.isAgg204
 z53:=Tryz.sizeOf204
 v53:=Tryz.zeroValue204
 t55:=Tryz.underlying33
 a55:=Tryz.isAgg33
 z55:=Tryz.sizeOf33
 v55:=Tryz.zeroValue33
 t66:=Tryz.underlying261
 a66:=Tryz.isAgg261
 z66:=Tryz.sizeOf261
 v66:=Tryz.zeroValue261
 t70:=Tryz.underlying264
 a70:=Tryz.isAgg264
 z70:=Tryz.sizeOf264
 v70:=Tryz.zeroValue264
 t76:=Tryz.underlying292
 a76:=Tryz.isAgg292
 z76:=Tryz.sizeOf292
 v76:=Tryz.zeroValue292
 t77:=Tryz.underlying293
 a77:=Tryz.isAgg293
 z77:=Tryz.sizeOf293
 v77:=Tryz.zeroValue293 }
end Go.Proofs
namespace Go.Eng.Tryz
attribute [local go_sem] Aq As Bb Bh Da
def fF(x:D):Int:=match x with| .int _ z=>z|_=>0
def EV(d:D):List Int:=match d with| .sl _ xs=>xs.map fF|_=>[]
theorem NO(w:List Int):EV (.sl 1 (is w))=w:=by simp[EV,is,fF,List.map_map,Function.comp_def]
theorem CQ(a:List Int):¬Ae a a<0:=by have:=(Cf a a).2 rfl;omega
theorem Xd{xs ys:List (List Int)}(hok:∀w∈xs,w.length≤9223372036854775807)(h0:0<xs.length)(hmax:xs.length<4611686018427387904)(hp:ys.Perm xs)(hs:ys.Pairwise (fun a b=>¬Ae b a<0)) :
 Ai Tryz.prog 145 [.own 0 xs.length,.d (.fn 146)] [(0,.row 57 1 (CI xs))] (.tup []) [(0,.row 57 1 (CI ys))] 1:=by
 have eg:∀args w,(callFunc 146 args).run Tryz.prog w= .ok (.enter 146 args) w:=enters_of Tryz.func146 (by kernel_rfl) rfl;have hlen:(CI xs).length=xs.length:=Bb;have gd:∀x,(∃w:List Int,w.length≤9223372036854775807∧x=D.sl 1 (is w))→D.sl 1 (is (EV x))=x∧(EV x).length≤9223372036854775807:=fun x ⟨r,h1,h2⟩=>by rw[h2,NO];exact⟨rfl,h1⟩
 have:=RW (P:=Tryz.prog) Tryz.sortWord eg (Good:=fun x=>∃w:List Int,w.length≤9223372036854775807∧x=D.sl 1 (is w)) (cf:=fun x y=>Ae (EV x) (EV y))
  (fun x y hx hy=>by
    have:=dq (gd x hx).2 (gd y hy).2
    rwa [(gd x hx).1,(gd y hy).1]at this)
  (fun x hx=>CQ _) (fun x y z _ _ _ h1 h2=>D4 h1 (by omega)) (fun x y z _ _ _ h1 h2=>by
    have a1:=AD (EV x) (EV y);have a2:=AD (EV y) (EV z);have a3:=AD (EV x) (EV z);have:=CA (EV z) (EV y) (EV x) (by omega) (by omega);omega)
  (fun x y hx hy h1 h2=>by
    have a1:=AD (EV x) (EV y);have e:=(Cf (EV x) (EV y)).1 (by omega);rw[← (gd x hx).1,← (gd y hy).1,e])
  (fun x ⟨r,_,h⟩=>by rw[h];rfl) (e:=57) (xs:=CI xs) (ys:=CI ys) (fun x hx=>by
    obtain⟨w,hw,rfl⟩:=List.mem_map.1 hx;exact⟨w,hok w hw,rfl⟩) (by rw[hlen];exact h0) (by rw[hlen];exact hmax) (hp.map _) (by
    unfold CI;rw[List.pairwise_map];exact hs.imp (fun{a b} h=>by rw[NO,NO];exact h))
 rw[hlen]at this;exact this
theorem BQ.stay{l:List (List Int)}(h:BQ l):l.Pairwise (fun a b=>¬Ae b a<0):=h.imp fun{a b} h=>by have:=AD a b;omega
theorem Gw{l:List (List Int)}{k:Nat}(h:k<l.length):l.take (k+1)=l.take k++[l[k]!]:=AT h
theorem Z7{l:List (List Int)}(hl:∀w∈l,w.length≤1000000)(hlen:l.length≤1000000)(h0:0<l.length)(hs:BQ l):A3 Tryz.prog 84 [.sl 1 (CI l)] (.sl 1 (CI l)):=by
 have hok:∀w∈l,w.length≤9223372036854775807:=fun w hw=>Nat.le_trans (hl w hw) (by decide);have c1:=Xd (xs:=l) (ys:=l) hok h0 (by omega) (List.Perm.refl _) hs.stay;have c2:=RJ ⟨by omega,hok⟩ hs h0;refine A6 25 Tryz.func84 A4 fun X_ w_=>?_;refine Ao ?_;try exact trivial
 refine A8 (fun k:Nat=>k≤l.length) (fun k=>[(3,.own 1002 (l.take k).length),(9,.d (.sl 1 (CI l))),(10,.d (.int .i64 l.length)),(11,.d (.int .i64 k))]) (fun k=>[(1002,.row 57 1 (CI (l.take k)))]) 1003 (fun k=>l.length-k) [3,9,10,11] [1002] 0 (Nat.zero_le _) rfl rfl (Nat.zero_le _) (fun _ _=>rfl) (fun _ _=>rfl) fun k hk=>?_;have hkl:(l.take k).length=k:=by simp;omega
 by_cases hk3:k<l.length
 ·have hst:=Gw hk3;have cl:=L3 (l:=l[k]!) (by rw[getElem!_pos l k hk3];exact hl _ (List.getElem_mem hk3));have c0_:=cl;refine Au @hkl ?_;try exact trivial
  refine⟨k+1,by omega,?_,?_,by omega⟩
  ·simp(disch:=omega)only[go_sem,AC,Int.natCast_add,Int.cast_ofNat_Int,hst,hkl,List.length_append,List.length_cons,List.length_nil]
  ·exact Hq @hst
 ·have hke:k=l.length:=by omega
  subst hke;rw[List.take_length];have c0_:=c1;have c1_:=c2;refine Ao ?_;try exact trivial
def FP(l:List Int):List D:=l.map fun z=>.int .u8 z
theorem Hi{l:List Int}:(FP l).length=l.length:=by simp[FP]
theorem FW{l:List Int}{z:Int}:FP l++[.int .u8 z]=FP (l++[z]):=by simp[FP]
theorem Hh{a b:List Int}:FP a++FP b=FP (a++b):=by simp[FP]
attribute [local go_sem] Hi FW Hh
theorem X7{b:List Int}{z:Int}(h0:0≤z)(h1:z≤127)(hb:b.length≤1000000):Ai Tryz.prog 150 [.own 0 b.length,.d (.int .i32 z)] [(0,.row 5 1 (FP b))] (.own 0 (b.length+1)) [(0,.row 5 1 (FP (b++[z])))] 1:=by
 have e1:IntKind.u32.wrap z=z:=by simp[IntKind.wrap,IntKind.bits,IntKind.signed];omega
 have e2:IntKind.u8.wrap z=z:=by simp[IntKind.wrap,IntKind.bits,IntKind.signed];omega
 refine Bo 16 [0] Tryz.func150 Bm fun X_ ν_ w_=>?_;refine Au (And.intro @e1 @e2) ?_;try exact trivial
end Go.Eng.Tryz
namespace Go.Eng.Tryz
attribute [local go_sem] Aq As Ef Ee Gp Gn AP AO Az Ax JG JF Bq
theorem fc{c:Co}{q:List Int}{l:List Ak}(hc:c.ok)(hq:q.length≤9223372036854775807)(hl:Bt l)(h:LS c q l=false):A3 Tryz.prog 167 [co c,.sl 1 (is q),.sl 2 (AQ l)] .nils:=by
 cases hm:Mh c q
 ·have ca:=cM hc hq hm;unfold co at ca ⊢;refine A6 90 Tryz.func167 B6 fun X_ w_=>?_;have c0_:=ca;refine Ao ?_;try exact trivial
 ·have hchk:achk l=false:=by unfold LS at h;rw[hm]at h;simpa using h
  have cch:=IM hl;rw[hchk]at cch;have ca:=X5 hc hq;have eA:FD c q=Bj c q (q.length+1):=if_pos hm;rw[eA]at ca;have hlen:=BW c q (q.length+1);obtain⟨A0,A1,hA⟩:∃A0 A1,Bj c q (q.length+1)=A0::A1:=by
   cases h:Bj c q (q.length+1)with
   |nil=>rw[h]at hlen;simp at hlen
   |cons a b=>exact⟨a,b,rfl⟩
  have eN:HT (Bj c q (q.length+1))= .sl 4 (LV A0)::HT A1:=by rw[hA];rfl
  unfold co at ca ⊢;refine A6 90 Tryz.func167 B6 fun X_ w_=>?_;have c0_:=ca;have c1_:=cch;refine Au @eN ?_;try exact trivial
theorem fI{c:Co}{q:List Int}{l:List Ak}(hc:c.ok)(hq:q.length≤9223372036854775807)(hl:Bt l):A3 Tryz.prog 167 [co c,.sl 1 (is q),.sl 2 (AQ l)] (.sl 1 (tt (CJ c q l))):=by
 unfold CJ;cases h:LS c q l
 ·rw[if_neg (by simp)];exact(fc hc hq hl h).wk (Is.refl _) (.nil 1)
 ·rw[if_pos rfl];unfold LS at h;rw[Bool.and_eq_true]at h;exact eZ hc h.1 hl h.2
end Go.Eng.Tryz
namespace Go.Eng.Tryz
theorem Lf{c:Co}{q:List Int}{l:List Ak}(hc:c.ok)(h:LS c q l=true):q.length≤20∧Lq c=true∧achk l=true∧TG (Bj c q (q.length+1)) l (CJ c q l):=by
 have e:CJ c q l=tg (Bj c q (q.length+1)) l:=if_pos h;unfold LS at h;rw[Bool.and_eq_true]at h;obtain⟨h1,h2⟩:=Fm.1 h.1;exact⟨h1,h2,h.2,e▸c8 (Kn hc h2 q) h.2⟩
end Go.Eng.Tryz

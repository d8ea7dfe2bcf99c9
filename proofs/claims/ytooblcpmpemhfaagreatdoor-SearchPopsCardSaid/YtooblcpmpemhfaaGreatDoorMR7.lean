/- What words cost, plainly: the laws. (and what stands behind it: texts laid together) -/
import Derived.Test.YtooblcpmpemhfaaGreatDoorMR6
import Derived.Test.YtooblcpmpemhfaaGreatDoorMG4
set_option linter.unusedVariables false
set_option linter.unusedSimpArgs false
open Go Go.Eng Go.Proofs Go.RowKit
set_option maxHeartbeats 32000000
set_option maxRecDepth 100000
namespace Go.Eng.Tryz
theorem EI(c:Co)(q:List Int){n i:Nat}(h:i<n):(Bj c q n)[i]! =Lc c (q.drop i):=by
 have hl:i<(Bj c q n).length:=by rw[BW];exact h
 rw[getElem!_pos _ i hl];simp[Bj]
theorem Ut{c:Co}{rest:List Int}{s:Se}:s∈af c rest↔∃x t,rest=x::t∧(s=⟨1,[x],false,0⟩∨s=⟨1,[],true,c.other⟩∨s=⟨1,[],false,c.less⟩):=by
 cases rest with
 |nil=>simp[af]
 |cons x t=>simp[af]
theorem Uu{c:Co}{rest:List Int}{s:Se}:s∈Zs c rest↔∃x y t,rest=x::y::t∧x≠y∧s=⟨2,[y,x],false,c.turned⟩:=by
 match rest with
 | []=>simp[Zs]
 | [x]=>simp[Zs]
 |x::y::t =>
  simp only[Zs];split
  ·rename_i h;simp;constructor
   ·intro e;exact⟨x,y,⟨rfl,rfl⟩,h,e⟩
   ·rintro⟨x',y',⟨rfl,rfl⟩,_,e⟩;exact e
  ·rename_i h;simp at h;subst h;simp
theorem Xx{rest:List Int}{r:Ru}{s:Se}:Ql rest r=some s↔rest.take r.left.length=r.left∧s=⟨r.left.length,r.right,false,r.cost⟩:=by
 unfold Ql;split
 ·rename_i h;simp[h];exact⟨fun h=>h.symm,fun h=>h.symm⟩
 ·rename_i h;simp[h]
theorem RZ{c:Co}{rest:List Int}{s:Se}:s∈Lc c rest↔s∈af c rest∨s∈Zs c rest∨s=⟨0,[],true,c.more⟩∨∃r∈c.rules,rest.take r.left.length=r.left∧s=⟨r.left.length,r.right,false,r.cost⟩:=by
 unfold Lc Tf;simp only[List.mem_append,List.mem_filterMap,List.mem_singleton,Xx,or_assoc]
theorem Kk{c:Co}(hc:c.ok)(hk:Lq c=true){rest:List Int}{s:Se}(h:s∈Lc c rest):0≤s.eat∧s.eat.toNat≤rest.length∧U s.cost∧s.put.length≤8∧∀w j n,C6 s w j=some n→0<s.eat.toNat+n:=by
 obtain⟨u1,u2,u3,u4,hr,_⟩:=hc;rw[RZ]at h;rcases h with h|h|h|⟨r,hr2,h1,h2⟩
 ·obtain⟨x,t,rfl,h'⟩:=Ut.1 h;clear h;rcases h' with rfl|rfl|rfl
  ·exact⟨by simp,by simp,⟨by simp,by simp⟩,by simp,fun w j n _=>by simp;omega⟩
  ·exact⟨by simp,by simp,u3,by simp,fun w j n _=>by simp;omega⟩
  ·exact⟨by simp,by simp,u2,by simp,fun w j n _=>by simp;omega⟩
 ·obtain⟨x,y,t,rfl,_,rfl⟩:=Uu.1 h;exact⟨by simp,by simp,u4,by simp,fun w j n _=>by simp;omega⟩
 ·subst h;refine⟨by simp,by simp,u1,by simp,fun w j n hn=>?_⟩;unfold C6 at hn;simp at hn;omega
 ·subst h2;obtain⟨_,_,h3,_⟩:=JS.1 hk;have hf:=List.all_eq_true.1 h3 r hr2;have hro:JB r=true:=by simp only[Rb,Bool.and_eq_true]at hf;exact hf.1.1
  obtain⟨_,_,hne,hlt⟩:=IS.1 hro;have:=congrArg List.length h1;simp only[List.length_take]at this;have hro':=hr r hr2;refine⟨by simp,by simp;omega,⟨hro'.2.2.1,hro'.2.2.2⟩,(Rc hf).2,fun w j n hn=>?_⟩;unfold C6 at hn;simp at hn;obtain⟨_,rfl⟩:=hn;simp only[Int.toNat_natCast];by_cases h0:r.left=[]
  ·cases hr0:r.right with
   |nil=>rw[h0,hr0]at hne;exact absurd rfl hne
   |cons _ _=>simp only[List.length_cons];omega
  ·have:=List.length_pos_iff.2 h0;omega
theorem Eo{c:Co}(hc:c.ok)(hk:Lq c=true)(q w:List Int):GG (Bj c q (q.length+1)) w:=fun i hi s hs=>by
 rw[BW]at hi;rw[EI c q hi]at hs;obtain⟨h1,h2,h3,_,h4⟩:=Kk hc hk hs;simp only[List.length_drop]at h2;exact⟨h1,by rw[BW];omega,h3,fun j n=>h4 w j n⟩
def D2(c:Co)(q w:List Int):Int:=if Mh c q=true∧w.length≤20 then Ap (Qv (Bj c q (q.length+1)) w) q.length w.length else 18446744073709551615
theorem Vx{s:Se}{w y:List Int}{j n:Nat}(hj:j≤w.length)(h:C6 s w j=some n):C6 s (w++y) j=some n:=by
 unfold C6 at h ⊢;split at h
 ·rename_i h1;rw[if_pos h1];split at h
  ·rw[if_pos (by simp;omega)];exact h
  ·cases h
 ·rename_i h1;rw[if_neg h1];split at h
  ·rename_i h2;have:=congrArg List.length h2;simp only[List.length_take,List.length_drop]at this;rw[if_pos ?_]
   ·exact h
   ·rw[List.drop_append_of_le_length hj,List.take_append_of_le_length (by simp;omega)];exact h2
  ·cases h
theorem df{c:Co}(hc:c.ok)(q w:List Int):U (D2 c q w):=by
 unfold D2;split
 ·rename_i h;exact(H3 (Eo hc (Fm.1 h.1).2 q w) (by rw[BW];omega)).u _ _ (by rw[BW];omega) (by omega)
 ·exact⟨by decide,by decide⟩
theorem YV{c:Co}(hc:c.ok){q w:List Int}:D2 c q w=18446744073709551615∨(Mh c q=true∧w.length≤20)∧NU (Bj c q (q.length+1)) w q.length w.length (D2 c q w):=by
 unfold D2;split
 ·rename_i h;rcases(H3 (Eo hc (Fm.1 h.1).2 q w) (by rw[BW];omega)).way q.length w.length (by rw[BW];omega) (by omega)with h1|h1
  ·exact .inl h1
  ·exact .inr ⟨h,h1⟩
 ·exact .inl rfl
theorem bk{c:Co}(hc:c.ok){q w:List Int}(h:Mh c q=true∧w.length≤20){v:Int}(hw:NU (Bj c q (q.length+1)) w q.length w.length v):D2 c q w≤v:=by
 unfold D2;rw[if_pos h];exact XG (Eo hc (Fm.1 h.1).2 q w) (by rw[BW];omega) hw
theorem T3{s:Se}{w:List Int}{j n k:Nat}(h:C6 s w j=some n)(hk:j+n≤k):C6 s (w.take k) j=some n:=by
 unfold C6 at h ⊢;split at h
 ·rename_i h1;rw[if_pos h1];split at h
  ·cases h;rw[if_pos (by simp;omega)]
  ·cases h
 ·rename_i h1;rw[if_neg h1];split at h
  ·rename_i h2;cases h;rw[if_pos];rw[List.drop_take,List.take_take,Nat.min_eq_left (by omega)];exact h2
  ·cases h
theorem XM{all:List (List Se)}{w:List Int}{k i j:Nat}{v:Int}(h:NU all w i j v)(hj:j≤k):NU all (w.take k) i j v:=by
 induction h with
 |zero=>exact .zero
 |step h hs hi hn ih=>exact(ih (by omega)).step hs hi (T3 hn hj)
theorem NQ{all:List (List Se)}{w:List Int}{k i j:Nat}{v:Int}(h:NU all (w.take k) i j v):NU all w i j v:=by
 induction h with
 |zero=>exact .zero
 |step h hs hi hn ih =>
  have:=Vx (y:=w.drop k) (XL h) hn;rw[List.take_append_drop]at this;exact ih.step hs hi this
attribute [local go_sem] Aq As Ef Ee Gp Gn Mb IG
theorem Ny{s:Se}{w:List Int}{j:Nat}:C6 s (w.drop j) 0=C6 s w j:=by
 unfold C6;simp only[List.length_drop,List.drop_zero];by_cases h:s.any=true
 ·rw[if_pos h,if_pos h];by_cases h2:j<w.length
  ·rw[if_pos h2,if_pos (by omega)]
  ·rw[if_neg h2,if_neg (by omega)]
 ·rw[if_neg h,if_neg h]
def G5(s:Se)(w:List Int)(j:Nat):Int:=match C6 s w j with|some n=>n|none => -1
theorem dJ{s:Se}{w:List Int}(hw:w.length≤9223372036854775807)(hs:s.put.length≤9223372036854775807):A3 Tryz.prog 180 [se s,.sl 1 (is w)] (.int .i64 (G5 s w 0)):=by
 unfold se;cases ha:s.any
 ·by_cases h1:s.put.length≤w.length
  ·have ce:=Ij (a:=w.take s.put.length) (b:=s.put) (by simp only[List.length_take];omega) hs;by_cases h2:w.take s.put.length=s.put
   ·have e:G5 s w 0=s.put.length:=by unfold G5 C6;rw[ha,if_neg (by decide),List.drop_zero,if_pos h2]
    rw[decide_eq_true h2]at ce;rw[e];refine A6 38 Tryz.func180 Ah fun X_ w_=>?_;have c0_:=ce;refine Ao ?_;try exact trivial
   ·have e:G5 s w 0 = -1:=by unfold G5 C6;rw[ha,if_neg (by decide),List.drop_zero,if_neg h2]
    rw[decide_eq_false h2]at ce;rw[e];refine A6 38 Tryz.func180 Ah fun X_ w_=>?_;have c0_:=ce;refine Ao ?_;try exact trivial
  ·have e:G5 s w 0 = -1:=by
    unfold G5 C6;rw[ha,if_neg (by decide),List.drop_zero,if_neg];intro h;have:=congrArg List.length h;simp only[List.length_take]at this;omega
   rw[e];refine A6 38 Tryz.func180 Ah fun X_ w_=>?_;refine Ao ?_;try exact trivial
 ·by_cases h1:0<w.length
  ·have e:G5 s w 0=1:=by unfold G5 C6;rw[ha,if_pos rfl,if_pos h1];rfl
   rw[e];refine A6 38 Tryz.func180 Ah fun X_ w_=>?_;refine Ao ?_;try exact trivial
  ·have e:G5 s w 0 = -1:=by unfold G5 C6;rw[ha,if_pos rfl,if_neg h1]
   rw[e];refine A6 38 Tryz.func180 Ah fun X_ w_=>?_;refine Ao ?_;try exact trivial
def tt(t:List (List Int)):List D:=t.map fun r=>.sl 1 (us r)
theorem JG{t:List (List Int)}:(tt t).length=t.length:=by simp[tt]
theorem Mo{t:List (List Int)}{i:Nat}(h:i<t.length):(tt t).getD i .nils= .sl 1 (us (t[i]!)):=by
 simp[tt,List.getD_eq_getElem?_getD,List.getElem?_eq_getElem h,getElem!_pos t i h]
theorem JF{t:List (List Int)}{i:Nat}(h:i<t.length):(tt t)[i]? =some (.sl 1 (us (t[i]!))):=by
 simp[tt,List.getElem?_eq_getElem h,getElem!_pos t i h]
theorem Tj{t:List (List Int)}{i:Nat}{r:List Int}:(tt t).set i (.sl 1 (us r))=tt (t.set i r):=by simp[tt,List.map_set]
theorem Tm{r:List Int}{j:Nat}{v:Int}:(us r).set j (.int .u64 v)=us (r.set j v):=by simp[us,List.map_set]
theorem T5{n:Nat}{x:Int}:List.replicate n (D.int .u64 x)=us (List.replicate n x):=by simp[us]
attribute [local go_sem] JG Mo JF Tj Tm T5
def TU:Tb:=⟨124,1,0,33,1⟩
attribute [local go_sem] TU
theorem VF{t:List (List Int)}{i j:Nat}(hi:i<t.length)(hj:j<(t[i]!).length):FM t i j (Ap t i j)=t:=by
 unfold FM Ap;rw[getElem!_pos t i hi]at hj ⊢;rw[getElem!_pos _ j hj,List.set_getElem_self,List.set_getElem_self]
theorem Vz{all:List (List Se)}{w:List Int}{t:List (List Int)}{i j:Nat}(hS:GG all w)(hg:Good all w t)(hi:i<all.length)(hj:j<w.length+1)(h:Ap t i j=18446744073709551615){s:Se}(hs:s∈all[i]!):FJ w i j t s=t:=by
 unfold FJ;obtain⟨h1,h2,h3,h4⟩:=hS i hi s hs;split
 ·rename_i n hn;have hle:=Ka (by omega) hn;have hu:=hg.u (i+s.eat.toNat) (j+n) h2 (by omega);have:min (Ap t (i+s.eat.toNat) (j+n)) (BM (Ap t i j) s.cost)=Ap t (i+s.eat.toNat) (j+n):=by
   rw[h];unfold BM U at *;split<;>omega
  rw[this,VF (by rw[hg.shape.1];exact h2) (by rw[hg.shape.2 _ h2];omega)]
 ·rfl
theorem Rh{all:List (List Se)}{w:List Int}{t:List (List Int)}{i j:Nat}(hS:GG all w)(hg:Good all w t)(hi:i<all.length)(hj:j<w.length+1)(h:Ap t i j=18446744073709551615):∀l:List Se,(∀s∈l,s∈all[i]!)→l.foldl (FJ w i j) t=t
 | [],_=>rfl
 |s::l,hl=>by
  rw[List.foldl_cons,Vz hS hg hi hj h (hl s (by simp))];exact Rh hS hg hi hj h l fun x hx=>hl x (by simp[hx])
theorem XF{all:List (List Se)}{w:List Int}{t:List (List Int)}{i j:Nat}(hS:GG all w)(hd:Uz all w (HV all w i j t) i j)(hi:i<all.length)(hj:j<w.length+1)(h:Ap (HV all w i j t) i j=18446744073709551615):HV all w i (j+1) t=HV all w i j t:=by
 rw[Lg,Km,List.take_length];exact Rh hS hd.good hi hj h _ fun s hs=>hs
def ini(n M k:Nat):List (List Int):=List.replicate k (List.replicate M 18446744073709551615)++List.replicate (n-k) []
theorem TZ{n M k:Nat}(h:k≤n):(ini n M k).length=n:=by simp[ini];omega
theorem aZ{n M k:Nat}(h:k<n):(ini n M k)[k]! =[]:=by
 simp only[List.getElem!_eq_getElem?_getD,ini];rw[List.getElem?_append_right (by simp)];simp[List.getElem?_replicate,show 0<n-k from by omega]
theorem Ww{n M k:Nat}(h:k<n):(ini n M k).set k (List.replicate M 18446744073709551615)=ini n M (k+1):=by
 unfold ini;rw[List.set_append_right _ _ (by simp),List.length_replicate,Nat.sub_self,show n-k=(n-(k+1))+1 from by omega,List.replicate_succ,List.set_cons_zero];rw[List.replicate_succ' (n:=k),List.append_assoc];rfl
theorem Xs{α:Type}[Inhabited α]{l:List α}{i:Nat}{v:α}(h:i<l.length):(l.set i v)[i]! =v:=by rw[Eb h,if_pos rfl]
theorem OP{n:Nat}:(List.replicate n D.nils).all TU.nilAt=true:=by simp[Tb.nilAt,TU,D.comps]
theorem YG{n M:Nat}:(List.replicate n D.nils).map TU.ini=tt (ini n M 0):=by simp[Tb.ini,TU,D.put,tt,ini,us]
theorem cM{c:Co}{q:List Int}(hc:c.ok)(hq:q.length≤9223372036854775807)(hm:Mh c q=false):A3 Tryz.prog 166 [co c,.sl 1 (is q)] .nils:=by
 have cw:=Xh hc hq;rw[show(!(decide (q.length≤20)&&Lq c)) = !Mh c q from rfl,hm]at cw;unfold co at cw ⊢;refine A6 24 Tryz.func166 Ah fun X_ w_=>?_;have c0_:=cw;refine Ao ?_;try exact trivial
end Go.Eng.Tryz
namespace Go.Eng.Tryz
attribute [local go_sem] Aq As Ef Ee Gp Gn Mb IG JG Mo JF Tj Tm T5 TU
theorem Ue{c:Co}{q w:List Int}(hc:c.ok)(hm:Mh c q=true)(hw:w.length≤20):A3 Tryz.prog 118 [co c,.sl 1 (is q),.sl 1 (is w)] (.sl 1 (tt (Qv (Bj c q (q.length+1)) w))):=by
 obtain⟨hq,hk⟩:=Fm.1 hm;have ca:=X5 (q:=q) hc (by omega);have eA:FD c q=Bj c q (q.length+1):=if_pos hm;rw[eA]at ca;have hS:=Eo hc hk q w;have hput:∀i,i<q.length+1→∀s∈(Bj c q (q.length+1))[i]!,s.put.length≤8:=fun i hi s hs=>by
  rw[EI c q hi]at hs;exact(Kk hc hk hs).2.2.2.1
 have hlen:=BW c q (q.length+1);obtain⟨M,hM⟩:∃M,M=w.length+1:=⟨_,rfl⟩
 have cr:=Zn (x:=18446744073709551615) (n:=M) ⟨by decide,by decide⟩ (by omega) (by omega)
 have eM:(M:Int)=(w.length:Int)+1:=by omega
 have cr':=cr;rw[eM]at cr';obtain⟨A0,A1,hA⟩:∃A0 A1,Bj c q (q.length+1)=A0::A1:=by
  cases h:Bj c q (q.length+1)with
  |nil=>rw[h]at hlen;simp at hlen
  |cons a b=>exact⟨a,b,rfl⟩
 have eN:HT (Bj c q (q.length+1))= .sl 4 (LV A0)::HT A1:=by rw[hA];rfl
 have hL:A1.length+1=(Bj c q (q.length+1)).length:=by rw[hA];simp
 have hsl:∀i,i<q.length+1→((Bj c q (q.length+1))[i]!).length≤1000:=fun i hi=>by
  obtain⟨k1,k2⟩:=Iw hk;rw[EI c q hi];have h1:=Mk c (q.drop i);have h2:=Ml (q.drop i) c.rules;unfold Lc;simp only[List.length_append];omega
 generalize hall:Bj c q (q.length+1)=all at *;have h0:0<all.length:=by omega
 unfold co at ca ⊢;refine A6 123 Tryz.func118 B6 fun X_ w_=>?_;have c0_:=ca;have c1_:=cr';repeat ((fail_if_success (with_reducible show WP _ _ (.region 5 _ _) _ _));first|with_reducible exact Ev.nil|with_reducible exact E2|((with_reducible apply Cw);rfl)|((with_reducible apply AJ);rfl)|((with_reducible apply BH);rfl)|with_reducible apply BE|with_reducible apply Bu|with_reducible apply B5|((with_reducible apply DX (N:=123) rfl rfl);(focus simp only[Nat.reduceAdd]<;>rfl))|((with_reducible apply DV (N:=123) mixed rfl rfl);(focus simp only[Nat.reduceAdd]<;>rfl))|((with_reducible apply DU);(focus first|(apply BK;(focus rfl);rfl)|(apply BJ;(focus rfl);(focus rfl);rfl)))|((with_reducible apply Ct);(focus first|(apply BK;(focus rfl);rfl)|(apply BJ;(focus rfl);(focus rfl);rfl)))|with_reducible apply E3|with_reducible apply Cn|with_reducible apply Ck|with_reducible apply Cm|with_reducible apply Cj|((first|(with_reducible apply Cs)|(with_reducible apply By));(focus rfl))|((first|(with_reducible apply Cr)|(with_reducible apply Bx));(focus rfl))|(apply EG;(focus simp(disch:=omega)only[go_sem,eN]<;>rfl);(focus first|exact c0_|exact c1_);(focus rfl);(focus first|(simp(disch:=omega)only[go_sem,eN]<;>rfl)|rfl))|((with_reducible apply D5);(focus simp only[Nat.reduceAdd]<;>rfl);(focus simp(disch:=omega)only[go_sem,eN]<;>rfl))|(apply EH;(focus rfl);(focus simp(disch:=omega)only[go_sem,eN]<;>rfl);(focus first|exact c0_|exact c1_);(iterate 3 (focus first|(simp(disch:=omega)only[go_sem,eN]<;>rfl)|rfl)))|((first|apply Dc|apply Dd);(focus simp only[Nat.reduceAdd]<;>rfl);(focus rfl);(iterate 2 (focus simp(disch:=omega)only[go_sem,eN]<;>rfl));(first|((focus first|exact c0_|exact c1_);(iterate 2 (focus first|(simp(disch:=omega)only[go_sem,eN]<;>rfl)|rfl));(focus rfl);(iterate 3 (focus first|(simp(disch:=omega)only[go_sem,eN]<;>rfl)|rfl)))))|((first|(with_reducible apply Cp)|(with_reducible apply Cq));(focus simp only[Nat.reduceAdd]<;>rfl);(focus simp(disch:=omega)only[go_sem,eN]<;>rfl);(focus first|(simp(disch:=omega)only[go_sem,eN]<;>rfl)|rfl))|with_reducible apply BA|with_reducible apply BB|with_reducible apply BF|with_reducible apply BG|with_reducible apply B7|with_reducible apply B8|with_reducible apply B9|with_reducible apply Ba rfl|with_reducible apply Bd|with_reducible apply Be|with_reducible apply Bf|with_reducible apply Cu|with_reducible apply Cv|with_reducible apply AG|with_reducible apply B4|with_reducible apply Bz|with_reducible apply AH|with_reducible apply AI|((with_reducible apply DY);(focus first|(simp(disch:=omega)only[go_sem,eN]<;>rfl)|rfl))|((with_reducible apply DW);(focus first|(simp(disch:=omega)only[go_sem,eN]<;>rfl)|rfl))|((with_reducible apply BD);(focus rfl))|((with_reducible apply BC);(focus rfl);(focus rfl))|(with_reducible rfl)|((with_reducible show List.map Ad _=_);simp only[List.map_cons,List.map_nil,Ad,C5];rfl)|((with_reducible show AM _ _=true);kernel_rfl)|((with_reducible show _=_);simp(disch:=omega)only[go_sem,eN]<;>rfl)|((fail_if_success (with_reducible show Ev _ _ _ _ (_::_) _ _ _ _ _));(show Ev _ _ _ _ (_::_) _ _ _ _ _))|fail)
 repeat ((fail_if_success (with_reducible show WP _ _ (.region 6 _ _) _ _));first|with_reducible exact Ev.nil|with_reducible exact E2|((with_reducible apply Cw);rfl)|((with_reducible apply AJ);rfl)|((with_reducible apply BH);rfl)|with_reducible apply BE|with_reducible apply Bu|with_reducible apply B5|((with_reducible apply DX (N:=123) rfl rfl);(focus simp only[Nat.reduceAdd]<;>rfl))|((with_reducible apply DV (N:=123) mixed rfl rfl);(focus simp only[Nat.reduceAdd]<;>rfl))|((with_reducible apply DU);(focus first|(apply BK;(focus rfl);rfl)|(apply BJ;(focus rfl);(focus rfl);rfl)))|((with_reducible apply Ct);(focus first|(apply BK;(focus rfl);rfl)|(apply BJ;(focus rfl);(focus rfl);rfl)))|with_reducible apply E3|with_reducible apply Cn|with_reducible apply Ck|with_reducible apply Cm|with_reducible apply Cj|((first|(with_reducible apply Cs)|(with_reducible apply By));(focus rfl))|((first|(with_reducible apply Cr)|(with_reducible apply Bx));(focus rfl))|((with_reducible apply D5);(focus simp only[Nat.reduceAdd]<;>rfl);(focus simp(disch:=omega)only[go_sem,hL]<;>rfl))|((first|(with_reducible apply Cp)|(with_reducible apply Cq));(focus simp only[Nat.reduceAdd]<;>rfl);(focus simp(disch:=omega)only[go_sem,hL]<;>rfl);(focus first|(simp(disch:=omega)only[go_sem,hL]<;>rfl)|rfl))|with_reducible apply BA|with_reducible apply BB|with_reducible apply BF|with_reducible apply BG|with_reducible apply B7|with_reducible apply B8|with_reducible apply B9|with_reducible apply Ba rfl|with_reducible apply Bd|with_reducible apply Be|with_reducible apply Bf|with_reducible apply Cu|with_reducible apply Cv|with_reducible apply AG|with_reducible apply B4|with_reducible apply Bz|with_reducible apply AH|with_reducible apply AI|((with_reducible apply DY);(focus first|(simp(disch:=omega)only[go_sem,hL]<;>rfl)|rfl))|((with_reducible apply DW);(focus first|(simp(disch:=omega)only[go_sem,hL]<;>rfl)|rfl))|((with_reducible apply BD);(focus rfl))|((with_reducible apply BC);(focus rfl);(focus rfl))|(with_reducible rfl)|((with_reducible show List.map Ad _=_);simp only[List.map_cons,List.map_nil,Ad,C5];rfl)|((with_reducible show AM _ _=true);kernel_rfl)|((with_reducible show _=_);simp(disch:=omega)only[go_sem,hL]<;>rfl)|((fail_if_success (with_reducible show Ev _ _ _ _ (_::_) _ _ _ _ _));(show Ev _ _ _ _ (_::_) _ _ _ _ _))|fail)
 refine Sk 9 20000 TU rfl rfl (by simp) rfl rfl (by decide) OP (Nat.le_of_ble_eq_true rfl) (YG (M:=M)) rfl ?_;refine Ao ?_;try exact trivial
 refine A8 (fun k:Nat=>k≤all.length) (fun k=>[(2,.d (.sl 1 (is w))),(7,.d (.sl 1 (HT all))),(8,.d (.sl 1 (us (List.replicate M 18446744073709551615)))),(9,.tab 20000 all.length),(36,.d (.int .i64 all.length)),(37,.d (.int .i64 k))]) (fun k=>[(20000,.tab TU (tt (ini all.length M k)) none)]) 20001 (fun k=>all.length-k) [2,7,8,9,36,37] [20000] 0 (Nat.zero_le _) (by rw[eN];rfl) rfl (Nat.zero_le _) (fun _ _=>rfl) (fun _ _=>rfl) fun k hk'=>?_;have hM0:0<M:=by omega
 by_cases hk2:k<all.length
 ·have f0:=TZ (M:=M) hk';have f1:=aZ (M:=M) hk2;have f2:((ini all.length M k).set k (List.replicate M 0))[k]! =List.replicate M 0:=Xs (by rw[f0];exact hk2);have f3:((ini all.length M k).set k (List.replicate M 0)).set k (List.replicate M 18446744073709551615)=ini all.length M (k+1):=by rw[List.set_set];exact Ww hk2
  have f4:((ini all.length M k).set k (List.replicate M 0)).length=all.length:=by rw[List.length_set,f0]
  repeat (first|with_reducible exact Ev.nil|with_reducible exact E2|((with_reducible apply Cw);rfl)|((with_reducible apply AJ);rfl)|((with_reducible apply BH);rfl)|with_reducible apply BE|with_reducible apply Bu|with_reducible apply B5|((with_reducible apply DX (N:=123) rfl rfl);(focus simp only[Nat.reduceAdd]<;>rfl))|((with_reducible apply DV (N:=123) mixed rfl rfl);(focus simp only[Nat.reduceAdd]<;>rfl))|((with_reducible apply DU);(focus first|(apply BK;(focus rfl);rfl)|(apply BJ;(focus rfl);(focus rfl);rfl)))|((with_reducible apply Ct);(focus first|(apply BK;(focus rfl);rfl)|(apply BJ;(focus rfl);(focus rfl);rfl)))|with_reducible apply E3|with_reducible apply Cn|with_reducible apply Ck|with_reducible apply Cm|with_reducible apply Cj|((first|(with_reducible apply Cs)|(with_reducible apply By));(focus rfl))|((first|(with_reducible apply Cr)|(with_reducible apply Bx));(focus rfl))|((with_reducible apply D5);(focus simp only[Nat.reduceAdd]<;>rfl);(focus simp(disch:=omega)only[go_sem,f0,f1,f2,f3,f4,AR,List.length_replicate,Eg]<;>rfl))|((first|(with_reducible apply Cp)|(with_reducible apply Cq));(focus simp only[Nat.reduceAdd]<;>rfl);(focus simp(disch:=omega)only[go_sem,f0,f1,f2,f3,f4,AR,List.length_replicate,Eg]<;>rfl);(focus first|(simp(disch:=omega)only[go_sem,f0,f1,f2,f3,f4,AR,List.length_replicate,Eg]<;>rfl)|rfl))|with_reducible apply BA|with_reducible apply BB|with_reducible apply BF|with_reducible apply BG|with_reducible apply B7|with_reducible apply B8|with_reducible apply B9|with_reducible apply Ba rfl|with_reducible apply Bd|with_reducible apply Be|with_reducible apply Bf|with_reducible apply Cu|with_reducible apply Cv|with_reducible apply AG|with_reducible apply B4|with_reducible apply Bz|with_reducible apply AH|with_reducible apply AI|((with_reducible apply DY);(focus first|(simp(disch:=omega)only[go_sem,f0,f1,f2,f3,f4,AR,List.length_replicate,Eg]<;>rfl)|rfl))|((with_reducible apply DW);(focus first|(simp(disch:=omega)only[go_sem,f0,f1,f2,f3,f4,AR,List.length_replicate,Eg]<;>rfl)|rfl))|((with_reducible apply BD);(focus rfl))|((with_reducible apply BC);(focus rfl);(focus rfl))|(with_reducible rfl)|((with_reducible show List.map Ad _=_);simp only[List.map_cons,List.map_nil,Ad,C5];rfl)|((with_reducible show AM _ _=true);kernel_rfl)|((with_reducible show _=_);simp(disch:=omega)only[go_sem,f0,f1,f2,f3,f4,AR,List.length_replicate,Eg]<;>rfl)|((fail_if_success (with_reducible show Ev _ _ _ _ (_::_) _ _ _ _ _));(show Ev _ _ _ _ (_::_) _ _ _ _ _))|fail)
  refine⟨k+1,by omega,?_,?_,by omega⟩
  ·exact Ei
  ·exact GL
 have hka:k=all.length:=by omega
 subst hka;have hsz:=TZ (M:=M) (Nat.le_refl all.length);have hr0:((ini all.length M all.length)[0]!).length=M:=by
  simp only[List.getElem!_eq_getElem?_getD,ini];rw[List.getElem?_append_left (by simpa using h0)];simp[List.getElem?_replicate,h0]
 have g0:(ini all.length M all.length).set 0 (((ini all.length M all.length)[0]!).set 0 0)=GD all w 0:=by
  simp only[GD,List.range_zero,List.foldl_nil,XE,FM,ini,Nat.sub_self,List.replicate_zero,List.append_nil,hM]
 repeat ((fail_if_success (with_reducible show WP _ _ (.region 13 _ _) _ _));first|with_reducible exact Ev.nil|with_reducible exact E2|((with_reducible apply Cw);rfl)|((with_reducible apply AJ);rfl)|((with_reducible apply BH);rfl)|with_reducible apply BE|with_reducible apply Bu|with_reducible apply B5|((with_reducible apply DX (N:=123) rfl rfl);(focus simp only[Nat.reduceAdd]<;>rfl))|((with_reducible apply DV (N:=123) mixed rfl rfl);(focus simp only[Nat.reduceAdd]<;>rfl))|((with_reducible apply DU);(focus first|(apply BK;(focus rfl);rfl)|(apply BJ;(focus rfl);(focus rfl);rfl)))|((with_reducible apply Ct);(focus first|(apply BK;(focus rfl);rfl)|(apply BJ;(focus rfl);(focus rfl);rfl)))|with_reducible apply E3|with_reducible apply Cn|with_reducible apply Ck|with_reducible apply Cm|with_reducible apply Cj|((first|(with_reducible apply Cs)|(with_reducible apply By));(focus rfl))|((first|(with_reducible apply Cr)|(with_reducible apply Bx));(focus rfl))|((with_reducible apply D5);(focus simp only[Nat.reduceAdd]<;>rfl);(focus simp(disch:=omega)only[go_sem,hsz,hr0,AR,g0]<;>rfl))|((first|(with_reducible apply Cp)|(with_reducible apply Cq));(focus simp only[Nat.reduceAdd]<;>rfl);(focus simp(disch:=omega)only[go_sem,hsz,hr0,AR,g0]<;>rfl);(focus first|(simp(disch:=omega)only[go_sem,hsz,hr0,AR,g0]<;>rfl)|rfl))|with_reducible apply BA|with_reducible apply BB|with_reducible apply BF|with_reducible apply BG|with_reducible apply B7|with_reducible apply B8|with_reducible apply B9|with_reducible apply Ba rfl|with_reducible apply Bd|with_reducible apply Be|with_reducible apply Bf|with_reducible apply Cu|with_reducible apply Cv|with_reducible apply AG|with_reducible apply B4|with_reducible apply Bz|with_reducible apply AH|with_reducible apply AI|((with_reducible apply DY);(focus first|(simp(disch:=omega)only[go_sem,hsz,hr0,AR,g0]<;>rfl)|rfl))|((with_reducible apply DW);(focus first|(simp(disch:=omega)only[go_sem,hsz,hr0,AR,g0]<;>rfl)|rfl))|((with_reducible apply BD);(focus rfl))|((with_reducible apply BC);(focus rfl);(focus rfl))|(with_reducible rfl)|((with_reducible show List.map Ad _=_);simp only[List.map_cons,List.map_nil,Ad,C5];rfl)|((with_reducible show AM _ _=true);kernel_rfl)|((with_reducible show _=_);simp(disch:=omega)only[go_sem,hsz,hr0,AR,g0]<;>rfl)|((fail_if_success (with_reducible show Ev _ _ _ _ (_::_) _ _ _ _ _));(show Ev _ _ _ _ (_::_) _ _ _ _ _))|fail)
 refine Ao ?_;try exact trivial
 refine A8 (fun i:Nat=>i≤all.length) (fun i=>[(2,.d (.sl 1 (is w))),(7,.d (.sl 1 (HT all))),(8,.d (.sl 1 (us (List.replicate M 18446744073709551615)))),(9,.tab 20000 all.length),(58,.d (.int .i64 all.length)),(59,.d (.int .i64 i))]) (fun i=>[(20000,.tab TU (tt (GD all w i)) none)]) 20001 (fun i=>all.length-i) [2,7,8,9,58,59] [20000] 0 (Nat.zero_le _) rfl rfl (Nat.zero_le _) (fun _ _=>rfl) (fun _ _=>rfl) fun i hi=>?_;by_cases hi2:i<all.length
 ·have hd:=IX hS h0 i hi;repeat (first|with_reducible exact Ev.nil|with_reducible exact E2|((with_reducible apply Cw);rfl)|((with_reducible apply AJ);rfl)|((with_reducible apply BH);rfl)|with_reducible apply BE|with_reducible apply Bu|with_reducible apply B5|((with_reducible apply DX (N:=123) rfl rfl);(focus simp only[Nat.reduceAdd]<;>rfl))|((with_reducible apply DV (N:=123) mixed rfl rfl);(focus simp only[Nat.reduceAdd]<;>rfl))|((with_reducible apply DU);(focus first|(apply BK;(focus rfl);rfl)|(apply BJ;(focus rfl);(focus rfl);rfl)))|((with_reducible apply Ct);(focus first|(apply BK;(focus rfl);rfl)|(apply BJ;(focus rfl);(focus rfl);rfl)))|with_reducible apply E3|with_reducible apply Cn|with_reducible apply Ck|with_reducible apply Cm|with_reducible apply Cj|((first|(with_reducible apply Cs)|(with_reducible apply By));(focus rfl))|((first|(with_reducible apply Cr)|(with_reducible apply Bx));(focus rfl))|((with_reducible apply D5);(focus simp only[Nat.reduceAdd]<;>rfl);(focus simp(disch:=omega)only[go_sem,AR,List.length_replicate]<;>rfl))|((first|(with_reducible apply Cp)|(with_reducible apply Cq));(focus simp only[Nat.reduceAdd]<;>rfl);(focus simp(disch:=omega)only[go_sem,AR,List.length_replicate]<;>rfl);(focus first|(simp(disch:=omega)only[go_sem,AR,List.length_replicate]<;>rfl)|rfl))|with_reducible apply BA|with_reducible apply BB|with_reducible apply BF|with_reducible apply BG|with_reducible apply B7|with_reducible apply B8|with_reducible apply B9|with_reducible apply Ba rfl|with_reducible apply Bd|with_reducible apply Be|with_reducible apply Bf|with_reducible apply Cu|with_reducible apply Cv|with_reducible apply AG|with_reducible apply B4|with_reducible apply Bz|with_reducible apply AH|with_reducible apply AI|((with_reducible apply DY);(focus first|(simp(disch:=omega)only[go_sem,AR,List.length_replicate]<;>rfl)|rfl))|((with_reducible apply DW);(focus first|(simp(disch:=omega)only[go_sem,AR,List.length_replicate]<;>rfl)|rfl))|((with_reducible apply BD);(focus rfl))|((with_reducible apply BC);(focus rfl);(focus rfl))|(with_reducible rfl)|((with_reducible show List.map Ad _=_);simp only[List.map_cons,List.map_nil,Ad,C5];rfl)|((with_reducible show AM _ _=true);kernel_rfl)|((with_reducible show _=_);simp(disch:=omega)only[go_sem,AR,List.length_replicate]<;>rfl)|((fail_if_success (with_reducible show Ev _ _ _ _ (_::_) _ _ _ _ _));(show Ev _ _ _ _ (_::_) _ _ _ _ _))|fail)
  refine A8 (fun j:Nat=>j≤M) (fun j=>[(2,.d (.sl 1 (is w))),(7,.d (.sl 1 (HT all))),(8,.d (.sl 1 (us (List.replicate M 18446744073709551615)))),(9,.tab 20000 all.length),(58,.d (.int .i64 all.length)),(59,.d (.int .i64 i)),(11,.d (.int .i64 i)),(63,.d (.int .i64 M)),(64,.d (.int .i64 j))]) (fun j=>[(20000,.tab TU (tt (HV all w i j (GD all w i))) none)]) 20001 (fun j=>M-j) [2,7,8,9,58,59,11,63,64] [20000] 0 (Nat.zero_le _) rfl rfl (Nat.zero_le _) (fun _ _=>rfl) (fun _ _=>rfl) fun j hj=>?_;have hdj:=P5 hS hi2 hd j (by omega);have ht:=hdj.good.shape.1;have hr:∀a,a<all.length→((HV all w i j (GD all w i))[a]!).length=M:=fun a ha=>by rw[hM];exact hdj.good.shape.2 a ha
  have hri:=hr i hi2;by_cases hj2:j<M
  ·by_cases hinf:((HV all w i j (GD all w i))[i]!)[j]! =18446744073709551615
   ·have hst:=XF hS hdj hi2 (by omega) hinf;refine Au (And.intro @ht (And.intro @hri (And.intro @AR @hinf))) ?_;try exact trivial
    refine⟨j+1,by omega,?_,?_,by omega⟩
    ·exact Ei
    ·exact Hq @hst
   ·refine Au (And.intro @ht (And.intro @hri (And.intro @AR @hinf))) ?_;try exact trivial
    refine A8 (fun k:Nat=>k≤(all[i]!).length) (fun k=>[(2,.d (.sl 1 (is w))),(7,.d (.sl 1 (HT all))),(8,.d (.sl 1 (us (List.replicate M 18446744073709551615)))),(9,.tab 20000 all.length),(58,.d (.int .i64 all.length)),(59,.d (.int .i64 i)),(11,.d (.int .i64 i)),(12,.d (.int .i64 j)),(63,.d (.int .i64 M)),(64,.d (.int .i64 j)),(78,.d (.sl 4 (LV (all[i]!)))),(79,.d (.int .i64 (all[i]!).length)),(80,.d (.int .i64 k))]) (fun k=>[(20000,.tab TU (tt (Km all w i j k (HV all w i j (GD all w i)))) none)]) 20001 (fun k=>(all[i]!).length-k) [2,7,8,9,58,59,11,12,63,64,78,79,80] [20000] 0 (Nat.zero_le _) rfl rfl (Nat.zero_le _) (fun _ _=>rfl) (fun _ _=>rfl) fun k hkl=>?_;have hlim:=hsl i (by omega);have hdk:=(P6 hS hi2 (by omega) hdj k hkl).1;have hst:=fun(h:k<(all[i]!).length)=>P7 (w:=w) (j:=j) (t:=HV all w i j (GD all w i)) h;have htk:=hdk.good.shape.1;have hrk:∀a,a<all.length→((Km all w i j k (HV all w i j (GD all w i)))[a]!).length=M:=fun a ha=>by rw[hM];exact hdk.good.shape.2 a ha
    have hu:=hdk.good.u;by_cases hk2:k<(all[i]!).length
    ·have hst:=hst hk2;have hmem:(all[i]!)[k]!∈all[i]! :=by rw[getElem!_pos (all[i]!) k hk2];exact List.getElem_mem _
     obtain⟨q1,q2,q3,q4⟩:=hS i hi2 _ hmem;have q5:=hput i (by omega) _ hmem;generalize htK:Km all w i j k (HV all w i j (GD all w i))=t at *;generalize hsv:(all[i]!)[k]! =s at *;obtain⟨eat,put,any,cost⟩:=s;simp only at q1 q2 q3 q4 q5;obtain⟨e,rfl⟩:=Int.eq_ofNat_of_zero_le q1;simp only[Int.toNat_natCast]at q2 q4;have cp:=dJ (s:=⟨e,put,any,cost⟩) (w:=w.drop j) (by simp only[List.length_drop];omega) (by simp only;omega);unfold se at cp;simp only at cp;cases hpn:C6 ⟨e,put,any,cost⟩ w j with
     |none =>
      have ep:G5 ⟨e,put,any,cost⟩ (w.drop j) 0 = -1:=by unfold G5;rw[Ny,hpn]
      rw[ep]at cp;have hx:FJ w i j t ⟨e,put,any,cost⟩=t:=by unfold FJ;rw[hpn]
      rw[hx]at hst;have c0_:=cp;refine Au @hsv ?_;try exact trivial
      refine⟨k+1,by omega,?_,?_,by omega⟩
      ·exact Ei
      ·exact Hq @hst
     |some n =>
      have ep:G5 ⟨e,put,any,cost⟩ (w.drop j) 0=n:=by unfold G5;rw[Ny,hpn]
      rw[ep]at cp;have hjn:=Ka (by omega) hpn;have hx:FJ w i j t ⟨e,put,any,cost⟩=t.set (i+e) ((t[i+e]!).set (j+n) (min ((t[i+e]!)[j+n]!) (BM ((t[i]!)[j]!) cost))):=by
       unfold FJ FM Ap;simp only[hpn,Int.toNat_natCast]
      rw[hx]at hst;have hr1:=hrk (i+e) q2;have hr2:=hrk i hi2;have u1:U ((t[i]!)[j]!):=hu i j hi2 (by omega);have u2:U ((t[i+e]!)[j+n]!):=hu (i+e) (j+n) q2 (by omega);have c1:=JT u1 q3;have c2:=Hn u2 (Gt u1 q3);have ei:(i:Int)+(e:Int)=((i+e:Nat):Int):=by omega
      have ej:(j:Int)+(n:Int)=((j+n:Nat):Int):=by omega
      have c0_:=cp;have c1_:=c1;have c2_:=c2;refine Au (And.intro @hsv (And.intro @htk (And.intro @hr1 (And.intro @hr2 (And.intro @ei (And.intro @ej @AR)))))) ?_;try exact trivial
      refine⟨k+1,by omega,?_,?_,by omega⟩
      ·exact Ei
      ·exact Hq @hst
    have hkk:k=(all[i]!).length:=by omega
    subst hkk;have hst2:=Lg all w i j (GD all w i);refine Ao ?_;try exact trivial
    refine⟨j+1,by omega,?_,?_,by omega⟩
    ·exact Ei
    ·exact Hq @hst2
  ·have hjm:j=M:=by omega
   have hst3:=P4 all w i;rw[← hM]at hst3;subst hjm;refine Ao ?_;try exact trivial
   refine⟨i+1,by omega,?_,?_,by omega⟩
   ·exact Ei
   ·exact Hq @hst3
 have hin:i=all.length:=by omega
 subst hin;have hT:(GD all w all.length).length=all.length:=(IX hS h0 _ (Nat.le_refl _)).good.shape.1;refine Au @hT ?_;try exact trivial
end Go.Eng.Tryz

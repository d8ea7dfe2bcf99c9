/- Searches: what is asked; what a step costs beyond a beginning; a beginning's bound. (and what stands behind it: texts laid together) -/
import Derived.Test.YtooblcpmpemhfaaGreatDoorMG4
import Derived.Test.YtooblcpmpemhfaaGreatDoorMR23
import Derived.Test.YtooblcpmpemhfaaGreatDoorMR11
set_option linter.unusedVariables false
set_option linter.unusedSimpArgs false
open Go Go.Eng Go.Proofs Go.RowKit
set_option maxHeartbeats 32000000
set_option maxRecDepth 100000
namespace Go.Eng.Tryz
attribute [local go_sem] Aq As Bb Bh AP AO Az Ax Ch Cg Ef Ee Gp Gn JG JF AR NP
def Lp(l:List Ak)(c:Co)(q:List Int):Int:=if Qu l c≠0 then Qu l c else if 20<q.length then 90 else 0
theorem I1{l:List Ak}{c:Co}{q:List Int}:Lp l c q=0↔Qu l c=0∧q.length≤20:=by
 unfold Lp;by_cases h:Qu l c=0
 ·rw[if_neg (by simp[h])];split
  ·rename_i h2;constructor
   ·intro h3;exact absurd h3 (by decide)
   ·rintro⟨_,h3⟩;omega
  ·rename_i h2;exact⟨fun _=>⟨h,by omega⟩,fun _=>rfl⟩
 ·rw[if_pos h];exact⟨fun h2=>absurd h2 h,fun h2=>absurd h2.1 h⟩
theorem EL{l:List Ak}{c:Co}{q:List Int}(h:Lp l c q=0):LS c q l=true∧Fq l≤20∧achk l=true∧Mh c q=true∧Lq c=true∧q.length≤20∧Dn l≤300:=by
 obtain⟨h1,h2⟩:=I1.1 h;obtain⟨a1,a2,a3,a4,_⟩:=OW.1 h1;have hm:Mh c q=true:=Fm.2 ⟨h2,a2⟩;exact⟨by unfold LS;rw[hm,a1];rfl,by omega,a1,hm,a2,h2,by omega⟩
theorem RL{l:List Ak}{c:Co}{q:List Int}(hl:Bt l)(hc:c.ok)(hq:q.length≤9223372036854775807):A3 Tryz.prog 103 [im l c,.sl 1 (is q)] (.int .i64 (Lp l c q)):=by
 have c1:=Qb hl hc;unfold Lp;by_cases h:Qu l c=0
 ·rw[if_neg (by simp[h])];rw[h]at c1;unfold im at *;by_cases h2:20<q.length
  ·rw[if_pos h2];refine A6 14 Tryz.func103 Ah fun X_ w_=>?_;have c0_:=c1;refine Ao ?_;try exact trivial
  ·rw[if_neg h2];refine A6 14 Tryz.func103 Ah fun X_ w_=>?_;have c0_:=c1;refine Ao ?_;try exact trivial
 ·rw[if_pos h];generalize Qu l c=e at *;unfold im at *;refine A6 14 Tryz.func103 Ah fun X_ w_=>?_;have c0_:=c1;refine Ao ?_;try exact trivial
def My(l:List Ak)(c:Co)(q:List Int)(all:List (List Se))(t:List (List Int)):D:=.agg [.sl 2 (AQ l),.int .u64 c.more,.int .u64 c.less,.int .u64 c.other,.int .u64 c.turned,.sl 3 (rs c.rules),.sl 1 (is q),.sl 1 (HT all),.sl 1 (tt t)]
theorem ZZ{l:List Ak}{c:Co}{q:List Int}(hl:Bt l)(hc:c.ok)(hq:q.length≤9223372036854775807)(h:Lp l c q=0):A3 Tryz.prog 104 [im l c,.sl 1 (is q)] (My l c q (Bj c q (q.length+1)) (CJ c q l)):=by
 have c1:=X5 hc hq;have c2:=fI hc hq hl;rw[show FD c q=Bj c q (q.length+1)from if_pos (EL h).2.2.2.1]at c1;generalize Bj c q (q.length+1)=all at *;generalize CJ c q l=t at *;unfold co at c1 c2;unfold im My;refine A6 18 Tryz.func104 Ah fun X_ w_=>?_;have c0_:=c1;have c1_:=c2;refine Ao ?_;try exact trivial
theorem Rt{l:List Int}{k:Nat}:(is l).take k=is (l.take k):=by simp[is,List.map_take]
theorem Wx{l:List Int}{k:Nat}:(is l).drop k=is (l.drop k):=by simp[is,List.map_drop]
attribute [local go_sem] Rt Wx
theorem dF{l:List Ak}{c:Co}{q:List Int}{all:List (List Se)}{t:List (List Int)}{s:Se}{i at_:Nat}{e:List Int}(hl:Bt l)(hka:achk l=true)(hat:at_<l.length)(ht:t.length≤1000000)(hrow:∀i,i<t.length→(t[i]!).length=l.length)(hU:∀i j,i<t.length→j<l.length→U (Ap t i j))
 (he0:0≤s.eat) (hi:i+s.eat.toNat<t.length) (hs:U s.cost) (hput:s.put.length≤1000000) (he:e.length≤1000000):A3 Tryz.prog 171 [My l c q all t,se s,.int .i64 i,.int .i64 at_,.sl 1 (is e)] (.int .u64 (Do l t s i at_ e)):=by
 have ce:=Ij (a:=s.put.take e.length) (b:=e) (by simp only[List.length_take];omega) (by omega);have cl:=X9 (f:=at_) (w:=s.put.drop e.length) hl (by simp only[List.length_drop];omega);have hlen:=(Aw.1 hka).2.2;unfold Do;obtain⟨eat,put,any,cost⟩:=s;simp only at he0 hi hs hput ce cl ⊢;obtain⟨d,rfl⟩:=Int.eq_ofNat_of_zero_le he0;simp only[Int.toNat_natCast]at hi ⊢;unfold se My;by_cases h1:put.length≤e.length
 ·rw[if_pos (.inl h1)];refine A6 58 Tryz.func171 Cx fun X_ w_=>?_;refine Ao ?_;try exact trivial
 by_cases h2:put.take e.length=e;rotate_left
 ·rw[if_pos (.inr h2)];rw[decide_eq_false h2]at ce;refine A6 58 Tryz.func171 Cx fun X_ w_=>?_;have c0_:=ce;refine Ao ?_;try exact trivial
 rw[if_neg (by simp[h1,h2])];rw[decide_eq_true h2]at ce;cases hg:ER l at_ (put.drop e.length)with
 |none =>
  rw[hg]at cl;unfold FC at cl;refine A6 58 Tryz.func171 Cx fun X_ w_=>?_;have c0_:=ce;have c1_:=cl;refine Ao ?_;try exact trivial
 |some k =>
  rw[hg]at cl;unfold FC at cl;have hk:0≤k∧k<l.length:=by
   unfold ER at hg;rw[if_pos ⟨by omega,by omega⟩]at hg;have:=DB hka (by omega) (by omega) hg;omega
  obtain⟨x,rfl⟩:=Int.eq_ofNat_of_zero_le hk.1;have hu:=hU (i+d) x hi (by omega);have ca:=JT hs hu;have hr:=hrow (i+d) hi;have ei:(i:Int)+(d:Int)=((i+d:Nat):Int):=by omega
  simp only[Int.toNat_natCast];unfold Ap at ca ⊢;refine A6 58 Tryz.func171 Cx fun X_ w_=>?_;have c0_:=ce;have c1_:=cl;have c2_:=ca;refine Au (And.intro @ei @hr) ?_;try exact trivial
theorem Yd(all:List (List Se))(l:List Ak)(t T:List (List Int))(u:List Int)(at_ k:Nat):(List.range (k+1)).foldl (bI all l t T u at_) 18446744073709551615=bI all l t T u at_ ((List.range k).foldl (bI all l t T u at_) 18446744073709551615) k:=by simp[List.range_succ]
theorem Ye(all:List (List Se))(l:List Ak)(t T:List (List Int))(u:List Int)(i at_ m:Nat)(x:Int):(List.range (m+1)).foldl (bJ all l t T u i at_) x=bJ all l t T u i at_ ((List.range m).foldl (bJ all l t T u i at_) x) m:=by simp[List.range_succ]
theorem W9{a b:Int}(ha:U a)(hb:U b):U (min a b):=by unfold U at *;omega
theorem W8:U 18446744073709551615:=⟨by decide,by decide⟩
theorem bn{l:List Ak}{t:List (List Int)}{s:Se}{i at_:Nat}{e:List Int}(hka:achk l=true)(hat:at_<l.length)(hs:U s.cost)(hU:∀j,j<l.length→U (Ap t (i+s.eat.toNat) j)):U (Do l t s i at_ e):=by
 unfold Do;split
 ·exact W8
 ·cases hg:ER l at_ (s.put.drop e.length)with
  |none=>exact W8
  |some k =>
   have hk:0≤k∧k<l.length:=by
    unfold ER at hg;rw[if_pos ⟨by omega,by omega⟩]at hg;have:=DB hka (by omega) (by omega) hg;omega
   exact Gt hs (hU k.toNat (by omega))
theorem aB{l:List Ak}{t T:List (List Int)}{u:List Int}{i at_ j:Nat}(hT:U (Ap T i j)):∀(ss:List Se) (m:Int),U m→(∀s∈ss,U (Do l t s i at_ (u.drop j)))→U (ss.foldl (bS l t T u i at_ j) m)
 | [],m,hm,_=>hm
 |s::ss,m,hm,h=>by
  simp only[List.foldl_cons];exact aB hT ss _ (W9 hm (Gt hT (h s (by simp)))) fun x hx=>h x (by simp[hx])
theorem aA{all:List (List Se)}{l:List Ak}{t T:List (List Int)}{u:List Int}{i at_:Nat}:∀(js:List Nat) (m:Int),U m→(∀j∈js,U (Ap T i j)∧∀s∈all[i]!,U (Do l t s i at_ (u.drop j)))→U (js.foldl (bJ all l t T u i at_) m)
 | [],m,hm,_=>hm
 |j::js,m,hm,h=>by
  simp only[List.foldl_cons];obtain⟨h1,h2⟩:=h j (by simp);exact aA js _ (aB h1 _ _ hm h2) fun x hx=>h x (by simp[hx])
theorem cN{all:List (List Se)}{l:List Ak}{t T:List (List Int)}{u:List Int}{at_:Nat}:∀(is_:List Nat) (m:Int),U m→(∀i∈is_,U (Ap t i at_)∧(∀j,j≤u.length→U (Ap T i j))∧∀j,j<u.length→∀s∈all[i]!,U (Do l t s i at_ (u.drop j)))→U (is_.foldl (bI all l t T u at_) m)
 | [],m,hm,_=>hm
 |i::is_,m,hm,h=>by
  simp only[List.foldl_cons];obtain⟨h1,h2,h3⟩:=h i (by simp);exact cN is_ _ (aA _ _ (W9 hm (Gt (h2 _ (Nat.le_refl _)) h1)) fun j hj=>⟨h2 j (by have:=List.mem_range.1 hj;omega),h3 j (List.mem_range.1 hj)⟩) fun x hx=>h x (by simp[hx])
theorem Q7{l:List Ak}{c:Co}{q u:List Int}{at_:Nat}(hl:Bt l)(hc:c.ok)(hk:Lp l c q=0)(hat:at_<l.length)(hu:u.length≤1000000) :
 A3 Tryz.prog 107 [My l c q (Bj c q (q.length+1)) (CJ c q l),.sl 1 (is u),.int .i64 at_] (.int .u64 (FF c q l u at_)):=by
 obtain⟨hm,hd,hka,hmy,hck,hq,_⟩:=EL hk;obtain⟨_,_,_,ht⟩:=Lf hc hm;unfold FF;by_cases hul:u.length≤20;rotate_left
 ·rw[if_neg hul];have cT:=Uf hc (by omega) (by omega) (q:=q) (w:=u) (fun h=>hul h.2);unfold co at cT;unfold My;refine A6 78 Tryz.func107 B6 fun X_ w_=>?_;have c0_:=cT;refine Ao ?_;try exact trivial
  refine De ?_;refine Ao ?_;try exact trivial
 rw[if_pos hul];have cT:=Ue (q:=q) (w:=u) hc hmy hul;have hS:=Kn hc hck q;have hW:=Eo hc hck q u;have hlen:=BW c q (q.length+1);have hg:=H3 hW (by omega);have hput:∀i,i<q.length+1→∀s∈(Bj c q (q.length+1))[i]!,s.put.length≤8:=fun i hi s hs=>by
  rw[EI c q hi]at hs;exact(Kk hc hck hs).2.2.2.1
 have hsl:∀i,i<q.length+1→((Bj c q (q.length+1))[i]!).length≤1000:=fun i hi=>by
  obtain⟨k1,k2⟩:=Iw hck;rw[EI c q hi];have h1:=Mk c (q.drop i);have h2:=Ml (q.drop i) c.rules;unfold Lc;simp only[List.length_append];omega
 have hllen:=Aw.1 hka;generalize Bj c q (q.length+1)=all at *;generalize CJ c q l=t at *;generalize Qv all u=T at *;have hU:∀i j,i<t.length→j<l.length→U (Ap t i j):=fun i j hi hj=>(ht.fix i j (by have:=ht.len;omega) hj).2;have hTl:=hg.shape.1;have htl:=ht.len;have hrow:∀i,i<t.length→(t[i]!).length=l.length:=fun i hi=>ht.rows i (by omega);have hov:∀i,i<all.length→∀s∈all[i]!,∀e:List Int,U (Do l t s i at_ e):=fun i hi s hs e=>by
  obtain⟨s1,s2,s3,s4⟩:=hS i hi s hs;exact bn hka hat s3 fun j hj=>hU _ j (by omega) hj
 have hmI:∀k,k≤all.length→U ((List.range k).foldl (bI all l t T u at_) 18446744073709551615):=fun k hk=>cN _ _ W8 fun i hi=>by
  have hi:=List.mem_range.1 hi;exact⟨hU i at_ (by omega) hat,fun j hj=>hg.u i j (by omega) (by omega),fun j hj s hs=>hov i (by omega) s hs _⟩
 unfold EJ;unfold co at cT;unfold My;refine A6 78 Tryz.func107 B6 fun X_ w_=>?_;have c0_:=cT;refine Ao ?_;try exact trivial
 refine A8 (fun k:Nat=>k≤all.length) (fun k=>[(1,.d (.sl 1 (is u))),(2,.d (.int .i64 at_)),(3,.ref 0 0),(7,.d (.int .u64 ((List.range k).foldl (bI all l t T u at_) 18446744073709551615))),(19,.d (.sl 1 (tt T))),(20,.d (.int .i64 all.length)),(21,.d (.int .i64 k))])
  (fun k=>[(0,.var [.d (.sl 2 (AQ l)),.d (.int .u64 c.more),.d (.int .u64 c.less),.d (.int .u64 c.other),.d (.int .u64 c.turned),.d (.sl 3 (rs c.rules)),.d (.sl 1 (is q)),.d (.sl 1 (HT all)),.d (.sl 1 (tt t))])]) 20001 (fun k=>all.length-k) [1,2,3,7,19,20,21] [0] 0 (Nat.zero_le _) (by rw[← hTl];rfl) rfl (Nat.le_of_ble_eq_true rfl) (fun _ _=>rfl) (fun _ _=>rfl) fun k hk'=>?_
 by_cases hk2:k<all.length;rotate_left
 ·have hkl:k=all.length:=by omega
  subst hkl;refine Ao ?_;try exact trivial
 have hm0:=hmI k (by omega);have hst0:=Yd all l t T u at_ k;have c1:=hg.u k u.length hk2 (by omega);have c2:=hU k at_ (by omega) hat
 have ca:=JT c1 c2;have cl:=Hn hm0 (Gt c1 c2);have r1:=hg.shape.2 k hk2;have r2:=hrow k (by omega);have r3:=hsl k (by omega);generalize(List.range k).foldl (bI all l t T u at_) 18446744073709551615=m at *;have hm1:=W9 hm0 (Gt c1 c2);have hbI:bI all l t T u at_ m k=(List.range u.length).foldl (bJ all l t T u k at_) (min m (BM (Ap T k u.length) (Ap t k at_))):=rfl;unfold Ap at ca cl;have c0_:=ca;have c1_:=cl;refine Au (And.intro @r1 (And.intro @r2 (And.intro @hTl @htl))) ?_;try exact trivial
 have em:min m (BM ((T[k]!)[u.length]!) ((t[k]!)[at_]!))=min m (BM (Ap T k u.length) (Ap t k at_)):=rfl;rw[em];generalize min m (BM (Ap T k u.length) (Ap t k at_))=m1 at *;refine A8 (fun j:Nat=>j≤u.length) (fun j=>[(1,.d (.sl 1 (is u))),(2,.d (.int .i64 at_)),(3,.ref 0 0),(7,.d (.int .u64 ((List.range j).foldl (bJ all l t T u k at_) m1))),(8,.d (.int .i64 k)),(9,.d (.sl 1 (us (T[k]!)))),(19,.d (.sl 1 (tt T))),(20,.d (.int .i64 all.length)),(21,.d (.int .i64 k)),(44,.d (.int .i64 u.length)),(45,.d (.int .i64 j))])
  (fun j=>[(0,.var [.d (.sl 2 (AQ l)),.d (.int .u64 c.more),.d (.int .u64 c.less),.d (.int .u64 c.other),.d (.int .u64 c.turned),.d (.sl 3 (rs c.rules)),.d (.sl 1 (is q)),.d (.sl 1 (HT all)),.d (.sl 1 (tt t))])]) 40000 (fun j=>u.length-j) [1,2,3,7,8,9,19,20,21,44,45] [0] 0 (Nat.zero_le _) rfl rfl (Nat.le_of_ble_eq_true rfl) (fun _ _=>rfl) (fun _ _=>rfl) fun j hj=>?_
 by_cases hj2:j<u.length;rotate_left
 ·have hjl:j=u.length:=by omega
  subst hjl;refine Ao ?_;try exact trivial
  refine⟨k+1,by omega,?_,?_,by omega⟩
  ·rw[hst0,hbI];exact Ei
  ·exact GL
 have hst1:=Ye all l t T u k at_ j m1;have hmJ:U ((List.range j).foldl (bJ all l t T u k at_) m1):=aA _ _ hm1 fun x hx=>by
  have hx:=List.mem_range.1 hx;exact⟨hg.u k x hk2 (by omega),fun s hs=>hov k hk2 s hs _⟩
 generalize(List.range j).foldl (bJ all l t T u k at_) m1=m2 at *;have hbJ:bJ all l t T u k at_ m2 j=(all[k]!).foldl (bS l t T u k at_ j) m2:=rfl;refine Au (And.intro @r1 (And.intro @r2 (And.intro @hTl @htl))) ?_;try exact trivial
 refine A8 (fun x:Nat=>x≤(all[k]!).length) (fun x=>[(1,.d (.sl 1 (is u))),(2,.d (.int .i64 at_)),(3,.ref 0 0),(7,.d (.int .u64 (((all[k]!).take x).foldl (bS l t T u k at_ j) m2))),(8,.d (.int .i64 k)),(9,.d (.sl 1 (us (T[k]!)))),(10,.d (.int .i64 j)),(19,.d (.sl 1 (tt T))),(20,.d (.int .i64 all.length)),(21,.d (.int .i64 k)),(44,.d (.int .i64 u.length)),(45,.d (.int .i64 j)),(52,.d (.sl 4 (LV (all[k]!)))),(53,.d (.int .i64 (all[k]!).length)),(54,.d (.int .i64 x))])
  (fun x=>[(0,.var [.d (.sl 2 (AQ l)),.d (.int .u64 c.more),.d (.int .u64 c.less),.d (.int .u64 c.other),.d (.int .u64 c.turned),.d (.sl 3 (rs c.rules)),.d (.sl 1 (is q)),.d (.sl 1 (HT all)),.d (.sl 1 (tt t))])]) 60000 (fun x=>(all[k]!).length-x) [1,2,3,7,8,9,10,19,20,21,44,45,52,53,54] [0] 0 (Nat.zero_le _) rfl rfl (Nat.le_of_ble_eq_true rfl) (fun _ _=>rfl) (fun _ _=>rfl) fun x hx=>?_
 by_cases hx2:x<(all[k]!).length;rotate_left
 ·have hxl:x=(all[k]!).length:=by omega
  subst hxl;rw[List.take_length];refine Ao ?_;try exact trivial
  refine⟨j+1,by omega,?_,?_,by omega⟩
  ·rw[hst1,hbJ];exact Ei
  ·exact GL
 have hmem:(all[k]!)[x]!∈all[k]! :=by rw[getElem!_pos (all[k]!) x hx2];exact List.getElem_mem _
 obtain⟨s1,s2,s3,s4⟩:=hS k hk2 _ hmem;have s5:=hput k (by omega) _ hmem;have hmS:U (((all[k]!).take x).foldl (bS l t T u k at_ j) m2):=aB (hg.u k j hk2 (by omega)) _ _ hmJ fun s hs=>hov k hk2 s (List.mem_of_mem_take hs) _;have hst2:=CZ (bS l t T u k at_ j) m2 hx2;generalize((all[k]!).take x).foldl (bS l t T u k at_ j) m2=m3 at *;have co':=dF (l:=l) (c:=c) (q:=q) (all:=all) (t:=t) (s:=(all[k]!)[x]!) (i:=k) (at_:=at_) (e:=u.drop j) hl hka hat (by omega) hrow hU s1 (by omega) s3 (by omega) (by simp only[List.length_drop];omega);have hoU:=hov k hk2 _ hmem (u.drop j);have hTj:=hg.u k j hk2 (by omega);have hbS:bS l t T u k at_ j m3 ((all[k]!)[x]!)=min m3 (BM (Ap T k j) (Do l t ((all[k]!)[x]!) k at_ (u.drop j))):=rfl;have cb:=JT hTj hoU;have cm:=Hn hmS (Gt hTj hoU);rw[hbS]at hst2;generalize Do l t ((all[k]!)[x]!) k at_ (u.drop j)=ov at *;unfold Ap at cb cm hst2;unfold se My at co';have c0_:=co';have c1_:=cb;have c2_:=cm;refine Au (And.intro @r1 (And.intro @r2 (And.intro @hTl @htl))) ?_;try exact trivial
 refine⟨x+1,by omega,?_,?_,by omega⟩
 ·exact Sf @hst2
 ·exact GL
end Go.Eng.Tryz

/- The least automaton, plainly, part 2: what is merged, and what is made, is told by what may follow. (and what stands behind it: texts laid together) -/
import Derived.Test.YtooblcpmpemhfaaGreatDoorMR20
import Derived.Test.YtooblcpmpemhfaaGreatDoorMG4
set_option linter.unusedVariables false
set_option linter.unusedSimpArgs false
open Go Go.Eng Go.Proofs Go.RowKit
set_option maxHeartbeats 32000000
set_option maxRecDepth 100000
namespace Go.Eng.Tryz
def FK(L:List (List Int))(u v:List Int):Prop:=∀w,u++w∈L↔v++w∈L
def Bg(L:List (List Int))(u:List Int):Prop:=u=[]∨∃w∈L,u <+: w
theorem FK.refl{L:List (List Int)}(u:List Int):FK L u u:=fun _=>Iff.rfl
theorem FK.symm{L:List (List Int)}{u v:List Int}(h:FK L u v):FK L v u:=fun w=>(h w).symm
theorem FK.trans{L:List (List Int)}{u v w:List Int}(h:FK L u v)(k:FK L v w):FK L u w:=fun x=>(h x).trans (k x)
theorem FK.ext{L:List (List Int)}{u v:List Int}(h:FK L u v)(x:List Int):FK L (u++x) (v++x):=fun w=>by
 rw[List.append_assoc,List.append_assoc];exact h _
theorem FK.mem{L:List (List Int)}{u v:List Int}(h:FK L u v):u∈L↔v∈L:=by
 have:=h [];simpa using this
theorem FK.bg{L:List (List Int)}{u v x:List Int}(h:FK L u v)(hx:x≠[])(hb:Bg L (u++x)):Bg L (v++x):=by
 rcases hb with hb|⟨w,hw,⟨t,rfl⟩⟩
 ·simp only[List.append_eq_nil_iff]at hb;exact absurd hb.2 hx
 ·refine .inr ⟨v++x++t,?_,List.prefix_append _ _⟩;rw[List.append_assoc]at hw ⊢;exact(h _).1 hw
theorem Bg.cut{L:List (List Int)}{u x:List Int}(h:Bg L (u++x)):Bg L u:=by
 rcases h with h|⟨w,hw,hp⟩
 ·simp only[List.append_eq_nil_iff]at h;exact .inl h.1
 ·exact .inr ⟨w,hw,(List.prefix_append _ _).trans hp⟩
theorem Ik{α:Type}{R:α→α→Prop}(hi:∀a,¬R a a)(ha:∀a b,R a b→¬R b a):∀{l m:List α},l.Pairwise R→m.Pairwise R→(∀x,x∈l↔x∈m)→l=m
 | [],[],_,_,_=>rfl
 | [],b::m,_,_,h=>absurd ((h b).2 (by simp)) (by simp)
 |a::l,[],_,_,h=>absurd ((h a).1 (by simp)) (by simp)
 |a::l,b::m,hl,hm,h=>by
  rw[List.pairwise_cons]at hl hm;have e:a=b:=by
   rcases List.mem_cons.1 ((h a).1 (by simp))with h1|h1
   ·exact h1
   ·rcases List.mem_cons.1 ((h b).2 (by simp))with h2|h2
    ·exact h2.symm
    ·exact absurd (hl.1 b h2) (ha _ _ (hm.1 a h1))
  subst e;refine congrArg _ (Ik hi ha hl.2 hm.2 fun x=>⟨fun hx=>?_,fun hx=>?_⟩)
  ·rcases List.mem_cons.1 ((h x).1 (List.mem_cons_of_mem _ hx))with h1|h1
   ·subst h1;exact absurd (hl.1 _ hx) (hi _)
   ·exact h1
  ·rcases List.mem_cons.1 ((h x).2 (List.mem_cons_of_mem _ hx))with h1|h1
   ·subst h1;exact absurd (hm.1 _ hx) (hi _)
   ·exact h1
theorem Yb{l m:List Ar}(hl:l.Pairwise fun a b=>a.sign<b.sign)(hm:m.Pairwise fun a b=>a.sign<b.sign)(h:∀x,x∈l↔x∈m):l=m :=
 Ik (R:=fun a b:Ar=>a.sign<b.sign) (fun a=>by omega) (fun a b h=>by omega) hl hm h
theorem eO{α:Type}[Inhabited α]{l:List α}{k:Nat}(h:k<l.length):l[k]? =some (l[k]!):=by
 rw[List.getElem?_eq_getElem h,getElem!_pos l k h]
theorem cZ{α:Type}[Inhabited α]{l:List α}{k:Nat}(h:k<l.length):l[k]!∈l:=by
 rw[getElem!_pos l k h];exact List.getElem_mem h
section
variable {L:List (List Int)} {l:List Ak} {B:List (List Int)}
theorem BR.at(h:BR L l B){p:Nat}(hp:p<l.length):B[p]? =some (B[p]!):=eO (by rw[h.len];exact hp)
theorem BR.bg(h:BR L l B)(u:List Int):u∈B↔Bg L u:=h.mem u
theorem BR.plc(h:BR L l B){u:List Int}(hu:Bg L u):∃p,p<l.length∧B[p]! =u:=by
 obtain⟨k,hk⟩:=h.idx ((h.bg u).2 hu);obtain⟨h1,_⟩:=List.getElem?_eq_some_iff.1 hk;exact⟨k,by rw[← h.len];exact h1,V6 hk⟩
theorem BR.arc(h:BR L l B){p:Nat}(hp:p<l.length){a:Ar}(ha:a∈(l[p]!).arcs):0≤a.to∧p<a.to.toNat∧a.to.toNat<l.length∧B[a.to.toNat]! =B[p]!++[a.sign]:=by
 obtain⟨f1,f2,f3⟩:=h.fwd hp ha;exact⟨f1,f2,f3,V6 ((h.arcs p _ (h.at hp) a).1 ha).2⟩
theorem BR.arc_of(h:BR L l B){p:Nat}(hp:p<l.length){z:Int}(hz:Bg L (B[p]!++[z])):∃t:Nat,t<l.length∧B[t]! =B[p]!++[z]∧(⟨z,t⟩:Ar)∈(l[p]!).arcs:=by
 obtain⟨t,h1,h2⟩:=h.plc hz;refine⟨t,h1,h2,(h.arcs p _ (h.at hp) _).2 ⟨by simp,?_⟩⟩;simp only[Int.toNat_natCast];rw[h.at h1,h2]
theorem BR.inj(h:BR L l B){p q:Nat}(hp:p<l.length)(hq:q<l.length)(e:B[p]! =B[q]!):p=q :=
 Kj h.srt (h.at hp) (by rw[h.at hq,e])
theorem BR.fin'(h:BR L l B){p:Nat}(hp:p<l.length):(l[p]!).final=true↔B[p]!∈L:=h.fin p _ (h.at hp)
theorem BR.bgp(h:BR L l B){p:Nat}(hp:p<l.length):Bg L (B[p]!):=(h.bg _).1 (cZ (by rw[h.len];exact hp))
theorem K3(h:BR L l B){of:List Int}{p:Nat}(hp:p<l.length):(Cc of (l[p]!)).arcs.Pairwise fun a b=>a.sign<b.sign:=by
 unfold Cc;simp only[List.pairwise_map];exact h.ris p _ (h.at hp)
theorem PZ(h:BR L l B){of:List Int}{lo:Nat}(heq:∀p q,lo≤p→p<l.length→lo≤q→q<l.length→(of[p]! =of[q]!↔FK L (B[p]!) (B[q]!))){p q:Nat}(hp0:lo≤p+1)(hp:p<l.length)(hq0:lo≤q+1)(hq:q<l.length):Cc of (l[p]!)=Cc of (l[q]!)↔FK L (B[p]!) (B[q]!):=by
 constructor
 ·intro hk;have key:∀{p q:Nat},lo≤p+1→p<l.length→lo≤q+1→q<l.length→Cc of (l[p]!)=Cc of (l[q]!)→∀w,B[p]!++w∈L→B[q]!++w∈L:=by
   intro p q hp0 hp hq0 hq hk w hw;simp only[Cc,Ak.mk.injEq]at hk;cases w with
   |nil =>
    rw[List.append_nil]at hw ⊢;rw[← h.fin' hq,← hk.1,h.fin' hp];exact hw
   |cons z w =>
    have hz:B[p]!++z::w=B[p]!++[z]++w:=by simp
    obtain⟨t,t1,t2,t3⟩:=h.arc_of hp (z:=z) (.inr ⟨_,hw,by rw[hz];exact List.prefix_append _ _⟩);have hm:Ec of ⟨z,t⟩∈(l[q]!).arcs.map (Ec of):=by rw[← hk.2];exact List.mem_map_of_mem t3
    obtain⟨b,b1,b2⟩:=List.mem_map.1 hm;simp only[Ec,Ar.mk.injEq,Int.toNat_natCast]at b2;obtain⟨g1,g2,g3,g4⟩:=h.arc hq b1;have ht:=(h.arc hp t3).2.1;simp only[Int.toNat_natCast]at ht;have:=(heq _ _ (by omega) g3 (by omega) t1).1 b2.2;rw[g4,t2,b2.1]at this;have:=(this w).2 (by rw[← hz];exact hw);simpa using this
  exact fun w=>⟨key hp0 hp hq0 hq hk w,key hq0 hq hp0 hp hk.symm w⟩
 ·intro he;have e1:(l[p]!).final=(l[q]!).final:=by
   have:=(h.fin' hp).trans (he.mem.trans (h.fin' hq).symm);cases h1:(l[p]!).final<;>cases h2:(l[q]!).final<;>simp_all
  have key:∀{p q:Nat},lo≤p+1→p<l.length→lo≤q+1→q<l.length→FK L (B[p]!) (B[q]!)→∀x,x∈(Cc of (l[p]!)).arcs→x∈(Cc of (l[q]!)).arcs:=by
   intro p q hp0 hp hq0 hq he x hx;obtain⟨a,a1,a2⟩:=List.mem_map.1 hx;obtain⟨g1,g2,g3,g4⟩:=h.arc hp a1;have hb:=h.bgp g3;rw[g4]at hb;obtain⟨t,t1,t2,t3⟩:=h.arc_of hq (he.bg (by simp) hb);have ht:=(h.arc hq t3).2.1;simp only[Int.toNat_natCast]at ht;refine List.mem_map.2 ⟨_,t3,?_⟩;rw[← a2];simp only[Ec,Ar.mk.injEq,Int.toNat_natCast,true_and];refine(heq _ _ (by omega) t1 (by omega) g3).2 ?_;rw[t2,g4];exact he.symm.ext _
  have e2:(Cc of (l[p]!)).arcs=(Cc of (l[q]!)).arcs:=Yb (K3 h hp) (K3 h hq) fun x=>⟨key hp0 hp hq0 hq he x,key hq0 hq hp0 hp he.symm x⟩
  simp only[Cc,Ak.mk.injEq]at e2 ⊢;exact⟨e1,e2⟩
theorem Rv(h:BR L l B){of:List Int}{i p:Nat}{c:Int}(hi:i≤p)(hp:p<l.length)(hof:of.length=l.length):Cc (of.set i c) (l[p]!)=Cc of (l[p]!):=by
 unfold Cc;simp only[Ak.mk.injEq,true_and];refine List.map_congr_left fun a ha=>?_;obtain⟨g1,g2,g3,g4⟩:=h.arc hp ha;simp only[Ec,Ar.mk.injEq,true_and];rw[Bw (by omega),if_neg (by omega)]
theorem WU{m:List (Ak×Int)}{s t:Ak}{c:Int}(h:GU m s=none):GU (m++[(s,c)]) t=if s=t then some c else GU m t:=by
 induction m with
 |nil=>simp[GU]
 |cons x r ih =>
  simp only[GU]at h;split at h
  ·cases h
  ·rename_i hx;simp only[List.cons_append,GU];by_cases h1:x.1=t
   ·rw[if_pos h1,if_neg (by rintro rfl;exact hx h1),if_pos h1]
   ·rw[if_neg h1,if_neg h1,ih h]
structure XW(L:List (List Int))(l:List Ak)(B:List (List Int))(lo:Nat)(S:MS):Prop where
 len:S.of.length=l.length
 rng:∀p,lo≤p→p<l.length→0≤S.of[p]!∧S.of[p]! <S.all.length
 eqv:∀p q,lo≤p→p<l.length→lo≤q→q<l.length→(S.of[p]! =S.of[q]!↔FK L (B[p]!) (B[q]!))
 nam:∀p,lo≤p→p<l.length→GU S.names (Cc S.of (l[p]!))=some (S.of[p]!)
 nm2:∀x∈S.names,∃p,lo≤p∧p<l.length∧x.1=Cc S.of (l[p]!)∧x.2=S.of[p]!
 isr:∀c,c<S.all.length→∃p:Nat,lo≤p∧p<l.length∧(S.all[c]!).is_=p∧S.of[p]! =c
 lng:∀c,c<S.all.length→(∀p,lo≤p→p<l.length→S.of[p]! =c→((B[p]!).length:Int)≤(S.all[c]!).long)∧∃p,lo≤p∧p<l.length∧S.of[p]! =c∧((B[p]!).length:Int)=(S.all[c]!).long
 fst:∀c,c<S.all.length→(∀p,lo≤p→p<l.length→S.of[p]! =c→¬Ae (B[p]!) (S.all[c]!).first<0)∧∃p,lo≤p∧p<l.length∧S.of[p]! =c∧(S.all[c]!).first=B[p]!
theorem Jw{α:Type}[Inhabited α]{l:List α}{k:Nat}{x:α}(h:k<l.length):(l++[x])[k]! =l[k]! :=by
 simp only[List.getElem!_eq_getElem?_getD,List.getElem?_append_left h]
theorem Jx{α:Type}[Inhabited α]{l:List α}{x:α}:(l++[x])[l.length]! =x:=by
 simp[List.getElem!_eq_getElem?_getD]
theorem XW.step(h:BR L l B){i:Nat}{S:MS}(hi:i<l.length)(hs:XW L l B (i+1) S):XW L l B i (G4 l B S i):=by
 obtain⟨a1,a2,a3,a4,a5,a6,a7,a8⟩:=hs;have hcase:∀p,i≤p→p=i∨i+1≤p:=fun p hp=>by omega
 unfold G4;cases hg:GU S.names (Cc S.of (l[i]!))with
 |some c =>
  obtain⟨p0,b1,b2,b3,b4⟩:=a5 _ (Nm hg);simp only at b3 b4;have hE:FK L (B[i]!) (B[p0]!):=(PZ h a3 (Nat.le_refl _) hi (by omega) b2).1 b3;obtain⟨r1,r2⟩:=a2 p0 b1 b2;obtain⟨q,hq⟩:=Int.eq_ofNat_of_zero_le r1;have hcq:c=(q:Int):=by omega
  subst hcq;have hql:q<S.all.length:=by omega
  have ofn:∀p,i+1≤p→(S.of.set i (q:Int))[p]! =S.of[p]! :=fun p hp=>by rw[Bw (by omega),if_neg (by omega)]
  have ofi:(S.of.set i (q:Int))[i]! =q:=by rw[Bw (by omega),if_pos rfl]
  have hkey:∀p,i≤p→p<l.length→Cc (S.of.set i (q:Int)) (l[p]!)=Cc S.of (l[p]!):=fun p h1 h2=>Rv h h1 h2 a1;simp only[Int.toNat_natCast];obtain⟨l1,l2⟩:=a7 q hql;obtain⟨f1,f2⟩:=a8 q hql;have alln:∀(v:Cl) c,c≠q→(S.all.set q v)[c]! =S.all[c]! :=fun v c hc=>by rw[Bw hql,if_neg hc]
  have allq:∀(v:Cl),(S.all.set q v)[q]! =v:=fun v=>by rw[Bw hql,if_pos rfl]
  refine⟨by simp[a1],fun p h1 h2=>?_,fun p p' h1 h2 h3 h4=>?_,fun p h1 h2=>?_,fun x hx=>?_,fun c hc=>?_,fun c hc=>?_,fun c hc=>?_⟩
  ·simp only[List.length_set];rcases hcase p h1 with h3|h3
   ·subst h3;rw[ofi];omega
   ·rw[ofn p h3];exact a2 p h3 h2
  ·simp only;rcases hcase p h1 with h5|h5<;>rcases hcase p' h3 with h6|h6
   ·rw[h5,h6];simp[FK.refl]
   ·rw[h5,ofi,ofn p' h6,b4,a3 p0 p' b1 b2 h6 h4];exact⟨fun x=>hE.trans x,fun x=>hE.symm.trans x⟩
   ·rw[h6,ofi,ofn p h5,b4,a3 p p0 h5 h2 b1 b2];exact⟨fun x=>x.trans hE.symm,fun x=>x.trans hE⟩
   ·rw[ofn p h5,ofn p' h6];exact a3 p p' h5 h2 h6 h4
  ·simp only;rw[hkey p h1 h2];rcases hcase p h1 with h3|h3
   ·subst h3;rw[ofi];exact hg
   ·rw[ofn p h3];exact a4 p h3 h2
  ·obtain⟨p,h1,h2,h3,h4⟩:=a5 x hx;refine⟨p,by omega,h2,?_,?_⟩
   ·rw[hkey p (by omega) h2];exact h3
   ·simp only;rw[ofn p h1];exact h4
  ·simp only[List.length_set]at hc;obtain⟨p,h1,h2,h3,h4⟩:=a6 c hc;refine⟨p,by omega,h2,?_,by simp only;rw[ofn p h1];exact h4⟩;by_cases hcq:c=q
   ·subst hcq;rw[allq];exact h3
   ·rw[alln _ _ hcq];exact h3
  ·simp only[List.length_set]at hc;by_cases hcq:c=q
   ·subst hcq;rw[allq];simp only;refine⟨fun p h1 h2 h3=>?_,?_⟩
    ·rcases hcase p h1 with h5|h5
     ·subst h5;omega
     ·rw[ofn p h5]at h3;have:=l1 p h5 h2 h3;omega
    ·obtain⟨p,h1,h2,h3,h4⟩:=l2;by_cases hle:((B[i]!).length:Int)≤(S.all[c]!).long
     ·exact⟨p,by omega,h2,by rw[ofn p h1];exact h3,by omega⟩
     ·exact⟨i,Nat.le_refl _,hi,ofi,by omega⟩
   ·rw[alln _ _ hcq];obtain⟨m1,m2⟩:=a7 c hc;refine⟨fun p h1 h2 h3=>?_,?_⟩
    ·simp only at h3;rcases hcase p h1 with h5|h5
     ·subst h5;rw[ofi]at h3;omega
     ·rw[ofn p h5]at h3;exact m1 p h5 h2 h3
    ·obtain⟨p,h1,h2,h3,h4⟩:=m2;exact⟨p,by omega,h2,by simp only;rw[ofn p h1];exact h3,h4⟩
  ·simp only[List.length_set]at hc;by_cases hcq:c=q
   ·subst hcq;rw[allq];simp only;have tr:=CA;refine⟨fun p h1 h2 h3=>?_,?_⟩
    ·rcases hcase p h1 with h5|h5
     ·subst h5;split
      ·exact CQ _
      ·assumption
     ·rw[ofn p h5]at h3;have:=f1 p h5 h2 h3;split
      ·rename_i hw;intro hx;exact this (D4 hx (by omega))
      ·exact this
    ·obtain⟨p,h1,h2,h3,h4⟩:=f2;split
     ·exact⟨i,Nat.le_refl _,hi,ofi,rfl⟩
     ·exact⟨p,by omega,h2,by rw[ofn p h1];exact h3,h4⟩
   ·rw[alln _ _ hcq];obtain⟨m1,m2⟩:=a8 c hc;refine⟨fun p h1 h2 h3=>?_,?_⟩
    ·simp only at h3;rcases hcase p h1 with h5|h5
     ·subst h5;rw[ofi]at h3;omega
     ·rw[ofn p h5]at h3;exact m1 p h5 h2 h3
    ·obtain⟨p,h1,h2,h3,h4⟩:=m2;exact⟨p,by omega,h2,by simp only;rw[ofn p h1];exact h3,h4⟩
 |none =>
  have ofn:∀p,i+1≤p→(S.of.set i (S.all.length:Int))[p]! =S.of[p]! :=fun p hp=>by rw[Bw (by omega),if_neg (by omega)]
  have ofi:(S.of.set i (S.all.length:Int))[i]! =S.all.length:=by rw[Bw (by omega),if_pos rfl]
  have hkey:∀p,i≤p→p<l.length→Cc (S.of.set i (S.all.length:Int)) (l[p]!)=Cc S.of (l[p]!):=fun p h1 h2=>Rv h h1 h2 a1;have hnE:∀p,i+1≤p→p<l.length→¬FK L (B[i]!) (B[p]!):=fun p h1 h2 he=>by
   have:=(PZ h a3 (Nat.le_refl _) hi (by omega) h2).2 he;rw[this,a4 p h1 h2]at hg;cases hg
  have hcs:∀c,c<S.all.length+1→c=S.all.length∨c<S.all.length:=fun c hc=>by omega
  refine⟨by simp[a1],fun p h1 h2=>?_,fun p p' h1 h2 h3 h4=>?_,fun p h1 h2=>?_,fun x hx=>?_,fun c hc=>?_,fun c hc=>?_,fun c hc=>?_⟩
  ·simp only[List.length_append,List.length_cons,List.length_nil];rcases hcase p h1 with h3|h3
   ·subst h3;rw[ofi];omega
   ·rw[ofn p h3];have:=a2 p h3 h2;omega
  ·simp only;rcases hcase p h1 with h5|h5<;>rcases hcase p' h3 with h6|h6
   ·rw[h5,h6];simp[FK.refl]
   ·rw[h5,ofi,ofn p' h6];have:=a2 p' h6 h4;exact⟨fun x=>by omega,fun x=>absurd x (hnE p' h6 h4)⟩
   ·rw[h6,ofi,ofn p h5];have:=a2 p h5 h2;exact⟨fun x=>by omega,fun x=>absurd x.symm (hnE p h5 h2)⟩
   ·rw[ofn p h5,ofn p' h6];exact a3 p p' h5 h2 h6 h4
  ·simp only;rw[hkey p h1 h2,WU hg];rcases hcase p h1 with h3|h3
   ·subst h3;rw[ofi,if_pos rfl]
   ·rw[ofn p h3,if_neg (fun e=>hnE p h3 h2 ((PZ h a3 (Nat.le_refl _) hi (by omega) h2).1 e))];exact a4 p h3 h2
  ·simp only at hx;rcases List.mem_append.1 hx with hx|hx
   ·obtain⟨p,h1,h2,h3,h4⟩:=a5 x hx;refine⟨p,by omega,h2,?_,?_⟩
    ·rw[hkey p (by omega) h2];exact h3
    ·simp only;rw[ofn p h1];exact h4
   ·simp only[List.mem_singleton]at hx;subst hx;exact⟨i,Nat.le_refl _,hi,by simp only;rw[hkey i (Nat.le_refl _) hi],by simp only;rw[ofi]⟩
  ·simp only[List.length_append,List.length_cons,List.length_nil]at hc;rcases hcs c (by omega)with rfl|hc
   ·exact⟨i,Nat.le_refl _,hi,by rw[Jx],ofi⟩
   ·obtain⟨p,h1,h2,h3,h4⟩:=a6 c hc;exact⟨p,by omega,h2,by rw[Jw hc];exact h3,by simp only;rw[ofn p h1];exact h4⟩
  ·simp only[List.length_append,List.length_cons,List.length_nil]at hc;rcases hcs c (by omega)with rfl|hc
   ·rw[Jx];refine⟨fun p h1 h2 h3=>?_,⟨i,Nat.le_refl _,hi,ofi,rfl⟩⟩;rcases hcase p h1 with h5|h5
    ·subst h5;simp
    ·simp only at h3;rw[ofn p h5]at h3;have:=a2 p h5 h2;omega
   ·rw[Jw hc];obtain⟨m1,m2⟩:=a7 c hc;refine⟨fun p h1 h2 h3=>?_,?_⟩
    ·simp only at h3;rcases hcase p h1 with h5|h5
     ·subst h5;rw[ofi]at h3;omega
     ·rw[ofn p h5]at h3;exact m1 p h5 h2 h3
    ·obtain⟨p,h1,h2,h3,h4⟩:=m2;exact⟨p,by omega,h2,by simp only;rw[ofn p h1];exact h3,h4⟩
  ·simp only[List.length_append,List.length_cons,List.length_nil]at hc;rcases hcs c (by omega)with rfl|hc
   ·rw[Jx];refine⟨fun p h1 h2 h3=>?_,⟨i,Nat.le_refl _,hi,ofi,rfl⟩⟩;rcases hcase p h1 with h5|h5
    ·subst h5;exact CQ _
    ·simp only at h3;rw[ofn p h5]at h3;have:=a2 p h5 h2;omega
   ·rw[Jw hc];obtain⟨m1,m2⟩:=a8 c hc;refine⟨fun p h1 h2 h3=>?_,?_⟩
    ·simp only at h3;rcases hcase p h1 with h5|h5
     ·subst h5;rw[ofi]at h3;omega
     ·rw[ofn p h5]at h3;exact m1 p h5 h2 h3
    ·obtain⟨p,h1,h2,h3,h4⟩:=m2;exact⟨p,by omega,h2,by simp only;rw[ofn p h1];exact h3,h4⟩
theorem bj(h:BR L l B):∀j,j≤l.length→XW L l B (l.length-j) (E4 l B j):=by
 intro j;induction j with
 |zero =>
  intro _;refine⟨by simp[E4],fun p h1 h2=>by omega,fun p q h1 h2=>by omega,fun p h1 h2=>by omega,fun x hx=>?_,fun c hc=>?_,fun c hc=>?_,fun c hc=>?_⟩
  ·cases hx
  ·exact absurd hc (Nat.not_lt_zero _)
  ·exact absurd hc (Nat.not_lt_zero _)
  ·exact absurd hc (Nat.not_lt_zero _)
 |succ j ih =>
  intro hj;rw[GS];have e1:l.length-j=l.length-1-j+1:=by omega
  have e2:l.length-(j+1)=l.length-1-j:=by omega
  have:=ih (by omega);rw[e1]at this;rw[e2];exact this.step h (by omega)
theorem WS(h:BR L l B):XW L l B 0 (E4 l B l.length):=by
 have:=bj h l.length (Nat.le_refl _)
 rwa [Nat.sub_self]at this
theorem XW.inj(h:BR L l B){S:MS}(hs:XW L l B 0 S):XV S.all:=fun a b ha hb e=>by
 obtain⟨_,p,_,p1,p2,p3⟩:=hs.fst a ha;obtain⟨_,q,_,q1,q2,q3⟩:=hs.fst b hb;have:=h.inj p1 q1 (by rw[← p3,← q3,e]);subst this;omega
end
def Sh(L:List (List Int))(u:List Int)(m:Int):Prop:=(∀v,Bg L v→FK L v u→(v.length:Int)≤m)∧∃v,Bg L v∧FK L v u∧(v.length:Int)=m
def cG(L:List (List Int))(u:List Int):Prop:=Bg L u∧∀v,Bg L v→FK L v u→¬Ae v u<0
def Cb(L:List (List Int))(u v:List Int):Prop:=∃m n,Sh L u m∧Sh L v n∧(m<n∨m=n∧Ae u v<0)
theorem Sh.one{L:List (List Int)}{u v:List Int}{m n:Int}(e:FK L u v)(h:Sh L u m)(k:Sh L v n):m=n:=by
 obtain⟨h1,a,a1,a2,a3⟩:=h;obtain⟨k1,b,b1,b2,b3⟩:=k;have:=h1 b b1 (b2.trans e.symm);have:=k1 a a1 (a2.trans e);omega
theorem Cb.irr{L:List (List Int)}(u:List Int):¬Cb L u u:=fun⟨m,n,h1,h2,h3⟩=>by
 have:=h1.one (FK.refl u) h2;have:=CQ u;omega
theorem cG.one{L:List (List Int)}{u v:List Int}(h:cG L u)(k:cG L v)(e:FK L u v):u=v:=by
 have h1:=h.2 v k.1 e.symm;have h2:=k.2 u h.1 e;have:=AD u v;exact(Cf u v).1 (by omega)
structure CE(L:List (List Int))(l:List Ak)(K:List (List Int)):Prop where
 len:K.length=l.length
 mem:∀u,u∈K↔cG L u
 cov:∀v,Bg L v→∃k,k<l.length∧FK L (K[k]!) v
 lg:∀k,k<l.length→∃m,Sh L (K[k]!) m
 ord:K.Pairwise (Cb L)
 fin:∀k,k<l.length→((l[k]!).final=true↔K[k]!∈L)
 arcs:∀k,k<l.length→∀a,a∈(l[k]!).arcs↔0≤a.to∧a.to.toNat<l.length∧Bg L (K[k]!++[a.sign])∧FK L (K[a.to.toNat]!) (K[k]!++[a.sign])
 ris:∀k,k<l.length→(l[k]!).arcs.Pairwise fun a b=>a.sign<b.sign
section
variable {L:List (List Int)} {l:List Ak} {K:List (List Int)}
theorem CE.rep(h:CE L l K){k:Nat}(hk:k<l.length):cG L (K[k]!):=(h.mem _).1 (cZ (by rw[h.len];exact hk))
theorem CE.cb(h:CE L l K){i j:Nat}(hij:i<j)(hj:j<l.length):Cb L (K[i]!) (K[j]!):=by
 have:=h.len;rw[getElem!_pos K i (by omega),getElem!_pos K j (by omega)];exact List.pairwise_iff_getElem.1 h.ord i j (by omega) (by omega) hij
theorem CE.inj(h:CE L l K){i j:Nat}(hi:i<l.length)(hj:j<l.length)(e:FK L (K[i]!) (K[j]!)):i=j:=by
 have e2:=(h.rep hi).one (h.rep hj) e;rcases Nat.lt_trichotomy i j with h1|h1|h1
 ·have:=h.cb h1 hj;rw[e2]at this;exact absurd this (Cb.irr _)
 ·exact h1
 ·have:=h.cb h1 hi;rw[e2]at this;exact absurd this (Cb.irr _)
theorem CE.fwd(h:CE L l K){k:Nat}(hk:k<l.length){a:Ar}(ha:a∈(l[k]!).arcs):0≤a.to∧k<a.to.toNat∧a.to.toNat<l.length:=by
 obtain⟨h1,h2,h3,h4⟩:=(h.arcs k hk a).1 ha;refine⟨h1,?_,h2⟩;obtain⟨m,hm⟩:=h.lg k hk;obtain⟨n,hn⟩:=h.lg _ h2;have hlt:m<n:=by
  obtain⟨_,v,v1,v2,v3⟩:=hm;have:=hn.1 (v++[a.sign]) (v2.symm.bg (by simp) h3) ((v2.ext _).trans h4.symm);simp only[List.length_append,List.length_cons,List.length_nil]at this;omega
 rcases Nat.lt_trichotomy k a.to.toNat with g|g|g
 ·exact g
 ·exfalso;rw[← g]at hn;have:=hm.one (FK.refl _) hn;omega
 ·exfalso;obtain⟨m',n',m1,n1,c⟩:=h.cb g hk;have:=hm.one (FK.refl _) n1;have:=hn.one (FK.refl _) m1;omega
section
variable {B:List (List Int)} {S:MS}
structure fG(L:List (List Int))(l:List Ak)(B:List (List Int))(S:MS)(c:Nat):Prop where
 rep:cG L (S.all[c]!).first
 lg:Sh L (S.all[c]!).first (S.all[c]!).long
 eqv:∀p,p<l.length→(S.of[p]! =c↔FK L (B[p]!) (S.all[c]!).first)
theorem XW.cls(h:BR L l B)(hs:XW L l B 0 S){c:Nat}(hc:c<S.all.length):fG L l B S c:=by
 obtain⟨f1,q,_,q1,q2,q3⟩:=hs.fst c hc;obtain⟨l1,r,_,r1,r2,r3⟩:=hs.lng c hc;have heq:∀p,p<l.length→(S.of[p]! =c↔FK L (B[p]!) (S.all[c]!).first):=fun p hp=>by
  rw[q3,← hs.eqv p q (Nat.zero_le _) hp (Nat.zero_le _) q1,q2]
 refine⟨⟨by rw[q3];exact h.bgp q1,fun v hv he=>?_⟩,⟨fun v hv he=>?_,?_⟩,heq⟩
 ·obtain⟨p,p1,rfl⟩:=h.plc hv;exact f1 p (Nat.zero_le _) p1 ((heq p p1).2 he)
 ·obtain⟨p,p1,rfl⟩:=h.plc hv;exact l1 p (Nat.zero_le _) p1 ((heq p p1).2 he)
 ·exact⟨_,h.bgp r1,(heq r r1).1 r2,r3⟩
end
end
theorem N4:∀{l:List Ar} {a:Ar},l.Pairwise (fun a b=>a.sign<b.sign)→a∈l→l.find? (Qk a.sign)=some a
 | [],_,_,h=>by cases h
 |b::l,a,hp,h=>by
  rw[List.pairwise_cons]at hp;rcases List.mem_cons.1 h with e|e
  ·subst e;simp[Qk]
  ·have:=hp.1 a e;rw[List.find?_cons_of_neg (by simp[Qk];omega)];exact N4 hp.2 e
theorem Q3:∀{L:List (List Int)},L≠[]→∃w∈L,∀v∈L,v.length≤w.length
 | [],h=>absurd rfl h
 | [a],_=>⟨a,by simp,by simp⟩
 |a::b::L,_=>by
  obtain⟨w,h1,h2⟩:=Q3 (L:=b::L) (by simp);by_cases h:w.length≤a.length
  ·exact⟨a,by simp,fun v hv=>by
    rcases List.mem_cons.1 hv with e|e
    ·subst e;exact Nat.le_refl _
    ·have:=h2 v e;omega⟩
  ·exact⟨w,List.mem_cons_of_mem _ h1,fun v hv=>by
    rcases List.mem_cons.1 hv with e|e
    ·rw[e];omega
    ·exact h2 v e⟩
theorem FK.root{L:List (List Int)}(hL:L≠[]){u v:List Int}(h:FK L (u++v) u):(∃w,u++w∈L)→v=[]:=fun⟨w0,hw0⟩=>by
 have key:∀n w,u++w∈L→∃w',u++w'∈L∧w'.length=n * v.length+w.length:=by
  intro n;induction n with
  |zero=>intro w hw;exact⟨w,hw,by simp⟩
  |succ n ih =>
   intro w hw;have h1:=(h w).2 hw;rw[List.append_assoc]at h1;obtain⟨w',e1,e2⟩:=ih _ h1;refine⟨w',e1,?_⟩;rw[e2,List.length_append,Nat.succ_mul];omega
 obtain⟨m,m1,m2⟩:=Q3 hL;by_cases hv:v=[]
 ·exact hv
 ·have:0<v.length:=List.length_pos_iff.2 hv;obtain⟨w',e1,e2⟩:=key (m.length+1) w0 hw0;have:=m2 _ e1;have h3:(m.length+1) * 1≤(m.length+1) * v.length:=Nat.mul_le_mul_left _ (by omega);rw[List.length_append]at this;omega
theorem FK.nil{L:List (List Int)}(hL:L≠[]){v:List Int}(h:FK L v []):v=[]:=by
 obtain⟨m,m1,m2⟩:=Q3 hL;exact FK.root hL (u:=[]) (v:=v) (by simpa using h) ⟨m,by simpa using m1⟩
section
variable {L:List (List Int)} {l:List Ak} {K:List (List Int)}
theorem CE.pos(h:CE L l K):0<l.length:=by
 obtain⟨k,hk,_⟩:=h.cov [] (.inl rfl);omega
theorem CE.root(h:CE L l K):FK L (K[0]!) []:=by
 by_cases hL:L=[]
 ·intro w;rw[hL];simp
 ·obtain⟨k,hk,e⟩:=h.cov [] (.inl rfl);by_cases h0:k=0
  ·subst h0;exact e
  ·obtain⟨m,n,h1,h2,h3⟩:=h.cb (i:=0) (j:=k) (by omega) hk;obtain⟨_,v,v1,v2,v3⟩:=h2;have e1:=FK.nil hL (v2.trans e);subst e1;obtain⟨_,u,u1,u2,u3⟩:=h1;have:u.length=0:=by simp at v3;omega
   have e2:=List.length_eq_zero_iff.1 this;subst e2;exact u2.symm
theorem CE.step(h:CE L l K){k:Nat}(hk:k<l.length)(z:Int)(hb:Bg L (K[k]!++[z])):∃t:Nat,t<l.length∧CP l k z=some (t:Int)∧FK L (K[t]!) (K[k]!++[z]):=by
 obtain⟨t,ht,e⟩:=h.cov _ hb;have hm:(⟨z,t⟩:Ar)∈(l[k]!).arcs:=(h.arcs k hk _).2 ⟨by simp,by simpa using ht,hb,by simpa using e⟩;have:=N4 (h.ris k hk) hm;refine⟨t,ht,?_,e⟩;unfold CP;rw[if_pos (by omega),Int.toNat_natCast,this];rfl
theorem CE.nostep(h:CE L l K){k:Nat}(hk:k<l.length)(z:Int)(hb:¬Bg L (K[k]!++[z])):CP l k z=none:=by
 unfold CP;rw[if_pos (by omega),Int.toNat_natCast];rw[Option.map_eq_none_iff,List.find?_eq_none];intro a ha hs;have:=of_decide_eq_true hs;subst this;exact hb ((h.arcs k hk a).1 ha).2.2.1
theorem CE.lead(h:CE L l K):∀(w:List Int) {k:Nat},k<l.length→(Bg L (K[k]!++w)→∃t:Nat,t<l.length∧Ay l k w=some (t:Int)∧FK L (K[t]!) (K[k]!++w))∧(¬Bg L (K[k]!++w)→Ay l k w=none)
 | [],k,hk=>⟨fun _=>⟨k,hk,rfl,by rw[List.append_nil];exact FK.refl _⟩,fun hn=>absurd (h.rep hk).1 (by rwa [List.append_nil]at hn)⟩
 |z::w,k,hk=>by
  have e1:K[k]!++z::w=K[k]!++[z]++w:=by simp
  rw[e1];unfold Ay;by_cases hz:Bg L (K[k]!++[z])
  ·obtain⟨t,t1,t2,t3⟩:=h.step hk z hz;rw[t2];simp only;obtain⟨i1,i2⟩:=CE.lead h w t1;refine⟨fun hb=>?_,fun hb=>?_⟩
   ·have hb2:Bg L (K[t]!++w):=by
     by_cases hw:w=[]
     ·subst hw;rw[List.append_nil];exact(h.rep t1).1
     ·exact t3.symm.bg hw hb
    obtain⟨s,s1,s2,s3⟩:=i1 hb2;exact⟨s,s1,s2,s3.trans (t3.ext w)⟩
   ·refine i2 fun hb2=>hb ?_;by_cases hw:w=[]
    ·subst hw;rw[List.append_nil];exact hz
    ·exact t3.bg hw hb2
  ·rw[h.nostep hk z hz];exact⟨fun hb=>absurd hb.cut hz,fun _=>rfl⟩
theorem CE.has(h:CE L l K)(w:List Int):(Bg L w→∃t:Nat,t<l.length∧Ay l 0 w=some (t:Int)∧((l[t]!).final=true↔w∈L))∧(¬Bg L w→Ay l 0 w=none):=by
 have hr:=h.root;obtain⟨i1,i2⟩:=h.lead w h.pos;have hbb:Bg L (K[0]!++w)↔Bg L w:=by
  by_cases hw:w=[]
  ·subst hw;rw[List.append_nil];exact⟨fun _=>.inl rfl,fun _=>(h.rep h.pos).1⟩
  ·have a:=hr.bg (x:=w) hw;have b:=hr.symm.bg (x:=w) hw;rw[List.nil_append]at a b;exact⟨a,b⟩
 refine⟨fun hb=>?_,fun hb=>i2 fun x=>hb (hbb.1 x)⟩;obtain⟨t,t1,t2,t3⟩:=i1 (hbb.2 hb);refine⟨t,t1,t2,?_⟩;have:=t3.trans (hr.ext w);rw[List.nil_append]at this;rw[h.fin t t1];exact this.mem
theorem CE.least(h:CE L l K){i j:Nat}(hi:i<l.length)(hj:j<l.length)(e:l[i]! =l[j]!):i=j:=by
 have key:∀{i j:Nat},i<l.length→j<l.length→l[i]! =l[j]!→∀w,K[i]!++w∈L→K[j]!++w∈L:=by
  intro i j hi hj e w hw;cases w with
  |nil =>
   rw[List.append_nil]at hw ⊢;rw[← h.fin j hj,← e,h.fin i hi];exact hw
  |cons z w =>
   have e1:K[i]!++z::w=K[i]!++[z]++w:=by simp
   have hb:Bg L (K[i]!++[z]):=.inr ⟨_,hw,by rw[e1];exact List.prefix_append _ _⟩;obtain⟨t,ht,et⟩:=h.cov _ hb;have hm:(⟨z,t⟩:Ar)∈(l[i]!).arcs:=(h.arcs i hi _).2 ⟨by simp,by simpa using ht,hb,by simpa using et⟩;rw[e,h.arcs j hj]at hm;simp only[Int.toNat_natCast]at hm;have:=((et.symm.trans hm.2.2.2) w).1 (by rw[← e1];exact hw);simpa using this
 exact h.inj hi hj fun w=>⟨key hi hj e w,key hj hi e.symm w⟩
theorem CE.from(h:CE L l K){k:Nat}(h0:0<k)(hk:k<l.length):∃i,i<k∧∃a∈(l[i]!).arcs,a.to=(k:Int):=by
 have hr:=h.rep hk;have hne:K[k]!≠[]:=fun e=>by
  have:=h.inj h.pos hk (by rw[e];exact h.root);omega
 obtain⟨u,z,e⟩:∃u z,K[k]! =u++[z]:=⟨_,_,(List.dropLast_concat_getLast hne).symm⟩
 have hb:=hr.1;rw[e]at hb;obtain⟨i,hi,ei⟩:=h.cov u hb.cut;have hb2:=ei.symm.bg (x:=[z]) (by simp) hb;have hm:(⟨z,k⟩:Ar)∈(l[i]!).arcs:=(h.arcs i hi _).2 ⟨by simp,by simpa using hk,hb2,by
  simp only[Int.toNat_natCast];rw[e];exact(ei.ext _).symm⟩
 have:=(h.fwd hi hm).2.1;simp only[Int.toNat_natCast]at this;exact⟨i,this,_,hm,rfl⟩
theorem CE.on(h:CE L l K)(hL:L≠[]){k:Nat}(hk:k<l.length):(l[k]!).final=true∨(l[k]!).arcs≠[]:=by
 have hr:=(h.rep hk).1;obtain⟨v,hv⟩:∃v,K[k]!++v∈L:=by
  rcases hr with hr|⟨w,hw,⟨t,ht⟩⟩
  ·obtain⟨w,hw⟩:=List.exists_mem_of_ne_nil L hL;exact⟨w,by rw[hr];exact hw⟩
  ·exact⟨t,by rw[ht];exact hw⟩
 cases v with
 |nil=>exact .inl ((h.fin k hk).2 (by simpa using hv))
 |cons z v =>
  right;have e1:K[k]!++z::v=K[k]!++[z]++v:=by simp
  have hb:Bg L (K[k]!++[z]):=.inr ⟨_,hv,by rw[e1];exact List.prefix_append _ _⟩;obtain⟨t,ht,et⟩:=h.cov _ hb;have hm:(⟨z,t⟩:Ar)∈(l[k]!).arcs:=(h.arcs k hk _).2 ⟨by simp,by simpa using ht,hb,by simpa using et⟩;exact fun e=>by rw[e]at hm;cases hm
theorem CE.none(h:CE [] l K):l.length=1:=by
 have:=h.pos;have hb:∀k,k<l.length→K[k]! =[]:=fun k hk=>by
  rcases(h.rep hk).1 with e|⟨w,hw,_⟩
  ·exact e
  ·cases hw
 by_cases h1:1<l.length
 ·have:=h.inj (i:=0) (j:=1) (by omega) h1 (by rw[hb 0 (by omega),hb 1 h1];exact FK.refl _);omega
 ·omega
end
section
variable {L:List (List Int)} {l:List Ak} {K:List (List Int)}
def fT(a:Ar):Ar:=⟨a.sign,a.to+1⟩
def fU(s:Ak):Ak:=⟨s.final,s.arcs.map fT⟩
def eP(y:Int)(l:List Ak):List Ak:=⟨false,[⟨y,1⟩]⟩::l.map fU
end
section
variable {L L':List (List Int)} {l l':List Ak} {K K':List (List Int)} {z:Int}
end
attribute [local go_sem] Aq As Bb Bh Da AP AO Az Ax
def ZN(L:List (List Int)):MS:=E4 (AS L) (Dw (AS L) (AS L).length) (AS L).length
def QR(L:List (List Int)):List Ak:=Nr (AS L) (ZN L) (ZN L).all.length
def Wl(L:List (List Int)):D:=if Oi L=0 then .tup [.sl 2 (AQ (QR L)),.int .i64 0]else .tup [.nils,.int .i64 (Oi L)]
theorem bB{L:List (List Int)}(hok:Gd L)(he:Oi L≠0):A3 Tryz.prog 17 [.sl 1 (CI L)] (.tup [.nils,.int .i64 (Oi L)]):=by
 have ct:=Xf hok;unfold Uw at ct;rw[if_neg he]at ct;rcases Sc L with h|h|h
 ·exact absurd h he
 ·rw[h]at ct ⊢;refine A6 154 Tryz.func17 A4 fun X_ w_=>?_;have c0_:=ct;refine Ao ?_;try exact trivial
 ·rw[h]at ct ⊢;refine A6 154 Tryz.func17 A4 fun X_ w_=>?_;have c0_:=ct;refine Ao ?_;try exact trivial
theorem dx{L:List (List Int)}(hok:Gd L):A3 Tryz.prog 17 [.sl 1 (CI L)] (Wl L):=by
 unfold Wl;by_cases he:Oi L=0
 ·rw[if_pos he];obtain⟨B,hB⟩:=cu he;have hb:=aC hB.b;have hI:=WS hB.b;rw[← hb]at hI;have hdw:=hB.dw;rw[← hb]at hdw;refine bz hok he hB.sok hB.achk hdw ?_ (fun p hp=>hI.rng p (Nat.zero_le _) hp) fun c hc=>?_
  ·have hI2:=hI;rw[hb]at hI2 ⊢;exact hI2.inj hB.b
  ·obtain⟨p,_,p1,p2,_⟩:=hI.isr c hc;rw[p2];omega
 ·rw[if_neg he];exact bB hok he
theorem Wm{L:List (List Int)}(he:Oi L=0):Wl L= .tup [.sl 2 (AQ (QR L)),.int .i64 0]:=if_pos he
end Go.Eng.Tryz

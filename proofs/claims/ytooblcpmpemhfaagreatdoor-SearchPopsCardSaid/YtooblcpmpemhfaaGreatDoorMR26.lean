/- Searches: what is found. (and what stands behind it: texts laid together) -/
import Derived.Test.YtooblcpmpemhfaaGreatDoorMG4
import Derived.Test.YtooblcpmpemhfaaGreatDoorMR25
import Derived.Test.YtooblcpmpemhfaaGreatDoorMR15
import Derived.Test.YtooblcpmpemhfaaGreatDoorMR21
import Derived.Test.YtooblcpmpemhfaaGreatDoorMR22
import Derived.Test.YtooblcpmpemhfaaGreatDoorMR10
import Derived.Test.YtooblcpmpemhfaaGreatDoorMR3
set_option linter.unusedVariables false
set_option linter.unusedSimpArgs false
open Go Go.Eng Go.Proofs Go.RowKit
set_option maxHeartbeats 32000000
set_option maxRecDepth 100000
namespace Go.Eng.Tryz
attribute [local go_sem] Aq As Bb Bh AP AO Az Ax Ch Cg Jq KQ Bq
def ED(l:List Ht):List D:=l.map fun h=>.agg [.sl 1 (is h.word),.int .u64 h.cost]
theorem Gj{l:List Ht}:(ED l).length=l.length:=by simp[ED]
theorem Gi{l:List Ht}{k:Nat}(h:k<l.length):(ED l)[k]? =some (.agg [.sl 1 (is (l[k]!).word),.int .u64 (l[k]!).cost]):=by
 simp[ED,List.getElem?_eq_getElem h,getElem!_pos l k h]
theorem Ro{l:List Ht}{w:List Int}{c:Int}:ED l++[.agg [.sl 1 (is w),.int .u64 c]]=ED (l++[⟨w,c⟩]):=by simp[ED]
attribute [local go_sem] Gj Gi Ro
def Jc(l:List Ak)(c:Co)(q:List Int)(n most budget:Int):List Ht×Nat×Int :=
 if Lp l c q≠0 then([],0,Lp l c q)else if n<0∨300<n∨budget<0 then([],0,1)else N3 (D2 c q) (A7 l []) n most budget
def Lx(r:List Ht×Nat×Int):D:=.tup [.sl 2 (ED r.1),.int .i64 r.2.1,.int .i64 r.2.2]
structure PI(l:List Ak)(P L:List En):Prop where
 perm:(P.map Du).Perm L
 heap:K8 P=true
 place:∀e∈L,e.place=0
 short:∀e∈L,e.word.length≤20
 ne:∀e∈L,e.word≠[]
 lead:∀e∈P,e.done=false→0≤e.place∧e.place<l.length∧Ay l 0 e.word=some e.place
theorem PI.shortP{l:List Ak}{P L:List En}(h:PI l P L):∀e∈P,e.word.length≤20:=fun e he=>h.short (Du e) (h.perm.mem_iff.1 (List.mem_map.2 ⟨e,he,rfl⟩))
theorem PI.ok{l:List Ak}{P L:List En}(h:PI l P L):∀e∈P,e.ok:=fun e he=>by
 have:=h.shortP e he;unfold En.ok;omega
theorem PI.len{l:List Ak}{P L:List En}(h:PI l P L):L.length=P.length:=by rw[← h.perm.length_eq];simp
theorem PI.done{l:List Ak}{P L:List En}(h:PI l P L)(h0:0<P.length):PI l (Cd P) (L.eraseIdx (Bs L)):=by
 obtain⟨h1,h2⟩:=N8 h.heap h.place h.perm h0;have hp:=Na h0;exact⟨(hp.map Du).trans h2,SJ h0 h.heap,fun e he=>h.place e (List.mem_of_mem_eraseIdx he),fun e he=>h.short e (List.mem_of_mem_eraseIdx he),fun e he=>h.ne e (List.mem_of_mem_eraseIdx he),fun e he=>h.lead e (List.mem_of_mem_tail (hp.mem_iff.1 he))⟩
theorem WC{g:List Int→Int}{W:List (List Int)}(u:List Int)(hs:BQ W)(h0:∀w∈W,∀z∈w,0≤z)(hw:∀w∈W,w.length≤20):∀e∈Ew g W u,e.place=0∧e.word.length≤20∧(u≠[]∨[]∉W→e.word≠[]):=fun e he=>by
 obtain⟨xs,e1,_,m1⟩:=HC (g:=g) u hs h0;rw[e1]at he;obtain⟨x,hx,rfl⟩:=List.mem_map.1 he;obtain⟨w,hw1,hw2,hw3⟩:=(m1 x).1 hx;have:=hw w hw1;have hne:u≠[]∨[]∉W→x≠[]:=fun h hx0=>by
  rw[hx0]at hw3;have hw4:w=[]:=by
   cases w with
   |nil=>rfl
   |cons a w=>simp at hw3
  subst hw4;rcases h with h|h
  ·obtain⟨r,hr⟩:=Af.1 hw2;simp at hr;exact h hr.1
  ·exact h hw1
 have hxl:x.length≤20:=by rw[hw3,List.length_take];omega
 unfold OB;split
 ·rename_i hxu;subst hxu;exact⟨rfl,hxl,hne⟩
 ·exact⟨rfl,hxl,hne⟩
theorem PI.push{l:List Ak}{c:Co}{q:List Int}{P L:List En}(hc:c.ok)(hm:LS c q l=true)(hd:Fq l≤20)(hka:achk l=true)(h0:[]∉A7 l [])(h:PI l P L){u:List Int}{k:Nat}(hkl:k<l.length)(hu:Ay l 0 u=some (k:Int))(most:Int) :
 PI l ((Br c q l u k).foldl (DD most) P) (L++(Ew (D2 c q) (A7 l []) u).filter (BN most)):=by
 have hks:=Vd hc hm hd hkl hu most;obtain⟨p1,p2⟩:=IN most (Br c q l u k) P;have hkl2:=WC (g:=D2 c q) u (Em hka []) (fun w hw=>(Gc hka hw).2.2) (fun w hw=>CR hka (n:=20) hd hw);refine⟨?_,p2 h.heap,fun e he=>?_,fun e he=>?_,fun e he=>?_,fun e he hef=>?_⟩
 ·refine(p1.map Du).trans ?_;rw[List.map_append,hks];exact h.perm.append_right _
 ·rcases List.mem_append.1 he with he|he
  ·exact h.place e he
  ·exact(hkl2 e (List.mem_filter.1 he).1).1
 ·rcases List.mem_append.1 he with he|he
  ·exact h.short e he
  ·exact(hkl2 e (List.mem_filter.1 he).1).2.1
 ·rcases List.mem_append.1 he with he|he
  ·exact h.ne e he
  ·exact(hkl2 e (List.mem_filter.1 he).1).2.2 (.inr h0)
 ·rcases List.mem_append.1 (p1.mem_iff.1 he)with he|he
  ·exact h.lead e he hef
  ·have he:=(List.mem_filter.1 he).1;unfold Br at he;rcases List.mem_append.1 he with he|he
   ·split at he
    ·rw[List.mem_singleton.1 he]at hef;cases hef
    ·cases he
   ·obtain⟨a,ha,rfl⟩:=List.mem_map.1 he;obtain⟨b1,b2,b3⟩:=OM hka hkl hu ha;exact⟨b2,b3,b1⟩
def OS(x:Bool)(b:Int)(P:List En):D:=if x=true then .sl 4 [DE b]else .sl 4 (es P)
theorem Jf{l:List Ak}{c:Co}{q:List Int}{n most budget:Int}(hl:Bt l)(hc:c.ok)(hq:q.length≤9223372036854775807):A3 Tryz.prog 40 [im l c,.sl 1 (is q),.int .i64 n,.int .u64 most,.int .i64 budget] (Lx (Jc l c q n most budget)):=by
 have cc:=RL (q:=q) hl hc hq;unfold Jc;by_cases hck:Lp l c q=0;rotate_left
 ·rw[if_pos hck];refine A3.wk (r:=.tup [.nils,.int .i64 0,.int .i64 (Lp l c q)]) ?_ (Is.refl _) (.tup (.cons (.nil 2) (.cons (.refl _) (.cons (.refl _) .nil))));generalize Lp l c q=e at *;unfold im at *;refine A6 88 Tryz.func40 Cx fun X_ w_=>?_;have c0_:=cc;refine Ao ?_;try exact trivial
 rw[if_neg (by simp[hck])];rw[hck]at cc;by_cases hna:n<0∨300<n∨budget<0
 ·rw[if_pos hna];refine A3.wk (r:=.tup [.nils,.int .i64 0,.int .i64 1]) ?_ (Is.refl _) (.tup (.cons (.nil 2) (.cons (.refl _) (.cons (.refl _) .nil))));unfold im at *;rcases hna with h|h|h
  ·refine A6 88 Tryz.func40 Cx fun X_ w_=>?_;have c0_:=cc;refine Ao ?_;try exact trivial
  ·have h2:¬n<0:=by omega
   refine A6 88 Tryz.func40 Cx fun X_ w_=>?_;have c0_:=cc;refine Ao ?_;try exact trivial
  ·by_cases h2:n<0
   ·refine A6 88 Tryz.func40 Cx fun X_ w_=>?_;have c0_:=cc;refine Ao ?_;try exact trivial
   by_cases h3:300<n
   ·refine A6 88 Tryz.func40 Cx fun X_ w_=>?_;have c0_:=cc;refine Ao ?_;try exact trivial
   ·refine A6 88 Tryz.func40 Cx fun X_ w_=>?_;have c0_:=cc;refine Ao ?_;try exact trivial
 rw[if_neg hna];rw[not_or,not_or]at hna;obtain⟨hn0,hn1,hb0⟩:=hna;have cof:=ZZ (q:=q) hl hc hq hck;obtain⟨hm,hd,hka,hmy,hkc,hq20,hmn⟩:=EL hck;have hl0:=(Aw.1 hka).2.1;have hll:=(Aw.1 hka).2.2;have cb:=(Q7 (u:=[]) (at_:=0) hl hc hck hl0 (by simp)).wk (as':=[My l c q (Bj c q (q.length+1)) (CJ c q l),.nils,.int .i64 0]) (.cons (.refl _) (.cons (.nil 1) (.cons (.refl _) .nil))) (.refl _);rw[MB hc hm hd (u:=[]) (at_:=0) rfl]at cb;have hsrt:=Em hka [];have hW0:∀w∈A7 l [],∀z∈w,0≤z:=fun w hw=>(Gc hka hw).2.2;have hW20:∀w∈A7 l [],w.length≤20:=fun w hw=>CR hka (n:=20) hd hw;have hWn:(A7 l []).length≤300:=by
  have hmn2:Dn l=min 301 ((A7 l []).length:Int):=by
   have:Dn l=(Ca DC l l.length)[0]! :=if_pos hka;rw[this];exact Ku hka l.length 0 [] hl0 (by omega)
  omega
 have hnil:[]∉A7 l []:=fun h=>by
  obtain⟨f,f1,f2⟩:=(F9 hka []).1 h;simp only[Ay,Option.some.injEq]at f1;subst f1;have:=(OW.1 (I1.1 hck).1).2.2.2.2;rw[Int.toNat_zero]at f2;rw[this]at f2;cases f2
 have ct0:=bQ (b:=Dg (D2 c q) (A7 l []) []) (most:=most);have hnx:∀{P L:List En},PI l P L→0<P.length→(P[0]!).done=false→∃k:Nat,(P[0]!).place=(k:Int)∧k<l.length∧Ay l 0 (P[0]!).word=some (k:Int):=fun{P L} h h0 hf=>by
  obtain⟨l1,l2,l3⟩:=h.lead _ (by rw[getElem!_pos P 0 h0];exact List.getElem_mem _) hf;refine⟨(P[0]!).place.toNat,by omega,by omega,?_⟩;rw[l3];congr 1;omega
 have cnx:=fun(Y:Ym) (hy:KA Y most) (u:List Int) (k:Nat) (P:List En) (b:Int) (h1:k<l.length) (h2:u.length≤20) (h2':u≠[]) (h3:∀e∈P,e.ok) (h4)=>bG (Y:=Y) (most:=most) (u:=u) (k:=k) (P:=P) (b:=b) hy hl hc hck h1 h2 h2' h3 h4;have cnx0:=fun(Y:Ym) (hy:KA Y most) (b:Int) (h4)=>bF (Y:=Y) (most:=most) (P:=[]) (b:=b) hy hl hc hck (fun e h=>(by cases h)) h4;have hpn:=fun(P L:List En) (h:PI l P L) (u:List Int) (k:Nat) (hk:k<l.length) (hu:Ay l 0 u=some (k:Int))=>h.push hc hm hd hka hnil hk hu most;have cpn:=fun(u:List Int) (k b:Int)=>dB (l:=l) (c:=c) (q:=q) (u:=u) (k:=k) (b:=b) (all:=Bj c q (q.length+1)) (t:=CJ c q l);have cpn0:=fun(b:Int)=>bH (l:=l) (c:=c) (q:=q) (b:=b) (all:=Bj c q (q.length+1)) (t:=CJ c q l);unfold N3 GC;generalize hall:Bj c q (q.length+1)=all at *;generalize htab:CJ c q l=tab at *;generalize hgW:Dg (D2 c q) (A7 l []) []=b0 at *;by_cases hkp:BN most ⟨b0,[],false,0⟩=true;rotate_left
 ·rw[if_neg hkp]at ct0;have e0:([⟨b0,[],false,0⟩]:List En).filter (BN most)=[]:=by simp[hkp]
  rw[e0];have e1:Kf (Ew (D2 c q) (A7 l [])) n most budget 12601 [] 0 []=([],0,0):=by
   unfold Kf;rw[if_neg (by simp)]
  rw[e1];refine A3.wk (r:=.tup [.nils,.int .i64 0,.int .i64 0]) ?_ (Is.refl _) (.tup (.cons (.nil 2) (.cons (.refl _) (.cons (.refl _) .nil))));unfold im at *;unfold My at cof cb;by_cases hn2:0<n
  ·refine A6 88 Tryz.func40 Cx fun X_ w_=>?_;have c0_:=cc;have c1_:=cof;have c2_:=cb;have c3_:=ct0;refine Ao ?_;try exact trivial
   refine De ?_;refine Ao ?_;try exact trivial
  ·refine A6 88 Tryz.func40 Cx fun X_ w_=>?_;have c0_:=cc;have c1_:=cof;have c2_:=cb;have c3_:=ct0;refine Ao ?_;try exact trivial
   refine De ?_;refine Ao ?_;try exact trivial
 rw[if_pos hkp]at ct0;have e0:([⟨b0,[],false,0⟩]:List En).filter (BN most)=[⟨b0,[],false,0⟩]:=by simp[hkp]
 rw[e0];have hst:Fb (A7 l []) [⟨b0,[],false,0⟩]≤12601:=by
  have:=OT hWn hW20 ⟨b0,[],false,0⟩ rfl;unfold Fb;simpa using this
 obtain⟨R,hR⟩:∃R,Kf (Ew (D2 c q) (A7 l [])) n most budget 12601 [] 0 [⟨b0,[],false,0⟩]=R:=⟨_,rfl⟩
 rw[hR];unfold Lx;unfold im at *;unfold My at cof cb;refine A6 88 Tryz.func40 Cx fun X_ w_=>?_;have c0_:=cc;have c1_:=cof;have c2_:=cb;have c3_:=ct0;refine Ao ?_;try exact trivial
 refine Jk 10 20000 67 2 rfl (by decide) (Nat.le_of_ble_eq_true rfl) ?_;refine A8 (fun x:Bool×Nat×List Ht×Nat×List En×List En=>Kf (Ew (D2 c q) (A7 l [])) n most budget x.2.1 x.2.2.1 x.2.2.2.1 x.2.2.2.2.2=R∧Fb (A7 l []) x.2.2.2.2.2≤x.2.1∧x.2.1+x.2.2.2.1=12601∧x.2.2.1.length≤x.2.2.2.1∧(if x.1=true then x.2.2.2.2.2=[⟨b0,[],false,0⟩]else PI l x.2.2.2.2.1 x.2.2.2.2.2))
  (fun x=>[(1,.d (.sl 1 (is q))),(2,.d (.int .i64 n)),(4,.d (.int .i64 budget)),(8,.ref 1 0),(10,.own 20000 x.2.2.1.length),(11,.d (.int .i64 x.2.2.2.1)),(13,.ref 4003 0),(14,.ref 5000 0),(15,.ref 6001 0)])
  (fun x=>[(1,.var [.d (.int .u64 most)]),(4003,.var [.d (.sl 2 (AQ l)),.d (.int .u64 c.more),.d (.int .u64 c.less),.d (.int .u64 c.other),.d (.int .u64 c.turned),.d (.sl 3 (rs c.rules)),.d (.sl 1 (is q)),.d (.sl 1 (HT all)),.d (.sl 1 (tt tab))]),(5000,.var [.d (OS x.1 b0 x.2.2.2.2.1)]),(6001,.var [.fn 105 [.ref 1 0,.ref 5000 0]]),(20000,.row 67 2 (ED x.2.2.1))])
  20001 (fun x=>x.2.1) [1,2,4,8,10,11,13,14,15] [1,4003,5000,6001,20000] (true,12601,[],0,[],[⟨b0,[],false,0⟩]) ⟨hR,hst,rfl,Nat.le_refl _,rfl⟩ rfl rfl (Nat.le_of_ble_eq_true rfl) (fun _ _=>rfl) (fun _ _=>rfl) fun x hx=>?_
 obtain⟨b,f,t,p,P,L⟩:=x;obtain⟨h1,h2,h3,h4,h5⟩:=hx;simp only at h1 h2 h3 h4 h5 ⊢;clear hR hst hgW e0;have hpl:=K9 (A7 l []) L;cases b;rotate_left
 ·have hL:L=[⟨b0,[],false,0⟩]:=h5;have epd:OS true b0 P= .sl 4 [DE b0]:=rfl;rw[epd];subst hL;have hc2:0<([⟨b0,[],false,0⟩]:List En).length:=by simp
  have eF:Bs [⟨b0,[],false,0⟩]=0:=rfl;have e0:([⟨b0,[],false,0⟩]:List En)[0]! =⟨b0,[],false,0⟩:=rfl;have eE:([⟨b0,[],false,0⟩]:List En).eraseIdx 0=[]:=rfl;simp only[List.length_cons,List.length_nil]at hpl;by_cases hc1:(t.length:Int)<n;rotate_left
  ·have e1:R=(t,p,0):=by
    rw[← h1];cases f with
    |zero=>rfl
    |succ f=>unfold Kf;rw[if_neg (fun h=>hc1 h.1)]
   subst e1;unfold DE;refine Ao ?_;try exact trivial
  obtain⟨f,rfl⟩:∃g,f=g+1:=⟨f-1,by omega⟩
  unfold Kf at h1;rw[if_pos ⟨hc1,hc2⟩]at h1;by_cases hbd:(p:Int)=budget
  ·rw[if_pos hbd]at h1;subst h1;unfold DE;refine Ao ?_;try exact trivial
  rw[if_neg hbd,eF,e0]at h1;simp only[Bool.false_eq_true,if_false]at h1;have hpx:=Nv (g:=D2 c q) hsrt hW0 hc2 (by rw[eF];rfl) (BN most);rw[eF,e0]at hpx;rw[eE]at h1 hpx;simp only[List.nil_append]at h1 hpx;have hpn6:=hpn [] [] ⟨List.Perm.refl _,rfl,fun e h=>(by cases h),fun e h=>(by cases h),fun e h=>(by cases h),fun e h=>(by cases h)⟩ [] 0 hl0 rfl;simp only[List.nil_append]at hpn6;have hkl:((Br c q l [] 0).filter (BN most)).length≤12601:=by
   have h7:=hpn6.len;rw[Nw]at h7;have h8:=K9 (A7 l []) ((Ew (D2 c q) (A7 l []) []).filter (BN most));omega
  have cnx6:=fun(Y:Ym) (hy:KA Y most)=>cnx0 Y hy b0 (by simp only[List.length_nil];omega);have cpn6:=cpn0 b0;have cpop:=dG (b:=b0);unfold DE at cpn6 cpop ⊢;unfold My at cpn6;have c0_:=cpop;have c1_:=cpn6;refine Ao ?_;try exact trivial
  refine Ir (cs:=[(15,.ref 6001 0)]) rfl rfl rfl (by simp(disch:=omega)only[go_sem,J9]) rfl rfl (by simp(disch:=omega)only[go_sem,Kz];rfl) (cnx6 ⟨88,#[82],_,_⟩ ?hy) rfl (by first|(simp(disch:=omega)only[go_sem,Kz]<;>rfl)|rfl) (by first|(simp(disch:=omega)only[go_sem,Kz]<;>rfl)|rfl) rfl (by first|(simp(disch:=omega)only[go_sem,Kz]<;>rfl)|rfl) (by first|(simp(disch:=omega)only[go_sem,Kz]<;>rfl)|rfl) (by first|(simp(disch:=omega)only[go_sem,Kz]<;>rfl)|rfl) ?_
  ·intro Q e hQ he hQl;have ct:=aa (most:=most) hQ he hQl;unfold Kz;unfold en at *;refine D7.run (N:=88) (ps:=[82]) (ks:=[0,1,2,3]) rfl rfl rfl rfl rfl (by simp(disch:=omega)only[go_sem];rfl) fun l_ X_ ν_ w_=>?_;dsimp only;refine Ao ?_;try exact trivial
   refine HH (by simp(disch:=omega)only[go_sem]<;>rfl) (by simp(disch:=omega)only[go_sem]<;>rfl) ?_;dsimp only;have c0_:=ct;refine Ao ?_;try exact trivial
  ·refine Ao ?_;try exact trivial
   refine⟨(false,f,t,p+1,(Br c q l [] 0).foldl (DD most) [],(Ew (D2 c q) (A7 l []) []).filter (BN most)),⟨h1,Nat.le_of_lt_succ (Nat.lt_of_lt_of_le hpx h2),by show f+(p+1)=12601;omega,by show t.length≤p+1;omega,hpn6⟩,?_,?_,Nat.lt_succ_self _⟩
   ·exact Ei
   ·simp(disch:=omega)only[go_sem,AC,OS]
 have h5:PI l P L:=h5;have epd:OS false b0 P= .sl 4 (es P):=rfl;rw[epd];have hPL:=h5.len;by_cases hcond:(t.length:Int)<n∧0<L.length;rotate_left
 ·have e1:R=(t,p,0):=by
   rw[← h1];cases f with
   |zero=>rfl
   |succ f=>unfold Kf;rw[if_neg hcond]
  subst e1;by_cases hn2:(t.length:Int)<n
  ·have hP0:P=[]:=List.eq_nil_of_length_eq_zero (by have:¬0<L.length:=fun h=>hcond ⟨hn2,h⟩;omega);subst hP0;refine Ao ?_;try exact trivial
  ·refine Ao ?_;try exact trivial
 obtain⟨hc1,hc2⟩:=hcond;have hP0:0<P.length:=by omega
 obtain⟨f,rfl⟩:∃g,f=g+1:=⟨f-1,by omega⟩
 unfold Kf at h1;rw[if_pos ⟨hc1,hc2⟩]at h1;by_cases hbd:(p:Int)=budget
 ·rw[if_pos hbd]at h1;subst h1;refine Ao ?_;try exact trivial
 rw[if_neg hbd]at h1;obtain⟨hf1,hf2⟩:=N8 h5.heap h5.place h5.perm hP0;have hin:P[0]!∈P:=by rw[getElem!_pos P 0 hP0];exact List.getElem_mem _
 have hsh:=h5.shortP (P[0]!) hin;have hne:(P[0]!).word≠[]:=h5.ne (Du (P[0]!)) (h5.perm.mem_iff.1 (List.mem_map.2 ⟨_,hin,rfl⟩));have cpop:=eY h5.ok (by omega) hP0;have hd5:=h5.done hP0;have hpo:=RN (W:=A7 l []) hc2;have hpx:=fun h=>Nv (g:=D2 c q) hsrt hW0 hc2 h (BN most);have hnx5:=hnx h5 hP0;have hw1:(L[Bs L]!).done=(P[0]!).done:=by rw[← hf1];rfl
 have hw2:Rn (L[Bs L]!)=⟨(P[0]!).word,(P[0]!).cost⟩:=by rw[← hf1];rfl
 have hw3:(L[Bs L]!).word=(P[0]!).word:=by rw[← hf1];rfl
 rw[hw1]at h1 hpx;rw[hw2,hw3]at h1;rw[hw3]at hpx;have hrok:=hd5.ok;have hrl:(Cd P).length=P.length-1:=KX hP0;cases hdn:(P[0]!).done;rotate_left
 ·rw[hdn]at h1;simp only[if_true]at h1;have ccl:=L3 (l:=(P[0]!).word) (by omega);unfold en at cpop;rw[hdn]at cpop;generalize P[0]! =e0 at *;obtain⟨ecost,eword,edone,eplace⟩:=e0;simp only at *;have c0_:=cpop;have c1_:=ccl;refine Ao ?_;try exact trivial
  refine⟨(false,f,t++[⟨eword,ecost⟩],p+1,Cd P,L.eraseIdx (Bs L)),⟨h1,Nat.le_of_lt_succ (Nat.lt_of_lt_of_le hpo h2),by show f+(p+1)=12601;omega,by show(t++[_]).length≤p+1;simp;omega,hd5⟩,?_,?_,Nat.lt_succ_self _⟩
  ·simp(disch:=omega)only[go_sem,AC,Int.natCast_add,Int.cast_ofNat_Int,List.length_append,List.length_cons,List.length_nil]
  ·simp(disch:=omega)only[go_sem,AC,OS]
 ·rw[hdn]at h1;simp only[Bool.false_eq_true,if_false]at h1;obtain⟨k,hk1,hk2,hk3⟩:=hnx5 hdn;have hpn6:=hpn _ _ hd5 (P[0]!).word k hk2 hk3;have hpx6:=hpx hdn;have hkl:((Br c q l (P[0]!).word k).filter (BN most)).length≤12601:=by
   have h7:=hpn6.len;rw[Nw]at h7;have h8:=K9 (A7 l []) (L.eraseIdx (Bs L)++(Ew (D2 c q) (A7 l []) (P[0]!).word).filter (BN most));omega
  have cnx6:=fun(Y:Ym) (hy:KA Y most)=>cnx Y hy (P[0]!).word k (Cd P) (P[0]!).cost hk2 hsh hne hrok (by omega);have cpn6:=cpn (P[0]!).word k (P[0]!).cost;unfold en at cpop;rw[hdn,hk1]at cpop;generalize P[0]! =e0 at *;obtain⟨ecost,eword,edone,eplace⟩:=e0;simp only at *;unfold en My at cpn6;have c0_:=cpop;have c1_:=cpn6;refine Ao ?_;try exact trivial
  refine Ir (cs:=[(15,.ref 6001 0)]) rfl rfl rfl (by simp(disch:=omega)only[go_sem,J9]) rfl rfl (by simp(disch:=omega)only[go_sem,Kz];rfl) (cnx6 ⟨88,#[82],_,_⟩ ?hy2) rfl (by first|(simp(disch:=omega)only[go_sem,Kz]<;>rfl)|rfl) (by first|(simp(disch:=omega)only[go_sem,Kz]<;>rfl)|rfl) rfl (by first|(simp(disch:=omega)only[go_sem,Kz]<;>rfl)|rfl) (by first|(simp(disch:=omega)only[go_sem,Kz]<;>rfl)|rfl) (by first|(simp(disch:=omega)only[go_sem,Kz]<;>rfl)|rfl) ?_
  ·intro Q e hQ he hQl;have ct:=aa (most:=most) hQ he hQl;unfold Kz;unfold en at *;refine D7.run (N:=88) (ps:=[82]) (ks:=[0,1,2,3]) rfl rfl rfl rfl rfl (by simp(disch:=omega)only[go_sem];rfl) fun l_ X_ ν_ w_=>?_;dsimp only;refine Ao ?_;try exact trivial
   refine HH (by simp(disch:=omega)only[go_sem]<;>rfl) (by simp(disch:=omega)only[go_sem]<;>rfl) ?_;dsimp only;have c0_:=ct;refine Ao ?_;try exact trivial
  ·refine Ao ?_;try exact trivial
   refine⟨(false,f,t,p+1,(Br c q l eword k).foldl (DD most) (Cd P),L.eraseIdx (Bs L)++(Ew (D2 c q) (A7 l []) eword).filter (BN most)),⟨h1,Nat.le_of_lt_succ (Nat.lt_of_lt_of_le hpx6 h2),by show f+(p+1)=12601;omega,by show t.length≤p+1;omega,hpn6⟩,?_,?_,Nat.lt_succ_self _⟩
   ·exact Ei
   ·simp(disch:=omega)only[go_sem,AC,OS]
end Go.Eng.Tryz
namespace Go.Eng.Tryz
attribute [local go_sem] Aq As Bb Bh AP AO Az Ax Ch Cg
theorem YZ{l:List Ru}(hl:l.length≤1000000):A3 Tryz.prog 73 [.sl 3 (rs l)] (.sl 3 (rs l)):=by
 cases l with
 |nil =>
  have h1:A3 Tryz.prog 73 [.nils] .nils:=by
   refine A6 8 Tryz.func73 A4 fun X_ w_=>?_;refine Ao ?_;try exact trivial
  have h2:A3 Tryz.prog 73 [.emp 3] (.sl 3 []):=by
   refine A6 8 Tryz.func73 A4 fun X_ w_=>?_;refine Ao ?_;try exact trivial
  exact A3.nil_at (sz:=3) 0 rfl (h1.wk (Is.refl _) (.nil 3)) h2
 |cons x l =>
  have e:rs (x::l)=ru x::rs l:=rfl;simp only[List.length_cons]at hl;refine A6 8 Tryz.func73 A4 fun X_ w_=>?_;refine Au @e ?_;try exact trivial
def fy:D:=.agg [.nils,.int .u64 0,.int .u64 0,.int .u64 0,.int .u64 0,.nils]
theorem Z4{L:List (List Int)}{c:Co}(hL:Gd L)(hc:c.ok)(he:Oi L=0)(hk:Lq c=true):A3 Tryz.prog 26 [.sl 1 (CI L),co c] (.tup [im (QR L) c,.int .i64 0]):=by
 have cm:=dx hL;have cc:=Td hc;have cr:=YZ (l:=c.rules) (by have:=(JS.1 hk).2.1;omega);rw[Wm he]at cm;rw[hk]at cc;generalize QR L=l at cm ⊢;unfold co at cc;unfold im co;refine A6 30 Tryz.func26 Ah fun X_ w_=>?_;have c0_:=cm;have c1_:=cc;have c2_:=cr;refine Ao ?_;try exact trivial
end Go.Eng.Tryz
namespace Go.Eng.Tryz
attribute [local go_sem] Aq As Bb Bh AP AO Az Ax Ch Cg
def VX:Co:=⟨1,1,1,1,[]⟩
theorem dg:Bt []:=by unfold Bt;decide
theorem aH:Lq VX=true:=by decide +kernel
theorem Ot:VX.ok:=⟨⟨by decide,by decide⟩,⟨by decide,by decide⟩,⟨by decide,by decide⟩,⟨by decide,by decide⟩,fun r h=>(nomatch h),by decide⟩
theorem cV:(⟨0,0,0,0,[]⟩:Co).ok:=⟨⟨by decide,by decide⟩,⟨by decide,by decide⟩,⟨by decide,by decide⟩,⟨by decide,by decide⟩,fun r h=>(nomatch h),by decide⟩
end Go.Eng.Tryz
namespace Go.Eng.Tryz
attribute [local go_sem] Aq As Bb Bh AP AO Az Ax Ch Cg Gj Gi Bq
def MA(l:List Ak)(c:Co)(q u:List Int):Int:=if Lp l c q=0 then Dg (D2 c q) (A7 l []) u else 18446744073709551615
theorem Qa{l:List Ak}{c:Co}{q u:List Int}(hl:Bt l)(hc:c.ok)(hq:q.length≤9223372036854775807)(hu:u.length≤1000000):A3 Tryz.prog 43 [im l c,.sl 1 (is q),.sl 1 (is u)] (.int .u64 (MA l c q u)):=by
 have cc:=RL (q:=q) hl hc hq;unfold MA;by_cases hck:Lp l c q=0;rotate_left
 ·rw[if_neg hck];generalize Lp l c q=e at *;unfold im at *;refine A6 28 Tryz.func43 B6 fun X_ w_=>?_;have c0_:=cc;refine Ao ?_;try exact trivial
 rw[if_pos hck];rw[hck]at cc;obtain⟨hm,hd,hka,hmy,hkc,hq20,hmn⟩:=EL hck;have hl0:=(Aw.1 hka).2.1;have cl:=X9 (f:=0) (w:=u) hl (by omega);have e0:ER l 0 u=Ay l 0 u:=if_pos ⟨Int.le_refl 0,by omega⟩;rw[e0]at cl;cases hg:Ay l 0 u with
 |none =>
  rw[hg]at cl;rw[Ss hka hg];unfold FC at cl;unfold im at *;refine A6 28 Tryz.func43 B6 fun X_ w_=>?_;have c0_:=cc;have c1_:=cl;refine Ao ?_;try exact trivial
 |some k =>
  obtain⟨b1,b2,_⟩:=DB hka (Int.le_refl 0) (by omega) hg;obtain⟨x,rfl⟩:=Int.eq_ofNat_of_zero_le b1;rw[hg]at cl;rw[← MB hc hm hd hg];have cof:=ZZ (q:=q) hl hc hq hck;have cb:=Q7 (u:=u) (at_:=x) hl hc hck (by omega) hu;unfold FC at cl;unfold My at cof cb;unfold im at *;generalize FF c q l u x=bv at *;refine A6 28 Tryz.func43 B6 fun X_ w_=>?_;have c0_:=cc;have c1_:=cl;have c2_:=cof;have c3_:=cb;refine Ao ?_;try exact trivial
theorem Ul{a b:List Ht}(ha:∀h∈a,h.word.length≤1000000)(hb:∀h∈b,h.word.length≤1000000)(hla:a.length≤1000000)(hlb:b.length≤1000000):A3 Tryz.prog 42 [.sl 2 (ED a),.sl 2 (ED b)] (.bool (decide (a=b))):=by
 by_cases hl:a.length=b.length
 ·refine A6 42 Tryz.func42 Ah fun X_ w_=>?_;refine Ao ?_;try exact trivial
  refine A8 (fun k:Nat=>k≤a.length∧a.take k=b.take k) (fun k=>[(0,.d (.sl 2 (ED a))),(1,.d (.sl 2 (ED b))),(5,.d (.int .i64 k))]) (fun _=>[]) 0 (fun k=>a.length-k) [0,1,5] [] 0 ⟨Nat.zero_le _,rfl⟩ rfl rfl (Nat.le_refl _) (fun _ _=>rfl) (fun _ _=>rfl) fun k hk=>?_;obtain⟨hk1,hw⟩:=hk;by_cases hk':k<a.length
  ·have hk2:k<b.length:=by omega
   have cs:=Zf (a:=(a[k]!).word) (b:=(b[k]!).word) (by have:=ha (a[k]!) (by rw[getElem!_pos a k hk'];exact List.getElem_mem _);omega) (by have:=hb (b[k]!) (by rw[getElem!_pos b k hk2];exact List.getElem_mem _);omega);by_cases h1:(a[k]!).cost=(b[k]!).cost
   ·by_cases h2:(a[k]!).word=(b[k]!).word
    ·rw[decide_eq_true h2]at cs;have he:a[k]! =b[k]! :=by
      have key:∀x y:Ht,x.word=y.word→x.cost=y.cost→x=y:=by
       rintro⟨x1,x2⟩ ⟨y1,y2⟩ h h';simp only at h h';subst h h';rfl
      exact key _ _ h2 h1
     have e:a.take (k+1)=b.take (k+1):=by rw[AT hk',AT hk2,hw,he]
     have c0_:=cs;refine Au @h1 ?_;try exact trivial
     refine⟨k+1,⟨by omega,e⟩,?_,rfl,by omega⟩;exact Ei
    ·rw[decide_eq_false h2]at cs;have e:decide (a=b)=false:=decide_eq_false fun h=>h2 (by rw[h]);have c0_:=cs;refine Au (And.intro @h1 @e) ?_;try exact trivial
   ·have e:decide (a=b)=false:=decide_eq_false fun h=>h1 (by rw[h]);refine Au @e ?_;try exact trivial
  ·have hk':k=a.length:=by omega
   subst hk';have e:decide (a=b)=true:=decide_eq_true (by rw[List.take_length,hl,List.take_length]at hw;exact hw);refine Au @e ?_;try exact trivial
 ·have e:decide (a=b)=false:=decide_eq_false fun h=>hl (by rw[h]);refine A6 42 Tryz.func42 Ah fun X_ w_=>?_;refine Au @e ?_;try exact trivial
def PO(l:List Ak)(c:Co)(q:List Int):Bool:=Oc l 60&&Wq c.rules 300&&decide (q.length≤100)
theorem Qf{l:List Ak}{c:Co}{q:List Int}(hl:Bt l)(hc:c.ok)(hq:q.length≤9223372036854775807):A3 Tryz.prog 39 [im l c,.sl 1 (is q)] (.bool (PO l c q)):=by
 have ca:=dt (n:=60) hl (by omega);have hlen:=hc.2.2.2.2.2;unfold im;refine A6 51 Tryz.func39 Ah fun X_ w_=>?_;refine Ao ?_;try exact trivial
 refine A8 (fun k:Nat=>k≤c.rules.length∧(c.rules.take k).all LP=true) (fun k=>[(1,.d (.sl 1 (is q))),(2,.ref 0 0),(5,.d (.int .i64 k))]) (fun _=>[(0,.var [.d (.sl 2 (AQ l)),.d (.int .u64 c.more),.d (.int .u64 c.less),.d (.int .u64 c.other),.d (.int .u64 c.turned),.d (.sl 3 (rs c.rules))])]) 20000 (fun k=>c.rules.length-k) [1,2,5] [0] 0 ⟨Nat.zero_le _,rfl⟩ rfl rfl (Nat.le_of_ble_eq_true rfl) (fun _ _=>rfl) (fun _ _=>rfl) fun k hk=>?_;obtain⟨hk1,hw⟩:=hk;by_cases hk':k<c.rules.length
 ·have hst:=UX hk';rw[hw,Bool.true_and]at hst;have hff:LP (c.rules[k]!)=false→PO l c q=false:=fun h=>by
   unfold PO;rw[aR hk' h];simp
  by_cases h1:(c.rules[k]!).left.length≤100
  ·by_cases h2:(c.rules[k]!).right.length≤100
   ·have h3:=aQ h1 h2;rw[h3]at hst;refine Ao ?_;try exact trivial
    refine⟨k+1,⟨by omega,hst⟩,?_,?_,by omega⟩
    ·exact Ei
    ·exact GL
   ·have e:=hff (Wp fun h=>h2 h.2);refine Au @e ?_;try exact trivial
  ·have e:=hff (Wp fun h=>h1 h.1);refine Au @e ?_;try exact trivial
 ·have hk':k=c.rules.length:=by omega
  subst hk';rw[List.take_length]at hw;have e:PO l c q=(Oc l 60&&decide ((c.rules.length:Int)≤300)&&decide (q.length≤100)):=by
   unfold PO Wq;rw[hw,Bool.true_and]
  rw[e];cases hA:Oc l 60
  ·rw[hA]at ca;have c0_:=ca;refine Ao ?_;try exact trivial
  rw[hA]at ca;by_cases h2:(c.rules.length:Int)≤300
  ·by_cases h3:q.length≤100
   ·rw[decide_eq_true h2,decide_eq_true h3];have c0_:=ca;refine Ao ?_;try exact trivial
   ·rw[decide_eq_true h2,decide_eq_false h3];have c0_:=ca;refine Ao ?_;try exact trivial
  ·rw[decide_eq_false h2];have c0_:=ca;refine Ao ?_;try exact trivial
end Go.Eng.Tryz

/- What it costs to finish, plainly. (and what stands behind it: texts laid together) -/
import Derived.Test.YtooblcpmpemhfaaGreatDoorMR8
import Derived.Test.YtooblcpmpemhfaaGreatDoorMG4
set_option linter.unusedVariables false
set_option linter.unusedSimpArgs false
open Go Go.Eng Go.Proofs Go.RowKit
set_option maxHeartbeats 32000000
set_option maxRecDepth 100000
namespace Go.Eng.Tryz
def Dx(s:Se)(l:List Ak)(k:Nat):List Int:=if s.any=true then(l[k]!).arcs.map (·.to)else match ER l k s.put with|some e=>[e]|none=>[]
theorem MK{l:List Ak}(h:achk l=true){s:Se}{k:Nat}(hk:k<l.length){e:Int}(he:e∈Dx s l k):(k:Int)≤e∧e<l.length∧(s.any=true∨s.put≠[]→(k:Int)<e):=by
 unfold Dx at he;split at he
 ·rename_i ha;obtain⟨a,hm,rfl⟩:=List.mem_map.1 he;have:=CF h hk a hm;exact⟨by omega,this.2.1,fun _=>this.1⟩
 ·rename_i ha;unfold ER at he;rw[if_pos ⟨by omega,by omega⟩]at he;split at he
  ·rename_i t ht;simp only[List.mem_singleton]at he;subst he;obtain⟨h1,h2,h3⟩:=DB h (by omega) (by omega) ht;exact⟨h1,h2,fun hh=>h3 (hh.resolve_left ha)⟩
  ·cases he
def FG(t:List (List Int))(i:Nat)(s:Se)(m e:Int):Int:=min m (BM s.cost (Ap t (i+s.eat.toNat) e.toNat))
def Ld(l:List Ak)(t:List (List Int))(i k:Nat)(m:Int)(s:Se):Int:=(Dx s l k).foldl (FG t i s) m
def base(n:Nat)(l:List Ak)(i k:Nat):Int:=if i+1=n∧(l[k]!).final=true then 0 else 18446744073709551615
def Ep(all:List (List Se))(l:List Ak)(t:List (List Int))(i k:Nat):Int:=(all[i]!).foldl (Ld l t i k) (base all.length l i k)
def P8(all:List (List Se))(l:List Ak)(i:Nat)(t:List (List Int))(m:Nat):List (List Int):=(List.range m).foldl (fun t m=>FM t i (l.length-1-m) (Ep all l t i (l.length-1-m))) t
def Qp(all:List (List Se))(l:List Ak)(k:Nat):List (List Int):=(List.range k).foldl (fun t k=>P8 all l (all.length-1-k) (t.set (all.length-1-k) (List.replicate l.length 0)) l.length) (List.replicate all.length [])
def tg(all:List (List Se))(l:List Ak):List (List Int):=Qp all l all.length
theorem NM(all:List (List Se))(l:List Ak)(i:Nat)(t:List (List Int))(m:Nat):P8 all l i t (m+1)=FM (P8 all l i t m) i (l.length-1-m) (Ep all l (P8 all l i t m) i (l.length-1-m)):=by simp[P8,List.range_succ]
theorem S5(all:List (List Se))(l:List Ak)(k:Nat):Qp all l (k+1)=P8 all l (all.length-1-k) ((Qp all l k).set (all.length-1-k) (List.replicate l.length 0)) l.length:=by simp[Qp,List.range_succ]
def Gs(all:List (List Se)):Prop:=∀i,i<all.length→∀s∈all[i]!,0≤s.eat∧i+s.eat.toNat<all.length∧U s.cost∧(s.eat=0→s.any=true∨s.put≠[])
theorem aP{t:List (List Int)}{i:Nat}{s:Se}{m e:Int}(hm:U m)(hs:U s.cost)(ht:U (Ap t (i+s.eat.toNat) e.toNat)):U (FG t i s m e):=by
 have:=Gt hs ht;unfold FG U at *;omega
theorem ID{t:List (List Int)}{i:Nat}{s:Se}(hs:U s.cost):∀(es:List Int) (m:Int),U m→(∀e∈es,U (Ap t (i+s.eat.toNat) e.toNat))→U (es.foldl (FG t i s) m)
 | [],m,h,_=>h
 |e::es,m,h,ht=>ID hs es _ (aP h hs (ht e (by simp))) fun x hx=>ht x (by simp[hx])
theorem TW{t:List (List Int)}{i:Nat}{s:Se}:∀(es:List Int) (m:Int),es.foldl (FG t i s) m≤m∧(∀e∈es,es.foldl (FG t i s) m≤BM s.cost (Ap t (i+s.eat.toNat) e.toNat))∧(es.foldl (FG t i s) m=m∨∃e∈es,es.foldl (FG t i s) m=BM s.cost (Ap t (i+s.eat.toNat) e.toNat))
 | [],m=>⟨Int.le_refl _,fun e h=>(by cases h),.inl rfl⟩
 |e::es,m=>by
  obtain⟨h1,h2,h3⟩:=TW (t:=t) (i:=i) (s:=s) es (FG t i s m e);simp only[List.foldl_cons];have hk:FG t i s m e=min m (BM s.cost (Ap t (i+s.eat.toNat) e.toNat)):=rfl;refine⟨by omega,fun x hx=>?_,?_⟩
  ·rcases List.mem_cons.1 hx with rfl|hx
   ·omega
   ·exact h2 x hx
  ·rcases h3 with h3|⟨x,hx,h3⟩
   ·rw[h3,hk];rcases(by omega:min m (BM s.cost (Ap t (i+s.eat.toNat) e.toNat))=m∨min m (BM s.cost (Ap t (i+s.eat.toNat) e.toNat))=BM s.cost (Ap t (i+s.eat.toNat) e.toNat))with h|h
    ·exact .inl h
    ·exact .inr ⟨e,by simp,h⟩
   ·exact .inr ⟨x,by simp[hx],h3⟩
theorem LZ{l:List Ak}{t:List (List Int)}{i k:Nat}:∀(ss:List Se) (m:Int),ss.foldl (Ld l t i k) m≤m∧(∀s∈ss,∀e∈Dx s l k,ss.foldl (Ld l t i k) m≤BM s.cost (Ap t (i+s.eat.toNat) e.toNat))∧(ss.foldl (Ld l t i k) m=m∨∃s∈ss,∃e∈Dx s l k,ss.foldl (Ld l t i k) m=BM s.cost (Ap t (i+s.eat.toNat) e.toNat))
 | [],m=>⟨Int.le_refl _,fun s h=>(by cases h),.inl rfl⟩
 |s::ss,m=>by
  obtain⟨h1,h2,h3⟩:=LZ (l:=l) (t:=t) (i:=i) (k:=k) ss (Ld l t i k m s);obtain⟨g1,g2,g3⟩:=TW (t:=t) (i:=i) (s:=s) (Dx s l k) m;simp only[List.foldl_cons];change Ld l t i k m s≤m at g1;refine⟨by omega,fun x hx e he=>?_,?_⟩
  ·rcases List.mem_cons.1 hx with rfl|hx
   ·have:=g2 e he;change Ld l t i k m x≤_ at this;omega
   ·exact h2 x hx e he
  ·rcases h3 with h3|⟨x,hx,e,he,h3⟩
   ·rw[h3];rcases g3 with g3|⟨e,he,g3⟩
    ·exact .inl g3
    ·exact .inr ⟨s,by simp,e,he,g3⟩
   ·exact .inr ⟨x,by simp[hx],e,he,h3⟩
theorem VK{l:List Ak}{t t':List (List Int)}{i k:Nat}{s:Se}(h:∀e∈Dx s l k,Ap t' (i+s.eat.toNat) e.toNat=Ap t (i+s.eat.toNat) e.toNat)(m:Int):Ld l t' i k m s=Ld l t i k m s:=by
 unfold Ld;have:∀(es:List Int) (m:Int),(∀e∈es,e∈Dx s l k)→es.foldl (FG t' i s) m=es.foldl (FG t i s) m:=by
  intro es;induction es with
  |nil=>intro m _;rfl
  |cons e es ih =>
   intro m he;simp only[List.foldl_cons];have:FG t' i s m e=FG t i s m e:=by unfold FG;rw[h e (he e (by simp))]
   rw[this];exact ih _ fun x hx=>he x (by simp[hx])
 exact this _ m fun e he=>he
theorem Jn{all:List (List Se)}{l:List Ak}{t t':List (List Int)}{i k:Nat}(h:∀s∈all[i]!,∀e∈Dx s l k,Ap t' (i+s.eat.toNat) e.toNat=Ap t (i+s.eat.toNat) e.toNat):Ep all l t' i k=Ep all l t i k:=by
 unfold Ep;have:∀(ss:List Se) (m:Int),(∀s∈ss,s∈all[i]!)→ss.foldl (Ld l t' i k) m=ss.foldl (Ld l t i k) m:=by
  intro ss;induction ss with
  |nil=>intro m _;rfl
  |cons s ss ih =>
   intro m he;simp only[List.foldl_cons];rw[VK (h s (he s (by simp)))];exact ih _ fun x hx=>he x (by simp[hx])
 exact this _ _ fun s hs=>hs
def W7(all:List (List Se))(l:List Ak)(t:List (List Int))(i k:Nat):Prop:=Ap t i k=Ep all l t i k∧U (Ap t i k)
theorem aG{all:List (List Se)}{l:List Ak}{t:List (List Int)}{i k:Nat}(hS:Gs all)(hi:i<all.length)(h:∀s∈all[i]!,∀e∈Dx s l k,U (Ap t (i+s.eat.toNat) e.toNat)):U (Ep all l t i k):=by
 unfold Ep;have:∀(ss:List Se) (m:Int),U m→(∀s∈ss,s∈all[i]!)→U (ss.foldl (Ld l t i k) m):=by
  intro ss;induction ss with
  |nil=>intro m hm _;exact hm
  |cons s ss ih =>
   intro m hm he;simp only[List.foldl_cons];refine ih _ ?_ fun x hx=>he x (by simp[hx]);exact ID (hS i hi s (he s (by simp))).2.2.1 _ _ hm fun e hee=>h s (he s (by simp)) e hee
 exact this _ _ (by unfold base U;split<;>omega) fun s hs=>hs
theorem AN{all:List (List Se)}{l:List Ak}{t:List (List Int)}{i k:Nat}(hS:Gs all)(hl:achk l=true)(hi:i<all.length)(hk:k<l.length){s:Se}(hs:s∈all[i]!){e:Int}(he:e∈Dx s l k):i+s.eat.toNat<all.length∧e.toNat<l.length∧(i<i+s.eat.toNat∨i+s.eat.toNat=i∧k<e.toNat):=by
 obtain⟨h1,h2,h3,h4⟩:=hS i hi s hs;obtain⟨g1,g2,g3⟩:=MK hl hk he;refine⟨h2,by omega,?_⟩;by_cases h0:s.eat=0
 ·have:=g3 (h4 h0);right;rw[h0];simp;omega
 ·left;omega
theorem S6{all:List (List Se)}{l:List Ak}{t:List (List Int)}{i:Nat}(hS:Gs all)(hl:achk l=true)(hi:i<all.length)(hlen:t.length=all.length)(hrow:(t[i]!).length=l.length)(hrows:∀a,i<a→a<all.length→(t[a]!).length=l.length)(hfix:∀a b,i<a→a<all.length→b<l.length→W7 all l t a b) :
 ∀m,m≤l.length→(P8 all l i t m).length=all.length∧(∀a,i≤a→a<all.length→((P8 all l i t m)[a]!).length=l.length)∧(∀a b,i<a→a<all.length→b<l.length→W7 all l (P8 all l i t m) a b)∧(∀b,l.length-m≤b→b<l.length→W7 all l (P8 all l i t m) i b):=by
 intro m;induction m with
 |zero =>
  intro _;refine⟨by simpa[P8]using hlen,fun a h1 h2=>?_,fun a b h1 h2 h3=>by simpa[P8]using hfix a b h1 h2 h3,fun b h1 h2=>by omega⟩;by_cases e:a=i
  ·subst e;simpa[P8]using hrow
  ·simpa[P8]using hrows a (by omega) h2
 |succ m ih =>
  intro hm;obtain⟨i1,i2,i3,i4⟩:=ih (by omega);rw[NM];generalize hT:P8 all l i t m=T at *;have hk:l.length-1-m<l.length:=by omega
  generalize hkk:l.length-1-m=k at *;have hri:=i2 i (Nat.le_refl _) hi;have hg:∀a b,i≤a→a<all.length→b<l.length→Ap (FM T i k (Ep all l T i k)) a b=if a=i∧b=k then Ep all l T i k else Ap T a b:=fun a b h1 h2 h3=>by
   unfold Ap FM;rw[Eb (by omega)];by_cases e:a=i
   ·subst e;rw[if_pos rfl,Eb (by omega)];by_cases e2:b=k
    ·subst e2;simp
    ·rw[if_neg e2,if_neg (fun x=>e2 x.2)]
   ·rw[if_neg e,if_neg (fun x=>e x.1)]
  have hsame:∀a b,i≤a→a<all.length→b<l.length→(i<a∨k<b)→Ap (FM T i k (Ep all l T i k)) a b=Ap T a b:=fun a b h1 h2 h3 h4=>by
   rw[hg a b h1 h2 h3,if_neg (by omega)]
  have hcong:∀a b,i≤a→a<all.length→b<l.length→(i<a∨k≤b)→Ep all l (FM T i k (Ep all l T i k)) a b=Ep all l T a b:=fun a b h1 h2 h3 h4=>Jn fun s hs e he=>by
   obtain⟨q1,q2,q3⟩:=AN (t:=T) hS hl h2 h3 hs he;exact hsame _ _ (by omega) q1 q2 (by omega)
  have hfi:∀a b,i≤a→a<all.length→b<l.length→(i<a∨k<b)→W7 all l T a b→W7 all l (FM T i k (Ep all l T i k)) a b:=fun a b h1 h2 h3 h4 hf=>by
   unfold W7 at hf ⊢;rw[hsame a b h1 h2 h3 h4,hcong a b h1 h2 h3 (by omega)];exact hf
  refine⟨by simp[FM,i1],fun a h1 h2=>?_,fun a b h1 h2 h3=>hfi a b (by omega) h2 h3 (.inl h1) (i3 a b h1 h2 h3),fun b h1 h2=>?_⟩
  ·unfold FM;rw[Eb (by omega)];split
   ·rename_i e;subst e;rw[List.length_set];exact hri
   ·exact i2 a h1 h2
  ·by_cases e:b=k
   ·subst e;unfold W7;rw[hg i b (Nat.le_refl _) hi h2,if_pos ⟨rfl,rfl⟩,hcong i b (Nat.le_refl _) hi h2 (.inr (Nat.le_refl _))];refine⟨rfl,aG hS hi fun s hs e he=>?_⟩;obtain⟨q1,q2,q3⟩:=AN (t:=T) hS hl hi h2 hs he;rcases q3 with q3|⟨q3,q4⟩
    ·exact(i3 _ _ q3 q1 q2).2
    ·rw[q3];exact(i4 _ (by omega) q2).2
   ·exact hfi i b (Nat.le_refl _) hi h2 (.inr (by omega)) (i4 b (by omega) h2)
theorem S4{all:List (List Se)}{l:List Ak}(hS:Gs all)(hl:achk l=true):∀k,k≤all.length→(Qp all l k).length=all.length∧(∀a,all.length-k≤a→a<all.length→((Qp all l k)[a]!).length=l.length)∧(∀a,a<all.length-k→(Qp all l k)[a]! =[])∧∀a b,all.length-k≤a→a<all.length→b<l.length→W7 all l (Qp all l k) a b:=by
 intro k;induction k with
 |zero =>
  intro _;refine⟨by simp[Qp],fun a h1 h2=>by omega,fun a h1=>?_,fun a b h1 h2=>by omega⟩;simp only[Qp,List.range_zero,List.foldl_nil];rw[getElem!_pos _ a (by simp;omega)];simp
 |succ k ih =>
  intro hk;obtain⟨i1,i2,i3,i4⟩:=ih (by omega);rw[S5];generalize hT:Qp all l k=T at *;obtain⟨i,hi⟩:∃i,i=all.length-1-k:=⟨_,rfl⟩
  rw[← hi];have hia:i<all.length:=by omega
  have hget:∀a,(T.set i (List.replicate l.length 0))[a]! =if a=i then List.replicate l.length 0 else T[a]! :=fun a=>Eb (by omega);have hg2:∀a b,a≠i→Ap (T.set i (List.replicate l.length 0)) a b=Ap T a b:=fun a b h=>by unfold Ap;rw[hget,if_neg h]
  have:=S6 (t:=T.set i (List.replicate l.length 0)) hS hl hia (by simp[i1]) (by rw[hget,if_pos rfl];simp) (fun a h1 h2=>by rw[hget,if_neg (by omega)];exact i2 a (by omega) h2)
   (fun a b h1 h2 h3=>by
     have hf:=i4 a b (by omega) h2 h3;unfold W7 at hf ⊢;rw[hg2 a b (by omega),Jn fun s hs e he=>by
      obtain⟨q1,q2,q3⟩:=AN (t:=T) hS hl h2 h3 hs he;exact hg2 _ _ (by omega)]
     exact hf) l.length (Nat.le_refl _)
  obtain⟨j1,j2,j3,j4⟩:=this;refine⟨j1,fun a h1 h2=>j2 a (by omega) h2,fun a h1=>?_,fun a b h1 h2 h3=>?_⟩
  ·have:∀m,(P8 all l i (T.set i (List.replicate l.length 0)) m)[a]! =T[a]! :=by
    intro m;induction m with
    |zero=>simp only[P8,List.range_zero,List.foldl_nil];rw[hget,if_neg (by omega)]
    |succ m ihm =>
     rw[NM];unfold FM;by_cases hlt:i<(P8 all l i (T.set i (List.replicate l.length 0)) m).length
     ·rw[Eb hlt,if_neg (by omega)];exact ihm
     ·rw[List.set_eq_of_length_le (by omega)];exact ihm
   rw[this];exact i3 a (by omega)
  ·by_cases e:a=i
   ·subst e;exact j4 b (by omega) h3
   ·exact j3 a b (by omega) h2 h3
structure TG(all:List (List Se))(l:List Ak)(t:List (List Int)):Prop where
 len:t.length=all.length
 rows:∀a,a<all.length→(t[a]!).length=l.length
 fix:∀a b,a<all.length→b<l.length→W7 all l t a b
theorem c8{all:List (List Se)}{l:List Ak}(hS:Gs all)(hl:achk l=true):TG all l (tg all l):=by
 obtain⟨h1,h2,_,h4⟩:=S4 hS hl all.length (Nat.le_refl _);exact⟨h1,fun a ha=>h2 a (by omega) ha,fun a b ha hb=>h4 a b (by omega) ha hb⟩
theorem Kn{c:Co}(hc:c.ok)(hk:Lq c=true)(q:List Int):Gs (Bj c q (q.length+1)):=fun i hi s hs=>by
 have hS:=Eo hc hk q [] i hi s hs;rw[BW]at hi;rw[EI c q hi]at hs;refine⟨hS.1,hS.2.1,hS.2.2.1,fun h0=>?_⟩;have h4:=(Kk hc hk hs).2.2.2.2;by_cases ha:s.any=true
 ·exact .inl ha
 ·right;intro hp;have:=h4 [] 0 0 (by unfold C6;rw[if_neg ha,hp];rfl);rw[h0]at this;simp at this
attribute [local go_sem] Aq As AP AO Az Ax JG Mo JF TU
theorem X9{l:List Ak}{f:Int}{w:List Int}(hl:Bt l)(hw:w.length≤9223372036854775807):A3 Tryz.prog 116 [.sl 2 (AQ l),.int .i64 f,.sl 1 (is w)] (FC (ER l f w)):=by
 have hlen:=hl.1;by_cases h0:f<0
 ·have e:ER l f w=none:=if_neg (by omega);rw[e];unfold FC;refine A6 37 Tryz.func116 B6 fun X_ w_=>?_;refine Ao ?_;try exact trivial
 by_cases h1:(l.length:Int)≤f
 ·have e:ER l f w=none:=if_neg (by omega);rw[e];unfold FC;refine A6 37 Tryz.func116 B6 fun X_ w_=>?_;refine Ao ?_;try exact trivial
 have eG:ER l f w=Ay l f w:=if_pos (by omega);rw[eG];refine A6 37 Tryz.func116 B6 fun X_ w_=>?_;refine Ao ?_;try exact trivial
 refine A8 (fun p:Nat×Int=>p.1≤w.length∧Ay l f (w.take p.1)=some p.2) (fun p=>[(0,.d (.sl 2 (AQ l))),(1,.d (.int .i64 p.2)),(8,.d (.bool true)),(19,.d (.sl 1 (is w))),(20,.d (.int .i64 w.length)),(21,.d (.int .i64 p.1))]) (fun _=>[]) 0 (fun p=>w.length-p.1) [0,1,8,19,20,21] [] (0,f) ⟨Nat.zero_le _,rfl⟩ rfl rfl (Nat.le_refl _) (fun _ _=>rfl) (fun _ _=>rfl) fun p hp=>?_;obtain⟨k,t⟩:=p;obtain⟨hk1,hk2⟩:=hp;simp only at hk1 hk2;by_cases hk3:k<w.length
 ·have cs:=dL (f:=t) (z:=w[k]!) hl;have hst:=SQ (l:=l) (f:=f) hk3;rw[hk2]at hst;simp only at hst;cases hsf:CP l t (w[k]!)with
  |none =>
   rw[hsf]at cs hst;rw[SP hst];unfold FC at cs ⊢;have c0_:=cs;refine Ao ?_;try exact trivial
  |some u =>
   rw[hsf]at cs hst;unfold FC at cs;have c0_:=cs;refine Ao ?_;try exact trivial
   refine⟨(k+1,u),⟨by show k+1≤_;omega,hst⟩,?_,rfl,by show w.length-(k+1)<w.length-k;omega⟩;exact Ei
 ·have hkl:k=w.length:=by omega
  subst hkl;rw[List.take_length]at hk2;rw[hk2];unfold FC;refine Ao ?_;try exact trivial
def XP(m:Int)(s:Se)(n:Nat)(i:Nat)(t:List (List Int)):Aa:=[(0,.var [.d (.int .u64 m)]),(1,.var [.d (.int .i64 s.eat),.d (.sl 1 (is s.put)),.d (.bool s.any),.d (.int .u64 s.cost)]),(2,.var [.tab 4 n]),(3,.var [.d (.int .i64 i)]),(4,.tab TU (tt t) none)]
theorem dM{m:Int}{s:Se}{n i:Nat}{t:List (List Int)}{e:Nat}(hn:t.length=n)(hi:i+s.eat.toNat<n)(he0:0≤s.eat)(hrow:(t[i+s.eat.toNat]!).length≤1000000)(he:e<(t[i+s.eat.toNat]!).length)(hnn:n≤1000000)
 (hm:U m) (hc:U s.cost) (hv:U (Ap t (i+s.eat.toNat) e)):Ai Tryz.prog 217 [.d (.int .i64 e),.ref 0 0,.ref 1 0,.ref 2 0,.ref 3 0] (XP m s n i t) (.tup []) (XP (FG t i s m e) s n i t) 5:=by
 obtain⟨eat,put,any,cost⟩:=s;obtain⟨d,rfl⟩:=Int.eq_ofNat_of_zero_le he0;simp only[Int.toNat_natCast]at hi hrow he hv;have c1:=JT hc hv;have c2:=Hn hm (Gt hc hv);have ei:(i:Int)+(d:Int)=((i+d:Nat):Int):=by omega
 have eE:FG t i ⟨d,put,any,cost⟩ m e=min m (BM cost ((t[i+d]!)[e]!)):=rfl;rw[eE];unfold Ap at c1 c2;unfold XP;refine Bo 22 [0,1,2,3,4] Tryz.func217 Tz fun X_ ν_ w_=>?_;have c0_:=c1;have c1_:=c2;refine Au (And.intro @hn (And.intro @ei @AR)) ?_;try exact trivial
theorem dr{m:Int}{s:Se}{n i k:Nat}{t:List (List Int)}{l:List Ak}(hl:Bt l)(hchk:achk l=true)(hk:k<l.length)(hn:t.length=n)(hi:i+s.eat.toNat<n)(he0:0≤s.eat)(hrow:(t[i+s.eat.toNat]!).length=l.length)(hnn:n≤1000000)(hput:s.put.length≤9223372036854775807)
 (hm:U m) (hc:U s.cost) (hv:∀e∈Dx s l k,U (Ap t (i+s.eat.toNat) e.toNat)):Ai Tryz.prog 216 [.d (se s),.d (.sl 2 (AQ l)),.d (.int .i64 k),.fn 217 [.ref 0 0,.ref 1 0,.ref 2 0,.ref 3 0]] (XP m s n i t) (.tup []) (XP (Ld l t i k m s) s n i t) 5:=by
 have hlen:=(Aw.1 hchk).2.2;have hlok:=hl.1;have hak:=hl.get hk;unfold se;cases ha:s.any
 ·have cl:=X9 (f:=k) (w:=s.put) hl hput;cases hg:ER l k s.put with
  |none =>
   have e:Dx s l k=[]:=by unfold Dx;rw[ha,if_neg (by decide),hg]
   have eS:Ld l t i k m s=m:=by unfold Ld;rw[e];rfl
   rw[hg]at cl;unfold FC at cl;rw[eS];unfold XP;rw[ha];refine Bo 41 [0,1,2,3,4] Tryz.func216 DK fun X_ ν_ w_=>?_;have c0_:=cl;refine Ao ?_;try exact trivial
  |some e0 =>
   have e:Dx s l k=[e0]:=by unfold Dx;rw[ha,if_neg (by decide),hg]
   have eS:Ld l t i k m s=FG t i s m e0:=by unfold Ld;rw[e];rfl
   have hin:=MK hchk hk (s:=s) (e:=e0) (by rw[e];simp);obtain⟨x,rfl⟩:=Int.eq_ofNat_of_zero_le (by omega:0≤e0);have hvx:=hv x (by rw[e];simp);have ct:=dM (m:=m) (s:=s) (n:=n) (i:=i) (t:=t) (e:=x) hn hi he0 (by omega) (by omega) hnn hm hc (by simpa using hvx);rw[hg]at cl;unfold FC at cl;rw[eS];unfold XP at ct ⊢;rw[ha]at ct ⊢;refine Bo 41 [0,1,2,3,4] Tryz.func216 DK fun X_ ν_ w_=>?_;have c0_:=cl;have c1_:=ct;refine Ao ?_;try exact trivial
 ·have e:Dx s l k=(l[k]!).arcs.map (·.to):=by unfold Dx;rw[ha,if_pos rfl]
  have eS:Ld l t i k m s=((l[k]!).arcs.map (·.to)).foldl (FG t i s) m:=by unfold Ld;rw[e]
  rw[eS];rw[e]at hv;unfold XP;rw[ha];refine Bo 41 [0,1,2,3,4] Tryz.func216 DK fun X_ ν_ w_=>?_;refine Ao ?_;try exact trivial
  refine A8 (fun j:Nat=>j≤(l[k]!).arcs.length) (fun j=>[(3,.fn 217 [.ref 0 0,.ref 1 0,.ref 2 0,.ref 3 0]),(18,.d (.sl 2 (IZ (l[k]!).arcs))),(19,.d (.int .i64 (l[k]!).arcs.length)),(20,.d (.int .i64 j))])
   (fun j=>[(0,.var [.d (.int .u64 ((((l[k]!).arcs.take j).map (·.to)).foldl (FG t i s) m))]),(1,.var [.d (.int .i64 s.eat),.d (.sl 1 (is s.put)),.d (.bool true),.d (.int .u64 s.cost)]),(2,.var [.tab 4 n]),(3,.var [.d (.int .i64 i)]),(4,.tab TU (tt t) none)]) 5 (fun j=>(l[k]!).arcs.length-j) [3,18,19,20] [0,1,2,3,4] 0 (Nat.zero_le _) rfl rfl (Nat.le_of_ble_eq_true rfl) (fun _ _=>rfl) (fun _ _=>rfl) fun j hj=>?_
  by_cases hj2:j<(l[k]!).arcs.length
  ·have hmem:(l[k]!).arcs[j]!∈(l[k]!).arcs:=by rw[getElem!_pos _ j hj2];exact List.getElem_mem hj2
   have harc:=CF hchk hk _ hmem;obtain⟨x,hx⟩:=Int.eq_ofNat_of_zero_le (by omega:0≤((l[k]!).arcs[j]!).to);have hvx:=hv x (List.mem_map.2 ⟨_,hmem,hx⟩);have hum:U ((((l[k]!).arcs.take j).map (·.to)).foldl (FG t i s) m):=ID hc _ _ hm fun e he=>by
    obtain⟨a,ham,rfl⟩:=List.mem_map.1 he;exact hv _ (List.mem_map.2 ⟨a,List.mem_of_mem_take ham,rfl⟩)
   have ct:=dM (m:=(((l[k]!).arcs.take j).map (·.to)).foldl (FG t i s) m) (s:=s) (n:=n) (i:=i) (t:=t) (e:=x) hn hi he0 (by omega) (by omega) hnn hum hc (by simpa using hvx);have hst:(((l[k]!).arcs.take (j+1)).map (·.to)).foldl (FG t i s) m=FG t i s ((((l[k]!).arcs.take j).map (·.to)).foldl (FG t i s) m) x:=by
    rw[AT hj2,List.map_append,List.foldl_append,List.map_cons,List.map_nil,hx];rfl
   unfold XP at ct;rw[ha]at ct;have c0_:=ct;refine Au @hx ?_;try exact trivial
   refine⟨j+1,by omega,?_,?_,by omega⟩
   ·exact Ei
   ·exact Hq @hst
  ·have hje:j=(l[k]!).arcs.length:=by omega
   subst hje;rw[List.take_length];refine Ao ?_;try exact trivial
end Go.Eng.Tryz

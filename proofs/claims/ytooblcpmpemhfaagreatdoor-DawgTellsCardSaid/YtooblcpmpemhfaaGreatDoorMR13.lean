/- Least, part 2: whether no two states of an automaton are alike. (and what stands behind it: texts laid together) -/
import Derived.Test.YtooblcpmpemhfaaGreatDoorMG4
import Derived.Test.YtooblcpmpemhfaaGreatDoorMR12
import Derived.Test.YtooblcpmpemhfaaGreatDoorMR10
import Derived.Test.YtooblcpmpemhfaaGreatDoorMR7
import Derived.Test.YtooblcpmpemhfaaGreatDoorMR3
set_option linter.unusedVariables false
set_option linter.unusedSimpArgs false
open Go Go.Eng Go.Proofs Go.RowKit
set_option maxHeartbeats 32000000
set_option maxRecDepth 100000
namespace Go.Eng.Tryz
open Go.Maps (Keyed)
attribute [local go_sem] Aq As AK AO Bz AU AW AG AD
def PR(m:List AB):List (D×D):=m.map fun s=>(.str (Ch s),.bool true)
theorem Ps{m:List AB}(hm:∀p∈m,Lv p){s:AB}(hs:Lv s):I2 (PR m) (.str (Ch s))=if s∈m then some (.bool true)else none:=by
 induction m with
 |nil=>rfl
 |cons x t ih =>
  simp only[PR,List.map_cons,I2];by_cases hx:x=s
  ·rw[if_pos (by rw[hx]),if_pos (by rw[hx];simp)]
  ·rw[if_neg (fun e=>hx (Et (hm x (by simp)).1 hs.1 (by simpa using e)))];have:=ih fun p hp=>hm p (by simp[hp]);unfold PR at this;rw[this];have e:s∈x::t↔s∈t:=by
    rw[List.mem_cons];exact⟨fun h=>h.resolve_left (fun e=>hx e.symm),.inr⟩
   simp only[e]
theorem Pp{m:List AB}(hm:∀p∈m,Lv p){s:AB}(hs:Lv s):E4 (PR m) (.str (Ch s)) (.bool true)=PR (if s∈m then m else m++[s]):=by
 induction m with
 |nil=>rfl
 |cons x t ih =>
  simp only[PR,List.map_cons,E4];by_cases hx:x=s
  ·rw[if_pos (by rw[hx]),if_pos (by rw[hx];simp)];rw[hx];rfl
  ·rw[if_neg (fun e=>hx (Et (hm x (by simp)).1 hs.1 (by simpa using e)))];have:=ih fun p hp=>hm p (by simp[hp]);unfold PR at this;rw[this];have e:s∈x::t↔s∈t:=by
    rw[List.mem_cons];exact⟨fun h=>h.resolve_left (fun e=>hx e.symm),.inr⟩
   simp only[e];split<;>rfl
theorem SD{m:List AB}(hm:∀p∈m,Lv p)(hn:m.Nodup){s:AB}(hs:Lv s):Kv Tryz.prog 9 (PR m) (.str (Ch s)):=by
 refine⟨Ka,GO hs.2,fun p hp=>?_,?_⟩
 ·obtain⟨r,hr,rfl⟩:=List.mem_map.1 hp;exact GO (hm r hr).2
 ·unfold PR;rw[List.map_map,List.Nodup,List.pairwise_map];exact hn.imp_of_mem fun{a b} ha hb hne he=>hne (Et (hm a ha).1 (hm b hb).1 (by simpa using he))
theorem PN{n k:Nat}(h:k<n):(HP n n)[k]! =(k:Int):=by
 have e:=PM n;have e2:(is (HP n n))[k]? =(ns (List.range n))[k]? :=by rw[e]
 rw[As (by rw[EK];exact h),MZ (by simpa using h)]at e2;have e3:(List.range n)[k]! =k:=by rw[getElem!_pos _ k (by simpa using h)];simp
 rw[e3]at e2;simpa using e2
theorem Sw{n:Nat}(hn:n≤6001):OL (HP n n):=by
 refine⟨by rw[EK];omega,fun z hz=>?_⟩;obtain⟨k,hk,rfl⟩:=List.getElem_of_mem hz;have hk2:k<n:=by rwa [EK]at hk
 have:=PN hk2;rw[getElem!_pos _ k hk]at this;omega
theorem R2{n:Nat}{s:AB}(hs:∀a∈s.arcs,0≤a.to∧a.to<n):B5 (HP n n) s=s:=by
 unfold B5;have:s.arcs.map (B6 (HP n n))=s.arcs:=by
  refine(List.map_congr_left fun a ha=>?_).trans (List.map_id _);obtain⟨h1,h2⟩:=hs a ha;unfold B6;rw[PN (by omega)];cases a;simp only at h1;simp only[Ar.mk.injEq,true_and,id];omega
 rw[this]
def SU(n:Nat)(s:AB):Prop:=(∀a∈s.arcs,0≤a.sign∧a.sign≤1114111∧0≤a.to∧a.to<n)∧s.arcs.length≤10000
theorem SU.ok{n:Nat}{s:AB}(hn:n≤6001)(h:SU n s):Lv s:=by
 refine⟨fun a ha=>⟨(h.1 a ha).1,(h.1 a ha).2.2.1⟩,?_⟩;have hnl:=CL s.final s.arcs (fun a ha=>by have:=h.1 a ha;omega);have e1:(Ch s).size=(DO s).length:=by simp[Ch,BK,ByteArray.size]
 have:=h.2;rw[e1];simp only[maxLen];unfold DO;omega
def Hs(n:Nat)(m:List AB):A8:=[(0,.var [.ref 2 0]),(1,.var [.map 3]),(2,.var [.d .nils,.d .nils,.own 4 n,.d .nilm,.d .nils]),(3,.map 9 4 (PR m)),(4,.row 3 1 (is (HP n n)))]
theorem QR{n:Nat}{s:AB}{m:List AB}(hn:n≤6001)(hs:SU n s)(hm:∀p∈m,Lv p)(hd:m.Nodup) :
 Ac Tryz.prog 68 [.d (MO s),.ref 0 0,.ref 1 0] (Hs n m) (.d (.bool (decide (s∈m)))) (Hs n (if s∈m then m else m++[s])) 5:=by
 have hso:=hs.ok hn;have cn:=S4 (s:=s) (of:=HP n n) (Sw hn) (fun a ha=>by rw[EK];exact hs.1 a ha) hs.2;rw[R2 (fun a ha=>⟨(hs.1 a ha).2.2.1,(hs.1 a ha).2.2.2⟩),EK]at cn;have mk:=eq_true (SD hm hd hso);have mg:=Ps hm hso;have mp:=Pp hm hso;unfold Hs;generalize Ch s=key at cn mk mg mp;unfold MO at cn ⊢;by_cases h:s∈m
 ·rw[if_pos h]at mg mp;rw[if_pos h,decide_eq_true h];refine Ac.run (N:=16) (ks:=[0,1,2,3,4]) Tryz.func68 rfl (by kernel_rfl) rfl rfl rfl (by exact DU) fun X_ ν_ w_=>?_;have c0_:=cn;refine AI (And.intro @mk (And.intro @mg @mp)) ?_;try exact trivial
 ·rw[if_neg h]at mg mp;rw[if_neg h,decide_eq_false h];refine Ac.run (N:=16) (ks:=[0,1,2,3,4]) Tryz.func68 rfl (by kernel_rfl) rfl rfl rfl (by exact DU) fun X_ ν_ w_=>?_;have c0_:=cn;refine AI (And.intro @mk (And.intro @mg @mp)) ?_;try exact trivial
theorem QS{n k0:Nat}{l:List AB}(hn:n≤6001)(hl:l.length≤6001)(hs:∀p,p<l.length→SU n (l[p]!))(hk0:k0≤l.length)(h1:∀j,j<k0→l[j]!∉l.take j)(h2:k0<l.length→l[k0]!∈l.take k0) :
 Ac Tryz.prog 132 [.d (.sl 2 (AH l)),.fn 68 [.ref 0 0,.ref 1 0]] (Hs n []) (.d (.int .i64 (if k0<l.length then(k0:Int)else -1))) (Hs n (l.take k0)) 5:=by
 have hso:∀k,∀p∈l.take k,Lv p:=fun k p hp=>by
  obtain⟨q,hq,rfl⟩:=List.getElem_of_mem (List.mem_of_mem_take hp);have:=(hs q hq).ok hn
  rwa [getElem!_pos l q hq]at this
 have hnd:∀k,k≤k0→(l.take k).Nodup:=by
  intro k;induction k with
  |zero=>intro _;simp
  |succ k ih =>
   intro hk;rw[Ak (by omega),List.nodup_append];exact⟨ih (by omega),by simp,fun a ha b hb=>by
    simp only[List.mem_singleton]at hb;subst hb;exact fun e=>h1 k (by omega) (e▸ha)⟩
 unfold Hs;refine Ac.run (N:=19) (ks:=[0,1,2,3,4]) Tryz.func132 rfl (by kernel_rfl) rfl rfl rfl (by exact Bb) fun X_ ν_ w_=>?_;refine Aw ?_;try exact trivial
 refine A7 (fun k:Nat=>k≤k0) (fun k=>[(0,.d (.sl 2 (AH l))),(1,.fn 68 [.ref 0 0,.ref 1 0]),(7,.d (.int .i64 l.length)),(8,.d (.int .i64 k))]) (fun k=>Hs n (l.take k)) 5 (fun k=>l.length-k) [0,1,7,8] [0,1,2,3,4] 0 (Nat.zero_le _) rfl rfl (Nat.le_of_ble_eq_true rfl) (fun _ _=>rfl) (fun _ _=>rfl) fun k hk=>?_;by_cases hk3:k<l.length
 ·have cl:=QR hn (hs k hk3) (hso k) (hnd k hk);unfold Hs MO at cl;unfold Hs;by_cases hk4:k<k0
  ·have hsn:=Ak hk3;rw[decide_eq_false (h1 k hk4),if_neg (h1 k hk4),← hsn]at cl;generalize l.take k=m0 at cl;generalize hm1:l.take (k+1)=m1 at cl;have c0_:=cl;refine Aw ?_;try exact trivial
   refine⟨k+1,by omega,?_,?_,by omega⟩
   ·simp(disch:=omega)only[go_sem,A2,Int.natCast_add,Int.cast_ofNat_Int]
   ·simp(disch:=omega)only[go_sem,A2,hm1]
  ·have hke:k=k0:=by omega
   subst hke;rw[decide_eq_true (h2 hk3),if_pos (h2 hk3)]at cl;rw[if_pos hk3];generalize l.take k=m0 at cl;have c0_:=cl;refine Aw ?_;try exact trivial
 ·have hke:k0=l.length:=by omega
  have hke2:k=k0:=by omega
  subst hke2;rw[if_neg hk3];unfold Hs;refine Aw ?_;try exact trivial
theorem Sa{n k0:Nat}{l:List AB}(hn:n≤6001)(hl:l.length≤6001)(hs:∀p,p<l.length→SU n (l[p]!))(hk0:k0≤l.length)(h1:∀j,j<k0→l[j]!∉l.take j)(h2:k0<l.length→l[k0]!∈l.take k0) :
 Ac Tryz.prog 67 [.d (.sl 2 (AH l)),.fn 68 [.ref 0 0,.ref 1 0]] (Hs n []) (.d (.bool (decide (k0<l.length)))) (Hs n (l.take k0)) 5:=by
 have ci:=QS hn hl hs hk0 h1 h2;unfold Hs at ci ⊢;by_cases h:k0<l.length
 ·rw[if_pos h]at ci;rw[decide_eq_true h];refine Ac.run (N:=9) (ks:=[0,1,2,3,4]) Tryz.func67 rfl (by kernel_rfl) rfl rfl rfl (by exact Bb) fun X_ ν_ w_=>?_;have c0_:=ci;refine Aw ?_;try exact trivial
 ·rw[if_neg h]at ci;rw[decide_eq_false h];refine Ac.run (N:=9) (ks:=[0,1,2,3,4]) Tryz.func67 rfl (by kernel_rfl) rfl rfl rfl (by exact Bb) fun X_ ν_ w_=>?_;have c0_:=ci;refine Aw ?_;try exact trivial
theorem Or(l:List AB):∃k0,k0≤l.length∧(∀j,j<k0→l[j]!∉l.take j)∧(k0<l.length→l[k0]!∈l.take k0):=by
 have key:∀n,n≤l.length→(∃k0,k0<n∧(∀j,j<k0→l[j]!∉l.take j)∧l[k0]!∈l.take k0)∨∀j,j<n→l[j]!∉l.take j:=by
  intro n;induction n with
  |zero=>intro _;exact .inr fun j hj=>by omega
  |succ n ih =>
   intro hn;rcases ih (by omega)with⟨k0,a,b,c⟩|h
   ·exact .inl ⟨k0,by omega,b,c⟩
   ·by_cases hm:l[n]!∈l.take n
    ·exact .inl ⟨n,by omega,h,hm⟩
    ·refine .inr fun j hj=>?_;by_cases e:j=n
     ·subst e;exact hm
     ·exact h j (by omega)
 rcases key l.length (Nat.le_refl _)with⟨k0,a,b,c⟩|h
 ·exact⟨k0,by omega,b,fun _=>c⟩
 ·exact⟨l.length,Nat.le_refl _,h,fun h=>by omega⟩
theorem K4{l:List AB}:l.Nodup↔∀j,j<l.length→l[j]!∉l.take j:=by
 constructor
 ·intro h j hj hm;obtain⟨i,hi,e⟩:=List.getElem_of_mem hm;have hi2:i<j:=by simp at hi;omega
  rw[List.getElem_take,getElem!_pos l j hj]at e;exact(List.pairwise_iff_getElem.1 h i j (by omega) hj hi2) e
 ·intro h;refine List.pairwise_iff_getElem.2 fun i j hi hj hij e=>?_;refine h j hj ?_;rw[getElem!_pos l j hj,← e];exact List.mem_take_iff_getElem.2 ⟨i,by omega,rfl⟩
def leastB(l:List AB):Bool:=achk l&&decide l.Nodup
theorem KN{l:List AB}(hl:BZ l)(hf:achk l=true→∀p,p<l.length→(l[p]!).arcs.length≤10000):A1 Tryz.prog 20 [.sl 2 (AH l)] (.bool (leastB l)):=by
 have cc:=QW hl;unfold leastB;cases hka:achk l
 ·rw[hka]at cc;refine A1.run (N:=35) Tryz.func20 rfl (by kernel_rfl) rfl rfl rfl (by exact Ab) fun X_ w_=>?_;have c0_:=cc;refine Aw ?_;try exact trivial
 ·rw[hka]at cc;obtain⟨_,hl0,hl1⟩:=Fo.1 hka;obtain⟨k0,hk0,h1,h2⟩:=Or l;have hs:∀p,p<l.length→SU l.length (l[p]!):=fun p hp=>⟨fun a ha=>by
   obtain⟨g1,g2,g3⟩:=Fp hka hp a ha;have:=of_decide_eq_true g3;omega,hf hka p hp⟩
  have ci:=Sa (n:=l.length) hl1 hl1 hs hk0 h1 h2;unfold Hs at ci;have e:decide l.Nodup = !decide (k0<l.length):=by
   by_cases h:k0<l.length
   ·rw[decide_eq_true h,decide_eq_false (fun hn=>K4.1 hn k0 h (h2 h))];rfl
   ·have hke:k0=l.length:=by omega
    rw[decide_eq_false h,decide_eq_true (K4.2 (by rw[← hke];exact h1))];rfl
  rw[e];refine A1.run (N:=35) Tryz.func20 rfl (by kernel_rfl) rfl rfl rfl (by exact Ab) fun X_ w_=>?_;have c0_:=cc;refine Aw ?_;try exact trivial
  refine A7 (fun k:Nat=>k≤l.length) (fun k=>[(0,.d (.sl 2 (AH l))),(3,.ref 2005 0),(18,.d (.int .i64 l.length)),(19,.d (.int .i64 k))])
   (fun k=>[(2005,.var [.ref 2004 0]),(2004,.var [.d .nils,.d .nils,.own 2002 l.length,.d .nilm,.d .nils]),(2002,.row 3 1 (is (HP l.length k)))]) 4000 (fun k=>l.length-k) [0,3,18,19] [2005,2004,2002] 0 (Nat.zero_le _) rfl (by rw[Ik];rfl) (Nat.le_of_ble_eq_true rfl) (fun _ _=>rfl) (fun _ _=>rfl) fun k hk=>?_
  have hkl:(HP l.length k).length=l.length:=EK ..;by_cases hk3:k<l.length
  ·have hst3:=GR l.length k;have hset:(is (HP l.length k)).set k (.int .i64 k)=is (HP l.length (k+1)):=by rw[hst3];simp[is,List.map_set]
   refine AI (And.intro @hkl (And.intro @hset @Int.toNat_natCast)) ?_;try exact trivial
   refine⟨k+1,by omega,?_,?_,by omega⟩
   ·simp(disch:=omega)only[go_sem,A2,Int.natCast_add,Int.cast_ofNat_Int]
   ·simp(disch:=omega)only[go_sem,A2]
  ·have hke:k=l.length:=by omega
   subst hke;rw[show PR []=[]from rfl]at ci;have c0_:=ci;refine Aw ?_;try exact trivial
end Go.Eng.Tryz
namespace Go.Eng.Tryz
attribute [local go_sem] Aq As AU AW AG AD AK AO Bk
end Go.Eng.Tryz
namespace Go.Eng.Tryz
attribute [local go_sem] Aq As AU AW AG AD AK AO Bk
end Go.Eng.Tryz
namespace Go.Eng.Tryz
attribute [local go_sem] Aq As AU AW AG AD AK AO Bk
end Go.Eng.Tryz
namespace Go.Eng.Tryz
attribute [local go_sem] Aq As AU AW AG AD Ij Il AK AO
theorem NW{a b:List (List Int)}{k:Nat}(hk:k<a.length)(hk2:k<b.length)(h:a.take k=b.take k)(e:a[k]! =b[k]!):a.take (k+1)=b.take (k+1):=by
 rw[List.take_add_one,List.take_add_one,h,List.getElem?_eq_getElem hk,List.getElem?_eq_getElem hk2,← getElem!_pos a k hk,← getElem!_pos b k hk2,e]
theorem Pa{a b:List (List Int)}(ha:BY a)(hb:BY b):A1 Tryz.prog 30 [.sl 1 (AZ a),.sl 1 (AZ b)] (.bool (decide (a=b))):=by
 have hla:=ha.1;have hlb:=hb.1;by_cases hl:a.length=b.length
 ·refine A1.run (N:=27) Tryz.func30 rfl (by kernel_rfl) rfl rfl rfl (by exact An) fun X_ w_=>?_;refine Aw ?_;try exact trivial
  refine A7 (fun k:Nat=>k≤a.length∧a.take k=b.take k) (fun k=>[(0,.d (.sl 1 (AZ a))),(1,.d (.sl 1 (AZ b))),(5,.d (.int .i64 k))]) (fun _=>[]) 0 (fun k=>a.length-k) [0,1,5] [] 0 ⟨Nat.zero_le _,rfl⟩ rfl rfl (Nat.le_refl _) (fun _ _=>rfl) (fun _ _=>rfl) fun k hk=>?_;obtain⟨hk1,hw⟩:=hk;by_cases hk':k<a.length
  ·have hk2:k<b.length:=by omega
   have cs:=Fu (a:=a[k]!) (b:=b[k]!) (ha.get hk') (hb.get hk2);by_cases hc:a[k]! =b[k]!
   ·rw[decide_eq_true hc]at cs;have e:=NW hk' hk2 hw hc;have c0_:=cs;refine Aw ?_;try exact trivial
    refine⟨k+1,⟨by omega,e⟩,?_,rfl,by omega⟩;simp(disch:=omega)only[go_sem,A2,Int.natCast_add,Int.cast_ofNat_Int]
   ·rw[decide_eq_false hc]at cs;have e:decide (a=b)=false:=decide_eq_false fun h=>hc (by rw[h]);have c0_:=cs;refine AI @e ?_;try exact trivial
  ·have hk':k=a.length:=by omega
   subst hk';have e:decide (a=b)=true:=decide_eq_true (by rw[List.take_length,hl,List.take_length]at hw;exact hw);refine AI @e ?_;try exact trivial
 ·have e:decide (a=b)=false:=decide_eq_false fun h=>hl (by rw[h]);refine A1.run (N:=27) Tryz.func30 rfl (by kernel_rfl) rfl rfl rfl (by exact An) fun X_ w_=>?_;refine AI @e ?_;try exact trivial
end Go.Eng.Tryz
namespace Go.Eng.Tryz
attribute [local go_sem] Aq As AK AO AU AW AG AD
theorem LE{l:List AB}{i:Nat}(h:i<l.length):((AH l).take (i+1)).drop i=AH [l[i]!]:=by
 unfold AH;rw[← List.map_take,← List.map_drop,Ak h,List.drop_append_of_le_length (by rw[List.length_take];omega),List.drop_of_length_le (by rw[List.length_take];omega)];rfl
theorem Pb{l:List AB}(hl:BZ l)(hf:Nl l):A1 Tryz.prog 21 [.sl 2 (AH l)] (.bool (leastB l)):=by
 have hl1:=hl.1;have hon:∀i,i<l.length→BZ [l[i]!]∧Nl [l[i]!]:=fun i hi=>by
  refine⟨⟨by simp,fun s hs=>?_⟩,fun k hk x hx=>?_⟩
  ·simp only[List.mem_singleton]at hs;subst hs;exact hl.get hi
  ·have:k=0:=by simpa using hk
   subst this;exact hf i hi x hx
 have cc:=QG hl;refine A1.run (N:=29) Tryz.func21 rfl (by kernel_rfl) rfl rfl rfl (by exact Ab) fun X_ w_=>?_;refine Aw ?_;try exact trivial
 refine A7 (fun i:Nat=>i≤l.length∧∀a b,b<a→a<i→l[a]!≠l[b]!) (fun i=>[(0,.d (.sl 2 (AH l))),(3,.d (.int .i64 i))]) (fun _=>[]) 20000 (fun i=>l.length-i) [0,3] [] 0 ⟨Nat.zero_le _,fun a b h1 h2=>by omega⟩ rfl rfl (Nat.le_of_ble_eq_true rfl) (fun _ _=>rfl) (fun _ _=>rfl) fun i hi=>?_;obtain⟨i1,i2⟩:=hi;by_cases hi3:i<l.length
 ·refine Aw ?_;try exact trivial
  refine A7 (fun k:Nat=>k≤i∧∀b,b<k→l[i]!≠l[b]!) (fun k=>[(0,.d (.sl 2 (AH l))),(3,.d (.int .i64 i)),(4,.d (.int .i64 k))]) (fun _=>[]) 30000 (fun k=>i-k) [0,3,4] [] 0 ⟨Nat.zero_le _,fun b h=>by omega⟩ rfl rfl (Nat.le_of_ble_eq_true rfl) (fun _ _=>rfl) (fun _ _=>rfl) fun k hk=>?_;obtain⟨k1,k2⟩:=hk;by_cases hk3:k<i
  ·have cs:=KK (hon i hi3).1 (hon k (by omega)).1 (hon i hi3).2 (hon k (by omega)).2;have s1:=LE hi3;have s2:=LE (show k<l.length by omega);have e1:(i:Int)+1=((i+1:Nat):Int):=rfl;have e2:(k:Int)+1=((k+1:Nat):Int):=rfl;by_cases he:l[i]! =l[k]!
   ·rw[decide_eq_true (by rw[he])]at cs;have e:leastB l=false:=by
     unfold leastB;rw[decide_eq_false (fun h=>by
      rw[getElem!_pos l i hi3,getElem!_pos l k (by omega)]at he;have:=KS h hi3 (by omega) he;omega),Bool.and_false]
    rw[e];have c0_:=cs;refine AI (And.intro @e1 (And.intro @e2 (And.intro @s1 (And.intro @s2 @Int.toNat_natCast)))) ?_;try exact trivial
   ·rw[decide_eq_false (by simpa using he)]at cs;have c0_:=cs;refine AI (And.intro @e1 (And.intro @e2 (And.intro @s1 (And.intro @s2 @Int.toNat_natCast)))) ?_;try exact trivial
    refine⟨k+1,⟨by omega,fun b hb=>?_⟩,?_,rfl,by omega⟩
    ·by_cases e:b=k
     ·subst e;exact he
     ·exact k2 b (by omega)
    ·simp(disch:=omega)only[go_sem,A2,Int.natCast_add,Int.cast_ofNat_Int]
  ·have hke:k=i:=by omega
   refine Aw ?_;try exact trivial
   refine⟨i+1,⟨by omega,fun a b h1 h2=>?_⟩,?_,rfl,by omega⟩
   ·by_cases e:a=i
    ·subst e;exact k2 b (by omega)
    ·exact i2 a b h1 (by omega)
   ·simp(disch:=omega)only[go_sem,A2,Int.natCast_add,Int.cast_ofNat_Int]
 ·have hie:i=l.length:=by omega
  have e:leastB l=achk l:=by
   have hnd:l.Nodup:=List.pairwise_iff_getElem.2 fun a b ha hb hab heq=>i2 b a hab (by omega) (by rw[getElem!_pos l b hb,getElem!_pos l a ha,heq]);unfold leastB;rw[decide_eq_true hnd,Bool.and_true]
  rw[e];generalize achk l=b at cc ⊢;have c0_:=cc;refine Aw ?_;try exact trivial
structure Kd where
 ends:List (List Int)
 long:Int
 first:List Int
 deriving Inhabited
def kd(k:Kd):D:=.agg [.sl 1 (AZ k.ends),.int .i64 k.long,.sl 1 (is k.first)]
def kds(l:List Kd):List D:=l.map kd
theorem Ii{l:List Kd}:(kds l).length=l.length:=by simp[kds]
theorem KZ{l:List Kd}{k:Nat}(h:k<l.length):(kds l)[k]? =some (.agg [.sl 1 (AZ (l[k]!).ends),.int .i64 (l[k]!).long,.sl 1 (is (l[k]!).first)]):=by simp[kds,kd,List.getElem?_eq_getElem h,getElem!_pos l k h]
theorem IQ{l:List Kd}{e:List (List Int)}{n:Int}{w:List Int}:kds l++[.agg [.sl 1 (AZ e),.int .i64 n,.sl 1 (is w)]]=kds (l++[⟨e,n,w⟩]):=by simp[kds,kd]
theorem Ih{l:List Kd}{k:Nat}{e:List (List Int)}{n:Int}{w:List Int}:(kds l).set k (.agg [.sl 1 (AZ e),.int .i64 n,.sl 1 (is w)])=kds (l.set k ⟨e,n,w⟩):=by simp[kds,kd,List.map_set]
attribute [local go_sem] Ii KZ
def NP(l:List Kd):Prop:=l.length≤1000000∧∀k,k<l.length→BY (l[k]!).ends∧(l[k]!).first.length≤1000000
def Bt(l:List Kd)(e:List (List Int)):Int:=if l.findIdx (fun k=>decide (k.ends=e))<l.length then(l.findIdx (fun k=>decide (k.ends=e)):Int)else -1
theorem IU{l:List Kd}{e:List (List Int)}{k:Nat}(hk:k<l.length)(he:(l[k]!).ends=e)(hl:∀j,j<k→(l[j]!).ends≠e):Bt l e=k:=by
 have h:l.findIdx (fun k=>decide (k.ends=e))=k:=by
  rw[List.findIdx_eq hk];refine⟨?_,fun j hj=>?_⟩
  ·rw[getElem!_pos l k hk]at he;simpa using he
  ·have:=hl j hj;rw[getElem!_pos l j (by omega)]at this;simpa using this
 unfold Bt;rw[h,if_pos hk]
theorem Mc{l:List Kd}{e:List (List Int)}(hl:∀j,j<l.length→(l[j]!).ends≠e):Bt l e = -1:=by
 unfold Bt;rw[if_neg];intro h;have:=List.findIdx_getElem (w:=h);have h2:=hl _ h;rw[getElem!_pos l _ h]at h2;exact h2 (by simpa using this)
theorem Nv{l:List Kd}{e:List (List Int)}(hl:NP l)(he:BY e):A1 Tryz.prog 64 [.sl 3 (kds l),.sl 1 (AZ e)] (.int .i64 (Bt l e)):=by
 have hl1:=hl.1;refine A1.run (N:=20) Tryz.func64 rfl (by kernel_rfl) rfl rfl rfl (by exact An) fun X_ w_=>?_;refine Aw ?_;try exact trivial
 refine A7 (fun k:Nat=>k≤l.length∧∀j,j<k→(l[j]!).ends≠e) (fun k=>[(0,.d (.sl 3 (kds l))),(1,.d (.sl 1 (AZ e))),(5,.d (.int .i64 k))]) (fun _=>[]) 20000 (fun k=>l.length-k) [0,1,5] [] 0 ⟨Nat.zero_le _,fun j h=>by omega⟩ rfl rfl (Nat.le_of_ble_eq_true rfl) (fun _ _=>rfl) (fun _ _=>rfl) fun k hk=>?_;obtain⟨k1,k2⟩:=hk;by_cases hk3:k<l.length
 ·have cs:=Pa (hl.2 k hk3).1 he;by_cases h:(l[k]!).ends=e
  ·rw[decide_eq_true h]at cs;rw[IU hk3 h k2];have c0_:=cs;refine Aw ?_;try exact trivial
  ·rw[decide_eq_false h]at cs;have c0_:=cs;refine Aw ?_;try exact trivial
   refine⟨k+1,⟨by omega,fun j hj=>?_⟩,?_,rfl,by omega⟩
   ·by_cases e:j=k
    ·subst e;exact h
    ·exact k2 j (by omega)
   ·simp(disch:=omega)only[go_sem,A2,Int.natCast_add,Int.cast_ofNat_Int]
 ·rw[Mc fun j hj=>k2 j (by omega)];refine Aw ?_;try exact trivial
def Be(a b:Kd):Bool:=decide (a.long<b.long)||(decide (a.long=b.long)&&decide (Aj a.first b.first<0))
theorem RZ{a b:Kd}(ha:a.first.length≤1000000)(hb:b.first.length≤1000000):A1 Tryz.prog 128 [kd a,kd b] (.bool (Be a b)):=by
 have cl:=GG (a:=a.first) (b:=b.first) (by omega) (by omega);unfold Be kd;by_cases h1:a.long<b.long
 ·rw[decide_eq_true h1,Bool.true_or];refine A1.run (N:=24) Tryz.func128 rfl (by kernel_rfl) rfl rfl rfl (by exact An) fun X_ w_=>?_;refine Aw ?_;try exact trivial
 by_cases h2:a.long=b.long
 ·rw[decide_eq_false h1,decide_eq_true h2,Bool.false_or,Bool.true_and];generalize decide (Aj a.first b.first<0)=r at cl ⊢;refine A1.run (N:=24) Tryz.func128 rfl (by kernel_rfl) rfl rfl rfl (by exact An) fun X_ w_=>?_;have c0_:=cl;refine Aw ?_;try exact trivial
 ·rw[decide_eq_false h1,decide_eq_false h2,Bool.false_or,Bool.false_and];refine A1.run (N:=24) Tryz.func128 rfl (by kernel_rfl) rfl rfl rfl (by exact An) fun X_ w_=>?_;refine Aw ?_;try exact trivial
end Go.Eng.Tryz
namespace Go.Eng.Tryz
attribute [local go_sem] Ci RV So KG frz frzs List.set_cons_zero List.set_cons_succ List.zip_cons_cons List.zip_nil_right List.foldl_cons List.foldl_nil D.flat Ju AV.rn HO.rn AV.ks GM HO.ks sg Dd K3 DN Bd fresh List.filter Sz Dl opnd lk FT LA F2 Kk Dc Gj Eu IB Ov Ea ON SS EL FB FA FC HQ Ba Bw B9 L0 BG BH CB BJ Fk Hp CW Ca DC D8 Dj DB C9 Qs Qt Dn C5 BI Sm Sn Tb.inn Tb.ilen Tb.nilAt Tb.ini D.put DQ Cy EM Bs Kl Dq CA Cz Dk Dm CE AV.kb Ad List.getLast?_append MU EX KI Hi A2 List.replicate_zero List.take_length ofInt Ki GU GV Hq Mj Dr CO Bj DK MB LN Ad D.comps AV.comps AV.sto D.cell D.rebuild Cx Do CD put Dg B3 gd DP K9 Option.map_some Option.map_none Option.bind_some Option.isSome_some List.map_cons List.map_nil List.append_nil List.nil_append List.cons_append List.length_cons List.length_nil List.length_map List.length_append List.take_zero List.take_succ_cons List.take_nil List.drop_zero List.drop_succ_cons List.drop_nil List.getElem?_cons_zero List.getElem?_cons_succ List.getElem?_map List.all_cons List.all_nil List.mem_cons List.not_mem_nil List.elem_cons List.elem_nil Bool.and_true Bool.true_and Bool.and_self Bool.not_true Bool.not_false Bool.or_true Bool.or_false and_self and_true true_and or_false false_or or_true true_or not_false_eq_true not_true_eq_false if_true if_false decide_true decide_false decide_eq_true_eq Int.toNat_natCast Int.toNat_zero beq_self_eq_true bne_self_eq_false Bool.false_eq_true Nat.add_zero Nat.zero_add GD Sl Sg SA Sk Sf Sj R9 Q5 Q6 Od SK N4 KA Kz MK ML wrap_i64 Iu Nd Li Ne Lj Q2 Q3 PZ Q0 N5 gt_iff_lt ge_iff_le
attribute [local go_sem ↓] Pv reduceIte
attribute [local go_sem] reduceCtorEq Nat.reduceEqDiff Nat.reduceAdd Nat.reduceSub Nat.reduceMul Nat.reduceLeDiff Nat.reduceLT Nat.reduceBEq Nat.reduceBNe Int.reduceToNat Int.reduceLT Int.reduceLE Int.reduceEq Int.reduceAdd Int.reduceSub Int.reduceNeg Int.reduceBEq Int.reduceBNe
attribute [local go_sem] Aq As AK AO
def Hk(n:Nat)(l:List (List Int))(w:List Int):List (List Int):=if n≤w.length∧(l.length=0∨l[l.length-1]!≠w.take n)then l++[w.take n]else l
def Es(L:List (List Int))(n k:Nat):List (List Int):=(L.take k).foldl (Hk n) []
theorem GK{L:List (List Int)}{n k:Nat}(h:k<L.length):Es L n (k+1)=Hk n (Es L n k) (L[k]!):=by
 unfold Es;rw[Ak h,List.foldl_append];rfl
theorem Ny(L:List (List Int))(n:Nat):∀k,k≤L.length→(Es L n k).length≤k:=by
 intro k;induction k with
 |zero=>intro _;simp[Es]
 |succ k ih =>
  intro hk;rw[GK (by omega)];have:=ih (by omega);unfold Hk;split
  ·simp;omega
  ·omega
theorem KU(L:List (List Int))(n:Nat):∀k,k≤L.length→∀u,u∈Es L n k↔∃w∈L.take k,n≤w.length∧u=w.take n:=by
 intro k;induction k with
 |zero=>intro _ u;simp[Es]
 |succ k ih =>
  intro hk u;have i1:=ih (by omega) u;rw[GK (by omega),Ak (by omega)];have hsplit:(∃w∈L.take k++[L[k]!],n≤w.length∧u=w.take n)↔(∃w∈L.take k,n≤w.length∧u=w.take n)∨(n≤(L[k]!).length∧u=(L[k]!).take n):=by
   constructor
   ·rintro⟨w,hw,h⟩;rcases List.mem_append.1 hw with hw|hw
    ·exact .inl ⟨w,hw,h⟩
    ·simp only[List.mem_singleton]at hw;subst hw;exact .inr h
   ·rintro(⟨w,hw,h⟩|h)
    ·exact⟨w,List.mem_append_left _ hw,h⟩
    ·exact⟨_,List.mem_append_right _ (by simp),h⟩
  rw[hsplit,← i1];unfold Hk;split
  ·rename_i h;rw[List.mem_append,List.mem_singleton];exact or_congr Iff.rfl ⟨fun e=>⟨h.1,e⟩,fun e=>e.2⟩
  ·rename_i h;refine⟨.inl,fun x=>?_⟩;rcases x with x|⟨x1,x2⟩
   ·exact x
   ·have hl:¬((Es L n k).length=0)∧(Es L n k)[(Es L n k).length-1]! =(L[k]!).take n:=by
     by_cases h0:(Es L n k).length=0
     ·exact absurd ⟨x1,.inl h0⟩ h
     ·refine⟨h0,Classical.byContradiction fun hne=>h ⟨x1,.inr hne⟩⟩
    rw[x2,← hl.2];exact CG (by omega)
theorem R1{L:List (List Int)}(hL:CF L)(n:Nat):∀k,k≤L.length→(Es L n k).Pairwise (fun a b=>Aj a b<0)∧∀u∈Es L n k,∀j,k≤j→j<L.length→Aj u ((L[j]!).take n)≤0:=by
 intro k;induction k with
 |zero=>intro _;simp[Es]
 |succ k ih =>
  intro hk;obtain⟨h1,h2⟩:=ih (by omega);have htk:∀a b:List Int,Aj a b<0→Aj (a.take n) (b.take n)≤0:=fun a b h=>by
   rcases Ha n h with h|h
   ·omega
   ·rw[h];have:=(C2 (b.take n) (b.take n)).2 rfl;omega
  rw[GK (by omega)];unfold Hk;split
  ·rename_i hc;refine⟨?_,fun u hu j hj hjl=>?_⟩
   ·rw[List.pairwise_append];refine⟨h1,by simp,fun a ha b hb=>?_⟩;simp only[List.mem_singleton]at hb;subst hb;have hle:=h2 a ha k (Nat.le_refl _) (by omega);by_cases e:Aj a ((L[k]!).take n)<0
    ·exact e
    ·exfalso;have e2:a=(L[k]!).take n:=(C2 _ _).1 (by omega);obtain⟨q,hq,hqa⟩:=List.getElem_of_mem ha;rcases hc.2 with h0|hne
     ·omega
     ·-- the last one is no less than a,and no greater than what is put
      have hlast:=h2 _ (CG (show(Es L n k).length-1<(Es L n k).length by omega)) k (Nat.le_refl _) (by omega);by_cases eq:q=(Es L n k).length-1
      ·apply hne;rw[← eq,getElem!_pos _ q hq,hqa,e2]
      ·have:=List.pairwise_iff_getElem.1 h1 q ((Es L n k).length-1) hq (by omega) (by omega);rw[hqa,e2,← getElem!_pos (Es L n k) ((Es L n k).length-1) (by omega)]at this;have hs:=Ao ((Es L n k)[(Es L n k).length-1]!) ((L[k]!).take n);omega
   ·rcases List.mem_append.1 hu with hu|hu
    ·exact h2 u hu j (by omega) hjl
    ·simp only[List.mem_singleton]at hu;subst hu;exact htk _ _ (hL.at (by omega) hjl)
  ·exact⟨h1,fun u hu j hj hjl=>h2 u hu j (by omega) hjl⟩
def ES(L:List (List Int)):Nat→List (List Int)
 |0=>[[]]
 |n+1=>ES L n++Es L (n+1) L.length
theorem Nh{L l B:_}(hL:CF L)(hlen:∀w∈L,w.length≤20)(hB:AP L l B):ES L 20=B:=by
 have key:∀n,(ES L n).Pairwise Js∧(∀u,u∈ES L n↔Bg L u∧u.length≤n):=by
  intro n;induction n with
  |zero =>
   refine⟨by simp[ES],fun u=>?_⟩;simp only[ES,List.mem_singleton];exact⟨fun h=>⟨.inl h,by rw[h];simp⟩,fun⟨_,h⟩=>List.length_eq_zero_iff.1 (by omega)⟩
  |succ n ih =>
   obtain⟨h1,h2⟩:=ih;obtain⟨s1,_⟩:=R1 hL (n+1) L.length (Nat.le_refl _);have hm:=KU L (n+1) L.length (Nat.le_refl _);rw[List.take_length]at hm;have hlv:∀u∈Es L (n+1) L.length,u.length=n+1:=fun u hu=>by
    obtain⟨w,_,hw,rfl⟩:=(hm u).1 hu;rw[List.length_take];omega
   refine⟨?_,fun u=>?_⟩
   ·simp only[ES];rw[List.pairwise_append];refine⟨h1,s1.imp_of_mem fun{a b} ha hb h=>.inr ⟨by rw[hlv a ha,hlv b hb],h⟩,fun a ha b hb=>.inl ?_⟩;have:=((h2 a).1 ha).2;rw[hlv b hb];omega
   ·simp only[ES,List.mem_append,h2,hm];constructor
    ·rintro(⟨a,b⟩|⟨w,hw,h3,rfl⟩)
     ·exact⟨a,by omega⟩
     ·exact⟨.inr ⟨w,hw,List.take_prefix _ _⟩,by rw[List.length_take];omega⟩
    ·rintro⟨a,b⟩;by_cases h:u.length≤n
     ·exact .inl ⟨a,h⟩
     ·right;rcases a with rfl|⟨w,hw,hp⟩
      ·simp at h
      ·have:=hp.length_le;refine⟨w,hw,by omega,?_⟩;have e:u.length=n+1:=by omega
       rw[← e];exact List.prefix_iff_eq_take.1 hp
 obtain⟨h1,h2⟩:=key 20;refine F7 (R:=Js) (fun a h=>?_) (fun a b h k=>?_) h1 hB.srt fun u=>?_
 ·rcases h with h|⟨_,h⟩
  ·omega
  ·exact B0 _ h
 ·have:=Ao a b;rcases h with h|⟨h,h'⟩<;>rcases k with k|⟨k,k'⟩<;>omega
 ·rw[h2,hB.bg];refine⟨fun h=>h.1,fun h=>⟨h,?_⟩⟩;rcases h with rfl|⟨w,hw,hp⟩
  ·simp
  ·exact Nat.le_trans hp.length_le (hlen w hw)
end Go.Eng.Tryz

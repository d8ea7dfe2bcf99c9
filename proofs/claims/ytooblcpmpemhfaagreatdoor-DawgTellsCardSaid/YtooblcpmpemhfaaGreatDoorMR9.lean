/- The least automaton, part 3: states that are alike are found. (and what stands behind it: texts laid together) -/
import Derived.Test.YtooblcpmpemhfaaGreatDoorMG4
import Derived.Test.YtooblcpmpemhfaaGreatDoorMR8
import Derived.Shelf.SlSortCmp.WholeK
import Derived.Shelf.SlGeneric
import Derived.Ground.SlsfProg
import Derived.Test.YtooblcpmpemhfaaGreatDoorProg
import Derived.Test.YtooblcpmpemhfaaGreatDoorMH1
set_option linter.unusedVariables false
set_option linter.unusedSimpArgs false
open Go Go.Eng Go.Proofs Go.RowKit
set_option maxHeartbeats 32000000
set_option maxRecDepth 100000
namespace Go.Eng.Tryz
open Go.Maps (Keyed)
attribute [local go_sem] Aq As AK AO Bz AU AW AG AD
theorem Ka:Keyed Tryz.prog 9:=Go.Maps.string_keyed Tryz.underlying9
theorem GO{s:ByteArray}(hs:s.size≤maxLen):MI Tryz.prog 9 (.str s):=by
 refine⟨rfl,.string s,.string s.data.toList,fun w M=>.str s,?_⟩;simp[keyOf,mapKey,Tryz.underlying9,hs]
structure Cl where
 is_:Int
 long:Int
 first:List Int
 deriving Inhabited
def Tx(c:Cl):D:=.agg [.int .i64 c.is_,.int .i64 c.long,.sl 1 (is c.first)]
def cls(l:List Cl):List D:=l.map Tx
theorem Ir{l:List Cl}:(cls l).length=l.length:=by simp[cls]
theorem Ln{l:List Cl}{k:Nat}(h:k<l.length):(cls l)[k]? =some (.agg [.int .i64 (l[k]!).is_,.int .i64 (l[k]!).long,.sl 1 (is (l[k]!).first)]):=by simp[cls,Tx,List.getElem?_eq_getElem h,getElem!_pos l k h]
theorem Je{l:List Cl}{a b:Int}{w:List Int}:cls l++[.agg [.int .i64 a,.int .i64 b,.sl 1 (is w)]]=cls (l++[⟨a,b,w⟩]):=by simp[cls,Tx]
theorem Lm{l:List Cl}{k:Nat}{a b:Int}{w:List Int}:(cls l).set k (.agg [.int .i64 a,.int .i64 b,.sl 1 (is w)])=cls (l.set k ⟨a,b,w⟩):=by simp[cls,Tx,List.map_set]
attribute [local go_sem] Ir Ln Je Lm
deriving instance DecidableEq for AB
structure MS where
 of:List Int
 names:List (AB×Int)
 all:List Cl
def Ep:List (AB×Int)→AB→Option Int
 | [],_=>none
 |x::t,a=>if x.1=a then some x.2 else Ep t a
def NC(m:List (AB×Int)):List (D×D):=m.map fun p=>(.str (Ch p.1),.int .i64 p.2)
def Lv(s:AB):Prop:=(∀a∈s.arcs,0≤a.sign∧0≤a.to)∧(Ch s).size≤maxLen
theorem Pt{m:List (AB×Int)}(hm:∀p∈m,Lv p.1){s:AB}(hs:Lv s):I2 (NC m) (.str (Ch s))=(Ep m s).map (D.int .i64):=by
 induction m with
 |nil=>rfl
 |cons x t ih =>
  simp only[NC,List.map_cons,I2,Ep];by_cases hx:x.1=s
  ·rw[if_pos hx,if_pos (by rw[hx])];rfl
  ·rw[if_neg hx,if_neg (fun e=>hx (Et (hm x (by simp)).1 hs.1 (by simpa using e)))];exact ih fun p hp=>hm p (by simp[hp])
theorem Pq{m:List (AB×Int)}(hm:∀p∈m,Lv p.1){s:AB}(hs:Lv s){z:Int}(h:Ep m s=none):E4 (NC m) (.str (Ch s)) (.int .i64 z)=NC (m++[(s,z)]):=by
 induction m with
 |nil=>rfl
 |cons x t ih =>
  simp only[Ep]at h;split at h
  ·cases h
  ·rename_i hx;simp only[NC,List.map_cons,E4,List.cons_append];rw[if_neg (fun e=>hx (Et (hm x (by simp)).1 hs.1 (by simpa using e)))];exact congrArg _ (ih (fun p hp=>hm p (by simp[hp])) h)
theorem SE{m:List (AB×Int)}(hm:∀p∈m,Lv p.1)(hn:(m.map (·.1)).Nodup){s:AB}(hs:Lv s):Kv Tryz.prog 9 (NC m) (.str (Ch s)):=by
 refine⟨Ka,GO hs.2,fun p hp=>?_,?_⟩
 ·obtain⟨r,hr,rfl⟩:=List.mem_map.1 hp;exact GO (hm r hr).2
 ·unfold NC;rw[List.map_map,List.Nodup,List.pairwise_map];rw[List.Nodup,List.pairwise_map]at hn;exact hn.imp_of_mem fun{a b} ha hb hne he=>hne (Et (hm a ha).1 (hm b hb).1 (by simpa using he))
def Dx(l:List AB)(B:List (List Int))(s:MS)(i:Nat):MS :=
 match Ep s.names (B5 s.of (l[i]!))with
 |some c=>⟨s.of.set i c,s.names,s.all.set c.toNat ⟨(s.all[c.toNat]!).is_,max (s.all[c.toNat]!).long (B[i]!).length,if Aj (B[i]!) (s.all[c.toNat]!).first<0 then B[i]! else(s.all[c.toNat]!).first⟩⟩
 |none=>⟨s.of.set i s.all.length,s.names++[(B5 s.of (l[i]!),(s.all.length:Int))],s.all++[⟨i,(B[i]!).length,B[i]!⟩]⟩
structure Ts(l:List AB)(B:List (List Int))(s:MS):Prop where
 len:s.of.length=l.length
 of:OL s.of
 few:s.all.length≤l.length
 nok:∀p∈s.names,Lv p.1
 nd:(s.names.map (·.1)).Nodup
 val:∀p∈s.names,0≤p.2∧p.2<s.all.length
 fst:∀c∈s.all,c.first.length≤1000000∧0≤c.long∧c.long≤1000000
theorem IK{m:List (AB×Int)}{s:AB}{z:Int}(h:Ep m s=some z):(s,z)∈m:=by
 induction m with
 |nil=>cases h
 |cons x t ih =>
  simp only[Ep]at h;split at h
  ·rename_i e;cases h;obtain⟨a,b⟩:=x;simp only at e;subst e;simp
  ·exact List.mem_cons_of_mem _ (ih h)
def Hm(l:List AB)(B:List (List Int))(s:MS):A8:=[(0,.var [.d (.sl 2 (AH l)),.d (.sl 1 (AZ B)),.own 1 s.of.length,.map 2,.own 3 s.all.length]),(1,.row 3 1 (is s.of)),(2,.map 9 3 (NC s.names)),(3,.row 98 3 (cls s.all))]
theorem L2{a b:Int}:(if b>a then b else a)=max a b:=by split<;>omega
theorem S5{l:List AB}{B:List (List Int)}{s:MS}{i:Nat}(hl1:l.length≤6001)(hi:i<l.length)(hB:B.length=l.length)(hBl:∀w∈B,w.length≤6001)(hs:∀a∈(l[i]!).arcs,0≤a.sign∧a.sign≤1114111∧0≤a.to∧a.to<l.length)(hal:(l[i]!).arcs.length≤10000)(hm:Ts l B s) :
 Ac Tryz.prog 55 [.ref 0 0,.d (.int .i64 i)] (Hm l B s) (.tup []) (Hm l B (Dx l B s i)) 4:=by
 obtain⟨h1,h2,h3,h4,h5,h6,h7⟩:=hm;have hkn:Lv (B5 s.of (l[i]!)):=by
  refine⟨fun a ha=>?_,?_⟩
  ·obtain⟨x,hx,rfl⟩:=List.mem_map.1 ha;obtain⟨g1,g2,g3,g4⟩:=hs x hx;have:=h2.get (k:=x.to.toNat) (by omega);exact⟨g1,this.1⟩
  ·have hnl:=CL (B5 s.of (l[i]!)).final (B5 s.of (l[i]!)).arcs (fun a ha=>by
    obtain⟨x,hx,rfl⟩:=List.mem_map.1 ha;obtain⟨g1,g2,g3,g4⟩:=hs x hx;have:=h2.get (k:=x.to.toNat) (by omega);simp only[B6];omega)
   have e1:(Ch (B5 s.of (l[i]!))).size=(DO (B5 s.of (l[i]!))).length:=by simp[Ch,BK,ByteArray.size]
   have e2:(B5 s.of (l[i]!)).arcs.length=(l[i]!).arcs.length:=by simp[B5]
   rw[e1];simp only[maxLen];unfold DO;omega
 have cn:=T5 (s:=l[i]!) (of:=s.of) (d0:=.sl 2 (AH l)) (d1:=.sl 1 (AZ B)) (m:=s.all.length) (kt2:=9) (et2:=3) (es2:=NC s.names) (e3:=98) (sz3:=3) (xs3:=cls s.all) h2 (fun a ha=>by have:=hs a ha;omega) hal;have mk:=eq_true (SE h4 h5 hkn);have mg:=Pt h4 hkn;have hBi:(B[i]!).length≤6001:=by rw[getElem!_pos B i (by omega)];exact hBl _ (List.getElem_mem _)
 have hset:∀x,(is s.of).set i (.int .i64 x)=is (s.of.set i x):=fun x=>by simp[is,List.map_set]
 have hsl:∀x,(s.of.set i x).length=s.of.length:=fun x=>List.length_set ..;cases hg:Ep s.names (B5 s.of (l[i]!))with
 |none =>
  rw[hg]at mg;simp only[Option.map_none]at mg;have hput:E4 (NC s.names) (.str (Ch (B5 s.of (l[i]!)))) (.int .i64 (s.all.length:Int))=NC (s.names++[(B5 s.of (l[i]!),(s.all.length:Int))]):=Pq h4 hkn hg;have em:Dx l B s i=⟨s.of.set i s.all.length,s.names++[(B5 s.of (l[i]!),(s.all.length:Int))],s.all++[⟨i,(B[i]!).length,B[i]!⟩]⟩:=by unfold Dx;rw[hg]
  rw[em];unfold Hm;generalize Ch (B5 s.of (l[i]!))=key at cn mk mg hput;generalize s.names++[(B5 s.of (l[i]!),(s.all.length:Int))]=names' at hput ⊢;have cl:=K1 (a:=B[i]!) (b:=B[i]!) (by omega) (by omega);rw[decide_eq_false (B0 _)]at cl;have hlast:(s.all++[(⟨i,(B[i]!).length,B[i]!⟩:Cl)])[s.all.length]! =⟨i,(B[i]!).length,B[i]!⟩:=by simp
  have hll:(s.all++[(⟨i,(B[i]!).length,B[i]!⟩:Cl)]).length=s.all.length+1:=by simp
  have hset2:(s.all++[(⟨i,(B[i]!).length,B[i]!⟩:Cl)]).set s.all.length ⟨i,(B[i]!).length,B[i]!⟩=s.all++[⟨i,(B[i]!).length,B[i]!⟩]:=by simp
  refine Ac.run (N:=116) (ks:=[0,1,2,3]) Tryz.func55 rfl (by kernel_rfl) rfl rfl rfl (by exact Bb) fun X_ ν_ w_=>?_;have c0_:=cn;have c1_:=cl;refine AI (And.intro @mk (And.intro @mg (And.intro @hput (And.intro @hset (And.intro @hsl (And.intro @h1 (And.intro @hB (And.intro @hlast (And.intro @hset2 (And.intro @Int.max_self @L2)))))))))) ?_;try exact trivial
 |some c =>
  rw[hg]at mg;simp only[Option.map_some]at mg;have hv:=h6 _ (IK hg);simp only at hv;obtain⟨q,rfl⟩:=Int.eq_ofNat_of_zero_le hv.1;have hq:q<s.all.length:=by omega
  have hf:=h7 (s.all[q]!) (by rw[getElem!_pos s.all q hq];exact List.getElem_mem hq);have cl:=K1 (a:=B[i]!) (b:=(s.all[q]!).first) (by omega) (by omega);have em:Dx l B s i=⟨s.of.set i q,s.names,s.all.set q ⟨(s.all[q]!).is_,max (s.all[q]!).long (B[i]!).length,if Aj (B[i]!) (s.all[q]!).first<0 then B[i]! else(s.all[q]!).first⟩⟩:=by unfold Dx;rw[hg];rfl
  rw[em];unfold Hm;generalize Ch (B5 s.of (l[i]!))=key at cn mk mg;have g1:(s.all.set q (⟨(s.all[q]!).is_,max (s.all[q]!).long (B[i]!).length,(s.all[q]!).first⟩:Cl))[q]! =⟨(s.all[q]!).is_,max (s.all[q]!).long (B[i]!).length,(s.all[q]!).first⟩:=by rw[Av hq,if_pos rfl]
  have g2:∀x y:Cl,(s.all.set q x).set q y=s.all.set q y:=fun x y=>List.set_set ..;have g3:∀x:Cl,(s.all.set q x).length=s.all.length:=fun x=>List.length_set ..;have hq3:q<(s.all.set q (⟨(s.all[q]!).is_,max (s.all[q]!).long (B[i]!).length,(s.all[q]!).first⟩:Cl)).length:=by rw[g3];exact hq
  by_cases hw:Aj (B[i]!) (s.all[q]!).first<0
  ·rw[decide_eq_true hw]at cl;rw[if_pos hw];refine Ac.run (N:=116) (ks:=[0,1,2,3]) Tryz.func55 rfl (by kernel_rfl) rfl rfl rfl (by exact Bb) fun X_ ν_ w_=>?_;have c0_:=cn;have c1_:=cl;refine AI (And.intro @mk (And.intro @mg (And.intro @hset (And.intro @hsl (And.intro @h1 (And.intro @hB (And.intro @g1 (And.intro @g2 (And.intro @g3 (And.intro @L2 @Int.toNat_natCast)))))))))) ?_;try exact trivial
  ·rw[decide_eq_false hw]at cl;rw[if_neg hw];refine Ac.run (N:=116) (ks:=[0,1,2,3]) Tryz.func55 rfl (by kernel_rfl) rfl rfl rfl (by exact Bb) fun X_ ν_ w_=>?_;have c0_:=cn;have c1_:=cl;refine AI (And.intro @mk (And.intro @mg (And.intro @hset (And.intro @hsl (And.intro @h1 (And.intro @hB (And.intro @g1 (And.intro @g2 (And.intro @g3 (And.intro @L2 @Int.toNat_natCast)))))))))) ?_;try exact trivial
end Go.Eng.Tryz
namespace Go.Proofs
open Go.Shelf Go.RowKit Go.Lib Go.Sort
def Tryz.sortInt_ren:Go.Shelf.Ren:=⟨fun|6=>56|15=>123|14=>122|28=>189|29=>190|20=>181|21=>182|22=>183|23=>184|24=>185|25=>186|26=>187|27=>188|46=>222|47=>223|48=>224|49=>225|50=>226|57=>259|n=>n,fun|22=>57|24=>3|25=>96|3=>3|39=>176|0=>0|53=>204|55=>33|4=>4|46=>232|45=>231|50=>166|5=>5|9=>9|66=>261|70=>264|76=>292|77=>293|n=>n,fun|n=>n⟩
theorem Tryz.sortInt:Go.Proofs.SlLaysF.n6 Tryz.prog Tryz.sortInt_ren:={
 mixed:=by kernel_rfl
 f6:=⟨Tryz.f56.name,by decide,Tryz.func56.trans (congrArg some (by kernel_rfl))⟩
 f14:=⟨Tryz.f122.name,by decide,Tryz.func122.trans (congrArg some (by kernel_rfl))⟩
 f15:=Tryz.func123.trans (congrArg some (by kernel_rfl))
 f20:=⟨Tryz.f181.name,by decide,Tryz.func181.trans (congrArg some (by kernel_rfl))⟩
 f21:=⟨Tryz.f182.name,by decide,Tryz.func182.trans (congrArg some (by kernel_rfl))⟩
 f22:=⟨Tryz.f183.name,by decide,Tryz.func183.trans (congrArg some (by kernel_rfl))⟩
 f23:=⟨Tryz.f184.name,by decide,Tryz.func184.trans (congrArg some (by kernel_rfl))⟩
 f24:=⟨Tryz.f185.name,by decide,Tryz.func185.trans (congrArg some (by kernel_rfl))⟩
 f25:=⟨Tryz.f186.name,by decide,Tryz.func186.trans (congrArg some (by kernel_rfl))⟩
 f26:=⟨Tryz.f187.name,by decide,Tryz.func187.trans (congrArg some (by kernel_rfl))⟩
 f27:=⟨Tryz.f188.name,by decide,Tryz.func188.trans (congrArg some (by kernel_rfl))⟩
 f28:=Tryz.func189.trans (congrArg some (by kernel_rfl))
 f29:=Tryz.func190.trans (congrArg some (by kernel_rfl))
 f46:=⟨Tryz.f222.name,by decide,Tryz.func222.trans (congrArg some (by kernel_rfl))⟩
 f47:=Tryz.func223.trans (congrArg some (by kernel_rfl))
 f48:=Tryz.func224.trans (congrArg some (by kernel_rfl))
 f49:=⟨Tryz.f225.name,by decide,Tryz.func225.trans (congrArg some (by kernel_rfl))⟩
 f50:=⟨Tryz.f226.name,by decide,Tryz.func226.trans (congrArg some (by kernel_rfl))⟩
 f57:=⟨Tryz.f259.name,by decide,Tryz.func259.trans (congrArg some (by kernel_rfl))⟩
 t0:=Tryz.underlying0
 a0:=Tryz.isAgg0
 z0:=Tryz.sizeOf0
 v0:=Tryz.zeroValue0
 t3:=Tryz.underlying3
 a3:=Tryz.isAgg3
 z3:=Tryz.sizeOf3
 v3:=Tryz.zeroValue3
 t4:=Tryz.underlying4
 a4:=Tryz.isAgg4
 z4:=Tryz.sizeOf4
 v4:=Tryz.zeroValue4
 t5:=Tryz.underlying5
 a5:=Tryz.isAgg5
 z5:=Tryz.sizeOf5
 v5:=Tryz.zeroValue5
 t9:=Tryz.underlying9
 a9:=Tryz.isAgg9
 z9:=Tryz.sizeOf9
 v9:=Tryz.zeroValue9
 t22:=Tryz.underlying57
 a22:=Tryz.isAgg57
 z22:=Tryz.sizeOf57
 v22:=Tryz.zeroValue57
 a24:=Tryz.isAgg3
 z24:=Tryz.sizeOf3
 t25:=Tryz.underlying96
 a25:=Tryz.isAgg96
 z25:=Tryz.sizeOf96
 v25:=Tryz.zeroValue96
 t39:=Tryz.underlying176
 a39:=Tryz.isAgg176
 z39:=Tryz.sizeOf176
 v39:=Tryz.zeroValue176
 t45:=Tryz.underlying231
 a45:=Tryz.isAgg231
 z45:=Tryz.sizeOf231
 v45:=Tryz.zeroValue231
 t46:=Tryz.underlying232
 a46:=Tryz.isAgg232
 z46:=Tryz.sizeOf232
 v46:=Tryz.zeroValue232
 t50:=Tryz.underlying166
 a50:=Tryz.isAgg166
 z50:=Tryz.sizeOf166
 v50:=Tryz.zeroValue166
 t53:=Tryz.underlying204
 a53:=Tryz.isAgg204
 z53:=Tryz.sizeOf204
 v53:=Tryz.zeroValue204
 t55:=Tryz.underlying33
 a55:=Tryz.isAgg33
 z55:=Tryz.sizeOf33
 v55:=Tryz.zeroValue33
 t66:=Tryz.underlying261
 a66:=Tryz.isAgg261
 z66:=Tryz.sizeOf261
 v66:=Tryz.zeroValue261
 t70:=Tryz.underlying264
 a70:=Tryz.isAgg264
 z70:=Tryz.sizeOf264
 v70:=Tryz.zeroValue264
 t76:=Tryz.underlying292
 a76:=Tryz.isAgg292
 z76:=Tryz.sizeOf292
 v76:=Tryz.zeroValue292
 t77:=Tryz.underlying293
 a77:=Tryz.isAgg293
 z77:=Tryz.sizeOf293
 v77:=Tryz.zeroValue293 }
end Go.Proofs
namespace Go.Eng.Tryz
attribute [local go_sem] Aq As AK AO Bz AU AW AG AD Ir Ln Je Lm
def MD(l:List AB)(B:List (List Int))(S:MS):List D:=[.sl 2 (AH l),.sl 1 (AZ B),.sl 1 (is S.of),.any,.sl 3 (cls S.all)]
def OF(all:List Cl)(a b:Nat):Int:=Qj [Fc (all[a]!).long (all[b]!).long,Aj (all[a]!).first (all[b]!).first]
theorem S7{l:List AB}{B:List (List Int)}{S:MS}{a b:Nat}(ha:a<S.all.length)(hb:b<S.all.length)(hf:∀c∈S.all,c.first.length≤1000000) :
 A1 Tryz.prog 57 [.int .i64 a,.int .i64 b,.ptr [.ptr (MD l B S)]] (.int .i64 (OF S.all a b)):=by
 have h1:=hf (S.all[a]!) (by rw[getElem!_pos S.all a ha];exact List.getElem_mem ha);have h2:=hf (S.all[b]!) (by rw[getElem!_pos S.all b hb];exact List.getElem_mem hb);have c1:=Jd (a:=(S.all[a]!).long) (b:=(S.all[b]!).long);have c2:=GC (a:=(S.all[a]!).first) (b:=(S.all[b]!).first) (by omega) (by omega);have c3:=Tn (l:=[Fc (S.all[a]!).long (S.all[b]!).long,Aj (S.all[a]!).first (S.all[b]!).first]) (by simp);have e3:is [Fc (S.all[a]!).long (S.all[b]!).long,Aj (S.all[a]!).first (S.all[b]!).first]=[.int .i64 (Fc (S.all[a]!).long (S.all[b]!).long),.int .i64 (Aj (S.all[a]!).first (S.all[b]!).first)]:=rfl;rw[e3]at c3;unfold OF MD;refine A1.run (N:=42) Tryz.func57 rfl (by kernel_rfl) rfl rfl rfl (by exact Ro) fun X_ w_=>?_;have c0_:=c1;have c1_:=c2;have c2_:=c3;refine AI @Int.toNat_natCast ?_;try exact trivial
def H8(all:List Cl)(a b:Nat):Prop:=(all[a]!).long<(all[b]!).long∨(all[a]!).long=(all[b]!).long∧Aj (all[a]!).first (all[b]!).first<0
theorem EQ(all:List Cl)(a b:Nat):OF all a b<0↔H8 all a b:=by
 unfold OF H8 Fc Qj Qj Qj;generalize(all[a]!).long=x;generalize(all[b]!).long=y;generalize Aj (all[a]!).first (all[b]!).first=z
 by_cases h1:x<y
 ·simp[h1]
 ·by_cases h2:y<x
  ·simp[h1,h2];omega
  ·have:x=y:=by omega
   subst this;by_cases h3:z=0
   ·subst h3;simp
   ·simp[h3]
theorem H8.irr(all:List Cl)(a:Nat):¬H8 all a a:=fun h=>by
 rcases h with h|⟨_,h⟩
 ·omega
 ·exact B0 _ h
theorem H8.trans{all:List Cl}{a b c:Nat}(h:H8 all a b)(k:H8 all b c):H8 all a c:=by
 unfold H8 at *;rcases h with h|⟨h,h'⟩<;>rcases k with k|⟨k,k'⟩
 ·exact .inl (by omega)
 ·exact .inl (by omega)
 ·exact .inl (by omega)
 ·exact .inr ⟨by omega,Bh h' (by omega)⟩
theorem H8.ntrans{all:List Cl}{a b c:Nat}(h:¬H8 all a b)(k:¬H8 all b c):¬H8 all a c:=by
 unfold H8 at *;have s1:=Ao (all[a]!).first (all[b]!).first
 have s2:=Ao (all[b]!).first (all[c]!).first
 have s3:=Ao (all[a]!).first (all[c]!).first
 have tr:=Bu (all[c]!).first (all[b]!).first (all[a]!).first
 intro hac;rcases hac with h1|⟨h1,h2⟩
 ·omega
 ·have e1:(all[a]!).long=(all[b]!).long:=by omega
  have e2:(all[b]!).long=(all[c]!).long:=by omega
  have:=tr (by omega) (by omega);omega
def Rv(all:List Cl):Prop:=∀a b,a<all.length→b<all.length→(all[a]!).first=(all[b]!).first→a=b
theorem H8.tot{all:List Cl}(hi:Rv all){a b:Nat}(ha:a<all.length)(hb:b<all.length)(h:¬H8 all a b)(k:¬H8 all b a):a=b:=by
 unfold H8 at *;have s1:=Ao (all[a]!).first (all[b]!).first
 have e1:(all[a]!).long=(all[b]!).long:=by omega
 exact hi a b ha hb ((C2 _ _).1 (by omega))
def N0(x:D):Nat:=match x with| .int _ z=>z.toNat|_=>0
def ns(l:List Nat):List D:=l.map fun(k:Nat)=>.int .i64 (k:Int)
theorem Th(l:List Nat):ns l=is (l.map fun(k:Nat)=>(k:Int)):=by simp[ns,is]
theorem S1{l:List AB}{B:List (List Int)}{S:MS}{xs ys:List Nat}(hf:∀c∈S.all,c.first.length≤1000000)(hi:Rv S.all)(hx:∀x∈xs,x<S.all.length)(h0:0<xs.length)(hmax:xs.length<4611686018427387904)(hp:ys.Perm xs)(hs:ys.Pairwise (fun a b=>¬H8 S.all b a)) :
 Ac Tryz.prog 56 [.own 0 xs.length,.fn 57 [.d (.ptr [.ptr (MD l B S)])]] [(0,.row 3 1 (ns xs))] (.tup []) [(0,.row 3 1 (ns ys))] 1:=by
 have eg:∀args w,(callFunc 57 args).run Tryz.prog w= .ok (.enter 57 args) w:=enters_of Tryz.func57 (by kernel_rfl) rfl;have hlen:(ns xs).length=xs.length:=by simp[ns]
 have gd:∀x,(∃k:Nat,k<S.all.length∧x=D.int .i64 k)→D.int .i64 (N0 x)=x∧N0 x<S.all.length:=fun x ⟨k,h1,h2⟩=>by subst h2;exact⟨by simp[N0],by simpa[N0]using h1⟩
 have:=LF (P:=Tryz.prog) Tryz.sortInt eg (Good:=fun x=>∃k:Nat,k<S.all.length∧x=D.int .i64 k) (cf:=fun x y=>OF S.all (N0 x) (N0 y)) (cap0:=.ptr [.ptr (MD l B S)])
  (fun x y hx hy=>by
    have:=S7 (l:=l) (B:=B) (S:=S) (gd x hx).2 (gd y hy).2 hf
    rwa [(gd x hx).1,(gd y hy).1]at this)
  (fun x hx=>by rw[EQ];exact H8.irr _ _) (fun x y z _ _ _ h1 h2=>by rw[EQ]at *;exact h1.trans h2) (fun x y z _ _ _ h1 h2=>by rw[EQ]at *;exact H8.ntrans h1 h2)
  (fun x y hx hy h1 h2=>by
    rw[EQ]at h1 h2;have:=H8.tot hi (gd x hx).2 (gd y hy).2 h1 h2;rw[← (gd x hx).1,← (gd y hy).1,this])
  (fun x ⟨k,_,h⟩=>by rw[h];rfl) (e:=3) (xs:=ns xs) (ys:=ns ys) (fun x hx'=>by
    obtain⟨k,hk,rfl⟩:=List.mem_map.1 hx';exact⟨k,hx k hk,rfl⟩) (by rw[hlen];exact h0) (by rw[hlen];exact hmax) (hp.map _) (by
    unfold ns;rw[List.pairwise_map];exact hs.imp (fun{a b} h=>by rw[EQ];simpa[N0]using h))
 rw[hlen]at this;exact this
end Go.Eng.Tryz

/- The least automaton, part 3: states that are alike are found. (and what stands behind it: texts laid together) -/
import Derived.Test.YtooblcpmpemhfaaGreatDoorMG4
import Derived.Test.YtooblcpmpemhfaaGreatDoorMR18
import Derived.Shelf.SlSortCmp.WholeK
import Derived.Shelf.SlGeneric
import Derived.Ground.SlsfProg
import Derived.Test.YtooblcpmpemhfaaGreatDoorProg
import Derived.Test.YtooblcpmpemhfaaGreatDoorMH1
set_option linter.unusedVariables false
set_option linter.unusedSimpArgs false
open Go Go.Eng Go.Proofs Go.RowKit
set_option maxHeartbeats 32000000
set_option maxRecDepth 100000
namespace Go.Eng.Tryz
open Go.Maps (Keyed)
attribute [local go_sem] Aq As Bb Bh Da AP AO Az Ax
theorem Vc:Keyed Tryz.prog 9:=Go.Maps.string_keyed Tryz.underlying9
theorem Rx{s:ByteArray}(hs:s.size≤maxLen):NT Tryz.prog 9 (.str s):=by
 refine⟨rfl,.string s,.string s.data.toList,fun w M=>.str s,?_⟩;simp[keyOf,mapKey,Tryz.underlying9,hs]
structure Cl where
 is_:Int
 long:Int
 first:List Int
 deriving Inhabited
def eq(c:Cl):D:=.agg [.int .i64 c.is_,.int .i64 c.long,.sl 1 (is c.first)]
def cls(l:List Cl):List D:=l.map eq
theorem M1{l:List Cl}:(cls l).length=l.length:=by simp[cls]
theorem Ps{l:List Cl}{k:Nat}(h:k<l.length):(cls l)[k]? =some (.agg [.int .i64 (l[k]!).is_,.int .i64 (l[k]!).long,.sl 1 (is (l[k]!).first)]):=by simp[cls,eq,List.getElem?_eq_getElem h,getElem!_pos l k h]
theorem MF{l:List Cl}{a b:Int}{w:List Int}:cls l++[.agg [.int .i64 a,.int .i64 b,.sl 1 (is w)]]=cls (l++[⟨a,b,w⟩]):=by simp[cls,eq]
theorem Pt{l:List Cl}{k:Nat}{a b:Int}{w:List Int}:(cls l).set k (.agg [.int .i64 a,.int .i64 b,.sl 1 (is w)])=cls (l.set k ⟨a,b,w⟩):=by simp[cls,eq,List.map_set]
attribute [local go_sem] M1 Ps MF Pt
deriving instance DecidableEq for Ak
structure MS where
 of:List Int
 names:List (Ak×Int)
 all:List Cl
def GU:List (Ak×Int)→Ak→Option Int
 | [],_=>none
 |x::t,a=>if x.1=a then some x.2 else GU t a
def TV(m:List (Ak×Int)):List (D×D):=m.map fun p=>(.str (Gx p.1),.int .i64 p.2)
def XQ(s:Ak):Prop:=(∀a∈s.arcs,0≤a.sign∧0≤a.to)∧(Gx s).size≤maxLen
theorem WO{m:List (Ak×Int)}(hm:∀p∈m,XQ p.1){s:Ak}(hs:XQ s):LT (TV m) (.str (Gx s))=(GU m s).map (D.int .i64):=by
 induction m with
 |nil=>rfl
 |cons x t ih =>
  simp only[TV,List.map_cons,LT,GU];by_cases hx:x.1=s
  ·rw[if_pos hx,if_pos (by rw[hx])];rfl
  ·rw[if_neg hx,if_neg (fun e=>hx (Ng (hm x (by simp)).1 hs.1 (by simpa using e)))];exact ih fun p hp=>hm p (by simp[hp])
theorem WR{m:List (Ak×Int)}(hm:∀p∈m,XQ p.1){s:Ak}(hs:XQ s){z:Int}(h:GU m s=none):GA (TV m) (.str (Gx s)) (.int .i64 z)=TV (m++[(s,z)]):=by
 induction m with
 |nil=>rfl
 |cons x t ih =>
  simp only[GU]at h;split at h
  ·cases h
  ·rename_i hx;simp only[TV,List.map_cons,GA,List.cons_append];rw[if_neg (fun e=>hx (Ng (hm x (by simp)).1 hs.1 (by simpa using e)))];exact congrArg _ (ih (fun p hp=>hm p (by simp[hp])) h)
theorem aO{m:List (Ak×Int)}(hm:∀p∈m,XQ p.1)(hn:(m.map (·.1)).Nodup){s:Ak}(hs:XQ s):Oj Tryz.prog 9 (TV m) (.str (Gx s)):=by
 refine⟨Vc,Rx hs.2,fun p hp=>?_,?_⟩
 ·obtain⟨r,hr,rfl⟩:=List.mem_map.1 hp;exact Rx (hm r hr).2
 ·unfold TV;rw[List.map_map,List.Nodup,List.pairwise_map];rw[List.Nodup,List.pairwise_map]at hn;exact hn.imp_of_mem fun{a b} ha hb hne he=>hne (Ng (hm a ha).1 (hm b hb).1 (by simpa using he))
def G4(l:List Ak)(B:List (List Int))(s:MS)(i:Nat):MS :=
 match GU s.names (Cc s.of (l[i]!))with
 |some c=>⟨s.of.set i c,s.names,s.all.set c.toNat ⟨(s.all[c.toNat]!).is_,max (s.all[c.toNat]!).long (B[i]!).length,if Ae (B[i]!) (s.all[c.toNat]!).first<0 then B[i]! else(s.all[c.toNat]!).first⟩⟩
 |none=>⟨s.of.set i s.all.length,s.names++[(Cc s.of (l[i]!),(s.all.length:Int))],s.all++[⟨i,(B[i]!).length,B[i]!⟩]⟩
structure cI(l:List Ak)(B:List (List Int))(s:MS):Prop where
 len:s.of.length=l.length
 of:XZ s.of
 few:s.all.length≤l.length
 nok:∀p∈s.names,XQ p.1
 nd:(s.names.map (·.1)).Nodup
 val:∀p∈s.names,0≤p.2∧p.2<s.all.length
 fst:∀c∈s.all,c.first.length≤1000000∧0≤c.long∧c.long≤1000000
theorem Nm{m:List (Ak×Int)}{s:Ak}{z:Int}(h:GU m s=some z):(s,z)∈m:=by
 induction m with
 |nil=>cases h
 |cons x t ih =>
  simp only[GU]at h;split at h
  ·rename_i e;cases h;obtain⟨a,b⟩:=x;simp only at e;subst e;simp
  ·exact List.mem_cons_of_mem _ (ih h)
def Hm(l:List Ak)(B:List (List Int))(s:MS):Aa:=[(0,.var [.d (.sl 2 (AQ l)),.d (.sl 1 (CI B)),.own 1 s.of.length,.map 2,.own 3 s.all.length]),(1,.row 3 1 (is s.of)),(2,.map 9 3 (TV s.names)),(3,.row 98 3 (cls s.all))]
theorem PU{a b:Int}:(if b>a then b else a)=max a b:=by split<;>omega
theorem bE{l:List Ak}{B:List (List Int)}{s:MS}{i:Nat}(hl1:l.length≤6001)(hi:i<l.length)(hB:B.length=l.length)(hBl:∀w∈B,w.length≤6001)(hs:∀a∈(l[i]!).arcs,0≤a.sign∧a.sign≤1114111∧0≤a.to∧a.to<l.length)(hal:(l[i]!).arcs.length≤10000)(hm:cI l B s) :
 Ai Tryz.prog 55 [.ref 0 0,.d (.int .i64 i)] (Hm l B s) (.tup []) (Hm l B (G4 l B s i)) 4:=by
 obtain⟨h1,h2,h3,h4,h5,h6,h7⟩:=hm;have hkn:XQ (Cc s.of (l[i]!)):=by
  refine⟨fun a ha=>?_,?_⟩
  ·obtain⟨x,hx,rfl⟩:=List.mem_map.1 ha;obtain⟨g1,g2,g3,g4⟩:=hs x hx;have:=h2.get (k:=x.to.toNat) (by omega);exact⟨g1,this.1⟩
  ·have hnl:=GT (Cc s.of (l[i]!)).final (Cc s.of (l[i]!)).arcs (fun a ha=>by
    obtain⟨x,hx,rfl⟩:=List.mem_map.1 ha;obtain⟨g1,g2,g3,g4⟩:=hs x hx;have:=h2.get (k:=x.to.toNat) (by omega);simp only[Ec];omega)
   have e1:(Gx (Cc s.of (l[i]!))).size=(HQ (Cc s.of (l[i]!))).length:=by simp[Gx,EK,ByteArray.size]
   have e2:(Cc s.of (l[i]!)).arcs.length=(l[i]!).arcs.length:=by simp[Cc]
   rw[e1];simp only[maxLen];unfold HQ;omega
 have cn:=dA (s:=l[i]!) (of:=s.of) (d0:=.sl 2 (AQ l)) (d1:=.sl 1 (CI B)) (m:=s.all.length) (kt2:=9) (et2:=3) (es2:=TV s.names) (e3:=98) (sz3:=3) (xs3:=cls s.all) h2 (fun a ha=>by have:=hs a ha;omega) hal;have mk:=eq_true (aO h4 h5 hkn);have mg:=WO h4 hkn;have hBi:(B[i]!).length≤6001:=by rw[getElem!_pos B i (by omega)];exact hBl _ (List.getElem_mem _)
 have hset:∀x,(is s.of).set i (.int .i64 x)=is (s.of.set i x):=fun x=>by simp[is,List.map_set]
 have hsl:∀x,(s.of.set i x).length=s.of.length:=fun x=>List.length_set ..;cases hg:GU s.names (Cc s.of (l[i]!))with
 |none =>
  rw[hg]at mg;simp only[Option.map_none]at mg;have hput:GA (TV s.names) (.str (Gx (Cc s.of (l[i]!)))) (.int .i64 (s.all.length:Int))=TV (s.names++[(Cc s.of (l[i]!),(s.all.length:Int))]):=WR h4 hkn hg;have em:G4 l B s i=⟨s.of.set i s.all.length,s.names++[(Cc s.of (l[i]!),(s.all.length:Int))],s.all++[⟨i,(B[i]!).length,B[i]!⟩]⟩:=by unfold G4;rw[hg]
  rw[em];unfold Hm;generalize Gx (Cc s.of (l[i]!))=key at cn mk mg hput;generalize s.names++[(Cc s.of (l[i]!),(s.all.length:Int))]=names' at hput ⊢;have cl:=DQ (a:=B[i]!) (b:=B[i]!) (by omega) (by omega);rw[decide_eq_false (CQ _)]at cl;have hlast:(s.all++[(⟨i,(B[i]!).length,B[i]!⟩:Cl)])[s.all.length]! =⟨i,(B[i]!).length,B[i]!⟩:=by simp
  have hll:(s.all++[(⟨i,(B[i]!).length,B[i]!⟩:Cl)]).length=s.all.length+1:=by simp
  have hset2:(s.all++[(⟨i,(B[i]!).length,B[i]!⟩:Cl)]).set s.all.length ⟨i,(B[i]!).length,B[i]!⟩=s.all++[⟨i,(B[i]!).length,B[i]!⟩]:=by simp
  refine Bo 116 [0,1,2,3] Tryz.func55 Bm fun X_ ν_ w_=>?_;have c0_:=cn;have c1_:=cl;refine Au (And.intro @mk (And.intro @mg (And.intro @hput (And.intro @hset (And.intro @hsl (And.intro @h1 (And.intro @hB (And.intro @hlast (And.intro @hset2 (And.intro @Int.max_self @PU)))))))))) ?_;try exact trivial
 |some c =>
  rw[hg]at mg;simp only[Option.map_some]at mg;have hv:=h6 _ (Nm hg);simp only at hv;obtain⟨q,rfl⟩:=Int.eq_ofNat_of_zero_le hv.1;have hq:q<s.all.length:=by omega
  have hf:=h7 (s.all[q]!) (by rw[getElem!_pos s.all q hq];exact List.getElem_mem hq);have cl:=DQ (a:=B[i]!) (b:=(s.all[q]!).first) (by omega) (by omega);have em:G4 l B s i=⟨s.of.set i q,s.names,s.all.set q ⟨(s.all[q]!).is_,max (s.all[q]!).long (B[i]!).length,if Ae (B[i]!) (s.all[q]!).first<0 then B[i]! else(s.all[q]!).first⟩⟩:=by unfold G4;rw[hg];rfl
  rw[em];unfold Hm;generalize Gx (Cc s.of (l[i]!))=key at cn mk mg;have g1:(s.all.set q (⟨(s.all[q]!).is_,max (s.all[q]!).long (B[i]!).length,(s.all[q]!).first⟩:Cl))[q]! =⟨(s.all[q]!).is_,max (s.all[q]!).long (B[i]!).length,(s.all[q]!).first⟩:=by rw[Bw hq,if_pos rfl]
  have g2:∀x y:Cl,(s.all.set q x).set q y=s.all.set q y:=fun x y=>List.set_set ..;have g3:∀x:Cl,(s.all.set q x).length=s.all.length:=fun x=>List.length_set ..;have hq3:q<(s.all.set q (⟨(s.all[q]!).is_,max (s.all[q]!).long (B[i]!).length,(s.all[q]!).first⟩:Cl)).length:=by rw[g3];exact hq
  by_cases hw:Ae (B[i]!) (s.all[q]!).first<0
  ·rw[decide_eq_true hw]at cl;rw[if_pos hw];refine Bo 116 [0,1,2,3] Tryz.func55 Bm fun X_ ν_ w_=>?_;have c0_:=cn;have c1_:=cl;refine Au (And.intro @mk (And.intro @mg (And.intro @hset (And.intro @hsl (And.intro @h1 (And.intro @hB (And.intro @g1 (And.intro @g2 (And.intro @g3 (And.intro @PU @Int.toNat_natCast)))))))))) ?_;try exact trivial
  ·rw[decide_eq_false hw]at cl;rw[if_neg hw];refine Bo 116 [0,1,2,3] Tryz.func55 Bm fun X_ ν_ w_=>?_;have c0_:=cn;have c1_:=cl;refine Au (And.intro @mk (And.intro @mg (And.intro @hset (And.intro @hsl (And.intro @h1 (And.intro @hB (And.intro @g1 (And.intro @g2 (And.intro @g3 (And.intro @PU @Int.toNat_natCast)))))))))) ?_;try exact trivial
end Go.Eng.Tryz
namespace Go.Proofs
open Go.Shelf Go.RowKit Go.Lib Go.Sort
def Tryz.sortInt_ren:Go.Shelf.Ren:=⟨fun|6=>56|15=>123|14=>122|28=>189|29=>190|20=>181|21=>182|22=>183|23=>184|24=>185|25=>186|26=>187|27=>188|46=>222|47=>223|48=>224|49=>225|50=>226|57=>259|n=>n,fun|22=>57|24=>3|25=>96|3=>3|39=>176|0=>0|53=>204|55=>33|4=>4|46=>232|45=>231|50=>166|5=>5|9=>9|66=>261|70=>264|76=>292|77=>293|n=>n,fun|n=>n⟩
theorem Tryz.sortInt:Go.Proofs.SlLaysF.n6 Tryz.prog Tryz.sortInt_ren:={
 mixed:=by kernel_rfl
 f6:=⟨Tryz.f56.name,by decide,Tryz.func56.trans (congrArg some (by kernel_rfl))⟩
 f14:=⟨Tryz.f122.name,by decide,Tryz.func122.trans (congrArg some (by kernel_rfl))⟩
 f15:=Tryz.func123.trans (congrArg some (by kernel_rfl))
 f20:=⟨Tryz.f181.name,by decide,Tryz.func181.trans (congrArg some (by kernel_rfl))⟩
 f21:=⟨Tryz.f182.name,by decide,Tryz.func182.trans (congrArg some (by kernel_rfl))⟩
 f22:=⟨Tryz.f183.name,by decide,Tryz.func183.trans (congrArg some (by kernel_rfl))⟩
 f23:=⟨Tryz.f184.name,by decide,Tryz.func184.trans (congrArg some (by kernel_rfl))⟩
 f24:=⟨Tryz.f185.name,by decide,Tryz.func185.trans (congrArg some (by kernel_rfl))⟩
 f25:=⟨Tryz.f186.name,by decide,Tryz.func186.trans (congrArg some (by kernel_rfl))⟩
 f26:=⟨Tryz.f187.name,by decide,Tryz.func187.trans (congrArg some (by kernel_rfl))⟩
 f27:=⟨Tryz.f188.name,by decide,Tryz.func188.trans (congrArg some (by kernel_rfl))⟩
 f28:=Tryz.func189.trans (congrArg some (by kernel_rfl))
 f29:=Tryz.func190.trans (congrArg some (by kernel_rfl))
 f46:=⟨Tryz.f222.name,by decide,Tryz.func222.trans (congrArg some (by kernel_rfl))⟩
 f47:=Tryz.func223.trans (congrArg some (by kernel_rfl))
 f48:=Tryz.func224.trans (congrArg some (by kernel_rfl))
 f49:=⟨Tryz.f225.name,by decide,Tryz.func225.trans (congrArg some (by kernel_rfl))⟩
 f50:=⟨Tryz.f226.name,by decide,Tryz.func226.trans (congrArg some (by kernel_rfl))⟩
 f57:=⟨Tryz.f259.name,by decide,Tryz.func259.trans (congrArg some (by kernel_rfl))⟩
 t0:=Tryz.underlying0
 a0:=Tryz.isAgg0
 z0:=Tryz.sizeOf0
 v0:=Tryz.zeroValue0
 t3:=Tryz.underlying3
 a3:=Tryz.isAgg3
 z3:=Tryz.sizeOf3
 v3:=Tryz.zeroValue3
 t4:=Tryz.underlying4
 a4:=Tryz.isAgg4
 z4:=Tryz.sizeOf4
 v4:=Tryz.zeroValue4
 t5:=Tryz.underlying5
 a5:=Tryz.isAgg5
 z5:=Tryz.sizeOf5
 v5:=Tryz.zeroValue5
 t9:=Tryz.underlying9
 a9:=Tryz.isAgg9
 z9:=Tryz.sizeOf9
 v9:=Tryz.zeroValue9
 t22:=Tryz.underlying57
 a22:=Tryz.isAgg57
 z22:=Tryz.sizeOf57
 v22:=Tryz.zeroValue57
 a24:=Tryz.isAgg3
 z24:=Tryz.sizeOf3
 t25:=Tryz.underlying96
 a25:=Tryz.isAgg96
 z25:=Tryz.sizeOf96
 v25:=Tryz.zeroValue96
 t39:=Tryz.underlying176
 a39:=Tryz.isAgg176
 z39:=Tryz.sizeOf176
 v39:=Tryz.zeroValue176
 t45:=Tryz.underlying231
 a45:=Tryz.isAgg231
 z45:=Tryz.sizeOf231
 v45:=Tryz.zeroValue231
 t46:=Tryz.underlying232
 a46:=Tryz.isAgg232
 z46:=Tryz.sizeOf232
 v46:=Tryz.zeroValue232
 t50:=Tryz.underlying166
 a50:=Tryz.isAgg166
 z50:=Tryz.sizeOf166
 v50:=Tryz.zeroValue166
 t53:=Tryz.underlying204
 a53:=Tryz.isAgg204
 z53:=Tryz.sizeOf204
 v53:=Tryz.zeroValue204
 t55:=Tryz.underlying33
 a55:=Tryz.isAgg33
 z55:=Tryz.sizeOf33
 v55:=Tryz.zeroValue33
 t66:=Tryz.underlying261
 a66:=Tryz.isAgg261
 z66:=Tryz.sizeOf261
 v66:=Tryz.zeroValue261
 t70:=Tryz.underlying264
 a70:=Tryz.isAgg264
 z70:=Tryz.sizeOf264
 v70:=Tryz.zeroValue264
 t76:=Tryz.underlying292
 a76:=Tryz.isAgg292
 z76:=Tryz.sizeOf292
 v76:=Tryz.zeroValue292
 t77:=Tryz.underlying293
 a77:=Tryz.isAgg293
 z77:=Tryz.sizeOf293
 v77:=Tryz.zeroValue293 }
end Go.Proofs
namespace Go.Eng.Tryz
attribute [local go_sem] Aq As Bb Bh Da AP AO Az Ax M1 Ps MF Pt
def MD(l:List Ak)(B:List (List Int))(S:MS):List D:=[.sl 2 (AQ l),.sl 1 (CI B),.sl 1 (is S.of),.any,.sl 3 (cls S.all)]
def UL(all:List Cl)(a b:Nat):Int:=VZ [EE (all[a]!).long (all[b]!).long,Ae (all[a]!).first (all[b]!).first]
theorem bA{l:List Ak}{B:List (List Int)}{S:MS}{a b:Nat}(ha:a<S.all.length)(hb:b<S.all.length)(hf:∀c∈S.all,c.first.length≤1000000) :
 A3 Tryz.prog 57 [.int .i64 a,.int .i64 b,.ptr [.ptr (MD l B S)]] (.int .i64 (UL S.all a b)):=by
 have h1:=hf (S.all[a]!) (by rw[getElem!_pos S.all a ha];exact List.getElem_mem ha);have h2:=hf (S.all[b]!) (by rw[getElem!_pos S.all b hb];exact List.getElem_mem hb);have c1:=MG (a:=(S.all[a]!).long) (b:=(S.all[b]!).long);have c2:=GZ (a:=(S.all[a]!).first) (b:=(S.all[b]!).first) (by omega) (by omega);have c3:=ZJ (l:=[EE (S.all[a]!).long (S.all[b]!).long,Ae (S.all[a]!).first (S.all[b]!).first]) (by simp);have e3:is [EE (S.all[a]!).long (S.all[b]!).long,Ae (S.all[a]!).first (S.all[b]!).first]=[.int .i64 (EE (S.all[a]!).long (S.all[b]!).long),.int .i64 (Ae (S.all[a]!).first (S.all[b]!).first)]:=rfl;rw[e3]at c3;unfold UL MD;refine A6 42 Tryz.func57 B6 fun X_ w_=>?_;have c0_:=c1;have c1_:=c2;have c2_:=c3;refine Au @Int.toNat_natCast ?_;try exact trivial
def Kw(all:List Cl)(a b:Nat):Prop:=(all[a]!).long<(all[b]!).long∨(all[a]!).long=(all[b]!).long∧Ae (all[a]!).first (all[b]!).first<0
theorem Hj(all:List Cl)(a b:Nat):UL all a b<0↔Kw all a b:=by
 unfold UL Kw EE VZ VZ VZ;generalize(all[a]!).long=x;generalize(all[b]!).long=y;generalize Ae (all[a]!).first (all[b]!).first=z
 by_cases h1:x<y
 ·simp[h1]
 ·by_cases h2:y<x
  ·simp[h1,h2];omega
  ·have:x=y:=by omega
   subst this;by_cases h3:z=0
   ·subst h3;simp
   ·simp[h3]
theorem Kw.irr(all:List Cl)(a:Nat):¬Kw all a a:=fun h=>by
 rcases h with h|⟨_,h⟩
 ·omega
 ·exact CQ _ h
theorem Kw.trans{all:List Cl}{a b c:Nat}(h:Kw all a b)(k:Kw all b c):Kw all a c:=by
 unfold Kw at *;rcases h with h|⟨h,h'⟩<;>rcases k with k|⟨k,k'⟩
 ·exact .inl (by omega)
 ·exact .inl (by omega)
 ·exact .inl (by omega)
 ·exact .inr ⟨by omega,D4 h' (by omega)⟩
theorem Kw.ntrans{all:List Cl}{a b c:Nat}(h:¬Kw all a b)(k:¬Kw all b c):¬Kw all a c:=by
 unfold Kw at *;have s1:=AD (all[a]!).first (all[b]!).first
 have s2:=AD (all[b]!).first (all[c]!).first
 have s3:=AD (all[a]!).first (all[c]!).first
 have tr:=CA (all[c]!).first (all[b]!).first (all[a]!).first
 intro hac;rcases hac with h1|⟨h1,h2⟩
 ·omega
 ·have e1:(all[a]!).long=(all[b]!).long:=by omega
  have e2:(all[b]!).long=(all[c]!).long:=by omega
  have:=tr (by omega) (by omega);omega
def XV(all:List Cl):Prop:=∀a b,a<all.length→b<all.length→(all[a]!).first=(all[b]!).first→a=b
theorem Kw.tot{all:List Cl}(hi:XV all){a b:Nat}(ha:a<all.length)(hb:b<all.length)(h:¬Kw all a b)(k:¬Kw all b a):a=b:=by
 unfold Kw at *;have s1:=AD (all[a]!).first (all[b]!).first
 have e1:(all[a]!).long=(all[b]!).long:=by omega
 exact hi a b ha hb ((Cf _ _).1 (by omega))
def SU(x:D):Nat:=match x with| .int _ z=>z.toNat|_=>0
def ns(l:List Nat):List D:=l.map fun(k:Nat)=>.int .i64 (k:Int)
theorem de(l:List Nat):ns l=is (l.map fun(k:Nat)=>(k:Int)):=by simp[ns,is]
theorem bO{l:List Ak}{B:List (List Int)}{S:MS}{xs ys:List Nat}(hf:∀c∈S.all,c.first.length≤1000000)(hi:XV S.all)(hx:∀x∈xs,x<S.all.length)(h0:0<xs.length)(hmax:xs.length<4611686018427387904)(hp:ys.Perm xs)(hs:ys.Pairwise (fun a b=>¬Kw S.all b a)) :
 Ai Tryz.prog 56 [.own 0 xs.length,.fn 57 [.d (.ptr [.ptr (MD l B S)])]] [(0,.row 3 1 (ns xs))] (.tup []) [(0,.row 3 1 (ns ys))] 1:=by
 have eg:∀args w,(callFunc 57 args).run Tryz.prog w= .ok (.enter 57 args) w:=enters_of Tryz.func57 (by kernel_rfl) rfl;have hlen:(ns xs).length=xs.length:=by simp[ns]
 have gd:∀x,(∃k:Nat,k<S.all.length∧x=D.int .i64 k)→D.int .i64 (SU x)=x∧SU x<S.all.length:=fun x ⟨k,h1,h2⟩=>by subst h2;exact⟨by simp[SU],by simpa[SU]using h1⟩
 have:=RX (P:=Tryz.prog) Tryz.sortInt eg (Good:=fun x=>∃k:Nat,k<S.all.length∧x=D.int .i64 k) (cf:=fun x y=>UL S.all (SU x) (SU y)) (cap0:=.ptr [.ptr (MD l B S)])
  (fun x y hx hy=>by
    have:=bA (l:=l) (B:=B) (S:=S) (gd x hx).2 (gd y hy).2 hf
    rwa [(gd x hx).1,(gd y hy).1]at this)
  (fun x hx=>by rw[Hj];exact Kw.irr _ _) (fun x y z _ _ _ h1 h2=>by rw[Hj]at *;exact h1.trans h2) (fun x y z _ _ _ h1 h2=>by rw[Hj]at *;exact Kw.ntrans h1 h2)
  (fun x y hx hy h1 h2=>by
    rw[Hj]at h1 h2;have:=Kw.tot hi (gd x hx).2 (gd y hy).2 h1 h2;rw[← (gd x hx).1,← (gd y hy).1,this])
  (fun x ⟨k,_,h⟩=>by rw[h];rfl) (e:=3) (xs:=ns xs) (ys:=ns ys) (fun x hx'=>by
    obtain⟨k,hk,rfl⟩:=List.mem_map.1 hx';exact⟨k,hx k hk,rfl⟩) (by rw[hlen];exact h0) (by rw[hlen];exact hmax) (hp.map _) (by
    unfold ns;rw[List.pairwise_map];exact hs.imp (fun{a b} h=>by rw[Hj];simpa[SU]using h))
 rw[hlen]at this;exact this
end Go.Eng.Tryz

/- Words in order: what package order, slices.Compare and the references give. (and what stands behind it: texts laid together) -/
import Derived.Test.YtooblcpmpemhfaaGreatDoorMG4
import Derived.Test.YtooblcpmpemhfaaGreatDoorMR1
import Derived.Shelf.SlSortCmp.WholeK
import Derived.Shelf.SlGeneric
import Derived.Ground.SlsfProg
import Derived.Test.YtooblcpmpemhfaaGreatDoorProg
import Derived.Test.YtooblcpmpemhfaaGreatDoorMH1
set_option linter.unusedVariables false
set_option linter.unusedSimpArgs false
open Go Go.Eng Go.Proofs Go.RowKit
set_option maxHeartbeats 32000000
set_option maxRecDepth 100000
namespace Go.Eng.Tryz
def is(l:List Int):List D:=l.map fun z=>D.int .i64 z
theorem Aq{l:List Int}:(is l).length=l.length:=by simp[is]
theorem As{l:List Int}{k:Nat}(h:k<l.length):(is l)[k]? =some (D.int .i64 (l[k]!)):=by
 simp[is,List.getElem?_eq_getElem h,getElem!_pos l k h]
attribute [local go_sem] Aq As
theorem PH{a:Int}:A1 Tryz.prog 124 [.int .i64 a] (.bool false):=by
 have e:(a !=a)=false:=by simp
 refine A1.run (N:=6) Tryz.func124 rfl (by kernel_rfl) rfl rfl rfl (by exact Ab) fun X_ w_=>?_;refine AI @e ?_;try exact trivial
def Fc(a b:Int):Int:=if a<b then -1 else if b<a then 1 else 0
theorem Jd{a b:Int}:A1 Tryz.prog 59 [.int .i64 a,.int .i64 b] (.int .i64 (Fc a b)):=by
 by_cases h1:a<b
 ·have e:Fc a b = -1:=by unfold Fc;rw[if_pos h1]
  refine A1.run (N:=20) Tryz.func59 rfl (by kernel_rfl) rfl rfl rfl (by exact An) fun X_ w_=>?_;have c0_:=@PH;refine AI @e ?_;try exact trivial
 ·by_cases h2:b<a
  ·have e:Fc a b=1:=by unfold Fc;rw[if_neg h1,if_pos h2]
   refine A1.run (N:=20) Tryz.func59 rfl (by kernel_rfl) rfl rfl rfl (by exact An) fun X_ w_=>?_;have c0_:=@PH;refine AI @e ?_;try exact trivial
  ·have e:Fc a b=0:=by unfold Fc;rw[if_neg h1,if_neg h2]
   refine A1.run (N:=20) Tryz.func59 rfl (by kernel_rfl) rfl rfl rfl (by exact An) fun X_ w_=>?_;have c0_:=@PH;refine AI @e ?_;try exact trivial
def Aj:List Int→List Int→Int
 | [],[]=>0
 | [],_::_ => -1
 |_::_,[]=>1
 |x::a,y::b=>if x<y then -1 else if y<x then 1 else Aj a b
theorem EO{l:List Int}{k:Nat}(h:k<l.length):l.drop k=l[k]!::l.drop (k+1):=by
 rw[List.drop_eq_getElem_cons h,getElem!_pos l k h]
theorem Ql{a b:List Int}{k:Nat}(h:k<a.length)(h':k<b.length)(hw:Aj (a.drop k) (b.drop k)=Aj a b) :
 (a[k]! =b[k]!→Aj (a.drop (k+1)) (b.drop (k+1))=Aj a b)∧(Fc (a[k]!) (b[k]!)≠0→Fc (a[k]!) (b[k]!)=Aj a b):=by
 rw[EO h,EO h']at hw;simp only[Aj]at hw;unfold Fc;constructor
 ·intro e;rw[if_neg (by omega),if_neg (by omega)]at hw;exact hw
 ·intro e;by_cases h1:a[k]! <b[k]!
  ·rw[if_pos h1]at hw ⊢;exact hw
  ·rw[if_neg h1]at hw ⊢ e;by_cases h2:b[k]! <a[k]!
   ·rw[if_pos h2]at hw ⊢;exact hw
   ·rw[if_neg h2]at e;exact absurd rfl e
theorem Sx{a b:Int}(h:Fc a b=0):a=b:=by
 unfold Fc at h;split at h
 ·cases h
 ·split at h
  ·cases h
  ·omega
theorem GC{a b:List Int}(ha:a.length≤9223372036854775807)(hb:b.length≤9223372036854775807):A1 Tryz.prog 60 [.sl 1 (is a),.sl 1 (is b)] (.int .i64 (Aj a b)):=by
 refine A1.run (N:=36) Tryz.func60 rfl (by kernel_rfl) rfl rfl rfl (by exact An) fun X_ w_=>?_;refine Aw ?_;try exact trivial
 refine A7 (fun k:Nat=>k≤a.length∧k≤b.length∧Aj (a.drop k) (b.drop k)=Aj a b) (fun k=>[(0,.d (.sl 1 (is a))),(1,.d (.sl 1 (is b))),(9,.d (.sl 1 (is a))),(10,.d (.int .i64 a.length)),(11,.d (.int .i64 k))]) (fun _=>[]) 0 (fun k=>a.length-k) [0,1,9,10,11] [] 0 ⟨Nat.zero_le _,Nat.zero_le _,rfl⟩ rfl rfl (Nat.le_refl _) (fun _ _=>rfl) (fun _ _=>rfl) fun k hk=>?_;obtain⟨hk1,hk2,hw⟩:=hk;refine Aw ?_;try exact trivial
 with_reducible apply Ku (by simp(disch:=omega)only[go_sem];rfl)<;>intro hc<;>(try simp only[decide_eq_true_eq,decide_eq_false_iff_not,beq_iff_eq,beq_eq_false_iff_ne,bne_iff_ne,bne_eq_false_iff_eq,gt_iff_lt,ge_iff_le,Int.not_lt,Int.not_le,ne_eq]at hc)
 ·have hk':k<a.length:=by omega
  refine Aw ?_;try exact trivial
  with_reducible apply Ku (by simp(disch:=omega)only[go_sem];rfl)<;>intro hc<;>(try simp only[decide_eq_true_eq,decide_eq_false_iff_not,beq_iff_eq,beq_eq_false_iff_ne,bne_iff_ne,bne_eq_false_iff_eq,gt_iff_lt,ge_iff_le,Int.not_lt,Int.not_le,ne_eq]at hc)
  ·have e:Aj a b=1:=by
    rw[← hw,EO hk',show b.drop k=[]from List.drop_eq_nil_of_le (by omega)];rfl
   refine AI @e ?_;try exact trivial
  ·have hk2':k<b.length:=by omega
   obtain⟨w1,w2⟩:=Ql hk' hk2' hw;have c0_:=@Jd;refine Aw ?_;try exact trivial
   with_reducible apply Ku (by simp(disch:=omega)only[go_sem];rfl)<;>intro hc<;>(try simp only[decide_eq_true_eq,decide_eq_false_iff_not,beq_iff_eq,beq_eq_false_iff_ne,bne_iff_ne,bne_eq_false_iff_eq,gt_iff_lt,ge_iff_le,Int.not_lt,Int.not_le,ne_eq]at hc)
   ·have e:=w2 hc;refine AI @e ?_;try exact trivial
   ·have e:=Sx hc;have w3:=w1 e;refine Aw ?_;try exact trivial
    refine⟨k+1,⟨by omega,by omega,w3⟩,?_,rfl,by omega⟩;simp(disch:=omega)only[go_sem,A2,Int.natCast_add,Int.cast_ofNat_Int]
 ·have hk':k=a.length:=by omega
  subst hk';have ed:a.drop a.length=[]:=List.drop_eq_nil_of_le (Nat.le_refl _);refine Aw ?_;try exact trivial
  with_reducible apply Ku (by simp(disch:=omega)only[go_sem];rfl)<;>intro hc<;>(try simp only[decide_eq_true_eq,decide_eq_false_iff_not,beq_iff_eq,beq_eq_false_iff_ne,bne_iff_ne,bne_eq_false_iff_eq,gt_iff_lt,ge_iff_le,Int.not_lt,Int.not_le,ne_eq]at hc)
  ·have e:Aj a b = -1:=by
    rw[← hw,ed,EO (by omega)];rfl
   refine AI @e ?_;try exact trivial
  ·have e:Aj a b=0:=by
    rw[← hw,ed,show b.drop a.length=[]from List.drop_eq_nil_of_le (by omega)];rfl
   refine AI @e ?_;try exact trivial
theorem K1{a b:List Int}(ha:a.length≤9223372036854775807)(hb:b.length≤9223372036854775807):A1 Tryz.prog 121 [.sl 1 (is a),.sl 1 (is b)] (.bool (decide (Aj a b<0))):=by
 refine A1.run (N:=9) Tryz.func121 rfl (by kernel_rfl) rfl rfl rfl (by exact An) fun X_ w_=>?_;have c0_:=GC ha hb;refine Aw ?_;try exact trivial
theorem Fu{a b:List Int}(ha:a.length≤9223372036854775807)(hb:b.length≤9223372036854775807):A1 Tryz.prog 50 [.sl 1 (is a),.sl 1 (is b)] (.bool (decide (a=b))):=by
 by_cases hl:a.length=b.length
 ·refine A1.run (N:=26) Tryz.func50 rfl (by kernel_rfl) rfl rfl rfl (by exact An) fun X_ w_=>?_;refine Aw ?_;try exact trivial
  refine A7 (fun k:Nat=>k≤a.length∧a.take k=b.take k) (fun k=>[(0,.d (.sl 1 (is a))),(1,.d (.sl 1 (is b))),(5,.d (.int .i64 k))]) (fun _=>[]) 0 (fun k=>a.length-k) [0,1,5] [] 0 ⟨Nat.zero_le _,rfl⟩ rfl rfl (Nat.le_refl _) (fun _ _=>rfl) (fun _ _=>rfl) fun k hk=>?_;obtain⟨hk1,hw⟩:=hk;refine Aw ?_;try exact trivial
  with_reducible apply Ku (by simp(disch:=omega)only[go_sem];rfl)<;>intro hc<;>(try simp only[decide_eq_true_eq,decide_eq_false_iff_not,beq_iff_eq,beq_eq_false_iff_ne,bne_iff_ne,bne_eq_false_iff_eq,gt_iff_lt,ge_iff_le,Int.not_lt,Int.not_le,ne_eq]at hc)
  ·have hk':k<a.length:=by omega
   have hk2:k<b.length:=by omega
   refine Aw ?_;try exact trivial
   with_reducible apply Ku (by simp(disch:=omega)only[go_sem];rfl)<;>intro hc<;>(try simp only[decide_eq_true_eq,decide_eq_false_iff_not,beq_iff_eq,beq_eq_false_iff_ne,bne_iff_ne,bne_eq_false_iff_eq,gt_iff_lt,ge_iff_le,Int.not_lt,Int.not_le,ne_eq]at hc)
   ·have e:decide (a=b)=false:=decide_eq_false fun h=>hc (by rw[h]);refine AI @e ?_;try exact trivial
   ·have e:a.take (k+1)=b.take (k+1):=by
     rw[List.take_add_one,List.take_add_one,hw,List.getElem?_eq_getElem hk',List.getElem?_eq_getElem hk2,← getElem!_pos a k hk',← getElem!_pos b k hk2,hc]
    refine Aw ?_;try exact trivial
    refine⟨k+1,⟨by omega,e⟩,?_,rfl,by omega⟩;simp(disch:=omega)only[go_sem,A2,Int.natCast_add,Int.cast_ofNat_Int]
  ·have hk':k=a.length:=by omega
   subst hk';have e:decide (a=b)=true:=decide_eq_true (by rw[List.take_length,hl,List.take_length]at hw;exact hw);refine AI @e ?_;try exact trivial
 ·have e:decide (a=b)=false:=decide_eq_false fun h=>hl (by rw[h]);refine A1.run (N:=26) Tryz.func50 rfl (by kernel_rfl) rfl rfl rfl (by exact An) fun X_ w_=>?_;refine AI @e ?_;try exact trivial
def BT:List Int→List Int→Nat
 |x::a,y::b=>if x=y then BT a b+1 else 0
 |_,_=>0
theorem Nn:∀(a b:List Int),BT a b≤a.length∧BT a b≤b.length
 | [],b=>by simp[BT]
 |_::_,[]=>by simp[BT]
 |x::a,y::b=>by
  have:=Nn a b;simp only[BT];split<;>simp<;>omega
theorem OQ(a:List Int):BT a []=0:=by cases a<;>rfl
theorem Lx:∀(a b:List Int),(BT a b=b.length→¬Aj a b<0)∧(BT a b≠b.length→BT a b=a.length→Aj a b<0)∧(BT a b≠b.length→BT a b≠a.length→(Aj a b<0↔a[BT a b]! <b[BT a b]!))
 | [],[]=>by simp[BT,Aj]
 | [],y::b=>by simp[BT,Aj]
 |x::a,[]=>by simp[BT,Aj]
 |x::a,y::b=>by
  obtain⟨h1,h2,h3⟩:=Lx a b;by_cases e:x=y
  ·subst e;have:BT (x::a) (x::b)=BT a b+1:=by simp[BT]
   rw[this];have hw:Aj (x::a) (x::b)=Aj a b:=by simp[Aj]
   rw[hw];simp only[List.length_cons,Nat.add_right_cancel_iff,List.getElem!_cons_succ,ne_eq];exact⟨h1,h2,h3⟩
  ·have:BT (x::a) (y::b)=0:=by simp[BT,e]
   rw[this];simp only[List.length_cons,List.getElem!_cons_zero,Aj];refine⟨fun h=>by omega,fun _ h=>by omega,fun _ _=>?_⟩;constructor
   ·intro h;by_cases hxy:x<y
    ·exact hxy
    ·rw[if_neg hxy,if_pos (by omega)]at h;omega
   ·intro h;rw[if_pos h];decide
theorem Fv{a b:List Int}(ha:a.length≤9223372036854775807)(hb:b.length≤9223372036854775807):A1 Tryz.prog 194 [.sl 1 (is a),.sl 1 (is b)] (.int .i64 (BT a b)):=by
 refine A1.run (N:=30) Tryz.func194 rfl (by kernel_rfl) rfl rfl rfl (by exact An) fun X_ w_=>?_;refine Aw ?_;try exact trivial
 refine A7 (fun k:Nat=>k≤a.length∧k≤b.length∧BT (a.drop k) (b.drop k)+k=BT a b) (fun k=>[(0,.d (.sl 1 (is a))),(1,.d (.sl 1 (is b))),(5,.d (.int .i64 k))]) (fun _=>[]) 0 (fun k=>a.length-k) [0,1,5] [] 0 ⟨Nat.zero_le _,Nat.zero_le _,rfl⟩ rfl rfl (Nat.le_refl _) (fun _ _=>rfl) (fun _ _=>rfl) fun k hk=>?_;obtain⟨hk1,hk2,hw⟩:=hk;by_cases h1:k<a.length
 ·by_cases h2:k<b.length
  ·rw[EO h1,EO h2]at hw;simp only[BT]at hw;by_cases h3:a[k]! =b[k]!
   ·rw[if_pos h3]at hw;refine Aw ?_;try exact trivial
    refine⟨k+1,⟨by omega,by omega,by omega⟩,?_,rfl,by omega⟩;simp(disch:=omega)only[go_sem,A2,Int.natCast_add,Int.cast_ofNat_Int]
   ·rw[if_neg h3]at hw;have e:BT a b=k:=by omega
    refine AI @e ?_;try exact trivial
  ·rw[show b.drop k=[]from List.drop_eq_nil_of_le (by omega),OQ]at hw;have e:BT a b=k:=by omega
   refine AI @e ?_;try exact trivial
 ·rw[show a.drop k=[]from List.drop_eq_nil_of_le (by omega)]at hw;simp only[BT]at hw;have e:BT a b=k:=by omega
  refine AI @e ?_;try exact trivial
theorem GG{a b:List Int}(ha:a.length≤9223372036854775807)(hb:b.length≤9223372036854775807):A1 Tryz.prog 127 [.sl 1 (is a),.sl 1 (is b)] (.bool (decide (Aj a b<0))):=by
 obtain⟨w1,w2,w3⟩:=Lx a b;have hle:=Nn a b;by_cases h1:BT a b=b.length
 ·have e:=decide_eq_false (w1 h1);refine A1.run (N:=28) Tryz.func127 rfl (by kernel_rfl) rfl rfl rfl (by exact An) fun X_ w_=>?_;have c0_:=Fv ha hb;refine AI @e ?_;try exact trivial
 ·by_cases h2:BT a b=a.length
  ·have e:=decide_eq_true (w2 h1 h2);refine A1.run (N:=28) Tryz.func127 rfl (by kernel_rfl) rfl rfl rfl (by exact An) fun X_ w_=>?_;have c0_:=Fv ha hb;refine AI @e ?_;try exact trivial
  ·have h4:BT a b<a.length:=by omega
   have h5:BT a b<b.length:=by omega
   by_cases h6:a[BT a b]! <b[BT a b]!
   ·have e:=decide_eq_true ((w3 h1 h2).2 h6);refine A1.run (N:=28) Tryz.func127 rfl (by kernel_rfl) rfl rfl rfl (by exact An) fun X_ w_=>?_;have c0_:=Fv ha hb;refine AI @e ?_;try exact trivial
   ·have e:=decide_eq_false (fun h=>h6 ((w3 h1 h2).1 h));refine A1.run (N:=28) Tryz.func127 rfl (by kernel_rfl) rfl rfl rfl (by exact An) fun X_ w_=>?_;have c0_:=Fv ha hb;refine AI @e ?_;try exact trivial
end Go.Eng.Tryz
namespace Go.Eng.Tryz
attribute [local go_sem] Aq As
def BN(z:Int):Bool:=decide (0≤z∧z≤1114111∧(z<55296∨57343<z))
theorem Ip{z:Int}(h:0≤z∧z≤1114111∧(z<55296∨57343<z)):BN z=true:=decide_eq_true h
theorem Fz{z:Int}(h:¬(0≤z∧z≤1114111∧(z<55296∨57343<z))):BN z=false:=decide_eq_false h
theorem Kx{z:Int}:A1 Tryz.prog 130 [.int .i64 z] (.bool (BN z)):=by
 by_cases h1:z<0
 ·have e:=Fz (z:=z) (by omega);refine A1.run (N:=13) Tryz.func130 rfl (by kernel_rfl) rfl rfl rfl (by exact Ab) fun X_ w_=>?_;refine AI @e ?_;try exact trivial
 by_cases h2:1114111<z
 ·have e:=Fz (z:=z) (by omega);refine A1.run (N:=13) Tryz.func130 rfl (by kernel_rfl) rfl rfl rfl (by exact Ab) fun X_ w_=>?_;refine AI @e ?_;try exact trivial
 by_cases h3:z<55296
 ·have e:=Ip (z:=z) (by omega);refine A1.run (N:=13) Tryz.func130 rfl (by kernel_rfl) rfl rfl rfl (by exact Ab) fun X_ w_=>?_;refine AI @e ?_;try exact trivial
 by_cases h4:57343<z
 ·have e:=Ip (z:=z) (by omega);refine A1.run (N:=13) Tryz.func130 rfl (by kernel_rfl) rfl rfl rfl (by exact Ab) fun X_ w_=>?_;refine AI @e ?_;try exact trivial
 ·have e:=Fz (z:=z) (by omega);refine A1.run (N:=13) Tryz.func130 rfl (by kernel_rfl) rfl rfl rfl (by exact Ab) fun X_ w_=>?_;refine AI @e ?_;try exact trivial
theorem KJ{z:Int}:A1 Tryz.prog 134 [.int .i64 z] (.bool (BN z)):=by
 by_cases h1:z<0
 ·have e:=Fz (z:=z) (by omega);refine A1.run (N:=17) Tryz.func134 rfl (by kernel_rfl) rfl rfl rfl (by exact Ab) fun X_ w_=>?_;refine AI @e ?_;try exact trivial
 by_cases h2:1114111<z
 ·have e:=Fz (z:=z) (by omega);refine A1.run (N:=17) Tryz.func134 rfl (by kernel_rfl) rfl rfl rfl (by exact Ab) fun X_ w_=>?_;refine AI @e ?_;try exact trivial
 by_cases h3:z<55296
 ·have e:=Ip (z:=z) (by omega);refine A1.run (N:=17) Tryz.func134 rfl (by kernel_rfl) rfl rfl rfl (by exact Ab) fun X_ w_=>?_;refine AI @e ?_;try exact trivial
 by_cases h4:57343<z
 ·have e:=Ip (z:=z) (by omega);refine A1.run (N:=17) Tryz.func134 rfl (by kernel_rfl) rfl rfl rfl (by exact Ab) fun X_ w_=>?_;refine AI @e ?_;try exact trivial
 ·have e:=Fz (z:=z) (by omega);refine A1.run (N:=17) Tryz.func134 rfl (by kernel_rfl) rfl rfl rfl (by exact Ab) fun X_ w_=>?_;refine AI @e ?_;try exact trivial
def U1(l:List Int):Bool:=l.all BN
def Qj:List Int→Int
 | []=>0
 |x::r=>if x=0 then Qj r else x
theorem Tn{l:List Int}(hl:l.length≤9223372036854775807):A1 Tryz.prog 58 [.sl 1 (is l)] (.int .i64 (Qj l)):=by
 refine A1.run (N:=18) Tryz.func58 rfl (by kernel_rfl) rfl rfl rfl (by exact Ab) fun X_ w_=>?_;refine Aw ?_;try exact trivial
 refine A7 (fun k:Nat=>k≤l.length∧Qj (l.drop k)=Qj l) (fun k=>[(3,.d (.int .i64 0)),(6,.d (.sl 1 (is l))),(7,.d (.int .i64 l.length)),(8,.d (.int .i64 k))]) (fun _=>[]) 0 (fun k=>l.length-k) [3,6,7,8] [] 0 ⟨Nat.zero_le _,rfl⟩ rfl rfl (Nat.le_refl _) (fun _ _=>rfl) (fun _ _=>rfl) fun k hk=>?_;obtain⟨hk1,hw⟩:=hk;by_cases hk':k<l.length
 ·rw[EO hk']at hw;simp only[Qj]at hw;by_cases hz:l[k]! =0
  ·rw[if_pos hz]at hw;refine AI @hz ?_;try exact trivial
   refine⟨k+1,⟨by omega,hw⟩,?_,rfl,by omega⟩;simp(disch:=omega)only[go_sem,A2,Int.natCast_add,Int.cast_ofNat_Int]
  ·rw[if_neg hz]at hw;refine AI (hw.symm) ?_;try exact trivial
 ·rw[List.drop_eq_nil_of_le (by omega)]at hw;have e:Qj l=0:=hw.symm;refine AI @e ?_;try exact trivial
structure Ru where
 left:List Int
 right:List Int
 cost:Int
deriving DecidableEq
instance:Inhabited Ru:=⟨⟨[],[],0⟩⟩
def ru(r:Ru):D:=.agg [.sl 1 (is r.left),.sl 1 (is r.right),.int .u64 r.cost]
def Ru.ok(r:Ru):Prop:=r.left.length≤9223372036854775807∧r.right.length≤9223372036854775807∧0≤r.cost∧r.cost≤18446744073709551615
end Go.Eng.Tryz
namespace Go.Eng.Tryz
open Go.Maps (Keyed)
attribute [local go_sem] Aq As
def gi(l:List Int)(i:Nat):Int:=(l[i]?).getD 0
def sok(l:List Int):Bool:=U1 l&&decide (l.length≤8)
end Go.Eng.Tryz
namespace Go.Eng.Tryz
open Go.Maps (Keyed)
attribute [local go_sem] Ci RV So KG frz frzs List.set_cons_zero List.set_cons_succ List.zip_cons_cons List.zip_nil_right List.foldl_cons List.foldl_nil D.flat Ju AV.rn HO.rn AV.ks GM HO.ks sg Dd K3 DN Bd fresh List.filter Sz Dl opnd lk FT LA F2 Kk Dc Gj Eu IB Ov Ea ON SS EL FB FA FC HQ Ba Bw B9 L0 BG BH CB BJ Fk Hp CW Ca DC D8 Dj DB C9 Qs Qt Dn C5 BI Sm Sn Tb.inn Tb.ilen Tb.nilAt Tb.ini D.put DQ Cy EM Bs Kl Dq CA Cz Dk Dm CE AV.kb Ad List.getLast?_append MU EX KI Hi A2 List.replicate_zero List.take_length ofInt Ki GU GV Hq Mj Dr CO Bj DK MB LN Ad D.comps AV.comps AV.sto D.cell D.rebuild Cx Do CD put Dg B3 gd DP K9 Option.map_some Option.map_none Option.bind_some Option.isSome_some List.map_cons List.map_nil List.append_nil List.nil_append List.cons_append List.length_cons List.length_nil List.length_map List.length_append List.take_zero List.take_succ_cons List.take_nil List.drop_zero List.drop_succ_cons List.drop_nil List.getElem?_cons_zero List.getElem?_cons_succ List.getElem?_map List.all_cons List.all_nil List.mem_cons List.not_mem_nil List.elem_cons List.elem_nil Bool.and_true Bool.true_and Bool.and_self Bool.not_true Bool.not_false Bool.or_true Bool.or_false and_self and_true true_and or_false false_or or_true true_or not_false_eq_true not_true_eq_false if_true if_false decide_true decide_false decide_eq_true_eq Int.toNat_natCast Int.toNat_zero beq_self_eq_true bne_self_eq_false Bool.false_eq_true Nat.add_zero Nat.zero_add GD Sl Sg SA Sk Sf Sj R9 Q5 Q6 Od SK N4 KA Kz MK ML wrap_i64 Iu Nd Li Ne Lj Q2 Q3 PZ Q0 N5 gt_iff_lt ge_iff_le
attribute [local go_sem ↓] Pv reduceIte
attribute [local go_sem] reduceCtorEq Nat.reduceEqDiff Nat.reduceAdd Nat.reduceSub Nat.reduceMul Nat.reduceLeDiff Nat.reduceLT Nat.reduceBEq Nat.reduceBNe Int.reduceToNat Int.reduceLT Int.reduceLE Int.reduceEq Int.reduceAdd Int.reduceSub Int.reduceNeg Int.reduceBEq Int.reduceBNe
attribute [local go_sem] Aq As
theorem PD{d:Nat}{n:Int}(h : -9223372036854775808≤n∧n≤9223372036854775807):Tryz.prog.keyLits (d+1) 3 [.int .i64 n]=some [.int .i64 n]:=by
 have hw:(Lit.int .i64 n).wf=true:=by simp only[Lit.wf,Bool.and_eq_true,decide_eq_true_eq];exact h
 unfold Program.keyLits;rw[Tryz.underlying3];simp only[hw,and_self,if_true]
theorem Un:Tryz.prog.cellsOf 3=1:=by kernel_rfl
def fits(l:List Int):Prop:=l.length≤8∧∀z∈l,-9223372036854775808≤z∧z≤9223372036854775807
theorem PT:∃d,Tryz.prog.types.size+1=d+4:=⟨Tryz.prog.types.size-3,by have:3≤Tryz.prog.types.size:=of_decide_eq_true (by kernel_rfl);omega⟩
def bd(a b:List Int):D:=.agg [.int .i64 a.length,.int .i64 (gi a 0),.int .i64 (gi a 1),.int .i64 (gi a 2),.int .i64 (gi a 3),.int .i64 (gi a 4),.int .i64 (gi a 5),.int .i64 (gi a 6),.int .i64 (gi a 7),.int .i64 b.length,.int .i64 (gi b 0),.int .i64 (gi b 1),.int .i64 (gi b 2),.int .i64 (gi b 3),.int .i64 (gi b 4),.int .i64 (gi b 5),.int .i64 (gi b 6),.int .i64 (gi b 7)]
theorem P8{w:World}{M:Nat→Prop}{l:List Int}:Ae w M (.agg (l.map fun z=>.int .i64 z)) (.agg (l.map fun z=>.int .i64 z).toArray):=by
 refine .agg (by simp) (fun d hd=>?_) (fun i d v h1 h2=>?_)
 ·obtain⟨z,_,rfl⟩:=List.mem_map.1 hd;rfl
 ·rw[List.getElem?_map]at h1 h2;cases hq:l[i]? with
  |none=>rw[hq]at h1;simp at h1
  |some z=>rw[hq]at h1 h2;simp at h1 h2;subst h1;subst h2;exact .int _ _
theorem O4{l:List Int}:(D.agg (l.map fun z=>.int .i64 z)).pure=true:=by
 simp only[D.pure,List.all_eq_true];intro d hd;obtain⟨z,_,rfl⟩:=List.mem_map.1 hd;rfl
end Go.Eng.Tryz
namespace Go.Eng.Tryz
open Go.Maps (Keyed)
attribute [local go_sem] Aq As
theorem C2:∀(a b:List Int),Aj a b=0↔a=b
 | [],[]=>by simp[Aj]
 | [],_::_=>by simp[Aj]
 |_::_,[]=>by simp[Aj]
 |x::a,y::b=>by
  simp only[Aj,List.cons.injEq];by_cases h:x<y
  ·rw[if_pos h];constructor<;>intro h'<;>omega
  ·rw[if_neg h];by_cases h2:y<x
   ·rw[if_pos h2];constructor<;>intro h'<;>omega
   ·rw[if_neg h2,C2 a b];constructor
    ·intro h';exact⟨by omega,h'⟩
    ·exact fun h'=>h'.2
end Go.Eng.Tryz
namespace Go.Proofs
open Go.Shelf Go.RowKit Go.Lib Go.Sort
end Go.Proofs
namespace Go.Eng.Tryz
theorem Ao:∀(a b:List Int),Aj b a = - Aj a b
 | [],[]=>by simp[Aj]
 | [],_::_=>by simp[Aj]
 |_::_,[]=>by simp[Aj]
 |x::a,y::b=>by
  simp only[Aj];by_cases h:x<y
  ·rw[if_pos h,if_neg (by omega),if_pos h];rfl
  ·by_cases h2:y<x
   ·rw[if_pos h2,if_neg h,if_pos h2]
   ·rw[if_neg h2,if_neg h,if_neg h,if_neg h2,Ao a b]
theorem Bu:∀(a b c:List Int),Aj a b≤0→Aj b c≤0→Aj a c≤0
 | [],b,c,_,_=>by cases c<;>simp[Aj]
 |x::a,[],c,h,_=>by simp[Aj]at h
 |x::a,y::b,[],_,h=>by simp[Aj]at h
 |x::a,y::b,z::c,h1,h2=>by
  have ih:=Bu a b c;simp only[Aj]at h1 h2 ⊢;rcases Int.lt_trichotomy x y with hxy|hxy|hxy
  ·rcases Int.lt_trichotomy y z with hyz|hyz|hyz
   ·rw[if_pos (by omega)];decide
   ·rw[if_pos (by omega)];decide
   ·rw[if_neg (by omega),if_pos hyz]at h2;omega
  ·subst hxy;rw[if_neg (by omega),if_neg (by omega)]at h1;rcases Int.lt_trichotomy x z with hyz|hyz|hyz
   ·rw[if_pos (by omega)];decide
   ·subst hyz;rw[if_neg (by omega),if_neg (by omega)]at h2 ⊢;exact ih h1 h2
   ·rw[if_neg (by omega),if_pos hyz]at h2;omega
  ·rw[if_neg (by omega),if_pos hxy]at h1;omega
theorem Bh{a b c:List Int}(h1:Aj a b<0)(h2:Aj b c≤0):Aj a c<0:=by
 have h3:=Bu a b c (by omega) h2;by_cases h:Aj a c=0
 ·have e:=(C2 _ _).1 h;rw[← e]at h2;have:=Ao a b;omega
 ·omega
def rs(l:List Ru):List D:=l.map ru
def Ry(r s:Ru):Prop:=r.left=s.left∧r.right=s.right
instance (r s:Ru):Decidable (Ry r s):=by unfold Ry;infer_instance
def U8(r s:Ru):Prop:=Aj r.left s.left<0∨r.left=s.left∧Aj r.right s.right<0
instance (r s:Ru):Decidable (U8 r s):=by unfold U8;infer_instance
open Go.Maps (Keyed)
theorem Hf{l:List Ru}:(rs l).length=l.length:=by simp[rs]
theorem Hg{l:List Ru}{k:Nat}(h:k<l.length):(rs l)[k]? =some (.agg [.sl 1 (is (l[k]!).left),.sl 1 (is (l[k]!).right),.int .u64 (l[k]!).cost]):=by
 simp[rs,ru,List.getElem?_eq_getElem h,getElem!_pos l k h]
theorem KF{l:List Ru}{r:Ru}:rs l++[.agg [.sl 1 (is r.left),.sl 1 (is r.right),.int .u64 r.cost]]=rs (l++[r]):=by simp[rs,ru]
attribute [local go_sem] Aq As Hf Hg KF
def em(ms:List Ru):List (D×D):=ms.map fun r=>(bd r.left r.right,.int .u64 r.cost)
end Go.Eng.Tryz
namespace Go.Eng.Tryz
attribute [local go_sem] Aq As Hf Hg KF
end Go.Eng.Tryz
namespace Go.Eng.Tryz
attribute [local go_sem] Aq As Hf Hg
theorem Tk{a b:List Int}{k:Nat}(hw:a.take k=b.take k)(h1:k<a.length)(h2:k<b.length)(h:a[k]! =b[k]!):a.take (k+1)=b.take (k+1):=by
 rw[List.take_add_one,List.take_add_one,hw,List.getElem?_eq_getElem h1,List.getElem?_eq_getElem h2,← getElem!_pos a k h1,← getElem!_pos b k h2,h]
theorem RT{a b:List Int}(ha:a.length≤9223372036854775807)(hb:b.length≤9223372036854775807):A1 Tryz.prog 149 [.sl 1 (is a),.sl 1 (is b)] (.bool (decide (a=b))):=by
 by_cases hl:a.length=b.length
 ·refine A1.run (N:=26) Tryz.func149 rfl (by kernel_rfl) rfl rfl rfl (by exact An) fun X_ w_=>?_;refine Aw ?_;try exact trivial
  refine A7 (fun k:Nat=>k≤a.length∧a.take k=b.take k) (fun k=>[(0,.d (.sl 1 (is a))),(1,.d (.sl 1 (is b))),(12,.d (.int .i64 a.length)),(13,.d (.int .i64 k))]) (fun _=>[]) 0 (fun k=>a.length-k) [0,1,12,13] [] 0 ⟨Nat.zero_le _,rfl⟩ rfl rfl (Nat.le_refl _) (fun _ _=>rfl) (fun _ _=>rfl) fun k hk=>?_;obtain⟨hk1,hw⟩:=hk;by_cases hk':k<a.length
  ·have hk2:k<b.length:=by omega
   by_cases hc:a[k]! =b[k]!
   ·have e:=Tk hw hk' hk2 hc;refine AI @hc ?_;try exact trivial
    refine⟨k+1,⟨by omega,e⟩,?_,rfl,by omega⟩;simp(disch:=omega)only[go_sem,A2,Int.natCast_add,Int.cast_ofNat_Int]
   ·have e:decide (a=b)=false:=decide_eq_false fun h=>hc (by rw[h]);refine AI @e ?_;try exact trivial
  ·have hk':k=a.length:=by omega
   subst hk';have e:decide (a=b)=true:=decide_eq_true (by rw[List.take_length,hl,List.take_length]at hw;exact hw);refine AI @e ?_;try exact trivial
 ·have e:decide (a=b)=false:=decide_eq_false fun h=>hl (by rw[h]);refine A1.run (N:=26) Tryz.func149 rfl (by kernel_rfl) rfl rfl rfl (by exact An) fun X_ w_=>?_;refine AI @e ?_;try exact trivial
def Mf{α:Type}(p:α→Bool)(l:List α):Int:=if l.any p=true then(l.findIdx p:Nat)else -1
theorem NA{α:Type}(p:α→Bool)(l:List α):decide (0≤Mf p l)=l.any p:=by
 unfold Mf;cases h:l.any p
 ·rw[if_neg (by simp)];simp
 ·rw[if_pos rfl];simp
theorem NB{α:Type}[Inhabited α]{p:α→Bool}{l:List α}{k:Nat}(h:k<l.length)(hk:(l.take k).any p=false)(hb:p (l[k]!)=true):Mf p l=(k:Int):=by
 unfold Mf;rw[getElem!_pos l k h]at hb;rw[if_pos (List.any_eq_true.2 ⟨l[k],List.getElem_mem h,hb⟩)];congr 1;rw[List.findIdx_eq h];refine⟨hb,fun j hj=>?_⟩;have hm:l[j]∈l.take k:=by
  have:(l.take k)[j]? =some l[j]:=by rw[List.getElem?_take,if_pos hj,List.getElem?_eq_getElem (by omega)]
  exact List.mem_of_getElem? this
 cases hp:p l[j]with
 |false=>rfl
 |true =>
  have:=List.any_eq_true.2 ⟨l[j],hm,hp⟩;rw[hk]at this;cases this
theorem Mz{α:Type}[Inhabited α]{p:α→Bool}{l:List α}{k:Nat}(h:k<l.length)(hk:(l.take k).any p=false)(hb:p (l[k]!)=false):(l.take (k+1)).any p=false:=by
 rw[List.take_add_one,List.any_append,List.getElem?_eq_getElem h,hk];rw[getElem!_pos l k h]at hb;simp[hb]
theorem Kh{α:Type}{p:α→Bool}{l:List α}(h:l.any p=false):Mf p l = -1:=by unfold Mf;rw[h];rfl
theorem Sv{p:Int→Bool}{g:Nat}(hp:∀z,A1 Tryz.prog g [.int .i64 z] (.bool (p z))){l:List Int}(hl:l.length≤9223372036854775807):A1 Tryz.prog 205 [.sl 1 (is l),.fn g] (.int .i64 (Mf p l)):=by
 refine A1.run (N:=19) Tryz.func205 rfl (by kernel_rfl) rfl rfl rfl (by exact An) fun X_ w_=>?_;refine Aw ?_;try exact trivial
 refine A7 (fun k:Nat=>k≤l.length∧(l.take k).any p=false) (fun k=>[(0,.d (.sl 1 (is l))),(1,.d (.fn g)),(7,.d (.int .i64 l.length)),(8,.d (.int .i64 k))]) (fun _=>[]) 0 (fun k=>l.length-k) [0,1,7,8] [] 0 ⟨Nat.zero_le _,rfl⟩ rfl rfl (Nat.le_refl _) (fun _ _=>rfl) (fun _ _=>rfl) fun k hk=>?_;obtain⟨hk1,hw⟩:=hk;by_cases hk':k<l.length
 ·have c:=hp (l[k]!);cases hg:p (l[k]!)
  ·have hst:=Mz hk' hw hg;rw[hg]at c;have c0_:=c;refine Aw ?_;try exact trivial
   refine⟨k+1,⟨by omega,hst⟩,?_,rfl,by omega⟩;simp(disch:=omega)only[go_sem,A2,Int.natCast_add,Int.cast_ofNat_Int]
  ·have e:=NB hk' hw hg;rw[hg]at c;have c0_:=c;refine AI @e ?_;try exact trivial
 ·have hkl:k=l.length:=by omega
  subst hkl;rw[List.take_length]at hw;have e:=Kh hw;refine AI @e ?_;try exact trivial
theorem OC{p:Int→Bool}{g:Nat}(hp:∀z,A1 Tryz.prog g [.int .i64 z] (.bool (p z))){l:List Int}(hl:l.length≤9223372036854775807):A1 Tryz.prog 143 [.sl 1 (is l),.fn g] (.bool (l.any p)):=by
 have e:=NA p l;refine A1.run (N:=9) Tryz.func143 rfl (by kernel_rfl) rfl rfl rfl (by exact An) fun X_ w_=>?_;have c0_:=Sv hp hl;refine AI @e ?_;try exact trivial
def Jg(z:Int):Bool:=decide (z=32∨z=9∨z=10)
theorem Lp{z:Int}(h:z=32∨z=9∨z=10):Jg z=true:=decide_eq_true h
theorem NI{z:Int}(h:¬(z=32∨z=9∨z=10)):Jg z=false:=decide_eq_false h
end Go.Eng.Tryz
namespace Go.Eng.Tryz
attribute [local go_sem] Aq As Hf Hg KF
end Go.Eng.Tryz
namespace Go.Eng.Tryz
attribute [local go_sem] Aq As Hf Hg
structure Co where
 more:Int
 less:Int
 other:Int
 turned:Int
 rules:List Ru
deriving DecidableEq
def co(c:Co):D:=.agg [.int .u64 c.more,.int .u64 c.less,.int .u64 c.other,.int .u64 c.turned,.sl 3 (rs c.rules)]
def Co.ok(c:Co):Prop:=U c.more∧U c.less∧U c.other∧U c.turned∧(∀r∈c.rules,r.ok)∧c.rules.length≤9223372036854775807
theorem Ls{α:Type}(p:α→Bool)(l:List α):(l.any fun r => !p r) = !l.all p:=by
 induction l with
 |nil=>rfl
 |cons x l ih=>simp[ih]
end Go.Eng.Tryz
namespace Go.Eng.Tryz
end Go.Eng.Tryz

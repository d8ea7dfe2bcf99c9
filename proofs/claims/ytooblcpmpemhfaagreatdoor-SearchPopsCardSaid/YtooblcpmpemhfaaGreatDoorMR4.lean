/- Costs: what may be written; whether rules may be. (and what stands behind it: texts laid together) -/
import Derived.Test.YtooblcpmpemhfaaGreatDoorMG4
import Derived.Test.YtooblcpmpemhfaaGreatDoorMR3
set_option linter.unusedVariables false
set_option linter.unusedSimpArgs false
open Go Go.Eng Go.Proofs Go.RowKit
set_option maxHeartbeats 32000000
set_option maxRecDepth 100000
namespace Go.Eng.Tryz
attribute [local go_sem] Aq As Ch Cg
theorem d8{a b:List Int}{k:Nat}(hw:a.take k=b.take k)(h1:k<a.length)(h2:k<b.length)(h:a[k]! =b[k]!):a.take (k+1)=b.take (k+1):=by
 rw[List.take_add_one,List.take_add_one,hw,List.getElem?_eq_getElem h1,List.getElem?_eq_getElem h2,← getElem!_pos a k h1,← getElem!_pos b k h2,h]
theorem Ij{a b:List Int}(ha:a.length≤9223372036854775807)(hb:b.length≤9223372036854775807):A3 Tryz.prog 149 [.sl 1 (is a),.sl 1 (is b)] (.bool (decide (a=b))):=by
 by_cases hl:a.length=b.length
 ·refine A6 26 Tryz.func149 Ah fun X_ w_=>?_;refine Ao ?_;try exact trivial
  refine A8 (fun k:Nat=>k≤a.length∧a.take k=b.take k) (fun k=>[(0,.d (.sl 1 (is a))),(1,.d (.sl 1 (is b))),(12,.d (.int .i64 a.length)),(13,.d (.int .i64 k))]) (fun _=>[]) 0 (fun k=>a.length-k) [0,1,12,13] [] 0 ⟨Nat.zero_le _,rfl⟩ rfl rfl (Nat.le_refl _) (fun _ _=>rfl) (fun _ _=>rfl) fun k hk=>?_;obtain⟨hk1,hw⟩:=hk;by_cases hk':k<a.length
  ·have hk2:k<b.length:=by omega
   by_cases hc:a[k]! =b[k]!
   ·have e:=d8 hw hk' hk2 hc;refine Au @hc ?_;try exact trivial
    refine⟨k+1,⟨by omega,e⟩,?_,rfl,by omega⟩;exact Ei
   ·have e:decide (a=b)=false:=decide_eq_false fun h=>hc (by rw[h]);refine Au @e ?_;try exact trivial
  ·have hk':k=a.length:=by omega
   subst hk';have e:decide (a=b)=true:=decide_eq_true (by rw[List.take_length,hl,List.take_length]at hw;exact hw);refine Au @e ?_;try exact trivial
 ·have e:decide (a=b)=false:=decide_eq_false fun h=>hl (by rw[h]);refine A6 26 Tryz.func149 Ah fun X_ w_=>?_;refine Au @e ?_;try exact trivial
def LR{α:Type}(p:α→Bool)(l:List α):Int:=if l.any p=true then(l.findIdx p:Nat)else -1
theorem PP{α:Type}(p:α→Bool)(l:List α):decide (0≤LR p l)=l.any p:=by
 unfold LR;cases h:l.any p
 ·rw[if_neg (by simp)];simp
 ·rw[if_pos rfl];simp
theorem M6{α:Type}[Inhabited α]{p:α→Bool}{l:List α}{k:Nat}(h:k<l.length)(hk:(l.take k).any p=false)(hb:p (l[k]!)=true):LR p l=(k:Int):=by
 unfold LR;rw[getElem!_pos l k h]at hb;rw[if_pos (List.any_eq_true.2 ⟨l[k],List.getElem_mem h,hb⟩)];congr 1;rw[List.findIdx_eq h];refine⟨hb,fun j hj=>?_⟩;have hm:l[j]∈l.take k:=by
  have:(l.take k)[j]? =some l[j]:=by rw[List.getElem?_take,if_pos hj,List.getElem?_eq_getElem (by omega)]
  exact List.mem_of_getElem? this
 cases hp:p l[j]with
 |false=>rfl
 |true =>
  have:=List.any_eq_true.2 ⟨l[j],hm,hp⟩;rw[hk]at this;cases this
theorem JN{α:Type}[Inhabited α]{p:α→Bool}{l:List α}{k:Nat}(h:k<l.length)(hk:(l.take k).any p=false)(hb:p (l[k]!)=false):(l.take (k+1)).any p=false:=by
 rw[List.take_add_one,List.any_append,List.getElem?_eq_getElem h,hk];rw[getElem!_pos l k h]at hb;simp[hb]
theorem GM{α:Type}{p:α→Bool}{l:List α}(h:l.any p=false):LR p l = -1:=by unfold LR;rw[h];rfl
theorem aW{p:Int→Bool}{g:Nat}(hp:∀z,A3 Tryz.prog g [.int .i64 z] (.bool (p z))){l:List Int}(hl:l.length≤9223372036854775807):A3 Tryz.prog 205 [.sl 1 (is l),.fn g] (.int .i64 (LR p l)):=by
 refine A6 19 Tryz.func205 Ah fun X_ w_=>?_;refine Ao ?_;try exact trivial
 refine A8 (fun k:Nat=>k≤l.length∧(l.take k).any p=false) (fun k=>[(0,.d (.sl 1 (is l))),(1,.d (.fn g)),(7,.d (.int .i64 l.length)),(8,.d (.int .i64 k))]) (fun _=>[]) 0 (fun k=>l.length-k) [0,1,7,8] [] 0 ⟨Nat.zero_le _,rfl⟩ rfl rfl (Nat.le_refl _) (fun _ _=>rfl) (fun _ _=>rfl) fun k hk=>?_;obtain⟨hk1,hw⟩:=hk;by_cases hk':k<l.length
 ·have c:=hp (l[k]!);cases hg:p (l[k]!)
  ·have hst:=JN hk' hw hg;rw[hg]at c;have c0_:=c;refine Ao ?_;try exact trivial
   refine⟨k+1,⟨by omega,hst⟩,?_,rfl,by omega⟩;exact Ei
  ·have e:=M6 hk' hw hg;rw[hg]at c;have c0_:=c;refine Au @e ?_;try exact trivial
 ·have hkl:k=l.length:=by omega
  subst hkl;rw[List.take_length]at hw;have e:=GM hw;refine Au @e ?_;try exact trivial
theorem Ou{p:Int→Bool}{g:Nat}(hp:∀z,A3 Tryz.prog g [.int .i64 z] (.bool (p z))){l:List Int}(hl:l.length≤9223372036854775807):A3 Tryz.prog 143 [.sl 1 (is l),.fn g] (.bool (l.any p)):=by
 have e:=PP p l;refine A6 9 Tryz.func143 Ah fun X_ w_=>?_;have c0_:=aW hp hl;refine Au @e ?_;try exact trivial
def HY(z:Int):Bool:=decide (z=32∨z=9∨z=10)
theorem Pm{z:Int}(h:z=32∨z=9∨z=10):HY z=true:=decide_eq_true h
theorem TK{z:Int}(h:¬(z=32∨z=9∨z=10)):HY z=false:=decide_eq_false h
theorem bV{z:Int}:A3 Tryz.prog 208 [.int .i64 z] (.bool (HY z)):=by
 by_cases h1:z=32
 ·have e:=Pm (z:=z) (by omega);refine A6 13 Tryz.func208 A4 fun X_ w_=>?_;refine Au (And.intro @e @h1) ?_;try exact trivial
 by_cases h2:z=9
 ·have e:=Pm (z:=z) (by omega);refine A6 13 Tryz.func208 A4 fun X_ w_=>?_;refine Au (And.intro @e (And.intro @h1 @h2)) ?_;try exact trivial
 by_cases h3:z=10
 ·have e:=Pm (z:=z) (by omega);refine A6 13 Tryz.func208 A4 fun X_ w_=>?_;refine Au (And.intro @e (And.intro @h1 (And.intro @h2 @h3))) ?_;try exact trivial
 ·have e:=TK (z:=z) (by omega);refine A6 13 Tryz.func208 A4 fun X_ w_=>?_;refine Au (And.intro @e (And.intro @h1 (And.intro @h2 @h3))) ?_;try exact trivial
def Fa(l:List Int):Bool := !l.any HY&&decide (l≠[95])
theorem Xr{l:List Int}(hl:l.length≤9223372036854775807):A3 Tryz.prog 152 [.sl 1 (is l)] (.bool (Fa l)):=by
 have c1:=Ou (p:=HY) (g:=208) (fun z=>bV) hl;have c2:A3 Tryz.prog 149 [.sl 1 (is l),.sl 1 [.int .i64 95]] (.bool (decide (l=[95]))):=Ij (b:=[95]) hl (by decide);cases h:l.any HY
 ·rw[h]at c1;by_cases h2:l=[95]
  ·have e:Fa l=false:=by unfold Fa;rw[decide_eq_false (fun hh=>hh h2)];simp
   rw[decide_eq_true h2]at c2;refine A6 14 Tryz.func152 A4 fun X_ w_=>?_;have c0_:=c1;have c1_:=c2;refine Au @e ?_;try exact trivial
  ·have e:Fa l=true:=by unfold Fa;rw[decide_eq_true h2,h];rfl
   rw[decide_eq_false h2]at c2;refine A6 14 Tryz.func152 A4 fun X_ w_=>?_;have c0_:=c1;have c1_:=c2;refine Au @e ?_;try exact trivial
 ·rw[h]at c1;have e:Fa l=false:=by unfold Fa;rw[h];rfl
  refine A6 14 Tryz.func152 A4 fun X_ w_=>?_;have c0_:=c1;have c1_:=c2;refine Au @e ?_;try exact trivial
def Rb(r:Ru):Bool:=JB r&&Fa r.left&&Fa r.right
theorem fh{r:Ru}(hr:r.ok):A3 Tryz.prog 89 [ru r] (.bool (Rb r)):=by
 have c0:=Z3 hr;have c1:=Xr hr.1;have c2:=Xr hr.2.1;have e:Rb r=(JB r&&Fa r.left&&Fa r.right):=rfl;unfold ru at c0 ⊢;cases h0:JB r<;>cases h1:Fa r.left<;>cases h2:Fa r.right<;>rw[h0]at c0<;>rw[h1]at c1<;>rw[h2]at c2<;>simp only[h0,h1,h2,Bool.and_true,Bool.and_false,Bool.false_and]at e;all_goals refine A6 15 Tryz.func89 A4 fun X_ w_=>?_
 all_goals (have c0_:=c0;have c1_:=c1;have c2_:=c2;refine Au @e ?_;try exact trivial)
theorem dT{r:Ru}(hr:r.ok):A3 Tryz.prog 88 [ru r] (.bool (!Rb r)):=by
 have c:=fh hr;unfold ru at c ⊢;refine A6 6 Tryz.func88 A4 fun X_ w_=>?_;have c0_:=c;refine Ao ?_;try exact trivial
theorem aX{l:List Ru}(hok:∀r∈l,r.ok)(hl:l.length≤9223372036854775807):A3 Tryz.prog 153 [.sl 3 (rs l),.fn 88] (.int .i64 (LR (fun r => !Rb r) l)):=by
 refine A6 19 Tryz.func153 Ah fun X_ w_=>?_;refine Ao ?_;try exact trivial
 refine A8 (fun k:Nat=>k≤l.length∧(l.take k).any (fun r => !Rb r)=false) (fun k=>[(0,.d (.sl 3 (rs l))),(1,.d (.fn 88)),(7,.d (.int .i64 l.length)),(8,.d (.int .i64 k))]) (fun _=>[]) 0 (fun k=>l.length-k) [0,1,7,8] [] 0 ⟨Nat.zero_le _,rfl⟩ rfl rfl (Nat.le_refl _) (fun _ _=>rfl) (fun _ _=>rfl) fun k hk=>?_;obtain⟨hk1,hw⟩:=hk;by_cases hk':k<l.length
 ·have c:=dT (Ke hok hk');unfold ru at c;cases hg:Rb (l[k]!)
  ·have e:=M6 (p:=fun r => !Rb r) hk' hw (by simp only[hg];rfl);rw[hg]at c;have c0_:=c;refine Au @e ?_;try exact trivial
  ·have hst:=JN (p:=fun r => !Rb r) hk' hw (by simp only[hg];rfl);rw[hg]at c;have c0_:=c;refine Ao ?_;try exact trivial
   refine⟨k+1,⟨by omega,hst⟩,?_,rfl,by omega⟩;exact Ei
 ·have hkl:k=l.length:=by omega
  subst hkl;rw[List.take_length]at hw;have e:=GM hw;refine Au @e ?_;try exact trivial
theorem UO{l:List Ru}(hok:∀r∈l,r.ok)(hl:l.length≤9223372036854775807):A3 Tryz.prog 92 [.sl 3 (rs l),.fn 88] (.bool (l.any fun r => !Rb r)):=by
 have e:=PP (fun r => !Rb r) l;refine A6 9 Tryz.func92 Ah fun X_ w_=>?_;have c0_:=aX hok hl;refine Au @e ?_;try exact trivial
theorem dU{r s:Ru}(hr:r.ok)(hs:s.ok):A3 Tryz.prog 95 [ru r,ru s] (.bool (decide (r=s))):=by
 have c1:=Ij hr.1 hs.1;have c2:=Ij hr.2.1 hs.2.1;unfold ru;by_cases h1:r.left=s.left
 ·rw[decide_eq_true h1]at c1;by_cases h2:r.right=s.right
  ·rw[decide_eq_true h2]at c2;by_cases h3:r.cost=s.cost
   ·have e:decide (r=s)=true:=decide_eq_true (by cases r;cases s;simp only at h1 h2 h3;rw[h1,h2,h3]);refine A6 24 Tryz.func95 Ah fun X_ w_=>?_;have c0_:=c1;have c1_:=c2;refine Au (And.intro @e @h3) ?_;try exact trivial
   ·have e:decide (r=s)=false:=decide_eq_false (fun h=>h3 (by rw[h]));refine A6 24 Tryz.func95 Ah fun X_ w_=>?_;have c0_:=c1;have c1_:=c2;refine Au (And.intro @e @h3) ?_;try exact trivial
  ·rw[decide_eq_false h2]at c2;have e:decide (r=s)=false:=decide_eq_false (fun h=>h2 (by rw[h]));refine A6 24 Tryz.func95 Ah fun X_ w_=>?_;have c0_:=c1;have c1_:=c2;refine Au @e ?_;try exact trivial
 ·rw[decide_eq_false h1]at c1;have e:decide (r=s)=false:=decide_eq_false (fun h=>h1 (by rw[h]));refine A6 24 Tryz.func95 Ah fun X_ w_=>?_;have c0_:=c1;have c1_:=c2;refine Au @e ?_;try exact trivial
end Go.Eng.Tryz
namespace Go.Eng.Tryz
attribute [local go_sem] Aq As Ch Cg Qh
end Go.Eng.Tryz
namespace Go.Eng.Tryz
attribute [local go_sem] Aq As Ch Cg
theorem dR{a b:List Ru}{k:Nat}(hw:a.take k=b.take k)(h1:k<a.length)(h2:k<b.length)(h:a[k]! =b[k]!):a.take (k+1)=b.take (k+1):=by
 rw[HI h1,HI h2,hw,h]
theorem Zm{a b:List Ru}(ha:∀r∈a,r.ok)(hb:∀r∈b,r.ok)(hla:a.length≤9223372036854775807)(hlb:b.length≤9223372036854775807):A3 Tryz.prog 93 [.sl 3 (rs a),.sl 3 (rs b),.fn 95] (.bool (decide (a=b))):=by
 by_cases hl:a.length=b.length
 ·refine A6 32 Tryz.func93 B6 fun X_ w_=>?_;refine Ao ?_;try exact trivial
  refine A8 (fun k:Nat=>k≤a.length∧a.take k=b.take k) (fun k=>[(1,.d (.sl 3 (rs b))),(2,.d (.fn 95)),(15,.d (.sl 3 (rs a))),(16,.d (.int .i64 a.length)),(17,.d (.int .i64 k))]) (fun _=>[]) 0 (fun k=>a.length-k) [1,2,15,16,17] [] 0 ⟨Nat.zero_le _,rfl⟩ rfl rfl (Nat.le_refl _) (fun _ _=>rfl) (fun _ _=>rfl) fun k hk=>?_;obtain⟨hk1,hw⟩:=hk;by_cases hk':k<a.length
  ·have hk2:k<b.length:=by omega
   have c:=dU (Ke ha hk') (Ke hb hk2);unfold ru at c;by_cases hc:a[k]! =b[k]!
   ·have e:=dR hw hk' hk2 hc;rw[decide_eq_true hc]at c;have c0_:=c;refine Ao ?_;try exact trivial
    refine⟨k+1,⟨by omega,e⟩,?_,rfl,by omega⟩;exact Ei
   ·have e:decide (a=b)=false:=decide_eq_false fun h=>hc (by rw[h]);rw[decide_eq_false hc]at c;have c0_:=c;refine Au @e ?_;try exact trivial
  ·have hk':k=a.length:=by omega
   subst hk';have e:decide (a=b)=true:=decide_eq_true (by rw[List.take_length,hl,List.take_length]at hw;exact hw);refine Au @e ?_;try exact trivial
 ·have e:decide (a=b)=false:=decide_eq_false fun h=>hl (by rw[h]);refine A6 32 Tryz.func93 B6 fun X_ w_=>?_;refine Au @e ?_;try exact trivial
def Tk(l:List Int):Int:=l.foldl max 0
theorem Pa{l:List Int}{k:Nat}(h:k<l.length):Tk (l.take (k+1))=max (Tk (l.take k)) (l[k]!):=by
 unfold Tk;rw[List.take_add_one,List.foldl_append,List.getElem?_eq_getElem h,← getElem!_pos l k h];rfl
theorem KY{a b:Int}:(if a<b then b else a)=max a b:=by split<;>omega
theorem fi{l:List Int}(h0:0<l.length)(hl:l.length≤9223372036854775807)(hU:∀z∈l,0≤z):A3 Tryz.prog 90 [.sl 1 (us l)] (.int .u64 (Tk l)):=by
 have e1:Tk (l.take 1)=l[0]! :=by
  rw[Pa h0];have:0≤l[0]! :=by rw[getElem!_pos l 0 h0];exact hU _ (List.getElem_mem h0)
  show max 0 _=_;omega
 refine A6 25 Tryz.func90 A4 fun X_ w_=>?_;refine Ao ?_;try exact trivial
 refine A8 (fun k:Nat=>1≤k∧k≤l.length) (fun k=>[(0,.d (.sl 1 (us l))),(3,.d (.int .u64 (Tk (l.take k)))),(4,.d (.int .i64 k))]) (fun _=>[]) 0 (fun k=>l.length-k) [0,3,4] [] 1 ⟨Nat.le_refl _,h0⟩ (by rw[e1];rfl) rfl (Nat.le_refl _) (fun _ _=>rfl) (fun _ _=>rfl) fun k hk=>?_;obtain⟨hk0,hk1⟩:=hk;by_cases hk':k<l.length
 ·have hst:=Pa hk';refine Au @KY ?_;try exact trivial
  refine⟨k+1,⟨by omega,by omega⟩,?_,rfl,by omega⟩;exact Sf (And.intro @hst @KY)
 ·have hkl:k=l.length:=by omega
  subst hkl;rw[List.take_length];refine Ao ?_;try exact trivial
structure Co where
 more:Int
 less:Int
 other:Int
 turned:Int
 rules:List Ru
deriving DecidableEq
def co(c:Co):D:=.agg [.int .u64 c.more,.int .u64 c.less,.int .u64 c.other,.int .u64 c.turned,.sl 3 (rs c.rules)]
def Co.ok(c:Co):Prop:=U c.more∧U c.less∧U c.other∧U c.turned∧(∀r∈c.rules,r.ok)∧c.rules.length≤9223372036854775807
def Wi(c:Co):Int:=Tk [c.more,c.less,c.other,c.turned]
def Lq(c:Co):Bool:=decide (Wi c<18446744073709551615)&&decide (c.rules.length≤200)&&c.rules.all Rb&&decide (EY c.rules=c.rules)
theorem JS{c:Co}:Lq c=true↔Wi c<18446744073709551615∧c.rules.length≤200∧c.rules.all Rb=true∧EY c.rules=c.rules:=by
 simp[Lq,Bool.and_eq_true,and_assoc]
theorem TN{c:Co}(h:¬(Wi c<18446744073709551615∧c.rules.length≤200∧c.rules.all Rb=true∧EY c.rules=c.rules)):Lq c=false:=by
 cases hc:Lq c with
 |false=>rfl
 |true=>exact absurd (JS.1 hc) h
theorem LY{α:Type}(p:α→Bool)(l:List α):(l.any fun r => !p r) = !l.all p:=by
 induction l with
 |nil=>rfl
 |cons x l ih=>simp[ih]
theorem c6{c:Co}(hc:c.ok):A3 Tryz.prog 91 [co c] (.sl 1 [.int .u64 c.more,.int .u64 c.less,.int .u64 c.other,.int .u64 c.turned]):=by
 unfold co;refine A6 12 Tryz.func91 A4 fun X_ w_=>?_;refine Ao ?_;try exact trivial
theorem Td{c:Co}(hc:c.ok):A3 Tryz.prog 34 [co c] (.bool (Lq c)):=by
 obtain⟨u1,u2,u3,u4,hr,hl⟩:=hc;have c0:=c6 (c:=c) ⟨u1,u2,u3,u4,hr,hl⟩;have c1:A3 Tryz.prog 90 [.sl 1 [.int .u64 c.more,.int .u64 c.less,.int .u64 c.other,.int .u64 c.turned]] (.int .u64 (Wi c)) :=
  fi (l:=[c.more,c.less,c.other,c.turned]) (by simp) (by simp) (fun z hz=>by simp at hz;rcases hz with rfl|rfl|rfl|rfl;exact u1.1;exact u2.1;exact u3.1;exact u4.1)
 have c2:=UO hr hl;rw[LY]at c2;unfold co at c0 ⊢;by_cases h1:Wi c<18446744073709551615
 ·by_cases h2:c.rules.length≤200
  ·cases h3:c.rules.all Rb
   ·have e:=TN (c:=c) (fun h=>by rw[h.2.2.1]at h3;cases h3);rw[h3]at c2;refine A6 29 Tryz.func34 A4 fun X_ w_=>?_;have c0_:=c0;have c1_:=c1;have c2_:=c2;refine Au @e ?_;try exact trivial
   ·rw[h3]at c2;have c3:=dC hr (by omega);have c4:=Zm (U7 hr) hr (Nat.le_trans (RG _) (by omega)) hl;by_cases h4:EY c.rules=c.rules
    ·have e:=JS.2 ⟨h1,h2,h3,h4⟩;rw[decide_eq_true h4]at c4;refine A6 29 Tryz.func34 A4 fun X_ w_=>?_;have c0_:=c0;have c1_:=c1;have c2_:=c2;have c3_:=c3;have c4_:=c4;refine Au @e ?_;try exact trivial
    ·have e:=TN (c:=c) (fun h=>h4 h.2.2.2);rw[decide_eq_false h4]at c4;refine A6 29 Tryz.func34 A4 fun X_ w_=>?_;have c0_:=c0;have c1_:=c1;have c2_:=c2;have c3_:=c3;have c4_:=c4;refine Au @e ?_;try exact trivial
  ·have e:=TN (c:=c) (fun h=>h2 h.2.1);refine A6 29 Tryz.func34 A4 fun X_ w_=>?_;have c0_:=c0;have c1_:=c1;refine Au @e ?_;try exact trivial
 ·have e:=TN (c:=c) (fun h=>h1 h.1);refine A6 29 Tryz.func34 A4 fun X_ w_=>?_;have c0_:=c0;have c1_:=c1;refine Au @e ?_;try exact trivial
end Go.Eng.Tryz
namespace Go.Eng.Tryz
theorem YH{x:Int}{l:List Int}:is (x::l)= .int .i64 x::is l:=rfl
attribute [local go_sem] Aq As Ch Cg
structure Se where
 eat:Int
 put:List Int
 any:Bool
 cost:Int
deriving DecidableEq
instance:Inhabited Se:=⟨⟨0,[],false,0⟩⟩
def se(s:Se):D:=.agg [.int .i64 s.eat,.sl 1 (is s.put),.bool s.any,.int .u64 s.cost]
def LV(l:List Se):List D:=l.map se
theorem Ef{l:List Se}:(LV l).length=l.length:=by simp[LV]
theorem Ee{l:List Se}{k:Nat}(h:k<l.length):(LV l)[k]? =some (.agg [.int .i64 (l[k]!).eat,.sl 1 (is (l[k]!).put),.bool (l[k]!).any,.int .u64 (l[k]!).cost]):=by
 simp[LV,se,List.getElem?_eq_getElem h,getElem!_pos l k h]
theorem H1{l:List Se}{e p:_}{a:Bool}{c:Int}:LV l++[.agg [.int .i64 e,.sl 1 (is p),.bool a,.int .u64 c]]=LV (l++[⟨e,p,a,c⟩]):=by simp[LV,se]
theorem IU:LV []=[]:=rfl
attribute [local go_sem] Ef Ee H1
theorem L3{l:List Int}(hl:l.length≤1000000):A3 Tryz.prog 109 [.sl 1 (is l)] (.sl 1 (is l)):=by
 cases l with
 |nil =>
  have h1:A3 Tryz.prog 109 [.nils] .nils:=by
   refine A6 8 Tryz.func109 A4 fun X_ w_=>?_;refine Ao ?_;try exact trivial
  have h2:A3 Tryz.prog 109 [.emp 1] (.sl 1 []):=by
   refine A6 8 Tryz.func109 A4 fun X_ w_=>?_;refine Ao ?_;try exact trivial
  exact A3.nil_at (sz:=1) 0 rfl (h1.wk (Is.refl _) (.nil 1)) h2
 |cons x l =>
  simp only[List.length_cons]at hl;refine A6 8 Tryz.func109 A4 fun X_ w_=>?_;refine Au @YH ?_;try exact trivial
def St(Y:Ym)(xs:List Se):Aa:=[(0,.loop Y [(6,.ref 1 0)] .ready),(1,.var [.own 2 xs.length]),(2,.row 223 4 (LV xs))]
def Tu(Y:Ym):Prop:=∀(xs:List Se) (s:Se),xs.length≤1000→s.put.length≤1000000→D7 Tryz.prog [.yld 0,.d (se s)] (St Y xs) (.d (.bool true)) (St Y (xs++[s])) 3
def Si(Y:Ym)(xs:List Se):Aa:=[(0,.var [.yld 1]),(1,.loop Y [(6,.ref 2 0)] .ready),(2,.var [.own 3 xs.length]),(3,.row 223 4 (LV xs))]
theorem RP{Y:Ym}{xs:List Se}{e:Int}{p:D}{a:Bool}{c:Int} :
 Ai Tryz.prog 272 [.d (.bool false),.d (.agg [.int .i64 e,p,.bool a,.int .u64 c]),.ref 0 0] (Si Y xs) (.d (.bool true)) (Si Y xs) 4:=by
 unfold Si;refine Bo 13 [0,1,2,3] Tryz.func272 BS fun X_ ν_ w_=>?_;refine Ao ?_;try exact trivial
theorem fg{Y:Ym}(hy:Tu Y){xs:List Se}{s:Se}(hx:xs.length≤1000)(hs:s.put.length≤1000000) :
 Ai Tryz.prog 272 [.d (.bool true),.d (se s),.ref 0 0] (Si Y xs) (.d (.bool true)) (Si Y (xs++[s])) 4:=by
 have c:=hy xs s hx hs;unfold Si;unfold St at c;unfold se at c ⊢;refine Bo 13 [0,1,2,3] Tryz.func272 BS fun X_ ν_ w_=>?_;have c0_:=c;refine Ao ?_;try exact trivial
end Go.Eng.Tryz

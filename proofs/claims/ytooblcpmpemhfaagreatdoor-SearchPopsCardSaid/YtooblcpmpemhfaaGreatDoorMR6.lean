/- The library's Repeat at one cost. (and what stands behind it: texts laid together) -/
import Derived.Test.YtooblcpmpemhfaaGreatDoorMG4
import Derived.Test.YtooblcpmpemhfaaGreatDoorMR5
import Derived.Test.YtooblcpmpemhfaaGreatDoorMR4
set_option linter.unusedVariables false
set_option linter.unusedSimpArgs false
open Go Go.Eng Go.Proofs Go.RowKit
set_option maxHeartbeats 32000000
set_option maxRecDepth 100000
namespace Go.Eng.Tryz
theorem dc{a b:Int}(ha:U a)(hb:U b):A3 Tryz.prog 120 [.int .u64 a,.int .u64 b] (.tup [.int .u64 (a * b/18446744073709551616),.int .u64 (a * b%18446744073709551616)]):=by
 unfold U at ha hb;have bd:∀x y:Int,0≤x→0≤y→x≤4294967295→y≤4294967295→0≤x * y∧x * y≤18446744065119617025:=fun x y h1 h2 h3 h4 =>
  ⟨Int.mul_nonneg h1 h2,Int.le_trans (Int.mul_le_mul h3 h4 h2 (by decide)) (by decide)⟩
 have b00:=bd (a%4294967296) (b%4294967296) (by omega) (by omega) (by omega) (by omega);have b01:=bd (a%4294967296) (b/4294967296) (by omega) (by omega) (by omega) (by omega);have b10:=bd (a/4294967296) (b%4294967296) (by omega) (by omega) (by omega) (by omega);have b11:=bd (a/4294967296) (b/4294967296) (by omega) (by omega) (by omega) (by omega);have hab:a * b=a/4294967296 * (b/4294967296) * 18446744073709551616+(a/4294967296 * (b%4294967296)+a%4294967296 * (b/4294967296)) * 4294967296+a%4294967296 * (b%4294967296):=by
  have h1:a=a/4294967296 * 4294967296+a%4294967296:=by omega
  have h2:b=b/4294967296 * 4294967296+b%4294967296:=by omega
  generalize a/4294967296=x1 at *;generalize a%4294967296=x0 at *;generalize b/4294967296=y1 at *;generalize b%4294967296=y0 at *;subst h1;subst h2
  grind
 refine A6 51 Tryz.func120 Ah fun X_ w_=>?_;repeat (first|with_reducible exact Ev.nil|with_reducible exact E2|((with_reducible apply Cw);rfl)|((with_reducible apply AJ);rfl)|((with_reducible apply BH);rfl)|with_reducible apply BE|with_reducible apply Bu|with_reducible apply B5|((with_reducible apply DX (N:=51) rfl rfl);(focus simp only[Nat.reduceAdd]<;>rfl))|((with_reducible apply DV (N:=51) mixed rfl rfl);(focus simp only[Nat.reduceAdd]<;>rfl))|((with_reducible apply DU);(focus first|(apply BK;(focus rfl);rfl)|(apply BJ;(focus rfl);(focus rfl);rfl)))|((with_reducible apply Ct);(focus first|(apply BK;(focus rfl);rfl)|(apply BJ;(focus rfl);(focus rfl);rfl)))|with_reducible apply E3|with_reducible apply Cn|with_reducible apply Ck|with_reducible apply Cm|with_reducible apply Cj|((first|(with_reducible apply Cs)|(with_reducible apply By));(focus rfl))|((first|(with_reducible apply Cr)|(with_reducible apply Bx));(focus rfl))|((with_reducible apply D5);(focus simp only[Nat.reduceAdd]<;>rfl);(focus simp(disch:=omega)only[go_sem,↓GH,↓La]<;>rfl))|((first|(with_reducible apply Cp)|(with_reducible apply Cq));(focus simp only[Nat.reduceAdd]<;>rfl);(focus simp(disch:=omega)only[go_sem,↓GH,↓La]<;>rfl);(focus first|(simp(disch:=omega)only[go_sem,↓GH,↓La]<;>rfl)|rfl))|with_reducible apply BA|with_reducible apply BB|with_reducible apply BF|with_reducible apply BG|with_reducible apply B7|with_reducible apply B8|with_reducible apply B9|with_reducible apply Ba rfl|with_reducible apply Bd|with_reducible apply Be|with_reducible apply Bf|with_reducible apply Cu|with_reducible apply Cv|with_reducible apply AG|with_reducible apply B4|with_reducible apply Bz|with_reducible apply AH|with_reducible apply AI|((with_reducible apply DY);(focus first|(simp(disch:=omega)only[go_sem,↓GH,↓La]<;>rfl)|rfl))|((with_reducible apply DW);(focus first|(simp(disch:=omega)only[go_sem,↓GH,↓La]<;>rfl)|rfl))|((with_reducible apply BD);(focus rfl))|((with_reducible apply BC);(focus rfl);(focus rfl))|(with_reducible rfl)|((with_reducible show List.map Ad _=_);simp only[List.map_cons,List.map_nil,Ad,C5];rfl)|((with_reducible show AM _ _=true);kernel_rfl)|((with_reducible show _=_);simp(disch:=omega)only[go_sem,↓GH,↓La]<;>rfl)|((fail_if_success (with_reducible show Ev _ _ _ _ (_::_) _ _ _ _ _));(show Ev _ _ _ _ (_::_) _ _ _ _ _))|fail)
 simp(disch:=omega)only[go_sem,VV];exact cY (by omega) (by omega)
theorem eQ{n:Int}(hn:U n):A3 Tryz.prog 221 [.int .u64 1,.int .u64 n] (.tup [.int .u64 0,.int .u64 n]):=by
 have c:=dc (a:=1) (b:=n) ⟨by decide,by decide⟩ hn;unfold U at hn;have e1:1 * n/18446744073709551616=0:=by omega
 have e2:1 * n%18446744073709551616=n:=by omega
 rw[e1,e2]at c;refine A6 30 Tryz.func221 Ah fun X_ w_=>?_;have c0_:=c;refine Ao ?_;try exact trivial
def VA(x:Int)(m n:Nat):List AV:=List.replicate m (.d (.int .u64 x))++List.replicate (n-m) (.d (.int .u64 0))
theorem Zk{x:Int}{m n:Nat}(h:m≤n):(VA x m n).length=n:=by simp[VA];omega
theorem ME{x:Int}:∀m,BX (List.replicate m (.d (.int .u64 x)))=some (us (List.replicate m x))
 |0=>rfl
 |m+1=>by rw[List.replicate_succ,List.replicate_succ];simp only[BX,ME m];rfl
theorem RS{x:Int}{m n:Nat}:BX (List.take m (VA x m n))=some (us (List.replicate m x)):=by
 rw[VA,List.take_left' (by simp),ME]
theorem Eg{l:List Int}:(us l).all D.flat=true:=by simp[us,D.flat]
theorem cA{x:Int}{m:Nat}:us (List.replicate m x)=List.replicate m (.int .u64 x):=by simp[us]
theorem Xp{x:Int}{m n k:Nat}(h:m≤n)(hk:k=min m (n-m)):Aj (VA x m n) m (List.map AV.d (List.take (n-m) (us (List.replicate m x))))=VA x (m+k) n:=by
 rw[cA,List.take_replicate,List.map_replicate];unfold Aj VA;rw[List.take_left' (by simp),List.length_replicate,List.drop_append];simp only[List.length_replicate,List.drop_replicate];have e1:m-(m+min (n-m) m)=0:=by omega
 have e2:m+min (n-m) m-m=min (n-m) m:=by omega
 have e3:n-m-min (n-m) m=n-(m+k):=by omega
 rw[e1,e2,e3,List.replicate_zero,List.nil_append,List.replicate_append_replicate];congr 2;omega
theorem VC{x:Int}{n:Nat}(h:1≤n):Aj (List.replicate n (.d (.int .u64 0))) 0 (List.map AV.d (List.take n [D.int .u64 x]))=VA x 1 n:=by
 have:List.take n [D.int .u64 x]=[D.int .u64 x]:=List.take_of_length_le (by simpa using h);rw[this];unfold Aj VA;simp[List.drop_replicate]
theorem U1{c:Nat}:∀{l:List AV},(∀a∈l,a.kb c=true)→VY c l=true
 | [],_=>rfl
 |a::l,h=>by simp only[VY,h a (by simp),Bool.true_and];exact U1 fun b hb=>h b (by simp[hb])
theorem VB{x:Int}{m n:Nat}:F8 500003 [(500002,.var (VA x m n))]=true:=by
 have:VY 500003 (VA x m n)=true:=U1 fun a ha=>by
  unfold VA at ha;simp only[List.mem_append,List.mem_replicate]at ha;rcases ha with⟨_,rfl⟩|⟨_,rfl⟩<;>rfl
 simp[F8,IE,this]
theorem Zn{x:Int}{n:Nat}(hx:U x)(h1:1≤n)(h2:n≤1000):A3 Tryz.prog 179 [.sl 1 [.int .u64 x],.int .i64 n] (.sl 1 (us (List.replicate n x))):=by
 have cm:=eQ (n:=n) ⟨by omega,by omega⟩;have ew:IntKind.u64.wrap (n:Int)=n:=H8 (by omega) (by omega);have ew2:IntKind.i64.wrap (n:Int)=n:=wrap_i64 (by omega) (by omega);have e0:=VC (x:=x) h1;have em:min 1 n=1:=by omega
 refine A6 48 Tryz.func179 Ah fun X_ w_=>?_;have c0_:=cm;repeat ((fail_if_success (with_reducible show WP _ _ (.region 6 _ _) _ _));first|with_reducible exact Ev.nil|with_reducible exact E2|((with_reducible apply Cw);rfl)|((with_reducible apply AJ);rfl)|((with_reducible apply BH);rfl)|with_reducible apply BE|with_reducible apply Bu|with_reducible apply B5|((with_reducible apply DX (N:=48) rfl rfl);(focus simp only[Nat.reduceAdd]<;>rfl))|((with_reducible apply DV (N:=48) mixed rfl rfl);(focus simp only[Nat.reduceAdd]<;>rfl))|((with_reducible apply DU);(focus first|(apply BK;(focus rfl);rfl)|(apply BJ;(focus rfl);(focus rfl);rfl)))|((with_reducible apply Ct);(focus first|(apply BK;(focus rfl);rfl)|(apply BJ;(focus rfl);(focus rfl);rfl)))|with_reducible apply E3|with_reducible apply Cn|with_reducible apply Ck|with_reducible apply Cm|with_reducible apply Cj|((first|(with_reducible apply Cs)|(with_reducible apply By));(focus rfl))|((first|(with_reducible apply Cr)|(with_reducible apply Bx));(focus rfl))|(apply EG;(focus simp(disch:=omega)only[go_sem,ew,ew2]<;>rfl);(focus first|exact c0_);(focus rfl);(focus first|(simp(disch:=omega)only[go_sem,ew,ew2]<;>rfl)|rfl))|((with_reducible apply D5);(focus simp only[Nat.reduceAdd]<;>rfl);(focus simp(disch:=omega)only[go_sem,ew,ew2]<;>rfl))|(apply EH;(focus rfl);(focus simp(disch:=omega)only[go_sem,ew,ew2]<;>rfl);(focus first|exact c0_);(iterate 3 (focus first|(simp(disch:=omega)only[go_sem,ew,ew2]<;>rfl)|rfl)))|((first|apply Dc|apply Dd);(focus simp only[Nat.reduceAdd]<;>rfl);(focus rfl);(iterate 2 (focus simp(disch:=omega)only[go_sem,ew,ew2]<;>rfl));(first|((focus first|exact c0_);(iterate 2 (focus first|(simp(disch:=omega)only[go_sem,ew,ew2]<;>rfl)|rfl));(focus rfl);(iterate 3 (focus first|(simp(disch:=omega)only[go_sem,ew,ew2]<;>rfl)|rfl)))))|((first|(with_reducible apply Cp)|(with_reducible apply Cq));(focus simp only[Nat.reduceAdd]<;>rfl);(focus simp(disch:=omega)only[go_sem,ew,ew2]<;>rfl);(focus first|(simp(disch:=omega)only[go_sem,ew,ew2]<;>rfl)|rfl))|with_reducible apply BA|with_reducible apply BB|with_reducible apply BF|with_reducible apply BG|with_reducible apply B7|with_reducible apply B8|with_reducible apply B9|with_reducible apply Ba rfl|with_reducible apply Bd|with_reducible apply Be|with_reducible apply Bf|with_reducible apply Cu|with_reducible apply Cv|with_reducible apply AG|with_reducible apply B4|with_reducible apply Bz|with_reducible apply AH|with_reducible apply AI|((with_reducible apply DY);(focus first|(simp(disch:=omega)only[go_sem,ew,ew2]<;>rfl)|rfl))|((with_reducible apply DW);(focus first|(simp(disch:=omega)only[go_sem,ew,ew2]<;>rfl)|rfl))|((with_reducible apply BD);(focus rfl))|((with_reducible apply BC);(focus rfl);(focus rfl))|(with_reducible rfl)|((with_reducible show List.map Ad _=_);simp only[List.map_cons,List.map_nil,Ad,C5];rfl)|((with_reducible show AM _ _=true);kernel_rfl)|((with_reducible show _=_);simp(disch:=omega)only[go_sem,ew,ew2]<;>rfl)|((fail_if_success (with_reducible show Ev _ _ _ _ (_::_) _ _ _ _ _));(show Ev _ _ _ _ (_::_) _ _ _ _ _))|fail)
 refine Y1 500000 (Nat.le_of_ble_eq_true rfl) ?_;repeat (first|with_reducible exact Ev.nil|with_reducible exact E2|((with_reducible apply Cw);rfl)|((with_reducible apply AJ);rfl)|((with_reducible apply BH);rfl)|with_reducible apply BE|with_reducible apply Bu|with_reducible apply B5|((with_reducible apply DX (N:=48) rfl rfl);(focus simp only[Nat.reduceAdd]<;>rfl))|((with_reducible apply DV (N:=48) mixed rfl rfl);(focus simp only[Nat.reduceAdd]<;>rfl))|((with_reducible apply DU);(focus first|(apply BK;(focus rfl);rfl)|(apply BJ;(focus rfl);(focus rfl);rfl)))|((with_reducible apply Ct);(focus first|(apply BK;(focus rfl);rfl)|(apply BJ;(focus rfl);(focus rfl);rfl)))|with_reducible apply E3|with_reducible apply Cn|with_reducible apply Ck|with_reducible apply Cm|with_reducible apply Cj|((first|(with_reducible apply Cs)|(with_reducible apply By));(focus rfl))|((first|(with_reducible apply Cr)|(with_reducible apply Bx));(focus rfl))|((with_reducible apply D5);(focus simp only[Nat.reduceAdd]<;>rfl);(focus simp(disch:=omega)only[go_sem,ew,ew2,D.flat,em,↓e0,List.length_replicate,Nat.zero_add,Int.cast_ofNat_Int]<;>rfl))|((first|(with_reducible apply Cp)|(with_reducible apply Cq));(focus simp only[Nat.reduceAdd]<;>rfl);(focus simp(disch:=omega)only[go_sem,ew,ew2,D.flat,em,↓e0,List.length_replicate,Nat.zero_add,Int.cast_ofNat_Int]<;>rfl);(focus first|(simp(disch:=omega)only[go_sem,ew,ew2,D.flat,em,↓e0,List.length_replicate,Nat.zero_add,Int.cast_ofNat_Int]<;>rfl)|rfl))|with_reducible apply BA|with_reducible apply BB|with_reducible apply BF|with_reducible apply BG|with_reducible apply B7|with_reducible apply B8|with_reducible apply B9|with_reducible apply Ba rfl|with_reducible apply Bd|with_reducible apply Be|with_reducible apply Bf|with_reducible apply Cu|with_reducible apply Cv|with_reducible apply AG|with_reducible apply B4|with_reducible apply Bz|with_reducible apply AH|with_reducible apply AI|((with_reducible apply DY);(focus first|(simp(disch:=omega)only[go_sem,ew,ew2,D.flat,em,↓e0,List.length_replicate,Nat.zero_add,Int.cast_ofNat_Int]<;>rfl)|rfl))|((with_reducible apply DW);(focus first|(simp(disch:=omega)only[go_sem,ew,ew2,D.flat,em,↓e0,List.length_replicate,Nat.zero_add,Int.cast_ofNat_Int]<;>rfl)|rfl))|((with_reducible apply BD);(focus rfl))|((with_reducible apply BC);(focus rfl);(focus rfl))|(with_reducible rfl)|((with_reducible show List.map Ad _=_);simp only[List.map_cons,List.map_nil,Ad,C5];rfl)|((with_reducible show AM _ _=true);kernel_rfl)|((with_reducible show _=_);simp(disch:=omega)only[go_sem,ew,ew2,D.flat,em,↓e0,List.length_replicate,Nat.zero_add,Int.cast_ofNat_Int]<;>rfl)|((fail_if_success (with_reducible show Ev _ _ _ _ (_::_) _ _ _ _ _));(show Ev _ _ _ _ (_::_) _ _ _ _ _))|fail)
 refine A8 (fun m:Nat=>1≤m∧m≤n) (fun m=>[(7,.vs 500002 0 n),(8,.d (.int .i64 m))]) (fun m=>[(500002,.var (VA x m n))]) 500003 (fun m=>n-m) [7,8] [500002] 1 ⟨Nat.le_refl _,h1⟩ rfl rfl (Nat.zero_le _) (fun _ _=>rfl) (fun _ _=>VB) fun m hm=>?_;obtain⟨hm1,hm2⟩:=hm;by_cases hm':m<n
 ·obtain⟨k,hk⟩:∃k,k=min m (n-m):=⟨_,rfl⟩
  have hst:=Xp (x:=x) hm2 hk;have hl:=Zk (x:=x) hm2;have ht:=RS (x:=x) (m:=m) (n:=n);have hk1:1≤k:=by omega
  have hk2:m+k≤n:=by omega
  repeat (first|with_reducible exact Ev.nil|with_reducible exact E2|((with_reducible apply Cw);rfl)|((with_reducible apply AJ);rfl)|((with_reducible apply BH);rfl)|with_reducible apply BE|with_reducible apply Bu|with_reducible apply B5|((with_reducible apply DX (N:=48) rfl rfl);(focus simp only[Nat.reduceAdd]<;>rfl))|((with_reducible apply DV (N:=48) mixed rfl rfl);(focus simp only[Nat.reduceAdd]<;>rfl))|((with_reducible apply DU);(focus first|(apply BK;(focus rfl);rfl)|(apply BJ;(focus rfl);(focus rfl);rfl)))|((with_reducible apply Ct);(focus first|(apply BK;(focus rfl);rfl)|(apply BJ;(focus rfl);(focus rfl);rfl)))|with_reducible apply E3|with_reducible apply Cn|with_reducible apply Ck|with_reducible apply Cm|with_reducible apply Cj|((first|(with_reducible apply Cs)|(with_reducible apply By));(focus rfl))|((first|(with_reducible apply Cr)|(with_reducible apply Bx));(focus rfl))|((with_reducible apply D5);(focus simp only[Nat.reduceAdd]<;>rfl);(focus simp(disch:=omega)only[go_sem,hl,ht,Eg,Nat.zero_add,Nat.sub_zero,AR,List.length_replicate,↓hst,← hk]<;>rfl))|((first|(with_reducible apply Cp)|(with_reducible apply Cq));(focus simp only[Nat.reduceAdd]<;>rfl);(focus simp(disch:=omega)only[go_sem,hl,ht,Eg,Nat.zero_add,Nat.sub_zero,AR,List.length_replicate,↓hst,← hk]<;>rfl);(focus first|(simp(disch:=omega)only[go_sem,hl,ht,Eg,Nat.zero_add,Nat.sub_zero,AR,List.length_replicate,↓hst,← hk]<;>rfl)|rfl))|with_reducible apply BA|with_reducible apply BB|with_reducible apply BF|with_reducible apply BG|with_reducible apply B7|with_reducible apply B8|with_reducible apply B9|with_reducible apply Ba rfl|with_reducible apply Bd|with_reducible apply Be|with_reducible apply Bf|with_reducible apply Cu|with_reducible apply Cv|with_reducible apply AG|with_reducible apply B4|with_reducible apply Bz|with_reducible apply AH|with_reducible apply AI|((with_reducible apply DY);(focus first|(simp(disch:=omega)only[go_sem,hl,ht,Eg,Nat.zero_add,Nat.sub_zero,AR,List.length_replicate,↓hst,← hk]<;>rfl)|rfl))|((with_reducible apply DW);(focus first|(simp(disch:=omega)only[go_sem,hl,ht,Eg,Nat.zero_add,Nat.sub_zero,AR,List.length_replicate,↓hst,← hk]<;>rfl)|rfl))|((with_reducible apply BD);(focus rfl))|((with_reducible apply BC);(focus rfl);(focus rfl))|(with_reducible rfl)|((with_reducible show List.map Ad _=_);simp only[List.map_cons,List.map_nil,Ad,C5];rfl)|((with_reducible show AM _ _=true);kernel_rfl)|((with_reducible show _=_);simp(disch:=omega)only[go_sem,hl,ht,Eg,Nat.zero_add,Nat.sub_zero,AR,List.length_replicate,↓hst,← hk]<;>rfl)|((fail_if_success (with_reducible show Ev _ _ _ _ (_::_) _ _ _ _ _));(show Ev _ _ _ _ (_::_) _ _ _ _ _))|fail)
  refine⟨m+k,⟨by omega,by omega⟩,?_,?_,by omega⟩
  ·exact Ei
  ·exact GL
 ·have hmn:m=n:=by omega
  subst hmn;have ht:=RS (x:=x) (m:=m) (n:=m);repeat (first|with_reducible exact Ev.nil|with_reducible exact E2|((with_reducible apply Cw);rfl)|((with_reducible apply AJ);rfl)|((with_reducible apply BH);rfl)|with_reducible apply BE|with_reducible apply Bu|with_reducible apply B5|((with_reducible apply DX (N:=48) rfl rfl);(focus simp only[Nat.reduceAdd]<;>rfl))|((with_reducible apply DV (N:=48) mixed rfl rfl);(focus simp only[Nat.reduceAdd]<;>rfl))|((with_reducible apply DU);(focus first|(apply BK;(focus rfl);rfl)|(apply BJ;(focus rfl);(focus rfl);rfl)))|((with_reducible apply Ct);(focus first|(apply BK;(focus rfl);rfl)|(apply BJ;(focus rfl);(focus rfl);rfl)))|with_reducible apply E3|with_reducible apply Cn|with_reducible apply Ck|with_reducible apply Cm|with_reducible apply Cj|((first|(with_reducible apply Cs)|(with_reducible apply By));(focus rfl))|((first|(with_reducible apply Cr)|(with_reducible apply Bx));(focus rfl))|((with_reducible apply D5);(focus simp only[Nat.reduceAdd]<;>rfl);(focus simp(disch:=omega)only[go_sem,ht,AR,List.length_replicate,Nat.zero_add,Nat.sub_zero]<;>rfl))|((first|(with_reducible apply Cp)|(with_reducible apply Cq));(focus simp only[Nat.reduceAdd]<;>rfl);(focus simp(disch:=omega)only[go_sem,ht,AR,List.length_replicate,Nat.zero_add,Nat.sub_zero]<;>rfl);(focus first|(simp(disch:=omega)only[go_sem,ht,AR,List.length_replicate,Nat.zero_add,Nat.sub_zero]<;>rfl)|rfl))|with_reducible apply BA|with_reducible apply BB|with_reducible apply BF|with_reducible apply BG|with_reducible apply B7|with_reducible apply B8|with_reducible apply B9|with_reducible apply Ba rfl|with_reducible apply Bd|with_reducible apply Be|with_reducible apply Bf|with_reducible apply Cu|with_reducible apply Cv|with_reducible apply AG|with_reducible apply B4|with_reducible apply Bz|with_reducible apply AH|with_reducible apply AI|((with_reducible apply DY);(focus first|(simp(disch:=omega)only[go_sem,ht,AR,List.length_replicate,Nat.zero_add,Nat.sub_zero]<;>rfl)|rfl))|((with_reducible apply DW);(focus first|(simp(disch:=omega)only[go_sem,ht,AR,List.length_replicate,Nat.zero_add,Nat.sub_zero]<;>rfl)|rfl))|((with_reducible apply BD);(focus rfl))|((with_reducible apply BC);(focus rfl);(focus rfl))|(with_reducible rfl)|((with_reducible show List.map Ad _=_);simp only[List.map_cons,List.map_nil,Ad,C5];rfl)|((with_reducible show AM _ _=true);kernel_rfl)|((with_reducible show _=_);simp(disch:=omega)only[go_sem,ht,AR,List.length_replicate,Nat.zero_add,Nat.sub_zero]<;>rfl)|((fail_if_success (with_reducible show Ev _ _ _ _ (_::_) _ _ _ _ _));(show Ev _ _ _ _ (_::_) _ _ _ _ _))|fail)
def C6(s:Se)(w:List Int)(j:Nat):Option Nat :=
 if s.any=true then(if j<w.length then some 1 else none)
 else if(w.drop j).take s.put.length=s.put then some s.put.length else none
theorem Ka{s:Se}{w:List Int}{j n:Nat}(hj:j≤w.length)(h:C6 s w j=some n):j+n≤w.length:=by
 unfold C6 at h;split at h
 ·split at h
  ·cases h;omega
  ·cases h
 ·split at h
  ·rename_i h1;cases h;have:=congrArg List.length h1;simp only[List.length_take,List.length_drop]at this;omega
  ·cases h
def Ap(t:List (List Int))(i j:Nat):Int:=(t[i]!)[j]!
def FM(t:List (List Int))(i j:Nat)(v:Int):List (List Int):=t.set i ((t[i]!).set j v)
def Ll(t:List (List Int))(n m:Nat):Prop:=t.length=n∧∀i,i<n→(t[i]!).length=m
theorem Eb{α:Type}[Inhabited α]{l:List α}{i j:Nat}{v:α}(h:i<l.length):(l.set i v)[j]! =if j=i then v else l[j]! :=by
 simp only[List.getElem!_eq_getElem?_getD,List.getElem?_set];by_cases e:j=i
 ·subst e;simp[h]
 ·rw[if_neg (fun x=>e x.symm),if_neg e]
theorem Ll.set{t:List (List Int)}{n m i j:Nat}{v:Int}(h:Ll t n m)(hi:i<n):Ll (FM t i j v) n m:=by
 obtain⟨h1,h2⟩:=h;refine⟨by simp[FM,h1],fun a ha=>?_⟩;unfold FM;rw[Eb (by omega)];split
 ·rename_i e;subst e;rw[List.length_set];exact h2 a ha
 ·exact h2 a ha
theorem Rk{t:List (List Int)}{n m i j a b:Nat}{v:Int}(h:Ll t n m)(hi:i<n)(hj:j<m):Ap (FM t i j v) a b=if a=i∧b=j then v else Ap t a b:=by
 unfold Ap FM;rw[Eb (by rw[h.1];exact hi)];by_cases e:a=i
 ·subst e;rw[if_pos rfl,Eb (by rw[h.2 _ hi];exact hj)];by_cases e2:b=j
  ·subst e2;simp
  ·rw[if_neg e2,if_neg (fun x=>e2 x.2)]
 ·rw[if_neg e,if_neg (fun x=>e x.1)]
def FJ(w:List Int)(i j:Nat)(t:List (List Int))(s:Se):List (List Int) :=
 match C6 s w j with
 |some n=>FM t (i+s.eat.toNat) (j+n) (min (Ap t (i+s.eat.toNat) (j+n)) (BM (Ap t i j) s.cost))
 |none=>t
def Km(all:List (List Se))(w:List Int)(i j k:Nat)(t:List (List Int)):List (List Int):=((all[i]!).take k).foldl (FJ w i j) t
def HV(all:List (List Se))(w:List Int)(i j:Nat)(t:List (List Int)):List (List Int):=(List.range j).foldl (fun t j=>(all[i]!).foldl (FJ w i j) t) t
def XE(n m:Nat):List (List Int):=FM (List.replicate n (List.replicate m 18446744073709551615)) 0 0 0
def GD(all:List (List Se))(w:List Int)(i:Nat):List (List Int):=(List.range i).foldl (fun t i=>HV all w i (w.length+1) t) (XE all.length (w.length+1))
def Qv(all:List (List Se))(w:List Int):List (List Int):=GD all w all.length
theorem P4(all:List (List Se))(w:List Int)(i:Nat):GD all w (i+1)=HV all w i (w.length+1) (GD all w i):=by simp[GD,List.range_succ]
theorem Lg(all:List (List Se))(w:List Int)(i j:Nat)(t:List (List Int)):HV all w i (j+1) t=Km all w i j (all[i]!).length (HV all w i j t):=by simp[HV,Km,List.range_succ]
theorem P7{all:List (List Se)}{w:List Int}{i j k:Nat}{t:List (List Int)}(h:k<(all[i]!).length):Km all w i j (k+1) t=FJ w i j (Km all w i j k t) ((all[i]!)[k]!):=by
 unfold Km;rw[List.take_add_one,List.foldl_append,List.getElem?_eq_getElem h,getElem!_pos (all[i]!) k h];rfl
def GG(all:List (List Se))(w:List Int):Prop:=∀i,i<all.length→∀s∈all[i]!,0≤s.eat∧i+s.eat.toNat<all.length∧U s.cost∧∀j n,C6 s w j=some n→0<s.eat.toNat+n
inductive NU(all:List (List Se))(w:List Int):Nat→Nat→Int→Prop where
 |zero:NU all w 0 0 0
 |step {i j n:Nat} {v:Int} {s:Se} (h:NU all w i j v) (hs:s∈all[i]!) (hi:i<all.length) (hn:C6 s w j=some n):NU all w (i+s.eat.toNat) (j+n) (v+s.cost)
def Qw(all:List (List Se))(w:List Int)(t:List (List Int))(i j:Nat)(s:Se):Prop:=∀n,C6 s w j=some n→Ap t (i+s.eat.toNat) (j+n)≤BM (Ap t i j) s.cost
def XX(a b i j:Nat):Prop:=a<i∨a=i∧b<j
structure Good(all:List (List Se))(w:List Int)(t:List (List Int)):Prop where
 shape:Ll t all.length (w.length+1)
 zero:Ap t 0 0≤0
 u:∀a b,a<all.length→b<w.length+1→U (Ap t a b)
 way:∀a b,a<all.length→b<w.length+1→Ap t a b=18446744073709551615∨NU all w a b (Ap t a b)
theorem T4{all:List (List Se)}{w:List Int}{i j:Nat}{t:List (List Int)}{s:Se}(hS:GG all w)(hi:i<all.length)(hj:j<w.length+1)(hs:s∈all[i]!)(h:Good all w t) :
 Good all w (FJ w i j t s)∧(∀a b,XX a b i j∨a=i∧b=j→Ap (FJ w i j t s) a b=Ap t a b)∧(∀a b,Ap (FJ w i j t s) a b≤Ap t a b)∧Qw all w (FJ w i j t s) i j s:=by
 obtain⟨he,hlt,hc,hpos⟩:=hS i hi s hs;unfold FJ;cases hp:C6 s w j with
 |none=>exact⟨h,fun _ _ _=>rfl,fun _ _=>Int.le_refl _,fun n hn=>by rw[hp]at hn;cases hn⟩
 |some n =>
  have hle:=Ka (by omega) hp;have hj2:j+n<w.length+1:=by omega
  have hps:=hpos j n hp;have hu1:=h.u i j hi hj;have hu2:=h.u (i+s.eat.toNat) (j+n) hlt hj2;have hg:=fun a b=>Rk (a:=a) (b:=b) (v:=min (Ap t (i+s.eat.toNat) (j+n)) (BM (Ap t i j) s.cost)) h.shape hlt hj2;have hle2:∀a b,Ap (FM t (i+s.eat.toNat) (j+n) (min (Ap t (i+s.eat.toNat) (j+n)) (BM (Ap t i j) s.cost))) a b≤Ap t a b:=fun a b=>by
   rw[hg];split
   ·rename_i e;obtain⟨rfl,rfl⟩:=e;exact Int.min_le_left _ _
   ·exact Int.le_refl _
  have hkeep:∀a b,XX a b i j∨a=i∧b=j→Ap (FM t (i+s.eat.toNat) (j+n) (min (Ap t (i+s.eat.toNat) (j+n)) (BM (Ap t i j) s.cost))) a b=Ap t a b:=fun a b hab=>by
   rw[hg,if_neg];rintro⟨rfl,rfl⟩;unfold XX at hab;omega
  refine⟨⟨h.shape.set hlt,Int.le_trans (hle2 0 0) h.zero,fun a b ha hb=>?_,fun a b ha hb=>?_⟩,hkeep,hle2,fun n' hn'=>?_⟩
  ·rw[hg];split
   ·have:=Gt hu1 hc;unfold U at *;omega
   ·exact h.u a b ha hb
  ·rw[hg];split
   ·rename_i e;obtain⟨rfl,rfl⟩:=e;by_cases hm:Ap t (i+s.eat.toNat) (j+n)≤BM (Ap t i j) s.cost
    ·rw[Int.min_eq_left hm];exact h.way _ _ ha hb
    ·rw[Int.min_eq_right (by omega)];by_cases hc2:BM (Ap t i j) s.cost=18446744073709551615
     ·exact .inl hc2
     ·right;have hadd:BM (Ap t i j) s.cost=Ap t i j+s.cost:=by unfold BM at hc2 ⊢;split<;>simp_all
      rw[hadd];rcases h.way i j hi hj with h1|h1
      ·exfalso;rw[h1]at hadd hc2;unfold BM U at *;omega
      ·exact h1.step hs hi hp
   ·exact h.way a b ha hb
  ·rw[hp]at hn';cases hn';rw[hkeep i j (.inr ⟨rfl,rfl⟩),hg,if_pos ⟨rfl,rfl⟩];exact Int.min_le_right _ _
structure Uz(all:List (List Se))(w:List Int)(t:List (List Int))(i j:Nat):Prop where
 good:Good all w t
 edge:∀a b,XX a b i j→a<all.length→b<w.length+1→∀s∈all[a]!,Qw all w t a b s
theorem P6{all:List (List Se)}{w:List Int}{i j:Nat}{t:List (List Int)}(hS:GG all w)(hi:i<all.length)(hj:j<w.length+1)(h:Uz all w t i j):∀k,k≤(all[i]!).length →
 Uz all w (Km all w i j k t) i j∧∀m,m<k→Qw all w (Km all w i j k t) i j ((all[i]!)[m]!):=by
 intro k;induction k with
 |zero=>intro _;exact⟨by simpa[Km]using h,fun m hm=>by omega⟩
 |succ k ih =>
  intro hk;obtain⟨h1,h2⟩:=ih (by omega);rw[P7 (by omega)];have hmem:(all[i]!)[k]!∈all[i]! :=by rw[getElem!_pos (all[i]!) k (by omega)];exact List.getElem_mem _
  obtain⟨r1,r2,r3,r4⟩:=T4 hS hi hj hmem h1.good;have mono:∀a b s,(XX a b i j∨a=i∧b=j)→Qw all w (Km all w i j k t) a b s→Qw all w (FJ w i j (Km all w i j k t) ((all[i]!)[k]!)) a b s:=fun a b s hl he n hn=>by
   rw[r2 a b hl];exact Int.le_trans (r3 _ _) (he n hn)
  refine⟨⟨r1,fun a b hl ha hb s hs=>mono a b s (.inl hl) (h1.edge a b hl ha hb s hs)⟩,fun m hm=>?_⟩;by_cases e:m=k
  ·subst e;exact r4
  ·exact mono i j _ (.inr ⟨rfl,rfl⟩) (h2 m (by omega))
theorem P5{all:List (List Se)}{w:List Int}{i:Nat}{t:List (List Int)}(hS:GG all w)(hi:i<all.length)(h:Uz all w t i 0):∀j,j≤w.length+1→Uz all w (HV all w i j t) i j:=by
 intro j;induction j with
 |zero=>intro _;simpa[HV]using h
 |succ j ih =>
  intro hj;rw[Lg];obtain⟨h1,h2⟩:=P6 hS hi (by omega) (ih (by omega)) (all[i]!).length (Nat.le_refl _);refine⟨h1.good,fun a b hl ha hb s hs=>?_⟩;by_cases e:a=i∧b=j
  ·obtain⟨rfl,rfl⟩:=e;obtain⟨m,hm,rfl⟩:=List.mem_iff_getElem.1 hs;have:=h2 m hm
   rwa [getElem!_pos (all[a]!) m hm]at this
  ·exact h1.edge a b (by unfold XX at *;omega) ha hb s hs
theorem V2{n m:Nat}(hn:0<n)(hm:0<m)(a b:Nat)(ha:a<n)(hb:b<m):Ap (XE n m) a b=if a=0∧b=0 then 0 else 18446744073709551615:=by
 have hs:Ll (List.replicate n (List.replicate m (18446744073709551615:Int))) n m:=⟨by simp,fun i hi=>by simp[List.getElem!_eq_getElem?_getD,List.getElem?_replicate,hi]⟩
 unfold XE;rw[Rk hs hn hm];split
 ·rfl
 ·simp[Ap,List.getElem!_eq_getElem?_getD,List.getElem?_replicate,ha,hb]
theorem Ti{n m:Nat}(hn:0<n):Ll (XE n m) n m:=by
 have hs:Ll (List.replicate n (List.replicate m (18446744073709551615:Int))) n m:=⟨by simp,fun i hi=>by simp[List.getElem!_eq_getElem?_getD,List.getElem?_replicate,hi]⟩
 exact hs.set hn
theorem IX{all:List (List Se)}{w:List Int}(hS:GG all w)(hn:0<all.length):∀i,i≤all.length→Uz all w (GD all w i) i 0:=by
 intro i;induction i with
 |zero =>
  intro _;have hg:=V2 (n:=all.length) (m:=w.length+1) hn (by omega);refine⟨⟨by simpa[GD]using Ti hn,?_,fun a b ha hb=>?_,fun a b ha hb=>?_⟩,fun a b hl=>by unfold XX at hl;omega⟩
  ·simp only[GD,List.range_zero,List.foldl_nil];rw[hg 0 0 hn (by omega),if_pos ⟨rfl,rfl⟩];decide
  ·simp only[GD,List.range_zero,List.foldl_nil];rw[hg a b ha hb];split<;>exact⟨by decide,by decide⟩
  ·simp only[GD,List.range_zero,List.foldl_nil];rw[hg a b ha hb];split
   ·rename_i e;obtain⟨rfl,rfl⟩:=e;exact .inr .zero
   ·exact .inl rfl
 |succ i ih =>
  intro hi;rw[P4];have h:=P5 hS (by omega) (ih (by omega)) (w.length+1) (Nat.le_refl _);exact⟨h.good,fun a b hl ha hb s hs=>h.edge a b (by unfold XX at *;omega) ha hb s hs⟩
theorem H3{all:List (List Se)}{w:List Int}(hS:GG all w)(hn:0<all.length):Good all w (Qv all w):=(IX hS hn _ (Nat.le_refl _)).good
theorem XL{all:List (List Se)}{w:List Int}{i j:Nat}{v:Int}(h:NU all w i j v):j≤w.length:=by
 induction h with
 |zero=>exact Nat.zero_le _
 |step h hs hi hn ih=>exact Ka ih hn
theorem XG{all:List (List Se)}{w:List Int}(hS:GG all w)(hn:0<all.length){i j:Nat}{v:Int}(h:NU all w i j v):Ap (Qv all w) i j≤v:=by
 have hd:=IX hS hn _ (Nat.le_refl _);induction h with
 |zero=>exact hd.good.zero
 |step h hs hi hp ih =>
  rename_i i j n v s;have hj:=XL h;have he:=hd.edge i j (by unfold XX;omega) hi (by omega) s hs n hp;have hu:=hd.good.u i j hi (by omega);have hc:=(hS i hi s hs).2.2.1;refine Int.le_trans he ?_;change Ap (Qv all w) i j≤v at ih;change BM (Ap (Qv all w) i j) s.cost≤_;unfold BM;split<;>omega
attribute [local go_sem] DZ ac ZS NB frz frzs List.set_cons_zero List.set_cons_succ List.zip_cons_cons List.zip_nil_right List.foldl_cons List.foldl_nil D.flat NS AV.rn HO.rn AV.ks J4 HO.ks sg Es Nq EZ C0 fresh List.filter Rf Ft opnd lk J5 Qt GR MN DA Ie Gk Le SE G1 Vg bh Gh Hu Hv Hr JZ BY Cy BU Nd CX CW E8 CN HM Jt EP Dy Fu EQ Fl Fv Dz XT XS Fi Dp CV ZU ZT Tb.inn Tb.ilen Tb.nilAt Tb.ini D.put FZ Ej Gu CC ML F6 E9 Ea Fk Fj BX AV.kb Aj List.getLast?_append RQ GY Oe Kc AC List.replicate_zero List.take_length ofInt MQ Jb Ja Js OD Eu Et Cz FN Pf Qd Aj D.comps AV.comps AV.sto D.cell D.rebuild Ed Fh DM put EF BO gd G2 Nh Option.map_some Option.map_none Option.bind_some Option.isSome_some List.map_cons List.map_nil List.append_nil List.nil_append List.cons_append List.length_cons List.length_nil List.length_map List.length_append List.take_zero List.take_succ_cons List.take_nil List.drop_zero List.drop_succ_cons List.drop_nil List.getElem?_cons_zero List.getElem?_cons_succ List.getElem?_map List.all_cons List.all_nil List.mem_cons List.not_mem_nil List.elem_cons List.elem_nil Bool.and_true Bool.true_and Bool.and_self Bool.not_true Bool.not_false Bool.or_true Bool.or_false and_self and_true true_and or_false false_or or_true true_or not_false_eq_true not_true_eq_false if_true if_false decide_true decide_false decide_eq_true_eq Int.toNat_natCast Int.toNat_zero beq_self_eq_true bne_self_eq_false Bool.false_eq_true Nat.add_zero Nat.zero_add JC YM YO Yv YN YP WG XR TC TB SR Ya PV Mm Mn AR NP wrap_i64 H8 PA M5 Pz M4 TH TF TM TL PS gt_iff_lt ge_iff_le
attribute [local go_sem ↓] U4 reduceIte
attribute [local go_sem] reduceCtorEq Nat.reduceEqDiff Nat.reduceAdd Nat.reduceSub Nat.reduceMul Nat.reduceLeDiff Nat.reduceLT Nat.reduceBEq Nat.reduceBNe Int.reduceToNat Int.reduceLT Int.reduceLE Int.reduceEq Int.reduceAdd Int.reduceSub Int.reduceNeg Int.reduceBEq Int.reduceBNe
end Go.Eng.Tryz
namespace Go.Eng.Tryz
end Go.Eng.Tryz

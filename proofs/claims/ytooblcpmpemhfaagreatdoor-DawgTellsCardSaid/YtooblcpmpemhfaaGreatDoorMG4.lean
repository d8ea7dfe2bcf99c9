/- The engine, part 18: own rows from nil, data from own rows. (and what stands behind it: texts laid together) -/
import Derived.Test.YtooblcpmpemhfaaGreatDoorMG3
import Derived.WalkKit
import Derived.ProofKit
import Derived.OpenShut
import Derived.ShutString
import Derived.ChangeOld
import Derived.Below
import Derived.SizedLaws
import Derived.ChangeBears
import Derived.DataReads
import Derived.Carry
import Derived.Sort.Grow
import Derived.Sort.Statements
set_option linter.unusedVariables false
set_option linter.unusedSimpArgs false
set_option maxHeartbeats 32000000
set_option maxRecDepth 100000
namespace Go.Eng
open Go.RowKit
section
variable {P:Program} {S:Sp} {Q:Exit→St→Prop}
theorem F4.own{E:Bf}{hp:A8}{c:Nat}{a:Act}{w:World}(h:F4 S ⟨E,hp,c⟩ a w)(n k e sz:Nat)(hl:lk E n=some (.d .nils))(hz:0<sz)(hk:c≤k):F4 S ⟨(n,.own k 0)::E,put hp k (.row e sz []),k+1⟩ a w:=by
 obtain⟨hle,ν,hI,hx⟩:=h;simp only at hI hx hle;have hv:a.tmps.getD n undef= .slice none 0 0:=by
  have:=hI.env n _ hl;generalize a.tmps.getD n undef=u at this;cases this with
  |d h=>cases h;rfl
 have x1:=BB.fresh (M0:=S.X.M0) (hp:=hp) (ν:=ν) (used:=(·< c)) (w:=w) (w':=w) (k:=k) (.row e sz []) (.slice none 0 0) (by omega) (Nat.le_refl _) (fun _ _=>rfl) (fun b hb=>by simp[Au,Aa]at hb) hI.heap.usd;have i1:=hI.heap.step (k:=k) (o:=.row e sz []) (v:=.slice none 0 0) (Bl.refl _ _) x1 (.inr rfl) (fun b hb=>by simp[Au,Aa]at hb) (fun q o' b _ hq hb=>rfl)
  ⟨[],⟨by simp,.inl ⟨rfl,rfl⟩⟩,hz,fun x hx=>by simp at hx,fun i x j d hx=>by simp at hx⟩
 have hu:∀q,(q<c∨q=k)→q<k+1:=fun q hq=>by omega
 have i2:=i1.used_mono hu (fun q _ hn=>by
  cases ho:lk (put hp k (.row e sz [])) q with
  |none=>rfl
  |some o=>exact absurd (i1.usd _ _ ho) hn)
 have x2:BB (Ag S.X.M0 (lk (put hp k (.row e sz []))) (upd ν k (.slice none 0 0))) (lk (put hp k (.row e sz []))) (upd ν k (.slice none 0 0)) (fun q=>q<c∨q=k) w (Ag S.X.M0 (lk (put hp k (.row e sz []))) (upd ν k (.slice none 0 0))) (lk (put hp k (.row e sz []))) (upd ν k (.slice none 0 0)) (·< k+1) w :=
  ⟨AJ.refl _ _,fun _ _ h=>h,hu,fun q _ o ho=>⟨o,ho,HO.later.refl _,HO.keeps_of⟩,AJ.refl _ _,fun _ _ h=>h⟩
 refine⟨by show S.R.c≤k+1;omega,_,⟨i2,fun m av hm=>?_,hI.size,(hI.defers.mono x1.same x1.shrink).mono x2.same x2.shrink⟩,hx.trans (x1.trans x2)⟩;simp only[lk]at hm;split at hm
 ·rename_i em;subst em;cases hm;rw[hv];refine .own (by show k<k+1;omega) rfl ⟨Nat.le_refl _,Nat.zero_le _⟩ (fun _=>⟨rfl,rfl⟩) fun o ho=>?_;rw[A9]at ho;cases ho;exact⟨_,_,_,rfl,Nat.le_refl _,fun _=>by rw[A6]⟩
 ·exact(hI.env m av hm).ext (x1.trans x2)
theorem DJ{code:Code}{E:Bf}{hp:A8}{c:Nat}(n k e sz:Nat)(hl:lk E n=some (.d .nils))(hz:0<sz)(hk:c≤k)(h:WP P S code ⟨(n,.own k 0)::E,put hp k (.row e sz []),k+1⟩ Q):WP P S code ⟨E,hp,c⟩ Q :=
 fun a w hr=>h a w (hr.own n k e sz hl hz hk)
theorem F4.dat{E:Bf}{hp:A8}{c:Nat}{a:Act}{w:World}(h:F4 S ⟨E,hp,c⟩ a w)(n:Nat){av:AV}{d:D}{ks:List Nat}(hl:lk E n=some av)(hd:Bj (lk hp) av=some (d,ks)):F4 S ⟨(n,.d d)::E,Bk hp ks,c⟩ a w:=by
 obtain⟨hle,ν,hI,hx⟩:=h;obtain⟨i1,x1⟩:=hI.heap.drops ks;refine⟨hle,ν,⟨i1,fun m av' hm=>?_,hI.size,hI.defers.mono x1.same x1.shrink⟩,hx.trans x1⟩;simp only[lk]at hm;split at hm
 ·rename_i em;subst em;cases hm;exact .d (BU hI.heap (hI.env n av hl) hd)
 ·exact(hI.env m av' hm).ext x1
theorem SM{code:Code}{E:Bf}{hp:A8}{c:Nat}(n:Nat){av:AV}{d:D}{ks:List Nat}(hl:lk E n=some av)(hd:Bj (lk hp) av=some (d,ks))(h:WP P S code ⟨(n,.d d)::E,Bk hp ks,c⟩ Q):WP P S code ⟨E,hp,c⟩ Q :=
 fun a w hr=>h a w (hr.dat n hl hd)
end
end Go.Eng
namespace Go.Eng
open Go.ChangeShapes Go.WideShapes Go.ChangeAt Go.RowKit
theorem OP{n:Int}(h:(Lit.int .i64 n).wf=true) : -9223372036854775808≤n∧n≤9223372036854775807:=by
 simp only[Lit.wf,Bool.and_eq_true,decide_eq_true_eq]at h;exact h
end Go.Eng
namespace Go.Eng
open Go.RowKit
def MU(P:Program)(s:St)(rs:List ResultVar):Option AV :=
 match EX P s rs with
 |some xs=>match xs with| [x]=>some x|xs=>some (.tup xs)
 |none=>none
def SC(P:Program)(rs:List ResultVar)(r:AV)(hp':A8)(ks:List Nat):Exit→St→Prop:=fun e s=>(e= .normal∨e= .ret)∧MU P s rs=some r∧A2 s.hp ks=hp'
def G5(az:List AV):Bf:=(az.zipIdx).map fun p=>(p.2,p.1)
theorem Pw{az:List AV}{n:Nat}{av:AV}(h:lk (G5 az) n=some av):az[n]? =some av:=by
 have gen:∀(az:List AV) (k:Nat),lk ((az.zipIdx k).map fun p=>(p.2,p.1)) n=some av→k≤n∧az[n-k]? =some av:=by
  intro az;induction az with
  |nil=>intro k hh;simp[lk]at hh
  |cons d ds ih =>
   intro k hh;simp only[List.zipIdx_cons,List.map_cons,lk]at hh;by_cases e:k=n
   ·rw[if_pos e]at hh;simp at hh;exact⟨by omega,by rw[e];simp[hh]⟩
   ·rw[if_neg e]at hh;obtain⟨h1,h2⟩:=ih (k+1) hh;refine⟨by omega,?_⟩;rw[show n-k=(n-(k+1))+1 from by omega];simpa using h2
 simpa using(gen az 0 h).2
theorem Tz:G5 []=[]:=rfl
theorem Rn{a:AV}:G5 [a]=[(0,a)]:=rfl
theorem Bb{a b:AV}:G5 [a,b]=[(0,a),(1,b)]:=rfl
theorem DU{a b c:AV}:G5 [a,b,c]=[(0,a),(1,b),(2,c)]:=rfl
theorem FK{a b c d:AV}:G5 [a,b,c,d]=[(0,a),(1,b),(2,c),(3,d)]:=rfl
theorem Ec{P:Program}{rs:List ResultVar}{r:AV}{hp':A8}{ks:List Nat}{s:St}(h:MU P s rs=some r)(h2:A2 s.hp ks=hp'):SC P rs r hp' ks .normal s:=⟨.inl rfl,h,h2⟩
theorem Eb{P:Program}{rs:List ResultVar}{r:AV}{hp':A8}{ks:List Nat}{s:St}(h:MU P s rs=some r)(h2:A2 s.hp ks=hp'):SC P rs r hp' ks .ret s:=⟨.inr rfl,h,h2⟩
def Ul(X:C6)(N:Nat)(hp:A8)(ν:Nat→Value)(n:Nat)(w:World):Sp:=⟨X,N,⟨Ag X.M0 (lk hp) ν,lk hp,ν,n,w⟩,none⟩
section
variable {P:Program}
theorem Ac.run {g : FuncId} {fn : Func} {code : Code} {rs : List ResultVar} {az : List AV} {hp hp' : A8} {r : AV} {n N : Nat} {ks : List Nat} {E : Bf} (hf : P.funcs[g]? = some fn) (hb : fn.body = some code) (hn : (fn.name == "runtime.NumGoroutine") = false) (hrs : fn.results = rs.toArray) (hN : fn.ntmps = N) (hnt : Nat.ble az.length N = true) (hE : G5 az = E)
 (h:∀X ν w,WP P (Ul X N hp ν n w) code ⟨E,hp,n⟩ (SC P rs r hp' ks)):Ac P g az hp r hp' n:=by
 subst hE;subst hN;intro X ν w vs hI hl hv;have hnt':=Nat.le_of_ble_eq_true hnt;refine⟨?_,?_⟩
 · have hn' : ¬ fn.name = "runtime.NumGoroutine" := by simpa using hn
   simp[callFunc,hf,hn',hb]
 ·refine callsIn_wide.1 (callsIn_of_wp_marks (F:=Fence.wide) (n:=0) hf hb trivial ?_);have hE:Cj (X.at w.heap.size) fn.ntmps (G5 az) (lk hp) ν (·< n) { tmps:=vs.toArray++Array.replicate (fn.ntmps-vs.toArray.size) undef,defers:=[] } w:=by
   refine⟨hI.at _,fun m av hm=>?_,by simp;omega,Nat.le_refl _,trivial⟩;have hd:=Pw hm;have hlt:=(List.getElem?_eq_some_iff.1 hd).1;have hvn:=List.getElem?_eq_getElem (l:=vs) (i:=m) (by omega);have:=hv m av _ hd hvn;have e:(vs.toArray++Array.replicate (fn.ntmps-vs.toArray.size) undef).getD m undef=vs[m]'(by omega):=by
    rw[Array.getD_eq_getD_getElem?,Array.getElem?_append_left (by simp;omega)];simp[hvn]
   simp only;rw[e];exact this
  refine wpIn_mono (h (X.at w.heap.size) ν w _ w ⟨Nat.le_refl _,ν,hE,BB.refl _ _ _ _ _⟩) ?_;rintro e a' w' ⟨s',⟨hle,ν',hI',hx⟩,he,hres,hkeep⟩;have hbase:X.base≤w.heap.size:=hI.below.size;have key:LeavesInM Fence.wide 0 P fn a'.tmps (fun e w'=>∃v ν' c,e= .returned v∧Ai X (lk hp') ν' (·< c) w' ∧
   BB (Ag X.M0 (lk hp) ν) (lk hp) ν (·< n) w (Ag X.M0 (lk hp') ν') (lk hp') ν' (·< c) w'∧A3 w' (Ag X.M0 (lk hp') ν') (lk hp') ν' (·< c) r v) a'.defers .returning w':=by
   refine H6.leave _ _ hI'.defers fun w2 hb=>?_;have hI2:Cj (X.at w.heap.size) fn.ntmps s'.E (lk s'.hp) ν' (·< s'.c) { tmps:=a'.tmps,defers:=[] } w2 :=
    ⟨hI'.heap.book hbase hb,fun n av hn=>(hI'.env n av hn).book hb,hI'.size,by rw[hb.size];exact hI'.defers.1,trivial⟩
   have hx:=BB.book hx hb;clear hI' hb;replace hI':=hI2;clear hI2;have hsub:∀q o,lk (A2 s'.hp ks) q=some o→lk s'.hp q=some o:=fun q o h=>D7 h;obtain⟨i1,x1⟩:=hI'.heap.sub hsub;rw[hkeep]at i1 x1;have hval:∃v,(results fn a'.tmps).run P w2= .ok v w2∧A3 w2 (Ag X.M0 (lk s'.hp) ν') (lk s'.hp) ν' (·< s'.c) r v:=by
    unfold MU at hres;cases hxs:EX P s' rs with
    |none=>rw[hxs]at hres;cases hres
    |some xs =>
     obtain⟨vs',h1,h2,h3⟩:=Ft hI' rs xs hxs;refine⟨_,F9 hrs h1,?_⟩;rw[hxs]at hres;simp only at hres;split at hres
     ·cases hres
      match vs',h2 with
      | [v],_=>exact h3 0 _ v rfl rfl
     ·rename_i hne;cases hres;have hv:K2 vs'=Value.tuple vs'.toArray:=by
       match vs',h2 with
       | [],_=>rfl
       | [v],h2=>cases xs with
         |nil=>simp at h2
         |cons x xs =>
          have:xs=[]:=List.eq_nil_of_length_eq_zero (by simpa using h2);subst this;exact absurd rfl (hne x)
       |_::_::_,_=>rfl
      rw[hv];exact .tup h2 h3
   obtain⟨v,hr,hv⟩:=hval;exact⟨v,hr,v,ν',s'.c,rfl,i1.unat,hx.trans x1,hv.ext x1⟩
  rcases he with rfl|rfl
  ·exact key
  ·exact key
def sg:List Nat→Nat→Nat→Nat
 | [],q,_=>q
 |j::_,_,0=>j
 |_::l,q,k+1=>sg l q k
def Dd:List Nat→List Nat→List Nat
 | [],acc=>acc
 |k::l,acc=>if acc.elem k then Dd l acc else Dd l (acc++[k])
def K3(hp:A8):List Nat→List Nat
 | []=>[]
 |k::l=>match lk hp k with|some o=>o.ks++K3 hp l|none=>K3 hp l
def DN(hp:A8):Nat→List Nat→List Nat
 |0,ks=>ks
 |n+1,ks=>DN hp n (Dd (K3 hp ks) ks)
def fresh(ks:List Nat)(hp':A8):List Nat:=(hp'.map (·.1)).filter fun k => !ks.elem k
theorem Hl{hpc:A8}:∀{k:Nat} {o:HO},(hpc.map (·.1)).Nodup→(k,o)∈hpc→lk hpc k=some o:=by
 induction hpc with
 |nil=>intro k o _ h;cases h
 |cons p l ih =>
  intro k o hn h;obtain⟨m,a⟩:=p;simp only[List.map_cons,List.nodup_cons]at hn;simp only[lk];rcases List.mem_cons.1 h with h|h
  ·cases h;rw[if_pos rfl]
  ·rw[if_neg (fun e=>hn.1 (by rw[e];exact List.mem_map_of_mem (f:=(·.1)) h))];exact ih hn.2 h
theorem Dh{σ:Nat→Nat}:∀{l m:List Nat},((l++m).map σ).Nodup→l.Nodup
 | [],_,_=>by simp
 |x::l,m,h=>by
  simp only[List.cons_append,List.map_cons,List.nodup_cons]at h;refine List.nodup_cons.2 ⟨fun hx=>h.1 ?_,Dh h.2⟩;exact List.mem_map.2 ⟨x,List.mem_append_left _ hx,rfl⟩
theorem Qf{ops:Array Oper}{c i q:Nat}{dst:Option Nat}{ty:TypeId}{pos:String}{after:Array Edge}{guard:Option (Nat×Bool)}{os:List Oper}{E E1 E':Bf}{hp hp1 hpE:A8}{outs:List EU}{f:Operand}{args:List Operand}{ts:Array TypeId}
 {g:FuncId} {pre caps az as':List AV} {l:List Nat} {hpc hp':A8} {r v:AV} {n:Nat} {es:List (Nat×Option HO)} {chg:List Nat} (hq:c+i=q) (hf:G1 (opnd E f)=some (g,pre,caps)) (hargs:pre++(args.map (opnd E)++caps)=as') (hl:DN hp 5 (Dd (GM as') [])=l) (hs:Ac P g az hpc r hp' n)
 (ha:az.map (AV.rn (sg l q))=as') (hsub:hpc.map (fun p=>lk hp (sg l q p.1))=hpc.map (fun p=>some (p.2.rn (sg l q)))) (hb:CI q n (sg l q) (hpc.map (·.1)) (fresh (hpc.map (·.1)) hp') az hpc r hp'=true) (hv:r.rn (sg l q)=v)
 (hcs:∀k∈chg,k∈hpc.map (·.1)) (hch:∀k∈hpc.map (·.1),k∈chg∨lk hp' k=lk hpc k)
 (hes:Bd (sg l q) (chg++fresh (hpc.map (·.1)) hp') hp'=es) (hH:B3 hp es=hp1) (hE:Dg E dst v=E1) (hg:gd ops E guard=some true) (t:Ev P ops c (i+1) os E1 hp1 outs E' hpE) :
 Ev P ops c i (⟨dst,.call ⟨.value f,args.toArray,ts⟩,ty,pos,after,guard⟩::os) E hp (⟨dst,v,es,(hpc.map (·.1)).map (sg l q)⟩::outs) E' hpE:=by
 subst hq;subst hargs;subst hv;subst hes;subst hH;subst hE;refine .cons (.callM hg rfl hf ha hs hb (fun k hk=>?_) hcs hch) t;obtain⟨⟨k',o⟩,hm,rfl⟩:=List.mem_map.1 hk;have hnd:(hpc.map (·.1)).Nodup:=by
  have hb':=hb;simp only[CI,Bool.and_eq_true,decide_eq_true_eq]at hb';exact Dh hb'.1.1.1.1.1.2
 refine⟨o,Hl hnd hm,?_⟩;obtain⟨j,hj⟩:=List.mem_iff_getElem?.1 hm;have:=congrArg (fun l=>l[j]?) hsub;simp only[List.getElem?_map,hj,Option.map_some,Option.some.injEq]at this;exact this
theorem RL{ops:Array Oper}{c i q:Nat}{dst:Option Nat}{ty:TypeId}{pos:String}{after:Array Edge}{guard:Option (Nat×Bool)}{os:List Oper}{E E1 E':Bf}{hp hp1 hpE:A8}{outs:List EU}{f:Operand}{args:List Operand}{ts:Array TypeId}
 {g:FuncId} {pre caps az as':List AV} {l:List Nat} {hpc hp':A8} {r v:AV} {n:Nat} {es:List (Nat×Option HO)} (hq:c+i=q) (hf:G1 (opnd E f)=some (g,pre,caps)) (hargs:pre++(args.map (opnd E)++caps)=as') (hl:DN hp 5 (Dd (GM as') [])=l) (hs:Ac P g az hpc r hp' n)
 (ha:az.map (AV.rn (sg l q))=as') (hsub:hpc.map (fun p=>lk hp (sg l q p.1))=hpc.map (fun p=>some (p.2.rn (sg l q)))) (hb:CI q n (sg l q) (hpc.map (·.1)) (fresh (hpc.map (·.1)) hp') az hpc r hp'=true) (hv:r.rn (sg l q)=v)
 (hes:Bd (sg l q) (hpc.map (·.1)++fresh (hpc.map (·.1)) hp') hp'=es) (hH:B3 hp es=hp1) (hE:Dg E dst v=E1) (hg:gd ops E guard=some true) (t:Ev P ops c (i+1) os E1 hp1 outs E' hpE) :
 Ev P ops c i (⟨dst,.call ⟨.value f,args.toArray,ts⟩,ty,pos,after,guard⟩::os) E hp (⟨dst,v,es,(hpc.map (·.1)).map (sg l q)⟩::outs) E' hpE :=
 Qf hq hf hargs hl hs ha hsub hb hv (fun _ h=>h) (fun _ h=>.inl h) hes hH hE hg t
theorem Qe{ops:Array Oper}{c i q:Nat}{dst:Option Nat}{ty:TypeId}{pos:String}{after:Array Edge}{guard:Option (Nat×Bool)}{os:List Oper}{E E1 E':Bf}{hp hp1 hpE:A8}{outs:List EU}{f:Operand}{args:List Operand}{ts:Array TypeId}
 {g:FuncId} {pre caps az as':List AV} {l:List Nat} {hpc hp':A8} {r v:AV} {n:Nat} {es:List (Nat×Option HO)} (hq:c+i=q) (hf:G1 (opnd E f)=some (g,pre,caps)) (hargs:pre++(args.map (opnd E)++caps)=as') (hl:DN hp 5 (Dd (GM as') [])=l) (hs:Ac P g az hpc r hp' n)
 (ha:az.map (AV.rn (sg l q))=as') (hsub:hpc.map (fun p=>lk hp (sg l q p.1))=hpc.map (fun p=>some (p.2.rn (sg l q)))) (hb:CI q n (sg l q) (hpc.map (·.1)) (fresh (hpc.map (·.1)) hp') az hpc r hp'=true) (hv:r.rn (sg l q)=v) (hun:hpc.map (fun p=>lk hp' p.1)=hpc.map (fun p=>some p.2))
 (hes:Bd (sg l q) (fresh (hpc.map (·.1)) hp') hp'=es) (hH:B3 hp es=hp1) (hE:Dg E dst v=E1) (hg:gd ops E guard=some true) (t:Ev P ops c (i+1) os E1 hp1 outs E' hpE) :
 Ev P ops c i (⟨dst,.call ⟨.value f,args.toArray,ts⟩,ty,pos,after,guard⟩::os) E hp (⟨dst,v,es,(hpc.map (·.1)).map (sg l q)⟩::outs) E' hpE:=by
 have hnd:(hpc.map (·.1)).Nodup:=by
  have hb':=hb;simp only[CI,Bool.and_eq_true,decide_eq_true_eq]at hb';exact Dh hb'.1.1.1.1.1.2
 refine Qf (chg:=[]) hq hf hargs hl hs ha hsub hb hv (fun _ h=>by cases h) (fun k hk=>.inr ?_) hes hH hE hg t;obtain⟨⟨k',o⟩,hm,rfl⟩:=List.mem_map.1 hk;rw[Hl hnd hm];obtain⟨j,hj⟩:=List.mem_iff_getElem?.1 hm;have:=congrArg (fun l=>l[j]?) hun;simpa[hj]using this
theorem Gt{ops:Array Oper}{c i q:Nat}{d:Nat}{ty:TypeId}{pos:String}{after:Array Edge}{guard:Option (Nat×Bool)}{os:List Oper}{E E':Bf}{hp hp1 hpE:A8}{outs:List EU}{f:Operand}{args:List Operand}{ts:Array TypeId}
 {g:FuncId} {pre caps az as':List AV} {l:List Nat} {hpc hp':A8} {r v:AV} {n:Nat} {es:List (Nat×Option HO)} (hq:c+i=q) (hf:G1 (opnd E f)=some (g,pre,caps)) (hargs:pre++(args.map (opnd E)++caps)=as') (hl:DN hp 5 (Dd (GM as') [])=l) (hs:Ac P g az hpc r hp' n)
 (ha:az.map (AV.rn (sg l q))=as') (hsub:hpc.map (fun p=>lk hp (sg l q p.1))=hpc.map (fun p=>some (p.2.rn (sg l q)))) (hb:CI q n (sg l q) (hpc.map (·.1)) (fresh (hpc.map (·.1)) hp') az hpc r hp'=true) (hv:r.rn (sg l q)=v)
 (hes:Bd (sg l q) (hpc.map (·.1)++fresh (hpc.map (·.1)) hp') hp'=es) (hH:B3 hp es=hp1) (hg:gd ops E guard=some true) (t:Ev P ops c (i+1) os ((d,v)::E) hp1 outs E' hpE) :
 Ev P ops c i (⟨some d,.call ⟨.value f,args.toArray,ts⟩,ty,pos,after,guard⟩::os) E hp (⟨some d,v,es,(hpc.map (·.1)).map (sg l q)⟩::outs) E' hpE :=
 RL hq hf hargs hl hs ha hsub hb hv hes hH rfl hg t
theorem Gs{ops:Array Oper}{c i q:Nat}{ty:TypeId}{pos:String}{after:Array Edge}{guard:Option (Nat×Bool)}{os:List Oper}{E E':Bf}{hp hp1 hpE:A8}{outs:List EU}{f:Operand}{args:List Operand}{ts:Array TypeId}
 {g:FuncId} {pre caps az as':List AV} {l:List Nat} {hpc hp':A8} {r v:AV} {n:Nat} {es:List (Nat×Option HO)} (hq:c+i=q) (hf:G1 (opnd E f)=some (g,pre,caps)) (hargs:pre++(args.map (opnd E)++caps)=as') (hl:DN hp 5 (Dd (GM as') [])=l) (hs:Ac P g az hpc r hp' n)
 (ha:az.map (AV.rn (sg l q))=as') (hsub:hpc.map (fun p=>lk hp (sg l q p.1))=hpc.map (fun p=>some (p.2.rn (sg l q)))) (hb:CI q n (sg l q) (hpc.map (·.1)) (fresh (hpc.map (·.1)) hp') az hpc r hp'=true) (hv:r.rn (sg l q)=v)
 (hes:Bd (sg l q) (hpc.map (·.1)++fresh (hpc.map (·.1)) hp') hp'=es) (hH:B3 hp es=hp1) (hg:gd ops E guard=some true) (t:Ev P ops c (i+1) os E hp1 outs E' hpE) :
 Ev P ops c i (⟨none,.call ⟨.value f,args.toArray,ts⟩,ty,pos,after,guard⟩::os) E hp (⟨none,v,es,(hpc.map (·.1)).map (sg l q)⟩::outs) E' hpE :=
 RL hq hf hargs hl hs ha hsub hb hv hes hH rfl hg t
theorem NR{ops:Array Oper}{c i q:Nat}{d:Nat}{ty:TypeId}{pos:String}{after:Array Edge}{guard:Option (Nat×Bool)}{os:List Oper}{E E':Bf}{hp hp1 hpE:A8}{outs:List EU}{f:Operand}{args:List Operand}{ts:Array TypeId}
 {g:FuncId} {pre caps az as':List AV} {l:List Nat} {hpc hp':A8} {r v:AV} {n:Nat} {es:List (Nat×Option HO)} (hq:c+i=q) (hf:G1 (opnd E f)=some (g,pre,caps)) (hargs:pre++(args.map (opnd E)++caps)=as') (hl:DN hp 5 (Dd (GM as') [])=l) (hs:Ac P g az hpc r hp' n)
 (ha:az.map (AV.rn (sg l q))=as') (hsub:hpc.map (fun p=>lk hp (sg l q p.1))=hpc.map (fun p=>some (p.2.rn (sg l q)))) (hb:CI q n (sg l q) (hpc.map (·.1)) (fresh (hpc.map (·.1)) hp') az hpc r hp'=true) (hv:r.rn (sg l q)=v) (hun:hpc.map (fun p=>lk hp' p.1)=hpc.map (fun p=>some p.2))
 (hes:Bd (sg l q) (fresh (hpc.map (·.1)) hp') hp'=es) (hH:B3 hp es=hp1) (hg:gd ops E guard=some true) (t:Ev P ops c (i+1) os ((d,v)::E) hp1 outs E' hpE) :
 Ev P ops c i (⟨some d,.call ⟨.value f,args.toArray,ts⟩,ty,pos,after,guard⟩::os) E hp (⟨some d,v,es,(hpc.map (·.1)).map (sg l q)⟩::outs) E' hpE :=
 Qe hq hf hargs hl hs ha hsub hb hv hun hes hH rfl hg t
theorem NQ{ops:Array Oper}{c i q:Nat}{ty:TypeId}{pos:String}{after:Array Edge}{guard:Option (Nat×Bool)}{os:List Oper}{E E':Bf}{hp hp1 hpE:A8}{outs:List EU}{f:Operand}{args:List Operand}{ts:Array TypeId}
 {g:FuncId} {pre caps az as':List AV} {l:List Nat} {hpc hp':A8} {r v:AV} {n:Nat} {es:List (Nat×Option HO)} (hq:c+i=q) (hf:G1 (opnd E f)=some (g,pre,caps)) (hargs:pre++(args.map (opnd E)++caps)=as') (hl:DN hp 5 (Dd (GM as') [])=l) (hs:Ac P g az hpc r hp' n)
 (ha:az.map (AV.rn (sg l q))=as') (hsub:hpc.map (fun p=>lk hp (sg l q p.1))=hpc.map (fun p=>some (p.2.rn (sg l q)))) (hb:CI q n (sg l q) (hpc.map (·.1)) (fresh (hpc.map (·.1)) hp') az hpc r hp'=true) (hv:r.rn (sg l q)=v) (hun:hpc.map (fun p=>lk hp' p.1)=hpc.map (fun p=>some p.2))
 (hes:Bd (sg l q) (fresh (hpc.map (·.1)) hp') hp'=es) (hH:B3 hp es=hp1) (hg:gd ops E guard=some true) (t:Ev P ops c (i+1) os E hp1 outs E' hpE) :
 Ev P ops c i (⟨none,.call ⟨.value f,args.toArray,ts⟩,ty,pos,after,guard⟩::os) E hp (⟨none,v,es,(hpc.map (·.1)).map (sg l q)⟩::outs) E' hpE :=
 Qe hq hf hargs hl hs ha hsub hb hv hun hes hH rfl hg t
end
end Go.Eng
namespace Go.Eng
open Go.RowKit
mutual
inductive Wk:D→D→Prop where
 |refl (x:D):Wk x x
 |nil (sz:Nat):Wk .nils (.sl sz [])
 |emp (sz:Nat):Wk (.emp sz) (.sl sz [])
 |agg {a b:List D} (h:Kt a b):Wk (.agg a) (.agg b)
 |tup {a b:List D} (h:Kt a b):Wk (.tup a) (.tup b)
 |sl {sz:Nat} {a b:List D} (h:Kt a b):Wk (.sl sz a) (.sl sz b)
inductive Kt:List D→List D→Prop where
 |nil:Kt [] []
 |cons {x y:D} {a b:List D} (h:Wk x y) (t:Kt a b):Kt (x::a) (y::b)
end
theorem Kt.refl:∀(l:List D),Kt l l
 | []=>.nil
 |x::l=>.cons (.refl x) (Kt.refl l)
theorem Kt.len{a b:List D}(h:Kt a b):a.length=b.length:=by
 induction a generalizing b with
 |nil=>cases h;rfl
 |cons x a ih=>cases h with|cons _ t=>simp[ih t]
theorem Kt.get{a b:List D}(h:Kt a b):∀(i:Nat) x y,a[i]? =some x→b[i]? =some y→Wk x y:=by
 induction a generalizing b with
 |nil=>intro i x y hx;simp at hx
 |cons z a ih =>
  cases h with
  |cons hh t =>
   intro i x y hx hy;cases i with
   |zero=>simp at hx hy;subst hx;subst hy;exact hh
   |succ i=>simp at hx hy;exact ih t i x y hx hy
theorem Wk.cell{a b:D}(h:Wk a b):a.cell=b.cell:=by cases h<;>rfl
theorem Wk.comps{a b:D}(h:Wk a b):Kt a.comps b.comps:=by
 cases h with
 |refl=>exact Kt.refl _
 |nil sz=>exact .cons (.nil sz) .nil
 |emp sz=>exact .cons (.emp sz) .nil
 |agg h=>exact h
 |tup h=>exact .cons (.tup h) .nil
 |sl h=>exact .cons (.sl h) .nil
theorem Ae.wk{w:World}{M:Nat→Prop}{a:D}{v:Value}(hr:Ae w M a v):∀{b:D},Wk a b→Ae w M b v:=by
 induction hr with
 |bool b=>intro b h;cases h;exact .bool _
 |int k n=>intro b h;cases h;exact .int _ _
 |str s=>intro b h;cases h;exact .str _
 |fn f=>intro b h;cases h;exact .fn _
 |nilf=>intro b h;cases h;exact .nilf
 |nilm=>intro b h;cases h;exact .nilm
 |nilp=>intro b h;cases h;exact .nilp
 |any h0=>intro b h;cases h;exact .any h0
 |ptr val hb hM hc h1 h2 ih=>intro b h;cases h;exact .ptr val hb hM hc h1 h2
 |agg hl hc hh ih =>
  intro b h;cases h with
  |refl=>exact .agg hl hc hh
  |agg h =>
   rename_i fs cs b;refine .agg (by rw[← h.len];exact hl) (fun d hd=>?_) (fun i d v hd hv=>?_)
   ·obtain⟨i,hi⟩:=List.mem_iff_getElem?.1 hd;have hlt:i<fs.length:=by rw[h.len];exact(List.getElem?_eq_some_iff.1 hi).1
    have hx:=List.getElem?_eq_getElem hlt;rw[← (h.get i _ _ hx hi).cell];exact hc _ (List.mem_of_getElem? hx)
   ·have hlt:i<fs.length:=by rw[h.len];exact(List.getElem?_eq_some_iff.1 hd).1
    have hx:=List.getElem?_eq_getElem hlt;exact ih i _ v hx hv (h.get i _ _ hx hd)
 |tup hl hh ih =>
  intro b h;cases h with
  |refl=>exact .tup hl hh
  |tup h =>
   rename_i fs cs b;refine .tup (by rw[← h.len];exact hl) (fun i d v hd hv=>?_);have hlt:i<fs.length:=by rw[h.len];exact(List.getElem?_eq_some_iff.1 hd).1
   have hx:=List.getElem?_eq_getElem hlt;exact ih i _ v hx hv (h.get i _ _ hx hd)
 |nils=>intro b h;cases h<;>constructor
 |emp hm=>intro b h;cases h with|refl=>exact .emp hm|emp=>exact Ae.of_emp (.emp hm)
 |sl0 =>
  intro b h;cases h with
  |refl=>exact .sl0
  |sl h=>cases h;exact .sl0
 |sl val hb hM hc hm hs h1 h2 ih =>
  intro b h;cases h with
  |refl=>exact .sl val hb hM hc hm hs h1 h2
  |sl h =>
   rename_i sz c xs a b;have hne:b≠[]→xs≠[]:=fun hb he=>by subst he;cases h;exact hb rfl
   have look:∀i y,b[i]? =some y→∃x,xs[i]? =some x∧Wk x y:=fun i y hy=>by
    have hlt:i<xs.length:=by rw[h.len];exact(List.getElem?_eq_some_iff.1 hy).1
    exact⟨_,List.getElem?_eq_getElem hlt,h.get i _ _ (List.getElem?_eq_getElem hlt) hy⟩
   have lookc:∀{x y:D},Wk x y→∀(j:Nat) d,y.comps[j]? =some d→∃d',x.comps[j]? =some d'∧Wk d' d:=fun{x y} hxy j d hd=>by
    have hlt:j<x.comps.length:=by rw[hxy.comps.len];exact(List.getElem?_eq_some_iff.1 hd).1
    exact⟨_,List.getElem?_eq_getElem hlt,hxy.comps.get j _ _ (List.getElem?_eq_getElem hlt) hd⟩
   rw[h.len];refine .sl val (fun hn=>hb (hne hn)) (fun hn=>hM (hne hn)) (by rw[← h.len];exact hc) hm (fun i y hy=>?_) (fun i y j d hy hd=>?_) (fun i y j d hy hd=>?_)
   ·obtain⟨x,hx,hxy⟩:=look i y hy;refine⟨by rw[← hxy.comps.len];exact(hs i x hx).1,fun d hd=>?_⟩;obtain⟨j,hj⟩:=List.mem_iff_getElem?.1 hd;obtain⟨d',hd',hw⟩:=lookc hxy j d hj;rw[← hw.cell];exact(hs i x hx).2 d' (List.mem_of_getElem? hd')
   ·obtain⟨x,hx,hxy⟩:=look i y hy;obtain⟨d',hd',hw⟩:=lookc hxy j d hd;exact h1 i x j d' hx hd'
   ·obtain⟨x,hx,hxy⟩:=look i y hy;obtain⟨d',hd',hw⟩:=lookc hxy j d hd;exact ih i x j d' hx hd' hw
theorem A1.wk{P:Program}{g:FuncId}{az as':List D}{r r':D}(h:A1 P g az r)(ha:Kt as' az)(hr:Wk r r'):A1 P g as' r':=by
 intro w M vs hW hM hl hv;rcases h w M vs hW hM (by rw[← ha.len];exact hl) (fun i d v hd hvv=>by
  have hlt:i<as'.length:=by rw[ha.len];exact(List.getElem?_eq_some_iff.1 hd).1
  have hx:=List.getElem?_eq_getElem hlt;exact(hv i _ v hx hvv).wk (ha.get i _ _ hx hd))with⟨v,w',h1,h2,h3⟩|⟨h1,h2⟩
 ·exact .inl ⟨v,w',h1,h2.wk hr,h3⟩
 ·exact .inr ⟨h1,h2.mono fun e w' ⟨v,k1,k2,k3⟩=>⟨v,k1,k2.wk hr,k3⟩⟩
end Go.Eng
namespace Go.Eng
open Go.RowKit
section
variable {P:Program} {S:Sp} {Q:Exit→St→Prop}
end
end Go.Eng
namespace Go.Eng
open Go.RowKit
def Np(j k x:Nat):Nat:=if x=j then k else if x=k then j else x
theorem KB(j k x:Nat):Np j k (Np j k x)=x:=by
 unfold Np;by_cases h1:x=j
 ·subst h1;rw[if_pos rfl];by_cases h2:k=x
  ·subst h2;simp
  ·rw[if_neg h2,if_pos rfl]
 ·rw[if_neg h1];by_cases h2:x=k
  ·subst h2;rw[if_pos rfl,if_pos rfl]
  ·rw[if_neg h2,if_neg h1,if_neg h2]
theorem Qr{j k x y:Nat}(h:Np j k x=Np j k y):x=y:=by
 have:=congrArg (Np j k) h
 rwa [KB,KB]at this
theorem OV{j k c x:Nat}(hj:j<c)(hk:k<c)(h:x<c):Np j k x<c:=by
 unfold Np;split
 ·exact hk
 ·split
  ·exact hj
  ·exact h
theorem Qq{j k c x:Nat}(hj:c≤j)(hk:c≤k)(h:x<c):Np j k x=x:=by
 unfold Np;rw[if_neg (by omega),if_neg (by omega)]
def QA(σ:Nat→Nat)(hp:A8):A8:=hp.map fun p=>(σ p.1,p.2.rn σ)
theorem Si{σ:Nat→Nat}(hi:∀x y,σ x=σ y→x=y)(hp:A8)(n:Nat):lk (QA σ hp) (σ n)=(lk hp n).map (HO.rn σ):=by
 induction hp with
 |nil=>rfl
 |cons p l ih =>
  simp only[QA,List.map_cons,lk]at ih ⊢;by_cases h:p.1=n
  ·rw[if_pos h,if_pos (by rw[h])];rfl
  ·rw[if_neg h,if_neg (fun e=>h (hi _ _ e))];exact ih
def PP(σ:Nat→Nat):HO→Bool
 |.iter m _ _=>Nat.beq (σ m) m
 |_=>true
theorem PB{σ:Nat→Nat}{o o':HO}(h:o.later o')(hf:PP σ o'=true):o.later (o'.rn σ):=by
 cases o<;>cases o'<;>first|(simp_all [HO.later,HO.rn,B4,PP];done)|exact h
theorem PE{σ:Nat→Nat}{o o':HO}{v v':Value}(h:o.keeps o' v v'):o.keeps (o'.rn σ) v v':=by
 cases o<;>cases o'<;>exact h
theorem Nx:∀{fs:List AV} {k:Nat},k∈GM fs→∃(i:Nat) (d:AV),fs[i]? =some d∧k∈d.ks
 | [],k,h=>by simp[GM]at h
 |x::l,k,h=>by
  simp only[GM,List.mem_append]at h;rcases h with h|h
  ·exact⟨0,x,rfl,h⟩
  ·obtain⟨i,d,h1,h2⟩:=Nx h;exact⟨i+1,d,by simpa using h1,h2⟩
theorem A3.usedKs{w:World}{M:Nat→Prop}{H:Nat→Option HO}{ν:Nat→Value}{used:Nat→Prop}{av:AV}{v:Value}(h:A3 w M H ν used av v):∀k∈av.ks,used k:=by
 have gen:∀{fs:List AV} {cs:List Value},fs.length=cs.length→(∀(i:Nat) d v,fs[i]? =some d→cs[i]? =some v→∀k∈d.ks,used k)→∀k∈GM fs,used k:=fun{fs cs} hl ih k hk=>by
  obtain⟨i,d,h1,h2⟩:=Nx hk;have hlt:i<cs.length:=by rw[← hl];exact(List.getElem?_eq_some_iff.1 h1).1
  exact ih i d _ h1 (List.getElem?_eq_getElem hlt) k h2
 induction h with
 |agg hl _ _ ih=>exact gen hl ih
 |tup hl _ ih=>exact gen hl ih
 |fn hl _ ih=>exact gen hl ih
 |yld hu=>intro k hk;simp[AV.ks]at hk;subst hk;exact hu
 |own hu=>intro k hk;simp[AV.ks]at hk;subst hk;exact hu
 |ref hu=>intro k hk;simp[AV.ks]at hk;subst hk;exact hu
 |eref hu=>intro k hk;simp[AV.ks]at hk;subst hk;exact hu
 |map hu=>intro k hk;simp[AV.ks]at hk;subst hk;exact hu
 |rv hu=>intro k hk;simp[AV.ks]at hk;subst hk;exact hu
 |mref hu=>intro k hk;simp[AV.ks]at hk;subst hk;exact hu
 |it hu=>intro k hk;simp[AV.ks]at hk;subst hk;exact hu
 |vs hu=>intro k hk;simp[AV.ks]at hk;subst hk;exact hu
 |tab hu=>intro k hk;simp[AV.ks]at hk;subst hk;exact hu
 |trow hu=>intro k hk;simp[AV.ks]at hk;subst hk;exact hu
 |toref hu=>intro k hk;simp[AV.ks]at hk;subst hk;exact hu
 |tref hu=>intro k hk;simp[AV.ks]at hk;subst hk;exact hu
 |_=>intro k hk;simp[AV.ks]at hk
section
variable {P:Program} {S:Sp} {Q:Exit→St→Prop}
theorem F4.rn{E:Bf}{hp:A8}{c:Nat}{a:Act}{w:World}(h:F4 S ⟨E,hp,c⟩ a w)(j k:Nat)(hj:S.R.c≤j)(hk:S.R.c≤k)(hjc:j<c)(hkc:k<c)(hf:(hp.all fun p=>PP (Np j k) p.2)=true) :
 F4 S ⟨RV (Np j k) E,QA (Np j k) hp,c⟩ a w:=by
 obtain⟨hle,ν,hI,hx⟩:=h;simp only at hI hx hle;let σ:=Np j k
 have hσ:∀x,σ (σ x)=x:=KB j k;have hinj:∀x y,σ x=σ y→x=y:=fun x y h=>Qr h;have hget:∀q o,lk (QA σ hp) q=some o→∃o',lk hp (σ q)=some o'∧o=o'.rn σ:=fun q o h=>by
  rw[← hσ q,Si hinj]at h;obtain⟨o',h1,h2⟩:=Option.map_eq_some_iff.1 h;exact⟨o',h1,h2.symm⟩
 let ν':Nat→Value:=fun q=>ν (σ q)
 have hM:∀b,Ag S.X.M0 (lk (QA σ hp)) ν' b→Ag S.X.M0 (lk hp) ν b:=fun b h=>by
  rcases h with h|⟨q,o,hq,hb⟩
  ·exact .inl h
  ·obtain⟨o',h1,_⟩:=hget q o hq;exact .inr ⟨σ q,o',h1,hb⟩
 have hO:∀b,NO (lk (QA σ hp)) ν' b→NO (lk hp) ν b:=fun b ⟨q,o,hq,hb⟩=>by
  obtain⟨o',h1,_⟩:=hget q o hq;exact⟨σ q,o',h1,hb⟩
 have hpk:∀q,q<c→σ q<c∧ν' (σ q)=ν q∧∀o',lk (QA σ hp) (σ q)=some o'→∃o,lk hp q=some o∧o'=o.rn σ:=fun q hq=>by
  refine⟨OV hjc hkc hq,by show ν (σ (σ q))=ν q;rw[hσ],fun o' ho'=>?_⟩;obtain⟨o,h1,h2⟩:=hget _ _ ho';rw[hσ]at h1;exact⟨o,h1,h2⟩
 have hpush:∀{av:AV} {v:Value},A3 w (Ag S.X.M0 (lk hp) ν) (lk hp) ν (·< c) av v→A3 w (Ag S.X.M0 (lk (QA σ hp)) ν') (lk (QA σ hp)) ν' (·< c) (av.rn σ) v:=fun{av v} hr =>
  hr.push hM fun k hk=>hpk k (hr.usedKs k hk)
 refine⟨hle,ν',⟨⟨hI.heap.below,hI.heap.M0,fun q o b hq hb=>?_,fun q o hq=>?_,fun q o b hq hb=>?_,fun q q' o o' b h1 h2 hb1 hb2=>?_,fun q o hq=>?_⟩,fun n av hn=>?_,hI.size,hI.defers.mono (AJ.refl _ _) (fun b _ h=>hM b h)⟩,?_⟩
 ·obtain⟨o',h1,_⟩:=hget q o hq;exact hI.heap.far _ _ _ h1 hb
 ·obtain⟨o',h1,_⟩:=hget q o hq;have:=hI.heap.usd _ _ h1;have h2:=OV hjc hkc this;show q<c;rw[← hσ q];exact h2
 ·obtain⟨o',h1,_⟩:=hget q o hq;exact hI.heap.blk _ _ _ h1 hb
 ·obtain⟨o1,g1,_⟩:=hget q o h1;obtain⟨o2,g2,_⟩:=hget q' o' h2;exact hinj _ _ (hI.heap.inj _ _ _ _ _ g1 g2 hb1 hb2)
 ·obtain⟨o',h1,rfl⟩:=hget q o hq;have hob:=hI.heap.obj _ _ h1;show Ic _ _ _ _ _ _ (ν (σ q)) _;cases o' with
  |var cs =>
   obtain⟨b,cells,e,h1,h2,h3,h4,h5⟩:=hob;refine⟨b,cells,e,h1,h2,by rw[h3,B4],fun x hx=>?_,fun i av u hi hu=>?_⟩
   ·rw[Fr]at hx;obtain⟨y,hy,rfl⟩:=List.mem_map.1 hx;rw[GE];exact h4 y hy
   ·obtain⟨b,hb,rfl⟩:=Fs hi;exact hpush (h5 i b u hb hu)
  |row e sz xs =>
   obtain⟨vals,h1,h2,h3,h4⟩:=hob;exact⟨vals,h1,h2,h3,h4.mono (AJ.refl _ _) (fun b _ h=>hM b h)⟩
  |map kt et es =>
   obtain⟨r0,ents,h1,h2,h3,h4⟩:=hob;exact⟨r0,ents,h1,h2,h3,fun i kd vd en q1 q2=>let ⟨x,y,z⟩:=h4 i kd vd en q1 q2;⟨x,y.mono (AJ.refl _ _) (fun b _ h=>hM b h),z.mono (AJ.refl _ _) (fun b _ h=>hM b h)⟩⟩
  |iter m c' seen =>
   obtain⟨b,mr,h1,h2,h3,h4⟩:=hob;obtain⟨p1,p2,p3⟩:=hpk m h3;refine⟨b,mr,h1,h2,p1,fun o ho=>?_⟩;obtain⟨o1,ho1,rfl⟩:=p3 o ho;obtain⟨kt,et,es,rfl,e2⟩:=h4 _ ho1;exact⟨kt,et,es,rfl,by rw[p2];exact e2⟩
  |tab T rows q=>exact Cg.mono (AJ.refl _ _) (fun b _ h=>hM b h) (fun _ _=>rfl) hob
  |loop Y cs st =>
   obtain⟨l,lr,h1,h2,h3,h4,h5,h6⟩:=hob;refine⟨l,lr,h1,h2,h3,h4,h5,fun n av hn=>?_⟩;rw[KW]at hn;obtain⟨b,hb,rfl⟩:=Option.map_eq_some_iff.1 hn;exact hpush (h6 n b hb)
 ·rw[KW]at hn;obtain⟨av',h1,rfl⟩:=Option.map_eq_some_iff.1 hn;exact hpush (hI.env n av' h1)
 ·refine⟨hx.same,fun b hb h=>hx.shrink b hb (hM b h),hx.usd,fun q hq o ho=>?_,hx.sameO,fun b hb h=>hx.shrinkO b hb (hO b h)⟩;have hqq:σ q=q:=Qq hj hk hq;obtain⟨o',h1,rfl⟩:=hget q o ho;rw[hqq]at h1;obtain⟨o1,g1,g2,g3⟩:=hx.obj q hq o' h1;refine⟨o1,g1,PB g2 (List.all_eq_true.1 hf _ (E7 h1)),?_⟩;show HO.keeps _ _ _ (ν (σ q));rw[hqq];exact PE g3
theorem F4.cut{s:St}{a:Act}{w:World}(h:F4 S s a w)(ns ks:List Nat):F4 S ⟨A2 s.E ns,A2 s.hp ks,s.c⟩ a w:=by
 obtain⟨hle,ν,hI,hx⟩:=h;obtain⟨i1,x1⟩:=hI.heap.sub (H':=lk (A2 s.hp ks)) (fun q o h=>D7 h);exact⟨hle,ν,⟨i1,fun n av hn=>(hI.env n av (D7 hn)).ext x1,hI.size,hI.defers.mono x1.same x1.shrink⟩,hx.trans x1⟩
theorem F4.low{E:Bf}{hp:A8}{c0:Nat}{a:Act}{w:World}(h:F4 S ⟨E,hp,c0⟩ a w)(c:Nat)(hc:S.R.c≤c)(hE:DF c E=true)(hH:Fy c hp=true):F4 S ⟨E,hp,c⟩ a w:=by
 obtain⟨hle,ν,hI,hx⟩:=h;simp only at hI hx hle;have hkb:∀q o,lk hp q=some o→q<c∧GS c o=true:=fun q o h=>by
  have:=List.all_eq_true.1 hH _ (E7 h);simpa using this
 have i1:=hI.heap;refine⟨hc,ν,⟨⟨i1.below,i1.M0,i1.far,fun q o hq=>(hkb q o hq).1,i1.blk,i1.inj,fun q o hq=>?_⟩,fun n av hn=>?_,hI.size,hI.defers⟩,?_⟩
 ·have hob:=i1.obj q o hq;cases o with
  |var cs =>
   obtain⟨b,cells,e,h1,h2,h3,h4,h5⟩:=hob;have hcs:R5 c cs=true:=(hkb q _ hq).2;exact⟨b,cells,e,h1,h2,h3,h4,fun i av u ha hu=>A3.restricts cs cells.toList (fun i d v hd hv=>h5 i d v hd (by simpa using hv)) hcs i av u ha (by simpa using hu)⟩
  |row e sz xs=>exact hob
  |tab _ _ _=>exact hob
  |map _ _ _=>exact hob
  |iter m c' seen =>
   obtain⟨b,mr,h1,h2,hu,hm⟩:=hob;exact⟨b,mr,h1,h2,by have:=(hkb q _ hq).2;simpa[GS]using this,hm⟩
  |loop Y cs st =>
   obtain⟨l,lr,h1,h2,h3,h4,h5,h6⟩:=hob;have hcs:DF c cs=true:=(hkb q _ hq).2;exact⟨l,lr,h1,h2,h3,h4,h5,fun n av hn=>A3.restrict av _ (h6 n av hn) (by simpa using List.all_eq_true.1 hcs _ (E7 hn))⟩
 ·have hb:=List.all_eq_true.1 hE _ (E7 hn);exact A3.restrict av _ (hI.env n av hn) (by simpa using hb)
 ·exact⟨hx.same,hx.shrink,fun k hk=>Nat.lt_of_lt_of_le hk hc,hx.obj,hx.sameO,hx.shrinkO⟩
end
end Go.Eng
namespace Go.Eng
open Go.RowKit
section
variable {P:Program} {S:Sp} {Q:Exit→St→Prop}
end
end Go.Eng
namespace Go.Eng
open Go.RowKit
open Go.ChangeMaps (setBlock)
theorem Ai.loopTo{X:C6}{hp:A8}{ν:Nat→Value}{used:Nat→Prop}{w:World}(hI:Ai X (lk hp) ν used w){k l:Nat}{Y:Ym}{cs:Bf}{st st':Tt}(ho:lk hp k=some (.loop Y cs st))(hν:ν k= .func (.yield l) #[] #[]){lr:Loop}(hl:w.heap[l]? =some (.loop lr))
 (lr':Loop) (h1:lr'.params=lr.params∧lr'.assign=lr.assign∧lr'.body=lr.body∧lr'.tmps=lr.tmps) (hst:st'.of lr') :
 Ai X (lk (put hp k (.loop Y cs st'))) ν used (w.putObj l (.loop lr'))∧BB (Ag X.M0 (lk hp) ν) (lk hp) ν used w (Ag X.M0 (lk (put hp k (.loop Y cs st'))) ν) (lk (put hp k (.loop Y cs st'))) ν used (w.putObj l (.loop lr')):=by
 obtain⟨l0,lr0,e0,g1,g2,g3,g4,g5⟩:=hI.obj _ _ ho;rw[hν]at e0;cases e0;rw[hl]at g1;cases g1;refine hI.turn ho (b:=l) (by rw[hν];rfl) (w1:=w) (.inl rfl) (.loop lr') rfl (fun M' H' hx=>?_);refine⟨l,lr',hν,World.putObj_heap_same (Array.getElem?_eq_some_iff.1 hl).1,⟨h1.1.trans g2.1,h1.2.1.trans g2.2.1,h1.2.2.1.trans g2.2.2⟩,hst,by rw[h1.2.2.2];exact g4,fun n av ha=>?_⟩;rw[h1.2.2.2];exact(g5 n av ha).ext hx
def KG(ps:List Nat)(args:List AV)(cs:Bf):Bf:=(ps.zip args).foldl (fun E p=>p::E) cs
def IF(k0:Nat)(Y:Ym)(cs:Bf)(r:AV)(hp':A8)(ks:List Nat):Exit→St→Prop
 |.normal,s=>lk s.hp k0=some (.loop Y cs .busy)∧r= .d (.bool true)∧A2 (put s.hp k0 (.loop Y cs .ready)) ks=hp'
 |.ret,s=>lk s.hp k0=some (.loop Y cs .busy)∧r= .d (.bool false)∧A2 (put s.hp k0 (.loop Y cs (.done .ret))) ks=hp'
 |.exit i,s=>lk s.hp k0=some (.loop Y cs .busy)∧r= .d (.bool false)∧A2 (put s.hp k0 (.loop Y cs (.done (.exit i)))) ks=hp'
 |_,_=>False
def P3(P:Program)(S:Sp)(k0:Nat)(Y:Ym)(cs:Bf)(r:AV)(hp':A8)(ks:List Nat):St→Prop:=fun s =>
 lk s.hp k0=some (.loop Y cs .ready)∧WP P S Y.body ⟨s.E,put s.hp k0 (.loop Y cs .busy),s.c⟩ (IF k0 Y cs r hp' ks)
def U6(X:C6)(N:Nat)(hp:A8)(ν:Nat→Value)(n:Nat)(w:World)(l:Nat):Sp:=⟨X,N,⟨Ag X.M0 (lk hp) ν,lk hp,ν,n,w⟩,some l⟩
theorem IG{w:World}{M:Nat→Prop}{H:Nat→Option HO}{ν:Nat→Value}{used:Nat→Prop}{N:Nat}:∀(ps:List Nat) (args:List AV) (xs:List Value) (E:Bf) (tmps:Array Value),ps.length=args.length→args.length=xs.length→tmps.size=N →
 (ps.all fun t=>decide (t<N))=true→(∀n av,lk E n=some av→A3 w M H ν used av (tmps.getD n undef))→(∀(i:Nat) d v,args[i]? =some d→xs[i]? =some v→A3 w M H ν used d v) →
 (∀n av,lk ((ps.zip args).foldl (fun E p=>p::E) E) n=some av→A3 w M H ν used av (((ps.zip xs).foldl (fun tmps (x:Nat×Value)=>tmps.setIfInBounds x.1 x.2) tmps).getD n undef)) ∧
   ((ps.zip xs).foldl (fun tmps (x:Nat×Value)=>tmps.setIfInBounds x.1 x.2) tmps).size=N
 | [],args,xs,E,tmps,h1,h2,hs,hb,hE,ha=>⟨fun n av hn=>hE n av hn,hs⟩
 |p::ps,[],xs,E,tmps,h1,h2,hs,hb,hE,ha=>by simp at h1
 |p::ps,a::args,[],E,tmps,h1,h2,hs,hb,hE,ha=>by simp at h2
 |p::ps,a::args,x::xs,E,tmps,h1,h2,hs,hb,hE,ha=>by
  simp only[List.all_cons,Bool.and_eq_true,decide_eq_true_eq]at hb;simp only[List.zip_cons_cons,List.foldl_cons];refine IG ps args xs ((p,a)::E) (tmps.setIfInBounds p x) (by simpa using h1) (by simpa using h2) (by simpa using hs) hb.2 (fun n av hn=>?_) (fun i d v hd hv=>ha (i+1) d v (by simpa using hd) (by simpa using hv));simp only[lk]at hn;have hp:=hb.1;rw[← hs]at hp;split at hn
  ·rename_i e;subst e;cases hn;simp only[Array.getD_eq_getD_getElem?,Array.getElem?_setIfInBounds_self_of_lt hp,Option.getD_some];exact ha 0 a x rfl rfl
  ·rename_i e;have:=hE n av hn;simpa[Array.getD_eq_getD_getElem?,Array.getElem?_setIfInBounds_ne e]using this
section
variable {P:Program}
theorem HG.run{k0 n N:Nat}{Y:Ym}{ps:List Nat}{args:List AV}{cs:Bf}{hp hp':A8}{r:AV}{ks:List Nat}{E:Bf}(hps:Y.ps=ps.toArray)(hk:lk hp k0=some (.loop Y cs .ready))(hsz:Nat.beq ps.length args.length=true)(hcs:Y.N=N)(hN:(ps.all fun t=>decide (t<N))=true)(hE:KG ps args cs=E)
 (h:∀l X ν w,WP P (U6 X N hp ν n w l) Y.assign ⟨E,hp,n⟩ (Gy (P3 P (U6 X N hp ν n w l) k0 Y cs r hp' ks) (fun _ _=>False))):HG P (.yld k0::args) hp r hp' n:=by
 subst hE;have hsz:=Nat.eq_of_beq_eq_true hsz;intro X ν w vs hI hlen hrep;cases vs with
 |nil=>simp at hlen
 |cons v0 xs =>
  simp only[List.length_cons,Nat.add_right_cancel_iff]at hlen;obtain⟨l,lr,hν,hg,⟨e1,e2,e3⟩,⟨hst,hpe⟩,hcl,hcr⟩:=hI.obj _ _ hk;have h0:=hrep 0 _ _ rfl rfl;have hv0:v0= .func (.yield l) #[] #[]:=by
   cases h0 with
   |yld hu hh =>
    obtain⟨_,_,_,_,hν'⟩:=hh _ hk;rw[hν]at hν';cases hν';rfl
  subst hv0;have hk0:k0<n:=hI.usd _ _ hk;refine⟨l,xs,lr.fn,_,lr.assign,lr.body,rfl,run_yield hg (by rw[e1,hps];simp;omega),?_⟩;rw[e1,e2,e3];refine roundIn_of_wpIn (F:=Fence.wide) trivial ?_;have hzip:(Y.ps.zip xs.toArray).foldl (fun tmps (t,a)=>tmps.setIfInBounds t a) lr.tmps=(ps.zip xs).foldl (fun tmps (x:Nat×Value)=>tmps.setIfInBounds x.1 x.2) lr.tmps:=by
   rw[hps];simp[← Array.foldl_toList]
  rw[hzip];have henv:=IG (w:=w) (M:=Ag X.M0 (lk hp) ν) (H:=lk hp) (ν:=ν) (used:=(·< n)) (N:=N) ps args xs cs lr.tmps hsz hlen (hcl.trans hcs) hN hcr (fun i d v hd hv=>hrep (i+1) d v (by simpa using hd) (by simpa using hv));have hI0:Ai (X.at 0) (lk hp) ν (·< n) w:=hI.at 0;refine wpIn_mono (F:=FR (some l)) (h l (X.at 0) ν w { tmps:=(ps.zip xs).foldl (fun tmps (x:Nat×Value)=>tmps.setIfInBounds x.1 x.2) lr.tmps,defers:=[] } w ⟨Nat.le_refl _,ν,⟨hI0,henv.1,henv.2,Nat.zero_le _,trivial⟩,BB.refl _ _ _ _ _⟩) ?_;rintro e a1 w1 ⟨s1,⟨hle1,ν1,hI1,hx1⟩,hq⟩;cases e with
  |normal =>
   obtain⟨hk1,hbody⟩:=hq;obtain⟨l1,lr1,hν1,hg1,f1,⟨f2,f2'⟩,f3,f4⟩:=hI1.heap.obj _ _ hk1;have hl1:l1=l:=by
    obtain⟨o,ho,_,hs⟩:=hx1.obj k0 hk0 _ hk1;have e:ν1 k0=ν k0:=by cases o<;>exact hs
    rw[hν,hν1]at e;cases e;rfl
   subst hl1;refine⟨_,run_beginRound hg1 f2,?_⟩;obtain⟨i2,x2⟩:=hI1.heap.loopTo (st':=.busy) hk1 hν1 hg1 { lr1 with state:=.busy } ⟨rfl,rfl,rfl,rfl⟩ ⟨rfl,f2'⟩;refine wpIn_mono (F:=FR (some l1)) (hbody a1 _ ⟨hle1,ν1,⟨i2,fun m av hm=>(hI1.env m av hm).ext x2,hI1.size,hI1.defers.mono x2.same x2.shrink⟩,hx1.trans x2⟩) ?_;rintro e a3 w3 ⟨s3,⟨hle3,ν3,hI3,hx3⟩,hq3⟩;have fin:∀(jump:Option Code) (st':Tt),lk s3.hp k0=some (.loop Y cs .busy)→(∀lr3:Loop,st'.of { lr3 with state:=if jump.isNone then .ready else .done,pending:=jump })→r= .d (.bool jump.isNone)→A2 (put s3.hp k0 (.loop Y cs st')) ks=hp' →
    ∃v w',(Instr.endRound l1 jump).run P w3= .ok v w'∧∃v' ν' c,Ending.returned v= .returned v'∧Ai X (lk hp') ν' (·< c) w' ∧
     BB (Ag X.M0 (lk hp) ν) (lk hp) ν (·< n) w (Ag X.M0 (lk hp') ν') (lk hp') ν' (·< c) w'∧A3 w' (Ag X.M0 (lk hp') ν') (lk hp') ν' (·< c) r v':=by
    intro jump st' hk3 hst' hr hh;subst hr;subst hh;obtain⟨l3,lr3,hν3,hg3,_⟩:=hI3.heap.obj _ _ hk3;have hl3:l3=l1:=by
     obtain⟨o,ho,_,hs⟩:=hx3.obj k0 hk0 _ hk3;have e:ν3 k0=ν k0:=by cases o<;>exact hs
     rw[hν,hν3]at e;cases e;rfl
    subst hl3;obtain⟨i4,x4⟩:=hI3.heap.loopTo (st':=st') hk3 hν3 hg3 { lr3 with state:=if jump.isNone then .ready else .done,pending:=jump } ⟨rfl,rfl,rfl,rfl⟩ (hst' lr3);obtain⟨i5,x5⟩:=i4.sub (H':=lk (A2 (put s3.hp k0 (.loop Y cs st')) ks)) (fun q o h=>D7 h);exact⟨_,_,run_endRound jump hg3,_,ν3,s3.c,rfl,i5.unat,(hx3.trans x4).trans x5,.d (.bool _)⟩
   cases e with
   |normal=>exact fin none .ready hq3.1 (fun _=>⟨rfl,rfl⟩) hq3.2.1 hq3.2.2
   |ret=>exact fin (some .ret) (.done .ret) hq3.1 (fun _=>⟨rfl,rfl⟩) hq3.2.1 hq3.2.2
   |exit i=>exact fin (some (.exit i)) (.done (.exit i)) hq3.1 (fun _=>⟨rfl,rfl⟩) hq3.2.1 hq3.2.2
   |goto i=>exact hq3.elim
   |panic i=>exact hq3.elim
   |outgrown=>exact hq3.elim
  |_=>exact hq.elim
end
theorem Ns{k0:Nat}{Y:Ym}{cs:Bf}{hp':A8}{ks:List Nat}{s:St}(h:lk s.hp k0=some (.loop Y cs .busy))(h2:A2 (put s.hp k0 (.loop Y cs .ready)) ks=hp'):IF k0 Y cs (.d (.bool true)) hp' ks .normal s:=⟨h,rfl,h2⟩
theorem Nr{k0:Nat}{Y:Ym}{cs:Bf}{hp':A8}{ks:List Nat}{s:St}(h:lk s.hp k0=some (.loop Y cs .busy))(h2:A2 (put s.hp k0 (.loop Y cs (.done .ret))) ks=hp'):IF k0 Y cs (.d (.bool false)) hp' ks .ret s:=⟨h,rfl,h2⟩
theorem Nq{k0 i:Nat}{Y:Ym}{cs:Bf}{hp':A8}{ks:List Nat}{s:St}(h:lk s.hp k0=some (.loop Y cs .busy))(h2:A2 (put s.hp k0 (.loop Y cs (.done (.exit i)))) ks=hp'):IF k0 Y cs (.d (.bool false)) hp' ks (.exit i) s:=⟨h,rfl,h2⟩
theorem Nt{P:Program}{S:Sp}{k0:Nat}{Y:Ym}{cs:Bf}{r:AV}{hp':A8}{ks:List Nat}{E:Bf}{hp hp1:A8}{c:Nat}{K:Exit→St→Prop}(h:lk hp k0=some (.loop Y cs .ready))(h1:put hp k0 (.loop Y cs .busy)=hp1)(h2:WP P S Y.body ⟨E,hp1,c⟩ (IF k0 Y cs r hp' ks)) :
 Gy (P3 P S k0 Y cs r hp' ks) K .normal ⟨E,hp,c⟩:=⟨h,h1▸h2⟩
section
variable {P:Program} {S:Sp} {Q:Exit→St→Prop}
end
section
variable {P:Program}
theorem RK{ops:Array Oper}{c i q:Nat}{dst:Option Nat}{ty:TypeId}{pos:String}{after:Array Edge}{guard:Option (Nat×Bool)}{os:List Oper}{E E1 E':Bf}{hp hp1 hpE:A8}{outs:List EU}{f:Operand}{args:List Operand}{ts:Array TypeId}
 {kl:Nat} {az as':List AV} {l:List Nat} {hpc hp':A8} {r v:AV} {n:Nat} {es:List (Nat×Option HO)} (hq:c+i=q) (hf:opnd E f= .yld kl) (hargs:.yld kl::args.map (opnd E)=as') (hl:DN hp 5 (Dd (GM as') [])=l) (hs:HG P az hpc r hp' n)
 (ha:az.map (AV.rn (sg l q))=as') (hsub:hpc.map (fun p=>lk hp (sg l q p.1))=hpc.map (fun p=>some (p.2.rn (sg l q)))) (hb:CI q n (sg l q) (hpc.map (·.1)) (fresh (hpc.map (·.1)) hp') az hpc r hp'=true) (hv:r.rn (sg l q)=v)
 (hes:Bd (sg l q) (hpc.map (·.1)++fresh (hpc.map (·.1)) hp') hp'=es) (hH:B3 hp es=hp1) (hE:Dg E dst v=E1) (hg:gd ops E guard=some true) (t:Ev P ops c (i+1) os E1 hp1 outs E' hpE) :
 Ev P ops c i (⟨dst,.call ⟨.value f,args.toArray,ts⟩,ty,pos,after,guard⟩::os) E hp (⟨dst,v,es,(hpc.map (·.1)).map (sg l q)⟩::outs) E' hpE:=by
 subst hq;subst hargs;subst hv;subst hes;subst hH;subst hE;refine .cons (.callY hg rfl hf ha hs hb (fun k hk=>?_)) t;obtain⟨⟨k',o⟩,hm,rfl⟩:=List.mem_map.1 hk;have hnd:(hpc.map (·.1)).Nodup:=by
  have hb':=hb;simp only[CI,Bool.and_eq_true,decide_eq_true_eq]at hb';exact Dh hb'.1.1.1.1.1.2
 refine⟨o,Hl hnd hm,?_⟩;obtain⟨j,hj⟩:=List.mem_iff_getElem?.1 hm;have:=congrArg (fun l=>l[j]?) hsub;simp only[List.getElem?_map,hj,Option.map_some,Option.some.injEq]at this;exact this
theorem Qd{ops:Array Oper}{c i q d:Nat}{ty:TypeId}{pos:String}{after:Array Edge}{guard:Option (Nat×Bool)}{os:List Oper}{E E':Bf}{hp hp1 hpE:A8}{outs:List EU}{f:Operand}{args:List Operand}{ts:Array TypeId}
 {kl:Nat} {az as':List AV} {l:List Nat} {hpc hp':A8} {r v:AV} {n:Nat} {es:List (Nat×Option HO)} (hq:c+i=q) (hf:opnd E f= .yld kl) (hargs:.yld kl::args.map (opnd E)=as') (hl:DN hp 5 (Dd (GM as') [])=l) (hs:HG P az hpc r hp' n)
 (ha:az.map (AV.rn (sg l q))=as') (hsub:hpc.map (fun p=>lk hp (sg l q p.1))=hpc.map (fun p=>some (p.2.rn (sg l q)))) (hb:CI q n (sg l q) (hpc.map (·.1)) (fresh (hpc.map (·.1)) hp') az hpc r hp'=true) (hv:r.rn (sg l q)=v)
 (hes:Bd (sg l q) (hpc.map (·.1)++fresh (hpc.map (·.1)) hp') hp'=es) (hH:B3 hp es=hp1) (hg:gd ops E guard=some true) (t:Ev P ops c (i+1) os ((d,v)::E) hp1 outs E' hpE) :
 Ev P ops c i (⟨some d,.call ⟨.value f,args.toArray,ts⟩,ty,pos,after,guard⟩::os) E hp (⟨some d,v,es,(hpc.map (·.1)).map (sg l q)⟩::outs) E' hpE :=
 RK hq hf hargs hl hs ha hsub hb hv hes hH rfl hg t
theorem Qc{ops:Array Oper}{c i q:Nat}{ty:TypeId}{pos:String}{after:Array Edge}{guard:Option (Nat×Bool)}{os:List Oper}{E E':Bf}{hp hp1 hpE:A8}{outs:List EU}{f:Operand}{args:List Operand}{ts:Array TypeId}
 {kl:Nat} {az as':List AV} {l:List Nat} {hpc hp':A8} {r v:AV} {n:Nat} {es:List (Nat×Option HO)} (hq:c+i=q) (hf:opnd E f= .yld kl) (hargs:.yld kl::args.map (opnd E)=as') (hl:DN hp 5 (Dd (GM as') [])=l) (hs:HG P az hpc r hp' n)
 (ha:az.map (AV.rn (sg l q))=as') (hsub:hpc.map (fun p=>lk hp (sg l q p.1))=hpc.map (fun p=>some (p.2.rn (sg l q)))) (hb:CI q n (sg l q) (hpc.map (·.1)) (fresh (hpc.map (·.1)) hp') az hpc r hp'=true) (hv:r.rn (sg l q)=v)
 (hes:Bd (sg l q) (hpc.map (·.1)++fresh (hpc.map (·.1)) hp') hp'=es) (hH:B3 hp es=hp1) (hg:gd ops E guard=some true) (t:Ev P ops c (i+1) os E hp1 outs E' hpE) :
 Ev P ops c i (⟨none,.call ⟨.value f,args.toArray,ts⟩,ty,pos,after,guard⟩::os) E hp (⟨none,v,es,(hpc.map (·.1)).map (sg l q)⟩::outs) E' hpE :=
 RK hq hf hargs hl hs ha hsub hb hv hes hH rfl hg t
end
end Go.Eng
namespace Go.Eng
open Go.RowKit
inductive Any(R:Prop):Prop where
 |mk:Any R
theorem Aw{G R:Prop}(r:R)(h:R→G∧Any R:=by
 intro r_;refine⟨?_,?_⟩
 ·repeat (first
   |with_reducible exact Ev.nil
   |with_reducible exact Jy
   |((with_reducible apply FZ);rfl)
   |((with_reducible apply C8);rfl)
   |((with_reducible apply DV);rfl)
   |with_reducible apply DY
   |with_reducible apply Ed
   |with_reducible apply D2
   |((with_reducible apply JR rfl rfl);(focus simp only[Nat.reduceAdd]<;>rfl))
   |((with_reducible apply JT mixed rfl rfl);(focus simp only[Nat.reduceAdd]<;>rfl))
   |((with_reducible apply JU);(focus first|(apply Ex;(focus rfl);rfl)|(apply Ey;(focus rfl);(focus rfl);rfl)))
   |((with_reducible apply G6);(focus first|(apply Ex;(focus rfl);rfl)|(apply Ey;(focus rfl);(focus rfl);rfl)))
   |with_reducible apply Jx
   |with_reducible apply Gc
   |with_reducible apply Ge
   |with_reducible apply Gd
   |with_reducible apply Gf
   |((first|(with_reducible apply G7)|(with_reducible apply Eg));(focus rfl))
   |((first|(with_reducible apply G8)|(with_reducible apply Eh));(focus rfl))
   |(apply Jq;(focus simp(disch:=omega)only[go_sem]<;>rfl);(focus first|exact c0_|exact c1_|exact c2_|exact c3_|exact c4_|exact c5_|exact c6_|exact c7_|exact c8_|exact c9_|exact c10_|exact c11_);(focus rfl);(focus first|(simp(disch:=omega)only[go_sem]<;>rfl)|rfl))
   |((with_reducible apply F3);(focus simp only[Nat.reduceAdd]<;>rfl);(focus simp(disch:=omega)only[go_sem]<;>rfl))
   |((first|apply NR|apply NQ);(focus simp only[Nat.reduceAdd]<;>rfl);(focus rfl);(iterate 2 (focus simp(disch:=omega)only[go_sem]<;>rfl));(first
      |(exact c0_;(iterate 2 (focus first|(simp(disch:=omega)only[go_sem]<;>rfl)|rfl));(focus rfl);(iterate 4 (focus first|(simp(disch:=omega)only[go_sem]<;>rfl)|rfl)))
      |(exact c1_;(iterate 2 (focus first|(simp(disch:=omega)only[go_sem]<;>rfl)|rfl));(focus rfl);(iterate 4 (focus first|(simp(disch:=omega)only[go_sem]<;>rfl)|rfl)))
      |(exact c2_;(iterate 2 (focus first|(simp(disch:=omega)only[go_sem]<;>rfl)|rfl));(focus rfl);(iterate 4 (focus first|(simp(disch:=omega)only[go_sem]<;>rfl)|rfl)))
      |(exact c3_;(iterate 2 (focus first|(simp(disch:=omega)only[go_sem]<;>rfl)|rfl));(focus rfl);(iterate 4 (focus first|(simp(disch:=omega)only[go_sem]<;>rfl)|rfl)))
      |(exact c4_;(iterate 2 (focus first|(simp(disch:=omega)only[go_sem]<;>rfl)|rfl));(focus rfl);(iterate 4 (focus first|(simp(disch:=omega)only[go_sem]<;>rfl)|rfl)))
      |(exact c5_;(iterate 2 (focus first|(simp(disch:=omega)only[go_sem]<;>rfl)|rfl));(focus rfl);(iterate 4 (focus first|(simp(disch:=omega)only[go_sem]<;>rfl)|rfl)))
      |(exact c6_;(iterate 2 (focus first|(simp(disch:=omega)only[go_sem]<;>rfl)|rfl));(focus rfl);(iterate 4 (focus first|(simp(disch:=omega)only[go_sem]<;>rfl)|rfl)))
      |(exact c7_;(iterate 2 (focus first|(simp(disch:=omega)only[go_sem]<;>rfl)|rfl));(focus rfl);(iterate 4 (focus first|(simp(disch:=omega)only[go_sem]<;>rfl)|rfl)))
      |(exact c8_;(iterate 2 (focus first|(simp(disch:=omega)only[go_sem]<;>rfl)|rfl));(focus rfl);(iterate 4 (focus first|(simp(disch:=omega)only[go_sem]<;>rfl)|rfl)))
      |(exact c9_;(iterate 2 (focus first|(simp(disch:=omega)only[go_sem]<;>rfl)|rfl));(focus rfl);(iterate 4 (focus first|(simp(disch:=omega)only[go_sem]<;>rfl)|rfl)))
      |(exact c10_;(iterate 2 (focus first|(simp(disch:=omega)only[go_sem]<;>rfl)|rfl));(focus rfl);(iterate 4 (focus first|(simp(disch:=omega)only[go_sem]<;>rfl)|rfl)))
      |(exact c11_;(iterate 2 (focus first|(simp(disch:=omega)only[go_sem]<;>rfl)|rfl));(focus rfl);(iterate 4 (focus first|(simp(disch:=omega)only[go_sem]<;>rfl)|rfl)))))
   |(apply Jp;(focus rfl);(focus simp(disch:=omega)only[go_sem]<;>rfl);(focus first|exact c0_|exact c1_|exact c2_|exact c3_|exact c4_|exact c5_|exact c6_|exact c7_|exact c8_|exact c9_|exact c10_|exact c11_);(iterate 3 (focus first|(simp(disch:=omega)only[go_sem]<;>rfl)|rfl)))
   |((first|apply Gt|apply Gs);(focus simp only[Nat.reduceAdd]<;>rfl);(focus rfl);(iterate 2 (focus simp(disch:=omega)only[go_sem]<;>rfl));(first
      |(exact c0_;(iterate 2 (focus first|(simp(disch:=omega)only[go_sem]<;>rfl)|rfl));(focus rfl);(iterate 3 (focus first|(simp(disch:=omega)only[go_sem]<;>rfl)|rfl)))
      |(exact c1_;(iterate 2 (focus first|(simp(disch:=omega)only[go_sem]<;>rfl)|rfl));(focus rfl);(iterate 3 (focus first|(simp(disch:=omega)only[go_sem]<;>rfl)|rfl)))
      |(exact c2_;(iterate 2 (focus first|(simp(disch:=omega)only[go_sem]<;>rfl)|rfl));(focus rfl);(iterate 3 (focus first|(simp(disch:=omega)only[go_sem]<;>rfl)|rfl)))
      |(exact c3_;(iterate 2 (focus first|(simp(disch:=omega)only[go_sem]<;>rfl)|rfl));(focus rfl);(iterate 3 (focus first|(simp(disch:=omega)only[go_sem]<;>rfl)|rfl)))
      |(exact c4_;(iterate 2 (focus first|(simp(disch:=omega)only[go_sem]<;>rfl)|rfl));(focus rfl);(iterate 3 (focus first|(simp(disch:=omega)only[go_sem]<;>rfl)|rfl)))
      |(exact c5_;(iterate 2 (focus first|(simp(disch:=omega)only[go_sem]<;>rfl)|rfl));(focus rfl);(iterate 3 (focus first|(simp(disch:=omega)only[go_sem]<;>rfl)|rfl)))
      |(exact c6_;(iterate 2 (focus first|(simp(disch:=omega)only[go_sem]<;>rfl)|rfl));(focus rfl);(iterate 3 (focus first|(simp(disch:=omega)only[go_sem]<;>rfl)|rfl)))
      |(exact c7_;(iterate 2 (focus first|(simp(disch:=omega)only[go_sem]<;>rfl)|rfl));(focus rfl);(iterate 3 (focus first|(simp(disch:=omega)only[go_sem]<;>rfl)|rfl)))
      |(exact c8_;(iterate 2 (focus first|(simp(disch:=omega)only[go_sem]<;>rfl)|rfl));(focus rfl);(iterate 3 (focus first|(simp(disch:=omega)only[go_sem]<;>rfl)|rfl)))
      |(exact c9_;(iterate 2 (focus first|(simp(disch:=omega)only[go_sem]<;>rfl)|rfl));(focus rfl);(iterate 3 (focus first|(simp(disch:=omega)only[go_sem]<;>rfl)|rfl)))
      |(exact c10_;(iterate 2 (focus first|(simp(disch:=omega)only[go_sem]<;>rfl)|rfl));(focus rfl);(iterate 3 (focus first|(simp(disch:=omega)only[go_sem]<;>rfl)|rfl)))
      |(exact c11_;(iterate 2 (focus first|(simp(disch:=omega)only[go_sem]<;>rfl)|rfl));(focus rfl);(iterate 3 (focus first|(simp(disch:=omega)only[go_sem]<;>rfl)|rfl)))))
   |((first|apply Qd|apply Qc);(focus simp only[Nat.reduceAdd]<;>rfl);(focus rfl);(iterate 2 (focus simp(disch:=omega)only[go_sem]<;>rfl));(first
      |(exact c0_;(iterate 2 (focus first|(simp(disch:=omega)only[go_sem]<;>rfl)|rfl));(focus rfl);(iterate 3 (focus first|(simp(disch:=omega)only[go_sem]<;>rfl)|rfl)))
      |(exact c1_;(iterate 2 (focus first|(simp(disch:=omega)only[go_sem]<;>rfl)|rfl));(focus rfl);(iterate 3 (focus first|(simp(disch:=omega)only[go_sem]<;>rfl)|rfl)))
      |(exact c2_;(iterate 2 (focus first|(simp(disch:=omega)only[go_sem]<;>rfl)|rfl));(focus rfl);(iterate 3 (focus first|(simp(disch:=omega)only[go_sem]<;>rfl)|rfl)))
      |(exact c3_;(iterate 2 (focus first|(simp(disch:=omega)only[go_sem]<;>rfl)|rfl));(focus rfl);(iterate 3 (focus first|(simp(disch:=omega)only[go_sem]<;>rfl)|rfl)))
      |(exact c4_;(iterate 2 (focus first|(simp(disch:=omega)only[go_sem]<;>rfl)|rfl));(focus rfl);(iterate 3 (focus first|(simp(disch:=omega)only[go_sem]<;>rfl)|rfl)))
      |(exact c5_;(iterate 2 (focus first|(simp(disch:=omega)only[go_sem]<;>rfl)|rfl));(focus rfl);(iterate 3 (focus first|(simp(disch:=omega)only[go_sem]<;>rfl)|rfl)))
      |(exact c6_;(iterate 2 (focus first|(simp(disch:=omega)only[go_sem]<;>rfl)|rfl));(focus rfl);(iterate 3 (focus first|(simp(disch:=omega)only[go_sem]<;>rfl)|rfl)))
      |(exact c7_;(iterate 2 (focus first|(simp(disch:=omega)only[go_sem]<;>rfl)|rfl));(focus rfl);(iterate 3 (focus first|(simp(disch:=omega)only[go_sem]<;>rfl)|rfl)))
      |(exact c8_;(iterate 2 (focus first|(simp(disch:=omega)only[go_sem]<;>rfl)|rfl));(focus rfl);(iterate 3 (focus first|(simp(disch:=omega)only[go_sem]<;>rfl)|rfl)))
      |(exact c9_;(iterate 2 (focus first|(simp(disch:=omega)only[go_sem]<;>rfl)|rfl));(focus rfl);(iterate 3 (focus first|(simp(disch:=omega)only[go_sem]<;>rfl)|rfl)))
      |(exact c10_;(iterate 2 (focus first|(simp(disch:=omega)only[go_sem]<;>rfl)|rfl));(focus rfl);(iterate 3 (focus first|(simp(disch:=omega)only[go_sem]<;>rfl)|rfl)))
      |(exact c11_;(iterate 2 (focus first|(simp(disch:=omega)only[go_sem]<;>rfl)|rfl));(focus rfl);(iterate 3 (focus first|(simp(disch:=omega)only[go_sem]<;>rfl)|rfl)))))
   |((first|(with_reducible apply Ga)|(with_reducible apply G9));(focus simp only[Nat.reduceAdd]<;>rfl);(focus simp(disch:=omega)only[go_sem]<;>rfl);(focus first|(simp(disch:=omega)only[go_sem]<;>rfl)|rfl))
   |with_reducible apply Ec
   |with_reducible apply Eb
   |with_reducible apply DX
   |with_reducible apply DW
   |with_reducible apply D1
   |with_reducible apply D0
   |with_reducible apply CZ
   |with_reducible apply CX rfl
   |with_reducible apply CV
   |with_reducible apply CU
   |with_reducible apply CT
   |with_reducible apply G3
   |with_reducible apply G2
   |((with_reducible apply Nt);(iterate 2 (focus first|(simp(disch:=omega)only[go_sem]<;>rfl)|rfl)))
   |((first|(with_reducible apply Ns)|(with_reducible apply Nr)|(with_reducible apply Nq));(iterate 2 (focus first|(simp(disch:=omega)only[go_sem]<;>rfl)|rfl)))
   |with_reducible apply Ce
   |with_reducible apply D3
   |with_reducible apply Ee
   |with_reducible apply Cd
   |with_reducible apply Cc
   |((with_reducible apply JQ);(focus first|(simp(disch:=omega)only[go_sem]<;>rfl)|rfl))
   |((with_reducible apply JS);(focus first|(simp(disch:=omega)only[go_sem]<;>rfl)|rfl))
   |((with_reducible apply DZ);(focus rfl))
   |((with_reducible apply E3);(focus rfl);(focus rfl))
   |(with_reducible rfl)
   |((with_reducible show List.map AS _=_);simp only[List.map_cons,List.map_nil,AS,C7];rfl)
   |((with_reducible show By _ _=true);kernel_rfl)
   |((with_reducible show _=_);simp(disch:=omega)only[go_sem]<;>rfl)
   |((fail_if_success (with_reducible show Ev _ _ _ _ (_::_) _ _ _ _ _));(show Ev _ _ _ _ (_::_) _ _ _ _ _))
   |fail)
  first|done|exact r_
 ·first|exact(Any.mk:Any True)|exact Any.mk):G:=(h r).1
theorem AI{A G R:Prop}(x:A)(r:R)(h:A→R→G∧Any R:=by
 intro x_ r_;refine⟨?_,?_⟩
 ·repeat (first
   |with_reducible exact Ev.nil
   |with_reducible exact Jy
   |((with_reducible apply FZ);rfl)
   |((with_reducible apply C8);rfl)
   |((with_reducible apply DV);rfl)
   |with_reducible apply DY
   |with_reducible apply Ed
   |with_reducible apply D2
   |((with_reducible apply JR rfl rfl);(focus simp only[Nat.reduceAdd]<;>rfl))
   |((with_reducible apply JT mixed rfl rfl);(focus simp only[Nat.reduceAdd]<;>rfl))
   |((with_reducible apply JU);(focus first|(apply Ex;(focus rfl);rfl)|(apply Ey;(focus rfl);(focus rfl);rfl)))
   |((with_reducible apply G6);(focus first|(apply Ex;(focus rfl);rfl)|(apply Ey;(focus rfl);(focus rfl);rfl)))
   |with_reducible apply Jx
   |with_reducible apply Gc
   |with_reducible apply Ge
   |with_reducible apply Gd
   |with_reducible apply Gf
   |((first|(with_reducible apply G7)|(with_reducible apply Eg));(focus rfl))
   |((first|(with_reducible apply G8)|(with_reducible apply Eh));(focus rfl))
   |(apply Jq;(focus simp(disch:=omega)only[go_sem,x_]<;>rfl);(focus first|exact c0_|exact c1_|exact c2_|exact c3_|exact c4_|exact c5_|exact c6_|exact c7_|exact c8_|exact c9_|exact c10_|exact c11_);(focus rfl);(focus first|(simp(disch:=omega)only[go_sem,x_]<;>rfl)|rfl))
   |((with_reducible apply F3);(focus simp only[Nat.reduceAdd]<;>rfl);(focus simp(disch:=omega)only[go_sem,x_]<;>rfl))
   |((first|apply NR|apply NQ);(focus simp only[Nat.reduceAdd]<;>rfl);(focus rfl);(iterate 2 (focus simp(disch:=omega)only[go_sem,x_]<;>rfl));(first
      |(exact c0_;(iterate 2 (focus first|(simp(disch:=omega)only[go_sem,x_]<;>rfl)|rfl));(focus rfl);(iterate 4 (focus first|(simp(disch:=omega)only[go_sem,x_]<;>rfl)|rfl)))
      |(exact c1_;(iterate 2 (focus first|(simp(disch:=omega)only[go_sem,x_]<;>rfl)|rfl));(focus rfl);(iterate 4 (focus first|(simp(disch:=omega)only[go_sem,x_]<;>rfl)|rfl)))
      |(exact c2_;(iterate 2 (focus first|(simp(disch:=omega)only[go_sem,x_]<;>rfl)|rfl));(focus rfl);(iterate 4 (focus first|(simp(disch:=omega)only[go_sem,x_]<;>rfl)|rfl)))
      |(exact c3_;(iterate 2 (focus first|(simp(disch:=omega)only[go_sem,x_]<;>rfl)|rfl));(focus rfl);(iterate 4 (focus first|(simp(disch:=omega)only[go_sem,x_]<;>rfl)|rfl)))
      |(exact c4_;(iterate 2 (focus first|(simp(disch:=omega)only[go_sem,x_]<;>rfl)|rfl));(focus rfl);(iterate 4 (focus first|(simp(disch:=omega)only[go_sem,x_]<;>rfl)|rfl)))
      |(exact c5_;(iterate 2 (focus first|(simp(disch:=omega)only[go_sem,x_]<;>rfl)|rfl));(focus rfl);(iterate 4 (focus first|(simp(disch:=omega)only[go_sem,x_]<;>rfl)|rfl)))
      |(exact c6_;(iterate 2 (focus first|(simp(disch:=omega)only[go_sem,x_]<;>rfl)|rfl));(focus rfl);(iterate 4 (focus first|(simp(disch:=omega)only[go_sem,x_]<;>rfl)|rfl)))
      |(exact c7_;(iterate 2 (focus first|(simp(disch:=omega)only[go_sem,x_]<;>rfl)|rfl));(focus rfl);(iterate 4 (focus first|(simp(disch:=omega)only[go_sem,x_]<;>rfl)|rfl)))
      |(exact c8_;(iterate 2 (focus first|(simp(disch:=omega)only[go_sem,x_]<;>rfl)|rfl));(focus rfl);(iterate 4 (focus first|(simp(disch:=omega)only[go_sem,x_]<;>rfl)|rfl)))
      |(exact c9_;(iterate 2 (focus first|(simp(disch:=omega)only[go_sem,x_]<;>rfl)|rfl));(focus rfl);(iterate 4 (focus first|(simp(disch:=omega)only[go_sem,x_]<;>rfl)|rfl)))
      |(exact c10_;(iterate 2 (focus first|(simp(disch:=omega)only[go_sem,x_]<;>rfl)|rfl));(focus rfl);(iterate 4 (focus first|(simp(disch:=omega)only[go_sem,x_]<;>rfl)|rfl)))
      |(exact c11_;(iterate 2 (focus first|(simp(disch:=omega)only[go_sem,x_]<;>rfl)|rfl));(focus rfl);(iterate 4 (focus first|(simp(disch:=omega)only[go_sem,x_]<;>rfl)|rfl)))))
   |(apply Jp;(focus rfl);(focus simp(disch:=omega)only[go_sem,x_]<;>rfl);(focus first|exact c0_|exact c1_|exact c2_|exact c3_|exact c4_|exact c5_|exact c6_|exact c7_|exact c8_|exact c9_|exact c10_|exact c11_);(iterate 3 (focus first|(simp(disch:=omega)only[go_sem,x_]<;>rfl)|rfl)))
   |((first|apply Gt|apply Gs);(focus simp only[Nat.reduceAdd]<;>rfl);(focus rfl);(iterate 2 (focus simp(disch:=omega)only[go_sem,x_]<;>rfl));(first
      |(exact c0_;(iterate 2 (focus first|(simp(disch:=omega)only[go_sem,x_]<;>rfl)|rfl));(focus rfl);(iterate 3 (focus first|(simp(disch:=omega)only[go_sem,x_]<;>rfl)|rfl)))
      |(exact c1_;(iterate 2 (focus first|(simp(disch:=omega)only[go_sem,x_]<;>rfl)|rfl));(focus rfl);(iterate 3 (focus first|(simp(disch:=omega)only[go_sem,x_]<;>rfl)|rfl)))
      |(exact c2_;(iterate 2 (focus first|(simp(disch:=omega)only[go_sem,x_]<;>rfl)|rfl));(focus rfl);(iterate 3 (focus first|(simp(disch:=omega)only[go_sem,x_]<;>rfl)|rfl)))
      |(exact c3_;(iterate 2 (focus first|(simp(disch:=omega)only[go_sem,x_]<;>rfl)|rfl));(focus rfl);(iterate 3 (focus first|(simp(disch:=omega)only[go_sem,x_]<;>rfl)|rfl)))
      |(exact c4_;(iterate 2 (focus first|(simp(disch:=omega)only[go_sem,x_]<;>rfl)|rfl));(focus rfl);(iterate 3 (focus first|(simp(disch:=omega)only[go_sem,x_]<;>rfl)|rfl)))
      |(exact c5_;(iterate 2 (focus first|(simp(disch:=omega)only[go_sem,x_]<;>rfl)|rfl));(focus rfl);(iterate 3 (focus first|(simp(disch:=omega)only[go_sem,x_]<;>rfl)|rfl)))
      |(exact c6_;(iterate 2 (focus first|(simp(disch:=omega)only[go_sem,x_]<;>rfl)|rfl));(focus rfl);(iterate 3 (focus first|(simp(disch:=omega)only[go_sem,x_]<;>rfl)|rfl)))
      |(exact c7_;(iterate 2 (focus first|(simp(disch:=omega)only[go_sem,x_]<;>rfl)|rfl));(focus rfl);(iterate 3 (focus first|(simp(disch:=omega)only[go_sem,x_]<;>rfl)|rfl)))
      |(exact c8_;(iterate 2 (focus first|(simp(disch:=omega)only[go_sem,x_]<;>rfl)|rfl));(focus rfl);(iterate 3 (focus first|(simp(disch:=omega)only[go_sem,x_]<;>rfl)|rfl)))
      |(exact c9_;(iterate 2 (focus first|(simp(disch:=omega)only[go_sem,x_]<;>rfl)|rfl));(focus rfl);(iterate 3 (focus first|(simp(disch:=omega)only[go_sem,x_]<;>rfl)|rfl)))
      |(exact c10_;(iterate 2 (focus first|(simp(disch:=omega)only[go_sem,x_]<;>rfl)|rfl));(focus rfl);(iterate 3 (focus first|(simp(disch:=omega)only[go_sem,x_]<;>rfl)|rfl)))
      |(exact c11_;(iterate 2 (focus first|(simp(disch:=omega)only[go_sem,x_]<;>rfl)|rfl));(focus rfl);(iterate 3 (focus first|(simp(disch:=omega)only[go_sem,x_]<;>rfl)|rfl)))))
   |((first|apply Qd|apply Qc);(focus simp only[Nat.reduceAdd]<;>rfl);(focus rfl);(iterate 2 (focus simp(disch:=omega)only[go_sem,x_]<;>rfl));(first
      |(exact c0_;(iterate 2 (focus first|(simp(disch:=omega)only[go_sem,x_]<;>rfl)|rfl));(focus rfl);(iterate 3 (focus first|(simp(disch:=omega)only[go_sem,x_]<;>rfl)|rfl)))
      |(exact c1_;(iterate 2 (focus first|(simp(disch:=omega)only[go_sem,x_]<;>rfl)|rfl));(focus rfl);(iterate 3 (focus first|(simp(disch:=omega)only[go_sem,x_]<;>rfl)|rfl)))
      |(exact c2_;(iterate 2 (focus first|(simp(disch:=omega)only[go_sem,x_]<;>rfl)|rfl));(focus rfl);(iterate 3 (focus first|(simp(disch:=omega)only[go_sem,x_]<;>rfl)|rfl)))
      |(exact c3_;(iterate 2 (focus first|(simp(disch:=omega)only[go_sem,x_]<;>rfl)|rfl));(focus rfl);(iterate 3 (focus first|(simp(disch:=omega)only[go_sem,x_]<;>rfl)|rfl)))
      |(exact c4_;(iterate 2 (focus first|(simp(disch:=omega)only[go_sem,x_]<;>rfl)|rfl));(focus rfl);(iterate 3 (focus first|(simp(disch:=omega)only[go_sem,x_]<;>rfl)|rfl)))
      |(exact c5_;(iterate 2 (focus first|(simp(disch:=omega)only[go_sem,x_]<;>rfl)|rfl));(focus rfl);(iterate 3 (focus first|(simp(disch:=omega)only[go_sem,x_]<;>rfl)|rfl)))
      |(exact c6_;(iterate 2 (focus first|(simp(disch:=omega)only[go_sem,x_]<;>rfl)|rfl));(focus rfl);(iterate 3 (focus first|(simp(disch:=omega)only[go_sem,x_]<;>rfl)|rfl)))
      |(exact c7_;(iterate 2 (focus first|(simp(disch:=omega)only[go_sem,x_]<;>rfl)|rfl));(focus rfl);(iterate 3 (focus first|(simp(disch:=omega)only[go_sem,x_]<;>rfl)|rfl)))
      |(exact c8_;(iterate 2 (focus first|(simp(disch:=omega)only[go_sem,x_]<;>rfl)|rfl));(focus rfl);(iterate 3 (focus first|(simp(disch:=omega)only[go_sem,x_]<;>rfl)|rfl)))
      |(exact c9_;(iterate 2 (focus first|(simp(disch:=omega)only[go_sem,x_]<;>rfl)|rfl));(focus rfl);(iterate 3 (focus first|(simp(disch:=omega)only[go_sem,x_]<;>rfl)|rfl)))
      |(exact c10_;(iterate 2 (focus first|(simp(disch:=omega)only[go_sem,x_]<;>rfl)|rfl));(focus rfl);(iterate 3 (focus first|(simp(disch:=omega)only[go_sem,x_]<;>rfl)|rfl)))
      |(exact c11_;(iterate 2 (focus first|(simp(disch:=omega)only[go_sem,x_]<;>rfl)|rfl));(focus rfl);(iterate 3 (focus first|(simp(disch:=omega)only[go_sem,x_]<;>rfl)|rfl)))))
   |((first|(with_reducible apply Ga)|(with_reducible apply G9));(focus simp only[Nat.reduceAdd]<;>rfl);(focus simp(disch:=omega)only[go_sem,x_]<;>rfl);(focus first|(simp(disch:=omega)only[go_sem,x_]<;>rfl)|rfl))
   |with_reducible apply Ec
   |with_reducible apply Eb
   |with_reducible apply DX
   |with_reducible apply DW
   |with_reducible apply D1
   |with_reducible apply D0
   |with_reducible apply CZ
   |with_reducible apply CX rfl
   |with_reducible apply CV
   |with_reducible apply CU
   |with_reducible apply CT
   |with_reducible apply G3
   |with_reducible apply G2
   |((with_reducible apply Nt);(iterate 2 (focus first|(simp(disch:=omega)only[go_sem,x_]<;>rfl)|rfl)))
   |((first|(with_reducible apply Ns)|(with_reducible apply Nr)|(with_reducible apply Nq));(iterate 2 (focus first|(simp(disch:=omega)only[go_sem,x_]<;>rfl)|rfl)))
   |with_reducible apply Ce
   |with_reducible apply D3
   |with_reducible apply Ee
   |with_reducible apply Cd
   |with_reducible apply Cc
   |((with_reducible apply JQ);(focus first|(simp(disch:=omega)only[go_sem,x_]<;>rfl)|rfl))
   |((with_reducible apply JS);(focus first|(simp(disch:=omega)only[go_sem,x_]<;>rfl)|rfl))
   |((with_reducible apply DZ);(focus rfl))
   |((with_reducible apply E3);(focus rfl);(focus rfl))
   |(with_reducible rfl)
   |((with_reducible show List.map AS _=_);simp only[List.map_cons,List.map_nil,AS,C7];rfl)
   |((with_reducible show By _ _=true);kernel_rfl)
   |((with_reducible show _=_);simp(disch:=omega)only[go_sem,x_]<;>rfl)
   |((fail_if_success (with_reducible show Ev _ _ _ _ (_::_) _ _ _ _ _));(show Ev _ _ _ _ (_::_) _ _ _ _ _))
   |fail)
  first|done|exact r_
 ·first|exact(Any.mk:Any True)|exact Any.mk):G:=(h x r).1
end Go.Eng
namespace Go.Eng
open Go.RowKit
open Go.ChangeMaps (setBlock)
theorem OE{l:List AV}{ds:List D}(h:CE l=some ds)(i:Nat)(d:D)(hd:ds[i]? =some d):l[i]? =some (.d d)∧d.cell=true:=⟨((EP h).2 i d hd).2,((EP h).2 i d hd).1⟩
mutual
def frz(hp:A8):AV→Option AV
 |.ref k off=>match lk hp k with
  |some (.var cs)=>match CE cs with|some ds=>some (.dref (ds.drop off))|none=>none
  |_=>none
 |.fn f cs=>match frzs hp cs with|some cs'=>some (.fn f cs')|none=>none
 |.d x=>some (.d x)
 |.dref f=>some (.dref f)
 |.undef=>some .undef
 |.agg _=>none| .tup _=>none| .own .. => none| .clip .. => none| .eref .. => none| .map _=>none| .it _=>none| .vs .. => none| .yld _=>none
 |.tab .. => none| .trow .. => none| .toref .. => none| .tref .. => none| .rv .. => none| .mref .. => none
def frzs(hp:A8):List AV→Option (List AV)
 | []=>some []
 |a::l=>match frz hp a with
  |some a'=>match frzs hp l with|some l'=>some (a'::l')|none=>none
  |none=>none
end
section
variable {X:C6} {hp:A8} {ν:Nat→Value} {used:Nat→Prop} {w:World}
mutual
theorem A3.frz(hI:Ai X (lk hp) ν used w){M':Nat→Prop}{H':Nat→Option HO}{ν':Nat→Value}{used':Nat→Prop}(hM:∀b,M' b→X.M0 b):∀(av av':AV) (v:Value),A3 w (Ag X.M0 (lk hp) ν) (lk hp) ν used av v→Eng.frz hp av=some av'→A3 w M' H' ν' used' av' v
 |.undef,av',v,h,he=>by simp[Eng.frz]at he;subst he;exact .undef v
 |.d x,av',v,h,he=>by
  simp[Eng.frz]at he;subst he;cases h with|d h=>exact .d (h.mono (AJ.refl _ _) (fun b _ hb=>.inl (hM b hb)))
 |.dref f,av',v,h,he=>by
  simp[Eng.frz]at he;subst he;cases h with|dref val hb hM' hc h1 h2=>exact .dref val hb (fun hh=>hM' (.inl (hM _ hh))) hc h1 (fun j d hd=>(h2 j d hd).mono (AJ.refl _ _) (fun b _ hb=>.inl (hM b hb)))
 |.fn f cs,av',v,h,he=>by
  simp only[Eng.frz]at he;split at he
  ·rename_i cs' hcs;cases he;cases h with
   |fn hl h =>
    obtain⟨l1,l2⟩:=A3.frzs hI hM cs cs' _ h hcs hl;exact .fn l1 l2
  ·cases he
 |.ref k off,av',v,h,he=>by
  simp only[Eng.frz]at he;split at he
  ·rename_i cs hk;split at he
   ·rename_i ds hds;cases he;cases h with
    |ref hu h =>
     obtain⟨cs0,b,e0,hν,rfl⟩:=h _ hk;cases e0;obtain⟨b',cells,e,hν',hg,hsz,hc,hr⟩:=hI.obj _ _ hk;rw[hν]at hν';cases hν';have hbk:Au (ν k) b:=by rw[hν];exact rfl
     have hget:∀(j:Nat) d,(ds.drop off)[j]? =some d→∃u,cells[off+j]? =some u∧Ae w X.M0 d u∧d.cell=true:=fun j d hd=>by
      rw[List.getElem?_drop]at hd;obtain⟨h1,h2⟩:=OE hds _ _ hd;have hlt:off+j<cells.size:=by rw[hsz];exact(List.getElem?_eq_some_iff.1 h1).1
      refine⟨cells[off+j],Array.getElem?_eq_getElem hlt,?_,h2⟩;have:=hr _ _ _ h1 (Array.getElem?_eq_getElem hlt);cases this with
      |d h=>exact h.mono (AJ.refl _ _) (fun b _ hb=>.inl hb)
     refine .dref (fun j=>(cells[off+j]?).getD Go.undef) (hI.blk _ _ _ hk hbk).2 (fun hh=>hI.far _ _ _ hk hbk (hM _ hh)) (fun d hd=>?_) (fun j d hd=>?_) (fun j d hd=>?_)
     ·obtain⟨j,hj⟩:=List.mem_iff_getElem?.1 hd;obtain⟨u,_,_,h3⟩:=hget j d hj;exact h3
     ·obtain⟨u,h1,h2,_⟩:=hget j d hd;rw[Addr.add_lit];simp[World.cell?,hg,h1]
     ·obtain⟨u,h1,h2,_⟩:=hget j d hd;rw[h1];exact h2.mono (AJ.refl _ _) (fun b _ hb=>hM b hb)
   ·cases he
  ·cases he
 |.agg _,av',v,h,he=>by simp[Eng.frz]at he
 |.tup _,av',v,h,he=>by simp[Eng.frz]at he
 |.own _ _,av',v,h,he=>by simp[Eng.frz]at he
 |.clip _ _,av',v,h,he=>by simp[Eng.frz]at he
 |.eref _ _ _ _ _,av',v,h,he=>by simp[Eng.frz]at he
 |.rv _ _ _ _ _,av',v,h,he=>by simp[Eng.frz]at he
 |.mref _ _ _,av',v,h,he=>by simp[Eng.frz]at he
 |.map _,av',v,h,he=>by simp[Eng.frz]at he
 |.it _,av',v,h,he=>by simp[Eng.frz]at he
 |.vs _ _ _,av',v,h,he=>by simp[Eng.frz]at he
 |.yld _,av',v,h,he=>by simp[Eng.frz]at he
 |.tab _ _,av',v,h,he=>by simp[Eng.frz]at he
 |.trow _ _ _,av',v,h,he=>by simp[Eng.frz]at he
 |.toref _ _ _ _ _,av',v,h,he=>by simp[Eng.frz]at he
 |.tref _ _ _ _ _ _,av',v,h,he=>by simp[Eng.frz]at he
theorem A3.frzs(hI:Ai X (lk hp) ν used w){M':Nat→Prop}{H':Nat→Option HO}{ν':Nat→Value}{used':Nat→Prop}(hM:∀b,M' b→X.M0 b):∀(l l':List AV) (zs:List Value),(∀(i:Nat) d v,l[i]? =some d→zs[i]? =some v→A3 w (Ag X.M0 (lk hp) ν) (lk hp) ν used d v)→Eng.frzs hp l=some l'→l.length=zs.length →
 l'.length=zs.length∧∀(i:Nat) d v,l'[i]? =some d→zs[i]? =some v→A3 w M' H' ν' used' d v
 | [],l',zs,h,he,hl=>by simp[Eng.frzs]at he;subst he;exact⟨hl,fun i d v hd=>by simp at hd⟩
 |a::l,l',[],h,he,hl=>by simp at hl
 |a::l,l',u::zs,h,he,hl=>by
  simp only[Eng.frzs]at he;split at he
  ·rename_i a' ha;split at he
   ·rename_i l2 hl2;cases he;have h0:=A3.frz hI (H':=H') (ν':=ν') (used':=used') hM a a' u (h 0 a u rfl rfl) ha;obtain⟨g1,g2⟩:=A3.frzs hI (H':=H') (ν':=ν') (used':=used') hM l l2 zs (fun i d v hd hv=>h (i+1) d v (by simpa using hd) (by simpa using hv)) hl2 (by simpa using hl);refine⟨by simp[g1],fun i d v hd hv=>?_⟩;cases i with
    |zero=>simp at hd hv;subst hd;subst hv;exact h0
    |succ i=>exact g2 i d v (by simpa using hd) (by simpa using hv)
   ·cases he
  ·cases he
end
end
theorem FW{w:World}{b:Nat}{ob:Obj}(h:w.heap[b]? =some ob):setBlock w b ob=w:=by
 have:w.heap.setIfInBounds b ob=w.heap:=by
  refine Array.ext_getElem? fun i=>?_;rw[Array.getElem?_setIfInBounds];split
  ·rename_i e;subst e;rw[h];simp[(Array.getElem?_eq_some_iff.1 h).1]
  ·rfl
 unfold setBlock;rw[this]
section
variable {P:Program} {S:Sp} {Q:Exit→St→Prop}
theorem F4.ownv{E:Bf}{hp:A8}{c:Nat}{a:Act}{w:World}(h:F4 S ⟨E,hp,c⟩ a w)(k i k' e sz:Nat){cs:List AV}(hl:lk hp k=some (.var cs))(hi:cs[i]? =some (.d .nils))(hz:0<sz)(hk:c≤k') :
 F4 S ⟨E,put (put hp k' (.row e sz [])) k (.var (cs.set i (.own k' 0))),k'+1⟩ a w:=by
 obtain⟨hle,ν,hI,hx⟩:=h;simp only at hI hx hle;have hkc:k<c:=hI.heap.usd _ _ hl;have hne:k≠k':=by omega
 have x1:=BB.fresh (M0:=S.X.M0) (hp:=hp) (ν:=ν) (used:=(·< c)) (w:=w) (w':=w) (k:=k') (.row e sz []) (.slice none 0 0) (by omega) (Nat.le_refl _) (fun _ _=>rfl) (fun b hb=>by simp[Au,Aa]at hb) hI.heap.usd;have i1:=hI.heap.step (k:=k') (o:=.row e sz []) (v:=.slice none 0 0) (Bl.refl _ _) x1 (.inr rfl) (fun b hb=>by simp[Au,Aa]at hb) (fun q o' b _ hq hb=>rfl)
  ⟨[],⟨by simp,.inl ⟨rfl,rfl⟩⟩,hz,fun x hx=>by simp at hx,fun i x j d hx=>by simp at hx⟩
 have hu:∀q,(q<c∨q=k')→q<k'+1:=fun q hq=>by omega
 have i2:=i1.used_mono hu (fun q _ hn=>by
  cases ho:lk (put hp k' (.row e sz [])) q with
  |none=>rfl
  |some o=>exact absurd (i1.usd _ _ ho) hn)
 have x2:BB (Ag S.X.M0 (lk (put hp k' (.row e sz []))) (upd ν k' (.slice none 0 0))) (lk (put hp k' (.row e sz []))) (upd ν k' (.slice none 0 0)) (fun q=>q<c∨q=k') w (Ag S.X.M0 (lk (put hp k' (.row e sz []))) (upd ν k' (.slice none 0 0))) (lk (put hp k' (.row e sz []))) (upd ν k' (.slice none 0 0)) (·< k'+1) w :=
  ⟨AJ.refl _ _,fun _ _ h=>h,hu,fun q _ o ho=>⟨o,ho,HO.later.refl _,HO.keeps_of⟩,AJ.refl _ _,fun _ _ h=>h⟩
 have hl2:lk (put hp k' (.row e sz [])) k=some (.var cs):=by rw[A5 _ _ _ _ hne];exact hl
 obtain⟨b,cells,et,h1,h2,h3,h4,h5⟩:=i2.obj _ _ hl2;have hbk:Au (upd ν k' (.slice none 0 0) k) b:=by rw[h1];exact rfl
 obtain⟨i3,x3⟩:=i2.turn (o':=.var (cs.set i (.own k' 0))) hl2 hbk (w1:=w) (.inl rfl) (.cells cells et (0,0)) (by simp[HO.later]) (fun M' H' hx'=>by
  rw[FW h2]at hx' ⊢;refine⟨b,cells,et,h1,h2,by simp[h3],fun x hx=>?_,fun j av u hj hu=>?_⟩
  ·rcases List.mem_or_eq_of_mem_set hx with h|h
   ·exact h4 x h
   ·subst h;rfl
  ·rw[List.getElem?_set]at hj;split at hj
   ·rename_i ej;subst ej;split at hj
    ·cases hj;have hr:=h5 _ _ _ hi hu;cases hr with
     |d hr =>
      cases hr;refine .own (by show k'<k'+1;omega) rfl ⟨Nat.le_refl _,Nat.zero_le _⟩ (fun _=>⟨rfl,rfl⟩) fun o ho=>?_;obtain⟨o0,ho0,hlt,hst⟩:=hx'.obj k' (by show k'<k'+1;omega) o ho;rw[A9]at ho0;cases ho0;cases o with
      |row e' sz' xs'=>exact⟨_,_,_,rfl,Nat.zero_le _,fun _=>by rw[A6]⟩
      |var _=>exact hlt.elim
      |map _ _ _=>exact hlt.elim
      |iter _ _ _=>exact hlt.elim
      |loop _ _ _=>exact hlt.elim
      |tab _ _ _=>exact hlt.elim
    ·cases hj
   ·exact(h5 j av u hj hu).ext hx')
 rw[FW h2]at i3 x3;have xa:=(x1.trans x2).trans x3;exact⟨by show S.R.c≤k'+1;omega,_,⟨i3,fun m av hm=>(hI.env m av hm).ext xa,hI.size,hI.defers.mono xa.same xa.shrink⟩,hx.trans xa⟩
theorem NM{code:Code}{E:Bf}{hp hp':A8}{c:Nat}(k i k' e sz:Nat){cs:List AV}(hl:lk hp k=some (.var cs))(hi:cs[i]? =some (.d .nils))(hz:0<sz)(hk:c≤k')(hh:put (put hp k' (.row e sz [])) k (.var (cs.set i (.own k' 0)))=hp')
 (h:WP P S code ⟨E,hp',k'+1⟩ Q):WP P S code ⟨E,hp,c⟩ Q :=
 fun a w hr=>h a w (hh▸hr.ownv k i k' e sz hl hi hz hk)
end
theorem A1.nil_at{P:Program}{g:FuncId}{ds:List D}{r:D}{sz:Nat}(i:Nat)(hi:ds[i]? =some (.sl sz []))(h1:A1 P g (ds.set i .nils) r)(h2:A1 P g (ds.set i (.emp sz)) r):A1 P g ds r:=by
 intro w M vs hW hM hl hv;have hlt:=(List.getElem?_eq_some_iff.1 hi).1;have hvi:=List.getElem?_eq_getElem (l:=vs) (i:=i) (by omega);have gen:∀d,Ae w M d (vs[i]'(by omega))→∀(j:Nat) d' v,(ds.set i d)[j]? =some d'→vs[j]? =some v→Ae w M d' v:=fun d hd j d' v hj hvj=>by
  rw[List.getElem?_set]at hj;split at hj
  ·rename_i e;subst e;cases hj;rw[hvi]at hvj;cases hvj;exact hd
  ·exact hv j d' v hj hvj
 rcases(hv i _ _ hi hvi).nil_emp with h|h
 ·exact h1 w M vs hW hM (by simpa using hl) (gen _ h)
 ·exact h2 w M vs hW hM (by simpa using hl) (gen _ h)
theorem Ef.nil_at{C:World→List Value→(Ending→World→Prop)→Prop}{az:List AV}{hp hp':A8}{r:AV}{n sz:Nat}(i:Nat)(hi:az[i]? =some (.d (.sl sz [])))(h1:Ef C (az.set i (.d .nils)) hp r hp' n)(h2:Ef C (az.set i (.d (.emp sz))) hp r hp' n):Ef C az hp r hp' n:=by
 intro X ν w vs hI hl hv;have hlt:=(List.getElem?_eq_some_iff.1 hi).1;have hvi:=List.getElem?_eq_getElem (l:=vs) (i:=i) (by omega);have gen:∀d,A3 w (Ag X.M0 (lk hp) ν) (lk hp) ν (·< n) d (vs[i]'(by omega))→∀(j:Nat) d' v,(az.set i d)[j]? =some d'→vs[j]? =some v→A3 w (Ag X.M0 (lk hp) ν) (lk hp) ν (·< n) d' v:=fun d hd j d' v hj hvj=>by
  rw[List.getElem?_set]at hj;split at hj
  ·rename_i e;subst e;cases hj;rw[hvi]at hvj;cases hvj;exact hd
  ·exact hv j d' v hj hvj
 have hr:=hv i _ _ hi hvi;cases hr with
 |d hr =>
  rcases hr.nil_emp with h|h
  ·exact h1 X ν w vs hI (by simpa using hl) (gen _ (.d h))
  ·exact h2 X ν w vs hI (by simpa using hl) (gen _ (.d h))
theorem Ef.wk{C:World→List Value→(Ending→World→Prop)→Prop}{az as':List AV}{hp hp':A8}{r:AV}{n:Nat}(h:Ef C as' hp r hp' n)(hl:az.length=as'.length)
 (hw:∀(i:Nat) a a',az[i]? =some a→as'[i]? =some a'→a=a'∨∃d d',a= .d d∧a'= .d d'∧Wk d d'):Ef C az hp r hp' n:=by
 intro X ν w vs hI hlen hv;refine h X ν w vs hI (by omega) fun i a' v ha' hvi=>?_;have hlt:=(List.getElem?_eq_some_iff.1 ha').1;have ha:=List.getElem?_eq_getElem (l:=az) (i:=i) (by omega);have hr:=hv i _ v ha hvi;rcases hw i _ a' ha ha' with e|⟨d,d',e1,e2,hw⟩
 ·rw[← e];exact hr
 ·subst e2;rw[e1]at hr;cases hr with
  |d hr=>exact .d (hr.wk hw)
theorem It{P:Program}{S:Sp}{Q:Exit→St→Prop}{code:Code}{E:Bf}{hp hp':A8}{c:Nat}(n:Nat){av:AV}{d:D}{ks:List Nat}(hl:lk E n=some av)(hd:Bj (lk hp) av=some (d,ks))(hh:Bk hp ks=hp')(h:WP P S code ⟨(n,.d d)::E,hp',c⟩ Q):WP P S code ⟨E,hp,c⟩ Q :=
 SM n hl hd (hh▸h)
attribute [go_sem] Lc Kg J7 GY Ci RV So KG frz frzs G1 List.set_cons_zero List.set_cons_succ List.zip_cons_cons List.zip_nil_right List.foldl_cons List.foldl_nil D.flat Ju AV.rn HO.rn AV.ks GM HO.ks sg Dd K3 DN Bd fresh List.filter Sz Dl opnd lk FT LA F2 Kk Dc Gj Eu IB Ov Ea ON SS EL FB FA FC HQ Ba Bw B9 L0 BG BH CB BJ Fk Hp CW Ca DC D8 FO EN CP IA Dj DB C9 Qs Qt Dn C5 BI Sm Sn Tb.inn Tb.ilen Tb.nilAt Tb.ini D.put DQ Cy EM Bs Kl Dq CA Cz Dk Dm CE AV.kb Ad List.getLast?_append MU EX KI Hi A2 List.replicate_zero List.take_length ofInt Ki GU GV Hq GX Mj Dr CO Bj DK MB LN Ad D.comps AV.comps AV.sto D.cell D.rebuild Cx Do CD put Dg B3 gd DP K9 Option.map_some Option.map_none Option.bind_some Option.isSome_some List.map_cons List.map_nil List.append_nil List.nil_append List.cons_append List.length_cons List.length_nil List.length_map List.length_append List.take_zero List.take_succ_cons List.take_nil List.drop_zero List.drop_succ_cons List.drop_nil List.getElem?_cons_zero List.getElem?_cons_succ List.getElem?_map List.all_cons List.all_nil List.mem_cons List.not_mem_nil List.elem_cons List.elem_nil Bool.and_true Bool.true_and Bool.and_self Bool.not_true Bool.not_false Bool.or_true Bool.or_false and_self and_true true_and or_false false_or or_true true_or not_false_eq_true not_true_eq_false if_true if_false decide_true decide_false decide_eq_true_eq Int.toNat_natCast Int.toNat_zero beq_self_eq_true bne_self_eq_false Bool.false_eq_true Nat.add_zero Nat.zero_add GD Sl Sg SA Sk Sf Sj R9 Q5 Q6 Od SK N4 KA Kz MK ML wrap_i64 Iu Nd Li Ne Lj Q2 Q3 PZ Q0 N5 gt_iff_lt ge_iff_le
attribute [go_sem ↓] Pv reduceIte
attribute [go_sem] reduceCtorEq Nat.reduceEqDiff Nat.reduceAdd Nat.reduceSub Nat.reduceMul Nat.reduceLeDiff Nat.reduceLT Nat.reduceBEq Nat.reduceBNe Int.reduceToNat Int.reduceLT Int.reduceLE Int.reduceEq Int.reduceAdd Int.reduceSub Int.reduceNeg Int.reduceBEq Int.reduceBNe
end Go.Eng
namespace Go.Eng
theorem FZ{α:Type}{E:List (Nat×α)}{n:Nat}{v:Option α}(h:lk E n=v):lk E n=v:=h
theorem C8{ops:Array Oper}{j:Nat}{v:Option Nat}(h:DP ops j=v):DP ops j=v:=h
theorem DV{x:Value}{v:Option D}(h:FT x=v):FT x=v:=h
theorem TC{a b c d e:D}:Fn [a,b,c,d,e]=[(0,.d a),(1,.d b),(2,.d c),(3,.d d),(4,.d e)]:=rfl
theorem TB{a b c d e f:D}:Fn [a,b,c,d,e,f]=[(0,.d a),(1,.d b),(2,.d c),(3,.d d),(4,.d e),(5,.d f)]:=rfl
theorem Rm{a b c d e:AV}:G5 [a,b,c,d,e]=[(0,a),(1,b),(2,c),(3,d),(4,e)]:=rfl
theorem Ty{a b c d e f:AV}:G5 [a,b,c,d,e,f]=[(0,a),(1,b),(2,c),(3,d),(4,e),(5,f)]:=rfl
open Go.ChangeShapes Go.WideShapes Go.ChangeAt Go.RowKit
def MG(p:TypeId→List D→Prop):List TypeId→List D→Prop
 | [],ds=>ds=[]
 |t::ts,ds=>∃a b,ds=a++b∧p t a∧MG p ts b
def Jc(P:Program)(t:TypeId)(ds:List D):D :=
 match P.underlying t with
 |some (.struct _)|some (.array _ _)=>.agg ds
 |_=>ds.headD .nils
def H7(P:Program):Nat→TypeId→List D→Prop
 |0,_,_=>False
 |f+1,t,ds=>match P.underlying t with
  |some .bool=>∃b,ds=[.bool b]
  |some (.int k)=>∃n,ds=[.int k n]∧(Lit.int k n).wf=true
  |some .string=>∃s,ds=[.str s]∧s.size≤maxLen
  |some (.slice e)=>∃xs:List (List D),ds=[.sl (P.cellsOf e) (xs.map (Jc P e))]∧xs.length≤maxLen∧∀x∈xs,H7 P f e x
  |some (.struct fs)=>MG (H7 P f) (fs.toList.map (·.type)) ds
  |some (.array n e)=>MG (H7 P f) (List.replicate n e) ds
  |_=>False
def MN(P:Program):Nat→TypeId→Bool
 |0,_=>false
 |f+1,t=>match P.underlying t with
  |some .bool=>true
  |some (.int _)=>true
  |some .string=>true
  |some (.slice e)=>decide (0<P.cellsOf e)&&MN P f e
  |some (.struct fs)=>fs.toList.all fun g=>MN P f g.type
  |some (.array n e)=>MN P f e
  |_=>false
def ET(w:World)(ds:List D)(cs:List Value):Prop:=ds.length=cs.length∧(∀d∈ds,d.cell=true)∧∀(i:Nat) d v,ds[i]? =some d→cs[i]? =some v→Ae w (fun _=>False) d v
theorem ET.nil{w:World}:ET w [] []:=⟨rfl,by simp,by simp⟩
theorem ET.one{w:World}{d:D}{v:Value}(hc:d.cell=true)(h:Ae w (fun _=>False) d v):ET w [d] [v]:=by
 refine⟨rfl,by simpa using hc,fun i x u hx hu=>?_⟩;cases i with
 |zero=>simp at hx hu;subst hx;subst hu;exact h
 |succ i=>simp at hx
theorem ET.app{w:World}{ds ds':List D}{cs cs':List Value}(h:ET w ds cs)(h':ET w ds' cs'):ET w (ds++ds') (cs++cs'):=by
 obtain⟨h1,h2,h3⟩:=h;obtain⟨k1,k2,k3⟩:=h';refine⟨by simp[h1,k1],fun d hd=>?_,fun i d v hd hv=>?_⟩
 ·rcases List.mem_append.1 hd with hd|hd
  ·exact h2 d hd
  ·exact k2 d hd
 ·by_cases hi:i<ds.length
  ·rw[List.getElem?_append_left hi]at hd;rw[List.getElem?_append_left (by omega)]at hv;exact h3 i d v hd hv
  ·rw[List.getElem?_append_right (by omega)]at hd;rw[List.getElem?_append_right (by omega)]at hv;rw[h1]at hd;exact k3 _ d v hd hv
theorem HF{P:Program}{w:World}{f:Nat}{t:TypeId}{ds:List D}{cs:List Value}(h:H7 P f t ds)(hr:ET w ds cs):(Jc P t ds).comps=ds:=by
 cases f with
 |zero=>exact h.elim
 |succ f =>
  unfold H7 at h;unfold Jc;split at h
  ·rename_i e;obtain⟨b,rfl⟩:=h;simp only[e];rfl
  ·rename_i e;obtain⟨b,rfl,_⟩:=h;simp only[e];rfl
  ·rename_i e;obtain⟨b,rfl,_⟩:=h;simp only[e];rfl
  ·rename_i e;obtain⟨b,rfl,_⟩:=h;simp only[e];rfl
  ·rename_i e;simp only[e];rfl
  ·rename_i e;simp only[e];rfl
  ·exact h.elim
theorem Gh{H:Type}{P:Program}{W:World}{p:TypeId→List D→Prop}(g:TypeId→List Value→Option (DataW H×List MemPlace)):∀(ts:List TypeId) (cs:List Value),cs.length=(ts.map P.cellsOf).sum →
 (∀(i:Nat) t,ts[i]? =some t→∃x,g t ((cs.drop ((ts.take i).map P.cellsOf).sum).take (P.cellsOf t))=some x) →
 (∀t∈ts,∀cs' x,g t cs'=some x→∃ds,p t ds∧ET W ds cs')→∃ds,MG p ts ds∧ET W ds cs
 | [],cs,hl,_,_=>by
   have:cs=[]:=List.eq_nil_of_length_eq_zero (by simpa using hl);subst this;exact⟨[],rfl,ET.nil⟩
 |t::ts,cs,hl,h1,h2=>by
  simp only[List.map_cons,List.sum_cons]at hl;obtain⟨x,hx⟩:=h1 0 t rfl;simp only[List.take_zero,List.map_nil,List.sum_nil,List.drop_zero]at hx;obtain⟨a,ha,ra⟩:=h2 t (by simp) _ _ hx;obtain⟨b,hb,rb⟩:=Gh (P:=P) (W:=W) (p:=p) g ts (cs.drop (P.cellsOf t)) (by simp;omega) (fun i u hu=>by
   obtain⟨y,hy⟩:=h1 (i+1) u (by simpa using hu);simp only[List.take_succ_cons,List.map_cons,List.sum_cons]at hy;exact⟨y,by rw[List.drop_drop];exact hy⟩) (fun u hu=>h2 u (by simp[hu]))
  refine⟨a++b,⟨a,b,rfl,ha,hb⟩,?_⟩;have:=ra.app rb
  rwa [List.take_append_drop]at this
theorem EF{H:Type}{enc:TypeId×Value→H}{P:Program}{W:World}{base:Nat}{spare:Nat→Bool}{held:Bool}(hl:laidOutB P=true):∀(f:Nat) (t:TypeId),MN P f t=true→t<P.types.size→∀(n:Nat) (cs:List Value) (x:DataW H×List MemPlace),
 DataW.trod enc P W base spare held n t cs=some x→∃ds,H7 P f t ds∧ET W ds cs
 |0,t,hs,_,_,_,_,_=>by simp[MN]at hs
 |f+1,t,hs,ht,0,cs,x,h=>by simp[DataW.trod]at h
 |f+1,t,hs,ht,n+1,cs,x,h=>by
  have hx0:=h;rw[DataW.trod_step]at h;unfold DataW.trodStep at h;simp only[MN]at hs;simp only[H7];cases hu:P.underlying t with
  |none=>simp[hu]at hs
  |some u =>
  rw[hu]at h hs;cases u with
  |bool =>
   rcases cs with _|⟨v,_|⟨v',cs'⟩⟩
   ·simp at h
   ·cases v<;>simp at h;exact⟨_,⟨_,rfl⟩,ET.one rfl (.bool _)⟩
   ·simp at h
  |int k =>
   rcases cs with _|⟨v,_|⟨v',cs'⟩⟩
   ·simp at h
   ·cases v<;>simp at h;obtain⟨⟨rfl,hw⟩,-⟩:=h;exact⟨_,⟨_,rfl,hw⟩,ET.one rfl (.int _ _)⟩
   ·simp at h
  |string =>
   rcases cs with _|⟨v,_|⟨v',cs'⟩⟩
   ·simp at h
   ·cases v<;>simp at h;exact⟨_,⟨_,rfl,h.1⟩,ET.one rfl (.str _)⟩
   ·simp at h
  |slice e =>
   simp only[Bool.and_eq_true,decide_eq_true_eq]at hs;have hte:=kid_slice hl ht hu;rcases cs with _|⟨v,_|⟨v',cs'⟩⟩
   ·simp at h
   ·cases v<;>try (simp at h;done)
    rename_i a len cap;cases a with
    |none =>
     have hz:len=0∧cap=0:=by cases len<;>cases cap<;>simp at h<;>simp
     obtain⟨rfl,rfl⟩:=hz;exact⟨_,⟨[],rfl,Nat.zero_le _,by simp⟩,ET.one rfl .sl0⟩
    |some a =>
     simp only at h;split at h
     ·rename_i hb;obtain⟨Fk,he,_⟩:=Option.bind_eq_some_iff.1 h;have hlen:Fk.length=len:=by simpa using mapM_some_length he
      have hds:∀i,∃q:List D×List Value,i<len→W.cells? base (a.add (i * P.cellsOf e)) (P.cellsOf e)=some q.2∧H7 P f e q.1∧ET W q.1 q.2:=fun i=>by
       by_cases hi:i<len
       ·have:=mapM_some_get he i i (by simp[hi]);rw[List.getElem?_eq_getElem (by omega)]at this;obtain⟨cs',h1,h2⟩:=Option.bind_eq_some_iff.1 this;obtain⟨ds,h3,h4⟩:=EF hl f e hs.2 hte n cs' _ h2;exact⟨(ds,cs'),fun _=>⟨h1,h3,h4⟩⟩
       ·exact⟨([],[]),fun h=>absurd h hi⟩
      obtain⟨g,hg⟩:=Classical.axiomOfChoice hds;have at':∀(i:Nat) x,(((List.range len).map fun i=>(g i).1).map (Jc P e))[i]? =some x→i<len∧x=Jc P e (g i).1:=fun i x hx=>by
       have hi:i<len:=by have:=(List.getElem?_eq_some_iff.1 hx).1;simpa using this
       simp only[List.getElem?_map,List.getElem?_range hi,Option.map_some,Option.some.injEq]at hx;exact⟨hi,hx.symm⟩
      refine⟨_,⟨(List.range len).map fun i=>(g i).1,rfl,by simp;omega,fun x hx=>?_⟩,ET.one rfl ?_⟩
      ·obtain⟨i,hi,rfl⟩:=List.mem_map.1 hx;exact(hg i (by simpa using hi)).2.1
      ·have elen:len=(((List.range len).map fun i=>(g i).1).map (Jc P e)).length:=by simp
       conv=>arg 4;rw[elen]
       refine .sl (fun i j=>(g i).2.getD j undef) (fun hn=>?_) (fun _ h=>h) (by rw[← elen];exact hb.2.1) hb.2.2 (fun i x hx=>?_) (fun i x j d hx hj=>?_) (fun i x j d hx hj=>?_)
       ·have h0:0<len:=Nat.pos_of_ne_zero fun e=>hn (by subst e;rfl);have:=World.cells?_block (hg 0 h0).1 hs.1
        rwa [Bm]at this
       ·obtain⟨hi,rfl⟩:=at' i x hx;obtain⟨k1,k2,k3⟩:=hg i hi;obtain⟨_,k4,_⟩:=World.cells?_some k1;rw[HF k2 k3];exact⟨by rw[k3.1,k4],k3.2.1⟩
       ·obtain⟨hi,rfl⟩:=at' i x hx;obtain⟨k1,k2,k3⟩:=hg i hi;obtain⟨_,k4,k5⟩:=World.cells?_some k1;rw[HF k2 k3]at hj;have hjl:j<(g i).2.length:=by have:=(List.getElem?_eq_some_iff.1 hj).1;rw[k3.1]at this;exact this
        rw[← H3,k5 j (by omega),List.getD_eq_getElem?_getD,List.getElem?_eq_getElem hjl];rfl
       ·obtain⟨hi,rfl⟩:=at' i x hx;obtain⟨k1,k2,k3⟩:=hg i hi;rw[HF k2 k3]at hj;have hjl:j<(g i).2.length:=by have:=(List.getElem?_eq_some_iff.1 hj).1;rw[k3.1]at this;exact this
        refine k3.2.2 j d _ hj ?_;rw[List.getD_eq_getElem?_getD,List.getElem?_eq_getElem hjl];rfl
     ·cases h
   ·simp at h
  |struct fs =>
   obtain⟨hty,hsum,hoff⟩:=kid_struct hl ht hu;simp only at h;split at h
   ·rename_i hcl;obtain⟨xs,hxs,_⟩:=Option.map_eq_some_iff.1 h;refine Gh (P:=P) (fun t cs=>DataW.trod enc P W base spare held n t cs) _ cs (by rw[hcl,hsum,List.map_map];rfl) (fun i u hi=>?_) (fun u hu' cs' x hx=>?_)
    ·rw[List.getElem?_map]at hi;obtain⟨fl,hfl,rfl⟩:=Option.map_eq_some_iff.1 hi;have:=mapM_some_get hxs i fl hfl;rw[hoff i fl hfl]at this;have hlt:i<xs.length:=by rw[mapM_some_length hxs];exact(List.getElem?_eq_some_iff.1 hfl).1
     rw[List.getElem?_eq_getElem hlt]at this;refine⟨xs[i],?_⟩;rw[← List.map_take,List.map_map];exact this
    ·obtain⟨fl,hfl,rfl⟩:=List.mem_map.1 hu';exact EF hl f fl.type (List.all_eq_true.1 hs fl hfl) (hty fl hfl) n cs' x hx
   ·cases h
  |array m e =>
   obtain⟨hte,hce⟩:=kid_array hl ht hu;simp only at h;split at h
   ·rename_i hcl;obtain⟨xs,hxs,_⟩:=Option.map_eq_some_iff.1 h;refine Gh (P:=P) (fun t cs=>DataW.trod enc P W base spare held n t cs) _ cs (by rw[hcl,hce,List.map_replicate,List.sum_replicate_nat]) (fun i u hi=>?_) (fun u hu' cs' x hx=>?_)
    ·rw[List.getElem?_replicate]at hi;split at hi
     ·rename_i hi';cases hi;have:=mapM_some_get hxs i i (by simp[hi']);have hlt:i<xs.length:=by rw[mapM_some_length hxs];simpa using hi'
      rw[List.getElem?_eq_getElem hlt]at this;refine⟨xs[i],?_⟩;rw[List.take_replicate,List.map_replicate,List.sum_replicate_nat,Nat.min_eq_left (by omega)];exact this
     ·cases hi
    ·obtain⟨_,rfl⟩:=List.mem_replicate.1 hu';exact EF hl f u hs hte n cs' x hx
   ·cases h
  |_=>simp at hs
theorem LQ{H:Type}{enc:TypeId×Value→H}{P:Program}{W:World}{r:Reach}{b0 base:Nat}{spare:Nat→Bool}{held:Bool}{t:TypeId}{v:Value}{d:DataW H}{ps:List MemPlace}(f:Nat)(hl:laidOutB P=true)(hs:MN P f t=true)(ht:t<P.types.size)
 (hval:Value.okWide P W r b0 t v) (hd:DataW.Trod enc P W base spare held t v d ps):∃ds,H7 P f t ds∧Ae W (fun _=>False) (Jc P t ds) v:=by
 obtain⟨fuel,hd⟩:=hd;obtain⟨ds,h1,h2⟩:=EF hl f t hs ht fuel _ _ hd;refine⟨ds,h1,?_⟩;cases f with
 |zero=>exact h1.elim
 |succ f =>
  unfold H7 at h1;unfold Value.okWide at hval;unfold Jc;have one:∀x,ds=[x]→(∀cs,v≠.agg cs)→(∀cs,v≠.tuple cs)→Ae W (fun _=>False) (ds.headD .nils) v:=fun x hx hv hv'=>by
   subst hx;have hc:v.cells.toList=[v]:=by cases v<;>first|rfl|exact absurd rfl (hv _)|exact absurd rfl (hv' _)
   rw[hc]at h2;exact h2.2.2 0 x v rfl rfl
  have agg:(∃cs,v= .agg cs)→Ae W (fun _=>False) (.agg ds) v:=fun⟨cs,hv⟩=>by
   subst hv;have hc:(Value.agg cs).cells.toList=cs.toList:=rfl;rw[hc]at h2;have:=Ae.agg (w:=W) (M:=fun _=>False) h2.1 h2.2.1 h2.2.2;simpa using this
  cases hu:P.underlying t with
  |none=>simp[hu]at h1
  |some u =>
  have hv1:=hval;simp only[hu]at h1 hval ⊢;cases u with
  |bool =>
   obtain⟨b,hb⟩:=h1;obtain⟨_,rfl⟩:=okWide_bool hu hv1;exact one _ hb (fun _ h=>by cases h) (fun _ h=>by cases h)
  |int k =>
   obtain⟨b,hb,_⟩:=h1;obtain⟨_,rfl⟩:=okWide_int hu hv1;exact one _ hb (fun _ h=>by cases h) (fun _ h=>by cases h)
  |string =>
   obtain⟨b,hb,_⟩:=h1;obtain⟨_,rfl⟩:=okWide_string hu hv1;exact one _ hb (fun _ h=>by cases h) (fun _ h=>by cases h)
  |slice e =>
   obtain⟨b,hb,_⟩:=h1;obtain⟨_,_,_,rfl⟩:=okWide_slice hu hv1;exact one _ hb (fun _ h=>by cases h) (fun _ h=>by cases h)
  |struct fs =>
   obtain⟨cs,hv,_⟩:=hval;exact agg ⟨cs,hv⟩
  |array m e =>
   obtain⟨cs,hv,_⟩:=hval;exact agg ⟨cs,hv⟩
  |_=>exact h1.elim
end Go.Eng
namespace Go.Eng
section
variable {P:Program} {n:Nat} {t:TypeId} {ds:List D}
theorem MM{k:IntKind}(ht:P.underlying t=some (.int k))(h:H7 P n t ds):∃z,ds=[.int k z]∧(Lit.int k z).wf=true:=by
 cases n with
 |zero=>exact h.elim
 |succ n=>unfold H7 at h;rw[ht]at h;exact h
theorem Qo(ht:P.underlying t=some .bool)(h:H7 P n t ds):∃b,ds=[.bool b]:=by
 cases n with
 |zero=>exact h.elim
 |succ n=>unfold H7 at h;rw[ht]at h;exact h
theorem LB{e:TypeId}(ht:P.underlying t=some (.slice e))(h:H7 P n t ds):∃(m:Nat) (xs:List (List D)),ds=[.sl (P.cellsOf e) (xs.map (Jc P e))]∧xs.length≤9223372036854775807∧∀x∈xs,H7 P m e x:=by
 cases n with
 |zero=>exact h.elim
 |succ n=>unfold H7 at h;rw[ht]at h;exact⟨n,h⟩
theorem JV{fs:Array Field}(ht:P.underlying t=some (.struct fs))(h:H7 P n t ds):∃m,MG (H7 P m) (fs.toList.map (·.type)) ds:=by
 cases n with
 |zero=>exact h.elim
 |succ n=>unfold H7 at h;rw[ht]at h;exact⟨n,h⟩
theorem Rd{k:IntKind}{x:D}(ht:P.underlying t=some (.int k)):Jc P t [x]=x:=by unfold Jc;rw[ht];rfl
theorem Jb{e:TypeId}{x:D}(ht:P.underlying t=some (.slice e)):Jc P t [x]=x:=by unfold Jc;rw[ht];rfl
theorem Ja{fs:Array Field}(ht:P.underlying t=some (.struct fs)):Jc P t ds= .agg ds:=by unfold Jc;rw[ht]
theorem Gw{α:Type}{f:α→D}{ok:α→Prop}{m:Nat}(H:∀x,H7 P m t x→∃e,Jc P t x=f e∧ok e):∀(xs:List (List D)),(∀x∈xs,H7 P m t x)→∃l:List α,xs.map (Jc P t)=l.map f∧l.length=xs.length∧∀e∈l,ok e
 | [],_=>⟨[],rfl,rfl,by simp⟩
 |x::xs,h=>by
  obtain⟨l,h1,h2,h3⟩:=Gw H xs (fun y hy=>h y (by simp[hy]));obtain⟨e,h4,h5⟩:=H x (h x (by simp));refine⟨e::l,by simp[h1,h4],by simp[h2],fun y hy=>?_⟩;rcases List.mem_cons.1 hy with rfl|hy
  ·exact h5
  ·exact h3 y hy
end
open Go.RowKit
open Go.ChangeMaps (setBlock)
section
variable {P:Program} {X:C6} {N:Nat} {E:Bf} {hp:A8} {ν:Nat→Value} {used:Nat→Prop} {a:Act} {w:World} {key:Nat}
end
end Go.Eng
namespace Go.Eng
open Go.RowKit
open Go.Sort (grow)
theorem Bl.grows{w w':World}(h:Bl w.heap.size w w'):∃q os',w'=grow (w.drewN q) os':=by
 refine⟨w'.drawn-w.drawn,w'.heap.extract w.heap.size w'.heap.size,?_⟩;obtain⟨⟨h1,h2,h3,h4,h5⟩,h6⟩:=h;have hh:w'.heap=w.heap++w'.heap.extract w.heap.size w'.heap.size:=by
  refine Array.ext_getElem? fun i=>?_;by_cases hi:i<w.heap.size
  ·rw[Array.getElem?_append_left hi,h5 i hi]
  ·rw[Array.getElem?_append_right (by omega),Array.getElem?_extract];by_cases hj:i<w'.heap.size
   ·rw[if_pos (by omega)];congr 1;omega
   ·rw[if_neg (by omega),Array.getElem?_eq_none (by omega)]
 obtain⟨heap,tape,drawn,os,output⟩:=w;obtain⟨heap',tape',drawn',os',output'⟩:=w';simp only at h1 h2 h3 h4 h5 h6 hh;subst h1;subst h2;subst h3;simp only[grow,World.drewN];congr 1;omega
theorem Dw{α:Type}{R:α→α→Prop}:∀{l1 l2:List α},l1.Perm l2→l1.Pairwise R→l2.Pairwise R→(∀a∈l1,∀b∈l1,R a b→R b a→a=b)→l1=l2
 | [],l2,h,_,_,_=>h.nil_eq
 |a::l1,[],h,_,_,_=>by simpa using h.length_eq
 |a::l1,b::l2,h,h1,h2,hA=>by
  have p1:=List.pairwise_cons.1 h1;have p2:=List.pairwise_cons.1 h2;have hab:a=b:=by
   have ha:a∈b::l2:=h.mem_iff.1 (by simp);have hb:b∈a::l1:=h.mem_iff.2 (by simp);rcases List.mem_cons.1 ha with e|ha'
   ·exact e
   ·rcases List.mem_cons.1 hb with e|hb'
    ·exact e.symm
    ·exact hA a (by simp) b hb (p1.1 b hb') (p2.1 a ha')
  subst hab;rw[Dw ((List.perm_cons a).1 h) p1.2 p2.2 (fun x hx y hy=>hA x (by simp[hx]) y (by simp[hy]))]
end Go.Eng
namespace Go.Eng
open Go.RowKit
section
variable {P:Program} {S:Sp} {Q:Exit→St→Prop}
end
end Go.Eng
namespace Go.Eng
open Go.RowKit
section
variable {P:Program} {S:Sp} {Q:Exit→St→Prop}
theorem F4.totab{E:Bf}{hp:A8}{c:Nat}{a:Act}{w:World}{ν:Nat→Value}(hI:Cj S.X S.N E (lk hp) ν (·< c) a w)(k':Nat){k:Nat}{e sz:Nat}{xs:List D}(T:Tb)
 (ho:lk hp k=some (.row e sz xs)) (he:T.eo=e) (hs:T.so=sz) (hsi:0<T.si) (hn:xs.all T.nilAt=true) (hk:c≤k') :
 Ai S.X (lk (put (CD hp k) k' (.tab T (xs.map T.ini) none))) (upd ν k' (.tuple (ν k::List.replicate xs.length (.slice none 0 0)).toArray)) (·< k'+1) w ∧
 BB (Ag S.X.M0 (lk hp) ν) (lk hp) ν (·< c) w (Ag S.X.M0 (lk (put (CD hp k) k' (.tab T (xs.map T.ini) none))) (upd ν k' (.tuple (ν k::List.replicate xs.length (.slice none 0 0)).toArray)))
  (lk (put (CD hp k) k' (.tab T (xs.map T.ini) none))) (upd ν k' (.tuple (ν k::List.replicate xs.length (.slice none 0 0)).toArray)) (·< k'+1) w:=by
 obtain⟨i1,x1⟩:=hI.heap.totab (key:=k') (by show¬k'<c;omega) ho he hs hsi hn;have hu:∀q,(q<c∨q=k')→q<k'+1:=fun q hq=>by omega
 have i2:=i1.used_mono hu (fun q _ hn=>by
  cases ho:lk (put (CD hp k) k' (.tab T (xs.map T.ini) none)) q with
  |none=>rfl
  |some o=>exact absurd (i1.usd _ _ ho) hn)
 refine⟨i2,x1.trans ⟨AJ.refl _ _,fun _ _ h=>h,hu,fun q _ o ho=>⟨o,ho,HO.later.refl _,HO.keeps_of⟩,AJ.refl _ _,fun _ _ h=>h⟩⟩
theorem F4.tab{E:Bf}{hp:A8}{c:Nat}{a:Act}{w:World}(h:F4 S ⟨E,hp,c⟩ a w)(n k':Nat){k m e sz:Nat}{xs:List D}(T:Tb)(hl:lk E n=some (.own k m))
 (ho:lk hp k=some (.row e sz xs)) (hm:m=xs.length) (he:T.eo=e) (hs:T.so=sz) (hsi:0<T.si) (hn:xs.all T.nilAt=true) (hk:c≤k') :
 F4 S ⟨(n,.tab k' m)::E,put (CD hp k) k' (.tab T (xs.map T.ini) none),k'+1⟩ a w:=by
 obtain⟨hle,ν,hI,hx⟩:=h;simp only at hI hx hle;obtain⟨i1,x1⟩:=F4.totab hI k' T ho he hs hsi hn hk;refine⟨by show S.R.c≤k'+1;omega,_,⟨i1,fun m' av hm'=>?_,hI.size,hI.defers.mono x1.same x1.shrink⟩,hx.trans x1⟩;simp only[lk]at hm';split at hm'
 ·rename_i em;subst em;cases hm';have hr:=hI.env n _ hl;cases hr with
  |own hu h1 hc ha h =>
   obtain⟨_,_,_,heq,_,hv⟩:=h _ ho;cases heq;refine .tab (by show k'<k'+1;omega) h1 hc ha fun o ho'=>?_;rw[A9]at ho';cases ho';refine⟨_,_,_,rfl,by rw[List.length_map];omega,fun _=>?_⟩;rw[hv hm,A6,Bi];rfl
 ·exact(hI.env m' av hm').ext x1
theorem Nk{code:Code}{E:Bf}{hp hp':A8}{c:Nat}(n k':Nat){k m e sz:Nat}{xs ys:List D}(T:Tb)(hl:lk E n=some (.own k m))
 (ho:lk hp k=some (.row e sz xs)) (hm:m=xs.length) (he:T.eo=e) (hs:T.so=sz) (hsi:0<T.si) (hn:xs.all T.nilAt=true) (hk:c≤k') (hy:xs.map T.ini=ys) (hh:put (CD hp k) k' (.tab T ys none)=hp')
 (h:WP P S code ⟨(n,.tab k' m)::E,hp',k'+1⟩ Q):WP P S code ⟨E,hp,c⟩ Q :=
 fun a w hr=>h a w (hh▸hy▸hr.tab n k' T hl ho hm he hs hsi hn hk)
end
end Go.Eng
namespace Go.Eng
open Go.ChangeShapes Go.WideShapes Go.ChangeAt Go.RowKit
end Go.Eng

/- The engine, part 18: own rows from nil, data from own rows. (and what stands behind it: texts laid together) -/
import Derived.Test.YtooblcpmpemhfaaGreatDoorMG3
import Derived.WalkKit
import Derived.ProofKit
import Derived.OpenShut
import Derived.ShutString
import Derived.ChangeOld
import Derived.Below
import Derived.SizedLaws
import Derived.ChangeBears
import Derived.DataReads
import Derived.Carry
import Derived.Sort.Grow
import Derived.Sort.Statements
set_option linter.unusedVariables false
set_option linter.unusedSimpArgs false
set_option maxHeartbeats 32000000
set_option maxRecDepth 100000
namespace Go.Eng
open Go.RowKit
section
variable {P:Program} {S:Sp} {Q:Exit→St→Prop}
theorem FH.own{E:BP}{hp:Aa}{c:Nat}{a:Act}{w:World}(h:FH S ⟨E,hp,c⟩ a w)(n k e sz:Nat)(hl:lk E n=some (.d .nils))(hz:0<sz)(hk:c≤k):FH S ⟨(n,.own k 0)::E,put hp k (.row e sz []),k+1⟩ a w:=by
 obtain⟨hle,ν,hI,hx⟩:=h;simp only at hI hx hle;have hv:a.tmps.getD n undef= .slice none 0 0:=by
  have:=hI.env n _ hl;generalize a.tmps.getD n undef=u at this;cases this with
  |d h=>cases h;rfl
 have x1:=CT.fresh (M0:=S.X.M0) (hp:=hp) (ν:=ν) (used:=(·< c)) (w:=w) (w':=w) (k:=k) (.row e sz []) (.slice none 0 0) (by omega) (Nat.le_refl _) (fun _ _=>rfl) (fun b hb=>by simp[AL,Ag]at hb) hI.heap.usd;have i1:=hI.heap.step (k:=k) (o:=.row e sz []) (v:=.slice none 0 0) (Bl.refl _ _) x1 (.inr rfl) (fun b hb=>by simp[AL,Ag]at hb) (fun q o' b _ hq hb=>rfl)
  ⟨[],⟨by simp,.inl ⟨rfl,rfl⟩⟩,hz,fun x hx=>by simp at hx,fun i x j d hx=>by simp at hx⟩
 have hu:∀q,(q<c∨q=k)→q<k+1:=fun q hq=>by omega
 have i2:=i1.used_mono hu (fun q _ hn=>by
  cases ho:lk (put hp k (.row e sz [])) q with
  |none=>rfl
  |some o=>exact absurd (i1.usd _ _ ho) hn)
 have x2:CT (Am S.X.M0 (lk (put hp k (.row e sz []))) (upd ν k (.slice none 0 0))) (lk (put hp k (.row e sz []))) (upd ν k (.slice none 0 0)) (fun q=>q<c∨q=k) w (Am S.X.M0 (lk (put hp k (.row e sz []))) (upd ν k (.slice none 0 0))) (lk (put hp k (.row e sz []))) (upd ν k (.slice none 0 0)) (·< k+1) w :=
  ⟨Bi.refl _ _,fun _ _ h=>h,hu,fun q _ o ho=>⟨o,ho,HO.later.refl _,HO.keeps_of⟩,Bi.refl _ _,fun _ _ h=>h⟩
 refine⟨by show S.R.c≤k+1;omega,_,⟨i2,fun m av hm=>?_,hI.size,(hI.defers.mono x1.same x1.shrink).mono x2.same x2.shrink⟩,hx.trans (x1.trans x2)⟩;simp only[lk]at hm;split at hm
 ·rename_i em;subst em;cases hm;rw[hv];refine .own (by show k<k+1;omega) rfl ⟨Nat.le_refl _,Nat.zero_le _⟩ (fun _=>⟨rfl,rfl⟩) fun o ho=>?_;rw[Ab]at ho;cases ho;exact⟨_,_,_,rfl,Nat.le_refl _,fun _=>by rw[Ac]⟩
 ·exact(hI.env m av hm).ext (x1.trans x2)
theorem Jk{code:Code}{E:BP}{hp:Aa}{c:Nat}(n k e sz:Nat)(hl:lk E n=some (.d .nils))(hz:0<sz)(hk:c≤k)(h:WP P S code ⟨(n,.own k 0)::E,put hp k (.row e sz []),k+1⟩ Q):WP P S code ⟨E,hp,c⟩ Q :=
 fun a w hr=>h a w (hr.own n k e sz hl hz hk)
theorem FH.dat{E:BP}{hp:Aa}{c:Nat}{a:Act}{w:World}(h:FH S ⟨E,hp,c⟩ a w)(n:Nat){av:AV}{d:D}{ks:List Nat}(hl:lk E n=some av)(hd:Cz (lk hp) av=some (d,ks)):FH S ⟨(n,.d d)::E,Bq hp ks,c⟩ a w:=by
 obtain⟨hle,ν,hI,hx⟩:=h;obtain⟨i1,x1⟩:=hI.heap.drops ks;refine⟨hle,ν,⟨i1,fun m av' hm=>?_,hI.size,hI.defers.mono x1.same x1.shrink⟩,hx.trans x1⟩;simp only[lk]at hm;split at hm
 ·rename_i em;subst em;cases hm;exact .d (DJ hI.heap (hI.env n av hl) hd)
 ·exact(hI.env m av' hm).ext x1
theorem am{code:Code}{E:BP}{hp:Aa}{c:Nat}(n:Nat){av:AV}{d:D}{ks:List Nat}(hl:lk E n=some av)(hd:Cz (lk hp) av=some (d,ks))(h:WP P S code ⟨(n,.d d)::E,Bq hp ks,c⟩ Q):WP P S code ⟨E,hp,c⟩ Q :=
 fun a w hr=>h a w (hr.dat n hl hd)
end
end Go.Eng
namespace Go.Eng
open Go.ChangeShapes Go.WideShapes Go.ChangeAt Go.RowKit
theorem Lk{n:Int}(h:(Lit.int .u64 n).wf=true):U n:=by
 simp only[Lit.wf,Bool.and_eq_true,decide_eq_true_eq]at h;exact h
end Go.Eng
namespace Go.Eng
open Go.RowKit
def RQ(P:Program)(s:St)(rs:List ResultVar):Option AV :=
 match GY P s rs with
 |some xs=>match xs with| [x]=>some x|xs=>some (.tup xs)
 |none=>none
def Yt(P:Program)(rs:List ResultVar)(r:AV)(hp':Aa)(ks:List Nat):Exit→St→Prop:=fun e s=>(e= .normal∨e= .ret)∧RQ P s rs=some r∧AC s.hp ks=hp'
def HW(az:List AV):BP:=(az.zipIdx).map fun p=>(p.2,p.1)
theorem WJ{az:List AV}{n:Nat}{av:AV}(h:lk (HW az) n=some av):az[n]? =some av:=by
 have gen:∀(az:List AV) (k:Nat),lk ((az.zipIdx k).map fun p=>(p.2,p.1)) n=some av→k≤n∧az[n-k]? =some av:=by
  intro az;induction az with
  |nil=>intro k hh;simp[lk]at hh
  |cons d ds ih =>
   intro k hh;simp only[List.zipIdx_cons,List.map_cons,lk]at hh;by_cases e:k=n
   ·rw[if_pos e]at hh;simp at hh;exact⟨by omega,by rw[e];simp[hh]⟩
   ·rw[if_neg e]at hh;obtain⟨h1,h2⟩:=ih (k+1) hh;refine⟨by omega,?_⟩;rw[show n-k=(n-(k+1))+1 from by omega];simpa using h2
 simpa using(gen az 0 h).2
theorem eh:HW []=[]:=rfl
theorem He{a:AV}:HW [a]=[(0,a)]:=rfl
theorem Bm{a b:AV}:HW [a,b]=[(0,a),(1,b)]:=rfl
theorem BS{a b c:AV}:HW [a,b,c]=[(0,a),(1,b),(2,c)]:=rfl
theorem DK{a b c d:AV}:HW [a,b,c,d]=[(0,a),(1,b),(2,c),(3,d)]:=rfl
theorem BA{P:Program}{rs:List ResultVar}{r:AV}{hp':Aa}{ks:List Nat}{s:St}(h:RQ P s rs=some r)(h2:AC s.hp ks=hp'):Yt P rs r hp' ks .normal s:=⟨.inl rfl,h,h2⟩
theorem BB{P:Program}{rs:List ResultVar}{r:AV}{hp':Aa}{ks:List Nat}{s:St}(h:RQ P s rs=some r)(h2:AC s.hp ks=hp'):Yt P rs r hp' ks .ret s:=⟨.inr rfl,h,h2⟩
def fC(X:DT)(N:Nat)(hp:Aa)(ν:Nat→Value)(n:Nat)(w:World):Sp:=⟨X,N,⟨Am X.M0 (lk hp) ν,lk hp,ν,n,w⟩,none⟩
section
variable {P:Program}
theorem Ai.run {g : FuncId} {fn : Func} {code : Code} {rs : List ResultVar} {az : List AV} {hp hp' : Aa} {r : AV} {n N : Nat} {ks : List Nat} {E : BP} (hf : P.funcs[g]? = some fn) (hb : fn.body = some code) (hn : (fn.name == "runtime.NumGoroutine") = false) (hrs : fn.results = rs.toArray) (hN : fn.ntmps = N) (hnt : Nat.ble az.length N = true) (hE : HW az = E)
 (h:∀X ν w,WP P (fC X N hp ν n w) code ⟨E,hp,n⟩ (Yt P rs r hp' ks)):Ai P g az hp r hp' n:=by
 subst hE;subst hN;intro X ν w vs hI hl hv;have hnt':=Nat.le_of_ble_eq_true hnt;refine⟨?_,?_⟩
 · have hn' : ¬ fn.name = "runtime.NumGoroutine" := by simpa using hn
   simp[callFunc,hf,hn',hb]
 ·refine callsIn_wide.1 (callsIn_of_wp_marks (F:=Fence.wide) (n:=0) hf hb trivial ?_);have hE:Dv (X.at w.heap.size) fn.ntmps (HW az) (lk hp) ν (·< n) { tmps:=vs.toArray++Array.replicate (fn.ntmps-vs.toArray.size) undef,defers:=[] } w:=by
   refine⟨hI.at _,fun m av hm=>?_,by simp;omega,Nat.le_refl _,trivial⟩;have hd:=WJ hm;have hlt:=(List.getElem?_eq_some_iff.1 hd).1;have hvn:=List.getElem?_eq_getElem (l:=vs) (i:=m) (by omega);have:=hv m av _ hd hvn;have e:(vs.toArray++Array.replicate (fn.ntmps-vs.toArray.size) undef).getD m undef=vs[m]'(by omega):=by
    rw[Array.getD_eq_getD_getElem?,Array.getElem?_append_left (by simp;omega)];simp[hvn]
   simp only;rw[e];exact this
  refine wpIn_mono (h (X.at w.heap.size) ν w _ w ⟨Nat.le_refl _,ν,hE,CT.refl _ _ _ _ _⟩) ?_;rintro e a' w' ⟨s',⟨hle,ν',hI',hx⟩,he,hres,hkeep⟩;have hbase:X.base≤w.heap.size:=hI.below.size;have key:LeavesInM Fence.wide 0 P fn a'.tmps (fun e w'=>∃v ν' c,e= .returned v∧At X (lk hp') ν' (·< c) w' ∧
   CT (Am X.M0 (lk hp) ν) (lk hp) ν (·< n) w (Am X.M0 (lk hp') ν') (lk hp') ν' (·< c) w'∧A5 w' (Am X.M0 (lk hp') ν') (lk hp') ν' (·< c) r v) a'.defers .returning w':=by
   refine J7.leave _ _ hI'.defers fun w2 hb=>?_;have hI2:Dv (X.at w.heap.size) fn.ntmps s'.E (lk s'.hp) ν' (·< s'.c) { tmps:=a'.tmps,defers:=[] } w2 :=
    ⟨hI'.heap.book hbase hb,fun n av hn=>(hI'.env n av hn).book hb,hI'.size,by rw[hb.size];exact hI'.defers.1,trivial⟩
   have hx:=CT.book hx hb;clear hI' hb;replace hI':=hI2;clear hI2;have hsub:∀q o,lk (AC s'.hp ks) q=some o→lk s'.hp q=some o:=fun q o h=>Fy h;obtain⟨i1,x1⟩:=hI'.heap.sub hsub;rw[hkeep]at i1 x1;have hval:∃v,(results fn a'.tmps).run P w2= .ok v w2∧A5 w2 (Am X.M0 (lk s'.hp) ν') (lk s'.hp) ν' (·< s'.c) r v:=by
    unfold RQ at hres;cases hxs:GY P s' rs with
    |none=>rw[hxs]at hres;cases hres
    |some xs =>
     obtain⟨vs',h1,h2,h3⟩:=IO hI' rs xs hxs;refine⟨_,Ih hrs h1,?_⟩;rw[hxs]at hres;simp only at hres;split at hres
     ·cases hres
      match vs',h2 with
      | [v],_=>exact h3 0 _ v rfl rfl
     ·rename_i hne;cases hres;have hv:OQ vs'=Value.tuple vs'.toArray:=by
       match vs',h2 with
       | [],_=>rfl
       | [v],h2=>cases xs with
         |nil=>simp at h2
         |cons x xs =>
          have:xs=[]:=List.eq_nil_of_length_eq_zero (by simpa using h2);subst this;exact absurd rfl (hne x)
       |_::_::_,_=>rfl
      rw[hv];exact .tup h2 h3
   obtain⟨v,hr,hv⟩:=hval;exact⟨v,hr,v,ν',s'.c,rfl,i1.unat,hx.trans x1,hv.ext x1⟩
  rcases he with rfl|rfl
  ·exact key
  ·exact key
def sg:List Nat→Nat→Nat→Nat
 | [],q,_=>q
 |j::_,_,0=>j
 |_::l,q,k+1=>sg l q k
def Es:List Nat→List Nat→List Nat
 | [],acc=>acc
 |k::l,acc=>if acc.elem k then Es l acc else Es l (acc++[k])
def Nq(hp:Aa):List Nat→List Nat
 | []=>[]
 |k::l=>match lk hp k with|some o=>o.ks++Nq hp l|none=>Nq hp l
def EZ(hp:Aa):Nat→List Nat→List Nat
 |0,ks=>ks
 |n+1,ks=>EZ hp n (Es (Nq hp ks) ks)
def fresh(ks:List Nat)(hp':Aa):List Nat:=(hp'.map (·.1)).filter fun k => !ks.elem k
theorem II{hpc:Aa}:∀{k:Nat} {o:HO},(hpc.map (·.1)).Nodup→(k,o)∈hpc→lk hpc k=some o:=by
 induction hpc with
 |nil=>intro k o _ h;cases h
 |cons p l ih =>
  intro k o hn h;obtain⟨m,a⟩:=p;simp only[List.map_cons,List.nodup_cons]at hn;simp only[lk];rcases List.mem_cons.1 h with h|h
  ·cases h;rw[if_pos rfl]
  ·rw[if_neg (fun e=>hn.1 (by rw[e];exact List.mem_map_of_mem (f:=(·.1)) h))];exact ih hn.2 h
theorem ES{σ:Nat→Nat}:∀{l m:List Nat},((l++m).map σ).Nodup→l.Nodup
 | [],_,_=>by simp
 |x::l,m,h=>by
  simp only[List.cons_append,List.map_cons,List.nodup_cons]at h;refine List.nodup_cons.2 ⟨fun hx=>h.1 ?_,ES h.2⟩;exact List.mem_map.2 ⟨x,List.mem_append_left _ hx,rfl⟩
theorem W3{ops:Array Oper}{c i q:Nat}{dst:Option Nat}{ty:TypeId}{pos:String}{after:Array Edge}{guard:Option (Nat×Bool)}{os:List Oper}{E E1 E':BP}{hp hp1 hpE:Aa}{outs:List EX}{f:Operand}{args:List Operand}{ts:Array TypeId}
 {g:FuncId} {pre caps az as':List AV} {l:List Nat} {hpc hp':Aa} {r v:AV} {n:Nat} {es:List (Nat×Option HO)} {chg:List Nat} (hq:c+i=q) (hf:Jd (opnd E f)=some (g,pre,caps)) (hargs:pre++(args.map (opnd E)++caps)=as') (hl:EZ hp 5 (Es (J4 as') [])=l) (hs:Ai P g az hpc r hp' n)
 (ha:az.map (AV.rn (sg l q))=as') (hsub:hpc.map (fun p=>lk hp (sg l q p.1))=hpc.map (fun p=>some (p.2.rn (sg l q)))) (hb:DS q n (sg l q) (hpc.map (·.1)) (fresh (hpc.map (·.1)) hp') az hpc r hp'=true) (hv:r.rn (sg l q)=v)
 (hcs:∀k∈chg,k∈hpc.map (·.1)) (hch:∀k∈hpc.map (·.1),k∈chg∨lk hp' k=lk hpc k)
 (hes:C0 (sg l q) (chg++fresh (hpc.map (·.1)) hp') hp'=es) (hH:BO hp es=hp1) (hE:EF E dst v=E1) (hg:gd ops E guard=some true) (t:Ev P ops c (i+1) os E1 hp1 outs E' hpE) :
 Ev P ops c i (⟨dst,.call ⟨.value f,args.toArray,ts⟩,ty,pos,after,guard⟩::os) E hp (⟨dst,v,es,(hpc.map (·.1)).map (sg l q)⟩::outs) E' hpE:=by
 subst hq;subst hargs;subst hv;subst hes;subst hH;subst hE;refine .cons (.callM hg rfl hf ha hs hb (fun k hk=>?_) hcs hch) t;obtain⟨⟨k',o⟩,hm,rfl⟩:=List.mem_map.1 hk;have hnd:(hpc.map (·.1)).Nodup:=by
  have hb':=hb;simp only[DS,Bool.and_eq_true,decide_eq_true_eq]at hb';exact ES hb'.1.1.1.1.1.2
 refine⟨o,II hnd hm,?_⟩;obtain⟨j,hj⟩:=List.mem_iff_getElem?.1 hm;have:=congrArg (fun l=>l[j]?) hsub;simp only[List.getElem?_map,hj,Option.map_some,Option.some.injEq]at this;exact this
theorem ZB{ops:Array Oper}{c i q:Nat}{dst:Option Nat}{ty:TypeId}{pos:String}{after:Array Edge}{guard:Option (Nat×Bool)}{os:List Oper}{E E1 E':BP}{hp hp1 hpE:Aa}{outs:List EX}{f:Operand}{args:List Operand}{ts:Array TypeId}
 {g:FuncId} {pre caps az as':List AV} {l:List Nat} {hpc hp':Aa} {r v:AV} {n:Nat} {es:List (Nat×Option HO)} (hq:c+i=q) (hf:Jd (opnd E f)=some (g,pre,caps)) (hargs:pre++(args.map (opnd E)++caps)=as') (hl:EZ hp 5 (Es (J4 as') [])=l) (hs:Ai P g az hpc r hp' n)
 (ha:az.map (AV.rn (sg l q))=as') (hsub:hpc.map (fun p=>lk hp (sg l q p.1))=hpc.map (fun p=>some (p.2.rn (sg l q)))) (hb:DS q n (sg l q) (hpc.map (·.1)) (fresh (hpc.map (·.1)) hp') az hpc r hp'=true) (hv:r.rn (sg l q)=v)
 (hes:C0 (sg l q) (hpc.map (·.1)++fresh (hpc.map (·.1)) hp') hp'=es) (hH:BO hp es=hp1) (hE:EF E dst v=E1) (hg:gd ops E guard=some true) (t:Ev P ops c (i+1) os E1 hp1 outs E' hpE) :
 Ev P ops c i (⟨dst,.call ⟨.value f,args.toArray,ts⟩,ty,pos,after,guard⟩::os) E hp (⟨dst,v,es,(hpc.map (·.1)).map (sg l q)⟩::outs) E' hpE :=
 W3 hq hf hargs hl hs ha hsub hb hv (fun _ h=>h) (fun _ h=>.inl h) hes hH hE hg t
theorem W4{ops:Array Oper}{c i q:Nat}{dst:Option Nat}{ty:TypeId}{pos:String}{after:Array Edge}{guard:Option (Nat×Bool)}{os:List Oper}{E E1 E':BP}{hp hp1 hpE:Aa}{outs:List EX}{f:Operand}{args:List Operand}{ts:Array TypeId}
 {g:FuncId} {pre caps az as':List AV} {l:List Nat} {hpc hp':Aa} {r v:AV} {n:Nat} {es:List (Nat×Option HO)} (hq:c+i=q) (hf:Jd (opnd E f)=some (g,pre,caps)) (hargs:pre++(args.map (opnd E)++caps)=as') (hl:EZ hp 5 (Es (J4 as') [])=l) (hs:Ai P g az hpc r hp' n)
 (ha:az.map (AV.rn (sg l q))=as') (hsub:hpc.map (fun p=>lk hp (sg l q p.1))=hpc.map (fun p=>some (p.2.rn (sg l q)))) (hb:DS q n (sg l q) (hpc.map (·.1)) (fresh (hpc.map (·.1)) hp') az hpc r hp'=true) (hv:r.rn (sg l q)=v) (hun:hpc.map (fun p=>lk hp' p.1)=hpc.map (fun p=>some p.2))
 (hes:C0 (sg l q) (fresh (hpc.map (·.1)) hp') hp'=es) (hH:BO hp es=hp1) (hE:EF E dst v=E1) (hg:gd ops E guard=some true) (t:Ev P ops c (i+1) os E1 hp1 outs E' hpE) :
 Ev P ops c i (⟨dst,.call ⟨.value f,args.toArray,ts⟩,ty,pos,after,guard⟩::os) E hp (⟨dst,v,es,(hpc.map (·.1)).map (sg l q)⟩::outs) E' hpE:=by
 have hnd:(hpc.map (·.1)).Nodup:=by
  have hb':=hb;simp only[DS,Bool.and_eq_true,decide_eq_true_eq]at hb';exact ES hb'.1.1.1.1.1.2
 refine W3 (chg:=[]) hq hf hargs hl hs ha hsub hb hv (fun _ h=>by cases h) (fun k hk=>.inr ?_) hes hH hE hg t;obtain⟨⟨k',o⟩,hm,rfl⟩:=List.mem_map.1 hk;rw[II hnd hm];obtain⟨j,hj⟩:=List.mem_iff_getElem?.1 hm;have:=congrArg (fun l=>l[j]?) hun;simpa[hj]using this
theorem Dc{ops:Array Oper}{c i q:Nat}{d:Nat}{ty:TypeId}{pos:String}{after:Array Edge}{guard:Option (Nat×Bool)}{os:List Oper}{E E':BP}{hp hp1 hpE:Aa}{outs:List EX}{f:Operand}{args:List Operand}{ts:Array TypeId}
 {g:FuncId} {pre caps az as':List AV} {l:List Nat} {hpc hp':Aa} {r v:AV} {n:Nat} {es:List (Nat×Option HO)} (hq:c+i=q) (hf:Jd (opnd E f)=some (g,pre,caps)) (hargs:pre++(args.map (opnd E)++caps)=as') (hl:EZ hp 5 (Es (J4 as') [])=l) (hs:Ai P g az hpc r hp' n)
 (ha:az.map (AV.rn (sg l q))=as') (hsub:hpc.map (fun p=>lk hp (sg l q p.1))=hpc.map (fun p=>some (p.2.rn (sg l q)))) (hb:DS q n (sg l q) (hpc.map (·.1)) (fresh (hpc.map (·.1)) hp') az hpc r hp'=true) (hv:r.rn (sg l q)=v)
 (hes:C0 (sg l q) (hpc.map (·.1)++fresh (hpc.map (·.1)) hp') hp'=es) (hH:BO hp es=hp1) (hg:gd ops E guard=some true) (t:Ev P ops c (i+1) os ((d,v)::E) hp1 outs E' hpE) :
 Ev P ops c i (⟨some d,.call ⟨.value f,args.toArray,ts⟩,ty,pos,after,guard⟩::os) E hp (⟨some d,v,es,(hpc.map (·.1)).map (sg l q)⟩::outs) E' hpE :=
 ZB hq hf hargs hl hs ha hsub hb hv hes hH rfl hg t
theorem Dd{ops:Array Oper}{c i q:Nat}{ty:TypeId}{pos:String}{after:Array Edge}{guard:Option (Nat×Bool)}{os:List Oper}{E E':BP}{hp hp1 hpE:Aa}{outs:List EX}{f:Operand}{args:List Operand}{ts:Array TypeId}
 {g:FuncId} {pre caps az as':List AV} {l:List Nat} {hpc hp':Aa} {r v:AV} {n:Nat} {es:List (Nat×Option HO)} (hq:c+i=q) (hf:Jd (opnd E f)=some (g,pre,caps)) (hargs:pre++(args.map (opnd E)++caps)=as') (hl:EZ hp 5 (Es (J4 as') [])=l) (hs:Ai P g az hpc r hp' n)
 (ha:az.map (AV.rn (sg l q))=as') (hsub:hpc.map (fun p=>lk hp (sg l q p.1))=hpc.map (fun p=>some (p.2.rn (sg l q)))) (hb:DS q n (sg l q) (hpc.map (·.1)) (fresh (hpc.map (·.1)) hp') az hpc r hp'=true) (hv:r.rn (sg l q)=v)
 (hes:C0 (sg l q) (hpc.map (·.1)++fresh (hpc.map (·.1)) hp') hp'=es) (hH:BO hp es=hp1) (hg:gd ops E guard=some true) (t:Ev P ops c (i+1) os E hp1 outs E' hpE) :
 Ev P ops c i (⟨none,.call ⟨.value f,args.toArray,ts⟩,ty,pos,after,guard⟩::os) E hp (⟨none,v,es,(hpc.map (·.1)).map (sg l q)⟩::outs) E' hpE :=
 ZB hq hf hargs hl hs ha hsub hb hv hes hH rfl hg t
theorem Tr{ops:Array Oper}{c i q:Nat}{d:Nat}{ty:TypeId}{pos:String}{after:Array Edge}{guard:Option (Nat×Bool)}{os:List Oper}{E E':BP}{hp hp1 hpE:Aa}{outs:List EX}{f:Operand}{args:List Operand}{ts:Array TypeId}
 {g:FuncId} {pre caps az as':List AV} {l:List Nat} {hpc hp':Aa} {r v:AV} {n:Nat} {es:List (Nat×Option HO)} (hq:c+i=q) (hf:Jd (opnd E f)=some (g,pre,caps)) (hargs:pre++(args.map (opnd E)++caps)=as') (hl:EZ hp 5 (Es (J4 as') [])=l) (hs:Ai P g az hpc r hp' n)
 (ha:az.map (AV.rn (sg l q))=as') (hsub:hpc.map (fun p=>lk hp (sg l q p.1))=hpc.map (fun p=>some (p.2.rn (sg l q)))) (hb:DS q n (sg l q) (hpc.map (·.1)) (fresh (hpc.map (·.1)) hp') az hpc r hp'=true) (hv:r.rn (sg l q)=v) (hun:hpc.map (fun p=>lk hp' p.1)=hpc.map (fun p=>some p.2))
 (hes:C0 (sg l q) (fresh (hpc.map (·.1)) hp') hp'=es) (hH:BO hp es=hp1) (hg:gd ops E guard=some true) (t:Ev P ops c (i+1) os ((d,v)::E) hp1 outs E' hpE) :
 Ev P ops c i (⟨some d,.call ⟨.value f,args.toArray,ts⟩,ty,pos,after,guard⟩::os) E hp (⟨some d,v,es,(hpc.map (·.1)).map (sg l q)⟩::outs) E' hpE :=
 W4 hq hf hargs hl hs ha hsub hb hv hun hes hH rfl hg t
theorem Ts{ops:Array Oper}{c i q:Nat}{ty:TypeId}{pos:String}{after:Array Edge}{guard:Option (Nat×Bool)}{os:List Oper}{E E':BP}{hp hp1 hpE:Aa}{outs:List EX}{f:Operand}{args:List Operand}{ts:Array TypeId}
 {g:FuncId} {pre caps az as':List AV} {l:List Nat} {hpc hp':Aa} {r v:AV} {n:Nat} {es:List (Nat×Option HO)} (hq:c+i=q) (hf:Jd (opnd E f)=some (g,pre,caps)) (hargs:pre++(args.map (opnd E)++caps)=as') (hl:EZ hp 5 (Es (J4 as') [])=l) (hs:Ai P g az hpc r hp' n)
 (ha:az.map (AV.rn (sg l q))=as') (hsub:hpc.map (fun p=>lk hp (sg l q p.1))=hpc.map (fun p=>some (p.2.rn (sg l q)))) (hb:DS q n (sg l q) (hpc.map (·.1)) (fresh (hpc.map (·.1)) hp') az hpc r hp'=true) (hv:r.rn (sg l q)=v) (hun:hpc.map (fun p=>lk hp' p.1)=hpc.map (fun p=>some p.2))
 (hes:C0 (sg l q) (fresh (hpc.map (·.1)) hp') hp'=es) (hH:BO hp es=hp1) (hg:gd ops E guard=some true) (t:Ev P ops c (i+1) os E hp1 outs E' hpE) :
 Ev P ops c i (⟨none,.call ⟨.value f,args.toArray,ts⟩,ty,pos,after,guard⟩::os) E hp (⟨none,v,es,(hpc.map (·.1)).map (sg l q)⟩::outs) E' hpE :=
 W4 hq hf hargs hl hs ha hsub hb hv hun hes hH rfl hg t
end
end Go.Eng
namespace Go.Eng
open Go.RowKit
mutual
inductive Wk:D→D→Prop where
 |refl (x:D):Wk x x
 |nil (sz:Nat):Wk .nils (.sl sz [])
 |emp (sz:Nat):Wk (.emp sz) (.sl sz [])
 |agg {a b:List D} (h:Is a b):Wk (.agg a) (.agg b)
 |tup {a b:List D} (h:Is a b):Wk (.tup a) (.tup b)
 |sl {sz:Nat} {a b:List D} (h:Is a b):Wk (.sl sz a) (.sl sz b)
inductive Is:List D→List D→Prop where
 |nil:Is [] []
 |cons {x y:D} {a b:List D} (h:Wk x y) (t:Is a b):Is (x::a) (y::b)
end
theorem Is.refl:∀(l:List D),Is l l
 | []=>.nil
 |x::l=>.cons (.refl x) (Is.refl l)
theorem Is.len{a b:List D}(h:Is a b):a.length=b.length:=by
 induction a generalizing b with
 |nil=>cases h;rfl
 |cons x a ih=>cases h with|cons _ t=>simp[ih t]
theorem Is.get{a b:List D}(h:Is a b):∀(i:Nat) x y,a[i]? =some x→b[i]? =some y→Wk x y:=by
 induction a generalizing b with
 |nil=>intro i x y hx;simp at hx
 |cons z a ih =>
  cases h with
  |cons hh t =>
   intro i x y hx hy;cases i with
   |zero=>simp at hx hy;subst hx;subst hy;exact hh
   |succ i=>simp at hx hy;exact ih t i x y hx hy
theorem Wk.cell{a b:D}(h:Wk a b):a.cell=b.cell:=by cases h<;>rfl
theorem Wk.comps{a b:D}(h:Wk a b):Is a.comps b.comps:=by
 cases h with
 |refl=>exact Is.refl _
 |nil sz=>exact .cons (.nil sz) .nil
 |emp sz=>exact .cons (.emp sz) .nil
 |agg h=>exact h
 |tup h=>exact .cons (.tup h) .nil
 |sl h=>exact .cons (.sl h) .nil
theorem An.wk{w:World}{M:Nat→Prop}{a:D}{v:Value}(hr:An w M a v):∀{b:D},Wk a b→An w M b v:=by
 induction hr with
 |bool b=>intro b h;cases h;exact .bool _
 |int k n=>intro b h;cases h;exact .int _ _
 |str s=>intro b h;cases h;exact .str _
 |fn f=>intro b h;cases h;exact .fn _
 |nilf=>intro b h;cases h;exact .nilf
 |nilm=>intro b h;cases h;exact .nilm
 |nilp=>intro b h;cases h;exact .nilp
 |any h0=>intro b h;cases h;exact .any h0
 |ptr val hb hM hc h1 h2 ih=>intro b h;cases h;exact .ptr val hb hM hc h1 h2
 |agg hl hc hh ih =>
  intro b h;cases h with
  |refl=>exact .agg hl hc hh
  |agg h =>
   rename_i fs cs b;refine .agg (by rw[← h.len];exact hl) (fun d hd=>?_) (fun i d v hd hv=>?_)
   ·obtain⟨i,hi⟩:=List.mem_iff_getElem?.1 hd;have hlt:i<fs.length:=by rw[h.len];exact(List.getElem?_eq_some_iff.1 hi).1
    have hx:=List.getElem?_eq_getElem hlt;rw[← (h.get i _ _ hx hi).cell];exact hc _ (List.mem_of_getElem? hx)
   ·have hlt:i<fs.length:=by rw[h.len];exact(List.getElem?_eq_some_iff.1 hd).1
    have hx:=List.getElem?_eq_getElem hlt;exact ih i _ v hx hv (h.get i _ _ hx hd)
 |tup hl hh ih =>
  intro b h;cases h with
  |refl=>exact .tup hl hh
  |tup h =>
   rename_i fs cs b;refine .tup (by rw[← h.len];exact hl) (fun i d v hd hv=>?_);have hlt:i<fs.length:=by rw[h.len];exact(List.getElem?_eq_some_iff.1 hd).1
   have hx:=List.getElem?_eq_getElem hlt;exact ih i _ v hx hv (h.get i _ _ hx hd)
 |nils=>intro b h;cases h<;>constructor
 |emp hm=>intro b h;cases h with|refl=>exact .emp hm|emp=>exact An.of_emp (.emp hm)
 |sl0 =>
  intro b h;cases h with
  |refl=>exact .sl0
  |sl h=>cases h;exact .sl0
 |sl val hb hM hc hm hs h1 h2 ih =>
  intro b h;cases h with
  |refl=>exact .sl val hb hM hc hm hs h1 h2
  |sl h =>
   rename_i sz c xs a b;have hne:b≠[]→xs≠[]:=fun hb he=>by subst he;cases h;exact hb rfl
   have look:∀i y,b[i]? =some y→∃x,xs[i]? =some x∧Wk x y:=fun i y hy=>by
    have hlt:i<xs.length:=by rw[h.len];exact(List.getElem?_eq_some_iff.1 hy).1
    exact⟨_,List.getElem?_eq_getElem hlt,h.get i _ _ (List.getElem?_eq_getElem hlt) hy⟩
   have lookc:∀{x y:D},Wk x y→∀(j:Nat) d,y.comps[j]? =some d→∃d',x.comps[j]? =some d'∧Wk d' d:=fun{x y} hxy j d hd=>by
    have hlt:j<x.comps.length:=by rw[hxy.comps.len];exact(List.getElem?_eq_some_iff.1 hd).1
    exact⟨_,List.getElem?_eq_getElem hlt,hxy.comps.get j _ _ (List.getElem?_eq_getElem hlt) hd⟩
   rw[h.len];refine .sl val (fun hn=>hb (hne hn)) (fun hn=>hM (hne hn)) (by rw[← h.len];exact hc) hm (fun i y hy=>?_) (fun i y j d hy hd=>?_) (fun i y j d hy hd=>?_)
   ·obtain⟨x,hx,hxy⟩:=look i y hy;refine⟨by rw[← hxy.comps.len];exact(hs i x hx).1,fun d hd=>?_⟩;obtain⟨j,hj⟩:=List.mem_iff_getElem?.1 hd;obtain⟨d',hd',hw⟩:=lookc hxy j d hj;rw[← hw.cell];exact(hs i x hx).2 d' (List.mem_of_getElem? hd')
   ·obtain⟨x,hx,hxy⟩:=look i y hy;obtain⟨d',hd',hw⟩:=lookc hxy j d hd;exact h1 i x j d' hx hd'
   ·obtain⟨x,hx,hxy⟩:=look i y hy;obtain⟨d',hd',hw⟩:=lookc hxy j d hd;exact ih i x j d' hx hd' hw
theorem A3.wk{P:Program}{g:FuncId}{az as':List D}{r r':D}(h:A3 P g az r)(ha:Is as' az)(hr:Wk r r'):A3 P g as' r':=by
 intro w M vs hW hM hl hv;rcases h w M vs hW hM (by rw[← ha.len];exact hl) (fun i d v hd hvv=>by
  have hlt:i<as'.length:=by rw[ha.len];exact(List.getElem?_eq_some_iff.1 hd).1
  have hx:=List.getElem?_eq_getElem hlt;exact(hv i _ v hx hvv).wk (ha.get i _ _ hx hd))with⟨v,w',h1,h2,h3⟩|⟨h1,h2⟩
 ·exact .inl ⟨v,w',h1,h2.wk hr,h3⟩
 ·exact .inr ⟨h1,h2.mono fun e w' ⟨v,k1,k2,k3⟩=>⟨v,k1,k2.wk hr,k3⟩⟩
end Go.Eng
namespace Go.Eng
open Go.RowKit
section
variable {P:Program} {S:Sp} {Q:Exit→St→Prop}
theorem FH.weak{E:BP}{hp:Aa}{c:Nat}{a:Act}{w:World}(h:FH S ⟨E,hp,c⟩ a w)(n:Nat){d d':D}(hl:lk E n=some (.d d))(hw:Wk d d'):FH S ⟨(n,.d d')::E,hp,c⟩ a w:=by
 obtain⟨hle,ν,hI,hx⟩:=h;refine⟨hle,ν,⟨hI.heap,fun m av' hm=>?_,hI.size,hI.defers⟩,hx⟩;simp only[lk]at hm;split at hm
 ·rename_i em;subst em;cases hm;have:=hI.env n _ hl;generalize a.tmps.getD n undef=u at this;cases this with
  |d h=>exact .d (h.wk hw)
 ·exact hI.env m av' hm
theorem Y5{code:Code}{E:BP}{hp:Aa}{c:Nat}(n:Nat){d d':D}(hl:lk E n=some (.d d))(hw:Wk d d')(h:WP P S code ⟨(n,.d d')::E,hp,c⟩ Q):WP P S code ⟨E,hp,c⟩ Q :=
 fun a w hr=>h a w (hr.weak n hl hw)
theorem ap{code:Code}{E:BP}{hp:Aa}{c:Nat}(n sz:Nat)(hl:lk E n=some (.d .nils))(h:WP P S code ⟨(n,.d (.sl sz []))::E,hp,c⟩ Q):WP P S code ⟨E,hp,c⟩ Q :=
 Y5 n hl (.nil sz) h
end
end Go.Eng
namespace Go.Eng
open Go.RowKit
def Uv(j k x:Nat):Nat:=if x=j then k else if x=k then j else x
theorem Qm(j k x:Nat):Uv j k (Uv j k x)=x:=by
 unfold Uv;by_cases h1:x=j
 ·subst h1;rw[if_pos rfl];by_cases h2:k=x
  ·subst h2;simp
  ·rw[if_neg h2,if_pos rfl]
 ·rw[if_neg h1];by_cases h2:x=k
  ·subst h2;rw[if_pos rfl,if_pos rfl]
  ·rw[if_neg h2,if_neg h1,if_neg h2]
theorem Zt{j k x y:Nat}(h:Uv j k x=Uv j k y):x=y:=by
 have:=congrArg (Uv j k) h
 rwa [Qm,Qm]at this
theorem XD{j k c x:Nat}(hj:j<c)(hk:k<c)(h:x<c):Uv j k x<c:=by
 unfold Uv;split
 ·exact hk
 ·split
  ·exact hj
  ·exact h
theorem Zu{j k c x:Nat}(hj:c≤j)(hk:c≤k)(h:x<c):Uv j k x=x:=by
 unfold Uv;rw[if_neg (by omega),if_neg (by omega)]
def Zi(σ:Nat→Nat)(hp:Aa):Aa:=hp.map fun p=>(σ p.1,p.2.rn σ)
theorem bi{σ:Nat→Nat}(hi:∀x y,σ x=σ y→x=y)(hp:Aa)(n:Nat):lk (Zi σ hp) (σ n)=(lk hp n).map (HO.rn σ):=by
 induction hp with
 |nil=>rfl
 |cons p l ih =>
  simp only[Zi,List.map_cons,lk]at ih ⊢;by_cases h:p.1=n
  ·rw[if_pos h,if_pos (by rw[h])];rfl
  ·rw[if_neg h,if_neg (fun e=>h (hi _ _ e))];exact ih
def Wr(σ:Nat→Nat):HO→Bool
 |.iter m _ _=>Nat.beq (σ m) m
 |_=>true
theorem WD{σ:Nat→Nat}{o o':HO}(h:o.later o')(hf:Wr σ o'=true):o.later (o'.rn σ):=by
 cases o<;>cases o'<;>first|(simp_all [HO.later,HO.rn,C1,Wr];done)|exact h
theorem WB{σ:Nat→Nat}{o o':HO}{v v':Value}(h:o.keeps o' v v'):o.keeps (o'.rn σ) v v':=by
 cases o<;>cases o'<;>exact h
theorem U5:∀{fs:List AV} {k:Nat},k∈J4 fs→∃(i:Nat) (d:AV),fs[i]? =some d∧k∈d.ks
 | [],k,h=>by simp[J4]at h
 |x::l,k,h=>by
  simp only[J4,List.mem_append]at h;rcases h with h|h
  ·exact⟨0,x,rfl,h⟩
  ·obtain⟨i,d,h1,h2⟩:=U5 h;exact⟨i+1,d,by simpa using h1,h2⟩
theorem A5.usedKs{w:World}{M:Nat→Prop}{H:Nat→Option HO}{ν:Nat→Value}{used:Nat→Prop}{av:AV}{v:Value}(h:A5 w M H ν used av v):∀k∈av.ks,used k:=by
 have gen:∀{fs:List AV} {cs:List Value},fs.length=cs.length→(∀(i:Nat) d v,fs[i]? =some d→cs[i]? =some v→∀k∈d.ks,used k)→∀k∈J4 fs,used k:=fun{fs cs} hl ih k hk=>by
  obtain⟨i,d,h1,h2⟩:=U5 hk;have hlt:i<cs.length:=by rw[← hl];exact(List.getElem?_eq_some_iff.1 h1).1
  exact ih i d _ h1 (List.getElem?_eq_getElem hlt) k h2
 induction h with
 |agg hl _ _ ih=>exact gen hl ih
 |tup hl _ ih=>exact gen hl ih
 |fn hl _ ih=>exact gen hl ih
 |yld hu=>intro k hk;simp[AV.ks]at hk;subst hk;exact hu
 |own hu=>intro k hk;simp[AV.ks]at hk;subst hk;exact hu
 |ref hu=>intro k hk;simp[AV.ks]at hk;subst hk;exact hu
 |eref hu=>intro k hk;simp[AV.ks]at hk;subst hk;exact hu
 |map hu=>intro k hk;simp[AV.ks]at hk;subst hk;exact hu
 |rv hu=>intro k hk;simp[AV.ks]at hk;subst hk;exact hu
 |mref hu=>intro k hk;simp[AV.ks]at hk;subst hk;exact hu
 |it hu=>intro k hk;simp[AV.ks]at hk;subst hk;exact hu
 |vs hu=>intro k hk;simp[AV.ks]at hk;subst hk;exact hu
 |tab hu=>intro k hk;simp[AV.ks]at hk;subst hk;exact hu
 |trow hu=>intro k hk;simp[AV.ks]at hk;subst hk;exact hu
 |toref hu=>intro k hk;simp[AV.ks]at hk;subst hk;exact hu
 |tref hu=>intro k hk;simp[AV.ks]at hk;subst hk;exact hu
 |_=>intro k hk;simp[AV.ks]at hk
section
variable {P:Program} {S:Sp} {Q:Exit→St→Prop}
theorem FH.rn{E:BP}{hp:Aa}{c:Nat}{a:Act}{w:World}(h:FH S ⟨E,hp,c⟩ a w)(j k:Nat)(hj:S.R.c≤j)(hk:S.R.c≤k)(hjc:j<c)(hkc:k<c)(hf:(hp.all fun p=>Wr (Uv j k) p.2)=true) :
 FH S ⟨ac (Uv j k) E,Zi (Uv j k) hp,c⟩ a w:=by
 obtain⟨hle,ν,hI,hx⟩:=h;simp only at hI hx hle;let σ:=Uv j k
 have hσ:∀x,σ (σ x)=x:=Qm j k;have hinj:∀x y,σ x=σ y→x=y:=fun x y h=>Zt h;have hget:∀q o,lk (Zi σ hp) q=some o→∃o',lk hp (σ q)=some o'∧o=o'.rn σ:=fun q o h=>by
  rw[← hσ q,bi hinj]at h;obtain⟨o',h1,h2⟩:=Option.map_eq_some_iff.1 h;exact⟨o',h1,h2.symm⟩
 let ν':Nat→Value:=fun q=>ν (σ q)
 have hM:∀b,Am S.X.M0 (lk (Zi σ hp)) ν' b→Am S.X.M0 (lk hp) ν b:=fun b h=>by
  rcases h with h|⟨q,o,hq,hb⟩
  ·exact .inl h
  ·obtain⟨o',h1,_⟩:=hget q o hq;exact .inr ⟨σ q,o',h1,hb⟩
 have hO:∀b,Tt (lk (Zi σ hp)) ν' b→Tt (lk hp) ν b:=fun b ⟨q,o,hq,hb⟩=>by
  obtain⟨o',h1,_⟩:=hget q o hq;exact⟨σ q,o',h1,hb⟩
 have hpk:∀q,q<c→σ q<c∧ν' (σ q)=ν q∧∀o',lk (Zi σ hp) (σ q)=some o'→∃o,lk hp q=some o∧o'=o.rn σ:=fun q hq=>by
  refine⟨XD hjc hkc hq,by show ν (σ (σ q))=ν q;rw[hσ],fun o' ho'=>?_⟩;obtain⟨o,h1,h2⟩:=hget _ _ ho';rw[hσ]at h1;exact⟨o,h1,h2⟩
 have Fw:∀{av:AV} {v:Value},A5 w (Am S.X.M0 (lk hp) ν) (lk hp) ν (·< c) av v→A5 w (Am S.X.M0 (lk (Zi σ hp)) ν') (lk (Zi σ hp)) ν' (·< c) (av.rn σ) v:=fun{av v} hr =>
  hr.push hM fun k hk=>hpk k (hr.usedKs k hk)
 refine⟨hle,ν',⟨⟨hI.heap.below,hI.heap.M0,fun q o b hq hb=>?_,fun q o hq=>?_,fun q o b hq hb=>?_,fun q q' o o' b h1 h2 hb1 hb2=>?_,fun q o hq=>?_⟩,fun n av hn=>?_,hI.size,hI.defers.mono (Bi.refl _ _) (fun b _ h=>hM b h)⟩,?_⟩
 ·obtain⟨o',h1,_⟩:=hget q o hq;exact hI.heap.far _ _ _ h1 hb
 ·obtain⟨o',h1,_⟩:=hget q o hq;have:=hI.heap.usd _ _ h1;have h2:=XD hjc hkc this;show q<c;rw[← hσ q];exact h2
 ·obtain⟨o',h1,_⟩:=hget q o hq;exact hI.heap.blk _ _ _ h1 hb
 ·obtain⟨o1,g1,_⟩:=hget q o h1;obtain⟨o2,g2,_⟩:=hget q' o' h2;exact hinj _ _ (hI.heap.inj _ _ _ _ _ g1 g2 hb1 hb2)
 ·obtain⟨o',h1,rfl⟩:=hget q o hq;have hob:=hI.heap.obj _ _ h1;show Ky _ _ _ _ _ _ (ν (σ q)) _;cases o' with
  |var cs =>
   obtain⟨b,cells,e,h1,h2,h3,h4,h5⟩:=hob;refine⟨b,cells,e,h1,h2,by rw[h3,C1],fun x hx=>?_,fun i av u hi hu=>?_⟩
   ·rw[IR]at hx;obtain⟨y,hy,rfl⟩:=List.mem_map.1 hx;rw[Kd];exact h4 y hy
   ·obtain⟨b,hb,rfl⟩:=IQ hi;exact Fw (h5 i b u hb hu)
  |row e sz xs =>
   obtain⟨vals,h1,h2,h3,h4⟩:=hob;exact⟨vals,h1,h2,h3,h4.mono (Bi.refl _ _) (fun b _ h=>hM b h)⟩
  |map kt et es =>
   obtain⟨r0,ents,h1,h2,h3,h4⟩:=hob;exact⟨r0,ents,h1,h2,h3,fun i kd vd en q1 q2=>let ⟨x,y,z⟩:=h4 i kd vd en q1 q2;⟨x,y.mono (Bi.refl _ _) (fun b _ h=>hM b h),z.mono (Bi.refl _ _) (fun b _ h=>hM b h)⟩⟩
  |iter m c' seen =>
   obtain⟨b,mr,h1,h2,h3,h4⟩:=hob;obtain⟨p1,p2,p3⟩:=hpk m h3;refine⟨b,mr,h1,h2,p1,fun o ho=>?_⟩;obtain⟨o1,ho1,rfl⟩:=p3 o ho;obtain⟨kt,et,es,rfl,e2⟩:=h4 _ ho1;exact⟨kt,et,es,rfl,by rw[p2];exact e2⟩
  |tab T rows q=>exact E6.mono (Bi.refl _ _) (fun b _ h=>hM b h) (fun _ _=>rfl) hob
  |loop Y cs st =>
   obtain⟨l,lr,h1,h2,h3,h4,h5,h6⟩:=hob;refine⟨l,lr,h1,h2,h3,h4,h5,fun n av hn=>?_⟩;rw[Q2]at hn;obtain⟨b,hb,rfl⟩:=Option.map_eq_some_iff.1 hn;exact Fw (h6 n b hb)
 ·rw[Q2]at hn;obtain⟨av',h1,rfl⟩:=Option.map_eq_some_iff.1 hn;exact Fw (hI.env n av' h1)
 ·refine⟨hx.same,fun b hb h=>hx.shrink b hb (hM b h),hx.usd,fun q hq o ho=>?_,hx.sameO,fun b hb h=>hx.shrinkO b hb (hO b h)⟩;have hqq:σ q=q:=Zu hj hk hq;obtain⟨o',h1,rfl⟩:=hget q o ho;rw[hqq]at h1;obtain⟨o1,g1,g2,g3⟩:=hx.obj q hq o' h1;refine⟨o1,g1,WD g2 (List.all_eq_true.1 hf _ (Gy h1)),?_⟩;show HO.keeps _ _ _ (ν (σ q));rw[hqq];exact WB g3
theorem FH.cut{s:St}{a:Act}{w:World}(h:FH S s a w)(ns ks:List Nat):FH S ⟨AC s.E ns,AC s.hp ks,s.c⟩ a w:=by
 obtain⟨hle,ν,hI,hx⟩:=h;obtain⟨i1,x1⟩:=hI.heap.sub (H':=lk (AC s.hp ks)) (fun q o h=>Fy h);exact⟨hle,ν,⟨i1,fun n av hn=>(hI.env n av (Fy hn)).ext x1,hI.size,hI.defers.mono x1.same x1.shrink⟩,hx.trans x1⟩
theorem FH.low{E:BP}{hp:Aa}{c0:Nat}{a:Act}{w:World}(h:FH S ⟨E,hp,c0⟩ a w)(c:Nat)(hc:S.R.c≤c)(hE:Fs c E=true)(hH:F8 c hp=true):FH S ⟨E,hp,c⟩ a w:=by
 obtain⟨hle,ν,hI,hx⟩:=h;simp only at hI hx hle;have hkb:∀q o,lk hp q=some o→q<c∧IE c o=true:=fun q o h=>by
  have:=List.all_eq_true.1 hH _ (Gy h);simpa using this
 have i1:=hI.heap;refine⟨hc,ν,⟨⟨i1.below,i1.M0,i1.far,fun q o hq=>(hkb q o hq).1,i1.blk,i1.inj,fun q o hq=>?_⟩,fun n av hn=>?_,hI.size,hI.defers⟩,?_⟩
 ·have hob:=i1.obj q o hq;cases o with
  |var cs =>
   obtain⟨b,cells,e,h1,h2,h3,h4,h5⟩:=hob;have hcs:VY c cs=true:=(hkb q _ hq).2;exact⟨b,cells,e,h1,h2,h3,h4,fun i av u ha hu=>A5.restricts cs cells.toList (fun i d v hd hv=>h5 i d v hd (by simpa using hv)) hcs i av u ha (by simpa using hu)⟩
  |row e sz xs=>exact hob
  |tab _ _ _=>exact hob
  |map _ _ _=>exact hob
  |iter m c' seen =>
   obtain⟨b,mr,h1,h2,hu,hm⟩:=hob;exact⟨b,mr,h1,h2,by have:=(hkb q _ hq).2;simpa[IE]using this,hm⟩
  |loop Y cs st =>
   obtain⟨l,lr,h1,h2,h3,h4,h5,h6⟩:=hob;have hcs:Fs c cs=true:=(hkb q _ hq).2;exact⟨l,lr,h1,h2,h3,h4,h5,fun n av hn=>A5.restrict av _ (h6 n av hn) (by simpa using List.all_eq_true.1 hcs _ (Gy hn))⟩
 ·have hb:=List.all_eq_true.1 hE _ (Gy hn);exact A5.restrict av _ (hI.env n av hn) (by simpa using hb)
 ·exact⟨hx.same,hx.shrink,fun k hk=>Nat.lt_of_lt_of_le hk hc,hx.obj,hx.sameO,hx.shrinkO⟩
end
end Go.Eng
namespace Go.Eng
open Go.RowKit
section
variable {P:Program} {S:Sp} {Q:Exit→St→Prop}
theorem FH.fix{E:BP}{hp:Aa}{c:Nat}{a:Act}{w:World}(h:FH S ⟨E,hp,c⟩ a w)(k:Nat){cs:List AV}{ds:List D}{ks:List Nat}(hl:lk hp k=some (.var cs))(hd:FN (lk hp) cs=some (ds,ks))(hk:ks.elem k=false)(hc:ds.all D.cell=true) :
 FH S ⟨E,put (Bq hp ks) k (.var (ds.map .d)),c⟩ a w:=by
 obtain⟨hle,ν,hI,hx⟩:=h;simp only at hI hx hle;have hkk:k∉ks:=by simpa using hk
 obtain⟨i1,x1⟩:=hI.heap.drops ks;have hk1:lk (Bq hp ks) k=some (.var cs):=by rw[D1 ks hp k hkk];exact hl
 have hob:=hI.heap.obj _ _ hl;obtain⟨b,cells,e,h1,h2,h3,h4,h5⟩:=hob;have hget:∀q o,lk (put (Bq hp ks) k (.var (ds.map .d))) q=some o→∃o',lk (Bq hp ks) q=some o':=fun q o h=>by
  by_cases e:q=k
  ·subst e;exact⟨_,hk1⟩
  ·rw[A9 _ _ _ _ e]at h;exact⟨o,h⟩
 have hM:∀b,Am S.X.M0 (lk (put (Bq hp ks) k (.var (ds.map .d)))) ν b→Am S.X.M0 (lk (Bq hp ks)) ν b:=fun b h=>by
  rcases h with h|⟨q,o,hq,hb⟩
  ·exact .inl h
  ·obtain⟨o',h'⟩:=hget q o hq;exact .inr ⟨q,o',h',hb⟩
 have hrep:=G8 hI.heap (M':=Am S.X.M0 (lk (put (Bq hp ks) k (.var (ds.map .d)))) ν) (fun b h=>Am.dels_sub b (hM b h)) cs cells.toList ds ks (by simp[h3]) (fun i d v hi hv=>h5 i d v hi (by simpa using hv)) hd
  (fun q hq b hb h=>hI.heap.notMut (Fd _ _ _ hd) q hq b hb (hM b h))
 have hlen:ds.length=cs.length:=by rw[hrep.1];simp[h3]
 have x2:CT (Am S.X.M0 (lk (Bq hp ks)) ν) (lk (Bq hp ks)) ν (·< c) w (Am S.X.M0 (lk (put (Bq hp ks) k (.var (ds.map .d)))) ν) (lk (put (Bq hp ks) k (.var (ds.map .d)))) ν (·< c) w:=by
  refine⟨Bi.refl _ _,fun b _ h=>hM b h,fun _ h=>h,fun q _ o ho=>?_,Bi.refl _ _,fun b _ ⟨q,o,hq,hb⟩=>let ⟨o',h'⟩:=hget q o hq;⟨q,o',h',hb⟩⟩;by_cases e:q=k
  ·subst e;rw[Ab]at ho;cases ho;exact⟨_,hk1,by simp[HO.later,hlen],HO.keeps_of⟩
  ·rw[A9 _ _ _ _ e]at ho;exact⟨o,ho,HO.later.refl _,HO.keeps_of⟩
 refine⟨hle,ν,⟨⟨i1.below,i1.M0,fun q o b hq hb=>?_,fun q o hq=>?_,fun q o b hq hb=>?_,fun q q' o o' b g1 g2 hb1 hb2=>?_,fun q o hq=>?_⟩,fun n av hn=>(hI.env n av hn).ext (x1.trans x2),hI.size,(hI.defers.mono x1.same x1.shrink).mono x2.same x2.shrink⟩,hx.trans (x1.trans x2)⟩
 ·obtain⟨o',h'⟩:=hget q o hq;exact i1.far _ _ _ h' hb
 ·obtain⟨o',h'⟩:=hget q o hq;exact i1.usd _ _ h'
 ·obtain⟨o',h'⟩:=hget q o hq;exact i1.blk _ _ _ h' hb
 ·obtain⟨o1,k1⟩:=hget q o g1;obtain⟨o2,k2⟩:=hget q' o' g2;exact i1.inj _ _ _ _ _ k1 k2 hb1 hb2
 ·by_cases e1:q=k
  ·subst e1;rw[Ab]at hq;cases hq;refine⟨b,cells,e,h1,h2,by rw[h3,List.length_map,hlen],fun x hx=>?_,fun i av u hi hu=>?_⟩
   ·obtain⟨d,hd1,rfl⟩:=List.mem_map.1 hx;have:=List.all_eq_true.1 hc d hd1;simpa[AV.cell]using this
   ·rw[List.getElem?_map]at hi;obtain⟨d,hd1,rfl⟩:=Option.map_eq_some_iff.1 hi;exact .d (hrep.2 i d u hd1 (by simpa using hu))
  ·rw[A9 _ _ _ _ e1]at hq;exact(i1.obj _ _ hq).ext x2 (fun _ _=>rfl)
end
end Go.Eng
namespace Go.Eng
open Go.RowKit
open Go.ChangeMaps (setBlock)
theorem At.loopTo{X:DT}{hp:Aa}{ν:Nat→Value}{used:Nat→Prop}{w:World}(hI:At X (lk hp) ν used w){k l:Nat}{Y:Ym}{cs:BP}{st st':VW}(ho:lk hp k=some (.loop Y cs st))(hν:ν k= .func (.yield l) #[] #[]){lr:Loop}(hl:w.heap[l]? =some (.loop lr))
 (lr':Loop) (h1:lr'.params=lr.params∧lr'.assign=lr.assign∧lr'.body=lr.body∧lr'.tmps=lr.tmps) (hst:st'.of lr') :
 At X (lk (put hp k (.loop Y cs st'))) ν used (w.putObj l (.loop lr'))∧CT (Am X.M0 (lk hp) ν) (lk hp) ν used w (Am X.M0 (lk (put hp k (.loop Y cs st'))) ν) (lk (put hp k (.loop Y cs st'))) ν used (w.putObj l (.loop lr')):=by
 obtain⟨l0,lr0,e0,g1,g2,g3,g4,g5⟩:=hI.obj _ _ ho;rw[hν]at e0;cases e0;rw[hl]at g1;cases g1;refine hI.turn ho (b:=l) (by rw[hν];rfl) (w1:=w) (.inl rfl) (.loop lr') rfl (fun M' H' hx=>?_);refine⟨l,lr',hν,World.putObj_heap_same (Array.getElem?_eq_some_iff.1 hl).1,⟨h1.1.trans g2.1,h1.2.1.trans g2.2.1,h1.2.2.1.trans g2.2.2⟩,hst,by rw[h1.2.2.2];exact g4,fun n av ha=>?_⟩;rw[h1.2.2.2];exact(g5 n av ha).ext hx
def NB(ps:List Nat)(args:List AV)(cs:BP):BP:=(ps.zip args).foldl (fun E p=>p::E) cs
def L8(k0:Nat)(Y:Ym)(cs:BP)(r:AV)(hp':Aa)(ks:List Nat):Exit→St→Prop
 |.normal,s=>lk s.hp k0=some (.loop Y cs .busy)∧r= .d (.bool true)∧AC (put s.hp k0 (.loop Y cs .ready)) ks=hp'
 |.ret,s=>lk s.hp k0=some (.loop Y cs .busy)∧r= .d (.bool false)∧AC (put s.hp k0 (.loop Y cs (.done .ret))) ks=hp'
 |.exit i,s=>lk s.hp k0=some (.loop Y cs .busy)∧r= .d (.bool false)∧AC (put s.hp k0 (.loop Y cs (.done (.exit i)))) ks=hp'
 |_,_=>False
def T8(P:Program)(S:Sp)(k0:Nat)(Y:Ym)(cs:BP)(r:AV)(hp':Aa)(ks:List Nat):St→Prop:=fun s =>
 lk s.hp k0=some (.loop Y cs .ready)∧WP P S Y.body ⟨s.E,put s.hp k0 (.loop Y cs .busy),s.c⟩ (L8 k0 Y cs r hp' ks)
def fD(X:DT)(N:Nat)(hp:Aa)(ν:Nat→Value)(n:Nat)(w:World)(l:Nat):Sp:=⟨X,N,⟨Am X.M0 (lk hp) ν,lk hp,ν,n,w⟩,some l⟩
theorem NC{w:World}{M:Nat→Prop}{H:Nat→Option HO}{ν:Nat→Value}{used:Nat→Prop}{N:Nat}:∀(ps:List Nat) (args:List AV) (xs:List Value) (E:BP) (tmps:Array Value),ps.length=args.length→args.length=xs.length→tmps.size=N →
 (ps.all fun t=>decide (t<N))=true→(∀n av,lk E n=some av→A5 w M H ν used av (tmps.getD n undef))→(∀(i:Nat) d v,args[i]? =some d→xs[i]? =some v→A5 w M H ν used d v) →
 (∀n av,lk ((ps.zip args).foldl (fun E p=>p::E) E) n=some av→A5 w M H ν used av (((ps.zip xs).foldl (fun tmps (x:Nat×Value)=>tmps.setIfInBounds x.1 x.2) tmps).getD n undef)) ∧
   ((ps.zip xs).foldl (fun tmps (x:Nat×Value)=>tmps.setIfInBounds x.1 x.2) tmps).size=N
 | [],args,xs,E,tmps,h1,h2,hs,hb,hE,ha=>⟨fun n av hn=>hE n av hn,hs⟩
 |p::ps,[],xs,E,tmps,h1,h2,hs,hb,hE,ha=>by simp at h1
 |p::ps,a::args,[],E,tmps,h1,h2,hs,hb,hE,ha=>by simp at h2
 |p::ps,a::args,x::xs,E,tmps,h1,h2,hs,hb,hE,ha=>by
  simp only[List.all_cons,Bool.and_eq_true,decide_eq_true_eq]at hb;simp only[List.zip_cons_cons,List.foldl_cons];refine NC ps args xs ((p,a)::E) (tmps.setIfInBounds p x) (by simpa using h1) (by simpa using h2) (by simpa using hs) hb.2 (fun n av hn=>?_) (fun i d v hd hv=>ha (i+1) d v (by simpa using hd) (by simpa using hv));simp only[lk]at hn;have hp:=hb.1;rw[← hs]at hp;split at hn
  ·rename_i e;subst e;cases hn;simp only[Array.getD_eq_getD_getElem?,Array.getElem?_setIfInBounds_self_of_lt hp,Option.getD_some];exact ha 0 a x rfl rfl
  ·rename_i e;have:=hE n av hn;simpa[Array.getD_eq_getD_getElem?,Array.getElem?_setIfInBounds_ne e]using this
section
variable {P:Program}
theorem D7.run{k0 n N:Nat}{Y:Ym}{ps:List Nat}{args:List AV}{cs:BP}{hp hp':Aa}{r:AV}{ks:List Nat}{E:BP}(hps:Y.ps=ps.toArray)(hk:lk hp k0=some (.loop Y cs .ready))(hsz:Nat.beq ps.length args.length=true)(hcs:Y.N=N)(hN:(ps.all fun t=>decide (t<N))=true)(hE:NB ps args cs=E)
 (h:∀l X ν w,WP P (fD X N hp ν n w l) Y.assign ⟨E,hp,n⟩ (Ko (T8 P (fD X N hp ν n w l) k0 Y cs r hp' ks) (fun _ _=>False))):D7 P (.yld k0::args) hp r hp' n:=by
 subst hE;have hsz:=Nat.eq_of_beq_eq_true hsz;intro X ν w vs hI hlen hrep;cases vs with
 |nil=>simp at hlen
 |cons v0 xs =>
  simp only[List.length_cons,Nat.add_right_cancel_iff]at hlen;obtain⟨l,lr,hν,hg,⟨e1,e2,e3⟩,⟨hst,hpe⟩,hcl,hcr⟩:=hI.obj _ _ hk;have h0:=hrep 0 _ _ rfl rfl;have hv0:v0= .func (.yield l) #[] #[]:=by
   cases h0 with
   |yld hu hh =>
    obtain⟨_,_,_,_,hν'⟩:=hh _ hk;rw[hν]at hν';cases hν';rfl
  subst hv0;have hk0:k0<n:=hI.usd _ _ hk;refine⟨l,xs,lr.fn,_,lr.assign,lr.body,rfl,run_yield hg (by rw[e1,hps];simp;omega),?_⟩;rw[e1,e2,e3];refine roundIn_of_wpIn (F:=Fence.wide) trivial ?_;have hzip:(Y.ps.zip xs.toArray).foldl (fun tmps (t,a)=>tmps.setIfInBounds t a) lr.tmps=(ps.zip xs).foldl (fun tmps (x:Nat×Value)=>tmps.setIfInBounds x.1 x.2) lr.tmps:=by
   rw[hps];simp[← Array.foldl_toList]
  rw[hzip];have henv:=NC (w:=w) (M:=Am X.M0 (lk hp) ν) (H:=lk hp) (ν:=ν) (used:=(·< n)) (N:=N) ps args xs cs lr.tmps hsz hlen (hcl.trans hcs) hN hcr (fun i d v hd hv=>hrep (i+1) d v (by simpa using hd) (by simpa using hv));have hI0:At (X.at 0) (lk hp) ν (·< n) w:=hI.at 0;refine wpIn_mono (F:=FR (some l)) (h l (X.at 0) ν w { tmps:=(ps.zip xs).foldl (fun tmps (x:Nat×Value)=>tmps.setIfInBounds x.1 x.2) lr.tmps,defers:=[] } w ⟨Nat.le_refl _,ν,⟨hI0,henv.1,henv.2,Nat.zero_le _,trivial⟩,CT.refl _ _ _ _ _⟩) ?_;rintro e a1 w1 ⟨s1,⟨hle1,ν1,hI1,hx1⟩,hq⟩;cases e with
  |normal =>
   obtain⟨hk1,hbody⟩:=hq;obtain⟨l1,lr1,hν1,hg1,f1,⟨f2,f2'⟩,f3,f4⟩:=hI1.heap.obj _ _ hk1;have hl1:l1=l:=by
    obtain⟨o,ho,_,hs⟩:=hx1.obj k0 hk0 _ hk1;have e:ν1 k0=ν k0:=by cases o<;>exact hs
    rw[hν,hν1]at e;cases e;rfl
   subst hl1;refine⟨_,run_beginRound hg1 f2,?_⟩;obtain⟨i2,x2⟩:=hI1.heap.loopTo (st':=.busy) hk1 hν1 hg1 { lr1 with state:=.busy } ⟨rfl,rfl,rfl,rfl⟩ ⟨rfl,f2'⟩;refine wpIn_mono (F:=FR (some l1)) (hbody a1 _ ⟨hle1,ν1,⟨i2,fun m av hm=>(hI1.env m av hm).ext x2,hI1.size,hI1.defers.mono x2.same x2.shrink⟩,hx1.trans x2⟩) ?_;rintro e a3 w3 ⟨s3,⟨hle3,ν3,hI3,hx3⟩,hq3⟩;have fin:∀(jump:Option Code) (st':VW),lk s3.hp k0=some (.loop Y cs .busy)→(∀lr3:Loop,st'.of { lr3 with state:=if jump.isNone then .ready else .done,pending:=jump })→r= .d (.bool jump.isNone)→AC (put s3.hp k0 (.loop Y cs st')) ks=hp' →
    ∃v w',(Instr.endRound l1 jump).run P w3= .ok v w'∧∃v' ν' c,Ending.returned v= .returned v'∧At X (lk hp') ν' (·< c) w' ∧
     CT (Am X.M0 (lk hp) ν) (lk hp) ν (·< n) w (Am X.M0 (lk hp') ν') (lk hp') ν' (·< c) w'∧A5 w' (Am X.M0 (lk hp') ν') (lk hp') ν' (·< c) r v':=by
    intro jump st' hk3 hst' hr hh;subst hr;subst hh;obtain⟨l3,lr3,hν3,hg3,_⟩:=hI3.heap.obj _ _ hk3;have hl3:l3=l1:=by
     obtain⟨o,ho,_,hs⟩:=hx3.obj k0 hk0 _ hk3;have e:ν3 k0=ν k0:=by cases o<;>exact hs
     rw[hν,hν3]at e;cases e;rfl
    subst hl3;obtain⟨i4,x4⟩:=hI3.heap.loopTo (st':=st') hk3 hν3 hg3 { lr3 with state:=if jump.isNone then .ready else .done,pending:=jump } ⟨rfl,rfl,rfl,rfl⟩ (hst' lr3);obtain⟨i5,x5⟩:=i4.sub (H':=lk (AC (put s3.hp k0 (.loop Y cs st')) ks)) (fun q o h=>Fy h);exact⟨_,_,run_endRound jump hg3,_,ν3,s3.c,rfl,i5.unat,(hx3.trans x4).trans x5,.d (.bool _)⟩
   cases e with
   |normal=>exact fin none .ready hq3.1 (fun _=>⟨rfl,rfl⟩) hq3.2.1 hq3.2.2
   |ret=>exact fin (some .ret) (.done .ret) hq3.1 (fun _=>⟨rfl,rfl⟩) hq3.2.1 hq3.2.2
   |exit i=>exact fin (some (.exit i)) (.done (.exit i)) hq3.1 (fun _=>⟨rfl,rfl⟩) hq3.2.1 hq3.2.2
   |goto i=>exact hq3.elim
   |panic i=>exact hq3.elim
   |outgrown=>exact hq3.elim
  |_=>exact hq.elim
end
theorem Uo{k0:Nat}{Y:Ym}{cs:BP}{hp':Aa}{ks:List Nat}{s:St}(h:lk s.hp k0=some (.loop Y cs .busy))(h2:AC (put s.hp k0 (.loop Y cs .ready)) ks=hp'):L8 k0 Y cs (.d (.bool true)) hp' ks .normal s:=⟨h,rfl,h2⟩
theorem Up{k0:Nat}{Y:Ym}{cs:BP}{hp':Aa}{ks:List Nat}{s:St}(h:lk s.hp k0=some (.loop Y cs .busy))(h2:AC (put s.hp k0 (.loop Y cs (.done .ret))) ks=hp'):L8 k0 Y cs (.d (.bool false)) hp' ks .ret s:=⟨h,rfl,h2⟩
theorem Uq{k0 i:Nat}{Y:Ym}{cs:BP}{hp':Aa}{ks:List Nat}{s:St}(h:lk s.hp k0=some (.loop Y cs .busy))(h2:AC (put s.hp k0 (.loop Y cs (.done (.exit i)))) ks=hp'):L8 k0 Y cs (.d (.bool false)) hp' ks (.exit i) s:=⟨h,rfl,h2⟩
theorem Un{P:Program}{S:Sp}{k0:Nat}{Y:Ym}{cs:BP}{r:AV}{hp':Aa}{ks:List Nat}{E:BP}{hp hp1:Aa}{c:Nat}{K:Exit→St→Prop}(h:lk hp k0=some (.loop Y cs .ready))(h1:put hp k0 (.loop Y cs .busy)=hp1)(h2:WP P S Y.body ⟨E,hp1,c⟩ (L8 k0 Y cs r hp' ks)) :
 Ko (T8 P S k0 Y cs r hp' ks) K .normal ⟨E,hp,c⟩:=⟨h,h1▸h2⟩
def J9(E:BP):BP→Prop
 | []=>True
 |p::cs=>lk E p.1=some p.2∧J9 E cs
theorem QX{E:BP}:∀{cs:BP},J9 E cs→∀n av,lk cs n=some av→lk E n=some av
 | [],_,n,av,h=>by simp[lk]at h
 |p::cs,h,n,av,hl=>by
  simp only[lk]at hl;split at hl
  ·rename_i e;subst e;cases hl;exact h.1
  ·exact QX h.2 n av hl
def bW(P:Program)(S:Sp)(Q:Exit→St→Prop)(s:St):VW→Prop
 |.ready=>Q .normal s
 |.done c=>WP P S c s Q
 |_=>False
section
variable {P:Program} {S:Sp} {Q:Exit→St→Prop}
theorem Qy{g:Operand}{ps:Array Tmp}{assign body:Code}{E:BP}{hp hp2:Aa}{c:Nat}{gf:FuncId}{caps az:List AV}{cs:BP}{hpc hp':Aa}{r:AV}{n N:Nat}{l:List Nat}{st:VW}(hrd:S.rd=none)(hf:Rf (opnd E g)=some (gf,caps))(hN:S.N=N)(hcs:J9 E cs)
 (hl:EZ ((c,.loop ⟨N,ps,assign,body⟩ cs .ready)::hp) 5 (Es (c::J4 caps) [])=l) (hs:Ai P gf az hpc r hp' n) (hc0:lk hp c=none) (ha:az.map (AV.rn (sg l (c+1)))= .yld c::caps)
 (hsub:hpc.map (fun p=>lk ((c,.loop ⟨N,ps,assign,body⟩ cs .ready)::hp) (sg l (c+1) p.1))=hpc.map (fun p=>some (p.2.rn (sg l (c+1)))))
 (hb:DS (c+1) n (sg l (c+1)) (hpc.map (·.1)) (fresh (hpc.map (·.1)) hp') az hpc r hp'=true)
 (hH:BO ((c,.loop ⟨N,ps,assign,body⟩ cs .ready)::hp) (C0 (sg l (c+1)) (hpc.map (·.1)++fresh (hpc.map (·.1)) hp') hp')=hp2) (hst:lk hp2 c=some (.loop ⟨N,ps,assign,body⟩ cs st))
 (h:bW P S Q ⟨E,DM hp2 c,c+2⟩ st):WP P S (.rangeFunc g ps assign body) ⟨E,hp,c⟩ Q:=by
 subst hH;subst hN;intro a w hr;obtain⟨hle,ν,hI,hx⟩:=hr;simp only at hI hx hle;refine wpIn_rangeFunc fun fn hfn=>?_;have hro:(FR S.rd).round=none:=by rw[hrd];rfl
 rw[hro];have hcapF:∃csv:List Value,a.eval g= .func (.func gf) #[] csv.toArray∧caps.length=csv.length∧∀(i:Nat) d v,caps[i]? =some d→csv[i]? =some v→A5 w (Am S.X.M0 (lk hp) ν) (lk hp) ν (·< c) d v:=by
  have hfv:=hI.opnd g;generalize a.eval g=fv at hfv;generalize Eng.opnd E g=fa at hfv hf;cases fa<;>simp only[Rf]at hf<;>try (cases hf;done)
  case d x =>
   cases x<;>simp only[]at hf<;>try (cases hf;done)
   cases hf;cases hfv with
   |d h=>cases h;exact⟨[],rfl,rfl,fun i d v hd=>by simp at hd⟩
  case fn f0 caps0 =>
   cases hf;cases hfv with
   |fn hl h=>exact⟨_,rfl,hl,h⟩
 obtain⟨csv,hav,hcl,hcr⟩:=hcapF;have hb0:Bl w.heap.size w (w.alloc (.deferred (some []))):=⟨(Below.refl _ _).alloc (Nat.le_refl _) _,Nat.le_refl _⟩
 obtain⟨i0,x0⟩:=hI.heap.world hb0;have hkey:¬c<c:=Nat.lt_irrefl _;have hsz0:(w.alloc (.deferred (some []))).heap.size=w.heap.size+1:=by simp
 obtain⟨i1,x1⟩:=i0.alloc (k:=c) hkey (.loop { state:=.ready,pending:=none,fn,tmps:=a.tmps,params:=ps,assign,body,defers:=w.heap.size }) (.loop ⟨S.N,ps,assign,body⟩ cs .ready) (.func (.yield (w.heap.size+1)) #[] #[]) (by simp[AL,Ag])
  (fun M' H' ν' used' hx'=>⟨w.heap.size+1,_,rfl,by rw[← hsz0];exact World.alloc_heap_new _ _,⟨rfl,rfl,rfl⟩,⟨rfl,rfl⟩,hI.size,fun n av ha'=>((hI.env n av (QX hcs n av ha')).ext x0).ext hx'⟩)
 generalize hW1:(w.alloc (.deferred (some []))).alloc (.loop { state:=.ready,pending:=none,fn,tmps:=a.tmps,params:=ps,assign,body,defers:=w.heap.size })=w1 at i1 x1;generalize hν1:upd ν c (.func (.yield (w.heap.size+1)) #[] #[])=ν1 at i1 x1;have hν1c:ν1 c= .func (.yield (w.heap.size+1)) #[] #[]:=by rw[← hν1,Ac]
 have hdel:lk (put hp c (.loop ⟨S.N,ps,assign,body⟩ cs .ready))=lk ((c,.loop ⟨S.N,ps,assign,body⟩ cs .ready)::hp):=by
  funext q;by_cases e:q=c
  ·subst e;rw[Ab];simp[lk]
  ·rw[A9 _ _ _ _ e];simp only[lk];rw[if_neg (fun h=>e h.symm)]
 rw[hdel]at i1 x1;have hk1:lk ((c,HO.loop ⟨S.N,ps,assign,body⟩ cs .ready)::hp) c=some (.loop ⟨S.N,ps,assign,body⟩ cs .ready):=by simp[lk]
 have hB1:w1.heap[w.heap.size]? =some (.deferred (some [])):=by
  rw[← hW1];exact(Below.heap_alloc _ _ _ (by simp)).trans (World.alloc_heap_new w _)
 have hnB:¬Am S.X.M0 (lk ((c,HO.loop ⟨S.N,ps,assign,body⟩ cs .ready)::hp)) ν1 w.heap.size:=fun hm=>by
  rcases hm with hm|⟨q,o,hq,hbq⟩
  ·exact absurd (hI.heap.M0 _ hm) (Nat.lt_irrefl _)
  ·by_cases e:q=c
   ·subst e;rw[hν1c]at hbq;simp only[AL,Ag,Option.some.injEq]at hbq;omega
   ·simp only[lk]at hq;rw[if_neg (fun h=>e h.symm)]at hq;rw[← hν1,Al _ _ _ _ e]at hbq;exact absurd (hI.heap.blk _ _ _ hq hbq).2 (Nat.lt_irrefl _)
 have hmk:J7 S.X.lo w1 (Am S.X.M0 (lk ((c,HO.loop ⟨S.N,ps,assign,body⟩ cs .ready)::hp)) ν1) ({ target:=.collected w.heap.size,args := #[] }::a.defers):=by
  have hm1:=(hI.defers.mono x0.same x0.shrink).mono x1.same x1.shrink;refine⟨hm1.1,⟨_,rfl,hI.defers.1,hB1,hnB⟩,fun hin=>?_,hm1.2⟩;have:∀(ds:List Deferred),Kx S.X.lo w (Am S.X.M0 (lk hp) ν) ds→({ target:=.collected w.heap.size,args := #[] }:Deferred)∈ds→False:=by
   intro ds;induction ds with
   |nil=>intro _ h;cases h
   |cons d ds ih =>
    rintro⟨⟨B,e,_,h2,_⟩,_,ht⟩ hm;rcases List.mem_cons.1 hm with h|h
    ·rw[← h]at e;have e':w.heap.size=B:=by injection e with e1 _;injection e1
     have:=(Array.getElem?_eq_some_iff.1 h2).1;omega
    ·exact ih ht h
  exact this _ hI.defers.2 hin
 have hall:∀(i:Nat) d v,az[i]? =some d→(Value.func (.yield (w.heap.size+1)) #[] #[]::csv)[i]? =some v→A5 w1 (Am S.X.M0 (lk ((c,HO.loop ⟨S.N,ps,assign,body⟩ cs .ready)::hp)) ν1) (lk ((c,HO.loop ⟨S.N,ps,assign,body⟩ cs .ready)::hp)) ν1 (fun q=>q<c∨q=c) (d.rn (sg l (c+1))) v:=fun i d v h1 h2=>by
  have h3:(az.map (AV.rn (sg l (c+1))))[i]? =some (d.rn (sg l (c+1))):=by simp[h1]
  rw[ha]at h3;cases i with
  |zero =>
   simp only[List.getElem?_cons_zero,Option.some.injEq]at h2 h3;rw[← h2,← h3];exact .yld (.inr rfl) fun o ho=>by rw[hk1]at ho;cases ho;exact⟨_,_,_,rfl,hν1c⟩
  |succ i =>
   simp only[List.getElem?_cons_succ]at h2 h3;exact((hcr i _ v h3 h2).ext x0).ext x1
 have hlen:az.length=(Value.func (.yield (w.heap.size+1)) #[] #[]::csv).length:=by
  have:=congrArg List.length ha;simp only[List.length_map,List.length_cons]at this ⊢;omega
 have hnd:(hpc.map (·.1)).Nodup:=by
  have hb':=hb;simp only[DS,Bool.and_eq_true,decide_eq_true_eq]at hb';exact ES hb'.1.1.1.1.1.2
 have hsub':∀k∈hpc.map (·.1),∃o,lk hpc k=some o∧lk ((c,HO.loop ⟨S.N,ps,assign,body⟩ cs .ready)::hp) (sg l (c+1) k)=some (o.rn (sg l (c+1))):=fun k hk=>by
  obtain⟨⟨k',o⟩,hm,rfl⟩:=List.mem_map.1 hk;refine⟨o,II hnd hm,?_⟩;obtain⟨j,hj⟩:=List.mem_iff_getElem?.1 hm;have:=congrArg (fun l=>l[j]?) hsub;simp only[List.getElem?_map,hj,Option.map_some,Option.some.injEq]at this;exact this
 obtain⟨henter,hcalls⟩:=KJ (CM.good P gf) i1 (q:=c+1) (by omega) hs hb hsub' hlen hall;have harr:(Value.func (.yield (w.heap.size+1)) #[] #[]::csv).toArray = #[.func (.yield (w.heap.size+1)) #[] #[]]++csv.toArray:=by simp
 rw[harr]at henter hcalls;refine⟨w.heap.size+1,[{ target:=.collected w.heap.size,args := #[] }],w1,{ target:=.fn (.func gf) csv.toArray,args := #[.func (.yield (w.heap.size+1)) #[] #[]] },w1,gf,_,w1,?_,?_,fun _ _=>trivial,?_,fun _=>?_,Pq (hcalls.mono ?_)⟩
 ·rw[← hW1];exact run_enterLoop_outer _ _ _ _ _
 ·simp only[resolve,hav];simp[go_sem]
 ·simp only[invoke];rw[henter]
 ·rename_i hh;simp[FR,Fence.wide]at hh
 rintro e w2 ⟨v,ν2,rfl,i2,x2,_⟩;generalize BO ((c,HO.loop ⟨S.N,ps,assign,body⟩ cs .ready)::hp) (C0 (sg l (c+1)) (hpc.map (·.1)++fresh (hpc.map (·.1)) hp') hp')=hp2 at *;have e1f:(fun k=>(k<c∨k=c)∨k=c+1)=(fun k=>k<c+2):=funext fun k=>propext (by omega);rw[e1f]at i2 x2;obtain⟨l2,lr2,hν2,hg2,_,hst2,_⟩:=i2.obj _ _ hst;have hl2:l2=w.heap.size+1:=by
  obtain⟨o,ho,_,hs2⟩:=x2.obj c (.inr rfl) _ hst;have e:ν2 c=ν1 c:=by cases o<;>exact hs2
  rw[hν1c,hν2]at e;cases e;rfl
 subst hl2;have hst0:lr2.state≠.busy∧(match st with| .ready=>lr2.pending=none| .done c'=>lr2.pending=some c'|_=>True):=by
  cases st with
  |ready=>exact⟨by rw[hst2.1];simp,hst2.2⟩
  |done c'=>exact⟨by rw[hst2.1];simp,hst2.2⟩
  |busy=>exact h.elim
  |gone=>exact h.elim
 obtain⟨i3,x3⟩:=i2.loopTo (st':=.gone) hst hν2 hg2 { lr2 with state:=.exhausted } ⟨rfl,rfl,rfl,rfl⟩ rfl;obtain⟨i4,x4⟩:=i3.drop c;have hlk:lk (DM (put hp2 c (.loop ⟨S.N,ps,assign,body⟩ cs .gone)) c)=lk (DM hp2 c):=by
  funext q;by_cases e:q=c
  ·subst e;rw[B3,B3]
  ·rw[Bc _ _ _ e,A9 _ _ _ _ e,Bc _ _ _ e]
 rw[hlk]at i4 x4;have hxall:=(((x0.trans x1).trans x2).trans x3).trans x4;have hrel:FH S ⟨E,DM hp2 c,c+2⟩ { a with defers:=[{ target:=.collected w.heap.size,args := #[] }]++a.defers } (w2.putObj (w.heap.size+1) (.loop { lr2 with state:=.exhausted })):=by
  refine⟨by show S.R.c≤c+2;omega,ν2,⟨i4,fun m av hm=>(hI.env m av hm).ext hxall,hI.size,?_⟩,hx.trans hxall⟩;exact((hmk.mono x2.same x2.shrink).mono x3.same x3.shrink).mono x4.same x4.shrink
 refine⟨lr2.pending,_,run_endLoop hg2 hst0.1,?_⟩;cases st with
 |ready =>
  have hp0:lr2.pending=none:=hst0.2;rw[hp0]at hrel ⊢;exact⟨_,hrel,h⟩
 |done c' =>
  have hp0:lr2.pending=some c':=hst0.2;rw[hp0]at hrel ⊢;exact h _ _ hrel
 |busy=>exact h.elim
 |gone=>exact h.elim
end
section
variable {P:Program}
theorem ZC{ops:Array Oper}{c i q:Nat}{dst:Option Nat}{ty:TypeId}{pos:String}{after:Array Edge}{guard:Option (Nat×Bool)}{os:List Oper}{E E1 E':BP}{hp hp1 hpE:Aa}{outs:List EX}{f:Operand}{args:List Operand}{ts:Array TypeId}
 {kl:Nat} {az as':List AV} {l:List Nat} {hpc hp':Aa} {r v:AV} {n:Nat} {es:List (Nat×Option HO)} (hq:c+i=q) (hf:opnd E f= .yld kl) (hargs:.yld kl::args.map (opnd E)=as') (hl:EZ hp 5 (Es (J4 as') [])=l) (hs:D7 P az hpc r hp' n)
 (ha:az.map (AV.rn (sg l q))=as') (hsub:hpc.map (fun p=>lk hp (sg l q p.1))=hpc.map (fun p=>some (p.2.rn (sg l q)))) (hb:DS q n (sg l q) (hpc.map (·.1)) (fresh (hpc.map (·.1)) hp') az hpc r hp'=true) (hv:r.rn (sg l q)=v)
 (hes:C0 (sg l q) (hpc.map (·.1)++fresh (hpc.map (·.1)) hp') hp'=es) (hH:BO hp es=hp1) (hE:EF E dst v=E1) (hg:gd ops E guard=some true) (t:Ev P ops c (i+1) os E1 hp1 outs E' hpE) :
 Ev P ops c i (⟨dst,.call ⟨.value f,args.toArray,ts⟩,ty,pos,after,guard⟩::os) E hp (⟨dst,v,es,(hpc.map (·.1)).map (sg l q)⟩::outs) E' hpE:=by
 subst hq;subst hargs;subst hv;subst hes;subst hH;subst hE;refine .cons (.callY hg rfl hf ha hs hb (fun k hk=>?_)) t;obtain⟨⟨k',o⟩,hm,rfl⟩:=List.mem_map.1 hk;have hnd:(hpc.map (·.1)).Nodup:=by
  have hb':=hb;simp only[DS,Bool.and_eq_true,decide_eq_true_eq]at hb';exact ES hb'.1.1.1.1.1.2
 refine⟨o,II hnd hm,?_⟩;obtain⟨j,hj⟩:=List.mem_iff_getElem?.1 hm;have:=congrArg (fun l=>l[j]?) hsub;simp only[List.getElem?_map,hj,Option.map_some,Option.some.injEq]at this;exact this
theorem W5{ops:Array Oper}{c i q d:Nat}{ty:TypeId}{pos:String}{after:Array Edge}{guard:Option (Nat×Bool)}{os:List Oper}{E E':BP}{hp hp1 hpE:Aa}{outs:List EX}{f:Operand}{args:List Operand}{ts:Array TypeId}
 {kl:Nat} {az as':List AV} {l:List Nat} {hpc hp':Aa} {r v:AV} {n:Nat} {es:List (Nat×Option HO)} (hq:c+i=q) (hf:opnd E f= .yld kl) (hargs:.yld kl::args.map (opnd E)=as') (hl:EZ hp 5 (Es (J4 as') [])=l) (hs:D7 P az hpc r hp' n)
 (ha:az.map (AV.rn (sg l q))=as') (hsub:hpc.map (fun p=>lk hp (sg l q p.1))=hpc.map (fun p=>some (p.2.rn (sg l q)))) (hb:DS q n (sg l q) (hpc.map (·.1)) (fresh (hpc.map (·.1)) hp') az hpc r hp'=true) (hv:r.rn (sg l q)=v)
 (hes:C0 (sg l q) (hpc.map (·.1)++fresh (hpc.map (·.1)) hp') hp'=es) (hH:BO hp es=hp1) (hg:gd ops E guard=some true) (t:Ev P ops c (i+1) os ((d,v)::E) hp1 outs E' hpE) :
 Ev P ops c i (⟨some d,.call ⟨.value f,args.toArray,ts⟩,ty,pos,after,guard⟩::os) E hp (⟨some d,v,es,(hpc.map (·.1)).map (sg l q)⟩::outs) E' hpE :=
 ZC hq hf hargs hl hs ha hsub hb hv hes hH rfl hg t
theorem W6{ops:Array Oper}{c i q:Nat}{ty:TypeId}{pos:String}{after:Array Edge}{guard:Option (Nat×Bool)}{os:List Oper}{E E':BP}{hp hp1 hpE:Aa}{outs:List EX}{f:Operand}{args:List Operand}{ts:Array TypeId}
 {kl:Nat} {az as':List AV} {l:List Nat} {hpc hp':Aa} {r v:AV} {n:Nat} {es:List (Nat×Option HO)} (hq:c+i=q) (hf:opnd E f= .yld kl) (hargs:.yld kl::args.map (opnd E)=as') (hl:EZ hp 5 (Es (J4 as') [])=l) (hs:D7 P az hpc r hp' n)
 (ha:az.map (AV.rn (sg l q))=as') (hsub:hpc.map (fun p=>lk hp (sg l q p.1))=hpc.map (fun p=>some (p.2.rn (sg l q)))) (hb:DS q n (sg l q) (hpc.map (·.1)) (fresh (hpc.map (·.1)) hp') az hpc r hp'=true) (hv:r.rn (sg l q)=v)
 (hes:C0 (sg l q) (hpc.map (·.1)++fresh (hpc.map (·.1)) hp') hp'=es) (hH:BO hp es=hp1) (hg:gd ops E guard=some true) (t:Ev P ops c (i+1) os E hp1 outs E' hpE) :
 Ev P ops c i (⟨none,.call ⟨.value f,args.toArray,ts⟩,ty,pos,after,guard⟩::os) E hp (⟨none,v,es,(hpc.map (·.1)).map (sg l q)⟩::outs) E' hpE :=
 ZC hq hf hargs hl hs ha hsub hb hv hes hH rfl hg t
end
end Go.Eng
namespace Go.Eng
open Go.RowKit
inductive Any(R:Prop):Prop where
 |mk:Any R
theorem Ao{G R:Prop}(r:R)(h:R→G∧Any R:=by
 intro r_;refine⟨?_,?_⟩
 ·repeat (first
   |with_reducible exact Ev.nil
   |with_reducible exact E2
   |((with_reducible apply Cw);rfl)
   |((with_reducible apply AJ);rfl)
   |((with_reducible apply BH);rfl)
   |with_reducible apply BE
   |with_reducible apply Bu
   |with_reducible apply B5
   |((with_reducible apply DX rfl rfl);(focus simp only[Nat.reduceAdd]<;>rfl))
   |((with_reducible apply DV mixed rfl rfl);(focus simp only[Nat.reduceAdd]<;>rfl))
   |((with_reducible apply DU);(focus first|(apply BK;(focus rfl);rfl)|(apply BJ;(focus rfl);(focus rfl);rfl)))
   |((with_reducible apply Ct);(focus first|(apply BK;(focus rfl);rfl)|(apply BJ;(focus rfl);(focus rfl);rfl)))
   |with_reducible apply E3
   |with_reducible apply Cn
   |with_reducible apply Ck
   |with_reducible apply Cm
   |with_reducible apply Cj
   |((first|(with_reducible apply Cs)|(with_reducible apply By));(focus rfl))
   |((first|(with_reducible apply Cr)|(with_reducible apply Bx));(focus rfl))
   |(apply EG;(focus simp(disch:=omega)only[go_sem]<;>rfl);(focus first|exact c0_|exact c1_|exact c2_|exact c3_|exact c4_|exact c5_|exact c6_|exact c7_|exact c8_|exact c9_|exact c10_|exact c11_);(focus rfl);(focus first|(simp(disch:=omega)only[go_sem]<;>rfl)|rfl))
   |((with_reducible apply D5);(focus simp only[Nat.reduceAdd]<;>rfl);(focus simp(disch:=omega)only[go_sem]<;>rfl))
   |((first|apply Tr|apply Ts);(focus simp only[Nat.reduceAdd]<;>rfl);(focus rfl);(iterate 2 (focus simp(disch:=omega)only[go_sem]<;>rfl));(first
      |(exact c0_;(iterate 2 (focus first|(simp(disch:=omega)only[go_sem]<;>rfl)|rfl));(focus rfl);(iterate 4 (focus first|(simp(disch:=omega)only[go_sem]<;>rfl)|rfl)))
      |(exact c1_;(iterate 2 (focus first|(simp(disch:=omega)only[go_sem]<;>rfl)|rfl));(focus rfl);(iterate 4 (focus first|(simp(disch:=omega)only[go_sem]<;>rfl)|rfl)))
      |(exact c2_;(iterate 2 (focus first|(simp(disch:=omega)only[go_sem]<;>rfl)|rfl));(focus rfl);(iterate 4 (focus first|(simp(disch:=omega)only[go_sem]<;>rfl)|rfl)))
      |(exact c3_;(iterate 2 (focus first|(simp(disch:=omega)only[go_sem]<;>rfl)|rfl));(focus rfl);(iterate 4 (focus first|(simp(disch:=omega)only[go_sem]<;>rfl)|rfl)))
      |(exact c4_;(iterate 2 (focus first|(simp(disch:=omega)only[go_sem]<;>rfl)|rfl));(focus rfl);(iterate 4 (focus first|(simp(disch:=omega)only[go_sem]<;>rfl)|rfl)))
      |(exact c5_;(iterate 2 (focus first|(simp(disch:=omega)only[go_sem]<;>rfl)|rfl));(focus rfl);(iterate 4 (focus first|(simp(disch:=omega)only[go_sem]<;>rfl)|rfl)))
      |(exact c6_;(iterate 2 (focus first|(simp(disch:=omega)only[go_sem]<;>rfl)|rfl));(focus rfl);(iterate 4 (focus first|(simp(disch:=omega)only[go_sem]<;>rfl)|rfl)))
      |(exact c7_;(iterate 2 (focus first|(simp(disch:=omega)only[go_sem]<;>rfl)|rfl));(focus rfl);(iterate 4 (focus first|(simp(disch:=omega)only[go_sem]<;>rfl)|rfl)))
      |(exact c8_;(iterate 2 (focus first|(simp(disch:=omega)only[go_sem]<;>rfl)|rfl));(focus rfl);(iterate 4 (focus first|(simp(disch:=omega)only[go_sem]<;>rfl)|rfl)))
      |(exact c9_;(iterate 2 (focus first|(simp(disch:=omega)only[go_sem]<;>rfl)|rfl));(focus rfl);(iterate 4 (focus first|(simp(disch:=omega)only[go_sem]<;>rfl)|rfl)))
      |(exact c10_;(iterate 2 (focus first|(simp(disch:=omega)only[go_sem]<;>rfl)|rfl));(focus rfl);(iterate 4 (focus first|(simp(disch:=omega)only[go_sem]<;>rfl)|rfl)))
      |(exact c11_;(iterate 2 (focus first|(simp(disch:=omega)only[go_sem]<;>rfl)|rfl));(focus rfl);(iterate 4 (focus first|(simp(disch:=omega)only[go_sem]<;>rfl)|rfl)))))
   |(apply EH;(focus rfl);(focus simp(disch:=omega)only[go_sem]<;>rfl);(focus first|exact c0_|exact c1_|exact c2_|exact c3_|exact c4_|exact c5_|exact c6_|exact c7_|exact c8_|exact c9_|exact c10_|exact c11_);(iterate 3 (focus first|(simp(disch:=omega)only[go_sem]<;>rfl)|rfl)))
   |((first|apply Dc|apply Dd);(focus simp only[Nat.reduceAdd]<;>rfl);(focus rfl);(iterate 2 (focus simp(disch:=omega)only[go_sem]<;>rfl));(first
      |(exact c0_;(iterate 2 (focus first|(simp(disch:=omega)only[go_sem]<;>rfl)|rfl));(focus rfl);(iterate 3 (focus first|(simp(disch:=omega)only[go_sem]<;>rfl)|rfl)))
      |(exact c1_;(iterate 2 (focus first|(simp(disch:=omega)only[go_sem]<;>rfl)|rfl));(focus rfl);(iterate 3 (focus first|(simp(disch:=omega)only[go_sem]<;>rfl)|rfl)))
      |(exact c2_;(iterate 2 (focus first|(simp(disch:=omega)only[go_sem]<;>rfl)|rfl));(focus rfl);(iterate 3 (focus first|(simp(disch:=omega)only[go_sem]<;>rfl)|rfl)))
      |(exact c3_;(iterate 2 (focus first|(simp(disch:=omega)only[go_sem]<;>rfl)|rfl));(focus rfl);(iterate 3 (focus first|(simp(disch:=omega)only[go_sem]<;>rfl)|rfl)))
      |(exact c4_;(iterate 2 (focus first|(simp(disch:=omega)only[go_sem]<;>rfl)|rfl));(focus rfl);(iterate 3 (focus first|(simp(disch:=omega)only[go_sem]<;>rfl)|rfl)))
      |(exact c5_;(iterate 2 (focus first|(simp(disch:=omega)only[go_sem]<;>rfl)|rfl));(focus rfl);(iterate 3 (focus first|(simp(disch:=omega)only[go_sem]<;>rfl)|rfl)))
      |(exact c6_;(iterate 2 (focus first|(simp(disch:=omega)only[go_sem]<;>rfl)|rfl));(focus rfl);(iterate 3 (focus first|(simp(disch:=omega)only[go_sem]<;>rfl)|rfl)))
      |(exact c7_;(iterate 2 (focus first|(simp(disch:=omega)only[go_sem]<;>rfl)|rfl));(focus rfl);(iterate 3 (focus first|(simp(disch:=omega)only[go_sem]<;>rfl)|rfl)))
      |(exact c8_;(iterate 2 (focus first|(simp(disch:=omega)only[go_sem]<;>rfl)|rfl));(focus rfl);(iterate 3 (focus first|(simp(disch:=omega)only[go_sem]<;>rfl)|rfl)))
      |(exact c9_;(iterate 2 (focus first|(simp(disch:=omega)only[go_sem]<;>rfl)|rfl));(focus rfl);(iterate 3 (focus first|(simp(disch:=omega)only[go_sem]<;>rfl)|rfl)))
      |(exact c10_;(iterate 2 (focus first|(simp(disch:=omega)only[go_sem]<;>rfl)|rfl));(focus rfl);(iterate 3 (focus first|(simp(disch:=omega)only[go_sem]<;>rfl)|rfl)))
      |(exact c11_;(iterate 2 (focus first|(simp(disch:=omega)only[go_sem]<;>rfl)|rfl));(focus rfl);(iterate 3 (focus first|(simp(disch:=omega)only[go_sem]<;>rfl)|rfl)))))
   |((first|apply W5|apply W6);(focus simp only[Nat.reduceAdd]<;>rfl);(focus rfl);(iterate 2 (focus simp(disch:=omega)only[go_sem]<;>rfl));(first
      |(exact c0_;(iterate 2 (focus first|(simp(disch:=omega)only[go_sem]<;>rfl)|rfl));(focus rfl);(iterate 3 (focus first|(simp(disch:=omega)only[go_sem]<;>rfl)|rfl)))
      |(exact c1_;(iterate 2 (focus first|(simp(disch:=omega)only[go_sem]<;>rfl)|rfl));(focus rfl);(iterate 3 (focus first|(simp(disch:=omega)only[go_sem]<;>rfl)|rfl)))
      |(exact c2_;(iterate 2 (focus first|(simp(disch:=omega)only[go_sem]<;>rfl)|rfl));(focus rfl);(iterate 3 (focus first|(simp(disch:=omega)only[go_sem]<;>rfl)|rfl)))
      |(exact c3_;(iterate 2 (focus first|(simp(disch:=omega)only[go_sem]<;>rfl)|rfl));(focus rfl);(iterate 3 (focus first|(simp(disch:=omega)only[go_sem]<;>rfl)|rfl)))
      |(exact c4_;(iterate 2 (focus first|(simp(disch:=omega)only[go_sem]<;>rfl)|rfl));(focus rfl);(iterate 3 (focus first|(simp(disch:=omega)only[go_sem]<;>rfl)|rfl)))
      |(exact c5_;(iterate 2 (focus first|(simp(disch:=omega)only[go_sem]<;>rfl)|rfl));(focus rfl);(iterate 3 (focus first|(simp(disch:=omega)only[go_sem]<;>rfl)|rfl)))
      |(exact c6_;(iterate 2 (focus first|(simp(disch:=omega)only[go_sem]<;>rfl)|rfl));(focus rfl);(iterate 3 (focus first|(simp(disch:=omega)only[go_sem]<;>rfl)|rfl)))
      |(exact c7_;(iterate 2 (focus first|(simp(disch:=omega)only[go_sem]<;>rfl)|rfl));(focus rfl);(iterate 3 (focus first|(simp(disch:=omega)only[go_sem]<;>rfl)|rfl)))
      |(exact c8_;(iterate 2 (focus first|(simp(disch:=omega)only[go_sem]<;>rfl)|rfl));(focus rfl);(iterate 3 (focus first|(simp(disch:=omega)only[go_sem]<;>rfl)|rfl)))
      |(exact c9_;(iterate 2 (focus first|(simp(disch:=omega)only[go_sem]<;>rfl)|rfl));(focus rfl);(iterate 3 (focus first|(simp(disch:=omega)only[go_sem]<;>rfl)|rfl)))
      |(exact c10_;(iterate 2 (focus first|(simp(disch:=omega)only[go_sem]<;>rfl)|rfl));(focus rfl);(iterate 3 (focus first|(simp(disch:=omega)only[go_sem]<;>rfl)|rfl)))
      |(exact c11_;(iterate 2 (focus first|(simp(disch:=omega)only[go_sem]<;>rfl)|rfl));(focus rfl);(iterate 3 (focus first|(simp(disch:=omega)only[go_sem]<;>rfl)|rfl)))))
   |((first|(with_reducible apply Cp)|(with_reducible apply Cq));(focus simp only[Nat.reduceAdd]<;>rfl);(focus simp(disch:=omega)only[go_sem]<;>rfl);(focus first|(simp(disch:=omega)only[go_sem]<;>rfl)|rfl))
   |with_reducible apply BA
   |with_reducible apply BB
   |with_reducible apply BF
   |with_reducible apply BG
   |with_reducible apply B7
   |with_reducible apply B8
   |with_reducible apply B9
   |with_reducible apply Ba rfl
   |with_reducible apply Bd
   |with_reducible apply Be
   |with_reducible apply Bf
   |with_reducible apply Cu
   |with_reducible apply Cv
   |((with_reducible apply Un);(iterate 2 (focus first|(simp(disch:=omega)only[go_sem]<;>rfl)|rfl)))
   |((first|(with_reducible apply Uo)|(with_reducible apply Up)|(with_reducible apply Uq));(iterate 2 (focus first|(simp(disch:=omega)only[go_sem]<;>rfl)|rfl)))
   |with_reducible apply AG
   |with_reducible apply B4
   |with_reducible apply Bz
   |with_reducible apply AH
   |with_reducible apply AI
   |((with_reducible apply DY);(focus first|(simp(disch:=omega)only[go_sem]<;>rfl)|rfl))
   |((with_reducible apply DW);(focus first|(simp(disch:=omega)only[go_sem]<;>rfl)|rfl))
   |((with_reducible apply BD);(focus rfl))
   |((with_reducible apply BC);(focus rfl);(focus rfl))
   |(with_reducible rfl)
   |((with_reducible show List.map Ad _=_);simp only[List.map_cons,List.map_nil,Ad,C5];rfl)
   |((with_reducible show AM _ _=true);kernel_rfl)
   |((with_reducible show _=_);simp(disch:=omega)only[go_sem]<;>rfl)
   |((fail_if_success (with_reducible show Ev _ _ _ _ (_::_) _ _ _ _ _));(show Ev _ _ _ _ (_::_) _ _ _ _ _))
   |fail)
  first|done|exact r_
 ·first|exact(Any.mk:Any True)|exact Any.mk):G:=(h r).1
theorem Au{A G R:Prop}(x:A)(r:R)(h:A→R→G∧Any R:=by
 intro x_ r_;refine⟨?_,?_⟩
 ·repeat (first
   |with_reducible exact Ev.nil
   |with_reducible exact E2
   |((with_reducible apply Cw);rfl)
   |((with_reducible apply AJ);rfl)
   |((with_reducible apply BH);rfl)
   |with_reducible apply BE
   |with_reducible apply Bu
   |with_reducible apply B5
   |((with_reducible apply DX rfl rfl);(focus simp only[Nat.reduceAdd]<;>rfl))
   |((with_reducible apply DV mixed rfl rfl);(focus simp only[Nat.reduceAdd]<;>rfl))
   |((with_reducible apply DU);(focus first|(apply BK;(focus rfl);rfl)|(apply BJ;(focus rfl);(focus rfl);rfl)))
   |((with_reducible apply Ct);(focus first|(apply BK;(focus rfl);rfl)|(apply BJ;(focus rfl);(focus rfl);rfl)))
   |with_reducible apply E3
   |with_reducible apply Cn
   |with_reducible apply Ck
   |with_reducible apply Cm
   |with_reducible apply Cj
   |((first|(with_reducible apply Cs)|(with_reducible apply By));(focus rfl))
   |((first|(with_reducible apply Cr)|(with_reducible apply Bx));(focus rfl))
   |(apply EG;(focus simp(disch:=omega)only[go_sem,x_]<;>rfl);(focus first|exact c0_|exact c1_|exact c2_|exact c3_|exact c4_|exact c5_|exact c6_|exact c7_|exact c8_|exact c9_|exact c10_|exact c11_);(focus rfl);(focus first|(simp(disch:=omega)only[go_sem,x_]<;>rfl)|rfl))
   |((with_reducible apply D5);(focus simp only[Nat.reduceAdd]<;>rfl);(focus simp(disch:=omega)only[go_sem,x_]<;>rfl))
   |((first|apply Tr|apply Ts);(focus simp only[Nat.reduceAdd]<;>rfl);(focus rfl);(iterate 2 (focus simp(disch:=omega)only[go_sem,x_]<;>rfl));(first
      |(exact c0_;(iterate 2 (focus first|(simp(disch:=omega)only[go_sem,x_]<;>rfl)|rfl));(focus rfl);(iterate 4 (focus first|(simp(disch:=omega)only[go_sem,x_]<;>rfl)|rfl)))
      |(exact c1_;(iterate 2 (focus first|(simp(disch:=omega)only[go_sem,x_]<;>rfl)|rfl));(focus rfl);(iterate 4 (focus first|(simp(disch:=omega)only[go_sem,x_]<;>rfl)|rfl)))
      |(exact c2_;(iterate 2 (focus first|(simp(disch:=omega)only[go_sem,x_]<;>rfl)|rfl));(focus rfl);(iterate 4 (focus first|(simp(disch:=omega)only[go_sem,x_]<;>rfl)|rfl)))
      |(exact c3_;(iterate 2 (focus first|(simp(disch:=omega)only[go_sem,x_]<;>rfl)|rfl));(focus rfl);(iterate 4 (focus first|(simp(disch:=omega)only[go_sem,x_]<;>rfl)|rfl)))
      |(exact c4_;(iterate 2 (focus first|(simp(disch:=omega)only[go_sem,x_]<;>rfl)|rfl));(focus rfl);(iterate 4 (focus first|(simp(disch:=omega)only[go_sem,x_]<;>rfl)|rfl)))
      |(exact c5_;(iterate 2 (focus first|(simp(disch:=omega)only[go_sem,x_]<;>rfl)|rfl));(focus rfl);(iterate 4 (focus first|(simp(disch:=omega)only[go_sem,x_]<;>rfl)|rfl)))
      |(exact c6_;(iterate 2 (focus first|(simp(disch:=omega)only[go_sem,x_]<;>rfl)|rfl));(focus rfl);(iterate 4 (focus first|(simp(disch:=omega)only[go_sem,x_]<;>rfl)|rfl)))
      |(exact c7_;(iterate 2 (focus first|(simp(disch:=omega)only[go_sem,x_]<;>rfl)|rfl));(focus rfl);(iterate 4 (focus first|(simp(disch:=omega)only[go_sem,x_]<;>rfl)|rfl)))
      |(exact c8_;(iterate 2 (focus first|(simp(disch:=omega)only[go_sem,x_]<;>rfl)|rfl));(focus rfl);(iterate 4 (focus first|(simp(disch:=omega)only[go_sem,x_]<;>rfl)|rfl)))
      |(exact c9_;(iterate 2 (focus first|(simp(disch:=omega)only[go_sem,x_]<;>rfl)|rfl));(focus rfl);(iterate 4 (focus first|(simp(disch:=omega)only[go_sem,x_]<;>rfl)|rfl)))
      |(exact c10_;(iterate 2 (focus first|(simp(disch:=omega)only[go_sem,x_]<;>rfl)|rfl));(focus rfl);(iterate 4 (focus first|(simp(disch:=omega)only[go_sem,x_]<;>rfl)|rfl)))
      |(exact c11_;(iterate 2 (focus first|(simp(disch:=omega)only[go_sem,x_]<;>rfl)|rfl));(focus rfl);(iterate 4 (focus first|(simp(disch:=omega)only[go_sem,x_]<;>rfl)|rfl)))))
   |(apply EH;(focus rfl);(focus simp(disch:=omega)only[go_sem,x_]<;>rfl);(focus first|exact c0_|exact c1_|exact c2_|exact c3_|exact c4_|exact c5_|exact c6_|exact c7_|exact c8_|exact c9_|exact c10_|exact c11_);(iterate 3 (focus first|(simp(disch:=omega)only[go_sem,x_]<;>rfl)|rfl)))
   |((first|apply Dc|apply Dd);(focus simp only[Nat.reduceAdd]<;>rfl);(focus rfl);(iterate 2 (focus simp(disch:=omega)only[go_sem,x_]<;>rfl));(first
      |(exact c0_;(iterate 2 (focus first|(simp(disch:=omega)only[go_sem,x_]<;>rfl)|rfl));(focus rfl);(iterate 3 (focus first|(simp(disch:=omega)only[go_sem,x_]<;>rfl)|rfl)))
      |(exact c1_;(iterate 2 (focus first|(simp(disch:=omega)only[go_sem,x_]<;>rfl)|rfl));(focus rfl);(iterate 3 (focus first|(simp(disch:=omega)only[go_sem,x_]<;>rfl)|rfl)))
      |(exact c2_;(iterate 2 (focus first|(simp(disch:=omega)only[go_sem,x_]<;>rfl)|rfl));(focus rfl);(iterate 3 (focus first|(simp(disch:=omega)only[go_sem,x_]<;>rfl)|rfl)))
      |(exact c3_;(iterate 2 (focus first|(simp(disch:=omega)only[go_sem,x_]<;>rfl)|rfl));(focus rfl);(iterate 3 (focus first|(simp(disch:=omega)only[go_sem,x_]<;>rfl)|rfl)))
      |(exact c4_;(iterate 2 (focus first|(simp(disch:=omega)only[go_sem,x_]<;>rfl)|rfl));(focus rfl);(iterate 3 (focus first|(simp(disch:=omega)only[go_sem,x_]<;>rfl)|rfl)))
      |(exact c5_;(iterate 2 (focus first|(simp(disch:=omega)only[go_sem,x_]<;>rfl)|rfl));(focus rfl);(iterate 3 (focus first|(simp(disch:=omega)only[go_sem,x_]<;>rfl)|rfl)))
      |(exact c6_;(iterate 2 (focus first|(simp(disch:=omega)only[go_sem,x_]<;>rfl)|rfl));(focus rfl);(iterate 3 (focus first|(simp(disch:=omega)only[go_sem,x_]<;>rfl)|rfl)))
      |(exact c7_;(iterate 2 (focus first|(simp(disch:=omega)only[go_sem,x_]<;>rfl)|rfl));(focus rfl);(iterate 3 (focus first|(simp(disch:=omega)only[go_sem,x_]<;>rfl)|rfl)))
      |(exact c8_;(iterate 2 (focus first|(simp(disch:=omega)only[go_sem,x_]<;>rfl)|rfl));(focus rfl);(iterate 3 (focus first|(simp(disch:=omega)only[go_sem,x_]<;>rfl)|rfl)))
      |(exact c9_;(iterate 2 (focus first|(simp(disch:=omega)only[go_sem,x_]<;>rfl)|rfl));(focus rfl);(iterate 3 (focus first|(simp(disch:=omega)only[go_sem,x_]<;>rfl)|rfl)))
      |(exact c10_;(iterate 2 (focus first|(simp(disch:=omega)only[go_sem,x_]<;>rfl)|rfl));(focus rfl);(iterate 3 (focus first|(simp(disch:=omega)only[go_sem,x_]<;>rfl)|rfl)))
      |(exact c11_;(iterate 2 (focus first|(simp(disch:=omega)only[go_sem,x_]<;>rfl)|rfl));(focus rfl);(iterate 3 (focus first|(simp(disch:=omega)only[go_sem,x_]<;>rfl)|rfl)))))
   |((first|apply W5|apply W6);(focus simp only[Nat.reduceAdd]<;>rfl);(focus rfl);(iterate 2 (focus simp(disch:=omega)only[go_sem,x_]<;>rfl));(first
      |(exact c0_;(iterate 2 (focus first|(simp(disch:=omega)only[go_sem,x_]<;>rfl)|rfl));(focus rfl);(iterate 3 (focus first|(simp(disch:=omega)only[go_sem,x_]<;>rfl)|rfl)))
      |(exact c1_;(iterate 2 (focus first|(simp(disch:=omega)only[go_sem,x_]<;>rfl)|rfl));(focus rfl);(iterate 3 (focus first|(simp(disch:=omega)only[go_sem,x_]<;>rfl)|rfl)))
      |(exact c2_;(iterate 2 (focus first|(simp(disch:=omega)only[go_sem,x_]<;>rfl)|rfl));(focus rfl);(iterate 3 (focus first|(simp(disch:=omega)only[go_sem,x_]<;>rfl)|rfl)))
      |(exact c3_;(iterate 2 (focus first|(simp(disch:=omega)only[go_sem,x_]<;>rfl)|rfl));(focus rfl);(iterate 3 (focus first|(simp(disch:=omega)only[go_sem,x_]<;>rfl)|rfl)))
      |(exact c4_;(iterate 2 (focus first|(simp(disch:=omega)only[go_sem,x_]<;>rfl)|rfl));(focus rfl);(iterate 3 (focus first|(simp(disch:=omega)only[go_sem,x_]<;>rfl)|rfl)))
      |(exact c5_;(iterate 2 (focus first|(simp(disch:=omega)only[go_sem,x_]<;>rfl)|rfl));(focus rfl);(iterate 3 (focus first|(simp(disch:=omega)only[go_sem,x_]<;>rfl)|rfl)))
      |(exact c6_;(iterate 2 (focus first|(simp(disch:=omega)only[go_sem,x_]<;>rfl)|rfl));(focus rfl);(iterate 3 (focus first|(simp(disch:=omega)only[go_sem,x_]<;>rfl)|rfl)))
      |(exact c7_;(iterate 2 (focus first|(simp(disch:=omega)only[go_sem,x_]<;>rfl)|rfl));(focus rfl);(iterate 3 (focus first|(simp(disch:=omega)only[go_sem,x_]<;>rfl)|rfl)))
      |(exact c8_;(iterate 2 (focus first|(simp(disch:=omega)only[go_sem,x_]<;>rfl)|rfl));(focus rfl);(iterate 3 (focus first|(simp(disch:=omega)only[go_sem,x_]<;>rfl)|rfl)))
      |(exact c9_;(iterate 2 (focus first|(simp(disch:=omega)only[go_sem,x_]<;>rfl)|rfl));(focus rfl);(iterate 3 (focus first|(simp(disch:=omega)only[go_sem,x_]<;>rfl)|rfl)))
      |(exact c10_;(iterate 2 (focus first|(simp(disch:=omega)only[go_sem,x_]<;>rfl)|rfl));(focus rfl);(iterate 3 (focus first|(simp(disch:=omega)only[go_sem,x_]<;>rfl)|rfl)))
      |(exact c11_;(iterate 2 (focus first|(simp(disch:=omega)only[go_sem,x_]<;>rfl)|rfl));(focus rfl);(iterate 3 (focus first|(simp(disch:=omega)only[go_sem,x_]<;>rfl)|rfl)))))
   |((first|(with_reducible apply Cp)|(with_reducible apply Cq));(focus simp only[Nat.reduceAdd]<;>rfl);(focus simp(disch:=omega)only[go_sem,x_]<;>rfl);(focus first|(simp(disch:=omega)only[go_sem,x_]<;>rfl)|rfl))
   |with_reducible apply BA
   |with_reducible apply BB
   |with_reducible apply BF
   |with_reducible apply BG
   |with_reducible apply B7
   |with_reducible apply B8
   |with_reducible apply B9
   |with_reducible apply Ba rfl
   |with_reducible apply Bd
   |with_reducible apply Be
   |with_reducible apply Bf
   |with_reducible apply Cu
   |with_reducible apply Cv
   |((with_reducible apply Un);(iterate 2 (focus first|(simp(disch:=omega)only[go_sem,x_]<;>rfl)|rfl)))
   |((first|(with_reducible apply Uo)|(with_reducible apply Up)|(with_reducible apply Uq));(iterate 2 (focus first|(simp(disch:=omega)only[go_sem,x_]<;>rfl)|rfl)))
   |with_reducible apply AG
   |with_reducible apply B4
   |with_reducible apply Bz
   |with_reducible apply AH
   |with_reducible apply AI
   |((with_reducible apply DY);(focus first|(simp(disch:=omega)only[go_sem,x_]<;>rfl)|rfl))
   |((with_reducible apply DW);(focus first|(simp(disch:=omega)only[go_sem,x_]<;>rfl)|rfl))
   |((with_reducible apply BD);(focus rfl))
   |((with_reducible apply BC);(focus rfl);(focus rfl))
   |(with_reducible rfl)
   |((with_reducible show List.map Ad _=_);simp only[List.map_cons,List.map_nil,Ad,C5];rfl)
   |((with_reducible show AM _ _=true);kernel_rfl)
   |((with_reducible show _=_);simp(disch:=omega)only[go_sem,x_]<;>rfl)
   |((fail_if_success (with_reducible show Ev _ _ _ _ (_::_) _ _ _ _ _));(show Ev _ _ _ _ (_::_) _ _ _ _ _))
   |fail)
  first|done|exact r_
 ·first|exact(Any.mk:Any True)|exact Any.mk):G:=(h x r).1
end Go.Eng
namespace Go.Eng
open Go.RowKit
open Go.ChangeMaps (setBlock)
theorem UM{l:List AV}{ds:List D}(h:BX l=some ds)(i:Nat)(d:D)(hd:ds[i]? =some d):l[i]? =some (.d d)∧d.cell=true:=⟨((Hk h).2 i d hd).2,((Hk h).2 i d hd).1⟩
mutual
def frz(hp:Aa):AV→Option AV
 |.ref k off=>match lk hp k with
  |some (.var cs)=>match BX cs with|some ds=>some (.dref (ds.drop off))|none=>none
  |_=>none
 |.fn f cs=>match frzs hp cs with|some cs'=>some (.fn f cs')|none=>none
 |.d x=>some (.d x)
 |.dref f=>some (.dref f)
 |.undef=>some .undef
 |.agg _=>none| .tup _=>none| .own .. => none| .clip .. => none| .eref .. => none| .map _=>none| .it _=>none| .vs .. => none| .yld _=>none
 |.tab .. => none| .trow .. => none| .toref .. => none| .tref .. => none| .rv .. => none| .mref .. => none
def frzs(hp:Aa):List AV→Option (List AV)
 | []=>some []
 |a::l=>match frz hp a with
  |some a'=>match frzs hp l with|some l'=>some (a'::l')|none=>none
  |none=>none
end
section
variable {X:DT} {hp:Aa} {ν:Nat→Value} {used:Nat→Prop} {w:World}
mutual
theorem A5.frz(hI:At X (lk hp) ν used w){M':Nat→Prop}{H':Nat→Option HO}{ν':Nat→Value}{used':Nat→Prop}(hM:∀b,M' b→X.M0 b):∀(av av':AV) (v:Value),A5 w (Am X.M0 (lk hp) ν) (lk hp) ν used av v→Eng.frz hp av=some av'→A5 w M' H' ν' used' av' v
 |.undef,av',v,h,he=>by simp[Eng.frz]at he;subst he;exact .undef v
 |.d x,av',v,h,he=>by
  simp[Eng.frz]at he;subst he;cases h with|d h=>exact .d (h.mono (Bi.refl _ _) (fun b _ hb=>.inl (hM b hb)))
 |.dref f,av',v,h,he=>by
  simp[Eng.frz]at he;subst he;cases h with|dref val hb hM' hc h1 h2=>exact .dref val hb (fun hh=>hM' (.inl (hM _ hh))) hc h1 (fun j d hd=>(h2 j d hd).mono (Bi.refl _ _) (fun b _ hb=>.inl (hM b hb)))
 |.fn f cs,av',v,h,he=>by
  simp only[Eng.frz]at he;split at he
  ·rename_i cs' hcs;cases he;cases h with
   |fn hl h =>
    obtain⟨l1,l2⟩:=A5.frzs hI hM cs cs' _ h hcs hl;exact .fn l1 l2
  ·cases he
 |.ref k off,av',v,h,he=>by
  simp only[Eng.frz]at he;split at he
  ·rename_i cs hk;split at he
   ·rename_i ds hds;cases he;cases h with
    |ref hu h =>
     obtain⟨cs0,b,e0,hν,rfl⟩:=h _ hk;cases e0;obtain⟨b',cells,e,hν',hg,hsz,hc,hr⟩:=hI.obj _ _ hk;rw[hν]at hν';cases hν';have hbk:AL (ν k) b:=by rw[hν];exact rfl
     have hget:∀(j:Nat) d,(ds.drop off)[j]? =some d→∃u,cells[off+j]? =some u∧An w X.M0 d u∧d.cell=true:=fun j d hd=>by
      rw[List.getElem?_drop]at hd;obtain⟨h1,h2⟩:=UM hds _ _ hd;have hlt:off+j<cells.size:=by rw[hsz];exact(List.getElem?_eq_some_iff.1 h1).1
      refine⟨cells[off+j],Array.getElem?_eq_getElem hlt,?_,h2⟩;have:=hr _ _ _ h1 (Array.getElem?_eq_getElem hlt);cases this with
      |d h=>exact h.mono (Bi.refl _ _) (fun b _ hb=>.inl hb)
     refine .dref (fun j=>(cells[off+j]?).getD Go.undef) (hI.blk _ _ _ hk hbk).2 (fun hh=>hI.far _ _ _ hk hbk (hM _ hh)) (fun d hd=>?_) (fun j d hd=>?_) (fun j d hd=>?_)
     ·obtain⟨j,hj⟩:=List.mem_iff_getElem?.1 hd;obtain⟨u,_,_,h3⟩:=hget j d hj;exact h3
     ·obtain⟨u,h1,h2,_⟩:=hget j d hd;rw[Addr.add_lit];simp[World.cell?,hg,h1]
     ·obtain⟨u,h1,h2,_⟩:=hget j d hd;rw[h1];exact h2.mono (Bi.refl _ _) (fun b _ hb=>hM b hb)
   ·cases he
  ·cases he
 |.agg _,av',v,h,he=>by simp[Eng.frz]at he
 |.tup _,av',v,h,he=>by simp[Eng.frz]at he
 |.own _ _,av',v,h,he=>by simp[Eng.frz]at he
 |.clip _ _,av',v,h,he=>by simp[Eng.frz]at he
 |.eref _ _ _ _ _,av',v,h,he=>by simp[Eng.frz]at he
 |.rv _ _ _ _ _,av',v,h,he=>by simp[Eng.frz]at he
 |.mref _ _ _,av',v,h,he=>by simp[Eng.frz]at he
 |.map _,av',v,h,he=>by simp[Eng.frz]at he
 |.it _,av',v,h,he=>by simp[Eng.frz]at he
 |.vs _ _ _,av',v,h,he=>by simp[Eng.frz]at he
 |.yld _,av',v,h,he=>by simp[Eng.frz]at he
 |.tab _ _,av',v,h,he=>by simp[Eng.frz]at he
 |.trow _ _ _,av',v,h,he=>by simp[Eng.frz]at he
 |.toref _ _ _ _ _,av',v,h,he=>by simp[Eng.frz]at he
 |.tref _ _ _ _ _ _,av',v,h,he=>by simp[Eng.frz]at he
theorem A5.frzs(hI:At X (lk hp) ν used w){M':Nat→Prop}{H':Nat→Option HO}{ν':Nat→Value}{used':Nat→Prop}(hM:∀b,M' b→X.M0 b):∀(l l':List AV) (zs:List Value),(∀(i:Nat) d v,l[i]? =some d→zs[i]? =some v→A5 w (Am X.M0 (lk hp) ν) (lk hp) ν used d v)→Eng.frzs hp l=some l'→l.length=zs.length →
 l'.length=zs.length∧∀(i:Nat) d v,l'[i]? =some d→zs[i]? =some v→A5 w M' H' ν' used' d v
 | [],l',zs,h,he,hl=>by simp[Eng.frzs]at he;subst he;exact⟨hl,fun i d v hd=>by simp at hd⟩
 |a::l,l',[],h,he,hl=>by simp at hl
 |a::l,l',u::zs,h,he,hl=>by
  simp only[Eng.frzs]at he;split at he
  ·rename_i a' ha;split at he
   ·rename_i l2 hl2;cases he;have h0:=A5.frz hI (H':=H') (ν':=ν') (used':=used') hM a a' u (h 0 a u rfl rfl) ha;obtain⟨g1,g2⟩:=A5.frzs hI (H':=H') (ν':=ν') (used':=used') hM l l2 zs (fun i d v hd hv=>h (i+1) d v (by simpa using hd) (by simpa using hv)) hl2 (by simpa using hl);refine⟨by simp[g1],fun i d v hd hv=>?_⟩;cases i with
    |zero=>simp at hd hv;subst hd;subst hv;exact h0
    |succ i=>exact g2 i d v (by simpa using hd) (by simpa using hv)
   ·cases he
  ·cases he
end
end
theorem Ai.freeze{P:Program}{g:FuncId}{az:List AV}{hp hp':Aa}{r r':AV}{n:Nat}(h:Ai P g az hp r hp' n)(hf:Eng.frz hp' r=some r'):Ai P g az hp r' [] n:=by
 intro X ν w vs hI hl hv;obtain⟨h1,h2⟩:=h X ν w vs hI hl hv;refine⟨h1,h2.mono ?_⟩;rintro e w' ⟨v,ν',c,rfl,i1,x1,hr⟩;obtain⟨i2,x2⟩:=i1.sub (H':=lk []) (fun q o h=>by simp[lk]at h);exact⟨v,ν',c,rfl,i2,x1.trans x2,A5.frz i1 (fun b hb=>by
  rcases hb with hb|⟨q,o,hq,_⟩
  ·exact hb
  ·simp[lk]at hq) r r' v hr hf⟩
theorem Fn{w:World}{b:Nat}{ob:Obj}(h:w.heap[b]? =some ob):setBlock w b ob=w:=by
 have:w.heap.setIfInBounds b ob=w.heap:=by
  refine Array.ext_getElem? fun i=>?_;rw[Array.getElem?_setIfInBounds];split
  ·rename_i e;subst e;rw[h];simp[(Array.getElem?_eq_some_iff.1 h).1]
  ·rfl
 unfold setBlock;rw[this]
section
variable {P:Program} {S:Sp} {Q:Exit→St→Prop}
theorem FH.ownv{E:BP}{hp:Aa}{c:Nat}{a:Act}{w:World}(h:FH S ⟨E,hp,c⟩ a w)(k i k' e sz:Nat){cs:List AV}(hl:lk hp k=some (.var cs))(hi:cs[i]? =some (.d .nils))(hz:0<sz)(hk:c≤k') :
 FH S ⟨E,put (put hp k' (.row e sz [])) k (.var (cs.set i (.own k' 0))),k'+1⟩ a w:=by
 obtain⟨hle,ν,hI,hx⟩:=h;simp only at hI hx hle;have hkc:k<c:=hI.heap.usd _ _ hl;have hne:k≠k':=by omega
 have x1:=CT.fresh (M0:=S.X.M0) (hp:=hp) (ν:=ν) (used:=(·< c)) (w:=w) (w':=w) (k:=k') (.row e sz []) (.slice none 0 0) (by omega) (Nat.le_refl _) (fun _ _=>rfl) (fun b hb=>by simp[AL,Ag]at hb) hI.heap.usd;have i1:=hI.heap.step (k:=k') (o:=.row e sz []) (v:=.slice none 0 0) (Bl.refl _ _) x1 (.inr rfl) (fun b hb=>by simp[AL,Ag]at hb) (fun q o' b _ hq hb=>rfl)
  ⟨[],⟨by simp,.inl ⟨rfl,rfl⟩⟩,hz,fun x hx=>by simp at hx,fun i x j d hx=>by simp at hx⟩
 have hu:∀q,(q<c∨q=k')→q<k'+1:=fun q hq=>by omega
 have i2:=i1.used_mono hu (fun q _ hn=>by
  cases ho:lk (put hp k' (.row e sz [])) q with
  |none=>rfl
  |some o=>exact absurd (i1.usd _ _ ho) hn)
 have x2:CT (Am S.X.M0 (lk (put hp k' (.row e sz []))) (upd ν k' (.slice none 0 0))) (lk (put hp k' (.row e sz []))) (upd ν k' (.slice none 0 0)) (fun q=>q<c∨q=k') w (Am S.X.M0 (lk (put hp k' (.row e sz []))) (upd ν k' (.slice none 0 0))) (lk (put hp k' (.row e sz []))) (upd ν k' (.slice none 0 0)) (·< k'+1) w :=
  ⟨Bi.refl _ _,fun _ _ h=>h,hu,fun q _ o ho=>⟨o,ho,HO.later.refl _,HO.keeps_of⟩,Bi.refl _ _,fun _ _ h=>h⟩
 have hl2:lk (put hp k' (.row e sz [])) k=some (.var cs):=by rw[A9 _ _ _ _ hne];exact hl
 obtain⟨b,cells,et,h1,h2,h3,h4,h5⟩:=i2.obj _ _ hl2;have hbk:AL (upd ν k' (.slice none 0 0) k) b:=by rw[h1];exact rfl
 obtain⟨i3,x3⟩:=i2.turn (o':=.var (cs.set i (.own k' 0))) hl2 hbk (w1:=w) (.inl rfl) (.cells cells et (0,0)) (by simp[HO.later]) (fun M' H' hx'=>by
  rw[Fn h2]at hx' ⊢;refine⟨b,cells,et,h1,h2,by simp[h3],fun x hx=>?_,fun j av u hj hu=>?_⟩
  ·rcases List.mem_or_eq_of_mem_set hx with h|h
   ·exact h4 x h
   ·subst h;rfl
  ·rw[List.getElem?_set]at hj;split at hj
   ·rename_i ej;subst ej;split at hj
    ·cases hj;have hr:=h5 _ _ _ hi hu;cases hr with
     |d hr =>
      cases hr;refine .own (by show k'<k'+1;omega) rfl ⟨Nat.le_refl _,Nat.zero_le _⟩ (fun _=>⟨rfl,rfl⟩) fun o ho=>?_;obtain⟨o0,ho0,hlt,hst⟩:=hx'.obj k' (by show k'<k'+1;omega) o ho;rw[Ab]at ho0;cases ho0;cases o with
      |row e' sz' xs'=>exact⟨_,_,_,rfl,Nat.zero_le _,fun _=>by rw[Ac]⟩
      |var _=>exact hlt.elim
      |map _ _ _=>exact hlt.elim
      |iter _ _ _=>exact hlt.elim
      |loop _ _ _=>exact hlt.elim
      |tab _ _ _=>exact hlt.elim
    ·cases hj
   ·exact(h5 j av u hj hu).ext hx')
 rw[Fn h2]at i3 x3;have xa:=(x1.trans x2).trans x3;exact⟨by show S.R.c≤k'+1;omega,_,⟨i3,fun m av hm=>(hI.env m av hm).ext xa,hI.size,hI.defers.mono xa.same xa.shrink⟩,hx.trans xa⟩
theorem LX{code:Code}{E:BP}{hp hp':Aa}{c:Nat}(k i k' e sz:Nat){cs:List AV}(hl:lk hp k=some (.var cs))(hi:cs[i]? =some (.d .nils))(hz:0<sz)(hk:c≤k')(hh:put (put hp k' (.row e sz [])) k (.var (cs.set i (.own k' 0)))=hp')
 (h:WP P S code ⟨E,hp',k'+1⟩ Q):WP P S code ⟨E,hp,c⟩ Q :=
 fun a w hr=>h a w (hh▸hr.ownv k i k' e sz hl hi hz hk)
end
theorem A3.nil_at{P:Program}{g:FuncId}{ds:List D}{r:D}{sz:Nat}(i:Nat)(hi:ds[i]? =some (.sl sz []))(h1:A3 P g (ds.set i .nils) r)(h2:A3 P g (ds.set i (.emp sz)) r):A3 P g ds r:=by
 intro w M vs hW hM hl hv;have hlt:=(List.getElem?_eq_some_iff.1 hi).1;have hvi:=List.getElem?_eq_getElem (l:=vs) (i:=i) (by omega);have gen:∀d,An w M d (vs[i]'(by omega))→∀(j:Nat) d' v,(ds.set i d)[j]? =some d'→vs[j]? =some v→An w M d' v:=fun d hd j d' v hj hvj=>by
  rw[List.getElem?_set]at hj;split at hj
  ·rename_i e;subst e;cases hj;rw[hvi]at hvj;cases hvj;exact hd
  ·exact hv j d' v hj hvj
 rcases(hv i _ _ hi hvi).nil_emp with h|h
 ·exact h1 w M vs hW hM (by simpa using hl) (gen _ h)
 ·exact h2 w M vs hW hM (by simpa using hl) (gen _ h)
theorem F1.nil_at{C:World→List Value→(Ending→World→Prop)→Prop}{az:List AV}{hp hp':Aa}{r:AV}{n sz:Nat}(i:Nat)(hi:az[i]? =some (.d (.sl sz [])))(h1:F1 C (az.set i (.d .nils)) hp r hp' n)(h2:F1 C (az.set i (.d (.emp sz))) hp r hp' n):F1 C az hp r hp' n:=by
 intro X ν w vs hI hl hv;have hlt:=(List.getElem?_eq_some_iff.1 hi).1;have hvi:=List.getElem?_eq_getElem (l:=vs) (i:=i) (by omega);have gen:∀d,A5 w (Am X.M0 (lk hp) ν) (lk hp) ν (·< n) d (vs[i]'(by omega))→∀(j:Nat) d' v,(az.set i d)[j]? =some d'→vs[j]? =some v→A5 w (Am X.M0 (lk hp) ν) (lk hp) ν (·< n) d' v:=fun d hd j d' v hj hvj=>by
  rw[List.getElem?_set]at hj;split at hj
  ·rename_i e;subst e;cases hj;rw[hvi]at hvj;cases hvj;exact hd
  ·exact hv j d' v hj hvj
 have hr:=hv i _ _ hi hvi;cases hr with
 |d hr =>
  rcases hr.nil_emp with h|h
  ·exact h1 X ν w vs hI (by simpa using hl) (gen _ (.d h))
  ·exact h2 X ν w vs hI (by simpa using hl) (gen _ (.d h))
theorem F1.wk{C:World→List Value→(Ending→World→Prop)→Prop}{az as':List AV}{hp hp':Aa}{r:AV}{n:Nat}(h:F1 C as' hp r hp' n)(hl:az.length=as'.length)
 (hw:∀(i:Nat) a a',az[i]? =some a→as'[i]? =some a'→a=a'∨∃d d',a= .d d∧a'= .d d'∧Wk d d'):F1 C az hp r hp' n:=by
 intro X ν w vs hI hlen hv;refine h X ν w vs hI (by omega) fun i a' v ha' hvi=>?_;have hlt:=(List.getElem?_eq_some_iff.1 ha').1;have ha:=List.getElem?_eq_getElem (l:=az) (i:=i) (by omega);have hr:=hv i _ v ha hvi;rcases hw i _ a' ha ha' with e|⟨d,d',e1,e2,hw⟩
 ·rw[← e];exact hr
 ·subst e2;rw[e1]at hr;cases hr with
  |d hr=>exact .d (hr.wk hw)
theorem Ha{P:Program}{S:Sp}{Q:Exit→St→Prop}{code:Code}{E:BP}{hp hp':Aa}{c:Nat}(n:Nat){av:AV}{d:D}{ks:List Nat}(hl:lk E n=some av)(hd:Cz (lk hp) av=some (d,ks))(hh:Bq hp ks=hp')(h:WP P S code ⟨(n,.d d)::E,hp',c⟩ Q):WP P S code ⟨E,hp,c⟩ Q :=
 am n hl hd (hh▸h)
attribute [go_sem] PG OE MO JW DZ ac ZS NB frz frzs Jd List.set_cons_zero List.set_cons_succ List.zip_cons_cons List.zip_nil_right List.foldl_cons List.foldl_nil D.flat NS AV.rn HO.rn AV.ks J4 HO.ks sg Es Nq EZ C0 fresh List.filter Rf Ft opnd lk J5 Qt GR MN DA Ie Gk Le SE G1 Vg bh Gh Hu Hv Hr JZ BY Cy BU Nd CX CW E8 CN HM Jt EP Dy Fu EQ J3 Hs F5 NJ Fl Fv Dz XT XS Fi Dp CV ZU ZT Tb.inn Tb.ilen Tb.nilAt Tb.ini D.put FZ Ej Gu CC ML F6 E9 Ea Fk Fj BX AV.kb Aj List.getLast?_append RQ GY Oe Kc AC List.replicate_zero List.take_length ofInt MQ Jb Ja Js JX OD Eu Et Cz FN Pf Qd Aj D.comps AV.comps AV.sto D.cell D.rebuild Ed Fh DM put EF BO gd G2 Nh Option.map_some Option.map_none Option.bind_some Option.isSome_some List.map_cons List.map_nil List.append_nil List.nil_append List.cons_append List.length_cons List.length_nil List.length_map List.length_append List.take_zero List.take_succ_cons List.take_nil List.drop_zero List.drop_succ_cons List.drop_nil List.getElem?_cons_zero List.getElem?_cons_succ List.getElem?_map List.all_cons List.all_nil List.mem_cons List.not_mem_nil List.elem_cons List.elem_nil Bool.and_true Bool.true_and Bool.and_self Bool.not_true Bool.not_false Bool.or_true Bool.or_false and_self and_true true_and or_false false_or or_true true_or not_false_eq_true not_true_eq_false if_true if_false decide_true decide_false decide_eq_true_eq Int.toNat_natCast Int.toNat_zero beq_self_eq_true bne_self_eq_false Bool.false_eq_true Nat.add_zero Nat.zero_add JC YM YO Yv YN YP WG XR TC TB SR Ya PV Mm Mn AR NP wrap_i64 H8 PA M5 Pz M4 TH TF TM TL PS gt_iff_lt ge_iff_le
attribute [go_sem ↓] U4 reduceIte
attribute [go_sem] reduceCtorEq Nat.reduceEqDiff Nat.reduceAdd Nat.reduceSub Nat.reduceMul Nat.reduceLeDiff Nat.reduceLT Nat.reduceBEq Nat.reduceBNe Int.reduceToNat Int.reduceLT Int.reduceLE Int.reduceEq Int.reduceAdd Int.reduceSub Int.reduceNeg Int.reduceBEq Int.reduceBNe
theorem GL{p:Prop}(h:p:=by simp(disch:=omega)only[go_sem,AC]):p:=h
theorem Ei{p:Prop}(h:p:=by simp(disch:=omega)only[go_sem,AC,Int.natCast_add,Int.cast_ofNat_Int]):p:=h
theorem Hq{q p:Prop}(x:q)(h:q→p:=by intro x_;simp(disch:=omega)only[go_sem,AC,x_]):p:=h x
theorem Sf{q p:Prop}(x:q)(h:q→p:=by intro x_;simp(disch:=omega)only[go_sem,AC,Int.natCast_add,Int.cast_ofNat_Int,x_]):p:=h x
theorem A6 {P : Program} {g : FuncId} {fn : Func} {code : Code} {rs : List ResultVar} {ds : List D} {r : D} (N : Nat) {E : BP} (hf : P.funcs[g]? = some fn) (hE : HL ds = E) (h : ∀ X w, WP P (fk X N w) code ⟨E, [], 0⟩ (Yu P rs r)) (hb : fn.body = some code := by rfl) (hn : (fn.name == "runtime.NumGoroutine") = false := by kernel_rfl) (hrs : fn.results = rs.toArray := by rfl) (hN : fn.ntmps = N := by rfl) (hnt : Nat.ble ds.length N = true := by rfl) : A3 P g ds r := A3.run hf hb hn hrs hN hnt hE h
theorem Bo {P : Program} {g : FuncId} {fn : Func} {code : Code} {rs : List ResultVar} {az : List AV} {hp hp' : Aa} {r : AV} {n : Nat} (N : Nat) (ks : List Nat) {E : BP} (hf : P.funcs[g]? = some fn) (hE : HW az = E) (h : ∀ X ν w, WP P (fC X N hp ν n w) code ⟨E, hp, n⟩ (Yt P rs r hp' ks)) (hb : fn.body = some code := by rfl) (hn : (fn.name == "runtime.NumGoroutine") = false := by kernel_rfl) (hrs : fn.results = rs.toArray := by rfl) (hN : fn.ntmps = N := by rfl) (hnt : Nat.ble az.length N = true := by rfl) : Ai P g az hp r hp' n := Ai.run hf hb hn hrs hN hnt hE h
end Go.Eng
namespace Go.Eng
theorem Cw{α:Type}{E:List (Nat×α)}{n:Nat}{v:Option α}(h:lk E n=v):lk E n=v:=h
theorem AJ{ops:Array Oper}{j:Nat}{v:Option Nat}(h:G2 ops j=v):G2 ops j=v:=h
theorem BH{x:Value}{v:Option D}(h:J5 x=v):J5 x=v:=h
theorem Cx{a b c d e:D}:HL [a,b,c,d,e]=[(0,.d a),(1,.d b),(2,.d c),(3,.d d),(4,.d e)]:=rfl
theorem It{a b c d e f:D}:HL [a,b,c,d,e,f]=[(0,.d a),(1,.d b),(2,.d c),(3,.d d),(4,.d e),(5,.d f)]:=rfl
theorem Tz{a b c d e:AV}:HW [a,b,c,d,e]=[(0,a),(1,b),(2,c),(3,d),(4,e)]:=rfl
theorem ek{a b c d e f:AV}:HW [a,b,c,d,e,f]=[(0,a),(1,b),(2,c),(3,d),(4,e),(5,f)]:=rfl
open Go.ChangeShapes Go.WideShapes Go.ChangeAt Go.RowKit
def Qx(p:TypeId→List D→Prop):List TypeId→List D→Prop
 | [],ds=>ds=[]
 |t::ts,ds=>∃a b,ds=a++b∧p t a∧Qx p ts b
def KM(P:Program)(t:TypeId)(ds:List D):D :=
 match P.underlying t with
 |some (.struct _)|some (.array _ _)=>.agg ds
 |_=>ds.headD .nils
def J8(P:Program):Nat→TypeId→List D→Prop
 |0,_,_=>False
 |f+1,t,ds=>match P.underlying t with
  |some .bool=>∃b,ds=[.bool b]
  |some (.int k)=>∃n,ds=[.int k n]∧(Lit.int k n).wf=true
  |some .string=>∃s,ds=[.str s]∧s.size≤maxLen
  |some (.slice e)=>∃xs:List (List D),ds=[.sl (P.cellsOf e) (xs.map (KM P e))]∧xs.length≤maxLen∧∀x∈xs,J8 P f e x
  |some (.struct fs)=>Qx (J8 P f) (fs.toList.map (·.type)) ds
  |some (.array n e)=>Qx (J8 P f) (List.replicate n e) ds
  |_=>False
def Th(P:Program):Nat→TypeId→Bool
 |0,_=>false
 |f+1,t=>match P.underlying t with
  |some .bool=>true
  |some (.int _)=>true
  |some .string=>true
  |some (.slice e)=>decide (0<P.cellsOf e)&&Th P f e
  |some (.struct fs)=>fs.toList.all fun g=>Th P f g.type
  |some (.array n e)=>Th P f e
  |_=>false
def H9(w:World)(ds:List D)(cs:List Value):Prop:=ds.length=cs.length∧(∀d∈ds,d.cell=true)∧∀(i:Nat) d v,ds[i]? =some d→cs[i]? =some v→An w (fun _=>False) d v
theorem H9.nil{w:World}:H9 w [] []:=⟨rfl,by simp,by simp⟩
theorem H9.one{w:World}{d:D}{v:Value}(hc:d.cell=true)(h:An w (fun _=>False) d v):H9 w [d] [v]:=by
 refine⟨rfl,by simpa using hc,fun i x u hx hu=>?_⟩;cases i with
 |zero=>simp at hx hu;subst hx;subst hu;exact h
 |succ i=>simp at hx
theorem H9.app{w:World}{ds ds':List D}{cs cs':List Value}(h:H9 w ds cs)(h':H9 w ds' cs'):H9 w (ds++ds') (cs++cs'):=by
 obtain⟨h1,h2,h3⟩:=h;obtain⟨k1,k2,k3⟩:=h';refine⟨by simp[h1,k1],fun d hd=>?_,fun i d v hd hv=>?_⟩
 ·rcases List.mem_append.1 hd with hd|hd
  ·exact h2 d hd
  ·exact k2 d hd
 ·by_cases hi:i<ds.length
  ·rw[List.getElem?_append_left hi]at hd;rw[List.getElem?_append_left (by omega)]at hv;exact h3 i d v hd hv
  ·rw[List.getElem?_append_right (by omega)]at hd;rw[List.getElem?_append_right (by omega)]at hv;rw[h1]at hd;exact k3 _ d v hd hv
theorem KB{P:Program}{w:World}{f:Nat}{t:TypeId}{ds:List D}{cs:List Value}(h:J8 P f t ds)(hr:H9 w ds cs):(KM P t ds).comps=ds:=by
 cases f with
 |zero=>exact h.elim
 |succ f =>
  unfold J8 at h;unfold KM;split at h
  ·rename_i e;obtain⟨b,rfl⟩:=h;simp only[e];rfl
  ·rename_i e;obtain⟨b,rfl,_⟩:=h;simp only[e];rfl
  ·rename_i e;obtain⟨b,rfl,_⟩:=h;simp only[e];rfl
  ·rename_i e;obtain⟨b,rfl,_⟩:=h;simp only[e];rfl
  ·rename_i e;simp only[e];rfl
  ·rename_i e;simp only[e];rfl
  ·exact h.elim
theorem JD{H:Type}{P:Program}{W:World}{p:TypeId→List D→Prop}(g:TypeId→List Value→Option (DataW H×List MemPlace)):∀(ts:List TypeId) (cs:List Value),cs.length=(ts.map P.cellsOf).sum →
 (∀(i:Nat) t,ts[i]? =some t→∃x,g t ((cs.drop ((ts.take i).map P.cellsOf).sum).take (P.cellsOf t))=some x) →
 (∀t∈ts,∀cs' x,g t cs'=some x→∃ds,p t ds∧H9 W ds cs')→∃ds,Qx p ts ds∧H9 W ds cs
 | [],cs,hl,_,_=>by
   have:cs=[]:=List.eq_nil_of_length_eq_zero (by simpa using hl);subst this;exact⟨[],rfl,H9.nil⟩
 |t::ts,cs,hl,h1,h2=>by
  simp only[List.map_cons,List.sum_cons]at hl;obtain⟨x,hx⟩:=h1 0 t rfl;simp only[List.take_zero,List.map_nil,List.sum_nil,List.drop_zero]at hx;obtain⟨a,ha,ra⟩:=h2 t (by simp) _ _ hx;obtain⟨b,hb,rb⟩:=JD (P:=P) (W:=W) (p:=p) g ts (cs.drop (P.cellsOf t)) (by simp;omega) (fun i u hu=>by
   obtain⟨y,hy⟩:=h1 (i+1) u (by simpa using hu);simp only[List.take_succ_cons,List.map_cons,List.sum_cons]at hy;exact⟨y,by rw[List.drop_drop];exact hy⟩) (fun u hu=>h2 u (by simp[hu]))
  refine⟨a++b,⟨a,b,rfl,ha,hb⟩,?_⟩;have:=ra.app rb
  rwa [List.take_append_drop]at this
theorem HF{H:Type}{enc:TypeId×Value→H}{P:Program}{W:World}{base:Nat}{spare:Nat→Bool}{held:Bool}(hl:laidOutB P=true):∀(f:Nat) (t:TypeId),Th P f t=true→t<P.types.size→∀(n:Nat) (cs:List Value) (x:DataW H×List MemPlace),
 DataW.trod enc P W base spare held n t cs=some x→∃ds,J8 P f t ds∧H9 W ds cs
 |0,t,hs,_,_,_,_,_=>by simp[Th]at hs
 |f+1,t,hs,ht,0,cs,x,h=>by simp[DataW.trod]at h
 |f+1,t,hs,ht,n+1,cs,x,h=>by
  have hx0:=h;rw[DataW.trod_step]at h;unfold DataW.trodStep at h;simp only[Th]at hs;simp only[J8];cases hu:P.underlying t with
  |none=>simp[hu]at hs
  |some u =>
  rw[hu]at h hs;cases u with
  |bool =>
   rcases cs with _|⟨v,_|⟨v',cs'⟩⟩
   ·simp at h
   ·cases v<;>simp at h;exact⟨_,⟨_,rfl⟩,H9.one rfl (.bool _)⟩
   ·simp at h
  |int k =>
   rcases cs with _|⟨v,_|⟨v',cs'⟩⟩
   ·simp at h
   ·cases v<;>simp at h;obtain⟨⟨rfl,hw⟩,-⟩:=h;exact⟨_,⟨_,rfl,hw⟩,H9.one rfl (.int _ _)⟩
   ·simp at h
  |string =>
   rcases cs with _|⟨v,_|⟨v',cs'⟩⟩
   ·simp at h
   ·cases v<;>simp at h;exact⟨_,⟨_,rfl,h.1⟩,H9.one rfl (.str _)⟩
   ·simp at h
  |slice e =>
   simp only[Bool.and_eq_true,decide_eq_true_eq]at hs;have hte:=kid_slice hl ht hu;rcases cs with _|⟨v,_|⟨v',cs'⟩⟩
   ·simp at h
   ·cases v<;>try (simp at h;done)
    rename_i a len cap;cases a with
    |none =>
     have hz:len=0∧cap=0:=by cases len<;>cases cap<;>simp at h<;>simp
     obtain⟨rfl,rfl⟩:=hz;exact⟨_,⟨[],rfl,Nat.zero_le _,by simp⟩,H9.one rfl .sl0⟩
    |some a =>
     simp only at h;split at h
     ·rename_i hb;obtain⟨HM,he,_⟩:=Option.bind_eq_some_iff.1 h;have hlen:HM.length=len:=by simpa using mapM_some_length he
      have hds:∀i,∃q:List D×List Value,i<len→W.cells? base (a.add (i * P.cellsOf e)) (P.cellsOf e)=some q.2∧J8 P f e q.1∧H9 W q.1 q.2:=fun i=>by
       by_cases hi:i<len
       ·have:=mapM_some_get he i i (by simp[hi]);rw[List.getElem?_eq_getElem (by omega)]at this;obtain⟨cs',h1,h2⟩:=Option.bind_eq_some_iff.1 this;obtain⟨ds,h3,h4⟩:=HF hl f e hs.2 hte n cs' _ h2;exact⟨(ds,cs'),fun _=>⟨h1,h3,h4⟩⟩
       ·exact⟨([],[]),fun h=>absurd h hi⟩
      obtain⟨g,hg⟩:=Classical.axiomOfChoice hds;have at':∀(i:Nat) x,(((List.range len).map fun i=>(g i).1).map (KM P e))[i]? =some x→i<len∧x=KM P e (g i).1:=fun i x hx=>by
       have hi:i<len:=by have:=(List.getElem?_eq_some_iff.1 hx).1;simpa using this
       simp only[List.getElem?_map,List.getElem?_range hi,Option.map_some,Option.some.injEq]at hx;exact⟨hi,hx.symm⟩
      refine⟨_,⟨(List.range len).map fun i=>(g i).1,rfl,by simp;omega,fun x hx=>?_⟩,H9.one rfl ?_⟩
      ·obtain⟨i,hi,rfl⟩:=List.mem_map.1 hx;exact(hg i (by simpa using hi)).2.1
      ·have elen:len=(((List.range len).map fun i=>(g i).1).map (KM P e)).length:=by simp
       conv=>arg 4;rw[elen]
       refine .sl (fun i j=>(g i).2.getD j undef) (fun hn=>?_) (fun _ h=>h) (by rw[← elen];exact hb.2.1) hb.2.2 (fun i x hx=>?_) (fun i x j d hx hj=>?_) (fun i x j d hx hj=>?_)
       ·have h0:0<len:=Nat.pos_of_ne_zero fun e=>hn (by subst e;rfl);have:=World.cells?_block (hg 0 h0).1 hs.1
        rwa [CB]at this
       ·obtain⟨hi,rfl⟩:=at' i x hx;obtain⟨k1,k2,k3⟩:=hg i hi;obtain⟨_,k4,_⟩:=World.cells?_some k1;rw[KB k2 k3];exact⟨by rw[k3.1,k4],k3.2.1⟩
       ·obtain⟨hi,rfl⟩:=at' i x hx;obtain⟨k1,k2,k3⟩:=hg i hi;obtain⟨_,k4,k5⟩:=World.cells?_some k1;rw[KB k2 k3]at hj;have hjl:j<(g i).2.length:=by have:=(List.getElem?_eq_some_iff.1 hj).1;rw[k3.1]at this;exact this
        rw[← JM,k5 j (by omega),List.getD_eq_getElem?_getD,List.getElem?_eq_getElem hjl];rfl
       ·obtain⟨hi,rfl⟩:=at' i x hx;obtain⟨k1,k2,k3⟩:=hg i hi;rw[KB k2 k3]at hj;have hjl:j<(g i).2.length:=by have:=(List.getElem?_eq_some_iff.1 hj).1;rw[k3.1]at this;exact this
        refine k3.2.2 j d _ hj ?_;rw[List.getD_eq_getElem?_getD,List.getElem?_eq_getElem hjl];rfl
     ·cases h
   ·simp at h
  |struct fs =>
   obtain⟨hty,hsum,hoff⟩:=kid_struct hl ht hu;simp only at h;split at h
   ·rename_i hcl;obtain⟨xs,hxs,_⟩:=Option.map_eq_some_iff.1 h;refine JD (P:=P) (fun t cs=>DataW.trod enc P W base spare held n t cs) _ cs (by rw[hcl,hsum,List.map_map];rfl) (fun i u hi=>?_) (fun u hu' cs' x hx=>?_)
    ·rw[List.getElem?_map]at hi;obtain⟨fl,hfl,rfl⟩:=Option.map_eq_some_iff.1 hi;have:=mapM_some_get hxs i fl hfl;rw[hoff i fl hfl]at this;have hlt:i<xs.length:=by rw[mapM_some_length hxs];exact(List.getElem?_eq_some_iff.1 hfl).1
     rw[List.getElem?_eq_getElem hlt]at this;refine⟨xs[i],?_⟩;rw[← List.map_take,List.map_map];exact this
    ·obtain⟨fl,hfl,rfl⟩:=List.mem_map.1 hu';exact HF hl f fl.type (List.all_eq_true.1 hs fl hfl) (hty fl hfl) n cs' x hx
   ·cases h
  |array m e =>
   obtain⟨hte,hce⟩:=kid_array hl ht hu;simp only at h;split at h
   ·rename_i hcl;obtain⟨xs,hxs,_⟩:=Option.map_eq_some_iff.1 h;refine JD (P:=P) (fun t cs=>DataW.trod enc P W base spare held n t cs) _ cs (by rw[hcl,hce,List.map_replicate,List.sum_replicate_nat]) (fun i u hi=>?_) (fun u hu' cs' x hx=>?_)
    ·rw[List.getElem?_replicate]at hi;split at hi
     ·rename_i hi';cases hi;have:=mapM_some_get hxs i i (by simp[hi']);have hlt:i<xs.length:=by rw[mapM_some_length hxs];simpa using hi'
      rw[List.getElem?_eq_getElem hlt]at this;refine⟨xs[i],?_⟩;rw[List.take_replicate,List.map_replicate,List.sum_replicate_nat,Nat.min_eq_left (by omega)];exact this
     ·cases hi
    ·obtain⟨_,rfl⟩:=List.mem_replicate.1 hu';exact HF hl f u hs hte n cs' x hx
   ·cases h
  |_=>simp at hs
theorem dh{H:Type}{enc:TypeId×Value→H}{P:Program}{W:World}{r:Reach}{b0 base:Nat}{spare:Nat→Bool}{held:Bool}{t:TypeId}{v:Value}{d:DataW H}{ps:List MemPlace}(f:Nat)(hl:laidOutB P=true)(hs:Th P f t=true)(ht:t<P.types.size)
 (hval:Value.okWide P W r b0 t v) (hd:DataW.Trod enc P W base spare held t v d ps):∃ds,J8 P f t ds∧An W (fun _=>False) (KM P t ds) v:=by
 obtain⟨fuel,hd⟩:=hd;obtain⟨ds,h1,h2⟩:=HF hl f t hs ht fuel _ _ hd;refine⟨ds,h1,?_⟩;cases f with
 |zero=>exact h1.elim
 |succ f =>
  unfold J8 at h1;unfold Value.okWide at hval;unfold KM;have one:∀x,ds=[x]→(∀cs,v≠.agg cs)→(∀cs,v≠.tuple cs)→An W (fun _=>False) (ds.headD .nils) v:=fun x hx hv hv'=>by
   subst hx;have hc:v.cells.toList=[v]:=by cases v<;>first|rfl|exact absurd rfl (hv _)|exact absurd rfl (hv' _)
   rw[hc]at h2;exact h2.2.2 0 x v rfl rfl
  have agg:(∃cs,v= .agg cs)→An W (fun _=>False) (.agg ds) v:=fun⟨cs,hv⟩=>by
   subst hv;have hc:(Value.agg cs).cells.toList=cs.toList:=rfl;rw[hc]at h2;have:=An.agg (w:=W) (M:=fun _=>False) h2.1 h2.2.1 h2.2.2;simpa using this
  cases hu:P.underlying t with
  |none=>simp[hu]at h1
  |some u =>
  have hv1:=hval;simp only[hu]at h1 hval ⊢;cases u with
  |bool =>
   obtain⟨b,hb⟩:=h1;obtain⟨_,rfl⟩:=okWide_bool hu hv1;exact one _ hb (fun _ h=>by cases h) (fun _ h=>by cases h)
  |int k =>
   obtain⟨b,hb,_⟩:=h1;obtain⟨_,rfl⟩:=okWide_int hu hv1;exact one _ hb (fun _ h=>by cases h) (fun _ h=>by cases h)
  |string =>
   obtain⟨b,hb,_⟩:=h1;obtain⟨_,rfl⟩:=okWide_string hu hv1;exact one _ hb (fun _ h=>by cases h) (fun _ h=>by cases h)
  |slice e =>
   obtain⟨b,hb,_⟩:=h1;obtain⟨_,_,_,rfl⟩:=okWide_slice hu hv1;exact one _ hb (fun _ h=>by cases h) (fun _ h=>by cases h)
  |struct fs =>
   obtain⟨cs,hv,_⟩:=hval;exact agg ⟨cs,hv⟩
  |array m e =>
   obtain⟨cs,hv,_⟩:=hval;exact agg ⟨cs,hv⟩
  |_=>exact h1.elim
end Go.Eng
namespace Go.Eng
section
variable {P:Program} {n:Nat} {t:TypeId} {ds:List D}
theorem GE{k:IntKind}(ht:P.underlying t=some (.int k))(h:J8 P n t ds):∃z,ds=[.int k z]∧(Lit.int k z).wf=true:=by
 cases n with
 |zero=>exact h.elim
 |succ n=>unfold J8 at h;rw[ht]at h;exact h
theorem Zw(ht:P.underlying t=some .bool)(h:J8 P n t ds):∃b,ds=[.bool b]:=by
 cases n with
 |zero=>exact h.elim
 |succ n=>unfold J8 at h;rw[ht]at h;exact h
theorem Kr{e:TypeId}(ht:P.underlying t=some (.slice e))(h:J8 P n t ds):∃(m:Nat) (xs:List (List D)),ds=[.sl (P.cellsOf e) (xs.map (KM P e))]∧xs.length≤9223372036854775807∧∀x∈xs,J8 P m e x:=by
 cases n with
 |zero=>exact h.elim
 |succ n=>unfold J8 at h;rw[ht]at h;exact⟨n,h⟩
theorem H6{fs:Array Field}(ht:P.underlying t=some (.struct fs))(h:J8 P n t ds):∃m,Qx (J8 P m) (fs.toList.map (·.type)) ds:=by
 cases n with
 |zero=>exact h.elim
 |succ n=>unfold J8 at h;rw[ht]at h;exact⟨n,h⟩
theorem Px{k:IntKind}{x:D}(ht:P.underlying t=some (.int k)):KM P t [x]=x:=by unfold KM;rw[ht];rfl
theorem Ho{e:TypeId}{x:D}(ht:P.underlying t=some (.slice e)):KM P t [x]=x:=by unfold KM;rw[ht];rfl
theorem Hp{fs:Array Field}(ht:P.underlying t=some (.struct fs)):KM P t ds= .agg ds:=by unfold KM;rw[ht]
theorem Kq{α:Type}{f:α→D}{ok:α→Prop}{m:Nat}(H:∀x,J8 P m t x→∃e,KM P t x=f e∧ok e):∀(xs:List (List D)),(∀x∈xs,J8 P m t x)→∃l:List α,xs.map (KM P t)=l.map f∧l.length=xs.length∧∀e∈l,ok e
 | [],_=>⟨[],rfl,rfl,by simp⟩
 |x::xs,h=>by
  obtain⟨l,h1,h2,h3⟩:=Kq H xs (fun y hy=>h y (by simp[hy]));obtain⟨e,h4,h5⟩:=H x (h x (by simp));refine⟨e::l,by simp[h1,h4],by simp[h2],fun y hy=>?_⟩;rcases List.mem_cons.1 hy with rfl|hy
  ·exact h5
  ·exact h3 y hy
end
open Go.RowKit
open Go.ChangeMaps (setBlock)
section
variable {P:Program} {X:DT} {N:Nat} {E:BP} {hp:Aa} {ν:Nat→Value} {used:Nat→Prop} {a:Act} {w:World} {key:Nat}
theorem SV{ops:Array Oper}{o:Oper}{d x k m c:Nat}{seen:List Nat}{kt et:TypeId}{es:List (D×D)}(h:Dv X N E (lk hp) ν used a w)(hk:¬used key)(hop:o.op= .next (.tmp x) false)(hdst:o.dst=some d)(hgd:o.guard=none)(hd:d<N)
 (hl:lk E x=some (.it k)) (ho:lk hp k=some (.iter m c seen)) (hm:lk hp m=some (.map kt et es)) (hc:es.length=c) {K:Act→World→Prop} {Q:Exit→Act→World→Prop} {rd:Option Nat}
 (hsome:∀(i:Nat) kd vd,es[i]? =some (kd,vd)→i∉seen→∀a' w' ν',Dv X N (EF E (some d) (.tup [.d (.bool true),.d kd,.d vd])) (lk (put hp k (.iter m c (seen++[i])))) ν' (fun q=>used q∨q=key) a' w' →
   CT (Am X.M0 (lk hp) ν) (lk hp) ν used w (Am X.M0 (lk (put hp k (.iter m c (seen++[i])))) ν') (lk (put hp k (.iter m c (seen++[i])))) ν' (fun q=>used q∨q=key) w'→K a' w')
 (hnone:(∀i,i<es.length→i∈seen)→∀a' w' ν',Dv X N (EF E (some d) (.tup [.d (.bool false)])) (lk hp) ν' (fun q=>used q∨q=key) a' w' →
   CT (Am X.M0 (lk hp) ν) (lk hp) ν used w (Am X.M0 (lk hp) ν') (lk hp) ν' (fun q=>used q∨q=key) w'→K a' w') :
 if Region.wanted o (yielded ops a.tmps)then o.wpIn (FR rd) 0 P a w K Q else(∀f,o.about P w a.eval=some f→(FR rd).fn f)∧K (a.put o.dst undef) w:=by
 have hw:Region.wanted o (yielded ops a.tmps)=true:=by unfold Region.wanted;rw[hgd]
 rw[hw];simp only[if_true];subst hc;have hx:=h.env x _ hl;have hev:a.eval (.tmp x)=a.tmps.getD x undef:=rfl;generalize hu0:a.tmps.getD x undef=u at hx;cases hx with
 |it hu hh =>
  obtain⟨_,_,_,b,he',hν,ha⟩:=hh _ ho;cases he';subst ha;obtain⟨b',mr,hv,hg,hum,hmm⟩:=h.heap.obj _ _ ho;rw[hν]at hv;cases hv;obtain⟨_,_,_,he2,hνm⟩:=hmm _ hm;cases he2;obtain⟨r0,ents,hv2,hg2,hsz,hr⟩:=h.heap.obj _ _ hm;rw[hνm]at hv2;cases hv2;have hbk:AL (ν k) b:=by rw[hν];exact rfl
  have hblt:=(h.heap.blk _ _ _ ho hbk).2;have born:∀(i:Nat) (hi:i<ents.size),ents[i].born=i:=fun i hi=>by
   have h1:=List.getElem?_eq_getElem (l:=es) (i:=i) (by omega);exact(hr i _ _ _ h1 (Array.getElem?_eq_getElem hi)).1
  have hold:∀e∈ents.toList,e.born<es.length:=fun e he=>by
   obtain⟨i,hi⟩:=List.mem_iff_getElem?.1 he;have hi':i<ents.size:=by simpa using(List.getElem?_eq_some_iff.1 hi).1
   have:ents[i]=e:=by simpa using(List.getElem?_eq_some_iff.1 hi).2
   rw[← this,born i hi',← hsz];exact hi'
  have hdd:∀t,o.dst=some t→t<N:=fun t ht=>by rw[hdst]at ht;cases ht;exact hd
  rw[← hdst]at hsome hnone;refine⟨fun _ _=>trivial,?_⟩;rw[Oper.semAt_eq _ _ _ (fun c hc=>by rw[hop]at hc;cases hc)];have hexec:(execOp a.eval o).run P w=((do let v ← Instr.next (.pointer (some ⟨b,0,none⟩)) false o.type;Pure.pure (Next.value v)):Sem Next).run P w:=by
   unfold execOp;rw[hop];simp only[hev,hu0]
  rw[hexec];simp only[Sem.run_bind];rcases run_next_at (P:=P) w o.type b mr es.length es.length seen.toArray ents es.length hg hg2 hold (Nat.le_refl _)with⟨h1,h2⟩|⟨e,he,w1,hw1,h2⟩
  ·rw[h2];simp only[Result.andThen_ok,Sem.run_pure];have hall:∀i,i<es.length→i∈seen:=fun i hi=>by
    have hi':i<ents.size:=by omega
    have h0:leftOf ents seen.toArray = #[]:=Array.eq_empty_of_size_eq_zero h1;unfold leftOf at h0;rw[Array.filter_eq_empty_iff]at h0;have:=h0 ents[i] (Array.getElem_mem hi');rw[born i hi']at this;simpa using this
   obtain⟨m1,m2⟩:=h.heap.more hk;refine hnone hall _ _ ν (h.put m1 m2 (A5.tup (cs:=[_]) rfl fun i d v q1 q2=>?_) hdd) m2;cases i with
   |zero=>simp at q1 q2;subst q1;subst q2;exact .d (.bool _)
   |succ i=>simp at q1
  ·rw[h2];simp only[Result.andThen_ok,Sem.run_pure];have hem:e∈ents.toList∧¬e.born∈seen:=by
    unfold leftOf at he;simp at he;exact⟨by simpa using he.1,by simpa using he.2⟩
   obtain⟨i,hi⟩:=List.mem_iff_getElem?.1 hem.1;have hi':i<ents.size:=by simpa using(List.getElem?_eq_some_iff.1 hi).1
   have hei:ents[i]=e:=by simpa using(List.getElem?_eq_some_iff.1 hi).2
   have hei':ents[i]? =some e:=by rw[Array.getElem?_eq_getElem hi',hei]
   have hb:e.born=i:=by rw[← hei];exact born i hi'
   have h3:=List.getElem?_eq_getElem (l:=es) (i:=i) (by omega);obtain⟨_,h4,h5⟩:=hr i _ _ _ h3 hei';have Fw:seen.toArray.push e.born=(seen++[i]).toArray:=by rw[hb];simp
   rw[Fw];obtain⟨g1,g2⟩:=h.heap.turn (o':=.iter m es.length (seen++[i])) ho hbk hw1 (.mapIter (some mr) es.length (seen++[i]).toArray es.length) ⟨rfl,rfl⟩ (fun M' H' hx'=>by
    refine⟨b,mr,hν,LC (by rcases hw1 with rfl|rfl<;>exact hblt),hum,fun o' ho'=>?_⟩;obtain⟨o1,ho1,hlt,hst⟩:=hx'.obj _ hum o' ho';obtain⟨kt',et',es',rfl,hn⟩:=hmm o1 ho1;cases o' with
    |map kt'' et'' es''=>exact⟨_,_,es'',rfl,by rw[show _=_ from hst];exact hn⟩
    |row _ _ _=>exact hlt.elim
    |var _=>exact hlt.elim
    |iter _ _ _=>exact hlt.elim
    |tab _ _ _=>exact hlt.elim
    |loop _ _ _=>exact hlt.elim)
   obtain⟨m1,m2⟩:=g1.more hk;have hx2:=g2.trans m2;refine hsome i _ _ h3 (by rw[← hb];exact hem.2) _ _ ν (h.put m1 hx2 (A5.tup (cs:=[_,_,_]) rfl fun q dd v q1 q2=>?_) hdd) hx2
   match q with
   |0=>simp at q1 q2;subst q1;subst q2;exact .d (.bool _)
   |1=>simp at q1 q2;subst q1;subst q2;exact .d (h4.mono hx2.same hx2.shrink)
   |2=>simp at q1 q2;subst q1;subst q2;exact .d (h5.mono hx2.same hx2.shrink)
   |q+3=>simp at q1
theorem Tx{S:Sp}{Q:Exit→St→Prop}{id d d2 x k m n c c':Nat}{seen:List Nat}{kt et ty XU:TypeId}{pos pos2:String}{after after2:Array Edge}{es:List (D×D)}(hN:S.N=n)(hd:(Nat.blt d n&&Nat.blt d2 n)=true)(hcc:c+2=c')
 (hl:lk E x=some (.it k)) (ho:lk hp k=some (.iter m es.length seen)) (hm:lk hp m=some (.map kt et es))
 (hsome:∀(i:Nat) kd vd,es[i]? =some (kd,vd)→i∉seen→Q .normal ⟨(d2,.d (.bool true))::(d,.tup [.d (.bool true),.d kd,.d vd])::E,put hp k (.iter m es.length (seen++[i])),c'⟩)
 (hnone:(∀i,i<es.length→i∈seen)→Q .normal ⟨(d2,.d (.bool false))::(d,.tup [.d (.bool false)])::E,hp,c'⟩) :
 WP P S (.region id #[⟨some d,.next (.tmp x) false,ty,pos,after,none⟩,⟨some d2,.extract (.tmp d) 0,XU,pos2,after2,none⟩] false) ⟨E,hp,c⟩ Q:=by
 subst hcc;subst hN;simp only[Bool.and_eq_true,Nat.blt_eq]at hd;intro a w ⟨hle,ν,hI,hx⟩;simp only at hle hI hx;refine wpIn_region_list ?_;unfold wpListIn;have e1:∀k,(k<c∨k=c)↔k<c+1:=fun k=>by omega
 have e1f:(fun k=>k<c∨k=c)=(fun k=>k<c+1):=funext fun k=>propext (e1 k);have fin:∀(v:AV) (b:Bool) (hp1:Aa),(∃rest,v= .tup (.d (.bool b)::rest))→(Q .normal ⟨(d2,.d (.bool b))::(d,v)::E,hp1,c+2⟩)→∀a' w' ν',Dv S.X S.N (EF E (some d) v) (lk hp1) ν' (fun q=>q<c∨q=c) a' w' →
  CT (Am S.X.M0 (lk hp) ν) (lk hp) ν (·< c) w (Am S.X.M0 (lk hp1) ν') (lk hp1) ν' (fun q=>q<c∨q=c) w' →
  wpListIn (FR S.rd) 0 P #[⟨some d,.next (.tmp x) false,ty,pos,after,none⟩,⟨some d2,.extract (.tmp d) 0,XU,pos2,after2,none⟩] (fun e a w=>∃s',FH S s' a w∧Q e s') [⟨some d2,.extract (.tmp d) 0,XU,pos2,after2,none⟩] a' w':=fun v b hp1 ⟨rest,hv⟩ hq a' w' ν' hI' hx'=>by
  rw[e1f]at hI' hx';refine Ev.list (ops := #[⟨some d,.next (.tmp x) false,ty,pos,after,none⟩,⟨some d2,.extract (.tmp d) 0,XU,pos2,after2,none⟩]) (c:=c) [⟨some d2,.extract (.tmp d) 0,XU,pos2,after2,none⟩] 1 (EF E (some d) v) hp1 [⟨some d2,.d (.bool b),[],[]⟩] ((d2,.d (.bool b))::(d,v)::E) hp1 ν' a' w' (by simp[I4,hd.2]) hI' ?_ (fun a2 w2 ν2 h1 h2=>?_)
  ·refine D5 rfl ?_ rfl .nil;subst hv;simp[Ft,GR,Eu,opnd,EF,lk]
  ·exact⟨_,⟨by show S.R.c≤c+2;omega,ν2,by simpa using h1,by have:=hx.trans (hx'.trans h2);simpa using this⟩,hq⟩
 have hs:=SV (P:=P) (ops := #[⟨some d,.next (.tmp x) false,ty,pos,after,none⟩,⟨some d2,.extract (.tmp d) 0,XU,pos2,after2,none⟩]) (o:=⟨some d,.next (.tmp x) false,ty,pos,after,none⟩) (key:=c) (rd:=S.rd) (K:=wpListIn (FR S.rd) 0 P #[⟨some d,.next (.tmp x) false,ty,pos,after,none⟩,⟨some d2,.extract (.tmp d) 0,XU,pos2,after2,none⟩] (fun e a w=>∃s',FH S s' a w∧Q e s') [⟨some d2,.extract (.tmp d) 0,XU,pos2,after2,none⟩]) (Q:=fun e a w=>∃s',FH S s' a w∧Q e s') hI (Nat.lt_irrefl _) rfl rfl rfl hd.1 hl ho hm rfl
  (fun i kd vd h1 h2=>fin _ true _ ⟨_,rfl⟩ (hsome i kd vd h1 h2)) (fun h1=>fin _ false _ ⟨_,rfl⟩ (hnone h1))
 split
 ·rename_i hw;rw[if_pos hw]at hs;exact hs
 ·rename_i hw;rw[if_neg hw]at hs;exact hs
end
end Go.Eng
namespace Go.Eng
open Go.RowKit
open Go.Sort (grow)
theorem Bl.grows{w w':World}(h:Bl w.heap.size w w'):∃q os',w'=grow (w.drewN q) os':=by
 refine⟨w'.drawn-w.drawn,w'.heap.extract w.heap.size w'.heap.size,?_⟩;obtain⟨⟨h1,h2,h3,h4,h5⟩,h6⟩:=h;have hh:w'.heap=w.heap++w'.heap.extract w.heap.size w'.heap.size:=by
  refine Array.ext_getElem? fun i=>?_;by_cases hi:i<w.heap.size
  ·rw[Array.getElem?_append_left hi,h5 i hi]
  ·rw[Array.getElem?_append_right (by omega),Array.getElem?_extract];by_cases hj:i<w'.heap.size
   ·rw[if_pos (by omega)];congr 1;omega
   ·rw[if_neg (by omega),Array.getElem?_eq_none (by omega)]
 obtain⟨heap,tape,drawn,os,output⟩:=w;obtain⟨heap',tape',drawn',os',output'⟩:=w';simp only at h1 h2 h3 h4 h5 h6 hh;subst h1;subst h2;subst h3;simp only[grow,World.drewN];congr 1;omega
theorem ET{α:Type}{R:α→α→Prop}:∀{l1 l2:List α},l1.Perm l2→l1.Pairwise R→l2.Pairwise R→(∀a∈l1,∀b∈l1,R a b→R b a→a=b)→l1=l2
 | [],l2,h,_,_,_=>h.nil_eq
 |a::l1,[],h,_,_,_=>by simpa using h.length_eq
 |a::l1,b::l2,h,h1,h2,hA=>by
  have p1:=List.pairwise_cons.1 h1;have p2:=List.pairwise_cons.1 h2;have hab:a=b:=by
   have ha:a∈b::l2:=h.mem_iff.1 (by simp);have hb:b∈a::l1:=h.mem_iff.2 (by simp);rcases List.mem_cons.1 ha with e|ha'
   ·exact e
   ·rcases List.mem_cons.1 hb with e|hb'
    ·exact e.symm
    ·exact hA a (by simp) b hb (p1.1 b hb') (p2.1 a ha')
  subst hab;rw[ET ((List.perm_cons a).1 h) p1.2 p2.2 (fun x hx y hy=>hA x (by simp[hx]) y (by simp[hy]))]
end Go.Eng
namespace Go.Eng
open Go.RowKit
section
variable {P:Program} {S:Sp} {Q:Exit→St→Prop}
theorem Mu{code:Code}{E E':BP}{hp hp':Aa}{c0:Nat}(ns ks:List Nat)(c:Nat)(hc:S.R.c≤c)(hE:AC E ns=E')(hH:AC hp ks=hp')(hbE:Fs c E'=true)(hbH:F8 c hp'=true)(h:WP P S code ⟨E',hp',c⟩ Q):WP P S code ⟨E,hp,c0⟩ Q:=by
 subst hE;subst hH;exact Tv (s:=⟨E,hp,c0⟩) ns ks c hc hbE hbH h
theorem Ir{g:Operand}{ps:Array Tmp}{assign body:Code}{E:BP}{hp hp2 hp3:Aa}{c c1 c2:Nat}{gf:FuncId}{caps az:List AV}{cs:BP}{hpc hp':Aa}{r:AV}{n N:Nat}{l:List Nat}(hrd:S.rd=none)(hf:Rf (opnd E g)=some (gf,caps))(hN:S.N=N)(hcs:J9 E cs)(hc1:c+1=c1)(hc2:c+2=c2)
 (hl:EZ ((c,.loop ⟨N,ps,assign,body⟩ cs .ready)::hp) 5 (Es (c::J4 caps) [])=l) (hs:Ai P gf az hpc r hp' n) (hc0:lk hp c=none) (ha:az.map (AV.rn (sg l c1))= .yld c::caps)
 (hsub:hpc.map (fun p=>lk ((c,.loop ⟨N,ps,assign,body⟩ cs .ready)::hp) (sg l c1 p.1))=hpc.map (fun p=>some (p.2.rn (sg l c1))))
 (hb:DS c1 n (sg l c1) (hpc.map (·.1)) (fresh (hpc.map (·.1)) hp') az hpc r hp'=true)
 (hH:BO ((c,.loop ⟨N,ps,assign,body⟩ cs .ready)::hp) (C0 (sg l c1) (hpc.map (·.1)++fresh (hpc.map (·.1)) hp') hp')=hp2) (hst:lk hp2 c=some (.loop ⟨N,ps,assign,body⟩ cs .ready)) (hd:DM hp2 c=hp3)
 (h:Q .normal ⟨E,hp3,c2⟩):WP P S (.rangeFunc g ps assign body) ⟨E,hp,c⟩ Q:=by
 subst hc1;subst hc2;subst hd;exact Qy hrd hf hN hcs hl hs hc0 ha hsub hb hH hst h
theorem UB{g:Operand}{ps:Array Tmp}{assign body:Code}{E:BP}{hp hp2 hp3:Aa}{c c1 c2:Nat}{gf:FuncId}{caps az:List AV}{cs:BP}{hpc hp':Aa}{r:AV}{n N:Nat}{l:List Nat}{cj:Code}(hrd:S.rd=none)(hf:Rf (opnd E g)=some (gf,caps))(hN:S.N=N)(hcs:J9 E cs)(hc1:c+1=c1)(hc2:c+2=c2)
 (hl:EZ ((c,.loop ⟨N,ps,assign,body⟩ cs .ready)::hp) 5 (Es (c::J4 caps) [])=l) (hs:Ai P gf az hpc r hp' n) (hc0:lk hp c=none) (ha:az.map (AV.rn (sg l c1))= .yld c::caps)
 (hsub:hpc.map (fun p=>lk ((c,.loop ⟨N,ps,assign,body⟩ cs .ready)::hp) (sg l c1 p.1))=hpc.map (fun p=>some (p.2.rn (sg l c1))))
 (hb:DS c1 n (sg l c1) (hpc.map (·.1)) (fresh (hpc.map (·.1)) hp') az hpc r hp'=true)
 (hH:BO ((c,.loop ⟨N,ps,assign,body⟩ cs .ready)::hp) (C0 (sg l c1) (hpc.map (·.1)++fresh (hpc.map (·.1)) hp') hp')=hp2) (hst:lk hp2 c=some (.loop ⟨N,ps,assign,body⟩ cs (.done cj))) (hd:DM hp2 c=hp3)
 (h:WP P S cj ⟨E,hp3,c2⟩ Q):WP P S (.rangeFunc g ps assign body) ⟨E,hp,c⟩ Q:=by
 subst hc1;subst hc2;subst hd;exact Qy hrd hf hN hcs hl hs hc0 ha hsub hb hH hst h
end
theorem HH{P:Program}{S:Sp}{k0:Nat}{Y:Ym}{cs:BP}{r:AV}{hp':Aa}{ks:List Nat}{E:BP}{hp hp1:Aa}{c:Nat}(h:lk hp k0=some (.loop Y cs .ready))(h1:put hp k0 (.loop Y cs .busy)=hp1)(h2:WP P S Y.body ⟨E,hp1,c⟩ (L8 k0 Y cs r hp' ks)) :
 T8 P S k0 Y cs r hp' ks ⟨E,hp,c⟩:=⟨h,h1▸h2⟩
end Go.Eng
namespace Go.Eng
open Go.RowKit
section
variable {P:Program} {S:Sp} {Q:Exit→St→Prop}
theorem FH.totab{E:BP}{hp:Aa}{c:Nat}{a:Act}{w:World}{ν:Nat→Value}(hI:Dv S.X S.N E (lk hp) ν (·< c) a w)(k':Nat){k:Nat}{e sz:Nat}{xs:List D}(T:Tb)
 (ho:lk hp k=some (.row e sz xs)) (he:T.eo=e) (hs:T.so=sz) (hsi:0<T.si) (hn:xs.all T.nilAt=true) (hk:c≤k') :
 At S.X (lk (put (DM hp k) k' (.tab T (xs.map T.ini) none))) (upd ν k' (.tuple (ν k::List.replicate xs.length (.slice none 0 0)).toArray)) (·< k'+1) w ∧
 CT (Am S.X.M0 (lk hp) ν) (lk hp) ν (·< c) w (Am S.X.M0 (lk (put (DM hp k) k' (.tab T (xs.map T.ini) none))) (upd ν k' (.tuple (ν k::List.replicate xs.length (.slice none 0 0)).toArray)))
  (lk (put (DM hp k) k' (.tab T (xs.map T.ini) none))) (upd ν k' (.tuple (ν k::List.replicate xs.length (.slice none 0 0)).toArray)) (·< k'+1) w:=by
 obtain⟨i1,x1⟩:=hI.heap.totab (key:=k') (by show¬k'<c;omega) ho he hs hsi hn;have hu:∀q,(q<c∨q=k')→q<k'+1:=fun q hq=>by omega
 have i2:=i1.used_mono hu (fun q _ hn=>by
  cases ho:lk (put (DM hp k) k' (.tab T (xs.map T.ini) none)) q with
  |none=>rfl
  |some o=>exact absurd (i1.usd _ _ ho) hn)
 refine⟨i2,x1.trans ⟨Bi.refl _ _,fun _ _ h=>h,hu,fun q _ o ho=>⟨o,ho,HO.later.refl _,HO.keeps_of⟩,Bi.refl _ _,fun _ _ h=>h⟩⟩
theorem Y1{code:Code}{E:BP}{hp:Aa}{c:Nat}(c':Nat)(hc:c≤c')(h:WP P S code ⟨E,hp,c'⟩ Q):WP P S code ⟨E,hp,c⟩ Q:=fun a w hr=>h a w (hr.more hc)
theorem FH.tab{E:BP}{hp:Aa}{c:Nat}{a:Act}{w:World}(h:FH S ⟨E,hp,c⟩ a w)(n k':Nat){k m e sz:Nat}{xs:List D}(T:Tb)(hl:lk E n=some (.own k m))
 (ho:lk hp k=some (.row e sz xs)) (hm:m=xs.length) (he:T.eo=e) (hs:T.so=sz) (hsi:0<T.si) (hn:xs.all T.nilAt=true) (hk:c≤k') :
 FH S ⟨(n,.tab k' m)::E,put (DM hp k) k' (.tab T (xs.map T.ini) none),k'+1⟩ a w:=by
 obtain⟨hle,ν,hI,hx⟩:=h;simp only at hI hx hle;obtain⟨i1,x1⟩:=FH.totab hI k' T ho he hs hsi hn hk;refine⟨by show S.R.c≤k'+1;omega,_,⟨i1,fun m' av hm'=>?_,hI.size,hI.defers.mono x1.same x1.shrink⟩,hx.trans x1⟩;simp only[lk]at hm';split at hm'
 ·rename_i em;subst em;cases hm';have hr:=hI.env n _ hl;cases hr with
  |own hu h1 hc ha h =>
   obtain⟨_,_,_,heq,_,hv⟩:=h _ ho;cases heq;refine .tab (by show k'<k'+1;omega) h1 hc ha fun o ho'=>?_;rw[Ab]at ho';cases ho';refine⟨_,_,_,rfl,by rw[List.length_map];omega,fun _=>?_⟩;rw[hv hm,Ac,Ce];rfl
 ·exact(hI.env m' av hm').ext x1
theorem Sk{code:Code}{E:BP}{hp hp':Aa}{c:Nat}(n k':Nat){k m e sz:Nat}{xs ys:List D}(T:Tb)(hl:lk E n=some (.own k m))
 (ho:lk hp k=some (.row e sz xs)) (hm:m=xs.length) (he:T.eo=e) (hs:T.so=sz) (hsi:0<T.si) (hn:xs.all T.nilAt=true) (hk:c≤k') (hy:xs.map T.ini=ys) (hh:put (DM hp k) k' (.tab T ys none)=hp')
 (h:WP P S code ⟨(n,.tab k' m)::E,hp',k'+1⟩ Q):WP P S code ⟨E,hp,c⟩ Q :=
 fun a w hr=>h a w (hh▸hy▸hr.tab n k' T hl ho hm he hs hsi hn hk)
theorem FH.tabv{E:BP}{hp:Aa}{c:Nat}{a:Act}{w:World}(h:FH S ⟨E,hp,c⟩ a w)(k0 i k':Nat){k m e sz:Nat}{xs:List D}{cs:List AV}(T:Tb)(hl:lk hp k0=some (.var cs))(hi:cs[i]? =some (.own k m))
 (ho:lk hp k=some (.row e sz xs)) (hm:m=xs.length) (he:T.eo=e) (hs:T.so=sz) (hsi:0<T.si) (hn:xs.all T.nilAt=true) (hk:c≤k') :
 FH S ⟨E,put (put (DM hp k) k' (.tab T (xs.map T.ini) none)) k0 (.var (cs.set i (.tab k' m))),k'+1⟩ a w:=by
 obtain⟨hle,ν,hI,hx⟩:=h;simp only at hI hx hle;obtain⟨i2,x2⟩:=FH.totab hI k' T ho he hs hsi hn hk;have hkc:k0<c:=hI.heap.usd _ _ hl;have hne:k0≠k':=by omega
 have hne2:k0≠k:=fun e=>by rw[e,ho]at hl;cases hl
 have hl2:lk (put (DM hp k) k' (.tab T (xs.map T.ini) none)) k0=some (.var cs):=by rw[A9 _ _ _ _ hne,Bc _ _ _ hne2];exact hl
 obtain⟨b0,cells0,et0,q1,q2,q3,q4,q5⟩:=hI.heap.obj _ _ hl;obtain⟨b,cells,et,h1,h2,h3,h4,h5⟩:=i2.obj _ _ hl2;rw[Al _ _ _ _ hne,q1]at h1;cases h1;rw[q2]at h2;cases h2;have hbk:AL (upd ν k' (.tuple (ν k::List.replicate xs.length (.slice none 0 0)).toArray) k0) b0:=by rw[Al _ _ _ _ hne,q1];exact rfl
 obtain⟨i3,x3⟩:=i2.turn (o':=.var (cs.set i (.tab k' m))) hl2 hbk (w1:=w) (.inl rfl) (.cells cells0 et0 (0,0)) (by simp[HO.later]) (fun M' H' hx'=>by
  rw[Fn q2]at hx' ⊢;refine⟨b0,cells0,et0,by rw[Al _ _ _ _ hne,q1],q2,by simp[q3],fun x hx=>?_,fun j av u hj hu=>?_⟩
  ·rcases List.mem_or_eq_of_mem_set hx with h|h
   ·exact q4 x h
   ·subst h;rfl
  ·rw[List.getElem?_set]at hj;split at hj
   ·rename_i ej;subst ej;split at hj
    ·cases hj;have hr:=q5 _ _ _ hi hu;cases hr with
     |own hu h1 hc ha h =>
      obtain⟨_,_,_,heq,_,hv⟩:=h _ ho;cases heq;refine .tab (by show k'<k'+1;omega) h1 hc ha fun o ho'=>?_;obtain⟨o0,ho0,hlt,hst⟩:=hx'.obj k' (by show k'<k'+1;omega) o ho';rw[Ab]at ho0;cases ho0;cases o with
      |tab T' rows' q' =>
       obtain⟨rfl,hle',_⟩:=hlt;refine⟨_,_,_,rfl,by simp at hle';omega,fun _=>?_⟩;rw[hv hm,Ac,Ce];rfl
      |var _=>exact hlt.elim
      |map _ _ _=>exact hlt.elim
      |iter _ _ _=>exact hlt.elim
      |loop _ _ _=>exact hlt.elim
      |row _ _ _=>exact hlt.elim
    ·cases hj
   ·exact(h5 j av u hj hu).ext hx')
 rw[Fn q2]at i3 x3;have xa:=x2.trans x3;exact⟨by show S.R.c≤k'+1;omega,_,⟨i3,fun m av hm=>(hI.env m av hm).ext xa,hI.size,hI.defers.mono xa.same xa.shrink⟩,hx.trans xa⟩
theorem Y4{code:Code}{E:BP}{hp hp':Aa}{c:Nat}(k0 i k':Nat){k m e sz:Nat}{xs ys:List D}{cs:List AV}(T:Tb)(hl:lk hp k0=some (.var cs))(hi:cs[i]? =some (.own k m))
 (ho:lk hp k=some (.row e sz xs)) (hm:m=xs.length) (he:T.eo=e) (hs:T.so=sz) (hsi:0<T.si) (hn:xs.all T.nilAt=true) (hk:c≤k') (hy:xs.map T.ini=ys) (hh:put (put (DM hp k) k' (.tab T ys none)) k0 (.var (cs.set i (.tab k' m)))=hp')
 (h:WP P S code ⟨E,hp',k'+1⟩ Q):WP P S code ⟨E,hp,c⟩ Q :=
 fun a w hr=>h a w (hh▸hy▸hr.tabv k0 i k' T hl hi ho hm he hs hsi hn hk)
end
end Go.Eng
namespace Go.Eng
open Go.ChangeShapes Go.WideShapes Go.ChangeAt Go.RowKit
end Go.Eng

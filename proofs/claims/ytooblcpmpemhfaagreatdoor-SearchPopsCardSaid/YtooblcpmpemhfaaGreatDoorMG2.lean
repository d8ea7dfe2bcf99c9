/- The engine, part 30: slices of a variable's array; copy into them. (and what stands behind it: texts laid together) -/
import Derived.Test.YtooblcpmpemhfaaGreatDoorMG1
import Derived.Maps.Keyed
import Derived.Maps.RangeRun
import Derived.Carry
import Derived.DeepKeys5
import Derived.Lib.SliceRun
import Derived.Laws.IdiomStrings
import Derived.Lib.AppendStr
set_option linter.unusedVariables false
set_option linter.unusedSimpArgs false
set_option maxHeartbeats 32000000
set_option maxRecDepth 100000
namespace Go.Eng
open Go.RowKit
def LF(P:Program)(t:TypeId):Option (Nat×TypeId):=match P.underlying t with|some (.array n e)=>some (n,e)|_=>none
theorem JP{P:Program}{t n e:Nat}(h:LF P t=some (n,e)):P.underlying t=some (.array n e):=by
 unfold LF at h;split at h
 ·rename_i n' e' hu;simp at h;obtain⟨rfl,rfl⟩:=h;exact hu
 ·cases h
def Ej(P:Program)(H:Nat→Option HO)(t:TypeId)(x:AV)(lo hi mx:Option AV):Option (AV×List (Nat×Option HO)×List Nat) :=
 match lo,mx,x with
 |none,none,.ref k off=>match LF P t with
  |some (n,e)=>match H k,BV P e,ofInt hi n with
   |some (.var cs),some sz,some h=>if sz=1∧h≤n∧off+n≤cs.length∧n≤1000000 then some (.vs k off h,[],[k])else none
   |_,_,_=>none
  |none=>none
 |_,_,_=>none
section
variable {P:Program} {X:DT} {hp:Aa} {ν:Nat→Value} {used:Nat→Prop} {w:World} {key:Nat}
theorem Ta{i:Int}{k:IntKind}{y:Nat}{code:BoundsCode}(h0:0≤i)(h1:i≤y):(Instr.sliceBound (.int k i) y code).run P w= .ok i.toNat w:=by
 simp[Instr.sliceBound,asIntOf,h0,h1]
theorem PN(hI:At X (lk hp) ν used w)(hk:¬used key){t:Nat}{x r:AV}{vx:Value}{lo hi mx:Option AV}{vlo vhi vmx:Option Value}{es:List (Nat×Option HO)}{acc:List Nat}
 (hx:A5 w (Am X.M0 (lk hp) ν) (lk hp) ν used x vx) (hlo:CU w (Am X.M0 (lk hp) ν) (lk hp) ν used lo vlo) (hhi:CU w (Am X.M0 (lk hp) ν) (lk hp) ν used hi vhi) (hmx:CU w (Am X.M0 (lk hp) ν) (lk hp) ν used mx vmx)
 (he:Ej P (lk hp) t x lo hi mx=some (r,es,acc)):∃v,(Instr.sliceAt t vx vlo vhi vmx).run P w= .ok v w∧C7 X hp ν used w key (BO hp es) r v w:=by
 unfold Ej at he;split at he
 ·rename_i k off;cases hlo;cases hmx;split at he
  ·rename_i n e ha;split at he
   ·rename_i cs sz h ho hsz hh;split at he
    ·rename_i hc;obtain⟨rfl,hhn,hoff,hmax⟩:=hc;simp at he;obtain⟨rfl,rfl,rfl⟩:=he;cases hx with
     |ref hu href =>
      rename_i a;have hb:(Instr.sliceBounds false n n none vhi none).run P w= .ok (0,h,n) w:=by
       cases hhi with
       |none=>simp[ofInt]at hh;subst hh;simp[Instr.sliceBounds]
       |some hq =>
        simp only[ofInt]at hh;split at hh
        ·split at hh
         ·rename_i h0;simp at hh;cases hq with
          |d hq =>
           cases hq;subst hh;simp[Instr.sliceBounds,Ta (P:=P) (w:=w) h0 (show _≤(n:Int)by omega)]
         ·cases hh
        ·cases hh
      refine⟨.slice (some a) h n,?_,?_⟩
      ·simp only[Instr.sliceAt,Sem.run_bind,run_underlying (JP ha),Result.andThen_ok,Instr.sureAddr,Sem.run_pure,hb,AF hsz];have:(if n=0 then a else a.add (0 * 1))=a:=by split<;>simp[Addr.add]
       rw[this];rfl
      ·refine C7.same hI hk (.vs hu ⟨hhn,by simp only[maxLen];omega⟩ fun o' ho'=>?_);obtain⟨cs',b,rfl,h2,h3⟩:=href o' ho';rw[ho]at ho';cases ho';exact⟨_,b,rfl,h2,h3,by omega⟩
    ·cases he
   ·cases he
  ·cases he
 ·cases he
def Fl(P:Program)(H:Nat→Option HO)(t:TypeId)(x:AV)(lo hi mx:Option AV):Option (AV×List (Nat×Option HO)×List Nat) :=
 match mx,x with
 |none,.vs k off n=>match C3 P t with
  |some e=>match H k,BV P e,ofInt lo 0,ofInt hi n with
   |some (.var cs),some sz,some l,some h=>if sz=1∧l≤h∧h≤n∧l<n∧off+n≤cs.length then some (.vs k (off+l) (h-l),[],[k])else none
   |_,_,_,_=>none
  |none=>none
 |_,_=>none
theorem Ob(hI:At X (lk hp) ν used w)(hk:¬used key){t:Nat}{x r:AV}{vx:Value}{lo hi mx:Option AV}{vlo vhi vmx:Option Value}{es:List (Nat×Option HO)}{acc:List Nat}
 (hx:A5 w (Am X.M0 (lk hp) ν) (lk hp) ν used x vx) (hlo:CU w (Am X.M0 (lk hp) ν) (lk hp) ν used lo vlo) (hhi:CU w (Am X.M0 (lk hp) ν) (lk hp) ν used hi vhi) (hmx:CU w (Am X.M0 (lk hp) ν) (lk hp) ν used mx vmx)
 (he:Fl P (lk hp) t x lo hi mx=some (r,es,acc)):∃v,(Instr.sliceAt t vx vlo vhi vmx).run P w= .ok v w∧C7 X hp ν used w key (BO hp es) r v w:=by
 unfold Fl at he;split at he
 ·rename_i k off n;cases hmx;split at he
  ·rename_i e hel;split at he
   ·rename_i cs sz l h ho hsz hl hh;split at he
    ·rename_i hc;obtain⟨rfl,hlh,hhn,hln,hoff⟩:=hc;simp only[Option.some.injEq,Prod.mk.injEq]at he;obtain⟨rfl,rfl,rfl⟩:=he;cases hx with
     |vs hu hcc href =>
      rename_i c a;have hl':((match vlo with|some v=>Instr.sliceBound v h .sliceB|none=>pure 0:Sem Nat)).run P w= .ok l w:=by
       cases hlo with
       |none=>simp[ofInt]at hl;subst hl;rfl
       |some hq =>
        simp only[ofInt]at hl;split at hl
        ·split at hl
         ·rename_i h0;simp at hl;cases hq with
          |d hq=>cases hq;subst hl;exact Dr h0 (by omega)
         ·cases hl
        ·cases hl
      have hi_ok:((match vhi with|some v=>Instr.sliceBound v c .sliceAcap|none=>pure n:Sem Nat)).run P w= .ok h w:=by
       cases hhi with
       |none=>simp[ofInt]at hh;subst hh;rfl
       |some hq =>
        simp only[ofInt]at hh;split at hh
        ·split at hh
         ·rename_i h0;simp at hh;cases hq with
          |d hq=>cases hq;subst hh;exact Dr h0 (by omega)
         ·cases hh
        ·cases hh
      have hb:(Instr.sliceBounds true n c vlo vhi none).run P w= .ok (l,h,c) w:=by
       cases vhi<;>cases vlo<;>simp_all [Instr.sliceBounds]
      refine⟨.slice (if c=l then some a else(some a).map (·.add (l * 1))) (h-l) (c-l),?_,?_⟩
      ·rw[F4 hel];simp only[Instr.slice,Sem.run_bind,run_underlying (Bn hel),Result.andThen_ok,hb,AF hsz,Sem.run_pure]
      ·rw[if_neg (by omega)];refine C7.same hI hk (.vs hu ⟨by omega,by omega⟩ fun o' ho'=>?_);obtain⟨cs',b,rfl,h2,h3,h4⟩:=href o' ho';rw[ho]at ho';cases ho';refine⟨_,b,rfl,h2,?_,by omega⟩;rw[h3,Nat.mul_one];exact Addr.add_lit ..
    ·cases he
   ·cases he
  ·cases he
 ·cases he
theorem Oa{H H':Nat→Option HO}{t:TypeId}{x:AV}{lo hi mx:Option AV}{r:AV}{es:List (Nat×Option HO)}{acc:List Nat}(he:Fl P H t x lo hi mx=some (r,es,acc))(h:∀k∈acc,H' k=H k):Fl P H' t x lo hi mx=some (r,es,acc):=by
 unfold Fl at he ⊢;split at he
 ·split at he
  ·split at he
   ·rename_i cs sz l h' ho hsz hl hh;split at he
    ·rename_i hc;simp only[Option.some.injEq,Prod.mk.injEq]at he;obtain⟨rfl,rfl,rfl⟩:=he;simp only[h _ (List.mem_singleton.2 rfl),ho,hsz,hl,hh];rw[if_pos hc]
    ·cases he
   ·cases he
  ·cases he
 ·cases he
theorem VS(hI:At X (lk hp) ν used w)(hk:¬used key){k off b:Nat}{cs:List AV}{e:TypeId}{cells:Array Value}(ho:lk hp k=some (.var cs))(hν:ν k= .pointer (some ⟨b,0,none⟩))(hg:w.heap[b]? =some (.cells cells e (0,0)))(hlen:cells.size=cs.length)
 (hcell:∀c∈cs,c.cell=true) (hr:∀(i:Nat) av u,cs[i]? =some av→cells[i]? =some u→A5 w (Am X.M0 (lk hp) ν) (lk hp) ν used av u) {ds:List AV} {us:List Value} (hl:us.length=ds.length) (hle:off+ds.length≤cs.length) (hdc:∀d∈ds,d.cell=true)
 (hd:∀(i:Nat) av u,ds[i]? =some av→us[i]? =some u→A5 w (Am X.M0 (lk hp) ν) (lk hp) ν used av u) :
 ∃ν',At X (lk (put hp k (.var (Aj cs off ds)))) ν' (fun q=>used q∨q=key) (w.setRow b (Aj cells.toList off us).toArray) ∧
  CT (Am X.M0 (lk hp) ν) (lk hp) ν used w (Am X.M0 (lk (put hp k (.var (Aj cs off ds)))) ν') (lk (put hp k (.var (Aj cs off ds)))) ν' (fun q=>used q∨q=key) (w.setRow b (Aj cells.toList off us).toArray):=by
 have hb:AL (ν k) b:=by rw[hν];exact rfl
 obtain⟨g1,g2⟩:=hI.write (o':=.var (Aj cs off ds)) ho hb (Aj cells.toList off us).toArray (by simp only[HO.later];rw[AX _ _ _ hle])
  (fun M' H' hx'=>by
    refine⟨b,_,e,hν,setRow_heap _ _ _ _ _ _ hg,?_,fun c hc=>?_,fun i av u h1 h2=>?_⟩
    ·simp only[List.size_toArray];rw[AX _ _ _ (by simp;omega),AX _ _ _ hle];simpa using hlen
    ·unfold Aj at hc;simp at hc;rcases hc with h|h|h
     ·exact hcell c (List.mem_of_mem_take h)
     ·exact hdc c h
     ·exact hcell c (List.mem_of_mem_drop h)
    ·simp only[List.getElem?_toArray]at h2;rw[AW _ _ _ hle]at h1;rw[AW _ _ _ (by simp;omega)]at h2;rw[hl]at h2;split at h1
     ·rename_i hij;rw[if_pos hij]at h2;exact(hd _ _ _ h1 h2).ext hx'
     ·rename_i hij;rw[if_neg hij]at h2;exact(hr i av u h1 (by simpa using h2)).ext hx')
 obtain⟨m1,m2⟩:=g1.more hk;exact⟨ν,m1,g2.trans m2⟩
def Gu(P:Program)(H:Nat→Option HO)(t:TypeId)(x y:AV):Option (AV×List (Nat×Option HO)×List Nat) :=
 match C3 P t with
 |some e=>match BV P e with
  |some sz=>if sz=1 then match x with
   |.vs k off n=>match H k,Cz H y with
    |some (.var cs),some (.sl 1 ys,ks)=>if off+n≤cs.length∧ys.all D.flat=true then
      some (.d (.int .i64 ((min ys.length n:Nat):Int)),[(k,some (.var (Aj cs off ((ys.take n).map .d))))],k::ks)else none
    |_,_=>none
   |_=>none
   else none
  |none=>none
 |none=>none
theorem GN{d:D}(h:d.flat=true):d.cell=true:=by cases d<;>first|rfl|(simp[D.flat]at h)
theorem PF(hI:At X (lk hp) ν used w)(hk:¬used key){t t' ty:Nat}{x y r:AV}{vx vy:Value}{es:List (Nat×Option HO)}{acc:List Nat}
 (hx:A5 w (Am X.M0 (lk hp) ν) (lk hp) ν used x vx) (hy:A5 w (Am X.M0 (lk hp) ν) (lk hp) ν used y vy)
 (he:Gu P (lk hp) t x y=some (r,es,acc)):∃v w',(Builtin.copy_ #[t,t'] ty #[vx,vy]).run P w= .ok v w'∧C7 X hp ν used w key (BO hp es) r v w':=by
 unfold Gu at he;split at he
 ·rename_i e hel;split at he
  ·rename_i sz hsz;split at he
   ·rename_i h1;subst h1;split at he
    ·rename_i k off n;split at he
     ·rename_i cs ys ks ho hyd;split at he
      ·rename_i hc;obtain⟨hoff,hflat⟩:=hc;simp only[Option.some.injEq,Prod.mk.injEq]at he;obtain⟨rfl,rfl,rfl⟩:=he;cases hx with
       |vs hu hc h =>
        rename_i c a;obtain⟨cs',b,he,hν,ha,_⟩:=h _ ho;cases he;obtain⟨b',cells,e',hv,hg,hlen,hcell,hr⟩:=hI.obj _ _ ho;rw[hν]at hv;cases hv;have hrd:=HK hI (M':=fun _=>False) (fun _ h=>h.elim) y vy _ ks hy hyd (fun _ _ _ _ h=>h);have hst:∀(us:List Value),us.length≤n→(∀u∈us,u.oneCell'=true)→(storeCells a us).run P w= .ok () (w.setRow b (Aj cells.toList off us).toArray):=fun us hul huc=>by
         subst ha;have:=run_storeCells_at P b off e' us 0 cells w hg (by omega) huc;simpa[Aj]using this
        have key_:∀(us:List Value) (m:Nat),us.length=m→m=min ys.length n→(∀(i:Nat) d u,ys[i]? =some d→us[i]? =some u→An w (fun _=>False) d u)→(Builtin.lenOf vy).run P w= .ok ys.length w→(Builtin.firstCells 1 (min ys.length n) vy).run P w= .ok us.toArray w →
         ∃v w',(Builtin.copy_ #[t,t'] ty #[.slice (some a) n c,vy]).run P w= .ok v w'∧C7 X hp ν used w key (BO hp [(k,some (.var (Aj cs off ((ys.take n).map .d))))]) (.d (.int .i64 ((min ys.length n:Nat):Int))) v w':=fun us m hul hm hus hlo hfc=>by
         have hdl:((ys.take n).map AV.d).length=m:=by simp;omega
         have hun:us.length≤n:=by omega
         have fl:∀d∈ys,d.flat=true:=List.all_eq_true.1 hflat
         have dv:∀(i:Nat) av u,((ys.take n).map AV.d)[i]? =some av→us[i]? =some u→A5 w (Am X.M0 (lk hp) ν) (lk hp) ν used av u:=fun i av u hi hui=>by
          rw[List.getElem?_map,List.getElem?_take]at hi;split at hi
          ·obtain⟨d,hd,rfl⟩:=Option.map_eq_some_iff.1 hi;exact .d ((hus i d u hd hui).flat (fl d (List.mem_of_getElem? hd)))
          ·cases hi
         have hdc:∀d∈(ys.take n).map AV.d,d.cell=true:=fun d hd=>by
          obtain⟨z,hz,rfl⟩:=List.mem_map.1 hd;exact GN (fl z (List.mem_of_mem_take hz))
         have huc:∀u∈us,u.oneCell'=true:=fun u hu=>by
          obtain⟨i,hi⟩:=List.mem_iff_getElem?.1 hu;have hil:i<((ys.take n).map AV.d).length:=by rw[hdl,← hul];exact(List.getElem?_eq_some_iff.1 hi).1
          have hd:=List.getElem?_eq_getElem hil;exact(dv i _ u hd hi).oneCell (hdc _ (List.getElem_mem hil))
         obtain⟨ν',m1,m2⟩:=VS hI hk ho hν hg hlen hcell hr (us:=us) (ds:=(ys.take n).map AV.d) (off:=off) (by rw[hul,hdl]) (by rw[hdl];omega) hdc dv;refine⟨.int .i64 ((min ys.length n:Nat):Int),_,?_,ν',m1,m2,.d (.int _ _)⟩;have hfc':(Builtin.firstCells 1 (Nat.min ys.length n) vy).run P w= .ok us.toArray w:=hfc;simp only[Builtin.copy_,List.getElem?_toArray,List.getElem?_cons_zero,List.getElem?_cons_succ,Sem.run_bind,run_underlying (Bn hel),Result.andThen_ok,hlo,AF hsz,hfc',hst us hun huc,goInt,Sem.run_pure]
        cases hrd with
        |sl0=>exact key_ [] 0 rfl (by simp) (fun i d u hd=>by simp at hd) rfl (by simp[Builtin.firstCells])
        |sl val hb hM hcc hm hs h1 h2 =>
         rename_i c' a';have hget:∀(i:Nat),i<min ys.length n→∃d,ys[i]? =some d∧d.comps=[d]:=fun i hi=>by
          have hil:i<ys.length:=by omega
          have hd:=List.getElem?_eq_getElem hil;refine⟨_,hd,?_⟩;have hf:=GN (List.all_eq_true.1 hflat _ (List.getElem_mem hil));generalize ys[i]=d at hf;cases d<;>first|rfl|(simp[D.cell]at hf)
         refine key_ ((List.range (min ys.length n)).map fun i=>val i 0) _ (by simp) rfl (fun i d u hd hu=>?_) rfl ?_
         ·obtain⟨hi,rfl⟩:=D3 hu;obtain⟨d',hd',hcp⟩:=hget i hi;rw[hd]at hd';cases hd';exact h2 i d 0 d hd (by rw[hcp];rfl)
         ·refine run_firstCells_some w 1 _ a' _ c' _ (by simp) fun j v hj=>?_;obtain⟨hi,rfl⟩:=D3 hj;obtain⟨d',hd',hcp⟩:=hget j hi;have:=h1 j d' 0 d' hd' (by rw[hcp];rfl);simpa using this
      ·cases he
     ·cases he
    ·cases he
   ·cases he
  ·cases he
 ·cases he
def CC(P:Program)(H:Nat→Option HO)(t:TypeId)(x y:AV):Option (AV×List (Nat×Option HO)×List Nat) :=
 match x,y with
 |.own k n,.vs kv off m=>match C3 P t with
  |some e=>match BV P e,E5 P e,H k,Cz H (.vs kv off m)with
   |some sz,some b,some (.row e' sz' xs),some (.sl s ys,_)=>if sz=1∧s=1∧CS P e=true∧n=xs.length∧e'=e∧sz'=1∧k≠kv∧ys.all D.flat=true∧JC (xs.length+ys.length) b then
     some (.own k (xs.length+ys.length),[(k,some (.row e 1 (xs++ys)))],[k,kv])else none
   |_,_,_,_=>none
  |none=>none
 |_,_=>none
theorem LM(hI:At X (lk hp) ν used w)(hk:¬used key){t ty:TypeId}{x y r:AV}{vx vy:Value}{es:List (Nat×Option HO)}{acc:List Nat}
 (hx:A5 w (Am X.M0 (lk hp) ν) (lk hp) ν used x vx) (hy:A5 w (Am X.M0 (lk hp) ν) (lk hp) ν used y vy) (he:CC P (lk hp) t x y=some (r,es,acc)) :
 ∃v w',(Builtin.append_ #[t,t] ty #[vx,vy]).run P w= .ok v w'∧C7 X hp ν used w key (BO hp es) r v w':=by
 unfold CC at he;split at he
 ·rename_i k n kv off m;split at he
  ·rename_i e hel;split at he
   ·rename_i sz b e' sz' xs s ys q hsz hb ho hyd;split at he
    ·rename_i hc;obtain⟨rfl,rfl,hzo,rfl,rfl,rfl,hne,hflat,hroom⟩:=hc;simp only[Option.some.injEq,Prod.mk.injEq]at he;obtain⟨rfl,rfl,rfl⟩:=he;have hrd:=HK hI (M':=fun _=>False) (fun _ h=>h.elim) _ vy _ _ hy hyd (fun _ _ _ _ h=>h);cases hx with
     |own hu hv hcc ha h =>
      obtain⟨_,_,_,he,_,hvν⟩:=h _ ho;cases he;have hvν:=hvν rfl;obtain⟨vals,hown,hz,hf,hrow⟩:=hI.obj _ _ ho;rw[hvν];obtain⟨v',w',news,hr,g1,g2,g3,g4,g5,g6⟩:=DF (P:=P) hel hsz hb hz hzo ty hown hrd hroom hI.below.size;refine⟨v',w',hr,?_⟩;have g4':D6 w (Am X.M0 (lk hp) ν) 1 ys news:=fun i x j d hx hd=>by
       obtain⟨u,hu,hru⟩:=g4 i x j d hx hd;have hfx:=List.all_eq_true.1 hflat x (List.mem_of_getElem? hx);have hdx:d=x:=by
        cases x<;>simp[D.flat]at hfx<;>(cases j<;>simp[D.comps]at hd;exact hd.symm)
       exact⟨u,hu,hru.flat (hdx▸hfx)⟩
      have:=G6 (key:=key) (k:=k) (xs':=xs++ys) hI hk (.inr ho) hz (by rw[List.length_append];exact g1) g2 g5 (fun _ hl=>g6 (by simp at hl;exact hl)) (by simp) (hf.append g3) (hrow.append hown.1 hf g4');simp only[List.length_append]at this;exact this
    ·cases he
   ·cases he
  ·cases he
 ·cases he
theorem HN{H H':Nat→Option HO}{t:TypeId}{x y:AV}(h1:∀k n,x= .own k n→H' k=H k)(h2:∀k o n,y= .vs k o n→H' k=H k):CC P H' t x y=CC P H t x y:=by
 unfold CC;cases x<;>try rfl
 cases y<;>try rfl
 rename_i k n kv off m;simp only[Cz,h1 k n rfl,h2 kv off m rfl]
theorem NV{H:Nat→Option HO}{t:TypeId}{x y r:AV}{es:List (Nat×Option HO)}{acc:List Nat}(he:CC P H t x y=some (r,es,acc)):(∀k n,x= .own k n→k∈acc)∧∀k o n,y= .vs k o n→k∈acc:=by
 unfold CC at he;split at he
 ·split at he
  ·split at he
   ·split at he
    ·simp only[Option.some.injEq,Prod.mk.injEq]at he;obtain⟨-,-,rfl⟩:=he;refine⟨fun k n e=>?_,fun k o n e=>?_⟩
     ·cases e;simp
     ·cases e;simp
    ·cases he
   ·cases he
  ·cases he
 ·cases he
theorem PC{H:Nat→Option HO}{t:TypeId}{x y r:AV}{es:List (Nat×Option HO)}{acc:List Nat}(he:E8 P key H t x y=some (r,es,acc)):(∀k n,x= .own k n→k∈acc)∧∀k o n,y= .vs k o n→k∈acc:=by
 unfold E8 at he;split at he
 ·cases he
 ·split at he
  ·split at he
   ·split at he
    ·rename_i d ks hd;have hkv:∀k o n,y= .vs k o n→k∈ks:=fun k o n e=>by
      subst e;simp only[Cz]at hd;split at hd
      ·split at hd
       ·split at hd
        ·simp only[Option.some.injEq,Prod.mk.injEq]at hd;obtain⟨-,rfl⟩:=hd;simp
        ·cases hd
       ·cases hd
      ·cases hd
     split at he
     ·split at he
      ·split at he
       ·split at he
        ·split at he
         ·simp only[Option.some.injEq,Prod.mk.injEq]at he;obtain⟨-,-,rfl⟩:=he;exact⟨fun k n e=>by cases e;simp,fun k o n e=>by simp[hkv k o n e]⟩
         ·cases he
        ·cases he
       ·cases he
      ·split at he
       ·split at he
        ·simp only[Option.some.injEq,Prod.mk.injEq]at he;obtain⟨-,-,rfl⟩:=he;exact⟨fun k n e=>by simp at e,hkv⟩
        ·cases he
       ·cases he
      ·cases he
     ·cases he
    ·cases he
   ·cases he
  ·cases he
end
end Go.Eng
namespace Go.Eng
open Go.RowKit
open Go.Maps (Keyed)
open Go.ChangeMaps (setBlock)
def D.leaf:D→Bool
 |.bool _| .int .. | .str _=>true
 |_=>false
def D.pure:D→Bool
 |.agg fs=>fs.all D.leaf
 |.bool _| .int .. | .str _=>true
 |_=>false
theorem WE{d:D}(hd:d.leaf=true){w w':World}{M M':Nat→Prop}{v v':Value}(h:An w M d v)(h':An w' M' d v'):v=v':=by
 cases d<;>first|(simp[D.leaf]at hd;done)|(cases h;cases h';rfl)
theorem WF{a b:D}(ha:a.leaf=true)(hb:b.leaf=true){w w':World}{M M':Nat→Prop}{v:Value}(h:An w M a v)(h':An w' M' b v):a=b:=by
 cases a<;>first|(simp[D.leaf]at ha;done)|skip
 all_goals cases b<;>first|(simp[D.leaf]at hb;done)|skip
 all_goals cases h<;>cases h'<;>rfl
theorem GX{d:D}(hd:d.pure=true){w w':World}{M M':Nat→Prop}{v v':Value}(h:An w M d v)(h':An w' M' d v'):v=v':=by
 cases d<;>first|(simp[D.pure]at hd;done)|(cases h;cases h';rfl)|skip
 rename_i fs;cases h with
 |agg hl hc hh =>
  rename_i cs;cases h' with
  |agg hl' hc' hh' =>
   rename_i cs';have:cs=cs':=List.ext_getElem? fun i=>by
    by_cases hi:i<cs.length
    ·have h1:=List.getElem?_eq_getElem (l:=fs) (i:=i) (by omega);have h2:=List.getElem?_eq_getElem hi;have h3:=List.getElem?_eq_getElem (l:=cs') (i:=i) (by omega);rw[h2,h3,WE (List.all_eq_true.1 hd _ (List.mem_of_getElem? h1)) (hh i _ _ h1 h2) (hh' i _ _ h1 h3)]
    ·rw[List.getElem?_eq_none (by omega),List.getElem?_eq_none (by omega)]
   rw[this]
theorem RO{a b:D}(ha:a.pure=true)(hb:b.pure=true){w w':World}{M M':Nat→Prop}{v:Value}(h:An w M a v)(h':An w' M' b v):a=b:=by
 cases a<;>first|(simp[D.pure]at ha;done)|skip
 all_goals cases b<;>first|(simp[D.pure]at hb;done)|skip
 all_goals cases h<;>first|(cases h';done)|(cases h';rfl)|skip
 rename_i fs fs' cs hl hc hh;generalize hv:Value.agg cs.toArray=v at h';cases h' with
 |agg hl' hc' hh' =>
  rename_i cs';have hcs:cs=cs':=by simpa using hv
  subst hcs;congr 1;refine List.ext_getElem? fun i=>?_;by_cases hi:i<fs.length
  ·have h1:=List.getElem?_eq_getElem hi;have h2:=List.getElem?_eq_getElem (l:=fs') (i:=i) (by omega);have h3:=List.getElem?_eq_getElem (l:=cs) (i:=i) (by omega);rw[h1,h2,WF (List.all_eq_true.1 ha _ (List.mem_of_getElem? h1)) (List.all_eq_true.1 hb _ (List.mem_of_getElem? h2)) (hh i _ _ h1 h3) (hh' i _ _ h2 h3)]
  ·rw[List.getElem?_eq_none (by omega),List.getElem?_eq_none (by omega)]
def Q4(P:Program)(t:TypeId):Option (TypeId×TypeId):=match P.underlying t with|some (.map k e)=>some (k,e)|_=>none
theorem Id{P:Program}{t k e:Nat}(h:Q4 P t=some (k,e)):P.underlying t=some (.map k e):=by
 unfold Q4 at h;split at h
 ·rename_i k' e' hu;simp at h;obtain⟨rfl,rfl⟩:=h;exact hu
 ·cases h
def NT(P:Program)(kt:TypeId)(kd:D):Prop:=kd.pure=true∧∃v l,(∀w M,An w M kd v)∧keyOf P kt v=some l
def Oj(P:Program)(kt:TypeId)(es:List (D×D))(kd:D):Prop:=Keyed P kt∧NT P kt kd∧(∀p∈es,NT P kt p.1)∧(es.map (·.1)).Nodup
open Classical in
noncomputable def LT:List (D×D)→D→Option D
 | [],_=>none
 |(a,b)::l,k=>if a=k then some b else LT l k
open Classical in
noncomputable def GA:List (D×D)→D→D→List (D×D)
 | [],k,v=>[(k,v)]
 |(a,b)::l,k,v=>if a=k then(k,v)::l else(a,b)::GA l k v
theorem Vk{es:List (D×D)}{k:D}(h:∀p∈es,p.1≠k):LT es k=none:=by
 induction es with
 |nil=>rfl
 |cons p es ih =>
  obtain⟨a,b⟩:=p;simp only[LT];rw[if_neg (h (a,b) (by simp)),ih (fun p hp=>h p (by simp[hp]))]
theorem Vl{es:List (D×D)}{k v:D}(h:∀p∈es,p.1≠k):GA es k v=es++[(k,v)]:=by
 induction es with
 |nil=>rfl
 |cons p es ih =>
  obtain⟨a,b⟩:=p;simp only[GA];rw[if_neg (h (a,b) (by simp)),ih (fun p hp=>h p (by simp[hp]))];rfl
theorem YR{es:List (D×D)}(hn:(es.map (·.1)).Nodup){j:Nat}{k v:D}(h:es[j]? =some (k,v)):LT es k=some v:=by
 induction es generalizing j with
 |nil=>simp at h
 |cons p es ih =>
  obtain⟨a,b⟩:=p;simp only[List.map_cons,List.nodup_cons]at hn;simp only[LT];cases j with
  |zero=>simp at h;obtain⟨rfl,rfl⟩:=h;rw[if_pos rfl]
  |succ j =>
   have h':es[j]? =some (k,v):=by simpa using h
   have:a≠k:=fun e=>hn.1 (by rw[e];exact List.mem_map.2 ⟨_,List.mem_of_getElem? h',rfl⟩);rw[if_neg this];exact ih hn.2 h'
theorem YT{es:List (D×D)}(hn:(es.map (·.1)).Nodup){j:Nat}{k v v':D}(h:es[j]? =some (k,v)):GA es k v'=es.set j (k,v'):=by
 induction es generalizing j with
 |nil=>simp at h
 |cons p es ih =>
  obtain⟨a,b⟩:=p;simp only[List.map_cons,List.nodup_cons]at hn;simp only[GA];cases j with
  |zero=>simp at h;obtain⟨rfl,rfl⟩:=h;rw[if_pos rfl];rfl
  |succ j =>
   have h':es[j]? =some (k,v):=by simpa using h
   have:a≠k:=fun e=>hn.1 (by rw[e];exact List.mem_map.2 ⟨_,List.mem_of_getElem? h',rfl⟩);rw[if_neg this,ih hn.2 h'];rfl
section
variable {P:Program} {X:DT} {hp:Aa} {ν:Nat→Value} {used:Nat→Prop} {w:World} {key:Nat}
theorem At.turn(hI:At X (lk hp) ν used w){k:Nat}{o o':HO}(ho:lk hp k=some o){b:Nat}(hb:AL (ν k) b){w1:World}(h1:w1=w∨w1=w.drew)(ob:Obj)(hl:o.later o')
 (hrep:∀M' H',CT (Am X.M0 (lk hp) ν) (lk hp) ν used w M' H' ν used (setBlock w1 b ob)→Ky X.base (setBlock w1 b ob) M' H' ν used (ν k) o') :
 At X (lk (put hp k o')) ν used (setBlock w1 b ob) ∧
 CT (Am X.M0 (lk hp) ν) (lk hp) ν used w (Am X.M0 (lk (put hp k o')) ν) (lk (put hp k o')) ν used (setBlock w1 b ob):=by
 have hM:Am X.M0 (lk hp) ν b:=.inr ⟨k,o,ho,hb⟩;have hheap:w1.heap=w.heap:=by rcases h1 with rfl|rfl<;>rfl
 have hsz:(setBlock w1 b ob).heap.size=w.heap.size:=by simp[setBlock,hheap]
 have hoth:∀q,q≠b→(setBlock w1 b ob).heap[q]? =w.heap[q]? :=fun q hq=>by
  simp only[setBlock,hheap];rw[Array.getElem?_setIfInBounds,if_neg (fun e=>hq e.symm)]
 have hx:CT (Am X.M0 (lk hp) ν) (lk hp) ν used w (Am X.M0 (lk (put hp k o')) ν) (lk (put hp k o')) ν used (setBlock w1 b ob):=by
  refine⟨⟨by rw[hsz];exact Nat.le_refl _,fun b' _ hM'=>hoth _ (fun h=>hM' (h▸hM))⟩,fun b' _ hM'=>?_,fun q hq=>hq,fun q hq o'' ho''=>?_,⟨by rw[hsz];exact Nat.le_refl _,fun b' _ hM'=>hoth _ (fun h=>hM' (h▸⟨k,o,ho,hb⟩))⟩,fun b' _ hM'=>?_⟩
  ·rcases hM' with h|⟨q,o'',hq,hbq⟩
   ·exact .inl h
   ·by_cases h:q=k
    ·subst h;exact .inr ⟨q,o,ho,hbq⟩
    ·rw[A9 _ _ _ _ h]at hq;exact .inr ⟨q,o'',hq,hbq⟩
  ·by_cases h:q=k
   ·subst h;rw[Ab]at ho'';cases ho'';exact⟨o,ho,hl,HO.keeps_of⟩
   ·rw[A9 _ _ _ _ h]at ho'';exact⟨o'',ho'',HO.later.refl _,HO.keeps_of⟩
  ·obtain⟨q,o'',hq,hbq⟩:=hM';by_cases h:q=k
   ·subst h;exact⟨q,o,ho,hbq⟩
   ·rw[A9 _ _ _ _ h]at hq;exact⟨q,o'',hq,hbq⟩
 have hbk:=hI.blk _ _ _ ho hb;have hbel:Bl X.base w (setBlock w1 b ob):=by
  refine⟨⟨?_,?_,?_,by rw[hsz];exact Nat.le_refl _,fun q hq=>hoth _ (by omega)⟩,?_⟩;all_goals rcases h1 with rfl|rfl<;>first|rfl|exact Nat.le_refl _|exact Nat.le_succ _
 have hν:upd ν k (ν k)=ν:=by funext q;by_cases h:q=k<;>simp[upd,h]
 have:=hI.step (k:=k) (o:=o') (v:=ν k) (used':=used) (w':=setBlock w1 b ob) hbel (by rw[hν];exact hx) (hI.usd _ _ ho)
  (fun b' hb'=>⟨(hI.blk _ _ _ ho hb').1,by rw[hsz];exact(hI.blk _ _ _ ho hb').2,fun q o'' hne hq hbq=>hne (hI.inj _ _ _ _ _ hq ho hbq hb'),hI.far _ _ _ ho hb'⟩)
  (fun q o'' b' hne hq hb'=>hoth _ (fun h=>hne (hI.inj _ _ _ _ _ hq ho (h▸hb') hb))) (by rw[hν];exact hrep _ _ hx)
 rw[hν]at this;exact⟨this,hx⟩
theorem LC{w1:World}{b:Nat}{ob:Obj}(h:b<w1.heap.size):(setBlock w1 b ob).heap[b]? =some ob:=by
 simp[setBlock,h]
def F6(P:Program)(key:Nat)(t:TypeId)(r:Bool):Option (AV×List (Nat×Option HO)×List Nat) :=
 match Q4 P t with
 |some (k,e)=>if r=false then some (.map key,[(key,some (.map k e []))],[])else none
 |none=>none
theorem LO(hI:At X (lk hp) ν used w)(hk:¬used key){t:Nat}{r:AV}{es:List (Nat×Option HO)}{acc:List Nat}(he:F6 P key t false=some (r,es,acc)) :
 ∃v w',(Instr.makeMap t none).run P w= .ok v w'∧C7 X hp ν used w key (BO hp es) r v w':=by
 unfold F6 at he;split at he
 ·rename_i k e hm;simp at he;obtain⟨rfl,rfl,rfl⟩:=he;refine⟨_,_,run_makeMap t w,?_⟩;obtain⟨g1,g2⟩:=hI.alloc hk (.map #[] 0) (.map k e []) (.map (some w.heap.size)) (fun b hb=>(Option.some.inj hb).symm) (fun M' H' ν' used' hx =>
   ⟨w.heap.size,#[],rfl,heap_alloc_new w _,rfl,fun i kd vd en h1=>by simp at h1⟩)
  refine⟨_,g1,g2,?_⟩;refine .map (.inr rfl) fun o ho=>?_;simp only[BO]at ho;rw[Ab]at ho;cases ho;exact⟨k,e,[],rfl,by rw[Ac]⟩
 ·cases he
theorem R8{M:Nat→Prop}{kt:TypeId}{es:List (D×D)}{ents:Array MapEntry}{kd:D}{vk:Value}(hok:Oj P kt es kd)(hsz:ents.size=es.length)
 (hr:∀(i:Nat) kd vd en,es[i]? =some (kd,vd)→ents[i]? =some en→en.born=i∧An w M kd en.key∧An w M vd en.val) (hvk:An w M kd vk) :
 (∀(w:World) (em:Bool),(Instr.checkKey em 10000 kt vk).run P w= .ok () w)∧(∀w:World,(Instr.keyThatStays vk vk).run P w= .ok vk w) ∧
 (((Instr.findKey kt vk ents.toList).run P w= .ok none w∧∀p∈es,p.1≠kd) ∨
   ∃j en vd,(Instr.findKey kt vk ents.toList).run P w= .ok (some (j,en.val)) w∧ents[j]? =some en∧en.key=vk∧es[j]? =some (kd,vd)∧An w M vd en.val):=by
 obtain⟨K,⟨hp1,v0,l0,hv0,hl0⟩,hes,hn⟩:=hok;have e0:vk=v0:=GX hp1 hvk (hv0 w M);subst e0;refine⟨fun w em=>K.check w em hl0,fun w=>K.stays w hl0,?_⟩;have hall:∀e∈ents.toList,∃l,keyOf P kt e.key=some l:=fun e he=>by
  obtain⟨i,hi⟩:=List.mem_iff_getElem?.1 he;have hil:i<es.length:=by rw[← hsz];have:=(List.getElem?_eq_some_iff.1 hi).1;simpa using this
  have h1:=List.getElem?_eq_getElem hil;obtain⟨_,h2,_⟩:=hr i _ _ e h1 (by simpa using hi);obtain⟨hpi,v1,l1,hv1,hl1⟩:=hes _ (List.mem_of_getElem? h1);have:=GX hpi h2 (hv1 w M);exact⟨l1,by rw[this];exact hl1⟩
 rcases K.find w hl0 ents.toList hall with⟨h1,h2⟩|⟨j,e,h1,h2,h3⟩
 ·refine .inl ⟨h1,fun p hp heq=>?_⟩;obtain⟨i,hi⟩:=List.mem_iff_getElem?.1 hp;have hil:i<ents.size:=by rw[hsz];exact(List.getElem?_eq_some_iff.1 hi).1
  have he:=Array.getElem?_eq_getElem hil;obtain⟨a,b⟩:=p;simp only at heq;subst heq;obtain⟨_,h4,_⟩:=hr i _ _ _ hi he;exact h2 _ (by simp) (GX hp1 h4 hvk)
 ·refine .inr ?_;have h2':ents[j]? =some e:=by simpa using h2
  have hjl:j<es.length:=by rw[← hsz];exact(Array.getElem?_eq_some_iff.1 h2').1
  have h4:=List.getElem?_eq_getElem hjl;obtain⟨_,h5,h6⟩:=hr j _ _ _ h4 h2';have hkk:es[j].1=kd:=by
   rw[h3]at h5;exact RO (hes _ (List.mem_of_getElem? h4)).1 hp1 h5 hvk
  refine⟨j,e,es[j].2,h1,h2',h3,?_,h6⟩;rw[h4,← hkk]
open Classical in
noncomputable def E9(P:Program)(H:Nat→Option HO)(t:TypeId)(x i:AV)(ok:Bool):Option (AV×List Nat) :=
 match x,i with
 |.map k,.d kd=>match H k,Q4 P t with
  |some (.map kt et es),some (kt',et')=>if kt'=kt∧et'=et∧Oj P kt es kd then
    match LT es kd with
    |some vd=>some (if ok then .tup [.d vd,.d (.bool true)]else .d vd,[k])
    |none=>match Av P et with
     |some z=>some (if ok then .tup [.d z,.d (.bool false)]else .d z,[k])
     |none=>none
   else none
  |_,_=>none
 |_,_=>none
theorem MT(hI:At X (lk hp) ν used w){t:Nat}{x i r:AV}{vx vi:Value}{ok:Bool}{acc:List Nat}
 (hx:A5 w (Am X.M0 (lk hp) ν) (lk hp) ν used x vx) (hi:A5 w (Am X.M0 (lk hp) ν) (lk hp) ν used i vi) (he:E9 P (lk hp) t x i ok=some (r,acc)) :
 ∃v,(Instr.lookup t vx vi ok).run P w= .ok v w∧A5 w (Am X.M0 (lk hp) ν) (lk hp) ν used r v:=by
 unfold E9 at he;split at he
 ·rename_i k kd;split at he
  ·rename_i kt et es kt' et' ho hm;split at he
   ·rename_i hc;obtain⟨rfl,rfl,hok⟩:=hc;cases hx with
    |map hu h =>
     rename_i mr;cases hi with
     |d hi =>
      obtain⟨_,_,_,he',hν⟩:=h _ ho;cases he';obtain⟨r0,ents,hv,hg,hsz,hr⟩:=hI.obj _ _ ho;rw[hν]at hv;cases hv;obtain⟨c1,c2,c3⟩:=R8 (w:=w) hok hsz hr hi;have tup:∀(vd:D) (u:Value) (b:Bool),An w (Am X.M0 (lk hp) ν) vd u→A5 w (Am X.M0 (lk hp) ν) (lk hp) ν used (if ok then .tup [.d vd,.d (.bool b)]else .d vd) (if ok then .tuple #[u,.bool b]else u):=fun vd u b h=>by
       cases ok with
       |false=>exact .d h
       |true =>
        simp only[if_true];refine A5.tup (cs:=[u,.bool b]) rfl fun i d v h1 h2=>?_
        match i with
        |0=>simp at h1 h2;subst h1;subst h2;exact .d h
        |1=>simp at h1 h2;subst h1;subst h2;exact .d (.bool _)
        |i+2=>simp at h1
      rcases c3 with⟨f1,f2⟩|⟨j,en,vd,f1,f2,f3,f4,f5⟩
      ·rw[Vk f2]at he;simp only at he;split at he
       ·rename_i z hz;simp only[Option.some.injEq,Prod.mk.injEq]at he;obtain⟨rfl,rfl⟩:=he;obtain⟨zv,hzr,_,hrep⟩:=EC hz;refine⟨_,?_,tup z zv false (hrep _ _)⟩;simp only[Instr.lookup,Sem.run_bind,run_underlying (Id hm),Result.andThen_ok,Go.MapKept.run_getObj_map hg,Sem.run_pure,c1,f1,hzr]
       ·cases he
      ·rw[YR hok.2.2.2 f4]at he;simp only[Option.some.injEq,Prod.mk.injEq]at he;obtain⟨rfl,rfl⟩:=he;refine⟨_,?_,tup vd en.val true f5⟩;simp only[Instr.lookup,Sem.run_bind,run_underlying (Id hm),Result.andThen_ok,Go.MapKept.run_getObj_map hg,Sem.run_pure,c1,f1]
   ·cases he
  ·cases he
 ·cases he
open Classical in
noncomputable def Ea(P:Program)(H:Nat→Option HO)(t:TypeId)(x i y:AV):Option (List (Nat×Option HO)×List Nat) :=
 match x,i,y with
 |.map k,.d kd,.d vd=>match H k,Q4 P t with
  |some (.map kt et es),some (kt',et')=>if kt'=kt∧et'=et∧Oj P kt es kd then some ([(k,some (.map kt et (GA es kd vd)))],[k])else none
  |_,_=>none
 |_,_,_=>none
theorem MV(hI:At X (lk hp) ν used w)(hk:¬used key){t:Nat}{x i y:AV}{vx vi vy:Value}{es:List (Nat×Option HO)}{acc:List Nat}
 (hx:A5 w (Am X.M0 (lk hp) ν) (lk hp) ν used x vx) (hi:A5 w (Am X.M0 (lk hp) ν) (lk hp) ν used i vi) (hy:A5 w (Am X.M0 (lk hp) ν) (lk hp) ν used y vy) (he:Ea P (lk hp) t x i y=some (es,acc)) :
 ∃w',(Instr.mapUpdate t vx vi vy).run P w= .ok () w'∧C7 X hp ν used w key (BO hp es) .undef undef w':=by
 unfold Ea at he;split at he
 ·rename_i k kd vd;split at he
  ·rename_i kt et ms kt' et' ho hm;split at he
   ·rename_i hc;obtain⟨rfl,rfl,hok⟩:=hc;simp only[Option.some.injEq,Prod.mk.injEq]at he;obtain⟨rfl,rfl⟩:=he;cases hx with
    |map hu h =>
     rename_i mr;cases hi with
     |d hi =>
      cases hy with
      |d hy =>
       obtain⟨_,_,_,he',hν⟩:=h _ ho;cases he';obtain⟨r0,ents,hv,hg,hsz,hr⟩:=hI.obj _ _ ho;rw[hν]at hv;cases hv;have hbk:AL (ν k) mr:=by rw[hν];exact rfl
       have hlt:=(hI.blk _ _ _ ho hbk).2;obtain⟨c1,c2,c3⟩:=R8 (w:=w) hok hsz hr hi;have fin:∀(ents':Array MapEntry),ents'.size=(GA ms kd vd).length→(∀(i:Nat) kd' vd' en,(GA ms kd vd)[i]? =some (kd',vd')→ents'[i]? =some en→en.born=i∧An w (Am X.M0 (lk hp) ν) kd' en.key∧An w (Am X.M0 (lk hp) ν) vd' en.val) →
        C7 X hp ν used w key (BO hp [(k,some (.map kt' et' (GA ms kd vd)))]) .undef undef (setBlock w mr (.map ents' (GA ms kd vd).length)):=fun ents' hs hrr=>by
        obtain⟨g1,g2⟩:=hI.turn (o':=.map kt' et' (GA ms kd vd)) ho hbk (.inl rfl) (.map ents' (GA ms kd vd).length) ⟨rfl,rfl⟩ (fun M' H' hx' =>
         ⟨mr,ents',hν,LC hlt,hs,fun i kd' vd' en h1 h2=>let ⟨a,b,c⟩:=hrr i kd' vd' en h1 h2;⟨a,b.mono hx'.same hx'.shrink,c.mono hx'.same hx'.shrink⟩⟩)
        obtain⟨m1,m2⟩:=g1.more hk;exact⟨ν,m1,g2.trans m2,.undef _⟩
       rcases c3 with⟨f1,f2⟩|⟨j,en,vd0,f1,f2,f3,f4,f5⟩
       ·have hp2:=Vl (v:=vd) f2;have hlen:(GA ms kd vd).length=ms.length+1:=by rw[hp2];simp
        refine⟨_,?_,fin (ents.push { key:=vi,val:=vy,born:=ms.length }) (by rw[hlen];simp[hsz]) (fun i kd' vd' en h1 h2=>?_)⟩
        ·simp only[Instr.mapUpdate,Sem.run_bind,run_underlying (Id hm),Result.andThen_ok,Go.MapKept.run_getObj_map hg,Sem.run_pure,c1,f1,Go.MapKept.run_setObj_map _ hg,hlen];rfl
        ·rw[hp2]at h1;by_cases hil:i<ms.length
         ·rw[List.getElem?_append_left hil]at h1;rw[Array.getElem?_push,if_neg (by omega)]at h2;exact hr i _ _ _ h1 h2
         ·rw[List.getElem?_append_right (by omega)]at h1;have:i=ms.length:=by
           have:=(List.getElem?_eq_some_iff.1 h1).1;simp at this;omega
          subst this;simp at h1;obtain⟨rfl,rfl⟩:=h1;rw[Array.getElem?_push,if_pos hsz.symm]at h2;cases h2;exact⟨rfl,hi,hy⟩
       ·have hp2:=YT hok.2.2.2 (v':=vd) f4;have hlen:(GA ms kd vd).length=ms.length:=by rw[hp2];simp
        have hjl:j<ents.size:=(Array.getElem?_eq_some_iff.1 f2).1;refine⟨_,?_,fin (ents.modify j fun e=>{ e with key:=vi,val:=vy }) (by rw[hlen];simp[hsz]) (fun i kd' vd' en' h1 h2=>?_)⟩
        ·have hkey:((ents[j]?).map (·.key)).getD vi=vi:=by rw[f2];simp[f3]
         simp only[Instr.mapUpdate,Sem.run_bind,run_underlying (Id hm),Result.andThen_ok,Go.MapKept.run_getObj_map hg,Sem.run_pure,c1,f1,hkey,c2,Go.MapKept.run_setObj_map _ hg,hlen];rfl
        ·rw[hp2]at h1;rw[Array.getElem?_modify]at h2;by_cases hij:i=j
         ·subst hij;rw[if_pos rfl,f2]at h2;simp at h2;rw[List.getElem?_set_self (by omega)]at h1;cases h1;subst h2;exact⟨(hr i _ _ _ f4 f2).1,hi,hy⟩
         ·rw[if_neg (fun e=>hij e.symm)]at h2;rw[List.getElem?_set_ne (fun e=>hij e.symm)]at h1;exact hr i _ _ _ h1 h2
   ·cases he
  ·cases he
 ·cases he
def Fk(key:Nat)(P:Program)(H:Nat→Option HO)(t:TypeId)(x:AV):Option (AV×List (Nat×Option HO)×List Nat) :=
 match x with
 |.map k=>match H k,Q4 P t with
  |some (.map kt et es),some _=>some (.it key,[(key,some (.iter k es.length []))],[k])
  |_,_=>none
 |_=>none
theorem O7(hI:At X (lk hp) ν used w)(hk:¬used key){t:Nat}{x r:AV}{vx:Value}{es:List (Nat×Option HO)}{acc:List Nat}
 (hx:A5 w (Am X.M0 (lk hp) ν) (lk hp) ν used x vx) (he:Fk key P (lk hp) t x=some (r,es,acc)) :
 ∃v w',(Instr.range t vx).run P w= .ok v w'∧C7 X hp ν used w key (BO hp es) r v w':=by
 unfold Fk at he;split at he
 ·rename_i k;split at he
  ·rename_i kt et ms p ho hm;obtain⟨kt',et'⟩:=p;simp only[Option.some.injEq,Prod.mk.injEq]at he;obtain⟨rfl,rfl,rfl⟩:=he;cases hx with
   |map hu h =>
    rename_i mr;obtain⟨_,_,_,he',hν⟩:=h _ ho;cases he';obtain⟨r0,ents,hv,hg,hsz,hr⟩:=hI.obj _ _ ho;rw[hν]at hv;cases hv;refine⟨.pointer (some ⟨w.heap.size,0,none⟩),w.alloc (.mapIter (some mr) ms.length #[] ms.length),?_,?_⟩
    ·simp only[Instr.range,Sem.run_bind,run_underlying (Id hm),Result.andThen_ok,Go.MapKept.run_getObj_map hg,Sem.run_pure,run_newObj_alloc]
    ·obtain⟨g1,g2⟩:=hI.alloc hk (.mapIter (some mr) ms.length #[] ms.length) (.iter k ms.length []) (.pointer (some ⟨w.heap.size,0,none⟩)) (fun b hb=>(Option.some.inj hb).symm) (fun M' H' ν' used' hx' =>
      ⟨w.heap.size,mr,rfl,heap_alloc_new w _,hx'.usd _ hu,fun o' ho'=>by
       obtain⟨o,ho2,hl,hst⟩:=hx'.obj _ hu o' ho';rw[ho]at ho2;cases ho2;cases o' with
       |map kt'' et'' es''=>exact⟨_,_,es'',rfl,by rw[show _=_ from hst];exact hν⟩
       |row _ _ _=>exact hl.elim
       |var _=>exact hl.elim
       |iter _ _ _=>exact hl.elim
       |tab _ _ _=>exact hl.elim
       |loop _ _ _=>exact hl.elim⟩)
     refine⟨_,g1,g2,?_⟩;refine .it (.inr rfl) fun o ho'=>?_;simp only[BO]at ho';rw[Ab]at ho';cases ho';exact⟨_,_,_,w.heap.size,rfl,by rw[Ac],rfl⟩
  ·cases he
 ·cases he
def Fj(H:Nat→Option HO)(x:AV):Option (AV×List Nat) :=
 match x with
 |.it k=>match H k with
  |some (.iter m c seen)=>match H m,seen.getLast? with
   |some (.map kt et es),some i=>if es.length=c then match es[i]? with
     |some (kd,vd)=>some (.tup [.d kd,.d vd],[k,m])
     |none=>none
    else none
   |_,_=>none
  |_=>none
 |_=>none
theorem O3(hI:At X (lk hp) ν used w){x r:AV}{vx:Value}{acc:List Nat}
 (hx:A5 w (Am X.M0 (lk hp) ν) (lk hp) ν used x vx) (he:Fj (lk hp) x=some (r,acc)) :
 ∃v,(Instr.entry vx).run P w= .ok v w∧A5 w (Am X.M0 (lk hp) ν) (lk hp) ν used r v:=by
 unfold Fj at he;split at he
 ·rename_i k;split at he
  ·rename_i m c seen ho;split at he
   ·rename_i kt et es i hm hlast;split at he
    ·rename_i hc;subst hc;split at he
     ·rename_i kd vd hi;simp only[Option.some.injEq,Prod.mk.injEq]at he;obtain⟨rfl,rfl⟩:=he;cases hx with
      |it hu h =>
       obtain⟨_,_,_,b,he',hν,ha⟩:=h _ ho;cases he';subst ha;obtain⟨b',mr,hv,hg,hum,hmm⟩:=hI.obj _ _ ho;rw[hν]at hv;cases hv;obtain⟨_,_,_,he2,hνm⟩:=hmm _ hm;cases he2;obtain⟨r0,ents,hv2,hg2,hsz,hr⟩:=hI.obj _ _ hm;rw[hνm]at hv2;cases hv2;have hil:i<ents.size:=by rw[hsz];exact(List.getElem?_eq_some_iff.1 hi).1
       have hen:=Array.getElem?_eq_getElem hil;obtain⟨h1,h2,h3⟩:=hr i _ _ _ hi hen;have hne:seen≠[]:=fun e=>by rw[e]at hlast;simp at hlast
       have hseen:seen.toArray=(seen.dropLast.toArray).push (ents[i]).born:=by
        have:seen.getLast hne=i:=by
         rw[List.getLast?_eq_some_getLast hne]at hlast;simpa using hlast
        conv=>lhs;rw[← List.dropLast_concat_getLast hne,this]
        rw[h1];simp
       have hnd:(ents.toList.map (·.born)).Nodup:=by
        have:ents.toList.map (·.born)=List.range ents.size:=List.ext_getElem? fun j=>by
         by_cases hj:j<ents.size
         ·have hj':=List.getElem?_eq_getElem (l:=es) (i:=j) (by omega);have hje:=Array.getElem?_eq_getElem hj;rw[List.getElem?_map,List.getElem?_range hj];simp only[Array.getElem?_toList,hje,Option.map_some,Option.some.injEq];exact(hr j _ _ _ hj' hje).1
         ·rw[List.getElem?_eq_none (by simp;omega),List.getElem?_eq_none (by simp;omega)]
        rw[this];exact List.nodup_range
       rw[hseen]at hg;refine⟨_,run_entry_at w b mr _ _ ents _ ents[i] hg hg2 (by simp) hnd,?_⟩;refine A5.tup (cs:=[_,_]) rfl fun q d v q1 q2=>?_
       match q with
       |0=>simp at q1 q2;subst q1;subst q2;exact .d h2
       |1=>simp at q1 q2;subst q1;subst q2;exact .d h3
       |q+2=>simp at q1
     ·cases he
    ·cases he
   ·cases he
  ·cases he
 ·cases he
end
end Go.Eng
namespace Go.Eng
open Go.RowKit
open Go.Maps (Keyed)
def W1(P:Program)(t:TypeId):Prop:=Keyed P t∧(∃d,P.underlying t=some d∧((∃fs,d= .struct fs)∨∃n e,d= .array n e))∧P.eqGuardType P.depth t=false
noncomputable def same{α:Type}(a b:α):Bool:=@decide (a=b) (Classical.propDecidable _)
theorem NE{α:Type}{a b:α}(h:a=b):same a b=true:=@decide_eq_true _ (Classical.propDecidable _) h
theorem Qi{α:Type}{a b:α}(h:a≠b):same a b=false:=@decide_eq_false _ (Classical.propDecidable _) h
open Classical in
noncomputable def ML(P:Program)(t:TypeId)(op:BinOp)(x y:AV):Option AV :=
 match x,y with
 |.d (.agg a),.d (.agg b)=>if W1 P t∧NT P t (.agg a)∧NT P t (.agg b)then
   match op with
   |.eql=>some (.d (.bool (same a b)))
   |.neq=>some (.d (.bool (!same a b)))
   |_=>none
  else none
 |_,_=>none
section
variable {P:Program} {w:World}
theorem QY{t:TypeId}{d:TypeDesc}(K:Keyed P t)(hd:P.underlying t=some d)(hw:(∃fs,d= .struct fs)∨∃n e,d= .array n e){x y:Value}{lx ly:Lit}(hx:keyOf P t x=some lx)(hy:keyOf P t y=some ly) :
 (Op.equal t x y).run P w= .ok (same x y) w:=by
 have hf:(Instr.findKey t x [⟨y,undef,0⟩]).run P w=(Instr.findAsking t x [⟨y,undef,0⟩]).run P w:=by
  have hn:Instr.findNow d x [⟨y,undef,0⟩] 0=none:=by
   rcases hw with⟨fs,rfl⟩|⟨n,e,rfl⟩<;>simp[Instr.findNow,Instr.sameNow]
  simp only[Instr.findKey,Sem.run_bind,run_underlying hd,Result.andThen_ok,hn]
 rcases K.find w hx [⟨y,undef,0⟩] (fun e he=>by simp at he;subst he;exact⟨ly,hy⟩)with⟨h1,h2⟩|⟨j,e,h1,h2,h3⟩
 ·rw[hf]at h1;have hne:x≠y:=fun e=>h2 ⟨y,undef,0⟩ (List.mem_singleton.2 rfl) e.symm;simp only[Instr.findAsking,Sem.run_bind]at h1;cases hq:(Op.equal t x y).run P w with
  |halt _ _=>rw[hq]at h1;simp[Result.andThen]at h1
  |ok b w1 =>
   rw[hq]at h1;simp only[Result.andThen_ok]at h1;cases b with
   |true=>simp at h1
   |false =>
    simp at h1;rw[Qi hne,h1]
 ·rw[hf]at h1;have hj:j=0:=by
   have:=(List.getElem?_eq_some_iff.1 h2).1;simp at this;exact this
  subst hj;simp at h2;subst h2;simp only at h3;simp only[Instr.findAsking,Sem.run_bind]at h1;cases hq:(Op.equal t x y).run P w with
  |halt _ _=>rw[hq]at h1;simp[Result.andThen]at h1
  |ok b w1 =>
   rw[hq]at h1;simp only[Result.andThen_ok]at h1;cases b with
   |false=>simp at h1
   |true =>
    simp at h1;rw[NE h3.symm,h1]
theorem R0{M:Nat→Prop}{H:Nat→Option HO}{ν:Nat→Value}{used:Nat→Prop}{t:TypeId}{op:BinOp}{x y:AV}{v1 v2:Value}{r:AV}(ox oy:Operand)(h1:A5 w M H ν used x v1)(h2:A5 w M H ν used y v2)(he:ML P t op x y=some r) :
 ∃v,(do eqGuard op t ox oy v1 v2;binOp op t v1 v2:Sem Value).run P w= .ok v w∧A5 w M H ν used r v:=by
 unfold ML at he;split at he
 ·rename_i a b;split at he
  ·rename_i hc;obtain⟨⟨K,⟨d,hd,hw⟩,hgt⟩,⟨hpa,va,la,hva,hla⟩,⟨hpb,vb,lb,hvb,hlb⟩⟩:=hc;cases h1 with
   |d h1 =>
    cases h2 with
    |d h2 =>
     have e1:=GX hpa h1 (hva w M);have e2:=GX hpb h2 (hvb w M);subst e1;subst e2;have heq:=QY (w:=w) K hd hw hla hlb;have hiff:(v1=v2)↔(a=b):=by
      constructor
      ·intro e;subst e;have:=RO hpa hpb h1 h2;simpa using this
      ·intro e;subst e;exact GX hpa h1 h2
     have hdec:same v1 v2=same a b:=by
      by_cases e:a=b
      ·rw[NE e,NE (hiff.2 e)]
      ·rw[Qi e,Qi (fun h=>e (hiff.1 h))]
     cases h1 with
     |agg hl1 hc1 hh1 =>
      cases h2 with
      |agg hl2 hc2 hh2 =>
       rename_i cs1 cs2;have hg:(eqGuard op t ox oy (.agg cs1.toArray) (.agg cs2.toArray)).run P w= .ok () w:=by
        unfold eqGuard;cases op<;>simp[hgt]
       split at he
       ·cases he;refine⟨_,?_,.d (.bool _)⟩;simp only[Sem.run_bind,hg,Result.andThen_ok,binOp,heq,Sem.run_pure,hdec]
       ·cases he;refine⟨_,?_,.d (.bool _)⟩;simp only[Sem.run_bind,hg,Result.andThen_ok,binOp,heq,Sem.run_pure,hdec]
       ·cases he
  ·cases he
 ·cases he
end
end Go.Eng
namespace Go.Eng
open Go.RowKit
theorem At.bulk{X:DT}{hp hp':Aa}{ν ν':Nat→Value}{used used':Nat→Prop}{w w':World}(hI:At X (lk hp) ν used w)(C:Nat→Prop)
 (hsame:∀j o,¬C j→lk hp' j=some o→lk hp j=some o) (hν:∀j,¬C j→ν' j=ν j) (hbel:Bl X.base w w')
 (hx:CT (Am X.M0 (lk hp) ν) (lk hp) ν used w (Am X.M0 (lk hp') ν') (lk hp') ν' used' w')
 (husd:∀j o,C j→lk hp' j=some o→used' j)
 (hnew:∀j o b,C j→lk hp' j=some o→AL (ν' j) b→X.base≤b∧b<w'.heap.size∧¬X.M0 b∧∀j' o',lk hp' j'=some o'→AL (ν' j') b→j'=j)
 (hold:∀j o b,¬C j→lk hp' j=some o→AL (ν j) b→w'.heap[b]? =w.heap[b]?)
 (hrep:∀j o,C j→lk hp' j=some o→Ky X.base w' (Am X.M0 (lk hp') ν') (lk hp') ν' used' (ν' j) o):At X (lk hp') ν' used' w':=by
 refine⟨hI.below.trans hbel,fun b hb=>Nat.lt_of_lt_of_le (hI.M0 b hb) hbel.size,fun j o b hj hb=>?_,fun j o hj=>?_,fun j o b hj hb=>?_,fun j j' o o' b hj hj' hb hb'=>?_,fun j o hj=>?_⟩
 ·by_cases h:C j
  ·exact(hnew j o b h hj hb).2.2.1
  ·rw[hν j h]at hb;exact hI.far _ _ _ (hsame j o h hj) hb
 ·by_cases h:C j
  ·exact husd j o h hj
  ·exact hx.usd _ (hI.usd _ _ (hsame j o h hj))
 ·by_cases h:C j
  ·exact⟨(hnew j o b h hj hb).1,(hnew j o b h hj hb).2.1⟩
  ·rw[hν j h]at hb;have:=hI.blk _ _ _ (hsame j o h hj) hb;exact⟨this.1,Nat.lt_of_lt_of_le this.2 hbel.size⟩
 ·by_cases h:C j
  ·exact((hnew j o b h hj hb).2.2.2 j' o' hj' hb').symm
  ·by_cases h':C j'
   ·exact(hnew j' o' b h' hj' hb').2.2.2 j o hj hb
   ·rw[hν j h]at hb;rw[hν j' h']at hb';exact hI.inj _ _ _ _ _ (hsame j o h hj) (hsame j' o' h' hj') hb hb'
 ·by_cases h:C j
  ·exact hrep j o h hj
  ·rw[hν j h];exact(hI.obj _ _ (hsame j o h hj)).ext hx (fun b hb=>hold j o b h hj hb)
theorem CT.bulk{M0:Nat→Prop}{hp hp':Aa}{ν ν':Nat→Value}{used used':Nat→Prop}{w w':World}(C:Nat→Prop)
 (hsame:∀j o,¬C j→lk hp' j=some o→lk hp j=some o) (hν:∀j,¬C j→ν' j=ν j)
 (hw:w.heap.size≤w'.heap.size) (hb:∀b,b<w.heap.size→¬Tt (lk hp) ν b→w'.heap[b]? =w.heap[b]?) (hu:∀q,used q→used' q)
 (hv:∀j o b,C j→lk hp' j=some o→AL (ν' j) b→b<w.heap.size→Tt (lk hp) ν b)
 (hl:∀j o',C j→used j→lk hp' j=some o'→∃o,lk hp j=some o∧o.later o'∧o.keeps o' (ν j) (ν' j)) :
 CT (Am M0 (lk hp) ν) (lk hp) ν used w (Am M0 (lk hp') ν') (lk hp') ν' used' w':=by
 have hO:∀b,b<w.heap.size→Tt (lk hp') ν' b→Tt (lk hp) ν b:=fun b hb' ⟨j,o,hj,hbj⟩=>by
  by_cases h:C j
  ·exact hv j o b h hj hbj hb'
  ·rw[hν j h]at hbj;exact⟨j,o,hsame j o h hj,hbj⟩
 refine⟨⟨hw,fun b hb' hM=>hb b hb' (fun h=>hM (.inr h))⟩,fun b hb' hM=>?_,hu,fun j hj o' ho'=>?_,⟨hw,hb⟩,hO⟩
 ·rcases hM with h|h
  ·exact .inl h
  ·exact .inr (hO b hb' h)
 ·by_cases h:C j
  ·exact hl j o' h hj ho'
  ·exact⟨o',hsame j o' h ho',HO.later.refl _,HO.keeps_eq (hν j h)⟩
def H5(v:Value)(i:Nat)(u:Value):Value:=match v with
 |.tuple vs=>.tuple (vs.setIfInBounds i u)
 |v=>v
theorem Lj{vs:Array Value}{i j:Nat}{u:Value}(hi:i<vs.size):AB (H5 (.tuple vs) i u) j=if j=i then u else AB (.tuple vs) j:=by
 simp only[H5,AB,Array.getD_eq_getD_getElem?,Array.getElem?_setIfInBounds];by_cases h:j=i
 ·subst h;simp[hi]
 ·rw[if_neg (fun e=>h e.symm),if_neg h]
theorem P9{vs:Array Value}{i:Nat}:H5 (.tuple vs) i (AB (.tuple vs) i)= .tuple vs:=by
 simp only[H5,AB];congr 1;apply Array.ext_getElem?;intro j;rw[Array.getElem?_setIfInBounds];split
 ·rename_i h;subst h;split
  ·rename_i h;simp[Array.getD_eq_getD_getElem?,h]
  ·rename_i h;simp at h;simp[h]
 ·rfl
theorem M8{so i i' j j':Nat}(hj:j<so)(hj':j'<so)(h:i * so+j=i' * so+j'):i=i'∧j=j':=by
 rcases Nat.lt_trichotomy i i' with h1|h1|h1
 ·have:(i+1) * so≤i' * so:=Nat.mul_le_mul_right _ h1;rw[Nat.add_mul]at this;omega
 ·subst h1;exact⟨rfl,by omega⟩
 ·have:(i'+1) * so≤i * so:=Nat.mul_le_mul_right _ h1;rw[Nat.add_mul]at this;omega
def D.put(y:D)(off:Nat)(d:D):D:=match y with
 |.agg fs=>.agg (fs.set off d)
 |_=>d
theorem D.comps_one{d:D}(h:d.cell=true):d.comps=[d]:=by cases d<;>first|rfl|(simp[D.cell]at h)
theorem D.put_comps{y d:D}{off:Nat}(hd:d.cell=true)(ho:off<y.comps.length):(y.put off d).comps=y.comps.set off d:=by
 have h1:=D.comps_one hd;cases y;case agg=>rfl
 all_goals
  have:off=0:=by simpa[D.comps]using ho
  subst this;simp only[D.put];rw[h1];rfl
theorem Tb.inn_of{T:Tb}{r:D}{z:Nat}{xs:List D}(h:r.comps[T.off]? =some (.sl z xs)):T.inn r=xs:=by simp[Tb.inn,h]
theorem Tb.ilen_at{T:Tb}{rows:List D}{i:Nat}{r:D}(h:rows[i]? =some r):T.ilen rows i=(T.inn r).length:=by simp[Tb.ilen,List.getD_eq_getElem?_getD,h]
theorem Tb.ilen_set{T:Tb}{rows:List D}{i j:Nat}{r:D}(h:i<rows.length):T.ilen (rows.set i r) j=if j=i then(T.inn r).length else T.ilen rows j:=by
 unfold Tb.ilen;simp only[List.getD_eq_getElem?_getD,List.getElem?_set];by_cases e:j=i
 ·subst e;simp[h]
 ·rw[if_neg (fun x=>e x.symm),if_neg e]
def aj(base:Nat)(w:World)(M:Nat→Prop)(v:Value)(T:Tb)(vals:List Value)(q:Option Nat)(i:Nat)(r:D):Prop :=
 (r.comps[T.off]? =some (.sl T.si (T.inn r))∧Fo T.si (T.inn r)) ∧
   (q≠some i→vals[i * T.so+T.off]? =some (AB v (i+1))∧∃vs,C2 w base T.ei T.si (AB v (i+1)) (T.inn r).length vs∧D6 w M T.si (T.inn r) vs) ∧
   (q=some i→Ag (AB v (i+1))=none) ∧
   ∀(j:Nat) d,j≠T.off→r.comps[j]? =some d→∃u,vals[i * T.so+j]? =some u∧An w M d u
theorem E6.upd{base:Nat}{w w':World}{M M':Nat→Prop}{v:Value}{T:Tb}{rows:List D}{q:Option Nat}{i:Nat}{r:D}{u:Value}{xs':List D}{vals vals':List Value}
 (hsz:∃vs,v= .tuple vs∧vs.size=rows.length+1) (h1:0<T.so∧0<T.si∧Fo T.so rows) (h2:∀i j b,Ag (AB v i)=some b→Ag (AB v j)=some b→i=j)
 (hr:∀(i:Nat) r,rows[i]? =some r→aj base w M v T vals q i r) (hi:rows[i]? =some r)
 (hown':C2 w' base T.eo T.so (AB v 0) rows.length vals') (hoth:∀j',j'≠i * T.so+T.off→vals'[j']? =vals[j']?) (hat:vals'[i * T.so+T.off]? =some u)
 (hu:∃us,C2 w' base T.ei T.si u xs'.length us∧D6 w' M' T.si xs' us) (hfl:Fo T.si xs') (hq:q=none∨q=some i)
 (hblk:∀j b,j≠0→j≠i+1→Ag (AB v j)=some b→w'.heap[b]? =w.heap[b]?) (hap:∀j b,j≠i+1→Ag (AB v j)=some b→Ag u≠some b)
 (hs:Bi M w w') (hM:∀b,b<w.heap.size→M' b→M b):E6 base w' M' (H5 v (i+1) u) T (rows.set i (r.put T.off (.sl T.si xs'))) none:=by
 obtain⟨vs,rfl,hvs⟩:=hsz;have hlt:i<rows.length:=(List.getElem?_eq_some_iff.1 hi).1;have hin:i+1<vs.size:=by omega
 have hvn:=fun j=>Lj (vs:=vs) (i:=i+1) (j:=j) (u:=u) hin;have hfr:=h1.2.2 r (List.mem_of_getElem? hi);have hoff:T.off<r.comps.length:=(List.getElem?_eq_some_iff.1 (hr i r hi).1.1).1;have hpc:(r.put T.off (.sl T.si xs')).comps=r.comps.set T.off (.sl T.si xs'):=D.put_comps rfl hoff;have hin':T.inn (r.put T.off (.sl T.si xs'))=xs':=Tb.inn_of (z:=T.si) (by rw[hpc,List.getElem?_set_self hoff]);refine⟨⟨vs.setIfInBounds (i+1) u,rfl,by simp[hvs]⟩,⟨h1.1,h1.2.1,fun x hx=>?_⟩,fun a b c ha hb=>?_,vals',?_,fun i' r' hi'=>?_⟩
 ·rcases List.mem_or_eq_of_mem_set hx with h|h
  ·exact h1.2.2 x h
  ·subst h;rw[hpc];refine⟨by rw[List.length_set];exact hfr.1,fun d hd=>?_⟩;rcases List.mem_or_eq_of_mem_set hd with h|h
   ·exact hfr.2 d h
   ·subst h;rfl
 ·rw[hvn]at ha hb;split at ha
  ·split at hb
   ·omega
   ·rename_i e1 e2;exact absurd ha (hap b c e2 hb)
  ·split at hb
   ·rename_i e1 e2;exact absurd hb (hap a c e1 ha)
   ·exact h2 a b c ha hb
 ·rw[hvn,if_neg (by omega),List.length_set];exact hown'
 ·by_cases e:i'=i
  ·subst e;rw[List.getElem?_set_self hlt]at hi';cases hi';obtain⟨a1,a2,a3,a4⟩:=hr i' r hi;refine⟨⟨by rw[hpc,hin',List.getElem?_set_self hoff],by rw[hin'];exact hfl⟩,fun _=>?_,fun h=>by simp at h,fun j d hj hd=>?_⟩
   ·rw[hvn,if_pos rfl,hin'];exact⟨hat,hu⟩
   ·rw[hpc,List.getElem?_set_ne (fun h=>hj h.symm)]at hd;obtain⟨x,hx,hrx⟩:=a4 j d hj hd;have hjl:=(List.getElem?_eq_some_iff.1 hd).1;exact⟨x,by rw[hoth _ (by omega)];exact hx,hrx.mono hs hM⟩
  ·rw[List.getElem?_set_ne (fun h=>e h.symm)]at hi';obtain⟨a1,a2,a3,a4⟩:=hr i' r' hi';have hfr':=h1.2.2 r' (List.mem_of_getElem? hi');have hq':q≠some i':=by rcases hq with h|h<;>rw[h]<;>simp;omega
   refine⟨a1,fun _=>?_,fun h=>by simp at h,fun j d hj hd=>?_⟩
   ·obtain⟨b1,us,b2,b3⟩:=a2 hq';rw[hvn,if_neg (by omega)];refine⟨?_,us,b2.keep (fun b hb=>hblk (i'+1) b (by omega) (by omega) hb),b3.mono hs hM⟩;rw[hoth _ (fun h=>e (M8 (by omega) (by omega) h).1)];exact b1
   ·obtain⟨x,hx,hrx⟩:=a4 j d hj hd;have hjl:=(List.getElem?_eq_some_iff.1 hd).1;exact⟨x,by rw[hoth _ (fun h=>e (M8 (by omega) (by omega) h).1)];exact hx,hrx.mono hs hM⟩
theorem E6.updc{base:Nat}{w w':World}{M M':Nat→Prop}{v:Value}{T:Tb}{rows:List D}{q:Option Nat}{i off:Nat}{r d:D}{u:Value}{vals vals':List Value}
 (hsz:∃vs,v= .tuple vs∧vs.size=rows.length+1) (h1:0<T.so∧0<T.si∧Fo T.so rows) (h2:∀i j b,Ag (AB v i)=some b→Ag (AB v j)=some b→i=j)
 (hr:∀(i:Nat) r,rows[i]? =some r→aj base w M v T vals q i r) (hi:rows[i]? =some r) (ho:off≠T.off) (hol:off<T.so) (hdc:d.cell=true) (hd:An w' M' d u)
 (hown':C2 w' base T.eo T.so (AB v 0) rows.length vals') (hoth:∀j',j'≠i * T.so+off→vals'[j']? =vals[j']?) (hat:vals'[i * T.so+off]? =some u)
 (hblk:∀j b,j≠0→Ag (AB v j)=some b→w'.heap[b]? =w.heap[b]?)
 (hs:Bi M w w') (hM:∀b,b<w.heap.size→M' b→M b):E6 base w' M' v T (rows.set i (r.put off d)) q:=by
 obtain⟨vs,rfl,hvs⟩:=hsz;have hlt:i<rows.length:=(List.getElem?_eq_some_iff.1 hi).1;have hfr:=h1.2.2 r (List.mem_of_getElem? hi);have hoff:T.off<r.comps.length:=(List.getElem?_eq_some_iff.1 (hr i r hi).1.1).1;have hpc:(r.put off d).comps=r.comps.set off d:=D.put_comps hdc (by omega);have hin':T.inn (r.put off d)=T.inn r:=by unfold Tb.inn;rw[hpc,List.getElem?_set_ne ho]
 refine⟨⟨vs,rfl,by simp[hvs]⟩,⟨h1.1,h1.2.1,fun x hx=>?_⟩,h2,vals',by rw[List.length_set];exact hown',fun i' r' hi'=>?_⟩
 ·rcases List.mem_or_eq_of_mem_set hx with h|h
  ·exact h1.2.2 x h
  ·subst h;rw[hpc];refine⟨by rw[List.length_set];exact hfr.1,fun d' hd=>?_⟩;rcases List.mem_or_eq_of_mem_set hd with h|h
   ·exact hfr.2 d' h
   ·subst h;exact hdc
 ·by_cases e:i'=i
  ·subst e;rw[List.getElem?_set_self hlt]at hi';cases hi';obtain⟨a1,a2,a3,a4⟩:=hr i' r hi;refine⟨⟨by rw[hpc,hin',List.getElem?_set_ne ho];exact a1.1,by rw[hin'];exact a1.2⟩,fun hq=>?_,a3,fun j d' hj hd'=>?_⟩
   ·obtain⟨b1,us,b2,b3⟩:=a2 hq;rw[hin'];exact⟨by rw[hoth _ (by omega)];exact b1,us,b2.keep (fun b hb=>hblk _ b (by omega) hb),b3.mono hs hM⟩
   ·rw[hpc,List.getElem?_set]at hd';split at hd'
    ·rename_i e;subst e;rw[if_pos (by omega)]at hd';cases hd';exact⟨u,hat,hd⟩
    ·rename_i e;obtain⟨x,hx,hrx⟩:=a4 j d' hj hd';exact⟨x,by rw[hoth _ (by omega)];exact hx,hrx.mono hs hM⟩
  ·rw[List.getElem?_set_ne (fun h=>e h.symm)]at hi';obtain⟨a1,a2,a3,a4⟩:=hr i' r' hi';have hfr':=h1.2.2 r' (List.mem_of_getElem? hi');refine⟨a1,fun hq=>?_,a3,fun j d' hj hd'=>?_⟩
   ·obtain⟨b1,us,b2,b3⟩:=a2 hq;refine⟨?_,us,b2.keep (fun b hb=>hblk (i'+1) b (by omega) hb),b3.mono hs hM⟩;rw[hoth _ (fun h=>e (M8 (by omega) (by omega) h).1)];exact b1
   ·obtain⟨x,hx,hrx⟩:=a4 j d' hj hd';have hjl:=(List.getElem?_eq_some_iff.1 hd').1;exact⟨x,by rw[hoth _ (fun h=>e (M8 (by omega) (by omega) h).1)];exact hx,hrx.mono hs hM⟩
end Go.Eng
namespace Go.Eng
open Go.RowKit
def XT(H:Nat→Option HO)(n:Nat)(k m i sz off:Nat)(x:AV):Option (List (Nat×Option HO)×List Nat) :=
 match H k with
 |some (.tab T rows q)=>if m=rows.length∧T.so=sz∧n=1 then
   if off=T.off then
    match x with
    |.own r l=>match H r with
     |some (.row e z xs)=>if e=T.ei∧z=T.si∧l=xs.length∧T.ilen rows i<l∧r≠k∧(q=none∨q=some i)then
       some ([(r,none),(k,some (.tab T (rows.set i ((rows.getD i .nils).put T.off (.sl T.si xs))) none))],[k,r])
      else none
     |_=>none
    |_=>none
   else match Cz H x with
    |some (d,ks)=>if d.cell=true∧k∉ks then some (ks.map (fun q=>(q,none))++[(k,some (.tab T (rows.set i ((rows.getD i .nils).put off d)) q))],k::ks)else none
    |none=>none
  else none
 |_=>none
def XS(H:Nat→Option HO)(n:Nat)(k i m j sz off:Nat)(x:AV):Option (List (Nat×Option HO)×List Nat) :=
 match H k with
 |some (.tab T rows none)=>if m=T.ilen rows i∧T.si=sz then
   match (T.inn (rows.getD i .nils))[j]?,Cz H x with
   |some y,some (d,ks)=>if(AV.d d).sto∧d.comps.length=n∧off+n≤y.comps.length∧k∉ks then
     match y.rebuild (Aj y.comps off d.comps)with
     |some y'=>some (ks.map (fun q=>(q,none))++[(k,some (.tab T (rows.set i ((rows.getD i .nils).put T.off (.sl T.si ((T.inn (rows.getD i .nils)).set j y')))) none))],k::ks)
     |none=>none
    else none
   |_,_=>none
  else none
 |_=>none
def Dz(P:Program)(H:Nat→Option HO)(t:TypeId)(a x:AV):Option (List (Nat×Option HO)×List Nat) :=
 match BV P t with
 |none=>none
 |some n=>match a with
  |.toref k m i sz off=>XT H n k m i sz off x
  |.tref k i m j sz off=>XS H n k i m j sz off x
  |_=>none
section
variable {P:Program} {X:DT} {hp:Aa} {ν:Nat→Value} {used:Nat→Prop} {w:World} {key:Nat}
theorem C2.split{w:World}{base:Nat}{e:TypeId}{sz n c g:Nat}{vals:List Value}(h:C2 w base e sz (.slice (some ⟨g,0,none⟩) n c) n vals):∃cur,w.heap[g]? =some (.cells cur e (0,0))∧n * sz≤cur.size∧base≤g:=by
 rcases h.2 with⟨h2,_⟩|⟨g',cap,cur,h2,hb,hh,hn,hm,hs,ht⟩
 ·cases h2
 ·cases h2;exact⟨cur,hh,Nat.le_trans (Nat.mul_le_mul_right _ hn) hs,hb⟩
theorem HJ{α:Type}(l:List α)(o:Nat)(u:α)(h:o<l.length)(j:Nat):(Aj l o [u])[j]? =if j=o then some u else l[j]? :=by
 rw[AW _ _ _ (by simp;omega)];by_cases e:j=o
 ·subst e;simp
 ·rw[if_neg e,if_neg (by simp;omega)]
theorem KZ{T:Tb}{rows:List D}{q:Option Nat}{i:Nat}{r':D}(hi:i<rows.length)(hl:T.ilen rows i≤(T.inn r').length):(HO.tab T rows q).later (.tab T (rows.set i r') q):=by
 refine⟨rfl,by simp,fun j hj=>⟨?_,fun h=>.inl h⟩⟩;rw[Tb.ilen_set hi];split
 ·rename_i e;subst e;exact hl
 ·exact Nat.le_refl _
theorem VJ(hI:At X (lk hp) ν used w)(hk:¬used key){t n:Nat}(hn:BV P t=some n){k i m j sz off:Nat}{x:AV}{va vx:Value}{es:List (Nat×Option HO)}{acc:List Nat}
 (ha:A5 w (Am X.M0 (lk hp) ν) (lk hp) ν used (.tref k i m j sz off) va) (hx:A5 w (Am X.M0 (lk hp) ν) (lk hp) ν used x vx) (he:XS (lk hp) n k i m j sz off x=some (es,acc)) :
 ∃w',(Instr.storeAt t va vx).run P w= .ok () w'∧C7 X hp ν used w key (BO hp es) .undef undef w':=by
 unfold XS at he;split at he
 ·rename_i T rows ho;split at he
  ·rename_i hm;obtain⟨hm,hsi⟩:=hm;subst hsi;split at he
   ·rename_i y d ks hy hd;split at he
    ·rename_i hc;obtain⟨hs,hl,hle,hnk⟩:=hc;split at he
     ·rename_i y' hy';simp only[Option.some.injEq,Prod.mk.injEq]at he;obtain⟨rfl,rfl⟩:=he;rw[EO];simp only[BO];obtain⟨hI1,x1⟩:=hI.drops ks;have ho1:lk (Bq hp ks) k=some (.tab T rows none):=by rw[D1 _ _ _ hnk];exact ho
      have hdr:=DJ hI hx hd;cases ha with
      |tref hu hj hoff h =>
       obtain⟨_,_,_,he,hlt,_,hv⟩:=h _ ho;cases he;obtain⟨g,c,hν,rfl⟩:=hv (by simp) hm;obtain⟨hsz,h1,h2,vals,hown,hr⟩:=hI1.obj _ _ ho1;have hri:=List.getElem?_eq_getElem hlt;obtain⟨a1,a2,a3,a4⟩:=hr i _ hri;obtain⟨b1,us,b2,b3⟩:=a2 (by simp);have hil:=Tb.ilen_at (T:=T) hri;have hgd:rows.getD i .nils=rows[i]:=by simp[List.getD_eq_getElem?_getD,hri]
       rw[hgd]at hy ⊢;have b20:=b2;rw[hν,← hil,← hm]at b2;obtain⟨cur,hg,hcs,hbg⟩:=b2.split;obtain⟨c1,c2,c3⟩:=CH hdr hs;have hl2:vx.cells.toList.length=n:=by omega
       have hl3:vx.cells.size=n:=by simpa using hl2
       have hone:∀u∈vx.cells.toList,u.oneCell'=true:=fun u hu=>by
        obtain⟨q,hq⟩:=List.mem_iff_getElem?.1 hu;have hil:=(List.getElem?_eq_some_iff.1 hq).1;have hd:=List.getElem?_eq_getElem (l:=d.comps) (i:=q) (by omega);exact(c3 q _ u hd hq).oneCell (c2 _ (List.getElem_mem _))
       have hfy:=a1.2 y (List.mem_of_getElem? hy);have hjm:j<(T.inn rows[i]).length:=(List.getElem?_eq_some_iff.1 hy).1;have hrange:j * T.si+off+n≤m * T.si:=by
        have:(j+1) * T.si≤m * T.si:=Nat.mul_le_mul_right _ hj;rw[Nat.add_mul]at this;omega
       refine⟨_,FB hn hg hl3 (by omega) hone,?_⟩;obtain⟨vs,hvs,hvsz⟩:=hsz;have hb:AL (ν k) g:=AY hvs (i:=i+1) (by rw[hν];rfl);have hsc:∀q∈Aj y.comps off d.comps,q.cell=true:=fun q hq=>by
        unfold Aj at hq;simp at hq;rcases hq with h|h|h
        ·exact hfy.2 q (List.mem_of_mem_take h)
        ·exact c2 q h
        ·exact hfy.2 q (List.mem_of_mem_drop h)
       have hyc:=Jg hy' hsc;have hsl:(Aj y.comps off d.comps).length=T.si:=by rw[AX _ _ _ (by omega)];exact hfy.1
       have hoff':T.off<(rows[i]).comps.length:=(List.getElem?_eq_some_iff.1 a1.1).1;have hinn:T.inn ((rows[i]).put T.off (.sl T.si ((T.inn rows[i]).set j y')))=(T.inn rows[i]).set j y':=Tb.inn_of (z:=T.si) (by rw[D.put_comps rfl hoff',List.getElem?_set_self hoff']);obtain⟨g1,g2⟩:=hI1.write (o':=.tab T (rows.set i ((rows[i]).put T.off (.sl T.si ((T.inn rows[i]).set j y')))) none) ho1 hb (Aj cur.toList (j * T.si+off) vx.cells.toList).toArray
        (KZ hlt (by rw[hinn,List.length_set,hil];exact Nat.le_refl _))
        (fun M' H' hx'=>by
          have hg':=setRow_heap _ _ _ (Aj cur.toList (j * T.si+off) vx.cells.toList).toArray _ _ hg;have hfar:∀j' b,j'≠i+1→Ag (AB (ν k) j')=some b→b≠g:=fun j' b hj' hb' e=>by
           subst e;exact hj' (h2 j' (i+1) b hb' (by rw[hν];rfl))
          have:=E6.upd (u:=AB (ν k) (i+1)) (w':=w.setRow g (Aj cur.toList (j * T.si+off) vx.cells.toList).toArray) (M':=M') (xs':=(T.inn rows[i]).set j y') (q:=none) (vals':=vals) ⟨vs,hvs,hvsz⟩ h1 h2 hr hri
           (hown.keep (fun b hb'=>setRow_other _ _ _ _ (hfar 0 b (by omega) hb'))) (fun _ _=>rfl) b1
           ⟨Aj us (j * T.si+off) vx.cells.toList,by rw[hν,List.length_set,← hil,← hm];exact Ex b2 (by omega) hg hg',fun i' x j' dd hx2 hdd=>by
            have hul:=b2.1;rw[AW _ _ _ (by omega)];have hjl:=(List.getElem?_eq_some_iff.1 hdd).1;by_cases hii:i'=j
            ·subst hii;rw[List.getElem?_set_self hjm]at hx2;cases hx2;rw[hyc]at hdd hjl;rw[AW _ _ _ (by omega)]at hdd;split at hdd
             ·rename_i hj;rw[if_pos (by omega)];have hu:=List.getElem?_eq_getElem (l:=vx.cells.toList) (i:=j'-off) (by omega);refine⟨_,?_,(c3 _ _ _ hdd hu).mono hx'.same hx'.shrink⟩;rw[← hu];congr 1;omega
             ·rename_i hj;rw[if_neg (by omega)];obtain⟨u,hu,hru⟩:=b3 _ y j' dd hy hdd;exact⟨u,hu,hru.mono hx'.same hx'.shrink⟩
            ·rw[List.getElem?_set_ne (fun h=>hii h.symm)]at hx2;have hjl':j'<T.si:=by rw[(a1.2 x (List.mem_of_getElem? hx2)).1]at hjl;exact hjl
             obtain⟨u,hu,hru⟩:=b3 _ x j' dd hx2 hdd;rw[if_neg ?_]
             ·exact⟨u,hu,hru.mono hx'.same hx'.shrink⟩
             ·intro hh;rcases Nat.lt_or_gt_of_ne hii with h|h
              ·have:(i'+1) * T.si≤j * T.si:=Nat.mul_le_mul_right _ h;rw[Nat.add_mul]at this;omega
              ·have:(j+1) * T.si≤i' * T.si:=Nat.mul_le_mul_right _ h;rw[Nat.add_mul]at this;omega⟩
           (fun x hx2=>by
             rcases List.mem_or_eq_of_mem_set hx2 with h|h
             ·exact a1.2 x h
             ·subst h;rw[hyc];exact⟨hsl,hsc⟩) (.inl rfl)
           (fun j' b _ hj' hb'=>setRow_other _ _ _ _ (hfar j' b hj' hb'))
           (fun j' b hj' hb' hh=>hj' (h2 j' (i+1) b hb' hh)) hx'.same hx'.shrink
          show E6 _ _ _ (ν k) _ _ _;rw[hvs]at this ⊢;rw[P9]at this;exact this)
       obtain⟨m1,m2⟩:=g1.more hk;exact⟨ν,m1,(x1.trans g2).trans m2,.undef _⟩
     ·cases he
    ·cases he
   ·cases he
  ·cases he
 ·cases he
theorem Iv{v:Value}{a:Option Addr}{n c b:Nat}(h:v= .slice a n c):AL v b↔Ag v=some b:=by subst h;exact Iff.rfl
theorem VM(hI:At X (lk hp) ν used w)(hk:¬used key){t n:Nat}(hn:BV P t=some n){k m i sz off:Nat}{x:AV}{va vx:Value}{es:List (Nat×Option HO)}{acc:List Nat}
 (ha:A5 w (Am X.M0 (lk hp) ν) (lk hp) ν used (.toref k m i sz off) va) (hx:A5 w (Am X.M0 (lk hp) ν) (lk hp) ν used x vx) (he:XT (lk hp) n k m i sz off x=some (es,acc)) :
 ∃w',(Instr.storeAt t va vx).run P w= .ok () w'∧C7 X hp ν used w key (BO hp es) .undef undef w':=by
 unfold XT at he;split at he
 ·rename_i T rows q ho;split at he
  ·rename_i hm;obtain⟨hm,hso,rfl⟩:=hm;subst hso;cases ha with
   |toref hu hi hoff h =>
    obtain⟨_,_,_,he',_,hv⟩:=h _ ho;cases he';obtain⟨g,c,hν,rfl⟩:=hv hm;have hlt:i<rows.length:=by omega
    have hri:=List.getElem?_eq_getElem hlt;have hgd:rows.getD i .nils=rows[i]:=by simp[List.getD_eq_getElem?_getD,hri]
    rw[hgd]at he;split at he
    ·rename_i hoT;subst hoT;split at he
     ·rename_i r l;split at he
      ·rename_i e z xs hor;split at he
       ·rename_i hc;obtain⟨rfl,rfl,rfl,hilt,hrk,hq⟩:=hc;simp only[Option.some.injEq,Prod.mk.injEq]at he;obtain⟨rfl,rfl⟩:=he;simp only[BO];obtain⟨hsz,h1,h2,vals,hown,hr⟩:=hI.obj _ _ ho;obtain⟨us,hu1,hu2,hu3,hu4⟩:=hI.obj _ _ hor;cases hx with
        |own hur hvx hcx hax hx =>
         obtain⟨_,_,_,he',_,hvr⟩:=hx _ hor;cases he';have hvr:=hvr rfl;have hsl:=hvx;rw[hvr]at hsl;subst hvr;rw[hν,hm]at hown;obtain⟨cur,hg,hcs,hbg⟩:=hown.split;obtain⟨a1,a2,a3,a4⟩:=hr i _ hri;have hil:=Tb.ilen_at (T:=T) hri;have hcells:(ν r).cells.toList=[ν r]:=by rw[hsl];rfl
         have hvl:vals.length=rows.length * T.so:=hown.1;have hidx:i * T.so+T.off<rows.length * T.so:=T9 hlt hoff;refine⟨_,FB hn hg (by rw[hsl];rfl) (by omega) (fun u hu=>by rw[hcells]at hu;simp at hu;subst hu;rw[hsl];rfl),?_⟩;rw[hcells];obtain⟨vs,hvs,hvsz⟩:=hsz;have hin:i+1<vs.size:=by omega
         have hvn:∀j,AB (H5 (ν k) (i+1) (ν r)) j=if j=i+1 then ν r else AB (ν k) j:=fun j=>by rw[hvs];exact Lj hin
         have hgb:AL (ν k) g:=AY hvs (i:=0) (by rw[hν];rfl);have hrb:∀b,AL (ν r) b↔Ag (ν r)=some b:=fun b=>Iv hsl;have hoff':T.off<(rows[i]).comps.length:=(List.getElem?_eq_some_iff.1 a1.1).1;have hinn:T.inn ((rows[i]).put T.off (.sl T.si xs))=xs:=Tb.inn_of (z:=T.si) (by rw[D.put_comps rfl hoff',List.getElem?_set_self hoff']);have hnb:∀b,AL (H5 (ν k) (i+1) (ν r)) b→AL (ν k) b∨AL (ν r) b:=fun b hb=>by
          have ED:H5 (ν k) (i+1) (ν r)= .tuple (vs.setIfInBounds (i+1) (ν r)):=by rw[hvs];rfl
          rw[ED]at hb;obtain⟨j,hj⟩:=Ib.1 hb;rw[← ED,hvn]at hj;split at hj
          ·exact .inr ((hrb b).2 hj)
          ·exact .inl (AY hvs hj)
         generalize ho':HO.tab T (rows.set i ((rows[i]).put T.off (.sl T.si xs))) none=o';generalize hw':w.setRow g (Aj cur.toList (i * T.so+T.off) [ν r]).toArray=w';have hg':w'.heap[g]? =some (.cells (Aj cur.toList (i * T.so+T.off) [ν r]).toArray T.eo (0,0)):=by rw[← hw'];exact setRow_heap _ _ _ _ _ _ hg
         have hothr:∀b,b≠g→w'.heap[b]? =w.heap[b]? :=fun b hb=>by rw[← hw'];exact setRow_other _ _ _ _ (fun h=>hb (by simpa using h))
         have hsize:w'.heap.size=w.heap.size:=by rw[← hw'];simp
         let C:Nat→Prop:=fun j=>j=k∨j=r
         have hlk:∀j,lk (put (DM hp r) k o') j=if j=k then some o' else if j=r then none else lk hp j:=fun j=>by
          by_cases e:j=k
          ·subst e;rw[Ab,if_pos rfl]
          ·rw[A9 _ _ _ _ e,if_neg e];by_cases e':j=r
           ·subst e';rw[B3,if_pos rfl]
           ·rw[Bc _ _ _ e',if_neg e']
         have hsame:∀j o,¬C j→lk (put (DM hp r) k o') j=some o→lk hp j=some o:=fun j o hC h=>by
          rw[hlk,if_neg (fun e=>hC (.inl e)),if_neg (fun e=>hC (.inr e))]at h;exact h
         have hνC:∀j,¬C j→upd ν k (H5 (ν k) (i+1) (ν r)) j=ν j:=fun j hC=>Al _ _ _ _ (fun e=>hC (.inl e));have hbel:Bl X.base w w':=by
          rw[← hw'];exact⟨⟨rfl,rfl,rfl,by simp,fun q hq=>setRow_other _ _ _ _ (by omega)⟩,Nat.le_refl _⟩
         have hx:CT (Am X.M0 (lk hp) ν) (lk hp) ν used w (Am X.M0 (lk (put (DM hp r) k o')) (upd ν k (H5 (ν k) (i+1) (ν r)))) (lk (put (DM hp r) k o')) (upd ν k (H5 (ν k) (i+1) (ν r))) used w':=by
          refine CT.bulk C hsame hνC (by omega) (fun b _ hb=>hothr b (fun e=>hb (e▸⟨k,_,ho,hgb⟩))) (fun _ h=>h) (fun j o b hC hj hb _=>?_) (fun j o2 hC hju hj=>?_)
          ·rw[hlk]at hj;split at hj
           ·rename_i e;subst e;rw[Ac]at hb;rcases hnb b hb with h|h
            ·exact⟨_,_,ho,h⟩
            ·exact⟨_,_,hor,h⟩
           ·rcases hC with e|e
            ·exact absurd e (by assumption)
            ·subst e;simp at hj
          ·rw[hlk]at hj;split at hj
           ·rename_i e;subst e;cases hj;refine⟨_,ho,?_,?_⟩
            ·rw[← ho'];refine⟨rfl,by simp,fun j hj=>?_⟩;rw[Tb.ilen_set hlt];split
             ·rename_i e;subst e;rw[hinn];exact⟨by omega,fun _=>.inr hilt⟩
             ·rename_i e;exact⟨Nat.le_refl _,fun hh=>by rcases hq with h|h<;>rw[h]at hh<;>simp at hh;omega⟩
            ·rw[← ho',Ac];refine⟨fun _=>by rw[hvn,if_neg (by omega)],fun j hj hjl _=>?_⟩;rw[hvn,if_neg (fun e=>?_)];have e:j=i:=by omega
             subst e;rw[Tb.ilen_set hlt,if_pos rfl,hinn]at hjl;omega
           ·rcases hC with e|e
            ·exact absurd e (by assumption)
            ·subst e;simp at hj
         have hI':At X (lk (put (DM hp r) k o')) (upd ν k (H5 (ν k) (i+1) (ν r))) used w':=by
          refine hI.bulk C hsame hνC hbel hx (fun j o hC _=>?_) (fun j o b hC hj hb=>?_) (fun j o b hC hj hb=>?_) (fun j o hC hj=>?_)
          ·rcases hC with e|e
           ·exact e▸hu
           ·exact e▸hur
          ·rw[hlk]at hj;split at hj
           ·rename_i e;subst e;rw[Ac]at hb;have main:X.base≤b∧b<w.heap.size∧¬X.M0 b∧∀j' o2,lk hp j'=some o2→AL (ν j') b→j'=j∨j'=r:=by
             rcases hnb b hb with h|h
             ·exact⟨(hI.blk _ _ _ ho h).1,(hI.blk _ _ _ ho h).2,hI.far _ _ _ ho h,fun j' o2 h1 h2=>.inl (hI.inj _ _ _ _ _ h1 ho h2 h)⟩
             ·exact⟨(hI.blk _ _ _ hor h).1,(hI.blk _ _ _ hor h).2,hI.far _ _ _ hor h,fun j' o2 h1 h2=>.inr (hI.inj _ _ _ _ _ h1 hor h2 h)⟩
            refine⟨main.1,by rw[hsize];exact main.2.1,main.2.2.1,fun j' o2 h1 h2=>?_⟩;by_cases e:j'=j
            ·exact e
            ·rw[hlk,if_neg e]at h1;rw[Al _ _ _ _ e]at h2;split at h1
             ·cases h1
             ·rcases main.2.2.2 j' o2 h1 h2 with h|h
              ·exact h
              ·exact absurd h (by assumption)
           ·rcases hC with e|e
            ·exact absurd e (by assumption)
            ·subst e;simp at hj
          ·have:=hsame j o hC hj;exact hothr b (fun e=>hC (.inl (hI.inj _ _ _ _ _ this ho hb (e▸hgb))))
          ·rw[hlk]at hj;split at hj
           ·rename_i e;subst e;cases hj;subst ho';rw[Ac];have hug:∀b,Ag (ν r)=some b→b≠g:=fun b hb e=>by
             subst e;exact hrk (hI.inj _ _ _ _ _ hor ho ((hrb b).2 hb) hgb)
            refine E6.upd (xs':=xs) (q:=q) (vals':=Aj vals (i * T.so+T.off) [ν r]) ⟨vs,hvs,hvsz⟩ h1 h2 hr hri ?_ (fun j' hj'=>?_) ?_ ⟨us,hu1.keep (fun b hb=>hothr b (hug b hb)),hu4.mono hx.same hx.shrink⟩ hu3 hq (fun j' b h0 _ hb=>?_) (fun j' b _ hb hh=>?_) hx.same hx.shrink
            ·rw[hν,hm];exact Ex hown (by simp;omega) hg hg'
            ·rw[HJ _ _ _ (by omega),if_neg hj']
            ·rw[HJ _ _ _ (by omega),if_pos rfl]
            ·exact hothr b (fun e=>by subst e;exact h0 (h2 j' 0 b hb (by rw[hν];rfl)))
            ·exact hrk (hI.inj _ _ _ _ _ hor ho ((hrb b).2 hh) (AY hvs hb))
           ·rcases hC with e|e
            ·exact absurd e (by assumption)
            ·subst e;simp at hj
         obtain⟨m1,m2⟩:=hI'.more hk;exact⟨_,m1,hx.trans m2,.undef _⟩
       ·cases he
      ·cases he
     ·cases he
    ·rename_i hoT;split at he
     ·rename_i d ks hd;split at he
      ·rename_i hc;obtain⟨hdc,hnk⟩:=hc;simp only[Option.some.injEq,Prod.mk.injEq]at he;obtain⟨rfl,rfl⟩:=he;rw[EO];simp only[BO];obtain⟨hI1,x1⟩:=hI.drops ks;have ho1:lk (Bq hp ks) k=some (.tab T rows q):=by rw[D1 _ _ _ hnk];exact ho
       have hdr:=DJ hI hx hd;obtain⟨hsz,h1,h2,vals,hown,hr⟩:=hI1.obj _ _ ho1;rw[hν,hm]at hown;obtain⟨cur,hg,hcs,hbg⟩:=hown.split;have hcells:vx.cells.toList=[vx]:=Or (hdr.oneCell hdc);have hidx:i * T.so+off<rows.length * T.so:=T9 hlt hoff;have hvl:vals.length=rows.length * T.so:=hown.1;have hone:=hdr.oneCell hdc;refine⟨_,FB hn hg (by simpa using congrArg List.length hcells) (by omega) (fun u hu=>by rw[hcells]at hu;simp at hu;subst hu;exact hone),?_⟩;rw[hcells];obtain⟨vs,hvs,hvsz⟩:=hsz;have hgb:AL (ν k) g:=AY hvs (i:=0) (by rw[hν];rfl);have hil:=Tb.ilen_at (T:=T) hri;obtain⟨a1,a2,a3,a4⟩:=hr i _ hri;have hfr:=h1.2.2 _ (List.mem_of_getElem? hri);have hinn:T.inn ((rows[i]).put off d)=T.inn rows[i]:=by unfold Tb.inn;rw[D.put_comps hdc (by omega),List.getElem?_set_ne hoT]
       obtain⟨g1,g2⟩:=hI1.write (o':=.tab T (rows.set i ((rows[i]).put off d)) q) ho1 hgb (Aj cur.toList (i * T.so+off) [vx]).toArray
        (KZ hlt (by rw[hinn,hil];exact Nat.le_refl _))
        (fun M' H' hx'=>by
          have hg':=setRow_heap _ _ _ (Aj cur.toList (i * T.so+off) [vx]).toArray _ _ hg;refine E6.updc (u:=vx) (vals':=Aj vals (i * T.so+off) [vx]) ⟨vs,hvs,hvsz⟩ h1 h2 hr hri hoT hoff hdc (hdr.mono hx'.same hx'.shrink) ?_ (fun j' hj'=>?_) ?_ (fun j' b h0 hb=>?_) hx'.same hx'.shrink
          ·rw[hν,hm];exact Ex hown (by simp;omega) hg hg'
          ·rw[HJ _ _ _ (by omega),if_neg hj']
          ·rw[HJ _ _ _ (by omega),if_pos rfl]
          ·exact setRow_other _ _ _ _ (fun e=>by subst e;exact h0 (h2 j' 0 _ hb (by rw[hν];rfl))))
       obtain⟨m1,m2⟩:=g1.more hk;exact⟨ν,m1,(x1.trans g2).trans m2,.undef _⟩
      ·cases he
     ·cases he
  ·cases he
 ·cases he
theorem I6(hI:At X (lk hp) ν used w)(hk:¬used key){t:Nat}{a x:AV}{va vx:Value}{es:List (Nat×Option HO)}{acc:List Nat}
 (ha:A5 w (Am X.M0 (lk hp) ν) (lk hp) ν used a va) (hx:A5 w (Am X.M0 (lk hp) ν) (lk hp) ν used x vx) (he:Dz P (lk hp) t a x=some (es,acc)) :
 ∃w',(Instr.storeAt t va vx).run P w= .ok () w'∧C7 X hp ν used w key (BO hp es) .undef undef w':=by
 unfold Dz at he;split at he
 ·cases he
 ·rename_i n hn;split at he
  ·exact VM hI hk hn ha hx he
  ·exact VJ hI hk hn ha hx he
  ·cases he
end
end Go.Eng
namespace Go.Eng
open Go.RowKit
section
variable {P:Program} {X:DT} {hp:Aa} {ν:Nat→Value} {used:Nat→Prop} {w:World} {key:Nat}
theorem At.takeout(hI:At X (lk hp) ν used w)(hk:¬used key){k i:Nat}{T:Tb}{rows:List D}(ho:lk hp k=some (.tab T rows none)){r:D}(hri:rows[i]? =some r) :
 At X (lk (put (put hp k (.tab T rows (some i))) key (.row T.ei T.si (T.inn r)))) (upd (upd ν k (H5 (ν k) (i+1) (.slice none 0 0))) key (AB (ν k) (i+1))) (fun q=>used q∨q=key) w ∧
 CT (Am X.M0 (lk hp) ν) (lk hp) ν used w (Am X.M0 (lk (put (put hp k (.tab T rows (some i))) key (.row T.ei T.si (T.inn r)))) (upd (upd ν k (H5 (ν k) (i+1) (.slice none 0 0))) key (AB (ν k) (i+1))))
  (lk (put (put hp k (.tab T rows (some i))) key (.row T.ei T.si (T.inn r)))) (upd (upd ν k (H5 (ν k) (i+1) (.slice none 0 0))) key (AB (ν k) (i+1))) (fun q=>used q∨q=key) w:=by
 have hlt:i<rows.length:=(List.getElem?_eq_some_iff.1 hri).1;have hku:used k:=hI.usd _ _ ho;have hkk:k≠key:=fun e=>hk (e▸hku);obtain⟨⟨vs,hvs,hvsz⟩,h1,h2,vals,hown,hr⟩:=hI.obj _ _ ho;obtain⟨a1,a2,a3,a4⟩:=hr i _ hri;obtain⟨b1,us,b2,b3⟩:=a2 (by simp);have hin:i+1<vs.size:=by omega
 have hvn:∀j,AB (H5 (ν k) (i+1) (.slice none 0 0)) j=if j=i+1 then .slice none 0 0 else AB (ν k) j:=fun j=>by rw[hvs];exact Lj hin
 have ED:H5 (ν k) (i+1) (.slice none 0 0)= .tuple (vs.setIfInBounds (i+1) (.slice none 0 0)):=by rw[hvs];rfl
 have hnb:∀b,AL (H5 (ν k) (i+1) (.slice none 0 0)) b→∃j,j≠i+1∧Ag (AB (ν k) j)=some b:=fun b hb=>by
  rw[ED]at hb;obtain⟨j,hj⟩:=Ib.1 hb;rw[← ED,hvn]at hj;split at hj
  ·cases hj
  ·rename_i e;exact⟨j,e,hj⟩
 have hub:∀b,AL (AB (ν k) (i+1)) b↔Ag (AB (ν k) (i+1))=some b:=fun b=>by
  obtain⟨a,c,h,_⟩:=Dq b2;exact Iv h
 generalize hto:HO.tab T rows (some i)=o1;generalize hro:HO.row T.ei T.si (T.inn r)=o2;generalize hv1:H5 (ν k) (i+1) (.slice none 0 0)=v1 at *;generalize hv2:AB (ν k) (i+1)=v2 at *;let C:Nat→Prop:=fun j=>j=k∨j=key
 have hlk:∀j,lk (put (put hp k o1) key o2) j=if j=key then some o2 else if j=k then some o1 else lk hp j:=fun j=>by
  by_cases e:j=key
  ·subst e;rw[Ab,if_pos rfl]
  ·rw[A9 _ _ _ _ e,if_neg e];by_cases e':j=k
   ·subst e';rw[Ab,if_pos rfl]
   ·rw[A9 _ _ _ _ e',if_neg e']
 have hνk:upd (upd ν k v1) key v2 k=v1:=by rw[Al _ _ _ _ hkk,Ac]
 have hνq:upd (upd ν k v1) key v2 key=v2:=Ac _ _ _;have hsame:∀j o,¬C j→lk (put (put hp k o1) key o2) j=some o→lk hp j=some o:=fun j o hC h=>by
  rw[hlk,if_neg (fun e=>hC (.inr e)),if_neg (fun e=>hC (.inl e))]at h;exact h
 have hνC:∀j,¬C j→upd (upd ν k v1) key v2 j=ν j:=fun j hC=>by rw[Al _ _ _ _ (fun e=>hC (.inr e)),Al _ _ _ _ (fun e=>hC (.inl e))]
 have hkb:∀j b,Ag (AB (ν k) j)=some b→AL (ν k) b:=fun j b h=>AY hvs h;have hC:∀j o b,C j→lk (put (put hp k o1) key o2) j=some o→AL (upd (upd ν k v1) key v2 j) b→AL (ν k) b:=fun j o b hC hj hb=>by
  rcases hC with e|e
  ·subst e;rw[hνk]at hb;obtain⟨j,_,h⟩:=hnb b hb;exact hkb j b h
  ·subst e;rw[hνq]at hb;exact hkb (i+1) b (by rw[hv2];exact(hub b).1 hb)
 have hx:CT (Am X.M0 (lk hp) ν) (lk hp) ν used w (Am X.M0 (lk (put (put hp k o1) key o2)) (upd (upd ν k v1) key v2)) (lk (put (put hp k o1) key o2)) (upd (upd ν k v1) key v2) (fun q=>used q∨q=key) w:=by
  refine CT.bulk C hsame hνC (Nat.le_refl _) (fun _ _ _=>rfl) (fun _ h=>.inl h) (fun j o b hC' hj hb _=>⟨k,_,ho,hC j o b hC' hj hb⟩) (fun j o hC' hju hj=>?_);rcases hC' with e|e
  ·subst e;rw[hlk,if_neg hkk,if_pos rfl]at hj;cases hj;rw[hνk,← hto];refine⟨_,ho,⟨rfl,Nat.le_refl _,fun _ _=>⟨Nat.le_refl _,fun h=>by cases h⟩⟩,fun _=>by rw[hvn,if_neg (by omega)],fun j hj _ hq=>?_⟩;rw[hvn,if_neg (fun e=>hq (by congr 1;omega))]
  ·exact absurd (e▸hju) hk
 refine⟨hI.bulk C hsame hνC (Bl.refl _ _) hx (fun j o hC' _=>?_) (fun j o b hC' hj hb=>?_) (fun _ _ _ _ _ _=>rfl) (fun j o hC' hj=>?_),hx⟩
 ·rcases hC' with e|e
  ·exact .inl (e▸hku)
  ·exact .inr e
 ·have h:=hC j o b hC' hj hb;refine⟨(hI.blk _ _ _ ho h).1,(hI.blk _ _ _ ho h).2,hI.far _ _ _ ho h,fun j' o' hj' hb'=>?_⟩;by_cases hC2:C j'
  ·rcases hC' with e|e
   ·rcases hC2 with e'|e'
    ·rw[e,e']
    ·exfalso;subst e;subst e';rw[hνk]at hb;rw[hνq]at hb';obtain⟨j2,hj2,h3⟩:=hnb b hb;exact hj2 (h2 j2 (i+1) b h3 (by rw[hv2];exact(hub b).1 hb'))
   ·rcases hC2 with e'|e'
    ·exfalso;subst e;subst e';rw[hνq]at hb;rw[hνk]at hb';obtain⟨j2,hj2,h3⟩:=hnb b hb';exact hj2 (h2 j2 (i+1) b h3 (by rw[hv2];exact(hub b).1 hb))
    ·rw[e,e']
  ·rw[hνC j' hC2]at hb';exact absurd (.inl (hI.inj _ _ _ _ _ (hsame j' o' hC2 hj') ho hb' h)) hC2
 ·rcases hC' with e|e
  ·subst e;rw[hlk,if_neg hkk,if_pos rfl]at hj;cases hj;rw[hνk];subst hto;show E6 _ _ _ _ _ _ _;refine⟨⟨_,ED,by simp[hvsz]⟩,h1,fun a b c ha hb=>?_,vals,?_,fun i' r' hi'=>?_⟩
   ·rw[hvn]at ha hb;split at ha
    ·cases ha
    ·split at hb
     ·cases hb
     ·exact h2 a b c ha hb
   ·rw[hvn,if_neg (by omega)];exact hown
   ·obtain⟨c1,c2,c3,c4⟩:=hr i' r' hi';refine⟨c1,fun hq=>?_,fun hq=>?_,fun j d hj hd=>?_⟩
    ·obtain⟨d1,ds,d2,d3⟩:=c2 (by simp);rw[hvn,if_neg (fun e=>hq (by congr 1;omega))];exact⟨d1,ds,d2,d3.mono hx.same hx.shrink⟩
    ·cases hq;rw[hvn,if_pos rfl];rfl
    ·obtain⟨u,hu,hru⟩:=c4 j d hj hd;exact⟨u,hu,hru.mono hx.same hx.shrink⟩
  ·subst e;rw[hlk,if_pos rfl]at hj;cases hj;rw[hνq];subst hro;exact⟨us,b2,h1.2.1,a1.2,b3.mono hx.same hx.shrink⟩
def Dp(P:Program)(key:Nat)(H:Nat→Option HO)(t:TypeId)(k i n:Nat)(y:AV):Option (AV×List (Nat×Option HO)×List Nat) :=
 match C3 P t with
 |none=>none
 |some e=>match BV P e,E5 P e with
  |some sz,some b=>if 0<sz∧CS P e=true then
    match Cz H y with
    |some (d,ks)=>match HM sz d with
     |some ys=>match H k with
      |some (.tab T rows none)=>match rows[i]? with
       |some r=>if n=(T.inn r).length∧T.ei=e∧T.si=sz∧k∉ks then
         if JC ((T.inn r).length+ys.length) b then some (.own key (T.inn r++ys).length,ks.map (fun q=>(q,none))++[(k,some (.tab T rows (some i))),(key,some (.row e sz (T.inn r++ys)))],k::ks)else none
        else none
       |none=>none
      |_=>none
     |none=>none
    |none=>none
   else none
  |_,_=>none
theorem At.usedEq{H:Nat→Option HO}{used':Nat→Prop}(hI:At X H ν used w)(h:∀k,used k↔used' k):At X H ν used' w:=by
 have:used=used':=funext fun k=>propext (h k);exact this▸hI
theorem LL(hI:At X (lk hp) ν used w)(hk:¬used key){t ty:TypeId}{k i n:Nat}{y r:AV}{vx vy:Value}{es:List (Nat×Option HO)}{acc:List Nat}
 (hx:A5 w (Am X.M0 (lk hp) ν) (lk hp) ν used (.trow k i n) vx) (hy:A5 w (Am X.M0 (lk hp) ν) (lk hp) ν used y vy) (he:Dp P key (lk hp) t k i n y=some (r,es,acc)) :
 ∃v w',(Builtin.append_ #[t,t] ty #[vx,vy]).run P w= .ok v w'∧C7 X hp ν used w key (BO hp es) r v w':=by
 unfold Dp at he;split at he
 ·cases he
 ·rename_i e hel;split at he
  ·rename_i sz b hsz hb;split at he
   ·rename_i hc;obtain⟨hz,hzo⟩:=hc;split at he
    ·rename_i d ks hd;split at he
     ·rename_i ys hys;obtain⟨hI1,x1⟩:=hI.drops ks;have hdr:=IC (DJ hI hy hd) hys;split at he
      ·rename_i T rows ho;split at he
       ·rename_i rw0 hri;split at he
        ·rename_i hc;obtain⟨rfl,rfl,rfl,hnk⟩:=hc;split at he
         ·rename_i hroom;simp only[Option.some.injEq,Prod.mk.injEq]at he;obtain⟨rfl,rfl,rfl⟩:=he;have ho1:lk (Bq hp ks) k=some (.tab T rows none):=by rw[D1 _ _ _ hnk];exact ho
          cases hx with
          |trow hu hv hcc ha h =>
           obtain⟨_,_,_,he,hlt,_,hvν⟩:=h _ ho;cases he;have hvν:=hvν (by simp) (Tb.ilen_at hri).symm;obtain⟨hI2,x2⟩:=hI1.takeout hk ho1 hri;have hro:lk (put (put (Bq hp ks) k (.tab T rows (some i))) key (.row T.ei T.si (T.inn rw0))) key=some (.row T.ei T.si (T.inn rw0)):=Ab _ _ _;have hνq:upd (upd ν k (H5 (ν k) (i+1) (.slice none 0 0))) key (AB (ν k) (i+1)) key=AB (ν k) (i+1):=Ac _ _ _;obtain⟨vals,hown,_,hf,hrow⟩:=hI2.obj _ _ hro;rw[hvν];have hown':=hown;rw[hνq]at hown';obtain⟨v',w',news,hr,g1,g2,g3,g4,g5,g6⟩:=DF (P:=P) hel hsz hb hz hzo ty hown' (hdr.mono x2.same x2.shrink) hroom hI2.below.size;refine⟨v',w',hr,?_⟩;rw[EO];simp only[BO];have hpp:∀(o:HO),lk (put (put (put (Bq hp ks) k (.tab T rows (some i))) key (.row T.ei T.si (T.inn rw0))) key o)=lk (put (put (Bq hp ks) k (.tab T rows (some i))) key o):=fun o=>by
            funext j;by_cases e:j=key
            ·subst e;rw[Ab,Ab]
            ·rw[A9 _ _ _ _ e,A9 _ _ _ _ e,A9 _ _ _ _ e]
           have:=OV (key:=key) (k:=key) (xs':=T.inn rw0++ys) hI2 (fun h=>by rw[hro]at h;cases h) (.inr hro) hz (by rw[List.length_append];exact g1) (by rw[hνq];exact g2) (by rw[hνq];exact g5) (fun _ hl=>by rw[hνq];exact g6 (by simp at hl;exact hl)) (by simp) (hf.append g3) (hrow.append hown.1 hf g4);obtain⟨ν',p1,p2,p3⟩:=this;have hue:(fun q=>(used q∨q=key)∨q=key)=fun q=>used q∨q=key:=funext fun q=>propext ⟨fun h=>h.elim id .inr,.inl⟩;rw[hpp,hue]at p1 p2 p3;exact⟨ν',p1,x1.trans (x2.trans p2),p3⟩
         ·cases he
        ·cases he
       ·cases he
      ·cases he
     ·cases he
    ·cases he
   ·cases he
  ·cases he
end
end Go.Eng
namespace Go.Eng
open Go.RowKit
def Fi(P:Program)(H:Nat→Option HO)(t:TypeId)(x y:AV):Option (AV×List (Nat×Option HO)×List Nat) :=
 match C3 P t with
 |some e=>match BV P e with
  |some sz=>if sz=1 then match x with
   |.trow k i n=>match H k,Cz H y with
    |some (.tab T rows none),some (.sl 1 ys,ks)=>if n=T.ilen rows i∧0<n∧T.si=1∧ys.length=n∧ys.all D.flat=true∧k∉ks∧i<rows.length then
      some (.d (.int .i64 (n:Int)),[(k,some (.tab T (rows.set i ((rows.getD i .nils).put T.off (.sl T.si ys))) none))],k::ks)else none
    |_,_=>none
   |_=>none
   else none
  |none=>none
 |none=>none
section
variable {P:Program} {X:DT} {hp:Aa} {ν:Nat→Value} {used:Nat→Prop} {w:World} {key:Nat}
theorem Jv{d:D}(h:d.flat=true):d.comps=[d]:=D.comps_one (GN h)
theorem O1(hI:At X (lk hp) ν used w)(hk:¬used key){t t' ty:Nat}{x y r:AV}{vx vy:Value}{es:List (Nat×Option HO)}{acc:List Nat}
 (hx:A5 w (Am X.M0 (lk hp) ν) (lk hp) ν used x vx) (hy:A5 w (Am X.M0 (lk hp) ν) (lk hp) ν used y vy)
 (he:Fi P (lk hp) t x y=some (r,es,acc)):∃v w',(Builtin.copy_ #[t,t'] ty #[vx,vy]).run P w= .ok v w'∧C7 X hp ν used w key (BO hp es) r v w':=by
 unfold Fi at he;split at he
 ·rename_i e hel;split at he
  ·rename_i sz hsz;split at he
   ·rename_i h1;subst h1;split at he
    ·rename_i k i n;split at he
     ·rename_i T rows ys ks ho hyd;split at he
      ·rename_i hc;obtain⟨hn,hn0,hsi,hyl,hflat,hks,hlt⟩:=hc;simp only[Option.some.injEq,Prod.mk.injEq]at he;obtain⟨rfl,rfl,rfl⟩:=he;have fl:∀d∈ys,d.flat=true:=List.all_eq_true.1 hflat
       have hrd:=HK hI (M':=fun _=>False) (fun _ h=>h.elim) y vy _ ks hy hyd (fun _ _ _ _ h=>h);cases hx with
       |trow hu hv hcc ha h =>
        rename_i c a;obtain⟨_,_,_,he,_,_,hvν⟩:=h _ ho;cases he;have hvν:=hvν (by simp) hn;obtain⟨hsz',h1,h2,vals,hown,hr⟩:=hI.obj _ _ ho;have hri:=List.getElem?_eq_getElem hlt;obtain⟨a1,a2,a3,a4⟩:=hr i _ hri;obtain⟨b1,us,b2,b3⟩:=a2 (by simp);have hil:=Tb.ilen_at (T:=T) hri;have hgd:rows.getD i .nils=rows[i]:=by simp[List.getD_eq_getElem?_getD,hri]
        rw[hgd];have b20:=b2;rw[← hvν,← hil,← hn,hv]at b2;obtain⟨vs,hvs,hvsz⟩:=hsz';cases a with
        |none=>have:=(ha rfl).1;omega
        |some a =>
        have hform:∃g,a=⟨g,0,none⟩:=by
         obtain⟨g,h,_⟩:=b2.form rfl;exact⟨g,h⟩
        obtain⟨g,rfl⟩:=hform;obtain⟨cur,hg,hcs,hbg⟩:=b2.split;rw[hsi]at hcs b2;have hνg:AB (ν k) (i+1)= .slice (some ⟨g,0,none⟩) n c:=by rw[← hvν,hv]
        have hb:AL (ν k) g:=AY hvs (i:=i+1) (by rw[hνg];rfl);have key_:∀(us':List Value),us'.length=n→(∀(i:Nat) d u,ys[i]? =some d→us'[i]? =some u→An w (fun _=>False) d u)→(Builtin.lenOf vy).run P w= .ok ys.length w→(Builtin.firstCells 1 (min ys.length n) vy).run P w= .ok us'.toArray w →
         ∃v w',(Builtin.copy_ #[t,t'] ty #[vx,vy]).run P w= .ok v w'∧C7 X hp ν used w key (BO hp [(k,some (.tab T (rows.set i ((rows[i]).put T.off (.sl T.si ys))) none))]) (.d (.int .i64 (n:Int))) v w':=fun us' hul hus hlo hfc=>by
         have huc:∀u∈us',u.oneCell'=true:=fun u hu=>by
          obtain⟨q,hq⟩:=List.mem_iff_getElem?.1 hu;have hql:q<ys.length:=by rw[hyl,← hul];exact(List.getElem?_eq_some_iff.1 hq).1
          have hd:=List.getElem?_eq_getElem hql;exact(hus q _ u hd hq).oneCell (GN (fl _ (List.getElem_mem hql)))
         have hst:(storeCells ⟨g,0,none⟩ us').run P w= .ok () (w.setRow g (Aj cur.toList 0 us').toArray):=by
          have:=run_storeCells_at P g 0 T.ei us' 0 cur w hg (by omega) huc;simpa[Aj]using this
         have hoff':T.off<(rows[i]).comps.length:=(List.getElem?_eq_some_iff.1 a1.1).1;have hinn:T.inn ((rows[i]).put T.off (.sl T.si ys))=ys:=Tb.inn_of (z:=T.si) (by rw[D.put_comps rfl hoff',List.getElem?_set_self hoff']);obtain⟨g1,g2⟩:=hI.write (o':=.tab T (rows.set i ((rows[i]).put T.off (.sl T.si ys))) none) ho hb (Aj cur.toList 0 us').toArray
          (KZ hlt (by rw[hinn,hyl,hn];exact Nat.le_refl _))
          (fun M' H' hx'=>by
            have hg':=setRow_heap _ _ _ (Aj cur.toList 0 us').toArray _ _ hg;have hfar:∀j' b,j'≠i+1→Ag (AB (ν k) j')=some b→b≠g:=fun j' b hj' hb' e=>by
             subst e;exact hj' (h2 j' (i+1) b hb' (by rw[hνg];rfl))
            have:=E6.upd (u:=AB (ν k) (i+1)) (w':=w.setRow g (Aj cur.toList 0 us').toArray) (M':=M') (xs':=ys) (q:=none) (vals':=vals) ⟨vs,hvs,hvsz⟩ h1 h2 hr hri
             (hown.keep (fun b hb'=>setRow_other _ _ _ _ (hfar 0 b (by omega) hb'))) (fun _ _=>rfl) b1
             ⟨Aj us 0 us',by rw[hνg,hyl,hsi];exact Ex b2 (by omega) hg hg',fun i' x j' dd hx2 hdd=>by
              have hxf:=fl x (List.mem_of_getElem? hx2);rw[Jv hxf]at hdd;have hj0:j'=0:=by have:=(List.getElem?_eq_some_iff.1 hdd).1;simp at this;exact this
              subst hj0;simp at hdd;subst hdd;have hi':=(List.getElem?_eq_some_iff.1 hx2).1;have hul2:=b2.1;have hu2:=List.getElem?_eq_getElem (l:=us') (i:=i') (by omega);refine⟨us'[i']'(by omega),?_,(hus i' _ _ hx2 hu2).flat hxf⟩;rw[AW _ _ _ (by omega),hsi,if_pos (by omega),← hu2];congr 1;omega⟩
             (fun x hx2=>by rw[hsi,Jv (fl x hx2)];exact⟨rfl,fun d hd=>by simp at hd;subst hd;exact GN (fl _ hx2)⟩) (.inl rfl)
             (fun j' b _ hj' hb'=>setRow_other _ _ _ _ (hfar j' b hj' hb'))
             (fun j' b hj' hb' hh=>hj' (h2 j' (i+1) b hb' hh)) hx'.same hx'.shrink
            show E6 _ _ _ (ν k) _ _ _;rw[hvs]at this ⊢;rw[P9]at this;exact this)
         obtain⟨m1,m2⟩:=g1.more hk;refine⟨.int .i64 (n:Int),_,?_,ν,m1,g2.trans m2,.d (.int _ _)⟩;have hmin:Nat.min ys.length n=n:=by rw[hyl];exact Nat.min_self n
         have hfc':(Builtin.firstCells 1 (Nat.min ys.length n) vy).run P w= .ok us'.toArray w:=hfc;rw[hmin]at hfc';rw[hv];simp only[Builtin.copy_,List.getElem?_toArray,List.getElem?_cons_zero,List.getElem?_cons_succ,Sem.run_bind,run_underlying (Bn hel),Result.andThen_ok,hlo,AF hsz,hfc',hst,goInt,Sem.run_pure,hmin]
        generalize hvy:vy=vy' at hrd;cases hrd with
        |sl0=>simp at hyl;omega
        |sl val hb' hM hcc' hm hs h1' h2' =>
         rename_i c' a';have hcp:∀(i:Nat) d,ys[i]? =some d→d.comps[0]? =some d:=fun i d hd=>by rw[Jv (fl d (List.mem_of_getElem? hd))];rfl
         rw[hvy]at key_;refine key_ ((List.range (min ys.length n)).map fun i=>val i 0) (by simp;omega) (fun i d u hd hu=>?_) rfl ?_
         ·obtain⟨hi,rfl⟩:=D3 hu;exact h2' i d 0 d hd (hcp i d hd)
         ·refine run_firstCells_some w 1 _ a' _ c' _ (by simp) fun j v hj=>?_;obtain⟨hi,rfl⟩:=D3 hj;have hd':=List.getElem?_eq_getElem (l:=ys) (i:=j) (by omega);have:=h1' j _ 0 _ hd' (hcp j _ hd');simpa using this
      ·cases he
     ·cases he
    ·cases he
   ·cases he
  ·cases he
 ·cases he
def Tb.nilAt(T:Tb)(y:D):Bool:=match y.comps[T.off]? with|some .nils=>true|_=>false
def Tb.ini(T:Tb)(y:D):D:=y.put T.off (.sl T.si [])
theorem Tb.nilAt_iff{T:Tb}{y:D}:T.nilAt y=true↔y.comps[T.off]? =some .nils:=by
 unfold Tb.nilAt;split
 ·rename_i h;simp[h]
 ·rename_i h;simp;intro e;exact h e
theorem Tb.ini_comps{T:Tb}{y:D}(h:T.nilAt y=true):(T.ini y).comps=y.comps.set T.off (.sl T.si [])∧T.off<y.comps.length:=by
 have h:=Tb.nilAt_iff.1 h;have ho:=(List.getElem?_eq_some_iff.1 h).1;exact⟨D.put_comps rfl ho,ho⟩
theorem Tb.ini_inn{T:Tb}{y:D}(h:T.nilAt y=true):T.inn (T.ini y)=[]:=by
 obtain⟨h1,h2⟩:=Tb.ini_comps h;exact Tb.inn_of (z:=T.si) (by rw[h1,List.getElem?_set_self h2])
theorem Tb.ini_flat{T:Tb}{xs:List D}(hn:xs.all T.nilAt=true)(h:Fo T.so xs):Fo T.so (xs.map T.ini):=fun y hy=>by
 obtain⟨x,hx,rfl⟩:=List.mem_map.1 hy;obtain⟨h1,h2⟩:=Tb.ini_comps (List.all_eq_true.1 hn x hx);obtain⟨f1,f2⟩:=h x hx;rw[h1];refine⟨by rw[List.length_set];exact f1,fun d hd=>?_⟩;rcases List.mem_or_eq_of_mem_set hd with h|h
 ·exact f2 d h
 ·subst h;rfl
theorem Ce{l:List Value}{j:Nat}:AB (.tuple l.toArray) j=l.getD j undef:=by simp[AB,List.getD_eq_getElem?_getD]
theorem RE{w:World}{M:Nat→Prop}{u:Value}(h:An w M .nils u):u= .slice none 0 0:=by cases h;rfl
theorem E6.ofNils{base:Nat}{w:World}{M:Nat→Prop}{v:Value}{T:Tb}{xs:List D}{vals:List Value}(hown:C2 w base T.eo T.so v xs.length vals)(hz:0<T.so)(hsi:0<T.si)(hf:Fo T.so xs)(hrow:D6 w M T.so xs vals)(hn:xs.all T.nilAt=true) :
 E6 base w M (.tuple (v::List.replicate xs.length (.slice none 0 0)).toArray) T (xs.map T.ini) none:=by
 have hv0:AB (.tuple (v::List.replicate xs.length (.slice none 0 0)).toArray) 0=v:=by rw[Ce];rfl
 have hvS:∀j,Ag (AB (.tuple (v::List.replicate xs.length (.slice none 0 0)).toArray) (j+1))=none:=fun j=>by
  rw[Ce];simp only[List.getD_eq_getElem?_getD,List.getElem?_cons_succ,List.getElem?_replicate];split
  ·rfl
  ·rfl
 have hvi:∀j,j<xs.length→AB (.tuple (v::List.replicate xs.length (.slice none 0 0)).toArray) (j+1)= .slice none 0 0:=fun j hj=>by
  rw[Ce];simp[List.getD_eq_getElem?_getD,List.getElem?_replicate,hj]
 refine⟨⟨_,rfl,by simp⟩,⟨hz,hsi,Tb.ini_flat hn hf⟩,fun i j b hi hj=>?_,vals,by rw[hv0,List.length_map];exact hown,fun i r hi=>?_⟩
 ·cases i with
  |zero=>cases j with
   |zero=>rfl
   |succ j=>rw[hvS]at hj;cases hj
  |succ i=>rw[hvS]at hi;cases hi
 ·rw[List.getElem?_map]at hi;obtain⟨x,hx,rfl⟩:=Option.map_eq_some_iff.1 hi;have hnx:=List.all_eq_true.1 hn x (List.mem_of_getElem? hx);obtain⟨c1,c2⟩:=Tb.ini_comps hnx;have hin:=Tb.ini_inn hnx;have hlt:=(List.getElem?_eq_some_iff.1 hx).1;obtain⟨u,hu,hru⟩:=hrow i x T.off .nils hx (Tb.nilAt_iff.1 hnx);have hun:=RE hru;subst hun;refine⟨⟨by rw[c1,hin,List.getElem?_set_self c2],by rw[hin];intro y hy;cases hy⟩,fun _=>?_,(fun h=>by cases h),fun j d hj hd=>?_⟩
  ·rw[hvi i hlt,hin];exact⟨hu,[],C2.nil,fun i x j d hx=>by simp at hx⟩
  ·rw[c1,List.getElem?_set_ne (fun h=>hj h.symm)]at hd;exact hrow i x j d hx hd
theorem At.totab(hI:At X (lk hp) ν used w)(hk:¬used key){k:Nat}{e:TypeId}{sz:Nat}{xs:List D}{T:Tb}(ho:lk hp k=some (.row e sz xs))(he:T.eo=e)(hs:T.so=sz)(hsi:0<T.si)(hn:xs.all T.nilAt=true) :
 At X (lk (put (DM hp k) key (.tab T (xs.map T.ini) none))) (upd ν key (.tuple (ν k::List.replicate xs.length (.slice none 0 0)).toArray)) (fun q=>used q∨q=key) w ∧
 CT (Am X.M0 (lk hp) ν) (lk hp) ν used w (Am X.M0 (lk (put (DM hp k) key (.tab T (xs.map T.ini) none))) (upd ν key (.tuple (ν k::List.replicate xs.length (.slice none 0 0)).toArray)))
  (lk (put (DM hp k) key (.tab T (xs.map T.ini) none))) (upd ν key (.tuple (ν k::List.replicate xs.length (.slice none 0 0)).toArray)) (fun q=>used q∨q=key) w:=by
 subst he hs;obtain⟨vals,hown,hz,hf,hrow⟩:=hI.obj _ _ ho;have hku:used k:=hI.usd _ _ ho;have hkk:k≠key:=fun e=>hk (e▸hku);generalize hv1:(Value.tuple (ν k::List.replicate xs.length (.slice none 0 0)).toArray)=v1;generalize ho1:HO.tab T (xs.map T.ini) none=o1;have hvb:∀b,AL v1 b→AL (ν k) b:=fun b hb=>by
  rw[← hv1]at hb;obtain⟨j,hj⟩:=Ib.1 hb;rw[Ce]at hj;cases j with
  |zero =>
   obtain⟨a,c,h,_⟩:=Dq hown;exact(Iv h).2 (by simpa using hj)
  |succ j =>
   simp only[List.getD_eq_getElem?_getD,List.getElem?_cons_succ,List.getElem?_replicate]at hj;split at hj<;>cases hj
 let C:Nat→Prop:=fun j=>j=k∨j=key
 have hlk:∀j,lk (put (DM hp k) key o1) j=if j=key then some o1 else if j=k then none else lk hp j:=fun j=>by
  by_cases e:j=key
  ·subst e;rw[Ab,if_pos rfl]
  ·rw[A9 _ _ _ _ e,if_neg e];by_cases e':j=k
   ·subst e';rw[B3,if_pos rfl]
   ·rw[Bc _ _ _ e',if_neg e']
 have hsame:∀j o,¬C j→lk (put (DM hp k) key o1) j=some o→lk hp j=some o:=fun j o hC h=>by
  rw[hlk,if_neg (fun e=>hC (.inr e)),if_neg (fun e=>hC (.inl e))]at h;exact h
 have hνC:∀j,¬C j→upd ν key v1 j=ν j:=fun j hC=>Al _ _ _ _ (fun e=>hC (.inr e));have honly:∀j o,C j→lk (put (DM hp k) key o1) j=some o→j=key∧o=o1:=fun j o hC h=>by
  rcases hC with e|e
  ·subst e;rw[hlk,if_neg hkk,if_pos rfl]at h;cases h
  ·subst e;rw[Ab]at h;cases h;exact⟨rfl,rfl⟩
 have hx:CT (Am X.M0 (lk hp) ν) (lk hp) ν used w (Am X.M0 (lk (put (DM hp k) key o1)) (upd ν key v1)) (lk (put (DM hp k) key o1)) (upd ν key v1) (fun q=>used q∨q=key) w:=by
  refine CT.bulk C hsame hνC (Nat.le_refl _) (fun _ _ _=>rfl) (fun _ h=>.inl h) (fun j o b hC hj hb _=>?_) (fun j o hC hju hj=>?_)
  ·obtain⟨rfl,rfl⟩:=honly j o hC hj;rw[Ac]at hb;exact⟨k,_,ho,hvb b hb⟩
  ·obtain⟨rfl,rfl⟩:=honly j o hC hj;exact absurd hju hk
 refine⟨hI.bulk C hsame hνC (Bl.refl _ _) hx (fun j o hC hj=>.inr (honly j o hC hj).1) (fun j o b hC hj hb=>?_) (fun _ _ _ _ _ _=>rfl) (fun j o hC hj=>?_),hx⟩
 ·obtain⟨rfl,rfl⟩:=honly j o hC hj;rw[Ac]at hb;have h:=hvb b hb;refine⟨(hI.blk _ _ _ ho h).1,(hI.blk _ _ _ ho h).2,hI.far _ _ _ ho h,fun j' o' hj' hb'=>?_⟩;by_cases hC2:C j'
  ·exact(honly j' o' hC2 hj').1
  ·rw[hνC j' hC2]at hb';exact absurd (.inl (hI.inj _ _ _ _ _ (hsame j' o' hC2 hj') ho hb' h)) hC2
 ·obtain⟨rfl,rfl⟩:=honly j o hC hj;rw[Ac];subst ho1 hv1;exact E6.ofNils hown hz hsi hf (hrow.mono hx.same hx.shrink) hn
def eI(base:Nat)(w:World)(M:Nat→Prop)(T:Tb)(news:List Value)(i:Nat)(r:D)(u:Value):Prop :=
 (r.comps[T.off]? =some (.sl T.si (T.inn r))∧Fo T.si (T.inn r)) ∧
   (news[i * T.so+T.off]? =some u∧∃vs,C2 w base T.ei T.si u (T.inn r).length vs∧D6 w M T.si (T.inn r) vs) ∧
   ∀(j:Nat) d,j≠T.off→r.comps[j]? =some d→∃u,news[i * T.so+j]? =some u∧An w M d u
theorem E6.app{base:Nat}{w w':World}{M M':Nat→Prop}{v0':Value}{vs:Array Value}{T:Tb}{rows ys:List D}{us vals news:List Value}
 (hvs:vs.size=rows.length+1) (h1:0<T.so∧0<T.si∧Fo T.so rows) (h2:∀i j b,Ag (AB (.tuple vs) i)=some b→Ag (AB (.tuple vs) j)=some b→i=j)
 (hvl:vals.length=rows.length * T.so) (hr:∀(i:Nat) r,rows[i]? =some r→aj base w M (.tuple vs) T vals none i r) (hf:Fo T.so ys) (hul:us.length=ys.length)
 (hn:∀(i:Nat) r u,ys[i]? =some r→us[i]? =some u→eI base w' M' T news i r u)
 (hown':C2 w' base T.eo T.so v0' (rows.length+ys.length) (vals++news))
 (hblk:∀j b,j≠0→Ag (AB (.tuple vs) j)=some b→w'.heap[b]? =w.heap[b]?)
 (hap0:∀j b,j≠0→Ag (AB (.tuple vs) j)=some b→Ag v0'≠some b)
 (hap:∀(i:Nat) u b,us[i]? =some u→Ag u=some b→Ag v0'≠some b∧(∀j,j≠0→Ag (AB (.tuple vs) j)≠some b)∧∀(i':Nat) u',us[i']? =some u'→Ag u'=some b→i=i')
 (hs:Bi M w w') (hM:∀b,b<w.heap.size→M' b→M b):E6 base w' M' (.tuple (v0'::(vs.toList.drop 1++us)).toArray) T (rows++ys) none:=by
 have hv0:AB (.tuple (v0'::(vs.toList.drop 1++us)).toArray) 0=v0':=by rw[Ce];rfl
 have hvo:∀j,j<rows.length→AB (.tuple (v0'::(vs.toList.drop 1++us)).toArray) (j+1)=AB (.tuple vs) (j+1):=fun j hj=>by
  rw[Ce];simp only[List.getD_eq_getElem?_getD,List.getElem?_cons_succ,AB,Array.getD_eq_getD_getElem?];rw[List.getElem?_append_left (by simp;omega),List.getElem?_drop];simp[Nat.add_comm]
 have hvn:∀j,AB (.tuple (v0'::(vs.toList.drop 1++us)).toArray) (rows.length+j+1)=us.getD j undef:=fun j=>by
  rw[Ce];simp only[List.getD_eq_getElem?_getD,List.getElem?_cons_succ];rw[List.getElem?_append_right (by simp;omega)];congr 2;simp;omega
 have hcase:∀j b,Ag (AB (.tuple (v0'::(vs.toList.drop 1++us)).toArray) j)=some b→(j=0∧Ag v0'=some b)∨(∃i,j=i+1∧i<rows.length∧Ag (AB (.tuple vs) (i+1))=some b)∨∃i u,j=rows.length+i+1∧us[i]? =some u∧Ag u=some b:=fun j b hb=>by
  cases j with
  |zero=>rw[hv0]at hb;exact .inl ⟨rfl,hb⟩
  |succ j =>
   by_cases hj:j<rows.length
   ·rw[hvo j hj]at hb;exact .inr (.inl ⟨j,rfl,hj,hb⟩)
   ·have e:j+1=rows.length+(j-rows.length)+1:=by omega
    rw[e,hvn]at hb;refine .inr (.inr ⟨j-rows.length,us.getD (j-rows.length) undef,e,?_,hb⟩);simp only[List.getD_eq_getElem?_getD]at hb ⊢;cases h:us[j-rows.length]? with
    |none=>simp[h,undef,Ag]at hb
    |some u=>rfl
 refine⟨⟨_,rfl,by simp[hvs,hul]⟩,⟨h1.1,h1.2.1,h1.2.2.append hf⟩,fun i j b hi hj=>?_,vals++news,by rw[hv0,List.length_append];exact hown',fun i r hi=>?_⟩
 ·rcases hcase i b hi with⟨rfl,hi⟩|⟨i,rfl,hil,hi⟩|⟨i,u,rfl,hu,hi⟩<;>rcases hcase j b hj with⟨rfl,hj⟩|⟨j,rfl,hjl,hj⟩|⟨j,u',rfl,hu',hj⟩
  ·rfl
  ·exact absurd hi (hap0 _ _ (by omega) hj)
  ·exact absurd hi (hap _ _ _ hu' hj).1
  ·exact absurd hj (hap0 _ _ (by omega) hi)
  ·exact h2 _ _ _ hi hj
  ·exact absurd hi ((hap _ _ _ hu' hj).2.1 _ (by omega))
  ·exact absurd hj (hap _ _ _ hu hi).1
  ·exact absurd hj ((hap _ _ _ hu hi).2.1 _ (by omega))
  ·have:=(hap _ _ _ hu hi).2.2 _ _ hu' hj;omega
 ·by_cases hlt:i<rows.length
  ·rw[List.getElem?_append_left hlt]at hi;obtain⟨a1,a2,a3,a4⟩:=hr i r hi;have hfr:=h1.2.2 r (List.mem_of_getElem? hi);have hcell:∀j,j<T.so→(vals++news)[i * T.so+j]? =vals[i * T.so+j]? :=fun j hj=>List.getElem?_append_left (by rw[hvl];exact T9 hlt hj);have hofl:T.off<T.so:=by rw[← hfr.1];exact(List.getElem?_eq_some_iff.1 a1.1).1
   refine⟨a1,fun _=>?_,(fun h=>by cases h),fun j d hj hd=>?_⟩
   ·obtain⟨b1,us',b2,b3⟩:=a2 (by simp);rw[hvo i hlt,hcell _ hofl];exact⟨b1,us',b2.keep (fun b hb=>hblk _ b (by omega) hb),b3.mono hs hM⟩
   ·obtain⟨u,hu,hru⟩:=a4 j d hj hd;have hjl:=(List.getElem?_eq_some_iff.1 hd).1;exact⟨u,by rw[hcell _ (by omega)];exact hu,hru.mono hs hM⟩
  ·rw[List.getElem?_append_right (by omega)]at hi;have hil:=(List.getElem?_eq_some_iff.1 hi).1;have hu:=List.getElem?_eq_getElem (l:=us) (i:=i-rows.length) (by omega);obtain⟨a1,a2,a4⟩:=hn _ r _ hi hu;have e:i+1=rows.length+(i-rows.length)+1:=by omega
   have hcell:∀j,(vals++news)[i * T.so+j]? =news[(i-rows.length) * T.so+j]? :=fun j=>by
    have hle:rows.length * T.so≤i * T.so:=Nat.mul_le_mul_right _ (by omega);rw[List.getElem?_append_right (by rw[hvl];omega),hvl];congr 1;rw[Nat.sub_mul];omega
   refine⟨a1,fun _=>?_,(fun h=>by cases h),fun j d hj hd=>?_⟩
   ·rw[e,hvn,hcell];simp only[List.getD_eq_getElem?_getD,hu,Option.getD_some];exact a2
   ·rw[hcell];exact a4 j d hj hd
def CV(P:Program)(H:Nat→Option HO)(t:TypeId)(x y:AV):Option (AV×List (Nat×Option HO)×List Nat) :=
 match x,y with
 |.tab k n,.own r m=>match C3 P t with
  |some e=>match BV P e,E5 P e with
   |some sz,some b=>if CS P e=true then match H k,H r with
    |some (.tab T rows none),some (.row e' sz' ys)=>if n=rows.length∧m=ys.length∧T.eo=e∧T.so=sz∧e'=e∧sz'=sz∧r≠k∧JC (rows.length+ys.length) b∧ys.all T.nilAt=true then
      some (.tab k (rows.length+ys.length),[(r,none),(k,some (.tab T (rows++ys.map T.ini) none))],[k,r])
     else none
    |_,_=>none
    else none
   |_,_=>none
  |none=>none
 |_,_=>none
theorem KS(hI:At X (lk hp) ν used w)(hk:¬used key){t ty:TypeId}{x y r:AV}{vx vy:Value}{es:List (Nat×Option HO)}{acc:List Nat}
 (hx:A5 w (Am X.M0 (lk hp) ν) (lk hp) ν used x vx) (hy:A5 w (Am X.M0 (lk hp) ν) (lk hp) ν used y vy) (he:CV P (lk hp) t x y=some (r,es,acc)) :
 ∃v w',(Builtin.append_ #[t,t] ty #[vx,vy]).run P w= .ok v w'∧C7 X hp ν used w key (BO hp es) r v w':=by
 unfold CV at he;split at he
 ·rename_i k n q m;split at he
  ·rename_i e hel;split at he
   ·rename_i sz b hsz hb;split at he
    ·rename_i hzo;split at he
     ·rename_i T rows e' sz' ys ho hoq;split at he
      ·rename_i hc;obtain⟨hn,hm,rfl,rfl,rfl,rfl,hqk,hroom,hnil⟩:=hc;simp only[Option.some.injEq,Prod.mk.injEq]at he;obtain⟨rfl,rfl,rfl⟩:=he;have hyd:Cz (lk hp) (.own q m)=some (.sl T.so ys,[q]):=by simp[Cz,hoq,hm]
       have hdr:=DJ hI hy hyd;obtain⟨hI1,x1⟩:=hI.drops [q];have ho1:lk (Bq hp [q]) k=some (.tab T rows none):=by rw[D1 _ _ _ (by simp;exact fun h=>hqk h.symm)];exact ho
       cases hx with
       |tab hu hv hcc ha h =>
        obtain⟨_,_,_,he,_,hvν⟩:=h _ ho;cases he;have hvν:=hvν hn;obtain⟨⟨vs,hvs,hvsz⟩,h1,h2,vals,hown,hr⟩:=hI1.obj _ _ ho1;rw[hvν];obtain⟨v',w',news,hrun,g1,g2,g3,g4,g5,g6⟩:=DF (P:=P) hel hsz hb h1.1 hzo ty hown hdr hroom hI1.below.size;refine⟨v',w',hrun,?_⟩;have heff:BO hp [(q,none),(k,some (.tab T (rows++ys.map T.ini) none))]=put (Bq hp [q]) k (.tab T (rows++ys.map T.ini) none):=rfl;rw[heff];generalize hhp:Bq hp [q]=hp1 at hI1 x1 ho1 hdr g4 hr ⊢;have hob0:∀b,(AB (ν k) 0).ownBlock=some b→Ag (AB (ν k) 0)=some b:=fun b hb=>by
         obtain⟨a,c,h,_⟩:=Dq hown;rw[h]at hb ⊢;cases a with
         |none=>simp[Value.ownBlock]at hb
         |some a=>simpa[Value.ownBlock,Ag]using hb
        have hob':∀b,Ag v'=some b↔v'.ownBlock=some b:=fun b=>by
         rcases g1.2 with⟨h,_⟩|⟨g,cap,cur,h,_⟩<;>rw[h]<;>simp[Ag,Value.ownBlock]
        have hob0':∀b,Ag (AB (ν k) 0)=some b↔(AB (ν k) 0).ownBlock=some b:=fun b=>by
         rcases hown.2 with⟨h,_⟩|⟨g,cap,cur,h,_⟩<;>rw[h]<;>simp[Ag,Value.ownBlock]
        have hv0B:∀b,(AB (ν k) 0).ownBlock=some b→AL (ν k) b:=fun b hb=>AY hvs ((hob0' b).2 hb);let v1:Value:=.tuple (v'::(vs.toList.drop 1++List.replicate ys.length (.slice none 0 0))).toArray
        have hv1B:∀b,AL v1 b→v'.ownBlock=some b∨∃j,j≠0∧Ag (AB (ν k) j)=some b:=fun b hb=>by
         obtain⟨u,hu,hub⟩:=hb;simp only[List.toList_toArray,List.mem_cons,List.mem_append]at hu;rcases hu with rfl|hu|hu
         ·exact .inl ((hob' b).1 hub)
         ·obtain⟨j,hj⟩:=List.mem_iff_getElem?.1 hu;rw[List.getElem?_drop]at hj;refine .inr ⟨1+j,by omega,?_⟩;rw[hvs];have:vs[1+j]? =some u:=by simpa using hj
          simp[AB,Array.getD_eq_getD_getElem?,this,hub]
         ·rw[List.eq_of_mem_replicate hu]at hub;cases hub
        have hv'c:∀b,v'.ownBlock=some b→(AB (ν k) 0).ownBlock=some b∨w.heap.size≤b:=fun b hb=>by
         rcases g5 with h|⟨g,h,hle⟩
         ·exact .inl (h▸hb)
         ·rw[hb]at h;cases h;exact .inr hle
        have hv1O:∀b,AL v1 b→AL (ν k) b∨w.heap.size≤b:=fun b hb=>by
         rcases hv1B b hb with h|⟨j,_,h⟩
         ·rcases hv'c b h with h|h
          ·exact .inl (hv0B b h)
          ·exact .inr h
         ·exact .inl (AY hvs h)
        let C:Nat→Prop:=fun j=>j=k
        let o1:HO:=.tab T (rows++ys.map T.ini) none
        have hsame:∀j o,¬C j→lk (put hp1 k o1) j=some o→lk hp1 j=some o:=fun j o hC h=>by rw[A9 _ _ _ _ hC]at h;exact h
        have hνC:∀j,¬C j→upd ν k v1 j=ν j:=fun j hC=>Al _ _ _ _ hC;have honly:∀j o,C j→lk (put hp1 k o1) j=some o→j=k∧o=o1:=fun j o hC h=>by
         have hC:j=k:=hC;subst hC;rw[Ab]at h;cases h;exact⟨rfl,rfl⟩
        have hvk0:AB v1 0=v':=by show AB (.tuple _) 0=_;rw[Ce];rfl
        have hvkS:∀i,i<rows.length→AB v1 (i+1)=AB (ν k) (i+1):=fun i hi=>by
         show AB (.tuple _) (i+1)=_;rw[Ce,hvs];simp only[List.getD_eq_getElem?_getD,List.getElem?_cons_succ,AB,Array.getD_eq_getD_getElem?];rw[List.getElem?_append_left (by simp;omega),List.getElem?_drop];simp[Nat.add_comm]
        have hxx:CT (Am X.M0 (lk hp1) ν) (lk hp1) ν used w (Am X.M0 (lk (put hp1 k o1)) (upd ν k v1)) (lk (put hp1 k o1)) (upd ν k v1) used w':=by
         refine CT.bulk C hsame hνC g2.lo.size (fun b hb hO=>g2.lo.block b hb (fun h=>hO ⟨k,_,ho1,hv0B b h.symm⟩)) (fun _ h=>h) (fun j o b hC hj hb hlt=>?_) (fun j o hC hju hj=>?_)
         ·obtain⟨rfl,rfl⟩:=honly j o hC hj;rw[Ac]at hb;rcases hv1O b hb with h|h
          ·exact⟨_,_,ho1,h⟩
          ·omega
         ·obtain⟨rfl,rfl⟩:=honly j o hC hj;refine⟨_,ho1,⟨rfl,by simp,fun i hi=>⟨?_,fun h=>by cases h⟩⟩,?_,?_⟩
          ·unfold Tb.ilen;rw[List.getD_eq_getElem?_getD,List.getD_eq_getElem?_getD,List.getElem?_append_left hi];exact Nat.le_refl _
          ·intro hl;rw[Ac,hvk0];have:ys=[]:=by simpa using hl
           exact g6 this
          ·intro i hi _ _;rw[Ac];exact hvkS i hi
        have hbel:Bl X.base w w':=Bl.grown g2 hI1.below.size (fun b hb=>(hI1.blk _ _ _ ho1 (hv0B b hb)).1);have hI2:At X (lk (put hp1 k o1)) (upd ν k v1) used w':=by
         refine hI1.bulk C hsame hνC hbel hxx (fun j o hC hj=>by obtain⟨rfl,_⟩:=honly j o hC hj;exact hu) (fun j o b hC hj hb=>?_) (fun j o b hC hj hb=>?_) (fun j o hC hj=>?_)
         ·obtain⟨rfl,rfl⟩:=honly j o hC hj;rw[Ac]at hb;have hoth:∀j' o',lk (put hp1 j o1) j'=some o'→AL (upd ν j v1 j') b→j'≠j→lk hp1 j'=some o'∧AL (ν j') b:=fun j' o' hj' hb' hne=>by
           rw[A9 _ _ _ _ hne]at hj';rw[Al _ _ _ _ hne]at hb';exact⟨hj',hb'⟩
          rcases hv1O b hb with h|h
          ·have hbk:=hI1.blk _ _ _ ho1 h;refine⟨hbk.1,Nat.lt_of_lt_of_le hbk.2 g2.lo.size,hI1.far _ _ _ ho1 h,fun j' o' hj' hb'=>?_⟩;by_cases hne:j'=j
           ·exact hne
           ·obtain⟨p1,p2⟩:=hoth j' o' hj' hb' hne;exact hI1.inj _ _ _ _ _ p1 ho1 p2 h
          ·have hb0:v'.ownBlock=some b:=by
            rcases hv1B b hb with h'|⟨i,_,h'⟩
            ·exact h'
            ·have:=(hI1.blk _ _ _ ho1 (AY hvs h')).2;omega
           refine⟨(g1.lt b hb0).1,(g1.lt b hb0).2,fun hh=>by have:=hI1.M0 _ hh;omega,fun j' o' hj' hb'=>?_⟩;by_cases hne:j'=j
           ·exact hne
           ·obtain⟨p1,p2⟩:=hoth j' o' hj' hb' hne;have:=(hI1.blk _ _ _ p1 p2).2;omega
         ·have hjk:j≠k:=hC;rw[A9 _ _ _ _ hjk]at hj;exact g2.lo.block b (hI1.blk _ _ _ hj hb).2 (fun h=>hjk (hI1.inj _ _ _ _ _ hj ho1 hb (hv0B b h.symm)))
         ·obtain⟨rfl,rfl⟩:=honly j o hC hj;rw[Ac];have hvs':=hvs;rw[hvs']at h2 hr;refine E6.app (w:=w) (M:=Am X.M0 (lk hp1) ν) hvsz h1 h2 hown.1 hr (Tb.ini_flat hnil g3) (by simp) (fun i r u hi hu=>?_) (by rw[List.length_map];exact g1) (fun j' b hj' hb'=>?_) (fun j' b hj' hb' hh=>?_) (fun i u b hu hb=>?_) hxx.same hxx.shrink
          ·rw[List.getElem?_map]at hi;obtain⟨y,hy,rfl⟩:=Option.map_eq_some_iff.1 hi;have hny:=List.all_eq_true.1 hnil y (List.mem_of_getElem? hy);obtain⟨c1,c2⟩:=Tb.ini_comps hny;have hin:=Tb.ini_inn hny;rw[List.getElem?_replicate]at hu;split at hu
           ·cases hu;obtain⟨u,hu,hru⟩:=g4 i y T.off .nils hy (Tb.nilAt_iff.1 hny);have hun:=RE hru;subst hun;refine⟨⟨by rw[c1,hin,List.getElem?_set_self c2],by rw[hin];intro y hy;cases hy⟩,⟨hu,by rw[hin];exact⟨[],C2.nil,fun i x j d hx=>by simp at hx⟩⟩,fun j d hj hd=>?_⟩;rw[c1,List.getElem?_set_ne (fun h=>hj h.symm)]at hd;obtain⟨u,hu,hru⟩:=g4 i y j d hy hd;exact⟨u,hu,hru.mono hxx.same hxx.shrink⟩
           ·cases hu
          ·rw[← hvs']at hb' h2;exact g2.lo.block b (hI1.blk _ _ _ ho1 (AY hvs hb')).2 (fun h=>hj' (h2 _ _ _ hb' ((hob0' b).2 h.symm)))
          ·rw[← hvs']at hb' h2;rcases hv'c b ((hob' b).1 hh)with h|h
           ·exact hj' (h2 _ _ _ hb' ((hob0' b).2 h))
           ·have:=(hI1.blk _ _ _ ho1 (AY hvs hb')).2;omega
          ·rw[List.getElem?_replicate]at hu;split at hu
           ·cases hu;cases hb
           ·cases hu
        obtain⟨m1,m2⟩:=hI2.more hk;refine⟨_,m1,(x1.trans hxx).trans m2,?_⟩;obtain⟨a,c,p1,p2,p3⟩:=Dq g1;refine .tab (.inl hu) p1 p2 p3 fun o ho'=>?_;rw[Ab]at ho';cases ho';exact⟨_,_,_,rfl,by simp,fun _=>by rw[Ac];exact hvk0.symm⟩
      ·cases he
     ·cases he
    ·cases he
   ·cases he
  ·cases he
 ·cases he
end
end Go.Eng
namespace Go.Eng
open Go.RowKit
def BU(P:Program)(key:Nat)(H:Nat→Option HO)(t:TypeId)(len:Nat)(ps:List (Nat×AV)):Option (AV×List (Nat×Option HO)×List Nat) :=
 match ps with
 | [p]=>match p.2 with
   |.own q m=>match C3 P t,H q with
    |some e,some (.row ei si xs)=>match BV P e with
     |some sz=>if p.1=0∧500000≤key∧sz=1∧len=1∧m=xs.length∧(Av P e).isSome=true then
       some (.tab key 1,[(q,none),(key,some (.tab ⟨e,1,0,ei,si⟩ [.sl si xs] none))],[q])
      else none
     |none=>none
    |_,_=>none
   |_=>none
 |_=>none
def CW(P:Program)(H:Nat→Option HO)(t:TypeId)(k n q m:Nat):Option (AV×List (Nat×Option HO)×List Nat) :=
 match C3 P t with
 |some e=>match BV P e,E5 P e with
  |some sz,some b=>if CS P e=true then match H k,H q with
   |some (.tab T rows none),some (.tab T2 [.sl z xs] none)=>if n=rows.length∧m=1∧T.eo=e∧T.so=1∧T.off=0∧sz=1∧T2.so=1∧T2.off=0∧T2.ei=T.ei∧T2.si=T.si∧z=T.si∧q≠k∧JC (rows.length+1) b then
     some (.tab k (rows.length+1),[(q,none),(k,some (.tab T (rows++[.sl T.si xs]) none))],[k,q])
    else none
   |_,_=>none
   else none
  |_,_=>none
 |none=>none
section
variable {P:Program} {X:DT} {hp:Aa} {ν:Nat→Value} {used:Nat→Prop} {w:World} {key:Nat}
theorem LU{P:Program}{w:World}{base:Nat}{t e:TypeId}{sz b:Nat}(hel:C3 P t=some e)(hsz:BV P e=some sz)(hb:E5 P e=some b)(hz:0<sz)(hzo:CS P e=true)(ty:TypeId)
 {v:Value} {n:Nat} {vals:List Value} (hown:C2 w base e sz v n vals) {a:Addr} {m c:Nat} {news:List Value} (hl:news.length=m * sz) (h1:∀(j:Nat) v,news[j]? =some v→w.cell? (a.add j)=some v) (h2:∀v∈news,v.oneCell'=true)
 (hm0:0<m) (hroom:JC (n+m) b) (hbase:base≤w.heap.size) :
 ∃v' w',(Builtin.append_ #[t,t] ty #[v,.slice (some a) m c]).run P w= .ok v' w'∧C2 w' base e sz v' (n+m) (vals++news)∧Gb w w' v.ownBlock∧(v'.ownBlock=v.ownBlock∨∃g,v'.ownBlock=some g∧w.heap.size≤g):=by
 have ht:=Bn hel;obtain⟨i,hi,hisz⟩:=H2 hsz;have hib:i.bytes=b:=by simp[E5,hi]at hb;exact hb
 unfold CS at hzo;rw[hi]at hzo;simp only at hzo;cases hzz:i.zero with
 |none=>simp[hzz]at hzo
 |some z =>
  simp[hzz]at hzo;have hsz':i.size=sz:=hisz;subst hsz';have hr2:=hroom.2;have hzs:z.cells.size=i.size:=by omega
  have hlen:(vals++news).length=(n+m) * i.size:=by rw[List.length_append,hown.1,hl,Nat.add_mul]
  have grown:∀(old:Nat) (row:Option Nat),
   C2 (w.drew.alloc (.cells (vals.toArray++news.toArray++Builtin.zeroCells z.cells (grownCap w (n+m) old e-(n+m))) e)) base e i.size (.slice (some ⟨w.heap.size,0,none⟩) (n+m) (grownCap w (n+m) old e)) (n+m) (vals++news) ∧
   Gb w (w.drew.alloc (.cells (vals.toArray++news.toArray++Builtin.zeroCells z.cells (grownCap w (n+m) old e-(n+m))) e)) row:=fun old row=>by
   have hge:=grownCap_ge w (n+m) old e;refine⟨⟨hlen,.inr ⟨w.heap.size,_,_,rfl,hbase,heap_alloc_new w.drew _,hge,grownCap_le_maxLen w _ old e (by simp only[maxLen];omega),?_,?_⟩⟩,⟨⟨rfl,rfl,rfl,by simp,fun k hk _=>heap_alloc_old w.drew _ hk⟩,Nat.le_succ _⟩⟩
   ·simp only[Array.size_append,List.size_toArray,size_zeroCells,hzs,hown.1,hl,← Nat.add_mul];exact Nat.mul_le_mul_right _ (by omega)
   ·simp only[Array.toList_append,List.append_assoc];rw[← List.append_assoc,← hlen];exact List.take_left
  show∃v' w',(Builtin.append_ #[t,t] ty #[v,.slice (some a) m c]).run P w= .ok v' w'∧C2 w' base e i.size v' (n+m) (vals++news)∧Gb w w' v.ownBlock∧(v'.ownBlock=v.ownBlock∨∃g,v'.ownBlock=some g∧w.heap.size≤g)
  rcases hown.2 with⟨rfl,rfl⟩|⟨g,cap,cur,rfl,hbg,hg,hnc,hcm,hcs,htake⟩
  ·have hv0:vals=[]:=List.eq_nil_of_length_eq_zero (by simpa using hown.1);subst hv0;have hr:=run_append_nil (P:=P) w t ty e i z ht hi hzz a m c news hl h1 (by omega) (by omega) (by have:=hroom.1;subst hib;simp only[Nat.zero_add]at this;omega);have hgr:=grown 0 (Value.ownBlock (.slice none 0 0));simp only[Nat.zero_add,List.nil_append,Array.empty_append]at hgr ⊢;exact⟨_,_,hr,hgr.1,hgr.2,.inr ⟨_,rfl,Nat.le_refl _⟩⟩
  ·by_cases hc:n+m≤cap
   ·have hcc:(n+m) * i.size≤cap * i.size:=Nat.mul_le_mul_right _ hc;have hfit:n * i.size+news.length≤cur.size:=by rw[hl,← Nat.add_mul];omega
    have hr:=run_append_room (P:=P) w t ty e i ht hi g n cap cur hg a m c news hl h1 h2 hc hfit;refine⟨_,_,hr,⟨hlen,.inr ⟨g,cap,_,rfl,hbg,setRow_heap w g cur _ e _ hg,hc,hcm,?_,?_⟩⟩,⟨⟨rfl,rfl,rfl,by simp,fun k _ hk=>setRow_other w g k _ (fun e=>hk (by simp[Value.ownBlock,e]))⟩,Nat.le_refl _⟩,.inl rfl⟩
    ·simp only[List.size_toArray,List.length_append,List.length_take,List.length_drop,Array.length_toList];omega
    ·rw[htake,← hlen];exact List.take_left
   ·have holds:∀(j:Nat) u,vals[j]? =some u→w.cell? ((⟨g,0,none⟩:Addr).add j)=some u:=hown.cells (g:=g) rfl;have hr:=run_append_grow (P:=P) w t ty e i z ht hi hzz ⟨g,0,none⟩ n cap vals hown.1 holds a m c news hl h1 (by omega) (by omega)
     (growslice_fits (by omega) (by rw[hib];exact hroom.1))
    have hgr:=grown cap (Value.ownBlock (.slice (some ⟨g,0,none⟩) n cap));exact⟨_,_,hr,hgr.1,hgr.2,.inr ⟨_,rfl,Nat.le_refl _⟩⟩
theorem Zx{a b:Value}:AB (.tuple [a,b].toArray) 0=a:=rfl
theorem Mq{a b:Value}{j:Nat}:AB (.tuple [a,b].toArray) (j+2)=undef:=by rw[Ce];rfl
theorem HA{T:Tb}(h:T.off=0){z:Nat}{xs:List D}:T.inn (.sl z xs)=xs:=by unfold Tb.inn;rw[h];rfl
theorem Rd{z:Nat}{xs:List D}:Fo 1 [D.sl z xs]:=fun x hx=>by
 simp only[List.mem_singleton]at hx;subst hx;exact⟨rfl,fun d hd=>by simp[D.comps]at hd;subst hd;rfl⟩
theorem J1(hI:At X (lk hp) ν used w)(hk:¬used key){t len:Nat}{ps:List (Nat×AV)}{vs:List (Nat×Value)}{r:AV}{es:List (Nat×Option HO)}{acc:List Nat}(hl:ps.length=vs.length)
 (h:∀(j:Nat) p q,ps[j]? =some p→vs[j]? =some q→p.1=q.1∧A5 w (Am X.M0 (lk hp) ν) (lk hp) ν used p.2 q.2) (he:BU P key (lk hp) t len ps=some (r,es,acc)) :
 ∃v w',(Instr.buildSlice t len vs.toArray).run P w= .ok v w'∧C7 X hp ν used w key (BO hp es) r v w':=by
 unfold BU at he;split at he
 ·rename_i p;obtain⟨p1,p2⟩:=p;split at he
  ·rename_i q m hp2;simp only at hp2;subst hp2;split at he
   ·rename_i e ei si xs hel ho;split at he
    ·rename_i sz hsz;split at he
     ·rename_i hc;obtain⟨hp1,_,rfl,rfl,hm,hzd⟩:=hc;simp only at hp1;subst hp1;simp only[Option.some.injEq,Prod.mk.injEq]at he;obtain⟨rfl,rfl,rfl⟩:=he;obtain⟨i0,v0,rfl⟩:∃i0 v0,vs=[(i0,v0)]:=by
       match vs,hl with
       | [(a,b)],_=>exact⟨a,b,rfl⟩
      obtain⟨e0,hr0⟩:=h 0 _ _ rfl rfl;simp only at e0 hr0;subst e0;have hku:used q:=hI.usd _ _ ho;have hkk:q≠key:=fun e=>hk (e▸hku);obtain⟨uvals,hown,hz,hf,hrow⟩:=hI.obj _ _ ho;have hv0:v0=ν q:=by
       cases hr0 with
       |own hu h1 hc ha h =>
        obtain⟨_,_,_,heq,_,hv⟩:=h _ ho;cases heq;exact hv hm
      subst hv0;obtain⟨sa,sc,hsl,_⟩:=Dq hown;obtain⟨zd,hzd⟩:=Option.isSome_iff_exists.1 hzd;obtain⟨z,hzr,_,_⟩:=EC hzd;have hcells:(ν q).cells = #[ν q]:=by rw[hsl];rfl
      have g1:∀c0:Value,Instr.fill (fun i=>some (i * 1,1)) #[c0] [(0,ν q)]=some #[ν q]:=fun c0=>by
       simp[Instr.fill,hcells]
      have hrun:(Instr.buildSlice t 1 [(0,ν q)].toArray).run P w= .ok (.slice (some ⟨w.heap.size,0,none⟩) 1 1) (w.alloc (.cells #[ν q] e)):=by
       have hg:Instr.fill (fun i=>some (i * 1,1)) ((Array.range (1 * 1)).map (fun q=>z.cells[q%z.cells.size]!)) [(0,ν q)]=some #[ν q]:=by
        have e1:Array.range (1 * 1) = #[0]:=by decide
        rw[e1,List.map_toArray];exact g1 _
       simp only[Instr.buildSlice,run_underlying (Bn hel),Sem.run_bind,Result.andThen_ok,AF hsz,if_neg (show¬1 * 1>2 ^ 24 by omega),if_neg (show¬1 * 1=0 by omega),Sem.run_pure,hzr,hg];simp[newRow]
      refine⟨_,_,hrun,?_⟩;generalize hw':w.alloc (.cells #[ν q] e)=w';have hgN:w'.heap[w.heap.size]? =some (.cells #[ν q] e (0,0)):=by rw[← hw'];exact heap_alloc_new w _
      have hold:∀b,b<w.heap.size→w'.heap[b]? =w.heap[b]? :=fun b hb=>by rw[← hw'];exact heap_alloc_old w _ hb
      have hsize:w.heap.size≤w'.heap.size∧w.heap.size<w'.heap.size:=by rw[← hw'];simp
      have hbl:Bl w.heap.size w w':=by rw[← hw'];exact Bl.grown (row:=none) ⟨World.grownBy_alloc w _ _,Nat.le_refl _⟩ (Nat.le_refl _) (fun b h=>by cases h)
      have hbel:Bl X.base w w':=hbl.mono hI.below.size;generalize hvn:(Value.slice (some ⟨w.heap.size,0,none⟩) 1 1)=vn;have hown0:C2 w' X.base e 1 vn 1 [ν q]:=by
       rw[← hvn];exact⟨rfl,.inr ⟨w.heap.size,1,#[ν q],rfl,hI.below.size,hgN,Nat.le_refl _,by simp[maxLen],by simp,rfl⟩⟩
      have hbn:∀b,Ag vn=some b↔b=w.heap.size:=fun b=>by rw[← hvn];simp[Ag];exact eq_comm
      have hqb:∀b,AL (ν q) b↔Ag (ν q)=some b:=fun b=>Iv hsl;generalize ho1:HO.tab ⟨e,1,0,ei,si⟩ [.sl si xs] none=o1;have hef:BO hp [(q,none),(key,some o1)]=put (DM hp q) key o1:=rfl;rw[hef];generalize hv1:(Value.tuple [vn,ν q].toArray)=v1;have hvb:∀b,AL v1 b→AL (ν q) b∨b=w.heap.size:=fun b hb=>by
       rw[← hv1]at hb;obtain⟨j,hj⟩:=Ib.1 hb
       match j with
       |0=>exact .inr ((hbn b).1 hj)
       |1=>exact .inl ((hqb b).2 hj)
       |j+2=>rw[Mq]at hj;cases hj
      let C:Nat→Prop:=fun j=>j=q∨j=key
      have hlk:∀j,lk (put (DM hp q) key o1) j=if j=key then some o1 else if j=q then none else lk hp j:=fun j=>by
       by_cases e:j=key
       ·subst e;rw[Ab,if_pos rfl]
       ·rw[A9 _ _ _ _ e,if_neg e];by_cases e':j=q
        ·subst e';rw[B3,if_pos rfl]
        ·rw[Bc _ _ _ e',if_neg e']
      have hsame:∀j o,¬C j→lk (put (DM hp q) key o1) j=some o→lk hp j=some o:=fun j o hC h=>by
       rw[hlk,if_neg (fun e=>hC (.inr e)),if_neg (fun e=>hC (.inl e))]at h;exact h
      have hνC:∀j,¬C j→upd ν key v1 j=ν j:=fun j hC=>Al _ _ _ _ (fun e=>hC (.inr e));have honly:∀j o,C j→lk (put (DM hp q) key o1) j=some o→j=key∧o=o1:=fun j o hC h=>by
       rcases hC with e|e
       ·subst e;rw[hlk,if_neg hkk,if_pos rfl]at h;cases h
       ·subst e;rw[Ab]at h;cases h;exact⟨rfl,rfl⟩
      have hx:CT (Am X.M0 (lk hp) ν) (lk hp) ν used w (Am X.M0 (lk (put (DM hp q) key o1)) (upd ν key v1)) (lk (put (DM hp q) key o1)) (upd ν key v1) (fun q=>used q∨q=key) w':=by
       refine CT.bulk C hsame hνC hsize.1 (fun b hb _=>hold b hb) (fun _ h=>.inl h) (fun j o b hC hj hb hlt=>?_) (fun j o hC hju hj=>?_)
       ·obtain⟨rfl,rfl⟩:=honly j o hC hj;rw[Ac]at hb;rcases hvb b hb with h|h
        ·exact⟨q,_,ho,h⟩
        ·omega
       ·obtain⟨rfl,rfl⟩:=honly j o hC hj;exact absurd hju hk
      have hI2:At X (lk (put (DM hp q) key o1)) (upd ν key v1) (fun q=>used q∨q=key) w':=by
       refine hI.bulk C hsame hνC hbel hx (fun j o hC hj=>.inr (honly j o hC hj).1) (fun j o b hC hj hb=>?_) (fun j o b hC hj hb=>hold b (hI.blk _ _ _ (hsame j o hC hj) hb).2) (fun j o hC hj=>?_)
       ·obtain⟨rfl,rfl⟩:=honly j o hC hj;rw[Ac]at hb;rcases hvb b hb with h|h
        ·refine⟨(hI.blk _ _ _ ho h).1,Nat.lt_of_lt_of_le (hI.blk _ _ _ ho h).2 hsize.1,hI.far _ _ _ ho h,fun j' o' hj' hb'=>?_⟩;by_cases hC2:C j'
         ·exact(honly j' o' hC2 hj').1
         ·rw[hνC j' hC2]at hb';exact absurd (.inl (hI.inj _ _ _ _ _ (hsame j' o' hC2 hj') ho hb' h)) hC2
        ·subst h;refine⟨hI.below.size,hsize.2,fun hh=>by have:=hI.M0 _ hh;omega,fun j' o' hj' hb'=>?_⟩;by_cases hC2:C j'
         ·exact(honly j' o' hC2 hj').1
         ·rw[hνC j' hC2]at hb';have:=(hI.blk _ _ _ (hsame j' o' hC2 hj') hb').2;omega
       ·obtain⟨rfl,rfl⟩:=honly j o hC hj;rw[Ac];subst ho1 hv1;have hqk:∀b,Ag (ν q)=some b→w'.heap[b]? =w.heap[b]? :=fun b hb=>hold b (hI.blk _ _ _ ho ((hqb b).2 hb)).2;refine⟨⟨_,rfl,rfl⟩,⟨Nat.zero_lt_one,hz,Rd⟩,fun i j b hi hj=>?_,[ν q],by rw[Zx];exact hown0,fun i r hi=>?_⟩
        ·have hne:Ag vn=some b→Ag (ν q)=some b→False:=fun h1 h2=>by
          have:=(hI.blk _ _ _ ho ((hqb b).2 h2)).2;have:=(hbn b).1 h1;omega
         match i,j with
         |0,0=>rfl
         |1,1=>rfl
         |0,1=>exact(hne hi hj).elim
         |1,0=>exact(hne hj hi).elim
         |i+2,_=>rw[Mq]at hi;cases hi
         |0,j+2=>rw[Mq]at hj;cases hj
         |1,j+2=>rw[Mq]at hj;cases hj
        ·cases i with
         |succ i=>simp at hi
         |zero =>
          simp only[List.getElem?_cons_zero,Option.some.injEq]at hi;subst hi;refine⟨⟨by rw[HA rfl];rfl,by rw[HA rfl];exact hf⟩,fun _=>⟨rfl,uvals,?_,?_⟩,(fun h=>by cases h),fun j d hj hd=>?_⟩
          ·rw[HA rfl];exact hown.keep hqk
          ·rw[HA rfl];exact hrow.mono hx.same hx.shrink
          ·have:=(List.getElem?_eq_some_iff.1 hd).1;simp[D.comps]at this;exact absurd this hj
      refine⟨_,hI2,hx,?_⟩;obtain⟨a,c,p1,p2,p3⟩:=Dq hown0;refine .tab (.inr rfl) p1 p2 p3 fun o ho'=>?_;rw[Ab]at ho';cases ho';subst ho1;exact⟨_,_,_,rfl,Nat.le_refl _,fun _=>by rw[Ac,← hv1];rfl⟩
     ·cases he
    ·cases he
   ·cases he
  ·cases he
 ·cases he
theorem KU(hI:At X (lk hp) ν used w)(hk:¬used key){t ty:TypeId}{k n q m:Nat}{r:AV}{vx vy:Value}{es:List (Nat×Option HO)}{acc:List Nat}
 (hx:A5 w (Am X.M0 (lk hp) ν) (lk hp) ν used (.tab k n) vx) (hy:A5 w (Am X.M0 (lk hp) ν) (lk hp) ν used (.tab q m) vy) (he:CW P (lk hp) t k n q m=some (r,es,acc)) :
 ∃v w',(Builtin.append_ #[t,t] ty #[vx,vy]).run P w= .ok v w'∧C7 X hp ν used w key (BO hp es) r v w':=by
 unfold CW at he;split at he
 ·rename_i e hel;split at he
  ·rename_i sz b hsz hb;split at he
   ·rename_i hzo;split at he
    ·rename_i T rows T2 z xs ho hoq;split at he
     ·rename_i hc;obtain⟨hn,rfl,rfl,hso,hoff,hsz1,hso2,hoff2,hei,hsi,rfl,hqk,hroom⟩:=hc;simp only[Option.some.injEq,Prod.mk.injEq]at he;obtain⟨rfl,rfl,rfl⟩:=he;obtain⟨⟨vsq,hvsq,hvsqz⟩,hq1,hq2,valsq,hownq,hrq⟩:=hI.obj _ _ hoq;obtain⟨⟨vs,hvs,hvsz⟩,h1,h2,vals,hown,hr⟩:=hI.obj _ _ ho;obtain⟨c1,c2,_,_⟩:=hrq 0 _ rfl;obtain⟨c3,us,c4,c5⟩:=c2 (by simp);rw[HA hoff2]at c1 c4 c5;rw[hei,hsi]at c4;rw[hsi]at c1 c5;rw[hso2,hoff2]at c3;rw[hso2]at hownq;have hvq1:valsq=[AB (ν q) 1]:=by
       have hlen:=hownq.1
       match valsq,hlen,c3 with
       | [x],_,c3=>simp at c3;rw[c3]
      subst hvq1;have hvx:vx=AB (ν k) 0:=by
       cases hx with
       |tab hu hv hcc ha h =>
        obtain⟨_,_,_,he,_,hvν⟩:=h _ ho;cases he;exact hvν hn
      have hvy:vy=AB (ν q) 0:=by
       cases hy with
       |tab hu hv hcc ha h =>
        obtain⟨_,_,_,he,_,hvν⟩:=h _ hoq;cases he;exact hvν rfl
      have hu:used k:=hI.usd _ _ ho;have huq:used q:=hI.usd _ _ hoq;subst hvx hvy;obtain⟨gq,cq,hslq⟩:∃g c,AB (ν q) 0= .slice (some ⟨g,0,none⟩) 1 c:=by
       rcases hownq.2 with⟨_,h⟩|⟨g,cap,cur,h,_⟩
       ·cases h
       ·exact⟨g,cap,h⟩
      obtain⟨su,sc,hslu,_⟩:=Dq c4;have hown1:C2 w X.base T.eo 1 (AB (ν k) 0) rows.length vals:=by rw[← hso];exact hown
      obtain⟨v',w',hrun,g1,g2,g5⟩:=LU (P:=P) hel (by rw[hsz,hsz1]) hb (by decide) hzo ty hown1 (a:=⟨gq,0,none⟩) (m:=1) (c:=cq) (news:=[AB (ν q) 1]) rfl
       (fun j u hj=>hownq.cells (g:=gq) (by rw[hslq];rfl) j u hj) (fun u hu=>by simp only[List.mem_singleton]at hu;subst hu;rw[hslu];rfl) (by decide) hroom hI.below.size
      rw[← hslq]at hrun;refine⟨v',w',hrun,?_⟩;generalize ho1:HO.tab T (rows++[.sl T.si xs]) none=o1;have hef:BO hp [(q,none),(k,some o1)]=put (DM hp q) k o1:=rfl;rw[hef];have hob':∀b,Ag v'=some b↔v'.ownBlock=some b:=fun b=>by
       rcases g1.2 with⟨h,_⟩|⟨g,cap,cur,h,_⟩<;>rw[h]<;>simp[Ag,Value.ownBlock]
      have hob0:∀b,Ag (AB (ν k) 0)=some b↔(AB (ν k) 0).ownBlock=some b:=fun b=>by
       rcases hown.2 with⟨h,_⟩|⟨g,cap,cur,h,_⟩<;>rw[h]<;>simp[Ag,Value.ownBlock]
      have hv0B:∀b,(AB (ν k) 0).ownBlock=some b→AL (ν k) b:=fun b hb=>AY hvs ((hob0 b).2 hb);have hq1B:∀b,Ag (AB (ν q) 1)=some b→AL (ν q) b:=fun b hb=>AY hvsq hb;generalize hv1:(Value.tuple (v'::(vs.toList.drop 1++[AB (ν q) 1])).toArray)=v1;have hv1B:∀b,AL v1 b→v'.ownBlock=some b∨(∃j,j≠0∧Ag (AB (ν k) j)=some b)∨Ag (AB (ν q) 1)=some b:=fun b hb=>by
       rw[← hv1]at hb;obtain⟨u,hu,hub⟩:=hb;simp only[List.toList_toArray,List.mem_cons,List.mem_append,List.not_mem_nil,or_false]at hu;rcases hu with rfl|hu|rfl
       ·exact .inl ((hob' b).1 hub)
       ·obtain⟨j,hj⟩:=List.mem_iff_getElem?.1 hu;rw[List.getElem?_drop]at hj;refine .inr (.inl ⟨1+j,by omega,?_⟩);rw[hvs];have:vs[1+j]? =some u:=by simpa using hj
        simp[AB,Array.getD_eq_getD_getElem?,this,hub]
       ·exact .inr (.inr hub)
      have hv'c:∀b,v'.ownBlock=some b→(AB (ν k) 0).ownBlock=some b∨w.heap.size≤b:=fun b hb=>by
       rcases g5 with h|⟨g,h,hle⟩
       ·exact .inl (h▸hb)
       ·rw[hb]at h;cases h;exact .inr hle
      have hv1O:∀b,AL v1 b→AL (ν k) b∨AL (ν q) b∨v'.ownBlock=some b∧w.heap.size≤b:=fun b hb=>by
       rcases hv1B b hb with h|⟨j,_,h⟩|h
       ·rcases hv'c b h with h'|h'
        ·exact .inl (hv0B b h')
        ·exact .inr (.inr ⟨h,h'⟩)
       ·exact .inl (AY hvs h)
       ·exact .inr (.inl (hq1B b h))
      let C:Nat→Prop:=fun j=>j=k∨j=q
      have hlk:∀j,lk (put (DM hp q) k o1) j=if j=k then some o1 else if j=q then none else lk hp j:=fun j=>by
       by_cases e:j=k
       ·subst e;rw[Ab,if_pos rfl]
       ·rw[A9 _ _ _ _ e,if_neg e];by_cases e':j=q
        ·subst e';rw[B3,if_pos rfl]
        ·rw[Bc _ _ _ e',if_neg e']
      have hsame:∀j o,¬C j→lk (put (DM hp q) k o1) j=some o→lk hp j=some o:=fun j o hC h=>by
       rw[hlk,if_neg (fun e=>hC (.inl e)),if_neg (fun e=>hC (.inr e))]at h;exact h
      have hνC:∀j,¬C j→upd ν k v1 j=ν j:=fun j hC=>Al _ _ _ _ (fun e=>hC (.inl e));have honly:∀j o,C j→lk (put (DM hp q) k o1) j=some o→j=k∧o=o1:=fun j o hC h=>by
       rcases hC with e|e
       ·subst e;rw[Ab]at h;cases h;exact⟨rfl,rfl⟩
       ·subst e;rw[hlk,if_neg hqk,if_pos rfl]at h;cases h
      have hvk0:AB v1 0=v':=by rw[← hv1,Ce];rfl
      have hvkS:∀i,i<rows.length→AB v1 (i+1)=AB (ν k) (i+1):=fun i hi=>by
       rw[← hv1,Ce,hvs];simp only[List.getD_eq_getElem?_getD,List.getElem?_cons_succ,AB,Array.getD_eq_getD_getElem?];rw[List.getElem?_append_left (by simp;omega),List.getElem?_drop];simp[Nat.add_comm]
      have hxx:CT (Am X.M0 (lk hp) ν) (lk hp) ν used w (Am X.M0 (lk (put (DM hp q) k o1)) (upd ν k v1)) (lk (put (DM hp q) k o1)) (upd ν k v1) used w':=by
       refine CT.bulk C hsame hνC g2.lo.size (fun b hb hO=>g2.lo.block b hb (fun h=>hO ⟨k,_,ho,hv0B b h.symm⟩)) (fun _ h=>h) (fun j o b hC hj hb hlt=>?_) (fun j o hC hju hj=>?_)
       ·obtain⟨rfl,rfl⟩:=honly j o hC hj;rw[Ac]at hb;rcases hv1O b hb with h|h|h
        ·exact⟨_,_,ho,h⟩
        ·exact⟨_,_,hoq,h⟩
        ·omega
       ·obtain⟨rfl,rfl⟩:=honly j o hC hj;refine⟨_,ho,?_,?_⟩
        ·rw[← ho1];refine⟨rfl,by simp,fun i hi=>⟨?_,fun h=>by cases h⟩⟩;unfold Tb.ilen;rw[List.getD_eq_getElem?_getD,List.getD_eq_getElem?_getD,List.getElem?_append_left hi];exact Nat.le_refl _
        ·rw[← ho1,Ac];exact⟨fun hl=>by simp at hl,fun i hi _ _=>hvkS i hi⟩
      have hbel:Bl X.base w w':=Bl.grown g2 hI.below.size (fun b hb=>(hI.blk _ _ _ ho (hv0B b hb)).1);have hkeep:∀j o b,lk hp j=some o→AL (ν j) b→(j=k→(AB (ν k) 0).ownBlock≠some b)→w'.heap[b]? =w.heap[b]? :=fun j o b hj hb hne =>
       g2.lo.block b (hI.blk _ _ _ hj hb).2 (fun h=>by
        have e:=hI.inj _ _ _ _ _ hj ho hb (hv0B b h.symm);exact hne e h.symm)
      have hI2:At X (lk (put (DM hp q) k o1)) (upd ν k v1) used w':=by
       refine hI.bulk C hsame hνC hbel hxx (fun j o hC hj=>by obtain⟨rfl,_⟩:=honly j o hC hj;exact hu) (fun j o b hC hj hb=>?_) (fun j o b hC hj hb=>hkeep j o b (hsame j o hC hj) hb (fun e=>absurd (.inl e) hC)) (fun j o hC hj=>?_)
       ·obtain⟨rfl,rfl⟩:=honly j o hC hj;rw[Ac]at hb;have hoth:∀j' o',lk (put (DM hp q) j o) j'=some o'→AL (upd ν j v1 j') b→j'≠j→j'≠q∧lk hp j'=some o'∧AL (ν j') b:=fun j' o' hj' hb' hne=>by
         rw[hlk,if_neg hne]at hj';rw[Al _ _ _ _ hne]at hb';split at hj'
         ·cases hj'
         ·rename_i h;exact⟨h,hj',hb'⟩
        rcases hv1O b hb with h|h|⟨h,hle⟩
        ·have hbk:=hI.blk _ _ _ ho h;refine⟨hbk.1,Nat.lt_of_lt_of_le hbk.2 g2.lo.size,hI.far _ _ _ ho h,fun j' o' hj' hb'=>?_⟩;by_cases hne:j'=j
         ·exact hne
         ·obtain⟨_,p1,p2⟩:=hoth j' o' hj' hb' hne;exact hI.inj _ _ _ _ _ p1 ho p2 h
        ·have hbk:=hI.blk _ _ _ hoq h;refine⟨hbk.1,Nat.lt_of_lt_of_le hbk.2 g2.lo.size,hI.far _ _ _ hoq h,fun j' o' hj' hb'=>?_⟩;by_cases hne:j'=j
         ·exact hne
         ·obtain⟨p0,p1,p2⟩:=hoth j' o' hj' hb' hne;exact absurd (hI.inj _ _ _ _ _ p1 hoq p2 h) p0
        ·refine⟨(g1.lt b h).1,(g1.lt b h).2,fun hh=>by have:=hI.M0 _ hh;omega,fun j' o' hj' hb'=>?_⟩;by_cases hne:j'=j
         ·exact hne
         ·obtain⟨_,p1,p2⟩:=hoth j' o' hj' hb' hne;have:=(hI.blk _ _ _ p1 p2).2;omega
       ·obtain⟨rfl,rfl⟩:=honly j o hC hj;rw[Ac];subst ho1 hv1;have hvs':=hvs;rw[hvs']at h2 hr;refine E6.app (w:=w) (M:=Am X.M0 (lk hp) ν) (vals:=vals) (news:=[AB (ν q) 1]) hvsz h1 h2 hown.1 hr (by rw[hso];exact Rd) rfl (fun i r u hi hu=>?_) (by rw[hso];exact g1) (fun j' b hj' hb'=>?_) (fun j' b hj' hb' hh=>?_) (fun i u b hu hb=>?_) hxx.same hxx.shrink
        ·cases i with
         |succ i=>simp at hi
         |zero =>
          simp only[List.getElem?_cons_zero,Option.some.injEq]at hi hu;subst hi hu;refine⟨⟨by rw[HA hoff,hoff];rfl,by rw[HA hoff];exact c1.2⟩,⟨by rw[hoff];simp,us,?_,?_⟩,fun j d hj hd=>?_⟩
          ·rw[HA hoff];exact c4.keep (fun b hb=>hkeep q _ b hoq (hq1B b hb) (fun e=>absurd e hqk))
          ·rw[HA hoff];exact c5.mono hxx.same hxx.shrink
          ·have:=(List.getElem?_eq_some_iff.1 hd).1;simp[D.comps]at this;exact absurd (this.trans hoff.symm) hj
        ·rw[← hvs']at hb' h2;exact hkeep j _ b ho (AY hvs hb') (fun _ h=>hj' (h2 _ _ _ hb' ((hob0 b).2 h)))
        ·rw[← hvs']at hb' h2;rcases hv'c b ((hob' b).1 hh)with h|h
         ·exact hj' (h2 _ _ _ hb' ((hob0 b).2 h))
         ·have:=(hI.blk _ _ _ ho (AY hvs hb')).2;omega
        ·cases i with
         |succ i=>simp at hu
         |zero =>
          simp only[List.getElem?_cons_zero,Option.some.injEq]at hu;subst hu;have hbq:=hq1B b hb;refine⟨fun hh=>?_,fun j' _ hb'=>?_,fun i' u' hu' _=>?_⟩
          ·rcases hv'c b ((hob' b).1 hh)with h|h
           ·exact hqk (hI.inj _ _ _ _ _ hoq ho hbq (hv0B b h))
           ·have:=(hI.blk _ _ _ hoq hbq).2;omega
          ·rw[← hvs']at hb';exact hqk (hI.inj _ _ _ _ _ hoq ho hbq (AY hvs hb'))
          ·cases i' with
           |zero=>rfl
           |succ i'=>simp at hu'
      obtain⟨m1,m2⟩:=hI2.more hk;refine⟨_,m1,hxx.trans m2,?_⟩;obtain⟨a,c,p1,p2,p3⟩:=Dq g1;refine .tab (.inl hu) p1 p2 p3 fun o ho'=>?_;rw[Ab]at ho';cases ho';subst ho1;exact⟨_,_,_,rfl,by simp,fun _=>by rw[Ac];exact hvk0.symm⟩
     ·cases he
    ·cases he
   ·cases he
  ·cases he
 ·cases he
theorem J0{P:Program}{key:Nat}{H H':Nat→Option HO}{t:TypeId}{len:Nat}{ps:List (Nat×AV)}{r:AV}{es:List (Nat×Option HO)}{acc:List Nat}(he:BU P key H t len ps=some (r,es,acc))(h:∀k∈acc,H' k=H k) :
 BU P key H' t len ps=some (r,es,acc):=by
 unfold BU at he ⊢;split at he
 ·rename_i p;obtain⟨p1,p2⟩:=p;split at he
  ·rename_i q m hp2;simp only at hp2;subst hp2;split at he
   ·rename_i e ei si xs hel ho;split at he
    ·rename_i sz hsz;split at he
     ·rename_i hc;simp only[Option.some.injEq,Prod.mk.injEq]at he;obtain⟨rfl,rfl,rfl⟩:=he;simp only[h q (by simp),ho,hel,hsz];rw[if_pos hc]
     ·cases he
    ·cases he
   ·cases he
  ·cases he
 ·cases he
theorem KT{P:Program}{H H':Nat→Option HO}{t:TypeId}{k n q m:Nat}{r:AV}{es:List (Nat×Option HO)}{acc:List Nat}(he:CW P H t k n q m=some (r,es,acc))(h:∀k∈acc,H' k=H k) :
 CW P H' t k n q m=some (r,es,acc):=by
 unfold CW at he ⊢;split at he
 ·rename_i e hel;split at he
  ·rename_i sz b hsz hb;split at he
   ·rename_i hzo;rw[if_pos hzo];split at he
    ·rename_i T rows T2 z xs ho hoq;split at he
     ·rename_i hc;simp only[Option.some.injEq,Prod.mk.injEq]at he;obtain⟨rfl,rfl,rfl⟩:=he;simp only[h k (by simp),h q (by simp),ho,hoq];rw[if_pos hc]
     ·cases he
    ·cases he
   ·cases he
  ·cases he
 ·cases he
def Nd(ps:List (Nat×AV)):Bool :=
 match ps with
 | [p]=>match p.2 with
   |.own _ _=>true
   |_=>false
 |_=>false
def Cy(P:Program)(key:Nat)(H:Nat→Option HO)(t:TypeId)(len:Nat)(ps:List (Nat×AV)):Option (AV×List (Nat×Option HO)×List Nat) :=
 if 500000≤key then(if Nd ps=true then BU P key H t len ps else BY P key H t len ps)else BY P key H t len ps
theorem J2(hI:At X (lk hp) ν used w)(hk:¬used key){t len:Nat}{ps:List (Nat×AV)}{vs:List (Nat×Value)}{r:AV}{es:List (Nat×Option HO)}{acc:List Nat}(hl:ps.length=vs.length)
 (h:∀(j:Nat) p q,ps[j]? =some p→vs[j]? =some q→p.1=q.1∧A5 w (Am X.M0 (lk hp) ν) (lk hp) ν used p.2 q.2) (he:Cy P key (lk hp) t len ps=some (r,es,acc)) :
 ∃v w',(Instr.buildSlice t len vs.toArray).run P w= .ok v w'∧C7 X hp ν used w key (BO hp es) r v w':=by
 unfold Cy at he;split at he
 ·split at he
  ·exact J1 hI hk hl h he
  ·exact FY hI hk hl h he
 ·exact FY hI hk hl h he
def CX(P:Program)(H:Nat→Option HO)(t:TypeId)(k n:Nat)(y:AV):Option (AV×List (Nat×Option HO)×List Nat) :=
 match y with
 |.tab q m=>CW P H t k n q m
 |y=>CV P H t (.tab k n) y
theorem KW(hI:At X (lk hp) ν used w)(hk:¬used key){t ty:TypeId}{k n:Nat}{y r:AV}{vx vy:Value}{es:List (Nat×Option HO)}{acc:List Nat}
 (hx:A5 w (Am X.M0 (lk hp) ν) (lk hp) ν used (.tab k n) vx) (hy:A5 w (Am X.M0 (lk hp) ν) (lk hp) ν used y vy) (he:CX P (lk hp) t k n y=some (r,es,acc)) :
 ∃v w',(Builtin.append_ #[t,t] ty #[vx,vy]).run P w= .ok v w'∧C7 X hp ν used w key (BO hp es) r v w':=by
 unfold CX at he;split at he
 ·exact KU hI hk hx hy he
 ·exact KS hI hk hx hy he
end
end Go.Eng
namespace Go.Eng
open Go.RowKit
def J3(P:Program)(key:Nat)(H:Nat→Option HO)(t:TypeId)(x:AV)(lo hi mx:Option AV):Option (AV×List (Nat×Option HO)×List Nat) :=
 match x with
 |.own k n=>if 500000≤key then
   match lo,hi,mx with
   |some l,none,none=>match H k,C3 P t,ofInt (some l) 0 with
    |some (.row e sz xs),some e',some l=>match BV P e' with
     |some sz'=>if n=xs.length∧e'=e∧sz'=sz∧l<n then some (.rv k n l (n-l) sz,[],[k])else none
     |none=>none
    |_,_,_=>none
   |_,_,_=>none
   else none
 |_=>none
def Hs(P:Program)(H:Nat→Option HO)(t:TypeId)(x:AV):Option (AV×List (Nat×Option HO)×List Nat) :=
 match x with
 |.rv k n lo m sz=>match H k,C3 P t with
  |some (.row e sz' xs),some e'=>match Av P e' with
   |some z=>if n=xs.length∧sz=1∧sz'=1∧0<m∧lo+m=n∧z.cell=true∧(AV.d z).sto=true∧z.comps.length=1 then some (.d (.tup []),[(k,some (.row e sz' (xs.take lo++List.replicate m z)))],[k])else none
   |none=>none
  |_,_=>none
 |_=>none
section
variable {P:Program} {X:DT} {hp:Aa} {ν:Nat→Value} {used:Nat→Prop} {w:World} {key:Nat}
theorem SD(hI:At X (lk hp) ν used w)(hk:¬used key){t:Nat}{x r:AV}{vx:Value}{lo hi mx:Option AV}{vlo vhi vmx:Option Value}{es:List (Nat×Option HO)}{acc:List Nat}
 (hx:A5 w (Am X.M0 (lk hp) ν) (lk hp) ν used x vx) (hlo:CU w (Am X.M0 (lk hp) ν) (lk hp) ν used lo vlo) (hhi:CU w (Am X.M0 (lk hp) ν) (lk hp) ν used hi vhi) (hmx:CU w (Am X.M0 (lk hp) ν) (lk hp) ν used mx vmx)
 (he:J3 P key (lk hp) t x lo hi mx=some (r,es,acc)):∃v,(Instr.sliceAt t vx vlo vhi vmx).run P w= .ok v w∧C7 X hp ν used w key (BO hp es) r v w:=by
 unfold J3 at he;split at he
 ·rename_i k n;split at he
  ·split at he
   ·rename_i l;split at he
    ·rename_i e sz xs e' l' ho hel hl;split at he
     ·rename_i sz' hsz;split at he
      ·rename_i hc;obtain⟨rfl,rfl,rfl,hln⟩:=hc;simp at he;obtain⟨rfl,rfl,rfl⟩:=he;cases hhi;cases hmx;cases hx with
       |own hu h1 hcc ha hr =>
        rename_i c0 a;obtain⟨e2,sz2,xs2,ho2,hn2,hv2⟩:=hr _ ho;cases ho2;have hν:=hv2 rfl;cases a with
        |none=>have:=(ha rfl).1;omega
        |some a =>
         rw[h1]at hν;subst h1;obtain⟨g,rfl,_⟩:=RI hI ho hν;cases hlo with
         |some hq =>
          rename_i vl;have hb:(Instr.sliceBounds true xs.length c0 (some vl) none none).run P w= .ok (l',xs.length,c0) w:=by
           simp only[ofInt]at hl;split at hl
           ·split at hl
            ·rename_i h0;simp at hl;cases hq with
             |d hq=>cases hq;subst hl;simp[Instr.sliceBounds,Dr h0 (y:=xs.length) (by omega)]
            ·cases hl
           ·cases hl
          refine⟨.slice (some ⟨g,l' * sz',none⟩) (xs.length-l') (c0-l'),?_,?_⟩
          ·rw[F4 hel];have hne:c0≠l':=by have:=hcc.1;omega
           simp only[Instr.slice,Sem.run_bind,run_underlying (Bn hel),Result.andThen_ok,hb,AF hsz,Sem.run_pure];rw[if_neg hne];simp[Addr.add_lit]
          ·refine C7.same hI hk (.rv hu ⟨by have:=hcc.1;omega,by have:=hcc.2;omega⟩ (by omega) fun o ho'=>?_);rw[ho]at ho';cases ho';exact⟨_,_,_,rfl,Nat.le_refl _,fun _=>⟨g,c0,hν.symm,rfl⟩⟩
      ·cases he
     ·cases he
    ·cases he
   ·cases he
  ·cases he
 ·cases he
theorem NY(hI:At X (lk hp) ν used w)(hk:¬used key){t ty:Nat}{x r:AV}{vx:Value}{es:List (Nat×Option HO)}{acc:List Nat}
 (hx:A5 w (Am X.M0 (lk hp) ν) (lk hp) ν used x vx) (he:Hs P (lk hp) t x=some (r,es,acc)):∃v w',(Builtin.clear_ #[t] ty #[vx]).run P w= .ok v w'∧C7 X hp ν used w key (BO hp es) r v w':=by
 unfold Hs at he;split at he
 ·rename_i k n lo m sz;split at he
  ·rename_i e sz' xs e' ho hel;split at he
   ·rename_i z hz;split at he
    ·rename_i hc;obtain⟨rfl,rfl,rfl,hm0,hlm,hzc,hzs,hzl⟩:=hc;simp at he;obtain⟨rfl,rfl,rfl⟩:=he;simp only[BO];obtain⟨zv,hzr,⟨i',hi',hzz⟩,hrep⟩:=EC hz;have hz1:=hrep w (fun _=>False);obtain⟨c1,c2,c3⟩:=CH hz1 hzs;have hone:zv.oneCell'=true:=hz1.oneCell hzc;have hcz:zv.cells = #[zv]:=by
      cases hz1<;>first|rfl|(simp[D.cell]at hzc;done)|(cases zv<;>first|rfl|(simp[Value.oneCell']at hone;done))
     cases hx with
     |rv hu hcc hle h =>
      rename_i c0 a;obtain⟨_,_,_,he1,_,hv⟩:=h _ ho;cases he1;obtain⟨g,c,hν,rfl⟩:=hv rfl;obtain⟨vals,hown,hzp,hf,hr⟩:=hI.obj _ _ ho;rw[hν]at hown;have hown0:=hown;rcases hown with⟨hvl,⟨h2,_⟩|⟨g',cap,cur,h2,hbg,hg,hnc,hcm,hcs,htake⟩⟩
      ·cases h2
      ·cases h2;have hst:=run_storeCells_at P g (lo * 1) e (List.replicate m zv) 0 cur w hg (by simp;omega) (fun u hu=>by rw[List.eq_of_mem_replicate hu];exact hone);have hzcs:(Builtin.zeroCells zv.cells m).toList=List.replicate m zv:=by
        rw[hcz];simp[Builtin.zeroCells];apply List.ext_getElem
        ·simp
        ·intro i h1 h2;simp[Nat.mod_one]
       have hrun:(Builtin.clear_ #[t] ty #[.slice (some ⟨g,lo * 1,none⟩) m c0]).run P w= .ok (.tuple #[]) (w.setRow g (Aj cur.toList (lo * 1) (List.replicate m zv)).toArray):=by
        obtain⟨m,rfl⟩:∃q,m=q+1:=⟨m-1,by omega⟩
        simp only[Nat.add_zero,Nat.mul_one]at hst;simp[Builtin.clear_,run_underlying (Bn hel),hzr,hzcs,hst,Aj]
       refine⟨_,_,hrun,?_⟩;have hb:AL (ν k) g:=by rw[hν];exact rfl
       have hxl:(xs.take lo++List.replicate m z).length=xs.length:=by simp;omega
       obtain⟨g1,g2⟩:=hI.write (o':=.row e 1 (xs.take lo++List.replicate m z)) ho hb (Aj cur.toList (lo * 1) (List.replicate m zv)).toArray ⟨rfl,rfl,by omega⟩
        (fun M' H' hx'=>by
          refine⟨Aj vals (lo * 1) (List.replicate m zv),?_,hzp,fun q hq=>?_,fun i' q j dd hq hdd=>?_⟩
          ·rw[hν,hxl];exact Ex hown0 (by simp;omega) hg (setRow_heap _ _ _ _ _ _ hg)
          ·rcases List.mem_append.1 hq with h|h
           ·exact hf q (List.mem_of_mem_take h)
           ·rw[List.eq_of_mem_replicate h];exact⟨hzl,c2⟩
          ·rw[AW _ _ _ (by simp;omega)];have hjl:=(List.getElem?_eq_some_iff.1 hdd).1;have hil:=(List.getElem?_eq_some_iff.1 hq).1;rw[hxl]at hil;by_cases hii:i'<lo
           ·rw[List.getElem?_append_left (by simp;omega),List.getElem?_take,if_pos hii]at hq;rw[(hf q (List.mem_of_getElem? hq)).1]at hjl;obtain⟨u,hu,hru⟩:=hr _ q j dd hq hdd;rw[if_neg (by omega)];exact⟨u,hu,hru.mono hx'.same hx'.shrink⟩
           ·rw[List.getElem?_append_right (by simp;omega),List.getElem?_replicate]at hq;split at hq
            ·cases hq;rw[hzl]at hjl;have hj0:j=0:=by omega
             subst hj0;rw[if_pos (by simp;omega)];refine⟨zv,by rw[List.getElem?_replicate,if_pos (by omega)],?_⟩;have:=(hrep w (Am X.M0 (lk hp) ν))
             obtain⟨_,_,c3'⟩:=CH this hzs;exact(c3' 0 _ zv hdd (by simp[hcz])).mono hx'.same hx'.shrink
            ·cases hq)
       obtain⟨m1,m2⟩:=g1.more hk;exact⟨ν,m1,g2.trans m2,.d (.tup rfl (fun i d v hd=>by simp at hd))⟩
    ·cases he
   ·cases he
  ·cases he
 ·cases he
theorem SC{H H':Nat→Option HO}{t:TypeId}{x:AV}{lo hi mx:Option AV}{q:AV×List (Nat×Option HO)×List Nat}(he:J3 P key H t x lo hi mx=some q)(h:∀k∈q.2.2,H' k=H k):J3 P key H' t x lo hi mx=some q:=by
 unfold J3 at he ⊢;split at he
 ·rename_i k n;split at he
  ·rename_i h5;rw[if_pos h5];split at he
   ·rename_i l;split at he
    ·rename_i e sz xs e' l' ho hel hl;split at he
     ·rename_i sz' hsz;split at he
      ·rename_i hc;simp only[Option.some.injEq]at he;subst he;have:=h k (by simp);simp only[this,ho,hel,hl,hsz];rw[if_pos hc]
      ·cases he
     ·cases he
    ·cases he
   ·cases he
  ·cases he
 ·cases he
theorem NX{H H':Nat→Option HO}{t:TypeId}{x:AV}{q:AV×List (Nat×Option HO)×List Nat}(he:Hs P H t x=some q)(h:∀k∈q.2.2,H' k=H k):Hs P H' t x=some q:=by
 unfold Hs at he ⊢;split at he
 ·rename_i k n lo m sz;split at he
  ·rename_i e sz' xs e' ho hel;split at he
   ·rename_i z hz;split at he
    ·rename_i hc;simp only[Option.some.injEq]at he;subst he;have:=h k (by simp);simp only[this,ho,hel,hz];rw[if_pos hc]
    ·cases he
   ·cases he
  ·cases he
 ·cases he
theorem R4{H:Nat→Option HO}{t:TypeId}{x:AV}{lo hi mx:Option AV}{q:AV×List (Nat×Option HO)×List Nat}(he:J3 P key H t x lo hi mx=some q):∃k n,x= .own k n:=by
 unfold J3 at he;split at he
 ·exact⟨_,_,rfl⟩
 ·cases he
end
def Js(P:Program)(s d:TypeId)(x:AV):Option AV :=
 match P.underlying s with
 |some _=>match x with
  |.d (.int _ n)=>match Jy P d with|some k=>some (.d (.int k (k.wrap n)))|none=>none
  |.d (.str b)=>if Ic P d=true then some (.d (.str b))else none
  |_=>none
 |none=>none
section
variable {P:Program} {ν:Nat→Value} {used:Nat→Prop} {w:World}
theorem PD{M:Nat→Prop}{H:Nat→Option HO}{s d:Nat}{x r:AV}{v:Value}(h:A5 w M H ν used x v)(he:Js P s d x=some r):∃u,(convert s d v).run P w= .ok u w∧A5 w M H ν used r u:=by
 unfold Js at he;split at he
 ·rename_i ds hs;split at he
  ·split at he
   ·rename_i k hk;simp at he;subst he;cases h with
    |d h=>cases h;exact⟨_,by cases ds<;>simp[convert,run_underlying hs,run_underlying (Rr hk),Conv.intToInt]<;>rfl,.d (by constructor)⟩
   ·cases he
  ·split at he
   ·rename_i hd;simp at he;subst he;cases h with
    |d h=>cases h;exact⟨_,by cases ds<;>simp[convert,run_underlying hs,run_underlying (HB hd)]<;>rfl,.d (by constructor)⟩
   ·cases he
  ·cases he
 ·cases he
end
def I0:List D→Option (List UInt8)
 | []=>some []
 |x::l=>match x with
  |.int k n=>if k= .u8∧0≤n∧n<256 then(match I0 l with|some r=>some (UInt8.ofNat n.toNat::r)|none=>none)else none
  |_=>none
def JX(P:Program)(H:Nat→Option HO)(s d:TypeId)(x:AV):Option (AV×List (Nat×Option HO)×List Nat) :=
 match Js P s d x with
 |some r=>some (r,[],[])
 |none=>match C3 P s,Cz H x with
  |some e,some (y,ks)=>match Jy P e,y with
   |some k,.sl z xs=>if k= .u8∧z=1∧Ic P d=true then
     match I0 xs with
     |some (b::l)=>some (.d (.str ⟨(b::l).toArray⟩),[],ks)
     |_=>none
    else none
   |_,_=>none
  |_,_=>none
theorem MC:∀{xs:List D} {l:List UInt8},I0 xs=some l→l.length=xs.length∧∀(i:Nat) b,l[i]? =some b→xs[i]? =some (.int .u8 (b.toNat:Int))
 | [],l,h=>by simp[I0]at h;subst h;exact⟨rfl,fun i b h=>by simp at h⟩
 |x::xs,l,h=>by
  cases x<;>simp only[I0]at h<;>try (cases h;done)
  split at h
  ·rename_i k n hc;obtain⟨rfl,h0,h1⟩:=hc;cases hb:I0 xs with
   |none=>rw[hb]at h;cases h
   |some r =>
    rw[hb]at h;simp only[Option.some.injEq]at h;subst h;obtain⟨g1,g2⟩:=MC hb;refine⟨by simp[g1],fun i b hi=>?_⟩;cases i with
    |zero =>
     simp at hi;subst hi;have e:(UInt8.ofNat n.toNat).toNat=n.toNat:=by simp;omega
     simp only[List.getElem?_cons_zero,Option.some.injEq,D.int.injEq,true_and];rw[e];omega
    |succ i=>simpa using g2 i b (by simpa using hi)
  ·cases h
theorem NZ{P:Program}{X:DT}{hp:Aa}{ν:Nat→Value}{used:Nat→Prop}{w:World}{key:Nat}(hI:At X (lk hp) ν used w)(hk:¬used key){s d:TypeId}{x r:AV}{vx:Value}{es:List (Nat×Option HO)}{acc:List Nat}
 (hx:A5 w (Am X.M0 (lk hp) ν) (lk hp) ν used x vx) (he:JX P (lk hp) s d x=some (r,es,acc)):∃v,(convert s d vx).run P w= .ok v w∧C7 X hp ν used w key (BO hp es) r v w:=by
 unfold JX at he;split at he
 ·rename_i r' hr;simp only[Option.some.injEq,Prod.mk.injEq]at he;obtain⟨rfl,rfl,rfl⟩:=he;obtain⟨u,hu,hq⟩:=PD (P:=P) hx hr;exact⟨u,hu,C7.same hI hk hq⟩
 ·split at he
  ·rename_i e y ks hel hd;split at he
   ·rename_i k z xs hk8;split at he
    ·rename_i hc;obtain⟨rfl,rfl,hst⟩:=hc;split at he
     ·rename_i b l hb;simp only[Option.some.injEq,Prod.mk.injEq]at he;obtain⟨rfl,rfl,rfl⟩:=he;have hr:=DJ hI hx hd;obtain⟨g1,g2⟩:=MC hb;generalize hM:Am X.M0 (lk (Bq hp ks)) ν=M' at hr;cases hr with
      |sl0=>simp at g1
      |sl val hbk hMb hc hm hs h1 h2 =>
       rename_i c a;refine⟨.string ⟨(b::l).toArray⟩,?_,C7.same hI hk (.d (by constructor))⟩;rw[← g1];refine run_convert_bytes_back w s d e a c (b::l) (Bn hel) (Rr hk8) (HB hst) fun j hj=>?_;have hx':=g2 j _ (List.getElem?_eq_getElem hj);have e1:=h1 j _ 0 _ hx' rfl;have e2:=h2 j _ 0 _ hx' rfl;cases e3:val j 0<;>rw[e3]at e2<;>cases e2;rw[e3]at e1;simpa using e1
     ·cases he
    ·cases he
   ·cases he
  ·cases he
def NJ(s:ByteArray):List D:=s.data.toList.map fun b=>.int .u8 (b.toNat:Int)
theorem S1(s:ByteArray):(NJ s).length=s.size:=by rw[NJ,List.length_map,Array.length_toList];rfl
def F5(P:Program)(H:Nat→Option HO)(t u:TypeId)(x y:AV):Option (AV×List (Nat×Option HO)×List Nat) :=
 match x,y with
 |.own k n,.d (.str s)=>match H k,C3 P t with
  |some (.row e sz xs),some e'=>if n=xs.length∧e'=e∧sz=1∧BV P e'=some 1∧E5 P e'=some 1∧CS P e'=true∧Ic P u=true∧n+s.size≤140737488355328 then
    some (.own k (xs++NJ s).length,[(k,some (.row e sz (xs++NJ s)))],[k])else none
  |_,_=>none
 |_,_=>none
theorem ND{P:Program}{w:World}{base:Nat}{t u e:TypeId}(hel:C3 P t=some e)(hu:Ic P u=true)(hsz:BV P e=some 1)(hb:E5 P e=some 1)(hzo:CS P e=true)(ty:TypeId)
 {v:Value} {n:Nat} {vals:List Value} (hown:C2 w base e 1 v n vals) (s:ByteArray) (hroom:n+s.size≤140737488355328) (hbase:base≤w.heap.size) :
 ∃v' w',(Builtin.append_ #[t,u] ty #[v,.string s]).run P w= .ok v' w'∧C2 w' base e 1 v' (n+s.size) (vals++Lib.strCells s)∧Gb w w' v.ownBlock ∧
  (v'.ownBlock=v.ownBlock∨∃g,v'.ownBlock=some g∧w.heap.size≤g)∧(s.size=0→v'=v):=by
 have ht:=Bn hel;have hu:=HB hu;obtain⟨i,hi,hisz⟩:=H2 hsz;have hib:i.bytes=1:=by simp[E5,hi]at hb;exact hb
 unfold CS at hzo;rw[hi]at hzo;simp only at hzo;cases hzz:i.zero with
 |none=>simp[hzz]at hzo
 |some z =>
  simp[hzz]at hzo;have hzs:z.cells.size=1:=by omega
  have hxl:vals.length=n:=by simpa using hown.1
  have hlen:(vals++Lib.strCells s).length=(n+s.size) * 1:=by rw[List.length_append,hxl,Lib.strCells_length,Nat.mul_one]
  have grown:∀(old:Nat) (row:Option Nat),
   C2 (w.drew.alloc (.cells (vals.toArray++(Lib.strCells s).toArray++Builtin.zeroCells z.cells (grownCap w (n+s.size) old e-(n+s.size))) e)) base e 1 (.slice (some ⟨w.heap.size,0,none⟩) (n+s.size) (grownCap w (n+s.size) old e)) (n+s.size) (vals++Lib.strCells s) ∧
   Gb w (w.drew.alloc (.cells (vals.toArray++(Lib.strCells s).toArray++Builtin.zeroCells z.cells (grownCap w (n+s.size) old e-(n+s.size))) e)) row:=fun old row=>by
   have hge:=grownCap_ge w (n+s.size) old e;refine⟨⟨hlen,.inr ⟨w.heap.size,_,_,rfl,hbase,heap_alloc_new w.drew _,hge,grownCap_le_maxLen w _ old e (by simp only[maxLen];omega),?_,?_⟩⟩,⟨⟨rfl,rfl,rfl,by simp,fun k hk _=>heap_alloc_old w.drew _ hk⟩,Nat.le_succ _⟩⟩
   ·simp only[Array.size_append,List.size_toArray,size_zeroCells,hzs,hxl,Lib.strCells_length];omega
   ·simp only[Array.toList_append,List.append_assoc];rw[← List.append_assoc,← hlen];exact List.take_left
  rcases hown.2 with⟨rfl,rfl⟩|⟨g,cap,cur,rfl,hbg,hg,hnc,hcm,hcs,htake⟩
  ·have hx:vals=[]:=List.eq_nil_of_length_eq_zero hxl;subst hx;by_cases hm:s.size=0
   ·have hn:Lib.strCells s=[]:=List.eq_nil_of_length_eq_zero (by rw[Lib.strCells_length];exact hm);refine⟨.slice none 0 0,w,?_,by rw[hm,hn];exact C2.nil,⟨⟨rfl,rfl,rfl,Nat.le_refl _,fun _ _ _=>rfl⟩,Nat.le_refl _⟩,.inl rfl,fun _=>rfl⟩;have hf:=Lib.run_firstCells_string (P:=P) w 1 s;rw[hm]at hf;simp[Builtin.append_,run_underlying ht,run_underlying hu,sizeOf,typeInfo,hi,hisz,Builtin.lenOf,hm,hf]
   ·have hr:=run_append_nil_string (P:=P) w t u ty e i z ht hu hi hzz s (by omega) (by omega) (by rw[hib];omega);have hgr:=grown 0 (Value.ownBlock (.slice none 0 0));simp only[Nat.zero_add,List.nil_append,Array.empty_append]at hgr ⊢;have e1:(s.data.map fun b=>Value.int .u8 b.toNat)=(Lib.strCells s).toArray:=by
     apply Array.ext';simp[Lib.strCells]
    rw[e1]at hr;exact⟨_,_,hr,hgr.1,hgr.2,.inr ⟨_,rfl,Nat.le_refl _⟩,fun h=>absurd h hm⟩
  ·by_cases hc:n+s.size≤cap
   ·have hr:=Lib.run_append_room_string (P:=P) w t u ty e i ht hu hi hisz g n cap cur hg s hc (by omega);refine⟨_,_,hr,⟨hlen,.inr ⟨g,cap,_,rfl,hbg,setRow_heap w g cur _ e _ hg,hc,hcm,?_,?_⟩⟩,⟨⟨rfl,rfl,rfl,by simp,fun k _ hk=>setRow_other w g k _ (fun e=>hk (by simp[Value.ownBlock,e]))⟩,Nat.le_refl _⟩,.inl rfl,fun h=>by simp[h]⟩
    ·simp only[List.size_toArray,List.length_append,List.length_take,List.length_drop,Array.length_toList,Lib.strCells_length];omega
    ·have ht':cur.toList.take n=vals:=by simpa using htake
     rw[ht',← hlen];exact List.take_left
   ·have holds:∀(j:Nat) u,vals[j]? =some u→w.cell? ((⟨g,0,none⟩:Addr).add j)=some u:=hown.cells (g:=g) rfl;have hr:=Lib.run_append_grow_string (P:=P) w t u ty e i z ht hu hi hzz ⟨g,0,none⟩ n cap vals (by rw[hisz];simpa using hxl) holds s (by omega) (by omega) (by rw[hib];exact growslice_fits (by omega) (by omega));have hgr:=grown cap (Value.ownBlock (.slice (some ⟨g,0,none⟩) n cap));exact⟨_,_,hr,hgr.1,hgr.2,.inr ⟨_,rfl,Nat.le_refl _⟩,fun h=>by omega⟩
theorem LJ{P:Program}{X:DT}{hp:Aa}{ν:Nat→Value}{used:Nat→Prop}{w:World}{key:Nat}(hI:At X (lk hp) ν used w)(hk:¬used key){t u ty:TypeId}{x y r:AV}{vx vy:Value}{es:List (Nat×Option HO)}{acc:List Nat}
 (hx:A5 w (Am X.M0 (lk hp) ν) (lk hp) ν used x vx) (hy:A5 w (Am X.M0 (lk hp) ν) (lk hp) ν used y vy) (he:F5 P (lk hp) t u x y=some (r,es,acc)) :
 ∃v w',(Builtin.append_ #[t,u] ty #[vx,vy]).run P w= .ok v w'∧C7 X hp ν used w key (BO hp es) r v w':=by
 unfold F5 at he;split at he
 ·rename_i k n s;split at he
  ·rename_i e sz xs e' ho hel;split at he
   ·rename_i hc;obtain⟨rfl,rfl,rfl,h1,h2,h3,h4,h5⟩:=hc;simp only[Option.some.injEq,Prod.mk.injEq]at he;obtain⟨rfl,rfl,rfl⟩:=he;cases hy with
    |d hy =>
    cases hy;cases hx with
    |own hu hv hcc ha h =>
     obtain⟨_,_,_,he,_,hvν⟩:=h _ ho;cases he;have hvν:=hvν rfl;obtain⟨vals,hown,_,hf,hrow⟩:=hI.obj _ _ ho;rw[hvν];obtain⟨v',w',hr,g1,g2,g5,g6⟩:=ND (P:=P) hel h4 h1 h2 h3 ty hown s h5 hI.below.size;refine⟨v',w',hr,?_⟩;have hfl:Fo 1 (NJ s):=fun q hq=>by
      obtain⟨b,_,rfl⟩:=List.mem_map.1 hq;exact⟨rfl,fun d hd=>by simp[D.comps]at hd;subst hd;rfl⟩
     have hrr:D6 w (Am X.M0 (lk hp) ν) 1 (NJ s) (Lib.strCells s):=fun i q j d hq hd=>by
      unfold NJ at hq;rw[List.getElem?_map]at hq;cases hb:s.data.toList[i]? with
      |none=>rw[hb]at hq;cases hq
      |some b =>
       rw[hb]at hq;simp only[Option.map_some,Option.some.injEq]at hq;subst hq;cases j with
       |zero =>
        simp[D.comps]at hd;subst hd;exact⟨.int .u8 (b.toNat:Int),by simp only[Lib.strCells,Nat.mul_one,Nat.add_zero,List.getElem?_map,hb,Option.map_some],.int _ _⟩
       |succ j=>simp[D.comps]at hd
     have:=G6 (key:=key) (k:=k) (xs':=xs++NJ s) hI hk (.inr ho) (by decide) (by rw[List.length_append,S1];exact g1) g2 g5 (fun _ hl=>g6 (by simp only[List.length_append,S1]at hl;omega)) (by simp) (hf.append hfl) (hrow.append hown.1 hf hrr);exact this
   ·cases he
  ·cases he
 ·cases he
theorem LI{P:Program}{H H':Nat→Option HO}{t u:TypeId}{x y:AV}{q:AV×List (Nat×Option HO)×List Nat}(he:F5 P H t u x y=some q)(h:∀k∈q.2.2,H' k=H k):F5 P H' t u x y=some q:=by
 unfold F5 at he ⊢;split at he
 ·rename_i k n s;split at he
  ·rename_i e sz xs e' ho hel;split at he
   ·rename_i hc;simp only[Option.some.injEq]at he;subst he;have:=h k (by simp);simp only[this,ho,hel];rw[if_pos hc]
   ·cases he
  ·cases he
 ·cases he
end Go.Eng
namespace Go.Eng
open Go.RowKit
def PG(P:Program)(t:TypeId)(x i:AV):Option AV :=
 match x,i with
 |.d (.agg fs),.d (.int k z)=>match LF P t with
  |some (n,e)=>match BV P e with
   |some sz=>if 0≤z∧z<n∧n * sz=fs.length∧0<sz then(Vg P e (fs.drop (z.toNat * sz))).map .d else none
   |none=>none
  |none=>none
 |_,_=>none
section
variable {P:Program} {w:World}
theorem RT{t n:Nat}(ha:AZ P t=some true)(hn:BV P t=some n)(cs:Array Value)(off:Nat):(part t cs off).run P w= .ok (.agg (cs.extract off (off+n))) w:=by
 simp[part,IT ha,AF hn]
theorem RU{t:Nat}(ha:AZ P t=some false){cs:Array Value}{off:Nat}{v:Value}(h:cs[off]? =some v):(part t cs off).run P w= .ok v w:=by
 simp[part,IT ha,h]
theorem PH{M:Nat→Prop}{H:Nat→Option HO}{ν:Nat→Value}{used:Nat→Prop}{t:TypeId}{x i r:AV}{vx vi:Value}(hx:A5 w M H ν used x vx)(hi:A5 w M H ν used i vi)(he:PG P t x i=some r) :
 ∃u,(Instr.index t vx vi).run P w= .ok u w∧A5 w M H ν used r u:=by
 unfold PG at he;split at he
 ·rename_i fs k z;split at he
  ·rename_i n e hn;split at he
   ·rename_i sz hz;split at he
    ·rename_i hc;obtain⟨z0,z1,z2,z3⟩:=hc;obtain⟨y,hy,rfl⟩:=Option.map_eq_some_iff.1 he;cases hx with
     |d hx =>
      cases hi with
      |d hi =>
       cases hi;cases hx with
       |agg hl hcl h =>
        rename_i cs;obtain⟨j,rfl⟩:=Int.eq_ofNat_of_zero_le z0;rw[Int.toNat_natCast]at hy;have hjn:j<n:=by omega
        have hbound:j * sz+sz≤cs.length:=by
         rw[← hl,← z2,← Nat.succ_mul];exact Nat.mul_le_mul_right _ hjn
        have hrun:(Instr.index t (.agg cs.toArray) (.int k (j:Int))).run P w=(part e cs.toArray (j * sz)).run P w:=by
         simp[Instr.index,asIntOf,run_underlying (JP hn),z1,AF hz];exact fun hx=>absurd hjn (by omega)
        rw[hrun];unfold Vg at hy;split at hy
        ·rename_i ha;rw[hz]at hy;simp only at hy;split at hy
         ·rename_i hle;simp only[Option.some.injEq]at hy;subst hy;refine⟨_,RT ha hz _ _,.d ?_⟩;rw[List.extract_toArray];have e1:cs.extract (j * sz) (j * sz+sz)=(cs.drop (j * sz)).take sz:=by
           rw[List.extract_eq_take_drop,Nat.add_sub_cancel_left]
          rw[e1];refine .agg (by simp;omega) (fun d hd=>hcl d (List.mem_of_mem_drop (List.mem_of_mem_take hd))) fun q d v hd hv=>?_;rw[List.getElem?_take]at hd hv;split at hd
          ·rename_i hq;rw[if_pos hq]at hv;rw[List.getElem?_drop]at hd hv;exact h _ d v hd hv
          ·cases hd
         ·cases hy
        ·rename_i ha;split at hy
         ·rename_i d rest hd;simp only[Option.some.injEq]at hy;subst hy;have h0:fs[j * sz]? =some d:=by
           have:=congrArg (·[0]?) hd;simpa[List.getElem?_drop]using this
          have hlt:j * sz<cs.length:=by omega
          have h1:cs[j * sz]? =some cs[j * sz]:=List.getElem?_eq_getElem hlt;refine⟨_,RU ha (v:=cs[j * sz]) (by simp),.d (h _ _ _ h0 h1)⟩
         ·cases hy
        ·cases hy
    ·cases he
   ·cases he
  ·cases he
 ·cases he
end
def OE(sz:Nat):List AV→List (Nat×AV)→Option (List AV)
 |cs,[]=>some cs
 |cs,(i,av)::ps=>if av.sto∧av.comps.length=sz∧i * sz+sz≤cs.length then OE sz (Aj cs (i * sz) av.comps) ps else none
def MO(P:Program)(t:TypeId)(ps:List (Nat×AV)):Option AV :=
 match LF P t with
 |some (_,e)=>match BV P e,Av P t with
  |some sz,some z=>if(AV.d z).sto then match OE sz (z.comps.map .d) ps with
   |some cs=>some (Qd cs)
   |none=>none
   else none
  |_,_=>none
 |none=>none
def JW(P:Program)(t:TypeId)(ps:List (Nat×AV)):Option AV:=if D8 P t then Hr P t ps else MO P t ps
section
variable {P:Program} {w:World} {M:Nat→Prop} {H:Nat→Option HO} {ν:Nat→Value} {used:Nat→Prop}
theorem OF{sz:Nat}:∀(ps:List (Nat×AV)) (vs:List (Nat×Value)) (cs:List AV) (cells:Array Value) (cs':List AV),
 ps.length=vs.length→(∀(j:Nat) p q,ps[j]? =some p→vs[j]? =some q→p.1=q.1∧A5 w M H ν used p.2 q.2) →
 cs.length=cells.size→(∀c∈cs,c.cell=true)→(∀(i:Nat) d v,cs[i]? =some d→cells.toList[i]? =some v→A5 w M H ν used d v) →
 OE sz cs ps=some cs' →
 ∃out,Instr.fill (fun i=>some (i * sz,sz)) cells vs=some out∧cs'.length=out.toList.length∧(∀c∈cs',c.cell=true)∧∀(i:Nat) d v,cs'[i]? =some d→out.toList[i]? =some v→A5 w M H ν used d v
 | [],vs,cs,cells,cs',hl,h,hlen,hc,hr,he=>by
   cases vs with
   |cons _ _=>simp at hl
   |nil =>
    simp[OE]at he;subst he;exact⟨cells,rfl,by simpa using hlen,hc,hr⟩
 |(i,av)::ps,vs,cs,cells,cs',hl,h,hlen,hc,hr,he=>by
  cases vs with
  |nil=>simp at hl
  |cons q vs =>
   obtain⟨i',v⟩:=q;obtain⟨e1,e2⟩:=h 0 _ _ rfl rfl;simp only at e1 e2;subst e1;simp only[OE]at he;split at he
   ·rename_i hcond;obtain⟨hs,hn,hle⟩:=hcond;obtain⟨c1,c2,c3⟩:=Ix e2 hs;have hsz:v.cells.size=sz:=by
     have:v.cells.toList.length=sz:=by omega
     simpa using this
    have hfold:=Ia v.cells.toList cells (i * sz) (by simp;omega);obtain⟨out,g1,g2,g3,g4⟩:=OF ps vs (Aj cs (i * sz) av.comps) ((v.cells.zipIdx.foldl (fun cs (c,j)=>cs.setIfInBounds ((i * sz)+j) c) cells)) cs' (by simpa using hl)
     (fun j p q hp hq=>h (j+1) p q (by simpa using hp) (by simpa using hq))
     (by rw[AX _ _ _ (by omega)]
         have:=congrArg List.length hfold;rw[AX _ _ _ (by simp;omega)]at this;rw[hlen];simp only[Array.length_toList]at this;rw[← this,← Array.foldl_toList];simp[Array.toList_zipIdx])
     (fun c hc'=>by
       unfold Aj at hc';simp at hc';rcases hc' with h|h|h
       ·exact hc c (List.mem_of_mem_take h)
       ·exact c2 c h
       ·exact hc c (List.mem_of_mem_drop h))
     (fun j d u hd hu=>by
       have e:(v.cells.zipIdx.foldl (fun cs (c,j)=>cs.setIfInBounds ((i * sz)+j) c) cells).toList=Aj cells.toList (i * sz) v.cells.toList:=by
        rw[← hfold,← Array.foldl_toList];simp[Array.toList_zipIdx]
       rw[e]at hu;rw[AW _ _ _ (by omega)]at hd;rw[AW _ _ _ (by simp;omega),c1]at hu;split at hd
       ·rename_i hj;rw[if_pos hj]at hu;exact c3 _ _ _ hd hu
       ·rename_i hj;rw[if_neg hj]at hu;exact hr j d u hd hu) he
    refine⟨out,?_,g2,g3,g4⟩;simp only[Instr.fill];rw[if_neg (by simp[hsz];omega)];exact g1
   ·cases he
theorem MP{t:Nat}{ps:List (Nat×AV)}{vs:List (Nat×Value)}{r:AV}(hl:ps.length=vs.length)(h:∀(j:Nat) p q,ps[j]? =some p→vs[j]? =some q→p.1=q.1∧A5 w M H ν used p.2 q.2)(he:JW P t ps=some r) :
 ∃u,(Instr.build t vs.toArray).run P w= .ok u w∧A5 w M H ν used r u:=by
 unfold JW at he;split at he
 ·exact NW hl h he
 ·unfold MO at he;split at he
  ·rename_i n e hn;split at he
   ·rename_i sz z hz hzd;split at he
    ·rename_i hs;split at he
     ·rename_i cs hcs;simp only[Option.some.injEq]at he;subst he;obtain⟨zv,hzr,_,hzrep⟩:=EC hzd;obtain⟨c1,c2,c3⟩:=CH (hzrep w M) hs;obtain⟨out,g1,g2,g3,g4⟩:=OF (w:=w) (M:=M) (H:=H) (ν:=ν) (used:=used) (sz:=sz) ps vs (z.comps.map .d) zv.cells cs hl h (by simpa using c1.symm)
       (fun c hc=>by simp at hc;obtain⟨y,hy,rfl⟩:=hc;exact c2 y hy)
       (fun i d u hd hu=>by simp at hd;obtain⟨y,hy,rfl⟩:=hd;exact .d (c3 i y u hy hu)) hcs
      refine⟨_,?_,Ns g2 g3 g4⟩;simp only[Instr.build,Sem.run_bind,hzr,Result.andThen_ok,run_underlying (JP hn),AF hz,g1,Sem.run_pure]
     ·cases he
    ·cases he
   ·cases he
  ·cases he
end
end Go.Eng

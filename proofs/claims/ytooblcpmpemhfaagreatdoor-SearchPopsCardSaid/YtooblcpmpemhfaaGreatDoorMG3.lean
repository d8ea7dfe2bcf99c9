/- The engine, part 10: one operation. (and what stands behind it: texts laid together) -/
import Derived.Test.YtooblcpmpemhfaaGreatDoorMG2
import Derived.Orders
import Derived.RangeFuncRecord
import Derived.RangeFuncLeaves
import Derived.RangeFuncCalls
import Derived.OrdersIn
import Derived.TacticsIn
import Derived.Tactics
import Derived.Still
import Derived.KernelRfl
import Derived.Laws.Externs
import Derived.Scope
set_option linter.unusedVariables false
set_option linter.unusedSimpArgs false
set_option maxHeartbeats 32000000
set_option maxRecDepth 100000
namespace Go.Eng
open Go.RowKit
abbrev cH:=Option (AV×List (Nat×Option HO)×List Nat)
def MQ(P:Program)(t:TypeId)(x:AV):Option AV :=
 match x with
 |.d x=>match x with
  |.str s=>if Ic P t=true then some (.d (.int .i64 s.size))else none
  |.sl _ xs=>match C3 P t with|some _=>some (.d (.int .i64 xs.length))|none=>none
  |.nils=>match C3 P t with|some _=>some (.d (.int .i64 0))|none=>none
  |.emp _=>match C3 P t with|some _=>some (.d (.int .i64 0))|none=>none
  |_=>none
 |.clip _ xs=>match C3 P t with|some _=>some (.d (.int .i64 xs.length))|none=>none
 |.own _ n=>match C3 P t with|some _=>some (.d (.int .i64 n))|none=>none
 |.tab _ n=>match C3 P t with|some _=>some (.d (.int .i64 n))|none=>none
 |.trow _ _ n=>match C3 P t with|some _=>some (.d (.int .i64 n))|none=>none
 |.vs _ _ n=>match C3 P t with|some _=>some (.d (.int .i64 n))|none=>none
 |.rv _ _ _ m _=>match C3 P t with|some _=>some (.d (.int .i64 m))|none=>none
 |_=>none
def Jb(x y:AV):Option AV :=
 match x,y with
 |.d (.int k a),.d (.int _ b)=>some (.d (.int k (if b<a then b else a)))
 |_,_=>none
def Ja(x y:AV):Option AV :=
 match x,y with
 |.d (.int k a),.d (.int _ b)=>some (.d (.int k (if b>a then b else a)))
 |_,_=>none
def DZ(f:AV→AV→Option AV):Option AV→List AV→Option AV
 |some a,x::l=>DZ f (f a x) l
 |r,_=>r
def OD(x:AV):Option AV :=
 match x with
 |.ref k o=>some (.ref k o)
 |.eref k n i s o=>some (.eref k n i s o)
 |.dref f=>some (.dref f)
 |.fn f c=>some (.fn f c)
 |.d (.fn f)=>some (.d (.fn f))
 |.d (.ptr f)=>some (.dref f)
 |.toref k n i s o=>some (.toref k n i s o)
 |.tref k i m j s o=>some (.tref k i m j s o)
 |.yld k=>some (.yld k)
 |_=>none
def Eu(x:AV)(i:Nat):Option AV :=
 match x with
 |.tup vs=>vs[i]?
 |.d (.tup ds)=>match ds[i]? with|some d=>some (.d d)|none=>none
 |_=>none
def GR(x:Option AV):cH:=match x with|some a=>some (a,[],[])|none=>none
def CN(P:Program)(key:Nat)(H:Nat→Option HO)(t:TypeId)(sz':Nat)(xs:List D)(y:AV):cH :=
 match C3 P t with
 |none=>none
 |some e=>match BV P e,E5 P e with
  |some sz,some b=>if 0<sz∧CS P e=true∧sz'=sz then
    match Cz H y with
    |some (d,ks)=>match HM sz d with
     |some ys=>match ys with
      | []=>some (.clip sz xs,ks.map (fun q=>(q,none)),ks)
      |y::ys=>if JC (xs.length+(y::ys).length) b then some (.own key (xs++y::ys).length,ks.map (fun q=>(q,none))++[(key,some (.row e sz (xs++y::ys)))],ks)else none
     |none=>none
    |none=>none
   else none
  |_,_=>none
def Fv(P:Program)(H:Nat→Option HO)(t:TypeId)(a x:AV):Option (List (Nat×Option HO)×List Nat) :=
 match a with
 |.toref k m i sz off=>Dz P H t (.toref k m i sz off) x
 |.tref k i m j sz off=>Dz P H t (.tref k i m j sz off) x
 |a=>Gh P H t a x
def EQ(P:Program)(key:Nat)(H:Nat→Option HO)(t:TypeId)(x:AV)(lo hi mx:Option AV):cH :=
 match Ej P H t x lo hi mx with
 |some r=>some r
 |none=>match J3 P key H t x lo hi mx with
  |some r=>some r
  |none=>Dy P key H t x lo hi mx
def Fu(P:Program)(key:Nat)(H:Nat→Option HO)(t:TypeId)(x:AV)(lo hi mx:Option AV):cH :=
 match x with
 |.vs k off n=>Fl P H t (.vs k off n) lo hi mx
 |x=>EQ P key H t x lo hi mx
def Et(P:Program)(key:Nat)(ρ:Operand→AV)(H:Nat→Option HO)(b:Builtin)(args:Array Operand)(ts:Array TypeId):cH :=
 match b with
 |.len=>match args.toList,ts.toList with
  | [x],[t]=>GR (MQ P t (ρ x))
  |_,_=>none
 |.min=>match args.toList with
  |x::y::l=>GR (DZ Jb (Jb (ρ x) (ρ y)) (l.map ρ))
  |_=>none
 |.max=>match args.toList with
  |x::y::l=>GR (DZ Ja (Ja (ρ x) (ρ y)) (l.map ρ))
  |_=>none
 |.append=>match args.toList,ts.toList with
  | [x,y],[t,t']=>if t'=t then
     match ρ x with
     |.clip sz xs=>CN P key H t sz xs (ρ y)
     |.trow k i n=>Dp P key H t k i n (ρ y)
     |.tab k n=>CX P H t k n (ρ y)
     |x=>match CC P H t x (ρ y)with
      |some r=>some r
      |none=>E8 P key H t x (ρ y)
    else F5 P H t t' (ρ x) (ρ y)
  |_,_=>none
 |.copy=>match args.toList,ts.toList with
  | [x,y],[t,_]=>match ρ x with
    |.trow k i n=>Fi P H t (.trow k i n) (ρ y)
    |x=>Gu P H t x (ρ y)
  |_,_=>none
 |.clear=>match args.toList,ts.toList with
  | [x],[t]=>Hs P H t (ρ x)
  |_,_=>none
 |_=>none
noncomputable def Ft(P:Program)(key:Nat)(ρ:Operand→AV)(H:Nat→Option HO)(o:Op):cH :=
 match o with
 |.move x=>some (ρ x,[],[])
 |.assign x=>some (ρ x,[],[])
 |.pick c a b=>match ρ c with| .d (.bool t)=>some (if t then ρ a else ρ b,[],[])|_=>none
 |.alloc t=>match Av P t with
  |some z=>if(AV.d z).sto=true then some (.ref key 0,[(key,some (.var (AV.d z).comps))],[])else none
  |none=>none
 |.box _ x=>if(ρ x).sto=true then some (.ref key 0,[(key,some (.var (ρ x).comps))],[])else none
 |.build t ps=>GR (JW P t (ps.toList.map fun p=>(p.1,ρ p.2)))
 |.buildSlice t len ps=>Cy P key H t len (ps.toList.map fun p=>(p.1,ρ p.2))
 |.load t a=>match G1 P H t (ρ a)with|some (x,acc)=>some (x,[],acc)|none=>none
 |.store t a x=>match Fv P H t (ρ a) (ρ x)with|some (es,acc)=>some (.undef,es,acc)|none=>none
 |.nilCheck x=>GR (OD (ρ x))
 |.binOp op t x y _=>match ML P t op (ρ x) (ρ y)with
  |some r=>GR (some r)
  |none=>GR (MN P t op (ρ x) (ρ y))
 |.unOp op _ x=>GR (SE op (ρ x))
 |.convert s d x=>JX P H s d (ρ x)
 |.makeFunc fn first caps=>match fn with
  |.func f=>match first.toList,caps.toList with
   | [],[]=>some (.d (.fn f),[],[])
   | [],c::cs=>some (.fn f ((c::cs).map ρ),[],[])
   | [b],[]=>match ρ b with
     |.ref k o=>some (.mref f k o,[],[])
     |_=>none
   |_,_=>none
  |_=>none
 |.makeSlice t l c=>Jt P key t (ρ l) (ρ c)
 |.slice t x lo hi mx=>Fu P key H t (ρ x) (lo.map ρ) (hi.map ρ) (mx.map ρ)
 |.makeMap t r=>match r with
  |none=>F6 P key t false
  |some _=>none
 |.lookup t x i ok=>match E9 P H t (ρ x) (ρ i) ok with
  |some (r,acc)=>some (r,[],acc)
  |none=>none
 |.mapUpdate t m k x=>match Ea P H t (ρ m) (ρ k) (ρ x)with
  |some (es,acc)=>some (.undef,es,acc)
  |none=>none
 |.range t x=>Fk key P H t (ρ x)
 |.entry it=>match Fj H (ρ it)with
  |some (r,acc)=>some (r,[],acc)
  |none=>none
 |.fieldAddr s x f=>GR (Hu P s (ρ x) f)
 |.indexAddr t x i=>GR (Hv P t (ρ x) (ρ i))
 |.index t x i=>GR (PG P t (ρ x) (ρ i))
 |.extract t i=>GR (Eu (ρ t) i)
 |.call c=>match c.callee with
  |.builtin b=>Et P key ρ H b c.args c.argTypes
  |_=>none
 |_=>none
section
variable {P:Program} {X:DT} {hp:Aa} {ν:Nat→Value} {used:Nat→Prop} {w:World} {key:Nat}
theorem CK{x:Option AV}{r:AV}{es:List (Nat×Option HO)}{acc:List Nat}(h:GR x=some (r,es,acc)):x=some r∧es=[]∧acc=[]:=by
 cases x with
 |none=>simp[GR]at h
 |some a=>simp[GR]at h;obtain⟨rfl,rfl,rfl⟩:=h;exact⟨rfl,rfl,rfl⟩
theorem R3{M:Nat→Prop}{H:Nat→Option HO}{t ty:Nat}{x r:AV}{v:Value}(h:A5 w M H ν used x v)(he:MQ P t x=some r):∃u,(Builtin.len_ #[t] ty #[v]).run P w= .ok u w∧A5 w M H ν used r u:=by
 unfold MQ at he;split at he
 ·cases h with
  |d h =>
   split at he
   ·split at he
    ·rename_i hs;cases h;simp at he;subst he;exact⟨_,by simp[Builtin.len_,run_underlying (HB hs),goInt];rfl,.d (by constructor)⟩
    ·cases he
   ·split at he
    ·rename_i e hel;simp at he;subst he;obtain⟨a,c,rfl,_⟩:=h.sl_val;exact⟨_,by simp[Builtin.len_,run_underlying (Bn hel),goInt];rfl,.d (by constructor)⟩
    ·cases he
   ·split at he
    ·rename_i e hel;cases h;simp at he;subst he;exact⟨.int .i64 0,by simp[Builtin.len_,run_underlying (Bn hel),goInt],.d (by constructor)⟩
    ·cases he
   ·split at he
    ·rename_i e hel;cases h;simp at he;subst he;exact⟨.int .i64 0,by simp[Builtin.len_,run_underlying (Bn hel),goInt],.d (by constructor)⟩
    ·cases he
   ·cases he
 ·split at he
  ·rename_i e hel;simp at he;subst he;cases h with
   |clip h=>exact⟨_,by simp[Builtin.len_,run_underlying (Bn hel),goInt];rfl,.d (by constructor)⟩
  ·cases he
 ·split at he
  ·rename_i e hel;simp at he;subst he;cases h with
   |own hu hv hc ha h=>subst hv;exact⟨_,by simp[Builtin.len_,run_underlying (Bn hel),goInt];rfl,.d (by constructor)⟩
  ·cases he
 ·split at he
  ·rename_i e hel;simp at he;subst he;cases h with
   |tab hu hv hc ha h=>subst hv;exact⟨_,by simp[Builtin.len_,run_underlying (Bn hel),goInt];rfl,.d (by constructor)⟩
  ·cases he
 ·split at he
  ·rename_i e hel;simp at he;subst he;cases h with
   |trow hu hv hc ha h=>subst hv;exact⟨_,by simp[Builtin.len_,run_underlying (Bn hel),goInt];rfl,.d (by constructor)⟩
  ·cases he
 ·split at he
  ·rename_i e hel;simp at he;subst he;cases h with
   |vs hu hc h=>exact⟨_,by simp[Builtin.len_,run_underlying (Bn hel),goInt];rfl,.d (by constructor)⟩
  ·cases he
 ·split at he
  ·rename_i e hel;simp at he;subst he;cases h with
   |rv hu hc hl h=>exact⟨_,by simp[Builtin.len_,run_underlying (Bn hel),goInt];rfl,.d (by constructor)⟩
  ·cases he
 ·cases he
theorem LN{M:Nat→Prop}{H:Nat→Option HO}{i:Nat}{x r:AV}{v:Value}(h:A5 w M H ν used x v)(he:Eu x i=some r):∃u,(Instr.extract v i).run P w= .ok u w∧A5 w M H ν used r u:=by
 unfold Eu at he;split at he
 ·rename_i vs;cases h with
  |tup hl h =>
   rename_i cs;have hi:=(List.getElem?_eq_some_iff.1 he).1;have hc:=List.getElem?_eq_getElem (l:=cs) (i:=i) (by omega);exact⟨cs[i]'(by omega),by simp[Instr.extract,hc],h i r _ he hc⟩
 ·rename_i ds;split at he
  ·rename_i d hd;simp at he;subst he;cases h with
   |d h=>cases h with
    |tup hl h =>
     rename_i cs;have hi:=(List.getElem?_eq_some_iff.1 hd).1;have hc:=List.getElem?_eq_getElem (l:=cs) (i:=i) (by omega);exact⟨cs[i]'(by omega),by simp[Instr.extract,hc],.d (h i d _ hd hc)⟩
  ·cases he
 ·cases he
theorem Jr(hI:At X (lk hp) ν used w)(hk:¬used key){t ty:TypeId}{sz':Nat}{xs:List D}{y r:AV}{vx vy:Value}{es:List (Nat×Option HO)}{acc:List Nat}
 (hx:A5 w (Am X.M0 (lk hp) ν) (lk hp) ν used (.clip sz' xs) vx) (hy:A5 w (Am X.M0 (lk hp) ν) (lk hp) ν used y vy) (he:CN P key (lk hp) t sz' xs y=some (r,es,acc)) :
 ∃v w',(Builtin.append_ #[t,t] ty #[vx,vy]).run P w= .ok v w'∧C7 X hp ν used w key (BO hp es) r v w':=by
 unfold CN at he;split at he
 ·cases he
 ·rename_i e hel;split at he
  ·rename_i sz b hsz hb;split at he
   ·rename_i hc;obtain⟨hz,hzo,rfl⟩:=hc;split at he
    ·rename_i d ks hd;split at he
     ·rename_i ys hys;obtain⟨hI1,x1⟩:=hI.drops ks;have hdr:=IC (DJ hI hy hd) hys;obtain⟨i,hi,hisz⟩:=H2 hsz;subst hisz;have hib:i.bytes=b:=by simp[E5,hi]at hb;exact hb
      have ht:=Bn hel;have hxr:=hx.ext x1;cases hx with
      |clip hx =>
       rename_i ao;split at he
       ·simp at he;obtain⟨rfl,rfl,rfl⟩:=he;rw[IB];refine⟨_,_,?_,(C7.same hI1 hk hxr).after x1⟩;obtain⟨a,c,rfl,h1,h2,h3⟩:=hdr.sl_val;cases a with
        |none=>cases ao<;>simp[Builtin.append_,run_underlying ht,AF hsz,Builtin.lenOf,Builtin.firstCells,storeCells]
        |some a=>cases ao<;>simp[Builtin.append_,run_underlying ht,AF hsz,Builtin.lenOf,Builtin.firstCells,loadCells,loadCellsFrom,storeCells]
       ·rename_i y0 ys;split at he
        ·rename_i hroom;simp only[Option.some.injEq,Prod.mk.injEq]at he;obtain⟨rfl,rfl,rfl⟩:=he;rw[EO];obtain⟨a,c,rfl,h1,h2,h3⟩:=hdr.sl_val;cases a with
         |none=>exact absurd (h3 rfl).1 (by simp)
         |some a =>
          obtain⟨news,hl,_,n1,n2,n3,n4⟩:=Ju hz hdr;unfold CS at hzo;rw[hi]at hzo;simp only at hzo;cases hzz:i.zero with
          |none=>simp[hzz]at hzo
          |some z =>
           simp[hzz]at hzo;obtain⟨hI2,x2⟩:=hI1.reν hk (.slice none 0 0);have hroom':=hroom;obtain⟨q1,q2⟩:=hroom;simp only[List.length_cons]at q1 q2 hl;have fin:∀(olds:List Value) (cap:Nat),olds.length=xs.length * i.size→xs.length+(ys.length+1)≤cap→cap≤maxLen→Fo i.size xs→D6 w (Am X.M0 (lk (Bq hp ks)) ν) i.size xs olds →
            ∀(z':Array Value),z'.size=(cap-(xs.length+(ys.length+1))) * i.size →
            C7 X hp ν used w key (put (Bq hp ks) key (.row e i.size (xs++y0::ys))) (.own key (xs++y0::ys).length) (.slice (some ⟨w.heap.size,0,none⟩) (xs.length+(ys.length+1)) cap) (w.drew.alloc (.cells (olds.toArray++news.toArray++z') e)):=by
            intro olds cap ho hcap hcm hf hrow z' hz';have hlen:(xs++y0::ys).length=xs.length+(ys.length+1):=by simp
            have hown:C2 (w.drew.alloc (.cells (olds.toArray++news.toArray++z') e)) X.base e i.size (.slice (some ⟨w.heap.size,0,none⟩) (xs.length+(ys.length+1)) cap) (xs++y0::ys).length (olds++news):=by
             rw[hlen];refine⟨by rw[List.length_append,ho,hl,← Nat.add_mul],.inr ⟨w.heap.size,cap,_,rfl,hI.below.size,heap_alloc_new w.drew _,hcap,hcm,?_,?_⟩⟩
             ·simp only[Array.size_append,List.size_toArray,ho,hl,hz',← Nat.add_mul];exact Nat.mul_le_mul_right _ (by omega)
             ·simp only[Array.toList_append,List.append_assoc];rw[← List.append_assoc,show(xs.length+(ys.length+1)) * i.size=(olds++news).length from by rw[List.length_append,ho,hl,← Nat.add_mul]];exact List.take_left
            have hp:=G6 (key:=key) (k:=key) (e:=e) (sz:=i.size) (xs:=[]) (xs':=xs++y0::ys) hI2 hk (.inl ⟨rfl,Mf hI1 hk,Ac _ _ _⟩) hz hown
             (by rw[Ac];exact⟨⟨rfl,rfl,rfl,by simp,fun k hk _=>Below.heap_alloc w.drew _ k hk⟩,Nat.le_succ _⟩) (.inr ⟨_,rfl,Nat.le_refl _⟩) (fun hu=>absurd hu hk) (by simp) (hf.append n3)
             ((hrow.append ho hf n4).mono x2.same x2.shrink)
            obtain⟨ν',p1,p2,p3⟩:=hp;exact⟨ν',p1,x1.trans (x2.trans p2),p3⟩
           cases hxr with
           |clip hxr =>
            cases ao with
            |none =>
             cases hx':xs with
             |cons _ _=>rw[hx']at hxr;cases hxr
             |nil =>
              subst hx';have hr:=run_append_nil (P:=P) w t ty e i z ht hi hzz a (ys.length+1) c news (by simpa using hl) n1 (by omega) (by simp at q2;omega) (by subst hib;simp at q1;omega);have hge:=grownCap_ge w (ys.length+1) 0 e;have hcm:=grownCap_le_maxLen w (ys.length+1) 0 e (by simp only[maxLen];simp at q2;omega);have:=fin [] (grownCap w (ys.length+1) 0 e) (by simp) (by simpa using hge) hcm (by intro x hx;cases hx) (by intro i x j d hx;simp at hx) (Builtin.zeroCells z.cells (grownCap w (ys.length+1) 0 e-(ys.length+1))) (by rw[size_zeroCells,hzo];simp);simp only[List.length_nil,Nat.zero_add,Array.empty_append,List.nil_append]at this;refine⟨_,_,hr,?_⟩;simpa[BO]using this
            |some ad =>
             obtain⟨olds,o1,_,o2,o3,o4,o5⟩:=Ju hz hxr;have hr:=run_append_grow (P:=P) w t ty e i z ht hi hzz ad xs.length xs.length olds o1 o2 a (ys.length+1) c news hl n1 (by omega) (by omega) (growslice_fits (by omega) (by rw[hib];exact q1));have hge:=grownCap_ge w (xs.length+(ys.length+1)) xs.length e;have hcm:=grownCap_le_maxLen w (xs.length+(ys.length+1)) xs.length e (by simp only[maxLen];omega);exact⟨_,_,hr,fin olds _ o1 hge hcm o4 o5 _ (by rw[size_zeroCells,hzo])⟩
        ·cases he
     ·cases he
    ·cases he
   ·cases he
  ·cases he
theorem UW{w:World}{M:Nat→Prop}{H:Nat→Option HO}{ν:Nat→Value}{used:Nat→Prop}{P:Program}{a b r:AV}{va vb:Value}(ha:A5 w M H ν used a va)(hb:A5 w M H ν used b vb)(he:Jb a b=some r) :
 ∃v,(Builtin.min2 va vb).run P w= .ok v w∧A5 w M H ν used r v:=by
 unfold Jb at he;split at he
 ·simp at he;subst he;cases ha with
  |d ra=>cases ra;cases hb with
   |d rb=>cases rb;exact⟨_,by simp only[Builtin.min2];rfl,.d (by constructor)⟩
 ·cases he
theorem Lv(f:AV→AV→Option AV)(l:List AV):DZ f none l=none:=by cases l<;>rfl
theorem MX{w:World}{M:Nat→Prop}{H:Nat→Option HO}{ν:Nat→Value}{used:Nat→Prop}{P:Program}{ρ:Operand→AV}{val:Operand→Value}(hρ:∀x,A5 w M H ν used (ρ x) (val x)):∀(l:List Operand) (a:AV) (va:Value) {r:AV},A5 w M H ν used a va→DZ Jb (some a) (l.map ρ)=some r →
 ∃v,((l.map val).foldlM Builtin.min2 va:Sem Value).run P w= .ok v w∧A5 w M H ν used r v
 | [],a,va,r,ha,he=>by
   simp only[List.map_nil,DZ,Option.some.injEq]at he;subst he;exact⟨va,by simp,ha⟩
 |x::l,a,va,r,ha,he=>by
  simp only[List.map_cons,DZ]at he;cases hm:Jb a (ρ x)with
  |none=>rw[hm,Lv]at he;cases he
  |some b =>
   rw[hm]at he;obtain⟨v1,h1,h2⟩:=UW (P:=P) ha (hρ x) hm;obtain⟨v,h3,h4⟩:=MX (P:=P) hρ l b v1 h2 he;exact⟨v,by simp only[List.map_cons,List.foldlM_cons,Sem.run_bind,h1,Result.andThen_ok,h3],h4⟩
theorem UV{w:World}{M:Nat→Prop}{H:Nat→Option HO}{ν:Nat→Value}{used:Nat→Prop}{P:Program}{a b r:AV}{va vb:Value}(ha:A5 w M H ν used a va)(hb:A5 w M H ν used b vb)(he:Ja a b=some r) :
 ∃v,(Builtin.max2 va vb).run P w= .ok v w∧A5 w M H ν used r v:=by
 unfold Ja at he;split at he
 ·simp at he;subst he;cases ha with
  |d ra=>cases ra;cases hb with
   |d rb=>cases rb;exact⟨_,by simp only[Builtin.max2];rfl,.d (by constructor)⟩
 ·cases he
theorem MW{w:World}{M:Nat→Prop}{H:Nat→Option HO}{ν:Nat→Value}{used:Nat→Prop}{P:Program}{ρ:Operand→AV}{val:Operand→Value}(hρ:∀x,A5 w M H ν used (ρ x) (val x)):∀(l:List Operand) (a:AV) (va:Value) {r:AV},A5 w M H ν used a va→DZ Ja (some a) (l.map ρ)=some r →
 ∃v,((l.map val).foldlM Builtin.max2 va:Sem Value).run P w= .ok v w∧A5 w M H ν used r v
 | [],a,va,r,ha,he=>by
   simp only[List.map_nil,DZ,Option.some.injEq]at he;subst he;exact⟨va,by simp,ha⟩
 |x::l,a,va,r,ha,he=>by
  simp only[List.map_cons,DZ]at he;cases hm:Ja a (ρ x)with
  |none=>rw[hm,Lv]at he;cases he
  |some b =>
   rw[hm]at he;obtain⟨v1,h1,h2⟩:=UV (P:=P) ha (hρ x) hm;obtain⟨v,h3,h4⟩:=MW (P:=P) hρ l b v1 h2 he;exact⟨v,by simp only[List.map_cons,List.foldlM_cons,Sem.run_bind,h1,Result.andThen_ok,h3],h4⟩
theorem SB(hI:At X (lk hp) ν used w)(hk:¬used key){ρ:Operand→AV}{val:Operand→Value}(hρ:∀x,A5 w (Am X.M0 (lk hp) ν) (lk hp) ν used (ρ x) (val x)){o:Oper}{r:AV}{es:List (Nat×Option HO)}{acc:List Nat}
 (he:Ft P key ρ (lk hp) o.op=some (r,es,acc)) :
 ∃nx v w',(execOp val o).run P w= .ok nx w'∧(nx= .value v∨nx= .skip∧v=undef)∧C7 X hp ν used w key (BO hp es) r v w':=by
 have here:∀{v:Value} {r:AV},A5 w (Am X.M0 (lk hp) ν) (lk hp) ν used r v→C7 X hp ν used w key (BO hp []) r v w:=fun h=>C7.same hI hk h;unfold execOp;generalize o.op=op at he ⊢;cases op<;>simp only[Ft]at he;case move x=>simp at he;obtain⟨rfl,rfl,rfl⟩:=he;exact⟨.value (val x),val x,w,by simp,.inl rfl,here (hρ x)⟩
 case assign x=>simp at he;obtain⟨rfl,rfl,rfl⟩:=he;exact⟨.value (val x),val x,w,by simp,.inl rfl,here (hρ x)⟩
 case pick c a b =>
  split at he
  ·rename_i t ht;simp at he;obtain⟨rfl,rfl,rfl⟩:=he;have:=hρ c;rw[ht]at this;generalize hv:val c=vc at this;cases this with
   |d h =>
    cases h;refine⟨.value (if t then val a else val b),_,w,by simp[hv,asBool],.inl rfl,here ?_⟩;cases t
    ·exact hρ b
    ·exact hρ a
  ·cases he
 case alloc t =>
  split at he
  ·rename_i z hz;split at he
   ·rename_i hs;simp at he;obtain⟨rfl,rfl,rfl⟩:=he;obtain⟨zv,hzr,_,hrep⟩:=EC hz;exact⟨.value (.pointer (some ⟨w.heap.size,0,none⟩)),_,_,by simp[VD hzr],.inl rfl,Lz hI hk t (.d (hrep w _)) hs⟩
   ·cases he
  ·cases he
 case box t x =>
  split at he
  ·rename_i hs;simp at he;obtain⟨rfl,rfl,rfl⟩:=he;exact⟨.value (.pointer (some ⟨w.heap.size,0,none⟩)),_,_,by simp[Zl],.inl rfl,Lz hI hk t (hρ x) hs⟩
  ·cases he
 case build t ps =>
  obtain⟨he',rfl,rfl⟩:=CK he;obtain⟨u,hr,hu⟩:=MP (w:=w) (vs:=(ps.toList.map fun p=>(p.1,val p.2))) (by simp) (fun j p q hp hq=>by
   simp at hp hq;obtain⟨a,b,h1,rfl⟩:=hp;rw[h1]at hq;simp at hq;obtain⟨_,_,⟨rfl,rfl⟩,rfl⟩:=hq;exact⟨rfl,hρ _⟩) he'
  refine⟨_,_,_,?_,.inl rfl,here hu⟩;have e:ps.map (fun(i,x)=>(i,val x))=((ps.toList.map fun p=>(p.1,val p.2))).toArray:=by simp[← Array.toList_map]
  simp only[e,Sem.run_bind,hr,Result.andThen_ok,Sem.run_pure]
 case buildSlice t len ps =>
  obtain⟨v,w',hr,hp⟩:=J2 hI hk (vs:=(ps.toList.map fun p=>(p.1,val p.2))) (by simp) (fun j p q hp hq=>by
   simp at hp hq;obtain⟨a,b,h1,rfl⟩:=hp;rw[h1]at hq;simp at hq;obtain⟨_,_,⟨rfl,rfl⟩,rfl⟩:=hq;exact⟨rfl,hρ _⟩) he
  refine⟨_,_,_,?_,.inl rfl,hp⟩;have e:ps.map (fun(i,x)=>(i,val x))=((ps.toList.map fun p=>(p.1,val p.2))).toArray:=by simp[← Array.toList_map]
  simp only[e,Sem.run_bind,hr,Result.andThen_ok,Sem.run_pure]
 case load t a =>
  split at he
  ·rename_i x acc' hl;simp at he;obtain⟨rfl,rfl,rfl⟩:=he;obtain⟨u,hr,hu⟩:=JY hI (hρ a) hl;exact⟨_,_,_,by simp only[Sem.run_bind,hr,Result.andThen_ok,Sem.run_pure],.inl rfl,here hu⟩
  ·cases he
 case store t a x =>
  split at he
  ·rename_i es' acc' hs;simp at he;obtain⟨rfl,rfl,rfl⟩:=he;have hra:=hρ a;have fin:∃w',(Instr.storeAt t (val a) (val x)).run P w= .ok () w'∧C7 X hp ν used w key (BO hp es') .undef undef w':=by
    unfold Fv at hs;generalize ρ a=av at hs hra;split at hs
    ·exact I6 hI hk hra (hρ x) hs
    ·exact I6 hI hk hra (hρ x) hs
    ·exact O9 hI hk hra (hρ x) hs
   obtain⟨w',hr,hp⟩:=fin;exact⟨_,_,_,by simp only[Sem.run_bind,hr,Result.andThen_ok,Sem.run_pure],.inr ⟨rfl,rfl⟩,hp⟩
  ·cases he
 case nilCheck x =>
  obtain⟨he',rfl,rfl⟩:=CK he;have hx:=hρ x;have key:∀v:Value,val x=v→(match v with| .pointer none| .nilIface| .nilFunc=>False| .func (.method _) _ _=>False|_=>True)→(execOp val { o with op:=.nilCheck x }).run P w= .ok (.value v) w:=by
   intro v hv hok;unfold execOp;simp only[hv];split<;>simp_all
  unfold OD at he';split at he'<;>first|(cases he';done)|skip
  all_goals simp at he';subst he'
  all_goals rename_i heq;rw[heq]at hx;generalize hv:val x=v at hx
  ·cases hx with|ref hu h=>exact⟨_,_,_,by simpa[execOp]using key _ hv trivial,.inl rfl,here (.ref hu h)⟩
  ·cases hx with|eref hu hi ho h=>exact⟨_,_,_,by simpa[execOp]using key _ hv trivial,.inl rfl,here (.eref hu hi ho h)⟩
  ·cases hx with|dref val' hb hM hc h1 h2=>exact⟨_,_,_,by simpa[execOp]using key _ hv trivial,.inl rfl,here (.dref val' hb hM hc h1 h2)⟩
  ·cases hx with|fn hl h=>exact⟨_,_,_,by simpa[execOp]using key _ hv trivial,.inl rfl,here (.fn hl h)⟩
  ·cases hx with|d h=>cases h;exact⟨_,_,_,by simpa[execOp]using key _ hv trivial,.inl rfl,here (.d (.fn _))⟩
  ·cases hx with|d h=>cases h with|ptr val' hb hM hc h1 h2=>exact⟨_,_,_,by simpa[execOp]using key _ hv trivial,.inl rfl,here (.dref val' hb hM hc h1 h2)⟩
  ·cases hx with|toref hu hi ho h=>exact⟨_,_,_,by simpa[execOp]using key _ hv trivial,.inl rfl,here (.toref hu hi ho h)⟩
  ·cases hx with|tref hu hi ho h=>exact⟨_,_,_,by simpa[execOp]using key _ hv trivial,.inl rfl,here (.tref hu hi ho h)⟩
  ·cases hx with|yld hu h=>exact⟨_,_,_,by simpa[execOp]using key _ hv trivial,.inl rfl,here (.yld hu h)⟩
 case binOp op t x y ty =>
  split at he
  ·rename_i r' hq;obtain⟨he',rfl,rfl⟩:=CK he;cases he';obtain⟨u,hr,hu⟩:=R0 (P:=P) x y (hρ x) (hρ y) hq;refine⟨.value u,u,w,?_,.inl rfl,here hu⟩;simp only[Sem.run_bind]at hr ⊢;rw[hr];rfl
  ·obtain⟨he',rfl,rfl⟩:=CK he;obtain⟨u,hr,hu⟩:=R1 (P:=P) x y (hρ x) (hρ y) he';refine⟨.value u,u,w,?_,.inl rfl,here hu⟩;simp only[Sem.run_bind]at hr ⊢;rw[hr];rfl
 case makeMap t r =>
  split at he
  ·obtain⟨v,w',hr,hp⟩:=LO hI hk he;exact⟨_,_,_,by simp only[Option.map_none,Sem.run_bind,hr,Result.andThen_ok,Sem.run_pure],.inl rfl,hp⟩
  ·cases he
 case lookup t x i ok =>
  split at he
  ·rename_i r' acc' hq;simp only[Option.some.injEq,Prod.mk.injEq]at he;obtain⟨rfl,rfl,rfl⟩:=he;obtain⟨v,hr,hp⟩:=MT hI (hρ x) (hρ i) hq;exact⟨_,_,_,by simp only[Sem.run_bind,hr,Result.andThen_ok,Sem.run_pure],.inl rfl,here hp⟩
  ·cases he
 case mapUpdate t m k x =>
  split at he
  ·rename_i es' acc' hq;simp only[Option.some.injEq,Prod.mk.injEq]at he;obtain⟨rfl,rfl,rfl⟩:=he;obtain⟨w',hr,hp⟩:=MV hI hk (hρ m) (hρ k) (hρ x) hq;exact⟨_,_,_,by simp only[Sem.run_bind,hr,Result.andThen_ok,Sem.run_pure],.inr ⟨rfl,rfl⟩,hp⟩
  ·cases he
 case range t x =>
  obtain⟨v,w',hr,hp⟩:=O7 hI hk (hρ x) he;exact⟨_,_,_,by simp only[Sem.run_bind,hr,Result.andThen_ok,Sem.run_pure],.inl rfl,hp⟩
 case entry it =>
  split at he
  ·rename_i r' acc' hq;simp only[Option.some.injEq,Prod.mk.injEq]at he;obtain⟨rfl,rfl,rfl⟩:=he;obtain⟨v,hr,hp⟩:=O3 (P:=P) hI (hρ it) hq;exact⟨_,_,_,by simp only[Sem.run_bind,hr,Result.andThen_ok,Sem.run_pure],.inl rfl,here hp⟩
  ·cases he
 case unOp op t x =>
  obtain⟨he',rfl,rfl⟩:=CK he;obtain⟨u,hr,hu⟩:=SF (P:=P) (hρ x) he';exact⟨_,_,_,by simp only[Sem.run_bind,hr,Result.andThen_ok,Sem.run_pure],.inl rfl,here hu⟩
 case convert s d x =>
  obtain⟨u,hr,hu⟩:=NZ (P:=P) hI hk (hρ x) he;exact⟨_,_,_,by simp only[Sem.run_bind,hr,Result.andThen_ok,Sem.run_pure],.inl rfl,hu⟩
 case makeFunc fn first caps =>
  split at he
  ·rename_i f;split at he
   ·rename_i h1 h2;simp at he;obtain⟨rfl,rfl,rfl⟩:=he;have e1:first = #[]:=by cases first;simp_all
    have e2:caps = #[]:=by cases caps;simp_all
    subst e1;subst e2;exact⟨.value (.func (.func f) #[] #[]),_,w,by simp[Instr.makeFunc],.inl rfl,here (.d (.fn f))⟩
   ·rename_i c cs h1 h2;simp only[Option.some.injEq,Prod.mk.injEq]at he;obtain⟨rfl,rfl,rfl⟩:=he;have e1:first = #[]:=by cases first;simp_all
    subst e1;have e2:caps=(c::cs).toArray:=by cases caps;simp_all
    subst e2;refine⟨.value (.func (.func f) #[] ((c::cs).toArray.map val)),_,w,by simp[Instr.makeFunc],.inl rfl,here ?_⟩;have:=A5.fn (w:=w) (M:=Am X.M0 (lk hp) ν) (H:=lk hp) (ν:=ν) (used:=used) (f:=f) (caps:=(c::cs).map ρ) (cs:=(c::cs).map val) (by simp) (fun i d v hd hv=>by
     rw[List.getElem?_map]at hd hv;cases hq:(c::cs)[i]? with
     |none=>rw[hq]at hd;simp at hd
     |some q=>rw[hq]at hd hv;simp at hd hv;subst hd;subst hv;exact hρ q)
    simpa using this
   ·rename_i b h1 h2;split at he
    ·rename_i k0 o0 hb;simp only[Option.some.injEq,Prod.mk.injEq]at he;obtain⟨rfl,rfl,rfl⟩:=he;have e1:first = #[b]:=by cases first;simp_all
     have e2:caps = #[]:=by cases caps;simp_all
     subst e1;subst e2;have hrb:=hρ b;rw[hb]at hrb;generalize hvb:val b=vb at hrb;cases hrb with
     |ref hu h=>exact⟨.value (.func (.func f) #[.pointer (some _)] #[]),_,w,by simp[Instr.makeFunc,hvb],.inl rfl,here (.mref hu h)⟩
    ·cases he
   ·cases he
  ·cases he
 case makeSlice t l c =>
  obtain⟨v,w',hr,hp⟩:=PK hI hk (hρ l) (hρ c) he;exact⟨_,_,_,by simp only[Sem.run_bind,hr,Result.andThen_ok,Sem.run_pure],.inl rfl,hp⟩
 case slice t x lo hi mx =>
  have ro:∀q:Option Operand,CU w (Am X.M0 (lk hp) ν) (lk hp) ν used (q.map ρ) (q.map val):=fun q=>by
   cases q with
   |none=>exact .none
   |some q=>exact .some (hρ q)
  have hrx:=hρ x;unfold Fu at he;generalize ρ x=ax at he hrx;split at he
  ·obtain⟨v,hr,hp⟩:=Ob hI hk hrx (ro lo) (ro hi) (ro mx) he;exact⟨_,_,_,by simp only[Sem.run_bind,hr,Result.andThen_ok,Sem.run_pure],.inl rfl,hp⟩
  unfold EQ at he;split at he
  ·rename_i q hq;cases he;obtain⟨v,hr,hp⟩:=PN hI hk hrx (ro lo) (ro hi) (ro mx) hq;exact⟨_,_,_,by simp only[Sem.run_bind,hr,Result.andThen_ok,Sem.run_pure],.inl rfl,hp⟩
  split at he
  ·rename_i q hq;cases he;obtain⟨v,hr,hp⟩:=SD hI hk hrx (ro lo) (ro hi) (ro mx) hq;exact⟨_,_,_,by simp only[Sem.run_bind,hr,Result.andThen_ok,Sem.run_pure],.inl rfl,hp⟩
  ·obtain⟨v,hr,hp⟩:=MY hI hk hrx (ro lo) (ro hi) (ro mx) he;exact⟨_,_,_,by simp only[Sem.run_bind,hr,Result.andThen_ok,Sem.run_pure],.inl rfl,hp⟩
 case fieldAddr s x f =>
  obtain⟨he',rfl,rfl⟩:=CK he;obtain⟨u,hr,hu⟩:=O4 (P:=P) (hρ x) he';exact⟨_,_,_,by simp only[Sem.run_bind,hr,Result.andThen_ok,Sem.run_pure],.inl rfl,here hu⟩
 case indexAddr t x i =>
  obtain⟨he',rfl,rfl⟩:=CK he;obtain⟨u,hr,hu⟩:=O5 (P:=P) hI (hρ x) (hρ i) he';exact⟨_,_,_,by simp only[Sem.run_bind,hr,Result.andThen_ok,Sem.run_pure],.inl rfl,here hu⟩
 case index t x i =>
  obtain⟨he',rfl,rfl⟩:=CK he;obtain⟨u,hr,hu⟩:=PH (P:=P) (hρ x) (hρ i) he';exact⟨_,_,_,by simp only[Sem.run_bind,hr,Result.andThen_ok,Sem.run_pure],.inl rfl,here hu⟩
 case extract t i =>
  obtain⟨he',rfl,rfl⟩:=CK he;obtain⟨u,hr,hu⟩:=LN (P:=P) (hρ t) he';exact⟨_,_,_,by simp only[Sem.run_bind,hr,Result.andThen_ok,Sem.run_pure],.inl rfl,here hu⟩
 case call c =>
  obtain⟨cal,args,ts⟩:=c;cases cal with
  |value f=>simp at he
  |invoke r m=>simp at he
  |builtin b =>
   simp only at he;have arr:∀{α:Type} {a:Array α} {l:List α},a.toList=l→a=l.toArray:=by intro α a l h;subst h;simp
   cases b<;>simp only[Et]at he<;>try (cases he;done)
   case len =>
    split at he
    ·rename_i x t h1 h2;obtain rfl:=arr h1;obtain rfl:=arr h2;obtain⟨he',rfl,rfl⟩:=CK he;obtain⟨u,hr,hu⟩:=R3 (P:=P) (ty:=o.type) (hρ x) he';exact⟨.value u,u,w,by simp[resolve,invoke,builtin,hr],.inl rfl,here hu⟩
    ·cases he
   case min =>
    split at he
    ·rename_i x y l h1;obtain rfl:=arr h1;obtain⟨he',rfl,rfl⟩:=CK he;obtain⟨v,hr,hv⟩:=MX (val:=val) (ρ:=ρ) (P:=P) hρ (y::l) _ _ (hρ x) (by simpa[DZ]using he');exact⟨.value v,v,_,by
      have:(Builtin.min_ ts o.type (((x::y::l).toArray).map val)).run P w= .ok v w:=by
       simp only[Builtin.min_,List.map_toArray,List.map_cons];simpa using hr
      simp only[resolve,invoke,builtin,Sem.run_bind,Sem.run_pure,Result.andThen_ok,this],.inl rfl,here hv⟩
    ·cases he
   case max =>
    split at he
    ·rename_i x y l h1;obtain rfl:=arr h1;obtain⟨he',rfl,rfl⟩:=CK he;obtain⟨v,hr,hv⟩:=MW (val:=val) (ρ:=ρ) (P:=P) hρ (y::l) _ _ (hρ x) (by simpa[DZ]using he');exact⟨.value v,v,_,by
      have:(Builtin.max_ ts o.type (((x::y::l).toArray).map val)).run P w= .ok v w:=by
       simp only[Builtin.max_,List.map_toArray,List.map_cons];simpa using hr
      simp only[resolve,invoke,builtin,Sem.run_bind,Sem.run_pure,Result.andThen_ok,this],.inl rfl,here hv⟩
    ·cases he
   case append =>
    split at he
    ·rename_i x y t t' h1 h2;obtain rfl:=arr h1;obtain rfl:=arr h2;split at he
     ·rename_i ht;subst ht;split at he
      ·rename_i sz xs hx;have rx:=hρ x;rw[hx]at rx;obtain⟨v,w',hr,hp⟩:=Jr (ty:=o.type) hI hk rx (hρ y) he;exact⟨.value v,v,w',by simp[resolve,invoke,builtin,hr],.inl rfl,hp⟩
      ·rename_i k0 i0 n0 hx;have rx:=hρ x;rw[hx]at rx;obtain⟨v,w',hr,hp⟩:=LL (ty:=o.type) hI hk rx (hρ y) he;exact⟨.value v,v,w',by simp[resolve,invoke,builtin,hr],.inl rfl,hp⟩
      ·rename_i k0 n0 hx;have rx:=hρ x;rw[hx]at rx;obtain⟨v,w',hr,hp⟩:=KW (ty:=o.type) hI hk rx (hρ y) he;exact⟨.value v,v,w',by simp[resolve,invoke,builtin,hr],.inl rfl,hp⟩
      ·split at he
       ·rename_i q hq;cases he;obtain⟨v,w',hr,hp⟩:=LM (ty:=o.type) hI hk (hρ x) (hρ y) hq;exact⟨.value v,v,w',by simp[resolve,invoke,builtin,hr],.inl rfl,hp⟩
       ·obtain⟨v,w',hr,hp⟩:=MM (ty:=o.type) hI hk (hρ x) (hρ y) he;exact⟨.value v,v,w',by simp[resolve,invoke,builtin,hr],.inl rfl,hp⟩
     ·obtain⟨v,w',hr,hp⟩:=LJ (ty:=o.type) hI hk (hρ x) (hρ y) he;exact⟨.value v,v,w',by simp[resolve,invoke,builtin,hr],.inl rfl,hp⟩
    ·cases he
   case copy =>
    split at he
    ·rename_i x y t t' h1 h2;obtain rfl:=arr h1;obtain rfl:=arr h2;split at he
     ·rename_i k0 i0 n0 hx;have rx:=hρ x;rw[hx]at rx;obtain⟨v,w',hr,hp⟩:=O1 (t':=t') (ty:=o.type) hI hk rx (hρ y) he;exact⟨.value v,v,w',by simp[resolve,invoke,builtin,hr],.inl rfl,hp⟩
     ·obtain⟨v,w',hr,hp⟩:=PF (t':=t') (ty:=o.type) hI hk (hρ x) (hρ y) he;exact⟨.value v,v,w',by simp[resolve,invoke,builtin,hr],.inl rfl,hp⟩
    ·cases he
   case clear =>
    split at he
    ·rename_i x t h1 h2;obtain rfl:=arr h1;obtain rfl:=arr h2;obtain⟨v,w',hr,hp⟩:=NY (ty:=o.type) hI hk (hρ x) he;exact⟨.value v,v,w',by simp[resolve,invoke,builtin,hr],.inl rfl,hp⟩
    ·cases he
 all_goals cases he
end
end Go.Eng
namespace Go.Eng
open Go.RowKit
theorem Gy{α:Type}:∀{l:List (Nat×α)} {n:Nat} {a:α},lk l n=some a→(n,a)∈l
 | [],_,_,h=>by simp[lk]at h
 |(m,b)::l,n,a,h=>by
  simp only[lk]at h;split at h
  ·rename_i e;subst e;cases h;simp
  ·simp[Gy h]
def C5(es:List (Nat×Option HO)):List Nat:=es.map (·.1)
theorem C8:∀(es:List (Nat×Option HO)) (hp:Aa) (k:Nat),k∉C5 es→lk (BO hp es) k=lk hp k
 | [],_,_,_=>rfl
 |(q,o)::es,hp,k,h=>by
  simp[C5]at h;have hr:=C8 es;cases o with
  |none=>rw[BO,hr _ k (by simp[C5];exact h.2),Bc _ _ _ h.1]
  |some o=>rw[BO,hr _ k (by simp[C5];exact h.2),A9 _ _ _ _ h.1]
mutual
def AV.rn(σ:Nat→Nat):AV→AV
 |.own k n=>.own (σ k) n| .ref k o=>.ref (σ k) o| .eref k n i s o=>.eref (σ k) n i s o| .map k=>.map (σ k)| .it k=>.it (σ k)| .yld k=>.yld (σ k)| .vs k o n=>.vs (σ k) o n| .rv k n l m s=>.rv (σ k) n l m s| .mref f k o=>.mref f (σ k) o
 |.tab k n=>.tab (σ k) n| .trow k i n=>.trow (σ k) i n| .toref k n i s o=>.toref (σ k) n i s o| .tref k i m j s o=>.tref (σ k) i m j s o
 |.agg fs=>.agg (NS σ fs)| .tup fs=>.tup (NS σ fs)| .fn f fs=>.fn f (NS σ fs)
 |.undef=>.undef| .d x=>.d x| .clip s x=>.clip s x| .dref f=>.dref f
def NS(σ:Nat→Nat):List AV→List AV
 | []=>[]
 |a::az=>a.rn σ::NS σ az
end
mutual
def AV.ks:AV→List Nat
 |.own k _=>[k]| .ref k _=>[k]| .eref k _ _ _ _=>[k]| .map k=>[k]| .it k=>[k]| .yld k=>[k]| .vs k _ _=>[k]| .rv k _ _ _ _=>[k]| .mref _ k _=>[k]
 |.tab k _=>[k]| .trow k _ _=>[k]| .toref k _ _ _ _=>[k]| .tref k _ _ _ _ _=>[k]
 |.agg fs=>J4 fs| .tup fs=>J4 fs| .fn _ fs=>J4 fs
 |.undef=>[]| .d _=>[]| .clip .. => []| .dref _=>[]
def J4:List AV→List Nat
 | []=>[]
 |a::az=>a.ks++J4 az
end
def ac(σ:Nat→Nat)(E:BP):BP:=E.map fun p=>(p.1,p.2.rn σ)
def ZS:BP→List Nat
 | []=>[]
 |p::l=>p.2.ks++ZS l
def HO.rn(σ:Nat→Nat):HO→HO
 |.var cs=>.var (NS σ cs)
 |.row e sz xs=>.row e sz xs
 |.map a b c=>.map a b c
 |.iter m c s=>.iter (σ m) c s
 |.loop Y cs st=>.loop Y (ac σ cs) st
 |.tab T rows q=>.tab T rows q
def HO.ks:HO→List Nat
 |.var cs=>J4 cs
 |.row .. => []
 |.map .. => []
 |.iter m _ _=>[m]
 |.loop _ cs _=>ZS cs
 |.tab .. => []
theorem Q2{σ:Nat→Nat}(E:BP)(n:Nat):lk (ac σ E) n=(lk E n).map (AV.rn σ):=by
 induction E with
 |nil=>rfl
 |cons p l ih =>
  simp only[ac,List.map_cons,lk]at ih ⊢;split
  ·rfl
  ·exact ih
theorem Q1:∀{E:BP} {n:Nat} {av:AV},lk E n=some av→∀k∈av.ks,k∈ZS E
 | [],n,av,h=>by simp[lk]at h
 |p::l,n,av,h=>by
  intro k hk;simp only[lk]at h;simp only[ZS,List.mem_append];split at h
  ·cases h;exact .inl hk
  ·exact .inr (Q1 h k hk)
theorem IQ{σ:Nat→Nat}:∀{l:List AV} {i:Nat} {a:AV},(NS σ l)[i]? =some a→∃b,l[i]? =some b∧a=b.rn σ
 | [],i,a,h=>by simp[NS]at h
 |x::l,0,a,h=>by simp[NS]at h;exact⟨x,rfl,h.symm⟩
 |x::l,i+1,a,h=>by simp[NS]at h;simpa using IQ h
theorem RR{σ:Nat→Nat}:∀{l:List AV} {i:Nat} {b:AV},l[i]? =some b→(NS σ l)[i]? =some (b.rn σ)
 | [],i,a,h=>by simp at h
 |x::l,0,a,h=>by simp at h;subst h;rfl
 |x::l,i+1,a,h=>by simp at h;simpa[NS]using RR h
theorem C1{σ:Nat→Nat}:∀l:List AV,(NS σ l).length=l.length
 | []=>rfl
 |x::l=>by simp[NS,C1 l]
theorem IR{σ:Nat→Nat}:∀l:List AV,NS σ l=l.map (AV.rn σ)
 | []=>rfl
 |x::l=>by simp[NS,IR l]
theorem HD:∀{l:List AV} {i:Nat} {a:AV},l[i]? =some a→∀k∈a.ks,k∈J4 l
 | [],i,a,h=>by simp at h
 |x::l,0,a,h=>by simp at h;subst h;intro k hk;simp[J4,hk]
 |x::l,i+1,a,h=>by
  simp at h;intro k hk;have:=HD h k hk;simp[J4,this]
theorem Kd{σ:Nat→Nat}(a:AV):(a.rn σ).cell=a.cell:=by
 cases a<;>simp[AV.rn,AV.cell]
theorem HO.rn_later{σ:Nat→Nat}{o o':HO}(h:o.later o'):(o.rn σ).later (o'.rn σ):=by
 cases o<;>cases o'<;>first|(simp_all [HO.later,HO.rn,C1];done)|exact h
theorem HO.rn_keeps{σ:Nat→Nat}{o o':HO}{v v':Value}(h:o.keeps o' v v'):(o.rn σ).keeps (o'.rn σ) v v':=by
 cases o<;>cases o'<;>exact h
section
variable {w:World} {M M':Nat→Prop} {H H':Nat→Option HO} {ν ν':Nat→Value} {used used':Nat→Prop} {σ:Nat→Nat}
theorem A5.push{av:AV}{v:Value}(h:A5 w M H ν used av v)(hM:∀b,M' b→M b)(hk:∀k∈av.ks,used' (σ k)∧ν' (σ k)=ν k∧∀o',H' (σ k)=some o'→∃o,H k=some o∧o'=o.rn σ):A5 w M' H' ν' used' (av.rn σ) v:=by
 induction h with
 |undef v=>exact .undef v
 |d h=>exact .d (h.mono (Bi.refl _ _) (fun b _ h=>hM b h))
 | @agg fs cs hl hc _ ih =>
   refine .agg (by rw[C1];exact hl) (fun d hd=>?_) (fun i d u hd hu=>?_)
   ·rw[IR]at hd;obtain⟨a,ha,rfl⟩:=List.mem_map.1 hd;rw[Kd];exact hc a ha
   ·obtain⟨b,hb,rfl⟩:=IQ hd;exact ih i b u hb hu (fun k hk'=>hk k (HD hb k hk'))
 | @tup fs cs hl _ ih =>
   refine .tup (by rw[C1];exact hl) (fun i d u hd hu=>?_);obtain⟨b,hb,rfl⟩:=IQ hd;exact ih i b u hb hu (fun k hk'=>hk k (HD hb k hk'))
 | @own k n c a v hu h1 hc ha h =>
   obtain⟨g1,g2,g3⟩:=hk k (by simp[AV.ks]);refine .own g1 h1 hc ha fun o' ho'=>?_;obtain⟨o,ho,rfl⟩:=g3 o' ho';obtain⟨e,sz,xs,rfl,hn,hv⟩:=h o ho;exact⟨e,sz,xs,rfl,hn,fun hh=>by rw[g2];exact hv hh⟩
 |clip h=>exact .clip (h.mono (Bi.refl _ _) (fun b _ h=>hM b h))
 | @ref k off a hu h =>
   obtain⟨g1,g2,g3⟩:=hk k (by simp[AV.ks]);refine .ref g1 fun o' ho'=>?_;obtain⟨o,ho,rfl⟩:=g3 o' ho';obtain⟨cs,b,rfl,hn,hv⟩:=h o ho;exact⟨_,b,rfl,by rw[g2];exact hn,hv⟩
 | @eref k n i sz off a hu hi hoff h =>
   obtain⟨g1,g2,g3⟩:=hk k (by simp[AV.ks]);refine .eref g1 hi hoff fun o' ho'=>?_;obtain⟨o,ho,rfl⟩:=g3 o' ho';obtain⟨e,sz',xs,rfl,hn,hv⟩:=h o ho;exact⟨e,sz',xs,rfl,hn,fun hh=>by rw[g2];exact hv hh⟩
 | @rv k n lo m sz c a hu hc hlo h =>
   obtain⟨g1,g2,g3⟩:=hk k (by simp[AV.ks]);refine .rv g1 hc hlo fun o' ho'=>?_;obtain⟨o,ho,rfl⟩:=g3 o' ho';obtain⟨e,sz',xs,rfl,hn,hv⟩:=h o ho;exact⟨e,sz',xs,rfl,hn,fun hh=>by rw[g2];exact hv hh⟩
 | @mref f k off a hu h =>
   obtain⟨g1,g2,g3⟩:=hk k (by simp[AV.ks]);refine .mref g1 fun o' ho'=>?_;obtain⟨o,ho,rfl⟩:=g3 o' ho';obtain⟨cs,b,rfl,hn,hv⟩:=h o ho;exact⟨_,b,rfl,by rw[g2];exact hn,hv⟩
 |dref val hb hM' hc h1 h2=>exact .dref val hb (fun h=>hM' (hM _ h)) hc h1 (fun j d hd=>(h2 j d hd).mono (Bi.refl _ _) (fun b _ h=>hM b h))
 | @fn f caps cs hl _ ih =>
   refine .fn (by rw[C1];exact hl) (fun i d u hd hu=>?_);obtain⟨b,hb,rfl⟩:=IQ hd;exact ih i b u hb hu (fun k hk'=>hk k (HD hb k hk'))
 | @yld k l hu h =>
   obtain⟨g1,g2,g3⟩:=hk k (by simp[AV.ks]);refine .yld g1 fun o' ho'=>?_;obtain⟨o,ho,rfl⟩:=g3 o' ho';obtain⟨Y,cs,st,rfl,hn⟩:=h o ho;exact⟨Y,_,st,rfl,by rw[g2];exact hn⟩
 | @map k r hu h =>
   obtain⟨g1,g2,g3⟩:=hk k (by simp[AV.ks]);refine .map g1 fun o' ho'=>?_;obtain⟨o,ho,rfl⟩:=g3 o' ho';obtain⟨kt,et,es,rfl,hn⟩:=h o ho;exact⟨kt,et,es,rfl,by rw[g2];exact hn⟩
 | @it k a hu h =>
   obtain⟨g1,g2,g3⟩:=hk k (by simp[AV.ks]);refine .it g1 fun o' ho'=>?_;obtain⟨o,ho,rfl⟩:=g3 o' ho';obtain⟨m,c,seen,b,rfl,hn,hv⟩:=h o ho;exact⟨σ m,c,seen,b,rfl,by rw[g2];exact hn,hv⟩
 | @vs k off n c a hu hc h =>
   obtain⟨g1,g2,g3⟩:=hk k (by simp[AV.ks]);refine .vs g1 hc fun o' ho'=>?_;obtain⟨o,ho,rfl⟩:=g3 o' ho';obtain⟨cs,b,rfl,hn,hv,hle⟩:=h o ho;exact⟨_,b,rfl,by rw[g2];exact hn,hv,by rw[C1];exact hle⟩
 | @tab k n c a v hu h1 hc ha h =>
   obtain⟨g1,g2,g3⟩:=hk k (by simp[AV.ks]);refine .tab g1 h1 hc ha fun o' ho'=>?_;obtain⟨o,ho,rfl⟩:=g3 o' ho';obtain⟨T,rows,q,rfl,hn,hv⟩:=h o ho;exact⟨T,rows,q,rfl,hn,fun hh=>by rw[g2];exact hv hh⟩
 | @trow k i n c a v hu h1 hc ha h =>
   obtain⟨g1,g2,g3⟩:=hk k (by simp[AV.ks]);refine .trow g1 h1 hc ha fun o' ho'=>?_;obtain⟨o,ho,rfl⟩:=g3 o' ho';obtain⟨T,rows,q,rfl,hi,hn,hv⟩:=h o ho;exact⟨T,rows,q,rfl,hi,hn,fun hq hh=>by rw[g2];exact hv hq hh⟩
 | @toref k n i sz off a hu hi hoff h =>
   obtain⟨g1,g2,g3⟩:=hk k (by simp[AV.ks]);refine .toref g1 hi hoff fun o' ho'=>?_;obtain⟨o,ho,rfl⟩:=g3 o' ho';obtain⟨T,rows,q,rfl,hn,hv⟩:=h o ho;exact⟨T,rows,q,rfl,hn,fun hh=>by rw[g2];exact hv hh⟩
 | @tref k i m j sz off a hu hi hoff h =>
   obtain⟨g1,g2,g3⟩:=hk k (by simp[AV.ks]);refine .tref g1 hi hoff fun o' ho'=>?_;obtain⟨o,ho,rfl⟩:=g3 o' ho';obtain⟨T,rows,q,rfl,hi',hn,hv⟩:=h o ho;exact⟨T,rows,q,rfl,hi',hn,fun hq hh=>by rw[g2];exact hv hq hh⟩
mutual
theorem A5.pull(hM:∀b,M' b→M b):∀(av:AV) (v:Value),A5 w M H ν used (av.rn σ) v→(∀k∈av.ks,used' k∧ν' k=ν (σ k)∧∀o,H' k=some o→H (σ k)=some (o.rn σ))→A5 w M' H' ν' used' av v
 |.undef,v,h,hk=>.undef v
 |.d x,v,h,hk=>by cases h with|d h=>exact .d (h.mono (Bi.refl _ _) (fun b _ h=>hM b h))
 |.clip s x,v,h,hk=>by cases h with|clip h=>exact .clip (h.mono (Bi.refl _ _) (fun b _ h=>hM b h))
 |.dref f,v,h,hk=>by cases h with|dref val hb hM' hc h1 h2=>exact .dref val hb (fun h=>hM' (hM _ h)) hc h1 (fun j d hd=>(h2 j d hd).mono (Bi.refl _ _) (fun b _ h=>hM b h))
 |.agg fs,v,h,hk=>by
  cases h with
  |agg hl hc h =>
   refine .agg (by rw[C1]at hl;exact hl) (fun d hd=>?_) (A5.pulls hM fs _ h hk);have:=hc (d.rn σ) (by rw[IR];exact List.mem_map_of_mem hd)
   rwa [Kd]at this
 |.tup fs,v,h,hk=>by
  cases h with
  |tup hl h=>exact .tup (by rw[C1]at hl;exact hl) (A5.pulls hM fs _ h hk)
 |.fn f fs,v,h,hk=>by
  cases h with
  |fn hl h=>exact .fn (by rw[C1]at hl;exact hl) (A5.pulls hM fs _ h hk)
 |.yld k,v,h,hk=>by
  obtain⟨g1,g2,g3⟩:=hk k (by simp[AV.ks]);cases h with
  |yld hu h =>
   refine .yld g1 fun o ho=>?_;obtain⟨Y,cs,st,ho',hn⟩:=h _ (g3 o ho);cases o<;>simp[HO.rn]at ho';exact⟨_,_,_,rfl,by rw[g2];exact hn⟩
 |.tab k n,v,h,hk=>by
  obtain⟨g1,g2,g3⟩:=hk k (by simp[AV.ks]);cases h with
  |tab hu h1 hc ha h =>
   refine .tab g1 h1 hc ha fun o ho=>?_;obtain⟨T,rows,q,ho',hn,hv⟩:=h _ (g3 o ho);cases o<;>simp[HO.rn]at ho';obtain⟨rfl,rfl,rfl⟩:=ho';exact⟨_,_,_,rfl,hn,fun hh=>by rw[g2];exact hv hh⟩
 |.trow k i n,v,h,hk=>by
  obtain⟨g1,g2,g3⟩:=hk k (by simp[AV.ks]);cases h with
  |trow hu h1 hc ha h =>
   refine .trow g1 h1 hc ha fun o ho=>?_;obtain⟨T,rows,q,ho',hi,hn,hv⟩:=h _ (g3 o ho);cases o<;>simp[HO.rn]at ho';obtain⟨rfl,rfl,rfl⟩:=ho';exact⟨_,_,_,rfl,hi,hn,fun hq hh=>by rw[g2];exact hv hq hh⟩
 |.toref k n i sz off,v,h,hk=>by
  obtain⟨g1,g2,g3⟩:=hk k (by simp[AV.ks]);cases h with
  |toref hu hi hoff h =>
   refine .toref g1 hi hoff fun o ho=>?_;obtain⟨T,rows,q,ho',hn,hv⟩:=h _ (g3 o ho);cases o<;>simp[HO.rn]at ho';obtain⟨rfl,rfl,rfl⟩:=ho';exact⟨_,_,_,rfl,hn,fun hh=>by rw[g2];exact hv hh⟩
 |.tref k i m j sz off,v,h,hk=>by
  obtain⟨g1,g2,g3⟩:=hk k (by simp[AV.ks]);cases h with
  |tref hu hi hoff h =>
   refine .tref g1 hi hoff fun o ho=>?_;obtain⟨T,rows,q,ho',hi',hn,hv⟩:=h _ (g3 o ho);cases o<;>simp[HO.rn]at ho';obtain⟨rfl,rfl,rfl⟩:=ho';exact⟨_,_,_,rfl,hi',hn,fun hq hh=>by rw[g2];exact hv hq hh⟩
 |.own k n,v,h,hk=>by
  obtain⟨g1,g2,g3⟩:=hk k (by simp[AV.ks]);cases h with
  |own hu h1 hc ha h =>
   refine .own g1 h1 hc ha fun o ho=>?_;obtain⟨e,sz,xs,ho',hn,hv⟩:=h _ (g3 o ho);cases o<;>simp[HO.rn]at ho';obtain⟨rfl,rfl,rfl⟩:=ho';exact⟨_,_,_,rfl,hn,fun hh=>by rw[g2];exact hv hh⟩
 |.ref k o,v,h,hk=>by
  obtain⟨g1,g2,g3⟩:=hk k (by simp[AV.ks]);cases h with
  |ref hu h =>
   refine .ref g1 fun o ho=>?_;obtain⟨cs,b,ho',hn,hv⟩:=h _ (g3 o ho);cases o<;>simp[HO.rn]at ho';exact⟨_,b,rfl,by rw[g2];exact hn,hv⟩
 |.eref k n i s o,v,h,hk=>by
  obtain⟨g1,g2,g3⟩:=hk k (by simp[AV.ks]);cases h with
  |eref hu hi hoff h =>
   refine .eref g1 hi hoff fun o ho=>?_;obtain⟨e,sz,xs,ho',hn,hv⟩:=h _ (g3 o ho);cases o<;>simp[HO.rn]at ho';obtain⟨rfl,rfl,rfl⟩:=ho';exact⟨_,_,_,rfl,hn,fun hh=>by rw[g2];exact hv hh⟩
 |.rv k n l m s,v,h,hk=>by
  obtain⟨g1,g2,g3⟩:=hk k (by simp[AV.ks]);cases h with
  |rv hu hc hlo h =>
   refine .rv g1 hc hlo fun o ho=>?_;obtain⟨e,sz,xs,ho',hn,hv⟩:=h _ (g3 o ho);cases o<;>simp[HO.rn]at ho';obtain⟨rfl,rfl,rfl⟩:=ho';exact⟨_,_,_,rfl,hn,fun hh=>by rw[g2];exact hv hh⟩
 |.mref f k o,v,h,hk=>by
  obtain⟨g1,g2,g3⟩:=hk k (by simp[AV.ks]);cases h with
  |mref hu h =>
   refine .mref g1 fun o ho=>?_;obtain⟨cs,b,ho',hn,hv⟩:=h _ (g3 o ho);cases o<;>simp[HO.rn]at ho';exact⟨_,b,rfl,by rw[g2];exact hn,hv⟩
 |.map k,v,h,hk=>by
  obtain⟨g1,g2,g3⟩:=hk k (by simp[AV.ks]);cases h with
  |map hu h =>
   refine .map g1 fun o ho=>?_;obtain⟨kt,et,es,ho',hn⟩:=h _ (g3 o ho);cases o<;>simp[HO.rn]at ho';obtain⟨rfl,rfl,rfl⟩:=ho';exact⟨_,_,_,rfl,by rw[g2];exact hn⟩
 |.it k,v,h,hk=>by
  obtain⟨g1,g2,g3⟩:=hk k (by simp[AV.ks]);cases h with
  |it hu h =>
   refine .it g1 fun o ho=>?_;obtain⟨m,c,seen,b,ho',hn,hv⟩:=h _ (g3 o ho);cases o<;>simp[HO.rn]at ho';exact⟨_,_,_,b,rfl,by rw[g2];exact hn,hv⟩
 |.vs k off n,v,h,hk=>by
  obtain⟨g1,g2,g3⟩:=hk k (by simp[AV.ks]);cases h with
  |vs hu hc h =>
   refine .vs g1 hc fun o ho=>?_;obtain⟨cs,b,ho',hn,hv,hle⟩:=h _ (g3 o ho);cases o<;>simp[HO.rn]at ho';subst ho';exact⟨_,b,rfl,by rw[g2];exact hn,hv,by rw[C1]at hle;exact hle⟩
theorem A5.pulls(hM:∀b,M' b→M b):∀(fs:List AV) (cs:List Value),(∀(i:Nat) d v,(NS σ fs)[i]? =some d→cs[i]? =some v→A5 w M H ν used d v)→(∀k∈J4 fs,used' k∧ν' k=ν (σ k)∧∀o,H' k=some o→H (σ k)=some (o.rn σ)) →
 ∀(i:Nat) d v,fs[i]? =some d→cs[i]? =some v→A5 w M' H' ν' used' d v
 | [],cs,h,hk,i,dd,v,hd,hv=>by simp at hd
 |a::az,cs,h,hk,i,dd,v,hd,hv=>by
  cases i with
  |zero =>
   simp at hd;subst hd;exact A5.pull hM a v (h 0 _ v rfl hv) (fun k hk'=>hk k (by simp[J4,hk']))
  |succ i =>
   cases cs with
   |nil=>simp at hv
   |cons u cs=>exact A5.pulls hM az cs (fun j d v h1 h2=>h (j+1) d v (by simpa[NS]using h1) (by simpa using h2)) (fun k hk'=>hk k (by simp[J4,hk'])) i dd v (by simpa using hd) (by simpa using hv)
end
end
end Go.Eng
namespace Go.Eng
open Go.RowKit
def F1(C:World→List Value→(Ending→World→Prop)→Prop)(az:List AV)(hp:Aa)(r:AV)(hp':Aa)(n:Nat):Prop :=
 ∀(X:DT) (ν:Nat→Value) (w:World) (vs:List Value),At X (lk hp) ν (·< n) w→az.length=vs.length →
  (∀(i:Nat) d v,az[i]? =some d→vs[i]? =some v→A5 w (Am X.M0 (lk hp) ν) (lk hp) ν (·< n) d v) →
  C w vs fun e w'=>∃v ν' c,e= .returned v∧At X (lk hp') ν' (·< c) w' ∧
   CT (Am X.M0 (lk hp) ν) (lk hp) ν (·< n) w (Am X.M0 (lk hp') ν') (lk hp') ν' (·< c) w'∧A5 w' (Am X.M0 (lk hp') ν') (lk hp') ν' (·< c) r v
def CM(P:Program)(g:FuncId):World→List Value→(Ending→World→Prop)→Prop:=fun w vs R=>(callFunc g vs.toArray).run P w= .ok (.enter g vs.toArray) w∧Calls P g vs.toArray w R
def Ai(P:Program)(g:FuncId)(az:List AV)(hp:Aa)(r:AV)(hp':Aa)(n:Nat):Prop:=F1 (CM P g) az hp r hp' n
def CY(P:Program):World→List Value→(Ending→World→Prop)→Prop:=fun w vs R =>
 ∃l xs fn tmps assign body,vs= .func (.yield l) #[] #[]::xs∧(Instr.yield l xs.toArray).run P w= .ok (.round l fn tmps assign body) w∧RoundIn Fence.wide 0 P l fn tmps assign body w R
def D7(P:Program)(az:List AV)(hp:Aa)(r:AV)(hp':Aa)(n:Nat):Prop:=F1 (CY P) az hp r hp' n
def W2(C:World→List Value→(Ending→World→Prop)→Prop):Prop:=∀(w:World) (vs:List Value) (R R':Ending→World→Prop),(∀e w,R e w→R' e w)→C w vs R→C w vs R'
theorem CM.good(P:Program)(g:FuncId):W2 (CM P g):=fun _ _ _ _ h hc=>⟨hc.1,hc.2.mono h⟩
theorem CY.good(P:Program):W2 (CY P):=fun _ _ _ _ h ⟨l,xs,fn,tmps,assign,body,h1,h2,h3⟩=>⟨l,xs,fn,tmps,assign,body,h1,h2,h3.mono h⟩
def XC(l m:List Nat):Bool:=l.all fun k=>m.elem k
def DS(q n:Nat)(σ:Nat→Nat)(ks fs:List Nat)(az:List AV)(hpc:Aa)(r:AV)(hp':Aa):Bool :=
 ks.all (fun k=>Nat.blt k n)&&decide ((ks++fs).map σ).Nodup&&fs.all (fun f=>Nat.beq (σ f) q)&&XC (J4 az) ks&&hpc.all (fun p=>ks.elem p.1&&XC p.2.ks ks)&&XC r.ks (ks++fs)&&hp'.all (fun p=>(ks++fs).elem p.1&&XC p.2.ks (ks++fs))
theorem Kl{l m:List Nat}(h:XC l m=true):∀k∈l,k∈m:=fun k hk=>by
 have:=List.all_eq_true.1 h k hk;simpa using this
theorem M7{σ:Nat→Nat}:∀{l:List Nat},(l.map σ).Nodup→∀k∈l,l.find? (fun x=>σ x==σ k)=some k
 | [],_,k,h=>by simp at h
 |x::l,hn,k,h=>by
  simp only[List.map_cons,List.nodup_cons]at hn;simp only[List.find?_cons];rcases List.mem_cons.1 h with rfl|h
  ·simp
  ·have:¬σ x=σ k:=fun e=>hn.1 (e▸List.mem_map_of_mem h);have e:(σ x==σ k)=false:=beq_eq_false_iff_ne.2 this;rw[e];exact M7 hn.2 k h
theorem UZ{σ:Nat→Nat}{l:List Nat}{j:Nat}(h:∀k∈l,σ k≠j):l.find? (fun x=>σ x==j)=none:=by
 rw[List.find?_eq_none];intro x hx;simpa using h x hx
def C0(σ:Nat→Nat)(L:List Nat)(hp':Aa):List (Nat×Option HO):=L.map fun k=>(σ k,(lk hp' k).map (HO.rn σ))
theorem Mg{σ:Nat→Nat}{G:Nat→Option HO}:∀{l:List Nat} (hp:Aa),(l.map σ).Nodup→∀k∈l,lk (BO hp (l.map fun k=>(σ k,G k))) (σ k)=G k
 | [],hp,_,k,h=>by simp at h
 |x::l,hp,hn,k,h=>by
  simp only[List.map_cons,List.nodup_cons]at hn;have hne:∀hq:Aa,k=x→lk (BO hq (l.map fun k=>(σ k,G k))) (σ x)=lk hq (σ x):=fun hq e=>C8 _ _ _ (by
   simp only[C5,List.map_map];exact fun hm=>hn.1 (by obtain⟨y,hy,e⟩:=List.mem_map.1 hm;exact List.mem_map.2 ⟨y,hy,e⟩))
  by_cases e:k=x
  ·subst e;simp only[List.map_cons];cases hG:G k with
   |none=>rw[BO,hne _ rfl,B3]
   |some o=>rw[BO,hne _ rfl,Ab]
  ·have hk:k∈l:=by rcases List.mem_cons.1 h with h|h;exact absurd h e;exact h
   simp only[List.map_cons];cases hG:G x with
   |none=>exact Mg _ hn.2 k hk
   |some o=>exact Mg _ hn.2 k hk
theorem AU{σ:Nat→Nat}{L:List Nat}{hp hp':Aa}{j:Nat}(h:∀k∈L,σ k≠j):lk (BO hp (C0 σ L hp')) j=lk hp j :=
 C8 _ _ _ (by
  simp only[C0,C5,List.map_map];exact fun hm=>by obtain⟨y,hy,e⟩:=List.mem_map.1 hm;exact h y hy e)
def HG(σ:Nat→Nat)(L:List Nat)(ν ν':Nat→Value)(j:Nat):Value:=match L.find? (fun x=>σ x==j)with|some k=>ν' k|none=>ν j
theorem KJ{C:World→List Value→(Ending→World→Prop)→Prop}(hC:W2 C){X:DT}{hp hpc hp':Aa}{ν:Nat→Value}{used:Nat→Prop}{w:World}{q n:Nat}{σ:Nat→Nat}{ks fs:List Nat}{az:List AV}{r:AV}(hI:At X (lk hp) ν used w)(hq:¬used q)(hs:F1 C az hpc r hp' n)
 (hb:DS q n σ ks fs az hpc r hp'=true) (hsub:∀k∈ks,∃o,lk hpc k=some o∧lk hp (σ k)=some (o.rn σ)) {vs:List Value} (hl:az.length=vs.length)
 (ha:∀(i:Nat) d v,az[i]? =some d→vs[i]? =some v→A5 w (Am X.M0 (lk hp) ν) (lk hp) ν used (d.rn σ) v) :
 C w vs fun e w'=>∃v ν',e= .returned v∧At X (lk (BO hp (C0 σ (ks++fs) hp'))) ν' (fun k=>used k∨k=q) w' ∧
  CT (Am X.M0 (lk hp) ν) (lk hp) ν used w (Am X.M0 (lk (BO hp (C0 σ (ks++fs) hp'))) ν') (lk (BO hp (C0 σ (ks++fs) hp'))) ν' (fun k=>used k∨k=q) w' ∧
  A5 w' (Am X.M0 (lk (BO hp (C0 σ (ks++fs) hp'))) ν') (lk (BO hp (C0 σ (ks++fs) hp'))) ν' (fun k=>used k∨k=q) (r.rn σ) v:=by
 simp only[DS,Bool.and_eq_true,decide_eq_true_eq]at hb;obtain⟨⟨⟨⟨⟨⟨b1,b2⟩,b3⟩,b4⟩,b5⟩,b6⟩,b7⟩:=hb;have hlt:∀k∈ks,k<n:=fun k hk=>by have:=List.all_eq_true.1 b1 k hk;simp[Nat.blt]at this;omega
 have hfs:∀f∈fs,σ f=q:=fun f hf=>by have:=List.all_eq_true.1 b3 f hf;simpa using this
 have hc:∀k o,lk hpc k=some o→k∈ks∧∀k'∈o.ks,k'∈ks:=fun k o ho=>by
  have:=List.all_eq_true.1 b5 _ (Gy ho);simp only[Bool.and_eq_true]at this;exact⟨by simpa using this.1,Kl this.2⟩
 have hc':∀k o,lk hp' k=some o→k∈ks++fs∧∀k'∈o.ks,k'∈ks++fs:=fun k o ho=>by
  have:=List.all_eq_true.1 b7 _ (Gy ho);simp only[Bool.and_eq_true]at this;exact⟨by simpa using this.1,Kl this.2⟩
 have hfind:=M7 b2;have inj:∀k∈ks++fs,∀k'∈ks++fs,σ k=σ k'→k=k':=fun k hk k' hk' e=>by
  have h1:=hfind k hk;rw[e,hfind k' hk']at h1;cases h1;rfl
 have husd:∀k∈ks,used (σ k):=fun k hk=>by obtain⟨o,_,ho⟩:=hsub k hk;exact hI.usd _ _ ho
 have hsub':∀k o,lk hpc k=some o→lk hp (σ k)=some (o.rn σ):=fun k o ho=>by
  obtain⟨o1,h1,h2⟩:=hsub k (hc k o ho).1;rw[ho]at h1;cases h1;exact h2
 let R:Nat→Prop:=fun b=>X.M0 b∨∃j o,lk hp j=some o∧(∀k∈ks,σ k≠j)∧AL (ν j) b
 let X':DT:=⟨X.w0,R,0,X.wd⟩
 let νc:Nat→Value:=fun k=>ν (σ k)
 have hMsub:∀b,Am R (lk hpc) νc b→Am X.M0 (lk hp) ν b:=fun b h=>by
  rcases h with(h|⟨j,o,hj,_,hbj⟩)|⟨k,o,hk,hbk⟩
  ·exact .inl h
  ·exact .inr ⟨j,o,hj,hbj⟩
  ·exact .inr ⟨σ k,_,hsub' k o hk,hbk⟩
 have hOsub:∀b,Tt (lk hpc) νc b→Tt (lk hp) ν b:=fun b ⟨k,o,hk,hbk⟩=>⟨σ k,_,hsub' k o hk,hbk⟩
 have hkc:∀k∈ks,k<n∧νc k=ν (σ k)∧∀o,lk hpc k=some o→lk hp (σ k)=some (o.rn σ):=fun k hk=>⟨hlt k hk,rfl,hsub' k⟩
 have hIc:At X' (lk hpc) νc (·< n) w:=by
  refine⟨hI.below,fun b h=>?_,fun k o b hk hbk h=>?_,fun k o hk=>hlt k (hc k o hk).1,fun k o b hk hbk=>hI.blk _ _ _ (hsub' k o hk) hbk,fun k k' o o' b hk hk' hb hb'=>?_,fun k o hk=>?_⟩
  ·rcases h with h|⟨j,o,hj,_,hbj⟩
   ·exact hI.M0 b h
   ·exact(hI.blk _ _ _ hj hbj).2
  ·rcases h with h|⟨j,o',hj,hne,hbj⟩
   ·exact hI.far _ _ _ (hsub' k o hk) hbk h
   ·exact hne k (hc k o hk).1 (hI.inj _ _ _ _ _ (hsub' k o hk) hj hbk hbj)
  ·exact inj k (List.mem_append_left _ (hc k o hk).1) k' (List.mem_append_left _ (hc k' o' hk').1) (hI.inj _ _ _ _ _ (hsub' k o hk) (hsub' k' o' hk') hb hb')
  ·have ho:=hI.obj _ _ (hsub' k o hk);cases o with
   |var cs =>
    obtain⟨b,cells,e,h1,h2,h3,h4,h5⟩:=ho;refine⟨b,cells,e,h1,h2,by rw[h3,C1],fun c hcm=>?_,fun i av u hi hu=>?_⟩
    ·have:=h4 (c.rn σ) (by rw[IR];exact List.mem_map_of_mem hcm)
     rwa [Kd]at this
    ·exact A5.pull hMsub av u (h5 i _ u (RR hi) hu) (fun k' hk'=>hkc k' ((hc k _ hk).2 k' (HD hi k' hk')))
   |row e sz xs =>
    obtain⟨vals,h1,h2,h3,h4⟩:=ho;exact⟨vals,h1,h2,h3,h4.mono (Bi.refl _ _) (fun b _ h=>hMsub b h)⟩
   |map kt et es =>
    obtain⟨r0,ents,h1,h2,h3,h4⟩:=ho;exact⟨r0,ents,h1,h2,h3,fun i kd vd en q1 q2=>let ⟨x,y,z⟩:=h4 i kd vd en q1 q2;⟨x,y.mono (Bi.refl _ _) (fun b _ h=>hMsub b h),z.mono (Bi.refl _ _) (fun b _ h=>hMsub b h)⟩⟩
   |iter m c seen =>
    obtain⟨b,mr,h1,h2,h3,h4⟩:=ho;have hm:=(hc k _ hk).2 m (by simp[HO.ks]);refine⟨b,mr,h1,h2,hlt m hm,fun o ho'=>?_⟩;obtain⟨kt,et,es,e1,e2⟩:=h4 _ (hsub' m o ho');cases o<;>simp[HO.rn]at e1;exact⟨_,_,_,rfl,e2⟩
   |tab T rows q=>exact E6.mono (Bi.refl _ _) (fun b _ h=>hMsub b h) (fun _ _=>rfl) ho
   |loop Y cs st =>
    obtain⟨l,lr,h1,h2,h3,h4,h5,h6⟩:=ho;exact⟨l,lr,h1,h2,h3,h4,h5,fun n av hn=>A5.pull hMsub av _ (h6 n _ (by rw[Q2,hn];rfl)) (fun k' hk'=>hkc k' ((hc k _ hk).2 k' (Q1 hn k' hk')))⟩
 refine hC _ _ _ _ ?_ (hs X' νc w vs hIc hl (fun i d v hd hv=>A5.pull hMsub d v (ha i d v hd hv) (fun k hk=>hkc k (Kl b4 k (HD hd k hk)))));rintro e w' ⟨v,ν',c,rfl,hI',hx,hr⟩;have hcan:∀k∈ks++fs,lk (BO hp (C0 σ (ks++fs) hp')) (σ k)=(lk hp' k).map (HO.rn σ):=fun k hk=>Mg hp b2 k hk;have hν:∀k∈ks++fs,HG σ (ks++fs) ν ν' (σ k)=ν' k:=fun k hk=>by simp only[HG,hfind k hk]
 have hνo:∀j,(∀k∈ks++fs,σ k≠j)→HG σ (ks++fs) ν ν' j=ν j:=fun j hj=>by simp only[HG,UZ hj]
 have split:∀j,(∃k∈ks++fs,σ k=j)∨∀k∈ks++fs,σ k≠j:=fun j=>by
  by_cases h:∃k∈ks++fs,σ k=j
  ·exact .inl h
  ·exact .inr fun k hk e=>h ⟨k,hk,e⟩
 have hget:∀k∈ks++fs,∀o,lk (BO hp (C0 σ (ks++fs) hp')) (σ k)=some o→∃o',lk hp' k=some o'∧o=o'.rn σ:=fun k hk o ho=>by
  rw[hcan k hk]at ho;cases h:lk hp' k with
  |none=>rw[h]at ho;cases ho
  |some o'=>rw[h]at ho;cases ho;exact⟨o',rfl,rfl⟩
 have Cd:∀j o b,(∀k∈ks++fs,σ k≠j)→lk hp j=some o→AL (ν j) b→R b:=fun j o b hj ho hbj=>.inr ⟨j,o,ho,fun k hk=>hj k (List.mem_append_left _ hk),hbj⟩;have hM':∀b,Am X.M0 (lk (BO hp (C0 σ (ks++fs) hp'))) (HG σ (ks++fs) ν ν') b→Am R (lk hp') ν' b:=fun b h=>by
  rcases h with h|⟨j,o,hj,hbj⟩
  ·exact .inl (.inl h)
  ·rcases split j with⟨k,hk,rfl⟩|hne
   ·rw[hν k hk]at hbj;obtain⟨o',ho',_⟩:=hget k hk o hj;exact .inr ⟨k,o',ho',hbj⟩
   ·rw[AU hne]at hj;rw[hνo j hne]at hbj;exact .inl (Cd j o b hne hj hbj)
 have hused:∀k∈ks++fs,used (σ k)∨σ k=q:=fun k hk=>by
  rcases List.mem_append.1 hk with h|h
  ·exact .inl (husd k h)
  ·exact .inr (hfs k h)
 have Fw:∀k∈ks++fs,(used (σ k)∨σ k=q)∧HG σ (ks++fs) ν ν' (σ k)=ν' k∧∀o',lk (BO hp (C0 σ (ks++fs) hp')) (σ k)=some o'→∃o,lk hp' k=some o∧o'=o.rn σ :=
  fun k hk=>⟨hused k hk,hν k hk,hget k hk⟩
 have hxx:CT (Am X.M0 (lk hp) ν) (lk hp) ν used w (Am X.M0 (lk (BO hp (C0 σ (ks++fs) hp'))) (HG σ (ks++fs) ν ν')) (lk (BO hp (C0 σ (ks++fs) hp'))) (HG σ (ks++fs) ν ν') (fun k=>used k∨k=q) w':=by
  refine⟨⟨hx.same.size,fun b hb hM=>hx.same.block b hb (fun h=>hM (hMsub b h))⟩,fun b hb h=>?_,fun k h=>.inl h,fun j hj o ho=>?_,⟨hx.sameO.size,fun b hb hM=>hx.sameO.block b hb (fun h=>hM (hOsub b h))⟩,fun b hb h=>?_⟩
  ·exact hMsub b (hx.shrink b hb (hM' b h))
  ·rcases split j with⟨k,hk,rfl⟩|hne
   ·rcases List.mem_append.1 hk with h|h
    ·obtain⟨o',ho',rfl⟩:=hget k hk o ho;obtain⟨o1,h1,h2,h3⟩:=hx.obj k (hlt k h) o' ho';exact⟨_,hsub' k o1 h1,HO.rn_later h2,by rw[hν k hk];exact HO.rn_keeps h3⟩
    ·exact absurd (hfs k h▸hj) hq
   ·rw[AU hne]at ho;exact⟨o,ho,HO.later.refl _,HO.keeps_eq (hνo j hne)⟩
  ·obtain⟨j,o,hj,hbj⟩:=h;rcases split j with⟨k,hk,rfl⟩|hne
   ·rw[hν k hk]at hbj;obtain⟨o',ho',_⟩:=hget k hk o hj;exact hOsub b (hx.shrinkO b hb ⟨k,o',ho',hbj⟩)
   ·rw[AU hne]at hj;rw[hνo j hne]at hbj;exact⟨j,o,hj,hbj⟩
 refine⟨v,HG σ (ks++fs) ν ν',rfl,⟨hI'.below,fun b h=>Nat.lt_of_lt_of_le (hI.M0 b h) hx.same.size,fun j o b hj hbj=>?_,fun j o hj=>?_,fun j o b hj hbj=>?_,fun j j' o o' b hj hj' hb hb'=>?_,fun j o hj=>?_⟩,hxx,hr.push hM' (fun k hk=>Fw k (Kl b6 k hk))⟩
 ·rcases split j with⟨k,hk,rfl⟩|hne
  ·rw[hν k hk]at hbj;obtain⟨o',ho',_⟩:=hget k hk o hj;exact fun h=>hI'.far _ _ _ ho' hbj (.inl h)
  ·rw[AU hne]at hj;rw[hνo j hne]at hbj;exact hI.far _ _ _ hj hbj
 ·rcases split j with⟨k,hk,rfl⟩|hne
  ·exact hused k hk
  ·rw[AU hne]at hj;exact .inl (hI.usd _ _ hj)
 ·rcases split j with⟨k,hk,rfl⟩|hne
  ·rw[hν k hk]at hbj;obtain⟨o',ho',_⟩:=hget k hk o hj;exact hI'.blk _ _ _ ho' hbj
  ·rw[AU hne]at hj;rw[hνo j hne]at hbj;have:=hI.blk _ _ _ hj hbj;exact⟨this.1,Nat.lt_of_lt_of_le this.2 hx.same.size⟩
 ·rcases split j with⟨k,hk,rfl⟩|hne
  ·rw[hν k hk]at hb;obtain⟨o1,ho1,_⟩:=hget k hk o hj;rcases split j' with⟨k',hk',rfl⟩|hne'
   ·rw[hν k' hk']at hb';obtain⟨o2,ho2,_⟩:=hget k' hk' o' hj';rw[hI'.inj _ _ _ _ _ ho1 ho2 hb hb']
   ·rw[AU hne']at hj';rw[hνo j' hne']at hb';exact absurd (Cd j' o' b hne' hj' hb') (hI'.far _ _ _ ho1 hb)
  ·rw[AU hne]at hj;rw[hνo j hne]at hb;rcases split j' with⟨k',hk',rfl⟩|hne'
   ·rw[hν k' hk']at hb';obtain⟨o2,ho2,_⟩:=hget k' hk' o' hj';exact absurd (Cd j o b hne hj hb) (hI'.far _ _ _ ho2 hb')
   ·rw[AU hne']at hj';rw[hνo j' hne']at hb';exact hI.inj _ _ _ _ _ hj hj' hb hb'
 ·rcases split j with⟨k,hk,rfl⟩|hne
  ·obtain⟨o',ho',rfl⟩:=hget k hk o hj;rw[hν k hk];have hob:=hI'.obj _ _ ho';cases o' with
   |var cs =>
    obtain⟨b,cells,e,h1,h2,h3,h4,h5⟩:=hob;refine⟨b,cells,e,h1,h2,by rw[h3,C1],fun c hcm=>?_,fun i av u hi hu=>?_⟩
    ·rw[IR]at hcm;obtain⟨a,ha',rfl⟩:=List.mem_map.1 hcm;rw[Kd];exact h4 a ha'
    ·obtain⟨a,ha',rfl⟩:=IQ hi;exact(h5 i a u ha' hu).push hM' (fun k' hk'=>Fw k' ((hc' k _ ho').2 k' (HD ha' k' hk')))
   |row e sz xs =>
    obtain⟨vals,h1,h2,h3,h4⟩:=hob;exact⟨vals,h1,h2,h3,h4.mono (Bi.refl _ _) (fun b _ h=>hM' b h)⟩
   |map kt et es =>
    obtain⟨r0,ents,h1,h2,h3,h4⟩:=hob;exact⟨r0,ents,h1,h2,h3,fun i kd vd en q1 q2=>let ⟨x,y,z⟩:=h4 i kd vd en q1 q2;⟨x,y.mono (Bi.refl _ _) (fun b _ h=>hM' b h),z.mono (Bi.refl _ _) (fun b _ h=>hM' b h)⟩⟩
   |iter m c seen =>
    obtain⟨b,mr,h1,h2,h3,h4⟩:=hob;obtain⟨g1,g2,g3⟩:=Fw m ((hc' k _ ho').2 m (by simp[HO.ks]));refine⟨b,mr,h1,h2,g1,fun o ho2=>?_⟩;obtain⟨o1,hoo,rfl⟩:=g3 o ho2;obtain⟨kt,et,es,rfl,hn⟩:=h4 o1 hoo;exact⟨kt,et,es,rfl,by rw[g2];exact hn⟩
   |tab T rows q=>exact E6.mono (Bi.refl _ _) (fun b _ h=>hM' b h) (fun _ _=>rfl) hob
   |loop Y cs st =>
    obtain⟨l,lr,h1,h2,h3,h4,h5,h6⟩:=hob;refine⟨l,lr,h1,h2,h3,h4,h5,fun n av hn=>?_⟩;rw[Q2]at hn;obtain⟨a,ha',rfl⟩:=Option.map_eq_some_iff.1 hn;exact(h6 n a ha').push hM' (fun k' hk'=>Fw k' ((hc' k _ ho').2 k' (Q1 ha' k' hk')))
  ·rw[AU hne]at hj;rw[hνo j hne];refine(hI.obj _ _ hj).ext hxx (fun b hbj=>?_);refine hx.sameO.block b (hI.blk _ _ _ hj hbj).2 (fun⟨k,o',hk,hbk⟩=>?_);exact hne k (List.mem_append_left _ (hc k o' hk).1) (hI.inj _ _ _ _ _ (hsub' k o' hk) hj hbk hbj)
end Go.Eng
namespace Go.Eng
open Go.RowKit
def opnd(E:BP):Operand→AV
 |.tmp t=>match lk E t with|some a=>a|none=>.undef
 |.const v=>match J5 v with|some d=>.d d|none=>.undef
 |.func f=>.d (.fn f)
 |.global _=>.undef
def EF(E:BP)(d:Option Nat)(v:AV):BP:=match d with|some d=>(d,v)::E|none=>E
def A3(P:Program)(g:FuncId)(args:List D)(r:D):Prop :=
 ∀(w:World) (M:Nat→Prop) (vs:List Value),Wd w→(∀b,M b→b<w.heap.size)→args.length=vs.length→(∀(i:Nat) d v,args[i]? =some d→vs[i]? =some v→An w M d v) →
  (∃v w',(callFunc g vs.toArray).run P w= .ok (.value v) w'∧An w' M r v∧Bl w.heap.size w w') ∨
  ((callFunc g vs.toArray).run P w= .ok (.enter g vs.toArray) w∧Calls P g vs.toArray w fun e w'=>∃v,e= .returned v∧An w' M r v∧Bl w.heap.size w w')
def Rf:AV→Option (FuncId×List AV)
 |.d x=>match x with| .fn g=>some (g,[])|_=>none
 |.fn g caps=>some (g,caps)
 |_=>none
def Jd:AV→Option (FuncId×List AV×List AV)
 |.d x=>match x with| .fn g=>some (g,[],[])|_=>none
 |.fn g caps=>some (g,[],caps)
 |.mref g k o=>some (g,[.ref k o],[])
 |_=>none
def FR(rd:Option Nat):Fence:={ Fence.wide with round:=rd }
theorem Pq{P:Program}{rd:Option Nat}{n:Nat}{f:FuncId}{args:Array Value}{w:World}{R:Ending→World→Prop}(h:Calls P f args w R):CallsIn (FR rd) n P f args w R:=by
 cases rd with
 |none=>exact callsIn_wide.2 h
 |some l=>exact CallsIn.inRound l (callsIn_wide.2 h)
theorem Zj{P:Program}{rd:Option Nat}{n l:Nat}{f:FuncId}{tmps:Array Value}{assign body:Code}{w:World}{R:Ending→World→Prop}(h:RoundIn Fence.wide n P l f tmps assign body w R):RoundIn (FR rd) n P l f tmps assign body w R:=by
 cases rd with
 |none=>exact h
 |some l'=>exact h
theorem Sx{rd:Option Nat}{n m:Nat}(h:(FR rd).depth.isSome=true):n≤m:=by simp[FR,Fence.wide]at h
structure EX where
 dst:Option Nat
 v:AV
 es:List (Nat×Option HO)
 acc:List Nat
def G2(ops:Array Oper)(j:Nat):Option Nat:=(ops[j]?).bind (·.dst)
def gd(ops:Array Oper)(E:BP)(g:Option (Nat×Bool)):Option Bool :=
 match g with
 |none=>some true
 |some (j,want)=>match G2 ops j with
  |some t=>match lk E t with
   |some a=>match a with
    |.d x=>match x with| .bool b=>some (b==want)|_=>none
    |.tup _=>some false
    |_=>none
   |none=>none
  |none=>none
def Nh(ks:List Nat):List (Nat×Option HO):=ks.map fun q=>(q,none)
inductive JJ(P:Program)(ops:Array Oper)(key:Nat)(o:Oper)(E:BP)(hp:Aa):EX→Prop where
 |skip (hg:gd ops E o.guard=some false):JJ P ops key o E hp ⟨o.dst,.tup [],[],[]⟩
 |op {v:AV} {es:List (Nat×Option HO)} {acc:List Nat} (hg:gd ops E o.guard=some true) (he:Ft P key (opnd E) (lk hp) o.op=some (v,es,acc)):JJ P ops key o E hp ⟨o.dst,v,es,acc⟩
 |call {f:Operand} {args:Array Operand} {ts:Array TypeId} {g:FuncId} {ds:List D} {ks:List Nat} {r:D} (hg:gd ops E o.guard=some true) (ho:o.op= .call ⟨.value f,args,ts⟩) (hf:opnd E f= .d (.fn g))
   (ha:FN (lk hp) (args.toList.map (opnd E))=some (ds,ks)) (hs:A3 P g ds r):JJ P ops key o E hp ⟨o.dst,.d r,if r.flat then[]else Nh ks,ks⟩
 |callM {f:Operand} {args:Array Operand} {ts:Array TypeId} {g:FuncId} {pre caps az:List AV} {hpc hp':Aa} {r:AV} {n:Nat} {σ:Nat→Nat} {ks fs chg:List Nat} (hg:gd ops E o.guard=some true) (ho:o.op= .call ⟨.value f,args,ts⟩) (hf:Jd (opnd E f)=some (g,pre,caps))
   (ha:az.map (AV.rn σ)=pre++(args.toList.map (opnd E)++caps)) (hs:Ai P g az hpc r hp' n) (hb:DS key n σ ks fs az hpc r hp'=true) (hsub:∀k∈ks,∃o,lk hpc k=some o∧lk hp (σ k)=some (o.rn σ)) (hcs:∀k∈chg,k∈ks) (hch:∀k∈ks,k∈chg∨lk hp' k=lk hpc k) :
   JJ P ops key o E hp ⟨o.dst,r.rn σ,C0 σ (chg++fs) hp',ks.map σ⟩
 |callY {f:Operand} {args:Array Operand} {ts:Array TypeId} {kl:Nat} {az:List AV} {hpc hp':Aa} {r:AV} {n:Nat} {σ:Nat→Nat} {ks fs:List Nat} (hg:gd ops E o.guard=some true) (ho:o.op= .call ⟨.value f,args,ts⟩) (hf:opnd E f= .yld kl)
   (ha:az.map (AV.rn σ)= .yld kl::args.toList.map (opnd E)) (hs:D7 P az hpc r hp' n) (hb:DS key n σ ks fs az hpc r hp'=true) (hsub:∀k∈ks,∃o,lk hpc k=some o∧lk hp (σ k)=some (o.rn σ)) :
   JJ P ops key o E hp ⟨o.dst,r.rn σ,C0 σ (ks++fs) hp',ks.map σ⟩
def Kx(lo:Nat)(w:World)(M:Nat→Prop):List Deferred→Prop
 | []=>True
 |d::ds=>(∃B,d={ target:=.collected B,args := #[] }∧lo≤B∧w.heap[B]? =some (.deferred (some []))∧¬M B)∧d∉ds∧Kx lo w M ds
theorem Kx.mono{lo:Nat}{w w':World}{M M':Nat→Prop}(hs:Bi M w w')(hM:∀b,b<w.heap.size→M' b→M b):∀{ds:List Deferred},Kx lo w M ds→Kx lo w' M' ds
 | [],_=>trivial
 |d::ds,⟨⟨B,e,h1,h2,h3⟩,hn,h⟩=>by
  have hlt:=(Array.getElem?_eq_some_iff.1 h2).1;exact⟨⟨B,e,h1,by rw[hs.block B hlt h3];exact h2,fun hh=>h3 (hM _ hlt hh)⟩,hn,h.mono hs hM⟩
def J7(lo:Nat)(w:World)(M:Nat→Prop)(ds:List Deferred):Prop:=lo≤w.heap.size∧Kx lo w M ds
theorem J7.mono{lo:Nat}{w w':World}{M M':Nat→Prop}(hs:Bi M w w')(hM:∀b,b<w.heap.size→M' b→M b){ds:List Deferred}(h:J7 lo w M ds):J7 lo w' M' ds:=⟨Nat.le_trans h.1 hs.size,h.2.mono hs hM⟩
structure Dv(X:DT)(N:Nat)(E:BP)(H:Nat→Option HO)(ν:Nat→Value)(used:Nat→Prop)(a:Act)(w:World):Prop where
 heap:At X H ν used w
 env:∀n av,lk E n=some av→A5 w (Am X.M0 H ν) H ν used av (a.tmps.getD n undef)
 size:a.tmps.size=N
 defers:J7 X.lo w (Am X.M0 H ν) a.defers
section
variable {P:Program} {X:DT} {N:Nat} {E:BP} {hp:Aa} {ν:Nat→Value} {used:Nat→Prop} {a:Act} {w:World} {key:Nat}
theorem Dv.opnd{H:Nat→Option HO}(h:Dv X N E H ν used a w)(x:Operand):A5 w (Am X.M0 H ν) H ν used (opnd E x) (a.eval x):=by
 cases x with
 |tmp t =>
  simp only[Eng.opnd];cases hl:lk E t with
  |none=>exact .undef _
  |some av=>exact h.env t av hl
 |const v =>
  simp only[Eng.opnd];cases hv:J5 v with
  |none=>exact .undef _
  |some d=>exact .d (Qs v d hv)
 |func f=>exact .d (.fn f)
 |global g=>exact .undef _
theorem GQ{H:Nat→Option HO}{ops:Array Oper}(h:Dv X N E H ν used a w)(o:Oper){b:Bool}(hg:gd ops E o.guard=some b):Region.wanted o (yielded ops a.tmps)=b:=by
 unfold gd at hg;unfold Region.wanted;cases hgu:o.guard with
 |none=>simp[hgu]at hg;simp[hg]
 |some p =>
  obtain⟨j,want⟩:=p;simp only[hgu]at hg ⊢;cases ht:G2 ops j with
  |none=>simp[ht]at hg
  |some t =>
   simp only[ht]at hg;cases hl:lk E t with
   |none=>simp[hl]at hg
   |some av =>
    simp only[hl]at hg;have hr:=h.env t av hl;have hy:yielded ops a.tmps j=match a.tmps.getD t undef with| .bool b=>some b|_=>none:=by
     unfold yielded;unfold G2 at ht;rw[ht];simp only[Option.bind_some];cases hq:a.tmps[t]? with
     |none=>simp[hq,undef]
     |some v=>simp[hq];cases v<;>rfl
    rw[hy];cases av with
    |d x =>
     cases x<;>simp at hg;generalize a.tmps.getD t undef=u at hr;cases hr with
     |d hr=>cases hr;subst hg;simp
    |tup vs =>
     simp at hg;subst hg;generalize a.tmps.getD t undef=u at hr;cases hr;simp
    |_=>simp at hg
theorem Dv.put{E:BP}{H H':Nat→Option HO}{ν ν':Nat→Value}{used used':Nat→Prop}{w w':World}(h:Dv X N E H ν used a w)(hI:At X H' ν' used' w')(hx:CT (Am X.M0 H ν) H ν used w (Am X.M0 H' ν') H' ν' used' w')
 {av:AV} {v:Value} (hr:A5 w' (Am X.M0 H' ν') H' ν' used' av v) {d:Option Nat} (hd:∀t,d=some t→t<N):Dv X N (EF E d av) H' ν' used' (a.put d v) w':=by
 refine⟨hI,fun n av' hn=>?_,?_,?_⟩
 ·cases d with
  |none=>exact(h.env n av' hn).ext hx
  |some t =>
   simp only[EF,lk]at hn;have ht:=hd t rfl;rw[← h.size]at ht;split at hn
   ·rename_i e;subst e;cases hn;simp only[Act.put,Array.getD_eq_getD_getElem?,Array.getElem?_setIfInBounds_self_of_lt ht,Option.getD_some];exact hr
   ·rename_i e;have:=(h.env n av' hn).ext hx;simpa[Act.put,Array.getD_eq_getD_getElem?,Array.getElem?_setIfInBounds_ne e]using this
 ·cases d with
  |none=>exact h.size
  |some t=>simpa[Act.put]using h.size
 ·cases d with
  |none=>exact h.defers.mono hx.same hx.shrink
  |some t=>simpa[Act.put]using h.defers.mono hx.same hx.shrink
theorem UT(ks:List Nat)(hp:Aa):BO hp (Nh ks)=Bq hp ks:=IB ks hp
theorem JJ.sound{ops:Array Oper}{o:Oper}{out:EX}(h:Dv X N E (lk hp) ν used a w)(hk:¬used key)(hd:∀t,o.dst=some t→t<N)(ho:JJ P ops key o E hp out){K:Act→World→Prop}{Q:Exit→Act→World→Prop}{rd:Option Nat}
 (hK:∀a' w' ν',Dv X N (EF E o.dst out.v) (lk (BO hp out.es)) ν' (fun q=>used q∨q=key) a' w'→CT (Am X.M0 (lk hp) ν) (lk hp) ν used w (Am X.M0 (lk (BO hp out.es)) ν') (lk (BO hp out.es)) ν' (fun q=>used q∨q=key) w'→K a' w') :
 if Region.wanted o (yielded ops a.tmps)then o.wpIn (FR rd) 0 P a w K Q else(∀f,o.about P w a.eval=some f→(FR rd).fn f)∧K (a.put o.dst undef) w:=by
 cases ho with
 |skip hg =>
  rw[GQ h o hg];obtain⟨m1,m2⟩:=h.heap.more hk;have hu:A5 w (Am X.M0 (lk hp) ν) (lk hp) ν (fun q=>used q∨q=key) (.tup []) undef:=.tup (cs:=[]) rfl (fun i d v hd=>by simp at hd);exact⟨fun _ _=>trivial,hK _ _ ν (h.put m1 m2 hu hd) m2⟩
 |op hg he =>
  rw[GQ h o hg];obtain⟨nx,v,w',hr,hnx,ν',p1,p2,p3⟩:=SB h.heap hk (fun x=>h.opnd x) he;simp only[if_true];refine⟨fun _ _=>trivial,?_⟩;rw[Oper.semAt_eq _ _ _ (fun c hc=>by rw[hc]at he;simp[Ft]at he),hr];rcases hnx with rfl|⟨rfl,rfl⟩
  ·exact hK _ _ ν' (h.put p1 p2 p3 hd) p2
  ·exact hK _ _ ν' (h.put p1 p2 p3 hd) p2
 |call hg hop hf ha hs =>
  rename_i f args ts g ds ks r;rw[GQ h o hg];simp only[if_true];have hfv:=h.opnd f;rw[hf]at hfv;generalize hav:a.eval f=fv at hfv;cases hfv with
  |d hfv =>
   cases hfv;have hargs:(∀(i:Nat) d v,(args.toList.map (Eng.opnd E))[i]? =some d→(args.toList.map a.eval)[i]? =some v→A5 w (Am X.M0 (lk hp) ν) (lk hp) ν used d v):=fun i d v h1 h2=>by
    rw[List.getElem?_map]at h1 h2;cases hq:args.toList[i]? with
    |none=>rw[hq]at h1;simp at h1
    |some q=>rw[hq]at h1 h2;simp at h1 h2;subst h1;subst h2;exact h.opnd q
   obtain⟨l1,l2⟩:=G8 h.heap (Am.dels_sub (ks:=ks)) _ _ ds ks (by simp) hargs ha (h.heap.notMut (Fd _ _ _ ha));have hMlt:∀b,Am X.M0 (lk (Bq hp ks)) ν b→b<w.heap.size:=fun b hb=>by
    rcases Am.dels_sub b hb with h'|⟨q,o',hq,hb'⟩
    ·exact h.heap.M0 b h'
    ·exact(h.heap.blk _ _ _ hq hb').2
   have hcall:=hs w (Am X.M0 (lk (Bq hp ks)) ν) (args.toList.map a.eval) (X.wd.mono h.heap.below.lo) hMlt l1 l2;have harr:(args.toList.map a.eval).toArray=args.map a.eval:=by simp[← Array.toList_map]
   rw[harr]at hcall;have hexec:(execOp a.eval o).run P w=(callFunc g (args.map a.eval)).run P w:=by
    unfold execOp;rw[hop];simp only[resolve,hav,Deferred.ofValue,Sem.run_bind,Sem.run_pure,Result.andThen_ok,invoke];simp
   have fin:∀(v:Value) (w':World),An w' (Am X.M0 (lk (Bq hp ks)) ν) r v→Bl w.heap.size w w'→K (a.put o.dst v) w':=by
    intro v w' hv hb;by_cases hfl:r.flat=true
    ·simp only[hfl,if_true]at hK;obtain⟨i1,x1⟩:=h.heap.world hb;obtain⟨m1,m2⟩:=i1.more hk;exact hK _ _ ν (h.put m1 (x1.trans m2) (.d (hv.flat hfl)) hd) (x1.trans m2)
    ·simp only[hfl,Bool.false_eq_true,if_false,UT]at hK;obtain⟨i0,x0⟩:=h.heap.drops ks;obtain⟨i1,x1⟩:=i0.world hb;obtain⟨m1,m2⟩:=i1.more hk;exact hK _ _ ν (h.put m1 (x0.trans (x1.trans m2)) (.d (hv.mono m2.same m2.shrink)) hd) (x0.trans (x1.trans m2))
   refine⟨fun _ _=>trivial,?_⟩;rw[Oper.semAt_eq _ _ _ (fun c hc=>by rw[hop]at hc;cases hc),hexec];rcases hcall with⟨v,w',hr,hv,hb⟩|⟨hr,hc⟩
   ·rw[hr];exact fin v w' hv hb
   ·rw[hr];refine⟨Sx,Pq (hc.mono ?_)⟩;rintro e w' ⟨v,rfl,hv,hb⟩;exact fin v w' hv hb
 |callM hg hop hf ha hs hb hsub hcs hch =>
  rename_i f args ts g pre caps az hpc hp' r n σ ks fs chg;have hb2:((ks++fs).map σ).Nodup:=by
   have hb':=hb;simp only[DS,Bool.and_eq_true,decide_eq_true_eq]at hb';exact hb'.1.1.1.1.1.2
  have heff:lk (BO hp (C0 σ (chg++fs) hp'))=lk (BO hp (C0 σ (ks++fs) hp')):=by
   have hinj:∀a∈ks++fs,∀b∈ks++fs,σ a=σ b→a=b:=fun a ha b hb e=>by
    have h1:=M7 hb2 a ha;rw[e,M7 hb2 b hb]at h1;cases h1;rfl
   funext j;by_cases hj:∃k∈ks++fs,σ k=j
   ·obtain⟨k,hk,rfl⟩:=hj;have e1:lk (BO hp (C0 σ (ks++fs) hp')) (σ k)=(lk hp' k).map (HO.rn σ):=Mg hp hb2 k hk;rw[e1];by_cases hkc:k∈chg++fs
    ·
     have hmem:∀(L:List Nat),k∈L→(∀a∈L,a∈ks++fs)→lk (BO hp (C0 σ L hp')) (σ k)=(lk hp' k).map (HO.rn σ):=by
      intro L;induction L generalizing hp with
      |nil=>intro h;cases h
      |cons a L ih =>
       intro hkL hsubL;by_cases hkL':k∈L
       ·simp only[C0,List.map_cons];have hgen:∀hp0:Aa,lk (BO hp0 (L.map fun k=>(σ k,(lk hp' k).map (HO.rn σ)))) (σ k)=(lk hp' k).map (HO.rn σ):=by
         intro hp0;have:∀(L:List Nat) (hp0:Aa),k∈L→(∀a∈L,a∈ks++fs)→lk (BO hp0 (L.map fun k=>(σ k,(lk hp' k).map (HO.rn σ)))) (σ k)=(lk hp' k).map (HO.rn σ):=by
          intro L;induction L with
          |nil=>intro _ h;cases h
          |cons b L ih2 =>
           intro hp0 hb1 hb3;by_cases hb4:k∈L
           ·simp only[List.map_cons,BO];split<;>exact ih2 _ hb4 (fun a ha=>hb3 a (by simp[ha]))
           ·have hbk:k=b:=by rcases List.mem_cons.1 hb1 with h|h;exact h;exact absurd h hb4
            subst hbk;have hno:∀a∈L,σ a≠σ k:=fun a ha e=>hb4 (by rw[← hinj a (hb3 a (by simp[ha])) k (hb3 k (by simp)) e];exact ha);simp only[List.map_cons,BO];have ho2:∀hp1:Aa,lk (BO hp1 (L.map fun k=>(σ k,(lk hp' k).map (HO.rn σ)))) (σ k)=lk hp1 (σ k):=fun hp1=>AU (L:=L) (hp':=hp') hno;split
            ·rename_i o2 hq;rw[ho2,hq,Ab]
            ·rename_i hq;rw[ho2,hq,B3]
         exact this L hp0 hkL' (fun a ha=>hsubL a (by simp[ha]))
        simp only[BO];split<;>exact hgen _
       ·have hbk:k=a:=by rcases List.mem_cons.1 hkL with h|h;exact h;exact absurd h hkL'
        subst hbk;have hno:∀a∈L,σ a≠σ k:=fun a ha e=>hkL' (by rw[← hinj a (hsubL a (by simp[ha])) k (hsubL k (by simp)) e];exact ha);simp only[C0,List.map_cons,BO];have ho2:∀hp1:Aa,lk (BO hp1 (L.map fun k=>(σ k,(lk hp' k).map (HO.rn σ)))) (σ k)=lk hp1 (σ k):=fun hp1=>AU (L:=L) (hp':=hp') hno;split
        ·rename_i o2 hq;rw[ho2,hq,Ab]
        ·rename_i hq;rw[ho2,hq,B3]
     exact hmem (chg++fs) hkc (fun a ha=>by
      rcases List.mem_append.1 ha with h|h
      ·exact List.mem_append_left _ (hcs a h)
      ·exact List.mem_append_right _ h)
    ·
     have hkk:k∈ks:=by
      rcases List.mem_append.1 hk with h|h
      ·exact h
      ·exact absurd (List.mem_append_right _ h) hkc
     have hno:∀a∈chg++fs,σ a≠σ k:=fun a ha e=>hkc (by
      have hak:a∈ks++fs:=by
       rcases List.mem_append.1 ha with h|h
       ·exact List.mem_append_left _ (hcs a h)
       ·exact List.mem_append_right _ h
      rw[← hinj a hak k hk e];exact ha)
     rw[AU hno];obtain⟨o1,h1,h2⟩:=hsub k hkk;rcases hch k hkk with h|h
     ·exact absurd (List.mem_append_left _ h) hkc
     ·rw[h,h1,h2];rfl
   ·have hno:∀k∈ks++fs,σ k≠j:=fun k hk e=>hj ⟨k,hk,e⟩;rw[AU hno,AU (fun k hk=>hno k (by
     rcases List.mem_append.1 hk with h|h
     ·exact List.mem_append_left _ (hcs k h)
     ·exact List.mem_append_right _ h))]
  simp only[heff]at hK;rw[GQ h o hg];simp only[if_true];have hfv:=h.opnd f;have hcap:∃ps cs:List Value,a.eval f= .func (.func g) ps.toArray cs.toArray∧pre.length=ps.length∧caps.length=cs.length∧(∀(i:Nat) d v,pre[i]? =some d→ps[i]? =some v→A5 w (Am X.M0 (lk hp) ν) (lk hp) ν used d v)∧∀(i:Nat) d v,caps[i]? =some d→cs[i]? =some v→A5 w (Am X.M0 (lk hp) ν) (lk hp) ν used d v:=by
   generalize a.eval f=fv at hfv;generalize Eng.opnd E f=fa at hfv hf;cases fa<;>simp only[Jd]at hf<;>try (cases hf;done)
   case d x =>
    cases x<;>simp only at hf<;>try (cases hf;done)
    cases hf;cases hfv with
    |d hfv=>cases hfv;exact⟨[],[],rfl,rfl,rfl,fun i d v hd=>by simp at hd,fun i d v hd=>by simp at hd⟩
   case fn f' caps' =>
    cases hf;cases hfv with
    |fn hl hh=>exact⟨[],_,rfl,rfl,hl,fun i d v hd=>by simp at hd,hh⟩
   case mref f' k' o' =>
    cases hf;cases hfv with
    |mref hu hh =>
     refine⟨[_],[],rfl,rfl,rfl,fun i d v hd hv=>?_,fun i d v hd=>by simp at hd⟩;cases i with
     |zero=>simp at hd hv;subst hd;subst hv;exact .ref hu hh
     |succ i=>simp at hd
  obtain⟨ps,cs,hav,hpl,hcl,hpr,hcr⟩:=hcap;have hall0:∀(i:Nat) d v,(args.toList.map (opnd E)++caps)[i]? =some d→(args.toList.map a.eval++cs)[i]? =some v→A5 w (Am X.M0 (lk hp) ν) (lk hp) ν used d v:=fun i d v h3 h2=>by
   by_cases hi:i<args.toList.length
   ·rw[List.getElem?_append_left (by simpa using hi),List.getElem?_map]at h3;rw[List.getElem?_append_left (by simpa using hi),List.getElem?_map]at h2;have hq:=List.getElem?_eq_getElem hi;rw[hq]at h2 h3;simp only[Option.map_some,Option.some.injEq]at h2 h3;rw[← h2,← h3];exact h.opnd _
   ·rw[List.getElem?_append_right (by simpa using hi)]at h3 h2;simp only[List.length_map]at h2 h3;exact hcr _ _ _ h3 h2
  have hall:∀(i:Nat) d v,az[i]? =some d→(ps++(args.toList.map a.eval++cs))[i]? =some v→A5 w (Am X.M0 (lk hp) ν) (lk hp) ν used (d.rn σ) v:=fun i d v h1 h2=>by
   have h3:(az.map (AV.rn σ))[i]? =some (d.rn σ):=by simp[h1]
   rw[ha]at h3;by_cases hi:i<ps.length
   ·rw[List.getElem?_append_left (by omega)]at h3;rw[List.getElem?_append_left hi]at h2;exact hpr _ _ _ h3 h2
   ·rw[List.getElem?_append_right (by omega)]at h3 h2;rw[hpl]at h3;exact hall0 _ _ _ h3 h2
  have hlen:az.length=(ps++(args.toList.map a.eval++cs)).length:=by
   have:=congrArg List.length ha;simp only[List.length_map,List.length_append]at this ⊢;omega
  obtain⟨hr,hc⟩:=KJ (CM.good P g) h.heap hk hs hb hsub hlen hall;have harr:(ps++(args.toList.map a.eval++cs)).toArray=ps.toArray++args.map a.eval++cs.toArray:=by
   apply Array.toList_inj.1;simp
  rw[harr]at hr hc;have hexec:(execOp a.eval o).run P w=(callFunc g (ps.toArray++args.map a.eval++cs.toArray)).run P w:=by
   unfold execOp;rw[hop];simp only[resolve,hav,Deferred.ofValue,Sem.run_bind,Sem.run_pure,Result.andThen_ok,invoke]
  refine⟨fun _ _=>trivial,?_⟩;rw[Oper.semAt_eq _ _ _ (fun c hc=>by rw[hop]at hc;cases hc),hexec,hr];refine⟨Sx,Pq (hc.mono ?_)⟩;rintro e w' ⟨v,ν',rfl,h1,h2,h3⟩;exact hK _ _ ν' (h.put h1 h2 h3 hd) h2
 |callY hg hop hf ha hs hb hsub =>
  rename_i f args ts kl az hpc hp' r n σ ks fs;rw[GQ h o hg];simp only[if_true];have hfv:=h.opnd f;rw[hf]at hfv;have hcap:∃l:Nat,a.eval f= .func (.yield l) #[] #[]:=by
   generalize a.eval f=fv at hfv;cases hfv with
   |yld hu hh=>exact⟨_,rfl⟩
  obtain⟨l,hav⟩:=hcap;have hall:∀(i:Nat) d v,az[i]? =some d→(Value.func (.yield l) #[] #[]::args.toList.map a.eval)[i]? =some v→A5 w (Am X.M0 (lk hp) ν) (lk hp) ν used (d.rn σ) v:=fun i d v h1 h2=>by
   have h3:(az.map (AV.rn σ))[i]? =some (d.rn σ):=by simp[h1]
   rw[ha]at h3;cases i with
   |zero =>
    simp at h2 h3;rw[← h2,← h3,← hav];exact hfv
   |succ i =>
    simp only[List.getElem?_cons_succ,List.getElem?_map]at h2 h3;cases hq:args.toList[i]? with
    |none=>rw[hq]at h2;cases h2
    |some q =>
     rw[hq]at h2 h3;simp only[Option.map_some,Option.some.injEq]at h2 h3;rw[← h2,← h3];exact h.opnd _
  have hlen:az.length=(Value.func (.yield l) #[] #[]::args.toList.map a.eval).length:=by
   have:=congrArg List.length ha;simp only[List.length_map,List.length_cons]at this ⊢;omega
  obtain⟨l',xs,fn,tmps,assign,body,e1,hrun,hround⟩:=KJ (CY.good P) h.heap hk hs hb hsub hlen hall;cases e1;have harr:(args.toList.map a.eval).toArray=args.map a.eval:=by simp[← Array.toList_map]
  rw[harr]at hrun;have hexec:(execOp a.eval o).run P w=(Instr.yield l (args.map a.eval)).run P w:=by
   unfold execOp;rw[hop];simp only[resolve,hav,Deferred.ofValue,Sem.run_bind,Sem.run_pure,Result.andThen_ok,invoke];simp
  refine⟨fun _ _=>trivial,?_⟩;rw[Oper.semAt_eq _ _ _ (fun c hc=>by rw[hop]at hc;cases hc),hexec,hrun];refine⟨Sx,Zj (hround.mono ?_)⟩;rintro e w' ⟨v,ν',rfl,h1,h2,h3⟩;exact hK _ _ ν' (h.put h1 h2 h3 hd) h2
end
end Go.Eng
namespace Go.Eng
open Go.RowKit
inductive Ev(P:Program)(ops:Array Oper)(c:Nat):Nat→List Oper→BP→Aa→List EX→BP→Aa→Prop where
 |nil {i:Nat} {E:BP} {hp:Aa}:Ev P ops c i [] E hp [] E hp
 |cons {i:Nat} {o:Oper} {os:List Oper} {E E':BP} {hp hp':Aa} {out:EX} {outs:List EX} (h:JJ P ops (c+i) o E hp out) (t:Ev P ops c (i+1) os (EF E o.dst out.v) (BO hp out.es) outs E' hp') :
   Ev P ops c i (o::os) E hp (out::outs) E' hp'
def I4(N:Nat)(ops:List Oper):Bool:=ops.all fun o=>match o.dst with|some d=>decide (d<N)|none=>true
section
variable {P:Program} {X:DT} {N:Nat}
theorem OA{ops:List Oper}(h:I4 N ops=true){o:Oper}(ho:o∈ops):∀t,o.dst=some t→t<N:=by
 intro t ht;have:=List.all_eq_true.1 h o ho;simpa[ht]using this
theorem Dv.usedEq{E:BP}{H:Nat→Option HO}{ν:Nat→Value}{u u':Nat→Prop}{a:Act}{w:World}(h:Dv X N E H ν u a w)(e:∀k,u k↔u' k):Dv X N E H ν u' a w:=by
 have:u=u':=funext fun k=>propext (e k);exact this▸h
theorem Ev.list{ops:Array Oper}{c:Nat}{Q:Exit→Act→World→Prop}{rd:Option Nat}:∀(l:List Oper) (i:Nat) (E:BP) (hp:Aa) (outs:List EX) (E':BP) (hp':Aa) (ν:Nat→Value) (a:Act) (w:World),I4 N l=true →
 Dv X N E (lk hp) ν (·< c+i) a w→Ev P ops c i l E hp outs E' hp' →
 (∀a' w' ν',Dv X N E' (lk hp') ν' (·< c+i+l.length) a' w'→CT (Am X.M0 (lk hp) ν) (lk hp) ν (·< c+i) w (Am X.M0 (lk hp') ν') (lk hp') ν' (·< c+i+l.length) w'→Q .normal a' w')→wpListIn (FR rd) 0 P ops Q l a w
 | [],i,E,hp,outs,E',hp',ν,a,w,hd,hI,he,hQ=>by
   cases he;exact hQ a w ν (by simpa using hI) (by simpa using CT.refl _ _ _ _ _)
 |o::l,i,E,hp,outs,E',hp',ν,a,w,hd,hI,he,hQ=>by
  cases he with
  |cons ho ht =>
   have hd':=OA hd (List.mem_cons_self (a:=o) (l:=l));have hdl:I4 N l=true:=by simp only[I4,List.all_cons,Bool.and_eq_true]at hd;exact hd.2
   have ee:∀k,(k<c+i∨k=c+i)↔k<c+(i+1):=fun k=>by omega
   have efun:(fun k=>k<c+i∨k=c+i)=(fun k=>k<c+(i+1)):=funext fun k=>propext (ee k);have hs:=ho.sound (K:=wpListIn (FR rd) 0 P ops Q l) (Q:=Q) (rd:=rd) hI (by omega) hd' (fun a' w' ν' hI' hx=>by
    rw[efun]at hx;refine Ev.list l (i+1) _ _ _ E' hp' ν' a' w' hdl (hI'.usedEq ee) ht (fun a2 w2 ν2 hI2 hx2=>?_);have e2:∀k,(k<c+(i+1)+l.length)↔k<c+i+(o::l).length:=fun k=>by simp only[List.length_cons];omega
    have e2f:(fun k=>k<c+(i+1)+l.length)=(fun k=>k<c+i+(o::l).length):=funext fun k=>propext (e2 k);have hx3:=hx.trans hx2;rw[e2f]at hx3;exact hQ a2 w2 ν2 (hI2.usedEq e2) hx3)
   unfold wpListIn;split
   ·rename_i hw;rw[if_pos hw]at hs;exact hs
   ·rename_i hw;rw[if_neg hw]at hs;exact hs
theorem FL:∀(es:List (Nat×Option HO)) (hp hp':Aa) (k:Nat),lk hp k=lk hp' k→lk (BO hp es) k=lk (BO hp' es) k
 | [],_,_,_,h=>h
 |(q,o)::es,hp,hp',k,h=>by
  cases o with
  |none =>
   refine FL es _ _ k ?_;by_cases e:k=q
   ·subst e;rw[B3,B3]
   ·rw[Bc _ _ _ e,Bc _ _ _ e,h]
  |some o =>
   refine FL es _ _ k ?_;by_cases e:k=q
   ·subst e;rw[Ab,Ab]
   ·rw[A9 _ _ _ _ e,A9 _ _ _ _ e,h]
theorem Jz:∀(es:List (Nat×Option HO)) (hp hp':Aa) (k:Nat),k∈C5 es→lk (BO hp es) k=lk (BO hp' es) k
 | [],_,_,_,h=>by simp[C5]at h
 |(q,o)::es,hp,hp',k,h=>by
  by_cases hm:k∈C5 es
  ·cases o with
   |none=>exact Jz es _ _ k hm
   |some o=>exact Jz es _ _ k hm
  ·have e:k=q:=by simp[C5]at h hm;rcases h with h|⟨x,h⟩;exact h;exact absurd h (hm x)
   subst e;cases o with
   |none=>rw[BO,BO,C8 _ _ _ hm,C8 _ _ _ hm,B3,B3]
   |some o=>rw[BO,BO,C8 _ _ _ hm,C8 _ _ _ hm,Ab,Ab]
def B0(S:Nat→Bool):Nat→List EX→BP→Aa→BP×Aa
 |_,[],E,hp=>(E,hp)
 |i,o::outs,E,hp=>if S i then B0 S (i+1) outs (EF E o.dst o.v) (BO hp o.es)else B0 S (i+1) outs E hp
theorem Gz{E:BP}{d:Option Nat}{v:AV}{t:Nat}(h:d≠some t):lk (EF E d v) t=lk E t:=by
 cases d with
 |none=>rfl
 |some d=>simp only[EF,lk];rw[if_neg (fun e=>h (by rw[e]))]
theorem K4{E:BP}{v:AV}{t:Nat}:lk (EF E (some t) v) t=some v:=by simp[EF,lk]
theorem Je{E E':BP}{d:Option Nat}{v:AV}{t:Nat}(h:lk E t=lk E' t):lk (EF E d v) t=lk (EF E' d v) t:=by
 cases d with
 |none=>exact h
 |some d=>simp only[EF,lk,h]
theorem DO{S S':Nat→Bool}{t:Nat}:∀(outs:List EX) (i:Nat) (E E1:BP) (hp hp1:Aa),lk E t=lk E1 t→(∀(j:Nat) o,outs[j]? =some o→o.dst=some t→S (i+j)=S' (i+j)) →
 lk (B0 S i outs E hp).1 t=lk (B0 S' i outs E1 hp1).1 t
 | [],_,_,_,_,_,h,_=>h
 |o::outs,i,E,E1,hp,hp1,h,hj=>by
  have Cd:∀(j:Nat) o',outs[j]? =some o'→o'.dst=some t→S (i+1+j)=S' (i+1+j):=fun j o' h1 h2=>by
   have:=hj (j+1) o' (by simpa using h1) h2
   rwa [show i+(j+1)=i+1+j from by omega]at this
  by_cases hd:o.dst=some t
  ·have:=hj 0 o rfl hd;simp only[Nat.add_zero]at this;simp only[B0,this];split
   ·exact DO outs (i+1) _ _ _ _ (Je h) Cd
   ·exact DO outs (i+1) _ _ _ _ h Cd
  ·simp only[B0];split<;>split
   ·exact DO outs (i+1) _ _ _ _ (Je h) Cd
   ·exact DO outs (i+1) _ _ _ _ (by rw[Gz hd];exact h) Cd
   ·exact DO outs (i+1) _ _ _ _ (by rw[Gz hd];exact h) Cd
   ·exact DO outs (i+1) _ _ _ _ h Cd
theorem Dj{S S':Nat→Bool}{k:Nat}:∀(outs:List EX) (i:Nat) (E E1:BP) (hp hp1:Aa),lk hp k=lk hp1 k→(∀(j:Nat) o,outs[j]? =some o→k∈C5 o.es→S (i+j)=S' (i+j)) →
 lk (B0 S i outs E hp).2 k=lk (B0 S' i outs E1 hp1).2 k
 | [],_,_,_,_,_,h,_=>h
 |o::outs,i,E,E1,hp,hp1,h,hj=>by
  have Cd:∀(j:Nat) o',outs[j]? =some o'→k∈C5 o'.es→S (i+1+j)=S' (i+1+j):=fun j o' h1 h2=>by
   have:=hj (j+1) o' (by simpa using h1) h2
   rwa [show i+(j+1)=i+1+j from by omega]at this
  by_cases hd:k∈C5 o.es
  ·have:=hj 0 o rfl hd;simp only[Nat.add_zero]at this;simp only[B0,this];split
   ·exact Dj outs (i+1) _ _ _ _ (FL _ _ _ _ h) Cd
   ·exact Dj outs (i+1) _ _ _ _ h Cd
  ·simp only[B0];split<;>split
   ·exact Dj outs (i+1) _ _ _ _ (FL _ _ _ _ h) Cd
   ·exact Dj outs (i+1) _ _ _ _ (by rw[C8 _ _ _ hd];exact h) Cd
   ·exact Dj outs (i+1) _ _ _ _ (by rw[C8 _ _ _ hd];exact h) Cd
   ·exact Dj outs (i+1) _ _ _ _ h Cd
theorem I9{S:Nat→Bool}{t:Nat}{v:AV}:∀(outs:List EX) (i m:Nat) (E:BP) (hp:Aa) (o:EX),outs[m]? =some o→o.dst=some t→o.v=v→S (i+m)=true →
 (∀(j:Nat) o',m<j→outs[j]? =some o'→o'.dst=some t→S (i+j)=false)→lk (B0 S i outs E hp).1 t=some v
 | [],_,_,_,_,_,h,_,_,_,_=>by simp at h
 |o1::outs,i,m,E,hp,o,ho,hd,hv,hS,hj=>by
  cases m with
  |zero =>
   simp at ho;subst ho;simp only[Nat.add_zero]at hS;simp only[B0,hS,if_true];have:=DO (S:=S) (S':=fun _=>false) outs (i+1) (EF E o1.dst o1.v) (EF E o1.dst o1.v) (BO hp o1.es) (BO hp o1.es) (t:=t) rfl (fun j o' h1 h2=>by
    have:=hj (j+1) o' (by omega) (by simpa using h1) h2
    rwa [show i+(j+1)=i+1+j from by omega]at this)
   rw[this];have none:∀(l:List EX) (q:Nat) (E:BP) (hp:Aa),B0 (fun _=>false) q l E hp=(E,hp):=by
    intro l;induction l with
    |nil=>intro q E hp;rfl
    |cons x l ih=>intro q E hp;simp[B0,ih]
   rw[none,hd,K4,hv]
  |succ m =>
   have rest:=fun(E:BP) (hp:Aa)=>I9 outs (i+1) m E hp o (by simpa using ho) hd hv (by rwa [show i+1+m=i+(m+1)from by omega]) (fun j o' h0 h1 h2=>by
    have:=hj (j+1) o' (by omega) (by simpa using h1) h2
    rwa [show i+(j+1)=i+1+j from by omega]at this)
   simp only[B0];split
   ·exact rest _ _
   ·exact rest _ _
theorem HP{S:Nat→Bool}{k:Nat}:∀(outs:List EX) (i m:Nat) (E:BP) (hp h0:Aa) (o:EX),outs[m]? =some o→k∈C5 o.es→S (i+m)=true →
 (∀(j:Nat) o',m<j→outs[j]? =some o'→k∈C5 o'.es→S (i+j)=false)→lk (B0 S i outs E hp).2 k=lk (BO h0 o.es) k
 | [],_,_,_,_,_,_,h,_,_,_=>by simp at h
 |o1::outs,i,m,E,hp,h0,o,ho,hd,hS,hj=>by
  cases m with
  |zero =>
   simp at ho;subst ho;simp only[Nat.add_zero]at hS;simp only[B0,hS,if_true];have:=Dj (S:=S) (S':=fun _=>false) outs (i+1) (EF E o1.dst o1.v) (EF E o1.dst o1.v) (BO hp o1.es) (BO hp o1.es) (k:=k) rfl (fun j o' h1 h2=>by
    have:=hj (j+1) o' (by omega) (by simpa using h1) h2
    rwa [show i+(j+1)=i+1+j from by omega]at this)
   rw[this];have none:∀(l:List EX) (q:Nat) (E:BP) (hp:Aa),B0 (fun _=>false) q l E hp=(E,hp):=by
    intro l;induction l with
    |nil=>intro q E hp;rfl
    |cons x l ih=>intro q E hp;simp[B0,ih]
   rw[none];exact Jz _ _ _ _ hd
  |succ m =>
   have rest:=fun(E:BP) (hp:Aa)=>HP outs (i+1) m E hp h0 o (by simpa using ho) hd (by rwa [show i+1+m=i+(m+1)from by omega]) (fun j o' h0 h1 h2=>by
    have:=hj (j+1) o' (by omega) (by simpa using h1) h2
    rwa [show i+(j+1)=i+1+j from by omega]at this)
   simp only[B0];split
   ·exact rest _ _
   ·exact rest _ _
end
end Go.Eng
namespace Go.Eng
open Go.RowKit
mutual
theorem CL{H H':Nat→Option HO}:∀(av:AV) (x:D) (ks:List Nat),Cz H av=some (x,ks)→(∀k∈ks,H' k=H k)→Cz H' av=some (x,ks)
 |.d y,x,ks,he,h=>by simpa[Cz]using he
 |.clip sz xs,x,ks,he,h=>by simpa[Cz]using he
 |.own q n,x,ks,he,h=>by
  have he0:=he;simp only[Cz]at he;split at he
  ·rename_i e sz xs ho;split at he
   ·rename_i hn;simp only[Option.some.injEq,Prod.mk.injEq]at he;obtain⟨rfl,rfl⟩:=he;simp only[Cz,h q (by simp),ho,hn,if_true]
   ·cases he
  ·cases he
 |.agg fs,x,ks,he,h=>by
  simp only[Cz]at he ⊢;split at he
  ·rename_i ds ks' hds;split at he
   ·rename_i hall;simp only[Option.some.injEq,Prod.mk.injEq]at he;obtain⟨rfl,rfl⟩:=he;rw[G7 fs _ _ hds h];simp[hall]
   ·cases he
  ·cases he
 |.tup fs,x,ks,he,h=>by
  simp only[Cz]at he ⊢;split at he
  ·rename_i ds ks' hds;simp only[Option.some.injEq,Prod.mk.injEq]at he;obtain⟨rfl,rfl⟩:=he;rw[G7 fs _ _ hds h]
  ·cases he
 |.fn f caps,x,ks,he,h=>by simpa[Cz]using he
 |.tab q n,x,ks,he,h=>by
  simp only[Cz]at he;split at he
  ·rename_i T rows ho;split at he
   ·rename_i hn;simp only[Option.some.injEq,Prod.mk.injEq]at he;obtain⟨rfl,rfl⟩:=he;simp only[Cz,h q (by simp),ho,hn,if_true]
   ·cases he
  ·cases he
 |.trow q i n,x,ks,he,h=>by
  simp only[Cz]at he;split at he
  ·rename_i T rows ho;split at he
   ·rename_i hn;simp only[Option.some.injEq,Prod.mk.injEq]at he;obtain⟨rfl,rfl⟩:=he;simp only[Cz,h q (by simp),ho];rw[if_pos hn]
   ·cases he
  ·cases he
 |.toref ..,_,_,he,_=>by simp[Cz]at he
 |.tref ..,_,_,he,_=>by simp[Cz]at he
 |.undef,_,_,he,_=>by simp[Cz]at he
 |.ref ..,_,_,he,_=>by simp[Cz]at he
 |.eref ..,_,_,he,_=>by simp[Cz]at he
 |.rv ..,_,_,he,_=>by simp[Cz]at he
 |.mref ..,_,_,he,_=>by simp[Cz]at he
 |.yld ..,_,_,he,_=>by simp[Cz]at he
 |.dref ..,_,_,he,_=>by simp[Cz]at he
 |.map ..,_,_,he,_=>by simp[Cz]at he
 |.it ..,_,_,he,_=>by simp[Cz]at he
 |.vs q off n,x,ks,he,h=>by
  simp only[Cz]at he;split at he
  ·rename_i cs ho;split at he
   ·rename_i xs hx;split at he
    ·rename_i hn;simp only[Option.some.injEq,Prod.mk.injEq]at he;obtain⟨rfl,rfl⟩:=he;simp only[Cz,h q (by simp),ho,hx,hn,if_true]
    ·cases he
   ·cases he
  ·cases he
theorem G7{H H':Nat→Option HO}:∀(fs:List AV) (ds:List D) (ks:List Nat),FN H fs=some (ds,ks)→(∀k∈ks,H' k=H k)→FN H' fs=some (ds,ks)
 | [],ds,ks,he,h=>by simpa[FN]using he
 |a::az,ds,ks,he,h=>by
  simp only[FN]at he ⊢;split at he
  ·rename_i x k hx;split at he
   ·rename_i xs ks' hxs;simp only[Option.some.injEq,Prod.mk.injEq]at he;obtain⟨rfl,rfl⟩:=he;rw[CL a _ _ hx (fun q hq=>h q (by simp[hq])),G7 az _ _ hxs (fun q hq=>h q (by simp[hq]))]
   ·cases he
  ·cases he
end
theorem Sz{P:Program}{key:Nat}{ρ ρ':Operand→AV}{H:Nat→Option HO}(o:Op)(h:∀x∈o.operands,ρ' x=ρ x):Ft P key ρ' H o=Ft P key ρ H o:=by
 cases o<;>simp only[Op.operands]at h<;>simp only[Ft];case move x=>rw[h x (by simp)]
 case assign x=>rw[h x (by simp)]
 case pick c a b=>rw[h c (by simp),h a (by simp),h b (by simp)]
 case box t x=>rw[h x (by simp)]
 case build t ps =>
  have:(ps.toList.map fun p=>(p.1,ρ' p.2))=(ps.toList.map fun p=>(p.1,ρ p.2)):=List.map_congr_left fun p hp=>by rw[h p.2 (by simp;exact⟨p.1,by simpa using hp⟩)]
  rw[this]
 case buildSlice t n ps =>
  have:(ps.toList.map fun p=>(p.1,ρ' p.2))=(ps.toList.map fun p=>(p.1,ρ p.2)):=List.map_congr_left fun p hp=>by rw[h p.2 (by simp;exact⟨p.1,by simpa using hp⟩)]
  rw[this]
 case load t a=>rw[h a (by simp)]
 case store t a x=>rw[h a (by simp),h x (by simp)]
 case nilCheck x=>rw[h x (by simp)]
 case binOp op t x y ty=>rw[h x (by simp),h y (by simp)]
 case unOp op t x=>rw[h x (by simp)]
 case convert s d x=>rw[h x (by simp)]
 case makeFunc fn first caps =>
  cases fn<;>simp only;split
  ·rfl
  ·rename_i c cs h1 h2;have e:caps=(c::cs).toArray:=by cases caps;simp_all
   subst e;have:(c::cs).map ρ'=(c::cs).map ρ:=List.map_congr_left fun p hp=>h p (by simp at hp ⊢;exact .inr hp);rw[this]
  ·rename_i b h1 h2;have e:first = #[b]:=by cases first;simp_all
   subst e;rw[h b (by simp)]
  ·rfl
 case makeSlice t l c=>rw[h l (by simp),h c (by simp)]
 case slice t x lo hi mx =>
  have ho:∀q:Option Operand,(∀y,q=some y→ρ' y=ρ y)→q.map ρ'=q.map ρ:=fun q hq=>by
   cases q with
   |none=>rfl
   |some y=>simp[hq y rfl]
  rw[h x (by simp),ho lo (fun y e=>h y (by subst e;simp)),ho hi (fun y e=>h y (by subst e;simp)),ho mx (fun y e=>h y (by subst e;simp))]
 case lookup t x i ok=>rw[h x (by simp),h i (by simp)]
 case mapUpdate t m k x=>rw[h m (by simp),h k (by simp),h x (by simp)]
 case range t x=>rw[h x (by simp)]
 case entry it=>rw[h it (by simp)]
 case fieldAddr s x f=>rw[h x (by simp)]
 case indexAddr t x i=>rw[h x (by simp),h i (by simp)]
 case index t x i=>rw[h x (by simp),h i (by simp)]
 case extract t i=>rw[h t (by simp)]
 case call c =>
  obtain⟨cal,args,ts⟩:=c;cases cal with
  |value f=>rfl
  |invoke r m=>rfl
  |builtin b =>
   have hargs:∀x∈args.toList,ρ' x=ρ x:=fun x hx=>h x (by simp[Call.operands];simpa using hx);cases b<;>simp only[Et];case len =>
    split
    ·rename_i x t h1 h2;rw[hargs x (by simp[h1])]
    ·rfl
   case min =>
    split
    ·rename_i x y l h1;rw[hargs x (by simp[h1]),hargs y (by simp[h1]),List.map_congr_left (f:=ρ') (g:=ρ) (l:=l) fun z hz=>hargs z (by simp[h1,hz])]
    ·rfl
   case max =>
    split
    ·rename_i x y l h1;rw[hargs x (by simp[h1]),hargs y (by simp[h1]),List.map_congr_left (f:=ρ') (g:=ρ) (l:=l) fun z hz=>hargs z (by simp[h1,hz])]
    ·rfl
   case append =>
    split
    ·rename_i x y t t' h1 h2;rw[hargs x (by simp[h1]),hargs y (by simp[h1])]
    ·rfl
   case copy =>
    split
    ·rename_i x y t t' h1 h2;rw[hargs x (by simp[h1]),hargs y (by simp[h1])]
    ·rfl
   case clear =>
    split
    ·rename_i x t h1 h2;rw[hargs x (by simp[h1])]
    ·rfl
theorem PL{P:Program}{H H':Nat→Option HO}{t:TypeId}{x:AV}{lo hi mx:Option AV}{q:AV×List (Nat×Option HO)×List Nat}(he:Ej P H t x lo hi mx=some q)(h:∀k∈q.2.2,H' k=H k):Ej P H' t x lo hi mx=some q:=by
 unfold Ej at he ⊢;split at he
 ·split at he
  ·split at he
   ·rename_i ho hs hh;split at he
    ·rename_i hc;simp only[Option.some.injEq]at he;subst he;simp only[h _ (List.mem_singleton.2 rfl),ho,hs,hh];rw[if_pos hc]
    ·cases he
   ·cases he
  ·cases he
 ·cases he
theorem PM{P:Program}{key:Nat}{H H':Nat→Option HO}{t:TypeId}{x:AV}{lo hi mx:Option AV}{q:AV×List (Nat×Option HO)×List Nat}(he:Ej P H' t x lo hi mx=some q):Dy P key H t x lo hi mx=none:=by
 unfold Ej at he;split at he
 ·rename_i k off;split at he
  ·rename_i n e ha;have hu:=JP ha;have hel:C3 P t=none:=by unfold C3;rw[hu]
   have hc:FZ P key H t (.ref k off) none hi none=none:=rfl;unfold Dy;rw[hc];simp only[EP,hel]
  ·cases he
 ·cases he
theorem MR{P:Program}{H H':Nat→Option HO}{t:TypeId}{x i:AV}{ok:Bool}{r:AV}{acc:List Nat}(he:E9 P H t x i ok=some (r,acc))(h:∀k∈acc,H' k=H k):E9 P H' t x i ok=some (r,acc):=by
 have he0:=he;unfold E9 at he ⊢;split at he
 ·rename_i k kd;have hk:k∈acc:=by
   split at he
   ·split at he
    ·split at he
     ·simp only[Option.some.injEq,Prod.mk.injEq]at he;obtain⟨-,rfl⟩:=he;simp
     ·split at he
      ·simp only[Option.some.injEq,Prod.mk.injEq]at he;obtain⟨-,rfl⟩:=he;simp
      ·cases he
    ·cases he
   ·cases he
  simp only[h k hk];exact he
 ·cases he
theorem MU{P:Program}{H H':Nat→Option HO}{t:TypeId}{x i y:AV}{es:List (Nat×Option HO)}{acc:List Nat}(he:Ea P H t x i y=some (es,acc))(h:∀k∈acc,H' k=H k):Ea P H' t x i y=some (es,acc):=by
 unfold Ea at he ⊢;split at he
 ·rename_i k kd vd;have hk:k∈acc:=by
   split at he
   ·split at he
    ·simp only[Option.some.injEq,Prod.mk.injEq]at he;obtain⟨-,rfl⟩:=he;simp
    ·cases he
   ·cases he
  simp only[h k hk];exact he
 ·cases he
theorem O6{P:Program}{key:Nat}{H H':Nat→Option HO}{t:TypeId}{x r:AV}{es:List (Nat×Option HO)}{acc:List Nat}(he:Fk key P H t x=some (r,es,acc))(h:∀k∈acc,H' k=H k):Fk key P H' t x=some (r,es,acc):=by
 unfold Fk at he ⊢;split at he
 ·rename_i k;have hk:k∈acc:=by
   split at he
   ·simp only[Option.some.injEq,Prod.mk.injEq]at he;obtain⟨-,-,rfl⟩:=he;simp
   ·cases he
  simp only[h k hk];exact he
 ·cases he
theorem O2{H H':Nat→Option HO}{x r:AV}{acc:List Nat}(he:Fj H x=some (r,acc))(h:∀k∈acc,H' k=H k):Fj H' x=some (r,acc):=by
 unfold Fj at he ⊢;split at he
 ·rename_i k;split at he
  ·rename_i m c seen ho;have hk:k∈acc∧m∈acc:=by
    split at he
    ·split at he
     ·split at he
      ·simp only[Option.some.injEq,Prod.mk.injEq]at he;obtain⟨-,rfl⟩:=he;simp
      ·cases he
     ·cases he
    ·cases he
   simp only[h k hk.1,ho,h m hk.2];exact he
  ·cases he
 ·cases he
theorem PE{P:Program}{H H':Nat→Option HO}{t:TypeId}{x y r:AV}{es:List (Nat×Option HO)}{acc:List Nat}(he:Gu P H t x y=some (r,es,acc))(h:∀k∈acc,H' k=H k):Gu P H' t x y=some (r,es,acc):=by
 unfold Gu at he ⊢;split at he
 ·split at he
  ·split at he
   ·rename_i h1;rw[if_pos h1];split at he
    ·rename_i k off n;split at he
     ·rename_i cs ys ks ho hy;split at he
      ·rename_i hc;simp only[Option.some.injEq,Prod.mk.injEq]at he;obtain⟨rfl,rfl,rfl⟩:=he;simp only[h k (by simp),ho,CL _ _ _ hy (fun q hq=>h q (by simp[hq]))];rw[if_pos hc]
      ·cases he
     ·cases he
    ·cases he
   ·cases he
  ·cases he
 ·cases he
theorem Lu{P:Program}{key:Nat}{H H':Nat→Option HO}{t:TypeId}{x:AV}{lo hi mx:Option AV}(h:∀k n,x= .own k n→H' k=H k):FZ P key H' t x lo hi mx=FZ P key H t x lo hi mx:=by
 unfold FZ;cases lo with
 |some _=>rfl
 |none =>
  cases x<;>try rfl
  case own k n=>simp only[h k n rfl]
theorem OC{P:Program}{key:Nat}{H:Nat→Option HO}{t:TypeId}{x:AV}{lo hi mx:Option AV}{r:AV}{es:List (Nat×Option HO)}{acc:List Nat}(he:FZ P key H t x lo hi mx=some (r,es,acc)){k n:Nat}(e:x= .own k n):k∈acc:=by
 subst e;unfold FZ at he;split at he
 ·rename_i e1 e2;cases e2;split at he
  ·split at he
   ·split at he
    ·split at he
     ·simp at he;obtain⟨-,-,rfl⟩:=he;simp
     ·split at he
      ·split at he
       ·simp at he;obtain⟨-,-,rfl⟩:=he;simp
       ·cases he
      ·cases he
    ·cases he
   ·cases he
  ·cases he
 ·cases he
theorem Lw{P:Program}{H:Nat→Option HO}{t:TypeId}{x:AV}{lo hi mx:Option AV}{r:AV}{es:List (Nat×Option HO)}{acc:List Nat}(he:EP P H t x lo hi mx=some (r,es,acc)){k n:Nat}(e:x= .own k n):k∈acc:=by
 subst e;unfold EP at he;split at he
 ·split at he
  ·split at he
   ·rename_i d ks hd;have hk:k∈ks:=by
     simp only[Cz]at hd;split at hd
     ·split at hd
      ·simp at hd;obtain⟨-,rfl⟩:=hd;simp
      ·cases hd
     ·cases hd
    have hks:acc=ks:=by
     split at he
     ·split at he
      ·split at he
       ·split at he
        ·simp at he;exact he.2.2.symm
        ·split at he
         ·split at he
          ·simp at he;exact he.2.2.symm
          ·cases he
         ·cases he
       ·cases he
      ·cases he
     ·cases he
    exact hks▸hk
   ·cases he
  ·cases he
 ·cases he
theorem PJ{P:Program}{H H':Nat→Option HO}{t:Nat}{a r:AV}{acc:List Nat}(he:G1 P H t a=some (r,acc))(h:∀k∈acc,H' k=H k):G1 P H' t a=some (r,acc):=by
 have he0:=he;unfold G1 at he ⊢;split at he
 ·exact he
 ·exact he
 ·rename_i k off;split at he
  ·rename_i cs ho;split at he
   ·rename_i x hx;simp at he;obtain⟨rfl,rfl⟩:=he;simp only[h k (by simp),ho,hx]
   ·cases he
  ·cases he
 ·rename_i k n i sz off;split at he
  ·rename_i e sz' xs ho;split at he
   ·rename_i hc;split at he
    ·rename_i x hx;split at he
     ·rename_i y hy;simp at he;obtain⟨rfl,rfl⟩:=he;simp only[h k (by simp),ho,hc,and_self,if_true,hx,hy]
     ·cases he
    ·cases he
   ·cases he
  ·cases he
 ·rename_i k n i sz off;unfold ZU at he ⊢;split at he
  ·rename_i T rows q ho;have hk:acc=[k]:=by
    split at he
    ·split at he
     ·split at he
      ·simp at he;exact he.2.symm
      ·cases he
     ·split at he
      ·split at he
       ·simp at he;exact he.2.symm
       ·cases he
      ·cases he
    ·cases he
   rw[h k (by simp[hk]),ho];exact he
  ·cases he
 ·rename_i k i m j sz off;unfold ZT at he ⊢;split at he
  ·rename_i T rows ho;have hk:acc=[k]:=by
    split at he
    ·split at he
     ·split at he
      ·simp at he;exact he.2.symm
      ·cases he
     ·cases he
    ·cases he
   rw[h k (by simp[hk]),ho];exact he
  ·cases he
 ·cases he
theorem VL{H H':Nat→Option HO}{n k m i sz off:Nat}{x:AV}{es:List (Nat×Option HO)}{acc:List Nat}(he:XT H n k m i sz off x=some (es,acc))(h:∀k∈acc,H' k=H k):XT H' n k m i sz off x=some (es,acc):=by
 unfold XT at he ⊢;split at he
 ·rename_i T rows q ho;split at he
  ·rename_i hc;split at he
   ·rename_i hoff;split at he
    ·rename_i r l;split at he
     ·rename_i e z xs hor;split at he
      ·rename_i hc2;simp only[Option.some.injEq,Prod.mk.injEq]at he;obtain⟨rfl,rfl⟩:=he;simp only[h k (by simp),h r (by simp),ho,hor];rw[if_pos hc,if_pos hoff,if_pos hc2]
      ·cases he
     ·cases he
    ·cases he
   ·rename_i hoff;split at he
    ·rename_i d ks hd;split at he
     ·rename_i hc2;simp only[Option.some.injEq,Prod.mk.injEq]at he;obtain⟨rfl,rfl⟩:=he;simp only[h k (by simp),ho];rw[if_pos hc,if_neg hoff,CL _ _ _ hd (fun q hq=>h q (by simp[hq]))];simp only;rw[if_pos hc2]
     ·cases he
    ·cases he
  ·cases he
 ·cases he
theorem VI{H H':Nat→Option HO}{n k i m j sz off:Nat}{x:AV}{es:List (Nat×Option HO)}{acc:List Nat}(he:XS H n k i m j sz off x=some (es,acc))(h:∀k∈acc,H' k=H k):XS H' n k i m j sz off x=some (es,acc):=by
 unfold XS at he ⊢;split at he
 ·rename_i T rows ho;split at he
  ·rename_i hc;split at he
   ·rename_i y d ks hy hd;split at he
    ·rename_i hc2;split at he
     ·rename_i y' hy';simp only[Option.some.injEq,Prod.mk.injEq]at he;obtain⟨rfl,rfl⟩:=he;simp only[h k (by simp),ho];rw[if_pos hc,hy,CL _ _ _ hd (fun q hq=>h q (by simp[hq]))];simp only;rw[if_pos hc2,hy']
     ·cases he
    ·cases he
   ·cases he
  ·cases he
 ·cases he
theorem I5{P:Program}{H H':Nat→Option HO}{t:Nat}{a x:AV}{es:List (Nat×Option HO)}{acc:List Nat}(he:Dz P H t a x=some (es,acc))(h:∀k∈acc,H' k=H k):Dz P H' t a x=some (es,acc):=by
 unfold Dz at he ⊢;split at he
 ·cases he
 ·split at he
  ·exact VL he h
  ·exact VI he h
  ·cases he
theorem O0{P:Program}{H H':Nat→Option HO}{t:TypeId}{x y r:AV}{es:List (Nat×Option HO)}{acc:List Nat}(he:Fi P H t x y=some (r,es,acc))(h:∀k∈acc,H' k=H k):Fi P H' t x y=some (r,es,acc):=by
 unfold Fi at he ⊢;split at he
 ·split at he
  ·split at he
   ·rename_i h1;rw[if_pos h1];split at he
    ·rename_i k i n;split at he
     ·rename_i T rows ys ks ho hy;split at he
      ·rename_i hc;simp only[Option.some.injEq,Prod.mk.injEq]at he;obtain⟨rfl,rfl,rfl⟩:=he;simp only[h k (by simp),ho,CL _ _ _ hy (fun q hq=>h q (by simp[hq]))];rw[if_pos hc]
      ·cases he
     ·cases he
    ·cases he
   ·cases he
  ·cases he
 ·cases he
theorem LK{P:Program}{key:Nat}{H H':Nat→Option HO}{t:TypeId}{k i n:Nat}{y r:AV}{es:List (Nat×Option HO)}{acc:List Nat}(he:Dp P key H t k i n y=some (r,es,acc))(h:∀k∈acc,H' k=H k):Dp P key H' t k i n y=some (r,es,acc):=by
 unfold Dp at he ⊢;split at he
 ·cases he
 ·split at he
  ·split at he
   ·rename_i hc;rw[if_pos hc];split at he
    ·rename_i d ks hd;split at he
     ·rename_i ys hys;split at he
      ·rename_i T rows ho;split at he
       ·rename_i r0 hr0;split at he
        ·rename_i hc1;split at he
         ·rename_i hc2;simp only[Option.some.injEq,Prod.mk.injEq]at he;obtain⟨rfl,rfl,rfl⟩:=he;rw[CL _ _ _ hd (fun q hq=>h q (by simp[hq]))];simp only[hys,h k (by simp),ho,hr0];rw[if_pos hc1,if_pos hc2]
         ·cases he
        ·cases he
       ·cases he
      ·cases he
     ·cases he
    ·cases he
   ·cases he
  ·cases he
theorem KR{P:Program}{H H':Nat→Option HO}{t:TypeId}{x y r:AV}{es:List (Nat×Option HO)}{acc:List Nat}(he:CV P H t x y=some (r,es,acc))(h:∀k∈acc,H' k=H k):CV P H' t x y=some (r,es,acc):=by
 unfold CV at he ⊢;split at he
 ·rename_i k n q m;split at he
  ·split at he
   ·split at he
    ·rename_i hz;rw[if_pos hz];split at he
     ·rename_i T rows e' sz' ys ho hoq;split at he
      ·rename_i hc;simp only[Option.some.injEq,Prod.mk.injEq]at he;obtain⟨rfl,rfl,rfl⟩:=he;simp only[h k (by simp),h q (by simp),ho,hoq];rw[if_pos hc]
      ·cases he
     ·cases he
    ·cases he
   ·cases he
  ·cases he
 ·cases he
theorem KV{P:Program}{H H':Nat→Option HO}{t:TypeId}{k n:Nat}{y r:AV}{es:List (Nat×Option HO)}{acc:List Nat}(he:CX P H t k n y=some (r,es,acc))(h:∀k∈acc,H' k=H k):CX P H' t k n y=some (r,es,acc):=by
 cases y<;>simp only[CX]at he ⊢ <;> first|exact KT he h|exact KR he h
theorem FX{P:Program}{key:Nat}{H H':Nat→Option HO}{t:TypeId}{n:Nat}{ps:List (Nat×AV)}{r:AV}{es:List (Nat×Option HO)}{acc:List Nat}(he:BY P key H t n ps=some (r,es,acc))(h:∀k∈acc,H' k=H k):BY P key H' t n ps=some (r,es,acc):=by
 unfold BY at he ⊢;split at he
 ·split at he
  ·split at he
   ·rename_i hc;split at he
    ·rename_i ds ks hds;split at he
     ·rename_i hf;simp at he;obtain⟨rfl,rfl,rfl⟩:=he;rw[if_pos hc,G7 _ _ _ hds h];simp[hf]
     ·cases he
    ·cases he
   ·cases he
  ·cases he
 ·cases he
theorem N0{P:Program}{key:Nat}{H H':Nat→Option HO}{t:TypeId}{x:AV}{lo hi mx:Option AV}{r:AV}{es:List (Nat×Option HO)}{acc:List Nat}(he:EQ P key H t x lo hi mx=some (r,es,acc))(h:∀k∈acc,H' k=H k):EQ P key H' t x lo hi mx=some (r,es,acc):=by
 unfold EQ at he ⊢;cases hv:Ej P H t x lo hi mx with
 |some q =>
  rw[hv]at he;simp only[Option.some.injEq]at he;subst he;rw[PL hv h]
 |none =>
 rw[hv]at he;simp only at he;cases hv':Ej P H' t x lo hi mx with
 |some q =>
  cases hrv:J3 P key H t x lo hi mx with
  |some q' =>
   obtain⟨k,n,rfl⟩:=R4 hrv;unfold Ej at hv';cases lo<;>cases mx<;>cases hv'
  |none =>
   rw[hrv]at he;simp only at he;rw[PM (key:=key) (H:=H) hv']at he;cases he
 |none =>
 simp only;cases hw:J3 P key H t x lo hi mx with
 |some q =>
  rw[hw]at he;simp only[Option.some.injEq]at he;subst he;rw[SC hw h]
 |none =>
 rw[hw]at he;simp only at he;have hacc:∀k n,x= .own k n→k∈acc:=fun k n e=>by
  unfold Dy at he;cases hq:FZ P key H t x lo hi mx with
  |some q=>rw[hq]at he;simp only[Option.some.injEq]at he;subst he;exact OC hq e
  |none=>rw[hq]at he;exact Lw he e
 have hw':J3 P key H' t x lo hi mx=none:=by
  cases hq:J3 P key H' t x lo hi mx with
  |none=>rfl
  |some q =>
   obtain⟨k,n,e⟩:=R4 hq;have hk':=h k (hacc k n e);subst e;have e2:J3 P key H' t (.own k n) lo hi mx=J3 P key H t (.own k n) lo hi mx:=by
    unfold J3;simp only[hk']
   rw[e2,hw]at hq;cases hq
 rw[hw'];simp only;unfold Dy at he ⊢;cases hq:FZ P key H t x lo hi mx with
 |some q =>
  rw[hq]at he;simp only[Option.some.injEq]at he;subst he;rw[Lu (fun k n e=>h k (OC hq e)),hq]
 |none =>
 rw[hq]at he;simp only at he;rw[Lu (fun k n e=>h k (Lw he e)),hq];simp only;unfold EP at he ⊢;split at he
 ·split at he
  ·split at he
   ·rename_i d ks hd;have hks:acc=ks:=by
     split at he
     ·split at he
      ·split at he
       ·split at he
        ·simp at he;exact he.2.2.symm
        ·split at he
         ·split at he
          ·simp at he;exact he.2.2.symm
          ·cases he
         ·cases he
       ·cases he
      ·cases he
     ·cases he
    subst hks;rw[CL _ _ _ hd h];exact he
   ·cases he
  ·cases he
 ·cases he
theorem MZ{P:Program}{key:Nat}{H H':Nat→Option HO}{t:TypeId}{x:AV}{lo hi mx:Option AV}{r:AV}{es:List (Nat×Option HO)}{acc:List Nat}(he:Fu P key H t x lo hi mx=some (r,es,acc))(h:∀k∈acc,H' k=H k):Fu P key H' t x lo hi mx=some (r,es,acc):=by
 cases x<;>first|exact Oa he h|exact N0 he h
theorem SA{P:Program}{key:Nat}{ρ:Operand→AV}{H H':Nat→Option HO}{o:Op}{r:AV}{es:List (Nat×Option HO)}{acc:List Nat}(he:Ft P key ρ H o=some (r,es,acc))(h:∀k∈acc,H' k=H k) :
 Ft P key ρ H' o=some (r,es,acc):=by
 cases o<;>simp only[Ft]at he ⊢ <;> try exact he
 case buildSlice t n ps =>
  unfold Cy at he ⊢;split at he
  ·rename_i h5;rw[if_pos h5];split at he
   ·rename_i h6;rw[if_pos h6];exact J0 he h
   ·rename_i h6;rw[if_neg h6];exact FX he h
  ·rename_i h5;rw[if_neg h5];exact FX he h
 case load t a =>
  split at he
  ·rename_i x acc' hl;simp at he;obtain⟨rfl,rfl,rfl⟩:=he;rw[PJ hl h]
  ·cases he
 case store t a x =>
  split at he
  ·rename_i es' acc' hs;simp at he;obtain⟨rfl,rfl,rfl⟩:=he;have:Fv P H' t (ρ a) (ρ x)=some (es',acc'):=by
    unfold Fv at hs ⊢;split at hs
    ·exact I5 hs h
    ·exact I5 hs h
    unfold Gh at hs ⊢;split at hs
    ·cases hs
    ·split at hs
     ·rename_i k off ha;split at hs
      ·rename_i cs ho;split at hs
       ·rename_i hc;simp at hs;obtain⟨rfl,rfl⟩:=hs;simp only[h k (by simp),ho];rw[if_pos hc]
       ·cases hs
      ·cases hs
     ·rename_i k m i sz off ha;split at hs
      ·rename_i e sz' xs ho;split at hs
       ·rename_i hm;split at hs
        ·rename_i y d ks hy hd;split at hs
         ·rename_i hc;split at hs
          ·rename_i y' hy';simp at hs;obtain⟨rfl,rfl⟩:=hs;simp only[h k (by simp),ho];rw[if_pos hm,hy,CL _ _ _ hd (fun q hq=>h q (by simp[hq]))];simp only;rw[if_pos hc,hy']
          ·cases hs
         ·cases hs
        ·cases hs
       ·cases hs
      ·cases hs
     ·cases hs
   rw[this]
  ·cases he
 case lookup t x i ok =>
  split at he
  ·rename_i r' acc' hq;simp only[Option.some.injEq,Prod.mk.injEq]at he;obtain⟨rfl,rfl,rfl⟩:=he;rw[MR hq h]
  ·cases he
 case mapUpdate t m k x =>
  split at he
  ·rename_i es' acc' hq;simp only[Option.some.injEq,Prod.mk.injEq]at he;obtain⟨rfl,rfl,rfl⟩:=he;rw[MU hq h]
  ·cases he
 case range t x=>exact O6 he h
 case entry it =>
  split at he
  ·rename_i r' acc' hq;simp only[Option.some.injEq,Prod.mk.injEq]at he;obtain⟨rfl,rfl,rfl⟩:=he;rw[O2 hq h]
  ·cases he
 case slice t x lo hi mx=>exact MZ he h
 case convert s d x =>
  unfold JX at he ⊢;split at he
  ·rename_i r' hr;simp only[Option.some.injEq,Prod.mk.injEq]at he;obtain⟨rfl,rfl,rfl⟩:=he;rfl
  ·split at he
   ·rename_i e y ks hel hd;have hks:acc=ks:=by
     split at he
     ·split at he
      ·split at he
       ·simp only[Option.some.injEq,Prod.mk.injEq]at he;exact he.2.2.symm
       ·cases he
      ·cases he
     ·cases he
    subst hks;rw[hel,CL _ _ _ hd h];exact he
   ·cases he
 case call c =>
  obtain⟨cal,args,ts⟩:=c;cases cal with
  |value f=>exact he
  |invoke r m=>exact he
  |builtin b =>
   simp only at he ⊢;cases b<;>simp only[Et]at he ⊢ <;> try exact he
   case copy =>
    split at he
    ·split at he
     ·exact O0 he h
     ·exact PE he h
    ·cases he
   case clear =>
    split at he
    ·exact NX he h
    ·cases he
   case append =>
    split at he
    ·rename_i x0 y0 t0 t0' hx0 hy0;split at he
     ·rename_i ht;simp only[ht,if_true];split at he
      ·unfold CN at he ⊢;split at he
       ·cases he
       ·split at he
        ·split at he
         ·rename_i hc;rw[if_pos hc];split at he
          ·rename_i d ks hd;have hks:acc=ks:=by
            split at he
            ·split at he
             ·simp at he;exact he.2.2.symm
             ·split at he
              ·simp at he;exact he.2.2.symm
              ·cases he
            ·cases he
           subst hks;rw[CL _ _ _ hd h];exact he
          ·cases he
         ·cases he
        ·cases he
      ·exact LK he h
      ·exact KV he h
      ·cases hv:CC P H t0 (ρ x0) (ρ y0)with
       |some q =>
        rw[hv]at he;simp only[Option.some.injEq]at he;subst he;obtain⟨a1,a2⟩:=NV hv;rw[HN (fun k n e=>h k (a1 k n e)) (fun k o n e=>h k (a2 k o n e)),hv]
       |none =>
       rw[hv]at he;simp only at he;obtain⟨a1,a2⟩:=PC he;rw[HN (fun k n e=>h k (a1 k n e)) (fun k o n e=>h k (a2 k o n e)),hv];simp only;unfold E8 at he ⊢;split at he
       ·cases he
       ·split at he
        ·split at he
         ·rename_i hc;rw[if_pos hc];split at he
          ·rename_i d ks hd;split at he
           ·rename_i ys hys;split at he
            ·rename_i k n hx;split at he
             ·rename_i e' sz' xs ho;split at he
              ·rename_i hcc;split at he
               ·rename_i hroom;simp at he;obtain⟨rfl,rfl,rfl⟩:=he;rw[CL _ _ _ hd (fun q hq=>h q (by simp[hq]))];simp only[hys,h k (by simp),ho];rw[if_pos hcc,if_pos hroom];simp
               ·cases he
              ·cases he
             ·cases he
            ·have hks:acc=ks:=by
              split at he
              ·split at he
               ·simp at he;exact he.2.2.symm
               ·cases he
              ·cases he
             subst hks;rw[CL _ _ _ hd h];simp only[hys];exact he
            ·cases he
           ·cases he
          ·cases he
         ·cases he
        ·cases he
     ·rename_i ht;simp only[ht,if_false];exact LI he h
    ·cases he
theorem JJ.local{P:Program}{ops:Array Oper}{key:Nat}{o:Oper}{E E':BP}{hp hp':Aa}{out:EX}(h:JJ P ops key o E hp out)(hE:∀t∈o.looksAt ops,lk E' t=lk E t)(hH:∀k∈out.acc,lk hp' k=lk hp k):JJ P ops key o E' hp' out:=by
 have hop:∀x∈o.op.operands,opnd E' x=opnd E x:=fun x hx=>by
  cases x with
  |tmp t =>
   simp only[opnd];rw[hE t (by simp only[Oper.looksAt,List.mem_append,List.mem_filterMap];exact .inl ⟨.tmp t,by simpa using hx,rfl⟩)]
  |_=>rfl
 have hgd:gd ops E' o.guard=gd ops E o.guard:=by
  unfold gd;cases hg:o.guard with
  |none=>rfl
  |some p =>
   obtain⟨j,want⟩:=p;simp only;cases hs:G2 ops j with
   |none=>rfl
   |some t =>
    simp only;rw[hE t (by
     simp only[Oper.looksAt,hg,List.mem_append];refine .inr ?_;unfold G2 at hs;rw[hs];simp)]
 cases h with
 |skip hg=>exact .skip (by rw[hgd];exact hg)
 |op hg he=>exact .op (by rw[hgd];exact hg) (SA (by rw[Sz _ hop];exact he) hH)
 |call hg ho hf ha hs =>
  rename_i f args ts g ds ks r;rw[ho]at hop;simp only[Op.operands,Call.operands]at hop;refine .call (by rw[hgd];exact hg) ho (by rw[hop f (by simp)];exact hf) ?_ hs;have:args.toList.map (opnd E')=args.toList.map (opnd E):=List.map_congr_left fun x hx=>hop x (by simp;right;simpa using hx);rw[this];exact G7 _ _ _ ha hH
 |callM hg ho hf ha hs hb hsub hcs hch =>
  rename_i f args ts g pre caps az hpc hp' r n σ ks fs chg;rw[ho]at hop;simp only[Op.operands,Call.operands]at hop;have e:args.toList.map (opnd E')=args.toList.map (opnd E):=List.map_congr_left fun x hx=>hop x (by simp;right;simpa using hx);refine .callM (by rw[hgd];exact hg) ho (by rw[hop f (by simp)];exact hf) (by rw[e];exact ha) hs hb (fun k hk=>?_) hcs hch;obtain⟨o1,h1,h2⟩:=hsub k hk;exact⟨o1,h1,by rw[hH _ (List.mem_map_of_mem hk)];exact h2⟩
 |callY hg ho hf ha hs hb hsub =>
  rename_i f args ts kl az hpc hp' r n σ ks fs;rw[ho]at hop;simp only[Op.operands,Call.operands]at hop;have e:args.toList.map (opnd E')=args.toList.map (opnd E):=List.map_congr_left fun x hx=>hop x (by simp;right;simpa using hx);refine .callY (by rw[hgd];exact hg) ho (by rw[hop f (by simp)];exact hf) (by rw[e];exact ha) hs hb (fun k hk=>?_);obtain⟨o1,h1,h2⟩:=hsub k hk;exact⟨o1,h1,by rw[hH _ (List.mem_map_of_mem hk)];exact h2⟩
end Go.Eng
namespace Go.Eng
open Go.RowKit
def SS(acc:List Nat)(o:Oper):Nat:=o.after.toList.foldl (fun s e=>if Region.binds .any e then s ||| 2 ^ e.on ||| acc.getD e.on 0 else s) 0
def Nj:List Oper→List Nat→List Nat
 | [],acc=>acc
 |o::os,acc=>Nj os (acc++[SS acc o])
def Pk:Nat→List Oper→Bool
 |_,[]=>true
 |i,o::os=>(o.after.toList.all fun e => !Region.binds .any e||decide (e.on<i))&&Pk (i+1) os
def Yr(a b:List Nat):Bool:=a.all fun x => !b.contains x
def Qe(ops:Array Oper)(ms:List Nat)(ks:List (List Nat×List Nat))(i j:Nat):Bool :=
 (ms.getD j 0).testBit i||match ops[i]?,ops[j]? with
   |some a,some b=>a.apart ops b&&match ks[i]?,ks[j]? with
    |some k,some l=>Yr k.1 l.1&&Yr k.1 l.2&&Yr l.1 k.2
    |_,_=>false
   |_,_=>true
def AM(ops:Array Oper)(ks:List (List Nat×List Nat)):Bool :=
 Pk 0 ops.toList&&(let ms:=Nj ops.toList [];(List.range ops.size).all fun j=>(List.range j).all fun i=>Qe ops ms ks i j)
def Ad(o:EX):List Nat×List Nat:=(C5 o.es,o.acc)
def Mr(ops:Array Oper)(S:Nat→Bool):Prop:=∀(j:Nat) o,ops[j]? =some o→S j=true→∀e∈o.after,Region.binds .any e=true→S e.on=true
theorem RC{S:Nat→Bool}{acc:List Nat}{o:Oper}(hacc:∀(j:Nat) m i,acc[j]? =some m→m.testBit i=true→S j=true→S i=true)(ho:∀e∈o.after,Region.binds .any e=true→S e.on=true)(i:Nat)(h:(SS acc o).testBit i=true):S i=true:=by
 have:∀(l:List Edge) (s:Nat),(∀e∈l,Region.binds .any e=true→S e.on=true)→(s.testBit i=true→S i=true)→(l.foldl (fun s e=>if Region.binds .any e then s ||| 2 ^ e.on ||| acc.getD e.on 0 else s) s).testBit i=true→S i=true:=by
  intro l;induction l with
  |nil=>intro s _ hs h;exact hs h
  |cons e l ih =>
   intro s hl hs h;refine ih _ (fun e' he'=>hl e' (by simp[he'])) (fun h'=>?_) h;dsimp only at h';split at h'
   ·rename_i hb;simp only[Nat.testBit_or,Bool.or_eq_true]at h';rcases h' with(h'|h')|h'
    ·exact hs h'
    ·rw[Nat.testBit_two_pow]at h';have:=of_decide_eq_true h';subst this;exact hl e (by simp) hb
    ·have hS:=hl e (by simp) hb;rw[List.getD_eq_getElem?_getD]at h';cases hq:acc[e.on]? with
     |none=>rw[hq]at h';simp at h'
     |some m=>rw[hq]at h';exact hacc _ m i hq h' hS
   ·exact hs h'
 exact this o.after.toList 0 (fun e he=>ho e (by simpa using he)) (by simp) h
theorem Nk{ops:Array Oper}{S:Nat→Bool}(hS:Mr ops S):∀(l:List Oper) (acc:List Nat),(∀j,l[j]? =ops[acc.length+j]?)→(∀(j:Nat) m i,acc[j]? =some m→m.testBit i=true→S j=true→S i=true) →
 ∀(j:Nat) m i,(Nj l acc)[j]? =some m→m.testBit i=true→S j=true→S i=true
 | [],acc,_,hacc=>hacc
 |o::l,acc,hl,hacc=>by
  refine Nk hS l (acc++[SS acc o]) (fun j=>?_) (fun j m i hj hb hSj=>?_)
  ·have:=hl (j+1);simp only[List.length_append,List.length_cons,List.length_nil];rw[show acc.length+(0+1)+j=acc.length+(j+1)from by omega,← this];simp
  ·by_cases h:j<acc.length
   ·rw[List.getElem?_append_left h]at hj;exact hacc j m i hj hb hSj
   ·rw[List.getElem?_append_right (by omega)]at hj;have h0:j=acc.length:=by
     have:=(List.getElem?_eq_some_iff.1 hj).1;simp at this;omega
    subst h0;simp at hj;subst hj;have hops:=hl 0;simp at hops;exact RC hacc (fun e he hbd=>hS acc.length o hops.symm hSj e he hbd) i hb
theorem Ln:∀(l:List Oper) (i:Nat),Pk i l=true→∀(j:Nat) o,l[j]? =some o→∀e∈o.after,Region.binds .any e=true→e.on<i+j
 | [],_,_,j,o,h,_,_,_=>by simp at h
 |o::l,i,hb,j,o',h,e,he,hbd=>by
  simp only[Pk,Bool.and_eq_true]at hb;cases j with
  |zero =>
   simp at h;subst h;have:=List.all_eq_true.1 hb.1 e (by simpa using he);simpa[hbd]using this
  |succ j =>
   have:=Ln l (i+1) hb.2 j o' (by simpa using h) e he hbd;omega
theorem IA{a b:List Nat}(h:Yr a b=true){x:Nat}(ha:x∈a):x∉b:=by
 have:=List.all_eq_true.1 h x ha;simpa using this
theorem Ev.at{P:Program}{ops:Array Oper}{c:Nat}:∀(l:List Oper) (i:Nat) (E:BP) (hp:Aa) (outs:List EX) (E':BP) (hp':Aa),Ev P ops c i l E hp outs E' hp' →
 outs.length=l.length∧B0 (fun _=>true) i outs E hp=(E',hp') ∧
 ∀(j:Nat) o out,l[j]? =some o→outs[j]? =some out→JJ P ops (c+(i+j)) o (B0 (fun q=>decide (q<i+j)) i outs E hp).1 (B0 (fun q=>decide (q<i+j)) i outs E hp).2 out∧out.dst=o.dst
 | [],i,E,hp,outs,E',hp',h=>by
   cases h;exact⟨rfl,rfl,fun j o out hj=>by simp at hj⟩
 |o::l,i,E,hp,outs,E',hp',h=>by
  cases h with
  |cons h0 ht =>
   rename_i out outs;obtain⟨h1,h2,h3⟩:=Ev.at l (i+1) _ _ _ _ _ ht;have hd:out.dst=o.dst:=by cases h0<;>rfl
   have none:∀(l:List EX) (q m:Nat) (E:BP) (hp:Aa),m≤q→B0 (fun x=>decide (x<m)) q l E hp=(E,hp):=by
    intro l;induction l with
    |nil=>intro q m E hp _;rfl
    |cons x l ih=>intro q m E hp hm;simp only[B0];rw[if_neg (by simp;omega)];exact ih _ _ _ _ (by omega)
   refine⟨by simp[h1],by simp[B0,hd,h2],fun j o' out' ho' hout'=>?_⟩;cases j with
   |zero =>
    simp at ho' hout';subst ho';subst hout';rw[none _ _ _ _ _ (by omega)];exact⟨h0,hd⟩
   |succ j =>
    have:=h3 j o' out' (by simpa using ho') (by simpa using hout');simp only[B0];rw[if_pos (by simp),hd,show i+(j+1)=i+1+j from by omega];exact this
section
variable {P:Program} {X:DT} {N:Nat} {rd:Option Nat}
def FE(c n:Nat)(S:Nat→Bool)(k:Nat):Prop:=k<c∨∃j,j<n∧S j=true∧k=c+j
theorem Dv.congr{E E':BP}{H H':Nat→Option HO}{ν:Nat→Value}{u:Nat→Prop}{a:Act}{w:World}(h:Dv X N E H ν u a w)(hE:∀t,lk E' t=lk E t)(hH:∀k,H' k=H k):Dv X N E' H' ν u a w:=by
 have:H'=H:=funext hH;subst this;exact⟨h.heap,fun n av hn=>h.env n av (by rw[← hE];exact hn),h.size,h.defers⟩
theorem SZ{ops:Array Oper}{c:Nat}{E0:BP}{hp0:Aa}{outs:List EX}{E':BP}{hp':Aa}(hev:Ev P ops c 0 ops.toList E0 hp0 outs E' hp')(hok:AM ops (outs.map Ad)=true)(hdst:I4 N ops.toList=true)
 {S:Nat→Bool} (hS:Mr ops S) {i:Nat} {o:Oper} (ho:ops[i]? =some o) (hi:S i=false) (hpred:∀e∈o.after,Region.binds .any e=true→S e.on=true)
 {ν:Nat→Value} {a:Act} {w:World} (hI:Dv X N (B0 S 0 outs E0 hp0).1 (lk (B0 S 0 outs E0 hp0).2) ν (FE c ops.size S) a w) {K:Act→World→Prop} {Q:Exit→Act→World→Prop}
 (hK:∀a' w' ν',Dv X N (B0 (fun j=>j==i||S j) 0 outs E0 hp0).1 (lk (B0 (fun j=>j==i||S j) 0 outs E0 hp0).2) ν' (FE c ops.size (fun j=>j==i||S j)) a' w' →
   CT (Am X.M0 (lk (B0 S 0 outs E0 hp0).2) ν) (lk (B0 S 0 outs E0 hp0).2) ν (FE c ops.size S) w (Am X.M0 (lk (B0 (fun j=>j==i||S j) 0 outs E0 hp0).2) ν') (lk (B0 (fun j=>j==i||S j) 0 outs E0 hp0).2) ν' (FE c ops.size (fun j=>j==i||S j)) w'→K a' w') :
 wpOpIn (FR rd) 0 P ops Q i K a w:=by
 obtain⟨hlen,_,hat⟩:=hev.at
 have hil:i<ops.size:=(Array.getElem?_eq_some_iff.1 ho).1;have hol:ops.toList[i]? =some o:=by simpa using ho
 obtain⟨out,hout⟩:∃out,outs[i]? =some out:=⟨_,List.getElem?_eq_getElem (by rw[hlen];simpa using hil)⟩
 obtain⟨hop,hod⟩:=hat i o out hol hout;simp only[Nat.zero_add]at hop;simp only[AM,Bool.and_eq_true]at hok;obtain⟨hback,hpairs⟩:=hok;have hS':Mr ops (fun j=>j==i||S j):=fun j oj hoj hj e he hb=>by
  simp only[Bool.or_eq_true,beq_iff_eq]at hj ⊢;rcases hj with rfl|hj
  ·rw[ho]at hoj;cases hoj;exact .inr (hpred e he hb)
  ·exact .inr (hS j oj hoj hj e he hb)
 have pair:∀(x y:Nat),x<y→y<ops.size→Qe ops (Nj ops.toList []) (outs.map Ad) x y=true:=fun x y hxy hy=>by
  have:=List.all_eq_true.1 hpairs y (List.mem_range.2 hy);exact List.all_eq_true.1 this x (List.mem_range.2 hxy)
 have mk:∀{T:Nat→Bool},Mr ops T→∀(x y:Nat),((Nj ops.toList []).getD y 0).testBit x=true→T y=true→T x=true:=fun{T} hT x y hb hy=>by
  rw[List.getD_eq_getElem?_getD]at hb;cases hq:(Nj ops.toList [])[y]? with
  |none=>rw[hq]at hb;simp at hb
  |some m=>rw[hq]at hb;exact Nk hT ops.toList [] (fun j=>by simp) (fun j m i hj=>by simp at hj) y m x hq hb hy
 have apart:∀(j:Nat) oj outj,j≠i→ops[j]? =some oj→outs[j]? =some outj→(S j=decide (j<i)) ∨
  ((∀d,oj.dst=some d→d∉o.looksAt ops∧o.dst≠some d)∧∀k∈C5 outj.es,k∉out.acc∧k∉C5 out.es):=by
  intro j oj outj hji hoj houtj;have hjl:j<ops.size:=(Array.getElem?_eq_some_iff.1 hoj).1;rcases Nat.lt_or_gt_of_ne hji with h|h
  ·have hp:=pair j i h hil;simp only[Qe,Bool.or_eq_true]at hp;rcases hp with hp|hp
   ·left;have:=mk hS' j i hp (by simp);simp[hji]at this;simp[this,h]
   ·right;simp only[hoj,ho,Bool.and_eq_true,List.getElem?_map,houtj,hout,Option.map_some,Ad]at hp;obtain⟨h1,h2,h3⟩:=Oper.apart_spec hp.1;refine⟨fun d hd=>⟨h1 d hd,h2 d hd⟩,fun k hk=>⟨IA hp.2.1.2 hk,IA hp.2.1.1 hk⟩⟩
  ·have hp:=pair i j h hjl;simp only[Qe,Bool.or_eq_true]at hp;rcases hp with hp|hp
   ·left;have:S j=false:=by
     cases hq:S j with
     |false=>rfl
     |true=>have:=mk hS i j hp hq;rw[hi]at this;cases this
    simp[this];omega
   ·right;simp only[hoj,ho,Bool.and_eq_true,List.getElem?_map,houtj,hout,Option.map_some,Ad]at hp;obtain⟨h1,h2,h3⟩:=Oper.apart_spec hp.1;refine⟨fun d hd=>⟨h3 d hd,fun e=>h2 d e hd⟩,fun k hk=>⟨IA hp.2.2 hk,fun hk'=>IA hp.2.1.1 hk' hk⟩⟩
 have opj:∀(j:Nat) outj,outs[j]? =some outj→∃oj,ops[j]? =some oj∧outj.dst=oj.dst:=fun j outj hj=>by
  have hjl:=(List.getElem?_eq_some_iff.1 hj).1;rw[hlen]at hjl;have:=List.getElem?_eq_getElem hjl;exact⟨_,by simp,(hat j _ outj this hj).2⟩
 have hopS:JJ P ops (c+i) o (B0 S 0 outs E0 hp0).1 (B0 S 0 outs E0 hp0).2 out:=by
  refine hop.local (fun t ht=>DO outs 0 _ _ _ _ rfl fun j outj hj hdj=>?_) (fun k hk=>Dj outs 0 _ _ _ _ rfl fun j outj hj hkj=>?_)
  ·simp only[Nat.zero_add];by_cases hji:j=i
   ·subst hji;simp[hi]
   ·obtain⟨oj,hoj,hdd⟩:=opj j outj hj;rcases apart j oj outj hji hoj hj with h|h
    ·exact h
    ·exact absurd ht (h.1 t (by rw[← hdd];exact hdj)).1
  ·simp only[Nat.zero_add];by_cases hji:j=i
   ·subst hji;simp[hi]
   ·obtain⟨oj,hoj,hdd⟩:=opj j outj hj;rcases apart j oj outj hji hoj hj with h|h
    ·exact h
    ·exact absurd hk (h.2 k hkj).1
 have later:∀(j:Nat) outj,i<j→outs[j]? =some outj→(∃t,outj.dst=some t∧o.dst=some t)∨(∃k,k∈C5 outj.es∧k∈C5 out.es)→S j=false:=fun j outj hij hj hh=>by
  obtain⟨oj,hoj,hdd⟩:=opj j outj hj;rcases apart j oj outj (by omega) hoj hj with h|h
  ·rw[h];simp;omega
  ·rcases hh with⟨t,h1,h2⟩|⟨k,h1,h2⟩
   ·exact absurd h2 (h.1 t (by rw[← hdd];exact h1)).2
   ·exact absurd h2 (h.2 k h1).2
 have hEeq:∀t,lk (B0 (fun j=>j==i||S j) 0 outs E0 hp0).1 t=lk (EF (B0 S 0 outs E0 hp0).1 o.dst out.v) t:=fun t=>by
  by_cases hd:o.dst=some t
  ·rw[hd,K4];exact I9 outs 0 i E0 hp0 out hout (by rw[hod];exact hd) rfl (by simp) (fun j o' hij hj hdj=>by
    have:=later j o' hij hj (.inl ⟨t,hdj,hd⟩);have hne:¬j=i:=by omega
    simp[this,hne])
  ·rw[Gz hd];refine DO outs 0 _ _ _ _ rfl fun j o' hj hdj=>?_;simp only[Nat.zero_add];have hne:j≠i:=fun e=>by
    subst e;rw[hout]at hj;cases hj;exact hd (by rw[← hod];exact hdj)
   simp[hne]
 have hHeq:∀k,lk (B0 (fun j=>j==i||S j) 0 outs E0 hp0).2 k=lk (BO (B0 S 0 outs E0 hp0).2 out.es) k:=fun k=>by
  by_cases hk:k∈C5 out.es
  ·exact HP outs 0 i E0 hp0 _ out hout hk (by simp) (fun j o' hij hj hkj=>by
    have:=later j o' hij hj (.inr ⟨k,hkj,hk⟩);have hne:¬j=i:=by omega
    simp[this,hne])
  ·rw[C8 _ _ _ hk];refine Dj outs 0 _ _ _ _ rfl fun j o' hj hkj=>?_;simp only[Nat.zero_add];have hne:j≠i:=fun e=>by
    subst e;rw[hout]at hj;cases hj;exact hk hkj
   simp[hne]
 have hkey:¬FE c ops.size S (c+i):=by
  rintro(h|⟨j,_,hj,he⟩)
  ·omega
  ·have:j=i:=by omega
   subst this;rw[hi]at hj;cases hj
 have hue:∀k,(FE c ops.size S k∨k=c+i)↔FE c ops.size (fun j=>j==i||S j) k:=fun k=>by
  constructor
  ·rintro((h|⟨j,h1,h2,h3⟩)|h)
   ·exact .inl h
   ·exact .inr ⟨j,h1,by simp[h2],h3⟩
   ·exact .inr ⟨i,hil,by simp,h⟩
  ·rintro(h|⟨j,h1,h2,h3⟩)
   ·exact .inl (.inl h)
   ·simp only[Bool.or_eq_true,beq_iff_eq]at h2;rcases h2 with rfl|h2
    ·exact .inr h3
    ·exact .inl (.inr ⟨j,h1,h2,h3⟩)
 have huf:(fun k=>FE c ops.size S k∨k=c+i)=FE c ops.size (fun j=>j==i||S j):=funext fun k=>propext (hue k);have hHf:lk (B0 (fun j=>j==i||S j) 0 outs E0 hp0).2=lk (BO (B0 S 0 outs E0 hp0).2 out.es):=funext hHeq;have hs:=hopS.sound (K:=K) (Q:=Q) (rd:=rd) hI hkey (OA hdst (List.mem_of_getElem? hol)) (fun a' w' ν' h1 h2=>by
  rw[huf]at h1 h2;refine hK a' w' ν' (h1.congr hEeq hHeq) ?_;rw[hHf];exact h2)
 unfold wpOpIn;simp only[ho];split
 ·rename_i hw;rw[if_pos hw]at hs;exact hs
 ·rename_i hw;rw[if_neg hw]at hs;exact hs
def cnt(S:Nat→Bool)(n:Nat):Nat:=((List.range n).filter S).length
theorem Yn{S:Nat→Bool}{n:Nat}(h:cnt S n=n):∀i,i<n→S i=true:=by
 intro i hi;have h':((List.range n).filter S).length=(List.range n).length:=by simpa[cnt]using h
 have:=List.length_filter_eq_length_iff.1 h' i (List.mem_range.2 hi);exact this
theorem Yo{S:Nat→Bool}{n i:Nat}(hi:i<n)(h:S i=false):cnt (fun j=>j==i||S j) n=cnt S n+1:=by
 unfold cnt;induction n with
 |zero=>omega
 |succ n ih =>
  rw[List.range_succ,List.filter_append,List.filter_append,List.length_append,List.length_append];by_cases e:i=n
  ·subst e;have:(List.range i).filter (fun j=>j==i||S j)=(List.range i).filter S:=List.filter_congr fun x hx=>by
    have:=List.mem_range.1 hx;have hne:¬x=i:=by omega
    simp[hne]
   rw[this];simp[h]
  ·have:=ih (by omega);rw[this];have hne:¬n=i:=fun e'=>e e'.symm;by_cases hs:S n=true<;>simp[hne,hs]<;>omega
theorem I8{S S':Nat→Bool}:∀(outs:List EX) (i:Nat) (E:BP) (hp:Aa),(∀j,j<outs.length→S (i+j)=S' (i+j))→B0 S i outs E hp=B0 S' i outs E hp
 | [],_,_,_,_=>rfl
 |o::outs,i,E,hp,h=>by
  have h0:=h 0 (by simp);simp only[Nat.add_zero]at h0;simp only[B0,h0];have hr:∀j,j<outs.length→S (i+1+j)=S' (i+1+j):=fun j hj=>by
   have:=h (j+1) (by simp;omega)
   rwa [show i+(j+1)=i+1+j from by omega]at this
  split
  ·exact I8 outs _ _ _ hr
  ·exact I8 outs _ _ _ hr
theorem Ev.any{ops:Array Oper}{c:Nat}{E0:BP}{hp0:Aa}{outs:List EX}{E':BP}{hp':Aa}(hev:Ev P ops c 0 ops.toList E0 hp0 outs E' hp')(hok:AM ops (outs.map Ad)=true)(hdst:I4 N ops.toList=true)
 {Q:Exit→Act→World→Prop} {M0:Nat→Prop} {H0:Nat→Option HO} {ν0:Nat→Value} {u0:Nat→Prop} {w0:World}
 (hQ:∀a' w' ν',Dv X N E' (lk hp') ν' (·< c+ops.size) a' w'→CT M0 H0 ν0 u0 w0 (Am X.M0 (lk hp') ν') (lk hp') ν' (·< c+ops.size) w'→Q .normal a' w') :
 ∀(fuel:Nat) (listed:Array Bool) (S:Nat→Bool) (ν:Nat→Value) (a:Act) (w:World),listed.size=ops.size→(∀i,i<ops.size→listed.getD i true=S i)→(∀i,ops.size≤i→S i=false)→Mr ops S→cnt S ops.size+fuel=ops.size →
  Dv X N (B0 S 0 outs E0 hp0).1 (lk (B0 S 0 outs E0 hp0).2) ν (FE c ops.size S) a w →
  CT M0 H0 ν0 u0 w0 (Am X.M0 (lk (B0 S 0 outs E0 hp0).2) ν) (lk (B0 S 0 outs E0 hp0).2) ν (FE c ops.size S) w→wpAnyIn (FR rd) 0 P .any ops Q fuel listed a w:=by
 obtain⟨hlen,hfin,_⟩:=hev.at
 have hlen':outs.length=ops.size:=by simpa using hlen
 have hback:∀(j:Nat) o,ops[j]? =some o→∀e∈o.after,Region.binds .any e=true→e.on<j:=fun j o ho e he hb=>by
  simp only[AM,Bool.and_eq_true]at hok;have:=Ln ops.toList 0 hok.1 j o (by simpa using ho) e he hb;omega
 have done:∀(S:Nat→Bool) (ν:Nat→Value) (a:Act) (w:World),(∀i,i<ops.size→S i=true)→Dv X N (B0 S 0 outs E0 hp0).1 (lk (B0 S 0 outs E0 hp0).2) ν (FE c ops.size S) a w →
  CT M0 H0 ν0 u0 w0 (Am X.M0 (lk (B0 S 0 outs E0 hp0).2) ν) (lk (B0 S 0 outs E0 hp0).2) ν (FE c ops.size S) w→Q .normal a w:=fun S ν a w hall hI hx=>by
  have e:B0 S 0 outs E0 hp0=(E',hp'):=by
   rw[← hfin];exact I8 outs 0 E0 hp0 (fun j hj=>by rw[hall];omega)
  rw[e]at hI hx;have ue:∀k,FE c ops.size S k↔k<c+ops.size:=fun k=>by
   constructor
   ·rintro(h|⟨j,h1,_,h3⟩)<;>omega
   ·intro h;by_cases hk:k<c
    ·exact .inl hk
    ·exact .inr ⟨k-c,by omega,hall _ (by omega),by omega⟩
  have uf:FE c ops.size S=(·< c+ops.size):=funext fun k=>propext (ue k);rw[uf]at hI hx;exact hQ a w ν hI hx
 intro fuel;induction fuel with
 |zero =>
  intro listed S ν a w hl hg hout hS hc hI hx;have hall:=Yn (S:=S) (n:=ops.size) (by omega);refine⟨?_,done S ν a w hall hI hx⟩;unfold Region.ready;rw[List.filter_eq_nil_iff];intro i hi;have hi':=List.mem_range.1 hi;rw[hg i hi',hall i hi'];simp
 |succ fuel ih =>
  intro listed S ν a w hl hg hout hS hc hI hx;refine⟨fun hr=>?_,fun i hir=>?_⟩
  ·
   refine done S ν a w (fun i hi=>?_) hI hx;induction i using Nat.strongRecOn with
   |_ i ihi =>
    cases hq:S i with
    |true=>rfl
    |false =>
     exfalso;have hio:ops[i]? =some ops[i]:=Array.getElem?_eq_getElem hi;have hmem:i∈Region.ready .any ops listed:=by
      unfold Region.ready;rw[List.mem_filter];refine⟨List.mem_range.2 hi,?_⟩;rw[hg i hi,hq,hio];simp only[Bool.not_false,Bool.true_and,Option.map_some,Option.getD_some];rw[Array.all_eq_true_iff_forall_mem];intro e he;cases hb:Region.binds .any e with
      |false=>simp
      |true =>
       have hlt:=hback i _ hio e he hb;have:=ihi e.on hlt (by omega);have hge:=hg e.on (by omega);have hgf:listed.getD e.on false=true:=by
        rw[Array.getD_eq_getD_getElem?,Array.getElem?_eq_getElem (by omega)]at hge ⊢;simpa[this]using hge
       simp[hgf]
     rw[hr]at hmem;cases hmem
  ·unfold Region.ready at hir;rw[List.mem_filter]at hir;obtain⟨hi,hcond⟩:=hir;have hi:=List.mem_range.1 hi;have hio:ops[i]? =some ops[i]:=Array.getElem?_eq_getElem hi;rw[hg i hi,hio]at hcond;simp only[Option.map_some,Option.getD_some,Bool.and_eq_true,Bool.not_eq_true']at hcond;obtain⟨hSi,hedges⟩:=hcond;rw[Array.all_eq_true_iff_forall_mem]at hedges;have hpred:∀e∈(ops[i]).after,Region.binds .any e=true→S e.on=true:=fun e he hb=>by
    have:=hedges e he;simp only[hb,Bool.not_true,Bool.false_or]at this;have hlt:=hback i _ hio e he hb;rw[← hg e.on (by omega)];rw[Array.getD_eq_getD_getElem?,Array.getElem?_eq_getElem (by omega)]at this ⊢;simpa using this
   refine SZ hev hok hdst hS hio hSi hpred hI fun a' w' ν' hI' hx'=>?_;refine ih _ (fun j=>j==i||S j) ν' a' w' (by simpa using hl) (fun j hj=>?_) (fun j hj=>?_) (fun j oj hoj hj e he hb=>?_) ?_ hI' (hx.trans hx')
   ·by_cases hji:j=i
    ·subst hji;rw[Array.getD_eq_getD_getElem?,Array.getElem?_setIfInBounds_self_of_lt (by omega)];simp
    ·rw[Array.getD_eq_getD_getElem?,Array.getElem?_setIfInBounds_ne (fun e=>hji e.symm),← Array.getD_eq_getD_getElem?,hg j hj];simp[hji]
   ·have hne:¬j=i:=by omega
    simp[hne,hout j hj]
   ·simp only[Bool.or_eq_true,beq_iff_eq]at hj ⊢;rcases hj with rfl|hj
    ·rw[hio]at hoj;cases hoj;exact .inr (hpred e he hb)
    ·exact .inr (hS j oj hoj hj e he hb)
   ·rw[Yo hi hSi];omega
end
end Go.Eng
namespace Go.Eng
open Go.RowKit
structure Gr(lo:Nat)(M:Nat→Prop)(w w':World):Prop where
 os:w'.os=w.os
 tape:w'.tape=w.tape
 output:w'.output=w.output
 drawn:w'.drawn=w.drawn
 size:w'.heap.size=w.heap.size
 block:∀b,w'.heap[b]? =w.heap[b]?∨(lo≤b∧¬M b∧∃ds,w.heap[b]? =some (.deferred ds))
theorem Gr.refl(lo:Nat)(M:Nat→Prop)(w:World):Gr lo M w w:=⟨rfl,rfl,rfl,rfl,rfl,fun _=>.inl rfl⟩
theorem Gr.trans{lo:Nat}{M:Nat→Prop}{a b c:World}(h:Gr lo M a b)(k:Gr lo M b c):Gr lo M a c :=
 ⟨k.os.trans h.os,k.tape.trans h.tape,k.output.trans h.output,k.drawn.trans h.drawn,k.size.trans h.size,fun q=>by
  rcases h.block q with h1|h1
  ·rcases k.block q with h2|⟨h2,h3,ds,h4⟩
   ·exact .inl (h2.trans h1)
   ·exact .inr ⟨h2,h3,ds,h1▸h4⟩
  ·exact .inr h1⟩
theorem Gr.put{lo:Nat}{M:Nat→Prop}{w:World}{B:Nat}{ds:Option (List Deferred)}{o:Obj}(hl:lo≤B)(hM:¬M B)(h:w.heap[B]? =some (.deferred ds)):Gr lo M w (w.putObj B o) :=
 ⟨rfl,rfl,rfl,rfl,World.putObj_size,fun b=>by
  by_cases e:b=B
  ·subst e;exact .inr ⟨hl,hM,ds,h⟩
  ·exact .inl (World.putObj_heap_other e)⟩
theorem Gr.cell{lo:Nat}{M:Nat→Prop}{w w':World}(h:Gr lo M w w'){a:Addr}{v:Value}(hc:w.cell? a=some v):w'.cell? a=some v:=by
 rcases h.block a.block with h1|⟨_,_,ds,h1⟩
 ·rw[World.cell?_of_block h1];exact hc
 ·simp[World.cell?,h1]at hc
theorem Gr.mut{lo:Nat}{M:Nat→Prop}{w w':World}(h:Gr lo M w w'){b:Nat}(hM:M b):w'.heap[b]? =w.heap[b]? :=by
 rcases h.block b with h1|⟨_,h1,_⟩
 ·exact h1
 ·exact absurd hM h1
theorem Gr.low{lo:Nat}{M:Nat→Prop}{w w':World}(h:Gr lo M w w'){b:Nat}(hb:b<lo):w'.heap[b]? =w.heap[b]? :=by
 rcases h.block b with h1|⟨h1,_⟩
 ·exact h1
 ·omega
theorem An.book{lo:Nat}{M M':Nat→Prop}{w w':World}(hs:Gr lo M' w w'){d:D}{v:Value}(h:An w M d v):An w' M d v:=by
 induction h with
 |bool b=>exact .bool b
 |int k n=>exact .int k n
 |str s=>exact .str s
 |fn f=>exact .fn f
 |nilf=>exact .nilf
 |nilm=>exact .nilm
 |nilp=>exact .nilp
 |any h=>exact .any h
 |ptr val hb hM hc h1 _ ih=>exact .ptr val (by rw[hs.size];exact hb) hM hc (fun j d hd=>hs.cell (h1 j d hd)) ih
 |agg hl hc _ ih=>exact .agg hl hc ih
 |tup hl _ ih=>exact .tup hl ih
 |nils=>exact .nils
 |emp hm=>exact .emp hm
 |sl0=>exact .sl0
 |sl val hb hM' hc hm hsz h1 _ ih=>exact .sl val (fun hn=>by rw[hs.size];exact hb hn) hM' hc hm hsz (fun i x j d hx hd=>hs.cell (h1 i x j d hx hd)) ih
theorem A5.book{lo:Nat}{M M':Nat→Prop}{H:Nat→Option HO}{ν:Nat→Value}{used:Nat→Prop}{w w':World}(hs:Gr lo M' w w'){av:AV}{v:Value}(h:A5 w M H ν used av v):A5 w' M H ν used av v:=by
 induction h with
 |undef v=>exact .undef v
 |d h=>exact .d (h.book hs)
 |agg hl hc _ ih=>exact .agg hl hc ih
 |tup hl _ ih=>exact .tup hl ih
 |own hu h1 hc ha h=>exact .own hu h1 hc ha h
 |clip h=>exact .clip (h.book hs)
 |ref hu h=>exact .ref hu h
 |eref hu hi ho h=>exact .eref hu hi ho h
 |rv hu hc hl h=>exact .rv hu hc hl h
 |mref hu h=>exact .mref hu h
 |dref val hb hM hc h1 h2=>exact .dref val (by rw[hs.size];exact hb) hM hc (fun j d hd=>hs.cell (h1 j d hd)) (fun j d hd=>(h2 j d hd).book hs)
 |fn hl _ ih=>exact .fn hl ih
 |map hu h=>exact .map hu h
 |it hu h=>exact .it hu h
 |vs hu hc h=>exact .vs hu hc h
 |yld hu h=>exact .yld hu h
 |tab hu h1 hc ha h=>exact .tab hu h1 hc ha h
 |trow hu h1 hc ha h=>exact .trow hu h1 hc ha h
 |toref hu hi ho h=>exact .toref hu hi ho h
 |tref hu hi ho h=>exact .tref hu hi ho h
theorem At.book{X:DT}{H:Nat→Option HO}{ν:Nat→Value}{used:Nat→Prop}{w w':World}{lo:Nat}(hI:At X H ν used w)(hlo:X.base≤lo)(hs:Gr lo (Am X.M0 H ν) w w'):At X H ν used w':=by
 refine⟨⟨hI.below.lo.trans ⟨hs.os,hs.tape,hs.output,by rw[hs.size];exact Nat.le_refl _,fun k hk=>hs.low (by omega)⟩,by rw[hs.drawn];exact hI.below.drawn⟩,fun b hb=>by rw[hs.size];exact hI.M0 b hb,hI.far,hI.usd,fun k o b h1 h2=>by rw[hs.size];exact hI.blk k o b h1 h2,hI.inj,fun k o hk=>?_⟩;have hb:∀b,AL (ν k) b→w'.heap[b]? =w.heap[b]? :=fun b hb=>hs.mut (.inr ⟨k,o,hk,hb⟩);have hob:=hI.obj k o hk;generalize ν k=v at hob hb;cases o with
 |var cs =>
  obtain⟨b,cells,e,rfl,hg,hl,hc,hr⟩:=hob;exact⟨b,cells,e,rfl,by rw[hb b rfl];exact hg,hl,hc,fun i av u h1 h2=>(hr i av u h1 h2).book hs⟩
 |row e sz xs =>
  obtain⟨vals,ho,hz,hf,hr⟩:=hob;exact⟨vals,GW ho hb,hz,hf,fun i x j d hx hd=>let ⟨u,h1,h2⟩:=hr i x j d hx hd;⟨u,h1,h2.book hs⟩⟩
 |map kt et es =>
  obtain⟨r,entries,rfl,hg,hl,hr⟩:=hob;exact⟨r,entries,rfl,by rw[hb r rfl];exact hg,hl,fun i kd vd en h1 h2=>let ⟨a,b,c⟩:=hr i kd vd en h1 h2;⟨a,b.book hs,c.book hs⟩⟩
 |iter m c seen =>
  obtain⟨b,mr,rfl,hg,hu,hm⟩:=hob;exact⟨b,mr,rfl,by rw[hb b rfl];exact hg,hu,hm⟩
 |tab T rows q =>
  obtain⟨⟨vs,hv,hsz⟩,h1,h2,vals,ho,hr⟩:=hob;refine⟨⟨vs,hv,hsz⟩,h1,h2,vals,ho.keep (fun b h=>hb b (AY hv h)),fun i r hi=>?_⟩;obtain⟨a1,a2,a3,a4⟩:=hr i r hi;refine⟨a1,fun hq=>?_,a3,fun j d hj hd=>?_⟩
  ·obtain⟨b1,us,b2,b3⟩:=a2 hq;exact⟨b1,us,b2.keep (fun b h=>hb b (AY hv h)),fun i x j d hx hd=>let ⟨u,h1,h2⟩:=b3 i x j d hx hd;⟨u,h1,h2.book hs⟩⟩
  ·obtain⟨u,hu,hr⟩:=a4 j d hj hd;exact⟨u,hu,hr.book hs⟩
 |loop Y cs st =>
  obtain⟨l,lr,rfl,hg,h1,h2,hl,hr⟩:=hob;exact⟨l,lr,rfl,by rw[hb l rfl];exact hg,h1,h2,hl,fun n av h1=>(hr n av h1).book hs⟩
theorem CT.book{M M':Nat→Prop}{H H':Nat→Option HO}{ν ν':Nat→Value}{used used':Nat→Prop}{w w1 w2:World}{M2:Nat→Prop}(h:CT M H ν used w M' H' ν' used' w1)(hs:Gr w.heap.size M2 w1 w2):CT M H ν used w M' H' ν' used' w2 :=
 ⟨⟨by rw[hs.size];exact h.same.size,fun b hb hM=>by rw[hs.low hb];exact h.same.block b hb hM⟩,h.shrink,h.usd,h.obj,⟨by rw[hs.size];exact h.sameO.size,fun b hb hM=>by rw[hs.low hb];exact h.sameO.block b hb hM⟩,h.shrinkO⟩
theorem J7.leave{P:Program}{fn:Func}{tmps:Array Value}{R:Ending→World→Prop}{lo:Nat}{M:Nat→Prop}:∀(ds:List Deferred) (w:World),J7 lo w M ds →
 (∀w',Gr lo M w w'→∃v,(results fn tmps).run P w'= .ok v w'∧R (.returned v) w')→LeavesInM Fence.wide 0 P fn tmps R ds .returning w
 | [],w,_,h=>h w (Gr.refl _ _ _)
 |d::ds,w,hm,h=>by
  obtain⟨hs,⟨B,rfl,h1,h2,h3⟩,hn,hr⟩:=hm;have hb:=Gr.put (o:=.deferred none) h1 h3 h2;refine⟨by simp,.inl ⟨B,w.putObj B (.deferred none),rfl,run_takeDeferred h2,J7.leave ds _ ⟨by rw[hb.size];exact hs,?_⟩ fun w' hw=>h w' (hb.trans hw)⟩⟩;clear h;induction ds with
  |nil=>trivial
  |cons d ds ih =>
   obtain⟨⟨B',rfl,g1,g2,g3⟩,gn,gr⟩:=hr;simp only[List.mem_cons,not_or]at hn;refine⟨⟨B',rfl,g1,?_,g3⟩,gn,ih hn.2 gr⟩;rw[World.putObj_heap_other (fun e=>hn.1 (by rw[e]))];exact g2
end Go.Eng
namespace Go.Eng
open Go.RowKit
structure St where
 E:BP
 hp:Aa
 c:Nat
structure fH where
 M:Nat→Prop
 H:Nat→Option HO
 ν:Nat→Value
 c:Nat
 w:World
structure Sp where
 X:DT
 N:Nat
 R:fH
 rd:Option Nat:=none
def FH(S:Sp)(s:St)(a:Act)(w:World):Prop :=
 S.R.c≤s.c∧∃ν,Dv S.X S.N s.E (lk s.hp) ν (·< s.c) a w∧CT S.R.M S.R.H S.R.ν (·< S.R.c) S.R.w (Am S.X.M0 (lk s.hp) ν) (lk s.hp) ν (·< s.c) w
def WP(P:Program)(S:Sp)(code:Code)(s:St)(Q:Exit→St→Prop):Prop :=
 ∀a w,FH S s a w→code.wpIn (FR S.rd) 0 P (fun e a' w'=>∃s',FH S s' a' w'∧Q e s') a w
section
variable {P:Program} {S:Sp} {s:St} {Q:Exit→St→Prop}
theorem UA{code:Code}{Q':Exit→St→Prop}(h:WP P S code s Q')(hq:∀e s,Q' e s→Q e s):WP P S code s Q :=
 fun a w hr=>wpIn_mono (h a w hr) fun e a' w' ⟨s',h1,h2⟩=>⟨s',h1,hq _ _ h2⟩
theorem B5(h:Q .normal s):WP P S .skip s Q:=fun a w hr=>wpIn_skip ⟨s,hr,h⟩
theorem AH{l:Nat}(h:Q .normal s):WP P S (.label l) s Q:=fun a w hr=>wpIn_label ⟨s,hr,h⟩
theorem B4{i:Nat}(h:Q (.exit i) s):WP P S (.exit i) s Q:=fun a w hr=>wpIn_exit ⟨s,hr,h⟩
theorem Bz(h:Q .ret s):WP P S .ret s Q:=fun a w hr=>wpIn_ret ⟨s,hr,h⟩
def Ko(K:St→Prop)(Q:Exit→St→Prop):Exit→St→Prop
 |.normal,s=>K s
 |e,s=>Q e s
theorem Bu{x y:Code}(h:WP P S x s (Ko (fun s'=>WP P S y s' Q) Q)):WP P S (.seq x y) s Q:=fun a w hr =>
 wpIn_seq (wpIn_mono (h a w hr) fun e a' w' ⟨s',h1,h2⟩=>by cases e<;>first|exact h2 a' w' h1|exact⟨s',h1,h2⟩)
theorem Pe{c:Operand}{x y:Code}{b:Bool}(hc:opnd s.E c= .d (.bool b))(h:WP P S (if b then x else y) s Q):WP P S (.cond c x y) s Q:=fun a w hr=>by
 obtain⟨hle,ν,hI,hx⟩:=hr;have ho:=hI.opnd c;rw[hc]at ho;generalize hv:a.eval c=v at ho;cases ho with
 |d ho=>cases ho;exact wpIn_cond hv (h a w ⟨hle,ν,hI,hx⟩)
theorem Ok{c:Operand}{x y:Code}{b:Bool}(hc:opnd s.E c= .d (.bool b))(ht:b=true→WP P S x s Q)(hf:b=false→WP P S y s Q):WP P S (.cond c x y) s Q :=
 Pe hc (by cases b;exact hf rfl;exact ht rfl)
def HZ(i:Nat)(Q:Exit→St→Prop):Exit→St→Prop
 |.exit j,s=>if j=i then Q .normal s else Q (.exit j) s
 |e,s=>Q e s
theorem AG{i:Nat}{x:Code}(h:WP P S x s (HZ i Q)):WP P S (.block i x) s Q:=fun a w hr =>
 wpIn_block (wpIn_mono (h a w hr) fun e a' w' ⟨s',h1,h2⟩=>by
  cases e<;>try exact⟨s',h1,h2⟩
  simp only[HZ]at h2;simp only[Exit.inBlock];split
  ·rename_i e;rw[if_pos e]at h2;exact⟨s',h1,h2⟩
  ·rename_i e;rw[if_neg e]at h2;exact⟨s',h1,h2⟩)
theorem Tw{α:Type}(st:α→St)(μ:α→Nat)(x0:α)(h0:st x0=s){body:Code}(round:∀x,WP P S body (st x) (Ko (fun s'=>∃y,st y=s'∧μ y<μ x) Q)):WP P S (.loop body) s Q:=by
 subst h0;intro a w hr;intro b k cs hro hb hrm;have key:∀n x a w,μ x=n→FH S (st x) a w→∃e a' w',(∃s',FH S s' a' w'∧Q e s')∧ArrivesIn (Machine.fenced P (FR S.rd)) P (lone (b.atR a (.code body::.inLoop body::k)) cs w) b k cs e a' w':=by
  intro n;induction n using Nat.strongRecOn with
  |_ n ih =>
   intro x a w hn hr;obtain⟨e,a1,w1,⟨s',hr',hq⟩,harr⟩:=round x a w hr b (.inLoop body::k) cs hro hb hrm;cases e with
   |normal =>
    obtain⟨y,rfl,hlt⟩:=hq;obtain⟨e2,a2,w2,hq2,harr2⟩:=ih (μ y) (hn▸hlt) y a1 w1 rfl hr';exact⟨e2,a2,w2,hq2,.of_steps (StepsIn.trans harr (.one (fenced_calm hb hrm rfl) stepR_inLoop)) harr2⟩
   |exit id=>exact⟨_,a1,w1,⟨s',hr',hq⟩,.pass (x:=.inLoop body) rfl (fun _ _=>.inl (by simp)) harr⟩
   |goto l=>exact⟨_,a1,w1,⟨s',hr',hq⟩,.pass (x:=.inLoop body) rfl (fun _ _=>.inl (by simp)) harr⟩
   |ret=>exact⟨_,a1,w1,⟨s',hr',hq⟩,.pass (x:=.inLoop body) rfl (fun _ _=>.inl (by simp)) harr⟩
   |panic ch=>exact⟨_,a1,w1,⟨s',hr',hq⟩,.pass (x:=.inLoop body) rfl (fun _ _=>.inl (by simp)) harr⟩
   |outgrown=>exact⟨_,a1,w1,⟨s',hr',hq⟩,.pass (x:=.inLoop body) rfl (fun _ _=>.inl (by simp)) harr⟩
 obtain⟨e,a',w',hq,harr⟩:=key _ x0 a w rfl hr;exact⟨e,a',w',hq,.of_steps (.one (fenced_calm hb hrm rfl) stepR_loop) harr⟩
theorem UC{id:Nat}{ops:Array Oper}{outs:List EX}{E':BP}{hp':Aa}(hev:Ev P ops s.c 0 ops.toList s.E s.hp outs E' hp')(hd:I4 S.N ops.toList=true)
 (h:Q .normal ⟨E',hp',s.c+ops.size⟩):WP P S (.region id ops false) s Q:=fun a w ⟨hle,ν,hI,hx⟩=>by
 refine wpIn_region_list (Ev.list (N:=S.N) (X:=S.X) ops.toList 0 _ _ _ _ _ ν a w hd (by simpa using hI) hev fun a' w' ν' h1 h2=>?_);simp only[Nat.add_zero,Array.length_toList]at h1 h2;exact⟨⟨E',hp',s.c+ops.size⟩,⟨Nat.le_trans hle (Nat.le_add_right _ _),ν',h1,hx.trans h2⟩,h⟩
theorem Y2{id:Nat}{ops:Array Oper}{outs:List EX}{E':BP}{hp':Aa}(hm:P.follows .mixedOrders=true)(hev:Ev P ops s.c 0 ops.toList s.E s.hp outs E' hp')(hd:I4 S.N ops.toList=true)
 (hok:AM ops (outs.map Ad)=true) (h:Q .normal ⟨E',hp',s.c+ops.size⟩):WP P S (.region id ops true) s Q:=fun a w ⟨hle,ν,hI,hx⟩=>by
 refine wpIn_region_any hm ?_;have hdrew:Bl w.heap.size w w.drew:=(Bl.refl _ _).drew;obtain⟨i1,x1⟩:=hI.heap.world hdrew;have hI1:Dv S.X S.N s.E (lk s.hp) ν (·< s.c) a w.drew:=⟨i1,fun n av hn=>(hI.env n av hn).ext x1,hI.size,hI.defers.mono x1.same x1.shrink⟩
 have none:∀(l:List EX) (q:Nat) (E:BP) (hp:Aa),B0 (fun _=>false) q l E hp=(E,hp):=by
  intro l;induction l with
  |nil=>intro q E hp;rfl
  |cons x l ih=>intro q E hp;simp[B0,ih]
 have hu:∀k,(k<s.c)↔FE s.c ops.size (fun _=>false) k:=fun k=>⟨fun h=>.inl h,fun h=>by rcases h with h|⟨_,_,h,_⟩;exact h;cases h⟩
 have huf:(fun k=>k<s.c)=FE s.c ops.size (fun _=>false):=funext fun k=>propext (hu k);refine Ev.any (X:=S.X) (N:=S.N) hev hok hd (M0:=S.R.M) (H0:=S.R.H) (ν0:=S.R.ν) (u0:=(·< S.R.c)) (w0:=S.R.w) (fun a' w' ν' h1 h2=>?_) ops.size (Array.replicate ops.size false) (fun _=>false) ν a w.drew (by simp) (fun i hi=>?_) (fun _ _=>rfl)
  (fun j o _ h=>by cases h) (by simp[cnt]) ?_ ?_
 ·exact⟨⟨E',hp',s.c+ops.size⟩,⟨Nat.le_trans hle (Nat.le_add_right _ _),ν',h1,h2⟩,h⟩
 ·rw[Array.getD_eq_getD_getElem?];simp[hi]
 ·rw[none];exact hI1.usedEq hu
 ·rw[none,← huf];exact hx.trans x1
mutual
def AV.kb(c:Nat):AV→Bool
 |.own k _=>decide (k<c)| .ref k _=>decide (k<c)| .eref k _ _ _ _=>decide (k<c)| .map k=>decide (k<c)| .it k=>decide (k<c)| .yld k=>decide (k<c)| .vs k _ _=>decide (k<c)
 |.tab k _=>decide (k<c)| .trow k _ _=>decide (k<c)| .toref k _ _ _ _=>decide (k<c)| .tref k _ _ _ _ _=>decide (k<c)| .rv k _ _ _ _=>decide (k<c)| .mref _ k _=>decide (k<c)
 |.agg fs=>VY c fs| .tup fs=>VY c fs| .fn _ fs=>VY c fs
 |.undef=>true| .d _=>true| .clip .. => true| .dref _=>true
def VY(c:Nat):List AV→Bool
 | []=>true
 |a::az=>a.kb c&&VY c az
end
mutual
theorem A5.restrict{w:World}{M:Nat→Prop}{H:Nat→Option HO}{ν:Nat→Value}{used:Nat→Prop}{c:Nat}:∀(av:AV) (v:Value),A5 w M H ν used av v→av.kb c=true→A5 w M H ν (·< c) av v
 |.own k n,v,h,hb=>by cases h with|own hu h1 hc ha h=>exact .own (by simpa[AV.kb]using hb) h1 hc ha h
 |.ref k o,v,h,hb=>by cases h with|ref hu h=>exact .ref (by simpa[AV.kb]using hb) h
 |.eref k n i sz o,v,h,hb=>by cases h with|eref hu hi ho h=>exact .eref (by simpa[AV.kb]using hb) hi ho h
 |.rv k n l m s,v,h,hb=>by cases h with|rv hu hc hl h=>exact .rv (by simpa[AV.kb]using hb) hc hl h
 |.mref f k o,v,h,hb=>by cases h with|mref hu h=>exact .mref (by simpa[AV.kb]using hb) h
 |.map k,v,h,hb=>by cases h with|map hu h=>exact .map (by simpa[AV.kb]using hb) h
 |.it k,v,h,hb=>by cases h with|it hu h=>exact .it (by simpa[AV.kb]using hb) h
 |.vs k o n,v,h,hb=>by cases h with|vs hu hc h=>exact .vs (by simpa[AV.kb]using hb) hc h
 |.agg fs,v,h,hb=>by cases h with|agg hl hc h=>exact .agg hl hc (A5.restricts fs _ h (by simpa[AV.kb]using hb))
 |.tup fs,v,h,hb=>by cases h with|tup hl h=>exact .tup hl (A5.restricts fs _ h (by simpa[AV.kb]using hb))
 |.fn f fs,v,h,hb=>by cases h with|fn hl h=>exact .fn hl (A5.restricts fs _ h (by simpa[AV.kb]using hb))
 |.yld k,v,h,hb=>by cases h with|yld hu h=>exact .yld (by simpa[AV.kb]using hb) h
 |.tab k n,v,h,hb=>by cases h with|tab hu h1 hc ha h=>exact .tab (by simpa[AV.kb]using hb) h1 hc ha h
 |.trow k i n,v,h,hb=>by cases h with|trow hu h1 hc ha h=>exact .trow (by simpa[AV.kb]using hb) h1 hc ha h
 |.toref k n i sz o,v,h,hb=>by cases h with|toref hu hi ho h=>exact .toref (by simpa[AV.kb]using hb) hi ho h
 |.tref k i m j sz o,v,h,hb=>by cases h with|tref hu hi ho h=>exact .tref (by simpa[AV.kb]using hb) hi ho h
 |.undef,v,h,hb=>.undef v
 |.d x,v,h,hb=>by cases h with|d h=>exact .d h
 |.clip s x,v,h,hb=>by cases h with|clip h=>exact .clip h
 |.dref f,v,h,hb=>by cases h with|dref val h1 h2 h3 h4 h5=>exact .dref val h1 h2 h3 h4 h5
theorem A5.restricts{w:World}{M:Nat→Prop}{H:Nat→Option HO}{ν:Nat→Value}{used:Nat→Prop}{c:Nat}:∀(fs:List AV) (cs:List Value),(∀(i:Nat) d v,fs[i]? =some d→cs[i]? =some v→A5 w M H ν used d v)→VY c fs=true →
 ∀(i:Nat) d v,fs[i]? =some d→cs[i]? =some v→A5 w M H ν (·< c) d v
 | [],cs,h,hb,i,dd,v,hd,hv=>by simp at hd
 |a::az,cs,h,hb,i,dd,v,hd,hv=>by
  simp only[VY,Bool.and_eq_true]at hb;cases i with
  |zero=>simp at hd;subst hd;exact A5.restrict a v (h 0 a v rfl hv) hb.1
  |succ i =>
   cases cs with
   |nil=>simp at hv
   |cons u cs=>exact A5.restricts az cs (fun j d v h1 h2=>h (j+1) d v (by simpa using h1) (by simpa using h2)) hb.2 i dd v (by simpa using hd) (by simpa using hv)
end
def AC{α:Type}(l:List (Nat×α)):List Nat→List (Nat×α)
 | []=>[]
 |n::ns=>match lk l n with
  |some a=>(n,a)::AC l ns
  |none=>AC l ns
theorem Fy{α:Type}{l:List (Nat×α)}:∀{ns:List Nat} {n:Nat} {a:α},lk (AC l ns) n=some a→lk l n=some a
 | [],n,a,h=>by simp[AC,lk]at h
 |m::ns,n,a,h=>by
  simp only[AC]at h;split at h
  ·rename_i b hb;simp only[lk]at h;split at h
   ·rename_i e;subst e;rw[hb];exact h
   ·exact Fy h
  ·exact Fy h
def Fs(c:Nat)(E:BP):Bool:=E.all fun p=>p.2.kb c
def IE(c:Nat):HO→Bool
 |.var cs=>VY c cs
 |.row .. => true
 |.map .. => true
 |.iter m _ _=>decide (m<c)
 |.loop _ cs _=>Fs c cs
 |.tab .. => true
def F8(c:Nat)(hp:Aa):Bool:=hp.all fun p=>decide (p.1<c)&&IE c p.2
theorem At.sub{X:DT}{H H':Nat→Option HO}{ν:Nat→Value}{used:Nat→Prop}{w:World}(hI:At X H ν used w)(hsub:∀q o,H' q=some o→H q=some o) :
 At X H' ν used w∧CT (Am X.M0 H ν) H ν used w (Am X.M0 H' ν) H' ν used w:=by
 have hx:CT (Am X.M0 H ν) H ν used w (Am X.M0 H' ν) H' ν used w :=
  ⟨Bi.refl _ _,fun b _ h=>by
   rcases h with h|⟨q,o,hq,hb⟩
   ·exact .inl h
   ·exact .inr ⟨q,o,hsub _ _ hq,hb⟩,fun _ h=>h,fun q _ o ho=>⟨o,hsub _ _ ho,HO.later.refl _,HO.keeps_of⟩,Bi.refl _ _,fun b _ ⟨q,o,hq,hb⟩=>⟨q,o,hsub _ _ hq,hb⟩⟩
 exact⟨⟨hI.below,hI.M0,fun q o b hq hb=>hI.far _ _ _ (hsub _ _ hq) hb,fun q o hq=>hI.usd _ _ (hsub _ _ hq),fun q o b hq hb=>hI.blk _ _ _ (hsub _ _ hq) hb,fun q q' o o' b h h'=>hI.inj _ _ _ _ _ (hsub _ _ h) (hsub _ _ h'),
  fun q o hq=>(hI.obj _ _ (hsub _ _ hq)).ext hx (fun _ _=>rfl)⟩,hx⟩
theorem FH.keep{a:Act}{w:World}(h:FH S s a w)(ns ks:List Nat)(c:Nat)(hc:S.R.c≤c)(hE:Fs c (AC s.E ns)=true)(hH:F8 c (AC s.hp ks)=true):FH S ⟨AC s.E ns,AC s.hp ks,c⟩ a w:=by
 obtain⟨hle,ν,hI,hx⟩:=h;have hsub:∀q o,lk (AC s.hp ks) q=some o→lk s.hp q=some o:=fun q o h=>Fy h;obtain⟨i1,x1⟩:=hI.heap.sub hsub;have hkb:∀q o,lk (AC s.hp ks) q=some o→q<c∧IE c o=true:=fun q o h=>by
  have:=List.all_eq_true.1 hH _ (Gy h);simpa using this
 refine⟨hc,ν,⟨⟨i1.below,i1.M0,i1.far,fun q o hq=>(hkb q o hq).1,i1.blk,i1.inj,fun q o hq=>?_⟩,fun n av hn=>?_,hI.size,hI.defers.mono x1.same x1.shrink⟩,?_⟩
 ·have hob:=i1.obj q o hq;cases o with
  |var cs =>
   obtain⟨b,cells,e,h1,h2,h3,h4,h5⟩:=hob;have hcs:VY c cs=true:=(hkb q _ hq).2;exact⟨b,cells,e,h1,h2,h3,h4,fun i av u ha hu=>A5.restricts cs cells.toList (fun i d v hd hv=>h5 i d v hd (by simpa using hv)) hcs i av u ha (by simpa using hu)⟩
  |row e sz xs=>exact hob
  |tab _ _ _=>exact hob
  |map _ _ _=>exact hob
  |iter m c' seen =>
   obtain⟨b,mr,h1,h2,hu,hm⟩:=hob;exact⟨b,mr,h1,h2,by have:=(hkb q _ hq).2;simpa[IE]using this,hm⟩
  |loop Y cs st =>
   obtain⟨l,lr,h1,h2,h3,h4,h5,h6⟩:=hob;have hcs:Fs c cs=true:=(hkb q _ hq).2;exact⟨l,lr,h1,h2,h3,h4,h5,fun n av hn=>A5.restrict av _ (h6 n av hn) (by simpa using List.all_eq_true.1 hcs _ (Gy hn))⟩
 ·have hb:=List.all_eq_true.1 hE _ (Gy hn);exact A5.restrict av _ ((hI.env n av (Fy hn)).ext x1) (by simpa using hb)
 ·have x2:=hx.trans x1;exact⟨x2.same,x2.shrink,fun k hk=>Nat.lt_of_lt_of_le hk hc,x2.obj,x2.sameO,x2.shrinkO⟩
theorem Tv{code:Code}(ns ks:List Nat)(c:Nat)(hc:S.R.c≤c)(hE:Fs c (AC s.E ns)=true)(hH:F8 c (AC s.hp ks)=true)(h:WP P S code ⟨AC s.E ns,AC s.hp ks,c⟩ Q):WP P S code s Q :=
 fun a w hr=>h a w (hr.keep ns ks c hc hE hH)
def Oe(P:Program)(s:St):ResultVar→Option AV
 |.tmp t=>some (opnd s.E (.tmp t))
 |.cell a t=>match G1 P (lk s.hp) t (opnd s.E (.tmp a))with|some (x,_)=>some x|none=>none
def GY(P:Program)(s:St):List ResultVar→Option (List AV)
 | []=>some []
 |r::rs=>match Oe P s r with
  |some x=>match GY P s rs with
   |some xs=>some (x::xs)
   |none=>none
  |none=>none
def Kc(P:Program)(s:St)(rs:List ResultVar):Option D :=
 match GY P s rs with
 |some [x]=>match Cz (lk s.hp) x with|some (d,_)=>some d|none=>none
 |some xs=>match FN (lk s.hp) xs with|some (ds,_)=>some (.tup ds)|none=>none
 |none=>none
def L6(a:Act):ResultVar→Sem Value
 |.tmp t=>pure (a.tmps.getD t undef)
 |.cell q t=>do loadVar t (← asAddr (a.tmps.getD q undef))
theorem T6(fn:Func)(a:Act):results fn a.tmps=(fn.results.mapM (L6 a) >>= fun vs=>pure (if h:vs.size=1 then vs[0]else .tuple vs)):=by
 unfold results;congr 2
def OQ:List Value→Value
 | [v]=>v
 |vs=>.tuple vs.toArray
theorem Xn{a:Act}{w:World}{X:DT}{N:Nat}{ν:Nat→Value}{u:Nat→Prop}(hI:Dv X N s.E (lk s.hp) ν u a w){r:ResultVar}{x:AV}(h:Oe P s r=some x) :
 ∃v,(L6 a r).run P w= .ok v w∧A5 w (Am X.M0 (lk s.hp) ν) (lk s.hp) ν u x v:=by
 cases r with
 |tmp t=>simp[Oe]at h;subst h;exact⟨_,rfl,hI.opnd (.tmp t)⟩
 |cell q t =>
  simp only[Oe]at h;split at h
  ·rename_i x' acc hl;simp at h;subst h;obtain⟨v,hr,hv⟩:=JY hI.heap (hI.opnd (.tmp q)) hl;refine⟨v,?_,hv⟩;have he:a.eval (.tmp q)=a.tmps.getD q undef:=rfl;rw[he]at hr;show(asAddr (a.tmps.getD q undef) >>= fun x=>loadVar t x).run P w=_;generalize a.tmps.getD q undef=u at hr ⊢;cases u<;>simp only[Instr.loadAt,Instr.sureAddr,Sem.run_bind,run_stuck,Result.andThen_halt]at hr<;>try (cases hr;done)
   rename_i ao;cases ao<;>simp only[run_stuck,Result.andThen_halt,Sem.run_pure,Result.andThen_ok]at hr<;>try (cases hr;done)
   simpa[asAddr]using hr
  ·cases h
theorem IO{a:Act}{w:World}{X:DT}{N:Nat}{ν:Nat→Value}{u:Nat→Prop}(hI:Dv X N s.E (lk s.hp) ν u a w):∀(rs:List ResultVar) (xs:List AV),GY P s rs=some xs →
 ∃vs,(rs.mapM (L6 a):Sem (List Value)).run P w= .ok vs w∧xs.length=vs.length ∧
  ∀(i:Nat) d v,xs[i]? =some d→vs[i]? =some v→A5 w (Am X.M0 (lk s.hp) ν) (lk s.hp) ν u d v
 | [],xs,h=>by simp[GY]at h;subst h;exact⟨[],by simp,rfl,fun i d v hd=>by simp at hd⟩
 |r::rs,xs,h=>by
  simp only[GY]at h;split at h
  ·rename_i x hx;split at h
   ·rename_i xs' hxs;simp at h;subst h;obtain⟨v,h1,h2⟩:=Xn hI hx;obtain⟨vs,h3,h4,h5⟩:=IO hI rs xs' hxs;refine⟨v::vs,?_,by simp[h4],fun i d u hd hu=>?_⟩
    ·rw[List.mapM_cons];simp only[Sem.run_bind,h1,Result.andThen_ok,h3,Sem.run_pure]
    ·cases i with
     |zero=>simp at hd hu;subst hd;subst hu;exact h2
     |succ i=>exact h5 i d u (by simpa using hd) (by simpa using hu)
   ·cases h
  ·cases h
theorem Ih{fn:Func}{rs:List ResultVar}(hrs:fn.results=rs.toArray){a:Act}{w:World}{vs:List Value}
 (h:(rs.mapM (L6 a):Sem (List Value)).run P w= .ok vs w) :
 (results fn a.tmps).run P w= .ok (OQ vs) w:=by
 rw[T6,hrs];have e:(rs.toArray.mapM (L6 a):Sem (Array Value))=List.toArray <$> (rs.mapM (L6 a)):=by
  rw[Array.mapM_eq_mapM_toList]
 simp only[Sem.run_bind];rw[e,Sem.run_map,h];simp only[Result.andThen_ok,Sem.run_pure]
 match vs with
 | []=>simp[OQ]
 | [v]=>simp[OQ]
 |v::u::vs=>simp[OQ]
theorem Xo{a:Act}{w:World}{X:DT}{N:Nat}{ν:Nat→Value}{u:Nat→Prop}(hI:Dv X N s.E (lk s.hp) ν u a w){fn:Func}{rs:List ResultVar}(hrs:fn.results=rs.toArray){d:D}(h:Kc P s rs=some d) :
 ∃v,(results fn a.tmps).run P w= .ok v w∧An w X.M0 d v:=by
 have sub:∀{ks:List Nat} {d:D} {v:Value},An w (Am X.M0 (lk (Bq s.hp ks)) ν) d v→An w X.M0 d v:=fun h=>h.mono (Bi.refl _ _) (fun b _ hb=>.inl hb);unfold Kc at h;split at h
 ·rename_i x hx;split at h
  ·rename_i d' ks hd;simp at h;subst h;obtain⟨vs,h1,h2,h3⟩:=IO hI rs [x] hx;cases vs with
   |nil=>simp at h2
   |cons v vs =>
    have:vs=[]:=List.eq_nil_of_length_eq_zero (by simpa using h2.symm);subst this;exact⟨_,Ih hrs h1,sub (DJ hI.heap (h3 0 x v rfl rfl) hd)⟩
  ·cases h
 ·rename_i xs hne hx;split at h
  ·rename_i ds ks hd;simp at h;subst h;obtain⟨vs,h1,h2,h3⟩:=IO hI rs xs hx;obtain⟨l1,l2⟩:=G8 hI.heap (Am.dels_sub (ks:=ks)) xs vs ds ks h2 h3 hd (hI.heap.notMut (Fd _ _ _ hd));refine⟨_,Ih hrs h1,?_⟩;have hv:OQ vs=Value.tuple vs.toArray:=by
    match vs,h2 with
    | [],_=>rfl
    | [v],h2=>cases xs with
      |nil=>simp at h2
      |cons x xs =>
       have:xs=[]:=List.eq_nil_of_length_eq_zero (by simpa using h2);subst this;exact absurd rfl (hne x)
    |_::_::_,_=>rfl
   rw[hv];exact sub (.tup l1 l2)
  ·cases h
 ·cases h
def HL(ds:List D):BP:=(ds.zipIdx).map fun p=>(p.2,.d p.1)
theorem WI{ds:List D}{n:Nat}{av:AV}(h:lk (HL ds) n=some av):∃d,ds[n]? =some d∧av= .d d:=by
 have gen:∀(ds:List D) (k:Nat),lk ((ds.zipIdx k).map fun p=>(p.2,AV.d p.1)) n=some av→∃d,k≤n∧ds[n-k]? =some d∧av= .d d:=by
  intro ds;induction ds with
  |nil=>intro k hh;simp[lk]at hh
  |cons d ds ih =>
   intro k hh;simp only[List.zipIdx_cons,List.map_cons,lk]at hh;by_cases e:k=n
   ·rw[if_pos e]at hh;simp at hh;exact⟨d,by omega,by rw[e];simp,hh.symm⟩
   ·rw[if_neg e]at hh;obtain⟨d',h1,h2,h3⟩:=ih (k+1) hh;refine⟨d',by omega,?_,h3⟩;rw[show n-k=(n-(k+1))+1 from by omega];simpa using h2
 obtain⟨d,_,h1,h2⟩:=gen ds 0 h;exact⟨d,by simpa using h1,h2⟩
def fk(X:DT)(N:Nat)(w:World):Sp:=⟨X,N,⟨X.M0,fun _=>none,fun _=>undef,0,w⟩,none⟩
theorem A3.of {g : FuncId} {fn : Func} {code : Code} {rs : List ResultVar} {ds : List D} {r : D} (hf : P.funcs[g]? = some fn) (hb : fn.body = some code) (hn : (fn.name == "runtime.NumGoroutine") = false) (hrs : fn.results = rs.toArray) (hnt : ds.length ≤ fn.ntmps)
 (h:∀X w,WP P (fk X fn.ntmps w) code ⟨HL ds,[],0⟩ (fun e s=>(e= .normal∨e= .ret)∧Kc P s rs=some r)):A3 P g ds r:=by
 intro w M vs hW hM hl hv;right;refine⟨?_,?_⟩
 · have hn' : ¬ fn.name = "runtime.NumGoroutine" := by simpa using hn
   simp[callFunc,hf,hn',hb]
 ·refine callsIn_wide.1 (callsIn_of_wp_marks (F:=Fence.wide) (n:=0) hf hb trivial ?_);have hI:Dv ⟨w,M,w.heap.size,hW⟩ fn.ntmps (HL ds) (lk []) (fun _=>undef) (·< 0) { tmps:=vs.toArray++Array.replicate (fn.ntmps-vs.toArray.size) undef,defers:=[] } w:=by
   refine⟨⟨Bl.refl _ _,hM,fun k o b h=>by simp[lk]at h,fun k o h=>by simp[lk]at h,fun k o b h=>by simp[lk]at h,fun k k' o o' b h=>by simp[lk]at h,fun k o h=>by simp[lk]at h⟩,fun n av hn=>?_,by simp;omega,Nat.le_refl _,trivial⟩;obtain⟨d,hd,rfl⟩:=WI hn;have hlt:=(List.getElem?_eq_some_iff.1 hd).1;have hvn:=List.getElem?_eq_getElem (l:=vs) (i:=n) (by omega);have:=hv n d _ hd hvn;have e:(vs.toArray++Array.replicate (fn.ntmps-vs.toArray.size) undef).getD n undef=vs[n]'(by omega):=by
    rw[Array.getD_eq_getD_getElem?,Array.getElem?_append_left (by simp;omega)];simp[hvn]
   simp only;rw[e];exact .d (this.mono (Bi.refl _ _) (fun b _ hb=>by
    rcases hb with hb|⟨k,o,hk,_⟩
    ·exact hb
    ·simp[lk]at hk))
  refine wpIn_mono (h ⟨w,M,w.heap.size,hW⟩ w _ w ⟨Nat.le_refl _,fun _=>undef,hI,⟨Bi.refl _ _,fun b _ hb=>by
   rcases hb with hb|⟨k,o,hk,_⟩
   ·exact hb
   ·simp[lk]at hk,fun _ h=>h,fun k hk=>absurd hk (Nat.not_lt_zero _),Bi.refl _ _,fun b _ ⟨k,o,hk,_⟩=>by simp[lk]at hk⟩⟩) ?_
  rintro e a' w' ⟨s',⟨hle,ν,hI',hx⟩,he,hres⟩;have key:LeavesInM Fence.wide 0 P fn a'.tmps (fun e w'=>∃v,e= .returned v∧An w' M r v∧Bl w.heap.size w w') a'.defers .returning w':=by
   refine J7.leave _ _ hI'.defers fun w2 hb=>?_;have hI2:Dv ⟨w,M,w.heap.size,hW⟩ fn.ntmps s'.E (lk s'.hp) ν (·< s'.c) { tmps:=a'.tmps,defers:=[] } w2 :=
    ⟨hI'.heap.book (Nat.le_refl _) hb,fun n av hn=>(hI'.env n av hn).book hb,hI'.size,by rw[hb.size];exact hI'.defers.1,trivial⟩
   obtain⟨v,hr,hv⟩:=Xo hI2 hrs hres;exact⟨v,hr,v,rfl,hv,hI2.heap.below⟩
  rcases he with rfl|rfl
  ·exact key
  ·exact key
end
end Go.Eng
namespace Go.Eng
open Go.RowKit
section
variable {P:Program} {S:Sp} {s:St} {Q:Exit→St→Prop} {K:St→Prop}
theorem FH.more{E:BP}{hp:Aa}{c c':Nat}{a:Act}{w:World}(h:FH S ⟨E,hp,c⟩ a w)(hc:c≤c'):FH S ⟨E,hp,c'⟩ a w:=by
 obtain⟨hle,ν,hI,hx⟩:=h;have hI2:=hI.heap.used_mono (used':=(·< c')) (fun k hk=>Nat.lt_of_lt_of_le hk hc) (fun k _ hn=>by
  cases ho:lk hp k with
  |none=>rfl
  |some o=>exact absurd (hI.heap.usd _ _ ho) hn)
 have x2:CT (Am S.X.M0 (lk hp) ν) (lk hp) ν (·< c) w (Am S.X.M0 (lk hp) ν) (lk hp) ν (·< c') w :=
  ⟨Bi.refl _ _,fun _ _ h=>h,fun k hk=>Nat.lt_of_lt_of_le hk hc,fun q _ o ho=>⟨o,ho,HO.later.refl _,HO.keeps_of⟩,Bi.refl _ _,fun _ _ h=>h⟩
 exact⟨Nat.le_trans hle hc,ν,⟨hI2,fun n av hn=>(hI.env n av hn).ext x2,hI.size,hI.defers.mono x2.same x2.shrink⟩,hx.trans x2⟩
theorem DX{id:Nat}{l:List Oper}{E:BP}{hp:Aa}{c:Nat}{outs:List EX}{E':BP}{hp':Aa}{N:Nat}(hN:S.N=N)(hd:(I4 N l&&Nat.ble l.length 1000)=true){c':Nat}(hc:c+1000=c')(hev:Ev P l.toArray c 0 l E hp outs E' hp')
 (h:Q .normal ⟨E',hp',c'⟩):WP P S (.region id l.toArray false) ⟨E,hp,c⟩ Q:=by
 subst hN;subst hc;simp only[Bool.and_eq_true,Nat.ble_eq]at hd;refine fun a w hr=>wpIn_mono (UC (Q:=fun e s'=>e= .normal∧s'=⟨E',hp',c+l.length⟩) (ops:=l.toArray) hev hd.1 ⟨rfl,rfl⟩ a w hr) ?_;rintro e a' w' ⟨s',h1,rfl,rfl⟩;exact⟨_,h1.more (by have:=hd.2;omega),h⟩
theorem DV{id:Nat}{l:List Oper}{E:BP}{hp:Aa}{c:Nat}{outs:List EX}{E':BP}{hp':Aa}{ks:List (List Nat×List Nat)}{N:Nat}(hm:P.follows .mixedOrders=true)(hN:S.N=N)(hd:(I4 N l&&Nat.ble l.length 1000)=true)
 {c':Nat} (hc:c+1000=c') (hev:Ev P l.toArray c 0 l E hp outs E' hp') (hks:outs.map Ad=ks) (hok:AM l.toArray ks=true) (h:Q .normal ⟨E',hp',c'⟩):WP P S (.region id l.toArray true) ⟨E,hp,c⟩ Q:=by
 subst hN;subst hc;simp only[Bool.and_eq_true,Nat.ble_eq]at hd;subst hks;refine fun a w hr=>wpIn_mono (Y2 (Q:=fun e s'=>e= .normal∧s'=⟨E',hp',c+l.length⟩) (ops:=l.toArray) hm hev hd.1 hok ⟨rfl,rfl⟩ a w hr) ?_;rintro e a' w' ⟨s',h1,rfl,rfl⟩;exact⟨_,h1.more (by have:=hd.2;omega),h⟩
theorem BE(h:K s):Ko K Q .normal s:=h
end
theorem wrap_i64{z:Int}(h0 : -9223372036854775808≤z)(h1:z≤9223372036854775807):IntKind.i64.wrap z=z:=by
 rw[IntKind.wrap_i64];omega
theorem H8{z:Int}(h0:0≤z)(h1:z≤18446744073709551615):IntKind.u64.wrap z=z:=by
 simp only[IntKind.wrap,IntKind.bits,IntKind.signed];simp;omega
theorem PA{a b:Int}(h:a<b):decide (a<b)=true:=decide_eq_true h
theorem M5{a b:Int}(h:b≤a):decide (a<b)=false:=decide_eq_false (by omega)
theorem Pz{a b:Int}(h:a≤b):decide (a≤b)=true:=decide_eq_true h
theorem M4{a b:Int}(h:b<a):decide (a≤b)=false:=decide_eq_false (by omega)
theorem TH{a b:Int}(h:a=b):(a==b)=true:=beq_iff_eq.2 h
theorem TF{a b:Int}(h:a≠b):(a==b)=false:=beq_eq_false_iff_ne.2 h
theorem TM{a b:Int}(h:a≠b):(a !=b)=true:=bne_iff_ne.2 h
theorem TL{a b:Int}(h:a=b):(a !=b)=false:=bne_eq_false_iff_eq.2 h
theorem PS{α:Type}[Inhabited α]{l:List α}{k:Nat}(h:k<l.length):l[k]? =some (l[k]!):=by
 rw[List.getElem?_eq_getElem h,getElem!_pos l k h]
end Go.Eng
namespace Go.Eng
open Go.RowKit
section
variable {P:Program} {S:Sp} {s:St} {Q:Exit→St→Prop} {K:St→Prop}
theorem BF(h:Q .ret s):Ko K Q .ret s:=h
theorem BG{i:Nat}(h:Q (.exit i) s):Ko K Q (.exit i) s:=h
theorem B7{i:Nat}(h:Q .normal s):HZ i Q .normal s:=h
theorem B8{i:Nat}(h:Q .ret s):HZ i Q .ret s:=h
theorem B9{i:Nat}(h:Q .normal s):HZ i Q (.exit i) s:=by simp[HZ,h]
theorem Ba{i j:Nat}(hne:(j==i)=false)(h:Q (.exit j) s):HZ i Q (.exit j) s:=by
 have:¬j=i:=by simpa using hne
 simp[HZ,this,h]
theorem DY{c:Operand}{x y:Code}(hc:opnd s.E c= .d (.bool true))(h:WP P S x s Q):WP P S (.cond c x y) s Q:=Pe hc h
theorem DW{c:Operand}{x y:Code}(hc:opnd s.E c= .d (.bool false))(h:WP P S y s Q):WP P S (.cond c x y) s Q:=Pe hc (by simpa using h)
theorem EA{b:Frame}{a:Act}{k:List Item}{cs:List Frame}{w:World}{c:Code}:step P (lone (b.atR a (.code (.scope c)::k)) cs w)= .next (lone (b.atR a (.code c::.inScope c::k)) cs w) :=
 step_lone_go (by simp[stepG,stepG.exec,Frame.atR])
theorem Oh{b:Frame}{a:Act}{k:List Item}{cs:List Frame}{w:World}{c:Code}:step P (lone (b.atR a (.inScope c::k)) cs w)= .next (lone (b.atR a k) cs w) :=
 step_lone_go (by simp[stepG,stepG.exec,Frame.atR])
theorem J6{F:Fence}{n:Nat}{c:Code}{a:Act}{w:World}{Q:Exit→Act→World→Prop}(h:c.wpIn F n P (Exit.noGoto Q) a w):(Code.scope c).wpIn F n P Q a w:=by
 intro b k cs hro hb hr;have h0:(lone (b.atR a (.code (.scope c)::k)) cs w).fenced P F:=fenced_calm hb hr rfl;obtain⟨e,a₁,w₁,hq,harr⟩:=h b (.inScope c::k) cs hro hb hr;cases e with
 |normal=>exact⟨.normal,a₁,w₁,hq,.head h0 EA (StepsIn.trans harr (.one (fenced_calm hb hr rfl) Oh))⟩
 |exit id =>
  have hx:exitTo id (.inScope c::k)=exitTo id k:=by simp[exitTo]
  exact⟨.exit id,a₁,w₁,hq,fun k' hk=>.head h0 EA (harr.1 k' (by rw[hx];exact hk)),fun hr' hk=>let ⟨k₁,h1,h2⟩:=harr.2 hr' (by rw[hx];exact hk);⟨k₁,h1,.head h0 EA h2⟩⟩
 |goto l=>exact hq.elim
 |ret=>exact⟨_,a₁,w₁,hq,.of_steps (.one h0 EA) harr⟩
 |panic ch=>exact⟨_,a₁,w₁,hq,.of_steps (.one h0 EA) harr⟩
 |outgrown=>exact⟨_,a₁,w₁,hq,.of_steps (.one h0 EA) harr⟩
def Qj(Q:Exit→St→Prop):Exit→St→Prop
 |.goto _,_=>False
 |e,s=>Q e s
theorem AI{x:Code}(h:WP P S x s (Qj Q)):WP P S (.scope x) s Q:=fun a w hr =>
 J6 (wpIn_mono (h a w hr) fun e a' w' ⟨s',h1,h2⟩=>by cases e<;>first|exact h2.elim|exact⟨s',h1,h2⟩)
theorem Bd(h:Q .normal s):Qj Q .normal s:=h
theorem Be(h:Q .ret s):Qj Q .ret s:=h
theorem Bf{i:Nat}(h:Q (.exit i) s):Qj Q (.exit i) s:=h
def Yu(P:Program)(rs:List ResultVar)(r:D):Exit→St→Prop:=fun e s=>(e= .normal∨e= .ret)∧Kc P s rs=some r
theorem Cu{rs:List ResultVar}{r:D}(h:Kc P s rs=some r):Yu P rs r .normal s:=⟨.inl rfl,h⟩
theorem Cv{rs:List ResultVar}{r:D}(h:Kc P s rs=some r):Yu P rs r .ret s:=⟨.inr rfl,h⟩
theorem BD{t:Nat}{E:BP}{hp:Aa}{c:Nat}{av:AV}{d:D}{ks:List Nat}(h:opnd E (.tmp t)=av)(h2:Cz (lk hp) av=some (d,ks)):Kc P ⟨E,hp,c⟩ [.tmp t]=some d:=by
 subst h;simp[Kc,GY,Oe,h2]
theorem De{body:Code}(h:WP P S body s (Ko (fun _=>False) Q)):WP P S (.loop body) s Q :=
 Tw (α:=Unit) (fun _=>s) (fun _=>0) () rfl fun _=>UA h fun e s' hq=>by cases e<;>first|exact hq.elim|exact hq
theorem A8{α:Type}(I:α→Prop)(stE:α→BP)(stH:α→Aa)(c0:Nat)(μ:α→Nat)(ns ks:List Nat)(x0:α)(hI:I x0){E:BP}{hp:Aa}{c:Nat}(hE:stE x0=AC E ns)(hH:stH x0=AC hp ks)(hc:S.R.c≤c0)
 (hbE:∀x,I x→Fs c0 (stE x)=true) (hbH:∀x,I x→F8 c0 (stH x)=true) {body:Code}
 (round:∀x,I x→WP P S body ⟨stE x,stH x,c0⟩ (Ko (fun s'=>∃y,I y∧stE y=AC s'.E ns∧stH y=AC s'.hp ks∧μ y<μ x) Q)):WP P S (.loop body) ⟨E,hp,c⟩ Q:=by
 refine Tv ns ks c0 hc (hE▸hbE x0 hI) (hH▸hbH x0 hI) ?_;refine Tw (α:={x//I x}) (fun x=>⟨stE x.1,stH x.1,c0⟩) (fun x=>μ x.1) ⟨x0,hI⟩ (by rw[hE,hH]) fun⟨x,hx⟩=>?_;intro a w hr;refine wpIn_mono (round x hx a w hr) ?_;rintro e a' w' ⟨s',h1,h2⟩;cases e with
 |normal =>
  obtain⟨y,hy,e1,e2,h3⟩:=h2;have:=h1.keep ns ks c0 hc (e1▸hbE y hy) (e2▸hbH y hy);rw[← e1,← e2]at this;exact⟨_,this,⟨y,hy⟩,rfl,h3⟩
 |_=>exact⟨s',h1,h2⟩
end
def U(z:Int):Prop:=0≤z∧z≤18446744073709551615
theorem VQ{a:Int}(h0:0≤a)(h1:a≤18446744073709551615):IntKind.u64.wrap ((BitVec.ofInt IntKind.u64.bits a &&& BitVec.ofInt IntKind.u64.bits 4294967295).toNat:Int)=a%4294967296:=by
 obtain⟨n,rfl⟩:=Int.eq_ofNat_of_zero_le h0;have e:(BitVec.ofInt IntKind.u64.bits (n:Int) &&& BitVec.ofInt IntKind.u64.bits 4294967295).toNat=n%4294967296:=by
  show(BitVec.ofInt 64 (n:Int) &&& BitVec.ofInt 64 4294967295).toNat=n%4294967296;rw[BitVec.toNat_and];have e1:(BitVec.ofInt 64 (n:Int)).toNat=n:=by
   simp[BitVec.toNat_ofInt];omega
  have e2:(BitVec.ofInt 64 4294967295).toNat=2 ^ 32-1:=by decide
  rw[e1,e2,Nat.and_two_pow_sub_one_eq_mod]
 rw[e,H8]<;>omega
theorem dX{a:Int}:a.fdiv (2 ^ min 32 IntKind.u64.bits)=a/4294967296:=by
 show a.fdiv 4294967296=_;rw[Int.fdiv_eq_ediv_of_nonneg _ (by decide)]
theorem Y9:HL []=[]:=rfl
theorem A4{a:D}:HL [a]=[(0,.d a)]:=rfl
theorem Ah{a b:D}:HL [a,b]=[(0,.d a),(1,.d b)]:=rfl
theorem B6{a b c:D}:HL [a,b,c]=[(0,.d a),(1,.d b),(2,.d c)]:=rfl
theorem JO{a b c d:D}:HL [a,b,c,d]=[(0,.d a),(1,.d b),(2,.d c),(3,.d d)]:=rfl
theorem A3.run {P : Program} {g : FuncId} {fn : Func} {code : Code} {rs : List ResultVar} {ds : List D} {r : D} {N : Nat} {E : BP} (hf : P.funcs[g]? = some fn) (hb : fn.body = some code) (hn : (fn.name == "runtime.NumGoroutine") = false) (hrs : fn.results = rs.toArray) (hN : fn.ntmps = N) (hnt : Nat.ble ds.length N = true) (hE : HL ds = E)
 (h:∀X w,WP P (fk X N w) code ⟨E,[],0⟩ (Yu P rs r)):A3 P g ds r:=by
 subst hE;subst hN;exact A3.of hf hb hn hrs (Nat.le_of_ble_eq_true hnt) h
theorem A3.ext {P : Program} {g : FuncId} {fn : Func} {e : Array Value → Sem Value} {ds : List D} {r : D} (hf : P.funcs[g]? = some fn) (hname : (fn.name == "runtime.NumGoroutine") = false)
 (hb:fn.body.isNone=true) (hn:Extern.findNext fn=none) (he:Extern.find fn=some e)
 (h:∀(w:World) (M:Nat→Prop) (vs:List Value),ds.length=vs.length→(∀(i:Nat) d v,ds[i]? =some d→vs[i]? =some v→An w M d v)→∃v,(e vs.toArray).run P w= .ok v w∧An w M r v):A3 P g ds r:=by
 intro w M vs hW hM hl hv;obtain⟨v,h1,h2⟩:=h w M vs hl hv;refine .inl ⟨v,w,?_,h2,Bl.refl _ _⟩;rw[run_callFunc_extern hf hname hb hn he,h1];rfl
theorem BC{P:Program}{t t':Nat}{E:BP}{hp:Aa}{c:Nat}{av av':AV}{ds:List D}{ks:List Nat}(h:opnd E (.tmp t)=av)(h':opnd E (.tmp t')=av')(h2:FN (lk hp) [av,av']=some (ds,ks)):Kc P ⟨E,hp,c⟩ [.tmp t,.tmp t']=some (.tup ds):=by
 subst h;subst h';simp[Kc,GY,Oe,h2]
theorem VV{z:Int}:IntKind.u64.wrap z=z%18446744073709551616:=by
 simp only[IntKind.wrap,IntKind.bits,IntKind.signed];simp
theorem Mm{a b:Int}(h:0≤a):a.tdiv b=a/b:=Int.tdiv_eq_ediv_of_nonneg h
theorem Mn{a b:Int}(h:0≤a):a.tmod b=a%b:=Int.tmod_eq_emod_of_nonneg h
def us(l:List Int):List D:=l.map fun z=>D.int .u64 z
theorem AR{l:List Int}:(us l).length=l.length:=by simp[us]
theorem NP{l:List Int}{k:Nat}(h:k<l.length):(us l)[k]? =some (D.int .u64 (l[k]!)):=by
 simp[us,List.getElem?_eq_getElem h,getElem!_pos l k h]
theorem PV{a b:Int}:(if b<a then b else a)=min a b:=by split<;>omega
theorem cY{k k':IntKind}{x x' y y':Int}{ks:List Nat}(h1:x=x')(h2:y=y'):some ([D.int k x,D.int k' y],ks)=some ([D.int k x',D.int k' y'],ks):=by subst h1;subst h2;rfl
def XR(E:BP)(t:Nat)(want:Bool):Option Bool :=
 match lk E t with
 |some a=>match a with
  |.d x=>match x with| .bool b=>some (b==want)|_=>none
  |.tup _=>some false
  |_=>none
 |none=>none
theorem E2{ops:Array Oper}{E:BP}:gd ops E none=some true:=rfl
theorem aS{ops:Array Oper}{E:BP}{j t:Nat}{want:Bool}{r:Option Bool}(h1:G2 ops j=some t)(h2:XR E t want=r):gd ops E (some (j,want))=r:=by
 subst h2;first|(simp only[gd,XR,h1];done)|(simp only[gd,XR,h1];rfl)
theorem TC:(true==false)=false:=rfl
theorem TB:(false==true)=false:=rfl
theorem Ya{α:Type}{l:List α}:l.toArray.toList=l:=rfl
def SR(ρ:Operand→AV):List (Nat×Operand)→List (Nat×AV)
 | []=>[]
 |p::l=>(p.1,ρ p.2)::SR ρ l
theorem U4{ρ:Operand→AV}{l:List (Nat×Operand)}:(l.map fun p=>(p.1,ρ p.2))=SR ρ l:=by
 induction l with
 |nil=>rfl
 |cons p l ih=>simp[SR,ih]
theorem YN{a b:Nat}(h:a≤b):(a≤b)=True:=eq_true h
theorem YP{a b:Nat}(h:a<b):(a<b)=True:=eq_true h
theorem YM{a b:Int}(h:a≤b):(a≤b)=True:=eq_true h
theorem YO{a b:Int}(h:a<b):(a<b)=True:=eq_true h
theorem WG:((0:Nat):Int)=0:=rfl
theorem Yv{a b:Nat}(h:a=b):(a=b)=True:=eq_true h
section
variable {P:Program} {ops:Array Oper} {c i q d:Nat} {ty:TypeId} {pos:String} {after:Array Edge} {guard:Option (Nat×Bool)} {os:List Oper} {E E1 E':BP} {hp hp1 hp':Aa} {outs:List EX} {v:AV}
theorem E3{j t:Nat}{want:Bool}(h1:G2 ops j=some t)(h2:lk E t=some (.d (.bool want))):gd ops E (some (j,want))=some true:=aS h1 (by simp[XR,h2])
theorem BJ{j t:Nat}{want b:Bool}(h1:G2 ops j=some t)(h2:lk E t=some (.d (.bool b)))(h3:(b==want)=false):gd ops E (some (j,want))=some false:=aS h1 (by simp[XR,h2,h3])
theorem BK{j t:Nat}{want:Bool}{vs:List AV}(h1:G2 ops j=some t)(h2:lk E t=some (.tup vs)):gd ops E (some (j,want))=some false:=aS h1 (by simp[XR,h2])
theorem D5{o:Op}{acc:List Nat}(hq:c+i=q)(he:Ft P q (opnd E) (lk hp) o=some (v,[],acc))(hg:gd ops E guard=some true)(t:Ev P ops c (i+1) os ((d,v)::E) hp outs E' hp') :
 Ev P ops c i (⟨some d,o,ty,pos,after,guard⟩::os) E hp (⟨some d,v,[],acc⟩::outs) E' hp':=by
 subst hq;exact .cons (.op hg he) t
theorem Cn{x:Nat}(hg:gd ops E guard=some true)(hl:lk E x=some v)(t:Ev P ops c (i+1) os ((d,v)::E) hp outs E' hp') :
 Ev P ops c i (⟨some d,.move (.tmp x),ty,pos,after,guard⟩::os) E hp (⟨some d,v,[],[]⟩::outs) E' hp' :=
 D5 rfl (by simp[Ft,opnd,hl]) hg t
theorem Ck{x:Nat}(hg:gd ops E guard=some true)(hl:lk E x=some v)(t:Ev P ops c (i+1) os ((d,v)::E) hp outs E' hp') :
 Ev P ops c i (⟨some d,.assign (.tmp x),ty,pos,after,guard⟩::os) E hp (⟨some d,v,[],[]⟩::outs) E' hp' :=
 D5 rfl (by simp[Ft,opnd,hl]) hg t
theorem Cm{x:Value}{y:D}(hg:gd ops E guard=some true)(hl:J5 x=some y)(t:Ev P ops c (i+1) os ((d,.d y)::E) hp outs E' hp') :
 Ev P ops c i (⟨some d,.move (.const x),ty,pos,after,guard⟩::os) E hp (⟨some d,.d y,[],[]⟩::outs) E' hp' :=
 D5 rfl (by simp[Ft,opnd,hl]) hg t
theorem Cj{x:Value}{y:D}(hg:gd ops E guard=some true)(hl:J5 x=some y)(t:Ev P ops c (i+1) os ((d,.d y)::E) hp outs E' hp') :
 Ev P ops c i (⟨some d,.assign (.const x),ty,pos,after,guard⟩::os) E hp (⟨some d,.d y,[],[]⟩::outs) E' hp' :=
 D5 rfl (by simp[Ft,opnd,hl]) hg t
theorem Cs{x z:Nat}{y:Operand}(hx:lk E x=some (.d (.bool true)))(hg:gd ops E guard=some true)(hl:lk E z=some v)(t:Ev P ops c (i+1) os ((d,v)::E) hp outs E' hp') :
 Ev P ops c i (⟨some d,.pick (.tmp x) (.tmp z) y,ty,pos,after,guard⟩::os) E hp (⟨some d,v,[],[]⟩::outs) E' hp' :=
 D5 rfl (by simp[Ft,opnd,hl,hx]) hg t
theorem Cr{x z:Nat}{y:Operand}(hx:lk E x=some (.d (.bool false)))(hg:gd ops E guard=some true)(hl:lk E z=some v)(t:Ev P ops c (i+1) os ((d,v)::E) hp outs E' hp') :
 Ev P ops c i (⟨some d,.pick (.tmp x) y (.tmp z),ty,pos,after,guard⟩::os) E hp (⟨some d,v,[],[]⟩::outs) E' hp' :=
 D5 rfl (by simp[Ft,opnd,hl,hx]) hg t
theorem By{x:Nat}{z:Value}{u:D}{y:Operand}(hx:lk E x=some (.d (.bool true)))(hg:gd ops E guard=some true)(hl:J5 z=some u)(t:Ev P ops c (i+1) os ((d,.d u)::E) hp outs E' hp') :
 Ev P ops c i (⟨some d,.pick (.tmp x) (.const z) y,ty,pos,after,guard⟩::os) E hp (⟨some d,.d u,[],[]⟩::outs) E' hp' :=
 D5 rfl (by simp[Ft,opnd,hl,hx]) hg t
theorem Bx{x:Nat}{z:Value}{u:D}{y:Operand}(hx:lk E x=some (.d (.bool false)))(hg:gd ops E guard=some true)(hl:J5 z=some u)(t:Ev P ops c (i+1) os ((d,.d u)::E) hp outs E' hp') :
 Ev P ops c i (⟨some d,.pick (.tmp x) y (.const z),ty,pos,after,guard⟩::os) E hp (⟨some d,.d u,[],[]⟩::outs) E' hp' :=
 D5 rfl (by simp[Ft,opnd,hl,hx]) hg t
theorem DU{o:Op}(hg:gd ops E guard=some false)(t:Ev P ops c (i+1) os ((d,.tup [])::E) hp outs E' hp') :
 Ev P ops c i (⟨some d,o,ty,pos,after,guard⟩::os) E hp (⟨some d,.tup [],[],[]⟩::outs) E' hp' :=
 .cons (.skip hg) t
theorem Ct{o:Op}(hg:gd ops E guard=some false)(t:Ev P ops c (i+1) os E hp outs E' hp') :
 Ev P ops c i (⟨none,o,ty,pos,after,guard⟩::os) E hp (⟨none,.tup [],[],[]⟩::outs) E' hp' :=
 .cons (.skip hg) t
theorem EG{args:List Operand}{ts:Array TypeId}{g:FuncId}{ds:List D}{ks:List Nat}{r:D}(ha:FN (lk hp) (args.map (opnd E))=some (ds,ks))(hs:A3 P g ds r)(hfl:r.flat=true)(hr:AV.d r=v)(hg:gd ops E guard=some true)
 (t:Ev P ops c (i+1) os ((d,v)::E) hp outs E' hp') :
 Ev P ops c i (⟨some d,.call ⟨.value (.func g),args.toArray,ts⟩,ty,pos,after,guard⟩::os) E hp (⟨some d,v,[],ks⟩::outs) E' hp':=by
 subst hr;have:=JJ.call (P:=P) (ops:=ops) (key:=c+i) (o:=⟨some d,.call ⟨.value (.func g),args.toArray,ts⟩,ty,pos,after,guard⟩) (E:=E) (hp:=hp) (f:=.func g) (g:=g) hg rfl rfl ha hs;rw[if_pos hfl]at this;exact .cons this t
theorem EH{f:Operand}{args:List Operand}{ts:Array TypeId}{g:FuncId}{ds:List D}{ks:List Nat}{r:D}(hf:opnd E f= .d (.fn g))(ha:FN (lk hp) (args.map (opnd E))=some (ds,ks))(hs:A3 P g ds r){es:List (Nat×Option HO)}(hes:(if r.flat then[]else Nh ks)=es)
 (hr:AV.d r=v) (hH:BO hp es=hp1) (hg:gd ops E guard=some true) (t:Ev P ops c (i+1) os ((d,v)::E) hp1 outs E' hp') :
 Ev P ops c i (⟨some d,.call ⟨.value f,args.toArray,ts⟩,ty,pos,after,guard⟩::os) E hp (⟨some d,v,es,ks⟩::outs) E' hp':=by
 subst hr;subst hes;subst hH;exact .cons (.call hg rfl hf ha hs) t
theorem Cp{o:Op}{acc:List Nat}{es:List (Nat×Option HO)}(hq:c+i=q)(he:Ft P q (opnd E) (lk hp) o=some (v,es,acc))(hH:BO hp es=hp1)(hg:gd ops E guard=some true)(t:Ev P ops c (i+1) os ((d,v)::E) hp1 outs E' hp') :
 Ev P ops c i (⟨some d,o,ty,pos,after,guard⟩::os) E hp (⟨some d,v,es,acc⟩::outs) E' hp':=by
 subst hq;subst hH;exact .cons (.op hg he) t
theorem Cq{o:Op}{acc:List Nat}{es:List (Nat×Option HO)}(hq:c+i=q)(he:Ft P q (opnd E) (lk hp) o=some (v,es,acc))(hH:BO hp es=hp1)(hg:gd ops E guard=some true)(t:Ev P ops c (i+1) os E hp1 outs E' hp') :
 Ev P ops c i (⟨none,o,ty,pos,after,guard⟩::os) E hp (⟨none,v,es,acc⟩::outs) E' hp':=by
 subst hq;subst hH;exact .cons (.op hg he) t
end
theorem A3.calls {P : Program} {g : FuncId} {fn : Func} {ds : List D} {b : Bool} (hf : P.funcs[g]? = some fn) (hb : fn.body.isSome = true) (hn : (fn.name == "runtime.NumGoroutine") = false) (h : A3 P g ds (.bool b)) {w : World} {vs : List Value} (hW : Wd w) (hl : ds.length = vs.length)
 (hv:∀(i:Nat) d v,ds[i]? =some d→vs[i]? =some v→An w (fun _=>False) d v):Calls P g vs.toArray w fun e w'=>e= .returned (.bool b)∧Below w.heap.size w w':=by
 rcases h w (fun _=>False) vs hW (fun b hb=>hb.elim) hl hv with⟨v,w',hr,_⟩|⟨_,hc⟩
 ·exfalso;obtain⟨c,hc⟩:=Option.isSome_iff_exists.1 hb;have hn' : ¬ fn.name = "runtime.NumGoroutine" := by simpa using hn
  simp[callFunc,hf,hn',hc]at hr
 ·refine hc.mono ?_;rintro e w' ⟨v,rfl,hv,hbel⟩;cases hv;exact⟨rfl,hbel.lo⟩
theorem NA{w:World}{M:Nat→Prop}:∀(i:Nat) d v,([]:List D)[i]? =some d→([]:List Value)[i]? =some v→An w M d v:=fun i d v h=>by simp at h
theorem Fc{w:World}{M:Nat→Prop}{x:D}{y:Value}{ds:List D}{vs:List Value}(h:An w M x y)(t:∀(i:Nat) d v,ds[i]? =some d→vs[i]? =some v→An w M d v) :
 ∀(i:Nat) d v,(x::ds)[i]? =some d→(y::vs)[i]? =some v→An w M d v:=fun i d v h1 h2=>by
 cases i with
 |zero=>simp at h1 h2;subst h1;subst h2;exact h
 |succ i=>exact t i d v (by simpa using h1) (by simpa using h2)
theorem GH{a:Int}(h0:0≤a)(h1:a≤18446744073709551615):DA .and .u64 a .u64 4294967295=some (.int .u64 (a%4294967296)):=by
 simp only[DA,if_true,VQ h0 h1]
theorem La{a:Int}{k:IntKind}:DA .shr .u64 a k 32=some (.int .u64 (a/4294967296)):=by
 have:a.fdiv (2 ^ min (32:Int).toNat IntKind.u64.bits)=a/4294967296:=dX;simp only[DA,this];rfl
end Go.Eng

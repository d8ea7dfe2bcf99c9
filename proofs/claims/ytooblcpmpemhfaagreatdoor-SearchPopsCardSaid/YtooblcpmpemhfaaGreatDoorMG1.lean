/- The engine, part 0: what a seat's package-level variables hold: the library's table of the powers of ten. (In the place of G0, where a seat's road comes to strconv.) (and what stands behind it: texts laid together) -/
import Derived.Below
import Derived.Lib.LaidTab
import Derived.Lib.ItoaNum
import Derived.Test.YtooblcpmpemhfaaGreatDoorProg
import Derived.Deep.Draws
import Derived.Laws.AppendOwn
import Derived.Laws.MakeOwn
import Derived.Laws.OwnMore
import Derived.WalkSpells
import Derived.WalkLawsBesides
import Derived.Laws.Cover3
import Derived.Laws.Small
import Derived.Laws.Strings
set_option linter.unusedVariables false
set_option linter.unusedSimpArgs false
set_option maxHeartbeats 32000000
set_option maxRecDepth 100000
namespace Go.Eng
open Go.RowKit Go.Proofs
def Wd (w : World) : Prop := Lib.TabIs Tryz.prog w "internal/strconv.uint64pow10" .u64 Lib.pow10Tab
theorem Wd.mono{w w':World}(h:Wd w)(hb:Below w.heap.size w w'):Wd w':=by
 unfold Wd Lib.TabIs World.var? at h ⊢;cases hg : Tryz.prog.globalNamed "internal/strconv.uint64pow10" with
 |none=>rw[hg]at h;cases h
 |some g =>
  rw[hg]at h;simp only[Option.bind_some]at h ⊢;have hlt:g<w.heap.size:=by
   by_cases hc:g<w.heap.size
   ·exact hc
   ·rw[Array.getElem?_eq_none (by omega)]at h;cases h
  rw[hb.block g hlt];exact h
end Go.Eng
namespace Go.Eng
open Go.RowKit
inductive D where
 |bool (b:Bool)|int (k:IntKind) (n:Int)|str (s:ByteArray)
 |agg (fs:List D)|sl (sz:Nat) (xs:List D)|nils|emp (sz:Nat)|fn (f:FuncId)|nilf|nilm|nilp|any|ptr (fs:List D)|tup (vs:List D)
 deriving Inhabited
def D.comps:D→List D
 |.agg fs=>fs
 |.bool b=>[.bool b]| .int k n=>[.int k n]| .str s=>[.str s]| .sl z xs=>[.sl z xs]| .nils=>[.nils]| .emp z=>[.emp z]
 |.fn f=>[.fn f]| .nilf=>[.nilf]| .nilm=>[.nilm]| .nilp=>[.nilp]| .any=>[.any]| .ptr f=>[.ptr f]| .tup v=>[.tup v]
def D.cell:D→Bool
 |.agg _| .tup _=>false
 |_=>true
def D.flat:D→Bool
 |.bool _| .int .. | .str _| .fn _| .nilf| .nilm| .nilp| .nils| .emp _=>true
 |_=>false
inductive An(w:World)(M:Nat→Prop):D→Value→Prop where
 |bool (b:Bool):An w M (.bool b) (.bool b)
 |int (k:IntKind) (n:Int):An w M (.int k n) (.int k n)
 |str (s:ByteArray):An w M (.str s) (.string s)
 |fn (f:FuncId):An w M (.fn f) (.func (.func f) #[] #[])
 |nilf:An w M .nilf .nilFunc
 |nilm:An w M .nilm (.map none)
 |nilp:An w M .nilp (.pointer none)
 |any {v:Value} (h:v.oneCell'=true):An w M .any v
 |ptr {fs:List D} {a:Addr} (val:Nat→Value) (hb:a.block<w.heap.size) (hM:¬M a.block) (hc:∀d∈fs,d.cell=true)
   (h1:∀(j:Nat) d,fs[j]? =some d→w.cell? (a.add j)=some (val j)) (h2:∀(j:Nat) d,fs[j]? =some d→An w M d (val j)):An w M (.ptr fs) (.pointer (some a))
 |agg {fs:List D} {cs:List Value} (hl:fs.length=cs.length) (hc:∀d∈fs,d.cell=true)
   (h:∀(i:Nat) d v,fs[i]? =some d→cs[i]? =some v→An w M d v):An w M (.agg fs) (.agg cs.toArray)
 |tup {fs:List D} {cs:List Value} (hl:fs.length=cs.length)
   (h:∀(i:Nat) d v,fs[i]? =some d→cs[i]? =some v→An w M d v):An w M (.tup fs) (.tuple cs.toArray)
 |nils:An w M .nils (.slice none 0 0)
 |emp {sz c:Nat} {a:Addr} (hm:c≤maxLen):An w M (.emp sz) (.slice (some a) 0 c)
 |sl0 {sz:Nat}:An w M (.sl sz []) (.slice none 0 0)
 |sl {sz c:Nat} {xs:List D} {a:Addr} (val:Nat→Nat→Value) (hb:xs≠[]→a.block<w.heap.size) (hM:xs≠[]→¬M a.block)
   (hc:xs.length≤c) (hm:c≤maxLen)
   (hs:∀(i:Nat) x,xs[i]? =some x→x.comps.length=sz∧∀d∈x.comps,d.cell=true)
   (h1:∀(i:Nat) x (j:Nat) d,xs[i]? =some x→x.comps[j]? =some d→w.cell? (a.add (i * sz+j))=some (val i j))
   (h2:∀(i:Nat) x (j:Nat) d,xs[i]? =some x→x.comps[j]? =some d→An w M d (val i j)) :
   An w M (.sl sz xs) (.slice (some a) xs.length c)
structure Bi(M:Nat→Prop)(w w':World):Prop where
 size:w.heap.size≤w'.heap.size
 block:∀b,b<w.heap.size→¬M b→w'.heap[b]? =w.heap[b]?
theorem Bi.refl(M:Nat→Prop)(w:World):Bi M w w:=⟨Nat.le_refl _,fun _ _ _=>rfl⟩
theorem Bi.cell{M:Nat→Prop}{w w':World}(h:Bi M w w'){a:Addr}(hb:a.block<w.heap.size)(hM:¬M a.block):w'.cell? a=w.cell? a :=
 World.cell?_of_block (h.block _ hb hM)
structure Bl(B:Nat)(w w':World):Prop where
 lo:Below B w w'
 drawn:w.drawn≤w'.drawn
theorem Bl.size{B:Nat}{w w':World}(h:Bl B w w'):w.heap.size≤w'.heap.size:=h.lo.size
theorem Bl.block{B:Nat}{w w':World}(h:Bl B w w'):∀k,k<B→w'.heap[k]? =w.heap[k]? :=h.lo.block
theorem Bl.refl(B:Nat)(w:World):Bl B w w:=⟨Below.refl _ _,Nat.le_refl _⟩
theorem Bl.trans{B:Nat}{a b c:World}(h:Bl B a b)(k:Bl B b c):Bl B a c:=⟨h.lo.trans k.lo,Nat.le_trans h.drawn k.drawn⟩
theorem Bl.mono{B B':Nat}{w w':World}(h:Bl B w w')(hB:B'≤B):Bl B' w w':=⟨h.lo.mono hB,h.drawn⟩
theorem Bl.drew{B:Nat}{a w:World}(h:Bl B a w):Bl B a w.drew:=⟨h.lo.drew,Nat.le_succ_of_le h.drawn⟩
theorem Bi.of_below{w w':World}(h:Bl w.heap.size w w')(M:Nat→Prop):Bi M w w':=⟨h.size,fun b hb _=>h.block b hb⟩
theorem L0{α:Type}{l:List α}{i:Nat}{x:α}(h:l[i]? =some x):l≠[]:=fun e=>by subst e;simp at h
theorem CB(a:Addr)(n:Nat):(a.add n).block=a.block:=by unfold Addr.add;split<;>rfl
theorem An.mono{M M':Nat→Prop}{w w':World}(hs:Bi M w w')(hM:∀b,b<w.heap.size→M' b→M b){d:D}{v:Value}(h:An w M d v):An w' M' d v:=by
 induction h with
 |bool b=>exact .bool b
 |int k n=>exact .int k n
 |str s=>exact .str s
 |fn f=>exact .fn f
 |nilf=>exact .nilf
 |nilm=>exact .nilm
 |nilp=>exact .nilp
 |any h=>exact .any h
 |ptr val hb hM' hc h1 _ ih =>
  refine .ptr val (Nat.lt_of_lt_of_le hb hs.size) (fun hh=>hM' (hM _ hb hh)) hc (fun j d hd=>?_) ih;rw[hs.cell (by rw[CB];exact hb) (by rw[CB];exact hM')];exact h1 j d hd
 |agg hl hc _ ih=>exact .agg hl hc ih
 |tup hl _ ih=>exact .tup hl ih
 |nils=>exact .nils
 |emp hm=>exact .emp hm
 |sl0=>exact .sl0
 |sl val hb hM' hc hm hsz h1 _ ih =>
  refine .sl val (fun hn=>Nat.lt_of_lt_of_le (hb hn) hs.size) (fun hn hh=>hM' hn (hM _ (hb hn) hh)) hc hm hsz (fun i x j d hx hd=>?_) ih;have hn:=L0 hx;rw[hs.cell (by rw[CB];exact hb hn) (by rw[CB];exact hM' hn)];exact h1 i x j d hx hd
theorem An.oneCell{M:Nat→Prop}{w:World}{d:D}{v:Value}(h:An w M d v)(hc:d.cell=true):v.oneCell'=true:=by
 cases h<;>first|rfl|assumption|(simp[D.cell]at hc)
theorem An.flat{M M':Nat→Prop}{w w':World}{d:D}{v:Value}(h:An w M d v)(hf:d.flat=true):An w' M' d v:=by
 cases h<;>first|(simp[D.flat]at hf;done)|(constructor;done)|(constructor<;>assumption)
theorem An.of_nils{M:Nat→Prop}{w:World}{v:Value}(h:An w M .nils v)(sz:Nat):An w M (.sl sz []) v:=by cases h;exact .sl0
theorem An.of_emp{M:Nat→Prop}{w:World}{v:Value}{sz:Nat}(h:An w M (.emp sz) v):An w M (.sl sz []) v:=by
 cases h with
 |emp hm=>exact .sl (fun _ _=>.bool true) (fun h=>absurd rfl h) (fun h=>absurd rfl h) (Nat.zero_le _) hm (fun i x h=>by simp at h) (fun i x j d h=>by simp at h) (fun i x j d h=>by simp at h)
theorem An.nil_emp{M:Nat→Prop}{w:World}{v:Value}{sz:Nat}(h:An w M (.sl sz []) v):An w M .nils v∨An w M (.emp sz) v:=by
 generalize hx:([]:List D)=xs at h;cases h with
 |sl0=>exact .inl .nils
 |sl val hb hM hc hm hs h1 h2=>subst hx;exact .inr (.emp hm)
theorem An.sl_val{M:Nat→Prop}{w:World}{sz:Nat}{xs:List D}{v:Value}(h:An w M (.sl sz xs) v):∃a c,v= .slice a xs.length c∧xs.length≤c∧c≤maxLen∧(a=none→xs=[]∧c=0):=by
 cases h with
 |sl0=>exact⟨none,0,rfl,Nat.le_refl _,by simp[maxLen],fun _=>⟨rfl,rfl⟩⟩
 |sl val hb hM hc hm hs h1 h2=>exact⟨_,_,rfl,hc,hm,fun h=>by cases h⟩
structure Ym where
 N:Nat
 ps:Array Tmp
 assign:Code
 body:Code
inductive VW where
 |ready|busy|done (c:Code)|gone
 deriving Inhabited
def VW.of:VW→Loop→Prop
 |.ready,lr=>lr.state= .ready∧lr.pending=none
 |.busy,lr=>lr.state= .busy∧lr.pending=none
 |.done c,lr=>lr.state= .done∧lr.pending=some c
 |.gone,lr=>lr.state= .exhausted
inductive AV where
 |undef
 |d (x:D)
 |agg (fs:List AV)
 |tup (vs:List AV)
 |own (k n:Nat)
 |clip (sz:Nat) (xs:List D)
 |ref (k off:Nat)
 |eref (k n i sz off:Nat)
 |dref (fs:List D)
 |fn (f:FuncId) (caps:List AV)
 |map (k:Nat)
 |it (k:Nat)
 |vs (k off n:Nat)
 |yld (k:Nat)
 |tab (k n:Nat)
 |trow (k i n:Nat)
 |toref (k n i sz off:Nat)
 |tref (k i m j sz off:Nat)
 |rv (k n lo m sz:Nat)
 |mref (f:FuncId) (k off:Nat)
 deriving Inhabited
def AV.cell:AV→Bool
 |.agg _| .tup _| .undef=>false
 |.d x=>x.cell
 |_=>true
structure Tb where
 eo:TypeId
 so:Nat
 off:Nat
 ei:TypeId
 si:Nat
def Tb.inn(T:Tb)(r:D):List D:=match r.comps[T.off]? with
 |some (.sl _ xs)=>xs
 |_=>[]
def Tb.ilen(T:Tb)(rows:List D)(i:Nat):Nat:=(T.inn (rows.getD i .nils)).length
inductive HO where
 |var (cs:List AV)
 |row (e:TypeId) (sz:Nat) (xs:List D)
 |map (kt et:TypeId) (es:List (D×D))
 |iter (m c:Nat) (seen:List Nat)
 |loop (Y:Ym) (cs:List (Nat×AV)) (st:VW)
 |tab (T:Tb) (rows:List D) (hole:Option Nat)
 deriving Inhabited
abbrev Aa:=List (Nat×HO)
abbrev BP:=List (Nat×AV)
def lk{α:Type}:List (Nat×α)→Nat→Option α
 | [],_=>none
 |(m,a)::l,n=>if m=n then some a else lk l n
def DM{α:Type}:List (Nat×α)→Nat→List (Nat×α)
 | [],_=>[]
 |(m,a)::l,n=>if m=n then DM l n else(m,a)::DM l n
def put{α:Type}(l:List (Nat×α))(n:Nat)(a:α):List (Nat×α):=(n,a)::DM l n
theorem B3{α:Type}(l:List (Nat×α))(n:Nat):lk (DM l n) n=none:=by
 induction l with
 |nil=>rfl
 |cons p l ih =>
  obtain⟨m,a⟩:=p;by_cases h:m=n
  ·simp[DM,h,ih]
  ·simp[DM,lk,h,ih]
theorem Bc{α:Type}(l:List (Nat×α))(n k:Nat)(hk:k≠n):lk (DM l n) k=lk l k:=by
 induction l with
 |nil=>rfl
 |cons p l ih =>
  obtain⟨m,a⟩:=p;by_cases h:m=n
  ·subst h;simp only[DM,lk,if_true,ih];rw[if_neg (by omega)]
  ·simp only[DM,lk,h,if_false,ih]
theorem Ab{α:Type}(l:List (Nat×α))(n:Nat)(a:α):lk (put l n a) n=some a:=by simp[put,lk]
theorem A9{α:Type}(l:List (Nat×α))(n k:Nat)(a:α)(hk:k≠n):lk (put l n a) k=lk l k:=by
 simp only[put,lk];rw[if_neg (by omega),Bc l n k hk]
def Ag:Value→Option Nat
 |.slice (some a) _ _=>some a.block
 |.pointer (some a)=>some a.block
 |.map (some r)=>some r
 |.func (.yield l) _ _=>some l
 |_=>none
def AL:Value→Nat→Prop
 |.tuple vs,b=>∃u∈vs.toList,Ag u=some b
 |v,b=>Ag v=some b
def AB:Value→Nat→Value
 |.tuple vs,i=>vs.getD i undef
 |_,_=>undef
def Tt(H:Nat→Option HO)(ν:Nat→Value)(b:Nat):Prop:=∃k o,H k=some o∧AL (ν k) b
def Am(M0:Nat→Prop)(H:Nat→Option HO)(ν:Nat→Value)(b:Nat):Prop:=M0 b∨∃k o,H k=some o∧AL (ν k) b
inductive A5(w:World)(M:Nat→Prop)(H:Nat→Option HO)(ν:Nat→Value)(used:Nat→Prop):AV→Value→Prop where
 |undef (v:Value):A5 w M H ν used .undef v
 |d {x:D} {v:Value} (h:An w M x v):A5 w M H ν used (.d x) v
 |agg {fs:List AV} {cs:List Value} (hl:fs.length=cs.length) (hc:∀d∈fs,d.cell=true)
   (h:∀(i:Nat) d v,fs[i]? =some d→cs[i]? =some v→A5 w M H ν used d v):A5 w M H ν used (.agg fs) (.agg cs.toArray)
 |tup {fs:List AV} {cs:List Value} (hl:fs.length=cs.length)
   (h:∀(i:Nat) d v,fs[i]? =some d→cs[i]? =some v→A5 w M H ν used d v):A5 w M H ν used (.tup fs) (.tuple cs.toArray)
 |own {k n c:Nat} {a:Option Addr} {v:Value} (hu:used k) (h1:v= .slice a n c) (hc:n≤c∧c≤maxLen) (ha:a=none→n=0∧c=0) (h:∀o,H k=some o→∃e sz xs,o= .row e sz xs∧n≤xs.length∧(n=xs.length→v=ν k)):A5 w M H ν used (.own k n) v
 |clip {sz:Nat} {xs:List D} {a:Option Addr} (h:An w M (.sl sz xs) (.slice a xs.length xs.length)):A5 w M H ν used (.clip sz xs) (.slice a xs.length xs.length)
 |ref {k off:Nat} {a:Addr} (hu:used k) (h:∀o,H k=some o→∃cs b,o= .var cs∧ν k= .pointer (some ⟨b,0,none⟩)∧a=⟨b,off,none⟩):A5 w M H ν used (.ref k off) (.pointer (some a))
 |eref {k n i sz off:Nat} {a:Addr} (hu:used k) (hi:i<n) (ho:off<sz) (h:∀o,H k=some o→∃e sz' xs,o= .row e sz' xs∧n≤xs.length ∧
   (n=xs.length→∃g c,ν k= .slice (some ⟨g,0,none⟩) n c∧a=⟨g,i * sz+off,none⟩)):A5 w M H ν used (.eref k n i sz off) (.pointer (some a))
 |rv {k n lo m sz c:Nat} {a:Addr} (hu:used k) (hc:m≤c∧c≤maxLen) (hlo:lo+m≤n) (h:∀o,H k=some o→∃e sz' xs,o= .row e sz' xs∧n≤xs.length ∧
   (n=xs.length→∃g c,ν k= .slice (some ⟨g,0,none⟩) n c∧a=⟨g,lo * sz,none⟩)):A5 w M H ν used (.rv k n lo m sz) (.slice (some a) m c)
 |mref {f:FuncId} {k off:Nat} {a:Addr} (hu:used k) (h:∀o,H k=some o→∃cs b,o= .var cs∧ν k= .pointer (some ⟨b,0,none⟩)∧a=⟨b,off,none⟩):A5 w M H ν used (.mref f k off) (.func (.func f) #[.pointer (some a)] #[])
 |dref {fs:List D} {a:Addr} (val:Nat→Value) (hb:a.block<w.heap.size) (hM:¬M a.block) (hc:∀d∈fs,d.cell=true)
   (h1:∀(j:Nat) d,fs[j]? =some d→w.cell? (a.add j)=some (val j)) (h2:∀(j:Nat) d,fs[j]? =some d→An w M d (val j)):A5 w M H ν used (.dref fs) (.pointer (some a))
 |fn {f:FuncId} {caps:List AV} {cs:List Value} (hl:caps.length=cs.length) (h:∀(i:Nat) d v,caps[i]? =some d→cs[i]? =some v→A5 w M H ν used d v) :
   A5 w M H ν used (.fn f caps) (.func (.func f) #[] cs.toArray)
 |map {k r:Nat} (hu:used k) (h:∀o,H k=some o→∃kt et es,o= .map kt et es∧ν k= .map (some r)):A5 w M H ν used (.map k) (.map (some r))
 |it {k:Nat} {a:Addr} (hu:used k) (h:∀o,H k=some o→∃m c seen b,o= .iter m c seen∧ν k= .pointer (some ⟨b,0,none⟩)∧a=⟨b,0,none⟩):A5 w M H ν used (.it k) (.pointer (some a))
 |vs {k off n c:Nat} {a:Addr} (hu:used k) (hc:n≤c∧c≤maxLen) (h:∀o,H k=some o→∃cs b,o= .var cs∧ν k= .pointer (some ⟨b,0,none⟩)∧a=⟨b,off,none⟩∧off+n≤cs.length):A5 w M H ν used (.vs k off n) (.slice (some a) n c)
 |yld {k l:Nat} (hu:used k) (h:∀o,H k=some o→∃Y cs st,o= .loop Y cs st∧ν k= .func (.yield l) #[] #[]):A5 w M H ν used (.yld k) (.func (.yield l) #[] #[])
 |tab {k n c:Nat} {a:Option Addr} {v:Value} (hu:used k) (h1:v= .slice a n c) (hc:n≤c∧c≤maxLen) (ha:a=none→n=0∧c=0)
   (h:∀o,H k=some o→∃T rows q,o= .tab T rows q∧n≤rows.length∧(n=rows.length→v=AB (ν k) 0)):A5 w M H ν used (.tab k n) v
 |trow {k i n c:Nat} {a:Option Addr} {v:Value} (hu:used k) (h1:v= .slice a n c) (hc:n≤c∧c≤maxLen) (ha:a=none→n=0∧c=0)
   (h:∀o,H k=some o→∃T rows q,o= .tab T rows q∧i<rows.length∧n≤T.ilen rows i∧(q≠some i→n=T.ilen rows i→v=AB (ν k) (i+1))):A5 w M H ν used (.trow k i n) v
 |toref {k n i sz off:Nat} {a:Addr} (hu:used k) (hi:i<n) (ho:off<sz)
   (h:∀o,H k=some o→∃T rows q,o= .tab T rows q∧n≤rows.length ∧
     (n=rows.length→∃g c,AB (ν k) 0= .slice (some ⟨g,0,none⟩) n c∧a=⟨g,i * sz+off,none⟩)):A5 w M H ν used (.toref k n i sz off) (.pointer (some a))
 |tref {k i m j sz off:Nat} {a:Addr} (hu:used k) (hi:j<m) (ho:off<sz)
   (h:∀o,H k=some o→∃T rows q,o= .tab T rows q∧i<rows.length∧m≤T.ilen rows i ∧
     (q≠some i→m=T.ilen rows i→∃g c,AB (ν k) (i+1)= .slice (some ⟨g,0,none⟩) m c∧a=⟨g,j * sz+off,none⟩)):A5 w M H ν used (.tref k i m j sz off) (.pointer (some a))
theorem A5.oneCell{w:World}{M:Nat→Prop}{H:Nat→Option HO}{ν:Nat→Value}{used:Nat→Prop}{av:AV}{v:Value}(h:A5 w M H ν used av v)(hc:av.cell=true):v.oneCell'=true:=by
 cases h<;>first|rfl|assumption|(simp[AV.cell]at hc;done)|skip
 case d h=>exact h.oneCell (by simpa[AV.cell]using hc)
 case own=>subst_vars;rfl
 case tab=>subst_vars;rfl
 case trow=>subst_vars;rfl
def HO.later:HO→HO→Prop
 |.var cs,.var cs'=>cs.length=cs'.length
 |.row e sz xs,.row e' sz' xs'=>e=e'∧sz=sz'∧xs.length≤xs'.length
 |.map k e _,.map k' e' _=>k=k'∧e=e'
 |.iter m c _,.iter m' c' _=>m=m'∧c=c'
 |.loop Y _ _,.loop Y' _ _=>Y=Y'
 |.tab T rows q,.tab T' rows' q'=>T=T'∧rows.length≤rows'.length∧∀i,i<rows.length→T.ilen rows i≤T.ilen rows' i∧(q=some i→q'=some i∨T.ilen rows i<T.ilen rows' i)
 |_,_=>False
def HO.keeps:HO→HO→Value→Value→Prop
 |.row _ _ xs,.row _ _ xs',v,v'=>xs.length=xs'.length→v'=v
 |.tab T rows _,.tab _ rows' q',v,v'=>(rows.length=rows'.length→AB v' 0=AB v 0)∧∀i,i<rows.length→T.ilen rows i=T.ilen rows' i→q'≠some i→AB v' (i+1)=AB v (i+1)
 |_,_,v,v'=>v'=v
theorem HO.keeps_of{o o':HO}{v:Value}:o.keeps o' v v:=by cases o<;>cases o'<;>first|rfl|exact fun _=>rfl|exact⟨fun _=>rfl,fun _ _ _ _=>rfl⟩
theorem HO.later.refl(o:HO):o.later o:=by cases o<;>simp[HO.later]<;>exact fun i _ h=>.inl h
theorem HO.keeps_eq{o o':HO}{v v':Value}(h:v'=v):o.keeps o' v v':=h▸HO.keeps_of
structure CT(M:Nat→Prop)(H:Nat→Option HO)(ν:Nat→Value)(used:Nat→Prop)(w:World)(M':Nat→Prop)(H':Nat→Option HO)(ν':Nat→Value)(used':Nat→Prop)(w':World):Prop where
 same:Bi M w w'
 shrink:∀b,b<w.heap.size→M' b→M b
 usd:∀k,used k→used' k
 obj:∀k,used k→∀o',H' k=some o'→∃o,H k=some o∧o.later o'∧o.keeps o' (ν k) (ν' k)
 sameO:Bi (Tt H ν) w w'
 shrinkO:∀b,b<w.heap.size→Tt H' ν' b→Tt H ν b
theorem A5.ext{M M':Nat→Prop}{H H':Nat→Option HO}{ν ν':Nat→Value}{used used':Nat→Prop}{w w':World}(hx:CT M H ν used w M' H' ν' used' w'){av:AV}{v:Value}(h:A5 w M H ν used av v):A5 w' M' H' ν' used' av v:=by
 induction h with
 |undef v=>exact .undef v
 |d h=>exact .d (h.mono hx.same hx.shrink)
 |agg hl hc _ ih=>exact .agg hl hc ih
 |tup hl _ ih=>exact .tup hl ih
 |own hu h1 hc ha h =>
  refine .own (hx.usd _ hu) h1 hc ha fun o' ho'=>?_;obtain⟨o,ho,hl,hst⟩:=hx.obj _ hu o' ho';obtain⟨e,sz,xs,rfl,hn,hv⟩:=h o ho;cases o' with
  |row e' sz' xs' =>
   obtain⟨rfl,rfl,hle⟩:=hl;refine⟨_,_,xs',rfl,by omega,fun he=>?_⟩;rw[hst (by omega)];exact hv (by omega)
  |var _=>exact hl.elim
  |map _ _ _=>exact hl.elim
  |iter _ _ _=>exact hl.elim
  |loop _ _ _=>exact hl.elim
  |tab _ _ _=>exact hl.elim
 |clip h=>exact .clip (h.mono hx.same hx.shrink)
 |ref hu h =>
  refine .ref (hx.usd _ hu) fun o' ho'=>?_;obtain⟨o,ho,hl,hst⟩:=hx.obj _ hu o' ho';obtain⟨cs,b,rfl,hn,hv⟩:=h o ho;cases o' with
  |var cs'=>exact⟨cs',b,rfl,by rw[show _=_ from hst];exact hn,hv⟩
  |row _ _ _=>exact hl.elim
  |map _ _ _=>exact hl.elim
  |iter _ _ _=>exact hl.elim
  |loop _ _ _=>exact hl.elim
  |tab _ _ _=>exact hl.elim
 |eref hu hi hoff h =>
  refine .eref (hx.usd _ hu) hi hoff fun o' ho'=>?_;obtain⟨o,ho,hl,hst⟩:=hx.obj _ hu o' ho';obtain⟨e,sz0,xs,rfl,hn,hv⟩:=h o ho;cases o' with
  |row e' sz' xs' =>
   obtain⟨rfl,rfl,hle⟩:=hl;refine⟨_,_,xs',rfl,by omega,fun he=>?_⟩;rw[hst (by omega)];exact hv (by omega)
  |var _=>exact hl.elim
  |map _ _ _=>exact hl.elim
  |iter _ _ _=>exact hl.elim
  |loop _ _ _=>exact hl.elim
  |tab _ _ _=>exact hl.elim
 |rv hu hc hlo h =>
  refine .rv (hx.usd _ hu) hc hlo fun o' ho'=>?_;obtain⟨o,ho,hl,hst⟩:=hx.obj _ hu o' ho';obtain⟨e,sz0,xs,rfl,hn,hv⟩:=h o ho;cases o' with
  |row e' sz' xs' =>
   obtain⟨rfl,rfl,hle⟩:=hl;refine⟨_,_,xs',rfl,by omega,fun he=>?_⟩;rw[hst (by omega)];exact hv (by omega)
  |var _=>exact hl.elim
  |map _ _ _=>exact hl.elim
  |iter _ _ _=>exact hl.elim
  |loop _ _ _=>exact hl.elim
  |tab _ _ _=>exact hl.elim
 |mref hu h =>
  refine .mref (hx.usd _ hu) fun o' ho'=>?_;obtain⟨o,ho,hl,hst⟩:=hx.obj _ hu o' ho';obtain⟨cs,b,rfl,hn,hv⟩:=h o ho;cases o' with
  |var cs'=>exact⟨cs',b,rfl,by rw[show _=_ from hst];exact hn,hv⟩
  |row _ _ _=>exact hl.elim
  |map _ _ _=>exact hl.elim
  |iter _ _ _=>exact hl.elim
  |loop _ _ _=>exact hl.elim
  |tab _ _ _=>exact hl.elim
 |dref val hb hM hc h1 h2 =>
  refine .dref val (Nat.lt_of_lt_of_le hb hx.same.size) (fun hh=>hM (hx.shrink _ hb hh)) hc (fun j d hd=>?_) (fun j d hd=>(h2 j d hd).mono hx.same hx.shrink);rw[hx.same.cell (by rw[CB];exact hb) (by rw[CB];exact hM)];exact h1 j d hd
 |fn hl _ ih=>exact .fn hl ih
 |yld hu h =>
  refine .yld (hx.usd _ hu) fun o' ho'=>?_;obtain⟨o,ho,hl,hst⟩:=hx.obj _ hu o' ho';obtain⟨Y,cs,st,rfl,hn⟩:=h o ho;cases o' with
  |loop Y' cs' st'=>exact⟨Y',cs',st',rfl,by rw[show _=_ from hst];exact hn⟩
  |row _ _ _=>exact hl.elim
  |map _ _ _=>exact hl.elim
  |iter _ _ _=>exact hl.elim
  |var _=>exact hl.elim
  |tab _ _ _=>exact hl.elim
 |map hu h =>
  refine .map (hx.usd _ hu) fun o' ho'=>?_;obtain⟨o,ho,hl,hst⟩:=hx.obj _ hu o' ho';obtain⟨kt,et,es,rfl,hn⟩:=h o ho;cases o' with
  |map kt' et' es'=>exact⟨_,_,es',rfl,by rw[show _=_ from hst];exact hn⟩
  |row _ _ _=>exact hl.elim
  |var _=>exact hl.elim
  |iter _ _ _=>exact hl.elim
  |loop _ _ _=>exact hl.elim
  |tab _ _ _=>exact hl.elim
 |it hu h =>
  refine .it (hx.usd _ hu) fun o' ho'=>?_;obtain⟨o,ho,hl,hst⟩:=hx.obj _ hu o' ho';obtain⟨m,c,seen,b,rfl,hn,hv⟩:=h o ho;cases o' with
  |iter m' c' s'=>exact⟨m',c',s',b,rfl,by rw[show _=_ from hst];exact hn,hv⟩
  |loop _ _ _=>exact hl.elim
  |tab _ _ _=>exact hl.elim
  |row _ _ _=>exact hl.elim
  |var _=>exact hl.elim
  |map _ _ _=>exact hl.elim
 |vs hu hc h =>
  refine .vs (hx.usd _ hu) hc fun o' ho'=>?_;obtain⟨o,ho,hl,hst⟩:=hx.obj _ hu o' ho';obtain⟨cs,b,rfl,hn,hv,hle⟩:=h o ho;cases o' with
  |var cs'=>exact⟨cs',b,rfl,by rw[show _=_ from hst];exact hn,hv,by rw[← show cs.length=cs'.length from hl];exact hle⟩
  |row _ _ _=>exact hl.elim
  |map _ _ _=>exact hl.elim
  |iter _ _ _=>exact hl.elim
  |loop _ _ _=>exact hl.elim
  |tab _ _ _=>exact hl.elim
 |tab hu h1 hc ha h =>
  refine .tab (hx.usd _ hu) h1 hc ha fun o' ho'=>?_;obtain⟨o,ho,hl,hst⟩:=hx.obj _ hu o' ho';obtain⟨T,rows,q,rfl,hn,hv⟩:=h o ho;cases o' with
  |tab T' rows' q' =>
   obtain⟨rfl,hle,hil⟩:=hl;refine⟨_,rows',q',rfl,by omega,fun he=>?_⟩;rw[hst.1 (by omega)];exact hv (by omega)
  |var _=>exact hl.elim
  |row _ _ _=>exact hl.elim
  |map _ _ _=>exact hl.elim
  |iter _ _ _=>exact hl.elim
  |loop _ _ _=>exact hl.elim
 |trow hu h1 hc ha h =>
  refine .trow (hx.usd _ hu) h1 hc ha fun o' ho'=>?_;obtain⟨o,ho,hl,hst⟩:=hx.obj _ hu o' ho';obtain⟨T,rows,q,rfl,hi,hn,hv⟩:=h o ho;cases o' with
  |tab T' rows' q' =>
   obtain⟨rfl,hle,hil⟩:=hl;obtain⟨l1,l2⟩:=hil _ hi;refine⟨_,rows',q',rfl,by omega,by omega,fun hq he=>?_⟩;rw[hst.2 _ hi (by omega) hq];exact hv (fun hh=>by rcases l2 hh with h|h;· exact hq h
                                                                                                                                                            ·omega) (by omega)
  |var _=>exact hl.elim
  |row _ _ _=>exact hl.elim
  |map _ _ _=>exact hl.elim
  |iter _ _ _=>exact hl.elim
  |loop _ _ _=>exact hl.elim
 |toref hu hi hoff h =>
  refine .toref (hx.usd _ hu) hi hoff fun o' ho'=>?_;obtain⟨o,ho,hl,hst⟩:=hx.obj _ hu o' ho';obtain⟨T,rows,q,rfl,hn,hv⟩:=h o ho;cases o' with
  |tab T' rows' q' =>
   obtain⟨rfl,hle,hil⟩:=hl;refine⟨_,rows',q',rfl,by omega,fun he=>?_⟩;rw[hst.1 (by omega)];exact hv (by omega)
  |var _=>exact hl.elim
  |row _ _ _=>exact hl.elim
  |map _ _ _=>exact hl.elim
  |iter _ _ _=>exact hl.elim
  |loop _ _ _=>exact hl.elim
 |tref hu hj hoff h =>
  refine .tref (hx.usd _ hu) hj hoff fun o' ho'=>?_;obtain⟨o,ho,hl,hst⟩:=hx.obj _ hu o' ho';obtain⟨T,rows,q,rfl,hi,hn,hv⟩:=h o ho;cases o' with
  |tab T' rows' q' =>
   obtain⟨rfl,hle,hil⟩:=hl;obtain⟨l1,l2⟩:=hil _ hi;refine⟨_,rows',q',rfl,by omega,by omega,fun hq he=>?_⟩;rw[hst.2 _ hi (by omega) hq];exact hv (fun hh=>by rcases l2 hh with h|h;· exact hq h
                                                                                                                                                            ·omega) (by omega)
  |var _=>exact hl.elim
  |row _ _ _=>exact hl.elim
  |map _ _ _=>exact hl.elim
  |iter _ _ _=>exact hl.elim
  |loop _ _ _=>exact hl.elim
theorem CT.refl(M:Nat→Prop)(H:Nat→Option HO)(ν:Nat→Value)(used:Nat→Prop)(w:World):CT M H ν used w M H ν used w :=
 ⟨Bi.refl _ _,fun _ _ h=>h,fun _ h=>h,fun k _ o ho=>⟨o,ho,HO.later.refl o,HO.keeps_of⟩,Bi.refl _ _,fun _ _ h=>h⟩
theorem HO.later.trans{a b c:HO}(h:a.later b)(h':b.later c):a.later c:=by
 cases a<;>cases b<;>first|exact h.elim|skip
 all_goals cases c<;>first|exact h'.elim|skip
 ·exact Eq.trans h h'
 ·exact⟨h.1.trans h'.1,h.2.1.trans h'.2.1,Nat.le_trans h.2.2 h'.2.2⟩
 ·exact⟨h.1.trans h'.1,h.2.trans h'.2⟩
 ·exact⟨h.1.trans h'.1,h.2.trans h'.2⟩
 ·exact Eq.trans h h'
 ·obtain⟨rfl,h2,h3⟩:=h;obtain⟨rfl,k2,k3⟩:=h';refine⟨rfl,by omega,fun i hi=>?_⟩;obtain⟨l1,l2⟩:=h3 i hi;obtain⟨m1,m2⟩:=k3 i (by omega);exact⟨by omega,fun hq=>by rcases l2 hq with h|h
                                                                                                                                                               ·rcases m2 h with h|h
                                                                                                                                                                ·exact .inl h
                                                                                                                                                                ·exact .inr (by omega)
                                                                                                                                                               ·exact .inr (by omega)⟩
theorem HO.keeps.trans{a b c:HO}{u v w:Value}(h:a.later b)(h':b.later c)(k:a.keeps b u v)(k':b.keeps c v w):a.keeps c u w:=by
 cases a<;>cases b<;>first|exact h.elim|skip
 all_goals cases c<;>first|exact h'.elim|skip
 ·exact Eq.trans k' k
 ·intro hl;have h1:=h.2.2;have h2:=h'.2.2;exact(k' (by omega)).trans (k (by omega))
 ·exact Eq.trans k' k
 ·exact Eq.trans k' k
 ·exact Eq.trans k' k
 ·obtain⟨rfl,h2,h3⟩:=h;obtain⟨rfl,m2,m3⟩:=h';refine⟨fun hl=>(k'.1 (by omega)).trans (k.1 (by omega)),fun i hi hl hq=>?_⟩;obtain⟨l1,l2⟩:=h3 i hi;obtain⟨n1,n2⟩:=m3 i (by omega);refine(k'.2 i (by omega) (by omega) hq).trans (k.2 i hi (by omega) (fun hh=>?_));rcases n2 hh with h|h
  ·exact hq h
  ·omega
theorem CT.trans{M M' M'':Nat→Prop}{H H' H'':Nat→Option HO}{ν ν' ν'':Nat→Value}{used used' used'':Nat→Prop}{w w' w'':World}
 (h:CT M H ν used w M' H' ν' used' w') (k:CT M' H' ν' used' w' M'' H'' ν'' used'' w''):CT M H ν used w M'' H'' ν'' used'' w'':=by
 refine⟨⟨Nat.le_trans h.same.size k.same.size,fun b hb hM=>?_⟩,fun b hb hM=>h.shrink b hb (k.shrink b (Nat.lt_of_lt_of_le hb h.same.size) hM),fun q hq=>k.usd q (h.usd q hq),fun q hq o'' ho''=>?_,⟨Nat.le_trans h.same.size k.same.size,fun b hb hM=>?_⟩,fun b hb hM=>h.shrinkO b hb (k.shrinkO b (Nat.lt_of_lt_of_le hb h.same.size) hM)⟩
 ·rw[k.same.block b (Nat.lt_of_lt_of_le hb h.same.size) (fun hh=>hM (h.shrink b hb hh)),h.same.block b hb hM]
 ·obtain⟨o',ho',hl',hs'⟩:=k.obj q (h.usd q hq) o'' ho'';obtain⟨o,ho,hl,hs⟩:=h.obj q hq o' ho';exact⟨o,ho,hl.trans hl',HO.keeps.trans hl hl' hs hs'⟩
 ·rw[k.sameO.block b (Nat.lt_of_lt_of_le hb h.same.size) (fun hh=>hM (h.shrinkO b hb hh)),h.sameO.block b hb hM]
end Go.Eng
namespace Go.Eng
open Go.RowKit
def Fo(sz:Nat)(xs:List D):Prop:=∀x∈xs,x.comps.length=sz∧∀d∈x.comps,d.cell=true
def D6(w:World)(M:Nat→Prop)(sz:Nat)(xs:List D)(vals:List Value):Prop :=
 ∀(i:Nat) x (j:Nat) d,xs[i]? =some x→x.comps[j]? =some d→∃u,vals[i * sz+j]? =some u∧An w M d u
def C2(w:World)(base:Nat)(e:TypeId)(sz:Nat)(v:Value)(n:Nat)(xs:List Value):Prop :=
 xs.length=n * sz∧((v= .slice none 0 0∧n=0) ∨
  ∃g cap cur,v= .slice (some ⟨g,0,none⟩) n cap∧base≤g∧w.heap[g]? =some (.cells cur e (0,0))∧n≤cap∧cap≤maxLen∧cap * sz≤cur.size∧cur.toList.take (n * sz)=xs)
theorem C2.of{w:World}{base:Nat}{e:TypeId}{sz n:Nat}{v:Value}{xs:List Value}(h:w.ownsRow base e sz v n xs):C2 w base e sz v n xs:=by
 refine⟨h.1,?_⟩;rcases h.2 with h|⟨g,cap,cur,h1,h2,h3,h4,h5,h6,h7⟩
 ·exact .inl h
 ·exact .inr ⟨g,cap,cur,h1,h2,h3,h4,h5,by omega,h7⟩
theorem C2.nil{w:World}{base:Nat}{e:TypeId}{sz:Nat}:C2 w base e sz (.slice none 0 0) 0 []:=⟨by simp,.inl ⟨rfl,rfl⟩⟩
theorem C2.lt{w:World}{base:Nat}{e:TypeId}{sz n:Nat}{v:Value}{xs:List Value}(h:C2 w base e sz v n xs):∀k,v.ownBlock=some k→base≤k∧k<w.heap.size:=by
 intro k hk;rcases h.2 with⟨rfl,_⟩|⟨g,cap,cur,rfl,hb,hg,_⟩
 ·simp[Value.ownBlock]at hk
 ·simp[Value.ownBlock]at hk;subst hk;refine⟨hb,?_⟩;by_cases hlt:g<w.heap.size
  ·exact hlt
  ·rw[Array.getElem?_eq_none (by omega)]at hg;cases hg
theorem C2.cells{w:World}{base:Nat}{e:TypeId}{sz n:Nat}{v:Value}{xs:List Value}(h:C2 w base e sz v n xs){g:Nat}(hg:v.ownBlock=some g):∀(j:Nat) u,xs[j]? =some u→w.cell? ((⟨g,0,none⟩:Addr).add j)=some u:=by
 intro j u hj;rcases h.2 with⟨rfl,_⟩|⟨g',cap,cur,rfl,hb,hh,_,_,_,ht⟩
 ·simp[Value.ownBlock]at hg
 ·simp[Value.ownBlock]at hg;subst hg;rw[← ht,List.getElem?_take]at hj;split at hj
  ·have:=hj;simp only[Array.getElem?_toList]at this;by_cases h0:j=0
   ·subst h0;simp[World.cell?,Addr.add,hh,this]
   ·simp[World.cell?,Addr.add,hh,this,h0]
  ·cases hj
def E6(base:Nat)(w:World)(M:Nat→Prop)(v:Value)(T:Tb)(rows:List D)(q:Option Nat):Prop :=
 (∃vs,v= .tuple vs∧vs.size=rows.length+1)∧(0<T.so∧0<T.si∧Fo T.so rows) ∧
 (∀i j b,Ag (AB v i)=some b→Ag (AB v j)=some b→i=j) ∧
 ∃vals,C2 w base T.eo T.so (AB v 0) rows.length vals∧∀(i:Nat) r,rows[i]? =some r →
  (r.comps[T.off]? =some (.sl T.si (T.inn r))∧Fo T.si (T.inn r)) ∧
  (q≠some i→vals[i * T.so+T.off]? =some (AB v (i+1))∧∃vs,C2 w base T.ei T.si (AB v (i+1)) (T.inn r).length vs∧D6 w M T.si (T.inn r) vs) ∧
  (q=some i→Ag (AB v (i+1))=none) ∧
  ∀(j:Nat) d,j≠T.off→r.comps[j]? =some d→∃u,vals[i * T.so+j]? =some u∧An w M d u
theorem Ib{vs:Array Value}{b:Nat}:AL (.tuple vs) b↔∃i,Ag (AB (.tuple vs) i)=some b:=by
 constructor
 ·rintro⟨u,hu,hb⟩;obtain⟨i,hi⟩:=List.mem_iff_getElem?.1 hu;refine⟨i,?_⟩;have hi':vs[i]? =some u:=by simpa using hi
  simp[AB,Array.getD_eq_getD_getElem?,hi',hb]
 ·rintro⟨i,hi⟩;cases h:vs[i]? with
  |none=>simp[AB,Array.getD_eq_getD_getElem?,h,undef,Ag]at hi
  |some u =>
   simp[AB,Array.getD_eq_getD_getElem?,h]at hi;exact⟨u,by rw[List.mem_iff_getElem?];exact⟨i,by simpa using h⟩,hi⟩
theorem AY{v:Value}{vs:Array Value}(h:v= .tuple vs){i b:Nat}(hb:Ag (AB v i)=some b):AL v b:=by
 subst h;exact Ib.2 ⟨i,hb⟩
def Ky(base:Nat)(w:World)(M:Nat→Prop)(H:Nat→Option HO)(ν:Nat→Value)(used:Nat→Prop)(v:Value):HO→Prop
 |.var cs=>∃b cells e,v= .pointer (some ⟨b,0,none⟩)∧w.heap[b]? =some (.cells cells e (0,0))∧cells.size=cs.length∧(∀c∈cs,c.cell=true) ∧
   ∀(i:Nat) av u,cs[i]? =some av→cells[i]? =some u→A5 w M H ν used av u
 |.row e sz xs=>∃vals,C2 w base e sz v xs.length vals∧0<sz∧Fo sz xs∧D6 w M sz xs vals
 |.map kt et es=>∃r entries,v= .map (some r)∧w.heap[r]? =some (.map entries es.length)∧entries.size=es.length ∧
   ∀(i:Nat) kd vd en,es[i]? =some (kd,vd)→entries[i]? =some en→en.born=i∧An w M kd en.key∧An w M vd en.val
 |.iter m c seen=>∃b mr,v= .pointer (some ⟨b,0,none⟩)∧w.heap[b]? =some (.mapIter (some mr) c seen.toArray c)∧used m ∧
   ∀o,H m=some o→∃kt et es,o= .map kt et es∧ν m= .map (some mr)
 |.loop Y cs st=>∃l lr,v= .func (.yield l) #[] #[]∧w.heap[l]? =some (.loop lr)∧(lr.params=Y.ps∧lr.assign=Y.assign∧lr.body=Y.body)∧st.of lr∧lr.tmps.size=Y.N ∧
   ∀n av,lk cs n=some av→A5 w M H ν used av (lr.tmps.getD n undef)
 |.tab T rows q=>E6 base w M v T rows q
theorem GW{w w':World}{base:Nat}{e:TypeId}{sz n:Nat}{v:Value}{vals:List Value}(h:C2 w base e sz v n vals)(hb:∀b,AL v b→w'.heap[b]? =w.heap[b]?):C2 w' base e sz v n vals:=by
 refine⟨h.1,?_⟩;rcases h.2 with hn|⟨g,cap,cur,rfl,hbg,hg,rest⟩
 ·exact .inl hn
 ·exact .inr ⟨g,cap,cur,rfl,hbg,by rw[hb g rfl];exact hg,rest⟩
theorem C2.keep{w w':World}{base:Nat}{e:TypeId}{sz n:Nat}{v:Value}{vals:List Value}(h:C2 w base e sz v n vals)(hb:∀b,Ag v=some b→w'.heap[b]? =w.heap[b]?):C2 w' base e sz v n vals:=by
 refine⟨h.1,?_⟩;rcases h.2 with hn|⟨g,cap,cur,rfl,hbg,hg,rest⟩
 ·exact .inl hn
 ·exact .inr ⟨g,cap,cur,rfl,hbg,by rw[hb g rfl];exact hg,rest⟩
theorem D6.mono{w w':World}{M M':Nat→Prop}{sz:Nat}{xs:List D}{vals:List Value}(h:D6 w M sz xs vals)(hs:Bi M w w')(hM:∀b,b<w.heap.size→M' b→M b):D6 w' M' sz xs vals :=
 fun i x j d hx hd=>let ⟨u,hu,hr⟩:=h i x j d hx hd;⟨u,hu,hr.mono hs hM⟩
theorem E6.mono{base:Nat}{M M':Nat→Prop}{w w':World}(hs:Bi M w w')(hM:∀b,b<w.heap.size→M' b→M b){v:Value}{T:Tb}{rows:List D}{q:Option Nat}
 (hb:∀b,AL v b→w'.heap[b]? =w.heap[b]?) (h:E6 base w M v T rows q):E6 base w' M' v T rows q:=by
 obtain⟨⟨vs,hv,hsz⟩,h1,h2,vals,ho,hr⟩:=h;refine⟨⟨vs,hv,hsz⟩,h1,h2,vals,ho.keep (fun b h=>hb b (AY hv h)),fun i r hi=>?_⟩;obtain⟨a1,a2,a3,a4⟩:=hr i r hi;refine⟨a1,fun hq=>?_,a3,fun j d hj hd=>?_⟩
 ·obtain⟨b1,us,b2,b3⟩:=a2 hq;exact⟨b1,us,b2.keep (fun b h=>hb b (AY hv h)),b3.mono hs hM⟩
 ·obtain⟨u,hu,hr⟩:=a4 j d hj hd;exact⟨u,hu,hr.mono hs hM⟩
theorem Ky.ext{base:Nat}{M M':Nat→Prop}{H H':Nat→Option HO}{ν ν':Nat→Value}{used used':Nat→Prop}{w w':World}(hx:CT M H ν used w M' H' ν' used' w'){v:Value}{o:HO}
 (hb:∀b,AL v b→w'.heap[b]? =w.heap[b]?) (h:Ky base w M H ν used v o):Ky base w' M' H' ν' used' v o:=by
 cases o with
 |var cs =>
  obtain⟨b,cells,e,rfl,hg,hl,hc,hr⟩:=h;exact⟨b,cells,e,rfl,by rw[hb b rfl];exact hg,hl,hc,fun i av u h1 h2=>(hr i av u h1 h2).ext hx⟩
 |row e sz xs =>
  obtain⟨vals,ho,hz,hf,hr⟩:=h;exact⟨vals,GW ho hb,hz,hf,hr.mono hx.same hx.shrink⟩
 |map kt et es =>
  obtain⟨r,entries,rfl,hg,hl,hr⟩:=h;exact⟨r,entries,rfl,by rw[hb r rfl];exact hg,hl,fun i kd vd en h1 h2=>let ⟨a,b,c⟩:=hr i kd vd en h1 h2;⟨a,b.mono hx.same hx.shrink,c.mono hx.same hx.shrink⟩⟩
 |iter m c seen =>
  obtain⟨b,mr,rfl,hg,hu,hm⟩:=h;refine⟨b,mr,rfl,by rw[hb b rfl];exact hg,hx.usd _ hu,fun o' ho'=>?_⟩;obtain⟨o,ho,hl,hst⟩:=hx.obj _ hu o' ho';obtain⟨kt,et,es,rfl,hn⟩:=hm o ho;cases o' with
  |map kt' et' es'=>exact⟨_,_,es',rfl,by rw[show _=_ from hst];exact hn⟩
  |row _ _ _=>exact hl.elim
  |var _=>exact hl.elim
  |iter _ _ _=>exact hl.elim
  |loop _ _ _=>exact hl.elim
  |tab _ _ _=>exact hl.elim
 |tab T rows q=>exact E6.mono hx.same hx.shrink hb h
 |loop Y cs st =>
  obtain⟨l,lr,rfl,hg,h1,h2,hl,hr⟩:=h;exact⟨l,lr,rfl,by rw[hb l rfl];exact hg,h1,h2,hl,fun n av h1=>(hr n av h1).ext hx⟩
structure DT where
 w0:World
 M0:Nat→Prop
 lo:Nat:=0
 wd:Wd w0
def DT.at(X:DT)(n:Nat):DT:=⟨X.w0,X.M0,n,X.wd⟩
def DT.base(X:DT):Nat:=X.w0.heap.size
structure At(X:DT)(H:Nat→Option HO)(ν:Nat→Value)(used:Nat→Prop)(w:World):Prop where
 below:Bl X.base X.w0 w
 M0:∀b,X.M0 b→b<w.heap.size
 far:∀k o b,H k=some o→AL (ν k) b→¬X.M0 b
 usd:∀k o,H k=some o→used k
 blk:∀k o b,H k=some o→AL (ν k) b→X.base≤b∧b<w.heap.size
 inj:∀k k' o o' b,H k=some o→H k'=some o'→AL (ν k) b→AL (ν k') b→k=k'
 obj:∀k o,H k=some o→Ky X.base w (Am X.M0 H ν) H ν used (ν k) o
theorem At.at{X:DT}{H:Nat→Option HO}{ν:Nat→Value}{used:Nat→Prop}{w:World}(h:At X H ν used w)(n:Nat):At (X.at n) H ν used w:=⟨h.below,h.M0,h.far,h.usd,h.blk,h.inj,h.obj⟩
theorem At.unat{X:DT}{H:Nat→Option HO}{ν:Nat→Value}{used:Nat→Prop}{w:World}{n:Nat}(h:At (X.at n) H ν used w):At X H ν used w:=⟨h.below,h.M0,h.far,h.usd,h.blk,h.inj,h.obj⟩
def upd(ν:Nat→Value)(k:Nat)(v:Value):Nat→Value:=fun q=>if q=k then v else ν q
theorem Ac(ν:Nat→Value)(k:Nat)(v:Value):upd ν k v k=v:=by simp[upd]
theorem Al(ν:Nat→Value)(k q:Nat)(v:Value)(h:q≠k):upd ν k v q=ν q:=by simp[upd,h]
theorem At.step{X:DT}{hp:Aa}{ν:Nat→Value}{used used':Nat→Prop}{w w':World}(hI:At X (lk hp) ν used w){k:Nat}{o:HO}{v:Value}
 (hbel:Bl X.base w w') (hx:CT (Am X.M0 (lk hp) ν) (lk hp) ν used w (Am X.M0 (lk (put hp k o)) (upd ν k v)) (lk (put hp k o)) (upd ν k v) used' w')
 (hk:used' k) (hnew:∀b,AL v b→X.base≤b∧b<w'.heap.size∧(∀q o',q≠k→lk hp q=some o'→¬AL (ν q) b)∧¬X.M0 b)
 (hold:∀q o' b,q≠k→lk hp q=some o'→AL (ν q) b→w'.heap[b]? =w.heap[b]?)
 (hrep:Ky X.base w' (Am X.M0 (lk (put hp k o)) (upd ν k v)) (lk (put hp k o)) (upd ν k v) used' v o):At X (lk (put hp k o)) (upd ν k v) used' w':=by
 refine⟨hI.below.trans hbel,fun b hb=>Nat.lt_of_lt_of_le (hI.M0 b hb) hbel.size,fun q o' b hq hb=>?_,fun q o' hq=>?_,fun q o' b hq hb=>?_,fun q q' o1 o2 b h1 h2 hb1 hb2=>?_,fun q o' hq=>?_⟩
 ·by_cases h:q=k
  ·subst h;rw[Ac]at hb;exact(hnew b hb).2.2.2
  ·rw[A9 _ _ _ _ h]at hq;rw[Al _ _ _ _ h]at hb;exact hI.far _ _ _ hq hb
 ·by_cases h:q=k
  ·subst h;exact hk
  ·rw[A9 _ _ _ _ h]at hq;exact hx.usd _ (hI.usd _ _ hq)
 ·by_cases h:q=k
  ·subst h;rw[Ac]at hb;exact⟨(hnew b hb).1,(hnew b hb).2.1⟩
  ·rw[A9 _ _ _ _ h]at hq;rw[Al _ _ _ _ h]at hb;have:=hI.blk _ _ _ hq hb;exact⟨this.1,Nat.lt_of_lt_of_le this.2 hbel.size⟩
 ·by_cases h:q=k
  ·by_cases h':q'=k
   ·rw[h,h']
   ·subst h;rw[A9 _ _ _ _ h']at h2;rw[Ac]at hb1;rw[Al _ _ _ _ h']at hb2;exact absurd hb2 ((hnew b hb1).2.2.1 q' o2 h' h2)
  ·by_cases h':q'=k
   ·subst h';rw[A9 _ _ _ _ h]at h1;rw[Ac]at hb2;rw[Al _ _ _ _ h]at hb1;exact absurd hb1 ((hnew b hb2).2.2.1 q o1 h h1)
   ·rw[A9 _ _ _ _ h]at h1;rw[A9 _ _ _ _ h']at h2;rw[Al _ _ _ _ h]at hb1;rw[Al _ _ _ _ h']at hb2;exact hI.inj _ _ _ _ _ h1 h2 hb1 hb2
 ·by_cases h:q=k
  ·subst h;rw[Ab]at hq;cases hq;rw[Ac];exact hrep
  ·rw[A9 _ _ _ _ h]at hq;have:=(hI.obj _ _ hq).ext hx (fun b hb=>hold q o' b h hq hb)
   rwa [Al _ _ _ _ h]
theorem CT.fresh{M0:Nat→Prop}{hp:Aa}{ν:Nat→Value}{used:Nat→Prop}{w w':World}{k:Nat}(o:HO)(v:Value)(hk:¬used k)
 (hw:w.heap.size≤w'.heap.size) (hb:∀b,b<w.heap.size→w'.heap[b]? =w.heap[b]?) (hv:∀b,AL v b→w.heap.size≤b) (hu:∀q o',lk hp q=some o'→used q) :
 CT (Am M0 (lk hp) ν) (lk hp) ν used w (Am M0 (lk (put hp k o)) (upd ν k v)) (lk (put hp k o)) (upd ν k v) (fun q=>used q∨q=k) w':=by
 refine⟨⟨hw,fun b hb' _=>hb b hb'⟩,fun b hb' hM=>?_,fun q hq=>.inl hq,fun q hq o' ho'=>?_,⟨hw,fun b hb' _=>hb b hb'⟩,fun b hb' hM=>?_⟩
 ·rcases hM with h|⟨q,o',hq,hbq⟩
  ·exact .inl h
  ·by_cases h:q=k
   ·subst h;rw[Ac]at hbq;exact absurd (hv b hbq) (by omega)
   ·rw[A9 _ _ _ _ h]at hq;rw[Al _ _ _ _ h]at hbq;exact .inr ⟨q,o',hq,hbq⟩
 ·have h:q≠k:=fun h=>hk (h▸hq);rw[A9 _ _ _ _ h]at ho';exact⟨o',ho',HO.later.refl _,HO.keeps_eq (Al _ _ _ _ h)⟩
 ·obtain⟨q,o',hq,hbq⟩:=hM;by_cases h:q=k
  ·subst h;rw[Ac]at hbq;exact absurd (hv b hbq) (by omega)
  ·rw[A9 _ _ _ _ h]at hq;rw[Al _ _ _ _ h]at hbq;exact⟨q,o',hq,hbq⟩
theorem At.alloc{X:DT}{hp:Aa}{ν:Nat→Value}{used:Nat→Prop}{w:World}(hI:At X (lk hp) ν used w){k:Nat}(hk:¬used k)(ob:Obj)(o:HO)(v:Value)(hv:∀b,AL v b→b=w.heap.size)
 (hrep:∀M' H' ν' used',CT (Am X.M0 (lk hp) ν) (lk hp) ν used w M' H' ν' used' (w.alloc ob)→Ky X.base (w.alloc ob) M' H' ν' used' v o) :
 At X (lk (put hp k o)) (upd ν k v) (fun q=>used q∨q=k) (w.alloc ob) ∧
 CT (Am X.M0 (lk hp) ν) (lk hp) ν used w (Am X.M0 (lk (put hp k o)) (upd ν k v)) (lk (put hp k o)) (upd ν k v) (fun q=>used q∨q=k) (w.alloc ob):=by
 have hx:=CT.fresh (M0:=X.M0) (hp:=hp) (ν:=ν) (used:=used) (w:=w) (w':=w.alloc ob) (k:=k) o v hk (by simp) (fun b hb=>Below.heap_alloc w ob b hb)
  (fun b hb=>by rw[hv b hb];exact Nat.le_refl _) hI.usd
 have hbel:Bl X.base w (w.alloc ob):=⟨(Below.refl _ _).alloc hI.below.size ob,Nat.le_refl _⟩
 refine⟨hI.step hbel hx (.inr rfl) (fun b hb=>?_) (fun q o' b _ hq hb=>?_) (hrep _ _ _ _ hx),hx⟩
 ·have hb:=hv b hb;subst hb;exact⟨hI.below.size,by simp,fun q o' _ hq hbq=>by have:=(hI.blk _ _ _ hq hbq).2;omega,fun hh=>by have:=hI.M0 _ hh;omega⟩
 ·exact Below.heap_alloc w ob b (hI.blk _ _ _ hq hb).2
theorem At.write{X:DT}{hp:Aa}{ν:Nat→Value}{used:Nat→Prop}{w:World}(hI:At X (lk hp) ν used w){k:Nat}{o o':HO}(ho:lk hp k=some o){b:Nat}(hb:AL (ν k) b)(cs:Array Value)
 (hl:o.later o')
 (hrep:∀M' H',CT (Am X.M0 (lk hp) ν) (lk hp) ν used w M' H' ν used (w.setRow b cs)→Ky X.base (w.setRow b cs) M' H' ν used (ν k) o') :
 At X (lk (put hp k o')) ν used (w.setRow b cs) ∧
 CT (Am X.M0 (lk hp) ν) (lk hp) ν used w (Am X.M0 (lk (put hp k o')) ν) (lk (put hp k o')) ν used (w.setRow b cs):=by
 have hM:Am X.M0 (lk hp) ν b:=.inr ⟨k,o,ho,hb⟩;have hx:CT (Am X.M0 (lk hp) ν) (lk hp) ν used w (Am X.M0 (lk (put hp k o')) ν) (lk (put hp k o')) ν used (w.setRow b cs):=by
  refine⟨⟨by simp,fun b' _ hM'=>setRow_other _ _ _ _ (fun h=>hM' (h▸hM))⟩,fun b' _ hM'=>?_,fun q hq=>hq,fun q hq o'' ho''=>?_,⟨by simp,fun b' _ hM'=>setRow_other _ _ _ _ (fun h=>hM' (h▸⟨k,o,ho,hb⟩))⟩,fun b' _ hM'=>?_⟩
  ·rcases hM' with h|⟨q,o'',hq,hbq⟩
   ·exact .inl h
   ·by_cases h:q=k
    ·subst h;exact .inr ⟨q,o,ho,hbq⟩
    ·rw[A9 _ _ _ _ h]at hq;exact .inr ⟨q,o'',hq,hbq⟩
  ·by_cases h:q=k
   ·subst h;rw[Ab]at ho'';cases ho'';exact⟨o,ho,hl,HO.keeps_of⟩
   ·rw[A9 _ _ _ _ h]at ho'';exact⟨o'',ho'',HO.later.refl _,HO.keeps_of⟩
  ·obtain⟨q,o'',hq,hbq⟩:=hM';by_cases h:q=k
   ·subst h;exact⟨q,o,ho,hbq⟩
   ·rw[A9 _ _ _ _ h]at hq;exact⟨q,o'',hq,hbq⟩
 have hbk:=hI.blk _ _ _ ho hb;have hbel:Bl X.base w (w.setRow b cs):=⟨⟨rfl,rfl,rfl,by simp,fun q hq=>setRow_other _ _ _ _ (by omega)⟩,Nat.le_refl _⟩
 have hν:upd ν k (ν k)=ν:=by funext q;by_cases h:q=k<;>simp[upd,h]
 have:=hI.step (k:=k) (o:=o') (v:=ν k) (used':=used) (w':=w.setRow b cs) hbel (by rw[hν];exact hx) (hI.usd _ _ ho)
  (fun b' hb'=>⟨(hI.blk _ _ _ ho hb').1,by simpa using(hI.blk _ _ _ ho hb').2,fun q o'' hne hq hbq=>hne (hI.inj _ _ _ _ _ hq ho hbq hb'),hI.far _ _ _ ho hb'⟩)
  (fun q o'' b' hne hq hb'=>setRow_other _ _ _ _ (fun h=>hne (hI.inj _ _ _ _ _ hq ho (h▸hb') hb))) (by rw[hν];exact hrep _ _ hx)
 rw[hν]at this;exact⟨this,hx⟩
theorem At.drop{X:DT}{hp:Aa}{ν:Nat→Value}{used:Nat→Prop}{w:World}(hI:At X (lk hp) ν used w)(k:Nat) :
 At X (lk (DM hp k)) ν used w∧CT (Am X.M0 (lk hp) ν) (lk hp) ν used w (Am X.M0 (lk (DM hp k)) ν) (lk (DM hp k)) ν used w:=by
 have hsub:∀q o,lk (DM hp k) q=some o→lk hp q=some o:=fun q o h=>by
  by_cases e:q=k
  ·subst e;rw[B3]at h;cases h
  ·rwa [Bc _ _ _ e]at h
 have hx:CT (Am X.M0 (lk hp) ν) (lk hp) ν used w (Am X.M0 (lk (DM hp k)) ν) (lk (DM hp k)) ν used w :=
  ⟨Bi.refl _ _,fun b _ h=>by
   rcases h with h|⟨q,o,hq,hb⟩
   ·exact .inl h
   ·exact .inr ⟨q,o,hsub _ _ hq,hb⟩,fun _ h=>h,fun q _ o ho=>⟨o,hsub _ _ ho,HO.later.refl _,HO.keeps_of⟩,Bi.refl _ _,fun b _ ⟨q,o,hq,hb⟩=>⟨q,o,hsub _ _ hq,hb⟩⟩
 exact⟨⟨hI.below,hI.M0,fun q o b hq hb=>hI.far _ _ _ (hsub _ _ hq) hb,fun q o hq=>hI.usd _ _ (hsub _ _ hq),fun q o b hq hb=>hI.blk _ _ _ (hsub _ _ hq) hb,fun q q' o o' b h h'=>hI.inj _ _ _ _ _ (hsub _ _ h) (hsub _ _ h'),
  fun q o hq=>(hI.obj _ _ (hsub _ _ hq)).ext hx (fun _ _=>rfl)⟩,hx⟩
theorem At.world{X:DT}{H:Nat→Option HO}{ν:Nat→Value}{used:Nat→Prop}{w w':World}(hI:At X H ν used w)(hb:Bl w.heap.size w w') :
 At X H ν used w'∧CT (Am X.M0 H ν) H ν used w (Am X.M0 H ν) H ν used w':=by
 have hx:CT (Am X.M0 H ν) H ν used w (Am X.M0 H ν) H ν used w':=⟨Bi.of_below hb _,fun _ _ h=>h,fun _ h=>h,fun q _ o ho=>⟨o,ho,HO.later.refl _,HO.keeps_of⟩,Bi.of_below hb _,fun _ _ h=>h⟩
 exact⟨⟨hI.below.trans (hb.mono hI.below.size),fun b h=>Nat.lt_of_lt_of_le (hI.M0 b h) hb.size,hI.far,hI.usd,fun k o b h h'=>⟨(hI.blk k o b h h').1,Nat.lt_of_lt_of_le (hI.blk k o b h h').2 hb.size⟩,hI.inj,
  fun k o h=>(hI.obj k o h).ext hx (fun b hb'=>hb.block b (hI.blk k o b h hb').2)⟩,hx⟩
theorem At.used_mono{X:DT}{H:Nat→Option HO}{ν:Nat→Value}{used used':Nat→Prop}{w:World}(hI:At X H ν used w)(hu:∀k,used k→used' k)(hn:∀k,used' k→¬used k→H k=none) :
 At X H ν used' w:=by
 have hx:CT (Am X.M0 H ν) H ν used w (Am X.M0 H ν) H ν used' w:=⟨Bi.refl _ _,fun _ _ h=>h,hu,fun q _ o ho=>⟨o,ho,HO.later.refl _,HO.keeps_of⟩,Bi.refl _ _,fun _ _ h=>h⟩
 exact⟨hI.below,hI.M0,hI.far,fun k o h=>hu _ (hI.usd k o h),hI.blk,hI.inj,fun k o h=>(hI.obj k o h).ext hx (fun _ _=>rfl)⟩
end Go.Eng
namespace Go.Eng
open Go.RowKit
def BX:List AV→Option (List D)
 | []=>some []
 |a::az=>match a with
  |.d x=>match BX az with
   |some xs=>if x.cell=true then some (x::xs)else none
   |none=>none
  |_=>none
theorem Hk:∀{az:List AV} {xs:List D},BX az=some xs→xs.length=az.length∧∀(i:Nat) x,xs[i]? =some x→x.cell=true∧az[i]? =some (.d x)
 | [],xs,h=>by simp only[BX,Option.some.injEq]at h;subst h;simp
 |a::az,xs,h=>by
  simp only[BX]at h;split at h
  ·split at h
   ·rename_i x ys hy;split at h
    ·rename_i hc;cases h;obtain⟨h1,h2⟩:=Hk hy;refine⟨by simp[h1],fun i z hz=>?_⟩;cases i with
     |zero=>simp at hz;subst hz;exact⟨hc,rfl⟩
     |succ i=>exact h2 i z (by simpa using hz)
    ·cases h
   ·cases h
  ·cases h
mutual
def Cz(H:Nat→Option HO):AV→Option (D×List Nat)
 |.d x=>some (x,[])
 |.clip sz xs=>some (.sl sz xs,[])
 |.own k n=>match H k with|some (.row _ sz xs)=>if n=xs.length then some (.sl sz xs,[k])else none|_=>none
 |.agg fs=>match FN H fs with|some (ds,ks)=>if ds.all D.cell then some (.agg ds,ks)else none|none=>none
 |.tup fs=>match FN H fs with|some (ds,ks)=>some (.tup ds,ks)|none=>none
 |.fn f caps=>match caps with| []=>some (.fn f,[])|_::_=>none
 |.vs k off n=>match H k with
  |some (.var cs)=>match BX ((cs.drop off).take n)with
   |some xs=>if xs.length=n then some (.sl 1 xs,[k])else none
   |none=>none
  |_=>none
 |.tab k n=>match H k with|some (.tab T rows none)=>if n=rows.length then some (.sl T.so rows,[k])else none|_=>none
 |.trow k i n=>match H k with|some (.tab T rows none)=>if i<rows.length∧n=T.ilen rows i then some (.sl T.si (T.inn (rows.getD i .nils)),[k])else none|_=>none
 |.undef=>none| .ref .. => none| .eref .. => none| .dref .. => none| .map .. => none| .it .. => none| .yld .. => none
 |.toref .. => none| .tref .. => none| .rv .. => none| .mref .. => none
def FN(H:Nat→Option HO):List AV→Option (List D×List Nat)
 | []=>some ([],[])
 |a::az=>match Cz H a with
  |some (x,k)=>match FN H az with
   |some (xs,ks)=>some (x::xs,k++ks)
   |none=>none
  |none=>none
end
theorem row_rep{X:DT}{H:Nat→Option HO}{ν:Nat→Value}{used:Nat→Prop}{w:World}(hI:At X H ν used w){M':Nat→Prop}(hM':∀b,M' b→Am X.M0 H ν b){k:Nat}{e:TypeId}{sz:Nat}{xs:List D}
 (ho:H k=some (.row e sz xs)) (hk:∀b,AL (ν k) b→¬M' b):An w M' (.sl sz xs) (ν k):=by
 obtain⟨vals,hown,hz,hf,hr⟩:=hI.obj _ _ ho;rcases hown.2 with⟨hv,hn⟩|⟨g,cap,cur,hv,hbg,hg,hnc,hcm,hcs,htake⟩
 ·have:xs=[]:=List.eq_nil_of_length_eq_zero hn;subst this;rw[hv];exact .sl0
 ·have hbk:AL (ν k) g:=by rw[hv];exact rfl
  rw[hv];refine .sl (fun i j=>vals.getD (i * sz+j) undef) (fun _=>(hI.blk _ _ _ ho hbk).2) (fun _=>hk g hbk) hnc hcm (fun i x hx=>hf x (List.mem_of_getElem? hx)) (fun i x j d hx hd=>?_) (fun i x j d hx hd=>?_)
  ·obtain⟨u,hu,_⟩:=hr i x j d hx hd;rw[hown.cells (g:=g) (by rw[hv];rfl) _ _ hu];simp[List.getD_eq_getElem?_getD,hu]
  ·obtain⟨u,hu,hru⟩:=hr i x j d hx hd;simp only[List.getD_eq_getElem?_getD,hu,Option.getD_some];exact hru.mono (Bi.refl _ _) (fun b _ h=>hM' b h)
theorem C2.rep{w:World}{M':Nat→Prop}{base:Nat}{e:TypeId}{sz:Nat}{xs:List D}{v:Value}{vals:List Value}(hown:C2 w base e sz v xs.length vals)(hf:Fo sz xs)
 (hr:∀(i:Nat) x (j:Nat) d,xs[i]? =some x→x.comps[j]? =some d→∃u,vals[i * sz+j]? =some u∧An w M' d u) (hk:∀b,Ag v=some b→¬M' b):An w M' (.sl sz xs) v:=by
 have hlt:=hown.lt;have hcl:=@C2.cells _ _ _ _ _ _ _ hown;rcases hown.2 with⟨hv,hn⟩|⟨g,cap,cur,hv,hbg,hg,hnc,hcm,hcs,htake⟩
 ·have:xs=[]:=List.eq_nil_of_length_eq_zero hn;subst this;rw[hv];exact .sl0
 ·subst hv;refine .sl (fun i j=>vals.getD (i * sz+j) undef) (fun _=>(hlt g rfl).2) (fun _=>hk g rfl) hnc hcm (fun i x hx=>hf x (List.mem_of_getElem? hx)) (fun i x j d hx hd=>?_) (fun i x j d hx hd=>?_)
  ·obtain⟨u,hu,_⟩:=hr i x j d hx hd;rw[hcl (g:=g) rfl _ _ hu];simp[List.getD_eq_getElem?_getD,hu]
  ·obtain⟨u,hu,hru⟩:=hr i x j d hx hd;simp only[List.getD_eq_getElem?_getD,hu,Option.getD_some];exact hru
theorem E6.row_rep{base:Nat}{w:World}{M M':Nat→Prop}{v:Value}{T:Tb}{rows:List D}(h:E6 base w M v T rows none)(hM:∀b,M' b→M b)(hk:∀b,AL v b→¬M' b)
 {i:Nat} {r:D} (hi:rows[i]? =some r):An w M' (.sl T.si (T.inn r)) (AB v (i+1)):=by
 obtain⟨⟨vs,hv,hsz⟩,h1,h2,vals,ho,hr⟩:=h;obtain⟨a1,a2,a3,a4⟩:=hr i r hi;obtain⟨b1,us,b2,b3⟩:=a2 (by simp);exact b2.rep a1.2 (fun i x j d hx hd=>let ⟨u,hu,hr⟩:=b3 i x j d hx hd;⟨u,hu,hr.mono (Bi.refl _ _) (fun b _ h=>hM b h)⟩) (fun b h=>hk b (AY hv h))
theorem E6.rep{base:Nat}{w:World}{M M':Nat→Prop}{v:Value}{T:Tb}{rows:List D}(h:E6 base w M v T rows none)(hM:∀b,M' b→M b)(hk:∀b,AL v b→¬M' b) :
 An w M' (.sl T.so rows) (AB v 0):=by
 have h0:=h;obtain⟨⟨vs,hv,hsz⟩,h1,h2,vals,ho,hr⟩:=h;refine ho.rep h1.2.2 (fun i x j d hx hd=>?_) (fun b h=>hk b (AY hv h));obtain⟨a1,a2,a3,a4⟩:=hr i x hx;by_cases hj:j=T.off
 ·subst hj;rw[a1.1]at hd;cases hd;exact⟨_,(a2 (by simp)).1,h0.row_rep hM hk hx⟩
 ·obtain⟨u,hu,hr⟩:=a4 j d hj hd;exact⟨u,hu,hr.mono (Bi.refl _ _) (fun b _ h=>hM b h)⟩
theorem JR{w:World}{b j:Nat}{cells:Array Value}{e:TypeId}{u:Value}(h:w.heap[b]? =some (.cells cells e (0,0)))(hj:cells[j]? =some u)(off i:Nat)(hij:off+i=j):w.cell? ((⟨b,off,none⟩:Addr).add i)=some u:=by
 subst hij;by_cases h0:i=0
 ·subst h0;simp at hj;simp[World.cell?,Addr.add,h,hj]
 ·simp[World.cell?,Addr.add,h,hj,h0]
theorem XK{X:DT}{H:Nat→Option HO}{ν:Nat→Value}{used:Nat→Prop}{w:World}(hI:At X H ν used w){M':Nat→Prop}(hM':∀b,M' b→Am X.M0 H ν b){k off n c:Nat}{cs:List AV}{xs:List D}{a:Addr}
 (ho:H k=some (.var cs)) (hx:BX ((cs.drop off).take n)=some xs) (hn:xs.length=n) (hc:n≤c∧c≤maxLen) {b:Nat} (hν:ν k= .pointer (some ⟨b,0,none⟩)) (ha:a=⟨b,off,none⟩) (hk:∀b,AL (ν k) b→¬M' b):An w M' (.sl 1 xs) (.slice (some a) n c):=by
 subst ha;obtain⟨b',cells,e,hv,hg,hl,hcc,hr⟩:=hI.obj _ _ ho;rw[hν]at hv;cases hv;obtain⟨h1,h2⟩:=Hk hx;have hbk:AL (ν k) b:=by rw[hν];exact rfl
 have at':∀(i:Nat) x,xs[i]? =some x→x.cell=true∧∃u,cells[off+i]? =some u∧An w M' x u:=fun i x hxi=>by
  obtain⟨k1,k2⟩:=h2 i x hxi;have hi:i<n:=by rw[← hn];exact(List.getElem?_eq_some_iff.1 hxi).1
  rw[List.getElem?_take,if_pos hi,List.getElem?_drop]at k2;have hlt:off+i<cells.size:=by rw[hl];exact(List.getElem?_eq_some_iff.1 k2).1
  refine⟨k1,cells[off+i],Array.getElem?_eq_getElem hlt,?_⟩;have:=hr (off+i) _ _ k2 (Array.getElem?_eq_getElem hlt);cases this with
  |d h=>exact h.mono (Bi.refl _ _) (fun b _ h=>hM' b h)
 subst hn;refine .sl (fun i j=>(cells[off+i]?).getD undef) (fun _=>(hI.blk _ _ _ ho hbk).2) (fun _=>hk b hbk) hc.1 hc.2 (fun i x hxi=>?_) (fun i x j d hxi hd=>?_) (fun i x j d hxi hd=>?_)
 ·obtain⟨k1,_⟩:=at' i x hxi;cases x<;>first|(simp[D.cell]at k1;done)|exact⟨rfl,fun d hd=>by simp[D.comps]at hd;subst hd;rfl⟩
 ·obtain⟨k1,u,hu,hru⟩:=at' i x hxi;have hj:j=0∧d=x:=by
   cases x<;>first|(simp[D.cell]at k1;done)|(cases j<;>simp[D.comps]at hd;exact⟨rfl,hd.symm⟩)
  obtain⟨rfl,rfl⟩:=hj;rw[hu];exact JR hg hu off (i * 1+0) (by omega)
 ·obtain⟨k1,u,hu,hru⟩:=at' i x hxi;have hj:j=0∧d=x:=by
   cases x<;>first|(simp[D.cell]at k1;done)|(cases j<;>simp[D.comps]at hd;exact⟨rfl,hd.symm⟩)
  obtain⟨rfl,rfl⟩:=hj;rw[hu];exact hru
mutual
theorem HK{X:DT}{H:Nat→Option HO}{ν:Nat→Value}{used:Nat→Prop}{w:World}(hI:At X H ν used w){M':Nat→Prop}(hM':∀b,M' b→Am X.M0 H ν b) :
 ∀(av:AV) (v:Value) (x:D) (ks:List Nat),A5 w (Am X.M0 H ν) H ν used av v→Cz H av=some (x,ks)→(∀k∈ks,∀b,AL (ν k) b→¬M' b)→An w M' x v
 |.d y,v,x,ks,h,he,hk=>by
  simp only[Cz,Option.some.injEq,Prod.mk.injEq]at he;obtain⟨rfl,rfl⟩:=he;cases h with
  |d h=>exact h.mono (Bi.refl _ _) (fun b _ h=>hM' b h)
 |.clip sz xs,v,x,ks,h,he,hk=>by
  simp only[Cz,Option.some.injEq,Prod.mk.injEq]at he;obtain⟨rfl,rfl⟩:=he;cases h with
  |clip h=>exact h.mono (Bi.refl _ _) (fun b _ h=>hM' b h)
 |.own k n,v,x,ks,h,he,hk=>by
  simp only[Cz]at he;split at he
  ·rename_i e sz xs ho;split at he
   ·rename_i hn;simp only[Option.some.injEq,Prod.mk.injEq]at he;obtain⟨rfl,rfl⟩:=he;cases h with
    |own hu h1 hc ha h =>
     obtain⟨_,_,_,he,_,hv⟩:=h _ ho;cases he;rw[hv hn];exact row_rep hI hM' ho (hk k (by simp))
   ·cases he
  ·cases he
 |.vs k off n,v,x,ks,h,he,hk=>by
  simp only[Cz]at he;split at he
  ·rename_i cs ho;split at he
   ·rename_i xs hx;split at he
    ·rename_i hn;simp only[Option.some.injEq,Prod.mk.injEq]at he;obtain⟨rfl,rfl⟩:=he;cases h with
     |vs hu hc h =>
      obtain⟨_,b,he,hν,ha,_⟩:=h _ ho;cases he;exact XK hI hM' ho hx hn hc hν ha (hk k (by simp))
    ·cases he
   ·cases he
  ·cases he
 |.agg fs,v,x,ks,h,he,hk=>by
  simp only[Cz]at he;split at he
  ·rename_i ds ks' hds;split at he
   ·rename_i hall;simp only[Option.some.injEq,Prod.mk.injEq]at he;obtain⟨rfl,rfl⟩:=he;cases h with
    |agg hl hc h =>
     obtain⟨h1,h2⟩:=G8 hI hM' fs _ _ _ hl h hds hk;exact .agg h1 (by simpa using hall) h2
   ·cases he
  ·cases he
 |.tup fs,v,x,ks,h,he,hk=>by
  simp only[Cz]at he;split at he
  ·rename_i ds ks' hds;simp only[Option.some.injEq,Prod.mk.injEq]at he;obtain⟨rfl,rfl⟩:=he;cases h with
   |tup hl h =>
    obtain⟨h1,h2⟩:=G8 hI hM' fs _ _ _ hl h hds hk;exact .tup h1 h2
  ·cases he
 |.fn f caps,v,x,ks,h,he,hk=>by
  simp only[Cz]at he;split at he
  ·simp only[Option.some.injEq,Prod.mk.injEq]at he;obtain⟨rfl,rfl⟩:=he;cases h with
   |fn hl h =>
    rename_i cs;have:cs=[]:=List.eq_nil_of_length_eq_zero (by simpa using hl.symm);subst this;exact .fn f
  ·cases he
 |.tab k n,v,x,ks,h,he,hk=>by
  simp only[Cz]at he;split at he
  ·rename_i T rows ho;split at he
   ·rename_i hn;simp only[Option.some.injEq,Prod.mk.injEq]at he;obtain⟨rfl,rfl⟩:=he;cases h with
    |tab hu h1 hc ha h =>
     obtain⟨_,_,_,he,_,hv⟩:=h _ ho;cases he;rw[hv hn];exact E6.rep (hI.obj _ _ ho) hM' (hk k (by simp))
   ·cases he
  ·cases he
 |.trow k i n,v,x,ks,h,he,hk=>by
  simp only[Cz]at he;split at he
  ·rename_i T rows ho;split at he
   ·rename_i hn;simp only[Option.some.injEq,Prod.mk.injEq]at he;obtain⟨rfl,rfl⟩:=he;cases h with
    |trow hu h1 hc ha h =>
     obtain⟨_,_,_,he,hi,_,hv⟩:=h _ ho;cases he;rw[hv (by simp) hn.2];exact E6.row_rep (hI.obj _ _ ho) hM' (hk k (by simp)) (by simp[List.getD_eq_getElem?_getD,List.getElem?_eq_getElem hi])
   ·cases he
  ·cases he
 |.undef,_,_,_,_,he,_=>by simp[Cz]at he
 |.toref ..,_,_,_,_,he,_=>by simp[Cz]at he
 |.tref ..,_,_,_,_,he,_=>by simp[Cz]at he
 |.ref ..,_,_,_,_,he,_=>by simp[Cz]at he
 |.eref ..,_,_,_,_,he,_=>by simp[Cz]at he
 |.rv ..,_,_,_,_,he,_=>by simp[Cz]at he
 |.mref ..,_,_,_,_,he,_=>by simp[Cz]at he
 |.dref ..,_,_,_,_,he,_=>by simp[Cz]at he
 |.yld ..,_,_,_,_,he,_=>by simp[Cz]at he
 |.map ..,_,_,_,_,he,_=>by simp[Cz]at he
 |.it ..,_,_,_,_,he,_=>by simp[Cz]at he
theorem G8{X:DT}{H:Nat→Option HO}{ν:Nat→Value}{used:Nat→Prop}{w:World}(hI:At X H ν used w){M':Nat→Prop}(hM':∀b,M' b→Am X.M0 H ν b) :
 ∀(fs:List AV) (cs:List Value) (ds:List D) (ks:List Nat),fs.length=cs.length→(∀(i:Nat) d v,fs[i]? =some d→cs[i]? =some v→A5 w (Am X.M0 H ν) H ν used d v)→FN H fs=some (ds,ks) →
  (∀k∈ks,∀b,AL (ν k) b→¬M' b)→ds.length=cs.length∧∀(i:Nat) d v,ds[i]? =some d→cs[i]? =some v→An w M' d v
 | [],cs,ds,ks,hl,h,he,hk=>by
   simp only[FN,Option.some.injEq,Prod.mk.injEq]at he;obtain⟨rfl,rfl⟩:=he;exact⟨hl,fun i d v hd _=>by simp at hd⟩
 |a::az,cs,ds,ks,hl,h,he,hk=>by
  cases cs with
  |nil=>simp at hl
  |cons c cs =>
   simp only[FN]at he;split at he
   ·rename_i x k hx;split at he
    ·rename_i xs ks' hxs;simp only[Option.some.injEq,Prod.mk.injEq]at he;obtain⟨rfl,rfl⟩:=he;have h0:=HK hI hM' a c x k (h 0 a c rfl rfl) hx (fun q hq=>hk q (by simp[hq]));obtain⟨h1,h2⟩:=G8 hI hM' az cs xs ks' (by simpa using hl) (fun i d v hd hv=>h (i+1) d v (by simpa using hd) (by simpa using hv)) hxs (fun q hq=>hk q (by simp[hq]));refine⟨by simp[h1],fun i d v hd hv=>?_⟩;cases i with
     |zero=>simp at hd hv;subst hd;subst hv;exact h0
     |succ i=>exact h2 i d v (by simpa using hd) (by simpa using hv)
    ·cases he
   ·cases he
end
def Bq(hp:Aa):List Nat→Aa
 | []=>hp
 |k::ks=>Bq (DM hp k) ks
theorem At.drops{X:DT}{ν:Nat→Value}{used:Nat→Prop}{w:World}(ks:List Nat):∀{hp:Aa},At X (lk hp) ν used w →
 At X (lk (Bq hp ks)) ν used w∧CT (Am X.M0 (lk hp) ν) (lk hp) ν used w (Am X.M0 (lk (Bq hp ks)) ν) (lk (Bq hp ks)) ν used w:=by
 induction ks with
 |nil=>exact fun h=>⟨h,CT.refl _ _ _ _ _⟩
 |cons k ks ih =>
  intro hp h;obtain⟨h1,x1⟩:=h.drop k;obtain⟨h2,x2⟩:=ih h1;exact⟨h2,x1.trans x2⟩
theorem RA(ks:List Nat):∀(hp:Aa) (k:Nat),k∈ks→lk (Bq hp ks) k=none:=by
 induction ks with
 |nil=>intro hp k h;cases h
 |cons q ks ih =>
  intro hp k h;by_cases hk:k∈ks
  ·exact ih _ _ hk
  ·have:k=q:=by cases h with
    |head=>rfl
    |tail _ h=>exact absurd h hk
   subst this;have aux:∀(l:List Nat) (g:Aa),lk g k=none→lk (Bq g l) k=none:=by
    intro l;induction l with
    |nil=>exact fun _ h=>h
    |cons q l ih=>intro g hg;exact ih _ (by by_cases e:k=q;· subst e;exact B3 _ _
                                            ·rw[Bc _ _ _ e];exact hg)
   exact aux ks _ (B3 _ _)
theorem Ly(ks:List Nat):∀(hp:Aa) (k:Nat) (o:HO),lk (Bq hp ks) k=some o→lk hp k=some o:=by
 induction ks with
 |nil=>exact fun _ _ _ h=>h
 |cons q ks ih =>
  intro hp k o h;have:=ih _ _ _ h;by_cases e:k=q
  ·subst e;rw[B3]at this;cases this
  ·rwa [Bc _ _ _ e]at this
theorem Am.dels_sub{M0:Nat→Prop}{hp:Aa}{ν:Nat→Value}{ks:List Nat}:∀b,Am M0 (lk (Bq hp ks)) ν b→Am M0 (lk hp) ν b :=
 fun b h=>by
  rcases h with h|⟨k,o,hk,hb⟩
  ·exact .inl h
  ·exact .inr ⟨k,o,Ly _ _ _ _ hk,hb⟩
theorem At.notMut{X:DT}{hp:Aa}{ν:Nat→Value}{used:Nat→Prop}{w:World}(hI:At X (lk hp) ν used w){ks:List Nat}(hk:∀k∈ks,∃o,lk hp k=some o) :
 ∀k∈ks,∀b,AL (ν k) b→¬Am X.M0 (lk (Bq hp ks)) ν b:=by
 intro k hks b hb hM;obtain⟨o,ho⟩:=hk k hks;rcases hM with h|⟨q,o',hq,hbq⟩
 ·exact hI.far _ _ _ ho hb h
 ·have hq':=Ly _ _ _ _ hq;have:=hI.inj _ _ _ _ _ hq' ho hbq hb;subst this;rw[RA _ _ _ hks]at hq;cases hq
mutual
theorem Kp{H:Nat→Option HO}:∀(av:AV) (x:D) (ks:List Nat),Cz H av=some (x,ks)→∀k∈ks,∃o,H k=some o
 |.d y,x,ks,he=>by simp only[Cz,Option.some.injEq,Prod.mk.injEq]at he;obtain⟨rfl,rfl⟩:=he;intro k h;cases h
 |.clip sz xs,x,ks,he=>by simp only[Cz,Option.some.injEq,Prod.mk.injEq]at he;obtain⟨rfl,rfl⟩:=he;intro k h;cases h
 |.own q n,x,ks,he=>by
  simp only[Cz]at he;split at he
  ·rename_i e sz xs ho;split at he
   ·simp only[Option.some.injEq,Prod.mk.injEq]at he;obtain⟨rfl,rfl⟩:=he;intro k hk;simp at hk;subst hk;exact⟨_,ho⟩
   ·cases he
  ·cases he
 |.agg fs,x,ks,he=>by
  simp only[Cz]at he;split at he
  ·rename_i ds ks' hds;split at he
   ·simp only[Option.some.injEq,Prod.mk.injEq]at he;obtain⟨rfl,rfl⟩:=he;exact Fd fs _ _ hds
   ·cases he
  ·cases he
 |.tup fs,x,ks,he=>by
  simp only[Cz]at he;split at he
  ·rename_i ds ks' hds;simp only[Option.some.injEq,Prod.mk.injEq]at he;obtain⟨rfl,rfl⟩:=he;exact Fd fs _ _ hds
  ·cases he
 |.fn f caps,x,ks,he=>by
  simp only[Cz]at he;split at he
  ·simp only[Option.some.injEq,Prod.mk.injEq]at he;obtain⟨rfl,rfl⟩:=he;intro k h;cases h
  ·cases he
 |.tab q n,x,ks,he=>by
  simp only[Cz]at he;split at he
  ·rename_i T rows ho;split at he
   ·simp only[Option.some.injEq,Prod.mk.injEq]at he;obtain⟨rfl,rfl⟩:=he;intro k hk;simp at hk;subst hk;exact⟨_,ho⟩
   ·cases he
  ·cases he
 |.trow q i n,x,ks,he=>by
  simp only[Cz]at he;split at he
  ·rename_i T rows ho;split at he
   ·simp only[Option.some.injEq,Prod.mk.injEq]at he;obtain⟨rfl,rfl⟩:=he;intro k hk;simp at hk;subst hk;exact⟨_,ho⟩
   ·cases he
  ·cases he
 |.undef,_,_,he=>by simp[Cz]at he
 |.toref ..,_,_,he=>by simp[Cz]at he
 |.tref ..,_,_,he=>by simp[Cz]at he
 |.ref ..,_,_,he=>by simp[Cz]at he
 |.eref ..,_,_,he=>by simp[Cz]at he
 |.rv ..,_,_,he=>by simp[Cz]at he
 |.mref ..,_,_,he=>by simp[Cz]at he
 |.yld ..,_,_,he=>by simp[Cz]at he
 |.dref ..,_,_,he=>by simp[Cz]at he
 |.map ..,_,_,he=>by simp[Cz]at he
 |.it ..,_,_,he=>by simp[Cz]at he
 |.vs q off n,x,ks,he=>by
  simp only[Cz]at he;split at he
  ·rename_i cs ho;split at he
   ·split at he
    ·simp only[Option.some.injEq,Prod.mk.injEq]at he;obtain⟨rfl,rfl⟩:=he;intro k hk;simp at hk;subst hk;exact⟨_,ho⟩
    ·cases he
   ·cases he
  ·cases he
theorem Fd{H:Nat→Option HO}:∀(fs:List AV) (ds:List D) (ks:List Nat),FN H fs=some (ds,ks)→∀k∈ks,∃o,H k=some o
 | [],ds,ks,he=>by simp only[FN,Option.some.injEq,Prod.mk.injEq]at he;obtain⟨rfl,rfl⟩:=he;intro k h;cases h
 |a::az,ds,ks,he=>by
  simp only[FN]at he;split at he
  ·rename_i x k hx;split at he
   ·rename_i xs ks' hxs;simp only[Option.some.injEq,Prod.mk.injEq]at he;obtain⟨rfl,rfl⟩:=he;intro q hq;rcases List.mem_append.1 hq with h|h
    ·exact Kp a _ _ hx q h
    ·exact Fd az _ _ hxs q h
   ·cases he
  ·cases he
end
theorem DJ{X:DT}{hp:Aa}{ν:Nat→Value}{used:Nat→Prop}{w:World}(hI:At X (lk hp) ν used w){av:AV}{v:Value}{x:D}{ks:List Nat}
 (h:A5 w (Am X.M0 (lk hp) ν) (lk hp) ν used av v) (he:Cz (lk hp) av=some (x,ks)):An w (Am X.M0 (lk (Bq hp ks)) ν) x v :=
 HK hI Am.dels_sub av v x ks h he (hI.notMut (Kp _ _ _ he))
end Go.Eng
namespace Go.Eng
open Go.RowKit
def AZ(P:Program)(t:TypeId):Option Bool:=match P.underlying t with
 |some (.struct _)=>some true|some (.array _ _)=>some true|some _=>some false|none=>none
def BV(P:Program)(t:TypeId):Option Nat:=(P.info? t).map (·.size)
def E5(P:Program)(t:TypeId):Option Nat:=(P.info? t).map (·.bytes)
def C3(P:Program)(t:TypeId):Option TypeId:=match P.underlying t with|some (.slice e)=>some e|_=>none
def Ma(P:Program)(t:TypeId):Bool:=match P.underlying t with|some .bool=>true|_=>false
def Ic(P:Program)(t:TypeId):Bool:=match P.underlying t with|some .string=>true|_=>false
def Jy(P:Program)(t:TypeId):Option IntKind:=match P.underlying t with|some (.int k)=>some k|_=>none
def C4(P:Program)(s i:Nat):Option (Nat×Nat):=match P.underlying s with
 |some (.struct fs)=>match fs[i]? with
  |some f=>match BV P f.type with
   |some n=>some (f.offset,n)
   |none=>none
  |none=>none
 |_=>none
section
variable {P:Program} {w:World}
theorem IT{t:TypeId}{b:Bool}(h:AZ P t=some b):(isAgg t).run P w= .ok b w:=by
 unfold AZ at h;cases hu:P.underlying t with
 |none=>simp[hu]at h
 |some d=>cases d<;>simp[hu]at h<;>subst h<;>simp[isAgg,run_underlying hu]
theorem H2{t n:Nat}(h:BV P t=some n):∃i,P.info? t=some i∧i.size=n:=by
 unfold BV at h;cases hi:P.info? t with
 |none=>simp[hi]at h
 |some i=>simp[hi]at h;exact⟨i,rfl,h⟩
theorem AF{t n:Nat}(h:BV P t=some n):(sizeOf t).run P w= .ok n w:=by
 obtain⟨i,hi,rfl⟩:=H2 h;simp[sizeOf,typeInfo,hi]
theorem Bn{t e:Nat}(h:C3 P t=some e):P.underlying t=some (.slice e):=by
 unfold C3 at h;split at h
 ·rename_i e' hu;simp at h;subst h;exact hu
 ·cases h
theorem Rs{t:Nat}(h:Ma P t=true):P.underlying t=some .bool:=by
 unfold Ma at h;split at h
 ·assumption
 ·cases h
theorem HB{t:Nat}(h:Ic P t=true):P.underlying t=some .string:=by
 unfold Ic at h;split at h
 ·assumption
 ·cases h
theorem Rr{t:Nat}{k:IntKind}(h:Jy P t=some k):P.underlying t=some (.int k):=by
 unfold Jy at h;split at h
 ·rename_i k' hu;simp at h;subst h;exact hu
 ·cases h
theorem Re{s i:Nat}{p:Nat×Nat}(h:C4 P s i=some p):∃fs f,P.underlying s=some (.struct fs)∧fs[i]? =some f∧BV P f.type=some p.2∧f.offset=p.1:=by
 unfold C4 at h;split at h
 ·rename_i fs hu;split at h
  ·rename_i f hf;split at h
   ·rename_i n hn;simp at h;subst h;exact⟨fs,f,hu,hf,hn,rfl⟩
   ·cases h
  ·cases h
 ·cases h
end
def DA(op:BinOp)(k:IntKind)(a:Int)(k':IntKind)(b:Int):Option D :=
 match op with
 |.shl=>if b<0 then none else some (.int k (k.wrap (a * 2 ^ min b.toNat k.bits)))
 |.shr=>if b<0 then none else some (.int k (a.fdiv (2 ^ min b.toNat k.bits)))
 |.add=>if k=k' then some (.int k (k.wrap (a+b)))else none
 |.sub=>if k=k' then some (.int k (k.wrap (a-b)))else none
 |.mul=>if k=k' then some (.int k (k.wrap (a * b)))else none
 |.quo=>if k=k' then(if b=0 then none else some (.int k (k.wrap (a.tdiv b))))else none
 |.rem=>if k=k' then(if b=0 then none else some (.int k (a.tmod b)))else none
 |.and=>if k=k' then some (.int k (k.wrap ((BitVec.ofInt k.bits a &&& BitVec.ofInt k.bits b).toNat)))else none
 |.or=>if k=k' then some (.int k (k.wrap ((BitVec.ofInt k.bits a ||| BitVec.ofInt k.bits b).toNat)))else none
 |.xor=>if k=k' then some (.int k (k.wrap ((BitVec.ofInt k.bits a ^^^ BitVec.ofInt k.bits b).toNat)))else none
 |.andNot=>if k=k' then some (.int k (k.wrap ((BitVec.ofInt k.bits a &&& ~~~BitVec.ofInt k.bits b).toNat)))else none
 |.eql=>if k=k' then some (.bool (a==b))else none
 |.neq=>if k=k' then some (.bool (a !=b))else none
 |.lss=>if k=k' then some (.bool (decide (a<b)))else none
 |.leq=>if k=k' then some (.bool (decide (a≤b)))else none
 |.gtr=>if k=k' then some (.bool (decide (a>b)))else none
 |.geq=>if k=k' then some (.bool (decide (a≥b)))else none
def Gk:AV→Option Bool
 |.d x=>match x with
  |.nils=>some true
  |.emp _=>some false
  |.sl _ xs=>match xs with| []=>none|_::_=>some false
  |_=>none
 |.own _ n=>if 0<n then some false else none
 |.vs .. => some false
 |_=>none
def Le(op:BinOp)(a b:ByteArray):Option D :=
 match op with
 |.eql=>some (.bool (a.toList==b.toList))
 |.neq=>some (.bool !(a.toList==b.toList))
 |_=>none
def Ie(op:BinOp)(b:Bool):Option D :=
 match op with
 |.eql=>some (.bool b)
 |.neq=>some (.bool !b)
 |_=>none
def MN(P:Program)(t:TypeId)(op:BinOp)(x y:AV):Option AV :=
 match x,y with
 |.d (.int k a),.d (.int k' b)=>(DA op k a k' b).map .d
 |.d (.bool a),.d (.bool b)=>if Ma P t then(Ie op (a==b)).map .d else none
 |.d (.str a),.d (.str b)=>(Le op a b).map .d
 |x,.d .nils=>match C3 P t with
  |some _=>match Gk x with|some b=>(Ie op b).map .d|none=>none
  |none=>none
 |_,_=>none
def SE(op:UnOp)(x:AV):Option AV :=
 match op,x with
 |.not,.d (.bool b)=>some (.d (.bool !b))
 |.neg,.d (.int k n)=>some (.d (.int k (k.wrap (0-n))))
 |_,_=>none
section
variable {P:Program} {w:World} {M:Nat→Prop} {H:Nat→Option HO} {ν:Nat→Value} {used:Nat→Prop}
theorem Va{x:AV}{v:Value}{b:Bool}(h:A5 w M H ν used x v)(he:Gk x=some b):∃a n c,v= .slice a n c∧a.isNone=b:=by
 cases h with
 |d h =>
  cases h with
  |nils=>simp[Gk]at he;subst he;exact⟨none,0,0,rfl,rfl⟩
  |emp hm=>simp[Gk]at he;subst he;exact⟨_,_,_,rfl,rfl⟩
  |sl0=>simp[Gk]at he
  |sl val hb hM hc hm hs h1 h2 =>
   simp only[Gk]at he;split at he
   ·cases he
   ·simp at he;subst he;exact⟨_,_,_,rfl,rfl⟩
  |_=>simp[Gk]at he
 |own hu h1 hc ha h =>
  rename_i k n c a;simp only[Gk]at he;split at he
  ·rename_i hn;simp at he;subst he;refine⟨a,n,c,h1,?_⟩;cases a with
   |some _=>rfl
   |none=>have:=(ha rfl).1;omega
  ·cases he
 |vs hu hc h=>simp only[Gk,Option.some.injEq]at he;subst he;exact⟨_,_,_,rfl,rfl⟩
 |_=>simp[Gk]at he
theorem PX{t:TypeId}{op:BinOp}{k k':IntKind}{a b:Int}{d:D}(ox oy:Operand)(he:DA op k a k' b=some d) :
 ∃v,(do eqGuard op t ox oy (.int k a) (.int k' b);binOp op t (.int k a) (.int k' b):Sem Value).run P w= .ok v w∧An w M d v:=by
 cases op<;>simp only[DA]at he;all_goals (repeat' split at he)
 all_goals first|(cases he;done)|skip
 all_goals (cases he;(try subst k');refine⟨_,?_,by constructor⟩;simp[eqGuard,binOp,Op.intArith,Op.intCmp,Op.intDiv,Op.intBits,Op.shift, *];done)
theorem R1{t:TypeId}{op:BinOp}{x y:AV}{v1 v2:Value}{r:AV}(ox oy:Operand)(h1:A5 w M H ν used x v1)(h2:A5 w M H ν used y v2)(he:MN P t op x y=some r) :
 ∃v,(do eqGuard op t ox oy v1 v2;binOp op t v1 v2:Sem Value).run P w= .ok v w∧A5 w M H ν used r v:=by
 unfold MN at he;split at he
 ·rename_i k a k' b;cases h1 with
  |d h1=>cases h1;cases h2 with
   |d h2 =>
    cases h2;cases hd:DA op k a k' b with
    |none=>simp[hd]at he
    |some d =>
     simp[hd]at he;subst he;obtain⟨v,hr,hv⟩:=PX (P:=P) (w:=w) (M:=M) (t:=t) ox oy hd;exact⟨v,hr,.d hv⟩
 ·rename_i a b;split at he
  ·rename_i hb;cases h1 with
   |d h1=>cases h1;cases h2 with
    |d h2 =>
     cases h2;have hu:=Rs hb;cases op<;>simp[Ie]at he<;>subst he
     ·exact⟨.bool (a==b),by simp[eqGuard,run_eql_bool w t a b hu],.d (by constructor)⟩
     ·exact⟨_,by simp[eqGuard,run_neq_bool w t a b hu];rfl,.d (by constructor)⟩
  ·cases he
 ·rename_i a b;cases h1 with
  |d h1=>cases h1;cases h2 with
   |d h2 =>
    cases h2;cases op<;>simp[Le]at he<;>subst he
    ·exact⟨_,by simp[eqGuard,binOp_string_eql];rfl,.d (by constructor)⟩
    ·exact⟨_,by simp[eqGuard,binOp_string_neq];rfl,.d (by constructor)⟩
 ·split at he
  ·rename_i e hel;split at he
   ·rename_i b hn;cases h2 with
    |d h2 =>
     cases h2;obtain⟨a,n,c,rfl,rfl⟩:=Va h1 hn;have hu:=Bn hel;cases op<;>simp[Ie]at he<;>subst he
     ·exact⟨.bool a.isNone,by simp[eqGuard,binOp,run_equal_slice_nil w t e a n c hu],.d (by constructor)⟩
     ·exact⟨_,by simp[eqGuard,run_neq_slice_nil w t e a n c hu];rfl,.d (by constructor)⟩
   ·cases he
  ·cases he
 ·cases he
theorem SF{op:UnOp}{x:AV}{v:Value}{r:AV}(h:A5 w M H ν used x v)(he:SE op x=some r):∃u,(Op.unary op v).run P w= .ok u w∧A5 w M H ν used r u:=by
 unfold SE at he;split at he
 ·cases h with
  |d h=>cases h;simp at he;subst he;exact⟨_,by simp[Op.unary];rfl,.d (by constructor)⟩
 ·cases h with
  |d h=>cases h;simp at he;subst he;exact⟨_,by simp[Op.unary,Op.intArith];rfl,.d (by constructor)⟩
 ·cases he
end
end Go.Eng
namespace Go.Eng
open Go.RowKit
def AV.comps:AV→List AV
 |.agg fs=>fs
 |.d x=>x.comps.map .d
 |.undef=>[]| .tup _=>[]
 |.own k n=>[.own k n]| .clip s x=>[.clip s x]| .ref k o=>[.ref k o]| .eref k n i s o=>[.eref k n i s o]
 |.dref f=>[.dref f]| .fn f c=>[.fn f c]| .map k=>[.map k]| .it k=>[.it k]| .vs k o n=>[.vs k o n]| .yld k=>[.yld k]
 |.tab k n=>[.tab k n]| .trow k i n=>[.trow k i n]| .toref k n i s o=>[.toref k n i s o]| .tref k i m j s o=>[.tref k i m j s o]| .rv k n l m s=>[.rv k n l m s]| .mref f k o=>[.mref f k o]
def AV.sto:AV→Bool
 |.undef| .tup _=>false
 |.d x=>match x with| .tup _=>false|_=>true
 |_=>true
def Pf:List AV→Option (List D)
 | []=>some []
 |a::az=>match a with
  |.d x=>match Pf az with|some xs=>some (x::xs)|none=>none
  |_=>none
def Qd(cs:List AV):AV:=match Pf cs with|some ds=>.d (.agg ds)|none=>.agg cs
def Aj{α:Type}(l:List α)(o:Nat)(xs:List α):List α:=l.take o++xs++l.drop (o+xs.length)
section
variable {P:Program} {w:World} {M:Nat→Prop} {H:Nat→Option HO} {ν:Nat→Value} {used:Nat→Prop}
theorem QD:∀(cs:List AV) (ds:List D),Pf cs=some ds→cs=ds.map .d
 | [],ds,h=>by simp[Pf]at h;subst h;rfl
 |a::az,ds,h=>by
  cases a<;>simp only[Pf]at h<;>try (cases h;done)
  split at h
  ·rename_i xs hx;simp at h;subst h;rw[QD az xs hx];rfl
  ·cases h
theorem Ns{cs:List AV}{vs:List Value}(hl:cs.length=vs.length)(hc:∀c∈cs,c.cell=true)(h:∀(i:Nat) d v,cs[i]? =some d→vs[i]? =some v→A5 w M H ν used d v):A5 w M H ν used (Qd cs) (.agg vs.toArray):=by
 unfold Qd;split
 ·rename_i ds hd;have:=QD cs ds hd;subst this;refine .d (.agg (by simpa using hl) (fun d hd=>by have:=hc (.d d) (List.mem_map.2 ⟨d,hd,rfl⟩);simpa[AV.cell]using this) fun i d v h1 h2=>?_);have:=h i (.d d) v (by simp[h1]) h2;cases this with|d h=>exact h
 ·exact .agg hl hc h
theorem CH{x:D}{v:Value}(h:An w M x v)(hs:(AV.d x).sto=true):v.cells.toList.length=x.comps.length∧(∀c∈x.comps,c.cell=true)∧∀(i:Nat) d u,x.comps[i]? =some d→v.cells.toList[i]? =some u→An w M d u:=by
 cases h with
 |agg hl hc h=>exact⟨by simp[Value.cells,D.comps,hl],hc,by simpa[Value.cells,D.comps]using h⟩
 |tup hl h=>simp[AV.sto]at hs
 |bool b=>exact⟨rfl,by simp[D.comps,D.cell],fun i d u h1 h2=>by cases i<;>simp[D.comps,Value.cells]at h1 h2;subst h1;subst h2;constructor⟩
 |int k n=>exact⟨rfl,by simp[D.comps,D.cell],fun i d u h1 h2=>by cases i<;>simp[D.comps,Value.cells]at h1 h2;subst h1;subst h2;constructor⟩
 |str s=>exact⟨rfl,by simp[D.comps,D.cell],fun i d u h1 h2=>by cases i<;>simp[D.comps,Value.cells]at h1 h2;subst h1;subst h2;constructor⟩
 |fn f=>exact⟨rfl,by simp[D.comps,D.cell],fun i d u h1 h2=>by cases i<;>simp[D.comps,Value.cells]at h1 h2;subst h1;subst h2;constructor⟩
 |nilf=>exact⟨rfl,by simp[D.comps,D.cell],fun i d u h1 h2=>by cases i<;>simp[D.comps,Value.cells]at h1 h2;subst h1;subst h2;constructor⟩
 |nilm=>exact⟨rfl,by simp[D.comps,D.cell],fun i d u h1 h2=>by cases i<;>simp[D.comps,Value.cells]at h1 h2;subst h1;subst h2;constructor⟩
 |nilp=>exact⟨rfl,by simp[D.comps,D.cell],fun i d u h1 h2=>by cases i<;>simp[D.comps,Value.cells]at h1 h2;subst h1;subst h2;constructor⟩
 |any h0 =>
  have hv:v.cells = #[v]:=by cases v<;>first|rfl|(simp[Value.oneCell']at h0)
  exact⟨by simp[hv,D.comps],by simp[D.comps,D.cell],fun i d u h1 h2=>by rw[hv]at h2;cases i<;>simp[D.comps]at h1 h2;subst h1;subst h2;exact .any h0⟩
 |ptr val hb hM hc h1 h2=>exact⟨rfl,by simp[D.comps,D.cell],fun i d u h3 h4=>by cases i<;>simp[D.comps,Value.cells]at h3 h4;subst h3;subst h4;exact .ptr val hb hM hc h1 h2⟩
 |nils=>exact⟨rfl,by simp[D.comps,D.cell],fun i d u h1 h2=>by cases i<;>simp[D.comps,Value.cells]at h1 h2;subst h1;subst h2;constructor⟩
 |emp hm=>exact⟨rfl,by simp[D.comps,D.cell],fun i d u h1 h2=>by cases i<;>simp[D.comps,Value.cells]at h1 h2;subst h1;subst h2;exact .emp hm⟩
 |sl0=>exact⟨rfl,by simp[D.comps,D.cell],fun i d u h1 h2=>by cases i<;>simp[D.comps,Value.cells]at h1 h2;subst h1;subst h2;constructor⟩
 |sl val hb hM hc hm hs' h1' h2'=>exact⟨rfl,by simp[D.comps,D.cell],fun i d u h1 h2=>by cases i<;>simp[D.comps,Value.cells]at h1 h2;subst h1;subst h2;exact .sl val hb hM hc hm hs' h1' h2'⟩
theorem Or{v:Value}(h:v.oneCell'=true):v.cells.toList=[v]:=by
 cases v<;>first|rfl|(simp[Value.oneCell']at h)
theorem Ix{av:AV}{v:Value}(h:A5 w M H ν used av v)(hs:av.sto=true):v.cells.toList.length=av.comps.length∧(∀c∈av.comps,c.cell=true)∧∀(i:Nat) d u,av.comps[i]? =some d→v.cells.toList[i]? =some u→A5 w M H ν used d u:=by
 have one:∀{a:AV},A5 w M H ν used a v→a.cell=true→a.comps=[a]→v.cells.toList.length=a.comps.length∧(∀c∈a.comps,c.cell=true)∧∀(i:Nat) d u,a.comps[i]? =some d→v.cells.toList[i]? =some u→A5 w M H ν used d u:=by
  intro a h hc hcs;rw[Or (h.oneCell hc),hcs];refine⟨rfl,by simpa using hc,fun i d u h1 h2=>?_⟩;cases i<;>simp at h1 h2;subst h1;subst h2;exact h
 cases av with
 |undef=>simp[AV.sto]at hs
 |tup _=>simp[AV.sto]at hs
 |d x =>
  cases h with
  |d h =>
   obtain⟨h1,h2,h3⟩:=CH h hs;refine⟨by simpa[AV.comps]using h1,fun c hc=>?_,fun i d u hd hu=>?_⟩
   ·simp[AV.comps]at hc;obtain⟨y,hy,rfl⟩:=hc;exact h2 y hy
   ·simp[AV.comps]at hd;obtain⟨y,hy,rfl⟩:=hd;exact .d (h3 i y u hy (by simpa using hu))
 |agg fs =>
  cases h with
  |agg hl hc h=>exact⟨by simp[Value.cells,AV.comps,hl],hc,by simpa[Value.cells,AV.comps]using h⟩
 |own _ _=>exact one h rfl rfl
 |clip _ _=>exact one h rfl rfl
 |ref _ _=>exact one h rfl rfl
 |eref _ _ _ _ _=>exact one h rfl rfl
 |rv _ _ _ _ _=>exact one h rfl rfl
 |mref _ _ _=>exact one h rfl rfl
 |dref _=>exact one h rfl rfl
 |fn _ _=>exact one h rfl rfl
 |map _=>exact one h rfl rfl
 |it _=>exact one h rfl rfl
 |vs _ _ _=>exact one h rfl rfl
 |yld _=>exact one h rfl rfl
 |tab _ _=>exact one h rfl rfl
 |trow _ _ _=>exact one h rfl rfl
 |toref _ _ _ _ _=>exact one h rfl rfl
 |tref _ _ _ _ _ _=>exact one h rfl rfl
theorem AW{α:Type}(l:List α)(o:Nat)(xs:List α)(h:o+xs.length≤l.length)(j:Nat):(Aj l o xs)[j]? =if o≤j∧j<o+xs.length then xs[j-o]? else l[j]? :=by
 unfold Aj;have h1:(l.take o).length=o:=by simp;omega
 by_cases hj:j<o
 ·rw[List.append_assoc,List.getElem?_append_left (by omega),List.getElem?_take,if_pos hj,if_neg (by omega)]
 ·rw[List.append_assoc,List.getElem?_append_right (by omega),h1];by_cases hk:j<o+xs.length
  ·rw[List.getElem?_append_left (by omega),if_pos ⟨by omega,hk⟩]
  ·rw[List.getElem?_append_right (by omega),if_neg (by omega),List.getElem?_drop];congr 1;omega
theorem AX{α:Type}(l:List α)(o:Nat)(xs:List α)(h:o+xs.length≤l.length):(Aj l o xs).length=l.length:=by
 unfold Aj;simp;omega
theorem D3{α:Type}{n j:Nat}{f:Nat→α}{v:α}(h:((List.range n).map f)[j]? =some v):j<n∧f j=v:=by
 rw[List.getElem?_map]at h;by_cases hj:j<n
 ·rw[List.getElem?_range hj]at h;simp at h;exact⟨hj,h⟩
 ·rw[List.getElem?_eq_none (by simpa using hj)]at h;simp at h
theorem LB{t n:Nat}(ha:AZ P t=some true)(hn:BV P t=some n)(a:Addr)(vs:List Value)(hl:vs.length=n)(h:∀(j:Nat) v,vs[j]? =some v→w.cell? (a.add j)=some v) :
 (Instr.loadAt t (.pointer (some a))).run P w= .ok (.agg vs.toArray) w:=by
 subst hl;simp[Instr.loadAt,Instr.sureAddr,loadVar,IT ha,AF hn,run_loadCells_list w a vs h]
theorem Gl{t:Nat}(ha:AZ P t=some false)(a:Addr)(v:Value)(h:w.cell? a=some v):(Instr.loadAt t (.pointer (some a))).run P w= .ok v w:=by
 simp[Instr.loadAt,Instr.sureAddr,loadVar,IT ha,h]
theorem JM(a:Addr)(m n:Nat):(a.add m).add n=a.add (m+n):=by
 unfold Addr.add;by_cases hm:m=0<;>by_cases hn:n=0<;>simp_all<;>omega
def Vg(P:Program)(t:TypeId)(fs:List D):Option D :=
 match AZ P t with
 |some true=>match BV P t with
  |some n=>if n≤fs.length then some (.agg (fs.take n))else none
  |none=>none
 |some false=>match fs with
  |x::_=>some x
  | []=>none
 |none=>none
def bh(P:Program)(t:TypeId)(cs:List AV):Option AV :=
 match AZ P t with
 |some true=>match BV P t with
  |some n=>if n≤cs.length then some (Qd (cs.take n))else none
  |none=>none
 |some false=>match cs with
  |x::_=>some x
  | []=>none
 |none=>none
def ZU(P:Program)(H:Nat→Option HO)(t:TypeId)(k n i sz off:Nat):Option (AV×List Nat) :=
 match H k with
 |some (.tab T rows q)=>if n=rows.length∧T.so=sz∧AZ P t=some false then
   if off=T.off then(match q with|none=>some (.trow k i (T.ilen rows i),[k])|some _=>none)
   else match rows[i]? with
    |some x=>match x.comps[off]? with|some y=>some (.d y,[k])|none=>none
    |none=>none
  else none
 |_=>none
def ZT(P:Program)(H:Nat→Option HO)(t:TypeId)(k i m j sz off:Nat):Option (AV×List Nat) :=
 match H k with
 |some (.tab T rows none)=>if m=T.ilen rows i∧T.si=sz then
   match (T.inn (rows.getD i .nils))[j]? with
   |some x=>match Vg P t (x.comps.drop off)with|some y=>some (.d y,[k])|none=>none
   |none=>none
  else none
 |_=>none
def G1(P:Program)(H:Nat→Option HO)(t:TypeId)(a:AV):Option (AV×List Nat) :=
 match a with
 |.dref fs=>match Vg P t fs with|some x=>some (.d x,[])|none=>none
 |.d (.ptr fs)=>match Vg P t fs with|some x=>some (.d x,[])|none=>none
 |.ref k off=>match H k with
  |some (.var cs)=>match bh P t (cs.drop off)with|some x=>some (x,[k])|none=>none
  |_=>none
 |.eref k n i sz off=>match H k with
  |some (.row _ sz' xs)=>if n=xs.length∧sz'=sz then
    match xs[i]? with
    |some x=>match Vg P t (x.comps.drop off)with|some y=>some (.d y,[k])|none=>none
    |none=>none
   else none
  |_=>none
 |.toref k n i sz off=>ZU P H t k n i sz off
 |.tref k i m j sz off=>ZT P H t k i m j sz off
 |_=>none
theorem IH{t:Nat}{fs:List D}{x:D}(h:Vg P t fs=some x)(a:Addr)(val:Nat→Value)(hc:∀d∈fs,d.cell=true)(h1:∀(j:Nat) d,fs[j]? =some d→w.cell? (a.add j)=some (val j))(h2:∀(j:Nat) d,fs[j]? =some d→An w M d (val j)) :
 ∃v,(Instr.loadAt t (.pointer (some a))).run P w= .ok v w∧An w M x v:=by
 unfold Vg at h;split at h
 ·rename_i ha;split at h
  ·rename_i n hn;split at h
   ·rename_i hle;simp at h;subst h;refine⟨_,LB ha hn a ((List.range n).map val) (by simp) (fun j v hv=>?_),.agg (by simp;omega) (fun d hd=>hc d (List.mem_of_mem_take hd)) fun j d v hd hv=>?_⟩
    ·obtain⟨hj,rfl⟩:=D3 hv;exact h1 j (fs[j]'(by omega)) (List.getElem?_eq_getElem (by omega))
    ·obtain⟨hj,rfl⟩:=D3 hv;rw[List.getElem?_take,if_pos hj]at hd;exact h2 j d hd
   ·cases h
  ·cases h
 ·rename_i ha;split at h
  ·rename_i y ys;simp at h;subst h;have:=h1 0 y rfl;rw[Addr.add_zero']at this;exact⟨_,Gl ha a _ this,h2 0 y rfl⟩
  ·cases h
 ·cases h
theorem Vf{t:Nat}{cs:List AV}{x:AV}(h:bh P t cs=some x)(a:Addr)(vs:List Value)(hl:cs.length=vs.length)(hc:∀c∈cs,c.cell=true)(h1:∀(j:Nat) v,vs[j]? =some v→w.cell? (a.add j)=some v)(h2:∀(j:Nat) d v,cs[j]? =some d→vs[j]? =some v→A5 w M H ν used d v) :
 ∃v,(Instr.loadAt t (.pointer (some a))).run P w= .ok v w∧A5 w M H ν used x v:=by
 unfold bh at h;split at h
 ·rename_i ha;split at h
  ·rename_i n hn;split at h
   ·rename_i hle;simp at h;subst h;refine⟨_,LB ha hn a (vs.take n) (by simp;omega) (fun j v hv=>?_),Ns (by simp;omega) (fun d hd=>hc d (List.mem_of_mem_take hd)) fun j d v hd hv=>?_⟩
    ·rw[List.getElem?_take]at hv;split at hv
     ·exact h1 j v hv
     ·cases hv
    ·rw[List.getElem?_take]at hd hv;split at hd
     ·rename_i hj;rw[if_pos hj]at hv;exact h2 j d v hd hv
     ·cases hd
   ·cases h
  ·cases h
 ·rename_i ha;split at h
  ·rename_i y ys;simp at h;subst h;cases vs with
   |nil=>simp at hl
   |cons v vs =>
    have:=h1 0 v rfl;rw[Addr.add_zero']at this;exact⟨_,Gl ha a _ this,h2 0 y v rfl rfl⟩
  ·cases h
 ·cases h
theorem T9{sz i j n:Nat}(hi:i<n)(hj:j<sz):i * sz+j<n * sz:=by
 have:(i+1) * sz≤n * sz:=Nat.mul_le_mul_right _ hi;rw[Nat.add_mul]at this;omega
theorem Vt{base:Nat}{t:TypeId}{e:TypeId}{sz n c g:Nat}{vals:List Value}{M:Nat→Prop}(hown:C2 w base e sz (.slice (some ⟨g,0,none⟩) n c) n vals){x:D}{y:D}{i off:Nat}(hc:∀d∈x.comps,d.cell=true)
 (hr:∀(j:Nat) d,x.comps[j]? =some d→∃u,vals[i * sz+j]? =some u∧An w M d u) (hy:Vg P t (x.comps.drop off)=some y) :
 ∃u,(Instr.loadAt t (.pointer (some ⟨g,i * sz+off,none⟩))).run P w= .ok u w∧An w M y u :=
 IH hy ⟨g,i * sz+off,none⟩ (fun j=>vals.getD (i * sz+(off+j)) undef) (fun d hd=>hc d (List.mem_of_mem_drop hd))
  (fun j d hd=>by
    simp at hd;obtain⟨u,hu,_⟩:=hr (off+j) d hd;have:=hown.cells (g:=g) rfl _ _ hu;rw[Addr.add_lit]at this ⊢;rw[show i * sz+off+j=0+(i * sz+(off+j))from by omega,this];simp[List.getD_eq_getElem?_getD,hu])
  (fun j d hd=>by
    simp at hd;obtain⟨u,hu,hru⟩:=hr (off+j) d hd;simpa[List.getD_eq_getElem?_getD,hu]using hru)
theorem Vi{X:DT}(hI:At X H ν used w){t:Nat}{k n i sz off:Nat}{v:Value}{r:AV}{acc:List Nat}(h:A5 w (Am X.M0 H ν) H ν used (.toref k n i sz off) v)(he:ZU P H t k n i sz off=some (r,acc)) :
 ∃u,(Instr.loadAt t v).run P w= .ok u w∧A5 w (Am X.M0 H ν) H ν used r u:=by
 unfold ZU at he;split at he
 ·rename_i T rows q ho;split at he
  ·rename_i hn;obtain⟨hn,hso,hag⟩:=hn;cases h with
   |toref hu hi hoff h =>
    obtain⟨_,_,_,he',_,hv⟩:=h _ ho;cases he';obtain⟨g,c,hν,rfl⟩:=hv hn;obtain⟨⟨vs,hvs,hsz⟩,h1,h2,vals,hown,hr⟩:=hI.obj _ _ ho;rw[hν]at hown;have hlt:i<rows.length:=by omega
    have hcell:∀(j:Nat) u,vals[i * T.so+j]? =some u→w.cell? ⟨g,i * T.so+j,none⟩=some u:=fun j u hu=>by
     have:=hown.cells (g:=g) rfl _ _ hu
     rwa [Addr.add_lit,Nat.zero_add]at this
    obtain⟨a1,a2,a3,a4⟩:=hr i _ (List.getElem?_eq_getElem hlt);subst hso;split at he
    ·rename_i ho2;subst ho2;split at he
     ·simp at he;obtain⟨rfl,rfl⟩:=he;obtain⟨b1,us,b2,b3⟩:=a2 (by simp);refine⟨_,Gl hag _ _ (hcell _ _ b1),?_⟩;have hil:T.ilen rows i=(T.inn rows[i]).length:=by simp[Tb.ilen,List.getD_eq_getElem?_getD,List.getElem?_eq_getElem hlt]
      rw[← hil]at b2;obtain⟨x1,x2⟩:=b2;rcases x2 with⟨e1,e2⟩|⟨g',cap,cur,e1,_,_,e3,e4,_⟩
      ·rw[e1,e2];refine .trow hu rfl ⟨Nat.le_refl _,by simp[maxLen]⟩ (fun _=>⟨rfl,rfl⟩) fun o ho'=>?_;rw[ho]at ho';cases ho';exact⟨_,_,_,rfl,hlt,Nat.zero_le _,fun _ _=>e1.symm⟩
      ·rw[e1];refine .trow hu rfl ⟨e3,e4⟩ (fun h=>by cases h) fun o ho'=>?_;rw[ho]at ho';cases ho';exact⟨_,_,_,rfl,hlt,Nat.le_refl _,fun _ _=>e1.symm⟩
     ·cases he
    ·rename_i ho2;split at he
     ·rename_i x hx;split at he
      ·rename_i y hy;simp at he;obtain⟨rfl,rfl⟩:=he;rw[List.getElem?_eq_getElem hlt]at hx;cases hx;obtain⟨u,hu',hru⟩:=a4 off y ho2 hy;exact⟨_,Gl hag _ _ (hcell _ _ hu'),.d hru⟩
      ·cases he
     ·cases he
  ·cases he
 ·cases he
theorem Vh{X:DT}(hI:At X H ν used w){t:Nat}{k i m j sz off:Nat}{v:Value}{r:AV}{acc:List Nat}(h:A5 w (Am X.M0 H ν) H ν used (.tref k i m j sz off) v)(he:ZT P H t k i m j sz off=some (r,acc)) :
 ∃u,(Instr.loadAt t v).run P w= .ok u w∧A5 w (Am X.M0 H ν) H ν used r u:=by
 unfold ZT at he;split at he
 ·rename_i T rows ho;split at he
  ·rename_i hn;obtain⟨hn,hsi⟩:=hn;split at he
   ·rename_i x hx;split at he
    ·rename_i y hy;simp at he;obtain⟨rfl,rfl⟩:=he;cases h with
     |tref hu hj hoff h =>
      obtain⟨_,_,_,he',hlt,_,hv⟩:=h _ ho;cases he';obtain⟨g,c,hν,rfl⟩:=hv (by simp) hn;obtain⟨⟨vs,hvs,hsz⟩,h1,h2,vals,hown,hr⟩:=hI.obj _ _ ho;obtain⟨a1,a2,a3,a4⟩:=hr i _ (List.getElem?_eq_getElem hlt);obtain⟨b1,us,b2,b3⟩:=a2 (by simp);have hil:T.ilen rows i=(T.inn rows[i]).length:=by simp[Tb.ilen,List.getD_eq_getElem?_getD,List.getElem?_eq_getElem hlt]
      have hgd:rows.getD i .nils=rows[i]:=by simp[List.getD_eq_getElem?_getD,List.getElem?_eq_getElem hlt]
      rw[hgd]at hx;rw[hν,← hil,← hn]at b2;subst hsi;obtain⟨u,hr',hu'⟩:=Vt (i:=j) (off:=off) b2 (a1.2 x (List.mem_of_getElem? hx)).2 (fun j' d hd=>b3 j x j' d hx hd) hy;exact⟨u,hr',.d hu'⟩
    ·cases he
   ·cases he
  ·cases he
 ·cases he
theorem JY{X:DT}(hI:At X H ν used w){t:Nat}{a:AV}{v:Value}{r:AV}{acc:List Nat}(h:A5 w (Am X.M0 H ν) H ν used a v)(he:G1 P H t a=some (r,acc)) :
 ∃u,(Instr.loadAt t v).run P w= .ok u w∧A5 w (Am X.M0 H ν) H ν used r u:=by
 unfold G1 at he;split at he
 ·rename_i fs;split at he
  ·rename_i x hx;simp at he;obtain⟨rfl,rfl⟩:=he;cases h with
   |dref val hb hM hc h1 h2 =>
    obtain⟨u,hr,hu⟩:=IH hx _ val hc h1 h2;exact⟨u,hr,.d hu⟩
  ·cases he
 ·rename_i fs;split at he
  ·rename_i x hx;simp at he;obtain⟨rfl,rfl⟩:=he;cases h with
   |d h =>
   cases h with
   |ptr val hb hM hc h1 h2 =>
    obtain⟨u,hr,hu⟩:=IH hx _ val hc h1 h2;exact⟨u,hr,.d hu⟩
  ·cases he
 ·rename_i k off;split at he
  ·rename_i cs ho;split at he
   ·rename_i x hx;simp at he;obtain⟨rfl,rfl⟩:=he;cases h with
    |ref hu h =>
     obtain⟨cs',b,he,hν,rfl⟩:=h _ ho;cases he;obtain⟨b',cells,e,hv,hg,hl,hc,hr⟩:=hI.obj _ _ ho;rw[hν]at hv;cases hv;refine Vf hx _ (cells.toList.drop off) (by simp[hl]) (fun c h=>hc c (List.mem_of_mem_drop h)) (fun j v hj=>?_) (fun j d v hd hv=>?_)
     ·simp at hj;rw[Addr.add_lit];simp[World.cell?,hg,hj]
     ·simp at hd hv;exact hr _ d v hd (by simpa using hv)
   ·cases he
  ·cases he
 ·rename_i k n i sz off;split at he
  ·rename_i e sz' xs ho;split at he
   ·rename_i hn;obtain⟨hn,rfl⟩:=hn;split at he
    ·rename_i x hx;split at he
     ·rename_i y hy;simp at he;obtain⟨rfl,rfl⟩:=he;cases h with
      |eref hu hi hoff h =>
       obtain⟨_,_,_,he,_,hv⟩:=h _ ho;cases he;obtain⟨g,c,hν,rfl⟩:=hv hn;obtain⟨vals,hown,hz,hf,hr⟩:=hI.obj _ _ ho;have hob:(ν k).ownBlock=some g:=by rw[hν];rfl
       have hfx:=hf x (List.mem_of_getElem? hx);obtain⟨u,hr,hu⟩:=IH (w:=w) (M:=Am X.M0 H ν) hy ⟨g,i * sz'+off,none⟩ (fun j=>vals.getD (i * sz'+(off+j)) undef) (fun d hd=>hfx.2 d (List.mem_of_mem_drop hd))
        (fun j d hd=>by
          simp at hd;obtain⟨u,hu,_⟩:=hr i x (off+j) d hx hd;have:=hown.cells hob _ _ hu;rw[Addr.add_lit]at this ⊢;rw[show i * sz'+off+j=0+(i * sz'+(off+j))from by omega,this];simp[List.getD_eq_getElem?_getD,hu])
        (fun j d hd=>by
          simp at hd;obtain⟨u,hu,hru⟩:=hr i x (off+j) d hx hd;simpa[List.getD_eq_getElem?_getD,hu]using hru)
       exact⟨u,hr,.d hu⟩
     ·cases he
    ·cases he
   ·cases he
  ·cases he
 ·exact Vi hI h he
 ·exact Vh hI h he
 ·cases he
end
end Go.Eng
namespace Go.Eng
open Go.RowKit
def C7(X:DT)(hp:Aa)(ν:Nat→Value)(used:Nat→Prop)(w:World)(key:Nat)(hp':Aa)(av:AV)(v:Value)(w':World):Prop :=
 ∃ν',At X (lk hp') ν' (fun q=>used q∨q=key) w' ∧
  CT (Am X.M0 (lk hp) ν) (lk hp) ν used w (Am X.M0 (lk hp') ν') (lk hp') ν' (fun q=>used q∨q=key) w' ∧
  A5 w' (Am X.M0 (lk hp') ν') (lk hp') ν' (fun q=>used q∨q=key) av v
section
variable {P:Program} {X:DT} {hp:Aa} {ν:Nat→Value} {used:Nat→Prop} {w:World} {key:Nat}
theorem At.more(hI:At X (lk hp) ν used w)(hk:¬used key):At X (lk hp) ν (fun q=>used q∨q=key) w ∧
 CT (Am X.M0 (lk hp) ν) (lk hp) ν used w (Am X.M0 (lk hp) ν) (lk hp) ν (fun q=>used q∨q=key) w:=by
 refine⟨hI.used_mono (fun k h=>.inl h) (fun k h hn=>?_),Bi.refl _ _,fun _ _ h=>h,fun _ h=>.inl h,fun q _ o ho=>⟨o,ho,HO.later.refl _,HO.keeps_of⟩,Bi.refl _ _,fun _ _ h=>h⟩;cases ho:lk hp k with
 |none=>rfl
 |some o=>exact absurd (hI.usd _ _ ho) hn
theorem C7.same(hI:At X (lk hp) ν used w)(hk:¬used key){av:AV}{v:Value}(h:A5 w (Am X.M0 (lk hp) ν) (lk hp) ν used av v):C7 X hp ν used w key hp av v w :=
 have⟨h1,h2⟩:=hI.more hk
 ⟨ν,h1,h2,h.ext h2⟩
def Hu(P:Program)(s:TypeId)(a:AV)(f:Nat):Option AV :=
 match C4 P s f with
 |some (off,n)=>if n=0 then none else
  match a with
  |.ref k o=>some (.ref k (o+off))
  |.eref k m i sz o=>if o+off<sz then some (.eref k m i sz (o+off))else none
  |.dref fs=>some (.dref (fs.drop off))
  |.toref k m i sz o=>if o+off<sz then some (.toref k m i sz (o+off))else none
  |.tref k r m i sz o=>if o+off<sz then some (.tref k r m i sz (o+off))else none
  |_=>none
 |none=>none
theorem FA{s f:Nat}{off n:Nat}(h:C4 P s f=some (off,n))(hn:n≠0)(a:Addr):(Instr.fieldAt s (.pointer (some a)) f).run P w= .ok (.pointer (some (a.add off))) w:=by
 obtain⟨fs,fd,hu,hf,hz,ho⟩:=Re h;simp only at hz ho;subst ho;have h0:n=0↔False:=by simp[hn]
 simp[Instr.fieldAt,run_underlying hu,hf,Instr.sureAddr,fieldPlace,AF hz,h0]
theorem O4{H:Nat→Option HO}{M:Nat→Prop}{s f:Nat}{a r:AV}{v:Value}(h:A5 w M H ν used a v)(he:Hu P s a f=some r) :
 ∃u,(Instr.fieldAt s v f).run P w= .ok u w∧A5 w M H ν used r u:=by
 unfold Hu at he;split at he
 ·rename_i off n hf;split at he
  ·cases he
  ·rename_i hn;split at he
   ·rename_i k o;simp at he;subst he;cases h with
    |ref hu h =>
     refine⟨_,FA hf hn _,.ref hu fun ob hob=>?_⟩;obtain⟨cs,b,h1,h2,rfl⟩:=h ob hob;exact⟨cs,b,h1,h2,Addr.add_lit _ _ _⟩
   ·rename_i k m i sz o;split at he
    ·rename_i hlt;simp at he;subst he;cases h with
     |eref hu hi ho h =>
      refine⟨_,FA hf hn _,.eref hu hi hlt fun ob hob=>?_⟩;obtain⟨e,sz',xs,h1,h2,h3⟩:=h ob hob;refine⟨e,sz',xs,h1,h2,fun hm=>?_⟩;obtain⟨g,c,h4,rfl⟩:=h3 hm;exact⟨g,c,h4,by rw[Addr.add_lit];congr 1;omega⟩
    ·cases he
   ·rename_i fs;simp at he;subst he;cases h with
    |dref val hb hM hc h1 h2 =>
     refine⟨_,FA hf hn _,.dref (fun j=>val (off+j)) (by rw[CB];exact hb) (by rw[CB];exact hM) (fun d hd=>hc d (List.mem_of_mem_drop hd)) (fun j d hd=>?_) (fun j d hd=>?_)⟩
     ·simp at hd;rw[JM];exact h1 _ d hd
     ·simp at hd;exact h2 _ d hd
   ·rename_i k m i sz o;split at he
    ·rename_i hlt;simp at he;subst he;cases h with
     |toref hu hi ho h =>
      refine⟨_,FA hf hn _,.toref hu hi hlt fun ob hob=>?_⟩;obtain⟨T,rows,q,h1,h2,h3⟩:=h ob hob;refine⟨T,rows,q,h1,h2,fun hm=>?_⟩;obtain⟨g,c,h4,rfl⟩:=h3 hm;exact⟨g,c,h4,by rw[Addr.add_lit];congr 1;omega⟩
    ·cases he
   ·rename_i k r m i sz o;split at he
    ·rename_i hlt;simp at he;subst he;cases h with
     |tref hu hi ho h =>
      refine⟨_,FA hf hn _,.tref hu hi hlt fun ob hob=>?_⟩;obtain⟨T,rows,q,h1,h0,h2,h3⟩:=h ob hob;refine⟨T,rows,q,h1,h0,h2,fun hq hm=>?_⟩;obtain⟨g,c,h4,rfl⟩:=h3 hq hm;exact⟨g,c,h4,by rw[Addr.add_lit];congr 1;omega⟩
    ·cases he
   ·cases he
 ·cases he
def Hv(P:Program)(t:TypeId)(x i:AV):Option AV :=
 match C3 P t,i with
 |some e,.d (.int _ j) =>
  match BV P e with
  |some sz=>if 0≤j then
   match x with
   |.d (.sl sz' xs)=>match xs[j.toNat]? with
    |some y=>if sz'=sz then some (.dref y.comps)else none
    |none=>none
   |.clip sz' xs=>match xs[j.toNat]? with
    |some y=>if sz'=sz then some (.dref y.comps)else none
    |none=>none
   |.own k n=>if j<n∧0<sz then some (.eref k n j.toNat sz 0)else none
   |.tab k n=>if j<n∧0<sz then some (.toref k n j.toNat sz 0)else none
   |.trow k i n=>if j<n∧0<sz then some (.tref k i n j.toNat sz 0)else none
   |.rv k n lo m sz'=>if j<m∧0<sz∧sz'=sz then some (.eref k n (lo+j.toNat) sz 0)else none
   |_=>none
   else none
  |none=>none
 |_,_=>none
theorem Ey{t e sz:Nat}(he:C3 P t=some e)(hz:BV P e=some sz)(a:Addr)(n c:Nat)(k:IntKind)(j:Int)(h0:0≤j)(hj:j<n) :
 (Instr.indexAt t (.slice (some a) n c) (.int k j)).run P w= .ok (.pointer (some (a.add (j.toNat * sz)))) w:=by
 have hu:=Bn he;simp[Instr.indexAt,asIntOf,run_underlying hu,h0,hj,AF hz]
theorem TT{M:Nat→Prop}{H:Nat→Option HO}{sz:Nat}{xs:List D}{v:Value}{j:Nat}{y:D}(h:An w M (.sl sz xs) v)(hy:xs[j]? =some y) :
 ∃a c,v= .slice (some a) xs.length c∧A5 w M H ν used (.dref y.comps) (.pointer (some (a.add (j * sz)))):=by
 cases h with
 |sl0=>simp at hy
 |sl val hb hM hc hm hs h1 h2 =>
  refine⟨_,_,rfl,.dref (fun i=>val j i) (by rw[CB];exact hb (L0 hy)) (by rw[CB];exact hM (L0 hy)) (hs j y hy).2 (fun i d hd=>?_) (fun i d hd=>h2 j y i d hy hd)⟩;rw[JM];exact h1 j y i d hy hd
theorem RI{X:DT}{H:Nat→Option HO}(hI:At X H ν used w){k:Nat}{e:TypeId}{sz:Nat}{xs:List D}(ho:H k=some (.row e sz xs)){a:Addr}{n c:Nat}(hv:.slice (some a) n c=ν k) :
 ∃g,a=⟨g,0,none⟩∧n=xs.length:=by
 obtain⟨vals,hown,_⟩:=hI.obj _ _ ho;rcases hown.2 with⟨h,_⟩|⟨g,cap,cur,h,_⟩
 ·rw[← hv]at h;cases h
 ·rw[← hv]at h;cases h;exact⟨g,rfl,rfl⟩
theorem C2.form{w:World}{base:Nat}{e:TypeId}{sz:Nat}{m:Nat}{vals:List Value}{v:Value}(hown:C2 w base e sz v m vals){a:Addr}{n c:Nat}(hv:.slice (some a) n c=v) :
 ∃g,a=⟨g,0,none⟩∧n=m:=by
 rcases hown.2 with⟨h,_⟩|⟨g,cap,cur,h,_⟩
 ·rw[← hv]at h;cases h
 ·rw[← hv]at h;cases h;exact⟨g,rfl,rfl⟩
theorem O5{H:Nat→Option HO}{M:Nat→Prop}(hI:At X H ν used w){t:Nat}{x i r:AV}{vx vi:Value}(hx:A5 w M H ν used x vx)(hi:A5 w M H ν used i vi)(he:Hv P t x i=some r) :
 ∃u,(Instr.indexAt t vx vi).run P w= .ok u w∧A5 w M H ν used r u:=by
 unfold Hv at he;split at he
 ·rename_i e k j hel;cases hi with
  |d hi =>
   cases hi;split at he
   ·rename_i sz hz;split at he
    ·rename_i h0;split at he
     ·rename_i sz' xs;split at he
      ·rename_i y hy;split at he
       ·rename_i hsz;subst hsz;simp at he;subst he;cases hx with
        |d hx =>
         obtain⟨a,c,rfl,hr⟩:=TT (H:=H) (ν:=ν) (used:=used) hx hy;have hlt:=(List.getElem?_eq_some_iff.1 hy).1;exact⟨_,Ey hel hz a _ c k j h0 (by omega),hr⟩
       ·cases he
      ·cases he
     ·rename_i sz' xs;split at he
      ·rename_i y hy;split at he
       ·rename_i hsz;subst hsz;simp at he;subst he;cases hx with
        |clip hx =>
         obtain⟨a,c,he,hr⟩:=TT (H:=H) (ν:=ν) (used:=used) hx hy;have hlt:=(List.getElem?_eq_some_iff.1 hy).1;rw[he];exact⟨_,Ey hel hz a _ c k j h0 (by omega),hr⟩
       ·cases he
      ·cases he
     ·rename_i q n;split at he
      ·rename_i hjn;simp at he;subst he;cases hx with
       |own hu hv hc ha h =>
        rename_i c a;cases a with
        |none=>have:=(ha rfl).1;omega
        |some a =>
         subst hv;refine⟨_,Ey hel hz a n c k j h0 (by omega),.eref hu (by omega) hjn.2 fun o ho=>?_⟩;obtain⟨e',sz',xs,h1,h2,h3⟩:=h o ho;refine⟨e',sz',xs,h1,h2,fun hn=>?_⟩;have hv:=h3 hn;subst h1;obtain⟨g,rfl,_⟩:=RI hI ho hv;exact⟨g,c,hv.symm,by rw[Addr.add_lit];simp⟩
      ·cases he
     ·rename_i q n;split at he
      ·rename_i hjn;simp at he;subst he;cases hx with
       |tab hu hv hc ha h =>
        rename_i c a;cases a with
        |none=>have:=(ha rfl).1;omega
        |some a =>
         subst hv;refine⟨_,Ey hel hz a n c k j h0 (by omega),.toref hu (by omega) hjn.2 fun o ho=>?_⟩;obtain⟨T,rows,q',h1,h2,h3⟩:=h o ho;refine⟨T,rows,q',h1,h2,fun hn=>?_⟩;have hv:=h3 hn;subst h1;obtain⟨_,_,_,vals,hown,_⟩:=hI.obj _ _ ho;obtain⟨g,rfl,_⟩:=hown.form hv;exact⟨g,c,hv.symm,by rw[Addr.add_lit];simp⟩
      ·cases he
     ·rename_i q r n;split at he
      ·rename_i hjn;simp at he;subst he;cases hx with
       |trow hu hv hc ha h =>
        rename_i c a;cases a with
        |none=>have:=(ha rfl).1;omega
        |some a =>
         subst hv;refine⟨_,Ey hel hz a n c k j h0 (by omega),.tref hu (by omega) hjn.2 fun o ho=>?_⟩;obtain⟨T,rows,q',h1,hlt,h2,h3⟩:=h o ho;refine⟨T,rows,q',h1,hlt,h2,fun hq hn=>?_⟩;have hv:=h3 hq hn;subst h1;obtain⟨_,_,_,vals,_,hr⟩:=hI.obj _ _ ho;obtain⟨_,a2,_⟩:=hr r _ (List.getElem?_eq_getElem hlt);obtain⟨_,us,hown,_⟩:=a2 hq;obtain⟨g,rfl,_⟩:=hown.form hv;exact⟨g,c,hv.symm,by rw[Addr.add_lit];simp⟩
      ·cases he
     ·rename_i q n lo m sz';split at he
      ·rename_i hjn;obtain⟨hjm,hz0,rfl⟩:=hjn;simp at he;subst he;cases hx with
       |rv hu hc hlo h =>
        rename_i c a;refine⟨_,Ey hel hz a m c k j h0 (by omega),.eref hu (by omega) hz0 fun o ho=>?_⟩;obtain⟨e',sz2,xs,h1,h2,h3⟩:=h o ho;refine⟨e',sz2,xs,h1,h2,fun hn=>?_⟩;obtain⟨g,c',h4,rfl⟩:=h3 hn;exact⟨g,c',h4,by rw[Addr.add_lit];congr 1;rw[Nat.add_mul];omega⟩
      ·cases he
     ·cases he
    ·cases he
   ·cases he
 ·cases he
end
mutual
def J5:Value→Option D
 |.bool b=>some (.bool b)| .int k n=>some (.int k n)| .string s=>some (.str s)| .nilFunc=>some .nilf
 |.map r=>match r with|none=>some .nilm|some _=>none
 |.pointer r=>match r with|none=>some .nilp|some _=>none
 |.slice a n c=>match a with|none=>if n=0∧c=0 then some .nils else none|some _=>none
 |.agg cs=>match Qt cs.toList with|some ds=>if ds.all D.cell then some (.agg ds)else none|none=>none
 |_=>none
def Qt:List Value→Option (List D)
 | []=>some []
 |v::vs=>match J5 v with
  |some d=>match Qt vs with|some ds=>some (d::ds)|none=>none
  |none=>none
end
mutual
theorem Qs{w:World}{M:Nat→Prop}:∀(v:Value) (d:D),J5 v=some d→An w M d v
 |.bool b,d,h=>by simp[J5]at h;subst h;constructor
 |.int k n,d,h=>by simp[J5]at h;subst h;constructor
 |.string s,d,h=>by simp[J5]at h;subst h;constructor
 |.nilFunc,d,h=>by simp[J5]at h;subst h;constructor
 |.map r,d,h=>by
  cases r with
  |some r=>simp[J5]at h
  |none=>simp[J5]at h;subst h;constructor
 |.slice a n c,d,h=>by
  cases a with
  |some a=>simp[J5]at h
  |none =>
   simp[J5]at h;obtain⟨⟨rfl,rfl⟩,rfl⟩:=h;constructor
 |.agg cs,d,h=>by
  simp only[J5]at h;split at h
  ·rename_i ds hd;split at h
   ·rename_i ha;simp at h;subst h;obtain⟨h1,h2⟩:=Sb cs.toList ds hd;have:=An.agg h1 (by simpa using ha) h2;simpa using this
   ·cases h
  ·cases h
 |.float ..,d,h=>by simp[J5]at h
 |.complex ..,d,h=>by simp[J5]at h
 |.pointer r,d,h=>by
  cases r with
  |some r=>simp[J5]at h
  |none=>simp[J5]at h;subst h;constructor
 |.chan _,d,h=>by simp[J5]at h
 |.func ..,d,h=>by simp[J5]at h
 |.iface ..,d,h=>by simp[J5]at h
 |.nilIface,d,h=>by simp[J5]at h
 |.tuple _,d,h=>by simp[J5]at h
theorem Sb{w:World}{M:Nat→Prop}:∀(vs:List Value) (ds:List D),Qt vs=some ds→ds.length=vs.length∧∀(i:Nat) d v,ds[i]? =some d→vs[i]? =some v→An w M d v
 | [],ds,h=>by simp[Qt]at h;subst h;exact⟨rfl,fun i d v hd _=>by simp at hd⟩
 |v::vs,ds,h=>by
  simp only[Qt]at h;split at h
  ·rename_i x hx;split at h
   ·rename_i xs hxs;simp at h;subst h;have h0:=Qs (w:=w) (M:=M) v x hx;obtain⟨h1,h2⟩:=Sb (w:=w) (M:=M) vs xs hxs;refine⟨by simp[h1],fun i d u hd hu=>?_⟩;cases i with
    |zero=>simp at hd hu;subst hd;subst hu;exact h0
    |succ i=>exact h2 i d u (by simpa using hd) (by simpa using hu)
   ·cases h
  ·cases h
end
def Av(P:Program)(t:TypeId):Option D:=match P.info? t with
 |some i=>match i.zero with
  |some z=>J5 z
  |none=>none
 |none=>none
section
variable {P:Program} {X:DT} {hp:Aa} {ν:Nat→Value} {used:Nat→Prop} {w:World} {key:Nat}
theorem EC{t:Nat}{d:D}(h:Av P t=some d):∃z,(∀w:World,(zeroValue t).run P w= .ok z w)∧(∃i,P.info? t=some i∧i.zero=some z)∧∀w M,An w M d z:=by
 unfold Av at h;split at h
 ·rename_i i hi;split at h
  ·rename_i z hz;exact⟨z,fun w=>by simp[zeroValue,typeInfo,hi,hz],⟨i,hi,hz⟩,fun w M=>Qs z d h⟩
  ·cases h
 ·cases h
theorem Lz(hI:At X (lk hp) ν used w)(hk:¬used key)(t:TypeId){av:AV}{v:Value}(h:A5 w (Am X.M0 (lk hp) ν) (lk hp) ν used av v)(hs:av.sto=true) :
 C7 X hp ν used w key (put hp key (.var av.comps)) (.ref key 0) (.pointer (some ⟨w.heap.size,0,none⟩)) (w.alloc (.cells v.cells t)):=by
 obtain⟨h1,h2,h3⟩:=Ix h hs;obtain⟨g1,g2⟩:=hI.alloc hk (.cells v.cells t) (.var av.comps) (.pointer (some ⟨w.heap.size,0,none⟩)) (fun b hb=>(Option.some.inj hb).symm) (fun M' H' ν' used' hx=>by
  refine⟨_,v.cells,t,rfl,heap_alloc_new w _,by simpa using h1,h2,fun i a u ha hu=>?_⟩;exact(h3 i a u ha (by simpa using hu)).ext hx)
 refine⟨_,g1,g2,.ref (.inr rfl) fun o ho=>?_⟩;rw[Ab]at ho;cases ho;exact⟨_,_,rfl,Ac _ _ _,rfl⟩
theorem Zl(t:TypeId)(v:Value):(Instr.box t v).run P w= .ok (.pointer (some ⟨w.heap.size,0,none⟩)) (w.alloc (.cells v.cells t)):=by
 simp[Instr.box,newVar,newRow]
theorem VD{t:TypeId}{z:Value}(hz:∀w:World,(zeroValue t).run P w= .ok z w):(Instr.alloc t true (.tuple #[])).run P w= .ok (.pointer (some ⟨w.heap.size,0,none⟩)) (w.alloc (.cells z.cells t)):=by
 simp[Instr.alloc,hz,newVar,newRow]
def D.rebuild(x:D)(cs:List D):Option D:=match x with
 |.agg _=>some (.agg cs)
 |_=>match cs with| [d]=>some d|_=>none
def Gh(P:Program)(H:Nat→Option HO)(t:TypeId)(a x:AV):Option (List (Nat×Option HO)×List Nat) :=
 match BV P t with
 |none=>none
 |some n=>match a with
  |.ref k off=>match H k with
   |some (.var cs)=>if x.sto∧x.comps.length=n∧off+n≤cs.length then some ([(k,some (.var (Aj cs off x.comps)))],[k])else none
   |_=>none
  |.eref k m i sz off=>match H k with
   |some (.row e sz' xs)=>if m=xs.length∧sz'=sz then
     match xs[i]?,Cz H x with
     |some y,some (d,ks)=>if(AV.d d).sto∧d.comps.length=n∧off+n≤y.comps.length∧k∉ks then
       match y.rebuild (Aj y.comps off d.comps)with
       |some y'=>some (ks.map (fun q=>(q,none))++[(k,some (.row e sz' (xs.set i y')))],k::ks)
       |none=>none
      else none
     |_,_=>none
    else none
   |_=>none
  |_=>none
def BO(hp:Aa):List (Nat×Option HO)→Aa
 | []=>hp
 |(k,o)::l=>match o with
  |some o=>BO (put hp k o) l
  |none=>BO (DM hp k) l
theorem EO(ks:List Nat)(l:List (Nat×Option HO)):∀hp:Aa,BO hp (ks.map (fun q=>(q,none))++l)=BO (Bq hp ks) l:=by
 induction ks with
 |nil=>intro hp;rfl
 |cons k ks ih=>intro hp;simp[BO,Bq,ih]
theorem FB{t n:Nat}(hz:BV P t=some n){g o:Nat}{e:TypeId}{cur:Array Value}(hg:w.heap[g]? =some (.cells cur e (0,0))){v:Value}(hl:v.cells.size=n)(ho:o+n≤cur.size)(h1:∀u∈v.cells.toList,u.oneCell'=true) :
 (Instr.storeAt t (.pointer (some ⟨g,o,none⟩)) v).run P w= .ok () (w.setRow g (Aj cur.toList o v.cells.toList).toArray):=by
 have:=run_storeCells_at P g o e v.cells.toList 0 cur w hg (by simp;omega) h1;simp only[Nat.add_zero]at this;simp[Instr.storeAt,Instr.sureAddr,storeVar,AF hz,hl,this,Aj]
theorem D1(ks:List Nat):∀(hp:Aa) (k:Nat),k∉ks→lk (Bq hp ks) k=lk hp k:=by
 induction ks with
 |nil=>exact fun _ _ _=>rfl
 |cons q ks ih =>
  intro hp k h;simp at h;rw[Bq,ih _ _ h.2,Bc _ _ _ h.1]
theorem Jg{y y':D}{cs:List D}(h:y.rebuild cs=some y')(hc:∀d∈cs,d.cell=true):y'.comps=cs:=by
 have one:∀d:D,d.cell=true→d.comps=[d]:=by intro d hd;cases d<;>first|rfl|(simp[D.cell]at hd)
 cases y<;>simp only[D.rebuild]at h;case agg=>simp at h;subst h;rfl
 all_goals
  split at h
  ·simp at h;subst h;exact one _ (hc _ (by simp))
  ·cases h
theorem Ex{w w':World}{base:Nat}{e:TypeId}{sz n c:Nat}{g:Nat}{vals vs:List Value}{o:Nat}(h:C2 w base e sz (.slice (some ⟨g,0,none⟩) n c) n vals)(ho:o+vs.length≤n * sz){cur:Array Value}
 (hg:w.heap[g]? =some (.cells cur e (0,0))) (hg':w'.heap[g]? =some (.cells (Aj cur.toList o vs).toArray e (0,0))):C2 w' base e sz (.slice (some ⟨g,0,none⟩) n c) n (Aj vals o vs):=by
 rcases h with⟨h1,⟨h2,_⟩|⟨g',cap,cur',h2,hb,hh,hn,hm,hs,ht⟩⟩
 ·cases h2
 ·cases h2;rw[hg]at hh;cases hh;have hle:n * sz≤cur.toList.length:=by rw[Array.length_toList];exact Nat.le_trans (Nat.mul_le_mul_right _ hn) hs
  refine⟨by rw[AX _ _ _ (by omega)];exact h1,.inr ⟨g,c,_,rfl,hb,hg',hn,hm,by simp only[List.size_toArray];rw[AX _ _ _ (by omega)];simpa using hs,?_⟩⟩;apply List.ext_getElem?;intro j;simp only[List.toList_toArray];rw[AW _ _ _ (by omega),List.getElem?_take];by_cases hj:j<n * sz
  ·rw[if_pos hj,AW _ _ _ (by omega)];split
   ·rfl
   ·rw[← ht,List.getElem?_take,if_pos hj]
  ·rw[if_neg hj,if_neg (by omega),List.getElem?_eq_none (by omega)]
theorem O9(hI:At X (lk hp) ν used w)(hk:¬used key){t:Nat}{a x:AV}{va vx:Value}{es:List (Nat×Option HO)}{acc:List Nat}
 (ha:A5 w (Am X.M0 (lk hp) ν) (lk hp) ν used a va) (hx:A5 w (Am X.M0 (lk hp) ν) (lk hp) ν used x vx) (he:Gh P (lk hp) t a x=some (es,acc)) :
 ∃w',(Instr.storeAt t va vx).run P w= .ok () w'∧C7 X hp ν used w key (BO hp es) .undef undef w':=by
 unfold Gh at he;split at he
 ·cases he
 ·rename_i n hn;split at he
  ·rename_i k off;split at he
   ·rename_i cs ho;split at he
    ·rename_i hc;obtain⟨hs,hl,hle⟩:=hc;simp at he;obtain⟨rfl,rfl⟩:=he;cases ha with
     |ref hu h =>
      obtain⟨cs',b,he,hν,rfl⟩:=h _ ho;cases he;obtain⟨b',cells,e,hv,hg,hlen,hcell,hr⟩:=hI.obj _ _ ho;rw[hν]at hv;cases hv;obtain⟨c1,c2,c3⟩:=Ix hx hs;have hl':vx.cells.toList.length=n:=by omega
      have hl2:vx.cells.size=n:=by simpa using hl'
      have hone:∀u∈vx.cells.toList,u.oneCell'=true:=fun u hu=>by
       obtain⟨i,hi⟩:=List.mem_iff_getElem?.1 hu;have hil:=(List.getElem?_eq_some_iff.1 hi).1;have hd:=List.getElem?_eq_getElem (l:=x.comps) (i:=i) (by omega);exact(c3 i _ u hd hi).oneCell (c2 _ (List.getElem_mem _))
      refine⟨_,FB hn hg (by simpa using hl') (by omega) hone,?_⟩;have hb:AL (ν k) b:=by rw[hν];exact rfl
      obtain⟨g1,g2⟩:=hI.write (o':=.var (Aj cs off x.comps)) ho hb (Aj cells.toList off vx.cells.toList).toArray (by simp only[HO.later];rw[AX _ _ _ (by omega)])
       (fun M' H' hx'=>by
         refine⟨b,_,e,hν,setRow_heap _ _ _ _ _ _ hg,?_,fun c hc=>?_,fun i av u h1 h2=>?_⟩
         ·simp only[List.size_toArray];rw[AX _ _ _ (by simp;omega),AX _ _ _ (by omega)];simpa using hlen
         ·unfold Aj at hc;simp at hc;rcases hc with h|h|h
          ·exact hcell c (List.mem_of_mem_take h)
          ·exact c2 c h
          ·exact hcell c (List.mem_of_mem_drop h)
         ·simp only[List.getElem?_toArray]at h2;rw[AW _ _ _ (by omega)]at h1;rw[AW _ _ _ (by simp;omega)]at h2;rw[c1]at h2;split at h1
          ·rename_i hij;rw[if_pos hij]at h2;exact(c3 _ _ _ h1 h2).ext hx'
          ·rename_i hij;rw[if_neg hij]at h2;exact(hr i av u h1 (by simpa using h2)).ext hx')
      obtain⟨m1,m2⟩:=g1.more hk;exact⟨ν,m1,g2.trans m2,.undef _⟩
    ·cases he
   ·cases he
  ·rename_i k m i sz off;split at he
   ·rename_i e sz' xs ho;split at he
    ·rename_i hm;obtain⟨hm,rfl⟩:=hm;split at he
     ·rename_i y d ks hy hd;split at he
      ·rename_i hc;obtain⟨hs,hl,hle,hnk⟩:=hc;split at he
       ·rename_i y' hy';simp at he;obtain⟨rfl,rfl⟩:=he;rw[EO];simp only[BO];obtain⟨hI1,x1⟩:=hI.drops ks;have ho1:lk (Bq hp ks) k=some (.row e sz' xs):=by rw[D1 _ _ _ hnk];exact ho
        have hdr:=DJ hI hx hd;cases ha with
        |eref hu hi hoff h =>
         obtain⟨_,_,_,he,_,hv⟩:=h _ ho;cases he;obtain⟨g,c,hν,rfl⟩:=hv hm;subst hm;obtain⟨vals,hown,hz,hf,hr⟩:=hI1.obj _ _ ho1;rw[hν]at hown;have hown0:=hown;rcases hown with⟨hvl,⟨h2,_⟩|⟨g',cap,cur,h2,hbg,hg,hnc,hcm,hcs,htake⟩⟩
         ·cases h2
         ·cases h2;obtain⟨c1,c2,c3⟩:=CH hdr hs;have hl2:vx.cells.toList.length=n:=by omega
          have hl3:vx.cells.size=n:=by simpa using hl2
          have hone:∀u∈vx.cells.toList,u.oneCell'=true:=fun u hu=>by
           obtain⟨q,hq⟩:=List.mem_iff_getElem?.1 hu;have hil:=(List.getElem?_eq_some_iff.1 hq).1;have hd:=List.getElem?_eq_getElem (l:=d.comps) (i:=q) (by omega);exact(c3 q _ u hd hq).oneCell (c2 _ (List.getElem_mem _))
          have hyl:=(hf y (List.mem_of_getElem? hy)).1;have hi1:(i+1) * sz'≤xs.length * sz':=Nat.mul_le_mul_right _ hi;have hi2:(i+1) * sz'=i * sz'+sz':=by rw[Nat.add_mul];omega
          have hcap:xs.length * sz'≤c * sz':=Nat.mul_le_mul_right _ hnc;have hrange:i * sz'+off+n≤xs.length * sz':=by omega
          refine⟨_,FB hn hg hl3 (by omega) hone,?_⟩;have hb:AL (ν k) g:=by rw[hν];exact rfl
          have hsc:∀q∈Aj y.comps off d.comps,q.cell=true:=fun q hq=>by
           unfold Aj at hq;simp at hq;rcases hq with h|h|h
           ·exact(hf y (List.mem_of_getElem? hy)).2 q (List.mem_of_mem_take h)
           ·exact c2 q h
           ·exact(hf y (List.mem_of_getElem? hy)).2 q (List.mem_of_mem_drop h)
          have hyc:=Jg hy' hsc;have hsl:(Aj y.comps off d.comps).length=sz':=by rw[AX _ _ _ (by omega)];exact hyl
          obtain⟨g1,g2⟩:=hI1.write (o':=.row e sz' (xs.set i y')) ho1 hb (Aj cur.toList (i * sz'+off) vx.cells.toList).toArray ⟨rfl,rfl,by simp⟩
           (fun M' H' hx'=>by
             refine⟨Aj vals (i * sz'+off) vx.cells.toList,?_,hz,fun q hq=>?_,fun i' q j dd hq hdd=>?_⟩
             ·rw[hν,List.length_set];exact Ex hown0 (by omega) hg (setRow_heap _ _ _ _ _ _ hg)
             ·rcases List.mem_or_eq_of_mem_set hq with h|h
              ·exact hf q h
              ·subst h;rw[hyc];exact⟨hsl,hsc⟩
             ·rw[AW _ _ _ (by omega)];have hjl:=(List.getElem?_eq_some_iff.1 hdd).1;by_cases hii:i'=i
              ·subst hii;rw[List.getElem?_set_self hi]at hq;cases hq;rw[hyc]at hdd hjl;rw[AW _ _ _ (by omega)]at hdd;split at hdd
               ·rename_i hj;rw[if_pos (by omega)];have hd':=(List.getElem?_eq_some_iff.1 hdd).1;have hu:=List.getElem?_eq_getElem (l:=vx.cells.toList) (i:=j-off) (by omega);refine⟨_,?_,(c3 _ _ _ hdd hu).mono hx'.same hx'.shrink⟩;rw[← hu];congr 1;omega
               ·rename_i hj;rw[if_neg (by omega)];obtain⟨u,hu,hru⟩:=hr _ y j dd hy hdd;exact⟨u,hu,hru.mono hx'.same hx'.shrink⟩
              ·rw[List.getElem?_set_ne (fun h=>hii h.symm)]at hq;have hjl':j<sz':=by rw[(hf q (List.mem_of_getElem? hq)).1]at hjl;exact hjl
               obtain⟨u,hu,hru⟩:=hr _ q j dd hq hdd;rw[if_neg ?_]
               ·exact⟨u,hu,hru.mono hx'.same hx'.shrink⟩
               ·intro hh;rcases Nat.lt_or_gt_of_ne hii with h|h
                ·have:(i'+1) * sz'≤i * sz':=Nat.mul_le_mul_right _ h;rw[Nat.add_mul]at this;omega
                ·have:(i+1) * sz'≤i' * sz':=Nat.mul_le_mul_right _ h;omega)
          obtain⟨m1,m2⟩:=g1.more hk;exact⟨ν,m1,(x1.trans g2).trans m2,.undef _⟩
       ·cases he
      ·cases he
     ·cases he
    ·cases he
   ·cases he
  ·cases he
end
end Go.Eng
namespace Go.Eng
open Go.RowKit
def D8(P:Program)(t:TypeId):Bool:=match P.underlying t with
 |some (.struct fs)=>fs.toList.all fun f=>(BV P f.type).isSome
 |_=>false
def JZ(P:Program)(t:TypeId):List AV→List (Nat×AV)→Option (List AV)
 |cs,[]=>some cs
 |cs,(i,av)::ps=>match C4 P t i with
  |some (off,n)=>if av.sto∧av.comps.length=n∧off+n≤cs.length then JZ P t (Aj cs off av.comps) ps else none
  |none=>none
def Hr(P:Program)(t:TypeId)(ps:List (Nat×AV)):Option AV :=
 if D8 P t then
  match Av P t with
  |some z=>if(AV.d z).sto then match JZ P t (z.comps.map .d) ps with
   |some cs=>some (Qd cs)
   |none=>none
   else none
  |none=>none
 else none
section
variable {P:Program} {w:World} {M:Nat→Prop} {H:Nat→Option HO} {ν:Nat→Value} {used:Nat→Prop}
theorem HS:∀(l:List Field),(∀f∈l,(BV P f.type).isSome=true) →
 (l.mapM (fun f=>do pure (f.offset,← sizeOf f.type)):Sem (List (Nat×Nat))).run P w= .ok (l.map fun f=>(f.offset,(BV P f.type).getD 0)) w
 | [],_=>by simp
 |f::l,h=>by
  obtain⟨n,hn⟩:=Option.isSome_iff_exists.1 (h f (by simp));rw[List.mapM_cons];simp only[Sem.run_bind,Sem.run_pure,AF hn,Result.andThen_ok,HS l (fun g hg=>h g (by simp[hg])),List.map_cons,hn,Option.getD_some]
theorem Ia:∀(vs:List Value) (cs:Array Value) (o:Nat),o+vs.length≤cs.size →
 ((vs.zipIdx.foldl (fun(cs:Array Value) (p:Value×Nat)=>cs.setIfInBounds (o+p.2) p.1) cs)).toList=Aj cs.toList o vs:=by
 have gen:∀(vs:List Value) (k:Nat) (cs:Array Value) (o:Nat),o+k+vs.length≤cs.size →
  (((vs.zipIdx k).foldl (fun(cs:Array Value) (p:Value×Nat)=>cs.setIfInBounds (o+p.2) p.1) cs)).toList=Aj cs.toList (o+k) vs:=by
  intro vs;induction vs with
  |nil=>intro k cs o _;simp[Aj]
  |cons v vs ih =>
   intro k cs o h;simp only[List.length_cons]at h;rw[List.zipIdx_cons,List.foldl_cons,ih (k+1) _ o (by simp;omega)];apply List.ext_getElem?;intro j;rw[AW _ _ _ (by simp;omega),AW _ _ _ (by simp;omega)];simp only[Array.toList_setIfInBounds,List.length_cons];by_cases h1:o+(k+1)≤j∧j<o+(k+1)+vs.length
   ·rw[if_pos h1,if_pos (by omega),show j-(o+k)=(j-(o+(k+1)))+1 from by omega];rfl
   ·rw[if_neg h1];by_cases h2:j=o+k
    ·subst h2;rw[if_pos (by omega),List.getElem?_set_self (by simp;omega)];simp
    ·rw[if_neg (by omega),List.getElem?_set_ne (by omega)]
 intro vs cs o h;have:=gen vs 0 cs o (by omega);simpa using this
theorem R5{t:Nat}{places:Array (Nat×Nat)}(hp:∀i p,C4 P t i=some p→places[i]? =some p):∀(ps:List (Nat×AV)) (vs:List (Nat×Value)) (cs:List AV) (cells:Array Value) (cs':List AV),
 ps.length=vs.length→(∀(j:Nat) p q,ps[j]? =some p→vs[j]? =some q→p.1=q.1∧A5 w M H ν used p.2 q.2) →
 cs.length=cells.size→(∀c∈cs,c.cell=true)→(∀(i:Nat) d v,cs[i]? =some d→cells.toList[i]? =some v→A5 w M H ν used d v) →
 JZ P t cs ps=some cs' →
 ∃out,Instr.fill (places[·]?) cells vs=some out∧cs'.length=out.toList.length∧(∀c∈cs',c.cell=true)∧∀(i:Nat) d v,cs'[i]? =some d→out.toList[i]? =some v→A5 w M H ν used d v
 | [],vs,cs,cells,cs',hl,h,hlen,hc,hr,he=>by
   cases vs with
   |cons _ _=>simp at hl
   |nil =>
    simp[JZ]at he;subst he;exact⟨cells,rfl,by simpa using hlen,hc,hr⟩
 |(i,av)::ps,vs,cs,cells,cs',hl,h,hlen,hc,hr,he=>by
  cases vs with
  |nil=>simp at hl
  |cons q vs =>
   obtain⟨i',v⟩:=q;obtain⟨e1,e2⟩:=h 0 _ _ rfl rfl;simp only at e1 e2;subst e1;simp only[JZ]at he;split at he
   ·rename_i off n hf;split at he
    ·rename_i hcond;obtain⟨hs,hn,hle⟩:=hcond;obtain⟨c1,c2,c3⟩:=Ix e2 hs;have hsz:v.cells.size=n:=by have:v.cells.toList.length=n:=by omega
                                                                                                    simpa using this
     have hfold:=Ia v.cells.toList cells off (by simp;omega);obtain⟨out,g1,g2,g3,g4⟩:=R5 hp ps vs (Aj cs off av.comps) ((v.cells.zipIdx.foldl (fun cs (c,j)=>cs.setIfInBounds (off+j) c) cells)) cs' (by simpa using hl)
      (fun j p q hp hq=>h (j+1) p q (by simpa using hp) (by simpa using hq))
      (by rw[AX _ _ _ (by omega)]
          have:=congrArg List.length hfold;rw[AX _ _ _ (by simp;omega)]at this;rw[hlen];simp only[Array.length_toList]at this;rw[← this,← Array.foldl_toList];simp[Array.toList_zipIdx])
      (fun c hc'=>by
        unfold Aj at hc';simp at hc';rcases hc' with h|h|h
        ·exact hc c (List.mem_of_mem_take h)
        ·exact c2 c h
        ·exact hc c (List.mem_of_mem_drop h))
      (fun j d u hd hu=>by
        have e:(v.cells.zipIdx.foldl (fun cs (c,j)=>cs.setIfInBounds (off+j) c) cells).toList=Aj cells.toList off v.cells.toList:=by
         rw[← hfold,← Array.foldl_toList];simp[Array.toList_zipIdx]
        rw[e]at hu;rw[AW _ _ _ (by omega)]at hd;rw[AW _ _ _ (by simp;omega),c1]at hu;split at hd
        ·rename_i hj;rw[if_pos hj]at hu;exact c3 _ _ _ hd hu
        ·rename_i hj;rw[if_neg hj]at hu;exact hr j d u hd hu) he
     refine⟨out,?_,g2,g3,g4⟩;have hpl:=hp i (off,n) hf;simp only[Instr.fill,hpl];rw[if_neg (by simp[hsz];omega)];exact g1
    ·cases he
   ·cases he
theorem NW{t:Nat}{ps:List (Nat×AV)}{vs:List (Nat×Value)}{r:AV}(hl:ps.length=vs.length)(h:∀(j:Nat) p q,ps[j]? =some p→vs[j]? =some q→p.1=q.1∧A5 w M H ν used p.2 q.2)(he:Hr P t ps=some r) :
 ∃u,(Instr.build t vs.toArray).run P w= .ok u w∧A5 w M H ν used r u:=by
 unfold Hr at he;split at he
 ·rename_i ha;split at he
  ·rename_i z hz;split at he
   ·rename_i hs;split at he
    ·rename_i cs hcs;simp at he;subst he;obtain⟨zv,hzr,_,hzrep⟩:=EC hz;obtain⟨c1,c2,c3⟩:=CH (hzrep w M) hs;unfold D8 at ha;split at ha
     ·rename_i fs hu;have hrun:=HS (P:=P) (w:=w) fs.toList (List.all_eq_true.1 ha);have hplaces:∀i p,C4 P t i=some p→((fs.toList.map fun f=>(f.offset,(BV P f.type).getD 0)).toArray)[i]? =some p:=by
       intro i p hp;obtain⟨fs',f,hu',hf,hz',ho⟩:=Re hp;rw[hu]at hu';cases hu';simp[hf,hz',ho]
      obtain⟨out,g1,g2,g3,g4⟩:=R5 (P:=P) (w:=w) (M:=M) (H:=H) (ν:=ν) (used:=used) hplaces ps vs (z.comps.map .d) zv.cells cs hl h (by simpa using c1.symm)
       (fun c hc=>by simp at hc;obtain⟨y,hy,rfl⟩:=hc;exact c2 y hy)
       (fun i d u hd hu=>by simp at hd;obtain⟨y,hy,rfl⟩:=hd;exact .d (c3 i y u hy hu)) hcs
      refine⟨_,?_,Ns g2 g3 g4⟩;have hm:(fs.mapM (fun f=>do pure (f.offset,← sizeOf f.type)):Sem (Array (Nat×Nat))).run P w= .ok (fs.toList.map fun f=>(f.offset,(BV P f.type).getD 0)).toArray w:=by
       have e:(fs.mapM (fun f=>do pure (f.offset,← sizeOf f.type)):Sem (Array (Nat×Nat)))=List.toArray <$> (fs.toList.mapM (fun f=>do pure (f.offset,← sizeOf f.type))):=by
        rw[Array.mapM_eq_mapM_toList]
       rw[e,Sem.run_map,hrun];rfl
      simp only[Instr.build,Sem.run_bind,hzr,Result.andThen_ok,run_underlying hu,hm,g1,Sem.run_pure]
     ·cases ha
    ·cases he
   ·cases he
  ·cases he
 ·cases he
theorem Ju{w:World}{M:Nat→Prop}{sz c:Nat}{xs:List D}{a:Addr}{n:Nat}(hz:0<sz)(h:An w M (.sl sz xs) (.slice (some a) n c)) :
 ∃news:List Value,news.length=xs.length * sz∧n=xs.length∧(∀(j:Nat) v,news[j]? =some v→w.cell? (a.add j)=some v)∧(∀v∈news,v.oneCell'=true)∧Fo sz xs∧D6 w M sz xs news:=by
 cases h with
 |sl val hb hM hc hm hs h1 h2 =>
  have key:∀q,q<xs.length * sz→∃x d,xs[q/sz]? =some x∧x.comps[q%sz]? =some d∧d.cell=true:=by
   intro q hq;have hlt:q/sz<xs.length:=by rw[Nat.div_lt_iff_lt_mul hz];exact hq
   have hx:=List.getElem?_eq_getElem hlt;obtain⟨g1,g2⟩:=hs _ _ hx;have hm:q%sz<(xs[q/sz]).comps.length:=by rw[g1];exact Nat.mod_lt _ hz
   exact⟨_,_,hx,List.getElem?_eq_getElem hm,g2 _ (List.getElem_mem _)⟩
  refine⟨(List.range (xs.length * sz)).map fun q=>val (q/sz) (q%sz),by simp,rfl,fun j v hj=>?_,fun v hv=>?_,fun x hx=>?_,fun i x j d hx hd=>?_⟩
  ·obtain⟨hq,rfl⟩:=D3 hj;obtain⟨x,d,hx,hd,_⟩:=key j hq;have:=h1 _ x _ d hx hd
   rwa [Nat.mul_comm,Nat.div_add_mod]at this
  ·simp at hv;obtain⟨q,hq,rfl⟩:=hv;obtain⟨x,d,hx,hd,hcell⟩:=key q hq;exact(h2 _ x _ d hx hd).oneCell hcell
  ·obtain⟨i,hi⟩:=List.mem_iff_getElem?.1 hx;exact hs i x hi
  ·have hi:=(List.getElem?_eq_some_iff.1 hx).1;have hj:=(List.getElem?_eq_some_iff.1 hd).1;rw[(hs i x hx).1]at hj;have hlt:i * sz+j<xs.length * sz:=by
    have:(i+1) * sz≤xs.length * sz:=Nat.mul_le_mul_right _ hi;rw[Nat.add_mul]at this;omega
   refine⟨_,by rw[List.getElem?_map,List.getElem?_range hlt];rfl,?_⟩;have e1:(i * sz+j)/sz=i:=by rw[Nat.mul_comm,Nat.mul_add_div hz,Nat.div_eq_of_lt hj];omega
   have e2:(i * sz+j)%sz=j:=by rw[Nat.mul_comm,Nat.mul_add_mod,Nat.mod_eq_of_lt hj]
   show An w M d (val ((i * sz+j)/sz) ((i * sz+j)%sz));rw[e1,e2];exact h2 i x j d hx hd
theorem D6.append{w:World}{M:Nat→Prop}{sz:Nat}{xs ys:List D}{az bs:List Value}(hl:az.length=xs.length * sz)(hf:Fo sz xs)(h:D6 w M sz xs az)(k:D6 w M sz ys bs):D6 w M sz (xs++ys) (az++bs):=by
 intro i x j d hx hd;by_cases hi:i<xs.length
 ·rw[List.getElem?_append_left hi]at hx;obtain⟨u,hu,hr⟩:=h i x j d hx hd;exact⟨u,by rw[List.getElem?_append_left ((List.getElem?_eq_some_iff.1 hu).1)];exact hu,hr⟩
 ·rw[List.getElem?_append_right (by omega)]at hx;obtain⟨u,hu,hr⟩:=k _ x j d hx hd;refine⟨u,?_,hr⟩;have hm:xs.length * sz≤i * sz:=Nat.mul_le_mul_right _ (by omega);rw[List.getElem?_append_right (by omega),hl,show i * sz+j-xs.length * sz=(i-xs.length) * sz+j from by rw[Nat.sub_mul];omega];exact hu
theorem Fo.append{sz:Nat}{xs ys:List D}(h:Fo sz xs)(k:Fo sz ys):Fo sz (xs++ys):=fun x hx=>by
 rcases List.mem_append.1 hx with h'|h'
 ·exact h x h'
 ·exact k x h'
def CS(P:Program)(e:TypeId):Bool:=match P.info? e with
 |some i=>match i.zero with|some z=>z.cells.size==i.size|none=>false
 |none=>false
def HM(sz:Nat):D→Option (List D)
 |.sl s xs=>if s=sz then some xs else none
 |.nils=>some []
 |.emp s=>if s=sz then some []else none
 |_=>none
theorem IC{w:World}{M:Nat→Prop}{sz:Nat}{d:D}{ys:List D}{v:Value}(h:An w M d v)(he:HM sz d=some ys):An w M (.sl sz ys) v:=by
 cases d<;>simp only[HM]at he<;>try (cases he;done)
 ·split at he
  ·simp at he;subst he;rename_i hs;subst hs;exact h
  ·cases he
 ·simp at he;subst he;exact h.of_nils _
 ·split at he
  ·rename_i hs;simp at he;subst he;subst hs;exact h.of_emp
  ·cases he
def JC(n by_:Nat):Prop:=n * by_≤140737488355328∧n≤9223372036854775807
instance (n b:Nat):Decidable (JC n b):=by unfold JC;infer_instance
def E8(P:Program)(key:Nat)(H:Nat→Option HO)(t:TypeId)(x y:AV):Option (AV×List (Nat×Option HO)×List Nat) :=
 match C3 P t with
 |none=>none
 |some e=>match BV P e,E5 P e with
  |some sz,some b=>if 0<sz∧CS P e=true then
    match Cz H y with
    |some (d,ks)=>match HM sz d with
     |some ys=>match x with
      |.own k n=>match H k with
       |some (.row e' sz' xs)=>if n=xs.length∧e'=e∧sz'=sz∧k∉ks then
         if JC (xs.length+ys.length) b then some (.own k (xs++ys).length,ks.map (fun q=>(q,none))++[(k,some (.row e sz (xs++ys)))],k::ks)else none
        else none
       |_=>none
      |.d x=>match x with
       |.nils=>if JC ys.length b then some (.own key ys.length,ks.map (fun q=>(q,none))++[(key,some (.row e sz ys))],ks)else none
       |_=>none
      |_=>none
     |none=>none
    |none=>none
   else none
  |_,_=>none
structure Gb(w w':World)(row:Option Nat):Prop where
 lo:w.grownBy w' row
 drawn:w.drawn≤w'.drawn
theorem Bl.grown{B:Nat}{a w:World}{row:Option Nat}(hg:Gb a w row)(hB:B≤a.heap.size)(hr:∀b,row=some b→B≤b):Bl B a w:=⟨(Below.refl _ _).grown hg.lo hB hr,hg.drawn⟩
theorem DF{P:Program}{w:World}{base:Nat}{t e:TypeId}{sz b:Nat}(hel:C3 P t=some e)(hsz:BV P e=some sz)(hb:E5 P e=some b)(hz:0<sz)(hzo:CS P e=true)(ty:TypeId)
 {v:Value} {n:Nat} {vals:List Value} (hown:C2 w base e sz v n vals) {M:Nat→Prop} {ys:List D} {vy:Value} (hy:An w M (.sl sz ys) vy) (hroom:JC (n+ys.length) b) (hbase:base≤w.heap.size) :
 ∃v' w' news,(Builtin.append_ #[t,t] ty #[v,vy]).run P w= .ok v' w'∧C2 w' base e sz v' (n+ys.length) (vals++news)∧Gb w w' v.ownBlock∧Fo sz ys∧D6 w M sz ys news ∧
  (v'.ownBlock=v.ownBlock∨∃g,v'.ownBlock=some g∧w.heap.size≤g)∧(ys=[]→v'=v):=by
 have ht:=Bn hel;obtain⟨i,hi,hisz⟩:=H2 hsz;have hib:i.bytes=b:=by simp[E5,hi]at hb;exact hb
 cases hy':vy with
 |slice ao m c =>
  subst hy';cases ao with
  |none =>
   cases hy with
   |sl0 =>
    have hr:(Builtin.append_ #[t,t] ty #[v,.slice none 0 0]).run P w= .ok v w:=by
     rcases hown.2 with⟨rfl,rfl⟩|⟨g,cap,cur,rfl,_,_,hnc,_⟩
     ·exact run_append_owned_none (P:=P) (w:=w) base t ty e i sz ht hi (.slice none 0 0) 0 [] (World.ownsRow_nil w base e sz)
     ·simp[Builtin.append_,run_underlying ht,sizeOf,typeInfo,hi,Builtin.lenOf,hnc,Builtin.firstCells,loadCells,loadCellsFrom,storeCells]
    exact⟨v,w,[],hr,by simpa using hown,⟨⟨rfl,rfl,rfl,Nat.le_refl _,fun _ _ _=>rfl⟩,Nat.le_refl _⟩,(by intro x hx;cases hx),(by intro i x j d hx;simp at hx),.inl rfl,fun _=>rfl⟩
  |some a =>
   obtain⟨news,hl,rfl,h1,h2,h3,h4⟩:=Ju hz hy;unfold CS at hzo;rw[hi]at hzo;simp only at hzo;cases hzz:i.zero with
   |none=>simp[hzz]at hzo
   |some z =>
    simp[hzz]at hzo;have hsz':i.size=sz:=hisz;subst hsz';have hr2:=hroom.2;have hzs:z.cells.size=i.size:=by omega
    have hlen:(vals++news).length=(n+ys.length) * i.size:=by rw[List.length_append,hown.1,hl,Nat.add_mul]
    have grown:∀(old:Nat) (row:Option Nat),
     C2 (w.drew.alloc (.cells (vals.toArray++news.toArray++Builtin.zeroCells z.cells (grownCap w (n+ys.length) old e-(n+ys.length))) e)) base e i.size (.slice (some ⟨w.heap.size,0,none⟩) (n+ys.length) (grownCap w (n+ys.length) old e)) (n+ys.length) (vals++news) ∧
     Gb w (w.drew.alloc (.cells (vals.toArray++news.toArray++Builtin.zeroCells z.cells (grownCap w (n+ys.length) old e-(n+ys.length))) e)) row:=fun old row=>by
     have hge:=grownCap_ge w (n+ys.length) old e;refine⟨⟨hlen,.inr ⟨w.heap.size,_,_,rfl,hbase,heap_alloc_new w.drew _,hge,grownCap_le_maxLen w _ old e (by simp only[maxLen];omega),?_,?_⟩⟩,⟨⟨rfl,rfl,rfl,by simp,fun k hk _=>heap_alloc_old w.drew _ hk⟩,Nat.le_succ _⟩⟩
     ·simp only[Array.size_append,List.size_toArray,size_zeroCells,hzs,hown.1,hl,← Nat.add_mul];exact Nat.mul_le_mul_right _ (by omega)
     ·simp only[Array.toList_append,List.append_assoc];rw[← List.append_assoc,← hlen];exact List.take_left
    have fin:∃v' w',(Builtin.append_ #[t,t] ty #[v,.slice (some a) ys.length c]).run P w= .ok v' w'∧C2 w' base e i.size v' (n+ys.length) (vals++news)∧Gb w w' v.ownBlock∧(v'.ownBlock=v.ownBlock∨∃g,v'.ownBlock=some g∧w.heap.size≤g)∧(ys=[]→v'=v):=by
     rcases hown.2 with⟨rfl,rfl⟩|⟨g,cap,cur,rfl,hbg,hg,hnc,hcm,hcs,htake⟩
     ·have hv0:vals=[]:=List.eq_nil_of_length_eq_zero (by simpa using hown.1);subst hv0;by_cases h0:ys.length=0
      ·have hy0:=List.eq_nil_of_length_eq_zero h0;have hn0:news=[]:=List.eq_nil_of_length_eq_zero (by rw[hl,h0];omega);subst hn0;subst hy0;refine⟨.slice none 0 0,w,?_,C2.nil,⟨⟨rfl,rfl,rfl,Nat.le_refl _,fun _ _ _=>rfl⟩,Nat.le_refl _⟩,.inl rfl,fun _=>rfl⟩;simp[Builtin.append_,run_underlying ht,sizeOf,typeInfo,hi,Builtin.lenOf,Builtin.firstCells,loadCells,loadCellsFrom]
      ·have hr:=run_append_nil (P:=P) w t ty e i z ht hi hzz a ys.length c news hl h1 (by omega) (by omega) (by have:=hroom.1;subst hib;simp only[Nat.zero_add]at this;omega);have hgr:=grown 0 (Value.ownBlock (.slice none 0 0));simp only[Nat.zero_add,List.nil_append,Array.empty_append]at hgr ⊢;exact⟨_,_,hr,hgr.1,hgr.2,.inr ⟨_,rfl,Nat.le_refl _⟩,fun h=>by simp[h]at h0⟩
     ·by_cases hc:n+ys.length≤cap
      ·have hcc:(n+ys.length) * i.size≤cap * i.size:=Nat.mul_le_mul_right _ hc;have hfit:n * i.size+news.length≤cur.size:=by rw[hl,← Nat.add_mul];omega
       have hr:=run_append_room (P:=P) w t ty e i ht hi g n cap cur hg a ys.length c news hl h1 h2 hc hfit;refine⟨_,_,hr,⟨hlen,.inr ⟨g,cap,_,rfl,hbg,setRow_heap w g cur _ e _ hg,hc,hcm,?_,?_⟩⟩,⟨⟨rfl,rfl,rfl,by simp,fun k _ hk=>setRow_other w g k _ (fun e=>hk (by simp[Value.ownBlock,e]))⟩,Nat.le_refl _⟩,.inl rfl,fun h=>by simp[h]⟩
       ·simp only[List.size_toArray,List.length_append,List.length_take,List.length_drop,Array.length_toList];omega
       ·rw[htake,← hlen];exact List.take_left
      ·have holds:∀(j:Nat) u,vals[j]? =some u→w.cell? ((⟨g,0,none⟩:Addr).add j)=some u:=hown.cells (g:=g) rfl;have hr:=run_append_grow (P:=P) w t ty e i z ht hi hzz ⟨g,0,none⟩ n cap vals hown.1 holds a ys.length c news hl h1 (by omega) (by omega)
        (growslice_fits (by omega) (by rw[hib];exact hroom.1))
       have hgr:=grown cap (Value.ownBlock (.slice (some ⟨g,0,none⟩) n cap));exact⟨_,_,hr,hgr.1,hgr.2,.inr ⟨_,rfl,Nat.le_refl _⟩,fun h=>by simp[h]at hc;omega⟩
    obtain⟨v',w',hr,g1,g2,hfresh⟩:=fin;exact⟨v',w',news,hr,g1,g2,h3,h4,hfresh⟩
 |_=>subst hy';cases hy
theorem Rl{w:World}{base:Nat}{e:TypeId}{sz n:Nat}{v:Value}{vals:List Value}(h:C2 w base e sz v n vals)(b:Nat):AL v b=(v.ownBlock=some b):=by
 rcases h.2 with⟨rfl,_⟩|⟨g,cap,cur,rfl,_⟩<;>rfl
theorem Dq{w:World}{base:Nat}{e:TypeId}{sz n:Nat}{v:Value}{vals:List Value}(h:C2 w base e sz v n vals):∃a c,v= .slice a n c∧(n≤c∧c≤maxLen)∧(a=none→n=0∧c=0):=by
 rcases h.2 with⟨rfl,rfl⟩|⟨g,cap,cur,rfl,_,_,h1,h2,_⟩
 ·exact⟨none,0,rfl,⟨Nat.le_refl _,by simp[maxLen]⟩,fun _=>⟨rfl,rfl⟩⟩
 ·exact⟨_,cap,rfl,⟨h1,h2⟩,fun h=>by cases h⟩
theorem OV{X:DT}{hp:Aa}{ν:Nat→Value}{used:Nat→Prop}{w w':World}{key k:Nat}(hI:At X (lk hp) ν used w)(hkey:lk hp k=none→¬used key){e:TypeId}{sz:Nat}{xs xs':List D}{v':Value}{vals':List Value}
 (hk:k=key∧lk hp k=none∧ν k= .slice none 0 0∨lk hp k=some (.row e sz xs)) (hz:0<sz)
 (hown:C2 w' X.base e sz v' xs'.length vals') (hg:Gb w w' (ν k).ownBlock)
 (hfr:v'.ownBlock=(ν k).ownBlock∨∃g,v'.ownBlock=some g∧w.heap.size≤g) (hst:used k→xs.length=xs'.length→v'=ν k) (hlen:xs.length≤xs'.length) (hf:Fo sz xs')
 (hrow:D6 w (Am X.M0 (lk hp) ν) sz xs' vals') :
 C7 X hp ν used w key (put hp k (.row e sz xs')) (.own k xs'.length) v' w':=by
 have hbv:∀b,AL v' b=(v'.ownBlock=some b):=fun b=>Rl hown b;have hbν:∀b,AL (ν k) b=((ν k).ownBlock=some b):=fun b=>by
  rcases hk with⟨_,_,h⟩|h
  ·rw[h];rfl
  ·obtain⟨vals,ho,_⟩:=hI.obj _ _ h;exact Rl ho b
 have hMk:∀b,(ν k).ownBlock=some b→Am X.M0 (lk hp) ν b:=fun b hb=>by
  rcases hk with⟨_,_,h⟩|h
  ·rw[h]at hb;simp[Value.ownBlock]at hb
  ·exact .inr ⟨k,_,h,by rw[hbν];exact hb⟩
 have hOk:∀b,(ν k).ownBlock=some b→Tt (lk hp) ν b:=fun b hb=>by
  rcases hk with⟨_,_,h⟩|h
  ·rw[h]at hb;simp[Value.ownBlock]at hb
  ·exact⟨k,_,h,by rw[hbν];exact hb⟩
 have hOf:∀b,(ν k).ownBlock=some b→¬X.M0 b:=fun b hb=>by
  rcases hk with⟨_,_,h⟩|h
  ·rw[h]at hb;simp[Value.ownBlock]at hb
  ·exact hI.far _ _ _ h (by rw[hbν];exact hb)
 have hother:∀q o b,q≠k→lk hp q=some o→AL (ν q) b→(ν k).ownBlock≠some b:=fun q o b hne hq hb hh=>by
  rcases hk with⟨_,_,h⟩|h
  ·rw[h]at hh;simp[Value.ownBlock]at hh
  ·exact hne (hI.inj _ _ _ _ _ hq h hb (by rw[hbν];exact hh))
 have hused:used k∨k=key:=by
  rcases hk with⟨h,_⟩|h
  ·exact .inr h
  ·exact .inl (hI.usd _ _ h)
 have hx:CT (Am X.M0 (lk hp) ν) (lk hp) ν used w (Am X.M0 (lk (put hp k (.row e sz xs'))) (upd ν k v')) (lk (put hp k (.row e sz xs'))) (upd ν k v') (fun q=>used q∨q=key) w':=by
  refine⟨⟨hg.lo.size,fun b hb hM=>hg.lo.block b hb (fun h=>hM (hMk b h.symm))⟩,fun b hb hM=>?_,fun q hq=>.inl hq,fun q hq o' ho'=>?_,⟨hg.lo.size,fun b hb hM=>hg.lo.block b hb (fun h=>hM (hOk b h.symm))⟩,fun b hb hM=>?_⟩
  ·rcases hM with h|⟨q,o',hq,hbq⟩
   ·exact .inl h
   ·by_cases h:q=k
    ·subst h;rw[Ac,hbv]at hbq;rcases hfr with h|⟨g,h,hle⟩
     ·exact hMk b (h▸hbq)
     ·rw[hbq]at h;cases h;omega
    ·rw[A9 _ _ _ _ h]at hq;rw[Al _ _ _ _ h]at hbq;exact .inr ⟨q,o',hq,hbq⟩
  ·by_cases h:q=k
   ·subst h;rw[Ab]at ho';cases ho';rcases hk with⟨h,hn,_⟩|h
    ·have hkey:=hkey hn;subst h;exact absurd hq hkey
    ·exact⟨_,h,⟨rfl,rfl,hlen⟩,by rw[Ac];exact fun hs=>hst hq hs⟩
   ·rw[A9 _ _ _ _ h]at ho';exact⟨o',ho',HO.later.refl _,HO.keeps_eq (Al _ _ _ _ h)⟩
  ·obtain⟨q,o',hq,hbq⟩:=hM;by_cases h:q=k
   ·subst h;rw[Ac,hbv]at hbq;rcases hfr with h|⟨g,h,hle⟩
    ·exact hOk b (h▸hbq)
    ·rw[hbq]at h;cases h;omega
   ·rw[A9 _ _ _ _ h]at hq;rw[Al _ _ _ _ h]at hbq;exact⟨q,o',hq,hbq⟩
 have hbel:Bl X.base w w':=Bl.grown hg hI.below.size (fun b hb=>by
  rcases hk with⟨_,_,h⟩|h
  ·rw[h]at hb;simp[Value.ownBlock]at hb
  ·exact(hI.blk _ _ _ h (by rw[hbν];exact hb)).1)
 have hlt:∀b,v'.ownBlock=some b→X.base≤b∧b<w'.heap.size:=fun b hb=>hown.lt b hb;refine⟨upd ν k v',hI.step hbel hx hused (fun b hb=>?_) (fun q o' b hne hq hb=>?_) ?_,hx,?_⟩
 ·rw[hbv]at hb;refine⟨(hlt b hb).1,(hlt b hb).2,fun q o' hne hq hbq=>?_,?_⟩
  ·rcases hfr with h|⟨g,h,hle⟩
   ·exact hother q o' b hne hq hbq (h▸hb)
   ·rw[hb]at h;cases h;have:=(hI.blk _ _ _ hq hbq).2;omega
  ·rcases hfr with h|⟨g,h,hle⟩
   ·exact hOf b (h▸hb)
   ·rw[hb]at h;cases h;exact fun hh=>by have:=hI.M0 _ hh;omega
 ·exact hg.lo.block b (hI.blk _ _ _ hq hb).2 (fun h=>hother q o' b hne hq hb h.symm)
 ·exact⟨vals',hown,hz,hf,hrow.mono hx.same hx.shrink⟩
 ·obtain⟨a,c,h1,h2,h3⟩:=Dq hown;refine .own hused h1 h2 h3 fun o ho=>?_;rw[Ab]at ho;cases ho;exact⟨e,sz,xs',rfl,Nat.le_refl _,fun _=>(Ac _ _ _).symm⟩
theorem G6{X:DT}{hp:Aa}{ν:Nat→Value}{used:Nat→Prop}{w w':World}{key k:Nat}(hI:At X (lk hp) ν used w)(hkey:¬used key){e:TypeId}{sz:Nat}{xs xs':List D}{v':Value}{vals':List Value}
 (hk:k=key∧lk hp k=none∧ν k= .slice none 0 0∨lk hp k=some (.row e sz xs)) (hz:0<sz)
 (hown:C2 w' X.base e sz v' xs'.length vals') (hg:Gb w w' (ν k).ownBlock)
 (hfr:v'.ownBlock=(ν k).ownBlock∨∃g,v'.ownBlock=some g∧w.heap.size≤g) (hst:used k→xs.length=xs'.length→v'=ν k) (hlen:xs.length≤xs'.length) (hf:Fo sz xs')
 (hrow:D6 w (Am X.M0 (lk hp) ν) sz xs' vals') :
 C7 X hp ν used w key (put hp k (.row e sz xs')) (.own k xs'.length) v' w':=OV hI (fun _=>hkey) hk hz hown hg hfr hst hlen hf hrow
theorem C7.after{X:DT}{hp hp1 hp':Aa}{ν:Nat→Value}{used:Nat→Prop}{w w':World}{key:Nat}{av:AV}{v:Value}(hx:CT (Am X.M0 (lk hp) ν) (lk hp) ν used w (Am X.M0 (lk hp1) ν) (lk hp1) ν used w)
 (h:C7 X hp1 ν used w key hp' av v w'):C7 X hp ν used w key hp' av v w' :=
 let ⟨ν',h1,h2,h3⟩:=h
 ⟨ν',h1,hx.trans h2,h3⟩
theorem At.reν{X:DT}{hp:Aa}{ν:Nat→Value}{used:Nat→Prop}{w:World}{key:Nat}(hI:At X (lk hp) ν used w)(hk:¬used key)(v:Value) :
 At X (lk hp) (upd ν key v) used w∧CT (Am X.M0 (lk hp) ν) (lk hp) ν used w (Am X.M0 (lk hp) (upd ν key v)) (lk hp) (upd ν key v) used w:=by
 have hne:∀q o,lk hp q=some o→q≠key:=fun q o h e=>hk (e▸hI.usd _ _ h);have hM:∀b,Am X.M0 (lk hp) (upd ν key v) b→Am X.M0 (lk hp) ν b:=fun b h=>by
  rcases h with h|⟨q,o,hq,hb⟩
  ·exact .inl h
  ·rw[Al _ _ _ _ (hne _ _ hq)]at hb;exact .inr ⟨q,o,hq,hb⟩
 have hx:CT (Am X.M0 (lk hp) ν) (lk hp) ν used w (Am X.M0 (lk hp) (upd ν key v)) (lk hp) (upd ν key v) used w :=
  ⟨Bi.refl _ _,fun b _ h=>hM b h,fun _ h=>h,fun q _ o ho=>⟨o,ho,HO.later.refl _,HO.keeps_eq (Al _ _ _ _ (hne _ _ ho))⟩,Bi.refl _ _,fun b _ ⟨q,o,hq,hb⟩=>by
   rw[Al _ _ _ _ (hne _ _ hq)]at hb;exact⟨q,o,hq,hb⟩⟩
 refine⟨⟨hI.below,hI.M0,fun q o b hq hb=>by rw[Al _ _ _ _ (hne _ _ hq)]at hb;exact hI.far _ _ _ hq hb,hI.usd,fun q o b hq hb=>?_,fun q q' o o' b h h' hb hb'=>?_,fun q o hq=>?_⟩,hx⟩
 ·rw[Al _ _ _ _ (hne _ _ hq)]at hb;exact hI.blk _ _ _ hq hb
 ·rw[Al _ _ _ _ (hne _ _ h)]at hb;rw[Al _ _ _ _ (hne _ _ h')]at hb';exact hI.inj _ _ _ _ _ h h' hb hb'
 ·rw[Al _ _ _ _ (hne _ _ hq)];exact(hI.obj _ _ hq).ext hx (fun _ _=>rfl)
theorem Mf{X:DT}{hp:Aa}{ν:Nat→Value}{used:Nat→Prop}{w:World}{key:Nat}(hI:At X (lk hp) ν used w)(hk:¬used key):lk hp key=none:=by
 cases h:lk hp key with
 |none=>rfl
 |some o=>exact absurd (hI.usd _ _ h) hk
theorem MM{P:Program}{X:DT}{hp:Aa}{ν:Nat→Value}{used:Nat→Prop}{w:World}{key:Nat}(hI:At X (lk hp) ν used w)(hk:¬used key){t ty:TypeId}{x y r:AV}{vx vy:Value}{es:List (Nat×Option HO)}{acc:List Nat}
 (hx:A5 w (Am X.M0 (lk hp) ν) (lk hp) ν used x vx) (hy:A5 w (Am X.M0 (lk hp) ν) (lk hp) ν used y vy) (he:E8 P key (lk hp) t x y=some (r,es,acc)) :
 ∃v w',(Builtin.append_ #[t,t] ty #[vx,vy]).run P w= .ok v w'∧C7 X hp ν used w key (BO hp es) r v w':=by
 unfold E8 at he;split at he
 ·cases he
 ·rename_i e hel;split at he
  ·rename_i sz b hsz hb;split at he
   ·rename_i hc;obtain⟨hz,hzo⟩:=hc;split at he
    ·rename_i d ks hd;split at he
     ·rename_i ys hys;obtain⟨hI1,x1⟩:=hI.drops ks;have hdr:=IC (DJ hI hy hd) hys;split at he
      ·rename_i k n;split at he
       ·rename_i e' sz' xs ho;split at he
        ·rename_i hc;obtain⟨rfl,rfl,rfl,hnk⟩:=hc;split at he
         ·rename_i hroom;simp at he;obtain⟨rfl,rfl,rfl⟩:=he;have ho1:lk (Bq hp ks) k=some (.row e' sz' xs):=by rw[D1 _ _ _ hnk];exact ho
          cases hx with
          |own hu hv hcc ha h =>
           obtain⟨_,_,_,he,_,hvν⟩:=h _ ho;cases he;have hvν:=hvν rfl;obtain⟨vals,hown,_,hf,hrow⟩:=hI1.obj _ _ ho1;rw[hvν];obtain⟨v',w',news,hr,g1,g2,g3,g4,g5,g6⟩:=DF (P:=P) hel hsz hb hz hzo ty hown hdr hroom hI.below.size;refine⟨v',w',hr,?_⟩;rw[EO];have:=G6 (key:=key) (k:=k) (xs':=xs++ys) hI1 hk (.inr ho1) hz (by rw[List.length_append];exact g1) g2 g5 (fun _ hl=>g6 (by simp at hl;exact hl)) (by simp) (hf.append g3) (hrow.append hown.1 hf g4);simp only[List.length_append]at this;exact this.after x1
         ·cases he
        ·cases he
       ·cases he
      ·split at he
       ·split at he
        ·rename_i hroom;simp at he;obtain⟨rfl,rfl,rfl⟩:=he;cases hx with
         |d hx =>
          cases hx;obtain⟨hI2,x2⟩:=hI1.reν hk (.slice none 0 0);have hdr2:An w (Am X.M0 (lk (Bq hp ks)) (upd ν key (.slice none 0 0))) (.sl sz ys) vy:=hdr.mono x2.same x2.shrink;obtain⟨v',w',news,hr,g1,g2,g3,g4,g5,g6⟩:=DF (P:=P) hel hsz hb hz hzo ty (C2.nil) hdr2 (by simpa using hroom) hI.below.size;refine⟨v',w',hr,?_⟩;rw[EO];simp only[Nat.zero_add,List.nil_append]at g1;have:=G6 (key:=key) (k:=key) (xs:=[]) (xs':=ys) hI2 hk (.inl ⟨rfl,Mf hI1 hk,Ac _ _ _⟩) hz g1 (by rw[Ac];exact g2) (by rw[Ac];exact g5) (fun _ hl=>by rw[Ac];exact g6 (List.eq_nil_of_length_eq_zero hl.symm)) (by simp) g3 g4;obtain⟨ν',p1,p2,p3⟩:=this;exact⟨ν',p1,x1.trans (x2.trans p2),p3⟩
        ·cases he
       ·cases he
      ·cases he
     ·cases he
    ·cases he
   ·cases he
  ·cases he
end
end Go.Eng
namespace Go.Eng
open Go.RowKit
def Ed{α:Type}:Nat→List (Nat×α)→Bool
 |_,[]=>true
 |s,(i,_)::l=>i==s&&Ed (s+1) l
def Fh(sz:Nat):List D→Bool
 | []=>true
 |d::ds=>(AV.d d).sto&&d.comps.length==sz&&Fh sz ds
def BY(P:Program)(key:Nat)(H:Nat→Option HO)(t:TypeId)(len:Nat)(ps:List (Nat×AV)):Option (AV×List (Nat×Option HO)×List Nat) :=
 match C3 P t with
 |some e=>match BV P e with
  |some sz=>if 0<sz∧len * sz≤16777216∧ps.length=len∧Ed 0 ps=true∧(Av P e).isSome=true then
    match FN H (ps.map Prod.snd)with
    |some (ds,ks)=>if Fh sz ds=true then some (.own key ds.length,ks.map (fun q=>(q,none))++[(key,some (.row e sz ds))],ks)else none
    |none=>none
   else none
  |none=>none
 |none=>none
section
variable {P:Program} {X:DT} {hp:Aa} {ν:Nat→Value} {used:Nat→Prop} {w:World} {key:Nat}
theorem Lm{sz:Nat}:∀{ds:List D},Fh sz ds=true→∀d∈ds,(AV.d d).sto=true∧d.comps.length=sz
 | [],_,d,h=>by cases h
 |x::ds,h,d,hd=>by
  simp only[Fh,Bool.and_eq_true,beq_iff_eq]at h;cases hd with
  |head=>exact h.1
  |tail _ hd=>exact Lm h.2 d hd
theorem R6{M:Nat→Prop}{sz:Nat}:∀(ds:List D) (vs:List (Nat×Value)) (s:Nat) (cells:Array Value) (len:Nat),ds.length=vs.length→Ed s vs=true→s+ds.length=len→cells.size=len * sz →
 (∀(j:Nat) d q,ds[j]? =some d→vs[j]? =some q→An w M d q.2)→Fh sz ds=true →
 ∃out,Instr.fill (fun i=>some (i * sz,sz)) cells vs=some out∧out.size=len * sz∧(∀q,q<s * sz→out.toList[q]? =cells.toList[q]?) ∧
  ∀(i:Nat) x (j:Nat) d,ds[i]? =some x→x.comps[j]? =some d→∃u,out.toList[(s+i) * sz+j]? =some u∧An w M d u
 | [],vs,s,cells,len,hl,ho,hs,hc,h,hf=>by
   cases vs with
   |cons _ _=>simp at hl
   |nil=>exact⟨cells,rfl,hc,fun _ _=>rfl,fun i x j d hx=>by simp at hx⟩
 |x::ds,vs,s,cells,len,hl,ho,hs,hc,h,hf=>by
  cases vs with
  |nil=>simp at hl
  |cons q vs =>
   obtain⟨i,v⟩:=q;simp only[Ed,Bool.and_eq_true,beq_iff_eq]at ho;obtain⟨rfl,ho⟩:=ho;simp only[Fh,Bool.and_eq_true,beq_iff_eq]at hf;have hv:=h 0 x _ rfl rfl;obtain⟨c1,c2,c3⟩:=CH hv hf.1.1;replace c1:v.cells.toList.length=x.comps.length:=c1;replace c3:∀(i:Nat) d u,x.comps[i]? =some d→v.cells.toList[i]? =some u→An w M d u:=c3;simp only[List.length_cons]at hs hl;have hle:i * sz+sz≤len * sz:=by
    have:(i+1) * sz≤len * sz:=Nat.mul_le_mul_right _ (by omega);rw[Nat.add_mul]at this;omega
   have hvs:v.cells.size=sz:=by have:v.cells.toList.length=sz:=by omega
                                simpa using this
   have hfold:(v.cells.zipIdx.foldl (fun cs (c,j)=>cs.setIfInBounds (i * sz+j) c) cells).toList=Aj cells.toList (i * sz) v.cells.toList:=by
    rw[← Ia v.cells.toList cells (i * sz) (by simp;omega),← Array.foldl_toList];simp[Array.toList_zipIdx]
   have hsize:(v.cells.zipIdx.foldl (fun cs (c,j)=>cs.setIfInBounds (i * sz+j) c) cells).size=len * sz:=by
    have:=congrArg List.length hfold;rw[AX _ _ _ (by simp;omega)]at this;simpa[hc]using this
   obtain⟨out,g1,g2,g3,g4⟩:=R6 ds vs (i+1) _ len (by omega) ho (by omega) hsize (fun j d q hd hq=>h (j+1) d q (by simpa using hd) (by simpa using hq)) hf.2;refine⟨out,?_,g2,fun q hq=>?_,fun i' y j d hy hd=>?_⟩
   ·simp only[Instr.fill];rw[if_neg (by simp[hvs];omega)];exact g1
   ·rw[g3 q (by rw[Nat.add_mul];omega),hfold,AW _ _ _ (by simp;omega),if_neg (by omega)]
   ·cases i' with
    |zero =>
     simp at hy;subst hy;have hj:=(List.getElem?_eq_some_iff.1 hd).1;have hu:=List.getElem?_eq_getElem (l:=v.cells.toList) (i:=j) (by omega);refine⟨_,?_,c3 j d _ hd hu⟩;rw[Nat.add_zero,g3 _ (by rw[Nat.add_mul];omega),hfold,AW _ _ _ (by simp;omega),if_pos (by rw[c1];omega),← hu];congr 1;omega
    |succ i' =>
     obtain⟨u,hu,hr⟩:=g4 i' y j d (by simpa using hy) hd;exact⟨u,by rw[show i+(i'+1)=i+1+i' from by omega];exact hu,hr⟩
theorem FY(hI:At X (lk hp) ν used w)(hk:¬used key){t len:Nat}{ps:List (Nat×AV)}{vs:List (Nat×Value)}{r:AV}{es:List (Nat×Option HO)}{acc:List Nat}(hl:ps.length=vs.length)
 (h:∀(j:Nat) p q,ps[j]? =some p→vs[j]? =some q→p.1=q.1∧A5 w (Am X.M0 (lk hp) ν) (lk hp) ν used p.2 q.2) (he:BY P key (lk hp) t len ps=some (r,es,acc)) :
 ∃v w',(Instr.buildSlice t len vs.toArray).run P w= .ok v w'∧C7 X hp ν used w key (BO hp es) r v w':=by
 unfold BY at he;split at he
 ·rename_i e hel;split at he
  ·rename_i sz hsz;split at he
   ·rename_i hc;obtain⟨hz,hlim,hlen,hord,hzd⟩:=hc;split at he
    ·rename_i ds ks hds;split at he
     ·rename_i hf;simp at he;obtain⟨rfl,rfl,rfl⟩:=he;obtain⟨zd,hzd⟩:=Option.isSome_iff_exists.1 hzd;obtain⟨z,hzr,_,_⟩:=EC hzd;obtain⟨hI1,x1⟩:=hI.drops ks;have hvl:(ps.map Prod.snd).length=(vs.map Prod.snd).length:=by simp[hl]
      have hrep:=G8 hI Am.dels_sub (ps.map Prod.snd) (vs.map Prod.snd) ds ks hvl (fun i d v hd hv=>by
       simp at hd hv;obtain⟨a,hd⟩:=hd;obtain⟨b,hv⟩:=hv;exact(h i _ _ hd hv).2) hds (hI.notMut (Fd _ _ _ hds))
      obtain⟨r1,r2⟩:=hrep;have hord':Ed 0 vs=true:=by
       have aux:∀(s:Nat) (ps:List (Nat×AV)) (vs:List (Nat×Value)),ps.length=vs.length→(∀(j:Nat) p q,ps[j]? =some p→vs[j]? =some q→p.1=q.1)→Ed s ps=true→Ed s vs=true:=by
        intro s ps;induction ps generalizing s with
        |nil=>intro vs hl _ _;cases vs with
         |nil=>rfl
         |cons _ _=>simp at hl
        |cons p ps ih=>intro vs hl hh ho;cases vs with
         |nil=>simp at hl
         |cons q vs =>
          simp only[Ed,Bool.and_eq_true,beq_iff_eq]at ho ⊢;exact⟨by rw[← hh 0 p q rfl rfl];exact ho.1,ih _ vs (by simpa using hl) (fun j p q hp hq=>hh (j+1) p q (by simpa using hp) (by simpa using hq)) ho.2⟩
       exact aux 0 ps vs hl (fun j p q hp hq=>(h j p q hp hq).1) hord
      have hdl:ds.length=vs.length:=by simpa using r1
      let cells0:Array Value:=(Array.range (len * sz)).map (fun q=>z.cells[q%z.cells.size]!)
      obtain⟨out,g1,g2,_,g4⟩:=R6 (w:=w) (M:=Am X.M0 (lk (Bq hp ks)) ν) (sz:=sz) ds vs 0 ((Array.range (len * sz)).map ((if len * sz=0 then(#[]:Array Value)else z.cells)[· % (if len * sz=0 then(#[]:Array Value)else z.cells).size]!)) len hdl hord' (by omega) (by simp)
       (fun j d q hd hq=>r2 j d q.2 hd (by simp[hq])) hf
      have hrun:(Instr.buildSlice t len vs.toArray).run P w= .ok (.slice (some ⟨w.heap.size,0,none⟩) len len) (w.alloc (.cells out e)):=by
       by_cases h0:len * sz=0
       ·have hl0:len=0:=by rcases Nat.mul_eq_zero.1 h0 with h|h<;>omega
        have hv0:vs=[]:=List.eq_nil_of_length_eq_zero (by omega);subst hv0;subst hl0;simp[Instr.fill]at g1;subst g1;simp[Instr.buildSlice,run_underlying (Bn hel),AF hsz,Instr.fill,newRow]
       ·simp only[h0,if_false]at g1;simp only[Instr.buildSlice,run_underlying (Bn hel),Sem.run_bind,Result.andThen_ok,AF hsz,if_neg (show¬len * sz>2 ^ 24 by omega),h0,if_false,Sem.run_pure,hzr,g1];simp[newRow]
      refine⟨_,_,hrun,?_⟩;rw[EO];obtain⟨hI2,x2⟩:=hI1.reν hk (.slice none 0 0);have hown:C2 (w.alloc (.cells out e)) X.base e sz (.slice (some ⟨w.heap.size,0,none⟩) len len) ds.length out.toList:=by
       have:ds.length=len:=by omega
       rw[this];refine⟨by simpa using g2,.inr ⟨w.heap.size,len,out,rfl,hI.below.size,heap_alloc_new w _,Nat.le_refl _,by simp only[maxLen];have:=Nat.le_mul_of_pos_right len hz;omega,Nat.le_of_eq g2.symm,?_⟩⟩;rw[List.take_of_length_le (by simp[g2])]
      have hp:=G6 (key:=key) (k:=key) (e:=e) (sz:=sz) (xs:=[]) (xs':=ds) hI2 hk (.inl ⟨rfl,Mf hI1 hk,Ac _ _ _⟩) hz hown (by rw[Ac];exact⟨World.grownBy_alloc w _ _,Nat.le_refl _⟩) (.inr ⟨_,rfl,Nat.le_refl _⟩)
       (fun hu=>absurd hu hk) (by simp) (fun x hx=>?_) (fun i x j d hx hd=>?_)
      ·obtain⟨ν',p1,p2,p3⟩:=hp;exact⟨ν',p1,x1.trans (x2.trans p2),p3⟩
      ·obtain⟨f1,f2⟩:=Lm hf x hx;obtain⟨i,hi⟩:=List.mem_iff_getElem?.1 hx;have hil:=(List.getElem?_eq_some_iff.1 hi).1;have hq:=List.getElem?_eq_getElem (l:=vs.map Prod.snd) (i:=i) (by simp;omega);exact⟨f2,(CH (r2 i x _ hi hq) f1).2.1⟩
      ·obtain⟨u,hu,hr⟩:=g4 i x j d hx hd;exact⟨u,by simpa using hu,hr.mono x2.same x2.shrink⟩
     ·cases he
    ·cases he
   ·cases he
  ·cases he
 ·cases he
end
end Go.Eng
namespace Go.Eng
open Go.RowKit
def Jt(P:Program)(key:Nat)(t:TypeId)(l c:AV):Option (AV×List (Nat×Option HO)×List Nat) :=
 match l,c with
 |.d (.int _ l),.d (.int _ c) =>
  match C3 P t with
  |some e=>match BV P e,E5 P e,Av P e with
   |some sz,some b,some z=>if 0<sz∧(AV.d z).sto=true∧z.comps.length=sz∧0≤l∧l≤c∧(b:Int) * c≤281474976710656∧c≤9223372036854775807 then
     if 500000≤key∧sz=1∧l=c∧z.flat=true then some (.vs key 0 l.toNat,[(key,some (.var (List.replicate l.toNat (.d z))))],[])
     else some (.own key l.toNat,[(key,some (.row e sz (List.replicate l.toNat z)))],[])
    else none
   |_,_,_=>none
  |none=>none
 |_,_=>none
section
variable {P:Program} {X:DT} {hp:Aa} {ν:Nat→Value} {used:Nat→Prop} {w:World} {key:Nat}
theorem PK(hI:At X (lk hp) ν used w)(hk:¬used key){t:Nat}{l c r:AV}{vl vc:Value}{es:List (Nat×Option HO)}{acc:List Nat}
 (hl:A5 w (Am X.M0 (lk hp) ν) (lk hp) ν used l vl) (hc:A5 w (Am X.M0 (lk hp) ν) (lk hp) ν used c vc) (he:Jt P key t l c=some (r,es,acc)) :
 ∃v w',(Instr.makeSlice t vl vc).run P w= .ok v w'∧C7 X hp ν used w key (BO hp es) r v w':=by
 unfold Jt at he;split at he
 ·rename_i kl l kc c;cases hl with
  |d hl=>cases hl;cases hc with
   |d hc =>
    cases hc;split at he
    ·rename_i e hel;split at he
     ·rename_i sz b z hsz hb hz;split at he
      ·rename_i hcond;obtain⟨h0,hs,hcl,hl0,hlc,hbb,h63⟩:=hcond;obtain⟨i,hi,hisz⟩:=H2 hsz;have hib:i.bytes=b:=by simp[E5,hi]at hb;exact hb
       obtain⟨zv,hzr,⟨i',hi',hzz⟩,hrep⟩:=EC hz;rw[hi]at hi';cases hi';subst hisz;subst hib;have hr:=run_make (P:=P) w t e i zv (Bn hel) hi hzz kl kc l c hl0 hlc hbb h63;split at he
       ·rename_i hvar;obtain⟨-,h1,rfl,hfl⟩:=hvar;simp only[Option.some.injEq,Prod.mk.injEq]at he;obtain⟨rfl,rfl,rfl⟩:=he;refine⟨_,_,hr,?_⟩;obtain⟨c1,c2,c3⟩:=CH (hrep w (Am X.M0 (lk hp) ν)) hs;have hzs:zv.cells.size=1:=by have:zv.cells.toList.length=1:=by omega
                                                                                                                                                                                                                             simpa using this
        have hzc:z.cell=true:=by cases z<;>first|rfl|(simp[D.flat]at hfl)
        have hz0:z.comps=[z]:=by cases z<;>first|rfl|(simp[D.cell]at hzc)
        obtain⟨g1,g2⟩:=hI.alloc hk (.cells (madeCells zv.cells (l.toNat * i.size)) e) (.var (List.replicate l.toNat (.d z))) (.pointer (some ⟨w.heap.size,0,none⟩)) (fun b hb=>(Option.some.inj hb).symm) (fun M' H' ν' used' hx=>by
         refine⟨_,_,e,rfl,heap_alloc_new w _,by rw[size_madeCells,h1];simp,fun a ha=>?_,fun q av u ha hu=>?_⟩
         ·rw[List.eq_of_mem_replicate ha];exact hzc
         ·have hav:av= .d z:=List.eq_of_mem_replicate (List.mem_of_getElem? ha);subst hav;have hq:=(List.getElem?_eq_some_iff.1 ha).1;simp only[List.length_replicate]at hq;rw[h1]at hu;have hu2:=List.getElem?_eq_getElem (l:=zv.cells.toList) (i:=0) (by simp[hzs]);have hru:=c3 0 z _ (by rw[hz0];rfl) hu2;have:u=zv.cells.toList[0]'(by simp[hzs]):=by
           simp only[madeCells,Array.getElem?_map,Array.getElem?_range,Nat.mul_one]at hu;rw[if_pos hq]at hu;simp only[Option.map_some,Option.some.injEq]at hu;rw[← hu,hzs,Nat.mod_one];rw[getElem!_pos zv.cells 0 (by omega)];simp
          rw[this];exact .d (hru.flat hfl))
        refine⟨_,g1,g2,.vs (.inr rfl) ⟨Nat.le_refl _,by simp only[maxLen];omega⟩ fun o ho=>?_⟩;have ho:lk (put hp key (.var (List.replicate l.toNat (AV.d z)))) key=some o:=ho;rw[Ab]at ho;cases ho;exact⟨_,_,rfl,Ac _ _ _,rfl,by simp⟩
       simp at he;obtain⟨rfl,rfl,rfl⟩:=he;refine⟨_,_,hr,?_⟩;obtain⟨hI2,x2⟩:=hI.reν hk (.slice none 0 0);have hcap:l.toNat≤c.toNat:=by omega
       obtain⟨c1,c2,c3⟩:=CH (hrep w (Am X.M0 (lk hp) (upd ν key (.slice none 0 0)))) hs;have hzs:zv.cells.size=i.size:=by have:zv.cells.toList.length=i.size:=by omega
                                                                                                                          simpa using this
       have hown:C2 (w.alloc (.cells (madeCells zv.cells (c.toNat * i.size)) e)) X.base e i.size (.slice (some ⟨w.heap.size,0,none⟩) l.toNat c.toNat) (List.replicate l.toNat z).length ((madeCells zv.cells (c.toNat * i.size)).toList.take (l.toNat * i.size)):=by
        rw[List.length_replicate];refine⟨?_,.inr ⟨w.heap.size,c.toNat,_,rfl,hI.below.size,heap_alloc_new w _,hcap,by simp only[maxLen];omega,Nat.le_of_eq (size_madeCells _ _).symm,rfl⟩⟩;rw[List.length_take,Array.length_toList,size_madeCells];exact Nat.min_eq_left (Nat.mul_le_mul_right _ hcap)
       have hp:=G6 (key:=key) (k:=key) (e:=e) (sz:=i.size) (xs:=[]) (xs':=List.replicate l.toNat z) hI2 hk (.inl ⟨rfl,Mf hI hk,Ac _ _ _⟩) h0 hown (by rw[Ac];exact⟨World.grownBy_alloc w _ _,Nat.le_refl _⟩) (.inr ⟨_,rfl,Nat.le_refl _⟩)
        (fun hu=>absurd hu hk) (by simp) (fun x hx=>?_) (fun q x j d hx hd=>?_)
       ·obtain⟨ν',p1,p2,p3⟩:=hp;rw[List.length_replicate]at p3;exact⟨ν',p1,x2.trans p2,p3⟩
       ·rw[List.eq_of_mem_replicate hx];exact⟨hcl,c2⟩
       ·have hq:=(List.getElem?_eq_some_iff.1 hx).1;simp at hq;have hxz:x=z:=by
         have:=List.mem_of_getElem? hx;exact List.eq_of_mem_replicate this
        subst hxz;have hj:=(List.getElem?_eq_some_iff.1 hd).1;have hu:=List.getElem?_eq_getElem (l:=zv.cells.toList) (i:=j) (by omega);refine⟨_,?_,c3 j d _ hd hu⟩;have h1:(q+1) * i.size≤l.toNat * i.size:=Nat.mul_le_mul_right _ (by omega);have h2:l.toNat * i.size≤c.toNat * i.size:=Nat.mul_le_mul_right _ hcap;rw[Nat.add_mul]at h1;have hlt:q * i.size+j<c.toNat * i.size:=by omega
        rw[List.getElem?_take,if_pos (by omega)];simp only[madeCells,Array.toList_map,Array.toList_range,List.getElem?_map,List.getElem?_range hlt,Option.map_some];rw[hzs,Nat.mul_comm,Nat.mul_add_mod,Nat.mod_eq_of_lt (by omega)];rw[getElem!_pos zv.cells j (by omega)];simp
      ·cases he
     ·cases he
    ·cases he
 ·cases he
def ofInt:Option AV→Nat→Option Nat
 |none,n=>some n
 |some av,_=>match av with| .d (.int _ i)=>if 0≤i then some i.toNat else none|_=>none
def EP(P:Program)(H:Nat→Option HO)(t:TypeId)(x:AV)(lo hi mx:Option AV):Option (AV×List (Nat×Option HO)×List Nat) :=
 match C3 P t with
 |some e=>match BV P e with
  |some sz=>match Cz H x with
   |some (d,ks)=>match HM sz d with
    |some xs=>match ofInt lo 0,ofInt hi xs.length with
     |some l,some h=>if l≤h∧h≤xs.length then
       match mx with
       |none=>some (.d (.sl sz ((xs.take h).drop l)),ks.map (fun q=>(q,none)),ks)
       |some m=>match ofInt (some m) 0 with
        |some m=>if m=h∧hi.isSome=true then some (.clip sz ((xs.take h).drop l),ks.map (fun q=>(q,none)),ks)else none
        |none=>none
      else none
     |_,_=>none
    |none=>none
   |none=>none
  |none=>none
 |none=>none
theorem IB(ks:List Nat)(hp:Aa):BO hp (ks.map (fun q=>(q,none)))=Bq hp ks:=by
 have:=EO ks [] hp;simpa[BO]using this
theorem TP{M:Nat→Prop}{sz n c l h m:Nat}{xs:List D}{a:Option Addr}(hr:An w M (.sl sz xs) (.slice a n c))(h1:l≤h)(h2:h≤xs.length)(h3:h≤m)(h4:m≤c) :
 An w M (.sl sz ((xs.take h).drop l)) (.slice (if m=l then a else a.map (·.add (l * sz))) (h-l) (m-l)):=by
 cases hr with
 |sl0 =>
  simp at h2;subst h2;have:l=0:=by omega
  subst this;have:m=0:=by omega
  subst this;simpa using An.sl0
 |sl val hb hM hc hm hs g1 g2 =>
  rename_i a;have hlen:((xs.take h).drop l).length=h-l:=by simp;omega
  have hget:∀(i:Nat) x,((xs.take h).drop l)[i]? =some x→xs[l+i]? =some x:=fun i x hx=>by
   rw[List.getElem?_drop,List.getElem?_take]at hx;split at hx
   ·exact hx
   ·cases hx
  by_cases hml:m=l
  ·rw[if_pos hml];have h0:(xs.take h).drop l=[]:=List.eq_nil_of_length_eq_zero (by omega);rw[h0];have:=An.sl (w:=w) (M:=M) (sz:=sz) (c:=m-l) (xs:=[]) (a:=a) (fun _ _=>undef) (fun h=>absurd rfl h) (fun h=>absurd rfl h) (by simp) (by omega) (fun i x hx=>by simp at hx) (fun i x j d hx=>by simp at hx) (fun i x j d hx=>by simp at hx);rw[show h-l=0 from by omega];exact this
  ·rw[if_neg hml];have:=An.sl (w:=w) (M:=M) (sz:=sz) (c:=m-l) (xs:=(xs.take h).drop l) (a:=a.add (l * sz)) (fun i j=>val (l+i) j) (fun hn=>by rw[CB];exact hb (fun e=>hn (by simp[e]))) (fun hn=>by rw[CB];exact hM (fun e=>hn (by simp[e]))) (by omega) (by omega)
    (fun i x hx=>hs _ x (hget i x hx)) (fun i x j d hx hd=>by
      have:=g1 _ x j d (hget i x hx) hd;rw[JM]
      rwa [show l * sz+(i * sz+j)=(l+i) * sz+j from by rw[Nat.add_mul];omega]) (fun i x j d hx hd=>g2 _ x j d (hget i x hx) hd)
   rw[hlen]at this;exact this
theorem Dr{i:Int}{k:IntKind}{y:Nat}{code:BoundsCode}(h0:0≤i)(h1:i≤y):(Instr.sliceBound (.int k i) y code).run P w= .ok i.toNat w:=by
 simp[Instr.sliceBound,asIntOf,h0,h1]
theorem F4{t e:Nat}(h:C3 P t=some e)(v:Value)(a b c:Option Value):(Instr.sliceAt t v a b c).run P w=(Instr.slice t v a b c).run P w:=by
 simp[Instr.sliceAt,run_underlying (Bn h)]
def FZ(P:Program)(key:Nat)(H:Nat→Option HO)(t:TypeId)(x:AV)(lo hi mx:Option AV):Option (AV×List (Nat×Option HO)×List Nat) :=
 match lo,x with
 |none,.own k n=>match H k,C3 P t with
  |some (.row e sz xs),some e'=>match BV P e',ofInt hi xs.length with
   |some sz',some h=>if n=xs.length∧e'=e∧sz'=sz∧h≤xs.length then
     match mx with
     |none=>some (.own key h,[(k,none),(key,some (.row e sz (xs.take h)))],[k])
     |some m=>match ofInt (some m) 0 with
      |some m=>if m=h∧hi.isSome=true then some (.own key h,[(k,none),(key,some (.row e sz (xs.take h)))],[k])else none
      |none=>none
    else none
   |_,_=>none
  |_,_=>none
 |_,_=>none
theorem At.cut(hI:At X (lk hp) ν used w)(hk:¬used key){k:Nat}{e:TypeId}{sz:Nat}{xs:List D}(ho:lk hp k=some (.row e sz xs)){h c:Nat}(hh:h≤xs.length){a:Option Addr}{n c0:Nat}(hν:ν k= .slice a n c0)(hhc:h≤c)(hc:c≤c0)(h0:a=none→c=0) :
 C7 X hp ν used w key (put (DM hp k) key (.row e sz (xs.take h))) (.own key h) (.slice a h c) w:=by
 obtain⟨vals,hown,hz,hf,hrow⟩:=hI.obj _ _ ho;have hne:k≠key:=fun e=>hk (e▸hI.usd _ _ ho);have hget:∀q o,lk (put (DM hp k) key (.row e sz (xs.take h))) q=some o→(q=key∧o= .row e sz (xs.take h))∨(q≠key∧q≠k∧lk hp q=some o):=fun q o hq=>by
  by_cases e1:q=key
  ·subst e1;rw[Ab]at hq;cases hq;exact .inl ⟨rfl,rfl⟩
  ·rw[A9 _ _ _ _ e1]at hq;by_cases e2:q=k
   ·subst e2;rw[B3]at hq;cases hq
   ·rw[Bc _ _ _ e2]at hq;exact .inr ⟨e1,e2,hq⟩
 have hblk:∀b,AL (.slice a h c) b→AL (ν k) b:=fun b hb=>by
  rw[hν];cases a with
  |none=>simp[AL,Ag]at hb
  |some a=>exact hb
 have hsubO:∀b,Tt (lk (put (DM hp k) key (.row e sz (xs.take h)))) (upd ν key (.slice a h c)) b→Tt (lk hp) ν b:=fun b ⟨q,o,hq,hb⟩=>by
  rcases hget q o hq with⟨rfl,rfl⟩|⟨e1,e2,hq'⟩
  ·rw[Ac]at hb;exact⟨k,_,ho,hblk b hb⟩
  ·rw[Al _ _ _ _ e1]at hb;exact⟨q,o,hq',hb⟩
 have hx:CT (Am X.M0 (lk hp) ν) (lk hp) ν used w (Am X.M0 (lk (put (DM hp k) key (.row e sz (xs.take h)))) (upd ν key (.slice a h c))) (lk (put (DM hp k) key (.row e sz (xs.take h)))) (upd ν key (.slice a h c)) (fun q=>used q∨q=key) w :=
  ⟨Bi.refl _ _,fun b _ hM=>by
   rcases hM with hM|hM
   ·exact .inl hM
   ·exact .inr (hsubO b hM),fun q hq=>.inl hq,fun q hq o' ho'=>by
   rcases hget q o' ho' with⟨rfl,_⟩|⟨e1,_,hq'⟩
   ·exact absurd hq hk
   ·exact⟨o',hq',HO.later.refl _,HO.keeps_eq (Al _ _ _ _ e1)⟩,Bi.refl _ _,fun b _ hM=>hsubO b hM⟩
 refine⟨upd ν key (.slice a h c),⟨hI.below,hI.M0,fun q o b hq hb=>?_,fun q o hq=>?_,fun q o b hq hb=>?_,fun q q' o o' b hq hq' hb hb'=>?_,fun q o hq=>?_⟩,hx,?_⟩
 ·rcases hget q o hq with⟨rfl,rfl⟩|⟨e1,e2,hq'⟩
  ·rw[Ac]at hb;exact hI.far _ _ _ ho (hblk b hb)
  ·rw[Al _ _ _ _ e1]at hb;exact hI.far _ _ _ hq' hb
 ·rcases hget q o hq with⟨rfl,rfl⟩|⟨e1,e2,hq'⟩
  ·exact .inr rfl
  ·exact .inl (hI.usd _ _ hq')
 ·rcases hget q o hq with⟨rfl,rfl⟩|⟨e1,e2,hq'⟩
  ·rw[Ac]at hb;exact hI.blk _ _ _ ho (hblk b hb)
  ·rw[Al _ _ _ _ e1]at hb;exact hI.blk _ _ _ hq' hb
 ·rcases hget q o hq with⟨rfl,rfl⟩|⟨e1,e2,hq1⟩
  ·rcases hget q' o' hq' with⟨rfl,rfl⟩|⟨e3,e4,hq2⟩
   ·rfl
   ·rw[Ac]at hb;rw[Al _ _ _ _ e3]at hb';exact absurd (hI.inj _ _ _ _ _ ho hq2 (hblk b hb) hb').symm e4
  ·rw[Al _ _ _ _ e1]at hb;rcases hget q' o' hq' with⟨rfl,rfl⟩|⟨e3,e4,hq2⟩
   ·rw[Ac]at hb';exact absurd (hI.inj _ _ _ _ _ hq1 ho hb (hblk b hb')) e2
   ·rw[Al _ _ _ _ e3]at hb';exact hI.inj _ _ _ _ _ hq1 hq2 hb hb'
 ·rcases hget q o hq with⟨rfl,rfl⟩|⟨e1,e2,hq'⟩
  ·rw[Ac];have hlen:(xs.take h).length=h:=by simp;omega
   have hle:h * sz≤xs.length * sz:=Nat.mul_le_mul_right _ hh;refine⟨vals.take (h * sz),?_,hz,fun x hx=>hf x (List.mem_of_mem_take hx),fun i x j d hx' hd=>?_⟩
   ·rw[hlen];refine⟨by rw[List.length_take,hown.1];omega,?_⟩;rcases hown.2 with⟨hv,hn⟩|⟨g,cap,cur,hv,hb,hg,h1,h2,h3,h4⟩
    ·rw[hν]at hv;cases hv;have:=h0 rfl;subst this;have:h=0:=by omega
     subst this;exact .inl ⟨rfl,rfl⟩
    ·rw[hν]at hv;cases hv;refine .inr ⟨g,c,cur,rfl,hb,hg,hhc,Nat.le_trans hc h2,Nat.le_trans (Nat.mul_le_mul_right _ hc) h3,?_⟩;rw[← h4,List.take_take,Nat.min_eq_left hle]
   ·have hi:=(List.getElem?_eq_some_iff.1 hx').1;rw[List.getElem?_take]at hx';rw[hlen]at hi;rw[if_pos hi]at hx';obtain⟨u,hu,hr⟩:=hrow i x j d hx' hd;have hj:=(List.getElem?_eq_some_iff.1 hd).1;rw[(hf x (List.mem_of_getElem? hx')).1]at hj;have:i * sz+j<h * sz:=by
     have:(i+1) * sz≤h * sz:=Nat.mul_le_mul_right _ hi;rw[Nat.add_mul]at this;omega
    exact⟨u,by rw[List.getElem?_take,if_pos this];exact hu,hr.mono hx.same hx.shrink⟩
  ·rw[Al _ _ _ _ e1];exact(hI.obj _ _ hq').ext hx (fun _ _=>rfl)
 ·refine .own (.inr rfl) rfl ⟨hhc,?_⟩ (fun e=>⟨by have:=h0 e;omega,h0 e⟩) fun o ho'=>?_
  ·obtain⟨a',c',hv,hcc,_⟩:=Dq hown;rw[hν]at hv;cases hv;omega
  ·rw[Ab]at ho';cases ho';have hlen:(xs.take h).length=h:=by simp;omega
   exact⟨e,sz,_,rfl,by rw[hlen];exact Nat.le_refl _,fun _=>by rw[Ac]⟩
inductive CU(w:World)(M:Nat→Prop)(H:Nat→Option HO)(ν:Nat→Value)(used:Nat→Prop):Option AV→Option Value→Prop where
 |none:CU w M H ν used none none
 |some {a:AV} {v:Value} (h:A5 w M H ν used a v):CU w M H ν used (some a) (some v)
theorem R2(hI:At X (lk hp) ν used w)(hk:¬used key){t:Nat}{x r:AV}{vx:Value}{lo hi mx:Option AV}{vlo vhi vmx:Option Value}{es:List (Nat×Option HO)}{acc:List Nat}
 (hx:A5 w (Am X.M0 (lk hp) ν) (lk hp) ν used x vx) (hlo:CU w (Am X.M0 (lk hp) ν) (lk hp) ν used lo vlo) (hhi:CU w (Am X.M0 (lk hp) ν) (lk hp) ν used hi vhi) (hmx:CU w (Am X.M0 (lk hp) ν) (lk hp) ν used mx vmx)
 (he:FZ P key (lk hp) t x lo hi mx=some (r,es,acc)):∃v,(Instr.sliceAt t vx vlo vhi vmx).run P w= .ok v w∧C7 X hp ν used w key (BO hp es) r v w:=by
 unfold FZ at he;split at he
 ·rename_i k n;split at he
  ·rename_i e sz xs e' ho hel;split at he
   ·rename_i sz' h hsz hh;split at he
    ·rename_i hc;obtain⟨rfl,rfl,rfl,hhx⟩:=hc;cases hlo;cases hx with
     |own hu h1 hcc ha hr =>
      rename_i c0 a;obtain⟨e2,sz2,xs2,ho2,hn2,hv2⟩:=hr _ ho;cases ho2;have hν:=hv2 rfl;rw[h1]at hν;subst h1;cases hmx with
      |none =>
       simp at he;obtain⟨rfl,rfl,rfl⟩:=he;have hb:(Instr.sliceBounds true xs.length c0 none vhi none).run P w= .ok (0,h,c0) w:=by
        cases hhi with
        |none=>simp[ofInt]at hh;subst hh;simp[Instr.sliceBounds]
        |some hq =>
         simp only[ofInt]at hh;split at hh
         ·split at hh
          ·rename_i h0;simp at hh;cases hq with
           |d hq=>cases hq;subst hh;simp[Instr.sliceBounds,Dr h0 (y:=c0) (by have:=hcc.1;omega)]
          ·cases hh
         ·cases hh
       refine⟨.slice a h c0,?_,?_⟩
       ·rw[F4 hel];simp only[Instr.slice,Sem.run_bind,run_underlying (Bn hel),Result.andThen_ok,hb,AF hsz,Sem.run_pure];cases a<;>simp[Addr.add]
       ·exact hI.cut hk ho hhx hν.symm (by have:=hcc.1;omega) (Nat.le_refl _) (fun e=>(ha e).2)
      |some hm =>
       rename_i m vm;simp only at he;split at he
       ·rename_i m' hm';split at he
        ·rename_i hmh;obtain⟨rfl,hsome⟩:=hmh;simp at he;obtain⟨rfl,rfl,rfl⟩:=he;have mx_ok:(Instr.sliceBound vm c0 .slice3Acap).run P w= .ok m' w:=by
          simp only[ofInt]at hm';split at hm'
          ·split at hm'
           ·rename_i h0;simp at hm';cases hm with
            |d hm=>cases hm;subst hm';exact Dr h0 (by have:=hcc.1;omega)
           ·cases hm'
          ·cases hm'
         cases hhi with
         |none=>simp at hsome
         |some hq =>
          rename_i hv vhv;have hi_ok:(Instr.sliceBound vhv m' .slice3B).run P w= .ok m' w:=by
           simp only[ofInt]at hh;split at hh
           ·split at hh
            ·rename_i h0;simp at hh;cases hq with
             |d hq=>cases hq;rw[Dr h0 (by omega),hh]
            ·cases hh
           ·cases hh
          have hb:(Instr.sliceBounds true xs.length c0 none (some vhv) (some vm)).run P w= .ok (0,m',m') w:=by
           simp_all [Instr.sliceBounds]
          refine⟨.slice a m' m',?_,?_⟩
          ·rw[F4 hel];simp only[Instr.slice,Sem.run_bind,run_underlying (Bn hel),Result.andThen_ok,hb,AF hsz,Sem.run_pure];cases a<;>simp[Addr.add]
          ·exact hI.cut hk ho hhx hν.symm (Nat.le_refl _) (by have:=hcc.1;omega) (fun e=>by have:=(ha e).1;omega)
        ·cases he
       ·cases he
    ·cases he
   ·cases he
  ·cases he
 ·cases he
def Dy(P:Program)(key:Nat)(H:Nat→Option HO)(t:TypeId)(x:AV)(lo hi mx:Option AV):Option (AV×List (Nat×Option HO)×List Nat) :=
 match FZ P key H t x lo hi mx with
 |some r=>some r
 |none=>EP P H t x lo hi mx
theorem O8(hI:At X (lk hp) ν used w)(hk:¬used key){t:Nat}{x r:AV}{vx:Value}{lo hi mx:Option AV}{vlo vhi vmx:Option Value}{es:List (Nat×Option HO)}{acc:List Nat}
 (hx:A5 w (Am X.M0 (lk hp) ν) (lk hp) ν used x vx) (hlo:CU w (Am X.M0 (lk hp) ν) (lk hp) ν used lo vlo) (hhi:CU w (Am X.M0 (lk hp) ν) (lk hp) ν used hi vhi) (hmx:CU w (Am X.M0 (lk hp) ν) (lk hp) ν used mx vmx)
 (he:EP P (lk hp) t x lo hi mx=some (r,es,acc)):∃v,(Instr.sliceAt t vx vlo vhi vmx).run P w= .ok v w∧C7 X hp ν used w key (BO hp es) r v w:=by
 unfold EP at he;split at he
 ·rename_i e hel;split at he
  ·rename_i sz hsz;split at he
   ·rename_i d ks hd;split at he
    ·rename_i xs hxs;split at he
     ·rename_i l h hl hh;split at he
      ·rename_i hc;obtain⟨hlh,hhx⟩:=hc;have hdr:=IC (DJ hI hx hd) hxs;obtain⟨hI1,x1⟩:=hI.drops ks;obtain⟨a,c,rfl,hcap,hcm,_⟩:=hdr.sl_val;have lo_ok:∀y,l≤y→∀code,((match vlo with|some v=>Instr.sliceBound v y code|none=>pure 0:Sem Nat)).run P w= .ok l w:=by
        intro y hy code;cases hlo with
        |none=>simp[ofInt]at hl;subst hl;rfl
        |some h =>
         simp only[ofInt]at hl;split at hl
         ·split at hl
          ·rename_i h0;simp at hl;cases h with
           |d h=>cases h;subst hl;exact Dr h0 (by omega)
          ·cases hl
         ·cases hl
       cases hmx with
       |none =>
        simp at he;obtain⟨rfl,rfl,rfl⟩:=he;have hi_ok:((match vhi with|some v=>Instr.sliceBound v c .sliceAcap|none=>pure xs.length:Sem Nat)).run P w= .ok h w:=by
         cases hhi with
         |none=>simp[ofInt]at hh;subst hh;rfl
         |some hq =>
          simp only[ofInt]at hh;split at hh
          ·split at hh
           ·rename_i h0;simp at hh;cases hq with
            |d hq=>cases hq;subst hh;exact Dr h0 (by omega)
           ·cases hh
          ·cases hh
        have hb:(Instr.sliceBounds true xs.length c vlo vhi none).run P w= .ok (l,h,c) w:=by
         have hl':=lo_ok h hlh .sliceB;cases vhi<;>cases vlo<;>simp_all [Instr.sliceBounds]
        refine⟨.slice (if c=l then a else a.map (·.add (l * sz))) (h-l) (c-l),?_,?_⟩
        ·rw[F4 hel];simp only[Instr.slice,Sem.run_bind,run_underlying (Bn hel),Result.andThen_ok,hb,AF hsz,Sem.run_pure]
        ·rw[IB];exact(C7.same hI1 hk (.d (TP hdr hlh hhx (by omega) (Nat.le_refl _)))).after x1
       |some hm =>
        rename_i m vm;simp only at he;split at he
        ·rename_i m' hm';split at he
         ·rename_i hmh;obtain⟨rfl,hsome⟩:=hmh;simp at he;obtain⟨rfl,rfl,rfl⟩:=he;have mx_ok:(Instr.sliceBound vm c .slice3Acap).run P w= .ok m' w:=by
           simp only[ofInt]at hm';split at hm'
           ·split at hm'
            ·rename_i h0;simp at hm';cases hm with
             |d hm=>cases hm;subst hm';exact Dr h0 (by omega)
            ·cases hm'
           ·cases hm'
          cases hhi with
          |none=>simp at hsome
          |some hq =>
           rename_i hv vhv;have hi_ok:(Instr.sliceBound vhv m' .slice3B).run P w= .ok m' w:=by
            simp only[ofInt]at hh;split at hh
            ·split at hh
             ·rename_i h0;simp at hh;cases hq with
              |d hq=>cases hq;rw[Dr h0 (by omega),hh]
             ·cases hh
            ·cases hh
           have hb:(Instr.sliceBounds true xs.length c vlo (some vhv) (some vm)).run P w= .ok (l,m',m') w:=by
            have hl':=lo_ok m' hlh .slice3C;cases vlo<;>simp_all [Instr.sliceBounds]
           refine⟨.slice (if m'=l then a else a.map (·.add (l * sz))) (m'-l) (m'-l),?_,?_⟩
           ·rw[F4 hel];simp only[Instr.slice,Sem.run_bind,run_underlying (Bn hel),Result.andThen_ok,hb,AF hsz,Sem.run_pure]
           ·rw[IB];have hcut:=TP (m:=m') hdr hlh hhx (Nat.le_refl _) (by omega);have hlen:((xs.take m').drop l).length=m'-l:=by simp;omega
            rw[← hlen]at hcut ⊢;exact(C7.same hI1 hk (.clip hcut)).after x1
         ·cases he
        ·cases he
      ·cases he
     ·cases he
    ·cases he
   ·cases he
  ·cases he
 ·cases he
theorem MY(hI:At X (lk hp) ν used w)(hk:¬used key){t:Nat}{x r:AV}{vx:Value}{lo hi mx:Option AV}{vlo vhi vmx:Option Value}{es:List (Nat×Option HO)}{acc:List Nat}
 (hx:A5 w (Am X.M0 (lk hp) ν) (lk hp) ν used x vx) (hlo:CU w (Am X.M0 (lk hp) ν) (lk hp) ν used lo vlo) (hhi:CU w (Am X.M0 (lk hp) ν) (lk hp) ν used hi vhi) (hmx:CU w (Am X.M0 (lk hp) ν) (lk hp) ν used mx vmx)
 (he:Dy P key (lk hp) t x lo hi mx=some (r,es,acc)):∃v,(Instr.sliceAt t vx vlo vhi vmx).run P w= .ok v w∧C7 X hp ν used w key (BO hp es) r v w:=by
 unfold Dy at he;split at he
 ·rename_i q hq;cases he;exact R2 hI hk hx hlo hhi hmx hq
 ·exact O8 hI hk hx hlo hhi hmx he
end
end Go.Eng

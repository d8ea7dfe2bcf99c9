/- The engine, part 36: the library's sort over a row of the call's own. (and what stands behind it: texts laid together) -/
import Derived.Test.YtooblcpmpemhfaaGreatDoorMG4
import Derived.Shelf.SlSortCmp.WholeK
import Derived.Shelf.SlSortCmp.Whole1
set_option linter.unusedVariables false
set_option linter.unusedSimpArgs false
set_option maxHeartbeats 32000000
set_option maxRecDepth 100000
namespace Go.Eng
open Go.RowKit Go.Shelf Go.Lib Go.Sort
open Go.Proofs (CmpLays sortWorldK ltOf)
section
variable {P:Program} {ρ:Ren}
structure El(w:World)(M:Nat→Prop)(Good:D→Prop)(sz:Nat) where
 d:D
 vs:List Value
 good:Good d
 len:vs.length=sz
 rep:An w M d (.agg vs.toArray)
theorem UE{w:World}{M:Nat→Prop}{d:D}{vs:List Value}(h:An w M d (.agg vs.toArray)):∀v∈vs,v.oneCell'=true:=by
 generalize hu:Value.agg vs.toArray=u at h;intro v hv;cases h with
 |agg hl hc hh =>
  rename_i fs cs;have:vs=cs:=by simpa using hu
  subst this;obtain⟨i,hi⟩:=List.mem_iff_getElem?.1 hv;have hlt:i<fs.length:=by rw[hl];exact(List.getElem?_eq_some_iff.1 hi).1
  have h1:=List.getElem?_eq_getElem hlt;exact(hh i _ _ h1 hi).oneCell (hc _ (List.mem_of_getElem? h1))
 |any h=>subst hu;cases h
 |_=>cases hu
theorem Te(L:Go.Proofs.SlLaysF0.n6 P ρ){sz:Nat}(hz0:0<sz)(aE:∀w,(isAgg (ρ.t 24)).run P w= .ok true w)(zE:∀w,(Go.sizeOf (ρ.t 24)).run P w= .ok sz w){g:FuncId}(eg:∀args w,(callFunc g args).run P w= .ok (.enter g args) w)
 {Good:D→Prop} {cf:D→D→Int} (hcmp:∀x y,Good x→Good y→A3 P g [x,y] (.int .i64 (cf x y)))
 (hirr:∀x,Good x→¬cf x x<0) (htr:∀x y z,Good x→Good y→Good z→cf x y<0→cf y z<0→cf x z<0) (hntr:∀x y z,Good x→Good y→Good z→¬cf x y<0→¬cf y z<0→¬cf x z<0)
 (hanti:∀x y,Good x→Good y→¬cf x y<0→¬cf y x<0→x=y) (hagg:∀x,Good x→∃fs,x= .agg fs)
 {e:TypeId} {xs ys:List D} (hg:∀x∈xs,Good x) (h0:0<xs.length) (hmax:xs.length<4611686018427387904) (hperm:ys.Perm xs) (hs:ys.Pairwise (fun a b=>¬cf b a<0)) :
 Ai P (ρ.f 6) [.own 0 xs.length,.d (.fn g)] [(0,.row e sz xs)] (.tup []) [(0,.row e sz ys)] 1:=by
 intro X ν w vs hI hl hv
 match vs,hl with
 | [v0,v1],_ =>
 have r0:=hv 0 _ v0 rfl rfl;have r1:=hv 1 _ v1 rfl rfl;have ho:lk [(0,HO.row e sz xs)] 0=some (.row e sz xs):=rfl;cases r1 with
 |d r1 =>
 cases r1;cases r0 with
 |own hu h1 hc ha h =>
 obtain⟨_,_,_,he',_,hv0⟩:=h _ ho;cases he';have hv0:=hv0 rfl;clear h ha;obtain⟨vals,hown,hz,hf,hrow⟩:=hI.obj _ _ ho;rcases hown.2 with⟨hn,hn0⟩|⟨blk,cap,cur,hval,hbase,hheap,hnc,hcm,hcs,htake⟩
 ·omega
 have hbk:AL (ν 0) blk:=by rw[hval];exact rfl
 have hblt:=(hI.blk _ _ _ ho hbk).2;have hMb:Am X.M0 (lk [(0,HO.row e sz xs)]) ν blk:=.inr ⟨0,_,ho,hbk⟩;let α:=El w (Am X.M0 (lk [(0,HO.row e sz xs)]) ν) Good sz
 have hel:∀i,∃a:α,i<xs.length→xs[i]? =some a.d∧∀j,j<sz→vals[i * sz+j]? =a.vs[j]? :=fun i=>by
  have mk:∀i,i<xs.length→∃a:α,xs[i]? =some a.d∧∀j,j<sz→vals[i * sz+j]? =a.vs[j]? :=fun i hi=>by
   have hxi:=List.getElem?_eq_getElem hi;have hgi:=hg _ (List.getElem_mem hi);obtain⟨hcl,hcc⟩:=hf _ (List.getElem_mem hi);obtain⟨fs,hfs⟩:=hagg _ hgi;have hcomps:(xs[i]).comps=fs:=by rw[hfs];rfl
   rw[hcomps]at hcl hcc;have hle:(i+1) * sz≤xs.length * sz:=Nat.mul_le_mul_right _ hi;rw[Nat.add_mul]at hle;have hvl:((vals.drop (i * sz)).take sz).length=sz:=by simp[hown.1];omega
   have hat:∀j,j<sz→((vals.drop (i * sz)).take sz)[j]? =vals[i * sz+j]? :=fun j hj=>by rw[List.getElem?_take,if_pos hj,List.getElem?_drop]
   refine⟨⟨xs[i],(vals.drop (i * sz)).take sz,hgi,hvl,?_⟩,hxi,fun j hj=>(hat j hj).symm⟩;rw[hfs];refine .agg (by rw[hcl,hvl]) hcc fun j d v hd hv=>?_;have hj:j<sz:=by rw[← hcl];exact(List.getElem?_eq_some_iff.1 hd).1
   obtain⟨u,hu1,hu2⟩:=hrow i _ j d hxi (by rw[hcomps];exact hd);rw[hat j hj,hu1]at hv;cases hv;exact hu2
  by_cases hi:i<xs.length
  ·obtain⟨a,ha⟩:=mk i hi;exact⟨a,fun _=>ha⟩
  ·obtain⟨a,ha⟩:=mk 0 h0;exact⟨a,fun h=>absurd h hi⟩
 obtain⟨f,hf'⟩:=Classical.axiomOfChoice hel
 haveI:Inhabited α:=⟨f 0⟩
 let d:Array α:=(Array.range xs.length).map f
 have hds:d.size=xs.length:=by simp[d]
 have hdi:∀i,i<xs.length→d[i]! =f i:=fun i hi=>by
  rw[getElem!_pos d i (by rw[hds];exact hi)];simp[d]
 let enc:α→List Value:=fun a=>a.vs
 let cf':α→α→Int:=fun a b=>cf a.d b.d
 have hswo:SWO (ltOf cf'):=⟨fun x=>by simp only[ltOf];exact decide_eq_false (hirr _ x.good),fun x y z h1 h2=>by simp only[ltOf,decide_eq_true_eq]at *;exact htr _ _ _ x.good y.good z.good h1 h2,
  fun x y z h1 h2=>by simp only[ltOf,decide_eq_false_iff_not]at *;exact hntr _ _ _ x.good y.good z.good h1 h2⟩
 have hflat:∀(D0:Array α) (j:Nat),j<D0.size * sz→(flatK enc sz D0)[j]! =((D0[j/sz]!).vs)[j%sz]! :=fun D0 j hj=>get_flatK enc sz D0 j hj;have hdm:∀j,j<xs.length * sz→j/sz<xs.length∧j%sz<sz∧j/sz * sz+j%sz=j:=fun j hj=>⟨(Nat.div_lt_iff_lt_mul hz0).2 hj,Nat.mod_lt _ hz0,by have:=Nat.div_add_mod j sz;rw[Nat.mul_comm]at this;exact this⟩
 have hH:HoldsK enc sz w blk 0 d:=fun j hj=>by
  simp only[size_flatK,hds]at hj;obtain⟨q1,q2,q3⟩:=hdm j hj;rw[hflat d j (by rw[hds];exact hj),hdi _ q1];have hvj:=(hf' _ q1).2 _ q2;rw[q3]at hvj;have hjv:j<vals.length:=by rw[hown.1];exact hj
  rw[List.getElem?_eq_getElem hjv]at hvj;have hjc:cur[j]? =some vals[j]:=by
   have:(cur.toList.take (xs.length * sz))[j]? =some vals[j]:=by rw[htake];exact List.getElem?_eq_getElem hjv
   rw[List.getElem?_take,if_pos hj]at this;simpa using this
  refine⟨?_,?_⟩
  ·have:=JR hheap hjc 0 j (by omega);have e1:(⟨blk,0+j,none⟩:Addr)=(⟨blk,0,none⟩:Addr).add j:=by unfold Addr.add;by_cases h:j=0<;>simp[h]
   rw[e1,this,id,List.getElem!_eq_getElem?_getD,← hvj];rfl
  ·simp[World.frozen?,hheap]
 have hlays:CmpLays P g #[] enc sz cf' blk 0 d.size w:=fun m os dk hdk x y=>by
  let W:=sortWorldK enc sz w blk 0 m dk os
  have hWs:w.heap.size≤W.heap.size:=by simp[W,sortWorldK,grow,putRowK]
  have hWb:∀b,b<w.heap.size→b≠blk→W.heap[b]? =w.heap[b]? :=fun b hb hne=>by
   simp only[W,sortWorldK,grow,putRowK,putRow,mapBlock];rw[Array.getElem?_append_left (by simpa using hb),Array.getElem?_modify,if_neg (fun e=>hne e.symm)];rfl
  have hSame:Bi (Am X.M0 (lk [(0,HO.row e sz xs)]) ν) w W:=⟨hWs,fun b hb hM=>hWb b hb (fun e=>hM (e▸hMb))⟩
  have rx:An W (fun b=>b=blk) x.d (.agg x.vs.toArray):=x.rep.mono hSame (fun b _ (hb:b=blk)=>by rw[hb];exact hMb);have ry:An W (fun b=>b=blk) y.d (.agg y.vs.toArray):=y.rep.mono hSame (fun b _ (hb:b=blk)=>by rw[hb];exact hMb);have hc:=hcmp x.d y.d x.good y.good W (fun b=>b=blk) [.agg x.vs.toArray,.agg y.vs.toArray] (X.wd.mono ⟨hI.below.lo.os,hI.below.lo.tape,hI.below.lo.output,Nat.le_trans hI.below.size hWs,fun k hk=>(hWb k (Nat.lt_of_lt_of_le hk hI.below.size) (fun e=>Nat.lt_irrefl k (Nat.lt_of_lt_of_le hk (by rw[e];exact hbase)))).trans (hI.below.lo.block k hk)⟩) (fun b hb=>by rw[hb];exact Nat.lt_of_lt_of_le hblt hWs) rfl (Fc rx (Fc ry NA));rcases hc with⟨v,w',hr,_⟩|⟨_,hc⟩
  ·rw[eg]at hr;cases hr
  ·have harr : #[Value.agg (enc x).toArray,.agg (enc y).toArray] ++ #[]=[Value.agg x.vs.toArray,.agg y.vs.toArray].toArray:=by simp[enc]
   rw[harr];refine hc.mono ?_;rintro ex w' ⟨v,rfl,hv,hb⟩;cases hv;exact⟨rfl,hb.grows⟩
 have hcon:=Go.Proofs.AnyQ.slices_SortFunc L sz aE zE enc (fun a=>a.len) (fun a=>UE a.rep) cf' hswo g #[] blk 0 cap d w eg hlays hH hblt (by rw[hds];exact hmax);rw[hds]at hcon;have e6:∀args w,(callFunc (ρ.f 6) args).run P w= .ok (.enter (ρ.f 6) args) w:=L.f6.enters rfl;refine⟨e6 _ _,?_⟩;have hv0':v0= .slice (some ⟨blk,0,none⟩) xs.length cap:=hv0.trans hval;rw[hv0'];refine hcon.mono ?_;rintro ex w' ⟨rfl,d',n,os,⟨hsz',_,hp'⟩,hso,rfl⟩;rw[hds]at hsz';let W:=sortWorldK enc sz w blk 0 n d' os
 let cur':=putCells id 0 (flatK enc sz d') cur
 have hWs:w.heap.size≤W.heap.size:=by simp[W,sortWorldK,grow,putRowK]
 have hWb:∀b,b<w.heap.size→b≠blk→W.heap[b]? =w.heap[b]? :=fun b hb hne=>by
  simp only[W,sortWorldK,grow,putRowK,putRow,mapBlock];rw[Array.getElem?_append_left (by simpa using hb),Array.getElem?_modify,if_neg (fun e=>hne e.symm)];rfl
 have hWc:W.heap[blk]? =some (.cells cur' e (0,0)):=by
  simp only[W,sortWorldK,grow,putRowK,putRow,mapBlock];rw[Array.getElem?_append_left (by simpa using hblt),Array.getElem?_modify,if_pos rfl];show(w.heap[blk]?).map _=_;rw[hheap];rfl
 have hSame:Bi (Am X.M0 (lk [(0,HO.row e sz xs)]) ν) w W:=⟨hWs,fun b hb hM=>hWb b hb (fun e=>hM (e▸hMb))⟩
 have hdd:d.toList.map (·.d)=xs:=List.ext_getElem? fun i=>by
  by_cases hi:i<xs.length
  ·rw[(hf' i hi).1,List.getElem?_map];have:d.toList[i]? =some (f i):=by
    have h1:i<d.size:=by rw[hds];exact hi
    have h2:=hdi i hi;rw[getElem!_pos d i h1]at h2;simp[Array.getElem?_eq_getElem h1,h2]
   rw[this];rfl
  ·rw[List.getElem?_eq_none (by simp[hds];omega),List.getElem?_eq_none (by omega)]
 have hpl:d'.toList.Perm d.toList:=by
  have e1:d'.extract 0 xs.length=d':=by rw[← hsz'];simp
  have e2:d.extract 0 xs.length=d:=by rw[← hds];simp
  rw[e1,e2]at hp';exact hp'
 have hdlp:(d'.toList.map (·.d)).Perm xs:=by
  have:=hpl.map (·.d)
  rwa [hdd]at this
 have hdls:(d'.toList.map (·.d)).Pairwise (fun a b=>¬cf b a<0):=by
  rw[List.pairwise_map,List.pairwise_iff_getElem];intro i j hi hj hij;have h1:i<d'.size:=by simpa using hi
  have h2:j<d'.size:=by simpa using hj
  have:=hso i j (Nat.zero_le _) hij (by omega);rw[getElem!_pos d' i h1,getElem!_pos d' j h2]at this;simpa[ltOf,cf']using this
 have hysd:ys=d'.toList.map (·.d):=ET (R:=fun a b=>¬cf b a<0) (hperm.trans hdlp.symm) hs hdls (fun a ha b hb h1 h2=>hanti a b (hg a (hperm.mem_iff.1 ha)) (hg b (hperm.mem_iff.1 hb)) h2 h1);have hyl:ys.length=xs.length:=hperm.length_eq;have hF:∀(i j:Nat),i<xs.length→j<sz→(flatK enc sz d').toList[i * sz+j]? =((d'[i]!).vs)[j]? :=fun i j hi hj=>by
  have hle:(i+1) * sz≤xs.length * sz:=Nat.mul_le_mul_right _ hi;rw[Nat.add_mul]at hle;have hlt:i * sz+j<d'.size * sz:=by rw[hsz'];omega
  have h1:=hflat d' (i * sz+j) hlt;have e1:(i * sz+j)/sz=i:=by rw[Nat.mul_comm,Nat.mul_add_div hz0,Nat.div_eq_of_lt hj];rfl
  have e2:(i * sz+j)%sz=j:=by rw[Nat.mul_comm,Nat.mul_add_mod];exact Nat.mod_eq_of_lt hj
  rw[e1,e2]at h1;have hsl:i * sz+j<(flatK enc sz d').size:=by simpa using hlt
  rw[getElem!_pos (flatK enc sz d') (i * sz+j) hsl]at h1;have hvl:j<(d'[i]!).vs.length:=by rw[(d'[i]!).len];exact hj
  rw[getElem!_pos ((d'[i]!).vs) j hvl]at h1;simp only[Array.getElem?_toList,Array.getElem?_eq_getElem hsl,List.getElem?_eq_getElem hvl,h1]
 have hput:put [(0,HO.row e sz xs)] 0 (.row e sz ys)=[(0,HO.row e sz ys)]:=rfl;have look:∀q o,lk [(0,HO.row e sz ys)] q=some o→q=0∧o= .row e sz ys:=fun q o hq=>by
  simp only[lk]at hq;split at hq
  ·rename_i e0;cases hq;exact⟨e0.symm,rfl⟩
  ·cases hq
 have hx:CT (Am X.M0 (lk [(0,HO.row e sz xs)]) ν) (lk [(0,HO.row e sz xs)]) ν (·< 1) w (Am X.M0 (lk [(0,HO.row e sz ys)]) ν) (lk [(0,HO.row e sz ys)]) ν (·< 1) W:=by
  refine⟨hSame,fun b _ hM=>?_,fun _ h=>h,fun q _ o' hq=>?_,⟨hWs,fun b hb hM=>hWb b hb (fun e0=>hM (e0▸⟨0,_,ho,hbk⟩))⟩,fun b _ hM=>?_⟩
  ·rcases hM with h|⟨q,o',hq,hbq⟩
   ·exact .inl h
   ·obtain⟨rfl,rfl⟩:=look q o' hq;exact .inr ⟨0,_,ho,hbq⟩
  ·obtain⟨rfl,rfl⟩:=look q o' hq;exact⟨_,ho,⟨rfl,rfl,by omega⟩,fun _=>rfl⟩
  ·obtain⟨q,o',hq,hbq⟩:=hM;obtain⟨rfl,rfl⟩:=look q o' hq;exact⟨0,_,ho,hbq⟩
 have hbel:Bl X.base w W:=⟨⟨rfl,rfl,rfl,hWs,fun b hb=>hWb b (Nat.lt_of_lt_of_le hb hI.below.size) (by omega)⟩,Nat.le_add_right _ _⟩
 have hν:upd ν 0 (ν 0)=ν:=by funext q;by_cases h:q=0<;>simp[upd,h]
 have hrep:Ky X.base W (Am X.M0 (lk [(0,HO.row e sz ys)]) ν) (lk [(0,HO.row e sz ys)]) ν (·< 1) (ν 0) (.row e sz ys):=by
  refine⟨(flatK enc sz d').toList,⟨by simp[hsz',hyl],.inr ⟨blk,cap,cur',by rw[hval,hyl],hbase,hWc,by omega,hcm,by simp[cur',putCells];exact hcs,?_⟩⟩,hz,fun y hy=>hf y (hperm.mem_iff.1 hy),fun i x j dd hx1 hd1=>?_⟩
  ·refine List.ext_getElem? fun i=>?_;rw[List.getElem?_take];by_cases hi:i<ys.length * sz
   ·rw[if_pos hi];have hic:i<cur.size:=by
     have:xs.length * sz≤cap * sz:=Nat.mul_le_mul_right _ hnc;rw[hyl]at hi;omega
    have hiF:i<(flatK enc sz d').size:=by simp[hsz'];rw[← hyl];exact hi
    simp only[cur',putCells,Array.getElem?_toList,Array.getElem?_mapIdx,Array.getElem?_eq_getElem hic,Option.map_some,Nat.zero_le,true_and,Nat.zero_add,Nat.sub_zero,id];rw[if_pos hiF,getElem!_pos (flatK enc sz d') i hiF,Array.getElem?_eq_getElem hiF]
   ·rw[if_neg hi,List.getElem?_eq_none];simp[hsz'];rw[← hyl];omega
  ·have hil:i<xs.length:=by rw[← hyl];exact(List.getElem?_eq_some_iff.1 hx1).1
   have hid:i<d'.size:=by rw[hsz'];exact hil
   rw[hysd,List.getElem?_map]at hx1;have hdi':d'.toList[i]? =some d'[i]! :=by rw[getElem!_pos d' i hid];simp[hid]
   rw[hdi']at hx1;simp only[Option.map_some,Option.some.injEq]at hx1;subst hx1;have hyi:=(d'[i]!).good;obtain⟨fs,hfs⟩:=hagg _ hyi;have hrp:=(d'[i]!).rep;have hvlen:=(d'[i]!).len;rw[hfs]at hrp hd1;simp only[D.comps]at hd1;generalize hag:Value.agg (d'[i]!).vs.toArray=u0 at hrp;cases hrp with
   |agg hl2 hc2 hh2 =>
    rename_i cs;have hcs2:(d'[i]!).vs=cs:=by simpa using hag
    have hjl:j<cs.length:=by rw[← hl2];exact(List.getElem?_eq_some_iff.1 hd1).1
    have hj:j<sz:=by rw[← hvlen,hcs2];exact hjl
    have hu:=List.getElem?_eq_getElem hjl;refine⟨cs[j],by rw[hF i j hil hj,hcs2,hu],(hh2 j dd _ hd1 hu).mono hx.same hx.shrink⟩
 have:=hI.step (hp:=[(0,HO.row e sz xs)]) (k:=0) (o:=.row e sz ys) (v:=ν 0) (used':=(·< 1)) (w':=W) hbel (by rw[hν];exact hx) (Nat.lt_succ_self 0)
  (fun b hb=>⟨(hI.blk _ _ _ ho hb).1,Nat.lt_of_lt_of_le (hI.blk _ _ _ ho hb).2 hWs,fun q o' hne hq hbq=>absurd (by
    simp only[lk]at hq;split at hq
    ·rename_i e0;exact e0.symm
    ·cases hq) hne,hI.far _ _ _ ho hb⟩)
  (fun q o' b hne hq hb=>absurd (by
    simp only[lk]at hq;split at hq
    ·rename_i e0;exact e0.symm
    ·cases hq) hne) (by rw[hν];exact hrep)
 rw[hν]at this;exact⟨.tuple #[],ν,1,rfl,this,hx,.tup (cs:=[]) rfl (fun i d v h=>by simp at h)⟩
end
end Go.Eng
namespace Go.Eng
open Go.RowKit Go.Shelf Go.Lib Go.Sort
open Go.Proofs (CmpLays1 sortWorld ltOf)
section
variable {P:Program} {ρ:Ren}
structure fw(w:World)(M:Nat→Prop)(Good:D→Prop) where
 d:D
 v:Value
 good:Good d
 cell:d.cell=true
 rep:An w M d v
theorem RW(L:Go.Proofs.SlLaysF.n6 P ρ){g:FuncId}(eg:∀args w,(callFunc g args).run P w= .ok (.enter g args) w)
 {Good:D→Prop} {cf:D→D→Int} (hcmp:∀x y,Good x→Good y→A3 P g [x,y] (.int .i64 (cf x y)))
 (hirr:∀x,Good x→¬cf x x<0) (htr:∀x y z,Good x→Good y→Good z→cf x y<0→cf y z<0→cf x z<0) (hntr:∀x y z,Good x→Good y→Good z→¬cf x y<0→¬cf y z<0→¬cf x z<0)
 (hanti:∀x y,Good x→Good y→¬cf x y<0→¬cf y x<0→x=y) (hagg:∀x,Good x→x.cell=true)
 {e:TypeId} {xs ys:List D} (hg:∀x∈xs,Good x) (h0:0<xs.length) (hmax:xs.length<4611686018427387904) (hperm:ys.Perm xs) (hs:ys.Pairwise (fun a b=>¬cf b a<0)) :
 Ai P (ρ.f 6) [.own 0 xs.length,.d (.fn g)] [(0,.row e 1 xs)] (.tup []) [(0,.row e 1 ys)] 1:=by
 intro X ν w vs hI hl hv
 match vs,hl with
 | [v0,v1],_ =>
 have r0:=hv 0 _ v0 rfl rfl;have r1:=hv 1 _ v1 rfl rfl;have ho:lk [(0,HO.row e 1 xs)] 0=some (.row e 1 xs):=rfl;cases r1 with
 |d r1 =>
 cases r1;cases r0 with
 |own hu h1 hc ha h =>
 obtain⟨_,_,_,he',_,hv0⟩:=h _ ho;cases he';have hv0:=hv0 rfl;clear h ha;obtain⟨vals,hown,hz,hf,hrow⟩:=hI.obj _ _ ho;rcases hown.2 with⟨hn,hn0⟩|⟨blk,cap,cur,hval,hbase,hheap,hnc,hcm,hcs,htake⟩
 ·omega
 have hbk:AL (ν 0) blk:=by rw[hval];exact rfl
 have hblt:=(hI.blk _ _ _ ho hbk).2;have hMb:Am X.M0 (lk [(0,HO.row e 1 xs)]) ν blk:=.inr ⟨0,_,ho,hbk⟩;let α:=fw w (Am X.M0 (lk [(0,HO.row e 1 xs)]) ν) Good
 have hel:∀i,∃a:α,i<xs.length→xs[i]? =some a.d∧vals[i]? =some a.v:=fun i=>by
  have mk:∀i,i<xs.length→∃a:α,xs[i]? =some a.d∧vals[i]? =some a.v:=fun i hi=>by
   have hxi:=List.getElem?_eq_getElem hi;have hgi:=hg _ (List.getElem_mem hi);have hcell:=hagg _ hgi;obtain⟨u,hu1,hu2⟩:=hrow i _ 0 (xs[i]) hxi (by rw[D.comps_one hcell];rfl);exact⟨⟨xs[i],u,hgi,hcell,hu2⟩,hxi,by simpa using hu1⟩
  by_cases hi:i<xs.length
  ·obtain⟨a,ha⟩:=mk i hi;exact⟨a,fun _=>ha⟩
  ·obtain⟨a,ha⟩:=mk 0 h0;exact⟨a,fun h=>absurd h hi⟩
 obtain⟨f,hf'⟩:=Classical.axiomOfChoice hel
 haveI:Inhabited α:=⟨f 0⟩
 let d:Array α:=(Array.range xs.length).map f
 have hds:d.size=xs.length:=by simp[d]
 have hdi:∀i,i<xs.length→d[i]! =f i:=fun i hi=>by
  rw[getElem!_pos d i (by rw[hds];exact hi)];simp[d]
 let enc:α→Value:=fun a=>a.v
 let cf':α→α→Int:=fun a b=>cf a.d b.d
 have hswo:SWO (ltOf cf'):=⟨fun x=>by simp only[ltOf];exact decide_eq_false (hirr _ x.good),fun x y z h1 h2=>by simp only[ltOf,decide_eq_true_eq]at *;exact htr _ _ _ x.good y.good z.good h1 h2,
  fun x y z h1 h2=>by simp only[ltOf,decide_eq_false_iff_not]at *;exact hntr _ _ _ x.good y.good z.good h1 h2⟩
 have hH:Holds enc w blk 0 d:=fun j hj=>by
  have hj':j<xs.length:=by rw[← hds];exact hj
  rw[hdi _ hj'];have hvj:=(hf' _ hj').2;have hjv:j<vals.length:=(List.getElem?_eq_some_iff.1 hvj).1;have hjc:cur[j]? =some (f j).v:=by
   have:(cur.toList.take (xs.length * 1))[j]? =some (f j).v:=by rw[htake];exact hvj
   rw[List.getElem?_take,if_pos (by omega)]at this;simpa using this
  refine⟨?_,?_⟩
  ·have:=JR hheap hjc 0 j (by omega);have e1:(⟨blk,0+j,none⟩:Addr)=(⟨blk,0,none⟩:Addr).add j:=by unfold Addr.add;by_cases h:j=0<;>simp[h]
   rw[e1,this]
  ·simp[World.frozen?,hheap]
 have hlays:CmpLays1 P g #[] enc cf' blk 0 d.size w:=fun m os dk hdk x y=>by
  let W:=sortWorld enc w blk 0 m dk os
  have hWs:w.heap.size≤W.heap.size:=by simp[W,sortWorld,grow,putRow,mapBlock,Sort.ahead]
  have hWb:∀b,b<w.heap.size→b≠blk→W.heap[b]? =w.heap[b]? :=fun b hb hne=>by
   simp only[W,sortWorld,grow,putRow,mapBlock];rw[Array.getElem?_append_left (by simpa using hb),Array.getElem?_modify,if_neg (fun e=>hne e.symm)];rfl
  have hSame:Bi (Am X.M0 (lk [(0,HO.row e 1 xs)]) ν) w W:=⟨hWs,fun b hb hM=>hWb b hb (fun e=>hM (e▸hMb))⟩
  have rx:An W (fun b=>b=blk) x.d x.v:=x.rep.mono hSame (fun b _ (hb:b=blk)=>by rw[hb];exact hMb);have ry:An W (fun b=>b=blk) y.d y.v:=y.rep.mono hSame (fun b _ (hb:b=blk)=>by rw[hb];exact hMb);have hc:=hcmp x.d y.d x.good y.good W (fun b=>b=blk) [x.v,y.v] (X.wd.mono ⟨hI.below.lo.os,hI.below.lo.tape,hI.below.lo.output,Nat.le_trans hI.below.size hWs,fun k hk=>(hWb k (Nat.lt_of_lt_of_le hk hI.below.size) (fun e=>Nat.lt_irrefl k (Nat.lt_of_lt_of_le hk (by rw[e];exact hbase)))).trans (hI.below.lo.block k hk)⟩) (fun b hb=>by rw[hb];exact Nat.lt_of_lt_of_le hblt hWs) rfl (Fc rx (Fc ry NA));rcases hc with⟨v,w',hr,_⟩|⟨_,hc⟩
  ·rw[eg]at hr;cases hr
  ·have harr : #[enc x,enc y] ++ #[]=[x.v,y.v].toArray:=by simp[enc]
   rw[harr];refine hc.mono ?_;rintro ex w' ⟨v,rfl,hv,hb⟩;cases hv;exact⟨rfl,hb.grows⟩
 have hcon:=Go.Proofs.Any.slices_SortFunc L enc (fun a=>a.rep.oneCell a.cell) cf' hswo g #[] blk 0 cap d w eg hlays hH hblt (by rw[hds];exact hmax);rw[hds]at hcon;have e6:∀args w,(callFunc (ρ.f 6) args).run P w= .ok (.enter (ρ.f 6) args) w:=L.f6.enters rfl;refine⟨e6 _ _,?_⟩;have hv0':v0= .slice (some ⟨blk,0,none⟩) xs.length cap:=hv0.trans hval;rw[hv0'];refine hcon.mono ?_;rintro ex w' ⟨rfl,d',n,os,⟨hsz',_,hp'⟩,hso,rfl⟩;rw[hds]at hsz';let W:=sortWorld enc w blk 0 n d' os
 let cur':=putCells enc 0 d' cur
 have hWs:w.heap.size≤W.heap.size:=by simp[W,sortWorld,grow,putRow,mapBlock,Sort.ahead]
 have hWb:∀b,b<w.heap.size→b≠blk→W.heap[b]? =w.heap[b]? :=fun b hb hne=>by
  simp only[W,sortWorld,grow,putRow,mapBlock];rw[Array.getElem?_append_left (by simpa using hb),Array.getElem?_modify,if_neg (fun e=>hne e.symm)];rfl
 have hWc:W.heap[blk]? =some (.cells cur' e (0,0)):=by
  simp only[W,sortWorld,grow,putRow,mapBlock];rw[Array.getElem?_append_left (by simpa using hblt),Array.getElem?_modify,if_pos rfl];show(w.heap[blk]?).map _=_;rw[hheap];rfl
 have hSame:Bi (Am X.M0 (lk [(0,HO.row e 1 xs)]) ν) w W:=⟨hWs,fun b hb hM=>hWb b hb (fun e=>hM (e▸hMb))⟩
 have hdd:d.toList.map (·.d)=xs:=List.ext_getElem? fun i=>by
  by_cases hi:i<xs.length
  ·rw[(hf' i hi).1,List.getElem?_map];have:d.toList[i]? =some (f i):=by
    have h1:i<d.size:=by rw[hds];exact hi
    have h2:=hdi i hi;rw[getElem!_pos d i h1]at h2;simp[Array.getElem?_eq_getElem h1,h2]
   rw[this];rfl
  ·rw[List.getElem?_eq_none (by simp[hds];omega),List.getElem?_eq_none (by omega)]
 have hpl:d'.toList.Perm d.toList:=by
  have e1:d'.extract 0 xs.length=d':=by rw[← hsz'];simp
  have e2:d.extract 0 xs.length=d:=by rw[← hds];simp
  rw[e1,e2]at hp';exact hp'
 have hdlp:(d'.toList.map (·.d)).Perm xs:=by
  have:=hpl.map (·.d)
  rwa [hdd]at this
 have hdls:(d'.toList.map (·.d)).Pairwise (fun a b=>¬cf b a<0):=by
  rw[List.pairwise_map,List.pairwise_iff_getElem];intro i j hi hj hij;have h1:i<d'.size:=by simpa using hi
  have h2:j<d'.size:=by simpa using hj
  have:=hso i j (Nat.zero_le _) hij (by omega);rw[getElem!_pos d' i h1,getElem!_pos d' j h2]at this;simpa[ltOf,cf']using this
 have hysd:ys=d'.toList.map (·.d):=ET (R:=fun a b=>¬cf b a<0) (hperm.trans hdlp.symm) hs hdls (fun a ha b hb h1 h2=>hanti a b (hg a (hperm.mem_iff.1 ha)) (hg b (hperm.mem_iff.1 hb)) h2 h1);have hyl:ys.length=xs.length:=hperm.length_eq;have hput:put [(0,HO.row e 1 xs)] 0 (.row e 1 ys)=[(0,HO.row e 1 ys)]:=rfl;have look:∀q o,lk [(0,HO.row e 1 ys)] q=some o→q=0∧o= .row e 1 ys:=fun q o hq=>by
  simp only[lk]at hq;split at hq
  ·rename_i e0;cases hq;exact⟨e0.symm,rfl⟩
  ·cases hq
 have hx:CT (Am X.M0 (lk [(0,HO.row e 1 xs)]) ν) (lk [(0,HO.row e 1 xs)]) ν (·< 1) w (Am X.M0 (lk [(0,HO.row e 1 ys)]) ν) (lk [(0,HO.row e 1 ys)]) ν (·< 1) W:=by
  refine⟨hSame,fun b _ hM=>?_,fun _ h=>h,fun q _ o' hq=>?_,⟨hWs,fun b hb hM=>hWb b hb (fun e0=>hM (e0▸⟨0,_,ho,hbk⟩))⟩,fun b _ hM=>?_⟩
  ·rcases hM with h|⟨q,o',hq,hbq⟩
   ·exact .inl h
   ·obtain⟨rfl,rfl⟩:=look q o' hq;exact .inr ⟨0,_,ho,hbq⟩
  ·obtain⟨rfl,rfl⟩:=look q o' hq;exact⟨_,ho,⟨rfl,rfl,by omega⟩,fun _=>rfl⟩
  ·obtain⟨q,o',hq,hbq⟩:=hM;obtain⟨rfl,rfl⟩:=look q o' hq;exact⟨0,_,ho,hbq⟩
 have hbel:Bl X.base w W:=⟨⟨rfl,rfl,rfl,hWs,fun b hb=>hWb b (Nat.lt_of_lt_of_le hb hI.below.size) (by omega)⟩,Nat.le_add_right _ _⟩
 have hν:upd ν 0 (ν 0)=ν:=by funext q;by_cases h:q=0<;>simp[upd,h]
 have hrep:Ky X.base W (Am X.M0 (lk [(0,HO.row e 1 ys)]) ν) (lk [(0,HO.row e 1 ys)]) ν (·< 1) (ν 0) (.row e 1 ys):=by
  refine⟨d'.toList.map (·.v),⟨by simp[hsz',hyl],.inr ⟨blk,cap,cur',by rw[hval,hyl],hbase,hWc,by omega,hcm,by simp[cur',putCells];exact Nat.le_trans (by simp) hcs,?_⟩⟩,hz,fun y hy=>hf y (hperm.mem_iff.1 hy),fun i x j dd hx1 hd1=>?_⟩
  ·refine List.ext_getElem? fun i=>?_;rw[List.getElem?_take];by_cases hi:i<ys.length * 1
   ·rw[if_pos hi];have hic:i<cur.size:=by
     rw[hyl]at hi;omega
    have hiF:i<d'.size:=by rw[hsz',← hyl];omega
    simp only[cur',putCells,Array.getElem?_toList,Array.getElem?_mapIdx,Array.getElem?_eq_getElem hic,Option.map_some,Nat.zero_le,true_and,Nat.zero_add,Nat.sub_zero];rw[if_pos hiF,getElem!_pos d' i hiF,List.getElem?_map];simp[hiF,enc]
   ·rw[if_neg hi,List.getElem?_eq_none];simp[hsz'];rw[← hyl];omega
  ·have hil:i<xs.length:=by rw[← hyl];exact(List.getElem?_eq_some_iff.1 hx1).1
   have hid:i<d'.size:=by rw[hsz'];exact hil
   rw[hysd,List.getElem?_map]at hx1;have hdi':d'.toList[i]? =some d'[i]! :=by rw[getElem!_pos d' i hid];simp[hid]
   rw[hdi']at hx1;simp only[Option.map_some,Option.some.injEq]at hx1;subst hx1;rw[D.comps_one (d'[i]!).cell]at hd1;have hj0:j=0:=by have:=(List.getElem?_eq_some_iff.1 hd1).1;simp at this;exact this
   subst hj0;simp only[List.getElem?_cons_zero,Option.some.injEq]at hd1;subst hd1;exact⟨(d'[i]!).v,by rw[Nat.mul_one,Nat.add_zero,List.getElem?_map,hdi'];rfl,(d'[i]!).rep.mono hx.same hx.shrink⟩
 have:=hI.step (hp:=[(0,HO.row e 1 xs)]) (k:=0) (o:=.row e 1 ys) (v:=ν 0) (used':=(·< 1)) (w':=W) hbel (by rw[hν];exact hx) (Nat.lt_succ_self 0)
  (fun b hb=>⟨(hI.blk _ _ _ ho hb).1,Nat.lt_of_lt_of_le (hI.blk _ _ _ ho hb).2 hWs,fun q o' hne hq hbq=>absurd (by
    simp only[lk]at hq;split at hq
    ·rename_i e0;exact e0.symm
    ·cases hq) hne,hI.far _ _ _ ho hb⟩)
  (fun q o' b hne hq hb=>absurd (by
    simp only[lk]at hq;split at hq
    ·rename_i e0;exact e0.symm
    ·cases hq) hne) (by rw[hν];exact hrep)
 rw[hν]at this;exact⟨.tuple #[],ν,1,rfl,this,hx,.tup (cs:=[]) rfl (fun i d v h=>by simp at h)⟩
end
end Go.Eng
namespace Go.Eng
open Go.RowKit
def PR(f:AV→Option (D×List Nat)):List AV→Option (List D×List Nat)
 | []=>some ([],[])
 |a::l=>match f a with
  |some (d,ks)=>match PR f l with
   |some (ds,ks')=>some (d::ds,ks++ks')
   |none=>none
  |none=>none
def PQ(hp:Aa):Nat→AV→Option (D×List Nat)
 |0,a=>Cz (lk hp) a
 |n+1,a=>match a with
  |.ref k off=>if off=0 then
    match lk hp k with
    |some (.var cs)=>match PR (PQ hp n) cs with
     |some (ds,ks)=>if ds.all D.cell=true then some (.ptr ds,k::ks)else none
     |none=>none
    |_=>none
   else none
  |.map k=>match lk hp k with|some _=>some (.any,[k])|none=>none
  |a=>Cz (lk hp) a
section
variable {X:DT} {hp:Aa} {ν:Nat→Value} {used:Nat→Prop} {w:World}
theorem Rj{M':Nat→Prop}{f:AV→Option (D×List Nat)}
 (hf:∀av v x ks,A5 w (Am X.M0 (lk hp) ν) (lk hp) ν used av v→f av=some (x,ks)→(∀k∈ks,∀b,AL (ν k) b→¬M' b)→An w M' x v) :
 ∀(cs:List AV) (vs:List Value) (ds:List D) (ks:List Nat),cs.length=vs.length→(∀(i:Nat) d v,cs[i]? =some d→vs[i]? =some v→A5 w (Am X.M0 (lk hp) ν) (lk hp) ν used d v)→PR f cs=some (ds,ks)→(∀k∈ks,∀b,AL (ν k) b→¬M' b) →
  ds.length=vs.length∧∀(i:Nat) d v,ds[i]? =some d→vs[i]? =some v→An w M' d v
 | [],vs,ds,ks,hl,h,he,hk=>by
   simp only[PR,Option.some.injEq,Prod.mk.injEq]at he;obtain⟨rfl,rfl⟩:=he;exact⟨hl,fun i d v hd=>by simp at hd⟩
 |a::cs,[],ds,ks,hl,h,he,hk=>by simp at hl
 |a::cs,v0::vs,ds,ks,hl,h,he,hk=>by
  simp only[PR]at he;split at he
  ·rename_i d0 k0 h0;split at he
   ·rename_i ds' ks' h1;simp only[Option.some.injEq,Prod.mk.injEq]at he;obtain⟨rfl,rfl⟩:=he;have r0:=hf a v0 d0 k0 (h 0 a v0 rfl rfl) h0 (fun k hk'=>hk k (List.mem_append_left _ hk'));obtain⟨g1,g2⟩:=Rj hf cs vs ds' ks' (by simpa using hl) (fun i d v hd hv=>h (i+1) d v hd hv) h1 (fun k hk'=>hk k (List.mem_append_right _ hk'));refine⟨by simp[g1],fun i d v hd hv=>?_⟩;cases i with
    |zero=>simp at hd hv;subst hd;subst hv;exact r0
    |succ i=>exact g2 i d v (by simpa using hd) (by simpa using hv)
   ·cases he
  ·cases he
theorem Ri(hI:At X (lk hp) ν used w){M':Nat→Prop}(hM':∀b,M' b→Am X.M0 (lk hp) ν b):∀(n:Nat) (av:AV) (v:Value) (x:D) (ks:List Nat),A5 w (Am X.M0 (lk hp) ν) (lk hp) ν used av v→PQ hp n av=some (x,ks)→(∀k∈ks,∀b,AL (ν k) b→¬M' b)→An w M' x v
 |0,av,v,x,ks,h,he,hk=>HK hI hM' av v x ks h he hk
 |n+1,av,v,x,ks,h,he,hk=>by
  simp only[PQ]at he;split at he
  ·rename_i k off;split at he
   ·rename_i h0;subst h0;split at he
    ·rename_i cs ho;split at he
     ·rename_i ds ks' hd;split at he
      ·rename_i hall;simp only[Option.some.injEq,Prod.mk.injEq]at he;obtain⟨rfl,rfl⟩:=he;cases h with
       |ref hu h =>
        obtain⟨cs',b,he,hν,rfl⟩:=h _ ho;cases he;obtain⟨b',cells,e,hv,hg,hl,hc,hr⟩:=hI.obj _ _ ho;rw[hν]at hv;cases hv;have hb:AL (ν k) b:=by rw[hν];exact rfl
        obtain⟨g1,g2⟩:=Rj (fun av v x ks=>Ri hI hM' n av v x ks) cs cells.toList ds ks' (by simp[hl]) (fun i d v hd hv=>hr i d v hd (by simpa using hv)) hd (fun q hq=>hk q (List.mem_cons_of_mem _ hq));refine .ptr (fun j=>cells.toList.getD j undef) (hI.blk _ _ _ ho hb).2 (hk k (by simp) b hb) (fun d hd=>?_) (fun j d hd=>?_) (fun j d hd=>?_)
        ·exact List.all_eq_true.1 hall d hd
        ·have hj:j<cells.toList.length:=by rw[← g1];exact(List.getElem?_eq_some_iff.1 hd).1
         have hj2:cells[j]? =some (cells.toList.getD j undef):=by
          rw[List.getD_eq_getElem?_getD,List.getElem?_eq_getElem hj];simp only[Option.getD_some];rw[← Array.getElem?_toList,List.getElem?_eq_getElem hj]
         rw[Addr.add_lit];simp only[World.cell?,hg,Nat.zero_add];exact hj2
        ·have hj:j<cells.toList.length:=by rw[← g1];exact(List.getElem?_eq_some_iff.1 hd).1
         exact g2 j d _ hd (by rw[List.getD_eq_getElem?_getD,List.getElem?_eq_getElem hj];rfl)
      ·cases he
     ·cases he
    ·cases he
   ·cases he
  ·rename_i k;split at he
   ·simp only[Option.some.injEq,Prod.mk.injEq]at he;obtain⟨rfl,rfl⟩:=he;cases h with
    |map hu h=>exact .any rfl
   ·cases he
  ·exact HK hI hM' _ v x ks h he hk
theorem OH{f:AV→Option (D×List Nat)}(hf:∀av x ks,f av=some (x,ks)→∀k∈ks,∃o,lk hp k=some o):∀(cs:List AV) (ds:List D) (ks:List Nat),PR f cs=some (ds,ks)→∀k∈ks,∃o,lk hp k=some o
 | [],ds,ks,he=>by
   simp only[PR,Option.some.injEq,Prod.mk.injEq]at he;obtain⟨rfl,rfl⟩:=he;intro k hk;cases hk
 |a::cs,ds,ks,he=>by
  simp only[PR]at he;split at he
  ·rename_i d0 k0 h0;split at he
   ·rename_i ds' ks' h1;simp only[Option.some.injEq,Prod.mk.injEq]at he;obtain⟨rfl,rfl⟩:=he;intro k hk;rcases List.mem_append.1 hk with h|h
    ·exact hf _ _ _ h0 k h
    ·exact OH hf cs ds' ks' h1 k h
   ·cases he
  ·cases he
theorem OG:∀(n:Nat) (av:AV) (x:D) (ks:List Nat),PQ hp n av=some (x,ks)→∀k∈ks,∃o,lk hp k=some o
 |0,av,x,ks,he=>Kp _ _ _ he
 |n+1,av,x,ks,he=>by
  simp only[PQ]at he;split at he
  ·split at he
   ·split at he
    ·rename_i cs ho;split at he
     ·rename_i ds ks' hd;split at he
      ·simp only[Option.some.injEq,Prod.mk.injEq]at he;obtain⟨rfl,rfl⟩:=he;intro q hq;rcases List.mem_cons.1 hq with h|h
       ·subst h;exact⟨_,ho⟩
       ·exact OH (OG n) cs ds ks' hd q h
      ·cases he
     ·cases he
    ·cases he
   ·cases he
  ·split at he
   ·rename_i o ho;simp only[Option.some.injEq,Prod.mk.injEq]at he;obtain⟨rfl,rfl⟩:=he;intro q hq;simp only[List.mem_singleton]at hq;subst hq;exact⟨_,ho⟩
   ·cases he
  ·exact Kp _ _ _ he
end
section
variable {P:Program} {S:Sp} {Q:Exit→St→Prop}
theorem FH.frzd{E:BP}{hp:Aa}{c:Nat}{a:Act}{w:World}(h:FH S ⟨E,hp,c⟩ a w)(n m:Nat){av:AV}{d:D}{ks:List Nat}(hl:lk E n=some av)(hd:PQ hp m av=some (d,ks)):FH S ⟨(n,.d d)::E,Bq hp ks,c⟩ a w:=by
 obtain⟨hle,ν,hI,hx⟩:=h;obtain⟨i1,x1⟩:=hI.heap.drops ks;refine⟨hle,ν,⟨i1,fun q av' hm=>?_,hI.size,hI.defers.mono x1.same x1.shrink⟩,hx.trans x1⟩;simp only[lk]at hm;split at hm
 ·rename_i em;subst em;cases hm;exact .d (Ri hI.heap Am.dels_sub m av _ d ks (hI.env n av hl) hd (hI.heap.notMut (OG _ _ _ _ hd)))
 ·exact(hI.env q av' hm).ext x1
theorem Y3{code:Code}{E:BP}{hp hp':Aa}{c:Nat}(n m:Nat){av:AV}{d:D}{ks:List Nat}(hl:lk E n=some av)(hd:PQ hp m av=some (d,ks))(hh:Bq hp ks=hp')(h:WP P S code ⟨(n,.d d)::E,hp',c⟩ Q):WP P S code ⟨E,hp,c⟩ Q :=
 fun a w hr=>h a w (hh▸hr.frzd n m hl hd)
end
end Go.Eng
namespace Go.Eng
open Go.RowKit Go.Shelf Go.Lib Go.Sort
open Go.Proofs (CmpLays1 sortWorld ltOf)
section
variable {P:Program} {ρ:Ren}
theorem RX(L:Go.Proofs.SlLaysF.n6 P ρ){g:FuncId}(eg:∀args w,(callFunc g args).run P w= .ok (.enter g args) w)
 {Good:D→Prop} {cf:D→D→Int} {cap0:D} (hcmp:∀x y,Good x→Good y→A3 P g [x,y,cap0] (.int .i64 (cf x y)))
 (hirr:∀x,Good x→¬cf x x<0) (htr:∀x y z,Good x→Good y→Good z→cf x y<0→cf y z<0→cf x z<0) (hntr:∀x y z,Good x→Good y→Good z→¬cf x y<0→¬cf y z<0→¬cf x z<0)
 (hanti:∀x y,Good x→Good y→¬cf x y<0→¬cf y x<0→x=y) (hagg:∀x,Good x→x.cell=true)
 {e:TypeId} {xs ys:List D} (hg:∀x∈xs,Good x) (h0:0<xs.length) (hmax:xs.length<4611686018427387904) (hperm:ys.Perm xs) (hs:ys.Pairwise (fun a b=>¬cf b a<0)) :
 Ai P (ρ.f 6) [.own 0 xs.length,.fn g [.d cap0]] [(0,.row e 1 xs)] (.tup []) [(0,.row e 1 ys)] 1:=by
 intro X ν w vs hI hl hv
 match vs,hl with
 | [v0,v1],_ =>
 have r0:=hv 0 _ v0 rfl rfl;have r1:=hv 1 _ v1 rfl rfl;have ho:lk [(0,HO.row e 1 xs)] 0=some (.row e 1 xs):=rfl;cases r1 with
 |fn hl1 h1c =>
 obtain⟨vc,rfl⟩:=List.length_eq_one_iff.1 hl1.symm;have rc:=h1c 0 _ vc rfl rfl;cases rc with
 |d rc =>
 cases r0 with
 |own hu h1 hc ha h =>
 obtain⟨_,_,_,he',_,hv0⟩:=h _ ho;cases he';have hv0:=hv0 rfl;clear h ha;obtain⟨vals,hown,hz,hf,hrow⟩:=hI.obj _ _ ho;rcases hown.2 with⟨hn,hn0⟩|⟨blk,cap,cur,hval,hbase,hheap,hnc,hcm,hcs,htake⟩
 ·omega
 have hbk:AL (ν 0) blk:=by rw[hval];exact rfl
 have hblt:=(hI.blk _ _ _ ho hbk).2;have hMb:Am X.M0 (lk [(0,HO.row e 1 xs)]) ν blk:=.inr ⟨0,_,ho,hbk⟩;let α:=fw w (Am X.M0 (lk [(0,HO.row e 1 xs)]) ν) Good
 have hel:∀i,∃a:α,i<xs.length→xs[i]? =some a.d∧vals[i]? =some a.v:=fun i=>by
  have mk:∀i,i<xs.length→∃a:α,xs[i]? =some a.d∧vals[i]? =some a.v:=fun i hi=>by
   have hxi:=List.getElem?_eq_getElem hi;have hgi:=hg _ (List.getElem_mem hi);have hcell:=hagg _ hgi;obtain⟨u,hu1,hu2⟩:=hrow i _ 0 (xs[i]) hxi (by rw[D.comps_one hcell];rfl);exact⟨⟨xs[i],u,hgi,hcell,hu2⟩,hxi,by simpa using hu1⟩
  by_cases hi:i<xs.length
  ·obtain⟨a,ha⟩:=mk i hi;exact⟨a,fun _=>ha⟩
  ·obtain⟨a,ha⟩:=mk 0 h0;exact⟨a,fun h=>absurd h hi⟩
 obtain⟨f,hf'⟩:=Classical.axiomOfChoice hel
 haveI:Inhabited α:=⟨f 0⟩
 let d:Array α:=(Array.range xs.length).map f
 have hds:d.size=xs.length:=by simp[d]
 have hdi:∀i,i<xs.length→d[i]! =f i:=fun i hi=>by
  rw[getElem!_pos d i (by rw[hds];exact hi)];simp[d]
 let enc:α→Value:=fun a=>a.v
 let cf':α→α→Int:=fun a b=>cf a.d b.d
 have hswo:SWO (ltOf cf'):=⟨fun x=>by simp only[ltOf];exact decide_eq_false (hirr _ x.good),fun x y z h1 h2=>by simp only[ltOf,decide_eq_true_eq]at *;exact htr _ _ _ x.good y.good z.good h1 h2,
  fun x y z h1 h2=>by simp only[ltOf,decide_eq_false_iff_not]at *;exact hntr _ _ _ x.good y.good z.good h1 h2⟩
 have hH:Holds enc w blk 0 d:=fun j hj=>by
  have hj':j<xs.length:=by rw[← hds];exact hj
  rw[hdi _ hj'];have hvj:=(hf' _ hj').2;have hjv:j<vals.length:=(List.getElem?_eq_some_iff.1 hvj).1;have hjc:cur[j]? =some (f j).v:=by
   have:(cur.toList.take (xs.length * 1))[j]? =some (f j).v:=by rw[htake];exact hvj
   rw[List.getElem?_take,if_pos (by omega)]at this;simpa using this
  refine⟨?_,?_⟩
  ·have:=JR hheap hjc 0 j (by omega);have e1:(⟨blk,0+j,none⟩:Addr)=(⟨blk,0,none⟩:Addr).add j:=by unfold Addr.add;by_cases h:j=0<;>simp[h]
   rw[e1,this]
  ·simp[World.frozen?,hheap]
 have hlays:CmpLays1 P g #[vc] enc cf' blk 0 d.size w:=fun m os dk hdk x y=>by
  let W:=sortWorld enc w blk 0 m dk os
  have hWs:w.heap.size≤W.heap.size:=by simp[W,sortWorld,grow,putRow,mapBlock,Sort.ahead]
  have hWb:∀b,b<w.heap.size→b≠blk→W.heap[b]? =w.heap[b]? :=fun b hb hne=>by
   simp only[W,sortWorld,grow,putRow,mapBlock];rw[Array.getElem?_append_left (by simpa using hb),Array.getElem?_modify,if_neg (fun e=>hne e.symm)];rfl
  have hSame:Bi (Am X.M0 (lk [(0,HO.row e 1 xs)]) ν) w W:=⟨hWs,fun b hb hM=>hWb b hb (fun e=>hM (e▸hMb))⟩
  have rx:An W (fun b=>b=blk) x.d x.v:=x.rep.mono hSame (fun b _ (hb:b=blk)=>by rw[hb];exact hMb);have rcW:An W (fun b=>b=blk) cap0 vc:=rc.mono hSame (fun b _ (hb:b=blk)=>by rw[hb];exact hMb);have ry:An W (fun b=>b=blk) y.d y.v:=y.rep.mono hSame (fun b _ (hb:b=blk)=>by rw[hb];exact hMb);have hc:=hcmp x.d y.d x.good y.good W (fun b=>b=blk) [x.v,y.v,vc] (X.wd.mono ⟨hI.below.lo.os,hI.below.lo.tape,hI.below.lo.output,Nat.le_trans hI.below.size hWs,fun k hk=>(hWb k (Nat.lt_of_lt_of_le hk hI.below.size) (fun e=>Nat.lt_irrefl k (Nat.lt_of_lt_of_le hk (by rw[e];exact hbase)))).trans (hI.below.lo.block k hk)⟩) (fun b hb=>by rw[hb];exact Nat.lt_of_lt_of_le hblt hWs) rfl (Fc rx (Fc ry (Fc rcW NA)));rcases hc with⟨v,w',hr,_⟩|⟨_,hc⟩
  ·rw[eg]at hr;cases hr
  ·have harr : #[enc x,enc y] ++ #[vc]=[x.v,y.v,vc].toArray:=by simp[enc]
   rw[harr];refine hc.mono ?_;rintro ex w' ⟨v,rfl,hv,hb⟩;cases hv;exact⟨rfl,hb.grows⟩
 have hcon:=Go.Proofs.Any.slices_SortFunc L enc (fun a=>a.rep.oneCell a.cell) cf' hswo g #[vc] blk 0 cap d w eg hlays hH hblt (by rw[hds];exact hmax);rw[hds]at hcon;have e6:∀args w,(callFunc (ρ.f 6) args).run P w= .ok (.enter (ρ.f 6) args) w:=L.f6.enters rfl;refine⟨e6 _ _,?_⟩;have hv0':v0= .slice (some ⟨blk,0,none⟩) xs.length cap:=hv0.trans hval;rw[hv0'];refine hcon.mono ?_;rintro ex w' ⟨rfl,d',n,os,⟨hsz',_,hp'⟩,hso,rfl⟩;rw[hds]at hsz';let W:=sortWorld enc w blk 0 n d' os
 let cur':=putCells enc 0 d' cur
 have hWs:w.heap.size≤W.heap.size:=by simp[W,sortWorld,grow,putRow,mapBlock,Sort.ahead]
 have hWb:∀b,b<w.heap.size→b≠blk→W.heap[b]? =w.heap[b]? :=fun b hb hne=>by
  simp only[W,sortWorld,grow,putRow,mapBlock];rw[Array.getElem?_append_left (by simpa using hb),Array.getElem?_modify,if_neg (fun e=>hne e.symm)];rfl
 have hWc:W.heap[blk]? =some (.cells cur' e (0,0)):=by
  simp only[W,sortWorld,grow,putRow,mapBlock];rw[Array.getElem?_append_left (by simpa using hblt),Array.getElem?_modify,if_pos rfl];show(w.heap[blk]?).map _=_;rw[hheap];rfl
 have hSame:Bi (Am X.M0 (lk [(0,HO.row e 1 xs)]) ν) w W:=⟨hWs,fun b hb hM=>hWb b hb (fun e=>hM (e▸hMb))⟩
 have hdd:d.toList.map (·.d)=xs:=List.ext_getElem? fun i=>by
  by_cases hi:i<xs.length
  ·rw[(hf' i hi).1,List.getElem?_map];have:d.toList[i]? =some (f i):=by
    have h1:i<d.size:=by rw[hds];exact hi
    have h2:=hdi i hi;rw[getElem!_pos d i h1]at h2;simp[Array.getElem?_eq_getElem h1,h2]
   rw[this];rfl
  ·rw[List.getElem?_eq_none (by simp[hds];omega),List.getElem?_eq_none (by omega)]
 have hpl:d'.toList.Perm d.toList:=by
  have e1:d'.extract 0 xs.length=d':=by rw[← hsz'];simp
  have e2:d.extract 0 xs.length=d:=by rw[← hds];simp
  rw[e1,e2]at hp';exact hp'
 have hdlp:(d'.toList.map (·.d)).Perm xs:=by
  have:=hpl.map (·.d)
  rwa [hdd]at this
 have hdls:(d'.toList.map (·.d)).Pairwise (fun a b=>¬cf b a<0):=by
  rw[List.pairwise_map,List.pairwise_iff_getElem];intro i j hi hj hij;have h1:i<d'.size:=by simpa using hi
  have h2:j<d'.size:=by simpa using hj
  have:=hso i j (Nat.zero_le _) hij (by omega);rw[getElem!_pos d' i h1,getElem!_pos d' j h2]at this;simpa[ltOf,cf']using this
 have hysd:ys=d'.toList.map (·.d):=ET (R:=fun a b=>¬cf b a<0) (hperm.trans hdlp.symm) hs hdls (fun a ha b hb h1 h2=>hanti a b (hg a (hperm.mem_iff.1 ha)) (hg b (hperm.mem_iff.1 hb)) h2 h1);have hyl:ys.length=xs.length:=hperm.length_eq;have hput:put [(0,HO.row e 1 xs)] 0 (.row e 1 ys)=[(0,HO.row e 1 ys)]:=rfl;have look:∀q o,lk [(0,HO.row e 1 ys)] q=some o→q=0∧o= .row e 1 ys:=fun q o hq=>by
  simp only[lk]at hq;split at hq
  ·rename_i e0;cases hq;exact⟨e0.symm,rfl⟩
  ·cases hq
 have hx:CT (Am X.M0 (lk [(0,HO.row e 1 xs)]) ν) (lk [(0,HO.row e 1 xs)]) ν (·< 1) w (Am X.M0 (lk [(0,HO.row e 1 ys)]) ν) (lk [(0,HO.row e 1 ys)]) ν (·< 1) W:=by
  refine⟨hSame,fun b _ hM=>?_,fun _ h=>h,fun q _ o' hq=>?_,⟨hWs,fun b hb hM=>hWb b hb (fun e0=>hM (e0▸⟨0,_,ho,hbk⟩))⟩,fun b _ hM=>?_⟩
  ·rcases hM with h|⟨q,o',hq,hbq⟩
   ·exact .inl h
   ·obtain⟨rfl,rfl⟩:=look q o' hq;exact .inr ⟨0,_,ho,hbq⟩
  ·obtain⟨rfl,rfl⟩:=look q o' hq;exact⟨_,ho,⟨rfl,rfl,by omega⟩,fun _=>rfl⟩
  ·obtain⟨q,o',hq,hbq⟩:=hM;obtain⟨rfl,rfl⟩:=look q o' hq;exact⟨0,_,ho,hbq⟩
 have hbel:Bl X.base w W:=⟨⟨rfl,rfl,rfl,hWs,fun b hb=>hWb b (Nat.lt_of_lt_of_le hb hI.below.size) (by omega)⟩,Nat.le_add_right _ _⟩
 have hν:upd ν 0 (ν 0)=ν:=by funext q;by_cases h:q=0<;>simp[upd,h]
 have hrep:Ky X.base W (Am X.M0 (lk [(0,HO.row e 1 ys)]) ν) (lk [(0,HO.row e 1 ys)]) ν (·< 1) (ν 0) (.row e 1 ys):=by
  refine⟨d'.toList.map (·.v),⟨by simp[hsz',hyl],.inr ⟨blk,cap,cur',by rw[hval,hyl],hbase,hWc,by omega,hcm,by simp[cur',putCells];exact Nat.le_trans (by simp) hcs,?_⟩⟩,hz,fun y hy=>hf y (hperm.mem_iff.1 hy),fun i x j dd hx1 hd1=>?_⟩
  ·refine List.ext_getElem? fun i=>?_;rw[List.getElem?_take];by_cases hi:i<ys.length * 1
   ·rw[if_pos hi];have hic:i<cur.size:=by
     rw[hyl]at hi;omega
    have hiF:i<d'.size:=by rw[hsz',← hyl];omega
    simp only[cur',putCells,Array.getElem?_toList,Array.getElem?_mapIdx,Array.getElem?_eq_getElem hic,Option.map_some,Nat.zero_le,true_and,Nat.zero_add,Nat.sub_zero];rw[if_pos hiF,getElem!_pos d' i hiF,List.getElem?_map];simp[hiF,enc]
   ·rw[if_neg hi,List.getElem?_eq_none];simp[hsz'];rw[← hyl];omega
  ·have hil:i<xs.length:=by rw[← hyl];exact(List.getElem?_eq_some_iff.1 hx1).1
   have hid:i<d'.size:=by rw[hsz'];exact hil
   rw[hysd,List.getElem?_map]at hx1;have hdi':d'.toList[i]? =some d'[i]! :=by rw[getElem!_pos d' i hid];simp[hid]
   rw[hdi']at hx1;simp only[Option.map_some,Option.some.injEq]at hx1;subst hx1;rw[D.comps_one (d'[i]!).cell]at hd1;have hj0:j=0:=by have:=(List.getElem?_eq_some_iff.1 hd1).1;simp at this;exact this
   subst hj0;simp only[List.getElem?_cons_zero,Option.some.injEq]at hd1;subst hd1;exact⟨(d'[i]!).v,by rw[Nat.mul_one,Nat.add_zero,List.getElem?_map,hdi'];rfl,(d'[i]!).rep.mono hx.same hx.shrink⟩
 have:=hI.step (hp:=[(0,HO.row e 1 xs)]) (k:=0) (o:=.row e 1 ys) (v:=ν 0) (used':=(·< 1)) (w':=W) hbel (by rw[hν];exact hx) (Nat.lt_succ_self 0)
  (fun b hb=>⟨(hI.blk _ _ _ ho hb).1,Nat.lt_of_lt_of_le (hI.blk _ _ _ ho hb).2 hWs,fun q o' hne hq hbq=>absurd (by
    simp only[lk]at hq;split at hq
    ·rename_i e0;exact e0.symm
    ·cases hq) hne,hI.far _ _ _ ho hb⟩)
  (fun q o' b hne hq hb=>absurd (by
    simp only[lk]at hq;split at hq
    ·rename_i e0;exact e0.symm
    ·cases hq) hne) (by rw[hν];exact hrep)
 rw[hν]at this;exact⟨.tuple #[],ν,1,rfl,this,hx,.tup (cs:=[]) rfl (fun i d v h=>by simp at h)⟩
end
end Go.Eng

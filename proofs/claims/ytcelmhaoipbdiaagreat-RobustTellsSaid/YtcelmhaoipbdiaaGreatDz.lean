/- Parts of the proof, joined: Mut1, End0, Raw1, Raw2, Raw3. -/
import Derived.Test.YtcelmhaoipbdiaaGreatSh
import Derived.Test.YtcelmhaoipbdiaaGreatQV
import Derived.Test.YtcelmhaoipbdiaaGreatVmN
import Derived.Test.YtcelmhaoipbdiaaGreatRows
import Derived.Test.YtcelmhaoipbdiaaGreatDe
import Derived.Test.YtcelmhaoipbdiaaGreatDf
namespace Go.Proofs.YtcelmhaoipbdiaaGreat
set_option linter.all false
open Go.Vm Go.Shelf Go.RowKit Go.Lib
theorem awe{w:World}{b:Nat}{c:Array Value}{e:TypeId}{d:Array Int}(hb:w.heap[b]?=some (.cells c e (0,0))) :
  (Go.Sort.putRow (Value.int .i64) w b 0 d).heap[b]?=some (.cells (Go.Sort.putCells (Value.int .i64) 0 d c) e (0,0)):=by
 simp[Go.Sort.putRow,Go.Sort.mapBlock,EE,hb,Go.Sort.onCells]
theorem awf{w:World}{b i:Nat}{d:Array Int}(h:i≠b):(Go.Sort.putRow (Value.int .i64) w b 0 d).heap[i]?=w.heap[i]?:=by
 simp[Go.Sort.putRow,Go.Sort.mapBlock,EE,Ne.symm h]
theorem Ou{c:Array Value}{d:Array Int}{j:Nat}:(Go.Sort.putCells (Value.int .i64) 0 d c)[j]?=if j<d.size then (c[j]?).map fun _=>.int .i64 d[j]! else c[j]?:=by
 simp only[Go.Sort.putCells,Array.getElem?_mapIdx,xZ,true_and,kz,xY];split
 ·rfl
 ·cases c[j]?<;>rfl
theorem holds_of{w:World}{b:Nat}{c:Array Value}{e:TypeId}{zs:List Int}(hb:w.heap[b]?=some (.cells c e (0,0)))(hc:∀(j:Nat) z,zs[j]?=some z→c[j]?=some (.int .i64 z)) :
  Go.Sort.Holds (Value.int .i64) w b 0 zs.toArray:=by
 intro j hj;have vQ:j<zs.length:=by simpa using hj
 have h1:=hc j zs[j] (g8 vQ);constructor
 ·simp only[World.cell?,hb,kz,h1]
  simp[vQ]
 ·simp[World.frozen?,hb]
theorem aha{w w':World}{b:Nat}{c:Array Value}{e:TypeId}{d:Array Int}{n:Nat}{os:Array Obj}(hb:w.heap[b]?=some (.cells c e (0,0)))(hw:w'=Go.Sort.grow (Go.Sort.putRow (Value.int .i64) (Go.Sort.ahead w n) b 0 d) os) :
  Written w w' b (Go.Sort.putCells (Value.int .i64) 0 d c) e:=by
 subst hw;have bI:b<w.heap.size:=(wJ.1 hb).1;have hs:(Go.Sort.putRow (Value.int .i64) (Go.Sort.ahead w n) b 0 d).heap.size=w.heap.size:=by simp
 refine⟨rfl,rfl,rfl,by simp,fun i hi xE=>?_,?_⟩
 ·rw[Go.Sort.heap_grow_old _ _ (by rw[hs];exact xE),awf hi];rfl
 ·rw[Go.Sort.heap_grow_old _ _ (by rw[hs];exact bI)]
  exact awe (w:=Go.Sort.ahead w n) hb
def kf:Int→List Int→List Int
 |_,[]=>[]
 |p,a::l=>if a=p then kf a l else a::kf a l
theorem VP:∀(x:Int) (l:List Int),dedup (x::l)=x::kf x l
 |_,[]=>rfl
 |x,y::r=>by
  have ih:=VP y r;simp only[dedup,kf];by_cases h:x=y
  ·subst h
   simp[ih]
  ·have h':(x==y)=false:=by simpa using h
   have h2:¬y=x:=fun e=>h e.symm;simp[h',h2,ih]
theorem ahb(a:Int):∀(p:Int) (l:List Int),kf p (l++[a])=kf p l++(if a=l.getLastD p then [] else [a])
 |p,[]=>by simp[kf]
 |p,b::l=>by
  have ih:=ahb a b l;have e:(b::l).getLastD p=l.getLastD b:=by cases l<;>rfl
  rw[e,uu,kf,kf,ih];split<;>simp
theorem ahc{zs:List Int}:∀{m:Nat},m≤zs.length→compactUpTo zs.toArray m=dedup (zs.take m)
 |0,_=>by simp[compactUpTo,dedup]
 |m+1,h=>by
  have ih:=ahc (zs:=zs) (m:=m) (by omega)
  have e:compactUpTo zs.toArray (m+1)=compactUpTo zs.toArray m++(if keeps zs.toArray m then [zs.toArray[m]!] else []):=by
   simp only[compactUpTo,KS,CN,Hn];congr 1;by_cases hk:keeps zs.toArray m=true<;>simp[hk]
  have hm:zs.toArray[m]! = nth zs m:=by simp[nth,h]
  rw[e,ih,hm,WQ,aY h];cases m with
  |zero =>
   rw[aK (keeps_lt_one _ 0 (by omega))]
   simp[dedup]
  |succ m =>
   have wc:zs.toArray[m]! = nth zs m:=by simp[nth,show m<zs.length by omega]
   cases hz:zs with
   |nil=>rw[hz]at h;simp at h
   |cons x r =>
    rw[hz]at h hm wc;simp only[tx]at h;have afN:(r.take m).getLastD x=nth (x::r) m:=by
     rw[List.getLastD_eq_getLast?,List.getLast?_take];cases m with
     |zero=>simp[nth]
     |succ m =>
      have:m<r.length:=by omega
      simp[nth,this]
    simp only[Pu,Option.toList_some];rw[VP,uu,uu,VP,ahb,afN];by_cases hk:nth (x::r) (m+1)=nth (x::r) m
    ·rw[keeps_neg (by omega) (by simp only[sI];rw[hm,wc,hk])]
     simp[hk]
    ·rw[keeps_pos (by simp only[sI];rw[hm,wc];exact hk)]
     simp[hk]
theorem awg(zs:List Int):compactUpTo zs.toArray zs.toArray.size=dedup zs:=by
 have:=ahc (zs:=zs) (m:=zs.length) (bY _)
 rwa [pt]at this
theorem awh:H7 Tryz.prog 0 226 where
 fn:=⟨_,Tryz.func226,by kernel_rfl,by kernel_rfl⟩
 run:=fun w b cap zs c e hb hc h1 h2 h3=>by
  have h3:zs.length≤4294967296:=h3;have bI:b<w.heap.size:=(wJ.1 hb).1;refine(AnyM.slices_Sort_int Tryz.asH b 0 cap zs w (holds_of hb hc) bI (by omega)).mono fun r w' ⟨hr,n,os,hw⟩=>?_
  have hl:=(B2 zs).length_eq;rw[←al4]at hw;refine⟨hr,_,aha hb hw,by simp[Go.Sort.putCells],fun j z hz=>?_,fun j hj=>?_⟩
  ·have IP:(oL zs)[j]?=some z:=hz
   have hj:=fa IP;rw[Ou,aK (by simpa using hj)]
   have BD:j<c.size:=by omega
   simp only[G9 BD,nd];congr 2;rw[g8 hj]at IP;cases IP;simp[hj]
  ·rw[Ou,av (by simp;omega)]
theorem awi:H7 Tryz.prog 1 227 where
 fn:=⟨_,Tryz.func227,by kernel_rfl,by kernel_rfl⟩
 run:=fun w b cap zs c e hb hc h1 h2 h3=>by
  have h3:zs.length≤4294967296:=h3;have bI:b<w.heap.size:=(wJ.1 hb).1;refine(AnyE.slices_Compact Tryz.asJ (Value.int .i64) (fun _=>rfl) (EqlAt.intD _ _ .i64) (NeqAt.intD _ _ .i64) 0 Tryz.zeroValue3 b 0 cap zs.toArray w (holds_of hb hc) (by simp;omega) (by simpa using h1)).mono fun r w' ⟨hr,n,hw⟩=>?_
  rw[awg]at hr hw;have hd:=FQ zs;have uP:w'=Go.Sort.grow (Go.Sort.putRow (Value.int .i64) (Go.Sort.ahead w n) b 0 (vF 1 zs).toArray) #[]:=by
   rw[Go.Sort.grow_empty];exact hw
  refine⟨hr,_,aha hb uP,by simp[Go.Sort.putCells],fun j z hz=>?_,fun j hj=>?_⟩
  ·have hj:=fa hz
   have hl:=RY 1 zs;rw[Ou,aK (by simpa using hj)]
   have BD:j<c.size:=by omega
   simp only[G9 BD,nd];congr 2;rw[g8 hj]at hz;cases hz;simp[hj]
  ·have hl:=RY 1 zs
   rw[Ou,av (by simp;omega)]
theorem awj:RZ Tryz.prog 130 where
 fn:=⟨_,Tryz.func130,by kernel_rfl,by kernel_rfl⟩
 run:=fun w n h0 hl=>by
  obtain⟨k,rfl⟩:=Int.eq_ofNat_of_zero_le h0;have hl:(k:Int)≤4294967296:=hl;have hi:(Tryz.prog.info? 3).map (fun i=>(i.zero,i.size,i.bytes))=some (some (.int .i64 0),1,8):=by kernel_rfl
  obtain⟨i0,hi,he⟩:=EP.1 hi;simp only[Prod.mk.injEq]at he;obtain⟨hz,hs,hb⟩:=he;by_cases hk:k=0
  ·subst hk
   exact(Any8.slices_Grow_room Tryz.aer none 0 0 0 w (by omega) (by omega) (by omega) (by omega)).mono fun r w' h=>.inl h
  ·refine(Any8.slices_Grow_grow Tryz.aer i0 (.int .i64 0) hi hz (by omega) none 0 0 k [] w (by omega) (by omega) (by rw[hb];omega) (by omega) (by simp) (fun _=>rfl) (fun a h=>by cases h)).mono fun r w' h=>?_
   obtain⟨rfl,rfl⟩:=h;exact .inr ⟨_,_,_,rfl,rfl,rfl,rfl,rfl,by
    have:=grownCap_ge w (0+k) 0 (Tryz.aep.t 25);simp[Builtin.zeroCells,Value.cells];omega⟩
theorem awk(f k:Nat)(h:Go.Vm.look f DW.sh=some k):H7 Tryz.prog k f:=by
 simp only[DW,Go.Vm.look]at h;by_cases h0:(130==f)=true
 ·rw[h0]at h
  cases h;have:=eq_of_beq h0;subst this;exact awj
 rw[KE.2 h0]at h;by_cases h1:(226==f)=true
 ·rw[h1]at h
  cases h;have:=eq_of_beq h1;subst this;exact awh
 ·rw[KE.2 h1]at h
  by_cases h2:(227==f)=true
  ·rw[h2]at h
   cases h;have:=eq_of_beq h2;subst this;exact awi
  ·rw[KE.2 h2]at h
   cases h
end Go.Proofs.YtcelmhaoipbdiaaGreat
namespace Go.Proofs.YtcelmhaoipbdiaaGreat
set_option linter.all false
open Go.Vm
open Go.ChangeShapes Go.WideShapes Go.ChangeAt Go.RowKit
theorem Tryz.own:ownKnob Tryz.prog.godebug=none:=by kernel_rfl
theorem Tryz.laidOut:laidOutB Tryz.prog=true:=by kernel_rfl
theorem ahd:qm Tryz.prog DW.pk (aX F):=ak8 (Iv ⟨awk,fun _ h=>h⟩ Tryz.checked.mixed asF)
end Go.Proofs.YtcelmhaoipbdiaaGreat
namespace Go.Proofs.YtcelmhaoipbdiaaGreat
set_option linter.all false
open Go.Vm
open Go.ChangeShapes Go.WideShapes Go.ChangeAt Go.RowKit
end Go.Proofs.YtcelmhaoipbdiaaGreat
namespace Go.Proofs.YtcelmhaoipbdiaaGreat
set_option linter.all false
open Go.Vm
open Go.ChangeShapes Go.WideShapes Go.ChangeAt Go.RowKit
end Go.Proofs.YtcelmhaoipbdiaaGreat
namespace Go.Proofs.YtcelmhaoipbdiaaGreat
set_option linter.all false
open Go.Vm
theorem GY{H:Type}{d:Nat}{vs:List V}{x:DataW H}(h:uT Tryz.prog d 22 vs x):∃l:List Int,vs=[ints l]∧l.length≤17592186044416:=by
 obtain⟨l,h2,_,w2⟩:=RB (e:=3) (fun n:Int=>[i64 n]) (fun _=>True) (by kernel_rfl) (fun d vs x h=>by
  obtain⟨n,e,_⟩:=Mi (k:=.i64) (by kernel_rfl) h.1
  exact⟨n,e,trivial⟩) h
 have c2:Tryz.prog.cellsOf 3=1:=by kernel_rfl
 have b2:Tryz.prog.bytesOf 3=8:=by kernel_rfl
 rw[b2]at w2;unfold reachBytes at w2;rw[c2]at h2;exact⟨l,h2,by omega⟩
end Go.Proofs.YtcelmhaoipbdiaaGreat

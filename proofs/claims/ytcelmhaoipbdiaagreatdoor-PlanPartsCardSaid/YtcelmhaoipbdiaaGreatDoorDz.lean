/- Parts of the proof, joined: Mut1, End0, Kin1. -/
import Derived.Test.YtcelmhaoipbdiaaGreatDoorSh
import Derived.Test.YtcelmhaoipbdiaaGreatDoorQV
import Derived.Test.YtcelmhaoipbdiaaGreatDoorVmN
import Derived.Test.YtcelmhaoipbdiaaGreatDoorRows
import Derived.LaidLaws
import Derived.LaidHandle
import Derived.OpenShut
namespace Go.Proofs.YtcelmhaoipbdiaaGreatDoor
set_option linter.all false
open Go.Vm Go.Shelf Go.RowKit Go.Lib
theorem aqx{w:World}{b:Nat}{c:Array Value}{e:TypeId}{d:Array Int}(hb:w.heap[b]?=some (.cells c e (0,0))) :
  (Go.Sort.putRow (Value.int .i64) w b 0 d).heap[b]?=some (.cells (Go.Sort.putCells (Value.int .i64) 0 d c) e (0,0)):=by
 simp[Go.Sort.putRow,Go.Sort.mapBlock,CD,hb,Go.Sort.onCells]
theorem aqy{w:World}{b i:Nat}{d:Array Int}(h:i≠b):(Go.Sort.putRow (Value.int .i64) w b 0 d).heap[i]?=w.heap[i]?:=by
 simp[Go.Sort.putRow,Go.Sort.mapBlock,CD,Ne.symm h]
theorem L2{c:Array Value}{d:Array Int}{j:Nat}:(Go.Sort.putCells (Value.int .i64) 0 d c)[j]?=if j<d.size then (c[j]?).map fun _=>.int .i64 d[j]! else c[j]?:=by
 simp only[Go.Sort.putCells,Array.getElem?_mapIdx,xu,true_and,jz,wF];split
 ·rfl
 ·cases c[j]?<;>rfl
theorem holds_of{w:World}{b:Nat}{c:Array Value}{e:TypeId}{zs:List Int}(hb:w.heap[b]?=some (.cells c e (0,0)))(hc:∀(j:Nat) z,zs[j]?=some z→c[j]?=some (.int .i64 z)) :
  Go.Sort.Holds (Value.int .i64) w b 0 zs.toArray:=by
 intro j hj;have uk:j<zs.length:=by simpa using hj
 have h1:=hc j zs[j] (gG uk);constructor
 ·simp only[World.cell?,hb,jz,h1]
  simp[uk]
 ·simp[World.frozen?,hb]
theorem ac2{w w':World}{b:Nat}{c:Array Value}{e:TypeId}{d:Array Int}{n:Nat}{os:Array Obj}(hb:w.heap[b]?=some (.cells c e (0,0)))(hw:w'=Go.Sort.grow (Go.Sort.putRow (Value.int .i64) (Go.Sort.ahead w n) b 0 d) os) :
  Written w w' b (Go.Sort.putCells (Value.int .i64) 0 d c) e:=by
 subst hw;have bB:b<w.heap.size:=(wy.1 hb).1;have hs:(Go.Sort.putRow (Value.int .i64) (Go.Sort.ahead w n) b 0 d).heap.size=w.heap.size:=by simp
 refine⟨rfl,rfl,rfl,by simp,fun i hi wc=>?_,?_⟩
 ·rw[Go.Sort.heap_grow_old _ _ (by rw[hs];exact wc),aqy hi];rfl
 ·rw[Go.Sort.heap_grow_old _ _ (by rw[hs];exact bB)]
  exact aqx (w:=Go.Sort.ahead w n) hb
def kf:Int→List Int→List Int
 |_,[]=>[]
 |p,a::l=>if a=p then kf a l else a::kf a l
theorem Sk:∀(x:Int) (l:List Int),dedup (x::l)=x::kf x l
 |_,[]=>rfl
 |x,y::r=>by
  have ih:=Sk y r;simp only[dedup,kf];by_cases h:x=y
  ·subst h
   simp[ih]
  ·have h':(x==y)=false:=by simpa using h
   have h2:¬y=x:=fun e=>h e.symm;simp[h',h2,ih]
theorem ac3(a:Int):∀(p:Int) (l:List Int),kf p (l++[a])=kf p l++(if a=l.getLastD p then [] else [a])
 |p,[]=>by simp[kf]
 |p,b::l=>by
  have ih:=ac3 a b l;have e:(b::l).getLastD p=l.getLastD b:=by cases l<;>rfl
  rw[e,tL,kf,kf,ih];split<;>simp
theorem ac4{zs:List Int}:∀{m:Nat},m≤zs.length→compactUpTo zs.toArray m=dedup (zs.take m)
 |0,_=>by simp[compactUpTo,dedup]
 |m+1,h=>by
  have ih:=ac4 (zs:=zs) (m:=m) (by omega)
  have e:compactUpTo zs.toArray (m+1)=compactUpTo zs.toArray m++(if keeps zs.toArray m then [zs.toArray[m]!] else []):=by
   simp only[compactUpTo,Mq,AS,EU];congr 1;by_cases hk:keeps zs.toArray m=true<;>simp[hk]
  have hm:zs.toArray[m]! = nth zs m:=by simp[nth,h]
  rw[e,ih,hm,SP,bg h];cases m with
  |zero =>
   rw[aP (keeps_lt_one _ 0 (by omega))]
   simp[dedup]
  |succ m =>
   have uF:zs.toArray[m]! = nth zs m:=by simp[nth,show m<zs.length by omega]
   cases hz:zs with
   |nil=>rw[hz]at h;simp at h
   |cons x r =>
    rw[hz]at h hm uF;simp only[wB]at h;have abd:(r.take m).getLastD x=nth (x::r) m:=by
     rw[List.getLastD_eq_getLast?,List.getLast?_take];cases m with
     |zero=>simp[nth]
     |succ m =>
      have:m<r.length:=by omega
      simp[nth,this]
    simp only[Ms,Option.toList_some];rw[Sk,tL,tL,Sk,ac3,abd];by_cases hk:nth (x::r) (m+1)=nth (x::r) m
    ·rw[keeps_neg (by omega) (by simp only[qC];rw[hm,uF,hk])]
     simp[hk]
    ·rw[keeps_pos (by simp only[qC];rw[hm,uF];exact hk)]
     simp[hk]
theorem aqz(zs:List Int):compactUpTo zs.toArray zs.toArray.size=dedup zs:=by
 have:=ac4 (zs:=zs) (m:=zs.length) (bR _)
 rwa [pq]at this
theorem aqA:FP Tryz.prog 0 257 where
 fn:=⟨_,Tryz.func257,by kernel_rfl,by kernel_rfl⟩
 run:=fun w b cap zs c e hb hc h1 h2 h3=>by
  have h3:zs.length≤4294967296:=h3;have bB:b<w.heap.size:=(wy.1 hb).1;refine(AnyM.slices_Sort_int Tryz.alW b 0 cap zs w (holds_of hb hc) bB (by omega)).mono fun r w' ⟨hr,n,os,hw⟩=>?_
  have hl:=(An zs).length_eq;rw[←agS]at hw;refine⟨hr,_,ac2 hb hw,by simp[Go.Sort.putCells],fun j z hz=>?_,fun j hj=>?_⟩
  ·have GH:(nz zs)[j]?=some z:=hz
   have hj:=eJ GH;rw[L2,aP (by simpa using hj)]
   have zV:j<c.size:=by omega
   simp only[EC zV,mT];congr 2;rw[gG hj]at GH;cases GH;simp[hj]
  ·rw[L2,aA (by simp;omega)]
theorem aqB:FP Tryz.prog 1 258 where
 fn:=⟨_,Tryz.func258,by kernel_rfl,by kernel_rfl⟩
 run:=fun w b cap zs c e hb hc h1 h2 h3=>by
  have h3:zs.length≤4294967296:=h3;have bB:b<w.heap.size:=(wy.1 hb).1;refine(AnyE.slices_Compact Tryz.alY (Value.int .i64) (fun _=>rfl) (EqlAt.intD _ _ .i64) (NeqAt.intD _ _ .i64) 0 Tryz.zeroValue3 b 0 cap zs.toArray w (holds_of hb hc) (by simp;omega) (by simpa using h1)).mono fun r w' ⟨hr,n,hw⟩=>?_
  rw[aqz]at hr hw;have hd:=DM zs;have tp:w'=Go.Sort.grow (Go.Sort.putRow (Value.int .i64) (Go.Sort.ahead w n) b 0 (ua 1 zs).toArray) #[]:=by
   rw[Go.Sort.grow_empty];exact hw
  refine⟨hr,_,ac2 hb tp,by simp[Go.Sort.putCells],fun j z hz=>?_,fun j hj=>?_⟩
  ·have hj:=eJ hz
   have hl:=OR 1 zs;rw[L2,aP (by simpa using hj)]
   have zV:j<c.size:=by omega
   simp only[EC zV,mT];congr 2;rw[gG hj]at hz;cases hz;simp[hj]
  ·have hl:=OR 1 zs
   rw[L2,aA (by simp;omega)]
theorem aqC:OS Tryz.prog 199 where
 fn:=⟨_,Tryz.func199,by kernel_rfl,by kernel_rfl⟩
 run:=fun w n h0 hl=>by
  obtain⟨k,rfl⟩:=Int.eq_ofNat_of_zero_le h0;have hl:(k:Int)≤4294967296:=hl;have hi:(Tryz.prog.info? 3).map (fun i=>(i.zero,i.size,i.bytes))=some (some (.int .i64 0),1,8):=by kernel_rfl
  obtain⟨i0,hi,he⟩:=CL.1 hi;simp only[Prod.mk.injEq]at he;obtain⟨hz,hs,hb⟩:=he;by_cases hk:k=0
  ·subst hk
   exact(Any8.slices_Grow_room Tryz.ZP none 0 0 0 w (by omega) (by omega) (by omega) (by omega)).mono fun r w' h=>.inl h
  ·refine(Any8.slices_Grow_grow Tryz.ZP i0 (.int .i64 0) hi hz (by omega) none 0 0 k [] w (by omega) (by omega) (by rw[hb];omega) (by omega) (by simp) (fun _=>rfl) (fun a h=>by cases h)).mono fun r w' h=>?_
   obtain⟨rfl,rfl⟩:=h;exact .inr ⟨_,_,_,rfl,rfl,rfl,rfl,rfl,by
    have:=grownCap_ge w (0+k) 0 (Tryz.ZO.t 25);simp[Builtin.zeroCells,Value.cells];omega⟩
theorem aqD(f k:Nat)(h:Go.Vm.look f As.sh=some k):FP Tryz.prog k f:=by
 simp only[As,Go.Vm.look]at h;by_cases h0:(199==f)=true
 ·rw[h0]at h
  cases h;have:=eq_of_beq h0;subst this;exact aqC
 rw[Ij.2 h0]at h;by_cases h1:(257==f)=true
 ·rw[h1]at h
  cases h;have:=eq_of_beq h1;subst this;exact aqA
 ·rw[Ij.2 h1]at h
  by_cases h2:(258==f)=true
  ·rw[h2]at h
   cases h;have:=eq_of_beq h2;subst this;exact aqB
  ·rw[Ij.2 h2]at h
   cases h
end Go.Proofs.YtcelmhaoipbdiaaGreatDoor
namespace Go.Proofs.YtcelmhaoipbdiaaGreatDoor
set_option linter.all false
open Go.Vm
open Go.ChangeShapes Go.WideShapes Go.ChangeAt Go.RowKit
theorem Tryz.own:ownKnob Tryz.prog.godebug=none:=by kernel_rfl
theorem Tryz.laidOut:laidOutB Tryz.prog=true:=by kernel_rfl
theorem aqE:pN Tryz.prog As.pk (bd F):=af0 (Gf ⟨aqD,fun _ h=>h⟩ Tryz.checked.mixed alU)
end Go.Proofs.YtcelmhaoipbdiaaGreatDoor
namespace Go.Proofs.YtcelmhaoipbdiaaGreatDoor
set_option linter.all false
open Go.Vm
open Go.ChangeShapes Go.WideShapes Go.ChangeAt Go.RowKit
abbrev Sl:List Value:=[.bool false,.bool false,.bool true,.bool false,.bool false,.bool false,.bool false,.bool true,.bool true,.bool true]
abbrev CB:List (String×DataW Unit):=Rows.planPartsRow.laid
theorem Tryz.kin:Tryz.prog.globalNamed "hydrocascade/licence.kinds"=some 0:=by kernel_rfl
theorem Tryz.aqF:(Tryz.prog.globals[0]?).map (·.type)=some 285:=by kernel_rfl
theorem Tryz.aqG:Tryz.prog.underlying 285=some (.array 5 284):=by kernel_rfl
theorem Ih{w:World}{fuel:Nat}{a b:Value}{p q:Bool}{x:DataW Unit×List MemPlace}(h:DataW.trod (fun _=>()) Tryz.prog w 0 (fun _=>true) false fuel 284 [a,b]=some x)(hx:x.1=.agg [.lit (.bool p),.lit (.bool q)]):a=.bool p∧b=.bool q:=by
 obtain⟨y0,y1,n,rfl,_,h0,h1⟩:=trod_struct2 Tryz.underlying284 h;have c1:Tryz.prog.cellsOf 4=1:=by kernel_rfl
 change DataW.trod _ _ _ _ _ _ n 4 (([a,b].drop 0).take (Tryz.prog.cellsOf 4))=_ at h0;change DataW.trod _ _ _ _ _ _ n 4 (([a,b].drop 1).take (Tryz.prog.cellsOf 4))=_ at h1;rw[c1]at h0 h1;obtain⟨b0,e0,rfl⟩:=DataW.trod_bool (P:=Tryz.prog) (by kernel_rfl:Tryz.prog.underlying 4=some .bool) h0
 obtain⟨b1,e1,rfl⟩:=DataW.trod_bool (P:=Tryz.prog) (by kernel_rfl:Tryz.prog.underlying 4=some .bool) h1
 simp at e0 e1 hx;obtain⟨rfl,rfl⟩:=hx;exact⟨e0,e1⟩
theorem aqH{w:World}{fuel:Nat}{cs:List Value}{x:DataW Unit×List MemPlace}(h:DataW.trod (fun _=>()) Tryz.prog w 0 (fun _=>true) false fuel 285 cs=some x)(hx:x.1=Rows.laid_hydrocascade_licence_kinds):cs=Sl:=by
 obtain⟨ys,n,_,rfl,hl,hlen,hf⟩:=DataW.trod_array Tryz.aqG h;have c2:Tryz.prog.cellsOf 284=2:=by kernel_rfl
 have c10:Tryz.prog.cellsOf 285=10:=by kernel_rfl
 rw[c10]at hl;rw[c2]at hf
 match cs,hl with
 |[a0,a1,a2,a3,a4,a5,a6,a7,a8,a9],_ =>
  match ys,hlen with
  |[y0,y1,y2,y3,y4],_ =>
   simp only[Rows.laid_hydrocascade_licence_kinds,nq,EW,DataW.agg.injEq,List.cons.injEq,and_true]at hx;obtain⟨x0,x1,x2,x3,x4⟩:=hx;have g0:=Ih (by simpa using hf 0 (by omega)) x0
   have g1:=Ih (by simpa using hf 1 (by omega)) x1
   have g2:=Ih (by simpa using hf 2 (by omega)) x2
   have g3:=Ih (by simpa using hf 3 (by omega)) x3
   have g4:=Ih (by simpa using hf 4 (by omega)) x4
   simp[g0,g1,g2,g3,g4]
theorem aqJ{W:World}(h:laidMetH Tryz.prog CB W):nW As.pk W.heap (vP W.heap):=by
 have h':laidMet Tryz.prog CB W:=by
  obtain h:laidMet Tryz.prog CB W:=h;exact h
 obtain⟨ps,⟨g,t,cs,fuel,p,q,e1,e2,e3,e4,_,_⟩,_⟩:=h';obtain rfl:0=g:=Option.some.inj (Tryz.kin.symm.trans e1);obtain rfl:285=t:=Option.some.inj (Tryz.aqF.symm.trans e2);have eB:=aqH e4 rfl;have e5:W.var? Tryz.prog "hydrocascade/licence.kinds"=some cs:=e3;unfold World.var? at e5;rw[Tryz.kin]at e5;simp only[E4]at e5;split at e5
 ·rename_i c ty fz hb
  cases e5;intro k row hk;simp only[As,oK,Prod.mk.injEq]at hk;obtain⟨rfl,rfl⟩:=hk;have bB:0<W.heap.size:=(wy.1 hb).1;have ec:vP W.heap 0=10:=by
   unfold vP;rw[hb];have:=congrArg List.length eB;simpa using this
  refine⟨bB,by rw[ec];decide,fun j v hj=>?_⟩
  have hc:cellAt W.heap 0 j=Sl[j]?:=by
   unfold cellAt;rw[hb];simp only;rw[←Ii,eB]
  have axs:j<10:=by
   rcases cF j 10 with g|g
   ·exact g
   ·rw[kF (by simpa using g)]at hj;cases hj
  rw[hc];rcases (by omega:j=0∨j=1∨j=2∨j=3∨j=4∨j=5∨j=6∨j=7∨j=8∨j=9) with rfl|rfl|rfl|rfl|rfl|rfl|rfl|rfl|rfl|rfl <;>
   (simp at hj;subst hj;exact⟨rfl,_,rfl,.bool _⟩)
 ·cases e5
noncomputable def ac6(os:Os):World :=
 let w0:=World.holding Tryz.prog os ⟨#[],#[],[]⟩
 {w0 with heap:=w0.heap.modify 0 fun
   |.cells _ t frozen=>.cells Sl.toArray t frozen
   |o=>o }
theorem aqK(os:Os)(args:Array Value):laidMetH Tryz.prog CB ((ac6 os).forCall (fun _ _=>0) ⟨#[],args,[]⟩).memory :=
 laidMetH_of_parts (laidMet_of_run' 8 (by kernel_rfl) (by kernel_rfl)) (by kernel_rfl)
end Go.Proofs.YtcelmhaoipbdiaaGreatDoor

/- Parts of the proof. -/
import Derived.Test.YtmppfkgfnnebeaaGreatDoorSh
import Derived.Test.YtmppfkgfnnebeaaGreatDoorQV
import Derived.Test.YtmppfkgfnnebeaaGreatDoorVmN
import Derived.Test.YtmppfkgfnnebeaaGreatDoorRows
import Derived.LaidLaws
import Derived.LaidHandle
import Derived.OpenShut
namespace Go.Proofs.YtmppfkgfnnebeaaGreatDoor
set_option linter.all false
open Go.Vm Go.Shelf Go.RowKit Go.Lib
theorem aqM{w:World}{b:Nat}{c:Array Value}{e:TypeId}{d:Array Int}(hb:w.heap[b]?=some (.cells c e (0,0))) :
  (Go.Sort.putRow (Value.int .i64) w b 0 d).heap[b]?=some (.cells (Go.Sort.putCells (Value.int .i64) 0 d c) e (0,0)):=by
 simp[Go.Sort.putRow,Go.Sort.mapBlock,D8,hb,Go.Sort.onCells]
theorem aqN{w:World}{b i:Nat}{d:Array Int}(h:i≠b):(Go.Sort.putRow (Value.int .i64) w b 0 d).heap[i]?=w.heap[i]?:=by
 simp[Go.Sort.putRow,Go.Sort.mapBlock,D8,Ne.symm h]
theorem MD{c:Array Value}{d:Array Int}{j:Nat}:(Go.Sort.putCells (Value.int .i64) 0 d c)[j]?=if j<d.size then (c[j]?).map fun _=>.int .i64 d[j]! else c[j]?:=by
 simp only[Go.Sort.putCells,Array.getElem?_mapIdx,y7,true_and,jV,xY];split
 ·rfl
 ·cases c[j]?<;>rfl
theorem holds_of{w:World}{b:Nat}{c:Array Value}{e:TypeId}{zs:List Int}(hb:w.heap[b]?=some (.cells c e (0,0)))(hc:∀(j:Nat) z,zs[j]?=some z→c[j]?=some (.int .i64 z)) :
  Go.Sort.Holds (Value.int .i64) w b 0 zs.toArray:=by
 intro j hj;have vC:j<zs.length:=by simpa using hj
 have h1:=hc j zs[j] (fN vC);constructor
 ·simp only[World.cell?,hb,jV,h1]
  simp[vC]
 ·simp[World.frozen?,hb]
theorem adv{w w':World}{b:Nat}{c:Array Value}{e:TypeId}{d:Array Int}{n:Nat}{os:Array Obj}(hb:w.heap[b]?=some (.cells c e (0,0)))(hw:w'=Go.Sort.grow (Go.Sort.putRow (Value.int .i64) (Go.Sort.ahead w n) b 0 d) os) :
  Written w w' b (Go.Sort.putCells (Value.int .i64) 0 d c) e:=by
 subst hw;have bE:b<w.heap.size:=(xR.1 hb).1;have hs:(Go.Sort.putRow (Value.int .i64) (Go.Sort.ahead w n) b 0 d).heap.size=w.heap.size:=by simp
 refine⟨rfl,rfl,rfl,by simp,fun i hi xz=>?_,?_⟩
 ·rw[Go.Sort.heap_grow_old _ _ (by rw[hs];exact xz),aqN hi];rfl
 ·rw[Go.Sort.heap_grow_old _ _ (by rw[hs];exact bE)]
  exact aqM (w:=Go.Sort.ahead w n) hb
def kf:Int→List Int→List Int
 |_,[]=>[]
 |p,a::l=>if a=p then kf a l else a::kf a l
theorem SL:∀(x:Int) (l:List Int),dedup (x::l)=x::kf x l
 |_,[]=>rfl
 |x,y::r=>by
  have ih:=SL y r;simp only[dedup,kf];by_cases h:x=y
  ·subst h
   simp[ih]
  ·have h':(x==y)=false:=by simpa using h
   have h2:¬y=x:=fun e=>h e.symm;simp[h',h2,ih]
theorem adw(a:Int):∀(p:Int) (l:List Int),kf p (l++[a])=kf p l++(if a=l.getLastD p then [] else [a])
 |p,[]=>by simp[kf]
 |p,b::l=>by
  have ih:=adw a b l;have e:(b::l).getLastD p=l.getLastD b:=by cases l<;>rfl
  rw[e,ud,kf,kf,ih];split<;>simp
theorem adx{zs:List Int}:∀{m:Nat},m≤zs.length→compactUpTo zs.toArray m=dedup (zs.take m)
 |0,_=>by simp[compactUpTo,dedup]
 |m+1,h=>by
  have ih:=adx (zs:=zs) (m:=m) (by omega)
  have e:compactUpTo zs.toArray (m+1)=compactUpTo zs.toArray m++(if keeps zs.toArray m then [zs.toArray[m]!] else []):=by
   simp only[compactUpTo,AX,uZ,GV];congr 1;by_cases hk:keeps zs.toArray m=true<;>simp[hk]
  have hm:zs.toArray[m]! = nth zs m:=by simp[nth,h]
  rw[e,ih,hm,xX,bf h];cases m with
  |zero =>
   rw[aM (keeps_lt_one _ 0 (by omega))]
   simp[dedup]
  |succ m =>
   have vW:zs.toArray[m]! = nth zs m:=by simp[nth,show m<zs.length by omega]
   cases hz:zs with
   |nil=>rw[hz]at h;simp at h
   |cons x r =>
    rw[hz]at h hm vW;simp only[u4]at h;have ady:(r.take m).getLastD x=nth (x::r) m:=by
     rw[List.getLastD_eq_getLast?,List.getLast?_take];cases m with
     |zero=>simp[nth]
     |succ m =>
      have:m<r.length:=by omega
      simp[nth,this]
    simp only[OH,Option.toList_some];rw[SL,ud,ud,SL,adw,ady];by_cases hk:nth (x::r) (m+1)=nth (x::r) m
    ·rw[keeps_neg (by omega) (by simp only[sa];rw[hm,vW,hk])]
     simp[hk]
    ·rw[keeps_pos (by simp only[sa];rw[hm,vW];exact hk)]
     simp[hk]
theorem aqO(zs:List Int):compactUpTo zs.toArray zs.toArray.size=dedup zs:=by
 have:=adx (zs:=zs) (m:=zs.length) (bV _)
 rwa [na]at this
theorem aqP:JP Tryz.prog 0 256 where
 fn:=⟨_,Tryz.func256,by kernel_rfl,by kernel_rfl⟩
 run:=fun w b cap zs c e hb hc h1 h2 h3=>by
  have h3:zs.length≤4294967296:=h3;have bE:b<w.heap.size:=(xR.1 hb).1;refine(AnyM.slices_Sort_int Tryz.aqJ b 0 cap zs w (holds_of hb hc) bE (by omega)).mono fun r w' ⟨hr,n,os,hw⟩=>?_
  have hl:=(BH zs).length_eq;rw[←alh]at hw;refine⟨hr,_,adv hb hw,by simp[Go.Sort.putCells],fun j z hz=>?_,fun j hj=>?_⟩
  ·have Db:(ox zs)[j]?=some z:=hz
   have hj:=eQ Db;rw[MD,aM (by simpa using hj)]
   have Bk:j<c.size:=by omega
   simp only[GD Bk,nI];congr 2;rw[fN hj]at Db;cases Db;simp[hj]
  ·rw[MD,ay (by simp;omega)]
theorem aqQ:JP Tryz.prog 1 257 where
 fn:=⟨_,Tryz.func257,by kernel_rfl,by kernel_rfl⟩
 run:=fun w b cap zs c e hb hc h1 h2 h3=>by
  have h3:zs.length≤4294967296:=h3;have bE:b<w.heap.size:=(xR.1 hb).1;refine(AnyE.slices_Compact Tryz.aqL (Value.int .i64) (fun _=>rfl) (EqlAt.intD _ _ .i64) (NeqAt.intD _ _ .i64) 0 Tryz.zeroValue3 b 0 cap zs.toArray w (holds_of hb hc) (by simp;omega) (by simpa using h1)).mono fun r w' ⟨hr,n,hw⟩=>?_
  rw[aqO]at hr hw;have hd:=Fo zs;have uC:w'=Go.Sort.grow (Go.Sort.putRow (Value.int .i64) (Go.Sort.ahead w n) b 0 (vn 1 zs).toArray) #[]:=by
   rw[Go.Sort.grow_empty];exact hw
  refine⟨hr,_,adv hb uC,by simp[Go.Sort.putCells],fun j z hz=>?_,fun j hj=>?_⟩
  ·have hj:=eQ hz
   have hl:=Q3 1 zs;rw[MD,aM (by simpa using hj)]
   have Bk:j<c.size:=by omega
   simp only[GD Bk,nI];congr 2;rw[fN hj]at hz;cases hz;simp[hj]
  ·have hl:=Q3 1 zs
   rw[MD,ay (by simp;omega)]
theorem aqR:Q4 Tryz.prog 198 where
 fn:=⟨_,Tryz.func198,by kernel_rfl,by kernel_rfl⟩
 run:=fun w n h0 hl=>by
  obtain⟨k,rfl⟩:=Int.eq_ofNat_of_zero_le h0;have hl:(k:Int)≤4294967296:=hl;have hi:(Tryz.prog.info? 3).map (fun i=>(i.zero,i.size,i.bytes))=some (some (.int .i64 0),1,8):=by kernel_rfl
  obtain⟨i0,hi,he⟩:=En.1 hi;simp only[Prod.mk.injEq]at he;obtain⟨hz,hs,hb⟩:=he;by_cases hk:k=0
  ·subst hk
   exact(Any8.slices_Grow_room Tryz.adu none 0 0 0 w (by omega) (by omega) (by omega) (by omega)).mono fun r w' h=>.inl h
  ·refine(Any8.slices_Grow_grow Tryz.adu i0 (.int .i64 0) hi hz (by omega) none 0 0 k [] w (by omega) (by omega) (by rw[hb];omega) (by omega) (by simp) (fun _=>rfl) (fun a h=>by cases h)).mono fun r w' h=>?_
   obtain⟨rfl,rfl⟩:=h;exact .inr ⟨_,_,_,rfl,rfl,rfl,rfl,rfl,by
    have:=grownCap_ge w (0+k) 0 (Tryz.adt.t 25);simp[Builtin.zeroCells,Value.cells];omega⟩
theorem aqS(f k:Nat)(h:Go.Vm.look f Al.sh=some k):JP Tryz.prog k f:=by
 simp only[Al,Go.Vm.look]at h;by_cases h0:(198==f)=true
 ·rw[h0]at h
  cases h;have:=eq_of_beq h0;subst this;exact aqR
 rw[J7.2 h0]at h;by_cases h1:(256==f)=true
 ·rw[h1]at h
  cases h;have:=eq_of_beq h1;subst this;exact aqP
 ·rw[J7.2 h1]at h
  by_cases h2:(257==f)=true
  ·rw[h2]at h
   cases h;have:=eq_of_beq h2;subst this;exact aqQ
  ·rw[J7.2 h2]at h
   cases h
end Go.Proofs.YtmppfkgfnnebeaaGreatDoor
namespace Go.Proofs.YtmppfkgfnnebeaaGreatDoor
set_option linter.all false
open Go.Vm
open Go.ChangeShapes Go.WideShapes Go.ChangeAt Go.RowKit
theorem Tryz.own:ownKnob Tryz.prog.godebug=none:=by kernel_rfl
theorem Tryz.laidOut:laidOutB Tryz.prog=true:=by kernel_rfl
theorem aqT:qA Tryz.prog Al.pk (aZ F):=akm (Ia ⟨aqS,fun _ h=>h⟩ Tryz.checked.mixed aqH)
end Go.Proofs.YtmppfkgfnnebeaaGreatDoor
namespace Go.Proofs.YtmppfkgfnnebeaaGreatDoor
set_option linter.all false
open Go.Vm
open Go.ChangeShapes Go.WideShapes Go.ChangeAt Go.RowKit
abbrev SM:List Value:=[.bool false,.bool false,.bool true,.bool false,.bool false,.bool false,.bool false,.bool true,.bool true,.bool true]
abbrev Dx:List (String×DataW Unit):=[("hydrocascade/licence.kinds",Rows.laid_hydrocascade_licence_kinds)]
theorem Tryz.kin:Tryz.prog.globalNamed "hydrocascade/licence.kinds"=some 0:=by kernel_rfl
theorem Tryz.aqU:(Tryz.prog.globals[0]?).map (·.type)=some 284:=by kernel_rfl
theorem Tryz.aqV:Tryz.prog.underlying 284=some (.array 5 283):=by kernel_rfl
theorem I3{w:World}{fuel:Nat}{a b:Value}{p q:Bool}{x:DataW Unit×List MemPlace}(h:DataW.trod (fun _=>()) Tryz.prog w 0 (fun _=>true) false fuel 283 [a,b]=some x)(hx:x.1=.agg [.lit (.bool p),.lit (.bool q)]):a=.bool p∧b=.bool q:=by
 obtain⟨y0,y1,n,rfl,_,h0,h1⟩:=trod_struct2 Tryz.underlying283 h;have c1:Tryz.prog.cellsOf 4=1:=by kernel_rfl
 change DataW.trod _ _ _ _ _ _ n 4 (([a,b].drop 0).take (Tryz.prog.cellsOf 4))=_ at h0;change DataW.trod _ _ _ _ _ _ n 4 (([a,b].drop 1).take (Tryz.prog.cellsOf 4))=_ at h1;rw[c1]at h0 h1;obtain⟨b0,e0,rfl⟩:=DataW.trod_bool (P:=Tryz.prog) (by kernel_rfl:Tryz.prog.underlying 4=some .bool) h0
 obtain⟨b1,e1,rfl⟩:=DataW.trod_bool (P:=Tryz.prog) (by kernel_rfl:Tryz.prog.underlying 4=some .bool) h1
 simp at e0 e1 hx;obtain⟨rfl,rfl⟩:=hx;exact⟨e0,e1⟩
theorem aqW{w:World}{fuel:Nat}{cs:List Value}{x:DataW Unit×List MemPlace}(h:DataW.trod (fun _=>()) Tryz.prog w 0 (fun _=>true) false fuel 284 cs=some x)(hx:x.1=Rows.laid_hydrocascade_licence_kinds):cs=SM:=by
 obtain⟨ys,n,_,rfl,hl,hlen,hf⟩:=DataW.trod_array Tryz.aqV h;have c2:Tryz.prog.cellsOf 283=2:=by kernel_rfl
 have c10:Tryz.prog.cellsOf 284=10:=by kernel_rfl
 rw[c10]at hl;rw[c2]at hf
 match cs,hl with
 |[a0,a1,a2,a3,a4,a5,a6,a7,a8,a9],_ =>
  match ys,hlen with
  |[y0,y1,y2,y3,y4],_ =>
   simp only[Rows.laid_hydrocascade_licence_kinds,oq,GW,DataW.agg.injEq,List.cons.injEq,and_true]at hx;obtain⟨x0,x1,x2,x3,x4⟩:=hx;have g0:=I3 (by simpa using hf 0 (by omega)) x0
   have g1:=I3 (by simpa using hf 1 (by omega)) x1
   have g2:=I3 (by simpa using hf 2 (by omega)) x2
   have g3:=I3 (by simpa using hf 3 (by omega)) x3
   have g4:=I3 (by simpa using hf 4 (by omega)) x4
   simp[g0,g1,g2,g3,g4]
theorem aqY{W:World}(h:laidMetH Tryz.prog Dx W):oU Al.pk W.heap (xl W.heap):=by
 have h':laidMet Tryz.prog Dx W:=by
  obtain h:laidMet Tryz.prog Dx W:=h;exact h
 obtain⟨ps,⟨g,t,cs,fuel,p,q,e1,e2,e3,e4,_,_⟩,_⟩:=h';obtain rfl:0=g:=Option.some.inj (Tryz.kin.symm.trans e1);obtain rfl:284=t:=Option.some.inj (Tryz.aqU.symm.trans e2);have ew:=aqW e4 rfl;have e5:W.var? Tryz.prog "hydrocascade/licence.kinds"=some cs:=e3;unfold World.var? at e5;rw[Tryz.kin]at e5;simp only[G7]at e5;split at e5
 ·rename_i c ty fz hb
  cases e5;intro k row hk;simp only[Al,ou,Prod.mk.injEq]at hk;obtain⟨rfl,rfl⟩:=hk;have bE:0<W.heap.size:=(xR.1 hb).1;have eg:xl W.heap 0=10:=by
   unfold xl;rw[hb];have:=congrArg List.length ew;simpa using this
  refine⟨bE,by rw[eg];decide,fun j v hj=>?_⟩
  have hc:cellAt W.heap 0 j=SM[j]?:=by
   unfold cellAt;rw[hb];simp only;rw[←J6,ew]
  have aBU:j<10:=by
   rcases cF j 10 with g|g
   ·exact g
   ·rw[jT (by simpa using g)]at hj;cases hj
  rw[hc];rcases (by omega:j=0∨j=1∨j=2∨j=3∨j=4∨j=5∨j=6∨j=7∨j=8∨j=9) with rfl|rfl|rfl|rfl|rfl|rfl|rfl|rfl|rfl|rfl <;>
   (simp at hj;subst hj;exact⟨rfl,_,rfl,.bool _⟩)
 ·cases e5
noncomputable def adA(os:Os):World :=
 let w0:=World.holding Tryz.prog os ⟨#[],#[],[]⟩
 {w0 with heap:=w0.heap.modify 0 fun
   |.cells _ t frozen=>.cells SM.toArray t frozen
   |o=>o }
theorem aqZ(os:Os)(args:Array Value):laidMetH Tryz.prog Dx ((adA os).forCall (fun _ _=>0) ⟨#[],args,[]⟩).memory :=
 laidMetH_of_parts (laidMet_of_run' 8 (by kernel_rfl) (by kernel_rfl)) (by kernel_rfl)
end Go.Proofs.YtmppfkgfnnebeaaGreatDoor
namespace Go.Proofs.YtmppfkgfnnebeaaGreatDoor
set_option linter.all false
open Go.Vm
attribute [local simp] lZ l7 lX lY
def FF(n m:Int):Int:=(IntKind.i64.wrap (n.tmod m+m)).tmod m
theorem aq0{n m:Int}(hm:m≠0)(G:List aS):aZ F 20 [i64 n,i64 m] G=some (i64 (FF n m),G) :=
 bM rfl rfl (by simp[ZO,hm,FF])
abbrev ints(l:List Int):V:=.slice none 1 (l.map fun n=>[i64 n])
abbrev dk(l:List Int)(k:Nat):aS:=.cells [ints l,i64 k]
theorem aq1{n:Int}{l:List Int}{k:Nat}(h:n<1∨l.length≤k):aZ F 10 [.bm 0 0,i64 n] [dk l k]=some (i64 0,[dk l k]) :=
 bM rfl rfl (by
  by_cases h1:n<1
  ·simp[L6,h1]
  ·have h2:l.length≤k:=h.resolve_left h1
   simp[L6,h1,h2])
theorem aq2{n:Int}{l:List Int}{k:Nat}{v:Int}(h1:1≤n)(h2:l[k]?=some v)(hk:k<9223372036854775807):aZ F 10 [.bm 0 0,i64 n] [dk l k]=some (i64 (FF v n),[dk l (k+1)]) :=
 bM rfl rfl (by
  have hn:¬ n<1:=by omega
  have hl:¬ l.length≤k:=by have:=(wE.1 h2).1;omega
  simp (disch:=omega) [-getElem?_pos,wrap64,L6,hn,hl,h2,aq0])
theorem aq3{v n:Int}(h1:1≤n)(h2:n≤4611686018427387904):0≤FF v n∧FF v n<n:=by
 have h3:-n<v.tmod n:=by
  rcases Int.le_total 0 v with h|h
  ·have:=Kh n h;omega
  ·have h4:=Kg (-v) (show 0<n by omega)
   rw[Int.neg_tmod]at h4;omega
 have h4:v.tmod n<n:=Kg _ (by omega)
 unfold FF;rw[wrap64 (by omega) (by omega)]
 exact⟨Kh _ (by omega),Kg _ (by omega)⟩
def c9(l:List Int)(k:Nat):Prop:=k≤l.length∧l.length≤9223372036854775807
theorem fk{l:List Int}{k:Nat}(hd:c9 l k)(n:Int)(hn:n≤4611686018427387904) :
  ∃v k',aZ F 10 [.bm 0 0,i64 n] [dk l k]=some (i64 v,[dk l k'])∧c9 l k'∧0≤v∧(v<n∨v=0):=by
 by_cases h:n<1∨l.length≤k
 ·exact⟨0,k,aq1 h,hd,by omega,.inr rfl⟩
 ·obtain⟨h1,h2⟩:=hd
  have h3:k<l.length:=by omega
  have h4:=aq2 (n:=n) (l:=l) (k:=k) (v:=nth l k) (by omega) (ei h3) (by omega)
  have h5:=aq3 (v:=nth l k) (n:=n) (by omega) hn
  exact⟨_,_,h4,⟨by omega,h2⟩,h5.1,.inl h5.2⟩
theorem SN(l:List Int)(G:List aS):aZ F 7 [ints l] G=some (.bool (decide (l.length≤500)),G) :=
 bM rfl rfl (by simp[ZC];omega)
theorem adB(l:List Int):aZ F 8 [ints l] []=some (.bm 0 0,[dk l 0]) :=
 bM rfl rfl (by simp[ZD])
def dH(f:Nat→Int):Nat→Nat→Int
 |0,_=>0
 |m+1,i=>if f i=0 then dH f m (i+1) else f i
theorem kZ{f:Nat→Int}{i n:Nat}(h:i<n):dH f (n-i) i=if f i=0 then dH f (n-(i+1)) (i+1) else f i:=by
 obtain⟨m,hm⟩:∃m,n-i=m+1:=⟨n-i-1,by omega⟩
 rw[hm,dH,show n-(i+1)=m by omega]
theorem sK{f:Nat→Int}:∀{m i:Nat},dH f m i=0→∀j,i≤j→j<i+m→f j=0
 |0,i,_,j,h1,h2=>by omega
 |m+1,i,h,j,h1,h2=>by
  unfold dH at h;split at h
  ·rename_i h0
   by_cases hj:j=i
   ·rw[hj];exact h0
   ·exact sK h j (by omega) (by omega)
  ·rename_i h0;exact absurd h h0
theorem sL{f:Nat→Int}:∀{m i:Nat},(∀j,i≤j→j<i+m→f j=0)→dH f m i=0
 |0,i,_=>rfl
 |m+1,i,h=>by
  unfold dH;rw[aM (h i (by omega) (by omega))]
  exact sL fun j h1 h2=>h j (by omega) (by omega)
theorem mO{f:Nat→Int}{n:Nat}:dH f (n-n) n=0:=by rw[sb];rfl
theorem dJ(n m:Int)(G:List aS):aZ F 169 [i64 n,i64 m] G=some (.bool (decide (0≤n)&&decide (n≤m)),G) :=
 bM rfl rfl (by simp +contextual [wrap64,abX])
theorem aq4(n m:Int)(G:List aS):aZ F 96 [i64 n,i64 m] G=some (.bool (decide (0≤n)&&decide (n≤m)),G) :=
 bM rfl rfl (by simp +contextual [wrap64,aaF])
theorem c7(n m:Int)(G:List aS):aZ F 53 [i64 n,i64 m] G=some (.bool (decide (0≤n)&&decide (n≤m)),G) :=
 bM rfl rfl (by simp[wrap64,Z8,aq4])
structure Pt where
 x:Int
 y:Int
 deriving Inhabited,DecidableEq
abbrev Pt.row(p:Pt):List V:=[i64 p.x,i64 p.y]
abbrev iM(c:List Pt):V:=.slice none 2 (c.map Pt.row)
def ic(c:List Pt)(i:Nat):Int :=
 if ¬((0≤(nth c i).x∧(nth c i).x≤1073741824)∧0≤(nth c i).y∧(nth c i).y≤274877906944) then 1
 else if i=0 then 0
 else if (nth c i).x≤(nth c (i-1)).x∨(nth c i).y<(nth c (i-1)).y then 4
 else if (4611686018427387904:Int).tdiv ((nth c i).x-(nth c (i-1)).x)<(nth c i).y-(nth c (i-1)).y then 1 else 0
def gB(c:List Pt):Int:=if c.length=0 then 3 else if 100<c.length then 10 else dH (ic c) c.length 0
theorem MF{c:List Pt}{i:Nat}(h:ic c i=0):(0≤(nth c i).x∧(nth c i).x≤1073741824)∧0≤(nth c i).y∧(nth c i).y≤274877906944:=by
 unfold ic at h;split at h
 ·cases h
 ·rename_i h1;exact g7 h1
theorem SO{c:List Pt}{i:Nat}(h:ic c i=0)(hi:0<i):(nth c (i-1)).x<(nth c i).x∧(nth c (i-1)).y≤(nth c i).y ∧
  (nth c i).y-(nth c (i-1)).y≤(4611686018427387904:Int).tdiv ((nth c i).x-(nth c (i-1)).x):=by
 unfold ic at h;split at h
 ·cases h
 ·rw[ay (by omega)]at h
  split at h
  ·cases h
  ·split at h
   ·cases h
   ·omega
theorem aq5(a b:Int)(h:0<a)(G:List aS):aZ F 209 [i64 a,i64 b] G=some (.bool (decide ((4611686018427387904:Int).tdiv a<b)),G) :=
 bM rfl rfl (by
  have h1:0≤(4611686018427387904:Int).tdiv a:=xU (by omega) (by omega)
  have h2:(4611686018427387904:Int).tdiv a≤4611686018427387904:=by
   have:=Ci (a:=4611686018427387904) a (by omega)
   omega
  have h3:a≠0:=by omega
  simp (disch:=omega) [wrap64,acC,h,h3])
theorem oG(c:List Pt)(G:List aS):aZ F 185 [iM c] G=some (i64 (gB c),G) :=
 bM rfl rfl (by
  generalize hW:gB c=W;unfold gB at hW;simp +contextual (disch:=omega) [-getElem?_pos,-Int.natCast_eq_zero,wrap64,aca];refine gY (fun h=>?_) (fun h=>bT (fun h'=>?_) (fun h'=>?_))
  ·simp[-List.length_eq_zero_iff,-Int.natCast_eq_zero]at h
   rw[aM (by omega)]at hW
   exact hW
  ·simp[-List.length_eq_zero_iff,-Int.natCast_eq_zero]at h
   rw[ay (by omega),aM (by omega)]at hW
   simpa using hW
  ·have hq:dH (ic c) (c.length-0) 0=W:=by
    simp[-List.length_eq_zero_iff,-Int.natCast_eq_zero]at h;rw[ay (by omega),ay (by omega)]at hW
    exact hW
   refine go_loop (fun i:Nat=>aph (iM c) (iM c) c.length i G) (fun i=>i≤c.length∧dH (ic c) (c.length-i) i=W∧∀j,j<i→ic c j=0) (fun i=>c.length-i) 0 rfl (by simp) ⟨by omega,hq,by omega⟩ ?_
   rintro i ⟨hi,hq,hz⟩;simp +contextual (disch:=omega) [-getElem?_pos,-Int.natCast_eq_zero,wrap64,ab9];refine bT (fun h1=>?_) (fun h1=>?_)
   ·have h1:i<c.length:=by omega
    rw[kZ h1]at hq;have e:=bf h1;simp +contextual (disch:=omega) [-getElem?_pos,-Int.natCast_eq_zero,wrap64,bf (l:=c),dJ];refine gY (fun h2=>?_) (fun h2=>?_)
    ·simp +contextual (disch:=omega) [-getElem?_pos,-Int.natCast_eq_zero,wrap64,h2,dJ]
     simp[-List.length_eq_zero_iff,-Int.natCast_eq_zero]at h2;rw[show ic c i=1 by rw[ic,aM (by omega)],ay (by decide)]at hq
     exact hq
    ·simp +contextual (disch:=omega) [-getElem?_pos,-Int.natCast_eq_zero,wrap64,h2,dJ]
     simp[-List.length_eq_zero_iff,-Int.natCast_eq_zero]at h2;refine gY (fun h3=>?_) (fun h3=>bT (fun h4=>?_) (fun h4=>?_))
     ·simp[-List.length_eq_zero_iff,-Int.natCast_eq_zero]at h3
      rw[show ic c i=1 by rw[ic,aM (by omega)],ay (by decide)]at hq
      exact hq
     ·simp[-List.length_eq_zero_iff,-Int.natCast_eq_zero]at h3
      have h0:ic c i=0:=by rw[ic,ay (by omega),aM (by omega)]
      rw[h0,aM rfl]at hq;exact bP (i+1) (by simp) ⟨by omega,hq,fun j hj=>by rcases cF j i with h|h;exact hz j h;rwa [show j=i by omega]⟩ (by omega)
     ·simp[-List.length_eq_zero_iff,-Int.natCast_eq_zero]at h3
      have h5:((i:Int)-1).toNat=i-1:=by omega
      have h6:i-1<c.length:=by omega
      have h7:0≤(i:Int)-1:=by omega
      have h8:=MF (hz (i-1) (by omega))
      simp +contextual (disch:=omega) [-getElem?_pos,-Int.natCast_eq_zero,wrap64,bf (l:=c),h5,h7];refine gY (fun h9=>?_) (fun h9=>?_)
      ·simp[-List.length_eq_zero_iff,-Int.natCast_eq_zero]at h9
       rw[show ic c i=4 by rw[ic,ay (by omega),ay (by omega),aM (by omega)],ay (by decide)]at hq
       exact hq
      ·simp[-List.length_eq_zero_iff,-Int.natCast_eq_zero]at h9
       simp +contextual (disch:=omega) [-getElem?_pos,-Int.natCast_eq_zero,wrap64,aq5];refine bT (fun gx=>?_) (fun gx=>?_)
       ·rw[show ic c i=1 by rw[ic,ay (by omega),ay (by omega),ay (by omega),aM (by omega)],ay (by decide)]at hq
        exact hq
       ·have h0:ic c i=0:=by rw[ic,ay (by omega),ay (by omega),ay (by omega),ay (by omega)]
        rw[h0,aM rfl]at hq;exact bP (i+1) (by simp) ⟨by omega,hq,fun j hj=>by rcases cF j i with h|h;exact hz j h;rwa [show j=i by omega]⟩ (by omega)
   ·obtain rfl:i=c.length:=by omega
    rw[mO]at hq;simp[←hq])
theorem mz(c:List Pt)(G:List aS):aZ F 136 [iM c] G=some (i64 (gB c),G) :=
 bM rfl rfl (by
  generalize hW:gB c=W;unfold gB at hW;simp +contextual (disch:=omega) [-getElem?_pos,-Int.natCast_eq_zero,wrap64,abl];refine gY (fun h=>?_) (fun h=>bT (fun h'=>?_) (fun h'=>?_))
  ·simp[-List.length_eq_zero_iff,-Int.natCast_eq_zero]at h
   rw[aM (by omega)]at hW
   exact hW
  ·simp[-List.length_eq_zero_iff,-Int.natCast_eq_zero]at h
   rw[ay (by omega),aM (by omega)]at hW
   simpa using hW
  ·have hq:dH (ic c) (c.length-0) 0=W:=by
    simp[-List.length_eq_zero_iff,-Int.natCast_eq_zero]at h;rw[ay (by omega),ay (by omega)]at hW
    exact hW
   refine go_loop (fun i:Nat=>aot (iM c) (iM c) c.length i G) (fun i=>i≤c.length∧dH (ic c) (c.length-i) i=W∧∀j,j<i→ic c j=0) (fun i=>c.length-i) 0 rfl (by simp) ⟨by omega,hq,by omega⟩ ?_
   rintro i ⟨hi,hq,hz⟩;simp +contextual (disch:=omega) [-getElem?_pos,-Int.natCast_eq_zero,wrap64,abk];refine bT (fun h1=>?_) (fun h1=>?_)
   ·have h1:i<c.length:=by omega
    rw[kZ h1]at hq;have e:=bf h1;simp +contextual (disch:=omega) [-getElem?_pos,-Int.natCast_eq_zero,wrap64,bf (l:=c),c7];refine gY (fun h2=>?_) (fun h2=>?_)
    ·simp +contextual (disch:=omega) [-getElem?_pos,-Int.natCast_eq_zero,wrap64,h2,c7]
     simp[-List.length_eq_zero_iff,-Int.natCast_eq_zero]at h2;rw[show ic c i=1 by rw[ic,aM (by omega)],ay (by decide)]at hq
     exact hq
    ·simp +contextual (disch:=omega) [-getElem?_pos,-Int.natCast_eq_zero,wrap64,h2,c7]
     simp[-List.length_eq_zero_iff,-Int.natCast_eq_zero]at h2;refine gY (fun h3=>?_) (fun h3=>bT (fun h4=>?_) (fun h4=>?_))
     ·simp[-List.length_eq_zero_iff,-Int.natCast_eq_zero]at h3
      rw[show ic c i=1 by rw[ic,aM (by omega)],ay (by decide)]at hq
      exact hq
     ·simp[-List.length_eq_zero_iff,-Int.natCast_eq_zero]at h3
      have h0:ic c i=0:=by rw[ic,ay (by omega),aM (by omega)]
      rw[h0,aM rfl]at hq;exact bP (i+1) (by simp) ⟨by omega,hq,fun j hj=>by rcases cF j i with h|h;exact hz j h;rwa [show j=i by omega]⟩ (by omega)
     ·simp[-List.length_eq_zero_iff,-Int.natCast_eq_zero]at h3
      have h5:((i:Int)-1).toNat=i-1:=by omega
      have h6:i-1<c.length:=by omega
      have h7:0≤(i:Int)-1:=by omega
      have h8:=MF (hz (i-1) (by omega))
      simp +contextual (disch:=omega) [-getElem?_pos,-Int.natCast_eq_zero,wrap64,bf (l:=c),h5,h7];refine gY (fun h9=>?_) (fun h9=>?_)
      ·simp[-List.length_eq_zero_iff,-Int.natCast_eq_zero]at h9
       rw[show ic c i=4 by rw[ic,ay (by omega),ay (by omega),aM (by omega)],ay (by decide)]at hq
       exact hq
      ·simp[-List.length_eq_zero_iff,-Int.natCast_eq_zero]at h9
       have lu:(nth c i).x-(nth c (i-1)).x≠0:=by omega
       have uw:(4611686018427387904:Int).tdiv ((nth c i).x-(nth c (i-1)).x)≤4611686018427387904:=by
        have:=Ci (a:=4611686018427387904) ((nth c i).x-(nth c (i-1)).x) (by omega)
        omega
       have h13:0≤(4611686018427387904:Int).tdiv ((nth c i).x-(nth c (i-1)).x):=xU (by omega) (by omega)
       simp +contextual (disch:=omega) [-getElem?_pos,-Int.natCast_eq_zero,wrap64,lu];refine bT (fun gx=>?_) (fun gx=>?_)
       ·rw[show ic c i=1 by rw[ic,ay (by omega),ay (by omega),ay (by omega),aM (by omega)],ay (by decide)]at hq
        exact hq
       ·have h0:ic c i=0:=by rw[ic,ay (by omega),ay (by omega),ay (by omega),ay (by omega)]
        rw[h0,aM rfl]at hq;exact bP (i+1) (by simp) ⟨by omega,hq,fun j hj=>by rcases cF j i with h|h;exact hz j h;rwa [show j=i by omega]⟩ (by omega)
   ·obtain rfl:i=c.length:=by omega
    rw[mO]at hq;simp[←hq])
def gZ(n m:Int):Bool:=decide (0≤n)&&decide (n≤m)
theorem Dz{n m:Int}:gZ n m=true↔0≤n∧n≤m:=by simp[gZ]
theorem DA(n m:Int)(G:List aS):aZ F 169 [i64 n,i64 m] G=some (.bool (gZ n m),G):=dJ n m G
structure Cd where
 rk:Int
 kd:Int
 v:Int
 f:Int
 t:Int
 a:Int
 b:Int
abbrev Cd.row(c:Cd):List V:=[i64 c.rk,i64 c.kd,i64 c.v,i64 c.f,i64 c.t,i64 c.a,i64 c.b]
abbrev g5(l:List Cd):V:=.slice none 7 (l.map Cd.row)
instance:Inhabited Cd:=⟨⟨0,0,0,0,0,0,0⟩⟩
theorem MG(d:Int)(G:List aS):aZ F 186 [i64 d] G=some (.bool (gZ d 364),G) :=
 bM rfl rfl (by simp[wrap64,acb,DA])
theorem adD(f t:Int)(G:List aS):aZ F 170 [.agg [i64 f,i64 t]] G=some (.bool (gZ f 364&&gZ t 364),G) :=
 bM rfl rfl (by
  have h1:=MG f;have h2:=MG t;cases e1:gZ f 364<;>rw[e1]at h1
  ·simp[wrap64,Sc,h1]
  ·simp[wrap64,Sc,h1,h2])
def I5(f t d:Int):Bool:=if (gZ f 364&&gZ t 364&&gZ d 364)=true then (if f≤t then decide (f≤d)&&decide (d≤t) else decide (f≤d) || decide (d≤t)) else false
theorem aq6(f t d:Int)(G:List aS):aZ F 213 [.agg [i64 f,i64 t],i64 d] G=some (.bool (I5 f t d),G) :=
 bM rfl rfl (by
  generalize hW:I5 f t d=W;unfold I5 at hW;have h1:=adD f t;have h2:=MG d;cases e1:(gZ f 364&&gZ t 364)<;>rw[e1]at h1 hW
  ·rw[ay (by simp)]at hW
   simp[wrap64,Dt,h1];exact hW.symm
  cases e2:gZ d 364<;>rw[e2]at h2 hW
  ·rw[ay (by simp)]at hW
   simp[wrap64,Dt,h1,h2];exact hW.symm
  rw[aM (by simp)]at hW
  by_cases h3:f≤t
  ·rw[aM h3]at hW
   by_cases h4:f≤d
   ·simp[wrap64,Dt,h1,h2,h3,h4]
    simpa [h4] using hW
   ·simp[wrap64,Dt,h1,h2,h3,h4]
    simpa [h4] using hW
  ·rw[ay h3]at hW
   by_cases h4:f≤d
   ·simp[wrap64,Dt,h1,h2,h3,h4]
    simpa [h4] using hW
   ·simp[wrap64,Dt,h1,h2,h3,h4]
    simpa [h4] using hW)
theorem aq7(t:Int)(G:List aS):aZ F 122 [i64 t] G=some (.tuple (if gZ t 16777216=true then [i64 ((t.tdiv 96).tmod 365),i64 0] else [i64 0,i64 6]),G) :=
 bM rfl rfl (by
  have h1:∀G,aZ F 161 [i64 t] G=some (.tuple (if gZ t 16777216=true then [i64 (t.tdiv 35040),i64 ((t.tdiv 96).tmod 365),i64 (t.tmod 96),i64 0] else [i64 0,i64 0,i64 0,i64 6]),G):=fun G=>bM rfl rfl (by
   have h2:=DA t 16777216;cases e:gZ t 16777216<;>rw[e]at h2
   ·simp (disch:=omega) [wrap64,R8,h2]
   ·have h3:=Dz.1 e
    have q1:0≤t.tdiv 35040∧t.tdiv 35040≤16777216:=by rw[xT h3.1];omega
    have q2:0≤t.tdiv 96∧t.tdiv 96≤16777216:=by rw[xT h3.1];omega
    simp (disch:=omega) [wrap64,R8,h2])
  cases e:gZ t 16777216<;>rw[e]at h1
  ·simp (disch:=omega) [wrap64,RW,h1]
  ·simp (disch:=omega) [wrap64,RW,h1])
def rA(c:Cd):Int :=
 if c.rk<1∨9<c.rk then 1 else if c.kd<1∨4<c.kd then 5
 else if (gZ c.v 1073741824&&(gZ c.f 364&&gZ c.t 364)&&gZ c.a 16777216&&gZ c.b 16777216&&decide (c.a≤c.b))=true then 0 else 1
theorem adE(n:Int)(G:List aS):aZ F 168 [i64 n] G=some (.bool (gZ n 16777216),G) :=
 bM rfl rfl (by simp[wrap64,abW,DA])
theorem SP(c:Cd)(G:List aS):aZ F 127 [.agg c.row] G=some (i64 (rA c),G) :=
 bM rfl rfl (by
  generalize hW:rA c=W;unfold rA at hW;by_cases h1:c.rk<1
  ·rw[aM (.inl h1)]at hW
   simp[wrap64,xy,h1];exact hW
  by_cases h2:9<c.rk
  ·rw[aM (.inr h2)]at hW
   simp[wrap64,xy,h1,h2];exact hW
  rw[ay (by omega)]at hW
  by_cases h3:c.kd<1
  ·rw[aM (.inl h3)]at hW
   simp[wrap64,xy,h1,h2,h3];exact hW
  by_cases h4:4<c.kd
  ·rw[aM (.inr h4)]at hW
   simp[wrap64,xy,h1,h2,h3,h4];exact hW
  rw[ay (by omega)]at hW
  have w1:=DA c.v 1073741824;have w2:=adD c.f c.t;have w3:=adE c.a;have w4:=adE c.b;cases e1:gZ c.v 1073741824<;>rw[e1]at w1 hW
  ·rw[ay (by simp)]at hW
   simp[wrap64,xy,h1,h2,h3,h4,w1];exact hW
  cases e2:(gZ c.f 364&&gZ c.t 364)<;>rw[e2]at w2 hW
  ·rw[ay (by simp)]at hW
   simp[wrap64,xy,h1,h2,h3,h4,w1,w2];exact hW
  cases e3:gZ c.a 16777216<;>rw[e3]at w3 hW
  ·rw[ay (by simp)]at hW
   simp[wrap64,xy,h1,h2,h3,h4,w1,w2,w3];exact hW
  cases e4:gZ c.b 16777216<;>rw[e4]at w4 hW
  ·rw[ay (by simp)]at hW
   simp[wrap64,xy,h1,h2,h3,h4,w1,w2,w3,w4];exact hW
  by_cases h5:c.b<c.a
  ·rw[ay (by simp;omega)]at hW
   simp[wrap64,xy,h1,h2,h3,h4,w1,w2,w3,w4,h5];exact hW
  ·rw[aM (by simp;omega)]at hW
   simp[wrap64,xy,h1,h2,h3,h4,w1,w2,w3,w4,h5];exact hW)
def tJ(l:List Cd):Int:=if 200<l.length then 10 else dH (fun i=>rA (nth l i)) l.length 0
theorem adF(l:List Cd)(G:List aS):aZ F 84 [g5 l] G=some (i64 (tJ l),G) :=
 bM rfl rfl (by
  generalize hW:tJ l=W;unfold tJ at hW;by_cases h1:200<l.length
  ·rw[aM h1]at hW
   have jm:(200:Int)<l.length:=by omega
   simp (disch:=omega) [-getElem?_pos,wrap64,RH,jm];exact hW
  rw[ay h1]at hW;have jm:¬ (200:Int)<l.length:=by omega
  simp (disch:=omega) [-getElem?_pos,wrap64,RH,jm];refine go_loop (fun i:Nat=>amX (g5 l) l.length i G) (fun i=>i≤l.length∧dH (fun i=>rA (nth l i)) (l.length-i) i=W) (fun i=>l.length-i) 0 rfl (by simp) ⟨by omega,hW⟩ ?_
  rintro i ⟨hi,hq⟩;simp (disch:=omega) [-getElem?_pos,wrap64,aav];refine bT (fun h3=>?_) (fun h3=>?_)
  ·have h3:i<l.length:=by omega
   rw[kZ h3]at hq;have h4:=SP (nth l i);by_cases h5:rA (nth l i)=0
   ·rw[aM h5]at hq
    simp (disch:=omega) [-getElem?_pos,wrap64,bf (l:=l),h4,h5];exact bP (i+1) (by simp) ⟨by omega,hq⟩ (by omega)
   ·rw[ay h5]at hq
    simp (disch:=omega) [-getElem?_pos,wrap64,bf (l:=l),h4,h5];exact hq
  ·obtain rfl:i=l.length:=by omega
   rw[mO]at hq;exact hq)
def I7(c:Cd)(day level:Int):Bool:=decide (rA c=0)&&I5 c.f c.t day&&decide (c.a≤level)&&decide (level≤c.b)
theorem aq8(c:Cd)(day level:Int)(G:List aS):aZ F 191 [.agg c.row,i64 day,i64 level] G=some (.bool (I7 c day level),G) :=
 bM rfl rfl (by
  generalize hW:I7 c day level=W;unfold I7 at hW;have w1:=SP c;have w2:=aq6 c.f c.t day;by_cases h1:rA c=0
  case neg =>
   simp[wrap64,IX,w1,h1];simpa [h1] using hW
  cases e2:I5 c.f c.t day<;>rw[e2]at w2 hW
  ·simp[wrap64,IX,w1,h1,w2]
   simpa [h1] using hW
  by_cases h3:c.a≤level
  ·simp[wrap64,IX,w1,h1,w2,h3]
   simpa [h1,h3] using hW
  ·simp[wrap64,IX,w1,h1,w2,h3]
   simpa [h1,h3] using hW)
def pZ(c:Cd)(before:Int):Int×Int :=
 if c.kd=1 then (c.v,1073741824) else if c.kd=2 then (0,c.v) else if c.kd=3 then (0,min (before+c.v) 1073741824) else (max (before-c.v) 0,1073741824)
theorem adG(c:Cd)(before:Int)(hk:1≤c.kd∧c.kd≤4)(hv:0≤c.v∧c.v≤1073741824)(hb:0≤before∧before≤1073741824)(G:List aS) :
  aZ F 192 [.agg c.row,i64 before] G=some (.agg [i64 (pZ c before).1,i64 (pZ c before).2],G) :=
 bM rfl rfl (by
  rcases (by omega:c.kd=1∨c.kd=2∨c.kd=3∨c.kd=4) with h|h|h|h
  ·simp (disch:=omega) [wrap64,IY,h,pZ]
  ·simp (disch:=omega) [wrap64,IY,h,pZ]
  ·simp (disch:=omega) [wrap64,IY,h,pZ]
  ·simp (disch:=omega) [wrap64,IY,h,pZ])
def p7(c:List Pt)(i:Nat)(x:Int):Int :=
 (nth c (i-1)).y+(((nth c i).y-(nth c (i-1)).y)*(x-(nth c (i-1)).x)).tdiv ((nth c i).x-(nth c (i-1)).x)
def xA(c:List Pt)(x:Int):Nat→Nat→Int
 |0,_=>(nth c (c.length-1)).y
 |m+1,i=>if x≤(nth c i).x then (if i=0 then (nth c i).y else p7 c i x) else xA c x m (i+1)
def iw(c:List Pt)(x:Int):Int:=xA c x c.length 0
structure Cv(c:List Pt):Prop where
 pos:0<c.length
 kH:c.length≤100
 x0:∀i,i<c.length→0≤(nth c i).x∧(nth c i).x≤1073741824
 y0:∀i,i<c.length→0≤(nth c i).y∧(nth c i).y≤274877906944
 up:∀i,0<i→i<c.length→(nth c (i-1)).x<(nth c i).x
 mono:∀i,0<i→i<c.length→(nth c (i-1)).y≤(nth c i).y
 prod:∀i,0<i→i<c.length→((nth c i).y-(nth c (i-1)).y)*((nth c i).x-(nth c (i-1)).x)≤4611686018427387904
theorem mQ{c:List Pt}(h:gB c=0):Cv c:=by
 unfold gB at h;split at h
 ·cases h
 ·split at h
  ·cases h
  ·have hz:∀i,i<c.length→ic c i=0:=fun i hi=>sK h i (by omega) (by omega)
   refine⟨by omega,by omega,fun i hi=>(MF (hz i hi)).1,fun i hi=>(MF (hz i hi)).2,fun i h0 hi=>(SO (hz i hi) h0).1,fun i h0 hi=>(SO (hz i hi) h0).2.1,fun i h0 hi=>?_⟩
   obtain⟨h1,h2,h3⟩:=SO (hz i hi) h0;generalize MH:(nth c i).x-(nth c (i-1)).x=dx at *;generalize MI:(nth c i).y-(nth c (i-1)).y=dy at *;have h4:(4611686018427387904:Int).tdiv dx*dx≤4611686018427387904:=by
    have:=Int.mul_tdiv_add_tmod 4611686018427387904 dx;rw[Kc]at this;have:=Kh (a:=4611686018427387904) dx (by omega)
    omega
   exact AU (Cg h3 (by omega)) h4
theorem Cv.lt{c:List Pt}(h:Cv c):∀{i j:Nat},i<j→j<c.length→(nth c i).x<(nth c j).x:=by
 intro i j MJ hj;induction j with
 |zero=>omega
 |succ j ih =>
  have:=h.up (j+1) (by omega) hj
  simp at this;rcases cF i j with h1|h1
  ·have:=ih h1 (by omega);omega
  ·obtain rfl:i=j:=by omega
   exact this
theorem Cv.le{c:List Pt}(h:Cv c):∀{i j:Nat},i≤j→j<c.length→(nth c i).y≤(nth c j).y:=by
 intro i j MJ hj;induction j with
 |zero=>obtain rfl:i=0:=by omega
        omega
 |succ j ih =>
  have:=h.mono (j+1) (by omega) hj
  simp at this;rcases cF j i with h1|h1
  ·obtain rfl:i=j+1:=by omega
   omega
  ·have:=ih h1 (by omega);omega
theorem I8{c:List Pt}(h:Cv c){i:Nat}{x:Int}(h0:0<i)(hi:i<c.length)(h1:(nth c (i-1)).x≤x)(h2:x≤(nth c i).x) :
  0≤((nth c i).y-(nth c (i-1)).y)*(x-(nth c (i-1)).x)∧((nth c i).y-(nth c (i-1)).y)*(x-(nth c (i-1)).x)≤4611686018427387904 ∧
  0≤(((nth c i).y-(nth c (i-1)).y)*(x-(nth c (i-1)).x)).tdiv ((nth c i).x-(nth c (i-1)).x) ∧
  (((nth c i).y-(nth c (i-1)).y)*(x-(nth c (i-1)).x)).tdiv ((nth c i).x-(nth c (i-1)).x)≤(nth c i).y-(nth c (i-1)).y:=by
 have h3:=h.up i h0 hi;have h4:=h.mono i h0 hi;have h5:=h.prod i h0 hi;generalize MH:(nth c i).x-(nth c (i-1)).x=dx at *;generalize MI:(nth c i).y-(nth c (i-1)).y=dy at *;generalize ht:x-(nth c (i-1)).x=t at *;have h6:0≤dy*t:=Ea (by omega) (by omega)
 have h7:dy*t≤dy*dx:=Kd (by omega) (by omega)
 refine⟨h6,by omega,xU h6 (by omega),?_⟩
 have h8:=Int.tdiv_le_tdiv (a:=dy*t) (b:=dy*dx) (c:=dx) (by omega) h7
 rwa [Ke _ (by omega)]at h8
theorem I9{c:List Pt}{x:Int}{n:Nat}:∀{k i:Nat},i≤k→k≤n→(∀j,i≤j→j<k→(nth c j).x<x)→xA c x (n-i) i=xA c x (n-k) k:=by
 intro k;induction k with
 |zero=>intro i h1 _ _;obtain rfl:i=0:=by omega
        rfl
 |succ k ih =>
  intro i h1 h2 h3;rcases cF k i with h|h
  ·obtain rfl:i=k+1:=by omega
   rfl
  ·rw[ih h (by omega) (fun j a b=>h3 j a (by omega))]
   obtain⟨m,hm⟩:∃m,n-k=m+1:=⟨n-k-1,by omega⟩
   have:=h3 k h (by omega)
   rw[hm,xA,ay (by omega),show n-(k+1)=m by omega]
theorem Ja{c:List Pt}{x:Int}{n i:Nat}(hi:i<n)(h:x≤(nth c i).x):xA c x (n-i) i=if i=0 then (nth c i).y else p7 c i x:=by
 obtain⟨m,hm⟩:∃m,n-i=m+1:=⟨n-i-1,by omega⟩
 rw[hm,xA,aM h]
theorem DB{c:List Pt}{x:Int}(h:Cv c)(h1:x≤(nth c 0).x):iw c x=(nth c 0).y:=by
 have:=Ja (c:=c) (x:=x) (n:=c.length) h.pos h1;simpa [iw] using this
theorem yL{c:List Pt}{x:Int}{i:Nat}(h:Cv c)(h0:0<i)(hi:i<c.length)(h1:(nth c (i-1)).x≤x)(h2:x≤(nth c i).x):iw c x=p7 c i x:=by
 have up:=h.up i h0 hi;by_cases hx:(nth c (i-1)).x<x
 ·have:=I9 (c:=c) (x:=x) (n:=c.length) (i:=0) (k:=i) (by omega) (by omega) (fun j _ hj=>by
   rcases cF j (i-1) with h3|h3
   ·have:=h.lt h3 (by omega);omega
   ·obtain rfl:j=i-1:=by omega
    exact hx)
  rw[Ja hi h2,ay (by omega)]at this
  simpa [iw] using this
 ·have hx:x=(nth c (i-1)).x:=by omega
  subst hx;have:=I9 (c:=c) (x:=(nth c (i-1)).x) (n:=c.length) (i:=0) (k:=i-1) (by omega) (by omega) (fun j _ hj=>h.lt (by omega) (by omega))
  rw[Ja (n:=c.length) (i:=i-1) (by omega) (by omega)]at this
  have e:p7 c i (nth c (i-1)).x=(nth c (i-1)).y:=by simp[p7]
  rw[e];simp only[xY]at this;rw[iw,this];split
  ·rfl
  ·rename_i h3
   have h4:=h.up (i-1) (by omega) (by omega)
   rw[p7,Ke _ (by omega)]
   omega
theorem MK{c:List Pt}{x:Int}(h:Cv c)(h1:(nth c (c.length-1)).x≤x):iw c x=(nth c (c.length-1)).y:=by
 have hp:=h.pos;rcases cF 1 c.length with h2|h2
 ·by_cases hx:(nth c (c.length-1)).x<x
  ·have:=I9 (c:=c) (x:=x) (n:=c.length) (i:=0) (k:=c.length) (by omega) (by omega) (fun j _ hj=>by
    rcases cF j (c.length-1) with h3|h3
    ·have:=h.lt h3 (by omega);omega
    ·obtain rfl:j=c.length-1:=by omega
     exact hx)
   simp only[xY,sb]at this;rw[iw,this,xA]
  ·obtain rfl:x=(nth c (c.length-1)).x:=by omega
   have hu:=h.up (c.length-1) (by omega) (by omega)
   rw[yL h (i:=c.length-1) (by omega) (by omega) (by omega) (by omega),p7,Ke _ (by omega)]
   omega
 ·by_cases hx:x≤(nth c 0).x
  ·rw[DB h hx,show c.length-1=0 by omega]
  ·have:=I9 (c:=c) (x:=x) (n:=c.length) (i:=0) (k:=c.length) (by omega) (by omega) (fun j _ hj=>by
    obtain rfl:j=0:=by omega
    omega)
   simp only[xY,sb]at this;rw[iw,this,xA]
theorem SQ{c:List Pt}(h:Cv c)(x:Int):x≤(nth c 0).x∨(∃i,0<i∧i<c.length∧(nth c (i-1)).x≤x∧x≤(nth c i).x)∨(nth c (c.length-1)).x≤x:=by
 have hp:=h.pos;by_cases h1:x≤(nth c 0).x
 ·exact .inl h1
 ·have:∀k,k<c.length→(∃i,0<i∧i≤k∧(nth c (i-1)).x≤x∧x≤(nth c i).x)∨(nth c k).x≤x:=by
   intro k;induction k with
   |zero=>intro _;right;omega
   |succ k ih =>
    intro hk;rcases ih (by omega) with⟨i,a,b,d,e⟩ | h2
    ·exact .inl ⟨i,a,by omega,d,e⟩
    ·by_cases h3:x≤(nth c (k+1)).x
     ·exact .inl ⟨k+1,by omega,by omega,h2,h3⟩
     ·right;omega
  rcases this (c.length-1) (by omega) with⟨i,a,b,d,e⟩ | h2
  ·exact .inr (.inl ⟨i,a,by omega,d,e⟩)
  ·exact .inr (.inr h2)
theorem FG{c:List Pt}(h:Cv c)(x:Int):(nth c 0).y≤iw c x∧iw c x≤(nth c (c.length-1)).y:=by
 have hp:=h.pos;have h0:=h.le (i:=0) (j:=c.length-1) (by omega) (by omega)
 rcases SQ h x with h1 | ⟨i,a,b,d,e⟩ | h1
 ·rw[DB h h1];omega
 ·rw[yL h a b d e]
  have h2:=I8 h a b d e;have h3:=h.le (i:=0) (j:=i-1) (by omega) (by omega)
  have h4:=h.le (i:=i) (j:=c.length-1) (by omega) (by omega)
  unfold p7;omega
 ·rw[MK h h1];omega
theorem ML{c:List Pt}(h:Cv c)(x:Int)(G:List aS):aZ F 221 [iM c,i64 x] G=some (i64 (iw c x),G) :=
 bM rfl rfl (by
  have hp:=h.pos;have hf:=h.kH;generalize hW:iw c x=W;simp +contextual (disch:=omega) [-getElem?_pos,wrap64,acP];refine go_loop (fun i:Nat=>apO (iM c) x (iM c) c.length i G) (fun i=>i≤c.length∧xA c x (c.length-i) i=W∧(0<i→(nth c (i-1)).x<x)) (fun i=>c.length-i) 0 rfl (by simp) ⟨by omega,hW,by omega⟩ ?_
  rintro i ⟨hi,hq,hl⟩;simp +contextual (disch:=omega) [-getElem?_pos,wrap64,acO];refine bT (fun h1=>?_) (fun h1=>?_)
  ·have h1:i<c.length:=by omega
   simp +contextual (disch:=omega) [-getElem?_pos,wrap64,bf (l:=c)];refine gY (fun h2=>?_) (fun h2=>bT (fun h3=>?_) (fun h3=>?_))
   ·simp[-List.length_eq_zero_iff,-Int.natCast_eq_zero]at h2
    obtain rfl:i=0:=by omega
    rw[Ja h1 h2.1,aM rfl]at hq;exact hq
   ·simp[-List.length_eq_zero_iff,-Int.natCast_eq_zero]at h2
    have h4:0<i:=by omega
    have h5:1≤(i:Int):=by omega
    have h6:i-1<c.length:=by omega
    have h9:=hl h4;have h7:=I8 h h4 h1 (by omega) h3
    have h8:=h.up i h4 h1;have gx:=h.x0 i h1;have lu:=h.x0 (i-1) h6;have uw:=h.y0 i h1;have h13:=h.y0 (i-1) h6;have SR:(nth c i).x-(nth c (i-1)).x≠0:=by omega
    rw[Ja h1 h3,ay (by omega),p7]at hq
    simp +contextual (disch:=omega) [-getElem?_pos,wrap64,bf (l:=c),h5,SR];exact hq
   ·simp[-List.length_eq_zero_iff,-Int.natCast_eq_zero]at h2
    have:=I9 (c:=c) (x:=x) (n:=c.length) (i:=i) (k:=i+1) (by omega) (by omega) (fun j a b=>by
     obtain rfl:j=i:=by omega
     omega)
    rw[this]at hq;exact bP (i+1) (by simp) ⟨by omega,hq,fun _=>by simp;omega⟩ (by omega)
  ·obtain rfl:i=c.length:=by omega
   have h2:((c.length:Int)-1).toNat=c.length-1:=by omega
   rw[sb,xA]at hq;simp +contextual (disch:=omega) [-getElem?_pos,wrap64,bf (l:=c),h2];exact hq)
theorem adH{c:List Pt}(h:Cv c)(x:Int)(G:List aS):aZ F 137 [iM c,i64 x] G=some (i64 (iw c x),G) :=
 bM rfl rfl (by
  have hp:=h.pos;have hf:=h.kH;generalize hW:iw c x=W;simp (disch:=omega) [-getElem?_pos,wrap64,abn,bf (l:=c)];refine bT (fun h1=>?_) (fun h1=>?_)
  ·rw[DB h h1]at hW
   exact hW
  ·refine go_loop (fun i:Nat=>aov (iM c) x (i+1) G) (fun i=>i+1≤c.length∧(nth c i).x≤x) (fun i=>c.length-i) 0 rfl (by simp) ⟨by omega,by omega⟩ ?_
   rintro i ⟨hi,hl⟩;simp (disch:=omega) [-getElem?_pos,wrap64,abm];refine bT (fun h2=>?_) (fun h2=>?_)
   ·have h2:i+1<c.length:=by omega
    have h3:((i:Int)+1).toNat=i+1:=by omega
    simp (disch:=omega) [-getElem?_pos,wrap64,bf (l:=c),h3];refine bT (fun h4=>?_) (fun h4=>?_)
    ·have h7:=I8 h (i:=i+1) (x:=x) (by omega) h2 (by simpa using hl) (by omega)
     have h8:=h.up (i+1) (by omega) h2
     have gx:=h.x0 (i+1) h2;have lu:=h.x0 i (by omega)
     have uw:=h.y0 (i+1) h2;have h13:=h.y0 i (by omega)
     rw[yL h (i:=i+1) (by omega) h2 (by simpa using hl) (by omega),p7]at hW
     simp only[sa]at h7 h8 hW;have SR:(nth c (i+1)).x-(nth c i).x≠0:=by omega
     simp (disch:=omega) [-getElem?_pos,wrap64,bf (l:=c),SR];exact hW
    ·exact bP (i+1) (by simp) ⟨by omega,by omega⟩ (by omega)
   ·obtain rfl:c.length-1=i:=by omega
    have h3:((c.length:Int)-1).toNat=c.length-1:=by omega
    rw[MK h hl]at hW;simp (disch:=omega) [-getElem?_pos,wrap64,bf (l:=c),h3];exact hW)
theorem SS(c:List Pt)(x:Int)(G:List aS):aZ F 142 [iM c,i64 x] G=some (.tuple [i64 (if gB c=0 then iw c x else 0),i64 (gB c)],G) :=
 bM rfl rfl (by
  by_cases h:gB c=0
  ·simp[wrap64,aew,mz,h,adH (mQ h)]
  ·simp[wrap64,aew,mz,h])
structure Bd where
 lo:Int
 hi:Int
 deriving Inhabited,DecidableEq
abbrev Bd.row(b:Bd):List V:=[i64 b.lo,i64 b.hi]
abbrev DC(l:List Bd):V:=.slice none 2 (l.map Bd.row)
structure Un where
 table:List Pt
 least:Int
 di:Int
 fS:List Bd
 up:Int
 down:Int
 deriving Inhabited,DecidableEq
abbrev Un.row(u:Un):List V:=[iM u.table,i64 u.least,i64 u.di,DC u.fS,i64 u.up,i64 u.down]
abbrev un(u:Un):V:=.agg u.row
def lB(z:List Bd)(i:Nat):Int :=
 if ¬((0≤(nth z i).lo∧(nth z i).lo≤1073741824)∧0≤(nth z i).hi∧(nth z i).hi≤1073741824) then 1 else if (nth z i).hi≤(nth z i).lo then 4 else 0
def g6(u:Un):Int :=
 if gB u.table≠0 then gB u.table
 else if 1073741824<(nth u.table (u.table.length-1)).y then 1
 else if u.least<1∨u.di<u.least∨1073741824<u.di then 1
 else if 10<u.fS.length then 10
 else if dH (lB u.fS) u.fS.length 0≠0 then dH (lB u.fS) u.fS.length 0
 else if ¬((0≤u.up∧u.up≤1000)∧0≤u.down∧u.down≤1000) then 1 else 0
theorem uK{c:List Pt}(h:gB c=0):0<c.length:=(mQ h).pos
theorem tK(u:Un)(G:List aS):aZ F 152 [un u] G=some (i64 (g6 u),G) :=
 bM rfl rfl (by
  obtain⟨c,least,di,z,up,down⟩:=u;generalize hW:g6 ⟨c,least,di,z,up,down⟩=W;unfold g6 at hW;simp only at hW;by_cases hc:gB c=0
  ·have hp:=uK hc
   have hf:=(mQ hc).kH;have h2:((c.length:Int)-1).toNat=c.length-1:=by omega
   rw[ay (by simpa using hc)]at hW
   simp +contextual (disch:=omega) [-getElem?_pos,wrap64,R4,oG,hc,bf (l:=c),h2];refine bT (fun h3=>?_) (fun h3=>?_)
   ·rw[aM (by omega)]at hW
    exact hW
   refine gY (fun h4=>?_) (fun h4=>?_)
   ·simp[-List.length_eq_zero_iff,-Int.natCast_eq_zero]at h4
    rw[ay (by omega),aM (by omega)]at hW
    exact hW
   simp[-List.length_eq_zero_iff,-Int.natCast_eq_zero]at h4;rw[ay (by omega),ay (by omega)]at hW
   refine bT (fun h5=>?_) (fun h5=>?_)
   ·rw[aM (by omega)]at hW
    exact hW
   rw[ay (by omega)]at hW
   refine go_loop (fun i:Nat=>aoX (DC z) z.length i [iM c,i64 least,i64 di,DC z,i64 up,i64 down] G) (fun i=>i≤z.length∧dH (lB z) (z.length-i) i=dH (lB z) z.length 0) (fun i=>z.length-i) 0 rfl (by simp) ⟨by omega,rfl⟩ ?_
   rintro i ⟨hi,hq⟩;simp +contextual (disch:=omega) [-getElem?_pos,wrap64,abI];refine bT (fun h1=>?_) (fun h1=>?_)
   ·have h1:i<z.length:=by omega
    rw[kZ h1]at hq;simp +contextual (disch:=omega) [-getElem?_pos,wrap64,bf (l:=z),dJ];refine gY (fun h6=>?_) (fun h6=>?_)
    ·simp +contextual (disch:=omega) [-getElem?_pos,wrap64,h6,dJ]
     simp[-List.length_eq_zero_iff,-Int.natCast_eq_zero]at h6;rw[show lB z i=1 by rw[lB,aM (by omega)],ay (by decide)]at hq
     rw[←hq,aM (by decide)]at hW
     exact hW
    ·simp +contextual (disch:=omega) [-getElem?_pos,wrap64,h6,dJ]
     simp[-List.length_eq_zero_iff,-Int.natCast_eq_zero]at h6;refine gY (fun h7=>?_) (fun h7=>bT (fun h8=>?_) (fun h8=>?_))
     ·simp[-List.length_eq_zero_iff,-Int.natCast_eq_zero]at h7
      rw[show lB z i=1 by rw[lB,aM (by omega)],ay (by decide)]at hq
      rw[←hq,aM (by decide)]at hW
      exact hW
     ·simp[-List.length_eq_zero_iff,-Int.natCast_eq_zero]at h7
      rw[show lB z i=4 by rw[lB,ay (by omega),aM (by omega)],ay (by decide)]at hq
      rw[←hq,aM (by decide)]at hW
      exact hW
     ·simp[-List.length_eq_zero_iff,-Int.natCast_eq_zero]at h7
      rw[show lB z i=0 by rw[lB,ay (by omega),ay (by omega)],aM rfl]at hq
      exact bP (i+1) (by simp) ⟨by omega,hq⟩ (by omega)
   ·obtain rfl:i=z.length:=by omega
    rw[mO]at hq;rw[←hq,ay (by decide)]at hW
    simp +contextual (disch:=omega) [-getElem?_pos,wrap64,dJ];refine gY (fun h6=>?_) (fun h6=>?_)
    ·simp +contextual (disch:=omega) [-getElem?_pos,wrap64,h6,dJ]
     simp[-List.length_eq_zero_iff,-Int.natCast_eq_zero]at h6;rw[aM (by omega)]at hW
     exact hW
    ·simp +contextual (disch:=omega) [-getElem?_pos,wrap64,h6,dJ]
     simp[-List.length_eq_zero_iff,-Int.natCast_eq_zero]at h6;refine gY (fun h7=>?_) (fun h7=>?_)
     ·simp[-List.length_eq_zero_iff,-Int.natCast_eq_zero]at h7
      rw[aM (by omega)]at hW
      exact hW
     ·simp[-List.length_eq_zero_iff,-Int.natCast_eq_zero]at h7
      rw[ay (by omega)]at hW
      exact hW
  ·rw[aM (by simpa using hc)]at hW
   simp +contextual (disch:=omega) [-getElem?_pos,wrap64,R4,oG,hc];exact hW)
theorem nX(u:Un)(G:List aS):aZ F 132 [un u] G=some (i64 (g6 u),G) :=
 bM rfl rfl (by
  obtain⟨c,least,di,z,up,down⟩:=u;generalize hW:g6 ⟨c,least,di,z,up,down⟩=W;unfold g6 at hW;simp only at hW;by_cases hc:gB c=0
  ·have hp:=uK hc
   have hf:=(mQ hc).kH;have h2:((c.length:Int)-1).toNat=c.length-1:=by omega
   rw[ay (by simpa using hc)]at hW
   simp +contextual (disch:=omega) [-getElem?_pos,wrap64,RZ,mz,hc,bf (l:=c),h2];refine gY (fun h4=>?_) (fun h4=>?_)
   ·simp[-List.length_eq_zero_iff,-Int.natCast_eq_zero]at h4
    by_cases h3:1073741824<(nth c (c.length-1)).y
    ·rw[aM h3]at hW
     exact hW
    ·rw[ay h3,aM (by omega)]at hW
     exact hW
   simp[-List.length_eq_zero_iff,-Int.natCast_eq_zero]at h4;rw[ay (by omega),ay (by omega)]at hW
   refine bT (fun h5=>?_) (fun h5=>?_)
   ·rw[aM (by omega)]at hW
    exact hW
   rw[ay (by omega)]at hW
   refine go_loop (fun i:Nat=>aop (DC z) z.length i [iM c,i64 least,i64 di,DC z,i64 up,i64 down] G) (fun i=>i≤z.length∧dH (lB z) (z.length-i) i=dH (lB z) z.length 0) (fun i=>z.length-i) 0 rfl (by simp) ⟨by omega,rfl⟩ ?_
   rintro i ⟨hi,hq⟩;simp +contextual (disch:=omega) [-getElem?_pos,wrap64,abh];refine bT (fun h1=>?_) (fun h1=>?_)
   ·have h1:i<z.length:=by omega
    rw[kZ h1]at hq;simp +contextual (disch:=omega) [-getElem?_pos,wrap64,bf (l:=z),c7];refine gY (fun h6=>?_) (fun h6=>?_)
    ·simp +contextual (disch:=omega) [-getElem?_pos,wrap64,h6,c7]
     simp[-List.length_eq_zero_iff,-Int.natCast_eq_zero]at h6;rw[show lB z i=1 by rw[lB,aM (by omega)],ay (by decide)]at hq
     rw[←hq,aM (by decide)]at hW
     exact hW
    ·simp +contextual (disch:=omega) [-getElem?_pos,wrap64,h6,c7]
     simp[-List.length_eq_zero_iff,-Int.natCast_eq_zero]at h6;refine gY (fun h7=>?_) (fun h7=>bT (fun h8=>?_) (fun h8=>?_))
     ·simp[-List.length_eq_zero_iff,-Int.natCast_eq_zero]at h7
      rw[show lB z i=1 by rw[lB,aM (by omega)],ay (by decide)]at hq
      rw[←hq,aM (by decide)]at hW
      exact hW
     ·simp[-List.length_eq_zero_iff,-Int.natCast_eq_zero]at h7
      rw[show lB z i=4 by rw[lB,ay (by omega),aM (by omega)],ay (by decide)]at hq
      rw[←hq,aM (by decide)]at hW
      exact hW
     ·simp[-List.length_eq_zero_iff,-Int.natCast_eq_zero]at h7
      rw[show lB z i=0 by rw[lB,ay (by omega),ay (by omega)],aM rfl]at hq
      exact bP (i+1) (by simp) ⟨by omega,hq⟩ (by omega)
   ·obtain rfl:i=z.length:=by omega
    rw[mO]at hq;rw[←hq,ay (by decide)]at hW
    simp +contextual (disch:=omega) [-getElem?_pos,wrap64,c7];refine gY (fun h6=>?_) (fun h6=>?_)
    ·simp +contextual (disch:=omega) [-getElem?_pos,wrap64,h6,c7]
     simp[-List.length_eq_zero_iff,-Int.natCast_eq_zero]at h6;rw[aM (by omega)]at hW
     exact hW
    ·simp +contextual (disch:=omega) [-getElem?_pos,wrap64,h6,c7]
     simp[-List.length_eq_zero_iff,-Int.natCast_eq_zero]at h6;refine gY (fun h7=>?_) (fun h7=>?_)
     ·simp[-List.length_eq_zero_iff,-Int.natCast_eq_zero]at h7
      rw[aM (by omega)]at hW
      exact hW
     ·simp[-List.length_eq_zero_iff,-Int.natCast_eq_zero]at h7
      rw[ay (by omega)]at hW
      exact hW
  ·rw[aM (by simpa using hc)]at hW
   simp +contextual (disch:=omega) [-getElem?_pos,wrap64,RZ,mz,hc];exact hW)
structure Uv(u:Un):Prop where
 cv:Cv u.table
 top:(nth u.table (u.table.length-1)).y≤1073741824
 least:1≤u.least
 di:u.least≤u.di
 SV:u.di≤1073741824
 kH:u.fS.length≤10
 MM:∀i,i<u.fS.length→(0≤(nth u.fS i).lo∧(nth u.fS i).hi≤1073741824)∧(nth u.fS i).lo<(nth u.fS i).hi
 up:0≤u.up∧u.up≤1000
 down:0≤u.down∧u.down≤1000
 mc:gB u.table=0
theorem qG{u:Un}(h:g6 u=0):Uv u:=by
 unfold g6 at h;split at h
 ·contradiction
 ·split at h
  ·cases h
  ·split at h
   ·cases h
   ·split at h
    ·cases h
    ·split at h
     ·contradiction
     ·split at h
      ·cases h
      ·rename_i h1 h2 h3 h4 h5 h6
       have h1:gB u.table=0:=g7 h1;have h5:dH (lB u.fS) u.fS.length 0=0:=g7 h5;refine⟨mQ h1,by omega,by omega,by omega,by omega,by omega,fun i hi=>?_,by omega,by omega,h1⟩
       have h7:=sK h5 i (by omega) (by omega)
       unfold lB at h7;split at h7
       ·cases h7
       ·split at h7
        ·cases h7
        ·omega
def ins(u:Un)(q:Int):Prop:=∃i,i<u.fS.length∧(nth u.fS i).lo<q∧q<(nth u.fS i).hi
theorem adI{u:Un}(hu:Uv u)(q:Int)(G:List aS) :
  ∃r,aZ F 236 [un u,i64 q] G=some (i64 r,G)∧q≤r∧¬ins u r∧(∀t,q≤t→t<r→ins u t)∧(r=q∨r≤1073741824):=by
 suffices h:gA (aZ F) 236 [un u,i64 q] G fun v G'=>G'=G∧∃r,v=i64 r∧q≤r∧¬ins u r∧(∀t,q≤t→t<r→ins u t)∧(r=q∨r≤1073741824) by
  obtain⟨_,_,h,rfl,r,rfl,h2⟩:=h;exact⟨r,h,h2⟩
 refine gM rfl rfl ?_;have hz:=hu.MM;have hf:=hu.kH;simp +contextual (disch:=omega) [-getElem?_pos,wrap64,ac3];refine go_loop (fun r:Int=>ap7 r u.row G) (fun r=>q≤r∧(∀t,q≤t→t<r→ins u t)∧(r=q∨r≤1073741824)) (fun r=>(1073741824-r).toNat) q rfl (by simp) ⟨by omega,by omega,.inl rfl⟩ ?_
 rintro r ⟨h1,h2,h3⟩;simp +contextual (disch:=omega) [-getElem?_pos,wrap64,ac2];refine go_loop (fun i:Nat=>ap5 r (DC u.fS) u.fS.length i u.row G) (fun i=>i≤u.fS.length∧∀j,j<i→¬((nth u.fS j).lo<r∧r<(nth u.fS j).hi)) (fun i=>u.fS.length-i) 0 rfl (by simp) ⟨by omega,by omega⟩ ?_
 rintro i ⟨hi,hn⟩;simp +contextual (disch:=omega) [-getElem?_pos,wrap64,ac1];refine bT (fun h4=>?_) (fun h4=>?_)
 ·have h4:i<u.fS.length:=by omega
  have h5:=hz i h4;simp +contextual (disch:=omega) [-getElem?_pos,wrap64,bf (l:=u.fS)];refine gY (fun h6=>?_) (fun h6=>?_)
  ·simp[-List.length_eq_zero_iff,-Int.natCast_eq_zero]at h6
   refine bP (nth u.fS i).hi (by simp) ⟨by omega,fun t ha hb=>?_,by omega⟩ (by omega)
   by_cases h7:t<r
   ·exact h2 t ha h7
   ·exact⟨i,h4,by omega,hb⟩
  ·simp[-List.length_eq_zero_iff,-Int.natCast_eq_zero]at h6
   refine bP (i+1) (by simp) ⟨by omega,fun j hj=>?_⟩ (by omega)
   rcases cF j i with h7|h7
   ·have:=hn j h7;omega
   ·obtain rfl:j=i:=by omega
    omega
 ·obtain rfl:i=u.fS.length:=by omega
  exact⟨h1,fun⟨j,hj,h5,h6⟩=>hn j hj ⟨h5,h6⟩,h2,h3⟩
theorem adJ{u:Un}(hu:Uv u)(q:Int)(G:List aS) :
  (∃e,aZ F 206 [un u,i64 q] G=some (.tuple [i64 e,.bool true],G)∧ins u q∧q<e∧e≤1073741824∧∀t,q≤t→t<e→ins u t) ∨
  (aZ F 206 [un u,i64 q] G=some (.tuple [i64 0,.bool false],G)∧¬ins u q):=by
 suffices h:gA (aZ F) 206 [un u,i64 q] G fun v G'=>G'=G∧((∃e,v=.tuple [i64 e,.bool true]∧ins u q∧q<e∧e≤1073741824∧∀t,q≤t→t<e→ins u t)∨v=.tuple [i64 0,.bool false]∧¬ins u q) by
  obtain⟨_,_,h,rfl,⟨e,rfl,h2⟩ | ⟨rfl,h2⟩⟩:=h
  ·exact .inl ⟨e,h,h2⟩
  ·exact .inr ⟨h,h2⟩
 refine gM rfl rfl ?_;have hz:=hu.MM;have hf:=hu.kH;simp +contextual (disch:=omega) [-getElem?_pos,wrap64,acy];refine go_loop (fun i:Nat=>apD q (DC u.fS) u.fS.length i G) (fun i=>i≤u.fS.length∧∀j,j<i→¬((nth u.fS j).lo<q∧q<(nth u.fS j).hi)) (fun i=>u.fS.length-i) 0 rfl (by simp) ⟨by omega,by omega⟩ ?_
 rintro i ⟨hi,hn⟩;simp +contextual (disch:=omega) [-getElem?_pos,wrap64,acx];refine bT (fun h4=>?_) (fun h4=>?_)
 ·have h4:i<u.fS.length:=by omega
  have h5:=hz i h4;simp +contextual (disch:=omega) [-getElem?_pos,wrap64,bf (l:=u.fS)];refine gY (fun h6=>?_) (fun h6=>?_)
  ·simp[-List.length_eq_zero_iff,-Int.natCast_eq_zero]at h6
   exact⟨⟨i,h4,by omega,by omega⟩,by omega,by omega,fun t ha hb=>⟨i,h4,by omega,hb⟩⟩
  ·simp[-List.length_eq_zero_iff,-Int.natCast_eq_zero]at h6
   refine bP (i+1) (by simp) ⟨by omega,fun j hj=>?_⟩ (by omega)
   rcases cF j i with h7|h7
   ·have:=hn j h7;omega
   ·obtain rfl:j=i:=by omega
    omega
 ·obtain rfl:i=u.fS.length:=by omega
  rintro⟨j,hj,h5,h6⟩;exact hn j hj ⟨h5,h6⟩
structure Us where
 cn:Int
 since:Int
 out:Bool
 deriving Inhabited,DecidableEq
abbrev Us.row(s:Us):List V:=[i64 s.cn,i64 s.since,.bool s.out]
abbrev us(s:Us):V:=.agg s.row
def p8(u:Un)(q:Int):Prop:=u.least≤q∧q≤u.di∧¬ins u q
noncomputable instance aBV{u:Un}{q:Int}:Decidable (p8 u q):=Classical.propDecidable _
noncomputable instance aBW{u:Un}{q:Int}:Decidable (ins u q):=Classical.propDecidable _
theorem BM{u:Un}(hu:Uv u)(q:Int)(G:List aS):aZ F 229 [un u,i64 q] G=some (.bool (decide (p8 u q)),G) :=
 bM rfl rfl (by
  obtain⟨r,h1,h2,h3,h4,_⟩:=adI hu q [];have key:decide (p8 u q)=(decide (u.least≤q)&&decide (q≤u.di)&&decide (r=q)):=by
   rw[Bool.eq_iff_iff];simp only[iD,bS];constructor
   ·rintro⟨a,b,d⟩
    refine⟨⟨a,b⟩,Decidable.byContradiction fun cf=>d (h4 q (by omega) (by omega))⟩
   ·rintro⟨⟨a,b⟩,rfl⟩
    exact⟨a,b,h3⟩
  rw[key];simp +contextual [wrap64,acX,h1];refine gY (fun h5=>?_) (fun h5=>?_)
  ·simp +contextual [wrap64,h5,h1]
  ·simp +contextual [wrap64,h5,h1])
theorem Ao(u:Un)(q:Int)(G:List aS):aZ F 177 [un u,i64 q] G=some (.bool (decide (g6 u=0∧p8 u q)),G) :=
 bM rfl rfl (by
  generalize hW:decide (g6 u=0∧p8 u q)=W;by_cases hc:g6 u=0
  ·simp +contextual [wrap64,Sd,nX,hc]
   refine gY (fun h1=>?_) (fun h1=>?_)
   ·simp[-List.length_eq_zero_iff,-Int.natCast_eq_zero]at h1
    rw[←hW,decide_eq_false (fun h=>by have:=h.2.1;have:=h.2.2.1;omega)]
   ·simp[-List.length_eq_zero_iff,-Int.natCast_eq_zero]at h1
    rcases adJ (qG hc) q []with⟨e,h2,h3,_⟩ | ⟨h2,h3⟩
    ·simp +contextual [wrap64,h2]
     rw[←hW,decide_eq_false (fun h=>h.2.2.2 h3)]
    ·simp +contextual [wrap64,h2]
     rw[←hW,jf ⟨hc,by omega,by omega,h3⟩]
  ·simp +contextual [wrap64,Sd,nX,hc]
   rw[←hW,decide_eq_false (fun h=>hc h.1)])
def fc(u:Un)(s:Us):Prop:=g6 u=0∧(0≤s.since∧s.since≤1000)∧(s.cn=0∨s.out=false∧p8 u s.cn)
def km(u:Un)(s:Us)(q:Int):Prop:=if q=0 then (0<s.cn→u.up≤s.since) else s.out=false∧¬(s.cn=0∧s.since<u.down)∧p8 u q
noncomputable instance aBX{u:Un}{s:Us}:Decidable (fc u s):=Classical.propDecidable _
noncomputable instance aBY{u:Un}{s:Us}{q:Int}:Decidable (km u s q):=Classical.propDecidable _
theorem SW{u:Un}(hc:g6 u=0)(s:Us)(G:List aS):aZ F 222 [un u,us s] G=some (.bool (decide (fc u s)),G) :=
 bM rfl rfl (by
  obtain⟨cn,since,out⟩:=s;generalize hW:decide (fc u ⟨cn,since,out⟩)=W;have e:fc u ⟨cn,since,out⟩↔(0≤since∧since≤1000)∧(cn=0∨out=false∧p8 u cn):=by simp[fc,hc]
  by_cases h1:0≤since∧since≤1000
  ·by_cases h2:cn=0
   ·simp[wrap64,I0,dJ,BM (qG hc),h1.1,h1.2,h2]
    rw[←hW,jf (e.2 ⟨h1,.inl h2⟩)]
   ·cases out with
    |true =>
     simp[wrap64,I0,dJ,BM (qG hc),h1.1,h1.2,h2];rw[←hW,decide_eq_false (fun h=>by have:=(e.1 h).2;simp[h2]at this)]
    |false =>
     simp[wrap64,I0,dJ,BM (qG hc),h1.1,h1.2,h2];rw[←hW];simp[e,h1,h2]
  ·have h3:(decide (0≤since)&&decide (since≤1000))=false:=by simp;omega
   simp[wrap64,I0,dJ,BM (qG hc),h3];rw[←hW,decide_eq_false (fun h=>h1 (e.1 h).1)])
theorem BN(u:Un)(s:Us)(G:List aS):aZ F 215 [un u,us s] G=some (.bool (decide (fc u s)),G) :=
 bM rfl rfl (by
  generalize hW:decide (fc u s)=W;by_cases hc:g6 u=0
  ·simp[wrap64,Sr,tK,hc,SW hc]
   exact hW
  ·simp[wrap64,Sr,tK,hc]
   rw[←hW,decide_eq_false (fun h=>hc h.1)])
theorem yM(u:Un)(s:Us)(G:List aS):aZ F 134 [un u,us s] G=some (.bool (decide (fc u s)),G) :=
 bM rfl rfl (by
  obtain⟨cn,since,out⟩:=s;generalize hW:decide (fc u ⟨cn,since,out⟩)=W;by_cases hc:g6 u=0
  ·have e:fc u ⟨cn,since,out⟩↔(0≤since∧since≤1000)∧(cn=0∨out=false∧p8 u cn):=by simp[fc,hc]
   by_cases h1:0≤since∧since≤1000
   ·by_cases h2:cn=0
    ·simp[wrap64,FB,nX,c7,Ao,hc,h1.1,h1.2,h2]
     rw[←hW,jf (e.2 ⟨h1,.inl h2⟩)]
    ·by_cases h3:p8 u cn
     ·simp[wrap64,FB,nX,c7,Ao,hc,h1.1,h1.2,h2,h3]
      rw[←hW];simp[e,h1,h2,h3]
     ·simp[wrap64,FB,nX,c7,Ao,hc,h1.1,h1.2,h2,h3]
      rw[←hW];simp[e,h1,h2,h3]
   ·have h3:(decide (0≤since)&&decide (since≤1000))=false:=by simp;omega
    simp[wrap64,FB,nX,c7,Ao,hc,h3];rw[←hW,decide_eq_false (fun h=>h1 (e.1 h).1)]
  ·simp[wrap64,FB,nX,hc]
   rw[←hW,decide_eq_false (fun h=>hc h.1)])
theorem MN{u:Un}(hc:g6 u=0){q:Int}(h:p8 u q):1≤q:=by have:=(qG hc).least;have:=h.1;omega
theorem SX{u:Un}{s:Us}(hv:fc u s)(q:Int)(G:List aS):aZ F 247 [un u,us s,i64 q] G=some (.bool (decide (km u s q)),G) :=
 bM rfl rfl (by
  obtain⟨hc,h1,h2⟩:=hv;obtain⟨cn,since,out⟩:=s;simp only at h1 h2;generalize hW:decide (km u ⟨cn,since,out⟩ q)=W;simp only[km]at hW;by_cases h3:q=0
  ·subst h3
   by_cases h4:0<cn
   ·simp[wrap64,Du,h4]
    rw[←hW];simp[h4]
   ·simp[wrap64,Du,h4]
    rw[←hW];simp[h4]
  ·simp only[h3,if_false]at hW
   cases out with
   |true =>
    simp[wrap64,Du,h3];rw[←hW];simp
   |false =>
    by_cases h5:cn=0
    ·by_cases h6:since<u.down
     ·simp[wrap64,Du,h3,h5,h6]
      rw[←hW];simp[h5];omega
     ·simp[wrap64,Du,h3,h5,h6,BM (qG hc)]
      rw[←hW];simp[h5];omega
    ·simp[wrap64,Du,h3,h5,BM (qG hc)]
     rw[←hW];simp[h5])
theorem aq9(u:Un)(s:Us)(q:Int)(G:List aS):aZ F 258 [un u,us s,i64 q] G=some (.bool (decide (fc u s∧km u s q)),G) :=
 bM rfl rfl (by
  generalize hW:decide (fc u s∧km u s q)=W;by_cases hv:fc u s
  ·simp[wrap64,SG,BN,hv,SX hv]
   rw[←hW];simp[hv]
  ·simp[wrap64,SG,BN,hv]
   rw[←hW];simp[hv])
theorem SY(u:Un)(s:Us)(q:Int)(G:List aS):aZ F 182 [un u,us s,i64 q] G=some (.bool (decide (fc u s∧km u s q)),G) :=
 bM rfl rfl (by
  generalize hW:decide (fc u s∧km u s q)=W;have hV:=yM u s [];by_cases hv:fc u s
  ·obtain⟨hc,h1,h2⟩:=id hv
   obtain⟨cn,since,out⟩:=s;simp only[hv,decide_true]at hV;simp only at h1 h2;simp only[km]at hW;have hf:cn=0∨0<cn:=by
    rcases h2 with h | ⟨_,h⟩
    ·exact .inl h
    ·have:=MN hc h;omega
   by_cases h3:q=0
   ·subst h3
    by_cases h4:0<cn
    ·simp +contextual [wrap64,BK,hV,h4]
     rw[←hW];simp[h4,hv]
    ·simp +contextual [wrap64,BK,hV,h4]
     rw[←hW];simp[h4,hv]
   ·simp only[h3,if_false]at hW
    cases out with
    |true =>
     simp +contextual [wrap64,BK,hV,h3];rw[←hW];simp
    |false =>
     by_cases h5:p8 u q
     ·have h6:=MN hc h5
      have h8:0<q:=by omega
      rcases hf with h7|h7
      ·subst h7
       simp +contextual [wrap64,BK,hV,h3,Ao,hc,h5,h8];rw[←hW];simp[hv,h5]
      ·have h9:¬cn=0:=by omega
       simp +contextual [wrap64,BK,hV,h3,Ao,hc,h5,h8,h7,h9];rw[←hW];simp[hv,h5,h9]
     ·simp +contextual [wrap64,BK,hV,h3,Ao,hc,h5]
      rw[←hW];simp[h5]
  ·simp +contextual [wrap64,BK,hV,hv]
   rw[←hW];simp[hv])
noncomputable def yN(u:Un)(q:Int):Int:=if g6 u≠0 then g6 u else if q=0∨p8 u q then 0 else 1
noncomputable def pow(u:Un)(q:Int):Int:=if g6 u=0∧q≠0∧p8 u q then iw u.table q else 0
theorem Jb(u:Un)(q:Int)(G:List aS):aZ F 234 [un u,i64 q] G=some (.tuple [i64 (pow u q),i64 (yN u q)],G) :=
 bM rfl rfl (by
  by_cases hc:g6 u=0
  ·by_cases h1:q=0
   ·simp[wrap64,I1,tK,hc,h1]
    simp[pow,yN,hc]
   ·by_cases h2:p8 u q
    ·simp[wrap64,I1,tK,hc,h1,BM (qG hc),h2,ML (qG hc).cv]
     simp[pow,yN,hc,h1,h2]
    ·simp[wrap64,I1,tK,hc,h1,BM (qG hc),h2]
     simp[pow,yN,hc,h1,h2]
  ·simp[wrap64,I1,tK,hc]
   simp[pow,yN,hc])
theorem SZ(u:Un)(q:Int)(G:List aS):aZ F 181 [un u,i64 q] G=some (.tuple [i64 (pow u q),i64 (yN u q)],G) :=
 bM rfl rfl (by
  by_cases hc:g6 u=0
  ·by_cases h1:q=0
   ·simp[wrap64,IW,nX,hc,h1]
    simp[pow,yN,hc]
   ·by_cases h2:p8 u q
    ·simp[wrap64,IW,nX,hc,h1,Ao,h2,SS,(qG hc).mc]
     simp[pow,yN,hc,h1,h2]
    ·simp[wrap64,IW,nX,hc,h1,Ao,h2]
     simp[pow,yN,hc,h1,h2]
  ·simp[wrap64,IW,nX,hc]
   simp[pow,yN,hc])
noncomputable def tL(u:Un)(s:Us)(q:Int):Int:=if g6 u≠0 then g6 u else if ¬fc u s then 3 else if ¬km u s q then 15 else 0
def tM(s:Us)(q:Int):Us:=⟨q,if decide (0<s.cn)=decide (0<q) then min 1000 (s.since+1) else 1,s.out⟩
theorem S4(u:Un)(s:Us)(q:Int)(G:List aS):aZ F 145 [un u,us s,i64 q] G =
  some (.tuple (if tL u s q=0 then [us (tM s q),.bool (decide (s.cn=0)&&decide (0<q)),i64 0] else [us ⟨0,0,false⟩,.bool false,i64 (tL u s q)]),G) :=
 bM rfl rfl (by
  by_cases hc:g6 u=0
  ·by_cases hv:fc u s
   ·by_cases hm:km u s q
    ·have h1:=hv.2.1
     simp +contextual (disch:=omega) [wrap64,IS,nX,yM,SY,hc,hv,hm];have e:tL u s q=0:=by simp[tL,hc,hv,hm]
     refine gY (fun h=>?_) (fun h=>?_)
     ·simp at h
      simp[e,tM,h]
     ·simp at h
      simp[e,tM,h]
    ·simp +contextual (disch:=omega) [wrap64,IS,nX,yM,SY,hc,hv,hm]
     simp[tL,hc,hv,hm]
   ·simp +contextual (disch:=omega) [wrap64,IS,nX,yM,hc,hv]
    simp[tL,hc,hv]
  ·simp +contextual (disch:=omega) [wrap64,IS,nX,hc]
   simp[tL,hc])
noncomputable def fm(u:Un)(g:Int):List Int:=((List.range ((u.di / g).toNat+1)).map fun k:Nat=>(k:Int)*g).filter fun q=>decide (p8 u q)
noncomputable def below(u:Un)(g t:Int):List Int:=(fm u g).filter fun q=>decide (q<t)
theorem BO{u:Un}(hu:Uv u){g:Int}(hg:1≤g){q:Int}:q∈fm u g↔p8 u q∧∃k:Nat,q=k*g:=by
 simp only[fm,r9,kP,Ef,iD];constructor
 ·rintro⟨⟨k,_,rfl⟩,h⟩
  exact⟨h,k,rfl⟩
 ·rintro⟨h,k,rfl⟩
  refine⟨⟨k,?_,rfl⟩,h⟩;have h1:=h.2.1;have:(k:Int)≤u.di / g:=(Oo (by omega)).2 h1
  omega
theorem ara{u:Un}{g:Int}(hg:1≤g):(fm u g).Pairwise (· < ·):=by
 refine List.Pairwise.filter _ ?_;rw[V1];refine List.Pairwise.imp ?_ (List.pairwise_lt_range);intro a b sM;exact Int.mul_lt_mul_of_pos_right (by omega) (by omega)
theorem adK{q:Int}:∀{l:List Int},l.Pairwise (· < ·)→q∈l→l.filter (fun x=>decide (x<q+1))=l.filter (fun x=>decide (x<q))++[q]
 |[],_,h=>by simp at h
 |a::l,hp,h=>by
  obtain⟨h1,h2⟩:=te.1 hp;rcases jB.1 h with rfl|h3
  ·have e:∀t,t≤q+1→l.filter (fun x=>decide (x<t))=[]:=fun t ht=>by
    rw[VP];intro b hb;have:=h1 b hb;simp;omega
   have h3:q<q+1:=by omega
   have h4:¬ q<q:=by omega
   simp[h3,e (q+1) (by omega),e q (by omega)]
  ·have:=h1 q h3
   have h4:a<q:=this;have h5:a<q+1:=by omega
   simp[h4,h5,adK h2 h3]
theorem S5{u:Un}{g q:Int}(hg:1≤g)(h:q∈fm u g):below u g (q+1)=below u g q++[q]:=adK (ara hg) h
theorem S6{u:Un}{g t t':Int}(h:∀q∈fm u g,t≤q→q<t'→False)(hle:t≤t'):below u g t=below u g t':=by
 refine GQ fun q hq=>?_;have:=h q hq;by_cases h1:q<t
 ·have:q<t':=by omega
  simp[h1,this]
 ·have h2:¬ q<t':=fun h2=>this (by omega) h2
  simp[h1,h2]
theorem adL{u:Un}{g t:Int}(h:∀q∈fm u g,q<t):below u g t=fm u g:=by
 refine Ec.2 fun q hq=>?_;simp[h q hq]
theorem S7{u:Un}{g t:Int}(h:t≤u.least):below u g t=[]:=by
 refine VP.2 fun q hq=>?_;simp only[fm,r9,iD]at hq;have:=hq.2.1;simp;omega
theorem adM{u:Un}{g q:Int}(hg:1≤g)(h:q∈fm u g):(below u g q).length<(fm u g).length:=by
 have h1:=S5 hg h;have h2:(below u g (q+1)).length≤(fm u g).length:=u5 _ _;rw[h1]at h2;simp at h2;omega
def vZ(q g:Int):Int:=(q+g-1).tdiv g*g
theorem MO{q g:Int}(hq:0≤q)(hg:1≤g):q≤vZ q g∧vZ q g≤q+g-1∧(∃k:Nat,vZ q g=k*g)∧∀k:Nat,q≤k*g→vZ q g≤k*g:=by
 unfold vZ;rw[xT (by omega)]
 have h1:=Int.ediv_mul_le (q+g-1) (b:=g) (by omega)
 have h2:=Int.lt_ediv_add_one_mul_self (q+g-1) (b:=g) (by omega)
 have h3:0≤(q+g-1) / g:=GI (by omega) (by omega)
 rw[J8,Ou]at h2;refine⟨by omega,h1,⟨((q+g-1) / g).toNat,by rw[VI h3]⟩,fun k hk=>?_⟩
 refine Cg ?_ (by omega)
 refine Kf.1 fun h4=>?_;have h5:((k:Int)+1)*g≤(q+g-1) / g*g:=Cg (by omega) (by omega)
 rw[J8,Ou]at h5;omega
theorem S8{u:Un}(hu:Uv u){g q:Int}(hq:0≤q)(hg:1≤g):below u g q=below u g (vZ q g):=by
 obtain⟨h1,_,_,h4⟩:=MO hq hg;refine S6 (fun x hx a b=>?_) h1;obtain⟨_,k,rfl⟩:=(BO hu hg).1 hx;have:=h4 k a;omega
theorem adN{u:Un}(hu:Uv u){g q r:Int}(hg:1≤g)(h:∀t,q≤t→t<r→ins u t)(hle:q≤r):below u g q=below u g r :=
 S6 (fun x hx a b=>((BO hu hg).1 hx).1.2.2 (h x a b)) hle
theorem arb{u:Un}(hu:Uv u){g q:Int}(hg:1≤g)(hq:∃k:Nat,q=k*g):below u g (q+1)=below u g (q+g):=by
 refine S6 (fun x hx a b=>?_) (by omega)
 obtain⟨_,k,rfl⟩:=(BO hu hg).1 hx;obtain⟨m,rfl⟩:=hq;have h1:(m:Int)<k:=by
  refine Int.not_le.1 fun h=>?_;have:=Cg h (show 0≤g by omega)
  omega
 have h2:((m:Int)+1)*g≤k*g:=Cg (by omega) (by omega)
 rw[J8,Ou]at h2;omega
noncomputable def gN(u:Un)(g:Int):Int:=if g6 u≠0 then g6 u else if g<1∨1073741824<g then 1 else if 200<(fm u g).length then 10 else 0
noncomputable def oH(u:Un)(g:Int):List Int:=if gN u g=0 then fm u g else []
abbrev own(l:List Int):V:=.slice (some 0) 1 (l.map fun n=>[i64 n])
theorem S9(u:Un)(g:Int)(G:List aS):aZ F 255 [un u,i64 g] G=some (.tuple [own (oH u g),i64 (gN u g)],G) :=
 bM rfl rfl (by
  by_cases hc:g6 u=0
  ·simp +contextual (disch:=omega) [wrap64,SF,tK,hc]
   refine gY (fun h1=>?_) (fun h1=>?_)
   ·simp[-List.length_eq_zero_iff,-Int.natCast_eq_zero]at h1
    have e:gN u g=1:=by simp[gN,hc,h1]
    simp[oH,e]
   ·simp[-List.length_eq_zero_iff,-Int.natCast_eq_zero]at h1
    have hu:=qG hc;have m1:=hu.least;have m2:=hu.di;have m3:=hu.SV;have hg:1≤g:=h1.1;refine go_loop (fun f:Int=>aqv g (.slice (some 1049) 1 ((below u g f).map fun n=>[i64 n])) f u.row (below u g f).length G) (fun f=>u.least≤f∧f≤1073741825∧(below u g f).length≤200) (fun f=>(1073741826-f).toNat) u.least rfl (by simp[S7]) (by simp[S7];omega) ?_
    rintro f ⟨H8,xk,H9⟩;obtain⟨r1,r2,r3,r4⟩:=MO (q:=f) (g:=g) (by omega) hg
    have r5:=S8 hu (q:=f) (g:=g) (by omega) hg
    have r6:(f+g-1).tdiv g*g=vZ f g:=rfl;have d1:0≤(f+g-1).tdiv g:=xU (by omega) (by omega)
    have d2:(f+g-1).tdiv g≤f+g-1:=by
     have:=Ci (a:=f+g-1) g (by omega)
     omega
    have g0:¬g=0:=by omega
    generalize vZ f g=Z at r1 r2 r3 r4 r5 r6;simp +contextual (disch:=omega) [wrap64,adp,g0,r6];refine bT (fun h2=>?_) (fun h2=>?_)
    ·have hb:below u g f=fm u g:=adL fun q hq=>by
      rw[BO hu hg]at hq;obtain⟨hq,k,rfl⟩:=hq;have:=hq.2.1;refine Int.not_le.1 fun h=>?_;have:=r4 k h;omega
     have e:gN u g=0:=by simp[gN,hc];rw[hb]at H9;omega
     rw[hb];simp[oH,e]
    ·obtain⟨r,s1,s2,s3,s4,s5⟩:=adI hu Z []
     simp +contextual (disch:=omega) [wrap64,s1];refine gY (fun h3=>?_) (fun h3=>?_)
     ·simp[-List.length_eq_zero_iff,-Int.natCast_eq_zero]at h3
      have hb:below u g f=below u g r:=by rw[r5,adN hu hg s4 s2]
      refine bP r (by rw[hb];simp) ⟨by omega,by omega,by rwa [←hb]⟩ (by omega)
     ·simp[-List.length_eq_zero_iff,-Int.natCast_eq_zero]at h3
      subst h3;have hm:r∈fm u g:=(BO hu hg).2 ⟨⟨by omega,by omega,s3⟩,r3⟩
      have hb:below u g (r+1)=below u g f++[r]:=by rw[r5,S5 hg hm]
      refine bT (fun h4=>?_) (fun h4=>?_)
      ·have:=adM hg hm
       have e:gN u g=10:=by
        simp only[gN,hc,ne_eq,not_true,if_false];rw[ay (by omega),aM (by rw[←r5]at this;omega)]
       simp[oH,e]
      ·refine bP (r+1) (by rw[hb];simp) ⟨by omega,by omega,by rw[hb];simp;omega⟩ (by omega)
  ·have e:gN u g=g6 u:=by simp[gN,hc]
   simp +contextual (disch:=omega) [wrap64,SF,tK,hc];simp[oH,e,hc])
theorem FH(u:Un)(g:Int)(G:List aS):aZ F 193 [un u,i64 g] G=some (.tuple [own (oH u g),i64 (gN u g)],G) :=
 bM rfl rfl (by
  by_cases hc:g6 u=0
  ·simp +contextual (disch:=omega) [wrap64,Sg,nX,hc]
   refine gY (fun h1=>?_) (fun h1=>?_)
   ·simp[-List.length_eq_zero_iff,-Int.natCast_eq_zero]at h1
    have e:gN u g=1:=by simp[gN,hc,h1]
    simp[oH,e]
   ·simp[-List.length_eq_zero_iff,-Int.natCast_eq_zero]at h1
    have hu:=qG hc;have m1:=hu.least;have m2:=hu.di;have m3:=hu.SV;have hg:1≤g:=h1.1;have g0:¬g=0:=by omega
    obtain⟨r1,r2,r3,r4⟩:=MO (q:=u.least) (g:=g) (by omega) hg
    have r5:=S8 hu (q:=u.least) (g:=g) (by omega) hg
    have r6:(u.least+g-1).tdiv g*g=vZ u.least g:=rfl;have d1:0≤(u.least+g-1).tdiv g:=xU (by omega) (by omega)
    have d2:(u.least+g-1).tdiv g≤u.least+g-1:=by
     have:=Ci (a:=u.least+g-1) g (by omega)
     omega
    rw[S7 (by omega)]at r5
    generalize vZ u.least g=Z at r1 r2 r3 r4 r5 r6;simp +contextual (disch:=omega) [wrap64,g0,r6];refine go_loop (fun f:Int=>apo g (.slice (some 1056) 1 ((below u g f).map fun n=>[i64 n])) f u.row (below u g f).length G) (fun f=>u.least≤f∧f≤2147483648∧(∃k:Nat,f=k*g)∧(below u g f).length≤200) (fun f=>(2147483649-f).toNat) Z rfl (by simp[←r5]) ⟨by omega,by omega,r3,by rw[←r5];simp⟩ ?_
    rintro f ⟨H8,xk,hf4,H9⟩;simp +contextual (disch:=omega) [wrap64,aci];refine bT (fun h2=>?_) (fun h2=>?_)
    ·rcases adJ hu f []with⟨e,s1,s2,s3,s4,s5⟩ | ⟨s1,s2⟩
     ·obtain⟨p1,p2,p3,p4⟩:=MO (q:=e) (g:=g) (by omega) hg
      have p5:=S8 hu (q:=e) (g:=g) (by omega) hg
      have p6:(e+g-1).tdiv g*g=vZ e g:=rfl;have t1:0≤(e+g-1).tdiv g:=xU (by omega) (by omega)
      have t2:(e+g-1).tdiv g≤e+g-1:=by
       have:=Ci (a:=e+g-1) g (by omega)
       omega
      generalize vZ e g=E at p1 p2 p3 p4 p5 p6;simp +contextual (disch:=omega) [wrap64,s1,g0,p6];have hb:below u g f=below u g E:=by rw[←p5];exact adN hu hg s5 (by omega)
      exact bP E (by rw[hb];simp) ⟨by omega,by omega,p3,by rwa [←hb]⟩ (by omega)
     ·have hm:f∈fm u g↔u.least≤f:=by
       rw[BO hu hg];exact⟨fun h=>h.1.1,fun h=>⟨⟨h,by omega,s2⟩,hf4⟩⟩
      have hm:=hm.2 H8;have hb:below u g (f+g)=below u g f++[f]:=by rw[←arb hu hg hf4,S5 hg hm]
      simp +contextual (disch:=omega) [wrap64,s1];refine bT (fun h4=>?_) (fun h4=>?_)
      ·have:=adM hg hm
       have e:gN u g=10:=by
        simp only[gN,hc,ne_eq,not_true,if_false];rw[ay (by omega),aM (by omega)]
       simp[oH,e]
      ·refine bP (f+g) (by rw[hb];simp) ⟨by omega,by omega,?_,by rw[hb];simp;omega⟩ (by omega)
       obtain⟨k,hk⟩:=hf4;exact⟨k+1,by rw[hk];simp[J8]⟩
    ·have hb:below u g f=fm u g:=adL fun q hq=>by
      rw[BO hu hg]at hq;have:=hq.1.2.1;omega
     have e:gN u g=0:=by simp[gN,hc];rw[hb]at H9;omega
     rw[hb];simp[oH,e]
  ·have e:gN u g=g6 u:=by simp[gN,hc]
   simp +contextual (disch:=omega) [wrap64,Sg,nX,hc];simp[oH,e,hc])
theorem iV{α:Type}[Inhabited α]{l:List α}{a:α}{i:Nat}:nth (l++[a]) i=if i<l.length then nth l i else if i=l.length then a else default:=by
 simp only[nth,List.getD,oQ];split
 ·rfl
 ·split
  ·rename_i h;subst h;simp
  ·rename_i h1 h2
   rw[jT (by simp;omega)]
   rfl
structure Cw(c:List Pt)(x y dx dy least:Int):Prop where
 pos:0<c.length
 kH:c.length≤5
 first:nth c 0=⟨x,y⟩
 step:∀i,0<i→i<c.length→((nth c (i-1)).x<(nth c i).x∧(nth c i).x≤(nth c (i-1)).x+dx)∧(nth c (i-1)).y+least≤(nth c i).y∧(nth c i).y≤(nth c (i-1)).y+dy
theorem Cw.up{c:List Pt}{x y dx dy least:Int}(h:Cw c x y dx dy least)(h0:0≤x∧x≤1000)(h1:0≤y∧y≤1000)(h2:0≤dx∧dx≤1000)(h3:0≤dy∧dy≤1000)(h4:0≤least) :
  ∀i:Nat,i<c.length→(0≤(nth c i).x∧(nth c i).x≤1000+1000*(i:Int))∧0≤(nth c i).y∧(nth c i).y≤1000+1000*(i:Int):=by
 intro i;induction i with
 |zero=>intro hi;have:=h.first;rw[this];simp;omega
 |succ i ih =>
  intro hi;have a:=ih (by omega)
  have b:=h.step (i+1) (by omega) hi
  simp only[sa]at b;omega
theorem Cw.mc{c:List Pt}{x y dx dy least:Int}(h:Cw c x y dx dy least)(h0:0≤x∧x≤1000)(h1:0≤y∧y≤1000)(h2:0≤dx∧dx≤1000)(h3:0≤dy∧dy≤1000)(h4:0≤least):gB c=0:=by
 have hp:=h.pos;have hf:=h.kH;unfold gB;rw[ay (by omega),ay (by omega)]
 refine sL fun i _ hi=>?_;have a:=h.up h0 h1 h2 h3 h4 i (by omega)
 unfold ic;rw[ay (by omega)]
 split
 ·rfl
 ·have b:=h.step i (by omega) (by omega)
  rw[ay (by omega),ay]
  rw[xT (by omega)]
  generalize hu:(nth c i).x-(nth c (i-1)).x=u;generalize hv:(nth c i).y-(nth c (i-1)).y=v;refine Kf.2 ((Oo (by omega)).2 ?_)
  have:v*u≤1000*1000:=GL (by omega) (by omega) (by omega) (by omega)
  omega
abbrev opts(c:List Pt):V:=.slice (some 0) 2 (c.map Pt.row)
theorem Ta{l:List Int}{k:Nat}(hd:c9 l k){x y dx dy:Int}(strict:Bool)(h0:0≤x∧x≤1000)(h1:0≤y∧y≤1000)(h2:1≤dx∧dx≤1000)(h3:1≤dy∧dy≤1000) :
  ∃c k',aZ F 157 [.bm 0 0,i64 x,i64 y,i64 dx,i64 dy,.bool strict] [dk l k]=some (opts c,[dk l k'])∧c9 l k'∧2≤c.length∧Cw c x y dx dy (if strict then 1 else 0):=by
 suffices h:gA (aZ F) 157 [.bm 0 0,i64 x,i64 y,i64 dx,i64 dy,.bool strict] [dk l k] fun v G=>∃c k',v=opts c∧G=[dk l k']∧c9 l k'∧2≤c.length∧Cw c x y dx dy (if strict then 1 else 0) by
  obtain⟨_,_,h,c,k',rfl,rfl,h1⟩:=h;exact⟨c,k',h,h1⟩
 generalize hL:(if strict then 1 else 0:Int)=L
 have FI:0≤L∧L≤1:=by rw[←hL];cases strict<;>simp
 refine gM rfl rfl ?_;obtain⟨a,k1,n1,gR,ha⟩:=fk hd 4 (by omega)
 have main:∀K:cE,(∀c k',c9 l k'→2≤c.length→Cw c x y dx dy L→∀z,K (.exit 0) ⟨[(0,.bm 0 0),(1,i64 (nth c (c.length-1)).x),(2,i64 (nth c (c.length-1)).y),(3,i64 dx),(4,i64 dy),(13,i64 L),(14,.slice (some 1020) 2 (c.map Pt.row)),(15,i64 0),(25,z)],[],[(1020,c.length)],[dk l k']⟩) →
   go (aZ F) abN (abO (.bm 0 0) x y dx dy L (.slice (some 1020) 2 [Pt.row ⟨x,y⟩]) (1+a) 1 [dk l k1]) K:=by
  intro K hK;refine go_loop (fun s:List Pt×Int×Nat=>abO (.bm 0 0) (nth s.1 (s.1.length-1)).x (nth s.1 (s.1.length-1)).y dx dy L (.slice (some 1020) 2 (s.1.map Pt.row)) s.2.1 s.1.length [dk l s.2.2])
   (fun s=>Cw s.1 x y dx dy L∧(0<s.2.1∨2≤s.1.length)∧0≤s.2.1∧(s.1.length:Int)+s.2.1≤5∧c9 l s.2.2) (fun s=>s.2.1.toNat) ([⟨x,y⟩],1+a,k1) rfl (by simp[nth]) ⟨⟨by simp,by simp,rfl,fun i a b=>by simp at b;omega⟩,by simp;omega,by simp;omega,by simp;omega,gR⟩ ?_
  rintro⟨c,m,k⟩ ⟨hc,FJ,MP,Jc,hd⟩;simp only at hc FJ MP Jc hd;have hp:=hc.pos;have hu:=hc.up h0 h1 ⟨by omega,h2.2⟩ ⟨by omega,h3.2⟩ FI.1 (c.length-1) (by omega)
  obtain⟨p,k2,n2,eZ,hp2⟩:=fk hd dx (by omega)
  obtain⟨q,k3,n3,kI,hq⟩:=fk eZ dy (by omega)
  simp (disch:=omega) [wrap64,abM];refine bT (fun h4=>?_) (fun h4=>?_)
  ·simp (disch:=omega) [wrap64,n2,n3]
   refine bP (c++[⟨(nth c (c.length-1)).x+1+p,(nth c (c.length-1)).y+L+q⟩],m-1,k3) (by simp[iV]) ⟨⟨by simp,by simp;omega,?_,fun i hi hj=>?_⟩,by simp;omega,by simp;omega,by simp;omega,kI⟩ (by simp;omega)
   ·rw[iV,aM hp];exact hc.first
   ·simp at hj
    rw[iV,iV];by_cases jy:i<c.length
    ·rw[aM (by omega),aM (by omega)]
     exact hc.step i hi jy
    ·obtain rfl:i=c.length:=by omega
     rw[aM (by omega),ay (by omega),aM rfl]
     simp only;omega
  ·obtain rfl:m=0:=by omega
   exact hK c k hd (by omega) hc _
 cases strict with
 |true =>
  simp at hL;subst hL;simp (disch:=omega) [wrap64,R7,n1];refine main _ fun c k' q1 q2 q3 z=>?_;simp (disch:=omega) [wrap64,wrap64];exact⟨c,rfl,k',rfl,q1,q2,q3⟩
 |false =>
  simp at hL;subst hL;simp (disch:=omega) [wrap64,R7,n1];refine main _ fun c k' q1 q2 q3 z=>?_;simp (disch:=omega) [wrap64,wrap64];exact⟨c,rfl,k',rfl,q1,q2,q3⟩
structure Uw(u:Un):Prop where
 table:Cw u.table 0 0 10 30 0
 two:2≤u.table.length
 least:1≤u.least∧u.least≤8
 di:u.least≤u.di∧u.di≤19
 kH:u.fS.length≤2
 MM:∀i,i<u.fS.length→(0≤(nth u.fS i).lo∧(nth u.fS i).hi≤20)∧(nth u.fS i).lo<(nth u.fS i).hi
 up:0≤u.up∧u.up≤2
 down:0≤u.down∧u.down≤2
theorem Uw.mc{u:Un}(h:Uw u):g6 u=0:=by
 have c:=h.table.mc (by omega) (by omega) (by omega) (by omega) (by omega)
 have hp:=h.table.pos;have hf:=h.table.kH;have hu:=h.table.up (by omega) (by omega) (by omega) (by omega) (by omega) (u.table.length-1) (by omega)
 have a1:=h.least;have a2:=h.di;have a3:=h.kH;have a4:=h.up;have a5:=h.down;have z:dH (lB u.fS) u.fS.length 0=0:=sL fun i _ hi=>by
  have:=h.MM i (by omega)
  rw[lB,ay (by omega),ay (by omega)]
 unfold g6;rw[ay (by omega),ay (by omega),ay (by omega),ay (by omega),ay (by omega),ay (by omega)]
abbrev ung(u:Un):V:=.agg [iM u.table,i64 u.least,i64 u.di,.slice (some 0) 2 (u.fS.map Bd.row),i64 u.up,i64 u.down]
theorem ard{l:List Int}{k:Nat}(hd:c9 l k):∃u k',aZ F 158 [.bm 0 0] [dk l k]=some (ung u,[dk l k'])∧c9 l k'∧Uw u:=by
 suffices h:gA (aZ F) 158 [.bm 0 0] [dk l k] fun v G=>∃u k',v=ung u∧G=[dk l k']∧c9 l k'∧Uw u by
  obtain⟨_,_,h,u,k',rfl,rfl,h1⟩:=h;exact⟨u,k',h,h1⟩
 refine gM rfl rfl ?_;obtain⟨c,k1,n1,gR,qv,hc⟩:=Ta hd (x:=0) (y:=0) (dx:=10) (dy:=30) false (by omega) (by omega) (by omega) (by omega)
 obtain⟨a1,k2,n2,eZ,Tb⟩:=fk gR 8 (by omega)
 obtain⟨a2,k3,n3,kI,Tc⟩:=fk eZ 3 (by omega)
 obtain⟨a3,k4,n4,qH,ha3⟩:=fk kI 3 (by omega)
 obtain⟨a4,k5,n5,Ap,ha4⟩:=fk qH 12 (by omega)
 obtain⟨a5,k6,n6,DD,ha5⟩:=fk Ap 3 (by omega)
 simp (disch:=omega) [wrap64,abQ,n1,n2,n3,n4,n5,n6];refine go_loop (fun s:List Bd×Int×Nat=>ao3 (.bm 0 0) s.2.1 [.cb,i64 0,i64 0,.cb,i64 0,i64 0] [iM c,i64 (1+a1),i64 (1+a1+a4),.slice (some 1040) 2 (s.1.map Bd.row),i64 a2,i64 a3] s.1.length [dk l s.2.2])
  (fun s=>(∀i,i<s.1.length→(0≤(nth s.1 i).lo∧(nth s.1 i).hi≤20)∧(nth s.1 i).lo<(nth s.1 i).hi)∧0≤s.2.1∧(s.1.length:Int)+s.2.1≤2∧c9 l s.2.2) (fun s=>s.2.1.toNat) ([],a5,k6) rfl (by simp) ⟨fun i h=>by simp at h,by simp;omega,by simp;omega,DD⟩ ?_
 rintro⟨z,m,k⟩ ⟨hz,FJ,MP,hd⟩;simp only at hz FJ MP hd;obtain⟨b1,k7,n7,Td,hb1⟩:=fk hd 16 (by omega)
 obtain⟨b2,k8,n8,hd8,rj⟩:=fk Td 5 (by omega)
 simp (disch:=omega) [wrap64,abP];refine bT (fun h4=>?_) (fun h4=>?_)
 ·simp (disch:=omega) [wrap64,n7,n8]
  refine bP (z++[⟨b1,b1+1+b2⟩],m-1,k8) (by simp) ⟨fun i hi=>?_,by simp;omega,by simp;omega,hd8⟩ (by simp;omega)
  simp at hi;rw[iV];split
  ·exact hz i (by assumption)
  ·rw[aM (by omega)]
   simp only;omega
 ·refine⟨⟨c,1+a1,1+a1+a4,z,a2,a3⟩,⟨rfl,rfl,rfl,rfl,rfl,rfl⟩,k,rfl,hd,?_⟩
  exact⟨hc,qv,by simp only;omega,by simp only;omega,by simp only;omega,hz,by simp only;omega,by simp only;omega⟩
theorem adU{u:Un}{g:Int}:(fm u g).length≤(u.di / g).toNat+1:=by
 refine iQ (u5 _ _) ?_;simp
theorem Uw.gN{u:Un}(h:Uw u){g:Int}(h1:1≤g)(h2:g≤1073741824):gN u g=0:=by
 have a:=adU (u:=u) (g:=g);have b:=h.di;have c:=h.least;have d:u.di / g≤u.di:=Ka _ (by omega)
 unfold Go.Proofs.YtmppfkgfnnebeaaGreatDoor.gN;rw[ay (by simp[h.mc]),ay (by omega),ay (by omega)]
theorem arf{l:List Int}{k:Nat}(hd:c9 l k){u:Un}(hu:Uw u):∃s k',aZ F 159 [.bm 0 0,un u] [dk l k]=some (us s,[dk l k'])∧c9 l k'∧fc u s:=by
 suffices h:∀Q:V→List aS→Prop,(∀s k',c9 l k'→fc u s→Q (us s) [dk l k'])→gA (aZ F) 159 [.bm 0 0,un u] [dk l k] Q by
  obtain⟨_,_,h,s,k',rfl,rfl,h1⟩:=h (fun v G=>∃s k',v=us s∧G=[dk l k']∧c9 l k'∧fc u s) fun s k' a b=>⟨s,k',rfl,rfl,a,b⟩;exact⟨s,k',h,h1⟩
 intro Q hQ;refine gM rfl rfl ?_;have hc:=hu.mc;have he:=hu.gN (g:=1) (by omega) (by omega)
 have hf:oH u 1=fm u 1:=by simp[oH,he]
 have FK:=adU (u:=u) (g:=1);have hm:=hu.di;obtain⟨a1,k1,n1,gR,Tb⟩:=fk hd 5 (by omega)
 obtain⟨a2,k2,n2,eZ,Tc⟩:=fk gR 7 (by omega)
 obtain⟨a3,k3,n3,kI,ha3⟩:=fk eZ 2 (by omega)
 obtain⟨a4,k4,n4,qH,ha4⟩:=fk kI (fm u 1).length (by omega)
 have off:∀o,fc u ⟨0,a1,o⟩:=fun o=>⟨hc,by simp only;omega,.inl rfl⟩
 by_cases h1:0<(fm u 1).length
 ·by_cases h2:a2=6
  ·simp +contextual (disch:=omega) [-getElem?_pos,wrap64,IU,n1,n2,FH,he,hf,h2]
   exact hQ ⟨0,a1,true⟩ k2 eZ (off _)
  ·by_cases h3:a3=0
   ·have h4:a4.toNat<(fm u 1).length:=by omega
    simp +contextual (disch:=omega) [-getElem?_pos,wrap64,IU,n1,n2,n3,n4,FH,he,hf,h2,h3,h1,ei h4];refine hQ ⟨nth (fm u 1) a4.toNat,a1,false⟩ k4 qH ⟨hc,by simp only;omega,.inr ⟨rfl,?_⟩⟩
    exact((BO (qG hc) (by omega)).1 (fW (ei h4))).1
   ·simp +contextual (disch:=omega) [-getElem?_pos,wrap64,IU,n1,n2,n3,FH,he,hf,h2,h3,h1]
    exact hQ ⟨0,a1,false⟩ k3 kI (off _)
 ·simp +contextual (disch:=omega) [-getElem?_pos,wrap64,IU,n1,n2,FH,he,hf,h1]
  exact hQ ⟨0,a1,decide (a2=6)⟩ k2 eZ (off _)
abbrev kJ(l:List Un):V:=.slice none 6 (l.map Un.row)
abbrev kn(l:List Us):V:=.slice none 3 (l.map Us.row)
abbrev Te(l:List Un):V:=.slice (some 0) 6 (l.map Un.row)
abbrev Jd(l:List Us):V:=.slice (some 0) 3 (l.map Us.row)
structure Je(a:List Un)(b:List Us):Prop where
 len:a.length=b.length
 unit:∀i,i<a.length→Uw (nth a i)
 state:∀i,i<a.length→fc (nth a i) (nth b i)
theorem arh{l:List Int}{k:Nat}(hd:c9 l k){m:Nat}(hm:m≤1000):∃a b k',aZ F 118 [.bm 0 0,i64 m] [dk l k]=some (.tuple [Te a,Jd b],[dk l k'])∧c9 l k'∧Je a b∧a.length≤m:=by
 suffices h:∀Q:V→List aS→Prop,(∀a b k',c9 l k'→Je a b→a.length≤m→Q (.tuple [Te a,Jd b]) [dk l k'])→gA (aZ F) 118 [.bm 0 0,i64 m] [dk l k] Q by
  obtain⟨_,_,h,a,b,k',rfl,rfl,h1⟩:=h (fun v G=>∃a b k',v=.tuple [Te a,Jd b]∧G=[dk l k']∧c9 l k'∧Je a b∧a.length≤m) fun a b k' h1 h2 h3=>⟨a,b,k',rfl,rfl,h1,h2,h3⟩;exact⟨a,b,k',h,h1⟩
 intro Q hQ;refine gM rfl rfl ?_;obtain⟨n,k1,n1,gR,hn⟩:=fk hd (m+1) (by omega)
 simp (disch:=omega) [wrap64,aa5,n1];refine go_loop (fun s:List Un×List Us×Int×Nat=>an5 (.bm 0 0) (.slice (some 1023) 6 (s.1.map Un.row)) (.slice (some 1029) 3 (s.2.1.map Us.row)) s.2.2.1 s.1.length s.2.1.length [dk l s.2.2.2])
  (fun s=>Je s.1 s.2.1∧(s.1.length:Int)+s.2.2.1≤m∧0≤s.2.2.1∧c9 l s.2.2.2) (fun s=>s.2.2.1.toNat) ([],[],n,k1) rfl (by simp) ⟨⟨rfl,by simp,by simp⟩,by simp;omega,by simp;omega,gR⟩ ?_
 rintro⟨a,b,n,k⟩ ⟨sM,h1,h2,hd⟩;simp only at sM h1 h2 hd;obtain⟨u,k2,n2,eZ,hu⟩:=ard hd;obtain⟨s,k3,n3,kI,hs⟩:=arf eZ hu;have hl:=sM.len;simp (disch:=omega) [wrap64,aa4];refine bT (fun h4=>?_) (fun h4=>?_)
 ·simp (disch:=omega) [wrap64,n2,n3]
  refine bP (a++[u],b++[s],n-1,k3) (by simp) ⟨⟨by simp[hl],fun i hi=>?_,fun i hi=>?_⟩,by simp;omega,by simp;omega,kI⟩ (by simp;omega)
  ·simp at hi
   rw[iV];split
   ·exact sM.unit i (by assumption)
   ·rw[aM (by omega)];exact hu
  ·simp at hi
   rw[iV,iV,← hl];split
   ·exact sM.state i (by assumption)
   ·rw[aM (by omega),aM (by omega)];exact hs
 ·exact hQ a b k hd sM (by omega)
end Go.Proofs.YtmppfkgfnnebeaaGreatDoor

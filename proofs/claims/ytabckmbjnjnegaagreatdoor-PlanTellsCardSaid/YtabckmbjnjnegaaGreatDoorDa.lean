/- - -/
import Derived.Test.YtabckmbjnjnegaaGreatDoorSh
import Derived.Test.YtabckmbjnjnegaaGreatDoorQV
import Derived.Test.YtabckmbjnjnegaaGreatDoorVmN
import Derived.Test.YtabckmbjnjnegaaGreatDoorRows
import Derived.LaidLaws
import Derived.LaidHandle
import Derived.OpenShut
attribute [local simp] Go.Vm.wrap64
namespace Go.Proofs.YtabckmbjnjnegaaGreatDoor
set_option linter.all false
set_option maxRecDepth 100000
section
open Go.Vm Go.Shelf Go.RowKit Go.Lib
variable{w:World}{b:Nat}{c:Array Value}{e:TypeId}{d:Array Int}
def awB(hb:w.heap[b]?=some (.cells c e (0,0))) :
  (Go.Sort.putRow (Value.int .i64) w b 0 d).heap[b]?=some (.cells (Go.Sort.putCells (Value.int .i64) 0 d c) e (0,0)):=by
 simp[Go.Sort.putRow,Go.Sort.mapBlock,Gj,hb,Go.Sort.onCells]
def awC{i:Nat}(h:i≠b):(Go.Sort.putRow (Value.int .i64) w b 0 d).heap[i]?=w.heap[i]?:=by
 simp[Go.Sort.putRow,Go.Sort.mapBlock,Gj,Ne.symm h]
def PE{j:Nat}:(Go.Sort.putCells (Value.int .i64) 0 d c)[j]?=if j<d.size then (c[j]?).map λ_=>.int .i64 d[j]! else c[j]?:=by
 simp only[Go.Sort.putCells,Array.getElem?_mapIdx,A6,true_and,kX,Ab];split
 .rfl
 .cases c[j]?<;>rfl
def holds_of{zs:List Int}(hb:w.heap[b]?=some (.cells c e (0,0)))(hc:∀(j:Nat) z,zs[j]?=some z->c[j]?=some (.int .i64 z)) :
  Go.Sort.Holds (Value.int .i64) w b 0 zs.toArray:=by
 intro j hj;have xO:j<zs.length:=by simpa using hj
 have h1:=hc j zs[j] (eV xO);constructor
 .simp only[World.cell?,hb,kX,h1]
  simp[xO]
 .simp[World.frozen?,hb]
def ahr{w':World}{n:Nat}{os:Array Obj}(hb:w.heap[b]?=some (.cells c e (0,0)))(hw:w'=Go.Sort.grow (Go.Sort.putRow (Value.int .i64) (Go.Sort.ahead w n) b 0 d) os) :
  Written w w' b (Go.Sort.putCells (Value.int .i64) 0 d c) e:=by
 subst hw;have bJ:b<w.heap.size:=(xn.1 hb).1;have hs:(Go.Sort.putRow (Value.int .i64) (Go.Sort.ahead w n) b 0 d).heap.size=w.heap.size:=by simp
 refine⟨rfl,rfl,rfl,by simp,λi hi zF=>?_,?_⟩
 .rw[Go.Sort.heap_grow_old _ _ (by rw[hs];exact zF),awC hi];rfl
 .rw[Go.Sort.heap_grow_old _ _ (by rw[hs];exact bJ)]
  exact awB (w:=Go.Sort.ahead w n) hb
def kf:Int->List Int->List Int
 |_,[]=>[]
 |p,a::l=>if a=p then kf a l else a::kf a l
def WB:∀(x:Int) (l:List Int),dedup (x::l)=x::kf x l
 |_,[]=>rfl
 |x,y::r=>by
  have ih:=WB y r;simp only[dedup,kf];by_cases h:x=y
  .subst h
   simp[ih]
  .have h':(x==y)=false:=by simpa using h
   have h2:¬y=x:=λe=>h e.symm;simp[h',h2,ih]
def ahs(a:Int):∀(p:Int) (l:List Int),kf p (l++[a])=kf p l++(if a=l.getLastD p then [] else [a])
 |p,[]=>by simp[kf]
 |p,b::l=>by
  have ih:=ahs a b l;have e:(b::l).getLastD p=l.getLastD b:=by cases l<;>rfl
  rw[e,vm,kf,kf,ih];split<;>simp
def aht{zs:List Int}:∀{m:Nat},m<=zs.length->compactUpTo zs.toArray m=dedup (zs.take m)
 |0,_=>by simp[compactUpTo,dedup]
 |m+1,h=>by
  have ih:=aht (zs:=zs) (m:=m) (by omega)
  have e:compactUpTo zs.toArray (m+1)=compactUpTo zs.toArray m++(if keeps zs.toArray m then [zs.toArray[m]!] else []):=by
   simp only[compactUpTo,CL,xp,Jp];congr 1;by_cases hk:keeps zs.toArray m=true<;>simp[hk]
  have hm:zs.toArray[m]! = nth zs m:=by simp[nth,h]
  rw[e,ih,hm,uj,bc h];cases m with
  |zero =>
   rw[aJ (keeps_lt_one _ 0 (by omega))]
   simp[dedup]
  |succ m =>
   have qu:zs.toArray[m]! = nth zs m:=by simp[nth,Er,show m<zs.length by omega]
   cases hz:zs with
   |nil=>rw[hz]at h;simp at h
   |cons x r =>
    rw[hz]at h hm qu;simp only[vp]at h;have ahu:(r.take m).getLastD x=nth (x::r) m:=by
     rw[List.getLastD_eq_getLast?,List.getLast?_take];cases m with
     |zero=>simp[nth]
     |succ m =>
      have:m<r.length:=by omega
      simp[nth,Er,this]
    simp only[R4,Option.toList_some];rw[WB,vm,vm,WB,ahs,ahu];by_cases hk:nth (x::r) (m+1)=nth (x::r) m
    .rw[keeps_neg (by omega) (by simp only[rW];rw[hm,qu,hk])]
     simp[hk]
    .rw[keeps_pos (by simp only[rW];rw[hm,qu];exact hk)]
     simp[hk]
def awD(zs:List Int):compactUpTo zs.toArray zs.toArray.size=dedup zs:=by
 have:=aht (zs:=zs) (m:=zs.length) (b8 _)
 rwa [mL]at this
def awE:J9 Tryz.prog 0 254 where
 fn:=⟨_,Tryz.func254,by kernel_rfl,by kernel_rfl⟩
 run:=λw b cap zs c e hb hc h1 h2 h3=>by
  have h3:zs.length<=4294967296:=h3;have bJ:b<w.heap.size:=(xn.1 hb).1;refine(AnyM.slices_Sort_int Tryz.awy b 0 cap zs w (holds_of hb hc) bJ (by omega)).mono λr w' ⟨hr,n,os,hw⟩=>?_
  have hl:=(DD zs).length_eq;rw[<-apS]at hw;refine⟨hr,_,ahr hb hw,by simp[Go.Sort.putCells],λj z hz=>?_,λj hj=>?_⟩
  .have uJ:(qg zs)[j]?=some z:=hz
   have hj:=fg uJ;rw[PE,aJ (by simpa using hj)]
   have C6:j<c.size:=by omega
   simp only[I8 C6,ox];congr 2;rw[eV hj]at uJ;cases uJ;simp[hj]
  .rw[PE,ax (by simp;omega)]
def awF:J9 Tryz.prog 1 255 where
 fn:=⟨_,Tryz.func255,by kernel_rfl,by kernel_rfl⟩
 run:=λw b cap zs c e hb hc h1 h2 h3=>by
  have h3:zs.length<=4294967296:=h3;have bJ:b<w.heap.size:=(xn.1 hb).1;refine(AnyE.slices_Compact Tryz.awA (Value.int .i64) (λ_=>rfl) (EqlAt.intD _ _ .i64) (NeqAt.intD _ _ .i64) 0 Tryz.zeroValue3 b 0 cap zs.toArray w (holds_of hb hc) (by simp;omega) (by simpa using h1)).mono λr w' ⟨hr,n,hw⟩=>?_
  rw[awD]at hr hw;have hd:=HI zs;have wQ:w'=Go.Sort.grow (Go.Sort.putRow (Value.int .i64) (Go.Sort.ahead w n) b 0 (xC 1 zs).toArray) #[]:=by
   rw[Go.Sort.grow_empty];exact hw
  refine⟨hr,_,ahr hb wQ,by simp[Go.Sort.putCells],λj z hz=>?_,λj hj=>?_⟩
  .have hj:=fg hz
   have hl:=UD 1 zs;rw[PE,aJ (by simpa using hj)]
   have C6:j<c.size:=by omega
   simp only[I8 C6,ox];congr 2;rw[eV hj]at hz;cases hz;simp[hj]
  .have hl:=UD 1 zs
   rw[PE,ax (by simp;omega)]
def awG:UE Tryz.prog 187 where
 fn:=⟨_,Tryz.func187,by kernel_rfl,by kernel_rfl⟩
 run:=λw n h0 hl=>by
  obtain⟨k,rfl⟩:=Int.eq_ofNat_of_zero_le h0;have hl:(k:Int)<=4294967296:=hl;have hi:(Tryz.prog.info? 3).map (λi=>(i.zero,i.size,i.bytes))=some (some (.int .i64 0),1,8):=by kernel_rfl
  obtain⟨i0,hi,he⟩:=GG.1 hi;simp only[Prod.mk.injEq]at he;obtain⟨hz,hs,hb⟩:=he;by_cases hk:k=0
  .subst hk
   exact(Any8.slices_Grow_room Tryz.ahq none 0 0 0 w (by omega) (by omega) (by omega) (by omega)).mono λr w' h=>.inl h
  .refine(Any8.slices_Grow_grow Tryz.ahq i0 (.int .i64 0) hi hz (by omega) none 0 0 k [] w (by omega) (by omega) (by rw[hb];omega) (by omega) (by simp) (λ_=>rfl) (λa h=>by cases h)).mono λr w' h=>?_
   obtain⟨rfl,rfl⟩:=h;exact .inr ⟨_,_,_,rfl,rfl,rfl,rfl,rfl,by
    have:=grownCap_ge w (0+k) 0 (Tryz.ahp.t 25);simp[Builtin.zeroCells,Value.cells];omega⟩
def awH(f k:Nat)(h:Go.Vm.look f BQ.sh=some k):J9 Tryz.prog k f:=by
 simp only[BQ,Go.Vm.look]at h;by_cases h0:(187==f)=true
 .rw[h0]at h
  cases h;have:=eq_of_beq h0;subst this;exact awG
 rw[MT.2 h0]at h;by_cases h1:(254==f)=true
 .rw[h1]at h
  cases h;have:=eq_of_beq h1;subst this;exact awE
 .rw[MT.2 h1]at h
  by_cases h2:(255==f)=true
  .rw[h2]at h
   cases h;have:=eq_of_beq h2;subst this;exact awF
  .rw[MT.2 h2]at h
   cases h
end
section
open Go.Vm
open Go.ChangeShapes Go.WideShapes Go.ChangeAt Go.RowKit
def Tryz.own:ownKnob Tryz.prog.godebug=none:=by kernel_rfl
def Tryz.laidOut:laidOutB Tryz.prog=true:=by kernel_rfl
def awI:sj Tryz.prog BQ.pk (aX F):=aoR (Kw ⟨awH,λ_ h=>h⟩ Tryz.checked.mixed aww)
abbrev WC:List Value:=[.bool false,.bool false,.bool true,.bool false,.bool false,.bool false,.bool false,.bool true,.bool true,.bool true]
abbrev Fm:List (String×DataW Unit):=[("hydrocascade/licence.kinds",Rows.laid_hydrocascade_licence_kinds)]
def Tryz.kin:Tryz.prog.globalNamed "hydrocascade/licence.kinds"=some 0:=by kernel_rfl
def Tryz.awJ:(Tryz.prog.globals[0]?).map (·.type)=some 281:=by kernel_rfl
def Tryz.awK:Tryz.prog.underlying 281=some (.array 5 280):=by kernel_rfl
variable{w:World}{fuel:Nat}{x:DataW Unit×List MemPlace}
def Ly{a b:Value}{p q:Bool}(h:DataW.trod (λ_=>()) Tryz.prog w 0 (λ_=>true) false fuel 280 [a,b]=some x)(hx:x.1=.agg [.lit (.bool p),.lit (.bool q)]):a=.bool p/\b=.bool q:=by
 obtain⟨y0,y1,n,rfl,_,h0,h1⟩:=trod_struct2 Tryz.underlying280 h;have c1:Tryz.prog.cellsOf 4=1:=by kernel_rfl
 change DataW.trod _ _ _ _ _ _ n 4 (([a,b].drop 0).take (Tryz.prog.cellsOf 4))=_ at h0;change DataW.trod _ _ _ _ _ _ n 4 (([a,b].drop 1).take (Tryz.prog.cellsOf 4))=_ at h1;rw[c1]at h0 h1;obtain⟨b0,e0,rfl⟩:=DataW.trod_bool (P:=Tryz.prog) (by kernel_rfl:Tryz.prog.underlying 4=some .bool) h0
 obtain⟨b1,e1,rfl⟩:=DataW.trod_bool (P:=Tryz.prog) (by kernel_rfl:Tryz.prog.underlying 4=some .bool) h1
 simp at e0 e1 hx;obtain⟨rfl,rfl⟩:=hx;exact⟨e0,e1⟩
def awL{cs:List Value}(h:DataW.trod (λ_=>()) Tryz.prog w 0 (λ_=>true) false fuel 281 cs=some x)(hx:x.1=Rows.laid_hydrocascade_licence_kinds):cs=WC:=by
 obtain⟨ys,n,_,rfl,hl,hlen,hf⟩:=DataW.trod_array Tryz.awK h;have c2:Tryz.prog.cellsOf 280=2:=by kernel_rfl
 have c10:Tryz.prog.cellsOf 281=10:=by kernel_rfl
 rw[c10]at hl;rw[c2]at hf
 match cs,hl with
 |[a0,a1,a2,a3,a4,a5,a6,a7,a8,a9],_ =>
  match ys,hlen with
  |[y0,y1,y2,y3,y4],_ =>
   simp only[Rows.laid_hydrocascade_licence_kinds,nT,Gp,DataW.agg.injEq,List.cons.injEq,and_true]at hx;obtain⟨x0,x1,x2,x3,x4⟩:=hx;have g0:=Ly (by simpa using hf 0 (by omega)) x0
   have g1:=Ly (by simpa using hf 1 (by omega)) x1
   have g2:=Ly (by simpa using hf 2 (by omega)) x2
   have g3:=Ly (by simpa using hf 3 (by omega)) x3
   have g4:=Ly (by simpa using hf 4 (by omega)) x4
   simp[g0,g1,g2,g3,g4]
def awN{W:World}(h:laidMetH Tryz.prog Fm W):pF BQ.pk W.heap (xV W.heap):=by
 have h':laidMet Tryz.prog Fm W:=by
  obtain h:laidMet Tryz.prog Fm W:=h;exact h
 obtain⟨ps,⟨g,t,cs,fuel,p,q,e1,e2,e3,e4,_,_⟩,_⟩:=h';obtain rfl:0=g:=Option.some.inj (Tryz.kin.symm.trans e1);obtain rfl:281=t:=Option.some.inj (Tryz.awJ.symm.trans e2);have eR:=awL e4 rfl;have e5:W.var? Tryz.prog "hydrocascade/licence.kinds"=some cs:=e3;unfold World.var? at e5;rw[Tryz.kin]at e5;simp only[Ju]at e5;split at e5
 next c ty fz hb=>
  cases e5;intro k row hk;simp only[BQ,qf,Prod.mk.injEq]at hk;obtain⟨rfl,rfl⟩:=hk;have bJ:0<W.heap.size:=(xn.1 hb).1;have eF:xV W.heap 0=10:=by
   unfold xV;rw[hb];have:=congrArg List.length eR;simpa using this
  refine⟨bJ,by rw[eF];decide,λj v hj=>?_⟩
  have hc:cellAt W.heap 0 j=WC[j]?:=by
   unfold cellAt;rw[hb];simp only;rw[<-Array.getElem?_toList,eR]
  have aHF:j<10:=by
   rcases cS j 10 with g|g
   .exact g
   .rw[kW (by simpa using g)]at hj;cases hj
  rw[hc];rcases (by omega:j=0\/j=1\/j=2\/j=3\/j=4\/j=5\/j=6\/j=7\/j=8\/j=9) with rfl|rfl|rfl|rfl|rfl|rfl|rfl|rfl|rfl|rfl <;>
   (simp at hj;subst hj;exact⟨rfl,_,rfl,.bool _⟩)
 .cases e5
noncomputable def ahx(os:Os):World :=
 let w0:=World.holding Tryz.prog os ⟨#[],#[],[]⟩
 {w0 with heap:=w0.heap.modify 0 fun
   |.cells _ t frozen=>.cells WC.toArray t frozen
   |o=>o }
def awO(os:Os)(args:Array Value):laidMetH Tryz.prog Fm ((ahx os).forCall (λ_ _=>0) ⟨#[],args,[]⟩).memory :=
 laidMetH_of_parts (laidMet_of_run' 8 (by kernel_rfl) (by kernel_rfl)) (by kernel_rfl)
end
section
open Go.Vm
attribute [local simp] mX mY lX mW
def AG(n m:Int):Int:=(IntKind.i64.wrap (n.tmod m+m)).tmod m
def PF{n m:Int}(hm:m≠0)(G:List aM):aX F 10 [i64 n,i64 m] G=some (i64 (AG n m),G) :=
 bD rfl rfl (by simp[ac2,hm,AG])
abbrev ints(l:List Int):V:=.slice none 1 (l.map λn=>[i64 n])
abbrev dk(l:List Int)(k:Nat):aM:=.cells [ints l,i64 k]
variable{l:List Int}{k:Nat}
def awP{n:Int}(h:n<1\/l.length<=k):aX F 8 [.bu 0 0,i64 n] [dk l k]=some (i64 0,[dk l k]) :=
 bD rfl rfl (by
  by_cases h1:n<1
  .simp[OU,h1]
  .have h2:l.length<=k:=h.resolve_left h1
   simp[OU,h1,h2])
variable{v:Int}
def awQ{n:Int}(h1:1<=n)(h2:l[k]?=some v)(hk:k<9223372036854775807):aX F 8 [.bu 0 0,i64 n] [dk l k]=some (i64 (AG v n),[dk l (k+1)]) :=
 bD rfl rfl (by
  have hn:¬ n<1:=by omega
  have hl:¬ l.length<=k:=by have:=(mK.1 h2).1;omega
  simp (disch:=omega) [-getElem?_pos,OU,hn,hl,h2,PF])
def PG{n:Int}(h1:1<=n)(h2:n<=4611686018427387904):0<=AG v n/\AG v n<n:=by
 have h3:-n<v.tmod n:=by
  rcases Int.le_total 0 v with h|h
  .have:=M4 n h;omega
  .have h4:=M3 (-v) (show 0<n by omega)
   rw[Int.neg_tmod]at h4;omega
 have h4:v.tmod n<n:=M3 _ (by omega)
 unfold AG;rw[wrap64 (by omega) (by omega)]
 exact⟨M4 _ (by omega),M3 _ (by omega)⟩
def dz(l:List Int)(k:Nat):Prop:=k<=l.length/\l.length<=9223372036854775807
def fG(hd:dz l k)(n:Int)(hn:n<=4611686018427387904) :
  ∃v k',aX F 8 [.bu 0 0,i64 n] [dk l k]=some (i64 v,[dk l k'])/\dz l k'/\0<=v/\(v<n\/v=0):=by
 by_cases h:n<1\/l.length<=k
 .exact⟨0,k,awP h,hd,by omega,.inr rfl⟩
 .obtain⟨h1,h2⟩:=hd
  have h3:k<l.length:=by omega
  have h4:=awQ (n:=n) (l:=l) (k:=k) (v:=nth l k) (by omega) (dQ h3) (by omega)
  have h5:=PG (v:=nth l k) (n:=n) (by omega) hn
  exact⟨_,_,h4,⟨by omega,h2⟩,h5.1,.inl h5.2⟩
def PH(l:List Int)(G:List aM):aX F 5 [ints l] G=some (.bool (decide (l.length<=500)),G) :=
 bD rfl rfl (by simp[acX];omega)
def ahy(l:List Int):aX F 6 [ints l] []=some (.bu 0 0,[dk l 0]) :=
 bD rfl rfl (by simp[acY])
def dH(f:Nat->Int):Nat->Nat->Int
 |0,_=>0
 |m+1,i=>if f i=0 then dH f m (i+1) else f i
variable{f:Nat->Int}{n:Nat}
def kl{i:Nat}(h:i<n):dH f (n-i) i=if f i=0 then dH f (n-(i+1)) (i+1) else f i:=by
 obtain⟨m,hm⟩:∃m,n-i=m+1:=⟨n-i-1,by omega⟩
 rw[hm,dH,show n-(i+1)=m by omega]
def tT{f:Nat->Int}:∀{m i:Nat},dH f m i=0->∀j,i<=j->j<i+m->f j=0
 |0,i,_,j,h1,h2=>by omega
 |m+1,i,h,j,h1,h2=>by
  unfold dH at h;split at h
  next h0=>
   by_cases hj:j=i
   .rw[hj];exact h0
   .exact tT h j (by omega) (by omega)
  next h0=>exact absurd h h0
def vU{f:Nat->Int}:∀{m i:Nat},(∀j,i<=j->j<i+m->f j=0)->dH f m i=0
 |0,i,_=>rfl
 |m+1,i,h=>by
  unfold dH;rw[aJ (h i (by omega) (by omega))]
  exact vU λj h1 h2=>h j (by omega) (by omega)
def l7:dH f (n-n) n=0:=by rw[pA];rfl
def dZ(n m:Int)(G:List aM):aX F 147 [i64 n,i64 m] G=some (.bool (decide (0<=n)&&decide (n<=m)),G) :=
 bD rfl rfl (by simp +contextual [afC])
def awR(n m:Int)(G:List aM):aX F 140 [i64 n,i64 m] G=some (.bool (decide (0<=n)&&decide (n<=m)),G) :=
 bD rfl rfl (by simp +contextual [afu])
def dj(n m:Int)(G:List aM):aX F 93 [i64 n,i64 m] G=some (.bool (decide (0<=n)&&decide (n<=m)),G) :=
 bD rfl rfl (by simp[aeF,awR])
structure Pt where
 x:Int
 y:Int
 deriving Inhabited,DecidableEq
abbrev Pt.row(p:Pt):List V:=[i64 p.x,i64 p.y]
abbrev jK(c:List Pt):V:=.slice none 2 (c.map Pt.row)
def jn(c:List Pt)(i:Nat):Int :=
 if ¬((0<=(nth c i).x/\(nth c i).x<=1073741824)/\0<=(nth c i).y/\(nth c i).y<=274877906944) then 1
 else if i=0 then 0
 else if (nth c i).x<=(nth c (i-1)).x\/(nth c i).y<(nth c (i-1)).y then 4
 else if (4611686018427387904:Int).tdiv ((nth c i).x-(nth c (i-1)).x)<(nth c i).y-(nth c (i-1)).y then 1 else 0
def iu(c:List Pt):Int:=if c.length=0 then 3 else if 100<c.length then 10 else dH (jn c) c.length 0
def PI{c:List Pt}{i:Nat}(h:jn c i=0):(0<=(nth c i).x/\(nth c i).x<=1073741824)/\0<=(nth c i).y/\(nth c i).y<=274877906944:=by
 unfold jn at h;split at h
 .cases h
 next h1=>exact jf h1
def WD{c:List Pt}{i:Nat}(h:jn c i=0)(hi:0<i):(nth c (i-1)).x<(nth c i).x/\(nth c (i-1)).y<=(nth c i).y /\
  (nth c i).y-(nth c (i-1)).y<=(4611686018427387904:Int).tdiv ((nth c i).x-(nth c (i-1)).x):=by
 unfold jn at h;split at h
 .cases h
 .rw[ax']at h
  split at h
  .cases h
  .split at h
   .cases h
   .omega
def awS(a b:Int)(h:0<a)(G:List aM):aX F 184 [i64 a,i64 b] G=some (.bool (decide ((4611686018427387904:Int).tdiv a<b)),G) :=
 bD rfl rfl (by
  have h1:0<=(4611686018427387904:Int).tdiv a:=z6 (by omega) (by omega)
  have h2:(4611686018427387904:Int).tdiv a<=4611686018427387904:=by
   have:=Eh (a:=4611686018427387904) a (by omega)
   omega
  have h3:a≠0:=by omega
  simp (disch:=omega) [agc,h,h3])
def qw(c:List Pt)(G:List aM):aX F 148 [jK c] G=some (i64 (iu c),G) :=
 bD rfl rfl (by
  generalize hW:iu c=W;unfold iu at hW;simp +contextual (disch:=omega) [-getElem?_pos,-Int.natCast_eq_zero,afE];refine jb (λh=>?_) (λh=>bO (λh'=>?_) (λh'=>?_))
  .simp[-List.length_eq_zero_iff,-Int.natCast_eq_zero]at h
   rw[aJ']at hW
   exact hW
  .simp[-List.length_eq_zero_iff,-Int.natCast_eq_zero]at h
   rw[ax',aJ']at hW
   simpa using hW
  .have hq:dH (jn c) (c.length-0) 0=W:=by
    simp[-List.length_eq_zero_iff,-Int.natCast_eq_zero]at h;rw[ax',ax']at hW
    exact hW
   refine go_loop (λi:Nat=>auq (jK c) (jK c) c.length i G) (λi=>i<=c.length/\dH (jn c) (c.length-i) i=W/\∀j,j<i->jn c j=0) (λi=>c.length-i) 0 rfl (by simp) ⟨by omega,hq,by omega⟩ ?_
   rintro i ⟨hi,hq,hz⟩;simp +contextual (disch:=omega) [-getElem?_pos,-Int.natCast_eq_zero,afD];refine bO (λh1=>?_) (λh1=>?_)
   .have h1:i<c.length:=by omega
    rw[kl h1]at hq;have e:=bc h1;simp +contextual (disch:=omega) [-getElem?_pos,-Int.natCast_eq_zero,bc (l:=c),dZ];refine jb (λh2=>?_) (λh2=>?_)
    .simp +contextual (disch:=omega) [-getElem?_pos,-Int.natCast_eq_zero,h2,dZ]
     simp[-List.length_eq_zero_iff,-Int.natCast_eq_zero]at h2;rw[show jn c i=1 by rw[jn,aJ'],ax (by decide)]at hq
     exact hq
    .simp +contextual (disch:=omega) [-getElem?_pos,-Int.natCast_eq_zero,h2,dZ]
     simp[-List.length_eq_zero_iff,-Int.natCast_eq_zero]at h2;refine jb (λh3=>?_) (λh3=>bO (λh4=>?_) (λh4=>?_))
     .simp[-List.length_eq_zero_iff,-Int.natCast_eq_zero]at h3
      rw[show jn c i=1 by rw[jn,aJ'],ax (by decide)]at hq
      exact hq
     .simp[-List.length_eq_zero_iff,-Int.natCast_eq_zero]at h3
      have h0:jn c i=0:=by rw[jn,ax',aJ']
      rw[h0,aJ rfl]at hq;exact bB' (i+1) ⟨by omega,hq,λj hj=>by rcases cS j i with h|h;exact hz j h;rwa [show j=i by omega]⟩
     .simp[-List.length_eq_zero_iff,-Int.natCast_eq_zero]at h3
      have h5:((i:Int)-1).toNat=i-1:=by omega
      have h6:i-1<c.length:=by omega
      have h7:0<=(i:Int)-1:=by omega
      have h8:=PI (hz (i-1) (by omega))
      simp +contextual (disch:=omega) [-getElem?_pos,-Int.natCast_eq_zero,bc (l:=c),h5,h7];refine jb (λh9=>?_) (λh9=>?_)
      .simp[-List.length_eq_zero_iff,-Int.natCast_eq_zero]at h9
       rw[show jn c i=4 by rw[jn,ax',ax',aJ'],ax (by decide)]at hq
       exact hq
      .simp[-List.length_eq_zero_iff,-Int.natCast_eq_zero]at h9
       simp +contextual (disch:=omega) [-getElem?_pos,-Int.natCast_eq_zero,awS];refine bO (λil=>?_) (λil=>?_)
       .rw[show jn c i=1 by rw[jn,ax',ax',ax',aJ'],ax (by decide)]at hq
        exact hq
       .have h0:jn c i=0:=by rw[jn,ax',ax',ax',ax']
        rw[h0,aJ rfl]at hq;exact bB' (i+1) ⟨by omega,hq,λj hj=>by rcases cS j i with h|h;exact hz j h;rwa [show j=i by omega]⟩
   .obtain rfl:i=c.length:=by omega
    rw[l7]at hq;simp[<-hq])
def oc(c:List Pt)(G:List aM):aX F 149 [jK c] G=some (i64 (iu c),G) :=
 bD rfl rfl (by
  generalize hW:iu c=W;unfold iu at hW;simp +contextual (disch:=omega) [-getElem?_pos,-Int.natCast_eq_zero,afG];refine jb (λh=>?_) (λh=>bO (λh'=>?_) (λh'=>?_))
  .simp[-List.length_eq_zero_iff,-Int.natCast_eq_zero]at h
   rw[aJ']at hW
   exact hW
  .simp[-List.length_eq_zero_iff,-Int.natCast_eq_zero]at h
   rw[ax',aJ']at hW
   simpa using hW
  .have hq:dH (jn c) (c.length-0) 0=W:=by
    simp[-List.length_eq_zero_iff,-Int.natCast_eq_zero]at h;rw[ax',ax']at hW
    exact hW
   refine go_loop (λi:Nat=>aus (jK c) (jK c) c.length i G) (λi=>i<=c.length/\dH (jn c) (c.length-i) i=W/\∀j,j<i->jn c j=0) (λi=>c.length-i) 0 rfl (by simp) ⟨by omega,hq,by omega⟩ ?_
   rintro i ⟨hi,hq,hz⟩;simp +contextual (disch:=omega) [-getElem?_pos,-Int.natCast_eq_zero,afF];refine bO (λh1=>?_) (λh1=>?_)
   .have h1:i<c.length:=by omega
    rw[kl h1]at hq;have e:=bc h1;simp +contextual (disch:=omega) [-getElem?_pos,-Int.natCast_eq_zero,bc (l:=c),dj];refine jb (λh2=>?_) (λh2=>?_)
    .simp +contextual (disch:=omega) [-getElem?_pos,-Int.natCast_eq_zero,h2,dj]
     simp[-List.length_eq_zero_iff,-Int.natCast_eq_zero]at h2;rw[show jn c i=1 by rw[jn,aJ'],ax (by decide)]at hq
     exact hq
    .simp +contextual (disch:=omega) [-getElem?_pos,-Int.natCast_eq_zero,h2,dj]
     simp[-List.length_eq_zero_iff,-Int.natCast_eq_zero]at h2;refine jb (λh3=>?_) (λh3=>bO (λh4=>?_) (λh4=>?_))
     .simp[-List.length_eq_zero_iff,-Int.natCast_eq_zero]at h3
      rw[show jn c i=1 by rw[jn,aJ'],ax (by decide)]at hq
      exact hq
     .simp[-List.length_eq_zero_iff,-Int.natCast_eq_zero]at h3
      have h0:jn c i=0:=by rw[jn,ax',aJ']
      rw[h0,aJ rfl]at hq;exact bB' (i+1) ⟨by omega,hq,λj hj=>by rcases cS j i with h|h;exact hz j h;rwa [show j=i by omega]⟩
     .simp[-List.length_eq_zero_iff,-Int.natCast_eq_zero]at h3
      have h5:((i:Int)-1).toNat=i-1:=by omega
      have h6:i-1<c.length:=by omega
      have h7:0<=(i:Int)-1:=by omega
      have h8:=PI (hz (i-1) (by omega))
      simp +contextual (disch:=omega) [-getElem?_pos,-Int.natCast_eq_zero,bc (l:=c),h5,h7];refine jb (λh9=>?_) (λh9=>?_)
      .simp[-List.length_eq_zero_iff,-Int.natCast_eq_zero]at h9
       rw[show jn c i=4 by rw[jn,ax',ax',aJ'],ax (by decide)]at hq
       exact hq
      .simp[-List.length_eq_zero_iff,-Int.natCast_eq_zero]at h9
       have mQ:(nth c i).x-(nth c (i-1)).x≠0:=by omega
       have wL:(4611686018427387904:Int).tdiv ((nth c i).x-(nth c (i-1)).x)<=4611686018427387904:=by
        have:=Eh (a:=4611686018427387904) ((nth c i).x-(nth c (i-1)).x) (by omega)
        omega
       have h13:0<=(4611686018427387904:Int).tdiv ((nth c i).x-(nth c (i-1)).x):=z6 (by omega) (by omega)
       simp +contextual (disch:=omega) [-getElem?_pos,-Int.natCast_eq_zero,mQ];refine bO (λil=>?_) (λil=>?_)
       .rw[show jn c i=1 by rw[jn,ax',ax',ax',aJ'],ax (by decide)]at hq
        exact hq
       .have h0:jn c i=0:=by rw[jn,ax',ax',ax',ax']
        rw[h0,aJ rfl]at hq;exact bB' (i+1) ⟨by omega,hq,λj hj=>by rcases cS j i with h|h;exact hz j h;rwa [show j=i by omega]⟩
   .obtain rfl:i=c.length:=by omega
    rw[l7]at hq;simp[<-hq])
def sx(c:List Pt)(i:Nat)(x:Int):Int :=
 (nth c (i-1)).y+(((nth c i).y-(nth c (i-1)).y)*(x-(nth c (i-1)).x)).tdiv ((nth c i).x-(nth c (i-1)).x)
def zG(c:List Pt)(x:Int):Nat->Nat->Int
 |0,_=>(nth c (c.length-1)).y
 |m+1,i=>if x<=(nth c i).x then (if i=0 then (nth c i).y else sx c i x) else zG c x m (i+1)
def jy(c:List Pt)(x:Int):Int:=zG c x c.length 0
structure Cv(c:List Pt):Prop where
 pos:0<c.length
 l8:c.length<=100
 x0:∀i,i<c.length->0<=(nth c i).x/\(nth c i).x<=1073741824
 y0:∀i,i<c.length->0<=(nth c i).y/\(nth c i).y<=274877906944
 up:∀i,0<i->i<c.length->(nth c (i-1)).x<(nth c i).x
 mono:∀i,0<i->i<c.length->(nth c (i-1)).y<=(nth c i).y
 prod:∀i,0<i->i<c.length->((nth c i).y-(nth c (i-1)).y)*((nth c i).x-(nth c (i-1)).x)<=4611686018427387904
def oG{c:List Pt}(h:iu c=0):Cv c:=by
 unfold iu at h;split at h
 .cases h
 .split at h
  .cases h
  .have hz:∀i,i<c.length->jn c i=0:=λi hi=>tT h i (by omega) (by omega)
   refine⟨by omega,by omega,λi hi=>(PI (hz i hi)).1,λi hi=>(PI (hz i hi)).2,λi h0 hi=>(WD (hz i hi) h0).1,λi h0 hi=>(WD (hz i hi) h0).2.1,λi h0 hi=>?_⟩
   obtain⟨h1,h2,h3⟩:=WD (hz i hi) h0;generalize PJ:(nth c i).x-(nth c (i-1)).x=dx at *;generalize H5:(nth c i).y-(nth c (i-1)).y=dy at *;have h4:(4611686018427387904:Int).tdiv dx*dx<=4611686018427387904:=by
    have:=Int.mul_tdiv_add_tmod 4611686018427387904 dx;rw[MY]at this;have:=M4 (a:=4611686018427387904) dx (by omega)
    omega
   exact CE (Eg h3 (by omega)) h4
def Cv.lt{c:List Pt}(h:Cv c):∀{i j:Nat},i<j->j<c.length->(nth c i).x<(nth c j).x:=by
 intro i j uT hj;induction j with
 |zero=>omega
 |succ j ih =>
  have:=h.up (j+1) (by omega) hj
  simp at this;rcases cS i j with h1|h1
  .have:=ih h1 (by omega);omega
  .obtain rfl:i=j:=by omega
   exact this
def Cv.le{c:List Pt}(h:Cv c):∀{i j:Nat},i<=j->j<c.length->(nth c i).y<=(nth c j).y:=by
 intro i j uT hj;induction j with
 |zero=>obtain rfl:i=0:=by omega
        omega
 |succ j ih =>
  have:=h.mono (j+1) (by omega) hj
  simp at this;rcases cS j i with h1|h1
  .obtain rfl:i=j+1:=by omega
   omega
  .have:=ih h1 (by omega);omega
variable{x:Int}
def Lz{c:List Pt}(h:Cv c){i:Nat}(h0:0<i)(hi:i<c.length)(h1:(nth c (i-1)).x<=x)(h2:x<=(nth c i).x) :
  0<=((nth c i).y-(nth c (i-1)).y)*(x-(nth c (i-1)).x)/\((nth c i).y-(nth c (i-1)).y)*(x-(nth c (i-1)).x)<=4611686018427387904 /\
  0<=(((nth c i).y-(nth c (i-1)).y)*(x-(nth c (i-1)).x)).tdiv ((nth c i).x-(nth c (i-1)).x) /\
  (((nth c i).y-(nth c (i-1)).y)*(x-(nth c (i-1)).x)).tdiv ((nth c i).x-(nth c (i-1)).x)<=(nth c i).y-(nth c (i-1)).y:=by
 have h3:=h.up i h0 hi;have h4:=h.mono i h0 hi;have h5:=h.prod i h0 hi;generalize PJ:(nth c i).x-(nth c (i-1)).x=dx at *;generalize H5:(nth c i).y-(nth c (i-1)).y=dy at *;generalize ht:x-(nth c (i-1)).x=t at *;have h6:0<=dy*t:=Gl (by omega) (by omega)
 have h7:dy*t<=dy*dx:=MZ (by omega) (by omega)
 refine⟨h6,by omega,z6 h6 (by omega),?_⟩
 have h8:=Int.tdiv_le_tdiv (a:=dy*t) (b:=dy*dx) (c:=dx) (by omega) h7
 rwa [M0 _ (by omega)]at h8
def LA{c:List Pt}:∀{k i:Nat},i<=k->k<=n->(∀j,i<=j->j<k->(nth c j).x<x)->zG c x (n-i) i=zG c x (n-k) k:=by
 intro k;induction k with
 |zero=>intro i h1 _ _;obtain rfl:i=0:=by omega
        rfl
 |succ k ih =>
  intro i h1 h2 h3;rcases cS k i with h|h
  .obtain rfl:i=k+1:=by omega
   rfl
  .rw[ih h (by omega) (λj a b=>h3 j a (by omega))]
   obtain⟨m,hm⟩:∃m,n-k=m+1:=⟨n-k-1,by omega⟩
   have:=h3 k h (by omega)
   rw[hm,zG,ax',show n-(k+1)=m by omega]
def LB{c:List Pt}{i:Nat}(hi:i<n)(h:x<=(nth c i).x):zG c x (n-i) i=if i=0 then (nth c i).y else sx c i x:=by
 obtain⟨m,hm⟩:∃m,n-i=m+1:=⟨n-i-1,by omega⟩
 rw[hm,zG,aJ h]
def Fo{c:List Pt}(h:Cv c)(h1:x<=(nth c 0).x):jy c x=(nth c 0).y:=by
 have:=LB (c:=c) (x:=x) (n:=c.length) h.pos h1;simpa [jy] using this
def AH{c:List Pt}{i:Nat}(h:Cv c)(h0:0<i)(hi:i<c.length)(h1:(nth c (i-1)).x<=x)(h2:x<=(nth c i).x):jy c x=sx c i x:=by
 have up:=h.up i h0 hi;by_cases hx:(nth c (i-1)).x<x
 .have:=LA (c:=c) (x:=x) (n:=c.length) (i:=0) (k:=i) (by omega) (by omega) (λj _ hj=>by
   rcases cS j (i-1) with h3|h3
   .have:=h.lt h3 (by omega);omega
   .obtain rfl:j=i-1:=by omega
    exact hx)
  rw[LB hi h2,ax']at this
  simpa [jy] using this
 .have hx:x=(nth c (i-1)).x:=by omega
  subst hx;have:=LA (c:=c) (x:=(nth c (i-1)).x) (n:=c.length) (i:=0) (k:=i-1) (by omega) (by omega) (λj _ hj=>h.lt (by omega) (by omega))
  rw[LB (n:=c.length) (i:=i-1) (by omega) (by omega)]at this
  have e:sx c i (nth c (i-1)).x=(nth c (i-1)).y:=by simp[sx]
  rw[e];simp only[Ab]at this;rw[jy,this];split
  .rfl
  next h3=>
   have h4:=h.up (i-1) (by omega) (by omega)
   rw[sx,M0 _ (by omega)]
   omega
def PK{c:List Pt}(h:Cv c)(h1:(nth c (c.length-1)).x<=x):jy c x=(nth c (c.length-1)).y:=by
 have hp:=h.pos;rcases cS 1 c.length with h2|h2
 .by_cases hx:(nth c (c.length-1)).x<x
  .have:=LA (c:=c) (x:=x) (n:=c.length) (i:=0) (k:=c.length) (by omega) (by omega) (λj _ hj=>by
    rcases cS j (c.length-1) with h3|h3
    .have:=h.lt h3 (by omega);omega
    .obtain rfl:j=c.length-1:=by omega
     exact hx)
   simp only[Ab,pA]at this;rw[jy,this,zG]
  .obtain rfl:x=(nth c (c.length-1)).x:=by omega
   have hu:=h.up (c.length-1) (by omega) (by omega)
   rw[AH h (i:=c.length-1) (by omega) (by omega) (by omega) (by omega),sx,M0 _ (by omega)]
   omega
 .by_cases hx:x<=(nth c 0).x
  .rw[Fo h hx,show c.length-1=0 by omega]
  .have:=LA (c:=c) (x:=x) (n:=c.length) (i:=0) (k:=c.length) (by omega) (by omega) (λj _ hj=>by
    obtain rfl:j=0:=by omega
    omega)
   simp only[Ab,pA]at this;rw[jy,this,zG]
def WE{c:List Pt}(h:Cv c)(x:Int):x<=(nth c 0).x\/(∃i,0<i/\i<c.length/\(nth c (i-1)).x<=x/\x<=(nth c i).x)\/(nth c (c.length-1)).x<=x:=by
 have hp:=h.pos;by_cases h1:x<=(nth c 0).x
 .exact .inl h1
 .have:∀k,k<c.length->(∃i,0<i/\i<=k/\(nth c (i-1)).x<=x/\x<=(nth c i).x)\/(nth c k).x<=x:=by
   intro k;induction k with
   |zero=>intro _;right;omega
   |succ k ih =>
    intro hk;rcases ih (by omega) with⟨i,a,b,d,e⟩ | h2
    .exact .inl ⟨i,a,by omega,d,e⟩
    .by_cases h3:x<=(nth c (k+1)).x
     .exact .inl ⟨k+1,by omega,by omega,h2,h3⟩
     .right;omega
  rcases this (c.length-1) (by omega) with⟨i,a,b,d,e⟩ | h2
  .exact .inr (.inl ⟨i,a,by omega,d,e⟩)
  .exact .inr (.inr h2)
def H6{c:List Pt}(h:Cv c)(x:Int):(nth c 0).y<=jy c x/\jy c x<=(nth c (c.length-1)).y:=by
 have hp:=h.pos;have h0:=h.le (i:=0) (j:=c.length-1) (by omega) (by omega)
 rcases WE h x with h1 | ⟨i,a,b,d,e⟩ | h1
 .rw[Fo h h1];omega
 .rw[AH h a b d e]
  have h2:=Lz h a b d e;have h3:=h.le (i:=0) (j:=i-1) (by omega) (by omega)
  have h4:=h.le (i:=i) (j:=c.length-1) (by omega) (by omega)
  unfold sx;omega
 .rw[PK h h1];omega
def PL{c:List Pt}(h:Cv c)(x:Int)(G:List aM):aX F 223 [jK c,i64 x] G=some (i64 (jy c x),G) :=
 bD rfl rfl (by
  have hp:=h.pos;have hf:=h.l8;generalize hW:jy c x=W;simp +contextual (disch:=omega) [-getElem?_pos,agQ];refine go_loop (λi:Nat=>avw (jK c) x (jK c) c.length i G) (λi=>i<=c.length/\zG c x (c.length-i) i=W/\(0<i->(nth c (i-1)).x<x)) (λi=>c.length-i) 0 rfl (by simp) ⟨by omega,hW,by omega⟩ ?_
  rintro i ⟨hi,hq,hl⟩;simp +contextual (disch:=omega) [-getElem?_pos,agP];refine bO (λh1=>?_) (λh1=>?_)
  .have h1:i<c.length:=by omega
   simp +contextual (disch:=omega) [-getElem?_pos,bc (l:=c)];refine jb (λh2=>?_) (λh2=>bO (λh3=>?_) (λh3=>?_))
   .simp[-List.length_eq_zero_iff,-Int.natCast_eq_zero]at h2
    obtain rfl:i=0:=by omega
    rw[LB h1 h2.1,aJ rfl]at hq;exact hq
   .simp[-List.length_eq_zero_iff,-Int.natCast_eq_zero]at h2
    have h4:0<i:=by omega
    have h5:1<=(i:Int):=by omega
    have h6:i-1<c.length:=by omega
    have h9:=hl h4;have h7:=Lz h h4 h1 (by omega) h3
    have h8:=h.up i h4 h1;have il:=h.x0 i h1;have mQ:=h.x0 (i-1) h6;have wL:=h.y0 i h1;have h13:=h.y0 (i-1) h6;have WG:(nth c i).x-(nth c (i-1)).x≠0:=by omega
    rw[LB h1 h3,ax',sx]at hq
    simp +contextual (disch:=omega) [-getElem?_pos,bc (l:=c),h5,WG];exact hq
   .simp[-List.length_eq_zero_iff,-Int.natCast_eq_zero]at h2
    have:=LA (c:=c) (x:=x) (n:=c.length) (i:=i) (k:=i+1) (by omega) (by omega) (λj a b=>by
     obtain rfl:j=i:=by omega
     omega)
    rw[this]at hq;exact bB' (i+1) ⟨by omega,hq,λ_=>by simp;omega⟩
  .obtain rfl:i=c.length:=by omega
   have h2:((c.length:Int)-1).toNat=c.length-1:=by omega
   rw[pA,zG]at hq;simp +contextual (disch:=omega) [-getElem?_pos,bc (l:=c),h2];exact hq)
def ahA{c:List Pt}(h:Cv c)(x:Int)(G:List aM):aX F 181 [jK c,i64 x] G=some (i64 (jy c x),G) :=
 bD rfl rfl (by
  have hp:=h.pos;have hf:=h.l8;generalize hW:jy c x=W;simp (disch:=omega) [-getElem?_pos,aga,bc (l:=c)];refine bO (λh1=>?_) (λh1=>?_)
  .rw[Fo h h1]at hW
   exact hW
  .refine go_loop (λi:Nat=>auR (jK c) x (i+1) G) (λi=>i+1<=c.length/\(nth c i).x<=x) (λi=>c.length-i) 0 rfl (by simp) ⟨by omega,by omega⟩ ?_
   rintro i ⟨hi,hl⟩;simp (disch:=omega) [-getElem?_pos,af9];refine bO (λh2=>?_) (λh2=>?_)
   .have h2:i+1<c.length:=by omega
    have h3:((i:Int)+1).toNat=i+1:=by omega
    simp (disch:=omega) [-getElem?_pos,bc (l:=c),h3];refine bO (λh4=>?_) (λh4=>?_)
    .have h7:=Lz h (i:=i+1) (x:=x) (by omega) h2 (by simpa using hl) (by omega)
     have h8:=h.up (i+1) (by omega) h2
     have il:=h.x0 (i+1) h2;have mQ:=h.x0 i (by omega)
     have wL:=h.y0 (i+1) h2;have h13:=h.y0 i (by omega)
     rw[AH h (i:=i+1) (by omega) h2 (by simpa using hl) (by omega),sx]at hW
     simp only[rW]at h7 h8 hW;have WG:(nth c (i+1)).x-(nth c i).x≠0:=by omega
     simp (disch:=omega) [-getElem?_pos,bc (l:=c),WG];exact hW
    .exact bB' (i+1) ⟨by omega,by omega⟩
   .obtain rfl:c.length-1=i:=by omega
    have h3:((c.length:Int)-1).toNat=c.length-1:=by omega
    rw[PK h hl]at hW;simp (disch:=omega) [-getElem?_pos,bc (l:=c),h3];exact hW)
def WH(c:List Pt)(x:Int)(G:List aM):aX F 146 [jK c,i64 x] G=some (.tuple [i64 (if iu c=0 then jy c x else 0),i64 (iu c)],G) :=
 bD rfl rfl (by
  by_cases h:iu c=0
  .simp[VX,oc,h,ahA (oG h)]
  .simp[VX,oc,h])
structure Rs where
 c:List Pt
 d:Int
 l:Int
 f:Int
 s:Int
 t:Int
abbrev Rs.cells(r:Rs):List V:=[jK r.c,i64 r.d,i64 r.l,i64 r.f,i64 r.s,i64 r.t]
def vV(c:List Pt)(i:Nat):Int:=if (nth c i).y<=(nth c (i-1)).y then 4 else 0
def vW(r:Rs):List Int:=[(nth r.c 0).x,r.d,r.l,r.f,r.s,r.t,(nth r.c (r.c.length-1)).x]
def ti(l:List Int)(i:Nat):Int:=if nth l i<nth l (i-1) then 4 else 0
def jz(r:Rs):Int :=
 if iu r.c≠0 then iu r.c else if r.c.length<2 then 3 else if 16777216<(nth r.c (r.c.length-1)).x then 1
 else if dH (vV r.c) (r.c.length-1) 1=0 then dH (ti (vW r)) (7-1) 1 else 4
def ahB{c:List Pt}(h:iu c=0):c.length<=100:=by
 unfold iu at h;split at h
 .cases h
 .split at h
  .cases h
  .omega
def ahC(r:Rs)(G:List aM):aX F 104 [.agg r.cells] G=some (i64 (jz r),G) :=
 bD rfl rfl (by
  generalize hW:jz r=W;unfold jz at hW;simp (disch:=omega) [-getElem?_pos,aeS,qw];refine jb (λh=>?_) (λh=>?_)
  .simp[-List.length_eq_zero_iff,-Int.natCast_eq_zero]at h
   rw[aJ']at hW
   exact hW
  .simp[-List.length_eq_zero_iff,-Int.natCast_eq_zero]at h
   rw[ax']at hW
   refine bO (λh2=>?_) (λh2=>?_)
   .rw[aJ']at hW
    simpa using hW
   .rw[ax']at hW
    have h3:((r.c.length:Int)-1).toNat=r.c.length-1:=by omega
    have h4:r.c.length-1<r.c.length:=by omega
    have h5:0<=(r.c.length:Int)-1:=by omega
    have hl:=ahB h;simp (disch:=omega) [-getElem?_pos,bc (l:=r.c),h3,h4,h5];refine bO (λh6=>?_) (λh6=>?_)
    .rw[aJ']at hW
     simpa using hW
    .rw[ax']at hW
     have hq:(if dH (vV r.c) (r.c.length-1) 1=0 then dH (ti (vW r)) (7-1) 1 else (4:Int))=W:=hW
     clear hW
     refine go_loop (λi:Nat=>as8 r.c.length i r.cells G) (λi=>1<=i/\i<=r.c.length/\(if dH (vV r.c) (r.c.length-i) i=0 then dH (ti (vW r)) (7-1) 1 else (4:Int))=W) (λi=>r.c.length-i) 1 rfl (by simp) ⟨by omega,by omega,hq⟩ ?_
     rintro i ⟨WI,hi,hq⟩;simp (disch:=omega) [-getElem?_pos,aeQ];refine bO (λh7=>?_) (λh7=>?_)
     .have h7:i<r.c.length:=by omega
      rw[kl h7]at hq;have h8:((i:Int)-1).toNat=i-1:=by omega
      have h9:i-1<r.c.length:=by omega
      have il:0<=(i:Int)-1:=by omega
      simp (disch:=omega) [-getElem?_pos,bc (l:=r.c),h8,h9,il,h7];refine bO (λmQ=>?_) (λmQ=>?_)
      .have e:vV r.c i=4:=by rw[vV,aJ mQ]
       rw[e]at hq;simpa using hq
      .have e:vV r.c i=0:=by rw[vV,ax mQ]
       rw[e,aJ rfl]at hq;exact bB' (i+1) ⟨by omega,by omega,hq⟩
     .have h7:i=r.c.length:=by omega
      subst h7;rw[l7]at hq;rw[aJ rfl]at hq;simp (disch:=omega) [-getElem?_pos,bc (l:=r.c),h3,h4,h5];have hL:(vW r).length=7:=rfl;have hO:[V.int IntKind.i64 (nth r.c 0).x,V.int IntKind.i64 r.d,V.int IntKind.i64 r.l,V.int IntKind.i64 r.f,V.int IntKind.i64 r.s,V.int IntKind.i64 r.t,V.int IntKind.i64 (nth r.c (r.c.length-1)).x]=(vW r).map (V.int .i64):=rfl;rw[hO];generalize vW r=L at hq hL ⊢;refine go_loop (λi:Nat=>ata i (L.map (V.int .i64)) G) (λi=>1<=i/\i<=7/\dH (ti L) (7-i) i=W) (λi=>7-i) 1 rfl (by simp) ⟨by omega,by omega,hq⟩ ?_
      rintro j ⟨qY,hj,hq⟩;simp (disch:=omega) [-getElem?_pos,aeR];refine bO (λh7=>?_) (λh7=>?_)
      .have h7:j<7:=by omega
       rw[kl h7]at hq;have h8:((j:Int)-1).toNat=j-1:=by omega
       have h9:j-1<L.length:=by omega
       have il:0<=(j:Int)-1:=by omega
       have mQ:j<L.length:=by omega
       simp (disch:=omega) [-getElem?_pos,bc (l:=L),h8,h9,il,h7,mQ,hL];refine bO (λwL=>?_) (λwL=>?_)
       .have e:ti L j=4:=by rw[ti,aJ wL]
        rw[e]at hq;simpa using hq
       .have e:ti L j=0:=by rw[ti,ax wL]
        rw[e,aJ rfl]at hq;exact bB' (j+1) ⟨by omega,by omega,hq⟩
      .have h7:j=7:=by omega
       subst h7;simpa [dH] using hq)
variable{r:Rs}
def vX(h:jz r=0):iu r.c=0:=by
 unfold jz at h;split at h
 next h1=>exact h
 next h1=>exact jf h1
def ahD{c:List Pt}(h:Cv c):∀{m i:Nat},i+m<c.length->(nth c i).x<=(nth c (i+m)).x
 |0,i,_=>by simp
 |m+1,i,hi=>by
  have h1:=ahD h (m:=m) (i:=i) (by omega)
  have h2:=h.up (i+m+1) (by omega) (by omega)
  have h3:i+m+1-1=i+m:=by omega
  rw[h3]at h2;have h4:i+(m+1)=i+m+1:=by omega
  rw[h4];omega
def DI(r:Rs)(G:List aM):aX F 108 [.agg r.cells] G=some (i64 (jz r),G) :=
 bD rfl rfl (by
  generalize hW:jz r=W;unfold jz at hW;by_cases h:iu r.c=0
  .rw[ax']at hW
   have hl:=ahB h;simp (disch:=omega) [-getElem?_pos,VH,oc,h];refine bO (λh2=>?_) (λh2=>?_)
   .rw[aJ']at hW
    simpa using hW
   .rw[ax']at hW
    have h3:((r.c.length:Int)-1).toNat=r.c.length-1:=by omega
    have h4:r.c.length-1<r.c.length:=by omega
    have h5:0<=(r.c.length:Int)-1:=by omega
    refine go_loop (λi:Nat=>atj r.c.length (jK r.c) r.c.length i r.cells G) (λi=>i<=r.c.length/\∀j,j<i->(nth r.c j).x<=16777216) (λi=>r.c.length-i) 0 rfl (by simp) ⟨by omega,by omega⟩ ?_
    rintro i ⟨hi,hz⟩;simp (disch:=omega) [-getElem?_pos,aeX];refine bO (λh6=>?_) (λh6=>?_)
    .have h6:i<r.c.length:=by omega
     simp (disch:=omega) [-getElem?_pos,bc (l:=r.c),h6];refine bO (λh7=>?_) (λh7=>?_)
     .have h8:=ahD (oG h) (m:=r.c.length-1-i) (i:=i) (by omega)
      rw[show i+(r.c.length-1-i)=r.c.length-1 by omega]at h8
      rw[aJ']at hW
      simpa using hW
     .exact bB' (i+1) ⟨by omega,λj hj=>by rcases cS j i with h|h;exact hz j h;rw[show j=i by omega];omega⟩
    .have h6:i=r.c.length:=by omega
     subst h6;have h8:=hz (r.c.length-1) (by omega)
     rw[ax']at hW
     have hq:(if dH (vV r.c) (r.c.length-1) 1=0 then dH (ti (vW r)) (7-1) 1 else (4:Int))=W:=hW
     clear hW
     refine go_loop (λi:Nat=>atl r.c.length i r.cells G) (λi=>1<=i/\i<=r.c.length/\(if dH (vV r.c) (r.c.length-i) i=0 then dH (ti (vW r)) (7-1) 1 else (4:Int))=W) (λi=>r.c.length-i) 1 rfl (by simp) ⟨by omega,by omega,hq⟩ ?_
     rintro i ⟨WI,hi,hq⟩;simp (disch:=omega) [-getElem?_pos,aeY];refine bO (λh7=>?_) (λh7=>?_)
     .have h7:i<r.c.length:=by omega
      rw[kl h7]at hq;have h8:((i:Int)-1).toNat=i-1:=by omega
      have h9:i-1<r.c.length:=by omega
      have il:0<=(i:Int)-1:=by omega
      simp (disch:=omega) [-getElem?_pos,bc (l:=r.c),h8,h9,il,h7];refine bO (λmQ=>?_) (λmQ=>?_)
      .have e:vV r.c i=4:=by rw[vV,aJ mQ]
       rw[e]at hq;simpa using hq
      .have e:vV r.c i=0:=by rw[vV,ax mQ]
       rw[e,aJ rfl]at hq;exact bB' (i+1) ⟨by omega,by omega,hq⟩
     .have h7:i=r.c.length:=by omega
      subst h7;rw[l7]at hq;rw[aJ rfl]at hq;simp (disch:=omega) [-getElem?_pos,bc (l:=r.c),h3,h4,h5];have hL:(vW r).length=7:=rfl;have hO:[[V.int IntKind.i64 (nth r.c 0).x],[V.int IntKind.i64 r.d],[V.int IntKind.i64 r.l],[V.int IntKind.i64 r.f],[V.int IntKind.i64 r.s],[V.int IntKind.i64 r.t],[V.int IntKind.i64 (nth r.c (r.c.length-1)).x]]=(vW r).map (λn=>[V.int .i64 n]):=rfl;rw[hO];generalize vW r=L at hq hL ⊢;refine go_loop (λi:Nat=>atn (.slice none 1 (L.map (λn=>[V.int .i64 n]))) i G) (λi=>1<=i/\i<=7/\dH (ti L) (7-i) i=W) (λi=>7-i) 1 rfl (by simp) ⟨by omega,by omega,hq⟩ ?_
      rintro j ⟨qY,hj,hq⟩;simp (disch:=omega) [-getElem?_pos,aeZ,hL];refine bO (λh7=>?_) (λh7=>?_)
      .have h7:j<7:=by omega
       rw[kl h7]at hq;have h8:((j:Int)-1).toNat=j-1:=by omega
       have h9:j-1<L.length:=by omega
       have il:0<=(j:Int)-1:=by omega
       have mQ:j<L.length:=by omega
       simp (disch:=omega) [-getElem?_pos,bc (l:=L),h8,h9,il,h7,mQ,hL];refine bO (λwL=>?_) (λwL=>?_)
       .have e:ti L j=4:=by rw[ti,aJ wL]
        rw[e]at hq;simpa using hq
       .have e:ti L j=0:=by rw[ti,ax wL]
        rw[e,aJ rfl]at hq;exact bB' (j+1) ⟨by omega,by omega,hq⟩
      .have h7:j=7:=by omega
       subst h7;simpa [dH] using hq
  .rw[aJ h]at hW
   simp (disch:=omega) [-getElem?_pos,VH,oc,h];exact hW)
def vY(r:Rs)(l:Int):Int:=if jz r≠0 then jz r else if 0<=l/\l<=16777216 then 0 else 1
def awT{l:Int}(h:vY r l=0):jz r=0:=by
 unfold vY at h;split at h
 .exact h
 next h1=>exact jf h1
def ahE(r:Rs)(l:Int)(G:List aM):aX F 145 [.agg r.cells,i64 l] G=some (i64 (vY r l),G) :=
 bD rfl rfl (by
  by_cases h:jz r=0
  .by_cases h1:0<=l
   .by_cases h2:l<=16777216
    .simp[Ln,DI,h,h1,h2,dj,vY]
    .simp[Ln,DI,h,h1,h2,dj,vY]
   .simp[Ln,DI,h,h1,dj,vY]
  .simp[Ln,DI,h,vY])
def PM(r:Rs)(l:Int)(G:List aM):aX F 99 [.agg r.cells,i64 l] G=some (.tuple [i64 (if vY r l=0 then jy r.c l else 0),i64 (vY r l)],G) :=
 bD rfl rfl (by
  by_cases h:vY r l=0
  .simp[VD,ahE,h,WH,vX (awT h)]
  .simp[VD,ahE,h])
def Fp(c:List Pt)(y:Int)(i:Nat):Int :=
 (nth c i).x+((y-(nth c i).y+1)*((nth c (i+1)).x-(nth c i).x)-1).tdiv ((nth c (i+1)).y-(nth c i).y)
def uU(c:List Pt)(y:Int):Nat->Nat->Int
 |0,_=>(nth c (c.length-1)).x
 |m+1,i=>if y<(nth c (i+1)).y then Fp c y i else uU c y m (i+1)
def AI(c:List Pt)(y:Int):Int:=uU c y (c.length-1) 0
def awU{c:List Pt}{y:Int}{i:Nat}(h:i<n):uU c y (n-i) i=if y<(nth c (i+1)).y then Fp c y i else uU c y (n-(i+1)) (i+1):=by
 obtain⟨m,hm⟩:∃m,n-i=m+1:=⟨n-i-1,by omega⟩
 rw[hm,uU,show n-(i+1)=m by omega]
def ahF{c:List Pt}(h:iu c=0)(y:Int)(G:List aM) :
  aX F 204 [jK c,i64 y] G=some (.tuple [i64 (if y<(nth c 0).y then 0 else AI c y),.bool (decide ((nth c 0).y<=y)),i64 0],G) :=
 bD rfl rfl (by
  have hc:=oG h;have hp:=hc.pos;have hl:=hc.l8;simp (disch:=omega) [-getElem?_pos,agv,qw,h,bc (l:=c),hp];refine bO (λh1=>⟨λh2=>absurd h1 (by omega),h1⟩) (λh1=>?_)
  have hT:(List.take c.length (List.map Pt.row c)).tail=c.tail.map Pt.row:=by
   rw[kD (by simp),List.map_tail]
  have LC:c.tail.length=c.length-1:=by simp
  have hTn:∀i,nth c.tail i=nth c (i+1):=λi=>by simp[nth]
  rw[hT];generalize c.tail=T at LC hTn ⊢;refine go_loop (λi:Nat=>avb (jK c) y (.slice none 2 (T.map Pt.row)) ((c.length-1:Nat):Int) i G) (λi=>i<=c.length-1/\uU c y (c.length-1-i) i=AI c y/\(nth c i).y<=y) (λi=>c.length-1-i) 0 rfl (by simp) ⟨by omega,rfl,by omega⟩ ?_
  rintro i ⟨hi,hq,hy⟩;simp (disch:=omega) [-getElem?_pos,agu];refine bO (λh2=>?_) (λh2=>?_)
  .have h2:i<c.length-1:=by omega
   rw[awU h2]at hq;have h3:i<T.length:=by omega
   have h4:i<c.length:=by omega
   simp (disch:=omega) [-getElem?_pos,bc (l:=T),bc (l:=c),h3,h4,hTn];refine bO (λh5=>?_) (λh5=>?_)
   .rw[aJ h5]at hq
    have y1:=hc.y0 i h4;have y2:=hc.y0 (i+1) (by omega)
    have x1:=hc.x0 i h4;have x2:=hc.x0 (i+1) (by omega)
    have u1:=hc.up (i+1) (by omega) (by omega)
    have u2:=hc.prod (i+1) (by omega) (by omega)
    simp only[rW]at u1 u2;have a1:(y-(nth c i).y+1)*((nth c (i+1)).x-(nth c i).x)<=((nth c (i+1)).y-(nth c i).y)*((nth c (i+1)).x-(nth c i).x):=Eg (by omega) (by omega)
    have a2:0<(y-(nth c i).y+1)*((nth c (i+1)).x-(nth c i).x):=RN (by omega) (by omega)
    have b1:0<=((y-(nth c i).y+1)*((nth c (i+1)).x-(nth c i).x)-1).tdiv ((nth c (i+1)).y-(nth c i).y):=z6 (by omega) (by omega)
    have b2:((y-(nth c i).y+1)*((nth c (i+1)).x-(nth c i).x)-1).tdiv ((nth c (i+1)).y-(nth c i).y)<=(y-(nth c i).y+1)*((nth c (i+1)).x-(nth c i).x)-1:=Eh _ (by omega)
    have d0:¬ (nth c (i+1)).y-(nth c i).y=0:=by omega
    have e0:¬ y<(nth c 0).y:=h1;have e1:(nth c 0).y<=y:=by omega
    simp (disch:=omega) [-getElem?_pos,d0,e0,e1];rw[<-hq];rfl
   .rw[ax h5]at hq
    exact bB' (i+1) ⟨by omega,hq,by omega⟩
  .have h2:i=c.length-1:=by omega
   subst h2;have h4:c.length-1<c.length:=by omega
   have h5:((c.length:Int)-1).toNat=c.length-1:=by omega
   have e0:¬ y<(nth c 0).y:=h1;have e1:(nth c 0).y<=y:=by omega
   rw[pA]at hq;simp (disch:=omega) [-getElem?_pos,bc (l:=c),h4,h5,e0,e1];rw[<-hq];rfl)
def lj(r:Rs)(v:Int):Int:=if v<(nth r.c 0).y then (nth r.c 0).x else AI r.c v
def awV(h:jz r=0)(v:Int)(G:List aM):aX F 168 [.agg r.cells,i64 v] G=some (i64 (lj r v),G) :=
 bD rfl rfl (by
  have hp:=(oG (vX h)).pos;by_cases h1:v<(nth r.c 0).y
  .have h2:¬ (nth r.c 0).y<=v:=by omega
   simp[-getElem?_pos,V5,ahF (vX h),h1,h2,bc (l:=r.c),hp,lj]
  .have h2:(nth r.c 0).y<=v:=by omega
   simp[-getElem?_pos,V5,ahF (vX h),h1,h2,bc (l:=r.c),hp,lj])
structure Bd where
 lo:Int
 hi:Int
 deriving Inhabited,DecidableEq
abbrev Bd.row(b:Bd):List V:=[i64 b.lo,i64 b.hi]
abbrev Fq(l:List Bd):V:=.slice none 2 (l.map Bd.row)
structure Un where
 table:List Pt
 least:Int
 dF:Int
 gW:List Bd
 up:Int
 down:Int
 deriving Inhabited,DecidableEq
abbrev Un.row(u:Un):List V:=[jK u.table,i64 u.least,i64 u.dF,Fq u.gW,i64 u.up,i64 u.down]
abbrev un(u:Un):V:=.agg u.row
def m8(z:List Bd)(i:Nat):Int :=
 if ¬((0<=(nth z i).lo/\(nth z i).lo<=1073741824)/\0<=(nth z i).hi/\(nth z i).hi<=1073741824) then 1 else if (nth z i).hi<=(nth z i).lo then 4 else 0
def jc(u:Un):Int :=
 if iu u.table≠0 then iu u.table
 else if 1073741824<(nth u.table (u.table.length-1)).y then 1
 else if u.least<1\/u.dF<u.least\/1073741824<u.dF then 1
 else if 10<u.gW.length then 10
 else if dH (m8 u.gW) u.gW.length 0≠0 then dH (m8 u.gW) u.gW.length 0
 else if ¬((0<=u.up/\u.up<=1000)/\0<=u.down/\u.down<=1000) then 1 else 0
def w6{c:List Pt}(h:iu c=0):0<c.length:=(oG h).pos
def vZ(u:Un)(G:List aM):aX F 105 [un u] G=some (i64 (jc u),G) :=
 bD rfl rfl (by
  obtain⟨c,least,dF,z,up,down⟩:=u;generalize hW:jc ⟨c,least,dF,z,up,down⟩=W;unfold jc at hW;simp only at hW;by_cases hc:iu c=0
  .have hp:=w6 hc
   have hf:=(oG hc).l8;have h2:((c.length:Int)-1).toNat=c.length-1:=by omega
   rw[ax (by simpa using hc)]at hW
   simp +contextual (disch:=omega) [-getElem?_pos,VG,qw,hc,bc (l:=c),h2];refine bO (λh3=>?_) (λh3=>?_)
   .rw[aJ']at hW
    exact hW
   refine jb (λh4=>?_) (λh4=>?_)
   .simp[-List.length_eq_zero_iff,-Int.natCast_eq_zero]at h4
    rw[ax',aJ']at hW
    exact hW
   simp[-List.length_eq_zero_iff,-Int.natCast_eq_zero]at h4;rw[ax',ax']at hW
   refine bO (λh5=>?_) (λh5=>?_)
   .rw[aJ']at hW
    exact hW
   rw[ax']at hW
   refine go_loop (λi:Nat=>atc (Fq z) z.length i [jK c,i64 least,i64 dF,Fq z,i64 up,i64 down] G) (λi=>i<=z.length/\dH (m8 z) (z.length-i) i=dH (m8 z) z.length 0) (λi=>z.length-i) 0 rfl (by simp) ⟨by omega,rfl⟩ ?_
   rintro i ⟨hi,hq⟩;simp +contextual (disch:=omega) [-getElem?_pos,aeT];refine bO (λh1=>?_) (λh1=>?_)
   .have h1:i<z.length:=by omega
    rw[kl h1]at hq;simp +contextual (disch:=omega) [-getElem?_pos,bc (l:=z),dZ];refine jb (λh6=>?_) (λh6=>?_)
    .simp +contextual (disch:=omega) [-getElem?_pos,h6,dZ]
     simp[-List.length_eq_zero_iff,-Int.natCast_eq_zero]at h6;rw[show m8 z i=1 by rw[m8,aJ'],ax (by decide)]at hq
     rw[<-hq,aJ (by decide)]at hW
     exact hW
    .simp +contextual (disch:=omega) [-getElem?_pos,h6,dZ]
     simp[-List.length_eq_zero_iff,-Int.natCast_eq_zero]at h6;refine jb (λh7=>?_) (λh7=>bO (λh8=>?_) (λh8=>?_))
     .simp[-List.length_eq_zero_iff,-Int.natCast_eq_zero]at h7
      rw[show m8 z i=1 by rw[m8,aJ'],ax (by decide)]at hq
      rw[<-hq,aJ (by decide)]at hW
      exact hW
     .simp[-List.length_eq_zero_iff,-Int.natCast_eq_zero]at h7
      rw[show m8 z i=4 by rw[m8,ax',aJ'],ax (by decide)]at hq
      rw[<-hq,aJ (by decide)]at hW
      exact hW
     .simp[-List.length_eq_zero_iff,-Int.natCast_eq_zero]at h7
      rw[show m8 z i=0 by rw[m8,ax',ax'],aJ rfl]at hq
      exact bB' (i+1) ⟨by omega,hq⟩
   .obtain rfl:i=z.length:=by omega
    rw[l7]at hq;rw[<-hq,ax (by decide)]at hW
    simp +contextual (disch:=omega) [-getElem?_pos,dZ];refine jb (λh6=>?_) (λh6=>?_)
    .simp +contextual (disch:=omega) [-getElem?_pos,h6,dZ]
     simp[-List.length_eq_zero_iff,-Int.natCast_eq_zero]at h6;rw[aJ']at hW
     exact hW
    .simp +contextual (disch:=omega) [-getElem?_pos,h6,dZ]
     simp[-List.length_eq_zero_iff,-Int.natCast_eq_zero]at h6;refine jb (λh7=>?_) (λh7=>?_)
     .simp[-List.length_eq_zero_iff,-Int.natCast_eq_zero]at h7
      rw[aJ']at hW
      exact hW
     .simp[-List.length_eq_zero_iff,-Int.natCast_eq_zero]at h7
      rw[ax']at hW
      exact hW
  .rw[aJ (by simpa using hc)]at hW
   simp +contextual (disch:=omega) [-getElem?_pos,VG,qw,hc];exact hW)
def pR(u:Un)(G:List aM):aX F 109 [un u] G=some (i64 (jc u),G) :=
 bD rfl rfl (by
  obtain⟨c,least,dF,z,up,down⟩:=u;generalize hW:jc ⟨c,least,dF,z,up,down⟩=W;unfold jc at hW;simp only at hW;by_cases hc:iu c=0
  .have hp:=w6 hc
   have hf:=(oG hc).l8;have h2:((c.length:Int)-1).toNat=c.length-1:=by omega
   rw[ax (by simpa using hc)]at hW
   simp +contextual (disch:=omega) [-getElem?_pos,VJ,oc,hc,bc (l:=c),h2];refine jb (λh4=>?_) (λh4=>?_)
   .simp[-List.length_eq_zero_iff,-Int.natCast_eq_zero]at h4
    by_cases h3:1073741824<(nth c (c.length-1)).y
    .rw[aJ h3]at hW
     exact hW
    .rw[ax h3,aJ']at hW
     exact hW
   simp[-List.length_eq_zero_iff,-Int.natCast_eq_zero]at h4;rw[ax',ax']at hW
   refine bO (λh5=>?_) (λh5=>?_)
   .rw[aJ']at hW
    exact hW
   rw[ax']at hW
   refine go_loop (λi:Nat=>atp (Fq z) z.length i [jK c,i64 least,i64 dF,Fq z,i64 up,i64 down] G) (λi=>i<=z.length/\dH (m8 z) (z.length-i) i=dH (m8 z) z.length 0) (λi=>z.length-i) 0 rfl (by simp) ⟨by omega,rfl⟩ ?_
   rintro i ⟨hi,hq⟩;simp +contextual (disch:=omega) [-getElem?_pos,ae0];refine bO (λh1=>?_) (λh1=>?_)
   .have h1:i<z.length:=by omega
    rw[kl h1]at hq;simp +contextual (disch:=omega) [-getElem?_pos,bc (l:=z),dj];refine jb (λh6=>?_) (λh6=>?_)
    .simp +contextual (disch:=omega) [-getElem?_pos,h6,dj]
     simp[-List.length_eq_zero_iff,-Int.natCast_eq_zero]at h6;rw[show m8 z i=1 by rw[m8,aJ'],ax (by decide)]at hq
     rw[<-hq,aJ (by decide)]at hW
     exact hW
    .simp +contextual (disch:=omega) [-getElem?_pos,h6,dj]
     simp[-List.length_eq_zero_iff,-Int.natCast_eq_zero]at h6;refine jb (λh7=>?_) (λh7=>bO (λh8=>?_) (λh8=>?_))
     .simp[-List.length_eq_zero_iff,-Int.natCast_eq_zero]at h7
      rw[show m8 z i=1 by rw[m8,aJ'],ax (by decide)]at hq
      rw[<-hq,aJ (by decide)]at hW
      exact hW
     .simp[-List.length_eq_zero_iff,-Int.natCast_eq_zero]at h7
      rw[show m8 z i=4 by rw[m8,ax',aJ'],ax (by decide)]at hq
      rw[<-hq,aJ (by decide)]at hW
      exact hW
     .simp[-List.length_eq_zero_iff,-Int.natCast_eq_zero]at h7
      rw[show m8 z i=0 by rw[m8,ax',ax'],aJ rfl]at hq
      exact bB' (i+1) ⟨by omega,hq⟩
   .obtain rfl:i=z.length:=by omega
    rw[l7]at hq;rw[<-hq,ax (by decide)]at hW
    simp +contextual (disch:=omega) [-getElem?_pos,dj];refine jb (λh6=>?_) (λh6=>?_)
    .simp +contextual (disch:=omega) [-getElem?_pos,h6,dj]
     simp[-List.length_eq_zero_iff,-Int.natCast_eq_zero]at h6;rw[aJ']at hW
     exact hW
    .simp +contextual (disch:=omega) [-getElem?_pos,h6,dj]
     simp[-List.length_eq_zero_iff,-Int.natCast_eq_zero]at h6;refine jb (λh7=>?_) (λh7=>?_)
     .simp[-List.length_eq_zero_iff,-Int.natCast_eq_zero]at h7
      rw[aJ']at hW
      exact hW
     .simp[-List.length_eq_zero_iff,-Int.natCast_eq_zero]at h7
      rw[ax']at hW
      exact hW
  .rw[aJ (by simpa using hc)]at hW
   simp +contextual (disch:=omega) [-getElem?_pos,VJ,oc,hc];exact hW)
structure Uv(u:Un):Prop where
 cv:Cv u.table
 top:(nth u.table (u.table.length-1)).y<=1073741824
 least:1<=u.least
 dF:u.least<=u.dF
 WJ:u.dF<=1073741824
 l8:u.gW.length<=10
 PN:∀i,i<u.gW.length->(0<=(nth u.gW i).lo/\(nth u.gW i).hi<=1073741824)/\(nth u.gW i).lo<(nth u.gW i).hi
 up:0<=u.up/\u.up<=1000
 down:0<=u.down/\u.down<=1000
 nI:iu u.table=0
variable{u:Un}
def tj(h:jc u=0):Uv u:=by
 unfold jc at h;split at h
 .contradiction
 .split at h
  .cases h
  .split at h
   .cases h
   .split at h
    .cases h
    .split at h
     .contradiction
     .split at h
      .cases h
      next h1 h2 h3 h4 h5 h6=>
       have h1:iu u.table=0:=jf h1;have h5:dH (m8 u.gW) u.gW.length 0=0:=jf h5;refine⟨oG h1,by omega,by omega,by omega,by omega,by omega,λi hi=>?_,by omega,by omega,h1⟩
       have h7:=tT h5 i (by omega) (by omega)
       unfold m8 at h7;split at h7
       .cases h7
       .split at h7
        .cases h7
        .omega
def ins(u:Un)(q:Int):Prop:=∃i,i<u.gW.length/\(nth u.gW i).lo<q/\q<(nth u.gW i).hi
def ahH(hu:Uv u)(q:Int)(G:List aM) :
  ∃r,aX F 245 [un u,i64 q] G=some (i64 r,G)/\q<=r/\¬ins u r/\(∀t,q<=t->t<r->ins u t)/\(r=q\/r<=1073741824):=by
 suffices h:gz (aX F) 245 [un u,i64 q] G λv G'=>G'=G/\∃r,v=i64 r/\q<=r/\¬ins u r/\(∀t,q<=t->t<r->ins u t)/\(r=q\/r<=1073741824) by
  obtain⟨_,_,h,rfl,r,rfl,h2⟩:=h;exact⟨r,h,h2⟩
 refine gN rfl rfl ?_;have hz:=hu.PN;have hf:=hu.l8;simp +contextual (disch:=omega) [-getElem?_pos,ag9];refine go_loop (λr:Int=>av6 r u.row G) (λr=>q<=r/\(∀t,q<=t->t<r->ins u t)/\(r=q\/r<=1073741824)) (λr=>(1073741824-r).toNat) q rfl (by simp) ⟨by omega,by omega,.inl rfl⟩ ?_
 rintro r ⟨h1,h2,h3⟩;simp +contextual (disch:=omega) [-getElem?_pos,ag8];refine go_loop (λi:Nat=>av4 r (Fq u.gW) u.gW.length i u.row G) (λi=>i<=u.gW.length/\∀j,j<i->¬((nth u.gW j).lo<r/\r<(nth u.gW j).hi)) (λi=>u.gW.length-i) 0 rfl (by simp) ⟨by omega,by omega⟩ ?_
 rintro i ⟨hi,hn⟩;simp +contextual (disch:=omega) [-getElem?_pos,ag7];refine bO (λh4=>?_) (λh4=>?_)
 .have h4:i<u.gW.length:=by omega
  have h5:=hz i h4;simp +contextual (disch:=omega) [-getElem?_pos,bc (l:=u.gW)];refine jb (λh6=>?_) (λh6=>?_)
  .simp[-List.length_eq_zero_iff,-Int.natCast_eq_zero]at h6
   refine bB' (nth u.gW i).hi ⟨by omega,λt ha hb=>?_,by omega⟩
   by_cases h7:t<r
   .exact h2 t ha h7
   .exact⟨i,h4,by omega,hb⟩
  .simp[-List.length_eq_zero_iff,-Int.natCast_eq_zero]at h6
   refine bB' (i+1) ⟨by omega,λj hj=>?_⟩
   rcases cS j i with h7|h7
   .have:=hn j h7;omega
   .obtain rfl:j=i:=by omega
    omega
 .obtain rfl:i=u.gW.length:=by omega
  exact⟨h1,λ⟨j,hj,h5,h6⟩=>hn j hj ⟨h5,h6⟩,h2,h3⟩
def ahI(hu:Uv u)(q:Int)(G:List aM) :
  (∃e,aX F 209 [un u,i64 q] G=some (.tuple [i64 e,.bool true],G)/\ins u q/\q<e/\e<=1073741824/\∀t,q<=t->t<e->ins u t) \/
  (aX F 209 [un u,i64 q] G=some (.tuple [i64 0,.bool false],G)/\¬ins u q):=by
 suffices h:gz (aX F) 209 [un u,i64 q] G λv G'=>G'=G/\((∃e,v=.tuple [i64 e,.bool true]/\ins u q/\q<e/\e<=1073741824/\∀t,q<=t->t<e->ins u t)\/v=.tuple [i64 0,.bool false]/\¬ins u q) by
  obtain⟨_,_,h,rfl,⟨e,rfl,h2⟩ | ⟨rfl,h2⟩⟩:=h
  .exact .inl ⟨e,h,h2⟩
  .exact .inr ⟨h,h2⟩
 refine gN rfl rfl ?_;have hz:=hu.PN;have hf:=hu.l8;simp +contextual (disch:=omega) [-getElem?_pos,agz];refine go_loop (λi:Nat=>avd q (Fq u.gW) u.gW.length i G) (λi=>i<=u.gW.length/\∀j,j<i->¬((nth u.gW j).lo<q/\q<(nth u.gW j).hi)) (λi=>u.gW.length-i) 0 rfl (by simp) ⟨by omega,by omega⟩ ?_
 rintro i ⟨hi,hn⟩;simp +contextual (disch:=omega) [-getElem?_pos,agy];refine bO (λh4=>?_) (λh4=>?_)
 .have h4:i<u.gW.length:=by omega
  have h5:=hz i h4;simp +contextual (disch:=omega) [-getElem?_pos,bc (l:=u.gW)];refine jb (λh6=>?_) (λh6=>?_)
  .simp[-List.length_eq_zero_iff,-Int.natCast_eq_zero]at h6
   exact⟨⟨i,h4,by omega,by omega⟩,by omega,by omega,λt ha hb=>⟨i,h4,by omega,hb⟩⟩
  .simp[-List.length_eq_zero_iff,-Int.natCast_eq_zero]at h6
   refine bB' (i+1) ⟨by omega,λj hj=>?_⟩
   rcases cS j i with h7|h7
   .have:=hn j h7;omega
   .obtain rfl:j=i:=by omega
    omega
 .obtain rfl:i=u.gW.length:=by omega
  rintro⟨j,hj,h5,h6⟩;exact hn j hj ⟨h5,h6⟩
structure Us where
 cF:Int
 since:Int
 out:Bool
 deriving Inhabited,DecidableEq
abbrev Us.row(s:Us):List V:=[i64 s.cF,i64 s.since,.bool s.out]
abbrev us(s:Us):V:=.agg s.row
def sy(u:Un)(q:Int):Prop:=u.least<=q/\q<=u.dF/\¬ins u q
noncomputable instance aHG{u:Un}{q:Int}:Decidable (sy u q):=Classical.propDecidable _
noncomputable instance aHH{u:Un}{q:Int}:Decidable (ins u q):=Classical.propDecidable _
def DK(hu:Uv u)(q:Int)(G:List aM):aX F 232 [un u,i64 q] G=some (.bool (decide (sy u q)),G) :=
 bD rfl rfl (by
  obtain⟨r,h1,h2,h3,h4,_⟩:=ahH hu q [];have key:decide (sy u q)=(decide (u.least<=q)&&decide (q<=u.dF)&&decide (r=q)):=by
   rw[Bool.eq_iff_iff];simp only[jD,bZ];constructor
   .rintro⟨a,b,d⟩
    refine⟨⟨a,b⟩,Decidable.byContradiction λcy=>d (h4 q (by omega) (by omega))⟩
   .rintro⟨⟨a,b⟩,rfl⟩
    exact⟨a,b,h3⟩
  rw[key];simp +contextual [agV,h1];refine jb (λh5=>?_) (λh5=>?_)
  .simp +contextual [h5,h1]
  .simp +contextual [h5,h1])
def BT(u:Un)(q:Int)(G:List aM):aX F 195 [un u,i64 q] G=some (.bool (decide (jc u=0/\sy u q)),G) :=
 bD rfl rfl (by
  generalize hW:decide (jc u=0/\sy u q)=W;by_cases hc:jc u=0
  .simp +contextual [Wd,pR,hc]
   refine jb (λh1=>?_) (λh1=>?_)
   .simp[-List.length_eq_zero_iff,-Int.natCast_eq_zero]at h1
    rw[<-hW,decide_eq_false (λh=>by have:=h.2.1;have:=h.2.2.1;omega)]
   .simp[-List.length_eq_zero_iff,-Int.natCast_eq_zero]at h1
    rcases ahI (tj hc) q []with⟨e,h2,h3,_⟩ | ⟨h2,h3⟩
    .simp +contextual [h2]
     rw[<-hW,decide_eq_false (λh=>h.2.2.2 h3)]
    .simp +contextual [h2]
     rw[<-hW,fJ ⟨hc,by omega,by omega,h3⟩]
  .simp +contextual [Wd,pR,hc]
   rw[<-hW,decide_eq_false (λh=>hc h.1)])
def fH(u:Un)(s:Us):Prop:=jc u=0/\(0<=s.since/\s.since<=1000)/\(s.cF=0\/s.out=false/\sy u s.cF)
def lD(u:Un)(s:Us)(q:Int):Prop:=if q=0 then (0<s.cF->u.up<=s.since) else s.out=false/\¬(s.cF=0/\s.since<u.down)/\sy u q
noncomputable instance aHI{u:Un}{s:Us}:Decidable (fH u s):=Classical.propDecidable _
noncomputable instance aHJ{u:Un}{s:Us}{q:Int}:Decidable (lD u s q):=Classical.propDecidable _
def WK(hc:jc u=0)(s:Us)(G:List aM):aX F 224 [un u,us s] G=some (.bool (decide (fH u s)),G) :=
 bD rfl rfl (by
  obtain⟨cF,since,out⟩:=s;generalize hW:decide (fH u ⟨cF,since,out⟩)=W;have e:fH u ⟨cF,since,out⟩<->(0<=since/\since<=1000)/\(cF=0\/out=false/\sy u cF):=by simp[fH,hc]
  by_cases h1:0<=since/\since<=1000
  .by_cases h2:cF=0
   .simp[Lu,dZ,DK (tj hc),h1.1,h1.2,h2]
    rw[<-hW,fJ (e.2 ⟨h1,.inl h2⟩)]
   .cases out with
    |true =>
     simp[Lu,dZ,DK (tj hc),h1.1,h1.2,h2];rw[<-hW,decide_eq_false (λh=>by have:=(e.1 h).2;simp[h2]at this)]
    |false =>
     simp[Lu,dZ,DK (tj hc),h1.1,h1.2,h2];rw[<-hW];simp[e,h1,h2]
  .have h3:(decide (0<=since)&&decide (since<=1000))=false:=by simp;omega
   simp[Lu,dZ,DK (tj hc),h3];rw[<-hW,decide_eq_false (λh=>h1 (e.1 h).1)])
def DL(u:Un)(s:Us)(G:List aM):aX F 216 [un u,us s] G=some (.bool (decide (fH u s)),G) :=
 bD rfl rfl (by
  generalize hW:decide (fH u s)=W;by_cases hc:jc u=0
  .simp[Wg,vZ,hc,WK hc]
   exact hW
  .simp[Wg,vZ,hc]
   rw[<-hW,decide_eq_false (λh=>hc h.1)])
def AJ(u:Un)(s:Us)(G:List aM):aX F 158 [un u,us s] G=some (.bool (decide (fH u s)),G) :=
 bD rfl rfl (by
  obtain⟨cF,since,out⟩:=s;generalize hW:decide (fH u ⟨cF,since,out⟩)=W;by_cases hc:jc u=0
  .have e:fH u ⟨cF,since,out⟩<->(0<=since/\since<=1000)/\(cF=0\/out=false/\sy u cF):=by simp[fH,hc]
   by_cases h1:0<=since/\since<=1000
   .by_cases h2:cF=0
    .simp[HZ,pR,dj,BT,hc,h1.1,h1.2,h2]
     rw[<-hW,fJ (e.2 ⟨h1,.inl h2⟩)]
    .by_cases h3:sy u cF
     .simp[HZ,pR,dj,BT,hc,h1.1,h1.2,h2,h3]
      rw[<-hW];simp[e,h1,h2,h3]
     .simp[HZ,pR,dj,BT,hc,h1.1,h1.2,h2,h3]
      rw[<-hW];simp[e,h1,h2,h3]
   .have h3:(decide (0<=since)&&decide (since<=1000))=false:=by simp;omega
    simp[HZ,pR,dj,BT,hc,h3];rw[<-hW,decide_eq_false (λh=>h1 (e.1 h).1)]
  .simp[HZ,pR,hc]
   rw[<-hW,decide_eq_false (λh=>hc h.1)])
variable{q:Int}
def PO(hc:jc u=0)(h:sy u q):1<=q:=by have:=(tj hc).least;have:=h.1;omega
def WL{s:Us}(hv:fH u s)(q:Int)(G:List aM):aX F 244 [un u,us s,i64 q] G=some (.bool (decide (lD u s q)),G) :=
 bD rfl rfl (by
  obtain⟨hc,h1,h2⟩:=hv;obtain⟨cF,since,out⟩:=s;simp only at h1 h2;generalize hW:decide (lD u ⟨cF,since,out⟩ q)=W;simp only[lD]at hW;by_cases h3:q=0
  .subst h3
   by_cases h4:0<cF
   .simp[Fk,h4]
    rw[<-hW];simp[h4]
   .simp[Fk,h4]
    rw[<-hW];simp[h4]
  .simp only[h3,if_false]at hW
   cases out with
   |true =>
    simp[Fk,h3];rw[<-hW];simp
   |false =>
    by_cases h5:cF=0
    .by_cases h6:since<u.down
     .simp[Fk,h3,h5,h6]
      rw[<-hW];simp[h5];omega
     .simp[Fk,h3,h5,h6,DK (tj hc)]
      rw[<-hW];simp[h5];omega
    .simp[Fk,h3,h5,DK (tj hc)]
     rw[<-hW];simp[h5])
def awW(u:Un)(s:Us)(q:Int)(G:List aM):aX F 256 [un u,us s,i64 q] G=some (.bool (decide (fH u s/\lD u s q)),G) :=
 bD rfl rfl (by
  generalize hW:decide (fH u s/\lD u s q)=W;by_cases hv:fH u s
  .simp[Ww,DL,hv,WL hv]
   rw[<-hW];simp[hv]
  .simp[Ww,DL,hv]
   rw[<-hW];simp[hv])
def WM(u:Un)(s:Us)(q:Int)(G:List aM):aX F 200 [un u,us s,i64 q] G=some (.bool (decide (fH u s/\lD u s q)),G) :=
 bD rfl rfl (by
  generalize hW:decide (fH u s/\lD u s q)=W;have hV:=AJ u s [];by_cases hv:fH u s
  .obtain⟨hc,h1,h2⟩:=id hv
   obtain⟨cF,since,out⟩:=s;simp only[hv,decide_true]at hV;simp only at h1 h2;simp only[lD]at hW;have hf:cF=0\/0<cF:=by
    rcases h2 with h | ⟨_,h⟩
    .exact .inl h
    .have:=PO hc h;omega
   by_cases h3:q=0
   .subst h3
    by_cases h4:0<cF
    .simp +contextual [DH,hV,h4]
     rw[<-hW];simp[h4,hv]
    .simp +contextual [DH,hV,h4]
     rw[<-hW];simp[h4,hv]
   .simp only[h3,if_false]at hW
    cases out with
    |true =>
     simp +contextual [DH,hV,h3];rw[<-hW];simp
    |false =>
     by_cases h5:sy u q
     .have h6:=PO hc h5
      have h8:0<q:=by omega
      rcases hf with h7|h7
      .subst h7
       simp +contextual [DH,hV,h3,BT,hc,h5,h8];rw[<-hW];simp[hv,h5]
      .have h9:¬cF=0:=by omega
       simp +contextual [DH,hV,h3,BT,hc,h5,h8,h7,h9];rw[<-hW];simp[hv,h5,h9]
     .simp +contextual [DH,hV,h3,BT,hc,h5]
      rw[<-hW];simp[h5]
  .simp +contextual [DH,hV,hv]
   rw[<-hW];simp[hv])
noncomputable def AK(u:Un)(q:Int):Int:=if jc u≠0 then jc u else if q=0\/sy u q then 0 else 1
noncomputable def pow(u:Un)(q:Int):Int:=if jc u=0/\q≠0/\sy u q then jy u.table q else 0
def LD(u:Un)(q:Int)(G:List aM):aX F 231 [un u,i64 q] G=some (.tuple [i64 (pow u q),i64 (AK u q)],G) :=
 bD rfl rfl (by
  by_cases hc:jc u=0
  .by_cases h1:q=0
   .simp[Lw,vZ,hc,h1]
    simp[pow,AK,hc]
   .by_cases h2:sy u q
    .simp[Lw,vZ,hc,h1,DK (tj hc),h2,PL (tj hc).cv]
     simp[pow,AK,hc,h1,h2]
    .simp[Lw,vZ,hc,h1,DK (tj hc),h2]
     simp[pow,AK,hc,h1,h2]
  .simp[Lw,vZ,hc]
   simp[pow,AK,hc])
def WN(u:Un)(q:Int)(G:List aM):aX F 199 [un u,i64 q] G=some (.tuple [i64 (pow u q),i64 (AK u q)],G) :=
 bD rfl rfl (by
  by_cases hc:jc u=0
  .by_cases h1:q=0
   .simp[Lt,pR,hc,h1]
    simp[pow,AK,hc]
   .by_cases h2:sy u q
    .simp[Lt,pR,hc,h1,BT,h2,WH,(tj hc).nI]
     simp[pow,AK,hc,h1,h2]
    .simp[Lt,pR,hc,h1,BT,h2]
     simp[pow,AK,hc,h1,h2]
  .simp[Lt,pR,hc]
   simp[pow,AK,hc])
noncomputable def v7(u:Un)(s:Us)(q:Int):Int:=if jc u≠0 then jc u else if ¬fH u s then 3 else if ¬lD u s q then 15 else 0
def v8(s:Us)(q:Int):Us:=⟨q,if decide (0<s.cF)=decide (0<q) then min 1000 (s.since+1) else 1,s.out⟩
def WO(u:Un)(s:Us)(q:Int)(G:List aM):aX F 162 [un u,us s,i64 q] G =
  some (.tuple (if v7 u s q=0 then [us (v8 s q),.bool (decide (s.cF=0)&&decide (0<q)),i64 0] else [us ⟨0,0,false⟩,.bool false,i64 (v7 u s q)]),G) :=
 bD rfl rfl (by
  by_cases hc:jc u=0
  .by_cases hv:fH u s
   .by_cases hm:lD u s q
    .have h1:=hv.2.1
     simp +contextual (disch:=omega) [Lp,pR,AJ,WM,hc,hv,hm];have e:v7 u s q=0:=by simp[v7,hc,hv,hm]
     refine jb (λh=>?_) (λh=>?_)
     .simp at h
      simp[e,v8,h]
     .simp at h
      simp[e,v8,h]
    .simp +contextual (disch:=omega) [Lp,pR,AJ,WM,hc,hv,hm]
     simp[v7,hc,hv,hm]
   .simp +contextual (disch:=omega) [Lp,pR,AJ,hc,hv]
    simp[v7,hc,hv]
  .simp +contextual (disch:=omega) [Lp,pR,hc]
   simp[v7,hc])
noncomputable def fL(u:Un)(g:Int):List Int:=((List.range ((u.dF / g).toNat+1)).map λk:Nat=>(k:Int)*g).filter λq=>decide (sy u q)
noncomputable def below(u:Un)(g t:Int):List Int:=(fL u g).filter λq=>decide (q<t)
variable{g:Int}
def DM(hu:Uv u)(hg:1<=g):q∈fL u g<->sy u q/\∃k:Nat,q=k*g:=by
 simp only[fL,vq,nU,Gr,jD];constructor
 .rintro⟨⟨k,_,rfl⟩,h⟩
  exact⟨h,k,rfl⟩
 .rintro⟨h,k,rfl⟩
  refine⟨⟨k,?_,rfl⟩,h⟩;have h1:=h.2.1;have:(k:Int)<=u.dF / g:=(RK (by omega)).2 h1
  omega
def awX(hg:1<=g):(fL u g).Pairwise (· < ·):=by
 refine List.Pairwise.filter _ ?_;rw[Zz];refine List.Pairwise.imp ?_ (List.pairwise_lt_range);intro a b tU;exact Int.mul_lt_mul_of_pos_right (by omega) (by omega)
def ahJ{q:Int}:∀{l:List Int},l.Pairwise (· < ·)->q∈l->l.filter (λx=>decide (x<q+1))=l.filter (λx=>decide (x<q))++[q]
 |[],_,h=>by simp at h
 |a::l,hp,h=>by
  obtain⟨h1,h2⟩:=rU.1 hp;rcases iA.1 h with rfl|h3
  .have e:∀t,t<=q+1->l.filter (λx=>decide (x<t))=[]:=λt ht=>by
    rw[Zn];intro b hb;have:=h1 b hb;simp;omega
   have h3:q<q+1:=by omega
   have h4:¬ q<q:=by omega
   simp[h3,e (q+1) (by omega),e q (by omega)]
  .have:=h1 q h3
   have h4:a<q:=this;have h5:a<q+1:=by omega
   simp[h4,h5,ahJ h2 h3]
def WQ(hg:1<=g)(h:q∈fL u g):below u g (q+1)=below u g q++[q]:=ahJ (awX hg) h
variable{t:Int}
def WR{t':Int}(h:∀q∈fL u g,t<=q->q<t'->False)(hle:t<=t'):below u g t=below u g t':=by
 refine Jk λq hq=>?_;have:=h q hq;by_cases h1:q<t
 .have:q<t':=by omega
  simp[h1,this]
 .have h2:¬ q<t':=λh2=>this (by omega) h2
  simp[h1,h2]
def ahK(h:∀q∈fL u g,q<t):below u g t=fL u g:=by
 refine Gm.2 λq hq=>?_;simp[h q hq]
def WS(h:t<=u.least):below u g t=[]:=by
 refine Zn.2 λq hq=>?_;simp only[fL,vq,jD]at hq;have:=hq.2.1;simp;omega
def ahL(hg:1<=g)(h:q∈fL u g):(below u g q).length<(fL u g).length:=by
 have h1:=WQ hg h;have h2:(below u g (q+1)).length<=(fL u g).length:=ui _ _;rw[h1]at h2;simp at h2;omega
def yp(q g:Int):Int:=(q+g-1).tdiv g*g
def PQ(hq:0<=q)(hg:1<=g):q<=yp q g/\yp q g<=q+g-1/\(∃k:Nat,yp q g=k*g)/\∀k:Nat,q<=k*g->yp q g<=k*g:=by
 unfold yp;rw[uh (by omega)]
 have h1:=Int.ediv_mul_le (q+g-1) (b:=g) (by omega)
 have h2:=Int.lt_ediv_add_one_mul_self (q+g-1) (b:=g) (by omega)
 have h3:0<=(q+g-1) / g:=Jb (by omega) (by omega)
 rw[MU,RO]at h2;refine⟨by omega,h1,⟨((q+g-1) / g).toNat,by rw[Zi h3]⟩,λk hk=>?_⟩
 refine Eg ?_ (by omega)
 refine M1.1 λh4=>?_;have h5:((k:Int)+1)*g<=(q+g-1) / g*g:=Eg (by omega) (by omega)
 rw[MU,RO]at h5;omega
def WT(hu:Uv u)(hq:0<=q)(hg:1<=g):below u g q=below u g (yp q g):=by
 obtain⟨h1,_,_,h4⟩:=PQ hq hg;refine WR (λx hx a b=>?_) h1;obtain⟨_,k,rfl⟩:=(DM hu hg).1 hx;have:=h4 k a;omega
def ahM(hu:Uv u){r:Int}(hg:1<=g)(h:∀t,q<=t->t<r->ins u t)(hle:q<=r):below u g q=below u g r :=
 WR (λx hx a b=>((DM hu hg).1 hx).1.2.2 (h x a b)) hle
def awY(hu:Uv u)(hg:1<=g)(hq:∃k:Nat,q=k*g):below u g (q+1)=below u g (q+g):=by
 refine WR (λx hx a b=>?_) (by omega)
 obtain⟨_,k,rfl⟩:=(DM hu hg).1 hx;obtain⟨m,rfl⟩:=hq;have h1:(m:Int)<k:=by
  refine Int.not_le.1 λh=>?_;have:=Eg h (show 0<=g by omega)
  omega
 have h2:((m:Int)+1)*g<=k*g:=Eg (by omega) (by omega)
 rw[MU,RO]at h2;omega
noncomputable def iK(u:Un)(g:Int):Int:=if jc u≠0 then jc u else if g<1\/1073741824<g then 1 else if 200<(fL u g).length then 10 else 0
noncomputable def qx(u:Un)(g:Int):List Int:=if iK u g=0 then fL u g else []
abbrev own(l:List Int):V:=.slice (some 0) 1 (l.map λn=>[i64 n])
def WU(u:Un)(g:Int)(G:List aM):aX F 253 [un u,i64 g] G=some (.tuple [own (qx u g),i64 (iK u g)],G) :=
 bD rfl rfl (by
  by_cases hc:jc u=0
  .simp +contextual (disch:=omega) [Wv,vZ,hc]
   refine jb (λh1=>?_) (λh1=>?_)
   .simp[-List.length_eq_zero_iff,-Int.natCast_eq_zero]at h1
    have e:iK u g=1:=by simp[iK,hc,h1]
    simp[qx,e]
   .simp[-List.length_eq_zero_iff,-Int.natCast_eq_zero]at h1
    have hu:=tj hc;have m1:=hu.least;have m2:=hu.dF;have m3:=hu.WJ;have hg:1<=g:=h1.1;refine go_loop (λf:Int=>awk g (.slice (some 1049) 1 ((below u g f).map λn=>[i64 n])) f u.row (below u g f).length G) (λf=>u.least<=f/\f<=1073741825/\(below u g f).length<=200) (λf=>(1073741826-f).toNat) u.least rfl (by simp[WS]) (by simp[WS];omega) ?_
    rintro f ⟨Kt,zf,Ku⟩;obtain⟨r1,r2,r3,r4⟩:=PQ (q:=f) (g:=g) (by omega) hg
    have r5:=WT hu (q:=f) (g:=g) (by omega) hg
    have r6:(f+g-1).tdiv g*g=yp f g:=rfl;have d1:0<=(f+g-1).tdiv g:=z6 (by omega) (by omega)
    have d2:(f+g-1).tdiv g<=f+g-1:=by
     have:=Eh (a:=f+g-1) g (by omega)
     omega
    have g0:¬g=0:=by omega
    generalize yp f g=Z at r1 r2 r3 r4 r5 r6;simp +contextual (disch:=omega) [ahl,g0,r6];refine bO (λh2=>?_) (λh2=>?_)
    .have hb:below u g f=fL u g:=ahK λq hq=>by
      rw[DM hu hg]at hq;obtain⟨hq,k,rfl⟩:=hq;have:=hq.2.1;refine Int.not_le.1 λh=>?_;have:=r4 k h;omega
     have e:iK u g=0:=by simp[iK,hc];rw[hb]at Ku;omega
     rw[hb];simp[qx,e]
    .obtain⟨r,s1,s2,s3,s4,s5⟩:=ahH hu Z []
     simp +contextual (disch:=omega) [s1];refine jb (λh3=>?_) (λh3=>?_)
     .simp[-List.length_eq_zero_iff,-Int.natCast_eq_zero]at h3
      have hb:below u g f=below u g r:=by rw[r5,ahM hu hg s4 s2]
      refine bB r (by rw[hb];simp) ⟨by omega,by omega,by rwa [<-hb]⟩ (by omega)
     .simp[-List.length_eq_zero_iff,-Int.natCast_eq_zero]at h3
      subst h3;have hm:r∈fL u g:=(DM hu hg).2 ⟨⟨by omega,by omega,s3⟩,r3⟩
      have hb:below u g (r+1)=below u g f++[r]:=by rw[r5,WQ hg hm]
      refine bO (λh4=>?_) (λh4=>?_)
      .have:=ahL hg hm
       have e:iK u g=10:=by
        simp only[iK,hc,ne_eq,not_true,if_false];rw[ax',aJ (by rw[<-r5]at this;omega)]
       simp[qx,e]
      .refine bB (r+1) (by rw[hb];simp) ⟨by omega,by omega,by rw[hb];simp;omega⟩ (by omega)
  .have e:iK u g=jc u:=by simp[iK,hc]
   simp +contextual (disch:=omega) [Wv,vZ,hc];simp[qx,e,hc])
def H7(u:Un)(g:Int)(G:List aM):aX F 183 [un u,i64 g] G=some (.tuple [own (qx u g),i64 (iK u g)],G) :=
 bD rfl rfl (by
  by_cases hc:jc u=0
  .simp +contextual (disch:=omega) [V9,pR,hc]
   refine jb (λh1=>?_) (λh1=>?_)
   .simp[-List.length_eq_zero_iff,-Int.natCast_eq_zero]at h1
    have e:iK u g=1:=by simp[iK,hc,h1]
    simp[qx,e]
   .simp[-List.length_eq_zero_iff,-Int.natCast_eq_zero]at h1
    have hu:=tj hc;have m1:=hu.least;have m2:=hu.dF;have m3:=hu.WJ;have hg:1<=g:=h1.1;have g0:¬g=0:=by omega
    obtain⟨r1,r2,r3,r4⟩:=PQ (q:=u.least) (g:=g) (by omega) hg
    have r5:=WT hu (q:=u.least) (g:=g) (by omega) hg
    have r6:(u.least+g-1).tdiv g*g=yp u.least g:=rfl;have d1:0<=(u.least+g-1).tdiv g:=z6 (by omega) (by omega)
    have d2:(u.least+g-1).tdiv g<=u.least+g-1:=by
     have:=Eh (a:=u.least+g-1) g (by omega)
     omega
    rw[WS (by omega)]at r5
    generalize yp u.least g=Z at r1 r2 r3 r4 r5 r6;simp +contextual (disch:=omega) [g0,r6];refine go_loop (λf:Int=>auT g (.slice (some 1056) 1 ((below u g f).map λn=>[i64 n])) f u.row (below u g f).length G) (λf=>u.least<=f/\f<=2147483648/\(∃k:Nat,f=k*g)/\(below u g f).length<=200) (λf=>(2147483649-f).toNat) Z rfl (by simp[<-r5]) ⟨by omega,by omega,r3,by rw[<-r5];simp⟩ ?_
    rintro f ⟨Kt,zf,hf4,Ku⟩;simp +contextual (disch:=omega) [agb];refine bO (λh2=>?_) (λh2=>?_)
    .rcases ahI hu f []with⟨e,s1,s2,s3,s4,s5⟩ | ⟨s1,s2⟩
     .obtain⟨p1,p2,p3,p4⟩:=PQ (q:=e) (g:=g) (by omega) hg
      have p5:=WT hu (q:=e) (g:=g) (by omega) hg
      have p6:(e+g-1).tdiv g*g=yp e g:=rfl;have t1:0<=(e+g-1).tdiv g:=z6 (by omega) (by omega)
      have t2:(e+g-1).tdiv g<=e+g-1:=by
       have:=Eh (a:=e+g-1) g (by omega)
       omega
      generalize yp e g=E at p1 p2 p3 p4 p5 p6;simp +contextual (disch:=omega) [s1,g0,p6];have hb:below u g f=below u g E:=by rw[<-p5];exact ahM hu hg s5 (by omega)
      exact bB E (by rw[hb];simp) ⟨by omega,by omega,p3,by rwa [<-hb]⟩ (by omega)
     .have hm:f∈fL u g<->u.least<=f:=by
       rw[DM hu hg];exact⟨λh=>h.1.1,λh=>⟨⟨h,by omega,s2⟩,hf4⟩⟩
      have hm:=hm.2 Kt;have hb:below u g (f+g)=below u g f++[f]:=by rw[<-awY hu hg hf4,WQ hg hm]
      simp +contextual (disch:=omega) [s1];refine bO (λh4=>?_) (λh4=>?_)
      .have:=ahL hg hm
       have e:iK u g=10:=by
        simp only[iK,hc,ne_eq,not_true,if_false];rw[ax',aJ']
       simp[qx,e]
      .refine bB (f+g) (by rw[hb];simp) ⟨by omega,by omega,?_,by rw[hb];simp;omega⟩ (by omega)
       obtain⟨k,hk⟩:=hf4;exact⟨k+1,by rw[hk];simp[MU]⟩
    .have hb:below u g f=fL u g:=ahK λq hq=>by
      rw[DM hu hg]at hq;have:=hq.1.2.1;omega
     have e:iK u g=0:=by simp[iK,hc];rw[hb]at Ku;omega
     rw[hb];simp[qx,e]
  .have e:iK u g=jc u:=by simp[iK,hc]
   simp +contextual (disch:=omega) [V9,pR,hc];simp[qx,e,hc])
end

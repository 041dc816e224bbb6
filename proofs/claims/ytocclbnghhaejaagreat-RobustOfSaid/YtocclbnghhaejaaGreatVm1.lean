/- The value machine: a deterministic evaluator, by value, for compiled copies of Go functions. Definitions alone. -/
import GoSem.Core.View
namespace Go.Vm
set_option linter.all false
inductive V where
 |undef
 |int (k:IntKind) (n:Int)
 |bool (b:Bool)
 |str (s:List UInt8)
 |bV
 |slice (tok:Option Nat) (sz:Nat) (es:List (List V))
 |fm (sz:Nat) (es:List (List V))
 |dR (sz:Nat)
 |fu (sz:Nat)
 |agg (cs:List V)
 |tuple (vs:List V)
 |eR (row:List V) (off:Nat)
 |bf (id off:Nat)
 |bQ (id off len:Nat)
 |fh (id s off len:Nat)
 |dh (id s len:Nat)
 |bG (id off:Nat)
 |fY
 |fn (f:FuncId) (cap:List V)
 |fZ
 |map (id:Nat)
 |gd
 deriving Inhabited
abbrev Sh:=List (Option Nat)
inductive aP where
 |cells (cs:List V)
 |map (es:List (V×V))
 deriving Inhabited
structure St where
 env:List (Nat×V)
 aU:List (Nat×List V)
 bg:List (Nat×Nat)
 aF:List aP
 deriving Inhabited
def look{α:Type}(s:Nat):List (Nat×α)→Option α
 |[]=>none
 |(k,v)::r=>bif k==s then some v else look s r
inductive bq where
 |t (s:Nat)
 |c (v:V)
 deriving Inhabited
def St.ev(S:St):bq→Option V
 |.t s=>look s S.env
 |.c v=>some v
def St.kW(S:St)(o:Option bq)(n:Nat):Option V :=
 match o with
 |some o=>S.ev o
 |none=>some (.int .i64 n)
def St.put(S:St)(d:Option Nat)(v:V):St :=
 match d with
 |some d=>{ S with env:=(d,v)::S.env }
 |none=>S
inductive jx where
 |loc (id:Nat)
 |aF
 |jK
 deriving Inhabited
def jx.fits:jx→V→Bool
 |.loc i,.bf id _=>i==id
 |.aF,.bG _ _=>true
 |.jK,.eR _ _=>true
 |_,_=>false
inductive VO where
 |mv (x:bq)
 |pick (c a b:bq)
 |obj (id:Nat) (cells:List V)
 |box (id:Nat) (x:bq)
 |tp (sh:Sh) (x:bq)
 |tq (sh:Sh) (zero:List V)
 |tr
 |uD (ag:Bool) (ks:List Nat) (zero:V) (ok:Bool) (x k:bq)
 |tu (ag:Bool) (ks:List Nat) (sh:Sh) (x k y:bq)
 |build (zero:List V) (parts:List (Nat×Nat×bq))
 |lit (tok:Option Nat) (sh:Sh) (zero:List V) (len:Nat) (parts:List (Nat×bq))
 |load (root:jx) (sz:Option Nat) (p:bq)
 |store (root:jx) (sh:Sh) (p x:bq)
 |sB (bZ:Nat) (p:bq)
 |wV (sz:Nat)
 |uF (x:bq)
 |grow (f:FuncId) (id:Nat) (n:bq)
 |tv (id:Nat) (src:Option Nat) (x y:bq)
 |uG (neg:Bool) (x:bq)
 |tw (bZ:Nat) (p x:bq)
 |sC (x:bq)
 |bin (op:BinOp) (x y:bq)
 |beq (neg:Bool) (x y:bq)
 |iy (neg:Bool) (ks:List Nat) (x y:bq)
 |un (op:UnOp) (x:bq)
 |conv (k:IntKind) (x:bq)
 |ri (off:Nat) (x:bq)
 |na (arr:Option Nat) (sz:Nat) (x i:bq)
 |idx (n sz:Nat) (agg:Bool) (x i:bq)
 |field (off:Nat) (sz:Option Nat) (x:bq)
 |len (x:bq)
 |tx (x:bq)
 |app (bZ:Nat) (src:Option Nat) (sh:Sh) (mx:Nat) (x y:bq)
 |sD (new src:Nat) (sh:Sh) (x y:bq)
 |ext (x:bq) (i:Nat)
 |call (alone:Bool) (f:bq) (args:List (Sh×bq)) (reg:List (Nat×Nat))
 |uH (k:Nat) (f:FuncId) (id:Nat) (x:bq)
 |qk (f:bq) (args:List (Sh×bq))
 |ql (f:bq) (args:List (Sh×Sh×bq)) (ids:List Nat)
 |own (f:bq) (args:List (Sh×Sh×bq)) (ids:List Nat) (id pos:Nat)
 |qm (f:bq) (args:List (Sh×bq)) (id:Nat)
 |sE (id:Nat) (zero:List V) (n:bq)
 |uI (sz:Nat) (x:bq) (lo hi:Option bq)
 |arr (n sz:Nat) (x:bq)
 |mm (max:Bool) (x y:bq)
 |tA (max:Bool) (x y z:bq)
 |uJ (f:FuncId) (cap:List bq)
 deriving Inhabited
structure bH where
 dst:Option Nat
 op:VO
 guard:Option (Nat×Bool)
 deriving Inhabited
inductive gG where
 |norm (s bZ sz:Nat)
 |mJ (id off bZ sz:Nat)
 |freeze (s:Nat) (sh:Sh)
 |Hk (id back bZ sz:Nat)
 |iT (a b:Nat)
 |Hl (id off:Nat) (sh:Sh)
 |rj (s id sz:Nat)
 |share (s:Nat) (sh:Sh)
 |Hm (s:Nat) (jf:List Sh)
 |Aq (id:Nat) (jf:List Sh)
 |yK (id off a sz:Nat)
 |yL (a b id off:Nat)
 |yM (id off:Nat) (sh:Sh)
 deriving Inhabited
structure cY where
 e:List Nat
 o:List Nat
 t:List Nat
 deriving Inhabited
inductive VC where
 |skip
 |region (gh:List gG) (ids:List Nat) (ops:List bH) (keep:cY)
 |seq (a b:VC)
 |cond (c:bq) (a b:VC)
 |block (id:Nat) (a:VC)
 |loop (gh:List gG) (keep:cY) (a:VC)
 |exit (id:Nat)
 |ret
 |dead
 |As (gh:List gG)
 deriving Inhabited
inductive rm where
 |t (s:Nat) (sh:Sh)
 |c (s:Nat) (agg:Bool) (sh:Sh)
 deriving Inhabited
structure bb where
 nparams:Nat
 body:VC
 results:List rm
 defs:List FuncId:=[]
 split:Option Nat:=none
 deriving Inhabited
def V.cells:V→List V
 |.agg cs=>cs
 |v=>[v]
def Hn(agg:Bool)(cs:List V):V :=
 match agg,cs with
 |false,[v]=>v
 |_,cs=>.agg cs
def V.plain:V→Bool
 |.int .. | .bool .. | .str .. | .bV | .slice none _ _=>true
 |_=>false
def el(sh:Option Nat):V→Option V
 |.int k n=>some (.int k n)
 |.bool b=>some (.bool b)
 |.str s=>some (.str s)
 |.bV=>match sh with|some 0=>some .bV|some n=>some (.slice none n [])|none=>none
 |.slice _ n es=>some (.slice none n es)
 |.dR n=>some (.slice none n [])
 |.fu n=>some (.slice none n [])
 |_=>none
def mn:Sh→List V→Option (List V)
 |[],[]=>some []
 |h::sh,v::vs=>match el h v,mn sh vs with
  |some u,some us=>some (u::us)
  |_,_=>none
 |_,_=>none
def oR(sh:Option Nat):V→Option V
 |.bG i o=>some (.bG i o)
 |.dh i s n=>some (.dh i s n)
 |.fY=>some .fY
 |.fn f c=>some (.fn f c)
 |.fZ=>some .fZ
 |.map i=>some (.map i)
 |.gd=>some .gd
 |v=>el sh v
def sG:Sh→List V→Option (List V)
 |[],[]=>some []
 |h::sh,v::vs=>match oR h v,sG sh vs with
  |some u,some us=>some (u::us)
  |_,_=>none
 |_,_=>none
def Au(sh:Option Nat):V→Option V
 |.bV=>match sh with|some (n+1)=>some (.fm (n+1) [])|h=>oR h .bV
 |.dR n=>some (.fm n [])
 |v=>oR sh v
def lX:Sh→List V→Option (List V)
 |[],[]=>some []
 |h::sh,v::vs=>match Au h v,lX sh vs with
  |some u,some us=>some (u::us)
  |_,_=>none
 |_,_=>none
def V.ko:V→V
 |.fm n es=>.slice none n es
 |v=>v
def V.kX:V→V
 |.agg cs=>.agg (cs.map V.ko)
 |v=>v.ko
def yN(sh:Sh):V→Option V
 |.agg cs=>match sG sh cs with|some cs=>some (.agg cs)|none=>none
 |v=>match sh with | [h]=>oR h v|_=>none
def V.cD(d:Nat):V→Bool
 |.slice (some t) _ _=>t==d
 |.bf i _=>i==d
 |.bQ i _ _=>i==d
 |.fh i _ _ _=>i==d
 |.agg _=>true
 |.tuple _=>true
 |_=>false
def V.dz(d:Nat):V→Bool
 |.agg cs=>cs.any (V.cD d)
 |v=>v.cD d
def V.cj(d:Nat):V→Bool
 |.tuple vs=>vs.any (V.dz d)
 |v=>v.dz d
def V.cI:V→Bool
 |.undef | .agg _ | .tuple _=>false
 |_=>true
def lim:Nat:=4294967296
def Ee(op:BinOp)(k:IntKind)(a b:Int):Option V :=
 match op with
 |.add=>some (.int k (k.wrap (a+b)))
 |.sub=>some (.int k (k.wrap (a-b)))
 |.mul=>some (.int k (k.wrap (a*b)))
 |.quo=>if b=0 then none else some (.int k (k.wrap (a.tdiv b)))
 |.rem=>if b=0 then none else some (.int k (a.tmod b))
 |.shr=>if b<0 then none else some (.int k (a.fdiv (2 ^ (min b.toNat k.bits))))
 |.eql=>some (.bool (a==b))
 |.neq=>some (.bool (a != b))
 |.lss=>some (.bool (decide (a<b)))
 |.leq=>some (.bool (decide (a≤b)))
 |.gtr=>some (.bool (decide (a>b)))
 |.geq=>some (.bool (decide (a≥b)))
 |_=>none
def V.bin(op:BinOp):V→V→Option V
 |.int k a,.int k' b=>bif decide (k=k') then Ee op k a b else none
 |_,_=>none
def kq:Nat→V→V→Option Bool
 |0,.int k a,.int k' b=>bif decide (k=k') then some (a==b) else none
 |1,.bool a,.bool b=>some (a==b)
 |2,.str a,.str b=>some (a==b)
 |_,_,_=>none
def eu:List Nat→List V→List V→Option Bool
 |[],_,_=>some true
 |k::ks,a::as,b::bs=>match kq k a b,eu ks as bs with
  |some p,some q=>some (p&&q)
  |_,_=>none
 |_,_,_=>none
def V.iy(neg:Bool)(ks:List Nat):V→V→Option V
 |.agg cs,.agg ds=>bif cs.length==ks.length&&ds.length==ks.length then match eu ks cs ds with
  |some b=>some (.bool (bif neg then !b else b))
  |none=>none
  else none
 |_,_=>none
def V.mo(ag:Bool)(ks:List Nat)(a b:V):Option Bool :=
 match ag with
 |true=>match a,b with
  |.agg cs,.agg ds=>bif cs.length==ks.length&&ds.length==ks.length then eu ks cs ds else none
  |_,_=>none
 |false=>match ks with
  |[k]=>kq k a b
  |_=>none
def mq(ag:Bool)(ks:List Nat)(k:V):List (V×V)→Nat→Option (Option (Nat×V))
 |[],_=>some none
 |(q,v)::es,i=>match V.mo ag ks k q with
  |some true=>some (some (i,v))
  |some false=>mq ag ks k es (i+1)
  |none=>none
def V.un(op:UnOp):V→Option V
 |.bool b=>match op with
  |.not=>some (.bool !b)
  |_=>none
 |.int k n=>match op with
  |.neg=>some (.int k (k.wrap (0-n)))
  |_=>none
 |_=>none
def St.nF(S:St):V→Option (List V×Nat)
 |.bf id off=>match look id S.aU with
  |some cs=>some (cs,off)
  |none=>none
 |.bG id off=>match S.aF[id]? with
  |some (.cells cs)=>some (cs,off)
  |_=>none
 |.eR row off=>some (row,off)
 |_=>none
def loadAt(sz:Option Nat)(cs:List V)(off:Nat):Option V :=
 match sz with
 |none=>cs[off]?
 |some n=>bif Nat.ble (off+n) cs.length then some (.agg ((cs.drop off).take n)) else none
def jg:List V→Nat→List V→List V
 |cs,_,[]=>cs
 |cs,off,v::vs=>jg (cs.set off v) (off+1) vs
def chunks(sz:Nat)(cs:List V):Nat→Nat→List (List V)
 |_,0=>[]
 |off,n+1=>(cs.drop off).take sz::chunks sz cs (off+sz) n
def kr(sh:Sh):List (List V)→Option (List (List V))
 |[]=>some []
 |r::rs=>match mn sh r,kr sh rs with
  |some u,some us=>some (u::us)
  |_,_=>none
def Av(root:jx)(v:V):V :=
 match root with
 |.aF=>v.kX
 |_=>v
def St.take(S:St)(bZ:Nat):V→Option (V×List (Nat×Nat)×Option (List aP))
 |.bG id off=>match S.aF[id]? with
  |some (.cells cs)=>match cs[off]? with
   |some (.fm n es)=>some (.slice (some bZ) n es,[(bZ,es.length)],some (S.aF.set id (aP.cells (cs.set off (.slice none n es)))))
   |some v=>some (v.kX,[],none)
   |none=>none
  |_=>none
 |_=>none
def St.vN(S:St)(bZ:Nat):V→V→Option (List (Nat×Nat)×List aP)
 |.bG id off,.slice (some f) n es=>match S.aF[id]?,(bif f==bZ then look bZ S.bg else none) with
  |some (.cells cs),some k=>bif k==es.length&&Nat.blt off cs.length then
    some ([(bZ,k+1)],S.aF.set id (aP.cells (cs.set off (.fm n es)))) else none
  |_,_=>none
 |_,_=>none
def St.rows(S:St)(sh:Sh):V→Option (List (List V))
 |.bV=>some []
 |.slice _ n es=>bif n==sh.length then some es else none
 |.dR _=>some []
 |.fu _=>some []
 |_=>none
def St.sH(S:St)(sh:Sh):V→Option (List (List V))
 |.bQ id s len=>match look id S.aU with
  |some cs=>bif (s==sh.length)&&Nat.blt 0 sh.length&&Nat.ble (len*sh.length) cs.length then kr sh (chunks sh.length cs 0 len) else none
  |none=>none
 |_=>none
def ox(S:St):List bq→Option (List V)
 |[]=>some []
 |x::xs=>match S.ev x,ox S xs with
  |some v,some vs=>some (v::vs)
  |_,_=>none
def qn(S:St):List (Nat×Nat×bq)→List V→Option (List V)
 |[],cs=>some cs
 |(off,n,x)::ps,cs=>match S.ev x with
  |some v=>bif v.cells.length==n&&Nat.ble (off+n) cs.length&&v.cells.all V.cI then qn S ps (jg cs off v.cells) else none
  |none=>none
def tB(S:St)(sh:Sh):List (Nat×bq)→List (List V)→Option (List (List V))
 |[],rs=>some rs
 |(i,x)::ps,rs=>match S.ev x with
  |some v=>match mn sh v.cells with
   |some r=>bif Nat.blt i rs.length then tB S sh ps (rs.set i r) else none
   |none=>none
  |none=>none
def St.wW(S:St)(src:Option Nat):V→Option (List V)
 |.bV=>some []
 |.dR _=>some []
 |.fu _=>some []
 |.slice _ n es=>bif n==1 then some es.flatten else none
 |.bQ id s n=>match (match src with|some j=>look j S.aU|none=>none) with
  |some cs=>bif src==some id&&(s==1)&&Nat.ble n cs.length then some (cs.take n) else none
  |none=>none
 |.fh id s off n=>match (match src with|some j=>look j S.aU|none=>none) with
  |some cs=>bif src==some id&&(s==1)&&Nat.ble (off+n) cs.length then some ((cs.drop off).take n) else none
  |none=>none
 |_=>none
def gY:V→V
 |.slice _ n es=>.slice none n es
 |v=>v
def strip:V→V
 |.agg cs=>.agg (cs.map gY)
 |v=>gY v
def cM(reg:List (Nat×Nat)):Nat→List V→List V×List (Nat×Nat)
 |_,[]=>([],[])
 |i,v::vs =>
  let r:=cM reg (i+1) vs
  match v with
  |.slice (some _) n es=>match look i reg with
   |some f=>(.slice (some f) n es::r.1,(f,es.length)::r.2)
   |none=>(.slice none n es::r.1,r.2)
  |v=>(strip v::r.1,r.2)
def recv(reg:List (Nat×Nat)):V→V×List (Nat×Nat)
 |.tuple vs=>((.tuple (cM reg 0 vs).1),(cM reg 0 vs).2)
 |.agg cs=>((.agg (cM reg 0 cs).1),(cM reg 0 cs).2)
 |v=>match cM reg 0 [v] with
  |([u],ts)=>(u,ts)
  |_=>(.undef,[])
def mr(S:St):List (Sh×bq)→Option (List V)
 |[]=>some []
 |(sh,x)::xs=>match S.ev x with
  |some v=>match yN sh v,mr S xs with
   |some u,some us=>some (u::us)
   |_,_=>none
  |none=>none
def oy(sh:Sh):V→Option V
 |.agg cs=>match mn sh cs with|some cs=>some (.agg cs)|none=>none
 |.fn f []=>some (.fn f [])
 |v=>match sh with | [h]=>el h v|_=>none
def mw(S:St):List (Sh×bq)→Option (List V)
 |[]=>some []
 |(sh,x)::xs=>match S.ev x with
  |some v=>match oy sh v,mw S xs with
   |some u,some us=>some (u::us)
   |_,_=>none
  |none=>none
def St.Aw(S:St)(ids:List Nat)(rs:Sh)(id s n:Nat):Option V :=
 bif ids.contains id then (match S.sH rs (.bQ id s n) with|some es=>some (V.slice none rs.length es)|none=>none) else none
def St.yO(S:St)(ids:List Nat)(rs:Sh)(id s off n:Nat):Option V :=
 bif ids.contains id then (match look id S.aU with
  |some cs=>bif (s==rs.length)&&Nat.blt 0 rs.length&&Nat.ble (off*rs.length+n*rs.length) cs.length then (match kr rs (chunks rs.length cs (off*rs.length) n) with|some es=>some (V.slice none rs.length es)|none=>none) else none
  |none=>none) else none
def kY(S:St)(ids:List Nat):List (Sh×Sh×bq)→Option (List V)
 |[]=>some []
 |(rs,sh,x)::xs=>match (match S.ev x with
   |some (.bQ id s n)=>S.Aw ids rs id s n
   |some (.fh id s off n)=>S.yO ids rs id s off n
   |some v=>oy sh v
   |none=>none),kY S ids xs with
  |some u,some us=>some (u::us)
  |_,_=>none
def V.iz:V→Bool
 |.slice .. => true
 |v=>v.plain
def V.iL:V→Bool
 |.agg cs=>cs.all V.iz
 |v=>v.iz
def V.lone:V→Bool
 |.tuple vs=>vs.all V.iL
 |v=>v.iL
def V.sc:V→Bool
 |.int .. | .bool .. | .str .. => true
 |_=>false
def V.j7:V→Bool
 |.slice (some _) n es=>es.all fun r=>r.length==n&&r.all V.sc
 |v=>v.sc
def V.oS:V→Bool
 |.tuple vs=>vs.all V.sc
 |.agg cs=>cs.all V.sc
 |v=>v.sc
def mK(id:Nat):Nat→List V→Option (List V×Option (List V))
 |_,[]=>none
 |0,v::vs=>match v with
  |.slice (some _) n es=>bif es.all (fun r=>r.length==n&&r.all V.sc)&&vs.all V.j7 then
    (bif es.isEmpty then some (.dR n::vs.map strip,none) else some (.bQ id n es.length::vs.map strip,some es.flatten)) else none
  |_=>none
 |p+1,v::vs=>bif v.j7 then match mK id p vs with
  |some (us,o)=>some (strip v::us,o)
  |none=>none
  else none
def j8(id pos:Nat):V→Option (V×Option (List V))
 |.tuple vs=>match mK id pos vs with
  |some (us,o)=>some (.tuple us,o)
  |none=>none
 |v=>match mK id pos [v] with
  |some ([u],o)=>some (u,o)
  |_=>none
def Ax:List V→Option (List V)
 |[]=>some []
 |.bG i o::vs=>match Ax vs with
  |some us=>some (.bG i o::us)
  |none=>none
 |_=>none
abbrev bw:=FuncId→List V→List aP→Option (V×List aP)
def St.fits(S:St)(root:jx)(x:bq):Bool :=
 match S.ev x with
 |some a=>root.fits a
 |none=>false
def Ay(x:Int):List Int→List Int
 |[]=>[x]
 |y::ys=>bif decide (x≤y) then x::y::ys else y::Ay x ys
def nb:List Int→List Int
 |[]=>[]
 |x::xs=>Ay x (nb xs)
def dedup:List Int→List Int
 |[]=>[]
 |[x]=>[x]
 |x::y::r=>bif x==y then dedup (y::r) else x::dedup (y::r)
def tC(k:Nat)(zs:List Int):List Int :=
 match k with
 |0=>nb zs
 |_=>dedup zs++List.replicate (zs.length-(dedup zs).length) 0
def Az(k id:Nat)(zs:List Int):V :=
 match k with
 |0=>.tuple []
 |_=>.bQ id 1 (dedup zs).length
def vO:List V→Option (List Int)
 |[]=>some []
 |.int .i64 n::vs=>match vO vs with
  |some zs=>some (n::zs)
  |none=>none
 |_=>none
def St.mut(S:St)(k i:Nat)(d:Option Nat)(v:Option V):Option St :=
 match v with
 |some (.bQ id s n)=>match look i S.aU with
  |some cs=>bif id==i&&(s==1)&&Nat.ble n cs.length&&Nat.ble n lim&&Nat.blt 0 n then match vO (cs.take n) with
   |some zs=>some ({ S with aU:=(i,(tC k zs).map (V.int .i64)++cs.drop n)::S.aU }.put d (Az k i zs))
   |none=>none
   else none
  |none=>none
 |_=>none
open Classical in
noncomputable def rd{α:Type}(G G':List aP)(x:α):Option α:=if G'=G then some x else none
noncomputable def VO.run(C:bw)(d:Option Nat)(S:St):VO→Option St
 |.mv x=>match S.ev x with
  |some v=>some (S.put d v)
  |none=>none
 |.pick c a b=>match S.ev c with
  |some (.bool t)=>match bif t then S.ev a else S.ev b with
   |some v=>some (S.put d v)
   |none=>none
  |_=>none
 |.obj id cells=>some ({ S with aU:=(id,cells)::S.aU }.put d (.bf id 0))
 |.box id x=>match S.ev x with
  |some v=>bif v.cells.all V.cI then some ({ S with aU:=(id,v.cells)::S.aU }.put d (.bf id 0)) else none
  |none=>none
 |.tp sh x=>match S.ev x with
  |some v=>match lX sh v.cells with
   |some cs=>some ({ S with aF:=S.aF++[aP.cells cs] }.put d (.bG S.aF.length 0))
   |none=>none
  |none=>none
 |.tq sh zero=>match lX sh zero with
  |some cs=>some ({ S with aF:=S.aF++[aP.cells cs] }.put d (.bG S.aF.length 0))
  |none=>none
 |.tr=>some ({ S with aF:=S.aF++[aP.map []] }.put d (.map S.aF.length))
 |.uD ag ks zero ok x k=>match S.ev x,S.ev k with
  |some (.map i),some kv=>match S.aF[i]?,V.mo ag ks kv kv with
   |some (.map es),some _=>match mq ag ks kv es 0 with
    |some (some (_,v))=>some (S.put d (bif ok then .tuple [v,.bool true] else v))
    |some none=>some (S.put d (bif ok then .tuple [zero,.bool false] else zero))
    |none=>none
   |_,_=>none
  |_,_=>none
 |.tu ag ks sh x k y=>match S.ev x,S.ev k,S.ev y with
  |some (.map i),some kv,some v=>match S.aF[i]?,V.mo ag ks kv kv,yN sh v with
   |some (.map es),some _,some u=>match mq ag ks kv es 0 with
    |some (some (j,_))=>some { S with aF:=S.aF.set i (aP.map (es.set j (kv,u))) }
    |some none=>some { S with aF:=S.aF.set i (aP.map (es++[(kv,u)])) }
    |none=>none
   |_,_,_=>none
  |_,_,_=>none
 |.build zero parts=>match qn S parts zero with
  |some cs=>some (S.put d (.agg cs))
  |none=>none
 |.lit tok sh zero ln parts=>match tB S sh parts (List.replicate ln zero) with
  |some rs=>match tok with
   |some f=>some ({ S with bg:=(f,ln)::S.bg }.put d (.slice (some f) sh.length rs))
   |none=>some (S.put d (.slice none sh.length rs))
  |none=>none
 |.load root sz p=>match S.ev p with
  |some a=>bif root.fits a then match S.nF a with
   |some (cs,off)=>match loadAt sz cs off with
    |some v=>some (S.put d (Av root v))
    |none=>none
   |none=>none
   else none
  |none=>none
 |.sB bZ p=>match S.ev p with
  |some a=>match S.take bZ a with
   |some (v,ts,G)=>some ({ S with bg:=ts++S.bg,aF:=(match G with|some G=>G|none=>S.aF) }.put d v)
   |none=>none
  |none=>none
 |.tw bZ p x=>match S.ev p,S.ev x with
  |some a,some v=>match S.vN bZ a v with
   |some (ts,G)=>some { S with bg:=ts++S.bg,aF:=G }
   |none=>none
  |_,_=>none
 |.store root sh p x=>bif S.fits root p then match S.ev p,S.ev x with
  |some (.bf id off),some v=>match look id S.aU with
   |some cs=>bif v.cells.length==sh.length&&Nat.ble (off+sh.length) cs.length&&v.cells.all V.cI&&Nat.blt 0 sh.length then
     some { S with aU:=(id,jg cs off v.cells)::S.aU } else none
   |none=>none
  |some (.bG id off),some v=>match S.aF[id]? with
   |some (.cells cs)=>match lX sh v.cells with
    |some vs=>bif Nat.ble (off+vs.length) cs.length&&Nat.blt 0 vs.length then some { S with aF:=S.aF.set id (aP.cells (jg cs off vs)) } else none
    |none=>none
   |_=>none
  |_,_=>none
  else none
 |.sC x=>match S.ev x with
  |some (.bf i o)=>some (S.put d (.bf i o))
  |some (.bG i o)=>some (S.put d (.bG i o))
  |some (.eR r o)=>some (S.put d (.eR r o))
  |_=>none
 |.bin op x y=>match S.ev x,S.ev y with
  |some a,some b=>match V.bin op a b with
   |some v=>some (S.put d v)
   |none=>none
  |_,_=>none
 |.beq neg x y=>match S.ev x,S.ev y with
  |some (.bool a),some (.bool b)=>some (S.put d (.bool (bif neg then a != b else a==b)))
  |_,_=>none
 |.iy neg ks x y=>match S.ev x,S.ev y with
  |some a,some b=>match V.iy neg ks a b with
   |some v=>some (S.put d v)
   |none=>none
  |_,_=>none
 |.un op x=>match S.ev x with
  |some a=>match V.un op a with
   |some v=>some (S.put d v)
   |none=>none
  |none=>none
 |.conv k x=>match S.ev x with
  |some (.int _ n)=>some (S.put d (.int k (k.wrap n)))
  |_=>none
 |.ri off x=>match S.ev x with
  |some (.bf i o)=>some (S.put d (.bf i (o+off)))
  |some (.bG i o)=>some (S.put d (.bG i (o+off)))
  |some (.eR r o)=>some (S.put d (.eR r (o+off)))
  |_=>none
 |.na (some n) sz x i=>match S.ev x,S.ev i with
  |some a,some (.int _ k)=>bif decide (0≤k)&&decide (k<n) then match a with
    |.bf i o=>some (S.put d (.bf i (o+k.toNat*sz)))
    |.bG i o=>some (S.put d (.bG i (o+k.toNat*sz)))
    |.eR r o=>some (S.put d (.eR r (o+k.toNat*sz)))
    |_=>none
   else none
  |_,_=>none
 |.na none sz x i=>match S.ev x,S.ev i with
  |some (.slice _ m es),some (.int _ k)=>bif decide (0≤k)&&(m==sz) then match es[k.toNat]? with
    |some r=>some (S.put d (.eR r 0))
    |none=>none
   else none
  |some (.bQ id s ln),some (.int _ k)=>bif decide (0≤k)&&decide (k<ln)&&(s==sz) then some (S.put d (.bf id (k.toNat*sz))) else none
  |some (.dh id s ln),some (.int _ k)=>bif decide (0≤k)&&decide (k<ln)&&(s==sz) then some (S.put d (.bG id (k.toNat*sz))) else none
  |_,_=>none
 |.idx n sz agg x i=>match S.ev x,S.ev i with
  |some (.agg cs),some (.int _ k)=>bif decide (0≤k)&&decide (k<n) then
    match loadAt (bif agg then some sz else none) cs (k.toNat*sz) with
    |some v=>some (S.put d v)
    |none=>none
   else none
  |_,_=>none
 |.field off sz x=>match S.ev x with
  |some (.agg cs)=>match loadAt sz cs off with
   |some v=>some (S.put d v)
   |none=>none
  |_=>none
 |.wV n=>some (S.put d (.dR n))
 |.uG neg x=>match S.ev x with
  |some .bV=>some (S.put d (.bool !neg))
  |some (.fu _)=>some (S.put d (.bool neg))
  |some (.slice _ _ (_::_))=>some (S.put d (.bool neg))
  |_=>none
 |.len x=>match S.ev x with
  |some .bV=>some (S.put d (.int .i64 0))
  |some (.dR _)=>some (S.put d (.int .i64 0))
  |some (.fu _)=>some (S.put d (.int .i64 0))
  |some (.slice _ _ es)=>some (S.put d (.int .i64 es.length))
  |some (.bQ _ _ n)=>some (S.put d (.int .i64 n))
  |some (.dh _ _ n)=>some (S.put d (.int .i64 n))
  |_=>none
 |.grow _ id n=>match S.ev n with
  |some (.int .i64 k)=>bif decide (0≤k)&&decide (k≤lim) then some ({ S with aU:=(id,[])::S.aU }.put d (.bQ id 1 0)) else none
  |_=>none
 |.uF x=>match S.ev x with
  |some .bV=>some (S.put d (.int .i64 0))
  |_=>none
 |.tv id src x y=>match S.ev x,S.ev y with
  |some (.bQ i s n),some b=>match look id S.aU,S.wW src b with
   |some cs,some us=>bif i==id&&(s==1)&&Nat.ble n cs.length&&us.all V.sc then
     some ({ S with aU:=(id,us.take n++cs.drop (us.take n).length)::S.aU }.put d (.int .i64 (us.take n).length)) else none
   |_,_=>none
  |_,_=>none
 |.tx x=>match S.ev x with
  |some (.str s)=>some (S.put d (.int .i64 s.length))
  |_=>none
 |.app bZ src sh mx x y=>match S.ev x,S.ev y with
  |some .bV,some b=>match S.rows sh b with
   |some ys=>bif Nat.ble ys.length mx then some ({ S with bg:=(bZ,ys.length)::S.bg }.put d (.slice (some bZ) sh.length ys)) else none
   |none=>none
  |some (.dR _),some b=>match S.rows sh b with
   |some ys=>bif Nat.ble ys.length mx then some ({ S with bg:=(bZ,ys.length)::S.bg }.put d (.slice (some bZ) sh.length ys)) else none
   |none=>none
  |some (.slice (some f) n es),some b=>match S.rows sh b with
   |some ys=>match (bif src==some f then look f S.bg else none) with
    |some k=>bif k==es.length&&(n==sh.length)&&Nat.ble (es.length+ys.length) mx then
      some ({ S with bg:=(f,es.length+ys.length)::S.bg }.put d (.slice (some f) n (es++ys))) else none
    |none=>none
   |none=>none
  |_,_=>none
 |.sD new src sh x y=>match S.ev x,S.ev y with
  |some .bV,some b=>match S.rows sh b with
   |some ys=>bif ys.isEmpty then some (S.put d .bV) else
     bif Nat.ble ys.length lim then some ({ S with aU:=(new,ys.flatten)::S.aU }.put d (.bQ new sh.length ys.length)) else none
   |none=>none
  |some (.dR n),some b=>match S.rows sh b with
   |some ys=>bif ys.isEmpty then some (S.put d (.dR n)) else
     bif Nat.ble ys.length lim then some ({ S with aU:=(new,ys.flatten)::S.aU }.put d (.bQ new sh.length ys.length)) else none
   |none=>none
  |some (.bQ id s ln),some b=>match S.rows sh b,look src S.aU with
   |some ys,some cs=>bif (id==src)&&(s==sh.length)&&(cs.length==ln*s)&&Nat.ble (ln+ys.length) lim then
     some ({ S with aU:=(new,cs++ys.flatten)::S.aU.filter fun p => !(p.1==src) }.put d (.bQ new sh.length (ln+ys.length))) else none
   |_,_=>none
  |_,_=>none
 |.ext x i=>match S.ev x with
  |some (.tuple vs)=>match vs[i]? with
   |some v=>some (S.put d v)
   |none=>none
  |_=>none
 |.call false f args reg=>match S.ev f,mr S args with
  |some (.fn g cap),some vs=>match C g (vs++cap) S.aF with
   |some (r,G)=>some ({ S with aF:=G,bg:=(recv reg r).2++S.bg }.put d (recv reg r).1)
   |none=>none
  |_,_=>none
 |.call true f args reg=>match S.ev f,mw S args with
  |some (.fn g []),some vs=>match C g vs [] with
   |some (r,_)=>bif r.lone then some ({ S with bg:=(recv reg r).2++S.bg }.put d (recv reg r).1) else none
   |none=>none
  |_,_=>none
 |.qk f args=>match S.ev f,mr S args with
  |some (.fn g cap),some vs=>match C g (vs++cap) S.aF with
   |some (r,G)=>rd S.aF G (S.put d (recv [] r).1)
   |none=>none
  |_,_=>none
 |.uH k _ id x=>S.mut k id d (S.ev x)
 |.ql f args ids=>match S.ev f,kY S ids args with
  |some (.fn g []),some vs=>match C g vs [] with
   |some (r,_)=>bif r.oS then some (S.put d r) else none
   |none=>none
  |_,_=>none
 |.own f args ids id pos=>match S.ev f,kY S ids args with
  |some (.fn g []),some vs=>match C g vs [] with
   |some (r,_)=>match j8 id pos r with
    |some (v,some cs)=>some ({ S with aU:=(id,cs)::S.aU }.put d v)
    |some (v,none)=>some (S.put d v)
    |none=>none
   |none=>none
  |_,_=>none
 |.qm f args id=>match S.ev f,mw S args with
  |some (.fn g []),some vs=>match C g vs [] with
   |some (r,_)=>match j8 id 0 r with
    |some (.bQ i n ln,some cs)=>bif i==id&&Nat.blt 0 cs.length&&Nat.blt 0 ln&&cs.all V.sc then some ({ S with aF:=S.aF++[aP.cells cs] }.put d (.dh S.aF.length n ln)) else none
    |some (.dR n,none)=>some ({ S with aF:=S.aF++[aP.cells []] }.put d (.dh S.aF.length n 0))
    |_=>none
   |none=>none
  |_,_=>none
 |.sE id zero n=>match S.ev n with
  |some (.int _ k)=>bif decide (0≤k)&&decide (k≤lim) then
    some ({ S with aU:=(id,(List.replicate k.toNat zero).flatten)::S.aU }.put d (.bQ id zero.length k.toNat)) else none
  |_=>none
 |.uI sz x lo hi=>match S.ev x with
  |some (.slice _ m es) =>
   match S.kW lo 0,S.kW hi es.length with
   |some (.int _ a),some (.int _ b)=>bif decide (0≤a)&&decide (a≤b)&&decide (b≤es.length)&&(m==sz) then
     some (S.put d (.slice none sz ((es.take b.toNat).drop a.toNat))) else none
   |_,_=>none
  |some .bV =>
   match S.kW lo 0,S.kW hi 0 with
   |some (.int _ a),some (.int _ b)=>bif decide (a=0)&&decide (b=0) then some (S.put d .bV) else none
   |_,_=>none
  |some (.bQ id s ln) =>
   match S.kW lo 0,S.kW hi ln with
   |some (.int _ a),some (.int _ b)=>bif decide (0≤a)&&decide (a≤b)&&decide (b≤ln)&&(s==sz) then
     bif decide (a=0) then some (S.put d (.bQ id s b.toNat)) else bif decide (a<ln) then some (S.put d (.fh id s a.toNat (b-a).toNat)) else none
     else none
   |_,_=>none
  |_=>none
 |.arr n sz x=>match S.ev x with
  |some (.bf id 0)=>some (S.put d (.fh id sz 0 n))
  |_=>none
 |.tA mx x y z=>match S.ev x,S.ev y,S.ev z with
  |some (.int k a),some (.int _ b),some (.int _ c)=>some (S.put d (.int k (bif mx then max (max a b) c else min (min a b) c)))
  |_,_,_=>none
 |.mm mx x y=>match S.ev x,S.ev y with
  |some (.int k a),some (.int _ b)=>some (S.put d (.int k (bif mx then max a b else min a b)))
  |_,_=>none
 |.uJ f cap=>match ox S cap with
  |some vs=>match Ax vs with
   |some us=>some (S.put d (.fn f us))
   |none=>none
  |none=>none
noncomputable def bH.run(C:bw)(o:bH)(S:St):Option St :=
 match o.guard with
 |none=>o.op.run C o.dst S
 |some (g,want)=>match look g S.env with
  |some (.bool b)=>bif b==want then o.op.run C o.dst S else some (S.put o.dst .undef)
  |some .undef=>some (S.put o.dst .undef)
  |_=>none
noncomputable def gL(C:bw):List bH→St→Option St
 |[],S=>some S
 |o::os,S=>match o.run C S with
  |some S'=>gL C os S'
  |none=>none
def tD{α:Type}(env:List (Nat×α)):List Nat→List (Nat×α)
 |[]=>[]
 |s::r=>match look s env with
  |some v=>(s,v)::tD env r
  |none=>tD env r
def St.keep(S:St)(k:cY):St :=
 {env:=tD S.env k.e,aU:=tD S.aU k.o,bg:=tD S.bg k.t,aF:=S.aF }
def St.clean(S:St):List Nat→Option St
 |[]=>some S
 |d::ds =>
  let env:=S.env.filter fun p => !(p.1==d)
  let aU:=S.aU.filter fun p => !(p.1==d)
  let bg:=S.bg.filter fun p => !(p.1==d)
  bif env.all (fun p => !p.2.cj d)&&aU.all (fun p=>p.2.all fun v => !v.cD d) then St.clean { env,aU,bg,aF:=S.aF } ds else none
def V.forget(bZ:Nat):V→V
 |.slice (some f) n es=>bif f==bZ then .slice none n es else .slice (some f) n es
 |v=>v
def V.iT(a b:Nat):V→V
 |.bQ i s n=>bif i==a then .bQ b s n else .bQ i s n
 |v=>v
def St.mJ(S:St)(id off bZ sz:Nat):Option St :=
 match look id S.aU with
  |some cs=>match cs[off]? with
   |some .bV=>match St.clean S [bZ] with
    |some S=>match look id S.aU with
     |some cs=>some { S with aU:=(id,cs.set off (.slice (some bZ) sz []))::S.aU,bg:=(bZ,0)::S.bg }
     |none=>none
    |none=>none
   |_=>some S
  |none=>some S
def St.rj(S:St)(s id sz:Nat):Option St :=
 match St.clean { S with env:=S.env.filter fun p => !(p.1==s) } [id] with
 |some S=>some { S with env:=(s,.bQ id sz 0)::S.env,aU:=(id,[])::S.aU }
 |none=>none
def St.share(S:St)(s n:Nat)(es:List (List V)):St :=
 {S with env:=(s,.dh S.aF.length n es.length)::S.env,aF:=S.aF++[aP.cells es.flatten] }
def St.Ca(G:List aP)(jf:List Sh):V→Option (V×List Sh×List aP)
 |.dh i n len=>match jf,G[i]? with
  |sh::jf,some (.cells cs)=>bif n==sh.length&&Nat.blt 0 n&&Nat.ble (len*n) cs.length then match kr sh (chunks sh.length (cs.map V.ko) 0 len) with
   |some es=>some (.slice none n es,jf,G.set i (.cells []))
   |none=>none
   else none
  |_,_=>none
 |v=>some (v,jf,G)
def uK:List aP→List Sh→List V→Option (List V×List aP)
 |G,_,[]=>some ([],G)
 |G,jf,v::vs=>match St.Ca G jf v with
  |some (u,jf,G)=>match uK G jf vs with
   |some (us,G)=>some (u::us,G)
   |none=>none
  |none=>none
def St.yK(S:St)(id off a sz:Nat):Option St :=
 match look id S.aU with
 |some cs=>match cs[off]? with
  |some .bV=>match St.clean S [a] with
   |some S=>match look id S.aU with
    |some cs=>some { S with aU:=(id,cs.set off (.bQ a sz 0))::(a,[])::S.aU }
    |none=>none
   |none=>none
  |_=>some S
 |none=>some S
def St.yL(S:St)(a b id off:Nat):Option St :=
 match look id S.aU with
 |some ds=>match ds[off]? with
  |some (.bQ i s n)=>bif i==a && !(id==a) then (match St.clean S [b] with
   |some S=>match look a S.aU,look id S.aU with
    |some cs,some ds=>some { S with aU:=(id,ds.set off (.bQ b s n))::(b,cs)::S.aU.filter fun p => !(p.1==a) }
    |_,_=>none
   |none=>none) else some S
  |_=>some S
 |none=>some S
def St.yM(S:St)(id off:Nat)(sh:Sh):Option St :=
 match look id S.aU with
 |some ds=>match ds[off]? with
  |some (.bQ a s n)=>bif n==0 then some { S with aU:=(id,ds.set off (.slice none sh.length []))::S.aU } else
   match S.sH sh (.bQ a s n),St.clean { S with aU:=S.aU.filter fun p => !(p.1==id) } [a] with
   |some es,some S=>bif a==id then none else some { S with aU:=(id,ds.set off (.dh S.aF.length sh.length n))::S.aU,aF:=S.aF++[aP.cells es.flatten] }
   |_,_=>none
  |_=>some S
 |none=>some S
def gG.run(S:St):gG→Option St
 |.yK id off a sz=>S.yK id off a sz
 |.yL a b id off=>S.yL a b id off
 |.yM id off sh=>S.yM id off sh
 |.rj s id sz=>match look s S.env with
  |some .bV=>S.rj s id sz
  |some (.dR _)=>S.rj s id sz
  |_=>some S
 |.share s sh=>match look s S.env with
  |some (.bQ id n len)=>match S.sH sh (.bQ id n len),St.clean { S with env:=S.env.filter fun p => !(p.1==s) } [id] with
   |some es,some S=>some (S.share s sh.length es)
   |_,_=>none
  |some .bV=>some (S.share s sh.length [])
  |some (.dR _)=>some (S.share s sh.length [])
  |_=>none
 |.Hm s jf=>match look s S.env with
  |some (.agg cs)=>match uK S.aF jf cs with
   |some (us,G)=>some { S with env:=(s,.agg us)::S.env,aF:=G }
   |none=>none
  |some v=>match St.Ca S.aF jf v with
   |some (u,_,G)=>some { S with env:=(s,u)::S.env,aF:=G }
   |none=>none
  |none=>none
 |.Aq id jf=>match look id S.aU with
  |some cs=>match uK S.aF jf cs with
   |some (us,G)=>some { S with aU:=(id,us)::S.aU.filter fun p => !(p.1==id),aF:=G }
   |none=>none
  |none=>some S
 |.norm s bZ sz=>match look s S.env with
  |some .bV=>match St.clean { S with env:=S.env.filter fun p => !(p.1==s) } [bZ] with
   |some S=>some { S with env:=(s,.slice (some bZ) sz [])::S.env,bg:=(bZ,0)::S.bg }
   |none=>none
  |some (.dR _)=>match St.clean { S with env:=S.env.filter fun p => !(p.1==s) } [bZ] with
   |some S=>some { S with env:=(s,.slice (some bZ) sz [])::S.env,bg:=(bZ,0)::S.bg }
   |none=>none
  |_=>some S
 |.mJ id off bZ sz=>S.mJ id off bZ sz
 |.freeze s sh=>match look s S.env with
  |some (.bQ id off len)=>match S.sH sh (.bQ id off len) with
   |some es=>some { S with env:=(s,.slice none sh.length es)::S.env,aU:=S.aU.filter fun p => !(p.1==id) }
   |none=>none
  |_=>some S
 |.Hk id back bZ sz=>match look id S.aU with
  |some cs=>match cs[cs.length-back]? with
   |some .bV=>St.mJ { S with aU:=(id,cs.map (V.forget bZ))::S.aU.filter fun p => !(p.1==id) } id (cs.length-back) bZ sz
   |_=>some S
  |none=>some S
 |.Hl id off sh=>match look id S.aU with
  |some cs=>match cs[off]? with
   |some (.bQ i s n)=>match S.sH sh (.bQ i s n) with
    |some es=>bif i==id then none else some { S with aU:=(id,cs.set off (.slice none sh.length es))::(S.aU.filter fun p => !(p.1==i)).filter fun p => !(p.1==id) }
    |none=>none
   |_=>some S
  |none=>some S
 |.iT a b=>match St.clean S [b] with
  |some S=>match look a S.aU with
   |some cs=>some { S with env:=S.env.map (fun p=>(p.1,V.iT a b p.2)),aU:=(b,cs)::S.aU.filter fun p => !(p.1==a) }
   |none=>some S
  |none=>none
def nc:List gG→St→Option St
 |[],S=>some S
 |g::gs,S=>match g.run S with
  |some S=>nc gs S
  |none=>none
inductive oz where
 |normal
 |exit (id:Nat)
 |ret
 deriving Inhabited
def iter(body:St→Option (oz×St)):Nat→St→Option (oz×St)
 |0,_=>none
 |n+1,S=>match body S with
  |some (.normal,S')=>iter body n S'
  |some (.exit i,S')=>some (.exit i,S')
  |some (.ret,S')=>some (.ret,S')
  |none=>none
noncomputable def VC.run(C:bw)(n:Nat):VC→St→Option (oz×St)
 |.skip,S=>some (.normal,S)
 |.region gh ids ops keep,S=>match nc gh S with
  |some S=>match S.clean ids with
   |some S=>match gL C ops S with
    |some S=>some (.normal,S.keep keep)
    |none=>none
   |none=>none
  |none=>none
 |.seq a b,S=>match VC.run C n a S with
  |some (.normal,S')=>VC.run C n b S'
  |some (.exit i,S')=>some (.exit i,S')
  |some (.ret,S')=>some (.ret,S')
  |none=>none
 |.cond c a b,S=>match S.ev c with
  |some (.bool t)=>bif t then VC.run C n a S else VC.run C n b S
  |_=>none
 |.block id a,S=>match VC.run C n a S with
  |some (.normal,S')=>some (.normal,S')
  |some (.exit i,S')=>bif i==id then some (.normal,S') else some (.exit i,S')
  |some (.ret,S')=>some (.ret,S')
  |none=>none
 |.loop gh keep a,S=>match nc gh S with
  |some S=>iter (fun S=>VC.run C n a (S.keep keep)) n S
  |none=>none
 |.exit id,S=>some (.exit id,S)
 |.dead,_=>none
 |.ret,S=>some (.ret,S)
 |.As gh,S=>match nc gh S with
  |some S=>some (.ret,S)
  |none=>none
def yP(S:St)(sh:Option Nat)(used:List Nat):V→Option (V×List Nat)
 |.bV=>match sh with
  |some n=>some (.slice (some 0) n [],used)
  |none=>none
 |.dR n=>some (.slice (some 0) n [],used)
 |.slice (some f) n es=>match look f S.bg with
  |some k=>bif k==es.length && !used.contains f then some (.slice (some 0) n es,f::used) else some (.slice none n es,used)
  |none=>some (.slice none n es,used)
 |.slice none n es=>some (.slice none n es,used)
 |v=>match oR sh v with
  |some v=>some (v,used)
  |none=>none
def mL(S:St):Sh→List Nat→List V→Option (List V×List Nat)
 |[],used,[]=>some ([],used)
 |h::sh,used,v::vs=>match yP S h used v with
  |some (u,used)=>match mL S sh used vs with
   |some (us,used)=>some (u::us,used)
   |none=>none
  |none=>none
 |_,_,_=>none
def yQ(S:St)(used:List Nat):rm→Option (V×List Nat)
 |.t s sh=>match look s S.env with
  |some (.agg cs)=>match mL S sh used cs with
   |some (us,used)=>some (.agg us,used)
   |none=>none
  |some v=>match sh with
   |[h]=>yP S h used v
   |_=>none
  |none=>none
 |.c s agg sh=>match look s S.env with
  |some (.bf id 0)=>match look id S.aU with
   |some cs=>match mL S sh used cs with
    |some (us,used)=>some (Hn agg us,used)
    |none=>none
   |none=>none
  |_=>none
def uL(S:St):List Nat→List rm→Option (List V)
 |_,[]=>some []
 |used,r::rs=>match yQ S used r with
  |some (v,used)=>match uL S used rs with
   |some vs=>some (v::vs)
   |none=>none
  |none=>none
def uM(S:St)(rs:List rm):Option V :=
 match uL S [] rs with
 |some [v]=>some v
 |some vs=>some (.tuple vs)
 |none=>none
def oT:Nat→List V→List (Nat×V)
 |_,[]=>[]
 |i,v::vs=>(i,v)::oT (i+1) vs
noncomputable def bb.call(C:bw)(n:Nat)(f:bb)(args:List V)(G:List aP):Option (V×List aP) :=
 bif args.length==f.nparams then
  match VC.run C n f.body { env:=oT 0 args,aU:=[],bg:=[],aF:=G } with
  |some (.normal,S)|some (.ret,S)=>match uM S f.results with
   |some v=>some (v,S.aF)
   |none=>none
  |_=>none
 else none
def oU(C:bw)(args:List V):List FuncId→List aP→Option (List aP)
 |[],G=>some G
 |f::fs,G=>match C f args G with
  |some (_,G')=>oU C args fs G'
  |none=>none
def wrap(C:bw)(vf:bb)(args:List V)(o:Option (V×List aP)):Option (V×List aP) :=
 match o with
 |none=>none
 |some (r,G)=>match vf.defs with
  |[]=>some (r,G)
  |fs=>match args with
   |[.bG _ _]=>match oU C args fs.reverse G with
    |some G'=>some (.tuple [],G')
    |none=>none
   |_=>none
noncomputable def bb.one(C:bw)(n:Nat)(vf:bb)(args:List V)(G:List aP):Option (V×List aP):=wrap C vf args (vf.call C n args G)
open Classical in
noncomputable def bb.both(C:bw)(n:Nat)(vf:bb)(p m:Nat)(args:List V)(G:List aP):Option (V×List aP) :=
 if vf.one C n (args.set p .bV) G=vf.one C n (args.set p (.fu m)) G then vf.one C n (args.set p .bV) G else none
noncomputable def bb.yR(C:bw)(n:Nat)(vf:bb)(args:List V)(G:List aP):Option (V×List aP) :=
 match vf.split with
 |none=>vf.one C n args G
 |some p=>match args[p]? with
  |some (.slice none m [])=>vf.both C n p m args G
  |_=>vf.one C n args G
noncomputable def call(F:FuncId→Option bb):Nat→bw
 |0=>fun _ _ _=>none
 |n+1=>fun f args G=>match F f with
  |some vf=>vf.yR (call F n) n args G
  |none=>none
end Go.Vm

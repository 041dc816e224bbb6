/- The value machine: a deterministic evaluator, by value, for compiled copies of Go functions. Definitions alone. -/
import GoSem.Core.View
namespace Go.Vm
set_option linter.all false
inductive V where
 |undef
 |int (k:IntKind) (n:Int)
 |bool (b:Bool)
 |str (s:List UInt8)
 |bW
 |slice (tok:Option Nat) (sz:Nat) (es:List (List V))
 |eY (sz:Nat) (es:List (List V))
 |dH (sz:Nat)
 |e8 (sz:Nat)
 |agg (cs:List V)
 |tuple (vs:List V)
 |eF (row:List V) (off:Nat)
 |bA (id off:Nat)
 |bO (id off len:Nat)
 |fH (id s off len:Nat)
 |df (id s len:Nat)
 |bB (id off:Nat)
 |ft
 |fn (f:FuncId) (cap:List V)
 |fu
 |map (id:Nat)
 |fw
 deriving Inhabited
abbrev Sh:=List (Option Nat)
inductive aP where
 |cells (cs:List V)
 |map (es:List (V×V))
 deriving Inhabited
structure St where
 env:List (Nat×V)
 aV:List (Nat×List V)
 a7:List (Nat×Nat)
 ay:List aP
 deriving Inhabited
def look{α:Type}(s:Nat):List (Nat×α)→Option α
 |[]=>none
 |(k,v)::r=>bif k==s then some v else look s r
inductive bj where
 |t (s:Nat)
 |c (v:V)
 deriving Inhabited
def St.ev(S:St):bj→Option V
 |.t s=>look s S.env
 |.c v=>some v
def St.kg(S:St)(o:Option bj)(n:Nat):Option V :=
 match o with
 |some o=>S.ev o
 |none=>some (.int .i64 n)
def St.put(S:St)(d:Option Nat)(v:V):St :=
 match d with
 |some d=>{ S with env:=(d,v)::S.env }
 |none=>S
inductive iQ where
 |loc (id:Nat)
 |ay
 |jQ
 deriving Inhabited
def iQ.fits:iQ→V→Bool
 |.loc i,.bA id _=>i==id
 |.ay,.bB _ _=>true
 |.jQ,.eF _ _=>true
 |_,_=>false
inductive VO where
 |mv (x:bj)
 |pick (c a b:bj)
 |obj (id:Nat) (cells:List V)
 |box (id:Nat) (x:bj)
 |rM (sh:Sh) (x:bj)
 |rP (sh:Sh) (zero:List V)
 |rQ
 |tp (ag:Bool) (ks:List Nat) (zero:V) (ok:Bool) (x k:bj)
 |rT (ag:Bool) (ks:List Nat) (sh:Sh) (x k y:bj)
 |build (zero:List V) (parts:List (Nat×Nat×bj))
 |lit (tok:Option Nat) (sh:Sh) (zero:List V) (len:Nat) (parts:List (Nat×bj))
 |load (root:iQ) (sz:Option Nat) (p:bj)
 |store (root:iQ) (sh:Sh) (p x:bj)
 |qJ (bT:Nat) (p:bj)
 |vt (sz:Nat)
 |tq (x:bj)
 |grow (f:FuncId) (id:Nat) (n:bj)
 |rU (id:Nat) (src:Option Nat) (x y:bj)
 |tr (neg:Bool) (x:bj)
 |rW (bT:Nat) (p x:bj)
 |rY (x:bj)
 |bin (op:BinOp) (x y:bj)
 |beq (neg:Bool) (x y:bj)
 |iR (neg:Bool) (ks:List Nat) (x y:bj)
 |un (op:UnOp) (x:bj)
 |conv (k:IntKind) (x:bj)
 |r0 (off:Nat) (x:bj)
 |nA (arr:Option Nat) (sz:Nat) (x i:bj)
 |idx (n sz:Nat) (agg:Bool) (x i:bj)
 |field (off:Nat) (sz:Option Nat) (x:bj)
 |len (x:bj)
 |r7 (x:bj)
 |app (bT:Nat) (src:Option Nat) (sh:Sh) (mx:Nat) (x y:bj)
 |qK (new src:Nat) (sh:Sh) (x y:bj)
 |ext (x:bj) (i:Nat)
 |call (alone:Bool) (f:bj) (args:List (Sh×bj)) (reg:List (Nat×Nat))
 |tu (k:Nat) (f:FuncId) (id:Nat) (x:bj)
 |pc (f:bj) (args:List (Sh×bj))
 |pd (f:bj) (args:List (Sh×Sh×bj)) (ids:List Nat)
 |own (f:bj) (args:List (Sh×bj)) (id pos:Nat)
 |pe (f:bj) (args:List (Sh×bj)) (id:Nat)
 |qL (id:Nat) (zero:List V) (n:bj)
 |tv (sz:Nat) (x:bj) (lo hi:Option bj)
 |mm (max:Bool) (x y:bj)
 |r9 (max:Bool) (x y z:bj)
 |tw (f:FuncId) (cap:List bj)
 deriving Inhabited
structure bN where
 dst:Option Nat
 op:VO
 guard:Option (Nat×Bool)
 deriving Inhabited
inductive hY where
 |norm (s bT sz:Nat)
 |nB (id off bT sz:Nat)
 |freeze (s:Nat) (sh:Sh)
 |EE (id back bT sz:Nat)
 |iS (a b:Nat)
 |EF (id off:Nat) (sh:Sh)
 |p9 (s id sz:Nat)
 |share (s:Nat) (sh:Sh)
 |EG (s:Nat) (iB:List Sh)
 |BM (id:Nat) (iB:List Sh)
 deriving Inhabited
structure cR where
 e:List Nat
 o:List Nat
 t:List Nat
 deriving Inhabited
inductive VC where
 |skip
 |region (gh:List hY) (ids:List Nat) (ops:List bN) (keep:cR)
 |seq (a b:VC)
 |cond (c:bj) (a b:VC)
 |block (id:Nat) (a:VC)
 |loop (gh:List hY) (keep:cR) (a:VC)
 |exit (id:Nat)
 |ret
 |dead
 |yi (gh:List hY)
 deriving Inhabited
inductive qa where
 |t (s:Nat) (sh:Sh)
 |c (s:Nat) (agg:Bool) (sh:Sh)
 deriving Inhabited
structure ba where
 nparams:Nat
 body:VC
 results:List qa
 defs:List FuncId:=[]
 split:Option Nat:=none
 deriving Inhabited
def V.cells:V→List V
 |.agg cs=>cs
 |v=>[v]
def EH(agg:Bool)(cs:List V):V :=
 match agg,cs with
 |false,[v]=>v
 |_,cs=>.agg cs
def V.plain:V→Bool
 |.int .. | .bool .. | .str .. | .bW | .slice none _ _=>true
 |_=>false
def el(sh:Option Nat):V→Option V
 |.int k n=>some (.int k n)
 |.bool b=>some (.bool b)
 |.str s=>some (.str s)
 |.bW=>match sh with|some 0=>some .bW|some n=>some (.slice none n [])|none=>none
 |.slice _ n es=>some (.slice none n es)
 |.dH n=>some (.slice none n [])
 |.e8 n=>some (.slice none n [])
 |_=>none
def lD:Sh→List V→Option (List V)
 |[],[]=>some []
 |h::sh,v::vs=>match el h v,lD sh vs with
  |some u,some us=>some (u::us)
  |_,_=>none
 |_,_=>none
def nU(sh:Option Nat):V→Option V
 |.bB i o=>some (.bB i o)
 |.df i s n=>some (.df i s n)
 |.ft=>some .ft
 |.fn f c=>some (.fn f c)
 |.fu=>some .fu
 |.map i=>some (.map i)
 |.fw=>some .fw
 |v=>el sh v
def qM:Sh→List V→Option (List V)
 |[],[]=>some []
 |h::sh,v::vs=>match nU h v,qM sh vs with
  |some u,some us=>some (u::us)
  |_,_=>none
 |_,_=>none
def yj(sh:Option Nat):V→Option V
 |.bW=>match sh with|some (n+1)=>some (.eY (n+1) [])|h=>nU h .bW
 |.dH n=>some (.eY n [])
 |v=>nU sh v
def kU:Sh→List V→Option (List V)
 |[],[]=>some []
 |h::sh,v::vs=>match yj h v,kU sh vs with
  |some u,some us=>some (u::us)
  |_,_=>none
 |_,_=>none
def V.jF:V→V
 |.eY n es=>.slice none n es
 |v=>v
def V.kh:V→V
 |.agg cs=>.agg (cs.map V.jF)
 |v=>v.jF
def wU(sh:Sh):V→Option V
 |.agg cs=>match qM sh cs with|some cs=>some (.agg cs)|none=>none
 |v=>match sh with | [h]=>nU h v|_=>none
def V.cj(d:Nat):V→Bool
 |.slice (some t) _ _=>t==d
 |.bA i _=>i==d
 |.bO i _ _=>i==d
 |.fH i _ _ _=>i==d
 |.agg _=>true
 |.tuple _=>true
 |_=>false
def V.dg(d:Nat):V→Bool
 |.agg cs=>cs.any (V.cj d)
 |v=>v.cj d
def V.ca(d:Nat):V→Bool
 |.tuple vs=>vs.any (V.dg d)
 |v=>v.dg d
def V.cz:V→Bool
 |.undef | .agg _ | .tuple _=>false
 |_=>true
def lim:Nat:=4294967296
def BN(op:BinOp)(k:IntKind)(a b:Int):Option V :=
 match op with
 |.add=>some (.int k (k.wrap (a+b)))
 |.sub=>some (.int k (k.wrap (a-b)))
 |.mul=>some (.int k (k.wrap (a*b)))
 |.quo=>if b=0 then none else some (.int k (k.wrap (a.tdiv b)))
 |.rem=>if b=0 then none else some (.int k (a.tmod b))
 |.shr=>if b<0 then none else some (.int k (a.fdiv (2 ^ (min b.toNat k.bits))))
 |.eql=>some (.bool (a==b))
 |.neq=>some (.bool (a != b))
 |.lss=>some (.bool (decide (a<b)))
 |.leq=>some (.bool (decide (a≤b)))
 |.gtr=>some (.bool (decide (a>b)))
 |.geq=>some (.bool (decide (a≥b)))
 |_=>none
def V.bin(op:BinOp):V→V→Option V
 |.int k a,.int k' b=>bif decide (k=k') then BN op k a b else none
 |_,_=>none
def ki:Nat→V→V→Option Bool
 |0,.int k a,.int k' b=>bif decide (k=k') then some (a==b) else none
 |1,.bool a,.bool b=>some (a==b)
 |2,.str a,.str b=>some (a==b)
 |_,_,_=>none
def er:List Nat→List V→List V→Option Bool
 |[],_,_=>some true
 |k::ks,a::as,b::bs=>match ki k a b,er ks as bs with
  |some p,some q=>some (p&&q)
  |_,_=>none
 |_,_,_=>none
def V.iR(neg:Bool)(ks:List Nat):V→V→Option V
 |.agg cs,.agg ds=>bif cs.length==ks.length&&ds.length==ks.length then match er ks cs ds with
  |some b=>some (.bool (bif neg then !b else b))
  |none=>none
  else none
 |_,_=>none
def V.lF(ag:Bool)(ks:List Nat)(a b:V):Option Bool :=
 match ag with
 |true=>match a,b with
  |.agg cs,.agg ds=>bif cs.length==ks.length&&ds.length==ks.length then er ks cs ds else none
  |_,_=>none
 |false=>match ks with
  |[k]=>ki k a b
  |_=>none
def lG(ag:Bool)(ks:List Nat)(k:V):List (V×V)→Nat→Option (Option (Nat×V))
 |[],_=>some none
 |(q,v)::es,i=>match V.lF ag ks k q with
  |some true=>some (some (i,v))
  |some false=>lG ag ks k es (i+1)
  |none=>none
def V.un(op:UnOp):V→Option V
 |.bool b=>match op with
  |.not=>some (.bool !b)
  |_=>none
 |.int k n=>match op with
  |.neg=>some (.int k (k.wrap (0-n)))
  |_=>none
 |_=>none
def St.mR(S:St):V→Option (List V×Nat)
 |.bA id off=>match look id S.aV with
  |some cs=>some (cs,off)
  |none=>none
 |.bB id off=>match S.ay[id]? with
  |some (.cells cs)=>some (cs,off)
  |_=>none
 |.eF row off=>some (row,off)
 |_=>none
def loadAt(sz:Option Nat)(cs:List V)(off:Nat):Option V :=
 match sz with
 |none=>cs[off]?
 |some n=>bif Nat.ble (off+n) cs.length then some (.agg ((cs.drop off).take n)) else none
def iC:List V→Nat→List V→List V
 |cs,_,[]=>cs
 |cs,off,v::vs=>iC (cs.set off v) (off+1) vs
def chunks(sz:Nat)(cs:List V):Nat→Nat→List (List V)
 |_,0=>[]
 |off,n+1=>(cs.drop off).take sz::chunks sz cs (off+sz) n
def kV(sh:Sh):List (List V)→Option (List (List V))
 |[]=>some []
 |r::rs=>match lD sh r,kV sh rs with
  |some u,some us=>some (u::us)
  |_,_=>none
def yk(root:iQ)(v:V):V :=
 match root with
 |.ay=>v.kh
 |_=>v
def St.take(S:St)(bT:Nat):V→Option (V×List (Nat×Nat)×Option (List aP))
 |.bB id off=>match S.ay[id]? with
  |some (.cells cs)=>match cs[off]? with
   |some (.eY n es)=>some (.slice (some bT) n es,[(bT,es.length)],some (S.ay.set id (aP.cells (cs.set off (.slice none n es)))))
   |some v=>some (v.kh,[],none)
   |none=>none
  |_=>none
 |_=>none
def St.uD(S:St)(bT:Nat):V→V→Option (List (Nat×Nat)×List aP)
 |.bB id off,.slice (some f) n es=>match S.ay[id]?,(bif f==bT then look bT S.a7 else none) with
  |some (.cells cs),some k=>bif k==es.length&&Nat.blt off cs.length then
    some ([(bT,k+1)],S.ay.set id (aP.cells (cs.set off (.eY n es)))) else none
  |_,_=>none
 |_,_=>none
def St.rows(S:St)(sh:Sh):V→Option (List (List V))
 |.bW=>some []
 |.slice _ n es=>bif n==sh.length then some es else none
 |.dH _=>some []
 |.e8 _=>some []
 |_=>none
def St.sa(S:St)(sh:Sh):V→Option (List (List V))
 |.bO id s len=>match look id S.aV with
  |some cs=>bif (s==sh.length)&&Nat.blt 0 sh.length&&Nat.ble (len*sh.length) cs.length then kV sh (chunks sh.length cs 0 len) else none
  |none=>none
 |_=>none
def nC(S:St):List bj→Option (List V)
 |[]=>some []
 |x::xs=>match S.ev x,nC S xs with
  |some v,some vs=>some (v::vs)
  |_,_=>none
def pf(S:St):List (Nat×Nat×bj)→List V→Option (List V)
 |[],cs=>some cs
 |(off,n,x)::ps,cs=>match S.ev x with
  |some v=>bif v.cells.length==n&&Nat.ble (off+n) cs.length&&v.cells.all V.cz then pf S ps (iC cs off v.cells) else none
  |none=>none
def sb(S:St)(sh:Sh):List (Nat×bj)→List (List V)→Option (List (List V))
 |[],rs=>some rs
 |(i,x)::ps,rs=>match S.ev x with
  |some v=>match lD sh v.cells with
   |some r=>bif Nat.blt i rs.length then sb S sh ps (rs.set i r) else none
   |none=>none
  |none=>none
def St.vu(S:St)(src:Option Nat):V→Option (List V)
 |.bW=>some []
 |.dH _=>some []
 |.e8 _=>some []
 |.slice _ n es=>bif n==1 then some es.flatten else none
 |.bO id s n=>match (match src with|some j=>look j S.aV|none=>none) with
  |some cs=>bif src==some id&&(s==1)&&Nat.ble n cs.length then some (cs.take n) else none
  |none=>none
 |.fH id s off n=>match (match src with|some j=>look j S.aV|none=>none) with
  |some cs=>bif src==some id&&(s==1)&&Nat.ble (off+n) cs.length then some ((cs.drop off).take n) else none
  |none=>none
 |_=>none
def gq:V→V
 |.slice _ n es=>.slice none n es
 |v=>v
def strip:V→V
 |.agg cs=>.agg (cs.map gq)
 |v=>gq v
def cH(reg:List (Nat×Nat)):Nat→List V→List V×List (Nat×Nat)
 |_,[]=>([],[])
 |i,v::vs =>
  let r:=cH reg (i+1) vs
  match v with
  |.slice (some _) n es=>match look i reg with
   |some f=>(.slice (some f) n es::r.1,(f,es.length)::r.2)
   |none=>(.slice none n es::r.1,r.2)
  |v=>(strip v::r.1,r.2)
def recv(reg:List (Nat×Nat)):V→V×List (Nat×Nat)
 |.tuple vs=>((.tuple (cH reg 0 vs).1),(cH reg 0 vs).2)
 |.agg cs=>((.agg (cH reg 0 cs).1),(cH reg 0 cs).2)
 |v=>match cH reg 0 [v] with
  |([u],ts)=>(u,ts)
  |_=>(.undef,[])
def lH(S:St):List (Sh×bj)→Option (List V)
 |[]=>some []
 |(sh,x)::xs=>match S.ev x with
  |some v=>match wU sh v,lH S xs with
   |some u,some us=>some (u::us)
   |_,_=>none
  |none=>none
def qN(sh:Sh):V→Option V
 |.agg cs=>match lD sh cs with|some cs=>some (.agg cs)|none=>none
 |v=>match sh with | [h]=>el h v|_=>none
def jR(S:St):List (Sh×bj)→Option (List V)
 |[]=>some []
 |(sh,x)::xs=>match S.ev x with
  |some v=>match qN sh v,jR S xs with
   |some u,some us=>some (u::us)
   |_,_=>none
  |none=>none
def St.zX(S:St)(ids:List Nat)(rs:Sh)(id s n:Nat):Option V :=
 bif ids.contains id then (match S.sa rs (.bO id s n) with|some es=>some (V.slice none rs.length es)|none=>none) else none
def nV(S:St)(ids:List Nat):List (Sh×Sh×bj)→Option (List V)
 |[]=>some []
 |(rs,sh,x)::xs=>match (match S.ev x with
   |some (.bO id s n)=>S.zX ids rs id s n
   |some v=>qN sh v
   |none=>none),nV S ids xs with
  |some u,some us=>some (u::us)
  |_,_=>none
def V.gW:V→Bool
 |.slice .. => true
 |v=>v.plain
def V.hZ:V→Bool
 |.agg cs=>cs.all V.gW
 |v=>v.gW
def V.lone:V→Bool
 |.tuple vs=>vs.all V.hZ
 |v=>v.hZ
def V.sc:V→Bool
 |.int .. | .bool .. | .str .. => true
 |_=>false
def V.lI:V→Bool
 |.slice (some _) n es=>es.all fun r=>r.length==n&&r.all V.sc
 |v=>v.sc
def V.nW:V→Bool
 |.tuple vs=>vs.all V.sc
 |.agg cs=>cs.all V.sc
 |v=>v.sc
def mz(id:Nat):Nat→List V→Option (List V×Option (List V))
 |_,[]=>none
 |0,v::vs=>match v with
  |.slice (some _) n es=>bif es.all (fun r=>r.length==n&&r.all V.sc)&&vs.all V.lI then
    (bif es.isEmpty then some (.dH n::vs.map strip,none) else some (.bO id n es.length::vs.map strip,some es.flatten)) else none
  |_=>none
 |p+1,v::vs=>bif v.lI then match mz id p vs with
  |some (us,o)=>some (strip v::us,o)
  |none=>none
  else none
def iD(id pos:Nat):V→Option (V×Option (List V))
 |.tuple vs=>match mz id pos vs with
  |some (us,o)=>some (.tuple us,o)
  |none=>none
 |v=>match mz id pos [v] with
  |some ([u],o)=>some (u,o)
  |_=>none
def yl:List V→Option (List V)
 |[]=>some []
 |.bB i o::vs=>match yl vs with
  |some us=>some (.bB i o::us)
  |none=>none
 |_=>none
abbrev bm:=FuncId→List V→List aP→Option (V×List aP)
def St.fits(S:St)(root:iQ)(x:bj):Bool :=
 match S.ev x with
 |some a=>root.fits a
 |none=>false
def ym(x:Int):List Int→List Int
 |[]=>[x]
 |y::ys=>bif decide (x≤y) then x::y::ys else y::ym x ys
def mA:List Int→List Int
 |[]=>[]
 |x::xs=>ym x (mA xs)
def dedup:List Int→List Int
 |[]=>[]
 |[x]=>[x]
 |x::y::r=>bif x==y then dedup (y::r) else x::dedup (y::r)
def sd(k:Nat)(zs:List Int):List Int :=
 match k with
 |0=>mA zs
 |_=>dedup zs++List.replicate (zs.length-(dedup zs).length) 0
def yn(k id:Nat)(zs:List Int):V :=
 match k with
 |0=>.tuple []
 |_=>.bO id 1 (dedup zs).length
def uF:List V→Option (List Int)
 |[]=>some []
 |.int .i64 n::vs=>match uF vs with
  |some zs=>some (n::zs)
  |none=>none
 |_=>none
def St.mut(S:St)(k i:Nat)(d:Option Nat)(v:Option V):Option St :=
 match v with
 |some (.bO id s n)=>match look i S.aV with
  |some cs=>bif id==i&&(s==1)&&Nat.ble n cs.length&&Nat.ble n lim&&Nat.blt 0 n then match uF (cs.take n) with
   |some zs=>some ({ S with aV:=(i,(sd k zs).map (V.int .i64)++cs.drop n)::S.aV }.put d (yn k i zs))
   |none=>none
   else none
  |none=>none
 |_=>none
open Classical in
noncomputable def rd{α:Type}(G G':List aP)(x:α):Option α:=if G'=G then some x else none
noncomputable def VO.run(C:bm)(d:Option Nat)(S:St):VO→Option St
 |.mv x=>match S.ev x with
  |some v=>some (S.put d v)
  |none=>none
 |.pick c a b=>match S.ev c with
  |some (.bool t)=>match bif t then S.ev a else S.ev b with
   |some v=>some (S.put d v)
   |none=>none
  |_=>none
 |.obj id cells=>some ({ S with aV:=(id,cells)::S.aV }.put d (.bA id 0))
 |.box id x=>match S.ev x with
  |some v=>bif v.cells.all V.cz then some ({ S with aV:=(id,v.cells)::S.aV }.put d (.bA id 0)) else none
  |none=>none
 |.rM sh x=>match S.ev x with
  |some v=>match kU sh v.cells with
   |some cs=>some ({ S with ay:=S.ay++[aP.cells cs] }.put d (.bB S.ay.length 0))
   |none=>none
  |none=>none
 |.rP sh zero=>match kU sh zero with
  |some cs=>some ({ S with ay:=S.ay++[aP.cells cs] }.put d (.bB S.ay.length 0))
  |none=>none
 |.rQ=>some ({ S with ay:=S.ay++[aP.map []] }.put d (.map S.ay.length))
 |.tp ag ks zero ok x k=>match S.ev x,S.ev k with
  |some (.map i),some kv=>match S.ay[i]?,V.lF ag ks kv kv with
   |some (.map es),some _=>match lG ag ks kv es 0 with
    |some (some (_,v))=>some (S.put d (bif ok then .tuple [v,.bool true] else v))
    |some none=>some (S.put d (bif ok then .tuple [zero,.bool false] else zero))
    |none=>none
   |_,_=>none
  |_,_=>none
 |.rT ag ks sh x k y=>match S.ev x,S.ev k,S.ev y with
  |some (.map i),some kv,some v=>match S.ay[i]?,V.lF ag ks kv kv,wU sh v with
   |some (.map es),some _,some u=>match lG ag ks kv es 0 with
    |some (some (j,_))=>some { S with ay:=S.ay.set i (aP.map (es.set j (kv,u))) }
    |some none=>some { S with ay:=S.ay.set i (aP.map (es++[(kv,u)])) }
    |none=>none
   |_,_,_=>none
  |_,_,_=>none
 |.build zero parts=>match pf S parts zero with
  |some cs=>some (S.put d (.agg cs))
  |none=>none
 |.lit tok sh zero ln parts=>match sb S sh parts (List.replicate ln zero) with
  |some rs=>match tok with
   |some f=>some ({ S with a7:=(f,ln)::S.a7 }.put d (.slice (some f) sh.length rs))
   |none=>some (S.put d (.slice none sh.length rs))
  |none=>none
 |.load root sz p=>match S.ev p with
  |some a=>bif root.fits a then match S.mR a with
   |some (cs,off)=>match loadAt sz cs off with
    |some v=>some (S.put d (yk root v))
    |none=>none
   |none=>none
   else none
  |none=>none
 |.qJ bT p=>match S.ev p with
  |some a=>match S.take bT a with
   |some (v,ts,G)=>some ({ S with a7:=ts++S.a7,ay:=(match G with|some G=>G|none=>S.ay) }.put d v)
   |none=>none
  |none=>none
 |.rW bT p x=>match S.ev p,S.ev x with
  |some a,some v=>match S.uD bT a v with
   |some (ts,G)=>some { S with a7:=ts++S.a7,ay:=G }
   |none=>none
  |_,_=>none
 |.store root sh p x=>bif S.fits root p then match S.ev p,S.ev x with
  |some (.bA id off),some v=>match look id S.aV with
   |some cs=>bif v.cells.length==sh.length&&Nat.ble (off+sh.length) cs.length&&v.cells.all V.cz&&Nat.blt 0 sh.length then
     some { S with aV:=(id,iC cs off v.cells)::S.aV } else none
   |none=>none
  |some (.bB id off),some v=>match S.ay[id]? with
   |some (.cells cs)=>match kU sh v.cells with
    |some vs=>bif Nat.ble (off+vs.length) cs.length&&Nat.blt 0 vs.length then some { S with ay:=S.ay.set id (aP.cells (iC cs off vs)) } else none
    |none=>none
   |_=>none
  |_,_=>none
  else none
 |.rY x=>match S.ev x with
  |some (.bA i o)=>some (S.put d (.bA i o))
  |some (.bB i o)=>some (S.put d (.bB i o))
  |some (.eF r o)=>some (S.put d (.eF r o))
  |_=>none
 |.bin op x y=>match S.ev x,S.ev y with
  |some a,some b=>match V.bin op a b with
   |some v=>some (S.put d v)
   |none=>none
  |_,_=>none
 |.beq neg x y=>match S.ev x,S.ev y with
  |some (.bool a),some (.bool b)=>some (S.put d (.bool (bif neg then a != b else a==b)))
  |_,_=>none
 |.iR neg ks x y=>match S.ev x,S.ev y with
  |some a,some b=>match V.iR neg ks a b with
   |some v=>some (S.put d v)
   |none=>none
  |_,_=>none
 |.un op x=>match S.ev x with
  |some a=>match V.un op a with
   |some v=>some (S.put d v)
   |none=>none
  |none=>none
 |.conv k x=>match S.ev x with
  |some (.int _ n)=>some (S.put d (.int k (k.wrap n)))
  |_=>none
 |.r0 off x=>match S.ev x with
  |some (.bA i o)=>some (S.put d (.bA i (o+off)))
  |some (.bB i o)=>some (S.put d (.bB i (o+off)))
  |some (.eF r o)=>some (S.put d (.eF r (o+off)))
  |_=>none
 |.nA (some n) sz x i=>match S.ev x,S.ev i with
  |some a,some (.int _ k)=>bif decide (0≤k)&&decide (k<n) then match a with
    |.bA i o=>some (S.put d (.bA i (o+k.toNat*sz)))
    |.bB i o=>some (S.put d (.bB i (o+k.toNat*sz)))
    |.eF r o=>some (S.put d (.eF r (o+k.toNat*sz)))
    |_=>none
   else none
  |_,_=>none
 |.nA none sz x i=>match S.ev x,S.ev i with
  |some (.slice _ m es),some (.int _ k)=>bif decide (0≤k)&&(m==sz) then match es[k.toNat]? with
    |some r=>some (S.put d (.eF r 0))
    |none=>none
   else none
  |some (.bO id s ln),some (.int _ k)=>bif decide (0≤k)&&decide (k<ln)&&(s==sz) then some (S.put d (.bA id (k.toNat*sz))) else none
  |some (.df id s ln),some (.int _ k)=>bif decide (0≤k)&&decide (k<ln)&&(s==sz) then some (S.put d (.bB id (k.toNat*sz))) else none
  |_,_=>none
 |.idx n sz agg x i=>match S.ev x,S.ev i with
  |some (.agg cs),some (.int _ k)=>bif decide (0≤k)&&decide (k<n) then
    match loadAt (bif agg then some sz else none) cs (k.toNat*sz) with
    |some v=>some (S.put d v)
    |none=>none
   else none
  |_,_=>none
 |.field off sz x=>match S.ev x with
  |some (.agg cs)=>match loadAt sz cs off with
   |some v=>some (S.put d v)
   |none=>none
  |_=>none
 |.vt n=>some (S.put d (.dH n))
 |.tr neg x=>match S.ev x with
  |some .bW=>some (S.put d (.bool !neg))
  |some (.e8 _)=>some (S.put d (.bool neg))
  |some (.slice _ _ (_::_))=>some (S.put d (.bool neg))
  |_=>none
 |.len x=>match S.ev x with
  |some .bW=>some (S.put d (.int .i64 0))
  |some (.dH _)=>some (S.put d (.int .i64 0))
  |some (.e8 _)=>some (S.put d (.int .i64 0))
  |some (.slice _ _ es)=>some (S.put d (.int .i64 es.length))
  |some (.bO _ _ n)=>some (S.put d (.int .i64 n))
  |some (.df _ _ n)=>some (S.put d (.int .i64 n))
  |_=>none
 |.grow _ id n=>match S.ev n with
  |some (.int .i64 k)=>bif decide (0≤k)&&decide (k≤lim) then some ({ S with aV:=(id,[])::S.aV }.put d (.bO id 1 0)) else none
  |_=>none
 |.tq x=>match S.ev x with
  |some .bW=>some (S.put d (.int .i64 0))
  |_=>none
 |.rU id src x y=>match S.ev x,S.ev y with
  |some (.bO i s n),some b=>match look id S.aV,S.vu src b with
   |some cs,some us=>bif i==id&&(s==1)&&Nat.ble n cs.length&&us.all V.sc then
     some ({ S with aV:=(id,us.take n++cs.drop (us.take n).length)::S.aV }.put d (.int .i64 (us.take n).length)) else none
   |_,_=>none
  |_,_=>none
 |.r7 x=>match S.ev x with
  |some (.str s)=>some (S.put d (.int .i64 s.length))
  |_=>none
 |.app bT src sh mx x y=>match S.ev x,S.ev y with
  |some .bW,some b=>match S.rows sh b with
   |some ys=>bif Nat.ble ys.length mx then some ({ S with a7:=(bT,ys.length)::S.a7 }.put d (.slice (some bT) sh.length ys)) else none
   |none=>none
  |some (.dH _),some b=>match S.rows sh b with
   |some ys=>bif Nat.ble ys.length mx then some ({ S with a7:=(bT,ys.length)::S.a7 }.put d (.slice (some bT) sh.length ys)) else none
   |none=>none
  |some (.slice (some f) n es),some b=>match S.rows sh b with
   |some ys=>match (bif src==some f then look f S.a7 else none) with
    |some k=>bif k==es.length&&(n==sh.length)&&Nat.ble (es.length+ys.length) mx then
      some ({ S with a7:=(f,es.length+ys.length)::S.a7 }.put d (.slice (some f) n (es++ys))) else none
    |none=>none
   |none=>none
  |_,_=>none
 |.qK new src sh x y=>match S.ev x,S.ev y with
  |some .bW,some b=>match S.rows sh b with
   |some ys=>bif ys.isEmpty then some (S.put d .bW) else
     bif Nat.ble ys.length lim then some ({ S with aV:=(new,ys.flatten)::S.aV }.put d (.bO new sh.length ys.length)) else none
   |none=>none
  |some (.dH n),some b=>match S.rows sh b with
   |some ys=>bif ys.isEmpty then some (S.put d (.dH n)) else
     bif Nat.ble ys.length lim then some ({ S with aV:=(new,ys.flatten)::S.aV }.put d (.bO new sh.length ys.length)) else none
   |none=>none
  |some (.bO id s ln),some b=>match S.rows sh b,look src S.aV with
   |some ys,some cs=>bif (id==src)&&(s==sh.length)&&(cs.length==ln*s)&&Nat.ble (ln+ys.length) lim then
     some ({ S with aV:=(new,cs++ys.flatten)::S.aV.filter fun p => !(p.1==src) }.put d (.bO new sh.length (ln+ys.length))) else none
   |_,_=>none
  |_,_=>none
 |.ext x i=>match S.ev x with
  |some (.tuple vs)=>match vs[i]? with
   |some v=>some (S.put d v)
   |none=>none
  |_=>none
 |.call false f args reg=>match S.ev f,lH S args with
  |some (.fn g cap),some vs=>match C g (vs++cap) S.ay with
   |some (r,G)=>some ({ S with ay:=G,a7:=(recv reg r).2++S.a7 }.put d (recv reg r).1)
   |none=>none
  |_,_=>none
 |.call true f args reg=>match S.ev f,jR S args with
  |some (.fn g []),some vs=>match C g vs [] with
   |some (r,_)=>bif r.lone then some ({ S with a7:=(recv reg r).2++S.a7 }.put d (recv reg r).1) else none
   |none=>none
  |_,_=>none
 |.pc f args=>match S.ev f,lH S args with
  |some (.fn g cap),some vs=>match C g (vs++cap) S.ay with
   |some (r,G)=>rd S.ay G (S.put d (recv [] r).1)
   |none=>none
  |_,_=>none
 |.tu k _ id x=>S.mut k id d (S.ev x)
 |.pd f args ids=>match S.ev f,nV S ids args with
  |some (.fn g []),some vs=>match C g vs [] with
   |some (r,_)=>bif r.nW then some (S.put d r) else none
   |none=>none
  |_,_=>none
 |.own f args id pos=>match S.ev f,jR S args with
  |some (.fn g []),some vs=>match C g vs [] with
   |some (r,_)=>match iD id pos r with
    |some (v,some cs)=>some ({ S with aV:=(id,cs)::S.aV }.put d v)
    |some (v,none)=>some (S.put d v)
    |none=>none
   |none=>none
  |_,_=>none
 |.pe f args id=>match S.ev f,jR S args with
  |some (.fn g []),some vs=>match C g vs [] with
   |some (r,_)=>match iD id 0 r with
    |some (.bO i n ln,some cs)=>bif i==id&&Nat.blt 0 cs.length&&Nat.blt 0 ln&&cs.all V.sc then some ({ S with ay:=S.ay++[aP.cells cs] }.put d (.df S.ay.length n ln)) else none
    |some (.dH n,none)=>some ({ S with ay:=S.ay++[aP.cells []] }.put d (.df S.ay.length n 0))
    |_=>none
   |none=>none
  |_,_=>none
 |.qL id zero n=>match S.ev n with
  |some (.int _ k)=>bif decide (0≤k)&&decide (k≤lim) then
    some ({ S with aV:=(id,(List.replicate k.toNat zero).flatten)::S.aV }.put d (.bO id zero.length k.toNat)) else none
  |_=>none
 |.tv sz x lo hi=>match S.ev x with
  |some (.slice _ m es) =>
   match S.kg lo 0,S.kg hi es.length with
   |some (.int _ a),some (.int _ b)=>bif decide (0≤a)&&decide (a≤b)&&decide (b≤es.length)&&(m==sz) then
     some (S.put d (.slice none sz ((es.take b.toNat).drop a.toNat))) else none
   |_,_=>none
  |some .bW =>
   match S.kg lo 0,S.kg hi 0 with
   |some (.int _ a),some (.int _ b)=>bif decide (a=0)&&decide (b=0) then some (S.put d .bW) else none
   |_,_=>none
  |some (.bO id s ln) =>
   match S.kg lo 0,S.kg hi ln with
   |some (.int _ a),some (.int _ b)=>bif decide (0≤a)&&decide (a≤b)&&decide (b≤ln)&&(s==sz) then
     bif decide (a=0) then some (S.put d (.bO id s b.toNat)) else bif decide (a<ln) then some (S.put d (.fH id s a.toNat (b-a).toNat)) else none
     else none
   |_,_=>none
  |_=>none
 |.r9 mx x y z=>match S.ev x,S.ev y,S.ev z with
  |some (.int k a),some (.int _ b),some (.int _ c)=>some (S.put d (.int k (bif mx then max (max a b) c else min (min a b) c)))
  |_,_,_=>none
 |.mm mx x y=>match S.ev x,S.ev y with
  |some (.int k a),some (.int _ b)=>some (S.put d (.int k (bif mx then max a b else min a b)))
  |_,_=>none
 |.tw f cap=>match nC S cap with
  |some vs=>match yl vs with
   |some us=>some (S.put d (.fn f us))
   |none=>none
  |none=>none
noncomputable def bN.run(C:bm)(o:bN)(S:St):Option St :=
 match o.guard with
 |none=>o.op.run C o.dst S
 |some (g,want)=>match look g S.env with
  |some (.bool b)=>bif b==want then o.op.run C o.dst S else some (S.put o.dst .undef)
  |some .undef=>some (S.put o.dst .undef)
  |_=>none
noncomputable def fZ(C:bm):List bN→St→Option St
 |[],S=>some S
 |o::os,S=>match o.run C S with
  |some S'=>fZ C os S'
  |none=>none
def se{α:Type}(env:List (Nat×α)):List Nat→List (Nat×α)
 |[]=>[]
 |s::r=>match look s env with
  |some v=>(s,v)::se env r
  |none=>se env r
def St.keep(S:St)(k:cR):St :=
 {env:=se S.env k.e,aV:=se S.aV k.o,a7:=se S.a7 k.t,ay:=S.ay }
def St.clean(S:St):List Nat→Option St
 |[]=>some S
 |d::ds =>
  let env:=S.env.filter fun p => !(p.1==d)
  let aV:=S.aV.filter fun p => !(p.1==d)
  let a7:=S.a7.filter fun p => !(p.1==d)
  bif env.all (fun p => !p.2.ca d)&&aV.all (fun p=>p.2.all fun v => !v.cj d) then St.clean { env,aV,a7,ay:=S.ay } ds else none
def V.forget(bT:Nat):V→V
 |.slice (some f) n es=>bif f==bT then .slice none n es else .slice (some f) n es
 |v=>v
def V.iS(a b:Nat):V→V
 |.bO i s n=>bif i==a then .bO b s n else .bO i s n
 |v=>v
def St.nB(S:St)(id off bT sz:Nat):Option St :=
 match look id S.aV with
  |some cs=>match cs[off]? with
   |some .bW=>match St.clean S [bT] with
    |some S=>match look id S.aV with
     |some cs=>some { S with aV:=(id,cs.set off (.slice (some bT) sz []))::S.aV,a7:=(bT,0)::S.a7 }
     |none=>none
    |none=>none
   |_=>some S
  |none=>some S
def St.p9(S:St)(s id sz:Nat):Option St :=
 match St.clean { S with env:=S.env.filter fun p => !(p.1==s) } [id] with
 |some S=>some { S with env:=(s,.bO id sz 0)::S.env,aV:=(id,[])::S.aV }
 |none=>none
def St.share(S:St)(s n:Nat)(es:List (List V)):St :=
 {S with env:=(s,.df S.ay.length n es.length)::S.env,ay:=S.ay++[aP.cells es.flatten] }
def St.zY(G:List aP)(iB:List Sh):V→Option (V×List Sh×List aP)
 |.df i n len=>match iB,G[i]? with
  |sh::iB,some (.cells cs)=>bif n==sh.length&&Nat.blt 0 n&&Nat.ble (len*n) cs.length then match kV sh (chunks sh.length (cs.map V.jF) 0 len) with
   |some es=>some (.slice none n es,iB,G.set i (.cells []))
   |none=>none
   else none
  |_,_=>none
 |v=>some (v,iB,G)
def tx:List aP→List Sh→List V→Option (List V×List aP)
 |G,_,[]=>some ([],G)
 |G,iB,v::vs=>match St.zY G iB v with
  |some (u,iB,G)=>match tx G iB vs with
   |some (us,G)=>some (u::us,G)
   |none=>none
  |none=>none
def hY.run(S:St):hY→Option St
 |.p9 s id sz=>match look s S.env with
  |some .bW=>S.p9 s id sz
  |some (.dH _)=>S.p9 s id sz
  |_=>some S
 |.share s sh=>match look s S.env with
  |some (.bO id n len)=>match S.sa sh (.bO id n len),St.clean { S with env:=S.env.filter fun p => !(p.1==s) } [id] with
   |some es,some S=>some (S.share s sh.length es)
   |_,_=>none
  |some .bW=>some (S.share s sh.length [])
  |some (.dH _)=>some (S.share s sh.length [])
  |_=>none
 |.EG s iB=>match look s S.env with
  |some (.agg cs)=>match tx S.ay iB cs with
   |some (us,G)=>some { S with env:=(s,.agg us)::S.env,ay:=G }
   |none=>none
  |some v=>match St.zY S.ay iB v with
   |some (u,_,G)=>some { S with env:=(s,u)::S.env,ay:=G }
   |none=>none
  |none=>none
 |.BM id iB=>match look id S.aV with
  |some cs=>match tx S.ay iB cs with
   |some (us,G)=>some { S with aV:=(id,us)::S.aV.filter fun p => !(p.1==id),ay:=G }
   |none=>none
  |none=>some S
 |.norm s bT sz=>match look s S.env with
  |some .bW=>match St.clean { S with env:=S.env.filter fun p => !(p.1==s) } [bT] with
   |some S=>some { S with env:=(s,.slice (some bT) sz [])::S.env,a7:=(bT,0)::S.a7 }
   |none=>none
  |some (.dH _)=>match St.clean { S with env:=S.env.filter fun p => !(p.1==s) } [bT] with
   |some S=>some { S with env:=(s,.slice (some bT) sz [])::S.env,a7:=(bT,0)::S.a7 }
   |none=>none
  |_=>some S
 |.nB id off bT sz=>S.nB id off bT sz
 |.freeze s sh=>match look s S.env with
  |some (.bO id off len)=>match S.sa sh (.bO id off len) with
   |some es=>some { S with env:=(s,.slice none sh.length es)::S.env,aV:=S.aV.filter fun p => !(p.1==id) }
   |none=>none
  |_=>some S
 |.EE id back bT sz=>match look id S.aV with
  |some cs=>match cs[cs.length-back]? with
   |some .bW=>St.nB { S with aV:=(id,cs.map (V.forget bT))::S.aV.filter fun p => !(p.1==id) } id (cs.length-back) bT sz
   |_=>some S
  |none=>some S
 |.EF id off sh=>match look id S.aV with
  |some cs=>match cs[off]? with
   |some (.bO i s n)=>match S.sa sh (.bO i s n) with
    |some es=>bif i==id then none else some { S with aV:=(id,cs.set off (.slice none sh.length es))::(S.aV.filter fun p => !(p.1==i)).filter fun p => !(p.1==id) }
    |none=>none
   |_=>some S
  |none=>some S
 |.iS a b=>match St.clean S [b] with
  |some S=>match look a S.aV with
   |some cs=>some { S with env:=S.env.map (fun p=>(p.1,V.iS a b p.2)),aV:=(b,cs)::S.aV.filter fun p => !(p.1==a) }
   |none=>some S
  |none=>none
def mB:List hY→St→Option St
 |[],S=>some S
 |g::gs,S=>match g.run S with
  |some S=>mB gs S
  |none=>none
inductive nD where
 |normal
 |exit (id:Nat)
 |ret
 deriving Inhabited
def iter(body:St→Option (nD×St)):Nat→St→Option (nD×St)
 |0,_=>none
 |n+1,S=>match body S with
  |some (.normal,S')=>iter body n S'
  |some (.exit i,S')=>some (.exit i,S')
  |some (.ret,S')=>some (.ret,S')
  |none=>none
noncomputable def VC.run(C:bm)(n:Nat):VC→St→Option (nD×St)
 |.skip,S=>some (.normal,S)
 |.region gh ids ops keep,S=>match mB gh S with
  |some S=>match S.clean ids with
   |some S=>match fZ C ops S with
    |some S=>some (.normal,S.keep keep)
    |none=>none
   |none=>none
  |none=>none
 |.seq a b,S=>match VC.run C n a S with
  |some (.normal,S')=>VC.run C n b S'
  |some (.exit i,S')=>some (.exit i,S')
  |some (.ret,S')=>some (.ret,S')
  |none=>none
 |.cond c a b,S=>match S.ev c with
  |some (.bool t)=>bif t then VC.run C n a S else VC.run C n b S
  |_=>none
 |.block id a,S=>match VC.run C n a S with
  |some (.normal,S')=>some (.normal,S')
  |some (.exit i,S')=>bif i==id then some (.normal,S') else some (.exit i,S')
  |some (.ret,S')=>some (.ret,S')
  |none=>none
 |.loop gh keep a,S=>match mB gh S with
  |some S=>iter (fun S=>VC.run C n a (S.keep keep)) n S
  |none=>none
 |.exit id,S=>some (.exit id,S)
 |.dead,_=>none
 |.ret,S=>some (.ret,S)
 |.yi gh,S=>match mB gh S with
  |some S=>some (.ret,S)
  |none=>none
def wV(S:St)(sh:Option Nat)(used:List Nat):V→Option (V×List Nat)
 |.bW=>match sh with
  |some n=>some (.slice (some 0) n [],used)
  |none=>none
 |.dH n=>some (.slice (some 0) n [],used)
 |.slice (some f) n es=>match look f S.a7 with
  |some k=>bif k==es.length && !used.contains f then some (.slice (some 0) n es,f::used) else some (.slice none n es,used)
  |none=>some (.slice none n es,used)
 |.slice none n es=>some (.slice none n es,used)
 |v=>match nU sh v with
  |some v=>some (v,used)
  |none=>none
def lT(S:St):Sh→List Nat→List V→Option (List V×List Nat)
 |[],used,[]=>some ([],used)
 |h::sh,used,v::vs=>match wV S h used v with
  |some (u,used)=>match lT S sh used vs with
   |some (us,used)=>some (u::us,used)
   |none=>none
  |none=>none
 |_,_,_=>none
def wW(S:St)(used:List Nat):qa→Option (V×List Nat)
 |.t s sh=>match look s S.env with
  |some (.agg cs)=>match lT S sh used cs with
   |some (us,used)=>some (.agg us,used)
   |none=>none
  |some v=>match sh with
   |[h]=>wV S h used v
   |_=>none
  |none=>none
 |.c s agg sh=>match look s S.env with
  |some (.bA id 0)=>match look id S.aV with
   |some cs=>match lT S sh used cs with
    |some (us,used)=>some (EH agg us,used)
    |none=>none
   |none=>none
  |_=>none
def tz(S:St):List Nat→List qa→Option (List V)
 |_,[]=>some []
 |used,r::rs=>match wW S used r with
  |some (v,used)=>match tz S used rs with
   |some vs=>some (v::vs)
   |none=>none
  |none=>none
def tA(S:St)(rs:List qa):Option V :=
 match tz S [] rs with
 |some [v]=>some v
 |some vs=>some (.tuple vs)
 |none=>none
def nX:Nat→List V→List (Nat×V)
 |_,[]=>[]
 |i,v::vs=>(i,v)::nX (i+1) vs
noncomputable def ba.call(C:bm)(n:Nat)(f:ba)(args:List V)(G:List aP):Option (V×List aP) :=
 bif args.length==f.nparams then
  match VC.run C n f.body { env:=nX 0 args,aV:=[],a7:=[],ay:=G } with
  |some (.normal,S)|some (.ret,S)=>match tA S f.results with
   |some v=>some (v,S.ay)
   |none=>none
  |_=>none
 else none
def nY(C:bm)(args:List V):List FuncId→List aP→Option (List aP)
 |[],G=>some G
 |f::fs,G=>match C f args G with
  |some (_,G')=>nY C args fs G'
  |none=>none
def wrap(C:bm)(vf:ba)(args:List V)(o:Option (V×List aP)):Option (V×List aP) :=
 match o with
 |none=>none
 |some (r,G)=>match vf.defs with
  |[]=>some (r,G)
  |fs=>match args with
   |[.bB _ _]=>match nY C args fs.reverse G with
    |some G'=>some (.tuple [],G')
    |none=>none
   |_=>none
noncomputable def ba.one(C:bm)(n:Nat)(vf:ba)(args:List V)(G:List aP):Option (V×List aP):=wrap C vf args (vf.call C n args G)
open Classical in
noncomputable def ba.both(C:bm)(n:Nat)(vf:ba)(p m:Nat)(args:List V)(G:List aP):Option (V×List aP) :=
 if vf.one C n (args.set p .bW) G=vf.one C n (args.set p (.e8 m)) G then vf.one C n (args.set p .bW) G else none
noncomputable def ba.wX(C:bm)(n:Nat)(vf:ba)(args:List V)(G:List aP):Option (V×List aP) :=
 match vf.split with
 |none=>vf.one C n args G
 |some p=>match args[p]? with
  |some (.slice none m [])=>vf.both C n p m args G
  |_=>vf.one C n args G
noncomputable def call(F:FuncId→Option ba):Nat→bm
 |0=>fun _ _ _=>none
 |n+1=>fun f args G=>match F f with
  |some vf=>vf.wX (call F n) n args G
  |none=>none
end Go.Vm

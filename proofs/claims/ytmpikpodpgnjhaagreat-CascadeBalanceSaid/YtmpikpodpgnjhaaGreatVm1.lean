/- The value machine: a deterministic evaluator, by value, for compiled copies of Go functions. Definitions alone. -/
import GoSem.Core.View
namespace Go.Vm
set_option linter.all false
inductive V where
 |undef
 |int (k:IntKind) (n:Int)
 |bool (b:Bool)
 |str (s:List UInt8)
 |aK
 |slice (tok:Option Nat) (sz:Nat) (es:List (List V))
 |fC (sz:Nat) (es:List (List V))
 |dW (sz:Nat)
 |fD (sz:Nat)
 |agg (cs:List V)
 |tuple (vs:List V)
 |fa (row:List V) (off:Nat)
 |bK (id off:Nat)
 |cb (id off len:Nat)
 |gj (id s off len:Nat)
 |dB (id s len:Nat)
 |bO (id off:Nat)
 |fU
 |fn (f:FuncId) (cap:List V)
 |fP
 |map (id:Nat)
 |fV
 deriving Inhabited
abbrev Sh:=List (Option Nat)
inductive aW where
 |cells (cs:List V)
 |map (es:List (V×V))
 deriving Inhabited
structure St where
 env:List (Nat×V)
 bb:List (Nat×List V)
 bm:List (Nat×Nat)
 az:List aW
 deriving Inhabited
def look{α:Type}(s:Nat):List (Nat×α)→Option α
 |[]=>none
 |(k,v)::r=>bif k==s then some v else look s r
inductive bB where
 |t (s:Nat)
 |c (v:V)
 deriving Inhabited
def St.ev(S:St):bB→Option V
 |.t s=>look s S.env
 |.c v=>some v
def St.kD(S:St)(o:Option bB)(n:Nat):Option V :=
 match o with
 |some o=>S.ev o
 |none=>some (.int .i64 n)
def St.put(S:St)(d:Option Nat)(v:V):St :=
 match d with
 |some d=>{ S with env:=(d,v)::S.env }
 |none=>S
inductive jx where
 |loc (id:Nat)
 |az
 |jk
 deriving Inhabited
def jx.fits:jx→V→Bool
 |.loc i,.bK id _=>i==id
 |.az,.bO _ _=>true
 |.jk,.fa _ _=>true
 |_,_=>false
inductive VO where
 |mv (x:bB)
 |pick (c a b:bB)
 |obj (id:Nat) (cells:List V)
 |box (id:Nat) (x:bB)
 |ou (sh:Sh) (x:bB)
 |pc (sh:Sh) (zero:List V)
 |rO
 |sY (ag:Bool) (ks:List Nat) (zero:V) (ok:Bool) (x k:bB)
 |rP (ag:Bool) (ks:List Nat) (sh:Sh) (x k y:bB)
 |build (zero:List V) (parts:List (Nat×Nat×bB))
 |lit (tok:Option Nat) (sh:Sh) (zero:List V) (len:Nat) (parts:List (Nat×bB))
 |load (root:jx) (sz:Option Nat) (p:bB)
 |store (root:jx) (sh:Sh) (p x:bB)
 |pd (cf:Nat) (p:bB)
 |sZ (sz:Nat)
 |ud (x:bB)
 |grow (f:FuncId) (id:Nat) (n:bB)
 |qm (id:Nat) (src:Option Nat) (x y:bB)
 |qV (neg:Bool) (x:bB)
 |pF (cf:Nat) (p x:bB)
 |qn (x:bB)
 |bin (op:BinOp) (x y:bB)
 |beq (neg:Bool) (x y:bB)
 |gW (neg:Bool) (ks:List Nat) (x y:bB)
 |un (op:UnOp) (x:bB)
 |conv (k:IntKind) (x:bB)
 |qW (off:Nat) (x:bB)
 |eg (arr:Option Nat) (sz:Nat) (x i:bB)
 |idx (n sz:Nat) (agg:Bool) (x i:bB)
 |field (off:Nat) (sz:Option Nat) (x:bB)
 |len (x:bB)
 |s6 (x:bB)
 |app (cf:Nat) (src:Option Nat) (sh:Sh) (mx:Nat) (x y:bB)
 |m9 (new src:Nat) (sh:Sh) (x y:bB)
 |ext (x:bB) (i:Nat)
 |call (alone:Bool) (f:bB) (args:List (Sh×bB)) (reg:List (Nat×Nat))
 |rQ (k:Nat) (f:FuncId) (id:Nat) (x:bB)
 |mG (f:bB) (args:List (Sh×bB))
 |pe (f:bB) (args:List (Sh×Sh×bB)) (ids:List Nat)
 |own (f:bB) (args:List (Sh×bB)) (id pos:Nat)
 |pG (f:bB) (args:List (Sh×bB)) (id:Nat)
 |mf (id:Nat) (zero:List V) (n:bB)
 |pf (sz:Nat) (x:bB) (lo hi:Option bB)
 |mm (max:Bool) (x y:bB)
 |rR (max:Bool) (x y z:bB)
 |pH (f:FuncId) (cap:List bB)
 deriving Inhabited
structure bI where
 dst:Option Nat
 op:VO
 guard:Option (Nat×Bool)
 deriving Inhabited
inductive iO where
 |norm (s cf sz:Nat)
 |kE (id off cf sz:Nat)
 |freeze (s:Nat) (sh:Sh)
 |Ih (id back cf sz:Nat)
 |ic (a b:Nat)
 |zX (id off:Nat) (sh:Sh)
 |ov (s id sz:Nat)
 |share (s:Nat) (sh:Sh)
 |Ii (s:Nat) (iY:List Sh)
 |wA (id:Nat) (iY:List Sh)
 deriving Inhabited
structure c9 where
 e:List Nat
 o:List Nat
 t:List Nat
 deriving Inhabited
inductive VC where
 |skip
 |region (gh:List iO) (ids:List Nat) (ops:List bI) (keep:c9)
 |seq (a b:VC)
 |cond (c:bB) (a b:VC)
 |block (id:Nat) (a:VC)
 |loop (gh:List iO) (keep:c9) (a:VC)
 |exit (id:Nat)
 |ret
 |dead
 |ue (gh:List iO)
 deriving Inhabited
inductive qX where
 |t (s:Nat) (sh:Sh)
 |c (s:Nat) (agg:Bool) (sh:Sh)
 deriving Inhabited
structure bq where
 nparams:Nat
 body:VC
 results:List qX
 defs:List FuncId:=[]
 split:Option Nat:=none
 deriving Inhabited
def V.cells:V→List V
 |.agg cs=>cs
 |v=>[v]
def EJ(agg:Bool)(cs:List V):V :=
 match agg,cs with
 |false,[v]=>v
 |_,cs=>.agg cs
def V.plain:V→Bool
 |.int .. | .bool .. | .str .. | .aK | .slice none _ _=>true
 |_=>false
def el(sh:Option Nat):V→Option V
 |.int k n=>some (.int k n)
 |.bool b=>some (.bool b)
 |.str s=>some (.str s)
 |.aK=>match sh with|some 0=>some .aK|some n=>some (.slice none n [])|none=>none
 |.slice _ n es=>some (.slice none n es)
 |.dW n=>some (.slice none n [])
 |.fD n=>some (.slice none n [])
 |_=>none
def lP:Sh→List V→Option (List V)
 |[],[]=>some []
 |h::sh,v::vs=>match el h v,lP sh vs with
  |some u,some us=>some (u::us)
  |_,_=>none
 |_,_=>none
def ox(sh:Option Nat):V→Option V
 |.bO i o=>some (.bO i o)
 |.dB i s n=>some (.dB i s n)
 |.fU=>some .fU
 |.fn f c=>some (.fn f c)
 |.fP=>some .fP
 |.map i=>some (.map i)
 |.fV=>some .fV
 |v=>el sh v
def qY:Sh→List V→Option (List V)
 |[],[]=>some []
 |h::sh,v::vs=>match ox h v,qY sh vs with
  |some u,some us=>some (u::us)
  |_,_=>none
 |_,_=>none
def xE(sh:Option Nat):V→Option V
 |.aK=>match sh with|some (n+1)=>some (.fC (n+1) [])|h=>ox h .aK
 |.dW n=>some (.fC n [])
 |v=>ox sh v
def lx:Sh→List V→Option (List V)
 |[],[]=>some []
 |h::sh,v::vs=>match xE h v,lx sh vs with
  |some u,some us=>some (u::us)
  |_,_=>none
 |_,_=>none
def V.j7:V→V
 |.fC n es=>.slice none n es
 |v=>v
def V.kF:V→V
 |.agg cs=>.agg (cs.map V.j7)
 |v=>v.j7
def wB(sh:Sh):V→Option V
 |.agg cs=>match qY sh cs with|some cs=>some (.agg cs)|none=>none
 |v=>match sh with | [h]=>ox h v|_=>none
def V.cI(d:Nat):V→Bool
 |.slice (some t) _ _=>t==d
 |.bK i _=>i==d
 |.cb i _ _=>i==d
 |.gj i _ _ _=>i==d
 |.agg _=>true
 |.tuple _=>true
 |_=>false
def V.dC(d:Nat):V→Bool
 |.agg cs=>cs.any (V.cI d)
 |v=>v.cI d
def V.cu(d:Nat):V→Bool
 |.tuple vs=>vs.any (V.dC d)
 |v=>v.dC d
def V.cM:V→Bool
 |.undef | .agg _ | .tuple _=>false
 |_=>true
def lim:Nat:=4294967296
def BY(op:BinOp)(k:IntKind)(a b:Int):Option V :=
 match op with
 |.add=>some (.int k (k.wrap (a+b)))
 |.sub=>some (.int k (k.wrap (a-b)))
 |.mul=>some (.int k (k.wrap (a*b)))
 |.quo=>if b=0 then none else some (.int k (k.wrap (a.tdiv b)))
 |.rem=>if b=0 then none else some (.int k (a.tmod b))
 |.shr=>if b<0 then none else some (.int k (a.fdiv (2 ^ (min b.toNat k.bits))))
 |.eql=>some (.bool (a==b))
 |.neq=>some (.bool (a != b))
 |.lss=>some (.bool (decide (a<b)))
 |.leq=>some (.bool (decide (a≤b)))
 |.gtr=>some (.bool (decide (a>b)))
 |.geq=>some (.bool (decide (a≥b)))
 |_=>none
def V.bin(op:BinOp):V→V→Option V
 |.int k a,.int k' b=>bif decide (k=k') then BY op k a b else none
 |_,_=>none
def jM:Nat→V→V→Option Bool
 |0,.int k a,.int k' b=>bif decide (k=k') then some (a==b) else none
 |1,.bool a,.bool b=>some (a==b)
 |2,.str a,.str b=>some (a==b)
 |_,_,_=>none
def eJ:List Nat→List V→List V→Option Bool
 |[],_,_=>some true
 |k::ks,a::as,b::bs=>match jM k a b,eJ ks as bs with
  |some p,some q=>some (p&&q)
  |_,_=>none
 |_,_,_=>none
def V.gW(neg:Bool)(ks:List Nat):V→V→Option V
 |.agg cs,.agg ds=>bif cs.length==ks.length&&ds.length==ks.length then match eJ ks cs ds with
  |some b=>some (.bool (bif neg then !b else b))
  |none=>none
  else none
 |_,_=>none
def V.lQ(ag:Bool)(ks:List Nat)(a b:V):Option Bool :=
 match ag with
 |true=>match a,b with
  |.agg cs,.agg ds=>bif cs.length==ks.length&&ds.length==ks.length then eJ ks cs ds else none
  |_,_=>none
 |false=>match ks with
  |[k]=>jM k a b
  |_=>none
def lR(ag:Bool)(ks:List Nat)(k:V):List (V×V)→Nat→Option (Option (Nat×V))
 |[],_=>some none
 |(q,v)::es,i=>match V.lQ ag ks k q with
  |some true=>some (some (i,v))
  |some false=>lR ag ks k es (i+1)
  |none=>none
def V.un(op:UnOp):V→Option V
 |.bool b=>match op with
  |.not=>some (.bool !b)
  |_=>none
 |.int k n=>match op with
  |.neg=>some (.int k (k.wrap (0-n)))
  |_=>none
 |_=>none
def St.na(S:St):V→Option (List V×Nat)
 |.bK id off=>match look id S.bb with
  |some cs=>some (cs,off)
  |none=>none
 |.bO id off=>match S.az[id]? with
  |some (.cells cs)=>some (cs,off)
  |_=>none
 |.fa row off=>some (row,off)
 |_=>none
def loadAt(sz:Option Nat)(cs:List V)(off:Nat):Option V :=
 match sz with
 |none=>cs[off]?
 |some n=>bif Nat.ble (off+n) cs.length then some (.agg ((cs.drop off).take n)) else none
def iZ:List V→Nat→List V→List V
 |cs,_,[]=>cs
 |cs,off,v::vs=>iZ (cs.set off v) (off+1) vs
def chunks(sz:Nat)(cs:List V):Nat→Nat→List (List V)
 |_,0=>[]
 |off,n+1=>(cs.drop off).take sz::chunks sz cs (off+sz) n
def ly(sh:Sh):List (List V)→Option (List (List V))
 |[]=>some []
 |r::rs=>match lP sh r,ly sh rs with
  |some u,some us=>some (u::us)
  |_,_=>none
def xF(root:jx)(v:V):V :=
 match root with
 |.az=>v.kF
 |_=>v
def St.take(S:St)(cf:Nat):V→Option (V×List (Nat×Nat)×Option (List aW))
 |.bO id off=>match S.az[id]? with
  |some (.cells cs)=>match cs[off]? with
   |some (.fC n es)=>some (.slice (some cf) n es,[(cf,es.length)],some (S.az.set id (aW.cells (cs.set off (.slice none n es)))))
   |some v=>some (v.kF,[],none)
   |none=>none
  |_=>none
 |_=>none
def St.uf(S:St)(cf:Nat):V→V→Option (List (Nat×Nat)×List aW)
 |.bO id off,.slice (some f) n es=>match S.az[id]?,(bif f==cf then look cf S.bm else none) with
  |some (.cells cs),some k=>bif k==es.length&&Nat.blt off cs.length then
    some ([(cf,k+1)],S.az.set id (aW.cells (cs.set off (.fC n es)))) else none
  |_,_=>none
 |_,_=>none
def St.rows(S:St)(sh:Sh):V→Option (List (List V))
 |.aK=>some []
 |.slice _ n es=>bif n==sh.length then some es else none
 |.dW _=>some []
 |.fD _=>some []
 |_=>none
def St.rS(S:St)(sh:Sh):V→Option (List (List V))
 |.cb id s len=>match look id S.bb with
  |some cs=>bif (s==sh.length)&&Nat.blt 0 sh.length&&Nat.ble (len*sh.length) cs.length then ly sh (chunks sh.length cs 0 len) else none
  |none=>none
 |_=>none
def nS(S:St):List bB→Option (List V)
 |[]=>some []
 |x::xs=>match S.ev x,nS S xs with
  |some v,some vs=>some (v::vs)
  |_,_=>none
def pI(S:St):List (Nat×Nat×bB)→List V→Option (List V)
 |[],cs=>some cs
 |(off,n,x)::ps,cs=>match S.ev x with
  |some v=>bif v.cells.length==n&&Nat.ble (off+n) cs.length&&v.cells.all V.cM then pI S ps (iZ cs off v.cells) else none
  |none=>none
def rT(S:St)(sh:Sh):List (Nat×bB)→List (List V)→Option (List (List V))
 |[],rs=>some rs
 |(i,x)::ps,rs=>match S.ev x with
  |some v=>match lP sh v.cells with
   |some r=>bif Nat.blt i rs.length then rT S sh ps (rs.set i r) else none
   |none=>none
  |none=>none
def St.uY(S:St)(src:Option Nat):V→Option (List V)
 |.aK=>some []
 |.dW _=>some []
 |.fD _=>some []
 |.slice _ n es=>bif n==1 then some es.flatten else none
 |.cb id s n=>match (match src with|some j=>look j S.bb|none=>none) with
  |some cs=>bif src==some id&&(s==1)&&Nat.ble n cs.length then some (cs.take n) else none
  |none=>none
 |.gj id s off n=>match (match src with|some j=>look j S.bb|none=>none) with
  |some cs=>bif src==some id&&(s==1)&&Nat.ble (off+n) cs.length then some ((cs.drop off).take n) else none
  |none=>none
 |_=>none
def gX:V→V
 |.slice _ n es=>.slice none n es
 |v=>v
def strip:V→V
 |.agg cs=>.agg (cs.map gX)
 |v=>gX v
def cV(reg:List (Nat×Nat)):Nat→List V→List V×List (Nat×Nat)
 |_,[]=>([],[])
 |i,v::vs =>
  let r:=cV reg (i+1) vs
  match v with
  |.slice (some _) n es=>match look i reg with
   |some f=>(.slice (some f) n es::r.1,(f,es.length)::r.2)
   |none=>(.slice none n es::r.1,r.2)
  |v=>(strip v::r.1,r.2)
def recv(reg:List (Nat×Nat)):V→V×List (Nat×Nat)
 |.tuple vs=>((.tuple (cV reg 0 vs).1),(cV reg 0 vs).2)
 |.agg cs=>((.agg (cV reg 0 cs).1),(cV reg 0 cs).2)
 |v=>match cV reg 0 [v] with
  |([u],ts)=>(u,ts)
  |_=>(.undef,[])
def lS(S:St):List (Sh×bB)→Option (List V)
 |[]=>some []
 |(sh,x)::xs=>match S.ev x with
  |some v=>match wB sh v,lS S xs with
   |some u,some us=>some (u::us)
   |_,_=>none
  |none=>none
def qZ(sh:Sh):V→Option V
 |.agg cs=>match lP sh cs with|some cs=>some (.agg cs)|none=>none
 |v=>match sh with | [h]=>el h v|_=>none
def kh(S:St):List (Sh×bB)→Option (List V)
 |[]=>some []
 |(sh,x)::xs=>match S.ev x with
  |some v=>match qZ sh v,kh S xs with
   |some u,some us=>some (u::us)
   |_,_=>none
  |none=>none
def St.zY(S:St)(ids:List Nat)(rs:Sh)(id s n:Nat):Option V :=
 bif ids.contains id then (match S.rS rs (.cb id s n) with|some es=>some (V.slice none rs.length es)|none=>none) else none
def oy(S:St)(ids:List Nat):List (Sh×Sh×bB)→Option (List V)
 |[]=>some []
 |(rs,sh,x)::xs=>match (match S.ev x with
   |some (.cb id s n)=>S.zY ids rs id s n
   |some v=>qZ sh v
   |none=>none),oy S ids xs with
  |some u,some us=>some (u::us)
  |_,_=>none
def V.iw:V→Bool
 |.slice .. => true
 |v=>v.plain
def V.iH:V→Bool
 |.agg cs=>cs.all V.iw
 |v=>v.iw
def V.lone:V→Bool
 |.tuple vs=>vs.all V.iH
 |v=>v.iH
def V.sc:V→Bool
 |.int .. | .bool .. | .str .. => true
 |_=>false
def V.lT:V→Bool
 |.slice (some _) n es=>es.all fun r=>r.length==n&&r.all V.sc
 |v=>v.sc
def V.oz:V→Bool
 |.tuple vs=>vs.all V.sc
 |.agg cs=>cs.all V.sc
 |v=>v.sc
def nT(id:Nat):Nat→List V→Option (List V×Option (List V))
 |_,[]=>none
 |0,v::vs=>match v with
  |.slice (some _) n es=>bif es.all (fun r=>r.length==n&&r.all V.sc)&&vs.all V.lT then
    (bif es.isEmpty then some (.dW n::vs.map strip,none) else some (.cb id n es.length::vs.map strip,some es.flatten)) else none
  |_=>none
 |p+1,v::vs=>bif v.lT then match nT id p vs with
  |some (us,o)=>some (strip v::us,o)
  |none=>none
  else none
def jN(id pos:Nat):V→Option (V×Option (List V))
 |.tuple vs=>match nT id pos vs with
  |some (us,o)=>some (.tuple us,o)
  |none=>none
 |v=>match nT id pos [v] with
  |some ([u],o)=>some (u,o)
  |_=>none
def xG:List V→Option (List V)
 |[]=>some []
 |.bO i o::vs=>match xG vs with
  |some us=>some (.bO i o::us)
  |none=>none
 |_=>none
abbrev bC:=FuncId→List V→List aW→Option (V×List aW)
def St.fits(S:St)(root:jx)(x:bB):Bool :=
 match S.ev x with
 |some a=>root.fits a
 |none=>false
def xH(x:Int):List Int→List Int
 |[]=>[x]
 |y::ys=>bif decide (x≤y) then x::y::ys else y::xH x ys
def mH:List Int→List Int
 |[]=>[]
 |x::xs=>xH x (mH xs)
def dedup:List Int→List Int
 |[]=>[]
 |[x]=>[x]
 |x::y::r=>bif x==y then dedup (y::r) else x::dedup (y::r)
def rU(k:Nat)(zs:List Int):List Int :=
 match k with
 |0=>mH zs
 |_=>dedup zs++List.replicate (zs.length-(dedup zs).length) 0
def xI(k id:Nat)(zs:List Int):V :=
 match k with
 |0=>.tuple []
 |_=>.cb id 1 (dedup zs).length
def ug:List V→Option (List Int)
 |[]=>some []
 |.int .i64 n::vs=>match ug vs with
  |some zs=>some (n::zs)
  |none=>none
 |_=>none
def St.mut(S:St)(k i:Nat)(d:Option Nat)(v:Option V):Option St :=
 match v with
 |some (.cb id s n)=>match look i S.bb with
  |some cs=>bif id==i&&(s==1)&&Nat.ble n cs.length&&Nat.ble n lim&&Nat.blt 0 n then match ug (cs.take n) with
   |some zs=>some ({ S with bb:=(i,(rU k zs).map (V.int .i64)++cs.drop n)::S.bb }.put d (xI k i zs))
   |none=>none
   else none
  |none=>none
 |_=>none
open Classical in
noncomputable def rd{α:Type}(G G':List aW)(x:α):Option α:=if G'=G then some x else none
noncomputable def VO.run(C:bC)(d:Option Nat)(S:St):VO→Option St
 |.mv x=>match S.ev x with
  |some v=>some (S.put d v)
  |none=>none
 |.pick c a b=>match S.ev c with
  |some (.bool t)=>match bif t then S.ev a else S.ev b with
   |some v=>some (S.put d v)
   |none=>none
  |_=>none
 |.obj id cells=>some ({ S with bb:=(id,cells)::S.bb }.put d (.bK id 0))
 |.box id x=>match S.ev x with
  |some v=>bif v.cells.all V.cM then some ({ S with bb:=(id,v.cells)::S.bb }.put d (.bK id 0)) else none
  |none=>none
 |.ou sh x=>match S.ev x with
  |some v=>match lx sh v.cells with
   |some cs=>some ({ S with az:=S.az++[aW.cells cs] }.put d (.bO S.az.length 0))
   |none=>none
  |none=>none
 |.pc sh zero=>match lx sh zero with
  |some cs=>some ({ S with az:=S.az++[aW.cells cs] }.put d (.bO S.az.length 0))
  |none=>none
 |.rO=>some ({ S with az:=S.az++[aW.map []] }.put d (.map S.az.length))
 |.sY ag ks zero ok x k=>match S.ev x,S.ev k with
  |some (.map i),some kv=>match S.az[i]?,V.lQ ag ks kv kv with
   |some (.map es),some _=>match lR ag ks kv es 0 with
    |some (some (_,v))=>some (S.put d (bif ok then .tuple [v,.bool true] else v))
    |some none=>some (S.put d (bif ok then .tuple [zero,.bool false] else zero))
    |none=>none
   |_,_=>none
  |_,_=>none
 |.rP ag ks sh x k y=>match S.ev x,S.ev k,S.ev y with
  |some (.map i),some kv,some v=>match S.az[i]?,V.lQ ag ks kv kv,wB sh v with
   |some (.map es),some _,some u=>match lR ag ks kv es 0 with
    |some (some (j,_))=>some { S with az:=S.az.set i (aW.map (es.set j (kv,u))) }
    |some none=>some { S with az:=S.az.set i (aW.map (es++[(kv,u)])) }
    |none=>none
   |_,_,_=>none
  |_,_,_=>none
 |.build zero parts=>match pI S parts zero with
  |some cs=>some (S.put d (.agg cs))
  |none=>none
 |.lit tok sh zero ln parts=>match rT S sh parts (List.replicate ln zero) with
  |some rs=>match tok with
   |some f=>some ({ S with bm:=(f,ln)::S.bm }.put d (.slice (some f) sh.length rs))
   |none=>some (S.put d (.slice none sh.length rs))
  |none=>none
 |.load root sz p=>match S.ev p with
  |some a=>bif root.fits a then match S.na a with
   |some (cs,off)=>match loadAt sz cs off with
    |some v=>some (S.put d (xF root v))
    |none=>none
   |none=>none
   else none
  |none=>none
 |.pd cf p=>match S.ev p with
  |some a=>match S.take cf a with
   |some (v,ts,G)=>some ({ S with bm:=ts++S.bm,az:=(match G with|some G=>G|none=>S.az) }.put d v)
   |none=>none
  |none=>none
 |.pF cf p x=>match S.ev p,S.ev x with
  |some a,some v=>match S.uf cf a v with
   |some (ts,G)=>some { S with bm:=ts++S.bm,az:=G }
   |none=>none
  |_,_=>none
 |.store root sh p x=>bif S.fits root p then match S.ev p,S.ev x with
  |some (.bK id off),some v=>match look id S.bb with
   |some cs=>bif v.cells.length==sh.length&&Nat.ble (off+sh.length) cs.length&&v.cells.all V.cM&&Nat.blt 0 sh.length then
     some { S with bb:=(id,iZ cs off v.cells)::S.bb } else none
   |none=>none
  |some (.bO id off),some v=>match S.az[id]? with
   |some (.cells cs)=>match lx sh v.cells with
    |some vs=>bif Nat.ble (off+vs.length) cs.length&&Nat.blt 0 vs.length then some { S with az:=S.az.set id (aW.cells (iZ cs off vs)) } else none
    |none=>none
   |_=>none
  |_,_=>none
  else none
 |.qn x=>match S.ev x with
  |some (.bK i o)=>some (S.put d (.bK i o))
  |some (.bO i o)=>some (S.put d (.bO i o))
  |some (.fa r o)=>some (S.put d (.fa r o))
  |_=>none
 |.bin op x y=>match S.ev x,S.ev y with
  |some a,some b=>match V.bin op a b with
   |some v=>some (S.put d v)
   |none=>none
  |_,_=>none
 |.beq neg x y=>match S.ev x,S.ev y with
  |some (.bool a),some (.bool b)=>some (S.put d (.bool (bif neg then a != b else a==b)))
  |_,_=>none
 |.gW neg ks x y=>match S.ev x,S.ev y with
  |some a,some b=>match V.gW neg ks a b with
   |some v=>some (S.put d v)
   |none=>none
  |_,_=>none
 |.un op x=>match S.ev x with
  |some a=>match V.un op a with
   |some v=>some (S.put d v)
   |none=>none
  |none=>none
 |.conv k x=>match S.ev x with
  |some (.int _ n)=>some (S.put d (.int k (k.wrap n)))
  |_=>none
 |.qW off x=>match S.ev x with
  |some (.bK i o)=>some (S.put d (.bK i (o+off)))
  |some (.bO i o)=>some (S.put d (.bO i (o+off)))
  |some (.fa r o)=>some (S.put d (.fa r (o+off)))
  |_=>none
 |.eg (some n) sz x i=>match S.ev x,S.ev i with
  |some a,some (.int _ k)=>bif decide (0≤k)&&decide (k<n) then match a with
    |.bK i o=>some (S.put d (.bK i (o+k.toNat*sz)))
    |.bO i o=>some (S.put d (.bO i (o+k.toNat*sz)))
    |.fa r o=>some (S.put d (.fa r (o+k.toNat*sz)))
    |_=>none
   else none
  |_,_=>none
 |.eg none sz x i=>match S.ev x,S.ev i with
  |some (.slice _ m es),some (.int _ k)=>bif decide (0≤k)&&(m==sz) then match es[k.toNat]? with
    |some r=>some (S.put d (.fa r 0))
    |none=>none
   else none
  |some (.cb id s ln),some (.int _ k)=>bif decide (0≤k)&&decide (k<ln)&&(s==sz) then some (S.put d (.bK id (k.toNat*sz))) else none
  |some (.dB id s ln),some (.int _ k)=>bif decide (0≤k)&&decide (k<ln)&&(s==sz) then some (S.put d (.bO id (k.toNat*sz))) else none
  |_,_=>none
 |.idx n sz agg x i=>match S.ev x,S.ev i with
  |some (.agg cs),some (.int _ k)=>bif decide (0≤k)&&decide (k<n) then
    match loadAt (bif agg then some sz else none) cs (k.toNat*sz) with
    |some v=>some (S.put d v)
    |none=>none
   else none
  |_,_=>none
 |.field off sz x=>match S.ev x with
  |some (.agg cs)=>match loadAt sz cs off with
   |some v=>some (S.put d v)
   |none=>none
  |_=>none
 |.sZ n=>some (S.put d (.dW n))
 |.qV neg x=>match S.ev x with
  |some .aK=>some (S.put d (.bool !neg))
  |some (.fD _)=>some (S.put d (.bool neg))
  |some (.slice _ _ (_::_))=>some (S.put d (.bool neg))
  |_=>none
 |.len x=>match S.ev x with
  |some .aK=>some (S.put d (.int .i64 0))
  |some (.dW _)=>some (S.put d (.int .i64 0))
  |some (.fD _)=>some (S.put d (.int .i64 0))
  |some (.slice _ _ es)=>some (S.put d (.int .i64 es.length))
  |some (.cb _ _ n)=>some (S.put d (.int .i64 n))
  |some (.dB _ _ n)=>some (S.put d (.int .i64 n))
  |_=>none
 |.grow _ id n=>match S.ev n with
  |some (.int .i64 k)=>bif decide (0≤k)&&decide (k≤lim) then some ({ S with bb:=(id,[])::S.bb }.put d (.cb id 1 0)) else none
  |_=>none
 |.ud x=>match S.ev x with
  |some .aK=>some (S.put d (.int .i64 0))
  |_=>none
 |.qm id src x y=>match S.ev x,S.ev y with
  |some (.cb i s n),some b=>match look id S.bb,S.uY src b with
   |some cs,some us=>bif i==id&&(s==1)&&Nat.ble n cs.length&&us.all V.sc then
     some ({ S with bb:=(id,us.take n++cs.drop (us.take n).length)::S.bb }.put d (.int .i64 (us.take n).length)) else none
   |_,_=>none
  |_,_=>none
 |.s6 x=>match S.ev x with
  |some (.str s)=>some (S.put d (.int .i64 s.length))
  |_=>none
 |.app cf src sh mx x y=>match S.ev x,S.ev y with
  |some .aK,some b=>match S.rows sh b with
   |some ys=>bif Nat.ble ys.length mx then some ({ S with bm:=(cf,ys.length)::S.bm }.put d (.slice (some cf) sh.length ys)) else none
   |none=>none
  |some (.dW _),some b=>match S.rows sh b with
   |some ys=>bif Nat.ble ys.length mx then some ({ S with bm:=(cf,ys.length)::S.bm }.put d (.slice (some cf) sh.length ys)) else none
   |none=>none
  |some (.slice (some f) n es),some b=>match S.rows sh b with
   |some ys=>match (bif src==some f then look f S.bm else none) with
    |some k=>bif k==es.length&&(n==sh.length)&&Nat.ble (es.length+ys.length) mx then
      some ({ S with bm:=(f,es.length+ys.length)::S.bm }.put d (.slice (some f) n (es++ys))) else none
    |none=>none
   |none=>none
  |_,_=>none
 |.m9 new src sh x y=>match S.ev x,S.ev y with
  |some .aK,some b=>match S.rows sh b with
   |some ys=>bif ys.isEmpty then some (S.put d .aK) else
     bif Nat.ble ys.length lim then some ({ S with bb:=(new,ys.flatten)::S.bb }.put d (.cb new sh.length ys.length)) else none
   |none=>none
  |some (.dW n),some b=>match S.rows sh b with
   |some ys=>bif ys.isEmpty then some (S.put d (.dW n)) else
     bif Nat.ble ys.length lim then some ({ S with bb:=(new,ys.flatten)::S.bb }.put d (.cb new sh.length ys.length)) else none
   |none=>none
  |some (.cb id s ln),some b=>match S.rows sh b,look src S.bb with
   |some ys,some cs=>bif (id==src)&&(s==sh.length)&&(cs.length==ln*s)&&Nat.ble (ln+ys.length) lim then
     some ({ S with bb:=(new,cs++ys.flatten)::S.bb.filter fun p => !(p.1==src) }.put d (.cb new sh.length (ln+ys.length))) else none
   |_,_=>none
  |_,_=>none
 |.ext x i=>match S.ev x with
  |some (.tuple vs)=>match vs[i]? with
   |some v=>some (S.put d v)
   |none=>none
  |_=>none
 |.call false f args reg=>match S.ev f,lS S args with
  |some (.fn g cap),some vs=>match C g (vs++cap) S.az with
   |some (r,G)=>some ({ S with az:=G,bm:=(recv reg r).2++S.bm }.put d (recv reg r).1)
   |none=>none
  |_,_=>none
 |.call true f args reg=>match S.ev f,kh S args with
  |some (.fn g []),some vs=>match C g vs [] with
   |some (r,_)=>bif r.lone then some ({ S with bm:=(recv reg r).2++S.bm }.put d (recv reg r).1) else none
   |none=>none
  |_,_=>none
 |.mG f args=>match S.ev f,lS S args with
  |some (.fn g cap),some vs=>match C g (vs++cap) S.az with
   |some (r,G)=>rd S.az G (S.put d (recv [] r).1)
   |none=>none
  |_,_=>none
 |.rQ k _ id x=>S.mut k id d (S.ev x)
 |.pe f args ids=>match S.ev f,oy S ids args with
  |some (.fn g []),some vs=>match C g vs [] with
   |some (r,_)=>bif r.oz then some (S.put d r) else none
   |none=>none
  |_,_=>none
 |.own f args id pos=>match S.ev f,kh S args with
  |some (.fn g []),some vs=>match C g vs [] with
   |some (r,_)=>match jN id pos r with
    |some (v,some cs)=>some ({ S with bb:=(id,cs)::S.bb }.put d v)
    |some (v,none)=>some (S.put d v)
    |none=>none
   |none=>none
  |_,_=>none
 |.pG f args id=>match S.ev f,kh S args with
  |some (.fn g []),some vs=>match C g vs [] with
   |some (r,_)=>match jN id 0 r with
    |some (.cb i n ln,some cs)=>bif i==id&&Nat.blt 0 cs.length&&Nat.blt 0 ln&&cs.all V.sc then some ({ S with az:=S.az++[aW.cells cs] }.put d (.dB S.az.length n ln)) else none
    |some (.dW n,none)=>some ({ S with az:=S.az++[aW.cells []] }.put d (.dB S.az.length n 0))
    |_=>none
   |none=>none
  |_,_=>none
 |.mf id zero n=>match S.ev n with
  |some (.int _ k)=>bif decide (0≤k)&&decide (k≤lim) then
    some ({ S with bb:=(id,(List.replicate k.toNat zero).flatten)::S.bb }.put d (.cb id zero.length k.toNat)) else none
  |_=>none
 |.pf sz x lo hi=>match S.ev x with
  |some (.slice _ m es) =>
   match S.kD lo 0,S.kD hi es.length with
   |some (.int _ a),some (.int _ b)=>bif decide (0≤a)&&decide (a≤b)&&decide (b≤es.length)&&(m==sz) then
     some (S.put d (.slice none sz ((es.take b.toNat).drop a.toNat))) else none
   |_,_=>none
  |some .aK =>
   match S.kD lo 0,S.kD hi 0 with
   |some (.int _ a),some (.int _ b)=>bif decide (a=0)&&decide (b=0) then some (S.put d .aK) else none
   |_,_=>none
  |some (.cb id s ln) =>
   match S.kD lo 0,S.kD hi ln with
   |some (.int _ a),some (.int _ b)=>bif decide (0≤a)&&decide (a≤b)&&decide (b≤ln)&&(s==sz) then
     bif decide (a=0) then some (S.put d (.cb id s b.toNat)) else bif decide (a<ln) then some (S.put d (.gj id s a.toNat (b-a).toNat)) else none
     else none
   |_,_=>none
  |_=>none
 |.rR mx x y z=>match S.ev x,S.ev y,S.ev z with
  |some (.int k a),some (.int _ b),some (.int _ c)=>some (S.put d (.int k (bif mx then max (max a b) c else min (min a b) c)))
  |_,_,_=>none
 |.mm mx x y=>match S.ev x,S.ev y with
  |some (.int k a),some (.int _ b)=>some (S.put d (.int k (bif mx then max a b else min a b)))
  |_,_=>none
 |.pH f cap=>match nS S cap with
  |some vs=>match xG vs with
   |some us=>some (S.put d (.fn f us))
   |none=>none
  |none=>none
noncomputable def bI.run(C:bC)(o:bI)(S:St):Option St :=
 match o.guard with
 |none=>o.op.run C o.dst S
 |some (g,want)=>match look g S.env with
  |some (.bool b)=>bif b==want then o.op.run C o.dst S else some (S.put o.dst .undef)
  |some .undef=>some (S.put o.dst .undef)
  |_=>none
noncomputable def gO(C:bC):List bI→St→Option St
 |[],S=>some S
 |o::os,S=>match o.run C S with
  |some S'=>gO C os S'
  |none=>none
def rV{α:Type}(env:List (Nat×α)):List Nat→List (Nat×α)
 |[]=>[]
 |s::r=>match look s env with
  |some v=>(s,v)::rV env r
  |none=>rV env r
def St.keep(S:St)(k:c9):St :=
 {env:=rV S.env k.e,bb:=rV S.bb k.o,bm:=rV S.bm k.t,az:=S.az }
def St.clean(S:St):List Nat→Option St
 |[]=>some S
 |d::ds =>
  let env:=S.env.filter fun p => !(p.1==d)
  let bb:=S.bb.filter fun p => !(p.1==d)
  let bm:=S.bm.filter fun p => !(p.1==d)
  bif env.all (fun p => !p.2.cu d)&&bb.all (fun p=>p.2.all fun v => !v.cI d) then St.clean { env,bb,bm,az:=S.az } ds else none
def V.forget(cf:Nat):V→V
 |.slice (some f) n es=>bif f==cf then .slice none n es else .slice (some f) n es
 |v=>v
def V.ic(a b:Nat):V→V
 |.cb i s n=>bif i==a then .cb b s n else .cb i s n
 |v=>v
def St.kE(S:St)(id off cf sz:Nat):Option St :=
 match look id S.bb with
  |some cs=>match cs[off]? with
   |some .aK=>match St.clean S [cf] with
    |some S=>match look id S.bb with
     |some cs=>some { S with bb:=(id,cs.set off (.slice (some cf) sz []))::S.bb,bm:=(cf,0)::S.bm }
     |none=>none
    |none=>none
   |_=>some S
  |none=>some S
def St.ov(S:St)(s id sz:Nat):Option St :=
 match St.clean { S with env:=S.env.filter fun p => !(p.1==s) } [id] with
 |some S=>some { S with env:=(s,.cb id sz 0)::S.env,bb:=(id,[])::S.bb }
 |none=>none
def St.share(S:St)(s n:Nat)(es:List (List V)):St :=
 {S with env:=(s,.dB S.az.length n es.length)::S.env,az:=S.az++[aW.cells es.flatten] }
def St.zZ(G:List aW)(iY:List Sh):V→Option (V×List Sh×List aW)
 |.dB i n len=>match iY,G[i]? with
  |sh::iY,some (.cells cs)=>bif n==sh.length&&Nat.blt 0 n&&Nat.ble (len*n) cs.length then match ly sh (chunks sh.length (cs.map V.j7) 0 len) with
   |some es=>some (.slice none n es,iY,G.set i (.cells []))
   |none=>none
   else none
  |_,_=>none
 |v=>some (v,iY,G)
def s7:List aW→List Sh→List V→Option (List V×List aW)
 |G,_,[]=>some ([],G)
 |G,iY,v::vs=>match St.zZ G iY v with
  |some (u,iY,G)=>match s7 G iY vs with
   |some (us,G)=>some (u::us,G)
   |none=>none
  |none=>none
def iO.run(S:St):iO→Option St
 |.ov s id sz=>match look s S.env with
  |some .aK=>S.ov s id sz
  |some (.dW _)=>S.ov s id sz
  |_=>some S
 |.share s sh=>match look s S.env with
  |some (.cb id n len)=>match S.rS sh (.cb id n len),St.clean { S with env:=S.env.filter fun p => !(p.1==s) } [id] with
   |some es,some S=>some (S.share s sh.length es)
   |_,_=>none
  |some .aK=>some (S.share s sh.length [])
  |some (.dW _)=>some (S.share s sh.length [])
  |_=>none
 |.Ii s iY=>match look s S.env with
  |some (.agg cs)=>match s7 S.az iY cs with
   |some (us,G)=>some { S with env:=(s,.agg us)::S.env,az:=G }
   |none=>none
  |some v=>match St.zZ S.az iY v with
   |some (u,_,G)=>some { S with env:=(s,u)::S.env,az:=G }
   |none=>none
  |none=>none
 |.wA id iY=>match look id S.bb with
  |some cs=>match s7 S.az iY cs with
   |some (us,G)=>some { S with bb:=(id,us)::S.bb.filter fun p => !(p.1==id),az:=G }
   |none=>none
  |none=>some S
 |.norm s cf sz=>match look s S.env with
  |some .aK=>match St.clean { S with env:=S.env.filter fun p => !(p.1==s) } [cf] with
   |some S=>some { S with env:=(s,.slice (some cf) sz [])::S.env,bm:=(cf,0)::S.bm }
   |none=>none
  |some (.dW _)=>match St.clean { S with env:=S.env.filter fun p => !(p.1==s) } [cf] with
   |some S=>some { S with env:=(s,.slice (some cf) sz [])::S.env,bm:=(cf,0)::S.bm }
   |none=>none
  |_=>some S
 |.kE id off cf sz=>S.kE id off cf sz
 |.freeze s sh=>match look s S.env with
  |some (.cb id off len)=>match S.rS sh (.cb id off len) with
   |some es=>some { S with env:=(s,.slice none sh.length es)::S.env,bb:=S.bb.filter fun p => !(p.1==id) }
   |none=>none
  |_=>some S
 |.Ih id back cf sz=>match look id S.bb with
  |some cs=>match cs[cs.length-back]? with
   |some .aK=>St.kE { S with bb:=(id,cs.map (V.forget cf))::S.bb.filter fun p => !(p.1==id) } id (cs.length-back) cf sz
   |_=>some S
  |none=>some S
 |.zX id off sh=>match look id S.bb with
  |some cs=>match cs[off]? with
   |some (.cb i s n)=>match S.rS sh (.cb i s n) with
    |some es=>bif i==id then none else some { S with bb:=(id,cs.set off (.slice none sh.length es))::(S.bb.filter fun p => !(p.1==i)).filter fun p => !(p.1==id) }
    |none=>none
   |_=>some S
  |none=>some S
 |.ic a b=>match St.clean S [b] with
  |some S=>match look a S.bb with
   |some cs=>some { S with env:=S.env.map (fun p=>(p.1,V.ic a b p.2)),bb:=(b,cs)::S.bb.filter fun p => !(p.1==a) }
   |none=>some S
  |none=>none
def mI:List iO→St→Option St
 |[],S=>some S
 |g::gs,S=>match g.run S with
  |some S=>mI gs S
  |none=>none
inductive nU where
 |normal
 |exit (id:Nat)
 |ret
 deriving Inhabited
def iter(body:St→Option (nU×St)):Nat→St→Option (nU×St)
 |0,_=>none
 |n+1,S=>match body S with
  |some (.normal,S')=>iter body n S'
  |some (.exit i,S')=>some (.exit i,S')
  |some (.ret,S')=>some (.ret,S')
  |none=>none
noncomputable def VC.run(C:bC)(n:Nat):VC→St→Option (nU×St)
 |.skip,S=>some (.normal,S)
 |.region gh ids ops keep,S=>match mI gh S with
  |some S=>match S.clean ids with
   |some S=>match gO C ops S with
    |some S=>some (.normal,S.keep keep)
    |none=>none
   |none=>none
  |none=>none
 |.seq a b,S=>match VC.run C n a S with
  |some (.normal,S')=>VC.run C n b S'
  |some (.exit i,S')=>some (.exit i,S')
  |some (.ret,S')=>some (.ret,S')
  |none=>none
 |.cond c a b,S=>match S.ev c with
  |some (.bool t)=>bif t then VC.run C n a S else VC.run C n b S
  |_=>none
 |.block id a,S=>match VC.run C n a S with
  |some (.normal,S')=>some (.normal,S')
  |some (.exit i,S')=>bif i==id then some (.normal,S') else some (.exit i,S')
  |some (.ret,S')=>some (.ret,S')
  |none=>none
 |.loop gh keep a,S=>match mI gh S with
  |some S=>iter (fun S=>VC.run C n a (S.keep keep)) n S
  |none=>none
 |.exit id,S=>some (.exit id,S)
 |.dead,_=>none
 |.ret,S=>some (.ret,S)
 |.ue gh,S=>match mI gh S with
  |some S=>some (.ret,S)
  |none=>none
def wC(S:St)(sh:Option Nat)(used:List Nat):V→Option (V×List Nat)
 |.aK=>match sh with
  |some n=>some (.slice (some 0) n [],used)
  |none=>none
 |.dW n=>some (.slice (some 0) n [],used)
 |.slice (some f) n es=>match look f S.bm with
  |some k=>bif k==es.length && !used.contains f then some (.slice (some 0) n es,f::used) else some (.slice none n es,used)
  |none=>some (.slice none n es,used)
 |.slice none n es=>some (.slice none n es,used)
 |v=>match ox sh v with
  |some v=>some (v,used)
  |none=>none
def mg(S:St):Sh→List Nat→List V→Option (List V×List Nat)
 |[],used,[]=>some ([],used)
 |h::sh,used,v::vs=>match wC S h used v with
  |some (u,used)=>match mg S sh used vs with
   |some (us,used)=>some (u::us,used)
   |none=>none
  |none=>none
 |_,_,_=>none
def wD(S:St)(used:List Nat):qX→Option (V×List Nat)
 |.t s sh=>match look s S.env with
  |some (.agg cs)=>match mg S sh used cs with
   |some (us,used)=>some (.agg us,used)
   |none=>none
  |some v=>match sh with
   |[h]=>wC S h used v
   |_=>none
  |none=>none
 |.c s agg sh=>match look s S.env with
  |some (.bK id 0)=>match look id S.bb with
   |some cs=>match mg S sh used cs with
    |some (us,used)=>some (EJ agg us,used)
    |none=>none
   |none=>none
  |_=>none
def s8(S:St):List Nat→List qX→Option (List V)
 |_,[]=>some []
 |used,r::rs=>match wD S used r with
  |some (v,used)=>match s8 S used rs with
   |some vs=>some (v::vs)
   |none=>none
  |none=>none
def s9(S:St)(rs:List qX):Option V :=
 match s8 S [] rs with
 |some [v]=>some v
 |some vs=>some (.tuple vs)
 |none=>none
def oA:Nat→List V→List (Nat×V)
 |_,[]=>[]
 |i,v::vs=>(i,v)::oA (i+1) vs
noncomputable def bq.call(C:bC)(n:Nat)(f:bq)(args:List V)(G:List aW):Option (V×List aW) :=
 bif args.length==f.nparams then
  match VC.run C n f.body { env:=oA 0 args,bb:=[],bm:=[],az:=G } with
  |some (.normal,S)|some (.ret,S)=>match s9 S f.results with
   |some v=>some (v,S.az)
   |none=>none
  |_=>none
 else none
def oB(C:bC)(args:List V):List FuncId→List aW→Option (List aW)
 |[],G=>some G
 |f::fs,G=>match C f args G with
  |some (_,G')=>oB C args fs G'
  |none=>none
def wrap(C:bC)(vf:bq)(args:List V)(o:Option (V×List aW)):Option (V×List aW) :=
 match o with
 |none=>none
 |some (r,G)=>match vf.defs with
  |[]=>some (r,G)
  |fs=>match args with
   |[.bO _ _]=>match oB C args fs.reverse G with
    |some G'=>some (.tuple [],G')
    |none=>none
   |_=>none
noncomputable def bq.one(C:bC)(n:Nat)(vf:bq)(args:List V)(G:List aW):Option (V×List aW):=wrap C vf args (vf.call C n args G)
open Classical in
noncomputable def bq.both(C:bC)(n:Nat)(vf:bq)(p m:Nat)(args:List V)(G:List aW):Option (V×List aW) :=
 if vf.one C n (args.set p .aK) G=vf.one C n (args.set p (.fD m)) G then vf.one C n (args.set p .aK) G else none
noncomputable def bq.wE(C:bC)(n:Nat)(vf:bq)(args:List V)(G:List aW):Option (V×List aW) :=
 match vf.split with
 |none=>vf.one C n args G
 |some p=>match args[p]? with
  |some (.slice none m [])=>vf.both C n p m args G
  |_=>vf.one C n args G
noncomputable def call(F:FuncId→Option bq):Nat→bC
 |0=>fun _ _ _=>none
 |n+1=>fun f args G=>match F f with
  |some vf=>vf.wE (call F n) n args G
  |none=>none
end Go.Vm

/- The value machine: a deterministic evaluator, by value, for compiled copies of Go functions. Definitions alone. -/
import GoSem.Core.View
namespace Go.Vm
set_option linter.all false
inductive V where
 | undef
 | int (k:IntKind) (n:Int)
 | bool (b:Bool)
 | str (s:List UInt8)
 | nils
 | slice (tok:Option Nat) (sz:Nat) (es:List (List V))
 | oslice (sz:Nat) (es:List (List V))
 | zed (sz:Nat)
 | nonil (sz:Nat)
 | agg (cs:List V)
 | tuple (vs:List V)
 | eptr (row:List V) (off:Nat)
 | lptr (id off:Nat)
 | lref (id off len:Nat)
 | gptr (id off:Nat)
 | nilptr
 | fn (f:FuncId) (cap:List V)
 | nilfn
 | map (id:Nat)
 | nilmap
 deriving Inhabited
abbrev Sh:=List (Option Nat)
inductive GObj where
 | cells (cs:List V)
 | map (es:List (V × V))
 deriving Inhabited
structure St where
 env:List (Nat × V)
 objs:List (Nat × List V)
 toks:List (Nat × Nat)
 glob:List GObj
 deriving Inhabited
def look {α:Type} (s:Nat):List (Nat × α) → Option α
 | [] => none
 |(k,v) :: r => bif k == s then some v else look s r
inductive Opd where
 | t (s:Nat)
 | c (v:V)
 deriving Inhabited
def St.ev (S:St):Opd → Option V
 | .t s => look s S.env
 | .c v => some v
def St.evOr (S:St) (o:Option Opd) (n:Nat):Option V :=
 match o with
 | some o => S.ev o
 | none => some (.int .i64 n)
def St.put (S:St) (d:Option Nat) (v:V):St :=
 match d with
 | some d => { S with env:=(d,v) :: S.env }
 | none => S
inductive Root where
 | loc (id:Nat)
 | glob
 | imm
 deriving Inhabited
def Root.fits:Root → V → Bool
 | .loc i,.lptr id _ => i == id
 | .glob,.gptr _ _ => true
 | .imm,.eptr _ _ => true
 | _,_ => false
inductive VO where
 | mv (x:Opd)
 | pick (c a b:Opd)
 | obj (id:Nat) (cells:List V)
 | box (id:Nat) (x:Opd)
 | gbox (sh:Sh) (x:Opd)
 | galloc (sh:Sh) (zero:List V)
 | mkmap
 | mapget (ag:Bool) (ks:List Nat) (zero:V) (ok:Bool) (x k:Opd)
 | mapset (ag:Bool) (ks:List Nat) (sh:Sh) (x k y:Opd)
 | build (zero:List V) (parts:List (Nat × Nat × Opd))
 | lit (tok:Option Nat) (sh:Sh) (zero:List V) (len:Nat) (parts:List (Nat × Opd))
 | load (root:Root) (sz:Option Nat) (p:Opd)
 | store (root:Root) (sh:Sh) (p x:Opd)
 | gtake (fam:Nat) (p:Opd)
 | zlit (sz:Nat)
 | isnil (neg:Bool) (x:Opd)
 | gput (fam:Nat) (p x:Opd)
 | nilchk (x:Opd)
 | bin (op:BinOp) (x y:Opd)
 | beq (neg:Bool) (x y:Opd)
 | aeq (neg:Bool) (ks:List Nat) (x y:Opd)
 | un (op:UnOp) (x:Opd)
 | conv (k:IntKind) (x:Opd)
 | faddr (off:Nat) (x:Opd)
 | iaddr (arr:Option Nat) (sz:Nat) (x i:Opd)
 | idx (n sz:Nat) (agg:Bool) (x i:Opd)
 | field (off:Nat) (sz:Option Nat) (x:Opd)
 | len (x:Opd)
 | slen (x:Opd)
 | app (fam:Nat) (src:Option Nat) (sh:Sh) (mx:Nat) (x y:Opd)
 | appo (new src:Nat) (sh:Sh) (x y:Opd)
 | ext (x:Opd) (i:Nat)
 | call (alone:Bool) (f:Opd) (args:List (Sh × Opd)) (reg:List (Nat × Nat))
 | wrt (k:Nat) (f:FuncId) (id:Nat) (x:Opd)
 | rcall (f:Opd) (args:List (Sh × Opd))
 | lcall (f:Opd) (args:List (Sh × Sh × Opd)) (ids:List Nat)
 | own (f:Opd) (args:List (Sh × Opd)) (id pos:Nat)
 | mkobj (id:Nat) (zero:List V) (n:Opd)
 | slc (sz:Nat) (x:Opd) (lo hi:Option Opd)
 | mm (max:Bool) (x y:Opd)
 | mm3 (max:Bool) (x y z:Opd)
 | mkfn (f:FuncId) (cap:List Opd)
 deriving Inhabited
structure VOp where
 dst:Option Nat
 op:VO
 guard:Option (Nat × Bool)
 deriving Inhabited
inductive Ghost where
 | norm (s fam sz:Nat)
 | normCell (id off fam sz:Nat)
 | freeze (s:Nat) (sh:Sh)
 | normLast (id back fam sz:Nat)
 | ren (a b:Nat)
 | freezeCell (id off:Nat) (sh:Sh)
 deriving Inhabited
structure Keep where
 e:List Nat
 o:List Nat
 t:List Nat
 deriving Inhabited
inductive VC where
 | skip
 | region (gh:List Ghost) (ids:List Nat) (ops:List VOp) (keep:Keep)
 | seq (a b:VC)
 | cond (c:Opd) (a b:VC)
 | block (id:Nat) (a:VC)
 | loop (gh:List Ghost) (keep:Keep) (a:VC)
 | exit (id:Nat)
 | ret
 deriving Inhabited
inductive RVar where
 | t (s:Nat) (sh:Sh)
 | c (s:Nat) (agg:Bool) (sh:Sh)
 deriving Inhabited
structure VFunc where
 nparams:Nat
 body:VC
 results:List RVar
 defs:List FuncId:=[]
 split:Option Nat:=none
 deriving Inhabited
def V.cells:V → List V
 | .agg cs => cs
 | v => [v]
def oneOrAgg (agg:Bool) (cs:List V):V :=
 match agg,cs with
 | false,[v] => v
 | _,cs => .agg cs
def V.plain:V → Bool
 | .int .. | .bool .. | .str .. | .nils | .slice none _ _ => true
 | _ => false
def el (sh:Option Nat):V → Option V
 | .int k n => some (.int k n)
 | .bool b => some (.bool b)
 | .str s => some (.str s)
 | .nils => match sh with | some 0 => some .nils | some n => some (.slice none n []) | none => none
 | .slice _ n es => some (.slice none n es)
 | .zed n => some (.slice none n [])
 | .nonil n => some (.slice none n [])
 | _ => none
def els:Sh → List V → Option (List V)
 | [],[] => some []
 | h :: sh,v :: vs => match el h v,els sh vs with
   | some u,some us => some (u :: us)
   | _,_ => none
 | _,_ => none
def gel (sh:Option Nat):V → Option V
 | .gptr i o => some (.gptr i o)
 | .nilptr => some .nilptr
 | .fn f c => some (.fn f c)
 | .nilfn => some .nilfn
 | .map i => some (.map i)
 | .nilmap => some .nilmap
 | v => el sh v
def gels:Sh → List V → Option (List V)
 | [],[] => some []
 | h :: sh,v :: vs => match gel h v,gels sh vs with
   | some u,some us => some (u :: us)
   | _,_ => none
 | _,_ => none
def gcel (sh:Option Nat):V → Option V
 | .nils => match sh with | some (n + 1) => some (.oslice (n + 1) []) | h => gel h .nils
 | .zed n => some (.oslice n [])
 | v => gel sh v
def gcels:Sh → List V → Option (List V)
 | [],[] => some []
 | h :: sh,v :: vs => match gcel h v,gcels sh vs with
   | some u,some us => some (u :: us)
   | _,_ => none
 | _,_ => none
def V.shed0:V → V
 | .oslice n es => .slice none n es
 | v => v
def V.shed:V → V
 | .agg cs => .agg (cs.map V.shed0)
 | v => v.shed0
def garg (sh:Sh):V → Option V
 | .agg cs => match gels sh cs with | some cs => some (.agg cs) | none => none
 | v => match sh with | [h] => gel h v | _ => none
def V.men0 (d:Nat):V → Bool
 | .slice (some t) _ _ => t == d
 | .lptr i _ => i == d
 | .lref i _ _ => i == d
 | .agg _ => true
 | .tuple _ => true
 | _ => false
def V.men1 (d:Nat):V → Bool
 | .agg cs => cs.any (V.men0 d)
 | v => v.men0 d
def V.men (d:Nat):V → Bool
 | .tuple vs => vs.any (V.men1 d)
 | v => v.men1 d
def V.isCell:V → Bool
 | .undef | .agg _ | .tuple _ => false
 | _ => true
def lim:Nat:=4294967296
def intBin (op:BinOp) (k:IntKind) (a b:Int):Option V :=
 match op with
 | .add => some (.int k (k.wrap (a + b)))
 | .sub => some (.int k (k.wrap (a - b)))
 | .mul => some (.int k (k.wrap (a * b)))
 | .quo => if b = 0 then none else some (.int k (k.wrap (a.tdiv b)))
 | .rem => if b = 0 then none else some (.int k (a.tmod b))
 | .shr => if b < 0 then none else some (.int k (a.fdiv (2 ^ (min b.toNat k.bits))))
 | .eql => some (.bool (a == b))
 | .neq => some (.bool (a != b))
 | .lss => some (.bool (decide (a < b)))
 | .leq => some (.bool (decide (a ≤ b)))
 | .gtr => some (.bool (decide (a > b)))
 | .geq => some (.bool (decide (a ≥ b)))
 | _ => none
def V.bin (op:BinOp):V → V → Option V
 | .int k a,.int k' b => bif decide (k = k') then intBin op k a b else none
 | _,_ => none
def eqCell:Nat → V → V → Option Bool
 | 0,.int k a,.int k' b => bif decide (k = k') then some (a == b) else none
 | 1,.bool a,.bool b => some (a == b)
 | 2,.str a,.str b => some (a == b)
 | _,_,_ => none
def eqCells:List Nat → List V → List V → Option Bool
 | [],_,_ => some true
 | k :: ks,a :: as,b :: bs => match eqCell k a b,eqCells ks as bs with
   | some p,some q => some (p && q)
   | _,_ => none
 | _,_,_ => none
def V.aeq (neg:Bool) (ks:List Nat):V → V → Option V
 | .agg cs,.agg ds => bif cs.length == ks.length && ds.length == ks.length then match eqCells ks cs ds with
   | some b => some (.bool (bif neg then !b else b))
   | none => none
   else none
 | _,_ => none
def V.keq (ag:Bool) (ks:List Nat) (a b:V):Option Bool :=
 match ag with
 | true => match a,b with
   | .agg cs,.agg ds => bif cs.length == ks.length && ds.length == ks.length then eqCells ks cs ds else none
   | _,_ => none
 | false => match ks with
   | [k] => eqCell k a b
   | _ => none
def mfind (ag:Bool) (ks:List Nat) (k:V):List (V × V) → Nat → Option (Option (Nat × V))
 | [],_ => some none
 |(q,v) :: es,i => match V.keq ag ks k q with
  | some true => some (some (i,v))
  | some false => mfind ag ks k es (i + 1)
  | none => none
def V.un (op:UnOp):V → Option V
 | .bool b => match op with
   | .not => some (.bool !b)
   | _ => none
 | .int k n => match op with
   | .neg => some (.int k (k.wrap (0 - n)))
   | _ => none
 | _ => none
def St.cellsAt (S:St):V → Option (List V × Nat)
 | .lptr id off => match look id S.objs with
   | some cs => some (cs,off)
   | none => none
 | .gptr id off => match S.glob[id]? with
   | some (.cells cs) => some (cs,off)
   | _ => none
 | .eptr row off => some (row,off)
 | _ => none
def loadAt (sz:Option Nat) (cs:List V) (off:Nat):Option V :=
 match sz with
 | none => cs[off]?
 | some n => bif Nat.ble (off + n) cs.length then some (.agg ((cs.drop off).take n)) else none
def setAll:List V → Nat → List V → List V
 | cs,_,[] => cs
 | cs,off,v :: vs => setAll (cs.set off v) (off + 1) vs
def chunks (sz:Nat) (cs:List V):Nat → Nat → List (List V)
 | _,0 => []
 | off,n + 1 => (cs.drop off).take sz :: chunks sz cs (off + sz) n
def elsAll (sh:Sh):List (List V) → Option (List (List V))
 | [] => some []
 | r :: rs => match els sh r,elsAll sh rs with
   | some u,some us => some (u :: us)
   | _,_ => none
def loadG (root:Root) (v:V):V :=
 match root with
 | .glob => v.shed
 | _ => v
def St.take (S:St) (fam:Nat):V → Option (V × List (Nat × Nat) × Option (List GObj))
 | .gptr id off => match S.glob[id]? with
   | some (.cells cs) => match cs[off]? with
     | some (.oslice n es) => some (.slice (some fam) n es,[(fam,es.length)],some (S.glob.set id (GObj.cells (cs.set off (.slice none n es)))))
     | some v => some (v.shed,[],none)
     | none => none
   | _ => none
 | _ => none
def St.give (S:St) (fam:Nat):V → V → Option (List (Nat × Nat) × List GObj)
 | .gptr id off,.slice (some f) n es => match S.glob[id]?,(bif f == fam then look fam S.toks else none) with
   | some (.cells cs),some k => bif k == es.length && Nat.blt off cs.length then
     some ([(fam,k + 1)],S.glob.set id (GObj.cells (cs.set off (.oslice n es)))) else none
   | _,_ => none
 | _,_ => none
def St.rows (S:St) (sh:Sh):V → Option (List (List V))
 | .nils => some []
 | .slice _ n es => bif n == sh.length then some es else none
 | .zed _ => some []
 | .nonil _ => some []
 | _ => none
def St.objRows (S:St) (sh:Sh):V → Option (List (List V))
 | .lref id s len => match look id S.objs with
   | some cs => bif (s == sh.length) && Nat.ble (len * sh.length) cs.length then elsAll sh (chunks sh.length cs 0 len) else none
   | none => none
 | _ => none
def evs (S:St):List Opd → Option (List V)
 | [] => some []
 | x :: xs => match S.ev x,evs S xs with
   | some v,some vs => some (v :: vs)
   | _,_ => none
def fillParts (S:St):List (Nat × Nat × Opd) → List V → Option (List V)
 | [],cs => some cs
 |(off,n,x) :: ps,cs => match S.ev x with
  | some v => bif v.cells.length == n && Nat.ble (off + n) cs.length && v.cells.all V.isCell then fillParts S ps (setAll cs off v.cells) else none
  | none => none
def fillRows (S:St) (sh:Sh):List (Nat × Opd) → List (List V) → Option (List (List V))
 | [],rs => some rs
 |(i,x) :: ps,rs => match S.ev x with
  | some v => match els sh v.cells with
    | some r => bif Nat.blt i rs.length then fillRows S sh ps (rs.set i r) else none
    | none => none
  | none => none
def strip0:V → V
 | .slice _ n es => .slice none n es
 | v => v
def strip:V → V
 | .agg cs => .agg (cs.map strip0)
 | v => strip0 v
def recvL (reg:List (Nat × Nat)):Nat → List V → List V × List (Nat × Nat)
 | _,[] => ([],[])
 | i,v :: vs =>
   let r:=recvL reg (i + 1) vs
   match v with
   | .slice (some _) n es => match look i reg with
     | some f => (.slice (some f) n es :: r.1,(f,es.length) :: r.2)
     | none => (.slice none n es :: r.1,r.2)
   | v => (strip v :: r.1,r.2)
def recv (reg:List (Nat × Nat)):V → V × List (Nat × Nat)
 | .tuple vs => ((.tuple (recvL reg 0 vs).1),(recvL reg 0 vs).2)
 | .agg cs => ((.agg (recvL reg 0 cs).1),(recvL reg 0 cs).2)
 | v => match recvL reg 0 [v] with
   |([u],ts) => (u,ts)
   | _ => (.undef,[])
def gargs (S:St):List (Sh × Opd) → Option (List V)
 | [] => some []
 |(sh,x) :: xs => match S.ev x with
  | some v => match garg sh v,gargs S xs with
    | some u,some us => some (u :: us)
    | _,_ => none
  | none => none
def parg (sh:Sh):V → Option V
 | .agg cs => match els sh cs with | some cs => some (.agg cs) | none => none
 | v => match sh with | [h] => el h v | _ => none
def pargs (S:St):List (Sh × Opd) → Option (List V)
 | [] => some []
 |(sh,x) :: xs => match S.ev x with
  | some v => match parg sh v,pargs S xs with
    | some u,some us => some (u :: us)
    | _,_ => none
  | none => none
def St.lent (S:St) (ids:List Nat) (rs:Sh) (id s n:Nat):Option V :=
 bif ids.contains id then (match S.objRows rs (.lref id s n) with | some es => some (V.slice none rs.length es) | none => none) else none
def largs (S:St) (ids:List Nat):List (Sh × Sh × Opd) → Option (List V)
 | [] => some []
 |(rs,sh,x) :: xs => match (match S.ev x with
   | some (.lref id s n) => S.lent ids rs id s n
   | some v => parg sh v
   | none => none),largs S ids xs with
  | some u,some us => some (u :: us)
  | _,_ => none
def V.lone1:V → Bool
 | .slice .. => true
 | v => v.plain
def V.lone2:V → Bool
 | .agg cs => cs.all V.lone1
 | v => v.lone1
def V.lone:V → Bool
 | .tuple vs => vs.all V.lone2
 | v => v.lone2
def V.sc:V → Bool
 | .int .. | .bool .. | .str .. => true
 | _ => false
def V.scs:V → Bool
 | .slice (some _) n es => es.all fun r => r.length == n && r.all V.sc
 | v => v.sc
def V.scal:V → Bool
 | .tuple vs => vs.all V.sc
 | .agg cs => cs.all V.sc
 | v => v.sc
def ownL (id:Nat):Nat → List V → Option (List V × Option (List V))
 | _,[] => none
 | 0,v :: vs => match v with
   | .slice (some _) n es => bif es.all (fun r => r.length == n && r.all V.sc) && vs.all V.scs then
     (bif es.isEmpty then some (.zed n :: vs.map strip,none) else some (.lref id n es.length :: vs.map strip,some es.flatten)) else none
   | _ => none
 | p + 1,v :: vs => bif v.scs then match ownL id p vs with
   | some (us,o) => some (strip v :: us,o)
   | none => none
   else none
def ownV (id pos:Nat):V → Option (V × Option (List V))
 | .tuple vs => match ownL id pos vs with
   | some (us,o) => some (.tuple us,o)
   | none => none
 | v => match ownL id pos [v] with
   | some ([u],o) => some (u,o)
   | _ => none
def gcaps:List V → Option (List V)
 | [] => some []
 | .gptr i o :: vs => match gcaps vs with
   | some us => some (.gptr i o :: us)
   | none => none
 | _ => none
abbrev CallF:=FuncId → List V → List GObj → Option (V × List GObj)
def St.fits (S:St) (root:Root) (x:Opd):Bool :=
 match S.ev x with
 | some a => root.fits a
 | none => false
def insI (x:Int):List Int → List Int
 | [] => [x]
 | y :: ys => bif decide (x ≤ y) then x :: y :: ys else y :: insI x ys
def sortI:List Int → List Int
 | [] => []
 | x :: xs => insI x (sortI xs)
def dedup:List Int → List Int
 | [] => []
 | [x] => [x]
 | x :: y :: r => bif x == y then dedup (y :: r) else x :: dedup (y :: r)
def mutF (k:Nat) (zs:List Int):List Int :=
 match k with
 | 0 => sortI zs
 | _ => dedup zs ++ List.replicate (zs.length - (dedup zs).length) 0
def mutV (k id:Nat) (zs:List Int):V :=
 match k with
 | 0 => .tuple []
 | _ => .lref id 1 (dedup zs).length
def intsOf:List V → Option (List Int)
 | [] => some []
 | .int .i64 n :: vs => match intsOf vs with
   | some zs => some (n :: zs)
   | none => none
 | _ => none
def St.mut (S:St) (k i:Nat) (d:Option Nat) (v:Option V):Option St :=
 match v with
 | some (.lref id s n) => match look i S.objs with
   | some cs => bif id == i && (s == 1) && Nat.ble n cs.length && Nat.ble n lim then match intsOf (cs.take n) with
     | some zs => some ({ S with objs:=(i,(mutF k zs).map (V.int .i64) ++ cs.drop n) :: S.objs }.put d (mutV k i zs))
     | none => none
     else none
   | none => none
 | _ => none
open Classical in
noncomputable def rd {α:Type} (G G':List GObj) (x:α):Option α:=if G' = G then some x else none
noncomputable def VO.run (C:CallF) (d:Option Nat) (S:St):VO → Option St
 | .mv x => match S.ev x with
   | some v => some (S.put d v)
   | none => none
 | .pick c a b => match S.ev c with
   | some (.bool t) => match bif t then S.ev a else S.ev b with
     | some v => some (S.put d v)
     | none => none
   | _ => none
 | .obj id cells => some ({ S with objs:=(id,cells) :: S.objs }.put d (.lptr id 0))
 | .box id x => match S.ev x with
   | some v => bif v.cells.all V.isCell then some ({ S with objs:=(id,v.cells) :: S.objs }.put d (.lptr id 0)) else none
   | none => none
 | .gbox sh x => match S.ev x with
   | some v => match gcels sh v.cells with
     | some cs => some ({ S with glob:=S.glob ++ [GObj.cells cs] }.put d (.gptr S.glob.length 0))
     | none => none
   | none => none
 | .galloc sh zero => match gcels sh zero with
   | some cs => some ({ S with glob:=S.glob ++ [GObj.cells cs] }.put d (.gptr S.glob.length 0))
   | none => none
 | .mkmap => some ({ S with glob:=S.glob ++ [GObj.map []] }.put d (.map S.glob.length))
 | .mapget ag ks zero ok x k => match S.ev x,S.ev k with
   | some (.map i),some kv => match S.glob[i]?,V.keq ag ks kv kv with
     | some (.map es),some _ => match mfind ag ks kv es 0 with
       | some (some (_,v)) => some (S.put d (bif ok then .tuple [v,.bool true] else v))
       | some none => some (S.put d (bif ok then .tuple [zero,.bool false] else zero))
       | none => none
     | _,_ => none
   | _,_ => none
 | .mapset ag ks sh x k y => match S.ev x,S.ev k,S.ev y with
   | some (.map i),some kv,some v => match S.glob[i]?,V.keq ag ks kv kv,garg sh v with
     | some (.map es),some _,some u => match mfind ag ks kv es 0 with
       | some (some (j,_)) => some { S with glob:=S.glob.set i (GObj.map (es.set j (kv,u))) }
       | some none => some { S with glob:=S.glob.set i (GObj.map (es ++ [(kv,u)])) }
       | none => none
     | _,_,_ => none
   | _,_,_ => none
 | .build zero parts => match fillParts S parts zero with
   | some cs => some (S.put d (.agg cs))
   | none => none
 | .lit tok sh zero ln parts => match fillRows S sh parts (List.replicate ln zero) with
   | some rs => match tok with
     | some f => some ({ S with toks:=(f,ln) :: S.toks }.put d (.slice (some f) sh.length rs))
     | none => some (S.put d (.slice none sh.length rs))
   | none => none
 | .load root sz p => match S.ev p with
   | some a => bif root.fits a then match S.cellsAt a with
     | some (cs,off) => match loadAt sz cs off with
       | some v => some (S.put d (loadG root v))
       | none => none
     | none => none
     else none
   | none => none
 | .gtake fam p => match S.ev p with
   | some a => match S.take fam a with
     | some (v,ts,G) => some ({ S with toks:=ts ++ S.toks,glob:=(match G with | some G => G | none => S.glob) }.put d v)
     | none => none
   | none => none
 | .gput fam p x => match S.ev p,S.ev x with
   | some a,some v => match S.give fam a v with
     | some (ts,G) => some { S with toks:=ts ++ S.toks,glob:=G }
     | none => none
   | _,_ => none
 | .store root sh p x => bif S.fits root p then match S.ev p,S.ev x with
   | some (.lptr id off),some v => match look id S.objs with
     | some cs => bif v.cells.length == sh.length && Nat.ble (off + sh.length) cs.length && v.cells.all V.isCell then
       some { S with objs:=(id,setAll cs off v.cells) :: S.objs } else none
     | none => none
   | some (.gptr id off),some v => match S.glob[id]? with
     | some (.cells cs) => match gcels sh v.cells with
       | some vs => bif Nat.ble (off + vs.length) cs.length then some { S with glob:=S.glob.set id (GObj.cells (setAll cs off vs)) } else none
       | none => none
     | _ => none
   | _,_ => none
   else none
 | .nilchk x => match S.ev x with
   | some (.lptr i o) => some (S.put d (.lptr i o))
   | some (.gptr i o) => some (S.put d (.gptr i o))
   | some (.eptr r o) => some (S.put d (.eptr r o))
   | _ => none
 | .bin op x y => match S.ev x,S.ev y with
   | some a,some b => match V.bin op a b with
     | some v => some (S.put d v)
     | none => none
   | _,_ => none
 | .beq neg x y => match S.ev x,S.ev y with
   | some (.bool a),some (.bool b) => some (S.put d (.bool (bif neg then a != b else a == b)))
   | _,_ => none
 | .aeq neg ks x y => match S.ev x,S.ev y with
   | some a,some b => match V.aeq neg ks a b with
     | some v => some (S.put d v)
     | none => none
   | _,_ => none
 | .un op x => match S.ev x with
   | some a => match V.un op a with
     | some v => some (S.put d v)
     | none => none
   | none => none
 | .conv k x => match S.ev x with
   | some (.int _ n) => some (S.put d (.int k (k.wrap n)))
   | _ => none
 | .faddr off x => match S.ev x with
   | some (.lptr i o) => some (S.put d (.lptr i (o + off)))
   | some (.gptr i o) => some (S.put d (.gptr i (o + off)))
   | some (.eptr r o) => some (S.put d (.eptr r (o + off)))
   | _ => none
 | .iaddr (some n) sz x i => match S.ev x,S.ev i with
   | some a,some (.int _ k) => bif decide (0 ≤ k) && decide (k < n) then match a with
     | .lptr i o => some (S.put d (.lptr i (o + k.toNat * sz)))
     | .gptr i o => some (S.put d (.gptr i (o + k.toNat * sz)))
     | .eptr r o => some (S.put d (.eptr r (o + k.toNat * sz)))
     | _ => none
     else none
   | _,_ => none
 | .iaddr none sz x i => match S.ev x,S.ev i with
   | some (.slice _ m es),some (.int _ k) => bif decide (0 ≤ k) && (m == sz) then match es[k.toNat]? with
     | some r => some (S.put d (.eptr r 0))
     | none => none
     else none
   | some (.lref id s ln),some (.int _ k) => bif decide (0 ≤ k) && decide (k < ln) && (s == sz) then some (S.put d (.lptr id (k.toNat * sz))) else none
   | _,_ => none
 | .idx n sz agg x i => match S.ev x,S.ev i with
   | some (.agg cs),some (.int _ k) => bif decide (0 ≤ k) && decide (k < n) then
     match loadAt (bif agg then some sz else none) cs (k.toNat * sz) with
     | some v => some (S.put d v)
     | none => none
     else none
   | _,_ => none
 | .field off sz x => match S.ev x with
   | some (.agg cs) => match loadAt sz cs off with
     | some v => some (S.put d v)
     | none => none
   | _ => none
 | .zlit n => some (S.put d (.zed n))
 | .isnil neg x => match S.ev x with
   | some .nils => some (S.put d (.bool !neg))
   | some (.nonil _) => some (S.put d (.bool neg))
   | some (.slice _ _ (_ :: _)) => some (S.put d (.bool neg))
   | _ => none
 | .len x => match S.ev x with
   | some .nils => some (S.put d (.int .i64 0))
   | some (.zed _) => some (S.put d (.int .i64 0))
   | some (.nonil _) => some (S.put d (.int .i64 0))
   | some (.slice _ _ es) => some (S.put d (.int .i64 es.length))
   | some (.lref _ _ n) => some (S.put d (.int .i64 n))
   | _ => none
 | .slen x => match S.ev x with
   | some (.str s) => some (S.put d (.int .i64 s.length))
   | _ => none
 | .app fam src sh mx x y => match S.ev x,S.ev y with
   | some .nils,some b => match S.rows sh b with
     | some ys => bif Nat.ble ys.length mx then some ({ S with toks:=(fam,ys.length) :: S.toks }.put d (.slice (some fam) sh.length ys)) else none
     | none => none
   | some (.zed _),some b => match S.rows sh b with
     | some ys => bif Nat.ble ys.length mx then some ({ S with toks:=(fam,ys.length) :: S.toks }.put d (.slice (some fam) sh.length ys)) else none
     | none => none
   | some (.slice (some f) n es),some b => match S.rows sh b with
     | some ys => match (bif src == some f then look f S.toks else none) with
       | some k => bif k == es.length && (n == sh.length) && Nat.ble (es.length + ys.length) mx then
         some ({ S with toks:=(f,es.length + ys.length) :: S.toks }.put d (.slice (some f) n (es ++ ys))) else none
       | none => none
     | none => none
   | _,_ => none
 | .appo new src sh x y => match S.ev x,S.ev y with
   | some .nils,some b => match S.rows sh b with
     | some ys => bif ys.isEmpty then some (S.put d .nils) else
       bif Nat.ble ys.length lim then some ({ S with objs:=(new,ys.flatten) :: S.objs }.put d (.lref new sh.length ys.length)) else none
     | none => none
   | some (.zed n),some b => match S.rows sh b with
     | some ys => bif ys.isEmpty then some (S.put d (.zed n)) else
       bif Nat.ble ys.length lim then some ({ S with objs:=(new,ys.flatten) :: S.objs }.put d (.lref new sh.length ys.length)) else none
     | none => none
   | some (.lref id s ln),some b => match S.rows sh b,look src S.objs with
     | some ys,some cs => bif (id == src) && (s == sh.length) && (cs.length == ln * s) && Nat.ble (ln + ys.length) lim then
       some ({ S with objs:=(new,cs ++ ys.flatten) :: S.objs.filter fun p => !(p.1 == src) }.put d (.lref new sh.length (ln + ys.length))) else none
     | _,_ => none
   | _,_ => none
 | .ext x i => match S.ev x with
   | some (.tuple vs) => match vs[i]? with
     | some v => some (S.put d v)
     | none => none
   | _ => none
 | .call false f args reg => match S.ev f,gargs S args with
   | some (.fn g cap),some vs => match C g (vs ++ cap) S.glob with
     | some (r,G) => some ({ S with glob:=G,toks:=(recv reg r).2 ++ S.toks }.put d (recv reg r).1)
     | none => none
   | _,_ => none
 | .call true f args reg => match S.ev f,pargs S args with
   | some (.fn g []),some vs => match C g vs [] with
     | some (r,_) => bif r.lone then some ({ S with toks:=(recv reg r).2 ++ S.toks }.put d (recv reg r).1) else none
     | none => none
   | _,_ => none
 | .rcall f args => match S.ev f,gargs S args with
   | some (.fn g cap),some vs => match C g (vs ++ cap) S.glob with
     | some (r,G) => rd S.glob G (S.put d (recv [] r).1)
     | none => none
   | _,_ => none
 | .wrt k _ id x => S.mut k id d (S.ev x)
 | .lcall f args ids => match S.ev f,largs S ids args with
   | some (.fn g []),some vs => match C g vs [] with
     | some (r,_) => bif r.scal then some (S.put d r) else none
     | none => none
   | _,_ => none
 | .own f args id pos => match S.ev f,pargs S args with
   | some (.fn g []),some vs => match C g vs [] with
     | some (r,_) => match ownV id pos r with
       | some (v,some cs) => some ({ S with objs:=(id,cs) :: S.objs }.put d v)
       | some (v,none) => some (S.put d v)
       | none => none
     | none => none
   | _,_ => none
 | .mkobj id zero n => match S.ev n with
   | some (.int _ k) => bif decide (0 ≤ k) && decide (k ≤ lim) then
     some ({ S with objs:=(id,(List.replicate k.toNat zero).flatten) :: S.objs }.put d (.lref id zero.length k.toNat)) else none
   | _ => none
 | .slc sz x lo hi => match S.ev x with
   | some (.slice _ m es) =>
     match S.evOr lo 0,S.evOr hi es.length with
     | some (.int _ a),some (.int _ b) => bif decide (0 ≤ a) && decide (a ≤ b) && decide (b ≤ es.length) && (m == sz) then
       some (S.put d (.slice none sz ((es.take b.toNat).drop a.toNat))) else none
     | _,_ => none
   | _ => none
 | .mm3 mx x y z => match S.ev x,S.ev y,S.ev z with
   | some (.int k a),some (.int _ b),some (.int _ c) => some (S.put d (.int k (bif mx then max (max a b) c else min (min a b) c)))
   | _,_,_ => none
 | .mm mx x y => match S.ev x,S.ev y with
   | some (.int k a),some (.int _ b) => some (S.put d (.int k (bif mx then max a b else min a b)))
   | _,_ => none
 | .mkfn f cap => match evs S cap with
   | some vs => match gcaps vs with
     | some us => some (S.put d (.fn f us))
     | none => none
   | none => none
noncomputable def VOp.run (C:CallF) (o:VOp) (S:St):Option St :=
 match o.guard with
 | none => o.op.run C o.dst S
 | some (g,want) => match look g S.env with
   | some (.bool b) => bif b == want then o.op.run C o.dst S else some (S.put o.dst .undef)
   | some .undef => some (S.put o.dst .undef)
   | _ => none
noncomputable def runOps (C:CallF):List VOp → St → Option St
 | [],S => some S
 | o :: os,S => match o.run C S with
   | some S' => runOps C os S'
   | none => none
def keepL {α:Type} (env:List (Nat × α)):List Nat → List (Nat × α)
 | [] => []
 | s :: r => match look s env with
   | some v => (s,v) :: keepL env r
   | none => keepL env r
def St.keep (S:St) (k:Keep):St :=
 {env:=keepL S.env k.e,objs:=keepL S.objs k.o,toks:=keepL S.toks k.t,glob:=S.glob }
def St.clean (S:St):List Nat → Option St
 | [] => some S
 | d :: ds =>
   let env:=S.env.filter fun p => !(p.1 == d)
   let objs:=S.objs.filter fun p => !(p.1 == d)
   let toks:=S.toks.filter fun p => !(p.1 == d)
   bif env.all (fun p => !p.2.men d) && objs.all (fun p => p.2.all fun v => !v.men0 d) then St.clean { env,objs,toks,glob:=S.glob } ds else none
def V.forget (fam:Nat):V → V
 | .slice (some f) n es => bif f == fam then .slice none n es else .slice (some f) n es
 | v => v
def V.ren (a b:Nat):V → V
 | .lref i s n => bif i == a then .lref b s n else .lref i s n
 | v => v
def St.normCell (S:St) (id off fam sz:Nat):Option St :=
 match look id S.objs with
  | some cs => match cs[off]? with
    | some .nils => match St.clean S [fam] with
      | some S => match look id S.objs with
        | some cs => some { S with objs:=(id,cs.set off (.slice (some fam) sz [])) :: S.objs,toks:=(fam,0) :: S.toks }
        | none => none
      | none => none
    | _ => some S
  | none => some S
def Ghost.run (S:St):Ghost → Option St
 | .norm s fam sz => match look s S.env with
   | some .nils => match St.clean { S with env:=S.env.filter fun p => !(p.1 == s) } [fam] with
     | some S => some { S with env:=(s,.slice (some fam) sz []) :: S.env,toks:=(fam,0) :: S.toks }
     | none => none
   | some (.zed _) => match St.clean { S with env:=S.env.filter fun p => !(p.1 == s) } [fam] with
     | some S => some { S with env:=(s,.slice (some fam) sz []) :: S.env,toks:=(fam,0) :: S.toks }
     | none => none
   | _ => some S
 | .normCell id off fam sz => S.normCell id off fam sz
 | .freeze s sh => match look s S.env with
   | some (.lref id off len) => match S.objRows sh (.lref id off len) with
     | some es => some { S with env:=(s,.slice none sh.length es) :: S.env,objs:=S.objs.filter fun p => !(p.1 == id) }
     | none => none
   | _ => some S
 | .normLast id back fam sz => match look id S.objs with
   | some cs => match cs[cs.length - back]? with
     | some .nils => St.normCell { S with objs:=(id,cs.map (V.forget fam)) :: S.objs.filter fun p => !(p.1 == id) } id (cs.length - back) fam sz
     | _ => some S
   | none => some S
 | .freezeCell id off sh => match look id S.objs with
   | some cs => match cs[off]? with
     | some (.lref i s n) => match S.objRows sh (.lref i s n) with
       | some es => bif i == id then none else some { S with objs:=(id,cs.set off (.slice none sh.length es)) :: (S.objs.filter fun p => !(p.1 == i)).filter fun p => !(p.1 == id) }
       | none => none
     | _ => some S
   | none => some S
 | .ren a b => match St.clean S [b] with
   | some S => match look a S.objs with
     | some cs => some { S with env:=S.env.map (fun p => (p.1,V.ren a b p.2)),objs:=(b,cs) :: S.objs.filter fun p => !(p.1 == a) }
     | none => some S
   | none => none
def ghosts:List Ghost → St → Option St
 | [],S => some S
 | g :: gs,S => match g.run S with
   | some S => ghosts gs S
   | none => none
inductive VExit where
 | normal
 | exit (id:Nat)
 | ret
 deriving Inhabited
def iter (body:St → Option (VExit × St)):Nat → St → Option (VExit × St)
 | 0,_ => none
 | n + 1,S => match body S with
   | some (.normal,S') => iter body n S'
   | some (.exit i,S') => some (.exit i,S')
   | some (.ret,S') => some (.ret,S')
   | none => none
noncomputable def VC.run (C:CallF) (n:Nat):VC → St → Option (VExit × St)
 | .skip,S => some (.normal,S)
 | .region gh ids ops keep,S => match ghosts gh S with
   | some S => match S.clean ids with
     | some S => match runOps C ops S with
       | some S => some (.normal,S.keep keep)
       | none => none
     | none => none
   | none => none
 | .seq a b,S => match VC.run C n a S with
   | some (.normal,S') => VC.run C n b S'
   | some (.exit i,S') => some (.exit i,S')
   | some (.ret,S') => some (.ret,S')
   | none => none
 | .cond c a b,S => match S.ev c with
   | some (.bool t) => bif t then VC.run C n a S else VC.run C n b S
   | _ => none
 | .block id a,S => match VC.run C n a S with
   | some (.normal,S') => some (.normal,S')
   | some (.exit i,S') => bif i == id then some (.normal,S') else some (.exit i,S')
   | some (.ret,S') => some (.ret,S')
   | none => none
 | .loop gh keep a,S => match ghosts gh S with
   | some S => iter (fun S => VC.run C n a (S.keep keep)) n S
   | none => none
 | .exit id,S => some (.exit id,S)
 | .ret,S => some (.ret,S)
def ret1 (S:St) (sh:Option Nat) (used:List Nat):V → Option (V × List Nat)
 | .nils => match sh with
   | some n => some (.slice (some 0) n [],used)
   | none => none
 | .zed n => some (.slice (some 0) n [],used)
 | .slice (some f) n es => match look f S.toks with
   | some k => bif k == es.length && !used.contains f then some (.slice (some 0) n es,f :: used) else some (.slice none n es,used)
   | none => some (.slice none n es,used)
 | .slice none n es => some (.slice none n es,used)
 | v => match gel sh v with
   | some v => some (v,used)
   | none => none
def rets (S:St):Sh → List Nat → List V → Option (List V × List Nat)
 | [],used,[] => some ([],used)
 | h :: sh,used,v :: vs => match ret1 S h used v with
   | some (u,used) => match rets S sh used vs with
     | some (us,used) => some (u :: us,used)
     | none => none
   | none => none
 | _,_,_ => none
def retVar (S:St) (used:List Nat):RVar → Option (V × List Nat)
 | .t s sh => match look s S.env with
   | some (.agg cs) => match rets S sh used cs with
     | some (us,used) => some (.agg us,used)
     | none => none
   | some v => match sh with
     | [h] => ret1 S h used v
     | _ => none
   | none => none
 | .c s agg sh => match look s S.env with
   | some (.lptr id 0) => match look id S.objs with
     | some cs => match rets S sh used cs with
       | some (us,used) => some (oneOrAgg agg us,used)
       | none => none
     | none => none
   | _ => none
def retVars (S:St):List Nat → List RVar → Option (List V)
 | _,[] => some []
 | used,r :: rs => match retVar S used r with
   | some (v,used) => match retVars S used rs with
     | some vs => some (v :: vs)
     | none => none
   | none => none
def retVal (S:St) (rs:List RVar):Option V :=
 match retVars S [] rs with
 | some [v] => some v
 | some vs => some (.tuple vs)
 | none => none
def zipEnv:Nat → List V → List (Nat × V)
 | _,[] => []
 | i,v :: vs => (i,v) :: zipEnv (i + 1) vs
noncomputable def VFunc.call (C:CallF) (n:Nat) (f:VFunc) (args:List V) (G:List GObj):Option (V × List GObj) :=
 bif args.length == f.nparams then
  match VC.run C n f.body { env:=zipEnv 0 args,objs:=[],toks:=[],glob:=G } with
  | some (.normal,S) | some (.ret,S) => match retVal S f.results with
    | some v => some (v,S.glob)
    | none => none
  | _ => none
 else none
def posts (C:CallF) (args:List V):List FuncId → List GObj → Option (List GObj)
 | [],G => some G
 | f :: fs,G => match C f args G with
   | some (_,G') => posts C args fs G'
   | none => none
def wrap (C:CallF) (vf:VFunc) (args:List V) (o:Option (V × List GObj)):Option (V × List GObj) :=
 match o with
 | none => none
 | some (r,G) => match vf.defs with
   | [] => some (r,G)
   | fs => match args with
     | [.gptr _ _] => match posts C args fs.reverse G with
       | some G' => some (.tuple [],G')
       | none => none
     | _ => none
noncomputable def VFunc.one (C:CallF) (n:Nat) (vf:VFunc) (args:List V) (G:List GObj):Option (V × List GObj):=wrap C vf args (vf.call C n args G)
open Classical in
noncomputable def VFunc.both (C:CallF) (n:Nat) (vf:VFunc) (p m:Nat) (args:List V) (G:List GObj):Option (V × List GObj) :=
 if vf.one C n (args.set p .nils) G = vf.one C n (args.set p (.nonil m)) G then vf.one C n (args.set p .nils) G else none
noncomputable def VFunc.ans (C:CallF) (n:Nat) (vf:VFunc) (args:List V) (G:List GObj):Option (V × List GObj) :=
 match vf.split with
 | none => vf.one C n args G
 | some p => match args[p]? with
   | some (.slice none m []) => vf.both C n p m args G
   | _ => vf.one C n args G
noncomputable def call (F:FuncId → Option VFunc):Nat → CallF
 | 0 => fun _ _ _ => none
 | n + 1 => fun f args G => match F f with
   | some vf => vf.ans (call F n) n args G
   | none => none
end Go.Vm

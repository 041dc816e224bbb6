/- The value machine: a deterministic evaluator, by value, for compiled copies of Go functions. Definitions alone. -/
import GoSem.Core.View
namespace Go.Vm
set_option linter.all false
abbrev ED:=@Array.eq_empty_of_size_eq_zero
abbrev nF:=@Array.ext'
abbrev Ba:=@Array.getElem?_append_left
abbrev G9:=@Array.getElem?_eq_getElem
abbrev nb:=@Array.getElem?_eq_none
abbrev wJ:=@Array.getElem?_eq_some_iff
abbrev Wv:=@Array.getElem?_extract
abbrev EE:=@Array.getElem?_modify
abbrev Ww:=@Array.getElem?_push
abbrev OV:=@Array.getElem?_setIfInBounds
abbrev OW:=@Array.getElem?_toList
abbrev Wx:=@Array.isEmpty_iff
abbrev xS:=@Array.length_toList
abbrev Ha:=@Array.size_append
abbrev OX:=@Array.toList_map
abbrev b8:=@Bool.and_eq_true
abbrev EF:=@Bool.and_self
abbrev vl:=@Bool.decide_and
abbrev KE:=@Bool.eq_false_iff
abbrev OY:=@Bool.eq_false_or_eq_true
abbrev Hb:=@Bool.false_eq_true
abbrev EG:=@Bool.false_or
abbrev Wy:=@Bool.not_eq_false'
abbrev vm:=@Bool.not_eq_true'
abbrev OZ:=@Bool.or_eq_false_iff
abbrev CI:=@Bool.or_eq_true
abbrev EH:=@Bool.or_false
abbrev iu:=@Decidable.of_not_not
abbrev KF:=@Int.add_mul
abbrev KG:=@Int.add_zero
abbrev KH:=@Int.ediv_le_self
abbrev Hc:=@Int.ediv_nonneg
abbrev O0:=@Int.emod_lt_of_pos
abbrev O1:=@Int.emod_nonneg
abbrev O2:=@Int.le_ediv_iff_mul_le
abbrev xT:=@Int.le_refl
abbrev Bb:=@Int.le_trans
abbrev Hd:=@Int.lt_irrefl
abbrev He:=@Int.lt_trichotomy
abbrev O3:=@Int.min_comm
abbrev Hf:=@Int.mul_add
abbrev KI:=@Int.mul_comm
abbrev EI:=@Int.mul_le_mul
abbrev KJ:=@Int.mul_le_mul_of_nonneg_left
abbrev CJ:=@Int.mul_le_mul_of_nonneg_right
abbrev CK:=@Int.mul_nonneg
abbrev O4:=@Int.mul_pos
abbrev KK:=@Int.mul_tdiv_cancel
abbrev KL:=@Int.not_lt
abbrev O5:=@Int.one_mul
abbrev Bc:=@Int.tdiv_eq_ediv_of_nonneg
abbrev CL:=@Int.tdiv_le_self
abbrev zG:=@Int.tdiv_nonneg
abbrev Wz:=@Int.tmod_eq_emod_of_nonneg
abbrev O6:=@Int.tmod_lt_of_pos
abbrev O7:=@Int.tmod_nonneg
abbrev O8:=@Int.toNat_natCast
abbrev Hg:=@List.all_cons
abbrev iL:=@List.all_eq_true
abbrev CM:=@List.any_cons
abbrev mR:=@List.any_eq_false
abbrev Be:=@List.any_eq_true
abbrev zH:=@List.any_nil
abbrev wK:=@List.append_assoc
abbrev Hh:=@List.append_nil
abbrev uu:=@List.cons_append
abbrev O9:=@List.contains_eq_mem
abbrev zI:=@List.drop_drop
abbrev KM:=@List.drop_eq_getElem_cons
abbrev WA:=@List.drop_eq_nil_iff
abbrev WB:=@List.drop_eq_nil_of_le
abbrev rJ:=@List.drop_length
abbrev vn:=@List.drop_zero
abbrev Pb:=@List.eq_of_mem_replicate
abbrev Pc:=@List.ext_getElem
abbrev xU:=@List.ext_getElem?
abbrev WC:=@List.filterMap_append
abbrev WD:=@List.filterMap_cons
abbrev CN:=@List.filter_append
abbrev WE:=@List.filter_congr
abbrev Pd:=@List.filter_cons
abbrev WG:=@List.filter_eq_nil_iff
abbrev KN:=@List.filter_eq_self
abbrev CO:=@List.flatMap_cons
abbrev uw:=@List.flatten_cons
abbrev WH:=@List.getD_eq_getElem?_getD
abbrev qB:=@List.getElem?_append
abbrev ux:=@List.getElem?_append_left
abbrev wL:=@List.getElem?_append_right
abbrev Hj:=@List.getElem?_cons_succ
abbrev Hk:=@List.getElem?_cons_zero
abbrev oF:=@List.getElem?_drop
abbrev g8:=@List.getElem?_eq_getElem
abbrev mo:=@List.getElem?_eq_none
abbrev Hl:=@List.getElem?_eq_some_iff
abbrev vp:=@List.getElem?_map
abbrev Pe:=@List.getElem?_replicate
abbrev kK:=@List.getElem?_set
abbrev WI:=@List.getElem?_set_ne
abbrev WJ:=@List.getElem?_set_self
abbrev WK:=@List.getElem?_tail
abbrev lN:=@List.getElem?_take
abbrev Pf:=@List.getElem?_take_of_lt
abbrev EJ:=@List.getElem?_toArray
abbrev WL:=@List.getElem_cons_zero
abbrev Pg:=@List.getElem_mem
abbrev KO:=@List.isEmpty_iff
abbrev oG:=@List.length_append
abbrev tx:=@List.length_cons
abbrev Ph:=@List.length_drop
abbrev a8:=@List.length_eq_zero_iff
abbrev EK:=@List.length_filter_le
abbrev zJ:=@List.length_map
abbrev uy:=@List.length_nil
abbrev CP:=@List.length_pos_iff
abbrev Pj:=@List.length_range
abbrev Hm:=@List.length_replicate
abbrev pj:=@List.length_set
abbrev po:=@List.length_singleton
abbrev Hn:=@List.map_append
abbrev Pl:=@List.map_congr_left
abbrev oH:=@List.map_cons
abbrev CQ:=@List.map_map
abbrev Bf:=@List.map_nil
abbrev KP:=@List.map_replicate
abbrev Pm:=@List.map_set
abbrev mS:=@List.mem_append
abbrev Po:=@List.mem_append_left
abbrev Ho:=@List.mem_append_right
abbrev jQ:=@List.mem_cons
abbrev CR:=@List.mem_cons_of_mem
abbrev xV:=@List.mem_cons_self
abbrev zK:=@List.mem_filter
abbrev Pp:=@List.mem_flatMap
abbrev Pq:=@List.mem_flatten
abbrev Hp:=@List.mem_iff_getElem
abbrev sH:=@List.mem_iff_getElem?
abbrev nc:=@List.mem_map
abbrev g9:=@List.mem_of_getElem?
abbrev KQ:=@List.mem_of_mem_drop
abbrev KR:=@List.mem_of_mem_take
abbrev EL:=@List.mem_range
abbrev WM:=@List.mem_replicate
abbrev pq:=@List.mem_singleton
abbrev EM:=@List.nil_append
abbrev xW:=@List.pairwise_cons
abbrev WN:=@List.pairwise_map
abbrev Hq:=@List.range'_succ
abbrev Hr:=@List.range_eq_range'
abbrev KS:=@List.range_succ
abbrev Bh:=@List.replicate_succ
abbrev CS:=@List.set_append_right
abbrev KT:=@List.set_cons_zero
abbrev EN:=@List.set_eq_of_length_le
abbrev WO:=@List.singleton_append
abbrev EO:=@List.size_toArray
abbrev KU:=@List.sum_append
abbrev Pr:=@List.sum_cons
abbrev WQ:=@List.take_add_one
abbrev pt:=@List.take_length
abbrev lZ:=@List.take_of_length_le
abbrev Pu:=@List.take_succ_cons
abbrev Pv:=@List.zip_cons_cons
abbrev WR:=@List.zip_nil_left
abbrev CT:=@Nat.add_assoc
abbrev Pw:=@Nat.add_comm
abbrev qC:=@Nat.add_mul
abbrev sI:=@Nat.add_sub_cancel
abbrev Px:=@Nat.add_sub_cancel_left
abbrev xX:=@Nat.add_zero
abbrev Py:=@Nat.ble_eq_true_of_le
abbrev CU:=@Nat.blt_eq
abbrev WS:=@Nat.div_lt_of_lt_mul
abbrev nG:=@Nat.eq_zero_or_pos
abbrev jk:=@Nat.le_of_ble_eq_true
abbrev vq:=@Nat.le_of_eq
abbrev bY:=@Nat.le_refl
abbrev KV:=@Nat.le_succ
abbrev kL:=@Nat.le_trans
abbrev iC:=@Nat.lt_irrefl
abbrev ja:=@Nat.lt_of_lt_of_le
abbrev cM:=@Nat.lt_or_ge
abbrev WT:=@Nat.lt_succ_of_lt
abbrev Hs:=@Nat.lt_succ_self
abbrev Ht:=@Nat.lt_trichotomy
abbrev Hu:=@Nat.min_eq_left
abbrev KW:=@Nat.mod_lt
abbrev KX:=@Nat.mul_comm
abbrev KY:=@Nat.mul_eq_zero
abbrev PA:=@Nat.mul_le_mul
abbrev rM:=@Nat.mul_le_mul_right
abbrev Hv:=@Nat.mul_one
abbrev PB:=@Nat.mul_pos
abbrev CV:=@Nat.not_le_of_lt
abbrev KZ:=@Nat.one_mul
abbrev qd:=@Nat.sub_self
abbrev xY:=@Nat.sub_zero
abbrev oI:=@Nat.succ_mul
abbrev kz:=@Nat.zero_add
abbrev xZ:=@Nat.zero_le
abbrev Hw:=@Nat.zero_mul
abbrev K0:=@Option.bind_some
abbrev PC:=@Option.getD_none
abbrev K1:=@Option.getD_some
abbrev Hx:=@Option.isNone_iff_eq_none
abbrev PD:=@Option.isSome_iff_exists
abbrev EP:=@Option.map_eq_some_iff
abbrev K2:=@Option.map_none
abbrev nd:=@Option.map_some
abbrev Bi:=@beq_eq_false_iff_ne
abbrev eg:=@beq_iff_eq
abbrev fu:=@cond_false
abbrev bM:=@cond_true
abbrev dD:=@decide_eq_true
abbrev kA:=@decide_eq_true_eq
abbrev av:=@if_neg
abbrev aK:=@if_pos
abbrev ER:=@of_decide_eq_true
inductive V where
 |undef
 |int (k:IntKind) (n:Int)
 |bool (b:Bool)
 |str (s:List UInt8)
 |bU
 |slice (tok:Option Nat) (sz:Nat) (es:List (List V))
 |fE (sz:Nat) (es:List (List V))
 |ea (sz:Nat)
 |gd (sz:Nat)
 |agg (cs:List V)
 |tuple (vs:List V)
 |e8 (row:List V) (off:Nat)
 |bj (id off:Nat)
 |bR (id off len:Nat)
 |fT (id s off len:Nat)
 |c6 (id s len:Nat)
 |iM (id s off len:Nat)
 |bH (id off:Nat)
 |gK
 |fn (f:FuncId) (cap:List V)
 |gL
 |map (id:Nat)
 |gM
 deriving Inhabited
def jA(f:FuncId):FuncId:=f % 1000000
abbrev Sh:=List (Option Nat)
inductive aP where
 |cells (cs:List V)
 |map (es:List (V×V))
 deriving Inhabited
structure St where
 env:List (Nat×V)
 aZ:List (Nat×List V)
 bl:List (Nat×Nat)
 aD:List aP
 deriving Inhabited
def look{α:Type}(s:Nat):List (Nat×α)→Option α
 |[]=>none
 |(k,v)::r=>bif k==s then some v else look s r
inductive bA where
 |t (s:Nat)
 |c (v:V)
 deriving Inhabited
def St.ev(S:St):bA→Option V
 |.t s=>look s S.env
 |.c v=>some v
def St.kM(S:St)(o:Option bA)(n:Nat):Option V :=
 match o with
 |some o=>S.ev o
 |none=>some (.int .i64 n)
def St.put(S:St)(d:Option Nat)(v:V):St :=
 match d with
 |some d=>{ S with env:=(d,v)::S.env }
 |none=>S
inductive j8 where
 |loc (id:Nat)
 |aD
 |kN
 deriving Inhabited
def j8.fits:j8→V→Bool
 |.loc i,.bj id _=>i==id
 |.aD,.bH _ _=>true
 |.kN,.e8 _ _=>true
 |_,_=>false
inductive VO where
 |mv (x:bA)
 |pick (c a b:bA)
 |obj (id:Nat) (cells:List V)
 |box (id:Nat) (x:bA)
 |vr (sh:Sh) (x:bA)
 |vt (sh:Sh) (zero:List V)
 |vu
 |wM (ag:Bool) (ks:List Nat) (zero:V) (ok:Bool) (x k:bA)
 |vv (ag:Bool) (ks:List Nat) (sh:Sh) (x k y:bA)
 |build (zero:List V) (parts:List (Nat×Nat×bA))
 |lit (tok:Option Nat) (sh:Sh) (zero:List V) (len:Nat) (parts:List (Nat×bA))
 |load (root:j8) (sz:Option Nat) (p:bA)
 |store (root:j8) (sh:Sh) (p x:bA)
 |tz (cn:Nat) (p:bA)
 |zL (sz:Nat)
 |wN (x:bA)
 |grow (f:FuncId) (id:Nat) (n:bA)
 |vw (id:Nat) (src:Option Nat) (x y:bA)
 |vx (x:bA)
 |wO (neg:Bool) (x:bA)
 |vy (cn:Nat) (p x:bA)
 |uz (x:bA)
 |bin (op:BinOp) (x y:bA)
 |beq (neg:Bool) (x y:bA)
 |gA (neg:Bool) (ks:List Nat) (x y:bA)
 |un (op:UnOp) (x:bA)
 |conv (k:IntKind) (x:bA)
 |tA (off:Nat) (x:bA)
 |oJ (arr:Option Nat) (sz:Nat) (x i:bA)
 |idx (n sz:Nat) (agg:Bool) (x i:bA)
 |field (off:Nat) (sz:Option Nat) (x:bA)
 |len (x:bA)
 |vz (x:bA)
 |app (cn:Nat) (src:Option Nat) (sh:Sh) (mx:Nat) (x y:bA)
 |uA (new src:Nat) (oy:Option Nat) (sh:Sh) (x y:bA)
 |ext (x:bA) (i:Nat)
 |call (alone:Bool) (f:bA) (args:List (Sh×bA)) (reg:List (Nat×Nat))
 |wP (k:Nat) (f:FuncId) (id:Nat) (x:bA)
 |sJ (f:bA) (args:List (Sh×bA))
 |sK (f:bA) (args:List (Sh×Sh×bA)) (ids:List Nat)
 |own (f:bA) (args:List (Sh×Sh×bA)) (ids:List Nat) (id pos:Nat)
 |sL (f:bA) (args:List (Sh×bA)) (id:Nat)
 |uB (id:Nat) (zero:List V) (n:bA)
 |wQ (sz:Nat) (x:bA) (lo hi:Option bA)
 |arr (n sz:Nat) (x:bA)
 |mm (max:Bool) (x y:bA)
 |vB (max:Bool) (x y z:bA)
 |wR (f:FuncId) (cap:List bA)
 deriving Inhabited
structure bK where
 dst:Option Nat
 op:VO
 guard:Option (Nat×Bool)
 deriving Inhabited
inductive iv where
 |norm (s cn sz:Nat)
 |px (id off cn sz:Nat)
 |freeze (s:Nat) (sh:Sh)
 |K3 (id back cn sz:Nat)
 |jR (a b:Nat)
 |K4 (id off:Nat) (sh:Sh)
 |tB (s id sz:Nat)
 |share (s:Nat) (sh:Sh)
 |K5 (s:Nat) (j9:List Sh)
 |CW (id:Nat) (j9:List Sh)
 |wS (id off a sz:Nat)
 |Bj (a b id off:Nat)
 |Bk (id off:Nat) (sh:Sh)
 deriving Inhabited
structure dj where
 e:List Nat
 o:List Nat
 t:List Nat
 deriving Inhabited
inductive VC where
 |skip
 |region (gh:List iv) (ids:List Nat) (ops:List bK) (keep:dj)
 |seq (a b:VC)
 |cond (c:bA) (a b:VC)
 |block (id:Nat) (a:VC)
 |loop (gh:List iv) (keep:dj) (a:VC)
 |exit (id:Nat)
 |ret
 |dead
 |CX (gh:List iv)
 deriving Inhabited
inductive tC where
 |t (s:Nat) (sh:Sh)
 |c (s:Nat) (agg:Bool) (sh:Sh)
 deriving Inhabited
structure bc where
 nparams:Nat
 body:VC
 results:List tC
 defs:List FuncId:=[]
 split:Option Nat:=none
 deriving Inhabited
def V.cells:V→List V
 |.agg cs=>cs
 |v=>[v]
def K6(agg:Bool)(cs:List V):V :=
 match agg,cs with
 |false,[v]=>v
 |_,cs=>.agg cs
def V.plain:V→Bool
 |.int .. | .bool .. | .str .. | .bU | .slice none _ _=>true
 |_=>false
def el(sh:Option Nat):V→Option V
 |.int k n=>some (.int k n)
 |.bool b=>some (.bool b)
 |.str s=>some (.str s)
 |.bU=>match sh with|some 0=>some .bU|some n=>some (.slice none n [])|none=>none
 |.slice _ n es=>some (.slice none n es)
 |.ea n=>some (.slice none n [])
 |.gd n=>some (.slice none n [])
 |_=>none
def nH:Sh→List V→Option (List V)
 |[],[]=>some []
 |h::sh,v::vs=>match el h v,nH sh vs with
  |some u,some us=>some (u::us)
  |_,_=>none
 |_,_=>none
def qD(sh:Option Nat):V→Option V
 |.bH i o=>some (.bH i o)
 |.c6 i s n=>some (.c6 i s n)
 |.gK=>some .gK
 |.fn f c=>some (.fn f c)
 |.gL=>some .gL
 |.map i=>some (.map i)
 |.gM=>some .gM
 |v=>el sh v
def uC:Sh→List V→Option (List V)
 |[],[]=>some []
 |h::sh,v::vs=>match qD h v,uC sh vs with
  |some u,some us=>some (u::us)
  |_,_=>none
 |_,_=>none
def CY(sh:Option Nat):V→Option V
 |.bU=>match sh with|some (n+1)=>some (.fE (n+1) [])|h=>qD h .bU
 |.ea n=>some (.fE n [])
 |v=>qD sh v
def nf:Sh→List V→Option (List V)
 |[],[]=>some []
 |h::sh,v::vs=>match CY h v,nf sh vs with
  |some u,some us=>some (u::us)
  |_,_=>none
 |_,_=>none
def V.jm:V→V
 |.fE n es=>.slice none n es
 |v=>v
def V.lO:V→V
 |.agg cs=>.agg (cs.map V.jm)
 |v=>v.jm
def Bl(sh:Sh):V→Option V
 |.agg cs=>match uC sh cs with|some cs=>some (.agg cs)|none=>none
 |v=>match sh with | [h]=>qD h v|_=>none
def V.cI(d:Nat):V→Bool
 |.slice (some t) _ _=>t==d
 |.bj i _=>i==d
 |.bR i _ _=>i==d
 |.fT i _ _ _=>i==d
 |.agg _=>true
 |.tuple _=>true
 |_=>false
def V.dP(d:Nat):V→Bool
 |.agg cs=>cs.any (V.cI d)
 |v=>v.cI d
def V.cA(d:Nat):V→Bool
 |.tuple vs=>vs.any (V.dP d)
 |v=>v.dP d
def V.cQ:V→Bool
 |.undef | .agg _ | .tuple _=>false
 |_=>true
def lim:Nat:=4294967296
def Hy(op:BinOp)(k:IntKind)(a b:Int):Option V :=
 match op with
 |.add=>some (.int k (k.wrap (a+b)))
 |.sub=>some (.int k (k.wrap (a-b)))
 |.mul=>some (.int k (k.wrap (a*b)))
 |.quo=>if b=0 then none else some (.int k (k.wrap (a.tdiv b)))
 |.rem=>if b=0 then none else some (.int k (a.tmod b))
 |.shr=>if b<0 then none else some (.int k (a.fdiv (2 ^ (min b.toNat k.bits))))
 |.eql=>some (.bool (a==b))
 |.neq=>some (.bool (a != b))
 |.lss=>some (.bool (decide (a<b)))
 |.leq=>some (.bool (decide (a≤b)))
 |.gtr=>some (.bool (decide (a>b)))
 |.geq=>some (.bool (decide (a≥b)))
 |_=>none
def V.bin(op:BinOp):V→V→Option V
 |.int k a,.int k' b=>bif decide (k=k') then Hy op k a b else none
 |_,_=>none
def kO:Nat→V→V→Option Bool
 |0,.int k a,.int k' b=>bif decide (k=k') then some (a==b) else none
 |1,.bool a,.bool b=>some (a==b)
 |2,.str a,.str b=>some (a==b)
 |_,_,_=>none
def eJ:List Nat→List V→List V→Option Bool
 |[],_,_=>some true
 |k::ks,a::as,b::bs=>match kO k a b,eJ ks as bs with
  |some p,some q=>some (p&&q)
  |_,_=>none
 |_,_,_=>none
def V.gA(neg:Bool)(ks:List Nat):V→V→Option V
 |.agg cs,.agg ds=>bif cs.length==ks.length&&ds.length==ks.length then match eJ ks cs ds with
  |some b=>some (.bool (bif neg then !b else b))
  |none=>none
  else none
 |_,_=>none
def V.nI(ag:Bool)(ks:List Nat)(a b:V):Option Bool :=
 match ag with
 |true=>match a,b with
  |.agg cs,.agg ds=>bif cs.length==ks.length&&ds.length==ks.length then eJ ks cs ds else none
  |_,_=>none
 |false=>match ks with
  |[k]=>kO k a b
  |_=>none
def nJ(ag:Bool)(ks:List Nat)(k:V):List (V×V)→Nat→Option (Option (Nat×V))
 |[],_=>some none
 |(q,v)::es,i=>match V.nI ag ks k q with
  |some true=>some (some (i,v))
  |some false=>nJ ag ks k es (i+1)
  |none=>none
def V.un(op:UnOp):V→Option V
 |.bool b=>match op with
  |.not=>some (.bool !b)
  |_=>none
 |.int k n=>match op with
  |.neg=>some (.int k (k.wrap (0-n)))
  |_=>none
 |_=>none
def St.nY(S:St):V→Option (List V×Nat)
 |.bj id off=>match look id S.aZ with
  |some cs=>some (cs,off)
  |none=>none
 |.bH id off=>match S.aD[id]? with
  |some (.cells cs)=>some (cs,off)
  |_=>none
 |.e8 row off=>some (row,off)
 |_=>none
def loadAt(sz:Option Nat)(cs:List V)(off:Nat):Option V :=
 match sz with
 |none=>cs[off]?
 |some n=>bif Nat.ble (off+n) cs.length then some (.agg ((cs.drop off).take n)) else none
def jn:List V→Nat→List V→List V
 |cs,_,[]=>cs
 |cs,off,v::vs=>jn (cs.set off v) (off+1) vs
def chunks(sz:Nat)(cs:List V):Nat→Nat→List (List V)
 |_,0=>[]
 |off,n+1=>(cs.drop off).take sz::chunks sz cs (off+sz) n
def lb(sh:Sh):List (List V)→Option (List (List V))
 |[]=>some []
 |r::rs=>match nH sh r,lb sh rs with
  |some u,some us=>some (u::us)
  |_,_=>none
def tD(root:j8)(v:V):V :=
 match root with
 |.aD=>v.lO
 |_=>v
def St.take(S:St)(cn:Nat):V→Option (V×List (Nat×Nat)×Option (List aP))
 |.bH id off=>match S.aD[id]? with
  |some (.cells cs)=>match cs[off]? with
   |some (.fE n es)=>some (.slice (some cn) n es,[(cn,es.length)],some (S.aD.set id (aP.cells (cs.set off (.slice none n es)))))
   |some v=>some (v.lO,[],none)
   |none=>none
  |_=>none
 |_=>none
def St.yd(S:St)(cn:Nat):V→V→Option (List (Nat×Nat)×List aP)
 |.bH id off,.slice (some f) n es=>match S.aD[id]?,(bif f==cn then look cn S.bl else none) with
  |some (.cells cs),some k=>bif k==es.length&&Nat.blt off cs.length then
    some ([(cn,k+1)],S.aD.set id (aP.cells (cs.set off (.fE n es)))) else none
  |_,_=>none
 |_,_=>none
def St.rows(S:St)(sh:Sh):V→Option (List (List V))
 |.bU=>some []
 |.slice _ n es=>bif n==sh.length then some es else none
 |.ea _=>some []
 |.gd _=>some []
 |_=>none
def St.sM(S:St)(sh:Sh):V→Option (List (List V))
 |.bR id s len=>match look id S.aZ with
  |some cs=>bif (s==sh.length)&&Nat.blt 0 sh.length&&Nat.ble (len*sh.length) cs.length then lb sh (chunks sh.length cs 0 len) else none
  |none=>none
 |_=>none
def St.oK(S:St)(oy:Option Nat)(sh:Sh)(v:V):Option (List (List V)) :=
 match oy with
 |none=>S.rows sh v
 |some j=>match v with
  |.bR i s n=>bif i==j then S.sM sh (.bR i s n) else none
  |v=>S.rows sh v
def qf(S:St):List bA→Option (List V)
 |[]=>some []
 |x::xs=>match S.ev x,qf S xs with
  |some v,some vs=>some (v::vs)
  |_,_=>none
def sN(S:St):List (Nat×Nat×bA)→List V→Option (List V)
 |[],cs=>some cs
 |(off,n,x)::ps,cs=>match S.ev x with
  |some v=>bif v.cells.length==n&&Nat.ble (off+n) cs.length&&v.cells.all V.cQ then sN S ps (jn cs off v.cells) else none
  |none=>none
def vC(S:St)(sh:Sh):List (Nat×bA)→List (List V)→Option (List (List V))
 |[],rs=>some rs
 |(i,x)::ps,rs=>match S.ev x with
  |some v=>match nH sh v.cells with
   |some r=>bif Nat.blt i rs.length then vC S sh ps (rs.set i r) else none
   |none=>none
  |none=>none
def St.zM(S:St)(src:Option Nat):V→Option (List V)
 |.bU=>some []
 |.ea _=>some []
 |.gd _=>some []
 |.slice _ n es=>bif n==1 then some es.flatten else none
 |.bR id s n=>match (match src with|some j=>look j S.aZ|none=>none) with
  |some cs=>bif src==some id&&(s==1)&&Nat.ble n cs.length then some (cs.take n) else none
  |none=>none
 |.fT id s off n=>match (match src with|some j=>look j S.aZ|none=>none) with
  |some cs=>bif src==some id&&(s==1)&&Nat.ble (off+n) cs.length then some ((cs.drop off).take n) else none
  |none=>none
 |_=>none
def iD:V→V
 |.slice _ n es=>.slice none n es
 |v=>v
def strip:V→V
 |.agg cs=>.agg (cs.map iD)
 |v=>iD v
def cY(reg:List (Nat×Nat)):Nat→List V→List V×List (Nat×Nat)
 |_,[]=>([],[])
 |i,v::vs =>
  let r:=cY reg (i+1) vs
  match v with
  |.slice (some _) n es=>match look i reg with
   |some f=>(.slice (some f) n es::r.1,(f,es.length)::r.2)
   |none=>(.slice none n es::r.1,r.2)
  |v=>(strip v::r.1,r.2)
def recv(reg:List (Nat×Nat)):V→V×List (Nat×Nat)
 |.tuple vs=>((.tuple (cY reg 0 vs).1),(cY reg 0 vs).2)
 |.agg cs=>((.agg (cY reg 0 cs).1),(cY reg 0 cs).2)
 |v=>match cY reg 0 [v] with
  |([u],ts)=>(u,ts)
  |_=>(.undef,[])
def nK(S:St):List (Sh×bA)→Option (List V)
 |[]=>some []
 |(sh,x)::xs=>match S.ev x with
  |some v=>match Bl sh v,nK S xs with
   |some u,some us=>some (u::us)
   |_,_=>none
  |none=>none
def qg(sh:Sh):V→Option V
 |.agg cs=>match nH sh cs with|some cs=>some (.agg cs)|none=>none
 |.fn f []=>some (.fn f [])
 |v=>match sh with | [h]=>el h v|_=>none
def nL(S:St):List (Sh×bA)→Option (List V)
 |[]=>some []
 |(sh,x)::xs=>match S.ev x with
  |some v=>match qg sh v,nL S xs with
   |some u,some us=>some (u::us)
   |_,_=>none
  |none=>none
def St.CZ(S:St)(ids:List Nat)(rs:Sh)(id s n:Nat):Option V :=
 bif ids.contains id then (match S.sM rs (.bR id s n) with|some es=>some (V.slice none rs.length es)|none=>none) else none
def St.Bo(S:St)(ids:List Nat)(rs:Sh)(id s off n:Nat):Option V :=
 bif ids.contains id then (match look id S.aZ with
  |some cs=>bif (s==rs.length)&&Nat.blt 0 rs.length&&Nat.ble (off*rs.length+n*rs.length) cs.length then (match lb rs (chunks rs.length cs (off*rs.length) n) with|some es=>some (V.slice none rs.length es)|none=>none) else none
  |none=>none) else none
def mq(S:St)(ids:List Nat):List (Sh×Sh×bA)→Option (List V)
 |[]=>some []
 |(rs,sh,x)::xs=>match (match S.ev x with
   |some (.bR id s n)=>S.CZ ids rs id s n
   |some (.fT id s off n)=>S.Bo ids rs id s off n
   |some v=>qg sh v
   |none=>none),mq S ids xs with
  |some u,some us=>some (u::us)
  |_,_=>none
def V.jb:V→Bool
 |.slice .. => true
 |v=>v.plain
def V.jo:V→Bool
 |.agg cs=>cs.all V.jb
 |v=>v.jb
def V.lone:V→Bool
 |.tuple vs=>vs.all V.jo
 |v=>v.jo
def V.sc:V→Bool
 |.int .. | .bool .. | .str .. => true
 |_=>false
def V.kB:V→Bool
 |.slice (some _) n es=>es.all fun r=>r.length==n&&r.all V.sc
 |v=>v.sc
def V.qE:V→Bool
 |.tuple vs=>vs.all V.sc
 |.agg cs=>cs.all V.sc
 |v=>v.sc
def nZ(id:Nat):Nat→List V→Option (List V×Option (List V))
 |_,[]=>none
 |0,v::vs=>match v with
  |.slice (some _) n es=>bif es.all (fun r=>r.length==n&&r.all V.sc)&&vs.all V.kB then
    (bif es.isEmpty then some (.ea n::vs.map strip,none) else some (.bR id n es.length::vs.map strip,some es.flatten)) else none
  |_=>none
 |p+1,v::vs=>bif v.kB then match nZ id p vs with
  |some (us,o)=>some (strip v::us,o)
  |none=>none
  else none
def kC(id pos:Nat):V→Option (V×Option (List V))
 |.tuple vs=>match nZ id pos vs with
  |some (us,o)=>some (.tuple us,o)
  |none=>none
 |v=>match nZ id pos [v] with
  |some ([u],o)=>some (u,o)
  |_=>none
def C0:List V→Option (List V)
 |[]=>some []
 |.bH i o::vs=>match C0 vs with
  |some us=>some (.bH i o::us)
  |none=>none
 |_=>none
abbrev bD:=FuncId→List V→List aP→Option (V×List aP)
def St.fits(S:St)(root:j8)(x:bA):Bool :=
 match S.ev x with
 |some a=>root.fits a
 |none=>false
def C1(x:Int):List Int→List Int
 |[]=>[x]
 |y::ys=>bif decide (x≤y) then x::y::ys else y::C1 x ys
def oL:List Int→List Int
 |[]=>[]
 |x::xs=>C1 x (oL xs)
def dedup:List Int→List Int
 |[]=>[]
 |[x]=>[x]
 |x::y::r=>bif x==y then dedup (y::r) else x::dedup (y::r)
def vF(k:Nat)(zs:List Int):List Int :=
 match k with
 |0=>oL zs
 |_=>dedup zs++List.replicate (zs.length-(dedup zs).length) 0
def C2(k id:Nat)(zs:List Int):V :=
 match k with
 |0=>.tuple []
 |_=>.bR id 1 (dedup zs).length
def yh:List V→Option (List Int)
 |[]=>some []
 |.int .i64 n::vs=>match yh vs with
  |some zs=>some (n::zs)
  |none=>none
 |_=>none
def St.mut(S:St)(k i:Nat)(d:Option Nat)(v:Option V):Option St :=
 match v with
 |some (.bR id s n)=>match look i S.aZ with
  |some cs=>bif id==i&&(s==1)&&Nat.ble n cs.length&&Nat.ble n lim&&Nat.blt 0 n then match yh (cs.take n) with
   |some zs=>some ({ S with aZ:=(i,(vF k zs).map (V.int .i64)++cs.drop n)::S.aZ }.put d (C2 k i zs))
   |none=>none
   else none
  |none=>none
 |_=>none
def V.part:V→Option (Nat×Nat×Nat)
 |.c6 i 1 n=>some (i,0,n)
 |.iM i 1 off n=>some (i,off,n)
 |_=>none
def Hz(G:List aP):Option (Nat×Nat×Nat)→Option (List aP)
 |some (i,off,n)=>match G[i]? with
  |some (.cells cs)=>bif Nat.ble (off+n) cs.length&&Nat.blt 0 n then some (G.set i (.cells (jn cs off (List.replicate n (.int .i64 0))))) else none
  |_=>none
 |none=>none
open Classical in
noncomputable def rd{α:Type}(G G':List aP)(x:α):Option α:=if G'=G then some x else none
noncomputable def VO.run(C:bD)(d:Option Nat)(S:St):VO→Option St
 |.mv x=>match S.ev x with
  |some v=>some (S.put d v)
  |none=>none
 |.pick c a b=>match S.ev c with
  |some (.bool t)=>match bif t then S.ev a else S.ev b with
   |some v=>some (S.put d v)
   |none=>none
  |_=>none
 |.obj id cells=>some ({ S with aZ:=(id,cells)::S.aZ }.put d (.bj id 0))
 |.box id x=>match S.ev x with
  |some v=>bif v.cells.all V.cQ then some ({ S with aZ:=(id,v.cells)::S.aZ }.put d (.bj id 0)) else none
  |none=>none
 |.vr sh x=>match S.ev x with
  |some v=>match nf sh v.cells with
   |some cs=>some ({ S with aD:=S.aD++[aP.cells cs] }.put d (.bH S.aD.length 0))
   |none=>none
  |none=>none
 |.vt sh zero=>match nf sh zero with
  |some cs=>some ({ S with aD:=S.aD++[aP.cells cs] }.put d (.bH S.aD.length 0))
  |none=>none
 |.vu=>some ({ S with aD:=S.aD++[aP.map []] }.put d (.map S.aD.length))
 |.wM ag ks zero ok x k=>match S.ev x,S.ev k with
  |some (.map i),some kv=>match S.aD[i]?,V.nI ag ks kv kv with
   |some (.map es),some _=>match nJ ag ks kv es 0 with
    |some (some (_,v))=>some (S.put d (bif ok then .tuple [v,.bool true] else v))
    |some none=>some (S.put d (bif ok then .tuple [zero,.bool false] else zero))
    |none=>none
   |_,_=>none
  |_,_=>none
 |.vv ag ks sh x k y=>match S.ev x,S.ev k,S.ev y with
  |some (.map i),some kv,some v=>match S.aD[i]?,V.nI ag ks kv kv,Bl sh v with
   |some (.map es),some _,some u=>match nJ ag ks kv es 0 with
    |some (some (j,_))=>some { S with aD:=S.aD.set i (aP.map (es.set j (kv,u))) }
    |some none=>some { S with aD:=S.aD.set i (aP.map (es++[(kv,u)])) }
    |none=>none
   |_,_,_=>none
  |_,_,_=>none
 |.build zero parts=>match sN S parts zero with
  |some cs=>some (S.put d (.agg cs))
  |none=>none
 |.lit tok sh zero ln parts=>match vC S sh parts (List.replicate ln zero) with
  |some rs=>match tok with
   |some f=>some ({ S with bl:=(f,ln)::S.bl }.put d (.slice (some f) sh.length rs))
   |none=>some (S.put d (.slice none sh.length rs))
  |none=>none
 |.load root sz p=>match S.ev p with
  |some a=>bif root.fits a then match S.nY a with
   |some (cs,off)=>match loadAt sz cs off with
    |some v=>some (S.put d (tD root v))
    |none=>none
   |none=>none
   else none
  |none=>none
 |.tz cn p=>match S.ev p with
  |some a=>match S.take cn a with
   |some (v,ts,G)=>some ({ S with bl:=ts++S.bl,aD:=(match G with|some G=>G|none=>S.aD) }.put d v)
   |none=>none
  |none=>none
 |.vy cn p x=>match S.ev p,S.ev x with
  |some a,some v=>match S.yd cn a v with
   |some (ts,G)=>some { S with bl:=ts++S.bl,aD:=G }
   |none=>none
  |_,_=>none
 |.store root sh p x=>bif S.fits root p then match S.ev p,S.ev x with
  |some (.bj id off),some v=>match look id S.aZ with
   |some cs=>bif v.cells.length==sh.length&&Nat.ble (off+sh.length) cs.length&&v.cells.all V.cQ&&Nat.blt 0 sh.length then
     some { S with aZ:=(id,jn cs off v.cells)::S.aZ } else none
   |none=>none
  |some (.bH id off),some v=>match S.aD[id]? with
   |some (.cells cs)=>match nf sh v.cells with
    |some vs=>bif Nat.ble (off+vs.length) cs.length&&Nat.blt 0 vs.length then some { S with aD:=S.aD.set id (aP.cells (jn cs off vs)) } else none
    |none=>none
   |_=>none
  |_,_=>none
  else none
 |.uz x=>match S.ev x with
  |some (.bj i o)=>some (S.put d (.bj i o))
  |some (.bH i o)=>some (S.put d (.bH i o))
  |some (.e8 r o)=>some (S.put d (.e8 r o))
  |_=>none
 |.bin op x y=>match S.ev x,S.ev y with
  |some a,some b=>match V.bin op a b with
   |some v=>some (S.put d v)
   |none=>none
  |_,_=>none
 |.beq neg x y=>match S.ev x,S.ev y with
  |some (.bool a),some (.bool b)=>some (S.put d (.bool (bif neg then a != b else a==b)))
  |_,_=>none
 |.gA neg ks x y=>match S.ev x,S.ev y with
  |some a,some b=>match V.gA neg ks a b with
   |some v=>some (S.put d v)
   |none=>none
  |_,_=>none
 |.un op x=>match S.ev x with
  |some a=>match V.un op a with
   |some v=>some (S.put d v)
   |none=>none
  |none=>none
 |.conv k x=>match S.ev x with
  |some (.int _ n)=>some (S.put d (.int k (k.wrap n)))
  |_=>none
 |.tA off x=>match S.ev x with
  |some (.bj i o)=>some (S.put d (.bj i (o+off)))
  |some (.bH i o)=>some (S.put d (.bH i (o+off)))
  |some (.e8 r o)=>some (S.put d (.e8 r (o+off)))
  |_=>none
 |.oJ (some n) sz x i=>match S.ev x,S.ev i with
  |some a,some (.int _ k)=>bif decide (0≤k)&&decide (k<n) then match a with
    |.bj i o=>some (S.put d (.bj i (o+k.toNat*sz)))
    |.bH i o=>some (S.put d (.bH i (o+k.toNat*sz)))
    |.e8 r o=>some (S.put d (.e8 r (o+k.toNat*sz)))
    |_=>none
   else none
  |_,_=>none
 |.oJ none sz x i=>match S.ev x,S.ev i with
  |some (.slice _ m es),some (.int _ k)=>bif decide (0≤k)&&(m==sz) then match es[k.toNat]? with
    |some r=>some (S.put d (.e8 r 0))
    |none=>none
   else none
  |some (.bR id s ln),some (.int _ k)=>bif decide (0≤k)&&decide (k<ln)&&(s==sz) then some (S.put d (.bj id (k.toNat*sz))) else none
  |some (.c6 id s ln),some (.int _ k)=>bif decide (0≤k)&&decide (k<ln)&&(s==sz) then some (S.put d (.bH id (k.toNat*sz))) else none
  |_,_=>none
 |.idx n sz agg x i=>match S.ev x,S.ev i with
  |some (.agg cs),some (.int _ k)=>bif decide (0≤k)&&decide (k<n) then
    match loadAt (bif agg then some sz else none) cs (k.toNat*sz) with
    |some v=>some (S.put d v)
    |none=>none
   else none
  |_,_=>none
 |.field off sz x=>match S.ev x with
  |some (.agg cs)=>match loadAt sz cs off with
   |some v=>some (S.put d v)
   |none=>none
  |_=>none
 |.zL n=>some (S.put d (.ea n))
 |.wO neg x=>match S.ev x with
  |some .bU=>some (S.put d (.bool !neg))
  |some (.gd _)=>some (S.put d (.bool neg))
  |some (.slice _ _ (_::_))=>some (S.put d (.bool neg))
  |_=>none
 |.len x=>match S.ev x with
  |some .bU=>some (S.put d (.int .i64 0))
  |some (.ea _)=>some (S.put d (.int .i64 0))
  |some (.gd _)=>some (S.put d (.int .i64 0))
  |some (.slice _ _ es)=>some (S.put d (.int .i64 es.length))
  |some (.bR _ _ n)=>some (S.put d (.int .i64 n))
  |some (.c6 _ _ n)=>some (S.put d (.int .i64 n))
  |_=>none
 |.grow _ id n=>match S.ev n with
  |some (.int .i64 k)=>bif decide (0≤k)&&decide (k≤lim) then some ({ S with aZ:=(id,[])::S.aZ }.put d (.bR id 1 0)) else none
  |_=>none
 |.wN x=>match S.ev x with
  |some .bU=>some (S.put d (.int .i64 0))
  |_=>none
 |.vx x=>match S.ev x with
  |some v=>match Hz S.aD v.part with
   |some G=>some ({ S with aD:=G }.put d (.tuple []))
   |none=>none
  |none=>none
 |.vw id src x y=>match S.ev x,S.ev y with
  |some (.bR i s n),some b=>match look id S.aZ,S.zM src b with
   |some cs,some us=>bif i==id&&(s==1)&&Nat.ble n cs.length&&us.all V.sc then
     some ({ S with aZ:=(id,us.take n++cs.drop (us.take n).length)::S.aZ }.put d (.int .i64 (us.take n).length)) else none
   |_,_=>none
  |_,_=>none
 |.vz x=>match S.ev x with
  |some (.str s)=>some (S.put d (.int .i64 s.length))
  |_=>none
 |.app cn src sh mx x y=>match S.ev x,S.ev y with
  |some .bU,some b=>match S.rows sh b with
   |some ys=>bif Nat.ble ys.length mx then some ({ S with bl:=(cn,ys.length)::S.bl }.put d (.slice (some cn) sh.length ys)) else none
   |none=>none
  |some (.ea _),some b=>match S.rows sh b with
   |some ys=>bif Nat.ble ys.length mx then some ({ S with bl:=(cn,ys.length)::S.bl }.put d (.slice (some cn) sh.length ys)) else none
   |none=>none
  |some (.slice (some f) n es),some b=>match S.rows sh b with
   |some ys=>match (bif src==some f then look f S.bl else none) with
    |some k=>bif k==es.length&&(n==sh.length)&&Nat.ble (es.length+ys.length) mx then
      some ({ S with bl:=(f,es.length+ys.length)::S.bl }.put d (.slice (some f) n (es++ys))) else none
    |none=>none
   |none=>none
  |_,_=>none
 |.uA new src oy sh x y=>match S.ev x,S.ev y with
  |some .bU,some b=>match S.oK oy sh b with
   |some ys=>bif ys.isEmpty then some (S.put d .bU) else
     bif Nat.ble ys.length lim then some ({ S with aZ:=(new,ys.flatten)::S.aZ }.put d (.bR new sh.length ys.length)) else none
   |none=>none
  |some (.ea n),some b=>match S.oK oy sh b with
   |some ys=>bif ys.isEmpty then some (S.put d (.ea n)) else
     bif Nat.ble ys.length lim then some ({ S with aZ:=(new,ys.flatten)::S.aZ }.put d (.bR new sh.length ys.length)) else none
   |none=>none
  |some (.bR id s ln),some b=>match S.oK oy sh b,look src S.aZ with
   |some ys,some cs=>bif (id==src)&&(s==sh.length)&&(cs.length==ln*s)&&Nat.ble (ln+ys.length) lim then
     some ({ S with aZ:=(new,cs++ys.flatten)::S.aZ.filter fun p => !(p.1==src) }.put d (.bR new sh.length (ln+ys.length))) else none
   |_,_=>none
  |_,_=>none
 |.ext x i=>match S.ev x with
  |some (.tuple vs)=>match vs[i]? with
   |some v=>some (S.put d v)
   |none=>none
  |_=>none
 |.call false f args reg=>match S.ev f,nK S args with
  |some (.fn g cap),some vs=>match C g (vs++cap) S.aD with
   |some (r,G)=>some ({ S with aD:=G,bl:=(recv reg r).2++S.bl }.put d (recv reg r).1)
   |none=>none
  |_,_=>none
 |.call true f args reg=>match S.ev f,nL S args with
  |some (.fn g []),some vs=>match C g vs [] with
   |some (r,_)=>bif r.lone then some ({ S with bl:=(recv reg r).2++S.bl }.put d (recv reg r).1) else none
   |none=>none
  |_,_=>none
 |.sJ f args=>match S.ev f,nK S args with
  |some (.fn g cap),some vs=>match C g (vs++cap) S.aD with
   |some (r,G)=>rd S.aD G (S.put d (recv [] r).1)
   |none=>none
  |_,_=>none
 |.wP k _ id x=>S.mut k id d (S.ev x)
 |.sK f args ids=>match S.ev f,mq S ids args with
  |some (.fn g []),some vs=>match C g vs [] with
   |some (r,_)=>bif r.qE then some (S.put d r) else none
   |none=>none
  |_,_=>none
 |.own f args ids id pos=>match S.ev f,mq S ids args with
  |some (.fn g []),some vs=>match C g vs [] with
   |some (r,_)=>match kC id pos r with
    |some (v,some cs)=>some ({ S with aZ:=(id,cs)::S.aZ }.put d v)
    |some (v,none)=>some (S.put d v)
    |none=>none
   |none=>none
  |_,_=>none
 |.sL f args id=>match S.ev f,nL S args with
  |some (.fn g []),some vs=>match C g vs [] with
   |some (r,_)=>match kC id 0 r with
    |some (.bR i n ln,some cs)=>bif i==id&&Nat.blt 0 cs.length&&Nat.blt 0 ln&&cs.all V.sc then some ({ S with aD:=S.aD++[aP.cells cs] }.put d (.c6 S.aD.length n ln)) else none
    |some (.ea n,none)=>some ({ S with aD:=S.aD++[aP.cells []] }.put d (.c6 S.aD.length n 0))
    |_=>none
   |none=>none
  |_,_=>none
 |.uB id zero n=>match S.ev n with
  |some (.int _ k)=>bif decide (0≤k)&&decide (k≤lim) then
    some ({ S with aZ:=(id,(List.replicate k.toNat zero).flatten)::S.aZ }.put d (.bR id zero.length k.toNat)) else none
  |_=>none
 |.wQ sz x lo hi=>match S.ev x with
  |some (.slice _ m es) =>
   match S.kM lo 0,S.kM hi es.length with
   |some (.int _ a),some (.int _ b)=>bif decide (0≤a)&&decide (a≤b)&&decide (b≤es.length)&&(m==sz) then
     some (S.put d (.slice none sz ((es.take b.toNat).drop a.toNat))) else none
   |_,_=>none
  |some .bU =>
   match S.kM lo 0,S.kM hi 0 with
   |some (.int _ a),some (.int _ b)=>bif decide (a=0)&&decide (b=0) then some (S.put d .bU) else none
   |_,_=>none
  |some (.bR id s ln) =>
   match S.kM lo 0,S.kM hi ln with
   |some (.int _ a),some (.int _ b)=>bif decide (0≤a)&&decide (a≤b)&&decide (b≤ln)&&(s==sz) then
     bif decide (a=0) then some (S.put d (.bR id s b.toNat)) else bif decide (a<ln) then some (S.put d (.fT id s a.toNat (b-a).toNat)) else none
     else none
   |_,_=>none
  |some (.c6 id s ln) =>
   match S.kM lo 0,S.kM hi ln with
   |some (.int _ a),some (.int _ b)=>bif decide (0≤a)&&decide (a≤b)&&decide (b≤ln)&&(s==sz) then
     bif decide (a=0) then some (S.put d (.c6 id s b.toNat)) else bif decide (a<ln) then some (S.put d (.iM id s a.toNat (b-a).toNat)) else none
     else none
   |_,_=>none
  |_=>none
 |.arr n sz x=>match S.ev x with
  |some (.bj id 0)=>some (S.put d (.fT id sz 0 n))
  |_=>none
 |.vB mx x y z=>match S.ev x,S.ev y,S.ev z with
  |some (.int k a),some (.int _ b),some (.int _ c)=>some (S.put d (.int k (bif mx then max (max a b) c else min (min a b) c)))
  |_,_,_=>none
 |.mm mx x y=>match S.ev x,S.ev y with
  |some (.int k a),some (.int _ b)=>some (S.put d (.int k (bif mx then max a b else min a b)))
  |_,_=>none
 |.wR f cap=>match qf S cap with
  |some vs=>match C0 vs with
   |some us=>some (S.put d (.fn f us))
   |none=>none
  |none=>none
noncomputable def bK.run(C:bD)(o:bK)(S:St):Option St :=
 match o.guard with
 |none=>o.op.run C o.dst S
 |some (g,want)=>match look g S.env with
  |some (.bool b)=>bif b==want then o.op.run C o.dst S else some (S.put o.dst .undef)
  |some .undef=>some (S.put o.dst .undef)
  |_=>none
noncomputable def iE(C:bD):List bK→St→Option St
 |[],S=>some S
 |o::os,S=>match o.run C S with
  |some S'=>iE C os S'
  |none=>none
def vG{α:Type}(env:List (Nat×α)):List Nat→List (Nat×α)
 |[]=>[]
 |s::r=>match look s env with
  |some v=>(s,v)::vG env r
  |none=>vG env r
def St.keep(S:St)(k:dj):St :=
 {env:=vG S.env k.e,aZ:=vG S.aZ k.o,bl:=vG S.bl k.t,aD:=S.aD }
def St.clean(S:St):List Nat→Option St
 |[]=>some S
 |d::ds =>
  let env:=S.env.filter fun p => !(p.1==d)
  let aZ:=S.aZ.filter fun p => !(p.1==d)
  let bl:=S.bl.filter fun p => !(p.1==d)
  bif env.all (fun p => !p.2.cA d)&&aZ.all (fun p=>p.2.all fun v => !v.cI d) then St.clean { env,aZ,bl,aD:=S.aD } ds else none
def V.forget(cn:Nat):V→V
 |.slice (some f) n es=>bif f==cn then .slice none n es else .slice (some f) n es
 |v=>v
def V.jR(a b:Nat):V→V
 |.bR i s n=>bif i==a then .bR b s n else .bR i s n
 |v=>v
def St.px(S:St)(id off cn sz:Nat):Option St :=
 match look id S.aZ with
  |some cs=>match cs[off]? with
   |some .bU=>match St.clean S [cn] with
    |some S=>match look id S.aZ with
     |some cs=>some { S with aZ:=(id,cs.set off (.slice (some cn) sz []))::S.aZ,bl:=(cn,0)::S.bl }
     |none=>none
    |none=>none
   |_=>some S
  |none=>some S
def St.tB(S:St)(s id sz:Nat):Option St :=
 match St.clean { S with env:=S.env.filter fun p => !(p.1==s) } [id] with
 |some S=>some { S with env:=(s,.bR id sz 0)::S.env,aZ:=(id,[])::S.aZ }
 |none=>none
def St.share(S:St)(s n:Nat)(es:List (List V)):St :=
 {S with env:=(s,.c6 S.aD.length n es.length)::S.env,aD:=S.aD++[aP.cells es.flatten] }
def St.ES(G:List aP)(j9:List Sh):V→Option (V×List Sh×List aP)
 |.c6 i n len=>match j9,G[i]? with
  |sh::j9,some (.cells cs)=>bif n==sh.length&&Nat.blt 0 n&&Nat.ble (len*n) cs.length then match lb sh (chunks sh.length (cs.map V.jm) 0 len) with
   |some es=>some (.slice none n es,j9,G.set i (.cells []))
   |none=>none
   else none
  |_,_=>none
 |v=>some (v,j9,G)
def wT:List aP→List Sh→List V→Option (List V×List aP)
 |G,_,[]=>some ([],G)
 |G,j9,v::vs=>match St.ES G j9 v with
  |some (u,j9,G)=>match wT G j9 vs with
   |some (us,G)=>some (u::us,G)
   |none=>none
  |none=>none
def St.wS(S:St)(id off a sz:Nat):Option St :=
 match look id S.aZ with
 |some cs=>match cs[off]? with
  |some .bU=>match St.clean S [a] with
   |some S=>match look id S.aZ with
    |some cs=>some { S with aZ:=(id,cs.set off (.bR a sz 0))::(a,[])::S.aZ }
    |none=>none
   |none=>none
  |_=>some S
 |none=>some S
def St.Bj(S:St)(a b id off:Nat):Option St :=
 match look id S.aZ with
 |some ds=>match ds[off]? with
  |some (.bR i s n)=>bif i==a && !(id==a) then (match St.clean S [b] with
   |some S=>match look a S.aZ,look id S.aZ with
    |some cs,some ds=>some { S with aZ:=(id,ds.set off (.bR b s n))::(b,cs)::(S.aZ.filter fun p => !(p.1==id)).filter fun p => !(p.1==a) }
    |_,_=>none
   |none=>none) else some S
  |_=>some S
 |none=>some S
def St.Bk(S:St)(id off:Nat)(sh:Sh):Option St :=
 match look id S.aZ with
 |some ds=>match ds[off]? with
  |some (.bR a s n)=>bif n==0 then some { S with aZ:=(id,ds.set off (.slice none sh.length []))::S.aZ } else
   match S.sM sh (.bR a s n),St.clean { S with aZ:=S.aZ.filter fun p => !(p.1==id) } [a] with
   |some es,some S=>bif a==id then none else some { S with aZ:=(id,ds.set off (.c6 S.aD.length sh.length n))::S.aZ,aD:=S.aD++[aP.cells es.flatten] }
   |_,_=>none
  |_=>some S
 |none=>some S
def iv.run(S:St):iv→Option St
 |.wS id off a sz=>S.wS id off a sz
 |.Bj a b id off=>S.Bj a b id off
 |.Bk id off sh=>S.Bk id off sh
 |.tB s id sz=>match look s S.env with
  |some .bU=>S.tB s id sz
  |some (.ea _)=>S.tB s id sz
  |_=>some S
 |.share s sh=>match look s S.env with
  |some (.bR id n len)=>match S.sM sh (.bR id n len),St.clean { S with env:=S.env.filter fun p => !(p.1==s) } [id] with
   |some es,some S=>some (S.share s sh.length es)
   |_,_=>none
  |some .bU=>some (S.share s sh.length [])
  |some (.ea _)=>some (S.share s sh.length [])
  |_=>none
 |.K5 s j9=>match look s S.env with
  |some (.agg cs)=>match wT S.aD j9 cs with
   |some (us,G)=>some { S with env:=(s,.agg us)::S.env,aD:=G }
   |none=>none
  |some v=>match St.ES S.aD j9 v with
   |some (u,_,G)=>some { S with env:=(s,u)::S.env,aD:=G }
   |none=>none
  |none=>none
 |.CW id j9=>match look id S.aZ with
  |some cs=>match wT S.aD j9 cs with
   |some (us,G)=>some { S with aZ:=(id,us)::S.aZ.filter fun p => !(p.1==id),aD:=G }
   |none=>none
  |none=>some S
 |.norm s cn sz=>match look s S.env with
  |some .bU=>match St.clean { S with env:=S.env.filter fun p => !(p.1==s) } [cn] with
   |some S=>some { S with env:=(s,.slice (some cn) sz [])::S.env,bl:=(cn,0)::S.bl }
   |none=>none
  |some (.ea _)=>match St.clean { S with env:=S.env.filter fun p => !(p.1==s) } [cn] with
   |some S=>some { S with env:=(s,.slice (some cn) sz [])::S.env,bl:=(cn,0)::S.bl }
   |none=>none
  |_=>some S
 |.px id off cn sz=>S.px id off cn sz
 |.freeze s sh=>match look s S.env with
  |some (.bR id off len)=>match S.sM sh (.bR id off len) with
   |some es=>some { S with env:=(s,.slice none sh.length es)::S.env,aZ:=S.aZ.filter fun p => !(p.1==id) }
   |none=>none
  |_=>some S
 |.K3 id back cn sz=>match look id S.aZ with
  |some cs=>match cs[cs.length-back]? with
   |some .bU=>St.px { S with aZ:=(id,cs.map (V.forget cn))::S.aZ.filter fun p => !(p.1==id) } id (cs.length-back) cn sz
   |_=>some S
  |none=>some S
 |.K4 id off sh=>match look id S.aZ with
  |some cs=>match cs[off]? with
   |some (.bR i s n)=>match S.sM sh (.bR i s n) with
    |some es=>bif i==id then none else some { S with aZ:=(id,cs.set off (.slice none sh.length es))::(S.aZ.filter fun p => !(p.1==i)).filter fun p => !(p.1==id) }
    |none=>none
   |_=>some S
  |none=>some S
 |.jR a b=>match St.clean S [b] with
  |some S=>match look a S.aZ with
   |some cs=>some { S with env:=S.env.map (fun p=>(p.1,V.jR a b p.2)),aZ:=(b,cs)::S.aZ.filter fun p => !(p.1==a) }
   |none=>some S
  |none=>none
def oM:List iv→St→Option St
 |[],S=>some S
 |g::gs,S=>match g.run S with
  |some S=>oM gs S
  |none=>none
inductive qh where
 |normal
 |exit (id:Nat)
 |ret
 deriving Inhabited
def iter(body:St→Option (qh×St)):Nat→St→Option (qh×St)
 |0,_=>none
 |n+1,S=>match body S with
  |some (.normal,S')=>iter body n S'
  |some (.exit i,S')=>some (.exit i,S')
  |some (.ret,S')=>some (.ret,S')
  |none=>none
noncomputable def VC.run(C:bD)(n:Nat):VC→St→Option (qh×St)
 |.skip,S=>some (.normal,S)
 |.region gh ids ops keep,S=>match oM gh S with
  |some S=>match S.clean ids with
   |some S=>match iE C ops S with
    |some S=>some (.normal,S.keep keep)
    |none=>none
   |none=>none
  |none=>none
 |.seq a b,S=>match VC.run C n a S with
  |some (.normal,S')=>VC.run C n b S'
  |some (.exit i,S')=>some (.exit i,S')
  |some (.ret,S')=>some (.ret,S')
  |none=>none
 |.cond c a b,S=>match S.ev c with
  |some (.bool t)=>bif t then VC.run C n a S else VC.run C n b S
  |_=>none
 |.block id a,S=>match VC.run C n a S with
  |some (.normal,S')=>some (.normal,S')
  |some (.exit i,S')=>bif i==id then some (.normal,S') else some (.exit i,S')
  |some (.ret,S')=>some (.ret,S')
  |none=>none
 |.loop gh keep a,S=>match oM gh S with
  |some S=>iter (fun S=>VC.run C n a (S.keep keep)) n S
  |none=>none
 |.exit id,S=>some (.exit id,S)
 |.dead,_=>none
 |.ret,S=>some (.ret,S)
 |.CX gh,S=>match oM gh S with
  |some S=>some (.ret,S)
  |none=>none
def Bp(S:St)(sh:Option Nat)(used:List Nat):V→Option (V×List Nat)
 |.bU=>match sh with
  |some n=>some (.slice (some 0) n [],used)
  |none=>none
 |.ea n=>some (.slice (some 0) n [],used)
 |.slice (some f) n es=>match look f S.bl with
  |some k=>bif k==es.length && !used.contains f then some (.slice (some 0) n es,f::used) else some (.slice none n es,used)
  |none=>some (.slice none n es,used)
 |.slice none n es=>some (.slice none n es,used)
 |v=>match qD sh v with
  |some v=>some (v,used)
  |none=>none
def n0(S:St):Sh→List Nat→List V→Option (List V×List Nat)
 |[],used,[]=>some ([],used)
 |h::sh,used,v::vs=>match Bp S h used v with
  |some (u,used)=>match n0 S sh used vs with
   |some (us,used)=>some (u::us,used)
   |none=>none
  |none=>none
 |_,_,_=>none
def Bq(S:St)(used:List Nat):tC→Option (V×List Nat)
 |.t s sh=>match look s S.env with
  |some (.agg cs)=>match n0 S sh used cs with
   |some (us,used)=>some (.agg us,used)
   |none=>none
  |some v=>match sh with
   |[h]=>Bp S h used v
   |_=>none
  |none=>none
 |.c s agg sh=>match look s S.env with
  |some (.bj id 0)=>match look id S.aZ with
   |some cs=>match n0 S sh used cs with
    |some (us,used)=>some (K6 agg us,used)
    |none=>none
   |none=>none
  |_=>none
def wU(S:St):List Nat→List tC→Option (List V)
 |_,[]=>some []
 |used,r::rs=>match Bq S used r with
  |some (v,used)=>match wU S used rs with
   |some vs=>some (v::vs)
   |none=>none
  |none=>none
def wV(S:St)(rs:List tC):Option V :=
 match wU S [] rs with
 |some [v]=>some v
 |some vs=>some (.tuple vs)
 |none=>none
def qF:Nat→List V→List (Nat×V)
 |_,[]=>[]
 |i,v::vs=>(i,v)::qF (i+1) vs
noncomputable def bc.call(C:bD)(n:Nat)(f:bc)(args:List V)(G:List aP):Option (V×List aP) :=
 bif args.length==f.nparams then
  match VC.run C n f.body { env:=qF 0 args,aZ:=[],bl:=[],aD:=G } with
  |some (.normal,S)|some (.ret,S)=>match wV S f.results with
   |some v=>some (v,S.aD)
   |none=>none
  |_=>none
 else none
def qG(C:bD)(args:List V):List FuncId→List aP→Option (List aP)
 |[],G=>some G
 |f::fs,G=>match C f args G with
  |some (_,G')=>qG C args fs G'
  |none=>none
def wrap(C:bD)(vf:bc)(args:List V)(o:Option (V×List aP)):Option (V×List aP) :=
 match o with
 |none=>none
 |some (r,G)=>match vf.defs with
  |[]=>some (r,G)
  |fs=>match args with
   |[.bH _ _]=>match qG C args fs.reverse G with
    |some G'=>some (.tuple [],G')
    |none=>none
   |_=>none
noncomputable def bc.one(C:bD)(n:Nat)(vf:bc)(args:List V)(G:List aP):Option (V×List aP):=wrap C vf args (vf.call C n args G)
open Classical in
noncomputable def bc.both(C:bD)(n:Nat)(vf:bc)(p m:Nat)(args:List V)(G:List aP):Option (V×List aP) :=
 if vf.one C n (args.set p .bU) G=vf.one C n (args.set p (.gd m)) G then vf.one C n (args.set p .bU) G else none
noncomputable def bc.Br(C:bD)(n:Nat)(vf:bc)(args:List V)(G:List aP):Option (V×List aP) :=
 match vf.split with
 |none=>vf.one C n args G
 |some p=>match args[p]? with
  |some (.slice none m [])=>vf.both C n p m args G
  |_=>vf.one C n args G
noncomputable def call(F:FuncId→Option bc):Nat→bD
 |0=>fun _ _ _=>none
 |n+1=>fun f args G=>match F f with
  |some vf=>vf.Br (call F n) n args G
  |none=>none
end Go.Vm

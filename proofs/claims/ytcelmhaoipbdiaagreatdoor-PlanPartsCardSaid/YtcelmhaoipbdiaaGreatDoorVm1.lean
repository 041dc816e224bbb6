/- The value machine: a deterministic evaluator, by value, for compiled copies of Go functions. Definitions alone. -/
import GoSem.Core.View
namespace Go.Vm
set_option linter.all false
abbrev CC:=@Array.eq_empty_of_size_eq_zero
abbrev mr:=@Array.ext'
abbrev y8:=@Array.getElem?_append_left
abbrev EC:=@Array.getElem?_eq_getElem
abbrev lU:=@Array.getElem?_eq_none
abbrev wy:=@Array.getElem?_eq_some_iff
abbrev Sq:=@Array.getElem?_extract
abbrev CD:=@Array.getElem?_modify
abbrev Sr:=@Array.getElem?_push
abbrev L3:=@Array.getElem?_setIfInBounds
abbrev Ii:=@Array.getElem?_toList
abbrev Ss:=@Array.isEmpty_iff
abbrev wz:=@Array.length_toList
abbrev ED:=@Array.size_append
abbrev L4:=@Array.toList_map
abbrev bQ:=@Bool.and_eq_true
abbrev CE:=@Bool.and_self
abbrev Ij:=@Bool.eq_false_iff
abbrev L5:=@Bool.eq_false_or_eq_true
abbrev EE:=@Bool.false_eq_true
abbrev Su:=@Bool.not_eq_false'
abbrev tK:=@Bool.not_eq_true'
abbrev L6:=@Bool.or_eq_false_iff
abbrev AP:=@Bool.or_eq_true
abbrev EF:=@Bool.or_false
abbrev gW:=@Decidable.of_not_not
abbrev Ik:=@Int.add_mul
abbrev Il:=@Int.add_zero
abbrev Im:=@Int.ediv_le_self
abbrev EG:=@Int.ediv_nonneg
abbrev L7:=@Int.emod_lt_of_pos
abbrev L8:=@Int.emod_nonneg
abbrev L9:=@Int.le_ediv_iff_mul_le
abbrev wA:=@Int.le_refl
abbrev y9:=@Int.le_trans
abbrev EH:=@Int.lt_irrefl
abbrev EI:=@Int.lt_trichotomy
abbrev Ma:=@Int.min_comm
abbrev Io:=@Int.mul_add
abbrev Ip:=@Int.mul_comm
abbrev EJ:=@Int.mul_le_mul
abbrev Iq:=@Int.mul_le_mul_of_nonneg_left
abbrev AQ:=@Int.mul_le_mul_of_nonneg_right
abbrev CF:=@Int.mul_nonneg
abbrev Mb:=@Int.mul_pos
abbrev Ir:=@Int.mul_tdiv_cancel
abbrev Is:=@Int.not_lt
abbrev Mc:=@Int.one_mul
abbrev zA:=@Int.tdiv_eq_ediv_of_nonneg
abbrev AR:=@Int.tdiv_le_self
abbrev xo:=@Int.tdiv_nonneg
abbrev Sx:=@Int.tmod_eq_emod_of_nonneg
abbrev It:=@Int.tmod_lt_of_pos
abbrev Iu:=@Int.tmod_nonneg
abbrev Md:=@Int.toNat_natCast
abbrev Sy:=@Int.toNat_of_nonneg
abbrev EK:=@List.all_cons
abbrev g9:=@List.all_eq_true
abbrev EL:=@List.any_cons
abbrev mS:=@List.any_eq_false
abbrev EM:=@List.any_eq_true
abbrev EN:=@List.any_nil
abbrev u4:=@List.append_assoc
abbrev EO:=@List.append_nil
abbrev tL:=@List.cons_append
abbrev Me:=@List.contains_eq_mem
abbrev xp:=@List.drop_drop
abbrev Iv:=@List.drop_eq_getElem_cons
abbrev Sz:=@List.drop_eq_nil_iff
abbrev SA:=@List.drop_eq_nil_of_le
abbrev zB:=@List.drop_length
abbrev tM:=@List.drop_zero
abbrev Mf:=@List.eq_of_mem_replicate
abbrev Mg:=@List.ext_getElem
abbrev xq:=@List.ext_getElem?
abbrev SB:=@List.filterMap_append
abbrev SC:=@List.filterMap_cons
abbrev AS:=@List.filter_append
abbrev SD:=@List.filter_congr
abbrev Mh:=@List.filter_cons
abbrev SE:=@List.filter_eq_nil_iff
abbrev Iw:=@List.filter_eq_self
abbrev AT:=@List.flatMap_cons
abbrev sV:=@List.flatten_cons
abbrev SF:=@List.getD_eq_getElem?_getD
abbrev pj:=@List.getElem?_append
abbrev sW:=@List.getElem?_append_left
abbrev u5:=@List.getElem?_append_right
abbrev EP:=@List.getElem?_cons_succ
abbrev ER:=@List.getElem?_cons_zero
abbrev nT:=@List.getElem?_drop
abbrev gG:=@List.getElem?_eq_getElem
abbrev kF:=@List.getElem?_eq_none
abbrev Ix:=@List.getElem?_eq_some_iff
abbrev tN:=@List.getElem?_map
abbrev Mi:=@List.getElem?_replicate
abbrev km:=@List.getElem?_set
abbrev SG:=@List.getElem?_set_ne
abbrev SH:=@List.getElem?_set_self
abbrev SI:=@List.getElem?_tail
abbrev kn:=@List.getElem?_take
abbrev SJ:=@List.getElem?_take_of_lt
abbrev CG:=@List.getElem?_toArray
abbrev SK:=@List.getElem_cons_zero
abbrev Mj:=@List.getElem_mem
abbrev Iy:=@List.isEmpty_iff
abbrev po:=@List.length_append
abbrev wB:=@List.length_cons
abbrev ES:=@List.length_drop
abbrev bW:=@List.length_eq_zero_iff
abbrev CH:=@List.length_filter_le
abbrev xr:=@List.length_map
abbrev sX:=@List.length_nil
abbrev AU:=@List.length_pos_iff
abbrev Mk:=@List.length_range
abbrev ET:=@List.length_replicate
abbrev oJ:=@List.length_set
abbrev p7:=@List.length_singleton
abbrev Ml:=@List.length_take
abbrev EU:=@List.map_append
abbrev EV:=@List.map_congr_left
abbrev nq:=@List.map_cons
abbrev Mm:=@List.map_drop
abbrev AV:=@List.map_map
abbrev EW:=@List.map_nil
abbrev Iz:=@List.map_replicate
abbrev IA:=@List.map_take
abbrev qA:=@List.mem_append
abbrev Mn:=@List.mem_append_left
abbrev EX:=@List.mem_append_right
abbrev ko:=@List.mem_cons
abbrev AW:=@List.mem_cons_of_mem
abbrev wC:=@List.mem_cons_self
abbrev xt:=@List.mem_filter
abbrev Mo:=@List.mem_flatMap
abbrev Mp:=@List.mem_flatten
abbrev SL:=@List.mem_iff_getElem
abbrev qB:=@List.mem_iff_getElem?
abbrev lV:=@List.mem_map
abbrev gH:=@List.mem_of_getElem?
abbrev IB:=@List.mem_of_mem_drop
abbrev IC:=@List.mem_of_mem_take
abbrev AX:=@List.mem_range
abbrev SM:=@List.mem_replicate
abbrev oK:=@List.mem_singleton
abbrev CI:=@List.nil_append
abbrev wD:=@List.pairwise_cons
abbrev SN:=@List.pairwise_map
abbrev EY:=@List.range'_succ
abbrev EZ:=@List.range_eq_range'
abbrev Mq:=@List.range_succ
abbrev zC:=@List.replicate_succ
abbrev AY:=@List.set_append_right
abbrev ID:=@List.set_cons_zero
abbrev CJ:=@List.set_eq_of_length_le
abbrev SO:=@List.singleton_append
abbrev CK:=@List.size_toArray
abbrev IE:=@List.sum_append
abbrev Mr:=@List.sum_cons
abbrev SP:=@List.take_add_one
abbrev pq:=@List.take_length
abbrev kG:=@List.take_of_length_le
abbrev Ms:=@List.take_succ_cons
abbrev AZ:=@Nat.add_assoc
abbrev Mt:=@Nat.add_comm
abbrev px:=@Nat.add_mul
abbrev qC:=@Nat.add_sub_cancel
abbrev SQ:=@Nat.add_sub_cancel_left
abbrev wE:=@Nat.add_zero
abbrev Mu:=@Nat.ble_eq_true_of_le
abbrev A0:=@Nat.blt_eq
abbrev SR:=@Nat.div_lt_of_lt_mul
abbrev mw:=@Nat.eq_zero_or_pos
abbrev iD:=@Nat.le_of_ble_eq_true
abbrev tO:=@Nat.le_of_eq
abbrev bR:=@Nat.le_refl
abbrev IF:=@Nat.le_succ
abbrev jT:=@Nat.le_trans
abbrev gO:=@Nat.lt_irrefl
abbrev iq:=@Nat.lt_of_lt_of_le
abbrev cF:=@Nat.lt_or_ge
abbrev SS:=@Nat.lt_succ_of_lt
abbrev E0:=@Nat.lt_succ_self
abbrev E1:=@Nat.lt_trichotomy
abbrev E2:=@Nat.min_eq_left
abbrev IG:=@Nat.mod_lt
abbrev IH:=@Nat.mul_comm
abbrev II:=@Nat.mul_eq_zero
abbrev Mv:=@Nat.mul_le_mul
abbrev rI:=@Nat.mul_le_mul_right
abbrev IJ:=@Nat.mul_one
abbrev Mw:=@Nat.mul_pos
abbrev A1:=@Nat.not_le_of_lt
abbrev IK:=@Nat.one_mul
abbrev qD:=@Nat.sub_self
abbrev wF:=@Nat.sub_zero
abbrev nU:=@Nat.succ_mul
abbrev jz:=@Nat.zero_add
abbrev xu:=@Nat.zero_le
abbrev E3:=@Nat.zero_mul
abbrev E4:=@Option.bind_some
abbrev Mx:=@Option.getD_none
abbrev IL:=@Option.getD_some
abbrev E5:=@Option.isNone_iff_eq_none
abbrev My:=@Option.isSome_iff_exists
abbrev CL:=@Option.map_eq_some_iff
abbrev IM:=@Option.map_none
abbrev mT:=@Option.map_some
abbrev E6:=@beq_eq_false_iff_ne
abbrev dO:=@beq_iff_eq
abbrev eV:=@cond_false
abbrev bC:=@cond_true
abbrev fL:=@decide_eq_true
abbrev jA:=@decide_eq_true_eq
abbrev aA:=@if_neg
abbrev aP:=@if_pos
abbrev E7:=@of_decide_eq_true
inductive V where
 |undef
 |int (k:IntKind) (n:Int)
 |bool (b:Bool)
 |str (s:List UInt8)
 |b9
 |slice (tok:Option Nat) (sz:Nat) (es:List (List V))
 |e9 (sz:Nat) (es:List (List V))
 |dX (sz:Nat)
 |fx (sz:Nat)
 |agg (cs:List V)
 |tuple (vs:List V)
 |eI (row:List V) (off:Nat)
 |bG (id off:Nat)
 |bP (id off len:Nat)
 |fm (id s off len:Nat)
 |da (id s len:Nat)
 |gX (id s off len:Nat)
 |bI (id off:Nat)
 |fQ
 |fn (f:FuncId) (cap:List V)
 |fR
 |map (id:Nat)
 |fS
 deriving Inhabited
def jb(f:FuncId):FuncId:=f % 1000000
abbrev Sh:=List (Option Nat)
inductive aT where
 |cells (cs:List V)
 |map (es:List (V×V))
 deriving Inhabited
structure St where
 env:List (Nat×V)
 aW:List (Nat×List V)
 bf:List (Nat×Nat)
 ay:List aT
 deriving Inhabited
def look{α:Type}(s:Nat):List (Nat×α)→Option α
 |[]=>none
 |(k,v)::r=>bif k==s then some v else look s r
inductive bp where
 |t (s:Nat)
 |c (v:V)
 deriving Inhabited
def St.ev(S:St):bp→Option V
 |.t s=>look s S.env
 |.c v=>some v
def St.jI(S:St)(o:Option bp)(n:Nat):Option V :=
 match o with
 |some o=>S.ev o
 |none=>some (.int .i64 n)
def St.put(S:St)(d:Option Nat)(v:V):St :=
 match d with
 |some d=>{ S with env:=(d,v)::S.env }
 |none=>S
inductive jc where
 |loc (id:Nat)
 |ay
 |jJ
 deriving Inhabited
def jc.fits:jc→V→Bool
 |.loc i,.bG id _=>i==id
 |.ay,.bI _ _=>true
 |.jJ,.eI _ _=>true
 |_,_=>false
inductive VO where
 |mv (x:bp)
 |pick (c a b:bp)
 |obj (id:Nat) (cells:List V)
 |box (id:Nat) (x:bp)
 |tP (sh:Sh) (x:bp)
 |tQ (sh:Sh) (zero:List V)
 |tR
 |u6 (ag:Bool) (ks:List Nat) (zero:V) (ok:Bool) (x k:bp)
 |tS (ag:Bool) (ks:List Nat) (sh:Sh) (x k y:bp)
 |build (zero:List V) (parts:List (Nat×Nat×bp))
 |lit (tok:Option Nat) (sh:Sh) (zero:List V) (len:Nat) (parts:List (Nat×bp))
 |load (root:jc) (sz:Option Nat) (p:bp)
 |store (root:jc) (sh:Sh) (p x:bp)
 |rJ (cb:Nat) (p:bp)
 |xv (sz:Nat)
 |u7 (x:bp)
 |grow (f:FuncId) (id:Nat) (n:bp)
 |tT (id:Nat) (src:Option Nat) (x y:bp)
 |tU (x:bp)
 |u9 (neg:Bool) (x:bp)
 |tV (cb:Nat) (p x:bp)
 |sY (x:bp)
 |bin (op:BinOp) (x y:bp)
 |beq (neg:Bool) (x y:bp)
 |iu (neg:Bool) (ks:List Nat) (x y:bp)
 |un (op:UnOp) (x:bp)
 |conv (k:IntKind) (x:bp)
 |rM (off:Nat) (x:bp)
 |nx (arr:Option Nat) (sz:Nat) (x i:bp)
 |idx (n sz:Nat) (agg:Bool) (x i:bp)
 |field (off:Nat) (sz:Option Nat) (x:bp)
 |len (x:bp)
 |tW (x:bp)
 |app (cb:Nat) (src:Option Nat) (sh:Sh) (mx:Nat) (x y:bp)
 |sZ (new src:Nat) (oy:Option Nat) (sh:Sh) (x y:bp)
 |ext (x:bp) (i:Nat)
 |call (alone:Bool) (f:bp) (args:List (Sh×bp)) (reg:List (Nat×Nat))
 |vb (k:Nat) (f:FuncId) (id:Nat) (x:bp)
 |qE (f:bp) (args:List (Sh×bp))
 |qF (f:bp) (args:List (Sh×Sh×bp)) (ids:List Nat)
 |own (f:bp) (args:List (Sh×Sh×bp)) (ids:List Nat) (id pos:Nat)
 |qG (f:bp) (args:List (Sh×bp)) (id:Nat)
 |s6 (id:Nat) (zero:List V) (n:bp)
 |vd (sz:Nat) (x:bp) (lo hi:Option bp)
 |arr (n sz:Nat) (x:bp)
 |mm (max:Bool) (x y:bp)
 |tY (max:Bool) (x y z:bp)
 |vg (f:FuncId) (cap:List bp)
 deriving Inhabited
structure bA where
 dst:Option Nat
 op:VO
 guard:Option (Nat×Bool)
 deriving Inhabited
inductive gI where
 |norm (s cb sz:Nat)
 |nV (id off cb sz:Nat)
 |freeze (s:Nat) (sh:Sh)
 |IN (id back cb sz:Nat)
 |jd (a b:Nat)
 |IP (id off:Nat) (sh:Sh)
 |rP (s id sz:Nat)
 |share (s:Nat) (sh:Sh)
 |IQ (s:Nat) (je:List Sh)
 |E8 (id:Nat) (je:List Sh)
 |vh (id off a sz:Nat)
 |zD (a b id off:Nat)
 |zE (id off:Nat) (sh:Sh)
 deriving Inhabited
structure cX where
 e:List Nat
 o:List Nat
 t:List Nat
 deriving Inhabited
inductive VC where
 |skip
 |region (gh:List gI) (ids:List Nat) (ops:List bA) (keep:cX)
 |seq (a b:VC)
 |cond (c:bp) (a b:VC)
 |block (id:Nat) (a:VC)
 |loop (gh:List gI) (keep:cX) (a:VC)
 |exit (id:Nat)
 |ret
 |dead
 |A2 (gh:List gI)
 deriving Inhabited
inductive rQ where
 |t (s:Nat) (sh:Sh)
 |c (s:Nat) (agg:Bool) (sh:Sh)
 deriving Inhabited
structure bc where
 nparams:Nat
 body:VC
 results:List rQ
 defs:List FuncId:=[]
 split:Option Nat:=none
 deriving Inhabited
def V.cells:V→List V
 |.agg cs=>cs
 |v=>[v]
def IS(agg:Bool)(cs:List V):V :=
 match agg,cs with
 |false,[v]=>v
 |_,cs=>.agg cs
def V.plain:V→Bool
 |.int .. | .bool .. | .str .. | .b9 | .slice none _ _=>true
 |_=>false
def el(sh:Option Nat):V→Option V
 |.int k n=>some (.int k n)
 |.bool b=>some (.bool b)
 |.str s=>some (.str s)
 |.b9=>match sh with|some 0=>some .b9|some n=>some (.slice none n [])|none=>none
 |.slice _ n es=>some (.slice none n es)
 |.dX n=>some (.slice none n [])
 |.fx n=>some (.slice none n [])
 |_=>none
def my:Sh→List V→Option (List V)
 |[],[]=>some []
 |h::sh,v::vs=>match el h v,my sh vs with
  |some u,some us=>some (u::us)
  |_,_=>none
 |_,_=>none
def py(sh:Option Nat):V→Option V
 |.bI i o=>some (.bI i o)
 |.da i s n=>some (.da i s n)
 |.fQ=>some .fQ
 |.fn f c=>some (.fn f c)
 |.fR=>some .fR
 |.map i=>some (.map i)
 |.fS=>some .fS
 |v=>el sh v
def s7:Sh→List V→Option (List V)
 |[],[]=>some []
 |h::sh,v::vs=>match py h v,s7 sh vs with
  |some u,some us=>some (u::us)
  |_,_=>none
 |_,_=>none
def A3(sh:Option Nat):V→Option V
 |.b9=>match sh with|some (n+1)=>some (.e9 (n+1) [])|h=>py h .b9
 |.dX n=>some (.e9 n [])
 |v=>py sh v
def lW:Sh→List V→Option (List V)
 |[],[]=>some []
 |h::sh,v::vs=>match A3 h v,lW sh vs with
  |some u,some us=>some (u::us)
  |_,_=>none
 |_,_=>none
def V.iV:V→V
 |.e9 n es=>.slice none n es
 |v=>v
def V.kq:V→V
 |.agg cs=>.agg (cs.map V.iV)
 |v=>v.iV
def zF(sh:Sh):V→Option V
 |.agg cs=>match s7 sh cs with|some cs=>some (.agg cs)|none=>none
 |v=>match sh with | [h]=>py h v|_=>none
def V.cA(d:Nat):V→Bool
 |.slice (some t) _ _=>t==d
 |.bG i _=>i==d
 |.bP i _ _=>i==d
 |.fm i _ _ _=>i==d
 |.agg _=>true
 |.tuple _=>true
 |_=>false
def V.dv(d:Nat):V→Bool
 |.agg cs=>cs.any (V.cA d)
 |v=>v.cA d
def V.ch(d:Nat):V→Bool
 |.tuple vs=>vs.any (V.dv d)
 |v=>v.dv d
def V.cI:V→Bool
 |.undef | .agg _ | .tuple _=>false
 |_=>true
def lim:Nat:=4294967296
def E9(op:BinOp)(k:IntKind)(a b:Int):Option V :=
 match op with
 |.add=>some (.int k (k.wrap (a+b)))
 |.sub=>some (.int k (k.wrap (a-b)))
 |.mul=>some (.int k (k.wrap (a*b)))
 |.quo=>if b=0 then none else some (.int k (k.wrap (a.tdiv b)))
 |.rem=>if b=0 then none else some (.int k (a.tmod b))
 |.shr=>if b<0 then none else some (.int k (a.fdiv (2 ^ (min b.toNat k.bits))))
 |.eql=>some (.bool (a==b))
 |.neq=>some (.bool (a != b))
 |.lss=>some (.bool (decide (a<b)))
 |.leq=>some (.bool (decide (a≤b)))
 |.gtr=>some (.bool (decide (a>b)))
 |.geq=>some (.bool (decide (a≥b)))
 |_=>none
def V.bin(op:BinOp):V→V→Option V
 |.int k a,.int k' b=>bif decide (k=k') then E9 op k a b else none
 |_,_=>none
def jU:Nat→V→V→Option Bool
 |0,.int k a,.int k' b=>bif decide (k=k') then some (a==b) else none
 |1,.bool a,.bool b=>some (a==b)
 |2,.str a,.str b=>some (a==b)
 |_,_,_=>none
def eA:List Nat→List V→List V→Option Bool
 |[],_,_=>some true
 |k::ks,a::as,b::bs=>match jU k a b,eA ks as bs with
  |some p,some q=>some (p&&q)
  |_,_=>none
 |_,_,_=>none
def V.iu(neg:Bool)(ks:List Nat):V→V→Option V
 |.agg cs,.agg ds=>bif cs.length==ks.length&&ds.length==ks.length then match eA ks cs ds with
  |some b=>some (.bool (bif neg then !b else b))
  |none=>none
  else none
 |_,_=>none
def V.mz(ag:Bool)(ks:List Nat)(a b:V):Option Bool :=
 match ag with
 |true=>match a,b with
  |.agg cs,.agg ds=>bif cs.length==ks.length&&ds.length==ks.length then eA ks cs ds else none
  |_,_=>none
 |false=>match ks with
  |[k]=>jU k a b
  |_=>none
def mA(ag:Bool)(ks:List Nat)(k:V):List (V×V)→Nat→Option (Option (Nat×V))
 |[],_=>some none
 |(q,v)::es,i=>match V.mz ag ks k q with
  |some true=>some (some (i,v))
  |some false=>mA ag ks k es (i+1)
  |none=>none
def V.un(op:UnOp):V→Option V
 |.bool b=>match op with
  |.not=>some (.bool !b)
  |_=>none
 |.int k n=>match op with
  |.neg=>some (.int k (k.wrap (0-n)))
  |_=>none
 |_=>none
def St.mU(S:St):V→Option (List V×Nat)
 |.bG id off=>match look id S.aW with
  |some cs=>some (cs,off)
  |none=>none
 |.bI id off=>match S.ay[id]? with
  |some (.cells cs)=>some (cs,off)
  |_=>none
 |.eI row off=>some (row,off)
 |_=>none
def loadAt(sz:Option Nat)(cs:List V)(off:Nat):Option V :=
 match sz with
 |none=>cs[off]?
 |some n=>bif Nat.ble (off+n) cs.length then some (.agg ((cs.drop off).take n)) else none
def iF:List V→Nat→List V→List V
 |cs,_,[]=>cs
 |cs,off,v::vs=>iF (cs.set off v) (off+1) vs
def chunks(sz:Nat)(cs:List V):Nat→Nat→List (List V)
 |_,0=>[]
 |off,n+1=>(cs.drop off).take sz::chunks sz cs (off+sz) n
def kH(sh:Sh):List (List V)→Option (List (List V))
 |[]=>some []
 |r::rs=>match my sh r,kH sh rs with
  |some u,some us=>some (u::us)
  |_,_=>none
def rT(root:jc)(v:V):V :=
 match root with
 |.ay=>v.kq
 |_=>v
def St.take(S:St)(cb:Nat):V→Option (V×List (Nat×Nat)×Option (List aT))
 |.bI id off=>match S.ay[id]? with
  |some (.cells cs)=>match cs[off]? with
   |some (.e9 n es)=>some (.slice (some cb) n es,[(cb,es.length)],some (S.ay.set id (aT.cells (cs.set off (.slice none n es)))))
   |some v=>some (v.kq,[],none)
   |none=>none
  |_=>none
 |_=>none
def St.wG(S:St)(cb:Nat):V→V→Option (List (Nat×Nat)×List aT)
 |.bI id off,.slice (some f) n es=>match S.ay[id]?,(bif f==cb then look cb S.bf else none) with
  |some (.cells cs),some k=>bif k==es.length&&Nat.blt off cs.length then
    some ([(cb,k+1)],S.ay.set id (aT.cells (cs.set off (.e9 n es)))) else none
  |_,_=>none
 |_,_=>none
def St.rows(S:St)(sh:Sh):V→Option (List (List V))
 |.b9=>some []
 |.slice _ n es=>bif n==sh.length then some es else none
 |.dX _=>some []
 |.fx _=>some []
 |_=>none
def St.qH(S:St)(sh:Sh):V→Option (List (List V))
 |.bP id s len=>match look id S.aW with
  |some cs=>bif (s==sh.length)&&Nat.blt 0 sh.length&&Nat.ble (len*sh.length) cs.length then kH sh (chunks sh.length cs 0 len) else none
  |none=>none
 |_=>none
def St.ny(S:St)(oy:Option Nat)(sh:Sh)(v:V):Option (List (List V)) :=
 match oy with
 |none=>S.rows sh v
 |some j=>match v with
  |.bP i s n=>bif i==j then S.qH sh (.bP i s n) else none
  |v=>S.rows sh v
def oM(S:St):List bp→Option (List V)
 |[]=>some []
 |x::xs=>match S.ev x,oM S xs with
  |some v,some vs=>some (v::vs)
  |_,_=>none
def qI(S:St):List (Nat×Nat×bp)→List V→Option (List V)
 |[],cs=>some cs
 |(off,n,x)::ps,cs=>match S.ev x with
  |some v=>bif v.cells.length==n&&Nat.ble (off+n) cs.length&&v.cells.all V.cI then qI S ps (iF cs off v.cells) else none
  |none=>none
def tZ(S:St)(sh:Sh):List (Nat×bp)→List (List V)→Option (List (List V))
 |[],rs=>some rs
 |(i,x)::ps,rs=>match S.ev x with
  |some v=>match my sh v.cells with
   |some r=>bif Nat.blt i rs.length then tZ S sh ps (rs.set i r) else none
   |none=>none
  |none=>none
def St.xw(S:St)(src:Option Nat):V→Option (List V)
 |.b9=>some []
 |.dX _=>some []
 |.fx _=>some []
 |.slice _ n es=>bif n==1 then some es.flatten else none
 |.bP id s n=>match (match src with|some j=>look j S.aW|none=>none) with
  |some cs=>bif src==some id&&(s==1)&&Nat.ble n cs.length then some (cs.take n) else none
  |none=>none
 |.fm id s off n=>match (match src with|some j=>look j S.aW|none=>none) with
  |some cs=>bif src==some id&&(s==1)&&Nat.ble (off+n) cs.length then some ((cs.drop off).take n) else none
  |none=>none
 |_=>none
def gP:V→V
 |.slice _ n es=>.slice none n es
 |v=>v
def strip:V→V
 |.agg cs=>.agg (cs.map gP)
 |v=>gP v
def cR(reg:List (Nat×Nat)):Nat→List V→List V×List (Nat×Nat)
 |_,[]=>([],[])
 |i,v::vs =>
  let r:=cR reg (i+1) vs
  match v with
  |.slice (some _) n es=>match look i reg with
   |some f=>(.slice (some f) n es::r.1,(f,es.length)::r.2)
   |none=>(.slice none n es::r.1,r.2)
  |v=>(strip v::r.1,r.2)
def recv(reg:List (Nat×Nat)):V→V×List (Nat×Nat)
 |.tuple vs=>((.tuple (cR reg 0 vs).1),(cR reg 0 vs).2)
 |.agg cs=>((.agg (cR reg 0 cs).1),(cR reg 0 cs).2)
 |v=>match cR reg 0 [v] with
  |([u],ts)=>(u,ts)
  |_=>(.undef,[])
def mB(S:St):List (Sh×bp)→Option (List V)
 |[]=>some []
 |(sh,x)::xs=>match S.ev x with
  |some v=>match zF sh v,mB S xs with
   |some u,some us=>some (u::us)
   |_,_=>none
  |none=>none
def oN(sh:Sh):V→Option V
 |.agg cs=>match my sh cs with|some cs=>some (.agg cs)|none=>none
 |.fn f []=>some (.fn f [])
 |v=>match sh with | [h]=>el h v|_=>none
def mC(S:St):List (Sh×bp)→Option (List V)
 |[]=>some []
 |(sh,x)::xs=>match S.ev x with
  |some v=>match oN sh v,mC S xs with
   |some u,some us=>some (u::us)
   |_,_=>none
  |none=>none
def St.A4(S:St)(ids:List Nat)(rs:Sh)(id s n:Nat):Option V :=
 bif ids.contains id then (match S.qH rs (.bP id s n) with|some es=>some (V.slice none rs.length es)|none=>none) else none
def St.zG(S:St)(ids:List Nat)(rs:Sh)(id s off n:Nat):Option V :=
 bif ids.contains id then (match look id S.aW with
  |some cs=>bif (s==rs.length)&&Nat.blt 0 rs.length&&Nat.ble (off*rs.length+n*rs.length) cs.length then (match kH rs (chunks rs.length cs (off*rs.length) n) with|some es=>some (V.slice none rs.length es)|none=>none) else none
  |none=>none) else none
def kW(S:St)(ids:List Nat):List (Sh×Sh×bp)→Option (List V)
 |[]=>some []
 |(rs,sh,x)::xs=>match (match S.ev x with
   |some (.bP id s n)=>S.A4 ids rs id s n
   |some (.fm id s off n)=>S.zG ids rs id s off n
   |some v=>oN sh v
   |none=>none),kW S ids xs with
  |some u,some us=>some (u::us)
  |_,_=>none
def V.iv:V→Bool
 |.slice .. => true
 |v=>v.plain
def V.iG:V→Bool
 |.agg cs=>cs.all V.iv
 |v=>v.iv
def V.lone:V→Bool
 |.tuple vs=>vs.all V.iG
 |v=>v.iG
def V.sc:V→Bool
 |.int .. | .bool .. | .str .. => true
 |_=>false
def V.jV:V→Bool
 |.slice (some _) n es=>es.all fun r=>r.length==n&&r.all V.sc
 |v=>v.sc
def V.pz:V→Bool
 |.tuple vs=>vs.all V.sc
 |.agg cs=>cs.all V.sc
 |v=>v.sc
def mV(id:Nat):Nat→List V→Option (List V×Option (List V))
 |_,[]=>none
 |0,v::vs=>match v with
  |.slice (some _) n es=>bif es.all (fun r=>r.length==n&&r.all V.sc)&&vs.all V.jV then
    (bif es.isEmpty then some (.dX n::vs.map strip,none) else some (.bP id n es.length::vs.map strip,some es.flatten)) else none
  |_=>none
 |p+1,v::vs=>bif v.jV then match mV id p vs with
  |some (us,o)=>some (strip v::us,o)
  |none=>none
  else none
def jW(id pos:Nat):V→Option (V×Option (List V))
 |.tuple vs=>match mV id pos vs with
  |some (us,o)=>some (.tuple us,o)
  |none=>none
 |v=>match mV id pos [v] with
  |some ([u],o)=>some (u,o)
  |_=>none
def A5:List V→Option (List V)
 |[]=>some []
 |.bI i o::vs=>match A5 vs with
  |some us=>some (.bI i o::us)
  |none=>none
 |_=>none
abbrev br:=FuncId→List V→List aT→Option (V×List aT)
def St.fits(S:St)(root:jc)(x:bp):Bool :=
 match S.ev x with
 |some a=>root.fits a
 |none=>false
def A6(x:Int):List Int→List Int
 |[]=>[x]
 |y::ys=>bif decide (x≤y) then x::y::ys else y::A6 x ys
def nz:List Int→List Int
 |[]=>[]
 |x::xs=>A6 x (nz xs)
def dedup:List Int→List Int
 |[]=>[]
 |[x]=>[x]
 |x::y::r=>bif x==y then dedup (y::r) else x::dedup (y::r)
def ua(k:Nat)(zs:List Int):List Int :=
 match k with
 |0=>nz zs
 |_=>dedup zs++List.replicate (zs.length-(dedup zs).length) 0
def A7(k id:Nat)(zs:List Int):V :=
 match k with
 |0=>.tuple []
 |_=>.bP id 1 (dedup zs).length
def wH:List V→Option (List Int)
 |[]=>some []
 |.int .i64 n::vs=>match wH vs with
  |some zs=>some (n::zs)
  |none=>none
 |_=>none
def St.mut(S:St)(k i:Nat)(d:Option Nat)(v:Option V):Option St :=
 match v with
 |some (.bP id s n)=>match look i S.aW with
  |some cs=>bif id==i&&(s==1)&&Nat.ble n cs.length&&Nat.ble n lim&&Nat.blt 0 n then match wH (cs.take n) with
   |some zs=>some ({ S with aW:=(i,(ua k zs).map (V.int .i64)++cs.drop n)::S.aW }.put d (A7 k i zs))
   |none=>none
   else none
  |none=>none
 |_=>none
def V.part:V→Option (Nat×Nat×Nat)
 |.da i 1 n=>some (i,0,n)
 |.gX i 1 off n=>some (i,off,n)
 |_=>none
def Fa(G:List aT):Option (Nat×Nat×Nat)→Option (List aT)
 |some (i,off,n)=>match G[i]? with
  |some (.cells cs)=>bif Nat.ble (off+n) cs.length&&Nat.blt 0 n then some (G.set i (.cells (iF cs off (List.replicate n (.int .i64 0))))) else none
  |_=>none
 |none=>none
open Classical in
noncomputable def rd{α:Type}(G G':List aT)(x:α):Option α:=if G'=G then some x else none
noncomputable def VO.run(C:br)(d:Option Nat)(S:St):VO→Option St
 |.mv x=>match S.ev x with
  |some v=>some (S.put d v)
  |none=>none
 |.pick c a b=>match S.ev c with
  |some (.bool t)=>match bif t then S.ev a else S.ev b with
   |some v=>some (S.put d v)
   |none=>none
  |_=>none
 |.obj id cells=>some ({ S with aW:=(id,cells)::S.aW }.put d (.bG id 0))
 |.box id x=>match S.ev x with
  |some v=>bif v.cells.all V.cI then some ({ S with aW:=(id,v.cells)::S.aW }.put d (.bG id 0)) else none
  |none=>none
 |.tP sh x=>match S.ev x with
  |some v=>match lW sh v.cells with
   |some cs=>some ({ S with ay:=S.ay++[aT.cells cs] }.put d (.bI S.ay.length 0))
   |none=>none
  |none=>none
 |.tQ sh zero=>match lW sh zero with
  |some cs=>some ({ S with ay:=S.ay++[aT.cells cs] }.put d (.bI S.ay.length 0))
  |none=>none
 |.tR=>some ({ S with ay:=S.ay++[aT.map []] }.put d (.map S.ay.length))
 |.u6 ag ks zero ok x k=>match S.ev x,S.ev k with
  |some (.map i),some kv=>match S.ay[i]?,V.mz ag ks kv kv with
   |some (.map es),some _=>match mA ag ks kv es 0 with
    |some (some (_,v))=>some (S.put d (bif ok then .tuple [v,.bool true] else v))
    |some none=>some (S.put d (bif ok then .tuple [zero,.bool false] else zero))
    |none=>none
   |_,_=>none
  |_,_=>none
 |.tS ag ks sh x k y=>match S.ev x,S.ev k,S.ev y with
  |some (.map i),some kv,some v=>match S.ay[i]?,V.mz ag ks kv kv,zF sh v with
   |some (.map es),some _,some u=>match mA ag ks kv es 0 with
    |some (some (j,_))=>some { S with ay:=S.ay.set i (aT.map (es.set j (kv,u))) }
    |some none=>some { S with ay:=S.ay.set i (aT.map (es++[(kv,u)])) }
    |none=>none
   |_,_,_=>none
  |_,_,_=>none
 |.build zero parts=>match qI S parts zero with
  |some cs=>some (S.put d (.agg cs))
  |none=>none
 |.lit tok sh zero ln parts=>match tZ S sh parts (List.replicate ln zero) with
  |some rs=>match tok with
   |some f=>some ({ S with bf:=(f,ln)::S.bf }.put d (.slice (some f) sh.length rs))
   |none=>some (S.put d (.slice none sh.length rs))
  |none=>none
 |.load root sz p=>match S.ev p with
  |some a=>bif root.fits a then match S.mU a with
   |some (cs,off)=>match loadAt sz cs off with
    |some v=>some (S.put d (rT root v))
    |none=>none
   |none=>none
   else none
  |none=>none
 |.rJ cb p=>match S.ev p with
  |some a=>match S.take cb a with
   |some (v,ts,G)=>some ({ S with bf:=ts++S.bf,ay:=(match G with|some G=>G|none=>S.ay) }.put d v)
   |none=>none
  |none=>none
 |.tV cb p x=>match S.ev p,S.ev x with
  |some a,some v=>match S.wG cb a v with
   |some (ts,G)=>some { S with bf:=ts++S.bf,ay:=G }
   |none=>none
  |_,_=>none
 |.store root sh p x=>bif S.fits root p then match S.ev p,S.ev x with
  |some (.bG id off),some v=>match look id S.aW with
   |some cs=>bif v.cells.length==sh.length&&Nat.ble (off+sh.length) cs.length&&v.cells.all V.cI&&Nat.blt 0 sh.length then
     some { S with aW:=(id,iF cs off v.cells)::S.aW } else none
   |none=>none
  |some (.bI id off),some v=>match S.ay[id]? with
   |some (.cells cs)=>match lW sh v.cells with
    |some vs=>bif Nat.ble (off+vs.length) cs.length&&Nat.blt 0 vs.length then some { S with ay:=S.ay.set id (aT.cells (iF cs off vs)) } else none
    |none=>none
   |_=>none
  |_,_=>none
  else none
 |.sY x=>match S.ev x with
  |some (.bG i o)=>some (S.put d (.bG i o))
  |some (.bI i o)=>some (S.put d (.bI i o))
  |some (.eI r o)=>some (S.put d (.eI r o))
  |_=>none
 |.bin op x y=>match S.ev x,S.ev y with
  |some a,some b=>match V.bin op a b with
   |some v=>some (S.put d v)
   |none=>none
  |_,_=>none
 |.beq neg x y=>match S.ev x,S.ev y with
  |some (.bool a),some (.bool b)=>some (S.put d (.bool (bif neg then a != b else a==b)))
  |_,_=>none
 |.iu neg ks x y=>match S.ev x,S.ev y with
  |some a,some b=>match V.iu neg ks a b with
   |some v=>some (S.put d v)
   |none=>none
  |_,_=>none
 |.un op x=>match S.ev x with
  |some a=>match V.un op a with
   |some v=>some (S.put d v)
   |none=>none
  |none=>none
 |.conv k x=>match S.ev x with
  |some (.int _ n)=>some (S.put d (.int k (k.wrap n)))
  |_=>none
 |.rM off x=>match S.ev x with
  |some (.bG i o)=>some (S.put d (.bG i (o+off)))
  |some (.bI i o)=>some (S.put d (.bI i (o+off)))
  |some (.eI r o)=>some (S.put d (.eI r (o+off)))
  |_=>none
 |.nx (some n) sz x i=>match S.ev x,S.ev i with
  |some a,some (.int _ k)=>bif decide (0≤k)&&decide (k<n) then match a with
    |.bG i o=>some (S.put d (.bG i (o+k.toNat*sz)))
    |.bI i o=>some (S.put d (.bI i (o+k.toNat*sz)))
    |.eI r o=>some (S.put d (.eI r (o+k.toNat*sz)))
    |_=>none
   else none
  |_,_=>none
 |.nx none sz x i=>match S.ev x,S.ev i with
  |some (.slice _ m es),some (.int _ k)=>bif decide (0≤k)&&(m==sz) then match es[k.toNat]? with
    |some r=>some (S.put d (.eI r 0))
    |none=>none
   else none
  |some (.bP id s ln),some (.int _ k)=>bif decide (0≤k)&&decide (k<ln)&&(s==sz) then some (S.put d (.bG id (k.toNat*sz))) else none
  |some (.da id s ln),some (.int _ k)=>bif decide (0≤k)&&decide (k<ln)&&(s==sz) then some (S.put d (.bI id (k.toNat*sz))) else none
  |_,_=>none
 |.idx n sz agg x i=>match S.ev x,S.ev i with
  |some (.agg cs),some (.int _ k)=>bif decide (0≤k)&&decide (k<n) then
    match loadAt (bif agg then some sz else none) cs (k.toNat*sz) with
    |some v=>some (S.put d v)
    |none=>none
   else none
  |_,_=>none
 |.field off sz x=>match S.ev x with
  |some (.agg cs)=>match loadAt sz cs off with
   |some v=>some (S.put d v)
   |none=>none
  |_=>none
 |.xv n=>some (S.put d (.dX n))
 |.u9 neg x=>match S.ev x with
  |some .b9=>some (S.put d (.bool !neg))
  |some (.fx _)=>some (S.put d (.bool neg))
  |some (.slice _ _ (_::_))=>some (S.put d (.bool neg))
  |_=>none
 |.len x=>match S.ev x with
  |some .b9=>some (S.put d (.int .i64 0))
  |some (.dX _)=>some (S.put d (.int .i64 0))
  |some (.fx _)=>some (S.put d (.int .i64 0))
  |some (.slice _ _ es)=>some (S.put d (.int .i64 es.length))
  |some (.bP _ _ n)=>some (S.put d (.int .i64 n))
  |some (.da _ _ n)=>some (S.put d (.int .i64 n))
  |_=>none
 |.grow _ id n=>match S.ev n with
  |some (.int .i64 k)=>bif decide (0≤k)&&decide (k≤lim) then some ({ S with aW:=(id,[])::S.aW }.put d (.bP id 1 0)) else none
  |_=>none
 |.u7 x=>match S.ev x with
  |some .b9=>some (S.put d (.int .i64 0))
  |_=>none
 |.tU x=>match S.ev x with
  |some v=>match Fa S.ay v.part with
   |some G=>some ({ S with ay:=G }.put d (.tuple []))
   |none=>none
  |none=>none
 |.tT id src x y=>match S.ev x,S.ev y with
  |some (.bP i s n),some b=>match look id S.aW,S.xw src b with
   |some cs,some us=>bif i==id&&(s==1)&&Nat.ble n cs.length&&us.all V.sc then
     some ({ S with aW:=(id,us.take n++cs.drop (us.take n).length)::S.aW }.put d (.int .i64 (us.take n).length)) else none
   |_,_=>none
  |_,_=>none
 |.tW x=>match S.ev x with
  |some (.str s)=>some (S.put d (.int .i64 s.length))
  |_=>none
 |.app cb src sh mx x y=>match S.ev x,S.ev y with
  |some .b9,some b=>match S.rows sh b with
   |some ys=>bif Nat.ble ys.length mx then some ({ S with bf:=(cb,ys.length)::S.bf }.put d (.slice (some cb) sh.length ys)) else none
   |none=>none
  |some (.dX _),some b=>match S.rows sh b with
   |some ys=>bif Nat.ble ys.length mx then some ({ S with bf:=(cb,ys.length)::S.bf }.put d (.slice (some cb) sh.length ys)) else none
   |none=>none
  |some (.slice (some f) n es),some b=>match S.rows sh b with
   |some ys=>match (bif src==some f then look f S.bf else none) with
    |some k=>bif k==es.length&&(n==sh.length)&&Nat.ble (es.length+ys.length) mx then
      some ({ S with bf:=(f,es.length+ys.length)::S.bf }.put d (.slice (some f) n (es++ys))) else none
    |none=>none
   |none=>none
  |_,_=>none
 |.sZ new src oy sh x y=>match S.ev x,S.ev y with
  |some .b9,some b=>match S.ny oy sh b with
   |some ys=>bif ys.isEmpty then some (S.put d .b9) else
     bif Nat.ble ys.length lim then some ({ S with aW:=(new,ys.flatten)::S.aW }.put d (.bP new sh.length ys.length)) else none
   |none=>none
  |some (.dX n),some b=>match S.ny oy sh b with
   |some ys=>bif ys.isEmpty then some (S.put d (.dX n)) else
     bif Nat.ble ys.length lim then some ({ S with aW:=(new,ys.flatten)::S.aW }.put d (.bP new sh.length ys.length)) else none
   |none=>none
  |some (.bP id s ln),some b=>match S.ny oy sh b,look src S.aW with
   |some ys,some cs=>bif (id==src)&&(s==sh.length)&&(cs.length==ln*s)&&Nat.ble (ln+ys.length) lim then
     some ({ S with aW:=(new,cs++ys.flatten)::S.aW.filter fun p => !(p.1==src) }.put d (.bP new sh.length (ln+ys.length))) else none
   |_,_=>none
  |_,_=>none
 |.ext x i=>match S.ev x with
  |some (.tuple vs)=>match vs[i]? with
   |some v=>some (S.put d v)
   |none=>none
  |_=>none
 |.call false f args reg=>match S.ev f,mB S args with
  |some (.fn g cap),some vs=>match C g (vs++cap) S.ay with
   |some (r,G)=>some ({ S with ay:=G,bf:=(recv reg r).2++S.bf }.put d (recv reg r).1)
   |none=>none
  |_,_=>none
 |.call true f args reg=>match S.ev f,mC S args with
  |some (.fn g []),some vs=>match C g vs [] with
   |some (r,_)=>bif r.lone then some ({ S with bf:=(recv reg r).2++S.bf }.put d (recv reg r).1) else none
   |none=>none
  |_,_=>none
 |.qE f args=>match S.ev f,mB S args with
  |some (.fn g cap),some vs=>match C g (vs++cap) S.ay with
   |some (r,G)=>rd S.ay G (S.put d (recv [] r).1)
   |none=>none
  |_,_=>none
 |.vb k _ id x=>S.mut k id d (S.ev x)
 |.qF f args ids=>match S.ev f,kW S ids args with
  |some (.fn g []),some vs=>match C g vs [] with
   |some (r,_)=>bif r.pz then some (S.put d r) else none
   |none=>none
  |_,_=>none
 |.own f args ids id pos=>match S.ev f,kW S ids args with
  |some (.fn g []),some vs=>match C g vs [] with
   |some (r,_)=>match jW id pos r with
    |some (v,some cs)=>some ({ S with aW:=(id,cs)::S.aW }.put d v)
    |some (v,none)=>some (S.put d v)
    |none=>none
   |none=>none
  |_,_=>none
 |.qG f args id=>match S.ev f,mC S args with
  |some (.fn g []),some vs=>match C g vs [] with
   |some (r,_)=>match jW id 0 r with
    |some (.bP i n ln,some cs)=>bif i==id&&Nat.blt 0 cs.length&&Nat.blt 0 ln&&cs.all V.sc then some ({ S with ay:=S.ay++[aT.cells cs] }.put d (.da S.ay.length n ln)) else none
    |some (.dX n,none)=>some ({ S with ay:=S.ay++[aT.cells []] }.put d (.da S.ay.length n 0))
    |_=>none
   |none=>none
  |_,_=>none
 |.s6 id zero n=>match S.ev n with
  |some (.int _ k)=>bif decide (0≤k)&&decide (k≤lim) then
    some ({ S with aW:=(id,(List.replicate k.toNat zero).flatten)::S.aW }.put d (.bP id zero.length k.toNat)) else none
  |_=>none
 |.vd sz x lo hi=>match S.ev x with
  |some (.slice _ m es) =>
   match S.jI lo 0,S.jI hi es.length with
   |some (.int _ a),some (.int _ b)=>bif decide (0≤a)&&decide (a≤b)&&decide (b≤es.length)&&(m==sz) then
     some (S.put d (.slice none sz ((es.take b.toNat).drop a.toNat))) else none
   |_,_=>none
  |some .b9 =>
   match S.jI lo 0,S.jI hi 0 with
   |some (.int _ a),some (.int _ b)=>bif decide (a=0)&&decide (b=0) then some (S.put d .b9) else none
   |_,_=>none
  |some (.bP id s ln) =>
   match S.jI lo 0,S.jI hi ln with
   |some (.int _ a),some (.int _ b)=>bif decide (0≤a)&&decide (a≤b)&&decide (b≤ln)&&(s==sz) then
     bif decide (a=0) then some (S.put d (.bP id s b.toNat)) else bif decide (a<ln) then some (S.put d (.fm id s a.toNat (b-a).toNat)) else none
     else none
   |_,_=>none
  |some (.da id s ln) =>
   match S.jI lo 0,S.jI hi ln with
   |some (.int _ a),some (.int _ b)=>bif decide (0≤a)&&decide (a≤b)&&decide (b≤ln)&&(s==sz) then
     bif decide (a=0) then some (S.put d (.da id s b.toNat)) else bif decide (a<ln) then some (S.put d (.gX id s a.toNat (b-a).toNat)) else none
     else none
   |_,_=>none
  |_=>none
 |.arr n sz x=>match S.ev x with
  |some (.bG id 0)=>some (S.put d (.fm id sz 0 n))
  |_=>none
 |.tY mx x y z=>match S.ev x,S.ev y,S.ev z with
  |some (.int k a),some (.int _ b),some (.int _ c)=>some (S.put d (.int k (bif mx then max (max a b) c else min (min a b) c)))
  |_,_,_=>none
 |.mm mx x y=>match S.ev x,S.ev y with
  |some (.int k a),some (.int _ b)=>some (S.put d (.int k (bif mx then max a b else min a b)))
  |_,_=>none
 |.vg f cap=>match oM S cap with
  |some vs=>match A5 vs with
   |some us=>some (S.put d (.fn f us))
   |none=>none
  |none=>none
noncomputable def bA.run(C:br)(o:bA)(S:St):Option St :=
 match o.guard with
 |none=>o.op.run C o.dst S
 |some (g,want)=>match look g S.env with
  |some (.bool b)=>bif b==want then o.op.run C o.dst S else some (S.put o.dst .undef)
  |some .undef=>some (S.put o.dst .undef)
  |_=>none
noncomputable def gQ(C:br):List bA→St→Option St
 |[],S=>some S
 |o::os,S=>match o.run C S with
  |some S'=>gQ C os S'
  |none=>none
def ub{α:Type}(env:List (Nat×α)):List Nat→List (Nat×α)
 |[]=>[]
 |s::r=>match look s env with
  |some v=>(s,v)::ub env r
  |none=>ub env r
def St.keep(S:St)(k:cX):St :=
 {env:=ub S.env k.e,aW:=ub S.aW k.o,bf:=ub S.bf k.t,ay:=S.ay }
def St.clean(S:St):List Nat→Option St
 |[]=>some S
 |d::ds =>
  let env:=S.env.filter fun p => !(p.1==d)
  let aW:=S.aW.filter fun p => !(p.1==d)
  let bf:=S.bf.filter fun p => !(p.1==d)
  bif env.all (fun p => !p.2.ch d)&&aW.all (fun p=>p.2.all fun v => !v.cA d) then St.clean { env,aW,bf,ay:=S.ay } ds else none
def V.forget(cb:Nat):V→V
 |.slice (some f) n es=>bif f==cb then .slice none n es else .slice (some f) n es
 |v=>v
def V.jd(a b:Nat):V→V
 |.bP i s n=>bif i==a then .bP b s n else .bP i s n
 |v=>v
def St.nV(S:St)(id off cb sz:Nat):Option St :=
 match look id S.aW with
  |some cs=>match cs[off]? with
   |some .b9=>match St.clean S [cb] with
    |some S=>match look id S.aW with
     |some cs=>some { S with aW:=(id,cs.set off (.slice (some cb) sz []))::S.aW,bf:=(cb,0)::S.bf }
     |none=>none
    |none=>none
   |_=>some S
  |none=>some S
def St.rP(S:St)(s id sz:Nat):Option St :=
 match St.clean { S with env:=S.env.filter fun p => !(p.1==s) } [id] with
 |some S=>some { S with env:=(s,.bP id sz 0)::S.env,aW:=(id,[])::S.aW }
 |none=>none
def St.share(S:St)(s n:Nat)(es:List (List V)):St :=
 {S with env:=(s,.da S.ay.length n es.length)::S.env,ay:=S.ay++[aT.cells es.flatten] }
def St.CM(G:List aT)(je:List Sh):V→Option (V×List Sh×List aT)
 |.da i n len=>match je,G[i]? with
  |sh::je,some (.cells cs)=>bif n==sh.length&&Nat.blt 0 n&&Nat.ble (len*n) cs.length then match kH sh (chunks sh.length (cs.map V.iV) 0 len) with
   |some es=>some (.slice none n es,je,G.set i (.cells []))
   |none=>none
   else none
  |_,_=>none
 |v=>some (v,je,G)
def vi:List aT→List Sh→List V→Option (List V×List aT)
 |G,_,[]=>some ([],G)
 |G,je,v::vs=>match St.CM G je v with
  |some (u,je,G)=>match vi G je vs with
   |some (us,G)=>some (u::us,G)
   |none=>none
  |none=>none
def St.vh(S:St)(id off a sz:Nat):Option St :=
 match look id S.aW with
 |some cs=>match cs[off]? with
  |some .b9=>match St.clean S [a] with
   |some S=>match look id S.aW with
    |some cs=>some { S with aW:=(id,cs.set off (.bP a sz 0))::(a,[])::S.aW }
    |none=>none
   |none=>none
  |_=>some S
 |none=>some S
def St.zD(S:St)(a b id off:Nat):Option St :=
 match look id S.aW with
 |some ds=>match ds[off]? with
  |some (.bP i s n)=>bif i==a && !(id==a) then (match St.clean S [b] with
   |some S=>match look a S.aW,look id S.aW with
    |some cs,some ds=>some { S with aW:=(id,ds.set off (.bP b s n))::(b,cs)::(S.aW.filter fun p => !(p.1==id)).filter fun p => !(p.1==a) }
    |_,_=>none
   |none=>none) else some S
  |_=>some S
 |none=>some S
def St.zE(S:St)(id off:Nat)(sh:Sh):Option St :=
 match look id S.aW with
 |some ds=>match ds[off]? with
  |some (.bP a s n)=>bif n==0 then some { S with aW:=(id,ds.set off (.slice none sh.length []))::S.aW } else
   match S.qH sh (.bP a s n),St.clean { S with aW:=S.aW.filter fun p => !(p.1==id) } [a] with
   |some es,some S=>bif a==id then none else some { S with aW:=(id,ds.set off (.da S.ay.length sh.length n))::S.aW,ay:=S.ay++[aT.cells es.flatten] }
   |_,_=>none
  |_=>some S
 |none=>some S
def gI.run(S:St):gI→Option St
 |.vh id off a sz=>S.vh id off a sz
 |.zD a b id off=>S.zD a b id off
 |.zE id off sh=>S.zE id off sh
 |.rP s id sz=>match look s S.env with
  |some .b9=>S.rP s id sz
  |some (.dX _)=>S.rP s id sz
  |_=>some S
 |.share s sh=>match look s S.env with
  |some (.bP id n len)=>match S.qH sh (.bP id n len),St.clean { S with env:=S.env.filter fun p => !(p.1==s) } [id] with
   |some es,some S=>some (S.share s sh.length es)
   |_,_=>none
  |some .b9=>some (S.share s sh.length [])
  |some (.dX _)=>some (S.share s sh.length [])
  |_=>none
 |.IQ s je=>match look s S.env with
  |some (.agg cs)=>match vi S.ay je cs with
   |some (us,G)=>some { S with env:=(s,.agg us)::S.env,ay:=G }
   |none=>none
  |some v=>match St.CM S.ay je v with
   |some (u,_,G)=>some { S with env:=(s,u)::S.env,ay:=G }
   |none=>none
  |none=>none
 |.E8 id je=>match look id S.aW with
  |some cs=>match vi S.ay je cs with
   |some (us,G)=>some { S with aW:=(id,us)::S.aW.filter fun p => !(p.1==id),ay:=G }
   |none=>none
  |none=>some S
 |.norm s cb sz=>match look s S.env with
  |some .b9=>match St.clean { S with env:=S.env.filter fun p => !(p.1==s) } [cb] with
   |some S=>some { S with env:=(s,.slice (some cb) sz [])::S.env,bf:=(cb,0)::S.bf }
   |none=>none
  |some (.dX _)=>match St.clean { S with env:=S.env.filter fun p => !(p.1==s) } [cb] with
   |some S=>some { S with env:=(s,.slice (some cb) sz [])::S.env,bf:=(cb,0)::S.bf }
   |none=>none
  |_=>some S
 |.nV id off cb sz=>S.nV id off cb sz
 |.freeze s sh=>match look s S.env with
  |some (.bP id off len)=>match S.qH sh (.bP id off len) with
   |some es=>some { S with env:=(s,.slice none sh.length es)::S.env,aW:=S.aW.filter fun p => !(p.1==id) }
   |none=>none
  |_=>some S
 |.IN id back cb sz=>match look id S.aW with
  |some cs=>match cs[cs.length-back]? with
   |some .b9=>St.nV { S with aW:=(id,cs.map (V.forget cb))::S.aW.filter fun p => !(p.1==id) } id (cs.length-back) cb sz
   |_=>some S
  |none=>some S
 |.IP id off sh=>match look id S.aW with
  |some cs=>match cs[off]? with
   |some (.bP i s n)=>match S.qH sh (.bP i s n) with
    |some es=>bif i==id then none else some { S with aW:=(id,cs.set off (.slice none sh.length es))::(S.aW.filter fun p => !(p.1==i)).filter fun p => !(p.1==id) }
    |none=>none
   |_=>some S
  |none=>some S
 |.jd a b=>match St.clean S [b] with
  |some S=>match look a S.aW with
   |some cs=>some { S with env:=S.env.map (fun p=>(p.1,V.jd a b p.2)),aW:=(b,cs)::S.aW.filter fun p => !(p.1==a) }
   |none=>some S
  |none=>none
def nA:List gI→St→Option St
 |[],S=>some S
 |g::gs,S=>match g.run S with
  |some S=>nA gs S
  |none=>none
inductive oO where
 |normal
 |exit (id:Nat)
 |ret
 deriving Inhabited
def iter(body:St→Option (oO×St)):Nat→St→Option (oO×St)
 |0,_=>none
 |n+1,S=>match body S with
  |some (.normal,S')=>iter body n S'
  |some (.exit i,S')=>some (.exit i,S')
  |some (.ret,S')=>some (.ret,S')
  |none=>none
noncomputable def VC.run(C:br)(n:Nat):VC→St→Option (oO×St)
 |.skip,S=>some (.normal,S)
 |.region gh ids ops keep,S=>match nA gh S with
  |some S=>match S.clean ids with
   |some S=>match gQ C ops S with
    |some S=>some (.normal,S.keep keep)
    |none=>none
   |none=>none
  |none=>none
 |.seq a b,S=>match VC.run C n a S with
  |some (.normal,S')=>VC.run C n b S'
  |some (.exit i,S')=>some (.exit i,S')
  |some (.ret,S')=>some (.ret,S')
  |none=>none
 |.cond c a b,S=>match S.ev c with
  |some (.bool t)=>bif t then VC.run C n a S else VC.run C n b S
  |_=>none
 |.block id a,S=>match VC.run C n a S with
  |some (.normal,S')=>some (.normal,S')
  |some (.exit i,S')=>bif i==id then some (.normal,S') else some (.exit i,S')
  |some (.ret,S')=>some (.ret,S')
  |none=>none
 |.loop gh keep a,S=>match nA gh S with
  |some S=>iter (fun S=>VC.run C n a (S.keep keep)) n S
  |none=>none
 |.exit id,S=>some (.exit id,S)
 |.dead,_=>none
 |.ret,S=>some (.ret,S)
 |.A2 gh,S=>match nA gh S with
  |some S=>some (.ret,S)
  |none=>none
def zH(S:St)(sh:Option Nat)(used:List Nat):V→Option (V×List Nat)
 |.b9=>match sh with
  |some n=>some (.slice (some 0) n [],used)
  |none=>none
 |.dX n=>some (.slice (some 0) n [],used)
 |.slice (some f) n es=>match look f S.bf with
  |some k=>bif k==es.length && !used.contains f then some (.slice (some 0) n es,f::used) else some (.slice none n es,used)
  |none=>some (.slice none n es,used)
 |.slice none n es=>some (.slice none n es,used)
 |v=>match py sh v with
  |some v=>some (v,used)
  |none=>none
def mW(S:St):Sh→List Nat→List V→Option (List V×List Nat)
 |[],used,[]=>some ([],used)
 |h::sh,used,v::vs=>match zH S h used v with
  |some (u,used)=>match mW S sh used vs with
   |some (us,used)=>some (u::us,used)
   |none=>none
  |none=>none
 |_,_,_=>none
def zI(S:St)(used:List Nat):rQ→Option (V×List Nat)
 |.t s sh=>match look s S.env with
  |some (.agg cs)=>match mW S sh used cs with
   |some (us,used)=>some (.agg us,used)
   |none=>none
  |some v=>match sh with
   |[h]=>zH S h used v
   |_=>none
  |none=>none
 |.c s agg sh=>match look s S.env with
  |some (.bG id 0)=>match look id S.aW with
   |some cs=>match mW S sh used cs with
    |some (us,used)=>some (IS agg us,used)
    |none=>none
   |none=>none
  |_=>none
def vj(S:St):List Nat→List rQ→Option (List V)
 |_,[]=>some []
 |used,r::rs=>match zI S used r with
  |some (v,used)=>match vj S used rs with
   |some vs=>some (v::vs)
   |none=>none
  |none=>none
def vk(S:St)(rs:List rQ):Option V :=
 match vj S [] rs with
 |some [v]=>some v
 |some vs=>some (.tuple vs)
 |none=>none
def pA:Nat→List V→List (Nat×V)
 |_,[]=>[]
 |i,v::vs=>(i,v)::pA (i+1) vs
noncomputable def bc.call(C:br)(n:Nat)(f:bc)(args:List V)(G:List aT):Option (V×List aT) :=
 bif args.length==f.nparams then
  match VC.run C n f.body { env:=pA 0 args,aW:=[],bf:=[],ay:=G } with
  |some (.normal,S)|some (.ret,S)=>match vk S f.results with
   |some v=>some (v,S.ay)
   |none=>none
  |_=>none
 else none
def pB(C:br)(args:List V):List FuncId→List aT→Option (List aT)
 |[],G=>some G
 |f::fs,G=>match C f args G with
  |some (_,G')=>pB C args fs G'
  |none=>none
def wrap(C:br)(vf:bc)(args:List V)(o:Option (V×List aT)):Option (V×List aT) :=
 match o with
 |none=>none
 |some (r,G)=>match vf.defs with
  |[]=>some (r,G)
  |fs=>match args with
   |[.bI _ _]=>match pB C args fs.reverse G with
    |some G'=>some (.tuple [],G')
    |none=>none
   |_=>none
noncomputable def bc.one(C:br)(n:Nat)(vf:bc)(args:List V)(G:List aT):Option (V×List aT):=wrap C vf args (vf.call C n args G)
open Classical in
noncomputable def bc.both(C:br)(n:Nat)(vf:bc)(p m:Nat)(args:List V)(G:List aT):Option (V×List aT) :=
 if vf.one C n (args.set p .b9) G=vf.one C n (args.set p (.fx m)) G then vf.one C n (args.set p .b9) G else none
noncomputable def bc.zJ(C:br)(n:Nat)(vf:bc)(args:List V)(G:List aT):Option (V×List aT) :=
 match vf.split with
 |none=>vf.one C n args G
 |some p=>match args[p]? with
  |some (.slice none m [])=>vf.both C n p m args G
  |_=>vf.one C n args G
noncomputable def call(F:FuncId→Option bc):Nat→br
 |0=>fun _ _ _=>none
 |n+1=>fun f args G=>match F f with
  |some vf=>vf.zJ (call F n) n args G
  |none=>none
end Go.Vm

/- The value machine: a deterministic evaluator, by value, for compiled copies of Go functions. Definitions alone. -/
import GoSem.Core.View
namespace Go.Vm
set_option linter.all false
abbrev D7:=@Array.eq_empty_of_size_eq_zero
abbrev m8:=@Array.ext'
abbrev AT:=@Array.getElem?_append_left
abbrev GD:=@Array.getElem?_eq_getElem
abbrev mF:=@Array.getElem?_eq_none
abbrev xR:=@Array.getElem?_eq_some_iff
abbrev VD:=@Array.getElem?_extract
abbrev D8:=@Array.getElem?_modify
abbrev VE:=@Array.getElem?_push
abbrev Oe:=@Array.getElem?_setIfInBounds
abbrev J6:=@Array.getElem?_toList
abbrev VF:=@Array.isEmpty_iff
abbrev xS:=@Array.length_toList
abbrev GG:=@Array.size_append
abbrev Of:=@Array.toList_map
abbrev bS:=@Bool.and_eq_true
abbrev Ce:=@Bool.and_self
abbrev J7:=@Bool.eq_false_iff
abbrev Og:=@Bool.eq_false_or_eq_true
abbrev D9:=@Bool.false_eq_true
abbrev Oh:=@Bool.false_or
abbrev VG:=@Bool.not_eq_false'
abbrev uV:=@Bool.not_eq_true'
abbrev Oi:=@Bool.not_false
abbrev Oj:=@Bool.not_true
abbrev Ol:=@Bool.or_eq_false_iff
abbrev Cf:=@Bool.or_eq_true
abbrev GH:=@Bool.or_false
abbrev g7:=@Decidable.of_not_not
abbrev J8:=@Int.add_mul
abbrev J9:=@Int.add_zero
abbrev Ka:=@Int.ediv_le_self
abbrev GI:=@Int.ediv_nonneg
abbrev Om:=@Int.emod_lt_of_pos
abbrev On:=@Int.emod_nonneg
abbrev Oo:=@Int.le_ediv_iff_mul_le
abbrev uc:=@Int.le_refl
abbrev AU:=@Int.le_trans
abbrev GJ:=@Int.lt_irrefl
abbrev GK:=@Int.lt_trichotomy
abbrev Y6:=@Int.max_comm
abbrev Oq:=@Int.min_comm
abbrev Kb:=@Int.mul_add
abbrev Kc:=@Int.mul_comm
abbrev GL:=@Int.mul_le_mul
abbrev Kd:=@Int.mul_le_mul_of_nonneg_left
abbrev Cg:=@Int.mul_le_mul_of_nonneg_right
abbrev Ea:=@Int.mul_nonneg
abbrev Ot:=@Int.mul_pos
abbrev Ke:=@Int.mul_tdiv_cancel
abbrev Kf:=@Int.not_lt
abbrev Ou:=@Int.one_mul
abbrev xT:=@Int.tdiv_eq_ediv_of_nonneg
abbrev Ci:=@Int.tdiv_le_self
abbrev xU:=@Int.tdiv_nonneg
abbrev VH:=@Int.tmod_eq_emod_of_nonneg
abbrev Kg:=@Int.tmod_lt_of_pos
abbrev Kh:=@Int.tmod_nonneg
abbrev Ov:=@Int.toNat_natCast
abbrev VI:=@Int.toNat_of_nonneg
abbrev GM:=@List.all_cons
abbrev g8:=@List.all_eq_true
abbrev GN:=@List.any_cons
abbrev nF:=@List.any_eq_false
abbrev GO:=@List.any_eq_true
abbrev GP:=@List.any_nil
abbrev uW:=@List.append_assoc
abbrev Eb:=@List.append_nil
abbrev ud:=@List.cons_append
abbrev Ox:=@List.contains_eq_mem
abbrev uX:=@List.drop_drop
abbrev Ki:=@List.drop_eq_getElem_cons
abbrev VJ:=@List.drop_eq_nil_iff
abbrev VK:=@List.drop_eq_nil_of_le
abbrev AV:=@List.drop_length
abbrev VL:=@List.drop_of_length_le
abbrev uY:=@List.drop_zero
abbrev Oy:=@List.eq_of_mem_replicate
abbrev Oz:=@List.ext_getElem
abbrev wD:=@List.ext_getElem?
abbrev VM:=@List.filterMap_append
abbrev VN:=@List.filterMap_cons
abbrev uZ:=@List.filter_append
abbrev GQ:=@List.filter_congr
abbrev Kj:=@List.filter_cons
abbrev VP:=@List.filter_eq_nil_iff
abbrev Ec:=@List.filter_eq_self
abbrev VQ:=@List.filter_sublist
abbrev VR:=@List.findIdx_getElem
abbrev OA:=@List.findIdx_le_length
abbrev Cj:=@List.flatMap_cons
abbrev ue:=@List.flatten_cons
abbrev VS:=@List.getD_eq_getElem?_getD
abbrev oQ:=@List.getElem?_append
abbrev nG:=@List.getElem?_append_left
abbrev qg:=@List.getElem?_append_right
abbrev xV:=@List.getElem?_cons_succ
abbrev GR:=@List.getElem?_cons_zero
abbrev mn:=@List.getElem?_drop
abbrev fN:=@List.getElem?_eq_getElem
abbrev jT:=@List.getElem?_eq_none
abbrev wE:=@List.getElem?_eq_some_iff
abbrev vN:=@List.getElem?_map
abbrev Kk:=@List.getElem?_range
abbrev OB:=@List.getElem?_replicate
abbrev jU:=@List.getElem?_set
abbrev VT:=@List.getElem?_set_ne
abbrev VU:=@List.getElem?_set_self
abbrev VV:=@List.getElem?_tail
abbrev iP:=@List.getElem?_take
abbrev VW:=@List.getElem?_take_of_lt
abbrev Ed:=@List.getElem?_toArray
abbrev VX:=@List.getElem_cons_zero
abbrev GS:=@List.getElem_mem
abbrev Kl:=@List.isEmpty_iff
abbrev m9:=@List.length_append
abbrev u4:=@List.length_cons
abbrev OC:=@List.length_drop
abbrev oo:=@List.length_eq_zero_iff
abbrev u5:=@List.length_filter_le
abbrev wF:=@List.length_map
abbrev tc:=@List.length_nil
abbrev Ck:=@List.length_pos_iff
abbrev Km:=@List.length_range
abbrev GU:=@List.length_replicate
abbrev oR:=@List.length_set
abbrev qh:=@List.length_singleton
abbrev AW:=@List.length_take
abbrev GV:=@List.map_append
abbrev Ee:=@List.map_congr_left
abbrev oq:=@List.map_cons
abbrev wG:=@List.map_map
abbrev GW:=@List.map_nil
abbrev Ko:=@List.map_replicate
abbrev OD:=@List.map_set
abbrev GX:=@List.map_take
abbrev ot:=@List.mem_append
abbrev Cl:=@List.mem_append_left
abbrev GY:=@List.mem_append_right
abbrev jB:=@List.mem_cons
abbrev Cn:=@List.mem_cons_of_mem
abbrev xW:=@List.mem_cons_self
abbrev r9:=@List.mem_filter
abbrev OE:=@List.mem_flatMap
abbrev OF:=@List.mem_flatten
abbrev VY:=@List.mem_iff_getElem
abbrev nH:=@List.mem_iff_getElem?
abbrev kP:=@List.mem_map
abbrev fW:=@List.mem_of_getElem?
abbrev Kp:=@List.mem_of_mem_drop
abbrev Cp:=@List.mem_of_mem_take
abbrev Ef:=@List.mem_range
abbrev VZ:=@List.mem_replicate
abbrev ou:=@List.mem_singleton
abbrev Eg:=@List.nil_append
abbrev Kq:=@List.not_mem_nil
abbrev V0:=@List.not_of_lt_findIdx
abbrev te:=@List.pairwise_cons
abbrev V1:=@List.pairwise_map
abbrev Eh:=@List.range'_succ
abbrev GZ:=@List.range_eq_range'
abbrev AX:=@List.range_succ
abbrev AY:=@List.replicate_succ
abbrev Cq:=@List.set_append_right
abbrev Kr:=@List.set_cons_zero
abbrev Ei:=@List.set_eq_of_length_le
abbrev V2:=@List.singleton_append
abbrev Ej:=@List.size_toArray
abbrev Ks:=@List.sum_append
abbrev OG:=@List.sum_cons
abbrev xX:=@List.take_add_one
abbrev V3:=@List.take_append_drop
abbrev na:=@List.take_length
abbrev mo:=@List.take_of_length_le
abbrev V4:=@List.take_set_of_le
abbrev OH:=@List.take_succ_cons
abbrev Zb:=@List.take_zero
abbrev Cr:=@Nat.add_assoc
abbrev Kt:=@Nat.add_comm
abbrev qi:=@Nat.add_mul
abbrev sa:=@Nat.add_sub_cancel
abbrev V5:=@Nat.add_sub_cancel_left
abbrev wH:=@Nat.add_zero
abbrev OI:=@Nat.ble_eq_true_of_le
abbrev AZ:=@Nat.blt_eq
abbrev V6:=@Nat.div_lt_of_lt_mul
abbrev mq:=@Nat.eq_zero_or_pos
abbrev il:=@Nat.le_of_ble_eq_true
abbrev u6:=@Nat.le_of_eq
abbrev bV:=@Nat.le_refl
abbrev Ku:=@Nat.le_succ
abbrev iQ:=@Nat.le_trans
abbrev gU:=@Nat.lt_irrefl
abbrev iC:=@Nat.lt_of_lt_of_le
abbrev cF:=@Nat.lt_or_ge
abbrev V7:=@Nat.lt_succ_of_lt
abbrev G4:=@Nat.lt_succ_self
abbrev G5:=@Nat.lt_trichotomy
abbrev wI:=@Nat.min_eq_left
abbrev Kw:=@Nat.mod_lt
abbrev Kx:=@Nat.mul_comm
abbrev Ky:=@Nat.mul_eq_zero
abbrev Ek:=@Nat.mul_le_mul
abbrev tf:=@Nat.mul_le_mul_right
abbrev El:=@Nat.mul_one
abbrev Kz:=@Nat.mul_pos
abbrev Ct:=@Nat.not_le_of_lt
abbrev KA:=@Nat.one_mul
abbrev sb:=@Nat.sub_self
abbrev xY:=@Nat.sub_zero
abbrev oS:=@Nat.succ_mul
abbrev jV:=@Nat.zero_add
abbrev y7:=@Nat.zero_le
abbrev G6:=@Nat.zero_mul
abbrev G7:=@Option.bind_some
abbrev OJ:=@Option.getD_none
abbrev KB:=@Option.getD_some
abbrev Em:=@Option.isNone_iff_eq_none
abbrev OK:=@Option.isSome_iff_exists
abbrev En:=@Option.map_eq_some_iff
abbrev KC:=@Option.map_none
abbrev nI:=@Option.map_some
abbrev A0:=@beq_eq_false_iff_ne
abbrev dO:=@beq_iff_eq
abbrev eD:=@cond_false
abbrev bG:=@cond_true
abbrev jf:=@decide_eq_true
abbrev iD:=@decide_eq_true_eq
abbrev ay:=@if_neg
abbrev aM:=@if_pos
abbrev G8:=@of_decide_eq_true
inductive V where
 |undef
 |int (k:IntKind) (n:Int)
 |bool (b:Bool)
 |str (s:List UInt8)
 |cb
 |slice (tok:Option Nat) (sz:Nat) (es:List (List V))
 |eF (sz:Nat) (es:List (List V))
 |dY (sz:Nat)
 |fG (sz:Nat)
 |agg (cs:List V)
 |tuple (vs:List V)
 |eP (row:List V) (off:Nat)
 |bJ (id off:Nat)
 |bR (id off len:Nat)
 |fp (id s off len:Nat)
 |c5 (id s len:Nat)
 |g9 (id s off len:Nat)
 |bm (id off:Nat)
 |gq
 |fn (f:FuncId) (cap:List V)
 |gu
 |map (id:Nat)
 |gw
 deriving Inhabited
def jq(f:FuncId):FuncId:=f % 1000000
abbrev Sh:=List (Option Nat)
inductive aS where
 |cells (cs:List V)
 |map (es:List (V×V))
 deriving Inhabited
structure St where
 env:List (Nat×V)
 aW:List (Nat×List V)
 bj:List (Nat×Nat)
 aA:List aS
 deriving Inhabited
def look{α:Type}(s:Nat):List (Nat×α)→Option α
 |[]=>none
 |(k,v)::r=>bif k==s then some v else look s r
inductive bw where
 |t (s:Nat)
 |c (v:V)
 deriving Inhabited
def St.ev(S:St):bw→Option V
 |.t s=>look s S.env
 |.c v=>some v
def St.ka(S:St)(o:Option bw)(n:Nat):Option V :=
 match o with
 |some o=>S.ev o
 |none=>some (.int .i64 n)
def St.put(S:St)(d:Option Nat)(v:V):St :=
 match d with
 |some d=>{ S with env:=(d,v)::S.env }
 |none=>S
inductive jC where
 |loc (id:Nat)
 |aA
 |kb
 deriving Inhabited
def jC.fits:jC→V→Bool
 |.loc i,.bJ id _=>i==id
 |.aA,.bm _ _=>true
 |.kb,.eP _ _=>true
 |_,_=>false
inductive VO where
 |mv (x:bw)
 |pick (c a b:bw)
 |obj (id:Nat) (cells:List V)
 |box (id:Nat) (x:bw)
 |u7 (sh:Sh) (x:bw)
 |u9 (sh:Sh) (zero:List V)
 |vb
 |wJ (ag:Bool) (ks:List Nat) (zero:V) (ok:Bool) (x k:bw)
 |vd (ag:Bool) (ks:List Nat) (sh:Sh) (x k y:bw)
 |build (zero:List V) (parts:List (Nat×Nat×bw))
 |lit (tok:Option Nat) (sh:Sh) (zero:List V) (len:Nat) (parts:List (Nat×bw))
 |load (root:jC) (sz:Option Nat) (p:bw)
 |store (root:jC) (sh:Sh) (p x:bw)
 |tg (cj:Nat) (p:bw)
 |y8 (sz:Nat)
 |wK (x:bw)
 |grow (f:FuncId) (id:Nat) (n:bw)
 |vg (id:Nat) (src:Option Nat) (x y:bw)
 |vh (x:bw)
 |wL (neg:Bool) (x:bw)
 |vi (cj:Nat) (p x:bw)
 |uf (x:bw)
 |bin (op:BinOp) (x y:bw)
 |beq (neg:Bool) (x y:bw)
 |iE (neg:Bool) (ks:List Nat) (x y:bw)
 |un (op:UnOp) (x:bw)
 |conv (k:IntKind) (x:bw)
 |ti (off:Nat) (x:bw)
 |ov (arr:Option Nat) (sz:Nat) (x i:bw)
 |idx (n sz:Nat) (agg:Bool) (x i:bw)
 |field (off:Nat) (sz:Option Nat) (x:bw)
 |len (x:bw)
 |vj (x:bw)
 |app (cj:Nat) (src oy:Option Nat) (sh:Sh) (mx:Nat) (x y:bw)
 |tj (new src:Nat) (oy:Option Nat) (sh:Sh) (x y:bw)
 |ext (x:bw) (i:Nat)
 |call (alone:Bool) (f:bw) (args:List (Sh×bw)) (reg:List (Nat×Nat))
 |wM (k:Nat) (f:FuncId) (id:Nat) (x:bw)
 |sd (f:bw) (args:List (Sh×bw))
 |se (f:bw) (args:List (Sh×Sh×bw)) (ids:List Nat)
 |own (f:bw) (args:List (Sh×Sh×bw)) (ids:List Nat) (id pos:Nat)
 |sf (f:bw) (args:List (Sh×bw)) (id:Nat)
 |ug (id:Nat) (zero:List V) (n:bw)
 |wN (sz:Nat) (x:bw) (lo hi:Option bw)
 |arr (n sz:Nat) (x:bw)
 |mm (max:Bool) (x y:bw)
 |vl (max:Bool) (x y z:bw)
 |wO (f:FuncId) (cap:List bw)
 deriving Inhabited
structure bH where
 dst:Option Nat
 op:VO
 guard:Option (Nat×Bool)
 deriving Inhabited
inductive gP where
 |norm (s cj sz:Nat)
 |oT (id off cj sz:Nat)
 |freeze (s:Nat) (sh:Sh)
 |KD (id back cj sz:Nat)
 |jD (a b:Nat)
 |KE (id off:Nat) (sh:Sh)
 |sj (s id sz:Nat)
 |share (s:Nat) (sh:Sh)
 |KF (s:Nat) (jE:List Sh)
 |G9 (id:Nat) (jE:List Sh)
 |wP (id off a sz:Nat)
 |A1 (a b id off:Nat)
 |A2 (id off:Nat) (sh:Sh)
 deriving Inhabited
structure df where
 e:List Nat
 o:List Nat
 t:List Nat
 deriving Inhabited
inductive VC where
 |skip
 |region (gh:List gP) (ids:List Nat) (ops:List bH) (keep:df)
 |seq (a b:VC)
 |cond (c:bw) (a b:VC)
 |block (id:Nat) (a:VC)
 |loop (gh:List gP) (keep:df) (a:VC)
 |exit (id:Nat)
 |ret
 |dead
 |Cu (gh:List gP)
 deriving Inhabited
inductive tl where
 |t (s:Nat) (sh:Sh)
 |c (s:Nat) (agg:Bool) (sh:Sh)
 deriving Inhabited
structure ba where
 nparams:Nat
 body:VC
 results:List tl
 defs:List FuncId:=[]
 split:Option Nat:=none
 deriving Inhabited
def V.cells:V→List V
 |.agg cs=>cs
 |v=>[v]
def KG(agg:Bool)(cs:List V):V :=
 match agg,cs with
 |false,[v]=>v
 |_,cs=>.agg cs
def V.plain:V→Bool
 |.int .. | .bool .. | .str .. | .cb | .slice none _ _=>true
 |_=>false
def el(sh:Option Nat):V→Option V
 |.int k n=>some (.int k n)
 |.bool b=>some (.bool b)
 |.str s=>some (.str s)
 |.cb=>match sh with|some 0=>some .cb|some n=>some (.slice none n [])|none=>none
 |.slice _ n es=>some (.slice none n es)
 |.dY n=>some (.slice none n [])
 |.fG n=>some (.slice none n [])
 |_=>none
def nb:Sh→List V→Option (List V)
 |[],[]=>some []
 |h::sh,v::vs=>match el h v,nb sh vs with
  |some u,some us=>some (u::us)
  |_,_=>none
 |_,_=>none
def qj(sh:Option Nat):V→Option V
 |.bm i o=>some (.bm i o)
 |.c5 i s n=>some (.c5 i s n)
 |.gq=>some .gq
 |.fn f c=>some (.fn f c)
 |.gu=>some .gu
 |.map i=>some (.map i)
 |.gw=>some .gw
 |v=>el sh v
def uh:Sh→List V→Option (List V)
 |[],[]=>some []
 |h::sh,v::vs=>match qj h v,uh sh vs with
  |some u,some us=>some (u::us)
  |_,_=>none
 |_,_=>none
def Cy(sh:Option Nat):V→Option V
 |.cb=>match sh with|some (n+1)=>some (.eF (n+1) [])|h=>qj h .cb
 |.dY n=>some (.eF n [])
 |v=>qj sh v
def mH:Sh→List V→Option (List V)
 |[],[]=>some []
 |h::sh,v::vs=>match Cy h v,mH sh vs with
  |some u,some us=>some (u::us)
  |_,_=>none
 |_,_=>none
def V.jr:V→V
 |.eF n es=>.slice none n es
 |v=>v
def V.kQ:V→V
 |.agg cs=>.agg (cs.map V.jr)
 |v=>v.jr
def A3(sh:Sh):V→Option V
 |.agg cs=>match uh sh cs with|some cs=>some (.agg cs)|none=>none
 |v=>match sh with | [h]=>qj h v|_=>none
def V.cA(d:Nat):V→Bool
 |.slice (some t) _ _=>t==d
 |.bJ i _=>i==d
 |.bR i _ _=>i==d
 |.fp i _ _ _=>i==d
 |.agg _=>true
 |.tuple _=>true
 |_=>false
def V.dF(d:Nat):V→Bool
 |.agg cs=>cs.any (V.cA d)
 |v=>v.cA d
def V.cq(d:Nat):V→Bool
 |.tuple vs=>vs.any (V.dF d)
 |v=>v.dF d
def V.cL:V→Bool
 |.undef | .agg _ | .tuple _=>false
 |_=>true
def lim:Nat:=4294967296
def Ha(op:BinOp)(k:IntKind)(a b:Int):Option V :=
 match op with
 |.add=>some (.int k (k.wrap (a+b)))
 |.sub=>some (.int k (k.wrap (a-b)))
 |.mul=>some (.int k (k.wrap (a*b)))
 |.quo=>if b=0 then none else some (.int k (k.wrap (a.tdiv b)))
 |.rem=>if b=0 then none else some (.int k (a.tmod b))
 |.shr=>if b<0 then none else some (.int k (a.fdiv (2 ^ (min b.toNat k.bits))))
 |.eql=>some (.bool (a==b))
 |.neq=>some (.bool (a != b))
 |.lss=>some (.bool (decide (a<b)))
 |.leq=>some (.bool (decide (a≤b)))
 |.gtr=>some (.bool (decide (a>b)))
 |.geq=>some (.bool (decide (a≥b)))
 |_=>none
def V.bin(op:BinOp):V→V→Option V
 |.int k a,.int k' b=>bif decide (k=k') then Ha op k a b else none
 |_,_=>none
def jW:Nat→V→V→Option Bool
 |0,.int k a,.int k' b=>bif decide (k=k') then some (a==b) else none
 |1,.bool a,.bool b=>some (a==b)
 |2,.str a,.str b=>some (a==b)
 |_,_,_=>none
def eC:List Nat→List V→List V→Option Bool
 |[],_,_=>some true
 |k::ks,a::as,b::bs=>match jW k a b,eC ks as bs with
  |some p,some q=>some (p&&q)
  |_,_=>none
 |_,_,_=>none
def V.iE(neg:Bool)(ks:List Nat):V→V→Option V
 |.agg cs,.agg ds=>bif cs.length==ks.length&&ds.length==ks.length then match eC ks cs ds with
  |some b=>some (.bool (bif neg then !b else b))
  |none=>none
  else none
 |_,_=>none
def V.nd(ag:Bool)(ks:List Nat)(a b:V):Option Bool :=
 match ag with
 |true=>match a,b with
  |.agg cs,.agg ds=>bif cs.length==ks.length&&ds.length==ks.length then eC ks cs ds else none
  |_,_=>none
 |false=>match ks with
  |[k]=>jW k a b
  |_=>none
def nf(ag:Bool)(ks:List Nat)(k:V):List (V×V)→Nat→Option (Option (Nat×V))
 |[],_=>some none
 |(q,v)::es,i=>match V.nd ag ks k q with
  |some true=>some (some (i,v))
  |some false=>nf ag ks k es (i+1)
  |none=>none
def V.un(op:UnOp):V→Option V
 |.bool b=>match op with
  |.not=>some (.bool !b)
  |_=>none
 |.int k n=>match op with
  |.neg=>some (.int k (k.wrap (0-n)))
  |_=>none
 |_=>none
def St.nJ(S:St):V→Option (List V×Nat)
 |.bJ id off=>match look id S.aW with
  |some cs=>some (cs,off)
  |none=>none
 |.bm id off=>match S.aA[id]? with
  |some (.cells cs)=>some (cs,off)
  |_=>none
 |.eP row off=>some (row,off)
 |_=>none
def loadAt(sz:Option Nat)(cs:List V)(off:Nat):Option V :=
 match sz with
 |none=>cs[off]?
 |some n=>bif Nat.ble (off+n) cs.length then some (.agg ((cs.drop off).take n)) else none
def iF:List V→Nat→List V→List V
 |cs,_,[]=>cs
 |cs,off,v::vs=>iF (cs.set off v) (off+1) vs
def chunks(sz:Nat)(cs:List V):Nat→Nat→List (List V)
 |_,0=>[]
 |off,n+1=>(cs.drop off).take sz::chunks sz cs (off+sz) n
def kc(sh:Sh):List (List V)→Option (List (List V))
 |[]=>some []
 |r::rs=>match nb sh r,kc sh rs with
  |some u,some us=>some (u::us)
  |_,_=>none
def tm(root:jC)(v:V):V :=
 match root with
 |.aA=>v.kQ
 |_=>v
def St.take(S:St)(cj:Nat):V→Option (V×List (Nat×Nat)×Option (List aS))
 |.bm id off=>match S.aA[id]? with
  |some (.cells cs)=>match cs[off]? with
   |some (.eF n es)=>some (.slice (some cj) n es,[(cj,es.length)],some (S.aA.set id (aS.cells (cs.set off (.slice none n es)))))
   |some v=>some (v.kQ,[],none)
   |none=>none
  |_=>none
 |_=>none
def St.xZ(S:St)(cj:Nat):V→V→Option (List (Nat×Nat)×List aS)
 |.bm id off,.slice (some f) n es=>match S.aA[id]?,(bif f==cj then look cj S.bj else none) with
  |some (.cells cs),some k=>bif k==es.length&&Nat.blt off cs.length then
    some ([(cj,k+1)],S.aA.set id (aS.cells (cs.set off (.eF n es)))) else none
  |_,_=>none
 |_,_=>none
def St.rows(S:St)(sh:Sh):V→Option (List (List V))
 |.cb=>some []
 |.slice _ n es=>bif n==sh.length then some es else none
 |.dY _=>some []
 |.fG _=>some []
 |_=>none
def St.sk(S:St)(sh:Sh):V→Option (List (List V))
 |.bR id s len=>match look id S.aW with
  |some cs=>bif (s==sh.length)&&Nat.blt 0 sh.length&&Nat.ble (len*sh.length) cs.length then kc sh (chunks sh.length cs 0 len) else none
  |none=>none
 |_=>none
def St.KH(S:St)(sh:Sh)(id s off n:Nat):Option (List (List V)) :=
 match look id S.aW with
 |some cs=>bif (s==sh.length)&&Nat.blt 0 sh.length&&Nat.ble (off*sh.length+n*sh.length) cs.length then kc sh (chunks sh.length cs (off*sh.length) n) else none
 |none=>none
def St.iR(S:St)(oy:Option Nat)(sh:Sh)(v:V):Option (List (List V)) :=
 match oy with
 |none=>S.rows sh v
 |some j=>match v with
  |.bR i s n=>bif i==j then S.sk sh (.bR i s n) else none
  |.fp i s off n=>bif i==j then S.KH sh i s off n else none
  |v=>S.rows sh v
def pL(S:St):List bw→Option (List V)
 |[]=>some []
 |x::xs=>match S.ev x,pL S xs with
  |some v,some vs=>some (v::vs)
  |_,_=>none
def sn(S:St):List (Nat×Nat×bw)→List V→Option (List V)
 |[],cs=>some cs
 |(off,n,x)::ps,cs=>match S.ev x with
  |some v=>bif v.cells.length==n&&Nat.ble (off+n) cs.length&&v.cells.all V.cL then sn S ps (iF cs off v.cells) else none
  |none=>none
def vm(S:St)(sh:Sh):List (Nat×bw)→List (List V)→Option (List (List V))
 |[],rs=>some rs
 |(i,x)::ps,rs=>match S.ev x with
  |some v=>match nb sh v.cells with
   |some r=>bif Nat.blt i rs.length then vm S sh ps (rs.set i r) else none
   |none=>none
  |none=>none
def St.y9(S:St)(src:Option Nat):V→Option (List V)
 |.cb=>some []
 |.dY _=>some []
 |.fG _=>some []
 |.slice _ n es=>bif n==1 then some es.flatten else none
 |.bR id s n=>match (match src with|some j=>look j S.aW|none=>none) with
  |some cs=>bif src==some id&&(s==1)&&Nat.ble n cs.length then some (cs.take n) else none
  |none=>none
 |.fp id s off n=>match (match src with|some j=>look j S.aW|none=>none) with
  |some cs=>bif src==some id&&(s==1)&&Nat.ble (off+n) cs.length then some ((cs.drop off).take n) else none
  |none=>none
 |_=>none
def gV:V→V
 |.slice _ n es=>.slice none n es
 |v=>v
def strip:V→V
 |.agg cs=>.agg (cs.map gV)
 |v=>gV v
def cX(reg:List (Nat×Nat)):Nat→List V→List V×List (Nat×Nat)
 |_,[]=>([],[])
 |i,v::vs =>
  let r:=cX reg (i+1) vs
  match v with
  |.slice (some _) n es=>match look i reg with
   |some f=>(.slice (some f) n es::r.1,(f,es.length)::r.2)
   |none=>(.slice none n es::r.1,r.2)
  |v=>(strip v::r.1,r.2)
def recv(reg:List (Nat×Nat)):V→V×List (Nat×Nat)
 |.tuple vs=>((.tuple (cX reg 0 vs).1),(cX reg 0 vs).2)
 |.agg cs=>((.agg (cX reg 0 cs).1),(cX reg 0 cs).2)
 |v=>match cX reg 0 [v] with
  |([u],ts)=>(u,ts)
  |_=>(.undef,[])
def nh(S:St):List (Sh×bw)→Option (List V)
 |[]=>some []
 |(sh,x)::xs=>match S.ev x with
  |some v=>match A3 sh v,nh S xs with
   |some u,some us=>some (u::us)
   |_,_=>none
  |none=>none
def pM(sh:Sh):V→Option V
 |.agg cs=>match nb sh cs with|some cs=>some (.agg cs)|none=>none
 |.fn f []=>some (.fn f [])
 |v=>match sh with | [h]=>el h v|_=>none
def ni(S:St):List (Sh×bw)→Option (List V)
 |[]=>some []
 |(sh,x)::xs=>match S.ev x with
  |some v=>match pM sh v,ni S xs with
   |some u,some us=>some (u::us)
   |_,_=>none
  |none=>none
def St.Cz(S:St)(ids:List Nat)(rs:Sh)(id s n:Nat):Option V :=
 bif ids.contains id then (match S.sk rs (.bR id s n) with|some es=>some (V.slice none rs.length es)|none=>none) else none
def St.A4(S:St)(ids:List Nat)(rs:Sh)(id s off n:Nat):Option V :=
 bif ids.contains id then (match look id S.aW with
  |some cs=>bif (s==rs.length)&&Nat.blt 0 rs.length&&Nat.ble (off*rs.length+n*rs.length) cs.length then (match kc rs (chunks rs.length cs (off*rs.length) n) with|some es=>some (V.slice none rs.length es)|none=>none) else none
  |none=>none) else none
def lK(S:St)(ids:List Nat):List (Sh×Sh×bw)→Option (List V)
 |[]=>some []
 |(rs,sh,x)::xs=>match (match S.ev x with
   |some (.bR id s n)=>S.Cz ids rs id s n
   |some (.fp id s off n)=>S.A4 ids rs id s off n
   |some v=>pM sh v
   |none=>none),lK S ids xs with
  |some u,some us=>some (u::us)
  |_,_=>none
def V.iG:V→Bool
 |.slice .. => true
 |v=>v.plain
def V.iS:V→Bool
 |.agg cs=>cs.all V.iG
 |v=>v.iG
def V.lone:V→Bool
 |.tuple vs=>vs.all V.iS
 |v=>v.iS
def V.sc:V→Bool
 |.int .. | .bool .. | .str .. => true
 |_=>false
def V.ky:V→Bool
 |.slice (some _) n es=>es.all fun r=>r.length==n&&r.all V.sc
 |v=>v.sc
def V.qk:V→Bool
 |.tuple vs=>vs.all V.sc
 |.agg cs=>cs.all V.sc
 |v=>v.sc
def nK(id:Nat):Nat→List V→Option (List V×Option (List V))
 |_,[]=>none
 |0,v::vs=>match v with
  |.slice (some _) n es=>bif es.all (fun r=>r.length==n&&r.all V.sc)&&vs.all V.ky then
    (bif es.isEmpty then some (.dY n::vs.map strip,none) else some (.bR id n es.length::vs.map strip,some es.flatten)) else none
  |_=>none
 |p+1,v::vs=>bif v.ky then match nK id p vs with
  |some (us,o)=>some (strip v::us,o)
  |none=>none
  else none
def kz(id pos:Nat):V→Option (V×Option (List V))
 |.tuple vs=>match nK id pos vs with
  |some (us,o)=>some (.tuple us,o)
  |none=>none
 |v=>match nK id pos [v] with
  |some ([u],o)=>some (u,o)
  |_=>none
def CA:List V→Option (List V)
 |[]=>some []
 |.bm i o::vs=>match CA vs with
  |some us=>some (.bm i o::us)
  |none=>none
 |_=>none
abbrev bD:=FuncId→List V→List aS→Option (V×List aS)
def St.fits(S:St)(root:jC)(x:bw):Bool :=
 match S.ev x with
 |some a=>root.fits a
 |none=>false
def CB(x:Int):List Int→List Int
 |[]=>[x]
 |y::ys=>bif decide (x≤y) then x::y::ys else y::CB x ys
def ox:List Int→List Int
 |[]=>[]
 |x::xs=>CB x (ox xs)
def dedup:List Int→List Int
 |[]=>[]
 |[x]=>[x]
 |x::y::r=>bif x==y then dedup (y::r) else x::dedup (y::r)
def vn(k:Nat)(zs:List Int):List Int :=
 match k with
 |0=>ox zs
 |_=>dedup zs++List.replicate (zs.length-(dedup zs).length) 0
def CC(k id:Nat)(zs:List Int):V :=
 match k with
 |0=>.tuple []
 |_=>.bR id 1 (dedup zs).length
def yd:List V→Option (List Int)
 |[]=>some []
 |.int .i64 n::vs=>match yd vs with
  |some zs=>some (n::zs)
  |none=>none
 |_=>none
def St.mut(S:St)(k i:Nat)(d:Option Nat)(v:Option V):Option St :=
 match v with
 |some (.bR id s n)=>match look i S.aW with
  |some cs=>bif id==i&&(s==1)&&Nat.ble n cs.length&&Nat.ble n lim&&Nat.blt 0 n then match yd (cs.take n) with
   |some zs=>some ({ S with aW:=(i,(vn k zs).map (V.int .i64)++cs.drop n)::S.aW }.put d (CC k i zs))
   |none=>none
   else none
  |none=>none
 |_=>none
def V.part:V→Option (Nat×Nat×Nat)
 |.c5 i 1 n=>some (i,0,n)
 |.g9 i 1 off n=>some (i,off,n)
 |_=>none
def Hb(G:List aS):Option (Nat×Nat×Nat)→Option (List aS)
 |some (i,off,n)=>match G[i]? with
  |some (.cells cs)=>bif Nat.ble (off+n) cs.length&&Nat.blt 0 n then some (G.set i (.cells (iF cs off (List.replicate n (.int .i64 0))))) else none
  |_=>none
 |none=>none
open Classical in
noncomputable def rd{α:Type}(G G':List aS)(x:α):Option α:=if G'=G then some x else none
noncomputable def VO.run(C:bD)(d:Option Nat)(S:St):VO→Option St
 |.mv x=>match S.ev x with
  |some v=>some (S.put d v)
  |none=>none
 |.pick c a b=>match S.ev c with
  |some (.bool t)=>match bif t then S.ev a else S.ev b with
   |some v=>some (S.put d v)
   |none=>none
  |_=>none
 |.obj id cells=>some ({ S with aW:=(id,cells)::S.aW }.put d (.bJ id 0))
 |.box id x=>match S.ev x with
  |some v=>bif v.cells.all V.cL then some ({ S with aW:=(id,v.cells)::S.aW }.put d (.bJ id 0)) else none
  |none=>none
 |.u7 sh x=>match S.ev x with
  |some v=>match mH sh v.cells with
   |some cs=>some ({ S with aA:=S.aA++[aS.cells cs] }.put d (.bm S.aA.length 0))
   |none=>none
  |none=>none
 |.u9 sh zero=>match mH sh zero with
  |some cs=>some ({ S with aA:=S.aA++[aS.cells cs] }.put d (.bm S.aA.length 0))
  |none=>none
 |.vb=>some ({ S with aA:=S.aA++[aS.map []] }.put d (.map S.aA.length))
 |.wJ ag ks zero ok x k=>match S.ev x,S.ev k with
  |some (.map i),some kv=>match S.aA[i]?,V.nd ag ks kv kv with
   |some (.map es),some _=>match nf ag ks kv es 0 with
    |some (some (_,v))=>some (S.put d (bif ok then .tuple [v,.bool true] else v))
    |some none=>some (S.put d (bif ok then .tuple [zero,.bool false] else zero))
    |none=>none
   |_,_=>none
  |_,_=>none
 |.vd ag ks sh x k y=>match S.ev x,S.ev k,S.ev y with
  |some (.map i),some kv,some v=>match S.aA[i]?,V.nd ag ks kv kv,A3 sh v with
   |some (.map es),some _,some u=>match nf ag ks kv es 0 with
    |some (some (j,_))=>some { S with aA:=S.aA.set i (aS.map (es.set j (kv,u))) }
    |some none=>some { S with aA:=S.aA.set i (aS.map (es++[(kv,u)])) }
    |none=>none
   |_,_,_=>none
  |_,_,_=>none
 |.build zero parts=>match sn S parts zero with
  |some cs=>some (S.put d (.agg cs))
  |none=>none
 |.lit tok sh zero ln parts=>match vm S sh parts (List.replicate ln zero) with
  |some rs=>match tok with
   |some f=>some ({ S with bj:=(f,ln)::S.bj }.put d (.slice (some f) sh.length rs))
   |none=>some (S.put d (.slice none sh.length rs))
  |none=>none
 |.load root sz p=>match S.ev p with
  |some a=>bif root.fits a then match S.nJ a with
   |some (cs,off)=>match loadAt sz cs off with
    |some v=>some (S.put d (tm root v))
    |none=>none
   |none=>none
   else none
  |none=>none
 |.tg cj p=>match S.ev p with
  |some a=>match S.take cj a with
   |some (v,ts,G)=>some ({ S with bj:=ts++S.bj,aA:=(match G with|some G=>G|none=>S.aA) }.put d v)
   |none=>none
  |none=>none
 |.vi cj p x=>match S.ev p,S.ev x with
  |some a,some v=>match S.xZ cj a v with
   |some (ts,G)=>some { S with bj:=ts++S.bj,aA:=G }
   |none=>none
  |_,_=>none
 |.store root sh p x=>bif S.fits root p then match S.ev p,S.ev x with
  |some (.bJ id off),some v=>match look id S.aW with
   |some cs=>bif v.cells.length==sh.length&&Nat.ble (off+sh.length) cs.length&&v.cells.all V.cL&&Nat.blt 0 sh.length then
     some { S with aW:=(id,iF cs off v.cells)::S.aW } else none
   |none=>none
  |some (.bm id off),some v=>match S.aA[id]? with
   |some (.cells cs)=>match mH sh v.cells with
    |some vs=>bif Nat.ble (off+vs.length) cs.length&&Nat.blt 0 vs.length then some { S with aA:=S.aA.set id (aS.cells (iF cs off vs)) } else none
    |none=>none
   |_=>none
  |_,_=>none
  else none
 |.uf x=>match S.ev x with
  |some (.bJ i o)=>some (S.put d (.bJ i o))
  |some (.bm i o)=>some (S.put d (.bm i o))
  |some (.eP r o)=>some (S.put d (.eP r o))
  |_=>none
 |.bin op x y=>match S.ev x,S.ev y with
  |some a,some b=>match V.bin op a b with
   |some v=>some (S.put d v)
   |none=>none
  |_,_=>none
 |.beq neg x y=>match S.ev x,S.ev y with
  |some (.bool a),some (.bool b)=>some (S.put d (.bool (bif neg then a != b else a==b)))
  |_,_=>none
 |.iE neg ks x y=>match S.ev x,S.ev y with
  |some a,some b=>match V.iE neg ks a b with
   |some v=>some (S.put d v)
   |none=>none
  |_,_=>none
 |.un op x=>match S.ev x with
  |some a=>match V.un op a with
   |some v=>some (S.put d v)
   |none=>none
  |none=>none
 |.conv k x=>match S.ev x with
  |some (.int _ n)=>some (S.put d (.int k (k.wrap n)))
  |_=>none
 |.ti off x=>match S.ev x with
  |some (.bJ i o)=>some (S.put d (.bJ i (o+off)))
  |some (.bm i o)=>some (S.put d (.bm i (o+off)))
  |some (.eP r o)=>some (S.put d (.eP r (o+off)))
  |_=>none
 |.ov (some n) sz x i=>match S.ev x,S.ev i with
  |some a,some (.int _ k)=>bif decide (0≤k)&&decide (k<n) then match a with
    |.bJ i o=>some (S.put d (.bJ i (o+k.toNat*sz)))
    |.bm i o=>some (S.put d (.bm i (o+k.toNat*sz)))
    |.eP r o=>some (S.put d (.eP r (o+k.toNat*sz)))
    |_=>none
   else none
  |_,_=>none
 |.ov none sz x i=>match S.ev x,S.ev i with
  |some (.slice _ m es),some (.int _ k)=>bif decide (0≤k)&&(m==sz) then match es[k.toNat]? with
    |some r=>some (S.put d (.eP r 0))
    |none=>none
   else none
  |some (.bR id s ln),some (.int _ k)=>bif decide (0≤k)&&decide (k<ln)&&(s==sz) then some (S.put d (.bJ id (k.toNat*sz))) else none
  |some (.c5 id s ln),some (.int _ k)=>bif decide (0≤k)&&decide (k<ln)&&(s==sz) then some (S.put d (.bm id (k.toNat*sz))) else none
  |_,_=>none
 |.idx n sz agg x i=>match S.ev x,S.ev i with
  |some (.agg cs),some (.int _ k)=>bif decide (0≤k)&&decide (k<n) then
    match loadAt (bif agg then some sz else none) cs (k.toNat*sz) with
    |some v=>some (S.put d v)
    |none=>none
   else none
  |_,_=>none
 |.field off sz x=>match S.ev x with
  |some (.agg cs)=>match loadAt sz cs off with
   |some v=>some (S.put d v)
   |none=>none
  |_=>none
 |.y8 n=>some (S.put d (.dY n))
 |.wL neg x=>match S.ev x with
  |some .cb=>some (S.put d (.bool !neg))
  |some (.fG _)=>some (S.put d (.bool neg))
  |some (.slice _ _ (_::_))=>some (S.put d (.bool neg))
  |_=>none
 |.len x=>match S.ev x with
  |some .cb=>some (S.put d (.int .i64 0))
  |some (.dY _)=>some (S.put d (.int .i64 0))
  |some (.fG _)=>some (S.put d (.int .i64 0))
  |some (.slice _ _ es)=>some (S.put d (.int .i64 es.length))
  |some (.bR _ _ n)=>some (S.put d (.int .i64 n))
  |some (.c5 _ _ n)=>some (S.put d (.int .i64 n))
  |_=>none
 |.grow _ id n=>match S.ev n with
  |some (.int .i64 k)=>bif decide (0≤k)&&decide (k≤lim) then some ({ S with aW:=(id,[])::S.aW }.put d (.bR id 1 0)) else none
  |_=>none
 |.wK x=>match S.ev x with
  |some .cb=>some (S.put d (.int .i64 0))
  |_=>none
 |.vh x=>match S.ev x with
  |some v=>match Hb S.aA v.part with
   |some G=>some ({ S with aA:=G }.put d (.tuple []))
   |none=>none
  |none=>none
 |.vg id src x y=>match S.ev x,S.ev y with
  |some (.bR i s n),some b=>match look id S.aW,S.y9 src b with
   |some cs,some us=>bif i==id&&(s==1)&&Nat.ble n cs.length&&us.all V.sc then
     some ({ S with aW:=(id,us.take n++cs.drop (us.take n).length)::S.aW }.put d (.int .i64 (us.take n).length)) else none
   |_,_=>none
  |_,_=>none
 |.vj x=>match S.ev x with
  |some (.str s)=>some (S.put d (.int .i64 s.length))
  |_=>none
 |.app cj src oy sh mx x y=>match S.ev x,S.ev y with
  |some .cb,some b=>match S.iR oy sh b with
   |some ys=>bif Nat.ble ys.length mx then some ({ S with bj:=(cj,ys.length)::S.bj }.put d (.slice (some cj) sh.length ys)) else none
   |none=>none
  |some (.dY _),some b=>match S.iR oy sh b with
   |some ys=>bif Nat.ble ys.length mx then some ({ S with bj:=(cj,ys.length)::S.bj }.put d (.slice (some cj) sh.length ys)) else none
   |none=>none
  |some (.slice (some f) n es),some b=>match S.iR oy sh b with
   |some ys=>match (bif src==some f then look f S.bj else none) with
    |some k=>bif k==es.length&&(n==sh.length)&&Nat.ble (es.length+ys.length) mx then
      some ({ S with bj:=(f,es.length+ys.length)::S.bj }.put d (.slice (some f) n (es++ys))) else none
    |none=>none
   |none=>none
  |_,_=>none
 |.tj new src oy sh x y=>match S.ev x,S.ev y with
  |some .cb,some b=>match S.iR oy sh b with
   |some ys=>bif ys.isEmpty then some (S.put d .cb) else
     bif Nat.ble ys.length lim then some ({ S with aW:=(new,ys.flatten)::S.aW }.put d (.bR new sh.length ys.length)) else none
   |none=>none
  |some (.dY n),some b=>match S.iR oy sh b with
   |some ys=>bif ys.isEmpty then some (S.put d (.dY n)) else
     bif Nat.ble ys.length lim then some ({ S with aW:=(new,ys.flatten)::S.aW }.put d (.bR new sh.length ys.length)) else none
   |none=>none
  |some (.bR id s ln),some b=>match S.iR oy sh b,look src S.aW with
   |some ys,some cs=>bif (id==src)&&(s==sh.length)&&(cs.length==ln*s)&&Nat.ble (ln+ys.length) lim then
     some ({ S with aW:=(new,cs++ys.flatten)::S.aW.filter fun p => !(p.1==src) }.put d (.bR new sh.length (ln+ys.length))) else
     bif oy.isNone&&(id==src)&&(s==sh.length)&&Nat.ble (ln*s) cs.length&&Nat.ble (ln+ys.length) lim then
     some ({ S with aW:=(new,cs.take (ln*s)++ys.flatten)::S.aW.filter fun p => !(p.1==src) }.put d (.bR new sh.length (ln+ys.length))) else none
   |_,_=>none
  |_,_=>none
 |.ext x i=>match S.ev x with
  |some (.tuple vs)=>match vs[i]? with
   |some v=>some (S.put d v)
   |none=>none
  |_=>none
 |.call false f args reg=>match S.ev f,nh S args with
  |some (.fn g cap),some vs=>match C g (vs++cap) S.aA with
   |some (r,G)=>some ({ S with aA:=G,bj:=(recv reg r).2++S.bj }.put d (recv reg r).1)
   |none=>none
  |_,_=>none
 |.call true f args reg=>match S.ev f,ni S args with
  |some (.fn g []),some vs=>match C g vs [] with
   |some (r,_)=>bif r.lone then some ({ S with bj:=(recv reg r).2++S.bj }.put d (recv reg r).1) else none
   |none=>none
  |_,_=>none
 |.sd f args=>match S.ev f,nh S args with
  |some (.fn g cap),some vs=>match C g (vs++cap) S.aA with
   |some (r,G)=>rd S.aA G (S.put d (recv [] r).1)
   |none=>none
  |_,_=>none
 |.wM k _ id x=>S.mut k id d (S.ev x)
 |.se f args ids=>match S.ev f,lK S ids args with
  |some (.fn g []),some vs=>match C g vs [] with
   |some (r,_)=>bif r.qk then some (S.put d r) else none
   |none=>none
  |_,_=>none
 |.own f args ids id pos=>match S.ev f,lK S ids args with
  |some (.fn g []),some vs=>match C g vs [] with
   |some (r,_)=>match kz id pos r with
    |some (v,some cs)=>some ({ S with aW:=(id,cs)::S.aW }.put d v)
    |some (v,none)=>some (S.put d v)
    |none=>none
   |none=>none
  |_,_=>none
 |.sf f args id=>match S.ev f,ni S args with
  |some (.fn g []),some vs=>match C g vs [] with
   |some (r,_)=>match kz id 0 r with
    |some (.bR i n ln,some cs)=>bif i==id&&Nat.blt 0 cs.length&&Nat.blt 0 ln&&cs.all V.sc then some ({ S with aA:=S.aA++[aS.cells cs] }.put d (.c5 S.aA.length n ln)) else none
    |some (.dY n,none)=>some ({ S with aA:=S.aA++[aS.cells []] }.put d (.c5 S.aA.length n 0))
    |_=>none
   |none=>none
  |_,_=>none
 |.ug id zero n=>match S.ev n with
  |some (.int _ k)=>bif decide (0≤k)&&decide (k≤lim) then
    some ({ S with aW:=(id,(List.replicate k.toNat zero).flatten)::S.aW }.put d (.bR id zero.length k.toNat)) else none
  |_=>none
 |.wN sz x lo hi=>match S.ev x with
  |some (.slice _ m es) =>
   match S.ka lo 0,S.ka hi es.length with
   |some (.int _ a),some (.int _ b)=>bif decide (0≤a)&&decide (a≤b)&&decide (b≤es.length)&&(m==sz) then
     some (S.put d (.slice none sz ((es.take b.toNat).drop a.toNat))) else none
   |_,_=>none
  |some .cb =>
   match S.ka lo 0,S.ka hi 0 with
   |some (.int _ a),some (.int _ b)=>bif decide (a=0)&&decide (b=0) then some (S.put d .cb) else none
   |_,_=>none
  |some (.bR id s ln) =>
   match S.ka lo 0,S.ka hi ln with
   |some (.int _ a),some (.int _ b)=>bif decide (0≤a)&&decide (a≤b)&&decide (b≤ln)&&(s==sz) then
     bif decide (a=0) then some (S.put d (.bR id s b.toNat)) else bif decide (a<ln) then some (S.put d (.fp id s a.toNat (b-a).toNat)) else some (S.put d (.slice none s []))
     else none
   |_,_=>none
  |some (.c5 id s ln) =>
   match S.ka lo 0,S.ka hi ln with
   |some (.int _ a),some (.int _ b)=>bif decide (0≤a)&&decide (a≤b)&&decide (b≤ln)&&(s==sz) then
     bif decide (a=0) then some (S.put d (.c5 id s b.toNat)) else bif decide (a<ln) then some (S.put d (.g9 id s a.toNat (b-a).toNat)) else none
     else none
   |_,_=>none
  |_=>none
 |.arr n sz x=>match S.ev x with
  |some (.bJ id 0)=>some (S.put d (.fp id sz 0 n))
  |_=>none
 |.vl mx x y z=>match S.ev x,S.ev y,S.ev z with
  |some (.int k a),some (.int _ b),some (.int _ c)=>some (S.put d (.int k (bif mx then max (max a b) c else min (min a b) c)))
  |_,_,_=>none
 |.mm mx x y=>match S.ev x,S.ev y with
  |some (.int k a),some (.int _ b)=>some (S.put d (.int k (bif mx then max a b else min a b)))
  |_,_=>none
 |.wO f cap=>match pL S cap with
  |some vs=>match CA vs with
   |some us=>some (S.put d (.fn f us))
   |none=>none
  |none=>none
noncomputable def bH.run(C:bD)(o:bH)(S:St):Option St :=
 match o.guard with
 |none=>o.op.run C o.dst S
 |some (g,want)=>match look g S.env with
  |some (.bool b)=>bif b==want then o.op.run C o.dst S else some (S.put o.dst .undef)
  |some .undef=>some (S.put o.dst .undef)
  |_=>none
noncomputable def gW(C:bD):List bH→St→Option St
 |[],S=>some S
 |o::os,S=>match o.run C S with
  |some S'=>gW C os S'
  |none=>none
def vp{α:Type}(env:List (Nat×α)):List Nat→List (Nat×α)
 |[]=>[]
 |s::r=>match look s env with
  |some v=>(s,v)::vp env r
  |none=>vp env r
def St.keep(S:St)(k:df):St :=
 {env:=vp S.env k.e,aW:=vp S.aW k.o,bj:=vp S.bj k.t,aA:=S.aA }
def St.clean(S:St):List Nat→Option St
 |[]=>some S
 |d::ds =>
  let env:=S.env.filter fun p => !(p.1==d)
  let aW:=S.aW.filter fun p => !(p.1==d)
  let bj:=S.bj.filter fun p => !(p.1==d)
  bif env.all (fun p => !p.2.cq d)&&aW.all (fun p=>p.2.all fun v => !v.cA d) then St.clean { env,aW,bj,aA:=S.aA } ds else none
def V.forget(cj:Nat):V→V
 |.slice (some f) n es=>bif f==cj then .slice none n es else .slice (some f) n es
 |v=>v
def V.jD(a b:Nat):V→V
 |.bR i s n=>bif i==a then .bR b s n else .bR i s n
 |v=>v
def St.oT(S:St)(id off cj sz:Nat):Option St :=
 match look id S.aW with
  |some cs=>match cs[off]? with
   |some .cb=>match St.clean S [cj] with
    |some S=>match look id S.aW with
     |some cs=>some { S with aW:=(id,cs.set off (.slice (some cj) sz []))::S.aW,bj:=(cj,0)::S.bj }
     |none=>none
    |none=>none
   |_=>some S
  |none=>some S
def St.sj(S:St)(s id sz:Nat):Option St :=
 match St.clean { S with env:=S.env.filter fun p => !(p.1==s) } [id] with
 |some S=>some { S with env:=(s,.bR id sz 0)::S.env,aW:=(id,[])::S.aW }
 |none=>none
def St.share(S:St)(s n:Nat)(es:List (List V)):St :=
 {S with env:=(s,.c5 S.aA.length n es.length)::S.env,aA:=S.aA++[aS.cells es.flatten] }
def St.Eo(G:List aS)(jE:List Sh):V→Option (V×List Sh×List aS)
 |.c5 i n len=>match jE,G[i]? with
  |sh::jE,some (.cells cs)=>bif n==sh.length&&Nat.blt 0 n&&Nat.ble (len*n) cs.length then match kc sh (chunks sh.length (cs.map V.jr) 0 len) with
   |some es=>some (.slice none n es,jE,G.set i (.cells []))
   |none=>none
   else none
  |_,_=>none
 |v=>some (v,jE,G)
def wQ:List aS→List Sh→List V→Option (List V×List aS)
 |G,_,[]=>some ([],G)
 |G,jE,v::vs=>match St.Eo G jE v with
  |some (u,jE,G)=>match wQ G jE vs with
   |some (us,G)=>some (u::us,G)
   |none=>none
  |none=>none
def St.wP(S:St)(id off a sz:Nat):Option St :=
 match look id S.aW with
 |some cs=>match cs[off]? with
  |some .cb=>match St.clean S [a] with
   |some S=>match look id S.aW with
    |some cs=>some { S with aW:=(id,cs.set off (.bR a sz 0))::(a,[])::S.aW }
    |none=>none
   |none=>none
  |_=>some S
 |none=>some S
def St.A1(S:St)(a b id off:Nat):Option St :=
 match look id S.aW with
 |some ds=>match ds[off]? with
  |some (.bR i s n)=>bif i==a && !(id==a) then (match St.clean S [b] with
   |some S=>match look a S.aW,look id S.aW with
    |some cs,some ds=>some { S with aW:=(id,ds.set off (.bR b s n))::(b,cs)::(S.aW.filter fun p => !(p.1==id)).filter fun p => !(p.1==a) }
    |_,_=>none
   |none=>none) else some S
  |_=>some S
 |none=>some S
def St.A2(S:St)(id off:Nat)(sh:Sh):Option St :=
 match look id S.aW with
 |some ds=>match ds[off]? with
  |some (.bR a s n)=>bif n==0 then some { S with aW:=(id,ds.set off (.slice none sh.length []))::S.aW } else
   match S.sk sh (.bR a s n),St.clean { S with aW:=S.aW.filter fun p => !(p.1==id) } [a] with
   |some es,some S=>bif a==id then none else some { S with aW:=(id,ds.set off (.c5 S.aA.length sh.length n))::S.aW,aA:=S.aA++[aS.cells es.flatten] }
   |_,_=>none
  |_=>some S
 |none=>some S
def gP.run(S:St):gP→Option St
 |.wP id off a sz=>S.wP id off a sz
 |.A1 a b id off=>S.A1 a b id off
 |.A2 id off sh=>S.A2 id off sh
 |.sj s id sz=>match look s S.env with
  |some .cb=>S.sj s id sz
  |some (.dY _)=>S.sj s id sz
  |_=>some S
 |.share s sh=>match look s S.env with
  |some (.bR id n len)=>match S.sk sh (.bR id n len),St.clean { S with env:=S.env.filter fun p => !(p.1==s) } [id] with
   |some es,some S=>some (S.share s sh.length es)
   |_,_=>none
  |some .cb=>some (S.share s sh.length [])
  |some (.dY _)=>some (S.share s sh.length [])
  |_=>none
 |.KF s jE=>match look s S.env with
  |some (.agg cs)=>match wQ S.aA jE cs with
   |some (us,G)=>some { S with env:=(s,.agg us)::S.env,aA:=G }
   |none=>none
  |some v=>match St.Eo S.aA jE v with
   |some (u,_,G)=>some { S with env:=(s,u)::S.env,aA:=G }
   |none=>none
  |none=>none
 |.G9 id jE=>match look id S.aW with
  |some cs=>match wQ S.aA jE cs with
   |some (us,G)=>some { S with aW:=(id,us)::S.aW.filter fun p => !(p.1==id),aA:=G }
   |none=>none
  |none=>some S
 |.norm s cj sz=>match look s S.env with
  |some .cb=>match St.clean { S with env:=S.env.filter fun p => !(p.1==s) } [cj] with
   |some S=>some { S with env:=(s,.slice (some cj) sz [])::S.env,bj:=(cj,0)::S.bj }
   |none=>none
  |some (.dY _)=>match St.clean { S with env:=S.env.filter fun p => !(p.1==s) } [cj] with
   |some S=>some { S with env:=(s,.slice (some cj) sz [])::S.env,bj:=(cj,0)::S.bj }
   |none=>none
  |_=>some S
 |.oT id off cj sz=>S.oT id off cj sz
 |.freeze s sh=>match look s S.env with
  |some (.bR id off len)=>match S.sk sh (.bR id off len) with
   |some es=>some { S with env:=(s,.slice none sh.length es)::S.env,aW:=S.aW.filter fun p => !(p.1==id) }
   |none=>none
  |_=>some S
 |.KD id back cj sz=>match look id S.aW with
  |some cs=>match cs[cs.length-back]? with
   |some .cb=>St.oT { S with aW:=(id,cs.map (V.forget cj))::S.aW.filter fun p => !(p.1==id) } id (cs.length-back) cj sz
   |_=>some S
  |none=>some S
 |.KE id off sh=>match look id S.aW with
  |some cs=>match cs[off]? with
   |some (.bR i s n)=>match S.sk sh (.bR i s n) with
    |some es=>bif i==id then none else some { S with aW:=(id,cs.set off (.slice none sh.length es))::(S.aW.filter fun p => !(p.1==i)).filter fun p => !(p.1==id) }
    |none=>none
   |_=>some S
  |none=>some S
 |.jD a b=>match St.clean S [b] with
  |some S=>match look a S.aW with
   |some cs=>some { S with env:=S.env.map (fun p=>(p.1,V.jD a b p.2)),aW:=(b,cs)::S.aW.filter fun p => !(p.1==a) }
   |none=>some S
  |none=>none
def oz:List gP→St→Option St
 |[],S=>some S
 |g::gs,S=>match g.run S with
  |some S=>oz gs S
  |none=>none
inductive pN where
 |normal
 |exit (id:Nat)
 |ret
 deriving Inhabited
def iter(body:St→Option (pN×St)):Nat→St→Option (pN×St)
 |0,_=>none
 |n+1,S=>match body S with
  |some (.normal,S')=>iter body n S'
  |some (.exit i,S')=>some (.exit i,S')
  |some (.ret,S')=>some (.ret,S')
  |none=>none
noncomputable def VC.run(C:bD)(n:Nat):VC→St→Option (pN×St)
 |.skip,S=>some (.normal,S)
 |.region gh ids ops keep,S=>match oz gh S with
  |some S=>match S.clean ids with
   |some S=>match gW C ops S with
    |some S=>some (.normal,S.keep keep)
    |none=>none
   |none=>none
  |none=>none
 |.seq a b,S=>match VC.run C n a S with
  |some (.normal,S')=>VC.run C n b S'
  |some (.exit i,S')=>some (.exit i,S')
  |some (.ret,S')=>some (.ret,S')
  |none=>none
 |.cond c a b,S=>match S.ev c with
  |some (.bool t)=>bif t then VC.run C n a S else VC.run C n b S
  |_=>none
 |.block id a,S=>match VC.run C n a S with
  |some (.normal,S')=>some (.normal,S')
  |some (.exit i,S')=>bif i==id then some (.normal,S') else some (.exit i,S')
  |some (.ret,S')=>some (.ret,S')
  |none=>none
 |.loop gh keep a,S=>match oz gh S with
  |some S=>iter (fun S=>VC.run C n a (S.keep keep)) n S
  |none=>none
 |.exit id,S=>some (.exit id,S)
 |.dead,_=>none
 |.ret,S=>some (.ret,S)
 |.Cu gh,S=>match oz gh S with
  |some S=>some (.ret,S)
  |none=>none
def A5(S:St)(sh:Option Nat)(used:List Nat):V→Option (V×List Nat)
 |.cb=>match sh with
  |some n=>some (.slice (some 0) n [],used)
  |none=>none
 |.dY n=>some (.slice (some 0) n [],used)
 |.slice (some f) n es=>match look f S.bj with
  |some k=>bif k==es.length && !used.contains f then some (.slice (some 0) n es,f::used) else some (.slice none n es,used)
  |none=>some (.slice none n es,used)
 |.slice none n es=>some (.slice none n es,used)
 |v=>match qj sh v with
  |some v=>some (v,used)
  |none=>none
def nL(S:St):Sh→List Nat→List V→Option (List V×List Nat)
 |[],used,[]=>some ([],used)
 |h::sh,used,v::vs=>match A5 S h used v with
  |some (u,used)=>match nL S sh used vs with
   |some (us,used)=>some (u::us,used)
   |none=>none
  |none=>none
 |_,_,_=>none
def A6(S:St)(used:List Nat):tl→Option (V×List Nat)
 |.t s sh=>match look s S.env with
  |some (.agg cs)=>match nL S sh used cs with
   |some (us,used)=>some (.agg us,used)
   |none=>none
  |some v=>match sh with
   |[h]=>A5 S h used v
   |_=>none
  |none=>none
 |.c s agg sh=>match look s S.env with
  |some (.bJ id 0)=>match look id S.aW with
   |some cs=>match nL S sh used cs with
    |some (us,used)=>some (KG agg us,used)
    |none=>none
   |none=>none
  |_=>none
def wR(S:St):List Nat→List tl→Option (List V)
 |_,[]=>some []
 |used,r::rs=>match A6 S used r with
  |some (v,used)=>match wR S used rs with
   |some vs=>some (v::vs)
   |none=>none
  |none=>none
def wS(S:St)(rs:List tl):Option V :=
 match wR S [] rs with
 |some [v]=>some v
 |some vs=>some (.tuple vs)
 |none=>none
def ql:Nat→List V→List (Nat×V)
 |_,[]=>[]
 |i,v::vs=>(i,v)::ql (i+1) vs
noncomputable def ba.call(C:bD)(n:Nat)(f:ba)(args:List V)(G:List aS):Option (V×List aS) :=
 bif args.length==f.nparams then
  match VC.run C n f.body { env:=ql 0 args,aW:=[],bj:=[],aA:=G } with
  |some (.normal,S)|some (.ret,S)=>match wS S f.results with
   |some v=>some (v,S.aA)
   |none=>none
  |_=>none
 else none
def qm(C:bD)(args:List V):List FuncId→List aS→Option (List aS)
 |[],G=>some G
 |f::fs,G=>match C f args G with
  |some (_,G')=>qm C args fs G'
  |none=>none
def wrap(C:bD)(vf:ba)(args:List V)(o:Option (V×List aS)):Option (V×List aS) :=
 match o with
 |none=>none
 |some (r,G)=>match vf.defs with
  |[]=>some (r,G)
  |fs=>match args with
   |[.bm _ _]=>match qm C args fs.reverse G with
    |some G'=>some (.tuple [],G')
    |none=>none
   |_=>none
noncomputable def ba.one(C:bD)(n:Nat)(vf:ba)(args:List V)(G:List aS):Option (V×List aS):=wrap C vf args (vf.call C n args G)
open Classical in
noncomputable def ba.both(C:bD)(n:Nat)(vf:ba)(p m:Nat)(args:List V)(G:List aS):Option (V×List aS) :=
 if vf.one C n (args.set p .cb) G=vf.one C n (args.set p (.fG m)) G then vf.one C n (args.set p .cb) G else none
noncomputable def ba.A7(C:bD)(n:Nat)(vf:ba)(args:List V)(G:List aS):Option (V×List aS) :=
 match vf.split with
 |none=>vf.one C n args G
 |some p=>match args[p]? with
  |some (.slice none m [])=>vf.both C n p m args G
  |_=>vf.one C n args G
noncomputable def call(F:FuncId→Option ba):Nat→bD
 |0=>fun _ _ _=>none
 |n+1=>fun f args G=>match F f with
  |some vf=>vf.A7 (call F n) n args G
  |none=>none
end Go.Vm

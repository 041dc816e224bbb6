/- - -/
import GoSem.Core.View
namespace Go.Vm
set_option linter.all false
abbrev Gi:=@Array.eq_empty_of_size_eq_zero
abbrev oU:=@Array.ext'
abbrev CD:=@Array.getElem?_append_left
abbrev I8:=@Array.getElem?_eq_getElem
abbrev ou:=@Array.getElem?_eq_none
abbrev xn:=@Array.getElem?_eq_some_iff
abbrev Zb:=@Array.getElem?_extract
abbrev Gj:=@Array.getElem?_modify
abbrev Zc:=@Array.getElem?_push
abbrev RB:=@Array.getElem?_setIfInBounds
abbrev Zd:=@Array.getElem?_toList
abbrev Ze:=@Array.isEmpty_iff
abbrev zZ:=@Array.length_toList
abbrev I9:=@Array.size_append
abbrev RC:=@Array.toList_map
abbrev bZ:=@Bool.and_eq_true
abbrev Ee:=@Bool.and_self
abbrev MT:=@Bool.eq_false_iff
abbrev RD:=@Bool.eq_false_or_eq_true
abbrev Gk:=@Bool.false_eq_true
abbrev RE:=@Bool.false_or
abbrev Zf:=@Bool.not_eq_false'
abbrev xo:=@Bool.not_eq_true'
abbrev RF:=@Bool.not_false
abbrev RG:=@Bool.not_true
abbrev RH:=@Bool.or_eq_false_iff
abbrev Ef:=@Bool.or_eq_true
abbrev Ja:=@Bool.or_false
abbrev jf:=@Decidable.of_not_not
abbrev MU:=@Int.add_mul
abbrev MV:=@Int.add_zero
abbrev MW:=@Int.ediv_le_self
abbrev Jb:=@Int.ediv_nonneg
abbrev RI:=@Int.emod_lt_of_pos
abbrev RJ:=@Int.emod_nonneg
abbrev Zg:=@Int.fdiv_eq_ediv_of_nonneg
abbrev RK:=@Int.le_ediv_iff_mul_le
abbrev vk:=@Int.le_refl
abbrev CE:=@Int.le_trans
abbrev Jc:=@Int.lt_irrefl
abbrev Jd:=@Int.lt_trichotomy
abbrev RL:=@Int.max_comm
abbrev MX:=@Int.min_comm
abbrev RM:=@Int.mul_add
abbrev MY:=@Int.mul_comm
abbrev Je:=@Int.mul_le_mul
abbrev MZ:=@Int.mul_le_mul_of_nonneg_left
abbrev Eg:=@Int.mul_le_mul_of_nonneg_right
abbrev Gl:=@Int.mul_nonneg
abbrev RN:=@Int.mul_pos
abbrev M0:=@Int.mul_tdiv_cancel
abbrev M1:=@Int.not_lt
abbrev RO:=@Int.one_mul
abbrev uh:=@Int.tdiv_eq_ediv_of_nonneg
abbrev Eh:=@Int.tdiv_le_self
abbrev z6:=@Int.tdiv_nonneg
abbrev Zh:=@Int.tmod_eq_emod_of_nonneg
abbrev M3:=@Int.tmod_lt_of_pos
abbrev M4:=@Int.tmod_nonneg
abbrev RP:=@Int.toNat_natCast
abbrev Zi:=@Int.toNat_of_nonneg
abbrev Jf:=@List.all_cons
abbrev iW:=@List.all_eq_true
abbrev Jg:=@List.any_cons
abbrev py:=@List.any_eq_false
abbrev Jh:=@List.any_eq_true
abbrev Ji:=@List.any_nil
abbrev ov:=@List.append_assoc
abbrev vl:=@List.append_nil
abbrev vm:=@List.cons_append
abbrev RQ:=@List.contains_eq_mem
abbrev CF:=@List.drop_drop
abbrev CG:=@List.drop_eq_getElem_cons
abbrev Zj:=@List.drop_eq_nil_iff
abbrev Jj:=@List.drop_eq_nil_of_le
abbrev CH:=@List.drop_length
abbrev Zk:=@List.drop_of_length_le
abbrev tA:=@List.drop_zero
abbrev RR:=@List.eq_of_mem_replicate
abbrev RS:=@List.ext_getElem
abbrev A4:=@List.ext_getElem?
abbrev Zl:=@List.filterMap_append
abbrev Zm:=@List.filterMap_cons
abbrev xp:=@List.filter_append
abbrev Jk:=@List.filter_congr
abbrev M5:=@List.filter_cons
abbrev Zn:=@List.filter_eq_nil_iff
abbrev Gm:=@List.filter_eq_self
abbrev Zo:=@List.filter_sublist
abbrev Zp:=@List.findIdx_getElem
abbrev RT:=@List.findIdx_le_length
abbrev Ei:=@List.flatMap_cons
abbrev vn:=@List.flatten_cons
abbrev M6:=@List.foldl_cons
abbrev Zq:=@List.getD_eq_getElem?_getD
abbrev rP:=@List.getElem?_append
abbrev nR:=@List.getElem?_append_left
abbrev wy:=@List.getElem?_append_right
abbrev CI:=@List.getElem?_cons_succ
abbrev Jl:=@List.getElem?_cons_zero
abbrev mJ:=@List.getElem?_drop
abbrev eV:=@List.getElem?_eq_getElem
abbrev kW:=@List.getElem?_eq_none
abbrev mK:=@List.getElem?_eq_some_iff
abbrev xq:=@List.getElem?_map
abbrev RU:=@List.getElem?_replicate
abbrev lM:=@List.getElem?_set
abbrev Zr:=@List.getElem?_set_ne
abbrev Zs:=@List.getElem?_set_self
abbrev Zt:=@List.getElem?_tail
abbrev jP:=@List.getElem?_take
abbrev Zu:=@List.getElem?_take_of_lt
abbrev Gn:=@List.getElem?_toArray
abbrev Zv:=@List.getElem_cons_zero
abbrev Jm:=@List.getElem_mem
abbrev M7:=@List.isEmpty_iff
abbrev jQ:=@List.length_append
abbrev vp:=@List.length_cons
abbrev RV:=@List.length_drop
abbrev pz:=@List.length_eq_zero_iff
abbrev ui:=@List.length_filter_le
abbrev yy:=@List.length_map
abbrev tB:=@List.length_nil
abbrev nS:=@List.length_pos_iff
abbrev RW:=@List.length_range
abbrev Jo:=@List.length_replicate
abbrev qI:=@List.length_set
abbrev rQ:=@List.length_singleton
abbrev CJ:=@List.length_take
abbrev Jp:=@List.map_append
abbrev M8:=@List.map_congr_left
abbrev nT:=@List.map_cons
abbrev zB:=@List.map_map
abbrev Gp:=@List.map_nil
abbrev M9:=@List.map_replicate
abbrev Na:=@List.map_set
abbrev RX:=@List.map_take
abbrev ka:=@List.mem_append
abbrev CK:=@List.mem_append_left
abbrev Gq:=@List.mem_append_right
abbrev iA:=@List.mem_cons
abbrev Ej:=@List.mem_cons_of_mem
abbrev z7:=@List.mem_cons_self
abbrev vq:=@List.mem_filter
abbrev RY:=@List.mem_flatMap
abbrev RZ:=@List.mem_flatten
abbrev Zw:=@List.mem_iff_getElem
abbrev lN:=@List.mem_iff_getElem?
abbrev nU:=@List.mem_map
abbrev gw:=@List.mem_of_getElem?
abbrev Nb:=@List.mem_of_mem_drop
abbrev Ek:=@List.mem_of_mem_take
abbrev Gr:=@List.mem_range
abbrev Zx:=@List.mem_replicate
abbrev qf:=@List.mem_singleton
abbrev vr:=@List.nil_append
abbrev R0:=@List.nodup_cons
abbrev Gu:=@List.not_mem_nil
abbrev Zy:=@List.not_of_lt_findIdx
abbrev z8:=@List.pairwise_append
abbrev rU:=@List.pairwise_cons
abbrev Zz:=@List.pairwise_map
abbrev ZA:=@List.range'_concat
abbrev El:=@List.range'_succ
abbrev Em:=@List.range_eq_range'
abbrev CL:=@List.range_succ
abbrev CM:=@List.replicate_succ
abbrev wz:=@List.set_append_right
abbrev En:=@List.set_cons_zero
abbrev Gx:=@List.set_eq_of_length_le
abbrev ZB:=@List.singleton_append
abbrev Gy:=@List.size_toArray
abbrev Nc:=@List.sum_append
abbrev R3:=@List.sum_cons
abbrev uj:=@List.take_add_one
abbrev Jq:=@List.take_append_drop
abbrev mL:=@List.take_length
abbrev kD:=@List.take_of_length_le
abbrev ZC:=@List.take_set_of_le
abbrev R4:=@List.take_succ_cons
abbrev R5:=@List.take_zero
abbrev Nd:=@Nat.add_assoc
abbrev Nf:=@Nat.add_comm
abbrev Aa:=@Nat.add_mul
abbrev rW:=@Nat.add_sub_cancel
abbrev Eo:=@Nat.add_sub_cancel_left
abbrev yA:=@Nat.add_zero
abbrev R6:=@Nat.ble_eq_true_of_le
abbrev CN:=@Nat.blt_eq
abbrev ZD:=@Nat.div_lt_of_lt_mul
abbrev nV:=@Nat.eq_zero_or_pos
abbrev js:=@Nat.le_of_ble_eq_true
abbrev xr:=@Nat.le_of_eq
abbrev b8:=@Nat.le_refl
abbrev Ng:=@Nat.le_succ
abbrev iO:=@Nat.le_trans
abbrev iX:=@Nat.lt_irrefl
abbrev jC:=@Nat.lt_of_lt_of_le
abbrev cS:=@Nat.lt_or_ge
abbrev ZE:=@Nat.lt_succ_of_lt
abbrev Jr:=@Nat.lt_succ_self
abbrev Js:=@Nat.lt_trichotomy
abbrev CO:=@Nat.min_eq_left
abbrev Nh:=@Nat.mod_lt
abbrev Ni:=@Nat.mul_comm
abbrev Nj:=@Nat.mul_eq_zero
abbrev A5:=@Nat.mul_le_mul
abbrev uk:=@Nat.mul_le_mul_right
abbrev Gz:=@Nat.mul_one
abbrev Nk:=@Nat.mul_pos
abbrev Ep:=@Nat.not_le_of_lt
abbrev Nl:=@Nat.one_mul
abbrev pA:=@Nat.sub_self
abbrev Ab:=@Nat.sub_zero
abbrev rY:=@Nat.succ_mul
abbrev kX:=@Nat.zero_add
abbrev A6:=@Nat.zero_le
abbrev Jt:=@Nat.zero_mul
abbrev Ju:=@Option.bind_some
abbrev R7:=@Option.getD_none
abbrev Nm:=@Option.getD_some
abbrev GD:=@Option.isNone_iff_eq_none
abbrev R8:=@Option.isSome_iff_exists
abbrev GG:=@Option.map_eq_some_iff
abbrev Nn:=@Option.map_none
abbrev ox:=@Option.map_some
abbrev tC:=@beq_eq_false_iff_ne
abbrev ec:=@beq_iff_eq
abbrev gL:=@cond_false
abbrev bW:=@cond_true
abbrev fJ:=@decide_eq_true
abbrev jD:=@decide_eq_true_eq
abbrev Er:=@getElem?_pos
abbrev ax:=@if_neg
variable{c:Prop}
def ax'{_:Decidable c}{α:Sort _}{a b:α}(h:¬c:=by omega):ite c a b=b:=if_neg h
abbrev aJ:=@if_pos
def aJ'{_:Decidable c}{α:Sort _}{a b:α}(h:c:=by omega):ite c a b=a:=if_pos h
abbrev Jv:=@of_decide_eq_true
inductive V where
 |undef
 |int (k:IntKind) (n:Int)
 |bool (b:Bool)
 |str (s:List UInt8)
 |cj
 |slice (tok:Option Nat) (sz:Nat) (es:List (List V))
 |eC (sz:Nat) (es:List (List V))
 |er (sz:Nat)
 |gF (sz:Nat)
 |agg (cs:List V)
 |tuple (vs:List V)
 |ff (row:List V) (off:Nat)
 |bn (id off:Nat)
 |bY (id off len:Nat)
 |fQ (id s off len:Nat)
 |cO (id s len:Nat)
 |jg (id s off len:Nat)
 |bu (id off:Nat)
 |ig
 |fn (f:FuncId) (cap:List V)
 |ij
 |map (id:Nat)
 |ik
 deriving Inhabited
def kb(f:FuncId):FuncId:=f % 1000000
abbrev Sh:=List (Option Nat)
inductive aM where
 |cells (cs:List V)
 |map (es:List (V×V))
 deriving Inhabited
structure St where
 env:List (Nat×V)
 aY:List (Nat×List V)
 bo:List (Nat×Nat)
 aC:List aM
 deriving Inhabited
def look{α:Type}(s:Nat):List (Nat×α)->Option α
 |[]=>none
 |(k,v)::r=>bif k==s then some v else look s r
inductive bG where
 |t (s:Nat)
 |c (v:V)
 deriving Inhabited
def St.ev(S:St):bG->Option V
 |.t s=>look s S.env
 |.c v=>some v
def St.lx(S:St)(o:Option bG)(n:Nat):Option V :=
 match o with
 |some o=>S.ev o
 |none=>some (.int .i64 n)
def St.put(S:St)(d:Option Nat)(v:V):St :=
 match d with
 |some d=>{ S with env:=(d,v)::S.env }
 |none=>S
inductive kE where
 |loc (id:Nat)
 |aC
 |mM
 deriving Inhabited
def kE.fits:kE->V->Bool
 |.loc i,.bn id _=>i==id
 |.aC,.bu _ _=>true
 |.mM,.ff _ _=>true
 |_,_=>false
inductive VO where
 |mv (x:bG)
 |pick (c a b:bG)
 |obj (id:Nat) (cells:List V)
 |box (id:Nat) (x:bG)
 |yB (sh:Sh) (x:bG)
 |yC (sh:Sh) (zero:List V)
 |yD
 |Ac (ag:Bool) (ks:List Nat) (zero:V) (ok:Bool) (x k:bG)
 |yE (ag:Bool) (ks:List Nat) (sh:Sh) (x k y:bG)
 |build (zero:List V) (parts:List (Nat×Nat×bG))
 |lit (tok:Option Nat) (sh:Sh) (zero:List V) (len:Nat) (parts:List (Nat×bG))
 |load (root:kE) (sz:Option Nat) (p:bG)
 |store (root:kE) (sh:Sh) (p x:bG)
 |vt (cD:Nat) (p:bG)
 |A7 (sz:Nat)
 |grow (f:FuncId) (id:Nat) (n:bG)
 |yG (id:Nat) (src:Option Nat) (x y:bG)
 |yH (x:bG)
 |yI (neg:Bool) (x:bG)
 |xt (cD:Nat) (p x:bG)
 |xu (x:bG)
 |bin (op:BinOp) (x y:bG)
 |beq (neg:Bool) (x y:bG)
 |iI (neg:Bool) (ks:List Nat) (x y:bG)
 |un (op:UnOp) (x:bG)
 |conv (k:IntKind) (x:bG)
 |xv (off:Nat) (x:bG)
 |r7 (arr:Option Nat) (sz:Nat) (x i:bG)
 |field (off:Nat) (sz:Option Nat) (x:bG)
 |len (x:bG)
 |app (cD:Nat) (src oy:Option Nat) (sh:Sh) (mx:Nat) (x y:bG)
 |wB (new src:Nat) (oy:Option Nat) (sh:Sh) (x y:bG)
 |ext (x:bG) (i:Nat)
 |call (alone:Bool) (f:bG) (args:List (Sh×bG)) (reg:List (Nat×Nat))
 |Ad (k:Nat) (f:FuncId) (id:Nat) (x:bG)
 |um (f:bG) (args:List (Sh×bG))
 |vu (f:bG) (args:List (Sh×Sh×bG)) (ids:List Nat)
 |own (f:bG) (args:List (Sh×Sh×bG)) (ids:List Nat) (id pos:Nat)
 |vv (f:bG) (args:List (Sh×bG)) (id:Nat)
 |xy (id:Nat) (zero:List V) (n:bG)
 |yJ (sz:Nat) (x:bG) (lo hi:Option bG)
 |mm (max:Bool) (x y:bG)
 |xA (max:Bool) (x y z:bG)
 |yK (f:FuncId) (cap:List bG)
 deriving Inhabited
structure cf where
 dst:Option Nat
 op:VO
 guard:Option (Nat×Bool)
 deriving Inhabited
inductive iP where
 |norm (s cD sz:Nat)
 |pB (id off cD sz:Nat)
 |freeze (s:Nat) (sh:Sh)
 |kF (a b:Nat)
 |Np (id off:Nat) (sh:Sh)
 |tD (s id sz:Nat)
 |share (s:Nat) (sh:Sh)
 |GH (id:Nat) (kG:List Sh)
 |yL (id off a sz:Nat)
 |CP (a b id off:Nat)
 |CQ (id off:Nat) (sh:Sh)
 deriving Inhabited
structure dG where
 e:List Nat
 o:List Nat
 t:List Nat
 deriving Inhabited
inductive VC where
 |skip
 |region (gh:List iP) (ids:List Nat) (ops:List cf) (keep:dG)
 |seq (a b:VC)
 |cond (c:bG) (a b:VC)
 |block (id:Nat) (a:VC)
 |loop (gh:List iP) (keep:dG) (a:VC)
 |exit (id:Nat)
 |ret
 |dead
 |Es (gh:List iP)
 deriving Inhabited
inductive vw where
 |t (s:Nat) (sh:Sh)
 |c (s:Nat) (agg:Bool) (sh:Sh)
 deriving Inhabited
structure bb where
 nparams:Nat
 body:VC
 results:List vw
 defs:List FuncId:=[]
 split:Option Nat:=none
 deriving Inhabited
def V.cells:V->List V
 |.agg cs=>cs
 |v=>[v]
def Nr(agg:Bool)(cs:List V):V :=
 match agg,cs with
 |false,[v]=>v
 |_,cs=>.agg cs
def V.plain:V->Bool
 |.int .. | .bool .. | .str .. | .cj | .slice none _ _=>true
 |_=>false
def el(sh:Option Nat):V->Option V
 |.int k n=>some (.int k n)
 |.bool b=>some (.bool b)
 |.str s=>some (.str s)
 |.cj=>match sh with|some 0=>some .cj|some n=>some (.slice none n [])|none=>none
 |.slice _ n es=>some (.slice none n es)
 |.er n=>some (.slice none n [])
 |.gF n=>some (.slice none n [])
 |_=>none
def oV:Sh->List V->Option (List V)
 |[],[]=>some []
 |h::sh,v::vs=>match el h v,oV sh vs with
  |some u,some us=>some (u::us)
  |_,_=>none
 |_,_=>none
def sL(sh:Option Nat):V->Option V
 |.bu i o=>some (.bu i o)
 |.cO i s n=>some (.cO i s n)
 |.ig=>some .ig
 |.fn f c=>some (.fn f c)
 |.ij=>some .ij
 |.map i=>some (.map i)
 |.ik=>some .ik
 |v=>el sh v
def wC:Sh->List V->Option (List V)
 |[],[]=>some []
 |h::sh,v::vs=>match sL h v,wC sh vs with
  |some u,some us=>some (u::us)
  |_,_=>none
 |_,_=>none
def Et(sh:Option Nat):V->Option V
 |.cj=>match sh with|some (n+1)=>some (.eC (n+1) [])|h=>sL h .cj
 |.er n=>some (.eC n [])
 |v=>sL sh v
def oz:Sh->List V->Option (List V)
 |[],[]=>some []
 |h::sh,v::vs=>match Et h v,oz sh vs with
  |some u,some us=>some (u::us)
  |_,_=>none
 |_,_=>none
def V.kq:V->V
 |.eC n es=>.slice none n es
 |v=>v
def V.ml:V->V
 |.agg cs=>.agg (cs.map V.kq)
 |v=>v.kq
def CR(sh:Sh):V->Option V
 |.agg cs=>match wC sh cs with|some cs=>some (.agg cs)|none=>none
 |v=>match sh with | [h]=>sL h v|_=>none
def V.cQ(d:Nat):V->Bool
 |.slice (some t) _ _=>t==d
 |.bn i _=>i==d
 |.bY i _ _=>i==d
 |.fQ i _ _ _=>i==d
 |.agg _=>true
 |.tuple _=>true
 |_=>false
def V.dW(d:Nat):V->Bool
 |.agg cs=>cs.any (V.cQ d)
 |v=>v.cQ d
def V.cI(d:Nat):V->Bool
 |.tuple vs=>vs.any (V.dW d)
 |v=>v.dW d
def V.c5:V->Bool
 |.undef | .agg _ | .tuple _=>false
 |_=>true
def lim:Nat:=4294967296
def Jw(op:BinOp)(k:IntKind)(a b:Int):Option V :=
 match op with
 |.add=>some (.int k (k.wrap (a+b)))
 |.sub=>some (.int k (k.wrap (a-b)))
 |.mul=>some (.int k (k.wrap (a*b)))
 |.quo=>if b=0 then none else some (.int k (k.wrap (a.tdiv b)))
 |.rem=>if b=0 then none else some (.int k (a.tmod b))
 |.shr=>if b<0 then none else some (.int k (a.fdiv (2 ^ (min b.toNat k.bits))))
 |.eql=>some (.bool (a==b))
 |.neq=>some (.bool (a != b))
 |.lss=>some (.bool (decide (a<b)))
 |.leq=>some (.bool (decide (a<=b)))
 |.gtr=>some (.bool (decide (a>b)))
 |.geq=>some (.bool (decide (a≥b)))
 |_=>none
def V.bin(op:BinOp):V->V->Option V
 |.int k a,.int k' b=>bif decide (k=k') then Jw op k a b else none
 |_,_=>none
def kc:Nat->V->V->Option Bool
 |0,.int k a,.int k' b=>bif decide (k=k') then some (a==b) else none
 |1,.bool a,.bool b=>some (a==b)
 |2,.str a,.str b=>some (a==b)
 |_,_,_=>none
def eD:List Nat->List V->List V->Option Bool
 |[],_,_=>some true
 |k::ks,a::as,b::bs=>match kc k a b,eD ks as bs with
  |some p,some q=>some (p&&q)
  |_,_=>none
 |_,_,_=>none
def V.iI(neg:Bool)(ks:List Nat):V->V->Option V
 |.agg cs,.agg ds=>bif cs.length==ks.length&&ds.length==ks.length then match eD ks cs ds with
  |some b=>some (.bool (bif neg then !b else b))
  |none=>none
  else none
 |_,_=>none
def V.oW(ag:Bool)(ks:List Nat)(a b:V):Option Bool :=
 match ag with
 |true=>match a,b with
  |.agg cs,.agg ds=>bif cs.length==ks.length&&ds.length==ks.length then eD ks cs ds else none
  |_,_=>none
 |false=>match ks with
  |[k]=>kc k a b
  |_=>none
def oX(ag:Bool)(ks:List Nat)(k:V):List (V×V)->Nat->Option (Option (Nat×V))
 |[],_=>some none
 |(q,v)::es,i=>match V.oW ag ks k q with
  |some true=>some (some (i,v))
  |some false=>oX ag ks k es (i+1)
  |none=>none
def V.un(op:UnOp):V->Option V
 |.bool b=>match op with
  |.not=>some (.bool !b)
  |_=>none
 |.int k n=>match op with
  |.neg=>some (.int k (k.wrap (0-n)))
  |_=>none
 |_=>none
def St.pC(S:St):V->Option (List V×Nat)
 |.bn id off=>match look id S.aY with
  |some cs=>some (cs,off)
  |none=>none
 |.bu id off=>match S.aC[id]? with
  |some (.cells cs)=>some (cs,off)
  |_=>none
 |.ff row off=>some (row,off)
 |_=>none
def loadAt(sz:Option Nat)(cs:List V)(off:Nat):Option V :=
 match sz with
 |none=>cs[off]?
 |some n=>bif Nat.ble (off+n) cs.length then some (.agg ((cs.drop off).take n)) else none
def jE:List V->Nat->List V->List V
 |cs,_,[]=>cs
 |cs,off,v::vs=>jE (cs.set off v) (off+1) vs
def chunks(sz:Nat)(cs:List V):Nat->Nat->List (List V)
 |_,0=>[]
 |off,n+1=>(cs.drop off).take sz::chunks sz cs (off+sz) n
def ju(sh:Sh):List (List V)->Option (List (List V))
 |[]=>some []
 |r::rs=>match oV sh r,ju sh rs with
  |some u,some us=>some (u::us)
  |_,_=>none
def vx(root:kE)(v:V):V :=
 match root with
 |.aC=>v.ml
 |_=>v
def St.take(S:St)(cD:Nat):V->Option (V×List (Nat×Nat)×Option (List aM))
 |.bu id off=>match S.aC[id]? with
  |some (.cells cs)=>match cs[off]? with
   |some (.eC n es)=>some (.slice (some cD) n es,[(cD,es.length)],some (S.aC.set id (aM.cells (cs.set off (.slice none n es)))))
   |some v=>some (v.ml,[],none)
   |none=>none
  |_=>none
 |_=>none
def St.Ae(S:St)(cD:Nat):V->V->Option (List (Nat×Nat)×List aM)
 |.bu id off,.slice (some f) n es=>match S.aC[id]?,(bif f==cD then look cD S.bo else none) with
  |some (.cells cs),some k=>bif k==es.length&&Nat.blt off cs.length then
    some ([(cD,k+1)],S.aC.set id (aM.cells (cs.set off (.eC n es)))) else none
  |_,_=>none
 |_,_=>none
def St.rows(S:St)(sh:Sh):V->Option (List (List V))
 |.cj=>some []
 |.slice _ n es=>bif n==sh.length then some es else none
 |.er _=>some []
 |.gF _=>some []
 |_=>none
def St.uo(S:St)(sh:Sh):V->Option (List (List V))
 |.bY id s len=>match look id S.aY with
  |some cs=>bif (s==sh.length)&&Nat.blt 0 sh.length&&Nat.ble (len*sh.length) cs.length then ju sh (chunks sh.length cs 0 len) else none
  |none=>none
 |_=>none
def St.Ns(S:St)(sh:Sh)(id s off n:Nat):Option (List (List V)) :=
 match look id S.aY with
 |some cs=>bif (s==sh.length)&&Nat.blt 0 sh.length&&Nat.ble (off*sh.length+n*sh.length) cs.length then ju sh (chunks sh.length cs (off*sh.length) n) else none
 |none=>none
def St.jR(S:St)(oy:Option Nat)(sh:Sh)(v:V):Option (List (List V)) :=
 match oy with
 |none=>S.rows sh v
 |some j=>match v with
  |.bY i s n=>bif i==j then S.uo sh (.bY i s n) else none
  |.fQ i s off n=>bif i==j then S.Ns sh i s off n else none
  |v=>S.rows sh v
def r8(S:St):List bG->Option (List V)
 |[]=>some []
 |x::xs=>match S.ev x,r8 S xs with
  |some v,some vs=>some (v::vs)
  |_,_=>none
def uq(S:St):List (Nat×Nat×bG)->List V->Option (List V)
 |[],cs=>some cs
 |(off,n,x)::ps,cs=>match S.ev x with
  |some v=>bif v.cells.length==n&&Nat.ble (off+n) cs.length&&v.cells.all V.c5 then uq S ps (jE cs off v.cells) else none
  |none=>none
def xB(S:St)(sh:Sh):List (Nat×bG)->List (List V)->Option (List (List V))
 |[],rs=>some rs
 |(i,x)::ps,rs=>match S.ev x with
  |some v=>match oV sh v.cells with
   |some r=>bif Nat.blt i rs.length then xB S sh ps (rs.set i r) else none
   |none=>none
  |none=>none
def St.A8(S:St)(src:Option Nat):V->Option (List V)
 |.cj=>some []
 |.er _=>some []
 |.gF _=>some []
 |.slice _ n es=>bif n==1 then some es.flatten else none
 |.bY id s n=>match (match src with|some j=>look j S.aY|none=>none) with
  |some cs=>bif src==some id&&(s==1)&&Nat.ble n cs.length then some (cs.take n) else none
  |none=>none
 |.fQ id s off n=>match (match src with|some j=>look j S.aY|none=>none) with
  |some cs=>bif src==some id&&(s==1)&&Nat.ble (off+n) cs.length then some ((cs.drop off).take n) else none
  |none=>none
 |_=>none
def iY:V->V
 |.slice _ n es=>.slice none n es
 |v=>v
def strip:V->V
 |.agg cs=>.agg (cs.map iY)
 |v=>iY v
def db(reg:List (Nat×Nat)):Nat->List V->List V×List (Nat×Nat)
 |_,[]=>([],[])
 |i,v::vs =>
  let r:=db reg (i+1) vs
  match v with
  |.slice (some _) n es=>match look i reg with
   |some f=>(.slice (some f) n es::r.1,(f,es.length)::r.2)
   |none=>(.slice none n es::r.1,r.2)
  |v=>(strip v::r.1,r.2)
def recv(reg:List (Nat×Nat)):V->V×List (Nat×Nat)
 |.tuple vs=>((.tuple (db reg 0 vs).1),(db reg 0 vs).2)
 |.agg cs=>((.agg (db reg 0 cs).1),(db reg 0 cs).2)
 |v=>match db reg 0 [v] with
  |([u],ts)=>(u,ts)
  |_=>(.undef,[])
def oY(S:St):List (Sh×bG)->Option (List V)
 |[]=>some []
 |(sh,x)::xs=>match S.ev x with
  |some v=>match CR sh v,oY S xs with
   |some u,some us=>some (u::us)
   |_,_=>none
  |none=>none
def r9(sh:Sh):V->Option V
 |.agg cs=>match oV sh cs with|some cs=>some (.agg cs)|none=>none
 |.fn f []=>some (.fn f [])
 |v=>match sh with | [h]=>el h v|_=>none
def oZ(S:St):List (Sh×bG)->Option (List V)
 |[]=>some []
 |(sh,x)::xs=>match S.ev x with
  |some v=>match r9 sh v,oZ S xs with
   |some u,some us=>some (u::us)
   |_,_=>none
  |none=>none
def St.Eu(S:St)(ids:List Nat)(rs:Sh)(id s n:Nat):Option V :=
 bif ids.contains id then (match S.uo rs (.bY id s n) with|some es=>some (V.slice none rs.length es)|none=>none) else none
def St.CS(S:St)(ids:List Nat)(rs:Sh)(id s off n:Nat):Option V :=
 bif ids.contains id then (match look id S.aY with
  |some cs=>bif (s==rs.length)&&Nat.blt 0 rs.length&&Nat.ble (off*rs.length+n*rs.length) cs.length then (match ju rs (chunks rs.length cs (off*rs.length) n) with|some es=>some (V.slice none rs.length es)|none=>none) else none
  |none=>none) else none
def nm(S:St)(ids:List Nat):List (Sh×Sh×bG)->Option (List V)
 |[]=>some []
 |(rs,sh,x)::xs=>match (match S.ev x with
   |some (.bY id s n)=>S.Eu ids rs id s n
   |some (.fQ id s off n)=>S.CS ids rs id s off n
   |some v=>r9 sh v
   |none=>none),nm S ids xs with
  |some u,some us=>some (u::us)
  |_,_=>none
def V.jF:V->Bool
 |.slice .. => true
 |v=>v.plain
def V.jS:V->Bool
 |.agg cs=>cs.all V.jF
 |v=>v.jF
def V.lone:V->Bool
 |.tuple vs=>vs.all V.jS
 |v=>v.jS
def V.sc:V->Bool
 |.int .. | .bool .. | .str .. => true
 |_=>false
def V.lO:V->Bool
 |.slice (some _) n es=>es.all λr=>r.length==n&&r.all V.sc
 |v=>v.sc
def V.tE:V->Bool
 |.tuple vs=>vs.all V.sc
 |.agg cs=>cs.all V.sc
 |v=>v.sc
def pD(id:Nat):Nat->List V->Option (List V×Option (List V))
 |_,[]=>none
 |0,v::vs=>match v with
  |.slice (some _) n es=>bif es.all (λr=>r.length==n&&r.all V.sc)&&vs.all V.lO then
    (bif es.isEmpty then some (.er n::vs.map strip,none) else some (.bY id n es.length::vs.map strip,some es.flatten)) else none
  |_=>none
 |p+1,v::vs=>bif v.lO then match pD id p vs with
  |some (us,o)=>some (strip v::us,o)
  |none=>none
  else none
def lP(id pos:Nat):V->Option (V×Option (List V))
 |.tuple vs=>match pD id pos vs with
  |some (us,o)=>some (.tuple us,o)
  |none=>none
 |v=>match pD id pos [v] with
  |some ([u],o)=>some (u,o)
  |_=>none
def Ev:List V->Option (List V)
 |[]=>some []
 |.bu i o::vs=>match Ev vs with
  |some us=>some (.bu i o::us)
  |none=>none
 |_=>none
abbrev bI:=FuncId->List V->List aM->Option (V×List aM)
def St.fits(S:St)(root:kE)(x:bG):Bool :=
 match S.ev x with
 |some a=>root.fits a
 |none=>false
def Ew(x:Int):List Int->List Int
 |[]=>[x]
 |y::ys=>bif decide (x<=y) then x::y::ys else y::Ew x ys
def qg:List Int->List Int
 |[]=>[]
 |x::xs=>Ew x (qg xs)
def dedup:List Int->List Int
 |[]=>[]
 |[x]=>[x]
 |x::y::r=>bif x==y then dedup (y::r) else x::dedup (y::r)
def xC(k:Nat)(zs:List Int):List Int :=
 match k with
 |0=>qg zs
 |_=>dedup zs++List.replicate (zs.length-(dedup zs).length) 0
def Ex(k id:Nat)(zs:List Int):V :=
 match k with
 |0=>.tuple []
 |_=>.bY id 1 (dedup zs).length
def Af:List V->Option (List Int)
 |[]=>some []
 |.int .i64 n::vs=>match Af vs with
  |some zs=>some (n::zs)
  |none=>none
 |_=>none
def St.mut(S:St)(k i:Nat)(d:Option Nat)(v:Option V):Option St :=
 match v with
 |some (.bY id s n)=>match look i S.aY with
  |some cs=>bif id==i&&(s==1)&&Nat.ble n cs.length&&Nat.ble n lim&&Nat.blt 0 n then match Af (cs.take n) with
   |some zs=>some ({ S with aY:=(i,(xC k zs).map (V.int .i64)++cs.drop n)::S.aY }.put d (Ex k i zs))
   |none=>none
   else none
  |none=>none
 |_=>none
def V.part:V->Option (Nat×Nat×Nat)
 |.cO i 1 n=>some (i,0,n)
 |.jg i 1 off n=>some (i,off,n)
 |_=>none
def Jx(G:List aM):Option (Nat×Nat×Nat)->Option (List aM)
 |some (i,off,n)=>match G[i]? with
  |some (.cells cs)=>bif Nat.ble (off+n) cs.length&&Nat.blt 0 n then some (G.set i (.cells (jE cs off (List.replicate n (.int .i64 0))))) else none
  |_=>none
 |none=>none
open Classical in
noncomputable def rd{α:Type}(G G':List aM)(x:α):Option α:=if G'=G then some x else none
noncomputable def VO.run(C:bI)(d:Option Nat)(S:St):VO->Option St
 |.mv x=>match S.ev x with
  |some v=>some (S.put d v)
  |none=>none
 |.pick c a b=>match S.ev c with
  |some (.bool t)=>match bif t then S.ev a else S.ev b with
   |some v=>some (S.put d v)
   |none=>none
  |_=>none
 |.obj id cells=>some ({ S with aY:=(id,cells)::S.aY }.put d (.bn id 0))
 |.box id x=>match S.ev x with
  |some v=>bif v.cells.all V.c5 then some ({ S with aY:=(id,v.cells)::S.aY }.put d (.bn id 0)) else none
  |none=>none
 |.yB sh x=>match S.ev x with
  |some v=>match oz sh v.cells with
   |some cs=>some ({ S with aC:=S.aC++[aM.cells cs] }.put d (.bu S.aC.length 0))
   |none=>none
  |none=>none
 |.yC sh zero=>match oz sh zero with
  |some cs=>some ({ S with aC:=S.aC++[aM.cells cs] }.put d (.bu S.aC.length 0))
  |none=>none
 |.yD=>some ({ S with aC:=S.aC++[aM.map []] }.put d (.map S.aC.length))
 |.Ac ag ks zero ok x k=>match S.ev x,S.ev k with
  |some (.map i),some kv=>match S.aC[i]?,V.oW ag ks kv kv with
   |some (.map es),some _=>match oX ag ks kv es 0 with
    |some (some (_,v))=>some (S.put d (bif ok then .tuple [v,.bool true] else v))
    |some none=>some (S.put d (bif ok then .tuple [zero,.bool false] else zero))
    |none=>none
   |_,_=>none
  |_,_=>none
 |.yE ag ks sh x k y=>match S.ev x,S.ev k,S.ev y with
  |some (.map i),some kv,some v=>match S.aC[i]?,V.oW ag ks kv kv,CR sh v with
   |some (.map es),some _,some u=>match oX ag ks kv es 0 with
    |some (some (j,_))=>some { S with aC:=S.aC.set i (aM.map (es.set j (kv,u))) }
    |some none=>some { S with aC:=S.aC.set i (aM.map (es++[(kv,u)])) }
    |none=>none
   |_,_,_=>none
  |_,_,_=>none
 |.build zero parts=>match uq S parts zero with
  |some cs=>some (S.put d (.agg cs))
  |none=>none
 |.lit tok sh zero ln parts=>match xB S sh parts (List.replicate ln zero) with
  |some rs=>match tok with
   |some f=>some ({ S with bo:=(f,ln)::S.bo }.put d (.slice (some f) sh.length rs))
   |none=>some (S.put d (.slice none sh.length rs))
  |none=>none
 |.load root sz p=>match S.ev p with
  |some a=>bif root.fits a then match S.pC a with
   |some (cs,off)=>match loadAt sz cs off with
    |some v=>some (S.put d (vx root v))
    |none=>none
   |none=>none
   else none
  |none=>none
 |.vt cD p=>match S.ev p with
  |some a=>match S.take cD a with
   |some (v,ts,G)=>some ({ S with bo:=ts++S.bo,aC:=(match G with|some G=>G|none=>S.aC) }.put d v)
   |none=>none
  |none=>none
 |.xt cD p x=>match S.ev p,S.ev x with
  |some a,some v=>match S.Ae cD a v with
   |some (ts,G)=>some { S with bo:=ts++S.bo,aC:=G }
   |none=>none
  |_,_=>none
 |.store root sh p x=>bif S.fits root p then match S.ev p,S.ev x with
  |some (.bn id off),some v=>match look id S.aY with
   |some cs=>bif v.cells.length==sh.length&&Nat.ble (off+sh.length) cs.length&&v.cells.all V.c5&&Nat.blt 0 sh.length then
     some { S with aY:=(id,jE cs off v.cells)::S.aY } else none
   |none=>none
  |some (.bu id off),some v=>match S.aC[id]? with
   |some (.cells cs)=>match oz sh v.cells with
    |some vs=>bif Nat.ble (off+vs.length) cs.length&&Nat.blt 0 vs.length then some { S with aC:=S.aC.set id (aM.cells (jE cs off vs)) } else none
    |none=>none
   |_=>none
  |_,_=>none
  else none
 |.xu x=>match S.ev x with
  |some (.bn i o)=>some (S.put d (.bn i o))
  |some (.bu i o)=>some (S.put d (.bu i o))
  |some (.ff r o)=>some (S.put d (.ff r o))
  |_=>none
 |.bin op x y=>match S.ev x,S.ev y with
  |some a,some b=>match V.bin op a b with
   |some v=>some (S.put d v)
   |none=>none
  |_,_=>none
 |.beq neg x y=>match S.ev x,S.ev y with
  |some (.bool a),some (.bool b)=>some (S.put d (.bool (bif neg then a != b else a==b)))
  |_,_=>none
 |.iI neg ks x y=>match S.ev x,S.ev y with
  |some a,some b=>match V.iI neg ks a b with
   |some v=>some (S.put d v)
   |none=>none
  |_,_=>none
 |.un op x=>match S.ev x with
  |some a=>match V.un op a with
   |some v=>some (S.put d v)
   |none=>none
  |none=>none
 |.conv k x=>match S.ev x with
  |some (.int _ n)=>some (S.put d (.int k (k.wrap n)))
  |_=>none
 |.xv off x=>match S.ev x with
  |some (.bn i o)=>some (S.put d (.bn i (o+off)))
  |some (.bu i o)=>some (S.put d (.bu i (o+off)))
  |some (.ff r o)=>some (S.put d (.ff r (o+off)))
  |_=>none
 |.r7 (some n) sz x i=>match S.ev x,S.ev i with
  |some a,some (.int _ k)=>bif decide (0<=k)&&decide (k<n) then match a with
    |.bn i o=>some (S.put d (.bn i (o+k.toNat*sz)))
    |.bu i o=>some (S.put d (.bu i (o+k.toNat*sz)))
    |.ff r o=>some (S.put d (.ff r (o+k.toNat*sz)))
    |_=>none
   else none
  |_,_=>none
 |.r7 none sz x i=>match S.ev x,S.ev i with
  |some (.slice _ m es),some (.int _ k)=>bif decide (0<=k)&&(m==sz) then match es[k.toNat]? with
    |some r=>some (S.put d (.ff r 0))
    |none=>none
   else none
  |some (.bY id s ln),some (.int _ k)=>bif decide (0<=k)&&decide (k<ln)&&(s==sz) then some (S.put d (.bn id (k.toNat*sz))) else none
  |some (.cO id s ln),some (.int _ k)=>bif decide (0<=k)&&decide (k<ln)&&(s==sz) then some (S.put d (.bu id (k.toNat*sz))) else none
  |_,_=>none
 |.field off sz x=>match S.ev x with
  |some (.agg cs)=>match loadAt sz cs off with
   |some v=>some (S.put d v)
   |none=>none
  |_=>none
 |.A7 n=>some (S.put d (.er n))
 |.yI neg x=>match S.ev x with
  |some .cj=>some (S.put d (.bool !neg))
  |some (.gF _)=>some (S.put d (.bool neg))
  |some (.slice _ _ (_::_))=>some (S.put d (.bool neg))
  |_=>none
 |.len x=>match S.ev x with
  |some .cj=>some (S.put d (.int .i64 0))
  |some (.er _)=>some (S.put d (.int .i64 0))
  |some (.gF _)=>some (S.put d (.int .i64 0))
  |some (.slice _ _ es)=>some (S.put d (.int .i64 es.length))
  |some (.bY _ _ n)=>some (S.put d (.int .i64 n))
  |some (.cO _ _ n)=>some (S.put d (.int .i64 n))
  |_=>none
 |.grow _ id n=>match S.ev n with
  |some (.int .i64 k)=>bif decide (0<=k)&&decide (k<=lim) then some ({ S with aY:=(id,[])::S.aY }.put d (.bY id 1 0)) else none
  |_=>none
 |.yH x=>match S.ev x with
  |some v=>match Jx S.aC v.part with
   |some G=>some ({ S with aC:=G }.put d (.tuple []))
   |none=>none
  |none=>none
 |.yG id src x y=>match S.ev x,S.ev y with
  |some (.bY i s n),some b=>match look id S.aY,S.A8 src b with
   |some cs,some us=>bif i==id&&(s==1)&&Nat.ble n cs.length&&us.all V.sc then
     some ({ S with aY:=(id,us.take n++cs.drop (us.take n).length)::S.aY }.put d (.int .i64 (us.take n).length)) else none
   |_,_=>none
  |_,_=>none
 |.app cD src oy sh mx x y=>match S.ev x,S.ev y with
  |some .cj,some b=>match S.jR oy sh b with
   |some ys=>bif Nat.ble ys.length mx then some ({ S with bo:=(cD,ys.length)::S.bo }.put d (.slice (some cD) sh.length ys)) else none
   |none=>none
  |some (.er _),some b=>match S.jR oy sh b with
   |some ys=>bif Nat.ble ys.length mx then some ({ S with bo:=(cD,ys.length)::S.bo }.put d (.slice (some cD) sh.length ys)) else none
   |none=>none
  |some (.slice (some f) n es),some b=>match S.jR oy sh b with
   |some ys=>match (bif src==some f then look f S.bo else none) with
    |some k=>bif k==es.length&&(n==sh.length)&&Nat.ble (es.length+ys.length) mx then
      some ({ S with bo:=(f,es.length+ys.length)::S.bo }.put d (.slice (some f) n (es++ys))) else none
    |none=>none
   |none=>none
  |_,_=>none
 |.wB new src oy sh x y=>match S.ev x,S.ev y with
  |some .cj,some b=>match S.jR oy sh b with
   |some ys=>bif ys.isEmpty then some (S.put d .cj) else
     bif Nat.ble ys.length lim then some ({ S with aY:=(new,ys.flatten)::S.aY }.put d (.bY new sh.length ys.length)) else none
   |none=>none
  |some (.er n),some b=>match S.jR oy sh b with
   |some ys=>bif ys.isEmpty then some (S.put d (.er n)) else
     bif Nat.ble ys.length lim then some ({ S with aY:=(new,ys.flatten)::S.aY }.put d (.bY new sh.length ys.length)) else none
   |none=>none
  |some (.bY id s ln),some b=>match S.jR oy sh b,look src S.aY with
   |some ys,some cs=>bif (id==src)&&(s==sh.length)&&(cs.length==ln*s)&&Nat.ble (ln+ys.length) lim then
     some ({ S with aY:=(new,cs++ys.flatten)::S.aY.filter λp => !(p.1==src) }.put d (.bY new sh.length (ln+ys.length))) else
     bif oy.isNone&&(id==src)&&(s==sh.length)&&Nat.ble (ln*s) cs.length&&Nat.ble (ln+ys.length) lim then
     some ({ S with aY:=(new,cs.take (ln*s)++ys.flatten)::S.aY.filter λp => !(p.1==src) }.put d (.bY new sh.length (ln+ys.length))) else none
   |_,_=>none
  |_,_=>none
 |.ext x i=>match S.ev x with
  |some (.tuple vs)=>match vs[i]? with
   |some v=>some (S.put d v)
   |none=>none
  |_=>none
 |.call false f args reg=>match S.ev f,oY S args with
  |some (.fn g cap),some vs=>match C g (vs++cap) S.aC with
   |some (r,G)=>some ({ S with aC:=G,bo:=(recv reg r).2++S.bo }.put d (recv reg r).1)
   |none=>none
  |_,_=>none
 |.call true f args reg=>match S.ev f,oZ S args with
  |some (.fn g []),some vs=>match C g vs [] with
   |some (r,_)=>bif r.lone then some ({ S with bo:=(recv reg r).2++S.bo }.put d (recv reg r).1) else none
   |none=>none
  |_,_=>none
 |.um f args=>match S.ev f,oY S args with
  |some (.fn g cap),some vs=>match C g (vs++cap) S.aC with
   |some (r,G)=>rd S.aC G (S.put d (recv [] r).1)
   |none=>none
  |_,_=>none
 |.Ad k _ id x=>S.mut k id d (S.ev x)
 |.vu f args ids=>match S.ev f,nm S ids args with
  |some (.fn g []),some vs=>match C g vs [] with
   |some (r,_)=>bif r.tE then some (S.put d r) else none
   |none=>none
  |_,_=>none
 |.own f args ids id pos=>match S.ev f,nm S ids args with
  |some (.fn g []),some vs=>match C g vs [] with
   |some (r,_)=>match lP id pos r with
    |some (v,some cs)=>some ({ S with aY:=(id,cs)::S.aY }.put d v)
    |some (v,none)=>some (S.put d v)
    |none=>none
   |none=>none
  |_,_=>none
 |.vv f args id=>match S.ev f,oZ S args with
  |some (.fn g []),some vs=>match C g vs [] with
   |some (r,_)=>match lP id 0 r with
    |some (.bY i n ln,some cs)=>bif i==id&&Nat.blt 0 cs.length&&Nat.blt 0 ln&&cs.all V.sc then some ({ S with aC:=S.aC++[aM.cells cs] }.put d (.cO S.aC.length n ln)) else none
    |some (.er n,none)=>some ({ S with aC:=S.aC++[aM.cells []] }.put d (.cO S.aC.length n 0))
    |_=>none
   |none=>none
  |_,_=>none
 |.xy id zero n=>match S.ev n with
  |some (.int _ k)=>bif decide (0<=k)&&decide (k<=lim) then
    some ({ S with aY:=(id,(List.replicate k.toNat zero).flatten)::S.aY }.put d (.bY id zero.length k.toNat)) else none
  |_=>none
 |.yJ sz x lo hi=>match S.ev x with
  |some (.slice _ m es) =>
   match S.lx lo 0,S.lx hi es.length with
   |some (.int _ a),some (.int _ b)=>bif decide (0<=a)&&decide (a<=b)&&decide (b<=es.length)&&(m==sz) then
     some (S.put d (.slice none sz ((es.take b.toNat).drop a.toNat))) else none
   |_,_=>none
  |some .cj =>
   match S.lx lo 0,S.lx hi 0 with
   |some (.int _ a),some (.int _ b)=>bif decide (a=0)&&decide (b=0) then some (S.put d .cj) else none
   |_,_=>none
  |some (.bY id s ln) =>
   match S.lx lo 0,S.lx hi ln with
   |some (.int _ a),some (.int _ b)=>bif decide (0<=a)&&decide (a<=b)&&decide (b<=ln)&&(s==sz) then
     bif decide (a=0) then some (S.put d (.bY id s b.toNat)) else bif decide (a<ln) then some (S.put d (.fQ id s a.toNat (b-a).toNat)) else some (S.put d (.slice none s []))
     else none
   |_,_=>none
  |some (.cO id s ln) =>
   match S.lx lo 0,S.lx hi ln with
   |some (.int _ a),some (.int _ b)=>bif decide (0<=a)&&decide (a<=b)&&decide (b<=ln)&&(s==sz) then
     bif decide (a=0) then some (S.put d (.cO id s b.toNat)) else bif decide (a<ln) then some (S.put d (.jg id s a.toNat (b-a).toNat)) else none
     else none
   |_,_=>none
  |_=>none
 |.xA mx x y z=>match S.ev x,S.ev y,S.ev z with
  |some (.int k a),some (.int _ b),some (.int _ c)=>some (S.put d (.int k (bif mx then max (max a b) c else min (min a b) c)))
  |_,_,_=>none
 |.mm mx x y=>match S.ev x,S.ev y with
  |some (.int k a),some (.int _ b)=>some (S.put d (.int k (bif mx then max a b else min a b)))
  |_,_=>none
 |.yK f cap=>match r8 S cap with
  |some vs=>match Ev vs with
   |some us=>some (S.put d (.fn f us))
   |none=>none
  |none=>none
noncomputable def cf.run(C:bI)(o:cf)(S:St):Option St :=
 match o.guard with
 |none=>o.op.run C o.dst S
 |some (g,want)=>match look g S.env with
  |some (.bool b)=>bif b==want then o.op.run C o.dst S else some (S.put o.dst .undef)
  |some .undef=>some (S.put o.dst .undef)
  |_=>none
noncomputable def iZ(C:bI):List cf->St->Option St
 |[],S=>some S
 |o::os,S=>match o.run C S with
  |some S'=>iZ C os S'
  |none=>none
def xD{α:Type}(env:List (Nat×α)):List Nat->List (Nat×α)
 |[]=>[]
 |s::r=>match look s env with
  |some v=>(s,v)::xD env r
  |none=>xD env r
def St.keep(S:St)(k:dG):St :=
 {env:=xD S.env k.e,aY:=xD S.aY k.o,bo:=xD S.bo k.t,aC:=S.aC }
def St.clean(S:St):List Nat->Option St
 |[]=>some S
 |d::ds =>
  let env:=S.env.filter λp => !(p.1==d)
  let aY:=S.aY.filter λp => !(p.1==d)
  let bo:=S.bo.filter λp => !(p.1==d)
  bif env.all (λp => !p.2.cI d)&&aY.all (λp=>p.2.all λv => !v.cQ d) then St.clean { env,aY,bo,aC:=S.aC } ds else none
def V.forget(cD:Nat):V->V
 |.slice (some f) n es=>bif f==cD then .slice none n es else .slice (some f) n es
 |v=>v
def V.kF(a b:Nat):V->V
 |.bY i s n=>bif i==a then .bY b s n else .bY i s n
 |v=>v
def St.pB(S:St)(id off cD sz:Nat):Option St :=
 match look id S.aY with
  |some cs=>match cs[off]? with
   |some .cj=>match St.clean S [cD] with
    |some S=>match look id S.aY with
     |some cs=>some { S with aY:=(id,cs.set off (.slice (some cD) sz []))::S.aY,bo:=(cD,0)::S.bo }
     |none=>none
    |none=>none
   |_=>some S
  |none=>some S
def St.tD(S:St)(s id sz:Nat):Option St :=
 match St.clean { S with env:=S.env.filter λp => !(p.1==s) } [id] with
 |some S=>some { S with env:=(s,.bY id sz 0)::S.env,aY:=(id,[])::S.aY }
 |none=>none
def St.share(S:St)(s n:Nat)(es:List (List V)):St :=
 {S with env:=(s,.cO S.aC.length n es.length)::S.env,aC:=S.aC++[aM.cells es.flatten] }
def St.GI(G:List aM)(kG:List Sh):V->Option (V×List Sh×List aM)
 |.cO i n len=>match kG,G[i]? with
  |sh::kG,some (.cells cs)=>bif n==sh.length&&Nat.blt 0 n&&Nat.ble (len*n) cs.length then match ju sh (chunks sh.length (cs.map V.kq) 0 len) with
   |some es=>some (.slice none n es,kG,G.set i (.cells []))
   |none=>none
   else none
  |_,_=>none
 |v=>some (v,kG,G)
def yM:List aM->List Sh->List V->Option (List V×List aM)
 |G,_,[]=>some ([],G)
 |G,kG,v::vs=>match St.GI G kG v with
  |some (u,kG,G)=>match yM G kG vs with
   |some (us,G)=>some (u::us,G)
   |none=>none
  |none=>none
def St.yL(S:St)(id off a sz:Nat):Option St :=
 match look id S.aY with
 |some cs=>match cs[off]? with
  |some .cj=>match St.clean S [a] with
   |some S=>match look id S.aY with
    |some cs=>some { S with aY:=(id,cs.set off (.bY a sz 0))::(a,[])::S.aY }
    |none=>none
   |none=>none
  |_=>some S
 |none=>some S
def St.CP(S:St)(a b id off:Nat):Option St :=
 match look id S.aY with
 |some ds=>match ds[off]? with
  |some (.bY i s n)=>bif i==a && !(id==a) then (match St.clean S [b] with
   |some S=>match look a S.aY,look id S.aY with
    |some cs,some ds=>some { S with aY:=(id,ds.set off (.bY b s n))::(b,cs)::(S.aY.filter λp => !(p.1==id)).filter λp => !(p.1==a) }
    |_,_=>none
   |none=>none) else some S
  |_=>some S
 |none=>some S
def St.CQ(S:St)(id off:Nat)(sh:Sh):Option St :=
 match look id S.aY with
 |some ds=>match ds[off]? with
  |some (.bY a s n)=>bif n==0 then some { S with aY:=(id,ds.set off (.slice none sh.length []))::S.aY } else
   match S.uo sh (.bY a s n),St.clean { S with aY:=S.aY.filter λp => !(p.1==id) } [a] with
   |some es,some S=>bif a==id then none else some { S with aY:=(id,ds.set off (.cO S.aC.length sh.length n))::S.aY,aC:=S.aC++[aM.cells es.flatten] }
   |_,_=>none
  |_=>some S
 |none=>some S
def iP.run(S:St):iP->Option St
 |.yL id off a sz=>S.yL id off a sz
 |.CP a b id off=>S.CP a b id off
 |.CQ id off sh=>S.CQ id off sh
 |.tD s id sz=>match look s S.env with
  |some .cj=>S.tD s id sz
  |some (.er _)=>S.tD s id sz
  |_=>some S
 |.share s sh=>match look s S.env with
  |some (.bY id n len)=>match S.uo sh (.bY id n len),St.clean { S with env:=S.env.filter λp => !(p.1==s) } [id] with
   |some es,some S=>some (S.share s sh.length es)
   |_,_=>none
  |some .cj=>some (S.share s sh.length [])
  |some (.er _)=>some (S.share s sh.length [])
  |_=>none
 |.GH id kG=>match look id S.aY with
  |some cs=>match yM S.aC kG cs with
   |some (us,G)=>some { S with aY:=(id,us)::S.aY.filter λp => !(p.1==id),aC:=G }
   |none=>none
  |none=>some S
 |.norm s cD sz=>match look s S.env with
  |some .cj=>match St.clean { S with env:=S.env.filter λp => !(p.1==s) } [cD] with
   |some S=>some { S with env:=(s,.slice (some cD) sz [])::S.env,bo:=(cD,0)::S.bo }
   |none=>none
  |some (.er _)=>match St.clean { S with env:=S.env.filter λp => !(p.1==s) } [cD] with
   |some S=>some { S with env:=(s,.slice (some cD) sz [])::S.env,bo:=(cD,0)::S.bo }
   |none=>none
  |_=>some S
 |.pB id off cD sz=>S.pB id off cD sz
 |.freeze s sh=>match look s S.env with
  |some (.bY id off len)=>match S.uo sh (.bY id off len) with
   |some es=>some { S with env:=(s,.slice none sh.length es)::S.env,aY:=S.aY.filter λp => !(p.1==id) }
   |none=>none
  |_=>some S
 |.Np id off sh=>match look id S.aY with
  |some cs=>match cs[off]? with
   |some (.bY i s n)=>match S.uo sh (.bY i s n) with
    |some es=>bif i==id then none else some { S with aY:=(id,cs.set off (.slice none sh.length es))::(S.aY.filter λp => !(p.1==i)).filter λp => !(p.1==id) }
    |none=>none
   |_=>some S
  |none=>some S
 |.kF a b=>match St.clean S [b] with
  |some S=>match look a S.aY with
   |some cs=>some { S with env:=S.env.map (λp=>(p.1,V.kF a b p.2)),aY:=(b,cs)::S.aY.filter λp => !(p.1==a) }
   |none=>some S
  |none=>none
def qh:List iP->St->Option St
 |[],S=>some S
 |g::gs,S=>match g.run S with
  |some S=>qh gs S
  |none=>none
inductive sa where
 |normal
 |exit (id:Nat)
 |ret
 deriving Inhabited
def iter(body:St->Option (sa×St)):Nat->St->Option (sa×St)
 |0,_=>none
 |n+1,S=>match body S with
  |some (.normal,S')=>iter body n S'
  |some (.exit i,S')=>some (.exit i,S')
  |some (.ret,S')=>some (.ret,S')
  |none=>none
noncomputable def VC.run(C:bI)(n:Nat):VC->St->Option (sa×St)
 |.skip,S=>some (.normal,S)
 |.region gh ids ops keep,S=>match qh gh S with
  |some S=>match S.clean ids with
   |some S=>match iZ C ops S with
    |some S=>some (.normal,S.keep keep)
    |none=>none
   |none=>none
  |none=>none
 |.seq a b,S=>match VC.run C n a S with
  |some (.normal,S')=>VC.run C n b S'
  |some (.exit i,S')=>some (.exit i,S')
  |some (.ret,S')=>some (.ret,S')
  |none=>none
 |.cond c a b,S=>match S.ev c with
  |some (.bool t)=>bif t then VC.run C n a S else VC.run C n b S
  |_=>none
 |.block id a,S=>match VC.run C n a S with
  |some (.normal,S')=>some (.normal,S')
  |some (.exit i,S')=>bif i==id then some (.normal,S') else some (.exit i,S')
  |some (.ret,S')=>some (.ret,S')
  |none=>none
 |.loop gh keep a,S=>match qh gh S with
  |some S=>iter (λS=>VC.run C n a (S.keep keep)) n S
  |none=>none
 |.exit id,S=>some (.exit id,S)
 |.dead,_=>none
 |.ret,S=>some (.ret,S)
 |.Es gh,S=>match qh gh S with
  |some S=>some (.ret,S)
  |none=>none
def CT(S:St)(sh:Option Nat)(used:List Nat):V->Option (V×List Nat)
 |.cj=>match sh with
  |some n=>some (.slice (some 0) n [],used)
  |none=>none
 |.er n=>some (.slice (some 0) n [],used)
 |.slice (some f) n es=>match look f S.bo with
  |some k=>bif k==es.length && !used.contains f then some (.slice (some 0) n es,f::used) else some (.slice none n es,used)
  |none=>some (.slice none n es,used)
 |.slice none n es=>some (.slice none n es,used)
 |v=>match sL sh v with
  |some v=>some (v,used)
  |none=>none
def pE(S:St):Sh->List Nat->List V->Option (List V×List Nat)
 |[],used,[]=>some ([],used)
 |h::sh,used,v::vs=>match CT S h used v with
  |some (u,used)=>match pE S sh used vs with
   |some (us,used)=>some (u::us,used)
   |none=>none
  |none=>none
 |_,_,_=>none
def CU(S:St)(used:List Nat):vw->Option (V×List Nat)
 |.t s sh=>match look s S.env with
  |some (.agg cs)=>match pE S sh used cs with
   |some (us,used)=>some (.agg us,used)
   |none=>none
  |some v=>match sh with
   |[h]=>CT S h used v
   |_=>none
  |none=>none
 |.c s agg sh=>match look s S.env with
  |some (.bn id 0)=>match look id S.aY with
   |some cs=>match pE S sh used cs with
    |some (us,used)=>some (Nr agg us,used)
    |none=>none
   |none=>none
  |_=>none
def yN(S:St):List Nat->List vw->Option (List V)
 |_,[]=>some []
 |used,r::rs=>match CU S used r with
  |some (v,used)=>match yN S used rs with
   |some vs=>some (v::vs)
   |none=>none
  |none=>none
def yO(S:St)(rs:List vw):Option V :=
 match yN S [] rs with
 |some [v]=>some v
 |some vs=>some (.tuple vs)
 |none=>none
def sM:Nat->List V->List (Nat×V)
 |_,[]=>[]
 |i,v::vs=>(i,v)::sM (i+1) vs
noncomputable def bb.call(C:bI)(n:Nat)(f:bb)(args:List V)(G:List aM):Option (V×List aM) :=
 bif args.length==f.nparams then
  match VC.run C n f.body { env:=sM 0 args,aY:=[],bo:=[],aC:=G } with
  |some (.normal,S)|some (.ret,S)=>match yO S f.results with
   |some v=>some (v,S.aC)
   |none=>none
  |_=>none
 else none
def sN(C:bI)(args:List V):List FuncId->List aM->Option (List aM)
 |[],G=>some G
 |f::fs,G=>match C f args G with
  |some (_,G')=>sN C args fs G'
  |none=>none
def wrap(C:bI)(vf:bb)(args:List V)(o:Option (V×List aM)):Option (V×List aM) :=
 match o with
 |none=>none
 |some (r,G)=>match vf.defs with
  |[]=>some (r,G)
  |fs=>match args with
   |[.bu _ _]=>match sN C args fs.reverse G with
    |some G'=>some (.tuple [],G')
    |none=>none
   |_=>none
noncomputable def bb.one(C:bI)(n:Nat)(vf:bb)(args:List V)(G:List aM):Option (V×List aM):=wrap C vf args (vf.call C n args G)
open Classical in
noncomputable def bb.both(C:bI)(n:Nat)(vf:bb)(p m:Nat)(args:List V)(G:List aM):Option (V×List aM) :=
 if vf.one C n (args.set p .cj) G=vf.one C n (args.set p (.gF m)) G then vf.one C n (args.set p .cj) G else none
noncomputable def bb.CV(C:bI)(n:Nat)(vf:bb)(args:List V)(G:List aM):Option (V×List aM) :=
 match vf.split with
 |none=>vf.one C n args G
 |some p=>match args[p]? with
  |some (.slice none m [])=>vf.both C n p m args G
  |_=>vf.one C n args G
noncomputable def call(F:FuncId->Option bb):Nat->bI
 |0=>λ_ _ _=>none
 |n+1=>λf args G=>match F f with
  |some vf=>vf.CV (call F n) n args G
  |none=>none

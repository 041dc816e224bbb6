/- The value machine, 13: what an operation reads and writes; operations that touch different things may change places. -/
import Derived.Test.YtocclbnghhaejaaGreatVmC
namespace Go.Vm
set_option linter.all false
inductive Key where
 |e (s:Nat)
 |o (id:Nat)
 |t (f:Nat)
 |g
 deriving DecidableEq
def same(S S':St):Key→Prop
 |.e s=>look s S.env=look s S'.env
 |.o id=>look id S.aU=look id S'.aU
 |.t f=>look f S.bg=look f S'.bg
 |.g=>S.aF=S'.aF
theorem R7(S:St)(k:Key):same S S k:=by cases k<;>rfl
theorem HV{S S':St}{k:Key}(h:same S S' k):same S' S k:=by cases k<;>exact Eq.symm h
theorem HW{S S' ER:St}{k:Key}(h:same S S' k)(h':same S' ER k):same S ER k:=by cases k<;>exact Eq.trans h h'
def Alike(S S':St):Prop:=∀k,same S S' k
structure Out where
 v:Option V
 obj:Option (Nat×List V)
 bg:List (Nat×Nat)
 aF:Option (List aP)
 del:Option Nat
def Out.val(v:V):Out:=⟨some v,none,[],none,none⟩
def Out.aU(u:Out)(aU:List (Nat×List V)):List (Nat×List V):=match u.obj with
 |some p=>p::(match u.del with|some i=>aU.filter (fun q => !(q.1==i))|none=>aU)
 |none=>aU
def Out.app(u:Out)(d:Option Nat)(S:St):St :=
 let T:St:={ env:=S.env,aU:=u.aU S.aU,bg:=u.bg++S.bg,aF:=(match u.aF with|some G=>G|none=>S.aF) }
 match u.v with
 |some v=>T.put d v
 |none=>T
noncomputable def VO.cP(C:bw)(S:St):VO→Option Out
 |.mv x=>match S.ev x with
  |some v=>some (.val v)
  |none=>none
 |.pick c a b=>match S.ev c with
  |some (.bool t)=>match bif t then S.ev a else S.ev b with
   |some v=>some (.val v)
   |none=>none
  |_=>none
 |.obj id cells=>some ⟨some (.bf id 0),some (id,cells),[],none,none⟩
 |.box id x=>match S.ev x with
  |some v=>bif v.cells.all V.cI then some ⟨some (.bf id 0),some (id,v.cells),[],none,none⟩ else none
  |none=>none
 |.tp sh x=>match S.ev x with
  |some v=>match lX sh v.cells with
   |some cs=>some ⟨some (.bG S.aF.length 0),none,[],some (S.aF++[aP.cells cs]),none⟩
   |none=>none
  |none=>none
 |.tq sh zero=>match lX sh zero with
  |some cs=>some ⟨some (.bG S.aF.length 0),none,[],some (S.aF++[aP.cells cs]),none⟩
  |none=>none
 |.tr=>some ⟨some (.map S.aF.length),none,[],some (S.aF++[aP.map []]),none⟩
 |.uD ag ks zero ok x k=>match S.ev x,S.ev k with
  |some (.map i),some kv=>match S.aF[i]?,V.mo ag ks kv kv with
   |some (.map es),some _=>match mq ag ks kv es 0 with
    |some (some (_,v))=>some (.val (bif ok then .tuple [v,.bool true] else v))
    |some none=>some (.val (bif ok then .tuple [zero,.bool false] else zero))
    |none=>none
   |_,_=>none
  |_,_=>none
 |.tu ag ks sh x k y=>match S.ev x,S.ev k,S.ev y with
  |some (.map i),some kv,some v=>match S.aF[i]?,V.mo ag ks kv kv,yN sh v with
   |some (.map es),some _,some u=>match mq ag ks kv es 0 with
    |some (some (j,_))=>some ⟨none,none,[],some (S.aF.set i (aP.map (es.set j (kv,u)))),none⟩
    |some none=>some ⟨none,none,[],some (S.aF.set i (aP.map (es++[(kv,u)]))),none⟩
    |none=>none
   |_,_,_=>none
  |_,_,_=>none
 |.build zero parts=>match qn S parts zero with
  |some cs=>some (.val (.agg cs))
  |none=>none
 |.lit tok sh zero ln parts=>match tB S sh parts (List.replicate ln zero) with
  |some rs=>match tok with
   |some f=>some ⟨some (.slice (some f) sh.length rs),none,[(f,ln)],none,none⟩
   |none=>some (.val (.slice none sh.length rs))
  |none=>none
 |.load root sz p=>match S.ev p with
  |some a=>bif root.fits a then match S.nF a with
   |some (cs,off)=>match loadAt sz cs off with
    |some v=>some (.val (Av root v))
    |none=>none
   |none=>none
   else none
  |none=>none
 |.sB bZ p=>match S.ev p with
  |some a=>match S.take bZ a with
   |some (v,ts,G)=>some ⟨some v,none,ts,G,none⟩
   |none=>none
  |none=>none
 |.tw bZ p x=>match S.ev p,S.ev x with
  |some a,some v=>match S.vN bZ a v with
   |some (ts,G)=>some ⟨none,none,ts,some G,none⟩
   |none=>none
  |_,_=>none
 |.store root sh p x=>bif S.fits root p then match S.ev p,S.ev x with
  |some (.bf id off),some v=>match look id S.aU with
   |some cs=>bif v.cells.length==sh.length&&Nat.ble (off+sh.length) cs.length&&v.cells.all V.cI&&Nat.blt 0 sh.length then
     some ⟨none,some (id,jg cs off v.cells),[],none,none⟩ else none
   |none=>none
  |some (.bG id off),some v=>match S.aF[id]? with
   |some (.cells cs)=>match lX sh v.cells with
    |some vs=>bif Nat.ble (off+vs.length) cs.length&&Nat.blt 0 vs.length then some ⟨none,none,[],some (S.aF.set id (aP.cells (jg cs off vs))),none⟩ else none
    |none=>none
   |_=>none
  |_,_=>none
  else none
 |.app bZ src sh mx x y=>match S.ev x,S.ev y with
  |some .bV,some b=>match S.rows sh b with
   |some ys=>bif Nat.ble ys.length mx then some ⟨some (.slice (some bZ) sh.length ys),none,[(bZ,ys.length)],none,none⟩ else none
   |none=>none
  |some (.dR _),some b=>match S.rows sh b with
   |some ys=>bif Nat.ble ys.length mx then some ⟨some (.slice (some bZ) sh.length ys),none,[(bZ,ys.length)],none,none⟩ else none
   |none=>none
  |some (.slice (some f) n es),some b=>match S.rows sh b with
   |some ys=>match (bif src==some f then look f S.bg else none) with
    |some k=>bif k==es.length&&(n==sh.length)&&Nat.ble (es.length+ys.length) mx then
      some ⟨some (.slice (some f) n (es++ys)),none,[(f,es.length+ys.length)],none,none⟩ else none
    |none=>none
   |none=>none
  |_,_=>none
 |.call false f args reg=>match S.ev f,mr S args with
  |some (.fn g cap),some vs=>match C g (vs++cap) S.aF with
   |some (r,G)=>some ⟨some (recv reg r).1,none,(recv reg r).2,some G,none⟩
   |none=>none
  |_,_=>none
 |.call true f args reg=>match S.ev f,mw S args with
  |some (.fn g []),some vs=>match C g vs [] with
   |some (r,_)=>bif r.lone then some ⟨some (recv reg r).1,none,(recv reg r).2,none,none⟩ else none
   |none=>none
  |_,_=>none
 |.qk f args=>match S.ev f,mr S args with
  |some (.fn g cap),some vs=>match C g (vs++cap) S.aF with
   |some (r,G)=>rd S.aF G (.val (recv [] r).1)
   |none=>none
  |_,_=>none
 |.uH k _ i x=>match S.ev x with
  |some (.bQ id s n)=>match look i S.aU with
   |some cs=>bif id==i&&(s==1)&&Nat.ble n cs.length&&Nat.ble n lim&&Nat.blt 0 n then match vO (cs.take n) with
    |some zs=>some ⟨some (Az k i zs),some (i,(tC k zs).map (V.int .i64)++cs.drop n),[],none,none⟩
    |none=>none
    else none
   |none=>none
  |_=>none
 |.grow _ id n=>match S.ev n with
  |some (.int .i64 k)=>bif decide (0≤k)&&decide (k≤lim) then some ⟨some (.bQ id 1 0),some (id,[]),[],none,none⟩ else none
  |_=>none
 |.tv id src x y=>match S.ev x,S.ev y with
  |some (.bQ i s n),some b=>match look id S.aU,S.wW src b with
   |some cs,some us=>bif i==id&&(s==1)&&Nat.ble n cs.length&&us.all V.sc then
     some ⟨some (.int .i64 (us.take n).length),some (id,us.take n++cs.drop (us.take n).length),[],none,none⟩ else none
   |_,_=>none
  |_,_=>none
 |.ql f args ids=>match S.ev f,kY S ids args with
  |some (.fn g []),some vs=>match C g vs [] with
   |some (r,_)=>bif r.oS then some (.val r) else none
   |none=>none
  |_,_=>none
 |.own f args ids id pos=>match S.ev f,kY S ids args with
  |some (.fn g []),some vs=>match C g vs [] with
   |some (r,_)=>match j8 id pos r with
    |some (v,some cs)=>some ⟨some v,some (id,cs),[],none,none⟩
    |some (v,none)=>some (.val v)
    |none=>none
   |none=>none
  |_,_=>none
 |.qm f args id=>match S.ev f,mw S args with
  |some (.fn g []),some vs=>match C g vs [] with
   |some (r,_)=>match j8 id 0 r with
    |some (.bQ i n ln,some cs)=>bif i==id&&Nat.blt 0 cs.length&&Nat.blt 0 ln&&cs.all V.sc then some ⟨some (.dh S.aF.length n ln),none,[],some (S.aF++[aP.cells cs]),none⟩ else none
    |some (.dR n,none)=>some ⟨some (.dh S.aF.length n 0),none,[],some (S.aF++[aP.cells []]),none⟩
    |_=>none
   |none=>none
  |_,_=>none
 |.sE id zero n=>match S.ev n with
  |some (.int _ k)=>bif decide (0≤k)&&decide (k≤lim) then
    some ⟨some (.bQ id zero.length k.toNat),some (id,(List.replicate k.toNat zero).flatten),[],none,none⟩ else none
  |_=>none
 |.sD new src sh x y=>match S.ev x,S.ev y with
  |some .bV,some b=>match S.rows sh b with
   |some ys=>bif ys.isEmpty then some (.val .bV) else
     bif Nat.ble ys.length lim then some ⟨some (.bQ new sh.length ys.length),some (new,ys.flatten),[],none,none⟩ else none
   |none=>none
  |some (.dR n),some b=>match S.rows sh b with
   |some ys=>bif ys.isEmpty then some (.val (.dR n)) else
     bif Nat.ble ys.length lim then some ⟨some (.bQ new sh.length ys.length),some (new,ys.flatten),[],none,none⟩ else none
   |none=>none
  |some (.bQ id s ln),some b=>match S.rows sh b,look src S.aU with
   |some ys,some cs=>bif (id==src)&&(s==sh.length)&&(cs.length==ln*s)&&Nat.ble (ln+ys.length) lim then
     some ⟨some (.bQ new sh.length (ln+ys.length)),some (new,cs++ys.flatten),[],none,some src⟩ else none
   |_,_=>none
  |_,_=>none
 |vo=>(vo.run C (some 0) { S with env:=S.env,aU:=[],bg:=[],aF:=[] }).bind fun S'=>match S'.env with
  |(_,v)::_=>some (.val v)
  |[]=>none
theorem LO(S:St)(x:bq):(St.mk S.env [] [] []).ev x=S.ev x:=by cases x<;>rfl
theorem adO(S:St)(x:Option bq)(n:Nat):(St.mk S.env [] [] []).kW x n=S.kW x n:=by cases x<;>first|rfl|exact LO S _
theorem R8(S:St):∀xs:List bq,ox (St.mk S.env [] [] []) xs=ox S xs
 |[]=>rfl
 |x::xs=>by simp only[ox,LO,R8 S xs]
theorem rI(S:St)(d:Option Nat)(v:V):(Out.val v).app d S=S.put d v:=by cases d<;>rfl
theorem xq{S S':St}(e:S'.env=S.env)(x:bq):S'.ev x=S.ev x:=by cases x<;>simp[St.ev,e]
theorem R9{S S':St}(e:S'.env=S.env)(x:Option bq)(n:Nat):S'.kW x n=S.kW x n:=by cases x<;>first|rfl|exact xq e _
theorem Sa{S S':St}(e:S'.env=S.env):∀xs:List bq,ox S' xs=ox S xs
 |[]=>rfl
 |x::xs=>by simp only[ox,xq e,Sa e xs]
def VO.cG(S' S:St):VO→Prop
 |.sC x | .un _ x | .conv _ x | .ri _ x | .arr _ _ x | .field _ _ x | .len x | .tx x | .uF x | .uG _ x | .ext x _=>S'.ev x=S.ev x
 |.bin _ x y | .beq _ x y | .iy _ _ x y | .na _ _ x y | .idx _ _ _ x y | .mm _ x y=>S'.ev x=S.ev x∧S'.ev y=S.ev y
 |.tA _ x y z=>S'.ev x=S.ev x∧S'.ev y=S.ev y∧S'.ev z=S.ev z
 |.uI _ x lo hi=>S'.ev x=S.ev x∧(∀n,S'.kW lo n=S.kW lo n)∧(∀n,S'.kW hi n=S.kW hi n)
 |.uJ _ cap=>ox S' cap=ox S cap
 |_=>True
def LP(C:bw)(S:St)(vo:VO):Prop:=∃r:Option V,∀d S',VO.cG S' S vo→vo.run C d S'=r.map fun v=>S'.put d v
def VO.frame:VO→Bool
 |.wV _ | .uG .. | .sC _ | .bin .. | .beq .. | .iy .. | .un .. | .conv .. | .ri .. | .arr .. | .na .. | .idx .. | .field .. | .len _ | .tx _ | .uF _ | .ext .. | .uI .. | .mm .. | .tA .. | .uJ .. => true
 |_=>false
theorem HX(C:bw)(S:St)(vo:VO)(h:vo.frame=true):vo.cP C S=(vo.run C (some 0) (St.mk S.env [] [] [])).bind fun S'=>match S'.env with
  |(_,v)::_=>some (.val v)
  |[]=>none:=by
 cases vo<;>first|rfl|cases h
set_option maxHeartbeats 1000000 in
theorem Sb(C:bw)(S:St)(vo:VO)(rC:vo.frame=true):LP C S vo:=by
 have no:(∀d S',VO.cG S' S vo→vo.run C d S'=none)→LP C S vo:=fun h=>⟨none,h⟩;have yes:∀v,(∀d S',VO.cG S' S vo→vo.run C d S'=some (S'.put d v))→LP C S vo:=fun v h=>⟨some v,h⟩;cases vo with
 |sC x =>
  cases hx:S.ev x with
  |none=>exact no fun d S' e=>by simp only[VO.cG]at e;simp[VO.run,e,hx]
  |some a=>cases a<;>first|(refine no fun d S' e=>?_;simp only[VO.cG]at e;simp[VO.run,e,hx];done)|(refine yes _ fun d S' e=>Eq.trans (by simp only[VO.cG]at e;simp only[VO.run,e,hx];exact rfl) rfl)
 |bin op x y =>
  cases hx:S.ev x with
  |none=>exact no fun d S' e=>by simp only[VO.cG]at e;simp[VO.run,e,hx]
  |some a =>
   cases hy:S.ev y with
   |none=>exact no fun d S' e=>by simp only[VO.cG]at e;simp[VO.run,e,hx,hy]
   |some b =>
    cases hz:V.bin op a b with
    |none=>exact no fun d S' e=>by simp only[VO.cG]at e;simp[VO.run,e,hx,hy,hz]
    |some v=>exact yes v fun d S' e=>by simp only[VO.cG]at e;simp[VO.run,e,hx,hy,hz]
 |iy neg ks x y =>
  cases hx:S.ev x with
  |none=>exact no fun d S' e=>by simp only[VO.cG]at e;simp[VO.run,e,hx]
  |some a =>
   cases hy:S.ev y with
   |none=>exact no fun d S' e=>by simp only[VO.cG]at e;simp[VO.run,e,hx,hy]
   |some b =>
    cases hz:V.iy neg ks a b with
    |none=>exact no fun d S' e=>by simp only[VO.cG]at e;simp[VO.run,e,hx,hy,hz]
    |some v=>exact yes v fun d S' e=>by simp only[VO.cG]at e;simp[VO.run,e,hx,hy,hz]
 |beq neg x y =>
  cases hx:S.ev x with
  |none=>exact no fun d S' e=>by simp only[VO.cG]at e;simp[VO.run,e,hx]
  |some a =>
   cases hy:S.ev y with
   |none=>exact no fun d S' e=>by simp only[VO.cG]at e;cases a<;>simp[VO.run,e,hx,hy]
   |some b=>cases a<;>cases b<;>first|(refine no fun d S' e=>?_;simp only[VO.cG]at e;simp[VO.run,e,hx,hy];done)|(refine yes _ fun d S' e=>Eq.trans (by simp only[VO.cG]at e;simp only[VO.run,e,hx,hy];exact rfl) rfl)
 |un op x =>
  cases hx:S.ev x with
  |none=>exact no fun d S' e=>by simp only[VO.cG]at e;simp[VO.run,e,hx]
  |some a =>
   cases hz:V.un op a with
   |none=>exact no fun d S' e=>by simp only[VO.cG]at e;simp[VO.run,e,hx,hz]
   |some v=>exact yes v fun d S' e=>by simp only[VO.cG]at e;simp[VO.run,e,hx,hz]
 |conv k x =>
  cases hx:S.ev x with
  |none=>exact no fun d S' e=>by simp only[VO.cG]at e;simp[VO.run,e,hx]
  |some a=>cases a<;>first|(refine no fun d S' e=>?_;simp only[VO.cG]at e;simp[VO.run,e,hx];done)|(refine yes _ fun d S' e=>Eq.trans (by simp only[VO.cG]at e;simp only[VO.run,e,hx];exact rfl) rfl)
 |arr n sz x =>
  cases hx:S.ev x with
  |none=>exact no fun d S' e=>by simp only[VO.cG]at e;simp[VO.run,e,hx]
  |some a =>
   cases a
   case bf id off =>
    cases off with
    |zero=>exact yes _ fun d S' e=>by simp only[VO.cG]at e;simp[VO.run,e,hx];rfl
    |succ k=>exact no fun d S' e=>by simp only[VO.cG]at e;simp[VO.run,e,hx]
   all_goals exact no fun d S' e=>by simp only[VO.cG]at e;simp[VO.run,e,hx]
 |ri off x =>
  cases hx:S.ev x with
  |none=>exact no fun d S' e=>by simp only[VO.cG]at e;simp[VO.run,e,hx]
  |some a=>cases a<;>first|(refine no fun d S' e=>?_;simp only[VO.cG]at e;simp[VO.run,e,hx];done)|(refine yes _ fun d S' e=>Eq.trans (by simp only[VO.cG]at e;simp only[VO.run,e,hx];exact rfl) rfl)
 |na arr sz x i =>
  cases hx:S.ev x with
  |none=>exact no fun d S' e=>by simp only[VO.cG]at e;cases arr<;>simp[VO.run,e,hx]
  |some a =>
   cases hy:S.ev i with
   |none=>exact no fun d S' e=>by simp only[VO.cG]at e;cases arr<;>cases a<;>simp[VO.run,e,hx,hy]
   |some b =>
    cases b with
    |int k m =>
     cases arr with
     |some n =>
      cases hc:(decide (0≤m)&&decide (m<(n:Int))) with
      |false=>exact no fun d S' e=>by simp only[VO.cG]at e;simp only[VO.run,e,hx,hy,hc,cond_false]
      |true=>cases a<;>first|(refine no fun d S' e=>?_;simp only[VO.cG]at e;simp only[VO.run,e,hx,hy,hc,cond_true];done)|(refine yes _ fun d S' e=>Eq.trans (by simp only[VO.cG]at e;simp only[VO.run,e,hx,hy,hc,cond_true];exact rfl) rfl)
     |none =>
      cases a with
      |slice tk n es =>
       cases hc:(decide (0≤m)&&(n==sz)) with
       |false=>exact no fun d S' e=>by simp only[VO.cG]at e;simp only[VO.run,e,hx,hy,hc,cond_false]
       |true =>
        cases he:es[m.toNat]? with
        |none=>exact no fun d S' e=>by simp only[VO.cG]at e;simp only[VO.run,e,hx,hy,hc,cond_true,he]
        |some r=>exact yes (.eR r 0) fun d S' e=>by simp only[VO.cG]at e;simp only[VO.run,e,hx,hy,hc,cond_true,he]
      |bQ id off n =>
       cases hc:(decide (0≤m)&&decide (m<(n:Int))&&(off==sz)) with
       |false=>exact no fun d S' e=>by simp only[VO.cG]at e;simp only[VO.run,e,hx,hy,hc,cond_false]
       |true=>exact yes (.bf id (m.toNat*sz)) fun d S' e=>by simp only[VO.cG]at e;simp only[VO.run,e,hx,hy,hc,cond_true]
      |dh id off n =>
       cases hc:(decide (0≤m)&&decide (m<(n:Int))&&(off==sz)) with
       |false=>exact no fun d S' e=>by simp only[VO.cG]at e;simp only[VO.run,e,hx,hy,hc,cond_false]
       |true=>exact yes (.bG id (m.toNat*sz)) fun d S' e=>by simp only[VO.cG]at e;simp only[VO.run,e,hx,hy,hc,cond_true]
      |_=>exact no fun d S' e=>by simp only[VO.cG]at e;simp[VO.run,e,hx,hy]
    |_=>exact no fun d S' e=>by simp only[VO.cG]at e;cases arr<;>cases a<;>simp[VO.run,e,hx,hy]
 |idx n sz ag x i =>
  cases hx:S.ev x with
  |none=>exact no fun d S' e=>by simp only[VO.cG]at e;simp[VO.run,e,hx]
  |some a =>
   cases hy:S.ev i with
   |none=>exact no fun d S' e=>by simp only[VO.cG]at e;cases a<;>simp[VO.run,e,hx,hy]
   |some b =>
    cases b with
    |int k m =>
     cases a with
     |agg cs =>
      cases hc:(decide (0≤m)&&decide (m<(n:Int))) with
      |false=>exact no fun d S' e=>by simp only[VO.cG]at e;simp only[VO.run,e,hx,hy,hc,cond_false]
      |true =>
       cases hl:loadAt (bif ag then some sz else none) cs (m.toNat*sz) with
       |none=>exact no fun d S' e=>by simp only[VO.cG]at e;simp only[VO.run,e,hx,hy,hc,cond_true,hl]
       |some v=>exact yes v fun d S' e=>by simp only[VO.cG]at e;simp only[VO.run,e,hx,hy,hc,cond_true,hl]
     |_=>exact no fun d S' e=>by simp only[VO.cG]at e;simp[VO.run,e,hx,hy]
    |_=>exact no fun d S' e=>by simp only[VO.cG]at e;cases a<;>simp[VO.run,e,hx,hy]
 |field off sz x =>
  cases hx:S.ev x with
  |none=>exact no fun d S' e=>by simp only[VO.cG]at e;simp[VO.run,e,hx]
  |some a =>
   cases a with
   |agg cs =>
    cases hl:loadAt sz cs off with
    |none=>exact no fun d S' e=>by simp only[VO.cG]at e;simp only[VO.run,e,hx,hl]
    |some v=>exact yes v fun d S' e=>by simp only[VO.cG]at e;simp only[VO.run,e,hx,hl]
   |_=>exact no fun d S' e=>by simp only[VO.cG]at e;simp[VO.run,e,hx]
 |wV n=>exact yes (.dR n) fun d S' e=>rfl
 |uG neg x =>
  cases hx:S.ev x with
  |none=>exact no fun d S' e=>by simp only[VO.cG]at e;simp[VO.run,e,hx]
  |some a =>
   cases a with
   |slice t n es=>cases es<;>first|(refine no fun d S' e=>?_;simp only[VO.cG]at e;simp[VO.run,e,hx];done)|(refine yes _ fun d S' e=>Eq.trans (by simp only[VO.cG]at e;simp only[VO.run,e,hx];exact rfl) rfl)
   |_=>first|(refine no fun d S' e=>?_;simp only[VO.cG]at e;simp[VO.run,e,hx];done)|(refine yes _ fun d S' e=>Eq.trans (by simp only[VO.cG]at e;simp only[VO.run,e,hx];exact rfl) rfl)
 |len x =>
  cases hx:S.ev x with
  |none=>exact no fun d S' e=>by simp only[VO.cG]at e;simp[VO.run,e,hx]
  |some a=>cases a<;>first|(refine no fun d S' e=>?_;simp only[VO.cG]at e;simp[VO.run,e,hx];done)|(refine yes _ fun d S' e=>Eq.trans (by simp only[VO.cG]at e;simp only[VO.run,e,hx];exact rfl) rfl)
 |uF x =>
  cases hx:S.ev x with
  |none=>exact no fun d S' e=>by simp only[VO.cG]at e;simp[VO.run,e,hx]
  |some a=>cases a<;>first|(refine no fun d S' e=>?_;simp only[VO.cG]at e;simp[VO.run,e,hx];done)|(refine yes _ fun d S' e=>Eq.trans (by simp only[VO.cG]at e;simp only[VO.run,e,hx];exact rfl) rfl)
 |tx x =>
  cases hx:S.ev x with
  |none=>exact no fun d S' e=>by simp only[VO.cG]at e;simp[VO.run,e,hx]
  |some a=>cases a<;>first|(refine no fun d S' e=>?_;simp only[VO.cG]at e;simp[VO.run,e,hx];done)|(refine yes _ fun d S' e=>Eq.trans (by simp only[VO.cG]at e;simp only[VO.run,e,hx];exact rfl) rfl)
 |ext x i =>
  cases hx:S.ev x with
  |none=>exact no fun d S' e=>by simp only[VO.cG]at e;simp[VO.run,e,hx]
  |some a =>
   cases a with
   |tuple vs =>
    cases hl:vs[i]? with
    |none=>exact no fun d S' e=>by simp only[VO.cG]at e;simp only[VO.run,e,hx,hl]
    |some v=>exact yes v fun d S' e=>by simp only[VO.cG]at e;simp only[VO.run,e,hx,hl]
   |_=>exact no fun d S' e=>by simp only[VO.cG]at e;simp[VO.run,e,hx]
 |uI sz x lo hi =>
  cases hx:S.ev x with
  |none=>exact no fun d S' e=>by simp only[VO.cG]at e;simp[VO.run,e,hx]
  |some a =>
   cases a with
   |slice tk m es =>
    cases hl:S.kW lo 0 with
    |none=>exact no fun d S' e=>by simp only[VO.cG]at e;simp[VO.run,e,hx,hl]
    |some p =>
     cases hh:S.kW hi es.length with
     |none=>exact no fun d S' e=>by simp only[VO.cG]at e;cases p<;>simp[VO.run,e,hx,hl,hh]
     |some q =>
      cases p with
      |int k1 l =>
       cases q with
       |int k2 h =>
        cases hc:(decide (0≤l)&&decide (l≤h)&&decide (h≤(es.length:Int))&&(m==sz)) with
        |false=>exact no fun d S' e=>by simp only[VO.cG]at e;simp only[VO.run,e,hx,hl,hh,hc,cond_false]
        |true=>exact yes (.slice none sz ((es.take h.toNat).drop l.toNat)) fun d S' e=>by simp only[VO.cG]at e;simp only[VO.run,e,hx,hl,hh,hc,cond_true]
       |_=>exact no fun d S' e=>by simp only[VO.cG]at e;simp[VO.run,e,hx,hl,hh]
      |_=>exact no fun d S' e=>by simp only[VO.cG]at e;simp[VO.run,e,hx,hl,hh]
   |bV =>
    cases hl:S.kW lo 0 with
    |none=>exact no fun d S' e=>by simp only[VO.cG]at e;simp[VO.run,e,hx,hl]
    |some p =>
     cases hh:S.kW hi 0 with
     |none=>exact no fun d S' e=>by simp only[VO.cG]at e;cases p<;>simp[VO.run,e,hx,hl,hh]
     |some q =>
      cases p with
      |int k1 l =>
       cases q with
       |int k2 h =>
        cases hc:(decide (l=0)&&decide (h=0)) with
        |false=>exact no fun d S' e=>by simp only[VO.cG]at e;simp only[VO.run,e,hx,hl,hh,hc,cond_false]
        |true=>exact yes .bV fun d S' e=>by simp only[VO.cG]at e;simp only[VO.run,e,hx,hl,hh,hc,cond_true]
       |_=>exact no fun d S' e=>by simp only[VO.cG]at e;simp[VO.run,e,hx,hl,hh]
      |_=>exact no fun d S' e=>by simp only[VO.cG]at e;simp[VO.run,e,hx,hl,hh]
   |bQ id s n =>
    cases hl:S.kW lo 0 with
    |none=>exact no fun d S' e=>by simp only[VO.cG]at e;simp[VO.run,e,hx,hl]
    |some p =>
     cases hh:S.kW hi n with
     |none=>exact no fun d S' e=>by simp only[VO.cG]at e;cases p<;>simp[VO.run,e,hx,hl,hh]
     |some q =>
      cases p with
      |int k1 l =>
       cases q with
       |int k2 h =>
        cases hc:(decide (0≤l)&&decide (l≤h)&&decide (h≤(n:Int))&&(s==sz)) with
        |false=>exact no fun d S' e=>by simp only[VO.cG]at e;simp only[VO.run,e,hx,hl,hh,hc,cond_false]
        |true =>
         cases h1:decide (l=0) with
         |true=>exact yes (.bQ id s h.toNat) fun d S' e=>by simp only[VO.cG]at e;simp only[VO.run,e,hx,hl,hh,hc,h1,cond_true]
         |false =>
          cases h2:decide (l<(n:Int)) with
          |true=>exact yes (.fh id s l.toNat (h-l).toNat) fun d S' e=>by simp only[VO.cG]at e;simp only[VO.run,e,hx,hl,hh,hc,h1,h2,cond_true,cond_false]
          |false=>exact no fun d S' e=>by simp only[VO.cG]at e;simp only[VO.run,e,hx,hl,hh,hc,h1,h2,cond_true,cond_false]
       |_=>exact no fun d S' e=>by simp only[VO.cG]at e;simp[VO.run,e,hx,hl,hh]
      |_=>exact no fun d S' e=>by simp only[VO.cG]at e;simp[VO.run,e,hx,hl,hh]
   |_=>exact no fun d S' e=>by simp only[VO.cG]at e;simp[VO.run,e,hx]
 |tA mx x y z =>
  cases hx:S.ev x with
  |none=>exact no fun d S' e=>by simp only[VO.cG]at e;simp[VO.run,e,hx]
  |some a =>
   cases hy:S.ev y with
   |none=>exact no fun d S' e=>by simp only[VO.cG]at e;cases a<;>simp[VO.run,e,hx,hy]
   |some b =>
    cases hz:S.ev z with
    |none=>exact no fun d S' e=>by simp only[VO.cG]at e;cases a<;>cases b<;>simp[VO.run,e,hx,hy,hz]
    |some c =>
     cases a with
     |int k1 a=>cases b with
      |int k2 b=>cases c with
       |int k3 c=>exact yes _ fun d S' e=>Eq.trans (by simp only[VO.cG]at e;simp only[VO.run,e,hx,hy,hz];exact rfl) rfl
       |_=>exact no fun d S' e=>by simp only[VO.cG]at e;simp[VO.run,e,hx,hy,hz]
      |_=>exact no fun d S' e=>by simp only[VO.cG]at e;simp[VO.run,e,hx,hy,hz]
     |_=>exact no fun d S' e=>by simp only[VO.cG]at e;simp[VO.run,e,hx,hy,hz]
 |mm mx x y =>
  cases hx:S.ev x with
  |none=>exact no fun d S' e=>by simp only[VO.cG]at e;simp[VO.run,e,hx]
  |some a =>
   cases hy:S.ev y with
   |none=>exact no fun d S' e=>by simp only[VO.cG]at e;cases a<;>simp[VO.run,e,hx,hy]
   |some b=>cases a<;>cases b<;>first|(refine no fun d S' e=>?_;simp only[VO.cG]at e;simp[VO.run,e,hx,hy];done)|(refine yes _ fun d S' e=>Eq.trans (by simp only[VO.cG]at e;simp only[VO.run,e,hx,hy];exact rfl) rfl)
 |uJ f cap =>
  cases hx:ox S cap with
  |none=>exact no fun d S' e=>by simp only[VO.cG]at e;simp[VO.run,e,hx]
  |some vs =>
   cases hg:Ax vs with
   |none=>exact no fun d S' e=>by simp only[VO.cG]at e;simp only[VO.run,e,hx,hg]
   |some us=>exact yes (.fn f us) fun d S' e=>by simp only[VO.cG]at e;simp only[VO.run,e,hx,hg]
 |_=>cases rC
theorem nT{α β:Type}(c:Bool)(x y:Option α)(f:α→β):(bif c then x else y).map f=bif c then x.map f else y.map f:=by cases c<;>rfl
theorem LQ{S S':St}(e:S'.env=S.env)(vo:VO):VO.cG S' S vo:=by
 cases vo<;>first
  |trivial
  |exact xq e _
  |exact⟨xq e _,xq e _⟩
  |exact⟨xq e _,xq e _,xq e _⟩
  |exact⟨xq e _,fun n=>R9 e _ n,fun n=>R9 e _ n⟩
  |exact Sa e _
theorem adP(C:bw)(d:Option Nat)(S:St)(vo:VO)(h:vo.frame=true):vo.run C d S=(vo.cP C S).map fun u=>u.app d S:=by
 obtain⟨r,hr⟩:=Sb C S vo h;rw[HX C S vo h,hr d S (LQ (S':=S) rfl vo),hr (some 0) (St.mk S.env [] [] []) (LQ (by rfl) vo)]
 cases r<;>simp[rI,St.put]
theorem ao5(C:bw)(d:Option Nat)(S:St)(vo:VO):vo.run C d S=(vo.cP C S).map fun u=>u.app d S:=by
 cases vo with
 |mv x=>simp only[VO.run,VO.cP];cases S.ev x<;>simp[rI]
 |pick c a b =>
  simp only[VO.run,VO.cP];cases S.ev c with
  |none=>rfl
  |some v =>
   cases v<;>try rfl
   rename_i t;cases t<;>simp only[cond_true,cond_false]
   ·cases S.ev b<;>simp[rI]
   ·cases S.ev a<;>simp[rI]
 |obj id cells=>rfl
 |box id x =>
  simp only[VO.run,VO.cP];cases S.ev x with
  |none=>rfl
  |some v=>simp only[nT];cases v.cells.all V.cI<;>rfl
 |tp sh x =>
  simp only[VO.run,VO.cP];cases S.ev x with
  |none=>rfl
  |some v=>simp only;cases lX sh v.cells<;>rfl
 |tq sh zero=>simp only[VO.run,VO.cP];cases lX sh zero<;>rfl
 |tr=>rfl
 |uD ag ks zero ok x k =>
  simp only[VO.run,VO.cP];split
  ·split
   ·split<;>simp_all[rI]
   ·simp_all
  ·simp_all
 |tu ag ks sh x k y =>
  simp only[VO.run,VO.cP];split
  ·split
   ·split<;>simp_all[Out.app,Out.aU]
   ·simp_all
  ·simp_all
 |build zero parts=>simp only[VO.run,VO.cP];cases qn S parts zero<;>simp[rI]
 |lit tok sh zero ln parts =>
  simp only[VO.run,VO.cP];cases tB S sh parts (List.replicate ln zero) with
  |none=>rfl
  |some rs=>cases tok<;>simp[rI]<;>rfl
 |load root sz p =>
  simp only[VO.run,VO.cP];cases S.ev p with
  |none=>rfl
  |some a =>
   simp only[nT];cases root.fits a
   ·rfl
   ·simp only[cond_true]
    cases S.nF a with
    |none=>rfl
    |some q =>
     obtain⟨cs,off⟩:=q;simp only;cases loadAt sz cs off<;>simp[rI]
 |ql f args ids =>
  simp only[VO.run,VO.cP];cases S.ev f with
  |none=>rfl
  |some a =>
   cases a<;>try rfl
   rename_i g cap;cases cap with
   |cons _ _=>rfl
   |nil =>
    cases kY S ids args with
    |none=>rfl
    |some vs =>
     simp only;cases C g vs [] with
     |none=>rfl
     |some q =>
      obtain⟨r,G⟩:=q;simp only[nT];cases r.oS<;>simp[rI]
 |sB bZ p =>
  simp only[VO.run,VO.cP];cases S.ev p with
  |none=>rfl
  |some a =>
   simp only;cases S.take bZ a with
   |none=>rfl
   |some q=>rfl
 |tw bZ p x =>
  simp only[VO.run,VO.cP];cases S.ev p with
  |none=>rfl
  |some a =>
   cases S.ev x with
   |none=>rfl
   |some v =>
    simp only;cases S.vN bZ a v with
    |none=>rfl
    |some q=>rfl
 |store root sh p x =>
  simp only[VO.run,VO.cP];simp only[nT];cases S.fits root p
  ·rfl
  ·simp only[cond_true]
   cases S.ev p with
   |none=>rfl
   |some a =>
    cases S.ev x with
    |none=>cases a<;>rfl
    |some v =>
     cases a<;>try rfl
     ·rename_i id off
      simp only;cases look id S.aU with
      |none=>rfl
      |some cs=>simp only[nT];rfl
     ·rename_i id off
      simp only;cases S.aF[id]? with
      |none=>rfl
      |some o =>
       cases o with
       |map es=>rfl
       |cells cs =>
        simp only;cases lX sh v.cells with
        |none=>rfl
        |some vs=>simp only[nT];rfl
 |app bZ src sh mx x y =>
  simp only[VO.run,VO.cP];cases S.ev x with
  |none=>rfl
  |some a =>
   cases S.ev y with
   |none =>
    cases a<;>try rfl
    rename_i tok n es;cases tok<;>rfl
   |some b =>
    cases a<;>try rfl
    ·simp only
     cases S.rows sh b with
     |none=>rfl
     |some ys=>simp only[nT];rfl
    ·rename_i tok n es
     cases tok with
     |none=>rfl
     |some f =>
      simp only;cases S.rows sh b with
      |none=>rfl
      |some ys =>
       simp only;cases (bif src==some f then look f S.bg else none) with
       |none=>rfl
       |some k=>simp only[nT];rfl
    ·simp only
     cases S.rows sh b with
     |none=>rfl
     |some ys=>simp only[nT];rfl
 |sD nw src sh x y =>
  simp only[VO.run,VO.cP];cases S.ev x with
  |none=>rfl
  |some a =>
   cases S.ev y with
   |none=>cases a<;>rfl
   |some b =>
    cases a<;>try rfl
    ·simp only
     cases S.rows sh b with
     |none=>rfl
     |some ys =>
      simp only[nT];cases ys.isEmpty<;>simp[rI]<;>rfl
    ·simp only
     cases S.rows sh b with
     |none=>rfl
     |some ys =>
      simp only[nT];cases ys.isEmpty<;>simp[rI]<;>rfl
    ·simp only
     cases S.rows sh b with
     |none=>rfl
     |some ys =>
      cases look src S.aU with
      |none=>rfl
      |some cs=>simp only[nT];rfl
 |call alone f args reg =>
  cases alone
  ·simp only[VO.run,VO.cP]
   cases S.ev f with
   |none=>rfl
   |some a =>
    cases a<;>try rfl
    rename_i g cap;cases mr S args with
    |none=>rfl
    |some vs =>
     simp only;cases C g (vs++cap) S.aF with
     |none=>rfl
     |some q=>rfl
  ·simp only[VO.run,VO.cP]
   cases S.ev f with
   |none=>rfl
   |some a =>
    cases a<;>try rfl
    rename_i g cap;cases mw S args with
    |none=>cases cap<;>rfl
    |some vs =>
     cases cap with
     |cons _ _=>rfl
     |nil =>
      simp only;cases C g vs [] with
      |none=>rfl
      |some q=>simp only[nT];rfl
 |qk f args =>
  simp only[VO.run,VO.cP];cases S.ev f with
  |none=>rfl
  |some a =>
   cases a<;>try rfl
   rename_i g cap;cases mr S args with
   |none=>rfl
   |some vs =>
    simp only;cases C g (vs++cap) S.aF with
    |none=>rfl
    |some q =>
     simp only[rd];split<;>simp[rI]
 |own f args ids id pos =>
  simp only[VO.run,VO.cP];cases S.ev f with
  |none=>rfl
  |some a =>
   cases a<;>try rfl
   rename_i g cap;cases kY S ids args with
   |none=>cases cap<;>rfl
   |some vs =>
    cases cap with
    |cons _ _=>rfl
    |nil =>
     simp only;cases C g vs [] with
     |none=>rfl
     |some q =>
      simp only;cases j8 id pos q.1 with
      |none=>rfl
      |some p =>
       obtain⟨v,o⟩:=p;cases o with
       |none=>simp[rI]
       |some cs=>rfl
 |qm f args id =>
  simp only[VO.run,VO.cP];cases S.ev f with
  |none=>rfl
  |some a =>
   cases mw S args with
   |none=>cases a<;>try rfl
          rename_i g cap;cases cap<;>rfl
   |some vs =>
    cases a<;>try rfl
    rename_i g cap;cases cap with
    |cons _ _=>rfl
    |nil =>
     simp only;cases C g vs [] with
     |none=>rfl
     |some q =>
      simp only;cases j8 id 0 q.1 with
      |none=>rfl
      |some p =>
       obtain⟨v,o⟩:=p;cases o with
       |none=>cases v<;>rfl
       |some cs=>cases v<;>try rfl
                 simp only[nT];rfl
 |uH k f i x =>
  simp only[VO.run,VO.cP,St.mut];cases S.ev x with
  |none=>rfl
  |some a =>
   cases a<;>try rfl
   simp only;cases look i S.aU with
   |none=>rfl
   |some cs =>
    simp only[nT];congr 1;generalize vO _=z;cases z<;>rfl
 |sE id zero n =>
  simp only[VO.run,VO.cP];cases S.ev n with
  |none=>rfl
  |some a =>
   cases a<;>try rfl
   simp only[nT];rfl
 |grow f id n =>
  simp only[VO.run,VO.cP];cases S.ev n with
  |none=>rfl
  |some a =>
   cases a<;>try rfl
   rename_i k _;cases k<;>try rfl
   simp only[nT];rfl
 |tv id src x y =>
  simp only[VO.run,VO.cP];cases S.ev x with
  |none=>rfl
  |some a =>
   cases S.ev y with
   |none=>cases a<;>rfl
   |some b =>
    cases a<;>try rfl
    simp only;cases look id S.aU with
    |none=>rfl
    |some cs =>
     cases S.wW src b with
     |none=>rfl
     |some us=>simp only[nT];rfl
 |_=>exact adP C d S _ rfl
def bq.keys:bq→List Key
 |.t s=>[.e s]
 |.c _=>[]
def jx.keys:jx→List Key
 |.loc id=>[.o id]
 |.aF=>[.g]
 |.jK=>[]
def HY:Option bq→List Key
 |some o=>o.keys
 |none=>[]
def ES:Option Nat→List Key
 |some f=>[.t f]
 |none=>[]
def Sd:Option Nat→List Key
 |some j=>[.o j]
 |none=>[]
def VO.rd:VO→List Key
 |.grow _ _ x | .uF x=>x.keys
 |.tv id src x y=>.o id::(Sd src++x.keys++y.keys)
 |.uH _ _ id x=>.o id::x.keys
 |.wV _=>[]
 |.uG _ x=>x.keys
 |.sB _ x=>.g::x.keys
 |.tw f x y=>.g::.t f::(x.keys++y.keys)
 |.mv x | .box _ x | .sC x | .un _ x | .conv _ x | .ri _ x | .arr _ _ x | .field _ _ x | .len x | .tx x | .ext x _ | .sE _ _ x=>x.keys
 |.pick a b c=>a.keys++b.keys++c.keys
 |.obj _ _=>[]
 |.tp _ x=>.g::x.keys
 |.tq _ _ | .tr=>[.g]
 |.uD _ _ _ _ x k=>.g::(x.keys++k.keys)
 |.tu _ _ _ x k y=>.g::(x.keys++k.keys++y.keys)
 |.build _ ps=>ps.flatMap fun p=>p.2.2.keys
 |.lit _ _ _ _ ps=>ps.flatMap fun p=>p.2.keys
 |.load root _ x=>root.keys++x.keys
 |.store root _ x y=>root.keys++x.keys++y.keys
 |.bin _ x y | .beq _ x y | .iy _ _ x y | .na _ _ x y | .idx _ _ _ x y | .mm _ x y=>x.keys++y.keys
 |.tA _ x y z=>x.keys++y.keys++z.keys
 |.app _ src _ _ x y=>ES src++x.keys++y.keys
 |.sD _ src _ x y=>.o src::(x.keys++y.keys)
 |.call alone f args _=>(bif alone then [] else [.g])++f.keys++args.flatMap fun p=>p.2.keys
 |.own f args ids _ _=>ids.map Key.o++(f.keys++args.flatMap fun p=>p.2.2.keys)
 |.qm f args _=>.g::(f.keys++args.flatMap fun p=>p.2.keys)
 |.ql f args ids=>ids.map Key.o++(f.keys++args.flatMap fun p=>p.2.2.keys)
 |.qk f args=>.g::(f.keys++args.flatMap fun p=>p.2.keys)
 |.uI _ x lo hi=>x.keys++HY lo++HY hi
 |.uJ _ cap=>cap.flatMap bq.keys
def VO.wr:VO→List Key
 |.obj id _ | .box id _ | .sE id _ _ | .grow _ id _ | .tv id _ _ _=>[.o id]
 |.tp _ _ | .tq _ _ | .tr | .tu .. | .qm .. => [.g]
 |.lit (some f) _ _ _ _=>[.t f]
 |.store (.loc id) _ _ _=>[.o id]
 |.store _ _ _ _=>[.g]
 |.app f src _ _ _ _=>.t f::ES src
 |.sB f _ | .tw f _ _=>[.g,.t f]
 |.sD nw src _ _ _=>[.o nw,.o src]
 |.call alone _ _ reg=>(bif alone then [] else [.g])++(AQ reg).map .t
 |.own _ _ _ id _=>[.o id]
 |.uH _ _ id _=>[.o id]
 |_=>[]
def bH.rd(o:bH):List Key:=(match o.guard with|some (s,_)=>[.e s] | none=>[])++o.op.rd
def bH.wr(o:bH):List Key:=(match o.dst with|some d=>[.e d] | none=>[])++o.op.wr
def fU(S S':St)(K:List Key):Prop:=∀k∈K,same S S' k
section
variable {S S':St} {C:bw}
theorem dY{x:bq}(h:fU S S' x.keys):S.ev x=S'.ev x:=by
 cases x with
 |t s=>exact h (.e s) (by simp[bq.keys])
 |c v=>rfl
theorem fU.left{K L:List Key}(h:fU S S' (K++L)):fU S S' K:=fun k hk=>h k (List.mem_append_left _ hk)
theorem fU.right{K L:List Key}(h:fU S S' (K++L)):fU S S' L:=fun k hk=>h k (List.mem_append_right _ hk)
theorem Se:∀{xs:List bq},fU S S' (xs.flatMap bq.keys)→ox S xs=ox S' xs
 |[],_=>rfl
 |x::xs,h=>by
  rw[List.flatMap_cons]at h;simp only[ox,dY h.left,Se h.right]
theorem Sf:∀{ps:List (Nat×Nat×bq)} {cs:List V},fU S S' (ps.flatMap fun p=>p.2.2.keys)→qn S ps cs=qn S' ps cs
 |[],_,_=>rfl
 |(off,n,x)::ps,cs,h=>by
  rw[List.flatMap_cons]at h;simp only[qn,dY (x:=x) h.left];split
  ·rw[Sf h.right]
  ·rfl
theorem Sg{sh:Sh}:∀{ps:List (Nat×bq)} {rs:List (List V)},fU S S' (ps.flatMap fun p=>p.2.keys)→tB S sh ps rs=tB S' sh ps rs
 |[],_,_=>rfl
 |(i,x)::ps,rs,h=>by
  rw[List.flatMap_cons]at h;simp only[tB,dY (x:=x) h.left];split
  ·split
   ·rw[Sg h.right]
   ·rfl
  ·rfl
theorem LR:∀{ps:List (Sh×bq)},fU S S' (ps.flatMap fun p=>p.2.keys)→mr S ps=mr S' ps
 |[],_=>rfl
 |(sh,x)::ps,h=>by
  rw[List.flatMap_cons]at h;simp only[mr,dY (x:=x) h.left,LR h.right]
theorem LS:∀{ps:List (Sh×bq)},fU S S' (ps.flatMap fun p=>p.2.keys)→mw S ps=mw S' ps
 |[],_=>rfl
 |(sh,x)::ps,h=>by
  rw[List.flatMap_cons]at h;simp only[mw,dY (x:=x) h.left,LS h.right]
theorem Sj{sh:Sh}{v:V}:S.rows sh v=S'.rows sh v:=by
 unfold St.rows;split<;>rfl
theorem adQ{vo:VO}(h:fU S S' vo.rd):VO.cG S' S vo:=by
 cases vo with
 |sC x=>exact(dY h).symm
 |un op x=>exact(dY h).symm
 |conv k x=>exact(dY h).symm
 |ri off x=>exact(dY h).symm
 |arr n sz x=>exact(dY h).symm
 |field off sz x=>exact(dY h).symm
 |uG neg x=>exact(dY h).symm
 |len x=>exact(dY h).symm
 |tx x=>exact(dY h).symm
 |uF x=>exact(dY h).symm
 |ext x i=>exact(dY h).symm
 |bin op x y=>exact⟨(dY h.left).symm,(dY h.right).symm⟩
 |beq neg x y=>exact⟨(dY h.left).symm,(dY h.right).symm⟩
 |iy neg ks x y=>exact⟨(dY h.left).symm,(dY h.right).symm⟩
 |na arr sz x y=>exact⟨(dY h.left).symm,(dY h.right).symm⟩
 |idx n sz ag x y=>exact⟨(dY h.left).symm,(dY h.right).symm⟩
 |mm mx x y=>exact⟨(dY h.left).symm,(dY h.right).symm⟩
 |tA mx x y z =>
  have h1:fU S S' (x.keys++y.keys++z.keys):=h;exact⟨(dY h1.left.left).symm,(dY h1.left.right).symm,(dY h1.right).symm⟩
 |uI sz x lo hi =>
  have h1:fU S S' (x.keys++HY lo++HY hi):=h;refine⟨(dY h1.left.left).symm,fun n=>?_,fun n=>?_⟩
  ·cases lo with
   |none=>rfl
   |some o=>exact(dY h1.left.right).symm
  ·cases hi with
   |none=>rfl
   |some o=>exact(dY h1.right).symm
 |uJ f cap=>exact(Se h).symm
 |_=>trivial
theorem adR{vo:VO}(rC:vo.frame=true)(h:fU S S' vo.rd):vo.cP C S=vo.cP C S':=by
 obtain⟨r,hr⟩:=Sb C S vo rC;rw[HX C S vo rC,HX C S' vo rC,hr (some 0) _ (LQ (by rfl) vo)]
 have h1:=adQ h;have h2:VO.cG (St.mk S'.env [] [] []) S vo:=by
  cases vo<;>simp only[VO.cG,LO,adO,R8]at h1 ⊢ <;> exact h1
 rw[hr (some 0) _ h2];cases r<;>rfl
theorem adS{root:jx}{a:V}(hf:root.fits a=true)(h:fU S S' root.keys):S.nF a=S'.nF a:=by
 cases root with
 |loc i =>
  cases a<;>simp[jx.fits]at hf;rename_i id off;subst hf;have:look i S.aU=look i S'.aU:=h (.o i) (by simp[jx.keys])
  simp only[St.nF,this]
 |aF =>
  cases a<;>simp[jx.fits]at hf;have:S.aF=S'.aF:=h .g (by simp[jx.keys])
  simp only[St.nF,this]
 |jK =>
  cases a<;>simp[jx.fits]at hf;rfl
theorem LU{ids:List Nat}(ho:∀id∈ids,look id S.aU=look id S'.aU):∀{ps:List (Sh×Sh×bq)},fU S S' (ps.flatMap fun p=>p.2.2.keys)→kY S ids ps=kY S' ids ps
 |[],_=>rfl
 |(rs,sh,x)::ps,h=>by
  rw[List.flatMap_cons]at h;have h1:S.ev x=S'.ev x:=dY h.left;have h2:=LU ho (ps:=ps) h.right;have h3:∀id s n,S.Aw ids rs id s n=S'.Aw ids rs id s n:=fun id s n=>by
   unfold St.Aw;cases hc:ids.contains id with
   |false=>rfl
   |true=>simp only[cond_true,St.sH,ho id (by simpa using hc)]
  have h4:∀id s off n,S.yO ids rs id s off n=S'.yO ids rs id s off n:=fun id s off n=>by
   unfold St.yO;cases hc:ids.contains id with
   |false=>rfl
   |true=>simp only[cond_true,ho id (by simpa using hc)]
  simp only[kY,h1,h2];cases S'.ev x with
  |none=>rfl
  |some v =>
   cases v<;>try rfl
   ·rename_i id s n
    simp only[h3 id s n]
   ·rename_i id s off n
    simp only[h4 id s off n]
theorem Sk{vo:VO}(h:fU S S' vo.rd):vo.cP C S=vo.cP C S':=by
 cases vo with
 |mv x=>simp only[VO.cP,dY (x:=x) h]
 |pick c a b =>
  have h1:fU S S' (c.keys++a.keys++b.keys):=h;simp only[VO.cP,dY (x:=c) h1.left.left,dY (x:=a) h1.left.right,dY (x:=b) h1.right]
 |obj id cells=>rfl
 |box id x=>simp only[VO.cP,dY (x:=x) h]
 |tp sh x =>
  have hg:S.aF=S'.aF:=h .g (by simp[VO.rd])
  have hx:fU S S' x.keys:=fun k hk=>h k (by simp[VO.rd,hk])
  simp only[VO.cP,dY hx,hg]
 |tq sh zero =>
  have hg:S.aF=S'.aF:=h .g (by simp[VO.rd])
  simp only[VO.cP,hg]
 |tr =>
  have hg:S.aF=S'.aF:=h .g (by simp[VO.rd])
  simp only[VO.cP,hg]
 |uD ag ks zero ok x k =>
  have hg:S.aF=S'.aF:=h .g (by simp[VO.rd])
  have hx:fU S S' x.keys:=fun k hk=>h k (by simp[VO.rd,hk])
  have hk:fU S S' k.keys:=fun k hk=>h k (by simp[VO.rd,hk])
  simp only[VO.cP,dY hx,dY hk,hg]
 |tu ag ks sh x k y =>
  have hg:S.aF=S'.aF:=h .g (by simp[VO.rd])
  have hx:fU S S' x.keys:=fun k hk=>h k (by simp[VO.rd,hk])
  have hk:fU S S' k.keys:=fun k hk=>h k (by simp[VO.rd,hk])
  have hy:fU S S' y.keys:=fun k hk=>h k (by simp[VO.rd,hk])
  simp only[VO.cP,dY hx,dY hk,dY hy,hg]
 |build zero ps=>simp only[VO.cP,Sf (ps:=ps) h]
 |lit tok sh zero ln ps=>simp only[VO.cP,Sg (ps:=ps) h]
 |load root sz x =>
  have h1:fU S S' (root.keys++x.keys):=h;simp only[VO.cP,dY (x:=x) h1.right];cases S'.ev x with
  |none=>rfl
  |some a =>
   simp only;cases hf:root.fits a with
   |false=>rfl
   |true=>simp only[cond_true,adS hf h1.left]
 |ql f args ids =>
  have h1:fU S S' (ids.map Key.o++(f.keys++args.flatMap fun p=>p.2.2.keys)):=h;have h2:∀id∈ids,look id S.aU=look id S'.aU:=fun id hi=>h1 (.o id) (List.mem_append_left _ (List.mem_map.2 ⟨id,hi,rfl⟩));simp only[VO.cP,dY (x:=f) h1.right.left,LU h2 (ps:=args) h1.right.right]
 |sB bZ x =>
  have hg:S.aF=S'.aF:=h .g (by simp[VO.rd])
  have hx:fU S S' x.keys:=fun k hk=>h k (by simp[VO.rd,hk])
  have ht:∀a,S.take bZ a=S'.take bZ a:=fun a=>by cases a<;>simp only[St.take,hg]
  simp only[VO.cP,dY hx,ht]
 |tw bZ x y =>
  have hg:S.aF=S'.aF:=h .g (by simp[VO.rd])
  have hf:look bZ S.bg=look bZ S'.bg:=h (.t bZ) (by simp[VO.rd])
  have hx:fU S S' x.keys:=fun k hk=>h k (by simp[VO.rd,hk])
  have hy:fU S S' y.keys:=fun k hk=>h k (by simp[VO.rd,hk])
  have ht:∀a b,S.vN bZ a b=S'.vN bZ a b:=fun a b=>by
   unfold St.vN;split<;>first|rfl|simp only[hg,hf]
  simp only[VO.cP,dY hx,dY hy,ht]
 |store root sh x y =>
  have h1:fU S S' (root.keys++x.keys++y.keys):=h;have hx:=dY (x:=x) h1.left.right;have hy:=dY (x:=y) h1.right;have fQ:S.fits root x=S'.fits root x:=by simp only[St.fits,hx]
  simp only[VO.cP,fQ,hx,hy];cases hf:S'.fits root x with
  |false=>rfl
  |true =>
   simp only[cond_true];simp only[St.fits]at hf;cases hp:S'.ev x with
   |none=>rfl
   |some a =>
    rw[hp]at hf;simp only at hf;cases root with
    |loc i =>
     cases a<;>simp[jx.fits]at hf;rename_i id off;subst hf;have:look i S.aU=look i S'.aU:=h (.o i) (by simp[VO.rd,jx.keys])
     cases S'.ev y with
     |none=>rfl
     |some v=>simp only[this]
    |aF =>
     cases a<;>simp[jx.fits]at hf;have:S.aF=S'.aF:=h .g (by simp[VO.rd,jx.keys])
     cases S'.ev y with
     |none=>rfl
     |some v=>simp only[this]
    |jK =>
     cases a<;>simp[jx.fits]at hf;rfl
 |app bZ src sh mx x y =>
  have h1:fU S S' (ES src++x.keys++y.keys):=h;have ht:∀f,(bif src==some f then look f S.bg else none)=(bif src==some f then look f S'.bg else none):=fun f=>by
   cases hs:src==some f with
   |false=>rfl
   |true =>
    have:=eq_of_beq hs;subst this;exact h (.t f) (by simp[VO.rd,ES])
  have hr:∀v,S.rows sh v=S'.rows sh v:=fun v=>Sj;simp only[VO.cP,dY (x:=x) h1.left.right,dY (x:=y) h1.right,ht,hr]
 |call alone f args reg =>
  have h1:fU S S' ((bif alone then [] else [.g])++f.keys++args.flatMap fun p=>p.2.keys):=h;cases alone
  ·have hg:S.aF=S'.aF:=h .g (by simp[VO.rd])
   simp only[VO.cP,dY (x:=f) h1.left.right,LR (ps:=args) h1.right,hg]
  ·simp only[VO.cP,dY (x:=f) h1.left.right,LS (ps:=args) h1.right]
 |qk f args =>
  have h1:fU S S' ([.g]++(f.keys++args.flatMap fun p=>p.2.keys)):=h;have hg:S.aF=S'.aF:=h .g (by simp[VO.rd])
  simp only[VO.cP,dY (x:=f) h1.right.left,LR (ps:=args) h1.right.right,hg]
 |own f args ids id pos =>
  have h1:fU S S' (ids.map Key.o++(f.keys++args.flatMap fun p=>p.2.2.keys)):=h;have h2:∀id∈ids,look id S.aU=look id S'.aU:=fun id hi=>h1 (.o id) (List.mem_append_left _ (List.mem_map.2 ⟨id,hi,rfl⟩));simp only[VO.cP,dY (x:=f) h1.right.left,LU h2 (ps:=args) h1.right.right]
 |qm f args id =>
  have h1:fU S S' ([.g]++(f.keys++args.flatMap fun p=>p.2.keys)):=h;have hg:S.aF=S'.aF:=h .g (by simp[VO.rd])
  simp only[VO.cP,dY (x:=f) h1.right.left,LS (ps:=args) h1.right.right,hg]
 |sE id zero x=>simp only[VO.cP,dY (x:=x) h]
 |grow f id x=>simp only[VO.cP,dY (x:=x) h]
 |tv id src x y =>
  have ho:look id S.aU=look id S'.aU:=h (.o id) (by simp[VO.rd])
  have hj:∀j,src=some j→look j S.aU=look j S'.aU:=fun j e=>h (.o j) (by simp[VO.rd,e,Sd])
  have hx:fU S S' x.keys:=fun k hk=>h k (by simp[VO.rd,hk])
  have hy:fU S S' y.keys:=fun k hk=>h k (by simp[VO.rd,hk])
  have hr:∀v,S.wW src v=S'.wW src v:=fun v=>by
   unfold St.wW;cases src with
   |none=>rfl
   |some j=>simp only[hj j rfl]
  simp only[VO.cP,dY hx,dY hy,ho,hr]
 |uH k f i x =>
  have ho:look i S.aU=look i S'.aU:=h (.o i) (by simp[VO.rd])
  have hx:fU S S' x.keys:=fun k hk=>h k (by simp[VO.rd,hk])
  simp only[VO.cP,dY hx,ho]
 |sD nw src sh x y =>
  have ho:look src S.aU=look src S'.aU:=h (.o src) (by simp[VO.rd])
  have hx:fU S S' x.keys:=fun k hk=>h k (by simp[VO.rd,hk])
  have hy:fU S S' y.keys:=fun k hk=>h k (by simp[VO.rd,hk])
  have hr:∀v,S.rows sh v=S'.rows sh v:=fun v=>Sj;simp only[VO.cP,dY hx,dY hy,ho,hr]
 |_=>exact adR rfl h
theorem LV{α:Type}{s k:Nat}{v:α}{r:List (Nat×α)}(h:k≠s):look s ((k,v)::r)=look s r:=by rw[dA,if_neg h]
theorem LW{u:Out}{d:Option Nat}{k:Key}(h:same S S' k):same (u.app d S) (u.app d S') k:=by
 obtain⟨v,obj,bg,aF,del⟩:=u;cases k with
 |e s =>
  have h:look s S.env=look s S'.env:=h;cases v with
  |none=>exact h
  |some v =>
   cases d with
   |none=>exact h
   |some d=>show look s ((d,v)::S.env)=look s ((d,v)::S'.env);rw[dA,dA,h]
 |o id =>
  have h:look id S.aU=look id S'.aU:=h;have:look id (Out.aU ⟨v,obj,bg,aF,del⟩ S.aU)=look id (Out.aU ⟨v,obj,bg,aF,del⟩ S'.aU):=by
   cases obj with
   |none=>exact h
   |some p =>
    obtain⟨i,cs⟩:=p;cases del with
    |none=>simp only[Out.aU,dA,h]
    |some q=>simp only[Out.aU,dA,sO,h]
  cases v with
  |none=>exact this
  |some v=>cases d<;>exact this
 |t f =>
  have h:look f S.bg=look f S'.bg:=h;have:look f (bg++S.bg)=look f (bg++S'.bg):=by rw[xh,xh,h]
  cases v with
  |none=>exact this
  |some v=>cases d<;>exact this
 |g =>
  have h:S.aF=S'.aF:=h;have:(match aF with|some G=>G|none=>S.aF)=(match aF with|some G=>G|none=>S'.aF):=by
   cases aF with
   |none=>exact h
   |some G=>rfl
  cases v with
  |none=>exact this
  |some v=>cases d<;>exact this
def CN(u:Out)(K:List Key):Prop :=
 (∀p,u.obj=some p→Key.o p.1∈K∧∀i,u.del=some i→Key.o i∈K)∧(∀p∈u.bg,Key.t p.1∈K)∧(∀G,u.aF=some G→Key.g∈K)
theorem adT{u:Out}{d:Option Nat}{K:List Key}(hw:CN u K){k:Key}(hk:k∉(match d with|some d=>[Key.e d] | none=>[])++K):same (u.app d S) S k:=by
 obtain⟨v,obj,bg,aF,del⟩:=u;obtain⟨h1,h2,h3⟩:=hw;simp only at h1 h2 h3;have HZ:k∉K:=fun h=>hk (List.mem_append_right _ h);cases k with
 |e s =>
  cases v with
  |none=>rfl
  |some v =>
   cases d with
   |none=>rfl
   |some d =>
    have:d≠s:=fun e=>hk (by subst e;simp)
    exact LV this
 |o id =>
  have:look id (Out.aU ⟨v,obj,bg,aF,del⟩ S.aU)=look id S.aU:=by
   cases obj with
   |none=>rfl
   |some p =>
    obtain⟨i,cs⟩:=p;obtain⟨q1,q2⟩:=h1 _ rfl;have cg:i≠id:=fun e=>HZ (by rw[←e];exact q1)
    cases del with
    |none=>exact LV cg
    |some q =>
     simp only[Out.aU];rw[LV cg,sO,if_neg (fun e=>HZ (by rw[e];exact q2 q rfl))]
  cases v with
  |none=>exact this
  |some v=>cases d<;>exact this
 |t f =>
  have:look f (bg++S.bg)=look f S.bg:=by
   rw[xh];cases hl:look f bg with
   |none=>rfl
   |some j=>exact absurd (h2 _ (tM hl)) HZ
  cases v with
  |none=>exact this
  |some v=>cases d<;>exact this
 |g =>
  cases aF with
  |none =>
   cases v with
   |none=>rfl
   |some v=>cases d<;>rfl
  |some G=>exact absurd (h3 G rfl) HZ
theorem Sl{vo:VO}{u:Out}(h:vo.cP C S=some u):CN u vo.wr:=by
 have val:∀v K,CN (Out.val v) K:=fun v K=>⟨by simp[Out.val],by simp[Out.val],by simp[Out.val]⟩
 have frame:vo.frame=true→CN u vo.wr:=fun rC=>by
  rw[HX C S vo rC]at h;cases hr:vo.run C (some 0) (St.mk S.env [] [] []) with
  |none=>rw[hr]at h;cases h
  |some S1 =>
   rw[hr]at h;simp only[Option.bind_some]at h;split at h
   ·cases h;exact val _ _
   ·cases h
 cases vo with
 |mv x =>
  simp only[VO.cP]at h;split at h
  ·cases h;exact val _ _
  ·cases h
 |pick c a b =>
  simp only[VO.cP]at h;split at h
  ·split at h
   ·cases h;exact val _ _
   ·cases h
  ·cases h
 |obj id cells=>simp only[VO.cP]at h;cases h;exact⟨by simp[VO.wr],by simp,by simp⟩
 |box id x =>
  simp only[VO.cP]at h;split at h
  ·rename_i v _
   cases hc:v.cells.all V.cI with
   |false=>simp[hc]at h
   |true=>simp only[hc,cond_true]at h;cases h;exact⟨by simp[VO.wr],by simp,by simp⟩
  ·cases h
 |tp sh x =>
  simp only[VO.cP]at h;split at h
  ·split at h
   ·cases h;exact⟨by simp,by simp,by simp[VO.wr]⟩
   ·cases h
  ·cases h
 |tq sh zero =>
  simp only[VO.cP]at h;split at h
  ·cases h;exact⟨by simp,by simp,by simp[VO.wr]⟩
  ·cases h
 |tr =>
  simp only[VO.cP]at h;cases h;exact⟨by simp,by simp,by simp[VO.wr]⟩
 |uD ag ks zero ok x k =>
  simp only[VO.cP]at h;split at h
  ·split at h
   ·split at h
    ·cases h;exact val _ _
    ·cases h;exact val _ _
    ·cases h
   ·cases h
  ·cases h
 |tu ag ks sh x k y =>
  simp only[VO.cP]at h;split at h
  ·split at h
   ·split at h
    ·cases h;exact⟨by simp,by simp,by simp[VO.wr]⟩
    ·cases h;exact⟨by simp,by simp,by simp[VO.wr]⟩
    ·cases h
   ·cases h
  ·cases h
 |build zero ps =>
  simp only[VO.cP]at h;split at h
  ·cases h;exact val _ _
  ·cases h
 |lit tok sh zero ln ps =>
  simp only[VO.cP]at h;split at h
  ·split at h
   ·cases h;exact⟨by simp,by simp[VO.wr],by simp⟩
   ·cases h;exact val _ _
  ·cases h
 |load root sz x =>
  simp only[VO.cP]at h;split at h
  ·rename_i a _
   cases hf:root.fits a with
   |false=>simp[hf]at h
   |true =>
    simp only[hf,cond_true]at h;split at h
    ·split at h
     ·cases h;exact val _ _
     ·cases h
    ·cases h
  ·cases h
 |ql f args ids =>
  simp only[VO.cP]at h;split at h
  ·split at h
   ·rename_i r _ _
    cases hs:r.oS with
    |false=>rw[hs]at h;cases h
    |true=>rw[hs]at h;cases h;exact val _ _
   ·cases h
  ·cases h
 |sB bZ x =>
  simp only[VO.cP]at h;split at h
  ·split at h
   ·rename_i v ts G ht
    cases h;unfold St.take at ht;split at ht
    ·split at ht
     ·split at ht
      ·cases ht;exact⟨by simp,by simp[VO.wr],by simp[VO.wr]⟩
      ·cases ht;exact⟨by simp,by simp,by simp⟩
      ·cases ht
     ·cases ht
    ·cases ht
   ·cases h
  ·cases h
 |tw bZ x y =>
  simp only[VO.cP]at h;split at h
  ·split at h
   ·rename_i ts G ht
    cases h;unfold St.vN at ht;split at ht
    ·split at ht
     ·rename_i k _ _
      rcases Bool.eq_false_or_eq_true (k==_&&Nat.blt _ _) with hc|hc
      ·rw[hc]at ht;cases ht;exact⟨by simp,by simp[VO.wr],by simp[VO.wr]⟩
      ·rw[hc]at ht;cases ht
     ·cases ht
    ·cases ht
   ·cases h
  ·cases h
 |store root sh x y =>
  simp only[VO.cP]at h;cases hf:S.fits root x with
  |false=>simp[hf]at h
  |true =>
   simp only[hf,cond_true]at h;simp only[St.fits]at hf;split at h
   ·rename_i id off v hx hy
    rw[hx]at hf;split at h
    ·rename_i cs _
     cases hc:(v.cells.length==sh.length&&Nat.ble (off+sh.length) cs.length&&v.cells.all V.cI&&Nat.blt 0 sh.length) with
     |false=>simp[hc]at h
     |true =>
      simp only[hc,cond_true]at h;cases h;cases root with
      |loc i=>simp[jx.fits]at hf;subst hf;exact⟨by simp[VO.wr],by simp,by simp⟩
      |aF=>simp[jx.fits]at hf
      |jK=>simp[jx.fits]at hf
    ·cases h
   ·rename_i id off v hx hy
    rw[hx]at hf;split at h
    ·rename_i cs _
     split at h
     ·rename_i vs _
      cases hc:(Nat.ble (off+vs.length) cs.length&&Nat.blt 0 vs.length) with
      |false=>simp[hc]at h
      |true =>
       simp only[hc,cond_true]at h;cases h;cases root with
       |aF=>exact⟨by simp,by simp,by simp[VO.wr]⟩
       |loc i=>simp[jx.fits]at hf
       |jK=>simp[jx.fits]at hf
     ·cases h
    ·cases h
   ·cases h
 |app bZ src sh mx x y =>
  simp only[VO.cP]at h;split at h
  ·split at h
   ·rename_i ys _
    cases hc:Nat.ble ys.length mx with
    |false=>simp[hc]at h
    |true=>simp only[hc,cond_true]at h;cases h;exact⟨by simp,by simp[VO.wr],by simp⟩
   ·cases h
  ·split at h
   ·rename_i ys _
    cases hc:Nat.ble ys.length mx with
    |false=>simp[hc]at h
    |true=>simp only[hc,cond_true]at h;cases h;exact⟨by simp,by simp[VO.wr],by simp⟩
   ·cases h
  ·rename_i f n es _ _ _
   split at h
   ·rename_i ys _
    split at h
    ·rename_i k hk
     cases hc:(k==es.length&&(n==sh.length)&&Nat.ble (es.length+ys.length) mx) with
     |false=>simp[hc]at h
     |true =>
      simp only[hc,cond_true]at h;cases h;cases hs:src==some f with
      |false=>simp[hs]at hk
      |true =>
       have:=eq_of_beq hs;subst this;exact⟨by simp,by simp[VO.wr,ES],by simp⟩
    ·cases h
   ·cases h
  ·cases h
 |call alone f args reg =>
  have tN:∀r:V,∀p∈(recv reg r).2,Key.t p.1∈(AQ reg).map Key.t:=fun r p hp=>by
   rw[HH]at hp;obtain⟨q,t,n,es,_,h2,_⟩:=CA reg _ 0 p.1 p.2 hp;exact List.mem_map.2 ⟨p.1,List.mem_map.2 ⟨_,tM h2,rfl⟩,rfl⟩
  cases alone
  ·simp only[VO.cP]at h
   split at h
   ·split at h
    ·rename_i r G hc
     cases h;exact⟨by simp,fun p hp=>List.mem_append_right _ (tN r p hp),by simp[VO.wr]⟩
    ·cases h
   ·cases h
  ·simp only[VO.cP]at h
   split at h
   ·split at h
    ·rename_i r G hc
     cases hl:r.lone with
     |false=>simp[hl]at h
     |true =>
      simp only[hl,cond_true]at h;cases h;exact⟨by simp,fun p hp=>List.mem_append_right _ (tN r p hp),by simp⟩
    ·cases h
   ·cases h
 |qk f args =>
  simp only[VO.cP]at h;split at h
  ·split at h
   ·simp only[rd]at h
    split at h
    ·cases h;exact⟨by simp[Out.val],by simp[Out.val],by simp[Out.val]⟩
    ·cases h
   ·cases h
  ·cases h
 |own f args ids id pos =>
  simp only[VO.cP]at h;split at h
  ·split at h
   ·split at h
    ·cases h;exact⟨by simp[VO.wr],by simp,by simp⟩
    ·cases h;exact val _ _
    ·cases h
   ·cases h
  ·cases h
 |sD nw src sh x y =>
  simp only[VO.cP]at h;split at h
  ·split at h
   ·rename_i ys _
    cases hc:ys.isEmpty with
    |true=>simp only[hc,cond_true]at h;cases h;exact val _ _
    |false =>
     simp only[hc,cond_false]at h;cases hc:Nat.ble ys.length lim with
     |false=>simp[hc]at h
     |true=>simp only[hc,cond_true]at h;cases h;exact⟨by simp[VO.wr],by simp,by simp⟩
   ·cases h
  ·split at h
   ·rename_i ys _
    cases hc:ys.isEmpty with
    |true=>simp only[hc,cond_true]at h;cases h;exact val _ _
    |false =>
     simp only[hc,cond_false]at h;cases hc:Nat.ble ys.length lim with
     |false=>simp[hc]at h
     |true=>simp only[hc,cond_true]at h;cases h;exact⟨by simp[VO.wr],by simp,by simp⟩
   ·cases h
  ·rename_i id s ln _ _ _
   split at h
   ·rename_i ys cs _ _
    cases hc:((id==src)&&(s==sh.length)&&(cs.length==ln*s)&&Nat.ble (ln+ys.length) lim) with
    |false=>simp[hc]at h
    |true=>simp only[hc,cond_true]at h;cases h;exact⟨by simp[VO.wr],by simp,by simp⟩
   ·cases h
  ·cases h
 |uH k f i x =>
  simp only[VO.cP]at h;split at h
  ·rename_i id s n _
   split at h
   ·rename_i cs _
    cases hc:(id==i&&(s==1)&&Nat.ble n cs.length&&Nat.ble n lim&&Nat.blt 0 n) with
    |false=>simp[hc]at h
    |true =>
     simp only[hc,cond_true]at h;split at h
     ·cases h;exact⟨by simp[VO.wr],by simp,by simp⟩
     ·cases h
   ·cases h
  ·cases h
 |sE id zero x =>
  simp only[VO.cP]at h;split at h
  ·rename_i k n _
   cases hc:(decide (0≤n)&&decide (n≤(lim:Int))) with
   |false=>simp[hc]at h
   |true=>simp only[hc,cond_true]at h;cases h;exact⟨by simp[VO.wr],by simp,by simp⟩
  ·cases h
 |qm f args id =>
  simp only[VO.cP]at h;split at h
  ·split at h
   ·split at h
    ·rename_i i n len cs _
     cases hc:(i==id&&Nat.blt 0 cs.length&&Nat.blt 0 len&&cs.all V.sc) with
     |false=>simp[hc]at h
     |true=>simp only[hc,cond_true]at h;cases h;exact⟨by simp,by simp,by simp[VO.wr]⟩
    ·cases h;exact⟨by simp,by simp,by simp[VO.wr]⟩
    ·cases h
   ·cases h
  ·cases h
 |grow f id x =>
  simp only[VO.cP]at h;split at h
  ·rename_i n _
   cases hc:(decide (0≤n)&&decide (n≤(lim:Int))) with
   |false=>simp[hc]at h
   |true=>simp only[hc,cond_true]at h;cases h;exact⟨by simp[VO.wr],by simp,by simp⟩
  ·cases h
 |tv id src x y =>
  simp only[VO.cP]at h;split at h
  ·rename_i i s n b _ _
   split at h
   ·rename_i cs us _ _
    cases hc:(i==id&&(s==1)&&Nat.ble n cs.length&&us.all V.sc) with
    |false=>simp[hc]at h
    |true=>simp only[hc,cond_true]at h;cases h;exact⟨by simp[VO.wr],by simp,by simp⟩
   ·cases h
  ·cases h
 |_=>exact frame rfl
end
end Go.Vm

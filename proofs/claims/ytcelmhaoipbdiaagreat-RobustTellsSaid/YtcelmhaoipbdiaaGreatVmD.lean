/- The value machine, 13: what an operation reads and writes; operations that touch different things may change places. -/
import Derived.Test.YtcelmhaoipbdiaaGreatVmC
namespace Go.Vm
set_option linter.all false
inductive Key where
 |e (s:Nat)
 |o (id:Nat)
 |t (f:Nat)
 |g
 deriving DecidableEq
def same(S S':St):Key→Prop
 |.e s=>look s S.env=look s S'.env
 |.o id=>look id S.aZ=look id S'.aZ
 |.t f=>look f S.bl=look f S'.bl
 |.g=>S.aD=S'.aD
theorem X1(S:St)(k:Key):same S S k:=by cases k<;>rfl
theorem QA{S S':St}{k:Key}(h:same S S' k):same S' S k:=by cases k<;>exact Eq.symm h
theorem LF{S S' Ie:St}{k:Key}(h:same S S' k)(h':same S' Ie k):same S Ie k:=by cases k<;>exact Eq.trans h h'
def Alike(S S':St):Prop:=∀k,same S S' k
structure Out where
 v:Option V
 obj:Option (Nat×List V)
 bl:List (Nat×Nat)
 aD:Option (List aP)
 del:Option Nat
def Out.val(v:V):Out:=⟨some v,none,[],none,none⟩
def Out.aZ(u:Out)(aZ:List (Nat×List V)):List (Nat×List V):=match u.obj with
 |some p=>p::(match u.del with|some i=>aZ.filter (fun q => !(q.1==i))|none=>aZ)
 |none=>aZ
def Out.app(u:Out)(d:Option Nat)(S:St):St :=
 let T:St:={ env:=S.env,aZ:=u.aZ S.aZ,bl:=u.bl++S.bl,aD:=(match u.aD with|some G=>G|none=>S.aD) }
 match u.v with
 |some v=>T.put d v
 |none=>T
noncomputable def VO.cO(C:bD)(S:St):VO→Option Out
 |.mv x=>match S.ev x with
  |some v=>some (.val v)
  |none=>none
 |.pick c a b=>match S.ev c with
  |some (.bool t)=>match bif t then S.ev a else S.ev b with
   |some v=>some (.val v)
   |none=>none
  |_=>none
 |.obj id cells=>some ⟨some (.bj id 0),some (id,cells),[],none,none⟩
 |.box id x=>match S.ev x with
  |some v=>bif v.cells.all V.cQ then some ⟨some (.bj id 0),some (id,v.cells),[],none,none⟩ else none
  |none=>none
 |.vr sh x=>match S.ev x with
  |some v=>match nf sh v.cells with
   |some cs=>some ⟨some (.bH S.aD.length 0),none,[],some (S.aD++[aP.cells cs]),none⟩
   |none=>none
  |none=>none
 |.vt sh zero=>match nf sh zero with
  |some cs=>some ⟨some (.bH S.aD.length 0),none,[],some (S.aD++[aP.cells cs]),none⟩
  |none=>none
 |.vu=>some ⟨some (.map S.aD.length),none,[],some (S.aD++[aP.map []]),none⟩
 |.wM ag ks zero ok x k=>match S.ev x,S.ev k with
  |some (.map i),some kv=>match S.aD[i]?,V.nI ag ks kv kv with
   |some (.map es),some _=>match nJ ag ks kv es 0 with
    |some (some (_,v))=>some (.val (bif ok then .tuple [v,.bool true] else v))
    |some none=>some (.val (bif ok then .tuple [zero,.bool false] else zero))
    |none=>none
   |_,_=>none
  |_,_=>none
 |.vv ag ks sh x k y=>match S.ev x,S.ev k,S.ev y with
  |some (.map i),some kv,some v=>match S.aD[i]?,V.nI ag ks kv kv,Bl sh v with
   |some (.map es),some _,some u=>match nJ ag ks kv es 0 with
    |some (some (j,_))=>some ⟨none,none,[],some (S.aD.set i (aP.map (es.set j (kv,u)))),none⟩
    |some none=>some ⟨none,none,[],some (S.aD.set i (aP.map (es++[(kv,u)]))),none⟩
    |none=>none
   |_,_,_=>none
  |_,_,_=>none
 |.build zero parts=>match sN S parts zero with
  |some cs=>some (.val (.agg cs))
  |none=>none
 |.lit tok sh zero ln parts=>match vC S sh parts (List.replicate ln zero) with
  |some rs=>match tok with
   |some f=>some ⟨some (.slice (some f) sh.length rs),none,[(f,ln)],none,none⟩
   |none=>some (.val (.slice none sh.length rs))
  |none=>none
 |.load root sz p=>match S.ev p with
  |some a=>bif root.fits a then match S.nY a with
   |some (cs,off)=>match loadAt sz cs off with
    |some v=>some (.val (tD root v))
    |none=>none
   |none=>none
   else none
  |none=>none
 |.tz cn p=>match S.ev p with
  |some a=>match S.take cn a with
   |some (v,ts,G)=>some ⟨some v,none,ts,G,none⟩
   |none=>none
  |none=>none
 |.vy cn p x=>match S.ev p,S.ev x with
  |some a,some v=>match S.yd cn a v with
   |some (ts,G)=>some ⟨none,none,ts,some G,none⟩
   |none=>none
  |_,_=>none
 |.store root sh p x=>bif S.fits root p then match S.ev p,S.ev x with
  |some (.bj id off),some v=>match look id S.aZ with
   |some cs=>bif v.cells.length==sh.length&&Nat.ble (off+sh.length) cs.length&&v.cells.all V.cQ&&Nat.blt 0 sh.length then
     some ⟨none,some (id,jn cs off v.cells),[],none,none⟩ else none
   |none=>none
  |some (.bH id off),some v=>match S.aD[id]? with
   |some (.cells cs)=>match nf sh v.cells with
    |some vs=>bif Nat.ble (off+vs.length) cs.length&&Nat.blt 0 vs.length then some ⟨none,none,[],some (S.aD.set id (aP.cells (jn cs off vs))),none⟩ else none
    |none=>none
   |_=>none
  |_,_=>none
  else none
 |.app cn src sh mx x y=>match S.ev x,S.ev y with
  |some .bU,some b=>match S.rows sh b with
   |some ys=>bif Nat.ble ys.length mx then some ⟨some (.slice (some cn) sh.length ys),none,[(cn,ys.length)],none,none⟩ else none
   |none=>none
  |some (.ea _),some b=>match S.rows sh b with
   |some ys=>bif Nat.ble ys.length mx then some ⟨some (.slice (some cn) sh.length ys),none,[(cn,ys.length)],none,none⟩ else none
   |none=>none
  |some (.slice (some f) n es),some b=>match S.rows sh b with
   |some ys=>match (bif src==some f then look f S.bl else none) with
    |some k=>bif k==es.length&&(n==sh.length)&&Nat.ble (es.length+ys.length) mx then
      some ⟨some (.slice (some f) n (es++ys)),none,[(f,es.length+ys.length)],none,none⟩ else none
    |none=>none
   |none=>none
  |_,_=>none
 |.call false f args reg=>match S.ev f,nK S args with
  |some (.fn g cap),some vs=>match C g (vs++cap) S.aD with
   |some (r,G)=>some ⟨some (recv reg r).1,none,(recv reg r).2,some G,none⟩
   |none=>none
  |_,_=>none
 |.call true f args reg=>match S.ev f,nL S args with
  |some (.fn g []),some vs=>match C g vs [] with
   |some (r,_)=>bif r.lone then some ⟨some (recv reg r).1,none,(recv reg r).2,none,none⟩ else none
   |none=>none
  |_,_=>none
 |.sJ f args=>match S.ev f,nK S args with
  |some (.fn g cap),some vs=>match C g (vs++cap) S.aD with
   |some (r,G)=>rd S.aD G (.val (recv [] r).1)
   |none=>none
  |_,_=>none
 |.wP k _ i x=>match S.ev x with
  |some (.bR id s n)=>match look i S.aZ with
   |some cs=>bif id==i&&(s==1)&&Nat.ble n cs.length&&Nat.ble n lim&&Nat.blt 0 n then match yh (cs.take n) with
    |some zs=>some ⟨some (C2 k i zs),some (i,(vF k zs).map (V.int .i64)++cs.drop n),[],none,none⟩
    |none=>none
    else none
   |none=>none
  |_=>none
 |.grow _ id n=>match S.ev n with
  |some (.int .i64 k)=>bif decide (0≤k)&&decide (k≤lim) then some ⟨some (.bR id 1 0),some (id,[]),[],none,none⟩ else none
  |_=>none
 |.vx x=>match S.ev x with
  |some v=>match Hz S.aD v.part with
   |some G=>some ⟨some (.tuple []),none,[],some G,none⟩
   |none=>none
  |none=>none
 |.vw id src x y=>match S.ev x,S.ev y with
  |some (.bR i s n),some b=>match look id S.aZ,S.zM src b with
   |some cs,some us=>bif i==id&&(s==1)&&Nat.ble n cs.length&&us.all V.sc then
     some ⟨some (.int .i64 (us.take n).length),some (id,us.take n++cs.drop (us.take n).length),[],none,none⟩ else none
   |_,_=>none
  |_,_=>none
 |.sK f args ids=>match S.ev f,mq S ids args with
  |some (.fn g []),some vs=>match C g vs [] with
   |some (r,_)=>bif r.qE then some (.val r) else none
   |none=>none
  |_,_=>none
 |.own f args ids id pos=>match S.ev f,mq S ids args with
  |some (.fn g []),some vs=>match C g vs [] with
   |some (r,_)=>match kC id pos r with
    |some (v,some cs)=>some ⟨some v,some (id,cs),[],none,none⟩
    |some (v,none)=>some (.val v)
    |none=>none
   |none=>none
  |_,_=>none
 |.sL f args id=>match S.ev f,nL S args with
  |some (.fn g []),some vs=>match C g vs [] with
   |some (r,_)=>match kC id 0 r with
    |some (.bR i n ln,some cs)=>bif i==id&&Nat.blt 0 cs.length&&Nat.blt 0 ln&&cs.all V.sc then some ⟨some (.c6 S.aD.length n ln),none,[],some (S.aD++[aP.cells cs]),none⟩ else none
    |some (.ea n,none)=>some ⟨some (.c6 S.aD.length n 0),none,[],some (S.aD++[aP.cells []]),none⟩
    |_=>none
   |none=>none
  |_,_=>none
 |.uB id zero n=>match S.ev n with
  |some (.int _ k)=>bif decide (0≤k)&&decide (k≤lim) then
    some ⟨some (.bR id zero.length k.toNat),some (id,(List.replicate k.toNat zero).flatten),[],none,none⟩ else none
  |_=>none
 |.uA new src oy sh x y=>match S.ev x,S.ev y with
  |some .bU,some b=>match S.oK oy sh b with
   |some ys=>bif ys.isEmpty then some (.val .bU) else
     bif Nat.ble ys.length lim then some ⟨some (.bR new sh.length ys.length),some (new,ys.flatten),[],none,none⟩ else none
   |none=>none
  |some (.ea n),some b=>match S.oK oy sh b with
   |some ys=>bif ys.isEmpty then some (.val (.ea n)) else
     bif Nat.ble ys.length lim then some ⟨some (.bR new sh.length ys.length),some (new,ys.flatten),[],none,none⟩ else none
   |none=>none
  |some (.bR id s ln),some b=>match S.oK oy sh b,look src S.aZ with
   |some ys,some cs=>bif (id==src)&&(s==sh.length)&&(cs.length==ln*s)&&Nat.ble (ln+ys.length) lim then
     some ⟨some (.bR new sh.length (ln+ys.length)),some (new,cs++ys.flatten),[],none,some src⟩ else none
   |_,_=>none
  |_,_=>none
 |vo=>(vo.run C (some 0) { S with env:=S.env,aZ:=[],bl:=[],aD:=[] }).bind fun S'=>match S'.env with
  |(_,v)::_=>some (.val v)
  |[]=>none
theorem QB(S:St)(x:bA):(St.mk S.env [] [] []).ev x=S.ev x:=by cases x<;>rfl
theorem aj0(S:St)(x:Option bA)(n:Nat):(St.mk S.env [] [] []).kM x n=S.kM x n:=by cases x<;>first|rfl|exact QB S _
theorem X2(S:St):∀xs:List bA,qf (St.mk S.env [] [] []) xs=qf S xs
 |[]=>rfl
 |x::xs=>by simp only[qf,QB,X2 S xs]
theorem tR(S:St)(d:Option Nat)(v:V):(Out.val v).app d S=S.put d v:=by cases d<;>rfl
theorem Ah{S S':St}(e:S'.env=S.env)(x:bA):S'.ev x=S.ev x:=by cases x<;>simp[St.ev,e]
theorem X3{S S':St}(e:S'.env=S.env)(x:Option bA)(n:Nat):S'.kM x n=S.kM x n:=by cases x<;>first|rfl|exact Ah e _
theorem X4{S S':St}(e:S'.env=S.env):∀xs:List bA,qf S' xs=qf S xs
 |[]=>rfl
 |x::xs=>by simp only[qf,Ah e,X4 e xs]
def VO.cG(S' S:St):VO→Prop
 |.uz x | .un _ x | .conv _ x | .tA _ x | .arr _ _ x | .field _ _ x | .len x | .vz x | .wN x | .wO _ x | .ext x _=>S'.ev x=S.ev x
 |.bin _ x y | .beq _ x y | .gA _ _ x y | .oJ _ _ x y | .idx _ _ _ x y | .mm _ x y=>S'.ev x=S.ev x∧S'.ev y=S.ev y
 |.vB _ x y z=>S'.ev x=S.ev x∧S'.ev y=S.ev y∧S'.ev z=S.ev z
 |.wQ _ x lo hi=>S'.ev x=S.ev x∧(∀n,S'.kM lo n=S.kM lo n)∧(∀n,S'.kM hi n=S.kM hi n)
 |.wR _ cap=>qf S' cap=qf S cap
 |_=>True
def QC(C:bD)(S:St)(vo:VO):Prop:=∃r:Option V,∀d S',VO.cG S' S vo→vo.run C d S'=r.map fun v=>S'.put d v
def VO.frame:VO→Bool
 |.zL _ | .wO .. | .uz _ | .bin .. | .beq .. | .gA .. | .un .. | .conv .. | .tA .. | .arr .. | .oJ .. | .idx .. | .field .. | .len _ | .vz _ | .wN _ | .ext .. | .wQ .. | .mm .. | .vB .. | .wR .. => true
 |_=>false
theorem LG(C:bD)(S:St)(vo:VO)(h:vo.frame=true):vo.cO C S=(vo.run C (some 0) (St.mk S.env [] [] [])).bind fun S'=>match S'.env with
  |(_,v)::_=>some (.val v)
  |[]=>none:=by
 cases vo<;>first|rfl|cases h
set_option maxHeartbeats 1000000 in
theorem X5(C:bD)(S:St)(vo:VO)(tN:vo.frame=true):QC C S vo:=by
 have no:(∀d S',VO.cG S' S vo→vo.run C d S'=none)→QC C S vo:=fun h=>⟨none,h⟩;have yes:∀v,(∀d S',VO.cG S' S vo→vo.run C d S'=some (S'.put d v))→QC C S vo:=fun v h=>⟨some v,h⟩;cases vo with
 |uz x =>
  cases hx:S.ev x with
  |none=>exact no fun d S' e=>by simp only[VO.cG]at e;simp[VO.run,e,hx]
  |some a=>cases a<;>first|(refine no fun d S' e=>?_;simp only[VO.cG]at e;simp[VO.run,e,hx];done)|(refine yes _ fun d S' e=>Eq.trans (by simp only[VO.cG]at e;simp only[VO.run,e,hx];exact rfl) rfl)
 |bin op x y =>
  cases hx:S.ev x with
  |none=>exact no fun d S' e=>by simp only[VO.cG]at e;simp[VO.run,e,hx]
  |some a =>
   cases hy:S.ev y with
   |none=>exact no fun d S' e=>by simp only[VO.cG]at e;simp[VO.run,e,hx,hy]
   |some b =>
    cases hz:V.bin op a b with
    |none=>exact no fun d S' e=>by simp only[VO.cG]at e;simp[VO.run,e,hx,hy,hz]
    |some v=>exact yes v fun d S' e=>by simp only[VO.cG]at e;simp[VO.run,e,hx,hy,hz]
 |gA neg ks x y =>
  cases hx:S.ev x with
  |none=>exact no fun d S' e=>by simp only[VO.cG]at e;simp[VO.run,e,hx]
  |some a =>
   cases hy:S.ev y with
   |none=>exact no fun d S' e=>by simp only[VO.cG]at e;simp[VO.run,e,hx,hy]
   |some b =>
    cases hz:V.gA neg ks a b with
    |none=>exact no fun d S' e=>by simp only[VO.cG]at e;simp[VO.run,e,hx,hy,hz]
    |some v=>exact yes v fun d S' e=>by simp only[VO.cG]at e;simp[VO.run,e,hx,hy,hz]
 |beq neg x y =>
  cases hx:S.ev x with
  |none=>exact no fun d S' e=>by simp only[VO.cG]at e;simp[VO.run,e,hx]
  |some a =>
   cases hy:S.ev y with
   |none=>exact no fun d S' e=>by simp only[VO.cG]at e;cases a<;>simp[VO.run,e,hx,hy]
   |some b=>cases a<;>cases b<;>first|(refine no fun d S' e=>?_;simp only[VO.cG]at e;simp[VO.run,e,hx,hy];done)|(refine yes _ fun d S' e=>Eq.trans (by simp only[VO.cG]at e;simp only[VO.run,e,hx,hy];exact rfl) rfl)
 |un op x =>
  cases hx:S.ev x with
  |none=>exact no fun d S' e=>by simp only[VO.cG]at e;simp[VO.run,e,hx]
  |some a =>
   cases hz:V.un op a with
   |none=>exact no fun d S' e=>by simp only[VO.cG]at e;simp[VO.run,e,hx,hz]
   |some v=>exact yes v fun d S' e=>by simp only[VO.cG]at e;simp[VO.run,e,hx,hz]
 |conv k x =>
  cases hx:S.ev x with
  |none=>exact no fun d S' e=>by simp only[VO.cG]at e;simp[VO.run,e,hx]
  |some a=>cases a<;>first|(refine no fun d S' e=>?_;simp only[VO.cG]at e;simp[VO.run,e,hx];done)|(refine yes _ fun d S' e=>Eq.trans (by simp only[VO.cG]at e;simp only[VO.run,e,hx];exact rfl) rfl)
 |arr n sz x =>
  cases hx:S.ev x with
  |none=>exact no fun d S' e=>by simp only[VO.cG]at e;simp[VO.run,e,hx]
  |some a =>
   cases a
   case bj id off =>
    cases off with
    |zero=>exact yes _ fun d S' e=>by simp only[VO.cG]at e;simp[VO.run,e,hx];rfl
    |succ k=>exact no fun d S' e=>by simp only[VO.cG]at e;simp[VO.run,e,hx]
   all_goals exact no fun d S' e=>by simp only[VO.cG]at e;simp[VO.run,e,hx]
 |tA off x =>
  cases hx:S.ev x with
  |none=>exact no fun d S' e=>by simp only[VO.cG]at e;simp[VO.run,e,hx]
  |some a=>cases a<;>first|(refine no fun d S' e=>?_;simp only[VO.cG]at e;simp[VO.run,e,hx];done)|(refine yes _ fun d S' e=>Eq.trans (by simp only[VO.cG]at e;simp only[VO.run,e,hx];exact rfl) rfl)
 |oJ arr sz x i =>
  cases hx:S.ev x with
  |none=>exact no fun d S' e=>by simp only[VO.cG]at e;cases arr<;>simp[VO.run,e,hx]
  |some a =>
   cases hy:S.ev i with
   |none=>exact no fun d S' e=>by simp only[VO.cG]at e;cases arr<;>cases a<;>simp[VO.run,e,hx,hy]
   |some b =>
    cases b with
    |int k m =>
     cases arr with
     |some n =>
      cases hc:(decide (0≤m)&&decide (m<(n:Int))) with
      |false=>exact no fun d S' e=>by simp only[VO.cG]at e;simp only[VO.run,e,hx,hy,hc,fu]
      |true=>cases a<;>first|(refine no fun d S' e=>?_;simp only[VO.cG]at e;simp only[VO.run,e,hx,hy,hc,bM];done)|(refine yes _ fun d S' e=>Eq.trans (by simp only[VO.cG]at e;simp only[VO.run,e,hx,hy,hc,bM];exact rfl) rfl)
     |none =>
      cases a with
      |slice tk n es =>
       cases hc:(decide (0≤m)&&(n==sz)) with
       |false=>exact no fun d S' e=>by simp only[VO.cG]at e;simp only[VO.run,e,hx,hy,hc,fu]
       |true =>
        cases he:es[m.toNat]? with
        |none=>exact no fun d S' e=>by simp only[VO.cG]at e;simp only[VO.run,e,hx,hy,hc,bM,he]
        |some r=>exact yes (.e8 r 0) fun d S' e=>by simp only[VO.cG]at e;simp only[VO.run,e,hx,hy,hc,bM,he]
      |bR id off n =>
       cases hc:(decide (0≤m)&&decide (m<(n:Int))&&(off==sz)) with
       |false=>exact no fun d S' e=>by simp only[VO.cG]at e;simp only[VO.run,e,hx,hy,hc,fu]
       |true=>exact yes (.bj id (m.toNat*sz)) fun d S' e=>by simp only[VO.cG]at e;simp only[VO.run,e,hx,hy,hc,bM]
      |c6 id off n =>
       cases hc:(decide (0≤m)&&decide (m<(n:Int))&&(off==sz)) with
       |false=>exact no fun d S' e=>by simp only[VO.cG]at e;simp only[VO.run,e,hx,hy,hc,fu]
       |true=>exact yes (.bH id (m.toNat*sz)) fun d S' e=>by simp only[VO.cG]at e;simp only[VO.run,e,hx,hy,hc,bM]
      |_=>exact no fun d S' e=>by simp only[VO.cG]at e;simp[VO.run,e,hx,hy]
    |_=>exact no fun d S' e=>by simp only[VO.cG]at e;cases arr<;>cases a<;>simp[VO.run,e,hx,hy]
 |idx n sz ag x i =>
  cases hx:S.ev x with
  |none=>exact no fun d S' e=>by simp only[VO.cG]at e;simp[VO.run,e,hx]
  |some a =>
   cases hy:S.ev i with
   |none=>exact no fun d S' e=>by simp only[VO.cG]at e;cases a<;>simp[VO.run,e,hx,hy]
   |some b =>
    cases b with
    |int k m =>
     cases a with
     |agg cs =>
      cases hc:(decide (0≤m)&&decide (m<(n:Int))) with
      |false=>exact no fun d S' e=>by simp only[VO.cG]at e;simp only[VO.run,e,hx,hy,hc,fu]
      |true =>
       cases hl:loadAt (bif ag then some sz else none) cs (m.toNat*sz) with
       |none=>exact no fun d S' e=>by simp only[VO.cG]at e;simp only[VO.run,e,hx,hy,hc,bM,hl]
       |some v=>exact yes v fun d S' e=>by simp only[VO.cG]at e;simp only[VO.run,e,hx,hy,hc,bM,hl]
     |_=>exact no fun d S' e=>by simp only[VO.cG]at e;simp[VO.run,e,hx,hy]
    |_=>exact no fun d S' e=>by simp only[VO.cG]at e;cases a<;>simp[VO.run,e,hx,hy]
 |field off sz x =>
  cases hx:S.ev x with
  |none=>exact no fun d S' e=>by simp only[VO.cG]at e;simp[VO.run,e,hx]
  |some a =>
   cases a with
   |agg cs =>
    cases hl:loadAt sz cs off with
    |none=>exact no fun d S' e=>by simp only[VO.cG]at e;simp only[VO.run,e,hx,hl]
    |some v=>exact yes v fun d S' e=>by simp only[VO.cG]at e;simp only[VO.run,e,hx,hl]
   |_=>exact no fun d S' e=>by simp only[VO.cG]at e;simp[VO.run,e,hx]
 |zL n=>exact yes (.ea n) fun d S' e=>rfl
 |wO neg x =>
  cases hx:S.ev x with
  |none=>exact no fun d S' e=>by simp only[VO.cG]at e;simp[VO.run,e,hx]
  |some a =>
   cases a with
   |slice t n es=>cases es<;>first|(refine no fun d S' e=>?_;simp only[VO.cG]at e;simp[VO.run,e,hx];done)|(refine yes _ fun d S' e=>Eq.trans (by simp only[VO.cG]at e;simp only[VO.run,e,hx];exact rfl) rfl)
   |_=>first|(refine no fun d S' e=>?_;simp only[VO.cG]at e;simp[VO.run,e,hx];done)|(refine yes _ fun d S' e=>Eq.trans (by simp only[VO.cG]at e;simp only[VO.run,e,hx];exact rfl) rfl)
 |len x =>
  cases hx:S.ev x with
  |none=>exact no fun d S' e=>by simp only[VO.cG]at e;simp[VO.run,e,hx]
  |some a=>cases a<;>first|(refine no fun d S' e=>?_;simp only[VO.cG]at e;simp[VO.run,e,hx];done)|(refine yes _ fun d S' e=>Eq.trans (by simp only[VO.cG]at e;simp only[VO.run,e,hx];exact rfl) rfl)
 |wN x =>
  cases hx:S.ev x with
  |none=>exact no fun d S' e=>by simp only[VO.cG]at e;simp[VO.run,e,hx]
  |some a=>cases a<;>first|(refine no fun d S' e=>?_;simp only[VO.cG]at e;simp[VO.run,e,hx];done)|(refine yes _ fun d S' e=>Eq.trans (by simp only[VO.cG]at e;simp only[VO.run,e,hx];exact rfl) rfl)
 |vz x =>
  cases hx:S.ev x with
  |none=>exact no fun d S' e=>by simp only[VO.cG]at e;simp[VO.run,e,hx]
  |some a=>cases a<;>first|(refine no fun d S' e=>?_;simp only[VO.cG]at e;simp[VO.run,e,hx];done)|(refine yes _ fun d S' e=>Eq.trans (by simp only[VO.cG]at e;simp only[VO.run,e,hx];exact rfl) rfl)
 |ext x i =>
  cases hx:S.ev x with
  |none=>exact no fun d S' e=>by simp only[VO.cG]at e;simp[VO.run,e,hx]
  |some a =>
   cases a with
   |tuple vs =>
    cases hl:vs[i]? with
    |none=>exact no fun d S' e=>by simp only[VO.cG]at e;simp only[VO.run,e,hx,hl]
    |some v=>exact yes v fun d S' e=>by simp only[VO.cG]at e;simp only[VO.run,e,hx,hl]
   |_=>exact no fun d S' e=>by simp only[VO.cG]at e;simp[VO.run,e,hx]
 |wQ sz x lo hi =>
  cases hx:S.ev x with
  |none=>exact no fun d S' e=>by simp only[VO.cG]at e;simp[VO.run,e,hx]
  |some a =>
   cases a with
   |slice tk m es =>
    cases hl:S.kM lo 0 with
    |none=>exact no fun d S' e=>by simp only[VO.cG]at e;simp[VO.run,e,hx,hl]
    |some p =>
     cases hh:S.kM hi es.length with
     |none=>exact no fun d S' e=>by simp only[VO.cG]at e;cases p<;>simp[VO.run,e,hx,hl,hh]
     |some q =>
      cases p with
      |int k1 l =>
       cases q with
       |int k2 h =>
        cases hc:(decide (0≤l)&&decide (l≤h)&&decide (h≤(es.length:Int))&&(m==sz)) with
        |false=>exact no fun d S' e=>by simp only[VO.cG]at e;simp only[VO.run,e,hx,hl,hh,hc,fu]
        |true=>exact yes (.slice none sz ((es.take h.toNat).drop l.toNat)) fun d S' e=>by simp only[VO.cG]at e;simp only[VO.run,e,hx,hl,hh,hc,bM]
       |_=>exact no fun d S' e=>by simp only[VO.cG]at e;simp[VO.run,e,hx,hl,hh]
      |_=>exact no fun d S' e=>by simp only[VO.cG]at e;simp[VO.run,e,hx,hl,hh]
   |bU =>
    cases hl:S.kM lo 0 with
    |none=>exact no fun d S' e=>by simp only[VO.cG]at e;simp[VO.run,e,hx,hl]
    |some p =>
     cases hh:S.kM hi 0 with
     |none=>exact no fun d S' e=>by simp only[VO.cG]at e;cases p<;>simp[VO.run,e,hx,hl,hh]
     |some q =>
      cases p with
      |int k1 l =>
       cases q with
       |int k2 h =>
        cases hc:(decide (l=0)&&decide (h=0)) with
        |false=>exact no fun d S' e=>by simp only[VO.cG]at e;simp only[VO.run,e,hx,hl,hh,hc,fu]
        |true=>exact yes .bU fun d S' e=>by simp only[VO.cG]at e;simp only[VO.run,e,hx,hl,hh,hc,bM]
       |_=>exact no fun d S' e=>by simp only[VO.cG]at e;simp[VO.run,e,hx,hl,hh]
      |_=>exact no fun d S' e=>by simp only[VO.cG]at e;simp[VO.run,e,hx,hl,hh]
   |bR id s n =>
    cases hl:S.kM lo 0 with
    |none=>exact no fun d S' e=>by simp only[VO.cG]at e;simp[VO.run,e,hx,hl]
    |some p =>
     cases hh:S.kM hi n with
     |none=>exact no fun d S' e=>by simp only[VO.cG]at e;cases p<;>simp[VO.run,e,hx,hl,hh]
     |some q =>
      cases p with
      |int k1 l =>
       cases q with
       |int k2 h =>
        cases hc:(decide (0≤l)&&decide (l≤h)&&decide (h≤(n:Int))&&(s==sz)) with
        |false=>exact no fun d S' e=>by simp only[VO.cG]at e;simp only[VO.run,e,hx,hl,hh,hc,fu]
        |true =>
         cases h1:decide (l=0) with
         |true=>exact yes (.bR id s h.toNat) fun d S' e=>by simp only[VO.cG]at e;simp only[VO.run,e,hx,hl,hh,hc,h1,bM]
         |false =>
          cases h2:decide (l<(n:Int)) with
          |true=>exact yes (.fT id s l.toNat (h-l).toNat) fun d S' e=>by simp only[VO.cG]at e;simp only[VO.run,e,hx,hl,hh,hc,h1,h2,bM,fu]
          |false=>exact no fun d S' e=>by simp only[VO.cG]at e;simp only[VO.run,e,hx,hl,hh,hc,h1,h2,bM,fu]
       |_=>exact no fun d S' e=>by simp only[VO.cG]at e;simp[VO.run,e,hx,hl,hh]
      |_=>exact no fun d S' e=>by simp only[VO.cG]at e;simp[VO.run,e,hx,hl,hh]
   |c6 id s n =>
    cases hl:S.kM lo 0 with
    |none=>exact no fun d S' e=>by simp only[VO.cG]at e;simp[VO.run,e,hx,hl]
    |some p =>
     cases hh:S.kM hi n with
     |none=>exact no fun d S' e=>by simp only[VO.cG]at e;cases p<;>simp[VO.run,e,hx,hl,hh]
     |some q =>
      cases p with
      |int k1 l =>
       cases q with
       |int k2 h =>
        cases hc:(decide (0≤l)&&decide (l≤h)&&decide (h≤(n:Int))&&(s==sz)) with
        |false=>exact no fun d S' e=>by simp only[VO.cG]at e;simp only[VO.run,e,hx,hl,hh,hc,fu]
        |true =>
         cases h1:decide (l=0) with
         |true=>exact yes (.c6 id s h.toNat) fun d S' e=>by simp only[VO.cG]at e;simp only[VO.run,e,hx,hl,hh,hc,h1,bM]
         |false =>
          cases h2:decide (l<(n:Int)) with
          |true=>exact yes (.iM id s l.toNat (h-l).toNat) fun d S' e=>by simp only[VO.cG]at e;simp only[VO.run,e,hx,hl,hh,hc,h1,h2,bM,fu]
          |false=>exact no fun d S' e=>by simp only[VO.cG]at e;simp only[VO.run,e,hx,hl,hh,hc,h1,h2,bM,fu]
       |_=>exact no fun d S' e=>by simp only[VO.cG]at e;simp[VO.run,e,hx,hl,hh]
      |_=>exact no fun d S' e=>by simp only[VO.cG]at e;simp[VO.run,e,hx,hl,hh]
   |_=>exact no fun d S' e=>by simp only[VO.cG]at e;simp[VO.run,e,hx]
 |vB mx x y z =>
  cases hx:S.ev x with
  |none=>exact no fun d S' e=>by simp only[VO.cG]at e;simp[VO.run,e,hx]
  |some a =>
   cases hy:S.ev y with
   |none=>exact no fun d S' e=>by simp only[VO.cG]at e;cases a<;>simp[VO.run,e,hx,hy]
   |some b =>
    cases hz:S.ev z with
    |none=>exact no fun d S' e=>by simp only[VO.cG]at e;cases a<;>cases b<;>simp[VO.run,e,hx,hy,hz]
    |some c =>
     cases a with
     |int k1 a=>cases b with
      |int k2 b=>cases c with
       |int k3 c=>exact yes _ fun d S' e=>Eq.trans (by simp only[VO.cG]at e;simp only[VO.run,e,hx,hy,hz];exact rfl) rfl
       |_=>exact no fun d S' e=>by simp only[VO.cG]at e;simp[VO.run,e,hx,hy,hz]
      |_=>exact no fun d S' e=>by simp only[VO.cG]at e;simp[VO.run,e,hx,hy,hz]
     |_=>exact no fun d S' e=>by simp only[VO.cG]at e;simp[VO.run,e,hx,hy,hz]
 |mm mx x y =>
  cases hx:S.ev x with
  |none=>exact no fun d S' e=>by simp only[VO.cG]at e;simp[VO.run,e,hx]
  |some a =>
   cases hy:S.ev y with
   |none=>exact no fun d S' e=>by simp only[VO.cG]at e;cases a<;>simp[VO.run,e,hx,hy]
   |some b=>cases a<;>cases b<;>first|(refine no fun d S' e=>?_;simp only[VO.cG]at e;simp[VO.run,e,hx,hy];done)|(refine yes _ fun d S' e=>Eq.trans (by simp only[VO.cG]at e;simp only[VO.run,e,hx,hy];exact rfl) rfl)
 |wR f cap =>
  cases hx:qf S cap with
  |none=>exact no fun d S' e=>by simp only[VO.cG]at e;simp[VO.run,e,hx]
  |some vs =>
   cases hg:C0 vs with
   |none=>exact no fun d S' e=>by simp only[VO.cG]at e;simp only[VO.run,e,hx,hg]
   |some us=>exact yes (.fn f us) fun d S' e=>by simp only[VO.cG]at e;simp only[VO.run,e,hx,hg]
 |_=>cases tN
theorem pI{α β:Type}(c:Bool)(x y:Option α)(f:α→β):(bif c then x else y).map f=bif c then x.map f else y.map f:=by cases c<;>rfl
theorem QD{S S':St}(e:S'.env=S.env)(vo:VO):VO.cG S' S vo:=by
 cases vo<;>first
  |trivial
  |exact Ah e _
  |exact⟨Ah e _,Ah e _⟩
  |exact⟨Ah e _,Ah e _,Ah e _⟩
  |exact⟨Ah e _,fun n=>X3 e _ n,fun n=>X3 e _ n⟩
  |exact X4 e _
theorem aj1(C:bD)(d:Option Nat)(S:St)(vo:VO)(h:vo.frame=true):vo.run C d S=(vo.cO C S).map fun u=>u.app d S:=by
 obtain⟨r,hr⟩:=X5 C S vo h;rw[LG C S vo h,hr d S (QD (S':=S) rfl vo),hr (some 0) (St.mk S.env [] [] []) (QD (by rfl) vo)]
 cases r<;>simp[tR,St.put]
theorem X6(C:bD)(d:Option Nat)(S:St)(vo:VO):vo.run C d S=(vo.cO C S).map fun u=>u.app d S:=by
 cases vo with
 |mv x=>simp only[VO.run,VO.cO];cases S.ev x<;>simp[tR]
 |pick c a b =>
  simp only[VO.run,VO.cO];cases S.ev c with
  |none=>rfl
  |some v =>
   cases v<;>try rfl
   rename_i t;cases t<;>simp only[bM,fu]
   ·cases S.ev b<;>simp[tR]
   ·cases S.ev a<;>simp[tR]
 |obj id cells=>rfl
 |box id x =>
  simp only[VO.run,VO.cO];cases S.ev x with
  |none=>rfl
  |some v=>simp only[pI];cases v.cells.all V.cQ<;>rfl
 |vr sh x =>
  simp only[VO.run,VO.cO];cases S.ev x with
  |none=>rfl
  |some v=>simp only;cases nf sh v.cells<;>rfl
 |vt sh zero=>simp only[VO.run,VO.cO];cases nf sh zero<;>rfl
 |vu=>rfl
 |wM ag ks zero ok x k =>
  simp only[VO.run,VO.cO];split
  ·split
   ·split<;>simp_all[tR]
   ·simp_all
  ·simp_all
 |vv ag ks sh x k y =>
  simp only[VO.run,VO.cO];split
  ·split
   ·split<;>simp_all[Out.app,Out.aZ]
   ·simp_all
  ·simp_all
 |build zero parts=>simp only[VO.run,VO.cO];cases sN S parts zero<;>simp[tR]
 |lit tok sh zero ln parts =>
  simp only[VO.run,VO.cO];cases vC S sh parts (List.replicate ln zero) with
  |none=>rfl
  |some rs=>cases tok<;>simp[tR]<;>rfl
 |load root sz p =>
  simp only[VO.run,VO.cO];cases S.ev p with
  |none=>rfl
  |some a =>
   simp only[pI];cases root.fits a
   ·rfl
   ·simp only[bM]
    cases S.nY a with
    |none=>rfl
    |some q =>
     obtain⟨cs,off⟩:=q;simp only;cases loadAt sz cs off<;>simp[tR]
 |sK f args ids =>
  simp only[VO.run,VO.cO];cases S.ev f with
  |none=>rfl
  |some a =>
   cases a<;>try rfl
   rename_i g cap;cases cap with
   |cons _ _=>rfl
   |nil =>
    cases mq S ids args with
    |none=>rfl
    |some vs =>
     simp only;cases C g vs [] with
     |none=>rfl
     |some q =>
      obtain⟨r,G⟩:=q;simp only[pI];cases r.qE<;>simp[tR]
 |tz cn p =>
  simp only[VO.run,VO.cO];cases S.ev p with
  |none=>rfl
  |some a =>
   simp only;cases S.take cn a with
   |none=>rfl
   |some q=>rfl
 |vy cn p x =>
  simp only[VO.run,VO.cO];cases S.ev p with
  |none=>rfl
  |some a =>
   cases S.ev x with
   |none=>rfl
   |some v =>
    simp only;cases S.yd cn a v with
    |none=>rfl
    |some q=>rfl
 |store root sh p x =>
  simp only[VO.run,VO.cO];simp only[pI];cases S.fits root p
  ·rfl
  ·simp only[bM]
   cases S.ev p with
   |none=>rfl
   |some a =>
    cases S.ev x with
    |none=>cases a<;>rfl
    |some v =>
     cases a<;>try rfl
     ·rename_i id off
      simp only;cases look id S.aZ with
      |none=>rfl
      |some cs=>simp only[pI];rfl
     ·rename_i id off
      simp only;cases S.aD[id]? with
      |none=>rfl
      |some o =>
       cases o with
       |map es=>rfl
       |cells cs =>
        simp only;cases nf sh v.cells with
        |none=>rfl
        |some vs=>simp only[pI];rfl
 |app cn src sh mx x y =>
  simp only[VO.run,VO.cO];cases S.ev x with
  |none=>rfl
  |some a =>
   cases S.ev y with
   |none =>
    cases a<;>try rfl
    rename_i tok n es;cases tok<;>rfl
   |some b =>
    cases a<;>try rfl
    ·simp only
     cases S.rows sh b with
     |none=>rfl
     |some ys=>simp only[pI];rfl
    ·rename_i tok n es
     cases tok with
     |none=>rfl
     |some f =>
      simp only;cases S.rows sh b with
      |none=>rfl
      |some ys =>
       simp only;cases (bif src==some f then look f S.bl else none) with
       |none=>rfl
       |some k=>simp only[pI];rfl
    ·simp only
     cases S.rows sh b with
     |none=>rfl
     |some ys=>simp only[pI];rfl
 |uA nw src oy sh x y =>
  simp only[VO.run,VO.cO];cases S.ev x with
  |none=>rfl
  |some a =>
   cases S.ev y with
   |none=>cases a<;>rfl
   |some b =>
    cases a<;>try rfl
    ·simp only
     cases S.oK oy sh b with
     |none=>rfl
     |some ys =>
      simp only[pI];cases ys.isEmpty<;>simp[tR]<;>rfl
    ·simp only
     cases S.oK oy sh b with
     |none=>rfl
     |some ys =>
      simp only[pI];cases ys.isEmpty<;>simp[tR]<;>rfl
    ·simp only
     cases S.oK oy sh b with
     |none=>rfl
     |some ys =>
      cases look src S.aZ with
      |none=>rfl
      |some cs=>simp only[pI];rfl
 |call alone f args reg =>
  cases alone
  ·simp only[VO.run,VO.cO]
   cases S.ev f with
   |none=>rfl
   |some a =>
    cases a<;>try rfl
    rename_i g cap;cases nK S args with
    |none=>rfl
    |some vs =>
     simp only;cases C g (vs++cap) S.aD with
     |none=>rfl
     |some q=>rfl
  ·simp only[VO.run,VO.cO]
   cases S.ev f with
   |none=>rfl
   |some a =>
    cases a<;>try rfl
    rename_i g cap;cases nL S args with
    |none=>cases cap<;>rfl
    |some vs =>
     cases cap with
     |cons _ _=>rfl
     |nil =>
      simp only;cases C g vs [] with
      |none=>rfl
      |some q=>simp only[pI];rfl
 |sJ f args =>
  simp only[VO.run,VO.cO];cases S.ev f with
  |none=>rfl
  |some a =>
   cases a<;>try rfl
   rename_i g cap;cases nK S args with
   |none=>rfl
   |some vs =>
    simp only;cases C g (vs++cap) S.aD with
    |none=>rfl
    |some q =>
     simp only[rd];split<;>simp[tR]
 |own f args ids id pos =>
  simp only[VO.run,VO.cO];cases S.ev f with
  |none=>rfl
  |some a =>
   cases a<;>try rfl
   rename_i g cap;cases mq S ids args with
   |none=>cases cap<;>rfl
   |some vs =>
    cases cap with
    |cons _ _=>rfl
    |nil =>
     simp only;cases C g vs [] with
     |none=>rfl
     |some q =>
      simp only;cases kC id pos q.1 with
      |none=>rfl
      |some p =>
       obtain⟨v,o⟩:=p;cases o with
       |none=>simp[tR]
       |some cs=>rfl
 |sL f args id =>
  simp only[VO.run,VO.cO];cases S.ev f with
  |none=>rfl
  |some a =>
   cases nL S args with
   |none=>cases a<;>try rfl
          rename_i g cap;cases cap<;>rfl
   |some vs =>
    cases a<;>try rfl
    rename_i g cap;cases cap with
    |cons _ _=>rfl
    |nil =>
     simp only;cases C g vs [] with
     |none=>rfl
     |some q =>
      simp only;cases kC id 0 q.1 with
      |none=>rfl
      |some p =>
       obtain⟨v,o⟩:=p;cases o with
       |none=>cases v<;>rfl
       |some cs=>cases v<;>try rfl
                 simp only[pI];rfl
 |vx x =>
  simp only[VO.run,VO.cO];cases S.ev x with
  |none=>rfl
  |some a =>
   simp only;cases Hz S.aD a.part<;>rfl
 |wP k f i x =>
  simp only[VO.run,VO.cO,St.mut];cases S.ev x with
  |none=>rfl
  |some a =>
   cases a<;>try rfl
   simp only;cases look i S.aZ with
   |none=>rfl
   |some cs =>
    simp only[pI];congr 1;generalize yh _=z;cases z<;>rfl
 |uB id zero n =>
  simp only[VO.run,VO.cO];cases S.ev n with
  |none=>rfl
  |some a =>
   cases a<;>try rfl
   simp only[pI];rfl
 |grow f id n =>
  simp only[VO.run,VO.cO];cases S.ev n with
  |none=>rfl
  |some a =>
   cases a<;>try rfl
   rename_i k _;cases k<;>try rfl
   simp only[pI];rfl
 |vw id src x y =>
  simp only[VO.run,VO.cO];cases S.ev x with
  |none=>rfl
  |some a =>
   cases S.ev y with
   |none=>cases a<;>rfl
   |some b =>
    cases a<;>try rfl
    simp only;cases look id S.aZ with
    |none=>rfl
    |some cs =>
     cases S.zM src b with
     |none=>rfl
     |some us=>simp only[pI];rfl
 |_=>exact aj1 C d S _ rfl
def bA.keys:bA→List Key
 |.t s=>[.e s]
 |.c _=>[]
def j8.keys:j8→List Key
 |.loc id=>[.o id]
 |.aD=>[.g]
 |.kN=>[]
def LH:Option bA→List Key
 |some o=>o.keys
 |none=>[]
def Ig:Option Nat→List Key
 |some f=>[.t f]
 |none=>[]
def LI:Option Nat→List Key
 |some j=>[.o j]
 |none=>[]
def VO.rd:VO→List Key
 |.grow _ _ x | .wN x=>x.keys
 |.vw id src x y=>.o id::(LI src++x.keys++y.keys)
 |.vx x=>.g::x.keys
 |.wP _ _ id x=>.o id::x.keys
 |.zL _=>[]
 |.wO _ x=>x.keys
 |.tz _ x=>.g::x.keys
 |.vy f x y=>.g::.t f::(x.keys++y.keys)
 |.mv x | .box _ x | .uz x | .un _ x | .conv _ x | .tA _ x | .arr _ _ x | .field _ _ x | .len x | .vz x | .ext x _ | .uB _ _ x=>x.keys
 |.pick a b c=>a.keys++b.keys++c.keys
 |.obj _ _=>[]
 |.vr _ x=>.g::x.keys
 |.vt _ _ | .vu=>[.g]
 |.wM _ _ _ _ x k=>.g::(x.keys++k.keys)
 |.vv _ _ _ x k y=>.g::(x.keys++k.keys++y.keys)
 |.build _ ps=>ps.flatMap fun p=>p.2.2.keys
 |.lit _ _ _ _ ps=>ps.flatMap fun p=>p.2.keys
 |.load root _ x=>root.keys++x.keys
 |.store root _ x y=>root.keys++x.keys++y.keys
 |.bin _ x y | .beq _ x y | .gA _ _ x y | .oJ _ _ x y | .idx _ _ _ x y | .mm _ x y=>x.keys++y.keys
 |.vB _ x y z=>x.keys++y.keys++z.keys
 |.app _ src _ _ x y=>Ig src++x.keys++y.keys
 |.uA _ src oy _ x y=>.o src::(LI oy++x.keys++y.keys)
 |.call alone f args _=>(bif alone then [] else [.g])++f.keys++args.flatMap fun p=>p.2.keys
 |.own f args ids _ _=>ids.map Key.o++(f.keys++args.flatMap fun p=>p.2.2.keys)
 |.sL f args _=>.g::(f.keys++args.flatMap fun p=>p.2.keys)
 |.sK f args ids=>ids.map Key.o++(f.keys++args.flatMap fun p=>p.2.2.keys)
 |.sJ f args=>.g::(f.keys++args.flatMap fun p=>p.2.keys)
 |.wQ _ x lo hi=>x.keys++LH lo++LH hi
 |.wR _ cap=>cap.flatMap bA.keys
def VO.wr:VO→List Key
 |.obj id _ | .box id _ | .uB id _ _ | .grow _ id _ | .vw id _ _ _=>[.o id]
 |.vr _ _ | .vt _ _ | .vu | .vv .. | .sL .. | .vx _=>[.g]
 |.lit (some f) _ _ _ _=>[.t f]
 |.store (.loc id) _ _ _=>[.o id]
 |.store _ _ _ _=>[.g]
 |.app f src _ _ _ _=>.t f::Ig src
 |.tz f _ | .vy f _ _=>[.g,.t f]
 |.uA nw src _ _ _ _=>[.o nw,.o src]
 |.call alone _ _ reg=>(bif alone then [] else [.g])++(Dl reg).map .t
 |.own _ _ _ id _=>[.o id]
 |.wP _ _ id _=>[.o id]
 |_=>[]
def bK.rd(o:bK):List Key:=(match o.guard with|some (s,_)=>[.e s] | none=>[])++o.op.rd
def bK.wr(o:bK):List Key:=(match o.dst with|some d=>[.e d] | none=>[])++o.op.wr
def gz(S S':St)(K:List Key):Prop:=∀k∈K,same S S' k
section
variable {S S':St} {C:bD}
theorem eA{x:bA}(h:gz S S' x.keys):S.ev x=S'.ev x:=by
 cases x with
 |t s=>exact h (.e s) (by simp[bA.keys])
 |c v=>rfl
theorem gz.left{K L:List Key}(h:gz S S' (K++L)):gz S S' K:=fun k hk=>h k (Po _ hk)
theorem gz.right{K L:List Key}(h:gz S S' (K++L)):gz S S' L:=fun k hk=>h k (Ho _ hk)
theorem X7:∀{xs:List bA},gz S S' (xs.flatMap bA.keys)→qf S xs=qf S' xs
 |[],_=>rfl
 |x::xs,h=>by
  rw[CO]at h;simp only[qf,eA h.left,X7 h.right]
theorem X8:∀{ps:List (Nat×Nat×bA)} {cs:List V},gz S S' (ps.flatMap fun p=>p.2.2.keys)→sN S ps cs=sN S' ps cs
 |[],_,_=>rfl
 |(off,n,x)::ps,cs,h=>by
  rw[CO]at h;simp only[sN,eA (x:=x) h.left];split
  ·rw[X8 h.right]
  ·rfl
theorem X9{sh:Sh}:∀{ps:List (Nat×bA)} {rs:List (List V)},gz S S' (ps.flatMap fun p=>p.2.keys)→vC S sh ps rs=vC S' sh ps rs
 |[],_,_=>rfl
 |(i,x)::ps,rs,h=>by
  rw[CO]at h;simp only[vC,eA (x:=x) h.left];split
  ·split
   ·rw[X9 h.right]
   ·rfl
  ·rfl
theorem QE:∀{ps:List (Sh×bA)},gz S S' (ps.flatMap fun p=>p.2.keys)→nK S ps=nK S' ps
 |[],_=>rfl
 |(sh,x)::ps,h=>by
  rw[CO]at h;simp only[nK,eA (x:=x) h.left,QE h.right]
theorem QF:∀{ps:List (Sh×bA)},gz S S' (ps.flatMap fun p=>p.2.keys)→nL S ps=nL S' ps
 |[],_=>rfl
 |(sh,x)::ps,h=>by
  rw[CO]at h;simp only[nL,eA (x:=x) h.left,QF h.right]
theorem QG{sh:Sh}{v:V}:S.rows sh v=S'.rows sh v:=by
 unfold St.rows;split<;>rfl
theorem aj2{oy:Option Nat}{sh:Sh}{v:V}(h:∀j,oy=some j→look j S.aZ=look j S'.aZ):S.oK oy sh v=S'.oK oy sh v:=by
 unfold St.oK;cases oy with
 |none=>exact QG
 |some j =>
  cases v<;>try exact QG
  rename_i i s n;by_cases e:i=j
  ·subst e
   simp only[St.sM,h i rfl]
  ·have:(i==j)=false:=by simpa using e
   simp only[this,fu]
theorem aj3{vo:VO}(h:gz S S' vo.rd):VO.cG S' S vo:=by
 cases vo with
 |uz x=>exact(eA h).symm
 |un op x=>exact(eA h).symm
 |conv k x=>exact(eA h).symm
 |tA off x=>exact(eA h).symm
 |arr n sz x=>exact(eA h).symm
 |field off sz x=>exact(eA h).symm
 |wO neg x=>exact(eA h).symm
 |len x=>exact(eA h).symm
 |vz x=>exact(eA h).symm
 |wN x=>exact(eA h).symm
 |ext x i=>exact(eA h).symm
 |bin op x y=>exact⟨(eA h.left).symm,(eA h.right).symm⟩
 |beq neg x y=>exact⟨(eA h.left).symm,(eA h.right).symm⟩
 |gA neg ks x y=>exact⟨(eA h.left).symm,(eA h.right).symm⟩
 |oJ arr sz x y=>exact⟨(eA h.left).symm,(eA h.right).symm⟩
 |idx n sz ag x y=>exact⟨(eA h.left).symm,(eA h.right).symm⟩
 |mm mx x y=>exact⟨(eA h.left).symm,(eA h.right).symm⟩
 |vB mx x y z =>
  have h1:gz S S' (x.keys++y.keys++z.keys):=h;exact⟨(eA h1.left.left).symm,(eA h1.left.right).symm,(eA h1.right).symm⟩
 |wQ sz x lo hi =>
  have h1:gz S S' (x.keys++LH lo++LH hi):=h;refine⟨(eA h1.left.left).symm,fun n=>?_,fun n=>?_⟩
  ·cases lo with
   |none=>rfl
   |some o=>exact(eA h1.left.right).symm
  ·cases hi with
   |none=>rfl
   |some o=>exact(eA h1.right).symm
 |wR f cap=>exact(X7 h).symm
 |_=>trivial
theorem aj4{vo:VO}(tN:vo.frame=true)(h:gz S S' vo.rd):vo.cO C S=vo.cO C S':=by
 obtain⟨r,hr⟩:=X5 C S vo tN;rw[LG C S vo tN,LG C S' vo tN,hr (some 0) _ (QD (by rfl) vo)]
 have h1:=aj3 h;have h2:VO.cG (St.mk S'.env [] [] []) S vo:=by
  cases vo<;>simp only[VO.cG,QB,aj0,X2]at h1 ⊢ <;> exact h1
 rw[hr (some 0) _ h2];cases r<;>rfl
theorem aj5{root:j8}{a:V}(hf:root.fits a=true)(h:gz S S' root.keys):S.nY a=S'.nY a:=by
 cases root with
 |loc i =>
  cases a<;>simp[j8.fits]at hf;rename_i id off;subst hf;have:look i S.aZ=look i S'.aZ:=h (.o i) (by simp[j8.keys])
  simp only[St.nY,this]
 |aD =>
  cases a<;>simp[j8.fits]at hf;have:S.aD=S'.aD:=h .g (by simp[j8.keys])
  simp only[St.nY,this]
 |kN =>
  cases a<;>simp[j8.fits]at hf;rfl
theorem QH{ids:List Nat}(ho:∀id∈ids,look id S.aZ=look id S'.aZ):∀{ps:List (Sh×Sh×bA)},gz S S' (ps.flatMap fun p=>p.2.2.keys)→mq S ids ps=mq S' ids ps
 |[],_=>rfl
 |(rs,sh,x)::ps,h=>by
  rw[CO]at h;have h1:S.ev x=S'.ev x:=eA h.left;have h2:=QH ho (ps:=ps) h.right;have h3:∀id s n,S.CZ ids rs id s n=S'.CZ ids rs id s n:=fun id s n=>by
   unfold St.CZ;cases hc:ids.contains id with
   |false=>rfl
   |true=>simp only[bM,St.sM,ho id (by simpa using hc)]
  have h4:∀id s off n,S.Bo ids rs id s off n=S'.Bo ids rs id s off n:=fun id s off n=>by
   unfold St.Bo;cases hc:ids.contains id with
   |false=>rfl
   |true=>simp only[bM,ho id (by simpa using hc)]
  simp only[mq,h1,h2];cases S'.ev x with
  |none=>rfl
  |some v =>
   cases v<;>try rfl
   ·rename_i id s n
    simp only[h3 id s n]
   ·rename_i id s off n
    simp only[h4 id s off n]
theorem Ya{vo:VO}(h:gz S S' vo.rd):vo.cO C S=vo.cO C S':=by
 cases vo with
 |mv x=>simp only[VO.cO,eA (x:=x) h]
 |pick c a b =>
  have h1:gz S S' (c.keys++a.keys++b.keys):=h;simp only[VO.cO,eA (x:=c) h1.left.left,eA (x:=a) h1.left.right,eA (x:=b) h1.right]
 |obj id cells=>rfl
 |box id x=>simp only[VO.cO,eA (x:=x) h]
 |vr sh x =>
  have hg:S.aD=S'.aD:=h .g (by simp[VO.rd])
  have hx:gz S S' x.keys:=fun k hk=>h k (by simp[VO.rd,hk])
  simp only[VO.cO,eA hx,hg]
 |vt sh zero =>
  have hg:S.aD=S'.aD:=h .g (by simp[VO.rd])
  simp only[VO.cO,hg]
 |vu =>
  have hg:S.aD=S'.aD:=h .g (by simp[VO.rd])
  simp only[VO.cO,hg]
 |wM ag ks zero ok x k =>
  have hg:S.aD=S'.aD:=h .g (by simp[VO.rd])
  have hx:gz S S' x.keys:=fun k hk=>h k (by simp[VO.rd,hk])
  have hk:gz S S' k.keys:=fun k hk=>h k (by simp[VO.rd,hk])
  simp only[VO.cO,eA hx,eA hk,hg]
 |vv ag ks sh x k y =>
  have hg:S.aD=S'.aD:=h .g (by simp[VO.rd])
  have hx:gz S S' x.keys:=fun k hk=>h k (by simp[VO.rd,hk])
  have hk:gz S S' k.keys:=fun k hk=>h k (by simp[VO.rd,hk])
  have hy:gz S S' y.keys:=fun k hk=>h k (by simp[VO.rd,hk])
  simp only[VO.cO,eA hx,eA hk,eA hy,hg]
 |build zero ps=>simp only[VO.cO,X8 (ps:=ps) h]
 |lit tok sh zero ln ps=>simp only[VO.cO,X9 (ps:=ps) h]
 |load root sz x =>
  have h1:gz S S' (root.keys++x.keys):=h;simp only[VO.cO,eA (x:=x) h1.right];cases S'.ev x with
  |none=>rfl
  |some a =>
   simp only;cases hf:root.fits a with
   |false=>rfl
   |true=>simp only[bM,aj5 hf h1.left]
 |sK f args ids =>
  have h1:gz S S' (ids.map Key.o++(f.keys++args.flatMap fun p=>p.2.2.keys)):=h;have h2:∀id∈ids,look id S.aZ=look id S'.aZ:=fun id hi=>h1 (.o id) (Po _ (nc.2 ⟨id,hi,rfl⟩));simp only[VO.cO,eA (x:=f) h1.right.left,QH h2 (ps:=args) h1.right.right]
 |tz cn x =>
  have hg:S.aD=S'.aD:=h .g (by simp[VO.rd])
  have hx:gz S S' x.keys:=fun k hk=>h k (by simp[VO.rd,hk])
  have ht:∀a,S.take cn a=S'.take cn a:=fun a=>by cases a<;>simp only[St.take,hg]
  simp only[VO.cO,eA hx,ht]
 |vy cn x y =>
  have hg:S.aD=S'.aD:=h .g (by simp[VO.rd])
  have hf:look cn S.bl=look cn S'.bl:=h (.t cn) (by simp[VO.rd])
  have hx:gz S S' x.keys:=fun k hk=>h k (by simp[VO.rd,hk])
  have hy:gz S S' y.keys:=fun k hk=>h k (by simp[VO.rd,hk])
  have ht:∀a b,S.yd cn a b=S'.yd cn a b:=fun a b=>by
   unfold St.yd;split<;>first|rfl|simp only[hg,hf]
  simp only[VO.cO,eA hx,eA hy,ht]
 |store root sh x y =>
  have h1:gz S S' (root.keys++x.keys++y.keys):=h;have hx:=eA (x:=x) h1.left.right;have hy:=eA (x:=y) h1.right;have fZ:S.fits root x=S'.fits root x:=by simp only[St.fits,hx]
  simp only[VO.cO,fZ,hx,hy];cases hf:S'.fits root x with
  |false=>rfl
  |true =>
   simp only[bM];simp only[St.fits]at hf;cases hp:S'.ev x with
   |none=>rfl
   |some a =>
    rw[hp]at hf;simp only at hf;cases root with
    |loc i =>
     cases a<;>simp[j8.fits]at hf;rename_i id off;subst hf;have:look i S.aZ=look i S'.aZ:=h (.o i) (by simp[VO.rd,j8.keys])
     cases S'.ev y with
     |none=>rfl
     |some v=>simp only[this]
    |aD =>
     cases a<;>simp[j8.fits]at hf;have:S.aD=S'.aD:=h .g (by simp[VO.rd,j8.keys])
     cases S'.ev y with
     |none=>rfl
     |some v=>simp only[this]
    |kN =>
     cases a<;>simp[j8.fits]at hf;rfl
 |app cn src sh mx x y =>
  have h1:gz S S' (Ig src++x.keys++y.keys):=h;have ht:∀f,(bif src==some f then look f S.bl else none)=(bif src==some f then look f S'.bl else none):=fun f=>by
   cases hs:src==some f with
   |false=>rfl
   |true =>
    have:=eq_of_beq hs;subst this;exact h (.t f) (by simp[VO.rd,Ig])
  have hr:∀v,S.rows sh v=S'.rows sh v:=fun v=>QG;simp only[VO.cO,eA (x:=x) h1.left.right,eA (x:=y) h1.right,ht,hr]
 |call alone f args reg =>
  have h1:gz S S' ((bif alone then [] else [.g])++f.keys++args.flatMap fun p=>p.2.keys):=h;cases alone
  ·have hg:S.aD=S'.aD:=h .g (by simp[VO.rd])
   simp only[VO.cO,eA (x:=f) h1.left.right,QE (ps:=args) h1.right,hg]
  ·simp only[VO.cO,eA (x:=f) h1.left.right,QF (ps:=args) h1.right]
 |sJ f args =>
  have h1:gz S S' ([.g]++(f.keys++args.flatMap fun p=>p.2.keys)):=h;have hg:S.aD=S'.aD:=h .g (by simp[VO.rd])
  simp only[VO.cO,eA (x:=f) h1.right.left,QE (ps:=args) h1.right.right,hg]
 |own f args ids id pos =>
  have h1:gz S S' (ids.map Key.o++(f.keys++args.flatMap fun p=>p.2.2.keys)):=h;have h2:∀id∈ids,look id S.aZ=look id S'.aZ:=fun id hi=>h1 (.o id) (Po _ (nc.2 ⟨id,hi,rfl⟩));simp only[VO.cO,eA (x:=f) h1.right.left,QH h2 (ps:=args) h1.right.right]
 |sL f args id =>
  have h1:gz S S' ([.g]++(f.keys++args.flatMap fun p=>p.2.keys)):=h;have hg:S.aD=S'.aD:=h .g (by simp[VO.rd])
  simp only[VO.cO,eA (x:=f) h1.right.left,QF (ps:=args) h1.right.right,hg]
 |uB id zero x=>simp only[VO.cO,eA (x:=x) h]
 |grow f id x=>simp only[VO.cO,eA (x:=x) h]
 |vw id src x y =>
  have ho:look id S.aZ=look id S'.aZ:=h (.o id) (by simp[VO.rd])
  have hj:∀j,src=some j→look j S.aZ=look j S'.aZ:=fun j e=>h (.o j) (by simp[VO.rd,e,LI])
  have hx:gz S S' x.keys:=fun k hk=>h k (by simp[VO.rd,hk])
  have hy:gz S S' y.keys:=fun k hk=>h k (by simp[VO.rd,hk])
  have hr:∀v,S.zM src v=S'.zM src v:=fun v=>by
   unfold St.zM;cases src with
   |none=>rfl
   |some j=>simp only[hj j rfl]
  simp only[VO.cO,eA hx,eA hy,ho,hr]
 |vx x =>
  have hg:S.aD=S'.aD:=h .g (by simp[VO.rd])
  have hx:gz S S' x.keys:=fun k hk=>h k (by simp[VO.rd,hk])
  simp only[VO.cO,eA hx,hg]
 |wP k f i x =>
  have ho:look i S.aZ=look i S'.aZ:=h (.o i) (by simp[VO.rd])
  have hx:gz S S' x.keys:=fun k hk=>h k (by simp[VO.rd,hk])
  simp only[VO.cO,eA hx,ho]
 |uA nw src oy sh x y =>
  have ho:look src S.aZ=look src S'.aZ:=h (.o src) (by simp[VO.rd])
  have hx:gz S S' x.keys:=fun k hk=>h k (by simp[VO.rd,hk])
  have hy:gz S S' y.keys:=fun k hk=>h k (by simp[VO.rd,hk])
  have hr:∀v,S.oK oy sh v=S'.oK oy sh v:=fun v=>aj2 fun j e=>h (.o j) (by subst e;simp[VO.rd,LI])
  simp only[VO.cO,eA hx,eA hy,ho,hr]
 |_=>exact aj4 rfl h
theorem QI{α:Type}{s k:Nat}{v:α}{r:List (Nat×α)}(h:k≠s):look s ((k,v)::r)=look s r:=by rw[dL,av h]
theorem QJ{u:Out}{d:Option Nat}{k:Key}(h:same S S' k):same (u.app d S) (u.app d S') k:=by
 obtain⟨v,obj,bl,aD,del⟩:=u;cases k with
 |e s =>
  have h:look s S.env=look s S'.env:=h;cases v with
  |none=>exact h
  |some v =>
   cases d with
   |none=>exact h
   |some d=>show look s ((d,v)::S.env)=look s ((d,v)::S'.env);rw[dL,dL,h]
 |o id =>
  have h:look id S.aZ=look id S'.aZ:=h;have:look id (Out.aZ ⟨v,obj,bl,aD,del⟩ S.aZ)=look id (Out.aZ ⟨v,obj,bl,aD,del⟩ S'.aZ):=by
   cases obj with
   |none=>exact h
   |some p =>
    obtain⟨i,cs⟩:=p;cases del with
    |none=>simp only[Out.aZ,dL,h]
    |some q=>simp only[Out.aZ,dL,uO,h]
  cases v with
  |none=>exact this
  |some v=>cases d<;>exact this
 |t f =>
  have h:look f S.bl=look f S'.bl:=h;have:look f (bl++S.bl)=look f (bl++S'.bl):=by rw[z8,z8,h]
  cases v with
  |none=>exact this
  |some v=>cases d<;>exact this
 |g =>
  have h:S.aD=S'.aD:=h;have:(match aD with|some G=>G|none=>S.aD)=(match aD with|some G=>G|none=>S'.aD):=by
   cases aD with
   |none=>exact h
   |some G=>rfl
  cases v with
  |none=>exact this
  |some v=>cases d<;>exact this
def Ft(u:Out)(K:List Key):Prop :=
 (∀p,u.obj=some p→Key.o p.1∈K∧∀i,u.del=some i→Key.o i∈K)∧(∀p∈u.bl,Key.t p.1∈K)∧(∀G,u.aD=some G→Key.g∈K)
theorem aj6{u:Out}{d:Option Nat}{K:List Key}(hw:Ft u K){k:Key}(hk:k∉(match d with|some d=>[Key.e d] | none=>[])++K):same (u.app d S) S k:=by
 obtain⟨v,obj,bl,aD,del⟩:=u;obtain⟨h1,h2,h3⟩:=hw;simp only at h1 h2 h3;have LJ:k∉K:=fun h=>hk (Ho _ h);cases k with
 |e s =>
  cases v with
  |none=>rfl
  |some v =>
   cases d with
   |none=>rfl
   |some d =>
    have:d≠s:=fun e=>hk (by subst e;simp)
    exact QI this
 |o id =>
  have:look id (Out.aZ ⟨v,obj,bl,aD,del⟩ S.aZ)=look id S.aZ:=by
   cases obj with
   |none=>rfl
   |some p =>
    obtain⟨i,cs⟩:=p;obtain⟨q1,q2⟩:=h1 _ rfl;have cq:i≠id:=fun e=>LJ (by rw[←e];exact q1)
    cases del with
    |none=>exact QI cq
    |some q =>
     simp only[Out.aZ];rw[QI cq,uO,av (fun e=>LJ (by rw[e];exact q2 q rfl))]
  cases v with
  |none=>exact this
  |some v=>cases d<;>exact this
 |t f =>
  have:look f (bl++S.bl)=look f S.bl:=by
   rw[z8];cases hl:look f bl with
   |none=>rfl
   |some j=>exact absurd (h2 _ (vO hl)) LJ
  cases v with
  |none=>exact this
  |some v=>cases d<;>exact this
 |g =>
  cases aD with
  |none =>
   cases v with
   |none=>rfl
   |some v=>cases d<;>rfl
  |some G=>exact absurd (h3 G rfl) LJ
theorem Yb{vo:VO}{u:Out}(h:vo.cO C S=some u):Ft u vo.wr:=by
 have val:∀v K,Ft (Out.val v) K:=fun v K=>⟨by simp[Out.val],by simp[Out.val],by simp[Out.val]⟩
 have frame:vo.frame=true→Ft u vo.wr:=fun tN=>by
  rw[LG C S vo tN]at h;cases hr:vo.run C (some 0) (St.mk S.env [] [] []) with
  |none=>rw[hr]at h;cases h
  |some S1 =>
   rw[hr]at h;simp only[K0]at h;split at h
   ·cases h;exact val _ _
   ·cases h
 cases vo with
 |mv x =>
  simp only[VO.cO]at h;split at h
  ·cases h;exact val _ _
  ·cases h
 |pick c a b =>
  simp only[VO.cO]at h;split at h
  ·split at h
   ·cases h;exact val _ _
   ·cases h
  ·cases h
 |obj id cells=>simp only[VO.cO]at h;cases h;exact⟨by simp[VO.wr],by simp,by simp⟩
 |box id x =>
  simp only[VO.cO]at h;split at h
  ·rename_i v _
   cases hc:v.cells.all V.cQ with
   |false=>simp[hc]at h
   |true=>simp only[hc,bM]at h;cases h;exact⟨by simp[VO.wr],by simp,by simp⟩
  ·cases h
 |vr sh x =>
  simp only[VO.cO]at h;split at h
  ·split at h
   ·cases h;exact⟨by simp,by simp,by simp[VO.wr]⟩
   ·cases h
  ·cases h
 |vt sh zero =>
  simp only[VO.cO]at h;split at h
  ·cases h;exact⟨by simp,by simp,by simp[VO.wr]⟩
  ·cases h
 |vu =>
  simp only[VO.cO]at h;cases h;exact⟨by simp,by simp,by simp[VO.wr]⟩
 |wM ag ks zero ok x k =>
  simp only[VO.cO]at h;split at h
  ·split at h
   ·split at h
    ·cases h;exact val _ _
    ·cases h;exact val _ _
    ·cases h
   ·cases h
  ·cases h
 |vv ag ks sh x k y =>
  simp only[VO.cO]at h;split at h
  ·split at h
   ·split at h
    ·cases h;exact⟨by simp,by simp,by simp[VO.wr]⟩
    ·cases h;exact⟨by simp,by simp,by simp[VO.wr]⟩
    ·cases h
   ·cases h
  ·cases h
 |build zero ps =>
  simp only[VO.cO]at h;split at h
  ·cases h;exact val _ _
  ·cases h
 |lit tok sh zero ln ps =>
  simp only[VO.cO]at h;split at h
  ·split at h
   ·cases h;exact⟨by simp,by simp[VO.wr],by simp⟩
   ·cases h;exact val _ _
  ·cases h
 |load root sz x =>
  simp only[VO.cO]at h;split at h
  ·rename_i a _
   cases hf:root.fits a with
   |false=>simp[hf]at h
   |true =>
    simp only[hf,bM]at h;split at h
    ·split at h
     ·cases h;exact val _ _
     ·cases h
    ·cases h
  ·cases h
 |sK f args ids =>
  simp only[VO.cO]at h;split at h
  ·split at h
   ·rename_i r _ _
    cases hs:r.qE with
    |false=>rw[hs]at h;cases h
    |true=>rw[hs]at h;cases h;exact val _ _
   ·cases h
  ·cases h
 |tz cn x =>
  simp only[VO.cO]at h;split at h
  ·split at h
   ·rename_i v ts G ht
    cases h;unfold St.take at ht;split at ht
    ·split at ht
     ·split at ht
      ·cases ht;exact⟨by simp,by simp[VO.wr],by simp[VO.wr]⟩
      ·cases ht;exact⟨by simp,by simp,by simp⟩
      ·cases ht
     ·cases ht
    ·cases ht
   ·cases h
  ·cases h
 |vy cn x y =>
  simp only[VO.cO]at h;split at h
  ·split at h
   ·rename_i ts G ht
    cases h;unfold St.yd at ht;split at ht
    ·split at ht
     ·rename_i k _ _
      rcases OY (k==_&&Nat.blt _ _) with hc|hc
      ·rw[hc]at ht;cases ht;exact⟨by simp,by simp[VO.wr],by simp[VO.wr]⟩
      ·rw[hc]at ht;cases ht
     ·cases ht
    ·cases ht
   ·cases h
  ·cases h
 |store root sh x y =>
  simp only[VO.cO]at h;cases hf:S.fits root x with
  |false=>simp[hf]at h
  |true =>
   simp only[hf,bM]at h;simp only[St.fits]at hf;split at h
   ·rename_i id off v hx hy
    rw[hx]at hf;split at h
    ·rename_i cs _
     cases hc:(v.cells.length==sh.length&&Nat.ble (off+sh.length) cs.length&&v.cells.all V.cQ&&Nat.blt 0 sh.length) with
     |false=>simp[hc]at h
     |true =>
      simp only[hc,bM]at h;cases h;cases root with
      |loc i=>simp[j8.fits]at hf;subst hf;exact⟨by simp[VO.wr],by simp,by simp⟩
      |aD=>simp[j8.fits]at hf
      |kN=>simp[j8.fits]at hf
    ·cases h
   ·rename_i id off v hx hy
    rw[hx]at hf;split at h
    ·rename_i cs _
     split at h
     ·rename_i vs _
      cases hc:(Nat.ble (off+vs.length) cs.length&&Nat.blt 0 vs.length) with
      |false=>simp[hc]at h
      |true =>
       simp only[hc,bM]at h;cases h;cases root with
       |aD=>exact⟨by simp,by simp,by simp[VO.wr]⟩
       |loc i=>simp[j8.fits]at hf
       |kN=>simp[j8.fits]at hf
     ·cases h
    ·cases h
   ·cases h
 |app cn src sh mx x y =>
  simp only[VO.cO]at h;split at h
  ·split at h
   ·rename_i ys _
    cases hc:Nat.ble ys.length mx with
    |false=>simp[hc]at h
    |true=>simp only[hc,bM]at h;cases h;exact⟨by simp,by simp[VO.wr],by simp⟩
   ·cases h
  ·split at h
   ·rename_i ys _
    cases hc:Nat.ble ys.length mx with
    |false=>simp[hc]at h
    |true=>simp only[hc,bM]at h;cases h;exact⟨by simp,by simp[VO.wr],by simp⟩
   ·cases h
  ·rename_i f n es _ _ _
   split at h
   ·rename_i ys _
    split at h
    ·rename_i k hk
     cases hc:(k==es.length&&(n==sh.length)&&Nat.ble (es.length+ys.length) mx) with
     |false=>simp[hc]at h
     |true =>
      simp only[hc,bM]at h;cases h;cases hs:src==some f with
      |false=>simp[hs]at hk
      |true =>
       have:=eq_of_beq hs;subst this;exact⟨by simp,by simp[VO.wr,Ig],by simp⟩
    ·cases h
   ·cases h
  ·cases h
 |call alone f args reg =>
  have vP:∀r:V,∀p∈(recv reg r).2,Key.t p.1∈(Dl reg).map Key.t:=fun r p hp=>by
   rw[Lq]at hp;obtain⟨q,t,n,es,_,h2,_⟩:=Fb reg _ 0 p.1 p.2 hp;exact nc.2 ⟨p.1,nc.2 ⟨_,vO h2,rfl⟩,rfl⟩
  cases alone
  ·simp only[VO.cO]at h
   split at h
   ·split at h
    ·rename_i r G hc
     cases h;exact⟨by simp,fun p hp=>Ho _ (vP r p hp),by simp[VO.wr]⟩
    ·cases h
   ·cases h
  ·simp only[VO.cO]at h
   split at h
   ·split at h
    ·rename_i r G hc
     cases hl:r.lone with
     |false=>simp[hl]at h
     |true =>
      simp only[hl,bM]at h;cases h;exact⟨by simp,fun p hp=>Ho _ (vP r p hp),by simp⟩
    ·cases h
   ·cases h
 |sJ f args =>
  simp only[VO.cO]at h;split at h
  ·split at h
   ·simp only[rd]at h
    split at h
    ·cases h;exact⟨by simp[Out.val],by simp[Out.val],by simp[Out.val]⟩
    ·cases h
   ·cases h
  ·cases h
 |own f args ids id pos =>
  simp only[VO.cO]at h;split at h
  ·split at h
   ·split at h
    ·cases h;exact⟨by simp[VO.wr],by simp,by simp⟩
    ·cases h;exact val _ _
    ·cases h
   ·cases h
  ·cases h
 |uA nw src oy sh x y =>
  simp only[VO.cO]at h;split at h
  ·split at h
   ·rename_i ys _
    cases hc:ys.isEmpty with
    |true=>simp only[hc,bM]at h;cases h;exact val _ _
    |false =>
     simp only[hc,fu]at h;cases hc:Nat.ble ys.length lim with
     |false=>simp[hc]at h
     |true=>simp only[hc,bM]at h;cases h;exact⟨by simp[VO.wr],by simp,by simp⟩
   ·cases h
  ·split at h
   ·rename_i ys _
    cases hc:ys.isEmpty with
    |true=>simp only[hc,bM]at h;cases h;exact val _ _
    |false =>
     simp only[hc,fu]at h;cases hc:Nat.ble ys.length lim with
     |false=>simp[hc]at h
     |true=>simp only[hc,bM]at h;cases h;exact⟨by simp[VO.wr],by simp,by simp⟩
   ·cases h
  ·rename_i id s ln _ _ _
   split at h
   ·rename_i ys cs _ _
    cases hc:((id==src)&&(s==sh.length)&&(cs.length==ln*s)&&Nat.ble (ln+ys.length) lim) with
    |false=>simp[hc]at h
    |true=>simp only[hc,bM]at h;cases h;exact⟨by simp[VO.wr],by simp,by simp⟩
   ·cases h
  ·cases h
 |vx x =>
  simp only[VO.cO]at h;split at h
  ·split at h
   ·cases h;exact⟨by simp,by simp,by simp[VO.wr]⟩
   ·cases h
  ·cases h
 |wP k f i x =>
  simp only[VO.cO]at h;split at h
  ·rename_i id s n _
   split at h
   ·rename_i cs _
    cases hc:(id==i&&(s==1)&&Nat.ble n cs.length&&Nat.ble n lim&&Nat.blt 0 n) with
    |false=>simp[hc]at h
    |true =>
     simp only[hc,bM]at h;split at h
     ·cases h;exact⟨by simp[VO.wr],by simp,by simp⟩
     ·cases h
   ·cases h
  ·cases h
 |uB id zero x =>
  simp only[VO.cO]at h;split at h
  ·rename_i k n _
   cases hc:(decide (0≤n)&&decide (n≤(lim:Int))) with
   |false=>simp[hc]at h
   |true=>simp only[hc,bM]at h;cases h;exact⟨by simp[VO.wr],by simp,by simp⟩
  ·cases h
 |sL f args id =>
  simp only[VO.cO]at h;split at h
  ·split at h
   ·split at h
    ·rename_i i n len cs _
     cases hc:(i==id&&Nat.blt 0 cs.length&&Nat.blt 0 len&&cs.all V.sc) with
     |false=>simp[hc]at h
     |true=>simp only[hc,bM]at h;cases h;exact⟨by simp,by simp,by simp[VO.wr]⟩
    ·cases h;exact⟨by simp,by simp,by simp[VO.wr]⟩
    ·cases h
   ·cases h
  ·cases h
 |grow f id x =>
  simp only[VO.cO]at h;split at h
  ·rename_i n _
   cases hc:(decide (0≤n)&&decide (n≤(lim:Int))) with
   |false=>simp[hc]at h
   |true=>simp only[hc,bM]at h;cases h;exact⟨by simp[VO.wr],by simp,by simp⟩
  ·cases h
 |vw id src x y =>
  simp only[VO.cO]at h;split at h
  ·rename_i i s n b _ _
   split at h
   ·rename_i cs us _ _
    cases hc:(i==id&&(s==1)&&Nat.ble n cs.length&&us.all V.sc) with
    |false=>simp[hc]at h
    |true=>simp only[hc,bM]at h;cases h;exact⟨by simp[VO.wr],by simp,by simp⟩
   ·cases h
  ·cases h
 |_=>exact frame rfl
end
end Go.Vm

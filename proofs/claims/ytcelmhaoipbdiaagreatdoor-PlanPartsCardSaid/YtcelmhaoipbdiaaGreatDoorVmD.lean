/- The value machine, 13: what an operation reads and writes; operations that touch different things may change places. -/
import Derived.Test.YtcelmhaoipbdiaaGreatDoorVmC
namespace Go.Vm
set_option linter.all false
inductive Key where
 |e (s:Nat)
 |o (id:Nat)
 |t (f:Nat)
 |g
 deriving DecidableEq
def same(S S':St):Key→Prop
 |.e s=>look s S.env=look s S'.env
 |.o id=>look id S.aW=look id S'.aW
 |.t f=>look f S.bf=look f S'.bf
 |.g=>S.ay=S'.ay
theorem Ua(S:St)(k:Key):same S S k:=by cases k<;>rfl
theorem Nv{S S':St}{k:Key}(h:same S S' k):same S' S k:=by cases k<;>exact Eq.symm h
theorem Jk{S S' FW:St}{k:Key}(h:same S S' k)(h':same S' FW k):same S FW k:=by cases k<;>exact Eq.trans h h'
def Alike(S S':St):Prop:=∀k,same S S' k
structure Out where
 v:Option V
 obj:Option (Nat×List V)
 bf:List (Nat×Nat)
 ay:Option (List aT)
 del:Option Nat
def Out.val(v:V):Out:=⟨some v,none,[],none,none⟩
def Out.aW(u:Out)(aW:List (Nat×List V)):List (Nat×List V):=match u.obj with
 |some p=>p::(match u.del with|some i=>aW.filter (fun q => !(q.1==i))|none=>aW)
 |none=>aW
def Out.app(u:Out)(d:Option Nat)(S:St):St :=
 let T:St:={ env:=S.env,aW:=u.aW S.aW,bf:=u.bf++S.bf,ay:=(match u.ay with|some G=>G|none=>S.ay) }
 match u.v with
 |some v=>T.put d v
 |none=>T
noncomputable def VO.cG(C:br)(S:St):VO→Option Out
 |.mv x=>match S.ev x with
  |some v=>some (.val v)
  |none=>none
 |.pick c a b=>match S.ev c with
  |some (.bool t)=>match bif t then S.ev a else S.ev b with
   |some v=>some (.val v)
   |none=>none
  |_=>none
 |.obj id cells=>some ⟨some (.bG id 0),some (id,cells),[],none,none⟩
 |.box id x=>match S.ev x with
  |some v=>bif v.cells.all V.cI then some ⟨some (.bG id 0),some (id,v.cells),[],none,none⟩ else none
  |none=>none
 |.tP sh x=>match S.ev x with
  |some v=>match lW sh v.cells with
   |some cs=>some ⟨some (.bI S.ay.length 0),none,[],some (S.ay++[aT.cells cs]),none⟩
   |none=>none
  |none=>none
 |.tQ sh zero=>match lW sh zero with
  |some cs=>some ⟨some (.bI S.ay.length 0),none,[],some (S.ay++[aT.cells cs]),none⟩
  |none=>none
 |.tR=>some ⟨some (.map S.ay.length),none,[],some (S.ay++[aT.map []]),none⟩
 |.u6 ag ks zero ok x k=>match S.ev x,S.ev k with
  |some (.map i),some kv=>match S.ay[i]?,V.mz ag ks kv kv with
   |some (.map es),some _=>match mA ag ks kv es 0 with
    |some (some (_,v))=>some (.val (bif ok then .tuple [v,.bool true] else v))
    |some none=>some (.val (bif ok then .tuple [zero,.bool false] else zero))
    |none=>none
   |_,_=>none
  |_,_=>none
 |.tS ag ks sh x k y=>match S.ev x,S.ev k,S.ev y with
  |some (.map i),some kv,some v=>match S.ay[i]?,V.mz ag ks kv kv,zF sh v with
   |some (.map es),some _,some u=>match mA ag ks kv es 0 with
    |some (some (j,_))=>some ⟨none,none,[],some (S.ay.set i (aT.map (es.set j (kv,u)))),none⟩
    |some none=>some ⟨none,none,[],some (S.ay.set i (aT.map (es++[(kv,u)]))),none⟩
    |none=>none
   |_,_,_=>none
  |_,_,_=>none
 |.build zero parts=>match qI S parts zero with
  |some cs=>some (.val (.agg cs))
  |none=>none
 |.lit tok sh zero ln parts=>match tZ S sh parts (List.replicate ln zero) with
  |some rs=>match tok with
   |some f=>some ⟨some (.slice (some f) sh.length rs),none,[(f,ln)],none,none⟩
   |none=>some (.val (.slice none sh.length rs))
  |none=>none
 |.load root sz p=>match S.ev p with
  |some a=>bif root.fits a then match S.mU a with
   |some (cs,off)=>match loadAt sz cs off with
    |some v=>some (.val (rT root v))
    |none=>none
   |none=>none
   else none
  |none=>none
 |.rJ cb p=>match S.ev p with
  |some a=>match S.take cb a with
   |some (v,ts,G)=>some ⟨some v,none,ts,G,none⟩
   |none=>none
  |none=>none
 |.tV cb p x=>match S.ev p,S.ev x with
  |some a,some v=>match S.wG cb a v with
   |some (ts,G)=>some ⟨none,none,ts,some G,none⟩
   |none=>none
  |_,_=>none
 |.store root sh p x=>bif S.fits root p then match S.ev p,S.ev x with
  |some (.bG id off),some v=>match look id S.aW with
   |some cs=>bif v.cells.length==sh.length&&Nat.ble (off+sh.length) cs.length&&v.cells.all V.cI&&Nat.blt 0 sh.length then
     some ⟨none,some (id,iF cs off v.cells),[],none,none⟩ else none
   |none=>none
  |some (.bI id off),some v=>match S.ay[id]? with
   |some (.cells cs)=>match lW sh v.cells with
    |some vs=>bif Nat.ble (off+vs.length) cs.length&&Nat.blt 0 vs.length then some ⟨none,none,[],some (S.ay.set id (aT.cells (iF cs off vs))),none⟩ else none
    |none=>none
   |_=>none
  |_,_=>none
  else none
 |.app cb src sh mx x y=>match S.ev x,S.ev y with
  |some .b9,some b=>match S.rows sh b with
   |some ys=>bif Nat.ble ys.length mx then some ⟨some (.slice (some cb) sh.length ys),none,[(cb,ys.length)],none,none⟩ else none
   |none=>none
  |some (.dX _),some b=>match S.rows sh b with
   |some ys=>bif Nat.ble ys.length mx then some ⟨some (.slice (some cb) sh.length ys),none,[(cb,ys.length)],none,none⟩ else none
   |none=>none
  |some (.slice (some f) n es),some b=>match S.rows sh b with
   |some ys=>match (bif src==some f then look f S.bf else none) with
    |some k=>bif k==es.length&&(n==sh.length)&&Nat.ble (es.length+ys.length) mx then
      some ⟨some (.slice (some f) n (es++ys)),none,[(f,es.length+ys.length)],none,none⟩ else none
    |none=>none
   |none=>none
  |_,_=>none
 |.call false f args reg=>match S.ev f,mB S args with
  |some (.fn g cap),some vs=>match C g (vs++cap) S.ay with
   |some (r,G)=>some ⟨some (recv reg r).1,none,(recv reg r).2,some G,none⟩
   |none=>none
  |_,_=>none
 |.call true f args reg=>match S.ev f,mC S args with
  |some (.fn g []),some vs=>match C g vs [] with
   |some (r,_)=>bif r.lone then some ⟨some (recv reg r).1,none,(recv reg r).2,none,none⟩ else none
   |none=>none
  |_,_=>none
 |.qE f args=>match S.ev f,mB S args with
  |some (.fn g cap),some vs=>match C g (vs++cap) S.ay with
   |some (r,G)=>rd S.ay G (.val (recv [] r).1)
   |none=>none
  |_,_=>none
 |.vb k _ i x=>match S.ev x with
  |some (.bP id s n)=>match look i S.aW with
   |some cs=>bif id==i&&(s==1)&&Nat.ble n cs.length&&Nat.ble n lim&&Nat.blt 0 n then match wH (cs.take n) with
    |some zs=>some ⟨some (A7 k i zs),some (i,(ua k zs).map (V.int .i64)++cs.drop n),[],none,none⟩
    |none=>none
    else none
   |none=>none
  |_=>none
 |.grow _ id n=>match S.ev n with
  |some (.int .i64 k)=>bif decide (0≤k)&&decide (k≤lim) then some ⟨some (.bP id 1 0),some (id,[]),[],none,none⟩ else none
  |_=>none
 |.tU x=>match S.ev x with
  |some v=>match Fa S.ay v.part with
   |some G=>some ⟨some (.tuple []),none,[],some G,none⟩
   |none=>none
  |none=>none
 |.tT id src x y=>match S.ev x,S.ev y with
  |some (.bP i s n),some b=>match look id S.aW,S.xw src b with
   |some cs,some us=>bif i==id&&(s==1)&&Nat.ble n cs.length&&us.all V.sc then
     some ⟨some (.int .i64 (us.take n).length),some (id,us.take n++cs.drop (us.take n).length),[],none,none⟩ else none
   |_,_=>none
  |_,_=>none
 |.qF f args ids=>match S.ev f,kW S ids args with
  |some (.fn g []),some vs=>match C g vs [] with
   |some (r,_)=>bif r.pz then some (.val r) else none
   |none=>none
  |_,_=>none
 |.own f args ids id pos=>match S.ev f,kW S ids args with
  |some (.fn g []),some vs=>match C g vs [] with
   |some (r,_)=>match jW id pos r with
    |some (v,some cs)=>some ⟨some v,some (id,cs),[],none,none⟩
    |some (v,none)=>some (.val v)
    |none=>none
   |none=>none
  |_,_=>none
 |.qG f args id=>match S.ev f,mC S args with
  |some (.fn g []),some vs=>match C g vs [] with
   |some (r,_)=>match jW id 0 r with
    |some (.bP i n ln,some cs)=>bif i==id&&Nat.blt 0 cs.length&&Nat.blt 0 ln&&cs.all V.sc then some ⟨some (.da S.ay.length n ln),none,[],some (S.ay++[aT.cells cs]),none⟩ else none
    |some (.dX n,none)=>some ⟨some (.da S.ay.length n 0),none,[],some (S.ay++[aT.cells []]),none⟩
    |_=>none
   |none=>none
  |_,_=>none
 |.s6 id zero n=>match S.ev n with
  |some (.int _ k)=>bif decide (0≤k)&&decide (k≤lim) then
    some ⟨some (.bP id zero.length k.toNat),some (id,(List.replicate k.toNat zero).flatten),[],none,none⟩ else none
  |_=>none
 |.sZ new src oy sh x y=>match S.ev x,S.ev y with
  |some .b9,some b=>match S.ny oy sh b with
   |some ys=>bif ys.isEmpty then some (.val .b9) else
     bif Nat.ble ys.length lim then some ⟨some (.bP new sh.length ys.length),some (new,ys.flatten),[],none,none⟩ else none
   |none=>none
  |some (.dX n),some b=>match S.ny oy sh b with
   |some ys=>bif ys.isEmpty then some (.val (.dX n)) else
     bif Nat.ble ys.length lim then some ⟨some (.bP new sh.length ys.length),some (new,ys.flatten),[],none,none⟩ else none
   |none=>none
  |some (.bP id s ln),some b=>match S.ny oy sh b,look src S.aW with
   |some ys,some cs=>bif (id==src)&&(s==sh.length)&&(cs.length==ln*s)&&Nat.ble (ln+ys.length) lim then
     some ⟨some (.bP new sh.length (ln+ys.length)),some (new,cs++ys.flatten),[],none,some src⟩ else none
   |_,_=>none
  |_,_=>none
 |vo=>(vo.run C (some 0) { S with env:=S.env,aW:=[],bf:=[],ay:=[] }).bind fun S'=>match S'.env with
  |(_,v)::_=>some (.val v)
  |[]=>none
theorem Nw(S:St)(x:bp):(St.mk S.env [] [] []).ev x=S.ev x:=by cases x<;>rfl
theorem aeS(S:St)(x:Option bp)(n:Nat):(St.mk S.env [] [] []).jI x n=S.jI x n:=by cases x<;>first|rfl|exact Nw S _
theorem Ub(S:St):∀xs:List bp,oM (St.mk S.env [] [] []) xs=oM S xs
 |[]=>rfl
 |x::xs=>by simp only[oM,Nw,Ub S xs]
theorem sk(S:St)(d:Option Nat)(v:V):(Out.val v).app d S=S.put d v:=by cases d<;>rfl
theorem xU{S S':St}(e:S'.env=S.env)(x:bp):S'.ev x=S.ev x:=by cases x<;>simp[St.ev,e]
theorem Uc{S S':St}(e:S'.env=S.env)(x:Option bp)(n:Nat):S'.jI x n=S.jI x n:=by cases x<;>first|rfl|exact xU e _
theorem Ud{S S':St}(e:S'.env=S.env):∀xs:List bp,oM S' xs=oM S xs
 |[]=>rfl
 |x::xs=>by simp only[oM,xU e,Ud e xs]
def VO.cu(S' S:St):VO→Prop
 |.sY x | .un _ x | .conv _ x | .rM _ x | .arr _ _ x | .field _ _ x | .len x | .tW x | .u7 x | .u9 _ x | .ext x _=>S'.ev x=S.ev x
 |.bin _ x y | .beq _ x y | .iu _ _ x y | .nx _ _ x y | .idx _ _ _ x y | .mm _ x y=>S'.ev x=S.ev x∧S'.ev y=S.ev y
 |.tY _ x y z=>S'.ev x=S.ev x∧S'.ev y=S.ev y∧S'.ev z=S.ev z
 |.vd _ x lo hi=>S'.ev x=S.ev x∧(∀n,S'.jI lo n=S.jI lo n)∧(∀n,S'.jI hi n=S.jI hi n)
 |.vg _ cap=>oM S' cap=oM S cap
 |_=>True
def Nx(C:br)(S:St)(vo:VO):Prop:=∃r:Option V,∀d S',VO.cu S' S vo→vo.run C d S'=r.map fun v=>S'.put d v
def VO.frame:VO→Bool
 |.xv _ | .u9 .. | .sY _ | .bin .. | .beq .. | .iu .. | .un .. | .conv .. | .rM .. | .arr .. | .nx .. | .idx .. | .field .. | .len _ | .tW _ | .u7 _ | .ext .. | .vd .. | .mm .. | .tY .. | .vg .. => true
 |_=>false
theorem Jl(C:br)(S:St)(vo:VO)(h:vo.frame=true):vo.cG C S=(vo.run C (some 0) (St.mk S.env [] [] [])).bind fun S'=>match S'.env with
  |(_,v)::_=>some (.val v)
  |[]=>none:=by
 cases vo<;>first|rfl|cases h
set_option maxHeartbeats 1000000 in
theorem Ue(C:br)(S:St)(vo:VO)(sd:vo.frame=true):Nx C S vo:=by
 have no:(∀d S',VO.cu S' S vo→vo.run C d S'=none)→Nx C S vo:=fun h=>⟨none,h⟩;have yes:∀v,(∀d S',VO.cu S' S vo→vo.run C d S'=some (S'.put d v))→Nx C S vo:=fun v h=>⟨some v,h⟩;cases vo with
 |sY x =>
  cases hx:S.ev x with
  |none=>exact no fun d S' e=>by simp only[VO.cu]at e;simp[VO.run,e,hx]
  |some a=>cases a<;>first|(refine no fun d S' e=>?_;simp only[VO.cu]at e;simp[VO.run,e,hx];done)|(refine yes _ fun d S' e=>Eq.trans (by simp only[VO.cu]at e;simp only[VO.run,e,hx];exact rfl) rfl)
 |bin op x y =>
  cases hx:S.ev x with
  |none=>exact no fun d S' e=>by simp only[VO.cu]at e;simp[VO.run,e,hx]
  |some a =>
   cases hy:S.ev y with
   |none=>exact no fun d S' e=>by simp only[VO.cu]at e;simp[VO.run,e,hx,hy]
   |some b =>
    cases hz:V.bin op a b with
    |none=>exact no fun d S' e=>by simp only[VO.cu]at e;simp[VO.run,e,hx,hy,hz]
    |some v=>exact yes v fun d S' e=>by simp only[VO.cu]at e;simp[VO.run,e,hx,hy,hz]
 |iu neg ks x y =>
  cases hx:S.ev x with
  |none=>exact no fun d S' e=>by simp only[VO.cu]at e;simp[VO.run,e,hx]
  |some a =>
   cases hy:S.ev y with
   |none=>exact no fun d S' e=>by simp only[VO.cu]at e;simp[VO.run,e,hx,hy]
   |some b =>
    cases hz:V.iu neg ks a b with
    |none=>exact no fun d S' e=>by simp only[VO.cu]at e;simp[VO.run,e,hx,hy,hz]
    |some v=>exact yes v fun d S' e=>by simp only[VO.cu]at e;simp[VO.run,e,hx,hy,hz]
 |beq neg x y =>
  cases hx:S.ev x with
  |none=>exact no fun d S' e=>by simp only[VO.cu]at e;simp[VO.run,e,hx]
  |some a =>
   cases hy:S.ev y with
   |none=>exact no fun d S' e=>by simp only[VO.cu]at e;cases a<;>simp[VO.run,e,hx,hy]
   |some b=>cases a<;>cases b<;>first|(refine no fun d S' e=>?_;simp only[VO.cu]at e;simp[VO.run,e,hx,hy];done)|(refine yes _ fun d S' e=>Eq.trans (by simp only[VO.cu]at e;simp only[VO.run,e,hx,hy];exact rfl) rfl)
 |un op x =>
  cases hx:S.ev x with
  |none=>exact no fun d S' e=>by simp only[VO.cu]at e;simp[VO.run,e,hx]
  |some a =>
   cases hz:V.un op a with
   |none=>exact no fun d S' e=>by simp only[VO.cu]at e;simp[VO.run,e,hx,hz]
   |some v=>exact yes v fun d S' e=>by simp only[VO.cu]at e;simp[VO.run,e,hx,hz]
 |conv k x =>
  cases hx:S.ev x with
  |none=>exact no fun d S' e=>by simp only[VO.cu]at e;simp[VO.run,e,hx]
  |some a=>cases a<;>first|(refine no fun d S' e=>?_;simp only[VO.cu]at e;simp[VO.run,e,hx];done)|(refine yes _ fun d S' e=>Eq.trans (by simp only[VO.cu]at e;simp only[VO.run,e,hx];exact rfl) rfl)
 |arr n sz x =>
  cases hx:S.ev x with
  |none=>exact no fun d S' e=>by simp only[VO.cu]at e;simp[VO.run,e,hx]
  |some a =>
   cases a
   case bG id off =>
    cases off with
    |zero=>exact yes _ fun d S' e=>by simp only[VO.cu]at e;simp[VO.run,e,hx];rfl
    |succ k=>exact no fun d S' e=>by simp only[VO.cu]at e;simp[VO.run,e,hx]
   all_goals exact no fun d S' e=>by simp only[VO.cu]at e;simp[VO.run,e,hx]
 |rM off x =>
  cases hx:S.ev x with
  |none=>exact no fun d S' e=>by simp only[VO.cu]at e;simp[VO.run,e,hx]
  |some a=>cases a<;>first|(refine no fun d S' e=>?_;simp only[VO.cu]at e;simp[VO.run,e,hx];done)|(refine yes _ fun d S' e=>Eq.trans (by simp only[VO.cu]at e;simp only[VO.run,e,hx];exact rfl) rfl)
 |nx arr sz x i =>
  cases hx:S.ev x with
  |none=>exact no fun d S' e=>by simp only[VO.cu]at e;cases arr<;>simp[VO.run,e,hx]
  |some a =>
   cases hy:S.ev i with
   |none=>exact no fun d S' e=>by simp only[VO.cu]at e;cases arr<;>cases a<;>simp[VO.run,e,hx,hy]
   |some b =>
    cases b with
    |int k m =>
     cases arr with
     |some n =>
      cases hc:(decide (0≤m)&&decide (m<(n:Int))) with
      |false=>exact no fun d S' e=>by simp only[VO.cu]at e;simp only[VO.run,e,hx,hy,hc,eV]
      |true=>cases a<;>first|(refine no fun d S' e=>?_;simp only[VO.cu]at e;simp only[VO.run,e,hx,hy,hc,bC];done)|(refine yes _ fun d S' e=>Eq.trans (by simp only[VO.cu]at e;simp only[VO.run,e,hx,hy,hc,bC];exact rfl) rfl)
     |none =>
      cases a with
      |slice tk n es =>
       cases hc:(decide (0≤m)&&(n==sz)) with
       |false=>exact no fun d S' e=>by simp only[VO.cu]at e;simp only[VO.run,e,hx,hy,hc,eV]
       |true =>
        cases he:es[m.toNat]? with
        |none=>exact no fun d S' e=>by simp only[VO.cu]at e;simp only[VO.run,e,hx,hy,hc,bC,he]
        |some r=>exact yes (.eI r 0) fun d S' e=>by simp only[VO.cu]at e;simp only[VO.run,e,hx,hy,hc,bC,he]
      |bP id off n =>
       cases hc:(decide (0≤m)&&decide (m<(n:Int))&&(off==sz)) with
       |false=>exact no fun d S' e=>by simp only[VO.cu]at e;simp only[VO.run,e,hx,hy,hc,eV]
       |true=>exact yes (.bG id (m.toNat*sz)) fun d S' e=>by simp only[VO.cu]at e;simp only[VO.run,e,hx,hy,hc,bC]
      |da id off n =>
       cases hc:(decide (0≤m)&&decide (m<(n:Int))&&(off==sz)) with
       |false=>exact no fun d S' e=>by simp only[VO.cu]at e;simp only[VO.run,e,hx,hy,hc,eV]
       |true=>exact yes (.bI id (m.toNat*sz)) fun d S' e=>by simp only[VO.cu]at e;simp only[VO.run,e,hx,hy,hc,bC]
      |_=>exact no fun d S' e=>by simp only[VO.cu]at e;simp[VO.run,e,hx,hy]
    |_=>exact no fun d S' e=>by simp only[VO.cu]at e;cases arr<;>cases a<;>simp[VO.run,e,hx,hy]
 |idx n sz ag x i =>
  cases hx:S.ev x with
  |none=>exact no fun d S' e=>by simp only[VO.cu]at e;simp[VO.run,e,hx]
  |some a =>
   cases hy:S.ev i with
   |none=>exact no fun d S' e=>by simp only[VO.cu]at e;cases a<;>simp[VO.run,e,hx,hy]
   |some b =>
    cases b with
    |int k m =>
     cases a with
     |agg cs =>
      cases hc:(decide (0≤m)&&decide (m<(n:Int))) with
      |false=>exact no fun d S' e=>by simp only[VO.cu]at e;simp only[VO.run,e,hx,hy,hc,eV]
      |true =>
       cases hl:loadAt (bif ag then some sz else none) cs (m.toNat*sz) with
       |none=>exact no fun d S' e=>by simp only[VO.cu]at e;simp only[VO.run,e,hx,hy,hc,bC,hl]
       |some v=>exact yes v fun d S' e=>by simp only[VO.cu]at e;simp only[VO.run,e,hx,hy,hc,bC,hl]
     |_=>exact no fun d S' e=>by simp only[VO.cu]at e;simp[VO.run,e,hx,hy]
    |_=>exact no fun d S' e=>by simp only[VO.cu]at e;cases a<;>simp[VO.run,e,hx,hy]
 |field off sz x =>
  cases hx:S.ev x with
  |none=>exact no fun d S' e=>by simp only[VO.cu]at e;simp[VO.run,e,hx]
  |some a =>
   cases a with
   |agg cs =>
    cases hl:loadAt sz cs off with
    |none=>exact no fun d S' e=>by simp only[VO.cu]at e;simp only[VO.run,e,hx,hl]
    |some v=>exact yes v fun d S' e=>by simp only[VO.cu]at e;simp only[VO.run,e,hx,hl]
   |_=>exact no fun d S' e=>by simp only[VO.cu]at e;simp[VO.run,e,hx]
 |xv n=>exact yes (.dX n) fun d S' e=>rfl
 |u9 neg x =>
  cases hx:S.ev x with
  |none=>exact no fun d S' e=>by simp only[VO.cu]at e;simp[VO.run,e,hx]
  |some a =>
   cases a with
   |slice t n es=>cases es<;>first|(refine no fun d S' e=>?_;simp only[VO.cu]at e;simp[VO.run,e,hx];done)|(refine yes _ fun d S' e=>Eq.trans (by simp only[VO.cu]at e;simp only[VO.run,e,hx];exact rfl) rfl)
   |_=>first|(refine no fun d S' e=>?_;simp only[VO.cu]at e;simp[VO.run,e,hx];done)|(refine yes _ fun d S' e=>Eq.trans (by simp only[VO.cu]at e;simp only[VO.run,e,hx];exact rfl) rfl)
 |len x =>
  cases hx:S.ev x with
  |none=>exact no fun d S' e=>by simp only[VO.cu]at e;simp[VO.run,e,hx]
  |some a=>cases a<;>first|(refine no fun d S' e=>?_;simp only[VO.cu]at e;simp[VO.run,e,hx];done)|(refine yes _ fun d S' e=>Eq.trans (by simp only[VO.cu]at e;simp only[VO.run,e,hx];exact rfl) rfl)
 |u7 x =>
  cases hx:S.ev x with
  |none=>exact no fun d S' e=>by simp only[VO.cu]at e;simp[VO.run,e,hx]
  |some a=>cases a<;>first|(refine no fun d S' e=>?_;simp only[VO.cu]at e;simp[VO.run,e,hx];done)|(refine yes _ fun d S' e=>Eq.trans (by simp only[VO.cu]at e;simp only[VO.run,e,hx];exact rfl) rfl)
 |tW x =>
  cases hx:S.ev x with
  |none=>exact no fun d S' e=>by simp only[VO.cu]at e;simp[VO.run,e,hx]
  |some a=>cases a<;>first|(refine no fun d S' e=>?_;simp only[VO.cu]at e;simp[VO.run,e,hx];done)|(refine yes _ fun d S' e=>Eq.trans (by simp only[VO.cu]at e;simp only[VO.run,e,hx];exact rfl) rfl)
 |ext x i =>
  cases hx:S.ev x with
  |none=>exact no fun d S' e=>by simp only[VO.cu]at e;simp[VO.run,e,hx]
  |some a =>
   cases a with
   |tuple vs =>
    cases hl:vs[i]? with
    |none=>exact no fun d S' e=>by simp only[VO.cu]at e;simp only[VO.run,e,hx,hl]
    |some v=>exact yes v fun d S' e=>by simp only[VO.cu]at e;simp only[VO.run,e,hx,hl]
   |_=>exact no fun d S' e=>by simp only[VO.cu]at e;simp[VO.run,e,hx]
 |vd sz x lo hi =>
  cases hx:S.ev x with
  |none=>exact no fun d S' e=>by simp only[VO.cu]at e;simp[VO.run,e,hx]
  |some a =>
   cases a with
   |slice tk m es =>
    cases hl:S.jI lo 0 with
    |none=>exact no fun d S' e=>by simp only[VO.cu]at e;simp[VO.run,e,hx,hl]
    |some p =>
     cases hh:S.jI hi es.length with
     |none=>exact no fun d S' e=>by simp only[VO.cu]at e;cases p<;>simp[VO.run,e,hx,hl,hh]
     |some q =>
      cases p with
      |int k1 l =>
       cases q with
       |int k2 h =>
        cases hc:(decide (0≤l)&&decide (l≤h)&&decide (h≤(es.length:Int))&&(m==sz)) with
        |false=>exact no fun d S' e=>by simp only[VO.cu]at e;simp only[VO.run,e,hx,hl,hh,hc,eV]
        |true=>exact yes (.slice none sz ((es.take h.toNat).drop l.toNat)) fun d S' e=>by simp only[VO.cu]at e;simp only[VO.run,e,hx,hl,hh,hc,bC]
       |_=>exact no fun d S' e=>by simp only[VO.cu]at e;simp[VO.run,e,hx,hl,hh]
      |_=>exact no fun d S' e=>by simp only[VO.cu]at e;simp[VO.run,e,hx,hl,hh]
   |b9 =>
    cases hl:S.jI lo 0 with
    |none=>exact no fun d S' e=>by simp only[VO.cu]at e;simp[VO.run,e,hx,hl]
    |some p =>
     cases hh:S.jI hi 0 with
     |none=>exact no fun d S' e=>by simp only[VO.cu]at e;cases p<;>simp[VO.run,e,hx,hl,hh]
     |some q =>
      cases p with
      |int k1 l =>
       cases q with
       |int k2 h =>
        cases hc:(decide (l=0)&&decide (h=0)) with
        |false=>exact no fun d S' e=>by simp only[VO.cu]at e;simp only[VO.run,e,hx,hl,hh,hc,eV]
        |true=>exact yes .b9 fun d S' e=>by simp only[VO.cu]at e;simp only[VO.run,e,hx,hl,hh,hc,bC]
       |_=>exact no fun d S' e=>by simp only[VO.cu]at e;simp[VO.run,e,hx,hl,hh]
      |_=>exact no fun d S' e=>by simp only[VO.cu]at e;simp[VO.run,e,hx,hl,hh]
   |bP id s n =>
    cases hl:S.jI lo 0 with
    |none=>exact no fun d S' e=>by simp only[VO.cu]at e;simp[VO.run,e,hx,hl]
    |some p =>
     cases hh:S.jI hi n with
     |none=>exact no fun d S' e=>by simp only[VO.cu]at e;cases p<;>simp[VO.run,e,hx,hl,hh]
     |some q =>
      cases p with
      |int k1 l =>
       cases q with
       |int k2 h =>
        cases hc:(decide (0≤l)&&decide (l≤h)&&decide (h≤(n:Int))&&(s==sz)) with
        |false=>exact no fun d S' e=>by simp only[VO.cu]at e;simp only[VO.run,e,hx,hl,hh,hc,eV]
        |true =>
         cases h1:decide (l=0) with
         |true=>exact yes (.bP id s h.toNat) fun d S' e=>by simp only[VO.cu]at e;simp only[VO.run,e,hx,hl,hh,hc,h1,bC]
         |false =>
          cases h2:decide (l<(n:Int)) with
          |true=>exact yes (.fm id s l.toNat (h-l).toNat) fun d S' e=>by simp only[VO.cu]at e;simp only[VO.run,e,hx,hl,hh,hc,h1,h2,bC,eV]
          |false=>exact no fun d S' e=>by simp only[VO.cu]at e;simp only[VO.run,e,hx,hl,hh,hc,h1,h2,bC,eV]
       |_=>exact no fun d S' e=>by simp only[VO.cu]at e;simp[VO.run,e,hx,hl,hh]
      |_=>exact no fun d S' e=>by simp only[VO.cu]at e;simp[VO.run,e,hx,hl,hh]
   |da id s n =>
    cases hl:S.jI lo 0 with
    |none=>exact no fun d S' e=>by simp only[VO.cu]at e;simp[VO.run,e,hx,hl]
    |some p =>
     cases hh:S.jI hi n with
     |none=>exact no fun d S' e=>by simp only[VO.cu]at e;cases p<;>simp[VO.run,e,hx,hl,hh]
     |some q =>
      cases p with
      |int k1 l =>
       cases q with
       |int k2 h =>
        cases hc:(decide (0≤l)&&decide (l≤h)&&decide (h≤(n:Int))&&(s==sz)) with
        |false=>exact no fun d S' e=>by simp only[VO.cu]at e;simp only[VO.run,e,hx,hl,hh,hc,eV]
        |true =>
         cases h1:decide (l=0) with
         |true=>exact yes (.da id s h.toNat) fun d S' e=>by simp only[VO.cu]at e;simp only[VO.run,e,hx,hl,hh,hc,h1,bC]
         |false =>
          cases h2:decide (l<(n:Int)) with
          |true=>exact yes (.gX id s l.toNat (h-l).toNat) fun d S' e=>by simp only[VO.cu]at e;simp only[VO.run,e,hx,hl,hh,hc,h1,h2,bC,eV]
          |false=>exact no fun d S' e=>by simp only[VO.cu]at e;simp only[VO.run,e,hx,hl,hh,hc,h1,h2,bC,eV]
       |_=>exact no fun d S' e=>by simp only[VO.cu]at e;simp[VO.run,e,hx,hl,hh]
      |_=>exact no fun d S' e=>by simp only[VO.cu]at e;simp[VO.run,e,hx,hl,hh]
   |_=>exact no fun d S' e=>by simp only[VO.cu]at e;simp[VO.run,e,hx]
 |tY mx x y z =>
  cases hx:S.ev x with
  |none=>exact no fun d S' e=>by simp only[VO.cu]at e;simp[VO.run,e,hx]
  |some a =>
   cases hy:S.ev y with
   |none=>exact no fun d S' e=>by simp only[VO.cu]at e;cases a<;>simp[VO.run,e,hx,hy]
   |some b =>
    cases hz:S.ev z with
    |none=>exact no fun d S' e=>by simp only[VO.cu]at e;cases a<;>cases b<;>simp[VO.run,e,hx,hy,hz]
    |some c =>
     cases a with
     |int k1 a=>cases b with
      |int k2 b=>cases c with
       |int k3 c=>exact yes _ fun d S' e=>Eq.trans (by simp only[VO.cu]at e;simp only[VO.run,e,hx,hy,hz];exact rfl) rfl
       |_=>exact no fun d S' e=>by simp only[VO.cu]at e;simp[VO.run,e,hx,hy,hz]
      |_=>exact no fun d S' e=>by simp only[VO.cu]at e;simp[VO.run,e,hx,hy,hz]
     |_=>exact no fun d S' e=>by simp only[VO.cu]at e;simp[VO.run,e,hx,hy,hz]
 |mm mx x y =>
  cases hx:S.ev x with
  |none=>exact no fun d S' e=>by simp only[VO.cu]at e;simp[VO.run,e,hx]
  |some a =>
   cases hy:S.ev y with
   |none=>exact no fun d S' e=>by simp only[VO.cu]at e;cases a<;>simp[VO.run,e,hx,hy]
   |some b=>cases a<;>cases b<;>first|(refine no fun d S' e=>?_;simp only[VO.cu]at e;simp[VO.run,e,hx,hy];done)|(refine yes _ fun d S' e=>Eq.trans (by simp only[VO.cu]at e;simp only[VO.run,e,hx,hy];exact rfl) rfl)
 |vg f cap =>
  cases hx:oM S cap with
  |none=>exact no fun d S' e=>by simp only[VO.cu]at e;simp[VO.run,e,hx]
  |some vs =>
   cases hg:A5 vs with
   |none=>exact no fun d S' e=>by simp only[VO.cu]at e;simp only[VO.run,e,hx,hg]
   |some us=>exact yes (.fn f us) fun d S' e=>by simp only[VO.cu]at e;simp only[VO.run,e,hx,hg]
 |_=>cases sd
theorem om{α β:Type}(c:Bool)(x y:Option α)(f:α→β):(bif c then x else y).map f=bif c then x.map f else y.map f:=by cases c<;>rfl
theorem Ny{S S':St}(e:S'.env=S.env)(vo:VO):VO.cu S' S vo:=by
 cases vo<;>first
  |trivial
  |exact xU e _
  |exact⟨xU e _,xU e _⟩
  |exact⟨xU e _,xU e _,xU e _⟩
  |exact⟨xU e _,fun n=>Uc e _ n,fun n=>Uc e _ n⟩
  |exact Ud e _
theorem aeT(C:br)(d:Option Nat)(S:St)(vo:VO)(h:vo.frame=true):vo.run C d S=(vo.cG C S).map fun u=>u.app d S:=by
 obtain⟨r,hr⟩:=Ue C S vo h;rw[Jl C S vo h,hr d S (Ny (S':=S) rfl vo),hr (some 0) (St.mk S.env [] [] []) (Ny (by rfl) vo)]
 cases r<;>simp[sk,St.put]
theorem Uf(C:br)(d:Option Nat)(S:St)(vo:VO):vo.run C d S=(vo.cG C S).map fun u=>u.app d S:=by
 cases vo with
 |mv x=>simp only[VO.run,VO.cG];cases S.ev x<;>simp[sk]
 |pick c a b =>
  simp only[VO.run,VO.cG];cases S.ev c with
  |none=>rfl
  |some v =>
   cases v<;>try rfl
   rename_i t;cases t<;>simp only[bC,eV]
   ·cases S.ev b<;>simp[sk]
   ·cases S.ev a<;>simp[sk]
 |obj id cells=>rfl
 |box id x =>
  simp only[VO.run,VO.cG];cases S.ev x with
  |none=>rfl
  |some v=>simp only[om];cases v.cells.all V.cI<;>rfl
 |tP sh x =>
  simp only[VO.run,VO.cG];cases S.ev x with
  |none=>rfl
  |some v=>simp only;cases lW sh v.cells<;>rfl
 |tQ sh zero=>simp only[VO.run,VO.cG];cases lW sh zero<;>rfl
 |tR=>rfl
 |u6 ag ks zero ok x k =>
  simp only[VO.run,VO.cG];split
  ·split
   ·split<;>simp_all[sk]
   ·simp_all
  ·simp_all
 |tS ag ks sh x k y =>
  simp only[VO.run,VO.cG];split
  ·split
   ·split<;>simp_all[Out.app,Out.aW]
   ·simp_all
  ·simp_all
 |build zero parts=>simp only[VO.run,VO.cG];cases qI S parts zero<;>simp[sk]
 |lit tok sh zero ln parts =>
  simp only[VO.run,VO.cG];cases tZ S sh parts (List.replicate ln zero) with
  |none=>rfl
  |some rs=>cases tok<;>simp[sk]<;>rfl
 |load root sz p =>
  simp only[VO.run,VO.cG];cases S.ev p with
  |none=>rfl
  |some a =>
   simp only[om];cases root.fits a
   ·rfl
   ·simp only[bC]
    cases S.mU a with
    |none=>rfl
    |some q =>
     obtain⟨cs,off⟩:=q;simp only;cases loadAt sz cs off<;>simp[sk]
 |qF f args ids =>
  simp only[VO.run,VO.cG];cases S.ev f with
  |none=>rfl
  |some a =>
   cases a<;>try rfl
   rename_i g cap;cases cap with
   |cons _ _=>rfl
   |nil =>
    cases kW S ids args with
    |none=>rfl
    |some vs =>
     simp only;cases C g vs [] with
     |none=>rfl
     |some q =>
      obtain⟨r,G⟩:=q;simp only[om];cases r.pz<;>simp[sk]
 |rJ cb p =>
  simp only[VO.run,VO.cG];cases S.ev p with
  |none=>rfl
  |some a =>
   simp only;cases S.take cb a with
   |none=>rfl
   |some q=>rfl
 |tV cb p x =>
  simp only[VO.run,VO.cG];cases S.ev p with
  |none=>rfl
  |some a =>
   cases S.ev x with
   |none=>rfl
   |some v =>
    simp only;cases S.wG cb a v with
    |none=>rfl
    |some q=>rfl
 |store root sh p x =>
  simp only[VO.run,VO.cG];simp only[om];cases S.fits root p
  ·rfl
  ·simp only[bC]
   cases S.ev p with
   |none=>rfl
   |some a =>
    cases S.ev x with
    |none=>cases a<;>rfl
    |some v =>
     cases a<;>try rfl
     ·rename_i id off
      simp only;cases look id S.aW with
      |none=>rfl
      |some cs=>simp only[om];rfl
     ·rename_i id off
      simp only;cases S.ay[id]? with
      |none=>rfl
      |some o =>
       cases o with
       |map es=>rfl
       |cells cs =>
        simp only;cases lW sh v.cells with
        |none=>rfl
        |some vs=>simp only[om];rfl
 |app cb src sh mx x y =>
  simp only[VO.run,VO.cG];cases S.ev x with
  |none=>rfl
  |some a =>
   cases S.ev y with
   |none =>
    cases a<;>try rfl
    rename_i tok n es;cases tok<;>rfl
   |some b =>
    cases a<;>try rfl
    ·simp only
     cases S.rows sh b with
     |none=>rfl
     |some ys=>simp only[om];rfl
    ·rename_i tok n es
     cases tok with
     |none=>rfl
     |some f =>
      simp only;cases S.rows sh b with
      |none=>rfl
      |some ys =>
       simp only;cases (bif src==some f then look f S.bf else none) with
       |none=>rfl
       |some k=>simp only[om];rfl
    ·simp only
     cases S.rows sh b with
     |none=>rfl
     |some ys=>simp only[om];rfl
 |sZ nw src oy sh x y =>
  simp only[VO.run,VO.cG];cases S.ev x with
  |none=>rfl
  |some a =>
   cases S.ev y with
   |none=>cases a<;>rfl
   |some b =>
    cases a<;>try rfl
    ·simp only
     cases S.ny oy sh b with
     |none=>rfl
     |some ys =>
      simp only[om];cases ys.isEmpty<;>simp[sk]<;>rfl
    ·simp only
     cases S.ny oy sh b with
     |none=>rfl
     |some ys =>
      simp only[om];cases ys.isEmpty<;>simp[sk]<;>rfl
    ·simp only
     cases S.ny oy sh b with
     |none=>rfl
     |some ys =>
      cases look src S.aW with
      |none=>rfl
      |some cs=>simp only[om];rfl
 |call alone f args reg =>
  cases alone
  ·simp only[VO.run,VO.cG]
   cases S.ev f with
   |none=>rfl
   |some a =>
    cases a<;>try rfl
    rename_i g cap;cases mB S args with
    |none=>rfl
    |some vs =>
     simp only;cases C g (vs++cap) S.ay with
     |none=>rfl
     |some q=>rfl
  ·simp only[VO.run,VO.cG]
   cases S.ev f with
   |none=>rfl
   |some a =>
    cases a<;>try rfl
    rename_i g cap;cases mC S args with
    |none=>cases cap<;>rfl
    |some vs =>
     cases cap with
     |cons _ _=>rfl
     |nil =>
      simp only;cases C g vs [] with
      |none=>rfl
      |some q=>simp only[om];rfl
 |qE f args =>
  simp only[VO.run,VO.cG];cases S.ev f with
  |none=>rfl
  |some a =>
   cases a<;>try rfl
   rename_i g cap;cases mB S args with
   |none=>rfl
   |some vs =>
    simp only;cases C g (vs++cap) S.ay with
    |none=>rfl
    |some q =>
     simp only[rd];split<;>simp[sk]
 |own f args ids id pos =>
  simp only[VO.run,VO.cG];cases S.ev f with
  |none=>rfl
  |some a =>
   cases a<;>try rfl
   rename_i g cap;cases kW S ids args with
   |none=>cases cap<;>rfl
   |some vs =>
    cases cap with
    |cons _ _=>rfl
    |nil =>
     simp only;cases C g vs [] with
     |none=>rfl
     |some q =>
      simp only;cases jW id pos q.1 with
      |none=>rfl
      |some p =>
       obtain⟨v,o⟩:=p;cases o with
       |none=>simp[sk]
       |some cs=>rfl
 |qG f args id =>
  simp only[VO.run,VO.cG];cases S.ev f with
  |none=>rfl
  |some a =>
   cases mC S args with
   |none=>cases a<;>try rfl
          rename_i g cap;cases cap<;>rfl
   |some vs =>
    cases a<;>try rfl
    rename_i g cap;cases cap with
    |cons _ _=>rfl
    |nil =>
     simp only;cases C g vs [] with
     |none=>rfl
     |some q =>
      simp only;cases jW id 0 q.1 with
      |none=>rfl
      |some p =>
       obtain⟨v,o⟩:=p;cases o with
       |none=>cases v<;>rfl
       |some cs=>cases v<;>try rfl
                 simp only[om];rfl
 |tU x =>
  simp only[VO.run,VO.cG];cases S.ev x with
  |none=>rfl
  |some a =>
   simp only;cases Fa S.ay a.part<;>rfl
 |vb k f i x =>
  simp only[VO.run,VO.cG,St.mut];cases S.ev x with
  |none=>rfl
  |some a =>
   cases a<;>try rfl
   simp only;cases look i S.aW with
   |none=>rfl
   |some cs =>
    simp only[om];congr 1;generalize wH _=z;cases z<;>rfl
 |s6 id zero n =>
  simp only[VO.run,VO.cG];cases S.ev n with
  |none=>rfl
  |some a =>
   cases a<;>try rfl
   simp only[om];rfl
 |grow f id n =>
  simp only[VO.run,VO.cG];cases S.ev n with
  |none=>rfl
  |some a =>
   cases a<;>try rfl
   rename_i k _;cases k<;>try rfl
   simp only[om];rfl
 |tT id src x y =>
  simp only[VO.run,VO.cG];cases S.ev x with
  |none=>rfl
  |some a =>
   cases S.ev y with
   |none=>cases a<;>rfl
   |some b =>
    cases a<;>try rfl
    simp only;cases look id S.aW with
    |none=>rfl
    |some cs =>
     cases S.xw src b with
     |none=>rfl
     |some us=>simp only[om];rfl
 |_=>exact aeT C d S _ rfl
def bp.keys:bp→List Key
 |.t s=>[.e s]
 |.c _=>[]
def jc.keys:jc→List Key
 |.loc id=>[.o id]
 |.ay=>[.g]
 |.jJ=>[]
def Jm:Option bp→List Key
 |some o=>o.keys
 |none=>[]
def FX:Option Nat→List Key
 |some f=>[.t f]
 |none=>[]
def Jo:Option Nat→List Key
 |some j=>[.o j]
 |none=>[]
def VO.rd:VO→List Key
 |.grow _ _ x | .u7 x=>x.keys
 |.tT id src x y=>.o id::(Jo src++x.keys++y.keys)
 |.tU x=>.g::x.keys
 |.vb _ _ id x=>.o id::x.keys
 |.xv _=>[]
 |.u9 _ x=>x.keys
 |.rJ _ x=>.g::x.keys
 |.tV f x y=>.g::.t f::(x.keys++y.keys)
 |.mv x | .box _ x | .sY x | .un _ x | .conv _ x | .rM _ x | .arr _ _ x | .field _ _ x | .len x | .tW x | .ext x _ | .s6 _ _ x=>x.keys
 |.pick a b c=>a.keys++b.keys++c.keys
 |.obj _ _=>[]
 |.tP _ x=>.g::x.keys
 |.tQ _ _ | .tR=>[.g]
 |.u6 _ _ _ _ x k=>.g::(x.keys++k.keys)
 |.tS _ _ _ x k y=>.g::(x.keys++k.keys++y.keys)
 |.build _ ps=>ps.flatMap fun p=>p.2.2.keys
 |.lit _ _ _ _ ps=>ps.flatMap fun p=>p.2.keys
 |.load root _ x=>root.keys++x.keys
 |.store root _ x y=>root.keys++x.keys++y.keys
 |.bin _ x y | .beq _ x y | .iu _ _ x y | .nx _ _ x y | .idx _ _ _ x y | .mm _ x y=>x.keys++y.keys
 |.tY _ x y z=>x.keys++y.keys++z.keys
 |.app _ src _ _ x y=>FX src++x.keys++y.keys
 |.sZ _ src oy _ x y=>.o src::(Jo oy++x.keys++y.keys)
 |.call alone f args _=>(bif alone then [] else [.g])++f.keys++args.flatMap fun p=>p.2.keys
 |.own f args ids _ _=>ids.map Key.o++(f.keys++args.flatMap fun p=>p.2.2.keys)
 |.qG f args _=>.g::(f.keys++args.flatMap fun p=>p.2.keys)
 |.qF f args ids=>ids.map Key.o++(f.keys++args.flatMap fun p=>p.2.2.keys)
 |.qE f args=>.g::(f.keys++args.flatMap fun p=>p.2.keys)
 |.vd _ x lo hi=>x.keys++Jm lo++Jm hi
 |.vg _ cap=>cap.flatMap bp.keys
def VO.wr:VO→List Key
 |.obj id _ | .box id _ | .s6 id _ _ | .grow _ id _ | .tT id _ _ _=>[.o id]
 |.tP _ _ | .tQ _ _ | .tR | .tS .. | .qG .. | .tU _=>[.g]
 |.lit (some f) _ _ _ _=>[.t f]
 |.store (.loc id) _ _ _=>[.o id]
 |.store _ _ _ _=>[.g]
 |.app f src _ _ _ _=>.t f::FX src
 |.rJ f _ | .tV f _ _=>[.g,.t f]
 |.sZ nw src _ _ _ _=>[.o nw,.o src]
 |.call alone _ _ reg=>(bif alone then [] else [.g])++(Bs reg).map .t
 |.own _ _ _ id _=>[.o id]
 |.vb _ _ id _=>[.o id]
 |_=>[]
def bA.rd(o:bA):List Key:=(match o.guard with|some (s,_)=>[.e s] | none=>[])++o.op.rd
def bA.wr(o:bA):List Key:=(match o.dst with|some d=>[.e d] | none=>[])++o.op.wr
def fK(S S':St)(K:List Key):Prop:=∀k∈K,same S S' k
section
variable {S S':St} {C:br}
theorem ea{x:bp}(h:fK S S' x.keys):S.ev x=S'.ev x:=by
 cases x with
 |t s=>exact h (.e s) (by simp[bp.keys])
 |c v=>rfl
theorem fK.left{K L:List Key}(h:fK S S' (K++L)):fK S S' K:=fun k hk=>h k (Mn _ hk)
theorem fK.right{K L:List Key}(h:fK S S' (K++L)):fK S S' L:=fun k hk=>h k (EX _ hk)
theorem Ug:∀{xs:List bp},fK S S' (xs.flatMap bp.keys)→oM S xs=oM S' xs
 |[],_=>rfl
 |x::xs,h=>by
  rw[AT]at h;simp only[oM,ea h.left,Ug h.right]
theorem Uh:∀{ps:List (Nat×Nat×bp)} {cs:List V},fK S S' (ps.flatMap fun p=>p.2.2.keys)→qI S ps cs=qI S' ps cs
 |[],_,_=>rfl
 |(off,n,x)::ps,cs,h=>by
  rw[AT]at h;simp only[qI,ea (x:=x) h.left];split
  ·rw[Uh h.right]
  ·rfl
theorem Ui{sh:Sh}:∀{ps:List (Nat×bp)} {rs:List (List V)},fK S S' (ps.flatMap fun p=>p.2.keys)→tZ S sh ps rs=tZ S' sh ps rs
 |[],_,_=>rfl
 |(i,x)::ps,rs,h=>by
  rw[AT]at h;simp only[tZ,ea (x:=x) h.left];split
  ·split
   ·rw[Ui h.right]
   ·rfl
  ·rfl
theorem Nz:∀{ps:List (Sh×bp)},fK S S' (ps.flatMap fun p=>p.2.keys)→mB S ps=mB S' ps
 |[],_=>rfl
 |(sh,x)::ps,h=>by
  rw[AT]at h;simp only[mB,ea (x:=x) h.left,Nz h.right]
theorem NA:∀{ps:List (Sh×bp)},fK S S' (ps.flatMap fun p=>p.2.keys)→mC S ps=mC S' ps
 |[],_=>rfl
 |(sh,x)::ps,h=>by
  rw[AT]at h;simp only[mC,ea (x:=x) h.left,NA h.right]
theorem NB{sh:Sh}{v:V}:S.rows sh v=S'.rows sh v:=by
 unfold St.rows;split<;>rfl
theorem aeU{oy:Option Nat}{sh:Sh}{v:V}(h:∀j,oy=some j→look j S.aW=look j S'.aW):S.ny oy sh v=S'.ny oy sh v:=by
 unfold St.ny;cases oy with
 |none=>exact NB
 |some j =>
  cases v<;>try exact NB
  rename_i i s n;by_cases e:i=j
  ·subst e
   simp only[St.qH,h i rfl]
  ·have:(i==j)=false:=by simpa using e
   simp only[this,eV]
theorem aeV{vo:VO}(h:fK S S' vo.rd):VO.cu S' S vo:=by
 cases vo with
 |sY x=>exact(ea h).symm
 |un op x=>exact(ea h).symm
 |conv k x=>exact(ea h).symm
 |rM off x=>exact(ea h).symm
 |arr n sz x=>exact(ea h).symm
 |field off sz x=>exact(ea h).symm
 |u9 neg x=>exact(ea h).symm
 |len x=>exact(ea h).symm
 |tW x=>exact(ea h).symm
 |u7 x=>exact(ea h).symm
 |ext x i=>exact(ea h).symm
 |bin op x y=>exact⟨(ea h.left).symm,(ea h.right).symm⟩
 |beq neg x y=>exact⟨(ea h.left).symm,(ea h.right).symm⟩
 |iu neg ks x y=>exact⟨(ea h.left).symm,(ea h.right).symm⟩
 |nx arr sz x y=>exact⟨(ea h.left).symm,(ea h.right).symm⟩
 |idx n sz ag x y=>exact⟨(ea h.left).symm,(ea h.right).symm⟩
 |mm mx x y=>exact⟨(ea h.left).symm,(ea h.right).symm⟩
 |tY mx x y z =>
  have h1:fK S S' (x.keys++y.keys++z.keys):=h;exact⟨(ea h1.left.left).symm,(ea h1.left.right).symm,(ea h1.right).symm⟩
 |vd sz x lo hi =>
  have h1:fK S S' (x.keys++Jm lo++Jm hi):=h;refine⟨(ea h1.left.left).symm,fun n=>?_,fun n=>?_⟩
  ·cases lo with
   |none=>rfl
   |some o=>exact(ea h1.left.right).symm
  ·cases hi with
   |none=>rfl
   |some o=>exact(ea h1.right).symm
 |vg f cap=>exact(Ug h).symm
 |_=>trivial
theorem aeW{vo:VO}(sd:vo.frame=true)(h:fK S S' vo.rd):vo.cG C S=vo.cG C S':=by
 obtain⟨r,hr⟩:=Ue C S vo sd;rw[Jl C S vo sd,Jl C S' vo sd,hr (some 0) _ (Ny (by rfl) vo)]
 have h1:=aeV h;have h2:VO.cu (St.mk S'.env [] [] []) S vo:=by
  cases vo<;>simp only[VO.cu,Nw,aeS,Ub]at h1 ⊢ <;> exact h1
 rw[hr (some 0) _ h2];cases r<;>rfl
theorem aeX{root:jc}{a:V}(hf:root.fits a=true)(h:fK S S' root.keys):S.mU a=S'.mU a:=by
 cases root with
 |loc i =>
  cases a<;>simp[jc.fits]at hf;rename_i id off;subst hf;have:look i S.aW=look i S'.aW:=h (.o i) (by simp[jc.keys])
  simp only[St.mU,this]
 |ay =>
  cases a<;>simp[jc.fits]at hf;have:S.ay=S'.ay:=h .g (by simp[jc.keys])
  simp only[St.mU,this]
 |jJ =>
  cases a<;>simp[jc.fits]at hf;rfl
theorem NC{ids:List Nat}(ho:∀id∈ids,look id S.aW=look id S'.aW):∀{ps:List (Sh×Sh×bp)},fK S S' (ps.flatMap fun p=>p.2.2.keys)→kW S ids ps=kW S' ids ps
 |[],_=>rfl
 |(rs,sh,x)::ps,h=>by
  rw[AT]at h;have h1:S.ev x=S'.ev x:=ea h.left;have h2:=NC ho (ps:=ps) h.right;have h3:∀id s n,S.A4 ids rs id s n=S'.A4 ids rs id s n:=fun id s n=>by
   unfold St.A4;cases hc:ids.contains id with
   |false=>rfl
   |true=>simp only[bC,St.qH,ho id (by simpa using hc)]
  have h4:∀id s off n,S.zG ids rs id s off n=S'.zG ids rs id s off n:=fun id s off n=>by
   unfold St.zG;cases hc:ids.contains id with
   |false=>rfl
   |true=>simp only[bC,ho id (by simpa using hc)]
  simp only[kW,h1,h2];cases S'.ev x with
  |none=>rfl
  |some v =>
   cases v<;>try rfl
   ·rename_i id s n
    simp only[h3 id s n]
   ·rename_i id s off n
    simp only[h4 id s off n]
theorem Uj{vo:VO}(h:fK S S' vo.rd):vo.cG C S=vo.cG C S':=by
 cases vo with
 |mv x=>simp only[VO.cG,ea (x:=x) h]
 |pick c a b =>
  have h1:fK S S' (c.keys++a.keys++b.keys):=h;simp only[VO.cG,ea (x:=c) h1.left.left,ea (x:=a) h1.left.right,ea (x:=b) h1.right]
 |obj id cells=>rfl
 |box id x=>simp only[VO.cG,ea (x:=x) h]
 |tP sh x =>
  have hg:S.ay=S'.ay:=h .g (by simp[VO.rd])
  have hx:fK S S' x.keys:=fun k hk=>h k (by simp[VO.rd,hk])
  simp only[VO.cG,ea hx,hg]
 |tQ sh zero =>
  have hg:S.ay=S'.ay:=h .g (by simp[VO.rd])
  simp only[VO.cG,hg]
 |tR =>
  have hg:S.ay=S'.ay:=h .g (by simp[VO.rd])
  simp only[VO.cG,hg]
 |u6 ag ks zero ok x k =>
  have hg:S.ay=S'.ay:=h .g (by simp[VO.rd])
  have hx:fK S S' x.keys:=fun k hk=>h k (by simp[VO.rd,hk])
  have hk:fK S S' k.keys:=fun k hk=>h k (by simp[VO.rd,hk])
  simp only[VO.cG,ea hx,ea hk,hg]
 |tS ag ks sh x k y =>
  have hg:S.ay=S'.ay:=h .g (by simp[VO.rd])
  have hx:fK S S' x.keys:=fun k hk=>h k (by simp[VO.rd,hk])
  have hk:fK S S' k.keys:=fun k hk=>h k (by simp[VO.rd,hk])
  have hy:fK S S' y.keys:=fun k hk=>h k (by simp[VO.rd,hk])
  simp only[VO.cG,ea hx,ea hk,ea hy,hg]
 |build zero ps=>simp only[VO.cG,Uh (ps:=ps) h]
 |lit tok sh zero ln ps=>simp only[VO.cG,Ui (ps:=ps) h]
 |load root sz x =>
  have h1:fK S S' (root.keys++x.keys):=h;simp only[VO.cG,ea (x:=x) h1.right];cases S'.ev x with
  |none=>rfl
  |some a =>
   simp only;cases hf:root.fits a with
   |false=>rfl
   |true=>simp only[bC,aeX hf h1.left]
 |qF f args ids =>
  have h1:fK S S' (ids.map Key.o++(f.keys++args.flatMap fun p=>p.2.2.keys)):=h;have h2:∀id∈ids,look id S.aW=look id S'.aW:=fun id hi=>h1 (.o id) (Mn _ (lV.2 ⟨id,hi,rfl⟩));simp only[VO.cG,ea (x:=f) h1.right.left,NC h2 (ps:=args) h1.right.right]
 |rJ cb x =>
  have hg:S.ay=S'.ay:=h .g (by simp[VO.rd])
  have hx:fK S S' x.keys:=fun k hk=>h k (by simp[VO.rd,hk])
  have ht:∀a,S.take cb a=S'.take cb a:=fun a=>by cases a<;>simp only[St.take,hg]
  simp only[VO.cG,ea hx,ht]
 |tV cb x y =>
  have hg:S.ay=S'.ay:=h .g (by simp[VO.rd])
  have hf:look cb S.bf=look cb S'.bf:=h (.t cb) (by simp[VO.rd])
  have hx:fK S S' x.keys:=fun k hk=>h k (by simp[VO.rd,hk])
  have hy:fK S S' y.keys:=fun k hk=>h k (by simp[VO.rd,hk])
  have ht:∀a b,S.wG cb a b=S'.wG cb a b:=fun a b=>by
   unfold St.wG;split<;>first|rfl|simp only[hg,hf]
  simp only[VO.cG,ea hx,ea hy,ht]
 |store root sh x y =>
  have h1:fK S S' (root.keys++x.keys++y.keys):=h;have hx:=ea (x:=x) h1.left.right;have hy:=ea (x:=y) h1.right;have fu:S.fits root x=S'.fits root x:=by simp only[St.fits,hx]
  simp only[VO.cG,fu,hx,hy];cases hf:S'.fits root x with
  |false=>rfl
  |true =>
   simp only[bC];simp only[St.fits]at hf;cases hp:S'.ev x with
   |none=>rfl
   |some a =>
    rw[hp]at hf;simp only at hf;cases root with
    |loc i =>
     cases a<;>simp[jc.fits]at hf;rename_i id off;subst hf;have:look i S.aW=look i S'.aW:=h (.o i) (by simp[VO.rd,jc.keys])
     cases S'.ev y with
     |none=>rfl
     |some v=>simp only[this]
    |ay =>
     cases a<;>simp[jc.fits]at hf;have:S.ay=S'.ay:=h .g (by simp[VO.rd,jc.keys])
     cases S'.ev y with
     |none=>rfl
     |some v=>simp only[this]
    |jJ =>
     cases a<;>simp[jc.fits]at hf;rfl
 |app cb src sh mx x y =>
  have h1:fK S S' (FX src++x.keys++y.keys):=h;have ht:∀f,(bif src==some f then look f S.bf else none)=(bif src==some f then look f S'.bf else none):=fun f=>by
   cases hs:src==some f with
   |false=>rfl
   |true =>
    have:=eq_of_beq hs;subst this;exact h (.t f) (by simp[VO.rd,FX])
  have hr:∀v,S.rows sh v=S'.rows sh v:=fun v=>NB;simp only[VO.cG,ea (x:=x) h1.left.right,ea (x:=y) h1.right,ht,hr]
 |call alone f args reg =>
  have h1:fK S S' ((bif alone then [] else [.g])++f.keys++args.flatMap fun p=>p.2.keys):=h;cases alone
  ·have hg:S.ay=S'.ay:=h .g (by simp[VO.rd])
   simp only[VO.cG,ea (x:=f) h1.left.right,Nz (ps:=args) h1.right,hg]
  ·simp only[VO.cG,ea (x:=f) h1.left.right,NA (ps:=args) h1.right]
 |qE f args =>
  have h1:fK S S' ([.g]++(f.keys++args.flatMap fun p=>p.2.keys)):=h;have hg:S.ay=S'.ay:=h .g (by simp[VO.rd])
  simp only[VO.cG,ea (x:=f) h1.right.left,Nz (ps:=args) h1.right.right,hg]
 |own f args ids id pos =>
  have h1:fK S S' (ids.map Key.o++(f.keys++args.flatMap fun p=>p.2.2.keys)):=h;have h2:∀id∈ids,look id S.aW=look id S'.aW:=fun id hi=>h1 (.o id) (Mn _ (lV.2 ⟨id,hi,rfl⟩));simp only[VO.cG,ea (x:=f) h1.right.left,NC h2 (ps:=args) h1.right.right]
 |qG f args id =>
  have h1:fK S S' ([.g]++(f.keys++args.flatMap fun p=>p.2.keys)):=h;have hg:S.ay=S'.ay:=h .g (by simp[VO.rd])
  simp only[VO.cG,ea (x:=f) h1.right.left,NA (ps:=args) h1.right.right,hg]
 |s6 id zero x=>simp only[VO.cG,ea (x:=x) h]
 |grow f id x=>simp only[VO.cG,ea (x:=x) h]
 |tT id src x y =>
  have ho:look id S.aW=look id S'.aW:=h (.o id) (by simp[VO.rd])
  have hj:∀j,src=some j→look j S.aW=look j S'.aW:=fun j e=>h (.o j) (by simp[VO.rd,e,Jo])
  have hx:fK S S' x.keys:=fun k hk=>h k (by simp[VO.rd,hk])
  have hy:fK S S' y.keys:=fun k hk=>h k (by simp[VO.rd,hk])
  have hr:∀v,S.xw src v=S'.xw src v:=fun v=>by
   unfold St.xw;cases src with
   |none=>rfl
   |some j=>simp only[hj j rfl]
  simp only[VO.cG,ea hx,ea hy,ho,hr]
 |tU x =>
  have hg:S.ay=S'.ay:=h .g (by simp[VO.rd])
  have hx:fK S S' x.keys:=fun k hk=>h k (by simp[VO.rd,hk])
  simp only[VO.cG,ea hx,hg]
 |vb k f i x =>
  have ho:look i S.aW=look i S'.aW:=h (.o i) (by simp[VO.rd])
  have hx:fK S S' x.keys:=fun k hk=>h k (by simp[VO.rd,hk])
  simp only[VO.cG,ea hx,ho]
 |sZ nw src oy sh x y =>
  have ho:look src S.aW=look src S'.aW:=h (.o src) (by simp[VO.rd])
  have hx:fK S S' x.keys:=fun k hk=>h k (by simp[VO.rd,hk])
  have hy:fK S S' y.keys:=fun k hk=>h k (by simp[VO.rd,hk])
  have hr:∀v,S.ny oy sh v=S'.ny oy sh v:=fun v=>aeU fun j e=>h (.o j) (by subst e;simp[VO.rd,Jo])
  simp only[VO.cG,ea hx,ea hy,ho,hr]
 |_=>exact aeW rfl h
theorem ND{α:Type}{s k:Nat}{v:α}{r:List (Nat×α)}(h:k≠s):look s ((k,v)::r)=look s r:=by rw[dj,aA h]
theorem NF{u:Out}{d:Option Nat}{k:Key}(h:same S S' k):same (u.app d S) (u.app d S') k:=by
 obtain⟨v,obj,bf,ay,del⟩:=u;cases k with
 |e s =>
  have h:look s S.env=look s S'.env:=h;cases v with
  |none=>exact h
  |some v =>
   cases d with
   |none=>exact h
   |some d=>show look s ((d,v)::S.env)=look s ((d,v)::S'.env);rw[dj,dj,h]
 |o id =>
  have h:look id S.aW=look id S'.aW:=h;have:look id (Out.aW ⟨v,obj,bf,ay,del⟩ S.aW)=look id (Out.aW ⟨v,obj,bf,ay,del⟩ S'.aW):=by
   cases obj with
   |none=>exact h
   |some p =>
    obtain⟨i,cs⟩:=p;cases del with
    |none=>simp only[Out.aW,dj,h]
    |some q=>simp only[Out.aW,dj,tm,h]
  cases v with
  |none=>exact this
  |some v=>cases d<;>exact this
 |t f =>
  have h:look f S.bf=look f S'.bf:=h;have:look f (bf++S.bf)=look f (bf++S'.bf):=by rw[xM,xM,h]
  cases v with
  |none=>exact this
  |some v=>cases d<;>exact this
 |g =>
  have h:S.ay=S'.ay:=h;have:(match ay with|some G=>G|none=>S.ay)=(match ay with|some G=>G|none=>S'.ay):=by
   cases ay with
   |none=>exact h
   |some G=>rfl
  cases v with
  |none=>exact this
  |some v=>cases d<;>exact this
def Dj(u:Out)(K:List Key):Prop :=
 (∀p,u.obj=some p→Key.o p.1∈K∧∀i,u.del=some i→Key.o i∈K)∧(∀p∈u.bf,Key.t p.1∈K)∧(∀G,u.ay=some G→Key.g∈K)
theorem aeY{u:Out}{d:Option Nat}{K:List Key}(hw:Dj u K){k:Key}(hk:k∉(match d with|some d=>[Key.e d] | none=>[])++K):same (u.app d S) S k:=by
 obtain⟨v,obj,bf,ay,del⟩:=u;obtain⟨h1,h2,h3⟩:=hw;simp only at h1 h2 h3;have Jp:k∉K:=fun h=>hk (EX _ h);cases k with
 |e s =>
  cases v with
  |none=>rfl
  |some v =>
   cases d with
   |none=>rfl
   |some d =>
    have:d≠s:=fun e=>hk (by subst e;simp)
    exact ND this
 |o id =>
  have:look id (Out.aW ⟨v,obj,bf,ay,del⟩ S.aW)=look id S.aW:=by
   cases obj with
   |none=>rfl
   |some p =>
    obtain⟨i,cs⟩:=p;obtain⟨q1,q2⟩:=h1 _ rfl;have cf:i≠id:=fun e=>Jp (by rw[←e];exact q1)
    cases del with
    |none=>exact ND cf
    |some q =>
     simp only[Out.aW];rw[ND cf,tm,aA (fun e=>Jp (by rw[e];exact q2 q rfl))]
  cases v with
  |none=>exact this
  |some v=>cases d<;>exact this
 |t f =>
  have:look f (bf++S.bf)=look f S.bf:=by
   rw[xM];cases hl:look f bf with
   |none=>rfl
   |some j=>exact absurd (h2 _ (ui hl)) Jp
  cases v with
  |none=>exact this
  |some v=>cases d<;>exact this
 |g =>
  cases ay with
  |none =>
   cases v with
   |none=>rfl
   |some v=>cases d<;>rfl
  |some G=>exact absurd (h3 G rfl) Jp
theorem Uk{vo:VO}{u:Out}(h:vo.cG C S=some u):Dj u vo.wr:=by
 have val:∀v K,Dj (Out.val v) K:=fun v K=>⟨by simp[Out.val],by simp[Out.val],by simp[Out.val]⟩
 have frame:vo.frame=true→Dj u vo.wr:=fun sd=>by
  rw[Jl C S vo sd]at h;cases hr:vo.run C (some 0) (St.mk S.env [] [] []) with
  |none=>rw[hr]at h;cases h
  |some S1 =>
   rw[hr]at h;simp only[E4]at h;split at h
   ·cases h;exact val _ _
   ·cases h
 cases vo with
 |mv x =>
  simp only[VO.cG]at h;split at h
  ·cases h;exact val _ _
  ·cases h
 |pick c a b =>
  simp only[VO.cG]at h;split at h
  ·split at h
   ·cases h;exact val _ _
   ·cases h
  ·cases h
 |obj id cells=>simp only[VO.cG]at h;cases h;exact⟨by simp[VO.wr],by simp,by simp⟩
 |box id x =>
  simp only[VO.cG]at h;split at h
  ·rename_i v _
   cases hc:v.cells.all V.cI with
   |false=>simp[hc]at h
   |true=>simp only[hc,bC]at h;cases h;exact⟨by simp[VO.wr],by simp,by simp⟩
  ·cases h
 |tP sh x =>
  simp only[VO.cG]at h;split at h
  ·split at h
   ·cases h;exact⟨by simp,by simp,by simp[VO.wr]⟩
   ·cases h
  ·cases h
 |tQ sh zero =>
  simp only[VO.cG]at h;split at h
  ·cases h;exact⟨by simp,by simp,by simp[VO.wr]⟩
  ·cases h
 |tR =>
  simp only[VO.cG]at h;cases h;exact⟨by simp,by simp,by simp[VO.wr]⟩
 |u6 ag ks zero ok x k =>
  simp only[VO.cG]at h;split at h
  ·split at h
   ·split at h
    ·cases h;exact val _ _
    ·cases h;exact val _ _
    ·cases h
   ·cases h
  ·cases h
 |tS ag ks sh x k y =>
  simp only[VO.cG]at h;split at h
  ·split at h
   ·split at h
    ·cases h;exact⟨by simp,by simp,by simp[VO.wr]⟩
    ·cases h;exact⟨by simp,by simp,by simp[VO.wr]⟩
    ·cases h
   ·cases h
  ·cases h
 |build zero ps =>
  simp only[VO.cG]at h;split at h
  ·cases h;exact val _ _
  ·cases h
 |lit tok sh zero ln ps =>
  simp only[VO.cG]at h;split at h
  ·split at h
   ·cases h;exact⟨by simp,by simp[VO.wr],by simp⟩
   ·cases h;exact val _ _
  ·cases h
 |load root sz x =>
  simp only[VO.cG]at h;split at h
  ·rename_i a _
   cases hf:root.fits a with
   |false=>simp[hf]at h
   |true =>
    simp only[hf,bC]at h;split at h
    ·split at h
     ·cases h;exact val _ _
     ·cases h
    ·cases h
  ·cases h
 |qF f args ids =>
  simp only[VO.cG]at h;split at h
  ·split at h
   ·rename_i r _ _
    cases hs:r.pz with
    |false=>rw[hs]at h;cases h
    |true=>rw[hs]at h;cases h;exact val _ _
   ·cases h
  ·cases h
 |rJ cb x =>
  simp only[VO.cG]at h;split at h
  ·split at h
   ·rename_i v ts G ht
    cases h;unfold St.take at ht;split at ht
    ·split at ht
     ·split at ht
      ·cases ht;exact⟨by simp,by simp[VO.wr],by simp[VO.wr]⟩
      ·cases ht;exact⟨by simp,by simp,by simp⟩
      ·cases ht
     ·cases ht
    ·cases ht
   ·cases h
  ·cases h
 |tV cb x y =>
  simp only[VO.cG]at h;split at h
  ·split at h
   ·rename_i ts G ht
    cases h;unfold St.wG at ht;split at ht
    ·split at ht
     ·rename_i k _ _
      rcases L5 (k==_&&Nat.blt _ _) with hc|hc
      ·rw[hc]at ht;cases ht;exact⟨by simp,by simp[VO.wr],by simp[VO.wr]⟩
      ·rw[hc]at ht;cases ht
     ·cases ht
    ·cases ht
   ·cases h
  ·cases h
 |store root sh x y =>
  simp only[VO.cG]at h;cases hf:S.fits root x with
  |false=>simp[hf]at h
  |true =>
   simp only[hf,bC]at h;simp only[St.fits]at hf;split at h
   ·rename_i id off v hx hy
    rw[hx]at hf;split at h
    ·rename_i cs _
     cases hc:(v.cells.length==sh.length&&Nat.ble (off+sh.length) cs.length&&v.cells.all V.cI&&Nat.blt 0 sh.length) with
     |false=>simp[hc]at h
     |true =>
      simp only[hc,bC]at h;cases h;cases root with
      |loc i=>simp[jc.fits]at hf;subst hf;exact⟨by simp[VO.wr],by simp,by simp⟩
      |ay=>simp[jc.fits]at hf
      |jJ=>simp[jc.fits]at hf
    ·cases h
   ·rename_i id off v hx hy
    rw[hx]at hf;split at h
    ·rename_i cs _
     split at h
     ·rename_i vs _
      cases hc:(Nat.ble (off+vs.length) cs.length&&Nat.blt 0 vs.length) with
      |false=>simp[hc]at h
      |true =>
       simp only[hc,bC]at h;cases h;cases root with
       |ay=>exact⟨by simp,by simp,by simp[VO.wr]⟩
       |loc i=>simp[jc.fits]at hf
       |jJ=>simp[jc.fits]at hf
     ·cases h
    ·cases h
   ·cases h
 |app cb src sh mx x y =>
  simp only[VO.cG]at h;split at h
  ·split at h
   ·rename_i ys _
    cases hc:Nat.ble ys.length mx with
    |false=>simp[hc]at h
    |true=>simp only[hc,bC]at h;cases h;exact⟨by simp,by simp[VO.wr],by simp⟩
   ·cases h
  ·split at h
   ·rename_i ys _
    cases hc:Nat.ble ys.length mx with
    |false=>simp[hc]at h
    |true=>simp only[hc,bC]at h;cases h;exact⟨by simp,by simp[VO.wr],by simp⟩
   ·cases h
  ·rename_i f n es _ _ _
   split at h
   ·rename_i ys _
    split at h
    ·rename_i k hk
     cases hc:(k==es.length&&(n==sh.length)&&Nat.ble (es.length+ys.length) mx) with
     |false=>simp[hc]at h
     |true =>
      simp only[hc,bC]at h;cases h;cases hs:src==some f with
      |false=>simp[hs]at hk
      |true =>
       have:=eq_of_beq hs;subst this;exact⟨by simp,by simp[VO.wr,FX],by simp⟩
    ·cases h
   ·cases h
  ·cases h
 |call alone f args reg =>
  have uj:∀r:V,∀p∈(recv reg r).2,Key.t p.1∈(Bs reg).map Key.t:=fun r p hp=>by
   rw[I7]at hp;obtain⟨q,t,n,es,_,h2,_⟩:=C4 reg _ 0 p.1 p.2 hp;exact lV.2 ⟨p.1,lV.2 ⟨_,ui h2,rfl⟩,rfl⟩
  cases alone
  ·simp only[VO.cG]at h
   split at h
   ·split at h
    ·rename_i r G hc
     cases h;exact⟨by simp,fun p hp=>EX _ (uj r p hp),by simp[VO.wr]⟩
    ·cases h
   ·cases h
  ·simp only[VO.cG]at h
   split at h
   ·split at h
    ·rename_i r G hc
     cases hl:r.lone with
     |false=>simp[hl]at h
     |true =>
      simp only[hl,bC]at h;cases h;exact⟨by simp,fun p hp=>EX _ (uj r p hp),by simp⟩
    ·cases h
   ·cases h
 |qE f args =>
  simp only[VO.cG]at h;split at h
  ·split at h
   ·simp only[rd]at h
    split at h
    ·cases h;exact⟨by simp[Out.val],by simp[Out.val],by simp[Out.val]⟩
    ·cases h
   ·cases h
  ·cases h
 |own f args ids id pos =>
  simp only[VO.cG]at h;split at h
  ·split at h
   ·split at h
    ·cases h;exact⟨by simp[VO.wr],by simp,by simp⟩
    ·cases h;exact val _ _
    ·cases h
   ·cases h
  ·cases h
 |sZ nw src oy sh x y =>
  simp only[VO.cG]at h;split at h
  ·split at h
   ·rename_i ys _
    cases hc:ys.isEmpty with
    |true=>simp only[hc,bC]at h;cases h;exact val _ _
    |false =>
     simp only[hc,eV]at h;cases hc:Nat.ble ys.length lim with
     |false=>simp[hc]at h
     |true=>simp only[hc,bC]at h;cases h;exact⟨by simp[VO.wr],by simp,by simp⟩
   ·cases h
  ·split at h
   ·rename_i ys _
    cases hc:ys.isEmpty with
    |true=>simp only[hc,bC]at h;cases h;exact val _ _
    |false =>
     simp only[hc,eV]at h;cases hc:Nat.ble ys.length lim with
     |false=>simp[hc]at h
     |true=>simp only[hc,bC]at h;cases h;exact⟨by simp[VO.wr],by simp,by simp⟩
   ·cases h
  ·rename_i id s ln _ _ _
   split at h
   ·rename_i ys cs _ _
    cases hc:((id==src)&&(s==sh.length)&&(cs.length==ln*s)&&Nat.ble (ln+ys.length) lim) with
    |false=>simp[hc]at h
    |true=>simp only[hc,bC]at h;cases h;exact⟨by simp[VO.wr],by simp,by simp⟩
   ·cases h
  ·cases h
 |tU x =>
  simp only[VO.cG]at h;split at h
  ·split at h
   ·cases h;exact⟨by simp,by simp,by simp[VO.wr]⟩
   ·cases h
  ·cases h
 |vb k f i x =>
  simp only[VO.cG]at h;split at h
  ·rename_i id s n _
   split at h
   ·rename_i cs _
    cases hc:(id==i&&(s==1)&&Nat.ble n cs.length&&Nat.ble n lim&&Nat.blt 0 n) with
    |false=>simp[hc]at h
    |true =>
     simp only[hc,bC]at h;split at h
     ·cases h;exact⟨by simp[VO.wr],by simp,by simp⟩
     ·cases h
   ·cases h
  ·cases h
 |s6 id zero x =>
  simp only[VO.cG]at h;split at h
  ·rename_i k n _
   cases hc:(decide (0≤n)&&decide (n≤(lim:Int))) with
   |false=>simp[hc]at h
   |true=>simp only[hc,bC]at h;cases h;exact⟨by simp[VO.wr],by simp,by simp⟩
  ·cases h
 |qG f args id =>
  simp only[VO.cG]at h;split at h
  ·split at h
   ·split at h
    ·rename_i i n len cs _
     cases hc:(i==id&&Nat.blt 0 cs.length&&Nat.blt 0 len&&cs.all V.sc) with
     |false=>simp[hc]at h
     |true=>simp only[hc,bC]at h;cases h;exact⟨by simp,by simp,by simp[VO.wr]⟩
    ·cases h;exact⟨by simp,by simp,by simp[VO.wr]⟩
    ·cases h
   ·cases h
  ·cases h
 |grow f id x =>
  simp only[VO.cG]at h;split at h
  ·rename_i n _
   cases hc:(decide (0≤n)&&decide (n≤(lim:Int))) with
   |false=>simp[hc]at h
   |true=>simp only[hc,bC]at h;cases h;exact⟨by simp[VO.wr],by simp,by simp⟩
  ·cases h
 |tT id src x y =>
  simp only[VO.cG]at h;split at h
  ·rename_i i s n b _ _
   split at h
   ·rename_i cs us _ _
    cases hc:(i==id&&(s==1)&&Nat.ble n cs.length&&us.all V.sc) with
    |false=>simp[hc]at h
    |true=>simp only[hc,bC]at h;cases h;exact⟨by simp[VO.wr],by simp,by simp⟩
   ·cases h
  ·cases h
 |_=>exact frame rfl
end
end Go.Vm

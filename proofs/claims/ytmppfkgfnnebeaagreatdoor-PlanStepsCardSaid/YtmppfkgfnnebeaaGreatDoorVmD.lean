/- The value machine, 13: what an operation reads and writes; operations that touch different things may change places. -/
import Derived.Test.YtmppfkgfnnebeaaGreatDoorVmC
namespace Go.Vm
set_option linter.all false
inductive Key where
 |e (s:Nat)
 |o (id:Nat)
 |t (f:Nat)
 |g
 deriving DecidableEq
def same(S S':St):Key→Prop
 |.e s=>look s S.env=look s S'.env
 |.o id=>look id S.aW=look id S'.aW
 |.t f=>look f S.bj=look f S'.bj
 |.g=>S.aA=S'.aA
theorem Xg(S:St)(k:Key):same S S k:=by cases k<;>rfl
theorem PK{S S':St}{k:Key}(h:same S S' k):same S' S k:=by cases k<;>exact Eq.symm h
theorem K8{S S' HU:St}{k:Key}(h:same S S' k)(h':same S' HU k):same S HU k:=by cases k<;>exact Eq.trans h h'
def Alike(S S':St):Prop:=∀k,same S S' k
structure Out where
 v:Option V
 obj:Option (Nat×List V)
 bj:List (Nat×Nat)
 aA:Option (List aS)
 del:Option Nat
def Out.val(v:V):Out:=⟨some v,none,[],none,none⟩
def Out.aW(u:Out)(aW:List (Nat×List V)):List (Nat×List V):=match u.obj with
 |some p=>p::(match u.del with|some i=>aW.filter (fun q => !(q.1==i))|none=>aW)
 |none=>aW
def Out.app(u:Out)(d:Option Nat)(S:St):St :=
 let T:St:={ env:=S.env,aW:=u.aW S.aW,bj:=u.bj++S.bj,aA:=(match u.aA with|some G=>G|none=>S.aA) }
 match u.v with
 |some v=>T.put d v
 |none=>T
noncomputable def VO.cI(C:bD)(S:St):VO→Option Out
 |.mv x=>match S.ev x with
  |some v=>some (.val v)
  |none=>none
 |.pick c a b=>match S.ev c with
  |some (.bool t)=>match bif t then S.ev a else S.ev b with
   |some v=>some (.val v)
   |none=>none
  |_=>none
 |.obj id cells=>some ⟨some (.bJ id 0),some (id,cells),[],none,none⟩
 |.box id x=>match S.ev x with
  |some v=>bif v.cells.all V.cL then some ⟨some (.bJ id 0),some (id,v.cells),[],none,none⟩ else none
  |none=>none
 |.u7 sh x=>match S.ev x with
  |some v=>match mH sh v.cells with
   |some cs=>some ⟨some (.bm S.aA.length 0),none,[],some (S.aA++[aS.cells cs]),none⟩
   |none=>none
  |none=>none
 |.u9 sh zero=>match mH sh zero with
  |some cs=>some ⟨some (.bm S.aA.length 0),none,[],some (S.aA++[aS.cells cs]),none⟩
  |none=>none
 |.vb=>some ⟨some (.map S.aA.length),none,[],some (S.aA++[aS.map []]),none⟩
 |.wJ ag ks zero ok x k=>match S.ev x,S.ev k with
  |some (.map i),some kv=>match S.aA[i]?,V.nd ag ks kv kv with
   |some (.map es),some _=>match nf ag ks kv es 0 with
    |some (some (_,v))=>some (.val (bif ok then .tuple [v,.bool true] else v))
    |some none=>some (.val (bif ok then .tuple [zero,.bool false] else zero))
    |none=>none
   |_,_=>none
  |_,_=>none
 |.vd ag ks sh x k y=>match S.ev x,S.ev k,S.ev y with
  |some (.map i),some kv,some v=>match S.aA[i]?,V.nd ag ks kv kv,A3 sh v with
   |some (.map es),some _,some u=>match nf ag ks kv es 0 with
    |some (some (j,_))=>some ⟨none,none,[],some (S.aA.set i (aS.map (es.set j (kv,u)))),none⟩
    |some none=>some ⟨none,none,[],some (S.aA.set i (aS.map (es++[(kv,u)]))),none⟩
    |none=>none
   |_,_,_=>none
  |_,_,_=>none
 |.build zero parts=>match sn S parts zero with
  |some cs=>some (.val (.agg cs))
  |none=>none
 |.lit tok sh zero ln parts=>match vm S sh parts (List.replicate ln zero) with
  |some rs=>match tok with
   |some f=>some ⟨some (.slice (some f) sh.length rs),none,[(f,ln)],none,none⟩
   |none=>some (.val (.slice none sh.length rs))
  |none=>none
 |.load root sz p=>match S.ev p with
  |some a=>bif root.fits a then match S.nJ a with
   |some (cs,off)=>match loadAt sz cs off with
    |some v=>some (.val (tm root v))
    |none=>none
   |none=>none
   else none
  |none=>none
 |.tg cj p=>match S.ev p with
  |some a=>match S.take cj a with
   |some (v,ts,G)=>some ⟨some v,none,ts,G,none⟩
   |none=>none
  |none=>none
 |.vi cj p x=>match S.ev p,S.ev x with
  |some a,some v=>match S.xZ cj a v with
   |some (ts,G)=>some ⟨none,none,ts,some G,none⟩
   |none=>none
  |_,_=>none
 |.store root sh p x=>bif S.fits root p then match S.ev p,S.ev x with
  |some (.bJ id off),some v=>match look id S.aW with
   |some cs=>bif v.cells.length==sh.length&&Nat.ble (off+sh.length) cs.length&&v.cells.all V.cL&&Nat.blt 0 sh.length then
     some ⟨none,some (id,iF cs off v.cells),[],none,none⟩ else none
   |none=>none
  |some (.bm id off),some v=>match S.aA[id]? with
   |some (.cells cs)=>match mH sh v.cells with
    |some vs=>bif Nat.ble (off+vs.length) cs.length&&Nat.blt 0 vs.length then some ⟨none,none,[],some (S.aA.set id (aS.cells (iF cs off vs))),none⟩ else none
    |none=>none
   |_=>none
  |_,_=>none
  else none
 |.app cj src oy sh mx x y=>match S.ev x,S.ev y with
  |some .cb,some b=>match S.iR oy sh b with
   |some ys=>bif Nat.ble ys.length mx then some ⟨some (.slice (some cj) sh.length ys),none,[(cj,ys.length)],none,none⟩ else none
   |none=>none
  |some (.dY _),some b=>match S.iR oy sh b with
   |some ys=>bif Nat.ble ys.length mx then some ⟨some (.slice (some cj) sh.length ys),none,[(cj,ys.length)],none,none⟩ else none
   |none=>none
  |some (.slice (some f) n es),some b=>match S.iR oy sh b with
   |some ys=>match (bif src==some f then look f S.bj else none) with
    |some k=>bif k==es.length&&(n==sh.length)&&Nat.ble (es.length+ys.length) mx then
      some ⟨some (.slice (some f) n (es++ys)),none,[(f,es.length+ys.length)],none,none⟩ else none
    |none=>none
   |none=>none
  |_,_=>none
 |.call false f args reg=>match S.ev f,nh S args with
  |some (.fn g cap),some vs=>match C g (vs++cap) S.aA with
   |some (r,G)=>some ⟨some (recv reg r).1,none,(recv reg r).2,some G,none⟩
   |none=>none
  |_,_=>none
 |.call true f args reg=>match S.ev f,ni S args with
  |some (.fn g []),some vs=>match C g vs [] with
   |some (r,_)=>bif r.lone then some ⟨some (recv reg r).1,none,(recv reg r).2,none,none⟩ else none
   |none=>none
  |_,_=>none
 |.sd f args=>match S.ev f,nh S args with
  |some (.fn g cap),some vs=>match C g (vs++cap) S.aA with
   |some (r,G)=>rd S.aA G (.val (recv [] r).1)
   |none=>none
  |_,_=>none
 |.wM k _ i x=>match S.ev x with
  |some (.bR id s n)=>match look i S.aW with
   |some cs=>bif id==i&&(s==1)&&Nat.ble n cs.length&&Nat.ble n lim&&Nat.blt 0 n then match yd (cs.take n) with
    |some zs=>some ⟨some (CC k i zs),some (i,(vn k zs).map (V.int .i64)++cs.drop n),[],none,none⟩
    |none=>none
    else none
   |none=>none
  |_=>none
 |.grow _ id n=>match S.ev n with
  |some (.int .i64 k)=>bif decide (0≤k)&&decide (k≤lim) then some ⟨some (.bR id 1 0),some (id,[]),[],none,none⟩ else none
  |_=>none
 |.vh x=>match S.ev x with
  |some v=>match Hb S.aA v.part with
   |some G=>some ⟨some (.tuple []),none,[],some G,none⟩
   |none=>none
  |none=>none
 |.vg id src x y=>match S.ev x,S.ev y with
  |some (.bR i s n),some b=>match look id S.aW,S.y9 src b with
   |some cs,some us=>bif i==id&&(s==1)&&Nat.ble n cs.length&&us.all V.sc then
     some ⟨some (.int .i64 (us.take n).length),some (id,us.take n++cs.drop (us.take n).length),[],none,none⟩ else none
   |_,_=>none
  |_,_=>none
 |.se f args ids=>match S.ev f,lK S ids args with
  |some (.fn g []),some vs=>match C g vs [] with
   |some (r,_)=>bif r.qk then some (.val r) else none
   |none=>none
  |_,_=>none
 |.own f args ids id pos=>match S.ev f,lK S ids args with
  |some (.fn g []),some vs=>match C g vs [] with
   |some (r,_)=>match kz id pos r with
    |some (v,some cs)=>some ⟨some v,some (id,cs),[],none,none⟩
    |some (v,none)=>some (.val v)
    |none=>none
   |none=>none
  |_,_=>none
 |.sf f args id=>match S.ev f,ni S args with
  |some (.fn g []),some vs=>match C g vs [] with
   |some (r,_)=>match kz id 0 r with
    |some (.bR i n ln,some cs)=>bif i==id&&Nat.blt 0 cs.length&&Nat.blt 0 ln&&cs.all V.sc then some ⟨some (.c5 S.aA.length n ln),none,[],some (S.aA++[aS.cells cs]),none⟩ else none
    |some (.dY n,none)=>some ⟨some (.c5 S.aA.length n 0),none,[],some (S.aA++[aS.cells []]),none⟩
    |_=>none
   |none=>none
  |_,_=>none
 |.ug id zero n=>match S.ev n with
  |some (.int _ k)=>bif decide (0≤k)&&decide (k≤lim) then
    some ⟨some (.bR id zero.length k.toNat),some (id,(List.replicate k.toNat zero).flatten),[],none,none⟩ else none
  |_=>none
 |.tj new src oy sh x y=>match S.ev x,S.ev y with
  |some .cb,some b=>match S.iR oy sh b with
   |some ys=>bif ys.isEmpty then some (.val .cb) else
     bif Nat.ble ys.length lim then some ⟨some (.bR new sh.length ys.length),some (new,ys.flatten),[],none,none⟩ else none
   |none=>none
  |some (.dY n),some b=>match S.iR oy sh b with
   |some ys=>bif ys.isEmpty then some (.val (.dY n)) else
     bif Nat.ble ys.length lim then some ⟨some (.bR new sh.length ys.length),some (new,ys.flatten),[],none,none⟩ else none
   |none=>none
  |some (.bR id s ln),some b=>match S.iR oy sh b,look src S.aW with
   |some ys,some cs=>bif (id==src)&&(s==sh.length)&&(cs.length==ln*s)&&Nat.ble (ln+ys.length) lim then
     some ⟨some (.bR new sh.length (ln+ys.length)),some (new,cs++ys.flatten),[],none,some src⟩ else
     bif oy.isNone&&(id==src)&&(s==sh.length)&&Nat.ble (ln*s) cs.length&&Nat.ble (ln+ys.length) lim then
     some ⟨some (.bR new sh.length (ln+ys.length)),some (new,cs.take (ln*s)++ys.flatten),[],none,some src⟩ else none
   |_,_=>none
  |_,_=>none
 |vo=>(vo.run C (some 0) { S with env:=S.env,aW:=[],bj:=[],aA:=[] }).bind fun S'=>match S'.env with
  |(_,v)::_=>some (.val v)
  |[]=>none
theorem PL(S:St)(x:bw):(St.mk S.env [] [] []).ev x=S.ev x:=by cases x<;>rfl
theorem ajg(S:St)(x:Option bw)(n:Nat):(St.mk S.env [] [] []).ka x n=S.ka x n:=by cases x<;>first|rfl|exact PL S _
theorem Xh(S:St):∀xs:List bw,pL (St.mk S.env [] [] []) xs=pL S xs
 |[]=>rfl
 |x::xs=>by simp only[pL,PL,Xh S xs]
theorem tD(S:St)(d:Option Nat)(v:V):(Out.val v).app d S=S.put d v:=by cases d<;>rfl
theorem zT{S S':St}(e:S'.env=S.env)(x:bw):S'.ev x=S.ev x:=by cases x<;>simp[St.ev,e]
theorem Xi{S S':St}(e:S'.env=S.env)(x:Option bw)(n:Nat):S'.ka x n=S.ka x n:=by cases x<;>first|rfl|exact zT e _
theorem Xj{S S':St}(e:S'.env=S.env):∀xs:List bw,pL S' xs=pL S xs
 |[]=>rfl
 |x::xs=>by simp only[pL,zT e,Xj e xs]
def VO.cB(S' S:St):VO→Prop
 |.uf x | .un _ x | .conv _ x | .ti _ x | .arr _ _ x | .field _ _ x | .len x | .vj x | .wK x | .wL _ x | .ext x _=>S'.ev x=S.ev x
 |.bin _ x y | .beq _ x y | .iE _ _ x y | .ov _ _ x y | .idx _ _ _ x y | .mm _ x y=>S'.ev x=S.ev x∧S'.ev y=S.ev y
 |.vl _ x y z=>S'.ev x=S.ev x∧S'.ev y=S.ev y∧S'.ev z=S.ev z
 |.wN _ x lo hi=>S'.ev x=S.ev x∧(∀n,S'.ka lo n=S.ka lo n)∧(∀n,S'.ka hi n=S.ka hi n)
 |.wO _ cap=>pL S' cap=pL S cap
 |_=>True
def PM(C:bD)(S:St)(vo:VO):Prop:=∃r:Option V,∀d S',VO.cB S' S vo→vo.run C d S'=r.map fun v=>S'.put d v
def VO.frame:VO→Bool
 |.y8 _ | .wL .. | .uf _ | .bin .. | .beq .. | .iE .. | .un .. | .conv .. | .ti .. | .arr .. | .ov .. | .idx .. | .field .. | .len _ | .vj _ | .wK _ | .ext .. | .wN .. | .mm .. | .vl .. | .wO .. => true
 |_=>false
theorem K9(C:bD)(S:St)(vo:VO)(h:vo.frame=true):vo.cI C S=(vo.run C (some 0) (St.mk S.env [] [] [])).bind fun S'=>match S'.env with
  |(_,v)::_=>some (.val v)
  |[]=>none:=by
 cases vo<;>first|rfl|cases h
set_option maxHeartbeats 1000000 in
theorem Xk(C:bD)(S:St)(vo:VO)(tz:vo.frame=true):PM C S vo:=by
 have no:(∀d S',VO.cB S' S vo→vo.run C d S'=none)→PM C S vo:=fun h=>⟨none,h⟩;have yes:∀v,(∀d S',VO.cB S' S vo→vo.run C d S'=some (S'.put d v))→PM C S vo:=fun v h=>⟨some v,h⟩;cases vo with
 |uf x =>
  cases hx:S.ev x with
  |none=>exact no fun d S' e=>by simp only[VO.cB]at e;simp[VO.run,e,hx]
  |some a=>cases a<;>first|(refine no fun d S' e=>?_;simp only[VO.cB]at e;simp[VO.run,e,hx];done)|(refine yes _ fun d S' e=>Eq.trans (by simp only[VO.cB]at e;simp only[VO.run,e,hx];exact rfl) rfl)
 |bin op x y =>
  cases hx:S.ev x with
  |none=>exact no fun d S' e=>by simp only[VO.cB]at e;simp[VO.run,e,hx]
  |some a =>
   cases hy:S.ev y with
   |none=>exact no fun d S' e=>by simp only[VO.cB]at e;simp[VO.run,e,hx,hy]
   |some b =>
    cases hz:V.bin op a b with
    |none=>exact no fun d S' e=>by simp only[VO.cB]at e;simp[VO.run,e,hx,hy,hz]
    |some v=>exact yes v fun d S' e=>by simp only[VO.cB]at e;simp[VO.run,e,hx,hy,hz]
 |iE neg ks x y =>
  cases hx:S.ev x with
  |none=>exact no fun d S' e=>by simp only[VO.cB]at e;simp[VO.run,e,hx]
  |some a =>
   cases hy:S.ev y with
   |none=>exact no fun d S' e=>by simp only[VO.cB]at e;simp[VO.run,e,hx,hy]
   |some b =>
    cases hz:V.iE neg ks a b with
    |none=>exact no fun d S' e=>by simp only[VO.cB]at e;simp[VO.run,e,hx,hy,hz]
    |some v=>exact yes v fun d S' e=>by simp only[VO.cB]at e;simp[VO.run,e,hx,hy,hz]
 |beq neg x y =>
  cases hx:S.ev x with
  |none=>exact no fun d S' e=>by simp only[VO.cB]at e;simp[VO.run,e,hx]
  |some a =>
   cases hy:S.ev y with
   |none=>exact no fun d S' e=>by simp only[VO.cB]at e;cases a<;>simp[VO.run,e,hx,hy]
   |some b=>cases a<;>cases b<;>first|(refine no fun d S' e=>?_;simp only[VO.cB]at e;simp[VO.run,e,hx,hy];done)|(refine yes _ fun d S' e=>Eq.trans (by simp only[VO.cB]at e;simp only[VO.run,e,hx,hy];exact rfl) rfl)
 |un op x =>
  cases hx:S.ev x with
  |none=>exact no fun d S' e=>by simp only[VO.cB]at e;simp[VO.run,e,hx]
  |some a =>
   cases hz:V.un op a with
   |none=>exact no fun d S' e=>by simp only[VO.cB]at e;simp[VO.run,e,hx,hz]
   |some v=>exact yes v fun d S' e=>by simp only[VO.cB]at e;simp[VO.run,e,hx,hz]
 |conv k x =>
  cases hx:S.ev x with
  |none=>exact no fun d S' e=>by simp only[VO.cB]at e;simp[VO.run,e,hx]
  |some a=>cases a<;>first|(refine no fun d S' e=>?_;simp only[VO.cB]at e;simp[VO.run,e,hx];done)|(refine yes _ fun d S' e=>Eq.trans (by simp only[VO.cB]at e;simp only[VO.run,e,hx];exact rfl) rfl)
 |arr n sz x =>
  cases hx:S.ev x with
  |none=>exact no fun d S' e=>by simp only[VO.cB]at e;simp[VO.run,e,hx]
  |some a =>
   cases a
   case bJ id off =>
    cases off with
    |zero=>exact yes _ fun d S' e=>by simp only[VO.cB]at e;simp[VO.run,e,hx];rfl
    |succ k=>exact no fun d S' e=>by simp only[VO.cB]at e;simp[VO.run,e,hx]
   all_goals exact no fun d S' e=>by simp only[VO.cB]at e;simp[VO.run,e,hx]
 |ti off x =>
  cases hx:S.ev x with
  |none=>exact no fun d S' e=>by simp only[VO.cB]at e;simp[VO.run,e,hx]
  |some a=>cases a<;>first|(refine no fun d S' e=>?_;simp only[VO.cB]at e;simp[VO.run,e,hx];done)|(refine yes _ fun d S' e=>Eq.trans (by simp only[VO.cB]at e;simp only[VO.run,e,hx];exact rfl) rfl)
 |ov arr sz x i =>
  cases hx:S.ev x with
  |none=>exact no fun d S' e=>by simp only[VO.cB]at e;cases arr<;>simp[VO.run,e,hx]
  |some a =>
   cases hy:S.ev i with
   |none=>exact no fun d S' e=>by simp only[VO.cB]at e;cases arr<;>cases a<;>simp[VO.run,e,hx,hy]
   |some b =>
    cases b with
    |int k m =>
     cases arr with
     |some n =>
      cases hc:(decide (0≤m)&&decide (m<(n:Int))) with
      |false=>exact no fun d S' e=>by simp only[VO.cB]at e;simp only[VO.run,e,hx,hy,hc,eD]
      |true=>cases a<;>first|(refine no fun d S' e=>?_;simp only[VO.cB]at e;simp only[VO.run,e,hx,hy,hc,bG];done)|(refine yes _ fun d S' e=>Eq.trans (by simp only[VO.cB]at e;simp only[VO.run,e,hx,hy,hc,bG];exact rfl) rfl)
     |none =>
      cases a with
      |slice tk n es =>
       cases hc:(decide (0≤m)&&(n==sz)) with
       |false=>exact no fun d S' e=>by simp only[VO.cB]at e;simp only[VO.run,e,hx,hy,hc,eD]
       |true =>
        cases he:es[m.toNat]? with
        |none=>exact no fun d S' e=>by simp only[VO.cB]at e;simp only[VO.run,e,hx,hy,hc,bG,he]
        |some r=>exact yes (.eP r 0) fun d S' e=>by simp only[VO.cB]at e;simp only[VO.run,e,hx,hy,hc,bG,he]
      |bR id off n =>
       cases hc:(decide (0≤m)&&decide (m<(n:Int))&&(off==sz)) with
       |false=>exact no fun d S' e=>by simp only[VO.cB]at e;simp only[VO.run,e,hx,hy,hc,eD]
       |true=>exact yes (.bJ id (m.toNat*sz)) fun d S' e=>by simp only[VO.cB]at e;simp only[VO.run,e,hx,hy,hc,bG]
      |c5 id off n =>
       cases hc:(decide (0≤m)&&decide (m<(n:Int))&&(off==sz)) with
       |false=>exact no fun d S' e=>by simp only[VO.cB]at e;simp only[VO.run,e,hx,hy,hc,eD]
       |true=>exact yes (.bm id (m.toNat*sz)) fun d S' e=>by simp only[VO.cB]at e;simp only[VO.run,e,hx,hy,hc,bG]
      |_=>exact no fun d S' e=>by simp only[VO.cB]at e;simp[VO.run,e,hx,hy]
    |_=>exact no fun d S' e=>by simp only[VO.cB]at e;cases arr<;>cases a<;>simp[VO.run,e,hx,hy]
 |idx n sz ag x i =>
  cases hx:S.ev x with
  |none=>exact no fun d S' e=>by simp only[VO.cB]at e;simp[VO.run,e,hx]
  |some a =>
   cases hy:S.ev i with
   |none=>exact no fun d S' e=>by simp only[VO.cB]at e;cases a<;>simp[VO.run,e,hx,hy]
   |some b =>
    cases b with
    |int k m =>
     cases a with
     |agg cs =>
      cases hc:(decide (0≤m)&&decide (m<(n:Int))) with
      |false=>exact no fun d S' e=>by simp only[VO.cB]at e;simp only[VO.run,e,hx,hy,hc,eD]
      |true =>
       cases hl:loadAt (bif ag then some sz else none) cs (m.toNat*sz) with
       |none=>exact no fun d S' e=>by simp only[VO.cB]at e;simp only[VO.run,e,hx,hy,hc,bG,hl]
       |some v=>exact yes v fun d S' e=>by simp only[VO.cB]at e;simp only[VO.run,e,hx,hy,hc,bG,hl]
     |_=>exact no fun d S' e=>by simp only[VO.cB]at e;simp[VO.run,e,hx,hy]
    |_=>exact no fun d S' e=>by simp only[VO.cB]at e;cases a<;>simp[VO.run,e,hx,hy]
 |field off sz x =>
  cases hx:S.ev x with
  |none=>exact no fun d S' e=>by simp only[VO.cB]at e;simp[VO.run,e,hx]
  |some a =>
   cases a with
   |agg cs =>
    cases hl:loadAt sz cs off with
    |none=>exact no fun d S' e=>by simp only[VO.cB]at e;simp only[VO.run,e,hx,hl]
    |some v=>exact yes v fun d S' e=>by simp only[VO.cB]at e;simp only[VO.run,e,hx,hl]
   |_=>exact no fun d S' e=>by simp only[VO.cB]at e;simp[VO.run,e,hx]
 |y8 n=>exact yes (.dY n) fun d S' e=>rfl
 |wL neg x =>
  cases hx:S.ev x with
  |none=>exact no fun d S' e=>by simp only[VO.cB]at e;simp[VO.run,e,hx]
  |some a =>
   cases a with
   |slice t n es=>cases es<;>first|(refine no fun d S' e=>?_;simp only[VO.cB]at e;simp[VO.run,e,hx];done)|(refine yes _ fun d S' e=>Eq.trans (by simp only[VO.cB]at e;simp only[VO.run,e,hx];exact rfl) rfl)
   |_=>first|(refine no fun d S' e=>?_;simp only[VO.cB]at e;simp[VO.run,e,hx];done)|(refine yes _ fun d S' e=>Eq.trans (by simp only[VO.cB]at e;simp only[VO.run,e,hx];exact rfl) rfl)
 |len x =>
  cases hx:S.ev x with
  |none=>exact no fun d S' e=>by simp only[VO.cB]at e;simp[VO.run,e,hx]
  |some a=>cases a<;>first|(refine no fun d S' e=>?_;simp only[VO.cB]at e;simp[VO.run,e,hx];done)|(refine yes _ fun d S' e=>Eq.trans (by simp only[VO.cB]at e;simp only[VO.run,e,hx];exact rfl) rfl)
 |wK x =>
  cases hx:S.ev x with
  |none=>exact no fun d S' e=>by simp only[VO.cB]at e;simp[VO.run,e,hx]
  |some a=>cases a<;>first|(refine no fun d S' e=>?_;simp only[VO.cB]at e;simp[VO.run,e,hx];done)|(refine yes _ fun d S' e=>Eq.trans (by simp only[VO.cB]at e;simp only[VO.run,e,hx];exact rfl) rfl)
 |vj x =>
  cases hx:S.ev x with
  |none=>exact no fun d S' e=>by simp only[VO.cB]at e;simp[VO.run,e,hx]
  |some a=>cases a<;>first|(refine no fun d S' e=>?_;simp only[VO.cB]at e;simp[VO.run,e,hx];done)|(refine yes _ fun d S' e=>Eq.trans (by simp only[VO.cB]at e;simp only[VO.run,e,hx];exact rfl) rfl)
 |ext x i =>
  cases hx:S.ev x with
  |none=>exact no fun d S' e=>by simp only[VO.cB]at e;simp[VO.run,e,hx]
  |some a =>
   cases a with
   |tuple vs =>
    cases hl:vs[i]? with
    |none=>exact no fun d S' e=>by simp only[VO.cB]at e;simp only[VO.run,e,hx,hl]
    |some v=>exact yes v fun d S' e=>by simp only[VO.cB]at e;simp only[VO.run,e,hx,hl]
   |_=>exact no fun d S' e=>by simp only[VO.cB]at e;simp[VO.run,e,hx]
 |wN sz x lo hi =>
  cases hx:S.ev x with
  |none=>exact no fun d S' e=>by simp only[VO.cB]at e;simp[VO.run,e,hx]
  |some a =>
   cases a with
   |slice tk m es =>
    cases hl:S.ka lo 0 with
    |none=>exact no fun d S' e=>by simp only[VO.cB]at e;simp[VO.run,e,hx,hl]
    |some p =>
     cases hh:S.ka hi es.length with
     |none=>exact no fun d S' e=>by simp only[VO.cB]at e;cases p<;>simp[VO.run,e,hx,hl,hh]
     |some q =>
      cases p with
      |int k1 l =>
       cases q with
       |int k2 h =>
        cases hc:(decide (0≤l)&&decide (l≤h)&&decide (h≤(es.length:Int))&&(m==sz)) with
        |false=>exact no fun d S' e=>by simp only[VO.cB]at e;simp only[VO.run,e,hx,hl,hh,hc,eD]
        |true=>exact yes (.slice none sz ((es.take h.toNat).drop l.toNat)) fun d S' e=>by simp only[VO.cB]at e;simp only[VO.run,e,hx,hl,hh,hc,bG]
       |_=>exact no fun d S' e=>by simp only[VO.cB]at e;simp[VO.run,e,hx,hl,hh]
      |_=>exact no fun d S' e=>by simp only[VO.cB]at e;simp[VO.run,e,hx,hl,hh]
   |cb =>
    cases hl:S.ka lo 0 with
    |none=>exact no fun d S' e=>by simp only[VO.cB]at e;simp[VO.run,e,hx,hl]
    |some p =>
     cases hh:S.ka hi 0 with
     |none=>exact no fun d S' e=>by simp only[VO.cB]at e;cases p<;>simp[VO.run,e,hx,hl,hh]
     |some q =>
      cases p with
      |int k1 l =>
       cases q with
       |int k2 h =>
        cases hc:(decide (l=0)&&decide (h=0)) with
        |false=>exact no fun d S' e=>by simp only[VO.cB]at e;simp only[VO.run,e,hx,hl,hh,hc,eD]
        |true=>exact yes .cb fun d S' e=>by simp only[VO.cB]at e;simp only[VO.run,e,hx,hl,hh,hc,bG]
       |_=>exact no fun d S' e=>by simp only[VO.cB]at e;simp[VO.run,e,hx,hl,hh]
      |_=>exact no fun d S' e=>by simp only[VO.cB]at e;simp[VO.run,e,hx,hl,hh]
   |bR id s n =>
    cases hl:S.ka lo 0 with
    |none=>exact no fun d S' e=>by simp only[VO.cB]at e;simp[VO.run,e,hx,hl]
    |some p =>
     cases hh:S.ka hi n with
     |none=>exact no fun d S' e=>by simp only[VO.cB]at e;cases p<;>simp[VO.run,e,hx,hl,hh]
     |some q =>
      cases p with
      |int k1 l =>
       cases q with
       |int k2 h =>
        cases hc:(decide (0≤l)&&decide (l≤h)&&decide (h≤(n:Int))&&(s==sz)) with
        |false=>exact no fun d S' e=>by simp only[VO.cB]at e;simp only[VO.run,e,hx,hl,hh,hc,eD]
        |true =>
         cases h1:decide (l=0) with
         |true=>exact yes (.bR id s h.toNat) fun d S' e=>by simp only[VO.cB]at e;simp only[VO.run,e,hx,hl,hh,hc,h1,bG]
         |false =>
          cases h2:decide (l<(n:Int)) with
          |true=>exact yes (.fp id s l.toNat (h-l).toNat) fun d S' e=>by simp only[VO.cB]at e;simp only[VO.run,e,hx,hl,hh,hc,h1,h2,bG,eD]
          |false=>exact yes (.slice none s []) fun d S' e=>by simp only[VO.cB]at e;simp only[VO.run,e,hx,hl,hh,hc,h1,h2,bG,eD]
       |_=>exact no fun d S' e=>by simp only[VO.cB]at e;simp[VO.run,e,hx,hl,hh]
      |_=>exact no fun d S' e=>by simp only[VO.cB]at e;simp[VO.run,e,hx,hl,hh]
   |c5 id s n =>
    cases hl:S.ka lo 0 with
    |none=>exact no fun d S' e=>by simp only[VO.cB]at e;simp[VO.run,e,hx,hl]
    |some p =>
     cases hh:S.ka hi n with
     |none=>exact no fun d S' e=>by simp only[VO.cB]at e;cases p<;>simp[VO.run,e,hx,hl,hh]
     |some q =>
      cases p with
      |int k1 l =>
       cases q with
       |int k2 h =>
        cases hc:(decide (0≤l)&&decide (l≤h)&&decide (h≤(n:Int))&&(s==sz)) with
        |false=>exact no fun d S' e=>by simp only[VO.cB]at e;simp only[VO.run,e,hx,hl,hh,hc,eD]
        |true =>
         cases h1:decide (l=0) with
         |true=>exact yes (.c5 id s h.toNat) fun d S' e=>by simp only[VO.cB]at e;simp only[VO.run,e,hx,hl,hh,hc,h1,bG]
         |false =>
          cases h2:decide (l<(n:Int)) with
          |true=>exact yes (.g9 id s l.toNat (h-l).toNat) fun d S' e=>by simp only[VO.cB]at e;simp only[VO.run,e,hx,hl,hh,hc,h1,h2,bG,eD]
          |false=>exact no fun d S' e=>by simp only[VO.cB]at e;simp only[VO.run,e,hx,hl,hh,hc,h1,h2,bG,eD]
       |_=>exact no fun d S' e=>by simp only[VO.cB]at e;simp[VO.run,e,hx,hl,hh]
      |_=>exact no fun d S' e=>by simp only[VO.cB]at e;simp[VO.run,e,hx,hl,hh]
   |_=>exact no fun d S' e=>by simp only[VO.cB]at e;simp[VO.run,e,hx]
 |vl mx x y z =>
  cases hx:S.ev x with
  |none=>exact no fun d S' e=>by simp only[VO.cB]at e;simp[VO.run,e,hx]
  |some a =>
   cases hy:S.ev y with
   |none=>exact no fun d S' e=>by simp only[VO.cB]at e;cases a<;>simp[VO.run,e,hx,hy]
   |some b =>
    cases hz:S.ev z with
    |none=>exact no fun d S' e=>by simp only[VO.cB]at e;cases a<;>cases b<;>simp[VO.run,e,hx,hy,hz]
    |some c =>
     cases a with
     |int k1 a=>cases b with
      |int k2 b=>cases c with
       |int k3 c=>exact yes _ fun d S' e=>Eq.trans (by simp only[VO.cB]at e;simp only[VO.run,e,hx,hy,hz];exact rfl) rfl
       |_=>exact no fun d S' e=>by simp only[VO.cB]at e;simp[VO.run,e,hx,hy,hz]
      |_=>exact no fun d S' e=>by simp only[VO.cB]at e;simp[VO.run,e,hx,hy,hz]
     |_=>exact no fun d S' e=>by simp only[VO.cB]at e;simp[VO.run,e,hx,hy,hz]
 |mm mx x y =>
  cases hx:S.ev x with
  |none=>exact no fun d S' e=>by simp only[VO.cB]at e;simp[VO.run,e,hx]
  |some a =>
   cases hy:S.ev y with
   |none=>exact no fun d S' e=>by simp only[VO.cB]at e;cases a<;>simp[VO.run,e,hx,hy]
   |some b=>cases a<;>cases b<;>first|(refine no fun d S' e=>?_;simp only[VO.cB]at e;simp[VO.run,e,hx,hy];done)|(refine yes _ fun d S' e=>Eq.trans (by simp only[VO.cB]at e;simp only[VO.run,e,hx,hy];exact rfl) rfl)
 |wO f cap =>
  cases hx:pL S cap with
  |none=>exact no fun d S' e=>by simp only[VO.cB]at e;simp[VO.run,e,hx]
  |some vs =>
   cases hg:CA vs with
   |none=>exact no fun d S' e=>by simp only[VO.cB]at e;simp only[VO.run,e,hx,hg]
   |some us=>exact yes (.fn f us) fun d S' e=>by simp only[VO.cB]at e;simp only[VO.run,e,hx,hg]
 |_=>cases tz
theorem pg{α β:Type}(c:Bool)(x y:Option α)(f:α→β):(bif c then x else y).map f=bif c then x.map f else y.map f:=by cases c<;>rfl
theorem PN{S S':St}(e:S'.env=S.env)(vo:VO):VO.cB S' S vo:=by
 cases vo<;>first
  |trivial
  |exact zT e _
  |exact⟨zT e _,zT e _⟩
  |exact⟨zT e _,zT e _,zT e _⟩
  |exact⟨zT e _,fun n=>Xi e _ n,fun n=>Xi e _ n⟩
  |exact Xj e _
theorem ajh(C:bD)(d:Option Nat)(S:St)(vo:VO)(h:vo.frame=true):vo.run C d S=(vo.cI C S).map fun u=>u.app d S:=by
 obtain⟨r,hr⟩:=Xk C S vo h;rw[K9 C S vo h,hr d S (PN (S':=S) rfl vo),hr (some 0) (St.mk S.env [] [] []) (PN (by rfl) vo)]
 cases r<;>simp[tD,St.put]
theorem Xl(C:bD)(d:Option Nat)(S:St)(vo:VO):vo.run C d S=(vo.cI C S).map fun u=>u.app d S:=by
 cases vo with
 |mv x=>simp only[VO.run,VO.cI];cases S.ev x<;>simp[tD]
 |pick c a b =>
  simp only[VO.run,VO.cI];cases S.ev c with
  |none=>rfl
  |some v =>
   cases v<;>try rfl
   rename_i t;cases t<;>simp only[bG,eD]
   ·cases S.ev b<;>simp[tD]
   ·cases S.ev a<;>simp[tD]
 |obj id cells=>rfl
 |box id x =>
  simp only[VO.run,VO.cI];cases S.ev x with
  |none=>rfl
  |some v=>simp only[pg];cases v.cells.all V.cL<;>rfl
 |u7 sh x =>
  simp only[VO.run,VO.cI];cases S.ev x with
  |none=>rfl
  |some v=>simp only;cases mH sh v.cells<;>rfl
 |u9 sh zero=>simp only[VO.run,VO.cI];cases mH sh zero<;>rfl
 |vb=>rfl
 |wJ ag ks zero ok x k =>
  simp only[VO.run,VO.cI];split
  ·split
   ·split<;>simp_all[tD]
   ·simp_all
  ·simp_all
 |vd ag ks sh x k y =>
  simp only[VO.run,VO.cI];split
  ·split
   ·split<;>simp_all[Out.app,Out.aW]
   ·simp_all
  ·simp_all
 |build zero parts=>simp only[VO.run,VO.cI];cases sn S parts zero<;>simp[tD]
 |lit tok sh zero ln parts =>
  simp only[VO.run,VO.cI];cases vm S sh parts (List.replicate ln zero) with
  |none=>rfl
  |some rs=>cases tok<;>simp[tD]<;>rfl
 |load root sz p =>
  simp only[VO.run,VO.cI];cases S.ev p with
  |none=>rfl
  |some a =>
   simp only[pg];cases root.fits a
   ·rfl
   ·simp only[bG]
    cases S.nJ a with
    |none=>rfl
    |some q =>
     obtain⟨cs,off⟩:=q;simp only;cases loadAt sz cs off<;>simp[tD]
 |se f args ids =>
  simp only[VO.run,VO.cI];cases S.ev f with
  |none=>rfl
  |some a =>
   cases a<;>try rfl
   rename_i g cap;cases cap with
   |cons _ _=>rfl
   |nil =>
    cases lK S ids args with
    |none=>rfl
    |some vs =>
     simp only;cases C g vs [] with
     |none=>rfl
     |some q =>
      obtain⟨r,G⟩:=q;simp only[pg];cases r.qk<;>simp[tD]
 |tg cj p =>
  simp only[VO.run,VO.cI];cases S.ev p with
  |none=>rfl
  |some a =>
   simp only;cases S.take cj a with
   |none=>rfl
   |some q=>rfl
 |vi cj p x =>
  simp only[VO.run,VO.cI];cases S.ev p with
  |none=>rfl
  |some a =>
   cases S.ev x with
   |none=>rfl
   |some v =>
    simp only;cases S.xZ cj a v with
    |none=>rfl
    |some q=>rfl
 |store root sh p x =>
  simp only[VO.run,VO.cI];simp only[pg];cases S.fits root p
  ·rfl
  ·simp only[bG]
   cases S.ev p with
   |none=>rfl
   |some a =>
    cases S.ev x with
    |none=>cases a<;>rfl
    |some v =>
     cases a<;>try rfl
     ·rename_i id off
      simp only;cases look id S.aW with
      |none=>rfl
      |some cs=>simp only[pg];rfl
     ·rename_i id off
      simp only;cases S.aA[id]? with
      |none=>rfl
      |some o =>
       cases o with
       |map es=>rfl
       |cells cs =>
        simp only;cases mH sh v.cells with
        |none=>rfl
        |some vs=>simp only[pg];rfl
 |app cj src oy sh mx x y =>
  simp only[VO.run,VO.cI];cases S.ev x with
  |none=>rfl
  |some a =>
   cases S.ev y with
   |none =>
    cases a<;>try rfl
    rename_i tok n es;cases tok<;>rfl
   |some b =>
    cases a<;>try rfl
    ·simp only
     cases S.iR oy sh b with
     |none=>rfl
     |some ys=>simp only[pg];rfl
    ·rename_i tok n es
     cases tok with
     |none=>rfl
     |some f =>
      simp only;cases S.iR oy sh b with
      |none=>rfl
      |some ys =>
       simp only;cases (bif src==some f then look f S.bj else none) with
       |none=>rfl
       |some k=>simp only[pg];rfl
    ·simp only
     cases S.iR oy sh b with
     |none=>rfl
     |some ys=>simp only[pg];rfl
 |tj nw src oy sh x y =>
  simp only[VO.run,VO.cI];cases S.ev x with
  |none=>rfl
  |some a =>
   cases S.ev y with
   |none=>cases a<;>rfl
   |some b =>
    cases a<;>try rfl
    ·simp only
     cases S.iR oy sh b with
     |none=>rfl
     |some ys =>
      simp only[pg];cases ys.isEmpty<;>simp[tD]<;>rfl
    ·simp only
     cases S.iR oy sh b with
     |none=>rfl
     |some ys =>
      simp only[pg];cases ys.isEmpty<;>simp[tD]<;>rfl
    ·simp only
     cases S.iR oy sh b with
     |none=>rfl
     |some ys =>
      cases look src S.aW with
      |none=>rfl
      |some cs=>simp only[pg];rfl
 |call alone f args reg =>
  cases alone
  ·simp only[VO.run,VO.cI]
   cases S.ev f with
   |none=>rfl
   |some a =>
    cases a<;>try rfl
    rename_i g cap;cases nh S args with
    |none=>rfl
    |some vs =>
     simp only;cases C g (vs++cap) S.aA with
     |none=>rfl
     |some q=>rfl
  ·simp only[VO.run,VO.cI]
   cases S.ev f with
   |none=>rfl
   |some a =>
    cases a<;>try rfl
    rename_i g cap;cases ni S args with
    |none=>cases cap<;>rfl
    |some vs =>
     cases cap with
     |cons _ _=>rfl
     |nil =>
      simp only;cases C g vs [] with
      |none=>rfl
      |some q=>simp only[pg];rfl
 |sd f args =>
  simp only[VO.run,VO.cI];cases S.ev f with
  |none=>rfl
  |some a =>
   cases a<;>try rfl
   rename_i g cap;cases nh S args with
   |none=>rfl
   |some vs =>
    simp only;cases C g (vs++cap) S.aA with
    |none=>rfl
    |some q =>
     simp only[rd];split<;>simp[tD]
 |own f args ids id pos =>
  simp only[VO.run,VO.cI];cases S.ev f with
  |none=>rfl
  |some a =>
   cases a<;>try rfl
   rename_i g cap;cases lK S ids args with
   |none=>cases cap<;>rfl
   |some vs =>
    cases cap with
    |cons _ _=>rfl
    |nil =>
     simp only;cases C g vs [] with
     |none=>rfl
     |some q =>
      simp only;cases kz id pos q.1 with
      |none=>rfl
      |some p =>
       obtain⟨v,o⟩:=p;cases o with
       |none=>simp[tD]
       |some cs=>rfl
 |sf f args id =>
  simp only[VO.run,VO.cI];cases S.ev f with
  |none=>rfl
  |some a =>
   cases ni S args with
   |none=>cases a<;>try rfl
          rename_i g cap;cases cap<;>rfl
   |some vs =>
    cases a<;>try rfl
    rename_i g cap;cases cap with
    |cons _ _=>rfl
    |nil =>
     simp only;cases C g vs [] with
     |none=>rfl
     |some q =>
      simp only;cases kz id 0 q.1 with
      |none=>rfl
      |some p =>
       obtain⟨v,o⟩:=p;cases o with
       |none=>cases v<;>rfl
       |some cs=>cases v<;>try rfl
                 simp only[pg];rfl
 |vh x =>
  simp only[VO.run,VO.cI];cases S.ev x with
  |none=>rfl
  |some a =>
   simp only;cases Hb S.aA a.part<;>rfl
 |wM k f i x =>
  simp only[VO.run,VO.cI,St.mut];cases S.ev x with
  |none=>rfl
  |some a =>
   cases a<;>try rfl
   simp only;cases look i S.aW with
   |none=>rfl
   |some cs =>
    simp only[pg];congr 1;generalize yd _=z;cases z<;>rfl
 |ug id zero n =>
  simp only[VO.run,VO.cI];cases S.ev n with
  |none=>rfl
  |some a =>
   cases a<;>try rfl
   simp only[pg];rfl
 |grow f id n =>
  simp only[VO.run,VO.cI];cases S.ev n with
  |none=>rfl
  |some a =>
   cases a<;>try rfl
   rename_i k _;cases k<;>try rfl
   simp only[pg];rfl
 |vg id src x y =>
  simp only[VO.run,VO.cI];cases S.ev x with
  |none=>rfl
  |some a =>
   cases S.ev y with
   |none=>cases a<;>rfl
   |some b =>
    cases a<;>try rfl
    simp only;cases look id S.aW with
    |none=>rfl
    |some cs =>
     cases S.y9 src b with
     |none=>rfl
     |some us=>simp only[pg];rfl
 |_=>exact ajh C d S _ rfl
def bw.keys:bw→List Key
 |.t s=>[.e s]
 |.c _=>[]
def jC.keys:jC→List Key
 |.loc id=>[.o id]
 |.aA=>[.g]
 |.kb=>[]
def La:Option bw→List Key
 |some o=>o.keys
 |none=>[]
def Lc:Option Nat→List Key
 |some f=>[.t f]
 |none=>[]
def EY:Option Nat→List Key
 |some j=>[.o j]
 |none=>[]
def VO.rd:VO→List Key
 |.grow _ _ x | .wK x=>x.keys
 |.vg id src x y=>.o id::(EY src++x.keys++y.keys)
 |.vh x=>.g::x.keys
 |.wM _ _ id x=>.o id::x.keys
 |.y8 _=>[]
 |.wL _ x=>x.keys
 |.tg _ x=>.g::x.keys
 |.vi f x y=>.g::.t f::(x.keys++y.keys)
 |.mv x | .box _ x | .uf x | .un _ x | .conv _ x | .ti _ x | .arr _ _ x | .field _ _ x | .len x | .vj x | .ext x _ | .ug _ _ x=>x.keys
 |.pick a b c=>a.keys++b.keys++c.keys
 |.obj _ _=>[]
 |.u7 _ x=>.g::x.keys
 |.u9 _ _ | .vb=>[.g]
 |.wJ _ _ _ _ x k=>.g::(x.keys++k.keys)
 |.vd _ _ _ x k y=>.g::(x.keys++k.keys++y.keys)
 |.build _ ps=>ps.flatMap fun p=>p.2.2.keys
 |.lit _ _ _ _ ps=>ps.flatMap fun p=>p.2.keys
 |.load root _ x=>root.keys++x.keys
 |.store root _ x y=>root.keys++x.keys++y.keys
 |.bin _ x y | .beq _ x y | .iE _ _ x y | .ov _ _ x y | .idx _ _ _ x y | .mm _ x y=>x.keys++y.keys
 |.vl _ x y z=>x.keys++y.keys++z.keys
 |.app _ src oy _ _ x y=>Lc src++(EY oy++x.keys++y.keys)
 |.tj _ src oy _ x y=>.o src::(EY oy++x.keys++y.keys)
 |.call alone f args _=>(bif alone then [] else [.g])++f.keys++args.flatMap fun p=>p.2.keys
 |.own f args ids _ _=>ids.map Key.o++(f.keys++args.flatMap fun p=>p.2.2.keys)
 |.sf f args _=>.g::(f.keys++args.flatMap fun p=>p.2.keys)
 |.se f args ids=>ids.map Key.o++(f.keys++args.flatMap fun p=>p.2.2.keys)
 |.sd f args=>.g::(f.keys++args.flatMap fun p=>p.2.keys)
 |.wN _ x lo hi=>x.keys++La lo++La hi
 |.wO _ cap=>cap.flatMap bw.keys
def VO.wr:VO→List Key
 |.obj id _ | .box id _ | .ug id _ _ | .grow _ id _ | .vg id _ _ _=>[.o id]
 |.u7 _ _ | .u9 _ _ | .vb | .vd .. | .sf .. | .vh _=>[.g]
 |.lit (some f) _ _ _ _=>[.t f]
 |.store (.loc id) _ _ _=>[.o id]
 |.store _ _ _ _=>[.g]
 |.app f src _ _ _ _ _=>.t f::Lc src
 |.tg f _ | .vi f _ _=>[.g,.t f]
 |.tj nw src _ _ _ _=>[.o nw,.o src]
 |.call alone _ _ reg=>(bif alone then [] else [.g])++(CT reg).map .t
 |.own _ _ _ id _=>[.o id]
 |.wM _ _ id _=>[.o id]
 |_=>[]
def bH.rd(o:bH):List Key:=(match o.guard with|some (s,_)=>[.e s] | none=>[])++o.op.rd
def bH.wr(o:bH):List Key:=(match o.dst with|some d=>[.e d] | none=>[])++o.op.wr
def fP(S S':St)(K:List Key):Prop:=∀k∈K,same S S' k
section
variable {S S':St} {C:bD}
theorem ed{x:bw}(h:fP S S' x.keys):S.ev x=S'.ev x:=by
 cases x with
 |t s=>exact h (.e s) (by simp[bw.keys])
 |c v=>rfl
theorem fP.left{K L:List Key}(h:fP S S' (K++L)):fP S S' K:=fun k hk=>h k (Cl _ hk)
theorem fP.right{K L:List Key}(h:fP S S' (K++L)):fP S S' L:=fun k hk=>h k (GY _ hk)
theorem Xm:∀{xs:List bw},fP S S' (xs.flatMap bw.keys)→pL S xs=pL S' xs
 |[],_=>rfl
 |x::xs,h=>by
  rw[Cj]at h;simp only[pL,ed h.left,Xm h.right]
theorem Xn:∀{ps:List (Nat×Nat×bw)} {cs:List V},fP S S' (ps.flatMap fun p=>p.2.2.keys)→sn S ps cs=sn S' ps cs
 |[],_,_=>rfl
 |(off,n,x)::ps,cs,h=>by
  rw[Cj]at h;simp only[sn,ed (x:=x) h.left];split
  ·rw[Xn h.right]
  ·rfl
theorem Xo{sh:Sh}:∀{ps:List (Nat×bw)} {rs:List (List V)},fP S S' (ps.flatMap fun p=>p.2.keys)→vm S sh ps rs=vm S' sh ps rs
 |[],_,_=>rfl
 |(i,x)::ps,rs,h=>by
  rw[Cj]at h;simp only[vm,ed (x:=x) h.left];split
  ·split
   ·rw[Xo h.right]
   ·rfl
  ·rfl
theorem PO:∀{ps:List (Sh×bw)},fP S S' (ps.flatMap fun p=>p.2.keys)→nh S ps=nh S' ps
 |[],_=>rfl
 |(sh,x)::ps,h=>by
  rw[Cj]at h;simp only[nh,ed (x:=x) h.left,PO h.right]
theorem PQ:∀{ps:List (Sh×bw)},fP S S' (ps.flatMap fun p=>p.2.keys)→ni S ps=ni S' ps
 |[],_=>rfl
 |(sh,x)::ps,h=>by
  rw[Cj]at h;simp only[ni,ed (x:=x) h.left,PQ h.right]
theorem Xp{sh:Sh}{v:V}:S.rows sh v=S'.rows sh v:=by
 unfold St.rows;split<;>rfl
theorem Xq{oy:Option Nat}{sh:Sh}{v:V}(h:∀j,oy=some j→look j S.aW=look j S'.aW):S.iR oy sh v=S'.iR oy sh v:=by
 unfold St.iR;cases oy with
 |none=>exact Xp
 |some j =>
  cases v<;>try exact Xp
  rename_i i s n;by_cases e:i=j
  ·subst e
   simp only[St.sk,h i rfl]
  ·have:(i==j)=false:=by simpa using e
   simp only[this,eD]
  rename_i i s off n;by_cases e:i=j
  ·subst e
   simp only[St.KH,h i rfl]
  ·have:(i==j)=false:=by simpa using e
   simp only[this,eD]
theorem aji{vo:VO}(h:fP S S' vo.rd):VO.cB S' S vo:=by
 cases vo with
 |uf x=>exact(ed h).symm
 |un op x=>exact(ed h).symm
 |conv k x=>exact(ed h).symm
 |ti off x=>exact(ed h).symm
 |arr n sz x=>exact(ed h).symm
 |field off sz x=>exact(ed h).symm
 |wL neg x=>exact(ed h).symm
 |len x=>exact(ed h).symm
 |vj x=>exact(ed h).symm
 |wK x=>exact(ed h).symm
 |ext x i=>exact(ed h).symm
 |bin op x y=>exact⟨(ed h.left).symm,(ed h.right).symm⟩
 |beq neg x y=>exact⟨(ed h.left).symm,(ed h.right).symm⟩
 |iE neg ks x y=>exact⟨(ed h.left).symm,(ed h.right).symm⟩
 |ov arr sz x y=>exact⟨(ed h.left).symm,(ed h.right).symm⟩
 |idx n sz ag x y=>exact⟨(ed h.left).symm,(ed h.right).symm⟩
 |mm mx x y=>exact⟨(ed h.left).symm,(ed h.right).symm⟩
 |vl mx x y z =>
  have h1:fP S S' (x.keys++y.keys++z.keys):=h;exact⟨(ed h1.left.left).symm,(ed h1.left.right).symm,(ed h1.right).symm⟩
 |wN sz x lo hi =>
  have h1:fP S S' (x.keys++La lo++La hi):=h;refine⟨(ed h1.left.left).symm,fun n=>?_,fun n=>?_⟩
  ·cases lo with
   |none=>rfl
   |some o=>exact(ed h1.left.right).symm
  ·cases hi with
   |none=>rfl
   |some o=>exact(ed h1.right).symm
 |wO f cap=>exact(Xm h).symm
 |_=>trivial
theorem ajj{vo:VO}(tz:vo.frame=true)(h:fP S S' vo.rd):vo.cI C S=vo.cI C S':=by
 obtain⟨r,hr⟩:=Xk C S vo tz;rw[K9 C S vo tz,K9 C S' vo tz,hr (some 0) _ (PN (by rfl) vo)]
 have h1:=aji h;have h2:VO.cB (St.mk S'.env [] [] []) S vo:=by
  cases vo<;>simp only[VO.cB,PL,ajg,Xh]at h1 ⊢ <;> exact h1
 rw[hr (some 0) _ h2];cases r<;>rfl
theorem ajk{root:jC}{a:V}(hf:root.fits a=true)(h:fP S S' root.keys):S.nJ a=S'.nJ a:=by
 cases root with
 |loc i =>
  cases a<;>simp[jC.fits]at hf;rename_i id off;subst hf;have:look i S.aW=look i S'.aW:=h (.o i) (by simp[jC.keys])
  simp only[St.nJ,this]
 |aA =>
  cases a<;>simp[jC.fits]at hf;have:S.aA=S'.aA:=h .g (by simp[jC.keys])
  simp only[St.nJ,this]
 |kb =>
  cases a<;>simp[jC.fits]at hf;rfl
theorem PR{ids:List Nat}(ho:∀id∈ids,look id S.aW=look id S'.aW):∀{ps:List (Sh×Sh×bw)},fP S S' (ps.flatMap fun p=>p.2.2.keys)→lK S ids ps=lK S' ids ps
 |[],_=>rfl
 |(rs,sh,x)::ps,h=>by
  rw[Cj]at h;have h1:S.ev x=S'.ev x:=ed h.left;have h2:=PR ho (ps:=ps) h.right;have h3:∀id s n,S.Cz ids rs id s n=S'.Cz ids rs id s n:=fun id s n=>by
   unfold St.Cz;cases hc:ids.contains id with
   |false=>rfl
   |true=>simp only[bG,St.sk,ho id (by simpa using hc)]
  have h4:∀id s off n,S.A4 ids rs id s off n=S'.A4 ids rs id s off n:=fun id s off n=>by
   unfold St.A4;cases hc:ids.contains id with
   |false=>rfl
   |true=>simp only[bG,ho id (by simpa using hc)]
  simp only[lK,h1,h2];cases S'.ev x with
  |none=>rfl
  |some v =>
   cases v<;>try rfl
   ·rename_i id s n
    simp only[h3 id s n]
   ·rename_i id s off n
    simp only[h4 id s off n]
theorem Xr{vo:VO}(h:fP S S' vo.rd):vo.cI C S=vo.cI C S':=by
 cases vo with
 |mv x=>simp only[VO.cI,ed (x:=x) h]
 |pick c a b =>
  have h1:fP S S' (c.keys++a.keys++b.keys):=h;simp only[VO.cI,ed (x:=c) h1.left.left,ed (x:=a) h1.left.right,ed (x:=b) h1.right]
 |obj id cells=>rfl
 |box id x=>simp only[VO.cI,ed (x:=x) h]
 |u7 sh x =>
  have hg:S.aA=S'.aA:=h .g (by simp[VO.rd])
  have hx:fP S S' x.keys:=fun k hk=>h k (by simp[VO.rd,hk])
  simp only[VO.cI,ed hx,hg]
 |u9 sh zero =>
  have hg:S.aA=S'.aA:=h .g (by simp[VO.rd])
  simp only[VO.cI,hg]
 |vb =>
  have hg:S.aA=S'.aA:=h .g (by simp[VO.rd])
  simp only[VO.cI,hg]
 |wJ ag ks zero ok x k =>
  have hg:S.aA=S'.aA:=h .g (by simp[VO.rd])
  have hx:fP S S' x.keys:=fun k hk=>h k (by simp[VO.rd,hk])
  have hk:fP S S' k.keys:=fun k hk=>h k (by simp[VO.rd,hk])
  simp only[VO.cI,ed hx,ed hk,hg]
 |vd ag ks sh x k y =>
  have hg:S.aA=S'.aA:=h .g (by simp[VO.rd])
  have hx:fP S S' x.keys:=fun k hk=>h k (by simp[VO.rd,hk])
  have hk:fP S S' k.keys:=fun k hk=>h k (by simp[VO.rd,hk])
  have hy:fP S S' y.keys:=fun k hk=>h k (by simp[VO.rd,hk])
  simp only[VO.cI,ed hx,ed hk,ed hy,hg]
 |build zero ps=>simp only[VO.cI,Xn (ps:=ps) h]
 |lit tok sh zero ln ps=>simp only[VO.cI,Xo (ps:=ps) h]
 |load root sz x =>
  have h1:fP S S' (root.keys++x.keys):=h;simp only[VO.cI,ed (x:=x) h1.right];cases S'.ev x with
  |none=>rfl
  |some a =>
   simp only;cases hf:root.fits a with
   |false=>rfl
   |true=>simp only[bG,ajk hf h1.left]
 |se f args ids =>
  have h1:fP S S' (ids.map Key.o++(f.keys++args.flatMap fun p=>p.2.2.keys)):=h;have h2:∀id∈ids,look id S.aW=look id S'.aW:=fun id hi=>h1 (.o id) (Cl _ (kP.2 ⟨id,hi,rfl⟩));simp only[VO.cI,ed (x:=f) h1.right.left,PR h2 (ps:=args) h1.right.right]
 |tg cj x =>
  have hg:S.aA=S'.aA:=h .g (by simp[VO.rd])
  have hx:fP S S' x.keys:=fun k hk=>h k (by simp[VO.rd,hk])
  have ht:∀a,S.take cj a=S'.take cj a:=fun a=>by cases a<;>simp only[St.take,hg]
  simp only[VO.cI,ed hx,ht]
 |vi cj x y =>
  have hg:S.aA=S'.aA:=h .g (by simp[VO.rd])
  have hf:look cj S.bj=look cj S'.bj:=h (.t cj) (by simp[VO.rd])
  have hx:fP S S' x.keys:=fun k hk=>h k (by simp[VO.rd,hk])
  have hy:fP S S' y.keys:=fun k hk=>h k (by simp[VO.rd,hk])
  have ht:∀a b,S.xZ cj a b=S'.xZ cj a b:=fun a b=>by
   unfold St.xZ;split<;>first|rfl|simp only[hg,hf]
  simp only[VO.cI,ed hx,ed hy,ht]
 |store root sh x y =>
  have h1:fP S S' (root.keys++x.keys++y.keys):=h;have hx:=ed (x:=x) h1.left.right;have hy:=ed (x:=y) h1.right;have fC:S.fits root x=S'.fits root x:=by simp only[St.fits,hx]
  simp only[VO.cI,fC,hx,hy];cases hf:S'.fits root x with
  |false=>rfl
  |true =>
   simp only[bG];simp only[St.fits]at hf;cases hp:S'.ev x with
   |none=>rfl
   |some a =>
    rw[hp]at hf;simp only at hf;cases root with
    |loc i =>
     cases a<;>simp[jC.fits]at hf;rename_i id off;subst hf;have:look i S.aW=look i S'.aW:=h (.o i) (by simp[VO.rd,jC.keys])
     cases S'.ev y with
     |none=>rfl
     |some v=>simp only[this]
    |aA =>
     cases a<;>simp[jC.fits]at hf;have:S.aA=S'.aA:=h .g (by simp[VO.rd,jC.keys])
     cases S'.ev y with
     |none=>rfl
     |some v=>simp only[this]
    |kb =>
     cases a<;>simp[jC.fits]at hf;rfl
 |app cj src oy sh mx x y =>
  have hx:fP S S' x.keys:=fun k hk=>h k (by simp[VO.rd,hk])
  have hy:fP S S' y.keys:=fun k hk=>h k (by simp[VO.rd,hk])
  have ht:∀f,(bif src==some f then look f S.bj else none)=(bif src==some f then look f S'.bj else none):=fun f=>by
   cases hs:src==some f with
   |false=>rfl
   |true =>
    have:=eq_of_beq hs;subst this;exact h (.t f) (by simp[VO.rd,Lc])
  have hr:∀v,S.iR oy sh v=S'.iR oy sh v:=fun v=>Xq fun j e=>h (.o j) (by subst e;simp[VO.rd,EY])
  simp only[VO.cI,ed hx,ed hy,ht,hr]
 |call alone f args reg =>
  have h1:fP S S' ((bif alone then [] else [.g])++f.keys++args.flatMap fun p=>p.2.keys):=h;cases alone
  ·have hg:S.aA=S'.aA:=h .g (by simp[VO.rd])
   simp only[VO.cI,ed (x:=f) h1.left.right,PO (ps:=args) h1.right,hg]
  ·simp only[VO.cI,ed (x:=f) h1.left.right,PQ (ps:=args) h1.right]
 |sd f args =>
  have h1:fP S S' ([.g]++(f.keys++args.flatMap fun p=>p.2.keys)):=h;have hg:S.aA=S'.aA:=h .g (by simp[VO.rd])
  simp only[VO.cI,ed (x:=f) h1.right.left,PO (ps:=args) h1.right.right,hg]
 |own f args ids id pos =>
  have h1:fP S S' (ids.map Key.o++(f.keys++args.flatMap fun p=>p.2.2.keys)):=h;have h2:∀id∈ids,look id S.aW=look id S'.aW:=fun id hi=>h1 (.o id) (Cl _ (kP.2 ⟨id,hi,rfl⟩));simp only[VO.cI,ed (x:=f) h1.right.left,PR h2 (ps:=args) h1.right.right]
 |sf f args id =>
  have h1:fP S S' ([.g]++(f.keys++args.flatMap fun p=>p.2.keys)):=h;have hg:S.aA=S'.aA:=h .g (by simp[VO.rd])
  simp only[VO.cI,ed (x:=f) h1.right.left,PQ (ps:=args) h1.right.right,hg]
 |ug id zero x=>simp only[VO.cI,ed (x:=x) h]
 |grow f id x=>simp only[VO.cI,ed (x:=x) h]
 |vg id src x y =>
  have ho:look id S.aW=look id S'.aW:=h (.o id) (by simp[VO.rd])
  have hj:∀j,src=some j→look j S.aW=look j S'.aW:=fun j e=>h (.o j) (by simp[VO.rd,e,EY])
  have hx:fP S S' x.keys:=fun k hk=>h k (by simp[VO.rd,hk])
  have hy:fP S S' y.keys:=fun k hk=>h k (by simp[VO.rd,hk])
  have hr:∀v,S.y9 src v=S'.y9 src v:=fun v=>by
   unfold St.y9;cases src with
   |none=>rfl
   |some j=>simp only[hj j rfl]
  simp only[VO.cI,ed hx,ed hy,ho,hr]
 |vh x =>
  have hg:S.aA=S'.aA:=h .g (by simp[VO.rd])
  have hx:fP S S' x.keys:=fun k hk=>h k (by simp[VO.rd,hk])
  simp only[VO.cI,ed hx,hg]
 |wM k f i x =>
  have ho:look i S.aW=look i S'.aW:=h (.o i) (by simp[VO.rd])
  have hx:fP S S' x.keys:=fun k hk=>h k (by simp[VO.rd,hk])
  simp only[VO.cI,ed hx,ho]
 |tj nw src oy sh x y =>
  have ho:look src S.aW=look src S'.aW:=h (.o src) (by simp[VO.rd])
  have hx:fP S S' x.keys:=fun k hk=>h k (by simp[VO.rd,hk])
  have hy:fP S S' y.keys:=fun k hk=>h k (by simp[VO.rd,hk])
  have hr:∀v,S.iR oy sh v=S'.iR oy sh v:=fun v=>Xq fun j e=>h (.o j) (by subst e;simp[VO.rd,EY])
  simp only[VO.cI,ed hx,ed hy,ho,hr]
 |_=>exact ajj rfl h
theorem PS{α:Type}{s k:Nat}{v:α}{r:List (Nat×α)}(h:k≠s):look s ((k,v)::r)=look s r:=by rw[dz,ay h]
theorem PT{u:Out}{d:Option Nat}{k:Key}(h:same S S' k):same (u.app d S) (u.app d S') k:=by
 obtain⟨v,obj,bj,aA,del⟩:=u;cases k with
 |e s =>
  have h:look s S.env=look s S'.env:=h;cases v with
  |none=>exact h
  |some v =>
   cases d with
   |none=>exact h
   |some d=>show look s ((d,v)::S.env)=look s ((d,v)::S'.env);rw[dz,dz,h]
 |o id =>
  have h:look id S.aW=look id S'.aW:=h;have:look id (Out.aW ⟨v,obj,bj,aA,del⟩ S.aW)=look id (Out.aW ⟨v,obj,bj,aA,del⟩ S'.aW):=by
   cases obj with
   |none=>exact h
   |some p =>
    obtain⟨i,cs⟩:=p;cases del with
    |none=>simp only[Out.aW,dz,h]
    |some q=>simp only[Out.aW,dz,uz,h]
  cases v with
  |none=>exact this
  |some v=>cases d<;>exact this
 |t f =>
  have h:look f S.bj=look f S'.bj:=h;have:look f (bj++S.bj)=look f (bj++S'.bj):=by rw[zM,zM,h]
  cases v with
  |none=>exact this
  |some v=>cases d<;>exact this
 |g =>
  have h:S.aA=S'.aA:=h;have:(match aA with|some G=>G|none=>S.aA)=(match aA with|some G=>G|none=>S'.aA):=by
   cases aA with
   |none=>exact h
   |some G=>rfl
  cases v with
  |none=>exact this
  |some v=>cases d<;>exact this
def EZ(u:Out)(K:List Key):Prop :=
 (∀p,u.obj=some p→Key.o p.1∈K∧∀i,u.del=some i→Key.o i∈K)∧(∀p∈u.bj,Key.t p.1∈K)∧(∀G,u.aA=some G→Key.g∈K)
theorem ajl{u:Out}{d:Option Nat}{K:List Key}(hw:EZ u K){k:Key}(hk:k∉(match d with|some d=>[Key.e d] | none=>[])++K):same (u.app d S) S k:=by
 obtain⟨v,obj,bj,aA,del⟩:=u;obtain⟨h1,h2,h3⟩:=hw;simp only at h1 h2 h3;have Ld:k∉K:=fun h=>hk (GY _ h);cases k with
 |e s =>
  cases v with
  |none=>rfl
  |some v =>
   cases d with
   |none=>rfl
   |some d =>
    have:d≠s:=fun e=>hk (by subst e;simp)
    exact PS this
 |o id =>
  have:look id (Out.aW ⟨v,obj,bj,aA,del⟩ S.aW)=look id S.aW:=by
   cases obj with
   |none=>rfl
   |some p =>
    obtain⟨i,cs⟩:=p;obtain⟨q1,q2⟩:=h1 _ rfl;have cf:i≠id:=fun e=>Ld (by rw[←e];exact q1)
    cases del with
    |none=>exact PS cf
    |some q =>
     simp only[Out.aW];rw[PS cf,uz,ay (fun e=>Ld (by rw[e];exact q2 q rfl))]
  cases v with
  |none=>exact this
  |some v=>cases d<;>exact this
 |t f =>
  have:look f (bj++S.bj)=look f S.bj:=by
   rw[zM];cases hl:look f bj with
   |none=>rfl
   |some j=>exact absurd (h2 _ (vx hl)) Ld
  cases v with
  |none=>exact this
  |some v=>cases d<;>exact this
 |g =>
  cases aA with
  |none =>
   cases v with
   |none=>rfl
   |some v=>cases d<;>rfl
  |some G=>exact absurd (h3 G rfl) Ld
theorem Xs{vo:VO}{u:Out}(h:vo.cI C S=some u):EZ u vo.wr:=by
 have val:∀v K,EZ (Out.val v) K:=fun v K=>⟨by simp[Out.val],by simp[Out.val],by simp[Out.val]⟩
 have frame:vo.frame=true→EZ u vo.wr:=fun tz=>by
  rw[K9 C S vo tz]at h;cases hr:vo.run C (some 0) (St.mk S.env [] [] []) with
  |none=>rw[hr]at h;cases h
  |some S1 =>
   rw[hr]at h;simp only[G7]at h;split at h
   ·cases h;exact val _ _
   ·cases h
 cases vo with
 |mv x =>
  simp only[VO.cI]at h;split at h
  ·cases h;exact val _ _
  ·cases h
 |pick c a b =>
  simp only[VO.cI]at h;split at h
  ·split at h
   ·cases h;exact val _ _
   ·cases h
  ·cases h
 |obj id cells=>simp only[VO.cI]at h;cases h;exact⟨by simp[VO.wr],by simp,by simp⟩
 |box id x =>
  simp only[VO.cI]at h;split at h
  ·rename_i v _
   cases hc:v.cells.all V.cL with
   |false=>simp[hc]at h
   |true=>simp only[hc,bG]at h;cases h;exact⟨by simp[VO.wr],by simp,by simp⟩
  ·cases h
 |u7 sh x =>
  simp only[VO.cI]at h;split at h
  ·split at h
   ·cases h;exact⟨by simp,by simp,by simp[VO.wr]⟩
   ·cases h
  ·cases h
 |u9 sh zero =>
  simp only[VO.cI]at h;split at h
  ·cases h;exact⟨by simp,by simp,by simp[VO.wr]⟩
  ·cases h
 |vb =>
  simp only[VO.cI]at h;cases h;exact⟨by simp,by simp,by simp[VO.wr]⟩
 |wJ ag ks zero ok x k =>
  simp only[VO.cI]at h;split at h
  ·split at h
   ·split at h
    ·cases h;exact val _ _
    ·cases h;exact val _ _
    ·cases h
   ·cases h
  ·cases h
 |vd ag ks sh x k y =>
  simp only[VO.cI]at h;split at h
  ·split at h
   ·split at h
    ·cases h;exact⟨by simp,by simp,by simp[VO.wr]⟩
    ·cases h;exact⟨by simp,by simp,by simp[VO.wr]⟩
    ·cases h
   ·cases h
  ·cases h
 |build zero ps =>
  simp only[VO.cI]at h;split at h
  ·cases h;exact val _ _
  ·cases h
 |lit tok sh zero ln ps =>
  simp only[VO.cI]at h;split at h
  ·split at h
   ·cases h;exact⟨by simp,by simp[VO.wr],by simp⟩
   ·cases h;exact val _ _
  ·cases h
 |load root sz x =>
  simp only[VO.cI]at h;split at h
  ·rename_i a _
   cases hf:root.fits a with
   |false=>simp[hf]at h
   |true =>
    simp only[hf,bG]at h;split at h
    ·split at h
     ·cases h;exact val _ _
     ·cases h
    ·cases h
  ·cases h
 |se f args ids =>
  simp only[VO.cI]at h;split at h
  ·split at h
   ·rename_i r _ _
    cases hs:r.qk with
    |false=>rw[hs]at h;cases h
    |true=>rw[hs]at h;cases h;exact val _ _
   ·cases h
  ·cases h
 |tg cj x =>
  simp only[VO.cI]at h;split at h
  ·split at h
   ·rename_i v ts G ht
    cases h;unfold St.take at ht;split at ht
    ·split at ht
     ·split at ht
      ·cases ht;exact⟨by simp,by simp[VO.wr],by simp[VO.wr]⟩
      ·cases ht;exact⟨by simp,by simp,by simp⟩
      ·cases ht
     ·cases ht
    ·cases ht
   ·cases h
  ·cases h
 |vi cj x y =>
  simp only[VO.cI]at h;split at h
  ·split at h
   ·rename_i ts G ht
    cases h;unfold St.xZ at ht;split at ht
    ·split at ht
     ·rename_i k _ _
      rcases Og (k==_&&Nat.blt _ _) with hc|hc
      ·rw[hc]at ht;cases ht;exact⟨by simp,by simp[VO.wr],by simp[VO.wr]⟩
      ·rw[hc]at ht;cases ht
     ·cases ht
    ·cases ht
   ·cases h
  ·cases h
 |store root sh x y =>
  simp only[VO.cI]at h;cases hf:S.fits root x with
  |false=>simp[hf]at h
  |true =>
   simp only[hf,bG]at h;simp only[St.fits]at hf;split at h
   ·rename_i id off v hx hy
    rw[hx]at hf;split at h
    ·rename_i cs _
     cases hc:(v.cells.length==sh.length&&Nat.ble (off+sh.length) cs.length&&v.cells.all V.cL&&Nat.blt 0 sh.length) with
     |false=>simp[hc]at h
     |true =>
      simp only[hc,bG]at h;cases h;cases root with
      |loc i=>simp[jC.fits]at hf;subst hf;exact⟨by simp[VO.wr],by simp,by simp⟩
      |aA=>simp[jC.fits]at hf
      |kb=>simp[jC.fits]at hf
    ·cases h
   ·rename_i id off v hx hy
    rw[hx]at hf;split at h
    ·rename_i cs _
     split at h
     ·rename_i vs _
      cases hc:(Nat.ble (off+vs.length) cs.length&&Nat.blt 0 vs.length) with
      |false=>simp[hc]at h
      |true =>
       simp only[hc,bG]at h;cases h;cases root with
       |aA=>exact⟨by simp,by simp,by simp[VO.wr]⟩
       |loc i=>simp[jC.fits]at hf
       |kb=>simp[jC.fits]at hf
     ·cases h
    ·cases h
   ·cases h
 |app cj src oy sh mx x y =>
  simp only[VO.cI]at h;split at h
  ·split at h
   ·rename_i ys _
    cases hc:Nat.ble ys.length mx with
    |false=>simp[hc]at h
    |true=>simp only[hc,bG]at h;cases h;exact⟨by simp,by simp[VO.wr],by simp⟩
   ·cases h
  ·split at h
   ·rename_i ys _
    cases hc:Nat.ble ys.length mx with
    |false=>simp[hc]at h
    |true=>simp only[hc,bG]at h;cases h;exact⟨by simp,by simp[VO.wr],by simp⟩
   ·cases h
  ·rename_i f n es _ _ _
   split at h
   ·rename_i ys _
    split at h
    ·rename_i k hk
     cases hc:(k==es.length&&(n==sh.length)&&Nat.ble (es.length+ys.length) mx) with
     |false=>simp[hc]at h
     |true =>
      simp only[hc,bG]at h;cases h;cases hs:src==some f with
      |false=>simp[hs]at hk
      |true =>
       have:=eq_of_beq hs;subst this;exact⟨by simp,by simp[VO.wr,Lc],by simp⟩
    ·cases h
   ·cases h
  ·cases h
 |call alone f args reg =>
  have vy:∀r:V,∀p∈(recv reg r).2,Key.t p.1∈(CT reg).map Key.t:=fun r p hp=>by
   rw[KU]at hp;obtain⟨q,t,n,es,_,h2,_⟩:=EK reg _ 0 p.1 p.2 hp;exact kP.2 ⟨p.1,kP.2 ⟨_,vx h2,rfl⟩,rfl⟩
  cases alone
  ·simp only[VO.cI]at h
   split at h
   ·split at h
    ·rename_i r G hc
     cases h;exact⟨by simp,fun p hp=>GY _ (vy r p hp),by simp[VO.wr]⟩
    ·cases h
   ·cases h
  ·simp only[VO.cI]at h
   split at h
   ·split at h
    ·rename_i r G hc
     cases hl:r.lone with
     |false=>simp[hl]at h
     |true =>
      simp only[hl,bG]at h;cases h;exact⟨by simp,fun p hp=>GY _ (vy r p hp),by simp⟩
    ·cases h
   ·cases h
 |sd f args =>
  simp only[VO.cI]at h;split at h
  ·split at h
   ·simp only[rd]at h
    split at h
    ·cases h;exact⟨by simp[Out.val],by simp[Out.val],by simp[Out.val]⟩
    ·cases h
   ·cases h
  ·cases h
 |own f args ids id pos =>
  simp only[VO.cI]at h;split at h
  ·split at h
   ·split at h
    ·cases h;exact⟨by simp[VO.wr],by simp,by simp⟩
    ·cases h;exact val _ _
    ·cases h
   ·cases h
  ·cases h
 |tj nw src oy sh x y =>
  simp only[VO.cI]at h;split at h
  ·split at h
   ·rename_i ys _
    cases hc:ys.isEmpty with
    |true=>simp only[hc,bG]at h;cases h;exact val _ _
    |false =>
     simp only[hc,eD]at h;cases hc:Nat.ble ys.length lim with
     |false=>simp[hc]at h
     |true=>simp only[hc,bG]at h;cases h;exact⟨by simp[VO.wr],by simp,by simp⟩
   ·cases h
  ·split at h
   ·rename_i ys _
    cases hc:ys.isEmpty with
    |true=>simp only[hc,bG]at h;cases h;exact val _ _
    |false =>
     simp only[hc,eD]at h;cases hc:Nat.ble ys.length lim with
     |false=>simp[hc]at h
     |true=>simp only[hc,bG]at h;cases h;exact⟨by simp[VO.wr],by simp,by simp⟩
   ·cases h
  ·rename_i id s ln _ _ _
   split at h
   ·rename_i ys cs _ _
    cases hc:((id==src)&&(s==sh.length)&&(cs.length==ln*s)&&Nat.ble (ln+ys.length) lim) with
    |false =>
     simp only[hc,eD]at h;cases hc:(oy.isNone&&(id==src)&&(s==sh.length)&&Nat.ble (ln*s) cs.length&&Nat.ble (ln+ys.length) lim) with
     |false=>simp[hc]at h
     |true=>simp only[hc,bG]at h;cases h;exact⟨by simp[VO.wr],by simp,by simp⟩
    |true=>simp only[hc,bG]at h;cases h;exact⟨by simp[VO.wr],by simp,by simp⟩
   ·cases h
  ·cases h
 |vh x =>
  simp only[VO.cI]at h;split at h
  ·split at h
   ·cases h;exact⟨by simp,by simp,by simp[VO.wr]⟩
   ·cases h
  ·cases h
 |wM k f i x =>
  simp only[VO.cI]at h;split at h
  ·rename_i id s n _
   split at h
   ·rename_i cs _
    cases hc:(id==i&&(s==1)&&Nat.ble n cs.length&&Nat.ble n lim&&Nat.blt 0 n) with
    |false=>simp[hc]at h
    |true =>
     simp only[hc,bG]at h;split at h
     ·cases h;exact⟨by simp[VO.wr],by simp,by simp⟩
     ·cases h
   ·cases h
  ·cases h
 |ug id zero x =>
  simp only[VO.cI]at h;split at h
  ·rename_i k n _
   cases hc:(decide (0≤n)&&decide (n≤(lim:Int))) with
   |false=>simp[hc]at h
   |true=>simp only[hc,bG]at h;cases h;exact⟨by simp[VO.wr],by simp,by simp⟩
  ·cases h
 |sf f args id =>
  simp only[VO.cI]at h;split at h
  ·split at h
   ·split at h
    ·rename_i i n len cs _
     cases hc:(i==id&&Nat.blt 0 cs.length&&Nat.blt 0 len&&cs.all V.sc) with
     |false=>simp[hc]at h
     |true=>simp only[hc,bG]at h;cases h;exact⟨by simp,by simp,by simp[VO.wr]⟩
    ·cases h;exact⟨by simp,by simp,by simp[VO.wr]⟩
    ·cases h
   ·cases h
  ·cases h
 |grow f id x =>
  simp only[VO.cI]at h;split at h
  ·rename_i n _
   cases hc:(decide (0≤n)&&decide (n≤(lim:Int))) with
   |false=>simp[hc]at h
   |true=>simp only[hc,bG]at h;cases h;exact⟨by simp[VO.wr],by simp,by simp⟩
  ·cases h
 |vg id src x y =>
  simp only[VO.cI]at h;split at h
  ·rename_i i s n b _ _
   split at h
   ·rename_i cs us _ _
    cases hc:(i==id&&(s==1)&&Nat.ble n cs.length&&us.all V.sc) with
    |false=>simp[hc]at h
    |true=>simp only[hc,bG]at h;cases h;exact⟨by simp[VO.wr],by simp,by simp⟩
   ·cases h
  ·cases h
 |_=>exact frame rfl
end
end Go.Vm

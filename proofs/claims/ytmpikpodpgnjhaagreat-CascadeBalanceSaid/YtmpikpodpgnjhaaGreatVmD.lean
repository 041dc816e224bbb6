/- The value machine, 13: what an operation reads and writes; operations that touch different things may change places. -/
import Derived.Test.YtmpikpodpgnjhaaGreatVmC
namespace Go.Vm
set_option linter.all false
inductive Key where
 |e (s:Nat)
 |o (id:Nat)
 |t (f:Nat)
 |g
 deriving DecidableEq
def same(S S':St):Key→Prop
 |.e s=>look s S.env=look s S'.env
 |.o id=>look id S.bb=look id S'.bb
 |.t f=>look f S.bm=look f S'.bm
 |.g=>S.az=S'.az
theorem O6(S:St)(k:Key):same S S k:=by cases k<;>rfl
theorem Fj{S S':St}{k:Key}(h:same S S' k):same S' S k:=by cases k<;>exact Eq.symm h
theorem Fk{S S' CI:St}{k:Key}(h:same S S' k)(h':same S' CI k):same S CI k:=by cases k<;>exact Eq.trans h h'
def Alike(S S':St):Prop:=∀k,same S S' k
structure Out where
 v:Option V
 obj:Option (Nat×List V)
 bm:List (Nat×Nat)
 az:Option (List aW)
 del:Option Nat
def Out.val(v:V):Out:=⟨some v,none,[],none,none⟩
def Out.bb(u:Out)(bb:List (Nat×List V)):List (Nat×List V):=match u.obj with
 |some p=>p::(match u.del with|some i=>bb.filter (fun q => !(q.1==i))|none=>bb)
 |none=>bb
def Out.app(u:Out)(d:Option Nat)(S:St):St :=
 let T:St:={ env:=S.env,bb:=u.bb S.bb,bm:=u.bm++S.bm,az:=(match u.az with|some G=>G|none=>S.az) }
 match u.v with
 |some v=>T.put d v
 |none=>T
noncomputable def VO.cY(C:bC)(S:St):VO→Option Out
 |.mv x=>match S.ev x with
  |some v=>some (.val v)
  |none=>none
 |.pick c a b=>match S.ev c with
  |some (.bool t)=>match bif t then S.ev a else S.ev b with
   |some v=>some (.val v)
   |none=>none
  |_=>none
 |.obj id cells=>some ⟨some (.bK id 0),some (id,cells),[],none,none⟩
 |.box id x=>match S.ev x with
  |some v=>bif v.cells.all V.cM then some ⟨some (.bK id 0),some (id,v.cells),[],none,none⟩ else none
  |none=>none
 |.ou sh x=>match S.ev x with
  |some v=>match lx sh v.cells with
   |some cs=>some ⟨some (.bO S.az.length 0),none,[],some (S.az++[aW.cells cs]),none⟩
   |none=>none
  |none=>none
 |.pc sh zero=>match lx sh zero with
  |some cs=>some ⟨some (.bO S.az.length 0),none,[],some (S.az++[aW.cells cs]),none⟩
  |none=>none
 |.rO=>some ⟨some (.map S.az.length),none,[],some (S.az++[aW.map []]),none⟩
 |.sY ag ks zero ok x k=>match S.ev x,S.ev k with
  |some (.map i),some kv=>match S.az[i]?,V.lQ ag ks kv kv with
   |some (.map es),some _=>match lR ag ks kv es 0 with
    |some (some (_,v))=>some (.val (bif ok then .tuple [v,.bool true] else v))
    |some none=>some (.val (bif ok then .tuple [zero,.bool false] else zero))
    |none=>none
   |_,_=>none
  |_,_=>none
 |.rP ag ks sh x k y=>match S.ev x,S.ev k,S.ev y with
  |some (.map i),some kv,some v=>match S.az[i]?,V.lQ ag ks kv kv,wB sh v with
   |some (.map es),some _,some u=>match lR ag ks kv es 0 with
    |some (some (j,_))=>some ⟨none,none,[],some (S.az.set i (aW.map (es.set j (kv,u)))),none⟩
    |some none=>some ⟨none,none,[],some (S.az.set i (aW.map (es++[(kv,u)]))),none⟩
    |none=>none
   |_,_,_=>none
  |_,_,_=>none
 |.build zero parts=>match pI S parts zero with
  |some cs=>some (.val (.agg cs))
  |none=>none
 |.lit tok sh zero ln parts=>match rT S sh parts (List.replicate ln zero) with
  |some rs=>match tok with
   |some f=>some ⟨some (.slice (some f) sh.length rs),none,[(f,ln)],none,none⟩
   |none=>some (.val (.slice none sh.length rs))
  |none=>none
 |.load root sz p=>match S.ev p with
  |some a=>bif root.fits a then match S.na a with
   |some (cs,off)=>match loadAt sz cs off with
    |some v=>some (.val (xF root v))
    |none=>none
   |none=>none
   else none
  |none=>none
 |.pd cf p=>match S.ev p with
  |some a=>match S.take cf a with
   |some (v,ts,G)=>some ⟨some v,none,ts,G,none⟩
   |none=>none
  |none=>none
 |.pF cf p x=>match S.ev p,S.ev x with
  |some a,some v=>match S.uf cf a v with
   |some (ts,G)=>some ⟨none,none,ts,some G,none⟩
   |none=>none
  |_,_=>none
 |.store root sh p x=>bif S.fits root p then match S.ev p,S.ev x with
  |some (.bK id off),some v=>match look id S.bb with
   |some cs=>bif v.cells.length==sh.length&&Nat.ble (off+sh.length) cs.length&&v.cells.all V.cM&&Nat.blt 0 sh.length then
     some ⟨none,some (id,iZ cs off v.cells),[],none,none⟩ else none
   |none=>none
  |some (.bO id off),some v=>match S.az[id]? with
   |some (.cells cs)=>match lx sh v.cells with
    |some vs=>bif Nat.ble (off+vs.length) cs.length&&Nat.blt 0 vs.length then some ⟨none,none,[],some (S.az.set id (aW.cells (iZ cs off vs))),none⟩ else none
    |none=>none
   |_=>none
  |_,_=>none
  else none
 |.app cf src sh mx x y=>match S.ev x,S.ev y with
  |some .aK,some b=>match S.rows sh b with
   |some ys=>bif Nat.ble ys.length mx then some ⟨some (.slice (some cf) sh.length ys),none,[(cf,ys.length)],none,none⟩ else none
   |none=>none
  |some (.dW _),some b=>match S.rows sh b with
   |some ys=>bif Nat.ble ys.length mx then some ⟨some (.slice (some cf) sh.length ys),none,[(cf,ys.length)],none,none⟩ else none
   |none=>none
  |some (.slice (some f) n es),some b=>match S.rows sh b with
   |some ys=>match (bif src==some f then look f S.bm else none) with
    |some k=>bif k==es.length&&(n==sh.length)&&Nat.ble (es.length+ys.length) mx then
      some ⟨some (.slice (some f) n (es++ys)),none,[(f,es.length+ys.length)],none,none⟩ else none
    |none=>none
   |none=>none
  |_,_=>none
 |.call false f args reg=>match S.ev f,lS S args with
  |some (.fn g cap),some vs=>match C g (vs++cap) S.az with
   |some (r,G)=>some ⟨some (recv reg r).1,none,(recv reg r).2,some G,none⟩
   |none=>none
  |_,_=>none
 |.call true f args reg=>match S.ev f,kh S args with
  |some (.fn g []),some vs=>match C g vs [] with
   |some (r,_)=>bif r.lone then some ⟨some (recv reg r).1,none,(recv reg r).2,none,none⟩ else none
   |none=>none
  |_,_=>none
 |.mG f args=>match S.ev f,lS S args with
  |some (.fn g cap),some vs=>match C g (vs++cap) S.az with
   |some (r,G)=>rd S.az G (.val (recv [] r).1)
   |none=>none
  |_,_=>none
 |.rQ k _ i x=>match S.ev x with
  |some (.cb id s n)=>match look i S.bb with
   |some cs=>bif id==i&&(s==1)&&Nat.ble n cs.length&&Nat.ble n lim&&Nat.blt 0 n then match ug (cs.take n) with
    |some zs=>some ⟨some (xI k i zs),some (i,(rU k zs).map (V.int .i64)++cs.drop n),[],none,none⟩
    |none=>none
    else none
   |none=>none
  |_=>none
 |.grow _ id n=>match S.ev n with
  |some (.int .i64 k)=>bif decide (0≤k)&&decide (k≤lim) then some ⟨some (.cb id 1 0),some (id,[]),[],none,none⟩ else none
  |_=>none
 |.qm id src x y=>match S.ev x,S.ev y with
  |some (.cb i s n),some b=>match look id S.bb,S.uY src b with
   |some cs,some us=>bif i==id&&(s==1)&&Nat.ble n cs.length&&us.all V.sc then
     some ⟨some (.int .i64 (us.take n).length),some (id,us.take n++cs.drop (us.take n).length),[],none,none⟩ else none
   |_,_=>none
  |_,_=>none
 |.pe f args ids=>match S.ev f,oy S ids args with
  |some (.fn g []),some vs=>match C g vs [] with
   |some (r,_)=>bif r.oz then some (.val r) else none
   |none=>none
  |_,_=>none
 |.own f args id pos=>match S.ev f,kh S args with
  |some (.fn g []),some vs=>match C g vs [] with
   |some (r,_)=>match jN id pos r with
    |some (v,some cs)=>some ⟨some v,some (id,cs),[],none,none⟩
    |some (v,none)=>some (.val v)
    |none=>none
   |none=>none
  |_,_=>none
 |.pG f args id=>match S.ev f,kh S args with
  |some (.fn g []),some vs=>match C g vs [] with
   |some (r,_)=>match jN id 0 r with
    |some (.cb i n ln,some cs)=>bif i==id&&Nat.blt 0 cs.length&&Nat.blt 0 ln&&cs.all V.sc then some ⟨some (.dB S.az.length n ln),none,[],some (S.az++[aW.cells cs]),none⟩ else none
    |some (.dW n,none)=>some ⟨some (.dB S.az.length n 0),none,[],some (S.az++[aW.cells []]),none⟩
    |_=>none
   |none=>none
  |_,_=>none
 |.mf id zero n=>match S.ev n with
  |some (.int _ k)=>bif decide (0≤k)&&decide (k≤lim) then
    some ⟨some (.cb id zero.length k.toNat),some (id,(List.replicate k.toNat zero).flatten),[],none,none⟩ else none
  |_=>none
 |.m9 new src sh x y=>match S.ev x,S.ev y with
  |some .aK,some b=>match S.rows sh b with
   |some ys=>bif ys.isEmpty then some (.val .aK) else
     bif Nat.ble ys.length lim then some ⟨some (.cb new sh.length ys.length),some (new,ys.flatten),[],none,none⟩ else none
   |none=>none
  |some (.dW n),some b=>match S.rows sh b with
   |some ys=>bif ys.isEmpty then some (.val (.dW n)) else
     bif Nat.ble ys.length lim then some ⟨some (.cb new sh.length ys.length),some (new,ys.flatten),[],none,none⟩ else none
   |none=>none
  |some (.cb id s ln),some b=>match S.rows sh b,look src S.bb with
   |some ys,some cs=>bif (id==src)&&(s==sh.length)&&(cs.length==ln*s)&&Nat.ble (ln+ys.length) lim then
     some ⟨some (.cb new sh.length (ln+ys.length)),some (new,cs++ys.flatten),[],none,some src⟩ else none
   |_,_=>none
  |_,_=>none
 |vo=>(vo.run C (some 0) { S with env:=S.env,bb:=[],bm:=[],az:=[] }).bind fun S'=>match S'.env with
  |(_,v)::_=>some (.val v)
  |[]=>none
theorem Jj(S:St)(x:bB):(St.mk S.env [] [] []).ev x=S.ev x:=by cases x<;>rfl
theorem XY(S:St)(x:Option bB)(n:Nat):(St.mk S.env [] [] []).kD x n=S.kD x n:=by cases x<;>first|rfl|exact Jj S _
theorem O7(S:St):∀xs:List bB,nS (St.mk S.env [] [] []) xs=nS S xs
 |[]=>rfl
 |x::xs=>by simp only[nS,Jj,O7 S xs]
theorem qC(S:St)(d:Option Nat)(v:V):(Out.val v).app d S=S.put d v:=by cases d<;>rfl
theorem vt{S S':St}(e:S'.env=S.env)(x:bB):S'.ev x=S.ev x:=by cases x<;>simp[St.ev,e]
theorem O8{S S':St}(e:S'.env=S.env)(x:Option bB)(n:Nat):S'.kD x n=S.kD x n:=by cases x<;>first|rfl|exact vt e _
theorem O9{S S':St}(e:S'.env=S.env):∀xs:List bB,nS S' xs=nS S xs
 |[]=>rfl
 |x::xs=>by simp only[nS,vt e,O9 e xs]
def VO.cP(S' S:St):VO→Prop
 |.qn x | .un _ x | .conv _ x | .qW _ x | .field _ _ x | .len x | .s6 x | .ud x | .qV _ x | .ext x _=>S'.ev x=S.ev x
 |.bin _ x y | .beq _ x y | .gW _ _ x y | .eg _ _ x y | .idx _ _ _ x y | .mm _ x y=>S'.ev x=S.ev x∧S'.ev y=S.ev y
 |.rR _ x y z=>S'.ev x=S.ev x∧S'.ev y=S.ev y∧S'.ev z=S.ev z
 |.pf _ x lo hi=>S'.ev x=S.ev x∧(∀n,S'.kD lo n=S.kD lo n)∧(∀n,S'.kD hi n=S.kD hi n)
 |.pH _ cap=>nS S' cap=nS S cap
 |_=>True
def Jk(C:bC)(S:St)(vo:VO):Prop:=∃r:Option V,∀d S',VO.cP S' S vo→vo.run C d S'=r.map fun v=>S'.put d v
def VO.frame:VO→Bool
 |.sZ _ | .qV .. | .qn _ | .bin .. | .beq .. | .gW .. | .un .. | .conv .. | .qW .. | .eg .. | .idx .. | .field .. | .len _ | .s6 _ | .ud _ | .ext .. | .pf .. | .mm .. | .rR .. | .pH .. => true
 |_=>false
theorem Fm(C:bC)(S:St)(vo:VO)(h:vo.frame=true):vo.cY C S=(vo.run C (some 0) (St.mk S.env [] [] [])).bind fun S'=>match S'.env with
  |(_,v)::_=>some (.val v)
  |[]=>none:=by
 cases vo<;>first|rfl|cases h
set_option maxHeartbeats 1000000 in
theorem Pb(C:bC)(S:St)(vo:VO)(qz:vo.frame=true):Jk C S vo:=by
 have no:(∀d S',VO.cP S' S vo→vo.run C d S'=none)→Jk C S vo:=fun h=>⟨none,h⟩;have yes:∀v,(∀d S',VO.cP S' S vo→vo.run C d S'=some (S'.put d v))→Jk C S vo:=fun v h=>⟨some v,h⟩;cases vo with
 |qn x =>
  cases hx:S.ev x with
  |none=>exact no fun d S' e=>by simp only[VO.cP]at e;simp[VO.run,e,hx]
  |some a=>cases a<;>first|(refine no fun d S' e=>?_;simp only[VO.cP]at e;simp[VO.run,e,hx];done)|(refine yes _ fun d S' e=>Eq.trans (by simp only[VO.cP]at e;simp only[VO.run,e,hx];exact rfl) rfl)
 |bin op x y =>
  cases hx:S.ev x with
  |none=>exact no fun d S' e=>by simp only[VO.cP]at e;simp[VO.run,e,hx]
  |some a =>
   cases hy:S.ev y with
   |none=>exact no fun d S' e=>by simp only[VO.cP]at e;simp[VO.run,e,hx,hy]
   |some b =>
    cases hz:V.bin op a b with
    |none=>exact no fun d S' e=>by simp only[VO.cP]at e;simp[VO.run,e,hx,hy,hz]
    |some v=>exact yes v fun d S' e=>by simp only[VO.cP]at e;simp[VO.run,e,hx,hy,hz]
 |gW neg ks x y =>
  cases hx:S.ev x with
  |none=>exact no fun d S' e=>by simp only[VO.cP]at e;simp[VO.run,e,hx]
  |some a =>
   cases hy:S.ev y with
   |none=>exact no fun d S' e=>by simp only[VO.cP]at e;simp[VO.run,e,hx,hy]
   |some b =>
    cases hz:V.gW neg ks a b with
    |none=>exact no fun d S' e=>by simp only[VO.cP]at e;simp[VO.run,e,hx,hy,hz]
    |some v=>exact yes v fun d S' e=>by simp only[VO.cP]at e;simp[VO.run,e,hx,hy,hz]
 |beq neg x y =>
  cases hx:S.ev x with
  |none=>exact no fun d S' e=>by simp only[VO.cP]at e;simp[VO.run,e,hx]
  |some a =>
   cases hy:S.ev y with
   |none=>exact no fun d S' e=>by simp only[VO.cP]at e;cases a<;>simp[VO.run,e,hx,hy]
   |some b=>cases a<;>cases b<;>first|(refine no fun d S' e=>?_;simp only[VO.cP]at e;simp[VO.run,e,hx,hy];done)|(refine yes _ fun d S' e=>Eq.trans (by simp only[VO.cP]at e;simp only[VO.run,e,hx,hy];exact rfl) rfl)
 |un op x =>
  cases hx:S.ev x with
  |none=>exact no fun d S' e=>by simp only[VO.cP]at e;simp[VO.run,e,hx]
  |some a =>
   cases hz:V.un op a with
   |none=>exact no fun d S' e=>by simp only[VO.cP]at e;simp[VO.run,e,hx,hz]
   |some v=>exact yes v fun d S' e=>by simp only[VO.cP]at e;simp[VO.run,e,hx,hz]
 |conv k x =>
  cases hx:S.ev x with
  |none=>exact no fun d S' e=>by simp only[VO.cP]at e;simp[VO.run,e,hx]
  |some a=>cases a<;>first|(refine no fun d S' e=>?_;simp only[VO.cP]at e;simp[VO.run,e,hx];done)|(refine yes _ fun d S' e=>Eq.trans (by simp only[VO.cP]at e;simp only[VO.run,e,hx];exact rfl) rfl)
 |qW off x =>
  cases hx:S.ev x with
  |none=>exact no fun d S' e=>by simp only[VO.cP]at e;simp[VO.run,e,hx]
  |some a=>cases a<;>first|(refine no fun d S' e=>?_;simp only[VO.cP]at e;simp[VO.run,e,hx];done)|(refine yes _ fun d S' e=>Eq.trans (by simp only[VO.cP]at e;simp only[VO.run,e,hx];exact rfl) rfl)
 |eg arr sz x i =>
  cases hx:S.ev x with
  |none=>exact no fun d S' e=>by simp only[VO.cP]at e;cases arr<;>simp[VO.run,e,hx]
  |some a =>
   cases hy:S.ev i with
   |none=>exact no fun d S' e=>by simp only[VO.cP]at e;cases arr<;>cases a<;>simp[VO.run,e,hx,hy]
   |some b =>
    cases b with
    |int k m =>
     cases arr with
     |some n =>
      cases hc:(decide (0≤m)&&decide (m<(n:Int))) with
      |false=>exact no fun d S' e=>by simp only[VO.cP]at e;simp only[VO.run,e,hx,hy,hc,cond_false]
      |true=>cases a<;>first|(refine no fun d S' e=>?_;simp only[VO.cP]at e;simp only[VO.run,e,hx,hy,hc,cond_true];done)|(refine yes _ fun d S' e=>Eq.trans (by simp only[VO.cP]at e;simp only[VO.run,e,hx,hy,hc,cond_true];exact rfl) rfl)
     |none =>
      cases a with
      |slice tk n es =>
       cases hc:(decide (0≤m)&&(n==sz)) with
       |false=>exact no fun d S' e=>by simp only[VO.cP]at e;simp only[VO.run,e,hx,hy,hc,cond_false]
       |true =>
        cases he:es[m.toNat]? with
        |none=>exact no fun d S' e=>by simp only[VO.cP]at e;simp only[VO.run,e,hx,hy,hc,cond_true,he]
        |some r=>exact yes (.fa r 0) fun d S' e=>by simp only[VO.cP]at e;simp only[VO.run,e,hx,hy,hc,cond_true,he]
      |cb id off n =>
       cases hc:(decide (0≤m)&&decide (m<(n:Int))&&(off==sz)) with
       |false=>exact no fun d S' e=>by simp only[VO.cP]at e;simp only[VO.run,e,hx,hy,hc,cond_false]
       |true=>exact yes (.bK id (m.toNat*sz)) fun d S' e=>by simp only[VO.cP]at e;simp only[VO.run,e,hx,hy,hc,cond_true]
      |dB id off n =>
       cases hc:(decide (0≤m)&&decide (m<(n:Int))&&(off==sz)) with
       |false=>exact no fun d S' e=>by simp only[VO.cP]at e;simp only[VO.run,e,hx,hy,hc,cond_false]
       |true=>exact yes (.bO id (m.toNat*sz)) fun d S' e=>by simp only[VO.cP]at e;simp only[VO.run,e,hx,hy,hc,cond_true]
      |_=>exact no fun d S' e=>by simp only[VO.cP]at e;simp[VO.run,e,hx,hy]
    |_=>exact no fun d S' e=>by simp only[VO.cP]at e;cases arr<;>cases a<;>simp[VO.run,e,hx,hy]
 |idx n sz ag x i =>
  cases hx:S.ev x with
  |none=>exact no fun d S' e=>by simp only[VO.cP]at e;simp[VO.run,e,hx]
  |some a =>
   cases hy:S.ev i with
   |none=>exact no fun d S' e=>by simp only[VO.cP]at e;cases a<;>simp[VO.run,e,hx,hy]
   |some b =>
    cases b with
    |int k m =>
     cases a with
     |agg cs =>
      cases hc:(decide (0≤m)&&decide (m<(n:Int))) with
      |false=>exact no fun d S' e=>by simp only[VO.cP]at e;simp only[VO.run,e,hx,hy,hc,cond_false]
      |true =>
       cases hl:loadAt (bif ag then some sz else none) cs (m.toNat*sz) with
       |none=>exact no fun d S' e=>by simp only[VO.cP]at e;simp only[VO.run,e,hx,hy,hc,cond_true,hl]
       |some v=>exact yes v fun d S' e=>by simp only[VO.cP]at e;simp only[VO.run,e,hx,hy,hc,cond_true,hl]
     |_=>exact no fun d S' e=>by simp only[VO.cP]at e;simp[VO.run,e,hx,hy]
    |_=>exact no fun d S' e=>by simp only[VO.cP]at e;cases a<;>simp[VO.run,e,hx,hy]
 |field off sz x =>
  cases hx:S.ev x with
  |none=>exact no fun d S' e=>by simp only[VO.cP]at e;simp[VO.run,e,hx]
  |some a =>
   cases a with
   |agg cs =>
    cases hl:loadAt sz cs off with
    |none=>exact no fun d S' e=>by simp only[VO.cP]at e;simp only[VO.run,e,hx,hl]
    |some v=>exact yes v fun d S' e=>by simp only[VO.cP]at e;simp only[VO.run,e,hx,hl]
   |_=>exact no fun d S' e=>by simp only[VO.cP]at e;simp[VO.run,e,hx]
 |sZ n=>exact yes (.dW n) fun d S' e=>rfl
 |qV neg x =>
  cases hx:S.ev x with
  |none=>exact no fun d S' e=>by simp only[VO.cP]at e;simp[VO.run,e,hx]
  |some a =>
   cases a with
   |slice t n es=>cases es<;>first|(refine no fun d S' e=>?_;simp only[VO.cP]at e;simp[VO.run,e,hx];done)|(refine yes _ fun d S' e=>Eq.trans (by simp only[VO.cP]at e;simp only[VO.run,e,hx];exact rfl) rfl)
   |_=>first|(refine no fun d S' e=>?_;simp only[VO.cP]at e;simp[VO.run,e,hx];done)|(refine yes _ fun d S' e=>Eq.trans (by simp only[VO.cP]at e;simp only[VO.run,e,hx];exact rfl) rfl)
 |len x =>
  cases hx:S.ev x with
  |none=>exact no fun d S' e=>by simp only[VO.cP]at e;simp[VO.run,e,hx]
  |some a=>cases a<;>first|(refine no fun d S' e=>?_;simp only[VO.cP]at e;simp[VO.run,e,hx];done)|(refine yes _ fun d S' e=>Eq.trans (by simp only[VO.cP]at e;simp only[VO.run,e,hx];exact rfl) rfl)
 |ud x =>
  cases hx:S.ev x with
  |none=>exact no fun d S' e=>by simp only[VO.cP]at e;simp[VO.run,e,hx]
  |some a=>cases a<;>first|(refine no fun d S' e=>?_;simp only[VO.cP]at e;simp[VO.run,e,hx];done)|(refine yes _ fun d S' e=>Eq.trans (by simp only[VO.cP]at e;simp only[VO.run,e,hx];exact rfl) rfl)
 |s6 x =>
  cases hx:S.ev x with
  |none=>exact no fun d S' e=>by simp only[VO.cP]at e;simp[VO.run,e,hx]
  |some a=>cases a<;>first|(refine no fun d S' e=>?_;simp only[VO.cP]at e;simp[VO.run,e,hx];done)|(refine yes _ fun d S' e=>Eq.trans (by simp only[VO.cP]at e;simp only[VO.run,e,hx];exact rfl) rfl)
 |ext x i =>
  cases hx:S.ev x with
  |none=>exact no fun d S' e=>by simp only[VO.cP]at e;simp[VO.run,e,hx]
  |some a =>
   cases a with
   |tuple vs =>
    cases hl:vs[i]? with
    |none=>exact no fun d S' e=>by simp only[VO.cP]at e;simp only[VO.run,e,hx,hl]
    |some v=>exact yes v fun d S' e=>by simp only[VO.cP]at e;simp only[VO.run,e,hx,hl]
   |_=>exact no fun d S' e=>by simp only[VO.cP]at e;simp[VO.run,e,hx]
 |pf sz x lo hi =>
  cases hx:S.ev x with
  |none=>exact no fun d S' e=>by simp only[VO.cP]at e;simp[VO.run,e,hx]
  |some a =>
   cases a with
   |slice tk m es =>
    cases hl:S.kD lo 0 with
    |none=>exact no fun d S' e=>by simp only[VO.cP]at e;simp[VO.run,e,hx,hl]
    |some p =>
     cases hh:S.kD hi es.length with
     |none=>exact no fun d S' e=>by simp only[VO.cP]at e;cases p<;>simp[VO.run,e,hx,hl,hh]
     |some q =>
      cases p with
      |int k1 l =>
       cases q with
       |int k2 h =>
        cases hc:(decide (0≤l)&&decide (l≤h)&&decide (h≤(es.length:Int))&&(m==sz)) with
        |false=>exact no fun d S' e=>by simp only[VO.cP]at e;simp only[VO.run,e,hx,hl,hh,hc,cond_false]
        |true=>exact yes (.slice none sz ((es.take h.toNat).drop l.toNat)) fun d S' e=>by simp only[VO.cP]at e;simp only[VO.run,e,hx,hl,hh,hc,cond_true]
       |_=>exact no fun d S' e=>by simp only[VO.cP]at e;simp[VO.run,e,hx,hl,hh]
      |_=>exact no fun d S' e=>by simp only[VO.cP]at e;simp[VO.run,e,hx,hl,hh]
   |aK =>
    cases hl:S.kD lo 0 with
    |none=>exact no fun d S' e=>by simp only[VO.cP]at e;simp[VO.run,e,hx,hl]
    |some p =>
     cases hh:S.kD hi 0 with
     |none=>exact no fun d S' e=>by simp only[VO.cP]at e;cases p<;>simp[VO.run,e,hx,hl,hh]
     |some q =>
      cases p with
      |int k1 l =>
       cases q with
       |int k2 h =>
        cases hc:(decide (l=0)&&decide (h=0)) with
        |false=>exact no fun d S' e=>by simp only[VO.cP]at e;simp only[VO.run,e,hx,hl,hh,hc,cond_false]
        |true=>exact yes .aK fun d S' e=>by simp only[VO.cP]at e;simp only[VO.run,e,hx,hl,hh,hc,cond_true]
       |_=>exact no fun d S' e=>by simp only[VO.cP]at e;simp[VO.run,e,hx,hl,hh]
      |_=>exact no fun d S' e=>by simp only[VO.cP]at e;simp[VO.run,e,hx,hl,hh]
   |cb id s n =>
    cases hl:S.kD lo 0 with
    |none=>exact no fun d S' e=>by simp only[VO.cP]at e;simp[VO.run,e,hx,hl]
    |some p =>
     cases hh:S.kD hi n with
     |none=>exact no fun d S' e=>by simp only[VO.cP]at e;cases p<;>simp[VO.run,e,hx,hl,hh]
     |some q =>
      cases p with
      |int k1 l =>
       cases q with
       |int k2 h =>
        cases hc:(decide (0≤l)&&decide (l≤h)&&decide (h≤(n:Int))&&(s==sz)) with
        |false=>exact no fun d S' e=>by simp only[VO.cP]at e;simp only[VO.run,e,hx,hl,hh,hc,cond_false]
        |true =>
         cases h1:decide (l=0) with
         |true=>exact yes (.cb id s h.toNat) fun d S' e=>by simp only[VO.cP]at e;simp only[VO.run,e,hx,hl,hh,hc,h1,cond_true]
         |false =>
          cases h2:decide (l<(n:Int)) with
          |true=>exact yes (.gj id s l.toNat (h-l).toNat) fun d S' e=>by simp only[VO.cP]at e;simp only[VO.run,e,hx,hl,hh,hc,h1,h2,cond_true,cond_false]
          |false=>exact no fun d S' e=>by simp only[VO.cP]at e;simp only[VO.run,e,hx,hl,hh,hc,h1,h2,cond_true,cond_false]
       |_=>exact no fun d S' e=>by simp only[VO.cP]at e;simp[VO.run,e,hx,hl,hh]
      |_=>exact no fun d S' e=>by simp only[VO.cP]at e;simp[VO.run,e,hx,hl,hh]
   |_=>exact no fun d S' e=>by simp only[VO.cP]at e;simp[VO.run,e,hx]
 |rR mx x y z =>
  cases hx:S.ev x with
  |none=>exact no fun d S' e=>by simp only[VO.cP]at e;simp[VO.run,e,hx]
  |some a =>
   cases hy:S.ev y with
   |none=>exact no fun d S' e=>by simp only[VO.cP]at e;cases a<;>simp[VO.run,e,hx,hy]
   |some b =>
    cases hz:S.ev z with
    |none=>exact no fun d S' e=>by simp only[VO.cP]at e;cases a<;>cases b<;>simp[VO.run,e,hx,hy,hz]
    |some c =>
     cases a with
     |int k1 a=>cases b with
      |int k2 b=>cases c with
       |int k3 c=>exact yes _ fun d S' e=>Eq.trans (by simp only[VO.cP]at e;simp only[VO.run,e,hx,hy,hz];exact rfl) rfl
       |_=>exact no fun d S' e=>by simp only[VO.cP]at e;simp[VO.run,e,hx,hy,hz]
      |_=>exact no fun d S' e=>by simp only[VO.cP]at e;simp[VO.run,e,hx,hy,hz]
     |_=>exact no fun d S' e=>by simp only[VO.cP]at e;simp[VO.run,e,hx,hy,hz]
 |mm mx x y =>
  cases hx:S.ev x with
  |none=>exact no fun d S' e=>by simp only[VO.cP]at e;simp[VO.run,e,hx]
  |some a =>
   cases hy:S.ev y with
   |none=>exact no fun d S' e=>by simp only[VO.cP]at e;cases a<;>simp[VO.run,e,hx,hy]
   |some b=>cases a<;>cases b<;>first|(refine no fun d S' e=>?_;simp only[VO.cP]at e;simp[VO.run,e,hx,hy];done)|(refine yes _ fun d S' e=>Eq.trans (by simp only[VO.cP]at e;simp only[VO.run,e,hx,hy];exact rfl) rfl)
 |pH f cap =>
  cases hx:nS S cap with
  |none=>exact no fun d S' e=>by simp only[VO.cP]at e;simp[VO.run,e,hx]
  |some vs =>
   cases hg:xG vs with
   |none=>exact no fun d S' e=>by simp only[VO.cP]at e;simp only[VO.run,e,hx,hg]
   |some us=>exact yes (.fn f us) fun d S' e=>by simp only[VO.cP]at e;simp only[VO.run,e,hx,hg]
 |_=>cases qz
theorem np{α β:Type}(c:Bool)(x y:Option α)(f:α→β):(bif c then x else y).map f=bif c then x.map f else y.map f:=by cases c<;>rfl
theorem Jl{S S':St}(e:S'.env=S.env)(vo:VO):VO.cP S' S vo:=by
 cases vo<;>first
  |trivial
  |exact vt e _
  |exact⟨vt e _,vt e _⟩
  |exact⟨vt e _,vt e _,vt e _⟩
  |exact⟨vt e _,fun n=>O8 e _ n,fun n=>O8 e _ n⟩
  |exact O9 e _
theorem XZ(C:bC)(d:Option Nat)(S:St)(vo:VO)(h:vo.frame=true):vo.run C d S=(vo.cY C S).map fun u=>u.app d S:=by
 obtain⟨r,hr⟩:=Pb C S vo h;rw[Fm C S vo h,hr d S (Jl (S':=S) rfl vo),hr (some 0) (St.mk S.env [] [] []) (Jl (by rfl) vo)]
 cases r<;>simp[qC,St.put]
theorem Pc(C:bC)(d:Option Nat)(S:St)(vo:VO):vo.run C d S=(vo.cY C S).map fun u=>u.app d S:=by
 cases vo with
 |mv x=>simp only[VO.run,VO.cY];cases S.ev x<;>simp[qC]
 |pick c a b =>
  simp only[VO.run,VO.cY];cases S.ev c with
  |none=>rfl
  |some v =>
   cases v<;>try rfl
   rename_i t;cases t<;>simp only[cond_true,cond_false]
   ·cases S.ev b<;>simp[qC]
   ·cases S.ev a<;>simp[qC]
 |obj id cells=>rfl
 |box id x =>
  simp only[VO.run,VO.cY];cases S.ev x with
  |none=>rfl
  |some v=>simp only[np];cases v.cells.all V.cM<;>rfl
 |ou sh x =>
  simp only[VO.run,VO.cY];cases S.ev x with
  |none=>rfl
  |some v=>simp only;cases lx sh v.cells<;>rfl
 |pc sh zero=>simp only[VO.run,VO.cY];cases lx sh zero<;>rfl
 |rO=>rfl
 |sY ag ks zero ok x k =>
  simp only[VO.run,VO.cY];split
  ·split
   ·split<;>simp_all[qC]
   ·simp_all
  ·simp_all
 |rP ag ks sh x k y =>
  simp only[VO.run,VO.cY];split
  ·split
   ·split<;>simp_all[Out.app,Out.bb]
   ·simp_all
  ·simp_all
 |build zero parts=>simp only[VO.run,VO.cY];cases pI S parts zero<;>simp[qC]
 |lit tok sh zero ln parts =>
  simp only[VO.run,VO.cY];cases rT S sh parts (List.replicate ln zero) with
  |none=>rfl
  |some rs=>cases tok<;>simp[qC]<;>rfl
 |load root sz p =>
  simp only[VO.run,VO.cY];cases S.ev p with
  |none=>rfl
  |some a =>
   simp only[np];cases root.fits a
   ·rfl
   ·simp only[cond_true]
    cases S.na a with
    |none=>rfl
    |some q =>
     obtain⟨cs,off⟩:=q;simp only;cases loadAt sz cs off<;>simp[qC]
 |pe f args ids =>
  simp only[VO.run,VO.cY];cases S.ev f with
  |none=>rfl
  |some a =>
   cases a<;>try rfl
   rename_i g cap;cases cap with
   |cons _ _=>rfl
   |nil =>
    cases oy S ids args with
    |none=>rfl
    |some vs =>
     simp only;cases C g vs [] with
     |none=>rfl
     |some q =>
      obtain⟨r,G⟩:=q;simp only[np];cases r.oz<;>simp[qC]
 |pd cf p =>
  simp only[VO.run,VO.cY];cases S.ev p with
  |none=>rfl
  |some a =>
   simp only;cases S.take cf a with
   |none=>rfl
   |some q=>rfl
 |pF cf p x =>
  simp only[VO.run,VO.cY];cases S.ev p with
  |none=>rfl
  |some a =>
   cases S.ev x with
   |none=>rfl
   |some v =>
    simp only;cases S.uf cf a v with
    |none=>rfl
    |some q=>rfl
 |store root sh p x =>
  simp only[VO.run,VO.cY];simp only[np];cases S.fits root p
  ·rfl
  ·simp only[cond_true]
   cases S.ev p with
   |none=>rfl
   |some a =>
    cases S.ev x with
    |none=>cases a<;>rfl
    |some v =>
     cases a<;>try rfl
     ·rename_i id off
      simp only;cases look id S.bb with
      |none=>rfl
      |some cs=>simp only[np];rfl
     ·rename_i id off
      simp only;cases S.az[id]? with
      |none=>rfl
      |some o =>
       cases o with
       |map es=>rfl
       |cells cs =>
        simp only;cases lx sh v.cells with
        |none=>rfl
        |some vs=>simp only[np];rfl
 |app cf src sh mx x y =>
  simp only[VO.run,VO.cY];cases S.ev x with
  |none=>rfl
  |some a =>
   cases S.ev y with
   |none =>
    cases a<;>try rfl
    rename_i tok n es;cases tok<;>rfl
   |some b =>
    cases a<;>try rfl
    ·simp only
     cases S.rows sh b with
     |none=>rfl
     |some ys=>simp only[np];rfl
    ·rename_i tok n es
     cases tok with
     |none=>rfl
     |some f =>
      simp only;cases S.rows sh b with
      |none=>rfl
      |some ys =>
       simp only;cases (bif src==some f then look f S.bm else none) with
       |none=>rfl
       |some k=>simp only[np];rfl
    ·simp only
     cases S.rows sh b with
     |none=>rfl
     |some ys=>simp only[np];rfl
 |m9 nw src sh x y =>
  simp only[VO.run,VO.cY];cases S.ev x with
  |none=>rfl
  |some a =>
   cases S.ev y with
   |none=>cases a<;>rfl
   |some b =>
    cases a<;>try rfl
    ·simp only
     cases S.rows sh b with
     |none=>rfl
     |some ys =>
      simp only[np];cases ys.isEmpty<;>simp[qC]<;>rfl
    ·simp only
     cases S.rows sh b with
     |none=>rfl
     |some ys =>
      simp only[np];cases ys.isEmpty<;>simp[qC]<;>rfl
    ·simp only
     cases S.rows sh b with
     |none=>rfl
     |some ys =>
      cases look src S.bb with
      |none=>rfl
      |some cs=>simp only[np];rfl
 |call alone f args reg =>
  cases alone
  ·simp only[VO.run,VO.cY]
   cases S.ev f with
   |none=>rfl
   |some a =>
    cases a<;>try rfl
    rename_i g cap;cases lS S args with
    |none=>rfl
    |some vs =>
     simp only;cases C g (vs++cap) S.az with
     |none=>rfl
     |some q=>rfl
  ·simp only[VO.run,VO.cY]
   cases S.ev f with
   |none=>rfl
   |some a =>
    cases a<;>try rfl
    rename_i g cap;cases kh S args with
    |none=>cases cap<;>rfl
    |some vs =>
     cases cap with
     |cons _ _=>rfl
     |nil =>
      simp only;cases C g vs [] with
      |none=>rfl
      |some q=>simp only[np];rfl
 |mG f args =>
  simp only[VO.run,VO.cY];cases S.ev f with
  |none=>rfl
  |some a =>
   cases a<;>try rfl
   rename_i g cap;cases lS S args with
   |none=>rfl
   |some vs =>
    simp only;cases C g (vs++cap) S.az with
    |none=>rfl
    |some q =>
     simp only[rd];split<;>simp[qC]
 |own f args id pos =>
  simp only[VO.run,VO.cY];cases S.ev f with
  |none=>rfl
  |some a =>
   cases a<;>try rfl
   rename_i g cap;cases kh S args with
   |none=>cases cap<;>rfl
   |some vs =>
    cases cap with
    |cons _ _=>rfl
    |nil =>
     simp only;cases C g vs [] with
     |none=>rfl
     |some q =>
      simp only;cases jN id pos q.1 with
      |none=>rfl
      |some p =>
       obtain⟨v,o⟩:=p;cases o with
       |none=>simp[qC]
       |some cs=>rfl
 |pG f args id =>
  simp only[VO.run,VO.cY];cases S.ev f with
  |none=>rfl
  |some a =>
   cases kh S args with
   |none=>cases a<;>try rfl
          rename_i g cap;cases cap<;>rfl
   |some vs =>
    cases a<;>try rfl
    rename_i g cap;cases cap with
    |cons _ _=>rfl
    |nil =>
     simp only;cases C g vs [] with
     |none=>rfl
     |some q =>
      simp only;cases jN id 0 q.1 with
      |none=>rfl
      |some p =>
       obtain⟨v,o⟩:=p;cases o with
       |none=>cases v<;>rfl
       |some cs=>cases v<;>try rfl
                 simp only[np];rfl
 |rQ k f i x =>
  simp only[VO.run,VO.cY,St.mut];cases S.ev x with
  |none=>rfl
  |some a =>
   cases a<;>try rfl
   simp only;cases look i S.bb with
   |none=>rfl
   |some cs =>
    simp only[np];congr 1;generalize ug _=z;cases z<;>rfl
 |mf id zero n =>
  simp only[VO.run,VO.cY];cases S.ev n with
  |none=>rfl
  |some a =>
   cases a<;>try rfl
   simp only[np];rfl
 |grow f id n =>
  simp only[VO.run,VO.cY];cases S.ev n with
  |none=>rfl
  |some a =>
   cases a<;>try rfl
   rename_i k _;cases k<;>try rfl
   simp only[np];rfl
 |qm id src x y =>
  simp only[VO.run,VO.cY];cases S.ev x with
  |none=>rfl
  |some a =>
   cases S.ev y with
   |none=>cases a<;>rfl
   |some b =>
    cases a<;>try rfl
    simp only;cases look id S.bb with
    |none=>rfl
    |some cs =>
     cases S.uY src b with
     |none=>rfl
     |some us=>simp only[np];rfl
 |_=>exact XZ C d S _ rfl
def bB.keys:bB→List Key
 |.t s=>[.e s]
 |.c _=>[]
def jx.keys:jx→List Key
 |.loc id=>[.o id]
 |.az=>[.g]
 |.jk=>[]
def Fo:Option bB→List Key
 |some o=>o.keys
 |none=>[]
def CJ:Option Nat→List Key
 |some f=>[.t f]
 |none=>[]
def Pd:Option Nat→List Key
 |some j=>[.o j]
 |none=>[]
def VO.rd:VO→List Key
 |.grow _ _ x | .ud x=>x.keys
 |.qm id src x y=>.o id::(Pd src++x.keys++y.keys)
 |.rQ _ _ id x=>.o id::x.keys
 |.sZ _=>[]
 |.qV _ x=>x.keys
 |.pd _ x=>.g::x.keys
 |.pF f x y=>.g::.t f::(x.keys++y.keys)
 |.mv x | .box _ x | .qn x | .un _ x | .conv _ x | .qW _ x | .field _ _ x | .len x | .s6 x | .ext x _ | .mf _ _ x=>x.keys
 |.pick a b c=>a.keys++b.keys++c.keys
 |.obj _ _=>[]
 |.ou _ x=>.g::x.keys
 |.pc _ _ | .rO=>[.g]
 |.sY _ _ _ _ x k=>.g::(x.keys++k.keys)
 |.rP _ _ _ x k y=>.g::(x.keys++k.keys++y.keys)
 |.build _ ps=>ps.flatMap fun p=>p.2.2.keys
 |.lit _ _ _ _ ps=>ps.flatMap fun p=>p.2.keys
 |.load root _ x=>root.keys++x.keys
 |.store root _ x y=>root.keys++x.keys++y.keys
 |.bin _ x y | .beq _ x y | .gW _ _ x y | .eg _ _ x y | .idx _ _ _ x y | .mm _ x y=>x.keys++y.keys
 |.rR _ x y z=>x.keys++y.keys++z.keys
 |.app _ src _ _ x y=>CJ src++x.keys++y.keys
 |.m9 _ src _ x y=>.o src::(x.keys++y.keys)
 |.call alone f args _=>(bif alone then [] else [.g])++f.keys++args.flatMap fun p=>p.2.keys
 |.own f args _ _=>f.keys++args.flatMap fun p=>p.2.keys
 |.pG f args _=>.g::(f.keys++args.flatMap fun p=>p.2.keys)
 |.pe f args ids=>ids.map Key.o++(f.keys++args.flatMap fun p=>p.2.2.keys)
 |.mG f args=>.g::(f.keys++args.flatMap fun p=>p.2.keys)
 |.pf _ x lo hi=>x.keys++Fo lo++Fo hi
 |.pH _ cap=>cap.flatMap bB.keys
def VO.wr:VO→List Key
 |.obj id _ | .box id _ | .mf id _ _ | .grow _ id _ | .qm id _ _ _=>[.o id]
 |.ou _ _ | .pc _ _ | .rO | .rP .. | .pG .. => [.g]
 |.lit (some f) _ _ _ _=>[.t f]
 |.store (.loc id) _ _ _=>[.o id]
 |.store _ _ _ _=>[.g]
 |.app f src _ _ _ _=>.t f::CJ src
 |.pd f _ | .pF f _ _=>[.g,.t f]
 |.m9 nw src _ _ _=>[.o nw,.o src]
 |.call alone _ _ reg=>(bif alone then [] else [.g])++(xZ reg).map .t
 |.own _ _ id _=>[.o id]
 |.rQ _ _ id _=>[.o id]
 |_=>[]
def bI.rd(o:bI):List Key:=(match o.guard with|some (s,_)=>[.e s] | none=>[])++o.op.rd
def bI.wr(o:bI):List Key:=(match o.dst with|some d=>[.e d] | none=>[])++o.op.wr
def fS(S S':St)(K:List Key):Prop:=∀k∈K,same S S' k
section
variable {S S':St} {C:bC}
theorem eu{x:bB}(h:fS S S' x.keys):S.ev x=S'.ev x:=by
 cases x with
 |t s=>exact h (.e s) (by simp[bB.keys])
 |c v=>rfl
theorem fS.left{K L:List Key}(h:fS S S' (K++L)):fS S S' K:=fun k hk=>h k (List.mem_append_left _ hk)
theorem fS.right{K L:List Key}(h:fS S S' (K++L)):fS S S' L:=fun k hk=>h k (List.mem_append_right _ hk)
theorem Pe:∀{xs:List bB},fS S S' (xs.flatMap bB.keys)→nS S xs=nS S' xs
 |[],_=>rfl
 |x::xs,h=>by
  rw[List.flatMap_cons]at h;simp only[nS,eu h.left,Pe h.right]
theorem Pf:∀{ps:List (Nat×Nat×bB)} {cs:List V},fS S S' (ps.flatMap fun p=>p.2.2.keys)→pI S ps cs=pI S' ps cs
 |[],_,_=>rfl
 |(off,n,x)::ps,cs,h=>by
  rw[List.flatMap_cons]at h;simp only[pI,eu (x:=x) h.left];split
  ·rw[Pf h.right]
  ·rfl
theorem Pg{sh:Sh}:∀{ps:List (Nat×bB)} {rs:List (List V)},fS S S' (ps.flatMap fun p=>p.2.keys)→rT S sh ps rs=rT S' sh ps rs
 |[],_,_=>rfl
 |(i,x)::ps,rs,h=>by
  rw[List.flatMap_cons]at h;simp only[rT,eu (x:=x) h.left];split
  ·split
   ·rw[Pg h.right]
   ·rfl
  ·rfl
theorem Jm:∀{ps:List (Sh×bB)},fS S S' (ps.flatMap fun p=>p.2.keys)→lS S ps=lS S' ps
 |[],_=>rfl
 |(sh,x)::ps,h=>by
  rw[List.flatMap_cons]at h;simp only[lS,eu (x:=x) h.left,Jm h.right]
theorem Fp:∀{ps:List (Sh×bB)},fS S S' (ps.flatMap fun p=>p.2.keys)→kh S ps=kh S' ps
 |[],_=>rfl
 |(sh,x)::ps,h=>by
  rw[List.flatMap_cons]at h;simp only[kh,eu (x:=x) h.left,Fp h.right]
theorem Ph{sh:Sh}{v:V}:S.rows sh v=S'.rows sh v:=by
 unfold St.rows;split<;>rfl
theorem X0{vo:VO}(h:fS S S' vo.rd):VO.cP S' S vo:=by
 cases vo with
 |qn x=>exact(eu h).symm
 |un op x=>exact(eu h).symm
 |conv k x=>exact(eu h).symm
 |qW off x=>exact(eu h).symm
 |field off sz x=>exact(eu h).symm
 |qV neg x=>exact(eu h).symm
 |len x=>exact(eu h).symm
 |s6 x=>exact(eu h).symm
 |ud x=>exact(eu h).symm
 |ext x i=>exact(eu h).symm
 |bin op x y=>exact⟨(eu h.left).symm,(eu h.right).symm⟩
 |beq neg x y=>exact⟨(eu h.left).symm,(eu h.right).symm⟩
 |gW neg ks x y=>exact⟨(eu h.left).symm,(eu h.right).symm⟩
 |eg arr sz x y=>exact⟨(eu h.left).symm,(eu h.right).symm⟩
 |idx n sz ag x y=>exact⟨(eu h.left).symm,(eu h.right).symm⟩
 |mm mx x y=>exact⟨(eu h.left).symm,(eu h.right).symm⟩
 |rR mx x y z =>
  have h1:fS S S' (x.keys++y.keys++z.keys):=h;exact⟨(eu h1.left.left).symm,(eu h1.left.right).symm,(eu h1.right).symm⟩
 |pf sz x lo hi =>
  have h1:fS S S' (x.keys++Fo lo++Fo hi):=h;refine⟨(eu h1.left.left).symm,fun n=>?_,fun n=>?_⟩
  ·cases lo with
   |none=>rfl
   |some o=>exact(eu h1.left.right).symm
  ·cases hi with
   |none=>rfl
   |some o=>exact(eu h1.right).symm
 |pH f cap=>exact(Pe h).symm
 |_=>trivial
theorem X1{vo:VO}(qz:vo.frame=true)(h:fS S S' vo.rd):vo.cY C S=vo.cY C S':=by
 obtain⟨r,hr⟩:=Pb C S vo qz;rw[Fm C S vo qz,Fm C S' vo qz,hr (some 0) _ (Jl (by rfl) vo)]
 have h1:=X0 h;have h2:VO.cP (St.mk S'.env [] [] []) S vo:=by
  cases vo<;>simp only[VO.cP,Jj,XY,O7]at h1 ⊢ <;> exact h1
 rw[hr (some 0) _ h2];cases r<;>rfl
theorem X2{root:jx}{a:V}(hf:root.fits a=true)(h:fS S S' root.keys):S.na a=S'.na a:=by
 cases root with
 |loc i =>
  cases a<;>simp[jx.fits]at hf;rename_i id off;subst hf;have:look i S.bb=look i S'.bb:=h (.o i) (by simp[jx.keys])
  simp only[St.na,this]
 |az =>
  cases a<;>simp[jx.fits]at hf;have:S.az=S'.az:=h .g (by simp[jx.keys])
  simp only[St.na,this]
 |jk =>
  cases a<;>simp[jx.fits]at hf;rfl
theorem Pj{ids:List Nat}(ho:∀id∈ids,look id S.bb=look id S'.bb):∀{ps:List (Sh×Sh×bB)},fS S S' (ps.flatMap fun p=>p.2.2.keys)→oy S ids ps=oy S' ids ps
 |[],_=>rfl
 |(rs,sh,x)::ps,h=>by
  rw[List.flatMap_cons]at h;have h1:S.ev x=S'.ev x:=eu h.left;have h2:=Pj ho (ps:=ps) h.right;have h3:∀id s n,S.zY ids rs id s n=S'.zY ids rs id s n:=fun id s n=>by
   unfold St.zY;cases hc:ids.contains id with
   |false=>rfl
   |true=>simp only[cond_true,St.rS,ho id (by simpa using hc)]
  simp only[oy,h1,h2];cases S'.ev x with
  |none=>rfl
  |some v =>
   cases v<;>try rfl
   rename_i id s n;simp only[h3 id s n]
theorem Pk{vo:VO}(h:fS S S' vo.rd):vo.cY C S=vo.cY C S':=by
 cases vo with
 |mv x=>simp only[VO.cY,eu (x:=x) h]
 |pick c a b =>
  have h1:fS S S' (c.keys++a.keys++b.keys):=h;simp only[VO.cY,eu (x:=c) h1.left.left,eu (x:=a) h1.left.right,eu (x:=b) h1.right]
 |obj id cells=>rfl
 |box id x=>simp only[VO.cY,eu (x:=x) h]
 |ou sh x =>
  have hg:S.az=S'.az:=h .g (by simp[VO.rd])
  have hx:fS S S' x.keys:=fun k hk=>h k (by simp[VO.rd,hk])
  simp only[VO.cY,eu hx,hg]
 |pc sh zero =>
  have hg:S.az=S'.az:=h .g (by simp[VO.rd])
  simp only[VO.cY,hg]
 |rO =>
  have hg:S.az=S'.az:=h .g (by simp[VO.rd])
  simp only[VO.cY,hg]
 |sY ag ks zero ok x k =>
  have hg:S.az=S'.az:=h .g (by simp[VO.rd])
  have hx:fS S S' x.keys:=fun k hk=>h k (by simp[VO.rd,hk])
  have hk:fS S S' k.keys:=fun k hk=>h k (by simp[VO.rd,hk])
  simp only[VO.cY,eu hx,eu hk,hg]
 |rP ag ks sh x k y =>
  have hg:S.az=S'.az:=h .g (by simp[VO.rd])
  have hx:fS S S' x.keys:=fun k hk=>h k (by simp[VO.rd,hk])
  have hk:fS S S' k.keys:=fun k hk=>h k (by simp[VO.rd,hk])
  have hy:fS S S' y.keys:=fun k hk=>h k (by simp[VO.rd,hk])
  simp only[VO.cY,eu hx,eu hk,eu hy,hg]
 |build zero ps=>simp only[VO.cY,Pf (ps:=ps) h]
 |lit tok sh zero ln ps=>simp only[VO.cY,Pg (ps:=ps) h]
 |load root sz x =>
  have h1:fS S S' (root.keys++x.keys):=h;simp only[VO.cY,eu (x:=x) h1.right];cases S'.ev x with
  |none=>rfl
  |some a =>
   simp only;cases hf:root.fits a with
   |false=>rfl
   |true=>simp only[cond_true,X2 hf h1.left]
 |pe f args ids =>
  have h1:fS S S' (ids.map Key.o++(f.keys++args.flatMap fun p=>p.2.2.keys)):=h;have h2:∀id∈ids,look id S.bb=look id S'.bb:=fun id hi=>h1 (.o id) (List.mem_append_left _ (List.mem_map.2 ⟨id,hi,rfl⟩));simp only[VO.cY,eu (x:=f) h1.right.left,Pj h2 (ps:=args) h1.right.right]
 |pd cf x =>
  have hg:S.az=S'.az:=h .g (by simp[VO.rd])
  have hx:fS S S' x.keys:=fun k hk=>h k (by simp[VO.rd,hk])
  have ht:∀a,S.take cf a=S'.take cf a:=fun a=>by cases a<;>simp only[St.take,hg]
  simp only[VO.cY,eu hx,ht]
 |pF cf x y =>
  have hg:S.az=S'.az:=h .g (by simp[VO.rd])
  have hf:look cf S.bm=look cf S'.bm:=h (.t cf) (by simp[VO.rd])
  have hx:fS S S' x.keys:=fun k hk=>h k (by simp[VO.rd,hk])
  have hy:fS S S' y.keys:=fun k hk=>h k (by simp[VO.rd,hk])
  have ht:∀a b,S.uf cf a b=S'.uf cf a b:=fun a b=>by
   unfold St.uf;split<;>first|rfl|simp only[hg,hf]
  simp only[VO.cY,eu hx,eu hy,ht]
 |store root sh x y =>
  have h1:fS S S' (root.keys++x.keys++y.keys):=h;have hx:=eu (x:=x) h1.left.right;have hy:=eu (x:=y) h1.right;have fX:S.fits root x=S'.fits root x:=by simp only[St.fits,hx]
  simp only[VO.cY,fX,hx,hy];cases hf:S'.fits root x with
  |false=>rfl
  |true =>
   simp only[cond_true];simp only[St.fits]at hf;cases hp:S'.ev x with
   |none=>rfl
   |some a =>
    rw[hp]at hf;simp only at hf;cases root with
    |loc i =>
     cases a<;>simp[jx.fits]at hf;rename_i id off;subst hf;have:look i S.bb=look i S'.bb:=h (.o i) (by simp[VO.rd,jx.keys])
     cases S'.ev y with
     |none=>rfl
     |some v=>simp only[this]
    |az =>
     cases a<;>simp[jx.fits]at hf;have:S.az=S'.az:=h .g (by simp[VO.rd,jx.keys])
     cases S'.ev y with
     |none=>rfl
     |some v=>simp only[this]
    |jk =>
     cases a<;>simp[jx.fits]at hf;rfl
 |app cf src sh mx x y =>
  have h1:fS S S' (CJ src++x.keys++y.keys):=h;have ht:∀f,(bif src==some f then look f S.bm else none)=(bif src==some f then look f S'.bm else none):=fun f=>by
   cases hs:src==some f with
   |false=>rfl
   |true =>
    have:=eq_of_beq hs;subst this;exact h (.t f) (by simp[VO.rd,CJ])
  have hr:∀v,S.rows sh v=S'.rows sh v:=fun v=>Ph;simp only[VO.cY,eu (x:=x) h1.left.right,eu (x:=y) h1.right,ht,hr]
 |call alone f args reg =>
  have h1:fS S S' ((bif alone then [] else [.g])++f.keys++args.flatMap fun p=>p.2.keys):=h;cases alone
  ·have hg:S.az=S'.az:=h .g (by simp[VO.rd])
   simp only[VO.cY,eu (x:=f) h1.left.right,Jm (ps:=args) h1.right,hg]
  ·simp only[VO.cY,eu (x:=f) h1.left.right,Fp (ps:=args) h1.right]
 |mG f args =>
  have h1:fS S S' ([.g]++(f.keys++args.flatMap fun p=>p.2.keys)):=h;have hg:S.az=S'.az:=h .g (by simp[VO.rd])
  simp only[VO.cY,eu (x:=f) h1.right.left,Jm (ps:=args) h1.right.right,hg]
 |own f args id pos =>
  have h1:fS S S' (f.keys++args.flatMap fun p=>p.2.keys):=h;simp only[VO.cY,eu (x:=f) h1.left,Fp (ps:=args) h1.right]
 |pG f args id =>
  have h1:fS S S' ([.g]++(f.keys++args.flatMap fun p=>p.2.keys)):=h;have hg:S.az=S'.az:=h .g (by simp[VO.rd])
  simp only[VO.cY,eu (x:=f) h1.right.left,Fp (ps:=args) h1.right.right,hg]
 |mf id zero x=>simp only[VO.cY,eu (x:=x) h]
 |grow f id x=>simp only[VO.cY,eu (x:=x) h]
 |qm id src x y =>
  have ho:look id S.bb=look id S'.bb:=h (.o id) (by simp[VO.rd])
  have hj:∀j,src=some j→look j S.bb=look j S'.bb:=fun j e=>h (.o j) (by simp[VO.rd,e,Pd])
  have hx:fS S S' x.keys:=fun k hk=>h k (by simp[VO.rd,hk])
  have hy:fS S S' y.keys:=fun k hk=>h k (by simp[VO.rd,hk])
  have hr:∀v,S.uY src v=S'.uY src v:=fun v=>by
   unfold St.uY;cases src with
   |none=>rfl
   |some j=>simp only[hj j rfl]
  simp only[VO.cY,eu hx,eu hy,ho,hr]
 |rQ k f i x =>
  have ho:look i S.bb=look i S'.bb:=h (.o i) (by simp[VO.rd])
  have hx:fS S S' x.keys:=fun k hk=>h k (by simp[VO.rd,hk])
  simp only[VO.cY,eu hx,ho]
 |m9 nw src sh x y =>
  have ho:look src S.bb=look src S'.bb:=h (.o src) (by simp[VO.rd])
  have hx:fS S S' x.keys:=fun k hk=>h k (by simp[VO.rd,hk])
  have hy:fS S S' y.keys:=fun k hk=>h k (by simp[VO.rd,hk])
  have hr:∀v,S.rows sh v=S'.rows sh v:=fun v=>Ph;simp only[VO.cY,eu hx,eu hy,ho,hr]
 |_=>exact X1 rfl h
theorem Jo{α:Type}{s k:Nat}{v:α}{r:List (Nat×α)}(h:k≠s):look s ((k,v)::r)=look s r:=by rw[dQ,if_neg h]
theorem Jp{u:Out}{d:Option Nat}{k:Key}(h:same S S' k):same (u.app d S) (u.app d S') k:=by
 obtain⟨v,obj,bm,az,del⟩:=u;cases k with
 |e s =>
  have h:look s S.env=look s S'.env:=h;cases v with
  |none=>exact h
  |some v =>
   cases d with
   |none=>exact h
   |some d=>show look s ((d,v)::S.env)=look s ((d,v)::S'.env);rw[dQ,dQ,h]
 |o id =>
  have h:look id S.bb=look id S'.bb:=h;have:look id (Out.bb ⟨v,obj,bm,az,del⟩ S.bb)=look id (Out.bb ⟨v,obj,bm,az,del⟩ S'.bb):=by
   cases obj with
   |none=>exact h
   |some p =>
    obtain⟨i,cs⟩:=p;cases del with
    |none=>simp only[Out.bb,dQ,h]
    |some q=>simp only[Out.bb,dQ,rn,h]
  cases v with
  |none=>exact this
  |some v=>cases d<;>exact this
 |t f =>
  have h:look f S.bm=look f S'.bm:=h;have:look f (bm++S.bm)=look f (bm++S'.bm):=by rw[vj,vj,h]
  cases v with
  |none=>exact this
  |some v=>cases d<;>exact this
 |g =>
  have h:S.az=S'.az:=h;have:(match az with|some G=>G|none=>S.az)=(match az with|some G=>G|none=>S'.az):=by
   cases az with
   |none=>exact h
   |some G=>rfl
  cases v with
  |none=>exact this
  |some v=>cases d<;>exact this
def AE(u:Out)(K:List Key):Prop :=
 (∀p,u.obj=some p→Key.o p.1∈K∧∀i,u.del=some i→Key.o i∈K)∧(∀p∈u.bm,Key.t p.1∈K)∧(∀G,u.az=some G→Key.g∈K)
theorem X3{u:Out}{d:Option Nat}{K:List Key}(hw:AE u K){k:Key}(hk:k∉(match d with|some d=>[Key.e d] | none=>[])++K):same (u.app d S) S k:=by
 obtain⟨v,obj,bm,az,del⟩:=u;obtain⟨h1,h2,h3⟩:=hw;simp only at h1 h2 h3;have Fq:k∉K:=fun h=>hk (List.mem_append_right _ h);cases k with
 |e s =>
  cases v with
  |none=>rfl
  |some v =>
   cases d with
   |none=>rfl
   |some d =>
    have:d≠s:=fun e=>hk (by subst e;simp)
    exact Jo this
 |o id =>
  have:look id (Out.bb ⟨v,obj,bm,az,del⟩ S.bb)=look id S.bb:=by
   cases obj with
   |none=>rfl
   |some p =>
    obtain⟨i,cs⟩:=p;obtain⟨q1,q2⟩:=h1 _ rfl;have cF:i≠id:=fun e=>Fq (by rw[←e];exact q1)
    cases del with
    |none=>exact Jo cF
    |some q =>
     simp only[Out.bb];rw[Jo cF,rn,if_neg (fun e=>Fq (by rw[e];exact q2 q rfl))]
  cases v with
  |none=>exact this
  |some v=>cases d<;>exact this
 |t f =>
  have:look f (bm++S.bm)=look f S.bm:=by
   rw[vj];cases hl:look f bm with
   |none=>rfl
   |some j=>exact absurd (h2 _ (r9 hl)) Fq
  cases v with
  |none=>exact this
  |some v=>cases d<;>exact this
 |g =>
  cases az with
  |none =>
   cases v with
   |none=>rfl
   |some v=>cases d<;>rfl
  |some G=>exact absurd (h3 G rfl) Fq
theorem Pl{vo:VO}{u:Out}(h:vo.cY C S=some u):AE u vo.wr:=by
 have val:∀v K,AE (Out.val v) K:=fun v K=>⟨by simp[Out.val],by simp[Out.val],by simp[Out.val]⟩
 have frame:vo.frame=true→AE u vo.wr:=fun qz=>by
  rw[Fm C S vo qz]at h;cases hr:vo.run C (some 0) (St.mk S.env [] [] []) with
  |none=>rw[hr]at h;cases h
  |some S1 =>
   rw[hr]at h;simp only[Option.bind_some]at h;split at h
   ·cases h;exact val _ _
   ·cases h
 cases vo with
 |mv x =>
  simp only[VO.cY]at h;split at h
  ·cases h;exact val _ _
  ·cases h
 |pick c a b =>
  simp only[VO.cY]at h;split at h
  ·split at h
   ·cases h;exact val _ _
   ·cases h
  ·cases h
 |obj id cells=>simp only[VO.cY]at h;cases h;exact⟨by simp[VO.wr],by simp,by simp⟩
 |box id x =>
  simp only[VO.cY]at h;split at h
  ·rename_i v _
   cases hc:v.cells.all V.cM with
   |false=>simp[hc]at h
   |true=>simp only[hc,cond_true]at h;cases h;exact⟨by simp[VO.wr],by simp,by simp⟩
  ·cases h
 |ou sh x =>
  simp only[VO.cY]at h;split at h
  ·split at h
   ·cases h;exact⟨by simp,by simp,by simp[VO.wr]⟩
   ·cases h
  ·cases h
 |pc sh zero =>
  simp only[VO.cY]at h;split at h
  ·cases h;exact⟨by simp,by simp,by simp[VO.wr]⟩
  ·cases h
 |rO =>
  simp only[VO.cY]at h;cases h;exact⟨by simp,by simp,by simp[VO.wr]⟩
 |sY ag ks zero ok x k =>
  simp only[VO.cY]at h;split at h
  ·split at h
   ·split at h
    ·cases h;exact val _ _
    ·cases h;exact val _ _
    ·cases h
   ·cases h
  ·cases h
 |rP ag ks sh x k y =>
  simp only[VO.cY]at h;split at h
  ·split at h
   ·split at h
    ·cases h;exact⟨by simp,by simp,by simp[VO.wr]⟩
    ·cases h;exact⟨by simp,by simp,by simp[VO.wr]⟩
    ·cases h
   ·cases h
  ·cases h
 |build zero ps =>
  simp only[VO.cY]at h;split at h
  ·cases h;exact val _ _
  ·cases h
 |lit tok sh zero ln ps =>
  simp only[VO.cY]at h;split at h
  ·split at h
   ·cases h;exact⟨by simp,by simp[VO.wr],by simp⟩
   ·cases h;exact val _ _
  ·cases h
 |load root sz x =>
  simp only[VO.cY]at h;split at h
  ·rename_i a _
   cases hf:root.fits a with
   |false=>simp[hf]at h
   |true =>
    simp only[hf,cond_true]at h;split at h
    ·split at h
     ·cases h;exact val _ _
     ·cases h
    ·cases h
  ·cases h
 |pe f args ids =>
  simp only[VO.cY]at h;split at h
  ·split at h
   ·rename_i r _ _
    cases hs:r.oz with
    |false=>rw[hs]at h;cases h
    |true=>rw[hs]at h;cases h;exact val _ _
   ·cases h
  ·cases h
 |pd cf x =>
  simp only[VO.cY]at h;split at h
  ·split at h
   ·rename_i v ts G ht
    cases h;unfold St.take at ht;split at ht
    ·split at ht
     ·split at ht
      ·cases ht;exact⟨by simp,by simp[VO.wr],by simp[VO.wr]⟩
      ·cases ht;exact⟨by simp,by simp,by simp⟩
      ·cases ht
     ·cases ht
    ·cases ht
   ·cases h
  ·cases h
 |pF cf x y =>
  simp only[VO.cY]at h;split at h
  ·split at h
   ·rename_i ts G ht
    cases h;unfold St.uf at ht;split at ht
    ·split at ht
     ·rename_i k _ _
      rcases Bool.eq_false_or_eq_true (k==_&&Nat.blt _ _) with hc|hc
      ·rw[hc]at ht;cases ht;exact⟨by simp,by simp[VO.wr],by simp[VO.wr]⟩
      ·rw[hc]at ht;cases ht
     ·cases ht
    ·cases ht
   ·cases h
  ·cases h
 |store root sh x y =>
  simp only[VO.cY]at h;cases hf:S.fits root x with
  |false=>simp[hf]at h
  |true =>
   simp only[hf,cond_true]at h;simp only[St.fits]at hf;split at h
   ·rename_i id off v hx hy
    rw[hx]at hf;split at h
    ·rename_i cs _
     cases hc:(v.cells.length==sh.length&&Nat.ble (off+sh.length) cs.length&&v.cells.all V.cM&&Nat.blt 0 sh.length) with
     |false=>simp[hc]at h
     |true =>
      simp only[hc,cond_true]at h;cases h;cases root with
      |loc i=>simp[jx.fits]at hf;subst hf;exact⟨by simp[VO.wr],by simp,by simp⟩
      |az=>simp[jx.fits]at hf
      |jk=>simp[jx.fits]at hf
    ·cases h
   ·rename_i id off v hx hy
    rw[hx]at hf;split at h
    ·rename_i cs _
     split at h
     ·rename_i vs _
      cases hc:(Nat.ble (off+vs.length) cs.length&&Nat.blt 0 vs.length) with
      |false=>simp[hc]at h
      |true =>
       simp only[hc,cond_true]at h;cases h;cases root with
       |az=>exact⟨by simp,by simp,by simp[VO.wr]⟩
       |loc i=>simp[jx.fits]at hf
       |jk=>simp[jx.fits]at hf
     ·cases h
    ·cases h
   ·cases h
 |app cf src sh mx x y =>
  simp only[VO.cY]at h;split at h
  ·split at h
   ·rename_i ys _
    cases hc:Nat.ble ys.length mx with
    |false=>simp[hc]at h
    |true=>simp only[hc,cond_true]at h;cases h;exact⟨by simp,by simp[VO.wr],by simp⟩
   ·cases h
  ·split at h
   ·rename_i ys _
    cases hc:Nat.ble ys.length mx with
    |false=>simp[hc]at h
    |true=>simp only[hc,cond_true]at h;cases h;exact⟨by simp,by simp[VO.wr],by simp⟩
   ·cases h
  ·rename_i f n es _ _ _
   split at h
   ·rename_i ys _
    split at h
    ·rename_i k hk
     cases hc:(k==es.length&&(n==sh.length)&&Nat.ble (es.length+ys.length) mx) with
     |false=>simp[hc]at h
     |true =>
      simp only[hc,cond_true]at h;cases h;cases hs:src==some f with
      |false=>simp[hs]at hk
      |true =>
       have:=eq_of_beq hs;subst this;exact⟨by simp,by simp[VO.wr,CJ],by simp⟩
    ·cases h
   ·cases h
  ·cases h
 |call alone f args reg =>
  have sa:∀r:V,∀p∈(recv reg r).2,Key.t p.1∈(xZ reg).map Key.t:=fun r p hp=>by
   rw[E4]at hp;obtain⟨q,t,n,es,_,h2,_⟩:=Ao reg _ 0 p.1 p.2 hp;exact List.mem_map.2 ⟨p.1,List.mem_map.2 ⟨_,r9 h2,rfl⟩,rfl⟩
  cases alone
  ·simp only[VO.cY]at h
   split at h
   ·split at h
    ·rename_i r G hc
     cases h;exact⟨by simp,fun p hp=>List.mem_append_right _ (sa r p hp),by simp[VO.wr]⟩
    ·cases h
   ·cases h
  ·simp only[VO.cY]at h
   split at h
   ·split at h
    ·rename_i r G hc
     cases hl:r.lone with
     |false=>simp[hl]at h
     |true =>
      simp only[hl,cond_true]at h;cases h;exact⟨by simp,fun p hp=>List.mem_append_right _ (sa r p hp),by simp⟩
    ·cases h
   ·cases h
 |mG f args =>
  simp only[VO.cY]at h;split at h
  ·split at h
   ·simp only[rd]at h
    split at h
    ·cases h;exact⟨by simp[Out.val],by simp[Out.val],by simp[Out.val]⟩
    ·cases h
   ·cases h
  ·cases h
 |own f args id pos =>
  simp only[VO.cY]at h;split at h
  ·split at h
   ·split at h
    ·cases h;exact⟨by simp[VO.wr],by simp,by simp⟩
    ·cases h;exact val _ _
    ·cases h
   ·cases h
  ·cases h
 |m9 nw src sh x y =>
  simp only[VO.cY]at h;split at h
  ·split at h
   ·rename_i ys _
    cases hc:ys.isEmpty with
    |true=>simp only[hc,cond_true]at h;cases h;exact val _ _
    |false =>
     simp only[hc,cond_false]at h;cases hc:Nat.ble ys.length lim with
     |false=>simp[hc]at h
     |true=>simp only[hc,cond_true]at h;cases h;exact⟨by simp[VO.wr],by simp,by simp⟩
   ·cases h
  ·split at h
   ·rename_i ys _
    cases hc:ys.isEmpty with
    |true=>simp only[hc,cond_true]at h;cases h;exact val _ _
    |false =>
     simp only[hc,cond_false]at h;cases hc:Nat.ble ys.length lim with
     |false=>simp[hc]at h
     |true=>simp only[hc,cond_true]at h;cases h;exact⟨by simp[VO.wr],by simp,by simp⟩
   ·cases h
  ·rename_i id s ln _ _ _
   split at h
   ·rename_i ys cs _ _
    cases hc:((id==src)&&(s==sh.length)&&(cs.length==ln*s)&&Nat.ble (ln+ys.length) lim) with
    |false=>simp[hc]at h
    |true=>simp only[hc,cond_true]at h;cases h;exact⟨by simp[VO.wr],by simp,by simp⟩
   ·cases h
  ·cases h
 |rQ k f i x =>
  simp only[VO.cY]at h;split at h
  ·rename_i id s n _
   split at h
   ·rename_i cs _
    cases hc:(id==i&&(s==1)&&Nat.ble n cs.length&&Nat.ble n lim&&Nat.blt 0 n) with
    |false=>simp[hc]at h
    |true =>
     simp only[hc,cond_true]at h;split at h
     ·cases h;exact⟨by simp[VO.wr],by simp,by simp⟩
     ·cases h
   ·cases h
  ·cases h
 |mf id zero x =>
  simp only[VO.cY]at h;split at h
  ·rename_i k n _
   cases hc:(decide (0≤n)&&decide (n≤(lim:Int))) with
   |false=>simp[hc]at h
   |true=>simp only[hc,cond_true]at h;cases h;exact⟨by simp[VO.wr],by simp,by simp⟩
  ·cases h
 |pG f args id =>
  simp only[VO.cY]at h;split at h
  ·split at h
   ·split at h
    ·rename_i i n len cs _
     cases hc:(i==id&&Nat.blt 0 cs.length&&Nat.blt 0 len&&cs.all V.sc) with
     |false=>simp[hc]at h
     |true=>simp only[hc,cond_true]at h;cases h;exact⟨by simp,by simp,by simp[VO.wr]⟩
    ·cases h;exact⟨by simp,by simp,by simp[VO.wr]⟩
    ·cases h
   ·cases h
  ·cases h
 |grow f id x =>
  simp only[VO.cY]at h;split at h
  ·rename_i n _
   cases hc:(decide (0≤n)&&decide (n≤(lim:Int))) with
   |false=>simp[hc]at h
   |true=>simp only[hc,cond_true]at h;cases h;exact⟨by simp[VO.wr],by simp,by simp⟩
  ·cases h
 |qm id src x y =>
  simp only[VO.cY]at h;split at h
  ·rename_i i s n b _ _
   split at h
   ·rename_i cs us _ _
    cases hc:(i==id&&(s==1)&&Nat.ble n cs.length&&us.all V.sc) with
    |false=>simp[hc]at h
    |true=>simp only[hc,cond_true]at h;cases h;exact⟨by simp[VO.wr],by simp,by simp⟩
   ·cases h
  ·cases h
 |_=>exact frame rfl
end
end Go.Vm

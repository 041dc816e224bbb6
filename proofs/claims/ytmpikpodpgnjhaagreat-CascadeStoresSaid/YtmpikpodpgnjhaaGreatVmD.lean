/- The value machine, 13: what an operation reads and writes; operations that touch different things may change places. -/
import Derived.Test.YtmpikpodpgnjhaaGreatVmC
namespace Go.Vm
set_option linter.all false
inductive Key where
 |e (s:Nat)
 |o (id:Nat)
 |t (f:Nat)
 |g
 deriving DecidableEq
def same(S S':St):Key→Prop
 |.e s=>look s S.env=look s S'.env
 |.o id=>look id S.aV=look id S'.aV
 |.t f=>look f S.a7=look f S'.a7
 |.g=>S.ay=S'.ay
theorem O0(S:St)(k:Key):same S S k:=by cases k<;>rfl
theorem Ff{S S':St}{k:Key}(h:same S S' k):same S' S k:=by cases k<;>exact Eq.symm h
theorem Fg{S S' Ct:St}{k:Key}(h:same S S' k)(h':same S' Ct k):same S Ct k:=by cases k<;>exact Eq.trans h h'
def Alike(S S':St):Prop:=∀k,same S S' k
structure Out where
 v:Option V
 obj:Option (Nat×List V)
 a7:List (Nat×Nat)
 ay:Option (List aP)
 del:Option Nat
def Out.val(v:V):Out:=⟨some v,none,[],none,none⟩
def Out.aV(u:Out)(aV:List (Nat×List V)):List (Nat×List V):=match u.obj with
 |some p=>p::(match u.del with|some i=>aV.filter (fun q => !(q.1==i))|none=>aV)
 |none=>aV
def Out.app(u:Out)(d:Option Nat)(S:St):St :=
 let T:St:={ env:=S.env,aV:=u.aV S.aV,a7:=u.a7++S.a7,ay:=(match u.ay with|some G=>G|none=>S.ay) }
 match u.v with
 |some v=>T.put d v
 |none=>T
noncomputable def VO.cK(C:bm)(S:St):VO→Option Out
 |.mv x=>match S.ev x with
  |some v=>some (.val v)
  |none=>none
 |.pick c a b=>match S.ev c with
  |some (.bool t)=>match bif t then S.ev a else S.ev b with
   |some v=>some (.val v)
   |none=>none
  |_=>none
 |.obj id cells=>some ⟨some (.bA id 0),some (id,cells),[],none,none⟩
 |.box id x=>match S.ev x with
  |some v=>bif v.cells.all V.cz then some ⟨some (.bA id 0),some (id,v.cells),[],none,none⟩ else none
  |none=>none
 |.rM sh x=>match S.ev x with
  |some v=>match kU sh v.cells with
   |some cs=>some ⟨some (.bB S.ay.length 0),none,[],some (S.ay++[aP.cells cs]),none⟩
   |none=>none
  |none=>none
 |.rP sh zero=>match kU sh zero with
  |some cs=>some ⟨some (.bB S.ay.length 0),none,[],some (S.ay++[aP.cells cs]),none⟩
  |none=>none
 |.rQ=>some ⟨some (.map S.ay.length),none,[],some (S.ay++[aP.map []]),none⟩
 |.tp ag ks zero ok x k=>match S.ev x,S.ev k with
  |some (.map i),some kv=>match S.ay[i]?,V.lF ag ks kv kv with
   |some (.map es),some _=>match lG ag ks kv es 0 with
    |some (some (_,v))=>some (.val (bif ok then .tuple [v,.bool true] else v))
    |some none=>some (.val (bif ok then .tuple [zero,.bool false] else zero))
    |none=>none
   |_,_=>none
  |_,_=>none
 |.rT ag ks sh x k y=>match S.ev x,S.ev k,S.ev y with
  |some (.map i),some kv,some v=>match S.ay[i]?,V.lF ag ks kv kv,wU sh v with
   |some (.map es),some _,some u=>match lG ag ks kv es 0 with
    |some (some (j,_))=>some ⟨none,none,[],some (S.ay.set i (aP.map (es.set j (kv,u)))),none⟩
    |some none=>some ⟨none,none,[],some (S.ay.set i (aP.map (es++[(kv,u)]))),none⟩
    |none=>none
   |_,_,_=>none
  |_,_,_=>none
 |.build zero parts=>match pf S parts zero with
  |some cs=>some (.val (.agg cs))
  |none=>none
 |.lit tok sh zero ln parts=>match sb S sh parts (List.replicate ln zero) with
  |some rs=>match tok with
   |some f=>some ⟨some (.slice (some f) sh.length rs),none,[(f,ln)],none,none⟩
   |none=>some (.val (.slice none sh.length rs))
  |none=>none
 |.load root sz p=>match S.ev p with
  |some a=>bif root.fits a then match S.mR a with
   |some (cs,off)=>match loadAt sz cs off with
    |some v=>some (.val (yk root v))
    |none=>none
   |none=>none
   else none
  |none=>none
 |.qJ bT p=>match S.ev p with
  |some a=>match S.take bT a with
   |some (v,ts,G)=>some ⟨some v,none,ts,G,none⟩
   |none=>none
  |none=>none
 |.rW bT p x=>match S.ev p,S.ev x with
  |some a,some v=>match S.uD bT a v with
   |some (ts,G)=>some ⟨none,none,ts,some G,none⟩
   |none=>none
  |_,_=>none
 |.store root sh p x=>bif S.fits root p then match S.ev p,S.ev x with
  |some (.bA id off),some v=>match look id S.aV with
   |some cs=>bif v.cells.length==sh.length&&Nat.ble (off+sh.length) cs.length&&v.cells.all V.cz&&Nat.blt 0 sh.length then
     some ⟨none,some (id,iC cs off v.cells),[],none,none⟩ else none
   |none=>none
  |some (.bB id off),some v=>match S.ay[id]? with
   |some (.cells cs)=>match kU sh v.cells with
    |some vs=>bif Nat.ble (off+vs.length) cs.length&&Nat.blt 0 vs.length then some ⟨none,none,[],some (S.ay.set id (aP.cells (iC cs off vs))),none⟩ else none
    |none=>none
   |_=>none
  |_,_=>none
  else none
 |.app bT src sh mx x y=>match S.ev x,S.ev y with
  |some .bW,some b=>match S.rows sh b with
   |some ys=>bif Nat.ble ys.length mx then some ⟨some (.slice (some bT) sh.length ys),none,[(bT,ys.length)],none,none⟩ else none
   |none=>none
  |some (.dH _),some b=>match S.rows sh b with
   |some ys=>bif Nat.ble ys.length mx then some ⟨some (.slice (some bT) sh.length ys),none,[(bT,ys.length)],none,none⟩ else none
   |none=>none
  |some (.slice (some f) n es),some b=>match S.rows sh b with
   |some ys=>match (bif src==some f then look f S.a7 else none) with
    |some k=>bif k==es.length&&(n==sh.length)&&Nat.ble (es.length+ys.length) mx then
      some ⟨some (.slice (some f) n (es++ys)),none,[(f,es.length+ys.length)],none,none⟩ else none
    |none=>none
   |none=>none
  |_,_=>none
 |.call false f args reg=>match S.ev f,lH S args with
  |some (.fn g cap),some vs=>match C g (vs++cap) S.ay with
   |some (r,G)=>some ⟨some (recv reg r).1,none,(recv reg r).2,some G,none⟩
   |none=>none
  |_,_=>none
 |.call true f args reg=>match S.ev f,jR S args with
  |some (.fn g []),some vs=>match C g vs [] with
   |some (r,_)=>bif r.lone then some ⟨some (recv reg r).1,none,(recv reg r).2,none,none⟩ else none
   |none=>none
  |_,_=>none
 |.pc f args=>match S.ev f,lH S args with
  |some (.fn g cap),some vs=>match C g (vs++cap) S.ay with
   |some (r,G)=>rd S.ay G (.val (recv [] r).1)
   |none=>none
  |_,_=>none
 |.tu k _ i x=>match S.ev x with
  |some (.bO id s n)=>match look i S.aV with
   |some cs=>bif id==i&&(s==1)&&Nat.ble n cs.length&&Nat.ble n lim&&Nat.blt 0 n then match uF (cs.take n) with
    |some zs=>some ⟨some (yn k i zs),some (i,(sd k zs).map (V.int .i64)++cs.drop n),[],none,none⟩
    |none=>none
    else none
   |none=>none
  |_=>none
 |.grow _ id n=>match S.ev n with
  |some (.int .i64 k)=>bif decide (0≤k)&&decide (k≤lim) then some ⟨some (.bO id 1 0),some (id,[]),[],none,none⟩ else none
  |_=>none
 |.rU id src x y=>match S.ev x,S.ev y with
  |some (.bO i s n),some b=>match look id S.aV,S.vu src b with
   |some cs,some us=>bif i==id&&(s==1)&&Nat.ble n cs.length&&us.all V.sc then
     some ⟨some (.int .i64 (us.take n).length),some (id,us.take n++cs.drop (us.take n).length),[],none,none⟩ else none
   |_,_=>none
  |_,_=>none
 |.pd f args ids=>match S.ev f,nV S ids args with
  |some (.fn g []),some vs=>match C g vs [] with
   |some (r,_)=>bif r.nW then some (.val r) else none
   |none=>none
  |_,_=>none
 |.own f args id pos=>match S.ev f,jR S args with
  |some (.fn g []),some vs=>match C g vs [] with
   |some (r,_)=>match iD id pos r with
    |some (v,some cs)=>some ⟨some v,some (id,cs),[],none,none⟩
    |some (v,none)=>some (.val v)
    |none=>none
   |none=>none
  |_,_=>none
 |.pe f args id=>match S.ev f,jR S args with
  |some (.fn g []),some vs=>match C g vs [] with
   |some (r,_)=>match iD id 0 r with
    |some (.bO i n ln,some cs)=>bif i==id&&Nat.blt 0 cs.length&&Nat.blt 0 ln&&cs.all V.sc then some ⟨some (.df S.ay.length n ln),none,[],some (S.ay++[aP.cells cs]),none⟩ else none
    |some (.dH n,none)=>some ⟨some (.df S.ay.length n 0),none,[],some (S.ay++[aP.cells []]),none⟩
    |_=>none
   |none=>none
  |_,_=>none
 |.qL id zero n=>match S.ev n with
  |some (.int _ k)=>bif decide (0≤k)&&decide (k≤lim) then
    some ⟨some (.bO id zero.length k.toNat),some (id,(List.replicate k.toNat zero).flatten),[],none,none⟩ else none
  |_=>none
 |.qK new src sh x y=>match S.ev x,S.ev y with
  |some .bW,some b=>match S.rows sh b with
   |some ys=>bif ys.isEmpty then some (.val .bW) else
     bif Nat.ble ys.length lim then some ⟨some (.bO new sh.length ys.length),some (new,ys.flatten),[],none,none⟩ else none
   |none=>none
  |some (.dH n),some b=>match S.rows sh b with
   |some ys=>bif ys.isEmpty then some (.val (.dH n)) else
     bif Nat.ble ys.length lim then some ⟨some (.bO new sh.length ys.length),some (new,ys.flatten),[],none,none⟩ else none
   |none=>none
  |some (.bO id s ln),some b=>match S.rows sh b,look src S.aV with
   |some ys,some cs=>bif (id==src)&&(s==sh.length)&&(cs.length==ln*s)&&Nat.ble (ln+ys.length) lim then
     some ⟨some (.bO new sh.length (ln+ys.length)),some (new,cs++ys.flatten),[],none,some src⟩ else none
   |_,_=>none
  |_,_=>none
 |vo=>(vo.run C (some 0) { S with env:=S.env,aV:=[],a7:=[],ay:=[] }).bind fun S'=>match S'.env with
  |(_,v)::_=>some (.val v)
  |[]=>none
theorem Jb(S:St)(x:bj):(St.mk S.env [] [] []).ev x=S.ev x:=by cases x<;>rfl
theorem ZF(S:St)(x:Option bj)(n:Nat):(St.mk S.env [] [] []).kg x n=S.kg x n:=by cases x<;>first|rfl|exact Jb S _
theorem O1(S:St):∀xs:List bj,nC (St.mk S.env [] [] []) xs=nC S xs
 |[]=>rfl
 |x::xs=>by simp only[nC,Jb,O1 S xs]
theorem qm(S:St)(d:Option Nat)(v:V):(Out.val v).app d S=S.put d v:=by cases d<;>rfl
theorem vU{S S':St}(e:S'.env=S.env)(x:bj):S'.ev x=S.ev x:=by cases x<;>simp[St.ev,e]
theorem O2{S S':St}(e:S'.env=S.env)(x:Option bj)(n:Nat):S'.kg x n=S.kg x n:=by cases x<;>first|rfl|exact vU e _
theorem O3{S S':St}(e:S'.env=S.env):∀xs:List bj,nC S' xs=nC S xs
 |[]=>rfl
 |x::xs=>by simp only[nC,vU e,O3 e xs]
def VO.cB(S' S:St):VO→Prop
 |.rY x | .un _ x | .conv _ x | .r0 _ x | .field _ _ x | .len x | .r7 x | .tq x | .tr _ x | .ext x _=>S'.ev x=S.ev x
 |.bin _ x y | .beq _ x y | .iR _ _ x y | .nA _ _ x y | .idx _ _ _ x y | .mm _ x y=>S'.ev x=S.ev x∧S'.ev y=S.ev y
 |.r9 _ x y z=>S'.ev x=S.ev x∧S'.ev y=S.ev y∧S'.ev z=S.ev z
 |.tv _ x lo hi=>S'.ev x=S.ev x∧(∀n,S'.kg lo n=S.kg lo n)∧(∀n,S'.kg hi n=S.kg hi n)
 |.tw _ cap=>nC S' cap=nC S cap
 |_=>True
def Jc(C:bm)(S:St)(vo:VO):Prop:=∃r:Option V,∀d S',VO.cB S' S vo→vo.run C d S'=r.map fun v=>S'.put d v
def VO.frame:VO→Bool
 |.vt _ | .tr .. | .rY _ | .bin .. | .beq .. | .iR .. | .un .. | .conv .. | .r0 .. | .nA .. | .idx .. | .field .. | .len _ | .r7 _ | .tq _ | .ext .. | .tv .. | .mm .. | .r9 .. | .tw .. => true
 |_=>false
theorem Fh(C:bm)(S:St)(vo:VO)(h:vo.frame=true):vo.cK C S=(vo.run C (some 0) (St.mk S.env [] [] [])).bind fun S'=>match S'.env with
  |(_,v)::_=>some (.val v)
  |[]=>none:=by
 cases vo<;>first|rfl|cases h
set_option maxHeartbeats 1000000 in
theorem O4(C:bm)(S:St)(vo:VO)(qj:vo.frame=true):Jc C S vo:=by
 have no:(∀d S',VO.cB S' S vo→vo.run C d S'=none)→Jc C S vo:=fun h=>⟨none,h⟩;have yes:∀v,(∀d S',VO.cB S' S vo→vo.run C d S'=some (S'.put d v))→Jc C S vo:=fun v h=>⟨some v,h⟩;cases vo with
 |rY x =>
  cases hx:S.ev x with
  |none=>exact no fun d S' e=>by simp only[VO.cB]at e;simp[VO.run,e,hx]
  |some a=>cases a<;>first|(refine no fun d S' e=>?_;simp only[VO.cB]at e;simp[VO.run,e,hx];done)|(refine yes _ fun d S' e=>Eq.trans (by simp only[VO.cB]at e;simp only[VO.run,e,hx];exact rfl) rfl)
 |bin op x y =>
  cases hx:S.ev x with
  |none=>exact no fun d S' e=>by simp only[VO.cB]at e;simp[VO.run,e,hx]
  |some a =>
   cases hy:S.ev y with
   |none=>exact no fun d S' e=>by simp only[VO.cB]at e;simp[VO.run,e,hx,hy]
   |some b =>
    cases hz:V.bin op a b with
    |none=>exact no fun d S' e=>by simp only[VO.cB]at e;simp[VO.run,e,hx,hy,hz]
    |some v=>exact yes v fun d S' e=>by simp only[VO.cB]at e;simp[VO.run,e,hx,hy,hz]
 |iR neg ks x y =>
  cases hx:S.ev x with
  |none=>exact no fun d S' e=>by simp only[VO.cB]at e;simp[VO.run,e,hx]
  |some a =>
   cases hy:S.ev y with
   |none=>exact no fun d S' e=>by simp only[VO.cB]at e;simp[VO.run,e,hx,hy]
   |some b =>
    cases hz:V.iR neg ks a b with
    |none=>exact no fun d S' e=>by simp only[VO.cB]at e;simp[VO.run,e,hx,hy,hz]
    |some v=>exact yes v fun d S' e=>by simp only[VO.cB]at e;simp[VO.run,e,hx,hy,hz]
 |beq neg x y =>
  cases hx:S.ev x with
  |none=>exact no fun d S' e=>by simp only[VO.cB]at e;simp[VO.run,e,hx]
  |some a =>
   cases hy:S.ev y with
   |none=>exact no fun d S' e=>by simp only[VO.cB]at e;cases a<;>simp[VO.run,e,hx,hy]
   |some b=>cases a<;>cases b<;>first|(refine no fun d S' e=>?_;simp only[VO.cB]at e;simp[VO.run,e,hx,hy];done)|(refine yes _ fun d S' e=>Eq.trans (by simp only[VO.cB]at e;simp only[VO.run,e,hx,hy];exact rfl) rfl)
 |un op x =>
  cases hx:S.ev x with
  |none=>exact no fun d S' e=>by simp only[VO.cB]at e;simp[VO.run,e,hx]
  |some a =>
   cases hz:V.un op a with
   |none=>exact no fun d S' e=>by simp only[VO.cB]at e;simp[VO.run,e,hx,hz]
   |some v=>exact yes v fun d S' e=>by simp only[VO.cB]at e;simp[VO.run,e,hx,hz]
 |conv k x =>
  cases hx:S.ev x with
  |none=>exact no fun d S' e=>by simp only[VO.cB]at e;simp[VO.run,e,hx]
  |some a=>cases a<;>first|(refine no fun d S' e=>?_;simp only[VO.cB]at e;simp[VO.run,e,hx];done)|(refine yes _ fun d S' e=>Eq.trans (by simp only[VO.cB]at e;simp only[VO.run,e,hx];exact rfl) rfl)
 |r0 off x =>
  cases hx:S.ev x with
  |none=>exact no fun d S' e=>by simp only[VO.cB]at e;simp[VO.run,e,hx]
  |some a=>cases a<;>first|(refine no fun d S' e=>?_;simp only[VO.cB]at e;simp[VO.run,e,hx];done)|(refine yes _ fun d S' e=>Eq.trans (by simp only[VO.cB]at e;simp only[VO.run,e,hx];exact rfl) rfl)
 |nA arr sz x i =>
  cases hx:S.ev x with
  |none=>exact no fun d S' e=>by simp only[VO.cB]at e;cases arr<;>simp[VO.run,e,hx]
  |some a =>
   cases hy:S.ev i with
   |none=>exact no fun d S' e=>by simp only[VO.cB]at e;cases arr<;>cases a<;>simp[VO.run,e,hx,hy]
   |some b =>
    cases b with
    |int k m =>
     cases arr with
     |some n =>
      cases hc:(decide (0≤m)&&decide (m<(n:Int))) with
      |false=>exact no fun d S' e=>by simp only[VO.cB]at e;simp only[VO.run,e,hx,hy,hc,cond_false]
      |true=>cases a<;>first|(refine no fun d S' e=>?_;simp only[VO.cB]at e;simp only[VO.run,e,hx,hy,hc,cond_true];done)|(refine yes _ fun d S' e=>Eq.trans (by simp only[VO.cB]at e;simp only[VO.run,e,hx,hy,hc,cond_true];exact rfl) rfl)
     |none =>
      cases a with
      |slice tk n es =>
       cases hc:(decide (0≤m)&&(n==sz)) with
       |false=>exact no fun d S' e=>by simp only[VO.cB]at e;simp only[VO.run,e,hx,hy,hc,cond_false]
       |true =>
        cases he:es[m.toNat]? with
        |none=>exact no fun d S' e=>by simp only[VO.cB]at e;simp only[VO.run,e,hx,hy,hc,cond_true,he]
        |some r=>exact yes (.eF r 0) fun d S' e=>by simp only[VO.cB]at e;simp only[VO.run,e,hx,hy,hc,cond_true,he]
      |bO id off n =>
       cases hc:(decide (0≤m)&&decide (m<(n:Int))&&(off==sz)) with
       |false=>exact no fun d S' e=>by simp only[VO.cB]at e;simp only[VO.run,e,hx,hy,hc,cond_false]
       |true=>exact yes (.bA id (m.toNat*sz)) fun d S' e=>by simp only[VO.cB]at e;simp only[VO.run,e,hx,hy,hc,cond_true]
      |df id off n =>
       cases hc:(decide (0≤m)&&decide (m<(n:Int))&&(off==sz)) with
       |false=>exact no fun d S' e=>by simp only[VO.cB]at e;simp only[VO.run,e,hx,hy,hc,cond_false]
       |true=>exact yes (.bB id (m.toNat*sz)) fun d S' e=>by simp only[VO.cB]at e;simp only[VO.run,e,hx,hy,hc,cond_true]
      |_=>exact no fun d S' e=>by simp only[VO.cB]at e;simp[VO.run,e,hx,hy]
    |_=>exact no fun d S' e=>by simp only[VO.cB]at e;cases arr<;>cases a<;>simp[VO.run,e,hx,hy]
 |idx n sz ag x i =>
  cases hx:S.ev x with
  |none=>exact no fun d S' e=>by simp only[VO.cB]at e;simp[VO.run,e,hx]
  |some a =>
   cases hy:S.ev i with
   |none=>exact no fun d S' e=>by simp only[VO.cB]at e;cases a<;>simp[VO.run,e,hx,hy]
   |some b =>
    cases b with
    |int k m =>
     cases a with
     |agg cs =>
      cases hc:(decide (0≤m)&&decide (m<(n:Int))) with
      |false=>exact no fun d S' e=>by simp only[VO.cB]at e;simp only[VO.run,e,hx,hy,hc,cond_false]
      |true =>
       cases hl:loadAt (bif ag then some sz else none) cs (m.toNat*sz) with
       |none=>exact no fun d S' e=>by simp only[VO.cB]at e;simp only[VO.run,e,hx,hy,hc,cond_true,hl]
       |some v=>exact yes v fun d S' e=>by simp only[VO.cB]at e;simp only[VO.run,e,hx,hy,hc,cond_true,hl]
     |_=>exact no fun d S' e=>by simp only[VO.cB]at e;simp[VO.run,e,hx,hy]
    |_=>exact no fun d S' e=>by simp only[VO.cB]at e;cases a<;>simp[VO.run,e,hx,hy]
 |field off sz x =>
  cases hx:S.ev x with
  |none=>exact no fun d S' e=>by simp only[VO.cB]at e;simp[VO.run,e,hx]
  |some a =>
   cases a with
   |agg cs =>
    cases hl:loadAt sz cs off with
    |none=>exact no fun d S' e=>by simp only[VO.cB]at e;simp only[VO.run,e,hx,hl]
    |some v=>exact yes v fun d S' e=>by simp only[VO.cB]at e;simp only[VO.run,e,hx,hl]
   |_=>exact no fun d S' e=>by simp only[VO.cB]at e;simp[VO.run,e,hx]
 |vt n=>exact yes (.dH n) fun d S' e=>rfl
 |tr neg x =>
  cases hx:S.ev x with
  |none=>exact no fun d S' e=>by simp only[VO.cB]at e;simp[VO.run,e,hx]
  |some a =>
   cases a with
   |slice t n es=>cases es<;>first|(refine no fun d S' e=>?_;simp only[VO.cB]at e;simp[VO.run,e,hx];done)|(refine yes _ fun d S' e=>Eq.trans (by simp only[VO.cB]at e;simp only[VO.run,e,hx];exact rfl) rfl)
   |_=>first|(refine no fun d S' e=>?_;simp only[VO.cB]at e;simp[VO.run,e,hx];done)|(refine yes _ fun d S' e=>Eq.trans (by simp only[VO.cB]at e;simp only[VO.run,e,hx];exact rfl) rfl)
 |len x =>
  cases hx:S.ev x with
  |none=>exact no fun d S' e=>by simp only[VO.cB]at e;simp[VO.run,e,hx]
  |some a=>cases a<;>first|(refine no fun d S' e=>?_;simp only[VO.cB]at e;simp[VO.run,e,hx];done)|(refine yes _ fun d S' e=>Eq.trans (by simp only[VO.cB]at e;simp only[VO.run,e,hx];exact rfl) rfl)
 |tq x =>
  cases hx:S.ev x with
  |none=>exact no fun d S' e=>by simp only[VO.cB]at e;simp[VO.run,e,hx]
  |some a=>cases a<;>first|(refine no fun d S' e=>?_;simp only[VO.cB]at e;simp[VO.run,e,hx];done)|(refine yes _ fun d S' e=>Eq.trans (by simp only[VO.cB]at e;simp only[VO.run,e,hx];exact rfl) rfl)
 |r7 x =>
  cases hx:S.ev x with
  |none=>exact no fun d S' e=>by simp only[VO.cB]at e;simp[VO.run,e,hx]
  |some a=>cases a<;>first|(refine no fun d S' e=>?_;simp only[VO.cB]at e;simp[VO.run,e,hx];done)|(refine yes _ fun d S' e=>Eq.trans (by simp only[VO.cB]at e;simp only[VO.run,e,hx];exact rfl) rfl)
 |ext x i =>
  cases hx:S.ev x with
  |none=>exact no fun d S' e=>by simp only[VO.cB]at e;simp[VO.run,e,hx]
  |some a =>
   cases a with
   |tuple vs =>
    cases hl:vs[i]? with
    |none=>exact no fun d S' e=>by simp only[VO.cB]at e;simp only[VO.run,e,hx,hl]
    |some v=>exact yes v fun d S' e=>by simp only[VO.cB]at e;simp only[VO.run,e,hx,hl]
   |_=>exact no fun d S' e=>by simp only[VO.cB]at e;simp[VO.run,e,hx]
 |tv sz x lo hi =>
  cases hx:S.ev x with
  |none=>exact no fun d S' e=>by simp only[VO.cB]at e;simp[VO.run,e,hx]
  |some a =>
   cases a with
   |slice tk m es =>
    cases hl:S.kg lo 0 with
    |none=>exact no fun d S' e=>by simp only[VO.cB]at e;simp[VO.run,e,hx,hl]
    |some p =>
     cases hh:S.kg hi es.length with
     |none=>exact no fun d S' e=>by simp only[VO.cB]at e;cases p<;>simp[VO.run,e,hx,hl,hh]
     |some q =>
      cases p with
      |int k1 l =>
       cases q with
       |int k2 h =>
        cases hc:(decide (0≤l)&&decide (l≤h)&&decide (h≤(es.length:Int))&&(m==sz)) with
        |false=>exact no fun d S' e=>by simp only[VO.cB]at e;simp only[VO.run,e,hx,hl,hh,hc,cond_false]
        |true=>exact yes (.slice none sz ((es.take h.toNat).drop l.toNat)) fun d S' e=>by simp only[VO.cB]at e;simp only[VO.run,e,hx,hl,hh,hc,cond_true]
       |_=>exact no fun d S' e=>by simp only[VO.cB]at e;simp[VO.run,e,hx,hl,hh]
      |_=>exact no fun d S' e=>by simp only[VO.cB]at e;simp[VO.run,e,hx,hl,hh]
   |bW =>
    cases hl:S.kg lo 0 with
    |none=>exact no fun d S' e=>by simp only[VO.cB]at e;simp[VO.run,e,hx,hl]
    |some p =>
     cases hh:S.kg hi 0 with
     |none=>exact no fun d S' e=>by simp only[VO.cB]at e;cases p<;>simp[VO.run,e,hx,hl,hh]
     |some q =>
      cases p with
      |int k1 l =>
       cases q with
       |int k2 h =>
        cases hc:(decide (l=0)&&decide (h=0)) with
        |false=>exact no fun d S' e=>by simp only[VO.cB]at e;simp only[VO.run,e,hx,hl,hh,hc,cond_false]
        |true=>exact yes .bW fun d S' e=>by simp only[VO.cB]at e;simp only[VO.run,e,hx,hl,hh,hc,cond_true]
       |_=>exact no fun d S' e=>by simp only[VO.cB]at e;simp[VO.run,e,hx,hl,hh]
      |_=>exact no fun d S' e=>by simp only[VO.cB]at e;simp[VO.run,e,hx,hl,hh]
   |bO id s n =>
    cases hl:S.kg lo 0 with
    |none=>exact no fun d S' e=>by simp only[VO.cB]at e;simp[VO.run,e,hx,hl]
    |some p =>
     cases hh:S.kg hi n with
     |none=>exact no fun d S' e=>by simp only[VO.cB]at e;cases p<;>simp[VO.run,e,hx,hl,hh]
     |some q =>
      cases p with
      |int k1 l =>
       cases q with
       |int k2 h =>
        cases hc:(decide (0≤l)&&decide (l≤h)&&decide (h≤(n:Int))&&(s==sz)) with
        |false=>exact no fun d S' e=>by simp only[VO.cB]at e;simp only[VO.run,e,hx,hl,hh,hc,cond_false]
        |true =>
         cases h1:decide (l=0) with
         |true=>exact yes (.bO id s h.toNat) fun d S' e=>by simp only[VO.cB]at e;simp only[VO.run,e,hx,hl,hh,hc,h1,cond_true]
         |false =>
          cases h2:decide (l<(n:Int)) with
          |true=>exact yes (.fH id s l.toNat (h-l).toNat) fun d S' e=>by simp only[VO.cB]at e;simp only[VO.run,e,hx,hl,hh,hc,h1,h2,cond_true,cond_false]
          |false=>exact no fun d S' e=>by simp only[VO.cB]at e;simp only[VO.run,e,hx,hl,hh,hc,h1,h2,cond_true,cond_false]
       |_=>exact no fun d S' e=>by simp only[VO.cB]at e;simp[VO.run,e,hx,hl,hh]
      |_=>exact no fun d S' e=>by simp only[VO.cB]at e;simp[VO.run,e,hx,hl,hh]
   |_=>exact no fun d S' e=>by simp only[VO.cB]at e;simp[VO.run,e,hx]
 |r9 mx x y z =>
  cases hx:S.ev x with
  |none=>exact no fun d S' e=>by simp only[VO.cB]at e;simp[VO.run,e,hx]
  |some a =>
   cases hy:S.ev y with
   |none=>exact no fun d S' e=>by simp only[VO.cB]at e;cases a<;>simp[VO.run,e,hx,hy]
   |some b =>
    cases hz:S.ev z with
    |none=>exact no fun d S' e=>by simp only[VO.cB]at e;cases a<;>cases b<;>simp[VO.run,e,hx,hy,hz]
    |some c =>
     cases a with
     |int k1 a=>cases b with
      |int k2 b=>cases c with
       |int k3 c=>exact yes _ fun d S' e=>Eq.trans (by simp only[VO.cB]at e;simp only[VO.run,e,hx,hy,hz];exact rfl) rfl
       |_=>exact no fun d S' e=>by simp only[VO.cB]at e;simp[VO.run,e,hx,hy,hz]
      |_=>exact no fun d S' e=>by simp only[VO.cB]at e;simp[VO.run,e,hx,hy,hz]
     |_=>exact no fun d S' e=>by simp only[VO.cB]at e;simp[VO.run,e,hx,hy,hz]
 |mm mx x y =>
  cases hx:S.ev x with
  |none=>exact no fun d S' e=>by simp only[VO.cB]at e;simp[VO.run,e,hx]
  |some a =>
   cases hy:S.ev y with
   |none=>exact no fun d S' e=>by simp only[VO.cB]at e;cases a<;>simp[VO.run,e,hx,hy]
   |some b=>cases a<;>cases b<;>first|(refine no fun d S' e=>?_;simp only[VO.cB]at e;simp[VO.run,e,hx,hy];done)|(refine yes _ fun d S' e=>Eq.trans (by simp only[VO.cB]at e;simp only[VO.run,e,hx,hy];exact rfl) rfl)
 |tw f cap =>
  cases hx:nC S cap with
  |none=>exact no fun d S' e=>by simp only[VO.cB]at e;simp[VO.run,e,hx]
  |some vs =>
   cases hg:yl vs with
   |none=>exact no fun d S' e=>by simp only[VO.cB]at e;simp only[VO.run,e,hx,hg]
   |some us=>exact yes (.fn f us) fun d S' e=>by simp only[VO.cB]at e;simp only[VO.run,e,hx,hg]
 |_=>cases qj
theorem m7{α β:Type}(c:Bool)(x y:Option α)(f:α→β):(bif c then x else y).map f=bif c then x.map f else y.map f:=by cases c<;>rfl
theorem Jd{S S':St}(e:S'.env=S.env)(vo:VO):VO.cB S' S vo:=by
 cases vo<;>first
  |trivial
  |exact vU e _
  |exact⟨vU e _,vU e _⟩
  |exact⟨vU e _,vU e _,vU e _⟩
  |exact⟨vU e _,fun n=>O2 e _ n,fun n=>O2 e _ n⟩
  |exact O3 e _
theorem ZG(C:bm)(d:Option Nat)(S:St)(vo:VO)(h:vo.frame=true):vo.run C d S=(vo.cK C S).map fun u=>u.app d S:=by
 obtain⟨r,hr⟩:=O4 C S vo h;rw[Fh C S vo h,hr d S (Jd (S':=S) rfl vo),hr (some 0) (St.mk S.env [] [] []) (Jd (by rfl) vo)]
 cases r<;>simp[qm,St.put]
theorem O5(C:bm)(d:Option Nat)(S:St)(vo:VO):vo.run C d S=(vo.cK C S).map fun u=>u.app d S:=by
 cases vo with
 |mv x=>simp only[VO.run,VO.cK];cases S.ev x<;>simp[qm]
 |pick c a b =>
  simp only[VO.run,VO.cK];cases S.ev c with
  |none=>rfl
  |some v =>
   cases v<;>try rfl
   rename_i t;cases t<;>simp only[cond_true,cond_false]
   ·cases S.ev b<;>simp[qm]
   ·cases S.ev a<;>simp[qm]
 |obj id cells=>rfl
 |box id x =>
  simp only[VO.run,VO.cK];cases S.ev x with
  |none=>rfl
  |some v=>simp only[m7];cases v.cells.all V.cz<;>rfl
 |rM sh x =>
  simp only[VO.run,VO.cK];cases S.ev x with
  |none=>rfl
  |some v=>simp only;cases kU sh v.cells<;>rfl
 |rP sh zero=>simp only[VO.run,VO.cK];cases kU sh zero<;>rfl
 |rQ=>rfl
 |tp ag ks zero ok x k =>
  simp only[VO.run,VO.cK];split
  ·split
   ·split<;>simp_all[qm]
   ·simp_all
  ·simp_all
 |rT ag ks sh x k y =>
  simp only[VO.run,VO.cK];split
  ·split
   ·split<;>simp_all[Out.app,Out.aV]
   ·simp_all
  ·simp_all
 |build zero parts=>simp only[VO.run,VO.cK];cases pf S parts zero<;>simp[qm]
 |lit tok sh zero ln parts =>
  simp only[VO.run,VO.cK];cases sb S sh parts (List.replicate ln zero) with
  |none=>rfl
  |some rs=>cases tok<;>simp[qm]<;>rfl
 |load root sz p =>
  simp only[VO.run,VO.cK];cases S.ev p with
  |none=>rfl
  |some a =>
   simp only[m7];cases root.fits a
   ·rfl
   ·simp only[cond_true]
    cases S.mR a with
    |none=>rfl
    |some q =>
     obtain⟨cs,off⟩:=q;simp only;cases loadAt sz cs off<;>simp[qm]
 |pd f args ids =>
  simp only[VO.run,VO.cK];cases S.ev f with
  |none=>rfl
  |some a =>
   cases a<;>try rfl
   rename_i g cap;cases cap with
   |cons _ _=>rfl
   |nil =>
    cases nV S ids args with
    |none=>rfl
    |some vs =>
     simp only;cases C g vs [] with
     |none=>rfl
     |some q =>
      obtain⟨r,G⟩:=q;simp only[m7];cases r.nW<;>simp[qm]
 |qJ bT p =>
  simp only[VO.run,VO.cK];cases S.ev p with
  |none=>rfl
  |some a =>
   simp only;cases S.take bT a with
   |none=>rfl
   |some q=>rfl
 |rW bT p x =>
  simp only[VO.run,VO.cK];cases S.ev p with
  |none=>rfl
  |some a =>
   cases S.ev x with
   |none=>rfl
   |some v =>
    simp only;cases S.uD bT a v with
    |none=>rfl
    |some q=>rfl
 |store root sh p x =>
  simp only[VO.run,VO.cK];simp only[m7];cases S.fits root p
  ·rfl
  ·simp only[cond_true]
   cases S.ev p with
   |none=>rfl
   |some a =>
    cases S.ev x with
    |none=>cases a<;>rfl
    |some v =>
     cases a<;>try rfl
     ·rename_i id off
      simp only;cases look id S.aV with
      |none=>rfl
      |some cs=>simp only[m7];rfl
     ·rename_i id off
      simp only;cases S.ay[id]? with
      |none=>rfl
      |some o =>
       cases o with
       |map es=>rfl
       |cells cs =>
        simp only;cases kU sh v.cells with
        |none=>rfl
        |some vs=>simp only[m7];rfl
 |app bT src sh mx x y =>
  simp only[VO.run,VO.cK];cases S.ev x with
  |none=>rfl
  |some a =>
   cases S.ev y with
   |none =>
    cases a<;>try rfl
    rename_i tok n es;cases tok<;>rfl
   |some b =>
    cases a<;>try rfl
    ·simp only
     cases S.rows sh b with
     |none=>rfl
     |some ys=>simp only[m7];rfl
    ·rename_i tok n es
     cases tok with
     |none=>rfl
     |some f =>
      simp only;cases S.rows sh b with
      |none=>rfl
      |some ys =>
       simp only;cases (bif src==some f then look f S.a7 else none) with
       |none=>rfl
       |some k=>simp only[m7];rfl
    ·simp only
     cases S.rows sh b with
     |none=>rfl
     |some ys=>simp only[m7];rfl
 |qK nw src sh x y =>
  simp only[VO.run,VO.cK];cases S.ev x with
  |none=>rfl
  |some a =>
   cases S.ev y with
   |none=>cases a<;>rfl
   |some b =>
    cases a<;>try rfl
    ·simp only
     cases S.rows sh b with
     |none=>rfl
     |some ys =>
      simp only[m7];cases ys.isEmpty<;>simp[qm]<;>rfl
    ·simp only
     cases S.rows sh b with
     |none=>rfl
     |some ys =>
      simp only[m7];cases ys.isEmpty<;>simp[qm]<;>rfl
    ·simp only
     cases S.rows sh b with
     |none=>rfl
     |some ys =>
      cases look src S.aV with
      |none=>rfl
      |some cs=>simp only[m7];rfl
 |call alone f args reg =>
  cases alone
  ·simp only[VO.run,VO.cK]
   cases S.ev f with
   |none=>rfl
   |some a =>
    cases a<;>try rfl
    rename_i g cap;cases lH S args with
    |none=>rfl
    |some vs =>
     simp only;cases C g (vs++cap) S.ay with
     |none=>rfl
     |some q=>rfl
  ·simp only[VO.run,VO.cK]
   cases S.ev f with
   |none=>rfl
   |some a =>
    cases a<;>try rfl
    rename_i g cap;cases jR S args with
    |none=>cases cap<;>rfl
    |some vs =>
     cases cap with
     |cons _ _=>rfl
     |nil =>
      simp only;cases C g vs [] with
      |none=>rfl
      |some q=>simp only[m7];rfl
 |pc f args =>
  simp only[VO.run,VO.cK];cases S.ev f with
  |none=>rfl
  |some a =>
   cases a<;>try rfl
   rename_i g cap;cases lH S args with
   |none=>rfl
   |some vs =>
    simp only;cases C g (vs++cap) S.ay with
    |none=>rfl
    |some q =>
     simp only[rd];split<;>simp[qm]
 |own f args id pos =>
  simp only[VO.run,VO.cK];cases S.ev f with
  |none=>rfl
  |some a =>
   cases a<;>try rfl
   rename_i g cap;cases jR S args with
   |none=>cases cap<;>rfl
   |some vs =>
    cases cap with
    |cons _ _=>rfl
    |nil =>
     simp only;cases C g vs [] with
     |none=>rfl
     |some q =>
      simp only;cases iD id pos q.1 with
      |none=>rfl
      |some p =>
       obtain⟨v,o⟩:=p;cases o with
       |none=>simp[qm]
       |some cs=>rfl
 |pe f args id =>
  simp only[VO.run,VO.cK];cases S.ev f with
  |none=>rfl
  |some a =>
   cases jR S args with
   |none=>cases a<;>try rfl
          rename_i g cap;cases cap<;>rfl
   |some vs =>
    cases a<;>try rfl
    rename_i g cap;cases cap with
    |cons _ _=>rfl
    |nil =>
     simp only;cases C g vs [] with
     |none=>rfl
     |some q =>
      simp only;cases iD id 0 q.1 with
      |none=>rfl
      |some p =>
       obtain⟨v,o⟩:=p;cases o with
       |none=>cases v<;>rfl
       |some cs=>cases v<;>try rfl
                 simp only[m7];rfl
 |tu k f i x =>
  simp only[VO.run,VO.cK,St.mut];cases S.ev x with
  |none=>rfl
  |some a =>
   cases a<;>try rfl
   simp only;cases look i S.aV with
   |none=>rfl
   |some cs =>
    simp only[m7];congr 1;generalize uF _=z;cases z<;>rfl
 |qL id zero n =>
  simp only[VO.run,VO.cK];cases S.ev n with
  |none=>rfl
  |some a =>
   cases a<;>try rfl
   simp only[m7];rfl
 |grow f id n =>
  simp only[VO.run,VO.cK];cases S.ev n with
  |none=>rfl
  |some a =>
   cases a<;>try rfl
   rename_i k _;cases k<;>try rfl
   simp only[m7];rfl
 |rU id src x y =>
  simp only[VO.run,VO.cK];cases S.ev x with
  |none=>rfl
  |some a =>
   cases S.ev y with
   |none=>cases a<;>rfl
   |some b =>
    cases a<;>try rfl
    simp only;cases look id S.aV with
    |none=>rfl
    |some cs =>
     cases S.vu src b with
     |none=>rfl
     |some us=>simp only[m7];rfl
 |_=>exact ZG C d S _ rfl
def bj.keys:bj→List Key
 |.t s=>[.e s]
 |.c _=>[]
def iQ.keys:iQ→List Key
 |.loc id=>[.o id]
 |.ay=>[.g]
 |.jQ=>[]
def Fi:Option bj→List Key
 |some o=>o.keys
 |none=>[]
def Cu:Option Nat→List Key
 |some f=>[.t f]
 |none=>[]
def O6:Option Nat→List Key
 |some j=>[.o j]
 |none=>[]
def VO.rd:VO→List Key
 |.grow _ _ x | .tq x=>x.keys
 |.rU id src x y=>.o id::(O6 src++x.keys++y.keys)
 |.tu _ _ id x=>.o id::x.keys
 |.vt _=>[]
 |.tr _ x=>x.keys
 |.qJ _ x=>.g::x.keys
 |.rW f x y=>.g::.t f::(x.keys++y.keys)
 |.mv x | .box _ x | .rY x | .un _ x | .conv _ x | .r0 _ x | .field _ _ x | .len x | .r7 x | .ext x _ | .qL _ _ x=>x.keys
 |.pick a b c=>a.keys++b.keys++c.keys
 |.obj _ _=>[]
 |.rM _ x=>.g::x.keys
 |.rP _ _ | .rQ=>[.g]
 |.tp _ _ _ _ x k=>.g::(x.keys++k.keys)
 |.rT _ _ _ x k y=>.g::(x.keys++k.keys++y.keys)
 |.build _ ps=>ps.flatMap fun p=>p.2.2.keys
 |.lit _ _ _ _ ps=>ps.flatMap fun p=>p.2.keys
 |.load root _ x=>root.keys++x.keys
 |.store root _ x y=>root.keys++x.keys++y.keys
 |.bin _ x y | .beq _ x y | .iR _ _ x y | .nA _ _ x y | .idx _ _ _ x y | .mm _ x y=>x.keys++y.keys
 |.r9 _ x y z=>x.keys++y.keys++z.keys
 |.app _ src _ _ x y=>Cu src++x.keys++y.keys
 |.qK _ src _ x y=>.o src::(x.keys++y.keys)
 |.call alone f args _=>(bif alone then [] else [.g])++f.keys++args.flatMap fun p=>p.2.keys
 |.own f args _ _=>f.keys++args.flatMap fun p=>p.2.keys
 |.pe f args _=>.g::(f.keys++args.flatMap fun p=>p.2.keys)
 |.pd f args ids=>ids.map Key.o++(f.keys++args.flatMap fun p=>p.2.2.keys)
 |.pc f args=>.g::(f.keys++args.flatMap fun p=>p.2.keys)
 |.tv _ x lo hi=>x.keys++Fi lo++Fi hi
 |.tw _ cap=>cap.flatMap bj.keys
def VO.wr:VO→List Key
 |.obj id _ | .box id _ | .qL id _ _ | .grow _ id _ | .rU id _ _ _=>[.o id]
 |.rM _ _ | .rP _ _ | .rQ | .rT .. | .pe .. => [.g]
 |.lit (some f) _ _ _ _=>[.t f]
 |.store (.loc id) _ _ _=>[.o id]
 |.store _ _ _ _=>[.g]
 |.app f src _ _ _ _=>.t f::Cu src
 |.qJ f _ | .rW f _ _=>[.g,.t f]
 |.qK nw src _ _ _=>[.o nw,.o src]
 |.call alone _ _ reg=>(bif alone then [] else [.g])++(yI reg).map .t
 |.own _ _ id _=>[.o id]
 |.tu _ _ id _=>[.o id]
 |_=>[]
def bN.rd(o:bN):List Key:=(match o.guard with|some (s,_)=>[.e s] | none=>[])++o.op.rd
def bN.wr(o:bN):List Key:=(match o.dst with|some d=>[.e d] | none=>[])++o.op.wr
def fk(S S':St)(K:List Key):Prop:=∀k∈K,same S S' k
section
variable {S S':St} {C:bm}
theorem dW{x:bj}(h:fk S S' x.keys):S.ev x=S'.ev x:=by
 cases x with
 |t s=>exact h (.e s) (by simp[bj.keys])
 |c v=>rfl
theorem fk.left{K L:List Key}(h:fk S S' (K++L)):fk S S' K:=fun k hk=>h k (List.mem_append_left _ hk)
theorem fk.right{K L:List Key}(h:fk S S' (K++L)):fk S S' L:=fun k hk=>h k (List.mem_append_right _ hk)
theorem O7:∀{xs:List bj},fk S S' (xs.flatMap bj.keys)→nC S xs=nC S' xs
 |[],_=>rfl
 |x::xs,h=>by
  rw[List.flatMap_cons]at h;simp only[nC,dW h.left,O7 h.right]
theorem O8:∀{ps:List (Nat×Nat×bj)} {cs:List V},fk S S' (ps.flatMap fun p=>p.2.2.keys)→pf S ps cs=pf S' ps cs
 |[],_,_=>rfl
 |(off,n,x)::ps,cs,h=>by
  rw[List.flatMap_cons]at h;simp only[pf,dW (x:=x) h.left];split
  ·rw[O8 h.right]
  ·rfl
theorem O9{sh:Sh}:∀{ps:List (Nat×bj)} {rs:List (List V)},fk S S' (ps.flatMap fun p=>p.2.keys)→sb S sh ps rs=sb S' sh ps rs
 |[],_,_=>rfl
 |(i,x)::ps,rs,h=>by
  rw[List.flatMap_cons]at h;simp only[sb,dW (x:=x) h.left];split
  ·split
   ·rw[O9 h.right]
   ·rfl
  ·rfl
theorem Je:∀{ps:List (Sh×bj)},fk S S' (ps.flatMap fun p=>p.2.keys)→lH S ps=lH S' ps
 |[],_=>rfl
 |(sh,x)::ps,h=>by
  rw[List.flatMap_cons]at h;simp only[lH,dW (x:=x) h.left,Je h.right]
theorem Fj:∀{ps:List (Sh×bj)},fk S S' (ps.flatMap fun p=>p.2.keys)→jR S ps=jR S' ps
 |[],_=>rfl
 |(sh,x)::ps,h=>by
  rw[List.flatMap_cons]at h;simp only[jR,dW (x:=x) h.left,Fj h.right]
theorem Pb{sh:Sh}{v:V}:S.rows sh v=S'.rows sh v:=by
 unfold St.rows;split<;>rfl
theorem ZH{vo:VO}(h:fk S S' vo.rd):VO.cB S' S vo:=by
 cases vo with
 |rY x=>exact(dW h).symm
 |un op x=>exact(dW h).symm
 |conv k x=>exact(dW h).symm
 |r0 off x=>exact(dW h).symm
 |field off sz x=>exact(dW h).symm
 |tr neg x=>exact(dW h).symm
 |len x=>exact(dW h).symm
 |r7 x=>exact(dW h).symm
 |tq x=>exact(dW h).symm
 |ext x i=>exact(dW h).symm
 |bin op x y=>exact⟨(dW h.left).symm,(dW h.right).symm⟩
 |beq neg x y=>exact⟨(dW h.left).symm,(dW h.right).symm⟩
 |iR neg ks x y=>exact⟨(dW h.left).symm,(dW h.right).symm⟩
 |nA arr sz x y=>exact⟨(dW h.left).symm,(dW h.right).symm⟩
 |idx n sz ag x y=>exact⟨(dW h.left).symm,(dW h.right).symm⟩
 |mm mx x y=>exact⟨(dW h.left).symm,(dW h.right).symm⟩
 |r9 mx x y z =>
  have h1:fk S S' (x.keys++y.keys++z.keys):=h;exact⟨(dW h1.left.left).symm,(dW h1.left.right).symm,(dW h1.right).symm⟩
 |tv sz x lo hi =>
  have h1:fk S S' (x.keys++Fi lo++Fi hi):=h;refine⟨(dW h1.left.left).symm,fun n=>?_,fun n=>?_⟩
  ·cases lo with
   |none=>rfl
   |some o=>exact(dW h1.left.right).symm
  ·cases hi with
   |none=>rfl
   |some o=>exact(dW h1.right).symm
 |tw f cap=>exact(O7 h).symm
 |_=>trivial
theorem ZI{vo:VO}(qj:vo.frame=true)(h:fk S S' vo.rd):vo.cK C S=vo.cK C S':=by
 obtain⟨r,hr⟩:=O4 C S vo qj;rw[Fh C S vo qj,Fh C S' vo qj,hr (some 0) _ (Jd (by rfl) vo)]
 have h1:=ZH h;have h2:VO.cB (St.mk S'.env [] [] []) S vo:=by
  cases vo<;>simp only[VO.cB,Jb,ZF,O1]at h1 ⊢ <;> exact h1
 rw[hr (some 0) _ h2];cases r<;>rfl
theorem ZJ{root:iQ}{a:V}(hf:root.fits a=true)(h:fk S S' root.keys):S.mR a=S'.mR a:=by
 cases root with
 |loc i =>
  cases a<;>simp[iQ.fits]at hf;rename_i id off;subst hf;have:look i S.aV=look i S'.aV:=h (.o i) (by simp[iQ.keys])
  simp only[St.mR,this]
 |ay =>
  cases a<;>simp[iQ.fits]at hf;have:S.ay=S'.ay:=h .g (by simp[iQ.keys])
  simp only[St.mR,this]
 |jQ =>
  cases a<;>simp[iQ.fits]at hf;rfl
theorem Pc{ids:List Nat}(ho:∀id∈ids,look id S.aV=look id S'.aV):∀{ps:List (Sh×Sh×bj)},fk S S' (ps.flatMap fun p=>p.2.2.keys)→nV S ids ps=nV S' ids ps
 |[],_=>rfl
 |(rs,sh,x)::ps,h=>by
  rw[List.flatMap_cons]at h;have h1:S.ev x=S'.ev x:=dW h.left;have h2:=Pc ho (ps:=ps) h.right;have h3:∀id s n,S.zX ids rs id s n=S'.zX ids rs id s n:=fun id s n=>by
   unfold St.zX;cases hc:ids.contains id with
   |false=>rfl
   |true=>simp only[cond_true,St.sa,ho id (by simpa using hc)]
  simp only[nV,h1,h2];cases S'.ev x with
  |none=>rfl
  |some v =>
   cases v<;>try rfl
   rename_i id s n;simp only[h3 id s n]
theorem Pd{vo:VO}(h:fk S S' vo.rd):vo.cK C S=vo.cK C S':=by
 cases vo with
 |mv x=>simp only[VO.cK,dW (x:=x) h]
 |pick c a b =>
  have h1:fk S S' (c.keys++a.keys++b.keys):=h;simp only[VO.cK,dW (x:=c) h1.left.left,dW (x:=a) h1.left.right,dW (x:=b) h1.right]
 |obj id cells=>rfl
 |box id x=>simp only[VO.cK,dW (x:=x) h]
 |rM sh x =>
  have hg:S.ay=S'.ay:=h .g (by simp[VO.rd])
  have hx:fk S S' x.keys:=fun k hk=>h k (by simp[VO.rd,hk])
  simp only[VO.cK,dW hx,hg]
 |rP sh zero =>
  have hg:S.ay=S'.ay:=h .g (by simp[VO.rd])
  simp only[VO.cK,hg]
 |rQ =>
  have hg:S.ay=S'.ay:=h .g (by simp[VO.rd])
  simp only[VO.cK,hg]
 |tp ag ks zero ok x k =>
  have hg:S.ay=S'.ay:=h .g (by simp[VO.rd])
  have hx:fk S S' x.keys:=fun k hk=>h k (by simp[VO.rd,hk])
  have hk:fk S S' k.keys:=fun k hk=>h k (by simp[VO.rd,hk])
  simp only[VO.cK,dW hx,dW hk,hg]
 |rT ag ks sh x k y =>
  have hg:S.ay=S'.ay:=h .g (by simp[VO.rd])
  have hx:fk S S' x.keys:=fun k hk=>h k (by simp[VO.rd,hk])
  have hk:fk S S' k.keys:=fun k hk=>h k (by simp[VO.rd,hk])
  have hy:fk S S' y.keys:=fun k hk=>h k (by simp[VO.rd,hk])
  simp only[VO.cK,dW hx,dW hk,dW hy,hg]
 |build zero ps=>simp only[VO.cK,O8 (ps:=ps) h]
 |lit tok sh zero ln ps=>simp only[VO.cK,O9 (ps:=ps) h]
 |load root sz x =>
  have h1:fk S S' (root.keys++x.keys):=h;simp only[VO.cK,dW (x:=x) h1.right];cases S'.ev x with
  |none=>rfl
  |some a =>
   simp only;cases hf:root.fits a with
   |false=>rfl
   |true=>simp only[cond_true,ZJ hf h1.left]
 |pd f args ids =>
  have h1:fk S S' (ids.map Key.o++(f.keys++args.flatMap fun p=>p.2.2.keys)):=h;have h2:∀id∈ids,look id S.aV=look id S'.aV:=fun id hi=>h1 (.o id) (List.mem_append_left _ (List.mem_map.2 ⟨id,hi,rfl⟩));simp only[VO.cK,dW (x:=f) h1.right.left,Pc h2 (ps:=args) h1.right.right]
 |qJ bT x =>
  have hg:S.ay=S'.ay:=h .g (by simp[VO.rd])
  have hx:fk S S' x.keys:=fun k hk=>h k (by simp[VO.rd,hk])
  have ht:∀a,S.take bT a=S'.take bT a:=fun a=>by cases a<;>simp only[St.take,hg]
  simp only[VO.cK,dW hx,ht]
 |rW bT x y =>
  have hg:S.ay=S'.ay:=h .g (by simp[VO.rd])
  have hf:look bT S.a7=look bT S'.a7:=h (.t bT) (by simp[VO.rd])
  have hx:fk S S' x.keys:=fun k hk=>h k (by simp[VO.rd,hk])
  have hy:fk S S' y.keys:=fun k hk=>h k (by simp[VO.rd,hk])
  have ht:∀a b,S.uD bT a b=S'.uD bT a b:=fun a b=>by
   unfold St.uD;split<;>first|rfl|simp only[hg,hf]
  simp only[VO.cK,dW hx,dW hy,ht]
 |store root sh x y =>
  have h1:fk S S' (root.keys++x.keys++y.keys):=h;have hx:=dW (x:=x) h1.left.right;have hy:=dW (x:=y) h1.right;have fy:S.fits root x=S'.fits root x:=by simp only[St.fits,hx]
  simp only[VO.cK,fy,hx,hy];cases hf:S'.fits root x with
  |false=>rfl
  |true =>
   simp only[cond_true];simp only[St.fits]at hf;cases hp:S'.ev x with
   |none=>rfl
   |some a =>
    rw[hp]at hf;simp only at hf;cases root with
    |loc i =>
     cases a<;>simp[iQ.fits]at hf;rename_i id off;subst hf;have:look i S.aV=look i S'.aV:=h (.o i) (by simp[VO.rd,iQ.keys])
     cases S'.ev y with
     |none=>rfl
     |some v=>simp only[this]
    |ay =>
     cases a<;>simp[iQ.fits]at hf;have:S.ay=S'.ay:=h .g (by simp[VO.rd,iQ.keys])
     cases S'.ev y with
     |none=>rfl
     |some v=>simp only[this]
    |jQ =>
     cases a<;>simp[iQ.fits]at hf;rfl
 |app bT src sh mx x y =>
  have h1:fk S S' (Cu src++x.keys++y.keys):=h;have ht:∀f,(bif src==some f then look f S.a7 else none)=(bif src==some f then look f S'.a7 else none):=fun f=>by
   cases hs:src==some f with
   |false=>rfl
   |true =>
    have:=eq_of_beq hs;subst this;exact h (.t f) (by simp[VO.rd,Cu])
  have hr:∀v,S.rows sh v=S'.rows sh v:=fun v=>Pb;simp only[VO.cK,dW (x:=x) h1.left.right,dW (x:=y) h1.right,ht,hr]
 |call alone f args reg =>
  have h1:fk S S' ((bif alone then [] else [.g])++f.keys++args.flatMap fun p=>p.2.keys):=h;cases alone
  ·have hg:S.ay=S'.ay:=h .g (by simp[VO.rd])
   simp only[VO.cK,dW (x:=f) h1.left.right,Je (ps:=args) h1.right,hg]
  ·simp only[VO.cK,dW (x:=f) h1.left.right,Fj (ps:=args) h1.right]
 |pc f args =>
  have h1:fk S S' ([.g]++(f.keys++args.flatMap fun p=>p.2.keys)):=h;have hg:S.ay=S'.ay:=h .g (by simp[VO.rd])
  simp only[VO.cK,dW (x:=f) h1.right.left,Je (ps:=args) h1.right.right,hg]
 |own f args id pos =>
  have h1:fk S S' (f.keys++args.flatMap fun p=>p.2.keys):=h;simp only[VO.cK,dW (x:=f) h1.left,Fj (ps:=args) h1.right]
 |pe f args id =>
  have h1:fk S S' ([.g]++(f.keys++args.flatMap fun p=>p.2.keys)):=h;have hg:S.ay=S'.ay:=h .g (by simp[VO.rd])
  simp only[VO.cK,dW (x:=f) h1.right.left,Fj (ps:=args) h1.right.right,hg]
 |qL id zero x=>simp only[VO.cK,dW (x:=x) h]
 |grow f id x=>simp only[VO.cK,dW (x:=x) h]
 |rU id src x y =>
  have ho:look id S.aV=look id S'.aV:=h (.o id) (by simp[VO.rd])
  have hj:∀j,src=some j→look j S.aV=look j S'.aV:=fun j e=>h (.o j) (by simp[VO.rd,e,O6])
  have hx:fk S S' x.keys:=fun k hk=>h k (by simp[VO.rd,hk])
  have hy:fk S S' y.keys:=fun k hk=>h k (by simp[VO.rd,hk])
  have hr:∀v,S.vu src v=S'.vu src v:=fun v=>by
   unfold St.vu;cases src with
   |none=>rfl
   |some j=>simp only[hj j rfl]
  simp only[VO.cK,dW hx,dW hy,ho,hr]
 |tu k f i x =>
  have ho:look i S.aV=look i S'.aV:=h (.o i) (by simp[VO.rd])
  have hx:fk S S' x.keys:=fun k hk=>h k (by simp[VO.rd,hk])
  simp only[VO.cK,dW hx,ho]
 |qK nw src sh x y =>
  have ho:look src S.aV=look src S'.aV:=h (.o src) (by simp[VO.rd])
  have hx:fk S S' x.keys:=fun k hk=>h k (by simp[VO.rd,hk])
  have hy:fk S S' y.keys:=fun k hk=>h k (by simp[VO.rd,hk])
  have hr:∀v,S.rows sh v=S'.rows sh v:=fun v=>Pb;simp only[VO.cK,dW hx,dW hy,ho,hr]
 |_=>exact ZI rfl h
theorem Jf{α:Type}{s k:Nat}{v:α}{r:List (Nat×α)}(h:k≠s):look s ((k,v)::r)=look s r:=by rw[dF,if_neg h]
theorem Jg{u:Out}{d:Option Nat}{k:Key}(h:same S S' k):same (u.app d S) (u.app d S') k:=by
 obtain⟨v,obj,a7,ay,del⟩:=u;cases k with
 |e s =>
  have h:look s S.env=look s S'.env:=h;cases v with
  |none=>exact h
  |some v =>
   cases d with
   |none=>exact h
   |some d=>show look s ((d,v)::S.env)=look s ((d,v)::S'.env);rw[dF,dF,h]
 |o id =>
  have h:look id S.aV=look id S'.aV:=h;have:look id (Out.aV ⟨v,obj,a7,ay,del⟩ S.aV)=look id (Out.aV ⟨v,obj,a7,ay,del⟩ S'.aV):=by
   cases obj with
   |none=>exact h
   |some p =>
    obtain⟨i,cs⟩:=p;cases del with
    |none=>simp only[Out.aV,dF,h]
    |some q=>simp only[Out.aV,dF,qV,h]
  cases v with
  |none=>exact this
  |some v=>cases d<;>exact this
 |t f =>
  have h:look f S.a7=look f S'.a7:=h;have:look f (a7++S.a7)=look f (a7++S'.a7):=by rw[vJ,vJ,h]
  cases v with
  |none=>exact this
  |some v=>cases d<;>exact this
 |g =>
  have h:S.ay=S'.ay:=h;have:(match ay with|some G=>G|none=>S.ay)=(match ay with|some G=>G|none=>S'.ay):=by
   cases ay with
   |none=>exact h
   |some G=>rfl
  cases v with
  |none=>exact this
  |some v=>cases d<;>exact this
def AH(u:Out)(K:List Key):Prop :=
 (∀p,u.obj=some p→Key.o p.1∈K∧∀i,u.del=some i→Key.o i∈K)∧(∀p∈u.a7,Key.t p.1∈K)∧(∀G,u.ay=some G→Key.g∈K)
theorem ZK{u:Out}{d:Option Nat}{K:List Key}(hw:AH u K){k:Key}(hk:k∉(match d with|some d=>[Key.e d] | none=>[])++K):same (u.app d S) S k:=by
 obtain⟨v,obj,a7,ay,del⟩:=u;obtain⟨h1,h2,h3⟩:=hw;simp only at h1 h2 h3;have Fk:k∉K:=fun h=>hk (List.mem_append_right _ h);cases k with
 |e s =>
  cases v with
  |none=>rfl
  |some v =>
   cases d with
   |none=>rfl
   |some d =>
    have:d≠s:=fun e=>hk (by subst e;simp)
    exact Jf this
 |o id =>
  have:look id (Out.aV ⟨v,obj,a7,ay,del⟩ S.aV)=look id S.aV:=by
   cases obj with
   |none=>rfl
   |some p =>
    obtain⟨i,cs⟩:=p;obtain⟨q1,q2⟩:=h1 _ rfl;have ch:i≠id:=fun e=>Fk (by rw[←e];exact q1)
    cases del with
    |none=>exact Jf ch
    |some q =>
     simp only[Out.aV];rw[Jf ch,qV,if_neg (fun e=>Fk (by rw[e];exact q2 q rfl))]
  cases v with
  |none=>exact this
  |some v=>cases d<;>exact this
 |t f =>
  have:look f (a7++S.a7)=look f S.a7:=by
   rw[vJ];cases hl:look f a7 with
   |none=>rfl
   |some j=>exact absurd (h2 _ (sy hl)) Fk
  cases v with
  |none=>exact this
  |some v=>cases d<;>exact this
 |g =>
  cases ay with
  |none =>
   cases v with
   |none=>rfl
   |some v=>cases d<;>rfl
  |some G=>exact absurd (h3 G rfl) Fk
theorem Pe{vo:VO}{u:Out}(h:vo.cK C S=some u):AH u vo.wr:=by
 have val:∀v K,AH (Out.val v) K:=fun v K=>⟨by simp[Out.val],by simp[Out.val],by simp[Out.val]⟩
 have frame:vo.frame=true→AH u vo.wr:=fun qj=>by
  rw[Fh C S vo qj]at h;cases hr:vo.run C (some 0) (St.mk S.env [] [] []) with
  |none=>rw[hr]at h;cases h
  |some S1 =>
   rw[hr]at h;simp only[Option.bind_some]at h;split at h
   ·cases h;exact val _ _
   ·cases h
 cases vo with
 |mv x =>
  simp only[VO.cK]at h;split at h
  ·cases h;exact val _ _
  ·cases h
 |pick c a b =>
  simp only[VO.cK]at h;split at h
  ·split at h
   ·cases h;exact val _ _
   ·cases h
  ·cases h
 |obj id cells=>simp only[VO.cK]at h;cases h;exact⟨by simp[VO.wr],by simp,by simp⟩
 |box id x =>
  simp only[VO.cK]at h;split at h
  ·rename_i v _
   cases hc:v.cells.all V.cz with
   |false=>simp[hc]at h
   |true=>simp only[hc,cond_true]at h;cases h;exact⟨by simp[VO.wr],by simp,by simp⟩
  ·cases h
 |rM sh x =>
  simp only[VO.cK]at h;split at h
  ·split at h
   ·cases h;exact⟨by simp,by simp,by simp[VO.wr]⟩
   ·cases h
  ·cases h
 |rP sh zero =>
  simp only[VO.cK]at h;split at h
  ·cases h;exact⟨by simp,by simp,by simp[VO.wr]⟩
  ·cases h
 |rQ =>
  simp only[VO.cK]at h;cases h;exact⟨by simp,by simp,by simp[VO.wr]⟩
 |tp ag ks zero ok x k =>
  simp only[VO.cK]at h;split at h
  ·split at h
   ·split at h
    ·cases h;exact val _ _
    ·cases h;exact val _ _
    ·cases h
   ·cases h
  ·cases h
 |rT ag ks sh x k y =>
  simp only[VO.cK]at h;split at h
  ·split at h
   ·split at h
    ·cases h;exact⟨by simp,by simp,by simp[VO.wr]⟩
    ·cases h;exact⟨by simp,by simp,by simp[VO.wr]⟩
    ·cases h
   ·cases h
  ·cases h
 |build zero ps =>
  simp only[VO.cK]at h;split at h
  ·cases h;exact val _ _
  ·cases h
 |lit tok sh zero ln ps =>
  simp only[VO.cK]at h;split at h
  ·split at h
   ·cases h;exact⟨by simp,by simp[VO.wr],by simp⟩
   ·cases h;exact val _ _
  ·cases h
 |load root sz x =>
  simp only[VO.cK]at h;split at h
  ·rename_i a _
   cases hf:root.fits a with
   |false=>simp[hf]at h
   |true =>
    simp only[hf,cond_true]at h;split at h
    ·split at h
     ·cases h;exact val _ _
     ·cases h
    ·cases h
  ·cases h
 |pd f args ids =>
  simp only[VO.cK]at h;split at h
  ·split at h
   ·rename_i r _ _
    cases hs:r.nW with
    |false=>rw[hs]at h;cases h
    |true=>rw[hs]at h;cases h;exact val _ _
   ·cases h
  ·cases h
 |qJ bT x =>
  simp only[VO.cK]at h;split at h
  ·split at h
   ·rename_i v ts G ht
    cases h;unfold St.take at ht;split at ht
    ·split at ht
     ·split at ht
      ·cases ht;exact⟨by simp,by simp[VO.wr],by simp[VO.wr]⟩
      ·cases ht;exact⟨by simp,by simp,by simp⟩
      ·cases ht
     ·cases ht
    ·cases ht
   ·cases h
  ·cases h
 |rW bT x y =>
  simp only[VO.cK]at h;split at h
  ·split at h
   ·rename_i ts G ht
    cases h;unfold St.uD at ht;split at ht
    ·split at ht
     ·rename_i k _ _
      rcases Bool.eq_false_or_eq_true (k==_&&Nat.blt _ _) with hc|hc
      ·rw[hc]at ht;cases ht;exact⟨by simp,by simp[VO.wr],by simp[VO.wr]⟩
      ·rw[hc]at ht;cases ht
     ·cases ht
    ·cases ht
   ·cases h
  ·cases h
 |store root sh x y =>
  simp only[VO.cK]at h;cases hf:S.fits root x with
  |false=>simp[hf]at h
  |true =>
   simp only[hf,cond_true]at h;simp only[St.fits]at hf;split at h
   ·rename_i id off v hx hy
    rw[hx]at hf;split at h
    ·rename_i cs _
     cases hc:(v.cells.length==sh.length&&Nat.ble (off+sh.length) cs.length&&v.cells.all V.cz&&Nat.blt 0 sh.length) with
     |false=>simp[hc]at h
     |true =>
      simp only[hc,cond_true]at h;cases h;cases root with
      |loc i=>simp[iQ.fits]at hf;subst hf;exact⟨by simp[VO.wr],by simp,by simp⟩
      |ay=>simp[iQ.fits]at hf
      |jQ=>simp[iQ.fits]at hf
    ·cases h
   ·rename_i id off v hx hy
    rw[hx]at hf;split at h
    ·rename_i cs _
     split at h
     ·rename_i vs _
      cases hc:(Nat.ble (off+vs.length) cs.length&&Nat.blt 0 vs.length) with
      |false=>simp[hc]at h
      |true =>
       simp only[hc,cond_true]at h;cases h;cases root with
       |ay=>exact⟨by simp,by simp,by simp[VO.wr]⟩
       |loc i=>simp[iQ.fits]at hf
       |jQ=>simp[iQ.fits]at hf
     ·cases h
    ·cases h
   ·cases h
 |app bT src sh mx x y =>
  simp only[VO.cK]at h;split at h
  ·split at h
   ·rename_i ys _
    cases hc:Nat.ble ys.length mx with
    |false=>simp[hc]at h
    |true=>simp only[hc,cond_true]at h;cases h;exact⟨by simp,by simp[VO.wr],by simp⟩
   ·cases h
  ·split at h
   ·rename_i ys _
    cases hc:Nat.ble ys.length mx with
    |false=>simp[hc]at h
    |true=>simp only[hc,cond_true]at h;cases h;exact⟨by simp,by simp[VO.wr],by simp⟩
   ·cases h
  ·rename_i f n es _ _ _
   split at h
   ·rename_i ys _
    split at h
    ·rename_i k hk
     cases hc:(k==es.length&&(n==sh.length)&&Nat.ble (es.length+ys.length) mx) with
     |false=>simp[hc]at h
     |true =>
      simp only[hc,cond_true]at h;cases h;cases hs:src==some f with
      |false=>simp[hs]at hk
      |true =>
       have:=eq_of_beq hs;subst this;exact⟨by simp,by simp[VO.wr,Cu],by simp⟩
    ·cases h
   ·cases h
  ·cases h
 |call alone f args reg =>
  have sA:∀r:V,∀p∈(recv reg r).2,Key.t p.1∈(yI reg).map Key.t:=fun r p hp=>by
   rw[E1]at hp;obtain⟨q,t,n,es,_,h2,_⟩:=Ap reg _ 0 p.1 p.2 hp;exact List.mem_map.2 ⟨p.1,List.mem_map.2 ⟨_,sy h2,rfl⟩,rfl⟩
  cases alone
  ·simp only[VO.cK]at h
   split at h
   ·split at h
    ·rename_i r G hc
     cases h;exact⟨by simp,fun p hp=>List.mem_append_right _ (sA r p hp),by simp[VO.wr]⟩
    ·cases h
   ·cases h
  ·simp only[VO.cK]at h
   split at h
   ·split at h
    ·rename_i r G hc
     cases hl:r.lone with
     |false=>simp[hl]at h
     |true =>
      simp only[hl,cond_true]at h;cases h;exact⟨by simp,fun p hp=>List.mem_append_right _ (sA r p hp),by simp⟩
    ·cases h
   ·cases h
 |pc f args =>
  simp only[VO.cK]at h;split at h
  ·split at h
   ·simp only[rd]at h
    split at h
    ·cases h;exact⟨by simp[Out.val],by simp[Out.val],by simp[Out.val]⟩
    ·cases h
   ·cases h
  ·cases h
 |own f args id pos =>
  simp only[VO.cK]at h;split at h
  ·split at h
   ·split at h
    ·cases h;exact⟨by simp[VO.wr],by simp,by simp⟩
    ·cases h;exact val _ _
    ·cases h
   ·cases h
  ·cases h
 |qK nw src sh x y =>
  simp only[VO.cK]at h;split at h
  ·split at h
   ·rename_i ys _
    cases hc:ys.isEmpty with
    |true=>simp only[hc,cond_true]at h;cases h;exact val _ _
    |false =>
     simp only[hc,cond_false]at h;cases hc:Nat.ble ys.length lim with
     |false=>simp[hc]at h
     |true=>simp only[hc,cond_true]at h;cases h;exact⟨by simp[VO.wr],by simp,by simp⟩
   ·cases h
  ·split at h
   ·rename_i ys _
    cases hc:ys.isEmpty with
    |true=>simp only[hc,cond_true]at h;cases h;exact val _ _
    |false =>
     simp only[hc,cond_false]at h;cases hc:Nat.ble ys.length lim with
     |false=>simp[hc]at h
     |true=>simp only[hc,cond_true]at h;cases h;exact⟨by simp[VO.wr],by simp,by simp⟩
   ·cases h
  ·rename_i id s ln _ _ _
   split at h
   ·rename_i ys cs _ _
    cases hc:((id==src)&&(s==sh.length)&&(cs.length==ln*s)&&Nat.ble (ln+ys.length) lim) with
    |false=>simp[hc]at h
    |true=>simp only[hc,cond_true]at h;cases h;exact⟨by simp[VO.wr],by simp,by simp⟩
   ·cases h
  ·cases h
 |tu k f i x =>
  simp only[VO.cK]at h;split at h
  ·rename_i id s n _
   split at h
   ·rename_i cs _
    cases hc:(id==i&&(s==1)&&Nat.ble n cs.length&&Nat.ble n lim&&Nat.blt 0 n) with
    |false=>simp[hc]at h
    |true =>
     simp only[hc,cond_true]at h;split at h
     ·cases h;exact⟨by simp[VO.wr],by simp,by simp⟩
     ·cases h
   ·cases h
  ·cases h
 |qL id zero x =>
  simp only[VO.cK]at h;split at h
  ·rename_i k n _
   cases hc:(decide (0≤n)&&decide (n≤(lim:Int))) with
   |false=>simp[hc]at h
   |true=>simp only[hc,cond_true]at h;cases h;exact⟨by simp[VO.wr],by simp,by simp⟩
  ·cases h
 |pe f args id =>
  simp only[VO.cK]at h;split at h
  ·split at h
   ·split at h
    ·rename_i i n len cs _
     cases hc:(i==id&&Nat.blt 0 cs.length&&Nat.blt 0 len&&cs.all V.sc) with
     |false=>simp[hc]at h
     |true=>simp only[hc,cond_true]at h;cases h;exact⟨by simp,by simp,by simp[VO.wr]⟩
    ·cases h;exact⟨by simp,by simp,by simp[VO.wr]⟩
    ·cases h
   ·cases h
  ·cases h
 |grow f id x =>
  simp only[VO.cK]at h;split at h
  ·rename_i n _
   cases hc:(decide (0≤n)&&decide (n≤(lim:Int))) with
   |false=>simp[hc]at h
   |true=>simp only[hc,cond_true]at h;cases h;exact⟨by simp[VO.wr],by simp,by simp⟩
  ·cases h
 |rU id src x y =>
  simp only[VO.cK]at h;split at h
  ·rename_i i s n b _ _
   split at h
   ·rename_i cs us _ _
    cases hc:(i==id&&(s==1)&&Nat.ble n cs.length&&us.all V.sc) with
    |false=>simp[hc]at h
    |true=>simp only[hc,cond_true]at h;cases h;exact⟨by simp[VO.wr],by simp,by simp⟩
   ·cases h
  ·cases h
 |_=>exact frame rfl
end
end Go.Vm

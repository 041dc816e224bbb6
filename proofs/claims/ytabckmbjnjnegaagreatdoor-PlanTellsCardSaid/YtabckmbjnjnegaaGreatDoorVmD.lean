/- - -/
import Derived.Test.YtabckmbjnjnegaaGreatDoorVmC
namespace Go.Vm
set_option linter.all false
inductive Key where
 |e (s:Nat)
 |o (id:Nat)
 |t (f:Nat)
 |g
 deriving DecidableEq
def same(S S':St):Key->Prop
 |.e s=>look s S.env=look s S'.env
 |.o id=>look id S.aY=look id S'.aY
 |.t f=>look f S.bo=look f S'.bo
 |.g=>S.aC=S'.aC
def aaH(S:St)(k:Key):same S S k:=by cases k<;>rfl
variable{k:Key}
def Tg{S S':St}(h:same S S' k):same S' S k:=by cases k<;>exact Eq.symm h
def NY{S S' Kf:St}(h:same S S' k)(h':same S' Kf k):same S Kf k:=by cases k<;>exact Eq.trans h h'
def Alike(S S':St):Prop:=∀k,same S S' k
structure Out where
 v:Option V
 obj:Option (Nat×List V)
 bo:List (Nat×Nat)
 aC:Option (List aM)
 del:Option Nat
def Out.val(v:V):Out:=⟨some v,none,[],none,none⟩
def Out.aY(u:Out)(aY:List (Nat×List V)):List (Nat×List V):=match u.obj with
 |some p=>p::(match u.del with|some i=>aY.filter (λq => !(q.1==i))|none=>aY)
 |none=>aY
def Out.app(u:Out)(d:Option Nat)(S:St):St :=
 let T:St:={ env:=S.env,aY:=u.aY S.aY,bo:=u.bo++S.bo,aC:=(match u.aC with|some G=>G|none=>S.aC) }
 match u.v with
 |some v=>T.put d v
 |none=>T
noncomputable def VO.dC(C:bI)(S:St):VO->Option Out
 |.mv x=>match S.ev x with
  |some v=>some (.val v)
  |none=>none
 |.pick c a b=>match S.ev c with
  |some (.bool t)=>match bif t then S.ev a else S.ev b with
   |some v=>some (.val v)
   |none=>none
  |_=>none
 |.obj id cells=>some ⟨some (.bn id 0),some (id,cells),[],none,none⟩
 |.box id x=>match S.ev x with
  |some v=>bif v.cells.all V.c5 then some ⟨some (.bn id 0),some (id,v.cells),[],none,none⟩ else none
  |none=>none
 |.yB sh x=>match S.ev x with
  |some v=>match oz sh v.cells with
   |some cs=>some ⟨some (.bu S.aC.length 0),none,[],some (S.aC++[aM.cells cs]),none⟩
   |none=>none
  |none=>none
 |.yC sh zero=>match oz sh zero with
  |some cs=>some ⟨some (.bu S.aC.length 0),none,[],some (S.aC++[aM.cells cs]),none⟩
  |none=>none
 |.yD=>some ⟨some (.map S.aC.length),none,[],some (S.aC++[aM.map []]),none⟩
 |.Ac ag ks zero ok x k=>match S.ev x,S.ev k with
  |some (.map i),some kv=>match S.aC[i]?,V.oW ag ks kv kv with
   |some (.map es),some _=>match oX ag ks kv es 0 with
    |some (some (_,v))=>some (.val (bif ok then .tuple [v,.bool true] else v))
    |some none=>some (.val (bif ok then .tuple [zero,.bool false] else zero))
    |none=>none
   |_,_=>none
  |_,_=>none
 |.yE ag ks sh x k y=>match S.ev x,S.ev k,S.ev y with
  |some (.map i),some kv,some v=>match S.aC[i]?,V.oW ag ks kv kv,CR sh v with
   |some (.map es),some _,some u=>match oX ag ks kv es 0 with
    |some (some (j,_))=>some ⟨none,none,[],some (S.aC.set i (aM.map (es.set j (kv,u)))),none⟩
    |some none=>some ⟨none,none,[],some (S.aC.set i (aM.map (es++[(kv,u)]))),none⟩
    |none=>none
   |_,_,_=>none
  |_,_,_=>none
 |.build zero parts=>match uq S parts zero with
  |some cs=>some (.val (.agg cs))
  |none=>none
 |.lit tok sh zero ln parts=>match xB S sh parts (List.replicate ln zero) with
  |some rs=>match tok with
   |some f=>some ⟨some (.slice (some f) sh.length rs),none,[(f,ln)],none,none⟩
   |none=>some (.val (.slice none sh.length rs))
  |none=>none
 |.load root sz p=>match S.ev p with
  |some a=>bif root.fits a then match S.pC a with
   |some (cs,off)=>match loadAt sz cs off with
    |some v=>some (.val (vx root v))
    |none=>none
   |none=>none
   else none
  |none=>none
 |.vt cD p=>match S.ev p with
  |some a=>match S.take cD a with
   |some (v,ts,G)=>some ⟨some v,none,ts,G,none⟩
   |none=>none
  |none=>none
 |.xt cD p x=>match S.ev p,S.ev x with
  |some a,some v=>match S.Ae cD a v with
   |some (ts,G)=>some ⟨none,none,ts,some G,none⟩
   |none=>none
  |_,_=>none
 |.store root sh p x=>bif S.fits root p then match S.ev p,S.ev x with
  |some (.bn id off),some v=>match look id S.aY with
   |some cs=>bif v.cells.length==sh.length&&Nat.ble (off+sh.length) cs.length&&v.cells.all V.c5&&Nat.blt 0 sh.length then
     some ⟨none,some (id,jE cs off v.cells),[],none,none⟩ else none
   |none=>none
  |some (.bu id off),some v=>match S.aC[id]? with
   |some (.cells cs)=>match oz sh v.cells with
    |some vs=>bif Nat.ble (off+vs.length) cs.length&&Nat.blt 0 vs.length then some ⟨none,none,[],some (S.aC.set id (aM.cells (jE cs off vs))),none⟩ else none
    |none=>none
   |_=>none
  |_,_=>none
  else none
 |.app cD src oy sh mx x y=>match S.ev x,S.ev y with
  |some .cj,some b=>match S.jR oy sh b with
   |some ys=>bif Nat.ble ys.length mx then some ⟨some (.slice (some cD) sh.length ys),none,[(cD,ys.length)],none,none⟩ else none
   |none=>none
  |some (.er _),some b=>match S.jR oy sh b with
   |some ys=>bif Nat.ble ys.length mx then some ⟨some (.slice (some cD) sh.length ys),none,[(cD,ys.length)],none,none⟩ else none
   |none=>none
  |some (.slice (some f) n es),some b=>match S.jR oy sh b with
   |some ys=>match (bif src==some f then look f S.bo else none) with
    |some k=>bif k==es.length&&(n==sh.length)&&Nat.ble (es.length+ys.length) mx then
      some ⟨some (.slice (some f) n (es++ys)),none,[(f,es.length+ys.length)],none,none⟩ else none
    |none=>none
   |none=>none
  |_,_=>none
 |.call false f args reg=>match S.ev f,oY S args with
  |some (.fn g cap),some vs=>match C g (vs++cap) S.aC with
   |some (r,G)=>some ⟨some (recv reg r).1,none,(recv reg r).2,some G,none⟩
   |none=>none
  |_,_=>none
 |.call true f args reg=>match S.ev f,oZ S args with
  |some (.fn g []),some vs=>match C g vs [] with
   |some (r,_)=>bif r.lone then some ⟨some (recv reg r).1,none,(recv reg r).2,none,none⟩ else none
   |none=>none
  |_,_=>none
 |.um f args=>match S.ev f,oY S args with
  |some (.fn g cap),some vs=>match C g (vs++cap) S.aC with
   |some (r,G)=>rd S.aC G (.val (recv [] r).1)
   |none=>none
  |_,_=>none
 |.Ad k _ i x=>match S.ev x with
  |some (.bY id s n)=>match look i S.aY with
   |some cs=>bif id==i&&(s==1)&&Nat.ble n cs.length&&Nat.ble n lim&&Nat.blt 0 n then match Af (cs.take n) with
    |some zs=>some ⟨some (Ex k i zs),some (i,(xC k zs).map (V.int .i64)++cs.drop n),[],none,none⟩
    |none=>none
    else none
   |none=>none
  |_=>none
 |.grow _ id n=>match S.ev n with
  |some (.int .i64 k)=>bif decide (0<=k)&&decide (k<=lim) then some ⟨some (.bY id 1 0),some (id,[]),[],none,none⟩ else none
  |_=>none
 |.yH x=>match S.ev x with
  |some v=>match Jx S.aC v.part with
   |some G=>some ⟨some (.tuple []),none,[],some G,none⟩
   |none=>none
  |none=>none
 |.yG id src x y=>match S.ev x,S.ev y with
  |some (.bY i s n),some b=>match look id S.aY,S.A8 src b with
   |some cs,some us=>bif i==id&&(s==1)&&Nat.ble n cs.length&&us.all V.sc then
     some ⟨some (.int .i64 (us.take n).length),some (id,us.take n++cs.drop (us.take n).length),[],none,none⟩ else none
   |_,_=>none
  |_,_=>none
 |.vu f args ids=>match S.ev f,nm S ids args with
  |some (.fn g []),some vs=>match C g vs [] with
   |some (r,_)=>bif r.tE then some (.val r) else none
   |none=>none
  |_,_=>none
 |.own f args ids id pos=>match S.ev f,nm S ids args with
  |some (.fn g []),some vs=>match C g vs [] with
   |some (r,_)=>match lP id pos r with
    |some (v,some cs)=>some ⟨some v,some (id,cs),[],none,none⟩
    |some (v,none)=>some (.val v)
    |none=>none
   |none=>none
  |_,_=>none
 |.vv f args id=>match S.ev f,oZ S args with
  |some (.fn g []),some vs=>match C g vs [] with
   |some (r,_)=>match lP id 0 r with
    |some (.bY i n ln,some cs)=>bif i==id&&Nat.blt 0 cs.length&&Nat.blt 0 ln&&cs.all V.sc then some ⟨some (.cO S.aC.length n ln),none,[],some (S.aC++[aM.cells cs]),none⟩ else none
    |some (.er n,none)=>some ⟨some (.cO S.aC.length n 0),none,[],some (S.aC++[aM.cells []]),none⟩
    |_=>none
   |none=>none
  |_,_=>none
 |.xy id zero n=>match S.ev n with
  |some (.int _ k)=>bif decide (0<=k)&&decide (k<=lim) then
    some ⟨some (.bY id zero.length k.toNat),some (id,(List.replicate k.toNat zero).flatten),[],none,none⟩ else none
  |_=>none
 |.wB new src oy sh x y=>match S.ev x,S.ev y with
  |some .cj,some b=>match S.jR oy sh b with
   |some ys=>bif ys.isEmpty then some (.val .cj) else
     bif Nat.ble ys.length lim then some ⟨some (.bY new sh.length ys.length),some (new,ys.flatten),[],none,none⟩ else none
   |none=>none
  |some (.er n),some b=>match S.jR oy sh b with
   |some ys=>bif ys.isEmpty then some (.val (.er n)) else
     bif Nat.ble ys.length lim then some ⟨some (.bY new sh.length ys.length),some (new,ys.flatten),[],none,none⟩ else none
   |none=>none
  |some (.bY id s ln),some b=>match S.jR oy sh b,look src S.aY with
   |some ys,some cs=>bif (id==src)&&(s==sh.length)&&(cs.length==ln*s)&&Nat.ble (ln+ys.length) lim then
     some ⟨some (.bY new sh.length (ln+ys.length)),some (new,cs++ys.flatten),[],none,some src⟩ else
     bif oy.isNone&&(id==src)&&(s==sh.length)&&Nat.ble (ln*s) cs.length&&Nat.ble (ln+ys.length) lim then
     some ⟨some (.bY new sh.length (ln+ys.length)),some (new,cs.take (ln*s)++ys.flatten),[],none,some src⟩ else none
   |_,_=>none
  |_,_=>none
 |vo=>(vo.run C (some 0) { S with env:=S.env,aY:=[],bo:=[],aC:=[] }).bind λS'=>match S'.env with
  |(_,v)::_=>some (.val v)
  |[]=>none
def Th(S:St)(x:bG):(St.mk S.env [] [] []).ev x=S.ev x:=by cases x<;>rfl
def anL(S:St)(x:Option bG)(n:Nat):(St.mk S.env [] [] []).lx x n=S.lx x n:=by cases x<;>first|rfl|exact Th S _
def aaI(S:St):∀xs:List bG,r8 (St.mk S.env [] [] []) xs=r8 S xs
 |[]=>rfl
 |x::xs=>by simp only[r8,Th,aaI S xs]
def vO(S:St)(d:Option Nat)(v:V):(Out.val v).app d S=S.put d v:=by cases d<;>rfl
def Bx{S S':St}(e:S'.env=S.env)(x:bG):S'.ev x=S.ev x:=by cases x<;>simp[St.ev,e]
def aaJ{S S':St}(e:S'.env=S.env)(x:Option bG)(n:Nat):S'.lx x n=S.lx x n:=by cases x<;>first|rfl|exact Bx e _
def aaK{S S':St}(e:S'.env=S.env):∀xs:List bG,r8 S' xs=r8 S xs
 |[]=>rfl
 |x::xs=>by simp only[r8,Bx e,aaK e xs]
def VO.jk(S' S:St):VO->Prop
 |.xu x | .un _ x | .conv _ x | .xv _ x | .field _ _ x | .len x | .yI _ x | .ext x _=>S'.ev x=S.ev x
 |.bin _ x y | .beq _ x y | .iI _ _ x y | .r7 _ _ x y | .mm _ x y=>S'.ev x=S.ev x/\S'.ev y=S.ev y
 |.xA _ x y z=>S'.ev x=S.ev x/\S'.ev y=S.ev y/\S'.ev z=S.ev z
 |.yJ _ x lo hi=>S'.ev x=S.ev x/\(∀n,S'.lx lo n=S.lx lo n)/\(∀n,S'.lx hi n=S.lx hi n)
 |.yK _ cap=>r8 S' cap=r8 S cap
 |_=>True
def Kg(C:bI)(S:St)(vo:VO):Prop:=∃r:Option V,∀d S',VO.jk S' S vo->vo.run C d S'=r.map λv=>S'.put d v
def VO.frame:VO->Bool
 |.A7 _ | .yI .. | .xu _ | .bin .. | .beq .. | .iI .. | .un .. | .conv .. | .xv .. | .r7 .. | .field .. | .len _ | .ext .. | .yJ .. | .mm .. | .xA .. | .yK .. => true
 |_=>false
def NZ(C:bI)(S:St)(vo:VO)(h:vo.frame=true):vo.dC C S=(vo.run C (some 0) (St.mk S.env [] [] [])).bind λS'=>match S'.env with
  |(_,v)::_=>some (.val v)
  |[]=>none:=by
 cases vo<;>first|rfl|cases h
variable{vo:VO}
def ek{C:bI}{S:St}(h:∀d S',VO.jk S' S vo->vo.run C d S'=none:=by intro d S' e;simp only[VO.jk]at e;simp[VO.run,e, *]):Kg C S vo:=⟨none,h⟩
def uD{C:bI}{S:St}(v:V)(h:∀d S',VO.jk S' S vo->vo.run C d S'=some (S'.put d v):=by intro d S' e;simp only[VO.jk]at e;simp[VO.run,e, *]):Kg C S vo:=⟨some v,h⟩
set_option maxHeartbeats 1000000 in
def aaL(C:bI)(S:St)(vo:VO)(vJ:vo.frame=true):Kg C S vo:=by
 have no:(∀d S',VO.jk S' S vo->vo.run C d S'=none)->Kg C S vo:=λh=>⟨none,h⟩;have yes:∀v,(∀d S',VO.jk S' S vo->vo.run C d S'=some (S'.put d v))->Kg C S vo:=λv h=>⟨some v,h⟩;cases vo with
 |xu x =>
  cases hx:S.ev x with
  |none=>exact ek
  |some a=>cases a<;>first|(refine no λd S' e=>?_;simp only[VO.jk]at e;simp[VO.run,e,hx];done)|(refine yes _ λd S' e=>Eq.trans (by simp only[VO.jk]at e;simp only[VO.run,e,hx];exact rfl) rfl)
 |bin op x y =>
  cases hx:S.ev x with
  |none=>exact ek
  |some a =>
   cases hy:S.ev y with
   |none=>exact ek
   |some b =>
    cases hz:V.bin op a b with
    |none=>exact ek
    |some v=>exact uD v
 |iI neg ks x y =>
  cases hx:S.ev x with
  |none=>exact ek
  |some a =>
   cases hy:S.ev y with
   |none=>exact ek
   |some b =>
    cases hz:V.iI neg ks a b with
    |none=>exact ek
    |some v=>exact uD v
 |beq neg x y =>
  cases hx:S.ev x with
  |none=>exact ek
  |some a =>
   cases hy:S.ev y with
   |none=>cases a<;>exact ek
   |some b=>cases a<;>cases b<;>first|(refine no λd S' e=>?_;simp only[VO.jk]at e;simp[VO.run,e,hx,hy];done)|(refine yes _ λd S' e=>Eq.trans (by simp only[VO.jk]at e;simp only[VO.run,e,hx,hy];exact rfl) rfl)
 |un op x =>
  cases hx:S.ev x with
  |none=>exact ek
  |some a =>
   cases hz:V.un op a with
   |none=>exact ek
   |some v=>exact uD v
 |conv k x =>
  cases hx:S.ev x with
  |none=>exact ek
  |some a=>cases a<;>first|(refine no λd S' e=>?_;simp only[VO.jk]at e;simp[VO.run,e,hx];done)|(refine yes _ λd S' e=>Eq.trans (by simp only[VO.jk]at e;simp only[VO.run,e,hx];exact rfl) rfl)
 |xv off x =>
  cases hx:S.ev x with
  |none=>exact ek
  |some a=>cases a<;>first|(refine no λd S' e=>?_;simp only[VO.jk]at e;simp[VO.run,e,hx];done)|(refine yes _ λd S' e=>Eq.trans (by simp only[VO.jk]at e;simp only[VO.run,e,hx];exact rfl) rfl)
 |r7 arr sz x i =>
  cases hx:S.ev x with
  |none=>cases arr<;>exact ek
  |some a =>
   cases hy:S.ev i with
   |none=>cases arr<;>cases a<;>exact ek
   |some b =>
    cases b with
    |int k m =>
     cases arr with
     |some n =>
      cases hc:(decide (0<=m)&&decide (m<(n:Int))) with
      |false=>exact ek
      |true=>cases a<;>first|(refine no λd S' e=>?_;simp only[VO.jk]at e;simp only[VO.run,e,hx,hy,hc,bW];done)|(refine yes _ λd S' e=>Eq.trans (by simp only[VO.jk]at e;simp only[VO.run,e,hx,hy,hc,bW];exact rfl) rfl)
     |none =>
      cases a with
      |slice tk n es =>
       cases hc:(decide (0<=m)&&(n==sz)) with
       |false=>exact ek
       |true =>
        cases he:es[m.toNat]? with
        |none=>exact ek
        |some r=>exact uD (.ff r 0)
      |bY id off n =>
       cases hc:(decide (0<=m)&&decide (m<(n:Int))&&(off==sz)) with
       |false=>exact ek
       |true=>exact uD (.bn id (m.toNat*sz))
      |cO id off n =>
       cases hc:(decide (0<=m)&&decide (m<(n:Int))&&(off==sz)) with
       |false=>exact ek
       |true=>exact uD (.bu id (m.toNat*sz))
      |_=>exact ek
    |_=>cases arr<;>cases a<;>exact ek
 |field off sz x =>
  cases hx:S.ev x with
  |none=>exact ek
  |some a =>
   cases a with
   |agg cs =>
    cases hl:loadAt sz cs off with
    |none=>exact ek
    |some v=>exact uD v
   |_=>exact ek
 |A7 n=>exact yes (.er n) λd S' e=>rfl
 |yI neg x =>
  cases hx:S.ev x with
  |none=>exact ek
  |some a =>
   cases a with
   |slice t n es=>cases es<;>first|(refine no λd S' e=>?_;simp only[VO.jk]at e;simp[VO.run,e,hx];done)|(refine yes _ λd S' e=>Eq.trans (by simp only[VO.jk]at e;simp only[VO.run,e,hx];exact rfl) rfl)
   |_=>first|(refine no λd S' e=>?_;simp only[VO.jk]at e;simp[VO.run,e,hx];done)|(refine yes _ λd S' e=>Eq.trans (by simp only[VO.jk]at e;simp only[VO.run,e,hx];exact rfl) rfl)
 |len x =>
  cases hx:S.ev x with
  |none=>exact ek
  |some a=>cases a<;>first|(refine no λd S' e=>?_;simp only[VO.jk]at e;simp[VO.run,e,hx];done)|(refine yes _ λd S' e=>Eq.trans (by simp only[VO.jk]at e;simp only[VO.run,e,hx];exact rfl) rfl)
 |ext x i =>
  cases hx:S.ev x with
  |none=>exact ek
  |some a =>
   cases a with
   |tuple vs =>
    cases hl:vs[i]? with
    |none=>exact ek
    |some v=>exact uD v
   |_=>exact ek
 |yJ sz x lo hi =>
  cases hx:S.ev x with
  |none=>exact ek
  |some a =>
   cases a with
   |slice tk m es =>
    cases hl:S.lx lo 0 with
    |none=>exact ek
    |some p =>
     cases hh:S.lx hi es.length with
     |none=>cases p<;>exact ek
     |some q =>
      cases p with
      |int k1 l =>
       cases q with
       |int k2 h =>
        cases hc:(decide (0<=l)&&decide (l<=h)&&decide (h<=(es.length:Int))&&(m==sz)) with
        |false=>exact ek
        |true=>exact yes (.slice none sz ((es.take h.toNat).drop l.toNat)) λd S' e=>by simp only[VO.jk]at e;simp only[VO.run,e,hx,hl,hh,hc,bW]
       |_=>exact ek
      |_=>exact ek
   |cj =>
    cases hl:S.lx lo 0 with
    |none=>exact ek
    |some p =>
     cases hh:S.lx hi 0 with
     |none=>cases p<;>exact ek
     |some q =>
      cases p with
      |int k1 l =>
       cases q with
       |int k2 h =>
        cases hc:(decide (l=0)&&decide (h=0)) with
        |false=>exact ek
        |true=>exact yes .cj λd S' e=>by simp only[VO.jk]at e;simp only[VO.run,e,hx,hl,hh,hc,bW]
       |_=>exact ek
      |_=>exact ek
   |bY id s n =>
    cases hl:S.lx lo 0 with
    |none=>exact ek
    |some p =>
     cases hh:S.lx hi n with
     |none=>cases p<;>exact ek
     |some q =>
      cases p with
      |int k1 l =>
       cases q with
       |int k2 h =>
        cases hc:(decide (0<=l)&&decide (l<=h)&&decide (h<=(n:Int))&&(s==sz)) with
        |false=>exact ek
        |true =>
         cases h1:decide (l=0) with
         |true=>exact uD (.bY id s h.toNat)
         |false =>
          cases h2:decide (l<(n:Int)) with
          |true=>exact uD (.fQ id s l.toNat (h-l).toNat)
          |false=>exact uD (.slice none s [])
       |_=>exact ek
      |_=>exact ek
   |cO id s n =>
    cases hl:S.lx lo 0 with
    |none=>exact ek
    |some p =>
     cases hh:S.lx hi n with
     |none=>cases p<;>exact ek
     |some q =>
      cases p with
      |int k1 l =>
       cases q with
       |int k2 h =>
        cases hc:(decide (0<=l)&&decide (l<=h)&&decide (h<=(n:Int))&&(s==sz)) with
        |false=>exact ek
        |true =>
         cases h1:decide (l=0) with
         |true=>exact uD (.cO id s h.toNat)
         |false =>
          cases h2:decide (l<(n:Int)) with
          |true=>exact uD (.jg id s l.toNat (h-l).toNat)
          |false=>exact ek
       |_=>exact ek
      |_=>exact ek
   |_=>exact ek
 |xA mx x y z =>
  cases hx:S.ev x with
  |none=>exact ek
  |some a =>
   cases hy:S.ev y with
   |none=>cases a<;>exact ek
   |some b =>
    cases hz:S.ev z with
    |none=>cases a<;>cases b<;>exact ek
    |some c =>
     cases a with
     |int k1 a=>cases b with
      |int k2 b=>cases c with
       |int k3 c=>exact yes _ λd S' e=>Eq.trans (by simp only[VO.jk]at e;simp only[VO.run,e,hx,hy,hz];exact rfl) rfl
       |_=>exact ek
      |_=>exact ek
     |_=>exact ek
 |mm mx x y =>
  cases hx:S.ev x with
  |none=>exact ek
  |some a =>
   cases hy:S.ev y with
   |none=>cases a<;>exact ek
   |some b=>cases a<;>cases b<;>first|(refine no λd S' e=>?_;simp only[VO.jk]at e;simp[VO.run,e,hx,hy];done)|(refine yes _ λd S' e=>Eq.trans (by simp only[VO.jk]at e;simp only[VO.run,e,hx,hy];exact rfl) rfl)
 |yK f cap =>
  cases hx:r8 S cap with
  |none=>exact ek
  |some vs =>
   cases hg:Ev vs with
   |none=>exact ek
   |some us=>exact uD (.fn f us)
 |_=>cases vJ
def qS{α β:Type}(c:Bool)(x y:Option α)(f:α->β):(bif c then x else y).map f=bif c then x.map f else y.map f:=by cases c<;>rfl
def Ti{S S':St}(e:S'.env=S.env)(vo:VO):VO.jk S' S vo:=by
 cases vo<;>first
  |trivial
  |exact Bx e _
  |exact⟨Bx e _,Bx e _⟩
  |exact⟨Bx e _,Bx e _,Bx e _⟩
  |exact⟨Bx e _,λn=>aaJ e _ n,λn=>aaJ e _ n⟩
  |exact aaK e _
def anM(C:bI)(d:Option Nat)(S:St)(vo:VO)(h:vo.frame=true):vo.run C d S=(vo.dC C S).map λu=>u.app d S:=by
 obtain⟨r,hr⟩:=aaL C S vo h;rw[NZ C S vo h,hr d S (Ti (S':=S) rfl vo),hr (some 0) (St.mk S.env [] [] []) (Ti (by rfl) vo)]
 cases r<;>simp[vO,St.put]
def aaM(C:bI)(d:Option Nat)(S:St)(vo:VO):vo.run C d S=(vo.dC C S).map λu=>u.app d S:=by
 cases vo with
 |mv x=>simp only[VO.run,VO.dC];cases S.ev x<;>simp[vO]
 |pick c a b =>
  simp only[VO.run,VO.dC];cases S.ev c with
  |none=>rfl
  |some v =>
   cases v<;>try rfl
   rename_i t;cases t<;>simp only[bW,gL]
   .cases S.ev b<;>simp[vO]
   .cases S.ev a<;>simp[vO]
 |obj id cells=>rfl
 |box id x =>
  simp only[VO.run,VO.dC];cases S.ev x with
  |none=>rfl
  |some v=>simp only[qS];cases v.cells.all V.c5<;>rfl
 |yB sh x =>
  simp only[VO.run,VO.dC];cases S.ev x with
  |none=>rfl
  |some v=>simp only;cases oz sh v.cells<;>rfl
 |yC sh zero=>simp only[VO.run,VO.dC];cases oz sh zero<;>rfl
 |yD=>rfl
 |Ac ag ks zero ok x k =>
  simp only[VO.run,VO.dC];split
  .split
   .split<;>simp_all[vO]
   .simp_all
  .simp_all
 |yE ag ks sh x k y =>
  simp only[VO.run,VO.dC];split
  .split
   .split<;>simp_all[Out.app,Out.aY]
   .simp_all
  .simp_all
 |build zero parts=>simp only[VO.run,VO.dC];cases uq S parts zero<;>simp[vO]
 |lit tok sh zero ln parts =>
  simp only[VO.run,VO.dC];cases xB S sh parts (List.replicate ln zero) with
  |none=>rfl
  |some rs=>cases tok<;>simp[vO]<;>rfl
 |load root sz p =>
  simp only[VO.run,VO.dC];cases S.ev p with
  |none=>rfl
  |some a =>
   simp only[qS];cases root.fits a
   .rfl
   .simp only[bW]
    cases S.pC a with
    |none=>rfl
    |some q =>
     obtain⟨cs,off⟩:=q;simp only;cases loadAt sz cs off<;>simp[vO]
 |vu f args ids =>
  simp only[VO.run,VO.dC];cases S.ev f with
  |none=>rfl
  |some a =>
   cases a<;>try rfl
   rename_i g cap;cases cap with
   |cons _ _=>rfl
   |nil =>
    cases nm S ids args with
    |none=>rfl
    |some vs =>
     simp only;cases C g vs [] with
     |none=>rfl
     |some q =>
      obtain⟨r,G⟩:=q;simp only[qS];cases r.tE<;>simp[vO]
 |vt cD p =>
  simp only[VO.run,VO.dC];cases S.ev p with
  |none=>rfl
  |some a =>
   simp only;cases S.take cD a with
   |none=>rfl
   |some q=>rfl
 |xt cD p x =>
  simp only[VO.run,VO.dC];cases S.ev p with
  |none=>rfl
  |some a =>
   cases S.ev x with
   |none=>rfl
   |some v =>
    simp only;cases S.Ae cD a v with
    |none=>rfl
    |some q=>rfl
 |store root sh p x =>
  simp only[VO.run,VO.dC];simp only[qS];cases S.fits root p
  .rfl
  .simp only[bW]
   cases S.ev p with
   |none=>rfl
   |some a =>
    cases S.ev x with
    |none=>cases a<;>rfl
    |some v =>
     cases a<;>try rfl
     next id off=>
      simp only;cases look id S.aY with
      |none=>rfl
      |some cs=>simp only[qS];rfl
     next id off=>
      simp only;cases S.aC[id]? with
      |none=>rfl
      |some o =>
       cases o with
       |map es=>rfl
       |cells cs =>
        simp only;cases oz sh v.cells with
        |none=>rfl
        |some vs=>simp only[qS];rfl
 |app cD src oy sh mx x y =>
  simp only[VO.run,VO.dC];cases S.ev x with
  |none=>rfl
  |some a =>
   cases S.ev y with
   |none =>
    cases a<;>try rfl
    rename_i tok n es;cases tok<;>rfl
   |some b =>
    cases a<;>try rfl
    .simp only
     cases S.jR oy sh b with
     |none=>rfl
     |some ys=>simp only[qS];rfl
    next tok n es=>
     cases tok with
     |none=>rfl
     |some f =>
      simp only;cases S.jR oy sh b with
      |none=>rfl
      |some ys =>
       simp only;cases (bif src==some f then look f S.bo else none) with
       |none=>rfl
       |some k=>simp only[qS];rfl
    .simp only
     cases S.jR oy sh b with
     |none=>rfl
     |some ys=>simp only[qS];rfl
 |wB nw src oy sh x y =>
  simp only[VO.run,VO.dC];cases S.ev x with
  |none=>rfl
  |some a =>
   cases S.ev y with
   |none=>cases a<;>rfl
   |some b =>
    cases a<;>try rfl
    .simp only
     cases S.jR oy sh b with
     |none=>rfl
     |some ys =>
      simp only[qS];cases ys.isEmpty<;>simp[vO]<;>rfl
    .simp only
     cases S.jR oy sh b with
     |none=>rfl
     |some ys =>
      simp only[qS];cases ys.isEmpty<;>simp[vO]<;>rfl
    .simp only
     cases S.jR oy sh b with
     |none=>rfl
     |some ys =>
      cases look src S.aY with
      |none=>rfl
      |some cs=>simp only[qS];rfl
 |call alone f args reg =>
  cases alone
  .simp only[VO.run,VO.dC]
   cases S.ev f with
   |none=>rfl
   |some a =>
    cases a<;>try rfl
    rename_i g cap;cases oY S args with
    |none=>rfl
    |some vs =>
     simp only;cases C g (vs++cap) S.aC with
     |none=>rfl
     |some q=>rfl
  .simp only[VO.run,VO.dC]
   cases S.ev f with
   |none=>rfl
   |some a =>
    cases a<;>try rfl
    rename_i g cap;cases oZ S args with
    |none=>cases cap<;>rfl
    |some vs =>
     cases cap with
     |cons _ _=>rfl
     |nil =>
      simp only;cases C g vs [] with
      |none=>rfl
      |some q=>simp only[qS];rfl
 |um f args =>
  simp only[VO.run,VO.dC];cases S.ev f with
  |none=>rfl
  |some a =>
   cases a<;>try rfl
   rename_i g cap;cases oY S args with
   |none=>rfl
   |some vs =>
    simp only;cases C g (vs++cap) S.aC with
    |none=>rfl
    |some q =>
     simp only[rd];split<;>simp[vO]
 |own f args ids id pos =>
  simp only[VO.run,VO.dC];cases S.ev f with
  |none=>rfl
  |some a =>
   cases a<;>try rfl
   rename_i g cap;cases nm S ids args with
   |none=>cases cap<;>rfl
   |some vs =>
    cases cap with
    |cons _ _=>rfl
    |nil =>
     simp only;cases C g vs [] with
     |none=>rfl
     |some q =>
      simp only;cases lP id pos q.1 with
      |none=>rfl
      |some p =>
       obtain⟨v,o⟩:=p;cases o with
       |none=>simp[vO]
       |some cs=>rfl
 |vv f args id =>
  simp only[VO.run,VO.dC];cases S.ev f with
  |none=>rfl
  |some a =>
   cases oZ S args with
   |none=>cases a<;>try rfl
          rename_i g cap;cases cap<;>rfl
   |some vs =>
    cases a<;>try rfl
    rename_i g cap;cases cap with
    |cons _ _=>rfl
    |nil =>
     simp only;cases C g vs [] with
     |none=>rfl
     |some q =>
      simp only;cases lP id 0 q.1 with
      |none=>rfl
      |some p =>
       obtain⟨v,o⟩:=p;cases o with
       |none=>cases v<;>rfl
       |some cs=>cases v<;>try rfl
                 simp only[qS];rfl
 |yH x =>
  simp only[VO.run,VO.dC];cases S.ev x with
  |none=>rfl
  |some a =>
   simp only;cases Jx S.aC a.part<;>rfl
 |Ad k f i x =>
  simp only[VO.run,VO.dC,St.mut];cases S.ev x with
  |none=>rfl
  |some a =>
   cases a<;>try rfl
   simp only;cases look i S.aY with
   |none=>rfl
   |some cs =>
    simp only[qS];congr 1;generalize Af _=z;cases z<;>rfl
 |xy id zero n =>
  simp only[VO.run,VO.dC];cases S.ev n with
  |none=>rfl
  |some a =>
   cases a<;>try rfl
   simp only[qS];rfl
 |grow f id n =>
  simp only[VO.run,VO.dC];cases S.ev n with
  |none=>rfl
  |some a =>
   cases a<;>try rfl
   rename_i k _;cases k<;>try rfl
   simp only[qS];rfl
 |yG id src x y =>
  simp only[VO.run,VO.dC];cases S.ev x with
  |none=>rfl
  |some a =>
   cases S.ev y with
   |none=>cases a<;>rfl
   |some b =>
    cases a<;>try rfl
    simp only;cases look id S.aY with
    |none=>rfl
    |some cs =>
     cases S.A8 src b with
     |none=>rfl
     |some us=>simp only[qS];rfl
 |_=>exact anM C d S _ rfl
def bG.keys:bG->List Key
 |.t s=>[.e s]
 |.c _=>[]
def kE.keys:kE->List Key
 |.loc id=>[.o id]
 |.aC=>[.g]
 |.mM=>[]
def N3:Option bG->List Key
 |some o=>o.keys
 |none=>[]
def N4:Option Nat->List Key
 |some f=>[.t f]
 |none=>[]
def Hl:Option Nat->List Key
 |some j=>[.o j]
 |none=>[]
def VO.rd:VO->List Key
 |.grow _ _ x=>x.keys
 |.yG id src x y=>.o id::(Hl src++x.keys++y.keys)
 |.yH x=>.g::x.keys
 |.Ad _ _ id x=>.o id::x.keys
 |.A7 _=>[]
 |.yI _ x=>x.keys
 |.vt _ x=>.g::x.keys
 |.xt f x y=>.g::.t f::(x.keys++y.keys)
 |.mv x | .box _ x | .xu x | .un _ x | .conv _ x | .xv _ x | .field _ _ x | .len x | .ext x _ | .xy _ _ x=>x.keys
 |.pick a b c=>a.keys++b.keys++c.keys
 |.obj _ _=>[]
 |.yB _ x=>.g::x.keys
 |.yC _ _ | .yD=>[.g]
 |.Ac _ _ _ _ x k=>.g::(x.keys++k.keys)
 |.yE _ _ _ x k y=>.g::(x.keys++k.keys++y.keys)
 |.build _ ps=>ps.flatMap λp=>p.2.2.keys
 |.lit _ _ _ _ ps=>ps.flatMap λp=>p.2.keys
 |.load root _ x=>root.keys++x.keys
 |.store root _ x y=>root.keys++x.keys++y.keys
 |.bin _ x y | .beq _ x y | .iI _ _ x y | .r7 _ _ x y | .mm _ x y=>x.keys++y.keys
 |.xA _ x y z=>x.keys++y.keys++z.keys
 |.app _ src oy _ _ x y=>N4 src++(Hl oy++x.keys++y.keys)
 |.wB _ src oy _ x y=>.o src::(Hl oy++x.keys++y.keys)
 |.call alone f args _=>(bif alone then [] else [.g])++f.keys++args.flatMap λp=>p.2.keys
 |.own f args ids _ _=>ids.map Key.o++(f.keys++args.flatMap λp=>p.2.2.keys)
 |.vv f args _=>.g::(f.keys++args.flatMap λp=>p.2.keys)
 |.vu f args ids=>ids.map Key.o++(f.keys++args.flatMap λp=>p.2.2.keys)
 |.um f args=>.g::(f.keys++args.flatMap λp=>p.2.keys)
 |.yJ _ x lo hi=>x.keys++N3 lo++N3 hi
 |.yK _ cap=>cap.flatMap bG.keys
def VO.wr:VO->List Key
 |.obj id _ | .box id _ | .xy id _ _ | .grow _ id _ | .yG id _ _ _=>[.o id]
 |.yB _ _ | .yC _ _ | .yD | .yE .. | .vv .. | .yH _=>[.g]
 |.lit (some f) _ _ _ _=>[.t f]
 |.store (.loc id) _ _ _=>[.o id]
 |.store _ _ _ _=>[.g]
 |.app f src _ _ _ _ _=>.t f::N4 src
 |.vt f _ | .xt f _ _=>[.g,.t f]
 |.wB nw src _ _ _ _=>[.o nw,.o src]
 |.call alone _ _ reg=>(bif alone then [] else [.g])++(EP reg).map .t
 |.own _ _ _ id _=>[.o id]
 |.Ad _ _ id _=>[.o id]
 |_=>[]
def cf.rd(o:cf):List Key:=(match o.guard with|some (s,_)=>[.e s] | none=>[])++o.op.rd
def cf.wr(o:cf):List Key:=(match o.dst with|some d=>[.e d] | none=>[])++o.op.wr
def gV(S S':St)(K:List Key):Prop:=∀k∈K,same S S' k
section
variable {S S':St} {C:bI}
def eB{x:bG}(h:gV S S' x.keys):S.ev x=S'.ev x:=by
 cases x with
 |t s=>exact h (.e s) (by simp[bG.keys])
 |c v=>rfl
variable{K L:List Key}
def gV.left(h:gV S S' (K++L)):gV S S' K:=λk hk=>h k (CK _ hk)
def gV.right(h:gV S S' (K++L)):gV S S' L:=λk hk=>h k (Gq _ hk)
def aaN:∀{xs:List bG},gV S S' (xs.flatMap bG.keys)->r8 S xs=r8 S' xs
 |[],_=>rfl
 |x::xs,h=>by
  rw[Ei]at h;simp only[r8,eB h.left,aaN h.right]
def aaO:∀{ps:List (Nat×Nat×bG)} {cs:List V},gV S S' (ps.flatMap λp=>p.2.2.keys)->uq S ps cs=uq S' ps cs
 |[],_,_=>rfl
 |(off,n,x)::ps,cs,h=>by
  rw[Ei]at h;simp only[uq,eB (x:=x) h.left];split
  .rw[aaO h.right]
  .rfl
def aaP{sh:Sh}:∀{ps:List (Nat×bG)} {rs:List (List V)},gV S S' (ps.flatMap λp=>p.2.keys)->xB S sh ps rs=xB S' sh ps rs
 |[],_,_=>rfl
 |(i,x)::ps,rs,h=>by
  rw[Ei]at h;simp only[xB,eB (x:=x) h.left];split
  .split
   .rw[aaP h.right]
   .rfl
  .rfl
def Tj:∀{ps:List (Sh×bG)},gV S S' (ps.flatMap λp=>p.2.keys)->oY S ps=oY S' ps
 |[],_=>rfl
 |(sh,x)::ps,h=>by
  rw[Ei]at h;simp only[oY,eB (x:=x) h.left,Tj h.right]
def Tk:∀{ps:List (Sh×bG)},gV S S' (ps.flatMap λp=>p.2.keys)->oZ S ps=oZ S' ps
 |[],_=>rfl
 |(sh,x)::ps,h=>by
  rw[Ei]at h;simp only[oZ,eB (x:=x) h.left,Tk h.right]
variable{sh:Sh}
def aaQ{v:V}:S.rows sh v=S'.rows sh v:=by
 unfold St.rows;split<;>rfl
def aaR{oy:Option Nat}{v:V}(h:∀j,oy=some j->look j S.aY=look j S'.aY):S.jR oy sh v=S'.jR oy sh v:=by
 unfold St.jR;cases oy with
 |none=>exact aaQ
 |some j =>
  cases v<;>try exact aaQ
  rename_i i s n;by_cases e:i=j
  .subst e
   simp only[St.uo,h i rfl]
  .have:(i==j)=false:=by simpa using e
   simp only[this,gL]
  rename_i i s off n;by_cases e:i=j
  .subst e
   simp only[St.Ns,h i rfl]
  .have:(i==j)=false:=by simpa using e
   simp only[this,gL]
variable{vo:VO}
def anN(h:gV S S' vo.rd):VO.jk S' S vo:=by
 cases vo with
 |xu x=>exact(eB h).symm
 |un op x=>exact(eB h).symm
 |conv k x=>exact(eB h).symm
 |xv off x=>exact(eB h).symm
 |field off sz x=>exact(eB h).symm
 |yI neg x=>exact(eB h).symm
 |len x=>exact(eB h).symm
 |ext x i=>exact(eB h).symm
 |bin op x y=>exact⟨(eB h.left).symm,(eB h.right).symm⟩
 |beq neg x y=>exact⟨(eB h.left).symm,(eB h.right).symm⟩
 |iI neg ks x y=>exact⟨(eB h.left).symm,(eB h.right).symm⟩
 |r7 arr sz x y=>exact⟨(eB h.left).symm,(eB h.right).symm⟩
 |mm mx x y=>exact⟨(eB h.left).symm,(eB h.right).symm⟩
 |xA mx x y z =>
  have h1:gV S S' (x.keys++y.keys++z.keys):=h;exact⟨(eB h1.left.left).symm,(eB h1.left.right).symm,(eB h1.right).symm⟩
 |yJ sz x lo hi =>
  have h1:gV S S' (x.keys++N3 lo++N3 hi):=h;refine⟨(eB h1.left.left).symm,λn=>?_,λn=>?_⟩
  .cases lo with
   |none=>rfl
   |some o=>exact(eB h1.left.right).symm
  .cases hi with
   |none=>rfl
   |some o=>exact(eB h1.right).symm
 |yK f cap=>exact(aaN h).symm
 |_=>trivial
def anO(vJ:vo.frame=true)(h:gV S S' vo.rd):vo.dC C S=vo.dC C S':=by
 obtain⟨r,hr⟩:=aaL C S vo vJ;rw[NZ C S vo vJ,NZ C S' vo vJ,hr (some 0) _ (Ti (by rfl) vo)]
 have h1:=anN h;have h2:VO.jk (St.mk S'.env [] [] []) S vo:=by
  cases vo<;>simp only[VO.jk,Th,anL,aaI]at h1 ⊢ <;> exact h1
 rw[hr (some 0) _ h2];cases r<;>rfl
def anP{root:kE}{a:V}(hf:root.fits a=true)(h:gV S S' root.keys):S.pC a=S'.pC a:=by
 cases root with
 |loc i =>
  cases a<;>simp[kE.fits]at hf;rename_i id off;subst hf;have:look i S.aY=look i S'.aY:=h (.o i) (by simp[kE.keys])
  simp only[St.pC,this]
 |aC =>
  cases a<;>simp[kE.fits]at hf;have:S.aC=S'.aC:=h .g (by simp[kE.keys])
  simp only[St.pC,this]
 |mM =>
  cases a<;>simp[kE.fits]at hf;rfl
def Tl{ids:List Nat}(ho:∀id∈ids,look id S.aY=look id S'.aY):∀{ps:List (Sh×Sh×bG)},gV S S' (ps.flatMap λp=>p.2.2.keys)->nm S ids ps=nm S' ids ps
 |[],_=>rfl
 |(rs,sh,x)::ps,h=>by
  rw[Ei]at h;have h1:S.ev x=S'.ev x:=eB h.left;have h2:=Tl ho (ps:=ps) h.right;have h3:∀id s n,S.Eu ids rs id s n=S'.Eu ids rs id s n:=λid s n=>by
   unfold St.Eu;cases hc:ids.contains id with
   |false=>rfl
   |true=>simp only[bW,St.uo,ho id (by simpa using hc)]
  have h4:∀id s off n,S.CS ids rs id s off n=S'.CS ids rs id s off n:=λid s off n=>by
   unfold St.CS;cases hc:ids.contains id with
   |false=>rfl
   |true=>simp only[bW,ho id (by simpa using hc)]
  simp only[nm,h1,h2];cases S'.ev x with
  |none=>rfl
  |some v =>
   cases v<;>try rfl
   next id s n=>
    simp only[h3 id s n]
   next id s off n=>
    simp only[h4 id s off n]
def aaS(h:gV S S' vo.rd):vo.dC C S=vo.dC C S':=by
 cases vo with
 |mv x=>simp only[VO.dC,eB (x:=x) h]
 |pick c a b =>
  have h1:gV S S' (c.keys++a.keys++b.keys):=h;simp only[VO.dC,eB (x:=c) h1.left.left,eB (x:=a) h1.left.right,eB (x:=b) h1.right]
 |obj id cells=>rfl
 |box id x=>simp only[VO.dC,eB (x:=x) h]
 |yB sh x =>
  have hg:S.aC=S'.aC:=h .g (by simp[VO.rd])
  have hx:gV S S' x.keys:=λk hk=>h k (by simp[VO.rd,hk])
  simp only[VO.dC,eB hx,hg]
 |yC sh zero =>
  have hg:S.aC=S'.aC:=h .g (by simp[VO.rd])
  simp only[VO.dC,hg]
 |yD =>
  have hg:S.aC=S'.aC:=h .g (by simp[VO.rd])
  simp only[VO.dC,hg]
 |Ac ag ks zero ok x k =>
  have hg:S.aC=S'.aC:=h .g (by simp[VO.rd])
  have hx:gV S S' x.keys:=λk hk=>h k (by simp[VO.rd,hk])
  have hk:gV S S' k.keys:=λk hk=>h k (by simp[VO.rd,hk])
  simp only[VO.dC,eB hx,eB hk,hg]
 |yE ag ks sh x k y =>
  have hg:S.aC=S'.aC:=h .g (by simp[VO.rd])
  have hx:gV S S' x.keys:=λk hk=>h k (by simp[VO.rd,hk])
  have hk:gV S S' k.keys:=λk hk=>h k (by simp[VO.rd,hk])
  have hy:gV S S' y.keys:=λk hk=>h k (by simp[VO.rd,hk])
  simp only[VO.dC,eB hx,eB hk,eB hy,hg]
 |build zero ps=>simp only[VO.dC,aaO (ps:=ps) h]
 |lit tok sh zero ln ps=>simp only[VO.dC,aaP (ps:=ps) h]
 |load root sz x =>
  have h1:gV S S' (root.keys++x.keys):=h;simp only[VO.dC,eB (x:=x) h1.right];cases S'.ev x with
  |none=>rfl
  |some a =>
   simp only;cases hf:root.fits a with
   |false=>rfl
   |true=>simp only[bW,anP hf h1.left]
 |vu f args ids =>
  have h1:gV S S' (ids.map Key.o++(f.keys++args.flatMap λp=>p.2.2.keys)):=h;have h2:∀id∈ids,look id S.aY=look id S'.aY:=λid hi=>h1 (.o id) (CK _ (nU.2 ⟨id,hi,rfl⟩));simp only[VO.dC,eB (x:=f) h1.right.left,Tl h2 (ps:=args) h1.right.right]
 |vt cD x =>
  have hg:S.aC=S'.aC:=h .g (by simp[VO.rd])
  have hx:gV S S' x.keys:=λk hk=>h k (by simp[VO.rd,hk])
  have ht:∀a,S.take cD a=S'.take cD a:=λa=>by cases a<;>simp only[St.take,hg]
  simp only[VO.dC,eB hx,ht]
 |xt cD x y =>
  have hg:S.aC=S'.aC:=h .g (by simp[VO.rd])
  have hf:look cD S.bo=look cD S'.bo:=h (.t cD) (by simp[VO.rd])
  have hx:gV S S' x.keys:=λk hk=>h k (by simp[VO.rd,hk])
  have hy:gV S S' y.keys:=λk hk=>h k (by simp[VO.rd,hk])
  have ht:∀a b,S.Ae cD a b=S'.Ae cD a b:=λa b=>by
   unfold St.Ae;split<;>first|rfl|simp only[hg,hf]
  simp only[VO.dC,eB hx,eB hy,ht]
 |store root sh x y =>
  have h1:gV S S' (root.keys++x.keys++y.keys):=h;have hx:=eB (x:=x) h1.left.right;have hy:=eB (x:=y) h1.right;have gy:S.fits root x=S'.fits root x:=by simp only[St.fits,hx]
  simp only[VO.dC,gy,hx,hy];cases hf:S'.fits root x with
  |false=>rfl
  |true =>
   simp only[bW];simp only[St.fits]at hf;cases hp:S'.ev x with
   |none=>rfl
   |some a =>
    rw[hp]at hf;simp only at hf;cases root with
    |loc i =>
     cases a<;>simp[kE.fits]at hf;rename_i id off;subst hf;have:look i S.aY=look i S'.aY:=h (.o i) (by simp[VO.rd,kE.keys])
     cases S'.ev y with
     |none=>rfl
     |some v=>simp only[this]
    |aC =>
     cases a<;>simp[kE.fits]at hf;have:S.aC=S'.aC:=h .g (by simp[VO.rd,kE.keys])
     cases S'.ev y with
     |none=>rfl
     |some v=>simp only[this]
    |mM =>
     cases a<;>simp[kE.fits]at hf;rfl
 |app cD src oy sh mx x y =>
  have hx:gV S S' x.keys:=λk hk=>h k (by simp[VO.rd,hk])
  have hy:gV S S' y.keys:=λk hk=>h k (by simp[VO.rd,hk])
  have ht:∀f,(bif src==some f then look f S.bo else none)=(bif src==some f then look f S'.bo else none):=λf=>by
   cases hs:src==some f with
   |false=>rfl
   |true =>
    have:=eq_of_beq hs;subst this;exact h (.t f) (by simp[VO.rd,N4])
  have hr:∀v,S.jR oy sh v=S'.jR oy sh v:=λv=>aaR λj e=>h (.o j) (by subst e;simp[VO.rd,Hl])
  simp only[VO.dC,eB hx,eB hy,ht,hr]
 |call alone f args reg =>
  have h1:gV S S' ((bif alone then [] else [.g])++f.keys++args.flatMap λp=>p.2.keys):=h;cases alone
  .have hg:S.aC=S'.aC:=h .g (by simp[VO.rd])
   simp only[VO.dC,eB (x:=f) h1.left.right,Tj (ps:=args) h1.right,hg]
  .simp only[VO.dC,eB (x:=f) h1.left.right,Tk (ps:=args) h1.right]
 |um f args =>
  have h1:gV S S' ([.g]++(f.keys++args.flatMap λp=>p.2.keys)):=h;have hg:S.aC=S'.aC:=h .g (by simp[VO.rd])
  simp only[VO.dC,eB (x:=f) h1.right.left,Tj (ps:=args) h1.right.right,hg]
 |own f args ids id pos =>
  have h1:gV S S' (ids.map Key.o++(f.keys++args.flatMap λp=>p.2.2.keys)):=h;have h2:∀id∈ids,look id S.aY=look id S'.aY:=λid hi=>h1 (.o id) (CK _ (nU.2 ⟨id,hi,rfl⟩));simp only[VO.dC,eB (x:=f) h1.right.left,Tl h2 (ps:=args) h1.right.right]
 |vv f args id =>
  have h1:gV S S' ([.g]++(f.keys++args.flatMap λp=>p.2.keys)):=h;have hg:S.aC=S'.aC:=h .g (by simp[VO.rd])
  simp only[VO.dC,eB (x:=f) h1.right.left,Tk (ps:=args) h1.right.right,hg]
 |xy id zero x=>simp only[VO.dC,eB (x:=x) h]
 |grow f id x=>simp only[VO.dC,eB (x:=x) h]
 |yG id src x y =>
  have ho:look id S.aY=look id S'.aY:=h (.o id) (by simp[VO.rd])
  have hj:∀j,src=some j->look j S.aY=look j S'.aY:=λj e=>h (.o j) (by simp[VO.rd,e,Hl])
  have hx:gV S S' x.keys:=λk hk=>h k (by simp[VO.rd,hk])
  have hy:gV S S' y.keys:=λk hk=>h k (by simp[VO.rd,hk])
  have hr:∀v,S.A8 src v=S'.A8 src v:=λv=>by
   unfold St.A8;cases src with
   |none=>rfl
   |some j=>simp only[hj j rfl]
  simp only[VO.dC,eB hx,eB hy,ho,hr]
 |yH x =>
  have hg:S.aC=S'.aC:=h .g (by simp[VO.rd])
  have hx:gV S S' x.keys:=λk hk=>h k (by simp[VO.rd,hk])
  simp only[VO.dC,eB hx,hg]
 |Ad k f i x =>
  have ho:look i S.aY=look i S'.aY:=h (.o i) (by simp[VO.rd])
  have hx:gV S S' x.keys:=λk hk=>h k (by simp[VO.rd,hk])
  simp only[VO.dC,eB hx,ho]
 |wB nw src oy sh x y =>
  have ho:look src S.aY=look src S'.aY:=h (.o src) (by simp[VO.rd])
  have hx:gV S S' x.keys:=λk hk=>h k (by simp[VO.rd,hk])
  have hy:gV S S' y.keys:=λk hk=>h k (by simp[VO.rd,hk])
  have hr:∀v,S.jR oy sh v=S'.jR oy sh v:=λv=>aaR λj e=>h (.o j) (by subst e;simp[VO.rd,Hl])
  simp only[VO.dC,eB hx,eB hy,ho,hr]
 |_=>exact anO rfl h
def Tm{α:Type}{s k:Nat}{v:α}{r:List (Nat×α)}(h:k≠s):look s ((k,v)::r)=look s r:=by rw[dO,ax h]
variable{u:Out}{d:Option Nat}{k:Key}
def Tn(h:same S S' k):same (u.app d S) (u.app d S') k:=by
 obtain⟨v,obj,bo,aC,del⟩:=u;cases k with
 |e s =>
  have h:look s S.env=look s S'.env:=h;cases v with
  |none=>exact h
  |some v =>
   cases d with
   |none=>exact h
   |some d=>show look s ((d,v)::S.env)=look s ((d,v)::S'.env);rw[dO,dO,h]
 |o id =>
  have h:look id S.aY=look id S'.aY:=h;have:look id (Out.aY ⟨v,obj,bo,aC,del⟩ S.aY)=look id (Out.aY ⟨v,obj,bo,aC,del⟩ S'.aY):=by
   cases obj with
   |none=>exact h
   |some p =>
    obtain⟨i,cs⟩:=p;cases del with
    |none=>simp only[Out.aY,dO,h]
    |some q=>simp only[Out.aY,dO,wN,h]
  cases v with
  |none=>exact this
  |some v=>cases d<;>exact this
 |t f =>
  have h:look f S.bo=look f S'.bo:=h;have:look f (bo++S.bo)=look f (bo++S'.bo):=by rw[Bp,Bp,h]
  cases v with
  |none=>exact this
  |some v=>cases d<;>exact this
 |g =>
  have h:S.aC=S'.aC:=h;have:(match aC with|some G=>G|none=>S.aC)=(match aC with|some G=>G|none=>S'.aC):=by
   cases aC with
   |none=>exact h
   |some G=>rfl
  cases v with
  |none=>exact this
  |some v=>cases d<;>exact this
def Hm(u:Out)(K:List Key):Prop :=
 (∀p,u.obj=some p->Key.o p.1∈K/\∀i,u.del=some i->Key.o i∈K)/\(∀p∈u.bo,Key.t p.1∈K)/\(∀G,u.aC=some G->Key.g∈K)
def anQ(hw:Hm u K)(hk:k∉(match d with|some d=>[Key.e d] | none=>[])++K):same (u.app d S) S k:=by
 obtain⟨v,obj,bo,aC,del⟩:=u;obtain⟨h1,h2,h3⟩:=hw;simp only at h1 h2 h3;have N5:k∉K:=λh=>hk (Gq _ h);cases k with
 |e s =>
  cases v with
  |none=>rfl
  |some v =>
   cases d with
   |none=>rfl
   |some d =>
    have:d≠s:=λe=>hk (by subst e;simp)
    exact Tm this
 |o id =>
  have:look id (Out.aY ⟨v,obj,bo,aC,del⟩ S.aY)=look id S.aY:=by
   cases obj with
   |none=>rfl
   |some p =>
    obtain⟨i,cs⟩:=p;obtain⟨q1,q2⟩:=h1 _ rfl;have cy:i≠id:=λe=>N5 (by rw[<-e];exact q1)
    cases del with
    |none=>exact Tm cy
    |some q =>
     simp only[Out.aY];rw[Tm cy,wN,ax (λe=>N5 (by rw[e];exact q2 q rfl))]
  cases v with
  |none=>exact this
  |some v=>cases d<;>exact this
 |t f =>
  have:look f (bo++S.bo)=look f S.bo:=by
   rw[Bp];cases hl:look f bo with
   |none=>rfl
   |some j=>exact absurd (h2 _ (xK hl)) N5
  cases v with
  |none=>exact this
  |some v=>cases d<;>exact this
 |g =>
  cases aC with
  |none =>
   cases v with
   |none=>rfl
   |some v=>cases d<;>rfl
  |some G=>exact absurd (h3 G rfl) N5
def aaT(h:vo.dC C S=some u):Hm u vo.wr:=by
 have val:∀v K,Hm (Out.val v) K:=λv K=>⟨by simp[Out.val],by simp[Out.val],by simp[Out.val]⟩
 have frame:vo.frame=true->Hm u vo.wr:=λvJ=>by
  rw[NZ C S vo vJ]at h;cases hr:vo.run C (some 0) (St.mk S.env [] [] []) with
  |none=>rw[hr]at h;cases h
  |some S1 =>
   rw[hr]at h;simp only[Ju]at h;split at h
   .cases h;exact val _ _
   .cases h
 cases vo
 any_goals ((first|exact frame rfl|(simp only[VO.dC,Bool.cond_eq_ite]at h;(repeat' (first|(cases h;done)|split at h))<;>first|(cases h;done)|(cases h;first|exact val _ _|(refine⟨?_,?_,?_⟩<;>simp[VO.wr];done)|fail)));done)
 case vt cD x =>
  simp only[VO.dC]at h;split at h
  .split at h
   next v ts G ht=>
    cases h;unfold St.take at ht;split at ht
    .split at ht
     .split at ht
      .cases ht;exact⟨by simp,by simp[VO.wr],by simp[VO.wr]⟩
      .cases ht;exact⟨by simp,by simp,by simp⟩
      .cases ht
     .cases ht
    .cases ht
   .cases h
  .cases h
 case xt cD x y =>
  simp only[VO.dC]at h;split at h
  .split at h
   next ts G ht=>
    cases h;unfold St.Ae at ht;split at ht
    .split at ht
     next k _ _=>
      rcases RD (k==_&&Nat.blt _ _) with hc|hc
      .rw[hc]at ht;cases ht;exact⟨by simp,by simp[VO.wr],by simp[VO.wr]⟩
      .rw[hc]at ht;cases ht
     .cases ht
    .cases ht
   .cases h
  .cases h
 case store root sh x y =>
  simp only[VO.dC]at h;cases hf:S.fits root x with
  |false=>simp[hf]at h
  |true =>
   simp only[hf,bW]at h;simp only[St.fits]at hf;split at h
   next id off v hx hy=>
    rw[hx]at hf;split at h
    next cs _=>
     cases hc:(v.cells.length==sh.length&&Nat.ble (off+sh.length) cs.length&&v.cells.all V.c5&&Nat.blt 0 sh.length) with
     |false=>simp[hc]at h
     |true =>
      simp only[hc,bW]at h;cases h;cases root with
      |loc i=>simp[kE.fits]at hf;subst hf;exact⟨by simp[VO.wr],by simp,by simp⟩
      |aC=>simp[kE.fits]at hf
      |mM=>simp[kE.fits]at hf
    .cases h
   next id off v hx hy=>
    rw[hx]at hf;split at h
    next cs _=>
     split at h
     next vs _=>
      cases hc:(Nat.ble (off+vs.length) cs.length&&Nat.blt 0 vs.length) with
      |false=>simp[hc]at h
      |true =>
       simp only[hc,bW]at h;cases h;cases root with
       |aC=>exact⟨by simp,by simp,by simp[VO.wr]⟩
       |loc i=>simp[kE.fits]at hf
       |mM=>simp[kE.fits]at hf
     .cases h
    .cases h
   .cases h
 case app cD src oy sh mx x y =>
  simp only[VO.dC]at h;split at h
  .split at h
   next ys _=>
    cases hc:Nat.ble ys.length mx with
    |false=>simp[hc]at h
    |true=>simp only[hc,bW]at h;cases h;exact⟨by simp,by simp[VO.wr],by simp⟩
   .cases h
  .split at h
   next ys _=>
    cases hc:Nat.ble ys.length mx with
    |false=>simp[hc]at h
    |true=>simp only[hc,bW]at h;cases h;exact⟨by simp,by simp[VO.wr],by simp⟩
   .cases h
  next f n es _ _ _=>
   split at h
   next ys _=>
    split at h
    next k hk=>
     cases hc:(k==es.length&&(n==sh.length)&&Nat.ble (es.length+ys.length) mx) with
     |false=>simp[hc]at h
     |true =>
      simp only[hc,bW]at h;cases h;cases hs:src==some f with
      |false=>simp[hs]at hk
      |true =>
       have:=eq_of_beq hs;subst this;exact⟨by simp,by simp[VO.wr,N4],by simp⟩
    .cases h
   .cases h
  .cases h
 case call alone f args reg =>
  have xL:∀r:V,∀p∈(recv reg r).2,Key.t p.1∈(EP reg).map Key.t:=λr p hp=>by
   rw[NH]at hp;obtain⟨q,t,n,es,_,h2,_⟩:=G7 reg _ 0 p.1 p.2 hp;exact nU.2 ⟨p.1,nU.2 ⟨_,xK h2,rfl⟩,rfl⟩
  cases alone
  .simp only[VO.dC]at h
   split at h
   .split at h
    next r G hc=>
     cases h;exact⟨by simp,λp hp=>Gq _ (xL r p hp),by simp[VO.wr]⟩
    .cases h
   .cases h
  .simp only[VO.dC]at h
   split at h
   .split at h
    next r G hc=>
     cases hl:r.lone with
     |false=>simp[hl]at h
     |true =>
      simp only[hl,bW]at h;cases h;exact⟨by simp,λp hp=>Gq _ (xL r p hp),by simp⟩
    .cases h
   .cases h
 case um f args =>
  simp only[VO.dC]at h;split at h
  .split at h
   .simp only[rd]at h
    split at h
    .cases h;exact⟨by simp[Out.val],by simp[Out.val],by simp[Out.val]⟩
    .cases h
   .cases h
  .cases h
end

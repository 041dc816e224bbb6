/- The value machine, 23: readings of plain types. -/
import Derived.Test.YtcelmhaoipbdiaaGreatVmL
import Derived.Test.YtcelmhaoipbdiaaGreatVmM
namespace Go.Vm
set_option linter.all false
open Go.ChangeShapes
theorem Mi{H:Type}{P:Program}{d:Nat}{t:TypeId}{k:IntKind}{vs:List V}{x:DataW H}(ht:P.underlying t=some (.int k))(h:mG P d t vs x) :
  ∃n,vs=[.int k n]∧(Lit.int k n).wf=true:=by
 cases d with
 |zero=>exact h.elim
 |succ d =>
  simp only[mG,ht]at h;obtain⟨n,h1,h2,_⟩:=h;exact⟨n,h1,h2⟩
abbrev Rz(k:IntKind)(n:Int):Prop:=(Lit.int k n).wf=true
theorem alG{H:Type}{P:Program}{d:Nat}{t e:TypeId}{α:Type}(row:α→List V)(I:α→Prop){vs:List V}{x:DataW H}(ht:P.underlying t=some (.slice e))
  (he:∀(d:Nat) (vs:List V) (x:DataW H),mG P d e vs x→∃a,vs=row a∧I a) (h:mG P d t vs x):∃l:List α,vs=[.slice none (P.cellsOf e) (l.map row)]∧(∀a∈l,I a)∧l.length≤9223372036854775807:=by
 cases d with
 |zero=>exact h.elim
 |succ d =>
  simp only[mG,ht]at h;obtain⟨es,xs,rfl,_,alH,hlen,hq⟩:=h
  suffices hs:∀(es:List (List V)) (xs:List (DataW H)),es.length=xs.length→(∀(i:Nat) row y,es[i]?=some row→xs[i]?=some y→mG P d e row y)→∃l:List α,es=l.map row∧∀a∈l,I a by
   obtain⟨l,rfl,hl⟩:=hs es xs hlen (fun i r y h1 h2=>(hq i r y h1 h2).2);exact⟨l,rfl,hl,by simpa using alH⟩
  intro es;induction es with
  |nil=>intro xs _ _;exact⟨[],rfl,by simp⟩
  |cons r es ih =>
   intro xs hl hr;cases xs with
   |nil=>simp at hl
   |cons y xs =>
    obtain⟨a,rfl,ha⟩:=he d r y (hr 0 r y rfl rfl);obtain⟨l,rfl,hI⟩:=ih xs (by simpa using hl) (fun i r y h1 h2=>hr (i+1) r y (by simpa using h1) (by simpa using h2))
    exact⟨a::l,rfl,by simpa using ⟨ha,hI⟩⟩
theorem Za{H:Type}{P:Program}{d:Nat}{t e:TypeId}{vs:List V}{x:DataW H}(ht:P.underlying t=some (.slice e))(he:P.underlying e=some (.int .i64))(hc:P.cellsOf e=1)(h:mG P d t vs x) :
  ∃l:List Int,vs=[.slice none 1 (l.map fun n=>[.int .i64 n])]∧(∀n∈l,Rz .i64 n)∧l.length≤9223372036854775807:=by
 have:=alG (fun n:Int=>[V.int .i64 n]) (fun n=>Rz .i64 n) ht (fun d vs x h=>Mi he h) h
 rwa [hc]at this
theorem aBZ{P:Program}{t:TypeId}{v:V}(h:∀fs,P.underlying t≠some (.struct fs)):yH P t [v]=v:=by
 unfold yH;split
 ·rename_i fs hf;exact absurd hf (h fs)
 ·rfl
def fieldAt(P:Program)(t:TypeId)(i:Nat):Option (TypeId×Nat×Nat):=match P.underlying t with
 |some (.struct fs)=>(fs[i]?).map fun f=>(f.type,f.offset,P.cellsOf f.type)
 |_=>none
def Mj(P:Program)(t:TypeId)(n:Nat):Bool:=match P.underlying t with
 |some (.struct _)=>P.cellsOf t==n
 |_=>false
theorem alI{H:Type}{P:Program}{d:Nat}{t ty:TypeId}{i off n:Nat}{vs:List V}{x:DataW H}(hf:fieldAt P t i=some (ty,off,n))(h:mG P d t vs x):∃(d':Nat) (y:DataW H),mG P d' ty ((vs.drop off).take n) y:=by
 cases d with
 |zero=>exact h.elim
 |succ d =>
  unfold fieldAt at hf;split at hf
  ·rename_i fs ht
   simp only[mG,ht]at h;obtain⟨xs,rfl,hl,_,hq⟩:=h;cases xu:fs[i]? with
   |none=>simp[xu]at hf
   |some f =>
    simp only[xu,nd,Option.some.injEq,Prod.mk.injEq]at hf;obtain⟨rfl,rfl,rfl⟩:=hf;have bI:i<xs.length:=by rw[hl];exact(wJ.1 xu).1
    exact⟨d,xs[i],hq i f _ xu (g8 bI)⟩
  ·cases hf
theorem RA{H:Type}{P:Program}{d:Nat}{t:TypeId}{n:Nat}{vs:List V}{x:DataW H}(hs:Mj P t n=true)(h:mG P d t vs x):vs.length=n:=by
 cases d with
 |zero=>exact h.elim
 |succ d =>
  unfold Mj at hs;split at hs
  ·rename_i fs ht
   simp only[mG,ht]at h;obtain⟨xs,rfl,_,hl,_⟩:=h;rw[hl];exact eq_of_beq hs
  ·cases hs
theorem alJ{P:Program}{t:TypeId}{vs:List V}{n:Nat}(hs:Mj P t n=true):yH P t vs=.agg vs:=by
 unfold Mj at hs;unfold yH;split at hs
 ·rename_i fs ht;simp[ht]
 ·cases hs
theorem alK{H:Type}{P:Program}{d:Nat}{t ty:TypeId}{i off:Nat}{k:IntKind}{vs:List V}{x:DataW H}(hf:fieldAt P t i=some (ty,off,1))(hk:P.underlying ty=some (.int k))(h:mG P d t vs x):∃n,(vs.drop off).take 1=[.int k n]∧Rz k n:=by
 obtain⟨d',y,h'⟩:=alI hf h;exact Mi hk h'
theorem alL{H:Type}{P:Program}{d:Nat}{t:TypeId}{ts:List TypeId}:∀{us:List V} {xs:List (DataW H)},BV P d (t::ts) us xs →
  ∃vs x l8 qK,us=yH P t vs::l8∧xs=x::qK∧mG P d t vs x∧BV P d ts l8 qK
 |[],_,h=>h.elim
 |_::_,[],h=>h.elim
 |u::us,x::xs,h=>by
  obtain⟨⟨vs,rfl,h1⟩,h2⟩:=h;exact⟨vs,x,us,xs,rfl,rfl,h1,h2⟩
theorem alM{H:Type}{P:Program}{d:Nat}:∀{us:List V} {xs:List (DataW H)},BV P d [] us xs→us=[]
 |[],_,_=>rfl
 |_::_,[],h=>h.elim
 |_::_,_::_,h=>h.elim
theorem Zb{P:Program}{d:Nat}{ts:List TypeId}(h:(ts.all fun t=>uQ P d t&&P.readableRec t&&Nat.blt t P.types.size)=true):∀t∈ts,uQ P d t=true∧P.readableRec t=true∧t<P.types.size:=fun t ht=>by
 have h1:=iL.1 h t ht;simp only[b8]at h1;exact⟨h1.1.1,h1.1.2,by simpa using h1.2⟩
def uT{H:Type}(P:Program)(d:Nat)(t:TypeId)(vs:List V)(x:DataW H):Prop:=mG P d t vs x∧∀n∈x.weights P t,n≤reachBytes
theorem Zc{H:Type}{P:Program}{e:TypeId}:∀{xs:List (DataW H)} {y:DataW H} {n:Nat},y∈xs→n∈y.weights P e→n∈DataW.weightsAll P e xs
 |x::xs,y,n,hy,hn=>by
  simp only[DataW.weightsAll,mS];rcases jQ.1 hy with rfl|hy
  ·exact .inl hn
  ·exact .inr (Zc hy hn)
theorem Zd{H:Type}{P:Program}:∀{ts:List TypeId} {xs:List (DataW H)} {i:Nat} {t:TypeId} {y:DataW H} {n:Nat},ts[i]?=some t→xs[i]?=some y→n∈y.weights P t→n∈DataW.weightsEach P ts xs
 |[],_,_,_,_,_,h,_,_=>by simp at h
 |_::_,[],_,_,_,_,_,h,_=>by simp at h
 |t::ts,x::xs,0,_,_,_,h,h',hn=>by
  simp at h h';subst h;subst h';simp only[DataW.weightsEach,mS];exact .inl hn
 |t::ts,x::xs,i+1,_,_,_,h,h',hn=>by
  simp only[DataW.weightsEach,mS];exact .inr (Zd (by simpa using h) (by simpa using h') hn)
theorem Ze{H:Type}{P:Program}:∀{ts us:List TypeId} {xs ys:List (DataW H)} {n:Nat},ts.length=xs.length→n∈DataW.weightsEach P ts xs→n∈DataW.weightsEach P (ts++us) (xs++ys)
 |[],_,[],_,_,_,h=>by simp[DataW.weightsEach]at h
 |[],_,_::_,_,_,h,_=>by simp at h
 |_::_,_,[],_,_,h,_=>by simp at h
 |t::ts,us,x::xs,ys,n,hl,h=>by
  simp only[DataW.weightsEach,mS,uu]at h ⊢;rcases h with h|h
  ·exact .inl h
  ·exact .inr (Ze (by simpa using hl) h)
theorem RB{H:Type}{P:Program}{d:Nat}{t e:TypeId}{α:Type}(row:α→List V)(I:α→Prop){vs:List V}{x:DataW H}(ht:P.underlying t=some (.slice e))
  (he:∀(d:Nat) (vs:List V) (x:DataW H),uT P d e vs x→∃a,vs=row a∧I a) (h:uT P d t vs x):∃l:List α,vs=[.slice none (P.cellsOf e) (l.map row)]∧(∀a∈l,I a)∧l.length*P.bytesOf e≤reachBytes:=by
 obtain⟨h,hw⟩:=h;cases d with
 |zero=>exact h.elim
 |succ d =>
  simp only[mG,ht]at h;obtain⟨es,xs,rfl,hx,_,hlen,hq⟩:=h;have hq':∀(i:Nat) (r:List V) (y:DataW H),es[i]?=some r→xs[i]?=some y→uT P d e r y:=fun i r y h1 h2=>by
   refine⟨(hq i r y h1 h2).2,fun n hn=>?_⟩;rcases hx with⟨sp,rfl⟩ | ⟨rfl,rfl⟩
   ·refine hw n ?_
    simp only[DataW.weights,ht,jQ,mS];exact .inr (.inl (Zc (g9 h2) hn))
   ·simp at h2
  have hb:es.length*P.bytesOf e≤reachBytes:=by
   rcases hx with⟨sp,rfl⟩ | ⟨rfl,rfl⟩
   ·have:=hw ((xs.length+sp.length)*P.bytesOf e) (by simp[DataW.weights,ht])
    rw[hlen];exact kL (rM _ (Nat.le_add_right _ _)) this
   ·rw[hlen];simp
  suffices hs:∀(es:List (List V)) (xs:List (DataW H)),es.length=xs.length→(∀(i:Nat) row y,es[i]?=some row→xs[i]?=some y→uT P d e row y)→∃l:List α,es=l.map row∧∀a∈l,I a by
   obtain⟨l,rfl,hl⟩:=hs es xs hlen hq';exact⟨l,rfl,hl,by simpa using hb⟩
  intro es;induction es with
  |nil=>intro xs _ _;exact⟨[],rfl,by simp⟩
  |cons r es ih =>
   intro xs hl hr;cases xs with
   |nil=>simp at hl
   |cons y xs =>
    obtain⟨a,rfl,ha⟩:=he d r y (hr 0 r y rfl rfl);obtain⟨l,rfl,Mf⟩:=ih xs (by simpa using hl) fun i r y h1 h2=>hr (i+1) r y (by simpa using h1) (by simpa using h2)
    exact⟨a::l,rfl,fun b hb=>by rcases jQ.1 hb with rfl|hb;exact ha;exact Mf b hb⟩
theorem DE{H:Type}{P:Program}{d:Nat}{t ty:TypeId}{i off n:Nat}{vs:List V}{x:DataW H}(hf:fieldAt P t i=some (ty,off,n))(h:uT P d t vs x):∃(d':Nat) (y:DataW H),uT P d' ty ((vs.drop off).take n) y:=by
 obtain⟨h,hw⟩:=h;cases d with
 |zero=>exact h.elim
 |succ d =>
  unfold fieldAt at hf;split at hf
  ·rename_i fs ht
   simp only[mG,ht]at h;obtain⟨xs,rfl,hl,_,hq⟩:=h;cases xu:fs[i]? with
   |none=>simp[xu]at hf
   |some f =>
    simp only[xu,nd,Option.some.injEq,Prod.mk.injEq]at hf;obtain⟨rfl,rfl,rfl⟩:=hf;have bI:i<xs.length:=by rw[hl];exact(wJ.1 xu).1
    refine⟨d,xs[i],hq i f xs[i] xu (by simp[bI]),fun m hm=>hw m ?_⟩
    simp only[DataW.weights,ht];exact Zd (i:=i) (t:=f.type) (y:=xs[i]) (by simp[xu]) (by simp[bI]) hm
  ·cases hf
def BY{H:Type}(P:Program)(d:Nat)(ts:List TypeId)(us:List V)(xs:List (DataW H)):Prop:=BV P d ts us xs∧∀n∈DataW.weightsEach P ts xs,n≤reachBytes
theorem IE{H:Type}{P:Program}{d:Nat}{t:TypeId}{ts:List TypeId}{us:List V}{xs:List (DataW H)}(h:BY P d (t::ts) us xs) :
  ∃vs x l8 qK,us=yH P t vs::l8∧xs=x::qK∧uT P d t vs x∧BY P d ts l8 qK:=by
 obtain⟨vs,x,l8,qK,rfl,rfl,h1,h2⟩:=alL h.1;exact⟨vs,x,l8,qK,rfl,rfl,⟨h1,fun n hn=>h.2 n (by simp only[DataW.weightsEach,mS];exact .inl hn)⟩,h2,fun n hn=>h.2 n (by simp only[DataW.weightsEach,mS];exact .inr hn)⟩
theorem Zf{H:Type}{P:Program}{d:Nat}{us:List V}{xs:List (DataW H)}(h:BY P d [] us xs):us=[]:=alM h.1
theorem Zg{H:Type}{P:Program}{d:Nat}:∀{ts:List TypeId} {us:List V} {xs:List (DataW H)},BV P d ts us xs→ts.length=xs.length
 |[],[],[],_=>rfl
 |_::_,_::_,_::_,h=>congrArg (· + 1) (Zg h.2)
theorem Zh{H:Type}{enc:TypeId×Value→H}{P:Program}{C:bD}{T:Pk}(hC:qm P T C){fn:Func}{f:FuncId}{s:ChangeSpec}{apart fresh handsOn again:Bool}{tb:TypeId}{d:Nat}
  (hl:laidOutB P=true) (vJ:∀t∈fn.params.toList,uQ P d t=true∧P.readableRec t=true∧t<P.types.size) (hr:fn.resultTypes = #[tb]) (FG:P.underlying tb=some .bool) (hv:s.vars=[])
  (hs:∀ds:List (DataW H),ds.length=fn.params.size→(s.fn H (ds++[])).results=[.lit (.bool true)]∧(s.fn H (ds++[])).args=ds∧(s.fn H (ds++[])).vars=[])
  {W:World} {base:Nat} {args:Array Value} {ds gs:List (DataW H)} {before:List MemPlace} {us:List TypeId}
  (law:∀us,BY P d fn.params.toList us ds→∃G',C f us []=some (.bool true,G'))
  (nQ:∀(j:Nat) t v,fn.params[j]?=some t→args[j]?=some v→Value.okWide P W .any base t v) (hW:DataW.Whole enc P fn.params.toList s.vars apart W args.toList ds gs before)
  (hq:(DataW.weightsEach P (fn.params.toList++us) (ds++gs)).all (· ≤ reachBytes)=true) (hf:jA f=f:=by rfl) (nk:oN T W.heap (Ap W.heap):=by exact oN.none) :
  Calls P f args W fun e W'=>∃v,e=.returned v∧s.post enc P fn apart fresh handsOn again W args v W' :=
 alf hC hl vJ hr FG hv hs (fun vs h=>law vs ⟨h,fun n hn=>by
  have:=iL.1 hq n (Ze (Zg h) hn);simpa using this⟩) nQ hW hf nk
end Go.Vm

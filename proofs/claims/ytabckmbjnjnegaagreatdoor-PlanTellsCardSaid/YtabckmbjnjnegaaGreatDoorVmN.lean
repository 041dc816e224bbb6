/- - -/
import Derived.Test.YtabckmbjnjnegaaGreatDoorVmL
import Derived.Test.YtabckmbjnjnegaaGreatDoorVmM
namespace Go.Vm
set_option linter.all false
open Go.ChangeShapes
variable{H:Type}{P:Program}{d:Nat}{t:TypeId}{k:IntKind}{vs:List V}
def OG{x:DataW H}(ht:P.underlying t=some (.int k))(h:nE P d t vs x) :
  ∃n,vs=[.int k n]/\(Lit.int k n).wf=true:=by
 cases d with
 |zero=>exact h.elim
 |succ d =>
  simp only[nE,ht]at h;obtain⟨n,h1,h2,_⟩:=h;exact⟨n,h1,h2⟩
abbrev Ua(k:IntKind)(n:Int):Prop:=(Lit.int k n).wf=true
variable{e:TypeId}{α:Type}
def apm(row:α->List V)(I:α->Prop){x:DataW H}(ht:P.underlying t=some (.slice e))
  (he:∀(d:Nat) (vs:List V) (x:DataW H),nE P d e vs x->∃a,vs=row a/\I a) (h:nE P d t vs x):∃l:List α,vs=[.slice none (P.cellsOf e) (l.map row)]/\(∀a∈l,I a)/\l.length<=9223372036854775807:=by
 cases d with
 |zero=>exact h.elim
 |succ d =>
  simp only[nE,ht]at h;obtain⟨es,xs,rfl,_,apn,hlen,hq⟩:=h
  suffices hs:∀(es:List (List V)) (xs:List (DataW H)),es.length=xs.length->(∀(i:Nat) row y,es[i]?=some row->xs[i]?=some y->nE P d e row y)->∃l:List α,es=l.map row/\∀a∈l,I a by
   obtain⟨l,rfl,hl⟩:=hs es xs hlen (λi r y h1 h2=>(hq i r y h1 h2).2);exact⟨l,rfl,hl,by simpa using apn⟩
  intro es;induction es with
  |nil=>intro xs _ _;exact⟨[],rfl,by simp⟩
  |cons r es ih =>
   intro xs hl hr;cases xs with
   |nil=>simp at hl
   |cons y xs =>
    obtain⟨a,rfl,ha⟩:=he d r y (hr 0 r y rfl rfl);obtain⟨l,rfl,hI⟩:=ih xs (by simpa using hl) (λi r y h1 h2=>hr (i+1) r y (by simpa using h1) (by simpa using h2))
    exact⟨a::l,rfl,by simpa using ⟨ha,hI⟩⟩
def apo{x:DataW H}(ht:P.underlying t=some (.slice e))(he:P.underlying e=some (.int .i64))(hc:P.cellsOf e=1)(h:nE P d t vs x) :
  ∃l:List Int,vs=[.slice none 1 (l.map λn=>[.int .i64 n])]/\(∀n∈l,Ua .i64 n)/\l.length<=9223372036854775807:=by
 have:=apm (λn:Int=>[V.int .i64 n]) (λn=>Ua .i64 n) ht (λd vs x h=>OG he h) h
 rwa [hc]at this
def fieldAt(P:Program)(t:TypeId)(i:Nat):Option (TypeId×Nat×Nat):=match P.underlying t with
 |some (.struct fs)=>(fs[i]?).map λf=>(f.type,f.offset,P.cellsOf f.type)
 |_=>none
def OH(P:Program)(t:TypeId)(n:Nat):Bool:=match P.underlying t with
 |some (.struct _)=>P.cellsOf t==n
 |_=>false
variable{ty:TypeId}{i off n:Nat}
def abQ{x:DataW H}(hf:fieldAt P t i=some (ty,off,n))(h:nE P d t vs x):∃(d':Nat) (y:DataW H),nE P d' ty ((vs.drop off).take n) y:=by
 cases d with
 |zero=>exact h.elim
 |succ d =>
  unfold fieldAt at hf;split at hf
  next fs ht=>
   simp only[nE,ht]at h;obtain⟨xs,rfl,hl,_,hq⟩:=h;cases zk:fs[i]? with
   |none=>simp[zk]at hf
   |some f =>
    simp only[zk,ox,Option.some.injEq,Prod.mk.injEq]at hf;obtain⟨rfl,rfl,rfl⟩:=hf;have bJ:i<xs.length:=by rw[hl];exact(xn.1 zk).1
    exact⟨d,xs[i],hq i f _ zk (eV bJ)⟩
  .cases hf
def abR{x:DataW H}(hs:OH P t n=true)(h:nE P d t vs x):vs.length=n:=by
 cases d with
 |zero=>exact h.elim
 |succ d =>
  unfold OH at hs;split at hs
  next fs ht=>
   simp only[nE,ht]at h;obtain⟨xs,rfl,_,hl,_⟩:=h;rw[hl];exact eq_of_beq hs
  .cases hs
def apq(hs:OH P t n=true):Ay P t vs=.agg vs:=by
 unfold OH at hs;unfold Ay;split at hs
 next fs ht=>simp[ht]
 .cases hs
def DB{x:DataW H}(hf:fieldAt P t i=some (ty,off,1))(hk:P.underlying ty=some (.int k))(h:nE P d t vs x):∃n,(vs.drop off).take 1=[.int k n]/\Ua k n:=by
 obtain⟨d',y,h'⟩:=abQ hf h;exact OG hk h'
variable{ts:List TypeId}
def apr:∀{us:List V} {xs:List (DataW H)},DA P d (t::ts) us xs ->
  ∃vs x mN sU,us=Ay P t vs::mN/\xs=x::sU/\nE P d t vs x/\DA P d ts mN sU
 |[],_,h=>h.elim
 |_::_,[],h=>h.elim
 |u::us,x::xs,h=>by
  obtain⟨⟨vs,rfl,h1⟩,h2⟩:=h;exact⟨vs,x,us,xs,rfl,rfl,h1,h2⟩
def aps:∀{us:List V} {xs:List (DataW H)},DA P d [] us xs->us=[]
 |[],_,_=>rfl
 |_::_,[],h=>h.elim
 |_::_,_::_,h=>h.elim
def tys(h:(ts.all λt=>wR P d t&&P.readableRec t&&Nat.blt t P.types.size)=true):∀t∈ts,wR P d t=true/\P.readableRec t=true/\t<P.types.size:=λt ht=>by
 have h1:=iW.1 h t ht;simp only[bZ]at h1;exact⟨h1.1.1,h1.1.2,by simpa using h1.2⟩
def AA{H:Type}(P:Program)(d:Nat)(t:TypeId)(vs:List V)(x:DataW H):Prop:=nE P d t vs x/\∀n∈x.weights P t,n<=reachBytes
def abS{H:Type}{P:Program}{e:TypeId}:∀{xs:List (DataW H)} {y:DataW H} {n:Nat},y∈xs->n∈y.weights P e->n∈DataW.weightsAll P e xs
 |x::xs,y,n,hy,hn=>by
  simp only[DataW.weightsAll,ka];rcases iA.1 hy with rfl|hy
  .exact .inl hn
  .exact .inr (abS hy hn)
def abT{H:Type}{P:Program}:∀{ts:List TypeId} {xs:List (DataW H)} {i:Nat} {t:TypeId} {y:DataW H} {n:Nat},ts[i]?=some t->xs[i]?=some y->n∈y.weights P t->n∈DataW.weightsEach P ts xs
 |[],_,_,_,_,_,h,_,_=>by simp at h
 |_::_,[],_,_,_,_,_,h,_=>by simp at h
 |t::ts,x::xs,0,_,_,_,h,h',hn=>by
  simp at h h';subst h;subst h';simp only[DataW.weightsEach,ka];exact .inl hn
 |t::ts,x::xs,i+1,_,_,_,h,h',hn=>by
  simp only[DataW.weightsEach,ka];exact .inr (abT (by simpa using h) (by simpa using h') hn)
def abU{H:Type}{P:Program}:∀{ts us:List TypeId} {xs ys:List (DataW H)} {n:Nat},ts.length=xs.length->n∈DataW.weightsEach P ts xs->n∈DataW.weightsEach P (ts++us) (xs++ys)
 |[],_,[],_,_,_,h=>by simp[DataW.weightsEach]at h
 |[],_,_::_,_,_,h,_=>by simp at h
 |_::_,_,[],_,_,h,_=>by simp at h
 |t::ts,us,x::xs,ys,n,hl,h=>by
  simp only[DataW.weightsEach,ka,vm]at h ⊢;rcases h with h|h
  .exact .inl h
  .exact .inr (abU (by simpa using hl) h)
def Ub(row:α->List V)(I:α->Prop){x:DataW H}(ht:P.underlying t=some (.slice e))
  (he:∀(d:Nat) (vs:List V) (x:DataW H),AA P d e vs x->∃a,vs=row a/\I a) (h:AA P d t vs x):∃l:List α,vs=[.slice none (P.cellsOf e) (l.map row)]/\(∀a∈l,I a)/\l.length*P.bytesOf e<=reachBytes:=by
 obtain⟨h,hw⟩:=h;cases d with
 |zero=>exact h.elim
 |succ d =>
  simp only[nE,ht]at h;obtain⟨es,xs,rfl,hx,_,hlen,hq⟩:=h;have hq':∀(i:Nat) (r:List V) (y:DataW H),es[i]?=some r->xs[i]?=some y->AA P d e r y:=λi r y h1 h2=>by
   refine⟨(hq i r y h1 h2).2,λn hn=>?_⟩;rcases hx with⟨sp,rfl⟩ | ⟨rfl,rfl⟩
   .refine hw n ?_
    simp only[DataW.weights,ht,iA,ka];exact .inr (.inl (abS (gw h2) hn))
   .simp at h2
  have hb:es.length*P.bytesOf e<=reachBytes:=by
   rcases hx with⟨sp,rfl⟩ | ⟨rfl,rfl⟩
   .have:=hw ((xs.length+sp.length)*P.bytesOf e) (by simp[DataW.weights,ht])
    rw[hlen];exact iO (uk _ (Nat.le_add_right _ _)) this
   .rw[hlen];simp
  suffices hs:∀(es:List (List V)) (xs:List (DataW H)),es.length=xs.length->(∀(i:Nat) row y,es[i]?=some row->xs[i]?=some y->AA P d e row y)->∃l:List α,es=l.map row/\∀a∈l,I a by
   obtain⟨l,rfl,hl⟩:=hs es xs hlen hq';exact⟨l,rfl,hl,by simpa using hb⟩
  intro es;induction es with
  |nil=>intro xs _ _;exact⟨[],rfl,by simp⟩
  |cons r es ih =>
   intro xs hl hr;cases xs with
   |nil=>simp at hl
   |cons y xs =>
    obtain⟨a,rfl,ha⟩:=he d r y (hr 0 r y rfl rfl);obtain⟨l,rfl,OC⟩:=ih xs (by simpa using hl) λi r y h1 h2=>hr (i+1) r y (by simpa using h1) (by simpa using h2)
    exact⟨a::l,rfl,λb hb=>by rcases iA.1 hb with rfl|hb;exact ha;exact OC b hb⟩
def apv{x:DataW H}(hf:fieldAt P t i=some (ty,off,n))(h:AA P d t vs x):∃(d':Nat) (y:DataW H),AA P d' ty ((vs.drop off).take n) y:=by
 obtain⟨h,hw⟩:=h;cases d with
 |zero=>exact h.elim
 |succ d =>
  unfold fieldAt at hf;split at hf
  next fs ht=>
   simp only[nE,ht]at h;obtain⟨xs,rfl,hl,_,hq⟩:=h;cases zk:fs[i]? with
   |none=>simp[zk]at hf
   |some f =>
    simp only[zk,ox,Option.some.injEq,Prod.mk.injEq]at hf;obtain⟨rfl,rfl,rfl⟩:=hf;have bJ:i<xs.length:=by rw[hl];exact(xn.1 zk).1
    refine⟨d,xs[i],hq i f xs[i] zk (by simp[bJ]),λm hm=>hw m ?_⟩
    simp only[DataW.weights,ht];exact abT (i:=i) (t:=f.type) (y:=xs[i]) (by simp[zk]) (by simp[bJ]) hm
  .cases hf
def HA{H:Type}(P:Program)(d:Nat)(ts:List TypeId)(us:List V)(xs:List (DataW H)):Prop:=DA P d ts us xs/\∀n∈DataW.weightsEach P ts xs,n<=reachBytes
def OJ{us:List V}{xs:List (DataW H)}(h:HA P d (t::ts) us xs) :
  ∃vs x mN sU,us=Ay P t vs::mN/\xs=x::sU/\AA P d t vs x/\HA P d ts mN sU:=by
 obtain⟨vs,x,mN,sU,rfl,rfl,h1,h2⟩:=apr h.1;exact⟨vs,x,mN,sU,rfl,rfl,⟨h1,λn hn=>h.2 n (by simp only[DataW.weightsEach,ka];exact .inl hn)⟩,h2,λn hn=>h.2 n (by simp only[DataW.weightsEach,ka];exact .inr hn)⟩
def apw{us:List V}{xs:List (DataW H)}(h:HA P d [] us xs):us=[]:=aps h.1
def abV{H:Type}{P:Program}{d:Nat}:∀{ts:List TypeId} {us:List V} {xs:List (DataW H)},DA P d ts us xs->ts.length=xs.length
 |[],[],[],_=>rfl
 |_::_,_::_,_::_,h=>congrArg (· + 1) (abV h.2)
def apx{enc:TypeId×Value->H}{C:bI}{T:Pk}(hC:sj P T C){fn:Func}{f:FuncId}{s:ChangeSpec}{apart fresh handsOn again:Bool}{tb:TypeId}
  (hl:laidOutB P=true) (xG:∀t∈fn.params.toList,wR P d t=true/\P.readableRec t=true/\t<P.types.size) (hr:fn.resultTypes = #[tb]) (Hx:P.underlying tb=some .bool) (hv:s.vars=[])
  (hs:∀ds:List (DataW H),ds.length=fn.params.size->(s.fn H (ds++[])).results=[.lit (.bool true)]/\(s.fn H (ds++[])).args=ds/\(s.fn H (ds++[])).vars=[])
  {W:World} {base:Nat} {args:Array Value} {ds gs:List (DataW H)} {before:List MemPlace} {us:List TypeId}
  (law:∀us,HA P d fn.params.toList us ds->∃G',C f us []=some (.bool true,G'))
  (qt:∀(j:Nat) t v,fn.params[j]?=some t->args[j]?=some v->Value.okWide P W .any base t v) (hW:DataW.Whole enc P fn.params.toList s.vars apart W args.toList ds gs before)
  (hq:(DataW.weightsEach P (fn.params.toList++us) (ds++gs)).all (· <= reachBytes)=true) (hf:kb f=f:=by rfl) (oD:pF T W.heap (xV W.heap):=by exact pF.none) :
  Calls P f args W λe W'=>∃v,e=.returned v/\s.post enc P fn apart fresh handsOn again W args v W' :=
 aoY hC hl xG hr Hx hv hs (λvs h=>law vs ⟨h,λn hn=>by
  have:=iW.1 hq n (abU (abV h) hn);simpa using this⟩) qt hW hf oD

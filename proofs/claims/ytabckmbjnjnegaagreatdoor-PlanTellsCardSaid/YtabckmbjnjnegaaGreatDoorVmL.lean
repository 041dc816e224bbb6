/- - -/
import Derived.Test.YtabckmbjnjnegaaGreatDoorVmK
namespace Go.Vm
set_option linter.all false
open Go.ChangeShapes Go.RowKit
section
variable {H:Type} {enc:TypeId×Value->H} {P:Program}
def Ay(P:Program)(t:TypeId)(vs:List V):V :=
 match P.underlying t with
 |some (.struct _)=>.agg vs
 |_=>vs.headD .undef
variable{W:World}
def abD{vs:List V}{cs:List Value}(h:zg W vs cs)(i:Nat)(v:V)(y:Value)(hv:vs[i]?=some v)(hy:cs[i]?=some y):bh ⟨W.heap,KB W.heap,0,[]⟩ v y:=by
 obtain⟨h1,h2⟩:=h.2 i v y hv hy;refine .plain h1 (λf n es e=>?_);subst e;cases h2
variable{d base:Nat}
def aoX{t:TypeId}{v:Value}{x:DataW H}{ps:List MemPlace}(hp:wR P d t=true)(qt:Value.okWide P W .any base t v)(h:DataW.Trod enc P W 0 (λ_=>true) true t v x ps) :
  ∃vs,bh ⟨W.heap,KB W.heap,0,[]⟩ (Ay P t vs) v/\nE P d t vs x:=by
 obtain⟨fuel,hf⟩:=h;obtain⟨vs,hb,hq⟩:=TQ d fuel t _ _ hp hf;refine⟨vs,?_,hq⟩;unfold Ay;split
 next fs ht=>
  obtain⟨cs,rfl,_⟩:∃cs,v=.agg cs/\True:=by
   simp only[Value.okWide,ht]at qt;obtain⟨cs,h,_⟩:=qt;exact⟨cs,h,trivial⟩
  refine .agg vs cs (by simpa [Value.cells] using hb.1) (λi u z hu hz=>?_)
  exact abD hb i u z hu (by simpa [Value.cells] using hz)
 next hns=>
  have An:v.cells = #[v]:=by
   cases v with
   |agg cs =>
    exfalso;cases d with
    |zero=>simp[wR]at hp
    |succ d =>
     unfold wR at hp;unfold Value.okWide at qt;split at hp
     next ht=>simp[ht,Cell.okWide,Cell.ok]at qt
     next ht=>simp[ht,Cell.okWide,Cell.ok]at qt
     next ht=>simp[ht,Cell.okWide,Cell.ok]at qt
     next ht=>simp[ht,Cell.okWide,Cell.ok]at qt
     next ht=>exact hns _ ht
     .cases hp
   |_=>rfl
  rw[An]at hb
  match vs,hb with
  |[u],hb=>exact abD hb 0 u v rfl rfl
  |[],hb=>have:=hb.1;simp at this
  |_::_::_,hb=>have:=hb.1;simp at this
def DA(P:Program)(d:Nat):List TypeId->List V->List (DataW H)->Prop
 |[],[],[]=>True
 |t::ts,u::us,x::xs=>(∃vs,u=Ay P t vs/\nE P d t vs x)/\DA P d ts us xs
 |_,_,_=>False
def abE{W:World}{d base:Nat}:∀{ts:List TypeId} {vs:List Value} {ds:List (DataW H)} {ps:List MemPlace},(∀t∈ts,wR P d t=true) ->
  (∀(j:Nat) t v,ts[j]?=some t->vs[j]?=some v->Value.okWide P W .any base t v)->DataW.TrodAll enc P W 0 (λ_=>true) true ts vs ds ps ->
  ∃us:List V,us.length=vs.length/\(∀(i:Nat) (u:V) (v:Value),us[i]?=some u->vs[i]?=some v->bh ⟨W.heap,KB W.heap,0,[]⟩ u v)/\DA P d ts us ds
 |[],vs,ds,ps,_,_,h=>by
  obtain⟨rfl,rfl,rfl⟩:=trodAll_nil h;exact⟨[],rfl,by simp,trivial⟩
 |t::ts,vs,ds,ps,hp,qt,h=>by
  obtain⟨v,vs1,x,Tz,p,q,rfl,rfl,rfl,h1,h2⟩:=trodAll_cons h;obtain⟨as,ha,hq⟩:=aoX (hp t (by simp)) (qt 0 t v rfl rfl) h1
  obtain⟨us,hl,hu,hs⟩:=abE (λt ht=>hp t (by simp[ht])) (λj t v ht hv=>qt (j+1) t v (by simpa using ht) (by simpa using hv)) h2
  refine⟨Ay P t as::us,by simp[hl],λi u v hi hv=>?_,⟨as,rfl,hq⟩,hs⟩
  cases i with
  |zero=>simp at hi hv;subst hi;subst hv;exact ha
  |succ i=>exact hu i u v (by simpa using hi) (by simpa using hv)
def pF.none{h:Array Obj}{m:Nat->Nat}:pF [] h m:=λ_ _ hk=>absurd hk (by simp)
def aoY{C:bI}{T:Pk}(hC:sj P T C){fn:Func}{f:FuncId}{s:ChangeSpec}{apart fresh handsOn again:Bool}{tb:TypeId}
  (hl:laidOutB P=true) (xG:∀t∈fn.params.toList,wR P d t=true/\P.readableRec t=true/\t<P.types.size) (hr:fn.resultTypes = #[tb]) (Hx:P.underlying tb=some .bool) (hv:s.vars=[])
  (hs:∀ds:List (DataW H),ds.length=fn.params.size->(s.fn H (ds++[])).results=[.lit (.bool true)]/\(s.fn H (ds++[])).args=ds/\(s.fn H (ds++[])).vars=[]) {args:Array Value} {ds gs:List (DataW H)} {before:List MemPlace}
  (law:∀us,DA P d fn.params.toList us ds->∃G',C f us []=some (.bool true,G'))
  (qt:∀(j:Nat) t v,fn.params[j]?=some t->args[j]?=some v->Value.okWide P W .any base t v) (hW:DataW.Whole enc P fn.params.toList s.vars apart W args.toList ds gs before) (hf:kb f=f:=by rfl) (oD:pF T W.heap (xV W.heap):=by exact pF.none) :
  Calls P f args W λe W'=>∃v,e=.returned v/\s.post enc P fn apart fresh handsOn again W args v W':=by
 have Ox:=hW;obtain⟨p,q,hA,hV,rfl,_,_⟩:=hW;obtain⟨us,h1,h2,h3⟩:=abE (d:=d) (base:=base) (λt ht=>(xG t ht).1) (λj t v ht hv=>qt j t v (by simpa using ht) (by simpa using hv)) hA
 obtain⟨G',h4⟩:=law us h3;exact(aoW hC hf h4 (by simpa using h1) h2 oD).mono λe W' ⟨he,hB⟩=>⟨_,he,aoV hl (λt ht=>(xG t ht).2) hr Hx Ox hB hv (hs ds)⟩
end

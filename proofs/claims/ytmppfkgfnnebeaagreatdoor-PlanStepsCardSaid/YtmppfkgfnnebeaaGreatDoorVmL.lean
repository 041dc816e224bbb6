/- The value machine, 21: a law's arguments. -/
import Derived.Test.YtmppfkgfnnebeaaGreatDoorVmK
namespace Go.Vm
set_option linter.all false
open Go.ChangeShapes Go.RowKit
section
variable {H:Type} {enc:TypeId×Value→H} {P:Program}
def C3(P:Program)(t:TypeId)(vs:List V):V :=
 match P.underlying t with
 |some (.struct _)=>.agg vs
 |_=>vs.headD .undef
theorem Yb{W:World}{vs:List V}{cs:List Value}(h:xm W vs cs)(i:Nat)(v:V)(y:Value)(hv:vs[i]?=some v)(hy:cs[i]?=some y):bb ⟨W.heap,Ii W.heap,0,[]⟩ v y:=by
 obtain⟨h1,h2⟩:=h.2 i v y hv hy;refine .plain h1 (fun f n es e=>?_);subst e;cases h2
theorem aks{W:World}{d:Nat}{t:TypeId}{v:Value}{x:DataW H}{ps:List MemPlace}{base:Nat}(hp:vP P d t=true)(pX:Value.okWide P W .any base t v)(h:DataW.Trod enc P W 0 (fun _=>true) true t v x ps) :
  ∃vs,bb ⟨W.heap,Ii W.heap,0,[]⟩ (C3 P t vs) v∧rh P d t vs x:=by
 obtain⟨fuel,hf⟩:=h;obtain⟨vs,hb,hq⟩:=Qr d fuel t _ _ hp hf;refine⟨vs,?_,hq⟩;unfold C3;split
 ·rename_i fs ht
  obtain⟨cs,rfl,_⟩:∃cs,v=.agg cs∧True:=by
   simp only[Value.okWide,ht]at pX;obtain⟨cs,h,_⟩:=pX;exact⟨cs,h,trivial⟩
  refine .agg vs cs (by simpa [Value.cells] using hb.1) (fun i u z hu hz=>?_)
  exact Yb hb i u z hu (by simpa [Value.cells] using hz)
 ·rename_i X6
  have yA:v.cells = #[v]:=by
   cases v with
   |agg cs =>
    exfalso;cases d with
    |zero=>simp[vP]at hp
    |succ d =>
     unfold vP at hp;unfold Value.okWide at pX;split at hp
     ·rename_i ht;simp[ht,Cell.okWide,Cell.ok]at pX
     ·rename_i ht;simp[ht,Cell.okWide,Cell.ok]at pX
     ·rename_i ht;simp[ht,Cell.okWide,Cell.ok]at pX
     ·rename_i ht;simp[ht,Cell.okWide,Cell.ok]at pX
     ·rename_i ht;exact X6 _ ht
     ·cases hp
   |_=>rfl
  rw[yA]at hb
  match vs,hb with
  |[u],hb=>exact Yb hb 0 u v rfl rfl
  |[],hb=>have:=hb.1;simp at this
  |_::_::_,hb=>have:=hb.1;simp at this
def BE(P:Program)(d:Nat):List TypeId→List V→List (DataW H)→Prop
 |[],[],[]=>True
 |t::ts,u::us,x::xs=>(∃vs,u=C3 P t vs∧rh P d t vs x)∧BE P d ts us xs
 |_,_,_=>False
theorem Yc{W:World}{d base:Nat}:∀{ts:List TypeId} {vs:List Value} {ds:List (DataW H)} {ps:List MemPlace},(∀t∈ts,vP P d t=true) →
  (∀(j:Nat) t v,ts[j]?=some t→vs[j]?=some v→Value.okWide P W .any base t v)→DataW.TrodAll enc P W 0 (fun _=>true) true ts vs ds ps →
  ∃us:List V,us.length=vs.length∧(∀(i:Nat) (u:V) (v:Value),us[i]?=some u→vs[i]?=some v→bb ⟨W.heap,Ii W.heap,0,[]⟩ u v)∧BE P d ts us ds
 |[],vs,ds,ps,_,_,h=>by
  obtain⟨rfl,rfl,rfl⟩:=trodAll_nil h;exact⟨[],rfl,by simp,trivial⟩
 |t::ts,vs,ds,ps,hp,pX,h=>by
  obtain⟨v,X9,x,P7,p,q,rfl,rfl,rfl,h1,h2⟩:=trodAll_cons h;obtain⟨as,ha,hq⟩:=aks (hp t (by simp)) (pX 0 t v rfl rfl) h1
  obtain⟨us,hl,hu,hs⟩:=Yc (fun t ht=>hp t (by simp[ht])) (fun j t v ht hv=>pX (j+1) t v (by simpa using ht) (by simpa using hv)) h2
  refine⟨C3 P t as::us,by simp[hl],fun i u v hi hv=>?_,⟨as,rfl,hq⟩,hs⟩
  cases i with
  |zero=>simp at hi hv;subst hi;subst hv;exact ha
  |succ i=>exact hu i u v (by simpa using hi) (by simpa using hv)
theorem oU.none{h:Array Obj}{m:Nat→Nat}:oU [] h m:=fun _ _ hk=>absurd hk (by simp)
theorem akt{C:bD}{T:Pk}(hC:qA P T C){fn:Func}{f:FuncId}{s:ChangeSpec}{apart fresh handsOn again:Bool}{tb:TypeId}{d:Nat}
  (hl:laidOutB P=true) (yk:∀t∈fn.params.toList,vP P d t=true∧P.readableRec t=true∧t<P.types.size) (hr:fn.resultTypes = #[tb]) (LG:P.underlying tb=some .bool) (hv:s.vars=[])
  (hs:∀ds:List (DataW H),ds.length=fn.params.size→(s.fn H (ds++[])).results=[.lit (.bool true)]∧(s.fn H (ds++[])).args=ds∧(s.fn H (ds++[])).vars=[])
  {W:World} {base:Nat} {args:Array Value} {ds gs:List (DataW H)} {before:List MemPlace}
  (law:∀us,BE P d fn.params.toList us ds→∃G',C f us []=some (.bool true,G'))
  (pX:∀(j:Nat) t v,fn.params[j]?=some t→args[j]?=some v→Value.okWide P W .any base t v) (hW:DataW.Whole enc P fn.params.toList s.vars apart W args.toList ds gs before) (hf:jq f=f:=by rfl) (nS:oU T W.heap (xl W.heap):=by exact oU.none) :
  Calls P f args W fun e W'=>∃v,e=.returned v∧s.post enc P fn apart fresh handsOn again W args v W':=by
 have LH:=hW;obtain⟨p,q,hA,hV,rfl,_,_⟩:=hW;obtain⟨us,h1,h2,h3⟩:=Yc (d:=d) (base:=base) (fun t ht=>(yk t ht).1) (fun j t v ht hv=>pX j t v (by simpa using ht) (by simpa using hv)) hA
 obtain⟨G',h4⟩:=law us h3;exact(akr hC hf h4 (by simpa using h1) h2 nS).mono fun e W' ⟨he,hB⟩=>⟨_,he,akq hl (fun t ht=>(yk t ht).2) hr LG LH hB hv (hs ds)⟩
end
end Go.Vm

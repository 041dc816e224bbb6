/- The value machine, 23: readings of plain types. -/
import Derived.Test.YtmppfkgfnnebeaaGreatDoorVmL
import Derived.Test.YtmppfkgfnnebeaaGreatDoorVmM
namespace Go.Vm
set_option linter.all false
open Go.ChangeShapes
theorem akR{H:Type}{P:Program}{d:Nat}{t:TypeId}{k:IntKind}{vs:List V}{x:DataW H}(ht:P.underlying t=some (.int k))(h:rh P d t vs x) :
  ∃n,vs=[.int k n]∧(Lit.int k n).wf=true:=by
 cases d with
 |zero=>exact h.elim
 |succ d =>
  simp only[rh,ht]at h;obtain⟨n,h1,h2,_⟩:=h;exact⟨n,h1,h2⟩
abbrev Yq(k:IntKind)(n:Int):Prop:=(Lit.int k n).wf=true
theorem akS{H:Type}{P:Program}{d:Nat}{t e:TypeId}{α:Type}(row:α→List V)(I:α→Prop){vs:List V}{x:DataW H}(ht:P.underlying t=some (.slice e))
  (he:∀(d:Nat) (vs:List V) (x:DataW H),rh P d e vs x→∃a,vs=row a∧I a) (h:rh P d t vs x):∃l:List α,vs=[.slice none (P.cellsOf e) (l.map row)]∧(∀a∈l,I a)∧l.length≤9223372036854775807:=by
 cases d with
 |zero=>exact h.elim
 |succ d =>
  simp only[rh,ht]at h;obtain⟨es,xs,rfl,_,akT,hlen,hq⟩:=h
  suffices hs:∀(es:List (List V)) (xs:List (DataW H)),es.length=xs.length→(∀(i:Nat) row y,es[i]?=some row→xs[i]?=some y→rh P d e row y)→∃l:List α,es=l.map row∧∀a∈l,I a by
   obtain⟨l,rfl,hl⟩:=hs es xs hlen (fun i r y h1 h2=>(hq i r y h1 h2).2);exact⟨l,rfl,hl,by simpa using akT⟩
  intro es;induction es with
  |nil=>intro xs _ _;exact⟨[],rfl,by simp⟩
  |cons r es ih =>
   intro xs hl hr;cases xs with
   |nil=>simp at hl
   |cons y xs =>
    obtain⟨a,rfl,ha⟩:=he d r y (hr 0 r y rfl rfl);obtain⟨l,rfl,hI⟩:=ih xs (by simpa using hl) (fun i r y h1 h2=>hr (i+1) r y (by simpa using h1) (by simpa using h2))
    exact⟨a::l,rfl,by simpa using ⟨ha,hI⟩⟩
theorem akU{H:Type}{P:Program}{d:Nat}{t e:TypeId}{vs:List V}{x:DataW H}(ht:P.underlying t=some (.slice e))(he:P.underlying e=some (.int .i64))(hc:P.cellsOf e=1)(h:rh P d t vs x) :
  ∃l:List Int,vs=[.slice none 1 (l.map fun n=>[.int .i64 n])]∧(∀n∈l,Yq .i64 n)∧l.length≤9223372036854775807:=by
 have:=akS (fun n:Int=>[V.int .i64 n]) (fun n=>Yq .i64 n) ht (fun d vs x h=>akR he h) h
 rwa [hc]at this
theorem aAO{P:Program}{t:TypeId}{v:V}(h:∀fs,P.underlying t≠some (.struct fs)):C3 P t [v]=v:=by
 unfold C3;split
 ·rename_i fs hf;exact absurd hf (h fs)
 ·rfl
def fieldAt(P:Program)(t:TypeId)(i:Nat):Option (TypeId×Nat×Nat):=match P.underlying t with
 |some (.struct fs)=>(fs[i]?).map fun f=>(f.type,f.offset,P.cellsOf f.type)
 |_=>none
theorem akV{H:Type}{P:Program}{d:Nat}{t:TypeId}{ts:List TypeId}:∀{us:List V} {xs:List (DataW H)},BE P d (t::ts) us xs →
  ∃vs x nP vu,us=C3 P t vs::nP∧xs=x::vu∧rh P d t vs x∧BE P d ts nP vu
 |[],_,h=>h.elim
 |_::_,[],h=>h.elim
 |u::us,x::xs,h=>by
  obtain⟨⟨vs,rfl,h1⟩,h2⟩:=h;exact⟨vs,x,us,xs,rfl,rfl,h1,h2⟩
theorem akW{H:Type}{P:Program}{d:Nat}:∀{us:List V} {xs:List (DataW H)},BE P d [] us xs→us=[]
 |[],_,_=>rfl
 |_::_,[],h=>h.elim
 |_::_,_::_,h=>h.elim
theorem tys{P:Program}{d:Nat}{ts:List TypeId}(h:(ts.all fun t=>vP P d t&&P.readableRec t&&Nat.blt t P.types.size)=true):∀t∈ts,vP P d t=true∧P.readableRec t=true∧t<P.types.size:=fun t ht=>by
 have h1:=g8.1 h t ht;simp only[bS]at h1;exact⟨h1.1.1,h1.1.2,by simpa using h1.2⟩
end Go.Vm

/- The value machine, 23: readings of plain types. -/
import Derived.Test.YtocclbnghhaejaaGreatVmL
import Derived.Test.YtocclbnghhaejaaGreatVmM
namespace Go.Vm
set_option linter.all false
open Go.ChangeShapes
theorem Ff{H:Type}{P:Program}{d:Nat}{t:TypeId}{k:IntKind}{vs:List V}{x:DataW H}(ht:P.underlying t=some (.int k))(h:iC P d t vs x) :
  ∃n,vs=[.int k n]∧(Lit.int k n).wf=true:=by
 cases d with
 |zero=>exact h.elim
 |succ d =>
  simp only[iC,ht]at h;obtain⟨n,h1,h2,_⟩:=h;exact⟨n,h1,h2⟩
theorem Ty{H:Type}{P:Program}{d:Nat}{t:TypeId}{vs:List V}{x:DataW H}(ht:P.underlying t=some .bool)(h:iC P d t vs x):∃b,vs=[.bool b]:=by
 cases d with
 |zero=>exact h.elim
 |succ d =>
  simp only[iC,ht]at h;obtain⟨b,h1,_⟩:=h;exact⟨b,h1⟩
abbrev MF(k:IntKind)(n:Int):Prop:=(Lit.int k n).wf=true
theorem zL{H:Type}{P:Program}{d:Nat}{t e:TypeId}{α:Type}(row:α→List V)(I:α→Prop){vs:List V}{x:DataW H}(ht:P.underlying t=some (.slice e))
  (he:∀(d:Nat) (vs:List V) (x:DataW H),iC P d e vs x→∃a,vs=row a∧I a) (h:iC P d t vs x):∃l:List α,vs=[.slice none (P.cellsOf e) (l.map row)]∧(∀a∈l,I a)∧l.length≤9223372036854775807:=by
 cases d with
 |zero=>exact h.elim
 |succ d =>
  simp only[iC,ht]at h;obtain⟨es,xs,rfl,_,afm,hlen,hq⟩:=h
  suffices hs:∀(es:List (List V)) (xs:List (DataW H)),es.length=xs.length→(∀(i:Nat) row y,es[i]?=some row→xs[i]?=some y→iC P d e row y)→∃l:List α,es=l.map row∧∀a∈l,I a by
   obtain⟨l,rfl,hl⟩:=hs es xs hlen (fun i r y h1 h2=>(hq i r y h1 h2).2);exact⟨l,rfl,hl,by simpa using afm⟩
  intro es;induction es with
  |nil=>intro xs _ _;exact⟨[],rfl,by simp⟩
  |cons r es ih =>
   intro xs hl hr;cases xs with
   |nil=>simp at hl
   |cons y xs =>
    obtain⟨a,rfl,ha⟩:=he d r y (hr 0 r y rfl rfl);obtain⟨l,rfl,hI⟩:=ih xs (by simpa using hl) (fun i r y h1 h2=>hr (i+1) r y (by simpa using h1) (by simpa using h2))
    exact⟨a::l,rfl,by simpa using ⟨ha,hI⟩⟩
theorem Fg{H:Type}{P:Program}{d:Nat}{t e:TypeId}{vs:List V}{x:DataW H}(ht:P.underlying t=some (.slice e))(he:P.underlying e=some (.int .i64))(hc:P.cellsOf e=1)(h:iC P d t vs x) :
  ∃l:List Int,vs=[.slice none 1 (l.map fun n=>[.int .i64 n])]∧(∀n∈l,MF .i64 n)∧l.length≤9223372036854775807:=by
 have:=zL (fun n:Int=>[V.int .i64 n]) (fun n=>MF .i64 n) ht (fun d vs x h=>Ff he h) h
 rwa [hc]at this
theorem aup{P:Program}{t:TypeId}{v:V}(h:∀fs,P.underlying t≠some (.struct fs)):wm P t [v]=v:=by
 unfold wm;split
 ·rename_i fs hf;exact absurd hf (h fs)
 ·rfl
def fieldAt(P:Program)(t:TypeId)(i:Nat):Option (TypeId×Nat×Nat):=match P.underlying t with
 |some (.struct fs)=>(fs[i]?).map fun f=>(f.type,f.offset,P.cellsOf f.type)
 |_=>none
def Ix(P:Program)(t:TypeId)(n:Nat):Bool:=match P.underlying t with
 |some (.struct _)=>P.cellsOf t==n
 |_=>false
theorem sW{H:Type}{P:Program}{d:Nat}{t ty:TypeId}{i off n:Nat}{vs:List V}{x:DataW H}(hf:fieldAt P t i=some (ty,off,n))(h:iC P d t vs x):∃(d':Nat) (y:DataW H),iC P d' ty ((vs.drop off).take n) y:=by
 cases d with
 |zero=>exact h.elim
 |succ d =>
  unfold fieldAt at hf;split at hf
  ·rename_i fs ht
   simp only[iC,ht]at h;obtain⟨xs,rfl,hl,_,hq⟩:=h;cases vk:fs[i]? with
   |none=>simp[vk]at hf
   |some f =>
    simp only[vk,Option.map_some,Option.some.injEq,Prod.mk.injEq]at hf;obtain⟨rfl,rfl,rfl⟩:=hf;have bA:i<xs.length:=by rw[hl];exact(Array.getElem?_eq_some_iff.1 vk).1
    exact⟨d,xs[i],hq i f _ vk (List.getElem?_eq_getElem bA)⟩
  ·cases hf
theorem ajU{H:Type}{P:Program}{d:Nat}{t:TypeId}{n:Nat}{vs:List V}{x:DataW H}(hs:Ix P t n=true)(h:iC P d t vs x):vs.length=n:=by
 cases d with
 |zero=>exact h.elim
 |succ d =>
  unfold Ix at hs;split at hs
  ·rename_i fs ht
   simp only[iC,ht]at h;obtain⟨xs,rfl,_,hl,_⟩:=h;rw[hl];exact eq_of_beq hs
  ·cases hs
theorem MG{P:Program}{t:TypeId}{vs:List V}{n:Nat}(hs:Ix P t n=true):wm P t vs=.agg vs:=by
 unfold Ix at hs;unfold wm;split at hs
 ·rename_i fs ht;simp[ht]
 ·cases hs
theorem kd{H:Type}{P:Program}{d:Nat}{t ty:TypeId}{i off:Nat}{k:IntKind}{vs:List V}{x:DataW H}(hf:fieldAt P t i=some (ty,off,1))(hk:P.underlying ty=some (.int k))(h:iC P d t vs x):∃n,(vs.drop off).take 1=[.int k n]∧MF k n:=by
 obtain⟨d',y,h'⟩:=sW hf h;exact Ff hk h'
theorem Iz{H:Type}{P:Program}{d:Nat}{t:TypeId}{ts:List TypeId}:∀{us:List V} {xs:List (DataW H)},tX P d (t::ts) us xs →
  ∃vs x kH o0,us=wm P t vs::kH∧xs=x::o0∧iC P d t vs x∧tX P d ts kH o0
 |[],_,h=>h.elim
 |_::_,[],h=>h.elim
 |u::us,x::xs,h=>by
  obtain⟨⟨vs,rfl,h1⟩,h2⟩:=h;exact⟨vs,x,us,xs,rfl,rfl,h1,h2⟩
theorem MH{H:Type}{P:Program}{d:Nat}:∀{us:List V} {xs:List (DataW H)},tX P d [] us xs→us=[]
 |[],_,_=>rfl
 |_::_,[],h=>h.elim
 |_::_,_::_,h=>h.elim
theorem MI{P:Program}{d:Nat}{ts:List TypeId}(h:(ts.all fun t=>sR P d t&&P.readableRec t&&Nat.blt t P.types.size)=true):∀t∈ts,sR P d t=true∧P.readableRec t=true∧t<P.types.size:=fun t ht=>by
 have h1:=List.all_eq_true.1 h t ht;simp only[Bool.and_eq_true]at h1;exact⟨h1.1.1,h1.1.2,by simpa using h1.2⟩
def oH{H:Type}(P:Program)(d:Nat)(t:TypeId)(vs:List V)(x:DataW H):Prop:=iC P d t vs x∧∀n∈x.weights P t,n≤reachBytes
theorem Tz{H:Type}{P:Program}{e:TypeId}:∀{xs:List (DataW H)} {y:DataW H} {n:Nat},y∈xs→n∈y.weights P e→n∈DataW.weightsAll P e xs
 |x::xs,y,n,hy,hn=>by
  simp only[DataW.weightsAll,List.mem_append];rcases List.mem_cons.1 hy with rfl|hy
  ·exact .inl hn
  ·exact .inr (Tz hy hn)
theorem TA{H:Type}{P:Program}:∀{ts:List TypeId} {xs:List (DataW H)} {i:Nat} {t:TypeId} {y:DataW H} {n:Nat},ts[i]?=some t→xs[i]?=some y→n∈y.weights P t→n∈DataW.weightsEach P ts xs
 |[],_,_,_,_,_,h,_,_=>by simp at h
 |_::_,[],_,_,_,_,_,h,_=>by simp at h
 |t::ts,x::xs,0,_,_,_,h,h',hn=>by
  simp at h h';subst h;subst h';simp only[DataW.weightsEach,List.mem_append];exact .inl hn
 |t::ts,x::xs,i+1,_,_,_,h,h',hn=>by
  simp only[DataW.weightsEach,List.mem_append];exact .inr (TA (by simpa using h) (by simpa using h') hn)
theorem TB{H:Type}{P:Program}:∀{ts us:List TypeId} {xs ys:List (DataW H)} {n:Nat},ts.length=xs.length→n∈DataW.weightsEach P ts xs→n∈DataW.weightsEach P (ts++us) (xs++ys)
 |[],_,[],_,_,_,h=>by simp[DataW.weightsEach]at h
 |[],_,_::_,_,_,h,_=>by simp at h
 |_::_,_,[],_,_,h,_=>by simp at h
 |t::ts,us,x::xs,ys,n,hl,h=>by
  simp only[DataW.weightsEach,List.mem_append,List.cons_append]at h ⊢;rcases h with h|h
  ·exact .inl h
  ·exact .inr (TB (by simpa using hl) h)
theorem A5{H:Type}{P:Program}{d:Nat}{t e:TypeId}{α:Type}(row:α→List V)(I:α→Prop){vs:List V}{x:DataW H}(ht:P.underlying t=some (.slice e))
  (he:∀(d:Nat) (vs:List V) (x:DataW H),oH P d e vs x→∃a,vs=row a∧I a) (h:oH P d t vs x):∃l:List α,vs=[.slice none (P.cellsOf e) (l.map row)]∧(∀a∈l,I a)∧l.length*P.bytesOf e≤reachBytes:=by
 obtain⟨h,hw⟩:=h;cases d with
 |zero=>exact h.elim
 |succ d =>
  simp only[iC,ht]at h;obtain⟨es,xs,rfl,hx,_,hlen,hq⟩:=h;have hq':∀(i:Nat) (r:List V) (y:DataW H),es[i]?=some r→xs[i]?=some y→oH P d e r y:=fun i r y h1 h2=>by
   refine⟨(hq i r y h1 h2).2,fun n hn=>?_⟩;rcases hx with⟨sp,rfl⟩ | ⟨rfl,rfl⟩
   ·refine hw n ?_
    simp only[DataW.weights,ht,List.mem_cons,List.mem_append];exact .inr (.inl (Tz (List.mem_of_getElem? h2) hn))
   ·simp at h2
  have hb:es.length*P.bytesOf e≤reachBytes:=by
   rcases hx with⟨sp,rfl⟩ | ⟨rfl,rfl⟩
   ·have:=hw ((xs.length+sp.length)*P.bytesOf e) (by simp[DataW.weights,ht])
    rw[hlen];exact Nat.le_trans (Nat.mul_le_mul_right _ (Nat.le_add_right _ _)) this
   ·rw[hlen];simp
  suffices hs:∀(es:List (List V)) (xs:List (DataW H)),es.length=xs.length→(∀(i:Nat) row y,es[i]?=some row→xs[i]?=some y→oH P d e row y)→∃l:List α,es=l.map row∧∀a∈l,I a by
   obtain⟨l,rfl,hl⟩:=hs es xs hlen hq';exact⟨l,rfl,hl,by simpa using hb⟩
  intro es;induction es with
  |nil=>intro xs _ _;exact⟨[],rfl,by simp⟩
  |cons r es ih =>
   intro xs hl hr;cases xs with
   |nil=>simp at hl
   |cons y xs =>
    obtain⟨a,rfl,ha⟩:=he d r y (hr 0 r y rfl rfl);obtain⟨l,rfl,Iu⟩:=ih xs (by simpa using hl) fun i r y h1 h2=>hr (i+1) r y (by simpa using h1) (by simpa using h2)
    exact⟨a::l,rfl,fun b hb=>by rcases List.mem_cons.1 hb with rfl|hb;exact ha;exact Iu b hb⟩
theorem vl{H:Type}{P:Program}{d:Nat}{t ty:TypeId}{i off n:Nat}{vs:List V}{x:DataW H}(hf:fieldAt P t i=some (ty,off,n))(h:oH P d t vs x):∃(d':Nat) (y:DataW H),oH P d' ty ((vs.drop off).take n) y:=by
 obtain⟨h,hw⟩:=h;cases d with
 |zero=>exact h.elim
 |succ d =>
  unfold fieldAt at hf;split at hf
  ·rename_i fs ht
   simp only[iC,ht]at h;obtain⟨xs,rfl,hl,_,hq⟩:=h;cases vk:fs[i]? with
   |none=>simp[vk]at hf
   |some f =>
    simp only[vk,Option.map_some,Option.some.injEq,Prod.mk.injEq]at hf;obtain⟨rfl,rfl,rfl⟩:=hf;have bA:i<xs.length:=by rw[hl];exact(Array.getElem?_eq_some_iff.1 vk).1
    refine⟨d,xs[i],hq i f xs[i] vk (by simp[bA]),fun m hm=>hw m ?_⟩
    simp only[DataW.weights,ht];exact TA (i:=i) (t:=f.type) (y:=xs[i]) (by simp[vk]) (by simp[bA]) hm
  ·cases hf
def C6{H:Type}(P:Program)(d:Nat)(ts:List TypeId)(us:List V)(xs:List (DataW H)):Prop:=tX P d ts us xs∧∀n∈DataW.weightsEach P ts xs,n≤reachBytes
theorem Fh{H:Type}{P:Program}{d:Nat}{t:TypeId}{ts:List TypeId}{us:List V}{xs:List (DataW H)}(h:C6 P d (t::ts) us xs) :
  ∃vs x kH o0,us=wm P t vs::kH∧xs=x::o0∧oH P d t vs x∧C6 P d ts kH o0:=by
 obtain⟨vs,x,kH,o0,rfl,rfl,h1,h2⟩:=Iz h.1;exact⟨vs,x,kH,o0,rfl,rfl,⟨h1,fun n hn=>h.2 n (by simp only[DataW.weightsEach,List.mem_append];exact .inl hn)⟩,h2,fun n hn=>h.2 n (by simp only[DataW.weightsEach,List.mem_append];exact .inr hn)⟩
theorem afo{H:Type}{P:Program}{d:Nat}{us:List V}{xs:List (DataW H)}(h:C6 P d [] us xs):us=[]:=MH h.1
theorem TC{H:Type}{P:Program}{d:Nat}:∀{ts:List TypeId} {us:List V} {xs:List (DataW H)},tX P d ts us xs→ts.length=xs.length
 |[],[],[],_=>rfl
 |_::_,_::_,_::_,h=>congrArg (· + 1) (TC h.2)
theorem afp{H:Type}{enc:TypeId×Value→H}{P:Program}{C:bw}(hC:oD P C){fn:Func}{f:FuncId}{s:ChangeSpec}{apart fresh handsOn again:Bool}{tb:TypeId}{d:Nat}
  (hl:laidOutB P=true) (qq:∀t∈fn.params.toList,sR P d t=true∧P.readableRec t=true∧t<P.types.size) (hr:fn.resultTypes = #[tb]) (C1:P.underlying tb=some .bool) (hv:s.vars=[])
  (hs:∀ds:List (DataW H),ds.length=fn.params.size→(s.fn H (ds++[])).results=[.lit (.bool true)]∧(s.fn H (ds++[])).args=ds∧(s.fn H (ds++[])).vars=[])
  {W:World} {base:Nat} {args:Array Value} {ds gs:List (DataW H)} {before:List MemPlace} {us:List TypeId}
  (law:∀us,C6 P d fn.params.toList us ds→∃G',C f us []=some (.bool true,G'))
  (lO:∀(j:Nat) t v,fn.params[j]?=some t→args[j]?=some v→Value.okWide P W .any base t v) (hW:DataW.Whole enc P fn.params.toList s.vars apart W args.toList ds gs before)
  (hq:(DataW.weightsEach P (fn.params.toList++us) (ds++gs)).all (· ≤ reachBytes)=true) :
  Calls P f args W fun e W'=>∃v,e=.returned v∧s.post enc P fn apart fresh handsOn again W args v W' :=
 Mq hC hl qq hr C1 hv hs (fun vs h=>law vs ⟨h,fun n hn=>by
  have:=List.all_eq_true.1 hq n (TB (TC h) hn);simpa using this⟩) lO hW
end Go.Vm

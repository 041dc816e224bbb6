/- The value machine, 20: closing a law. -/
import Derived.Test.YtcelmhaoipbdiaaGreatDoorVmJ
namespace Go.Vm
set_option linter.all false
open Go.ChangeShapes Go.RowKit
section
variable {H:Type} {enc:TypeId×Value→H} {P:Program}
theorem U9(hl:laidOutB P=true){W W':World}(hB:Below W.heap.size W W'){sp:Nat→Bool}:∀{ts:List TypeId} {vs:List Value} {ds:List (DataW H)} {ps:List MemPlace},
  (∀t∈ts,P.readableRec t=true∧t<P.types.size)→DataW.TrodAll enc P W 0 (fun _=>true) true ts vs ds ps→(∀p∈ps,p.block<W.heap.size)→(∀p∈ps,sp p.block=true) →
  DataW.TrodAll enc P W' 0 sp true ts vs ds ps
 |[],vs,ds,ps,_,h,_,_=>by
  obtain⟨rfl,rfl,rfl⟩:=trodAll_nil h;exact h
 |t::ts,vs,ds,ps,ht,h,bB,hs=>by
  obtain⟨v,Va,d,NQ,p,q,rfl,rfl,rfl,h1,h2⟩:=trodAll_cons h;obtain⟨r1,r2⟩:=ht t (by simp)
  exact⟨p,q,WideElems.Trod_stays hl r1 r2 h1 (fun x hx=>hB.same (bB x (by simp[hx]))) (fun x hx=>hs x (by simp[hx])),
   U9 hl hB (fun t h=>ht t (by simp[h])) h2 (fun x hx=>bB x (by simp[hx])) (fun x hx=>hs x (by simp[hx])),rfl⟩
theorem af4{f:Func}{s:ChangeSpec}{apart fresh handsOn again:Bool}{W W':World}{args:Array Value}{ds gs:List (DataW H)}{before:List MemPlace}{tb:TypeId}
  (hl:laidOutB P=true) (wJ:∀t∈f.params.toList,P.readableRec t=true∧t<P.types.size) (hr:f.resultTypes = #[tb]) (JN:P.underlying tb=some .bool)
  (hW:DataW.Whole enc P f.params.toList s.vars apart W args.toList ds gs before) (hB:Below W.heap.size W W') (hv:s.vars=[])
  (hs:ds.length=f.params.size→(s.fn H (ds++[])).results=[.lit (.bool true)]∧(s.fn H (ds++[])).args=ds∧(s.fn H (ds++[])).vars=[]) :
  s.post enc P f apart fresh handsOn again W args (.bool true) W':=by
 have bB:∀p∈before,p.block<W.heap.size:=fun p hp=>hW.lt p hp;have JO:=hW;obtain⟨p,q,hA,hV,rfl,hz,hn⟩:=hW;rw[hv]at hV;obtain⟨rfl,rfl⟩:=trodVars_none hV;simp only[EO]at bB hz hn JO;have Gm:ds.length=f.params.size:=by
  have:∀{ts:List TypeId} {vs:List Value} {ds:List (DataW H)} {ps:List MemPlace},DataW.TrodAll enc P W 0 (fun _=>true) true ts vs ds ps→ds.length=ts.length:=by
   intro ts;induction ts with
   |nil=>intro vs ds ps h;obtain⟨_,rfl,_⟩:=trodAll_nil h;rfl
   |cons t ts ih=>intro vs ds ps h;obtain⟨v,Va,d,NQ,p,q,rfl,rfl,rfl,h1,h2⟩:=trodAll_cons h;simp[ih h2]
  simpa using this hA
 obtain⟨s1,s2,s3⟩:=hs Gm;have Bz:∀(b:Nat) (sp:Nat→Bool) (hd:Bool),DataW.TrodAll enc P W' b sp hd f.resultTypes.toList ((Value.bool true).resultList f.resultTypes.size) (s.fn H (ds++[])).results []:=fun b sp hd=>by
  rw[s1,hr];exact trodAll_mk1 (shut_bool JN true)
 have wU:∀sp:Nat→Bool,(∀x∈p,sp x.block=true)→DataW.TrodAll enc P W' 0 sp true f.params.toList args.toList (s.fn H (ds++[])).args p:=fun sp h=>by
  rw[s2];exact U9 hl hB wJ hA bB h
 have Vb:∀sp:Nat→Bool,DataW.TrodVars enc P W' sp s.vars (s.fn H (ds++[])).vars []:=fun sp=>by
  rw[hv,s3];exact rfl
 have hold:∀x∈p,(fun b=>decide (b<W.heap.size)) x.block=true:=fun x hx=>by simpa using bB x hx
 refine⟨ds,[],p,[],p,[],JO,Bz _ _ _,wU _ hold,Vb _,World.keptBut_mono (fun x hx=>⟨hx,?_⟩) (hB.frame (· ∈ p)),fun _=>?_⟩
 ·exact Or.inr (Or.inl hx)
 ·refine⟨ok_one hr rfl (by simp[Value.okWide,JN,Cell.okWide,Cell.ok]),_,_,([]++p)++[],⟨[]++p,[],trodAll_append (wU _ (fun _ _=>rfl)) (Bz _ _ _),Vb _,rfl,?_,?_⟩,?_⟩
  ·intro b off hp
   have xI:MemPlace.cell b off∈p:=by simpa using hp
   rw[hB.frozen (bB _ xI)];exact hz b off xI
  ·intro ha
   simpa using hn ha
  ·intro x hx _
   simpa using hx
def Gn(h:Array Obj):Gh:=⟨vP h,fun _=>0,fun _=>0,fun _=>none,fun _=>0,fun _=>.none⟩
theorem af5{C:br}{T:Pk}(hC:pN P T C){f:FuncId}{W:World}{args:Array Value}{vs:List V}{G':List aT}(hf:jb f=f)(h:C f vs []=some (.bool true,G'))(hlen:vs.length=args.size)
  (DB:∀(i:Nat) (v:V) (x:Value),vs[i]?=some v→args.toList[i]?=some x→aZ ⟨W.heap,Gn W.heap,0,[]⟩ v x) (m9:nW T W.heap (vP W.heap)) :
  Calls P f args W fun e W'=>e=.returned (.bool true)∧Below W.heap.size W W':=by
 have h1:=(hC f vs [] _ _ h).run W (Gn W.heap) args.toList m9 ⟨fun i o ho=>by simp at ho,fun i o ho=>by simp at ho,fun b i h=>by cases h⟩ (by simpa using hlen) DB
 simp only[Array.toArray_toList,hf]at h1;refine h1.mono fun e W' ⟨x,g',he,hx,_,ys,hp,_,hr⟩=>?_;subst he;simp only[FI]at hp;subst hp;have h2:=(hr 0 (.bool true) x rfl rfl).1;have h3:x=.bool true:=zL h2;subst h3;exact⟨rfl,hx.os,hx.tape,hx.output,hx.size,fun k hk=>(hx.kI k hk (fun i hi=>by simp at hi) (fun⟨p,q,h⟩=>by cases h)).1⟩
end
end Go.Vm

/- The value machine, 20: closing a law. -/
import Derived.Test.YtcelmhaoipbdiaaGreatVmJ
namespace Go.Vm
set_option linter.all false
open Go.ChangeShapes Go.RowKit
section
variable {H:Type} {enc:TypeId×Value→H} {P:Program}
theorem YT(hl:laidOutB P=true){W W':World}(hB:Below W.heap.size W W'){sp:Nat→Bool}:∀{ts:List TypeId} {vs:List Value} {ds:List (DataW H)} {ps:List MemPlace},
  (∀t∈ts,P.readableRec t=true∧t<P.types.size)→DataW.TrodAll enc P W 0 (fun _=>true) true ts vs ds ps→(∀p∈ps,p.block<W.heap.size)→(∀p∈ps,sp p.block=true) →
  DataW.TrodAll enc P W' 0 sp true ts vs ds ps
 |[],vs,ds,ps,_,h,_,_=>by
  obtain⟨rfl,rfl,rfl⟩:=trodAll_nil h;exact h
 |t::ts,vs,ds,ps,ht,h,bI,hs=>by
  obtain⟨v,YU,d,QU,p,q,rfl,rfl,rfl,h1,h2⟩:=trodAll_cons h;obtain⟨r1,r2⟩:=ht t (by simp)
  exact⟨p,q,WideElems.Trod_stays hl r1 r2 h1 (fun x hx=>hB.same (bI x (by simp[hx]))) (fun x hx=>hs x (by simp[hx])),
   YT hl hB (fun t h=>ht t (by simp[h])) h2 (fun x hx=>bI x (by simp[hx])) (fun x hx=>hs x (by simp[hx])),rfl⟩
theorem alc{f:Func}{s:ChangeSpec}{apart fresh handsOn again:Bool}{W W':World}{args:Array Value}{ds gs:List (DataW H)}{before:List MemPlace}{tb:TypeId}
  (hl:laidOutB P=true) (vJ:∀t∈f.params.toList,P.readableRec t=true∧t<P.types.size) (hr:f.resultTypes = #[tb]) (FG:P.underlying tb=some .bool)
  (hW:DataW.Whole enc P f.params.toList s.vars apart W args.toList ds gs before) (hB:Below W.heap.size W W') (hv:s.vars=[])
  (hs:ds.length=f.params.size→(s.fn H (ds++[])).results=[.lit (.bool true)]∧(s.fn H (ds++[])).args=ds∧(s.fn H (ds++[])).vars=[]) :
  s.post enc P f apart fresh handsOn again W args (.bool true) W':=by
 have bI:∀p∈before,p.block<W.heap.size:=fun p hp=>hW.lt p hp;have L9:=hW;obtain⟨p,q,hA,hV,rfl,hz,hn⟩:=hW;rw[hv]at hV;obtain⟨rfl,rfl⟩:=trodVars_none hV;simp only[Hh]at bI hz hn L9;have DC:ds.length=f.params.size:=by
  have:∀{ts:List TypeId} {vs:List Value} {ds:List (DataW H)} {ps:List MemPlace},DataW.TrodAll enc P W 0 (fun _=>true) true ts vs ds ps→ds.length=ts.length:=by
   intro ts;induction ts with
   |nil=>intro vs ds ps h;obtain⟨_,rfl,_⟩:=trodAll_nil h;rfl
   |cons t ts ih=>intro vs ds ps h;obtain⟨v,YU,d,QU,p,q,rfl,rfl,rfl,h1,h2⟩:=trodAll_cons h;simp[ih h2]
  simpa using this hA
 obtain⟨s1,s2,s3⟩:=hs DC;have Dy:∀(b:Nat) (sp:Nat→Bool) (hd:Bool),DataW.TrodAll enc P W' b sp hd f.resultTypes.toList ((Value.bool true).resultList f.resultTypes.size) (s.fn H (ds++[])).results []:=fun b sp hd=>by
  rw[s1,hr];exact trodAll_mk1 (shut_bool FG true)
 have yD:∀sp:Nat→Bool,(∀x∈p,sp x.block=true)→DataW.TrodAll enc P W' 0 sp true f.params.toList args.toList (s.fn H (ds++[])).args p:=fun sp h=>by
  rw[s2];exact YT hl hB vJ hA bI h
 have YV:∀sp:Nat→Bool,DataW.TrodVars enc P W' sp s.vars (s.fn H (ds++[])).vars []:=fun sp=>by
  rw[hv,s3];exact rfl
 have hold:∀x∈p,(fun b=>decide (b<W.heap.size)) x.block=true:=fun x hx=>by simpa using bI x hx
 refine⟨ds,[],p,[],p,[],L9,Dy _ _ _,yD _ hold,YV _,World.keptBut_mono (fun x hx=>⟨hx,?_⟩) (hB.frame (· ∈ p)),fun _=>?_⟩
 ·exact Or.inr (Or.inl hx)
 ·refine⟨ok_one hr rfl (by simp[Value.okWide,FG,Cell.okWide,Cell.ok]),_,_,([]++p)++[],⟨[]++p,[],trodAll_append (yD _ (fun _ _=>rfl)) (Dy _ _ _),YV _,rfl,?_,?_⟩,?_⟩
  ·intro b off hp
   have zY:MemPlace.cell b off∈p:=by simpa using hp
   rw[hB.frozen (bI _ zY)];exact hz b off zY
  ·intro ha
   simpa using hn ha
  ·intro x hx _
   simpa using hx
def IA(h:Array Obj):Gh:=⟨Ap h,fun _=>0,fun _=>0,fun _=>none,fun _=>0,fun _=>.none⟩
theorem ald{C:bD}{T:Pk}(hC:qm P T C){f:FuncId}{W:World}{args:Array Value}{vs:List V}{G':List aP}(hf:jA f=f)(h:C f vs []=some (.bool true,G'))(hlen:vs.length=args.size)
  (FH:∀(i:Nat) (v:V) (x:Value),vs[i]?=some v→args.toList[i]?=some x→bf ⟨W.heap,IA W.heap,0,[]⟩ v x) (nk:oN T W.heap (Ap W.heap)) :
  Calls P f args W fun e W'=>e=.returned (.bool true)∧Below W.heap.size W W':=by
 have h1:=(hC f vs [] _ _ h).run W (IA W.heap) args.toList nk ⟨fun i o ho=>by simp at ho,fun i o ho=>by simp at ho,fun b i h=>by cases h⟩ (by simpa using hlen) FH
 simp only[Array.toArray_toList,hf]at h1;refine h1.mono fun e W' ⟨x,g',he,hx,_,ys,hp,_,hr⟩=>?_;subst he;simp only[HZ]at hp;subst hp;have h2:=(hr 0 (.bool true) x rfl rfl).1;have h3:x=.bool true:=Bt h2;subst h3;exact⟨rfl,hx.os,hx.tape,hx.output,hx.size,fun k hk=>(hx.l7 k hk (fun i hi=>by simp at hi) (fun⟨p,q,h⟩=>by cases h)).1⟩
end
end Go.Vm

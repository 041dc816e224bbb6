/- The value machine, 20: closing a law. -/
import Derived.Test.YtmppfkgfnnebeaaGreatDoorVmJ
namespace Go.Vm
set_option linter.all false
open Go.ChangeShapes Go.RowKit
section
variable {H:Type} {enc:TypeId×Value→H} {P:Program}
theorem X8(hl:laidOutB P=true){W W':World}(hB:Below W.heap.size W W'){sp:Nat→Bool}:∀{ts:List TypeId} {vs:List Value} {ds:List (DataW H)} {ps:List MemPlace},
  (∀t∈ts,P.readableRec t=true∧t<P.types.size)→DataW.TrodAll enc P W 0 (fun _=>true) true ts vs ds ps→(∀p∈ps,p.block<W.heap.size)→(∀p∈ps,sp p.block=true) →
  DataW.TrodAll enc P W' 0 sp true ts vs ds ps
 |[],vs,ds,ps,_,h,_,_=>by
  obtain⟨rfl,rfl,rfl⟩:=trodAll_nil h;exact h
 |t::ts,vs,ds,ps,ht,h,bE,hs=>by
  obtain⟨v,X9,d,P7,p,q,rfl,rfl,rfl,h1,h2⟩:=trodAll_cons h;obtain⟨r1,r2⟩:=ht t (by simp)
  exact⟨p,q,WideElems.Trod_stays hl r1 r2 h1 (fun x hx=>hB.same (bE x (by simp[hx]))) (fun x hx=>hs x (by simp[hx])),
   X8 hl hB (fun t h=>ht t (by simp[h])) h2 (fun x hx=>bE x (by simp[hx])) (fun x hx=>hs x (by simp[hx])),rfl⟩
theorem akq{f:Func}{s:ChangeSpec}{apart fresh handsOn again:Bool}{W W':World}{args:Array Value}{ds gs:List (DataW H)}{before:List MemPlace}{tb:TypeId}
  (hl:laidOutB P=true) (yk:∀t∈f.params.toList,P.readableRec t=true∧t<P.types.size) (hr:f.resultTypes = #[tb]) (LG:P.underlying tb=some .bool)
  (hW:DataW.Whole enc P f.params.toList s.vars apart W args.toList ds gs before) (hB:Below W.heap.size W W') (hv:s.vars=[])
  (hs:ds.length=f.params.size→(s.fn H (ds++[])).results=[.lit (.bool true)]∧(s.fn H (ds++[])).args=ds∧(s.fn H (ds++[])).vars=[]) :
  s.post enc P f apart fresh handsOn again W args (.bool true) W':=by
 have bE:∀p∈before,p.block<W.heap.size:=fun p hp=>hW.lt p hp;have LH:=hW;obtain⟨p,q,hA,hV,rfl,hz,hn⟩:=hW;rw[hv]at hV;obtain⟨rfl,rfl⟩:=trodVars_none hV;simp only[Eb]at bE hz hn LH;have LI:ds.length=f.params.size:=by
  have:∀{ts:List TypeId} {vs:List Value} {ds:List (DataW H)} {ps:List MemPlace},DataW.TrodAll enc P W 0 (fun _=>true) true ts vs ds ps→ds.length=ts.length:=by
   intro ts;induction ts with
   |nil=>intro vs ds ps h;obtain⟨_,rfl,_⟩:=trodAll_nil h;rfl
   |cons t ts ih=>intro vs ds ps h;obtain⟨v,X9,d,P7,p,q,rfl,rfl,rfl,h1,h2⟩:=trodAll_cons h;simp[ih h2]
  simpa using this hA
 obtain⟨s1,s2,s3⟩:=hs LI;have C0:∀(b:Nat) (sp:Nat→Bool) (hd:Bool),DataW.TrodAll enc P W' b sp hd f.resultTypes.toList ((Value.bool true).resultList f.resultTypes.size) (s.fn H (ds++[])).results []:=fun b sp hd=>by
  rw[s1,hr];exact trodAll_mk1 (shut_bool LG true)
 have yE:∀sp:Nat→Bool,(∀x∈p,sp x.block=true)→DataW.TrodAll enc P W' 0 sp true f.params.toList args.toList (s.fn H (ds++[])).args p:=fun sp h=>by
  rw[s2];exact X8 hl hB yk hA bE h
 have Ya:∀sp:Nat→Bool,DataW.TrodVars enc P W' sp s.vars (s.fn H (ds++[])).vars []:=fun sp=>by
  rw[hv,s3];exact rfl
 have hold:∀x∈p,(fun b=>decide (b<W.heap.size)) x.block=true:=fun x hx=>by simpa using bE x hx
 refine⟨ds,[],p,[],p,[],LH,C0 _ _ _,yE _ hold,Ya _,World.keptBut_mono (fun x hx=>⟨hx,?_⟩) (hB.frame (· ∈ p)),fun _=>?_⟩
 ·exact Or.inr (Or.inl hx)
 ·refine⟨ok_one hr rfl (by simp[Value.okWide,LG,Cell.okWide,Cell.ok]),_,_,([]++p)++[],⟨[]++p,[],trodAll_append (yE _ (fun _ _=>rfl)) (C0 _ _ _),Ya _,rfl,?_,?_⟩,?_⟩
  ·intro b off hp
   have zI:MemPlace.cell b off∈p:=by simpa using hp
   rw[hB.frozen (bE _ zI)];exact hz b off zI
  ·intro ha
   simpa using hn ha
  ·intro x hx _
   simpa using hx
def Ii(h:Array Obj):Gh:=⟨xl h,fun _=>0,fun _=>0,fun _=>none,fun _=>0,fun _=>.none⟩
theorem akr{C:bD}{T:Pk}(hC:qA P T C){f:FuncId}{W:World}{args:Array Value}{vs:List V}{G':List aS}(hf:jq f=f)(h:C f vs []=some (.bool true,G'))(hlen:vs.length=args.size)
  (Fb:∀(i:Nat) (v:V) (x:Value),vs[i]?=some v→args.toList[i]?=some x→bb ⟨W.heap,Ii W.heap,0,[]⟩ v x) (nS:oU T W.heap (xl W.heap)) :
  Calls P f args W fun e W'=>e=.returned (.bool true)∧Below W.heap.size W W':=by
 have h1:=(hC f vs [] _ _ h).run W (Ii W.heap) args.toList nS ⟨fun i o ho=>by simp at ho,fun i o ho=>by simp at ho,fun b i h=>by cases h⟩ (by simpa using hlen) Fb
 simp only[Array.toArray_toList,hf]at h1;refine h1.mono fun e W' ⟨x,g',he,hx,_,ys,hp,_,hr⟩=>?_;subst he;simp only[HH]at hp;subst hp;have h2:=(hr 0 (.bool true) x rfl rfl).1;have h3:x=.bool true:=A9 h2;subst h3;exact⟨rfl,hx.os,hx.tape,hx.output,hx.size,fun k hk=>(hx.kA k hk (fun i hi=>by simp at hi) (fun⟨p,q,h⟩=>by cases h)).1⟩
end
end Go.Vm

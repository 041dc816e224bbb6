/- - -/
import Derived.Test.YtabckmbjnjnegaaGreatDoorVmJ
namespace Go.Vm
set_option linter.all false
open Go.ChangeShapes Go.RowKit
section
variable {H:Type} {enc:TypeId×Value->H} {P:Program}
def abA(hl:laidOutB P=true){W W':World}(hB:Below W.heap.size W W'){sp:Nat->Bool}:∀{ts:List TypeId} {vs:List Value} {ds:List (DataW H)} {ps:List MemPlace},
  (∀t∈ts,P.readableRec t=true/\t<P.types.size)->DataW.TrodAll enc P W 0 (λ_=>true) true ts vs ds ps->(∀p∈ps,p.block<W.heap.size)->(∀p∈ps,sp p.block=true) ->
  DataW.TrodAll enc P W' 0 sp true ts vs ds ps
 |[],vs,ds,ps,_,h,_,_=>by
  obtain⟨rfl,rfl,rfl⟩:=trodAll_nil h;exact h
 |t::ts,vs,ds,ps,ht,h,bJ,hs=>by
  obtain⟨v,vs1,d,Tz,p,q,rfl,rfl,rfl,h1,h2⟩:=trodAll_cons h;obtain⟨r1,r2⟩:=ht t (by simp)
  exact⟨p,q,WideElems.Trod_stays hl r1 r2 h1 (λx hx=>hB.same (bJ x (by simp[hx]))) (λx hx=>hs x (by simp[hx])),
   abA hl hB (λt h=>ht t (by simp[h])) h2 (λx hx=>bJ x (by simp[hx])) (λx hx=>hs x (by simp[hx])),rfl⟩
variable{W:World}{args:Array Value}
def aoV{f:Func}{s:ChangeSpec}{apart fresh handsOn again:Bool}{W':World}{ds gs:List (DataW H)}{before:List MemPlace}{tb:TypeId}
  (hl:laidOutB P=true) (xG:∀t∈f.params.toList,P.readableRec t=true/\t<P.types.size) (hr:f.resultTypes = #[tb]) (Hx:P.underlying tb=some .bool)
  (hW:DataW.Whole enc P f.params.toList s.vars apart W args.toList ds gs before) (hB:Below W.heap.size W W') (hv:s.vars=[])
  (hs:ds.length=f.params.size->(s.fn H (ds++[])).results=[.lit (.bool true)]/\(s.fn H (ds++[])).args=ds/\(s.fn H (ds++[])).vars=[]) :
  s.post enc P f apart fresh handsOn again W args (.bool true) W':=by
 have bJ:∀p∈before,p.block<W.heap.size:=λp hp=>hW.lt p hp;have Ox:=hW;obtain⟨p,q,hA,hV,rfl,hz,hn⟩:=hW;rw[hv]at hV;obtain⟨rfl,rfl⟩:=trodVars_none hV;simp only[vl]at bJ hz hn Ox;have EZ:ds.length=f.params.size:=by
  have:∀{ts:List TypeId} {vs:List Value} {ds:List (DataW H)} {ps:List MemPlace},DataW.TrodAll enc P W 0 (λ_=>true) true ts vs ds ps->ds.length=ts.length:=by
   intro ts;induction ts with
   |nil=>intro vs ds ps h;obtain⟨_,rfl,_⟩:=trodAll_nil h;rfl
   |cons t ts ih=>intro vs ds ps h;obtain⟨v,vs1,d,Tz,p,q,rfl,rfl,rfl,h1,h2⟩:=trodAll_cons h;simp[ih h2]
  simpa using this hA
 obtain⟨s1,s2,s3⟩:=hs EZ;have EW:∀(b:Nat) (sp:Nat->Bool) (hd:Bool),DataW.TrodAll enc P W' b sp hd f.resultTypes.toList ((Value.bool true).resultList f.resultTypes.size) (s.fn H (ds++[])).results []:=λb sp hd=>by
  rw[s1,hr];exact trodAll_mk1 (shut_bool Hx true)
 have As:∀sp:Nat->Bool,(∀x∈p,sp x.block=true)->DataW.TrodAll enc P W' 0 sp true f.params.toList args.toList (s.fn H (ds++[])).args p:=λsp h=>by
  rw[s2];exact abA hl hB xG hA bJ h
 have abC:∀sp:Nat->Bool,DataW.TrodVars enc P W' sp s.vars (s.fn H (ds++[])).vars []:=λsp=>by
  rw[hv,s3];exact rfl
 have hold:∀x∈p,(λb=>decide (b<W.heap.size)) x.block=true:=λx hx=>by simpa using bJ x hx
 refine⟨ds,[],p,[],p,[],Ox,EW _ _ _,As _ hold,abC _,World.keptBut_mono (λx hx=>⟨hx,?_⟩) (hB.frame (· ∈ p)),λ_=>?_⟩
 .exact Or.inr (Or.inl hx)
 .refine⟨ok_one hr rfl (by simp[Value.okWide,Hx,Cell.okWide,Cell.ok]),_,_,([]++p)++[],⟨[]++p,[],trodAll_append (As _ (λ_ _=>rfl)) (EW _ _ _),abC _,rfl,?_,?_⟩,?_⟩
  .intro b off hp
   have Bj:MemPlace.cell b off∈p:=by simpa using hp
   rw[hB.frozen (bJ _ Bj)];exact hz b off Bj
  .intro ha
   simpa using hn ha
  .intro x hx _
   simpa using hx
def KB(h:Array Obj):Gh:=⟨xV h,λ_=>0,λ_=>0,λ_=>none,λ_=>0,λ_=>.none⟩
def aoW{C:bI}{T:Pk}(hC:sj P T C){f:FuncId}{vs:List V}{G':List aM}(hf:kb f=f)(h:C f vs []=some (.bool true,G'))(hlen:vs.length=args.size)
  (uI:∀(i:Nat) (v:V) (x:Value),vs[i]?=some v->args.toList[i]?=some x->bh ⟨W.heap,KB W.heap,0,[]⟩ v x) (oD:pF T W.heap (xV W.heap)) :
  Calls P f args W λe W'=>e=.returned (.bool true)/\Below W.heap.size W W':=by
 have h1:=(hC f vs [] _ _ h).run W (KB W.heap) args.toList oD ⟨λi o ho=>by simp at ho,λi o ho=>by simp at ho,λb i h=>by cases h⟩ (by simpa using hlen) uI
 simp only[Array.toArray_toList,hf]at h1;refine h1.mono λe W' ⟨x,g',he,hx,_,ys,hp,_,hr⟩=>?_;subst he;simp only[J2]at hp;subst hp;have h2:=(hr 0 (.bool true) x rfl rfl).1;have h3:x=.bool true:=CX h2;subst h3;exact⟨rfl,hx.os,hx.tape,hx.output,hx.size,λk hk=>(hx.lQ k hk (λi hi=>by simp at hi) (λ⟨p,q,h⟩=>by cases h)).1⟩
end

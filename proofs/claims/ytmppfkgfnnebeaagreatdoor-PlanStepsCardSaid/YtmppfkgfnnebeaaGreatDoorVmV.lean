/- The value machine: states that say less; local objects become blocks that calls share. -/
import Derived.Test.YtmppfkgfnnebeaaGreatDoorVmU
namespace Go.Vm
set_option linter.all false
theorem nk{α:Type}{s d:Nat}:∀{l:List (Nat×α)},look s (l.filter fun p => !(p.1==d))=if s=d then none else look s l
 |[]=>by simp[look]
 |(k,v)::l=>by
  rw[Kj,dz];by_cases hk:k=d
  ·subst hk
   simp only[beq_self_eq_true,Oj,D9,if_false];rw[nk];by_cases hs:s=k
   ·rw[aM hs,aM hs]
   ·rw[ay hs,ay hs,ay (fun e=>hs e.symm)]
  ·have:(k==d)=false:=A0.2 hk
   simp only[this,Oi,if_true];rw[dz,nk];by_cases H5:k=s
   ·subst H5
    rw[aM rfl,aM rfl,ay hk]
   ·rw[ay H5,ay H5]
section
variable {P:Program} {E:Entry} {g g':Gh} {S S':St} {a:Act} {w w':World} {C:bD}
theorem R.sub(hR:R E g S a w)(Hg:∀s v,look s S'.env=some v→look s S.env=some v)(Hh:∀s v,look s S'.aW=some v→look s S.aW=some v)
  (tr:∀s v,look s S'.bj=some v→look s S.bj=some v) (Bc:S'.aA=S.aA):R E g S' a w:=by
 have le:Le (S.cx g w) (S'.cx g w):=⟨bV _,fun _ _ _ _ h=>h,fun _ _=>bV _,by simp[St.cx,Bc],fun _ _=>rfl⟩
 have mJ:∀v x,bb (S.cx g w) v x→bb (S'.cx g w) v x:=fun v x hx =>
  bb.mono le hx fun d=>.inl ⟨rfl,rfl,fun k hk=>⟨k,tr d k hk,bV _,fun _=>⟨rfl,fun _ _=>⟨rfl,fun c _ h=>⟨c,h,rfl⟩⟩⟩⟩⟩
 refine⟨fun s v hs=>?_,fun id cs ho=>?_,fun f k b hf hb=>hR.bj f k b (tr f k hf) hb,Bc ▸ hR.aA,hR.defers,hR.js,Bc ▸ hR.same⟩
 ·obtain⟨x,h1,h2⟩:=hR.env s v (Hg s v hs)
  exact⟨x,h1,mJ v x h2⟩
 ·rcases hR.aW id cs (Hh id cs ho) with h0 | ⟨h1,h2,h3,c,e,h4,fU,h5⟩
  ·exact .inl h0
  refine .inr ⟨h1,h2,h3,c,e,h4,fU,fun j v hj=>?_⟩;obtain⟨h6,y,h7,h8⟩:=h5 j v hj;exact⟨h6,y,h7,mJ v y h8⟩
structure oE(S' S:St):Prop where
 env:∀s v,look s S'.env=some v→look s S.env=some v
 aW:∀s v,look s S'.aW=some v→look s S.aW=some v
 bj:∀s v,look s S'.bj=some v→look s S.bj=some v
 aA:S'.aA=S.aA
theorem oE.refl(S:St):oE S S:=⟨fun _ _ h=>h,fun _ _ h=>h,fun _ _ h=>h,rfl⟩
theorem oE.trans{HU:St}(h:oE HU S')(k:oE S' S):oE HU S:=⟨fun s v e=>k.env s v (h.env s v e),fun s v e=>k.aW s v (h.aW s v e),fun s v e=>k.bj s v (h.bj s v e),h.aA.trans k.aA⟩
theorem oE.rel(h:oE S' S){v:V}{x:Value}(hx:bb (S.cx g w) v x):bb (S'.cx g w) v x :=
 have le:Le (S.cx g w) (S'.cx g w):=⟨bV _,fun _ _ _ _ h=>h,fun _ _=>bV _,by simp[St.cx,h.aA],fun _ _=>rfl⟩
 bb.mono le hx fun d=>.inl ⟨rfl,rfl,fun k hk=>⟨k,h.bj d k hk,bV _,fun _=>⟨rfl,fun _ _=>⟨rfl,fun c _ h=>⟨c,h,rfl⟩⟩⟩⟩⟩
theorem oE.eN{d:Nat}(h:oE S' S)(hn:S.eN d):S'.eN d where
 env:=fun s v e=>hn.env s v (h.env s v e)
 aW:=fun s v e=>hn.aW s v (h.aW s v e)
 obj:=by
  cases hl:look d S'.aW with
  |none=>rfl
  |some cs=>rw[←h.aW d cs hl];exact hn.obj
 tok:=by
  cases hl:look d S'.bj with
  |none=>rfl
  |some k=>rw[←h.bj d k hl];exact hn.tok
theorem R.less(hR:R E g S a w)(h:oE S' S):R E g S' a w:=hR.sub h.env h.aW h.bj h.aA
theorem P4{s:Nat}:oE ({ S with env:=S.env.filter fun p => !(p.1==s) }:St) S:=by
 refine⟨fun k v e=>?_,fun _ _ e=>e,fun _ _ e=>e,rfl⟩;simp only[nk]at e;split at e
 ·cases e
 ·exact e
theorem Lp(hR:R E g S a w){s n:Nat}{v:V}(hs:look s S.env=some v)(hz:∀x,bb (S.cx g w) v x→lL x):∃g',R E g' (S.share s n []) a w:=by
 let g':Gh:={ g with γ:=c6 g.γ S.aA.length w.heap.size }
 have t:Touch E g S w g' S.bj (S.aA.length+1) w w.heap.size none none :=
  {os:=rfl,tape:=rfl,output:=rfl,size:=bV _,heap:=fun _ _ _=>rfl,m:=fun _ _=>rfl,ow:=fun _ _=>rfl,κ:=fun _ _=>rfl,cp:=fun _ _=>rfl,
   τ:=fun _ _=>rfl,T:=fun _ _=>rfl,γ:=fun i hi=>fY _ _ (by omega),eK:=Ku _,
   γnew:=fun i h1 h2=>by
    have:i=S.aA.length:=by omega
    subst this;show _≤c6 g.γ _ _ _;rw[dL];exact hR.same.size
   fresh:=.inl hR.same.size,iq:=fun _ _ h _=>absurd hR.same.size (Ct h),lv:=fun i h=>hR.Er h (Ku _),kb:=fun _ _ _ hy=>hy,qn:=fun h=>absurd h (gU _) }
 obtain⟨x,hx,hr⟩:=hR.env s _ hs;refine⟨g',R.Hf t hR rfl (by simp[St.share]) (fun i=>.inl (t.keeps hR (fun e=>by cases e) (fun e=>by cases e) (fun h=>absurd h (gU _)))) (fun k u hk=>?_) (fun i cs ho=>.inl ⟨ho,(fun e=>by cases e),fun h=>absurd h (gU _)⟩)
  (fun i k b hi hb=>.inl ⟨(fun e=>by cases e),fun h=>absurd h (gU _)⟩) (fun i o ho h0=>?_)⟩
 ·replace hk:look k ((s,.c5 S.aA.length n 0)::S.env)=some u:=hk
  rw[dz]at hk;split at hk
  ·rename_i e;subst e;cases hk;exact .inr ⟨x,hx,.ui _ _ (G4 _) (hz x hr)⟩
  ·exact .inl hk
 ·have ho:(S.aA++[aS.cells []])[i]?=some o:=ho
  rw[oQ]at ho;split at ho
  ·exact .inl ⟨ho,fun h=>absurd h (gU _)⟩
  ·exfalso
   cases hi:i-S.aA.length with
   |zero=>rw[hi]at ho;simp at ho;exact h0 ho.symm
   |succ k=>rw[hi]at ho;simp at ho
theorem R.P5(hR:R E g S a w){id n len cap:Nat}(hn:S.eN id)(cr:g.ow (g.κ id)=.obj id)(fZ:E.w0.heap.size≤g.κ id)(hm:g.m (g.κ id)=0){c:Array Value}{e:TypeId}(hh:w.heap[g.κ id]?=some (.cells c e (0,0)))
  {x:Value} (hx:x=.slice (some ⟨g.κ id,0,none⟩) len cap) (eo:len≤cap) {us:List V} (oX:∀(j:Nat) (v:V),us[j]?=some v→v.plain=true∧∃y,c[j]?=some y∧fg w.heap g.m v y) :
  ∃g',R E g' { S with aA:=S.aA++[aS.cells us] } a w∧bb (({ S with aA:=S.aA++[aS.cells us] }:St).cx g' w) (.c5 S.aA.length n len) x ∧
   g'.m=g.m∧g'.κ=g.κ∧g'.cp=g.cp∧(∀b,b≠g.κ id→g'.ow b=g.ow b)∧∀v y,bb (S.cx g w) v y→bb (({ S with aA:=S.aA++[aS.cells us] }:St).cx g' w) v y:=by
 let g':Gh:={ g with γ:=c6 g.γ S.aA.length (g.κ id),ow:=c6 g.ow (g.κ id) (.aA S.aA.length) }
 have t:Touch E g S w g' S.bj (S.aA.length+1) w (g.κ id) none none :=
  {os:=rfl,tape:=rfl,output:=rfl,size:=bV _,heap:=fun _ _ _=>rfl,m:=fun _ _=>rfl,ow:=fun b hb=>fY _ _ hb,κ:=fun _ _=>rfl,cp:=fun _ _=>rfl,
   τ:=fun _ _=>rfl,T:=fun _ _=>rfl,γ:=fun i hi=>fY _ _ (by omega),eK:=Ku _,
   γnew:=fun i h1 h2=>by
    have:i=S.aA.length:=by omega
    subst this;show _≤c6 g.γ _ _ _;rw[dL];exact fZ
   fresh:=.inl fZ,iq:=fun _ _ h _=>absurd fZ (Ct h),lv:=fun i e=>by
    have e:c6 g.ow (g.κ id) (.aA S.aA.length) (g.κ id)=.aA i:=e;rw[dL]at e;cases e;exact⟨hm,G4 _,fun h=>absurd fZ (Ct h)⟩
   kb:=fun _ _ _ hy=>hy,qn:=fun _=>bV _ }
 have zX:∀i,jg (S.cx g w) ⟨w.heap,g',S.aA.length+1,S.bj⟩ i:=fun i=>t.keeps hR (fun e=>by cases e) (fun e=>by cases e) (fun _ e=>by rw[cr]at e;cases e)
 have ew:us.length≤c.size:=by
  rcases cF c.size us.length with h|h
  ·obtain⟨_,y,hy,_⟩:=oX c.size us[c.size] (fN h)
   simp at hy
  ·exact h
 have mJ:(({ S with aA:=S.aA++[aS.cells us] }:St).cx g' w)=⟨w.heap,g',S.aA.length+1,S.bj⟩:=by simp[St.cx]
 refine⟨g',R.Hf t hR rfl (by simp) (fun i=>.inl (zX i)) (fun k u hk=>.inl hk)
  (fun i cs ho=>.inl ⟨ho,(fun e=>by cases e),fun _ e=>by rw[cr]at e;cases e;have:=hn.obj;rw[show look id S.aW=some cs from ho]at this;cases this⟩)
  (fun i k b hi hb=>.inl ⟨(fun e=>by cases e),fun _ e=>by rw[cr]at e;cases e⟩) (fun i o ho h0=>?_),?_,rfl,rfl,rfl,fun b hb=>fY _ _ hb,fun v y hv=>by rw[mJ];exact hv.mono t.le fun i=>.inl (zX i)⟩
 ·have ho:(S.aA++[aS.cells us])[i]?=some o:=ho
  rw[oQ]at ho;split at ho
  ·exact .inl ⟨ho,fun _=>⟨fun e=>(by rw[cr]at e;cases e),fun _ e=>(by rw[cr]at e;cases e)⟩⟩
  ·rename_i bE
   have hi:i=S.aA.length:=by
    cases hi:i-S.aA.length with
    |zero=>omega
    |succ k=>rw[hi]at ho;simp at ho
   subst hi;simp at ho;subst ho;have hγ:g'.γ S.aA.length=g.κ id:=dL _ _ _;rw[hγ];have jw:∀(j:Nat) (v:V) (y:Value),us[j]?=some v→c[j]?=some y→v.plain=true∧fg w.heap g.m v y:=fun j v y hv hy=>by
    obtain⟨q1,y',q2,q3⟩:=oX j v hv;rw[hy]at q2;cases q2;exact⟨q1,q3⟩
   refine .inr ⟨dL _ _ _,⟨hm,c,e,hh,ew,fun j v y hv hy=>?_⟩,fun j n pS y hv hy=>?_⟩
   ·obtain⟨q1,q3⟩:=jw j v y hv hy
    exact⟨by cases v<;>simp_all[V.plain,V.cL],fun d=>uj (PH q1),.plain q3 (um q1)⟩
   ·obtain⟨q1,_⟩:=oX j _ hv
    simp[V.plain]at q1
 ·rw[mJ,hx]
  have:(⟨w.heap,g',S.aA.length+1,S.bj⟩:Cx).g.γ S.aA.length=g.κ id:=dL _ _ _;rw[←this];exact .c5 _ _ _ _ (G4 _) eo
end
end Go.Vm

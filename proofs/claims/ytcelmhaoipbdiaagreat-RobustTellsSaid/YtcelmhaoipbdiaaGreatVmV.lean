/- The value machine: states that say less; local objects become blocks that calls share. -/
import Derived.Test.YtcelmhaoipbdiaaGreatVmU
namespace Go.Vm
set_option linter.all false
theorem nN{α:Type}{s d:Nat}:∀{l:List (Nat×α)},look s (l.filter fun p => !(p.1==d))=if s=d then none else look s l
 |[]=>by simp[look]
 |(k,v)::l=>by
  rw[Pd,dL];by_cases hk:k=d
  ·subst hk
   simp only[beq_self_eq_true,Bool.not_true,Hb,if_false];rw[nN];by_cases hs:s=k
   ·rw[aK hs,aK hs]
   ·rw[av hs,av hs,av (fun e=>hs e.symm)]
  ·have:(k==d)=false:=Bi.2 hk
   simp only[this,Bool.not_false,if_true];rw[dL,nN];by_cases Ir:k=s
   ·subst Ir
    rw[aK rfl,aK rfl,av hk]
   ·rw[av Ir,av Ir]
section
variable {P:Program} {E:Entry} {g g':Gh} {S S':St} {a:Act} {w w':World} {C:bD}
theorem R.sub(hR:R E g S a w)(HD:∀s v,look s S'.env=some v→look s S.env=some v)(HE:∀s v,look s S'.aZ=some v→look s S.aZ=some v)
  (tH:∀s v,look s S'.bl=some v→look s S.bl=some v) (By:S'.aD=S.aD):R E g S' a w:=by
 have le:Le (S.cx g w) (S'.cx g w):=⟨bY _,fun _ _ _ _ h=>h,fun _ _=>bY _,by simp[St.cx,By],fun _ _=>rfl⟩
 have ni:∀v x,bf (S.cx g w) v x→bf (S'.cx g w) v x:=fun v x hx =>
  bf.mono le hx fun d=>.inl ⟨rfl,rfl,fun k hk=>⟨k,tH d k hk,bY _,fun _=>⟨rfl,fun _ _=>⟨rfl,fun c _ h=>⟨c,h,rfl⟩⟩⟩⟩⟩
 refine⟨fun s v hs=>?_,fun id cs ho=>?_,fun f k b hf hb=>hR.bl f k b (tH f k hf) hb,By ▸ hR.aD,hR.defers,hR.kb,By ▸ hR.same⟩
 ·obtain⟨x,h1,h2⟩:=hR.env s v (HD s v hs)
  exact⟨x,h1,ni v x h2⟩
 ·rcases hR.aZ id cs (HE id cs ho) with h0 | ⟨h1,h2,h3,c,e,h4,fY,h5⟩
  ·exact .inl h0
  refine .inr ⟨h1,h2,h3,c,e,h4,fY,fun j v hj=>?_⟩;obtain⟨h6,y,h7,h8⟩:=h5 j v hj;exact⟨h6,y,h7,ni v y h8⟩
structure oW(S' S:St):Prop where
 env:∀s v,look s S'.env=some v→look s S.env=some v
 aZ:∀s v,look s S'.aZ=some v→look s S.aZ=some v
 bl:∀s v,look s S'.bl=some v→look s S.bl=some v
 aD:S'.aD=S.aD
theorem oW.refl(S:St):oW S S:=⟨fun _ _ h=>h,fun _ _ h=>h,fun _ _ h=>h,rfl⟩
theorem oW.trans{Ie:St}(h:oW Ie S')(k:oW S' S):oW Ie S:=⟨fun s v e=>k.env s v (h.env s v e),fun s v e=>k.aZ s v (h.aZ s v e),fun s v e=>k.bl s v (h.bl s v e),h.aD.trans k.aD⟩
theorem oW.rel(h:oW S' S){v:V}{x:Value}(hx:bf (S.cx g w) v x):bf (S'.cx g w) v x :=
 have le:Le (S.cx g w) (S'.cx g w):=⟨bY _,fun _ _ _ _ h=>h,fun _ _=>bY _,by simp[St.cx,h.aD],fun _ _=>rfl⟩
 bf.mono le hx fun d=>.inl ⟨rfl,rfl,fun k hk=>⟨k,h.bl d k hk,bY _,fun _=>⟨rfl,fun _ _=>⟨rfl,fun c _ h=>⟨c,h,rfl⟩⟩⟩⟩⟩
theorem oW.fb{d:Nat}(h:oW S' S)(hn:S.fb d):S'.fb d where
 env:=fun s v e=>hn.env s v (h.env s v e)
 aZ:=fun s v e=>hn.aZ s v (h.aZ s v e)
 obj:=by
  cases hl:look d S'.aZ with
  |none=>rfl
  |some cs=>rw[←h.aZ d cs hl];exact hn.obj
 tok:=by
  cases hl:look d S'.bl with
  |none=>rfl
  |some k=>rw[←h.bl d k hl];exact hn.tok
theorem R.less(hR:R E g S a w)(h:oW S' S):R E g S' a w:=hR.sub h.env h.aZ h.bl h.aD
theorem QR{s:Nat}:oW ({ S with env:=S.env.filter fun p => !(p.1==s) }:St) S:=by
 refine⟨fun k v e=>?_,fun _ _ e=>e,fun _ _ e=>e,rfl⟩;simp only[nN]at e;split at e
 ·cases e
 ·exact e
theorem LU(hR:R E g S a w){s n:Nat}{v:V}(hs:look s S.env=some v)(hz:∀x,bf (S.cx g w) v x→mr x):∃g',R E g' (S.share s n []) a w:=by
 let g':Gh:={ g with γ:=df g.γ S.aD.length w.heap.size }
 have t:Touch E g S w g' S.bl (S.aD.length+1) w w.heap.size none none :=
  {os:=rfl,tape:=rfl,output:=rfl,size:=bY _,heap:=fun _ _ _=>rfl,m:=fun _ _=>rfl,ow:=fun _ _=>rfl,κ:=fun _ _=>rfl,cp:=fun _ _=>rfl,
   τ:=fun _ _=>rfl,T:=fun _ _=>rfl,γ:=fun i hi=>gC _ _ (by omega),eW:=KV _,
   γnew:=fun i h1 h2=>by
    have:i=S.aD.length:=by omega
    subst this;show _≤df g.γ _ _ _;rw[dS];exact hR.same.size
   fresh:=.inl hR.same.size,iW:=fun _ _ h _=>absurd hR.same.size (CV h),lv:=fun i h=>hR.EU h (KV _),kN:=fun _ _ _ hy=>hy,qH:=fun h=>absurd h (iC _) }
 obtain⟨x,hx,hr⟩:=hR.env s _ hs;refine⟨g',R.HC t hR rfl (by simp[St.share]) (fun i=>.inl (t.keeps hR (fun e=>by cases e) (fun e=>by cases e) (fun h=>absurd h (iC _)))) (fun k u hk=>?_) (fun i cs ho=>.inl ⟨ho,(fun e=>by cases e),fun h=>absurd h (iC _)⟩)
  (fun i k b hi hb=>.inl ⟨(fun e=>by cases e),fun h=>absurd h (iC _)⟩) (fun i o ho h0=>?_)⟩
 ·replace hk:look k ((s,.c6 S.aD.length n 0)::S.env)=some u:=hk
  rw[dL]at hk;split at hk
  ·rename_i e;subst e;cases hk;exact .inr ⟨x,hx,.uD _ _ (Hs _) (hz x hr)⟩
  ·exact .inl hk
 ·have ho:(S.aD++[aP.cells []])[i]?=some o:=ho
  rw[qB]at ho;split at ho
  ·exact .inl ⟨ho,fun h=>absurd h (iC _)⟩
  ·exfalso
   cases hi:i-S.aD.length with
   |zero=>rw[hi]at ho;simp at ho;exact h0 ho.symm
   |succ k=>rw[hi]at ho;simp at ho
theorem R.QS(hR:R E g S a w){id n len cap:Nat}(hn:S.fb id)(cB:g.ow (g.κ id)=.obj id)(gN:E.w0.heap.size≤g.κ id)(hm:g.m (g.κ id)=0){c:Array Value}{e:TypeId}(hh:w.heap[g.κ id]?=some (.cells c e (0,0)))
  {x:Value} (hx:x=.slice (some ⟨g.κ id,0,none⟩) len cap) (eK:len≤cap) {us:List V} (pD:∀(j:Nat) (v:V),us[j]?=some v→v.plain=true∧∃y,c[j]?=some y∧fF w.heap g.m v y) :
  ∃g',R E g' { S with aD:=S.aD++[aP.cells us] } a w∧bf (({ S with aD:=S.aD++[aP.cells us] }:St).cx g' w) (.c6 S.aD.length n len) x ∧
   g'.m=g.m∧g'.κ=g.κ∧g'.cp=g.cp∧(∀b,b≠g.κ id→g'.ow b=g.ow b)∧∀v y,bf (S.cx g w) v y→bf (({ S with aD:=S.aD++[aP.cells us] }:St).cx g' w) v y:=by
 let g':Gh:={ g with γ:=df g.γ S.aD.length (g.κ id),ow:=df g.ow (g.κ id) (.aD S.aD.length) }
 have t:Touch E g S w g' S.bl (S.aD.length+1) w (g.κ id) none none :=
  {os:=rfl,tape:=rfl,output:=rfl,size:=bY _,heap:=fun _ _ _=>rfl,m:=fun _ _=>rfl,ow:=fun b hb=>gC _ _ hb,κ:=fun _ _=>rfl,cp:=fun _ _=>rfl,
   τ:=fun _ _=>rfl,T:=fun _ _=>rfl,γ:=fun i hi=>gC _ _ (by omega),eW:=KV _,
   γnew:=fun i h1 h2=>by
    have:i=S.aD.length:=by omega
    subst this;show _≤df g.γ _ _ _;rw[dS];exact gN
   fresh:=.inl gN,iW:=fun _ _ h _=>absurd gN (CV h),lv:=fun i e=>by
    have e:df g.ow (g.κ id) (.aD S.aD.length) (g.κ id)=.aD i:=e;rw[dS]at e;cases e;exact⟨hm,Hs _,fun h=>absurd gN (CV h)⟩
   kN:=fun _ _ _ hy=>hy,qH:=fun _=>bY _ }
 have Am:∀i,jB (S.cx g w) ⟨w.heap,g',S.aD.length+1,S.bl⟩ i:=fun i=>t.keeps hR (fun e=>by cases e) (fun e=>by cases e) (fun _ e=>by rw[cB]at e;cases e)
 have eX:us.length≤c.size:=by
  rcases cM c.size us.length with h|h
  ·obtain⟨_,y,hy,_⟩:=pD c.size us[c.size] (g8 h)
   simp at hy
  ·exact h
 have ni:(({ S with aD:=S.aD++[aP.cells us] }:St).cx g' w)=⟨w.heap,g',S.aD.length+1,S.bl⟩:=by simp[St.cx]
 refine⟨g',R.HC t hR rfl (by simp) (fun i=>.inl (Am i)) (fun k u hk=>.inl hk)
  (fun i cs ho=>.inl ⟨ho,(fun e=>by cases e),fun _ e=>by rw[cB]at e;cases e;have:=hn.obj;rw[show look id S.aZ=some cs from ho]at this;cases this⟩)
  (fun i k b hi hb=>.inl ⟨(fun e=>by cases e),fun _ e=>by rw[cB]at e;cases e⟩) (fun i o ho h0=>?_),?_,rfl,rfl,rfl,fun b hb=>gC _ _ hb,fun v y hv=>by rw[ni];exact hv.mono t.le fun i=>.inl (Am i)⟩
 ·have ho:(S.aD++[aP.cells us])[i]?=some o:=ho
  rw[qB]at ho;split at ho
  ·exact .inl ⟨ho,fun _=>⟨fun e=>(by rw[cB]at e;cases e),fun _ e=>(by rw[cB]at e;cases e)⟩⟩
  ·rename_i bI
   have hi:i=S.aD.length:=by
    cases hi:i-S.aD.length with
    |zero=>omega
    |succ k=>rw[hi]at ho;simp at ho
   subst hi;simp at ho;subst ho;have hγ:g'.γ S.aD.length=g.κ id:=dS _ _ _;rw[hγ];have jT:∀(j:Nat) (v:V) (y:Value),us[j]?=some v→c[j]?=some y→v.plain=true∧fF w.heap g.m v y:=fun j v y hv hy=>by
    obtain⟨q1,y',q2,q3⟩:=pD j v hv;rw[hy]at q2;cases q2;exact⟨q1,q3⟩
   refine .inr ⟨dS _ _ _,⟨hm,c,e,hh,eX,fun j v y hv hy=>?_⟩,fun j n ql y hv hy=>?_⟩
   ·obtain⟨q1,q3⟩:=jT j v y hv hy
    exact⟨by cases v<;>simp_all[V.plain,V.cQ],fun d=>uF (Qx q1),.plain q3 (uI q1)⟩
   ·obtain⟨q1,_⟩:=pD j _ hv
    simp[V.plain]at q1
 ·rw[ni,hx]
  have:(⟨w.heap,g',S.aD.length+1,S.bl⟩:Cx).g.γ S.aD.length=g.κ id:=dS _ _ _;rw[←this];exact .c6 _ _ _ _ (Hs _) eK
end
end Go.Vm

/- The value machine: states that say less; local objects become blocks that calls share. -/
import Derived.Test.YtmpikpodpgnjhaaGreatVmU
namespace Go.Vm
set_option linter.all false
theorem oO{α:Type}{s d:Nat}:∀{l:List (Nat×α)},look s (l.filter fun p => !(p.1==d))=if s=d then none else look s l
 |[]=>by simp[look]
 |(k,v)::l=>by
  rw[List.filter_cons,dQ];by_cases hk:k=d
  ·subst hk
   simp only[beq_self_eq_true,Bool.not_true,Bool.false_eq_true,if_false];rw[oO];by_cases hs:s=k
   ·rw[if_pos hs,if_pos hs]
   ·rw[if_neg hs,if_neg hs,if_neg (fun e=>hs e.symm)]
  ·have:(k==d)=false:=beq_eq_false_iff_ne.2 hk
   simp only[this,Bool.not_false,if_true];rw[dQ,oO];by_cases CS:k=s
   ·subst CS
    rw[if_pos rfl,if_pos rfl,if_neg hk]
   ·rw[if_neg CS,if_neg CS]
section
variable {P:Program} {E:Entry} {g g':Gh} {S S':St} {a:Act} {w w':World} {C:bC}
theorem R.sub(hR:R E g S a w)(B2:∀s v,look s S'.env=some v→look s S.env=some v)(B3:∀s v,look s S'.bb=some v→look s S.bb=some v)
  (tC:∀s v,look s S'.bm=some v→look s S.bm=some v) (wJ:S'.az=S.az):R E g S' a w:=by
 have le:Le (S.cx g w) (S'.cx g w):=⟨Nat.le_refl _,fun _ _ _ _ h=>h,fun _ _=>Nat.le_refl _,by simp[St.cx,wJ],fun _ _=>rfl⟩
 have lU:∀v x,bj (S.cx g w) v x→bj (S'.cx g w) v x:=fun v x hx =>
  bj.mono le hx fun d=>.inl ⟨rfl,rfl,fun k hk=>⟨k,tC d k hk,Nat.le_refl _,fun _=>⟨rfl,fun _ _=>⟨rfl,fun c _ h=>⟨c,h,rfl⟩⟩⟩⟩⟩
 refine⟨fun s v hs=>?_,fun id cs ho=>?_,fun f k b hf hb=>hR.bm f k b (tC f k hf) hb,wJ ▸ hR.az,hR.defers,hR.jy,wJ ▸ hR.same⟩
 ·obtain⟨x,h1,h2⟩:=hR.env s v (B2 s v hs)
  exact⟨x,h1,lU v x h2⟩
 ·rcases hR.bb id cs (B3 id cs ho) with h0 | ⟨h1,h2,h3,c,e,h4,fH,h5⟩
  ·exact .inl h0
  refine .inr ⟨h1,h2,h3,c,e,h4,fH,fun j v hj=>?_⟩;obtain⟨h6,y,h7,h8⟩:=h5 j v hj;exact⟨h6,y,h7,lU v y h8⟩
structure pC(S' S:St):Prop where
 env:∀s v,look s S'.env=some v→look s S.env=some v
 bb:∀s v,look s S'.bb=some v→look s S.bb=some v
 bm:∀s v,look s S'.bm=some v→look s S.bm=some v
 az:S'.az=S.az
theorem pC.refl(S:St):pC S S:=⟨fun _ _ h=>h,fun _ _ h=>h,fun _ _ h=>h,rfl⟩
theorem pC.trans{CI:St}(h:pC CI S')(k:pC S' S):pC CI S:=⟨fun s v e=>k.env s v (h.env s v e),fun s v e=>k.bb s v (h.bb s v e),fun s v e=>k.bm s v (h.bm s v e),h.az.trans k.az⟩
theorem pC.eR{d:Nat}(h:pC S' S)(hn:S.eR d):S'.eR d where
 env:=fun s v e=>hn.env s v (h.env s v e)
 bb:=fun s v e=>hn.bb s v (h.bb s v e)
 obj:=by
  cases hl:look d S'.bb with
  |none=>rfl
  |some cs=>rw[←h.bb d cs hl];exact hn.obj
 tok:=by
  cases hl:look d S'.bm with
  |none=>rfl
  |some k=>rw[←h.bm d k hl];exact hn.tok
theorem R.less(hR:R E g S a w)(h:pC S' S):R E g S' a w:=hR.sub h.env h.bb h.bm h.az
theorem JA{s:Nat}:pC ({ S with env:=S.env.filter fun p => !(p.1==s) }:St) S:=by
 refine⟨fun k v e=>?_,fun _ _ e=>e,fun _ _ e=>e,rfl⟩;simp only[oO]at e;split at e
 ·cases e
 ·exact e
theorem Fw(hR:R E g S a w){s n:Nat}{v:V}(hs:look s S.env=some v)(hz:∀x,bj (S.cx g w) v x→kG x):∃g',R E g' (S.share s n []) a w:=by
 let g':Gh:={ g with γ:=c7 g.γ S.az.length w.heap.size }
 have t:Touch E g S w g' S.bm (S.az.length+1) w w.heap.size none none :=
  {os:=rfl,tape:=rfl,output:=rfl,size:=Nat.le_refl _,heap:=fun _ _ _=>rfl,m:=fun _ _=>rfl,ow:=fun _ _=>rfl,κ:=fun _ _=>rfl,cp:=fun _ _=>rfl,
   τ:=fun _ _=>rfl,T:=fun _ _=>rfl,γ:=fun i hi=>gP _ _ (by omega),fb:=Nat.le_succ _,
   γnew:=fun i h1 h2=>by
    have:i=S.az.length:=by omega
    subst this;show _≤c7 g.γ _ _ _;rw[dP];exact hR.same.size
   fresh:=.inl hR.same.size,ig:=fun _ _ h _=>absurd hR.same.size (Nat.not_le_of_lt h),lv:=fun i h=>hR.z8 h (Nat.le_succ _),jk:=fun _ _ _ hy=>hy,oC:=fun h=>absurd h (Nat.lt_irrefl _) }
 obtain⟨x,hx,hr⟩:=hR.env s _ hs;refine⟨g',R.B1 t hR rfl (by simp[St.share]) (fun i=>.inl (t.keeps hR (fun e=>by cases e) (fun e=>by cases e) (fun h=>absurd h (Nat.lt_irrefl _)))) (fun k u hk=>?_) (fun i cs ho=>.inl ⟨ho,(fun e=>by cases e),fun h=>absurd h (Nat.lt_irrefl _)⟩)
  (fun i k b hi hb=>.inl ⟨(fun e=>by cases e),fun h=>absurd h (Nat.lt_irrefl _)⟩) (fun i o ho h0=>?_)⟩
 ·replace hk:look k ((s,.dB S.az.length n 0)::S.env)=some u:=hk
  rw[dQ]at hk;split at hk
  ·rename_i e;subst e;cases hk;exact .inr ⟨x,hx,.ta _ _ (Nat.lt_succ_self _) (hz x hr)⟩
  ·exact .inl hk
 ·have ho:(S.az++[aW.cells []])[i]?=some o:=ho
  rw[List.getElem?_append]at ho;split at ho
  ·exact .inl ⟨ho,fun h=>absurd h (Nat.lt_irrefl _)⟩
  ·exfalso
   cases hi:i-S.az.length with
   |zero=>rw[hi]at ho;simp at ho;exact h0 ho.symm
   |succ k=>rw[hi]at ho;simp at ho
theorem R.Pw(hR:R E g S a w){id n len cap:Nat}(hn:S.eR id)(cJ:g.ow (g.κ id)=.obj id)(gG:E.w0.heap.size≤g.κ id)(hm:g.m (g.κ id)=0){c:Array Value}{e:TypeId}(hh:w.heap[g.κ id]?=some (.cells c e (0,0)))
  {x:Value} (hx:x=.slice (some ⟨g.κ id,0,none⟩) len cap) (eP:len≤cap) {us:List V} (nc:∀(j:Nat) (v:V),us[j]?=some v→v.plain=true∧∃y,c[j]?=some y∧fp w.heap g.m v y) :
  ∃g',R E g' { S with az:=S.az++[aW.cells us] } a w∧bj (({ S with az:=S.az++[aW.cells us] }:St).cx g' w) (.dB S.az.length n len) x:=by
 let g':Gh:={ g with γ:=c7 g.γ S.az.length (g.κ id),ow:=c7 g.ow (g.κ id) (.az S.az.length) }
 have t:Touch E g S w g' S.bm (S.az.length+1) w (g.κ id) none none :=
  {os:=rfl,tape:=rfl,output:=rfl,size:=Nat.le_refl _,heap:=fun _ _ _=>rfl,m:=fun _ _=>rfl,ow:=fun b hb=>gP _ _ hb,κ:=fun _ _=>rfl,cp:=fun _ _=>rfl,
   τ:=fun _ _=>rfl,T:=fun _ _=>rfl,γ:=fun i hi=>gP _ _ (by omega),fb:=Nat.le_succ _,
   γnew:=fun i h1 h2=>by
    have:i=S.az.length:=by omega
    subst this;show _≤c7 g.γ _ _ _;rw[dP];exact gG
   fresh:=.inl gG,ig:=fun _ _ h _=>absurd gG (Nat.not_le_of_lt h),lv:=fun i e=>by
    have e:c7 g.ow (g.κ id) (.az S.az.length) (g.κ id)=.az i:=e;rw[dP]at e;cases e;exact⟨hm,Nat.lt_succ_self _,fun h=>absurd gG (Nat.not_le_of_lt h)⟩
   jk:=fun _ _ _ hy=>hy,oC:=fun _=>Nat.le_refl _ }
 have w6:∀i,iP (S.cx g w) ⟨w.heap,g',S.az.length+1,S.bm⟩ i:=fun i=>t.keeps hR (fun e=>by cases e) (fun e=>by cases e) (fun _ e=>by rw[cJ]at e;cases e)
 have fx:us.length≤c.size:=by
  rcases Nat.lt_or_ge c.size us.length with h|h
  ·obtain⟨_,y,hy,_⟩:=nc c.size us[c.size] (List.getElem?_eq_getElem h)
   simp at hy
  ·exact h
 have lU:(({ S with az:=S.az++[aW.cells us] }:St).cx g' w)=⟨w.heap,g',S.az.length+1,S.bm⟩:=by simp[St.cx]
 refine⟨g',R.B1 t hR rfl (by simp) (fun i=>.inl (w6 i)) (fun k u hk=>.inl hk)
  (fun i cs ho=>.inl ⟨ho,(fun e=>by cases e),fun _ e=>by rw[cJ]at e;cases e;have:=hn.obj;rw[show look id S.bb=some cs from ho]at this;cases this⟩)
  (fun i k b hi hb=>.inl ⟨(fun e=>by cases e),fun _ e=>by rw[cJ]at e;cases e⟩) (fun i o ho h0=>?_),?_⟩
 ·have ho:(S.az++[aW.cells us])[i]?=some o:=ho
  rw[List.getElem?_append]at ho;split at ho
  ·exact .inl ⟨ho,fun _=>⟨fun e=>(by rw[cJ]at e;cases e),fun _ e=>(by rw[cJ]at e;cases e)⟩⟩
  ·rename_i bG
   have hi:i=S.az.length:=by
    cases hi:i-S.az.length with
    |zero=>omega
    |succ k=>rw[hi]at ho;simp at ho
   subst hi;simp at ho;subst ho;have hγ:g'.γ S.az.length=g.κ id:=dP _ _ _;rw[hγ];have iQ:∀(j:Nat) (v:V) (y:Value),us[j]?=some v→c[j]?=some y→v.plain=true∧fp w.heap g.m v y:=fun j v y hv hy=>by
    obtain⟨q1,y',q2,q3⟩:=nc j v hv;rw[hy]at q2;cases q2;exact⟨q1,q3⟩
   refine .inr ⟨dP _ _ _,⟨hm,c,e,hh,fx,fun j v y hv hy=>?_⟩,fun j n nY y hv hy=>?_⟩
   ·obtain⟨q1,q3⟩:=iQ j v y hv hy
    exact⟨by cases v<;>simp_all[V.plain,V.cM],fun d=>rf (Jg q1),.plain q3 (rY q1)⟩
   ·obtain⟨q1,_⟩:=nc j _ hv
    simp[V.plain]at q1
 ·rw[lU,hx]
  have:(⟨w.heap,g',S.az.length+1,S.bm⟩:Cx).g.γ S.az.length=g.κ id:=dP _ _ _;rw[←this];exact .dB _ _ _ _ (Nat.lt_succ_self _) eP
end
end Go.Vm

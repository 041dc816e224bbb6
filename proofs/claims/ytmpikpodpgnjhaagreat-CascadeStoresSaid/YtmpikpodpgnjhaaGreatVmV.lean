/- The value machine: states that say less; local objects become blocks that calls share. -/
import Derived.Test.YtmpikpodpgnjhaaGreatVmU
namespace Go.Vm
set_option linter.all false
theorem oo{α:Type}{s d:Nat}:∀{l:List (Nat×α)},look s (l.filter fun p => !(p.1==d))=if s=d then none else look s l
 |[]=>by simp[look]
 |(k,v)::l=>by
  rw[List.filter_cons,dF];by_cases hk:k=d
  ·subst hk
   simp only[beq_self_eq_true,Bool.not_true,Bool.false_eq_true,if_false];rw[oo];by_cases hs:s=k
   ·rw[if_pos hs,if_pos hs]
   ·rw[if_neg hs,if_neg hs,if_neg (fun e=>hs e.symm)]
  ·have:(k==d)=false:=beq_eq_false_iff_ne.2 hk
   simp only[this,Bool.not_false,if_true];rw[dF,oo];by_cases CF:k=s
   ·subst CF
    rw[if_pos rfl,if_pos rfl,if_neg hk]
   ·rw[if_neg CF,if_neg CF]
section
variable {P:Program} {E:Entry} {g g':Gh} {S S':St} {a:Act} {w w':World} {C:bm}
theorem R.sub(hR:R E g S a w)(BR:∀s v,look s S'.env=some v→look s S.env=some v)(BS:∀s v,look s S'.aV=some v→look s S.aV=some v)
  (qe:∀s v,look s S'.a7=some v→look s S.a7=some v) (w7:S'.ay=S.ay):R E g S' a w:=by
 have le:Le (S.cx g w) (S'.cx g w):=⟨Nat.le_refl _,fun _ _ _ _ h=>h,fun _ _=>Nat.le_refl _,by simp[St.cx,w7],fun _ _=>rfl⟩
 have lJ:∀v x,aY (S.cx g w) v x→aY (S'.cx g w) v x:=fun v x hx =>
  aY.mono le hx fun d=>.inl ⟨rfl,rfl,fun k hk=>⟨k,qe d k hk,Nat.le_refl _,fun _=>⟨rfl,fun _ _=>⟨rfl,fun c _ h=>⟨c,h,rfl⟩⟩⟩⟩⟩
 refine⟨fun s v hs=>?_,fun id cs ho=>?_,fun f k b hf hb=>hR.a7 f k b (qe f k hf) hb,w7 ▸ hR.ay,hR.defers,hR.jb,w7 ▸ hR.same⟩
 ·obtain⟨x,h1,h2⟩:=hR.env s v (BR s v hs)
  exact⟨x,h1,lJ v x h2⟩
 ·rcases hR.aV id cs (BS id cs ho) with h0 | ⟨h1,h2,h3,c,e,h4,eT,h5⟩
  ·exact .inl h0
  refine .inr ⟨h1,h2,h3,c,e,h4,eT,fun j v hj=>?_⟩;obtain⟨h6,y,h7,h8⟩:=h5 j v hj;exact⟨h6,y,h7,lJ v y h8⟩
structure oQ(S' S:St):Prop where
 env:∀s v,look s S'.env=some v→look s S.env=some v
 aV:∀s v,look s S'.aV=some v→look s S.aV=some v
 a7:∀s v,look s S'.a7=some v→look s S.a7=some v
 ay:S'.ay=S.ay
theorem oQ.refl(S:St):oQ S S:=⟨fun _ _ h=>h,fun _ _ h=>h,fun _ _ h=>h,rfl⟩
theorem oQ.trans{Ct:St}(h:oQ Ct S')(k:oQ S' S):oQ Ct S:=⟨fun s v e=>k.env s v (h.env s v e),fun s v e=>k.aV s v (h.aV s v e),fun s v e=>k.a7 s v (h.a7 s v e),h.ay.trans k.ay⟩
theorem oQ.ez{d:Nat}(h:oQ S' S)(hn:S.ez d):S'.ez d where
 env:=fun s v e=>hn.env s v (h.env s v e)
 aV:=fun s v e=>hn.aV s v (h.aV s v e)
 obj:=by
  cases hl:look d S'.aV with
  |none=>rfl
  |some cs=>rw[←h.aV d cs hl];exact hn.obj
 tok:=by
  cases hl:look d S'.a7 with
  |none=>rfl
  |some k=>rw[←h.a7 d k hl];exact hn.tok
theorem R.less(hR:R E g S a w)(h:oQ S' S):R E g S' a w:=hR.sub h.env h.aV h.a7 h.ay
theorem Js{s:Nat}:oQ ({ S with env:=S.env.filter fun p => !(p.1==s) }:St) S:=by
 refine⟨fun k v e=>?_,fun _ _ e=>e,fun _ _ e=>e,rfl⟩;simp only[oo]at e;split at e
 ·cases e
 ·exact e
theorem Fs(hR:R E g S a w){s n:Nat}{v:V}(hs:look s S.env=some v)(hz:∀x,aY (S.cx g w) v x→kj x):∃g',R E g' (S.share s n []) a w:=by
 let g':Gh:={ g with γ:=cQ g.γ S.ay.length w.heap.size }
 have t:Touch E g S w g' S.a7 (S.ay.length+1) w w.heap.size none none :=
  {os:=rfl,tape:=rfl,output:=rfl,size:=Nat.le_refl _,heap:=fun _ _ _=>rfl,m:=fun _ _=>rfl,ow:=fun _ _=>rfl,κ:=fun _ _=>rfl,cp:=fun _ _=>rfl,
   τ:=fun _ _=>rfl,T:=fun _ _=>rfl,γ:=fun i hi=>gd _ _ (by omega),eG:=Nat.le_succ _,
   γnew:=fun i h1 h2=>by
    have:i=S.ay.length:=by omega
    subst this;show _≤cQ g.γ _ _ _;rw[dC];exact hR.same.size
   fresh:=.inl hR.same.size,gN:=fun _ _ h _=>absurd hR.same.size (Nat.not_le_of_lt h),lv:=fun i h=>hR.z7 h (Nat.le_succ _),jQ:=fun _ _ _ hy=>hy,nZ:=fun h=>absurd h (Nat.lt_irrefl _) }
 obtain⟨x,hx,hr⟩:=hR.env s _ hs;refine⟨g',R.BQ t hR rfl (by simp[St.share]) (fun i=>.inl (t.keeps hR (fun e=>by cases e) (fun e=>by cases e) (fun h=>absurd h (Nat.lt_irrefl _)))) (fun k u hk=>?_) (fun i cs ho=>.inl ⟨ho,(fun e=>by cases e),fun h=>absurd h (Nat.lt_irrefl _)⟩)
  (fun i k b hi hb=>.inl ⟨(fun e=>by cases e),fun h=>absurd h (Nat.lt_irrefl _)⟩) (fun i o ho h0=>?_)⟩
 ·replace hk:look k ((s,.df S.ay.length n 0)::S.env)=some u:=hk
  rw[dF]at hk;split at hk
  ·rename_i e;subst e;cases hk;exact .inr ⟨x,hx,.tB _ _ (Nat.lt_succ_self _) (hz x hr)⟩
  ·exact .inl hk
 ·have ho:(S.ay++[aP.cells []])[i]?=some o:=ho
  rw[List.getElem?_append]at ho;split at ho
  ·exact .inl ⟨ho,fun h=>absurd h (Nat.lt_irrefl _)⟩
  ·exfalso
   cases hi:i-S.ay.length with
   |zero=>rw[hi]at ho;simp at ho;exact h0 ho.symm
   |succ k=>rw[hi]at ho;simp at ho
theorem R.Po(hR:R E g S a w){id n len cap:Nat}(hn:S.ez id)(cn:g.ow (g.κ id)=.obj id)(fU:E.w0.heap.size≤g.κ id)(hm:g.m (g.κ id)=0){c:Array Value}{e:TypeId}(hh:w.heap[g.κ id]?=some (.cells c e (0,0)))
  {x:Value} (hx:x=.slice (some ⟨g.κ id,0,none⟩) len cap) (eu:len≤cap) {us:List V} (mT:∀(j:Nat) (v:V),us[j]?=some v→v.plain=true∧∃y,c[j]?=some y∧eS w.heap g.m v y) :
  ∃g',R E g' { S with ay:=S.ay++[aP.cells us] } a w∧aY (({ S with ay:=S.ay++[aP.cells us] }:St).cx g' w) (.df S.ay.length n len) x:=by
 let g':Gh:={ g with γ:=cQ g.γ S.ay.length (g.κ id),ow:=cQ g.ow (g.κ id) (.ay S.ay.length) }
 have t:Touch E g S w g' S.a7 (S.ay.length+1) w (g.κ id) none none :=
  {os:=rfl,tape:=rfl,output:=rfl,size:=Nat.le_refl _,heap:=fun _ _ _=>rfl,m:=fun _ _=>rfl,ow:=fun b hb=>gd _ _ hb,κ:=fun _ _=>rfl,cp:=fun _ _=>rfl,
   τ:=fun _ _=>rfl,T:=fun _ _=>rfl,γ:=fun i hi=>gd _ _ (by omega),eG:=Nat.le_succ _,
   γnew:=fun i h1 h2=>by
    have:i=S.ay.length:=by omega
    subst this;show _≤cQ g.γ _ _ _;rw[dC];exact fU
   fresh:=.inl fU,gN:=fun _ _ h _=>absurd fU (Nat.not_le_of_lt h),lv:=fun i e=>by
    have e:cQ g.ow (g.κ id) (.ay S.ay.length) (g.κ id)=.ay i:=e;rw[dC]at e;cases e;exact⟨hm,Nat.lt_succ_self _,fun h=>absurd fU (Nat.not_le_of_lt h)⟩
   jQ:=fun _ _ _ hy=>hy,nZ:=fun _=>Nat.le_refl _ }
 have xn:∀i,il (S.cx g w) ⟨w.heap,g',S.ay.length+1,S.a7⟩ i:=fun i=>t.keeps hR (fun e=>by cases e) (fun e=>by cases e) (fun _ e=>by rw[cn]at e;cases e)
 have eW:us.length≤c.size:=by
  rcases Nat.lt_or_ge c.size us.length with h|h
  ·obtain⟨_,y,hy,_⟩:=mT c.size us[c.size] (List.getElem?_eq_getElem h)
   simp at hy
  ·exact h
 have lJ:(({ S with ay:=S.ay++[aP.cells us] }:St).cx g' w)=⟨w.heap,g',S.ay.length+1,S.a7⟩:=by simp[St.cx]
 refine⟨g',R.BQ t hR rfl (by simp) (fun i=>.inl (xn i)) (fun k u hk=>.inl hk)
  (fun i cs ho=>.inl ⟨ho,(fun e=>by cases e),fun _ e=>by rw[cn]at e;cases e;have:=hn.obj;rw[show look id S.aV=some cs from ho]at this;cases this⟩)
  (fun i k b hi hb=>.inl ⟨(fun e=>by cases e),fun _ e=>by rw[cn]at e;cases e⟩) (fun i o ho h0=>?_),?_⟩
 ·have ho:(S.ay++[aP.cells us])[i]?=some o:=ho
  rw[List.getElem?_append]at ho;split at ho
  ·exact .inl ⟨ho,fun _=>⟨fun e=>(by rw[cn]at e;cases e),fun _ e=>(by rw[cn]at e;cases e)⟩⟩
  ·rename_i br
   have hi:i=S.ay.length:=by
    cases hi:i-S.ay.length with
    |zero=>omega
    |succ k=>rw[hi]at ho;simp at ho
   subst hi;simp at ho;subst ho;have hγ:g'.γ S.ay.length=g.κ id:=dC _ _ _;rw[hγ];have im:∀(j:Nat) (v:V) (y:Value),us[j]?=some v→c[j]?=some y→v.plain=true∧eS w.heap g.m v y:=fun j v y hv hy=>by
    obtain⟨q1,y',q2,q3⟩:=mT j v hv;rw[hy]at q2;cases q2;exact⟨q1,q3⟩
   refine .inr ⟨dC _ _ _,⟨hm,c,e,hh,eW,fun j v y hv hy=>?_⟩,fun j n nH y hv hy=>?_⟩
   ·obtain⟨q1,q3⟩:=im j v y hv hy
    exact⟨by cases v<;>simp_all[V.plain,V.cz],fun d=>qP (I8 q1),.plain q3 (sk q1)⟩
   ·obtain⟨q1,_⟩:=mT j _ hv
    simp[V.plain]at q1
 ·rw[lJ,hx]
  have:(⟨w.heap,g',S.ay.length+1,S.a7⟩:Cx).g.γ S.ay.length=g.κ id:=dC _ _ _;rw[←this];exact .df _ _ _ _ (Nat.lt_succ_self _) eu
end
end Go.Vm

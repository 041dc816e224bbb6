/- The value machine: states that say less; local objects become blocks that calls share. -/
import Derived.Test.YtmpikpodpgnjhaaGreatVmU
namespace Go.Vm
set_option linter.all false
theorem oP{α:Type}{s d:Nat}:∀{l:List (Nat×α)},look s (l.filter fun p => !(p.1==d))=if s=d then none else look s l
 |[]=>by simp[look]
 |(k,v)::l=>by
  rw[List.filter_cons,dP];by_cases hk:k=d
  ·subst hk
   simp only[beq_self_eq_true,Bool.not_true,Bool.false_eq_true,if_false];rw[oP];by_cases hs:s=k
   ·rw[if_pos hs,if_pos hs]
   ·rw[if_neg hs,if_neg hs,if_neg (fun e=>hs e.symm)]
  ·have:(k==d)=false:=beq_eq_false_iff_ne.2 hk
   simp only[this,Bool.not_false,if_true];rw[dP,oP];by_cases CN:k=s
   ·subst CN
    rw[if_pos rfl,if_pos rfl,if_neg hk]
   ·rw[if_neg CN,if_neg CN]
section
variable {P:Program} {E:Entry} {g g':Gh} {S S':St} {a:Act} {w w':World} {C:bH}
theorem R.sub(hR:R E g S a w)(BY:∀s v,look s S'.env=some v→look s S.env=some v)(BZ:∀s v,look s S'.bb=some v→look s S.bb=some v)
  (qq:∀s v,look s S'.bl=some v→look s S.bl=some v) (wJ:S'.az=S.az):R E g S' a w:=by
 have le:Le (S.cx g w) (S'.cx g w):=⟨Nat.le_refl _,fun _ _ _ _ h=>h,fun _ _=>Nat.le_refl _,by simp[St.cx,wJ],fun _ _=>rfl⟩
 have lS:∀v x,bh (S.cx g w) v x→bh (S'.cx g w) v x:=fun v x hx =>
  bh.mono le hx fun d=>.inl ⟨rfl,rfl,fun k hk=>⟨k,qq d k hk,Nat.le_refl _,fun _=>⟨rfl,fun _ _=>⟨rfl,fun c _ h=>⟨c,h,rfl⟩⟩⟩⟩⟩
 refine⟨fun s v hs=>?_,fun id cs ho=>?_,fun f k b hf hb=>hR.bl f k b (qq f k hf) hb,wJ ▸ hR.az,hR.defers,hR.js,wJ ▸ hR.same⟩
 ·obtain⟨x,h1,h2⟩:=hR.env s v (BY s v hs)
  exact⟨x,h1,lS v x h2⟩
 ·rcases hR.bb id cs (BZ id cs ho) with h0 | ⟨h1,h2,h3,c,e,h4,fD,h5⟩
  ·exact .inl h0
  refine .inr ⟨h1,h2,h3,c,e,h4,fD,fun j v hj=>?_⟩;obtain⟨h6,y,h7,h8⟩:=h5 j v hj;exact⟨h6,y,h7,lS v y h8⟩
structure pq(S' S:St):Prop where
 env:∀s v,look s S'.env=some v→look s S.env=some v
 bb:∀s v,look s S'.bb=some v→look s S.bb=some v
 bl:∀s v,look s S'.bl=some v→look s S.bl=some v
 az:S'.az=S.az
theorem pq.refl(S:St):pq S S:=⟨fun _ _ h=>h,fun _ _ h=>h,fun _ _ h=>h,rfl⟩
theorem pq.trans{CD:St}(h:pq CD S')(k:pq S' S):pq CD S:=⟨fun s v e=>k.env s v (h.env s v e),fun s v e=>k.bb s v (h.bb s v e),fun s v e=>k.bl s v (h.bl s v e),h.az.trans k.az⟩
theorem pq.eT{d:Nat}(h:pq S' S)(hn:S.eT d):S'.eT d where
 env:=fun s v e=>hn.env s v (h.env s v e)
 bb:=fun s v e=>hn.bb s v (h.bb s v e)
 obj:=by
  cases hl:look d S'.bb with
  |none=>rfl
  |some cs=>rw[←h.bb d cs hl];exact hn.obj
 tok:=by
  cases hl:look d S'.bl with
  |none=>rfl
  |some k=>rw[←h.bl d k hl];exact hn.tok
theorem R.less(hR:R E g S a w)(h:pq S' S):R E g S' a w:=hR.sub h.env h.bb h.bl h.az
theorem Jx{s:Nat}:pq ({ S with env:=S.env.filter fun p => !(p.1==s) }:St) S:=by
 refine⟨fun k v e=>?_,fun _ _ e=>e,fun _ _ e=>e,rfl⟩;simp only[oP]at e;split at e
 ·cases e
 ·exact e
theorem Fs(hR:R E g S a w){s n:Nat}{v:V}(hs:look s S.env=some v)(hz:∀x,bh (S.cx g w) v x→kz x):∃g',R E g' (S.share s n []) a w:=by
 let g':Gh:={ g with γ:=c6 g.γ S.az.length w.heap.size }
 have t:Touch E g S w g' S.bl (S.az.length+1) w w.heap.size none none :=
  {os:=rfl,tape:=rfl,output:=rfl,size:=Nat.le_refl _,heap:=fun _ _ _=>rfl,m:=fun _ _=>rfl,ow:=fun _ _=>rfl,κ:=fun _ _=>rfl,cp:=fun _ _=>rfl,
   τ:=fun _ _=>rfl,T:=fun _ _=>rfl,γ:=fun i hi=>gK _ _ (by omega),fa:=Nat.le_succ _,
   γnew:=fun i h1 h2=>by
    have:i=S.az.length:=by omega
    subst this;show _≤c6 g.γ _ _ _;rw[dN];exact hR.same.size
   fresh:=.inl hR.same.size,ia:=fun _ _ h _=>absurd hR.same.size (Nat.not_le_of_lt h),lv:=fun i h=>hR.z6 h (Nat.le_succ _),jh:=fun _ _ _ hy=>hy,oC:=fun h=>absurd h (Nat.lt_irrefl _) }
 obtain⟨x,hx,hr⟩:=hR.env s _ hs;refine⟨g',R.BX t hR rfl (by simp[St.share]) (fun i=>.inl (t.keeps hR (fun e=>by cases e) (fun e=>by cases e) (fun h=>absurd h (Nat.lt_irrefl _)))) (fun k u hk=>?_) (fun i cs ho=>.inl ⟨ho,(fun e=>by cases e),fun h=>absurd h (Nat.lt_irrefl _)⟩)
  (fun i k b hi hb=>.inl ⟨(fun e=>by cases e),fun h=>absurd h (Nat.lt_irrefl _)⟩) (fun i o ho h0=>?_)⟩
 ·replace hk:look k ((s,.dB S.az.length n 0)::S.env)=some u:=hk
  rw[dP]at hk;split at hk
  ·rename_i e;subst e;cases hk;exact .inr ⟨x,hx,.s8 _ _ (Nat.lt_succ_self _) (hz x hr)⟩
  ·exact .inl hk
 ·have ho:(S.az++[aV.cells []])[i]?=some o:=ho
  rw[List.getElem?_append]at ho;split at ho
  ·exact .inl ⟨ho,fun h=>absurd h (Nat.lt_irrefl _)⟩
  ·exfalso
   cases hi:i-S.az.length with
   |zero=>rw[hi]at ho;simp at ho;exact h0 ho.symm
   |succ k=>rw[hi]at ho;simp at ho
theorem R.Pw(hR:R E g S a w){id n len cap:Nat}(hn:S.eT id)(cH:g.ow (g.κ id)=.obj id)(gA:E.w0.heap.size≤g.κ id)(hm:g.m (g.κ id)=0){c:Array Value}{e:TypeId}(hh:w.heap[g.κ id]?=some (.cells c e (0,0)))
  {x:Value} (hx:x=.slice (some ⟨g.κ id,0,none⟩) len cap) (eN:len≤cap) {us:List V} (oD:∀(j:Nat) (v:V),us[j]?=some v→v.plain=true∧∃y,c[j]?=some y∧fk w.heap g.m v y) :
  ∃g',R E g' { S with az:=S.az++[aV.cells us] } a w∧bh (({ S with az:=S.az++[aV.cells us] }:St).cx g' w) (.dB S.az.length n len) x:=by
 let g':Gh:={ g with γ:=c6 g.γ S.az.length (g.κ id),ow:=c6 g.ow (g.κ id) (.az S.az.length) }
 have t:Touch E g S w g' S.bl (S.az.length+1) w (g.κ id) none none :=
  {os:=rfl,tape:=rfl,output:=rfl,size:=Nat.le_refl _,heap:=fun _ _ _=>rfl,m:=fun _ _=>rfl,ow:=fun b hb=>gK _ _ hb,κ:=fun _ _=>rfl,cp:=fun _ _=>rfl,
   τ:=fun _ _=>rfl,T:=fun _ _=>rfl,γ:=fun i hi=>gK _ _ (by omega),fa:=Nat.le_succ _,
   γnew:=fun i h1 h2=>by
    have:i=S.az.length:=by omega
    subst this;show _≤c6 g.γ _ _ _;rw[dN];exact gA
   fresh:=.inl gA,ia:=fun _ _ h _=>absurd gA (Nat.not_le_of_lt h),lv:=fun i e=>by
    have e:c6 g.ow (g.κ id) (.az S.az.length) (g.κ id)=.az i:=e;rw[dN]at e;cases e;exact⟨hm,Nat.lt_succ_self _,fun h=>absurd gA (Nat.not_le_of_lt h)⟩
   jh:=fun _ _ _ hy=>hy,oC:=fun _=>Nat.le_refl _ }
 have w6:∀i,iM (S.cx g w) ⟨w.heap,g',S.az.length+1,S.bl⟩ i:=fun i=>t.keeps hR (fun e=>by cases e) (fun e=>by cases e) (fun _ e=>by rw[cH]at e;cases e)
 have ft:us.length≤c.size:=by
  rcases Nat.lt_or_ge c.size us.length with h|h
  ·obtain⟨_,y,hy,_⟩:=oD c.size us[c.size] (List.getElem?_eq_getElem h)
   simp at hy
  ·exact h
 have lS:(({ S with az:=S.az++[aV.cells us] }:St).cx g' w)=⟨w.heap,g',S.az.length+1,S.bl⟩:=by simp[St.cx]
 refine⟨g',R.BX t hR rfl (by simp) (fun i=>.inl (w6 i)) (fun k u hk=>.inl hk)
  (fun i cs ho=>.inl ⟨ho,(fun e=>by cases e),fun _ e=>by rw[cH]at e;cases e;have:=hn.obj;rw[show look id S.bb=some cs from ho]at this;cases this⟩)
  (fun i k b hi hb=>.inl ⟨(fun e=>by cases e),fun _ e=>by rw[cH]at e;cases e⟩) (fun i o ho h0=>?_),?_⟩
 ·have ho:(S.az++[aV.cells us])[i]?=some o:=ho
  rw[List.getElem?_append]at ho;split at ho
  ·exact .inl ⟨ho,fun _=>⟨fun e=>(by rw[cH]at e;cases e),fun _ e=>(by rw[cH]at e;cases e)⟩⟩
  ·rename_i bF
   have hi:i=S.az.length:=by
    cases hi:i-S.az.length with
    |zero=>omega
    |succ k=>rw[hi]at ho;simp at ho
   subst hi;simp at ho;subst ho;have hγ:g'.γ S.az.length=g.κ id:=dN _ _ _;rw[hγ];have iN:∀(j:Nat) (v:V) (y:Value),us[j]?=some v→c[j]?=some y→v.plain=true∧fk w.heap g.m v y:=fun j v y hv hy=>by
    obtain⟨q1,y',q2,q3⟩:=oD j v hv;rw[hy]at q2;cases q2;exact⟨q1,q3⟩
   refine .inr ⟨dN _ _ _,⟨hm,c,e,hh,ft,fun j v y hv hy=>?_⟩,fun j n nW y hv hy=>?_⟩
   ·obtain⟨q1,q3⟩:=iN j v y hv hy
    exact⟨by cases v<;>simp_all[V.plain,V.cU],fun d=>rf (Jd q1),.plain q3 (rY q1)⟩
   ·obtain⟨q1,_⟩:=oD j _ hv
    simp[V.plain]at q1
 ·rw[lS,hx]
  have:(⟨w.heap,g',S.az.length+1,S.bl⟩:Cx).g.γ S.az.length=g.κ id:=dN _ _ _;rw[←this];exact .dB _ _ _ _ (Nat.lt_succ_self _) eN
end
end Go.Vm

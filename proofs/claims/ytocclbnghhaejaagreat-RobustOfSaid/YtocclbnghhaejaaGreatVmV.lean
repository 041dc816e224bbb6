/- The value machine: states that say less; local objects become blocks that calls share. -/
import Derived.Test.YtocclbnghhaejaaGreatVmU
namespace Go.Vm
set_option linter.all false
theorem nV{α:Type}{s d:Nat}:∀{l:List (Nat×α)},look s (l.filter fun p => !(p.1==d))=if s=d then none else look s l
 |[]=>by simp[look]
 |(k,v)::l=>by
  rw[List.filter_cons,dA];by_cases hk:k=d
  ·subst hk
   simp only[beq_self_eq_true,Bool.not_true,Bool.false_eq_true,if_false];rw[nV];by_cases hs:s=k
   ·rw[if_pos hs,if_pos hs]
   ·rw[if_neg hs,if_neg hs,if_neg (fun e=>hs e.symm)]
  ·have:(k==d)=false:=beq_eq_false_iff_ne.2 hk
   simp only[this,Bool.not_false,if_true];rw[dA,nV];by_cases E2:k=s
   ·subst E2
    rw[if_pos rfl,if_pos rfl,if_neg hk]
   ·rw[if_neg E2,if_neg E2]
section
variable {P:Program} {E:Entry} {g g':Gh} {S S':St} {a:Act} {w w':World} {C:bw}
theorem R.sub(hR:R E g S a w)(Ei:∀s v,look s S'.env=some v→look s S.env=some v)(Ej:∀s v,look s S'.aU=some v→look s S.aU=some v)
  (ry:∀s v,look s S'.bg=some v→look s S.bg=some v) (yW:S'.aF=S.aF):R E g S' a w:=by
 have le:Le (S.cx g w) (S'.cx g w):=⟨Nat.le_refl _,fun _ _ _ _ h=>h,fun _ _=>Nat.le_refl _,by simp[St.cx,yW],fun _ _=>rfl⟩
 have lZ:∀v x,aZ (S.cx g w) v x→aZ (S'.cx g w) v x:=fun v x hx =>
  aZ.mono le hx fun d=>.inl ⟨rfl,rfl,fun k hk=>⟨k,ry d k hk,Nat.le_refl _,fun _=>⟨rfl,fun _ _=>⟨rfl,fun c _ h=>⟨c,h,rfl⟩⟩⟩⟩⟩
 refine⟨fun s v hs=>?_,fun id cs ho=>?_,fun f k b hf hb=>hR.bg f k b (ry f k hf) hb,yW ▸ hR.aF,hR.defers,hR.jh,yW ▸ hR.same⟩
 ·obtain⟨x,h1,h2⟩:=hR.env s v (Ei s v hs)
  exact⟨x,h1,lZ v x h2⟩
 ·rcases hR.aU id cs (Ej id cs ho) with h0 | ⟨h1,h2,h3,c,e,h4,fC,h5⟩
  ·exact .inl h0
  refine .inr ⟨h1,h2,h3,c,e,h4,fC,fun j v hj=>?_⟩;obtain⟨h6,y,h7,h8⟩:=h5 j v hj;exact⟨h6,y,h7,lZ v y h8⟩
structure nj(S' S:St):Prop where
 env:∀s v,look s S'.env=some v→look s S.env=some v
 aU:∀s v,look s S'.aU=some v→look s S.aU=some v
 bg:∀s v,look s S'.bg=some v→look s S.bg=some v
 aF:S'.aF=S.aF
theorem nj.refl(S:St):nj S S:=⟨fun _ _ h=>h,fun _ _ h=>h,fun _ _ h=>h,rfl⟩
theorem nj.trans{ER:St}(h:nj ER S')(k:nj S' S):nj ER S:=⟨fun s v e=>k.env s v (h.env s v e),fun s v e=>k.aU s v (h.aU s v e),fun s v e=>k.bg s v (h.bg s v e),h.aF.trans k.aF⟩
theorem nj.rel(h:nj S' S){v:V}{x:Value}(hx:aZ (S.cx g w) v x):aZ (S'.cx g w) v x :=
 have le:Le (S.cx g w) (S'.cx g w):=⟨Nat.le_refl _,fun _ _ _ _ h=>h,fun _ _=>Nat.le_refl _,by simp[St.cx,h.aF],fun _ _=>rfl⟩
 aZ.mono le hx fun d=>.inl ⟨rfl,rfl,fun k hk=>⟨k,h.bg d k hk,Nat.le_refl _,fun _=>⟨rfl,fun _ _=>⟨rfl,fun c _ h=>⟨c,h,rfl⟩⟩⟩⟩⟩
theorem nj.eG{d:Nat}(h:nj S' S)(hn:S.eG d):S'.eG d where
 env:=fun s v e=>hn.env s v (h.env s v e)
 aU:=fun s v e=>hn.aU s v (h.aU s v e)
 obj:=by
  cases hl:look d S'.aU with
  |none=>rfl
  |some cs=>rw[←h.aU d cs hl];exact hn.obj
 tok:=by
  cases hl:look d S'.bg with
  |none=>rfl
  |some k=>rw[←h.bg d k hl];exact hn.tok
theorem R.less(hR:R E g S a w)(h:nj S' S):R E g S' a w:=hR.sub h.env h.aU h.bg h.aF
theorem L5{s:Nat}:nj ({ S with env:=S.env.filter fun p => !(p.1==s) }:St) S:=by
 refine⟨fun k v e=>?_,fun _ _ e=>e,fun _ _ e=>e,rfl⟩;simp only[nV]at e;split at e
 ·cases e
 ·exact e
theorem H5(hR:R E g S a w){s n:Nat}{v:V}(hs:look s S.env=some v)(hz:∀x,aZ (S.cx g w) v x→la x):∃g',R E g' (S.share s n []) a w:=by
 let g':Gh:={ g with γ:=cS g.γ S.aF.length w.heap.size }
 have t:Touch E g S w g' S.bg (S.aF.length+1) w w.heap.size none none :=
  {os:=rfl,tape:=rfl,output:=rfl,size:=Nat.le_refl _,heap:=fun _ _ _=>rfl,m:=fun _ _=>rfl,ow:=fun _ _=>rfl,κ:=fun _ _=>rfl,cp:=fun _ _=>rfl,
   τ:=fun _ _=>rfl,T:=fun _ _=>rfl,γ:=fun i hi=>fR _ _ (by omega),eN:=Nat.le_succ _,
   γnew:=fun i h1 h2=>by
    have:i=S.aF.length:=by omega
    subst this;show _≤cS g.γ _ _ _;rw[dG];exact hR.same.size
   fresh:=.inl hR.same.size,ib:=fun _ _ h _=>absurd hR.same.size (Nat.not_le_of_lt h),lv:=fun i h=>hR.Cd h (Nat.le_succ _),jK:=fun _ _ _ hy=>hy,oV:=fun h=>absurd h (Nat.lt_irrefl _) }
 obtain⟨x,hx,hr⟩:=hR.env s _ hs;refine⟨g',R.Eh t hR rfl (by simp[St.share]) (fun i=>.inl (t.keeps hR (fun e=>by cases e) (fun e=>by cases e) (fun h=>absurd h (Nat.lt_irrefl _)))) (fun k u hk=>?_) (fun i cs ho=>.inl ⟨ho,(fun e=>by cases e),fun h=>absurd h (Nat.lt_irrefl _)⟩)
  (fun i k b hi hb=>.inl ⟨(fun e=>by cases e),fun h=>absurd h (Nat.lt_irrefl _)⟩) (fun i o ho h0=>?_)⟩
 ·replace hk:look k ((s,.dh S.aF.length n 0)::S.env)=some u:=hk
  rw[dA]at hk;split at hk
  ·rename_i e;subst e;cases hk;exact .inr ⟨x,hx,.uN _ _ (Nat.lt_succ_self _) (hz x hr)⟩
  ·exact .inl hk
 ·have ho:(S.aF++[aP.cells []])[i]?=some o:=ho
  rw[List.getElem?_append]at ho;split at ho
  ·exact .inl ⟨ho,fun h=>absurd h (Nat.lt_irrefl _)⟩
  ·exfalso
   cases hi:i-S.aF.length with
   |zero=>rw[hi]at ho;simp at ho;exact h0 ho.symm
   |succ k=>rw[hi]at ho;simp at ho
theorem R.L6(hR:R E g S a w){id n len cap:Nat}(hn:S.eG id)(cA:g.ow (g.κ id)=.obj id)(gf:E.w0.heap.size≤g.κ id)(hm:g.m (g.κ id)=0){c:Array Value}{e:TypeId}(hh:w.heap[g.κ id]?=some (.cells c e (0,0)))
  {x:Value} (hx:x=.slice (some ⟨g.κ id,0,none⟩) len cap) (eA:len≤cap) {us:List V} (nI:∀(j:Nat) (v:V),us[j]?=some v→v.plain=true∧∃y,c[j]?=some y∧fg w.heap g.m v y) :
  ∃g',R E g' { S with aF:=S.aF++[aP.cells us] } a w∧aZ (({ S with aF:=S.aF++[aP.cells us] }:St).cx g' w) (.dh S.aF.length n len) x ∧
   g'.m=g.m∧g'.κ=g.κ∧g'.cp=g.cp∧(∀b,b≠g.κ id→g'.ow b=g.ow b)∧∀v y,aZ (S.cx g w) v y→aZ (({ S with aF:=S.aF++[aP.cells us] }:St).cx g' w) v y:=by
 let g':Gh:={ g with γ:=cS g.γ S.aF.length (g.κ id),ow:=cS g.ow (g.κ id) (.aF S.aF.length) }
 have t:Touch E g S w g' S.bg (S.aF.length+1) w (g.κ id) none none :=
  {os:=rfl,tape:=rfl,output:=rfl,size:=Nat.le_refl _,heap:=fun _ _ _=>rfl,m:=fun _ _=>rfl,ow:=fun b hb=>fR _ _ hb,κ:=fun _ _=>rfl,cp:=fun _ _=>rfl,
   τ:=fun _ _=>rfl,T:=fun _ _=>rfl,γ:=fun i hi=>fR _ _ (by omega),eN:=Nat.le_succ _,
   γnew:=fun i h1 h2=>by
    have:i=S.aF.length:=by omega
    subst this;show _≤cS g.γ _ _ _;rw[dG];exact gf
   fresh:=.inl gf,ib:=fun _ _ h _=>absurd gf (Nat.not_le_of_lt h),lv:=fun i e=>by
    have e:cS g.ow (g.κ id) (.aF S.aF.length) (g.κ id)=.aF i:=e;rw[dG]at e;cases e;exact⟨hm,Nat.lt_succ_self _,fun h=>absurd gf (Nat.not_le_of_lt h)⟩
   jK:=fun _ _ _ hy=>hy,oV:=fun _=>Nat.le_refl _ }
 have xw:∀i,iU (S.cx g w) ⟨w.heap,g',S.aF.length+1,S.bg⟩ i:=fun i=>t.keeps hR (fun e=>by cases e) (fun e=>by cases e) (fun _ e=>by rw[cA]at e;cases e)
 have ei:us.length≤c.size:=by
  rcases Nat.lt_or_ge c.size us.length with h|h
  ·obtain⟨_,y,hy,_⟩:=nI c.size us[c.size] (List.getElem?_eq_getElem h)
   simp at hy
  ·exact h
 have lZ:(({ S with aF:=S.aF++[aP.cells us] }:St).cx g' w)=⟨w.heap,g',S.aF.length+1,S.bg⟩:=by simp[St.cx]
 refine⟨g',R.Eh t hR rfl (by simp) (fun i=>.inl (xw i)) (fun k u hk=>.inl hk)
  (fun i cs ho=>.inl ⟨ho,(fun e=>by cases e),fun _ e=>by rw[cA]at e;cases e;have:=hn.obj;rw[show look id S.aU=some cs from ho]at this;cases this⟩)
  (fun i k b hi hb=>.inl ⟨(fun e=>by cases e),fun _ e=>by rw[cA]at e;cases e⟩) (fun i o ho h0=>?_),?_,rfl,rfl,rfl,fun b hb=>fR _ _ hb,fun v y hv=>by rw[lZ];exact hv.mono t.le fun i=>.inl (xw i)⟩
 ·have ho:(S.aF++[aP.cells us])[i]?=some o:=ho
  rw[List.getElem?_append]at ho;split at ho
  ·exact .inl ⟨ho,fun _=>⟨fun e=>(by rw[cA]at e;cases e),fun _ e=>(by rw[cA]at e;cases e)⟩⟩
  ·rename_i bA
   have hi:i=S.aF.length:=by
    cases hi:i-S.aF.length with
    |zero=>omega
    |succ k=>rw[hi]at ho;simp at ho
   subst hi;simp at ho;subst ho;have hγ:g'.γ S.aF.length=g.κ id:=dG _ _ _;rw[hγ];have iX:∀(j:Nat) (v:V) (y:Value),us[j]?=some v→c[j]?=some y→v.plain=true∧fg w.heap g.m v y:=fun j v y hv hy=>by
    obtain⟨q1,y',q2,q3⟩:=nI j v hv;rw[hy]at q2;cases q2;exact⟨q1,q3⟩
   refine .inr ⟨dG _ _ _,⟨hm,c,e,hh,ei,fun j v y hv hy=>?_⟩,fun j n oB y hv hy=>?_⟩
   ·obtain⟨q1,q3⟩:=iX j v y hv hy
    exact⟨by cases v<;>simp_all[V.plain,V.cI],fun d=>sI (LM q1),.plain q3 (tH q1)⟩
   ·obtain⟨q1,_⟩:=nI j _ hv
    simp[V.plain]at q1
 ·rw[lZ,hx]
  have:(⟨w.heap,g',S.aF.length+1,S.bg⟩:Cx).g.γ S.aF.length=g.κ id:=dG _ _ _;rw[←this];exact .dh _ _ _ _ (Nat.lt_succ_self _) eA
end
end Go.Vm

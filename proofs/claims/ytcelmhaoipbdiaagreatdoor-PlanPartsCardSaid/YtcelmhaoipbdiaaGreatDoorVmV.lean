/- The value machine: states that say less; local objects become blocks that calls share. -/
import Derived.Test.YtcelmhaoipbdiaaGreatDoorVmU
namespace Go.Vm
set_option linter.all false
theorem mG{α:Type}{s d:Nat}:∀{l:List (Nat×α)},look s (l.filter fun p => !(p.1==d))=if s=d then none else look s l
 |[]=>by simp[look]
 |(k,v)::l=>by
  rw[Mh,dj];by_cases hk:k=d
  ·subst hk
   simp only[beq_self_eq_true,Bool.not_true,EE,if_false];rw[mG];by_cases hs:s=k
   ·rw[aP hs,aP hs]
   ·rw[aA hs,aA hs,aA (fun e=>hs e.symm)]
  ·have:(k==d)=false:=E6.2 hk
   simp only[this,Bool.not_false,if_true];rw[dj,mG];by_cases F9:k=s
   ·subst F9
    rw[aP rfl,aP rfl,aA hk]
   ·rw[aA F9,aA F9]
section
variable {P:Program} {E:Entry} {g g':Gh} {S S':St} {a:Act} {w w':World} {C:br}
theorem R.sub(hR:R E g S a w)(Fg:∀s v,look s S'.env=some v→look s S.env=some v)(Fh:∀s v,look s S'.aW=some v→look s S.aW=some v)
  (r7:∀s v,look s S'.bf=some v→look s S.bf=some v) (zP:S'.ay=S.ay):R E g S' a w:=by
 have le:Le (S.cx g w) (S'.cx g w):=⟨bR _,fun _ _ _ _ h=>h,fun _ _=>bR _,by simp[St.cx,zP],fun _ _=>rfl⟩
 have lY:∀v x,aZ (S.cx g w) v x→aZ (S'.cx g w) v x:=fun v x hx =>
  aZ.mono le hx fun d=>.inl ⟨rfl,rfl,fun k hk=>⟨k,r7 d k hk,bR _,fun _=>⟨rfl,fun _ _=>⟨rfl,fun c _ h=>⟨c,h,rfl⟩⟩⟩⟩⟩
 refine⟨fun s v hs=>?_,fun id cs ho=>?_,fun f k b hf hb=>hR.bf f k b (r7 f k hf) hb,zP ▸ hR.ay,hR.defers,hR.jg,zP ▸ hR.same⟩
 ·obtain⟨x,h1,h2⟩:=hR.env s v (Fg s v hs)
  exact⟨x,h1,lY v x h2⟩
 ·rcases hR.aW id cs (Fh id cs ho) with h0 | ⟨h1,h2,h3,c,e,h4,fJ,h5⟩
  ·exact .inl h0
  refine .inr ⟨h1,h2,h3,c,e,h4,fJ,fun j v hj=>?_⟩;obtain⟨h6,y,h7,h8⟩:=h5 j v hj;exact⟨h6,y,h7,lY v y h8⟩
structure nH(S' S:St):Prop where
 env:∀s v,look s S'.env=some v→look s S.env=some v
 aW:∀s v,look s S'.aW=some v→look s S.aW=some v
 bf:∀s v,look s S'.bf=some v→look s S.bf=some v
 ay:S'.ay=S.ay
theorem nH.refl(S:St):nH S S:=⟨fun _ _ h=>h,fun _ _ h=>h,fun _ _ h=>h,rfl⟩
theorem nH.trans{FW:St}(h:nH FW S')(k:nH S' S):nH FW S:=⟨fun s v e=>k.env s v (h.env s v e),fun s v e=>k.aW s v (h.aW s v e),fun s v e=>k.bf s v (h.bf s v e),h.ay.trans k.ay⟩
theorem nH.rel(h:nH S' S){v:V}{x:Value}(hx:aZ (S.cx g w) v x):aZ (S'.cx g w) v x :=
 have le:Le (S.cx g w) (S'.cx g w):=⟨bR _,fun _ _ _ _ h=>h,fun _ _=>bR _,by simp[St.cx,h.ay],fun _ _=>rfl⟩
 aZ.mono le hx fun d=>.inl ⟨rfl,rfl,fun k hk=>⟨k,h.bf d k hk,bR _,fun _=>⟨rfl,fun _ _=>⟨rfl,fun c _ h=>⟨c,h,rfl⟩⟩⟩⟩⟩
theorem nH.eM{d:Nat}(h:nH S' S)(hn:S.eM d):S'.eM d where
 env:=fun s v e=>hn.env s v (h.env s v e)
 aW:=fun s v e=>hn.aW s v (h.aW s v e)
 obj:=by
  cases hl:look d S'.aW with
  |none=>rfl
  |some cs=>rw[←h.aW d cs hl];exact hn.obj
 tok:=by
  cases hl:look d S'.bf with
  |none=>rfl
  |some k=>rw[←h.bf d k hl];exact hn.tok
theorem R.less(hR:R E g S a w)(h:nH S' S):R E g S' a w:=hR.sub h.env h.aW h.bf h.ay
theorem NN{s:Nat}:nH ({ S with env:=S.env.filter fun p => !(p.1==s) }:St) S:=by
 refine⟨fun k v e=>?_,fun _ _ e=>e,fun _ _ e=>e,rfl⟩;simp only[mG]at e;split at e
 ·cases e
 ·exact e
theorem Jy(hR:R E g S a w){s n:Nat}{v:V}(hs:look s S.env=some v)(hz:∀x,aZ (S.cx g w) v x→kX x):∃g',R E g' (S.share s n []) a w:=by
 let g':Gh:={ g with γ:=cU g.γ S.ay.length w.heap.size }
 have t:Touch E g S w g' S.bf (S.ay.length+1) w w.heap.size none none :=
  {os:=rfl,tape:=rfl,output:=rfl,size:=bR _,heap:=fun _ _ _=>rfl,m:=fun _ _=>rfl,ow:=fun _ _=>rfl,κ:=fun _ _=>rfl,cp:=fun _ _=>rfl,
   τ:=fun _ _=>rfl,T:=fun _ _=>rfl,γ:=fun i hi=>fN _ _ (by omega),eD:=IF _,
   γnew:=fun i h1 h2=>by
    have:i=S.ay.length:=by omega
    subst this;show _≤cU g.γ _ _ _;rw[dF];exact hR.same.size
   fresh:=.inl hR.same.size,hY:=fun _ _ h _=>absurd hR.same.size (A1 h),lv:=fun i h=>hR.CO h (IF _),jJ:=fun _ _ _ hy=>hy,pC:=fun h=>absurd h (gO _) }
 obtain⟨x,hx,hr⟩:=hR.env s _ hs;refine⟨g',R.Ff t hR rfl (by simp[St.share]) (fun i=>.inl (t.keeps hR (fun e=>by cases e) (fun e=>by cases e) (fun h=>absurd h (gO _)))) (fun k u hk=>?_) (fun i cs ho=>.inl ⟨ho,(fun e=>by cases e),fun h=>absurd h (gO _)⟩)
  (fun i k b hi hb=>.inl ⟨(fun e=>by cases e),fun h=>absurd h (gO _)⟩) (fun i o ho h0=>?_)⟩
 ·replace hk:look k ((s,.da S.ay.length n 0)::S.env)=some u:=hk
  rw[dj]at hk;split at hk
  ·rename_i e;subst e;cases hk;exact .inr ⟨x,hx,.s8 _ _ (E0 _) (hz x hr)⟩
  ·exact .inl hk
 ·have ho:(S.ay++[aT.cells []])[i]?=some o:=ho
  rw[pj]at ho;split at ho
  ·exact .inl ⟨ho,fun h=>absurd h (gO _)⟩
  ·exfalso
   cases hi:i-S.ay.length with
   |zero=>rw[hi]at ho;simp at ho;exact h0 ho.symm
   |succ k=>rw[hi]at ho;simp at ho
theorem R.NO(hR:R E g S a w){id n len cap:Nat}(hn:S.eM id)(cj:g.ow (g.κ id)=.obj id)(fU:E.w0.heap.size≤g.κ id)(hm:g.m (g.κ id)=0){c:Array Value}{e:TypeId}(hh:w.heap[g.κ id]?=some (.cells c e (0,0)))
  {x:Value} (hx:x=.slice (some ⟨g.κ id,0,none⟩) len cap) (en:len≤cap) {us:List V} (oa:∀(j:Nat) (v:V),us[j]?=some v→v.plain=true∧∃y,c[j]?=some y∧fa w.heap g.m v y) :
  ∃g',R E g' { S with ay:=S.ay++[aT.cells us] } a w∧aZ (({ S with ay:=S.ay++[aT.cells us] }:St).cx g' w) (.da S.ay.length n len) x ∧
   g'.m=g.m∧g'.κ=g.κ∧g'.cp=g.cp∧(∀b,b≠g.κ id→g'.ow b=g.ow b)∧∀v y,aZ (S.cx g w) v y→aZ (({ S with ay:=S.ay++[aT.cells us] }:St).cx g' w) v y:=by
 let g':Gh:={ g with γ:=cU g.γ S.ay.length (g.κ id),ow:=cU g.ow (g.κ id) (.ay S.ay.length) }
 have t:Touch E g S w g' S.bf (S.ay.length+1) w (g.κ id) none none :=
  {os:=rfl,tape:=rfl,output:=rfl,size:=bR _,heap:=fun _ _ _=>rfl,m:=fun _ _=>rfl,ow:=fun b hb=>fN _ _ hb,κ:=fun _ _=>rfl,cp:=fun _ _=>rfl,
   τ:=fun _ _=>rfl,T:=fun _ _=>rfl,γ:=fun i hi=>fN _ _ (by omega),eD:=IF _,
   γnew:=fun i h1 h2=>by
    have:i=S.ay.length:=by omega
    subst this;show _≤cU g.γ _ _ _;rw[dF];exact fU
   fresh:=.inl fU,hY:=fun _ _ h _=>absurd fU (A1 h),lv:=fun i e=>by
    have e:cU g.ow (g.κ id) (.ay S.ay.length) (g.κ id)=.ay i:=e;rw[dF]at e;cases e;exact⟨hm,E0 _,fun h=>absurd fU (A1 h)⟩
   jJ:=fun _ _ _ hy=>hy,pC:=fun _=>bR _ }
 have xZ:∀i,iM (S.cx g w) ⟨w.heap,g',S.ay.length+1,S.bf⟩ i:=fun i=>t.keeps hR (fun e=>by cases e) (fun e=>by cases e) (fun _ e=>by rw[cj]at e;cases e)
 have eB:us.length≤c.size:=by
  rcases cF c.size us.length with h|h
  ·obtain⟨_,y,hy,_⟩:=oa c.size us[c.size] (gG h)
   simp at hy
  ·exact h
 have lY:(({ S with ay:=S.ay++[aT.cells us] }:St).cx g' w)=⟨w.heap,g',S.ay.length+1,S.bf⟩:=by simp[St.cx]
 refine⟨g',R.Ff t hR rfl (by simp) (fun i=>.inl (xZ i)) (fun k u hk=>.inl hk)
  (fun i cs ho=>.inl ⟨ho,(fun e=>by cases e),fun _ e=>by rw[cj]at e;cases e;have:=hn.obj;rw[show look id S.aW=some cs from ho]at this;cases this⟩)
  (fun i k b hi hb=>.inl ⟨(fun e=>by cases e),fun _ e=>by rw[cj]at e;cases e⟩) (fun i o ho h0=>?_),?_,rfl,rfl,rfl,fun b hb=>fN _ _ hb,fun v y hv=>by rw[lY];exact hv.mono t.le fun i=>.inl (xZ i)⟩
 ·have ho:(S.ay++[aT.cells us])[i]?=some o:=ho
  rw[pj]at ho;split at ho
  ·exact .inl ⟨ho,fun _=>⟨fun e=>(by rw[cj]at e;cases e),fun _ e=>(by rw[cj]at e;cases e)⟩⟩
  ·rename_i bB
   have hi:i=S.ay.length:=by
    cases hi:i-S.ay.length with
    |zero=>omega
    |succ k=>rw[hi]at ho;simp at ho
   subst hi;simp at ho;subst ho;have hγ:g'.γ S.ay.length=g.κ id:=dF _ _ _;rw[hγ];have iX:∀(j:Nat) (v:V) (y:Value),us[j]?=some v→c[j]?=some y→v.plain=true∧fa w.heap g.m v y:=fun j v y hv hy=>by
    obtain⟨q1,y',q2,q3⟩:=oa j v hv;rw[hy]at q2;cases q2;exact⟨q1,q3⟩
   refine .inr ⟨dF _ _ _,⟨hm,c,e,hh,eB,fun j v y hv hy=>?_⟩,fun j n oT y hv hy=>?_⟩
   ·obtain⟨q1,q3⟩:=iX j v y hv hy
    exact⟨by cases v<;>simp_all[V.plain,V.cI],fun d=>s9 (Ns q1),.plain q3 (tc q1)⟩
   ·obtain⟨q1,_⟩:=oa j _ hv
    simp[V.plain]at q1
 ·rw[lY,hx]
  have:(⟨w.heap,g',S.ay.length+1,S.bf⟩:Cx).g.γ S.ay.length=g.κ id:=dF _ _ _;rw[←this];exact .da _ _ _ _ (E0 _) en
end
end Go.Vm

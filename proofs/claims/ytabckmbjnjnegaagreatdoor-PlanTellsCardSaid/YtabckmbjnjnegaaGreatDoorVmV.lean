/- - -/
import Derived.Test.YtabckmbjnjnegaaGreatDoorVmU
namespace Go.Vm
set_option linter.all false
def pd{α:Type}{s d:Nat}:∀{l:List (Nat×α)},look s (l.filter λp => !(p.1==d))=if s=d then none else look s l
 |[]=>by simp[look]
 |(k,v)::l=>by
  rw[M5,dO];by_cases hk:k=d
  .subst hk
   simp only[beq_self_eq_true,RG,Gk,if_false];rw[pd];by_cases hs:s=k
   .rw[aJ hs,aJ hs]
   .rw[ax hs,ax hs,ax (λe=>hs e.symm)]
  .have:(k==d)=false:=tC.2 hk
   simp only[this,RF,if_true];rw[dO,pd];by_cases Kq:k=s
   .subst Kq
    rw[aJ rfl,aJ rfl,ax hk]
   .rw[ax Kq,ax Kq]
section
variable {P:Program} {E:Entry} {g g':Gh} {S S':St} {a:Act} {w w':World} {C:bI}
def R.sub(hR:R E g S a w)(JC:∀s v,look s S'.env=some v->look s S.env=some v)(JD:∀s v,look s S'.aY=some v->look s S.aY=some v)
  (vB:∀s v,look s S'.bo=some v->look s S.bo=some v) (C0:S'.aC=S.aC):R E g S' a w:=by
 have le:Le (S.cx g w) (S'.cx g w):=⟨b8 _,λ_ _ _ _ h=>h,λ_ _=>b8 _,by simp[St.cx,C0],λ_ _=>rfl⟩
 have oB:∀v x,bh (S.cx g w) v x->bh (S'.cx g w) v x:=λv x hx =>
  bh.mono le hx λd=>.inl ⟨rfl,rfl,λk hk=>⟨k,vB d k hk,b8 _,λ_=>⟨rfl,λ_ _=>⟨rfl,λc _ h=>⟨c,h,rfl⟩⟩⟩⟩⟩
 refine⟨λs v hs=>?_,λid cs ho=>?_,λf k b hf hb=>hR.bo f k b (vB f k hf) hb,C0 ▸ hR.aC,hR.defers,hR.kr,C0 ▸ hR.same⟩
 .obtain⟨x,h1,h2⟩:=hR.env s v (JC s v hs)
  exact⟨x,h1,oB v x h2⟩
 .rcases hR.aY id cs (JD id cs ho) with h0 | ⟨h1,h2,h3,c,e,h4,gM,h5⟩
  .exact .inl h0
  refine .inr ⟨h1,h2,h3,c,e,h4,gM,λj v hj=>?_⟩;obtain⟨h6,y,h7,h8⟩:=h5 j v hj;exact⟨h6,y,h7,oB v y h8⟩
structure qp(S' S:St):Prop where
 env:∀s v,look s S'.env=some v->look s S.env=some v
 aY:∀s v,look s S'.aY=some v->look s S.aY=some v
 bo:∀s v,look s S'.bo=some v->look s S.bo=some v
 aC:S'.aC=S.aC
def qp.refl(S:St):qp S S:=⟨λ_ _ h=>h,λ_ _ h=>h,λ_ _ h=>h,rfl⟩
def qp.trans{Kf:St}(h:qp Kf S')(k:qp S' S):qp Kf S:=⟨λs v e=>k.env s v (h.env s v e),λs v e=>k.aY s v (h.aY s v e),λs v e=>k.bo s v (h.bo s v e),h.aC.trans k.aC⟩
variable{x:Value}
def qp.rel(h:qp S' S){v:V}(hx:bh (S.cx g w) v x):bh (S'.cx g w) v x :=
 have le:Le (S.cx g w) (S'.cx g w):=⟨b8 _,λ_ _ _ _ h=>h,λ_ _=>b8 _,by simp[St.cx,h.aC],λ_ _=>rfl⟩
 bh.mono le hx λd=>.inl ⟨rfl,rfl,λk hk=>⟨k,h.bo d k hk,b8 _,λ_=>⟨rfl,λ_ _=>⟨rfl,λc _ h=>⟨c,h,rfl⟩⟩⟩⟩⟩
def qp.fa{d:Nat}(h:qp S' S)(hn:S.fa d):S'.fa d where
 env:=λs v e=>hn.env s v (h.env s v e)
 aY:=λs v e=>hn.aY s v (h.aY s v e)
 obj:=by
  cases hl:look d S'.aY with
  |none=>rfl
  |some cs=>rw[<-h.aY d cs hl];exact hn.obj
 tok:=by
  cases hl:look d S'.bo with
  |none=>rfl
  |some k=>rw[<-h.bo d k hl];exact hn.tok
def R.less(hR:R E g S a w)(h:qp S' S):R E g S' a w:=hR.sub h.env h.aY h.bo h.aC
variable{s:Nat}
def Tw:qp ({ S with env:=S.env.filter λp => !(p.1==s) }:St) S:=by
 refine⟨λk v e=>?_,λ_ _ e=>e,λ_ _ e=>e,rfl⟩;simp only[pd]at e;split at e
 .cases e
 .exact e
variable{n:Nat}
def Od(hR:R E g S a w){v:V}(hs:look s S.env=some v)(hz:∀x,bh (S.cx g w) v x->nn x):∃g',R E g' (S.share s n []) a w:=by
 let g':Gh:={ g with γ:=du g.γ S.aC.length w.heap.size }
 have t:Touch E g S w g' S.bo (S.aC.length+1) w w.heap.size none none :=
  {os:=rfl,tape:=rfl,output:=rfl,size:=b8 _,heap:=λ_ _ _=>rfl,m:=λ_ _=>rfl,ow:=λ_ _=>rfl,κ:=λ_ _=>rfl,cp:=λ_ _=>rfl,
   τ:=λ_ _=>rfl,T:=λ_ _=>rfl,γ:=λi hi=>g9 _ _ (by omega),eZ:=Ng _,
   γnew:=λi h1 h2=>by
    have:i=S.aC.length:=by omega
    subst this;show _<=du g.γ _ _ _;rw[ea];exact hR.same.size
   fresh:=.inl hR.same.size,jw:=λ_ _ h _=>absurd hR.same.size (Ep h),lv:=λi h=>hR.GK h (Ng _),mM:=λ_ _ _ hy=>hy,sO:=λh=>absurd h (iX _) }
 obtain⟨x,hx,hr⟩:=hR.env s _ hs;refine⟨g',R.JB t hR rfl (by simp[St.share]) (λi=>.inl (t.keeps hR (λe=>by cases e) (λe=>by cases e) (λh=>absurd h (iX _)))) (λk u hk=>?_) (λi cs ho=>.inl ⟨ho,(λe=>by cases e),λh=>absurd h (iX _)⟩)
  (λi k b hi hb=>.inl ⟨(λe=>by cases e),λh=>absurd h (iX _)⟩) (λi o ho h0=>?_)⟩
 .replace hk:look k ((s,.cO S.aC.length n 0)::S.env)=some u:=hk
  rw[dO]at hk;split at hk
  next e=>subst e;cases hk;exact .inr ⟨x,hx,.wD _ _ (Jr _) (hz x hr)⟩
  .exact .inl hk
 .have ho:(S.aC++[aM.cells []])[i]?=some o:=ho
  rw[rP]at ho;split at ho
  .exact .inl ⟨ho,λh=>absurd h (iX _)⟩
  .exfalso
   cases hi:i-S.aC.length with
   |zero=>rw[hi]at ho;simp at ho;exact h0 ho.symm
   |succ k=>rw[hi]at ho;simp at ho
def R.Tx(hR:R E g S a w){id len cap:Nat}(hn:S.fa id)(cJ:g.ow (g.κ id)=.obj id)(hH:E.w0.heap.size<=g.κ id)(hm:g.m (g.κ id)=0){c:Array Value}{e:TypeId}(hh:w.heap[g.κ id]?=some (.cells c e (0,0))) (hx:x=.slice (some ⟨g.κ id,0,none⟩) len cap) (eM:len<=cap) {us:List V} (qN:∀(j:Nat) (v:V),us[j]?=some v->v.plain=true/\∃y,c[j]?=some y/\fK w.heap g.m v y) :
  ∃g',R E g' { S with aC:=S.aC++[aM.cells us] } a w/\bh (({ S with aC:=S.aC++[aM.cells us] }:St).cx g' w) (.cO S.aC.length n len) x /\
   g'.m=g.m/\g'.κ=g.κ/\g'.cp=g.cp/\(∀b,b≠g.κ id->g'.ow b=g.ow b)/\∀v y,bh (S.cx g w) v y->bh (({ S with aC:=S.aC++[aM.cells us] }:St).cx g' w) v y:=by
 let g':Gh:={ g with γ:=du g.γ S.aC.length (g.κ id),ow:=du g.ow (g.κ id) (.aC S.aC.length) }
 have t:Touch E g S w g' S.bo (S.aC.length+1) w (g.κ id) none none :=
  {os:=rfl,tape:=rfl,output:=rfl,size:=b8 _,heap:=λ_ _ _=>rfl,m:=λ_ _=>rfl,ow:=λb hb=>g9 _ _ hb,κ:=λ_ _=>rfl,cp:=λ_ _=>rfl,
   τ:=λ_ _=>rfl,T:=λ_ _=>rfl,γ:=λi hi=>g9 _ _ (by omega),eZ:=Ng _,
   γnew:=λi h1 h2=>by
    have:i=S.aC.length:=by omega
    subst this;show _<=du g.γ _ _ _;rw[ea];exact hH
   fresh:=.inl hH,jw:=λ_ _ h _=>absurd hH (Ep h),lv:=λi e=>by
    have e:du g.ow (g.κ id) (.aC S.aC.length) (g.κ id)=.aC i:=e;rw[ea]at e;cases e;exact⟨hm,Jr _,λh=>absurd hH (Ep h)⟩
   mM:=λ_ _ _ hy=>hy,sO:=λ_=>b8 _ }
 have zb:∀i,ke (S.cx g w) ⟨w.heap,g',S.aC.length+1,S.bo⟩ i:=λi=>t.keeps hR (λe=>by cases e) (λe=>by cases e) (λ_ e=>by rw[cJ]at e;cases e)
 have eR:us.length<=c.size:=by
  rcases cS c.size us.length with h|h
  .obtain⟨_,y,hy,_⟩:=qN c.size us[c.size] (eV h)
   simp at hy
  .exact h
 have oB:(({ S with aC:=S.aC++[aM.cells us] }:St).cx g' w)=⟨w.heap,g',S.aC.length+1,S.bo⟩:=by simp[St.cx]
 refine⟨g',R.JB t hR rfl (by simp) (λi=>.inl (zb i)) (λk u hk=>.inl hk)
  (λi cs ho=>.inl ⟨ho,(λe=>by cases e),λ_ e=>by rw[cJ]at e;cases e;have:=hn.obj;rw[show look id S.aY=some cs from ho]at this;cases this⟩)
  (λi k b hi hb=>.inl ⟨(λe=>by cases e),λ_ e=>by rw[cJ]at e;cases e⟩) (λi o ho h0=>?_),?_,rfl,rfl,rfl,λb hb=>g9 _ _ hb,λv y hv=>by rw[oB];exact hv.mono t.le λi=>.inl (zb i)⟩
 .have ho:(S.aC++[aM.cells us])[i]?=some o:=ho
  rw[rP]at ho;split at ho
  .exact .inl ⟨ho,λ_=>⟨λe=>(by rw[cJ]at e;cases e),λ_ e=>(by rw[cJ]at e;cases e)⟩⟩
  next bJ=>
   have hi:i=S.aC.length:=by
    cases hi:i-S.aC.length with
    |zero=>omega
    |succ k=>rw[hi]at ho;simp at ho
   subst hi;simp at ho;subst ho;have hγ:g'.γ S.aC.length=g.κ id:=ea _ _ _;rw[hγ];have ky:∀(j:Nat) (v:V) (y:Value),us[j]?=some v->c[j]?=some y->v.plain=true/\fK w.heap g.m v y:=λj v y hv hy=>by
    obtain⟨q1,y',q2,q3⟩:=qN j v hv;rw[hy]at q2;cases q2;exact⟨q1,q3⟩
   refine .inr ⟨ea _ _ _,⟨hm,c,e,hh,eR,λj v y hv hy=>?_⟩,λj n sf y hv hy=>?_⟩
   .obtain⟨q1,q3⟩:=ky j v y hv hy
    exact⟨by cases v<;>simp_all[V.plain,V.c5],λd=>wE (Tc q1),.plain q3 (wG q1)⟩
   .obtain⟨q1,_⟩:=qN j _ hv
    simp[V.plain]at q1
 .rw[oB,hx]
  have:(⟨w.heap,g',S.aC.length+1,S.bo⟩:Cx).g.γ S.aC.length=g.κ id:=ea _ _ _;rw[<-this];exact .cO _ _ _ _ (Jr _) eM
end

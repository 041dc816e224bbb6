/- The value machine, 9: calls. -/
import Derived.Test.YtmppfkgfnnebeaaGreatDoorVm8
import Derived.Defers
namespace Go.Vm
set_option linter.all false
def V.gf:V→List V
 |.tuple vs=>vs
 |.agg cs=>cs
 |v=>[v]
def uu(r:V)(us:List V):V :=
 match r with
 |.tuple _=>.tuple us
 |.agg _=>.agg us
 |_=>us.headD .undef
def Bt(r:V):V:=uu r (r.gf.map strip)
def HH(r:V)(x:Value)(ys:List Value):Prop :=
 match r with
 |.tuple _=>x=.tuple ys.toArray
 |.agg _=>x=.agg ys.toArray
 |_=>ys=[x]
def EI(X:Cx)(base:Nat)(O:Nat→Prop)(p:Nat)(v:V)(x:Value):Prop :=
 ∀f n es,v=.slice (some f) n es→(es=[]∧lL x) ∨
  ∃b off cap c e,x=.slice (some ⟨b,off,none⟩) es.length cap∧(base≤b∨O b)∧X.g.ow b=.tok p∧X.g.m b=off+es.length*n∧X.h[b]?=some (.cells c e (0,0))∧off+cap*n≤c.size∧off=0∧0<es.length
def kC(g:Gh)(b:Nat):Prop:=∃p q,g.ow b=.cell p q
def yC(X:Cx)(base:Nat)(O:Nat→Prop)(r:V)(x:Value):Prop :=
 ∃ys,HH r x ys∧ys.length=r.gf.length∧∀(p:Nat) (v:V) (y:Value),r.gf[p]?=some v→ys[p]?=some y→bb X (strip v) y∧(∀d,(strip v).cq d=false)∧EI X base O p v y
structure Ext(w:World)(g:Gh)(N:Nat)(w':World)(g':Gh)(N':Nat):Prop where
 os:w'.os=w.os
 tape:w'.tape=w.tape
 output:w'.output=w.output
 size:w.heap.size≤w'.heap.size
 eK:N≤N'
 γ:∀i,i<N→g'.γ i=g.γ i
 γnew:∀i,N≤i→i<N'→w.heap.size≤g'.γ i
 kA:∀b,b<w.heap.size→(∀i,i<N→g.ow b≠.aA i)→¬ kC g b→w'.heap[b]?=w.heap[b]?∧g'.m b=g.m b
 grow:∀b,b<w.heap.size→kC g b→(∀o y,o<g.m b→cellAt w.heap b o=some y→cellAt w'.heap b o=some y)∧g.m b≤g'.m b
 iq:∀b p q,b<w.heap.size→g'.ow b=.cell p q→kC g b
 lv:∀b i,g'.ow b=.aA i→b<w.heap.size→g.ow b=.aA i∧i<N
theorem Ext.le{w w':World}{g g':Gh}{N N':Nat}(h:Ext w g N w' g' N')(hz:∀b i,g.ow b=.aA i→g.m b=0):Le ⟨w.heap,g,N,[]⟩ ⟨w'.heap,g',N',[]⟩ where
 size:=h.size
 cells:=fun b o y ho hc=>by
  have hb:=A8 hc;by_cases h1:kC g b
  ·exact(h.grow b hb h1).1 o y ho hc
  ·by_cases h2:∃i,g.ow b=.aA i
   ·obtain⟨i,h2⟩:=h2
    have:=hz b i h2;exact absurd ho (by show ¬ o<g.m b;omega)
   ·exact(tn (h.kA b hb (fun i _ h=>h2 ⟨i,h⟩) h1).1 o).trans hc
 m:=fun b hb=>by
  by_cases h1:kC g b
  ·exact(h.grow b hb h1).2
  ·by_cases h2:∃i,g.ow b=.aA i
   ·obtain⟨i,h2⟩:=h2
    have:=hz b i h2;show g.m b≤_;omega
   ·exact u6 (h.kA b hb (fun i _ h=>h2 ⟨i,h⟩) h1).2.symm
 eK:=h.eK
 γ:=h.γ
def WM:Code→Bool
 |.seq (.region _ ops _) _=>match ops.toList with
  |[_,o]=>(match o.op with | .defer _=>true|_=>false)
  |_=>false
 |_=>false
def HI(P:Program)(f:FuncId):Bool:=jq f==f &&
 match P.funcs[f]? with
 |some fn=>match fn.body with
  |some c => !WM c
  |none=>false
 |none=>false
structure vw(P:Program)(T:Pk)(f:FuncId)(args:List V)(G:List aS)(r:V)(G':List aS):Prop where
 fn:∃fn,P.funcs[jq f]?=some fn∧fn.body.isSome=true∧(fn.name== "runtime.NumGoroutine")=false
 ret:∀d,(Bt r).cq d=false
 run:∀(w:World) (g:Gh) (xs:List Value),oU T w.heap g.m→tp w.heap g G→args.length=xs.length →
  (∀(i:Nat) (v:V) (x:Value),args[i]?=some v→xs[i]?=some x→bb ⟨w.heap,g,G.length,[]⟩ v x) →
  Calls P (jq f) xs.toArray w fun e w'=>∃x g',e=.returned x∧Ext w g G.length w' g' G'.length∧tp w'.heap g' G'∧yC ⟨w'.heap,g',G'.length,[]⟩ w.heap.size (kC g) r x
 Pf:HI P (jq f)=true→∀(u:FrameMode) (w:World) (g:Gh) (xs:List Value),oU T w.heap g.m→tp w.heap g G→args.length=xs.length →
  (∀(i:Nat) (v:V) (x:Value),args[i]?=some v→xs[i]?=some x→bb ⟨w.heap,g,G.length,[]⟩ v x) →
  CallsD P (jq f) xs.toArray u w fun e u' w'=>u'=u∧∃x g',e=.returned x∧Ext w g G.length w' g' G'.length∧tp w'.heap g' G'∧yC ⟨w'.heap,g',G'.length,[]⟩ w.heap.size (kC g) r x
section
variable {P:Program} {E:Entry} {g g':Gh} {S S':St} {a:Act} {w w':World}
theorem WN{X:Cx}{sh:Sh}{v u:V}{y:Value}(h:A3 sh v=some u)(hr:bb X v y):bb ⟨X.h,X.g,X.N,[]⟩ u y:=by
 unfold A3 at h;split at h
 ·split at h
  ·rename_i cs hg
   cases h;obtain⟨xs,e,hl,hx⟩:=qS hr;subst e;obtain⟨e1,e2⟩:=O4 hg;refine .agg _ _ (by omega) (fun i v x hv mr=>?_)
   obtain⟨z,s,hz,Pg⟩:=O5 hg i v hv;exact(ED Pg (hx i z x hz mr)).2.2.1
  ·cases h
 ·split at h
  ·exact(ED h hr).2.2.1
  ·cases h
theorem WO(hR:R E g S a w):∀{args:List (Sh×bw)} {ops:List Operand} {vs:List V},(args.length=ops.length∧∀(i:Nat) sh x y,args[i]?=some (sh,x)→ops[i]?=some y→bU y x=true)→nh S args=some vs →
  vs.length=ops.length∧∀(i:Nat) (v:V) (x:Value),vs[i]?=some v→(ops.map a.eval)[i]?=some x→bb ⟨w.heap,g,S.aA.length,[]⟩ v x
 |[],[],vs,_,h=>by simp[nh]at h;subst h;simp
 |[],_::_,_,h,_=>by simp at h
 |_::_,[],_,h,_=>by simp at h
 |(sh,x)::args,y::ops,vs,bu,h=>by
  simp only[nh]at h;split at h
  ·rename_i v hv
   split at h
   ·rename_i u us h1 h2
    cases h;have hr:=WN h1 (cY hR (bu.2 0 sh x y (by simp) (by simp)) hv)
    obtain⟨e,hx⟩:=WO hR (args:=args) (ops:=ops) ⟨by simpa using bu.1,fun i zL x' y' hi hj=>bu.2 (i+1) zL x' y' (by simpa using hi) (by simpa using hj)⟩ h2
    refine⟨by simp[e],fun i z zz hz tx=>?_⟩
    cases i with
    |zero=>simp at hz tx;subst hz;subst tx;exact hr
    |succ i=>exact hx i z zz (by simpa using hz) (by simpa using tx)
   ·cases h
  ·cases h
theorem aiM{h:Array Obj}{m:Nat→Nat}{tok:Option Nat}{n:Nat}{es:List (List V)}{x:Value}(hr:fg h m (.slice none n es) x):fg h m (.slice tok n es) x:=by
 cases hr with
 |nil=>exact .nil _ _
 |empty _ _ a cap=>exact .empty _ _ a cap
 |slice _ _ _ b off cap ys hb eo iH hc hv hp hm=>exact .slice tok n es b off cap ys hb eo iH hc hv hp hm
theorem Ph(reg:List (Nat×Nat)):∀(vs:List V) (i:Nat),(cX reg i vs).1.length=vs.length
 |[],i=>rfl
 |v::vs,i=>by
  have:=Ph reg vs (i+1);simp only[cX];split
  ·split<;>simp[this]
  ·simp[this]
theorem HJ(reg:List (Nat×Nat)):∀(vs:List V) (i k:Nat) (u:V),(cX reg i vs).1[k]?=some u→∃v,vs[k]?=some v ∧
  ((∃t n es f,v=.slice (some t) n es∧look (i+k) reg=some f∧u=.slice (some f) n es)∨u=strip v)
 |[],i,k,u,h=>by simp[cX]at h
 |v::vs,i,k,u,h=>by
  simp only[cX]at h;split at h
  ·rename_i t n es
   split at h
   ·rename_i f hf
    cases k with
    |zero=>simp at h;subst h;exact⟨.slice (some t) n es,by simp,.inl ⟨t,n,es,f,rfl,by simpa using hf,rfl⟩⟩
    |succ k =>
     obtain⟨z,hz,hc⟩:=HJ reg vs (i+1) k u (by simpa using h)
     refine⟨z,by simpa using hz,?_⟩
     rw[show i+(k+1)=i+1+k from by omega];exact hc
   ·cases k with
    |zero=>simp at h;subst h;exact⟨.slice (some t) n es,by simp,.inr rfl⟩
    |succ k =>
     obtain⟨z,hz,hc⟩:=HJ reg vs (i+1) k u (by simpa using h)
     refine⟨z,by simpa using hz,?_⟩
     rw[show i+(k+1)=i+1+k from by omega];exact hc
  ·cases k with
   |zero=>simp at h;subst h;exact⟨_,by simp,.inr rfl⟩
   |succ k =>
    obtain⟨z,hz,hc⟩:=HJ reg vs (i+1) k u (by simpa using h)
    refine⟨z,by simpa using hz,?_⟩
    rw[show i+(k+1)=i+1+k from by omega];exact hc
theorem EK(reg:List (Nat×Nat)):∀(vs:List V) (i:Nat) (f k:Nat),(f,k)∈(cX reg i vs).2→∃p t n es,vs[p]?=some (.slice (some t) n es)∧look (i+p) reg=some f∧k=es.length
 |[],i,f,k,h=>by simp[cX]at h
 |v::vs,i,f,k,h=>by
  have shift:(∃p t n es,vs[p]?=some (.slice (some t) n es)∧look (i+1+p) reg=some f∧k=es.length)→∃p t n es,(v::vs)[p]?=some (.slice (some t) n es)∧look (i+p) reg=some f∧k=es.length:=by
   rintro⟨p,t,n,es,h1,h2,h3⟩;exact⟨p+1,t,n,es,by simpa using h1,by rw[show i+(p+1)=i+1+p from by omega];exact h2,h3⟩
  simp only[cX]at h;split at h
  ·rename_i t n es
   split at h
   ·rename_i f' hf
    rcases jB.1 h with h|h
    ·cases h;exact⟨0,t,n,es,by simp,by simpa using hf,rfl⟩
    ·exact shift (EK reg vs (i+1) f k h)
   ·exact shift (EK reg vs (i+1) f k h)
  ·exact shift (EK reg vs (i+1) f k h)
theorem vx{α:Type}{s:Nat}{v:α}:∀{l:List (Nat×α)},look s l=some v→(s,v)∈l
 |[],h=>by simp[look]at h
 |(k,u)::r,h=>by
  rw[dz]at h;split at h
  ·rename_i e;cases h;rw[e];exact xW
  ·exact Cn _ (vx h)
theorem zM{α:Type}{s:Nat}:∀{l r:List (Nat×α)},look s (l++r)=match look s l with|some v=>some v|none=>look s r
 |[],r=>rfl
 |(k,u)::l,r=>by
  rw[ud,dz,dz];split
  ·rfl
  ·exact zM
def CT(reg:List (Nat×Nat)):List Nat:=reg.map (·.2)
def inj(reg:List (Nat×Nat)):Bool:=(CT reg).Nodup&&(reg.map (·.1)).Nodup
theorem aiN{reg:List (Nat×Nat)}(h1:(reg.map (·.2)).Nodup){p q f:Nat}(hp:(p,f)∈reg)(hq:(q,f)∈reg):p=q:=by
 induction reg with
 |nil=>cases hp
 |cons x r ih =>
  simp only[oq,List.nodup_cons]at h1;rcases jB.1 hp with e1|e1<;>rcases jB.1 hq with e2|e2
  ·rw[←e1]at e2;cases e2;rfl
  ·exact absurd (kP.2 ⟨_,e2,rfl⟩) (by rw[←e1]at h1;exact h1.1)
  ·exact absurd (kP.2 ⟨_,e1,rfl⟩) (by rw[←e2]at h1;exact h1.1)
  ·exact ih h1.2 e1 e2
theorem WQ{reg:List (Nat×Nat)}(h:inj reg=true){p q f:Nat}(hp:look p reg=some f)(hq:look q reg=some f):p=q:=by
 simp only[inj,bS,iD]at h;exact aiN h.1 (vx hp) (vx hq)
theorem KU(reg:List (Nat×Nat))(r:V):recv reg r=(uu r (cX reg 0 r.gf).1,(cX reg 0 r.gf).2):=by
 have h:∀v:V,∃u ts,cX reg 0 [v]=([u],ts):=fun v=>by
  simp only[cX];split
  ·split<;>exact⟨_,_,rfl⟩
  ·exact⟨_,_,rfl⟩
 cases r<;>first
  |rfl
  |(rename_i x y z;obtain⟨u,ts,e⟩:=h (.slice x y z);simp only[recv,V.gf,uu,e];rfl)
  |(rename_i x y z;obtain⟨u,ts,e⟩:=h (.bR x y z);simp only[recv,V.gf,uu,e];rfl)
  |(simp only[recv,V.gf,uu,cX];rfl)
theorem R.called(hR:R E g S a w){G':List aS}(hx:Ext w g S.aA.length w' g' G'.length)(hG:tp w'.heap g' G'){r:V}{x:Value}(hr:yC ⟨w'.heap,g',G'.length,[]⟩ w.heap.size (kC g) r x)
  {reg:List (Nat×Nat)} (EL:inj reg=true) (vy:∀p f,look p reg=some f→S.eN f) :
  ∃gn,R E gn { S with aA:=G',bj:=(recv reg r).2++S.bj } a w'∧bb (({ S with aA:=G',bj:=(recv reg r).2++S.bj }:St).cx gn w') (recv reg r).1 x ∧
   gn.m=g'.m∧∀b p,w.heap.size≤b→g'.ow b=.tok p→look p reg=none→gn.ow b=.none:=by
 classical
 obtain⟨ys,uq,hlen,gd⟩:=hr;rw[KU];simp only
 let T':=(cX reg 0 r.gf).2++S.bj
 have Pj:∀f k,look f (cX reg 0 r.gf).2=some k→∃p t n es y,r.gf[p]?=some (.slice (some t) n es)∧look p reg=some f∧k=es.length∧ys[p]?=some y:=fun f k hk=>by
  obtain⟨p,t,n,es,h1,h2,h3⟩:=EK reg _ 0 f k (vx hk);have hp:=eQ h1;exact⟨p,t,n,es,ys[p]'(by omega),h1,by simpa using h2,h3,fN (by omega)⟩
 let Q:Nat→Nat×Value→Prop:=fun f q=>look q.1 reg=some f∧ys[q.1]?=some q.2
 let τn:Nat→Option Nat:=fun f=>if h:∃q,Q f q then Bl h.choose.2 else g.τ f
 have hτ:∀f p y,look p reg=some f→ys[p]?=some y→τn f=Bl y:=fun f p y hp hy=>by
  have hq:∃q,Q f q:=⟨(p,y),hp,hy⟩;show(if h:∃q,Q f q then Bl h.choose.2 else g.τ f)=_
  rw[dif_pos hq];obtain⟨h1,h2⟩:=hq.choose_spec;have e:=WQ EL h1 hp;rw[e,hy]at h2;rw[←Option.some.inj h2]
 have WR:∀f,(∀p,look p reg≠some f)→τn f=g.τ f:=fun f hp=>by
  show(if h:∃q,Q f q then Bl h.choose.2 else g.τ f)=_
  rw[dif_neg (fun h=>by obtain⟨q,h1,_⟩:=h;exact hp _ h1)]
 let own:Nat→Ow:=fun b=>if b<w.heap.size∧¬ (kC g b∨∃i,g.ow b=.aA i) then g.ow b else match g'.ow b with
  |.tok p=>(match look p reg with|some f=>.tok f|none=>.none)
  |.aA i=>.aA i
  |.cell p q=>.cell p q
  |_=>.none
 have Pl:∀b,b<w.heap.size→¬ kC g b→(∀i,g.ow b≠.aA i)→own b=g.ow b:=fun b h k l=>aM ⟨h,fun q=>q.elim k fun⟨i,e⟩=>l i e⟩;have EM:∀b,w.heap.size≤b∨kC g b∨(∃i,g.ow b=.aA i)→own b=match g'.ow b with
  |.tok p=>(match look p reg with|some f=>.tok f|none=>.none)
  |.aA i=>.aA i
  |.cell p q=>.cell p q
  |_=>.none:=fun b h=>ay (fun k=>h.elim (fun h=>by omega) k.2)
 have aiO:∀b i,g'.ow b=.aA i→own b=.aA i:=fun b i h=>by
  rcases cF b w.heap.size with hb|hb
  ·rw[EM b (.inr (.inr ⟨i,(hx.lv b i h hb).1⟩)),h]
  ·rw[EM b (.inl hb),h]
 have WS:∀b i,own b=.aA i→g'.ow b=.aA i:=fun b i h=>by
  by_cases hc:b<w.heap.size∧¬ (kC g b∨∃i,g.ow b=.aA i)
  ·have e:own b=g.ow b:=aM hc
   rw[e]at h;exact absurd (.inr ⟨i,h⟩) hc.2
  ·have e:own b=_:=ay hc
   rw[e]at h;split at h
   ·split at h<;>cases h
   ·rename_i k hk;cases h;exact hk
   ·cases h
   ·cases h
 have KV:∀{b o},g.ow b=o→(∀p q,o≠.cell p q)→¬ kC g b:=fun h1 h2 ⟨p,q,h3⟩=>h2 p q (h1.symm.trans h3)
 let gn:Gh:={ m:=g'.m,κ:=g.κ,cp:=g.cp,τ:=τn,γ:=g'.γ,ow:=own }
 have hold:∀b,b<w.heap.size→(∀i,g.ow b≠.aA i)→¬ kC g b→w'.heap[b]?=w.heap[b]?∧g'.m b=g.m b:=fun b hb ho hn =>
  hx.kA b hb (fun i _=>ho i) hn
 have le:Le (S.cx g w) ⟨w'.heap,gn,G'.length,T'⟩ :=
  {size:=hx.size
   cells:=fun b o y ho hy=>by
    have hb:=A8 hy;show cellAt w'.heap b o=some y;by_cases hw:kC g b
    ·exact(hx.grow b hb hw).1 o y ho hy
    rw[tn (hx.kA b hb (fun i hi e=>?_) hw).1]
    ·exact hy
    ·have ho:o<g.m b:=ho
     rw[(hR.aA.z b i e).1]at ho;omega
   m:=fun b hb=>by
    show g.m b≤g'.m b;by_cases hw:kC g b
    ·exact(hx.grow b hb hw).2
    by_cases h:∃i,g.ow b=.aA i
    ·obtain⟨i,e⟩:=h
     rw[(hR.aA.z b i e).1];omega
    ·rw[(hx.kA b hb (fun i hi e=>h ⟨i,e⟩) hw).2];exact bV _
   eK:=hx.eK
   γ:=hx.γ }
 have Pm:∀f,(∀p,look p reg≠some f)→look f T'=look f S.bj:=fun f hf=>by
  show look f ((cX reg 0 r.gf).2++S.bj)=_;rw[zM];cases h:look f (cX reg 0 r.gf).2 with
  |none=>rfl
  |some k =>
   obtain⟨p,_,_,_,_,_,h2,_,_⟩:=Pj f k h;exact absurd h2 (hf p)
 have WT:∀f k p,look p reg=some f→look f T'=some k→look f (cX reg 0 r.gf).2=some k:=fun f k p hp hk=>by
  have hk:look f ((cX reg 0 r.gf).2++S.bj)=some k:=hk;rw[zM]at hk;cases h:look f (cX reg 0 r.gf).2 with
  |none=>rw[h]at hk;simp only at hk;rw[(vy p f hp).tok]at hk;cases hk
  |some k'=>rw[h]at hk;exact hk
 have keeps:∀d,jg (S.cx g w) ⟨w'.heap,gn,G'.length,T'⟩ d∨S.eN d:=fun d=>by
  by_cases hd:∃p,look p reg=some d
  ·obtain⟨p,hp⟩:=hd
   exact .inr (vy p d hp)
  ·have hd:∀p,look p reg≠some d:=fun p e=>hd ⟨p,e⟩
   refine .inl ⟨rfl,rfl,fun k' ke=>?_⟩;have hk:look d S.bj=some k':=by rw[←Pm d hd];exact ke
   refine⟨k',hk,bV _,fun _=>⟨WR d hd,fun b hb=>?_⟩⟩;obtain⟨h1,h2,h3⟩:=hR.bj d k' b hk hb;obtain⟨h4,h5⟩:=hold b h3 (fun i e=>by rw[h1]at e;cases e) (KV h1 (fun _ _ e=>by cases e))
   exact⟨h5,fun c e hc=>⟨c,h4.trans hc,rfl⟩⟩
 have KW:∀T,Le ⟨w'.heap,g',G'.length,[]⟩ ⟨w'.heap,gn,G'.length,T⟩:=fun T=>⟨bV _,fun _ _ _ _ h=>h,fun _ _=>bV _,bV _,fun _ _=>rfl⟩;refine⟨gn,⟨fun s v hs=>?_,fun id cs ho=>?_,fun f k b hf hb=>?_,⟨fun i o ho=>?_,fun i o ho=>?_,fun b i ho=>?_⟩,hR.defers,hR.js,?_⟩,?_,rfl,fun b p hb ho hl=>by show own b=_;rw[EM b (.inl hb),ho];simp only[hl]⟩
 ·obtain⟨x,h1,h2⟩:=hR.env s v hs
  exact⟨x,h1,h2.mono le fun d=>(keeps d).imp (fun z=>z) fun h=>h.env s v hs⟩
 ·rcases hR.aW id cs ho with h0 | ⟨h1,h2,h3,c,e,h4,fU,h5⟩
  ·exact .inl h0
  have bE:g.κ id<w.heap.size:=by
   rcases cF (g.κ id) w.heap.size with h|h
   ·exact h
   ·simp[mF h]at h4
  obtain⟨h6,h7⟩:=hold _ bE (fun i e=>by rw[h1]at e;cases e) (KV h1 (fun _ _ e=>by cases e))
  refine .inr ⟨(Pl _ bE (KV h1 (fun _ _ e=>by cases e)) (fun i e=>by rw[h1]at e;cases e)).trans h1,h2,h7.trans h3,c,e,h6.trans h4,fU,fun j v hj=>?_⟩
  obtain⟨h8,y,h9,gx⟩:=h5 j v hj;exact⟨h8,y,h9,gx.mono le fun d=>(keeps d).imp (fun z=>z) fun h=>uj (h.aW id cs ho v (fW hj))⟩
 ·by_cases hd:∃p,look p reg=some f
  ·obtain⟨p0,hp0⟩:=hd
   obtain⟨p,t,n,es,y,h1,h2,h3,h4⟩:=Pj f k (WT f k p0 hp0 hf);obtain⟨_,_,tz⟩:=gd p _ y h1 h4;have hb:τn f=some b:=hb;rw[hτ f p y h2 h4]at hb;rcases tz t n es rfl with⟨_,e⟩ | ⟨b',off,cap,c,e,h5,h6,h7,h8,h9,gx⟩
   ·rw[O6 e]at hb;cases hb
   ·rw[h5,HA gx.2.2,Option.some.injEq]at hb
    subst hb;refine⟨?_,?_,?_⟩
    ·show own b'=_
     have h7:g'.ow b'=.tok p:=h7;rw[EM b' (h6.imp (fun z=>z) .inl),h7];simp only[h2]
    ·rcases h6 with h6 | ⟨p',q',h6⟩
     ·exact .inl (iQ hR.same.size h6)
     ·rcases cF b' E.w0.heap.size with h|h
      ·exact .inr (hR.same.iq b' p' q' h h6)
      ·exact .inl h
    ·rcases cF b' w'.heap.size with h|h
     ·exact h
     ·simp[mF h]at h9
  ·have hd:∀p,look p reg≠some f:=fun p e=>hd ⟨p,e⟩
   have OU:look f S.bj=some k:=by rw[←Pm f hd];exact hf
   have oB:g.τ f=some b:=by rw[←WR f hd];exact hb
   obtain⟨h1,h2,h3⟩:=hR.bj f k b OU oB;exact⟨(Pl b h3 (KV h1 (fun _ _ e=>by cases e)) (fun i e=>by rw[h1]at e;cases e)).trans h1,h2,iC h3 hx.size⟩
 ·rcases hG.obj i o ho with h0 | ⟨h1,h2⟩
  ·exact .inl h0
  have hi:=eQ ho;refine .inr ⟨?_,?_⟩
  ·exact aiO _ _ h1
  ·cases o with
   |map es =>
    obtain⟨h3,c,e,h4,h5,h6⟩:=h2;refine⟨h3,c,e,h4,h5,fun j v y hj hy=>?_⟩;obtain⟨h7,h8,h9,gx⟩:=h6 j v y hj hy;exact⟨h7,h8,h9.mono (KW []) fun d=>.inr (h7 d),gx.mono (KW []) fun d=>.inr (wT (h8 d))⟩
   |cells cs =>
    obtain⟨h3,c,e,h4,h5,h6⟩:=h2;refine⟨h3,c,e,h4,h5,fun j v y hj hy=>?_⟩;obtain⟨h7,h8,h9⟩:=h6 j v y hj hy;exact⟨h7,h8,h9.mono (KW []) fun d=>.inr (h8 d)⟩
 ·have h3:=hG.own i o ho
  cases o with
  |map es=>trivial
  |cells cs =>
   intro j n es y hj hy;rcases h3 j n es y hj hy with h | ⟨q,cap,c',e',q1,q2,q3,q4,q5,q6⟩
   ·exact .inl h
   ·refine .inr ⟨q,cap,c',e',q1,?_,q3,q4,q5,q6⟩
    show own q=_;rw[EM q,q2];rcases cF q w.heap.size with h|h
    ·exact .inr (.inl (hx.iq q _ _ h q2))
    ·exact .inl h
 ·exact hG.z b i (WS b i ho)
 ·exact {
   os:=hx.os.trans hR.same.os
   tape:=hx.tape.trans hR.same.tape
   output:=hx.output.trans hR.same.output
   size:=iQ hR.same.size hx.size
   eK:=iQ hR.same.eK hx.eK
   γ:=fun i hi=>(hx.γ i (iC hi hR.same.eK)).trans (hR.same.γ i hi)
   γnew:=fun i h1 h2=>by
    by_cases h:i<S.aA.length
    ·show _≤g'.γ i
     rw[hx.γ i h];exact hR.same.γnew i h1 h
    ·exact iQ hR.same.size (hx.γnew i (by omega) h2)
   kA:=fun b hb jh yh=>by
    obtain⟨h1,h2⟩:=hR.same.kA b hb jh yh;obtain⟨h3,h4⟩:=hx.kA b (iC hb hR.same.size) (fun i hi e=>by
     obtain⟨k1,k2⟩:=hR.same.lv b i e hb;exact jh i k2 k1) (fun⟨p,q,h⟩=>yh (hR.same.iq b p q hb h))
    exact⟨h3.trans h1,h4.trans h2⟩
   grow:=fun b hb hw=>by
    obtain⟨h1,h2⟩:=hR.same.grow b hb hw;have bE:=iC hb hR.same.size;exact⟨fun o y ho hy=>le.cells b o y (iC ho h2) (h1 o y ho hy),iQ h2 (le.m b bE)⟩
   iq:=fun b p q hb ho=>by
    have ho:own b=.cell p q:=ho;have bE:=iC hb hR.same.size;by_cases hw:kC g b
    ·obtain⟨p',q',hw⟩:=hw
     exact hR.same.iq b p' q' hb hw
    ·by_cases CU:∃i,g.ow b=.aA i
     ·rw[EM b (.inr (.inr CU))]at ho
      split at ho
      ·split at ho<;>cases ho
      ·cases ho
      ·rename_i hk;cases ho;exact absurd (hx.iq b _ _ bE hk) hw
      ·cases ho
     ·rw[Pl b bE hw (fun i e=>CU ⟨i,e⟩)]at ho
      exact absurd ⟨p,q,ho⟩ hw
   lv:=fun b i ho hb=>by
    have bE:=iC hb hR.same.size;exact hR.same.lv b i (hx.lv b i (WS b i ho) bE).1 hb }
 ·have Po:∀(k:Nat) (u:V) (y:Value),(cX reg 0 r.gf).1[k]?=some u→ys[k]?=some y→bb ⟨w'.heap,gn,G'.length,T'⟩ u y:=fun k u y hu hy=>by
   obtain⟨v,hv,hc⟩:=HJ reg _ 0 k u hu;obtain⟨q1,q2,q3⟩:=gd k v y hv hy;rcases hc with⟨t,n,es,f,rfl,h2,rfl⟩ | rfl
   ·rw[jV]at h2
    have CN:fg w'.heap g'.m (.slice none n es) y:=by
     cases q1 with|plain h _=>exact h
    refine .plain (aiM CN) (fun f' n' pS he k' ke=>?_);cases he;obtain⟨p,t',n',pS,y',h3,h4,h5,h6⟩:=Pj f k' (WT f k' k h2 ke);have:p=k:=WQ EL h4 h2;subst this;rw[hv]at h3;cases h3;rw[hy]at h6;cases h6;subst h5;refine⟨bV _,fun _=>?_⟩;rcases q3 t n es rfl with⟨e1,e2⟩ | ⟨b,off,cap,c,e,h7,h8,h9,gx,lu,uw⟩
    ·exact .inl ⟨by rw[e1];rfl,e2⟩
    ·exact .inr ⟨b,off,cap,c,e,by show τn f=_;rw[hτ f p y h2 hy,h7];exact HA uw.2.2,h7,gx,lu,uw⟩
   ·exact q1.mono (KW _) fun d=>.inr (q2 d)
  have Bu:=Ph reg r.gf 0;show bb ⟨w'.heap,gn,G'.length,T'⟩ _ _;have single:r.gf=[r]→ys=[x]→(∀us,uu r us=us.headD .undef)→bb ⟨w'.heap,gn,G'.length,T'⟩ (uu r (cX reg 0 r.gf).1) x:=fun e1 e2 e3=>by
   rw[e3];have pe:(cX reg 0 r.gf).1.length=1:=by rw[Bu,e1];rfl
   match sE:(cX reg 0 r.gf).1,pe with
   |[u],_=>exact Po 0 u x (by rw[sE];rfl) (by rw[e2];rfl)
  cases r with
  |tuple vs =>
   have uq:x=.tuple ys.toArray:=uq;subst uq;exact .tuple _ _ (by rw[Bu];simpa using hlen.symm) (fun i v y hv hy=>Po i v y hv (by simpa using hy))
  |agg vs =>
   have uq:x=.agg ys.toArray:=uq;subst uq;exact .agg _ _ (by rw[Bu];simpa using hlen.symm) (fun i v y hv hy=>Po i v y hv (by simpa using hy))
  |_=>exact single rfl uq (fun _=>rfl)
theorem WU{o:Oper}{f:Operand}{args:Array Operand}{ts:Array TypeId}{fo:bw}{as:List (Sh×bw)}{reg:List (Nat×Nat)}{C:bD}(ho:o.op=.call ⟨.value f,args,ts⟩)(hf:bU f fo=true)
  (has:as.length=args.toList.length∧∀(i:Nat) sh x y,as[i]?=some (sh,x)→args.toList[i]?=some y→bU y x=true)
  (hC:∀f args G r G',C f args G=some (r,G')→vw P E.T f args G r G')
  (EL:inj reg=true) (vy:∀p f,look p reg=some f→S.eN f)
  (hR:R E g S a w) (hd:∀d,o.dst=some d→d<E.nt) (hrun:VO.run C o.dst S (.call false fo as reg)=some S'):ch P E o S S' a w:=by
 simp only[VO.run]at hrun;split at hrun
 ·rename_i nR cap vs yD qU
  split at hrun
  ·rename_i r G' kD
   cases hrun;have w6:=hC _ _ _ _ _ kD;obtain⟨fn,qw,w7,qx⟩:=w6.fn;obtain⟨xs,e1,dC,mJ⟩:∃xs:Array Value,a.eval f=.func (.func (jq nR)) #[] xs∧cap.length=xs.size∧∀(j:Nat) (v:V),cap[j]?=some v→∃i o,v=.bm i o∧i<S.aA.length∧xs[j]?=some (.pointer (some ⟨g.γ i,o,none⟩)):=by
    have hr:=cY hR hf yD;generalize a.eval f=y at hr;cases hr with
    |plain h _=>cases h
    |fn _ _ xs hl hx=>exact⟨xs,rfl,hl,hx⟩
   obtain⟨hl,hx⟩:=WO hR has qU;have fq:(execOp a.eval o).run P w=.ok (.enter (jq nR) (args.map a.eval++xs)) w:=by
    simp[execOp,ho,resolve,e1,Deferred.ofValue,invoke,callFunc,qw];simp at qx;cases hb:fn.body with
    |none=>simp[hb]at w7
    |some c=>simp[qx]
   intro K Q hK;unfold Oper.wp;rw[fq,Oper.upon_enter];have hrun:=w6.run w g ((args.toList.map a.eval)++xs.toList) hR.pk hR.aA (by simp;simp at hl;omega) (fun i v x hv mr=>by
    rw[oQ]at hv mr;have Pp:vs.length=(args.toList.map a.eval).length:=by rw[wF];exact hl
    split at hv
    ·rename_i h
     rw[aM (by omega)]at mr
     exact hx i v x hv mr
    ·rename_i h
     rw[ay (by omega)]at mr
     obtain⟨k,o',e2,hk,h3⟩:=mJ _ v hv;rw[Pp]at h3;subst e2;have:x=.pointer (some ⟨g.γ k,o',none⟩):=by
      have h4:xs.toList[i-(args.toList.map a.eval).length]?=some (.pointer (some ⟨g.γ k,o',none⟩)):=by simpa using h3
      rw[h4]at mr;exact(Option.some.inj mr).symm
     rw[this];exact .bm k o' hk)
   have yE:((args.toList.map a.eval)++xs.toList).toArray=args.map a.eval++xs:=by
    apply m8;simp
   rw[yE]at hrun;refine hrun.mono fun e w' ⟨x,g',he,hext,hG,lx⟩=>?_;subst he;obtain⟨gn,r1,r2,_⟩:=hR.called hext hG lx EL vy;exact hK gn _ _ (r1.put hd r2)
  ·cases hrun
 ·cases hrun
theorem WV{X:Cx}{sh:Sh}{v u:V}{y:Value}(h:pM sh v=some u)(hr:bb X v y)(N:Nat):bb ⟨X.h,X.g,N,[]⟩ u y:=by
 unfold pM at h;split at h
 ·split at h
  ·rename_i cs hg
   cases h;obtain⟨xs,e,hl,hx⟩:=qS hr;subst e;obtain⟨e1,e2⟩:=Ho hg;refine .agg _ _ (by omega) (fun i v x hv mr=>?_)
   obtain⟨z,s,hz,Pg⟩:=KN hg i v hv;obtain⟨p,q⟩:=Hn Pg (hx i z x hz mr);exact .plain q (um p)
  ·cases h
 ·cases h
  cases hr with
  |plain h _=>cases h
  |fn _ _ xs hl _=>exact .fn _ [] xs hl fun j v hj=>by simp at hj
 ·split at h
  ·obtain⟨p,q⟩:=Hn h hr
   exact .plain q (um p)
  ·cases h
theorem WW(hR:R E g S a w)(N:Nat):∀{args:List (Sh×bw)} {ops:List Operand} {vs:List V},(args.length=ops.length∧∀(i:Nat) sh x y,args[i]?=some (sh,x)→ops[i]?=some y→bU y x=true)→ni S args=some vs →
  vs.length=ops.length∧∀(i:Nat) (v:V) (x:Value),vs[i]?=some v→(ops.map a.eval)[i]?=some x→bb ⟨w.heap,g,N,[]⟩ v x
 |[],[],vs,_,h=>by simp[ni]at h;subst h;simp
 |[],_::_,_,h,_=>by simp at h
 |_::_,[],_,h,_=>by simp at h
 |(sh,x)::args,y::ops,vs,bu,h=>by
  simp only[ni]at h;split at h
  ·rename_i v hv
   split at h
   ·rename_i u us h1 h2
    cases h;have hr:=WV h1 (cY hR (bu.2 0 sh x y (by simp) (by simp)) hv) N
    obtain⟨e,hx⟩:=WW hR N (args:=args) (ops:=ops) ⟨by simpa using bu.1,fun i zL x' y' hi hj=>bu.2 (i+1) zL x' y' (by simpa using hi) (by simpa using hj)⟩ h2
    refine⟨by simp[e],fun i z zz hz tx=>?_⟩
    cases i with
    |zero=>simp at hz tx;subst hz;subst tx;exact hr
    |succ i=>exact hx i z zz (by simpa using hz) (by simpa using tx)
   ·cases h
  ·cases h
theorem WX{X:Cx}{v:V}{x:Value}(h:v.iG=true)(hr:bb X (gV v) x):fg X.h X.g.m (gV v) x:=by
 cases v<;>simp_all[V.iG,V.plain,gV]
 all_goals (cases hr with|plain h _=>exact h)
theorem aiQ{X X':Cx}(hh:X'.h=X.h)(hm:X'.g.m=X.g.m){v:V}{x:Value}(h:v.iS=true)(hr:bb X (strip v) x):bb X' (strip v) x:=by
 have key:(∃cs,v=.agg cs)∨(v.iS=v.iG∧strip v=gV v):=by
  cases v<;>first|(left;exact⟨_,rfl⟩)|(right;exact⟨rfl,rfl⟩)
 rcases key with⟨cs,rfl⟩ | ⟨k1,k2⟩
 ·simp only[V.iS,g8]at h
  obtain⟨xs,e,hl,hx⟩:=qS hr;subst e;refine .agg _ _ hl (fun i u y hu hy=>?_);have HM:=hu;rw[u3]at hu;cases hc:cs[i]? with
  |none=>simp[hc]at hu
  |some z =>
   simp[hc]at hu;subst hu;have hz:=h z (fW hc);have:=WX hz (hx i _ y HM hy);rw[←hh,← hm]at this;exact .plain this (fun f n es e=>by cases z<;>simp[gV]at e)
 ·rw[k1]at h
  rw[k2]at hr ⊢;have:=WX h hr;rw[←hh,← hm]at this;exact .plain this (fun f n es e=>by cases v<;>simp[gV]at e)
def noCell(g:Gh):Gh:={ g with ow:=fun b=>match g.ow b with | .cell _ _=>.none | .aA _=>.none|q=>q }
theorem EN(g:Gh)(b:Nat):¬ kC (noCell g) b:=fun⟨p,q,h⟩=>by
 have h:(match g.ow b with | .cell _ _=>Ow.none | .aA _=>Ow.none|q=>q)=.cell p q:=h
 split at h
 ·cases h
 ·cases h
 ·rename_i h2 h3;exact h2 _ _ h
theorem Pq(g:Gh)(b i:Nat)(h:(noCell g).ow b=.aA i):(noCell g).m b=0∧i<0:=by
 have h:(match g.ow b with | .cell _ _=>Ow.none | .aA _=>Ow.none|q=>q)=.aA i:=h
 split at h
 ·cases h
 ·cases h
 ·rename_i h2 h3;exact absurd h (h3 _)
theorem aiR{r:V}(h:r.lone=true):∀v∈r.gf,v.iS=true:=fun v hv=>by
 cases r with
 |tuple vs=>simp only[V.lone,g8]at h;exact h v hv
 |agg cs =>
  simp only[V.lone,V.iS,g8]at h;have:=h v hv;cases v<;>simp_all[V.iG,V.iS,V.plain]
 |_ =>
  simp only[V.gf,ou]at hv;subst hv;exact h
theorem aiS{o:Oper}{f:Operand}{args:Array Operand}{ts:Array TypeId}{fo:bw}{as:List (Sh×bw)}{reg:List (Nat×Nat)}{C:bD}(ho:o.op=.call ⟨.value f,args,ts⟩)(hf:bU f fo=true)
  (has:as.length=args.toList.length∧∀(i:Nat) sh x y,as[i]?=some (sh,x)→args.toList[i]?=some y→bU y x=true)
  (hC:∀f args G r G',C f args G=some (r,G')→vw P E.T f args G r G')
  (EL:inj reg=true) (vy:∀p f,look p reg=some f→S.eN f)
  (hR:R E g S a w) (hd:∀d,o.dst=some d→d<E.nt) (hrun:VO.run C o.dst S (.call true fo as reg)=some S'):ch P E o S S' a w:=by
 simp only[VO.run]at hrun;split at hrun
 ·rename_i nR vs yD qU
  split at hrun
  ·rename_i r G' kD
   cases EO:r.lone with
   |false=>simp[EO]at hrun
   |true =>
    simp only[EO,bG]at hrun;cases hrun;have w6:=hC _ _ _ _ _ kD;obtain⟨fn,qw,w7,qx⟩:=w6.fn;have e1:a.eval f=.func (.func (jq nR)) #[] #[]:=by
     have hr:=cY hR hf yD;generalize a.eval f=y at hr;cases hr with
     |plain h _=>cases h
     |fn _ _ xs hl hx =>
      have:xs = #[]:=by
       apply D7;simpa using hl.symm
      rw[this]
    obtain⟨hl,hx⟩:=WW hR 0 has qU;have fq:(execOp a.eval o).run P w=.ok (.enter (jq nR) (args.map a.eval)) w:=by
     simp[execOp,ho,resolve,e1,Deferred.ofValue,invoke,callFunc,qw];simp at qx;cases hb:fn.body with
     |none=>simp[hb]at w7
     |some c=>simp[qx]
    intro K Q hK;unfold Oper.wp;rw[fq,Oper.upon_enter];have EP:∀b,¬ kC (noCell g) b:=EN g;have hrun:=w6.run w (noCell g) (args.toList.map a.eval) hR.pk ⟨fun i o h=>by simp at h,fun i o h=>by simp at h,Pq g⟩ (by simp;simpa using hl) (fun i v x hv mr=>bb.mono (X:=⟨w.heap,g,0,[]⟩) (X':=⟨w.heap,noCell g,0,[]⟩) ⟨bV _,fun _ _ _ _ h=>h,fun _ _=>bV _,bV _,fun _ _=>rfl⟩ (hx i v x hv mr) (fun d=>.inl ⟨rfl,rfl,fun k hk=>by simp[look]at hk⟩))
    have yE:(args.toList.map a.eval).toArray=args.map a.eval:=by
     apply m8;simp
    rw[yE]at hrun;refine hrun.mono fun e w' ⟨x,g',he,hext,hG,lx⟩=>?_;subst he
    let g2:Gh:={ g' with γ:=g.γ,ow:=fun b=>if b<w.heap.size then g.ow b else match g'.ow b with | .aA _=>.none|q=>q }
    have hold:∀b,b<w.heap.size→w'.heap[b]?=w.heap[b]?∧g'.m b=g.m b:=fun b hb=>hext.kA b hb (fun i hi=>absurd hi (by simp)) (EP b)
    have Bv:Ext w g S.aA.length w' g2 S.aA.length:=⟨hext.os,hext.tape,hext.output,hext.size,bV _,fun _ _=>rfl,fun i a b=>absurd a (by omega),fun b hb _ _=>hold b hb,
     fun b hb _=>⟨fun o y _ hy=>by rw[tn (hold b hb).1];exact hy,u6 (hold b hb).2.symm⟩,fun b p q hb h=>⟨p,q,by(have h:(if b<w.heap.size then _ else _)=Ow.cell p q:=h);rw[aM hb]at h;exact h⟩,
     fun b i h hb=>by(have h:(if b<w.heap.size then _ else _)=Ow.aA i:=h);rw[aM hb]at h;exact⟨h,(hR.aA.z b i h).2⟩⟩
    have Pr:∀i o,S.aA[i]?=some o→CD w'.heap g2 (g2.γ i) o:=fun i o hi=>by
     have h3:=hR.aA.own i o hi;cases o with
     |map es=>trivial
     |cells cs =>
      intro j n es y hj hy;have hy:cellAt w'.heap (g.γ i) j=some y:=hy;rw[tn (hold _ (EF hR hi (WJ hj))).1]at hy;rcases h3 j n es y hj hy with h | ⟨q,cap,c',e',q1,q2,q3,q4,q5,q6⟩
      ·exact .inl h
      ·have pP:q<w.heap.size:=by
        rcases cF q w.heap.size with h|h
        ·exact h
        ·simp[mF h]at q4
       exact .inr ⟨q,cap,c',e',q1,by show(if q<w.heap.size then _ else _)=_;rw[aM pP];exact q2,(hold q pP).2.trans q3,(hold q pP).1.trans q4,q5,q6⟩
    have Pu:∀b i,g2.ow b=.aA i→g2.m b=0∧i<S.aA.length:=fun b i h=>by
     have h:(if b<w.heap.size then g.ow b else match g'.ow b with | .aA _=>.none|q=>q)=Ow.aA i:=h
     split at h
     ·rename_i hb
      obtain⟨z1,z2⟩:=hR.aA.z b i h;exact⟨(hold b hb).2.trans z1,z2⟩
     ·split at h
      ·cases h
      ·rename_i q hq;exact absurd h (hq i)
    have HN:tp w'.heap g2 S.aA:=⟨fun i o hi=>by
     rcases hR.aA.obj i o hi with h0 | ⟨h1,h2⟩
     ·exact .inl h0
     refine .inr ?_;cases o with
     |map es =>
      obtain⟨h3,c,e,h4,h5,h6⟩:=h2;have bE:g.γ i<w.heap.size:=by
       rcases cF (g.γ i) w.heap.size with h|h
       ·exact h
       ·simp[mF h]at h4
      obtain⟨q1,q2⟩:=hold _ bE;have le:Le ⟨w.heap,g,S.aA.length,[]⟩ ⟨w'.heap,g2,S.aA.length,[]⟩ :=
       ⟨hext.size,fun b o y ho hy=>by
        have hb:=A8 hy;show cellAt w'.heap b o=some y;rw[tn (hold b hb).1];exact hy,fun b hb=>u6 (hold b hb).2.symm,bV _,fun _ _=>rfl⟩
      refine⟨by show(if g.γ i<w.heap.size then _ else _)=_;rw[aM bE];exact h1,q2.trans h3,c,e,q1.trans h4,h5,fun j v y hj hy=>?_⟩
      obtain⟨h7,h8,h9,gx⟩:=h6 j v y hj hy;exact⟨h7,h8,h9.mono le fun d=>.inr (h7 d),gx.mono le fun d=>.inr (wT (h8 d))⟩
     |cells cs =>
      obtain⟨h3,c,e,h4,h5,h6⟩:=h2;have bE:g.γ i<w.heap.size:=by
       rcases cF (g.γ i) w.heap.size with h|h
       ·exact h
       ·simp[mF h]at h4
      obtain⟨q1,q2⟩:=hold _ bE;have le:Le ⟨w.heap,g,S.aA.length,[]⟩ ⟨w'.heap,g2,S.aA.length,[]⟩ :=
       ⟨hext.size,fun b o y ho hy=>by
        have hb:=A8 hy;show cellAt w'.heap b o=some y;rw[tn (hold b hb).1];exact hy,fun b hb=>u6 (hold b hb).2.symm,bV _,fun _ _=>rfl⟩
      refine⟨by show(if g.γ i<w.heap.size then _ else _)=_;rw[aM bE];exact h1,q2.trans h3,c,e,q1.trans h4,h5,fun j v y hj hy=>?_⟩
      obtain⟨h7,h8,h9⟩:=h6 j v y hj hy;exact⟨h7,h8,h9.mono le fun d=>.inr (h8 d)⟩,Pr,Pu⟩
    have aiT:yC ⟨w'.heap,g2,S.aA.length,[]⟩ w.heap.size (kC g) r x:=by
     obtain⟨ys,p1,p2,p3⟩:=lx;refine⟨ys,p1,p2,fun p v y hv hy=>?_⟩;obtain⟨q1,q2,q3⟩:=p3 p v y hv hy;refine⟨aiQ (X:=⟨w'.heap,g',G'.length,[]⟩) (X':=⟨w'.heap,g2,S.aA.length,[]⟩) rfl rfl (aiR EO v (fW hv)) q1,q2,fun f n es e=>?_⟩;rcases q3 f n es e with h | ⟨b,off,cap,c,e,h1,h2,h3,h4,h5,h6⟩
     ·exact .inl h
     ·have h2:w.heap.size≤b:=h2.resolve_right (EP b)
      refine .inr ⟨b,off,cap,c,e,h1,.inl h2,?_,h4,h5,h6⟩;show(if b<w.heap.size then _ else _)=_
      rw[ay (by omega)]
      have h3:g'.ow b=.tok p:=h3;rw[h3]
    obtain⟨gn,r1,r2,_⟩:=hR.called Bv HN aiT EL vy;exact hK gn _ _ (r1.put hd r2)
  ·cases hrun
 ·cases hrun
end
theorem WY:∀(i:Nat) (vs:List V),(cX [] i vs).2=[]
 |_,[]=>rfl
 |i,v::vs=>by
  have ih:=WY (i+1) vs;simp only[cX];split
  ·simp only[look];exact ih
  ·exact ih
theorem aiU(r:V):(recv [] r).2=[]:=by rw[KU];exact WY _ _
theorem WZ{C:bD}{d:Option Nat}{S S':St}{f:bw}{args:List (Sh×bw)}(h:VO.run C d S (.sd f args)=some S'):VO.run C d S (.call false f args [])=some S':=by
 simp only[VO.run]at h ⊢;split at h
 ·split at h
  ·rename_i r G hc
   simp only[rd]at h;split at h
   ·rename_i e
    subst e;cases h;simp only[hc,aiU,Eg]
   ·cases h
  ·cases h
 ·cases h
end Go.Vm

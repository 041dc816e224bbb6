/- The value machine, 9: calls. -/
import Derived.Test.YtcelmhaoipbdiaaGreatVm8
import Derived.Defers
namespace Go.Vm
set_option linter.all false
def V.gD:V→List V
 |.tuple vs=>vs
 |.agg cs=>cs
 |v=>[v]
def uL(r:V)(us:List V):V :=
 match r with
 |.tuple _=>.tuple us
 |.agg _=>.agg us
 |_=>us.headD .undef
def BL(r:V):V:=uL r (r.gD.map strip)
def HZ(r:V)(x:Value)(ys:List Value):Prop :=
 match r with
 |.tuple _=>x=.tuple ys.toArray
 |.agg _=>x=.agg ys.toArray
 |_=>ys=[x]
def E9(X:Cx)(base:Nat)(O:Nat→Prop)(p:Nat)(v:V)(x:Value):Prop :=
 ∀f n es,v=.slice (some f) n es→(es=[]∧mr x) ∨
  ∃b off cap c e,x=.slice (some ⟨b,off,none⟩) es.length cap∧(base≤b∨O b)∧X.g.ow b=.tok p∧X.g.m b=off+es.length*n∧X.h[b]?=some (.cells c e (0,0))∧off+cap*n≤c.size∧off=0∧0<es.length
def lp(g:Gh)(b:Nat):Prop:=∃p q,g.ow b=.cell p q
def yB(X:Cx)(base:Nat)(O:Nat→Prop)(r:V)(x:Value):Prop :=
 ∃ys,HZ r x ys∧ys.length=r.gD.length∧∀(p:Nat) (v:V) (y:Value),r.gD[p]?=some v→ys[p]?=some y→bf X (strip v) y∧(∀d,(strip v).cA d=false)∧E9 X base O p v y
structure Ext(w:World)(g:Gh)(N:Nat)(w':World)(g':Gh)(N':Nat):Prop where
 os:w'.os=w.os
 tape:w'.tape=w.tape
 output:w'.output=w.output
 size:w.heap.size≤w'.heap.size
 eW:N≤N'
 γ:∀i,i<N→g'.γ i=g.γ i
 γnew:∀i,N≤i→i<N'→w.heap.size≤g'.γ i
 l7:∀b,b<w.heap.size→(∀i,i<N→g.ow b≠.aD i)→¬ lp g b→w'.heap[b]?=w.heap[b]?∧g'.m b=g.m b
 grow:∀b,b<w.heap.size→lp g b→(∀o y,o<g.m b→cellAt w.heap b o=some y→cellAt w'.heap b o=some y)∧g.m b≤g'.m b
 iW:∀b p q,b<w.heap.size→g'.ow b=.cell p q→lp g b
 lv:∀b i,g'.ow b=.aD i→b<w.heap.size→g.ow b=.aD i∧i<N
theorem Ext.le{w w':World}{g g':Gh}{N N':Nat}(h:Ext w g N w' g' N')(hz:∀b i,g.ow b=.aD i→g.m b=0):Le ⟨w.heap,g,N,[]⟩ ⟨w'.heap,g',N',[]⟩ where
 size:=h.size
 cells:=fun b o y ho hc=>by
  have hb:=Bs hc;by_cases h1:lp g b
  ·exact(h.grow b hb h1).1 o y ho hc
  ·by_cases h2:∃i,g.ow b=.aD i
   ·obtain⟨i,h2⟩:=h2
    have:=hz b i h2;exact absurd ho (by show ¬ o<g.m b;omega)
   ·exact(tE (h.l7 b hb (fun i _ h=>h2 ⟨i,h⟩) h1).1 o).trans hc
 m:=fun b hb=>by
  by_cases h1:lp g b
  ·exact(h.grow b hb h1).2
  ·by_cases h2:∃i,g.ow b=.aD i
   ·obtain⟨i,h2⟩:=h2
    have:=hz b i h2;show g.m b≤_;omega
   ·exact vq (h.l7 b hb (fun i _ h=>h2 ⟨i,h⟩) h1).2.symm
 eW:=h.eW
 γ:=h.γ
def Xw:Code→Bool
 |.seq (.region _ ops _) _=>match ops.toList with
  |[_,o]=>(match o.op with | .defer _=>true|_=>false)
  |_=>false
 |_=>false
def H0(P:Program)(f:FuncId):Bool:=jA f==f &&
 match P.funcs[f]? with
 |some fn=>match fn.body with
  |some c => !Xw c
  |none=>false
 |none=>false
structure vN(P:Program)(T:Pk)(f:FuncId)(args:List V)(G:List aP)(r:V)(G':List aP):Prop where
 fn:∃fn,P.funcs[jA f]?=some fn∧fn.body.isSome=true∧(fn.name== "runtime.NumGoroutine")=false
 ret:∀d,(BL r).cA d=false
 run:∀(w:World) (g:Gh) (xs:List Value),oN T w.heap g.m→tF w.heap g G→args.length=xs.length →
  (∀(i:Nat) (v:V) (x:Value),args[i]?=some v→xs[i]?=some x→bf ⟨w.heap,g,G.length,[]⟩ v x) →
  Calls P (jA f) xs.toArray w fun e w'=>∃x g',e=.returned x∧Ext w g G.length w' g' G'.length∧tF w'.heap g' G'∧yB ⟨w'.heap,g',G'.length,[]⟩ w.heap.size (lp g) r x
 Qb:H0 P (jA f)=true→∀(u:FrameMode) (w:World) (g:Gh) (xs:List Value),oN T w.heap g.m→tF w.heap g G→args.length=xs.length →
  (∀(i:Nat) (v:V) (x:Value),args[i]?=some v→xs[i]?=some x→bf ⟨w.heap,g,G.length,[]⟩ v x) →
  CallsD P (jA f) xs.toArray u w fun e u' w'=>u'=u∧∃x g',e=.returned x∧Ext w g G.length w' g' G'.length∧tF w'.heap g' G'∧yB ⟨w'.heap,g',G'.length,[]⟩ w.heap.size (lp g) r x
section
variable {P:Program} {E:Entry} {g g':Gh} {S S':St} {a:Act} {w w':World}
theorem Xx{X:Cx}{sh:Sh}{v u:V}{y:Value}(h:Bl sh v=some u)(hr:bf X v y):bf ⟨X.h,X.g,X.N,[]⟩ u y:=by
 unfold Bl at h;split at h
 ·split at h
  ·rename_i cs hg
   cases h;obtain⟨xs,e,hl,hx⟩:=rU hr;subst e;obtain⟨e1,e2⟩:=P2 hg;refine .agg _ _ (by omega) (fun i v x hv mT=>?_)
   obtain⟨z,s,hz,Qc⟩:=P3 hg i v hv;exact(E4 Qc (hx i z x hz mT)).2.2.1
  ·cases h
 ·split at h
  ·exact(E4 h hr).2.2.1
  ·cases h
theorem Xy(hR:R E g S a w):∀{args:List (Sh×bA)} {ops:List Operand} {vs:List V},(args.length=ops.length∧∀(i:Nat) sh x y,args[i]?=some (sh,x)→ops[i]?=some y→bZ y x=true)→nK S args=some vs →
  vs.length=ops.length∧∀(i:Nat) (v:V) (x:Value),vs[i]?=some v→(ops.map a.eval)[i]?=some x→bf ⟨w.heap,g,S.aD.length,[]⟩ v x
 |[],[],vs,_,h=>by simp[nK]at h;subst h;simp
 |[],_::_,_,h,_=>by simp at h
 |_::_,[],_,h,_=>by simp at h
 |(sh,x)::args,y::ops,vs,bz,h=>by
  simp only[nK]at h;split at h
  ·rename_i v hv
   split at h
   ·rename_i u us h1 h2
    cases h;have hr:=Xx h1 (c9 hR (bz.2 0 sh x y (by simp) (by simp)) hv)
    obtain⟨e,hx⟩:=Xy hR (args:=args) (ops:=ops) ⟨by simpa using bz.1,fun i z7 x' y' hi hj=>bz.2 (i+1) z7 x' y' (by simpa using hi) (by simpa using hj)⟩ h2
    refine⟨by simp[e],fun i z zz hz tM=>?_⟩
    cases i with
    |zero=>simp at hz tM;subst hz;subst tM;exact hr
    |succ i=>exact hx i z zz (by simpa using hz) (by simpa using tM)
   ·cases h
  ·cases h
theorem ajw{h:Array Obj}{m:Nat→Nat}{tok:Option Nat}{n:Nat}{es:List (List V)}{x:Value}(hr:fF h m (.slice none n es) x):fF h m (.slice tok n es) x:=by
 cases hr with
 |nil=>exact .nil _ _
 |empty _ _ a cap=>exact .empty _ _ a cap
 |slice _ _ _ b off cap ys hb eK jc hc hv hp hm=>exact .slice tok n es b off cap ys hb eK jc hc hv hp hm
theorem Qd(reg:List (Nat×Nat)):∀(vs:List V) (i:Nat),(cY reg i vs).1.length=vs.length
 |[],i=>rfl
 |v::vs,i=>by
  have:=Qd reg vs (i+1);simp only[cY];split
  ·split<;>simp[this]
  ·simp[this]
theorem H2(reg:List (Nat×Nat)):∀(vs:List V) (i k:Nat) (u:V),(cY reg i vs).1[k]?=some u→∃v,vs[k]?=some v ∧
  ((∃t n es f,v=.slice (some t) n es∧look (i+k) reg=some f∧u=.slice (some f) n es)∨u=strip v)
 |[],i,k,u,h=>by simp[cY]at h
 |v::vs,i,k,u,h=>by
  simp only[cY]at h;split at h
  ·rename_i t n es
   split at h
   ·rename_i f hf
    cases k with
    |zero=>simp at h;subst h;exact⟨.slice (some t) n es,by simp,.inl ⟨t,n,es,f,rfl,by simpa using hf,rfl⟩⟩
    |succ k =>
     obtain⟨z,hz,hc⟩:=H2 reg vs (i+1) k u (by simpa using h)
     refine⟨z,by simpa using hz,?_⟩
     rw[show i+(k+1)=i+1+k from by omega];exact hc
   ·cases k with
    |zero=>simp at h;subst h;exact⟨.slice (some t) n es,by simp,.inr rfl⟩
    |succ k =>
     obtain⟨z,hz,hc⟩:=H2 reg vs (i+1) k u (by simpa using h)
     refine⟨z,by simpa using hz,?_⟩
     rw[show i+(k+1)=i+1+k from by omega];exact hc
  ·cases k with
   |zero=>simp at h;subst h;exact⟨_,by simp,.inr rfl⟩
   |succ k =>
    obtain⟨z,hz,hc⟩:=H2 reg vs (i+1) k u (by simpa using h)
    refine⟨z,by simpa using hz,?_⟩
    rw[show i+(k+1)=i+1+k from by omega];exact hc
theorem Fb(reg:List (Nat×Nat)):∀(vs:List V) (i:Nat) (f k:Nat),(f,k)∈(cY reg i vs).2→∃p t n es,vs[p]?=some (.slice (some t) n es)∧look (i+p) reg=some f∧k=es.length
 |[],i,f,k,h=>by simp[cY]at h
 |v::vs,i,f,k,h=>by
  have shift:(∃p t n es,vs[p]?=some (.slice (some t) n es)∧look (i+1+p) reg=some f∧k=es.length)→∃p t n es,(v::vs)[p]?=some (.slice (some t) n es)∧look (i+p) reg=some f∧k=es.length:=by
   rintro⟨p,t,n,es,h1,h2,h3⟩;exact⟨p+1,t,n,es,by simpa using h1,by rw[show i+(p+1)=i+1+p from by omega];exact h2,h3⟩
  simp only[cY]at h;split at h
  ·rename_i t n es
   split at h
   ·rename_i f' hf
    rcases jQ.1 h with h|h
    ·cases h;exact⟨0,t,n,es,by simp,by simpa using hf,rfl⟩
    ·exact shift (Fb reg vs (i+1) f k h)
   ·exact shift (Fb reg vs (i+1) f k h)
  ·exact shift (Fb reg vs (i+1) f k h)
theorem vO{α:Type}{s:Nat}{v:α}:∀{l:List (Nat×α)},look s l=some v→(s,v)∈l
 |[],h=>by simp[look]at h
 |(k,u)::r,h=>by
  rw[dL]at h;split at h
  ·rename_i e;cases h;rw[e];exact xV
  ·exact CR _ (vO h)
theorem z8{α:Type}{s:Nat}:∀{l r:List (Nat×α)},look s (l++r)=match look s l with|some v=>some v|none=>look s r
 |[],r=>rfl
 |(k,u)::l,r=>by
  rw[uu,dL,dL];split
  ·rfl
  ·exact z8
def Dl(reg:List (Nat×Nat)):List Nat:=reg.map (·.2)
def inj(reg:List (Nat×Nat)):Bool:=(Dl reg).Nodup&&(reg.map (·.1)).Nodup
theorem ajx{reg:List (Nat×Nat)}(h1:(reg.map (·.2)).Nodup){p q f:Nat}(hp:(p,f)∈reg)(hq:(q,f)∈reg):p=q:=by
 induction reg with
 |nil=>cases hp
 |cons x r ih =>
  simp only[oH,List.nodup_cons]at h1;rcases jQ.1 hp with e1|e1<;>rcases jQ.1 hq with e2|e2
  ·rw[←e1]at e2;cases e2;rfl
  ·exact absurd (nc.2 ⟨_,e2,rfl⟩) (by rw[←e1]at h1;exact h1.1)
  ·exact absurd (nc.2 ⟨_,e1,rfl⟩) (by rw[←e2]at h1;exact h1.1)
  ·exact ih h1.2 e1 e2
theorem Xz{reg:List (Nat×Nat)}(h:inj reg=true){p q f:Nat}(hp:look p reg=some f)(hq:look q reg=some f):p=q:=by
 simp only[inj,b8,kA]at h;exact ajx h.1 (vO hp) (vO hq)
theorem Lq(reg:List (Nat×Nat))(r:V):recv reg r=(uL r (cY reg 0 r.gD).1,(cY reg 0 r.gD).2):=by
 have h:∀v:V,∃u ts,cY reg 0 [v]=([u],ts):=fun v=>by
  simp only[cY];split
  ·split<;>exact⟨_,_,rfl⟩
  ·exact⟨_,_,rfl⟩
 cases r<;>first
  |rfl
  |(rename_i x y z;obtain⟨u,ts,e⟩:=h (.slice x y z);simp only[recv,V.gD,uL,e];rfl)
  |(rename_i x y z;obtain⟨u,ts,e⟩:=h (.bR x y z);simp only[recv,V.gD,uL,e];rfl)
  |(simp only[recv,V.gD,uL,cY];rfl)
theorem R.called(hR:R E g S a w){G':List aP}(hx:Ext w g S.aD.length w' g' G'.length)(hG:tF w'.heap g' G'){r:V}{x:Value}(hr:yB ⟨w'.heap,g',G'.length,[]⟩ w.heap.size (lp g) r x)
  {reg:List (Nat×Nat)} (Fc:inj reg=true) (vP:∀p f,look p reg=some f→S.fb f) :
  ∃gn,R E gn { S with aD:=G',bl:=(recv reg r).2++S.bl } a w'∧bf (({ S with aD:=G',bl:=(recv reg r).2++S.bl }:St).cx gn w') (recv reg r).1 x ∧
   gn.m=g'.m∧∀b p,w.heap.size≤b→g'.ow b=.tok p→look p reg=none→gn.ow b=.none:=by
 classical
 obtain⟨ys,uJ,hlen,gO⟩:=hr;rw[Lq];simp only
 let T':=(cY reg 0 r.gD).2++S.bl
 have Qe:∀f k,look f (cY reg 0 r.gD).2=some k→∃p t n es y,r.gD[p]?=some (.slice (some t) n es)∧look p reg=some f∧k=es.length∧ys[p]?=some y:=fun f k hk=>by
  obtain⟨p,t,n,es,h1,h2,h3⟩:=Fb reg _ 0 f k (vO hk);have hp:=fa h1;exact⟨p,t,n,es,ys[p]'(by omega),h1,by simpa using h2,h3,g8 (by omega)⟩
 let Q:Nat→Nat×Value→Prop:=fun f q=>look q.1 reg=some f∧ys[q.1]?=some q.2
 let τn:Nat→Option Nat:=fun f=>if h:∃q,Q f q then BE h.choose.2 else g.τ f
 have hτ:∀f p y,look p reg=some f→ys[p]?=some y→τn f=BE y:=fun f p y hp hy=>by
  have hq:∃q,Q f q:=⟨(p,y),hp,hy⟩;show(if h:∃q,Q f q then BE h.choose.2 else g.τ f)=_
  rw[dif_pos hq];obtain⟨h1,h2⟩:=hq.choose_spec;have e:=Xz Fc h1 hp;rw[e,hy]at h2;rw[←Option.some.inj h2]
 have XA:∀f,(∀p,look p reg≠some f)→τn f=g.τ f:=fun f hp=>by
  show(if h:∃q,Q f q then BE h.choose.2 else g.τ f)=_
  rw[dif_neg (fun h=>by obtain⟨q,h1,_⟩:=h;exact hp _ h1)]
 let own:Nat→Ow:=fun b=>if b<w.heap.size∧¬ (lp g b∨∃i,g.ow b=.aD i) then g.ow b else match g'.ow b with
  |.tok p=>(match look p reg with|some f=>.tok f|none=>.none)
  |.aD i=>.aD i
  |.cell p q=>.cell p q
  |_=>.none
 have Qf:∀b,b<w.heap.size→¬ lp g b→(∀i,g.ow b≠.aD i)→own b=g.ow b:=fun b h k l=>aK ⟨h,fun q=>q.elim k fun⟨i,e⟩=>l i e⟩;have Fe:∀b,w.heap.size≤b∨lp g b∨(∃i,g.ow b=.aD i)→own b=match g'.ow b with
  |.tok p=>(match look p reg with|some f=>.tok f|none=>.none)
  |.aD i=>.aD i
  |.cell p q=>.cell p q
  |_=>.none:=fun b h=>av (fun k=>h.elim (fun h=>by omega) k.2)
 have ajy:∀b i,g'.ow b=.aD i→own b=.aD i:=fun b i h=>by
  rcases cM b w.heap.size with hb|hb
  ·rw[Fe b (.inr (.inr ⟨i,(hx.lv b i h hb).1⟩)),h]
  ·rw[Fe b (.inl hb),h]
 have XB:∀b i,own b=.aD i→g'.ow b=.aD i:=fun b i h=>by
  by_cases hc:b<w.heap.size∧¬ (lp g b∨∃i,g.ow b=.aD i)
  ·have e:own b=g.ow b:=aK hc
   rw[e]at h;exact absurd (.inr ⟨i,h⟩) hc.2
  ·have e:own b=_:=av hc
   rw[e]at h;split at h
   ·split at h<;>cases h
   ·rename_i k hk;cases h;exact hk
   ·cases h
   ·cases h
 have Lr:∀{b o},g.ow b=o→(∀p q,o≠.cell p q)→¬ lp g b:=fun h1 h2 ⟨p,q,h3⟩=>h2 p q (h1.symm.trans h3)
 let gn:Gh:={ m:=g'.m,κ:=g.κ,cp:=g.cp,τ:=τn,γ:=g'.γ,ow:=own }
 have hold:∀b,b<w.heap.size→(∀i,g.ow b≠.aD i)→¬ lp g b→w'.heap[b]?=w.heap[b]?∧g'.m b=g.m b:=fun b hb ho hn =>
  hx.l7 b hb (fun i _=>ho i) hn
 have le:Le (S.cx g w) ⟨w'.heap,gn,G'.length,T'⟩ :=
  {size:=hx.size
   cells:=fun b o y ho hy=>by
    have hb:=Bs hy;show cellAt w'.heap b o=some y;by_cases hw:lp g b
    ·exact(hx.grow b hb hw).1 o y ho hy
    rw[tE (hx.l7 b hb (fun i hi e=>?_) hw).1]
    ·exact hy
    ·have ho:o<g.m b:=ho
     rw[(hR.aD.z b i e).1]at ho;omega
   m:=fun b hb=>by
    show g.m b≤g'.m b;by_cases hw:lp g b
    ·exact(hx.grow b hb hw).2
    by_cases h:∃i,g.ow b=.aD i
    ·obtain⟨i,e⟩:=h
     rw[(hR.aD.z b i e).1];omega
    ·rw[(hx.l7 b hb (fun i hi e=>h ⟨i,e⟩) hw).2];exact bY _
   eW:=hx.eW
   γ:=hx.γ }
 have Qg:∀f,(∀p,look p reg≠some f)→look f T'=look f S.bl:=fun f hf=>by
  show look f ((cY reg 0 r.gD).2++S.bl)=_;rw[z8];cases h:look f (cY reg 0 r.gD).2 with
  |none=>rfl
  |some k =>
   obtain⟨p,_,_,_,_,_,h2,_,_⟩:=Qe f k h;exact absurd h2 (hf p)
 have XC:∀f k p,look p reg=some f→look f T'=some k→look f (cY reg 0 r.gD).2=some k:=fun f k p hp hk=>by
  have hk:look f ((cY reg 0 r.gD).2++S.bl)=some k:=hk;rw[z8]at hk;cases h:look f (cY reg 0 r.gD).2 with
  |none=>rw[h]at hk;simp only at hk;rw[(vP p f hp).tok]at hk;cases hk
  |some k'=>rw[h]at hk;exact hk
 have keeps:∀d,jB (S.cx g w) ⟨w'.heap,gn,G'.length,T'⟩ d∨S.fb d:=fun d=>by
  by_cases hd:∃p,look p reg=some d
  ·obtain⟨p,hp⟩:=hd
   exact .inr (vP p d hp)
  ·have hd:∀p,look p reg≠some d:=fun p e=>hd ⟨p,e⟩
   refine .inl ⟨rfl,rfl,fun k' ld=>?_⟩;have hk:look d S.bl=some k':=by rw[←Qg d hd];exact ld
   refine⟨k',hk,bY _,fun _=>⟨XA d hd,fun b hb=>?_⟩⟩;obtain⟨h1,h2,h3⟩:=hR.bl d k' b hk hb;obtain⟨h4,h5⟩:=hold b h3 (fun i e=>by rw[h1]at e;cases e) (Lr h1 (fun _ _ e=>by cases e))
   exact⟨h5,fun c e hc=>⟨c,h4.trans hc,rfl⟩⟩
 have Ls:∀T,Le ⟨w'.heap,g',G'.length,[]⟩ ⟨w'.heap,gn,G'.length,T⟩:=fun T=>⟨bY _,fun _ _ _ _ h=>h,fun _ _=>bY _,bY _,fun _ _=>rfl⟩;refine⟨gn,⟨fun s v hs=>?_,fun id cs ho=>?_,fun f k b hf hb=>?_,⟨fun i o ho=>?_,fun i o ho=>?_,fun b i ho=>?_⟩,hR.defers,hR.kb,?_⟩,?_,rfl,fun b p hb ho hl=>by show own b=_;rw[Fe b (.inl hb),ho];simp only[hl]⟩
 ·obtain⟨x,h1,h2⟩:=hR.env s v hs
  exact⟨x,h1,h2.mono le fun d=>(keeps d).imp (fun z=>z) fun h=>h.env s v hs⟩
 ·rcases hR.aZ id cs ho with h0 | ⟨h1,h2,h3,c,e,h4,fY,h5⟩
  ·exact .inl h0
  have bI:g.κ id<w.heap.size:=by
   rcases cM (g.κ id) w.heap.size with h|h
   ·exact h
   ·simp[nb h]at h4
  obtain⟨h6,h7⟩:=hold _ bI (fun i e=>by rw[h1]at e;cases e) (Lr h1 (fun _ _ e=>by cases e))
  refine .inr ⟨(Qf _ bI (Lr h1 (fun _ _ e=>by cases e)) (fun i e=>by rw[h1]at e;cases e)).trans h1,h2,h7.trans h3,c,e,h6.trans h4,fY,fun j v hj=>?_⟩
  obtain⟨h8,y,h9,gf⟩:=h5 j v hj;exact⟨h8,y,h9,gf.mono le fun d=>(keeps d).imp (fun z=>z) fun h=>uF (h.aZ id cs ho v (g9 hj))⟩
 ·by_cases hd:∃p,look p reg=some f
  ·obtain⟨p0,hp0⟩:=hd
   obtain⟨p,t,n,es,y,h1,h2,h3,h4⟩:=Qe f k (XC f k p0 hp0 hf);obtain⟨_,_,tN⟩:=gO p _ y h1 h4;have hb:τn f=some b:=hb;rw[hτ f p y h2 h4]at hb;rcases tN t n es rfl with⟨_,e⟩ | ⟨b',off,cap,c,e,h5,h6,h7,h8,h9,gf⟩
   ·rw[P4 e]at hb;cases hb
   ·rw[h5,HV gf.2.2,Option.some.injEq]at hb
    subst hb;refine⟨?_,?_,?_⟩
    ·show own b'=_
     have h7:g'.ow b'=.tok p:=h7;rw[Fe b' (h6.imp (fun z=>z) .inl),h7];simp only[h2]
    ·rcases h6 with h6 | ⟨p',q',h6⟩
     ·exact .inl (kL hR.same.size h6)
     ·rcases cM b' E.w0.heap.size with h|h
      ·exact .inr (hR.same.iW b' p' q' h h6)
      ·exact .inl h
    ·rcases cM b' w'.heap.size with h|h
     ·exact h
     ·simp[nb h]at h9
  ·have hd:∀p,look p reg≠some f:=fun p e=>hd ⟨p,e⟩
   have PQ:look f S.bl=some k:=by rw[←Qg f hd];exact hf
   have oR:g.τ f=some b:=by rw[←XA f hd];exact hb
   obtain⟨h1,h2,h3⟩:=hR.bl f k b PQ oR;exact⟨(Qf b h3 (Lr h1 (fun _ _ e=>by cases e)) (fun i e=>by rw[h1]at e;cases e)).trans h1,h2,ja h3 hx.size⟩
 ·rcases hG.obj i o ho with h0 | ⟨h1,h2⟩
  ·exact .inl h0
  have hi:=fa ho;refine .inr ⟨?_,?_⟩
  ·exact ajy _ _ h1
  ·cases o with
   |map es =>
    obtain⟨h3,c,e,h4,h5,h6⟩:=h2;refine⟨h3,c,e,h4,h5,fun j v y hj hy=>?_⟩;obtain⟨h7,h8,h9,gf⟩:=h6 j v y hj hy;exact⟨h7,h8,h9.mono (Ls []) fun d=>.inr (h7 d),gf.mono (Ls []) fun d=>.inr (wW (h8 d))⟩
   |cells cs =>
    obtain⟨h3,c,e,h4,h5,h6⟩:=h2;refine⟨h3,c,e,h4,h5,fun j v y hj hy=>?_⟩;obtain⟨h7,h8,h9⟩:=h6 j v y hj hy;exact⟨h7,h8,h9.mono (Ls []) fun d=>.inr (h8 d)⟩
 ·have h3:=hG.own i o ho
  cases o with
  |map es=>trivial
  |cells cs =>
   intro j n es y hj hy;rcases h3 j n es y hj hy with h | ⟨q,cap,c',e',q1,q2,q3,q4,q5,q6⟩
   ·exact .inl h
   ·refine .inr ⟨q,cap,c',e',q1,?_,q3,q4,q5,q6⟩
    show own q=_;rw[Fe q,q2];rcases cM q w.heap.size with h|h
    ·exact .inr (.inl (hx.iW q _ _ h q2))
    ·exact .inl h
 ·exact hG.z b i (XB b i ho)
 ·exact {
   os:=hx.os.trans hR.same.os
   tape:=hx.tape.trans hR.same.tape
   output:=hx.output.trans hR.same.output
   size:=kL hR.same.size hx.size
   eW:=kL hR.same.eW hx.eW
   γ:=fun i hi=>(hx.γ i (ja hi hR.same.eW)).trans (hR.same.γ i hi)
   γnew:=fun i h1 h2=>by
    by_cases h:i<S.aD.length
    ·show _≤g'.γ i
     rw[hx.γ i h];exact hR.same.γnew i h1 h
    ·exact kL hR.same.size (hx.γnew i (by omega) h2)
   l7:=fun b hb kc yk=>by
    obtain⟨h1,h2⟩:=hR.same.l7 b hb kc yk;obtain⟨h3,h4⟩:=hx.l7 b (ja hb hR.same.size) (fun i hi e=>by
     obtain⟨k1,k2⟩:=hR.same.lv b i e hb;exact kc i k2 k1) (fun⟨p,q,h⟩=>yk (hR.same.iW b p q hb h))
    exact⟨h3.trans h1,h4.trans h2⟩
   grow:=fun b hb hw=>by
    obtain⟨h1,h2⟩:=hR.same.grow b hb hw;have bI:=ja hb hR.same.size;exact⟨fun o y ho hy=>le.cells b o y (ja ho h2) (h1 o y ho hy),kL h2 (le.m b bI)⟩
   iW:=fun b p q hb ho=>by
    have ho:own b=.cell p q:=ho;have bI:=ja hb hR.same.size;by_cases hw:lp g b
    ·obtain⟨p',q',hw⟩:=hw
     exact hR.same.iW b p' q' hb hw
    ·by_cases Dn:∃i,g.ow b=.aD i
     ·rw[Fe b (.inr (.inr Dn))]at ho
      split at ho
      ·split at ho<;>cases ho
      ·cases ho
      ·rename_i hk;cases ho;exact absurd (hx.iW b _ _ bI hk) hw
      ·cases ho
     ·rw[Qf b bI hw (fun i e=>Dn ⟨i,e⟩)]at ho
      exact absurd ⟨p,q,ho⟩ hw
   lv:=fun b i ho hb=>by
    have bI:=ja hb hR.same.size;exact hR.same.lv b i (hx.lv b i (XB b i ho) bI).1 hb }
 ·have Qh:∀(k:Nat) (u:V) (y:Value),(cY reg 0 r.gD).1[k]?=some u→ys[k]?=some y→bf ⟨w'.heap,gn,G'.length,T'⟩ u y:=fun k u y hu hy=>by
   obtain⟨v,hv,hc⟩:=H2 reg _ 0 k u hu;obtain⟨q1,q2,q3⟩:=gO k v y hv hy;rcases hc with⟨t,n,es,f,rfl,h2,rfl⟩ | rfl
   ·rw[kz]at h2
    have De:fF w'.heap g'.m (.slice none n es) y:=by
     cases q1 with|plain h _=>exact h
    refine .plain (ajw De) (fun f' n' ql he k' ld=>?_);cases he;obtain⟨p,t',n',ql,y',h3,h4,h5,h6⟩:=Qe f k' (XC f k' k h2 ld);have:p=k:=Xz Fc h4 h2;subst this;rw[hv]at h3;cases h3;rw[hy]at h6;cases h6;subst h5;refine⟨bY _,fun _=>?_⟩;rcases q3 t n es rfl with⟨e1,e2⟩ | ⟨b,off,cap,c,e,h7,h8,h9,gf,kR,uM⟩
    ·exact .inl ⟨by rw[e1];rfl,e2⟩
    ·exact .inr ⟨b,off,cap,c,e,by show τn f=_;rw[hτ f p y h2 hy,h7];exact HV uM.2.2,h7,gf,kR,uM⟩
   ·exact q1.mono (Ls _) fun d=>.inr (q2 d)
  have Aa:=Qd reg r.gD 0;show bf ⟨w'.heap,gn,G'.length,T'⟩ _ _;have single:r.gD=[r]→ys=[x]→(∀us,uL r us=us.headD .undef)→bf ⟨w'.heap,gn,G'.length,T'⟩ (uL r (cY reg 0 r.gD).1) x:=fun e1 e2 e3=>by
   rw[e3];have pF:(cY reg 0 r.gD).1.length=1:=by rw[Aa,e1];rfl
   match sY:(cY reg 0 r.gD).1,pF with
   |[u],_=>exact Qh 0 u x (by rw[sY];rfl) (by rw[e2];rfl)
  cases r with
  |tuple vs =>
   have uJ:x=.tuple ys.toArray:=uJ;subst uJ;exact .tuple _ _ (by rw[Aa];simpa using hlen.symm) (fun i v y hv hy=>Qh i v y hv (by simpa using hy))
  |agg vs =>
   have uJ:x=.agg ys.toArray:=uJ;subst uJ;exact .agg _ _ (by rw[Aa];simpa using hlen.symm) (fun i v y hv hy=>Qh i v y hv (by simpa using hy))
  |_=>exact single rfl uJ (fun _=>rfl)
theorem XD{o:Oper}{f:Operand}{args:Array Operand}{ts:Array TypeId}{fo:bA}{as:List (Sh×bA)}{reg:List (Nat×Nat)}{C:bD}(ho:o.op=.call ⟨.value f,args,ts⟩)(hf:bZ f fo=true)
  (has:as.length=args.toList.length∧∀(i:Nat) sh x y,as[i]?=some (sh,x)→args.toList[i]?=some y→bZ y x=true)
  (hC:∀f args G r G',C f args G=some (r,G')→vN P E.T f args G r G')
  (Fc:inj reg=true) (vP:∀p f,look p reg=some f→S.fb f)
  (hR:R E g S a w) (hd:∀d,o.dst=some d→d<E.nt) (ah:VO.run C o.dst S (.call false fo as reg)=some S'):ct P E o S S' a w:=by
 simp only[VO.run]at ah;split at ah
 ·rename_i og cap vs yC tG
  split at ah
  ·rename_i r G' lq
   cases ah;have xa:=hC _ _ _ _ _ lq;obtain⟨fn,sZ,xb,qQ⟩:=xa.fn;obtain⟨xs,e1,dJ,ni⟩:∃xs:Array Value,a.eval f=.func (.func (jA og)) #[] xs∧cap.length=xs.size∧∀(j:Nat) (v:V),cap[j]?=some v→∃i o,v=.bH i o∧i<S.aD.length∧xs[j]?=some (.pointer (some ⟨g.γ i,o,none⟩)):=by
    have hr:=c9 hR hf yC;generalize a.eval f=y at hr;cases hr with
    |plain h _=>cases h
    |fn _ _ xs hl hx=>exact⟨xs,rfl,hl,hx⟩
   obtain⟨hl,hx⟩:=Xy hR has tG;have fQ:(execOp a.eval o).run P w=.ok (.enter (jA og) (args.map a.eval++xs)) w:=by
    simp[execOp,ho,resolve,e1,Deferred.ofValue,invoke,callFunc,sZ];simp at qQ;cases hb:fn.body with
    |none=>simp[hb]at xb
    |some c=>simp[qQ]
   intro K Q hK;unfold Oper.wp;rw[fQ,Oper.upon_enter];have ah:=xa.run w g ((args.toList.map a.eval)++xs.toList) hR.pk hR.aD (by simp;simp at hl;omega) (fun i v x hv mT=>by
    rw[qB]at hv mT;have Ff:vs.length=(args.toList.map a.eval).length:=by rw[zJ];exact hl
    split at hv
    ·rename_i h
     rw[aK (by omega)]at mT
     exact hx i v x hv mT
    ·rename_i h
     rw[av (by omega)]at mT
     obtain⟨k,o',e2,hk,h3⟩:=ni _ v hv;rw[Ff]at h3;subst e2;have:x=.pointer (some ⟨g.γ k,o',none⟩):=by
      have h4:xs.toList[i-(args.toList.map a.eval).length]?=some (.pointer (some ⟨g.γ k,o',none⟩)):=by simpa using h3
      rw[h4]at mT;exact(Option.some.inj mT).symm
     rw[this];exact .bH k o' hk)
   have yD:((args.toList.map a.eval)++xs.toList).toArray=args.map a.eval++xs:=by
    apply nF;simp
   rw[yD]at ah;refine ah.mono fun e w' ⟨x,g',he,hext,hG,mc⟩=>?_;subst he;obtain⟨gn,r1,r2,_⟩:=hR.called hext hG mc Fc vP;exact hK gn _ _ (r1.put hd r2)
  ·cases ah
 ·cases ah
theorem XE{X:Cx}{sh:Sh}{v u:V}{y:Value}(h:qg sh v=some u)(hr:bf X v y)(N:Nat):bf ⟨X.h,X.g,N,[]⟩ u y:=by
 unfold qg at h;split at h
 ·split at h
  ·rename_i cs hg
   cases h;obtain⟨xs,e,hl,hx⟩:=rU hr;subst e;obtain⟨e1,e2⟩:=HK hg;refine .agg _ _ (by omega) (fun i v x hv mT=>?_)
   obtain⟨z,s,hz,Qc⟩:=Lg hg i v hv;obtain⟨p,q⟩:=HJ Qc (hx i z x hz mT);exact .plain q (uI p)
  ·cases h
 ·cases h
  cases hr with
  |plain h _=>cases h
  |fn _ _ xs hl _=>exact .fn _ [] xs hl fun j v hj=>by simp at hj
 ·split at h
  ·obtain⟨p,q⟩:=HJ h hr
   exact .plain q (uI p)
  ·cases h
theorem XF(hR:R E g S a w)(N:Nat):∀{args:List (Sh×bA)} {ops:List Operand} {vs:List V},(args.length=ops.length∧∀(i:Nat) sh x y,args[i]?=some (sh,x)→ops[i]?=some y→bZ y x=true)→nL S args=some vs →
  vs.length=ops.length∧∀(i:Nat) (v:V) (x:Value),vs[i]?=some v→(ops.map a.eval)[i]?=some x→bf ⟨w.heap,g,N,[]⟩ v x
 |[],[],vs,_,h=>by simp[nL]at h;subst h;simp
 |[],_::_,_,h,_=>by simp at h
 |_::_,[],_,h,_=>by simp at h
 |(sh,x)::args,y::ops,vs,bz,h=>by
  simp only[nL]at h;split at h
  ·rename_i v hv
   split at h
   ·rename_i u us h1 h2
    cases h;have hr:=XE h1 (c9 hR (bz.2 0 sh x y (by simp) (by simp)) hv) N
    obtain⟨e,hx⟩:=XF hR N (args:=args) (ops:=ops) ⟨by simpa using bz.1,fun i z7 x' y' hi hj=>bz.2 (i+1) z7 x' y' (by simpa using hi) (by simpa using hj)⟩ h2
    refine⟨by simp[e],fun i z zz hz tM=>?_⟩
    cases i with
    |zero=>simp at hz tM;subst hz;subst tM;exact hr
    |succ i=>exact hx i z zz (by simpa using hz) (by simpa using tM)
   ·cases h
  ·cases h
theorem XG{X:Cx}{v:V}{x:Value}(h:v.jb=true)(hr:bf X (iD v) x):fF X.h X.g.m (iD v) x:=by
 cases v<;>simp_all[V.jb,V.plain,iD]
 all_goals (cases hr with|plain h _=>exact h)
theorem ajA{X X':Cx}(hh:X'.h=X.h)(hm:X'.g.m=X.g.m){v:V}{x:Value}(h:v.jo=true)(hr:bf X (strip v) x):bf X' (strip v) x:=by
 have key:(∃cs,v=.agg cs)∨(v.jo=v.jb∧strip v=iD v):=by
  cases v<;>first|(left;exact⟨_,rfl⟩)|(right;exact⟨rfl,rfl⟩)
 rcases key with⟨cs,rfl⟩ | ⟨k1,k2⟩
 ·simp only[V.jo,iL]at h
  obtain⟨xs,e,hl,hx⟩:=rU hr;subst e;refine .agg _ _ hl (fun i u y hu hy=>?_);have H5:=hu;rw[vp]at hu;cases hc:cs[i]? with
  |none=>simp[hc]at hu
  |some z =>
   simp[hc]at hu;subst hu;have hz:=h z (g9 hc);have:=XG hz (hx i _ y H5 hy);rw[←hh,← hm]at this;exact .plain this (fun f n es e=>by cases z<;>simp[iD]at e)
 ·rw[k1]at h
  rw[k2]at hr ⊢;have:=XG h hr;rw[←hh,← hm]at this;exact .plain this (fun f n es e=>by cases v<;>simp[iD]at e)
def noCell(g:Gh):Gh:={ g with ow:=fun b=>match g.ow b with | .cell _ _=>.none | .aD _=>.none|q=>q }
theorem Fg(g:Gh)(b:Nat):¬ lp (noCell g) b:=fun⟨p,q,h⟩=>by
 have h:(match g.ow b with | .cell _ _=>Ow.none | .aD _=>Ow.none|q=>q)=.cell p q:=h
 split at h
 ·cases h
 ·cases h
 ·rename_i h2 h3;exact h2 _ _ h
theorem Qi(g:Gh)(b i:Nat)(h:(noCell g).ow b=.aD i):(noCell g).m b=0∧i<0:=by
 have h:(match g.ow b with | .cell _ _=>Ow.none | .aD _=>Ow.none|q=>q)=.aD i:=h
 split at h
 ·cases h
 ·cases h
 ·rename_i h2 h3;exact absurd h (h3 _)
theorem ajB{r:V}(h:r.lone=true):∀v∈r.gD,v.jo=true:=fun v hv=>by
 cases r with
 |tuple vs=>simp only[V.lone,iL]at h;exact h v hv
 |agg cs =>
  simp only[V.lone,V.jo,iL]at h;have:=h v hv;cases v<;>simp_all[V.jb,V.jo,V.plain]
 |_ =>
  simp only[V.gD,pq]at hv;subst hv;exact h
theorem ajC{o:Oper}{f:Operand}{args:Array Operand}{ts:Array TypeId}{fo:bA}{as:List (Sh×bA)}{reg:List (Nat×Nat)}{C:bD}(ho:o.op=.call ⟨.value f,args,ts⟩)(hf:bZ f fo=true)
  (has:as.length=args.toList.length∧∀(i:Nat) sh x y,as[i]?=some (sh,x)→args.toList[i]?=some y→bZ y x=true)
  (hC:∀f args G r G',C f args G=some (r,G')→vN P E.T f args G r G')
  (Fc:inj reg=true) (vP:∀p f,look p reg=some f→S.fb f)
  (hR:R E g S a w) (hd:∀d,o.dst=some d→d<E.nt) (ah:VO.run C o.dst S (.call true fo as reg)=some S'):ct P E o S S' a w:=by
 simp only[VO.run]at ah;split at ah
 ·rename_i og vs yC tG
  split at ah
  ·rename_i r G' lq
   cases Fh:r.lone with
   |false=>simp[Fh]at ah
   |true =>
    simp only[Fh,bM]at ah;cases ah;have xa:=hC _ _ _ _ _ lq;obtain⟨fn,sZ,xb,qQ⟩:=xa.fn;have e1:a.eval f=.func (.func (jA og)) #[] #[]:=by
     have hr:=c9 hR hf yC;generalize a.eval f=y at hr;cases hr with
     |plain h _=>cases h
     |fn _ _ xs hl hx =>
      have:xs = #[]:=by
       apply ED;simpa using hl.symm
      rw[this]
    obtain⟨hl,hx⟩:=XF hR 0 has tG;have fQ:(execOp a.eval o).run P w=.ok (.enter (jA og) (args.map a.eval)) w:=by
     simp[execOp,ho,resolve,e1,Deferred.ofValue,invoke,callFunc,sZ];simp at qQ;cases hb:fn.body with
     |none=>simp[hb]at xb
     |some c=>simp[qQ]
    intro K Q hK;unfold Oper.wp;rw[fQ,Oper.upon_enter];have Fi:∀b,¬ lp (noCell g) b:=Fg g;have ah:=xa.run w (noCell g) (args.toList.map a.eval) hR.pk ⟨fun i o h=>by simp at h,fun i o h=>by simp at h,Qi g⟩ (by simp;simpa using hl) (fun i v x hv mT=>bf.mono (X:=⟨w.heap,g,0,[]⟩) (X':=⟨w.heap,noCell g,0,[]⟩) ⟨bY _,fun _ _ _ _ h=>h,fun _ _=>bY _,bY _,fun _ _=>rfl⟩ (hx i v x hv mT) (fun d=>.inl ⟨rfl,rfl,fun k hk=>by simp[look]at hk⟩))
    have yD:(args.toList.map a.eval).toArray=args.map a.eval:=by
     apply nF;simp
    rw[yD]at ah;refine ah.mono fun e w' ⟨x,g',he,hext,hG,mc⟩=>?_;subst he
    let g2:Gh:={ g' with γ:=g.γ,ow:=fun b=>if b<w.heap.size then g.ow b else match g'.ow b with | .aD _=>.none|q=>q }
    have hold:∀b,b<w.heap.size→w'.heap[b]?=w.heap[b]?∧g'.m b=g.m b:=fun b hb=>hext.l7 b hb (fun i hi=>absurd hi (by simp)) (Fi b)
    have BM:Ext w g S.aD.length w' g2 S.aD.length:=⟨hext.os,hext.tape,hext.output,hext.size,bY _,fun _ _=>rfl,fun i a b=>absurd a (by omega),fun b hb _ _=>hold b hb,
     fun b hb _=>⟨fun o y _ hy=>by rw[tE (hold b hb).1];exact hy,vq (hold b hb).2.symm⟩,fun b p q hb h=>⟨p,q,by(have h:(if b<w.heap.size then _ else _)=Ow.cell p q:=h);rw[aK hb]at h;exact h⟩,
     fun b i h hb=>by(have h:(if b<w.heap.size then _ else _)=Ow.aD i:=h);rw[aK hb]at h;exact⟨h,(hR.aD.z b i h).2⟩⟩
    have Qj:∀i o,S.aD[i]?=some o→C3 w'.heap g2 (g2.γ i) o:=fun i o hi=>by
     have h3:=hR.aD.own i o hi;cases o with
     |map es=>trivial
     |cells cs =>
      intro j n es y hj hy;have hy:cellAt w'.heap (g.γ i) j=some y:=hy;rw[tE (hold _ (E6 hR hi (Xt hj))).1]at hy;rcases h3 j n es y hj hy with h | ⟨q,cap,c',e',q1,q2,q3,q4,q5,q6⟩
      ·exact .inl h
      ·have oO:q<w.heap.size:=by
        rcases cM q w.heap.size with h|h
        ·exact h
        ·simp[nb h]at q4
       exact .inr ⟨q,cap,c',e',q1,by show(if q<w.heap.size then _ else _)=_;rw[aK oO];exact q2,(hold q oO).2.trans q3,(hold q oO).1.trans q4,q5,q6⟩
    have Qk:∀b i,g2.ow b=.aD i→g2.m b=0∧i<S.aD.length:=fun b i h=>by
     have h:(if b<w.heap.size then g.ow b else match g'.ow b with | .aD _=>.none|q=>q)=Ow.aD i:=h
     split at h
     ·rename_i hb
      obtain⟨z1,z2⟩:=hR.aD.z b i h;exact⟨(hold b hb).2.trans z1,z2⟩
     ·split at h
      ·cases h
      ·rename_i q hq;exact absurd h (hq i)
    have H6:tF w'.heap g2 S.aD:=⟨fun i o hi=>by
     rcases hR.aD.obj i o hi with h0 | ⟨h1,h2⟩
     ·exact .inl h0
     refine .inr ?_;cases o with
     |map es =>
      obtain⟨h3,c,e,h4,h5,h6⟩:=h2;have bI:g.γ i<w.heap.size:=by
       rcases cM (g.γ i) w.heap.size with h|h
       ·exact h
       ·simp[nb h]at h4
      obtain⟨q1,q2⟩:=hold _ bI;have le:Le ⟨w.heap,g,S.aD.length,[]⟩ ⟨w'.heap,g2,S.aD.length,[]⟩ :=
       ⟨hext.size,fun b o y ho hy=>by
        have hb:=Bs hy;show cellAt w'.heap b o=some y;rw[tE (hold b hb).1];exact hy,fun b hb=>vq (hold b hb).2.symm,bY _,fun _ _=>rfl⟩
      refine⟨by show(if g.γ i<w.heap.size then _ else _)=_;rw[aK bI];exact h1,q2.trans h3,c,e,q1.trans h4,h5,fun j v y hj hy=>?_⟩
      obtain⟨h7,h8,h9,gf⟩:=h6 j v y hj hy;exact⟨h7,h8,h9.mono le fun d=>.inr (h7 d),gf.mono le fun d=>.inr (wW (h8 d))⟩
     |cells cs =>
      obtain⟨h3,c,e,h4,h5,h6⟩:=h2;have bI:g.γ i<w.heap.size:=by
       rcases cM (g.γ i) w.heap.size with h|h
       ·exact h
       ·simp[nb h]at h4
      obtain⟨q1,q2⟩:=hold _ bI;have le:Le ⟨w.heap,g,S.aD.length,[]⟩ ⟨w'.heap,g2,S.aD.length,[]⟩ :=
       ⟨hext.size,fun b o y ho hy=>by
        have hb:=Bs hy;show cellAt w'.heap b o=some y;rw[tE (hold b hb).1];exact hy,fun b hb=>vq (hold b hb).2.symm,bY _,fun _ _=>rfl⟩
      refine⟨by show(if g.γ i<w.heap.size then _ else _)=_;rw[aK bI];exact h1,q2.trans h3,c,e,q1.trans h4,h5,fun j v y hj hy=>?_⟩
      obtain⟨h7,h8,h9⟩:=h6 j v y hj hy;exact⟨h7,h8,h9.mono le fun d=>.inr (h8 d)⟩,Qj,Qk⟩
    have ajD:yB ⟨w'.heap,g2,S.aD.length,[]⟩ w.heap.size (lp g) r x:=by
     obtain⟨ys,p1,p2,p3⟩:=mc;refine⟨ys,p1,p2,fun p v y hv hy=>?_⟩;obtain⟨q1,q2,q3⟩:=p3 p v y hv hy;refine⟨ajA (X:=⟨w'.heap,g',G'.length,[]⟩) (X':=⟨w'.heap,g2,S.aD.length,[]⟩) rfl rfl (ajB Fh v (g9 hv)) q1,q2,fun f n es e=>?_⟩;rcases q3 f n es e with h | ⟨b,off,cap,c,e,h1,h2,h3,h4,h5,h6⟩
     ·exact .inl h
     ·have h2:w.heap.size≤b:=h2.resolve_right (Fi b)
      refine .inr ⟨b,off,cap,c,e,h1,.inl h2,?_,h4,h5,h6⟩;show(if b<w.heap.size then _ else _)=_
      rw[av (by omega)]
      have h3:g'.ow b=.tok p:=h3;rw[h3]
    obtain⟨gn,r1,r2,_⟩:=hR.called BM H6 ajD Fc vP;exact hK gn _ _ (r1.put hd r2)
  ·cases ah
 ·cases ah
end
theorem XH:∀(i:Nat) (vs:List V),(cY [] i vs).2=[]
 |_,[]=>rfl
 |i,v::vs=>by
  have ih:=XH (i+1) vs;simp only[cY];split
  ·simp only[look];exact ih
  ·exact ih
theorem ajE(r:V):(recv [] r).2=[]:=by rw[Lq];exact XH _ _
theorem XI{C:bD}{d:Option Nat}{S S':St}{f:bA}{args:List (Sh×bA)}(h:VO.run C d S (.sJ f args)=some S'):VO.run C d S (.call false f args [])=some S':=by
 simp only[VO.run]at h ⊢;split at h
 ·split at h
  ·rename_i r G hc
   simp only[rd]at h;split at h
   ·rename_i e
    subst e;cases h;simp only[hc,ajE,EM]
   ·cases h
  ·cases h
 ·cases h
end Go.Vm

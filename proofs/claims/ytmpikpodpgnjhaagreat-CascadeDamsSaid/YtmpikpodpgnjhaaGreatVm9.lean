/- The value machine, 9: calls. -/
import Derived.Test.YtmpikpodpgnjhaaGreatVm8
import Derived.Defers
namespace Go.Vm
set_option linter.all false
def V.fN:V→List V
 |.tuple vs=>vs
 |.agg cs=>cs
 |v=>[v]
def rj(r:V)(us:List V):V :=
 match r with
 |.tuple _=>.tuple us
 |.agg _=>.agg us
 |_=>us.headD .undef
def wV(r:V):V:=rj r (r.fN.map strip)
def EY(r:V)(x:Value)(ys:List Value):Prop :=
 match r with
 |.tuple _=>x=.tuple ys.toArray
 |.agg _=>x=.agg ys.toArray
 |_=>ys=[x]
def IN(X:Cx)(base:Nat)(O:Nat→Prop)(p:Nat)(v:V)(x:Value):Prop :=
 ∀f n es,v=.slice (some f) n es→(es=[]∧kz x) ∨
  ∃b off cap c e,x=.slice (some ⟨b,off,none⟩) es.length cap∧(base≤b∨O b)∧X.g.ow b=.tok p∧X.g.m b=off+es.length*n∧X.h[b]?=some (.cells c e (0,0))∧off+cap*n≤c.size∧off=0∧0<es.length
def kF(g:Gh)(b:Nat):Prop:=∃p q,g.ow b=.cell p q
def uz(X:Cx)(base:Nat)(O:Nat→Prop)(r:V)(x:Value):Prop :=
 ∃ys,EY r x ys∧ys.length=r.fN.length∧∀(p:Nat) (v:V) (y:Value),r.fN[p]?=some v→ys[p]?=some y→bh X (strip v) y∧(∀d,(strip v).cB d=false)∧IN X base O p v y
structure Ext(w:World)(g:Gh)(N:Nat)(w':World)(g':Gh)(N':Nat):Prop where
 os:w'.os=w.os
 tape:w'.tape=w.tape
 output:w'.output=w.output
 size:w.heap.size≤w'.heap.size
 fa:N≤N'
 γ:∀i,i<N→g'.γ i=g.γ i
 γnew:∀i,N≤i→i<N'→w.heap.size≤g'.γ i
 lp:∀b,b<w.heap.size→(∀i,i<N→g.ow b≠.az i)→¬ kF g b→w'.heap[b]?=w.heap[b]?∧g'.m b=g.m b
 grow:∀b,b<w.heap.size→kF g b→(∀o y,o<g.m b→cellAt w.heap b o=some y→cellAt w'.heap b o=some y)∧g.m b≤g'.m b
 ia:∀b p q,b<w.heap.size→g'.ow b=.cell p q→kF g b
 lv:∀b i,g'.ow b=.az i→b<w.heap.size→g.ow b=.az i∧i<N
def OC:Code→Bool
 |.seq (.region _ ops _) _=>match ops.toList with
  |[_,o]=>(match o.op with | .defer _=>true|_=>false)
  |_=>false
 |_=>false
def EZ(P:Program)(f:FuncId):Bool :=
 match P.funcs[f]? with
 |some fn=>match fn.body with
  |some c => !OC c
  |none=>false
 |none=>false
structure r8(P:Program)(f:FuncId)(args:List V)(G:List aV)(r:V)(G':List aV):Prop where
 fn:∃fn,P.funcs[f]?=some fn∧fn.body.isSome=true∧(fn.name=="runtime.NumGoroutine")=false
 ret:∀d,(wV r).cB d=false
 run:∀(w:World) (g:Gh) (xs:List Value),qo w.heap g G→args.length=xs.length →
  (∀(i:Nat) (v:V) (x:Value),args[i]?=some v→xs[i]?=some x→bh ⟨w.heap,g,G.length,[]⟩ v x) →
  Calls P f xs.toArray w fun e w'=>∃x g',e=.returned x∧Ext w g G.length w' g' G'.length∧qo w'.heap g' G'∧uz ⟨w'.heap,g',G'.length,[]⟩ w.heap.size (kF g) r x
 IP:EZ P f=true→∀(u:FrameMode) (w:World) (g:Gh) (xs:List Value),qo w.heap g G→args.length=xs.length →
  (∀(i:Nat) (v:V) (x:Value),args[i]?=some v→xs[i]?=some x→bh ⟨w.heap,g,G.length,[]⟩ v x) →
  CallsD P f xs.toArray u w fun e u' w'=>u'=u∧∃x g',e=.returned x∧Ext w g G.length w' g' G'.length∧qo w'.heap g' G'∧uz ⟨w'.heap,g',G'.length,[]⟩ w.heap.size (kF g) r x
section
variable {P:Program} {E:Entry} {g g':Gh} {S S':St} {a:Act} {w w':World}
theorem OD{X:Cx}{sh:Sh}{v u:V}{y:Value}(h:wC sh v=some u)(hr:bh X v y):bh ⟨X.h,X.g,X.N,[]⟩ u y:=by
 unfold wC at h;split at h
 ·split at h
  ·rename_i cs hg
   cases h;obtain⟨xs,e,hl,hx⟩:=pj hr;subst e;obtain⟨e1,e2⟩:=IE hg;refine .agg _ _ (by omega) (fun i v x hv kc=>?_)
   obtain⟨z,s,hz,IQ⟩:=IF hg i v hv;exact(Ah IQ (hx i z x hz kc)).2.2.1
  ·cases h
 ·split at h
  ·exact(Ah h hr).2.2.1
  ·cases h
theorem OE(hR:R E g S a w):∀{args:List (Sh×bD)} {ops:List Operand} {vs:List V},(args.length=ops.length∧∀(i:Nat) sh x y,args[i]?=some (sh,x)→ops[i]?=some y→bX y x=true)→lQ S args=some vs →
  vs.length=ops.length∧∀(i:Nat) (v:V) (x:Value),vs[i]?=some v→(ops.map a.eval)[i]?=some x→bh ⟨w.heap,g,S.az.length,[]⟩ v x
 |[],[],vs,_,h=>by simp[lQ]at h;subst h;simp
 |[],_::_,_,h,_=>by simp at h
 |_::_,[],_,h,_=>by simp at h
 |(sh,x)::args,y::ops,vs,bz,h=>by
  simp only[lQ]at h;split at h
  ·rename_i v hv
   split at h
   ·rename_i u us h1 h2
    cases h;have hr:=OD h1 (cX hR (bz.2 0 sh x y (by simp) (by simp)) hv)
    obtain⟨e,hx⟩:=OE hR (args:=args) (ops:=ops) ⟨by simpa using bz.1,fun i vj x' y' hi hj=>bz.2 (i+1) vj x' y' (by simpa using hi) (by simpa using hj)⟩ h2
    refine⟨by simp[e],fun i z zz hz qx=>?_⟩
    cases i with
    |zero=>simp at hz qx;subst hz;subst qx;exact hr
    |succ i=>exact hx i z zz (by simpa using hz) (by simpa using qx)
   ·cases h
  ·cases h
theorem Xn{h:Array Obj}{m:Nat→Nat}{tok:Option Nat}{n:Nat}{es:List (List V)}{x:Value}(hr:fk h m (.slice none n es) x):fk h m (.slice tok n es) x:=by
 cases hr with
 |nil=>exact .nil _ _
 |empty _ _ a cap=>exact .empty _ _ a cap
 |slice _ _ _ b off cap ys hb eN iC hc hv hp hm=>exact .slice tok n es b off cap ys hb eN iC hc hv hp hm
theorem IS(reg:List (Nat×Nat)):∀(vs:List V) (i:Nat),(dn reg i vs).1.length=vs.length
 |[],i=>rfl
 |v::vs,i=>by
  have:=IS reg vs (i+1);simp only[dn];split
  ·split<;>simp[this]
  ·simp[this]
theorem Cp(reg:List (Nat×Nat)):∀(vs:List V) (i k:Nat) (u:V),(dn reg i vs).1[k]?=some u→∃v,vs[k]?=some v ∧
  ((∃t n es f,v=.slice (some t) n es∧look (i+k) reg=some f∧u=.slice (some f) n es)∨u=strip v)
 |[],i,k,u,h=>by simp[dn]at h
 |v::vs,i,k,u,h=>by
  simp only[dn]at h;split at h
  ·rename_i t n es
   split at h
   ·rename_i f hf
    cases k with
    |zero=>simp at h;subst h;exact⟨.slice (some t) n es,by simp,.inl ⟨t,n,es,f,rfl,by simpa using hf,rfl⟩⟩
    |succ k =>
     obtain⟨z,hz,hc⟩:=Cp reg vs (i+1) k u (by simpa using h)
     refine⟨z,by simpa using hz,?_⟩
     rw[show i+(k+1)=i+1+k from by omega];exact hc
   ·cases k with
    |zero=>simp at h;subst h;exact⟨.slice (some t) n es,by simp,.inr rfl⟩
    |succ k =>
     obtain⟨z,hz,hc⟩:=Cp reg vs (i+1) k u (by simpa using h)
     refine⟨z,by simpa using hz,?_⟩
     rw[show i+(k+1)=i+1+k from by omega];exact hc
  ·cases k with
   |zero=>simp at h;subst h;exact⟨_,by simp,.inr rfl⟩
   |succ k =>
    obtain⟨z,hz,hc⟩:=Cp reg vs (i+1) k u (by simpa using h)
    refine⟨z,by simpa using hz,?_⟩
    rw[show i+(k+1)=i+1+k from by omega];exact hc
theorem Am(reg:List (Nat×Nat)):∀(vs:List V) (i:Nat) (f k:Nat),(f,k)∈(dn reg i vs).2→∃p t n es,vs[p]?=some (.slice (some t) n es)∧look (i+p) reg=some f∧k=es.length
 |[],i,f,k,h=>by simp[dn]at h
 |v::vs,i,f,k,h=>by
  have shift:(∃p t n es,vs[p]?=some (.slice (some t) n es)∧look (i+1+p) reg=some f∧k=es.length)→∃p t n es,(v::vs)[p]?=some (.slice (some t) n es)∧look (i+p) reg=some f∧k=es.length:=by
   rintro⟨p,t,n,es,h1,h2,h3⟩;exact⟨p+1,t,n,es,by simpa using h1,by rw[show i+(p+1)=i+1+p from by omega];exact h2,h3⟩
  simp only[dn]at h;split at h
  ·rename_i t n es
   split at h
   ·rename_i f' hf
    rcases List.mem_cons.1 h with h|h
    ·cases h;exact⟨0,t,n,es,by simp,by simpa using hf,rfl⟩
    ·exact shift (Am reg vs (i+1) f k h)
   ·exact shift (Am reg vs (i+1) f k h)
  ·exact shift (Am reg vs (i+1) f k h)
theorem r9{α:Type}{s:Nat}{v:α}:∀{l:List (Nat×α)},look s l=some v→(s,v)∈l
 |[],h=>by simp[look]at h
 |(k,u)::r,h=>by
  rw[dP]at h;split at h
  ·rename_i e;cases h;rw[e];exact List.mem_cons_self
  ·exact List.mem_cons_of_mem _ (r9 h)
theorem vk{α:Type}{s:Nat}:∀{l r:List (Nat×α)},look s (l++r)=match look s l with|some v=>some v|none=>look s r
 |[],r=>rfl
 |(k,u)::l,r=>by
  rw[List.cons_append,dP,dP];split
  ·rfl
  ·exact vk
def yd(reg:List (Nat×Nat)):List Nat:=reg.map (·.2)
def inj(reg:List (Nat×Nat)):Bool:=(yd reg).Nodup&&(reg.map (·.1)).Nodup
theorem Xo{reg:List (Nat×Nat)}(h1:(reg.map (·.2)).Nodup){p q f:Nat}(hp:(p,f)∈reg)(hq:(q,f)∈reg):p=q:=by
 induction reg with
 |nil=>cases hp
 |cons x r ih =>
  simp only[List.map_cons,List.nodup_cons]at h1;rcases List.mem_cons.1 hp with e1|e1<;>rcases List.mem_cons.1 hq with e2|e2
  ·rw[←e1]at e2;cases e2;rfl
  ·exact absurd (List.mem_map.2 ⟨_,e2,rfl⟩) (by rw[←e1]at h1;exact h1.1)
  ·exact absurd (List.mem_map.2 ⟨_,e1,rfl⟩) (by rw[←e2]at h1;exact h1.1)
  ·exact ih h1.2 e1 e2
theorem OF{reg:List (Nat×Nat)}(h:inj reg=true){p q f:Nat}(hp:look p reg=some f)(hq:look q reg=some f):p=q:=by
 simp only[inj,Bool.and_eq_true,decide_eq_true_eq]at h;exact Xo h.1 (r9 hp) (r9 hq)
theorem E0(reg:List (Nat×Nat))(r:V):recv reg r=(rj r (dn reg 0 r.fN).1,(dn reg 0 r.fN).2):=by
 have h:∀v:V,∃u ts,dn reg 0 [v]=([u],ts):=fun v=>by
  simp only[dn];split
  ·split<;>exact⟨_,_,rfl⟩
  ·exact⟨_,_,rfl⟩
 cases r<;>first
  |rfl
  |(rename_i x y z;obtain⟨u,ts,e⟩:=h (.slice x y z);simp only[recv,V.fN,rj,e];rfl)
  |(rename_i x y z;obtain⟨u,ts,e⟩:=h (.b0 x y z);simp only[recv,V.fN,rj,e];rfl)
  |(simp only[recv,V.fN,rj,dn];rfl)
theorem R.called(hR:R E g S a w){G':List aV}(hx:Ext w g S.az.length w' g' G'.length)(hG:qo w'.heap g' G'){r:V}{x:Value}(hr:uz ⟨w'.heap,g',G'.length,[]⟩ w.heap.size (kF g) r x)
  {reg:List (Nat×Nat)} (An:inj reg=true) (sa:∀p f,look p reg=some f→S.eT f) :
  ∃gn,R E gn { S with az:=G',bl:=(recv reg r).2++S.bl } a w'∧bh (({ S with az:=G',bl:=(recv reg r).2++S.bl }:St).cx gn w') (recv reg r).1 x ∧
   gn.m=g'.m∧∀b p,w.heap.size≤b→g'.ow b=.tok p→look p reg=none→gn.ow b=.none:=by
 classical
 obtain⟨ys,ri,hlen,gL⟩:=hr;rw[E0];simp only
 let T':=(dn reg 0 r.fN).2++S.bl
 have IT:∀f k,look f (dn reg 0 r.fN).2=some k→∃p t n es y,r.fN[p]?=some (.slice (some t) n es)∧look p reg=some f∧k=es.length∧ys[p]?=some y:=fun f k hk=>by
  obtain⟨p,t,n,es,h1,h2,h3⟩:=Am reg _ 0 f k (r9 hk);have hp:=eY h1;exact⟨p,t,n,es,ys[p]'(by omega),h1,by simpa using h2,h3,List.getElem?_eq_getElem (by omega)⟩
 let Q:Nat→Nat×Value→Prop:=fun f q=>look q.1 reg=some f∧ys[q.1]?=some q.2
 let τn:Nat→Option Nat:=fun f=>if h:∃q,Q f q then wN h.choose.2 else g.τ f
 have hτ:∀f p y,look p reg=some f→ys[p]?=some y→τn f=wN y:=fun f p y hp hy=>by
  have hq:∃q,Q f q:=⟨(p,y),hp,hy⟩;show(if h:∃q,Q f q then wN h.choose.2 else g.τ f)=_
  rw[dif_pos hq];obtain⟨h1,h2⟩:=hq.choose_spec;have e:=OF An h1 hp;rw[e,hy]at h2;rw[←Option.some.inj h2]
 have OG:∀f,(∀p,look p reg≠some f)→τn f=g.τ f:=fun f hp=>by
  show(if h:∃q,Q f q then wN h.choose.2 else g.τ f)=_
  rw[dif_neg (fun h=>by obtain⟨q,h1,_⟩:=h;exact hp _ h1)]
 let own:Nat→Ow:=fun b=>if b<w.heap.size∧¬ (kF g b∨∃i,g.ow b=.az i) then g.ow b else match g'.ow b with
  |.tok p=>(match look p reg with|some f=>.tok f|none=>.none)
  |.az i=>.az i
  |.cell p q=>.cell p q
  |_=>.none
 have IU:∀b,b<w.heap.size→¬ kF g b→(∀i,g.ow b≠.az i)→own b=g.ow b:=fun b h k l=>if_pos ⟨h,fun q=>q.elim k fun⟨i,e⟩=>l i e⟩;have Ao:∀b,w.heap.size≤b∨kF g b∨(∃i,g.ow b=.az i)→own b=match g'.ow b with
  |.tok p=>(match look p reg with|some f=>.tok f|none=>.none)
  |.az i=>.az i
  |.cell p q=>.cell p q
  |_=>.none:=fun b h=>if_neg (fun k=>h.elim (fun h=>by omega) k.2)
 have Xp:∀b i,g'.ow b=.az i→own b=.az i:=fun b i h=>by
  rcases Nat.lt_or_ge b w.heap.size with hb|hb
  ·rw[Ao b (.inr (.inr ⟨i,(hx.lv b i h hb).1⟩)),h]
  ·rw[Ao b (.inl hb),h]
 have OH:∀b i,own b=.az i→g'.ow b=.az i:=fun b i h=>by
  by_cases hc:b<w.heap.size∧¬ (kF g b∨∃i,g.ow b=.az i)
  ·have e:own b=g.ow b:=if_pos hc
   rw[e]at h;exact absurd (.inr ⟨i,h⟩) hc.2
  ·have e:own b=_:=if_neg hc
   rw[e]at h;split at h
   ·split at h<;>cases h
   ·rename_i k hk;cases h;exact hk
   ·cases h
   ·cases h
 have E1:∀{b o},g.ow b=o→(∀p q,o≠.cell p q)→¬ kF g b:=fun h1 h2 ⟨p,q,h3⟩=>h2 p q (h1.symm.trans h3)
 let gn:Gh:={ m:=g'.m,κ:=g.κ,cp:=g.cp,τ:=τn,γ:=g'.γ,ow:=own }
 have hold:∀b,b<w.heap.size→(∀i,g.ow b≠.az i)→¬ kF g b→w'.heap[b]?=w.heap[b]?∧g'.m b=g.m b:=fun b hb ho hn =>
  hx.lp b hb (fun i _=>ho i) hn
 have le:Le (S.cx g w) ⟨w'.heap,gn,G'.length,T'⟩ :=
  {size:=hx.size
   cells:=fun b o y ho hy=>by
    have hb:=zY hy;show cellAt w'.heap b o=some y;by_cases hw:kF g b
    ·exact(hx.grow b hb hw).1 o y ho hy
    rw[rW (hx.lp b hb (fun i hi e=>?_) hw).1]
    ·exact hy
    ·have ho:o<g.m b:=ho
     rw[(hR.az.z b i e).1]at ho;omega
   m:=fun b hb=>by
    show g.m b≤g'.m b;by_cases hw:kF g b
    ·exact(hx.grow b hb hw).2
    by_cases h:∃i,g.ow b=.az i
    ·obtain⟨i,e⟩:=h
     rw[(hR.az.z b i e).1];omega
    ·rw[(hx.lp b hb (fun i hi e=>h ⟨i,e⟩) hw).2];exact Nat.le_refl _
   fa:=hx.fa
   γ:=hx.γ }
 have IV:∀f,(∀p,look p reg≠some f)→look f T'=look f S.bl:=fun f hf=>by
  show look f ((dn reg 0 r.fN).2++S.bl)=_;rw[vk];cases h:look f (dn reg 0 r.fN).2 with
  |none=>rfl
  |some k =>
   obtain⟨p,_,_,_,_,_,h2,_,_⟩:=IT f k h;exact absurd h2 (hf p)
 have OI:∀f k p,look p reg=some f→look f T'=some k→look f (dn reg 0 r.fN).2=some k:=fun f k p hp hk=>by
  have hk:look f ((dn reg 0 r.fN).2++S.bl)=some k:=hk;rw[vk]at hk;cases h:look f (dn reg 0 r.fN).2 with
  |none=>rw[h]at hk;simp only at hk;rw[(sa p f hp).tok]at hk;cases hk
  |some k'=>rw[h]at hk;exact hk
 have keeps:∀d,iM (S.cx g w) ⟨w'.heap,gn,G'.length,T'⟩ d∨S.eT d:=fun d=>by
  by_cases hd:∃p,look p reg=some d
  ·obtain⟨p,hp⟩:=hd
   exact .inr (sa p d hp)
  ·have hd:∀p,look p reg≠some d:=fun p e=>hd ⟨p,e⟩
   refine .inl ⟨rfl,rfl,fun k' jJ=>?_⟩;have hk:look d S.bl=some k':=by rw[←IV d hd];exact jJ
   refine⟨k',hk,Nat.le_refl _,fun _=>⟨OG d hd,fun b hb=>?_⟩⟩;obtain⟨h1,h2,h3⟩:=hR.bl d k' b hk hb;obtain⟨h4,h5⟩:=hold b h3 (fun i e=>by rw[h1]at e;cases e) (E1 h1 (fun _ _ e=>by cases e))
   exact⟨h5,fun c e hc=>⟨c,h4.trans hc,rfl⟩⟩
 have E2:∀T,Le ⟨w'.heap,g',G'.length,[]⟩ ⟨w'.heap,gn,G'.length,T⟩:=fun T=>⟨Nat.le_refl _,fun _ _ _ _ h=>h,fun _ _=>Nat.le_refl _,Nat.le_refl _,fun _ _=>rfl⟩;refine⟨gn,⟨fun s v hs=>?_,fun id cs ho=>?_,fun f k b hf hb=>?_,⟨fun i o ho=>?_,fun i o ho=>?_,fun b i ho=>?_⟩,hR.defers,hR.js,?_⟩,?_,rfl,fun b p hb ho hl=>by show own b=_;rw[Ao b (.inl hb),ho];simp only[hl]⟩
 ·obtain⟨x,h1,h2⟩:=hR.env s v hs
  exact⟨x,h1,h2.mono le fun d=>(keeps d).imp (fun z=>z) fun h=>h.env s v hs⟩
 ·rcases hR.bb id cs ho with h0 | ⟨h1,h2,h3,c,e,h4,fD,h5⟩
  ·exact .inl h0
  have bF:g.κ id<w.heap.size:=by
   rcases Nat.lt_or_ge (g.κ id) w.heap.size with h|h
   ·exact h
   ·simp[Array.getElem?_eq_none h]at h4
  obtain⟨h6,h7⟩:=hold _ bF (fun i e=>by rw[h1]at e;cases e) (E1 h1 (fun _ _ e=>by cases e))
  refine .inr ⟨(IU _ bF (E1 h1 (fun _ _ e=>by cases e)) (fun i e=>by rw[h1]at e;cases e)).trans h1,h2,h7.trans h3,c,e,h6.trans h4,fD,fun j v hj=>?_⟩
  obtain⟨h8,y,h9,fQ⟩:=h5 j v hj;exact⟨h8,y,h9,fQ.mono le fun d=>(keeps d).imp (fun z=>z) fun h=>rf (h.bb id cs ho v (List.mem_of_getElem? hj))⟩
 ·by_cases hd:∃p,look p reg=some f
  ·obtain⟨p0,Xq⟩:=hd
   obtain⟨p,t,n,es,y,h1,h2,h3,h4⟩:=IT f k (OI f k p0 Xq hf);obtain⟨_,_,qy⟩:=gL p _ y h1 h4;have hb:τn f=some b:=hb;rw[hτ f p y h2 h4]at hb;rcases qy t n es rfl with⟨_,e⟩ | ⟨b',off,cap,c,e,h5,h6,h7,h8,h9,fQ⟩
   ·rw[IG e]at hb;cases hb
   ·rw[h5,Cg fQ.2.2,Option.some.injEq]at hb
    subst hb;refine⟨?_,?_,?_⟩
    ·show own b'=_
     have h7:g'.ow b'=.tok p:=h7;rw[Ao b' (h6.imp (fun z=>z) .inl),h7];simp only[h2]
    ·rcases h6 with h6 | ⟨p',q',h6⟩
     ·exact .inl (Nat.le_trans hR.same.size h6)
     ·rcases Nat.lt_or_ge b' E.w0.heap.size with h|h
      ·exact .inr (hR.same.ia b' p' q' h h6)
      ·exact .inl h
    ·rcases Nat.lt_or_ge b' w'.heap.size with h|h
     ·exact h
     ·simp[Array.getElem?_eq_none h]at h9
  ·have hd:∀p,look p reg≠some f:=fun p e=>hd ⟨p,e⟩
   have Iq:look f S.bl=some k:=by rw[←IV f hd];exact hf
   have mI:g.τ f=some b:=by rw[←OG f hd];exact hb
   obtain⟨h1,h2,h3⟩:=hR.bl f k b Iq mI;exact⟨(IU b h3 (E1 h1 (fun _ _ e=>by cases e)) (fun i e=>by rw[h1]at e;cases e)).trans h1,h2,Nat.lt_of_lt_of_le h3 hx.size⟩
 ·rcases hG.obj i o ho with h0 | ⟨h1,h2⟩
  ·exact .inl h0
  have hi:=eY ho;refine .inr ⟨?_,?_⟩
  ·exact Xp _ _ h1
  ·cases o with
   |map es =>
    obtain⟨h3,c,e,h4,h5,h6⟩:=h2;refine⟨h3,c,e,h4,h5,fun j v y hj hy=>?_⟩;obtain⟨h7,h8,h9,fQ⟩:=h6 j v y hj hy;exact⟨h7,h8,h9.mono (E2 []) fun d=>.inr (h7 d),fQ.mono (E2 []) fun d=>.inr (s9 (h8 d))⟩
   |cells cs =>
    obtain⟨h3,c,e,h4,h5,h6⟩:=h2;refine⟨h3,c,e,h4,h5,fun j v y hj hy=>?_⟩;obtain⟨h7,h8,h9⟩:=h6 j v y hj hy;exact⟨h7,h8,h9.mono (E2 []) fun d=>.inr (h8 d)⟩
 ·have h3:=hG.own i o ho
  cases o with
  |map es=>trivial
  |cells cs =>
   intro j n es y hj hy;rcases h3 j n es y hj hy with h | ⟨q,cap,c',e',q1,q2,q3,q4,q5,q6⟩
   ·exact .inl h
   ·refine .inr ⟨q,cap,c',e',q1,?_,q3,q4,q5,q6⟩
    show own q=_;rw[Ao q,q2];rcases Nat.lt_or_ge q w.heap.size with h|h
    ·exact .inr (.inl (hx.ia q _ _ h q2))
    ·exact .inl h
 ·exact hG.z b i (OH b i ho)
 ·exact {
   os:=hx.os.trans hR.same.os
   tape:=hx.tape.trans hR.same.tape
   output:=hx.output.trans hR.same.output
   size:=Nat.le_trans hR.same.size hx.size
   fa:=Nat.le_trans hR.same.fa hx.fa
   γ:=fun i hi=>(hx.γ i (Nat.lt_of_lt_of_le hi hR.same.fa)).trans (hR.same.γ i hi)
   γnew:=fun i h1 h2=>by
    by_cases h:i<S.az.length
    ·show _≤g'.γ i
     rw[hx.γ i h];exact hR.same.γnew i h1 h
    ·exact Nat.le_trans hR.same.size (hx.γnew i (by omega) h2)
   lp:=fun b hb kV ui=>by
    obtain⟨h1,h2⟩:=hR.same.lp b hb kV ui;obtain⟨h3,h4⟩:=hx.lp b (Nat.lt_of_lt_of_le hb hR.same.size) (fun i hi e=>by
     obtain⟨k1,k2⟩:=hR.same.lv b i e hb;exact kV i k2 k1) (fun⟨p,q,h⟩=>ui (hR.same.ia b p q hb h))
    exact⟨h3.trans h1,h4.trans h2⟩
   grow:=fun b hb hw=>by
    obtain⟨h1,h2⟩:=hR.same.grow b hb hw;have bF:=Nat.lt_of_lt_of_le hb hR.same.size;exact⟨fun o y ho hy=>le.cells b o y (Nat.lt_of_lt_of_le ho h2) (h1 o y ho hy),Nat.le_trans h2 (le.m b bF)⟩
   ia:=fun b p q hb ho=>by
    have ho:own b=.cell p q:=ho;have bF:=Nat.lt_of_lt_of_le hb hR.same.size;by_cases hw:kF g b
    ·obtain⟨p',q',hw⟩:=hw
     exact hR.same.ia b p' q' hb hw
    ·by_cases yh:∃i,g.ow b=.az i
     ·rw[Ao b (.inr (.inr yh))]at ho
      split at ho
      ·split at ho<;>cases ho
      ·cases ho
      ·rename_i hk;cases ho;exact absurd (hx.ia b _ _ bF hk) hw
      ·cases ho
     ·rw[IU b bF hw (fun i e=>yh ⟨i,e⟩)]at ho
      exact absurd ⟨p,q,ho⟩ hw
   lv:=fun b i ho hb=>by
    have bF:=Nat.lt_of_lt_of_le hb hR.same.size;exact hR.same.lv b i (hx.lv b i (OH b i ho) bF).1 hb }
 ·have IW:∀(k:Nat) (u:V) (y:Value),(dn reg 0 r.fN).1[k]?=some u→ys[k]?=some y→bh ⟨w'.heap,gn,G'.length,T'⟩ u y:=fun k u y hu hy=>by
   obtain⟨v,hv,hc⟩:=Cp reg _ 0 k u hu;obtain⟨q1,q2,q3⟩:=gL k v y hv hy;rcases hc with⟨t,n,es,f,rfl,h2,rfl⟩ | rfl
   ·rw[Nat.zero_add]at h2
    have wP:fk w'.heap g'.m (.slice none n es) y:=by
     cases q1 with|plain h _=>exact h
    refine .plain (Xn wP) (fun f' n' nW he k' jJ=>?_);cases he;obtain⟨p,t',n',nW,y',h3,h4,h5,h6⟩:=IT f k' (OI f k' k h2 jJ);have:p=k:=OF An h4 h2;subst this;rw[hv]at h3;cases h3;rw[hy]at h6;cases h6;subst h5;refine⟨Nat.le_refl _,fun _=>?_⟩;rcases q3 t n es rfl with⟨e1,e2⟩ | ⟨b,off,cap,c,e,h7,h8,h9,fQ,kg,rm⟩
    ·exact .inl ⟨by rw[e1];rfl,e2⟩
    ·exact .inr ⟨b,off,cap,c,e,by show τn f=_;rw[hτ f p y h2 hy,h7];exact Cg rm.2.2,h7,fQ,kg,rm⟩
   ·exact q1.mono (E2 _) fun d=>.inr (q2 d)
  have wW:=IS reg r.fN 0;show bh ⟨w'.heap,gn,G'.length,T'⟩ _ _;have single:r.fN=[r]→ys=[x]→(∀us,rj r us=us.headD .undef)→bh ⟨w'.heap,gn,G'.length,T'⟩ (rj r (dn reg 0 r.fN).1) x:=fun e1 e2 e3=>by
   rw[e3];have nd:(dn reg 0 r.fN).1.length=1:=by rw[wW,e1];rfl
   match yk:(dn reg 0 r.fN).1,nd with
   |[u],_=>exact IW 0 u x (by rw[yk];rfl) (by rw[e2];rfl)
  cases r with
  |tuple vs =>
   have ri:x=.tuple ys.toArray:=ri;subst ri;exact .tuple _ _ (by rw[wW];simpa using hlen.symm) (fun i v y hv hy=>IW i v y hv (by simpa using hy))
  |agg vs =>
   have ri:x=.agg ys.toArray:=ri;subst ri;exact .agg _ _ (by rw[wW];simpa using hlen.symm) (fun i v y hv hy=>IW i v y hv (by simpa using hy))
  |_=>exact single rfl ri (fun _=>rfl)
theorem OJ{o:Oper}{f:Operand}{args:Array Operand}{ts:Array TypeId}{fo:bD}{as:List (Sh×bD)}{reg:List (Nat×Nat)}{C:bH}(ho:o.op=.call ⟨.value f,args,ts⟩)(hf:bX f fo=true)
  (has:as.length=args.toList.length∧∀(i:Nat) sh x y,as[i]?=some (sh,x)→args.toList[i]?=some y→bX y x=true)
  (hC:∀f args G r G',C f args G=some (r,G')→r8 P f args G r G')
  (An:inj reg=true) (sa:∀p f,look p reg=some f→S.eT f)
  (hR:R E g S a w) (hd:∀d,o.dst=some d→d<E.nt) (aj:VO.run C o.dst S (.call false fo as reg)=some S'):ct P E o S S' a w:=by
 simp only[VO.run]at aj;split at aj
 ·rename_i ml cap vs uA qp
  split at aj
  ·rename_i r G' jM
   cases aj;have ti:=hC _ _ _ _ _ jM;obtain⟨fn,pR,tj,oL⟩:=ti.fn;obtain⟨xs,e1,dC,lS⟩:∃xs:Array Value,a.eval f=.func (.func ml) #[] xs∧cap.length=xs.size∧∀(j:Nat) (v:V),cap[j]?=some v→∃i o,v=.bN i o∧i<S.az.length∧xs[j]?=some (.pointer (some ⟨g.γ i,o,none⟩)):=by
    have hr:=cX hR hf uA;generalize a.eval f=y at hr;cases hr with
    |plain h _=>cases h
    |fn _ _ xs hl hx=>exact⟨xs,rfl,hl,hx⟩
   obtain⟨hl,hx⟩:=OE hR has qp;have gC:(execOp a.eval o).run P w=.ok (.enter ml (args.map a.eval++xs)) w:=by
    simp[execOp,ho,resolve,e1,Deferred.ofValue,invoke,callFunc,pR];simp at oL;cases hb:fn.body with
    |none=>simp[hb]at tj
    |some c=>simp[oL]
   intro K Q hK;unfold Oper.wp;rw[gC,Oper.upon_enter];have aj:=ti.run w g ((args.toList.map a.eval)++xs.toList) hR.az (by simp;simp at hl;omega) (fun i v x hv kc=>by
    rw[List.getElem?_append]at hv kc;have Xr:vs.length=(args.toList.map a.eval).length:=by rw[List.length_map];exact hl
    split at hv
    ·rename_i h
     rw[if_pos (by omega)]at kc
     exact hx i v x hv kc
    ·rename_i h
     rw[if_neg (by omega)]at kc
     obtain⟨k,o',e2,hk,h3⟩:=lS _ v hv;rw[Xr]at h3;subst e2;have:x=.pointer (some ⟨g.γ k,o',none⟩):=by
      have h4:xs.toList[i-(args.toList.map a.eval).length]?=some (.pointer (some ⟨g.γ k,o',none⟩)):=by simpa using h3
      rw[h4]at kc;exact(Option.some.inj kc).symm
     rw[this];exact .bN k o' hk)
   have uB:((args.toList.map a.eval)++xs.toList).toArray=args.map a.eval++xs:=by
    apply Array.ext';simp
   rw[uB]at aj;refine aj.mono fun e w' ⟨x,g',he,hext,hG,kh⟩=>?_;subst he;obtain⟨gn,r1,r2,_⟩:=hR.called hext hG kh An sa;exact hK gn _ _ (r1.put hd r2)
  ·cases aj
 ·cases aj
theorem OK{X:Cx}{sh:Sh}{v u:V}{y:Value}(h:qZ sh v=some u)(hr:bh X v y)(N:Nat):bh ⟨X.h,X.g,N,[]⟩ u y:=by
 unfold qZ at h;split at h
 ·split at h
  ·rename_i cs hg
   cases h;obtain⟨xs,e,hl,hx⟩:=pj hr;subst e;obtain⟨e1,e2⟩:=B4 hg;refine .agg _ _ (by omega) (fun i v x hv kc=>?_)
   obtain⟨z,s,hz,IQ⟩:=EM hg i v hv;obtain⟨p,q⟩:=B3 IQ (hx i z x hz kc);exact .plain q (rY p)
  ·cases h
 ·split at h
  ·obtain⟨p,q⟩:=B3 h hr
   exact .plain q (rY p)
  ·cases h
theorem IX(hR:R E g S a w)(N:Nat):∀{args:List (Sh×bD)} {ops:List Operand} {vs:List V},(args.length=ops.length∧∀(i:Nat) sh x y,args[i]?=some (sh,x)→ops[i]?=some y→bX y x=true)→j9 S args=some vs →
  vs.length=ops.length∧∀(i:Nat) (v:V) (x:Value),vs[i]?=some v→(ops.map a.eval)[i]?=some x→bh ⟨w.heap,g,N,[]⟩ v x
 |[],[],vs,_,h=>by simp[j9]at h;subst h;simp
 |[],_::_,_,h,_=>by simp at h
 |_::_,[],_,h,_=>by simp at h
 |(sh,x)::args,y::ops,vs,bz,h=>by
  simp only[j9]at h;split at h
  ·rename_i v hv
   split at h
   ·rename_i u us h1 h2
    cases h;have hr:=OK h1 (cX hR (bz.2 0 sh x y (by simp) (by simp)) hv) N
    obtain⟨e,hx⟩:=IX hR N (args:=args) (ops:=ops) ⟨by simpa using bz.1,fun i vj x' y' hi hj=>bz.2 (i+1) vj x' y' (by simpa using hi) (by simpa using hj)⟩ h2
    refine⟨by simp[e],fun i z zz hz qx=>?_⟩
    cases i with
    |zero=>simp at hz qx;subst hz;subst qx;exact hr
    |succ i=>exact hx i z zz (by simpa using hz) (by simpa using qx)
   ·cases h
  ·cases h
theorem OL{X:Cx}{v:V}{x:Value}(h:v.ku=true)(hr:bh X (jV v) x):fk X.h X.g.m (jV v) x:=by
 cases v<;>simp_all[V.ku,V.plain,jV]
 all_goals (cases hr with|plain h _=>exact h)
theorem Xs{X X':Cx}(hh:X'.h=X.h)(hm:X'.g.m=X.g.m){v:V}{x:Value}(h:v.ka=true)(hr:bh X (strip v) x):bh X' (strip v) x:=by
 have key:(∃cs,v=.agg cs)∨(v.ka=v.ku∧strip v=jV v):=by
  cases v<;>first|(left;exact⟨_,rfl⟩)|(right;exact⟨rfl,rfl⟩)
 rcases key with⟨cs,rfl⟩ | ⟨k1,k2⟩
 ·simp only[V.ka,List.all_eq_true]at h
  obtain⟨xs,e,hl,hx⟩:=pj hr;subst e;refine .agg _ _ hl (fun i u y hu hy=>?_);have Xt:=hu;rw[List.getElem?_map]at hu;cases hc:cs[i]? with
  |none=>simp[hc]at hu
  |some z =>
   simp[hc]at hu;subst hu;have hz:=h z (List.mem_of_getElem? hc);have:=OL hz (hx i _ y Xt hy);rw[←hh,← hm]at this;exact .plain this (fun f n es e=>by cases z<;>simp[jV]at e)
 ·rw[k1]at h
  rw[k2]at hr ⊢;have:=OL h hr;rw[←hh,← hm]at this;exact .plain this (fun f n es e=>by cases v<;>simp[jV]at e)
def noCell(g:Gh):Gh:={ g with ow:=fun b=>match g.ow b with | .cell _ _=>.none | .az _=>.none|q=>q }
theorem yn(g:Gh)(b:Nat):¬ kF (noCell g) b:=fun⟨p,q,h⟩=>by
 have h:(match g.ow b with | .cell _ _=>Ow.none | .az _=>Ow.none|q=>q)=.cell p q:=h
 split at h
 ·cases h
 ·cases h
 ·rename_i h2 h3;exact h2 _ _ h
theorem IY(g:Gh)(b i:Nat)(h:(noCell g).ow b=.az i):(noCell g).m b=0∧i<0:=by
 have h:(match g.ow b with | .cell _ _=>Ow.none | .az _=>Ow.none|q=>q)=.az i:=h
 split at h
 ·cases h
 ·cases h
 ·rename_i h2 h3;exact absurd h (h3 _)
theorem Xu{r:V}(h:r.lone=true):∀v∈r.fN,v.ka=true:=fun v hv=>by
 cases r with
 |tuple vs=>simp only[V.lone,List.all_eq_true]at h;exact h v hv
 |agg cs =>
  simp only[V.lone,V.ka,List.all_eq_true]at h;have:=h v hv;cases v<;>simp_all[V.ku,V.ka,V.plain]
 |_ =>
  simp only[V.fN,List.mem_singleton]at hv;subst hv;exact h
theorem Xv{o:Oper}{f:Operand}{args:Array Operand}{ts:Array TypeId}{fo:bD}{as:List (Sh×bD)}{reg:List (Nat×Nat)}{C:bH}(ho:o.op=.call ⟨.value f,args,ts⟩)(hf:bX f fo=true)
  (has:as.length=args.toList.length∧∀(i:Nat) sh x y,as[i]?=some (sh,x)→args.toList[i]?=some y→bX y x=true)
  (hC:∀f args G r G',C f args G=some (r,G')→r8 P f args G r G')
  (An:inj reg=true) (sa:∀p f,look p reg=some f→S.eT f)
  (hR:R E g S a w) (hd:∀d,o.dst=some d→d<E.nt) (aj:VO.run C o.dst S (.call true fo as reg)=some S'):ct P E o S S' a w:=by
 simp only[VO.run]at aj;split at aj
 ·rename_i ml vs uA qp
  split at aj
  ·rename_i r G' jM
   cases Ap:r.lone with
   |false=>simp[Ap]at aj
   |true =>
    simp only[Ap,cond_true]at aj;cases aj;have ti:=hC _ _ _ _ _ jM;obtain⟨fn,pR,tj,oL⟩:=ti.fn;have e1:a.eval f=.func (.func ml) #[] #[]:=by
     have hr:=cX hR hf uA;generalize a.eval f=y at hr;cases hr with
     |plain h _=>cases h
     |fn _ _ xs hl hx =>
      have:xs = #[]:=by
       apply Array.eq_empty_of_size_eq_zero;simpa using hl.symm
      rw[this]
    obtain⟨hl,hx⟩:=IX hR 0 has qp;have gC:(execOp a.eval o).run P w=.ok (.enter ml (args.map a.eval)) w:=by
     simp[execOp,ho,resolve,e1,Deferred.ofValue,invoke,callFunc,pR];simp at oL;cases hb:fn.body with
     |none=>simp[hb]at tj
     |some c=>simp[oL]
    intro K Q hK;unfold Oper.wp;rw[gC,Oper.upon_enter];have Aq:∀b,¬ kF (noCell g) b:=yn g;have aj:=ti.run w (noCell g) (args.toList.map a.eval) ⟨fun i o h=>by simp at h,fun i o h=>by simp at h,IY g⟩ (by simp;simpa using hl) (fun i v x hv kc=>bh.mono (X:=⟨w.heap,g,0,[]⟩) (X':=⟨w.heap,noCell g,0,[]⟩) ⟨Nat.le_refl _,fun _ _ _ _ h=>h,fun _ _=>Nat.le_refl _,Nat.le_refl _,fun _ _=>rfl⟩ (hx i v x hv kc) (fun d=>.inl ⟨rfl,rfl,fun k hk=>by simp[look]at hk⟩))
    have uB:(args.toList.map a.eval).toArray=args.map a.eval:=by
     apply Array.ext';simp
    rw[uB]at aj;refine aj.mono fun e w' ⟨x,g',he,hext,hG,kh⟩=>?_;subst he
    let g2:Gh:={ g' with γ:=g.γ,ow:=fun b=>if b<w.heap.size then g.ow b else match g'.ow b with | .az _=>.none|q=>q }
    have hold:∀b,b<w.heap.size→w'.heap[b]?=w.heap[b]?∧g'.m b=g.m b:=fun b hb=>hext.lp b hb (fun i hi=>absurd hi (by simp)) (Aq b)
    have Cr:Ext w g S.az.length w' g2 S.az.length:=⟨hext.os,hext.tape,hext.output,hext.size,Nat.le_refl _,fun _ _=>rfl,fun i a b=>absurd a (by omega),fun b hb _ _=>hold b hb,
     fun b hb _=>⟨fun o y _ hy=>by rw[rW (hold b hb).1];exact hy,Nat.le_of_eq (hold b hb).2.symm⟩,fun b p q hb h=>⟨p,q,by(have h:(if b<w.heap.size then _ else _)=Ow.cell p q:=h);rw[if_pos hb]at h;exact h⟩,
     fun b i h hb=>by(have h:(if b<w.heap.size then _ else _)=Ow.az i:=h);rw[if_pos hb]at h;exact⟨h,(hR.az.z b i h).2⟩⟩
    have IZ:∀i o,S.az[i]?=some o→xL w'.heap g2 (g2.γ i) o:=fun i o hi=>by
     have h3:=hR.az.own i o hi;cases o with
     |map es=>trivial
     |cells cs =>
      intro j n es y hj hy;have hy:cellAt w'.heap (g.γ i) j=some y:=hy;rw[rW (hold _ (Aj hR hi (Oy hj))).1]at hy;rcases h3 j n es y hj hy with h | ⟨q,cap,c',e',q1,q2,q3,q4,q5,q6⟩
      ·exact .inl h
      ·have ph:q<w.heap.size:=by
        rcases Nat.lt_or_ge q w.heap.size with h|h
        ·exact h
        ·simp[Array.getElem?_eq_none h]at q4
       exact .inr ⟨q,cap,c',e',q1,by show(if q<w.heap.size then _ else _)=_;rw[if_pos ph];exact q2,(hold q ph).2.trans q3,(hold q ph).1.trans q4,q5,q6⟩
    have I0:∀b i,g2.ow b=.az i→g2.m b=0∧i<S.az.length:=fun b i h=>by
     have h:(if b<w.heap.size then g.ow b else match g'.ow b with | .az _=>.none|q=>q)=Ow.az i:=h
     split at h
     ·rename_i hb
      obtain⟨z1,z2⟩:=hR.az.z b i h;exact⟨(hold b hb).2.trans z1,z2⟩
     ·split at h
      ·cases h
      ·rename_i q hq;exact absurd h (hq i)
    have Cy:qo w'.heap g2 S.az:=⟨fun i o hi=>by
     rcases hR.az.obj i o hi with h0 | ⟨h1,h2⟩
     ·exact .inl h0
     refine .inr ?_;cases o with
     |map es =>
      obtain⟨h3,c,e,h4,h5,h6⟩:=h2;have bF:g.γ i<w.heap.size:=by
       rcases Nat.lt_or_ge (g.γ i) w.heap.size with h|h
       ·exact h
       ·simp[Array.getElem?_eq_none h]at h4
      obtain⟨q1,q2⟩:=hold _ bF;have le:Le ⟨w.heap,g,S.az.length,[]⟩ ⟨w'.heap,g2,S.az.length,[]⟩ :=
       ⟨hext.size,fun b o y ho hy=>by
        have hb:=zY hy;show cellAt w'.heap b o=some y;rw[rW (hold b hb).1];exact hy,fun b hb=>Nat.le_of_eq (hold b hb).2.symm,Nat.le_refl _,fun _ _=>rfl⟩
      refine⟨by show(if g.γ i<w.heap.size then _ else _)=_;rw[if_pos bF];exact h1,q2.trans h3,c,e,q1.trans h4,h5,fun j v y hj hy=>?_⟩
      obtain⟨h7,h8,h9,fQ⟩:=h6 j v y hj hy;exact⟨h7,h8,h9.mono le fun d=>.inr (h7 d),fQ.mono le fun d=>.inr (s9 (h8 d))⟩
     |cells cs =>
      obtain⟨h3,c,e,h4,h5,h6⟩:=h2;have bF:g.γ i<w.heap.size:=by
       rcases Nat.lt_or_ge (g.γ i) w.heap.size with h|h
       ·exact h
       ·simp[Array.getElem?_eq_none h]at h4
      obtain⟨q1,q2⟩:=hold _ bF;have le:Le ⟨w.heap,g,S.az.length,[]⟩ ⟨w'.heap,g2,S.az.length,[]⟩ :=
       ⟨hext.size,fun b o y ho hy=>by
        have hb:=zY hy;show cellAt w'.heap b o=some y;rw[rW (hold b hb).1];exact hy,fun b hb=>Nat.le_of_eq (hold b hb).2.symm,Nat.le_refl _,fun _ _=>rfl⟩
      refine⟨by show(if g.γ i<w.heap.size then _ else _)=_;rw[if_pos bF];exact h1,q2.trans h3,c,e,q1.trans h4,h5,fun j v y hj hy=>?_⟩
      obtain⟨h7,h8,h9⟩:=h6 j v y hj hy;exact⟨h7,h8,h9.mono le fun d=>.inr (h8 d)⟩,IZ,I0⟩
    have Xw:uz ⟨w'.heap,g2,S.az.length,[]⟩ w.heap.size (kF g) r x:=by
     obtain⟨ys,p1,p2,p3⟩:=kh;refine⟨ys,p1,p2,fun p v y hv hy=>?_⟩;obtain⟨q1,q2,q3⟩:=p3 p v y hv hy;refine⟨Xs (X:=⟨w'.heap,g',G'.length,[]⟩) (X':=⟨w'.heap,g2,S.az.length,[]⟩) rfl rfl (Xu Ap v (List.mem_of_getElem? hv)) q1,q2,fun f n es e=>?_⟩;rcases q3 f n es e with h | ⟨b,off,cap,c,e,h1,h2,h3,h4,h5,h6⟩
     ·exact .inl h
     ·have h2:w.heap.size≤b:=h2.resolve_right (Aq b)
      refine .inr ⟨b,off,cap,c,e,h1,.inl h2,?_,h4,h5,h6⟩;show(if b<w.heap.size then _ else _)=_
      rw[if_neg (by omega)]
      have h3:g'.ow b=.tok p:=h3;rw[h3]
    obtain⟨gn,r1,r2,_⟩:=hR.called Cr Cy Xw An sa;exact hK gn _ _ (r1.put hd r2)
  ·cases aj
 ·cases aj
end
theorem OM:∀(i:Nat) (vs:List V),(dn [] i vs).2=[]
 |_,[]=>rfl
 |i,v::vs=>by
  have ih:=OM (i+1) vs;simp only[dn];split
  ·simp only[look];exact ih
  ·exact ih
theorem Xx(r:V):(recv [] r).2=[]:=by rw[E0];exact OM _ _
theorem ON{C:bH}{d:Option Nat}{S S':St}{f:bD}{args:List (Sh×bD)}(h:VO.run C d S (.nP f args)=some S'):VO.run C d S (.call false f args [])=some S':=by
 simp only[VO.run]at h ⊢;split at h
 ·split at h
  ·rename_i r G hc
   simp only[rd]at h;split at h
   ·rename_i e
    subst e;cases h;simp only[hc,Xx,List.nil_append]
   ·cases h
  ·cases h
 ·cases h
end Go.Vm

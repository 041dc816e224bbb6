/- The value machine, 9: calls. -/
import Derived.Test.YtmpikpodpgnjhaaGreatVm8
import Derived.Defers
namespace Go.Vm
set_option linter.all false
def V.fR:V→List V
 |.tuple vs=>vs
 |.agg cs=>cs
 |v=>[v]
def rj(r:V)(us:List V):V :=
 match r with
 |.tuple _=>.tuple us
 |.agg _=>.agg us
 |_=>us.headD .undef
def wV(r:V):V:=rj r (r.fR.map strip)
def Cu(r:V)(x:Value)(ys:List Value):Prop :=
 match r with
 |.tuple _=>x=.tuple ys.toArray
 |.agg _=>x=.agg ys.toArray
 |_=>ys=[x]
def IS(X:Cx)(base:Nat)(O:Nat→Prop)(p:Nat)(v:V)(x:Value):Prop :=
 ∀f n es,v=.slice (some f) n es→(es=[]∧kG x) ∨
  ∃b off cap c e,x=.slice (some ⟨b,off,none⟩) es.length cap∧(base≤b∨O b)∧X.g.ow b=.tok p∧X.g.m b=off+es.length*n∧X.h[b]?=some (.cells c e (0,0))∧off+cap*n≤c.size∧off=0∧0<es.length
def kM(g:Gh)(b:Nat):Prop:=∃p q,g.ow b=.cell p q
def uy(X:Cx)(base:Nat)(O:Nat→Prop)(r:V)(x:Value):Prop :=
 ∃ys,Cu r x ys∧ys.length=r.fR.length∧∀(p:Nat) (v:V) (y:Value),r.fR[p]?=some v→ys[p]?=some y→bj X (strip v) y∧(∀d,(strip v).cu d=false)∧IS X base O p v y
structure Ext(w:World)(g:Gh)(N:Nat)(w':World)(g':Gh)(N':Nat):Prop where
 os:w'.os=w.os
 tape:w'.tape=w.tape
 output:w'.output=w.output
 size:w.heap.size≤w'.heap.size
 fb:N≤N'
 γ:∀i,i<N→g'.γ i=g.γ i
 γnew:∀i,N≤i→i<N'→w.heap.size≤g'.γ i
 lz:∀b,b<w.heap.size→(∀i,i<N→g.ow b≠.az i)→¬ kM g b→w'.heap[b]?=w.heap[b]?∧g'.m b=g.m b
 grow:∀b,b<w.heap.size→kM g b→(∀o y,o<g.m b→cellAt w.heap b o=some y→cellAt w'.heap b o=some y)∧g.m b≤g'.m b
 ig:∀b p q,b<w.heap.size→g'.ow b=.cell p q→kM g b
 lv:∀b i,g'.ow b=.az i→b<w.heap.size→g.ow b=.az i∧i<N
def OC:Code→Bool
 |.seq (.region _ ops _) _=>match ops.toList with
  |[_,o]=>(match o.op with | .defer _=>true|_=>false)
  |_=>false
 |_=>false
def E3(P:Program)(f:FuncId):Bool :=
 match P.funcs[f]? with
 |some fn=>match fn.body with
  |some c => !OC c
  |none=>false
 |none=>false
structure r8(P:Program)(f:FuncId)(args:List V)(G:List aW)(r:V)(G':List aW):Prop where
 fn:∃fn,P.funcs[f]?=some fn∧fn.body.isSome=true∧(fn.name== "runtime.NumGoroutine")=false
 ret:∀d,(wV r).cu d=false
 run:∀(w:World) (g:Gh) (xs:List Value),qp w.heap g G→args.length=xs.length →
  (∀(i:Nat) (v:V) (x:Value),args[i]?=some v→xs[i]?=some x→bj ⟨w.heap,g,G.length,[]⟩ v x) →
  Calls P f xs.toArray w fun e w'=>∃x g',e=.returned x∧Ext w g G.length w' g' G'.length∧qp w'.heap g' G'∧uy ⟨w'.heap,g',G'.length,[]⟩ w.heap.size (kM g) r x
 IT:E3 P f=true→∀(u:FrameMode) (w:World) (g:Gh) (xs:List Value),qp w.heap g G→args.length=xs.length →
  (∀(i:Nat) (v:V) (x:Value),args[i]?=some v→xs[i]?=some x→bj ⟨w.heap,g,G.length,[]⟩ v x) →
  CallsD P f xs.toArray u w fun e u' w'=>u'=u∧∃x g',e=.returned x∧Ext w g G.length w' g' G'.length∧qp w'.heap g' G'∧uy ⟨w'.heap,g',G'.length,[]⟩ w.heap.size (kM g) r x
section
variable {P:Program} {E:Entry} {g g':Gh} {S S':St} {a:Act} {w w':World}
theorem OD{X:Cx}{sh:Sh}{v u:V}{y:Value}(h:wB sh v=some u)(hr:bj X v y):bj ⟨X.h,X.g,X.N,[]⟩ u y:=by
 unfold wB at h;split at h
 ·split at h
  ·rename_i cs hg
   cases h;obtain⟨xs,e,hl,hx⟩:=pj hr;subst e;obtain⟨e1,e2⟩:=IH hg;refine .agg _ _ (by omega) (fun i v x hv kj=>?_)
   obtain⟨z,s,hz,IU⟩:=II hg i v hv;exact(Aj IU (hx i z x hz kj)).2.2.1
  ·cases h
 ·split at h
  ·exact(Aj h hr).2.2.1
  ·cases h
theorem OE(hR:R E g S a w):∀{args:List (Sh×bB)} {ops:List Operand} {vs:List V},(args.length=ops.length∧∀(i:Nat) sh x y,args[i]?=some (sh,x)→ops[i]?=some y→bX y x=true)→lS S args=some vs →
  vs.length=ops.length∧∀(i:Nat) (v:V) (x:Value),vs[i]?=some v→(ops.map a.eval)[i]?=some x→bj ⟨w.heap,g,S.az.length,[]⟩ v x
 |[],[],vs,_,h=>by simp[lS]at h;subst h;simp
 |[],_::_,_,h,_=>by simp at h
 |_::_,[],_,h,_=>by simp at h
 |(sh,x)::args,y::ops,vs,bz,h=>by
  simp only[lS]at h;split at h
  ·rename_i v hv
   split at h
   ·rename_i u us h1 h2
    cases h;have hr:=OD h1 (cZ hR (bz.2 0 sh x y (by simp) (by simp)) hv)
    obtain⟨e,hx⟩:=OE hR (args:=args) (ops:=ops) ⟨by simpa using bz.1,fun i vi x' y' hi hj=>bz.2 (i+1) vi x' y' (by simpa using hi) (by simpa using hj)⟩ h2
    refine⟨by simp[e],fun i z zz hz qy=>?_⟩
    cases i with
    |zero=>simp at hz qy;subst hz;subst qy;exact hr
    |succ i=>exact hx i z zz (by simpa using hz) (by simpa using qy)
   ·cases h
  ·cases h
theorem Xt{h:Array Obj}{m:Nat→Nat}{tok:Option Nat}{n:Nat}{es:List (List V)}{x:Value}(hr:fp h m (.slice none n es) x):fp h m (.slice tok n es) x:=by
 cases hr with
 |nil=>exact .nil _ _
 |empty _ _ a cap=>exact .empty _ _ a cap
 |slice _ _ _ b off cap ys hb eP iI hc hv hp hm=>exact .slice tok n es b off cap ys hb eP iI hc hv hp hm
theorem IV(reg:List (Nat×Nat)):∀(vs:List V) (i:Nat),(cV reg i vs).1.length=vs.length
 |[],i=>rfl
 |v::vs,i=>by
  have:=IV reg vs (i+1);simp only[cV];split
  ·split<;>simp[this]
  ·simp[this]
theorem Cy(reg:List (Nat×Nat)):∀(vs:List V) (i k:Nat) (u:V),(cV reg i vs).1[k]?=some u→∃v,vs[k]?=some v ∧
  ((∃t n es f,v=.slice (some t) n es∧look (i+k) reg=some f∧u=.slice (some f) n es)∨u=strip v)
 |[],i,k,u,h=>by simp[cV]at h
 |v::vs,i,k,u,h=>by
  simp only[cV]at h;split at h
  ·rename_i t n es
   split at h
   ·rename_i f hf
    cases k with
    |zero=>simp at h;subst h;exact⟨.slice (some t) n es,by simp,.inl ⟨t,n,es,f,rfl,by simpa using hf,rfl⟩⟩
    |succ k =>
     obtain⟨z,hz,hc⟩:=Cy reg vs (i+1) k u (by simpa using h)
     refine⟨z,by simpa using hz,?_⟩
     rw[show i+(k+1)=i+1+k from by omega];exact hc
   ·cases k with
    |zero=>simp at h;subst h;exact⟨.slice (some t) n es,by simp,.inr rfl⟩
    |succ k =>
     obtain⟨z,hz,hc⟩:=Cy reg vs (i+1) k u (by simpa using h)
     refine⟨z,by simpa using hz,?_⟩
     rw[show i+(k+1)=i+1+k from by omega];exact hc
  ·cases k with
   |zero=>simp at h;subst h;exact⟨_,by simp,.inr rfl⟩
   |succ k =>
    obtain⟨z,hz,hc⟩:=Cy reg vs (i+1) k u (by simpa using h)
    refine⟨z,by simpa using hz,?_⟩
    rw[show i+(k+1)=i+1+k from by omega];exact hc
theorem Ao(reg:List (Nat×Nat)):∀(vs:List V) (i:Nat) (f k:Nat),(f,k)∈(cV reg i vs).2→∃p t n es,vs[p]?=some (.slice (some t) n es)∧look (i+p) reg=some f∧k=es.length
 |[],i,f,k,h=>by simp[cV]at h
 |v::vs,i,f,k,h=>by
  have shift:(∃p t n es,vs[p]?=some (.slice (some t) n es)∧look (i+1+p) reg=some f∧k=es.length)→∃p t n es,(v::vs)[p]?=some (.slice (some t) n es)∧look (i+p) reg=some f∧k=es.length:=by
   rintro⟨p,t,n,es,h1,h2,h3⟩;exact⟨p+1,t,n,es,by simpa using h1,by rw[show i+(p+1)=i+1+p from by omega];exact h2,h3⟩
  simp only[cV]at h;split at h
  ·rename_i t n es
   split at h
   ·rename_i f' hf
    rcases List.mem_cons.1 h with h|h
    ·cases h;exact⟨0,t,n,es,by simp,by simpa using hf,rfl⟩
    ·exact shift (Ao reg vs (i+1) f k h)
   ·exact shift (Ao reg vs (i+1) f k h)
  ·exact shift (Ao reg vs (i+1) f k h)
theorem r9{α:Type}{s:Nat}{v:α}:∀{l:List (Nat×α)},look s l=some v→(s,v)∈l
 |[],h=>by simp[look]at h
 |(k,u)::r,h=>by
  rw[dQ]at h;split at h
  ·rename_i e;cases h;rw[e];exact List.mem_cons_self
  ·exact List.mem_cons_of_mem _ (r9 h)
theorem vj{α:Type}{s:Nat}:∀{l r:List (Nat×α)},look s (l++r)=match look s l with|some v=>some v|none=>look s r
 |[],r=>rfl
 |(k,u)::l,r=>by
  rw[List.cons_append,dQ,dQ];split
  ·rfl
  ·exact vj
def xZ(reg:List (Nat×Nat)):List Nat:=reg.map (·.2)
def inj(reg:List (Nat×Nat)):Bool:=(xZ reg).Nodup&&(reg.map (·.1)).Nodup
theorem Xu{reg:List (Nat×Nat)}(h1:(reg.map (·.2)).Nodup){p q f:Nat}(hp:(p,f)∈reg)(hq:(q,f)∈reg):p=q:=by
 induction reg with
 |nil=>cases hp
 |cons x r ih =>
  simp only[List.map_cons,List.nodup_cons]at h1;rcases List.mem_cons.1 hp with e1|e1<;>rcases List.mem_cons.1 hq with e2|e2
  ·rw[←e1]at e2;cases e2;rfl
  ·exact absurd (List.mem_map.2 ⟨_,e2,rfl⟩) (by rw[←e1]at h1;exact h1.1)
  ·exact absurd (List.mem_map.2 ⟨_,e1,rfl⟩) (by rw[←e2]at h1;exact h1.1)
  ·exact ih h1.2 e1 e2
theorem OF{reg:List (Nat×Nat)}(h:inj reg=true){p q f:Nat}(hp:look p reg=some f)(hq:look q reg=some f):p=q:=by
 simp only[inj,Bool.and_eq_true,decide_eq_true_eq]at h;exact Xu h.1 (r9 hp) (r9 hq)
theorem E4(reg:List (Nat×Nat))(r:V):recv reg r=(rj r (cV reg 0 r.fR).1,(cV reg 0 r.fR).2):=by
 have h:∀v:V,∃u ts,cV reg 0 [v]=([u],ts):=fun v=>by
  simp only[cV];split
  ·split<;>exact⟨_,_,rfl⟩
  ·exact⟨_,_,rfl⟩
 cases r<;>first
  |rfl
  |(rename_i x y z;obtain⟨u,ts,e⟩:=h (.slice x y z);simp only[recv,V.fR,rj,e];rfl)
  |(rename_i x y z;obtain⟨u,ts,e⟩:=h (.b0 x y z);simp only[recv,V.fR,rj,e];rfl)
  |(simp only[recv,V.fR,rj,cV];rfl)
theorem R.called(hR:R E g S a w){G':List aW}(hx:Ext w g S.az.length w' g' G'.length)(hG:qp w'.heap g' G'){r:V}{x:Value}(hr:uy ⟨w'.heap,g',G'.length,[]⟩ w.heap.size (kM g) r x)
  {reg:List (Nat×Nat)} (Ap:inj reg=true) (sa:∀p f,look p reg=some f→S.eR f) :
  ∃gn,R E gn { S with az:=G',bm:=(recv reg r).2++S.bm } a w'∧bj (({ S with az:=G',bm:=(recv reg r).2++S.bm }:St).cx gn w') (recv reg r).1 x ∧
   gn.m=g'.m∧∀b p,w.heap.size≤b→g'.ow b=.tok p→look p reg=none→gn.ow b=.none:=by
 classical
 obtain⟨ys,ri,hlen,gQ⟩:=hr;rw[E4];simp only
 let T':=(cV reg 0 r.fR).2++S.bm
 have IW:∀f k,look f (cV reg 0 r.fR).2=some k→∃p t n es y,r.fR[p]?=some (.slice (some t) n es)∧look p reg=some f∧k=es.length∧ys[p]?=some y:=fun f k hk=>by
  obtain⟨p,t,n,es,h1,h2,h3⟩:=Ao reg _ 0 f k (r9 hk);have hp:=eZ h1;exact⟨p,t,n,es,ys[p]'(by omega),h1,by simpa using h2,h3,List.getElem?_eq_getElem (by omega)⟩
 let Q:Nat→Nat×Value→Prop:=fun f q=>look q.1 reg=some f∧ys[q.1]?=some q.2
 let τn:Nat→Option Nat:=fun f=>if h:∃q,Q f q then wN h.choose.2 else g.τ f
 have hτ:∀f p y,look p reg=some f→ys[p]?=some y→τn f=wN y:=fun f p y hp hy=>by
  have hq:∃q,Q f q:=⟨(p,y),hp,hy⟩;show(if h:∃q,Q f q then wN h.choose.2 else g.τ f)=_
  rw[dif_pos hq];obtain⟨h1,h2⟩:=hq.choose_spec;have e:=OF Ap h1 hp;rw[e,hy]at h2;rw[←Option.some.inj h2]
 have OG:∀f,(∀p,look p reg≠some f)→τn f=g.τ f:=fun f hp=>by
  show(if h:∃q,Q f q then wN h.choose.2 else g.τ f)=_
  rw[dif_neg (fun h=>by obtain⟨q,h1,_⟩:=h;exact hp _ h1)]
 let own:Nat→Ow:=fun b=>if b<w.heap.size∧¬ (kM g b∨∃i,g.ow b=.az i) then g.ow b else match g'.ow b with
  |.tok p=>(match look p reg with|some f=>.tok f|none=>.none)
  |.az i=>.az i
  |.cell p q=>.cell p q
  |_=>.none
 have IX:∀b,b<w.heap.size→¬ kM g b→(∀i,g.ow b≠.az i)→own b=g.ow b:=fun b h k l=>if_pos ⟨h,fun q=>q.elim k fun⟨i,e⟩=>l i e⟩;have Aq:∀b,w.heap.size≤b∨kM g b∨(∃i,g.ow b=.az i)→own b=match g'.ow b with
  |.tok p=>(match look p reg with|some f=>.tok f|none=>.none)
  |.az i=>.az i
  |.cell p q=>.cell p q
  |_=>.none:=fun b h=>if_neg (fun k=>h.elim (fun h=>by omega) k.2)
 have Xv:∀b i,g'.ow b=.az i→own b=.az i:=fun b i h=>by
  rcases Nat.lt_or_ge b w.heap.size with hb|hb
  ·rw[Aq b (.inr (.inr ⟨i,(hx.lv b i h hb).1⟩)),h]
  ·rw[Aq b (.inl hb),h]
 have OH:∀b i,own b=.az i→g'.ow b=.az i:=fun b i h=>by
  by_cases hc:b<w.heap.size∧¬ (kM g b∨∃i,g.ow b=.az i)
  ·have e:own b=g.ow b:=if_pos hc
   rw[e]at h;exact absurd (.inr ⟨i,h⟩) hc.2
  ·have e:own b=_:=if_neg hc
   rw[e]at h;split at h
   ·split at h<;>cases h
   ·rename_i k hk;cases h;exact hk
   ·cases h
   ·cases h
 have E5:∀{b o},g.ow b=o→(∀p q,o≠.cell p q)→¬ kM g b:=fun h1 h2 ⟨p,q,h3⟩=>h2 p q (h1.symm.trans h3)
 let gn:Gh:={ m:=g'.m,κ:=g.κ,cp:=g.cp,τ:=τn,γ:=g'.γ,ow:=own }
 have hold:∀b,b<w.heap.size→(∀i,g.ow b≠.az i)→¬ kM g b→w'.heap[b]?=w.heap[b]?∧g'.m b=g.m b:=fun b hb ho hn =>
  hx.lz b hb (fun i _=>ho i) hn
 have le:Le (S.cx g w) ⟨w'.heap,gn,G'.length,T'⟩ :=
  {size:=hx.size
   cells:=fun b o y ho hy=>by
    have hb:=z6 hy;show cellAt w'.heap b o=some y;by_cases hw:kM g b
    ·exact(hx.grow b hb hw).1 o y ho hy
    rw[rW (hx.lz b hb (fun i hi e=>?_) hw).1]
    ·exact hy
    ·have ho:o<g.m b:=ho
     rw[(hR.az.z b i e).1]at ho;omega
   m:=fun b hb=>by
    show g.m b≤g'.m b;by_cases hw:kM g b
    ·exact(hx.grow b hb hw).2
    by_cases h:∃i,g.ow b=.az i
    ·obtain⟨i,e⟩:=h
     rw[(hR.az.z b i e).1];omega
    ·rw[(hx.lz b hb (fun i hi e=>h ⟨i,e⟩) hw).2];exact Nat.le_refl _
   fb:=hx.fb
   γ:=hx.γ }
 have IY:∀f,(∀p,look p reg≠some f)→look f T'=look f S.bm:=fun f hf=>by
  show look f ((cV reg 0 r.fR).2++S.bm)=_;rw[vj];cases h:look f (cV reg 0 r.fR).2 with
  |none=>rfl
  |some k =>
   obtain⟨p,_,_,_,_,_,h2,_,_⟩:=IW f k h;exact absurd h2 (hf p)
 have OI:∀f k p,look p reg=some f→look f T'=some k→look f (cV reg 0 r.fR).2=some k:=fun f k p hp hk=>by
  have hk:look f ((cV reg 0 r.fR).2++S.bm)=some k:=hk;rw[vj]at hk;cases h:look f (cV reg 0 r.fR).2 with
  |none=>rw[h]at hk;simp only at hk;rw[(sa p f hp).tok]at hk;cases hk
  |some k'=>rw[h]at hk;exact hk
 have keeps:∀d,iP (S.cx g w) ⟨w'.heap,gn,G'.length,T'⟩ d∨S.eR d:=fun d=>by
  by_cases hd:∃p,look p reg=some d
  ·obtain⟨p,hp⟩:=hd
   exact .inr (sa p d hp)
  ·have hd:∀p,look p reg≠some d:=fun p e=>hd ⟨p,e⟩
   refine .inl ⟨rfl,rfl,fun k' jO=>?_⟩;have hk:look d S.bm=some k':=by rw[←IY d hd];exact jO
   refine⟨k',hk,Nat.le_refl _,fun _=>⟨OG d hd,fun b hb=>?_⟩⟩;obtain⟨h1,h2,h3⟩:=hR.bm d k' b hk hb;obtain⟨h4,h5⟩:=hold b h3 (fun i e=>by rw[h1]at e;cases e) (E5 h1 (fun _ _ e=>by cases e))
   exact⟨h5,fun c e hc=>⟨c,h4.trans hc,rfl⟩⟩
 have E6:∀T,Le ⟨w'.heap,g',G'.length,[]⟩ ⟨w'.heap,gn,G'.length,T⟩:=fun T=>⟨Nat.le_refl _,fun _ _ _ _ h=>h,fun _ _=>Nat.le_refl _,Nat.le_refl _,fun _ _=>rfl⟩;refine⟨gn,⟨fun s v hs=>?_,fun id cs ho=>?_,fun f k b hf hb=>?_,⟨fun i o ho=>?_,fun i o ho=>?_,fun b i ho=>?_⟩,hR.defers,hR.jy,?_⟩,?_,rfl,fun b p hb ho hl=>by show own b=_;rw[Aq b (.inl hb),ho];simp only[hl]⟩
 ·obtain⟨x,h1,h2⟩:=hR.env s v hs
  exact⟨x,h1,h2.mono le fun d=>(keeps d).imp (fun z=>z) fun h=>h.env s v hs⟩
 ·rcases hR.bb id cs ho with h0 | ⟨h1,h2,h3,c,e,h4,fH,h5⟩
  ·exact .inl h0
  have bG:g.κ id<w.heap.size:=by
   rcases Nat.lt_or_ge (g.κ id) w.heap.size with h|h
   ·exact h
   ·simp[Array.getElem?_eq_none h]at h4
  obtain⟨h6,h7⟩:=hold _ bG (fun i e=>by rw[h1]at e;cases e) (E5 h1 (fun _ _ e=>by cases e))
  refine .inr ⟨(IX _ bG (E5 h1 (fun _ _ e=>by cases e)) (fun i e=>by rw[h1]at e;cases e)).trans h1,h2,h7.trans h3,c,e,h6.trans h4,fH,fun j v hj=>?_⟩
  obtain⟨h8,y,h9,fW⟩:=h5 j v hj;exact⟨h8,y,h9,fW.mono le fun d=>(keeps d).imp (fun z=>z) fun h=>rf (h.bb id cs ho v (List.mem_of_getElem? hj))⟩
 ·by_cases hd:∃p,look p reg=some f
  ·obtain⟨p0,Xw⟩:=hd
   obtain⟨p,t,n,es,y,h1,h2,h3,h4⟩:=IW f k (OI f k p0 Xw hf);obtain⟨_,_,qz⟩:=gQ p _ y h1 h4;have hb:τn f=some b:=hb;rw[hτ f p y h2 h4]at hb;rcases qz t n es rfl with⟨_,e⟩ | ⟨b',off,cap,c,e,h5,h6,h7,h8,h9,fW⟩
   ·rw[IJ e]at hb;cases hb
   ·rw[h5,Cl fW.2.2,Option.some.injEq]at hb
    subst hb;refine⟨?_,?_,?_⟩
    ·show own b'=_
     have h7:g'.ow b'=.tok p:=h7;rw[Aq b' (h6.imp (fun z=>z) .inl),h7];simp only[h2]
    ·rcases h6 with h6 | ⟨p',q',h6⟩
     ·exact .inl (Nat.le_trans hR.same.size h6)
     ·rcases Nat.lt_or_ge b' E.w0.heap.size with h|h
      ·exact .inr (hR.same.ig b' p' q' h h6)
      ·exact .inl h
    ·rcases Nat.lt_or_ge b' w'.heap.size with h|h
     ·exact h
     ·simp[Array.getElem?_eq_none h]at h9
  ·have hd:∀p,look p reg≠some f:=fun p e=>hd ⟨p,e⟩
   have It:look f S.bm=some k:=by rw[←IY f hd];exact hf
   have mK:g.τ f=some b:=by rw[←OG f hd];exact hb
   obtain⟨h1,h2,h3⟩:=hR.bm f k b It mK;exact⟨(IX b h3 (E5 h1 (fun _ _ e=>by cases e)) (fun i e=>by rw[h1]at e;cases e)).trans h1,h2,Nat.lt_of_lt_of_le h3 hx.size⟩
 ·rcases hG.obj i o ho with h0 | ⟨h1,h2⟩
  ·exact .inl h0
  have hi:=eZ ho;refine .inr ⟨?_,?_⟩
  ·exact Xv _ _ h1
  ·cases o with
   |map es =>
    obtain⟨h3,c,e,h4,h5,h6⟩:=h2;refine⟨h3,c,e,h4,h5,fun j v y hj hy=>?_⟩;obtain⟨h7,h8,h9,fW⟩:=h6 j v y hj hy;exact⟨h7,h8,h9.mono (E6 []) fun d=>.inr (h7 d),fW.mono (E6 []) fun d=>.inr (tc (h8 d))⟩
   |cells cs =>
    obtain⟨h3,c,e,h4,h5,h6⟩:=h2;refine⟨h3,c,e,h4,h5,fun j v y hj hy=>?_⟩;obtain⟨h7,h8,h9⟩:=h6 j v y hj hy;exact⟨h7,h8,h9.mono (E6 []) fun d=>.inr (h8 d)⟩
 ·have h3:=hG.own i o ho
  cases o with
  |map es=>trivial
  |cells cs =>
   intro j n es y hj hy;rcases h3 j n es y hj hy with h | ⟨q,cap,c',e',q1,q2,q3,q4,q5,q6⟩
   ·exact .inl h
   ·refine .inr ⟨q,cap,c',e',q1,?_,q3,q4,q5,q6⟩
    show own q=_;rw[Aq q,q2];rcases Nat.lt_or_ge q w.heap.size with h|h
    ·exact .inr (.inl (hx.ig q _ _ h q2))
    ·exact .inl h
 ·exact hG.z b i (OH b i ho)
 ·exact {
   os:=hx.os.trans hR.same.os
   tape:=hx.tape.trans hR.same.tape
   output:=hx.output.trans hR.same.output
   size:=Nat.le_trans hR.same.size hx.size
   fb:=Nat.le_trans hR.same.fb hx.fb
   γ:=fun i hi=>(hx.γ i (Nat.lt_of_lt_of_le hi hR.same.fb)).trans (hR.same.γ i hi)
   γnew:=fun i h1 h2=>by
    by_cases h:i<S.az.length
    ·show _≤g'.γ i
     rw[hx.γ i h];exact hR.same.γnew i h1 h
    ·exact Nat.le_trans hR.same.size (hx.γnew i (by omega) h2)
   lz:=fun b hb lh uh=>by
    obtain⟨h1,h2⟩:=hR.same.lz b hb lh uh;obtain⟨h3,h4⟩:=hx.lz b (Nat.lt_of_lt_of_le hb hR.same.size) (fun i hi e=>by
     obtain⟨k1,k2⟩:=hR.same.lv b i e hb;exact lh i k2 k1) (fun⟨p,q,h⟩=>uh (hR.same.ig b p q hb h))
    exact⟨h3.trans h1,h4.trans h2⟩
   grow:=fun b hb hw=>by
    obtain⟨h1,h2⟩:=hR.same.grow b hb hw;have bG:=Nat.lt_of_lt_of_le hb hR.same.size;exact⟨fun o y ho hy=>le.cells b o y (Nat.lt_of_lt_of_le ho h2) (h1 o y ho hy),Nat.le_trans h2 (le.m b bG)⟩
   ig:=fun b p q hb ho=>by
    have ho:own b=.cell p q:=ho;have bG:=Nat.lt_of_lt_of_le hb hR.same.size;by_cases hw:kM g b
    ·obtain⟨p',q',hw⟩:=hw
     exact hR.same.ig b p' q' hb hw
    ·by_cases yd:∃i,g.ow b=.az i
     ·rw[Aq b (.inr (.inr yd))]at ho
      split at ho
      ·split at ho<;>cases ho
      ·cases ho
      ·rename_i hk;cases ho;exact absurd (hx.ig b _ _ bG hk) hw
      ·cases ho
     ·rw[IX b bG hw (fun i e=>yd ⟨i,e⟩)]at ho
      exact absurd ⟨p,q,ho⟩ hw
   lv:=fun b i ho hb=>by
    have bG:=Nat.lt_of_lt_of_le hb hR.same.size;exact hR.same.lv b i (hx.lv b i (OH b i ho) bG).1 hb }
 ·have IZ:∀(k:Nat) (u:V) (y:Value),(cV reg 0 r.fR).1[k]?=some u→ys[k]?=some y→bj ⟨w'.heap,gn,G'.length,T'⟩ u y:=fun k u y hu hy=>by
   obtain⟨v,hv,hc⟩:=Cy reg _ 0 k u hu;obtain⟨q1,q2,q3⟩:=gQ k v y hv hy;rcases hc with⟨t,n,es,f,rfl,h2,rfl⟩ | rfl
   ·rw[Nat.zero_add]at h2
    have wP:fp w'.heap g'.m (.slice none n es) y:=by
     cases q1 with|plain h _=>exact h
    refine .plain (Xt wP) (fun f' n' nY he k' jO=>?_);cases he;obtain⟨p,t',n',nY,y',h3,h4,h5,h6⟩:=IW f k' (OI f k' k h2 jO);have:p=k:=OF Ap h4 h2;subst this;rw[hv]at h3;cases h3;rw[hy]at h6;cases h6;subst h5;refine⟨Nat.le_refl _,fun _=>?_⟩;rcases q3 t n es rfl with⟨e1,e2⟩ | ⟨b,off,cap,c,e,h7,h8,h9,fW,kn,rm⟩
    ·exact .inl ⟨by rw[e1];rfl,e2⟩
    ·exact .inr ⟨b,off,cap,c,e,by show τn f=_;rw[hτ f p y h2 hy,h7];exact Cl rm.2.2,h7,fW,kn,rm⟩
   ·exact q1.mono (E6 _) fun d=>.inr (q2 d)
  have wW:=IV reg r.fR 0;show bj ⟨w'.heap,gn,G'.length,T'⟩ _ _;have single:r.fR=[r]→ys=[x]→(∀us,rj r us=us.headD .undef)→bj ⟨w'.heap,gn,G'.length,T'⟩ (rj r (cV reg 0 r.fR).1) x:=fun e1 e2 e3=>by
   rw[e3];have nk:(cV reg 0 r.fR).1.length=1:=by rw[wW,e1];rfl
   match yh:(cV reg 0 r.fR).1,nk with
   |[u],_=>exact IZ 0 u x (by rw[yh];rfl) (by rw[e2];rfl)
  cases r with
  |tuple vs =>
   have ri:x=.tuple ys.toArray:=ri;subst ri;exact .tuple _ _ (by rw[wW];simpa using hlen.symm) (fun i v y hv hy=>IZ i v y hv (by simpa using hy))
  |agg vs =>
   have ri:x=.agg ys.toArray:=ri;subst ri;exact .agg _ _ (by rw[wW];simpa using hlen.symm) (fun i v y hv hy=>IZ i v y hv (by simpa using hy))
  |_=>exact single rfl ri (fun _=>rfl)
theorem OJ{o:Oper}{f:Operand}{args:Array Operand}{ts:Array TypeId}{fo:bB}{as:List (Sh×bB)}{reg:List (Nat×Nat)}{C:bC}(ho:o.op=.call ⟨.value f,args,ts⟩)(hf:bX f fo=true)
  (has:as.length=args.toList.length∧∀(i:Nat) sh x y,as[i]?=some (sh,x)→args.toList[i]?=some y→bX y x=true)
  (hC:∀f args G r G',C f args G=some (r,G')→r8 P f args G r G')
  (Ap:inj reg=true) (sa:∀p f,look p reg=some f→S.eR f)
  (hR:R E g S a w) (hd:∀d,o.dst=some d→d<E.nt) (aj:VO.run C o.dst S (.call false fo as reg)=some S'):ct P E o S S' a w:=by
 simp only[VO.run]at aj;split at aj
 ·rename_i mq cap vs uz qq
  split at aj
  ·rename_i r G' jR
   cases aj;have tl:=hC _ _ _ _ _ jR;obtain⟨fn,pT,tm,oK⟩:=tl.fn;obtain⟨xs,e1,dD,lU⟩:∃xs:Array Value,a.eval f=.func (.func mq) #[] xs∧cap.length=xs.size∧∀(j:Nat) (v:V),cap[j]?=some v→∃i o,v=.bO i o∧i<S.az.length∧xs[j]?=some (.pointer (some ⟨g.γ i,o,none⟩)):=by
    have hr:=cZ hR hf uz;generalize a.eval f=y at hr;cases hr with
    |plain h _=>cases h
    |fn _ _ xs hl hx=>exact⟨xs,rfl,hl,hx⟩
   obtain⟨hl,hx⟩:=OE hR has qq;have gI:(execOp a.eval o).run P w=.ok (.enter mq (args.map a.eval++xs)) w:=by
    simp[execOp,ho,resolve,e1,Deferred.ofValue,invoke,callFunc,pT];simp at oK;cases hb:fn.body with
    |none=>simp[hb]at tm
    |some c=>simp[oK]
   intro K Q hK;unfold Oper.wp;rw[gI,Oper.upon_enter];have aj:=tl.run w g ((args.toList.map a.eval)++xs.toList) hR.az (by simp;simp at hl;omega) (fun i v x hv kj=>by
    rw[List.getElem?_append]at hv kj;have Xx:vs.length=(args.toList.map a.eval).length:=by rw[List.length_map];exact hl
    split at hv
    ·rename_i h
     rw[if_pos (by omega)]at kj
     exact hx i v x hv kj
    ·rename_i h
     rw[if_neg (by omega)]at kj
     obtain⟨k,o',e2,hk,h3⟩:=lU _ v hv;rw[Xx]at h3;subst e2;have:x=.pointer (some ⟨g.γ k,o',none⟩):=by
      have h4:xs.toList[i-(args.toList.map a.eval).length]?=some (.pointer (some ⟨g.γ k,o',none⟩)):=by simpa using h3
      rw[h4]at kj;exact(Option.some.inj kj).symm
     rw[this];exact .bO k o' hk)
   have uA:((args.toList.map a.eval)++xs.toList).toArray=args.map a.eval++xs:=by
    apply Array.ext';simp
   rw[uA]at aj;refine aj.mono fun e w' ⟨x,g',he,hext,hG,ko⟩=>?_;subst he;obtain⟨gn,r1,r2,_⟩:=hR.called hext hG ko Ap sa;exact hK gn _ _ (r1.put hd r2)
  ·cases aj
 ·cases aj
theorem OK{X:Cx}{sh:Sh}{v u:V}{y:Value}(h:qZ sh v=some u)(hr:bj X v y)(N:Nat):bj ⟨X.h,X.g,N,[]⟩ u y:=by
 unfold qZ at h;split at h
 ·split at h
  ·rename_i cs hg
   cases h;obtain⟨xs,e,hl,hx⟩:=pj hr;subst e;obtain⟨e1,e2⟩:=B8 hg;refine .agg _ _ (by omega) (fun i v x hv kj=>?_)
   obtain⟨z,s,hz,IU⟩:=ES hg i v hv;obtain⟨p,q⟩:=B7 IU (hx i z x hz kj);exact .plain q (rY p)
  ·cases h
 ·split at h
  ·obtain⟨p,q⟩:=B7 h hr
   exact .plain q (rY p)
  ·cases h
theorem I0(hR:R E g S a w)(N:Nat):∀{args:List (Sh×bB)} {ops:List Operand} {vs:List V},(args.length=ops.length∧∀(i:Nat) sh x y,args[i]?=some (sh,x)→ops[i]?=some y→bX y x=true)→kh S args=some vs →
  vs.length=ops.length∧∀(i:Nat) (v:V) (x:Value),vs[i]?=some v→(ops.map a.eval)[i]?=some x→bj ⟨w.heap,g,N,[]⟩ v x
 |[],[],vs,_,h=>by simp[kh]at h;subst h;simp
 |[],_::_,_,h,_=>by simp at h
 |_::_,[],_,h,_=>by simp at h
 |(sh,x)::args,y::ops,vs,bz,h=>by
  simp only[kh]at h;split at h
  ·rename_i v hv
   split at h
   ·rename_i u us h1 h2
    cases h;have hr:=OK h1 (cZ hR (bz.2 0 sh x y (by simp) (by simp)) hv) N
    obtain⟨e,hx⟩:=I0 hR N (args:=args) (ops:=ops) ⟨by simpa using bz.1,fun i vi x' y' hi hj=>bz.2 (i+1) vi x' y' (by simpa using hi) (by simpa using hj)⟩ h2
    refine⟨by simp[e],fun i z zz hz qy=>?_⟩
    cases i with
    |zero=>simp at hz qy;subst hz;subst qy;exact hr
    |succ i=>exact hx i z zz (by simpa using hz) (by simpa using qy)
   ·cases h
  ·cases h
theorem OL{X:Cx}{v:V}{x:Value}(h:v.iw=true)(hr:bj X (gX v) x):fp X.h X.g.m (gX v) x:=by
 cases v<;>simp_all[V.iw,V.plain,gX]
 all_goals (cases hr with|plain h _=>exact h)
theorem Xy{X X':Cx}(hh:X'.h=X.h)(hm:X'.g.m=X.g.m){v:V}{x:Value}(h:v.iH=true)(hr:bj X (strip v) x):bj X' (strip v) x:=by
 have key:(∃cs,v=.agg cs)∨(v.iH=v.iw∧strip v=gX v):=by
  cases v<;>first|(left;exact⟨_,rfl⟩)|(right;exact⟨rfl,rfl⟩)
 rcases key with⟨cs,rfl⟩ | ⟨k1,k2⟩
 ·simp only[V.iH,List.all_eq_true]at h
  obtain⟨xs,e,hl,hx⟩:=pj hr;subst e;refine .agg _ _ hl (fun i u y hu hy=>?_);have Xz:=hu;rw[List.getElem?_map]at hu;cases hc:cs[i]? with
  |none=>simp[hc]at hu
  |some z =>
   simp[hc]at hu;subst hu;have hz:=h z (List.mem_of_getElem? hc);have:=OL hz (hx i _ y Xz hy);rw[←hh,← hm]at this;exact .plain this (fun f n es e=>by cases z<;>simp[gX]at e)
 ·rw[k1]at h
  rw[k2]at hr ⊢;have:=OL h hr;rw[←hh,← hm]at this;exact .plain this (fun f n es e=>by cases v<;>simp[gX]at e)
def noCell(g:Gh):Gh:={ g with ow:=fun b=>match g.ow b with | .cell _ _=>.none | .az _=>.none|q=>q }
theorem yk(g:Gh)(b:Nat):¬ kM (noCell g) b:=fun⟨p,q,h⟩=>by
 have h:(match g.ow b with | .cell _ _=>Ow.none | .az _=>Ow.none|q=>q)=.cell p q:=h
 split at h
 ·cases h
 ·cases h
 ·rename_i h2 h3;exact h2 _ _ h
theorem I1(g:Gh)(b i:Nat)(h:(noCell g).ow b=.az i):(noCell g).m b=0∧i<0:=by
 have h:(match g.ow b with | .cell _ _=>Ow.none | .az _=>Ow.none|q=>q)=.az i:=h
 split at h
 ·cases h
 ·cases h
 ·rename_i h2 h3;exact absurd h (h3 _)
theorem XA{r:V}(h:r.lone=true):∀v∈r.fR,v.iH=true:=fun v hv=>by
 cases r with
 |tuple vs=>simp only[V.lone,List.all_eq_true]at h;exact h v hv
 |agg cs =>
  simp only[V.lone,V.iH,List.all_eq_true]at h;have:=h v hv;cases v<;>simp_all[V.iw,V.iH,V.plain]
 |_ =>
  simp only[V.fR,List.mem_singleton]at hv;subst hv;exact h
theorem XB{o:Oper}{f:Operand}{args:Array Operand}{ts:Array TypeId}{fo:bB}{as:List (Sh×bB)}{reg:List (Nat×Nat)}{C:bC}(ho:o.op=.call ⟨.value f,args,ts⟩)(hf:bX f fo=true)
  (has:as.length=args.toList.length∧∀(i:Nat) sh x y,as[i]?=some (sh,x)→args.toList[i]?=some y→bX y x=true)
  (hC:∀f args G r G',C f args G=some (r,G')→r8 P f args G r G')
  (Ap:inj reg=true) (sa:∀p f,look p reg=some f→S.eR f)
  (hR:R E g S a w) (hd:∀d,o.dst=some d→d<E.nt) (aj:VO.run C o.dst S (.call true fo as reg)=some S'):ct P E o S S' a w:=by
 simp only[VO.run]at aj;split at aj
 ·rename_i mq vs uz qq
  split at aj
  ·rename_i r G' jR
   cases Ar:r.lone with
   |false=>simp[Ar]at aj
   |true =>
    simp only[Ar,cond_true]at aj;cases aj;have tl:=hC _ _ _ _ _ jR;obtain⟨fn,pT,tm,oK⟩:=tl.fn;have e1:a.eval f=.func (.func mq) #[] #[]:=by
     have hr:=cZ hR hf uz;generalize a.eval f=y at hr;cases hr with
     |plain h _=>cases h
     |fn _ _ xs hl hx =>
      have:xs = #[]:=by
       apply Array.eq_empty_of_size_eq_zero;simpa using hl.symm
      rw[this]
    obtain⟨hl,hx⟩:=I0 hR 0 has qq;have gI:(execOp a.eval o).run P w=.ok (.enter mq (args.map a.eval)) w:=by
     simp[execOp,ho,resolve,e1,Deferred.ofValue,invoke,callFunc,pT];simp at oK;cases hb:fn.body with
     |none=>simp[hb]at tm
     |some c=>simp[oK]
    intro K Q hK;unfold Oper.wp;rw[gI,Oper.upon_enter];have As:∀b,¬ kM (noCell g) b:=yk g;have aj:=tl.run w (noCell g) (args.toList.map a.eval) ⟨fun i o h=>by simp at h,fun i o h=>by simp at h,I1 g⟩ (by simp;simpa using hl) (fun i v x hv kj=>bj.mono (X:=⟨w.heap,g,0,[]⟩) (X':=⟨w.heap,noCell g,0,[]⟩) ⟨Nat.le_refl _,fun _ _ _ _ h=>h,fun _ _=>Nat.le_refl _,Nat.le_refl _,fun _ _=>rfl⟩ (hx i v x hv kj) (fun d=>.inl ⟨rfl,rfl,fun k hk=>by simp[look]at hk⟩))
    have uA:(args.toList.map a.eval).toArray=args.map a.eval:=by
     apply Array.ext';simp
    rw[uA]at aj;refine aj.mono fun e w' ⟨x,g',he,hext,hG,ko⟩=>?_;subst he
    let g2:Gh:={ g' with γ:=g.γ,ow:=fun b=>if b<w.heap.size then g.ow b else match g'.ow b with | .az _=>.none|q=>q }
    have hold:∀b,b<w.heap.size→w'.heap[b]?=w.heap[b]?∧g'.m b=g.m b:=fun b hb=>hext.lz b hb (fun i hi=>absurd hi (by simp)) (As b)
    have CA:Ext w g S.az.length w' g2 S.az.length:=⟨hext.os,hext.tape,hext.output,hext.size,Nat.le_refl _,fun _ _=>rfl,fun i a b=>absurd a (by omega),fun b hb _ _=>hold b hb,
     fun b hb _=>⟨fun o y _ hy=>by rw[rW (hold b hb).1];exact hy,Nat.le_of_eq (hold b hb).2.symm⟩,fun b p q hb h=>⟨p,q,by(have h:(if b<w.heap.size then _ else _)=Ow.cell p q:=h);rw[if_pos hb]at h;exact h⟩,
     fun b i h hb=>by(have h:(if b<w.heap.size then _ else _)=Ow.az i:=h);rw[if_pos hb]at h;exact⟨h,(hR.az.z b i h).2⟩⟩
    have I2:∀i o,S.az[i]?=some o→xK w'.heap g2 (g2.γ i) o:=fun i o hi=>by
     have h3:=hR.az.own i o hi;cases o with
     |map es=>trivial
     |cells cs =>
      intro j n es y hj hy;have hy:cellAt w'.heap (g.γ i) j=some y:=hy;rw[rW (hold _ (Al hR hi (Oy hj))).1]at hy;rcases h3 j n es y hj hy with h | ⟨q,cap,c',e',q1,q2,q3,q4,q5,q6⟩
      ·exact .inl h
      ·have ph:q<w.heap.size:=by
        rcases Nat.lt_or_ge q w.heap.size with h|h
        ·exact h
        ·simp[Array.getElem?_eq_none h]at q4
       exact .inr ⟨q,cap,c',e',q1,by show(if q<w.heap.size then _ else _)=_;rw[if_pos ph];exact q2,(hold q ph).2.trans q3,(hold q ph).1.trans q4,q5,q6⟩
    have I3:∀b i,g2.ow b=.az i→g2.m b=0∧i<S.az.length:=fun b i h=>by
     have h:(if b<w.heap.size then g.ow b else match g'.ow b with | .az _=>.none|q=>q)=Ow.az i:=h
     split at h
     ·rename_i hb
      obtain⟨z1,z2⟩:=hR.az.z b i h;exact⟨(hold b hb).2.trans z1,z2⟩
     ·split at h
      ·cases h
      ·rename_i q hq;exact absurd h (hq i)
    have CD:qp w'.heap g2 S.az:=⟨fun i o hi=>by
     rcases hR.az.obj i o hi with h0 | ⟨h1,h2⟩
     ·exact .inl h0
     refine .inr ?_;cases o with
     |map es =>
      obtain⟨h3,c,e,h4,h5,h6⟩:=h2;have bG:g.γ i<w.heap.size:=by
       rcases Nat.lt_or_ge (g.γ i) w.heap.size with h|h
       ·exact h
       ·simp[Array.getElem?_eq_none h]at h4
      obtain⟨q1,q2⟩:=hold _ bG;have le:Le ⟨w.heap,g,S.az.length,[]⟩ ⟨w'.heap,g2,S.az.length,[]⟩ :=
       ⟨hext.size,fun b o y ho hy=>by
        have hb:=z6 hy;show cellAt w'.heap b o=some y;rw[rW (hold b hb).1];exact hy,fun b hb=>Nat.le_of_eq (hold b hb).2.symm,Nat.le_refl _,fun _ _=>rfl⟩
      refine⟨by show(if g.γ i<w.heap.size then _ else _)=_;rw[if_pos bG];exact h1,q2.trans h3,c,e,q1.trans h4,h5,fun j v y hj hy=>?_⟩
      obtain⟨h7,h8,h9,fW⟩:=h6 j v y hj hy;exact⟨h7,h8,h9.mono le fun d=>.inr (h7 d),fW.mono le fun d=>.inr (tc (h8 d))⟩
     |cells cs =>
      obtain⟨h3,c,e,h4,h5,h6⟩:=h2;have bG:g.γ i<w.heap.size:=by
       rcases Nat.lt_or_ge (g.γ i) w.heap.size with h|h
       ·exact h
       ·simp[Array.getElem?_eq_none h]at h4
      obtain⟨q1,q2⟩:=hold _ bG;have le:Le ⟨w.heap,g,S.az.length,[]⟩ ⟨w'.heap,g2,S.az.length,[]⟩ :=
       ⟨hext.size,fun b o y ho hy=>by
        have hb:=z6 hy;show cellAt w'.heap b o=some y;rw[rW (hold b hb).1];exact hy,fun b hb=>Nat.le_of_eq (hold b hb).2.symm,Nat.le_refl _,fun _ _=>rfl⟩
      refine⟨by show(if g.γ i<w.heap.size then _ else _)=_;rw[if_pos bG];exact h1,q2.trans h3,c,e,q1.trans h4,h5,fun j v y hj hy=>?_⟩
      obtain⟨h7,h8,h9⟩:=h6 j v y hj hy;exact⟨h7,h8,h9.mono le fun d=>.inr (h8 d)⟩,I2,I3⟩
    have XC:uy ⟨w'.heap,g2,S.az.length,[]⟩ w.heap.size (kM g) r x:=by
     obtain⟨ys,p1,p2,p3⟩:=ko;refine⟨ys,p1,p2,fun p v y hv hy=>?_⟩;obtain⟨q1,q2,q3⟩:=p3 p v y hv hy;refine⟨Xy (X:=⟨w'.heap,g',G'.length,[]⟩) (X':=⟨w'.heap,g2,S.az.length,[]⟩) rfl rfl (XA Ar v (List.mem_of_getElem? hv)) q1,q2,fun f n es e=>?_⟩;rcases q3 f n es e with h | ⟨b,off,cap,c,e,h1,h2,h3,h4,h5,h6⟩
     ·exact .inl h
     ·have h2:w.heap.size≤b:=h2.resolve_right (As b)
      refine .inr ⟨b,off,cap,c,e,h1,.inl h2,?_,h4,h5,h6⟩;show(if b<w.heap.size then _ else _)=_
      rw[if_neg (by omega)]
      have h3:g'.ow b=.tok p:=h3;rw[h3]
    obtain⟨gn,r1,r2,_⟩:=hR.called CA CD XC Ap sa;exact hK gn _ _ (r1.put hd r2)
  ·cases aj
 ·cases aj
end
theorem OM:∀(i:Nat) (vs:List V),(cV [] i vs).2=[]
 |_,[]=>rfl
 |i,v::vs=>by
  have ih:=OM (i+1) vs;simp only[cV];split
  ·simp only[look];exact ih
  ·exact ih
theorem XD(r:V):(recv [] r).2=[]:=by rw[E4];exact OM _ _
theorem ON{C:bC}{d:Option Nat}{S S':St}{f:bB}{args:List (Sh×bB)}(h:VO.run C d S (.mG f args)=some S'):VO.run C d S (.call false f args [])=some S':=by
 simp only[VO.run]at h ⊢;split at h
 ·split at h
  ·rename_i r G hc
   simp only[rd]at h;split at h
   ·rename_i e
    subst e;cases h;simp only[hc,XD,List.nil_append]
   ·cases h
  ·cases h
 ·cases h
end Go.Vm

/- - -/
import Derived.Test.YtabckmbjnjnegaaGreatDoorVm8
import Derived.Defers
namespace Go.Vm
set_option linter.all false
def V.ia:V->List V
 |.tuple vs=>vs
 |.agg cs=>cs
 |v=>[v]
def wK(r:V)(us:List V):V :=
 match r with
 |.tuple _=>.tuple us
 |.agg _=>.agg us
 |_=>us.headD .undef
def Df(r:V):V:=wK r (r.ia.map strip)
def J2(r:V)(x:Value)(ys:List Value):Prop :=
 match r with
 |.tuple _=>x=.tuple ys.toArray
 |.agg _=>x=.agg ys.toArray
 |_=>ys=[x]
def G6(X:Cx)(base:Nat)(O:Nat->Prop)(p:Nat)(v:V)(x:Value):Prop :=
 ∀f n es,v=.slice (some f) n es->(es=[]/\nn x) \/
  ∃b off cap c e,x=.slice (some ⟨b,off,none⟩) es.length cap/\(base<=b\/O b)/\X.g.ow b=.tok p/\X.g.m b=off+es.length*n/\X.h[b]?=some (.cells c e (0,0))/\off+cap*n<=c.size/\off=0/\0<es.length
def lT(g:Gh)(b:Nat):Prop:=∃p q,g.ow b=.cell p q
def Ap(X:Cx)(base:Nat)(O:Nat->Prop)(r:V)(x:Value):Prop :=
 ∃ys,J2 r x ys/\ys.length=r.ia.length/\∀(p:Nat) (v:V) (y:Value),r.ia[p]?=some v->ys[p]?=some y->bh X (strip v) y/\(∀d,(strip v).cI d=false)/\G6 X base O p v y
structure Ext(w:World)(g:Gh)(N:Nat)(w':World)(g':Gh)(N':Nat):Prop where
 os:w'.os=w.os
 tape:w'.tape=w.tape
 output:w'.output=w.output
 size:w.heap.size<=w'.heap.size
 eZ:N<=N'
 γ:∀i,i<N->g'.γ i=g.γ i
 γnew:∀i,N<=i->i<N'->w.heap.size<=g'.γ i
 lQ:∀b,b<w.heap.size->(∀i,i<N->g.ow b≠.aC i)->¬ lT g b->w'.heap[b]?=w.heap[b]?/\g'.m b=g.m b
 grow:∀b,b<w.heap.size->lT g b->(∀o y,o<g.m b->cellAt w.heap b o=some y->cellAt w'.heap b o=some y)/\g.m b<=g'.m b
 jw:∀b p q,b<w.heap.size->g'.ow b=.cell p q->lT g b
 lv:∀b i,g'.ow b=.aC i->b<w.heap.size->g.ow b=.aC i/\i<N
def Ext.le{w w':World}{g g':Gh}{N N':Nat}(h:Ext w g N w' g' N')(hz:∀b i,g.ow b=.aC i->g.m b=0):Le ⟨w.heap,g,N,[]⟩ ⟨w'.heap,g',N',[]⟩ where
 size:=h.size
 cells:=λb o y ho hc=>by
  have hb:=CW hc;by_cases h1:lT g b
  .exact(h.grow b hb h1).1 o y ho hc
  .by_cases h2:∃i,g.ow b=.aC i
   .obtain⟨i,h2⟩:=h2
    have:=hz b i h2;exact absurd ho (by show ¬ o<g.m b;omega)
   .exact(vy (h.lQ b hb (λi _ h=>h2 ⟨i,h⟩) h1).1 o).trans hc
 m:=λb hb=>by
  by_cases h1:lT g b
  .exact(h.grow b hb h1).2
  .by_cases h2:∃i,g.ow b=.aC i
   .obtain⟨i,h2⟩:=h2
    have:=hz b i h2;show g.m b<=_;omega
   .exact xr (h.lQ b hb (λi _ h=>h2 ⟨i,h⟩) h1).2.symm
 eZ:=h.eZ
 γ:=h.γ
def aag:Code->Bool
 |.seq (.region _ ops _) _=>match ops.toList with
  |[_,o]=>(match o.op with | .defer _=>true|_=>false)
  |_=>false
 |_=>false
def J3(P:Program)(f:FuncId):Bool:=kb f==f &&
 match P.funcs[f]? with
 |some fn=>match fn.body with
  |some c => !aag c
  |none=>false
 |none=>false
structure xJ(P:Program)(T:Pk)(f:FuncId)(args:List V)(G:List aM)(r:V)(G':List aM):Prop where
 fn:∃fn,P.funcs[kb f]?=some fn/\fn.body.isSome=true/\(fn.name== "runtime.NumGoroutine")=false
 ret:∀d,(Df r).cI d=false
 run:∀(w:World) (g:Gh) (xs:List Value),pF T w.heap g.m->vz w.heap g G->args.length=xs.length ->
  (∀(i:Nat) (v:V) (x:Value),args[i]?=some v->xs[i]?=some x->bh ⟨w.heap,g,G.length,[]⟩ v x) ->
  Calls P (kb f) xs.toArray w λe w'=>∃x g',e=.returned x/\Ext w g G.length w' g' G'.length/\vz w'.heap g' G'/\Ap ⟨w'.heap,g',G'.length,[]⟩ w.heap.size (lT g) r x
 SK:J3 P (kb f)=true->∀(u:FrameMode) (w:World) (g:Gh) (xs:List Value),pF T w.heap g.m->vz w.heap g G->args.length=xs.length ->
  (∀(i:Nat) (v:V) (x:Value),args[i]?=some v->xs[i]?=some x->bh ⟨w.heap,g,G.length,[]⟩ v x) ->
  CallsD P (kb f) xs.toArray u w λe u' w'=>u'=u/\∃x g',e=.returned x/\Ext w g G.length w' g' G'.length/\vz w'.heap g' G'/\Ap ⟨w'.heap,g',G'.length,[]⟩ w.heap.size (lT g) r x
section
variable {P:Program} {E:Entry} {g g':Gh} {S S':St} {a:Act} {w w':World}
variable{X:Cx}{sh:Sh}{v:V}{y:Value}
def aah{u:V}(h:CR sh v=some u)(hr:bh X v y):bh ⟨X.h,X.g,X.N,[]⟩ u y:=by
 unfold CR at h;split at h
 .split at h
  next cs hg=>
   cases h;obtain⟨xs,e,hl,hx⟩:=tI hr;subst e;obtain⟨e1,e2⟩:=SB hg;refine .agg _ _ (by omega) (λi v x hv nW=>?_)
   obtain⟨z,s,hz,SL⟩:=SC hg i v hv;exact(GW SL (hx i z x hz nW)).2.2.1
  .cases h
 .split at h
  .exact(GW h hr).2.2.1
  .cases h
def aai(hR:R E g S a w):∀{args:List (Sh×bG)} {ops:List Operand} {vs:List V},(args.length=ops.length/\∀(i:Nat) sh x y,args[i]?=some (sh,x)->ops[i]?=some y->cc y x=true)->oY S args=some vs ->
  vs.length=ops.length/\∀(i:Nat) (v:V) (x:Value),vs[i]?=some v->(ops.map a.eval)[i]?=some x->bh ⟨w.heap,g,S.aC.length,[]⟩ v x
 |[],[],vs,_,h=>by simp[oY]at h;subst h;simp
 |[],_::_,_,h,_=>by simp at h
 |_::_,[],_,h,_=>by simp at h
 |(sh,x)::args,y::ops,vs,bE,h=>by
  simp only[oY]at h;split at h
  next v hv=>
   split at h
   next u us h1 h2=>
    cases h;have hr:=aah h1 (di hR (bE.2 0 sh x y (by simp) (by simp)) hv)
    obtain⟨e,hx⟩:=aai hR (args:=args) (ops:=ops) ⟨by simpa using bE.1,λi Bo x' y' hi hj=>bE.2 (i+1) Bo x' y' (by simpa using hi) (by simpa using hj)⟩ h2
    refine⟨by simp[e],λi z zz hz vI=>?_⟩
    cases i with
    |zero=>simp at hz vI;subst hz;subst vI;exact hr
    |succ i=>exact hx i z zz (by simpa using hz) (by simpa using vI)
   .cases h
  .cases h
variable{x:Value}
def anf{h:Array Obj}{m:Nat->Nat}{tok:Option Nat}{n:Nat}{es:List (List V)}(hr:fK h m (.slice none n es) x):fK h m (.slice tok n es) x:=by
 cases hr with
 |nil=>exact .nil _ _
 |empty _ _ a cap=>exact .empty _ _ a cap
 |slice _ _ _ b off cap ys hb eM jG hc hv hp hm=>exact .slice tok n es b off cap ys hb eM jG hc hv hp hm
def SM(reg:List (Nat×Nat)):∀(vs:List V) (i:Nat),(db reg i vs).1.length=vs.length
 |[],i=>rfl
 |v::vs,i=>by
  have:=SM reg vs (i+1);simp only[db];split
  .split<;>simp[this]
  .simp[this]
def J4(reg:List (Nat×Nat)):∀(vs:List V) (i k:Nat) (u:V),(db reg i vs).1[k]?=some u->∃v,vs[k]?=some v /\
  ((∃t n es f,v=.slice (some t) n es/\look (i+k) reg=some f/\u=.slice (some f) n es)\/u=strip v)
 |[],i,k,u,h=>by simp[db]at h
 |v::vs,i,k,u,h=>by
  simp only[db]at h;split at h
  next t n es=>
   split at h
   next f hf=>
    cases k with
    |zero=>simp at h;subst h;exact⟨.slice (some t) n es,by simp,.inl ⟨t,n,es,f,rfl,by simpa using hf,rfl⟩⟩
    |succ k =>
     obtain⟨z,hz,hc⟩:=J4 reg vs (i+1) k u (by simpa using h)
     refine⟨z,by simpa using hz,?_⟩
     rw[show i+(k+1)=i+1+k from by omega];exact hc
   .cases k with
    |zero=>simp at h;subst h;exact⟨.slice (some t) n es,by simp,.inr rfl⟩
    |succ k =>
     obtain⟨z,hz,hc⟩:=J4 reg vs (i+1) k u (by simpa using h)
     refine⟨z,by simpa using hz,?_⟩
     rw[show i+(k+1)=i+1+k from by omega];exact hc
  .cases k with
   |zero=>simp at h;subst h;exact⟨_,by simp,.inr rfl⟩
   |succ k =>
    obtain⟨z,hz,hc⟩:=J4 reg vs (i+1) k u (by simpa using h)
    refine⟨z,by simpa using hz,?_⟩
    rw[show i+(k+1)=i+1+k from by omega];exact hc
def G7(reg:List (Nat×Nat)):∀(vs:List V) (i:Nat) (f k:Nat),(f,k)∈(db reg i vs).2->∃p t n es,vs[p]?=some (.slice (some t) n es)/\look (i+p) reg=some f/\k=es.length
 |[],i,f,k,h=>by simp[db]at h
 |v::vs,i,f,k,h=>by
  have shift:(∃p t n es,vs[p]?=some (.slice (some t) n es)/\look (i+1+p) reg=some f/\k=es.length)->∃p t n es,(v::vs)[p]?=some (.slice (some t) n es)/\look (i+p) reg=some f/\k=es.length:=by
   rintro⟨p,t,n,es,h1,h2,h3⟩;exact⟨p+1,t,n,es,by simpa using h1,by rw[show i+(p+1)=i+1+p from by omega];exact h2,h3⟩
  simp only[db]at h;split at h
  next t n es=>
   split at h
   next f' hf=>
    rcases iA.1 h with h|h
    .cases h;exact⟨0,t,n,es,by simp,by simpa using hf,rfl⟩
    .exact shift (G7 reg vs (i+1) f k h)
   .exact shift (G7 reg vs (i+1) f k h)
  .exact shift (G7 reg vs (i+1) f k h)
def xK{α:Type}{s:Nat}{v:α}:∀{l:List (Nat×α)},look s l=some v->(s,v)∈l
 |[],h=>by simp[look]at h
 |(k,u)::r,h=>by
  rw[dO]at h;split at h
  next e=>cases h;rw[e];exact z7
  .exact Ej _ (xK h)
def Bp{α:Type}{s:Nat}:∀{l r:List (Nat×α)},look s (l++r)=match look s l with|some v=>some v|none=>look s r
 |[],r=>rfl
 |(k,u)::l,r=>by
  rw[vm,dO,dO];split
  .rfl
  .exact Bp
def EP(reg:List (Nat×Nat)):List Nat:=reg.map (·.2)
def inj(reg:List (Nat×Nat)):Bool:=(EP reg).Nodup&&(reg.map (·.1)).Nodup
variable{reg:List (Nat×Nat)}{p q f:Nat}
def ang(h1:(reg.map (·.2)).Nodup)(hp:(p,f)∈reg)(hq:(q,f)∈reg):p=q:=by
 induction reg with
 |nil=>cases hp
 |cons x r ih =>
  simp only[nT,R0]at h1;rcases iA.1 hp with e1|e1<;>rcases iA.1 hq with e2|e2
  .rw[<-e1]at e2;cases e2;rfl
  .exact absurd (nU.2 ⟨_,e2,rfl⟩) (by rw[<-e1]at h1;exact h1.1)
  .exact absurd (nU.2 ⟨_,e1,rfl⟩) (by rw[<-e2]at h1;exact h1.1)
  .exact ih h1.2 e1 e2
def aaj(h:inj reg=true)(hp:look p reg=some f)(hq:look q reg=some f):p=q:=by
 simp only[inj,bZ,jD]at h;exact ang h.1 (xK hp) (xK hq)
def NH(reg:List (Nat×Nat))(r:V):recv reg r=(wK r (db reg 0 r.ia).1,(db reg 0 r.ia).2):=by
 have h:∀v:V,∃u ts,db reg 0 [v]=([u],ts):=λv=>by
  simp only[db];split
  .split<;>exact⟨_,_,rfl⟩
  .exact⟨_,_,rfl⟩
 cases r<;>first
  |rfl
  |(rename_i x y z;obtain⟨u,ts,e⟩:=h (.slice x y z);simp only[recv,V.ia,wK,e];rfl)
  |(rename_i x y z;obtain⟨u,ts,e⟩:=h (.bY x y z);simp only[recv,V.ia,wK,e];rfl)
  |(simp only[recv,V.ia,wK,db];rfl)
def R.called(hR:R E g S a w){G':List aM}(hx:Ext w g S.aC.length w' g' G'.length)(hG:vz w'.heap g' G'){r:V}(hr:Ap ⟨w'.heap,g',G'.length,[]⟩ w.heap.size (lT g) r x) (G8:inj reg=true) (xL:∀p f,look p reg=some f->S.fa f) :
  ∃gn,R E gn { S with aC:=G',bo:=(recv reg r).2++S.bo } a w'/\bh (({ S with aC:=G',bo:=(recv reg r).2++S.bo }:St).cx gn w') (recv reg r).1 x /\
   gn.m=g'.m/\∀b p,w.heap.size<=b->g'.ow b=.tok p->look p reg=none->gn.ow b=.none:=by
 classical
 obtain⟨ys,wI,hlen,gT⟩:=hr;rw[NH];simp only
 let T':=(db reg 0 r.ia).2++S.bo
 have SN:∀f k,look f (db reg 0 r.ia).2=some k->∃p t n es y,r.ia[p]?=some (.slice (some t) n es)/\look p reg=some f/\k=es.length/\ys[p]?=some y:=λf k hk=>by
  obtain⟨p,t,n,es,h1,h2,h3⟩:=G7 reg _ 0 f k (xK hk);have hp:=fg h1;exact⟨p,t,n,es,ys[p]'(by omega),h1,by simpa using h2,h3,eV (by omega)⟩
 let Q:Nat->Nat×Value->Prop:=λf q=>look q.1 reg=some f/\ys[q.1]?=some q.2
 let τn:Nat->Option Nat:=λf=>if h:∃q,Q f q then C7 h.choose.2 else g.τ f
 have hτ:∀f p y,look p reg=some f->ys[p]?=some y->τn f=C7 y:=λf p y hp hy=>by
  have hq:∃q,Q f q:=⟨(p,y),hp,hy⟩;show(if h:∃q,Q f q then C7 h.choose.2 else g.τ f)=_
  rw[dif_pos hq];obtain⟨h1,h2⟩:=hq.choose_spec;have e:=aaj G8 h1 hp;rw[e,hy]at h2;rw[<-Option.some.inj h2]
 have hτ0:∀f,(∀p,look p reg≠some f)->τn f=g.τ f:=λf hp=>by
  show(if h:∃q,Q f q then C7 h.choose.2 else g.τ f)=_
  rw[dif_neg (λh=>by obtain⟨q,h1,_⟩:=h;exact hp _ h1)]
 let own:Nat->Ow:=λb=>if b<w.heap.size/\¬ (lT g b\/∃i,g.ow b=.aC i) then g.ow b else match g'.ow b with
  |.tok p=>(match look p reg with|some f=>.tok f|none=>.none)
  |.aC i=>.aC i
  |.cell p q=>.cell p q
  |_=>.none
 have SO:∀b,b<w.heap.size->¬ lT g b->(∀i,g.ow b≠.aC i)->own b=g.ow b:=λb h k l=>aJ ⟨h,λq=>q.elim k λ⟨i,e⟩=>l i e⟩;have G9:∀b,w.heap.size<=b\/lT g b\/(∃i,g.ow b=.aC i)->own b=match g'.ow b with
  |.tok p=>(match look p reg with|some f=>.tok f|none=>.none)
  |.aC i=>.aC i
  |.cell p q=>.cell p q
  |_=>.none:=λb h=>ax (λk=>h.elim (λh=>by omega) k.2)
 have anh:∀b i,g'.ow b=.aC i->own b=.aC i:=λb i h=>by
  rcases cS b w.heap.size with hb|hb
  .rw[G9 b (.inr (.inr ⟨i,(hx.lv b i h hb).1⟩)),h]
  .rw[G9 b (.inl hb),h]
 have aal:∀b i,own b=.aC i->g'.ow b=.aC i:=λb i h=>by
  by_cases hc:b<w.heap.size/\¬ (lT g b\/∃i,g.ow b=.aC i)
  .have e:own b=g.ow b:=aJ hc
   rw[e]at h;exact absurd (.inr ⟨i,h⟩) hc.2
  .have e:own b=_:=ax hc
   rw[e]at h;split at h
   .split at h<;>cases h
   next k hk=>cases h;exact hk
   .cases h
   .cases h
 have NI:∀{b o},g.ow b=o->(∀p q,o≠.cell p q)->¬ lT g b:=λh1 h2 ⟨p,q,h3⟩=>h2 p q (h1.symm.trans h3)
 let gn:Gh:={ m:=g'.m,κ:=g.κ,cp:=g.cp,τ:=τn,γ:=g'.γ,ow:=own }
 have hold:∀b,b<w.heap.size->(∀i,g.ow b≠.aC i)->¬ lT g b->w'.heap[b]?=w.heap[b]?/\g'.m b=g.m b:=λb hb ho hn =>
  hx.lQ b hb (λi _=>ho i) hn
 have le:Le (S.cx g w) ⟨w'.heap,gn,G'.length,T'⟩ :=
  {size:=hx.size
   cells:=λb o y ho hy=>by
    have hb:=CW hy;show cellAt w'.heap b o=some y;by_cases hw:lT g b
    .exact(hx.grow b hb hw).1 o y ho hy
    rw[vy (hx.lQ b hb (λi hi e=>?_) hw).1]
    .exact hy
    .have ho:o<g.m b:=ho
     rw[(hR.aC.z b i e).1]at ho;omega
   m:=λb hb=>by
    show g.m b<=g'.m b;by_cases hw:lT g b
    .exact(hx.grow b hb hw).2
    by_cases h:∃i,g.ow b=.aC i
    .obtain⟨i,e⟩:=h
     rw[(hR.aC.z b i e).1];omega
    .rw[(hx.lQ b hb (λi hi e=>h ⟨i,e⟩) hw).2];exact b8 _
   eZ:=hx.eZ
   γ:=hx.γ }
 have SP:∀f,(∀p,look p reg≠some f)->look f T'=look f S.bo:=λf hf=>by
  show look f ((db reg 0 r.ia).2++S.bo)=_;rw[Bp];cases h:look f (db reg 0 r.ia).2 with
  |none=>rfl
  |some k =>
   obtain⟨p,_,_,_,_,_,h2,_,_⟩:=SN f k h;exact absurd h2 (hf p)
 have NJ:∀f k p,look p reg=some f->look f T'=some k->look f (db reg 0 r.ia).2=some k:=λf k p hp hk=>by
  have hk:look f ((db reg 0 r.ia).2++S.bo)=some k:=hk;rw[Bp]at hk;cases h:look f (db reg 0 r.ia).2 with
  |none=>rw[h]at hk;simp only at hk;rw[(xL p f hp).tok]at hk;cases hk
  |some k'=>rw[h]at hk;exact hk
 have keeps:∀d,ke (S.cx g w) ⟨w'.heap,gn,G'.length,T'⟩ d\/S.fa d:=λd=>by
  by_cases hd:∃p,look p reg=some d
  .obtain⟨p,hp⟩:=hd
   exact .inr (xL p d hp)
  .have hd:∀p,look p reg≠some d:=λp e=>hd ⟨p,e⟩
   refine .inl ⟨rfl,rfl,λk' lR=>?_⟩;have hk:look d S.bo=some k':=by rw[<-SP d hd];exact lR
   refine⟨k',hk,b8 _,λ_=>⟨hτ0 d hd,λb hb=>?_⟩⟩;obtain⟨h1,h2,h3⟩:=hR.bo d k' b hk hb;obtain⟨h4,h5⟩:=hold b h3 (λi e=>by rw[h1]at e;cases e) (NI h1 (λ_ _ e=>by cases e))
   exact⟨h5,λc e hc=>⟨c,h4.trans hc,rfl⟩⟩
 have NK:∀T,Le ⟨w'.heap,g',G'.length,[]⟩ ⟨w'.heap,gn,G'.length,T⟩:=λT=>⟨b8 _,λ_ _ _ _ h=>h,λ_ _=>b8 _,b8 _,λ_ _=>rfl⟩;refine⟨gn,⟨λs v hs=>?_,λid cs ho=>?_,λf k b hf hb=>?_,⟨λi o ho=>?_,λi o ho=>?_,λb i ho=>?_⟩,hR.defers,hR.kr,?_⟩,?_,rfl,λb p hb ho hl=>by show own b=_;rw[G9 b (.inl hb),ho];simp only[hl]⟩
 .obtain⟨x,h1,h2⟩:=hR.env s v hs
  exact⟨x,h1,h2.mono le λd=>(keeps d).imp (λz=>z) λh=>h.env s v hs⟩
 .rcases hR.aY id cs ho with h0 | ⟨h1,h2,h3,c,e,h4,gM,h5⟩
  .exact .inl h0
  have bJ:g.κ id<w.heap.size:=by
   rcases cS (g.κ id) w.heap.size with h|h
   .exact h
   .simp[ou h]at h4
  obtain⟨h6,h7⟩:=hold _ bJ (λi e=>by rw[h1]at e;cases e) (NI h1 (λ_ _ e=>by cases e))
  refine .inr ⟨(SO _ bJ (NI h1 (λ_ _ e=>by cases e)) (λi e=>by rw[h1]at e;cases e)).trans h1,h2,h7.trans h3,c,e,h6.trans h4,gM,λj v hj=>?_⟩
  obtain⟨h8,y,h9,il⟩:=h5 j v hj;exact⟨h8,y,h9,il.mono le λd=>(keeps d).imp (λz=>z) λh=>wE (h.aY id cs ho v (gw hj))⟩
 .by_cases hd:∃p,look p reg=some f
  .obtain⟨p0,hp0⟩:=hd
   obtain⟨p,t,n,es,y,h1,h2,h3,h4⟩:=SN f k (NJ f k p0 hp0 hf);obtain⟨_,_,vJ⟩:=gT p _ y h1 h4;have hb:τn f=some b:=hb;rw[hτ f p y h2 h4]at hb;rcases vJ t n es rfl with⟨_,e⟩ | ⟨b',off,cap,c,e,h5,h6,h7,h8,h9,il⟩
   .rw[SD e]at hb;cases hb
   .rw[h5,JV il.2.2,Option.some.injEq]at hb
    subst hb;refine⟨?_,?_,?_⟩
    .show own b'=_
     have h7:g'.ow b'=.tok p:=h7;rw[G9 b' (h6.imp (λz=>z) .inl),h7];simp only[h2]
    .rcases h6 with h6 | ⟨p',q',h6⟩
     .exact .inl (iO hR.same.size h6)
     .rcases cS b' E.w0.heap.size with h|h
      .exact .inr (hR.same.jw b' p' q' h h6)
      .exact .inl h
    .rcases cS b' w'.heap.size with h|h
     .exact h
     .simp[ou h]at h9
  .have hd:∀p,look p reg≠some f:=λp e=>hd ⟨p,e⟩
   have Sk:look f S.bo=some k:=by rw[<-SP f hd];exact hf
   have kZ:g.τ f=some b:=by rw[<-hτ0 f hd];exact hb
   obtain⟨h1,h2,h3⟩:=hR.bo f k b Sk kZ;exact⟨(SO b h3 (NI h1 (λ_ _ e=>by cases e)) (λi e=>by rw[h1]at e;cases e)).trans h1,h2,jC h3 hx.size⟩
 .rcases hG.obj i o ho with h0 | ⟨h1,h2⟩
  .exact .inl h0
  have hi:=fg ho;refine .inr ⟨?_,?_⟩
  .exact anh _ _ h1
  .cases o with
   |map es =>
    obtain⟨h3,c,e,h4,h5,h6⟩:=h2;refine⟨h3,c,e,h4,h5,λj v y hj hy=>?_⟩;obtain⟨h7,h8,h9,il⟩:=h6 j v y hj hy;exact⟨h7,h8,h9.mono (NK []) λd=>.inr (h7 d),il.mono (NK []) λd=>.inr (yP (h8 d))⟩
   |cells cs =>
    obtain⟨h3,c,e,h4,h5,h6⟩:=h2;refine⟨h3,c,e,h4,h5,λj v y hj hy=>?_⟩;obtain⟨h7,h8,h9⟩:=h6 j v y hj hy;exact⟨h7,h8,h9.mono (NK []) λd=>.inr (h8 d)⟩
 .have h3:=hG.own i o ho
  cases o with
  |map es=>trivial
  |cells cs =>
   intro j n es y hj hy;rcases h3 j n es y hj hy with h | ⟨q,cap,c',e',q1,q2,q3,q4,q5,q6⟩
   .exact .inl h
   .refine .inr ⟨q,cap,c',e',q1,?_,q3,q4,q5,q6⟩
    show own q=_;rw[G9 q,q2];rcases cS q w.heap.size with h|h
    .exact .inr (.inl (hx.jw q _ _ h q2))
    .exact .inl h
 .exact hG.z b i (aal b i ho)
 .exact {
   os:=hx.os.trans hR.same.os
   tape:=hx.tape.trans hR.same.tape
   output:=hx.output.trans hR.same.output
   size:=iO hR.same.size hx.size
   eZ:=iO hR.same.eZ hx.eZ
   γ:=λi hi=>(hx.γ i (jC hi hR.same.eZ)).trans (hR.same.γ i hi)
   γnew:=λi h1 h2=>by
    by_cases h:i<S.aC.length
    .show _<=g'.γ i
     rw[hx.γ i h];exact hR.same.γnew i h1 h
    .exact iO hR.same.size (hx.γnew i (by omega) h2)
   lQ:=λb hb kI Ag=>by
    obtain⟨h1,h2⟩:=hR.same.lQ b hb kI Ag;obtain⟨h3,h4⟩:=hx.lQ b (jC hb hR.same.size) (λi hi e=>by
     obtain⟨k1,k2⟩:=hR.same.lv b i e hb;exact kI i k2 k1) (λ⟨p,q,h⟩=>Ag (hR.same.jw b p q hb h))
    exact⟨h3.trans h1,h4.trans h2⟩
   grow:=λb hb hw=>by
    obtain⟨h1,h2⟩:=hR.same.grow b hb hw;have bJ:=jC hb hR.same.size;exact⟨λo y ho hy=>le.cells b o y (jC ho h2) (h1 o y ho hy),iO h2 (le.m b bJ)⟩
   jw:=λb p q hb ho=>by
    have ho:own b=.cell p q:=ho;have bJ:=jC hb hR.same.size;by_cases hw:lT g b
    .obtain⟨p',q',hw⟩:=hw
     exact hR.same.jw b p' q' hb hw
    .by_cases yW:∃i,g.ow b=.aC i
     .rw[G9 b (.inr (.inr yW))]at ho
      split at ho
      .split at ho<;>cases ho
      .cases ho
      next hk=>cases ho;exact absurd (hx.jw b _ _ bJ hk) hw
      .cases ho
     .rw[SO b bJ hw (λi e=>yW ⟨i,e⟩)]at ho
      exact absurd ⟨p,q,ho⟩ hw
   lv:=λb i ho hb=>by
    have bJ:=jC hb hR.same.size;exact hR.same.lv b i (hx.lv b i (aal b i ho) bJ).1 hb }
 .have SQ:∀(k:Nat) (u:V) (y:Value),(db reg 0 r.ia).1[k]?=some u->ys[k]?=some y->bh ⟨w'.heap,gn,G'.length,T'⟩ u y:=λk u y hu hy=>by
   obtain⟨v,hv,hc⟩:=J4 reg _ 0 k u hu;obtain⟨q1,q2,q3⟩:=gT k v y hv hy;rcases hc with⟨t,n,es,f,rfl,h2,rfl⟩ | rfl
   .rw[kX]at h2
    have EJ:fK w'.heap g'.m (.slice none n es) y:=by
     cases q1 with|plain h _=>exact h
    refine .plain (anf EJ) (λf' n' sf he k' lR=>?_);cases he;obtain⟨p,t',n',sf,y',h3,h4,h5,h6⟩:=SN f k' (NJ f k' k h2 lR);have:p=k:=aaj G8 h4 h2;subst this;rw[hv]at h3;cases h3;rw[hy]at h6;cases h6;subst h5;refine⟨b8 _,λ_=>?_⟩;rcases q3 t n es rfl with⟨e1,e2⟩ | ⟨b,off,cap,c,e,h7,h8,h9,il,mQ,wL⟩
    .exact .inl ⟨by rw[e1];rfl,e2⟩
    .exact .inr ⟨b,off,cap,c,e,by show τn f=_;rw[hτ f p y h2 hy,h7];exact JV wL.2.2,h7,il,mQ,wL⟩
   .exact q1.mono (NK _) λd=>.inr (q2 d)
  have Bq:=SM reg r.ia 0;show bh ⟨w'.heap,gn,G'.length,T'⟩ _ _;have single:r.ia=[r]->ys=[x]->(∀us,wK r us=us.headD .undef)->bh ⟨w'.heap,gn,G'.length,T'⟩ (wK r (db reg 0 r.ia).1) x:=λe1 e2 e3=>by
   rw[e3];have pL:(db reg 0 r.ia).1.length=1:=by rw[Bq,e1];rfl
   match sZ:(db reg 0 r.ia).1,pL with
   |[u],_=>exact SQ 0 u x (by rw[sZ];rfl) (by rw[e2];rfl)
  cases r with
  |tuple vs =>
   have wI:x=.tuple ys.toArray:=wI;subst wI;exact .tuple _ _ (by rw[Bq];simpa using hlen.symm) (λi v y hv hy=>SQ i v y hv (by simpa using hy))
  |agg vs =>
   have wI:x=.agg ys.toArray:=wI;subst wI;exact .agg _ _ (by rw[Bq];simpa using hlen.symm) (λi v y hv hy=>SQ i v y hv (by simpa using hy))
  |_=>exact single rfl wI (λ_=>rfl)
variable{o:Oper}{args:Array Operand}{ts:Array TypeId}{fo:bG}{as:List (Sh×bG)}
def aam{f:Operand}{C:bI}(ho:o.op=.call ⟨.value f,args,ts⟩)(hf:cc f fo=true)
  (has:as.length=args.toList.length/\∀(i:Nat) sh x y,as[i]?=some (sh,x)->args.toList[i]?=some y->cc y x=true)
  (hC:∀f args G r G',C f args G=some (r,G')->xJ P E.T f args G r G')
  (G8:inj reg=true) (xL:∀p f,look p reg=some f->S.fa f)
  (hR:R E g S a w) (hd:∀d,o.dst=some d->d<E.nt) (hrun:VO.run C o.dst S (.call false fo as reg)=some S'):cC P E o S S' a w:=by
 simp only[VO.run]at hrun;split at hrun
 next pM cap vs Aq tJ=>
  split at hrun
  next r G' lU=>
   cases hrun;have yX:=hC _ _ _ _ _ lU;obtain⟨fn,s7,yY,s8⟩:=yX.fn;obtain⟨xs,e1,dS,oB⟩:∃xs:Array Value,a.eval f=.func (.func (kb pM)) #[] xs/\cap.length=xs.size/\∀(j:Nat) (v:V),cap[j]?=some v->∃i o,v=.bu i o/\i<S.aC.length/\xs[j]?=some (.pointer (some ⟨g.γ i,o,none⟩)):=by
    have hr:=di hR hf Aq;generalize a.eval f=y at hr;cases hr with
    |plain h _=>cases h
    |fn _ _ xs hl hx=>exact⟨xs,rfl,hl,hx⟩
   obtain⟨hl,hx⟩:=aai hR has tJ;have fR:(execOp a.eval o).run P w=.ok (.enter (kb pM) (args.map a.eval++xs)) w:=by
    simp[execOp,ho,resolve,e1,Deferred.ofValue,invoke,callFunc,s7];simp at s8;cases hb:fn.body with
    |none=>simp[hb]at yY
    |some c=>simp[s8]
   intro K Q hK;unfold Oper.wp;rw[fR,Oper.upon_enter];have hrun:=yX.run w g ((args.toList.map a.eval)++xs.toList) hR.pk hR.aC (by simp;simp at hl;omega) (λi v x hv nW=>by
    rw[rP]at hv nW;have NL:vs.length=(args.toList.map a.eval).length:=by rw[yy];exact hl
    split at hv
    next h=>
     rw[aJ']at nW
     exact hx i v x hv nW
    next h=>
     rw[ax']at nW
     obtain⟨k,o',e2,hk,h3⟩:=oB _ v hv;rw[NL]at h3;subst e2;have:x=.pointer (some ⟨g.γ k,o',none⟩):=by
      have h4:xs.toList[i-(args.toList.map a.eval).length]?=some (.pointer (some ⟨g.γ k,o',none⟩)):=by simpa using h3
      rw[h4]at nW;exact(Option.some.inj nW).symm
     rw[this];exact .bu k o' hk)
   have As:((args.toList.map a.eval)++xs.toList).toArray=args.map a.eval++xs:=by
    apply oU;simp
   rw[As]at hrun;refine hrun.mono λe w' ⟨x,g',he,hext,hG,mR⟩=>?_;subst he;obtain⟨gn,r1,r2,_⟩:=hR.called hext hG mR G8 xL;exact hK gn _ _ (r1.put hd r2)
  .cases hrun
 .cases hrun
def aan{u:V}(h:r9 sh v=some u)(hr:bh X v y)(N:Nat):bh ⟨X.h,X.g,N,[]⟩ u y:=by
 unfold r9 at h;split at h
 .split at h
  next cs hg=>
   cases h;obtain⟨xs,e,hl,hx⟩:=tI hr;subst e;obtain⟨e1,e2⟩:=JJ hg;refine .agg _ _ (by omega) (λi v x hv nW=>?_)
   obtain⟨z,s,hz,SL⟩:=Ny hg i v hv;obtain⟨p,q⟩:=JI SL (hx i z x hz nW);exact .plain q (wG p)
  .cases h
 .cases h
  cases hr with
  |plain h _=>cases h
  |fn _ _ xs hl _=>exact .fn _ [] xs hl λj v hj=>by simp at hj
 .split at h
  .obtain⟨p,q⟩:=JI h hr
   exact .plain q (wG p)
  .cases h
def aao(hR:R E g S a w)(N:Nat):∀{args:List (Sh×bG)} {ops:List Operand} {vs:List V},(args.length=ops.length/\∀(i:Nat) sh x y,args[i]?=some (sh,x)->ops[i]?=some y->cc y x=true)->oZ S args=some vs ->
  vs.length=ops.length/\∀(i:Nat) (v:V) (x:Value),vs[i]?=some v->(ops.map a.eval)[i]?=some x->bh ⟨w.heap,g,N,[]⟩ v x
 |[],[],vs,_,h=>by simp[oZ]at h;subst h;simp
 |[],_::_,_,h,_=>by simp at h
 |_::_,[],_,h,_=>by simp at h
 |(sh,x)::args,y::ops,vs,bE,h=>by
  simp only[oZ]at h;split at h
  next v hv=>
   split at h
   next u us h1 h2=>
    cases h;have hr:=aan h1 (di hR (bE.2 0 sh x y (by simp) (by simp)) hv) N
    obtain⟨e,hx⟩:=aao hR N (args:=args) (ops:=ops) ⟨by simpa using bE.1,λi Bo x' y' hi hj=>bE.2 (i+1) Bo x' y' (by simpa using hi) (by simpa using hj)⟩ h2
    refine⟨by simp[e],λi z zz hz vI=>?_⟩
    cases i with
    |zero=>simp at hz vI;subst hz;subst vI;exact hr
    |succ i=>exact hx i z zz (by simpa using hz) (by simpa using vI)
   .cases h
  .cases h
def aap(h:v.jF=true)(hr:bh X (iY v) x):fK X.h X.g.m (iY v) x:=by
 cases v<;>simp_all[V.jF,V.plain,iY]
 all_goals (cases hr with|plain h _=>exact h)
def anj{X':Cx}(hh:X'.h=X.h)(hm:X'.g.m=X.g.m)(h:v.jS=true)(hr:bh X (strip v) x):bh X' (strip v) x:=by
 have key:(∃cs,v=.agg cs)\/(v.jS=v.jF/\strip v=iY v):=by
  cases v<;>first|(left;exact⟨_,rfl⟩)|(right;exact⟨rfl,rfl⟩)
 rcases key with⟨cs,rfl⟩ | ⟨k1,k2⟩
 .simp only[V.jS,iW]at h
  obtain⟨xs,e,hl,hx⟩:=tI hr;subst e;refine .agg _ _ hl (λi u y hu hy=>?_);have J7:=hu;rw[xq]at hu;cases hc:cs[i]? with
  |none=>simp[hc]at hu
  |some z =>
   simp[hc]at hu;subst hu;have hz:=h z (gw hc);have:=aap hz (hx i _ y J7 hy);rw[<-hh,<- hm]at this;exact .plain this (λf n es e=>by cases z<;>simp[iY]at e)
 .rw[k1]at h
  rw[k2]at hr ⊢;have:=aap h hr;rw[<-hh,<- hm]at this;exact .plain this (λf n es e=>by cases v<;>simp[iY]at e)
def noCell(g:Gh):Gh:={ g with ow:=λb=>match g.ow b with | .cell _ _=>.none | .aC _=>.none|q=>q }
def Ha(g:Gh)(b:Nat):¬ lT (noCell g) b:=λ⟨p,q,h⟩=>by
 have h:(match g.ow b with | .cell _ _=>Ow.none | .aC _=>Ow.none|q=>q)=.cell p q:=h
 split at h
 .cases h
 .cases h
 next h2 h3=>exact h2 _ _ h
def SR(g:Gh)(b i:Nat)(h:(noCell g).ow b=.aC i):(noCell g).m b=0/\i<0:=by
 have h:(match g.ow b with | .cell _ _=>Ow.none | .aC _=>Ow.none|q=>q)=.aC i:=h
 split at h
 .cases h
 .cases h
 next h2 h3=>exact absurd h (h3 _)
def ank{r:V}(h:r.lone=true):∀v∈r.ia,v.jS=true:=λv hv=>by
 cases r with
 |tuple vs=>simp only[V.lone,iW]at h;exact h v hv
 |agg cs =>
  simp only[V.lone,V.jS,iW]at h;have:=h v hv;cases v<;>simp_all[V.jF,V.jS,V.plain]
 |_ =>
  simp only[V.ia,qf]at hv;subst hv;exact h
def anl{f:Operand}{C:bI}(ho:o.op=.call ⟨.value f,args,ts⟩)(hf:cc f fo=true)
  (has:as.length=args.toList.length/\∀(i:Nat) sh x y,as[i]?=some (sh,x)->args.toList[i]?=some y->cc y x=true)
  (hC:∀f args G r G',C f args G=some (r,G')->xJ P E.T f args G r G')
  (G8:inj reg=true) (xL:∀p f,look p reg=some f->S.fa f)
  (hR:R E g S a w) (hd:∀d,o.dst=some d->d<E.nt) (hrun:VO.run C o.dst S (.call true fo as reg)=some S'):cC P E o S S' a w:=by
 simp only[VO.run]at hrun;split at hrun
 next pM vs Aq tJ=>
  split at hrun
  next r G' lU=>
   cases Hb:r.lone with
   |false=>simp[Hb]at hrun
   |true =>
    simp only[Hb,bW]at hrun;cases hrun;have yX:=hC _ _ _ _ _ lU;obtain⟨fn,s7,yY,s8⟩:=yX.fn;have e1:a.eval f=.func (.func (kb pM)) #[] #[]:=by
     have hr:=di hR hf Aq;generalize a.eval f=y at hr;cases hr with
     |plain h _=>cases h
     |fn _ _ xs hl hx =>
      have:xs = #[]:=by
       apply Gi;simpa using hl.symm
      rw[this]
    obtain⟨hl,hx⟩:=aao hR 0 has tJ;have fR:(execOp a.eval o).run P w=.ok (.enter (kb pM) (args.map a.eval)) w:=by
     simp[execOp,ho,resolve,e1,Deferred.ofValue,invoke,callFunc,s7];simp at s8;cases hb:fn.body with
     |none=>simp[hb]at yY
     |some c=>simp[s8]
    intro K Q hK;unfold Oper.wp;rw[fR,Oper.upon_enter];have Hc:∀b,¬ lT (noCell g) b:=Ha g;have hrun:=yX.run w (noCell g) (args.toList.map a.eval) hR.pk ⟨λi o h=>by simp at h,λi o h=>by simp at h,SR g⟩ (by simp;simpa using hl) (λi v x hv nW=>bh.mono (X:=⟨w.heap,g,0,[]⟩) (X':=⟨w.heap,noCell g,0,[]⟩) ⟨b8 _,λ_ _ _ _ h=>h,λ_ _=>b8 _,b8 _,λ_ _=>rfl⟩ (hx i v x hv nW) (λd=>.inl ⟨rfl,rfl,λk hk=>by simp[look]at hk⟩))
    have As:(args.toList.map a.eval).toArray=args.map a.eval:=by
     apply oU;simp
    rw[As]at hrun;refine hrun.mono λe w' ⟨x,g',he,hext,hG,mR⟩=>?_;subst he
    let g2:Gh:={ g' with γ:=g.γ,ow:=λb=>if b<w.heap.size then g.ow b else match g'.ow b with | .aC _=>.none|q=>q }
    have hold:∀b,b<w.heap.size->w'.heap[b]?=w.heap[b]?/\g'.m b=g.m b:=λb hb=>hext.lQ b hb (λi hi=>absurd hi (by simp)) (Hc b)
    have Dh:Ext w g S.aC.length w' g2 S.aC.length:=⟨hext.os,hext.tape,hext.output,hext.size,b8 _,λ_ _=>rfl,λi a b=>absurd a (by omega),λb hb _ _=>hold b hb,
     λb hb _=>⟨λo y _ hy=>by rw[vy (hold b hb).1];exact hy,xr (hold b hb).2.symm⟩,λb p q hb h=>⟨p,q,by(have h:(if b<w.heap.size then _ else _)=Ow.cell p q:=h);rw[aJ hb]at h;exact h⟩,
     λb i h hb=>by(have h:(if b<w.heap.size then _ else _)=Ow.aC i:=h);rw[aJ hb]at h;exact⟨h,(hR.aC.z b i h).2⟩⟩
    have SS:∀i o,S.aC[i]?=some o->Ey w'.heap g2 (g2.γ i) o:=λi o hi=>by
     have h3:=hR.aC.own i o hi;cases o with
     |map es=>trivial
     |cells cs =>
      intro j n es y hj hy;have hy:cellAt w'.heap (g.γ i) j=some y:=hy;rw[vy (hold _ (GY hR hi (aad hj))).1]at hy;rcases h3 j n es y hj hy with h | ⟨q,cap,c',e',q1,q2,q3,q4,q5,q6⟩
      .exact .inl h
      .have qi:q<w.heap.size:=by
        rcases cS q w.heap.size with h|h
        .exact h
        .simp[ou h]at q4
       exact .inr ⟨q,cap,c',e',q1,by show(if q<w.heap.size then _ else _)=_;rw[aJ qi];exact q2,(hold q qi).2.trans q3,(hold q qi).1.trans q4,q5,q6⟩
    have SV:∀b i,g2.ow b=.aC i->g2.m b=0/\i<S.aC.length:=λb i h=>by
     have h:(if b<w.heap.size then g.ow b else match g'.ow b with | .aC _=>.none|q=>q)=Ow.aC i:=h
     split at h
     next hb=>
      obtain⟨z1,z2⟩:=hR.aC.z b i h;exact⟨(hold b hb).2.trans z1,z2⟩
     .split at h
      .cases h
      next q hq=>exact absurd h (hq i)
    have J8:vz w'.heap g2 S.aC:=⟨λi o hi=>by
     rcases hR.aC.obj i o hi with h0 | ⟨h1,h2⟩
     .exact .inl h0
     refine .inr ?_;cases o with
     |map es =>
      obtain⟨h3,c,e,h4,h5,h6⟩:=h2;have bJ:g.γ i<w.heap.size:=by
       rcases cS (g.γ i) w.heap.size with h|h
       .exact h
       .simp[ou h]at h4
      obtain⟨q1,q2⟩:=hold _ bJ;have le:Le ⟨w.heap,g,S.aC.length,[]⟩ ⟨w'.heap,g2,S.aC.length,[]⟩ :=
       ⟨hext.size,λb o y ho hy=>by
        have hb:=CW hy;show cellAt w'.heap b o=some y;rw[vy (hold b hb).1];exact hy,λb hb=>xr (hold b hb).2.symm,b8 _,λ_ _=>rfl⟩
      refine⟨by show(if g.γ i<w.heap.size then _ else _)=_;rw[aJ bJ];exact h1,q2.trans h3,c,e,q1.trans h4,h5,λj v y hj hy=>?_⟩
      obtain⟨h7,h8,h9,il⟩:=h6 j v y hj hy;exact⟨h7,h8,h9.mono le λd=>.inr (h7 d),il.mono le λd=>.inr (yP (h8 d))⟩
     |cells cs =>
      obtain⟨h3,c,e,h4,h5,h6⟩:=h2;have bJ:g.γ i<w.heap.size:=by
       rcases cS (g.γ i) w.heap.size with h|h
       .exact h
       .simp[ou h]at h4
      obtain⟨q1,q2⟩:=hold _ bJ;have le:Le ⟨w.heap,g,S.aC.length,[]⟩ ⟨w'.heap,g2,S.aC.length,[]⟩ :=
       ⟨hext.size,λb o y ho hy=>by
        have hb:=CW hy;show cellAt w'.heap b o=some y;rw[vy (hold b hb).1];exact hy,λb hb=>xr (hold b hb).2.symm,b8 _,λ_ _=>rfl⟩
      refine⟨by show(if g.γ i<w.heap.size then _ else _)=_;rw[aJ bJ];exact h1,q2.trans h3,c,e,q1.trans h4,h5,λj v y hj hy=>?_⟩
      obtain⟨h7,h8,h9⟩:=h6 j v y hj hy;exact⟨h7,h8,h9.mono le λd=>.inr (h8 d)⟩,SS,SV⟩
    have anm:Ap ⟨w'.heap,g2,S.aC.length,[]⟩ w.heap.size (lT g) r x:=by
     obtain⟨ys,p1,p2,p3⟩:=mR;refine⟨ys,p1,p2,λp v y hv hy=>?_⟩;obtain⟨q1,q2,q3⟩:=p3 p v y hv hy;refine⟨anj (X:=⟨w'.heap,g',G'.length,[]⟩) (X':=⟨w'.heap,g2,S.aC.length,[]⟩) rfl rfl (ank Hb v (gw hv)) q1,q2,λf n es e=>?_⟩;rcases q3 f n es e with h | ⟨b,off,cap,c,e,h1,h2,h3,h4,h5,h6⟩
     .exact .inl h
     .have h2:w.heap.size<=b:=h2.resolve_right (Hc b)
      refine .inr ⟨b,off,cap,c,e,h1,.inl h2,?_,h4,h5,h6⟩;show(if b<w.heap.size then _ else _)=_
      rw[ax']
      have h3:g'.ow b=.tok p:=h3;rw[h3]
    obtain⟨gn,r1,r2,_⟩:=hR.called Dh J8 anm G8 xL;exact hK gn _ _ (r1.put hd r2)
  .cases hrun
 .cases hrun
end
def aaq:∀(i:Nat) (vs:List V),(db [] i vs).2=[]
 |_,[]=>rfl
 |i,v::vs=>by
  have ih:=aaq (i+1) vs;simp only[db];split
  .simp only[look];exact ih
  .exact ih
def ann(r:V):(recv [] r).2=[]:=by rw[NH];exact aaq _ _
def aar{C:bI}{d:Option Nat}{S S':St}{f:bG}{args:List (Sh×bG)}(h:VO.run C d S (.um f args)=some S'):VO.run C d S (.call false f args [])=some S':=by
 simp only[VO.run]at h ⊢;split at h
 .split at h
  next r G hc=>
   simp only[rd]at h;split at h
   next e=>
    subst e;cases h;simp only[hc,ann,vr]
   .cases h
  .cases h
 .cases h

/- The value machine, 9: calls. -/
import Derived.Test.YtcelmhaoipbdiaaGreatDoorVm8
import Derived.Defers
namespace Go.Vm
set_option linter.all false
def V.fO:V→List V
 |.tuple vs=>vs
 |.agg cs=>cs
 |v=>[v]
def tg(r:V)(us:List V):V :=
 match r with
 |.tuple _=>.tuple us
 |.agg _=>.agg us
 |_=>us.headD .undef
def Aa(r:V):V:=tg r (r.fO.map strip)
def FI(r:V)(x:Value)(ys:List Value):Prop :=
 match r with
 |.tuple _=>x=.tuple ys.toArray
 |.agg _=>x=.agg ys.toArray
 |_=>ys=[x]
def C2(X:Cx)(base:Nat)(O:Nat→Prop)(p:Nat)(v:V)(x:Value):Prop :=
 ∀f n es,v=.slice (some f) n es→(es=[]∧kX x) ∨
  ∃b off cap c e,x=.slice (some ⟨b,off,none⟩) es.length cap∧(base≤b∨O b)∧X.g.ow b=.tok p∧X.g.m b=off+es.length*n∧X.h[b]?=some (.cells c e (0,0))∧off+cap*n≤c.size∧off=0∧0<es.length
def jZ(g:Gh)(b:Nat):Prop:=∃p q,g.ow b=.cell p q
def wS(X:Cx)(base:Nat)(O:Nat→Prop)(r:V)(x:Value):Prop :=
 ∃ys,FI r x ys∧ys.length=r.fO.length∧∀(p:Nat) (v:V) (y:Value),r.fO[p]?=some v→ys[p]?=some y→aZ X (strip v) y∧(∀d,(strip v).ch d=false)∧C2 X base O p v y
structure Ext(w:World)(g:Gh)(N:Nat)(w':World)(g':Gh)(N':Nat):Prop where
 os:w'.os=w.os
 tape:w'.tape=w.tape
 output:w'.output=w.output
 size:w.heap.size≤w'.heap.size
 eD:N≤N'
 γ:∀i,i<N→g'.γ i=g.γ i
 γnew:∀i,N≤i→i<N'→w.heap.size≤g'.γ i
 kI:∀b,b<w.heap.size→(∀i,i<N→g.ow b≠.ay i)→¬ jZ g b→w'.heap[b]?=w.heap[b]?∧g'.m b=g.m b
 grow:∀b,b<w.heap.size→jZ g b→(∀o y,o<g.m b→cellAt w.heap b o=some y→cellAt w'.heap b o=some y)∧g.m b≤g'.m b
 hY:∀b p q,b<w.heap.size→g'.ow b=.cell p q→jZ g b
 lv:∀b i,g'.ow b=.ay i→b<w.heap.size→g.ow b=.ay i∧i<N
theorem Ext.le{w w':World}{g g':Gh}{N N':Nat}(h:Ext w g N w' g' N')(hz:∀b i,g.ow b=.ay i→g.m b=0):Le ⟨w.heap,g,N,[]⟩ ⟨w'.heap,g',N',[]⟩ where
 size:=h.size
 cells:=fun b o y ho hc=>by
  have hb:=zK hc;by_cases h1:jZ g b
  ·exact(h.grow b hb h1).1 o y ho hc
  ·by_cases h2:∃i,g.ow b=.ay i
   ·obtain⟨i,h2⟩:=h2
    have:=hz b i h2;exact absurd ho (by show ¬ o<g.m b;omega)
   ·exact(rU (h.kI b hb (fun i _ h=>h2 ⟨i,h⟩) h1).1 o).trans hc
 m:=fun b hb=>by
  by_cases h1:jZ g b
  ·exact(h.grow b hb h1).2
  ·by_cases h2:∃i,g.ow b=.ay i
   ·obtain⟨i,h2⟩:=h2
    have:=hz b i h2;show g.m b≤_;omega
   ·exact tO (h.kI b hb (fun i _ h=>h2 ⟨i,h⟩) h1).2.symm
 eD:=h.eD
 γ:=h.γ
def TD:Code→Bool
 |.seq (.region _ ops _) _=>match ops.toList with
  |[_,o]=>(match o.op with | .defer _=>true|_=>false)
  |_=>false
 |_=>false
def FJ(P:Program)(f:FuncId):Bool:=jb f==f &&
 match P.funcs[f]? with
 |some fn=>match fn.body with
  |some c => !TD c
  |none=>false
 |none=>false
structure uh(P:Program)(T:Pk)(f:FuncId)(args:List V)(G:List aT)(r:V)(G':List aT):Prop where
 fn:∃fn,P.funcs[jb f]?=some fn∧fn.body.isSome=true∧(fn.name== "runtime.NumGoroutine")=false
 ret:∀d,(Aa r).ch d=false
 run:∀(w:World) (g:Gh) (xs:List Value),nW T w.heap g.m→rW w.heap g G→args.length=xs.length →
  (∀(i:Nat) (v:V) (x:Value),args[i]?=some v→xs[i]?=some x→aZ ⟨w.heap,g,G.length,[]⟩ v x) →
  Calls P (jb f) xs.toArray w fun e w'=>∃x g',e=.returned x∧Ext w g G.length w' g' G'.length∧rW w'.heap g' G'∧wS ⟨w'.heap,g',G'.length,[]⟩ w.heap.size (jZ g) r x
 M5:FJ P (jb f)=true→∀(u:FrameMode) (w:World) (g:Gh) (xs:List Value),nW T w.heap g.m→rW w.heap g G→args.length=xs.length →
  (∀(i:Nat) (v:V) (x:Value),args[i]?=some v→xs[i]?=some x→aZ ⟨w.heap,g,G.length,[]⟩ v x) →
  CallsD P (jb f) xs.toArray u w fun e u' w'=>u'=u∧∃x g',e=.returned x∧Ext w g G.length w' g' G'.length∧rW w'.heap g' G'∧wS ⟨w'.heap,g',G'.length,[]⟩ w.heap.size (jZ g) r x
section
variable {P:Program} {E:Entry} {g g':Gh} {S S':St} {a:Act} {w w':World}
theorem TE{X:Cx}{sh:Sh}{v u:V}{y:Value}(h:zF sh v=some u)(hr:aZ X v y):aZ ⟨X.h,X.g,X.N,[]⟩ u y:=by
 unfold zF at h;split at h
 ·split at h
  ·rename_i cs hg
   cases h;obtain⟨xs,e,hl,hx⟩:=qb hr;subst e;obtain⟨e1,e2⟩:=MV hg;refine .agg _ _ (by omega) (fun i v x hv lJ=>?_)
   obtain⟨z,s,hz,M6⟩:=MW hg i v hv;exact(CX M6 (hx i z x hz lJ)).2.2.1
  ·cases h
 ·split at h
  ·exact(CX h hr).2.2.1
  ·cases h
theorem TF(hR:R E g S a w):∀{args:List (Sh×bp)} {ops:List Operand} {vs:List V},(args.length=ops.length∧∀(i:Nat) sh x y,args[i]?=some (sh,x)→ops[i]?=some y→bO y x=true)→mB S args=some vs →
  vs.length=ops.length∧∀(i:Nat) (v:V) (x:Value),vs[i]?=some v→(ops.map a.eval)[i]?=some x→aZ ⟨w.heap,g,S.ay.length,[]⟩ v x
 |[],[],vs,_,h=>by simp[mB]at h;subst h;simp
 |[],_::_,_,h,_=>by simp at h
 |_::_,[],_,h,_=>by simp at h
 |(sh,x)::args,y::ops,vs,bo,h=>by
  simp only[mB]at h;split at h
  ·rename_i v hv
   split at h
   ·rename_i u us h1 h2
    cases h;have hr:=TE h1 (cS hR (bo.2 0 sh x y (by simp) (by simp)) hv)
    obtain⟨e,hx⟩:=TF hR (args:=args) (ops:=ops) ⟨by simpa using bo.1,fun i xL x' y' hi hj=>bo.2 (i+1) xL x' y' (by simpa using hi) (by simpa using hj)⟩ h2
    refine⟨by simp[e],fun i z zz hz sb=>?_⟩
    cases i with
    |zero=>simp at hz sb;subst hz;subst sb;exact hr
    |succ i=>exact hx i z zz (by simpa using hz) (by simpa using sb)
   ·cases h
  ·cases h
theorem aem{h:Array Obj}{m:Nat→Nat}{tok:Option Nat}{n:Nat}{es:List (List V)}{x:Value}(hr:fa h m (.slice none n es) x):fa h m (.slice tok n es) x:=by
 cases hr with
 |nil=>exact .nil _ _
 |empty _ _ a cap=>exact .empty _ _ a cap
 |slice _ _ _ b off cap ys hb en iw hc hv hp hm=>exact .slice tok n es b off cap ys hb en iw hc hv hp hm
theorem M7(reg:List (Nat×Nat)):∀(vs:List V) (i:Nat),(cR reg i vs).1.length=vs.length
 |[],i=>rfl
 |v::vs,i=>by
  have:=M7 reg vs (i+1);simp only[cR];split
  ·split<;>simp[this]
  ·simp[this]
theorem FK(reg:List (Nat×Nat)):∀(vs:List V) (i k:Nat) (u:V),(cR reg i vs).1[k]?=some u→∃v,vs[k]?=some v ∧
  ((∃t n es f,v=.slice (some t) n es∧look (i+k) reg=some f∧u=.slice (some f) n es)∨u=strip v)
 |[],i,k,u,h=>by simp[cR]at h
 |v::vs,i,k,u,h=>by
  simp only[cR]at h;split at h
  ·rename_i t n es
   split at h
   ·rename_i f hf
    cases k with
    |zero=>simp at h;subst h;exact⟨.slice (some t) n es,by simp,.inl ⟨t,n,es,f,rfl,by simpa using hf,rfl⟩⟩
    |succ k =>
     obtain⟨z,hz,hc⟩:=FK reg vs (i+1) k u (by simpa using h)
     refine⟨z,by simpa using hz,?_⟩
     rw[show i+(k+1)=i+1+k from by omega];exact hc
   ·cases k with
    |zero=>simp at h;subst h;exact⟨.slice (some t) n es,by simp,.inr rfl⟩
    |succ k =>
     obtain⟨z,hz,hc⟩:=FK reg vs (i+1) k u (by simpa using h)
     refine⟨z,by simpa using hz,?_⟩
     rw[show i+(k+1)=i+1+k from by omega];exact hc
  ·cases k with
   |zero=>simp at h;subst h;exact⟨_,by simp,.inr rfl⟩
   |succ k =>
    obtain⟨z,hz,hc⟩:=FK reg vs (i+1) k u (by simpa using h)
    refine⟨z,by simpa using hz,?_⟩
    rw[show i+(k+1)=i+1+k from by omega];exact hc
theorem C4(reg:List (Nat×Nat)):∀(vs:List V) (i:Nat) (f k:Nat),(f,k)∈(cR reg i vs).2→∃p t n es,vs[p]?=some (.slice (some t) n es)∧look (i+p) reg=some f∧k=es.length
 |[],i,f,k,h=>by simp[cR]at h
 |v::vs,i,f,k,h=>by
  have shift:(∃p t n es,vs[p]?=some (.slice (some t) n es)∧look (i+1+p) reg=some f∧k=es.length)→∃p t n es,(v::vs)[p]?=some (.slice (some t) n es)∧look (i+p) reg=some f∧k=es.length:=by
   rintro⟨p,t,n,es,h1,h2,h3⟩;exact⟨p+1,t,n,es,by simpa using h1,by rw[show i+(p+1)=i+1+p from by omega];exact h2,h3⟩
  simp only[cR]at h;split at h
  ·rename_i t n es
   split at h
   ·rename_i f' hf
    rcases ko.1 h with h|h
    ·cases h;exact⟨0,t,n,es,by simp,by simpa using hf,rfl⟩
    ·exact shift (C4 reg vs (i+1) f k h)
   ·exact shift (C4 reg vs (i+1) f k h)
  ·exact shift (C4 reg vs (i+1) f k h)
theorem ui{α:Type}{s:Nat}{v:α}:∀{l:List (Nat×α)},look s l=some v→(s,v)∈l
 |[],h=>by simp[look]at h
 |(k,u)::r,h=>by
  rw[dj]at h;split at h
  ·rename_i e;cases h;rw[e];exact wC
  ·exact AW _ (ui h)
theorem xM{α:Type}{s:Nat}:∀{l r:List (Nat×α)},look s (l++r)=match look s l with|some v=>some v|none=>look s r
 |[],r=>rfl
 |(k,u)::l,r=>by
  rw[tL,dj,dj];split
  ·rfl
  ·exact xM
def Bs(reg:List (Nat×Nat)):List Nat:=reg.map (·.2)
def inj(reg:List (Nat×Nat)):Bool:=(Bs reg).Nodup&&(reg.map (·.1)).Nodup
theorem aen{reg:List (Nat×Nat)}(h1:(reg.map (·.2)).Nodup){p q f:Nat}(hp:(p,f)∈reg)(hq:(q,f)∈reg):p=q:=by
 induction reg with
 |nil=>cases hp
 |cons x r ih =>
  simp only[nq,List.nodup_cons]at h1;rcases ko.1 hp with e1|e1<;>rcases ko.1 hq with e2|e2
  ·rw[←e1]at e2;cases e2;rfl
  ·exact absurd (lV.2 ⟨_,e2,rfl⟩) (by rw[←e1]at h1;exact h1.1)
  ·exact absurd (lV.2 ⟨_,e1,rfl⟩) (by rw[←e2]at h1;exact h1.1)
  ·exact ih h1.2 e1 e2
theorem TG{reg:List (Nat×Nat)}(h:inj reg=true){p q f:Nat}(hp:look p reg=some f)(hq:look q reg=some f):p=q:=by
 simp only[inj,bQ,jA]at h;exact aen h.1 (ui hp) (ui hq)
theorem I7(reg:List (Nat×Nat))(r:V):recv reg r=(tg r (cR reg 0 r.fO).1,(cR reg 0 r.fO).2):=by
 have h:∀v:V,∃u ts,cR reg 0 [v]=([u],ts):=fun v=>by
  simp only[cR];split
  ·split<;>exact⟨_,_,rfl⟩
  ·exact⟨_,_,rfl⟩
 cases r<;>first
  |rfl
  |(rename_i x y z;obtain⟨u,ts,e⟩:=h (.slice x y z);simp only[recv,V.fO,tg,e];rfl)
  |(rename_i x y z;obtain⟨u,ts,e⟩:=h (.bP x y z);simp only[recv,V.fO,tg,e];rfl)
  |(simp only[recv,V.fO,tg,cR];rfl)
theorem R.called(hR:R E g S a w){G':List aT}(hx:Ext w g S.ay.length w' g' G'.length)(hG:rW w'.heap g' G'){r:V}{x:Value}(hr:wS ⟨w'.heap,g',G'.length,[]⟩ w.heap.size (jZ g) r x)
  {reg:List (Nat×Nat)} (C5:inj reg=true) (uj:∀p f,look p reg=some f→S.eM f) :
  ∃gn,R E gn { S with ay:=G',bf:=(recv reg r).2++S.bf } a w'∧aZ (({ S with ay:=G',bf:=(recv reg r).2++S.bf }:St).cx gn w') (recv reg r).1 x ∧
   gn.m=g'.m∧∀b p,w.heap.size≤b→g'.ow b=.tok p→look p reg=none→gn.ow b=.none:=by
 classical
 obtain⟨ys,te,hlen,fV⟩:=hr;rw[I7];simp only
 let T':=(cR reg 0 r.fO).2++S.bf
 have M8:∀f k,look f (cR reg 0 r.fO).2=some k→∃p t n es y,r.fO[p]?=some (.slice (some t) n es)∧look p reg=some f∧k=es.length∧ys[p]?=some y:=fun f k hk=>by
  obtain⟨p,t,n,es,h1,h2,h3⟩:=C4 reg _ 0 f k (ui hk);have hp:=eJ h1;exact⟨p,t,n,es,ys[p]'(by omega),h1,by simpa using h2,h3,gG (by omega)⟩
 let Q:Nat→Nat×Value→Prop:=fun f q=>look q.1 reg=some f∧ys[q.1]?=some q.2
 let τn:Nat→Option Nat:=fun f=>if h:∃q,Q f q then zW h.choose.2 else g.τ f
 have hτ:∀f p y,look p reg=some f→ys[p]?=some y→τn f=zW y:=fun f p y hp hy=>by
  have hq:∃q,Q f q:=⟨(p,y),hp,hy⟩;show(if h:∃q,Q f q then zW h.choose.2 else g.τ f)=_
  rw[dif_pos hq];obtain⟨h1,h2⟩:=hq.choose_spec;have e:=TG C5 h1 hp;rw[e,hy]at h2;rw[←Option.some.inj h2]
 have TH:∀f,(∀p,look p reg≠some f)→τn f=g.τ f:=fun f hp=>by
  show(if h:∃q,Q f q then zW h.choose.2 else g.τ f)=_
  rw[dif_neg (fun h=>by obtain⟨q,h1,_⟩:=h;exact hp _ h1)]
 let own:Nat→Ow:=fun b=>if b<w.heap.size∧¬ (jZ g b∨∃i,g.ow b=.ay i) then g.ow b else match g'.ow b with
  |.tok p=>(match look p reg with|some f=>.tok f|none=>.none)
  |.ay i=>.ay i
  |.cell p q=>.cell p q
  |_=>.none
 have M9:∀b,b<w.heap.size→¬ jZ g b→(∀i,g.ow b≠.ay i)→own b=g.ow b:=fun b h k l=>aP ⟨h,fun q=>q.elim k fun⟨i,e⟩=>l i e⟩;have C6:∀b,w.heap.size≤b∨jZ g b∨(∃i,g.ow b=.ay i)→own b=match g'.ow b with
  |.tok p=>(match look p reg with|some f=>.tok f|none=>.none)
  |.ay i=>.ay i
  |.cell p q=>.cell p q
  |_=>.none:=fun b h=>aA (fun k=>h.elim (fun h=>by omega) k.2)
 have aeo:∀b i,g'.ow b=.ay i→own b=.ay i:=fun b i h=>by
  rcases cF b w.heap.size with hb|hb
  ·rw[C6 b (.inr (.inr ⟨i,(hx.lv b i h hb).1⟩)),h]
  ·rw[C6 b (.inl hb),h]
 have TI:∀b i,own b=.ay i→g'.ow b=.ay i:=fun b i h=>by
  by_cases hc:b<w.heap.size∧¬ (jZ g b∨∃i,g.ow b=.ay i)
  ·have e:own b=g.ow b:=aP hc
   rw[e]at h;exact absurd (.inr ⟨i,h⟩) hc.2
  ·have e:own b=_:=aA hc
   rw[e]at h;split at h
   ·split at h<;>cases h
   ·rename_i k hk;cases h;exact hk
   ·cases h
   ·cases h
 have I8:∀{b o},g.ow b=o→(∀p q,o≠.cell p q)→¬ jZ g b:=fun h1 h2 ⟨p,q,h3⟩=>h2 p q (h1.symm.trans h3)
 let gn:Gh:={ m:=g'.m,κ:=g.κ,cp:=g.cp,τ:=τn,γ:=g'.γ,ow:=own }
 have hold:∀b,b<w.heap.size→(∀i,g.ow b≠.ay i)→¬ jZ g b→w'.heap[b]?=w.heap[b]?∧g'.m b=g.m b:=fun b hb ho hn =>
  hx.kI b hb (fun i _=>ho i) hn
 have le:Le (S.cx g w) ⟨w'.heap,gn,G'.length,T'⟩ :=
  {size:=hx.size
   cells:=fun b o y ho hy=>by
    have hb:=zK hy;show cellAt w'.heap b o=some y;by_cases hw:jZ g b
    ·exact(hx.grow b hb hw).1 o y ho hy
    rw[rU (hx.kI b hb (fun i hi e=>?_) hw).1]
    ·exact hy
    ·have ho:o<g.m b:=ho
     rw[(hR.ay.z b i e).1]at ho;omega
   m:=fun b hb=>by
    show g.m b≤g'.m b;by_cases hw:jZ g b
    ·exact(hx.grow b hb hw).2
    by_cases h:∃i,g.ow b=.ay i
    ·obtain⟨i,e⟩:=h
     rw[(hR.ay.z b i e).1];omega
    ·rw[(hx.kI b hb (fun i hi e=>h ⟨i,e⟩) hw).2];exact bR _
   eD:=hx.eD
   γ:=hx.γ }
 have Na:∀f,(∀p,look p reg≠some f)→look f T'=look f S.bf:=fun f hf=>by
  show look f ((cR reg 0 r.fO).2++S.bf)=_;rw[xM];cases h:look f (cR reg 0 r.fO).2 with
  |none=>rfl
  |some k =>
   obtain⟨p,_,_,_,_,_,h2,_,_⟩:=M8 f k h;exact absurd h2 (hf p)
 have TJ:∀f k p,look p reg=some f→look f T'=some k→look f (cR reg 0 r.fO).2=some k:=fun f k p hp hk=>by
  have hk:look f ((cR reg 0 r.fO).2++S.bf)=some k:=hk;rw[xM]at hk;cases h:look f (cR reg 0 r.fO).2 with
  |none=>rw[h]at hk;simp only at hk;rw[(uj p f hp).tok]at hk;cases hk
  |some k'=>rw[h]at hk;exact hk
 have keeps:∀d,iM (S.cx g w) ⟨w'.heap,gn,G'.length,T'⟩ d∨S.eM d:=fun d=>by
  by_cases hd:∃p,look p reg=some d
  ·obtain⟨p,hp⟩:=hd
   exact .inr (uj p d hp)
  ·have hd:∀p,look p reg≠some d:=fun p e=>hd ⟨p,e⟩
   refine .inl ⟨rfl,rfl,fun k' jh=>?_⟩;have hk:look d S.bf=some k':=by rw[←Na d hd];exact jh
   refine⟨k',hk,bR _,fun _=>⟨TH d hd,fun b hb=>?_⟩⟩;obtain⟨h1,h2,h3⟩:=hR.bf d k' b hk hb;obtain⟨h4,h5⟩:=hold b h3 (fun i e=>by rw[h1]at e;cases e) (I8 h1 (fun _ _ e=>by cases e))
   exact⟨h5,fun c e hc=>⟨c,h4.trans hc,rfl⟩⟩
 have I9:∀T,Le ⟨w'.heap,g',G'.length,[]⟩ ⟨w'.heap,gn,G'.length,T⟩:=fun T=>⟨bR _,fun _ _ _ _ h=>h,fun _ _=>bR _,bR _,fun _ _=>rfl⟩;refine⟨gn,⟨fun s v hs=>?_,fun id cs ho=>?_,fun f k b hf hb=>?_,⟨fun i o ho=>?_,fun i o ho=>?_,fun b i ho=>?_⟩,hR.defers,hR.jg,?_⟩,?_,rfl,fun b p hb ho hl=>by show own b=_;rw[C6 b (.inl hb),ho];simp only[hl]⟩
 ·obtain⟨x,h1,h2⟩:=hR.env s v hs
  exact⟨x,h1,h2.mono le fun d=>(keeps d).imp (fun z=>z) fun h=>h.env s v hs⟩
 ·rcases hR.aW id cs ho with h0 | ⟨h1,h2,h3,c,e,h4,fJ,h5⟩
  ·exact .inl h0
  have bB:g.κ id<w.heap.size:=by
   rcases cF (g.κ id) w.heap.size with h|h
   ·exact h
   ·simp[lU h]at h4
  obtain⟨h6,h7⟩:=hold _ bB (fun i e=>by rw[h1]at e;cases e) (I8 h1 (fun _ _ e=>by cases e))
  refine .inr ⟨(M9 _ bB (I8 h1 (fun _ _ e=>by cases e)) (fun i e=>by rw[h1]at e;cases e)).trans h1,h2,h7.trans h3,c,e,h6.trans h4,fJ,fun j v hj=>?_⟩
  obtain⟨h8,y,h9,fT⟩:=h5 j v hj;exact⟨h8,y,h9,fT.mono le fun d=>(keeps d).imp (fun z=>z) fun h=>s9 (h.aW id cs ho v (gH hj))⟩
 ·by_cases hd:∃p,look p reg=some f
  ·obtain⟨p0,hp0⟩:=hd
   obtain⟨p,t,n,es,y,h1,h2,h3,h4⟩:=M8 f k (TJ f k p0 hp0 hf);obtain⟨_,_,sd⟩:=fV p _ y h1 h4;have hb:τn f=some b:=hb;rw[hτ f p y h2 h4]at hb;rcases sd t n es rfl with⟨_,e⟩ | ⟨b',off,cap,c,e,h5,h6,h7,h8,h9,fT⟩
   ·rw[MX e]at hb;cases hb
   ·rw[h5,FB fT.2.2,Option.some.injEq]at hb
    subst hb;refine⟨?_,?_,?_⟩
    ·show own b'=_
     have h7:g'.ow b'=.tok p:=h7;rw[C6 b' (h6.imp (fun z=>z) .inl),h7];simp only[h2]
    ·rcases h6 with h6 | ⟨p',q',h6⟩
     ·exact .inl (jT hR.same.size h6)
     ·rcases cF b' E.w0.heap.size with h|h
      ·exact .inr (hR.same.hY b' p' q' h h6)
      ·exact .inl h
    ·rcases cF b' w'.heap.size with h|h
     ·exact h
     ·simp[lU h]at h9
  ·have hd:∀p,look p reg≠some f:=fun p e=>hd ⟨p,e⟩
   have MK:look f S.bf=some k:=by rw[←Na f hd];exact hf
   have nC:g.τ f=some b:=by rw[←TH f hd];exact hb
   obtain⟨h1,h2,h3⟩:=hR.bf f k b MK nC;exact⟨(M9 b h3 (I8 h1 (fun _ _ e=>by cases e)) (fun i e=>by rw[h1]at e;cases e)).trans h1,h2,iq h3 hx.size⟩
 ·rcases hG.obj i o ho with h0 | ⟨h1,h2⟩
  ·exact .inl h0
  have hi:=eJ ho;refine .inr ⟨?_,?_⟩
  ·exact aeo _ _ h1
  ·cases o with
   |map es =>
    obtain⟨h3,c,e,h4,h5,h6⟩:=h2;refine⟨h3,c,e,h4,h5,fun j v y hj hy=>?_⟩;obtain⟨h7,h8,h9,fT⟩:=h6 j v y hj hy;exact⟨h7,h8,h9.mono (I9 []) fun d=>.inr (h7 d),fT.mono (I9 []) fun d=>.inr (vl (h8 d))⟩
   |cells cs =>
    obtain⟨h3,c,e,h4,h5,h6⟩:=h2;refine⟨h3,c,e,h4,h5,fun j v y hj hy=>?_⟩;obtain⟨h7,h8,h9⟩:=h6 j v y hj hy;exact⟨h7,h8,h9.mono (I9 []) fun d=>.inr (h8 d)⟩
 ·have h3:=hG.own i o ho
  cases o with
  |map es=>trivial
  |cells cs =>
   intro j n es y hj hy;rcases h3 j n es y hj hy with h | ⟨q,cap,c',e',q1,q2,q3,q4,q5,q6⟩
   ·exact .inl h
   ·refine .inr ⟨q,cap,c',e',q1,?_,q3,q4,q5,q6⟩
    show own q=_;rw[C6 q,q2];rcases cF q w.heap.size with h|h
    ·exact .inr (.inl (hx.hY q _ _ h q2))
    ·exact .inl h
 ·exact hG.z b i (TI b i ho)
 ·exact {
   os:=hx.os.trans hR.same.os
   tape:=hx.tape.trans hR.same.tape
   output:=hx.output.trans hR.same.output
   size:=jT hR.same.size hx.size
   eD:=jT hR.same.eD hx.eD
   γ:=fun i hi=>(hx.γ i (iq hi hR.same.eD)).trans (hR.same.γ i hi)
   γnew:=fun i h1 h2=>by
    by_cases h:i<S.ay.length
    ·show _≤g'.γ i
     rw[hx.γ i h];exact hR.same.γnew i h1 h
    ·exact jT hR.same.size (hx.γnew i (by omega) h2)
   kI:=fun b hb ji wI=>by
    obtain⟨h1,h2⟩:=hR.same.kI b hb ji wI;obtain⟨h3,h4⟩:=hx.kI b (iq hb hR.same.size) (fun i hi e=>by
     obtain⟨k1,k2⟩:=hR.same.lv b i e hb;exact ji i k2 k1) (fun⟨p,q,h⟩=>wI (hR.same.hY b p q hb h))
    exact⟨h3.trans h1,h4.trans h2⟩
   grow:=fun b hb hw=>by
    obtain⟨h1,h2⟩:=hR.same.grow b hb hw;have bB:=iq hb hR.same.size;exact⟨fun o y ho hy=>le.cells b o y (iq ho h2) (h1 o y ho hy),jT h2 (le.m b bB)⟩
   hY:=fun b p q hb ho=>by
    have ho:own b=.cell p q:=ho;have bB:=iq hb hR.same.size;by_cases hw:jZ g b
    ·obtain⟨p',q',hw⟩:=hw
     exact hR.same.hY b p' q' hb hw
    ·by_cases Bt:∃i,g.ow b=.ay i
     ·rw[C6 b (.inr (.inr Bt))]at ho
      split at ho
      ·split at ho<;>cases ho
      ·cases ho
      ·rename_i hk;cases ho;exact absurd (hx.hY b _ _ bB hk) hw
      ·cases ho
     ·rw[M9 b bB hw (fun i e=>Bt ⟨i,e⟩)]at ho
      exact absurd ⟨p,q,ho⟩ hw
   lv:=fun b i ho hb=>by
    have bB:=iq hb hR.same.size;exact hR.same.lv b i (hx.lv b i (TI b i ho) bB).1 hb }
 ·have Nb:∀(k:Nat) (u:V) (y:Value),(cR reg 0 r.fO).1[k]?=some u→ys[k]?=some y→aZ ⟨w'.heap,gn,G'.length,T'⟩ u y:=fun k u y hu hy=>by
   obtain⟨v,hv,hc⟩:=FK reg _ 0 k u hu;obtain⟨q1,q2,q3⟩:=fV k v y hv hy;rcases hc with⟨t,n,es,f,rfl,h2,rfl⟩ | rfl
   ·rw[jz]at h2
    have Bk:fa w'.heap g'.m (.slice none n es) y:=by
     cases q1 with|plain h _=>exact h
    refine .plain (aem Bk) (fun f' n' oT he k' jh=>?_);cases he;obtain⟨p,t',n',oT,y',h3,h4,h5,h6⟩:=M8 f k' (TJ f k' k h2 jh);have:p=k:=TG C5 h4 h2;subst this;rw[hv]at h3;cases h3;rw[hy]at h6;cases h6;subst h5;refine⟨bR _,fun _=>?_⟩;rcases q3 t n es rfl with⟨e1,e2⟩ | ⟨b,off,cap,c,e,h7,h8,h9,fT,kL,ti⟩
    ·exact .inl ⟨by rw[e1];rfl,e2⟩
    ·exact .inr ⟨b,off,cap,c,e,by show τn f=_;rw[hτ f p y h2 hy,h7];exact FB ti.2.2,h7,fT,kL,ti⟩
   ·exact q1.mono (I9 _) fun d=>.inr (q2 d)
  have xN:=M7 reg r.fO 0;show aZ ⟨w'.heap,gn,G'.length,T'⟩ _ _;have single:r.fO=[r]→ys=[x]→(∀us,tg r us=us.headD .undef)→aZ ⟨w'.heap,gn,G'.length,T'⟩ (tg r (cR reg 0 r.fO).1) x:=fun e1 e2 e3=>by
   rw[e3];have oh:(cR reg 0 r.fO).1.length=1:=by rw[xN,e1];rfl
   match qR:(cR reg 0 r.fO).1,oh with
   |[u],_=>exact Nb 0 u x (by rw[qR];rfl) (by rw[e2];rfl)
  cases r with
  |tuple vs =>
   have te:x=.tuple ys.toArray:=te;subst te;exact .tuple _ _ (by rw[xN];simpa using hlen.symm) (fun i v y hv hy=>Nb i v y hv (by simpa using hy))
  |agg vs =>
   have te:x=.agg ys.toArray:=te;subst te;exact .agg _ _ (by rw[xN];simpa using hlen.symm) (fun i v y hv hy=>Nb i v y hv (by simpa using hy))
  |_=>exact single rfl te (fun _=>rfl)
theorem TK{o:Oper}{f:Operand}{args:Array Operand}{ts:Array TypeId}{fo:bp}{as:List (Sh×bp)}{reg:List (Nat×Nat)}{C:br}(ho:o.op=.call ⟨.value f,args,ts⟩)(hf:bO f fo=true)
  (has:as.length=args.toList.length∧∀(i:Nat) sh x y,as[i]?=some (sh,x)→args.toList[i]?=some y→bO y x=true)
  (hC:∀f args G r G',C f args G=some (r,G')→uh P E.T f args G r G')
  (C5:inj reg=true) (uj:∀p f,look p reg=some f→S.eM f)
  (hR:R E g S a w) (hd:∀d,o.dst=some d→d<E.nt) (ah:VO.run C o.dst S (.call false fo as reg)=some S'):cd P E o S S' a w:=by
 simp only[VO.run]at ah;split at ah
 ·rename_i m8 cap vs wT r0
  split at ah
  ·rename_i r G' j0
   cases ah;have vw:=hC _ _ _ _ _ j0;obtain⟨fn,pJ,vx,pK⟩:=vw.fn;obtain⟨xs,e1,dg,lY⟩:∃xs:Array Value,a.eval f=.func (.func (jb m8)) #[] xs∧cap.length=xs.size∧∀(j:Nat) (v:V),cap[j]?=some v→∃i o,v=.bI i o∧i<S.ay.length∧xs[j]?=some (.pointer (some ⟨g.γ i,o,none⟩)):=by
    have hr:=cS hR hf wT;generalize a.eval f=y at hr;cases hr with
    |plain h _=>cases h
    |fn _ _ xs hl hx=>exact⟨xs,rfl,hl,hx⟩
   obtain⟨hl,hx⟩:=TF hR has r0;have fh:(execOp a.eval o).run P w=.ok (.enter (jb m8) (args.map a.eval++xs)) w:=by
    simp[execOp,ho,resolve,e1,Deferred.ofValue,invoke,callFunc,pJ];simp at pK;cases hb:fn.body with
    |none=>simp[hb]at vx
    |some c=>simp[pK]
   intro K Q hK;unfold Oper.wp;rw[fh,Oper.upon_enter];have ah:=vw.run w g ((args.toList.map a.eval)++xs.toList) hR.pk hR.ay (by simp;simp at hl;omega) (fun i v x hv lJ=>by
    rw[pj]at hv lJ;have hvl:vs.length=(args.toList.map a.eval).length:=by rw[xr];exact hl
    split at hv
    ·rename_i h
     rw[aP (by omega)]at lJ
     exact hx i v x hv lJ
    ·rename_i h
     rw[aA (by omega)]at lJ
     obtain⟨k,o',e2,hk,h3⟩:=lY _ v hv;rw[hvl]at h3;subst e2;have:x=.pointer (some ⟨g.γ k,o',none⟩):=by
      have h4:xs.toList[i-(args.toList.map a.eval).length]?=some (.pointer (some ⟨g.γ k,o',none⟩)):=by simpa using h3
      rw[h4]at lJ;exact(Option.some.inj lJ).symm
     rw[this];exact .bI k o' hk)
   have wU:((args.toList.map a.eval)++xs.toList).toArray=args.map a.eval++xs:=by
    apply mr;simp
   rw[wU]at ah;refine ah.mono fun e w' ⟨x,g',he,hext,hG,kM⟩=>?_;subst he;obtain⟨gn,r1,r2,_⟩:=hR.called hext hG kM C5 uj;exact hK gn _ _ (r1.put hd r2)
  ·cases ah
 ·cases ah
theorem TL{X:Cx}{sh:Sh}{v u:V}{y:Value}(h:oN sh v=some u)(hr:aZ X v y)(N:Nat):aZ ⟨X.h,X.g,N,[]⟩ u y:=by
 unfold oN at h;split at h
 ·split at h
  ·rename_i cs hg
   cases h;obtain⟨xs,e,hl,hx⟩:=qb hr;subst e;obtain⟨e1,e2⟩:=Fp hg;refine .agg _ _ (by omega) (fun i v x hv lJ=>?_)
   obtain⟨z,s,hz,M6⟩:=IZ hg i v hv;obtain⟨p,q⟩:=Fo M6 (hx i z x hz lJ);exact .plain q (tc p)
  ·cases h
 ·cases h
  cases hr with
  |plain h _=>cases h
  |fn _ _ xs hl _=>exact .fn _ [] xs hl fun j v hj=>by simp at hj
 ·split at h
  ·obtain⟨p,q⟩:=Fo h hr
   exact .plain q (tc p)
  ·cases h
theorem TM(hR:R E g S a w)(N:Nat):∀{args:List (Sh×bp)} {ops:List Operand} {vs:List V},(args.length=ops.length∧∀(i:Nat) sh x y,args[i]?=some (sh,x)→ops[i]?=some y→bO y x=true)→mC S args=some vs →
  vs.length=ops.length∧∀(i:Nat) (v:V) (x:Value),vs[i]?=some v→(ops.map a.eval)[i]?=some x→aZ ⟨w.heap,g,N,[]⟩ v x
 |[],[],vs,_,h=>by simp[mC]at h;subst h;simp
 |[],_::_,_,h,_=>by simp at h
 |_::_,[],_,h,_=>by simp at h
 |(sh,x)::args,y::ops,vs,bo,h=>by
  simp only[mC]at h;split at h
  ·rename_i v hv
   split at h
   ·rename_i u us h1 h2
    cases h;have hr:=TL h1 (cS hR (bo.2 0 sh x y (by simp) (by simp)) hv) N
    obtain⟨e,hx⟩:=TM hR N (args:=args) (ops:=ops) ⟨by simpa using bo.1,fun i xL x' y' hi hj=>bo.2 (i+1) xL x' y' (by simpa using hi) (by simpa using hj)⟩ h2
    refine⟨by simp[e],fun i z zz hz sb=>?_⟩
    cases i with
    |zero=>simp at hz sb;subst hz;subst sb;exact hr
    |succ i=>exact hx i z zz (by simpa using hz) (by simpa using sb)
   ·cases h
  ·cases h
theorem TN{X:Cx}{v:V}{x:Value}(h:v.iv=true)(hr:aZ X (gP v) x):fa X.h X.g.m (gP v) x:=by
 cases v<;>simp_all[V.iv,V.plain,gP]
 all_goals (cases hr with|plain h _=>exact h)
theorem aes{X X':Cx}(hh:X'.h=X.h)(hm:X'.g.m=X.g.m){v:V}{x:Value}(h:v.iG=true)(hr:aZ X (strip v) x):aZ X' (strip v) x:=by
 have key:(∃cs,v=.agg cs)∨(v.iG=v.iv∧strip v=gP v):=by
  cases v<;>first|(left;exact⟨_,rfl⟩)|(right;exact⟨rfl,rfl⟩)
 rcases key with⟨cs,rfl⟩ | ⟨k1,k2⟩
 ·simp only[V.iG,g9]at h
  obtain⟨xs,e,hl,hx⟩:=qb hr;subst e;refine .agg _ _ hl (fun i u y hu hy=>?_);have FN:=hu;rw[tN]at hu;cases hc:cs[i]? with
  |none=>simp[hc]at hu
  |some z =>
   simp[hc]at hu;subst hu;have hz:=h z (gH hc);have:=TN hz (hx i _ y FN hy);rw[←hh,← hm]at this;exact .plain this (fun f n es e=>by cases z<;>simp[gP]at e)
 ·rw[k1]at h
  rw[k2]at hr ⊢;have:=TN h hr;rw[←hh,← hm]at this;exact .plain this (fun f n es e=>by cases v<;>simp[gP]at e)
def noCell(g:Gh):Gh:={ g with ow:=fun b=>match g.ow b with | .cell _ _=>.none | .ay _=>.none|q=>q }
theorem C7(g:Gh)(b:Nat):¬ jZ (noCell g) b:=fun⟨p,q,h⟩=>by
 have h:(match g.ow b with | .cell _ _=>Ow.none | .ay _=>Ow.none|q=>q)=.cell p q:=h
 split at h
 ·cases h
 ·cases h
 ·rename_i h2 h3;exact h2 _ _ h
theorem Nc(g:Gh)(b i:Nat)(h:(noCell g).ow b=.ay i):(noCell g).m b=0∧i<0:=by
 have h:(match g.ow b with | .cell _ _=>Ow.none | .ay _=>Ow.none|q=>q)=.ay i:=h
 split at h
 ·cases h
 ·cases h
 ·rename_i h2 h3;exact absurd h (h3 _)
theorem aet{r:V}(h:r.lone=true):∀v∈r.fO,v.iG=true:=fun v hv=>by
 cases r with
 |tuple vs=>simp only[V.lone,g9]at h;exact h v hv
 |agg cs =>
  simp only[V.lone,V.iG,g9]at h;have:=h v hv;cases v<;>simp_all[V.iv,V.iG,V.plain]
 |_ =>
  simp only[V.fO,oK]at hv;subst hv;exact h
theorem aeu{o:Oper}{f:Operand}{args:Array Operand}{ts:Array TypeId}{fo:bp}{as:List (Sh×bp)}{reg:List (Nat×Nat)}{C:br}(ho:o.op=.call ⟨.value f,args,ts⟩)(hf:bO f fo=true)
  (has:as.length=args.toList.length∧∀(i:Nat) sh x y,as[i]?=some (sh,x)→args.toList[i]?=some y→bO y x=true)
  (hC:∀f args G r G',C f args G=some (r,G')→uh P E.T f args G r G')
  (C5:inj reg=true) (uj:∀p f,look p reg=some f→S.eM f)
  (hR:R E g S a w) (hd:∀d,o.dst=some d→d<E.nt) (ah:VO.run C o.dst S (.call true fo as reg)=some S'):cd P E o S S' a w:=by
 simp only[VO.run]at ah;split at ah
 ·rename_i m8 vs wT r0
  split at ah
  ·rename_i r G' j0
   cases C8:r.lone with
   |false=>simp[C8]at ah
   |true =>
    simp only[C8,bC]at ah;cases ah;have vw:=hC _ _ _ _ _ j0;obtain⟨fn,pJ,vx,pK⟩:=vw.fn;have e1:a.eval f=.func (.func (jb m8)) #[] #[]:=by
     have hr:=cS hR hf wT;generalize a.eval f=y at hr;cases hr with
     |plain h _=>cases h
     |fn _ _ xs hl hx =>
      have:xs = #[]:=by
       apply CC;simpa using hl.symm
      rw[this]
    obtain⟨hl,hx⟩:=TM hR 0 has r0;have fh:(execOp a.eval o).run P w=.ok (.enter (jb m8) (args.map a.eval)) w:=by
     simp[execOp,ho,resolve,e1,Deferred.ofValue,invoke,callFunc,pJ];simp at pK;cases hb:fn.body with
     |none=>simp[hb]at vx
     |some c=>simp[pK]
    intro K Q hK;unfold Oper.wp;rw[fh,Oper.upon_enter];have C9:∀b,¬ jZ (noCell g) b:=C7 g;have ah:=vw.run w (noCell g) (args.toList.map a.eval) hR.pk ⟨fun i o h=>by simp at h,fun i o h=>by simp at h,Nc g⟩ (by simp;simpa using hl) (fun i v x hv lJ=>aZ.mono (X:=⟨w.heap,g,0,[]⟩) (X':=⟨w.heap,noCell g,0,[]⟩) ⟨bR _,fun _ _ _ _ h=>h,fun _ _=>bR _,bR _,fun _ _=>rfl⟩ (hx i v x hv lJ) (fun d=>.inl ⟨rfl,rfl,fun k hk=>by simp[look]at hk⟩))
    have wU:(args.toList.map a.eval).toArray=args.map a.eval:=by
     apply mr;simp
    rw[wU]at ah;refine ah.mono fun e w' ⟨x,g',he,hext,hG,kM⟩=>?_;subst he
    let g2:Gh:={ g' with γ:=g.γ,ow:=fun b=>if b<w.heap.size then g.ow b else match g'.ow b with | .ay _=>.none|q=>q }
    have hold:∀b,b<w.heap.size→w'.heap[b]?=w.heap[b]?∧g'.m b=g.m b:=fun b hb=>hext.kI b hb (fun i hi=>absurd hi (by simp)) (C9 b)
    have Ab:Ext w g S.ay.length w' g2 S.ay.length:=⟨hext.os,hext.tape,hext.output,hext.size,bR _,fun _ _=>rfl,fun i a b=>absurd a (by omega),fun b hb _ _=>hold b hb,
     fun b hb _=>⟨fun o y _ hy=>by rw[rU (hold b hb).1];exact hy,tO (hold b hb).2.symm⟩,fun b p q hb h=>⟨p,q,by(have h:(if b<w.heap.size then _ else _)=Ow.cell p q:=h);rw[aP hb]at h;exact h⟩,
     fun b i h hb=>by(have h:(if b<w.heap.size then _ else _)=Ow.ay i:=h);rw[aP hb]at h;exact⟨h,(hR.ay.z b i h).2⟩⟩
    have Nd:∀i o,S.ay[i]?=some o→A8 w'.heap g2 (g2.γ i) o:=fun i o hi=>by
     have h3:=hR.ay.own i o hi;cases o with
     |map es=>trivial
     |cells cs =>
      intro j n es y hj hy;have hy:cellAt w'.heap (g.γ i) j=some y:=hy;rw[rU (hold _ (CZ hR hi (TA hj))).1]at hy;rcases h3 j n es y hj hy with h | ⟨q,cap,c',e',q1,q2,q3,q4,q5,q6⟩
      ·exact .inl h
      ·have oQ:q<w.heap.size:=by
        rcases cF q w.heap.size with h|h
        ·exact h
        ·simp[lU h]at q4
       exact .inr ⟨q,cap,c',e',q1,by show(if q<w.heap.size then _ else _)=_;rw[aP oQ];exact q2,(hold q oQ).2.trans q3,(hold q oQ).1.trans q4,q5,q6⟩
    have Nf:∀b i,g2.ow b=.ay i→g2.m b=0∧i<S.ay.length:=fun b i h=>by
     have h:(if b<w.heap.size then g.ow b else match g'.ow b with | .ay _=>.none|q=>q)=Ow.ay i:=h
     split at h
     ·rename_i hb
      obtain⟨z1,z2⟩:=hR.ay.z b i h;exact⟨(hold b hb).2.trans z1,z2⟩
     ·split at h
      ·cases h
      ·rename_i q hq;exact absurd h (hq i)
    have FO:rW w'.heap g2 S.ay:=⟨fun i o hi=>by
     rcases hR.ay.obj i o hi with h0 | ⟨h1,h2⟩
     ·exact .inl h0
     refine .inr ?_;cases o with
     |map es =>
      obtain⟨h3,c,e,h4,h5,h6⟩:=h2;have bB:g.γ i<w.heap.size:=by
       rcases cF (g.γ i) w.heap.size with h|h
       ·exact h
       ·simp[lU h]at h4
      obtain⟨q1,q2⟩:=hold _ bB;have le:Le ⟨w.heap,g,S.ay.length,[]⟩ ⟨w'.heap,g2,S.ay.length,[]⟩ :=
       ⟨hext.size,fun b o y ho hy=>by
        have hb:=zK hy;show cellAt w'.heap b o=some y;rw[rU (hold b hb).1];exact hy,fun b hb=>tO (hold b hb).2.symm,bR _,fun _ _=>rfl⟩
      refine⟨by show(if g.γ i<w.heap.size then _ else _)=_;rw[aP bB];exact h1,q2.trans h3,c,e,q1.trans h4,h5,fun j v y hj hy=>?_⟩
      obtain⟨h7,h8,h9,fT⟩:=h6 j v y hj hy;exact⟨h7,h8,h9.mono le fun d=>.inr (h7 d),fT.mono le fun d=>.inr (vl (h8 d))⟩
     |cells cs =>
      obtain⟨h3,c,e,h4,h5,h6⟩:=h2;have bB:g.γ i<w.heap.size:=by
       rcases cF (g.γ i) w.heap.size with h|h
       ·exact h
       ·simp[lU h]at h4
      obtain⟨q1,q2⟩:=hold _ bB;have le:Le ⟨w.heap,g,S.ay.length,[]⟩ ⟨w'.heap,g2,S.ay.length,[]⟩ :=
       ⟨hext.size,fun b o y ho hy=>by
        have hb:=zK hy;show cellAt w'.heap b o=some y;rw[rU (hold b hb).1];exact hy,fun b hb=>tO (hold b hb).2.symm,bR _,fun _ _=>rfl⟩
      refine⟨by show(if g.γ i<w.heap.size then _ else _)=_;rw[aP bB];exact h1,q2.trans h3,c,e,q1.trans h4,h5,fun j v y hj hy=>?_⟩
      obtain⟨h7,h8,h9⟩:=h6 j v y hj hy;exact⟨h7,h8,h9.mono le fun d=>.inr (h8 d)⟩,Nd,Nf⟩
    have aev:wS ⟨w'.heap,g2,S.ay.length,[]⟩ w.heap.size (jZ g) r x:=by
     obtain⟨ys,p1,p2,p3⟩:=kM;refine⟨ys,p1,p2,fun p v y hv hy=>?_⟩;obtain⟨q1,q2,q3⟩:=p3 p v y hv hy;refine⟨aes (X:=⟨w'.heap,g',G'.length,[]⟩) (X':=⟨w'.heap,g2,S.ay.length,[]⟩) rfl rfl (aet C8 v (gH hv)) q1,q2,fun f n es e=>?_⟩;rcases q3 f n es e with h | ⟨b,off,cap,c,e,h1,h2,h3,h4,h5,h6⟩
     ·exact .inl h
     ·have h2:w.heap.size≤b:=h2.resolve_right (C9 b)
      refine .inr ⟨b,off,cap,c,e,h1,.inl h2,?_,h4,h5,h6⟩;show(if b<w.heap.size then _ else _)=_
      rw[aA (by omega)]
      have h3:g'.ow b=.tok p:=h3;rw[h3]
    obtain⟨gn,r1,r2,_⟩:=hR.called Ab FO aev C5 uj;exact hK gn _ _ (r1.put hd r2)
  ·cases ah
 ·cases ah
end
theorem TO:∀(i:Nat) (vs:List V),(cR [] i vs).2=[]
 |_,[]=>rfl
 |i,v::vs=>by
  have ih:=TO (i+1) vs;simp only[cR];split
  ·simp only[look];exact ih
  ·exact ih
theorem aew(r:V):(recv [] r).2=[]:=by rw[I7];exact TO _ _
theorem TP{C:br}{d:Option Nat}{S S':St}{f:bp}{args:List (Sh×bp)}(h:VO.run C d S (.qE f args)=some S'):VO.run C d S (.call false f args [])=some S':=by
 simp only[VO.run]at h ⊢;split at h
 ·split at h
  ·rename_i r G hc
   simp only[rd]at h;split at h
   ·rename_i e
    subst e;cases h;simp only[hc,aew,CI]
   ·cases h
  ·cases h
 ·cases h
end Go.Vm

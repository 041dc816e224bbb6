/- The value machine, 9: calls. -/
import Derived.Test.YtocclbnghhaejaaGreatVm8
import Derived.Defers
namespace Go.Vm
set_option linter.all false
def V.fT:V→List V
 |.tuple vs=>vs
 |.agg cs=>cs
 |v=>[v]
def sL(r:V)(us:List V):V :=
 match r with
 |.tuple _=>.tuple us
 |.agg _=>.agg us
 |_=>us.headD .undef
def y8(r:V):V:=sL r (r.fT.map strip)
def EG(r:V)(x:Value)(ys:List Value):Prop :=
 match r with
 |.tuple _=>x=.tuple ys.toArray
 |.agg _=>x=.agg ys.toArray
 |_=>ys=[x]
def Cy(X:Cx)(base:Nat)(O:Nat→Prop)(p:Nat)(v:V)(x:Value):Prop :=
 ∀f n es,v=.slice (some f) n es→(es=[]∧la x) ∨
  ∃b off cap c e,x=.slice (some ⟨b,off,none⟩) es.length cap∧(base≤b∨O b)∧X.g.ow b=.tok p∧X.g.m b=off+es.length*n∧X.h[b]?=some (.cells c e (0,0))∧off+cap*n≤c.size∧off=0∧0<es.length
def kL(g:Gh)(b:Nat):Prop:=∃p q,g.ow b=.cell p q
def CI(X:Cx)(base:Nat)(O:Nat→Prop)(r:V)(x:Value):Prop :=
 ∃ys,EG r x ys∧ys.length=r.fT.length∧∀(p:Nat) (v:V) (y:Value),r.fT[p]?=some v→ys[p]?=some y→aZ X (strip v) y∧(∀d,(strip v).cj d=false)∧Cy X base O p v y
structure Ext(w:World)(g:Gh)(N:Nat)(w':World)(g':Gh)(N':Nat):Prop where
 os:w'.os=w.os
 tape:w'.tape=w.tape
 output:w'.output=w.output
 size:w.heap.size≤w'.heap.size
 eN:N≤N'
 γ:∀i,i<N→g'.γ i=g.γ i
 γnew:∀i,N≤i→i<N'→w.heap.size≤g'.γ i
 my:∀b,b<w.heap.size→(∀i,i<N→g.ow b≠.aF i)→¬ kL g b→w'.heap[b]?=w.heap[b]?∧g'.m b=g.m b
 grow:∀b,b<w.heap.size→kL g b→(∀o y,o<g.m b→cellAt w.heap b o=some y→cellAt w'.heap b o=some y)∧g.m b≤g'.m b
 ib:∀b p q,b<w.heap.size→g'.ow b=.cell p q→kL g b
 lv:∀b i,g'.ow b=.aF i→b<w.heap.size→g.ow b=.aF i∧i<N
def RD:Code→Bool
 |.seq (.region _ ops _) _=>match ops.toList with
  |[_,o]=>(match o.op with | .defer _=>true|_=>false)
  |_=>false
 |_=>false
def HG(P:Program)(f:FuncId):Bool :=
 match P.funcs[f]? with
 |some fn=>match fn.body with
  |some c => !RD c
  |none=>false
 |none=>false
structure tL(P:Program)(f:FuncId)(args:List V)(G:List aP)(r:V)(G':List aP):Prop where
 fn:∃fn,P.funcs[f]?=some fn∧fn.body.isSome=true∧(fn.name== "runtime.NumGoroutine")=false
 ret:∀d,(y8 r).cj d=false
 run:∀(w:World) (g:Gh) (xs:List Value),rn w.heap g G→args.length=xs.length →
  (∀(i:Nat) (v:V) (x:Value),args[i]?=some v→xs[i]?=some x→aZ ⟨w.heap,g,G.length,[]⟩ v x) →
  Calls P f xs.toArray w fun e w'=>∃x g',e=.returned x∧Ext w g G.length w' g' G'.length∧rn w'.heap g' G'∧CI ⟨w'.heap,g',G'.length,[]⟩ w.heap.size (kL g) r x
 Ln:HG P f=true→∀(u:FrameMode) (w:World) (g:Gh) (xs:List Value),rn w.heap g G→args.length=xs.length →
  (∀(i:Nat) (v:V) (x:Value),args[i]?=some v→xs[i]?=some x→aZ ⟨w.heap,g,G.length,[]⟩ v x) →
  CallsD P f xs.toArray u w fun e u' w'=>u'=u∧∃x g',e=.returned x∧Ext w g G.length w' g' G'.length∧rn w'.heap g' G'∧CI ⟨w'.heap,g',G'.length,[]⟩ w.heap.size (kL g) r x
section
variable {P:Program} {E:Entry} {g g':Gh} {S S':St} {a:Act} {w w':World}
theorem RE{X:Cx}{sh:Sh}{v u:V}{y:Value}(h:yN sh v=some u)(hr:aZ X v y):aZ ⟨X.h,X.g,X.N,[]⟩ u y:=by
 unfold yN at h;split at h
 ·split at h
  ·rename_i cs hg
   cases h;obtain⟨xs,e,hl,hx⟩:=pP hr;subst e;obtain⟨e1,e2⟩:=La hg;refine .agg _ _ (by omega) (fun i v x hv lJ=>?_)
   obtain⟨z,s,hz,Lo⟩:=Lc hg i v hv;exact(Cp Lo (hx i z x hz lJ)).2.2.1
  ·cases h
 ·split at h
  ·exact(Cp h hr).2.2.1
  ·cases h
theorem RF(hR:R E g S a w):∀{args:List (Sh×bq)} {ops:List Operand} {vs:List V},(args.length=ops.length∧∀(i:Nat) sh x y,args[i]?=some (sh,x)→ops[i]?=some y→bO y x=true)→mr S args=some vs →
  vs.length=ops.length∧∀(i:Nat) (v:V) (x:Value),vs[i]?=some v→(ops.map a.eval)[i]?=some x→aZ ⟨w.heap,g,S.aF.length,[]⟩ v x
 |[],[],vs,_,h=>by simp[mr]at h;subst h;simp
 |[],_::_,_,h,_=>by simp at h
 |_::_,[],_,h,_=>by simp at h
 |(sh,x)::args,y::ops,vs,bn,h=>by
  simp only[mr]at h;split at h
  ·rename_i v hv
   split at h
   ·rename_i u us h1 h2
    cases h;have hr:=RE h1 (cQ hR (bn.2 0 sh x y (by simp) (by simp)) hv)
    obtain⟨e,hx⟩:=RF hR (args:=args) (ops:=ops) ⟨by simpa using bn.1,fun i xg x' y' hi hj=>bn.2 (i+1) xg x' y' (by simpa using hi) (by simpa using hj)⟩ h2
    refine⟨by simp[e],fun i z zz hz rA=>?_⟩
    cases i with
    |zero=>simp at hz rA;subst hz;subst rA;exact hr
    |succ i=>exact hx i z zz (by simpa using hz) (by simpa using rA)
   ·cases h
  ·cases h
theorem adj{h:Array Obj}{m:Nat→Nat}{tok:Option Nat}{n:Nat}{es:List (List V)}{x:Value}(hr:fg h m (.slice none n es) x):fg h m (.slice tok n es) x:=by
 cases hr with
 |nil=>exact .nil _ _
 |empty _ _ a cap=>exact .empty _ _ a cap
 |slice _ _ _ b off cap ys hb eA iM hc hv hp hm=>exact .slice tok n es b off cap ys hb eA iM hc hv hp hm
theorem Lp(reg:List (Nat×Nat)):∀(vs:List V) (i:Nat),(cM reg i vs).1.length=vs.length
 |[],i=>rfl
 |v::vs,i=>by
  have:=Lp reg vs (i+1);simp only[cM];split
  ·split<;>simp[this]
  ·simp[this]
theorem EH(reg:List (Nat×Nat)):∀(vs:List V) (i k:Nat) (u:V),(cM reg i vs).1[k]?=some u→∃v,vs[k]?=some v ∧
  ((∃t n es f,v=.slice (some t) n es∧look (i+k) reg=some f∧u=.slice (some f) n es)∨u=strip v)
 |[],i,k,u,h=>by simp[cM]at h
 |v::vs,i,k,u,h=>by
  simp only[cM]at h;split at h
  ·rename_i t n es
   split at h
   ·rename_i f hf
    cases k with
    |zero=>simp at h;subst h;exact⟨.slice (some t) n es,by simp,.inl ⟨t,n,es,f,rfl,by simpa using hf,rfl⟩⟩
    |succ k =>
     obtain⟨z,hz,hc⟩:=EH reg vs (i+1) k u (by simpa using h)
     refine⟨z,by simpa using hz,?_⟩
     rw[show i+(k+1)=i+1+k from by omega];exact hc
   ·cases k with
    |zero=>simp at h;subst h;exact⟨.slice (some t) n es,by simp,.inr rfl⟩
    |succ k =>
     obtain⟨z,hz,hc⟩:=EH reg vs (i+1) k u (by simpa using h)
     refine⟨z,by simpa using hz,?_⟩
     rw[show i+(k+1)=i+1+k from by omega];exact hc
  ·cases k with
   |zero=>simp at h;subst h;exact⟨_,by simp,.inr rfl⟩
   |succ k =>
    obtain⟨z,hz,hc⟩:=EH reg vs (i+1) k u (by simpa using h)
    refine⟨z,by simpa using hz,?_⟩
    rw[show i+(k+1)=i+1+k from by omega];exact hc
theorem CA(reg:List (Nat×Nat)):∀(vs:List V) (i:Nat) (f k:Nat),(f,k)∈(cM reg i vs).2→∃p t n es,vs[p]?=some (.slice (some t) n es)∧look (i+p) reg=some f∧k=es.length
 |[],i,f,k,h=>by simp[cM]at h
 |v::vs,i,f,k,h=>by
  have shift:(∃p t n es,vs[p]?=some (.slice (some t) n es)∧look (i+1+p) reg=some f∧k=es.length)→∃p t n es,(v::vs)[p]?=some (.slice (some t) n es)∧look (i+p) reg=some f∧k=es.length:=by
   rintro⟨p,t,n,es,h1,h2,h3⟩;exact⟨p+1,t,n,es,by simpa using h1,by rw[show i+(p+1)=i+1+p from by omega];exact h2,h3⟩
  simp only[cM]at h;split at h
  ·rename_i t n es
   split at h
   ·rename_i f' hf
    rcases List.mem_cons.1 h with h|h
    ·cases h;exact⟨0,t,n,es,by simp,by simpa using hf,rfl⟩
    ·exact shift (CA reg vs (i+1) f k h)
   ·exact shift (CA reg vs (i+1) f k h)
  ·exact shift (CA reg vs (i+1) f k h)
theorem tM{α:Type}{s:Nat}{v:α}:∀{l:List (Nat×α)},look s l=some v→(s,v)∈l
 |[],h=>by simp[look]at h
 |(k,u)::r,h=>by
  rw[dA]at h;split at h
  ·rename_i e;cases h;rw[e];exact List.mem_cons_self
  ·exact List.mem_cons_of_mem _ (tM h)
theorem xh{α:Type}{s:Nat}:∀{l r:List (Nat×α)},look s (l++r)=match look s l with|some v=>some v|none=>look s r
 |[],r=>rfl
 |(k,u)::l,r=>by
  rw[List.cons_append,dA,dA];split
  ·rfl
  ·exact xh
def AQ(reg:List (Nat×Nat)):List Nat:=reg.map (·.2)
def inj(reg:List (Nat×Nat)):Bool:=(AQ reg).Nodup&&(reg.map (·.1)).Nodup
theorem adk{reg:List (Nat×Nat)}(h1:(reg.map (·.2)).Nodup){p q f:Nat}(hp:(p,f)∈reg)(hq:(q,f)∈reg):p=q:=by
 induction reg with
 |nil=>cases hp
 |cons x r ih =>
  simp only[List.map_cons,List.nodup_cons]at h1;rcases List.mem_cons.1 hp with e1|e1<;>rcases List.mem_cons.1 hq with e2|e2
  ·rw[←e1]at e2;cases e2;rfl
  ·exact absurd (List.mem_map.2 ⟨_,e2,rfl⟩) (by rw[←e1]at h1;exact h1.1)
  ·exact absurd (List.mem_map.2 ⟨_,e1,rfl⟩) (by rw[←e2]at h1;exact h1.1)
  ·exact ih h1.2 e1 e2
theorem RG{reg:List (Nat×Nat)}(h:inj reg=true){p q f:Nat}(hp:look p reg=some f)(hq:look q reg=some f):p=q:=by
 simp only[inj,Bool.and_eq_true,decide_eq_true_eq]at h;exact adk h.1 (tM hp) (tM hq)
theorem HH(reg:List (Nat×Nat))(r:V):recv reg r=(sL r (cM reg 0 r.fT).1,(cM reg 0 r.fT).2):=by
 have h:∀v:V,∃u ts,cM reg 0 [v]=([u],ts):=fun v=>by
  simp only[cM];split
  ·split<;>exact⟨_,_,rfl⟩
  ·exact⟨_,_,rfl⟩
 cases r<;>first
  |rfl
  |(rename_i x y z;obtain⟨u,ts,e⟩:=h (.slice x y z);simp only[recv,V.fT,sL,e];rfl)
  |(rename_i x y z;obtain⟨u,ts,e⟩:=h (.bQ x y z);simp only[recv,V.fT,sL,e];rfl)
  |(simp only[recv,V.fT,sL,cM];rfl)
theorem R.called(hR:R E g S a w){G':List aP}(hx:Ext w g S.aF.length w' g' G'.length)(hG:rn w'.heap g' G'){r:V}{x:Value}(hr:CI ⟨w'.heap,g',G'.length,[]⟩ w.heap.size (kL g) r x)
  {reg:List (Nat×Nat)} (CB:inj reg=true) (tN:∀p f,look p reg=some f→S.eG f) :
  ∃gn,R E gn { S with aF:=G',bg:=(recv reg r).2++S.bg } a w'∧aZ (({ S with aF:=G',bg:=(recv reg r).2++S.bg }:St).cx gn w') (recv reg r).1 x ∧
   gn.m=g'.m∧∀b p,w.heap.size≤b→g'.ow b=.tok p→look p reg=none→gn.ow b=.none:=by
 classical
 obtain⟨ys,sK,hlen,gO⟩:=hr;rw[HH];simp only
 let T':=(cM reg 0 r.fT).2++S.bg
 have Lq:∀f k,look f (cM reg 0 r.fT).2=some k→∃p t n es y,r.fT[p]?=some (.slice (some t) n es)∧look p reg=some f∧k=es.length∧ys[p]?=some y:=fun f k hk=>by
  obtain⟨p,t,n,es,h1,h2,h3⟩:=CA reg _ 0 f k (tM hk);have hp:=eK h1;exact⟨p,t,n,es,ys[p]'(by omega),h1,by simpa using h2,h3,List.getElem?_eq_getElem (by omega)⟩
 let Q:Nat→Nat×Value→Prop:=fun f q=>look q.1 reg=some f∧ys[q.1]?=some q.2
 let τn:Nat→Option Nat:=fun f=>if h:∃q,Q f q then yZ h.choose.2 else g.τ f
 have hτ:∀f p y,look p reg=some f→ys[p]?=some y→τn f=yZ y:=fun f p y hp hy=>by
  have hq:∃q,Q f q:=⟨(p,y),hp,hy⟩;show(if h:∃q,Q f q then yZ h.choose.2 else g.τ f)=_
  rw[dif_pos hq];obtain⟨h1,h2⟩:=hq.choose_spec;have e:=RG CB h1 hp;rw[e,hy]at h2;rw[←Option.some.inj h2]
 have RH:∀f,(∀p,look p reg≠some f)→τn f=g.τ f:=fun f hp=>by
  show(if h:∃q,Q f q then yZ h.choose.2 else g.τ f)=_
  rw[dif_neg (fun h=>by obtain⟨q,h1,_⟩:=h;exact hp _ h1)]
 let own:Nat→Ow:=fun b=>if b<w.heap.size∧¬ (kL g b∨∃i,g.ow b=.aF i) then g.ow b else match g'.ow b with
  |.tok p=>(match look p reg with|some f=>.tok f|none=>.none)
  |.aF i=>.aF i
  |.cell p q=>.cell p q
  |_=>.none
 have Lr:∀b,b<w.heap.size→¬ kL g b→(∀i,g.ow b≠.aF i)→own b=g.ow b:=fun b h k l=>if_pos ⟨h,fun q=>q.elim k fun⟨i,e⟩=>l i e⟩;have CC:∀b,w.heap.size≤b∨kL g b∨(∃i,g.ow b=.aF i)→own b=match g'.ow b with
  |.tok p=>(match look p reg with|some f=>.tok f|none=>.none)
  |.aF i=>.aF i
  |.cell p q=>.cell p q
  |_=>.none:=fun b h=>if_neg (fun k=>h.elim (fun h=>by omega) k.2)
 have adl:∀b i,g'.ow b=.aF i→own b=.aF i:=fun b i h=>by
  rcases Nat.lt_or_ge b w.heap.size with hb|hb
  ·rw[CC b (.inr (.inr ⟨i,(hx.lv b i h hb).1⟩)),h]
  ·rw[CC b (.inl hb),h]
 have RI:∀b i,own b=.aF i→g'.ow b=.aF i:=fun b i h=>by
  by_cases hc:b<w.heap.size∧¬ (kL g b∨∃i,g.ow b=.aF i)
  ·have e:own b=g.ow b:=if_pos hc
   rw[e]at h;exact absurd (.inr ⟨i,h⟩) hc.2
  ·have e:own b=_:=if_neg hc
   rw[e]at h;split at h
   ·split at h<;>cases h
   ·rename_i k hk;cases h;exact hk
   ·cases h
   ·cases h
 have HI:∀{b o},g.ow b=o→(∀p q,o≠.cell p q)→¬ kL g b:=fun h1 h2 ⟨p,q,h3⟩=>h2 p q (h1.symm.trans h3)
 let gn:Gh:={ m:=g'.m,κ:=g.κ,cp:=g.cp,τ:=τn,γ:=g'.γ,ow:=own }
 have hold:∀b,b<w.heap.size→(∀i,g.ow b≠.aF i)→¬ kL g b→w'.heap[b]?=w.heap[b]?∧g'.m b=g.m b:=fun b hb ho hn =>
  hx.my b hb (fun i _=>ho i) hn
 have le:Le (S.cx g w) ⟨w'.heap,gn,G'.length,T'⟩ :=
  {size:=hx.size
   cells:=fun b o y ho hy=>by
    have hb:=Cb hy;show cellAt w'.heap b o=some y;by_cases hw:kL g b
    ·exact(hx.grow b hb hw).1 o y ho hy
    rw[tE (hx.my b hb (fun i hi e=>?_) hw).1]
    ·exact hy
    ·have ho:o<g.m b:=ho
     rw[(hR.aF.z b i e).1]at ho;omega
   m:=fun b hb=>by
    show g.m b≤g'.m b;by_cases hw:kL g b
    ·exact(hx.grow b hb hw).2
    by_cases h:∃i,g.ow b=.aF i
    ·obtain⟨i,e⟩:=h
     rw[(hR.aF.z b i e).1];omega
    ·rw[(hx.my b hb (fun i hi e=>h ⟨i,e⟩) hw).2];exact Nat.le_refl _
   eN:=hx.eN
   γ:=hx.γ }
 have Ls:∀f,(∀p,look p reg≠some f)→look f T'=look f S.bg:=fun f hf=>by
  show look f ((cM reg 0 r.fT).2++S.bg)=_;rw[xh];cases h:look f (cM reg 0 r.fT).2 with
  |none=>rfl
  |some k =>
   obtain⟨p,_,_,_,_,_,h2,_,_⟩:=Lq f k h;exact absurd h2 (hf p)
 have RJ:∀f k p,look p reg=some f→look f T'=some k→look f (cM reg 0 r.fT).2=some k:=fun f k p hp hk=>by
  have hk:look f ((cM reg 0 r.fT).2++S.bg)=some k:=hk;rw[xh]at hk;cases h:look f (cM reg 0 r.fT).2 with
  |none=>rw[h]at hk;simp only at hk;rw[(tN p f hp).tok]at hk;cases hk
  |some k'=>rw[h]at hk;exact hk
 have keeps:∀d,iU (S.cx g w) ⟨w'.heap,gn,G'.length,T'⟩ d∨S.eG d:=fun d=>by
  by_cases hd:∃p,look p reg=some d
  ·obtain⟨p,hp⟩:=hd
   exact .inr (tN p d hp)
  ·have hd:∀p,look p reg≠some d:=fun p e=>hd ⟨p,e⟩
   refine .inl ⟨rfl,rfl,fun k' j9=>?_⟩;have hk:look d S.bg=some k':=by rw[←Ls d hd];exact j9
   refine⟨k',hk,Nat.le_refl _,fun _=>⟨RH d hd,fun b hb=>?_⟩⟩;obtain⟨h1,h2,h3⟩:=hR.bg d k' b hk hb;obtain⟨h4,h5⟩:=hold b h3 (fun i e=>by rw[h1]at e;cases e) (HI h1 (fun _ _ e=>by cases e))
   exact⟨h5,fun c e hc=>⟨c,h4.trans hc,rfl⟩⟩
 have HJ:∀T,Le ⟨w'.heap,g',G'.length,[]⟩ ⟨w'.heap,gn,G'.length,T⟩:=fun T=>⟨Nat.le_refl _,fun _ _ _ _ h=>h,fun _ _=>Nat.le_refl _,Nat.le_refl _,fun _ _=>rfl⟩;refine⟨gn,⟨fun s v hs=>?_,fun id cs ho=>?_,fun f k b hf hb=>?_,⟨fun i o ho=>?_,fun i o ho=>?_,fun b i ho=>?_⟩,hR.defers,hR.jh,?_⟩,?_,rfl,fun b p hb ho hl=>by show own b=_;rw[CC b (.inl hb),ho];simp only[hl]⟩
 ·obtain⟨x,h1,h2⟩:=hR.env s v hs
  exact⟨x,h1,h2.mono le fun d=>(keeps d).imp (fun z=>z) fun h=>h.env s v hs⟩
 ·rcases hR.aU id cs ho with h0 | ⟨h1,h2,h3,c,e,h4,fC,h5⟩
  ·exact .inl h0
  have bA:g.κ id<w.heap.size:=by
   rcases Nat.lt_or_ge (g.κ id) w.heap.size with h|h
   ·exact h
   ·simp[Array.getElem?_eq_none h]at h4
  obtain⟨h6,h7⟩:=hold _ bA (fun i e=>by rw[h1]at e;cases e) (HI h1 (fun _ _ e=>by cases e))
  refine .inr ⟨(Lr _ bA (HI h1 (fun _ _ e=>by cases e)) (fun i e=>by rw[h1]at e;cases e)).trans h1,h2,h7.trans h3,c,e,h6.trans h4,fC,fun j v hj=>?_⟩
  obtain⟨h8,y,h9,fO⟩:=h5 j v hj;exact⟨h8,y,h9,fO.mono le fun d=>(keeps d).imp (fun z=>z) fun h=>sI (h.aU id cs ho v (List.mem_of_getElem? hj))⟩
 ·by_cases hd:∃p,look p reg=some f
  ·obtain⟨p0,Kl⟩:=hd
   obtain⟨p,t,n,es,y,h1,h2,h3,h4⟩:=Lq f k (RJ f k p0 Kl hf);obtain⟨_,_,rC⟩:=gO p _ y h1 h4;have hb:τn f=some b:=hb;rw[hτ f p y h2 h4]at hb;rcases rC t n es rfl with⟨_,e⟩ | ⟨b',off,cap,c,e,h5,h6,h7,h8,h9,fO⟩
   ·rw[Ld e]at hb;cases hb
   ·rw[h5,EA fO.2.2,Option.some.injEq]at hb
    subst hb;refine⟨?_,?_,?_⟩
    ·show own b'=_
     have h7:g'.ow b'=.tok p:=h7;rw[CC b' (h6.imp (fun z=>z) .inl),h7];simp only[h2]
    ·rcases h6 with h6 | ⟨p',q',h6⟩
     ·exact .inl (Nat.le_trans hR.same.size h6)
     ·rcases Nat.lt_or_ge b' E.w0.heap.size with h|h
      ·exact .inr (hR.same.ib b' p' q' h h6)
      ·exact .inl h
    ·rcases Nat.lt_or_ge b' w'.heap.size with h|h
     ·exact h
     ·simp[Array.getElem?_eq_none h]at h9
  ·have hd:∀p,look p reg≠some f:=fun p e=>hd ⟨p,e⟩
   have KX:look f S.bg=some k:=by rw[←Ls f hd];exact hf
   have nf:g.τ f=some b:=by rw[←RH f hd];exact hb
   obtain⟨h1,h2,h3⟩:=hR.bg f k b KX nf;exact⟨(Lr b h3 (HI h1 (fun _ _ e=>by cases e)) (fun i e=>by rw[h1]at e;cases e)).trans h1,h2,Nat.lt_of_lt_of_le h3 hx.size⟩
 ·rcases hG.obj i o ho with h0 | ⟨h1,h2⟩
  ·exact .inl h0
  have hi:=eK ho;refine .inr ⟨?_,?_⟩
  ·exact adl _ _ h1
  ·cases o with
   |map es =>
    obtain⟨h3,c,e,h4,h5,h6⟩:=h2;refine⟨h3,c,e,h4,h5,fun j v y hj hy=>?_⟩;obtain⟨h7,h8,h9,fO⟩:=h6 j v y hj hy;exact⟨h7,h8,h9.mono (HJ []) fun d=>.inr (h7 d),fO.mono (HJ []) fun d=>.inr (uO (h8 d))⟩
   |cells cs =>
    obtain⟨h3,c,e,h4,h5,h6⟩:=h2;refine⟨h3,c,e,h4,h5,fun j v y hj hy=>?_⟩;obtain⟨h7,h8,h9⟩:=h6 j v y hj hy;exact⟨h7,h8,h9.mono (HJ []) fun d=>.inr (h8 d)⟩
 ·have h3:=hG.own i o ho
  cases o with
  |map es=>trivial
  |cells cs =>
   intro j n es y hj hy;rcases h3 j n es y hj hy with h | ⟨q,cap,c',e',q1,q2,q3,q4,q5,q6⟩
   ·exact .inl h
   ·refine .inr ⟨q,cap,c',e',q1,?_,q3,q4,q5,q6⟩
    show own q=_;rw[CC q,q2];rcases Nat.lt_or_ge q w.heap.size with h|h
    ·exact .inr (.inl (hx.ib q _ _ h q2))
    ·exact .inl h
 ·exact hG.z b i (RI b i ho)
 ·exact {
   os:=hx.os.trans hR.same.os
   tape:=hx.tape.trans hR.same.tape
   output:=hx.output.trans hR.same.output
   size:=Nat.le_trans hR.same.size hx.size
   eN:=Nat.le_trans hR.same.eN hx.eN
   γ:=fun i hi=>(hx.γ i (Nat.lt_of_lt_of_le hi hR.same.eN)).trans (hR.same.γ i hi)
   γnew:=fun i h1 h2=>by
    by_cases h:i<S.aF.length
    ·show _≤g'.γ i
     rw[hx.γ i h];exact hR.same.γnew i h1 h
    ·exact Nat.le_trans hR.same.size (hx.γnew i (by omega) h2)
   my:=fun b hb ji vP=>by
    obtain⟨h1,h2⟩:=hR.same.my b hb ji vP;obtain⟨h3,h4⟩:=hx.my b (Nat.lt_of_lt_of_le hb hR.same.size) (fun i hi e=>by
     obtain⟨k1,k2⟩:=hR.same.lv b i e hb;exact ji i k2 k1) (fun⟨p,q,h⟩=>vP (hR.same.ib b p q hb h))
    exact⟨h3.trans h1,h4.trans h2⟩
   grow:=fun b hb hw=>by
    obtain⟨h1,h2⟩:=hR.same.grow b hb hw;have bA:=Nat.lt_of_lt_of_le hb hR.same.size;exact⟨fun o y ho hy=>le.cells b o y (Nat.lt_of_lt_of_le ho h2) (h1 o y ho hy),Nat.le_trans h2 (le.m b bA)⟩
   ib:=fun b p q hb ho=>by
    have ho:own b=.cell p q:=ho;have bA:=Nat.lt_of_lt_of_le hb hR.same.size;by_cases hw:kL g b
    ·obtain⟨p',q',hw⟩:=hw
     exact hR.same.ib b p' q' hb hw
    ·by_cases AR:∃i,g.ow b=.aF i
     ·rw[CC b (.inr (.inr AR))]at ho
      split at ho
      ·split at ho<;>cases ho
      ·cases ho
      ·rename_i hk;cases ho;exact absurd (hx.ib b _ _ bA hk) hw
      ·cases ho
     ·rw[Lr b bA hw (fun i e=>AR ⟨i,e⟩)]at ho
      exact absurd ⟨p,q,ho⟩ hw
   lv:=fun b i ho hb=>by
    have bA:=Nat.lt_of_lt_of_le hb hR.same.size;exact hR.same.lv b i (hx.lv b i (RI b i ho) bA).1 hb }
 ·have Lt:∀(k:Nat) (u:V) (y:Value),(cM reg 0 r.fT).1[k]?=some u→ys[k]?=some y→aZ ⟨w'.heap,gn,G'.length,T'⟩ u y:=fun k u y hu hy=>by
   obtain⟨v,hv,hc⟩:=EH reg _ 0 k u hu;obtain⟨q1,q2,q3⟩:=gO k v y hv hy;rcases hc with⟨t,n,es,f,rfl,h2,rfl⟩ | rfl
   ·rw[Nat.zero_add]at h2
    have AL:fg w'.heap g'.m (.slice none n es) y:=by
     cases q1 with|plain h _=>exact h
    refine .plain (adj AL) (fun f' n' oB he k' j9=>?_);cases he;obtain⟨p,t',n',oB,y',h3,h4,h5,h6⟩:=Lq f k' (RJ f k' k h2 j9);have:p=k:=RG CB h4 h2;subst this;rw[hv]at h3;cases h3;rw[hy]at h6;cases h6;subst h5;refine⟨Nat.le_refl _,fun _=>?_⟩;rcases q3 t n es rfl with⟨e1,e2⟩ | ⟨b,off,cap,c,e,h7,h8,h9,fO,iA,sM⟩
    ·exact .inl ⟨by rw[e1];rfl,e2⟩
    ·exact .inr ⟨b,off,cap,c,e,by show τn f=_;rw[hτ f p y h2 hy,h7];exact EA sM.2.2,h7,fO,iA,sM⟩
   ·exact q1.mono (HJ _) fun d=>.inr (q2 d)
  have xi:=Lp reg r.fT 0;show aZ ⟨w'.heap,gn,G'.length,T'⟩ _ _;have single:r.fT=[r]→ys=[x]→(∀us,sL r us=us.headD .undef)→aZ ⟨w'.heap,gn,G'.length,T'⟩ (sL r (cM reg 0 r.fT).1) x:=fun e1 e2 e3=>by
   rw[e3];have nR:(cM reg 0 r.fT).1.length=1:=by rw[xi,e1];rfl
   match AS:(cM reg 0 r.fT).1,nR with
   |[u],_=>exact Lt 0 u x (by rw[AS];rfl) (by rw[e2];rfl)
  cases r with
  |tuple vs =>
   have sK:x=.tuple ys.toArray:=sK;subst sK;exact .tuple _ _ (by rw[xi];simpa using hlen.symm) (fun i v y hv hy=>Lt i v y hv (by simpa using hy))
  |agg vs =>
   have sK:x=.agg ys.toArray:=sK;subst sK;exact .agg _ _ (by rw[xi];simpa using hlen.symm) (fun i v y hv hy=>Lt i v y hv (by simpa using hy))
  |_=>exact single rfl sK (fun _=>rfl)
theorem RK{o:Oper}{f:Operand}{args:Array Operand}{ts:Array TypeId}{fo:bq}{as:List (Sh×bq)}{reg:List (Nat×Nat)}{C:bw}(ho:o.op=.call ⟨.value f,args,ts⟩)(hf:bO f fo=true)
  (has:as.length=args.toList.length∧∀(i:Nat) sh x y,as[i]?=some (sh,x)→args.toList[i]?=some y→bO y x=true)
  (hC:∀f args G r G',C f args G=some (r,G')→tL P f args G r G')
  (CB:inj reg=true) (tN:∀p f,look p reg=some f→S.eG f)
  (hR:R E g S a w) (hd:∀d,o.dst=some d→d<E.nt) (ah:VO.run C o.dst S (.call false fo as reg)=some S'):cb P E o S S' a w:=by
 simp only[VO.run]at ah;split at ah
 ·rename_i mQ cap vs qB ru
  split at ah
  ·rename_i r G' ka
   cases ah;have uX:=hC _ _ _ _ _ ka;obtain⟨fn,qC,uY,pg⟩:=uX.fn;obtain⟨xs,e1,dw,lZ⟩:∃xs:Array Value,a.eval f=.func (.func mQ) #[] xs∧cap.length=xs.size∧∀(j:Nat) (v:V),cap[j]?=some v→∃i o,v=.bG i o∧i<S.aF.length∧xs[j]?=some (.pointer (some ⟨g.γ i,o,none⟩)):=by
    have hr:=cQ hR hf qB;generalize a.eval f=y at hr;cases hr with
    |plain h _=>cases h
    |fn _ _ xs hl hx=>exact⟨xs,rfl,hl,hx⟩
   obtain⟨hl,hx⟩:=RF hR has ru;have gp:(execOp a.eval o).run P w=.ok (.enter mQ (args.map a.eval++xs)) w:=by
    simp[execOp,ho,resolve,e1,Deferred.ofValue,invoke,callFunc,qC];simp at pg;cases hb:fn.body with
    |none=>simp[hb]at uY
    |some c=>simp[pg]
   intro K Q hK;unfold Oper.wp;rw[gp,Oper.upon_enter];have ah:=uX.run w g ((args.toList.map a.eval)++xs.toList) hR.aF (by simp;simp at hl;omega) (fun i v x hv lJ=>by
    rw[List.getElem?_append]at hv lJ;have YV:vs.length=(args.toList.map a.eval).length:=by rw[List.length_map];exact hl
    split at hv
    ·rename_i h
     rw[if_pos (by omega)]at lJ
     exact hx i v x hv lJ
    ·rename_i h
     rw[if_neg (by omega)]at lJ
     obtain⟨k,o',e2,hk,h3⟩:=lZ _ v hv;rw[YV]at h3;subst e2;have:x=.pointer (some ⟨g.γ k,o',none⟩):=by
      have h4:xs.toList[i-(args.toList.map a.eval).length]?=some (.pointer (some ⟨g.γ k,o',none⟩)):=by simpa using h3
      rw[h4]at lJ;exact(Option.some.inj lJ).symm
     rw[this];exact .bG k o' hk)
   have wc:((args.toList.map a.eval)++xs.toList).toArray=args.map a.eval++xs:=by
    apply Array.ext';simp
   rw[wc]at ah;refine ah.mono fun e w' ⟨x,g',he,hext,hG,kM⟩=>?_;subst he;obtain⟨gn,r1,r2,_⟩:=hR.called hext hG kM CB tN;exact hK gn _ _ (r1.put hd r2)
  ·cases ah
 ·cases ah
theorem RL{X:Cx}{sh:Sh}{v u:V}{y:Value}(h:oy sh v=some u)(hr:aZ X v y)(N:Nat):aZ ⟨X.h,X.g,N,[]⟩ u y:=by
 unfold oy at h;split at h
 ·split at h
  ·rename_i cs hg
   cases h;obtain⟨xs,e,hl,hx⟩:=pP hr;subst e;obtain⟨e1,e2⟩:=Eo hg;refine .agg _ _ (by omega) (fun i v x hv lJ=>?_)
   obtain⟨z,s,hz,Lo⟩:=Hw hg i v hv;obtain⟨p,q⟩:=En Lo (hx i z x hz lJ);exact .plain q (tH p)
  ·cases h
 ·cases h
  cases hr with
  |plain h _=>cases h
  |fn _ _ xs hl _=>exact .fn _ [] xs hl fun j v hj=>by simp at hj
 ·split at h
  ·obtain⟨p,q⟩:=En h hr
   exact .plain q (tH p)
  ·cases h
theorem RM(hR:R E g S a w)(N:Nat):∀{args:List (Sh×bq)} {ops:List Operand} {vs:List V},(args.length=ops.length∧∀(i:Nat) sh x y,args[i]?=some (sh,x)→ops[i]?=some y→bO y x=true)→mw S args=some vs →
  vs.length=ops.length∧∀(i:Nat) (v:V) (x:Value),vs[i]?=some v→(ops.map a.eval)[i]?=some x→aZ ⟨w.heap,g,N,[]⟩ v x
 |[],[],vs,_,h=>by simp[mw]at h;subst h;simp
 |[],_::_,_,h,_=>by simp at h
 |_::_,[],_,h,_=>by simp at h
 |(sh,x)::args,y::ops,vs,bn,h=>by
  simp only[mw]at h;split at h
  ·rename_i v hv
   split at h
   ·rename_i u us h1 h2
    cases h;have hr:=RL h1 (cQ hR (bn.2 0 sh x y (by simp) (by simp)) hv) N
    obtain⟨e,hx⟩:=RM hR N (args:=args) (ops:=ops) ⟨by simpa using bn.1,fun i xg x' y' hi hj=>bn.2 (i+1) xg x' y' (by simpa using hi) (by simpa using hj)⟩ h2
    refine⟨by simp[e],fun i z zz hz rA=>?_⟩
    cases i with
    |zero=>simp at hz rA;subst hz;subst rA;exact hr
    |succ i=>exact hx i z zz (by simpa using hz) (by simpa using rA)
   ·cases h
  ·cases h
theorem RN{X:Cx}{v:V}{x:Value}(h:v.iz=true)(hr:aZ X (gY v) x):fg X.h X.g.m (gY v) x:=by
 cases v<;>simp_all[V.iz,V.plain,gY]
 all_goals (cases hr with|plain h _=>exact h)
theorem ado{X X':Cx}(hh:X'.h=X.h)(hm:X'.g.m=X.g.m){v:V}{x:Value}(h:v.iL=true)(hr:aZ X (strip v) x):aZ X' (strip v) x:=by
 have key:(∃cs,v=.agg cs)∨(v.iL=v.iz∧strip v=gY v):=by
  cases v<;>first|(left;exact⟨_,rfl⟩)|(right;exact⟨rfl,rfl⟩)
 rcases key with⟨cs,rfl⟩ | ⟨k1,k2⟩
 ·simp only[V.iL,List.all_eq_true]at h
  obtain⟨xs,e,hl,hx⟩:=pP hr;subst e;refine .agg _ _ hl (fun i u y hu hy=>?_);have hu':=hu;rw[List.getElem?_map]at hu;cases hc:cs[i]? with
  |none=>simp[hc]at hu
  |some z =>
   simp[hc]at hu;subst hu;have hz:=h z (List.mem_of_getElem? hc);have:=RN hz (hx i _ y hu' hy);rw[←hh,← hm]at this;exact .plain this (fun f n es e=>by cases z<;>simp[gY]at e)
 ·rw[k1]at h
  rw[k2]at hr ⊢;have:=RN h hr;rw[←hh,← hm]at this;exact .plain this (fun f n es e=>by cases v<;>simp[gY]at e)
def noCell(g:Gh):Gh:={ g with ow:=fun b=>match g.ow b with | .cell _ _=>.none | .aF _=>.none|q=>q }
theorem CD(g:Gh)(b:Nat):¬ kL (noCell g) b:=fun⟨p,q,h⟩=>by
 have h:(match g.ow b with | .cell _ _=>Ow.none | .aF _=>Ow.none|q=>q)=.cell p q:=h
 split at h
 ·cases h
 ·cases h
 ·rename_i h2 h3;exact h2 _ _ h
theorem Lu(g:Gh)(b i:Nat)(h:(noCell g).ow b=.aF i):(noCell g).m b=0∧i<0:=by
 have h:(match g.ow b with | .cell _ _=>Ow.none | .aF _=>Ow.none|q=>q)=.aF i:=h
 split at h
 ·cases h
 ·cases h
 ·rename_i h2 h3;exact absurd h (h3 _)
theorem adq{r:V}(h:r.lone=true):∀v∈r.fT,v.iL=true:=fun v hv=>by
 cases r with
 |tuple vs=>simp only[V.lone,List.all_eq_true]at h;exact h v hv
 |agg cs =>
  simp only[V.lone,V.iL,List.all_eq_true]at h;have:=h v hv;cases v<;>simp_all[V.iz,V.iL,V.plain]
 |_ =>
  simp only[V.fT,List.mem_singleton]at hv;subst hv;exact h
theorem adr{o:Oper}{f:Operand}{args:Array Operand}{ts:Array TypeId}{fo:bq}{as:List (Sh×bq)}{reg:List (Nat×Nat)}{C:bw}(ho:o.op=.call ⟨.value f,args,ts⟩)(hf:bO f fo=true)
  (has:as.length=args.toList.length∧∀(i:Nat) sh x y,as[i]?=some (sh,x)→args.toList[i]?=some y→bO y x=true)
  (hC:∀f args G r G',C f args G=some (r,G')→tL P f args G r G')
  (CB:inj reg=true) (tN:∀p f,look p reg=some f→S.eG f)
  (hR:R E g S a w) (hd:∀d,o.dst=some d→d<E.nt) (ah:VO.run C o.dst S (.call true fo as reg)=some S'):cb P E o S S' a w:=by
 simp only[VO.run]at ah;split at ah
 ·rename_i mQ vs qB ru
  split at ah
  ·rename_i r G' ka
   cases CE:r.lone with
   |false=>simp[CE]at ah
   |true =>
    simp only[CE,cond_true]at ah;cases ah;have uX:=hC _ _ _ _ _ ka;obtain⟨fn,qC,uY,pg⟩:=uX.fn;have e1:a.eval f=.func (.func mQ) #[] #[]:=by
     have hr:=cQ hR hf qB;generalize a.eval f=y at hr;cases hr with
     |plain h _=>cases h
     |fn _ _ xs hl hx =>
      have:xs = #[]:=by
       apply Array.eq_empty_of_size_eq_zero;simpa using hl.symm
      rw[this]
    obtain⟨hl,hx⟩:=RM hR 0 has ru;have gp:(execOp a.eval o).run P w=.ok (.enter mQ (args.map a.eval)) w:=by
     simp[execOp,ho,resolve,e1,Deferred.ofValue,invoke,callFunc,qC];simp at pg;cases hb:fn.body with
     |none=>simp[hb]at uY
     |some c=>simp[pg]
    intro K Q hK;unfold Oper.wp;rw[gp,Oper.upon_enter];have CF:∀b,¬ kL (noCell g) b:=CD g;have ah:=uX.run w (noCell g) (args.toList.map a.eval) ⟨fun i o h=>by simp at h,fun i o h=>by simp at h,Lu g⟩ (by simp;simpa using hl) (fun i v x hv lJ=>aZ.mono (X:=⟨w.heap,g,0,[]⟩) (X':=⟨w.heap,noCell g,0,[]⟩) ⟨Nat.le_refl _,fun _ _ _ _ h=>h,fun _ _=>Nat.le_refl _,Nat.le_refl _,fun _ _=>rfl⟩ (hx i v x hv lJ) (fun d=>.inl ⟨rfl,rfl,fun k hk=>by simp[look]at hk⟩))
    have wc:(args.toList.map a.eval).toArray=args.map a.eval:=by
     apply Array.ext';simp
    rw[wc]at ah;refine ah.mono fun e w' ⟨x,g',he,hext,hG,kM⟩=>?_;subst he
    let g2:Gh:={ g' with γ:=g.γ,ow:=fun b=>if b<w.heap.size then g.ow b else match g'.ow b with | .aF _=>.none|q=>q }
    have hold:∀b,b<w.heap.size→w'.heap[b]?=w.heap[b]?∧g'.m b=g.m b:=fun b hb=>hext.my b hb (fun i hi=>absurd hi (by simp)) (CF b)
    have y9:Ext w g S.aF.length w' g2 S.aF.length:=⟨hext.os,hext.tape,hext.output,hext.size,Nat.le_refl _,fun _ _=>rfl,fun i a b=>absurd a (by omega),fun b hb _ _=>hold b hb,
     fun b hb _=>⟨fun o y _ hy=>by rw[tE (hold b hb).1];exact hy,Nat.le_of_eq (hold b hb).2.symm⟩,fun b p q hb h=>⟨p,q,by(have h:(if b<w.heap.size then _ else _)=Ow.cell p q:=h);rw[if_pos hb]at h;exact h⟩,
     fun b i h hb=>by(have h:(if b<w.heap.size then _ else _)=Ow.aF i:=h);rw[if_pos hb]at h;exact⟨h,(hR.aF.z b i h).2⟩⟩
    have Lw:∀i o,S.aF[i]?=some o→AA w'.heap g2 (g2.γ i) o:=fun i o hi=>by
     have h3:=hR.aF.own i o hi;cases o with
     |map es=>trivial
     |cells cs =>
      intro j n es y hj hy;have hy:cellAt w'.heap (g.γ i) j=some y:=hy;rw[tE (hold _ (Cr hR hi (Rz hj))).1]at hy;rcases h3 j n es y hj hy with h | ⟨q,cap,c',e',q1,q2,q3,q4,q5,q6⟩
      ·exact .inl h
      ·have mz:q<w.heap.size:=by
        rcases Nat.lt_or_ge q w.heap.size with h|h
        ·exact h
        ·simp[Array.getElem?_eq_none h]at q4
       exact .inr ⟨q,cap,c',e',q1,by show(if q<w.heap.size then _ else _)=_;rw[if_pos mz];exact q2,(hold q mz).2.trans q3,(hold q mz).1.trans q4,q5,q6⟩
    have Lx:∀b i,g2.ow b=.aF i→g2.m b=0∧i<S.aF.length:=fun b i h=>by
     have h:(if b<w.heap.size then g.ow b else match g'.ow b with | .aF _=>.none|q=>q)=Ow.aF i:=h
     split at h
     ·rename_i hb
      obtain⟨z1,z2⟩:=hR.aF.z b i h;exact⟨(hold b hb).2.trans z1,z2⟩
     ·split at h
      ·cases h
      ·rename_i q hq;exact absurd h (hq i)
    have EK:rn w'.heap g2 S.aF:=⟨fun i o hi=>by
     rcases hR.aF.obj i o hi with h0 | ⟨h1,h2⟩
     ·exact .inl h0
     refine .inr ?_;cases o with
     |map es =>
      obtain⟨h3,c,e,h4,h5,h6⟩:=h2;have bA:g.γ i<w.heap.size:=by
       rcases Nat.lt_or_ge (g.γ i) w.heap.size with h|h
       ·exact h
       ·simp[Array.getElem?_eq_none h]at h4
      obtain⟨q1,q2⟩:=hold _ bA;have le:Le ⟨w.heap,g,S.aF.length,[]⟩ ⟨w'.heap,g2,S.aF.length,[]⟩ :=
       ⟨hext.size,fun b o y ho hy=>by
        have hb:=Cb hy;show cellAt w'.heap b o=some y;rw[tE (hold b hb).1];exact hy,fun b hb=>Nat.le_of_eq (hold b hb).2.symm,Nat.le_refl _,fun _ _=>rfl⟩
      refine⟨by show(if g.γ i<w.heap.size then _ else _)=_;rw[if_pos bA];exact h1,q2.trans h3,c,e,q1.trans h4,h5,fun j v y hj hy=>?_⟩
      obtain⟨h7,h8,h9,fO⟩:=h6 j v y hj hy;exact⟨h7,h8,h9.mono le fun d=>.inr (h7 d),fO.mono le fun d=>.inr (uO (h8 d))⟩
     |cells cs =>
      obtain⟨h3,c,e,h4,h5,h6⟩:=h2;have bA:g.γ i<w.heap.size:=by
       rcases Nat.lt_or_ge (g.γ i) w.heap.size with h|h
       ·exact h
       ·simp[Array.getElem?_eq_none h]at h4
      obtain⟨q1,q2⟩:=hold _ bA;have le:Le ⟨w.heap,g,S.aF.length,[]⟩ ⟨w'.heap,g2,S.aF.length,[]⟩ :=
       ⟨hext.size,fun b o y ho hy=>by
        have hb:=Cb hy;show cellAt w'.heap b o=some y;rw[tE (hold b hb).1];exact hy,fun b hb=>Nat.le_of_eq (hold b hb).2.symm,Nat.le_refl _,fun _ _=>rfl⟩
      refine⟨by show(if g.γ i<w.heap.size then _ else _)=_;rw[if_pos bA];exact h1,q2.trans h3,c,e,q1.trans h4,h5,fun j v y hj hy=>?_⟩
      obtain⟨h7,h8,h9⟩:=h6 j v y hj hy;exact⟨h7,h8,h9.mono le fun d=>.inr (h8 d)⟩,Lw,Lx⟩
    have ads:CI ⟨w'.heap,g2,S.aF.length,[]⟩ w.heap.size (kL g) r x:=by
     obtain⟨ys,p1,p2,p3⟩:=kM;refine⟨ys,p1,p2,fun p v y hv hy=>?_⟩;obtain⟨q1,q2,q3⟩:=p3 p v y hv hy;refine⟨ado (X:=⟨w'.heap,g',G'.length,[]⟩) (X':=⟨w'.heap,g2,S.aF.length,[]⟩) rfl rfl (adq CE v (List.mem_of_getElem? hv)) q1,q2,fun f n es e=>?_⟩;rcases q3 f n es e with h | ⟨b,off,cap,c,e,h1,h2,h3,h4,h5,h6⟩
     ·exact .inl h
     ·have h2:w.heap.size≤b:=h2.resolve_right (CF b)
      refine .inr ⟨b,off,cap,c,e,h1,.inl h2,?_,h4,h5,h6⟩;show(if b<w.heap.size then _ else _)=_
      rw[if_neg (by omega)]
      have h3:g'.ow b=.tok p:=h3;rw[h3]
    obtain⟨gn,r1,r2,_⟩:=hR.called y9 EK ads CB tN;exact hK gn _ _ (r1.put hd r2)
  ·cases ah
 ·cases ah
end
theorem RO:∀(i:Nat) (vs:List V),(cM [] i vs).2=[]
 |_,[]=>rfl
 |i,v::vs=>by
  have ih:=RO (i+1) vs;simp only[cM];split
  ·simp only[look];exact ih
  ·exact ih
theorem adt(r:V):(recv [] r).2=[]:=by rw[HH];exact RO _ _
theorem RP{C:bw}{d:Option Nat}{S S':St}{f:bq}{args:List (Sh×bq)}(h:VO.run C d S (.qk f args)=some S'):VO.run C d S (.call false f args [])=some S':=by
 simp only[VO.run]at h ⊢;split at h
 ·split at h
  ·rename_i r G hc
   simp only[rd]at h;split at h
   ·rename_i e
    subst e;cases h;simp only[hc,adt,List.nil_append]
   ·cases h
  ·cases h
 ·cases h
end Go.Vm

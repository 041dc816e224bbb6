/- - -/
import Derived.Test.YtabckmbjnjnegaaGreatDoorVmG
namespace Go.Vm
set_option linter.all false
section
variable {P:Program} {E:Entry} {g g':Gh} {S S':St} {a:Act} {w w':World} {C:bI}
def Oj(X:Cx)(used:List Nat)(u:V)(y:Value)(gm:List Nat):Prop :=
 bh ⟨X.h,X.g,X.N,[]⟩ (strip u) y /\
 ((∀t n es,u≠.slice (some t) n es)/\(∀f∈used,f∈gm)\/(∃n,u=.slice (some 0) n []/\nn y/\gm=used) \/
   ∃f n es k,u=.slice (some 0) n es/\f∉used/\gm=f::used/\A9 X f n es.length y/\look f X.T=some k)
inductive xS (X:Cx):List Nat->List V->List Value->List Nat->Prop
 |nil (used):xS X used [] [] used
 |cons {used xT BA u us y ys} (h:Oj X used u y xT) (hs:xS X xT us ys BA):xS X used (u::us) (y::ys) BA
variable{sh:Option Nat}{v:V}
def TC{u:V}(h:sL sh v=some u):strip u=u/\u.c5=true/\∀d,u.cQ d=false:=by
 have yR:∀{v u},el sh v=some u->strip u=u/\u.c5=true/\∀d,u.cQ d=false:=λ{v u} h=>by
  unfold el at h;split at h<;>first
   |(cases h;exact⟨rfl,rfl,λ_=>rfl⟩)
   |(split at h<;>first|(cases h;done)|(cases h;exact⟨rfl,rfl,λ_=>rfl⟩))
   |cases h
 unfold sL at h;split at h<;>first
  |(cases h;exact⟨rfl,rfl,λ_=>rfl⟩)
  |exact yR h
def aor{u:V}(h:sL sh v=some u):∀t n es,u≠.slice (some t) n es:=λt n es e=>by
 have:=(TC h).2.2 t;rw[e]at this;simp[V.cQ]at this
variable{gm:List Nat}
def TD{used:List Nat}{u:V}(h:CT S sh used v=some (u,gm)):u.c5=true/\∀d,(strip u).cQ d=false:=by
 unfold CT at h;split at h
 .split at h
  .cases h;exact⟨rfl,λ_=>rfl⟩
  .cases h
 .cases h;exact⟨rfl,λ_=>rfl⟩
 next f n es=>
  split at h
  next k _=>
   cases hc:(k==es.length && !used.contains f) with
   |true=>simp only[hc,bW]at h;cases h;exact⟨rfl,λ_=>rfl⟩
   |false=>simp only[hc,gL]at h;cases h;exact⟨rfl,λ_=>rfl⟩
  .cases h;exact⟨rfl,λ_=>rfl⟩
 .cases h;exact⟨rfl,λ_=>rfl⟩
 .split at h
  next hg=>
   cases h;obtain⟨h1,h2,h3⟩:=TC hg;exact⟨h2,λd=>by rw[h1];exact h3 d⟩
  .cases h
variable{X:Cx}
def aa9(hX:X.T=S.bo){used:List Nat}{u:V}{y:Value}(h:CT S sh used v=some (u,gm))(hr:bh X v y):Oj X used u y gm:=by
 unfold CT at h;split at h
 .split at h
  next n=>
   cases h;have:=qK hr;subst this;exact⟨.plain (.nil _ _) (λ_ _ _ e=>by cases e),.inr (.inl ⟨n,rfl,.inl rfl,rfl⟩)⟩
  .cases h
 next n=>
  cases h;have hz:=wF hr;exact⟨.plain (by rcases hz with rfl | ⟨a,rfl⟩<;>first|exact .nil _ _|exact .empty _ _ a 0) (λ_ _ _ e=>by cases e),.inr (.inl ⟨n,rfl,hz,rfl⟩)⟩
 next f n es=>
  have hv:fK X.h X.g.m (.slice (some f) n es) y:=by cases hr with|plain h _=>exact h
  have hx:bh ⟨X.h,X.g,X.N,[]⟩ (.slice none n es) y:=.plain (by cases hv with
   |nil=>exact .nil _ _
   |empty _ _ a cap=>exact .empty _ _ a cap
   |slice _ _ _ b off cap zs hb eM jG hc hv hp hm=>exact .slice none n es b off cap zs hb eM jG hc hv hp hm) (λ_ _ _ e=>by cases e)
  split at h
  next k hk=>
   cases hc:(k==es.length && !used.contains f) with
   |true =>
    simp only[hc,bW]at h;cases h;simp only[bZ,ec,xo,RQ,decide_eq_false_iff_not]at hc;obtain⟨rfl,hnu⟩:=hc;have SJ:A9 X f n es.length y:=by
     cases hr with|plain _ ht=>exact(ht f n es rfl _ (by rw[hX];exact hk)).2 rfl
    exact⟨hx,.inr (.inr ⟨f,n,es,_,rfl,hnu,rfl,SJ,by rw[hX];exact hk⟩)⟩
   |false =>
    simp only[hc,gL]at h;cases h;exact⟨hx,.inl ⟨(λ_ _ _ e=>by cases e),λ_ h=>h⟩⟩
  .cases h
   exact⟨hx,.inl ⟨(λ_ _ _ e=>by cases e),λ_ h=>h⟩⟩
 next n es=>
  cases h;have hv:fK X.h X.g.m (.slice none n es) y:=by cases hr with|plain h _=>exact h
  exact⟨.plain hv (λ_ _ _ e=>by cases e),.inl ⟨(λ_ _ _ e=>by cases e),λ_ h=>h⟩⟩
 .split at h
  next hg=>
   cases h;obtain⟨h1,h2,h3⟩:=TC hg;refine⟨by rw[h1];exact(GW hg hr).2.2.1,.inl ⟨aor hg,λ_ h=>h⟩⟩
  .cases h
def Ol{X:Cx}(hX:X.T=S.bo):∀{sh:Sh} {used gm:List Nat} {vs us:List V} {ys:List Value},pE S sh used vs=some (us,gm)->vs.length=ys.length ->
  (∀(i:Nat) (v:V) (y:Value),vs[i]?=some v->ys[i]?=some y->bh X v y)->xS X used us ys gm
 |[],used,gm,[],us,ys,h,hl,_=>by
  simp only[pE,Option.some.injEq,Prod.mk.injEq]at h;obtain⟨rfl,rfl⟩:=h;cases ys with
  |nil=>exact .nil _
  |cons _ _=>simp at hl
 |[],_,_,_::_,_,_,h,_,_=>by simp[pE]at h
 |_::_,_,_,[],_,_,h,_,_=>by simp[pE]at h
 |s::sh,used,gm,v::vs,us,ys,h,hl,hr=>by
  simp only[pE]at h;split at h
  next u xT h1=>
   split at h
   next mN BA h2=>
    cases h;cases ys with
    |nil=>simp at hl
    |cons y ys =>
     exact .cons (aa9 hX h1 (hr 0 v y (by simp) (by simp))) (Ol hX h2 (by simpa using hl) λi v' y' hv hy=>hr (i+1) v' y' (by simpa using hv) (by simpa using hy))
   .cases h
  .cases h
def Hr:∀{sh:Sh} {used gm:List Nat} {vs us:List V},pE S sh used vs=some (us,gm)->∀u∈us,u.c5=true/\∀d,(strip u).cQ d=false
 |[],used,gm,[],us,h=>by
  simp only[pE,Option.some.injEq,Prod.mk.injEq]at h;obtain⟨rfl,rfl⟩:=h;simp
 |[],_,_,_::_,_,h=>by simp[pE]at h
 |_::_,_,_,[],_,h=>by simp[pE]at h
 |s::sh,used,gm,v::vs,us,h=>by
  simp only[pE]at h;split at h
  next u xT h1=>
   split at h
   next mN BA h2=>
    cases h;intro z hz;rcases iA.1 hz with e|e
    .subst e;exact TD h1
    .exact Hr h2 z e
   .cases h
  .cases h
def xS.sub{used:List Nat}{us:List V}{ys:List Value}(h:xS X used us ys gm):∀f∈used,f∈gm:=by
 induction h with
 |nil used=>exact λ_ h=>h
 |cons h hs ih =>
  intro f hf;apply ih;rcases h.2 with⟨_,h⟩ | ⟨_,_,_,e⟩ | ⟨_,_,_,_,_,_,e,_⟩
  .exact h f hf
  .rw[e];exact hf
  .rw[e];exact Ej _ hf
def xS.TE{used:List Nat}{us:List V}{ys:List Value}(h:xS X used us ys gm):us.length=ys.length/\∃cD:Nat->Option Nat,
  (∀(p:Nat) u y,us[p]?=some u->ys[p]?=some y->bh ⟨X.h,X.g,X.N,[]⟩ (strip u) y/\((∀t n es,u≠.slice (some t) n es)\/(∃n,u=.slice (some 0) n []/\nn y) \/
   ∃f n es k,u=.slice (some 0) n es/\cD p=some f/\A9 X f n es.length y/\look f X.T=some k)) /\
  (∀p q f,cD p=some f->cD q=some f->p=q)/\(∀p f,cD p=some f->f∉used):=by
 induction h with
 |nil used=>exact⟨rfl,λ_=>none,by simp,by simp,by simp⟩
 |@cons used xT BA u us y ys h hs ih =>
  obtain⟨hl,cD,h1,h2,h3⟩:=ih;obtain⟨hx,hk⟩:=h;have TF:∀f∈used,f∈xT:=by
   rcases hk with⟨_,h⟩ | ⟨_,_,_,e⟩ | ⟨_,_,_,_,_,_,e,_⟩
   .exact h
   .rw[e];exact λ_ h=>h
   .rw[e];exact λ_ h=>Ej _ h
  refine⟨by simp[hl],?_⟩
  rcases hk with⟨kI,_⟩ | ⟨n,e1,e2,e3⟩ | ⟨f0,n,es,k,e1,e2,e3,e4,e5⟩
  .refine⟨λp=>match p with|0=>none|p+1=>cD p,λp u' y' hu hy=>?_,λp q f hp hq=>?_,λp f hp=>?_⟩
   .cases p with
    |zero=>simp at hu hy;subst hu;subst hy;exact⟨hx,.inl kI⟩
    |succ p=>exact h1 p u' y' (by simpa using hu) (by simpa using hy)
   .cases p<;>cases q<;>simp at hp hq
    rw[h2 _ _ f hp hq]
   .cases p with
    |zero=>simp at hp
    |succ p=>exact λhf=>h3 p f hp (TF f hf)
  .refine⟨λp=>match p with|0=>none|p+1=>cD p,λp u' y' hu hy=>?_,λp q f hp hq=>?_,λp f hp=>?_⟩
   .cases p with
    |zero=>simp at hu hy;subst hu;subst hy;exact⟨hx,.inr (.inl ⟨n,e1,e2⟩)⟩
    |succ p=>exact h1 p u' y' (by simpa using hu) (by simpa using hy)
   .cases p<;>cases q<;>simp at hp hq
    rw[h2 _ _ f hp hq]
   .cases p with
    |zero=>simp at hp
    |succ p=>exact λhf=>h3 p f hp (TF f hf)
  .refine⟨λp=>match p with|0=>some f0|p+1=>cD p,λp u' y' hu hy=>?_,λp q f hp hq=>?_,λp f hp=>?_⟩
   .cases p with
    |zero=>simp at hu hy;subst hu;subst hy;exact⟨hx,.inr (.inr ⟨f0,n,es,k,e1,rfl,e4,e5⟩)⟩
    |succ p =>
     obtain⟨q1,q2⟩:=h1 p u' y' (by simpa using hu) (by simpa using hy)
     exact⟨q1,q2⟩
   .cases p with
    |zero =>
     cases q with
     |zero=>rfl
     |succ q =>
      simp at hp hq;subst hp;exact absurd (by rw[e3];exact z7) (h3 q f0 hq)
    |succ p =>
     cases q with
     |zero =>
      simp at hp hq;subst hq;exact absurd (by rw[e3];exact z7) (h3 p f0 hp)
     |succ q=>simp at hp hq;rw[h2 _ _ f hp hq]
   .cases p with
    |zero=>simp at hp;subst hp;exact e2
    |succ p=>exact λhf=>h3 p f hp (TF f hf)
def xU(P:Program):List ResultVar->List vw->Bool
 |[],[]=>true
 |.tmp t::rs,.t s _::vs=>t==s&&xU P rs vs
 |.cell a ty::rs,.c s agg sh::vs=>a==s&&ux P ty (bif agg then some sh.length else none)&&(agg || sh.length==1)&&xU P rs vs
 |_,_=>false
def Ko(X:Cx)(used:List Nat)(u:V)(x:Value)(gm:List Nat):Prop :=
 (u.c5=true/\Oj X used u x gm)\/∃us ys,u=.agg us/\x=.agg ys.toArray/\xS X used us ys gm/\∀z∈us,z.c5=true
def pwl{cs:List V}{xs:Array Value}(hl:cs.length=xs.size)(hx:∀(i:Nat) (v:V) (y:Value),cs[i]?=some v->xs[i]?=some y->bh X v y) :
  cs.length=xs.toList.length/\∀(i:Nat) (v:V) (y:Value),cs[i]?=some v->xs.toList[i]?=some y->bh X v y :=
 ⟨by simpa using hl,λi v y hv hy=>hx i v y hv (by simpa using hy)⟩
def abb(hR:R E g S a w){used:List Nat}{rv:vw}{u:V}(h:CU S used rv=some (u,gm)) :
  (∀s sh,rv=.t s sh->Ko (S.cx g w) used u (a.tmps.getD s undef) gm) /\
  (∀s agg sh ty,rv=.c s agg sh->ux P ty (bif agg then some sh.length else none)=true->(agg=false->sh.length=1)->∃x,(do loadVar ty (<-asAddr (a.tmps.getD s undef)):Sem Value).run P w=.ok x w/\Ko (S.cx g w) used u x gm):=by
 refine⟨λs sh e=>?_,λs agg sh ty e hs Om=>?_⟩
 .subst e
  simp only[CU]at h;split at h
  next cs hl=>
   split at h
   next us BA h1=>
    cases h;obtain⟨x,hx,hr⟩:=hR.env s _ hl;obtain⟨xs,e,sV,Kk⟩:=tI hr;subst e;obtain⟨p1,p2⟩:=pwl sV Kk;have hg:a.tmps.getD s undef=.agg xs:=by simp[hx]
    rw[hg];exact .inr ⟨us,xs.toList,rfl,rfl,Ol rfl h1 p1 p2,λz hz=>(Hr h1 z hz).1⟩
   .cases h
  next v kI hl=>
   split at h
   .obtain⟨x,hx,hr⟩:=hR.env s _ hl
    have hg:a.tmps.getD s undef=x:=by simp[hx]
    rw[hg];exact .inl ⟨(TD h).1,aa9 rfl h hr⟩
   .cases h
  .cases h
 .subst e
  simp only[CU]at h;split at h
  next id hl=>
   split at h
   next cs fb=>
    split at h
    next us BA h1=>
     cases h;obtain⟨x,hx,hr⟩:=hR.env s _ hl;have e2:=CY hr;subst e2;have hg:a.tmps.getD s undef=.pointer (some ⟨g.κ id,0,none⟩):=by simp[hx];rfl
     have eR:∀(j:Nat) (v:V),cs[j]?=some v->∃y,cellAt w.heap (g.κ id) (0+j)=some y/\bh (S.cx g w) v y:=λj v hv=>by
      obtain⟨_,_,_,c,et,hh,_,hj⟩:=(hR.aY id cs fb).resolve_left (λh=>by rw[h.1]at hv;simp at hv)
      obtain⟨_,y,hy,tM⟩:=hj j v hv;exact⟨y,by rw[mn hh,kX];exact hy,tM⟩
     have dS:=Hr h1;have hlen:∀{sh:Sh} {used gm:List Nat} {vs us:List V},pE S sh used vs=some (us,gm)->vs.length=sh.length/\us.length=sh.length:=by
      intro sh;induction sh with
      |nil=>intro used gm vs us h;cases vs<;>simp[pE]at h;obtain⟨rfl,_⟩:=h;simp
      |cons s sh ih =>
       intro used gm vs us h;cases vs with
       |nil=>simp[pE]at h
       |cons v vs =>
        simp only[pE]at h;split at h
        .split at h
         next h2=>cases h;obtain⟨p,q⟩:=ih h2;simp[p,q]
         .cases h
        .cases h
     obtain⟨pL,sV⟩:=hlen h1;cases agg with
     |true =>
      have GZ:loadAt (some sh.length) cs 0=some (.agg cs):=by
       have:Nat.ble (0+sh.length) cs.length=true:=R6 (by omega)
       simp only[loadAt,this,bW,tA,Option.some.injEq,V.agg.injEq];exact kD (by omega)
      obtain⟨z,hz,TG⟩:=Nw (P:=P) (w:=w) (t:=ty) hs eR GZ;obtain⟨xs,e,EV,Kk⟩:=tI TG;subst e;obtain⟨p1,p2⟩:=pwl EV Kk;refine⟨_,?_,.inr ⟨us,xs.toList,by simp[Nr],rfl,Ol rfl h1 p1 p2,λz hz=>(dS z hz).1⟩⟩
      rw[hg];simp only[Sem.run_bind,asAddr,Sem.run_pure,Result.andThen_ok];exact hz
     |false =>
      match cs,us,pL,sV with
      |[v],[u],pL,sV =>
       have GZ:loadAt none [v] 0=some v:=rfl;obtain⟨z,hz,TG⟩:=Nw (P:=P) (w:=w) (t:=ty) hs eR GZ;have aot:=Ol (X:=S.cx g w) rfl h1 (ys:=[z]) rfl (λi v' y hv hy=>by
        cases i with
        |zero=>simp at hv hy;subst hv;subst hy;exact TG
        |succ i=>simp at hv)
       refine⟨z,?_,.inl ⟨(dS u (by simp)).1,?_⟩⟩
       .rw[hg]
        simp only[Sem.run_bind,asAddr,Sem.run_pure,Result.andThen_ok];exact hz
       .cases aot with
        |cons h1 h2=>cases h2;exact h1
      |[],_,pL,sV=>have:=Om rfl;simp at pL;omega
      |_::_::_,_,pL,sV=>have:=Om rfl;simp at pL;omega
      |[_],[],pL,sV=>simp at pL sV;omega
      |[_],_::_::_,pL,sV=>simp at pL sV;omega
    .cases h
   .cases h
  .cases h
inductive Hs (X:Cx):List Nat->List V->List Value->Prop
 |nil (used):Hs X used [] []
 |cons {used xT u us x xs} (h:Ko X used u x xT) (hs:Hs X xT us xs):Hs X used (u::us) (x::xs)
def Kp(a:Act):ResultVar->Sem Value
 |.tmp t=>pure (a.tmps.getD t undef)
 |.cell s t=>do loadVar t (<-asAddr (a.tmps.getD s undef))
def TH(hR:R E g S a w):∀{rs:List ResultVar} {vs:List vw} {used:List Nat} {us:List V},xU P rs vs=true->yN S used vs=some us ->
  ∃xs,(rs.mapM (Kp a)).run P w=.ok xs w/\Hs (S.cx g w) used us xs
 |[],[],used,us,_,h=>by simp only[yN,Option.some.injEq]at h;subst h;exact⟨[],by simp,.nil _⟩
 |[],_::_,_,_,h,_=>by simp[xU]at h
 |.tmp _::_,[],_,_,h,_=>by simp[xU]at h
 |.cell _ _::_,[],_,_,h,_=>by simp[xU]at h
 |.tmp _::_,.c _ _ _::_,_,_,h,_=>by simp[xU]at h
 |.cell _ _::_,.t _ _::_,_,_,h,_=>by simp[xU]at h
 |.tmp t::rs,.t s sh::vs,used,us,bE,h=>by
  simp only[xU,bZ,ec]at bE;obtain⟨rfl,bE⟩:=bE;simp only[yN]at h;split at h
  next v xT h1=>
   split at h
   next GO h2=>
    cases h;obtain⟨xs,q1,q2⟩:=TH hR bE h2;have:=(abb (P:=P) hR h1).1 t sh rfl;refine⟨_::xs,?_,.cons this q2⟩;simp[List.mapM_cons,Kp,q1]
   .cases h
  .cases h
 |.cell c ty::rs,.c s agg sh::vs,used,us,bE,h=>by
  simp only[xU,bZ,ec,Ef]at bE;obtain⟨⟨⟨rfl,hs⟩,Om⟩,bE⟩:=bE;simp only[yN]at h;split at h
  next v xT h1=>
   split at h
   next GO h2=>
    cases h;obtain⟨xs,q1,q2⟩:=TH hR bE h2;obtain⟨x,r1,r2⟩:=(abb (P:=P) hR h1).2 c agg sh ty rfl hs (λe=>Om.resolve_left (by simp[e]))
    refine⟨x::xs,?_,.cons r2 q2⟩;have r1':(Kp a (.cell c ty)).run P w=.ok x w:=r1;simp only[List.mapM_cons,Sem.run_bind,r1',Result.andThen_ok];simp[q1]
   .cases h
  .cases h
def Ko.aov{used:List Nat}{u:V}{x:Value}(h:Ko X used u x gm):Oj X used u x gm:=by
 rcases h with⟨_,h⟩ | ⟨us,ys,rfl,rfl,h,hc⟩
 .exact h
 .obtain⟨hl,cD,h1,h2,h3⟩:=h.TE
  refine⟨.agg _ _ (by simpa using hl) (λi v y hv hy=>?_),.inl ⟨(λ_ _ _ e=>by cases e),h.sub⟩⟩
  rw[xq]at hv;cases hu:us[i]? with
  |none=>simp[hu]at hv
  |some z =>
   simp[hu]at hv;subst hv;have:=(h1 i z y hu (by simpa using hy)).1
   have hz:=hc z (gw hu);cases z<;>first|exact this|(simp[V.c5]at hz)
def Hs.toList{used:List Nat}{us:List V}{xs:List Value}(h:Hs X used us xs):∃gm,xS X used us xs gm:=by
 induction h with
 |nil used=>exact⟨used,.nil used⟩
 |cons h hs ih =>
  obtain⟨gm,h'⟩:=ih;exact⟨gm,.cons h.aov h'⟩
variable{r:V}
def aow{base:Nat}(hR:R E g S a w){x:Value}{us:List V}{ys:List Value}(hl:xS (S.cx g w) [] us ys gm)(abc:r.ia=us)(wI:J2 r x ys)(TI:∀v∈us,∀d,(strip v).cI d=false)
  (hH:E.w0.heap.size=base) :
  ∃g',g'.m=g.m/\g'.γ=g.γ/\(∀b i,g'.ow b=.aC i<->g.ow b=.aC i)/\Ap ⟨w.heap,g',S.aC.length,[]⟩ base E.own r x/\∀b p q,g'.ow b=.cell p q<->g.ow b=.cell p q:=by
 classical
 obtain⟨hlen,cD,h1,h2,_⟩:=hl.TE
 let own:Nat->Ow:=λb=>match g.ow b with
  |.aC i=>.aC i
  |.tok f=>if h:∃p,cD p=some f then .tok h.choose else .none
  |.cell p q=>.cell p q
  |_=>.none
 let g':Gh:={ g with ow:=own }
 refine⟨g',rfl,rfl,λb i=>?_,⟨ys,wI,by rw[abc];exact hlen.symm,λp v y hv hy=>?_⟩,λb p q=>?_⟩
 .show own b=_<->_
  simp only[own];split
  next h=>rw[h]
  next f h=>
   rw[h];split<;>exact⟨(λe=>by cases e),(λe=>by cases e)⟩
  next h=>rw[h]
  next h1 h2 h3=>
   exact⟨(λe=>by cases e),λe=>absurd e (h1 i)⟩
 .rw[abc]at hv
  obtain⟨q1,q2⟩:=h1 p v y hv hy;have hm:=TI v (gw hv);have le:Le ⟨w.heap,g,S.aC.length,[]⟩ ⟨w.heap,g',S.aC.length,[]⟩:=⟨b8 _,λ_ _ _ _ h=>h,λ_ _=>b8 _,b8 _,λ_ _=>rfl⟩;refine⟨bh.mono le q1 (λd=>.inr (hm d)),hm,λt n es e=>?_⟩;rcases q2 with q2 | ⟨n',e1,e2⟩ | ⟨f,n',sf,k,e1,e2,e3,e4⟩
  .exact absurd e (q2 t n es)
  .rw[e1]at e;cases e;exact .inl ⟨rfl,e2⟩
  .rw[e1]at e
   cases e;rcases e3 with⟨a1,a2⟩ | ⟨b,off,cap,c,et,b1,b2,b3,b4,b5⟩
   .exact .inl ⟨pz.1 a1,a2⟩
   .obtain⟨c1,c2,c3⟩:=hR.bo f k b e4 b1
    refine .inr ⟨b,off,cap,c,et,b2,by rw[<-hH];exact c2,?_,b3,b4,b5⟩
    show own b=_;simp only[own];rw[c1];have hex:∃p,cD p=some f:=⟨p,e2⟩;simp only[dif_pos hex];rw[h2 _ _ f hex.choose_spec e2]
 .show own b=_<->_
  simp only[own];split
  next h=>rw[h]
  next f h=>
   rw[h];split<;>exact⟨(λe=>by cases e),(λe=>by cases e)⟩
  next h=>rw[h]
  next h3=>
   exact⟨(λe=>by cases e),λe=>absurd e (h3 p q)⟩
def aox{used:List Nat}{rv:vw}{u:V}(h:CU S used rv=some (u,gm)):(u.c5=true/\∀d,(strip u).cQ d=false)\/∃us,u=.agg us/\∀z∈us,z.c5=true/\∀d,(strip z).cQ d=false:=by
 cases rv with
 |t s sh =>
  simp only[CU]at h;split at h
  .split at h
   next us BA h1=>cases h;exact .inr ⟨us,rfl,Hr h1⟩
   .cases h
  .split at h
   .exact .inl (TD h)
   .cases h
  .cases h
 |c s agg sh =>
  simp only[CU]at h;split at h
  .split at h
   .split at h
    next us BA h1=>
     cases h;unfold Nr;split
     next v=>exact .inl (Hr h1 v (by simp))
     .exact .inr ⟨us,rfl,Hr h1⟩
    .cases h
   .cases h
  .cases h
def On:∀{rs:List vw} {used:List Nat} {us:List V},yN S used rs=some us->∀u∈us,(u.c5=true/\∀d,(strip u).cQ d=false)\/∃us,u=.agg us/\∀z∈us,z.c5=true/\∀d,(strip z).cQ d=false
 |[],used,us,h=>by simp only[yN,Option.some.injEq]at h;subst h;simp
 |r::rs,used,us,h=>by
  simp only[yN]at h;split at h
  next v xT h1=>
   split at h
   next vs h2=>
    cases h;intro u hu;rcases iA.1 hu with e|e
    .subst e;exact aox h1
    .exact On h2 u e
   .cases h
  .cases h
def abd{u:V}(h:(u.c5=true/\∀d,(strip u).cQ d=false)\/∃us,u=.agg us/\∀z∈us,z.c5=true/\∀d,(strip z).cQ d=false)(d:Nat):(strip u).dW d=false:=by
 rcases h with⟨hc,h⟩ | ⟨us,rfl,h⟩
 .have:=h d
  cases u<;>first|exact this|(simp[V.c5]at hc)
 .simp only[strip,V.dW,py,nU]
  rintro x ⟨z,hz,rfl⟩;obtain⟨hc,hm⟩:=h z hz;have:=hm d;cases z<;>first|(simpa [strip] using this)|(simp[V.c5]at hc)
def aoy{rs:List vw}(h:yO S rs=some r)(d:Nat):(Df r).cI d=false:=by
 unfold yO at h;split at h
 next v hv=>
  cases h;have hc:=On hv r (by simp)
  rcases hc with⟨ky,hm⟩ | ⟨us,rfl,hm⟩
  .have:=wE (hm d)
   cases r<;>first|exact this|(simp[V.c5]at ky)
  .simp only[Df,V.ia,wK,V.cI,V.dW,py,nU]
   rintro x ⟨z,hz,rfl⟩;simp[(hm z hz).2 d]
 next vs kI hv=>
  cases h;simp only[Df,V.ia,wK,V.cI,py,nU];rintro x ⟨z,hz,rfl⟩;simp[abd (On hv z hz) d]
 .cases h
def TK(nt:Nat):Code->Option FuncId
 |.region _ ops false=>match ops.toList with
  |[o,q]=>match o.dst,o.op,o.guard,q.dst,q.op,q.guard with
   |some d,.move (.tmp 0),none,none,.defer ⟨.value (.func f),as,_⟩,none=>match as.toList with
    |[.tmp e]=>bif e==d&&Nat.blt d nt then some f else none
    |_=>none
   |_,_,_,_,_,_=>none
  |_=>none
 |_=>none
def Dt(nt:Nat):List FuncId->Code->Option Code
 |[],c=>some c
 |f::fs,.seq a c=>bif TK nt a==some f then Dt nt fs c else none
 |_,_=>none
def ze(P:Program)(ps:Ps)(fn:Func)(vf:bb):Bool :=
 (match fn.body with
  |some c=>(match Dt fn.ntmps vf.defs c with|some c'=>lV P ps fn.ntmps c' vf.body|none=>false)&&(vf.defs.isEmpty || (aag c&&fn.results.toList.isEmpty&&vf.defs.all (J3 P)))
  |none=>false)&&Nat.ble vf.nparams fn.ntmps&&xU P fn.results.toList vf.results && !(fn.name== "runtime.NumGoroutine")
def abe:∀{vs:List V} {i s:Nat} {v:V},look s (sM i vs)=some v->∃k,s=i+k/\vs[k]?=some v
 |[],i,s,v,h=>by simp[sM,look]at h
 |u::us,i,s,v,h=>by
  simp only[sM]at h;rw[dO]at h;split at h
  next e=>cases h;exact⟨0,by omega,by simp⟩
  .obtain⟨k,h1,h2⟩:=abe h
   exact⟨k+1,by omega,by simpa using h2⟩
variable{fn:Func}
def abf{xs:List Value}(h:(fn.results.toList.mapM (Kp a)).run P w=.ok xs w):(results fn a.tmps).run P w=.ok (if h:xs.length=1 then xs[0] else .tuple xs.toArray) w:=by
 have e:results fn a.tmps=(do
   let vs <- fn.results.mapM (Kp a)
   pure (if h:vs.size=1 then vs[0] else .tuple vs)):=by
  unfold results;congr 1
 rw[e,Array.mapM_eq_mapM_toList];simp only[Sem.run_bind,Sem.run_map,h,Result.andThen_ok,Sem.run_pure];simp
variable{T:Pk}{n:Nat}{vf:bb}{args:List V}{G G':List aM}
def abg{ps:Ps}(jH:yZ P T ps)(hm:P.follows .mixedOrders=true)(hC:sj P T C){c:Code}(h1:lV P ps fn.ntmps c vf.body=true)
  (h3:xU P fn.results.toList vf.results=true) (lU:vf.call C n args G=some (r,G')) :
  (∀d,(Df r).cI d=false)/\∀(D:List Deferred) (w:World) (g:Gh) (a0:Act),pF T w.heap g.m->vz w.heap g G->a0.tmps.size=fn.ntmps ->
   (∀(i:Nat) (v:V),args[i]?=some v->∃x,a0.tmps[i]?=some x/\bh ⟨w.heap,g,G.length,[]⟩ v x)->a0.defers=D ->
   c.wp P (λe a' w'=>(e=.normal\/e=.ret)/\a'.defers=D/\∃v,(results fn a'.tmps).run P w'=.ok v w' /\
    ∃x pf,Ending.returned v=.returned x/\Ext w g G.length w' pf G'.length/\vz w'.heap pf G'/\Ap ⟨w'.heap,pf,G'.length,[]⟩ w.heap.size (lT g) r x) a0 w:=by
 unfold bb.call at lU;cases hlen:args.length==vf.nparams with
 |false=>simp[hlen]at lU
 |true =>
   simp only[hlen,bW]at lU;have hlen:=eq_of_beq hlen;have key:∃ve S,VC.run C n vf.body { env:=sM 0 args,aY:=[],bo:=[],aC:=G }=some (ve,S)/\(ve=.normal\/ve=.ret)/\yO S vf.results=some r/\S.aC=G':=by
    split at lU
    next S hrun=>
     split at lU
     next v hv=>
      cases lU;exact⟨_,S,hrun,.inl rfl,hv,rfl⟩
     .cases lU
    next S hrun=>
     split at lU
     next v hv=>
      cases lU;exact⟨_,S,hrun,.inr rfl,hv,rfl⟩
     .cases lU
    .cases lU
   obtain⟨ve,S,hrun,R9,mR,rfl⟩:=key;refine⟨aoy mR,λD w g a0 oD hG eF hx hD=>?_⟩
   let E:Entry:=⟨w,g,G.length,fn.ntmps,D,T,oD,λb i h=>(hG.z b i h).1⟩
   have hR:R E g { env:=sM 0 args,aY:=[],bo:=[],aC:=G } a0 w:=by
    refine⟨λs v hs=>?_,λid cs h=>by simp[look]at h,λf k b h _=>by simp[look]at h,hG,hD,eF,?_⟩
    .obtain⟨k,hk,hv⟩:=abe hs
     have Kq:s=k:=by omega
     subst Kq;exact hx s v hv
    .exact⟨rfl,rfl,rfl,b8 _,b8 _,λ_ _=>rfl,λi a b=>absurd a (by show ¬ G.length<=i;simp at b;omega),λ_ _ _ _=>⟨rfl,rfl⟩,λ_ _ _=>⟨λ_ _ _ h=>h,b8 _⟩,λb p q _ h=>⟨p,q,h⟩,λb i h _=>⟨h,(hG.z b i h).2⟩⟩
   refine wp_mono (aoq (E:=E) jH hm hC n h1 hR hrun) λe a' w' he=>?_;obtain⟨rfl,g',kJ⟩:=he;have EW:∃us,yN S [] vf.results=some us:=by
    unfold yO at mR;split at mR
    .exact⟨_,by assumption⟩
    .exact⟨_,by assumption⟩
    .cases mR
   obtain⟨us,qN⟩:=EW;obtain⟨ys,q1,q2⟩:=TH kJ h3 qN;have q3:=abf q1;have dS:=On qN;have fin:∀x,(results fn a'.tmps).run P w'=.ok x w'->(∃zs mN gm,xS (S.cx g' w') [] mN zs gm/\r.ia=mN/\J2 r x zs/\∀v∈mN,∀d,(strip v).cI d=false) ->
     a'.defers=D/\∃v,(results fn a'.tmps).run P w'=.ok v w'/\(∃x pf,Ending.returned v=.returned x/\Ext w g G.length w' pf S.aC.length/\vz w'.heap pf S.aC/\Ap ⟨w'.heap,pf,S.aC.length,[]⟩ w.heap.size (lT g) r x):=by
    rintro x hx ⟨zs,mN,gm,hl,hc,hp,TI⟩;obtain⟨pf,e1,e2,e3,e4,e5⟩:=aow kJ hl hc hp TI (base:=w.heap.size) rfl;refine⟨kJ.defers,x,hx,x,pf,rfl,?_,⟨?_,?_,λb i h=>by rw[e1];exact kJ.aC.z b i ((e3 b i).1 h)⟩,e4⟩
    .exact⟨kJ.same.os,kJ.same.tape,kJ.same.output,kJ.same.size,kJ.same.eZ,λi hi=>by rw[e2];exact kJ.same.γ i hi,λi a b=>by rw[e2];exact kJ.same.γnew i a b,λb hb kI Ag=>by rw[e1];exact kJ.same.lQ b hb kI Ag,
      λb hb hw=>by rw[e1];exact kJ.same.grow b hb hw,λb p q hb h=>kJ.same.jw b p q hb ((e5 b p q).1 h),λb i h hb=>kJ.same.lv b i ((e3 b i).1 h) hb⟩
    .intro i o ho
     rcases kJ.aC.obj i o ho with k0 | ⟨k1,k2⟩
     .exact .inl k0
     refine .inr ⟨by rw[e2];exact(e3 _ i).2 k1,?_⟩
     cases o with
     |map es =>
      obtain⟨k3,c,e,k4,k5,k6⟩:=k2;rw[e2];refine⟨by rw[e1];exact k3,c,e,k4,k5,λj v y hj hy=>?_⟩
      obtain⟨k7,k8,k9,k10⟩:=k6 j v y hj hy;have le:Le ⟨w'.heap,g',S.aC.length,[]⟩ ⟨w'.heap,pf,S.aC.length,[]⟩:=⟨b8 _,λ_ _ _ _ h=>h,λb _=>by rw[e1];exact b8 _,b8 _,λ_ _=>by rw[e2]⟩
      exact⟨k7,k8,k9.mono le λd=>.inr (k7 d),k10.mono le λd=>.inr (yP (k8 d))⟩
     |cells cs =>
      obtain⟨k3,c,e,k4,k5,k6⟩:=k2;rw[e2];refine⟨by rw[e1];exact k3,c,e,k4,k5,λj v y hj hy=>?_⟩
      obtain⟨k7,k8,k9⟩:=k6 j v y hj hy;have le:Le ⟨w'.heap,g',S.aC.length,[]⟩ ⟨w'.heap,pf,S.aC.length,[]⟩:=⟨b8 _,λ_ _ _ _ h=>h,λb _=>by rw[e1];exact b8 _,b8 _,λ_ _=>by rw[e2]⟩
      exact⟨k7,k8,k9.mono le λd=>.inr (k8 d)⟩
    .intro i o ho
     have k1:=kJ.aC.own i o ho;rw[e2];cases o with
     |map es=>trivial
     |cells cs =>
      intro j n es y hj hy;rcases k1 j n es y hj hy with h | ⟨q,cap,c',e',q1,q2,q3,q4,q5,q6⟩
      .exact .inl h
      .exact .inr ⟨q,cap,c',e',q1,(e5 _ _ _).2 q2,by rw[e1];exact q3,q4,q5,q6⟩
   have goal:a'.defers=D/\∃v,(results fn a'.tmps).run P w'=.ok v w'/\(∃x pf,Ending.returned v=.returned x/\Ext w g G.length w' pf S.aC.length/\vz w'.heap pf S.aC/\Ap ⟨w'.heap,pf,S.aC.length,[]⟩ w.heap.size (lT g) r x):=by
    refine fin _ q3 ?_;unfold yO at mR;rw[qN]at mR
    match us,ys,q2,mR,dS with
    |[u],[x],q2,mR,dS =>
     simp only[Option.some.injEq]at mR;subst mR;cases q2 with
     |cons An aDv =>
      rcases An with⟨ky,An⟩ | ⟨vs,zs,rfl,rfl,hl,hc⟩
      .refine⟨[x],[u],_,.cons An (.nil _),?_,?_,λv hv d=>?_⟩
       .cases u<;>first|rfl|(simp[V.c5]at ky)
       .simp only[rQ,dif_pos,Zv]
        cases u<;>first|rfl|(simp[V.c5]at ky)
       .simp only[qf]at hv
        subst hv;rcases dS v (by simp) with⟨_,h⟩ | ⟨vs,rfl,_⟩
        .exact wE (h d)
        .simp[V.c5]at ky
      .refine⟨zs,vs,_,hl,rfl,?_,λv hv d=>?_⟩
       .simp only[rQ,dif_pos,Zv]
        rfl
       .rcases dS (.agg vs) (by simp) with⟨h,_⟩ | ⟨GO,e,h⟩
        .simp[V.c5]at h
        .cases e;exact wE ((h v hv).2 d)
    |[],ys,q2,mR,dS =>
     cases q2;simp only[Option.some.injEq]at mR;subst mR;exact⟨[],[],[],.nil _,rfl,rfl,by simp⟩
    |u1::u2::us,ys,q2,mR,dS =>
     simp only[Option.some.injEq]at mR;subst mR;obtain⟨gm,hl⟩:=q2.toList;have abh:=hl.TE.1;refine⟨ys,_,gm,hl,rfl,?_,λv hv d=>yP (abd (dS v hv) d)⟩;rw[dif_neg (by simp at abh;omega)]
     rfl
    |[u],[],q2,_,_=>cases q2
    |[u],_::_::_,q2,_,_=>cases q2 with|cons _ h=>cases h
   rcases R9 with rfl|rfl
   .exact⟨.inl rfl,goal⟩
   .exact⟨.inr rfl,goal⟩
def TM{w:World}{g:Gh}{xs:List Value}(yU:args.length=xs.length)(hn:args.length<=fn.ntmps)
  (hx:∀(i:Nat) (v:V) (x:Value),args[i]?=some v->xs[i]?=some x->bh ⟨w.heap,g,G.length,[]⟩ v x) :
  (xs.toArray++Array.replicate (fn.ntmps-xs.toArray.size) undef).size=fn.ntmps /\
  ∀(i:Nat) (v:V),args[i]?=some v->∃x,(xs.toArray++Array.replicate (fn.ntmps-xs.toArray.size) undef)[i]?=some x/\bh ⟨w.heap,g,G.length,[]⟩ v x:=by
 refine⟨by simp;omega,λs v hv=>?_⟩
 have bJ:s<xs.length:=by rw[<-yU];exact fg hv
 refine⟨xs[s],?_,hx s v xs[s] hv (eV bJ)⟩;rw[CD (by simpa using bJ)]
 simp[bJ]
def Kr{C:bI}(h:vf.defs=[]){o:Option (V×List aM)}:wrap C vf args o=o:=by
 unfold wrap;rcases o with _ | ⟨r,G⟩
 .rfl
 .simp only[h]
def abi{C:bI}{y:V×List aM}(h:vf.call C n args G=some y):args.length=vf.nparams:=by
 unfold bb.call at h;cases hlen:args.length==vf.nparams with
 |false=>simp[hlen]at h
 |true=>exact eq_of_beq hlen
variable{f:FuncId}
def aoA{ps:Ps}(jH:yZ P T ps)(hm:P.follows .mixedOrders=true)(hC:sj P T C)(s7:P.funcs[kb f]?=some fn)(bE:ze P ps fn vf=true)(so:vf.defs=[])
  (lU:vf.call C n args G=some (r,G')):xJ P T f args G r G':=by
 simp only[ze,bZ,xo]at bE;obtain⟨⟨⟨h1,h2⟩,h3⟩,h4⟩:=bE;have h2:=js h2;have hlen:=abi lU;cases hb:fn.body with
 |none=>rw[hb]at h1;cases h1
 |some c =>
  rw[hb]at h1;simp only[so,Dt,bZ]at h1;obtain⟨k1,k2⟩:=abg jH hm hC h1.1 h3 lU;refine⟨⟨fn,s7,by simp[hb],h4⟩,k1,λw g xs oD hG yU hx=>?_,λ_ u w g xs oD hG yU hx=>?_⟩
  .obtain⟨e1,e2⟩:=TM (fn:=fn) yU (by omega) hx
   refine calls_of_wp s7 hb (wp_mono (k2 [] w g _ oD hG e1 e2 rfl) λe a' w' he=>?_);obtain⟨rfl|rfl,he⟩:=he
   .exact he
   .exact he
  .obtain⟨e1,e2⟩:=TM (fn:=fn) yU (by omega) hx
   refine callsD_of_wp s7 hb (wp_mono (k2 [] w g _ oD hG e1 e2 rfl) λe a' w' he=>?_);obtain⟨rfl|rfl,he⟩:=he
   .exact he
   .exact he
def Ht(x:Value)(f:FuncId):Deferred:=⟨.fn (.func f) #[],#[x]⟩
def abj{nt:Nat}{x0:Value}{Q:Exit->Act->World->Prop}{w:World}:∀{fs:List FuncId} {c c':Code},Dt nt fs c=some c'->∀{a:Act},a.tmps.size=nt->a.tmps[0]?=some x0 ->
  (∀a':Act,a'.tmps.size=nt->a'.tmps[0]?=some x0->a'.defers=fs.reverse.map (Ht x0)++a.defers->c'.wp P Q a' w)->c.wp P Q a w
 |[],c,c',h,a,hs,h0,hK=>by
  simp only[Dt,Option.some.injEq]at h;subst h;exact hK a hs h0 (by simp)
 |f::fs,.seq d c,c',h,a,hs,h0,hK=>by
  simp only[Dt]at h;cases hd:TK nt d==some f with
  |false=>simp[hd]at h
  |true =>
   simp only[hd,bW]at h;have fu:=eq_of_beq hd
   clear hd
   have hd:=fu
   clear fu
   unfold TK at hd;split at hd
   next id ops=>
    split at hd
    next o q aoB=>
     split at hd
     next dd g as ts e1 e2 e3 e4 e5 e6=>
      split at hd
      next ee has=>
       cases hc:ee==dd&&Nat.blt dd nt with
       |false=>simp[hc]at hd
       |true =>
        simp only[hc,bW,Option.some.injEq]at hd;subst hd;simp only[bZ,ec]at hc;obtain⟨rfl,bJ⟩:=hc;have bJ:ee<nt:=js bJ;have aoC:as = #[.tmp ee]:=by apply oU;simpa using has
        subst aoC;have aoD:ops = #[o,q]:=by apply oU;simpa using aoB
        subst aoD;have v0:a.eval (.tmp 0)=x0:=by simp[Act.eval,h0]
        refine wp_seq ?_;refine wp_region ?_;show wpOps P #[o,q] _ [0,1] a w;rw[wpOps_cons];unfold wpOp;have w1:Region.wanted o (yielded #[o,q] a.tmps)=true:=by simp[Region.wanted,e3]
        simp only[Gn,Jl,w1,if_true];refine .inl ?_;have x1:(execOp a.eval o).run P w=.ok (.value x0) w:=by
         unfold execOp;rw[e2];simp[v0]
        unfold Oper.wp;rw[x1,Oper.upon_value,e1,wpOps_cons];unfold wpOp;have w2:Region.wanted q (yielded #[o,q] (a.put (some ee) x0).tmps)=true:=by simp[Region.wanted,e6]
        simp only[Gn,CI,Jl,w2,if_true];refine .inl ?_;have v1:(a.put (some ee) x0).eval (.tmp ee)=x0:=by simp[Act.eval,Act.put,hs,bJ]
        have x2:(execOp (a.put (some ee) x0).eval q).run P w=.ok (.defer (Ht x0 g)) w:=by
         unfold execOp;rw[e5];simp only[resolve,Sem.run_bind];simp[Deferred.ofValue,Act.eval,Ht]at v1 ⊢;simp[v1]
        unfold Oper.wp;rw[x2,Oper.upon_defer,e4];simp only[wpOps];refine abj h ?_ ?_ λa' k1 k2 k3=>hK a' k1 k2 ?_
        .simp[Act.put,hs]
        .simp only[Act.put,RB]
         split
         next e=>subst e;simp[hs,bJ]
         .exact h0
        .rw[k3]
         simp[Act.put]
      .cases hd
     .cases hd
    .cases hd
   .cases hd
 |_::_,.skip,_,h,_,_,_,_=>by simp[Dt]at h
 |_::_,.region ..,_,h,_,_,_,_=>by simp[Dt]at h
def aoE(h:fn.results.toList.isEmpty=true)(tmps:Array Value)(w:World):(results fn tmps).run P w=.ok (.tuple #[]) w:=by
 have h':fn.results.toList=[]:=by simpa using h
 have:=abf (P:=P) (fn:=fn) (a:={ tmps:=tmps,defers:=[] }) (w:=w) (xs:=[]) (by rw[h'];rfl)
 simpa using this
def Ext.trans{w w' w'':World}{g g' pf:Gh}{N N' N'':Nat}(h:Ext w g N w' g' N')(k:Ext w' g' N' w'' pf N''):Ext w g N w'' pf N'' where
 os:=k.os.trans h.os
 tape:=k.tape.trans h.tape
 output:=k.output.trans h.output
 size:=iO h.size k.size
 eZ:=iO h.eZ k.eZ
 γ:=λi hi=>(k.γ i (jC hi h.eZ)).trans (h.γ i hi)
 γnew:=λi h1 h2=>by
  by_cases hi:i<N'
  .rw[k.γ i hi];exact h.γnew i h1 hi
  .exact iO h.size (k.γnew i (by omega) h2)
 lQ:=λb hb kI Ag=>by
  obtain⟨p1,p2⟩:=h.lQ b hb kI Ag;obtain⟨q1,q2⟩:=k.lQ b (jC hb h.size) (λi hi e=>by
   obtain⟨k1,k2⟩:=h.lv b i e hb;exact kI i k2 k1) (λ⟨p,q,hw⟩=>Ag (h.jw b p q hb hw))
  exact⟨q1.trans p1,q2.trans p2⟩
 grow:=λb hb hw=>by
  obtain⟨p1,p2⟩:=h.grow b hb hw;have bJ:=jC hb h.size;by_cases wQ:lT g' b
  .obtain⟨q1,q2⟩:=k.grow b bJ wQ
   exact⟨λo y ho hy=>q1 o y (jC ho p2) (p1 o y ho hy),iO p2 q2⟩
  .by_cases hg:∃i,g'.ow b=.aC i
   .obtain⟨i,e⟩:=hg
    obtain⟨p',q',hw⟩:=hw;have:=(h.lv b i e hb).1;rw[hw]at this;cases this
   .obtain⟨q1,q2⟩:=k.lQ b bJ (λi hi e=>hg ⟨i,e⟩) wQ
    exact⟨λo y ho hy=>by rw[vy q1];exact p1 o y ho hy,by rw[q2];exact p2⟩
 jw:=λb p q hb ho=>by
  obtain⟨p',q',hw⟩:=k.jw b p q (jC hb h.size) ho;exact h.jw b p' q' hb hw
 lv:=λb i ho hb=>h.lv b i (k.lv b i ho (jC hb h.size)).1 hb
def abm{T:Pk}(hC:sj P T C){w0:World}{g0:Gh}(oD:pF T w0.heap g0.m)(hz:∀b i,g0.ow b=.aC i->g0.m b=0){fn:Func}(EW:fn.results.toList.isEmpty=true){tmps:Array Value}{N0 i off:Nat}(hi:i<N0){GF:List aM} :
  ∀{l:List FuncId} {w:World} {g:Gh} {G:List aM},(∀f∈l,J3 P f=true)->sN C [.bu i off] l G=some GF->vz w.heap g G->Ext w0 g0 N0 w g G.length ->
  Leaves P fn tmps (λe w'=>∃x pf,e=.returned x/\Ext w0 g0 N0 w' pf GF.length/\vz w'.heap pf GF/\Ap ⟨w'.heap,pf,GF.length,[]⟩ w0.heap.size (lT g0) (.tuple []) x)
   (l.map (Ht (.pointer (some ⟨g0.γ i,off,none⟩)))) .returning w
 |[],w,g,G,_,hp,hG,hE=>by
  simp only[sN,Option.some.injEq]at hp;subst hp;exact⟨_,aoE EW tmps w,_,g,rfl,hE,hG,[],rfl,rfl,by simp[V.ia]⟩
 |f::l,w,g,G,hd,hp,hG,hE=>by
  simp only[sN]at hp;split at hp
  next r G1 hc=>
   have sZ:kb f=f:=by
    have:=hd f (by simp)
    simp only[J3,bZ,ec]at this;exact this.1
   refine⟨by simp,.func f,#[],f,#[.pointer (some ⟨g0.γ i,off,none⟩)],rfl,?_,?_⟩
   .obtain⟨fn1,Kt,zf,Ku⟩:=(hC f _ _ _ _ hc).fn
    rw[sZ]at Kt;have aoG:¬ fn1.name= "runtime.NumGoroutine":=by simpa using Ku
    simp[Ht,invoke,callFunc,Kt,aoG];intro kI;simp[kI]at zf
   .have hs:=(hC f _ _ _ _ hc).SK (by rw[sZ];exact hd f (by simp)) .returning w g [.pointer (some ⟨g0.γ i,off,none⟩)] (pF.mono (X:=⟨w0.heap,g0,N0,[]⟩) (X':=⟨w.heap,g,G.length,[]⟩) (hE.le hz) oD) hG rfl (by
     intro k v x hv hx;cases k with
     |zero =>
      simp only[Jl,Option.some.injEq]at hv hx;subst hv;subst hx;rw[<-hE.γ i hi];exact .bu i off (jC hi hE.eZ)
     |succ k=>simp at hv)
    rw[sZ]at hs;intro c cs hu;obtain⟨e,u',w',fr,⟨rfl,x,g1,rfl,h1,h2,h3⟩,k1,k2,k3⟩:=hs c cs hu;refine⟨_,_,w',fr,?_,k1,k2,k3⟩;exact abm hC oD hz EW hi (λf hf=>hd f (by simp[hf])) hp h2 (hE.trans h1)
  .cases hp
def Oq{ps:Ps}(jH:yZ P T ps)(hm:P.follows .mixedOrders=true)(hC:sj P T C)(h1:P.funcs[kb f]?=some fn)(h2:ze P ps fn vf=true) (h:vf.one C n args G=some (r,G')):xJ P T f args G r G':=by
 unfold bb.one at h;cases so:vf.defs with
 |nil =>
  rw[Kr so]at h;exact aoA jH hm hC h1 h2 so h
 |cons f1 fs1 =>
  simp only[ze,bZ,xo]at h2;obtain⟨⟨⟨k1,k2⟩,k3⟩,k4⟩:=h2;cases hb:fn.body with
  |none=>rw[hb]at k1;cases k1
  |some c =>
   rw[hb]at k1;simp only[bZ,Ef]at k1;obtain⟨k1,k5⟩:=k1;rcases k5 with k5|k5
   .rw[so]at k5;cases k5
   obtain⟨⟨k5,k6⟩,k7⟩:=k5;split at k1
   next c' aoH=>
    unfold wrap at h;split at h
    .cases h
    next r1 G1 lU=>
     rw[so]at h;simp only at h;split at h
     next i off=>
      split at h
      next G2 abn=>
       cases h;rw[<-so]at abn;obtain⟨_,m2⟩:=abg jH hm hC k1 k3 lU;have hlen:=abi lU;refine⟨⟨fn,h1,by simp[hb],k4⟩,λd=>by rfl,λw g xs oD hG yU hx=>?_,λHu=>?_⟩
       .obtain⟨e1,e2⟩:=TM (fn:=fn) yU (by have:=js k2;omega) hx
        refine calls_of_wp_defers h1 hb ?_;obtain⟨x0,z1,z2⟩:=e2 0 (.bu i off) rfl;refine abj aoH e1 z1 λa' q1 q2 q3=>?_;cases z2 with
        |bu _ _ hi =>
         refine wp_mono (m2 _ w g a' oD hG q1 (λs v hv=>?_) rfl) λe a2 w2 he=>?_
         .cases s with
          |zero=>simp at hv;subst hv;exact⟨_,q2,.bu i off hi⟩
          |succ s=>simp at hv
         .obtain⟨he,fu,v,hv,x,g2,sn,hE,J8,_⟩:=he
          have hL:=abm hC oD (λb i h=>(hG.z b i h).1) (fn:=fn) k6 (tmps:=a2.tmps) (w0:=w) (g0:=g) (N0:=G.length) (i:=i) (off:=off) hi (l:=vf.defs.reverse) (w:=w2) (g:=g2) (λf hf=>by
           have:=iW.1 k7 f (by simpa using hf)
           exact this) abn J8 hE
          have hD:a2.defers=vf.defs.reverse.map (Ht (.pointer (some ⟨g.γ i,off,none⟩))):=by
           rw[fu,q3];simp
          rcases he with rfl|rfl
          .show Leaves P fn a2.tmps _ a2.defers .returning w2
           rw[hD];exact hL
          .show Leaves P fn a2.tmps _ a2.defers .returning w2
           rw[hD];exact hL
        |plain hp _=>cases hp
       .simp[J3,h1,hb,k5]at Hu
      .cases h
     .cases h
   .cases k1
variable{p m:Nat}
def aoI(hp:args[p]?=some (.slice none m []))(h1:xJ P T f (args.set p .cj) G r G')(h2:xJ P T f (args.set p (.gF m)) G r G'):xJ P T f args G r G':=by
 have key:∀(w:World) (g:Gh) (xs:List Value),args.length=xs.length->(∀(i:Nat) (v:V) (x:Value),args[i]?=some v->xs[i]?=some x->bh ⟨w.heap,g,G.length,[]⟩ v x) ->
   ∃u,(u=.cj\/u=.gF m)/\∀(i:Nat) (v:V) (x:Value),(args.set p u)[i]?=some v->xs[i]?=some x->bh ⟨w.heap,g,G.length,[]⟩ v x:=λw g xs hl hx=>by
  have bJ:=fg hp;have hr:=hx p _ xs[p] hp (eV (by omega))
  have hu:∃u,(u=.cj\/u=.gF m)/\bh ⟨w.heap,g,G.length,[]⟩ u xs[p]:=by
   generalize xs[p]=x at hr;cases hr with
   |plain h _ =>
    cases h with
    |nil=>exact⟨.cj,.inl rfl,.plain .cj (λ_ _ _ e=>by cases e)⟩
    |empty _ _ a cap=>exact⟨.gF m,.inr rfl,.gF m a cap⟩
    |slice _ _ _ b off cap=>exact⟨.gF m,.inr rfl,.gF m _ cap⟩
  obtain⟨u,h1,h2⟩:=hu;refine⟨u,h1,λi v x hv nW=>?_⟩;rw[lM]at hv;split at hv
  next e=>
   subst e
   first|rw[aJ bJ]at hv|skip
   cases hv;rw[eV (by omega)]at nW
   cases nW;exact h2
  .exact hx i v x hv nW
 refine⟨h1.fn,h1.ret,λw g xs oD hG hl hx=>?_,λhd u w g xs oD hG hl hx=>?_⟩
 .obtain⟨u,hu,hr⟩:=key w g xs hl hx
  rcases hu with rfl|rfl
  .exact h1.run w g xs oD hG (by simpa using hl) hr
  .exact h2.run w g xs oD hG (by simpa using hl) hr
 .obtain⟨z,hz,hr⟩:=key w g xs hl hx
  rcases hz with rfl|rfl
  .exact h1.SK hd u w g xs oD hG (by simpa using hl) hr
  .exact h2.SK hd u w g xs oD hG (by simpa using hl) hr
def abo{r:V×List aM}(h:vf.both C n p m args G=some r):vf.one C n (args.set p .cj) G=some r/\vf.one C n (args.set p (.gF m)) G=some r:=by
 unfold bb.both at h;split at h
 next e=>exact⟨h,e ▸ h⟩
 .cases h
def Kw{T:Pk}{ps:Ps}(jH:yZ P T ps)(hm:P.follows .mixedOrders=true){F:FuncId->Option bb}(hF:∀f vf,F f=some vf->∃fn,P.funcs[kb f]?=some fn/\ze P ps fn vf=true):∀n,sj P T (call F n)
 |0=>λf args G r G' h=>by cases h
 |n+1=>λf args G r G' h=>by
  simp only[call]at h;split at h
  next vf Ot=>
   obtain⟨fn,h1,h2⟩:=hF f vf Ot;unfold bb.CV at h;split at h
   .exact Oq jH hm (Kw jH hm hF n) h1 h2 h
   .split at h
    next p _ m hp=>
     obtain⟨h3,h4⟩:=abo h;exact aoI hp (Oq jH hm (Kw jH hm hF n) h1 h2 h3) (Oq jH hm (Kw jH hm hF n) h1 h2 h4)
    .exact Oq jH hm (Kw jH hm hF n) h1 h2 h
  .cases h
end

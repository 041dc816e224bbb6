/- The value machine, 17: results, and whole calls. -/
import Derived.Test.YtcelmhaoipbdiaaGreatVmG
namespace Go.Vm
set_option linter.all false
section
variable {P:Program} {E:Entry} {g g':Gh} {S S':St} {a:Act} {w w':World} {C:bD}
def LZ(X:Cx)(used:List Nat)(u:V)(y:Value)(fV:List Nat):Prop :=
 bf ⟨X.h,X.g,X.N,[]⟩ (strip u) y ∧
 ((∀t n es,u≠.slice (some t) n es)∧(∀f∈used,f∈fV)∨(∃n,u=.slice (some 0) n []∧mr y∧fV=used) ∨
   ∃f n es k,u=.slice (some 0) n es∧f∉used∧fV=f::used∧zN X f n es.length y∧look f X.T=some k)
inductive vX (X:Cx):List Nat→List V→List Value→List Nat→Prop
 |nil (used):vX X used [] [] used
 |cons {used vY An u us y ys} (h:LZ X used u y vY) (hs:vX X vY us ys An):vX X used (u::us) (y::ys) An
theorem QX{sh:Option Nat}{v u:V}(h:qD sh v=some u):strip u=u∧u.cQ=true∧∀d,u.cI d=false:=by
 have wZ:∀{v u},el sh v=some u→strip u=u∧u.cQ=true∧∀d,u.cI d=false:=fun {v u} h=>by
  unfold el at h;split at h<;>first
   |(cases h;exact⟨rfl,rfl,fun _=>rfl⟩)
   |(split at h<;>first|(cases h;done)|(cases h;exact⟨rfl,rfl,fun _=>rfl⟩))
   |cases h
 unfold qD at h;split at h<;>first
  |(cases h;exact⟨rfl,rfl,fun _=>rfl⟩)
  |exact wZ h
theorem akI{sh:Option Nat}{v u:V}(h:qD sh v=some u):∀t n es,u≠.slice (some t) n es:=fun t n es e=>by
 have:=(QX h).2.2 t;rw[e]at this;simp[V.cI]at this
theorem QY{sh:Option Nat}{used fV:List Nat}{v u:V}(h:Bp S sh used v=some (u,fV)):u.cQ=true∧∀d,(strip u).cI d=false:=by
 unfold Bp at h;split at h
 ·split at h
  ·cases h;exact⟨rfl,fun _=>rfl⟩
  ·cases h
 ·cases h;exact⟨rfl,fun _=>rfl⟩
 ·rename_i f n es
  split at h
  ·rename_i k _
   cases hc:(k==es.length && !used.contains f) with
   |true=>simp only[hc,bM]at h;cases h;exact⟨rfl,fun _=>rfl⟩
   |false=>simp only[hc,fu]at h;cases h;exact⟨rfl,fun _=>rfl⟩
  ·cases h;exact⟨rfl,fun _=>rfl⟩
 ·cases h;exact⟨rfl,fun _=>rfl⟩
 ·split at h
  ·rename_i hg
   cases h;obtain⟨h1,h2,h3⟩:=QX hg;exact⟨h2,fun d=>by rw[h1];exact h3 d⟩
  ·cases h
theorem Ys{X:Cx}(hX:X.T=S.bl){sh:Option Nat}{used fV:List Nat}{v u:V}{y:Value}(h:Bp S sh used v=some (u,fV))(hr:bf X v y):LZ X used u y fV:=by
 unfold Bp at h;split at h
 ·split at h
  ·rename_i n
   cases h;have:=pB hr;subst this;exact⟨.plain (.nil _ _) (fun _ _ _ e=>by cases e),.inr (.inl ⟨n,rfl,.inl rfl,rfl⟩)⟩
  ·cases h
 ·rename_i n
  cases h;have hz:=uH hr;exact⟨.plain (by rcases hz with rfl | ⟨a,rfl⟩<;>first|exact .nil _ _|exact .empty _ _ a 0) (fun _ _ _ e=>by cases e),.inr (.inl ⟨n,rfl,hz,rfl⟩)⟩
 ·rename_i f n es
  have hv:fF X.h X.g.m (.slice (some f) n es) y:=by cases hr with|plain h _=>exact h
  have hx:bf ⟨X.h,X.g,X.N,[]⟩ (.slice none n es) y:=.plain (by cases hv with
   |nil=>exact .nil _ _
   |empty _ _ a cap=>exact .empty _ _ a cap
   |slice _ _ _ b off cap zs hb eK jc hc hv hp hm=>exact .slice none n es b off cap zs hb eK jc hc hv hp hm) (fun _ _ _ e=>by cases e)
  split at h
  ·rename_i k hk
   cases hc:(k==es.length && !used.contains f) with
   |true =>
    simp only[hc,bM]at h;cases h;simp only[b8,eg,vm,O9,decide_eq_false_iff_not]at hc;obtain⟨rfl,hnu⟩:=hc;have Qa:zN X f n es.length y:=by
     cases hr with|plain _ ht=>exact(ht f n es rfl _ (by rw[hX];exact hk)).2 rfl
    exact⟨hx,.inr (.inr ⟨f,n,es,_,rfl,hnu,rfl,Qa,by rw[hX];exact hk⟩)⟩
   |false =>
    simp only[hc,fu]at h;cases h;exact⟨hx,.inl ⟨(fun _ _ _ e=>by cases e),fun _ h=>h⟩⟩
  ·cases h
   exact⟨hx,.inl ⟨(fun _ _ _ e=>by cases e),fun _ h=>h⟩⟩
 ·rename_i n es
  cases h;have hv:fF X.h X.g.m (.slice none n es) y:=by cases hr with|plain h _=>exact h
  exact⟨.plain hv (fun _ _ _ e=>by cases e),.inl ⟨(fun _ _ _ e=>by cases e),fun _ h=>h⟩⟩
 ·split at h
  ·rename_i hg
   cases h;obtain⟨h1,h2,h3⟩:=QX hg;refine⟨by rw[h1];exact(E4 hg hr).2.2.1,.inl ⟨akI hg,fun _ h=>h⟩⟩
  ·cases h
theorem L0{X:Cx}(hX:X.T=S.bl):∀{sh:Sh} {used fV:List Nat} {vs us:List V} {ys:List Value},n0 S sh used vs=some (us,fV)→vs.length=ys.length →
  (∀(i:Nat) (v:V) (y:Value),vs[i]?=some v→ys[i]?=some y→bf X v y)→vX X used us ys fV
 |[],used,fV,[],us,ys,h,hl,_=>by
  simp only[n0,Option.some.injEq,Prod.mk.injEq]at h;obtain⟨rfl,rfl⟩:=h;cases ys with
  |nil=>exact .nil _
  |cons _ _=>simp at hl
 |[],_,_,_::_,_,_,h,_,_=>by simp[n0]at h
 |_::_,_,_,[],_,_,h,_,_=>by simp[n0]at h
 |s::sh,used,fV,v::vs,us,ys,h,hl,hr=>by
  simp only[n0]at h;split at h
  ·rename_i u vY h1
   split at h
   ·rename_i l8 An h2
    cases h;cases ys with
    |nil=>simp at hl
    |cons y ys =>
     exact .cons (Ys hX h1 (hr 0 v y (by simp) (by simp))) (L0 hX h2 (by simpa using hl) fun i v' y' hv hy=>hr (i+1) v' y' (by simpa using hv) (by simpa using hy))
   ·cases h
  ·cases h
theorem Fz:∀{sh:Sh} {used fV:List Nat} {vs us:List V},n0 S sh used vs=some (us,fV)→∀u∈us,u.cQ=true∧∀d,(strip u).cI d=false
 |[],used,fV,[],us,h=>by
  simp only[n0,Option.some.injEq,Prod.mk.injEq]at h;obtain⟨rfl,rfl⟩:=h;simp
 |[],_,_,_::_,_,h=>by simp[n0]at h
 |_::_,_,_,[],_,h=>by simp[n0]at h
 |s::sh,used,fV,v::vs,us,h=>by
  simp only[n0]at h;split at h
  ·rename_i u vY h1
   split at h
   ·rename_i l8 An h2
    cases h;intro z hz;rcases jQ.1 hz with e|e
    ·subst e;exact QY h1
    ·exact Fz h2 z e
   ·cases h
  ·cases h
theorem vX.sub{X:Cx}{used fV:List Nat}{us:List V}{ys:List Value}(h:vX X used us ys fV):∀f∈used,f∈fV:=by
 induction h with
 |nil used=>exact fun _ h=>h
 |cons h hs ih =>
  intro f hf;apply ih;rcases h.2 with⟨_,h⟩ | ⟨_,_,_,e⟩ | ⟨_,_,_,_,_,_,e,_⟩
  ·exact h f hf
  ·rw[e];exact hf
  ·rw[e];exact CR _ hf
theorem vX.QZ{X:Cx}{used fV:List Nat}{us:List V}{ys:List Value}(h:vX X used us ys fV):us.length=ys.length∧∃cn:Nat→Option Nat,
  (∀(p:Nat) u y,us[p]?=some u→ys[p]?=some y→bf ⟨X.h,X.g,X.N,[]⟩ (strip u) y∧((∀t n es,u≠.slice (some t) n es)∨(∃n,u=.slice (some 0) n []∧mr y) ∨
   ∃f n es k,u=.slice (some 0) n es∧cn p=some f∧zN X f n es.length y∧look f X.T=some k)) ∧
  (∀p q f,cn p=some f→cn q=some f→p=q)∧(∀p f,cn p=some f→f∉used):=by
 induction h with
 |nil used=>exact⟨rfl,fun _=>none,by simp,by simp,by simp⟩
 |@cons used vY An u us y ys h hs ih =>
  obtain⟨hl,cn,h1,h2,h3⟩:=ih;obtain⟨hx,hk⟩:=h;have Q0:∀f∈used,f∈vY:=by
   rcases hk with⟨_,h⟩ | ⟨_,_,_,e⟩ | ⟨_,_,_,_,_,_,e,_⟩
   ·exact h
   ·rw[e];exact fun _ h=>h
   ·rw[e];exact fun _ h=>CR _ h
  refine⟨by simp[hl],?_⟩
  rcases hk with⟨kc,_⟩ | ⟨n,e1,e2,e3⟩ | ⟨f0,n,es,k,e1,e2,e3,e4,e5⟩
  ·refine⟨fun p=>match p with|0=>none|p+1=>cn p,fun p u' y' hu hy=>?_,fun p q f hp hq=>?_,fun p f hp=>?_⟩
   ·cases p with
    |zero=>simp at hu hy;subst hu;subst hy;exact⟨hx,.inl kc⟩
    |succ p=>exact h1 p u' y' (by simpa using hu) (by simpa using hy)
   ·cases p<;>cases q<;>simp at hp hq
    rw[h2 _ _ f hp hq]
   ·cases p with
    |zero=>simp at hp
    |succ p=>exact fun hf=>h3 p f hp (Q0 f hf)
  ·refine⟨fun p=>match p with|0=>none|p+1=>cn p,fun p u' y' hu hy=>?_,fun p q f hp hq=>?_,fun p f hp=>?_⟩
   ·cases p with
    |zero=>simp at hu hy;subst hu;subst hy;exact⟨hx,.inr (.inl ⟨n,e1,e2⟩)⟩
    |succ p=>exact h1 p u' y' (by simpa using hu) (by simpa using hy)
   ·cases p<;>cases q<;>simp at hp hq
    rw[h2 _ _ f hp hq]
   ·cases p with
    |zero=>simp at hp
    |succ p=>exact fun hf=>h3 p f hp (Q0 f hf)
  ·refine⟨fun p=>match p with|0=>some f0|p+1=>cn p,fun p u' y' hu hy=>?_,fun p q f hp hq=>?_,fun p f hp=>?_⟩
   ·cases p with
    |zero=>simp at hu hy;subst hu;subst hy;exact⟨hx,.inr (.inr ⟨f0,n,es,k,e1,rfl,e4,e5⟩)⟩
    |succ p =>
     obtain⟨q1,q2⟩:=h1 p u' y' (by simpa using hu) (by simpa using hy)
     exact⟨q1,q2⟩
   ·cases p with
    |zero =>
     cases q with
     |zero=>rfl
     |succ q =>
      simp at hp hq;subst hp;exact absurd (by rw[e3];exact xV) (h3 q f0 hq)
    |succ p =>
     cases q with
     |zero =>
      simp at hp hq;subst hq;exact absurd (by rw[e3];exact xV) (h3 p f0 hp)
     |succ q=>simp at hp hq;rw[h2 _ _ f hp hq]
   ·cases p with
    |zero=>simp at hp;subst hp;exact e2
    |succ p=>exact fun hf=>h3 p f hp (Q0 f hf)
def vZ(P:Program):List ResultVar→List tC→Bool
 |[],[]=>true
 |.tmp t::rs,.t s _::vs=>t==s&&vZ P rs vs
 |.cell a ty::rs,.c s agg sh::vs=>a==s&&sR P ty (bif agg then some sh.length else none)&&(agg || sh.length==1)&&vZ P rs vs
 |_,_=>false
def Ip(X:Cx)(used:List Nat)(u:V)(x:Value)(fV:List Nat):Prop :=
 (u.cQ=true∧LZ X used u x fV)∨∃us ys,u=.agg us∧x=.agg ys.toArray∧vX X used us ys fV∧∀z∈us,z.cQ=true
theorem Yt{X:Cx}{cs:List V}{xs:Array Value}(hl:cs.length=xs.size)(hx:∀(i:Nat) (v:V) (y:Value),cs[i]?=some v→xs[i]?=some y→bf X v y) :
  cs.length=xs.toList.length∧∀(i:Nat) (v:V) (y:Value),cs[i]?=some v→xs.toList[i]?=some y→bf X v y :=
 ⟨by simpa using hl,fun i v y hv hy=>hx i v y hv (by simpa using hy)⟩
theorem Yu(hR:R E g S a w){used fV:List Nat}{rv:tC}{u:V}(h:Bq S used rv=some (u,fV)) :
  (∀s sh,rv=.t s sh→Ip (S.cx g w) used u (a.tmps.getD s undef) fV) ∧
  (∀s agg sh ty,rv=.c s agg sh→sR P ty (bif agg then some sh.length else none)=true→(agg=false→sh.length=1)→∃x,(do loadVar ty (←asAddr (a.tmps.getD s undef)):Sem Value).run P w=.ok x w∧Ip (S.cx g w) used u x fV):=by
 refine⟨fun s sh e=>?_,fun s agg sh ty e hs L1=>?_⟩
 ·subst e
  simp only[Bq]at h;split at h
  ·rename_i cs hl
   split at h
   ·rename_i us An h1
    cases h;obtain⟨x,hx,hr⟩:=hR.env s _ hl;obtain⟨xs,e,qL,Ik⟩:=rU hr;subst e;obtain⟨p1,p2⟩:=Yt qL Ik;have hg:a.tmps.getD s undef=.agg xs:=by simp[hx]
    rw[hg];exact .inr ⟨us,xs.toList,rfl,rfl,L0 rfl h1 p1 p2,fun z hz=>(Fz h1 z hz).1⟩
   ·cases h
  ·rename_i v kc hl
   split at h
   ·obtain⟨x,hx,hr⟩:=hR.env s _ hl
    have hg:a.tmps.getD s undef=x:=by simp[hx]
    rw[hg];exact .inl ⟨(QY h).1,Ys rfl h hr⟩
   ·cases h
  ·cases h
 ·subst e
  simp only[Bq]at h;split at h
  ·rename_i id hl
   split at h
   ·rename_i cs fM
    split at h
    ·rename_i us An h1
     cases h;obtain⟨x,hx,hr⟩:=hR.env s _ hl;have e2:=Bu hr;subst e2;have hg:a.tmps.getD s undef=.pointer (some ⟨g.κ id,0,none⟩):=by simp[hx];rfl
     have eX:∀(j:Nat) (v:V),cs[j]?=some v→∃y,cellAt w.heap (g.κ id) (0+j)=some y∧bf (S.cx g w) v y:=fun j v hv=>by
      obtain⟨_,_,_,c,et,hh,_,hj⟩:=(hR.aZ id cs fM).resolve_left (fun h=>by rw[h.1]at hv;simp at hv)
      obtain⟨_,y,hy,rY⟩:=hj j v hv;exact⟨y,by rw[lP hh,kz];exact hy,rY⟩
     have dJ:=Fz h1;have hlen:∀{sh:Sh} {used fV:List Nat} {vs us:List V},n0 S sh used vs=some (us,fV)→vs.length=sh.length∧us.length=sh.length:=by
      intro sh;induction sh with
      |nil=>intro used fV vs us h;cases vs<;>simp[n0]at h;obtain⟨rfl,_⟩:=h;simp
      |cons s sh ih =>
       intro used fV vs us h;cases vs with
       |nil=>simp[n0]at h
       |cons v vs =>
        simp only[n0]at h;split at h
        ·split at h
         ·rename_i h2;cases h;obtain⟨p,q⟩:=ih h2;simp[p,q]
         ·cases h
        ·cases h
     obtain⟨pF,qL⟩:=hlen h1;cases agg with
     |true =>
      have E7:loadAt (some sh.length) cs 0=some (.agg cs):=by
       have:Nat.ble (0+sh.length) cs.length=true:=Py (by omega)
       simp only[loadAt,this,bM,vn,Option.some.injEq,V.agg.injEq];exact lZ (by omega)
      obtain⟨z,hz,Q1⟩:=Lc (P:=P) (w:=w) (t:=ty) hs eX E7;obtain⟨xs,e,Dx,Ik⟩:=rU Q1;subst e;obtain⟨p1,p2⟩:=Yt Dx Ik;refine⟨_,?_,.inr ⟨us,xs.toList,by simp[K6],rfl,L0 rfl h1 p1 p2,fun z hz=>(dJ z hz).1⟩⟩
      rw[hg];simp only[Sem.run_bind,asAddr,Sem.run_pure,Result.andThen_ok];exact hz
     |false =>
      match cs,us,pF,qL with
      |[v],[u],pF,qL =>
       have E7:loadAt none [v] 0=some v:=rfl;obtain⟨z,hz,Q1⟩:=Lc (P:=P) (w:=w) (t:=ty) hs eX E7;have akK:=L0 (X:=S.cx g w) rfl h1 (ys:=[z]) rfl (fun i v' y hv hy=>by
        cases i with
        |zero=>simp at hv hy;subst hv;subst hy;exact Q1
        |succ i=>simp at hv)
       refine⟨z,?_,.inl ⟨(dJ u (by simp)).1,?_⟩⟩
       ·rw[hg]
        simp only[Sem.run_bind,asAddr,Sem.run_pure,Result.andThen_ok];exact hz
       ·cases akK with
        |cons h1 h2=>cases h2;exact h1
      |[],_,pF,qL=>have:=L1 rfl;simp at pF;omega
      |_::_::_,_,pF,qL=>have:=L1 rfl;simp at pF;omega
      |[_],[],pF,qL=>simp at pF qL;omega
      |[_],_::_::_,pF,qL=>simp at pF qL;omega
    ·cases h
   ·cases h
  ·cases h
inductive FA (X:Cx):List Nat→List V→List Value→Prop
 |nil (used):FA X used [] []
 |cons {used vY u us x xs} (h:Ip X used u x vY) (hs:FA X vY us xs):FA X used (u::us) (x::xs)
def Iq(a:Act):ResultVar→Sem Value
 |.tmp t=>pure (a.tmps.getD t undef)
 |.cell s t=>do loadVar t (←asAddr (a.tmps.getD s undef))
theorem Q2(hR:R E g S a w):∀{rs:List ResultVar} {vs:List tC} {used:List Nat} {us:List V},vZ P rs vs=true→wU S used vs=some us →
  ∃xs,(rs.mapM (Iq a)).run P w=.ok xs w∧FA (S.cx g w) used us xs
 |[],[],used,us,_,h=>by simp only[wU,Option.some.injEq]at h;subst h;exact⟨[],by simp,.nil _⟩
 |[],_::_,_,_,h,_=>by simp[vZ]at h
 |.tmp _::_,[],_,_,h,_=>by simp[vZ]at h
 |.cell _ _::_,[],_,_,h,_=>by simp[vZ]at h
 |.tmp _::_,.c _ _ _::_,_,_,h,_=>by simp[vZ]at h
 |.cell _ _::_,.t _ _::_,_,_,h,_=>by simp[vZ]at h
 |.tmp t::rs,.t s sh::vs,used,us,bz,h=>by
  simp only[vZ,b8,eg]at bz;obtain⟨rfl,bz⟩:=bz;simp only[wU]at h;split at h
  ·rename_i v vY h1
   split at h
   ·rename_i EY h2
    cases h;obtain⟨xs,q1,q2⟩:=Q2 hR bz h2;have:=(Yu (P:=P) hR h1).1 t sh rfl;refine⟨_::xs,?_,.cons this q2⟩;simp[List.mapM_cons,Iq,q1]
   ·cases h
  ·cases h
 |.cell c ty::rs,.c s agg sh::vs,used,us,bz,h=>by
  simp only[vZ,b8,eg,CI]at bz;obtain⟨⟨⟨rfl,hs⟩,L1⟩,bz⟩:=bz;simp only[wU]at h;split at h
  ·rename_i v vY h1
   split at h
   ·rename_i EY h2
    cases h;obtain⟨xs,q1,q2⟩:=Q2 hR bz h2;obtain⟨x,r1,r2⟩:=(Yu (P:=P) hR h1).2 c agg sh ty rfl hs (fun e=>L1.resolve_left (by simp[e]))
    refine⟨x::xs,?_,.cons r2 q2⟩;have r1':(Iq a (.cell c ty)).run P w=.ok x w:=r1;simp only[List.mapM_cons,Sem.run_bind,r1',Result.andThen_ok];simp[q1]
   ·cases h
  ·cases h
theorem Ip.akM{X:Cx}{used fV:List Nat}{u:V}{x:Value}(h:Ip X used u x fV):LZ X used u x fV:=by
 rcases h with⟨_,h⟩ | ⟨us,ys,rfl,rfl,h,hc⟩
 ·exact h
 ·obtain⟨hl,cn,h1,h2,h3⟩:=h.QZ
  refine⟨.agg _ _ (by simpa using hl) (fun i v y hv hy=>?_),.inl ⟨(fun _ _ _ e=>by cases e),h.sub⟩⟩
  rw[vp]at hv;cases hu:us[i]? with
  |none=>simp[hu]at hv
  |some z =>
   simp[hu]at hv;subst hv;have:=(h1 i z y hu (by simpa using hy)).1
   have hz:=hc z (g9 hu);cases z<;>first|exact this|(simp[V.cQ]at hz)
theorem FA.toList{X:Cx}{used:List Nat}{us:List V}{xs:List Value}(h:FA X used us xs):∃fV,vX X used us xs fV:=by
 induction h with
 |nil used=>exact⟨used,.nil used⟩
 |cons h hs ih =>
  obtain⟨fV,h'⟩:=ih;exact⟨fV,.cons h.akM h'⟩
theorem akN{base:Nat}(hR:R E g S a w){r:V}{x:Value}{us:List V}{ys:List Value}{fV:List Nat}(hl:vX (S.cx g w) [] us ys fV)(Yv:r.gD=us)(uJ:HZ r x ys)(Q3:∀v∈us,∀d,(strip v).cA d=false)
  (gN:E.w0.heap.size=base) :
  ∃g',g'.m=g.m∧g'.γ=g.γ∧(∀b i,g'.ow b=.aD i↔g.ow b=.aD i)∧yB ⟨w.heap,g',S.aD.length,[]⟩ base E.own r x∧∀b p q,g'.ow b=.cell p q↔g.ow b=.cell p q:=by
 classical
 obtain⟨hlen,cn,h1,h2,_⟩:=hl.QZ
 let own:Nat→Ow:=fun b=>match g.ow b with
  |.aD i=>.aD i
  |.tok f=>if h:∃p,cn p=some f then .tok h.choose else .none
  |.cell p q=>.cell p q
  |_=>.none
 let g':Gh:={ g with ow:=own }
 refine⟨g',rfl,rfl,fun b i=>?_,⟨ys,uJ,by rw[Yv];exact hlen.symm,fun p v y hv hy=>?_⟩,fun b p q=>?_⟩
 ·show own b=_↔_
  simp only[own];split
  ·rename_i h;rw[h]
  ·rename_i f h
   rw[h];split<;>exact⟨(fun e=>by cases e),(fun e=>by cases e)⟩
  ·rename_i h;rw[h]
  ·rename_i h1 h2 h3
   exact⟨(fun e=>by cases e),fun e=>absurd e (h1 i)⟩
 ·rw[Yv]at hv
  obtain⟨q1,q2⟩:=h1 p v y hv hy;have hm:=Q3 v (g9 hv);have le:Le ⟨w.heap,g,S.aD.length,[]⟩ ⟨w.heap,g',S.aD.length,[]⟩:=⟨bY _,fun _ _ _ _ h=>h,fun _ _=>bY _,bY _,fun _ _=>rfl⟩;refine⟨bf.mono le q1 (fun d=>.inr (hm d)),hm,fun t n es e=>?_⟩;rcases q2 with q2 | ⟨n',e1,e2⟩ | ⟨f,n',ql,k,e1,e2,e3,e4⟩
  ·exact absurd e (q2 t n es)
  ·rw[e1]at e;cases e;exact .inl ⟨rfl,e2⟩
  ·rw[e1]at e
   cases e;rcases e3 with⟨a1,a2⟩ | ⟨b,off,cap,c,et,b1,b2,b3,b4,b5⟩
   ·exact .inl ⟨a8.1 a1,a2⟩
   ·obtain⟨c1,c2,c3⟩:=hR.bl f k b e4 b1
    refine .inr ⟨b,off,cap,c,et,b2,by rw[←gN];exact c2,?_,b3,b4,b5⟩
    show own b=_;simp only[own];rw[c1];have hex:∃p,cn p=some f:=⟨p,e2⟩;simp only[dif_pos hex];rw[h2 _ _ f hex.choose_spec e2]
 ·show own b=_↔_
  simp only[own];split
  ·rename_i h;rw[h]
  ·rename_i f h
   rw[h];split<;>exact⟨(fun e=>by cases e),(fun e=>by cases e)⟩
  ·rename_i h;rw[h]
  ·rename_i h3
   exact⟨(fun e=>by cases e),fun e=>absurd e (h3 p q)⟩
theorem akO{used fV:List Nat}{rv:tC}{u:V}(h:Bq S used rv=some (u,fV)):(u.cQ=true∧∀d,(strip u).cI d=false)∨∃us,u=.agg us∧∀z∈us,z.cQ=true∧∀d,(strip z).cI d=false:=by
 cases rv with
 |t s sh =>
  simp only[Bq]at h;split at h
  ·split at h
   ·rename_i us An h1;cases h;exact .inr ⟨us,rfl,Fz h1⟩
   ·cases h
  ·split at h
   ·exact .inl (QY h)
   ·cases h
  ·cases h
 |c s agg sh =>
  simp only[Bq]at h;split at h
  ·split at h
   ·split at h
    ·rename_i us An h1
     cases h;unfold K6;split
     ·rename_i v;exact .inl (Fz h1 v (by simp))
     ·exact .inr ⟨us,rfl,Fz h1⟩
    ·cases h
   ·cases h
  ·cases h
theorem L3:∀{rs:List tC} {used:List Nat} {us:List V},wU S used rs=some us→∀u∈us,(u.cQ=true∧∀d,(strip u).cI d=false)∨∃us,u=.agg us∧∀z∈us,z.cQ=true∧∀d,(strip z).cI d=false
 |[],used,us,h=>by simp only[wU,Option.some.injEq]at h;subst h;simp
 |r::rs,used,us,h=>by
  simp only[wU]at h;split at h
  ·rename_i v vY h1
   split at h
   ·rename_i vs h2
    cases h;intro u hu;rcases jQ.1 hu with e|e
    ·subst e;exact akO h1
    ·exact L3 h2 u e
   ·cases h
  ·cases h
theorem Yw{u:V}(h:(u.cQ=true∧∀d,(strip u).cI d=false)∨∃us,u=.agg us∧∀z∈us,z.cQ=true∧∀d,(strip z).cI d=false)(d:Nat):(strip u).dP d=false:=by
 rcases h with⟨hc,h⟩ | ⟨us,rfl,h⟩
 ·have:=h d
  cases u<;>first|exact this|(simp[V.cQ]at hc)
 ·simp only[strip,V.dP,mR,nc]
  rintro x ⟨z,hz,rfl⟩;obtain⟨hc,hm⟩:=h z hz;have:=hm d;cases z<;>first|(simpa [strip] using this)|(simp[V.cQ]at hc)
theorem akP{rs:List tC}{r:V}(h:wV S rs=some r)(d:Nat):(BL r).cA d=false:=by
 unfold wV at h;split at h
 ·rename_i v hv
  cases h;have hc:=L3 hv r (by simp)
  rcases hc with⟨jT,hm⟩ | ⟨us,rfl,hm⟩
  ·have:=uF (hm d)
   cases r<;>first|exact this|(simp[V.cQ]at jT)
  ·simp only[BL,V.gD,uL,V.cA,V.dP,mR,nc]
   rintro x ⟨z,hz,rfl⟩;simp[(hm z hz).2 d]
 ·rename_i vs kc hv
  cases h;simp only[BL,V.gD,uL,V.cA,mR,nc];rintro x ⟨z,hz,rfl⟩;simp[Yw (L3 hv z hz) d]
 ·cases h
def Q4(nt:Nat):Code→Option FuncId
 |.region _ ops false=>match ops.toList with
  |[o,q]=>match o.dst,o.op,o.guard,q.dst,q.op,q.guard with
   |some d,.move (.tmp 0),none,none,.defer ⟨.value (.func f),as,_⟩,none=>match as.toList with
    |[.tmp e]=>bif e==d&&Nat.blt d nt then some f else none
    |_=>none
   |_,_,_,_,_,_=>none
  |_=>none
 |_=>none
def BR(nt:Nat):List FuncId→Code→Option Code
 |[],c=>some c
 |f::fs,.seq a c=>bif Q4 nt a==some f then BR nt fs c else none
 |_,_=>none
def xn(P:Program)(ps:Ps)(fn:Func)(vf:bc):Bool :=
 (match fn.body with
  |some c=>(match BR fn.ntmps vf.defs c with|some c'=>lu P ps fn.ntmps c' vf.body|none=>false)&&(vf.defs.isEmpty || (Xw c&&fn.results.toList.isEmpty&&vf.defs.all (H0 P)))
  |none=>false)&&Nat.ble vf.nparams fn.ntmps&&vZ P fn.results.toList vf.results && !(fn.name== "runtime.NumGoroutine")
theorem Yx:∀{vs:List V} {i s:Nat} {v:V},look s (qF i vs)=some v→∃k,s=i+k∧vs[k]?=some v
 |[],i,s,v,h=>by simp[qF,look]at h
 |u::us,i,s,v,h=>by
  simp only[qF]at h;rw[dL]at h;split at h
  ·rename_i e;cases h;exact⟨0,by omega,by simp⟩
  ·obtain⟨k,h1,h2⟩:=Yx h
   exact⟨k+1,by omega,by simpa using h2⟩
theorem Yy{fn:Func}{xs:List Value}(h:(fn.results.toList.mapM (Iq a)).run P w=.ok xs w):(results fn a.tmps).run P w=.ok (if h:xs.length=1 then xs[0] else .tuple xs.toArray) w:=by
 have e:results fn a.tmps=(do
   let vs ← fn.results.mapM (Iq a)
   pure (if h:vs.size=1 then vs[0] else .tuple vs)):=by
  unfold results;congr 1
 rw[e,Array.mapM_eq_mapM_toList];simp only[Sem.run_bind,Sem.run_map,h,Result.andThen_ok,Sem.run_pure];simp
theorem ax5{r:V}{xs:List Value}{us:List V}(pD:r=.tuple us):HZ r (.tuple xs.toArray) xs:=by
 subst pD;rfl
theorem Yz{T:Pk}{ps:Ps}(iF:xc P T ps)(hm:P.follows .mixedOrders=true)(hC:qm P T C){n:Nat}{fn:Func}{c:Code}{vf:bc}(h1:lu P ps fn.ntmps c vf.body=true)
  (h3:vZ P fn.results.toList vf.results=true) {args:List V} {G G':List aP} {r:V} (lq:vf.call C n args G=some (r,G')) :
  (∀d,(BL r).cA d=false)∧∀(D:List Deferred) (w:World) (g:Gh) (a0:Act),oN T w.heap g.m→tF w.heap g G→a0.tmps.size=fn.ntmps →
   (∀(i:Nat) (v:V),args[i]?=some v→∃x,a0.tmps[i]?=some x∧bf ⟨w.heap,g,G.length,[]⟩ v x)→a0.defers=D →
   c.wp P (fun e a' w'=>(e=.normal∨e=.ret)∧a'.defers=D∧∃v,(results fn a'.tmps).run P w'=.ok v w' ∧
    ∃x nO,Ending.returned v=.returned x∧Ext w g G.length w' nO G'.length∧tF w'.heap nO G'∧yB ⟨w'.heap,nO,G'.length,[]⟩ w.heap.size (lp g) r x) a0 w:=by
 unfold bc.call at lq;cases hlen:args.length==vf.nparams with
 |false=>simp[hlen]at lq
 |true =>
   simp only[hlen,bM]at lq;have hlen:=eq_of_beq hlen;have key:∃ve S,VC.run C n vf.body { env:=qF 0 args,aZ:=[],bl:=[],aD:=G }=some (ve,S)∧(ve=.normal∨ve=.ret)∧wV S vf.results=some r∧S.aD=G':=by
    split at lq
    ·rename_i S ah
     split at lq
     ·rename_i v hv
      cases lq;exact⟨_,S,ah,.inl rfl,hv,rfl⟩
     ·cases lq
    ·rename_i S ah
     split at lq
     ·rename_i v hv
      cases lq;exact⟨_,S,ah,.inr rfl,hv,rfl⟩
     ·cases lq
    ·cases lq
   obtain⟨ve,S,ah,PE,mc,rfl⟩:=key;refine⟨akP mc,fun D w g a0 nk hG eH hx hD=>?_⟩
   let E:Entry:=⟨w,g,G.length,fn.ntmps,D,T,nk,fun b i h=>(hG.z b i h).1⟩
   have hR:R E g { env:=qF 0 args,aZ:=[],bl:=[],aD:=G } a0 w:=by
    refine⟨fun s v hs=>?_,fun id cs h=>by simp[look]at h,fun f k b h _=>by simp[look]at h,hG,hD,eH,?_⟩
    ·obtain⟨k,hk,hv⟩:=Yx hs
     have Ir:s=k:=by omega
     subst Ir;exact hx s v hv
    ·exact⟨rfl,rfl,rfl,bY _,bY _,fun _ _=>rfl,fun i a b=>absurd a (by show ¬ G.length≤i;simp at b;omega),fun _ _ _ _=>⟨rfl,rfl⟩,fun _ _ _=>⟨fun _ _ _ h=>h,bY _⟩,fun b p q _ h=>⟨p,q,h⟩,fun b i h _=>⟨h,(hG.z b i h).2⟩⟩
   refine wp_mono (akH (E:=E) iF hm hC n h1 hR ah) fun e a' w' he=>?_;obtain⟨rfl,g',kd⟩:=he;have Dy:∃us,wU S [] vf.results=some us:=by
    unfold wV at mc;split at mc
    ·exact⟨_,by assumption⟩
    ·exact⟨_,by assumption⟩
    ·cases mc
   obtain⟨us,pD⟩:=Dy;obtain⟨ys,q1,q2⟩:=Q2 kd h3 pD;have q3:=Yy q1;have dJ:=L3 pD;have fin:∀x,(results fn a'.tmps).run P w'=.ok x w'→(∃zs l8 fV,vX (S.cx g' w') [] l8 zs fV∧r.gD=l8∧HZ r x zs∧∀v∈l8,∀d,(strip v).cA d=false) →
     a'.defers=D∧∃v,(results fn a'.tmps).run P w'=.ok v w'∧(∃x nO,Ending.returned v=.returned x∧Ext w g G.length w' nO S.aD.length∧tF w'.heap nO S.aD∧yB ⟨w'.heap,nO,S.aD.length,[]⟩ w.heap.size (lp g) r x):=by
    rintro x hx ⟨zs,l8,fV,hl,hc,hp,Q3⟩;obtain⟨nO,e1,e2,e3,e4,e5⟩:=akN kd hl hc hp Q3 (base:=w.heap.size) rfl;refine⟨kd.defers,x,hx,x,nO,rfl,?_,⟨?_,?_,fun b i h=>by rw[e1];exact kd.aD.z b i ((e3 b i).1 h)⟩,e4⟩
    ·exact⟨kd.same.os,kd.same.tape,kd.same.output,kd.same.size,kd.same.eW,fun i hi=>by rw[e2];exact kd.same.γ i hi,fun i a b=>by rw[e2];exact kd.same.γnew i a b,fun b hb kc yk=>by rw[e1];exact kd.same.l7 b hb kc yk,
      fun b hb hw=>by rw[e1];exact kd.same.grow b hb hw,fun b p q hb h=>kd.same.iW b p q hb ((e5 b p q).1 h),fun b i h hb=>kd.same.lv b i ((e3 b i).1 h) hb⟩
    ·intro i o ho
     rcases kd.aD.obj i o ho with k0 | ⟨k1,k2⟩
     ·exact .inl k0
     refine .inr ⟨by rw[e2];exact(e3 _ i).2 k1,?_⟩
     cases o with
     |map es =>
      obtain⟨k3,c,e,k4,k5,k6⟩:=k2;rw[e2];refine⟨by rw[e1];exact k3,c,e,k4,k5,fun j v y hj hy=>?_⟩
      obtain⟨k7,k8,k9,k10⟩:=k6 j v y hj hy;have le:Le ⟨w'.heap,g',S.aD.length,[]⟩ ⟨w'.heap,nO,S.aD.length,[]⟩:=⟨bY _,fun _ _ _ _ h=>h,fun b _=>by rw[e1];exact bY _,bY _,fun _ _=>by rw[e2]⟩
      exact⟨k7,k8,k9.mono le fun d=>.inr (k7 d),k10.mono le fun d=>.inr (wW (k8 d))⟩
     |cells cs =>
      obtain⟨k3,c,e,k4,k5,k6⟩:=k2;rw[e2];refine⟨by rw[e1];exact k3,c,e,k4,k5,fun j v y hj hy=>?_⟩
      obtain⟨k7,k8,k9⟩:=k6 j v y hj hy;have le:Le ⟨w'.heap,g',S.aD.length,[]⟩ ⟨w'.heap,nO,S.aD.length,[]⟩:=⟨bY _,fun _ _ _ _ h=>h,fun b _=>by rw[e1];exact bY _,bY _,fun _ _=>by rw[e2]⟩
      exact⟨k7,k8,k9.mono le fun d=>.inr (k8 d)⟩
    ·intro i o ho
     have k1:=kd.aD.own i o ho;rw[e2];cases o with
     |map es=>trivial
     |cells cs =>
      intro j n es y hj hy;rcases k1 j n es y hj hy with h | ⟨q,cap,c',e',q1,q2,q3,q4,q5,q6⟩
      ·exact .inl h
      ·exact .inr ⟨q,cap,c',e',q1,(e5 _ _ _).2 q2,by rw[e1];exact q3,q4,q5,q6⟩
   have goal:a'.defers=D∧∃v,(results fn a'.tmps).run P w'=.ok v w'∧(∃x nO,Ending.returned v=.returned x∧Ext w g G.length w' nO S.aD.length∧tF w'.heap nO S.aD∧yB ⟨w'.heap,nO,S.aD.length,[]⟩ w.heap.size (lp g) r x):=by
    refine fin _ q3 ?_;unfold wV at mc;rw[pD]at mc
    match us,ys,q2,mc,dJ with
    |[u],[x],q2,mc,dJ =>
     simp only[Option.some.injEq]at mc;subst mc;cases q2 with
     |cons yy ax6 =>
      rcases yy with⟨jT,yy⟩ | ⟨vs,zs,rfl,rfl,hl,hc⟩
      ·refine⟨[x],[u],_,.cons yy (.nil _),?_,?_,fun v hv d=>?_⟩
       ·cases u<;>first|rfl|(simp[V.cQ]at jT)
       ·simp only[po,dif_pos,WL]
        cases u<;>first|rfl|(simp[V.cQ]at jT)
       ·simp only[pq]at hv
        subst hv;rcases dJ v (by simp) with⟨_,h⟩ | ⟨vs,rfl,_⟩
        ·exact uF (h d)
        ·simp[V.cQ]at jT
      ·refine⟨zs,vs,_,hl,rfl,?_,fun v hv d=>?_⟩
       ·simp only[po,dif_pos,WL]
        rfl
       ·rcases dJ (.agg vs) (by simp) with⟨h,_⟩ | ⟨EY,e,h⟩
        ·simp[V.cQ]at h
        ·cases e;exact uF ((h v hv).2 d)
    |[],ys,q2,mc,dJ =>
     cases q2;simp only[Option.some.injEq]at mc;subst mc;exact⟨[],[],[],.nil _,rfl,rfl,by simp⟩
    |u1::u2::us,ys,q2,mc,dJ =>
     simp only[Option.some.injEq]at mc;subst mc;obtain⟨fV,hl⟩:=q2.toList;have YA:=hl.QZ.1;refine⟨ys,_,fV,hl,rfl,?_,fun v hv d=>wW (Yw (dJ v hv) d)⟩;rw[dif_neg (by simp at YA;omega)]
     rfl
    |[u],[],q2,_,_=>cases q2
    |[u],_::_::_,q2,_,_=>cases q2 with|cons _ h=>cases h
   rcases PE with rfl|rfl
   ·exact⟨.inl rfl,goal⟩
   ·exact⟨.inr rfl,goal⟩
theorem Q6{w:World}{g:Gh}{G:List aP}{args:List V}{xs:List Value}{fn:Func}(w7:args.length=xs.length)(hn:args.length≤fn.ntmps)
  (hx:∀(i:Nat) (v:V) (x:Value),args[i]?=some v→xs[i]?=some x→bf ⟨w.heap,g,G.length,[]⟩ v x) :
  (xs.toArray++Array.replicate (fn.ntmps-xs.toArray.size) undef).size=fn.ntmps ∧
  ∀(i:Nat) (v:V),args[i]?=some v→∃x,(xs.toArray++Array.replicate (fn.ntmps-xs.toArray.size) undef)[i]?=some x∧bf ⟨w.heap,g,G.length,[]⟩ v x:=by
 refine⟨by simp;omega,fun s v hv=>?_⟩
 have bI:s<xs.length:=by rw[←w7];exact fa hv
 refine⟨xs[s],?_,hx s v xs[s] hv (g8 bI)⟩;rw[Ba (by simpa using bI)]
 simp[bI]
theorem Is{C:bD}{vf:bc}(h:vf.defs=[]){args:List V}{o:Option (V×List aP)}:wrap C vf args o=o:=by
 unfold wrap;rcases o with _ | ⟨r,G⟩
 ·rfl
 ·simp only[h]
theorem YB{C:bD}{n:Nat}{vf:bc}{args:List V}{G:List aP}{y:V×List aP}(h:vf.call C n args G=some y):args.length=vf.nparams:=by
 unfold bc.call at h;cases hlen:args.length==vf.nparams with
 |false=>simp[hlen]at h
 |true=>exact eq_of_beq hlen
theorem akR{T:Pk}{ps:Ps}(iF:xc P T ps)(hm:P.follows .mixedOrders=true)(hC:qm P T C){n:Nat}{f:FuncId}{fn:Func}{vf:bc}(sZ:P.funcs[jA f]?=some fn)(bz:xn P ps fn vf=true)(qn:vf.defs=[]){args:List V}{G G':List aP}{r:V}
  (lq:vf.call C n args G=some (r,G')):vN P T f args G r G':=by
 simp only[xn,b8,vm]at bz;obtain⟨⟨⟨h1,h2⟩,h3⟩,h4⟩:=bz;have h2:=jk h2;have hlen:=YB lq;cases hb:fn.body with
 |none=>rw[hb]at h1;cases h1
 |some c =>
  rw[hb]at h1;simp only[qn,BR,b8]at h1;obtain⟨k1,k2⟩:=Yz iF hm hC h1.1 h3 lq;refine⟨⟨fn,sZ,by simp[hb],h4⟩,k1,fun w g xs nk hG w7 hx=>?_,fun _ u w g xs nk hG w7 hx=>?_⟩
  ·obtain⟨e1,e2⟩:=Q6 (fn:=fn) w7 (by omega) hx
   refine calls_of_wp sZ hb (wp_mono (k2 [] w g _ nk hG e1 e2 rfl) fun e a' w' he=>?_);obtain⟨rfl|rfl,he⟩:=he
   ·exact he
   ·exact he
  ·obtain⟨e1,e2⟩:=Q6 (fn:=fn) w7 (by omega) hx
   refine callsD_of_wp sZ hb (wp_mono (k2 [] w g _ nk hG e1 e2 rfl) fun e a' w' he=>?_);obtain⟨rfl|rfl,he⟩:=he
   ·exact he
   ·exact he
def FC(x:Value)(f:FuncId):Deferred:=⟨.fn (.func f) #[],#[x]⟩
theorem YC{nt:Nat}{x0:Value}{Q:Exit→Act→World→Prop}{w:World}:∀{fs:List FuncId} {c c':Code},BR nt fs c=some c'→∀{a:Act},a.tmps.size=nt→a.tmps[0]?=some x0 →
  (∀a':Act,a'.tmps.size=nt→a'.tmps[0]?=some x0→a'.defers=fs.reverse.map (FC x0)++a.defers→c'.wp P Q a' w)→c.wp P Q a w
 |[],c,c',h,a,hs,h0,hK=>by
  simp only[BR,Option.some.injEq]at h;subst h;exact hK a hs h0 (by simp)
 |f::fs,.seq d c,c',h,a,hs,h0,hK=>by
  simp only[BR]at h;cases hd:Q4 nt d==some f with
  |false=>simp[hd]at h
  |true =>
   simp only[hd,bM]at h;have fp:=eq_of_beq hd
   clear hd
   have hd:=fp
   clear fp
   unfold Q4 at hd;split at hd
   ·rename_i id ops
    split at hd
    ·rename_i o q akS
     split at hd
     ·rename_i dd g as ts e1 e2 e3 e4 e5 e6
      split at hd
      ·rename_i ee has
       cases hc:ee==dd&&Nat.blt dd nt with
       |false=>simp[hc]at hd
       |true =>
        simp only[hc,bM,Option.some.injEq]at hd;subst hd;simp only[b8,eg]at hc;obtain⟨rfl,bI⟩:=hc;have bI:ee<nt:=jk bI;have akT:as = #[.tmp ee]:=by apply nF;simpa using has
        subst akT;have akU:ops = #[o,q]:=by apply nF;simpa using akS
        subst akU;have v0:a.eval (.tmp 0)=x0:=by simp[Act.eval,h0]
        refine wp_seq ?_;refine wp_region ?_;show wpOps P #[o,q] _ [0,1] a w;rw[wpOps_cons];unfold wpOp;have w1:Region.wanted o (yielded #[o,q] a.tmps)=true:=by simp[Region.wanted,e3]
        simp only[EJ,Hk,w1,if_true];refine .inl ?_;have x1:(execOp a.eval o).run P w=.ok (.value x0) w:=by
         unfold execOp;rw[e2];simp[v0]
        unfold Oper.wp;rw[x1,Oper.upon_value,e1,wpOps_cons];unfold wpOp;have w2:Region.wanted q (yielded #[o,q] (a.put (some ee) x0).tmps)=true:=by simp[Region.wanted,e6]
        simp only[EJ,Hj,Hk,w2,if_true];refine .inl ?_;have v1:(a.put (some ee) x0).eval (.tmp ee)=x0:=by simp[Act.eval,Act.put,hs,bI]
        have x2:(execOp (a.put (some ee) x0).eval q).run P w=.ok (.defer (FC x0 g)) w:=by
         unfold execOp;rw[e5];simp only[resolve,Sem.run_bind];simp[Deferred.ofValue,Act.eval,FC]at v1 ⊢;simp[v1]
        unfold Oper.wp;rw[x2,Oper.upon_defer,e4];simp only[wpOps];refine YC h ?_ ?_ fun a' k1 k2 k3=>hK a' k1 k2 ?_
        ·simp[Act.put,hs]
        ·simp only[Act.put,OV]
         split
         ·rename_i e;subst e;simp[hs,bI]
         ·exact h0
        ·rw[k3]
         simp[Act.put]
      ·cases hd
     ·cases hd
    ·cases hd
   ·cases hd
 |_::_,.skip,_,h,_,_,_,_=>by simp[BR]at h
 |_::_,.region ..,_,h,_,_,_,_=>by simp[BR]at h
theorem akV{fn:Func}(h:fn.results.toList.isEmpty=true)(tmps:Array Value)(w:World):(results fn tmps).run P w=.ok (.tuple #[]) w:=by
 have h':fn.results.toList=[]:=by simpa using h
 have:=Yy (P:=P) (fn:=fn) (a:={ tmps:=tmps,defers:=[] }) (w:=w) (xs:=[]) (by rw[h'];rfl)
 simpa using this
theorem Ext.trans{w w' YD:World}{g g' nO:Gh}{N N' YE:Nat}(h:Ext w g N w' g' N')(k:Ext w' g' N' YD nO YE):Ext w g N YD nO YE where
 os:=k.os.trans h.os
 tape:=k.tape.trans h.tape
 output:=k.output.trans h.output
 size:=kL h.size k.size
 eW:=kL h.eW k.eW
 γ:=fun i hi=>(k.γ i (ja hi h.eW)).trans (h.γ i hi)
 γnew:=fun i h1 h2=>by
  by_cases hi:i<N'
  ·rw[k.γ i hi];exact h.γnew i h1 hi
  ·exact kL h.size (k.γnew i (by omega) h2)
 l7:=fun b hb kc yk=>by
  obtain⟨p1,p2⟩:=h.l7 b hb kc yk;obtain⟨q1,q2⟩:=k.l7 b (ja hb h.size) (fun i hi e=>by
   obtain⟨k1,k2⟩:=h.lv b i e hb;exact kc i k2 k1) (fun⟨p,q,hw⟩=>yk (h.iW b p q hb hw))
  exact⟨q1.trans p1,q2.trans p2⟩
 grow:=fun b hb hw=>by
  obtain⟨p1,p2⟩:=h.grow b hb hw;have bI:=ja hb h.size;by_cases uP:lp g' b
  ·obtain⟨q1,q2⟩:=k.grow b bI uP
   exact⟨fun o y ho hy=>q1 o y (ja ho p2) (p1 o y ho hy),kL p2 q2⟩
  ·by_cases hg:∃i,g'.ow b=.aD i
   ·obtain⟨i,e⟩:=hg
    obtain⟨p',q',hw⟩:=hw;have:=(h.lv b i e hb).1;rw[hw]at this;cases this
   ·obtain⟨q1,q2⟩:=k.l7 b bI (fun i hi e=>hg ⟨i,e⟩) uP
    exact⟨fun o y ho hy=>by rw[tE q1];exact p1 o y ho hy,by rw[q2];exact p2⟩
 iW:=fun b p q hb ho=>by
  obtain⟨p',q',hw⟩:=k.iW b p q (ja hb h.size) ho;exact h.iW b p' q' hb hw
 lv:=fun b i ho hb=>h.lv b i (k.lv b i ho (ja hb h.size)).1 hb
theorem YF{T:Pk}(hC:qm P T C){w0:World}{g0:Gh}(nk:oN T w0.heap g0.m)(hz:∀b i,g0.ow b=.aD i→g0.m b=0){fn:Func}(Dy:fn.results.toList.isEmpty=true){tmps:Array Value}{N0 i off:Nat}(hi:i<N0){GF:List aP} :
  ∀{l:List FuncId} {w:World} {g:Gh} {G:List aP},(∀f∈l,H0 P f=true)→qG C [.bH i off] l G=some GF→tF w.heap g G→Ext w0 g0 N0 w g G.length →
  Leaves P fn tmps (fun e w'=>∃x nO,e=.returned x∧Ext w0 g0 N0 w' nO GF.length∧tF w'.heap nO GF∧yB ⟨w'.heap,nO,GF.length,[]⟩ w0.heap.size (lp g0) (.tuple []) x)
   (l.map (FC (.pointer (some ⟨g0.γ i,off,none⟩)))) .returning w
 |[],w,g,G,_,hp,hG,hE=>by
  simp only[qG,Option.some.injEq]at hp;subst hp;exact⟨_,akV Dy tmps w,_,g,rfl,hE,hG,[],rfl,rfl,by simp[V.gD]⟩
 |f::l,w,g,G,hd,hp,hG,hE=>by
  simp only[qG]at hp;split at hp
  ·rename_i r G1 hc
   have sY:jA f=f:=by
    have:=hd f (by simp)
    simp only[H0,b8,eg]at this;exact this.1
   refine⟨by simp,.func f,#[],f,#[.pointer (some ⟨g0.γ i,off,none⟩)],rfl,?_,?_⟩
   ·obtain⟨fn1,It,xp,Iu⟩:=(hC f _ _ _ _ hc).fn
    rw[sY]at It;have akX:¬ fn1.name= "runtime.NumGoroutine":=by simpa using Iu
    simp[FC,invoke,callFunc,It,akX];intro kc;simp[kc]at xp
   ·have hs:=(hC f _ _ _ _ hc).Qb (by rw[sY];exact hd f (by simp)) .returning w g [.pointer (some ⟨g0.γ i,off,none⟩)] (oN.mono (X:=⟨w0.heap,g0,N0,[]⟩) (X':=⟨w.heap,g,G.length,[]⟩) (hE.le hz) nk) hG rfl (by
     intro k v x hv hx;cases k with
     |zero =>
      simp only[Hk,Option.some.injEq]at hv hx;subst hv;subst hx;rw[←hE.γ i hi];exact .bH i off (ja hi hE.eW)
     |succ k=>simp at hv)
    rw[sY]at hs;intro c cs hu;obtain⟨e,u',w',fr,⟨rfl,x,g1,rfl,h1,h2,h3⟩,k1,k2,k3⟩:=hs c cs hu;refine⟨_,_,w',fr,?_,k1,k2,k3⟩;exact YF hC nk hz Dy hi (fun f hf=>hd f (by simp[hf])) hp h2 (hE.trans h1)
  ·cases hp
theorem L5{T:Pk}{ps:Ps}(iF:xc P T ps)(hm:P.follows .mixedOrders=true)(hC:qm P T C){n:Nat}{f:FuncId}{fn:Func}{vf:bc}(h1:P.funcs[jA f]?=some fn)(h2:xn P ps fn vf=true)
  {args:List V} {G G':List aP} {r:V} (h:vf.one C n args G=some (r,G')):vN P T f args G r G':=by
 unfold bc.one at h;cases qn:vf.defs with
 |nil =>
  rw[Is qn]at h;exact akR iF hm hC h1 h2 qn h
 |cons f1 fs1 =>
  simp only[xn,b8,vm]at h2;obtain⟨⟨⟨k1,k2⟩,k3⟩,k4⟩:=h2;cases hb:fn.body with
  |none=>rw[hb]at k1;cases k1
  |some c =>
   rw[hb]at k1;simp only[b8,CI]at k1;obtain⟨k1,k5⟩:=k1;rcases k5 with k5|k5
   ·rw[qn]at k5;cases k5
   obtain⟨⟨k5,k6⟩,k7⟩:=k5;split at k1
   ·rename_i c' akY
    unfold wrap at h;split at h
    ·cases h
    ·rename_i r1 G1 lq
     rw[qn]at h;simp only at h;split at h
     ·rename_i i off
      split at h
      ·rename_i G2 YG
       cases h;rw[←qn]at YG;obtain⟨_,m2⟩:=Yz iF hm hC k1 k3 lq;have hlen:=YB lq;refine⟨⟨fn,h1,by simp[hb],k4⟩,fun d=>by rfl,fun w g xs nk hG w7 hx=>?_,fun FD=>?_⟩
       ·obtain⟨e1,e2⟩:=Q6 (fn:=fn) w7 (by have:=jk k2;omega) hx
        refine calls_of_wp_defers h1 hb ?_;obtain⟨x0,z1,z2⟩:=e2 0 (.bH i off) rfl;refine YC akY e1 z1 fun a' q1 q2 q3=>?_;cases z2 with
        |bH _ _ hi =>
         refine wp_mono (m2 _ w g a' nk hG q1 (fun s v hv=>?_) rfl) fun e a2 w2 he=>?_
         ·cases s with
          |zero=>simp at hv;subst hv;exact⟨_,q2,.bH i off hi⟩
          |succ s=>simp at hv
         ·obtain⟨he,fp,v,hv,x,g2,LS,hE,H6,_⟩:=he
          have hL:=YF hC nk (fun b i h=>(hG.z b i h).1) (fn:=fn) k6 (tmps:=a2.tmps) (w0:=w) (g0:=g) (N0:=G.length) (i:=i) (off:=off) hi (l:=vf.defs.reverse) (w:=w2) (g:=g2) (fun f hf=>by
           have:=iL.1 k7 f (by simpa using hf)
           exact this) YG H6 hE
          have hD:a2.defers=vf.defs.reverse.map (FC (.pointer (some ⟨g.γ i,off,none⟩))):=by
           rw[fp,q3];simp
          rcases he with rfl|rfl
          ·show Leaves P fn a2.tmps _ a2.defers .returning w2
           rw[hD];exact hL
          ·show Leaves P fn a2.tmps _ a2.defers .returning w2
           rw[hD];exact hL
        |plain hp _=>cases hp
       ·simp[H0,h1,hb,k5]at FD
      ·cases h
     ·cases h
   ·cases k1
theorem akZ{T:Pk}{f:FuncId}{args:List V}{G G':List aP}{r:V}{p m:Nat}(hp:args[p]?=some (.slice none m []))(h1:vN P T f (args.set p .bU) G r G')(h2:vN P T f (args.set p (.gd m)) G r G'):vN P T f args G r G':=by
 have key:∀(w:World) (g:Gh) (xs:List Value),args.length=xs.length→(∀(i:Nat) (v:V) (x:Value),args[i]?=some v→xs[i]?=some x→bf ⟨w.heap,g,G.length,[]⟩ v x) →
   ∃u,(u=.bU∨u=.gd m)∧∀(i:Nat) (v:V) (x:Value),(args.set p u)[i]?=some v→xs[i]?=some x→bf ⟨w.heap,g,G.length,[]⟩ v x:=fun w g xs hl hx=>by
  have bI:=fa hp;have hr:=hx p _ xs[p] hp (g8 (by omega))
  have hu:∃u,(u=.bU∨u=.gd m)∧bf ⟨w.heap,g,G.length,[]⟩ u xs[p]:=by
   generalize xs[p]=x at hr;cases hr with
   |plain h _ =>
    cases h with
    |nil=>exact⟨.bU,.inl rfl,.plain .bU (fun _ _ _ e=>by cases e)⟩
    |empty _ _ a cap=>exact⟨.gd m,.inr rfl,.gd m a cap⟩
    |slice _ _ _ b off cap=>exact⟨.gd m,.inr rfl,.gd m _ cap⟩
  obtain⟨u,h1,h2⟩:=hu;refine⟨u,h1,fun i v x hv mT=>?_⟩;rw[kK]at hv;split at hv
  ·rename_i e
   subst e
   first|rw[aK bI]at hv|skip
   cases hv;rw[g8 (by omega)]at mT
   cases mT;exact h2
  ·exact hx i v x hv mT
 refine⟨h1.fn,h1.ret,fun w g xs nk hG hl hx=>?_,fun hd u w g xs nk hG hl hx=>?_⟩
 ·obtain⟨u,hu,hr⟩:=key w g xs hl hx
  rcases hu with rfl|rfl
  ·exact h1.run w g xs nk hG (by simpa using hl) hr
  ·exact h2.run w g xs nk hG (by simpa using hl) hr
 ·obtain⟨z,hz,hr⟩:=key w g xs hl hx
  rcases hz with rfl|rfl
  ·exact h1.Qb hd u w g xs nk hG (by simpa using hl) hr
  ·exact h2.Qb hd u w g xs nk hG (by simpa using hl) hr
theorem YH{n:Nat}{vf:bc}{p m:Nat}{args:List V}{G:List aP}{r:V×List aP}(h:vf.both C n p m args G=some r):vf.one C n (args.set p .bU) G=some r∧vf.one C n (args.set p (.gd m)) G=some r:=by
 unfold bc.both at h;split at h
 ·rename_i e;exact⟨h,e ▸ h⟩
 ·cases h
theorem Iv{T:Pk}{ps:Ps}(iF:xc P T ps)(hm:P.follows .mixedOrders=true){F:FuncId→Option bc}(hF:∀f vf,F f=some vf→∃fn,P.funcs[jA f]?=some fn∧xn P ps fn vf=true):∀n,qm P T (call F n)
 |0=>fun f args G r G' h=>by cases h
 |n+1=>fun f args G r G' h=>by
  simp only[call]at h;split at h
  ·rename_i vf L6
   obtain⟨fn,h1,h2⟩:=hF f vf L6;unfold bc.Br at h;split at h
   ·exact L5 iF hm (Iv iF hm hF n) h1 h2 h
   ·split at h
    ·rename_i p _ m hp
     obtain⟨h3,h4⟩:=YH h;exact akZ hp (L5 iF hm (Iv iF hm hF n) h1 h2 h3) (L5 iF hm (Iv iF hm hF n) h1 h2 h4)
    ·exact L5 iF hm (Iv iF hm hF n) h1 h2 h
  ·cases h
end
end Go.Vm

/- The value machine, 17: results, and whole calls. -/
import Derived.Test.YtcelmhaoipbdiaaGreatDoorVmG
namespace Go.Vm
set_option linter.all false
section
variable {P:Program} {E:Entry} {g g':Gh} {S S':St} {a:Act} {w w':World} {C:br}
def JD(X:Cx)(used:List Nat)(u:V)(y:Value)(ft:List Nat):Prop :=
 aZ ⟨X.h,X.g,X.N,[]⟩ (strip u) y ∧
 ((∀t n es,u≠.slice (some t) n es)∧(∀f∈used,f∈ft)∨(∃n,u=.slice (some 0) n []∧kX y∧ft=used) ∨
   ∃f n es k,u=.slice (some 0) n es∧f∉used∧ft=f::used∧xy X f n es.length y∧look f X.T=some k)
inductive ur (X:Cx):List Nat→List V→List Value→List Nat→Prop
 |nil (used):ur X used [] [] used
 |cons {used uu yd u us y ys} (h:JD X used u y uu) (hs:ur X uu us ys yd):ur X used (u::us) (y::ys) yd
theorem NT{sh:Option Nat}{v u:V}(h:py sh v=some u):strip u=u∧u.cI=true∧∀d,u.cA d=false:=by
 have vp:∀{v u},el sh v=some u→strip u=u∧u.cI=true∧∀d,u.cA d=false:=fun {v u} h=>by
  unfold el at h;split at h<;>first
   |(cases h;exact⟨rfl,rfl,fun _=>rfl⟩)
   |(split at h<;>first|(cases h;done)|(cases h;exact⟨rfl,rfl,fun _=>rfl⟩))
   |cases h
 unfold py at h;split at h<;>first
  |(cases h;exact⟨rfl,rfl,fun _=>rfl⟩)
  |exact vp h
theorem afA{sh:Option Nat}{v u:V}(h:py sh v=some u):∀t n es,u≠.slice (some t) n es:=fun t n es e=>by
 have:=(NT h).2.2 t;rw[e]at this;simp[V.cA]at this
theorem NU{sh:Option Nat}{used ft:List Nat}{v u:V}(h:zH S sh used v=some (u,ft)):u.cI=true∧∀d,(strip u).cA d=false:=by
 unfold zH at h;split at h
 ·split at h
  ·cases h;exact⟨rfl,fun _=>rfl⟩
  ·cases h
 ·cases h;exact⟨rfl,fun _=>rfl⟩
 ·rename_i f n es
  split at h
  ·rename_i k _
   cases hc:(k==es.length && !used.contains f) with
   |true=>simp only[hc,bC]at h;cases h;exact⟨rfl,fun _=>rfl⟩
   |false=>simp only[hc,eV]at h;cases h;exact⟨rfl,fun _=>rfl⟩
  ·cases h;exact⟨rfl,fun _=>rfl⟩
 ·cases h;exact⟨rfl,fun _=>rfl⟩
 ·split at h
  ·rename_i hg
   cases h;obtain⟨h1,h2,h3⟩:=NT hg;exact⟨h2,fun d=>by rw[h1];exact h3 d⟩
  ·cases h
theorem UF{X:Cx}(hX:X.T=S.bf){sh:Option Nat}{used ft:List Nat}{v u:V}{y:Value}(h:zH S sh used v=some (u,ft))(hr:aZ X v y):JD X used u y ft:=by
 unfold zH at h;split at h
 ·split at h
  ·rename_i n
   cases h;have:=nY hr;subst this;exact⟨.plain (.nil _ _) (fun _ _ _ e=>by cases e),.inr (.inl ⟨n,rfl,.inl rfl,rfl⟩)⟩
  ·cases h
 ·rename_i n
  cases h;have hz:=ta hr;exact⟨.plain (by rcases hz with rfl | ⟨a,rfl⟩<;>first|exact .nil _ _|exact .empty _ _ a 0) (fun _ _ _ e=>by cases e),.inr (.inl ⟨n,rfl,hz,rfl⟩)⟩
 ·rename_i f n es
  have hv:fa X.h X.g.m (.slice (some f) n es) y:=by cases hr with|plain h _=>exact h
  have hx:aZ ⟨X.h,X.g,X.N,[]⟩ (.slice none n es) y:=.plain (by cases hv with
   |nil=>exact .nil _ _
   |empty _ _ a cap=>exact .empty _ _ a cap
   |slice _ _ _ b off cap zs hb en iw hc hv hp hm=>exact .slice none n es b off cap zs hb en iw hc hv hp hm) (fun _ _ _ e=>by cases e)
  split at h
  ·rename_i k hk
   cases hc:(k==es.length && !used.contains f) with
   |true =>
    simp only[hc,bC]at h;cases h;simp only[bQ,dO,tK,Me,decide_eq_false_iff_not]at hc;obtain⟨rfl,hnu⟩:=hc;have M4:xy X f n es.length y:=by
     cases hr with|plain _ ht=>exact(ht f n es rfl _ (by rw[hX];exact hk)).2 rfl
    exact⟨hx,.inr (.inr ⟨f,n,es,_,rfl,hnu,rfl,M4,by rw[hX];exact hk⟩)⟩
   |false =>
    simp only[hc,eV]at h;cases h;exact⟨hx,.inl ⟨(fun _ _ _ e=>by cases e),fun _ h=>h⟩⟩
  ·cases h
   exact⟨hx,.inl ⟨(fun _ _ _ e=>by cases e),fun _ h=>h⟩⟩
 ·rename_i n es
  cases h;have hv:fa X.h X.g.m (.slice none n es) y:=by cases hr with|plain h _=>exact h
  exact⟨.plain hv (fun _ _ _ e=>by cases e),.inl ⟨(fun _ _ _ e=>by cases e),fun _ h=>h⟩⟩
 ·split at h
  ·rename_i hg
   cases h;obtain⟨h1,h2,h3⟩:=NT hg;refine⟨by rw[h1];exact(CX hg hr).2.2.1,.inl ⟨afA hg,fun _ h=>h⟩⟩
  ·cases h
theorem JE{X:Cx}(hX:X.T=S.bf):∀{sh:Sh} {used ft:List Nat} {vs us:List V} {ys:List Value},mW S sh used vs=some (us,ft)→vs.length=ys.length →
  (∀(i:Nat) (v:V) (y:Value),vs[i]?=some v→ys[i]?=some y→aZ X v y)→ur X used us ys ft
 |[],used,ft,[],us,ys,h,hl,_=>by
  simp only[mW,Option.some.injEq,Prod.mk.injEq]at h;obtain⟨rfl,rfl⟩:=h;cases ys with
  |nil=>exact .nil _
  |cons _ _=>simp at hl
 |[],_,_,_::_,_,_,h,_,_=>by simp[mW]at h
 |_::_,_,_,[],_,_,h,_,_=>by simp[mW]at h
 |s::sh,used,ft,v::vs,us,ys,h,hl,hr=>by
  simp only[mW]at h;split at h
  ·rename_i u uu h1
   split at h
   ·rename_i m6 yd h2
    cases h;cases ys with
    |nil=>simp at hl
    |cons y ys =>
     exact .cons (UF hX h1 (hr 0 v y (by simp) (by simp))) (JE hX h2 (by simpa using hl) fun i v' y' hv hy=>hr (i+1) v' y' (by simpa using hv) (by simpa using hy))
   ·cases h
  ·cases h
theorem Dq:∀{sh:Sh} {used ft:List Nat} {vs us:List V},mW S sh used vs=some (us,ft)→∀u∈us,u.cI=true∧∀d,(strip u).cA d=false
 |[],used,ft,[],us,h=>by
  simp only[mW,Option.some.injEq,Prod.mk.injEq]at h;obtain⟨rfl,rfl⟩:=h;simp
 |[],_,_,_::_,_,h=>by simp[mW]at h
 |_::_,_,_,[],_,h=>by simp[mW]at h
 |s::sh,used,ft,v::vs,us,h=>by
  simp only[mW]at h;split at h
  ·rename_i u uu h1
   split at h
   ·rename_i m6 yd h2
    cases h;intro z hz;rcases ko.1 hz with e|e
    ·subst e;exact NU h1
    ·exact Dq h2 z e
   ·cases h
  ·cases h
theorem ur.sub{X:Cx}{used ft:List Nat}{us:List V}{ys:List Value}(h:ur X used us ys ft):∀f∈used,f∈ft:=by
 induction h with
 |nil used=>exact fun _ h=>h
 |cons h hs ih =>
  intro f hf;apply ih;rcases h.2 with⟨_,h⟩ | ⟨_,_,_,e⟩ | ⟨_,_,_,_,_,_,e,_⟩
  ·exact h f hf
  ·rw[e];exact hf
  ·rw[e];exact AW _ hf
theorem ur.NV{X:Cx}{used ft:List Nat}{us:List V}{ys:List Value}(h:ur X used us ys ft):us.length=ys.length∧∃cb:Nat→Option Nat,
  (∀(p:Nat) u y,us[p]?=some u→ys[p]?=some y→aZ ⟨X.h,X.g,X.N,[]⟩ (strip u) y∧((∀t n es,u≠.slice (some t) n es)∨(∃n,u=.slice (some 0) n []∧kX y) ∨
   ∃f n es k,u=.slice (some 0) n es∧cb p=some f∧xy X f n es.length y∧look f X.T=some k)) ∧
  (∀p q f,cb p=some f→cb q=some f→p=q)∧(∀p f,cb p=some f→f∉used):=by
 induction h with
 |nil used=>exact⟨rfl,fun _=>none,by simp,by simp,by simp⟩
 |@cons used uu yd u us y ys h hs ih =>
  obtain⟨hl,cb,h1,h2,h3⟩:=ih;obtain⟨hx,hk⟩:=h;have NW:∀f∈used,f∈uu:=by
   rcases hk with⟨_,h⟩ | ⟨_,_,_,e⟩ | ⟨_,_,_,_,_,_,e,_⟩
   ·exact h
   ·rw[e];exact fun _ h=>h
   ·rw[e];exact fun _ h=>AW _ h
  refine⟨by simp[hl],?_⟩
  rcases hk with⟨ji,_⟩ | ⟨n,e1,e2,e3⟩ | ⟨f0,n,es,k,e1,e2,e3,e4,e5⟩
  ·refine⟨fun p=>match p with|0=>none|p+1=>cb p,fun p u' y' hu hy=>?_,fun p q f hp hq=>?_,fun p f hp=>?_⟩
   ·cases p with
    |zero=>simp at hu hy;subst hu;subst hy;exact⟨hx,.inl ji⟩
    |succ p=>exact h1 p u' y' (by simpa using hu) (by simpa using hy)
   ·cases p<;>cases q<;>simp at hp hq
    rw[h2 _ _ f hp hq]
   ·cases p with
    |zero=>simp at hp
    |succ p=>exact fun hf=>h3 p f hp (NW f hf)
  ·refine⟨fun p=>match p with|0=>none|p+1=>cb p,fun p u' y' hu hy=>?_,fun p q f hp hq=>?_,fun p f hp=>?_⟩
   ·cases p with
    |zero=>simp at hu hy;subst hu;subst hy;exact⟨hx,.inr (.inl ⟨n,e1,e2⟩)⟩
    |succ p=>exact h1 p u' y' (by simpa using hu) (by simpa using hy)
   ·cases p<;>cases q<;>simp at hp hq
    rw[h2 _ _ f hp hq]
   ·cases p with
    |zero=>simp at hp
    |succ p=>exact fun hf=>h3 p f hp (NW f hf)
  ·refine⟨fun p=>match p with|0=>some f0|p+1=>cb p,fun p u' y' hu hy=>?_,fun p q f hp hq=>?_,fun p f hp=>?_⟩
   ·cases p with
    |zero=>simp at hu hy;subst hu;subst hy;exact⟨hx,.inr (.inr ⟨f0,n,es,k,e1,rfl,e4,e5⟩)⟩
    |succ p =>
     obtain⟨q1,q2⟩:=h1 p u' y' (by simpa using hu) (by simpa using hy)
     exact⟨q1,q2⟩
   ·cases p with
    |zero =>
     cases q with
     |zero=>rfl
     |succ q =>
      simp at hp hq;subst hp;exact absurd (by rw[e3];exact wC) (h3 q f0 hq)
    |succ p =>
     cases q with
     |zero =>
      simp at hp hq;subst hq;exact absurd (by rw[e3];exact wC) (h3 p f0 hp)
     |succ q=>simp at hp hq;rw[h2 _ _ f hp hq]
   ·cases p with
    |zero=>simp at hp;subst hp;exact e2
    |succ p=>exact fun hf=>h3 p f hp (NW f hf)
def uw(P:Program):List ResultVar→List rQ→Bool
 |[],[]=>true
 |.tmp t::rs,.t s _::vs=>t==s&&uw P rs vs
 |.cell a ty::rs,.c s agg sh::vs=>a==s&&qL P ty (bif agg then some sh.length else none)&&(agg || sh.length==1)&&uw P rs vs
 |_,_=>false
def F7(X:Cx)(used:List Nat)(u:V)(x:Value)(ft:List Nat):Prop :=
 (u.cI=true∧JD X used u x ft)∨∃us ys,u=.agg us∧x=.agg ys.toArray∧ur X used us ys ft∧∀z∈us,z.cI=true
theorem UG{X:Cx}{cs:List V}{xs:Array Value}(hl:cs.length=xs.size)(hx:∀(i:Nat) (v:V) (y:Value),cs[i]?=some v→xs[i]?=some y→aZ X v y) :
  cs.length=xs.toList.length∧∀(i:Nat) (v:V) (y:Value),cs[i]?=some v→xs.toList[i]?=some y→aZ X v y :=
 ⟨by simpa using hl,fun i v y hv hy=>hx i v y hv (by simpa using hy)⟩
theorem UH(hR:R E g S a w){used ft:List Nat}{rv:rQ}{u:V}(h:zI S used rv=some (u,ft)) :
  (∀s sh,rv=.t s sh→F7 (S.cx g w) used u (a.tmps.getD s undef) ft) ∧
  (∀s agg sh ty,rv=.c s agg sh→qL P ty (bif agg then some sh.length else none)=true→(agg=false→sh.length=1)→∃x,(do loadVar ty (←asAddr (a.tmps.getD s undef)):Sem Value).run P w=.ok x w∧F7 (S.cx g w) used u x ft):=by
 refine⟨fun s sh e=>?_,fun s agg sh ty e hs JF=>?_⟩
 ·subst e
  simp only[zI]at h;split at h
  ·rename_i cs hl
   split at h
   ·rename_i us yd h1
    cases h;obtain⟨x,hx,hr⟩:=hR.env s _ hl;obtain⟨xs,e,pF,F3⟩:=qb hr;subst e;obtain⟨p1,p2⟩:=UG pF F3;have hg:a.tmps.getD s undef=.agg xs:=by simp[hx]
    rw[hg];exact .inr ⟨us,xs.toList,rfl,rfl,JE rfl h1 p1 p2,fun z hz=>(Dq h1 z hz).1⟩
   ·cases h
  ·rename_i v ji hl
   split at h
   ·obtain⟨x,hx,hr⟩:=hR.env s _ hl
    have hg:a.tmps.getD s undef=x:=by simp[hx]
    rw[hg];exact .inl ⟨(NU h).1,UF rfl h hr⟩
   ·cases h
  ·cases h
 ·subst e
  simp only[zI]at h;split at h
  ·rename_i id hl
   split at h
   ·rename_i cs ff
    split at h
    ·rename_i us yd h1
     cases h;obtain⟨x,hx,hr⟩:=hR.env s _ hl;have e2:=zM hr;subst e2;have hg:a.tmps.getD s undef=.pointer (some ⟨g.κ id,0,none⟩):=by simp[hx];rfl
     have eB:∀(j:Nat) (v:V),cs[j]?=some v→∃y,cellAt w.heap (g.κ id) (0+j)=some y∧aZ (S.cx g w) v y:=fun j v hv=>by
      obtain⟨_,_,_,c,et,hh,_,hj⟩:=(hR.aW id cs ff).resolve_left (fun h=>by rw[h.1]at hv;simp at hv)
      obtain⟨_,y,hy,qf⟩:=hj j v hv;exact⟨y,by rw[kr hh,jz];exact hy,qf⟩
     have dg:=Dq h1;have hlen:∀{sh:Sh} {used ft:List Nat} {vs us:List V},mW S sh used vs=some (us,ft)→vs.length=sh.length∧us.length=sh.length:=by
      intro sh;induction sh with
      |nil=>intro used ft vs us h;cases vs<;>simp[mW]at h;obtain⟨rfl,_⟩:=h;simp
      |cons s sh ih =>
       intro used ft vs us h;cases vs with
       |nil=>simp[mW]at h
       |cons v vs =>
        simp only[mW]at h;split at h
        ·split at h
         ·rename_i h2;cases h;obtain⟨p,q⟩:=ih h2;simp[p,q]
         ·cases h
        ·cases h
     obtain⟨oh,pF⟩:=hlen h1;cases agg with
     |true =>
      have C0:loadAt (some sh.length) cs 0=some (.agg cs):=by
       have:Nat.ble (0+sh.length) cs.length=true:=Mu (by omega)
       simp only[loadAt,this,bC,tM,Option.some.injEq,V.agg.injEq];exact kG (by omega)
      obtain⟨z,hz,NX⟩:=IW (P:=P) (w:=w) (t:=ty) hs eB C0;obtain⟨xs,e,By,F3⟩:=qb NX;subst e;obtain⟨p1,p2⟩:=UG By F3;refine⟨_,?_,.inr ⟨us,xs.toList,by simp[IS],rfl,JE rfl h1 p1 p2,fun z hz=>(dg z hz).1⟩⟩
      rw[hg];simp only[Sem.run_bind,asAddr,Sem.run_pure,Result.andThen_ok];exact hz
     |false =>
      match cs,us,oh,pF with
      |[v],[u],oh,pF =>
       have C0:loadAt none [v] 0=some v:=rfl;obtain⟨z,hz,NX⟩:=IW (P:=P) (w:=w) (t:=ty) hs eB C0;have afC:=JE (X:=S.cx g w) rfl h1 (ys:=[z]) rfl (fun i v' y hv hy=>by
        cases i with
        |zero=>simp at hv hy;subst hv;subst hy;exact NX
        |succ i=>simp at hv)
       refine⟨z,?_,.inl ⟨(dg u (by simp)).1,?_⟩⟩
       ·rw[hg]
        simp only[Sem.run_bind,asAddr,Sem.run_pure,Result.andThen_ok];exact hz
       ·cases afC with
        |cons h1 h2=>cases h2;exact h1
      |[],_,oh,pF=>have:=JF rfl;simp at oh;omega
      |_::_::_,_,oh,pF=>have:=JF rfl;simp at oh;omega
      |[_],[],oh,pF=>simp at oh pF;omega
      |[_],_::_::_,oh,pF=>simp at oh pF;omega
    ·cases h
   ·cases h
  ·cases h
inductive Dt (X:Cx):List Nat→List V→List Value→Prop
 |nil (used):Dt X used [] []
 |cons {used uu u us x xs} (h:F7 X used u x uu) (hs:Dt X uu us xs):Dt X used (u::us) (x::xs)
def F8(a:Act):ResultVar→Sem Value
 |.tmp t=>pure (a.tmps.getD t undef)
 |.cell s t=>do loadVar t (←asAddr (a.tmps.getD s undef))
theorem NY(hR:R E g S a w):∀{rs:List ResultVar} {vs:List rQ} {used:List Nat} {us:List V},uw P rs vs=true→vj S used vs=some us →
  ∃xs,(rs.mapM (F8 a)).run P w=.ok xs w∧Dt (S.cx g w) used us xs
 |[],[],used,us,_,h=>by simp only[vj,Option.some.injEq]at h;subst h;exact⟨[],by simp,.nil _⟩
 |[],_::_,_,_,h,_=>by simp[uw]at h
 |.tmp _::_,[],_,_,h,_=>by simp[uw]at h
 |.cell _ _::_,[],_,_,h,_=>by simp[uw]at h
 |.tmp _::_,.c _ _ _::_,_,_,h,_=>by simp[uw]at h
 |.cell _ _::_,.t _ _::_,_,_,h,_=>by simp[uw]at h
 |.tmp t::rs,.t s sh::vs,used,us,bo,h=>by
  simp only[uw,bQ,dO]at bo;obtain⟨rfl,bo⟩:=bo;simp only[vj]at h;split at h
  ·rename_i v uu h1
   split at h
   ·rename_i CS h2
    cases h;obtain⟨xs,q1,q2⟩:=NY hR bo h2;have:=(UH (P:=P) hR h1).1 t sh rfl;refine⟨_::xs,?_,.cons this q2⟩;simp[List.mapM_cons,F8,q1]
   ·cases h
  ·cases h
 |.cell c ty::rs,.c s agg sh::vs,used,us,bo,h=>by
  simp only[uw,bQ,dO,AP]at bo;obtain⟨⟨⟨rfl,hs⟩,JF⟩,bo⟩:=bo;simp only[vj]at h;split at h
  ·rename_i v uu h1
   split at h
   ·rename_i CS h2
    cases h;obtain⟨xs,q1,q2⟩:=NY hR bo h2;obtain⟨x,r1,r2⟩:=(UH (P:=P) hR h1).2 c agg sh ty rfl hs (fun e=>JF.resolve_left (by simp[e]))
    refine⟨x::xs,?_,.cons r2 q2⟩;have r1':(F8 a (.cell c ty)).run P w=.ok x w:=r1;simp only[List.mapM_cons,Sem.run_bind,r1',Result.andThen_ok];simp[q1]
   ·cases h
  ·cases h
theorem F7.afE{X:Cx}{used ft:List Nat}{u:V}{x:Value}(h:F7 X used u x ft):JD X used u x ft:=by
 rcases h with⟨_,h⟩ | ⟨us,ys,rfl,rfl,h,hc⟩
 ·exact h
 ·obtain⟨hl,cb,h1,h2,h3⟩:=h.NV
  refine⟨.agg _ _ (by simpa using hl) (fun i v y hv hy=>?_),.inl ⟨(fun _ _ _ e=>by cases e),h.sub⟩⟩
  rw[tN]at hv;cases hu:us[i]? with
  |none=>simp[hu]at hv
  |some z =>
   simp[hu]at hv;subst hv;have:=(h1 i z y hu (by simpa using hy)).1
   have hz:=hc z (gH hu);cases z<;>first|exact this|(simp[V.cI]at hz)
theorem Dt.toList{X:Cx}{used:List Nat}{us:List V}{xs:List Value}(h:Dt X used us xs):∃ft,ur X used us xs ft:=by
 induction h with
 |nil used=>exact⟨used,.nil used⟩
 |cons h hs ih =>
  obtain⟨ft,h'⟩:=ih;exact⟨ft,.cons h.afE h'⟩
theorem afF{base:Nat}(hR:R E g S a w){r:V}{x:Value}{us:List V}{ys:List Value}{ft:List Nat}(hl:ur (S.cx g w) [] us ys ft)(UI:r.fO=us)(te:FI r x ys)(NZ:∀v∈us,∀d,(strip v).ch d=false)
  (fU:E.w0.heap.size=base) :
  ∃g',g'.m=g.m∧g'.γ=g.γ∧(∀b i,g'.ow b=.ay i↔g.ow b=.ay i)∧wS ⟨w.heap,g',S.ay.length,[]⟩ base E.own r x∧∀b p q,g'.ow b=.cell p q↔g.ow b=.cell p q:=by
 classical
 obtain⟨hlen,cb,h1,h2,_⟩:=hl.NV
 let own:Nat→Ow:=fun b=>match g.ow b with
  |.ay i=>.ay i
  |.tok f=>if h:∃p,cb p=some f then .tok h.choose else .none
  |.cell p q=>.cell p q
  |_=>.none
 let g':Gh:={ g with ow:=own }
 refine⟨g',rfl,rfl,fun b i=>?_,⟨ys,te,by rw[UI];exact hlen.symm,fun p v y hv hy=>?_⟩,fun b p q=>?_⟩
 ·show own b=_↔_
  simp only[own];split
  ·rename_i h;rw[h]
  ·rename_i f h
   rw[h];split<;>exact⟨(fun e=>by cases e),(fun e=>by cases e)⟩
  ·rename_i h;rw[h]
  ·rename_i h1 h2 h3
   exact⟨(fun e=>by cases e),fun e=>absurd e (h1 i)⟩
 ·rw[UI]at hv
  obtain⟨q1,q2⟩:=h1 p v y hv hy;have hm:=NZ v (gH hv);have le:Le ⟨w.heap,g,S.ay.length,[]⟩ ⟨w.heap,g',S.ay.length,[]⟩:=⟨bR _,fun _ _ _ _ h=>h,fun _ _=>bR _,bR _,fun _ _=>rfl⟩;refine⟨aZ.mono le q1 (fun d=>.inr (hm d)),hm,fun t n es e=>?_⟩;rcases q2 with q2 | ⟨n',e1,e2⟩ | ⟨f,n',oT,k,e1,e2,e3,e4⟩
  ·exact absurd e (q2 t n es)
  ·rw[e1]at e;cases e;exact .inl ⟨rfl,e2⟩
  ·rw[e1]at e
   cases e;rcases e3 with⟨a1,a2⟩ | ⟨b,off,cap,c,et,b1,b2,b3,b4,b5⟩
   ·exact .inl ⟨bW.1 a1,a2⟩
   ·obtain⟨c1,c2,c3⟩:=hR.bf f k b e4 b1
    refine .inr ⟨b,off,cap,c,et,b2,by rw[←fU];exact c2,?_,b3,b4,b5⟩
    show own b=_;simp only[own];rw[c1];have hex:∃p,cb p=some f:=⟨p,e2⟩;simp only[dif_pos hex];rw[h2 _ _ f hex.choose_spec e2]
 ·show own b=_↔_
  simp only[own];split
  ·rename_i h;rw[h]
  ·rename_i f h
   rw[h];split<;>exact⟨(fun e=>by cases e),(fun e=>by cases e)⟩
  ·rename_i h;rw[h]
  ·rename_i h3
   exact⟨(fun e=>by cases e),fun e=>absurd e (h3 p q)⟩
theorem afG{used ft:List Nat}{rv:rQ}{u:V}(h:zI S used rv=some (u,ft)):(u.cI=true∧∀d,(strip u).cA d=false)∨∃us,u=.agg us∧∀z∈us,z.cI=true∧∀d,(strip z).cA d=false:=by
 cases rv with
 |t s sh =>
  simp only[zI]at h;split at h
  ·split at h
   ·rename_i us yd h1;cases h;exact .inr ⟨us,rfl,Dq h1⟩
   ·cases h
  ·split at h
   ·exact .inl (NU h)
   ·cases h
  ·cases h
 |c s agg sh =>
  simp only[zI]at h;split at h
  ·split at h
   ·split at h
    ·rename_i us yd h1
     cases h;unfold IS;split
     ·rename_i v;exact .inl (Dq h1 v (by simp))
     ·exact .inr ⟨us,rfl,Dq h1⟩
    ·cases h
   ·cases h
  ·cases h
theorem JG:∀{rs:List rQ} {used:List Nat} {us:List V},vj S used rs=some us→∀u∈us,(u.cI=true∧∀d,(strip u).cA d=false)∨∃us,u=.agg us∧∀z∈us,z.cI=true∧∀d,(strip z).cA d=false
 |[],used,us,h=>by simp only[vj,Option.some.injEq]at h;subst h;simp
 |r::rs,used,us,h=>by
  simp only[vj]at h;split at h
  ·rename_i v uu h1
   split at h
   ·rename_i vs h2
    cases h;intro u hu;rcases ko.1 hu with e|e
    ·subst e;exact afG h1
    ·exact JG h2 u e
   ·cases h
  ·cases h
theorem UJ{u:V}(h:(u.cI=true∧∀d,(strip u).cA d=false)∨∃us,u=.agg us∧∀z∈us,z.cI=true∧∀d,(strip z).cA d=false)(d:Nat):(strip u).dv d=false:=by
 rcases h with⟨hc,h⟩ | ⟨us,rfl,h⟩
 ·have:=h d
  cases u<;>first|exact this|(simp[V.cI]at hc)
 ·simp only[strip,V.dv,mS,lV]
  rintro x ⟨z,hz,rfl⟩;obtain⟨hc,hm⟩:=h z hz;have:=hm d;cases z<;>first|(simpa [strip] using this)|(simp[V.cI]at hc)
theorem afH{rs:List rQ}{r:V}(h:vk S rs=some r)(d:Nat):(Aa r).ch d=false:=by
 unfold vk at h;split at h
 ·rename_i v hv
  cases h;have hc:=JG hv r (by simp)
  rcases hc with⟨iX,hm⟩ | ⟨us,rfl,hm⟩
  ·have:=s9 (hm d)
   cases r<;>first|exact this|(simp[V.cI]at iX)
  ·simp only[Aa,V.fO,tg,V.ch,V.dv,mS,lV]
   rintro x ⟨z,hz,rfl⟩;simp[(hm z hz).2 d]
 ·rename_i vs ji hv
  cases h;simp only[Aa,V.fO,tg,V.ch,mS,lV];rintro x ⟨z,hz,rfl⟩;simp[UJ (JG hv z hz) d]
 ·cases h
def N4(nt:Nat):Code→Option FuncId
 |.region _ ops false=>match ops.toList with
  |[o,q]=>match o.dst,o.op,o.guard,q.dst,q.op,q.guard with
   |some d,.move (.tmp 0),none,none,.defer ⟨.value (.func f),as,_⟩,none=>match as.toList with
    |[.tmp e]=>bif e==d&&Nat.blt d nt then some f else none
    |_=>none
   |_,_,_,_,_,_=>none
  |_=>none
 |_=>none
def Ag(nt:Nat):List FuncId→Code→Option Code
 |[],c=>some c
 |f::fs,.seq a c=>bif N4 nt a==some f then Ag nt fs c else none
 |_,_=>none
def wY(P:Program)(ps:Ps)(fn:Func)(vf:bc):Bool :=
 (match fn.body with
  |some c=>(match Ag fn.ntmps vf.defs c with|some c'=>j9 P ps fn.ntmps c' vf.body|none=>false)&&(vf.defs.isEmpty || (TD c&&fn.results.toList.isEmpty&&vf.defs.all (FJ P)))
  |none=>false)&&Nat.ble vf.nparams fn.ntmps&&uw P fn.results.toList vf.results && !(fn.name== "runtime.NumGoroutine")
theorem UK:∀{vs:List V} {i s:Nat} {v:V},look s (pA i vs)=some v→∃k,s=i+k∧vs[k]?=some v
 |[],i,s,v,h=>by simp[pA,look]at h
 |u::us,i,s,v,h=>by
  simp only[pA]at h;rw[dj]at h;split at h
  ·rename_i e;cases h;exact⟨0,by omega,by simp⟩
  ·obtain⟨k,h1,h2⟩:=UK h
   exact⟨k+1,by omega,by simpa using h2⟩
theorem UL{fn:Func}{xs:List Value}(h:(fn.results.toList.mapM (F8 a)).run P w=.ok xs w):(results fn a.tmps).run P w=.ok (if h:xs.length=1 then xs[0] else .tuple xs.toArray) w:=by
 have e:results fn a.tmps=(do
   let vs ← fn.results.mapM (F8 a)
   pure (if h:vs.size=1 then vs[0] else .tuple vs)):=by
  unfold results;congr 1
 rw[e,Array.mapM_eq_mapM_toList];simp only[Sem.run_bind,Sem.run_map,h,Result.andThen_ok,Sem.run_pure];simp
theorem aqZ{r:V}{xs:List Value}{us:List V}(oa:r=.tuple us):FI r (.tuple xs.toArray) xs:=by
 subst oa;rfl
theorem UM{T:Pk}{ps:Ps}(iP:vy P T ps)(hm:P.follows .mixedOrders=true)(hC:pN P T C){n:Nat}{fn:Func}{c:Code}{vf:bc}(h1:j9 P ps fn.ntmps c vf.body=true)
  (h3:uw P fn.results.toList vf.results=true) {args:List V} {G G':List aT} {r:V} (j0:vf.call C n args G=some (r,G')) :
  (∀d,(Aa r).ch d=false)∧∀(D:List Deferred) (w:World) (g:Gh) (a0:Act),nW T w.heap g.m→rW w.heap g G→a0.tmps.size=fn.ntmps →
   (∀(i:Nat) (v:V),args[i]?=some v→∃x,a0.tmps[i]?=some x∧aZ ⟨w.heap,g,G.length,[]⟩ v x)→a0.defers=D →
   c.wp P (fun e a' w'=>(e=.normal∨e=.ret)∧a'.defers=D∧∃v,(results fn a'.tmps).run P w'=.ok v w' ∧
    ∃x mH,Ending.returned v=.returned x∧Ext w g G.length w' mH G'.length∧rW w'.heap mH G'∧wS ⟨w'.heap,mH,G'.length,[]⟩ w.heap.size (jZ g) r x) a0 w:=by
 unfold bc.call at j0;cases hlen:args.length==vf.nparams with
 |false=>simp[hlen]at j0
 |true =>
   simp only[hlen,bC]at j0;have hlen:=eq_of_beq hlen;have key:∃ve S,VC.run C n vf.body { env:=pA 0 args,aW:=[],bf:=[],ay:=G }=some (ve,S)∧(ve=.normal∨ve=.ret)∧vk S vf.results=some r∧S.ay=G':=by
    split at j0
    ·rename_i S ah
     split at j0
     ·rename_i v hv
      cases j0;exact⟨_,S,ah,.inl rfl,hv,rfl⟩
     ·cases j0
    ·rename_i S ah
     split at j0
     ·rename_i v hv
      cases j0;exact⟨_,S,ah,.inr rfl,hv,rfl⟩
     ·cases j0
    ·cases j0
   obtain⟨ve,S,ah,Mz,kM,rfl⟩:=key;refine⟨afH kM,fun D w g a0 m9 hG ec hx hD=>?_⟩
   let E:Entry:=⟨w,g,G.length,fn.ntmps,D,T,m9,fun b i h=>(hG.z b i h).1⟩
   have hR:R E g { env:=pA 0 args,aW:=[],bf:=[],ay:=G } a0 w:=by
    refine⟨fun s v hs=>?_,fun id cs h=>by simp[look]at h,fun f k b h _=>by simp[look]at h,hG,hD,ec,?_⟩
    ·obtain⟨k,hk,hv⟩:=UK hs
     have F9:s=k:=by omega
     subst F9;exact hx s v hv
    ·exact⟨rfl,rfl,rfl,bR _,bR _,fun _ _=>rfl,fun i a b=>absurd a (by show ¬ G.length≤i;simp at b;omega),fun _ _ _ _=>⟨rfl,rfl⟩,fun _ _ _=>⟨fun _ _ _ h=>h,bR _⟩,fun b p q _ h=>⟨p,q,h⟩,fun b i h _=>⟨h,(hG.z b i h).2⟩⟩
   refine wp_mono (afz (E:=E) iP hm hC n h1 hR ah) fun e a' w' he=>?_;obtain⟨rfl,g',jj⟩:=he;have Bz:∃us,vj S [] vf.results=some us:=by
    unfold vk at kM;split at kM
    ·exact⟨_,by assumption⟩
    ·exact⟨_,by assumption⟩
    ·cases kM
   obtain⟨us,oa⟩:=Bz;obtain⟨ys,q1,q2⟩:=NY jj h3 oa;have q3:=UL q1;have dg:=JG oa;have fin:∀x,(results fn a'.tmps).run P w'=.ok x w'→(∃zs m6 ft,ur (S.cx g' w') [] m6 zs ft∧r.fO=m6∧FI r x zs∧∀v∈m6,∀d,(strip v).ch d=false) →
     a'.defers=D∧∃v,(results fn a'.tmps).run P w'=.ok v w'∧(∃x mH,Ending.returned v=.returned x∧Ext w g G.length w' mH S.ay.length∧rW w'.heap mH S.ay∧wS ⟨w'.heap,mH,S.ay.length,[]⟩ w.heap.size (jZ g) r x):=by
    rintro x hx ⟨zs,m6,ft,hl,hc,hp,NZ⟩;obtain⟨mH,e1,e2,e3,e4,e5⟩:=afF jj hl hc hp NZ (base:=w.heap.size) rfl;refine⟨jj.defers,x,hx,x,mH,rfl,?_,⟨?_,?_,fun b i h=>by rw[e1];exact jj.ay.z b i ((e3 b i).1 h)⟩,e4⟩
    ·exact⟨jj.same.os,jj.same.tape,jj.same.output,jj.same.size,jj.same.eD,fun i hi=>by rw[e2];exact jj.same.γ i hi,fun i a b=>by rw[e2];exact jj.same.γnew i a b,fun b hb ji wI=>by rw[e1];exact jj.same.kI b hb ji wI,
      fun b hb hw=>by rw[e1];exact jj.same.grow b hb hw,fun b p q hb h=>jj.same.hY b p q hb ((e5 b p q).1 h),fun b i h hb=>jj.same.lv b i ((e3 b i).1 h) hb⟩
    ·intro i o ho
     rcases jj.ay.obj i o ho with k0 | ⟨k1,k2⟩
     ·exact .inl k0
     refine .inr ⟨by rw[e2];exact(e3 _ i).2 k1,?_⟩
     cases o with
     |map es =>
      obtain⟨k3,c,e,k4,k5,k6⟩:=k2;rw[e2];refine⟨by rw[e1];exact k3,c,e,k4,k5,fun j v y hj hy=>?_⟩
      obtain⟨k7,k8,k9,k10⟩:=k6 j v y hj hy;have le:Le ⟨w'.heap,g',S.ay.length,[]⟩ ⟨w'.heap,mH,S.ay.length,[]⟩:=⟨bR _,fun _ _ _ _ h=>h,fun b _=>by rw[e1];exact bR _,bR _,fun _ _=>by rw[e2]⟩
      exact⟨k7,k8,k9.mono le fun d=>.inr (k7 d),k10.mono le fun d=>.inr (vl (k8 d))⟩
     |cells cs =>
      obtain⟨k3,c,e,k4,k5,k6⟩:=k2;rw[e2];refine⟨by rw[e1];exact k3,c,e,k4,k5,fun j v y hj hy=>?_⟩
      obtain⟨k7,k8,k9⟩:=k6 j v y hj hy;have le:Le ⟨w'.heap,g',S.ay.length,[]⟩ ⟨w'.heap,mH,S.ay.length,[]⟩:=⟨bR _,fun _ _ _ _ h=>h,fun b _=>by rw[e1];exact bR _,bR _,fun _ _=>by rw[e2]⟩
      exact⟨k7,k8,k9.mono le fun d=>.inr (k8 d)⟩
    ·intro i o ho
     have k1:=jj.ay.own i o ho;rw[e2];cases o with
     |map es=>trivial
     |cells cs =>
      intro j n es y hj hy;rcases k1 j n es y hj hy with h | ⟨q,cap,c',e',q1,q2,q3,q4,q5,q6⟩
      ·exact .inl h
      ·exact .inr ⟨q,cap,c',e',q1,(e5 _ _ _).2 q2,by rw[e1];exact q3,q4,q5,q6⟩
   have goal:a'.defers=D∧∃v,(results fn a'.tmps).run P w'=.ok v w'∧(∃x mH,Ending.returned v=.returned x∧Ext w g G.length w' mH S.ay.length∧rW w'.heap mH S.ay∧wS ⟨w'.heap,mH,S.ay.length,[]⟩ w.heap.size (jZ g) r x):=by
    refine fin _ q3 ?_;unfold vk at kM;rw[oa]at kM
    match us,ys,q2,kM,dg with
    |[u],[x],q2,kM,dg =>
     simp only[Option.some.injEq]at kM;subst kM;cases q2 with
     |cons wQ aq0 =>
      rcases wQ with⟨iX,wQ⟩ | ⟨vs,zs,rfl,rfl,hl,hc⟩
      ·refine⟨[x],[u],_,.cons wQ (.nil _),?_,?_,fun v hv d=>?_⟩
       ·cases u<;>first|rfl|(simp[V.cI]at iX)
       ·simp only[p7,dif_pos,SK]
        cases u<;>first|rfl|(simp[V.cI]at iX)
       ·simp only[oK]at hv
        subst hv;rcases dg v (by simp) with⟨_,h⟩ | ⟨vs,rfl,_⟩
        ·exact s9 (h d)
        ·simp[V.cI]at iX
      ·refine⟨zs,vs,_,hl,rfl,?_,fun v hv d=>?_⟩
       ·simp only[p7,dif_pos,SK]
        rfl
       ·rcases dg (.agg vs) (by simp) with⟨h,_⟩ | ⟨CS,e,h⟩
        ·simp[V.cI]at h
        ·cases e;exact s9 ((h v hv).2 d)
    |[],ys,q2,kM,dg =>
     cases q2;simp only[Option.some.injEq]at kM;subst kM;exact⟨[],[],[],.nil _,rfl,rfl,by simp⟩
    |u1::u2::us,ys,q2,kM,dg =>
     simp only[Option.some.injEq]at kM;subst kM;obtain⟨ft,hl⟩:=q2.toList;have UN:=hl.NV.1;refine⟨ys,_,ft,hl,rfl,?_,fun v hv d=>vl (UJ (dg v hv) d)⟩;rw[dif_neg (by simp at UN;omega)]
     rfl
    |[u],[],q2,_,_=>cases q2
    |[u],_::_::_,q2,_,_=>cases q2 with|cons _ h=>cases h
   rcases Mz with rfl|rfl
   ·exact⟨.inl rfl,goal⟩
   ·exact⟨.inr rfl,goal⟩
theorem N6{w:World}{g:Gh}{G:List aT}{args:List V}{xs:List Value}{fn:Func}(vu:args.length=xs.length)(hn:args.length≤fn.ntmps)
  (hx:∀(i:Nat) (v:V) (x:Value),args[i]?=some v→xs[i]?=some x→aZ ⟨w.heap,g,G.length,[]⟩ v x) :
  (xs.toArray++Array.replicate (fn.ntmps-xs.toArray.size) undef).size=fn.ntmps ∧
  ∀(i:Nat) (v:V),args[i]?=some v→∃x,(xs.toArray++Array.replicate (fn.ntmps-xs.toArray.size) undef)[i]?=some x∧aZ ⟨w.heap,g,G.length,[]⟩ v x:=by
 refine⟨by simp;omega,fun s v hv=>?_⟩
 have bB:s<xs.length:=by rw[←vu];exact eJ hv
 refine⟨xs[s],?_,hx s v xs[s] hv (gG bB)⟩;rw[y8 (by simpa using bB)]
 simp[bB]
theorem Gb{C:br}{vf:bc}(h:vf.defs=[]){args:List V}{o:Option (V×List aT)}:wrap C vf args o=o:=by
 unfold wrap;rcases o with _ | ⟨r,G⟩
 ·rfl
 ·simp only[h]
theorem UO{C:br}{n:Nat}{vf:bc}{args:List V}{G:List aT}{y:V×List aT}(h:vf.call C n args G=some y):args.length=vf.nparams:=by
 unfold bc.call at h;cases hlen:args.length==vf.nparams with
 |false=>simp[hlen]at h
 |true=>exact eq_of_beq hlen
theorem afJ{T:Pk}{ps:Ps}(iP:vy P T ps)(hm:P.follows .mixedOrders=true)(hC:pN P T C){n:Nat}{f:FuncId}{fn:Func}{vf:bc}(pJ:P.funcs[jb f]?=some fn)(bo:wY P ps fn vf=true)(oU:vf.defs=[]){args:List V}{G G':List aT}{r:V}
  (j0:vf.call C n args G=some (r,G')):uh P T f args G r G':=by
 simp only[wY,bQ,tK]at bo;obtain⟨⟨⟨h1,h2⟩,h3⟩,h4⟩:=bo;have h2:=iD h2;have hlen:=UO j0;cases hb:fn.body with
 |none=>rw[hb]at h1;cases h1
 |some c =>
  rw[hb]at h1;simp only[oU,Ag,bQ]at h1;obtain⟨k1,k2⟩:=UM iP hm hC h1.1 h3 j0;refine⟨⟨fn,pJ,by simp[hb],h4⟩,k1,fun w g xs m9 hG vu hx=>?_,fun _ u w g xs m9 hG vu hx=>?_⟩
  ·obtain⟨e1,e2⟩:=N6 (fn:=fn) vu (by omega) hx
   refine calls_of_wp pJ hb (wp_mono (k2 [] w g _ m9 hG e1 e2 rfl) fun e a' w' he=>?_);obtain⟨rfl|rfl,he⟩:=he
   ·exact he
   ·exact he
  ·obtain⟨e1,e2⟩:=N6 (fn:=fn) vu (by omega) hx
   refine callsD_of_wp pJ hb (wp_mono (k2 [] w g _ m9 hG e1 e2 rfl) fun e a' w' he=>?_);obtain⟨rfl|rfl,he⟩:=he
   ·exact he
   ·exact he
def Dx(x:Value)(f:FuncId):Deferred:=⟨.fn (.func f) #[],#[x]⟩
theorem UP{nt:Nat}{x0:Value}{Q:Exit→Act→World→Prop}{w:World}:∀{fs:List FuncId} {c c':Code},Ag nt fs c=some c'→∀{a:Act},a.tmps.size=nt→a.tmps[0]?=some x0 →
  (∀a':Act,a'.tmps.size=nt→a'.tmps[0]?=some x0→a'.defers=fs.reverse.map (Dx x0)++a.defers→c'.wp P Q a' w)→c.wp P Q a w
 |[],c,c',h,a,hs,h0,hK=>by
  simp only[Ag,Option.some.injEq]at h;subst h;exact hK a hs h0 (by simp)
 |f::fs,.seq d c,c',h,a,hs,h0,hK=>by
  simp only[Ag]at h;cases hd:N4 nt d==some f with
  |false=>simp[hd]at h
  |true =>
   simp only[hd,bC]at h;have fG:=eq_of_beq hd
   clear hd
   have hd:=fG
   clear fG
   unfold N4 at hd;split at hd
   ·rename_i id ops
    split at hd
    ·rename_i o q afK
     split at hd
     ·rename_i dd g as ts e1 e2 e3 e4 e5 e6
      split at hd
      ·rename_i ee has
       cases hc:ee==dd&&Nat.blt dd nt with
       |false=>simp[hc]at hd
       |true =>
        simp only[hc,bC,Option.some.injEq]at hd;subst hd;simp only[bQ,dO]at hc;obtain⟨rfl,bB⟩:=hc;have bB:ee<nt:=iD bB;have afL:as = #[.tmp ee]:=by apply mr;simpa using has
        subst afL;have afM:ops = #[o,q]:=by apply mr;simpa using afK
        subst afM;have v0:a.eval (.tmp 0)=x0:=by simp[Act.eval,h0]
        refine wp_seq ?_;refine wp_region ?_;show wpOps P #[o,q] _ [0,1] a w;rw[wpOps_cons];unfold wpOp;have w1:Region.wanted o (yielded #[o,q] a.tmps)=true:=by simp[Region.wanted,e3]
        simp only[CG,ER,w1,if_true];refine .inl ?_;have x1:(execOp a.eval o).run P w=.ok (.value x0) w:=by
         unfold execOp;rw[e2];simp[v0]
        unfold Oper.wp;rw[x1,Oper.upon_value,e1,wpOps_cons];unfold wpOp;have w2:Region.wanted q (yielded #[o,q] (a.put (some ee) x0).tmps)=true:=by simp[Region.wanted,e6]
        simp only[CG,EP,ER,w2,if_true];refine .inl ?_;have v1:(a.put (some ee) x0).eval (.tmp ee)=x0:=by simp[Act.eval,Act.put,hs,bB]
        have x2:(execOp (a.put (some ee) x0).eval q).run P w=.ok (.defer (Dx x0 g)) w:=by
         unfold execOp;rw[e5];simp only[resolve,Sem.run_bind];simp[Deferred.ofValue,Act.eval,Dx]at v1 ⊢;simp[v1]
        unfold Oper.wp;rw[x2,Oper.upon_defer,e4];simp only[wpOps];refine UP h ?_ ?_ fun a' k1 k2 k3=>hK a' k1 k2 ?_
        ·simp[Act.put,hs]
        ·simp only[Act.put,L3]
         split
         ·rename_i e;subst e;simp[hs,bB]
         ·exact h0
        ·rw[k3]
         simp[Act.put]
      ·cases hd
     ·cases hd
    ·cases hd
   ·cases hd
 |_::_,.skip,_,h,_,_,_,_=>by simp[Ag]at h
 |_::_,.region ..,_,h,_,_,_,_=>by simp[Ag]at h
theorem afN{fn:Func}(h:fn.results.toList.isEmpty=true)(tmps:Array Value)(w:World):(results fn tmps).run P w=.ok (.tuple #[]) w:=by
 have h':fn.results.toList=[]:=by simpa using h
 have:=UL (P:=P) (fn:=fn) (a:={ tmps:=tmps,defers:=[] }) (w:=w) (xs:=[]) (by rw[h'];rfl)
 simpa using this
theorem Ext.trans{w w' UQ:World}{g g' mH:Gh}{N N' UR:Nat}(h:Ext w g N w' g' N')(k:Ext w' g' N' UQ mH UR):Ext w g N UQ mH UR where
 os:=k.os.trans h.os
 tape:=k.tape.trans h.tape
 output:=k.output.trans h.output
 size:=jT h.size k.size
 eD:=jT h.eD k.eD
 γ:=fun i hi=>(k.γ i (iq hi h.eD)).trans (h.γ i hi)
 γnew:=fun i h1 h2=>by
  by_cases hi:i<N'
  ·rw[k.γ i hi];exact h.γnew i h1 hi
  ·exact jT h.size (k.γnew i (by omega) h2)
 kI:=fun b hb ji wI=>by
  obtain⟨p1,p2⟩:=h.kI b hb ji wI;obtain⟨q1,q2⟩:=k.kI b (iq hb h.size) (fun i hi e=>by
   obtain⟨k1,k2⟩:=h.lv b i e hb;exact ji i k2 k1) (fun⟨p,q,hw⟩=>wI (h.hY b p q hb hw))
  exact⟨q1.trans p1,q2.trans p2⟩
 grow:=fun b hb hw=>by
  obtain⟨p1,p2⟩:=h.grow b hb hw;have bB:=iq hb h.size;by_cases tp:jZ g' b
  ·obtain⟨q1,q2⟩:=k.grow b bB tp
   exact⟨fun o y ho hy=>q1 o y (iq ho p2) (p1 o y ho hy),jT p2 q2⟩
  ·by_cases hg:∃i,g'.ow b=.ay i
   ·obtain⟨i,e⟩:=hg
    obtain⟨p',q',hw⟩:=hw;have:=(h.lv b i e hb).1;rw[hw]at this;cases this
   ·obtain⟨q1,q2⟩:=k.kI b bB (fun i hi e=>hg ⟨i,e⟩) tp
    exact⟨fun o y ho hy=>by rw[rU q1];exact p1 o y ho hy,by rw[q2];exact p2⟩
 hY:=fun b p q hb ho=>by
  obtain⟨p',q',hw⟩:=k.hY b p q (iq hb h.size) ho;exact h.hY b p' q' hb hw
 lv:=fun b i ho hb=>h.lv b i (k.lv b i ho (iq hb h.size)).1 hb
theorem US{T:Pk}(hC:pN P T C){w0:World}{g0:Gh}(m9:nW T w0.heap g0.m)(hz:∀b i,g0.ow b=.ay i→g0.m b=0){fn:Func}(Bz:fn.results.toList.isEmpty=true){tmps:Array Value}{N0 i off:Nat}(hi:i<N0){GF:List aT} :
  ∀{l:List FuncId} {w:World} {g:Gh} {G:List aT},(∀f∈l,FJ P f=true)→pB C [.bI i off] l G=some GF→rW w.heap g G→Ext w0 g0 N0 w g G.length →
  Leaves P fn tmps (fun e w'=>∃x mH,e=.returned x∧Ext w0 g0 N0 w' mH GF.length∧rW w'.heap mH GF∧wS ⟨w'.heap,mH,GF.length,[]⟩ w0.heap.size (jZ g0) (.tuple []) x)
   (l.map (Dx (.pointer (some ⟨g0.γ i,off,none⟩)))) .returning w
 |[],w,g,G,_,hp,hG,hE=>by
  simp only[pB,Option.some.injEq]at hp;subst hp;exact⟨_,afN Bz tmps w,_,g,rfl,hE,hG,[],rfl,rfl,by simp[V.fO]⟩
 |f::l,w,g,G,hd,hp,hG,hE=>by
  simp only[pB]at hp;split at hp
  ·rename_i r G1 hc
   have qR:jb f=f:=by
    have:=hd f (by simp)
    simp only[FJ,bQ,dO]at this;exact this.1
   refine⟨by simp,.func f,#[],f,#[.pointer (some ⟨g0.γ i,off,none⟩)],rfl,?_,?_⟩
   ·obtain⟨fn1,Gd,vO,Ge⟩:=(hC f _ _ _ _ hc).fn
    rw[qR]at Gd;have afP:¬ fn1.name= "runtime.NumGoroutine":=by simpa using Ge
    simp[Dx,invoke,callFunc,Gd,afP];intro ji;simp[ji]at vO
   ·have hs:=(hC f _ _ _ _ hc).M5 (by rw[qR];exact hd f (by simp)) .returning w g [.pointer (some ⟨g0.γ i,off,none⟩)] (nW.mono (X:=⟨w0.heap,g0,N0,[]⟩) (X':=⟨w.heap,g,G.length,[]⟩) (hE.le hz) m9) hG rfl (by
     intro k v x hv hx;cases k with
     |zero =>
      simp only[ER,Option.some.injEq]at hv hx;subst hv;subst hx;rw[←hE.γ i hi];exact .bI i off (iq hi hE.eD)
     |succ k=>simp at hv)
    rw[qR]at hs;intro c cs hu;obtain⟨e,u',w',fr,⟨rfl,x,g1,rfl,h1,h2,h3⟩,k1,k2,k3⟩:=hs c cs hu;refine⟨_,_,w',fr,?_,k1,k2,k3⟩;exact US hC m9 hz Bz hi (fun f hf=>hd f (by simp[hf])) hp h2 (hE.trans h1)
  ·cases hp
theorem JJ{T:Pk}{ps:Ps}(iP:vy P T ps)(hm:P.follows .mixedOrders=true)(hC:pN P T C){n:Nat}{f:FuncId}{fn:Func}{vf:bc}(h1:P.funcs[jb f]?=some fn)(h2:wY P ps fn vf=true)
  {args:List V} {G G':List aT} {r:V} (h:vf.one C n args G=some (r,G')):uh P T f args G r G':=by
 unfold bc.one at h;cases oU:vf.defs with
 |nil =>
  rw[Gb oU]at h;exact afJ iP hm hC h1 h2 oU h
 |cons f1 fs1 =>
  simp only[wY,bQ,tK]at h2;obtain⟨⟨⟨k1,k2⟩,k3⟩,k4⟩:=h2;cases hb:fn.body with
  |none=>rw[hb]at k1;cases k1
  |some c =>
   rw[hb]at k1;simp only[bQ,AP]at k1;obtain⟨k1,k5⟩:=k1;rcases k5 with k5|k5
   ·rw[oU]at k5;cases k5
   obtain⟨⟨k5,k6⟩,k7⟩:=k5;split at k1
   ·rename_i c' afQ
    unfold wrap at h;split at h
    ·cases h
    ·rename_i r1 G1 j0
     rw[oU]at h;simp only at h;split at h
     ·rename_i i off
      split at h
      ·rename_i G2 UT
       cases h;rw[←oU]at UT;obtain⟨_,m2⟩:=UM iP hm hC k1 k3 j0;have hlen:=UO j0;refine⟨⟨fn,h1,by simp[hb],k4⟩,fun d=>by rfl,fun w g xs m9 hG vu hx=>?_,fun Dy=>?_⟩
       ·obtain⟨e1,e2⟩:=N6 (fn:=fn) vu (by have:=iD k2;omega) hx
        refine calls_of_wp_defers h1 hb ?_;obtain⟨x0,z1,z2⟩:=e2 0 (.bI i off) rfl;refine UP afQ e1 z1 fun a' q1 q2 q3=>?_;cases z2 with
        |bI _ _ hi =>
         refine wp_mono (m2 _ w g a' m9 hG q1 (fun s v hv=>?_) rfl) fun e a2 w2 he=>?_
         ·cases s with
          |zero=>simp at hv;subst hv;exact⟨_,q2,.bI i off hi⟩
          |succ s=>simp at hv
         ·obtain⟨he,fG,v,hv,x,g2,Jx,hE,FO,_⟩:=he
          have hL:=US hC m9 (fun b i h=>(hG.z b i h).1) (fn:=fn) k6 (tmps:=a2.tmps) (w0:=w) (g0:=g) (N0:=G.length) (i:=i) (off:=off) hi (l:=vf.defs.reverse) (w:=w2) (g:=g2) (fun f hf=>by
           have:=g9.1 k7 f (by simpa using hf)
           exact this) UT FO hE
          have hD:a2.defers=vf.defs.reverse.map (Dx (.pointer (some ⟨g.γ i,off,none⟩))):=by
           rw[fG,q3];simp
          rcases he with rfl|rfl
          ·show Leaves P fn a2.tmps _ a2.defers .returning w2
           rw[hD];exact hL
          ·show Leaves P fn a2.tmps _ a2.defers .returning w2
           rw[hD];exact hL
        |plain hp _=>cases hp
       ·simp[FJ,h1,hb,k5]at Dy
      ·cases h
     ·cases h
   ·cases k1
theorem afR{T:Pk}{f:FuncId}{args:List V}{G G':List aT}{r:V}{p m:Nat}(hp:args[p]?=some (.slice none m []))(h1:uh P T f (args.set p .b9) G r G')(h2:uh P T f (args.set p (.fx m)) G r G'):uh P T f args G r G':=by
 have key:∀(w:World) (g:Gh) (xs:List Value),args.length=xs.length→(∀(i:Nat) (v:V) (x:Value),args[i]?=some v→xs[i]?=some x→aZ ⟨w.heap,g,G.length,[]⟩ v x) →
   ∃u,(u=.b9∨u=.fx m)∧∀(i:Nat) (v:V) (x:Value),(args.set p u)[i]?=some v→xs[i]?=some x→aZ ⟨w.heap,g,G.length,[]⟩ v x:=fun w g xs hl hx=>by
  have bB:=eJ hp;have hr:=hx p _ xs[p] hp (gG (by omega))
  have hu:∃u,(u=.b9∨u=.fx m)∧aZ ⟨w.heap,g,G.length,[]⟩ u xs[p]:=by
   generalize xs[p]=x at hr;cases hr with
   |plain h _ =>
    cases h with
    |nil=>exact⟨.b9,.inl rfl,.plain .b9 (fun _ _ _ e=>by cases e)⟩
    |empty _ _ a cap=>exact⟨.fx m,.inr rfl,.fx m a cap⟩
    |slice _ _ _ b off cap=>exact⟨.fx m,.inr rfl,.fx m _ cap⟩
  obtain⟨u,h1,h2⟩:=hu;refine⟨u,h1,fun i v x hv lJ=>?_⟩;rw[km]at hv;split at hv
  ·rename_i e
   subst e
   first|rw[aP bB]at hv|skip
   cases hv;rw[gG (by omega)]at lJ
   cases lJ;exact h2
  ·exact hx i v x hv lJ
 refine⟨h1.fn,h1.ret,fun w g xs m9 hG hl hx=>?_,fun hd u w g xs m9 hG hl hx=>?_⟩
 ·obtain⟨u,hu,hr⟩:=key w g xs hl hx
  rcases hu with rfl|rfl
  ·exact h1.run w g xs m9 hG (by simpa using hl) hr
  ·exact h2.run w g xs m9 hG (by simpa using hl) hr
 ·obtain⟨z,hz,hr⟩:=key w g xs hl hx
  rcases hz with rfl|rfl
  ·exact h1.M5 hd u w g xs m9 hG (by simpa using hl) hr
  ·exact h2.M5 hd u w g xs m9 hG (by simpa using hl) hr
theorem UU{n:Nat}{vf:bc}{p m:Nat}{args:List V}{G:List aT}{r:V×List aT}(h:vf.both C n p m args G=some r):vf.one C n (args.set p .b9) G=some r∧vf.one C n (args.set p (.fx m)) G=some r:=by
 unfold bc.both at h;split at h
 ·rename_i e;exact⟨h,e ▸ h⟩
 ·cases h
theorem Gf{T:Pk}{ps:Ps}(iP:vy P T ps)(hm:P.follows .mixedOrders=true){F:FuncId→Option bc}(hF:∀f vf,F f=some vf→∃fn,P.funcs[jb f]?=some fn∧wY P ps fn vf=true):∀n,pN P T (call F n)
 |0=>fun f args G r G' h=>by cases h
 |n+1=>fun f args G r G' h=>by
  simp only[call]at h;split at h
  ·rename_i vf JK
   obtain⟨fn,h1,h2⟩:=hF f vf JK;unfold bc.zJ at h;split at h
   ·exact JJ iP hm (Gf iP hm hF n) h1 h2 h
   ·split at h
    ·rename_i p _ m hp
     obtain⟨h3,h4⟩:=UU h;exact afR hp (JJ iP hm (Gf iP hm hF n) h1 h2 h3) (JJ iP hm (Gf iP hm hF n) h1 h2 h4)
    ·exact JJ iP hm (Gf iP hm hF n) h1 h2 h
  ·cases h
end
end Go.Vm

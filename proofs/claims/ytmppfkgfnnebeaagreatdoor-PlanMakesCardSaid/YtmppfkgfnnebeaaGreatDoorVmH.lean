/- The value machine, 17: results, and whole calls. -/
import Derived.Test.YtmppfkgfnnebeaaGreatDoorVmG
namespace Go.Vm
set_option linter.all false
section
variable {P:Program} {E:Entry} {g g':Gh} {S S':St} {a:Act} {w w':World} {C:bD}
def Lw(X:Cx)(used:List Nat)(u:V)(y:Value)(fy:List Nat):Prop :=
 bb ⟨X.h,X.g,X.N,[]⟩ (strip u) y ∧
 ((∀t n es,u≠.slice (some t) n es)∧(∀f∈used,f∈fy)∨(∃n,u=.slice (some 0) n []∧lL y∧fy=used) ∨
   ∃f n es k,u=.slice (some 0) n es∧f∉used∧fy=f::used∧zA X f n es.length y∧look f X.T=some k)
inductive vJ (X:Cx):List Nat→List V→List Value→List Nat→Prop
 |nil (used):vJ X used [] [] used
 |cons {used vK zY u us y ys} (h:Lw X used u y vK) (hs:vJ X vK us ys zY):vJ X used (u::us) (y::ys) zY
theorem Qb{sh:Option Nat}{v u:V}(h:qj sh v=some u):strip u=u∧u.cL=true∧∀d,u.cA d=false:=by
 have wV:∀{v u},el sh v=some u→strip u=u∧u.cL=true∧∀d,u.cA d=false:=fun {v u} h=>by
  unfold el at h;split at h<;>first
   |(cases h;exact⟨rfl,rfl,fun _=>rfl⟩)
   |(split at h<;>first|(cases h;done)|(cases h;exact⟨rfl,rfl,fun _=>rfl⟩))
   |cases h
 unfold qj at h;split at h<;>first
  |(cases h;exact⟨rfl,rfl,fun _=>rfl⟩)
  |exact wV h
theorem ajW{sh:Option Nat}{v u:V}(h:qj sh v=some u):∀t n es,u≠.slice (some t) n es:=fun t n es e=>by
 have:=(Qb h).2.2 t;rw[e]at this;simp[V.cA]at this
theorem Qc{sh:Option Nat}{used fy:List Nat}{v u:V}(h:A5 S sh used v=some (u,fy)):u.cL=true∧∀d,(strip u).cA d=false:=by
 unfold A5 at h;split at h
 ·split at h
  ·cases h;exact⟨rfl,fun _=>rfl⟩
  ·cases h
 ·cases h;exact⟨rfl,fun _=>rfl⟩
 ·rename_i f n es
  split at h
  ·rename_i k _
   cases hc:(k==es.length && !used.contains f) with
   |true=>simp only[hc,bG]at h;cases h;exact⟨rfl,fun _=>rfl⟩
   |false=>simp only[hc,eD]at h;cases h;exact⟨rfl,fun _=>rfl⟩
  ·cases h;exact⟨rfl,fun _=>rfl⟩
 ·cases h;exact⟨rfl,fun _=>rfl⟩
 ·split at h
  ·rename_i hg
   cases h;obtain⟨h1,h2,h3⟩:=Qb hg;exact⟨h2,fun d=>by rw[h1];exact h3 d⟩
  ·cases h
theorem XI{X:Cx}(hX:X.T=S.bj){sh:Option Nat}{used fy:List Nat}{v u:V}{y:Value}(h:A5 S sh used v=some (u,fy))(hr:bb X v y):Lw X used u y fy:=by
 unfold A5 at h;split at h
 ·split at h
  ·rename_i n
   cases h;have:=oV hr;subst this;exact⟨.plain (.nil _ _) (fun _ _ _ e=>by cases e),.inr (.inl ⟨n,rfl,.inl rfl,rfl⟩)⟩
  ·cases h
 ·rename_i n
  cases h;have hz:=uk hr;exact⟨.plain (by rcases hz with rfl | ⟨a,rfl⟩<;>first|exact .nil _ _|exact .empty _ _ a 0) (fun _ _ _ e=>by cases e),.inr (.inl ⟨n,rfl,hz,rfl⟩)⟩
 ·rename_i f n es
  have hv:fg X.h X.g.m (.slice (some f) n es) y:=by cases hr with|plain h _=>exact h
  have hx:bb ⟨X.h,X.g,X.N,[]⟩ (.slice none n es) y:=.plain (by cases hv with
   |nil=>exact .nil _ _
   |empty _ _ a cap=>exact .empty _ _ a cap
   |slice _ _ _ b off cap zs hb eo iH hc hv hp hm=>exact .slice none n es b off cap zs hb eo iH hc hv hp hm) (fun _ _ _ e=>by cases e)
  split at h
  ·rename_i k hk
   cases hc:(k==es.length && !used.contains f) with
   |true =>
    simp only[hc,bG]at h;cases h;simp only[bS,dO,uV,Ox,decide_eq_false_iff_not]at hc;obtain⟨rfl,hnu⟩:=hc;have Pd:zA X f n es.length y:=by
     cases hr with|plain _ ht=>exact(ht f n es rfl _ (by rw[hX];exact hk)).2 rfl
    exact⟨hx,.inr (.inr ⟨f,n,es,_,rfl,hnu,rfl,Pd,by rw[hX];exact hk⟩)⟩
   |false =>
    simp only[hc,eD]at h;cases h;exact⟨hx,.inl ⟨(fun _ _ _ e=>by cases e),fun _ h=>h⟩⟩
  ·cases h
   exact⟨hx,.inl ⟨(fun _ _ _ e=>by cases e),fun _ h=>h⟩⟩
 ·rename_i n es
  cases h;have hv:fg X.h X.g.m (.slice none n es) y:=by cases hr with|plain h _=>exact h
  exact⟨.plain hv (fun _ _ _ e=>by cases e),.inl ⟨(fun _ _ _ e=>by cases e),fun _ h=>h⟩⟩
 ·split at h
  ·rename_i hg
   cases h;obtain⟨h1,h2,h3⟩:=Qb hg;refine⟨by rw[h1];exact(ED hg hr).2.2.1,.inl ⟨ajW hg,fun _ h=>h⟩⟩
  ·cases h
theorem Lx{X:Cx}(hX:X.T=S.bj):∀{sh:Sh} {used fy:List Nat} {vs us:List V} {ys:List Value},nL S sh used vs=some (us,fy)→vs.length=ys.length →
  (∀(i:Nat) (v:V) (y:Value),vs[i]?=some v→ys[i]?=some y→bb X v y)→vJ X used us ys fy
 |[],used,fy,[],us,ys,h,hl,_=>by
  simp only[nL,Option.some.injEq,Prod.mk.injEq]at h;obtain⟨rfl,rfl⟩:=h;cases ys with
  |nil=>exact .nil _
  |cons _ _=>simp at hl
 |[],_,_,_::_,_,_,h,_,_=>by simp[nL]at h
 |_::_,_,_,[],_,_,h,_,_=>by simp[nL]at h
 |s::sh,used,fy,v::vs,us,ys,h,hl,hr=>by
  simp only[nL]at h;split at h
  ·rename_i u vK h1
   split at h
   ·rename_i nP zY h2
    cases h;cases ys with
    |nil=>simp at hl
    |cons y ys =>
     exact .cons (XI hX h1 (hr 0 v y (by simp) (by simp))) (Lx hX h2 (by simpa using hl) fun i v' y' hv hy=>hr (i+1) v' y' (by simpa using hv) (by simpa using hy))
   ·cases h
  ·cases h
theorem E4:∀{sh:Sh} {used fy:List Nat} {vs us:List V},nL S sh used vs=some (us,fy)→∀u∈us,u.cL=true∧∀d,(strip u).cA d=false
 |[],used,fy,[],us,h=>by
  simp only[nL,Option.some.injEq,Prod.mk.injEq]at h;obtain⟨rfl,rfl⟩:=h;simp
 |[],_,_,_::_,_,h=>by simp[nL]at h
 |_::_,_,_,[],_,h=>by simp[nL]at h
 |s::sh,used,fy,v::vs,us,h=>by
  simp only[nL]at h;split at h
  ·rename_i u vK h1
   split at h
   ·rename_i nP zY h2
    cases h;intro z hz;rcases jB.1 hz with e|e
    ·subst e;exact Qc h1
    ·exact E4 h2 z e
   ·cases h
  ·cases h
theorem vJ.sub{X:Cx}{used fy:List Nat}{us:List V}{ys:List Value}(h:vJ X used us ys fy):∀f∈used,f∈fy:=by
 induction h with
 |nil used=>exact fun _ h=>h
 |cons h hs ih =>
  intro f hf;apply ih;rcases h.2 with⟨_,h⟩ | ⟨_,_,_,e⟩ | ⟨_,_,_,_,_,_,e,_⟩
  ·exact h f hf
  ·rw[e];exact hf
  ·rw[e];exact Cn _ hf
theorem vJ.Qd{X:Cx}{used fy:List Nat}{us:List V}{ys:List Value}(h:vJ X used us ys fy):us.length=ys.length∧∃cj:Nat→Option Nat,
  (∀(p:Nat) u y,us[p]?=some u→ys[p]?=some y→bb ⟨X.h,X.g,X.N,[]⟩ (strip u) y∧((∀t n es,u≠.slice (some t) n es)∨(∃n,u=.slice (some 0) n []∧lL y) ∨
   ∃f n es k,u=.slice (some 0) n es∧cj p=some f∧zA X f n es.length y∧look f X.T=some k)) ∧
  (∀p q f,cj p=some f→cj q=some f→p=q)∧(∀p f,cj p=some f→f∉used):=by
 induction h with
 |nil used=>exact⟨rfl,fun _=>none,by simp,by simp,by simp⟩
 |@cons used vK zY u us y ys h hs ih =>
  obtain⟨hl,cj,h1,h2,h3⟩:=ih;obtain⟨hx,hk⟩:=h;have Qe:∀f∈used,f∈vK:=by
   rcases hk with⟨_,h⟩ | ⟨_,_,_,e⟩ | ⟨_,_,_,_,_,_,e,_⟩
   ·exact h
   ·rw[e];exact fun _ h=>h
   ·rw[e];exact fun _ h=>Cn _ h
  refine⟨by simp[hl],?_⟩
  rcases hk with⟨jh,_⟩ | ⟨n,e1,e2,e3⟩ | ⟨f0,n,es,k,e1,e2,e3,e4,e5⟩
  ·refine⟨fun p=>match p with|0=>none|p+1=>cj p,fun p u' y' hu hy=>?_,fun p q f hp hq=>?_,fun p f hp=>?_⟩
   ·cases p with
    |zero=>simp at hu hy;subst hu;subst hy;exact⟨hx,.inl jh⟩
    |succ p=>exact h1 p u' y' (by simpa using hu) (by simpa using hy)
   ·cases p<;>cases q<;>simp at hp hq
    rw[h2 _ _ f hp hq]
   ·cases p with
    |zero=>simp at hp
    |succ p=>exact fun hf=>h3 p f hp (Qe f hf)
  ·refine⟨fun p=>match p with|0=>none|p+1=>cj p,fun p u' y' hu hy=>?_,fun p q f hp hq=>?_,fun p f hp=>?_⟩
   ·cases p with
    |zero=>simp at hu hy;subst hu;subst hy;exact⟨hx,.inr (.inl ⟨n,e1,e2⟩)⟩
    |succ p=>exact h1 p u' y' (by simpa using hu) (by simpa using hy)
   ·cases p<;>cases q<;>simp at hp hq
    rw[h2 _ _ f hp hq]
   ·cases p with
    |zero=>simp at hp
    |succ p=>exact fun hf=>h3 p f hp (Qe f hf)
  ·refine⟨fun p=>match p with|0=>some f0|p+1=>cj p,fun p u' y' hu hy=>?_,fun p q f hp hq=>?_,fun p f hp=>?_⟩
   ·cases p with
    |zero=>simp at hu hy;subst hu;subst hy;exact⟨hx,.inr (.inr ⟨f0,n,es,k,e1,rfl,e4,e5⟩)⟩
    |succ p =>
     obtain⟨q1,q2⟩:=h1 p u' y' (by simpa using hu) (by simpa using hy)
     exact⟨q1,q2⟩
   ·cases p with
    |zero =>
     cases q with
     |zero=>rfl
     |succ q =>
      simp at hp hq;subst hp;exact absurd (by rw[e3];exact xW) (h3 q f0 hq)
    |succ p =>
     cases q with
     |zero =>
      simp at hp hq;subst hq;exact absurd (by rw[e3];exact xW) (h3 p f0 hp)
     |succ q=>simp at hp hq;rw[h2 _ _ f hp hq]
   ·cases p with
    |zero=>simp at hp;subst hp;exact e2
    |succ p=>exact fun hf=>h3 p f hp (Qe f hf)
def vM(P:Program):List ResultVar→List tl→Bool
 |[],[]=>true
 |.tmp t::rs,.t s _::vs=>t==s&&vM P rs vs
 |.cell a ty::rs,.c s agg sh::vs=>a==s&&sx P ty (bif agg then some sh.length else none)&&(agg || sh.length==1)&&vM P rs vs
 |_,_=>false
def H3(X:Cx)(used:List Nat)(u:V)(x:Value)(fy:List Nat):Prop :=
 (u.cL=true∧Lw X used u x fy)∨∃us ys,u=.agg us∧x=.agg ys.toArray∧vJ X used us ys fy∧∀z∈us,z.cL=true
theorem XJ{X:Cx}{cs:List V}{xs:Array Value}(hl:cs.length=xs.size)(hx:∀(i:Nat) (v:V) (y:Value),cs[i]?=some v→xs[i]?=some y→bb X v y) :
  cs.length=xs.toList.length∧∀(i:Nat) (v:V) (y:Value),cs[i]?=some v→xs.toList[i]?=some y→bb X v y :=
 ⟨by simpa using hl,fun i v y hv hy=>hx i v y hv (by simpa using hy)⟩
theorem XK(hR:R E g S a w){used fy:List Nat}{rv:tl}{u:V}(h:A6 S used rv=some (u,fy)) :
  (∀s sh,rv=.t s sh→H3 (S.cx g w) used u (a.tmps.getD s undef) fy) ∧
  (∀s agg sh ty,rv=.c s agg sh→sx P ty (bif agg then some sh.length else none)=true→(agg=false→sh.length=1)→∃x,(do loadVar ty (←asAddr (a.tmps.getD s undef)):Sem Value).run P w=.ok x w∧H3 (S.cx g w) used u x fy):=by
 refine⟨fun s sh e=>?_,fun s agg sh ty e hs Ly=>?_⟩
 ·subst e
  simp only[A6]at h;split at h
  ·rename_i cs hl
   split at h
   ·rename_i us zY h1
    cases h;obtain⟨x,hx,hr⟩:=hR.env s _ hl;obtain⟨xs,e,qq,HY⟩:=qS hr;subst e;obtain⟨p1,p2⟩:=XJ qq HY;have hg:a.tmps.getD s undef=.agg xs:=by simp[hx]
    rw[hg];exact .inr ⟨us,xs.toList,rfl,rfl,Lx rfl h1 p1 p2,fun z hz=>(E4 h1 z hz).1⟩
   ·cases h
  ·rename_i v jh hl
   split at h
   ·obtain⟨x,hx,hr⟩:=hR.env s _ hl
    have hg:a.tmps.getD s undef=x:=by simp[hx]
    rw[hg];exact .inl ⟨(Qc h).1,XI rfl h hr⟩
   ·cases h
  ·cases h
 ·subst e
  simp only[A6]at h;split at h
  ·rename_i id hl
   split at h
   ·rename_i cs eO
    split at h
    ·rename_i us zY h1
     cases h;obtain⟨x,hx,hr⟩:=hR.env s _ hl;have e2:=Ba hr;subst e2;have hg:a.tmps.getD s undef=.pointer (some ⟨g.κ id,0,none⟩):=by simp[hx];rfl
     have ew:∀(j:Nat) (v:V),cs[j]?=some v→∃y,cellAt w.heap (g.κ id) (0+j)=some y∧bb (S.cx g w) v y:=fun j v hv=>by
      obtain⟨_,_,_,c,et,hh,_,hj⟩:=(hR.aW id cs eO).resolve_left (fun h=>by rw[h.1]at hv;simp at hv)
      obtain⟨_,y,hy,qY⟩:=hj j v hv;exact⟨y,by rw[kR hh,jV];exact hy,qY⟩
     have dC:=E4 h1;have hlen:∀{sh:Sh} {used fy:List Nat} {vs us:List V},nL S sh used vs=some (us,fy)→vs.length=sh.length∧us.length=sh.length:=by
      intro sh;induction sh with
      |nil=>intro used fy vs us h;cases vs<;>simp[nL]at h;obtain⟨rfl,_⟩:=h;simp
      |cons s sh ih =>
       intro used fy vs us h;cases vs with
       |nil=>simp[nL]at h
       |cons v vs =>
        simp only[nL]at h;split at h
        ·split at h
         ·rename_i h2;cases h;obtain⟨p,q⟩:=ih h2;simp[p,q]
         ·cases h
        ·cases h
     obtain⟨pe,qq⟩:=hlen h1;cases agg with
     |true =>
      have EG:loadAt (some sh.length) cs 0=some (.agg cs):=by
       have:Nat.ble (0+sh.length) cs.length=true:=OI (by omega)
       simp only[loadAt,this,bG,uY,Option.some.injEq,V.agg.injEq];exact mo (by omega)
      obtain⟨z,hz,Qf⟩:=KL (P:=P) (w:=w) (t:=ty) hs ew EG;obtain⟨xs,e,CZ,HY⟩:=qS Qf;subst e;obtain⟨p1,p2⟩:=XJ CZ HY;refine⟨_,?_,.inr ⟨us,xs.toList,by simp[KG],rfl,Lx rfl h1 p1 p2,fun z hz=>(dC z hz).1⟩⟩
      rw[hg];simp only[Sem.run_bind,asAddr,Sem.run_pure,Result.andThen_ok];exact hz
     |false =>
      match cs,us,pe,qq with
      |[v],[u],pe,qq =>
       have EG:loadAt none [v] 0=some v:=rfl;obtain⟨z,hz,Qf⟩:=KL (P:=P) (w:=w) (t:=ty) hs ew EG;have ajY:=Lx (X:=S.cx g w) rfl h1 (ys:=[z]) rfl (fun i v' y hv hy=>by
        cases i with
        |zero=>simp at hv hy;subst hv;subst hy;exact Qf
        |succ i=>simp at hv)
       refine⟨z,?_,.inl ⟨(dC u (by simp)).1,?_⟩⟩
       ·rw[hg]
        simp only[Sem.run_bind,asAddr,Sem.run_pure,Result.andThen_ok];exact hz
       ·cases ajY with
        |cons h1 h2=>cases h2;exact h1
      |[],_,pe,qq=>have:=Ly rfl;simp at pe;omega
      |_::_::_,_,pe,qq=>have:=Ly rfl;simp at pe;omega
      |[_],[],pe,qq=>simp at pe qq;omega
      |[_],_::_::_,pe,qq=>simp at pe qq;omega
    ·cases h
   ·cases h
  ·cases h
inductive E5 (X:Cx):List Nat→List V→List Value→Prop
 |nil (used):E5 X used [] []
 |cons {used vK u us x xs} (h:H3 X used u x vK) (hs:E5 X vK us xs):E5 X used (u::us) (x::xs)
def H4(a:Act):ResultVar→Sem Value
 |.tmp t=>pure (a.tmps.getD t undef)
 |.cell s t=>do loadVar t (←asAddr (a.tmps.getD s undef))
theorem Qg(hR:R E g S a w):∀{rs:List ResultVar} {vs:List tl} {used:List Nat} {us:List V},vM P rs vs=true→wR S used vs=some us →
  ∃xs,(rs.mapM (H4 a)).run P w=.ok xs w∧E5 (S.cx g w) used us xs
 |[],[],used,us,_,h=>by simp only[wR,Option.some.injEq]at h;subst h;exact⟨[],by simp,.nil _⟩
 |[],_::_,_,_,h,_=>by simp[vM]at h
 |.tmp _::_,[],_,_,h,_=>by simp[vM]at h
 |.cell _ _::_,[],_,_,h,_=>by simp[vM]at h
 |.tmp _::_,.c _ _ _::_,_,_,h,_=>by simp[vM]at h
 |.cell _ _::_,.t _ _::_,_,_,h,_=>by simp[vM]at h
 |.tmp t::rs,.t s sh::vs,used,us,bu,h=>by
  simp only[vM,bS,dO]at bu;obtain⟨rfl,bu⟩:=bu;simp only[wR]at h;split at h
  ·rename_i v vK h1
   split at h
   ·rename_i Ev h2
    cases h;obtain⟨xs,q1,q2⟩:=Qg hR bu h2;have:=(XK (P:=P) hR h1).1 t sh rfl;refine⟨_::xs,?_,.cons this q2⟩;simp[List.mapM_cons,H4,q1]
   ·cases h
  ·cases h
 |.cell c ty::rs,.c s agg sh::vs,used,us,bu,h=>by
  simp only[vM,bS,dO,Cf]at bu;obtain⟨⟨⟨rfl,hs⟩,Ly⟩,bu⟩:=bu;simp only[wR]at h;split at h
  ·rename_i v vK h1
   split at h
   ·rename_i Ev h2
    cases h;obtain⟨xs,q1,q2⟩:=Qg hR bu h2;obtain⟨x,r1,r2⟩:=(XK (P:=P) hR h1).2 c agg sh ty rfl hs (fun e=>Ly.resolve_left (by simp[e]))
    refine⟨x::xs,?_,.cons r2 q2⟩;have r1':(H4 a (.cell c ty)).run P w=.ok x w:=r1;simp only[List.mapM_cons,Sem.run_bind,r1',Result.andThen_ok];simp[q1]
   ·cases h
  ·cases h
theorem H3.aj0{X:Cx}{used fy:List Nat}{u:V}{x:Value}(h:H3 X used u x fy):Lw X used u x fy:=by
 rcases h with⟨_,h⟩ | ⟨us,ys,rfl,rfl,h,hc⟩
 ·exact h
 ·obtain⟨hl,cj,h1,h2,h3⟩:=h.Qd
  refine⟨.agg _ _ (by simpa using hl) (fun i v y hv hy=>?_),.inl ⟨(fun _ _ _ e=>by cases e),h.sub⟩⟩
  rw[u3]at hv;cases hu:us[i]? with
  |none=>simp[hu]at hv
  |some z =>
   simp[hu]at hv;subst hv;have:=(h1 i z y hu (by simpa using hy)).1
   have hz:=hc z (fW hu);cases z<;>first|exact this|(simp[V.cL]at hz)
theorem E5.toList{X:Cx}{used:List Nat}{us:List V}{xs:List Value}(h:E5 X used us xs):∃fy,vJ X used us xs fy:=by
 induction h with
 |nil used=>exact⟨used,.nil used⟩
 |cons h hs ih =>
  obtain⟨fy,h'⟩:=ih;exact⟨fy,.cons h.aj0 h'⟩
theorem aj1{base:Nat}(hR:R E g S a w){r:V}{x:Value}{us:List V}{ys:List Value}{fy:List Nat}(hl:vJ (S.cx g w) [] us ys fy)(XL:r.gf=us)(uq:HH r x ys)(Qh:∀v∈us,∀d,(strip v).cq d=false)
  (fZ:E.w0.heap.size=base) :
  ∃g',g'.m=g.m∧g'.γ=g.γ∧(∀b i,g'.ow b=.aA i↔g.ow b=.aA i)∧yC ⟨w.heap,g',S.aA.length,[]⟩ base E.own r x∧∀b p q,g'.ow b=.cell p q↔g.ow b=.cell p q:=by
 classical
 obtain⟨hlen,cj,h1,h2,_⟩:=hl.Qd
 let own:Nat→Ow:=fun b=>match g.ow b with
  |.aA i=>.aA i
  |.tok f=>if h:∃p,cj p=some f then .tok h.choose else .none
  |.cell p q=>.cell p q
  |_=>.none
 let g':Gh:={ g with ow:=own }
 refine⟨g',rfl,rfl,fun b i=>?_,⟨ys,uq,by rw[XL];exact hlen.symm,fun p v y hv hy=>?_⟩,fun b p q=>?_⟩
 ·show own b=_↔_
  simp only[own];split
  ·rename_i h;rw[h]
  ·rename_i f h
   rw[h];split<;>exact⟨(fun e=>by cases e),(fun e=>by cases e)⟩
  ·rename_i h;rw[h]
  ·rename_i h1 h2 h3
   exact⟨(fun e=>by cases e),fun e=>absurd e (h1 i)⟩
 ·rw[XL]at hv
  obtain⟨q1,q2⟩:=h1 p v y hv hy;have hm:=Qh v (fW hv);have le:Le ⟨w.heap,g,S.aA.length,[]⟩ ⟨w.heap,g',S.aA.length,[]⟩:=⟨bV _,fun _ _ _ _ h=>h,fun _ _=>bV _,bV _,fun _ _=>rfl⟩;refine⟨bb.mono le q1 (fun d=>.inr (hm d)),hm,fun t n es e=>?_⟩;rcases q2 with q2 | ⟨n',e1,e2⟩ | ⟨f,n',pS,k,e1,e2,e3,e4⟩
  ·exact absurd e (q2 t n es)
  ·rw[e1]at e;cases e;exact .inl ⟨rfl,e2⟩
  ·rw[e1]at e
   cases e;rcases e3 with⟨a1,a2⟩ | ⟨b,off,cap,c,et,b1,b2,b3,b4,b5⟩
   ·exact .inl ⟨oo.1 a1,a2⟩
   ·obtain⟨c1,c2,c3⟩:=hR.bj f k b e4 b1
    refine .inr ⟨b,off,cap,c,et,b2,by rw[←fZ];exact c2,?_,b3,b4,b5⟩
    show own b=_;simp only[own];rw[c1];have hex:∃p,cj p=some f:=⟨p,e2⟩;simp only[dif_pos hex];rw[h2 _ _ f hex.choose_spec e2]
 ·show own b=_↔_
  simp only[own];split
  ·rename_i h;rw[h]
  ·rename_i f h
   rw[h];split<;>exact⟨(fun e=>by cases e),(fun e=>by cases e)⟩
  ·rename_i h;rw[h]
  ·rename_i h3
   exact⟨(fun e=>by cases e),fun e=>absurd e (h3 p q)⟩
theorem aj2{used fy:List Nat}{rv:tl}{u:V}(h:A6 S used rv=some (u,fy)):(u.cL=true∧∀d,(strip u).cA d=false)∨∃us,u=.agg us∧∀z∈us,z.cL=true∧∀d,(strip z).cA d=false:=by
 cases rv with
 |t s sh =>
  simp only[A6]at h;split at h
  ·split at h
   ·rename_i us zY h1;cases h;exact .inr ⟨us,rfl,E4 h1⟩
   ·cases h
  ·split at h
   ·exact .inl (Qc h)
   ·cases h
  ·cases h
 |c s agg sh =>
  simp only[A6]at h;split at h
  ·split at h
   ·split at h
    ·rename_i us zY h1
     cases h;unfold KG;split
     ·rename_i v;exact .inl (E4 h1 v (by simp))
     ·exact .inr ⟨us,rfl,E4 h1⟩
    ·cases h
   ·cases h
  ·cases h
theorem Lz:∀{rs:List tl} {used:List Nat} {us:List V},wR S used rs=some us→∀u∈us,(u.cL=true∧∀d,(strip u).cA d=false)∨∃us,u=.agg us∧∀z∈us,z.cL=true∧∀d,(strip z).cA d=false
 |[],used,us,h=>by simp only[wR,Option.some.injEq]at h;subst h;simp
 |r::rs,used,us,h=>by
  simp only[wR]at h;split at h
  ·rename_i v vK h1
   split at h
   ·rename_i vs h2
    cases h;intro u hu;rcases jB.1 hu with e|e
    ·subst e;exact aj2 h1
    ·exact Lz h2 u e
   ·cases h
  ·cases h
theorem XM{u:V}(h:(u.cL=true∧∀d,(strip u).cA d=false)∨∃us,u=.agg us∧∀z∈us,z.cL=true∧∀d,(strip z).cA d=false)(d:Nat):(strip u).dF d=false:=by
 rcases h with⟨hc,h⟩ | ⟨us,rfl,h⟩
 ·have:=h d
  cases u<;>first|exact this|(simp[V.cL]at hc)
 ·simp only[strip,V.dF,nF,kP]
  rintro x ⟨z,hz,rfl⟩;obtain⟨hc,hm⟩:=h z hz;have:=hm d;cases z<;>first|(simpa [strip] using this)|(simp[V.cL]at hc)
theorem aj3{rs:List tl}{r:V}(h:wS S rs=some r)(d:Nat):(Bt r).cq d=false:=by
 unfold wS at h;split at h
 ·rename_i v hv
  cases h;have hc:=Lz hv r (by simp)
  rcases hc with⟨jw,hm⟩ | ⟨us,rfl,hm⟩
  ·have:=uj (hm d)
   cases r<;>first|exact this|(simp[V.cL]at jw)
  ·simp only[Bt,V.gf,uu,V.cq,V.dF,nF,kP]
   rintro x ⟨z,hz,rfl⟩;simp[(hm z hz).2 d]
 ·rename_i vs jh hv
  cases h;simp only[Bt,V.gf,uu,V.cq,nF,kP];rintro x ⟨z,hz,rfl⟩;simp[XM (Lz hv z hz) d]
 ·cases h
def Qj(nt:Nat):Code→Option FuncId
 |.region _ ops false=>match ops.toList with
  |[o,q]=>match o.dst,o.op,o.guard,q.dst,q.op,q.guard with
   |some d,.move (.tmp 0),none,none,.defer ⟨.value (.func f),as,_⟩,none=>match as.toList with
    |[.tmp e]=>bif e==d&&Nat.blt d nt then some f else none
    |_=>none
   |_,_,_,_,_,_=>none
  |_=>none
 |_=>none
def BA(nt:Nat):List FuncId→Code→Option Code
 |[],c=>some c
 |f::fs,.seq a c=>bif Qj nt a==some f then BA nt fs c else none
 |_,_=>none
def xj(P:Program)(ps:Ps)(fn:Func)(vf:ba):Bool :=
 (match fn.body with
  |some c=>(match BA fn.ntmps vf.defs c with|some c'=>kE P ps fn.ntmps c' vf.body|none=>false)&&(vf.defs.isEmpty || (WM c&&fn.results.toList.isEmpty&&vf.defs.all (HI P)))
  |none=>false)&&Nat.ble vf.nparams fn.ntmps&&vM P fn.results.toList vf.results && !(fn.name== "runtime.NumGoroutine")
theorem XN:∀{vs:List V} {i s:Nat} {v:V},look s (ql i vs)=some v→∃k,s=i+k∧vs[k]?=some v
 |[],i,s,v,h=>by simp[ql,look]at h
 |u::us,i,s,v,h=>by
  simp only[ql]at h;rw[dz]at h;split at h
  ·rename_i e;cases h;exact⟨0,by omega,by simp⟩
  ·obtain⟨k,h1,h2⟩:=XN h
   exact⟨k+1,by omega,by simpa using h2⟩
theorem XO{fn:Func}{xs:List Value}(h:(fn.results.toList.mapM (H4 a)).run P w=.ok xs w):(results fn a.tmps).run P w=.ok (if h:xs.length=1 then xs[0] else .tuple xs.toArray) w:=by
 have e:results fn a.tmps=(do
   let vs ← fn.results.mapM (H4 a)
   pure (if h:vs.size=1 then vs[0] else .tuple vs)):=by
  unfold results;congr 1
 rw[e,Array.mapM_eq_mapM_toList];simp only[Sem.run_bind,Sem.run_map,h,Result.andThen_ok,Sem.run_pure];simp
theorem awT{r:V}{xs:List Value}{us:List V}(oX:r=.tuple us):HH r (.tuple xs.toArray) xs:=by
 subst oX;rfl
theorem XP{T:Pk}{ps:Ps}(jj:w8 P T ps)(hm:P.follows .mixedOrders=true)(hC:qA P T C){n:Nat}{fn:Func}{c:Code}{vf:ba}(h1:kE P ps fn.ntmps c vf.body=true)
  (h3:vM P fn.results.toList vf.results=true) {args:List V} {G G':List aS} {r:V} (kD:vf.call C n args G=some (r,G')) :
  (∀d,(Bt r).cq d=false)∧∀(D:List Deferred) (w:World) (g:Gh) (a0:Act),oU T w.heap g.m→tp w.heap g G→a0.tmps.size=fn.ntmps →
   (∀(i:Nat) (v:V),args[i]?=some v→∃x,a0.tmps[i]?=some x∧bb ⟨w.heap,g,G.length,[]⟩ v x)→a0.defers=D →
   c.wp P (fun e a' w'=>(e=.normal∨e=.ret)∧a'.defers=D∧∃v,(results fn a'.tmps).run P w'=.ok v w' ∧
    ∃x nm,Ending.returned v=.returned x∧Ext w g G.length w' nm G'.length∧tp w'.heap nm G'∧yC ⟨w'.heap,nm,G'.length,[]⟩ w.heap.size (kC g) r x) a0 w:=by
 unfold ba.call at kD;cases hlen:args.length==vf.nparams with
 |false=>simp[hlen]at kD
 |true =>
   simp only[hlen,bG]at kD;have hlen:=eq_of_beq hlen;have key:∃ve S,VC.run C n vf.body { env:=ql 0 args,aW:=[],bj:=[],aA:=G }=some (ve,S)∧(ve=.normal∨ve=.ret)∧wS S vf.results=some r∧S.aA=G':=by
    split at kD
    ·rename_i S hrun
     split at kD
     ·rename_i v hv
      cases kD;exact⟨_,S,hrun,.inl rfl,hv,rfl⟩
     ·cases kD
    ·rename_i S hrun
     split at kD
     ·rename_i v hv
      cases kD;exact⟨_,S,hrun,.inr rfl,hv,rfl⟩
     ·cases kD
    ·cases kD
   obtain⟨ve,S,hrun,OL,lx,rfl⟩:=key;refine⟨aj3 lx,fun D w g a0 nS hG eg hx hD=>?_⟩
   let E:Entry:=⟨w,g,G.length,fn.ntmps,D,T,nS,fun b i h=>(hG.z b i h).1⟩
   have hR:R E g { env:=ql 0 args,aW:=[],bj:=[],aA:=G } a0 w:=by
    refine⟨fun s v hs=>?_,fun id cs h=>by simp[look]at h,fun f k b h _=>by simp[look]at h,hG,hD,eg,?_⟩
    ·obtain⟨k,hk,hv⟩:=XN hs
     have H5:s=k:=by omega
     subst H5;exact hx s v hv
    ·exact⟨rfl,rfl,rfl,bV _,bV _,fun _ _=>rfl,fun i a b=>absurd a (by show ¬ G.length≤i;simp at b;omega),fun _ _ _ _=>⟨rfl,rfl⟩,fun _ _ _=>⟨fun _ _ _ h=>h,bV _⟩,fun b p q _ h=>⟨p,q,h⟩,fun b i h _=>⟨h,(hG.z b i h).2⟩⟩
   refine wp_mono (ajV (E:=E) jj hm hC n h1 hR hrun) fun e a' w' he=>?_;obtain⟨rfl,g',jG⟩:=he;have C0:∃us,wR S [] vf.results=some us:=by
    unfold wS at lx;split at lx
    ·exact⟨_,by assumption⟩
    ·exact⟨_,by assumption⟩
    ·cases lx
   obtain⟨us,oX⟩:=C0;obtain⟨ys,q1,q2⟩:=Qg jG h3 oX;have q3:=XO q1;have dC:=Lz oX;have fin:∀x,(results fn a'.tmps).run P w'=.ok x w'→(∃zs nP fy,vJ (S.cx g' w') [] nP zs fy∧r.gf=nP∧HH r x zs∧∀v∈nP,∀d,(strip v).cq d=false) →
     a'.defers=D∧∃v,(results fn a'.tmps).run P w'=.ok v w'∧(∃x nm,Ending.returned v=.returned x∧Ext w g G.length w' nm S.aA.length∧tp w'.heap nm S.aA∧yC ⟨w'.heap,nm,S.aA.length,[]⟩ w.heap.size (kC g) r x):=by
    rintro x hx ⟨zs,nP,fy,hl,hc,hp,Qh⟩;obtain⟨nm,e1,e2,e3,e4,e5⟩:=aj1 jG hl hc hp Qh (base:=w.heap.size) rfl;refine⟨jG.defers,x,hx,x,nm,rfl,?_,⟨?_,?_,fun b i h=>by rw[e1];exact jG.aA.z b i ((e3 b i).1 h)⟩,e4⟩
    ·exact⟨jG.same.os,jG.same.tape,jG.same.output,jG.same.size,jG.same.eK,fun i hi=>by rw[e2];exact jG.same.γ i hi,fun i a b=>by rw[e2];exact jG.same.γnew i a b,fun b hb jh yh=>by rw[e1];exact jG.same.kA b hb jh yh,
      fun b hb hw=>by rw[e1];exact jG.same.grow b hb hw,fun b p q hb h=>jG.same.iq b p q hb ((e5 b p q).1 h),fun b i h hb=>jG.same.lv b i ((e3 b i).1 h) hb⟩
    ·intro i o ho
     rcases jG.aA.obj i o ho with k0 | ⟨k1,k2⟩
     ·exact .inl k0
     refine .inr ⟨by rw[e2];exact(e3 _ i).2 k1,?_⟩
     cases o with
     |map es =>
      obtain⟨k3,c,e,k4,k5,k6⟩:=k2;rw[e2];refine⟨by rw[e1];exact k3,c,e,k4,k5,fun j v y hj hy=>?_⟩
      obtain⟨k7,k8,k9,k10⟩:=k6 j v y hj hy;have le:Le ⟨w'.heap,g',S.aA.length,[]⟩ ⟨w'.heap,nm,S.aA.length,[]⟩:=⟨bV _,fun _ _ _ _ h=>h,fun b _=>by rw[e1];exact bV _,bV _,fun _ _=>by rw[e2]⟩
      exact⟨k7,k8,k9.mono le fun d=>.inr (k7 d),k10.mono le fun d=>.inr (wT (k8 d))⟩
     |cells cs =>
      obtain⟨k3,c,e,k4,k5,k6⟩:=k2;rw[e2];refine⟨by rw[e1];exact k3,c,e,k4,k5,fun j v y hj hy=>?_⟩
      obtain⟨k7,k8,k9⟩:=k6 j v y hj hy;have le:Le ⟨w'.heap,g',S.aA.length,[]⟩ ⟨w'.heap,nm,S.aA.length,[]⟩:=⟨bV _,fun _ _ _ _ h=>h,fun b _=>by rw[e1];exact bV _,bV _,fun _ _=>by rw[e2]⟩
      exact⟨k7,k8,k9.mono le fun d=>.inr (k8 d)⟩
    ·intro i o ho
     have k1:=jG.aA.own i o ho;rw[e2];cases o with
     |map es=>trivial
     |cells cs =>
      intro j n es y hj hy;rcases k1 j n es y hj hy with h | ⟨q,cap,c',e',q1,q2,q3,q4,q5,q6⟩
      ·exact .inl h
      ·exact .inr ⟨q,cap,c',e',q1,(e5 _ _ _).2 q2,by rw[e1];exact q3,q4,q5,q6⟩
   have goal:a'.defers=D∧∃v,(results fn a'.tmps).run P w'=.ok v w'∧(∃x nm,Ending.returned v=.returned x∧Ext w g G.length w' nm S.aA.length∧tp w'.heap nm S.aA∧yC ⟨w'.heap,nm,S.aA.length,[]⟩ w.heap.size (kC g) r x):=by
    refine fin _ q3 ?_;unfold wS at lx;rw[oX]at lx
    match us,ys,q2,lx,dC with
    |[u],[x],q2,lx,dC =>
     simp only[Option.some.injEq]at lx;subst lx;cases q2 with
     |cons yA awU =>
      rcases yA with⟨jw,yA⟩ | ⟨vs,zs,rfl,rfl,hl,hc⟩
      ·refine⟨[x],[u],_,.cons yA (.nil _),?_,?_,fun v hv d=>?_⟩
       ·cases u<;>first|rfl|(simp[V.cL]at jw)
       ·simp only[qh,dif_pos,VX]
        cases u<;>first|rfl|(simp[V.cL]at jw)
       ·simp only[ou]at hv
        subst hv;rcases dC v (by simp) with⟨_,h⟩ | ⟨vs,rfl,_⟩
        ·exact uj (h d)
        ·simp[V.cL]at jw
      ·refine⟨zs,vs,_,hl,rfl,?_,fun v hv d=>?_⟩
       ·simp only[qh,dif_pos,VX]
        rfl
       ·rcases dC (.agg vs) (by simp) with⟨h,_⟩ | ⟨Ev,e,h⟩
        ·simp[V.cL]at h
        ·cases e;exact uj ((h v hv).2 d)
    |[],ys,q2,lx,dC =>
     cases q2;simp only[Option.some.injEq]at lx;subst lx;exact⟨[],[],[],.nil _,rfl,rfl,by simp⟩
    |u1::u2::us,ys,q2,lx,dC =>
     simp only[Option.some.injEq]at lx;subst lx;obtain⟨fy,hl⟩:=q2.toList;have Qm:=hl.Qd.1;refine⟨ys,_,fy,hl,rfl,?_,fun v hv d=>wT (XM (dC v hv) d)⟩;rw[dif_neg (by simp at Qm;omega)]
     rfl
    |[u],[],q2,_,_=>cases q2
    |[u],_::_::_,q2,_,_=>cases q2 with|cons _ h=>cases h
   rcases OL with rfl|rfl
   ·exact⟨.inl rfl,goal⟩
   ·exact⟨.inr rfl,goal⟩
theorem Qn{w:World}{g:Gh}{G:List aS}{args:List V}{xs:List Value}{fn:Func}(wZ:args.length=xs.length)(hn:args.length≤fn.ntmps)
  (hx:∀(i:Nat) (v:V) (x:Value),args[i]?=some v→xs[i]?=some x→bb ⟨w.heap,g,G.length,[]⟩ v x) :
  (xs.toArray++Array.replicate (fn.ntmps-xs.toArray.size) undef).size=fn.ntmps ∧
  ∀(i:Nat) (v:V),args[i]?=some v→∃x,(xs.toArray++Array.replicate (fn.ntmps-xs.toArray.size) undef)[i]?=some x∧bb ⟨w.heap,g,G.length,[]⟩ v x:=by
 refine⟨by simp;omega,fun s v hv=>?_⟩
 have bE:s<xs.length:=by rw[←wZ];exact eQ hv
 refine⟨xs[s],?_,hx s v xs[s] hv (fN bE)⟩;rw[AT (by simpa using bE)]
 simp[bE]
theorem H6{C:bD}{vf:ba}(h:vf.defs=[]){args:List V}{o:Option (V×List aS)}:wrap C vf args o=o:=by
 unfold wrap;rcases o with _ | ⟨r,G⟩
 ·rfl
 ·simp only[h]
theorem XQ{C:bD}{n:Nat}{vf:ba}{args:List V}{G:List aS}{y:V×List aS}(h:vf.call C n args G=some y):args.length=vf.nparams:=by
 unfold ba.call at h;cases hlen:args.length==vf.nparams with
 |false=>simp[hlen]at h
 |true=>exact eq_of_beq hlen
theorem aj5{T:Pk}{ps:Ps}(jj:w8 P T ps)(hm:P.follows .mixedOrders=true)(hC:qA P T C){n:Nat}{f:FuncId}{fn:Func}{vf:ba}(qw:P.funcs[jq f]?=some fn)(bu:xj P ps fn vf=true)(pV:vf.defs=[]){args:List V}{G G':List aS}{r:V}
  (kD:vf.call C n args G=some (r,G')):vw P T f args G r G':=by
 simp only[xj,bS,uV]at bu;obtain⟨⟨⟨h1,h2⟩,h3⟩,h4⟩:=bu;have h2:=il h2;have hlen:=XQ kD;cases hb:fn.body with
 |none=>rw[hb]at h1;cases h1
 |some c =>
  rw[hb]at h1;simp only[pV,BA,bS]at h1;obtain⟨k1,k2⟩:=XP jj hm hC h1.1 h3 kD;refine⟨⟨fn,qw,by simp[hb],h4⟩,k1,fun w g xs nS hG wZ hx=>?_,fun _ u w g xs nS hG wZ hx=>?_⟩
  ·obtain⟨e1,e2⟩:=Qn (fn:=fn) wZ (by omega) hx
   refine calls_of_wp qw hb (wp_mono (k2 [] w g _ nS hG e1 e2 rfl) fun e a' w' he=>?_);obtain⟨rfl|rfl,he⟩:=he
   ·exact he
   ·exact he
  ·obtain⟨e1,e2⟩:=Qn (fn:=fn) wZ (by omega) hx
   refine callsD_of_wp qw hb (wp_mono (k2 [] w g _ nS hG e1 e2 rfl) fun e a' w' he=>?_);obtain⟨rfl|rfl,he⟩:=he
   ·exact he
   ·exact he
def E7(x:Value)(f:FuncId):Deferred:=⟨.fn (.func f) #[],#[x]⟩
theorem XR{nt:Nat}{x0:Value}{Q:Exit→Act→World→Prop}{w:World}:∀{fs:List FuncId} {c c':Code},BA nt fs c=some c'→∀{a:Act},a.tmps.size=nt→a.tmps[0]?=some x0 →
  (∀a':Act,a'.tmps.size=nt→a'.tmps[0]?=some x0→a'.defers=fs.reverse.map (E7 x0)++a.defers→c'.wp P Q a' w)→c.wp P Q a w
 |[],c,c',h,a,hs,h0,hK=>by
  simp only[BA,Option.some.injEq]at h;subst h;exact hK a hs h0 (by simp)
 |f::fs,.seq d c,c',h,a,hs,h0,hK=>by
  simp only[BA]at h;cases hd:Qj nt d==some f with
  |false=>simp[hd]at h
  |true =>
   simp only[hd,bG]at h;have eZ:=eq_of_beq hd
   clear hd
   have hd:=eZ
   clear eZ
   unfold Qj at hd;split at hd
   ·rename_i id ops
    split at hd
    ·rename_i o q aj6
     split at hd
     ·rename_i dd g as ts e1 e2 e3 e4 e5 e6
      split at hd
      ·rename_i ee has
       cases hc:ee==dd&&Nat.blt dd nt with
       |false=>simp[hc]at hd
       |true =>
        simp only[hc,bG,Option.some.injEq]at hd;subst hd;simp only[bS,dO]at hc;obtain⟨rfl,bE⟩:=hc;have bE:ee<nt:=il bE;have aj7:as = #[.tmp ee]:=by apply m8;simpa using has
        subst aj7;have aj8:ops = #[o,q]:=by apply m8;simpa using aj6
        subst aj8;have v0:a.eval (.tmp 0)=x0:=by simp[Act.eval,h0]
        refine wp_seq ?_;refine wp_region ?_;show wpOps P #[o,q] _ [0,1] a w;rw[wpOps_cons];unfold wpOp;have w1:Region.wanted o (yielded #[o,q] a.tmps)=true:=by simp[Region.wanted,e3]
        simp only[Ed,GR,w1,if_true];refine .inl ?_;have x1:(execOp a.eval o).run P w=.ok (.value x0) w:=by
         unfold execOp;rw[e2];simp[v0]
        unfold Oper.wp;rw[x1,Oper.upon_value,e1,wpOps_cons];unfold wpOp;have w2:Region.wanted q (yielded #[o,q] (a.put (some ee) x0).tmps)=true:=by simp[Region.wanted,e6]
        simp only[Ed,xV,GR,w2,if_true];refine .inl ?_;have v1:(a.put (some ee) x0).eval (.tmp ee)=x0:=by simp[Act.eval,Act.put,hs,bE]
        have x2:(execOp (a.put (some ee) x0).eval q).run P w=.ok (.defer (E7 x0 g)) w:=by
         unfold execOp;rw[e5];simp only[resolve,Sem.run_bind];simp[Deferred.ofValue,Act.eval,E7]at v1 ⊢;simp[v1]
        unfold Oper.wp;rw[x2,Oper.upon_defer,e4];simp only[wpOps];refine XR h ?_ ?_ fun a' k1 k2 k3=>hK a' k1 k2 ?_
        ·simp[Act.put,hs]
        ·simp only[Act.put,Oe]
         split
         ·rename_i e;subst e;simp[hs,bE]
         ·exact h0
        ·rw[k3]
         simp[Act.put]
      ·cases hd
     ·cases hd
    ·cases hd
   ·cases hd
 |_::_,.skip,_,h,_,_,_,_=>by simp[BA]at h
 |_::_,.region ..,_,h,_,_,_,_=>by simp[BA]at h
theorem aj9{fn:Func}(h:fn.results.toList.isEmpty=true)(tmps:Array Value)(w:World):(results fn tmps).run P w=.ok (.tuple #[]) w:=by
 have h':fn.results.toList=[]:=by simpa using h
 have:=XO (P:=P) (fn:=fn) (a:={ tmps:=tmps,defers:=[] }) (w:=w) (xs:=[]) (by rw[h'];rfl)
 simpa using this
theorem Ext.trans{w w' XS:World}{g g' nm:Gh}{N N' XT:Nat}(h:Ext w g N w' g' N')(k:Ext w' g' N' XS nm XT):Ext w g N XS nm XT where
 os:=k.os.trans h.os
 tape:=k.tape.trans h.tape
 output:=k.output.trans h.output
 size:=iQ h.size k.size
 eK:=iQ h.eK k.eK
 γ:=fun i hi=>(k.γ i (iC hi h.eK)).trans (h.γ i hi)
 γnew:=fun i h1 h2=>by
  by_cases hi:i<N'
  ·rw[k.γ i hi];exact h.γnew i h1 hi
  ·exact iQ h.size (k.γnew i (by omega) h2)
 kA:=fun b hb jh yh=>by
  obtain⟨p1,p2⟩:=h.kA b hb jh yh;obtain⟨q1,q2⟩:=k.kA b (iC hb h.size) (fun i hi e=>by
   obtain⟨k1,k2⟩:=h.lv b i e hb;exact jh i k2 k1) (fun⟨p,q,hw⟩=>yh (h.iq b p q hb hw))
  exact⟨q1.trans p1,q2.trans p2⟩
 grow:=fun b hb hw=>by
  obtain⟨p1,p2⟩:=h.grow b hb hw;have bE:=iC hb h.size;by_cases uC:kC g' b
  ·obtain⟨q1,q2⟩:=k.grow b bE uC
   exact⟨fun o y ho hy=>q1 o y (iC ho p2) (p1 o y ho hy),iQ p2 q2⟩
  ·by_cases hg:∃i,g'.ow b=.aA i
   ·obtain⟨i,e⟩:=hg
    obtain⟨p',q',hw⟩:=hw;have:=(h.lv b i e hb).1;rw[hw]at this;cases this
   ·obtain⟨q1,q2⟩:=k.kA b bE (fun i hi e=>hg ⟨i,e⟩) uC
    exact⟨fun o y ho hy=>by rw[tn q1];exact p1 o y ho hy,by rw[q2];exact p2⟩
 iq:=fun b p q hb ho=>by
  obtain⟨p',q',hw⟩:=k.iq b p q (iC hb h.size) ho;exact h.iq b p' q' hb hw
 lv:=fun b i ho hb=>h.lv b i (k.lv b i ho (iC hb h.size)).1 hb
theorem XU{T:Pk}(hC:qA P T C){w0:World}{g0:Gh}(nS:oU T w0.heap g0.m)(hz:∀b i,g0.ow b=.aA i→g0.m b=0){fn:Func}(C0:fn.results.toList.isEmpty=true){tmps:Array Value}{N0 i off:Nat}(hi:i<N0){GF:List aS} :
  ∀{l:List FuncId} {w:World} {g:Gh} {G:List aS},(∀f∈l,HI P f=true)→qm C [.bm i off] l G=some GF→tp w.heap g G→Ext w0 g0 N0 w g G.length →
  Leaves P fn tmps (fun e w'=>∃x nm,e=.returned x∧Ext w0 g0 N0 w' nm GF.length∧tp w'.heap nm GF∧yC ⟨w'.heap,nm,GF.length,[]⟩ w0.heap.size (kC g0) (.tuple []) x)
   (l.map (E7 (.pointer (some ⟨g0.γ i,off,none⟩)))) .returning w
 |[],w,g,G,_,hp,hG,hE=>by
  simp only[qm,Option.some.injEq]at hp;subst hp;exact⟨_,aj9 C0 tmps w,_,g,rfl,hE,hG,[],rfl,rfl,by simp[V.gf]⟩
 |f::l,w,g,G,hd,hp,hG,hE=>by
  simp only[qm]at hp;split at hp
  ·rename_i r G1 hc
   have sE:jq f=f:=by
    have:=hd f (by simp)
    simp only[HI,bS,dO]at this;exact this.1
   refine⟨by simp,.func f,#[],f,#[.pointer (some ⟨g0.γ i,off,none⟩)],rfl,?_,?_⟩
   ·obtain⟨fn1,H8,xk,H9⟩:=(hC f _ _ _ _ hc).fn
    rw[sE]at H8;have akb:¬ fn1.name= "runtime.NumGoroutine":=by simpa using H9
    simp[E7,invoke,callFunc,H8,akb];intro jh;simp[jh]at xk
   ·have hs:=(hC f _ _ _ _ hc).Pf (by rw[sE];exact hd f (by simp)) .returning w g [.pointer (some ⟨g0.γ i,off,none⟩)] (oU.mono (X:=⟨w0.heap,g0,N0,[]⟩) (X':=⟨w.heap,g,G.length,[]⟩) (hE.le hz) nS) hG rfl (by
     intro k v x hv hx;cases k with
     |zero =>
      simp only[GR,Option.some.injEq]at hv hx;subst hv;subst hx;rw[←hE.γ i hi];exact .bm i off (iC hi hE.eK)
     |succ k=>simp at hv)
    rw[sE]at hs;intro c cs hu;obtain⟨e,u',w',fr,⟨rfl,x,g1,rfl,h1,h2,h3⟩,k1,k2,k3⟩:=hs c cs hu;refine⟨_,_,w',fr,?_,k1,k2,k3⟩;exact XU hC nS hz C0 hi (fun f hf=>hd f (by simp[hf])) hp h2 (hE.trans h1)
  ·cases hp
theorem LB{T:Pk}{ps:Ps}(jj:w8 P T ps)(hm:P.follows .mixedOrders=true)(hC:qA P T C){n:Nat}{f:FuncId}{fn:Func}{vf:ba}(h1:P.funcs[jq f]?=some fn)(h2:xj P ps fn vf=true)
  {args:List V} {G G':List aS} {r:V} (h:vf.one C n args G=some (r,G')):vw P T f args G r G':=by
 unfold ba.one at h;cases pV:vf.defs with
 |nil =>
  rw[H6 pV]at h;exact aj5 jj hm hC h1 h2 pV h
 |cons f1 fs1 =>
  simp only[xj,bS,uV]at h2;obtain⟨⟨⟨k1,k2⟩,k3⟩,k4⟩:=h2;cases hb:fn.body with
  |none=>rw[hb]at k1;cases k1
  |some c =>
   rw[hb]at k1;simp only[bS,Cf]at k1;obtain⟨k1,k5⟩:=k1;rcases k5 with k5|k5
   ·rw[pV]at k5;cases k5
   obtain⟨⟨k5,k6⟩,k7⟩:=k5;split at k1
   ·rename_i c' akc
    unfold wrap at h;split at h
    ·cases h
    ·rename_i r1 G1 kD
     rw[pV]at h;simp only at h;split at h
     ·rename_i i off
      split at h
      ·rename_i G2 XV
       cases h;rw[←pV]at XV;obtain⟨_,m2⟩:=XP jj hm hC k1 k3 kD;have hlen:=XQ kD;refine⟨⟨fn,h1,by simp[hb],k4⟩,fun d=>by rfl,fun w g xs nS hG wZ hx=>?_,fun E8=>?_⟩
       ·obtain⟨e1,e2⟩:=Qn (fn:=fn) wZ (by have:=il k2;omega) hx
        refine calls_of_wp_defers h1 hb ?_;obtain⟨x0,z1,z2⟩:=e2 0 (.bm i off) rfl;refine XR akc e1 z1 fun a' q1 q2 q3=>?_;cases z2 with
        |bm _ _ hi =>
         refine wp_mono (m2 _ w g a' nS hG q1 (fun s v hv=>?_) rfl) fun e a2 w2 he=>?_
         ·cases s with
          |zero=>simp at hv;subst hv;exact⟨_,q2,.bm i off hi⟩
          |succ s=>simp at hv
         ·obtain⟨he,eZ,v,hv,x,g2,Lo,hE,HN,_⟩:=he
          have hL:=XU hC nS (fun b i h=>(hG.z b i h).1) (fn:=fn) k6 (tmps:=a2.tmps) (w0:=w) (g0:=g) (N0:=G.length) (i:=i) (off:=off) hi (l:=vf.defs.reverse) (w:=w2) (g:=g2) (fun f hf=>by
           have:=g8.1 k7 f (by simpa using hf)
           exact this) XV HN hE
          have hD:a2.defers=vf.defs.reverse.map (E7 (.pointer (some ⟨g.γ i,off,none⟩))):=by
           rw[eZ,q3];simp
          rcases he with rfl|rfl
          ·show Leaves P fn a2.tmps _ a2.defers .returning w2
           rw[hD];exact hL
          ·show Leaves P fn a2.tmps _ a2.defers .returning w2
           rw[hD];exact hL
        |plain hp _=>cases hp
       ·simp[HI,h1,hb,k5]at E8
      ·cases h
     ·cases h
   ·cases k1
theorem akd{T:Pk}{f:FuncId}{args:List V}{G G':List aS}{r:V}{p m:Nat}(hp:args[p]?=some (.slice none m []))(h1:vw P T f (args.set p .cb) G r G')(h2:vw P T f (args.set p (.fG m)) G r G'):vw P T f args G r G':=by
 have key:∀(w:World) (g:Gh) (xs:List Value),args.length=xs.length→(∀(i:Nat) (v:V) (x:Value),args[i]?=some v→xs[i]?=some x→bb ⟨w.heap,g,G.length,[]⟩ v x) →
   ∃u,(u=.cb∨u=.fG m)∧∀(i:Nat) (v:V) (x:Value),(args.set p u)[i]?=some v→xs[i]?=some x→bb ⟨w.heap,g,G.length,[]⟩ v x:=fun w g xs hl hx=>by
  have bE:=eQ hp;have hr:=hx p _ xs[p] hp (fN (by omega))
  have hu:∃u,(u=.cb∨u=.fG m)∧bb ⟨w.heap,g,G.length,[]⟩ u xs[p]:=by
   generalize xs[p]=x at hr;cases hr with
   |plain h _ =>
    cases h with
    |nil=>exact⟨.cb,.inl rfl,.plain .cb (fun _ _ _ e=>by cases e)⟩
    |empty _ _ a cap=>exact⟨.fG m,.inr rfl,.fG m a cap⟩
    |slice _ _ _ b off cap=>exact⟨.fG m,.inr rfl,.fG m _ cap⟩
  obtain⟨u,h1,h2⟩:=hu;refine⟨u,h1,fun i v x hv mr=>?_⟩;rw[jU]at hv;split at hv
  ·rename_i e
   subst e
   first|rw[aM bE]at hv|skip
   cases hv;rw[fN (by omega)]at mr
   cases mr;exact h2
  ·exact hx i v x hv mr
 refine⟨h1.fn,h1.ret,fun w g xs nS hG hl hx=>?_,fun hd u w g xs nS hG hl hx=>?_⟩
 ·obtain⟨u,hu,hr⟩:=key w g xs hl hx
  rcases hu with rfl|rfl
  ·exact h1.run w g xs nS hG (by simpa using hl) hr
  ·exact h2.run w g xs nS hG (by simpa using hl) hr
 ·obtain⟨z,hz,hr⟩:=key w g xs hl hx
  rcases hz with rfl|rfl
  ·exact h1.Pf hd u w g xs nS hG (by simpa using hl) hr
  ·exact h2.Pf hd u w g xs nS hG (by simpa using hl) hr
theorem XW{n:Nat}{vf:ba}{p m:Nat}{args:List V}{G:List aS}{r:V×List aS}(h:vf.both C n p m args G=some r):vf.one C n (args.set p .cb) G=some r∧vf.one C n (args.set p (.fG m)) G=some r:=by
 unfold ba.both at h;split at h
 ·rename_i e;exact⟨h,e ▸ h⟩
 ·cases h
theorem Ia{T:Pk}{ps:Ps}(jj:w8 P T ps)(hm:P.follows .mixedOrders=true){F:FuncId→Option ba}(hF:∀f vf,F f=some vf→∃fn,P.funcs[jq f]?=some fn∧xj P ps fn vf=true):∀n,qA P T (call F n)
 |0=>fun f args G r G' h=>by cases h
 |n+1=>fun f args G r G' h=>by
  simp only[call]at h;split at h
  ·rename_i vf LC
   obtain⟨fn,h1,h2⟩:=hF f vf LC;unfold ba.A7 at h;split at h
   ·exact LB jj hm (Ia jj hm hF n) h1 h2 h
   ·split at h
    ·rename_i p _ m hp
     obtain⟨h3,h4⟩:=XW h;exact akd hp (LB jj hm (Ia jj hm hF n) h1 h2 h3) (LB jj hm (Ia jj hm hF n) h1 h2 h4)
    ·exact LB jj hm (Ia jj hm hF n) h1 h2 h
  ·cases h
end
end Go.Vm

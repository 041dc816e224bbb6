/- The value machine, 17: results, and whole calls. -/
import Derived.Test.YtocclbnghhaejaaGreatVmG
namespace Go.Vm
set_option linter.all false
section
variable {P:Program} {E:Entry} {g g':Gh} {S S':St} {a:Act} {w w':World} {C:bw}
def Ia(X:Cx)(used:List Nat)(u:V)(y:Value)(fj:List Nat):Prop :=
 aZ ⟨X.h,X.g,X.N,[]⟩ (strip u) y ∧
 ((∀t n es,u≠.slice (some t) n es)∧(∀f∈used,f∈fj)∨(∃n,u=.slice (some 0) n []∧la y∧fj=used) ∨
   ∃f n es k,u=.slice (some 0) n es∧f∉used∧fj=f::used∧wX X f n es.length y∧look f X.T=some k)
inductive tT (X:Cx):List Nat→List V→List Value→List Nat→Prop
 |nil (used):tT X used [] [] used
 |cons {used tU xy u us y ys} (h:Ia X used u y tU) (hs:tT X tU us ys xy):tT X used (u::us) (y::ys) xy
theorem Mb{sh:Option Nat}{v u:V}(h:oR sh v=some u):strip u=u∧u.cI=true∧∀d,u.cD d=false:=by
 have uR:∀{v u},el sh v=some u→strip u=u∧u.cI=true∧∀d,u.cD d=false:=fun {v u} h=>by
  unfold el at h;split at h<;>first
   |(cases h;exact⟨rfl,rfl,fun _=>rfl⟩)
   |(split at h<;>first|(cases h;done)|(cases h;exact⟨rfl,rfl,fun _=>rfl⟩))
   |cases h
 unfold oR at h;split at h<;>first
  |(cases h;exact⟨rfl,rfl,fun _=>rfl⟩)
  |exact uR h
theorem aer{sh:Option Nat}{v u:V}(h:oR sh v=some u):∀t n es,u≠.slice (some t) n es:=fun t n es e=>by
 have:=(Mb h).2.2 t;rw[e]at this;simp[V.cD]at this
theorem Mc{sh:Option Nat}{used fj:List Nat}{v u:V}(h:yP S sh used v=some (u,fj)):u.cI=true∧∀d,(strip u).cD d=false:=by
 unfold yP at h;split at h
 ·split at h
  ·cases h;exact⟨rfl,fun _=>rfl⟩
  ·cases h
 ·cases h;exact⟨rfl,fun _=>rfl⟩
 ·rename_i f n es
  split at h
  ·rename_i k _
   cases hc:(k==es.length && !used.contains f) with
   |true=>simp only[hc,cond_true]at h;cases h;exact⟨rfl,fun _=>rfl⟩
   |false=>simp only[hc,cond_false]at h;cases h;exact⟨rfl,fun _=>rfl⟩
  ·cases h;exact⟨rfl,fun _=>rfl⟩
 ·cases h;exact⟨rfl,fun _=>rfl⟩
 ·split at h
  ·rename_i hg
   cases h;obtain⟨h1,h2,h3⟩:=Mb hg;exact⟨h2,fun d=>by rw[h1];exact h3 d⟩
  ·cases h
theorem SJ{X:Cx}(hX:X.T=S.bg){sh:Option Nat}{used fj:List Nat}{v u:V}{y:Value}(h:yP S sh used v=some (u,fj))(hr:aZ X v y):Ia X used u y fj:=by
 unfold yP at h;split at h
 ·split at h
  ·rename_i n
   cases h;have:=nG hr;subst this;exact⟨.plain (.nil _ _) (fun _ _ _ e=>by cases e),.inr (.inl ⟨n,rfl,.inl rfl,rfl⟩)⟩
  ·cases h
 ·rename_i n
  cases h;have hz:=sJ hr;exact⟨.plain (by rcases hz with rfl | ⟨a,rfl⟩<;>first|exact .nil _ _|exact .empty _ _ a 0) (fun _ _ _ e=>by cases e),.inr (.inl ⟨n,rfl,hz,rfl⟩)⟩
 ·rename_i f n es
  have hv:fg X.h X.g.m (.slice (some f) n es) y:=by cases hr with|plain h _=>exact h
  have hx:aZ ⟨X.h,X.g,X.N,[]⟩ (.slice none n es) y:=.plain (by cases hv with
   |nil=>exact .nil _ _
   |empty _ _ a cap=>exact .empty _ _ a cap
   |slice _ _ _ b off cap zs hb eA iM hc hv hp hm=>exact .slice none n es b off cap zs hb eA iM hc hv hp hm) (fun _ _ _ e=>by cases e)
  split at h
  ·rename_i k hk
   cases hc:(k==es.length && !used.contains f) with
   |true =>
    simp only[hc,cond_true]at h;cases h;simp only[Bool.and_eq_true,beq_iff_eq,Bool.not_eq_true',List.contains_eq_mem,decide_eq_false_iff_not]at hc;obtain⟨rfl,hnu⟩:=hc;have Lm:wX X f n es.length y:=by
     cases hr with|plain _ ht=>exact(ht f n es rfl _ (by rw[hX];exact hk)).2 rfl
    exact⟨hx,.inr (.inr ⟨f,n,es,_,rfl,hnu,rfl,Lm,by rw[hX];exact hk⟩)⟩
   |false =>
    simp only[hc,cond_false]at h;cases h;exact⟨hx,.inl ⟨(fun _ _ _ e=>by cases e),fun _ h=>h⟩⟩
  ·cases h
   exact⟨hx,.inl ⟨(fun _ _ _ e=>by cases e),fun _ h=>h⟩⟩
 ·rename_i n es
  cases h;have hv:fg X.h X.g.m (.slice none n es) y:=by cases hr with|plain h _=>exact h
  exact⟨.plain hv (fun _ _ _ e=>by cases e),.inl ⟨(fun _ _ _ e=>by cases e),fun _ h=>h⟩⟩
 ·split at h
  ·rename_i hg
   cases h;obtain⟨h1,h2,h3⟩:=Mb hg;refine⟨by rw[h1];exact(Cp hg hr).2.2.1,.inl ⟨aer hg,fun _ h=>h⟩⟩
  ·cases h
theorem Ib{X:Cx}(hX:X.T=S.bg):∀{sh:Sh} {used fj:List Nat} {vs us:List V} {ys:List Value},mL S sh used vs=some (us,fj)→vs.length=ys.length →
  (∀(i:Nat) (v:V) (y:Value),vs[i]?=some v→ys[i]?=some y→aZ X v y)→tT X used us ys fj
 |[],used,fj,[],us,ys,h,hl,_=>by
  simp only[mL,Option.some.injEq,Prod.mk.injEq]at h;obtain⟨rfl,rfl⟩:=h;cases ys with
  |nil=>exact .nil _
  |cons _ _=>simp at hl
 |[],_,_,_::_,_,_,h,_,_=>by simp[mL]at h
 |_::_,_,_,[],_,_,h,_,_=>by simp[mL]at h
 |s::sh,used,fj,v::vs,us,ys,h,hl,hr=>by
  simp only[mL]at h;split at h
  ·rename_i u tU h1
   split at h
   ·rename_i kH xy h2
    cases h;cases ys with
    |nil=>simp at hl
    |cons y ys =>
     exact .cons (SJ hX h1 (hr 0 v y (by simp) (by simp))) (Ib hX h2 (by simpa using hl) fun i v' y' hv hy=>hr (i+1) v' y' (by simpa using hv) (by simpa using hy))
   ·cases h
  ·cases h
theorem CT:∀{sh:Sh} {used fj:List Nat} {vs us:List V},mL S sh used vs=some (us,fj)→∀u∈us,u.cI=true∧∀d,(strip u).cD d=false
 |[],used,fj,[],us,h=>by
  simp only[mL,Option.some.injEq,Prod.mk.injEq]at h;obtain⟨rfl,rfl⟩:=h;simp
 |[],_,_,_::_,_,h=>by simp[mL]at h
 |_::_,_,_,[],_,h=>by simp[mL]at h
 |s::sh,used,fj,v::vs,us,h=>by
  simp only[mL]at h;split at h
  ·rename_i u tU h1
   split at h
   ·rename_i kH xy h2
    cases h;intro z hz;rcases List.mem_cons.1 hz with e|e
    ·subst e;exact Mc h1
    ·exact CT h2 z e
   ·cases h
  ·cases h
theorem tT.sub{X:Cx}{used fj:List Nat}{us:List V}{ys:List Value}(h:tT X used us ys fj):∀f∈used,f∈fj:=by
 induction h with
 |nil used=>exact fun _ h=>h
 |cons h hs ih =>
  intro f hf;apply ih;rcases h.2 with⟨_,h⟩ | ⟨_,_,_,e⟩ | ⟨_,_,_,_,_,_,e,_⟩
  ·exact h f hf
  ·rw[e];exact hf
  ·rw[e];exact List.mem_cons_of_mem _ hf
theorem tT.Md{X:Cx}{used fj:List Nat}{us:List V}{ys:List Value}(h:tT X used us ys fj):us.length=ys.length∧∃bZ:Nat→Option Nat,
  (∀(p:Nat) u y,us[p]?=some u→ys[p]?=some y→aZ ⟨X.h,X.g,X.N,[]⟩ (strip u) y∧((∀t n es,u≠.slice (some t) n es)∨(∃n,u=.slice (some 0) n []∧la y) ∨
   ∃f n es k,u=.slice (some 0) n es∧bZ p=some f∧wX X f n es.length y∧look f X.T=some k)) ∧
  (∀p q f,bZ p=some f→bZ q=some f→p=q)∧(∀p f,bZ p=some f→f∉used):=by
 induction h with
 |nil used=>exact⟨rfl,fun _=>none,by simp,by simp,by simp⟩
 |@cons used tU xy u us y ys h hs ih =>
  obtain⟨hl,bZ,h1,h2,h3⟩:=ih;obtain⟨hx,hk⟩:=h;have Me:∀f∈used,f∈tU:=by
   rcases hk with⟨_,h⟩ | ⟨_,_,_,e⟩ | ⟨_,_,_,_,_,_,e,_⟩
   ·exact h
   ·rw[e];exact fun _ h=>h
   ·rw[e];exact fun _ h=>List.mem_cons_of_mem _ h
  refine⟨by simp[hl],?_⟩
  rcases hk with⟨ji,_⟩ | ⟨n,e1,e2,e3⟩ | ⟨f0,n,es,k,e1,e2,e3,e4,e5⟩
  ·refine⟨fun p=>match p with|0=>none|p+1=>bZ p,fun p u' y' hu hy=>?_,fun p q f hp hq=>?_,fun p f hp=>?_⟩
   ·cases p with
    |zero=>simp at hu hy;subst hu;subst hy;exact⟨hx,.inl ji⟩
    |succ p=>exact h1 p u' y' (by simpa using hu) (by simpa using hy)
   ·cases p<;>cases q<;>simp at hp hq
    rw[h2 _ _ f hp hq]
   ·cases p with
    |zero=>simp at hp
    |succ p=>exact fun hf=>h3 p f hp (Me f hf)
  ·refine⟨fun p=>match p with|0=>none|p+1=>bZ p,fun p u' y' hu hy=>?_,fun p q f hp hq=>?_,fun p f hp=>?_⟩
   ·cases p with
    |zero=>simp at hu hy;subst hu;subst hy;exact⟨hx,.inr (.inl ⟨n,e1,e2⟩)⟩
    |succ p=>exact h1 p u' y' (by simpa using hu) (by simpa using hy)
   ·cases p<;>cases q<;>simp at hp hq
    rw[h2 _ _ f hp hq]
   ·cases p with
    |zero=>simp at hp
    |succ p=>exact fun hf=>h3 p f hp (Me f hf)
  ·refine⟨fun p=>match p with|0=>some f0|p+1=>bZ p,fun p u' y' hu hy=>?_,fun p q f hp hq=>?_,fun p f hp=>?_⟩
   ·cases p with
    |zero=>simp at hu hy;subst hu;subst hy;exact⟨hx,.inr (.inr ⟨f0,n,es,k,e1,rfl,e4,e5⟩)⟩
    |succ p =>
     obtain⟨q1,q2⟩:=h1 p u' y' (by simpa using hu) (by simpa using hy)
     exact⟨q1,q2⟩
   ·cases p with
    |zero =>
     cases q with
     |zero=>rfl
     |succ q =>
      simp at hp hq;subst hp;exact absurd (by rw[e3];exact List.mem_cons_self) (h3 q f0 hq)
    |succ p =>
     cases q with
     |zero =>
      simp at hp hq;subst hq;exact absurd (by rw[e3];exact List.mem_cons_self) (h3 p f0 hp)
     |succ q=>simp at hp hq;rw[h2 _ _ f hp hq]
   ·cases p with
    |zero=>simp at hp;subst hp;exact e2
    |succ p=>exact fun hf=>h3 p f hp (Me f hf)
def tV(P:Program):List ResultVar→List rm→Bool
 |[],[]=>true
 |.tmp t::rs,.t s _::vs=>t==s&&tV P rs vs
 |.cell a ty::rs,.c s agg sh::vs=>a==s&&qt P ty (bif agg then some sh.length else none)&&(agg || sh.length==1)&&tV P rs vs
 |_,_=>false
def E0(X:Cx)(used:List Nat)(u:V)(x:Value)(fj:List Nat):Prop :=
 (u.cI=true∧Ia X used u x fj)∨∃us ys,u=.agg us∧x=.agg ys.toArray∧tT X used us ys fj∧∀z∈us,z.cI=true
theorem SK{X:Cx}{cs:List V}{xs:Array Value}(hl:cs.length=xs.size)(hx:∀(i:Nat) (v:V) (y:Value),cs[i]?=some v→xs[i]?=some y→aZ X v y) :
  cs.length=xs.toList.length∧∀(i:Nat) (v:V) (y:Value),cs[i]?=some v→xs.toList[i]?=some y→aZ X v y :=
 ⟨by simpa using hl,fun i v y hv hy=>hx i v y hv (by simpa using hy)⟩
theorem SL(hR:R E g S a w){used fj:List Nat}{rv:rm}{u:V}(h:yQ S used rv=some (u,fj)) :
  (∀s sh,rv=.t s sh→E0 (S.cx g w) used u (a.tmps.getD s undef) fj) ∧
  (∀s agg sh ty,rv=.c s agg sh→qt P ty (bif agg then some sh.length else none)=true→(agg=false→sh.length=1)→∃x,(do loadVar ty (←asAddr (a.tmps.getD s undef)):Sem Value).run P w=.ok x w∧E0 (S.cx g w) used u x fj):=by
 refine⟨fun s sh e=>?_,fun s agg sh ty e hs Ic=>?_⟩
 ·subst e
  simp only[yQ]at h;split at h
  ·rename_i cs hl
   split at h
   ·rename_i us xy h1
    cases h;obtain⟨x,hx,hr⟩:=hR.env s _ hl;obtain⟨xs,e,rH,EW⟩:=pP hr;subst e;obtain⟨p1,p2⟩:=SK rH EW;have hg:a.tmps.getD s undef=.agg xs:=by simp[hx]
    rw[hg];exact .inr ⟨us,xs.toList,rfl,rfl,Ib rfl h1 p1 p2,fun z hz=>(CT h1 z hz).1⟩
   ·cases h
  ·rename_i v ji hl
   split at h
   ·obtain⟨x,hx,hr⟩:=hR.env s _ hl
    have hg:a.tmps.getD s undef=x:=by simp[hx]
    rw[hg];exact .inl ⟨(Mc h).1,SJ rfl h hr⟩
   ·cases h
  ·cases h
 ·subst e
  simp only[yQ]at h;split at h
  ·rename_i id hl
   split at h
   ·rename_i cs fw
    split at h
    ·rename_i us xy h1
     cases h;obtain⟨x,hx,hr⟩:=hR.env s _ hl;have e2:=yT hr;subst e2;have hg:a.tmps.getD s undef=.pointer (some ⟨g.κ id,0,none⟩):=by simp[hx];rfl
     have ei:∀(j:Nat) (v:V),cs[j]?=some v→∃y,cellAt w.heap (g.κ id) (0+j)=some y∧aZ (S.cx g w) v y:=fun j v hv=>by
      obtain⟨_,_,_,c,et,hh,_,hj⟩:=(hR.aU id cs fw).resolve_left (fun h=>by rw[h.1]at hv;simp at hv)
      obtain⟨_,y,hy,pR⟩:=hj j v hv;exact⟨y,by rw[kZ hh,Nat.zero_add];exact hy,pR⟩
     have dw:=CT h1;have hlen:∀{sh:Sh} {used fj:List Nat} {vs us:List V},mL S sh used vs=some (us,fj)→vs.length=sh.length∧us.length=sh.length:=by
      intro sh;induction sh with
      |nil=>intro used fj vs us h;cases vs<;>simp[mL]at h;obtain⟨rfl,_⟩:=h;simp
      |cons s sh ih =>
       intro used fj vs us h;cases vs with
       |nil=>simp[mL]at h
       |cons v vs =>
        simp only[mL]at h;split at h
        ·split at h
         ·rename_i h2;cases h;obtain⟨p,q⟩:=ih h2;simp[p,q]
         ·cases h
        ·cases h
     obtain⟨nR,rH⟩:=hlen h1;cases agg with
     |true =>
      have Ct:loadAt (some sh.length) cs 0=some (.agg cs):=by
       have:Nat.ble (0+sh.length) cs.length=true:=Nat.ble_eq_true_of_le (by omega)
       simp only[loadAt,this,cond_true,List.drop_zero,Option.some.injEq,V.agg.injEq];exact List.take_of_length_le (by omega)
      obtain⟨z,hz,Mf⟩:=Hs (P:=P) (w:=w) (t:=ty) hs ei Ct;obtain⟨xs,e,AX,EW⟩:=pP Mf;subst e;obtain⟨p1,p2⟩:=SK AX EW;refine⟨_,?_,.inr ⟨us,xs.toList,by simp[Hn],rfl,Ib rfl h1 p1 p2,fun z hz=>(dw z hz).1⟩⟩
      rw[hg];simp only[Sem.run_bind,asAddr,Sem.run_pure,Result.andThen_ok];exact hz
     |false =>
      match cs,us,nR,rH with
      |[v],[u],nR,rH =>
       have Ct:loadAt none [v] 0=some v:=rfl;obtain⟨z,hz,Mf⟩:=Hs (P:=P) (w:=w) (t:=ty) hs ei Ct;have aet:=Ib (X:=S.cx g w) rfl h1 (ys:=[z]) rfl (fun i v' y hv hy=>by
        cases i with
        |zero=>simp at hv hy;subst hv;subst hy;exact Mf
        |succ i=>simp at hv)
       refine⟨z,?_,.inl ⟨(dw u (by simp)).1,?_⟩⟩
       ·rw[hg]
        simp only[Sem.run_bind,asAddr,Sem.run_pure,Result.andThen_ok];exact hz
       ·cases aet with
        |cons h1 h2=>cases h2;exact h1
      |[],_,nR,rH=>have:=Ic rfl;simp at nR;omega
      |_::_::_,_,nR,rH=>have:=Ic rfl;simp at nR;omega
      |[_],[],nR,rH=>simp at nR rH;omega
      |[_],_::_::_,nR,rH=>simp at nR rH;omega
    ·cases h
   ·cases h
  ·cases h
inductive CU (X:Cx):List Nat→List V→List Value→Prop
 |nil (used):CU X used [] []
 |cons {used tU u us x xs} (h:E0 X used u x tU) (hs:CU X tU us xs):CU X used (u::us) (x::xs)
def E1(a:Act):ResultVar→Sem Value
 |.tmp t=>pure (a.tmps.getD t undef)
 |.cell s t=>do loadVar t (←asAddr (a.tmps.getD s undef))
theorem Mg(hR:R E g S a w):∀{rs:List ResultVar} {vs:List rm} {used:List Nat} {us:List V},tV P rs vs=true→uL S used vs=some us →
  ∃xs,(rs.mapM (E1 a)).run P w=.ok xs w∧CU (S.cx g w) used us xs
 |[],[],used,us,_,h=>by simp only[uL,Option.some.injEq]at h;subst h;exact⟨[],by simp,.nil _⟩
 |[],_::_,_,_,h,_=>by simp[tV]at h
 |.tmp _::_,[],_,_,h,_=>by simp[tV]at h
 |.cell _ _::_,[],_,_,h,_=>by simp[tV]at h
 |.tmp _::_,.c _ _ _::_,_,_,h,_=>by simp[tV]at h
 |.cell _ _::_,.t _ _::_,_,_,h,_=>by simp[tV]at h
 |.tmp t::rs,.t s sh::vs,used,us,bn,h=>by
  simp only[tV,Bool.and_eq_true,beq_iff_eq]at bn;obtain⟨rfl,bn⟩:=bn;simp only[uL]at h;split at h
  ·rename_i v tU h1
   split at h
   ·rename_i Cg h2
    cases h;obtain⟨xs,q1,q2⟩:=Mg hR bn h2;have:=(SL (P:=P) hR h1).1 t sh rfl;refine⟨_::xs,?_,.cons this q2⟩;simp[List.mapM_cons,E1,q1]
   ·cases h
  ·cases h
 |.cell c ty::rs,.c s agg sh::vs,used,us,bn,h=>by
  simp only[tV,Bool.and_eq_true,beq_iff_eq,Bool.or_eq_true]at bn;obtain⟨⟨⟨rfl,hs⟩,Ic⟩,bn⟩:=bn;simp only[uL]at h;split at h
  ·rename_i v tU h1
   split at h
   ·rename_i Cg h2
    cases h;obtain⟨xs,q1,q2⟩:=Mg hR bn h2;obtain⟨x,r1,r2⟩:=(SL (P:=P) hR h1).2 c agg sh ty rfl hs (fun e=>Ic.resolve_left (by simp[e]))
    refine⟨x::xs,?_,.cons r2 q2⟩;have r1':(E1 a (.cell c ty)).run P w=.ok x w:=r1;simp only[List.mapM_cons,Sem.run_bind,r1',Result.andThen_ok];simp[q1]
   ·cases h
  ·cases h
theorem E0.aev{X:Cx}{used fj:List Nat}{u:V}{x:Value}(h:E0 X used u x fj):Ia X used u x fj:=by
 rcases h with⟨_,h⟩ | ⟨us,ys,rfl,rfl,h,hc⟩
 ·exact h
 ·obtain⟨hl,bZ,h1,h2,h3⟩:=h.Md
  refine⟨.agg _ _ (by simpa using hl) (fun i v y hv hy=>?_),.inl ⟨(fun _ _ _ e=>by cases e),h.sub⟩⟩
  rw[List.getElem?_map]at hv;cases hu:us[i]? with
  |none=>simp[hu]at hv
  |some z =>
   simp[hu]at hv;subst hv;have:=(h1 i z y hu (by simpa using hy)).1
   have hz:=hc z (List.mem_of_getElem? hu);cases z<;>first|exact this|(simp[V.cI]at hz)
theorem CU.toList{X:Cx}{used:List Nat}{us:List V}{xs:List Value}(h:CU X used us xs):∃fj,tT X used us xs fj:=by
 induction h with
 |nil used=>exact⟨used,.nil used⟩
 |cons h hs ih =>
  obtain⟨fj,h'⟩:=ih;exact⟨fj,.cons h.aev h'⟩
theorem aew{base:Nat}(hR:R E g S a w){r:V}{x:Value}{us:List V}{ys:List Value}{fj:List Nat}(hl:tT (S.cx g w) [] us ys fj)(SM:r.fT=us)(sK:EG r x ys)(Mh:∀v∈us,∀d,(strip v).cj d=false)
  (gf:E.w0.heap.size=base) :
  ∃g',g'.m=g.m∧g'.γ=g.γ∧(∀b i,g'.ow b=.aF i↔g.ow b=.aF i)∧CI ⟨w.heap,g',S.aF.length,[]⟩ base E.own r x∧∀b p q,g'.ow b=.cell p q↔g.ow b=.cell p q:=by
 classical
 obtain⟨hlen,bZ,h1,h2,_⟩:=hl.Md
 let own:Nat→Ow:=fun b=>match g.ow b with
  |.aF i=>.aF i
  |.tok f=>if h:∃p,bZ p=some f then .tok h.choose else .none
  |.cell p q=>.cell p q
  |_=>.none
 let g':Gh:={ g with ow:=own }
 refine⟨g',rfl,rfl,fun b i=>?_,⟨ys,sK,by rw[SM];exact hlen.symm,fun p v y hv hy=>?_⟩,fun b p q=>?_⟩
 ·show own b=_↔_
  simp only[own];split
  ·rename_i h;rw[h]
  ·rename_i f h
   rw[h];split<;>exact⟨(fun e=>by cases e),(fun e=>by cases e)⟩
  ·rename_i h;rw[h]
  ·rename_i h1 h2 h3
   exact⟨(fun e=>by cases e),fun e=>absurd e (h1 i)⟩
 ·rw[SM]at hv
  obtain⟨q1,q2⟩:=h1 p v y hv hy;have hm:=Mh v (List.mem_of_getElem? hv);have le:Le ⟨w.heap,g,S.aF.length,[]⟩ ⟨w.heap,g',S.aF.length,[]⟩:=⟨Nat.le_refl _,fun _ _ _ _ h=>h,fun _ _=>Nat.le_refl _,Nat.le_refl _,fun _ _=>rfl⟩;refine⟨aZ.mono le q1 (fun d=>.inr (hm d)),hm,fun t n es e=>?_⟩;rcases q2 with q2 | ⟨n',e1,e2⟩ | ⟨f,n',oB,k,e1,e2,e3,e4⟩
  ·exact absurd e (q2 t n es)
  ·rw[e1]at e;cases e;exact .inl ⟨rfl,e2⟩
  ·rw[e1]at e
   cases e;rcases e3 with⟨a1,a2⟩ | ⟨b,off,cap,c,et,b1,b2,b3,b4,b5⟩
   ·exact .inl ⟨List.length_eq_zero_iff.1 a1,a2⟩
   ·obtain⟨c1,c2,c3⟩:=hR.bg f k b e4 b1
    refine .inr ⟨b,off,cap,c,et,b2,by rw[←gf];exact c2,?_,b3,b4,b5⟩
    show own b=_;simp only[own];rw[c1];have hex:∃p,bZ p=some f:=⟨p,e2⟩;simp only[dif_pos hex];rw[h2 _ _ f hex.choose_spec e2]
 ·show own b=_↔_
  simp only[own];split
  ·rename_i h;rw[h]
  ·rename_i f h
   rw[h];split<;>exact⟨(fun e=>by cases e),(fun e=>by cases e)⟩
  ·rename_i h;rw[h]
  ·rename_i h3
   exact⟨(fun e=>by cases e),fun e=>absurd e (h3 p q)⟩
theorem aex{used fj:List Nat}{rv:rm}{u:V}(h:yQ S used rv=some (u,fj)):(u.cI=true∧∀d,(strip u).cD d=false)∨∃us,u=.agg us∧∀z∈us,z.cI=true∧∀d,(strip z).cD d=false:=by
 cases rv with
 |t s sh =>
  simp only[yQ]at h;split at h
  ·split at h
   ·rename_i us xy h1;cases h;exact .inr ⟨us,rfl,CT h1⟩
   ·cases h
  ·split at h
   ·exact .inl (Mc h)
   ·cases h
  ·cases h
 |c s agg sh =>
  simp only[yQ]at h;split at h
  ·split at h
   ·split at h
    ·rename_i us xy h1
     cases h;unfold Hn;split
     ·rename_i v;exact .inl (CT h1 v (by simp))
     ·exact .inr ⟨us,rfl,CT h1⟩
    ·cases h
   ·cases h
  ·cases h
theorem Ie:∀{rs:List rm} {used:List Nat} {us:List V},uL S used rs=some us→∀u∈us,(u.cI=true∧∀d,(strip u).cD d=false)∨∃us,u=.agg us∧∀z∈us,z.cI=true∧∀d,(strip z).cD d=false
 |[],used,us,h=>by simp only[uL,Option.some.injEq]at h;subst h;simp
 |r::rs,used,us,h=>by
  simp only[uL]at h;split at h
  ·rename_i v tU h1
   split at h
   ·rename_i vs h2
    cases h;intro u hu;rcases List.mem_cons.1 hu with e|e
    ·subst e;exact aex h1
    ·exact Ie h2 u e
   ·cases h
  ·cases h
theorem SN{u:V}(h:(u.cI=true∧∀d,(strip u).cD d=false)∨∃us,u=.agg us∧∀z∈us,z.cI=true∧∀d,(strip z).cD d=false)(d:Nat):(strip u).dz d=false:=by
 rcases h with⟨hc,h⟩ | ⟨us,rfl,h⟩
 ·have:=h d
  cases u<;>first|exact this|(simp[V.cI]at hc)
 ·simp only[strip,V.dz,List.any_eq_false,List.mem_map]
  rintro x ⟨z,hz,rfl⟩;obtain⟨hc,hm⟩:=h z hz;have:=hm d;cases z<;>first|(simpa [strip] using this)|(simp[V.cI]at hc)
theorem aey{rs:List rm}{r:V}(h:uM S rs=some r)(d:Nat):(y8 r).cj d=false:=by
 unfold uM at h;split at h
 ·rename_i v hv
  cases h;have hc:=Ie hv r (by simp)
  rcases hc with⟨iX,hm⟩ | ⟨us,rfl,hm⟩
  ·have:=sI (hm d)
   cases r<;>first|exact this|(simp[V.cI]at iX)
  ·simp only[y8,V.fT,sL,V.cj,V.dz,List.any_eq_false,List.mem_map]
   rintro x ⟨z,hz,rfl⟩;simp[(hm z hz).2 d]
 ·rename_i vs ji hv
  cases h;simp only[y8,V.fT,sL,V.cj,List.any_eq_false,List.mem_map];rintro x ⟨z,hz,rfl⟩;simp[SN (Ie hv z hz) d]
 ·cases h
def Mi(nt:Nat):Code→Option FuncId
 |.region _ ops false=>match ops.toList with
  |[o,q]=>match o.dst,o.op,o.guard,q.dst,q.op,q.guard with
   |some d,.move (.tmp 0),none,none,.defer ⟨.value (.func f),as,_⟩,none=>match as.toList with
    |[.tmp e]=>bif e==d&&Nat.blt d nt then some f else none
    |_=>none
   |_,_,_,_,_,_=>none
  |_=>none
 |_=>none
def zF(nt:Nat):List FuncId→Code→Option Code
 |[],c=>some c
 |f::fs,.seq a c=>bif Mi nt a==some f then zF nt fs c else none
 |_,_=>none
def wi(P:Program)(ps:List (Nat×Nat))(fn:Func)(vf:bb):Bool :=
 (match fn.body with
  |some c=>(match zF fn.ntmps vf.defs c with|some c'=>kb P ps fn.ntmps c' vf.body|none=>false)&&(vf.defs.isEmpty || (RD c&&fn.results.toList.isEmpty&&vf.defs.all (HG P)))
  |none=>false)&&Nat.ble vf.nparams fn.ntmps&&tV P fn.results.toList vf.results && !(fn.name== "runtime.NumGoroutine")
theorem SO:∀{vs:List V} {i s:Nat} {v:V},look s (oT i vs)=some v→∃k,s=i+k∧vs[k]?=some v
 |[],i,s,v,h=>by simp[oT,look]at h
 |u::us,i,s,v,h=>by
  simp only[oT]at h;rw[dA]at h;split at h
  ·rename_i e;cases h;exact⟨0,by omega,by simp⟩
  ·obtain⟨k,h1,h2⟩:=SO h
   exact⟨k+1,by omega,by simpa using h2⟩
theorem SP{fn:Func}{xs:List Value}(h:(fn.results.toList.mapM (E1 a)).run P w=.ok xs w):(results fn a.tmps).run P w=.ok (if h:xs.length=1 then xs[0] else .tuple xs.toArray) w:=by
 have e:results fn a.tmps=(do
   let vs ← fn.results.mapM (E1 a)
   pure (if h:vs.size=1 then vs[0] else .tuple vs)):=by
  unfold results;congr 1
 rw[e,Array.mapM_eq_mapM_toList];simp only[Sem.run_bind,Sem.run_map,h,Result.andThen_ok,Sem.run_pure];simp
theorem aqv{r:V}{xs:List Value}{us:List V}(nI:r=.tuple us):EG r (.tuple xs.toArray) xs:=by
 subst nI;rfl
theorem SQ{ps:List (Nat×Nat)}(iY:∀f k,look f ps=some k→qD P k f)(hm:P.follows .mixedOrders=true)(hC:oD P C){n:Nat}{fn:Func}{c:Code}{vf:bb}(h1:kb P ps fn.ntmps c vf.body=true)
  (h3:tV P fn.results.toList vf.results=true) {args:List V} {G G':List aP} {r:V} (ka:vf.call C n args G=some (r,G')) :
  (∀d,(y8 r).cj d=false)∧∀(D:List Deferred) (w:World) (g:Gh) (a0:Act),rn w.heap g G→a0.tmps.size=fn.ntmps →
   (∀(i:Nat) (v:V),args[i]?=some v→∃x,a0.tmps[i]?=some x∧aZ ⟨w.heap,g,G.length,[]⟩ v x)→a0.defers=D →
   c.wp P (fun e a' w'=>(e=.normal∨e=.ret)∧a'.defers=D∧∃v,(results fn a'.tmps).run P w'=.ok v w' ∧
    ∃x mC,Ending.returned v=.returned x∧Ext w g G.length w' mC G'.length∧rn w'.heap mC G'∧CI ⟨w'.heap,mC,G'.length,[]⟩ w.heap.size (kL g) r x) a0 w:=by
 unfold bb.call at ka;cases hlen:args.length==vf.nparams with
 |false=>simp[hlen]at ka
 |true =>
   simp only[hlen,cond_true]at ka;have hlen:=eq_of_beq hlen;have key:∃ve S,VC.run C n vf.body { env:=oT 0 args,aU:=[],bg:=[],aF:=G }=some (ve,S)∧(ve=.normal∨ve=.ret)∧uM S vf.results=some r∧S.aF=G':=by
    split at ka
    ·rename_i S ah
     split at ka
     ·rename_i v hv
      cases ka;exact⟨_,S,ah,.inl rfl,hv,rfl⟩
     ·cases ka
    ·rename_i S ah
     split at ka
     ·rename_i v hv
      cases ka;exact⟨_,S,ah,.inr rfl,hv,rfl⟩
     ·cases ka
    ·cases ka
   obtain⟨ve,S,ah,KO,kM,rfl⟩:=key;refine⟨aey kM,fun D w g a0 hG eb hx hD=>?_⟩
   let E:Entry:=⟨w,g,G.length,fn.ntmps,D⟩
   have hR:R E g { env:=oT 0 args,aU:=[],bg:=[],aF:=G } a0 w:=by
    refine⟨fun s v hs=>?_,fun id cs h=>by simp[look]at h,fun f k b h _=>by simp[look]at h,hG,hD,eb,?_⟩
    ·obtain⟨k,hk,hv⟩:=SO hs
     have E2:s=k:=by omega
     subst E2;exact hx s v hv
    ·exact⟨rfl,rfl,rfl,Nat.le_refl _,Nat.le_refl _,fun _ _=>rfl,fun i a b=>absurd a (by show ¬ G.length≤i;simp at b;omega),fun _ _ _ _=>⟨rfl,rfl⟩,fun _ _ _=>⟨fun _ _ _ h=>h,Nat.le_refl _⟩,fun b p q _ h=>⟨p,q,h⟩,fun b i h _=>⟨h,(hG.z b i h).2⟩⟩
   refine wp_mono (aep (E:=E) iY hm hC n h1 hR ah) fun e a' w' he=>?_;obtain⟨rfl,g',jj⟩:=he;have AY:∃us,uL S [] vf.results=some us:=by
    unfold uM at kM;split at kM
    ·exact⟨_,by assumption⟩
    ·exact⟨_,by assumption⟩
    ·cases kM
   obtain⟨us,nI⟩:=AY;obtain⟨ys,q1,q2⟩:=Mg jj h3 nI;have q3:=SP q1;have dw:=Ie nI;have fin:∀x,(results fn a'.tmps).run P w'=.ok x w'→(∃zs kH fj,tT (S.cx g' w') [] kH zs fj∧r.fT=kH∧EG r x zs∧∀v∈kH,∀d,(strip v).cj d=false) →
     a'.defers=D∧∃v,(results fn a'.tmps).run P w'=.ok v w'∧(∃x mC,Ending.returned v=.returned x∧Ext w g G.length w' mC S.aF.length∧rn w'.heap mC S.aF∧CI ⟨w'.heap,mC,S.aF.length,[]⟩ w.heap.size (kL g) r x):=by
    rintro x hx ⟨zs,kH,fj,hl,hc,hp,Mh⟩;obtain⟨mC,e1,e2,e3,e4,e5⟩:=aew jj hl hc hp Mh (base:=w.heap.size) rfl;refine⟨jj.defers,x,hx,x,mC,rfl,?_,⟨?_,?_,fun b i h=>by rw[e1];exact jj.aF.z b i ((e3 b i).1 h)⟩,e4⟩
    ·exact⟨jj.same.os,jj.same.tape,jj.same.output,jj.same.size,jj.same.eN,fun i hi=>by rw[e2];exact jj.same.γ i hi,fun i a b=>by rw[e2];exact jj.same.γnew i a b,fun b hb ji vP=>by rw[e1];exact jj.same.my b hb ji vP,
      fun b hb hw=>by rw[e1];exact jj.same.grow b hb hw,fun b p q hb h=>jj.same.ib b p q hb ((e5 b p q).1 h),fun b i h hb=>jj.same.lv b i ((e3 b i).1 h) hb⟩
    ·intro i o ho
     rcases jj.aF.obj i o ho with k0 | ⟨k1,k2⟩
     ·exact .inl k0
     refine .inr ⟨by rw[e2];exact(e3 _ i).2 k1,?_⟩
     cases o with
     |map es =>
      obtain⟨k3,c,e,k4,k5,k6⟩:=k2;rw[e2];refine⟨by rw[e1];exact k3,c,e,k4,k5,fun j v y hj hy=>?_⟩
      obtain⟨k7,k8,k9,k10⟩:=k6 j v y hj hy;have le:Le ⟨w'.heap,g',S.aF.length,[]⟩ ⟨w'.heap,mC,S.aF.length,[]⟩:=⟨Nat.le_refl _,fun _ _ _ _ h=>h,fun b _=>by rw[e1];exact Nat.le_refl _,Nat.le_refl _,fun _ _=>by rw[e2]⟩
      exact⟨k7,k8,k9.mono le fun d=>.inr (k7 d),k10.mono le fun d=>.inr (uO (k8 d))⟩
     |cells cs =>
      obtain⟨k3,c,e,k4,k5,k6⟩:=k2;rw[e2];refine⟨by rw[e1];exact k3,c,e,k4,k5,fun j v y hj hy=>?_⟩
      obtain⟨k7,k8,k9⟩:=k6 j v y hj hy;have le:Le ⟨w'.heap,g',S.aF.length,[]⟩ ⟨w'.heap,mC,S.aF.length,[]⟩:=⟨Nat.le_refl _,fun _ _ _ _ h=>h,fun b _=>by rw[e1];exact Nat.le_refl _,Nat.le_refl _,fun _ _=>by rw[e2]⟩
      exact⟨k7,k8,k9.mono le fun d=>.inr (k8 d)⟩
    ·intro i o ho
     have k1:=jj.aF.own i o ho;rw[e2];cases o with
     |map es=>trivial
     |cells cs =>
      intro j n es y hj hy;rcases k1 j n es y hj hy with h | ⟨q,cap,c',e',q1,q2,q3,q4,q5,q6⟩
      ·exact .inl h
      ·exact .inr ⟨q,cap,c',e',q1,(e5 _ _ _).2 q2,by rw[e1];exact q3,q4,q5,q6⟩
   have goal:a'.defers=D∧∃v,(results fn a'.tmps).run P w'=.ok v w'∧(∃x mC,Ending.returned v=.returned x∧Ext w g G.length w' mC S.aF.length∧rn w'.heap mC S.aF∧CI ⟨w'.heap,mC,S.aF.length,[]⟩ w.heap.size (kL g) r x):=by
    refine fin _ q3 ?_;unfold uM at kM;rw[nI]at kM
    match us,ys,q2,kM,dw with
    |[u],[x],q2,kM,dw =>
     simp only[Option.some.injEq]at kM;subst kM;cases q2 with
     |cons v8 aqw =>
      rcases v8 with⟨iX,v8⟩ | ⟨vs,zs,rfl,rfl,hl,hc⟩
      ·refine⟨[x],[u],_,.cons v8 (.nil _),?_,?_,fun v hv d=>?_⟩
       ·cases u<;>first|rfl|(simp[V.cI]at iX)
       ·simp only[List.length_singleton,dif_pos,List.getElem_cons_zero]
        cases u<;>first|rfl|(simp[V.cI]at iX)
       ·simp only[List.mem_singleton]at hv
        subst hv;rcases dw v (by simp) with⟨_,h⟩ | ⟨vs,rfl,_⟩
        ·exact sI (h d)
        ·simp[V.cI]at iX
      ·refine⟨zs,vs,_,hl,rfl,?_,fun v hv d=>?_⟩
       ·simp only[List.length_singleton,dif_pos,List.getElem_cons_zero]
        rfl
       ·rcases dw (.agg vs) (by simp) with⟨h,_⟩ | ⟨Cg,e,h⟩
        ·simp[V.cI]at h
        ·cases e;exact sI ((h v hv).2 d)
    |[],ys,q2,kM,dw =>
     cases q2;simp only[Option.some.injEq]at kM;subst kM;exact⟨[],[],[],.nil _,rfl,rfl,by simp⟩
    |u1::u2::us,ys,q2,kM,dw =>
     simp only[Option.some.injEq]at kM;subst kM;obtain⟨fj,hl⟩:=q2.toList;have SR:=hl.Md.1;refine⟨ys,_,fj,hl,rfl,?_,fun v hv d=>uO (SN (dw v hv) d)⟩;rw[dif_neg (by simp at SR;omega)]
     rfl
    |[u],[],q2,_,_=>cases q2
    |[u],_::_::_,q2,_,_=>cases q2 with|cons _ h=>cases h
   rcases KO with rfl|rfl
   ·exact⟨.inl rfl,goal⟩
   ·exact⟨.inr rfl,goal⟩
theorem Mk{w:World}{g:Gh}{G:List aP}{args:List V}{xs:List Value}{fn:Func}(uU:args.length=xs.length)(hn:args.length≤fn.ntmps)
  (hx:∀(i:Nat) (v:V) (x:Value),args[i]?=some v→xs[i]?=some x→aZ ⟨w.heap,g,G.length,[]⟩ v x) :
  (xs.toArray++Array.replicate (fn.ntmps-xs.toArray.size) undef).size=fn.ntmps ∧
  ∀(i:Nat) (v:V),args[i]?=some v→∃x,(xs.toArray++Array.replicate (fn.ntmps-xs.toArray.size) undef)[i]?=some x∧aZ ⟨w.heap,g,G.length,[]⟩ v x:=by
 refine⟨by simp;omega,fun s v hv=>?_⟩
 have bA:s<xs.length:=by rw[←uU];exact eK hv
 refine⟨xs[s],?_,hx s v xs[s] hv (List.getElem?_eq_getElem bA)⟩;rw[Array.getElem?_append_left (by simpa using bA)]
 simp[bA]
theorem E3{C:bw}{vf:bb}(h:vf.defs=[]){args:List V}{o:Option (V×List aP)}:wrap C vf args o=o:=by
 unfold wrap;rcases o with _ | ⟨r,G⟩
 ·rfl
 ·simp only[h]
theorem SS{C:bw}{n:Nat}{vf:bb}{args:List V}{G:List aP}{y:V×List aP}(h:vf.call C n args G=some y):args.length=vf.nparams:=by
 unfold bb.call at h;cases hlen:args.length==vf.nparams with
 |false=>simp[hlen]at h
 |true=>exact eq_of_beq hlen
theorem aeA{ps:List (Nat×Nat)}(iY:∀f k,look f ps=some k→qD P k f)(hm:P.follows .mixedOrders=true)(hC:oD P C){n:Nat}{f:FuncId}{fn:Func}{vf:bb}(qC:P.funcs[f]?=some fn)(bn:wi P ps fn vf=true)(oE:vf.defs=[]){args:List V}{G G':List aP}{r:V}
  (ka:vf.call C n args G=some (r,G')):tL P f args G r G':=by
 simp only[wi,Bool.and_eq_true,Bool.not_eq_true']at bn;obtain⟨⟨⟨h1,h2⟩,h3⟩,h4⟩:=bn;have h2:=Nat.le_of_ble_eq_true h2;have hlen:=SS ka;cases hb:fn.body with
 |none=>rw[hb]at h1;cases h1
 |some c =>
  rw[hb]at h1;simp only[oE,zF,Bool.and_eq_true]at h1;obtain⟨k1,k2⟩:=SQ iY hm hC h1.1 h3 ka;refine⟨⟨fn,qC,by simp[hb],h4⟩,k1,fun w g xs hG uU hx=>?_,fun _ u w g xs hG uU hx=>?_⟩
  ·obtain⟨e1,e2⟩:=Mk (fn:=fn) uU (by omega) hx
   refine calls_of_wp qC hb (wp_mono (k2 [] w g _ hG e1 e2 rfl) fun e a' w' he=>?_);obtain⟨rfl|rfl,he⟩:=he
   ·exact he
   ·exact he
  ·obtain⟨e1,e2⟩:=Mk (fn:=fn) uU (by omega) hx
   refine callsD_of_wp qC hb (wp_mono (k2 [] w g _ hG e1 e2 rfl) fun e a' w' he=>?_);obtain⟨rfl|rfl,he⟩:=he
   ·exact he
   ·exact he
def CX(x:Value)(f:FuncId):Deferred:=⟨.fn (.func f) #[],#[x]⟩
theorem SV{nt:Nat}{x0:Value}{Q:Exit→Act→World→Prop}{w:World}:∀{fs:List FuncId} {c c':Code},zF nt fs c=some c'→∀{a:Act},a.tmps.size=nt→a.tmps[0]?=some x0 →
  (∀a':Act,a'.tmps.size=nt→a'.tmps[0]?=some x0→a'.defers=fs.reverse.map (CX x0)++a.defers→c'.wp P Q a' w)→c.wp P Q a w
 |[],c,c',h,a,hs,h0,hK=>by
  simp only[zF,Option.some.injEq]at h;subst h;exact hK a hs h0 (by simp)
 |f::fs,.seq d c,c',h,a,hs,h0,hK=>by
  simp only[zF]at h;cases hd:Mi nt d==some f with
  |false=>simp[hd]at h
  |true =>
   simp only[hd,cond_true]at h;have eX:=eq_of_beq hd
   clear hd
   have hd:=eX
   clear eX
   unfold Mi at hd;split at hd
   ·rename_i id ops
    split at hd
    ·rename_i o q aeB
     split at hd
     ·rename_i dd g as ts e1 e2 e3 e4 e5 e6
      split at hd
      ·rename_i ee has
       cases hc:ee==dd&&Nat.blt dd nt with
       |false=>simp[hc]at hd
       |true =>
        simp only[hc,cond_true,Option.some.injEq]at hd;subst hd;simp only[Bool.and_eq_true,beq_iff_eq]at hc;obtain⟨rfl,bA⟩:=hc;have bA:ee<nt:=Nat.le_of_ble_eq_true bA;have aeC:as = #[.tmp ee]:=by apply Array.ext';simpa using has
        subst aeC;have aeD:ops = #[o,q]:=by apply Array.ext';simpa using aeB
        subst aeD;have v0:a.eval (.tmp 0)=x0:=by simp[Act.eval,h0]
        refine wp_seq ?_;refine wp_region ?_;show wpOps P #[o,q] _ [0,1] a w;rw[wpOps_cons];unfold wpOp;have w1:Region.wanted o (yielded #[o,q] a.tmps)=true:=by simp[Region.wanted,e3]
        simp only[List.getElem?_toArray,List.getElem?_cons_zero,w1,if_true];refine .inl ?_;have x1:(execOp a.eval o).run P w=.ok (.value x0) w:=by
         unfold execOp;rw[e2];simp[v0]
        unfold Oper.wp;rw[x1,Oper.upon_value,e1,wpOps_cons];unfold wpOp;have w2:Region.wanted q (yielded #[o,q] (a.put (some ee) x0).tmps)=true:=by simp[Region.wanted,e6]
        simp only[List.getElem?_toArray,List.getElem?_cons_succ,List.getElem?_cons_zero,w2,if_true];refine .inl ?_;have v1:(a.put (some ee) x0).eval (.tmp ee)=x0:=by simp[Act.eval,Act.put,hs,bA]
        have x2:(execOp (a.put (some ee) x0).eval q).run P w=.ok (.defer (CX x0 g)) w:=by
         unfold execOp;rw[e5];simp only[resolve,Sem.run_bind];simp[Deferred.ofValue,Act.eval,CX]at v1 ⊢;simp[v1]
        unfold Oper.wp;rw[x2,Oper.upon_defer,e4];simp only[wpOps];refine SV h ?_ ?_ fun a' k1 k2 k3=>hK a' k1 k2 ?_
        ·simp[Act.put,hs]
        ·simp only[Act.put,Array.getElem?_setIfInBounds]
         split
         ·rename_i e;subst e;simp[hs,bA]
         ·exact h0
        ·rw[k3]
         simp[Act.put]
      ·cases hd
     ·cases hd
    ·cases hd
   ·cases hd
 |_::_,.skip,_,h,_,_,_,_=>by simp[zF]at h
 |_::_,.region ..,_,h,_,_,_,_=>by simp[zF]at h
theorem aeE{fn:Func}(h:fn.results.toList.isEmpty=true)(tmps:Array Value)(w:World):(results fn tmps).run P w=.ok (.tuple #[]) w:=by
 have h':fn.results.toList=[]:=by simpa using h
 have:=SP (P:=P) (fn:=fn) (a:={ tmps:=tmps,defers:=[] }) (w:=w) (xs:=[]) (by rw[h'];rfl)
 simpa using this
theorem Ext.trans{w w' SW:World}{g g' mC:Gh}{N N' SX:Nat}(h:Ext w g N w' g' N')(k:Ext w' g' N' SW mC SX):Ext w g N SW mC SX where
 os:=k.os.trans h.os
 tape:=k.tape.trans h.tape
 output:=k.output.trans h.output
 size:=Nat.le_trans h.size k.size
 eN:=Nat.le_trans h.eN k.eN
 γ:=fun i hi=>(k.γ i (Nat.lt_of_lt_of_le hi h.eN)).trans (h.γ i hi)
 γnew:=fun i h1 h2=>by
  by_cases hi:i<N'
  ·rw[k.γ i hi];exact h.γnew i h1 hi
  ·exact Nat.le_trans h.size (k.γnew i (by omega) h2)
 my:=fun b hb ji vP=>by
  obtain⟨p1,p2⟩:=h.my b hb ji vP;obtain⟨q1,q2⟩:=k.my b (Nat.lt_of_lt_of_le hb h.size) (fun i hi e=>by
   obtain⟨k1,k2⟩:=h.lv b i e hb;exact ji i k2 k1) (fun⟨p,q,hw⟩=>vP (h.ib b p q hb hw))
  exact⟨q1.trans p1,q2.trans p2⟩
 grow:=fun b hb hw=>by
  obtain⟨p1,p2⟩:=h.grow b hb hw;have bA:=Nat.lt_of_lt_of_le hb h.size;by_cases sQ:kL g' b
  ·obtain⟨q1,q2⟩:=k.grow b bA sQ
   exact⟨fun o y ho hy=>q1 o y (Nat.lt_of_lt_of_le ho p2) (p1 o y ho hy),Nat.le_trans p2 q2⟩
  ·by_cases hg:∃i,g'.ow b=.aF i
   ·obtain⟨i,e⟩:=hg
    obtain⟨p',q',hw⟩:=hw;have:=(h.lv b i e hb).1;rw[hw]at this;cases this
   ·obtain⟨q1,q2⟩:=k.my b bA (fun i hi e=>hg ⟨i,e⟩) sQ
    exact⟨fun o y ho hy=>by rw[tE q1];exact p1 o y ho hy,by rw[q2];exact p2⟩
 ib:=fun b p q hb ho=>by
  obtain⟨p',q',hw⟩:=k.ib b p q (Nat.lt_of_lt_of_le hb h.size) ho;exact h.ib b p' q' hb hw
 lv:=fun b i ho hb=>h.lv b i (k.lv b i ho (Nat.lt_of_lt_of_le hb h.size)).1 hb
theorem SY(hC:oD P C){fn:Func}(AY:fn.results.toList.isEmpty=true){tmps:Array Value}{w0:World}{g0:Gh}{N0 i off:Nat}(hi:i<N0){GF:List aP} :
  ∀{l:List FuncId} {w:World} {g:Gh} {G:List aP},(∀f∈l,HG P f=true)→oU C [.bG i off] l G=some GF→rn w.heap g G→Ext w0 g0 N0 w g G.length →
  Leaves P fn tmps (fun e w'=>∃x mC,e=.returned x∧Ext w0 g0 N0 w' mC GF.length∧rn w'.heap mC GF∧CI ⟨w'.heap,mC,GF.length,[]⟩ w0.heap.size (kL g0) (.tuple []) x)
   (l.map (CX (.pointer (some ⟨g0.γ i,off,none⟩)))) .returning w
 |[],w,g,G,_,hp,hG,hE=>by
  simp only[oU,Option.some.injEq]at hp;subst hp;exact⟨_,aeE AY tmps w,_,g,rfl,hE,hG,[],rfl,rfl,by simp[V.fT]⟩
 |f::l,w,g,G,hd,hp,hG,hE=>by
  simp only[oU]at hp;split at hp
  ·rename_i r G1 hc
   refine⟨by simp,.func f,#[],f,#[.pointer (some ⟨g0.γ i,off,none⟩)],rfl,?_,?_⟩
   ·obtain⟨fn1,Ii,vg,E4⟩:=(hC f _ _ _ _ hc).fn
    have aeG:¬ fn1.name= "runtime.NumGoroutine":=by simpa using E4
    simp[CX,invoke,callFunc,Ii,aeG];intro ji;simp[ji]at vg
   ·have hs:=(hC f _ _ _ _ hc).Ln (hd f (by simp)) .returning w g [.pointer (some ⟨g0.γ i,off,none⟩)] hG rfl (by
     intro k v x hv hx;cases k with
     |zero =>
      simp only[List.getElem?_cons_zero,Option.some.injEq]at hv hx;subst hv;subst hx;rw[←hE.γ i hi];exact .bG i off (Nat.lt_of_lt_of_le hi hE.eN)
     |succ k=>simp at hv)
    intro c cs hu;obtain⟨e,u',w',fr,⟨rfl,x,g1,rfl,h1,h2,h3⟩,k1,k2,k3⟩:=hs c cs hu;refine⟨_,_,w',fr,?_,k1,k2,k3⟩;exact SY hC AY hi (fun f hf=>hd f (by simp[hf])) hp h2 (hE.trans h1)
  ·cases hp
theorem Ij{ps:List (Nat×Nat)}(iY:∀f k,look f ps=some k→qD P k f)(hm:P.follows .mixedOrders=true)(hC:oD P C){n:Nat}{f:FuncId}{fn:Func}{vf:bb}(h1:P.funcs[f]?=some fn)(h2:wi P ps fn vf=true)
  {args:List V} {G G':List aP} {r:V} (h:vf.one C n args G=some (r,G')):tL P f args G r G':=by
 unfold bb.one at h;cases oE:vf.defs with
 |nil =>
  rw[E3 oE]at h;exact aeA iY hm hC h1 h2 oE h
 |cons f1 fs1 =>
  simp only[wi,Bool.and_eq_true,Bool.not_eq_true']at h2;obtain⟨⟨⟨k1,k2⟩,k3⟩,k4⟩:=h2;cases hb:fn.body with
  |none=>rw[hb]at k1;cases k1
  |some c =>
   rw[hb]at k1;simp only[Bool.and_eq_true,Bool.or_eq_true]at k1;obtain⟨k1,k5⟩:=k1;rcases k5 with k5|k5
   ·rw[oE]at k5;cases k5
   obtain⟨⟨k5,k6⟩,k7⟩:=k5;split at k1
   ·rename_i c' aeH
    unfold wrap at h;split at h
    ·cases h
    ·rename_i r1 G1 ka
     rw[oE]at h;simp only at h;split at h
     ·rename_i i off
      split at h
      ·rename_i G2 SZ
       cases h;rw[←oE]at SZ;obtain⟨_,m2⟩:=SQ iY hm hC k1 k3 ka;have hlen:=SS ka;refine⟨⟨fn,h1,by simp[hb],k4⟩,fun d=>by rfl,fun w g xs hG uU hx=>?_,fun CY=>?_⟩
       ·obtain⟨e1,e2⟩:=Mk (fn:=fn) uU (by have:=Nat.le_of_ble_eq_true k2;omega) hx
        refine calls_of_wp_defers h1 hb ?_;obtain⟨x0,z1,z2⟩:=e2 0 (.bG i off) rfl;refine SV aeH e1 z1 fun a' q1 q2 q3=>?_;cases z2 with
        |bG _ _ hi =>
         refine wp_mono (m2 _ w g a' hG q1 (fun s v hv=>?_) rfl) fun e a2 w2 he=>?_
         ·cases s with
          |zero=>simp at hv;subst hv;exact⟨_,q2,.bG i off hi⟩
          |succ s=>simp at hv
         ·obtain⟨he,eX,v,hv,x,g2,H4,hE,EK,_⟩:=he
          have hL:=SY hC (fn:=fn) k6 (tmps:=a2.tmps) (w0:=w) (g0:=g) (N0:=G.length) (i:=i) (off:=off) hi (l:=vf.defs.reverse) (w:=w2) (g:=g2) (fun f hf=>by
           have:=List.all_eq_true.1 k7 f (by simpa using hf)
           exact this) SZ EK hE
          have hD:a2.defers=vf.defs.reverse.map (CX (.pointer (some ⟨g.γ i,off,none⟩))):=by
           rw[eX,q3];simp
          rcases he with rfl|rfl
          ·show Leaves P fn a2.tmps _ a2.defers .returning w2
           rw[hD];exact hL
          ·show Leaves P fn a2.tmps _ a2.defers .returning w2
           rw[hD];exact hL
        |plain hp _=>cases hp
       ·simp[HG,h1,hb,k5]at CY
      ·cases h
     ·cases h
   ·cases k1
theorem aeI{f:FuncId}{args:List V}{G G':List aP}{r:V}{p m:Nat}(hp:args[p]?=some (.slice none m []))(h1:tL P f (args.set p .bV) G r G')(h2:tL P f (args.set p (.fu m)) G r G'):tL P f args G r G':=by
 have key:∀(w:World) (g:Gh) (xs:List Value),args.length=xs.length→(∀(i:Nat) (v:V) (x:Value),args[i]?=some v→xs[i]?=some x→aZ ⟨w.heap,g,G.length,[]⟩ v x) →
   ∃u,(u=.bV∨u=.fu m)∧∀(i:Nat) (v:V) (x:Value),(args.set p u)[i]?=some v→xs[i]?=some x→aZ ⟨w.heap,g,G.length,[]⟩ v x:=fun w g xs hl hx=>by
  have bA:=eK hp;have hr:=hx p _ xs[p] hp (List.getElem?_eq_getElem (by omega))
  have hu:∃u,(u=.bV∨u=.fu m)∧aZ ⟨w.heap,g,G.length,[]⟩ u xs[p]:=by
   generalize xs[p]=x at hr;cases hr with
   |plain h _ =>
    cases h with
    |nil=>exact⟨.bV,.inl rfl,.plain .bV (fun _ _ _ e=>by cases e)⟩
    |empty _ _ a cap=>exact⟨.fu m,.inr rfl,.fu m a cap⟩
    |slice _ _ _ b off cap=>exact⟨.fu m,.inr rfl,.fu m _ cap⟩
  obtain⟨u,h1,h2⟩:=hu;refine⟨u,h1,fun i v x hv lJ=>?_⟩;rw[List.getElem?_set]at hv;split at hv
  ·rename_i e
   subst e
   first|rw[if_pos bA]at hv|skip
   cases hv;rw[List.getElem?_eq_getElem (by omega)]at lJ
   cases lJ;exact h2
  ·exact hx i v x hv lJ
 refine⟨h1.fn,h1.ret,fun w g xs hG hl hx=>?_,fun hd u w g xs hG hl hx=>?_⟩
 ·obtain⟨u,hu,hr⟩:=key w g xs hl hx
  rcases hu with rfl|rfl
  ·exact h1.run w g xs hG (by simpa using hl) hr
  ·exact h2.run w g xs hG (by simpa using hl) hr
 ·obtain⟨z,hz,hr⟩:=key w g xs hl hx
  rcases hz with rfl|rfl
  ·exact h1.Ln hd u w g xs hG (by simpa using hl) hr
  ·exact h2.Ln hd u w g xs hG (by simpa using hl) hr
theorem S4{n:Nat}{vf:bb}{p m:Nat}{args:List V}{G:List aP}{r:V×List aP}(h:vf.both C n p m args G=some r):vf.one C n (args.set p .bV) G=some r∧vf.one C n (args.set p (.fu m)) G=some r:=by
 unfold bb.both at h;split at h
 ·rename_i e;exact⟨h,e ▸ h⟩
 ·cases h
theorem E5{ps:List (Nat×Nat)}(iY:∀f k,look f ps=some k→qD P k f)(hm:P.follows .mixedOrders=true){F:FuncId→Option bb}(hF:∀f vf,F f=some vf→∃fn,P.funcs[f]?=some fn∧wi P ps fn vf=true):∀n,oD P (call F n)
 |0=>fun f args G r G' h=>by cases h
 |n+1=>fun f args G r G' h=>by
  simp only[call]at h;split at h
  ·rename_i vf Ik
   obtain⟨fn,h1,h2⟩:=hF f vf Ik;unfold bb.yR at h;split at h
   ·exact Ij iY hm (E5 iY hm hF n) h1 h2 h
   ·split at h
    ·rename_i p _ m hp
     obtain⟨h3,h4⟩:=S4 h;exact aeI hp (Ij iY hm (E5 iY hm hF n) h1 h2 h3) (Ij iY hm (E5 iY hm hF n) h1 h2 h4)
    ·exact Ij iY hm (E5 iY hm hF n) h1 h2 h
  ·cases h
end
end Go.Vm

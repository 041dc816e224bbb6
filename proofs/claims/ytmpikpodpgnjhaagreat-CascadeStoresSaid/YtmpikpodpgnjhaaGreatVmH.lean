/- The value machine, 17: results, and whole calls. -/
import Derived.Test.YtmpikpodpgnjhaaGreatVmG
namespace Go.Vm
set_option linter.all false
section
variable {P:Program} {E:Entry} {g g':Gh} {S S':St} {a:Act} {w w':World} {C:bm}
def Fw(X:Cx)(used:List Nat)(u:V)(y:Value)(eX:List Nat):Prop :=
 aY ⟨X.h,X.g,X.N,[]⟩ (strip u) y ∧
 ((∀t n es,u≠.slice (some t) n es)∧(∀f∈used,f∈eX)∨(∃n,u=.slice (some 0) n []∧kj y∧eX=used) ∨
   ∃f n es k,u=.slice (some 0) n es∧f∉used∧eX=f::used∧vv X f n es.length y∧look f X.T=some k)
inductive sH (X:Cx):List Nat→List V→List Value→List Nat→Prop
 |nil (used):sH X used [] [] used
 |cons {used sI vX u us y ys} (h:Fw X used u y sI) (hs:sH X sI us ys vX):sH X used (u::us) (y::ys) vX
theorem Jw{sh:Option Nat}{v u:V}(h:nU sh v=some u):strip u=u∧u.cz=true∧∀d,u.cj d=false:=by
 have qR:∀{v u},el sh v=some u→strip u=u∧u.cz=true∧∀d,u.cj d=false:=fun {v u} h=>by
  unfold el at h;split at h<;>first
   |(cases h;exact⟨rfl,rfl,fun _=>rfl⟩)
   |(split at h<;>first|(cases h;done)|(cases h;exact⟨rfl,rfl,fun _=>rfl⟩))
   |cases h
 unfold nU at h;split at h<;>first
  |(cases h;exact⟨rfl,rfl,fun _=>rfl⟩)
  |exact qR h
theorem aad{sh:Option Nat}{v u:V}(h:nU sh v=some u):∀t n es,u≠.slice (some t) n es:=fun t n es e=>by
 have:=(Jw h).2.2 t;rw[e]at this;simp[V.cj]at this
theorem Jx{sh:Option Nat}{used eX:List Nat}{v u:V}(h:wV S sh used v=some (u,eX)):u.cz=true∧∀d,(strip u).cj d=false:=by
 unfold wV at h;split at h
 ·split at h
  ·cases h;exact⟨rfl,fun _=>rfl⟩
  ·cases h
 ·cases h;exact⟨rfl,fun _=>rfl⟩
 ·rename_i f n es
  split at h
  ·rename_i k _
   cases hc:(k==es.length && !used.contains f) with
   |true=>simp only[hc,cond_true]at h;cases h;exact⟨rfl,fun _=>rfl⟩
   |false=>simp only[hc,cond_false]at h;cases h;exact⟨rfl,fun _=>rfl⟩
  ·cases h;exact⟨rfl,fun _=>rfl⟩
 ·cases h;exact⟨rfl,fun _=>rfl⟩
 ·split at h
  ·rename_i hg
   cases h;obtain⟨h1,h2,h3⟩:=Jw hg;exact⟨h2,fun d=>by rw[h1];exact h3 d⟩
  ·cases h
theorem Py{X:Cx}(hX:X.T=S.a7){sh:Option Nat}{used eX:List Nat}{v u:V}{y:Value}(h:wV S sh used v=some (u,eX))(hr:aY X v y):Fw X used u y eX:=by
 unfold wV at h;split at h
 ·split at h
  ·rename_i n
   cases h;have:=nE hr;subst this;exact⟨.plain (.nil _ _) (fun _ _ _ e=>by cases e),.inr (.inl ⟨n,rfl,.inl rfl,rfl⟩)⟩
  ·cases h
 ·rename_i n
  cases h;have hz:=qQ hr;exact⟨.plain (by rcases hz with rfl | ⟨a,rfl⟩<;>first|exact .nil _ _|exact .empty _ _ a 0) (fun _ _ _ e=>by cases e),.inr (.inl ⟨n,rfl,hz,rfl⟩)⟩
 ·rename_i f n es
  have hv:eS X.h X.g.m (.slice (some f) n es) y:=by cases hr with|plain h _=>exact h
  have hx:aY ⟨X.h,X.g,X.N,[]⟩ (.slice none n es) y:=.plain (by cases hv with
   |nil=>exact .nil _ _
   |empty _ _ a cap=>exact .empty _ _ a cap
   |slice _ _ _ b off cap zs hb eu ia hc hv hp hm=>exact .slice none n es b off cap zs hb eu ia hc hv hp hm) (fun _ _ _ e=>by cases e)
  split at h
  ·rename_i k hk
   cases hc:(k==es.length && !used.contains f) with
   |true =>
    simp only[hc,cond_true]at h;cases h;simp only[Bool.and_eq_true,beq_iff_eq,Bool.not_eq_true',List.contains_eq_mem,decide_eq_false_iff_not]at hc;obtain⟨rfl,hnu⟩:=hc;have II:vv X f n es.length y:=by
     cases hr with|plain _ ht=>exact(ht f n es rfl _ (by rw[hX];exact hk)).2 rfl
    exact⟨hx,.inr (.inr ⟨f,n,es,_,rfl,hnu,rfl,II,by rw[hX];exact hk⟩)⟩
   |false =>
    simp only[hc,cond_false]at h;cases h;exact⟨hx,.inl ⟨(fun _ _ _ e=>by cases e),fun _ h=>h⟩⟩
  ·cases h
   exact⟨hx,.inl ⟨(fun _ _ _ e=>by cases e),fun _ h=>h⟩⟩
 ·rename_i n es
  cases h;have hv:eS X.h X.g.m (.slice none n es) y:=by cases hr with|plain h _=>exact h
  exact⟨.plain hv (fun _ _ _ e=>by cases e),.inl ⟨(fun _ _ _ e=>by cases e),fun _ h=>h⟩⟩
 ·split at h
  ·rename_i hg
   cases h;obtain⟨h1,h2,h3⟩:=Jw hg;refine⟨by rw[h1];exact(Aj hg hr).2.2.1,.inl ⟨aad hg,fun _ h=>h⟩⟩
  ·cases h
theorem Fx{X:Cx}(hX:X.T=S.a7):∀{sh:Sh} {used eX:List Nat} {vs us:List V} {ys:List Value},lT S sh used vs=some (us,eX)→vs.length=ys.length →
  (∀(i:Nat) (v:V) (y:Value),vs[i]?=some v→ys[i]?=some y→aY X v y)→sH X used us ys eX
 |[],used,eX,[],us,ys,h,hl,_=>by
  simp only[lT,Option.some.injEq,Prod.mk.injEq]at h;obtain⟨rfl,rfl⟩:=h;cases ys with
  |nil=>exact .nil _
  |cons _ _=>simp at hl
 |[],_,_,_::_,_,_,h,_,_=>by simp[lT]at h
 |_::_,_,_,[],_,_,h,_,_=>by simp[lT]at h
 |s::sh,used,eX,v::vs,us,ys,h,hl,hr=>by
  simp only[lT]at h;split at h
  ·rename_i u sI h1
   split at h
   ·rename_i lX vX h2
    cases h;cases ys with
    |nil=>simp at hl
    |cons y ys =>
     exact .cons (Py hX h1 (hr 0 v y (by simp) (by simp))) (Fx hX h2 (by simpa using hl) fun i v' y' hv hy=>hr (i+1) v' y' (by simpa using hv) (by simpa using hy))
   ·cases h
  ·cases h
theorem AM:∀{sh:Sh} {used eX:List Nat} {vs us:List V},lT S sh used vs=some (us,eX)→∀u∈us,u.cz=true∧∀d,(strip u).cj d=false
 |[],used,eX,[],us,h=>by
  simp only[lT,Option.some.injEq,Prod.mk.injEq]at h;obtain⟨rfl,rfl⟩:=h;simp
 |[],_,_,_::_,_,h=>by simp[lT]at h
 |_::_,_,_,[],_,h=>by simp[lT]at h
 |s::sh,used,eX,v::vs,us,h=>by
  simp only[lT]at h;split at h
  ·rename_i u sI h1
   split at h
   ·rename_i lX vX h2
    cases h;intro z hz;rcases List.mem_cons.1 hz with e|e
    ·subst e;exact Jx h1
    ·exact AM h2 z e
   ·cases h
  ·cases h
theorem sH.sub{X:Cx}{used eX:List Nat}{us:List V}{ys:List Value}(h:sH X used us ys eX):∀f∈used,f∈eX:=by
 induction h with
 |nil used=>exact fun _ h=>h
 |cons h hs ih =>
  intro f hf;apply ih;rcases h.2 with⟨_,h⟩ | ⟨_,_,_,e⟩ | ⟨_,_,_,_,_,_,e,_⟩
  ·exact h f hf
  ·rw[e];exact hf
  ·rw[e];exact List.mem_cons_of_mem _ hf
theorem sH.Jy{X:Cx}{used eX:List Nat}{us:List V}{ys:List Value}(h:sH X used us ys eX):us.length=ys.length∧∃bT:Nat→Option Nat,
  (∀(p:Nat) u y,us[p]?=some u→ys[p]?=some y→aY ⟨X.h,X.g,X.N,[]⟩ (strip u) y∧((∀t n es,u≠.slice (some t) n es)∨(∃n,u=.slice (some 0) n []∧kj y) ∨
   ∃f n es k,u=.slice (some 0) n es∧bT p=some f∧vv X f n es.length y∧look f X.T=some k)) ∧
  (∀p q f,bT p=some f→bT q=some f→p=q)∧(∀p f,bT p=some f→f∉used):=by
 induction h with
 |nil used=>exact⟨rfl,fun _=>none,by simp,by simp,by simp⟩
 |@cons used sI vX u us y ys h hs ih =>
  obtain⟨hl,bT,h1,h2,h3⟩:=ih;obtain⟨hx,hk⟩:=h;have Jz:∀f∈used,f∈sI:=by
   rcases hk with⟨_,h⟩ | ⟨_,_,_,e⟩ | ⟨_,_,_,_,_,_,e,_⟩
   ·exact h
   ·rw[e];exact fun _ h=>h
   ·rw[e];exact fun _ h=>List.mem_cons_of_mem _ h
  refine⟨by simp[hl],?_⟩
  rcases hk with⟨gO,_⟩ | ⟨n,e1,e2,e3⟩ | ⟨f0,n,es,k,e1,e2,e3,e4,e5⟩
  ·refine⟨fun p=>match p with|0=>none|p+1=>bT p,fun p u' y' hu hy=>?_,fun p q f hp hq=>?_,fun p f hp=>?_⟩
   ·cases p with
    |zero=>simp at hu hy;subst hu;subst hy;exact⟨hx,.inl gO⟩
    |succ p=>exact h1 p u' y' (by simpa using hu) (by simpa using hy)
   ·cases p<;>cases q<;>simp at hp hq
    rw[h2 _ _ f hp hq]
   ·cases p with
    |zero=>simp at hp
    |succ p=>exact fun hf=>h3 p f hp (Jz f hf)
  ·refine⟨fun p=>match p with|0=>none|p+1=>bT p,fun p u' y' hu hy=>?_,fun p q f hp hq=>?_,fun p f hp=>?_⟩
   ·cases p with
    |zero=>simp at hu hy;subst hu;subst hy;exact⟨hx,.inr (.inl ⟨n,e1,e2⟩)⟩
    |succ p=>exact h1 p u' y' (by simpa using hu) (by simpa using hy)
   ·cases p<;>cases q<;>simp at hp hq
    rw[h2 _ _ f hp hq]
   ·cases p with
    |zero=>simp at hp
    |succ p=>exact fun hf=>h3 p f hp (Jz f hf)
  ·refine⟨fun p=>match p with|0=>some f0|p+1=>bT p,fun p u' y' hu hy=>?_,fun p q f hp hq=>?_,fun p f hp=>?_⟩
   ·cases p with
    |zero=>simp at hu hy;subst hu;subst hy;exact⟨hx,.inr (.inr ⟨f0,n,es,k,e1,rfl,e4,e5⟩)⟩
    |succ p =>
     obtain⟨q1,q2⟩:=h1 p u' y' (by simpa using hu) (by simpa using hy)
     exact⟨q1,q2⟩
   ·cases p with
    |zero =>
     cases q with
     |zero=>rfl
     |succ q =>
      simp at hp hq;subst hp;exact absurd (by rw[e3];exact List.mem_cons_self) (h3 q f0 hq)
    |succ p =>
     cases q with
     |zero =>
      simp at hp hq;subst hq;exact absurd (by rw[e3];exact List.mem_cons_self) (h3 p f0 hp)
     |succ q=>simp at hp hq;rw[h2 _ _ f hp hq]
   ·cases p with
    |zero=>simp at hp;subst hp;exact e2
    |succ p=>exact fun hf=>h3 p f hp (Jz f hf)
def sJ(P:Program):List ResultVar→List qa→Bool
 |[],[]=>true
 |.tmp t::rs,.t s _::vs=>t==s&&sJ P rs vs
 |.cell a ty::rs,.c s agg sh::vs=>a==s&&pj P ty (bif agg then some sh.length else none)&&(agg || sh.length==1)&&sJ P rs vs
 |_,_=>false
def CD(X:Cx)(used:List Nat)(u:V)(x:Value)(eX:List Nat):Prop :=
 (u.cz=true∧Fw X used u x eX)∨∃us ys,u=.agg us∧x=.agg ys.toArray∧sH X used us ys eX∧∀z∈us,z.cz=true
theorem Pz{X:Cx}{cs:List V}{xs:Array Value}(hl:cs.length=xs.size)(hx:∀(i:Nat) (v:V) (y:Value),cs[i]?=some v→xs[i]?=some y→aY X v y) :
  cs.length=xs.toList.length∧∀(i:Nat) (v:V) (y:Value),cs[i]?=some v→xs.toList[i]?=some y→aY X v y :=
 ⟨by simpa using hl,fun i v y hv hy=>hx i v y hv (by simpa using hy)⟩
theorem PA(hR:R E g S a w){used eX:List Nat}{rv:qa}{u:V}(h:wW S used rv=some (u,eX)) :
  (∀s sh,rv=.t s sh→CD (S.cx g w) used u (a.tmps.getD s undef) eX) ∧
  (∀s agg sh ty,rv=.c s agg sh→pj P ty (bif agg then some sh.length else none)=true→(agg=false→sh.length=1)→∃x,(do loadVar ty (←asAddr (a.tmps.getD s undef)):Sem Value).run P w=.ok x w∧CD (S.cx g w) used u x eX):=by
 refine⟨fun s sh e=>?_,fun s agg sh ty e hs Fy=>?_⟩
 ·subst e
  simp only[wW]at h;split at h
  ·rename_i cs hl
   split at h
   ·rename_i us vX h1
    cases h;obtain⟨x,hx,hr⟩:=hR.env s _ hl;obtain⟨xs,e,lZ,CA⟩:=oL hr;subst e;obtain⟨p1,p2⟩:=Pz lZ CA;have hg:a.tmps.getD s undef=.agg xs:=by simp[hx]
    rw[hg];exact .inr ⟨us,xs.toList,rfl,rfl,Fx rfl h1 p1 p2,fun z hz=>(AM h1 z hz).1⟩
   ·cases h
  ·rename_i v gO hl
   split at h
   ·obtain⟨x,hx,hr⟩:=hR.env s _ hl
    have hg:a.tmps.getD s undef=x:=by simp[hx]
    rw[hg];exact .inl ⟨(Jx h).1,Py rfl h hr⟩
   ·cases h
  ·cases h
 ·subst e
  simp only[wW]at h;split at h
  ·rename_i id hl
   split at h
   ·rename_i cs e9
    split at h
    ·rename_i us vX h1
     cases h;obtain⟨x,hx,hr⟩:=hR.env s _ hl;have e2:=wZ hr;subst e2;have hg:a.tmps.getD s undef=.pointer (some ⟨g.κ id,0,none⟩):=by simp[hx];rfl
     have eW:∀(j:Nat) (v:V),cs[j]?=some v→∃y,cellAt w.heap (g.κ id) (0+j)=some y∧aY (S.cx g w) v y:=fun j v hv=>by
      obtain⟨_,_,_,c,et,hh,_,hj⟩:=(hR.aV id cs e9).resolve_left (fun h=>by rw[h.1]at hv;simp at hv)
      obtain⟨_,y,hy,pn⟩:=hj j v hv;exact⟨y,by rw[kM hh,Nat.zero_add];exact hy,pn⟩
     have c9:=AM h1;have hlen:∀{sh:Sh} {used eX:List Nat} {vs us:List V},lT S sh used vs=some (us,eX)→vs.length=sh.length∧us.length=sh.length:=by
      intro sh;induction sh with
      |nil=>intro used eX vs us h;cases vs<;>simp[lT]at h;obtain⟨rfl,_⟩:=h;simp
      |cons s sh ih =>
       intro used eX vs us h;cases vs with
       |nil=>simp[lT]at h
       |cons v vs =>
        simp only[lT]at h;split at h
        ·split at h
         ·rename_i h2;cases h;obtain⟨p,q⟩:=ih h2;simp[p,q]
         ·cases h
        ·cases h
     obtain⟨kZ,lZ⟩:=hlen h1;cases agg with
     |true =>
      have Am:loadAt (some sh.length) cs 0=some (.agg cs):=by
       have:Nat.ble (0+sh.length) cs.length=true:=Nat.ble_eq_true_of_le (by omega)
       simp only[loadAt,this,cond_true,List.drop_zero,Option.some.injEq,V.agg.injEq];exact List.take_of_length_le (by omega)
      obtain⟨z,hz,JA⟩:=EL (P:=P) (w:=w) (t:=ty) hs eW Am;obtain⟨xs,e,yP,CA⟩:=oL JA;subst e;obtain⟨p1,p2⟩:=Pz yP CA;refine⟨_,?_,.inr ⟨us,xs.toList,by simp[EH],rfl,Fx rfl h1 p1 p2,fun z hz=>(c9 z hz).1⟩⟩
      rw[hg];simp only[Sem.run_bind,asAddr,Sem.run_pure,Result.andThen_ok];exact hz
     |false =>
      match cs,us,kZ,lZ with
      |[v],[u],kZ,lZ =>
       have Am:loadAt none [v] 0=some v:=rfl;obtain⟨z,hz,JA⟩:=EL (P:=P) (w:=w) (t:=ty) hs eW Am;have aaf:=Fx (X:=S.cx g w) rfl h1 (ys:=[z]) rfl (fun i v' y hv hy=>by
        cases i with
        |zero=>simp at hv hy;subst hv;subst hy;exact JA
        |succ i=>simp at hv)
       refine⟨z,?_,.inl ⟨(c9 u (by simp)).1,?_⟩⟩
       ·rw[hg]
        simp only[Sem.run_bind,asAddr,Sem.run_pure,Result.andThen_ok];exact hz
       ·cases aaf with
        |cons h1 h2=>cases h2;exact h1
      |[],_,kZ,lZ=>have:=Fy rfl;simp at kZ;omega
      |_::_::_,_,kZ,lZ=>have:=Fy rfl;simp at kZ;omega
      |[_],[],kZ,lZ=>simp at kZ lZ;omega
      |[_],_::_::_,kZ,lZ=>simp at kZ lZ;omega
    ·cases h
   ·cases h
  ·cases h
inductive AN (X:Cx):List Nat→List V→List Value→Prop
 |nil (used):AN X used [] []
 |cons {used sI u us x xs} (h:CD X used u x sI) (hs:AN X sI us xs):AN X used (u::us) (x::xs)
def CE(a:Act):ResultVar→Sem Value
 |.tmp t=>pure (a.tmps.getD t undef)
 |.cell s t=>do loadVar t (←asAddr (a.tmps.getD s undef))
theorem JB(hR:R E g S a w):∀{rs:List ResultVar} {vs:List qa} {used:List Nat} {us:List V},sJ P rs vs=true→tz S used vs=some us →
  ∃xs,(rs.mapM (CE a)).run P w=.ok xs w∧AN (S.cx g w) used us xs
 |[],[],used,us,_,h=>by simp only[tz,Option.some.injEq]at h;subst h;exact⟨[],by simp,.nil _⟩
 |[],_::_,_,_,h,_=>by simp[sJ]at h
 |.tmp _::_,[],_,_,h,_=>by simp[sJ]at h
 |.cell _ _::_,[],_,_,h,_=>by simp[sJ]at h
 |.tmp _::_,.c _ _ _::_,_,_,h,_=>by simp[sJ]at h
 |.cell _ _::_,.t _ _::_,_,_,h,_=>by simp[sJ]at h
 |.tmp t::rs,.t s sh::vs,used,us,bg,h=>by
  simp only[sJ,Bool.and_eq_true,beq_iff_eq]at bg;obtain⟨rfl,bg⟩:=bg;simp only[tz]at h;split at h
  ·rename_i v sI h1
   split at h
   ·rename_i Ab h2
    cases h;obtain⟨xs,q1,q2⟩:=JB hR bg h2;have:=(PA (P:=P) hR h1).1 t sh rfl;refine⟨_::xs,?_,.cons this q2⟩;simp[List.mapM_cons,CE,q1]
   ·cases h
  ·cases h
 |.cell c ty::rs,.c s agg sh::vs,used,us,bg,h=>by
  simp only[sJ,Bool.and_eq_true,beq_iff_eq,Bool.or_eq_true]at bg;obtain⟨⟨⟨rfl,hs⟩,Fy⟩,bg⟩:=bg;simp only[tz]at h;split at h
  ·rename_i v sI h1
   split at h
   ·rename_i Ab h2
    cases h;obtain⟨xs,q1,q2⟩:=JB hR bg h2;obtain⟨x,r1,r2⟩:=(PA (P:=P) hR h1).2 c agg sh ty rfl hs (fun e=>Fy.resolve_left (by simp[e]))
    refine⟨x::xs,?_,.cons r2 q2⟩;have r1':(CE a (.cell c ty)).run P w=.ok x w:=r1;simp only[List.mapM_cons,Sem.run_bind,r1',Result.andThen_ok];simp[q1]
   ·cases h
  ·cases h
theorem CD.aah{X:Cx}{used eX:List Nat}{u:V}{x:Value}(h:CD X used u x eX):Fw X used u x eX:=by
 rcases h with⟨_,h⟩ | ⟨us,ys,rfl,rfl,h,hc⟩
 ·exact h
 ·obtain⟨hl,bT,h1,h2,h3⟩:=h.Jy
  refine⟨.agg _ _ (by simpa using hl) (fun i v y hv hy=>?_),.inl ⟨(fun _ _ _ e=>by cases e),h.sub⟩⟩
  rw[List.getElem?_map]at hv;cases hu:us[i]? with
  |none=>simp[hu]at hv
  |some z =>
   simp[hu]at hv;subst hv;have:=(h1 i z y hu (by simpa using hy)).1
   have hz:=hc z (List.mem_of_getElem? hu);cases z<;>first|exact this|(simp[V.cz]at hz)
theorem AN.toList{X:Cx}{used:List Nat}{us:List V}{xs:List Value}(h:AN X used us xs):∃eX,sH X used us xs eX:=by
 induction h with
 |nil used=>exact⟨used,.nil used⟩
 |cons h hs ih =>
  obtain⟨eX,h'⟩:=ih;exact⟨eX,.cons h.aah h'⟩
theorem aai{base:Nat}(hR:R E g S a w){r:V}{x:Value}{us:List V}{ys:List Value}{eX:List Nat}(hl:sH (S.cx g w) [] us ys eX)(PB:r.fj=us)(qS:Cf r x ys)(JC:∀v∈us,∀d,(strip v).ca d=false)
  (fU:E.w0.heap.size=base) :
  ∃g',g'.m=g.m∧g'.γ=g.γ∧(∀b i,g'.ow b=.ay i↔g.ow b=.ay i)∧uS ⟨w.heap,g',S.ay.length,[]⟩ base E.own r x∧∀b p q,g'.ow b=.cell p q↔g.ow b=.cell p q:=by
 classical
 obtain⟨hlen,bT,h1,h2,_⟩:=hl.Jy
 let own:Nat→Ow:=fun b=>match g.ow b with
  |.ay i=>.ay i
  |.tok f=>if h:∃p,bT p=some f then .tok h.choose else .none
  |.cell p q=>.cell p q
  |_=>.none
 let g':Gh:={ g with ow:=own }
 refine⟨g',rfl,rfl,fun b i=>?_,⟨ys,qS,by rw[PB];exact hlen.symm,fun p v y hv hy=>?_⟩,fun b p q=>?_⟩
 ·show own b=_↔_
  simp only[own];split
  ·rename_i h;rw[h]
  ·rename_i f h
   rw[h];split<;>exact⟨(fun e=>by cases e),(fun e=>by cases e)⟩
  ·rename_i h;rw[h]
  ·rename_i h1 h2 h3
   exact⟨(fun e=>by cases e),fun e=>absurd e (h1 i)⟩
 ·rw[PB]at hv
  obtain⟨q1,q2⟩:=h1 p v y hv hy;have hm:=JC v (List.mem_of_getElem? hv);have le:Le ⟨w.heap,g,S.ay.length,[]⟩ ⟨w.heap,g',S.ay.length,[]⟩:=⟨Nat.le_refl _,fun _ _ _ _ h=>h,fun _ _=>Nat.le_refl _,Nat.le_refl _,fun _ _=>rfl⟩;refine⟨aY.mono le q1 (fun d=>.inr (hm d)),hm,fun t n es e=>?_⟩;rcases q2 with q2 | ⟨n',e1,e2⟩ | ⟨f,n',nH,k,e1,e2,e3,e4⟩
  ·exact absurd e (q2 t n es)
  ·rw[e1]at e;cases e;exact .inl ⟨rfl,e2⟩
  ·rw[e1]at e
   cases e;rcases e3 with⟨a1,a2⟩ | ⟨b,off,cap,c,et,b1,b2,b3,b4,b5⟩
   ·exact .inl ⟨List.length_eq_zero_iff.1 a1,a2⟩
   ·obtain⟨c1,c2,c3⟩:=hR.a7 f k b e4 b1
    refine .inr ⟨b,off,cap,c,et,b2,by rw[←fU];exact c2,?_,b3,b4,b5⟩
    show own b=_;simp only[own];rw[c1];have hex:∃p,bT p=some f:=⟨p,e2⟩;simp only[dif_pos hex];rw[h2 _ _ f hex.choose_spec e2]
 ·show own b=_↔_
  simp only[own];split
  ·rename_i h;rw[h]
  ·rename_i f h
   rw[h];split<;>exact⟨(fun e=>by cases e),(fun e=>by cases e)⟩
  ·rename_i h;rw[h]
  ·rename_i h3
   exact⟨(fun e=>by cases e),fun e=>absurd e (h3 p q)⟩
theorem aaj{used eX:List Nat}{rv:qa}{u:V}(h:wW S used rv=some (u,eX)):(u.cz=true∧∀d,(strip u).cj d=false)∨∃us,u=.agg us∧∀z∈us,z.cz=true∧∀d,(strip z).cj d=false:=by
 cases rv with
 |t s sh =>
  simp only[wW]at h;split at h
  ·split at h
   ·rename_i us vX h1;cases h;exact .inr ⟨us,rfl,AM h1⟩
   ·cases h
  ·split at h
   ·exact .inl (Jx h)
   ·cases h
  ·cases h
 |c s agg sh =>
  simp only[wW]at h;split at h
  ·split at h
   ·split at h
    ·rename_i us vX h1
     cases h;unfold EH;split
     ·rename_i v;exact .inl (AM h1 v (by simp))
     ·exact .inr ⟨us,rfl,AM h1⟩
    ·cases h
   ·cases h
  ·cases h
theorem Fz:∀{rs:List qa} {used:List Nat} {us:List V},tz S used rs=some us→∀u∈us,(u.cz=true∧∀d,(strip u).cj d=false)∨∃us,u=.agg us∧∀z∈us,z.cz=true∧∀d,(strip z).cj d=false
 |[],used,us,h=>by simp only[tz,Option.some.injEq]at h;subst h;simp
 |r::rs,used,us,h=>by
  simp only[tz]at h;split at h
  ·rename_i v sI h1
   split at h
   ·rename_i vs h2
    cases h;intro u hu;rcases List.mem_cons.1 hu with e|e
    ·subst e;exact aaj h1
    ·exact Fz h2 u e
   ·cases h
  ·cases h
theorem PC{u:V}(h:(u.cz=true∧∀d,(strip u).cj d=false)∨∃us,u=.agg us∧∀z∈us,z.cz=true∧∀d,(strip z).cj d=false)(d:Nat):(strip u).dg d=false:=by
 rcases h with⟨hc,h⟩ | ⟨us,rfl,h⟩
 ·have:=h d
  cases u<;>first|exact this|(simp[V.cz]at hc)
 ·simp only[strip,V.dg,List.any_eq_false,List.mem_map]
  rintro x ⟨z,hz,rfl⟩;obtain⟨hc,hm⟩:=h z hz;have:=hm d;cases z<;>first|(simpa [strip] using this)|(simp[V.cz]at hc)
theorem aak{rs:List qa}{r:V}(h:tA S rs=some r)(d:Nat):(xh r).ca d=false:=by
 unfold tA at h;split at h
 ·rename_i v hv
  cases h;have hc:=Fz hv r (by simp)
  rcases hc with⟨im,hm⟩ | ⟨us,rfl,hm⟩
  ·have:=qP (hm d)
   cases r<;>first|exact this|(simp[V.cz]at im)
  ·simp only[xh,V.fj,qT,V.ca,V.dg,List.any_eq_false,List.mem_map]
   rintro x ⟨z,hz,rfl⟩;simp[(hm z hz).2 d]
 ·rename_i vs gO hv
  cases h;simp only[xh,V.fj,qT,V.ca,List.any_eq_false,List.mem_map];rintro x ⟨z,hz,rfl⟩;simp[PC (Fz hv z hz) d]
 ·cases h
def JE(nt:Nat):Code→Option FuncId
 |.region _ ops false=>match ops.toList with
  |[o,q]=>match o.dst,o.op,o.guard,q.dst,q.op,q.guard with
   |some d,.move (.tmp 0),none,none,.defer ⟨.value (.func f),as,_⟩,none=>match as.toList with
    |[.tmp e]=>bif e==d&&Nat.blt d nt then some f else none
    |_=>none
   |_,_,_,_,_,_=>none
  |_=>none
 |_=>none
def xo(nt:Nat):List FuncId→Code→Option Code
 |[],c=>some c
 |f::fs,.seq a c=>bif JE nt a==some f then xo nt fs c else none
 |_,_=>none
def uZ(P:Program)(ps:List (Nat×Nat))(fn:Func)(vf:ba):Bool :=
 (match fn.body with
  |some c=>(match xo fn.ntmps vf.defs c with|some c'=>ju P ps fn.ntmps c' vf.body|none=>false)&&(vf.defs.isEmpty || (Ox c&&fn.results.toList.isEmpty&&vf.defs.all (E0 P)))
  |none=>false)&&Nat.ble vf.nparams fn.ntmps&&sJ P fn.results.toList vf.results && !(fn.name== "runtime.NumGoroutine")
theorem PD:∀{vs:List V} {i s:Nat} {v:V},look s (nX i vs)=some v→∃k,s=i+k∧vs[k]?=some v
 |[],i,s,v,h=>by simp[nX,look]at h
 |u::us,i,s,v,h=>by
  simp only[nX]at h;rw[dF]at h;split at h
  ·rename_i e;cases h;exact⟨0,by omega,by simp⟩
  ·obtain⟨k,h1,h2⟩:=PD h
   exact⟨k+1,by omega,by simpa using h2⟩
theorem PE{fn:Func}{xs:List Value}(h:(fn.results.toList.mapM (CE a)).run P w=.ok xs w):(results fn a.tmps).run P w=.ok (if h:xs.length=1 then xs[0] else .tuple xs.toArray) w:=by
 have e:results fn a.tmps=(do
   let vs ← fn.results.mapM (CE a)
   pure (if h:vs.size=1 then vs[0] else .tuple vs)):=by
  unfold results;congr 1
 rw[e,Array.mapM_eq_mapM_toList];simp only[Sem.run_bind,Sem.run_map,h,Result.andThen_ok,Sem.run_pure];simp
theorem akw{r:V}{xs:List Value}{us:List V}(mT:r=.tuple us):Cf r (.tuple xs.toArray) xs:=by
 subst mT;rfl
theorem PF{ps:List (Nat×Nat)}(iq:∀f k,look f ps=some k→pB P k f)(hm:P.follows .mixedOrders=true)(hC:oj P C){n:Nat}{fn:Func}{c:Code}{vf:ba}(h1:ju P ps fn.ntmps c vf.body=true)
  (h3:sJ P fn.results.toList vf.results=true) {args:List V} {G G':List aP} {r:V} (jt:vf.call C n args G=some (r,G')) :
  (∀d,(xh r).ca d=false)∧∀(D:List Deferred) (w:World) (g:Gh) (a0:Act),qc w.heap g G→a0.tmps.size=fn.ntmps →
   (∀(i:Nat) (v:V),args[i]?=some v→∃x,a0.tmps[i]?=some x∧aY ⟨w.heap,g,G.length,[]⟩ v x)→a0.defers=D →
   c.wp P (fun e a' w'=>(e=.normal∨e=.ret)∧a'.defers=D∧∃v,(results fn a'.tmps).run P w'=.ok v w' ∧
    ∃x lL,Ending.returned v=.returned x∧Ext w g G.length w' lL G'.length∧qc w'.heap lL G'∧uS ⟨w'.heap,lL,G'.length,[]⟩ w.heap.size (ku g) r x) a0 w:=by
 unfold ba.call at jt;cases hlen:args.length==vf.nparams with
 |false=>simp[hlen]at jt
 |true =>
   simp only[hlen,cond_true]at jt;have hlen:=eq_of_beq hlen;have key:∃ve S,VC.run C n vf.body { env:=nX 0 args,aV:=[],a7:=[],ay:=G }=some (ve,S)∧(ve=.normal∨ve=.ret)∧tA S vf.results=some r∧S.ay=G':=by
    split at jt
    ·rename_i S ah
     split at jt
     ·rename_i v hv
      cases jt;exact⟨_,S,ah,.inl rfl,hv,rfl⟩
     ·cases jt
    ·rename_i S ah
     split at jt
     ·rename_i v hv
      cases jt;exact⟨_,S,ah,.inr rfl,hv,rfl⟩
     ·cases jt
    ·cases jt
   obtain⟨ve,S,ah,Ic,jX,rfl⟩:=key;refine⟨aak jX,fun D w g a0 hG ei hx hD=>?_⟩
   let E:Entry:=⟨w,g,G.length,fn.ntmps,D⟩
   have hR:R E g { env:=nX 0 args,aV:=[],a7:=[],ay:=G } a0 w:=by
    refine⟨fun s v hs=>?_,fun id cs h=>by simp[look]at h,fun f k b h _=>by simp[look]at h,hG,hD,ei,?_⟩
    ·obtain⟨k,hk,hv⟩:=PD hs
     have CF:s=k:=by omega
     subst CF;exact hx s v hv
    ·exact⟨rfl,rfl,rfl,Nat.le_refl _,Nat.le_refl _,fun _ _=>rfl,fun i a b=>absurd a (by show ¬ G.length≤i;simp at b;omega),fun _ _ _ _=>⟨rfl,rfl⟩,fun _ _ _=>⟨fun _ _ _ h=>h,Nat.le_refl _⟩,fun b p q _ h=>⟨p,q,h⟩,fun b i h _=>⟨h,(hG.z b i h).2⟩⟩
   refine wp_mono (aac (E:=E) iq hm hC n h1 hR ah) fun e a' w' he=>?_;obtain⟨rfl,g',iF⟩:=he;have yQ:∃us,tz S [] vf.results=some us:=by
    unfold tA at jX;split at jX
    ·exact⟨_,by assumption⟩
    ·exact⟨_,by assumption⟩
    ·cases jX
   obtain⟨us,mT⟩:=yQ;obtain⟨ys,q1,q2⟩:=JB iF h3 mT;have q3:=PE q1;have c9:=Fz mT;have fin:∀x,(results fn a'.tmps).run P w'=.ok x w'→(∃zs lX eX,sH (S.cx g' w') [] lX zs eX∧r.fj=lX∧Cf r x zs∧∀v∈lX,∀d,(strip v).ca d=false) →
     a'.defers=D∧∃v,(results fn a'.tmps).run P w'=.ok v w'∧(∃x lL,Ending.returned v=.returned x∧Ext w g G.length w' lL S.ay.length∧qc w'.heap lL S.ay∧uS ⟨w'.heap,lL,S.ay.length,[]⟩ w.heap.size (ku g) r x):=by
    rintro x hx ⟨zs,lX,eX,hl,hc,hp,JC⟩;obtain⟨lL,e1,e2,e3,e4,e5⟩:=aai iF hl hc hp JC (base:=w.heap.size) rfl;refine⟨iF.defers,x,hx,x,lL,rfl,?_,⟨?_,?_,fun b i h=>by rw[e1];exact iF.ay.z b i ((e3 b i).1 h)⟩,e4⟩
    ·exact⟨iF.same.os,iF.same.tape,iF.same.output,iF.same.size,iF.same.eG,fun i hi=>by rw[e2];exact iF.same.γ i hi,fun i a b=>by rw[e2];exact iF.same.γnew i a b,fun b hb gO uG=>by rw[e1];exact iF.same.kW b hb gO uG,
      fun b hb hw=>by rw[e1];exact iF.same.grow b hb hw,fun b p q hb h=>iF.same.gN b p q hb ((e5 b p q).1 h),fun b i h hb=>iF.same.lv b i ((e3 b i).1 h) hb⟩
    ·intro i o ho
     rcases iF.ay.obj i o ho with k0 | ⟨k1,k2⟩
     ·exact .inl k0
     refine .inr ⟨by rw[e2];exact(e3 _ i).2 k1,?_⟩
     cases o with
     |map es =>
      obtain⟨k3,c,e,k4,k5,k6⟩:=k2;rw[e2];refine⟨by rw[e1];exact k3,c,e,k4,k5,fun j v y hj hy=>?_⟩
      obtain⟨k7,k8,k9,k10⟩:=k6 j v y hj hy;have le:Le ⟨w'.heap,g',S.ay.length,[]⟩ ⟨w'.heap,lL,S.ay.length,[]⟩:=⟨Nat.le_refl _,fun _ _ _ _ h=>h,fun b _=>by rw[e1];exact Nat.le_refl _,Nat.le_refl _,fun _ _=>by rw[e2]⟩
      exact⟨k7,k8,k9.mono le fun d=>.inr (k7 d),k10.mono le fun d=>.inr (tC (k8 d))⟩
     |cells cs =>
      obtain⟨k3,c,e,k4,k5,k6⟩:=k2;rw[e2];refine⟨by rw[e1];exact k3,c,e,k4,k5,fun j v y hj hy=>?_⟩
      obtain⟨k7,k8,k9⟩:=k6 j v y hj hy;have le:Le ⟨w'.heap,g',S.ay.length,[]⟩ ⟨w'.heap,lL,S.ay.length,[]⟩:=⟨Nat.le_refl _,fun _ _ _ _ h=>h,fun b _=>by rw[e1];exact Nat.le_refl _,Nat.le_refl _,fun _ _=>by rw[e2]⟩
      exact⟨k7,k8,k9.mono le fun d=>.inr (k8 d)⟩
    ·intro i o ho
     have k1:=iF.ay.own i o ho;rw[e2];cases o with
     |map es=>trivial
     |cells cs =>
      intro j n es y hj hy;rcases k1 j n es y hj hy with h | ⟨q,cap,c',e',q1,q2,q3,q4,q5,q6⟩
      ·exact .inl h
      ·exact .inr ⟨q,cap,c',e',q1,(e5 _ _ _).2 q2,by rw[e1];exact q3,q4,q5,q6⟩
   have goal:a'.defers=D∧∃v,(results fn a'.tmps).run P w'=.ok v w'∧(∃x lL,Ending.returned v=.returned x∧Ext w g G.length w' lL S.ay.length∧qc w'.heap lL S.ay∧uS ⟨w'.heap,lL,S.ay.length,[]⟩ w.heap.size (ku g) r x):=by
    refine fin _ q3 ?_;unfold tA at jX;rw[mT]at jX
    match us,ys,q2,jX,c9 with
    |[u],[x],q2,jX,c9 =>
     simp only[Option.some.injEq]at jX;subst jX;cases q2 with
     |cons uQ akx =>
      rcases uQ with⟨im,uQ⟩ | ⟨vs,zs,rfl,rfl,hl,hc⟩
      ·refine⟨[x],[u],_,.cons uQ (.nil _),?_,?_,fun v hv d=>?_⟩
       ·cases u<;>first|rfl|(simp[V.cz]at im)
       ·simp only[List.length_singleton,dif_pos,List.getElem_cons_zero]
        cases u<;>first|rfl|(simp[V.cz]at im)
       ·simp only[List.mem_singleton]at hv
        subst hv;rcases c9 v (by simp) with⟨_,h⟩ | ⟨vs,rfl,_⟩
        ·exact qP (h d)
        ·simp[V.cz]at im
      ·refine⟨zs,vs,_,hl,rfl,?_,fun v hv d=>?_⟩
       ·simp only[List.length_singleton,dif_pos,List.getElem_cons_zero]
        rfl
       ·rcases c9 (.agg vs) (by simp) with⟨h,_⟩ | ⟨Ab,e,h⟩
        ·simp[V.cz]at h
        ·cases e;exact qP ((h v hv).2 d)
    |[],ys,q2,jX,c9 =>
     cases q2;simp only[Option.some.injEq]at jX;subst jX;exact⟨[],[],[],.nil _,rfl,rfl,by simp⟩
    |u1::u2::us,ys,q2,jX,c9 =>
     simp only[Option.some.injEq]at jX;subst jX;obtain⟨eX,hl⟩:=q2.toList;have PG:=hl.Jy.1;refine⟨ys,_,eX,hl,rfl,?_,fun v hv d=>tC (PC (c9 v hv) d)⟩;rw[dif_neg (by simp at PG;omega)]
     rfl
    |[u],[],q2,_,_=>cases q2
    |[u],_::_::_,q2,_,_=>cases q2 with|cons _ h=>cases h
   rcases Ic with rfl|rfl
   ·exact⟨.inl rfl,goal⟩
   ·exact⟨.inr rfl,goal⟩
theorem JG{w:World}{g:Gh}{G:List aP}{args:List V}{xs:List Value}{fn:Func}(tG:args.length=xs.length)(hn:args.length≤fn.ntmps)
  (hx:∀(i:Nat) (v:V) (x:Value),args[i]?=some v→xs[i]?=some x→aY ⟨w.heap,g,G.length,[]⟩ v x) :
  (xs.toArray++Array.replicate (fn.ntmps-xs.toArray.size) undef).size=fn.ntmps ∧
  ∀(i:Nat) (v:V),args[i]?=some v→∃x,(xs.toArray++Array.replicate (fn.ntmps-xs.toArray.size) undef)[i]?=some x∧aY ⟨w.heap,g,G.length,[]⟩ v x:=by
 refine⟨by simp;omega,fun s v hv=>?_⟩
 have br:s<xs.length:=by rw[←tG];exact eC hv
 refine⟨xs[s],?_,hx s v xs[s] hv (List.getElem?_eq_getElem br)⟩;rw[Array.getElem?_append_left (by simpa using br)]
 simp[br]
theorem CG{C:bm}{vf:ba}(h:vf.defs=[]){args:List V}{o:Option (V×List aP)}:wrap C vf args o=o:=by
 unfold wrap;rcases o with _ | ⟨r,G⟩
 ·rfl
 ·simp only[h]
theorem PH{C:bm}{n:Nat}{vf:ba}{args:List V}{G:List aP}{y:V×List aP}(h:vf.call C n args G=some y):args.length=vf.nparams:=by
 unfold ba.call at h;cases hlen:args.length==vf.nparams with
 |false=>simp[hlen]at h
 |true=>exact eq_of_beq hlen
theorem aam{ps:List (Nat×Nat)}(iq:∀f k,look f ps=some k→pB P k f)(hm:P.follows .mixedOrders=true)(hC:oj P C){n:Nat}{f:FuncId}{fn:Func}{vf:ba}(pz:P.funcs[f]?=some fn)(bg:uZ P ps fn vf=true)(qW:vf.defs=[]){args:List V}{G G':List aP}{r:V}
  (jt:vf.call C n args G=some (r,G')):sx P f args G r G':=by
 simp only[uZ,Bool.and_eq_true,Bool.not_eq_true']at bg;obtain⟨⟨⟨h1,h2⟩,h3⟩,h4⟩:=bg;have h2:=Nat.le_of_ble_eq_true h2;have hlen:=PH jt;cases hb:fn.body with
 |none=>rw[hb]at h1;cases h1
 |some c =>
  rw[hb]at h1;simp only[qW,xo,Bool.and_eq_true]at h1;obtain⟨k1,k2⟩:=PF iq hm hC h1.1 h3 jt;refine⟨⟨fn,pz,by simp[hb],h4⟩,k1,fun w g xs hG tG hx=>?_,fun _ u w g xs hG tG hx=>?_⟩
  ·obtain⟨e1,e2⟩:=JG (fn:=fn) tG (by omega) hx
   refine calls_of_wp pz hb (wp_mono (k2 [] w g _ hG e1 e2 rfl) fun e a' w' he=>?_);obtain⟨rfl|rfl,he⟩:=he
   ·exact he
   ·exact he
  ·obtain⟨e1,e2⟩:=JG (fn:=fn) tG (by omega) hx
   refine callsD_of_wp pz hb (wp_mono (k2 [] w g _ hG e1 e2 rfl) fun e a' w' he=>?_);obtain⟨rfl|rfl,he⟩:=he
   ·exact he
   ·exact he
def AO(x:Value)(f:FuncId):Deferred:=⟨.fn (.func f) #[],#[x]⟩
theorem PI{nt:Nat}{x0:Value}{Q:Exit→Act→World→Prop}{w:World}:∀{fs:List FuncId} {c c':Code},xo nt fs c=some c'→∀{a:Act},a.tmps.size=nt→a.tmps[0]?=some x0 →
  (∀a':Act,a'.tmps.size=nt→a'.tmps[0]?=some x0→a'.defers=fs.reverse.map (AO x0)++a.defers→c'.wp P Q a' w)→c.wp P Q a w
 |[],c,c',h,a,hs,h0,hK=>by
  simp only[xo,Option.some.injEq]at h;subst h;exact hK a hs h0 (by simp)
 |f::fs,.seq d c,c',h,a,hs,h0,hK=>by
  simp only[xo]at h;cases hd:JE nt d==some f with
  |false=>simp[hd]at h
  |true =>
   simp only[hd,cond_true]at h;have fm:=eq_of_beq hd
   clear hd
   have hd:=fm
   clear fm
   unfold JE at hd;split at hd
   ·rename_i id ops
    split at hd
    ·rename_i o q aan
     split at hd
     ·rename_i dd g as ts e1 e2 e3 e4 e5 e6
      split at hd
      ·rename_i ee has
       cases hc:ee==dd&&Nat.blt dd nt with
       |false=>simp[hc]at hd
       |true =>
        simp only[hc,cond_true,Option.some.injEq]at hd;subst hd;simp only[Bool.and_eq_true,beq_iff_eq]at hc;obtain⟨rfl,br⟩:=hc;have br:ee<nt:=Nat.le_of_ble_eq_true br;have aao:as = #[.tmp ee]:=by apply Array.ext';simpa using has
        subst aao;have aap:ops = #[o,q]:=by apply Array.ext';simpa using aan
        subst aap;have v0:a.eval (.tmp 0)=x0:=by simp[Act.eval,h0]
        refine wp_seq ?_;refine wp_region ?_;show wpOps P #[o,q] _ [0,1] a w;rw[wpOps_cons];unfold wpOp;have w1:Region.wanted o (yielded #[o,q] a.tmps)=true:=by simp[Region.wanted,e3]
        simp only[List.getElem?_toArray,List.getElem?_cons_zero,w1,if_true];refine .inl ?_;have x1:(execOp a.eval o).run P w=.ok (.value x0) w:=by
         unfold execOp;rw[e2];simp[v0]
        unfold Oper.wp;rw[x1,Oper.upon_value,e1,wpOps_cons];unfold wpOp;have w2:Region.wanted q (yielded #[o,q] (a.put (some ee) x0).tmps)=true:=by simp[Region.wanted,e6]
        simp only[List.getElem?_toArray,List.getElem?_cons_succ,List.getElem?_cons_zero,w2,if_true];refine .inl ?_;have v1:(a.put (some ee) x0).eval (.tmp ee)=x0:=by simp[Act.eval,Act.put,hs,br]
        have x2:(execOp (a.put (some ee) x0).eval q).run P w=.ok (.defer (AO x0 g)) w:=by
         unfold execOp;rw[e5];simp only[resolve,Sem.run_bind];simp[Deferred.ofValue,Act.eval,AO]at v1 ⊢;simp[v1]
        unfold Oper.wp;rw[x2,Oper.upon_defer,e4];simp only[wpOps];refine PI h ?_ ?_ fun a' k1 k2 k3=>hK a' k1 k2 ?_
        ·simp[Act.put,hs]
        ·simp only[Act.put,Array.getElem?_setIfInBounds]
         split
         ·rename_i e;subst e;simp[hs,br]
         ·exact h0
        ·rw[k3]
         simp[Act.put]
      ·cases hd
     ·cases hd
    ·cases hd
   ·cases hd
 |_::_,.skip,_,h,_,_,_,_=>by simp[xo]at h
 |_::_,.region ..,_,h,_,_,_,_=>by simp[xo]at h
theorem aaq{fn:Func}(h:fn.results.toList.isEmpty=true)(tmps:Array Value)(w:World):(results fn tmps).run P w=.ok (.tuple #[]) w:=by
 have h':fn.results.toList=[]:=by simpa using h
 have:=PE (P:=P) (fn:=fn) (a:={ tmps:=tmps,defers:=[] }) (w:=w) (xs:=[]) (by rw[h'];rfl)
 simpa using this
theorem Ext.trans{w w' PJ:World}{g g' lL:Gh}{N N' PK:Nat}(h:Ext w g N w' g' N')(k:Ext w' g' N' PJ lL PK):Ext w g N PJ lL PK where
 os:=k.os.trans h.os
 tape:=k.tape.trans h.tape
 output:=k.output.trans h.output
 size:=Nat.le_trans h.size k.size
 eG:=Nat.le_trans h.eG k.eG
 γ:=fun i hi=>(k.γ i (Nat.lt_of_lt_of_le hi h.eG)).trans (h.γ i hi)
 γnew:=fun i h1 h2=>by
  by_cases hi:i<N'
  ·rw[k.γ i hi];exact h.γnew i h1 hi
  ·exact Nat.le_trans h.size (k.γnew i (by omega) h2)
 kW:=fun b hb gO uG=>by
  obtain⟨p1,p2⟩:=h.kW b hb gO uG;obtain⟨q1,q2⟩:=k.kW b (Nat.lt_of_lt_of_le hb h.size) (fun i hi e=>by
   obtain⟨k1,k2⟩:=h.lv b i e hb;exact gO i k2 k1) (fun⟨p,q,hw⟩=>uG (h.gN b p q hb hw))
  exact⟨q1.trans p1,q2.trans p2⟩
 grow:=fun b hb hw=>by
  obtain⟨p1,p2⟩:=h.grow b hb hw;have br:=Nat.lt_of_lt_of_le hb h.size;by_cases qX:ku g' b
  ·obtain⟨q1,q2⟩:=k.grow b br qX
   exact⟨fun o y ho hy=>q1 o y (Nat.lt_of_lt_of_le ho p2) (p1 o y ho hy),Nat.le_trans p2 q2⟩
  ·by_cases hg:∃i,g'.ow b=.ay i
   ·obtain⟨i,e⟩:=hg
    obtain⟨p',q',hw⟩:=hw;have:=(h.lv b i e hb).1;rw[hw]at this;cases this
   ·obtain⟨q1,q2⟩:=k.kW b br (fun i hi e=>hg ⟨i,e⟩) qX
    exact⟨fun o y ho hy=>by rw[sf q1];exact p1 o y ho hy,by rw[q2];exact p2⟩
 gN:=fun b p q hb ho=>by
  obtain⟨p',q',hw⟩:=k.gN b p q (Nat.lt_of_lt_of_le hb h.size) ho;exact h.gN b p' q' hb hw
 lv:=fun b i ho hb=>h.lv b i (k.lv b i ho (Nat.lt_of_lt_of_le hb h.size)).1 hb
theorem PL(hC:oj P C){fn:Func}(yQ:fn.results.toList.isEmpty=true){tmps:Array Value}{w0:World}{g0:Gh}{N0 i off:Nat}(hi:i<N0){GF:List aP} :
  ∀{l:List FuncId} {w:World} {g:Gh} {G:List aP},(∀f∈l,E0 P f=true)→nY C [.bB i off] l G=some GF→qc w.heap g G→Ext w0 g0 N0 w g G.length →
  Leaves P fn tmps (fun e w'=>∃x lL,e=.returned x∧Ext w0 g0 N0 w' lL GF.length∧qc w'.heap lL GF∧uS ⟨w'.heap,lL,GF.length,[]⟩ w0.heap.size (ku g0) (.tuple []) x)
   (l.map (AO (.pointer (some ⟨g0.γ i,off,none⟩)))) .returning w
 |[],w,g,G,_,hp,hG,hE=>by
  simp only[nY,Option.some.injEq]at hp;subst hp;exact⟨_,aaq yQ tmps w,_,g,rfl,hE,hG,[],rfl,rfl,by simp[V.fj]⟩
 |f::l,w,g,G,hd,hp,hG,hE=>by
  simp only[nY]at hp;split at hp
  ·rename_i r G1 hc
   refine⟨by simp,.func f,#[],f,#[.pointer (some ⟨g0.γ i,off,none⟩)],rfl,?_,?_⟩
   ·obtain⟨fn1,FB,vZ,CH⟩:=(hC f _ _ _ _ hc).fn
    have aas:¬ fn1.name= "runtime.NumGoroutine":=by simpa using CH
    simp[AO,invoke,callFunc,FB,aas];intro gO;simp[gO]at vZ
   ·have hs:=(hC f _ _ _ _ hc).IK (hd f (by simp)) .returning w g [.pointer (some ⟨g0.γ i,off,none⟩)] hG rfl (by
     intro k v x hv hx;cases k with
     |zero =>
      simp only[List.getElem?_cons_zero,Option.some.injEq]at hv hx;subst hv;subst hx;rw[←hE.γ i hi];exact .bB i off (Nat.lt_of_lt_of_le hi hE.eG)
     |succ k=>simp at hv)
    intro c cs hu;obtain⟨e,u',w',fr,⟨rfl,x,g1,rfl,h1,h2,h3⟩,k1,k2,k3⟩:=hs c cs hu;refine⟨_,_,w',fr,?_,k1,k2,k3⟩;exact PL hC yQ hi (fun f hf=>hd f (by simp[hf])) hp h2 (hE.trans h1)
  ·cases hp
theorem FC{ps:List (Nat×Nat)}(iq:∀f k,look f ps=some k→pB P k f)(hm:P.follows .mixedOrders=true)(hC:oj P C){n:Nat}{f:FuncId}{fn:Func}{vf:ba}(h1:P.funcs[f]?=some fn)(h2:uZ P ps fn vf=true)
  {args:List V} {G G':List aP} {r:V} (h:vf.one C n args G=some (r,G')):sx P f args G r G':=by
 unfold ba.one at h;cases qW:vf.defs with
 |nil =>
  rw[CG qW]at h;exact aam iq hm hC h1 h2 qW h
 |cons f1 fs1 =>
  simp only[uZ,Bool.and_eq_true,Bool.not_eq_true']at h2;obtain⟨⟨⟨k1,k2⟩,k3⟩,k4⟩:=h2;cases hb:fn.body with
  |none=>rw[hb]at k1;cases k1
  |some c =>
   rw[hb]at k1;simp only[Bool.and_eq_true,Bool.or_eq_true]at k1;obtain⟨k1,k5⟩:=k1;rcases k5 with k5|k5
   ·rw[qW]at k5;cases k5
   obtain⟨⟨k5,k6⟩,k7⟩:=k5;split at k1
   ·rename_i c' aat
    unfold wrap at h;split at h
    ·cases h
    ·rename_i r1 G1 jt
     rw[qW]at h;simp only at h;split at h
     ·rename_i i off
      split at h
      ·rename_i G2 PM
       cases h;rw[←qW]at PM;obtain⟨_,m2⟩:=PF iq hm hC k1 k3 jt;have hlen:=PH jt;refine⟨⟨fn,h1,by simp[hb],k4⟩,fun d=>by rfl,fun w g xs hG tG hx=>?_,fun AP=>?_⟩
       ·obtain⟨e1,e2⟩:=JG (fn:=fn) tG (by have:=Nat.le_of_ble_eq_true k2;omega) hx
        refine calls_of_wp_defers h1 hb ?_;obtain⟨x0,z1,z2⟩:=e2 0 (.bB i off) rfl;refine PI aat e1 z1 fun a' q1 q2 q3=>?_;cases z2 with
        |bB _ _ hi =>
         refine wp_mono (m2 _ w g a' hG q1 (fun s v hv=>?_) rfl) fun e a2 w2 he=>?_
         ·cases s with
          |zero=>simp at hv;subst hv;exact⟨_,q2,.bB i off hi⟩
          |succ s=>simp at hv
         ·obtain⟨he,fm,v,hv,x,g2,Pn,hE,Ck,_⟩:=he
          have hL:=PL hC (fn:=fn) k6 (tmps:=a2.tmps) (w0:=w) (g0:=g) (N0:=G.length) (i:=i) (off:=off) hi (l:=vf.defs.reverse) (w:=w2) (g:=g2) (fun f hf=>by
           have:=List.all_eq_true.1 k7 f (by simpa using hf)
           exact this) PM Ck hE
          have hD:a2.defers=vf.defs.reverse.map (AO (.pointer (some ⟨g.γ i,off,none⟩))):=by
           rw[fm,q3];simp
          rcases he with rfl|rfl
          ·show Leaves P fn a2.tmps _ a2.defers .returning w2
           rw[hD];exact hL
          ·show Leaves P fn a2.tmps _ a2.defers .returning w2
           rw[hD];exact hL
        |plain hp _=>cases hp
       ·simp[E0,h1,hb,k5]at AP
      ·cases h
     ·cases h
   ·cases k1
theorem aau{f:FuncId}{args:List V}{G G':List aP}{r:V}{p m:Nat}(hp:args[p]?=some (.slice none m []))(h1:sx P f (args.set p .bW) G r G')(h2:sx P f (args.set p (.e8 m)) G r G'):sx P f args G r G':=by
 have key:∀(w:World) (g:Gh) (xs:List Value),args.length=xs.length→(∀(i:Nat) (v:V) (x:Value),args[i]?=some v→xs[i]?=some x→aY ⟨w.heap,g,G.length,[]⟩ v x) →
   ∃u,(u=.bW∨u=.e8 m)∧∀(i:Nat) (v:V) (x:Value),(args.set p u)[i]?=some v→xs[i]?=some x→aY ⟨w.heap,g,G.length,[]⟩ v x:=fun w g xs hl hx=>by
  have br:=eC hp;have hr:=hx p _ xs[p] hp (List.getElem?_eq_getElem (by omega))
  have hu:∃u,(u=.bW∨u=.e8 m)∧aY ⟨w.heap,g,G.length,[]⟩ u xs[p]:=by
   generalize xs[p]=x at hr;cases hr with
   |plain h _ =>
    cases h with
    |nil=>exact⟨.bW,.inl rfl,.plain .bW (fun _ _ _ e=>by cases e)⟩
    |empty _ _ a cap=>exact⟨.e8 m,.inr rfl,.e8 m a cap⟩
    |slice _ _ _ b off cap=>exact⟨.e8 m,.inr rfl,.e8 m _ cap⟩
  obtain⟨u,h1,h2⟩:=hu;refine⟨u,h1,fun i v x hv jT=>?_⟩;rw[List.getElem?_set]at hv;split at hv
  ·rename_i e
   subst e
   first|rw[if_pos br]at hv|skip
   cases hv;rw[List.getElem?_eq_getElem (by omega)]at jT
   cases jT;exact h2
  ·exact hx i v x hv jT
 refine⟨h1.fn,h1.ret,fun w g xs hG hl hx=>?_,fun hd u w g xs hG hl hx=>?_⟩
 ·obtain⟨u,hu,hr⟩:=key w g xs hl hx
  rcases hu with rfl|rfl
  ·exact h1.run w g xs hG (by simpa using hl) hr
  ·exact h2.run w g xs hG (by simpa using hl) hr
 ·obtain⟨z,hz,hr⟩:=key w g xs hl hx
  rcases hz with rfl|rfl
  ·exact h1.IK hd u w g xs hG (by simpa using hl) hr
  ·exact h2.IK hd u w g xs hG (by simpa using hl) hr
theorem PN{n:Nat}{vf:ba}{p m:Nat}{args:List V}{G:List aP}{r:V×List aP}(h:vf.both C n p m args G=some r):vf.one C n (args.set p .bW) G=some r∧vf.one C n (args.set p (.e8 m)) G=some r:=by
 unfold ba.both at h;split at h
 ·rename_i e;exact⟨h,e ▸ h⟩
 ·cases h
theorem CI{ps:List (Nat×Nat)}(iq:∀f k,look f ps=some k→pB P k f)(hm:P.follows .mixedOrders=true){F:FuncId→Option ba}(hF:∀f vf,F f=some vf→∃fn,P.funcs[f]?=some fn∧uZ P ps fn vf=true):∀n,oj P (call F n)
 |0=>fun f args G r G' h=>by cases h
 |n+1=>fun f args G r G' h=>by
  simp only[call]at h;split at h
  ·rename_i vf FD
   obtain⟨fn,h1,h2⟩:=hF f vf FD;unfold ba.wX at h;split at h
   ·exact FC iq hm (CI iq hm hF n) h1 h2 h
   ·split at h
    ·rename_i p _ m hp
     obtain⟨h3,h4⟩:=PN h;exact aau hp (FC iq hm (CI iq hm hF n) h1 h2 h3) (FC iq hm (CI iq hm hF n) h1 h2 h4)
    ·exact FC iq hm (CI iq hm hF n) h1 h2 h
  ·cases h
end
end Go.Vm

/- The value machine, 17: results, and whole calls. -/
import Derived.Test.YtmpikpodpgnjhaaGreatVmG
namespace Go.Vm
set_option linter.all false
section
variable {P:Program} {E:Entry} {g g':Gh} {S S':St} {a:Act} {w w':World} {C:bC}
def FA(X:Cx)(used:List Nat)(u:V)(y:Value)(fy:List Nat):Prop :=
 bj ⟨X.h,X.g,X.N,[]⟩ (strip u) y ∧
 ((∀t n es,u≠.slice (some t) n es)∧(∀f∈used,f∈fy)∨(∃n,u=.slice (some 0) n []∧kG y∧fy=used) ∨
   ∃f n es k,u=.slice (some 0) n es∧f∉used∧fy=f::used∧uZ X f n es.length y∧look f X.T=some k)
inductive v8 (X:Cx):List Nat→List V→List Value→List Nat→Prop
 |nil (used):v8 X used [] [] used
 |cons {used sj vw u us y ys} (h:FA X used u y sj) (hs:v8 X sj us ys vw):v8 X used (u::us) (y::ys) vw
theorem JE{sh:Option Nat}{v u:V}(h:ox sh v=some u):strip u=u∧u.cM=true∧∀d,u.cI d=false:=by
 have tg:∀{v u},el sh v=some u→strip u=u∧u.cM=true∧∀d,u.cI d=false:=fun {v u} h=>by
  unfold el at h;split at h<;>first
   |(cases h;exact⟨rfl,rfl,fun _=>rfl⟩)
   |(split at h<;>first|(cases h;done)|(cases h;exact⟨rfl,rfl,fun _=>rfl⟩))
   |cases h
 unfold ox at h;split at h<;>first
  |(cases h;exact⟨rfl,rfl,fun _=>rfl⟩)
  |exact tg h
theorem Yw{sh:Option Nat}{v u:V}(h:ox sh v=some u):∀t n es,u≠.slice (some t) n es:=fun t n es e=>by
 have:=(JE h).2.2 t;rw[e]at this;simp[V.cI]at this
theorem JF{sh:Option Nat}{used fy:List Nat}{v u:V}(h:wC S sh used v=some (u,fy)):u.cM=true∧∀d,(strip u).cI d=false:=by
 unfold wC at h;split at h
 ·split at h
  ·cases h;exact⟨rfl,fun _=>rfl⟩
  ·cases h
 ·cases h;exact⟨rfl,fun _=>rfl⟩
 ·rename_i f n es
  split at h
  ·rename_i k _
   cases hc:(k==es.length && !used.contains f) with
   |true=>simp only[hc,cond_true]at h;cases h;exact⟨rfl,fun _=>rfl⟩
   |false=>simp only[hc,cond_false]at h;cases h;exact⟨rfl,fun _=>rfl⟩
  ·cases h;exact⟨rfl,fun _=>rfl⟩
 ·cases h;exact⟨rfl,fun _=>rfl⟩
 ·split at h
  ·rename_i hg
   cases h;obtain⟨h1,h2,h3⟩:=JE hg;exact⟨h2,fun d=>by rw[h1];exact h3 d⟩
  ·cases h
theorem PE{X:Cx}(hX:X.T=S.bm){sh:Option Nat}{used fy:List Nat}{v u:V}{y:Value}(h:wC S sh used v=some (u,fy))(hr:bj X v y):FA X used u y fy:=by
 unfold wC at h;split at h
 ·split at h
  ·rename_i n
   cases h;have:=nV hr;subst this;exact⟨.plain (.nil _ _) (fun _ _ _ e=>by cases e),.inr (.inl ⟨n,rfl,.inl rfl,rfl⟩)⟩
  ·cases h
 ·rename_i n
  cases h;have hz:=rh hr;exact⟨.plain (by rcases hz with rfl | ⟨a,rfl⟩<;>first|exact .nil _ _|exact .empty _ _ a 0) (fun _ _ _ e=>by cases e),.inr (.inl ⟨n,rfl,hz,rfl⟩)⟩
 ·rename_i f n es
  have hv:fp X.h X.g.m (.slice (some f) n es) y:=by cases hr with|plain h _=>exact h
  have hx:bj ⟨X.h,X.g,X.N,[]⟩ (.slice none n es) y:=.plain (by cases hv with
   |nil=>exact .nil _ _
   |empty _ _ a cap=>exact .empty _ _ a cap
   |slice _ _ _ b off cap zs hb eP iI hc hv hp hm=>exact .slice none n es b off cap zs hb eP iI hc hv hp hm) (fun _ _ _ e=>by cases e)
  split at h
  ·rename_i k hk
   cases hc:(k==es.length && !used.contains f) with
   |true =>
    simp only[hc,cond_true]at h;cases h;simp only[Bool.and_eq_true,beq_iff_eq,Bool.not_eq_true',List.contains_eq_mem,decide_eq_false_iff_not]at hc;obtain⟨rfl,Yx⟩:=hc;have IQ:uZ X f n es.length y:=by
     cases hr with|plain _ ht=>exact(ht f n es rfl _ (by rw[hX];exact hk)).2 rfl
    exact⟨hx,.inr (.inr ⟨f,n,es,_,rfl,Yx,rfl,IQ,by rw[hX];exact hk⟩)⟩
   |false =>
    simp only[hc,cond_false]at h;cases h;exact⟨hx,.inl ⟨(fun _ _ _ e=>by cases e),fun _ h=>h⟩⟩
  ·cases h
   exact⟨hx,.inl ⟨(fun _ _ _ e=>by cases e),fun _ h=>h⟩⟩
 ·rename_i n es
  cases h;have hv:fp X.h X.g.m (.slice none n es) y:=by cases hr with|plain h _=>exact h
  exact⟨.plain hv (fun _ _ _ e=>by cases e),.inl ⟨(fun _ _ _ e=>by cases e),fun _ h=>h⟩⟩
 ·split at h
  ·rename_i hg
   cases h;obtain⟨h1,h2,h3⟩:=JE hg;refine⟨by rw[h1];exact(Aj hg hr).2.2.1,.inl ⟨Yw hg,fun _ h=>h⟩⟩
  ·cases h
theorem FB{X:Cx}(hX:X.T=S.bm):∀{sh:Sh} {used fy:List Nat} {vs us:List V} {ys:List Value},mg S sh used vs=some (us,fy)→vs.length=ys.length →
  (∀(i:Nat) (v:V) (y:Value),vs[i]?=some v→ys[i]?=some y→bj X v y)→v8 X used us ys fy
 |[],used,fy,[],us,ys,h,hl,_=>by
  simp only[mg,Option.some.injEq,Prod.mk.injEq]at h;obtain⟨rfl,rfl⟩:=h;cases ys with
  |nil=>exact .nil _
  |cons _ _=>simp at hl
 |[],_,_,_::_,_,_,h,_,_=>by simp[mg]at h
 |_::_,_,_,[],_,_,h,_,_=>by simp[mg]at h
 |s::sh,used,fy,v::vs,us,ys,h,hl,hr=>by
  simp only[mg]at h;split at h
  ·rename_i u sj h1
   split at h
   ·rename_i ml vw h2
    cases h;cases ys with
    |nil=>simp at hl
    |cons y ys =>
     exact .cons (PE hX h1 (hr 0 v y (by simp) (by simp))) (FB hX h2 (by simpa using hl) fun i v' y' hv hy=>hr (i+1) v' y' (by simpa using hv) (by simpa using hy))
   ·cases h
  ·cases h
theorem AJ:∀{sh:Sh} {used fy:List Nat} {vs us:List V},mg S sh used vs=some (us,fy)→∀u∈us,u.cM=true∧∀d,(strip u).cI d=false
 |[],used,fy,[],us,h=>by
  simp only[mg,Option.some.injEq,Prod.mk.injEq]at h;obtain⟨rfl,rfl⟩:=h;simp
 |[],_,_,_::_,_,h=>by simp[mg]at h
 |_::_,_,_,[],_,h=>by simp[mg]at h
 |s::sh,used,fy,v::vs,us,h=>by
  simp only[mg]at h;split at h
  ·rename_i u sj h1
   split at h
   ·rename_i ml vw h2
    cases h;intro z hz;rcases List.mem_cons.1 hz with e|e
    ·subst e;exact JF h1
    ·exact AJ h2 z e
   ·cases h
  ·cases h
theorem v8.sub{X:Cx}{used fy:List Nat}{us:List V}{ys:List Value}(h:v8 X used us ys fy):∀f∈used,f∈fy:=by
 induction h with
 |nil used=>exact fun _ h=>h
 |cons h hs ih =>
  intro f hf;apply ih;rcases h.2 with⟨_,h⟩ | ⟨_,_,_,e⟩ | ⟨_,_,_,_,_,_,e,_⟩
  ·exact h f hf
  ·rw[e];exact hf
  ·rw[e];exact List.mem_cons_of_mem _ hf
theorem v8.JG{X:Cx}{used fy:List Nat}{us:List V}{ys:List Value}(h:v8 X used us ys fy):us.length=ys.length∧∃cf:Nat→Option Nat,
  (∀(p:Nat) u y,us[p]?=some u→ys[p]?=some y→bj ⟨X.h,X.g,X.N,[]⟩ (strip u) y∧((∀t n es,u≠.slice (some t) n es)∨(∃n,u=.slice (some 0) n []∧kG y) ∨
   ∃f n es k,u=.slice (some 0) n es∧cf p=some f∧uZ X f n es.length y∧look f X.T=some k)) ∧
  (∀p q f,cf p=some f→cf q=some f→p=q)∧(∀p f,cf p=some f→f∉used):=by
 induction h with
 |nil used=>exact⟨rfl,fun _=>none,by simp,by simp,by simp⟩
 |@cons used sj vw u us y ys h hs ih =>
  obtain⟨hl,cf,h1,h2,h3⟩:=ih;obtain⟨hx,hk⟩:=h;have JH:∀f∈used,f∈sj:=by
   rcases hk with⟨_,h⟩ | ⟨_,_,_,e⟩ | ⟨_,_,_,_,_,_,e,_⟩
   ·exact h
   ·rw[e];exact fun _ h=>h
   ·rw[e];exact fun _ h=>List.mem_cons_of_mem _ h
  refine⟨by simp[hl],?_⟩
  rcases hk with⟨lh,_⟩ | ⟨n,e1,e2,e3⟩ | ⟨f0,n,es,k,e1,e2,e3,e4,e5⟩
  ·refine⟨fun p=>match p with|0=>none|p+1=>cf p,fun p u' y' hu hy=>?_,fun p q f hp hq=>?_,fun p f hp=>?_⟩
   ·cases p with
    |zero=>simp at hu hy;subst hu;subst hy;exact⟨hx,.inl lh⟩
    |succ p=>exact h1 p u' y' (by simpa using hu) (by simpa using hy)
   ·cases p<;>cases q<;>simp at hp hq
    rw[h2 _ _ f hp hq]
   ·cases p with
    |zero=>simp at hp
    |succ p=>exact fun hf=>h3 p f hp (JH f hf)
  ·refine⟨fun p=>match p with|0=>none|p+1=>cf p,fun p u' y' hu hy=>?_,fun p q f hp hq=>?_,fun p f hp=>?_⟩
   ·cases p with
    |zero=>simp at hu hy;subst hu;subst hy;exact⟨hx,.inr (.inl ⟨n,e1,e2⟩)⟩
    |succ p=>exact h1 p u' y' (by simpa using hu) (by simpa using hy)
   ·cases p<;>cases q<;>simp at hp hq
    rw[h2 _ _ f hp hq]
   ·cases p with
    |zero=>simp at hp
    |succ p=>exact fun hf=>h3 p f hp (JH f hf)
  ·refine⟨fun p=>match p with|0=>some f0|p+1=>cf p,fun p u' y' hu hy=>?_,fun p q f hp hq=>?_,fun p f hp=>?_⟩
   ·cases p with
    |zero=>simp at hu hy;subst hu;subst hy;exact⟨hx,.inr (.inr ⟨f0,n,es,k,e1,rfl,e4,e5⟩)⟩
    |succ p =>
     obtain⟨q1,q2⟩:=h1 p u' y' (by simpa using hu) (by simpa using hy)
     exact⟨q1,q2⟩
   ·cases p with
    |zero =>
     cases q with
     |zero=>rfl
     |succ q =>
      simp at hp hq;subst hp;exact absurd (by rw[e3];exact List.mem_cons_self) (h3 q f0 hq)
    |succ p =>
     cases q with
     |zero =>
      simp at hp hq;subst hq;exact absurd (by rw[e3];exact List.mem_cons_self) (h3 p f0 hp)
     |succ q=>simp at hp hq;rw[h2 _ _ f hp hq]
   ·cases p with
    |zero=>simp at hp;subst hp;exact e2
    |succ p=>exact fun hf=>h3 p f hp (JH f hf)
def sk(P:Program):List ResultVar→List qX→Bool
 |[],[]=>true
 |.tmp t::rs,.t s _::vs=>t==s&&sk P rs vs
 |.cell a ty::rs,.c s agg sh::vs=>a==s&&pL P ty (bif agg then some sh.length else none)&&(agg || sh.length==1)&&sk P rs vs
 |_,_=>false
def CQ(X:Cx)(used:List Nat)(u:V)(x:Value)(fy:List Nat):Prop :=
 (u.cM=true∧FA X used u x fy)∨∃us ys,u=.agg us∧x=.agg ys.toArray∧v8 X used us ys fy∧∀z∈us,z.cM=true
theorem PF{X:Cx}{cs:List V}{xs:Array Value}(hl:cs.length=xs.size)(hx:∀(i:Nat) (v:V) (y:Value),cs[i]?=some v→xs[i]?=some y→bj X v y) :
  cs.length=xs.toList.length∧∀(i:Nat) (v:V) (y:Value),cs[i]?=some v→xs.toList[i]?=some y→bj X v y :=
 ⟨by simpa using hl,fun i v y hv hy=>hx i v y hv (by simpa using hy)⟩
theorem PG(hR:R E g S a w){used fy:List Nat}{rv:qX}{u:V}(h:wD S used rv=some (u,fy)) :
  (∀s sh,rv=.t s sh→CQ (S.cx g w) used u (a.tmps.getD s undef) fy) ∧
  (∀s agg sh ty,rv=.c s agg sh→pL P ty (bif agg then some sh.length else none)=true→(agg=false→sh.length=1)→∃x,(do loadVar ty (←asAddr (a.tmps.getD s undef)):Sem Value).run P w=.ok x w∧CQ (S.cx g w) used u x fy):=by
 refine⟨fun s sh e=>?_,fun s agg sh ty e hs FC=>?_⟩
 ·subst e
  simp only[wD]at h;split at h
  ·rename_i cs hl
   split at h
   ·rename_i us vw h1
    cases h;obtain⟨x,hx,hr⟩:=hR.env s _ hl;obtain⟨xs,e,oG,CM⟩:=pj hr;subst e;obtain⟨p1,p2⟩:=PF oG CM;have hg:a.tmps.getD s undef=.agg xs:=by simp[hx]
    rw[hg];exact .inr ⟨us,xs.toList,rfl,rfl,FB rfl h1 p1 p2,fun z hz=>(AJ h1 z hz).1⟩
   ·cases h
  ·rename_i v lh hl
   split at h
   ·obtain⟨x,hx,hr⟩:=hR.env s _ hl
    have hg:a.tmps.getD s undef=x:=by simp[hx]
    rw[hg];exact .inl ⟨(JF h).1,PE rfl h hr⟩
   ·cases h
  ·cases h
 ·subst e
  simp only[wD]at h;split at h
  ·rename_i id hl
   split at h
   ·rename_i cs fE
    split at h
    ·rename_i us vw h1
     cases h;obtain⟨x,hx,hr⟩:=hR.env s _ hl;have e2:=wG hr;subst e2;have hg:a.tmps.getD s undef=.pointer (some ⟨g.κ id,0,none⟩):=by simp[hx];rfl
     have fx:∀(j:Nat) (v:V),cs[j]?=some v→∃y,cellAt w.heap (g.κ id) (0+j)=some y∧bj (S.cx g w) v y:=fun j v hv=>by
      obtain⟨_,_,_,c,et,hh,_,hj⟩:=(hR.bb id cs fE).resolve_left (fun h=>by rw[h.1]at hv;simp at hv)
      obtain⟨_,y,hy,pN⟩:=hj j v hv;exact⟨y,by rw[lg hh,Nat.zero_add];exact hy,pN⟩
     have dD:=AJ h1;have hlen:∀{sh:Sh} {used fy:List Nat} {vs us:List V},mg S sh used vs=some (us,fy)→vs.length=sh.length∧us.length=sh.length:=by
      intro sh;induction sh with
      |nil=>intro used fy vs us h;cases vs<;>simp[mg]at h;obtain⟨rfl,_⟩:=h;simp
      |cons s sh ih =>
       intro used fy vs us h;cases vs with
       |nil=>simp[mg]at h
       |cons v vs =>
        simp only[mg]at h;split at h
        ·split at h
         ·rename_i h2;cases h;obtain⟨p,q⟩:=ih h2;simp[p,q]
         ·cases h
        ·cases h
     obtain⟨nk,oG⟩:=hlen h1;cases agg with
     |true =>
      have Am:loadAt (some sh.length) cs 0=some (.agg cs):=by
       have:Nat.ble (0+sh.length) cs.length=true:=Nat.ble_eq_true_of_le (by omega)
       simp only[loadAt,this,cond_true,List.drop_zero,Option.some.injEq,V.agg.injEq];exact List.take_of_length_le (by omega)
      obtain⟨z,hz,JI⟩:=EN (P:=P) (w:=w) (t:=ty) hs fx Am;obtain⟨xs,e,yq,CM⟩:=pj JI;subst e;obtain⟨p1,p2⟩:=PF yq CM;refine⟨_,?_,.inr ⟨us,xs.toList,by simp[EJ],rfl,FB rfl h1 p1 p2,fun z hz=>(dD z hz).1⟩⟩
      rw[hg];simp only[Sem.run_bind,asAddr,Sem.run_pure,Result.andThen_ok];exact hz
     |false =>
      match cs,us,nk,oG with
      |[v],[u],nk,oG =>
       have Am:loadAt none [v] 0=some v:=rfl;obtain⟨z,hz,JI⟩:=EN (P:=P) (w:=w) (t:=ty) hs fx Am;have Yy:=FB (X:=S.cx g w) rfl h1 (ys:=[z]) rfl (fun i v' y hv hy=>by
        cases i with
        |zero=>simp at hv hy;subst hv;subst hy;exact JI
        |succ i=>simp at hv)
       refine⟨z,?_,.inl ⟨(dD u (by simp)).1,?_⟩⟩
       ·rw[hg]
        simp only[Sem.run_bind,asAddr,Sem.run_pure,Result.andThen_ok];exact hz
       ·cases Yy with
        |cons h1 h2=>cases h2;exact h1
      |[],_,nk,oG=>have:=FC rfl;simp at nk;omega
      |_::_::_,_,nk,oG=>have:=FC rfl;simp at nk;omega
      |[_],[],nk,oG=>simp at nk oG;omega
      |[_],_::_::_,nk,oG=>simp at nk oG;omega
    ·cases h
   ·cases h
  ·cases h
inductive AK (X:Cx):List Nat→List V→List Value→Prop
 |nil (used):AK X used [] []
 |cons {used sj u us x xs} (h:CQ X used u x sj) (hs:AK X sj us xs):AK X used (u::us) (x::xs)
def CR(a:Act):ResultVar→Sem Value
 |.tmp t=>pure (a.tmps.getD t undef)
 |.cell s t=>do loadVar t (←asAddr (a.tmps.getD s undef))
theorem JJ(hR:R E g S a w):∀{rs:List ResultVar} {vs:List qX} {used:List Nat} {us:List V},sk P rs vs=true→s8 S used vs=some us →
  ∃xs,(rs.mapM (CR a)).run P w=.ok xs w∧AK (S.cx g w) used us xs
 |[],[],used,us,_,h=>by simp only[s8,Option.some.injEq]at h;subst h;exact⟨[],by simp,.nil _⟩
 |[],_::_,_,_,h,_=>by simp[sk]at h
 |.tmp _::_,[],_,_,h,_=>by simp[sk]at h
 |.cell _ _::_,[],_,_,h,_=>by simp[sk]at h
 |.tmp _::_,.c _ _ _::_,_,_,h,_=>by simp[sk]at h
 |.cell _ _::_,.t _ _::_,_,_,h,_=>by simp[sk]at h
 |.tmp t::rs,.t s sh::vs,used,us,bz,h=>by
  simp only[sk,Bool.and_eq_true,beq_iff_eq]at bz;obtain⟨rfl,bz⟩:=bz;simp only[s8]at h;split at h
  ·rename_i v sj h1
   split at h
   ·rename_i Ac h2
    cases h;obtain⟨xs,q1,q2⟩:=JJ hR bz h2;have:=(PG (P:=P) hR h1).1 t sh rfl;refine⟨_::xs,?_,.cons this q2⟩;simp[List.mapM_cons,CR,q1]
   ·cases h
  ·cases h
 |.cell c ty::rs,.c s agg sh::vs,used,us,bz,h=>by
  simp only[sk,Bool.and_eq_true,beq_iff_eq,Bool.or_eq_true]at bz;obtain⟨⟨⟨rfl,hs⟩,FC⟩,bz⟩:=bz;simp only[s8]at h;split at h
  ·rename_i v sj h1
   split at h
   ·rename_i Ac h2
    cases h;obtain⟨xs,q1,q2⟩:=JJ hR bz h2;obtain⟨x,r1,r2⟩:=(PG (P:=P) hR h1).2 c agg sh ty rfl hs (fun e=>FC.resolve_left (by simp[e]))
    refine⟨x::xs,?_,.cons r2 q2⟩;have Yz:(CR a (.cell c ty)).run P w=.ok x w:=r1;simp only[List.mapM_cons,Sem.run_bind,Yz,Result.andThen_ok];simp[q1]
   ·cases h
  ·cases h
theorem CQ.YA{X:Cx}{used fy:List Nat}{u:V}{x:Value}(h:CQ X used u x fy):FA X used u x fy:=by
 rcases h with⟨_,h⟩ | ⟨us,ys,rfl,rfl,h,hc⟩
 ·exact h
 ·obtain⟨hl,cf,h1,h2,h3⟩:=h.JG
  refine⟨.agg _ _ (by simpa using hl) (fun i v y hv hy=>?_),.inl ⟨(fun _ _ _ e=>by cases e),h.sub⟩⟩
  rw[List.getElem?_map]at hv;cases hu:us[i]? with
  |none=>simp[hu]at hv
  |some z =>
   simp[hu]at hv;subst hv;have:=(h1 i z y hu (by simpa using hy)).1
   have hz:=hc z (List.mem_of_getElem? hu);cases z<;>first|exact this|(simp[V.cM]at hz)
theorem AK.toList{X:Cx}{used:List Nat}{us:List V}{xs:List Value}(h:AK X used us xs):∃fy,v8 X used us xs fy:=by
 induction h with
 |nil used=>exact⟨used,.nil used⟩
 |cons h hs ih =>
  obtain⟨fy,h'⟩:=ih;exact⟨fy,.cons h.YA h'⟩
theorem YB{base:Nat}(hR:R E g S a w){r:V}{x:Value}{us:List V}{ys:List Value}{fy:List Nat}(hl:v8 (S.cx g w) [] us ys fy)(PH:r.fR=us)(ri:Cu r x ys)(JK:∀v∈us,∀d,(strip v).cu d=false)
  (gG:E.w0.heap.size=base) :
  ∃g',g'.m=g.m∧g'.γ=g.γ∧(∀b i,g'.ow b=.az i↔g.ow b=.az i)∧uy ⟨w.heap,g',S.az.length,[]⟩ base E.own r x∧∀b p q,g'.ow b=.cell p q↔g.ow b=.cell p q:=by
 classical
 obtain⟨hlen,cf,h1,h2,_⟩:=hl.JG
 let own:Nat→Ow:=fun b=>match g.ow b with
  |.az i=>.az i
  |.tok f=>if h:∃p,cf p=some f then .tok h.choose else .none
  |.cell p q=>.cell p q
  |_=>.none
 let g':Gh:={ g with ow:=own }
 refine⟨g',rfl,rfl,fun b i=>?_,⟨ys,ri,by rw[PH];exact hlen.symm,fun p v y hv hy=>?_⟩,fun b p q=>?_⟩
 ·show own b=_↔_
  simp only[own];split
  ·rename_i h;rw[h]
  ·rename_i f h
   rw[h];split<;>exact⟨(fun e=>by cases e),(fun e=>by cases e)⟩
  ·rename_i h;rw[h]
  ·rename_i h1 h2 h3
   exact⟨(fun e=>by cases e),fun e=>absurd e (h1 i)⟩
 ·rw[PH]at hv
  obtain⟨q1,q2⟩:=h1 p v y hv hy;have hm:=JK v (List.mem_of_getElem? hv);have le:Le ⟨w.heap,g,S.az.length,[]⟩ ⟨w.heap,g',S.az.length,[]⟩:=⟨Nat.le_refl _,fun _ _ _ _ h=>h,fun _ _=>Nat.le_refl _,Nat.le_refl _,fun _ _=>rfl⟩;refine⟨bj.mono le q1 (fun d=>.inr (hm d)),hm,fun t n es e=>?_⟩;rcases q2 with q2 | ⟨n',e1,e2⟩ | ⟨f,n',nY,k,e1,e2,e3,e4⟩
  ·exact absurd e (q2 t n es)
  ·rw[e1]at e;cases e;exact .inl ⟨rfl,e2⟩
  ·rw[e1]at e
   cases e;rcases e3 with⟨a1,a2⟩ | ⟨b,off,cap,c,et,b1,b2,b3,b4,b5⟩
   ·exact .inl ⟨List.length_eq_zero_iff.1 a1,a2⟩
   ·obtain⟨c1,c2,c3⟩:=hR.bm f k b e4 b1
    refine .inr ⟨b,off,cap,c,et,b2,by rw[←gG];exact c2,?_,b3,b4,b5⟩
    show own b=_;simp only[own];rw[c1];have hex:∃p,cf p=some f:=⟨p,e2⟩;simp only[dif_pos hex];rw[h2 _ _ f hex.choose_spec e2]
 ·show own b=_↔_
  simp only[own];split
  ·rename_i h;rw[h]
  ·rename_i f h
   rw[h];split<;>exact⟨(fun e=>by cases e),(fun e=>by cases e)⟩
  ·rename_i h;rw[h]
  ·rename_i h3
   exact⟨(fun e=>by cases e),fun e=>absurd e (h3 p q)⟩
theorem YC{used fy:List Nat}{rv:qX}{u:V}(h:wD S used rv=some (u,fy)):(u.cM=true∧∀d,(strip u).cI d=false)∨∃us,u=.agg us∧∀z∈us,z.cM=true∧∀d,(strip z).cI d=false:=by
 cases rv with
 |t s sh =>
  simp only[wD]at h;split at h
  ·split at h
   ·rename_i us vw h1;cases h;exact .inr ⟨us,rfl,AJ h1⟩
   ·cases h
  ·split at h
   ·exact .inl (JF h)
   ·cases h
  ·cases h
 |c s agg sh =>
  simp only[wD]at h;split at h
  ·split at h
   ·split at h
    ·rename_i us vw h1
     cases h;unfold EJ;split
     ·rename_i v;exact .inl (AJ h1 v (by simp))
     ·exact .inr ⟨us,rfl,AJ h1⟩
    ·cases h
   ·cases h
  ·cases h
theorem FD:∀{rs:List qX} {used:List Nat} {us:List V},s8 S used rs=some us→∀u∈us,(u.cM=true∧∀d,(strip u).cI d=false)∨∃us,u=.agg us∧∀z∈us,z.cM=true∧∀d,(strip z).cI d=false
 |[],used,us,h=>by simp only[s8,Option.some.injEq]at h;subst h;simp
 |r::rs,used,us,h=>by
  simp only[s8]at h;split at h
  ·rename_i v sj h1
   split at h
   ·rename_i vs h2
    cases h;intro u hu;rcases List.mem_cons.1 hu with e|e
    ·subst e;exact YC h1
    ·exact FD h2 u e
   ·cases h
  ·cases h
theorem PI{u:V}(h:(u.cM=true∧∀d,(strip u).cI d=false)∨∃us,u=.agg us∧∀z∈us,z.cM=true∧∀d,(strip z).cI d=false)(d:Nat):(strip u).dC d=false:=by
 rcases h with⟨hc,h⟩ | ⟨us,rfl,h⟩
 ·have:=h d
  cases u<;>first|exact this|(simp[V.cM]at hc)
 ·simp only[strip,V.dC,List.any_eq_false,List.mem_map]
  rintro x ⟨z,hz,rfl⟩;obtain⟨hc,hm⟩:=h z hz;have:=hm d;cases z<;>first|(simpa [strip] using this)|(simp[V.cM]at hc)
theorem YD{rs:List qX}{r:V}(h:s9 S rs=some r)(d:Nat):(wV r).cu d=false:=by
 unfold s9 at h;split at h
 ·rename_i v hv
  cases h;have hc:=FD hv r (by simp)
  rcases hc with⟨iQ,hm⟩ | ⟨us,rfl,hm⟩
  ·have:=rf (hm d)
   cases r<;>first|exact this|(simp[V.cM]at iQ)
  ·simp only[wV,V.fR,rj,V.cu,V.dC,List.any_eq_false,List.mem_map]
   rintro x ⟨z,hz,rfl⟩;simp[(hm z hz).2 d]
 ·rename_i vs lh hv
  cases h;simp only[wV,V.fR,rj,V.cu,List.any_eq_false,List.mem_map];rintro x ⟨z,hz,rfl⟩;simp[PI (FD hv z hz) d]
 ·cases h
def JM(nt:Nat):Code→Option FuncId
 |.region _ ops false=>match ops.toList with
  |[o,q]=>match o.dst,o.op,o.guard,q.dst,q.op,q.guard with
   |some d,.move (.tmp 0),none,none,.defer ⟨.value (.func f),as,_⟩,none=>match as.toList with
    |[.tmp e]=>bif e==d&&Nat.blt d nt then some f else none
    |_=>none
   |_,_,_,_,_,_=>none
  |_=>none
 |_=>none
def w7(nt:Nat):List FuncId→Code→Option Code
 |[],c=>some c
 |f::fs,.seq a c=>bif JM nt a==some f then w7 nt fs c else none
 |_,_=>none
def bP(P:Program)(ps:List (Nat×Nat))(fn:Func)(vf:bq):Bool :=
 (match fn.body with
  |some c=>(match w7 fn.ntmps vf.defs c with|some c'=>jS P ps fn.ntmps c' vf.body|none=>false)&&(vf.defs.isEmpty || (OC c&&fn.results.toList.isEmpty&&vf.defs.all (E3 P)))
  |none=>false)&&Nat.ble vf.nparams fn.ntmps&&sk P fn.results.toList vf.results && !(fn.name== "runtime.NumGoroutine")
theorem PJ:∀{vs:List V} {i s:Nat} {v:V},look s (oA i vs)=some v→∃k,s=i+k∧vs[k]?=some v
 |[],i,s,v,h=>by simp[oA,look]at h
 |u::us,i,s,v,h=>by
  simp only[oA]at h;rw[dQ]at h;split at h
  ·rename_i e;cases h;exact⟨0,by omega,by simp⟩
  ·obtain⟨k,h1,h2⟩:=PJ h
   exact⟨k+1,by omega,by simpa using h2⟩
theorem PK{fn:Func}{xs:List Value}(h:(fn.results.toList.mapM (CR a)).run P w=.ok xs w):(results fn a.tmps).run P w=.ok (if h:xs.length=1 then xs[0] else .tuple xs.toArray) w:=by
 have e:results fn a.tmps=(do
   let vs ← fn.results.mapM (CR a)
   pure (if h:vs.size=1 then vs[0] else .tuple vs)):=by
  unfold results;congr 1
 rw[e,Array.mapM_eq_mapM_toList];simp only[Sem.run_bind,Sem.run_map,h,Result.andThen_ok,Sem.run_pure];simp
theorem akS{r:V}{xs:List Value}{us:List V}(nc:r=.tuple us):Cu r (.tuple xs.toArray) xs:=by
 subst nc;rfl
theorem PL{ps:List (Nat×Nat)}(iR:∀f k,look f ps=some k→pU P k f)(hm:P.follows .mixedOrders=true)(hC:oN P C){n:Nat}{fn:Func}{c:Code}{vf:bq}(h1:jS P ps fn.ntmps c vf.body=true)
  (h3:sk P fn.results.toList vf.results=true) {args:List V} {G G':List aW} {r:V} (jR:vf.call C n args G=some (r,G')) :
  (∀d,(wV r).cu d=false)∧∀(D:List Deferred) (w:World) (g:Gh) (a0:Act),qp w.heap g G→a0.tmps.size=fn.ntmps →
   (∀(i:Nat) (v:V),args[i]?=some v→∃x,a0.tmps[i]?=some x∧bj ⟨w.heap,g,G.length,[]⟩ v x)→a0.defers=D →
   c.wp P (fun e a' w'=>(e=.normal∨e=.ret)∧a'.defers=D∧∃v,(results fn a'.tmps).run P w'=.ok v w' ∧
    ∃x lY,Ending.returned v=.returned x∧Ext w g G.length w' lY G'.length∧qp w'.heap lY G'∧uy ⟨w'.heap,lY,G'.length,[]⟩ w.heap.size (kM g) r x) a0 w:=by
 unfold bq.call at jR;cases hlen:args.length==vf.nparams with
 |false=>simp[hlen]at jR
 |true =>
   simp only[hlen,cond_true]at jR;have hlen:=eq_of_beq hlen;have key:∃ve S,VC.run C n vf.body { env:=oA 0 args,bb:=[],bm:=[],az:=G }=some (ve,S)∧(ve=.normal∨ve=.ret)∧s9 S vf.results=some r∧S.az=G':=by
    split at jR
    ·rename_i S aj
     split at jR
     ·rename_i v hv
      cases jR;exact⟨_,S,aj,.inl rfl,hv,rfl⟩
     ·cases jR
    ·rename_i S aj
     split at jR
     ·rename_i v hv
      cases jR;exact⟨_,S,aj,.inr rfl,hv,rfl⟩
     ·cases jR
    ·cases jR
   obtain⟨ve,S,aj,Ij,ko,rfl⟩:=key;refine⟨YD ko,fun D w g a0 hG eH hx hD=>?_⟩
   let E:Entry:=⟨w,g,G.length,fn.ntmps,D⟩
   have hR:R E g { env:=oA 0 args,bb:=[],bm:=[],az:=G } a0 w:=by
    refine⟨fun s v hs=>?_,fun id cs h=>by simp[look]at h,fun f k b h _=>by simp[look]at h,hG,hD,eH,?_⟩
    ·obtain⟨k,hk,hv⟩:=PJ hs
     have CS:s=k:=by omega
     subst CS;exact hx s v hv
    ·exact⟨rfl,rfl,rfl,Nat.le_refl _,Nat.le_refl _,fun _ _=>rfl,fun i a b=>absurd a (by show ¬ G.length≤i;simp at b;omega),fun _ _ _ _=>⟨rfl,rfl⟩,fun _ _ _=>⟨fun _ _ _ h=>h,Nat.le_refl _⟩,fun b p q _ h=>⟨p,q,h⟩,fun b i h _=>⟨h,(hG.z b i h).2⟩⟩
   refine wp_mono (Yv (E:=E) iR hm hC n h1 hR aj) fun e a' w' he=>?_;obtain⟨rfl,g',jb⟩:=he;have yr:∃us,s8 S [] vf.results=some us:=by
    unfold s9 at ko;split at ko
    ·exact⟨_,by assumption⟩
    ·exact⟨_,by assumption⟩
    ·cases ko
   obtain⟨us,nc⟩:=yr;obtain⟨ys,q1,q2⟩:=JJ jb h3 nc;have q3:=PK q1;have dD:=FD nc;have fin:∀x,(results fn a'.tmps).run P w'=.ok x w'→(∃zs ml fy,v8 (S.cx g' w') [] ml zs fy∧r.fR=ml∧Cu r x zs∧∀v∈ml,∀d,(strip v).cu d=false) →
     a'.defers=D∧∃v,(results fn a'.tmps).run P w'=.ok v w'∧(∃x lY,Ending.returned v=.returned x∧Ext w g G.length w' lY S.az.length∧qp w'.heap lY S.az∧uy ⟨w'.heap,lY,S.az.length,[]⟩ w.heap.size (kM g) r x):=by
    rintro x hx ⟨zs,ml,fy,hl,hc,hp,JK⟩;obtain⟨lY,e1,e2,e3,e4,e5⟩:=YB jb hl hc hp JK (base:=w.heap.size) rfl;refine⟨jb.defers,x,hx,x,lY,rfl,?_,⟨?_,?_,fun b i h=>by rw[e1];exact jb.az.z b i ((e3 b i).1 h)⟩,e4⟩
    ·exact⟨jb.same.os,jb.same.tape,jb.same.output,jb.same.size,jb.same.fb,fun i hi=>by rw[e2];exact jb.same.γ i hi,fun i a b=>by rw[e2];exact jb.same.γnew i a b,fun b hb lh uh=>by rw[e1];exact jb.same.lz b hb lh uh,
      fun b hb hw=>by rw[e1];exact jb.same.grow b hb hw,fun b p q hb h=>jb.same.ig b p q hb ((e5 b p q).1 h),fun b i h hb=>jb.same.lv b i ((e3 b i).1 h) hb⟩
    ·intro i o ho
     rcases jb.az.obj i o ho with k0 | ⟨k1,k2⟩
     ·exact .inl k0
     refine .inr ⟨by rw[e2];exact(e3 _ i).2 k1,?_⟩
     cases o with
     |map es =>
      obtain⟨k3,c,e,k4,k5,k6⟩:=k2;rw[e2];refine⟨by rw[e1];exact k3,c,e,k4,k5,fun j v y hj hy=>?_⟩
      obtain⟨k7,k8,k9,YE⟩:=k6 j v y hj hy;have le:Le ⟨w'.heap,g',S.az.length,[]⟩ ⟨w'.heap,lY,S.az.length,[]⟩:=⟨Nat.le_refl _,fun _ _ _ _ h=>h,fun b _=>by rw[e1];exact Nat.le_refl _,Nat.le_refl _,fun _ _=>by rw[e2]⟩
      exact⟨k7,k8,k9.mono le fun d=>.inr (k7 d),YE.mono le fun d=>.inr (tc (k8 d))⟩
     |cells cs =>
      obtain⟨k3,c,e,k4,k5,k6⟩:=k2;rw[e2];refine⟨by rw[e1];exact k3,c,e,k4,k5,fun j v y hj hy=>?_⟩
      obtain⟨k7,k8,k9⟩:=k6 j v y hj hy;have le:Le ⟨w'.heap,g',S.az.length,[]⟩ ⟨w'.heap,lY,S.az.length,[]⟩:=⟨Nat.le_refl _,fun _ _ _ _ h=>h,fun b _=>by rw[e1];exact Nat.le_refl _,Nat.le_refl _,fun _ _=>by rw[e2]⟩
      exact⟨k7,k8,k9.mono le fun d=>.inr (k8 d)⟩
    ·intro i o ho
     have k1:=jb.az.own i o ho;rw[e2];cases o with
     |map es=>trivial
     |cells cs =>
      intro j n es y hj hy;rcases k1 j n es y hj hy with h | ⟨q,cap,c',e',q1,q2,q3,q4,q5,q6⟩
      ·exact .inl h
      ·exact .inr ⟨q,cap,c',e',q1,(e5 _ _ _).2 q2,by rw[e1];exact q3,q4,q5,q6⟩
   have goal:a'.defers=D∧∃v,(results fn a'.tmps).run P w'=.ok v w'∧(∃x lY,Ending.returned v=.returned x∧Ext w g G.length w' lY S.az.length∧qp w'.heap lY S.az∧uy ⟨w'.heap,lY,S.az.length,[]⟩ w.heap.size (kM g) r x):=by
    refine fin _ q3 ?_;unfold s9 at ko;rw[nc]at ko
    match us,ys,q2,ko,dD with
    |[u],[x],q2,ko,dD =>
     simp only[Option.some.injEq]at ko;subst ko;cases q2 with
     |cons uw akT =>
      rcases uw with⟨iQ,uw⟩ | ⟨vs,zs,rfl,rfl,hl,hc⟩
      ·refine⟨[x],[u],_,.cons uw (.nil _),?_,?_,fun v hv d=>?_⟩
       ·cases u<;>first|rfl|(simp[V.cM]at iQ)
       ·simp only[List.length_singleton,dif_pos,List.getElem_cons_zero]
        cases u<;>first|rfl|(simp[V.cM]at iQ)
       ·simp only[List.mem_singleton]at hv
        subst hv;rcases dD v (by simp) with⟨_,h⟩ | ⟨vs,rfl,_⟩
        ·exact rf (h d)
        ·simp[V.cM]at iQ
      ·refine⟨zs,vs,_,hl,rfl,?_,fun v hv d=>?_⟩
       ·simp only[List.length_singleton,dif_pos,List.getElem_cons_zero]
        rfl
       ·rcases dD (.agg vs) (by simp) with⟨h,_⟩ | ⟨Ac,e,h⟩
        ·simp[V.cM]at h
        ·cases e;exact rf ((h v hv).2 d)
    |[],ys,q2,ko,dD =>
     cases q2;simp only[Option.some.injEq]at ko;subst ko;exact⟨[],[],[],.nil _,rfl,rfl,by simp⟩
    |u1::u2::us,ys,q2,ko,dD =>
     simp only[Option.some.injEq]at ko;subst ko;obtain⟨fy,hl⟩:=q2.toList;have PM:=hl.JG.1;refine⟨ys,_,fy,hl,rfl,?_,fun v hv d=>tc (PI (dD v hv) d)⟩;rw[dif_neg (by simp at PM;omega)]
     rfl
    |[u],[],q2,_,_=>cases q2
    |[u],_::_::_,q2,_,_=>cases q2 with|cons _ h=>cases h
   rcases Ij with rfl|rfl
   ·exact⟨.inl rfl,goal⟩
   ·exact⟨.inr rfl,goal⟩
theorem JP{w:World}{g:Gh}{G:List aW}{args:List V}{xs:List Value}{fn:Func}(ti:args.length=xs.length)(hn:args.length≤fn.ntmps)
  (hx:∀(i:Nat) (v:V) (x:Value),args[i]?=some v→xs[i]?=some x→bj ⟨w.heap,g,G.length,[]⟩ v x) :
  (xs.toArray++Array.replicate (fn.ntmps-xs.toArray.size) undef).size=fn.ntmps ∧
  ∀(i:Nat) (v:V),args[i]?=some v→∃x,(xs.toArray++Array.replicate (fn.ntmps-xs.toArray.size) undef)[i]?=some x∧bj ⟨w.heap,g,G.length,[]⟩ v x:=by
 refine⟨by simp;omega,fun s v hv=>?_⟩
 have bG:s<xs.length:=by rw[←ti];exact eZ hv
 refine⟨xs[s],?_,hx s v xs[s] hv (List.getElem?_eq_getElem bG)⟩;rw[Array.getElem?_append_left (by simpa using bG)]
 simp[bG]
theorem CT{C:bC}{vf:bq}(h:vf.defs=[]){args:List V}{o:Option (V×List aW)}:wrap C vf args o=o:=by
 unfold wrap;rcases o with _ | ⟨r,G⟩
 ·rfl
 ·simp only[h]
theorem PN{C:bC}{n:Nat}{vf:bq}{args:List V}{G:List aW}{y:V×List aW}(h:vf.call C n args G=some y):args.length=vf.nparams:=by
 unfold bq.call at h;cases hlen:args.length==vf.nparams with
 |false=>simp[hlen]at h
 |true=>exact eq_of_beq hlen
theorem YF{ps:List (Nat×Nat)}(iR:∀f k,look f ps=some k→pU P k f)(hm:P.follows .mixedOrders=true)(hC:oN P C){n:Nat}{f:FuncId}{fn:Func}{vf:bq}(pT:P.funcs[f]?=some fn)(bz:bP P ps fn vf=true)(rp:vf.defs=[]){args:List V}{G G':List aW}{r:V}
  (jR:vf.call C n args G=some (r,G')):r8 P f args G r G':=by
 simp only[bP,Bool.and_eq_true,Bool.not_eq_true']at bz;obtain⟨⟨⟨h1,h2⟩,h3⟩,h4⟩:=bz;have h2:=Nat.le_of_ble_eq_true h2;have hlen:=PN jR;cases hb:fn.body with
 |none=>rw[hb]at h1;cases h1
 |some c =>
  rw[hb]at h1;simp only[rp,w7,Bool.and_eq_true]at h1;obtain⟨k1,k2⟩:=PL iR hm hC h1.1 h3 jR;refine⟨⟨fn,pT,by simp[hb],h4⟩,k1,fun w g xs hG ti hx=>?_,fun _ u w g xs hG ti hx=>?_⟩
  ·obtain⟨e1,e2⟩:=JP (fn:=fn) ti (by omega) hx
   refine calls_of_wp pT hb (wp_mono (k2 [] w g _ hG e1 e2 rfl) fun e a' w' he=>?_);obtain⟨rfl|rfl,he⟩:=he
   ·exact he
   ·exact he
  ·obtain⟨e1,e2⟩:=JP (fn:=fn) ti (by omega) hx
   refine callsD_of_wp pT hb (wp_mono (k2 [] w g _ hG e1 e2 rfl) fun e a' w' he=>?_);obtain⟨rfl|rfl,he⟩:=he
   ·exact he
   ·exact he
def AM(x:Value)(f:FuncId):Deferred:=⟨.fn (.func f) #[],#[x]⟩
theorem PO{nt:Nat}{x0:Value}{Q:Exit→Act→World→Prop}{w:World}:∀{fs:List FuncId} {c c':Code},w7 nt fs c=some c'→∀{a:Act},a.tmps.size=nt→a.tmps[0]?=some x0 →
  (∀a':Act,a'.tmps.size=nt→a'.tmps[0]?=some x0→a'.defers=fs.reverse.map (AM x0)++a.defers→c'.wp P Q a' w)→c.wp P Q a w
 |[],c,c',h,a,hs,h0,hK=>by
  simp only[w7,Option.some.injEq]at h;subst h;exact hK a hs h0 (by simp)
 |f::fs,.seq d c,c',h,a,hs,h0,hK=>by
  simp only[w7]at h;cases hd:JM nt d==some f with
  |false=>simp[hd]at h
  |true =>
   simp only[hd,cond_true]at h;have ik:=eq_of_beq hd
   clear hd
   have hd:=ik
   clear ik
   unfold JM at hd;split at hd
   ·rename_i id ops
    split at hd
    ·rename_i o q YG
     split at hd
     ·rename_i dd g as ts e1 e2 e3 e4 e5 e6
      split at hd
      ·rename_i ee has
       cases hc:ee==dd&&Nat.blt dd nt with
       |false=>simp[hc]at hd
       |true =>
        simp only[hc,cond_true,Option.some.injEq]at hd;subst hd;simp only[Bool.and_eq_true,beq_iff_eq]at hc;obtain⟨rfl,bG⟩:=hc;have bG:ee<nt:=Nat.le_of_ble_eq_true bG;have YI:as = #[.tmp ee]:=by apply Array.ext';simpa using has
        subst YI;have YJ:ops = #[o,q]:=by apply Array.ext';simpa using YG
        subst YJ;have v0:a.eval (.tmp 0)=x0:=by simp[Act.eval,h0]
        refine wp_seq ?_;refine wp_region ?_;show wpOps P #[o,q] _ [0,1] a w;rw[wpOps_cons];unfold wpOp;have w1:Region.wanted o (yielded #[o,q] a.tmps)=true:=by simp[Region.wanted,e3]
        simp only[List.getElem?_toArray,List.getElem?_cons_zero,w1,if_true];refine .inl ?_;have x1:(execOp a.eval o).run P w=.ok (.value x0) w:=by
         unfold execOp;rw[e2];simp[v0]
        unfold Oper.wp;rw[x1,Oper.upon_value,e1,wpOps_cons];unfold wpOp;have w2:Region.wanted q (yielded #[o,q] (a.put (some ee) x0).tmps)=true:=by simp[Region.wanted,e6]
        simp only[List.getElem?_toArray,List.getElem?_cons_succ,List.getElem?_cons_zero,w2,if_true];refine .inl ?_;have v1:(a.put (some ee) x0).eval (.tmp ee)=x0:=by simp[Act.eval,Act.put,hs,bG]
        have x2:(execOp (a.put (some ee) x0).eval q).run P w=.ok (.defer (AM x0 g)) w:=by
         unfold execOp;rw[e5];simp only[resolve,Sem.run_bind];simp[Deferred.ofValue,Act.eval,AM]at v1 ⊢;simp[v1]
        unfold Oper.wp;rw[x2,Oper.upon_defer,e4];simp only[wpOps];refine PO h ?_ ?_ fun a' k1 k2 k3=>hK a' k1 k2 ?_
        ·simp[Act.put,hs]
        ·simp only[Act.put,Array.getElem?_setIfInBounds]
         split
         ·rename_i e;subst e;simp[hs,bG]
         ·exact h0
        ·rw[k3]
         simp[Act.put]
      ·cases hd
     ·cases hd
    ·cases hd
   ·cases hd
 |_::_,.skip,_,h,_,_,_,_=>by simp[w7]at h
 |_::_,.region ..,_,h,_,_,_,_=>by simp[w7]at h
theorem YK{fn:Func}(h:fn.results.toList.isEmpty=true)(tmps:Array Value)(w:World):(results fn tmps).run P w=.ok (.tuple #[]) w:=by
 have h':fn.results.toList=[]:=by simpa using h
 have:=PK (P:=P) (fn:=fn) (a:={ tmps:=tmps,defers:=[] }) (w:=w) (xs:=[]) (by rw[h'];rfl)
 simpa using this
theorem Ext.trans{w w' PQ:World}{g g' lY:Gh}{N N' PR:Nat}(h:Ext w g N w' g' N')(k:Ext w' g' N' PQ lY PR):Ext w g N PQ lY PR where
 os:=k.os.trans h.os
 tape:=k.tape.trans h.tape
 output:=k.output.trans h.output
 size:=Nat.le_trans h.size k.size
 fb:=Nat.le_trans h.fb k.fb
 γ:=fun i hi=>(k.γ i (Nat.lt_of_lt_of_le hi h.fb)).trans (h.γ i hi)
 γnew:=fun i h1 h2=>by
  by_cases hi:i<N'
  ·rw[k.γ i hi];exact h.γnew i h1 hi
  ·exact Nat.le_trans h.size (k.γnew i (by omega) h2)
 lz:=fun b hb lh uh=>by
  obtain⟨p1,p2⟩:=h.lz b hb lh uh;obtain⟨q1,q2⟩:=k.lz b (Nat.lt_of_lt_of_le hb h.size) (fun i hi e=>by
   obtain⟨k1,k2⟩:=h.lv b i e hb;exact lh i k2 k1) (fun⟨p,q,hw⟩=>uh (h.ig b p q hb hw))
  exact⟨q1.trans p1,q2.trans p2⟩
 grow:=fun b hb hw=>by
  obtain⟨p1,p2⟩:=h.grow b hb hw;have bG:=Nat.lt_of_lt_of_le hb h.size;by_cases ru:kM g' b
  ·obtain⟨q1,q2⟩:=k.grow b bG ru
   exact⟨fun o y ho hy=>q1 o y (Nat.lt_of_lt_of_le ho p2) (p1 o y ho hy),Nat.le_trans p2 q2⟩
  ·by_cases hg:∃i,g'.ow b=.az i
   ·obtain⟨i,e⟩:=hg
    obtain⟨p',q',hw⟩:=hw;have:=(h.lv b i e hb).1;rw[hw]at this;cases this
   ·obtain⟨q1,q2⟩:=k.lz b bG (fun i hi e=>hg ⟨i,e⟩) ru
    exact⟨fun o y ho hy=>by rw[rW q1];exact p1 o y ho hy,by rw[q2];exact p2⟩
 ig:=fun b p q hb ho=>by
  obtain⟨p',q',hw⟩:=k.ig b p q (Nat.lt_of_lt_of_le hb h.size) ho;exact h.ig b p' q' hb hw
 lv:=fun b i ho hb=>h.lv b i (k.lv b i ho (Nat.lt_of_lt_of_le hb h.size)).1 hb
theorem PS(hC:oN P C){fn:Func}(yr:fn.results.toList.isEmpty=true){tmps:Array Value}{w0:World}{g0:Gh}{N0 i off:Nat}(hi:i<N0){GF:List aW} :
  ∀{l:List FuncId} {w:World} {g:Gh} {G:List aW},(∀f∈l,E3 P f=true)→oB C [.bO i off] l G=some GF→qp w.heap g G→Ext w0 g0 N0 w g G.length →
  Leaves P fn tmps (fun e w'=>∃x lY,e=.returned x∧Ext w0 g0 N0 w' lY GF.length∧qp w'.heap lY GF∧uy ⟨w'.heap,lY,GF.length,[]⟩ w0.heap.size (kM g0) (.tuple []) x)
   (l.map (AM (.pointer (some ⟨g0.γ i,off,none⟩)))) .returning w
 |[],w,g,G,_,hp,hG,hE=>by
  simp only[oB,Option.some.injEq]at hp;subst hp;exact⟨_,YK yr tmps w,_,g,rfl,hE,hG,[],rfl,rfl,by simp[V.fR]⟩
 |f::l,w,g,G,hd,hp,hG,hE=>by
  simp only[oB]at hp;split at hp
  ·rename_i r G1 hc
   refine⟨by simp,.func f,#[],f,#[.pointer (some ⟨g0.γ i,off,none⟩)],rfl,?_,?_⟩
   ·obtain⟨YL,FF,AN,CU⟩:=(hC f _ _ _ _ hc).fn
    have YM:¬ YL.name= "runtime.NumGoroutine":=by simpa using CU
    simp[AM,invoke,callFunc,FF,YM];intro lh;simp[lh]at AN
   ·have hs:=(hC f _ _ _ _ hc).IT (hd f (by simp)) .returning w g [.pointer (some ⟨g0.γ i,off,none⟩)] hG rfl (by
     intro k v x hv hx;cases k with
     |zero =>
      simp only[List.getElem?_cons_zero,Option.some.injEq]at hv hx;subst hv;subst hx;rw[←hE.γ i hi];exact .bO i off (Nat.lt_of_lt_of_le hi hE.fb)
     |succ k=>simp at hv)
    intro c cs hu;obtain⟨e,u',w',fr,⟨rfl,x,g1,rfl,h1,h2,h3⟩,k1,k2,k3⟩:=hs c cs hu;refine⟨_,_,w',fr,?_,k1,k2,k3⟩;exact PS hC yr hi (fun f hf=>hd f (by simp[hf])) hp h2 (hE.trans h1)
  ·cases hp
theorem FG{ps:List (Nat×Nat)}(iR:∀f k,look f ps=some k→pU P k f)(hm:P.follows .mixedOrders=true)(hC:oN P C){n:Nat}{f:FuncId}{fn:Func}{vf:bq}(h1:P.funcs[f]?=some fn)(h2:bP P ps fn vf=true)
  {args:List V} {G G':List aW} {r:V} (h:vf.one C n args G=some (r,G')):r8 P f args G r G':=by
 unfold bq.one at h;cases rp:vf.defs with
 |nil =>
  rw[CT rp]at h;exact YF iR hm hC h1 h2 rp h
 |cons f1 fs1 =>
  simp only[bP,Bool.and_eq_true,Bool.not_eq_true']at h2;obtain⟨⟨⟨k1,k2⟩,k3⟩,k4⟩:=h2;cases hb:fn.body with
  |none=>rw[hb]at k1;cases k1
  |some c =>
   rw[hb]at k1;simp only[Bool.and_eq_true,Bool.or_eq_true]at k1;obtain⟨k1,k5⟩:=k1;rcases k5 with k5|k5
   ·rw[rp]at k5;cases k5
   obtain⟨⟨k5,k6⟩,k7⟩:=k5;split at k1
   ·rename_i c' YN
    unfold wrap at h;split at h
    ·cases h
    ·rename_i r1 G1 jR
     rw[rp]at h;simp only at h;split at h
     ·rename_i i off
      split at h
      ·rename_i G2 PT
       cases h;rw[←rp]at PT;obtain⟨_,m2⟩:=PL iR hm hC k1 k3 jR;have hlen:=PN jR;refine⟨⟨fn,h1,by simp[hb],k4⟩,fun d=>by rfl,fun w g xs hG ti hx=>?_,fun AO=>?_⟩
       ·obtain⟨e1,e2⟩:=JP (fn:=fn) ti (by have:=Nat.le_of_ble_eq_true k2;omega) hx
        refine calls_of_wp_defers h1 hb ?_;obtain⟨x0,z1,z2⟩:=e2 0 (.bO i off) rfl;refine PO YN e1 z1 fun a' q1 q2 q3=>?_;cases z2 with
        |bO _ _ hi =>
         refine wp_mono (m2 _ w g a' hG q1 (fun s v hv=>?_) rfl) fun e a2 w2 he=>?_
         ·cases s with
          |zero=>simp at hv;subst hv;exact⟨_,q2,.bO i off hi⟩
          |succ s=>simp at hv
         ·obtain⟨he,ik,v,hv,x,g2,Pv,hE,CD,_⟩:=he
          have hL:=PS hC (fn:=fn) k6 (tmps:=a2.tmps) (w0:=w) (g0:=g) (N0:=G.length) (i:=i) (off:=off) hi (l:=vf.defs.reverse) (w:=w2) (g:=g2) (fun f hf=>by
           have:=List.all_eq_true.1 k7 f (by simpa using hf)
           exact this) PT CD hE
          have hD:a2.defers=vf.defs.reverse.map (AM (.pointer (some ⟨g.γ i,off,none⟩))):=by
           rw[ik,q3];simp
          rcases he with rfl|rfl
          ·show Leaves P fn a2.tmps _ a2.defers .returning w2
           rw[hD];exact hL
          ·show Leaves P fn a2.tmps _ a2.defers .returning w2
           rw[hD];exact hL
        |plain hp _=>cases hp
       ·simp[E3,h1,hb,k5]at AO
      ·cases h
     ·cases h
   ·cases k1
theorem YO{f:FuncId}{args:List V}{G G':List aW}{r:V}{p m:Nat}(hp:args[p]?=some (.slice none m []))(h1:r8 P f (args.set p .aK) G r G')(h2:r8 P f (args.set p (.fD m)) G r G'):r8 P f args G r G':=by
 have key:∀(w:World) (g:Gh) (xs:List Value),args.length=xs.length→(∀(i:Nat) (v:V) (x:Value),args[i]?=some v→xs[i]?=some x→bj ⟨w.heap,g,G.length,[]⟩ v x) →
   ∃u,(u=.aK∨u=.fD m)∧∀(i:Nat) (v:V) (x:Value),(args.set p u)[i]?=some v→xs[i]?=some x→bj ⟨w.heap,g,G.length,[]⟩ v x:=fun w g xs hl hx=>by
  have bG:=eZ hp;have hr:=hx p _ xs[p] hp (List.getElem?_eq_getElem (by omega))
  have hu:∃u,(u=.aK∨u=.fD m)∧bj ⟨w.heap,g,G.length,[]⟩ u xs[p]:=by
   generalize xs[p]=x at hr;cases hr with
   |plain h _ =>
    cases h with
    |nil=>exact⟨.aK,.inl rfl,.plain .aK (fun _ _ _ e=>by cases e)⟩
    |empty _ _ a cap=>exact⟨.fD m,.inr rfl,.fD m a cap⟩
    |slice _ _ _ b off cap=>exact⟨.fD m,.inr rfl,.fD m _ cap⟩
  obtain⟨u,h1,h2⟩:=hu;refine⟨u,h1,fun i v x hv kj=>?_⟩;rw[List.getElem?_set]at hv;split at hv
  ·rename_i e
   subst e
   first|rw[if_pos bG]at hv|skip
   cases hv;rw[List.getElem?_eq_getElem (by omega)]at kj
   cases kj;exact h2
  ·exact hx i v x hv kj
 refine⟨h1.fn,h1.ret,fun w g xs hG hl hx=>?_,fun hd u w g xs hG hl hx=>?_⟩
 ·obtain⟨u,hu,hr⟩:=key w g xs hl hx
  rcases hu with rfl|rfl
  ·exact h1.run w g xs hG (by simpa using hl) hr
  ·exact h2.run w g xs hG (by simpa using hl) hr
 ·obtain⟨z,hz,hr⟩:=key w g xs hl hx
  rcases hz with rfl|rfl
  ·exact h1.IT hd u w g xs hG (by simpa using hl) hr
  ·exact h2.IT hd u w g xs hG (by simpa using hl) hr
theorem PU{n:Nat}{vf:bq}{p m:Nat}{args:List V}{G:List aW}{r:V×List aW}(h:vf.both C n p m args G=some r):vf.one C n (args.set p .aK) G=some r∧vf.one C n (args.set p (.fD m)) G=some r:=by
 unfold bq.both at h;split at h
 ·rename_i e;exact⟨h,e ▸ h⟩
 ·cases h
theorem CV{ps:List (Nat×Nat)}(iR:∀f k,look f ps=some k→pU P k f)(hm:P.follows .mixedOrders=true){F:FuncId→Option bq}(hF:∀f vf,F f=some vf→∃fn,P.funcs[f]?=some fn∧bP P ps fn vf=true):∀n,oN P (call F n)
 |0=>fun f args G r G' h=>by cases h
 |n+1=>fun f args G r G' h=>by
  simp only[call]at h;split at h
  ·rename_i vf FH
   obtain⟨fn,h1,h2⟩:=hF f vf FH;unfold bq.wE at h;split at h
   ·exact FG iR hm (CV iR hm hF n) h1 h2 h
   ·split at h
    ·rename_i p _ m hp
     obtain⟨h3,h4⟩:=PU h;exact YO hp (FG iR hm (CV iR hm hF n) h1 h2 h3) (FG iR hm (CV iR hm hF n) h1 h2 h4)
    ·exact FG iR hm (CV iR hm hF n) h1 h2 h
  ·cases h
end
end Go.Vm

/- The value machine, 14: a region whose order is drawn. -/
import Derived.Test.YtmppfkgfnnebeaaGreatDoorVmD
namespace Go.Vm
set_option linter.all false
noncomputable def bH.cI(C:bD)(S:St)(o:bH):Option Out :=
 match o.guard with
 |none=>o.op.cI C S
 |some (g,want)=>match look g S.env with
  |some (.bool b)=>bif b==want then o.op.cI C S else some (.val .undef)
  |some .undef=>some (.val .undef)
  |_=>none
theorem HV(C:bD)(S:St)(o:bH):o.run C S=(o.cI C S).map fun u=>u.app o.dst S:=by
 unfold bH.run bH.cI;cases o.guard with
 |none=>exact Xl C o.dst S o.op
 |some q =>
  obtain⟨g,want⟩:=q;simp only;cases look g S.env with
  |none=>rfl
  |some v =>
   cases v<;>try rfl
   simp only[pg,nI,tD,Xl]
section
variable {S S':St} {C:bD}
theorem Lf{o:bH}(h:fP S S' o.rd):o.cI C S=o.cI C S':=by
 unfold bH.rd at h;unfold bH.cI;cases hg:o.guard with
 |none=>rw[hg]at h;exact Xr h.right
 |some q =>
  obtain⟨g,want⟩:=q;rw[hg]at h;have h1:look g S.env=look g S'.env:=h.left (.e g) (by simp)
  simp only[h1,Xr (C:=C) h.right]
theorem ajm{o:bH}{u:Out}(h:o.cI C S=some u):EZ u o.op.wr:=by
 have val:∀v K,EZ (Out.val v) K:=fun v K=>⟨by simp[Out.val],by simp[Out.val],by simp[Out.val]⟩
 unfold bH.cI at h;split at h
 ·exact Xs h
 ·rename_i g want _
  split at h
  ·rename_i b _
   cases hb:b==want with
   |true=>simp only[hb,bG]at h;exact Xs h
   |false=>simp only[hb,eD]at h;cases h;exact val _ _
  ·cases h;exact val _ _
  ·cases h
theorem stays{o:bH}{u:Out}(h:o.cI C S=some u){T:St}{k:Key}(hk:k∉o.wr):same (u.app o.dst T) T k :=
 ajl (ajm h) hk
def bH.awP(o:bH):Bool:=match o.op with | .load .aA _ _=>true|_=>false
def bH.Lg(o:bH):Bool:=match o.op with | .tg _ _=>true|_=>false
def bH.Lh(o x:bH):List Key:=match o.op with
 |.load .aA _ p=>bif x.Lg then (match o.guard with|some (s,_)=>[.e s] | none=>[])++p.keys else o.rd
 |_=>o.rd
theorem ajn{cs:List V}{o n off:Nat}{es:List (List V)}{sz:Option Nat}(h:cs[o]?=some (.eF n es)):(loadAt sz (cs.set o (.slice none n es)) off).map (tm .aA)=(loadAt sz cs off).map (tm .aA):=by
 have key:∀j:Nat,((cs.set o (.slice none n es))[j]?).map V.jr=(cs[j]?).map V.jr:=fun j=>by
  rw[jU];split
  ·rename_i e
   subst e;rw[aM (wE.1 h).1,h];rfl
  ·rfl
 have lst:(cs.set o (.slice none n es)).map V.jr=cs.map V.jr:=wD fun j=>by rw[vN,vN];exact key j
 cases sz with
 |none =>
  simp only[loadAt];have hk:=key off;rw[jU]at hk ⊢;split
  ·rename_i e
   subst e;rw[aM (wE.1 h).1,h];rfl
  ·rfl
 |some m =>
  simp only[loadAt,oR];cases Nat.ble (off+m) cs.length with
  |false=>rfl
  |true =>
   simp only[bG,nI,tm,V.kQ,GX,List.map_drop,lst]
theorem ajp(C:bD){S S':St}{sz:Option Nat}{p:bw}(he:S'.ev p=S.ev p)(hg:S'.aA=S.aA∨∃(id o n:Nat) (es:List (List V)) (cs:List V),S.aA[id]?=some (.cells cs)∧cs[o]?=some (.eF n es)∧S'.aA=S.aA.set id (.cells (cs.set o (.slice none n es)))) :
  VO.cI C S' (.load .aA sz p)=VO.cI C S (.load .aA sz p):=by
 simp only[VO.cI,he];cases S.ev p with
 |none=>rfl
 |some a =>
  cases a with
  |bm i off =>
   have lift:∀{c d:List V},(loadAt sz c off).map (tm .aA)=(loadAt sz d off).map (tm .aA)→(match loadAt sz c off with|some v=>some (Out.val (tm .aA v))|none=>none)=(match loadAt sz d off with|some v=>some (Out.val (tm .aA v))|none=>none):=fun {c d} h=>by
    cases h1:loadAt sz c off<;>cases h2:loadAt sz d off<;>simp_all
   simp only[jC.fits,bG,St.nJ];rcases hg with hg | ⟨id,o,n,es,cs,h1,h2,h3⟩
   ·rw[hg]
   ·rw[h3,jU]
    by_cases e:id=i
    ·subst e
     rw[aM rfl,aM (wE.1 h1).1,h1];exact lift (ajn h2)
    ·rw[ay e]
  |_=>rfl
theorem ajq{C:bD}{x:bH}{u:Out}(hx:x.Lg=true)(h:x.cI C S=some u)(d:Option Nat):(u.app d S).aA=S.aA∨∃(id o n:Nat) (es:List (List V)) (cs:List V),S.aA[id]?=some (.cells cs)∧cs[o]?=some (.eF n es)∧(u.app d S).aA=S.aA.set id (.cells (cs.set o (.slice none n es))):=by
 have val:∀v:V,((Out.val v).app d S).aA=S.aA:=fun v=>by cases d<;>rfl
 have main:x.op.cI C S=some u→((u.app d S).aA=S.aA∨∃(id o n:Nat) (es:List (List V)) (cs:List V),S.aA[id]?=some (.cells cs)∧cs[o]?=some (.eF n es)∧(u.app d S).aA=S.aA.set id (.cells (cs.set o (.slice none n es)))):=fun h=>by
  unfold bH.Lg at hx;split at hx
  ·rename_i cj p ho
   rw[ho]at h;simp only[VO.cI]at h;split at h
   ·rename_i a ha
    split at h
    ·rename_i v ts G hG
     cases h;unfold St.take at hG;split at hG
     ·rename_i id off
      split at hG
      ·rename_i cs ew
       split at hG
       ·rename_i n es Lj
        cases hG;refine .inr ⟨id,off,n,es,cs,ew,Lj,?_⟩;cases d<;>rfl
       ·cases hG
        left;cases d<;>rfl
       ·cases hG
      ·cases hG
     ·cases hG
    ·cases h
   ·cases h
  ·cases hx
 unfold bH.cI at h;split at h
 ·exact main h
 ·rename_i g want _
  split at h
  ·rename_i b _
   cases hb:b==want with
   |true=>simp only[hb,bG]at h;exact main h
   |false=>simp only[hb,eD]at h;cases h;exact .inl (val _)
  ·cases h;exact .inl (val _)
  ·cases h
theorem ajr{x y:bH}{u:Out}(hx:x.cI C S=some u)(h:∀k∈y.Lh x,same (u.app x.dst S) S k):y.cI C (u.app x.dst S)=y.cI C S:=by
 unfold bH.Lh at h;split at h
 ·rename_i sz p ho
  cases ht:x.Lg with
  |false=>rw[ht]at h;exact Lf fun k hk=>h k hk
  |true =>
   rw[ht]at h;simp only[bG]at h;have he:(u.app x.dst S).ev p=S.ev p:=(ed (S:=u.app x.dst S) (S':=S) fun k hk=>h k (GY _ hk));have hl:=ajp C (sz:=sz) he (ajq ht hx x.dst);unfold bH.cI;rw[ho];cases hg:y.guard with
   |none=>exact hl
   |some q =>
    obtain⟨g,want⟩:=q;rw[hg]at h;have h1:look g (u.app x.dst S).env=look g S.env:=h (.e g) (by simp)
    simp only[h1,hl]
 ·exact Lf fun k hk=>h k hk
def indep(x y:bH):Bool:=x.wr.all (fun k => !(y.Lh x++y.wr).contains k)&&y.wr.all (fun k => !x.rd.contains k)
theorem ajs{x y:bH}(h:indep x y=true):(∀k∈x.wr,k∉y.Lh x)∧(∀k∈x.wr,k∉y.wr)∧(∀k∈y.wr,k∉x.rd):=by
 simp only[indep,bS,g8,uV,Ox,decide_eq_false_iff_not,ot,not_or]at h;exact⟨fun k hk=>(h.1 k hk).1,fun k hk=>(h.1 k hk).2,h.2⟩
theorem swap{x y:bH}(hi:indep x y=true){S1 S2:St}(h1:x.run C S=some S1)(h2:y.run C S1=some S2):∃T1 T2,y.run C S=some T1∧x.run C T1=some T2∧Alike S2 T2:=by
 obtain⟨i1,i2,i3⟩:=ajs hi;rw[HV]at h1 h2;cases hx:x.cI C S with
 |none=>rw[hx]at h1;cases h1
 |some u =>
  rw[hx]at h1;simp only[nI,Option.some.injEq]at h1;subst h1;cases hy:y.cI C (u.app x.dst S) with
  |none=>rw[hy]at h2;cases h2
  |some v =>
   rw[hy]at h2;simp only[nI,Option.some.injEq]at h2;subst h2;have wY:y.cI C S=some v:=by
    rw[←hy];exact(ajr hx fun k hk=>stays hx fun hw=>i1 k hw hk).symm
   have sG:x.cI C (v.app y.dst S)=some u:=by
    rw[←hx];exact Lf fun k hk=>stays wY fun hw=>i3 k hw hk
   refine⟨v.app y.dst S,u.app x.dst (v.app y.dst S),by rw[HV,wY];rfl,by rw[HV,sG];rfl,fun k=>?_⟩
   by_cases hk:k∈y.wr
   ·have Xt:k∉x.wr:=fun h=>i2 k h hk
    exact K8 (PT (stays hx Xt)) (PK (stays sG Xt))
   ·exact K8 (stays hy hk) (PT (PK (stays wY hk)))
theorem ajt(o:bH){S1:St}(h:Alike S S')(h1:o.run C S=some S1):∃S2,o.run C S'=some S2∧Alike S1 S2:=by
 rw[HV]at h1;cases hx:o.cI C S with
 |none=>rw[hx]at h1;cases h1
 |some u =>
  rw[hx]at h1;simp only[nI,Option.some.injEq]at h1;subst h1;refine⟨u.app o.dst S',?_,fun k=>PT (h k)⟩;rw[HV,← Lf (C:=C) (o:=o) (S:=S) (S':=S') (fun k _=>h k),hx];rfl
theorem PV:∀(l:List bH) {S S' T:St},Alike S S'→gW C l S=some T→∃T',gW C l S'=some T'∧Alike T T'
 |[],S,S',T,h,h1=>by simp only[gW,Option.some.injEq]at h1;subst h1;exact⟨S',rfl,h⟩
 |o::l,S,S',T,h,h1=>by
  simp only[gW]at h1;split at h1
  ·rename_i S1 hs
   obtain⟨S2,h2,h3⟩:=ajt o h hs;obtain⟨T',h4,h5⟩:=PV l h3 h1;exact⟨T',by simp only[gW,h2];exact h4,h5⟩
  ·cases h1
theorem PX:∀(l r:List bH) (S:St),gW C (l++r) S=(gW C l S).bind (gW C r)
 |[],r,S=>rfl
 |o::l,r,S=>by
  simp only[ud,gW];cases o.run C S with
  |none=>rfl
  |some S'=>exact PX l r S'
theorem Xu:∀(l:List bH) {x:bH} {S T:St},(∀y∈l,indep y x=true)→gW C (l++[x]) S=some T→∃T',gW C (x::l) S=some T'∧Alike T T'
 |[],x,S,T,_,h=>⟨T,h,fun k=>Xg T k⟩
 |y::l,x,S,T,hi,h=>by
  simp only[ud,gW]at h;split at h
  ·rename_i S1 h1
   obtain⟨T1,h2,h3⟩:=Xu l (fun z hz=>hi z (Cn _ hz)) h;simp only[gW]at h2;split at h2
   ·rename_i S2 h4
    obtain⟨U1,U2,h5,h6,h7⟩:=swap (hi y xW) h1 h4;obtain⟨T2,h8,h9⟩:=PV l h7 h2;exact⟨T2,by simp only[gW,h5,h6];exact h8,fun k=>K8 (h3 k) (h9 k)⟩
   ·cases h2
  ·cases h
theorem pull{l r:List bH}{x:bH}{T:St}(hi:∀y∈l,indep y x=true)(h:gW C (l++x::r) S=some T):∃S1 T',x.run C S=some S1∧gW C (l++r) S1=some T'∧Alike T T':=by
 rw[show l++x::r=(l++[x])++r from by simp,PX]at h
 cases h1:gW C (l++[x]) S with
 |none=>rw[h1]at h;cases h
 |some U =>
  rw[h1]at h;obtain⟨U',h2,h3⟩:=Xu l hi h1;obtain⟨T',h4,h5⟩:=PV r h3 h;simp only[gW]at h2;split at h2
  ·rename_i S1 h6
   refine⟨S1,T',h6,?_,h5⟩;rw[PX,h2];exact h4
  ·cases h2
end
section
variable {P:Program} {E:Entry} {g g':Gh} {S S':St} {a:Act} {w w':World} {C:bD}
theorem R.alike(hR:R E g S a w)(h:Alike S S'):R E g S' a w:=by
 have hg:S.aA=S'.aA:=h .g;have ht:∀f,look f S.bj=look f S'.bj:=fun f=>h (.t f);have mJ:∀v x,bb (S.cx g w) v x→bb (S'.cx g w) v x:=fun v x hx=>by
  have le:Le (S.cx g w) (S'.cx g w):=⟨bV _,fun _ _ _ _ h=>h,fun _ _=>bV _,by simp[St.cx,hg],fun _ _=>rfl⟩
  refine bb.mono le hx fun d=>.inl ⟨rfl,rfl,fun k hk=>⟨k,(ht d).trans (show look d S'.bj=some k from hk),bV _,fun _=>⟨rfl,fun _ _=>⟨rfl,fun c _ h=>⟨c,h,rfl⟩⟩⟩⟩⟩
 refine⟨fun s v hs=>?_,fun id cs ho=>?_,fun f k b hf hb=>hR.bj f k b ((ht f).trans hf) hb,hg ▸ hR.aA,hR.defers,hR.js,hg ▸ hR.same⟩
 ·obtain⟨x,h1,h2⟩:=hR.env s v ((h (.e s)).trans hs)
  exact⟨x,h1,mJ v x h2⟩
 ·rcases hR.aW id cs ((h (.o id)).trans ho) with h0 | ⟨h1,h2,h3,c,e,h4,fU,h5⟩
  ·exact .inl h0
  refine .inr ⟨h1,h2,h3,c,e,h4,fU,fun j v hj=>?_⟩;obtain⟨h6,y,h7,h8⟩:=h5 j v hj;exact⟨h6,y,h7,mJ v y h8⟩
def reach(os:Array Oper):Nat→Nat→Nat→Bool
 |0,_,_=>false
 |n+1,i,y=>match os[i]? with
  |some o=>o.after.toList.any fun e=>Region.binds .any e&&(e.on==y || reach os n e.on y)
  |none=>false
def Lm(os:Array Oper)(vs:List bH):Bool :=
 (List.range os.size).all fun i=>(match os[i]? with|some o=>o.after.toList.all fun e => !Region.binds .any e || Nat.blt e.on i|none=>true) &&
  (List.range i).all fun y=>(match vs[y]?,vs[i]? with|some u,some v=>indep u v || reach os os.size i y|_,_=>false)
theorem Xv{os:Array Oper}{listed:Array Bool}(E0:∀(j:Nat) o,os[j]?=some o→listed.getD j true=true→∀e∈o.after,Region.binds .any e=true→listed.getD e.on false=true) :
  ∀(n i y:Nat) (o:Oper),os[i]?=some o→(∀e∈o.after,Region.binds .any e=true→listed.getD e.on false=true)→reach os n i y=true→listed.getD y false=true
 |0,_,_,_,_,_,h=>by simp[reach]at h
 |n+1,i,y,o,ho,sH,h=>by
  simp only[reach,ho,GO,bS,Cf,dO]at h;obtain⟨e,he,hb,h⟩:=h;have hm:e∈o.after:=by simpa using he
  rcases h with h|h
  ·rw[←h];exact sH e hm hb
  ·cases Bx:os[e.on]? with
   |none=>cases n<;>simp[reach,Bx]at h
   |some o' =>
    refine Xv E0 n e.on y o' Bx (E0 e.on o' Bx ?_) h;have:=sH e hm hb;rcases cF e.on listed.size with h1|h1
    ·simpa [h1] using this
    ·simp[mF h1]at this
def lT(n:Nat)(listed:Array Bool):List Nat:=(List.range n).filter fun j => !listed.getD j true
theorem aju{n:Nat}{p:Nat→Bool}{i:Nat}(hi:i<n)(hp:p i=true):(List.range n).filter p=(List.range i).filter p++i::((List.range' (i+1) (n-(i+1))).filter p):=by
 have h1:List.range n=List.range i++i::List.range' (i+1) (n-(i+1)):=by
  rw[GZ,GZ];have:List.range' 0 n=List.range' 0 i++List.range' i (n-i):=by
   have:=List.range'_append (s:=0) (m:=i) (n:=n-i) (step:=1);simp only[KA,jV]at this;rw[this];congr 1;omega
  rw[this,show n-i=(n-(i+1))+1 from by omega,Eh]
 rw[h1,uZ,Kj,aM hp]
def vF(vs:List bH)(l:List Nat):List bH:=l.filterMap (vs[·]?)
theorem ajv{ps:Ps}(jj:w8 P E.T ps){os:Array Oper}{vs:List bH}{ids:List Nat}{Q:Exit→Act→World→Prop}(bu:zS P ps E.nt os os.toList vs=true)(ly:HT vs ids=true)(PY:Lm os vs=true)(hC:qA P E.T C){Sn:St}
  (hQ:∀g a w,R E g Sn a w→Q .normal a w):∀(fuel:Nat) (listed:Array Bool) (l:List Nat) (S T:St) (a:Act) (w:World),listed.size=os.size→(lT os.size listed).length=fuel →
   (∀(j:Nat) o,os[j]?=some o→listed.getD j true=true→∀e∈o.after,Region.binds .any e=true→listed.getD e.on false=true) →
   (∀j,j∈l→listed.getD j true=true)→Inv E vs ids l S a w→gW C (vF vs (lT os.size listed)) S=some T→Alike T Sn→wpAny P .any os Q fuel listed a w:=by
 have hlen:=(EW bu).1;simp only[xS]at hlen;simp only[Lm,g8,Ef,bS]at PY;have done:∀(listed:Array Bool) (l:List Nat) (S T:St) (a:Act) (w:World),listed.size=os.size→Region.ready .any os listed=[]→Inv E vs ids l S a w→gW C (vF vs (lT os.size listed)) S=some T→Alike T Sn→Q .normal a w:=by
  intro listed l S T a w eg E1 hinv hrun sI;have ajw:lT os.size listed=[]:=by
   cases hu:lT os.size listed with
   |nil=>rfl
   |cons i r =>
    exfalso;have K0:∀j,j∈lT os.size listed↔j<os.size∧listed.getD j true=false:=fun j=>by simp[lT]
    have least:∃i,i∈lT os.size listed∧∀j,j<i→j∉lT os.size listed:=by
     have:∀n,∀i,i≤n→i∈lT os.size listed→∃i,i∈lT os.size listed∧∀j,j<i→j∉lT os.size listed:=by
      intro n;induction n with
      |zero=>intro i hi hm;exact⟨i,hm,fun j hj=>by omega⟩
      |succ n ih =>
       intro i hi hm;by_cases h:∃j,j<i∧j∈lT os.size listed
       ·obtain⟨j,h1,h2⟩:=h
        exact ih j (by omega) h2
       ·exact⟨i,hm,fun j hj hjm=>h ⟨j,hj,hjm⟩⟩
     exact this i i (bV _) (by rw[hu];exact xW)
    obtain⟨i,hi,ajy⟩:=least;obtain⟨bE,xe⟩:=(K0 i).1 hi;have lQ:i∈Region.ready .any os listed:=by
     rw[mem_ready];refine⟨xe,os[i],GD bE,fun e he hb=>?_⟩;have h1:=(PY i bE).1;rw[GD bE]at h1;simp only[g8,Array.mem_toList_iff]at h1;have h0:=h1 e he;rw[hb]at h0;have h2:e.on<i:=by simpa using h0
     have h3:=ajy e.on h2;rw[K0]at h3;have h4:e.on<listed.size:=by omega
     cases hl:listed.getD e.on false with
     |true=>rfl
     |false =>
      exfalso;refine h3 ⟨by omega,?_⟩
      simp[h4]at hl ⊢;exact hl
    rw[E1]at lQ;cases lQ
  rw[ajw]at hrun;simp only[vF,List.filterMap_nil,gW,Option.some.injEq]at hrun;subst hrun;obtain⟨⟨g,hR⟩,_⟩:=hinv;exact hQ g a w (hR.alike sI)
 intro fuel;induction fuel with
 |zero =>
  intro listed l S T a w eg hf E0 hl hinv hrun sI;have E1:Region.ready .any os listed=[]:=by
   have xe:lT os.size listed=[]:=oo.1 hf;cases hr:Region.ready .any os listed with
   |nil=>rfl
   |cons i r =>
    exfalso;have:i∈Region.ready .any os listed:=by rw[hr];exact xW
    rw[mem_ready]at this;obtain⟨h1,o,ho,_⟩:=this;have bE:i<os.size:=(xR.1 ho).1;have:i∈lT os.size listed:=by simp[lT,bE];simpa using h1
    rw[xe]at this;cases this
  exact⟨E1,done listed l S T a w eg E1 hinv hrun sI⟩
 |succ fuel ih =>
  intro listed l S T a w eg hf E0 hl hinv hrun sI;refine⟨fun E1=>done listed l S T a w eg E1 hinv hrun sI,fun i hi=>?_⟩;rw[mem_ready]at hi;obtain⟨xe,o,ho,sH⟩:=hi;have bE:i<os.size:=(xR.1 ho).1;have PZ:i<vs.length:=by omega
  have PJ:i∉l:=fun h=>by rw[hl i h]at xe;cases xe
  have P2:=aju (p:=fun j => !listed.getD j true) bE (by rw[xe];rfl)
  have P3:vF vs (lT os.size listed)=vF vs ((List.range i).filter fun j => !listed.getD j true)++vs[i]::vF vs ((List.range' (i+1) (os.size-(i+1))).filter fun j => !listed.getD j true):=by
   unfold lT;rw[P2];simp only[vF,VM,VN,fN PZ]
  have ajz:∀y∈vF vs ((List.range i).filter fun j => !listed.getD j true),indep y vs[i]=true:=by
   intro y hy;obtain⟨j,hj,sA⟩:=List.mem_filterMap.1 hy;simp only[r9,Ef,uV]at hj;have h1:=(PY i bE).2 j hj.1;rw[sA,fN PZ]at h1;simp only[Cf]at h1;rcases h1 with h1|h1
   ·exact h1
   ·exfalso
    have:=Xv E0 os.size i j o ho sH h1;have KT:j<listed.size:=by omega
    simp[KT]at this hj;rw[this]at hj;exact absurd hj.2 (by simp)
  rw[P3]at hrun;obtain⟨S1,T',h1,h2,h3⟩:=pull ajz hrun;refine K5 jj bu ly ho (fN PZ) PJ hC hinv h1 fun a' w' K7=>?_;have yG:∀j,(listed.setIfInBounds i true).getD j true=if j=i then true else listed.getD j true:=fun j=>by
   by_cases By:j=i
   ·subst By;simp[eg,bE]
   ·rw[ay By,getD_set_ne true (fun e=>By e.symm)]
  have Xw:∀j,listed.getD j false=true→(listed.setIfInBounds i true).getD j false=true:=fun j h=>getD_set_true h;have vH:lT os.size (listed.setIfInBounds i true)=((List.range i).filter fun j => !listed.getD j true)++((List.range' (i+1) (os.size-(i+1))).filter fun j => !listed.getD j true):=by
   have h4:lT os.size (listed.setIfInBounds i true)=((List.range os.size).filter fun j => !listed.getD j true).filter fun j=>decide (j≠i):=by
    unfold lT;rw[List.filter_filter];apply GQ;intro j _;rw[yG];by_cases By:j=i<;>simp[By]
   rw[h4,P2,uZ,Kj,ay (by simp)]
   congr 1
   ·apply Ec.2
    intro j hj;simp only[r9,Ef]at hj;simp;omega
   ·apply Ec.2
    intro j hj;simp only[r9,List.mem_range'_1]at hj;simp;omega
  refine ih (listed.setIfInBounds i true) (i::l) S1 T' a' w' (by simp[eg]) ?_ ?_ ?_ K7 ?_ (fun k=>K8 (PK (h3 k)) (sI k))
  ·have:(lT os.size listed).length=fuel+1:=hf
   unfold lT at this;rw[P2]at this;rw[vH];simp at this ⊢;omega
  ·intro j o' Bx hj e he hb
   rw[yG]at hj;by_cases By:j=i
   ·subst By
    rw[ho]at Bx;cases Bx;exact Xw _ (sH e he hb)
   ·rw[ay By]at hj
    exact Xw _ (E0 j o' Bx hj e he hb)
  ·intro j hj
   rw[yG];rcases jB.1 hj with h|h
   ·rw[aM h]
   ·split
    ·rfl
    ·exact hl j h
  ·rw[vH]
   simp only[vF,VM];exact h2
end
end Go.Vm

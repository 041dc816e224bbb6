/- The value machine, 14: a region whose order is drawn. -/
import Derived.Test.YtcelmhaoipbdiaaGreatVmD
namespace Go.Vm
set_option linter.all false
noncomputable def bK.cO(C:bD)(S:St)(o:bK):Option Out :=
 match o.guard with
 |none=>o.op.cO C S
 |some (g,want)=>match look g S.env with
  |some (.bool b)=>bif b==want then o.op.cO C S else some (.val .undef)
  |some .undef=>some (.val .undef)
  |_=>none
theorem Ih(C:bD)(S:St)(o:bK):o.run C S=(o.cO C S).map fun u=>u.app o.dst S:=by
 unfold bK.run bK.cO;cases o.guard with
 |none=>exact X6 C o.dst S o.op
 |some q =>
  obtain⟨g,want⟩:=q;simp only;cases look g S.env with
  |none=>rfl
  |some v =>
   cases v<;>try rfl
   simp only[pI,nd,tR,X6]
section
variable {S S':St} {C:bD}
theorem LK{o:bK}(h:gz S S' o.rd):o.cO C S=o.cO C S':=by
 unfold bK.rd at h;unfold bK.cO;cases hg:o.guard with
 |none=>rw[hg]at h;exact Ya h.right
 |some q =>
  obtain⟨g,want⟩:=q;rw[hg]at h;have h1:look g S.env=look g S'.env:=h.left (.e g) (by simp)
  simp only[h1,Ya (C:=C) h.right]
theorem aj7{o:bK}{u:Out}(h:o.cO C S=some u):Ft u o.op.wr:=by
 have val:∀v K,Ft (Out.val v) K:=fun v K=>⟨by simp[Out.val],by simp[Out.val],by simp[Out.val]⟩
 unfold bK.cO at h;split at h
 ·exact Yb h
 ·rename_i g want _
  split at h
  ·rename_i b _
   cases hb:b==want with
   |true=>simp only[hb,bM]at h;exact Yb h
   |false=>simp only[hb,fu]at h;cases h;exact val _ _
  ·cases h;exact val _ _
  ·cases h
theorem stays{o:bK}{u:Out}(h:o.cO C S=some u){T:St}{k:Key}(hk:k∉o.wr):same (u.app o.dst T) T k :=
 aj6 (aj7 h) hk
def bK.ax1(o:bK):Bool:=match o.op with | .load .aD _ _=>true|_=>false
def bK.LM(o:bK):Bool:=match o.op with | .tz _ _=>true|_=>false
def bK.LN(o x:bK):List Key:=match o.op with
 |.load .aD _ p=>bif x.LM then (match o.guard with|some (s,_)=>[.e s] | none=>[])++p.keys else o.rd
 |_=>o.rd
theorem aj8{cs:List V}{o n off:Nat}{es:List (List V)}{sz:Option Nat}(h:cs[o]?=some (.fE n es)):(loadAt sz (cs.set o (.slice none n es)) off).map (tD .aD)=(loadAt sz cs off).map (tD .aD):=by
 have key:∀j:Nat,((cs.set o (.slice none n es))[j]?).map V.jm=(cs[j]?).map V.jm:=fun j=>by
  rw[kK];split
  ·rename_i e
   subst e;rw[aK (Hl.1 h).1,h];rfl
  ·rfl
 have lst:(cs.set o (.slice none n es)).map V.jm=cs.map V.jm:=xU fun j=>by rw[vp,vp];exact key j
 cases sz with
 |none =>
  simp only[loadAt];have hk:=key off;rw[kK]at hk ⊢;split
  ·rename_i e
   subst e;rw[aK (Hl.1 h).1,h];rfl
  ·rfl
 |some m =>
  simp only[loadAt,pj];cases Nat.ble (off+m) cs.length with
  |false=>rfl
  |true =>
   simp only[bM,nd,tD,V.lO,List.map_take,List.map_drop,lst]
theorem aka(C:bD){S S':St}{sz:Option Nat}{p:bA}(he:S'.ev p=S.ev p)(hg:S'.aD=S.aD∨∃(id o n:Nat) (es:List (List V)) (cs:List V),S.aD[id]?=some (.cells cs)∧cs[o]?=some (.fE n es)∧S'.aD=S.aD.set id (.cells (cs.set o (.slice none n es)))) :
  VO.cO C S' (.load .aD sz p)=VO.cO C S (.load .aD sz p):=by
 simp only[VO.cO,he];cases S.ev p with
 |none=>rfl
 |some a =>
  cases a with
  |bH i off =>
   have lift:∀{c d:List V},(loadAt sz c off).map (tD .aD)=(loadAt sz d off).map (tD .aD)→(match loadAt sz c off with|some v=>some (Out.val (tD .aD v))|none=>none)=(match loadAt sz d off with|some v=>some (Out.val (tD .aD v))|none=>none):=fun {c d} h=>by
    cases h1:loadAt sz c off<;>cases h2:loadAt sz d off<;>simp_all
   simp only[j8.fits,bM,St.nY];rcases hg with hg | ⟨id,o,n,es,cs,h1,h2,h3⟩
   ·rw[hg]
   ·rw[h3,kK]
    by_cases e:id=i
    ·subst e
     rw[aK rfl,aK (Hl.1 h1).1,h1];exact lift (aj8 h2)
    ·rw[av e]
  |_=>rfl
theorem akb{C:bD}{x:bK}{u:Out}(hx:x.LM=true)(h:x.cO C S=some u)(d:Option Nat):(u.app d S).aD=S.aD∨∃(id o n:Nat) (es:List (List V)) (cs:List V),S.aD[id]?=some (.cells cs)∧cs[o]?=some (.fE n es)∧(u.app d S).aD=S.aD.set id (.cells (cs.set o (.slice none n es))):=by
 have val:∀v:V,((Out.val v).app d S).aD=S.aD:=fun v=>by cases d<;>rfl
 have main:x.op.cO C S=some u→((u.app d S).aD=S.aD∨∃(id o n:Nat) (es:List (List V)) (cs:List V),S.aD[id]?=some (.cells cs)∧cs[o]?=some (.fE n es)∧(u.app d S).aD=S.aD.set id (.cells (cs.set o (.slice none n es)))):=fun h=>by
  unfold bK.LM at hx;split at hx
  ·rename_i cn p ho
   rw[ho]at h;simp only[VO.cO]at h;split at h
   ·rename_i a ha
    split at h
    ·rename_i v ts G hG
     cases h;unfold St.take at hG;split at hG
     ·rename_i id off
      split at hG
      ·rename_i cs eX
       split at hG
       ·rename_i n es LO
        cases hG;refine .inr ⟨id,off,n,es,cs,eX,LO,?_⟩;cases d<;>rfl
       ·cases hG
        left;cases d<;>rfl
       ·cases hG
      ·cases hG
     ·cases hG
    ·cases h
   ·cases h
  ·cases hx
 unfold bK.cO at h;split at h
 ·exact main h
 ·rename_i g want _
  split at h
  ·rename_i b _
   cases hb:b==want with
   |true=>simp only[hb,bM]at h;exact main h
   |false=>simp only[hb,fu]at h;cases h;exact .inl (val _)
  ·cases h;exact .inl (val _)
  ·cases h
theorem akc{x y:bK}{u:Out}(hx:x.cO C S=some u)(h:∀k∈y.LN x,same (u.app x.dst S) S k):y.cO C (u.app x.dst S)=y.cO C S:=by
 unfold bK.LN at h;split at h
 ·rename_i sz p ho
  cases ht:x.LM with
  |false=>rw[ht]at h;exact LK fun k hk=>h k hk
  |true =>
   rw[ht]at h;simp only[bM]at h;have he:(u.app x.dst S).ev p=S.ev p:=(eA (S:=u.app x.dst S) (S':=S) fun k hk=>h k (Ho _ hk));have hl:=aka C (sz:=sz) he (akb ht hx x.dst);unfold bK.cO;rw[ho];cases hg:y.guard with
   |none=>exact hl
   |some q =>
    obtain⟨g,want⟩:=q;rw[hg]at h;have h1:look g (u.app x.dst S).env=look g S.env:=h (.e g) (by simp)
    simp only[h1,hl]
 ·exact LK fun k hk=>h k hk
def indep(x y:bK):Bool:=x.wr.all (fun k => !(y.LN x++y.wr).contains k)&&y.wr.all (fun k => !x.rd.contains k)
theorem akd{x y:bK}(h:indep x y=true):(∀k∈x.wr,k∉y.LN x)∧(∀k∈x.wr,k∉y.wr)∧(∀k∈y.wr,k∉x.rd):=by
 simp only[indep,b8,iL,vm,O9,decide_eq_false_iff_not,mS,not_or]at h;exact⟨fun k hk=>(h.1 k hk).1,fun k hk=>(h.1 k hk).2,h.2⟩
theorem swap{x y:bK}(hi:indep x y=true){S1 S2:St}(h1:x.run C S=some S1)(h2:y.run C S1=some S2):∃T1 T2,y.run C S=some T1∧x.run C T1=some T2∧Alike S2 T2:=by
 obtain⟨i1,i2,i3⟩:=akd hi;rw[Ih]at h1 h2;cases hx:x.cO C S with
 |none=>rw[hx]at h1;cases h1
 |some u =>
  rw[hx]at h1;simp only[nd,Option.some.injEq]at h1;subst h1;cases hy:y.cO C (u.app x.dst S) with
  |none=>rw[hy]at h2;cases h2
  |some v =>
   rw[hy]at h2;simp only[nd,Option.some.injEq]at h2;subst h2;have zV:y.cO C S=some v:=by
    rw[←hy];exact(akc hx fun k hk=>stays hx fun hw=>i1 k hw hk).symm
   have s6:x.cO C (v.app y.dst S)=some u:=by
    rw[←hx];exact LK fun k hk=>stays zV fun hw=>i3 k hw hk
   refine⟨v.app y.dst S,u.app x.dst (v.app y.dst S),by rw[Ih,zV];rfl,by rw[Ih,s6];rfl,fun k=>?_⟩
   by_cases hk:k∈y.wr
   ·have Yc:k∉x.wr:=fun h=>i2 k h hk
    exact LF (QJ (stays hx Yc)) (QA (stays s6 Yc))
   ·exact LF (stays hy hk) (QJ (QA (stays zV hk)))
theorem ake(o:bK){S1:St}(h:Alike S S')(h1:o.run C S=some S1):∃S2,o.run C S'=some S2∧Alike S1 S2:=by
 rw[Ih]at h1;cases hx:o.cO C S with
 |none=>rw[hx]at h1;cases h1
 |some u =>
  rw[hx]at h1;simp only[nd,Option.some.injEq]at h1;subst h1;refine⟨u.app o.dst S',?_,fun k=>QJ (h k)⟩;rw[Ih,← LK (C:=C) (o:=o) (S:=S) (S':=S') (fun k _=>h k),hx];rfl
theorem QL:∀(l:List bK) {S S' T:St},Alike S S'→iE C l S=some T→∃T',iE C l S'=some T'∧Alike T T'
 |[],S,S',T,h,h1=>by simp only[iE,Option.some.injEq]at h1;subst h1;exact⟨S',rfl,h⟩
 |o::l,S,S',T,h,h1=>by
  simp only[iE]at h1;split at h1
  ·rename_i S1 hs
   obtain⟨S2,h2,h3⟩:=ake o h hs;obtain⟨T',h4,h5⟩:=QL l h3 h1;exact⟨T',by simp only[iE,h2];exact h4,h5⟩
  ·cases h1
theorem QM:∀(l r:List bK) (S:St),iE C (l++r) S=(iE C l S).bind (iE C r)
 |[],r,S=>rfl
 |o::l,r,S=>by
  simp only[uu,iE];cases o.run C S with
  |none=>rfl
  |some S'=>exact QM l r S'
theorem Yd:∀(l:List bK) {x:bK} {S T:St},(∀y∈l,indep y x=true)→iE C (l++[x]) S=some T→∃T',iE C (x::l) S=some T'∧Alike T T'
 |[],x,S,T,_,h=>⟨T,h,fun k=>X1 T k⟩
 |y::l,x,S,T,hi,h=>by
  simp only[uu,iE]at h;split at h
  ·rename_i S1 h1
   obtain⟨T1,h2,h3⟩:=Yd l (fun z hz=>hi z (CR _ hz)) h;simp only[iE]at h2;split at h2
   ·rename_i S2 h4
    obtain⟨U1,U2,h5,h6,h7⟩:=swap (hi y xV) h1 h4;obtain⟨T2,h8,h9⟩:=QL l h7 h2;exact⟨T2,by simp only[iE,h5,h6];exact h8,fun k=>LF (h3 k) (h9 k)⟩
   ·cases h2
  ·cases h
theorem pull{l r:List bK}{x:bK}{T:St}(hi:∀y∈l,indep y x=true)(h:iE C (l++x::r) S=some T):∃S1 T',x.run C S=some S1∧iE C (l++r) S1=some T'∧Alike T T':=by
 rw[show l++x::r=(l++[x])++r from by simp,QM]at h
 cases h1:iE C (l++[x]) S with
 |none=>rw[h1]at h;cases h
 |some U =>
  rw[h1]at h;obtain⟨U',h2,h3⟩:=Yd l hi h1;obtain⟨T',h4,h5⟩:=QL r h3 h;simp only[iE]at h2;split at h2
  ·rename_i S1 h6
   refine⟨S1,T',h6,?_,h5⟩;rw[QM,h2];exact h4
  ·cases h2
end
section
variable {P:Program} {E:Entry} {g g':Gh} {S S':St} {a:Act} {w w':World} {C:bD}
theorem R.alike(hR:R E g S a w)(h:Alike S S'):R E g S' a w:=by
 have hg:S.aD=S'.aD:=h .g;have ht:∀f,look f S.bl=look f S'.bl:=fun f=>h (.t f);have ni:∀v x,bf (S.cx g w) v x→bf (S'.cx g w) v x:=fun v x hx=>by
  have le:Le (S.cx g w) (S'.cx g w):=⟨bY _,fun _ _ _ _ h=>h,fun _ _=>bY _,by simp[St.cx,hg],fun _ _=>rfl⟩
  refine bf.mono le hx fun d=>.inl ⟨rfl,rfl,fun k hk=>⟨k,(ht d).trans (show look d S'.bl=some k from hk),bY _,fun _=>⟨rfl,fun _ _=>⟨rfl,fun c _ h=>⟨c,h,rfl⟩⟩⟩⟩⟩
 refine⟨fun s v hs=>?_,fun id cs ho=>?_,fun f k b hf hb=>hR.bl f k b ((ht f).trans hf) hb,hg ▸ hR.aD,hR.defers,hR.kb,hg ▸ hR.same⟩
 ·obtain⟨x,h1,h2⟩:=hR.env s v ((h (.e s)).trans hs)
  exact⟨x,h1,ni v x h2⟩
 ·rcases hR.aZ id cs ((h (.o id)).trans ho) with h0 | ⟨h1,h2,h3,c,e,h4,fY,h5⟩
  ·exact .inl h0
  refine .inr ⟨h1,h2,h3,c,e,h4,fY,fun j v hj=>?_⟩;obtain⟨h6,y,h7,h8⟩:=h5 j v hj;exact⟨h6,y,h7,ni v y h8⟩
def reach(os:Array Oper):Nat→Nat→Nat→Bool
 |0,_,_=>false
 |n+1,i,y=>match os[i]? with
  |some o=>o.after.toList.any fun e=>Region.binds .any e&&(e.on==y || reach os n e.on y)
  |none=>false
def LQ(os:Array Oper)(vs:List bK):Bool :=
 (List.range os.size).all fun i=>(match os[i]? with|some o=>o.after.toList.all fun e => !Region.binds .any e || Nat.blt e.on i|none=>true) &&
  (List.range i).all fun y=>(match vs[y]?,vs[i]? with|some u,some v=>indep u v || reach os os.size i y|_,_=>false)
theorem Ye{os:Array Oper}{eZ:Array Bool}(Fu:∀(j:Nat) o,os[j]?=some o→eZ.getD j true=true→∀e∈o.after,Region.binds .any e=true→eZ.getD e.on false=true) :
  ∀(n i y:Nat) (o:Oper),os[i]?=some o→(∀e∈o.after,Region.binds .any e=true→eZ.getD e.on false=true)→reach os n i y=true→eZ.getD y false=true
 |0,_,_,_,_,_,h=>by simp[reach]at h
 |n+1,i,y,o,ho,Ai,h=>by
  simp only[reach,ho,Be,b8,CI,eg]at h;obtain⟨e,he,hb,h⟩:=h;have hm:e∈o.after:=by simpa using he
  rcases h with h|h
  ·rw[←h];exact Ai e hm hb
  ·cases BO:os[e.on]? with
   |none=>cases n<;>simp[reach,BO]at h
   |some o' =>
    refine Ye Fu n e.on y o' BO (Fu e.on o' BO ?_) h;have:=Ai e hm hb;rcases cM e.on eZ.size with h1|h1
    ·simpa [h1] using this
    ·simp[nb h1]at this
def mC(n:Nat)(eZ:Array Bool):List Nat:=(List.range n).filter fun j => !eZ.getD j true
theorem akf{n:Nat}{p:Nat→Bool}{i:Nat}(hi:i<n)(hp:p i=true):(List.range n).filter p=(List.range i).filter p++i::((List.range' (i+1) (n-(i+1))).filter p):=by
 have h1:List.range n=List.range i++i::List.range' (i+1) (n-(i+1)):=by
  rw[Hr,Hr];have:List.range' 0 n=List.range' 0 i++List.range' i (n-i):=by
   have:=List.range'_append (s:=0) (m:=i) (n:=n-i) (step:=1);simp only[KZ,kz]at this;rw[this];congr 1;omega
  rw[this,show n-i=(n-(i+1))+1 from by omega,Hq]
 rw[h1,CN,Pd,aK hp]
def vT(vs:List bK)(l:List Nat):List bK:=l.filterMap (vs[·]?)
theorem akg{ps:Ps}(iF:xc P E.T ps){os:Array Oper}{vs:List bK}{ids:List Nat}{Q:Exit→Act→World→Prop}(bz:Ag P ps E.nt os os.toList vs=true)(me:Ic vs ids=true)(QN:LQ os vs=true)(hC:qm P E.T C){Sn:St}
  (hQ:∀g a w,R E g Sn a w→Q .normal a w):∀(fuel:Nat) (eZ:Array Bool) (l:List Nat) (S T:St) (a:Act) (w:World),eZ.size=os.size→(mC os.size eZ).length=fuel →
   (∀(j:Nat) o,os[j]?=some o→eZ.getD j true=true→∀e∈o.after,Region.binds .any e=true→eZ.getD e.on false=true) →
   (∀j,j∈l→eZ.getD j true=true)→Inv E vs ids l S a w→iE C (vT vs (mC os.size eZ)) S=some T→Alike T Sn→wpAny P .any os Q fuel eZ a w:=by
 have hlen:=(Fq bz).1;simp only[xS]at hlen;simp only[LQ,iL,EL,b8]at QN;have done:∀(eZ:Array Bool) (l:List Nat) (S T:St) (a:Act) (w:World),eZ.size=os.size→Region.ready .any os eZ=[]→Inv E vs ids l S a w→iE C (vT vs (mC os.size eZ)) S=some T→Alike T Sn→Q .normal a w:=by
  intro eZ l S T a w eH Fv hinv ah s7;have akh:mC os.size eZ=[]:=by
   cases hu:mC os.size eZ with
   |nil=>rfl
   |cons i r =>
    exfalso;have Lx:∀j,j∈mC os.size eZ↔j<os.size∧eZ.getD j true=false:=fun j=>by simp[mC]
    have least:∃i,i∈mC os.size eZ∧∀j,j<i→j∉mC os.size eZ:=by
     have:∀n,∀i,i≤n→i∈mC os.size eZ→∃i,i∈mC os.size eZ∧∀j,j<i→j∉mC os.size eZ:=by
      intro n;induction n with
      |zero=>intro i hi hm;exact⟨i,hm,fun j hj=>by omega⟩
      |succ n ih =>
       intro i hi hm;by_cases h:∃j,j<i∧j∈mC os.size eZ
       ·obtain⟨j,h1,h2⟩:=h
        exact ih j (by omega) h2
       ·exact⟨i,hm,fun j hj hjm=>h ⟨j,hj,hjm⟩⟩
     exact this i i (bY _) (by rw[hu];exact xV)
    obtain⟨i,hi,akj⟩:=least;obtain⟨bI,xi⟩:=(Lx i).1 hi;have mA:i∈Region.ready .any os eZ:=by
     rw[mem_ready];refine⟨xi,os[i],G9 bI,fun e he hb=>?_⟩;have h1:=(QN i bI).1;rw[G9 bI]at h1;simp only[iL,Array.mem_toList_iff]at h1;have h0:=h1 e he;rw[hb]at h0;have h2:e.on<i:=by simpa using h0
     have h3:=akj e.on h2;rw[Lx]at h3;have h4:e.on<eZ.size:=by omega
     cases hl:eZ.getD e.on false with
     |true=>rfl
     |false =>
      exfalso;refine h3 ⟨by omega,?_⟩
      simp[h4]at hl ⊢;exact hl
    rw[Fv]at mA;cases mA
  rw[akh]at ah;simp only[vT,List.filterMap_nil,iE,Option.some.injEq]at ah;subst ah;obtain⟨⟨g,hR⟩,_⟩:=hinv;exact hQ g a w (hR.alike s7)
 intro fuel;induction fuel with
 |zero =>
  intro eZ l S T a w eH hf Fu hl hinv ah s7;have Fv:Region.ready .any os eZ=[]:=by
   have xi:mC os.size eZ=[]:=a8.1 hf;cases hr:Region.ready .any os eZ with
   |nil=>rfl
   |cons i r =>
    exfalso;have:i∈Region.ready .any os eZ:=by rw[hr];exact xV
    rw[mem_ready]at this;obtain⟨h1,o,ho,_⟩:=this;have bI:i<os.size:=(wJ.1 ho).1;have:i∈mC os.size eZ:=by simp[mC,bI];simpa using h1
    rw[xi]at this;cases this
  exact⟨Fv,done eZ l S T a w eH Fv hinv ah s7⟩
 |succ fuel ih =>
  intro eZ l S T a w eH hf Fu hl hinv ah s7;refine⟨fun Fv=>done eZ l S T a w eH Fv hinv ah s7,fun i hi=>?_⟩;rw[mem_ready]at hi;obtain⟨xi,o,ho,Ai⟩:=hi;have bI:i<os.size:=(wJ.1 ho).1;have QO:i<vs.length:=by omega
  have Qz:i∉l:=fun h=>by rw[hl i h]at xi;cases xi
  have QP:=akf (p:=fun j => !eZ.getD j true) bI (by rw[xi];rfl)
  have QQ:vT vs (mC os.size eZ)=vT vs ((List.range i).filter fun j => !eZ.getD j true)++vs[i]::vT vs ((List.range' (i+1) (os.size-(i+1))).filter fun j => !eZ.getD j true):=by
   unfold mC;rw[QP];simp only[vT,WC,WD,g8 QO]
  have akk:∀y∈vT vs ((List.range i).filter fun j => !eZ.getD j true),indep y vs[i]=true:=by
   intro y hy;obtain⟨j,hj,sW⟩:=List.mem_filterMap.1 hy;simp only[zK,EL,vm]at hj;have h1:=(QN i bI).2 j hj.1;rw[sW,g8 QO]at h1;simp only[CI]at h1;rcases h1 with h1|h1
   ·exact h1
   ·exfalso
    have:=Ye Fu os.size i j o ho Ai h1;have Ln:j<eZ.size:=by omega
    simp[Ln]at this hj;rw[this]at hj;exact absurd hj.2 (by simp)
  rw[QQ]at ah;obtain⟨S1,T',h1,h2,h3⟩:=pull akk ah;refine XX iF bz me ho (g8 QO) Qz hC hinv h1 fun a' w' LD=>?_;have yG:∀j,(eZ.setIfInBounds i true).getD j true=if j=i then true else eZ.getD j true:=fun j=>by
   by_cases BP:j=i
   ·subst BP;simp[eH,bI]
   ·rw[av BP,getD_set_ne true (fun e=>BP e.symm)]
  have Yf:∀j,eZ.getD j false=true→(eZ.setIfInBounds i true).getD j false=true:=fun j h=>getD_set_true h;have vV:mC os.size (eZ.setIfInBounds i true)=((List.range i).filter fun j => !eZ.getD j true)++((List.range' (i+1) (os.size-(i+1))).filter fun j => !eZ.getD j true):=by
   have h4:mC os.size (eZ.setIfInBounds i true)=((List.range os.size).filter fun j => !eZ.getD j true).filter fun j=>decide (j≠i):=by
    unfold mC;rw[List.filter_filter];apply WE;intro j _;rw[yG];by_cases BP:j=i<;>simp[BP]
   rw[h4,QP,CN,Pd,av (by simp)]
   congr 1
   ·apply KN.2
    intro j hj;simp only[zK,EL]at hj;simp;omega
   ·apply KN.2
    intro j hj;simp only[zK,List.mem_range'_1]at hj;simp;omega
  refine ih (eZ.setIfInBounds i true) (i::l) S1 T' a' w' (by simp[eH]) ?_ ?_ ?_ LD ?_ (fun k=>LF (QA (h3 k)) (s7 k))
  ·have:(mC os.size eZ).length=fuel+1:=hf
   unfold mC at this;rw[QP]at this;rw[vV];simp at this ⊢;omega
  ·intro j o' BO hj e he hb
   rw[yG]at hj;by_cases BP:j=i
   ·subst BP
    rw[ho]at BO;cases BO;exact Yf _ (Ai e he hb)
   ·rw[av BP]at hj
    exact Yf _ (Fu j o' BO hj e he hb)
  ·intro j hj
   rw[yG];rcases jQ.1 hj with h|h
   ·rw[aK h]
   ·split
    ·rfl
    ·exact hl j h
  ·rw[vV]
   simp only[vT,WC];exact h2
end
end Go.Vm

/- The value machine, 14: a region whose order is drawn. -/
import Derived.Test.YtcelmhaoipbdiaaGreatDoorVmD
namespace Go.Vm
set_option linter.all false
noncomputable def bA.cG(C:br)(S:St)(o:bA):Option Out :=
 match o.guard with
 |none=>o.op.cG C S
 |some (g,want)=>match look g S.env with
  |some (.bool b)=>bif b==want then o.op.cG C S else some (.val .undef)
  |some .undef=>some (.val .undef)
  |_=>none
theorem FY(C:br)(S:St)(o:bA):o.run C S=(o.cG C S).map fun u=>u.app o.dst S:=by
 unfold bA.run bA.cG;cases o.guard with
 |none=>exact Uf C o.dst S o.op
 |some q =>
  obtain⟨g,want⟩:=q;simp only;cases look g S.env with
  |none=>rfl
  |some v =>
   cases v<;>try rfl
   simp only[om,mT,sk,Uf]
section
variable {S S':St} {C:br}
theorem Jq{o:bA}(h:fK S S' o.rd):o.cG C S=o.cG C S':=by
 unfold bA.rd at h;unfold bA.cG;cases hg:o.guard with
 |none=>rw[hg]at h;exact Uj h.right
 |some q =>
  obtain⟨g,want⟩:=q;rw[hg]at h;have h1:look g S.env=look g S'.env:=h.left (.e g) (by simp)
  simp only[h1,Uj (C:=C) h.right]
theorem aeZ{o:bA}{u:Out}(h:o.cG C S=some u):Dj u o.op.wr:=by
 have val:∀v K,Dj (Out.val v) K:=fun v K=>⟨by simp[Out.val],by simp[Out.val],by simp[Out.val]⟩
 unfold bA.cG at h;split at h
 ·exact Uk h
 ·rename_i g want _
  split at h
  ·rename_i b _
   cases hb:b==want with
   |true=>simp only[hb,bC]at h;exact Uk h
   |false=>simp only[hb,eV]at h;cases h;exact val _ _
  ·cases h;exact val _ _
  ·cases h
theorem stays{o:bA}{u:Out}(h:o.cG C S=some u){T:St}{k:Key}(hk:k∉o.wr):same (u.app o.dst T) T k :=
 aeY (aeZ h) hk
def bA.aqV(o:bA):Bool:=match o.op with | .load .ay _ _=>true|_=>false
def bA.Jr(o:bA):Bool:=match o.op with | .rJ _ _=>true|_=>false
def bA.Js(o x:bA):List Key:=match o.op with
 |.load .ay _ p=>bif x.Jr then (match o.guard with|some (s,_)=>[.e s] | none=>[])++p.keys else o.rd
 |_=>o.rd
theorem ae0{cs:List V}{o n off:Nat}{es:List (List V)}{sz:Option Nat}(h:cs[o]?=some (.e9 n es)):(loadAt sz (cs.set o (.slice none n es)) off).map (rT .ay)=(loadAt sz cs off).map (rT .ay):=by
 have key:∀j:Nat,((cs.set o (.slice none n es))[j]?).map V.iV=(cs[j]?).map V.iV:=fun j=>by
  rw[km];split
  ·rename_i e
   subst e;rw[aP (Ix.1 h).1,h];rfl
  ·rfl
 have lst:(cs.set o (.slice none n es)).map V.iV=cs.map V.iV:=xq fun j=>by rw[tN,tN];exact key j
 cases sz with
 |none =>
  simp only[loadAt];have hk:=key off;rw[km]at hk ⊢;split
  ·rename_i e
   subst e;rw[aP (Ix.1 h).1,h];rfl
  ·rfl
 |some m =>
  simp only[loadAt,oJ];cases Nat.ble (off+m) cs.length with
  |false=>rfl
  |true =>
   simp only[bC,mT,rT,V.kq,IA,Mm,lst]
theorem ae2(C:br){S S':St}{sz:Option Nat}{p:bp}(he:S'.ev p=S.ev p)(hg:S'.ay=S.ay∨∃(id o n:Nat) (es:List (List V)) (cs:List V),S.ay[id]?=some (.cells cs)∧cs[o]?=some (.e9 n es)∧S'.ay=S.ay.set id (.cells (cs.set o (.slice none n es)))) :
  VO.cG C S' (.load .ay sz p)=VO.cG C S (.load .ay sz p):=by
 simp only[VO.cG,he];cases S.ev p with
 |none=>rfl
 |some a =>
  cases a with
  |bI i off =>
   have lift:∀{c d:List V},(loadAt sz c off).map (rT .ay)=(loadAt sz d off).map (rT .ay)→(match loadAt sz c off with|some v=>some (Out.val (rT .ay v))|none=>none)=(match loadAt sz d off with|some v=>some (Out.val (rT .ay v))|none=>none):=fun {c d} h=>by
    cases h1:loadAt sz c off<;>cases h2:loadAt sz d off<;>simp_all
   simp only[jc.fits,bC,St.mU];rcases hg with hg | ⟨id,o,n,es,cs,h1,h2,h3⟩
   ·rw[hg]
   ·rw[h3,km]
    by_cases e:id=i
    ·subst e
     rw[aP rfl,aP (Ix.1 h1).1,h1];exact lift (ae0 h2)
    ·rw[aA e]
  |_=>rfl
theorem ae3{C:br}{x:bA}{u:Out}(hx:x.Jr=true)(h:x.cG C S=some u)(d:Option Nat):(u.app d S).ay=S.ay∨∃(id o n:Nat) (es:List (List V)) (cs:List V),S.ay[id]?=some (.cells cs)∧cs[o]?=some (.e9 n es)∧(u.app d S).ay=S.ay.set id (.cells (cs.set o (.slice none n es))):=by
 have val:∀v:V,((Out.val v).app d S).ay=S.ay:=fun v=>by cases d<;>rfl
 have main:x.op.cG C S=some u→((u.app d S).ay=S.ay∨∃(id o n:Nat) (es:List (List V)) (cs:List V),S.ay[id]?=some (.cells cs)∧cs[o]?=some (.e9 n es)∧(u.app d S).ay=S.ay.set id (.cells (cs.set o (.slice none n es)))):=fun h=>by
  unfold bA.Jr at hx;split at hx
  ·rename_i cb p ho
   rw[ho]at h;simp only[VO.cG]at h;split at h
   ·rename_i a ha
    split at h
    ·rename_i v ts G hG
     cases h;unfold St.take at hG;split at hG
     ·rename_i id off
      split at hG
      ·rename_i cs eB
       split at hG
       ·rename_i n es Jt
        cases hG;refine .inr ⟨id,off,n,es,cs,eB,Jt,?_⟩;cases d<;>rfl
       ·cases hG
        left;cases d<;>rfl
       ·cases hG
      ·cases hG
     ·cases hG
    ·cases h
   ·cases h
  ·cases hx
 unfold bA.cG at h;split at h
 ·exact main h
 ·rename_i g want _
  split at h
  ·rename_i b _
   cases hb:b==want with
   |true=>simp only[hb,bC]at h;exact main h
   |false=>simp only[hb,eV]at h;cases h;exact .inl (val _)
  ·cases h;exact .inl (val _)
  ·cases h
theorem ae4{x y:bA}{u:Out}(hx:x.cG C S=some u)(h:∀k∈y.Js x,same (u.app x.dst S) S k):y.cG C (u.app x.dst S)=y.cG C S:=by
 unfold bA.Js at h;split at h
 ·rename_i sz p ho
  cases ht:x.Jr with
  |false=>rw[ht]at h;exact Jq fun k hk=>h k hk
  |true =>
   rw[ht]at h;simp only[bC]at h;have he:(u.app x.dst S).ev p=S.ev p:=(ea (S:=u.app x.dst S) (S':=S) fun k hk=>h k (EX _ hk));have hl:=ae2 C (sz:=sz) he (ae3 ht hx x.dst);unfold bA.cG;rw[ho];cases hg:y.guard with
   |none=>exact hl
   |some q =>
    obtain⟨g,want⟩:=q;rw[hg]at h;have h1:look g (u.app x.dst S).env=look g S.env:=h (.e g) (by simp)
    simp only[h1,hl]
 ·exact Jq fun k hk=>h k hk
def indep(x y:bA):Bool:=x.wr.all (fun k => !(y.Js x++y.wr).contains k)&&y.wr.all (fun k => !x.rd.contains k)
theorem ae5{x y:bA}(h:indep x y=true):(∀k∈x.wr,k∉y.Js x)∧(∀k∈x.wr,k∉y.wr)∧(∀k∈y.wr,k∉x.rd):=by
 simp only[indep,bQ,g9,tK,Me,decide_eq_false_iff_not,qA,not_or]at h;exact⟨fun k hk=>(h.1 k hk).1,fun k hk=>(h.1 k hk).2,h.2⟩
theorem swap{x y:bA}(hi:indep x y=true){S1 S2:St}(h1:x.run C S=some S1)(h2:y.run C S1=some S2):∃T1 T2,y.run C S=some T1∧x.run C T1=some T2∧Alike S2 T2:=by
 obtain⟨i1,i2,i3⟩:=ae5 hi;rw[FY]at h1 h2;cases hx:x.cG C S with
 |none=>rw[hx]at h1;cases h1
 |some u =>
  rw[hx]at h1;simp only[mT,Option.some.injEq]at h1;subst h1;cases hy:y.cG C (u.app x.dst S) with
  |none=>rw[hy]at h2;cases h2
  |some v =>
   rw[hy]at h2;simp only[mT,Option.some.injEq]at h2;subst h2;have xG:y.cG C S=some v:=by
    rw[←hy];exact(ae4 hx fun k hk=>stays hx fun hw=>i1 k hw hk).symm
   have qS:x.cG C (v.app y.dst S)=some u:=by
    rw[←hx];exact Jq fun k hk=>stays xG fun hw=>i3 k hw hk
   refine⟨v.app y.dst S,u.app x.dst (v.app y.dst S),by rw[FY,xG];rfl,by rw[FY,qS];rfl,fun k=>?_⟩
   by_cases hk:k∈y.wr
   ·have Ul:k∉x.wr:=fun h=>i2 k h hk
    exact Jk (NF (stays hx Ul)) (Nv (stays qS Ul))
   ·exact Jk (stays hy hk) (NF (Nv (stays xG hk)))
theorem ae6(o:bA){S1:St}(h:Alike S S')(h1:o.run C S=some S1):∃S2,o.run C S'=some S2∧Alike S1 S2:=by
 rw[FY]at h1;cases hx:o.cG C S with
 |none=>rw[hx]at h1;cases h1
 |some u =>
  rw[hx]at h1;simp only[mT,Option.some.injEq]at h1;subst h1;refine⟨u.app o.dst S',?_,fun k=>NF (h k)⟩;rw[FY,← Jq (C:=C) (o:=o) (S:=S) (S':=S') (fun k _=>h k),hx];rfl
theorem NH:∀(l:List bA) {S S' T:St},Alike S S'→gQ C l S=some T→∃T',gQ C l S'=some T'∧Alike T T'
 |[],S,S',T,h,h1=>by simp only[gQ,Option.some.injEq]at h1;subst h1;exact⟨S',rfl,h⟩
 |o::l,S,S',T,h,h1=>by
  simp only[gQ]at h1;split at h1
  ·rename_i S1 hs
   obtain⟨S2,h2,h3⟩:=ae6 o h hs;obtain⟨T',h4,h5⟩:=NH l h3 h1;exact⟨T',by simp only[gQ,h2];exact h4,h5⟩
  ·cases h1
theorem NI:∀(l r:List bA) (S:St),gQ C (l++r) S=(gQ C l S).bind (gQ C r)
 |[],r,S=>rfl
 |o::l,r,S=>by
  simp only[tL,gQ];cases o.run C S with
  |none=>rfl
  |some S'=>exact NI l r S'
theorem Um:∀(l:List bA) {x:bA} {S T:St},(∀y∈l,indep y x=true)→gQ C (l++[x]) S=some T→∃T',gQ C (x::l) S=some T'∧Alike T T'
 |[],x,S,T,_,h=>⟨T,h,fun k=>Ua T k⟩
 |y::l,x,S,T,hi,h=>by
  simp only[tL,gQ]at h;split at h
  ·rename_i S1 h1
   obtain⟨T1,h2,h3⟩:=Um l (fun z hz=>hi z (AW _ hz)) h;simp only[gQ]at h2;split at h2
   ·rename_i S2 h4
    obtain⟨U1,U2,h5,h6,h7⟩:=swap (hi y wC) h1 h4;obtain⟨T2,h8,h9⟩:=NH l h7 h2;exact⟨T2,by simp only[gQ,h5,h6];exact h8,fun k=>Jk (h3 k) (h9 k)⟩
   ·cases h2
  ·cases h
theorem pull{l r:List bA}{x:bA}{T:St}(hi:∀y∈l,indep y x=true)(h:gQ C (l++x::r) S=some T):∃S1 T',x.run C S=some S1∧gQ C (l++r) S1=some T'∧Alike T T':=by
 rw[show l++x::r=(l++[x])++r from by simp,NI]at h
 cases h1:gQ C (l++[x]) S with
 |none=>rw[h1]at h;cases h
 |some U =>
  rw[h1]at h;obtain⟨U',h2,h3⟩:=Um l hi h1;obtain⟨T',h4,h5⟩:=NH r h3 h;simp only[gQ]at h2;split at h2
  ·rename_i S1 h6
   refine⟨S1,T',h6,?_,h5⟩;rw[NI,h2];exact h4
  ·cases h2
end
section
variable {P:Program} {E:Entry} {g g':Gh} {S S':St} {a:Act} {w w':World} {C:br}
theorem R.alike(hR:R E g S a w)(h:Alike S S'):R E g S' a w:=by
 have hg:S.ay=S'.ay:=h .g;have ht:∀f,look f S.bf=look f S'.bf:=fun f=>h (.t f);have lY:∀v x,aZ (S.cx g w) v x→aZ (S'.cx g w) v x:=fun v x hx=>by
  have le:Le (S.cx g w) (S'.cx g w):=⟨bR _,fun _ _ _ _ h=>h,fun _ _=>bR _,by simp[St.cx,hg],fun _ _=>rfl⟩
  refine aZ.mono le hx fun d=>.inl ⟨rfl,rfl,fun k hk=>⟨k,(ht d).trans (show look d S'.bf=some k from hk),bR _,fun _=>⟨rfl,fun _ _=>⟨rfl,fun c _ h=>⟨c,h,rfl⟩⟩⟩⟩⟩
 refine⟨fun s v hs=>?_,fun id cs ho=>?_,fun f k b hf hb=>hR.bf f k b ((ht f).trans hf) hb,hg ▸ hR.ay,hR.defers,hR.jg,hg ▸ hR.same⟩
 ·obtain⟨x,h1,h2⟩:=hR.env s v ((h (.e s)).trans hs)
  exact⟨x,h1,lY v x h2⟩
 ·rcases hR.aW id cs ((h (.o id)).trans ho) with h0 | ⟨h1,h2,h3,c,e,h4,fJ,h5⟩
  ·exact .inl h0
  refine .inr ⟨h1,h2,h3,c,e,h4,fJ,fun j v hj=>?_⟩;obtain⟨h6,y,h7,h8⟩:=h5 j v hj;exact⟨h6,y,h7,lY v y h8⟩
def reach(os:Array Oper):Nat→Nat→Nat→Bool
 |0,_,_=>false
 |n+1,i,y=>match os[i]? with
  |some o=>o.after.toList.any fun e=>Region.binds .any e&&(e.on==y || reach os n e.on y)
  |none=>false
def Jv(os:Array Oper)(vs:List bA):Bool :=
 (List.range os.size).all fun i=>(match os[i]? with|some o=>o.after.toList.all fun e => !Region.binds .any e || Nat.blt e.on i|none=>true) &&
  (List.range i).all fun y=>(match vs[y]?,vs[i]? with|some u,some v=>indep u v || reach os os.size i y|_,_=>false)
theorem Uo{os:Array Oper}{listed:Array Bool}(Dk:∀(j:Nat) o,os[j]?=some o→listed.getD j true=true→∀e∈o.after,Region.binds .any e=true→listed.getD e.on false=true) :
  ∀(n i y:Nat) (o:Oper),os[i]?=some o→(∀e∈o.after,Region.binds .any e=true→listed.getD e.on false=true)→reach os n i y=true→listed.getD y false=true
 |0,_,_,_,_,_,h=>by simp[reach]at h
 |n+1,i,y,o,ho,xV,h=>by
  simp only[reach,ho,EM,bQ,AP,dO]at h;obtain⟨e,he,hb,h⟩:=h;have hm:e∈o.after:=by simpa using he
  rcases h with h|h
  ·rw[←h];exact xV e hm hb
  ·cases Ad:os[e.on]? with
   |none=>cases n<;>simp[reach,Ad]at h
   |some o' =>
    refine Uo Dk n e.on y o' Ad (Dk e.on o' Ad ?_) h;have:=xV e hm hb;rcases cF e.on listed.size with h1|h1
    ·simpa [h1] using this
    ·simp[lU h1]at this
def lh(n:Nat)(listed:Array Bool):List Nat:=(List.range n).filter fun j => !listed.getD j true
theorem ae7{n:Nat}{p:Nat→Bool}{i:Nat}(hi:i<n)(hp:p i=true):(List.range n).filter p=(List.range i).filter p++i::((List.range' (i+1) (n-(i+1))).filter p):=by
 have h1:List.range n=List.range i++i::List.range' (i+1) (n-(i+1)):=by
  rw[EZ,EZ];have:List.range' 0 n=List.range' 0 i++List.range' i (n-i):=by
   have:=List.range'_append (s:=0) (m:=i) (n:=n-i) (step:=1);simp only[IK,jz]at this;rw[this];congr 1;omega
  rw[this,show n-i=(n-(i+1))+1 from by omega,EY]
 rw[h1,AS,Mh,aP hp]
def um(vs:List bA)(l:List Nat):List bA:=l.filterMap (vs[·]?)
theorem ae8{ps:Ps}(iP:vy P E.T ps){os:Array Oper}{vs:List bA}{ids:List Nat}{Q:Exit→Act→World→Prop}(bo:xT P ps E.nt os os.toList vs=true)(kN:FV vs ids=true)(NJ:Jv os vs=true)(hC:pN P E.T C){Sn:St}
  (hQ:∀g a w,R E g Sn a w→Q .normal a w):∀(fuel:Nat) (listed:Array Bool) (l:List Nat) (S T:St) (a:Act) (w:World),listed.size=os.size→(lh os.size listed).length=fuel →
   (∀(j:Nat) o,os[j]?=some o→listed.getD j true=true→∀e∈o.after,Region.binds .any e=true→listed.getD e.on false=true) →
   (∀j,j∈l→listed.getD j true=true)→Inv E vs ids l S a w→gQ C (um vs (lh os.size listed)) S=some T→Alike T Sn→wpAny P .any os Q fuel listed a w:=by
 have hlen:=(Dh bo).1;simp only[wz]at hlen;simp only[Jv,g9,AX,bQ]at NJ;have done:∀(listed:Array Bool) (l:List Nat) (S T:St) (a:Act) (w:World),listed.size=os.size→Region.ready .any os listed=[]→Inv E vs ids l S a w→gQ C (um vs (lh os.size listed)) S=some T→Alike T Sn→Q .normal a w:=by
  intro listed l S T a w ec Dl hinv ah qT;have ae9:lh os.size listed=[]:=by
   cases hu:lh os.size listed with
   |nil=>rfl
   |cons i r =>
    exfalso;have Jd:∀j,j∈lh os.size listed↔j<os.size∧listed.getD j true=false:=fun j=>by simp[lh]
    have least:∃i,i∈lh os.size listed∧∀j,j<i→j∉lh os.size listed:=by
     have:∀n,∀i,i≤n→i∈lh os.size listed→∃i,i∈lh os.size listed∧∀j,j<i→j∉lh os.size listed:=by
      intro n;induction n with
      |zero=>intro i hi hm;exact⟨i,hm,fun j hj=>by omega⟩
      |succ n ih =>
       intro i hi hm;by_cases h:∃j,j<i∧j∈lh os.size listed
       ·obtain⟨j,h1,h2⟩:=h
        exact ih j (by omega) h2
       ·exact⟨i,hm,fun j hj hjm=>h ⟨j,hj,hjm⟩⟩
     exact this i i (bR _) (by rw[hu];exact wC)
    obtain⟨i,hi,afb⟩:=least;obtain⟨bB,vG⟩:=(Jd i).1 hi;have ld:i∈Region.ready .any os listed:=by
     rw[mem_ready];refine⟨vG,os[i],EC bB,fun e he hb=>?_⟩;have h1:=(NJ i bB).1;rw[EC bB]at h1;simp only[g9,Array.mem_toList_iff]at h1;have h0:=h1 e he;rw[hb]at h0;have h2:e.on<i:=by simpa using h0
     have h3:=afb e.on h2;rw[Jd]at h3;have h4:e.on<listed.size:=by omega
     cases hl:listed.getD e.on false with
     |true=>rfl
     |false =>
      exfalso;refine h3 ⟨by omega,?_⟩
      simp[h4]at hl ⊢;exact hl
    rw[Dl]at ld;cases ld
  rw[ae9]at ah;simp only[um,List.filterMap_nil,gQ,Option.some.injEq]at ah;subst ah;obtain⟨⟨g,hR⟩,_⟩:=hinv;exact hQ g a w (hR.alike qT)
 intro fuel;induction fuel with
 |zero =>
  intro listed l S T a w ec hf Dk hl hinv ah qT;have Dl:Region.ready .any os listed=[]:=by
   have vG:lh os.size listed=[]:=bW.1 hf;cases hr:Region.ready .any os listed with
   |nil=>rfl
   |cons i r =>
    exfalso;have:i∈Region.ready .any os listed:=by rw[hr];exact wC
    rw[mem_ready]at this;obtain⟨h1,o,ho,_⟩:=this;have bB:i<os.size:=(wy.1 ho).1;have:i∈lh os.size listed:=by simp[lh,bB];simpa using h1
    rw[vG]at this;cases this
  exact⟨Dl,done listed l S T a w ec Dl hinv ah qT⟩
 |succ fuel ih =>
  intro listed l S T a w ec hf Dk hl hinv ah qT;refine⟨fun Dl=>done listed l S T a w ec Dl hinv ah qT,fun i hi=>?_⟩;rw[mem_ready]at hi;obtain⟨vG,o,ho,xV⟩:=hi;have bB:i<os.size:=(wy.1 ho).1;have NK:i<vs.length:=by omega
  have Nu:i∉l:=fun h=>by rw[hl i h]at vG;cases vG
  have NL:=ae7 (p:=fun j => !listed.getD j true) bB (by rw[vG];rfl)
  have NM:um vs (lh os.size listed)=um vs ((List.range i).filter fun j => !listed.getD j true)++vs[i]::um vs ((List.range' (i+1) (os.size-(i+1))).filter fun j => !listed.getD j true):=by
   unfold lh;rw[NL];simp only[um,SB,SC,gG NK]
  have afc:∀y∈um vs ((List.range i).filter fun j => !listed.getD j true),indep y vs[i]=true:=by
   intro y hy;obtain⟨j,hj,qN⟩:=List.mem_filterMap.1 hy;simp only[xt,AX,tK]at hj;have h1:=(NJ i bB).2 j hj.1;rw[qN,gG NK]at h1;simp only[AP]at h1;rcases h1 with h1|h1
   ·exact h1
   ·exfalso
    have:=Uo Dk os.size i j o ho xV h1;have I5:j<listed.size:=by omega
    simp[I5]at this hj;rw[this]at hj;exact absurd hj.2 (by simp)
  rw[NM]at ah;obtain⟨S1,T',h1,h2,h3⟩:=pull afc ah;refine T7 iP bo kN ho (gG NK) Nu hC hinv h1 fun a' w' Jj=>?_;have wW:∀j,(listed.setIfInBounds i true).getD j true=if j=i then true else listed.getD j true:=fun j=>by
   by_cases Ae:j=i
   ·subst Ae;simp[ec,bB]
   ·rw[aA Ae,getD_set_ne true (fun e=>Ae e.symm)]
  have Up:∀j,listed.getD j false=true→(listed.setIfInBounds i true).getD j false=true:=fun j h=>getD_set_true h;have uo:lh os.size (listed.setIfInBounds i true)=((List.range i).filter fun j => !listed.getD j true)++((List.range' (i+1) (os.size-(i+1))).filter fun j => !listed.getD j true):=by
   have h4:lh os.size (listed.setIfInBounds i true)=((List.range os.size).filter fun j => !listed.getD j true).filter fun j=>decide (j≠i):=by
    unfold lh;rw[List.filter_filter];apply SD;intro j _;rw[wW];by_cases Ae:j=i<;>simp[Ae]
   rw[h4,NL,AS,Mh,aA (by simp)]
   congr 1
   ·apply Iw.2
    intro j hj;simp only[xt,AX]at hj;simp;omega
   ·apply Iw.2
    intro j hj;simp only[xt,List.mem_range'_1]at hj;simp;omega
  refine ih (listed.setIfInBounds i true) (i::l) S1 T' a' w' (by simp[ec]) ?_ ?_ ?_ Jj ?_ (fun k=>Jk (Nv (h3 k)) (qT k))
  ·have:(lh os.size listed).length=fuel+1:=hf
   unfold lh at this;rw[NL]at this;rw[uo];simp at this ⊢;omega
  ·intro j o' Ad hj e he hb
   rw[wW]at hj;by_cases Ae:j=i
   ·subst Ae
    rw[ho]at Ad;cases Ad;exact Up _ (xV e he hb)
   ·rw[aA Ae]at hj
    exact Up _ (Dk j o' Ad hj e he hb)
  ·intro j hj
   rw[wW];rcases ko.1 hj with h|h
   ·rw[aP h]
   ·split
    ·rfl
    ·exact hl j h
  ·rw[uo]
   simp only[um,SB];exact h2
end
end Go.Vm

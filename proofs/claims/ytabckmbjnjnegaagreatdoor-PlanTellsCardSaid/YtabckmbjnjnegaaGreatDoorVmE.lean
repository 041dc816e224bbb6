/- - -/
import Derived.Test.YtabckmbjnjnegaaGreatDoorVmD
namespace Go.Vm
set_option linter.all false
noncomputable def cf.dC(C:bI)(S:St)(o:cf):Option Out :=
 match o.guard with
 |none=>o.op.dC C S
 |some (g,want)=>match look g S.env with
  |some (.bool b)=>bif b==want then o.op.dC C S else some (.val .undef)
  |some .undef=>some (.val .undef)
  |_=>none
def Kh(C:bI)(S:St)(o:cf):o.run C S=(o.dC C S).map λu=>u.app o.dst S:=by
 unfold cf.run cf.dC;cases o.guard with
 |none=>exact aaM C o.dst S o.op
 |some q =>
  obtain⟨g,want⟩:=q;simp only;cases look g S.env with
  |none=>rfl
  |some v =>
   cases v<;>try rfl
   simp only[qS,ox,vO,aaM]
section
variable {S S':St} {C:bI}
variable{o:cf}
def N6(h:gV S S' o.rd):o.dC C S=o.dC C S':=by
 unfold cf.rd at h;unfold cf.dC;cases hg:o.guard with
 |none=>rw[hg]at h;exact aaS h.right
 |some q =>
  obtain⟨g,want⟩:=q;rw[hg]at h;have h1:look g S.env=look g S'.env:=h.left (.e g) (by simp)
  simp only[h1,aaS (C:=C) h.right]
variable{u:Out}
def anR(h:o.dC C S=some u):Hm u o.op.wr:=by
 have val:∀v K,Hm (Out.val v) K:=λv K=>⟨by simp[Out.val],by simp[Out.val],by simp[Out.val]⟩
 unfold cf.dC at h;split at h
 .exact aaT h
 next g want _=>
  split at h
  next b _=>
   cases hb:b==want with
   |true=>simp only[hb,bW]at h;exact aaT h
   |false=>simp only[hb,gL]at h;cases h;exact val _ _
  .cases h;exact val _ _
  .cases h
def stays(h:o.dC C S=some u){T:St}{k:Key}(hk:k∉o.wr):same (u.app o.dst T) T k :=
 anQ (anR h) hk
def cf.aDq(o:cf):Bool:=match o.op with | .load .aC _ _=>true|_=>false
def cf.N7(o:cf):Bool:=match o.op with | .vt _ _=>true|_=>false
def cf.N8(o x:cf):List Key:=match o.op with
 |.load .aC _ p=>bif x.N7 then (match o.guard with|some (s,_)=>[.e s] | none=>[])++p.keys else o.rd
 |_=>o.rd
variable{sz:Option Nat}
def anS{cs:List V}{o n off:Nat}{es:List (List V)}(h:cs[o]?=some (.eC n es)):(loadAt sz (cs.set o (.slice none n es)) off).map (vx .aC)=(loadAt sz cs off).map (vx .aC):=by
 have key:∀j:Nat,((cs.set o (.slice none n es))[j]?).map V.kq=(cs[j]?).map V.kq:=λj=>by
  rw[lM];split
  next e=>
   subst e;rw[aJ (mK.1 h).1,h];rfl
  .rfl
 have lst:(cs.set o (.slice none n es)).map V.kq=cs.map V.kq:=A4 λj=>by rw[xq,xq];exact key j
 cases sz with
 |none =>
  simp only[loadAt];have hk:=key off;rw[lM]at hk ⊢;split
  next e=>
   subst e;rw[aJ (mK.1 h).1,h];rfl
  .rfl
 |some m =>
  simp only[loadAt,qI];cases Nat.ble (off+m) cs.length with
  |false=>rfl
  |true =>
   simp only[bW,ox,vx,V.ml,RX,List.map_drop,lst]
def anU(C:bI){S S':St}{p:bG}(he:S'.ev p=S.ev p)(hg:S'.aC=S.aC\/∃(id o n:Nat) (es:List (List V)) (cs:List V),S.aC[id]?=some (.cells cs)/\cs[o]?=some (.eC n es)/\S'.aC=S.aC.set id (.cells (cs.set o (.slice none n es)))) :
  VO.dC C S' (.load .aC sz p)=VO.dC C S (.load .aC sz p):=by
 simp only[VO.dC,he];cases S.ev p with
 |none=>rfl
 |some a =>
  cases a with
  |bu i off =>
   have lift:∀{c d:List V},(loadAt sz c off).map (vx .aC)=(loadAt sz d off).map (vx .aC)->(match loadAt sz c off with|some v=>some (Out.val (vx .aC v))|none=>none)=(match loadAt sz d off with|some v=>some (Out.val (vx .aC v))|none=>none):=λ{c d} h=>by
    cases h1:loadAt sz c off<;>cases h2:loadAt sz d off<;>simp_all
   simp only[kE.fits,bW,St.pC];rcases hg with hg | ⟨id,o,n,es,cs,h1,h2,h3⟩
   .rw[hg]
   .rw[h3,lM]
    by_cases e:id=i
    .subst e
     rw[aJ rfl,aJ (mK.1 h1).1,h1];exact lift (anS h2)
    .rw[ax e]
  |_=>rfl
variable{x:cf}
def anV{C:bI}(hx:x.N7=true)(h:x.dC C S=some u)(d:Option Nat):(u.app d S).aC=S.aC\/∃(id o n:Nat) (es:List (List V)) (cs:List V),S.aC[id]?=some (.cells cs)/\cs[o]?=some (.eC n es)/\(u.app d S).aC=S.aC.set id (.cells (cs.set o (.slice none n es))):=by
 have val:∀v:V,((Out.val v).app d S).aC=S.aC:=λv=>by cases d<;>rfl
 have main:x.op.dC C S=some u->((u.app d S).aC=S.aC\/∃(id o n:Nat) (es:List (List V)) (cs:List V),S.aC[id]?=some (.cells cs)/\cs[o]?=some (.eC n es)/\(u.app d S).aC=S.aC.set id (.cells (cs.set o (.slice none n es)))):=λh=>by
  unfold cf.N7 at hx;split at hx
  next cD p ho=>
   rw[ho]at h;simp only[VO.dC]at h;split at h
   next a ha=>
    split at h
    next v ts G hG=>
     cases h;unfold St.take at hG;split at hG
     next id off=>
      split at hG
      next cs eR=>
       split at hG
       next n es N9=>
        cases hG;refine .inr ⟨id,off,n,es,cs,eR,N9,?_⟩;cases d<;>rfl
       .cases hG
        left;cases d<;>rfl
       .cases hG
      .cases hG
     .cases hG
    .cases h
   .cases h
  .cases hx
 unfold cf.dC at h;split at h
 .exact main h
 next g want _=>
  split at h
  next b _=>
   cases hb:b==want with
   |true=>simp only[hb,bW]at h;exact main h
   |false=>simp only[hb,gL]at h;cases h;exact .inl (val _)
  .cases h;exact .inl (val _)
  .cases h
variable{y:cf}
def anW(hx:x.dC C S=some u)(h:∀k∈y.N8 x,same (u.app x.dst S) S k):y.dC C (u.app x.dst S)=y.dC C S:=by
 unfold cf.N8 at h;split at h
 next sz p ho=>
  cases ht:x.N7 with
  |false=>rw[ht]at h;exact N6 λk hk=>h k hk
  |true =>
   rw[ht]at h;simp only[bW]at h;have he:(u.app x.dst S).ev p=S.ev p:=(eB (S:=u.app x.dst S) (S':=S) λk hk=>h k (Gq _ hk));have hl:=anU C (sz:=sz) he (anV ht hx x.dst);unfold cf.dC;rw[ho];cases hg:y.guard with
   |none=>exact hl
   |some q =>
    obtain⟨g,want⟩:=q;rw[hg]at h;have h1:look g (u.app x.dst S).env=look g S.env:=h (.e g) (by simp)
    simp only[h1,hl]
 .exact N6 λk hk=>h k hk
def indep(x y:cf):Bool:=x.wr.all (λk => !(y.N8 x++y.wr).contains k)&&y.wr.all (λk => !x.rd.contains k)
def anX(h:indep x y=true):(∀k∈x.wr,k∉y.N8 x)/\(∀k∈x.wr,k∉y.wr)/\(∀k∈y.wr,k∉x.rd):=by
 simp only[indep,bZ,iW,xo,RQ,decide_eq_false_iff_not,ka,not_or]at h;exact⟨λk hk=>(h.1 k hk).1,λk hk=>(h.1 k hk).2,h.2⟩
variable{S1:St}
def swap(hi:indep x y=true){S2:St}(h1:x.run C S=some S1)(h2:y.run C S1=some S2):∃T1 T2,y.run C S=some T1/\x.run C T1=some T2/\Alike S2 T2:=by
 obtain⟨i1,i2,i3⟩:=anX hi;rw[Kh]at h1 h2;cases hx:x.dC C S with
 |none=>rw[hx]at h1;cases h1
 |some u =>
  rw[hx]at h1;simp only[ox,Option.some.injEq]at h1;subst h1;cases hy:y.dC C (u.app x.dst S) with
  |none=>rw[hy]at h2;cases h2
  |some v =>
   rw[hy]at h2;simp only[ox,Option.some.injEq]at h2;subst h2;have Bh:y.dC C S=some v:=by
    rw[<-hy];exact(anW hx λk hk=>stays hx λhw=>i1 k hw hk).symm
   have uF:x.dC C (v.app y.dst S)=some u:=by
    rw[<-hx];exact N6 λk hk=>stays Bh λhw=>i3 k hw hk
   refine⟨v.app y.dst S,u.app x.dst (v.app y.dst S),by rw[Kh,Bh];rfl,by rw[Kh,uF];rfl,λk=>?_⟩
   by_cases hk:k∈y.wr
   .have hkx:k∉x.wr:=λh=>i2 k h hk
    exact NY (Tn (stays hx hkx)) (Tg (stays uF hkx))
   .exact NY (stays hy hk) (Tn (Tg (stays Bh hk)))
def anY(o:cf)(h:Alike S S')(h1:o.run C S=some S1):∃S2,o.run C S'=some S2/\Alike S1 S2:=by
 rw[Kh]at h1;cases hx:o.dC C S with
 |none=>rw[hx]at h1;cases h1
 |some u =>
  rw[hx]at h1;simp only[ox,Option.some.injEq]at h1;subst h1;refine⟨u.app o.dst S',?_,λk=>Tn (h k)⟩;rw[Kh,<- N6 (C:=C) (o:=o) (S:=S) (S':=S') (λk _=>h k),hx];rfl
def Tp:∀(l:List cf) {S S' T:St},Alike S S'->iZ C l S=some T->∃T',iZ C l S'=some T'/\Alike T T'
 |[],S,S',T,h,h1=>by simp only[iZ,Option.some.injEq]at h1;subst h1;exact⟨S',rfl,h⟩
 |o::l,S,S',T,h,h1=>by
  simp only[iZ]at h1;split at h1
  next S1 hs=>
   obtain⟨S2,h2,h3⟩:=anY o h hs;obtain⟨T',h4,h5⟩:=Tp l h3 h1;exact⟨T',by simp only[iZ,h2];exact h4,h5⟩
  .cases h1
def Tq:∀(l r:List cf) (S:St),iZ C (l++r) S=(iZ C l S).bind (iZ C r)
 |[],r,S=>rfl
 |o::l,r,S=>by
  simp only[vm,iZ];cases o.run C S with
  |none=>rfl
  |some S'=>exact Tq l r S'
def aaV:∀(l:List cf) {x:cf} {S T:St},(∀y∈l,indep y x=true)->iZ C (l++[x]) S=some T->∃T',iZ C (x::l) S=some T'/\Alike T T'
 |[],x,S,T,_,h=>⟨T,h,λk=>aaH T k⟩
 |y::l,x,S,T,hi,h=>by
  simp only[vm,iZ]at h;split at h
  next S1 h1=>
   obtain⟨T1,h2,h3⟩:=aaV l (λz hz=>hi z (Ej _ hz)) h;simp only[iZ]at h2;split at h2
   next S2 h4=>
    obtain⟨U1,U2,h5,h6,h7⟩:=swap (hi y z7) h1 h4;obtain⟨T2,h8,h9⟩:=Tp l h7 h2;exact⟨T2,by simp only[iZ,h5,h6];exact h8,λk=>NY (h3 k) (h9 k)⟩
   .cases h2
  .cases h
def pull{l r:List cf}{T:St}(hi:∀y∈l,indep y x=true)(h:iZ C (l++x::r) S=some T):∃S1 T',x.run C S=some S1/\iZ C (l++r) S1=some T'/\Alike T T':=by
 rw[show l++x::r=(l++[x])++r from by simp,Tq]at h
 cases h1:iZ C (l++[x]) S with
 |none=>rw[h1]at h;cases h
 |some U =>
  rw[h1]at h;obtain⟨U',h2,h3⟩:=aaV l hi h1;obtain⟨T',h4,h5⟩:=Tp r h3 h;simp only[iZ]at h2;split at h2
  next S1 h6=>
   refine⟨S1,T',h6,?_,h5⟩;rw[Tq,h2];exact h4
  .cases h2
end
section
variable {P:Program} {E:Entry} {g g':Gh} {S S':St} {a:Act} {w w':World} {C:bI}
def R.alike(hR:R E g S a w)(h:Alike S S'):R E g S' a w:=by
 have hg:S.aC=S'.aC:=h .g;have ht:∀f,look f S.bo=look f S'.bo:=λf=>h (.t f);have oB:∀v x,bh (S.cx g w) v x->bh (S'.cx g w) v x:=λv x hx=>by
  have le:Le (S.cx g w) (S'.cx g w):=⟨b8 _,λ_ _ _ _ h=>h,λ_ _=>b8 _,by simp[St.cx,hg],λ_ _=>rfl⟩
  refine bh.mono le hx λd=>.inl ⟨rfl,rfl,λk hk=>⟨k,(ht d).trans (show look d S'.bo=some k from hk),b8 _,λ_=>⟨rfl,λ_ _=>⟨rfl,λc _ h=>⟨c,h,rfl⟩⟩⟩⟩⟩
 refine⟨λs v hs=>?_,λid cs ho=>?_,λf k b hf hb=>hR.bo f k b ((ht f).trans hf) hb,hg ▸ hR.aC,hR.defers,hR.kr,hg ▸ hR.same⟩
 .obtain⟨x,h1,h2⟩:=hR.env s v ((h (.e s)).trans hs)
  exact⟨x,h1,oB v x h2⟩
 .rcases hR.aY id cs ((h (.o id)).trans ho) with h0 | ⟨h1,h2,h3,c,e,h4,gM,h5⟩
  .exact .inl h0
  refine .inr ⟨h1,h2,h3,c,e,h4,gM,λj v hj=>?_⟩;obtain⟨h6,y,h7,h8⟩:=h5 j v hj;exact⟨h6,y,h7,oB v y h8⟩
def reach(os:Array Oper):Nat->Nat->Nat->Bool
 |0,_,_=>false
 |n+1,i,y=>match os[i]? with
  |some o=>o.after.toList.any λe=>Region.binds .any e&&(e.on==y || reach os n e.on y)
  |none=>false
def Ob(os:Array Oper)(vs:List cf):Bool :=
 (List.range os.size).all λi=>(match os[i]? with|some o=>o.after.toList.all λe => !Region.binds .any e || Nat.blt e.on i|none=>true) &&
  (List.range i).all λy=>(match vs[y]?,vs[i]? with|some u,some v=>indep u v || reach os os.size i y|_,_=>false)
def aaW{os:Array Oper}{listed:Array Bool}(Hn:∀(j:Nat) o,os[j]?=some o->listed.getD j true=true->∀e∈o.after,Region.binds .any e=true->listed.getD e.on false=true) :
  ∀(n i y:Nat) (o:Oper),os[i]?=some o->(∀e∈o.after,Region.binds .any e=true->listed.getD e.on false=true)->reach os n i y=true->listed.getD y false=true
 |0,_,_,_,_,_,h=>by simp[reach]at h
 |n+1,i,y,o,ho,sk,h=>by
  simp only[reach,ho,Jh,bZ,Ef,ec]at h;obtain⟨e,he,hb,h⟩:=h;have hm:e∈o.after:=by simpa using he
  rcases h with h|h
  .rw[<-h];exact sk e hm hb
  .cases Dj:os[e.on]? with
   |none=>cases n<;>simp[reach,Dj]at h
   |some o' =>
    refine aaW Hn n e.on y o' Dj (Hn e.on o' Dj ?_) h;have:=sk e hm hb;rcases cS e.on listed.size with h1|h1
    .simpa [h1] using this
    .simp[ou h1]at this
def nB(n:Nat)(listed:Array Bool):List Nat:=(List.range n).filter λj => !listed.getD j true
def anZ{n:Nat}{p:Nat->Bool}{i:Nat}(hi:i<n)(hp:p i=true):(List.range n).filter p=(List.range i).filter p++i::((List.range' (i+1) (n-(i+1))).filter p):=by
 have h1:List.range n=List.range i++i::List.range' (i+1) (n-(i+1)):=by
  rw[Em,Em];have:List.range' 0 n=List.range' 0 i++List.range' i (n-i):=by
   have:=List.range'_append (s:=0) (m:=i) (n:=n-i) (step:=1);simp only[Nl,kX]at this;rw[this];congr 1;omega
  rw[this,show n-i=(n-(i+1))+1 from by omega,El]
 rw[h1,xp,M5,aJ hp]
def xP(vs:List cf)(l:List Nat):List cf:=l.filterMap (vs[·]?)
def an0{ps:Ps}(jH:yZ P E.T ps){os:Array Oper}{vs:List cf}{ids:List Nat}{Q:Exit->Act->World->Prop}(bE:Bw P ps E.nt os os.toList vs=true)(mT:Ke vs ids=true)(Ts:Ob os vs=true)(hC:sj P E.T C){Sn:St}
  (hQ:∀g a w,R E g Sn a w->Q .normal a w):∀(fuel:Nat) (listed:Array Bool) (l:List Nat) (S T:St) (a:Act) (w:World),listed.size=os.size->(nB os.size listed).length=fuel ->
   (∀(j:Nat) o,os[j]?=some o->listed.getD j true=true->∀e∈o.after,Region.binds .any e=true->listed.getD e.on false=true) ->
   (∀j,j∈l->listed.getD j true=true)->Inv E vs ids l S a w->iZ C (xP vs (nB os.size listed)) S=some T->Alike T Sn->wpAny P .any os Q fuel listed a w:=by
 have hlen:=(Hj bE).1;simp only[zZ]at hlen;simp only[Ob,iW,Gr,bZ]at Ts;have done:∀(listed:Array Bool) (l:List Nat) (S T:St) (a:Act) (w:World),listed.size=os.size->Region.ready .any os listed=[]->Inv E vs ids l S a w->iZ C (xP vs (nB os.size listed)) S=some T->Alike T Sn->Q .normal a w:=by
  intro listed l S T a w eF Ho hinv hrun uG;have an1:nB os.size listed=[]:=by
   cases hu:nB os.size listed with
   |nil=>rfl
   |cons i r =>
    exfalso;have NP:∀j,j∈nB os.size listed<->j<os.size/\listed.getD j true=false:=λj=>by simp[nB]
    have least:∃i,i∈nB os.size listed/\∀j,j<i->j∉nB os.size listed:=by
     have:∀n,∀i,i<=n->i∈nB os.size listed->∃i,i∈nB os.size listed/\∀j,j<i->j∉nB os.size listed:=by
      intro n;induction n with
      |zero=>intro i hi hm;exact⟨i,hm,λj hj=>by omega⟩
      |succ n ih =>
       intro i hi hm;by_cases h:∃j,j<i/\j∈nB os.size listed
       .obtain⟨j,h1,h2⟩:=h
        exact ih j (by omega) h2
       .exact⟨i,hm,λj hj hjm=>h ⟨j,hj,hjm⟩⟩
     exact this i i (b8 _) (by rw[hu];exact z7)
    obtain⟨i,hi,an3⟩:=least;obtain⟨bJ,y8⟩:=(NP i).1 hi;have ny:i∈Region.ready .any os listed:=by
     rw[mem_ready];refine⟨y8,os[i],I8 bJ,λe he hb=>?_⟩;have h1:=(Ts i bJ).1;rw[I8 bJ]at h1;simp only[iW,Array.mem_toList_iff]at h1;have h0:=h1 e he;rw[hb]at h0;have h2:e.on<i:=by simpa using h0
     have h3:=an3 e.on h2;rw[NP]at h3;have h4:e.on<listed.size:=by omega
     cases hl:listed.getD e.on false with
     |true=>rfl
     |false =>
      exfalso;refine h3 ⟨by omega,?_⟩
      simp[h4]at hl ⊢;exact hl
    rw[Ho]at ny;cases ny
  rw[an1]at hrun;simp only[xP,List.filterMap_nil,iZ,Option.some.injEq]at hrun;subst hrun;obtain⟨⟨g,hR⟩,_⟩:=hinv;exact hQ g a w (hR.alike uG)
 intro fuel;induction fuel with
 |zero =>
  intro listed l S T a w eF hf Hn hl hinv hrun uG;have Ho:Region.ready .any os listed=[]:=by
   have y8:nB os.size listed=[]:=pz.1 hf;cases hr:Region.ready .any os listed with
   |nil=>rfl
   |cons i r =>
    exfalso;have:i∈Region.ready .any os listed:=by rw[hr];exact z7
    rw[mem_ready]at this;obtain⟨h1,o,ho,_⟩:=this;have bJ:i<os.size:=(xn.1 ho).1;have:i∈nB os.size listed:=by simp[nB,bJ];simpa using h1
    rw[y8]at this;cases this
  exact⟨Ho,done listed l S T a w eF Ho hinv hrun uG⟩
 |succ fuel ih =>
  intro listed l S T a w eF hf Hn hl hinv hrun uG;refine⟨λHo=>done listed l S T a w eF Ho hinv hrun uG,λi hi=>?_⟩;rw[mem_ready]at hi;obtain⟨y8,o,ho,sk⟩:=hi;have bJ:i<os.size:=(xn.1 ho).1;have Tt:i<vs.length:=by omega
  have Te:i∉l:=λh=>by rw[hl i h]at y8;cases y8
  have Tu:=anZ (p:=λj => !listed.getD j true) bJ (by rw[y8];rfl)
  have Tv:xP vs (nB os.size listed)=xP vs ((List.range i).filter λj => !listed.getD j true)++vs[i]::xP vs ((List.range' (i+1) (os.size-(i+1))).filter λj => !listed.getD j true):=by
   unfold nB;rw[Tu];simp only[xP,Zl,Zm,eV Tt]
  have an4:∀y∈xP vs ((List.range i).filter λj => !listed.getD j true),indep y vs[i]=true:=by
   intro y hy;obtain⟨j,hj,uz⟩:=List.mem_filterMap.1 hy;simp only[vq,Gr,xo]at hj;have h1:=(Ts i bJ).2 j hj.1;rw[uz,eV Tt]at h1;simp only[Ef]at h1;rcases h1 with h1|h1
   .exact h1
   .exfalso
    have:=aaW Hn os.size i j o ho sk h1;have NF:j<listed.size:=by omega
    simp[NF]at this hj;rw[this]at hj;exact absurd hj.2 (by simp)
  rw[Tv]at hrun;obtain⟨S1,T',h1,h2,h3⟩:=pull an4 hrun;refine NV jH bE mT ho (eV Tt) Te hC hinv h1 λa' w' NX=>?_;have Aw:∀j,(listed.setIfInBounds i true).getD j true=if j=i then true else listed.getD j true:=λj=>by
   by_cases Dl:j=i
   .subst Dl;simp[eF,bJ]
   .rw[ax Dl,getD_set_ne true (λe=>Dl e.symm)]
  have aaX:∀j,listed.getD j false=true->(listed.setIfInBounds i true).getD j false=true:=λj h=>getD_set_true h;have xQ:nB os.size (listed.setIfInBounds i true)=((List.range i).filter λj => !listed.getD j true)++((List.range' (i+1) (os.size-(i+1))).filter λj => !listed.getD j true):=by
   have h4:nB os.size (listed.setIfInBounds i true)=((List.range os.size).filter λj => !listed.getD j true).filter λj=>decide (j≠i):=by
    unfold nB;rw[List.filter_filter];apply Jk;intro j _;rw[Aw];by_cases Dl:j=i<;>simp[Dl]
   rw[h4,Tu,xp,M5,ax (by simp)]
   congr 1
   .apply Gm.2
    intro j hj;simp only[vq,Gr]at hj;simp;omega
   .apply Gm.2
    intro j hj;simp only[vq,List.mem_range'_1]at hj;simp;omega
  refine ih (listed.setIfInBounds i true) (i::l) S1 T' a' w' (by simp[eF]) ?_ ?_ ?_ NX ?_ (λk=>NY (Tg (h3 k)) (uG k))
  .have:(nB os.size listed).length=fuel+1:=hf
   unfold nB at this;rw[Tu]at this;rw[xQ];simp at this ⊢;omega
  .intro j o' Dj hj e he hb
   rw[Aw]at hj;by_cases Dl:j=i
   .subst Dl
    rw[ho]at Dj;cases Dj;exact aaX _ (sk e he hb)
   .rw[ax Dl]at hj
    exact aaX _ (Hn j o' Dj hj e he hb)
  .intro j hj
   rw[Aw];rcases iA.1 hj with h|h
   .rw[aJ h]
   .split
    .rfl
    .exact hl j h
  .rw[xQ]
   simp only[xP,Zl];exact h2
end

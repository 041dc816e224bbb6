/- - -/
import Derived.Great.BuildSlice
import Derived.IntWalk
import Derived.Laws.Slices
import Derived.Test.YtabckmbjnjnegaaGreatDoorVm7
import Derived.WalkSpells
import Derived.Lib.SliceRun
namespace Go.Vm
set_option linter.all false
section
variable {P:Program} {E:Entry} {g g':Gh} {S S':St} {a:Act} {w w':World} {T':List (Nat×Nat)} {N' B:Nat}
def Su(off k:Nat):∀(vs:List Value) (i:Nat) (cs:Array Value),((vs.zipIdx i).foldl (λcs (p:Value×Nat)=>cs.setIfInBounds (off+p.2) p.1) cs)[k]? =
  if off+i<=k/\k<off+i+vs.length/\k<cs.size then vs[k-(off+i)]? else cs[k]?
 |[],i,cs=>by simp;omega
 |v::vs,i,cs=>by
  rw[List.zipIdx_cons,M6,Su off k vs (i+1)];simp only[Array.size_setIfInBounds,vp,RB];by_cases h:off+(i+1)<=k/\k<off+(i+1)+vs.length/\k<cs.size
  .rw[aJ h,aJ',show k-(off+i)=(k-(off+(i+1)))+1 from by omega,CI]
  .rw[ax h]
   by_cases he:off+i=k
   .subst he
    by_cases bJ:off+i<cs.size
    .simp[bJ]
    .simp[bJ]
   .rw[ax he,ax']
def C3(k:Nat):∀(vs:List V) (off:Nat) (cs:List V),(jE cs off vs)[k]?=if off<=k/\k<off+vs.length/\k<cs.length then vs[k-off]? else cs[k]?
 |[],off,cs=>by simp[jE];omega
 |v::vs,off,cs=>by
  rw[jE,C3 k vs (off+1)];simp only[qI,vp,lM];by_cases h:off+1<=k/\k<off+1+vs.length/\k<cs.length
  .rw[aJ h,aJ',show k-off=(k-(off+1))+1 from by omega,CI]
  .rw[ax h]
   by_cases he:off=k
   .subst he
    by_cases bJ:off<cs.length
    .simp[bJ]
    .simp[bJ]
   .rw[ax he,ax']
def ND:∀(vs:List V) (off:Nat) (cs:List V),(jE cs off vs).length=cs.length
 |[],off,cs=>rfl
 |v::vs,off,cs=>by rw[jE,ND vs];simp
def Sx(off:Nat):∀(vs:List Value) (i:Nat) (cs:Array Value),((vs.zipIdx i).foldl (λcs (p:Value×Nat)=>cs.setIfInBounds (off+p.2) p.1) cs).size=cs.size
 |[],i,cs=>rfl
 |v::vs,i,cs=>by rw[List.zipIdx_cons,M6,Sx off vs];simp
def Z3(off:Nat)(vs cs:Array Value):vs.zipIdx.foldl (fun(cs:Array Value) (x:Value×Nat)=>match x with|(c,j)=>cs.setIfInBounds (off+j) c) cs =
  (vs.toList.zipIdx 0).foldl (λcs (p:Value×Nat)=>cs.setIfInBounds (off+p.2) p.1) cs:=by
 rw[<-Array.foldl_toList,Array.toList_zipIdx]
def EF(place:Nat->Option (Nat×Nat)):List (Nat×Operand)->List (Nat×Nat×bG)->Bool
 |[],[]=>true
 |(i,y)::ps,(off,n,x)::qs=>place i==some (off,n)&&cc y x&&EF place ps qs
 |_,_=>false
def Z4(hR:R E g S a w){place:Nat->Option (Nat×Nat)}:∀{ps:List (Nat×Operand)} {qs:List (Nat×Nat×bG)},EF place ps qs=true->∀{cs ei:List V} {xs:Array Value},uq S qs cs=some ei ->
  PW (S.cx g w) cs xs.toList->∃sU,Instr.fill place xs (ps.map fun(i,x)=>(i,a.eval x))=some sU/\PW (S.cx g w) ei sU.toList
 |[],[],_,cs,ei,xs,h,hp=>by simp only[uq,Option.some.injEq]at h;subst h;exact⟨xs,rfl,hp⟩
 |[],_::_,h,_,_,_,_,_=>by simp[EF]at h
 |_::_,[],h,_,_,_,_,_=>by simp[EF]at h
 |(i,y)::ps,(off,n,x)::qs,h,cs,ei,xs,hf,hp=>by
  simp only[EF,bZ,ec]at h;obtain⟨⟨nZ,ho⟩,bE⟩:=h;simp only[uq]at hf;split at hf
  next v hv=>
   cases hc:(v.cells.length==n&&Nat.ble (off+n) cs.length&&v.cells.all V.c5) with
   |false=>simp[hc]at hf
   |true =>
    simp only[hc,bW]at hf;simp only[bZ,ec,iW]at hc;obtain⟨⟨hlen,hle⟩,ky⟩:=hc;have hle:=js hle;obtain⟨hl,hx⟩:=GN (di hR ho hv) ky;have eF:(a.eval y).cells.size=n:=by simpa [hlen] using hl.symm
    have EG:=hp.len;simp only[zZ]at EG;obtain⟨sU,h1,h2⟩:=Z4 hR (ps:=ps) (xs:=((a.eval y).cells.toList.zipIdx 0).foldl (λcs (p:Value×Nat)=>cs.setIfInBounds (off+p.2) p.1) xs) bE hf (by
     refine⟨by rw[ND,EG];exact(Sx off _ _ _).symm,λj u z hu hz=>?_⟩
     rw[C3]at hu;rw[Zd,Su]at hz;simp only[yA,zZ,eF,hlen,EG]at hu hz;split at hu
     next ny=>
      rw[aJ ny]at hz;exact hx _ u z hu hz
     next ny=>
      rw[ax ny]at hz;exact hp.at_ j u z hu (by simpa using hz))
    refine⟨sU,?_,h2⟩;simp only[nT,Instr.fill,nZ,eF,RE,ne_eq,not_true_eq_false,decide_false];rw[Z3];rw[ax (by simp;omega)]
    exact h1
  .cases hf
def placeOf(P:Program)(t:TypeId):Option (Nat->Option (Nat×Nat)) :=
 match P.underlying t with
 |some (.array _ e)=>(P.info? e).map λie i=>some (i*ie.size,ie.size)
 |some (.struct fields)=>(fields.toList.mapM (λf=>(P.info? f.type).map λi=>(f.offset,i.size))).map λplaces i=>places.toArray[i]?
 |_=>none
variable{t:TypeId}{it:TypeInfo}{z:Value}{place:Nat->Option (Nat×Nat)}
def amM(hi:P.info? t=some it)(hz:it.zero=some z)(hp:placeOf P t=some place)(parts:List (Nat×Value)) :
  P.built t parts=Instr.fill place z.cells parts:=by
 unfold placeOf at hp;unfold Program.built;split at hp
 next n e hu=>
  cases EH:P.info? e with
  |none=>simp[EH]at hp
  |some ie=>simp[EH]at hp;subst hp;simp[hi,hu,hz,EH]
 next fields hu=>
  cases hm:fields.toList.mapM (λf=>(P.info? f.type).map λi=>(f.offset,i.size)) with
  |none=>simp[hm]at hp
  |some places=>simp[hm]at hp;subst hp;simp[hi,hu,hz,hm]
 .cases hp
variable{o:Oper}{zero:List V}{C:bI}
def amN{ps:Array (Nat×Operand)}{qs:List (Nat×Nat×bG)}(ho:o.op=.build t ps)
  (hi:P.info? t=some it) (hz:it.zero=some z) (nZ:placeOf P t=some place) (hzero:xE z.cells.toList zero=true) (wI:EF place ps.toList qs=true)
  (hR:R E g S a w) (hd:∀d,o.dst=some d->d<E.nt) (hrun:VO.run C o.dst S (.build zero qs)=some S'):cC P E o S S' a w:=by
 simp only[VO.run]at hrun;split at hrun
 next cs hf=>
  cases hrun;obtain⟨hl,hx⟩:=GL (X:=S.cx g w) hzero;obtain⟨xs,h1,h2⟩:=Z4 hR wI (xs:=z.cells) hf ⟨hl,λi v y hv hy=>(hx i v y hv hy).2.2⟩;refine cC.put hR hd (x:=.agg xs) ?_ (.agg cs xs (by simpa using h2.len) (λi v y hv hy=>h2.at_ i v y hv (by simpa using hy)))
  have hb:=amM hi hz nZ ((ps.map fun(i,x)=>(i,a.eval x)).toList);rw[RC,h1]at hb;have:=run_build (P:=P) w t (ps.map fun(i,x)=>(i,a.eval x)) xs (by rw[RC];exact hb)
  simp only[execOp,ho];simp only[Sem.run_bind,this,Result.andThen_ok,Sem.run_pure]
 .cases hrun
variable{c:Array Value}{e:TypeId}{n cap:Nat}{l:List Value}
def R.Sy(hR:R E g S a w)(hw:w'.heap=w.heap.push (.cells c e (0,0)))(h1:w'.os=w.os)(h2:w'.tape=w.tape)(h3:w'.output=w.output) {ys:List (List V)} (hl:kY w.heap g.m n ys l) (hc:∀(j:Nat) (y:Value),l[j]?=some y->c[j]?=some y) (eM:ys.length<=cap) :
  ∃g',R E g' S a w'/\bh (S.cx g' w') (.slice none n ys) (.slice (some ⟨w.heap.size,0,none⟩) ys.length cap):=by
 let g':Gh:={ g with m:=du g.m w.heap.size (ys.length*n),ow:=du g.ow w.heap.size .none }
 have t:Touch E g S w g' S.bo S.aC.length w' w.heap.size none none:=JE hR hw h1 h2 h3 (λb hb=>g9 _ _ hb) (λb hb=>g9 _ _ hb)
  (λi _=>rfl) (λi _=>rfl) (λi _=>rfl) (λi _=>rfl) (λi _=>rfl) (b8 _) (λi a b=>absurd a (by omega)) (λi e=>by(have e:du g.ow w.heap.size .none w.heap.size=.aC i:=e);rw[ea]at e;cases e)
 have mq:=JG hw;refine⟨g',R.qk t hR rfl rfl (λi=>.inl (t.keeps hR (λe=>by cases e) (λe=>by cases e) (λh=>absurd h (iX _)))) (λs v hs=>.inl hs)
  (λi cs ho=>.inl ⟨ho,(λe=>by cases e),λh=>absurd h (iX _)⟩) (λi k b hi hb=>.inl ⟨(λe=>by cases e),λh=>absurd h (iX _)⟩)
  (λi o ho=>.inl ⟨ho,λh=>absurd h (iX _)⟩),?_⟩
 have hm:g'.m w.heap.size=ys.length*n:=ea _ _ _;refine .plain (EE (m:=g'.m) (l:=l) (hl.mono t.le) (by show _<w'.heap.size;rw[hw];simp) eM (λj y hj=>?_) (by omega) _) (λi n' sf he k hk=>by cases he)
 show cellAt w'.heap _ _=_;rw[mn mq,kX];exact hc j y hj
def Sz:Value->Option Nat->V->Bool
 |.int k n,none,.int k' n'=>decide (k=k')&&n==n'
 |.bool b,none,.bool c=>b==c
 |.string s,none,.str l=>s.data.toList==l
 |.slice none 0 0,some n,.slice none m []=>n==m
 |_,_,_=>false
def xI:List Value->Sh->List V->Bool
 |[],[],[]=>true
 |x::xs,h::sh,v::vs=>Sz x h v&&xI xs sh vs
 |_,_,_=>false
variable{h:Array Obj}{m:Nat->Nat}{s:Option Nat}{v:V}
def amO{x:Value}(he:Sz x s v=true):v.plain=true/\fK h m v x:=by
 unfold Sz at he;split at he
 .simp at he;obtain⟨rfl,rfl⟩:=he;exact⟨rfl,.int _ _⟩
 .simp at he;subst he;exact⟨rfl,.bool _⟩
 .simp at he;subst he;exact⟨rfl,.str _⟩
 .exact⟨rfl,.nil _ _⟩
 .cases he
def Z5{h:Array Obj}{m:Nat->Nat}:∀{xs:List Value} {sh:Sh} {vs:List V},xI xs sh vs=true->vs.length=sh.length/\xs.length=sh.length /\
  ∀(i:Nat) (v:V),vs[i]?=some v->∃x,xs[i]?=some x/\v.plain=true/\fK h m v x
 |[],[],[],_=>by simp
 |x::xs,s::sh,v::vs,he=>by
  simp only[xI,bZ]at he;obtain⟨p,q,r⟩:=Z5 (h:=h) (m:=m) he.2;refine⟨by simp[p],by simp[q],λi u hu=>?_⟩
  cases i with
  |zero=>simp at hu;subst hu;exact⟨x,by simp,amO he.1⟩
  |succ i=>obtain⟨y,hy,z⟩:=r i u (by simpa using hu);exact⟨y,by simpa using hy,z⟩
 |[],[],_::_,he=>by simp[xI]at he
 |[],_::_,_,he=>by simp[xI]at he
 |_::_,[],_,he=>by simp[xI]at he
 |_::_,_::_,[],he=>by simp[xI]at he
variable{sh:Sh}
def Z6{zs:List Value}(hz:xI zs sh zero=true)(n:Nat) :
  kY h m sh.length (List.replicate n zero) ((List.range (n*sh.length)).map λk=>zs.getD (k % sh.length) default):=by
 obtain⟨hl,sV,hx⟩:=Z5 (h:=h) (m:=m) hz;refine⟨by simp,λi row hr=>?_,λi row j v hr hj=>?_⟩
 .rw[RU]at hr
  split at hr<;>cases hr;exact hl
 .rw[RU]at hr
  split at hr
  next hi=>
   cases hr;obtain⟨u,hu,p,q⟩:=hx j v hj;have tL:j<zs.length:=fg hu;have NF:j<sh.length:=by omega
   refine⟨p,u,?_,q⟩;have:=Se hi NF;simp only[xq,List.getElem?_range this,ox,Option.some.injEq];rw[Nf,Nat.add_mul_mod_self_right,Nat.mod_eq_of_lt NF];simp[List.getD,hu]
  .cases hr
def EI(len:Nat):List (Nat×Operand)->List (Nat×bG)->Bool
 |[],[]=>true
 |(i,y)::ps,(k,x)::qs=>i==k&&cc y x&&EI len ps qs
 |_,_=>false
def amP{r:List V}(h:oV sh v.cells=some r):∀u∈v.cells,u.c5=true:=λu hu=>by
 have:∀{sh:Sh} {vs us:List V},oV sh vs=some us->∀u∈vs,u.c5=true:=by
  intro sh;induction sh with
  |nil=>intro vs us h u hu;cases vs<;>simp_all[oV]
  |cons s sh ih =>
   intro vs us h u hu;cases vs with
   |nil=>simp at hu
   |cons z zs =>
    simp only[oV]at h;split at h
    next p q h1 h2=>
     rcases iA.1 hu with e|e
     .subst e
      unfold el at h1;split at h1<;>first|rfl|cases h1
     .exact ih h2 u e
    .cases h
 exact this h u hu
def Z7(hR:R E g S a w){sh:Sh}:∀{ps:List (Nat×Operand)} {qs:List (Nat×bG)} {len:Nat},EI len ps qs=true->∀{rs Bi:List (List V)} {xs:Array Value},xB S sh qs rs=some Bi ->
  kY w.heap g.m sh.length rs xs.toList->∃sU,Instr.fill (λi=>some (i*sh.length,sh.length)) xs (ps.map fun(i,x)=>(i,a.eval x))=some sU/\kY w.heap g.m sh.length Bi sU.toList/\Bi.length=rs.length
 |[],[],_,_,rs,Bi,xs,h,hp=>by simp only[xB,Option.some.injEq]at h;subst h;exact⟨xs,rfl,hp,rfl⟩
 |[],_::_,_,h,_,_,_,_,_=>by simp[EI]at h
 |_::_,[],_,h,_,_,_,_,_=>by simp[EI]at h
 |(i,y)::ps,(k,x)::qs,len,h,rs,Bi,xs,hf,hp=>by
  simp only[EI,bZ,ec]at h;obtain⟨⟨rfl,ho⟩,bE⟩:=h;simp only[xB]at hf;split at hf
  next v hv=>
   split at hf
   next r hr=>
    cases bJ:Nat.blt i rs.length with
    |false=>simp[bJ]at hf
    |true =>
     simp only[bJ,bW]at hf;have bJ:i<rs.length:=js bJ;obtain⟨hl,hx⟩:=GN (di hR ho hv) (amP hr);obtain⟨e1,e2⟩:=JJ hr;have eF:(a.eval y).cells.size=sh.length:=by simp at hl;omega
     have EG:=hp.len;simp only[zZ]at EG;have gy:i*sh.length+sh.length<=rs.length*sh.length:=by
      have:=uk sh.length bJ;rw[rY]at this;exact this
     obtain⟨sU,h1,h2,h3⟩:=Z7 hR (ps:=ps) (xs:=((a.eval y).cells.toList.zipIdx 0).foldl (λcs (p:Value×Nat)=>cs.setIfInBounds (i*sh.length+p.2) p.1) xs) bE hf (by
      refine⟨?_,λk row hk=>?_,λk row j u hk hj=>?_⟩
      .rw[qI,<- EG];exact Sx _ _ _ _
      .rw[lM]at hk
       split at hk
       .first
        |(cases hk;exact e1)
        |(split at hk
          .cases hk;exact e1
          .cases hk)
       .exact hp.row k row hk
      .have NG:k<rs.length:=by have:=fg hk;simpa using this
       rw[lM]at hk;simp only[Zd,Su,yA,zZ,eF,EG];split at hk
       next lz=>
        subst lz;have hk:r=row:=by simpa [bJ] using hk
        subst hk;have tL:=fg hj;rw[e1]at tL;obtain⟨z,s,hz,nY⟩:=Ny hr j u hj;have uz:j<(a.eval y).cells.size:=by omega
        obtain⟨p,q⟩:=JI nY (hx j z (a.eval y).cells[j] hz (by simp[uz]))
        refine⟨p,_,?_,q⟩;rw[aJ',Eo]
        simp[uz]
       next lz=>
        obtain⟨p,z,hz,q⟩:=hp.cell k row j u hk hj;have tL:=fg hj;rw[hp.row k row hk]at tL;refine⟨p,z,?_,q⟩;rw[ax]
        .simpa using hz
        .rintro⟨p1,p2,_⟩
         rcases cS i k with h|h
         .have:=uk sh.length h
          rw[rY]at this;omega
         .have h:k<i:=by omega
          have:=uk sh.length h;rw[rY]at this;omega)
     refine⟨sU,?_,h2,by rw[h3];simp⟩
     simp only[nT,Instr.fill,eF,RE,ne_eq,not_true_eq_false,decide_false];rw[Z3];rw[ax (by simp;omega)]
     exact h1
   .cases hf
  .cases hf
def Z8(n m:Nat)(zs:Array Value)(hz:zs.size=m)(hm:0<m):((Array.range (n*m)).map λi=>zs[i % zs.size]!).toList=(List.range (n*m)).map λk=>zs.toList.getD (k % m) default:=by
 apply A4;intro j;by_cases hj:j<n*m
 .have:=Nh j hm
  have h2:j % m<zs.size:=by omega
  simp[hj,hz,List.getD];rw[getElem!_pos zs (j % m) h2];simp[h2]
 .simp[hj]
variable{ie:TypeInfo}{len:Nat}
def amQ{tok:Option Nat}{ps:Array (Nat×Operand)}{qs:List (Nat×bG)}(ho:o.op=.buildSlice t len ps)
  (ht:P.underlying t=some (.slice e)) (hi:P.info? e=some ie) (hz:ie.zero=some z) (eF:ie.size=sh.length) (qO:z.cells.size=sh.length) (gR:0<sh.length) (hlen:0<len) (amR:len*sh.length<=16777216)
  (yR:xI z.cells.toList sh zero=true) (wI:EI len ps.toList qs=true) (hn:∀f,tok=some f->S.fa f)
  (hR:R E g S a w) (hd:∀d,o.dst=some d->d<E.nt) (hrun:VO.run C o.dst S (.lit tok sh zero len qs)=some S'):cC P E o S S' a w:=by
 simp only[VO.run]at hrun;split at hrun
 next rs hf=>
  have hzero:kY w.heap g.m sh.length (List.replicate len zero) ((Array.range (len*ie.size)).map λi=>z.cells[i % z.cells.size]!).toList:=by
   rw[eF,Z8 len sh.length z.cells qO gR];exact Z6 yR len
  obtain⟨xs,h1,h2,h3⟩:=Z7 hR wI (xs:=(Array.range (len*ie.size)).map λi=>z.cells[i % z.cells.size]!) hf hzero;have h3:rs.length=len:=by simpa using h3
  have hbs:=run_buildSlice (P:=P) w t e len (ps.map fun(i,x)=>(i,a.eval x)) xs ie z ht hi hz (by rw[eF];omega) (by rw[eF];have:=Nk hlen gR;omega) (by rw[RC,eF];rw[eF]at h1;exact h1)
  have fR:(execOp a.eval o).run P w=.ok (.value (.slice (some ⟨w.heap.size,0,none⟩) len len)) (w.alloc (.cells xs e)):=by
   simp only[execOp,ho];simp only[Sem.run_bind,hbs,Result.andThen_ok,Sem.run_pure]
  have tN:=h2.len;simp only[zZ,h3]at tN;split at hrun
  next f=>
   cases hrun;obtain⟨g',r1,r2⟩:=hR.Sj (w':=w.alloc (.cells xs e)) (f:=f) rfl rfl rfl rfl (n:=sh.length) (ys:=rs) (l:=xs.toList) (by omega) (.inl (hn f rfl)) h2 (λj y hj=>by simpa using hj) (cap:=len) (by omega) (by omega)
   rw[h3]at r1 r2;exact .value fR (r1.put hd r2)
  .cases hrun
   obtain⟨g',r1,r2⟩:=hR.Sy (w':=w.alloc (.cells xs e)) rfl rfl rfl rfl (n:=sh.length) (ys:=rs) (l:=xs.toList) h2 (λj y hj=>by simpa using hj) (cap:=len) (by omega)
   rw[h3]at r2;exact .value fR (r1.put hd r2)
 .cases hrun
def wrap_small{n:Int}(h0:0<=n)(h1:n<=lim):IntKind.i64.wrap n=n:=by
 unfold lim at h1;exact IntWalk.i64_in _ (by omega)
def Z9{k:IntKind}{n:Int}(ht:P.underlying t=some (.slice e))(hi:P.info? e=some ie)(hz:ie.zero=some z)(gR:0<ie.size)(vC:ie.bytes<=32768)(h0:0<=n)(h1:n<=lim) :
  (Instr.makeSlice t (.int k n) (.int k n)).run P w=.ok (.slice (some ⟨w.heap.size,0,none⟩) n.toNat n.toNat) (w.alloc (.cells ((Array.range (n.toNat*ie.size)).map λi=>z.cells[i % z.cells.size]!) e)):=by
 have hb:(ie.bytes:Int)*n<=281474976710656:=by
  unfold lim at h1;have a1:(ie.bytes:Int)<=32768:=by omega
  have:=Je a1 h1 h0 (by decide)
  simp at this;omega
 have hw:=wrap_small h0 h1;by_cases hn:n.toNat*ie.size=0
 .have Aj:n.toNat=0:=by
   rcases Nj.1 hn with h|h
   .exact h
   .omega
  have:n=0:=by omega
  subst this;simp[Instr.makeSlice,kg ht,asInt,asIntOf,typeInfo,hi,hw,sizeOf,newRow,show Array.range 0 = #[] from rfl]
 .have h3:¬ (n<0):=by omega
  have h4:¬ (281474976710656<(ie.bytes:Int)*n):=by omega
  simp[Instr.makeSlice,kg ht,asInt,asIntOf,typeInfo,hi,hw,sizeOf,newRow,h3,h4,hn,zeroValue,hz]
def aaa(zero:List V):∀(n k:Nat),(List.replicate n zero).flatten[k]?=if k<n*zero.length then zero[k % zero.length]? else none
 |0,k=>by simp
 |n+1,k=>by
  have e:(n+1)*zero.length=n*zero.length+zero.length:=rY _ _;rw[CM,vn,rP,aaa zero n,e];generalize n*zero.length=q;by_cases h:k<zero.length
  .rw[aJ h,aJ',Nat.mod_eq_of_lt h]
  .rw[ax h]
   by_cases h2:k<q+zero.length
   .rw[aJ h2,aJ',Nat.mod_eq_sub_mod (a:=k) (by omega)]
   .rw[ax h2,ax']
variable{id:Nat}{p p':Operand}{x:bG}
def amT(ho:o.op=.makeSlice t p p')
  (ht:P.underlying t=some (.slice e)) (hi:P.info? e=some ie) (hz:ie.zero=some z) (eF:ie.size=zero.length) (gR:0<ie.size) (vC:ie.bytes<=32768)
  (C4:xE z.cells.toList zero=true) (hp:cc p x=true) (Bj:cc p' x=true) (hn:S.fa id)
  (hR:R E g S a w) (hd:∀d,o.dst=some d->d<E.nt) (hrun:VO.run C o.dst S (.xy id zero x)=some S'):cC P E o S S' a w:=by
 simp only[VO.run]at hrun;split at hrun
 next k n hx=>
  cases hc:(decide (0<=n)&&decide (n<=(lim:Int))) with
  |false=>simp[hc]at hrun
  |true =>
   simp only[hc,bW]at hrun;simp only[bZ,jD]at hc;cases hrun;have e1:=oA (di hR hp hx);have GR:=oA (di hR Bj hx);obtain⟨hl,hv⟩:=GL (X:=S.cx g w) C4;have qO:z.cells.size=ie.size:=by rw[eF];simpa using hl.symm
   have hm:=Z9 (P:=P) (w:=w) (k:=k) ht hi hz gR vC hc.1 hc.2;obtain⟨g',r1,r2,r3⟩:=hR.newObj (cpn:=n.toNat*zero.length) (hcpn:=by simp[eF]) (w':=w.alloc (.cells ((Array.range (n.toNat*ie.size)).map λi=>z.cells[i % z.cells.size]!) e)) hn rfl rfl rfl rfl (cs:=(List.replicate n.toNat zero).flatten) (λj v hj=>by
    rw[aaa]at hj;split at hj
    next bJ=>
     have nz:j % zero.length<z.cells.size:=by rw[qO,eF];exact Nh _ (by omega)
     obtain⟨q1,q2,q3⟩:=hv (j % zero.length) v z.cells[j % zero.length] hj (by simp[nz])
     refine⟨q1,q2 _,z.cells[j % zero.length],?_,q3⟩;simp[qO,eF,bJ];rw[getElem!_pos z.cells (j % zero.length) nz]
    .cases hj)
   refine cC.value (x:=.slice (some ⟨w.heap.size,0,none⟩) n.toNat n.toNat) (g':=g') (w':=w.alloc (.cells ((Array.range (n.toNat*ie.size)).map λi=>z.cells[i % z.cells.size]!) e)) ?_ (r1.put hd ?_)
   .simp only[execOp,ho,e1,GR]
    simp only[Sem.run_bind,hm,Result.andThen_ok,Sem.run_pure]
   .rw[<-r2];exact .bY id _ _ _ (b8 _) r3.symm
 .cases hrun
def amU(ho:o.op=.makeSlice t p p')
  (ht:P.underlying t=some (.slice e)) (hi:P.info? e=some ie) (hz:ie.zero=some z) (eF:ie.size=sh.length) (qO:z.cells.size=sh.length) (vC:ie.bytes<=32768) (gR:0<sh.length) (amR:len<=65536)
  (yR:xI z.cells.toList sh zero=true) (hp:cc p (.c (.int .i64 len))=true) (Bj:cc p' (.c (.int .i64 len))=true)
  (hR:R E g S a w) (hd:∀d,o.dst=some d->d<E.nt) (hrun:VO.run C o.dst S (.lit none sh zero len [])=some S'):cC P E o S S' a w:=by
 simp only[VO.run,xB]at hrun;cases hrun;have hzero:kY w.heap g.m sh.length (List.replicate len zero) ((Array.range (len*ie.size)).map λi=>z.cells[i % z.cells.size]!).toList:=by
  rw[eF,Z8 len sh.length z.cells qO gR];exact Z6 yR len
 have e1:=oA (di hR hp rfl);have GR:=oA (di hR Bj rfl);have hm:=Z9 (P:=P) (w:=w) (k:=.i64) (n:=(len:Int)) ht hi hz (by omega) vC (by omega) (by unfold lim;omega)
 simp only[RP]at hm;obtain⟨g',r1,r2⟩:=hR.Sy (w':=w.alloc (.cells ((Array.range (len*ie.size)).map λi=>z.cells[i % z.cells.size]!) e)) rfl rfl rfl rfl (n:=sh.length) (ys:=List.replicate len zero) (l:=((Array.range (len*ie.size)).map λi=>z.cells[i % z.cells.size]!).toList) hzero (λj y hj=>by rw[<-Array.getElem?_toList];exact hj) (cap:=len) (by simp)
 rw[Jo]at r2;refine cC.value (x:=.slice (some ⟨w.heap.size,0,none⟩) len len) (g':=g') (w':=w.alloc (.cells ((Array.range (len*ie.size)).map λi=>z.cells[i % z.cells.size]!) e)) ?_ (r1.put hd r2);simp only[execOp,ho,e1,GR];simp only[Sem.run_bind,hm,Result.andThen_ok,Sem.run_pure]
variable{b:Nat}
def SA(hs:fD P t=some n){o:Nat}{v:Value}(hv:v.cells.size=n)(hb:w.heap[b]?=some (.cells c e (0,0)))(gy:o+n<=c.size)
  (h1:∀y∈v.cells.toList,y.oneCell'=true):(storeVar t ⟨b,o,none⟩ v).run P w=.ok () (w.setRow b (c.toList.take o++v.cells.toList++c.toList.drop (o+n)).toArray):=by
 have eI:=run_storeCells_at P b o e v.cells.toList 0 c w hb (by simp;omega) h1
 simp only[yA,zZ,hv]at eI;simp[storeVar,qL hs,hv,eI]
def C5{o:Nat}(gy:o+l.length<=c.size)(k:Nat):(c.toList.take o++l++c.toList.drop (o+l.length)).toArray[k]?=if o<=k/\k<o+l.length then l[k-o]? else c[k]?:=by
 simp only[Gn,ov];by_cases h:k<o
 .rw[nR (by simp;omega),ax']
  simp[h]
 .rw[wy (by simp;omega)]
  have e:(c.toList.take o).length=o:=by simp;omega
  rw[e];by_cases h2:k-o<l.length
  .rw[nR h2,aJ']
  .rw[wy (by omega),ax',mJ]
   simp;congr 1;omega
def GS{o:Nat}(gy:o+l.length<=c.size):(c.toList.take o++l++c.toList.drop (o+l.length)).toArray.size=c.size:=by
 simp;omega
def JT(w:World)(b i:Nat)(c:Array Value)(h:i≠b):(w.setRow b c).heap[i]?=w.heap[i]?:=by
 simp only[World.setRow,Gj];rw[ax']
def GU{c':Array Value}(hm:g.m b=0)(Bk:E.w0.heap.size<=b\/∃i,i<E.N0/\E.g0.ow b=.aC i)(JU:∀p q,g.ow b≠.cell p q)(hR:R E g S a w) :
  Touch E g S w g S.bo S.aC.length (w.setRow b c') b none none where
 os:=rfl
 tape:=rfl
 output:=rfl
 size:=by simp
 heap:=λi hi _=>JT w b i c' hi
 m:=λ_ _=>rfl
 ow:=λ_ _=>rfl
 κ:=λ_ _=>rfl
 cp:=λ_ _=>rfl
 τ:=λ_ _=>rfl
 T:=λ_ _=>rfl
 γ:=λ_ _=>rfl
 eZ:=b8 _
 γnew:=λi a b=>absurd a (by omega)
 fresh:=Bk.imp (λz=>z) .inl
 jw:=λp q _ e=>absurd e (JU p q)
 lv:=λi e=>hR.GK e (b8 _)
 mM:=λo y ho _=>absurd ho (by omega)
 sO:=λ_=>b8 _
variable{q:Operand}{y:bG}{off:Nat}
def amV{cs:List V}(ho:o.op=.store t p q)(yV:o.dst=none)(hs:fD P t=some sh.length)(hp:cc p x=true)(hq:cc q y=true)
  (hR:R E g S a w) (hx:S.ev x=some (.bn id off)) (hy:S.ev y=some v) (fb:look id S.aY=some cs) (hl:v.cells.length=sh.length) (hle:off+sh.length<=cs.length) (ky:∀u∈v.cells,u.c5=true) (gR:0<sh.length) :
  cC P E o S { S with aY:=(id,jE cs off v.cells)::S.aY } a w:=by
 rcases hR.aY id cs fb with⟨h0,yS⟩ | ⟨cJ,hH,hm,c,e,hh,gM,hj⟩
 .subst h0;simp only[tB]at hle;omega
 obtain⟨nZ,GV⟩:=GN (di hR hq hy) ky;have eF:(a.eval q).cells.size=sh.length:=by simp at nZ;omega
 have hc:cs.length<=c.size:=by
  rcases cS c.size cs.length with h|h
  .obtain⟨_,y,hy,_⟩:=hj c.size cs[c.size] (eV h)
   simp at hy
  .exact h
 have h1:∀y∈(a.eval q).cells.toList,y.oneCell'=true:=λy hy=>by
  obtain⟨k,hk⟩:=lN.1 hy;have NG:=fg hk;have uA:k<v.cells.length:=by omega
  exact Sc (GV k v.cells[k] y (eV uA) hk) (ky _ (Jm uA))
 have gy:off+(a.eval q).cells.toList.length<=c.size:=by simp;omega
 have hrun:=SA (P:=P) (w:=w) hs (v:=a.eval q) eF hh (o:=off) (by omega) h1
 have hlen:(a.eval q).cells.toList.length=sh.length:=by simpa using eF
 rw[<-hlen]at hrun
 let c':Array Value:=(c.toList.take off++(a.eval q).cells.toList++c.toList.drop (off+(a.eval q).cells.toList.length)).toArray
 have mq:(w.setRow (g.κ id) c').heap[g.κ id]?=some (.cells c' e (0,0)):=setRow_heap w _ c c' e _ hh;have tt:=GU (c':=c') (S:=S) (w:=w) hm (.inl hH) (λ_ _ e=>by rw[cJ]at e;cases e) hR
 have hk:∀i,ke (S.cx g w) ⟨(w.setRow (g.κ id) c').heap,g,S.aC.length,S.bo⟩ i:=λi=>tt.keeps hR (λe=>by cases e) (λe=>by cases e) (λ_ e=>by rw[cJ]at e;cases e)
 refine cC.skip (g':=g) (w':=w.setRow (g.κ id) c') ?_ yV (R.qk tt hR rfl rfl (λi=>.inl (hk i)) (λs v hs=>.inl hs) (λi ei hi=>?_) (λf k b hf hb=>.inl ⟨(λe=>by cases e),λ_ e=>by rw[cJ]at e;cases e⟩)
  (λi o hi=>.inl ⟨hi,λ_=>⟨λe=>(by rw[cJ]at e;cases e),λ_ e=>(by rw[cJ]at e;cases e)⟩⟩))
 .simp only[execOp,ho,CY (di hR hp hx)]
  have EB:(storeVar t ⟨(S.cx g w).g.κ id,off,none⟩ (a.eval q)).run P w=.ok () (w.setRow (g.κ id) c'):=hrun;simp[Instr.storeAt,Instr.sureAddr,EB]
 .rw[dO]at hi
  by_cases kK:id=i
  .subst kK
   rw[aJ rfl]at hi;cases hi;refine .inr ⟨cJ,hH,hm,c',e,mq,(by rw[GS (by omega)];exact gM),λj u hu=>?_⟩
   rw[C3]at hu;show _/\∃y,c'[j]?=some y/\_;rw[show c'[j]?=_ from C5 gy j];split at hu
   next ny=>
    rw[aJ']
    have uB:=fg hu;have tL:j-off<(a.eval q).cells.toList.length:=by omega
    exact⟨ky u (gw hu),_,eV tL,(GV (j-off) u _ hu (eV tL)).mono tt.le (λi=>.inl (hk i))⟩
   next ny=>
    have C6:=fg hu;rw[ax']
    obtain⟨q1,z,q2,q3⟩:=hj j u hu;exact⟨q1,z,q2,q3.mono tt.le (λi=>.inl (hk i))⟩
  .rw[ax kK]at hi
   exact .inl ⟨hi,(λe=>by cases e),λ_ e=>kK (by rw[cJ]at e;cases e;rfl)⟩
variable{u:V}
def GW{X:Cx}{sh:Option Nat}{y:Value}(h:sL sh v=some u)(hr:bh X v y):u.c5=true/\(∀d,u.cI d=false)/\bh ⟨X.h,X.g,X.N,[]⟩ u y/\v.c5=true:=by
 have yR:∀{v u},el sh v=some u->bh X v y->u.c5=true/\(∀d,u.cI d=false)/\bh ⟨X.h,X.g,X.N,[]⟩ u y/\v.c5=true:=λ{v u} h hr=>by
  obtain⟨p,q⟩:=JI h hr;refine⟨by cases u<;>simp_all[V.plain,V.c5],λd=>?_,.plain q (wG p),?_⟩
  .cases u<;>simp_all[V.plain,V.cI,V.dW,V.cQ]
   rename_i tok _ _;cases tok<;>simp_all[V.cQ]
  .unfold el at h
   split at h<;>first|rfl|cases h
 unfold sL at h;split at h
 .cases h;obtain⟨e,hi⟩:=CZ hr;rw[e];exact⟨rfl,λ_=>rfl,.bu _ _ hi,rfl⟩
 .cases h;cases hr with
  |plain h _=>cases h
  |cO _ _ _ _ h hl=>exact⟨rfl,λ_=>rfl,.cO _ _ _ _ h hl,rfl⟩
  |wD _ _ h hz=>exact⟨rfl,λ_=>rfl,.wD _ _ h hz,rfl⟩
 .cases h;cases hr with
  |plain h _=>cases h
  |ig=>exact⟨rfl,λ_=>rfl,.ig,rfl⟩
 .cases h;cases hr with
  |plain h _=>cases h
  |fn _ _ xs hl hx=>exact⟨rfl,λ_=>rfl,.fn _ _ xs hl hx,rfl⟩
 .cases h;cases hr with
  |plain h _=>cases h
  |ij=>exact⟨rfl,λ_=>rfl,.ij,rfl⟩
 .cases h;cases hr with
  |plain h _=>cases h
  |map _ hi=>exact⟨rfl,λ_=>rfl,.map _ hi,rfl⟩
 .cases h;cases hr with
  |plain h _=>cases h
  |ik=>exact⟨rfl,λ_=>rfl,.ik,rfl⟩
 .exact yR h hr
def SB:∀{sh:Sh} {vs us:List V},wC sh vs=some us->us.length=sh.length/\vs.length=sh.length
 |[],[],us,h=>by simp[wC]at h;subst h;simp
 |[],_::_,_,h=>by simp[wC]at h
 |_::_,[],_,h=>by simp[wC]at h
 |s::sh,v::vs,us,h=>by
  simp only[wC]at h;split at h
  next u mN h1 h2=>
   cases h;obtain⟨a,b⟩:=SB h2;simp[a,b]
  .cases h
def SC:∀{sh:Sh} {vs us:List V},wC sh vs=some us->∀(j:Nat) (u:V),us[j]?=some u->∃v s,vs[j]?=some v/\sL s v=some u
 |[],[],us,h,j,u,hu=>by simp[wC]at h;subst h;simp at hu
 |[],_::_,_,h,_,_,_=>by simp[wC]at h
 |_::_,[],_,h,_,_,_=>by simp[wC]at h
 |s::sh,v::vs,us,h,j,u,hu=>by
  simp only[wC]at h;split at h
  next u' mN h1 h2=>
   cases h;cases j with
   |zero=>simp at hu;subst hu;exact⟨v,s,by simp,h1⟩
   |succ j=>obtain⟨z,t,p,q⟩:=SC h2 j u (by simpa using hu);exact⟨z,t,by simpa using p,q⟩
  .cases h
def amW(h:sL s v=some u):v.c5=true:=by
 unfold sL at h;split at h
 all_goals first|rfl|skip
 unfold el at h;split at h<;>first|rfl|cases h
def aab{t t':Option Nat}{es:List (List V)}{x:Value}(hr:fK h m (.slice t n es) x):fK h m (.slice t' n es) x:=by
 cases hr with
 |nil=>exact .nil _ _
 |empty _ _ a cap=>exact .empty _ _ a cap
 |slice _ _ _ b off cap ys hb eM jG hc hv hp hm=>exact .slice t' n es b off cap ys hb eM jG hc hv hp hm
def C7:Value->Option Nat
 |.slice (some a) (_+1) _=>some a.block
 |_=>none
def JV{a:Addr}{c:Nat}(h:0<n):C7 (.slice (some a) n c)=some a.block:=by
 cases n with
 |zero=>omega
 |succ n=>rfl
def SD{x:Value}(h:nn x):C7 x=none:=by
 rcases h with rfl | ⟨a,rfl⟩<;>rfl
def GX{X:Cx}{sh:Option Nat}{y:Value}(h:Et sh v=some u)(hr:bh X v y) :
  u.c5=true/\(∀d,u.cI d=false)/\bh ⟨X.h,X.g,X.N,[]⟩ u y/\v.c5=true/\∀n es,u=.eC n es->es=[]/\nn y:=by
 have hg:∀{v u},sL sh v=some u->bh X v y->u.c5=true/\(∀d,u.cI d=false)/\bh ⟨X.h,X.g,X.N,[]⟩ u y/\v.c5=true/\∀n es,u=.eC n es->es=[]/\nn y:=λ{v u} h hr=>by
  obtain⟨h1,h2,h3,h4⟩:=GW h hr;refine⟨h1,h2,h3,h4,λn es e=>?_⟩;subst e;exfalso;unfold sL at h;split at h
  all_goals first|(cases h;done)|skip
  unfold el at h;split at h
  all_goals first|(cases h;done)|skip
  split at h<;>cases h
 unfold Et at h;split at h
 .split at h
  .cases h
   have e:=qK hr;subst e;exact⟨rfl,λ_=>rfl,.eC (.nil _ _),rfl,λn es e=>by cases e;exact⟨rfl,.inl rfl⟩⟩
  .exact hg h hr
 .cases h
  have hz:=wF hr;exact⟨rfl,λ_=>rfl,.eC (by rcases hz with rfl | ⟨a,rfl⟩<;>first|exact .nil _ _|exact .empty _ _ a 0),rfl,λn es e=>by cases e;exact⟨rfl,hz⟩⟩
 .exact hg h hr
def JW:∀{sh:Sh} {vs us:List V},oz sh vs=some us->us.length=sh.length/\vs.length=sh.length
 |[],[],us,h=>by simp[oz]at h;subst h;simp
 |[],_::_,_,h=>by simp[oz]at h
 |_::_,[],_,h=>by simp[oz]at h
 |s::sh,v::vs,us,h=>by
  simp only[oz]at h;split at h
  next u mN h1 h2=>
   cases h;obtain⟨a,b⟩:=JW h2;simp[a,b]
  .cases h
def C8:∀{sh:Sh} {vs us:List V},oz sh vs=some us->∀(j:Nat) (u:V),us[j]?=some u->∃v s,vs[j]?=some v/\Et s v=some u
 |[],[],us,h,j,u,hu=>by simp[oz]at h;subst h;simp at hu
 |[],_::_,_,h,_,_,_=>by simp[oz]at h
 |_::_,[],_,h,_,_,_=>by simp[oz]at h
 |s::sh,v::vs,us,h,j,u,hu=>by
  simp only[oz]at h;split at h
  next u' mN h1 h2=>
   cases h;cases j with
   |zero=>simp at hu;subst hu;exact⟨v,s,by simp,h1⟩
   |succ j=>obtain⟨z,t,p,q⟩:=C8 h2 j u (by simpa using hu);exact⟨z,t,by simpa using p,q⟩
  .cases h
def amX(h:Et s v=some u):v.c5=true:=by
 unfold Et at h;split at h
 .rfl
 .rfl
 .exact amW h
variable{vs:List V}
def aac{us:List V}(h:oz sh vs=some us):∀v∈vs,v.c5=true:=λv hv=>by
 obtain⟨j,hj⟩:=lN.1 hv;obtain⟨e1,e2⟩:=JW h;have:=fg hj;obtain⟨z,s,hz,hg⟩:=C8 h j us[j] (eV (by omega))
 rw[hj]at hz;cases hz;exact amX hg
def SE{g:Gh}{j:Nat}{x:Value}(hz:nn x):End h g b j n 0 x:=.inl ⟨rfl,hz⟩
variable{i:Nat}
def GY(hR:R E g S a w){o:aM}(ho:S.aC[i]?=some o)(cy:o≠.cells []):g.γ i<w.heap.size:=by
 obtain⟨_,h2⟩:=(hR.aC.obj i o ho).resolve_left cy;have key:∃ob,w.heap[g.γ i]?=some ob:=by
  cases o with
  |cells cs=>obtain⟨_,c,e,h4,_⟩:=h2;exact⟨_,h4⟩
  |map es=>obtain⟨_,c,e,h4,_⟩:=h2;exact⟨_,h4⟩
 obtain⟨ob,h4⟩:=key;rcases cS (g.γ i) w.heap.size with h|h
 .exact h
 .simp[ou h]at h4
def R.JX(hR:R E g S a w)(cJ:g.ow b=.aC i):E.w0.heap.size<=b\/∃k,k<E.N0/\E.g0.ow b=.aC k:=by
 rcases cS b E.w0.heap.size with h|h
 .obtain⟨h1,h2⟩:=hR.same.lv b i cJ h
  exact .inr ⟨i,h2,h1⟩
 .exact .inl h
def aad{cs:List V}{k:Nat}(h:cs[k]?=some u):aM.cells cs≠.cells []:=λe=>by cases e;simp at h
def amY{cs:List V}(ho:o.op=.store t p q)(yV:o.dst=none)(hs:fD P t=some sh.length)(hp:cc p x=true)(hq:cc q y=true)
  (hR:R E g S a w) (hx:S.ev x=some (.bu i off)) (hy:S.ev y=some v) (fb:S.aC[i]?=some (.cells cs)) (hg:oz sh v.cells=some vs) (hle:off+vs.length<=cs.length) (cy:cs≠[]) :
  cC P E o S { S with aC:=S.aC.set i (.cells (jE cs off vs)) } a w:=by
 obtain⟨cJ,hm,c,e,hh,dS,hj⟩:=(hR.aC.obj i _ fb).resolve_left (λe=>cy (by cases e;rfl))
 have hi:=fg fb;obtain⟨e1,e2⟩:=JW hg;have ky:=aac hg;obtain⟨nZ,GV⟩:=GN (di hR hq hy) ky;have eF:(a.eval q).cells.size=sh.length:=by simp at nZ;omega
 have h1:∀y∈(a.eval q).cells.toList,y.oneCell'=true:=λy hy=>by
  obtain⟨k,hk⟩:=lN.1 hy;have NG:=fg hk;have uA:k<v.cells.length:=by omega
  exact Sc (GV k v.cells[k] y (eV uA) hk) (ky _ (Jm uA))
 have hlen:(a.eval q).cells.toList.length=sh.length:=by simpa using eF
 have gy:off+(a.eval q).cells.toList.length<=c.size:=by omega
 have hrun:=SA (P:=P) (w:=w) hs (v:=a.eval q) eF hh (o:=off) (by omega) h1
 rw[<-hlen]at hrun
 let c':Array Value:=(c.toList.take off++(a.eval q).cells.toList++c.toList.drop (off+(a.eval q).cells.toList.length)).toArray
 have mq:(w.setRow (g.γ i) c').heap[g.γ i]?=some (.cells c' e (0,0)):=setRow_heap w _ c c' e _ hh;have tt:=GU (c':=c') (S:=S) (w:=w) hm (hR.JX cJ) (λ_ _ e=>by rw[cJ]at e;cases e) hR
 have hk:∀k,ke (S.cx g w) ⟨(w.setRow (g.γ i) c').heap,g,S.aC.length,S.bo⟩ k:=λk=>tt.keeps hR (λe=>by cases e) (λe=>by cases e) (λ_ e=>by rw[cJ]at e;cases e)
 have pG:Le ⟨w.heap,g,S.aC.length,[]⟩ ⟨(w.setRow (g.γ i) c').heap,g,S.aC.length,[]⟩:=⟨tt.le.size,tt.le.cells,tt.le.m,tt.le.eZ,tt.le.γ⟩;refine cC.skip (g':=g) (w':=w.setRow (g.γ i) c') ?_ yV (R.qk tt hR rfl (by simp) (λi=>.inl (hk i)) (λs v hs=>.inl hs) (λid ei hi=>.inl ⟨hi,(λe=>by cases e),λ_ e=>by rw[cJ]at e;cases e⟩)
  (λf k b hf hb=>.inl ⟨(λe=>by cases e),λ_ e=>by rw[cJ]at e;cases e⟩) (λk o gi=>?_))
 .obtain⟨ep,_⟩:=CZ (di hR hp hx)
  have EB:(storeVar t ⟨(S.cx g w).g.γ i,off,none⟩ (a.eval q)).run P w=.ok () (w.setRow (g.γ i) c'):=hrun;simp only[execOp,ho,ep];simp[Instr.storeAt,Instr.sureAddr,EB]
 .simp only[lM]at gi
  by_cases lz:i=k
  .subst lz
   simp[hi]at gi;subst gi;refine .inr ⟨cJ,⟨hm,c',e,mq,by rw[ND];exact iO dS (xr (GS gy).symm),λj u z hu hz=>?_⟩,λj n es z hu hz=>?_⟩
   .rw[C3]at hu
    rw[show c'[j]?=_ from C5 gy j]at hz;split at hu
    next ny=>
     rw[aJ']at hz
     obtain⟨u0,s,uC,sW⟩:=C8 hg _ u hu;obtain⟨q1,q2,q3,_⟩:=GX sW (GV (j-off) u0 z uC hz);exact⟨q1,q2,q3.mono pG (λd=>.inr (q2 d))⟩
    next ny=>
     have C6:=fg hu;rw[ax']at hz
     obtain⟨q1,q2,q3⟩:=hj j u z hu hz;exact⟨q1,q2,q3.mono pG (λd=>.inr (q2 d))⟩
   .rw[C3]at hu
    rw[mn mq,show c'[j]?=_ from C5 gy j]at hz;split at hu
    next ny=>
     rw[aJ']at hz
     obtain⟨u0,s,uC,sW⟩:=C8 hg _ _ hu;obtain⟨_,_,_,_,q5⟩:=GX sW (GV (j-off) u0 z uC hz);obtain⟨rfl,hz⟩:=q5 n es rfl;exact SE hz
    next ny=>
     have C6:=fg hu;rw[ax']at hz
     rcases hR.aC.own i _ fb j n es z hu (by rw[mn hh];exact hz) with h | ⟨q,cap,c2,e',q1,q2,q3,q4,q5,q6⟩
     .exact .inl h
     .have cy:q≠g.γ i:=λe=>by rw[e,cJ]at q2;cases q2
      exact .inr ⟨q,cap,c2,e',q1,q2,q3,(JT w _ q c' cy).trans q4,q5,q6⟩
  .rw[ax lz]at gi
   exact .inl ⟨gi,λ_=>⟨λe=>lz (by rw[cJ]at e;cases e;rfl),λ_ e=>(by rw[cJ]at e;cases e)⟩⟩
def amZ{root:kE}(ho:o.op=.store t p q)(yV:o.dst=none)(hs:fD P t=some sh.length)(hp:cc p x=true)(hq:cc q y=true)
  (hR:R E g S a w) (hrun:VO.run C o.dst S (.store root sh x y)=some S'):cC P E o S S' a w:=by
 simp only[VO.run]at hrun;cases gy:S.fits root x with
 |false=>simp[gy]at hrun
 |true =>
  simp only[gy,bW]at hrun;split at hrun
  next id off v hx hy=>
   split at hrun
   next cs fb=>
    cases hc:(v.cells.length==sh.length&&Nat.ble (off+sh.length) cs.length&&v.cells.all V.c5&&Nat.blt 0 sh.length) with
    |false=>simp[hc]at hrun
    |true =>
     simp only[hc,bW]at hrun;simp only[bZ,ec,iW]at hc;cases hrun;exact amV ho yV hs hp hq hR hx hy fb hc.1.1.1 (js hc.1.1.2) hc.1.2 (by have:=hc.2;simp[Nat.blt]at this;omega)
   .cases hrun
  next i off v hx hy=>
   split at hrun
   next cs fb=>
    split at hrun
    next vs hg=>
     cases hc:(Nat.ble (off+vs.length) cs.length&&Nat.blt 0 vs.length) with
     |false=>simp[hc]at hrun
     |true =>
      simp only[hc,bW]at hrun;cases hrun;simp only[bZ]at hc;have hle:=js hc.1;exact amY ho yV hs hp hq hR hx hy fb hg hle (λe=>by have h2:=hc.2;subst e;simp only[Nat.blt,Nat.ble_eq,tB]at hle h2;omega)
    .cases hrun
   .cases hrun
  .cases hrun
def am0(ho:o.op=.box t p)(hp:cc p x=true)
  (hR:R E g S a w) (hd:∀d,o.dst=some d->d<E.nt) (hrun:VO.run C o.dst S (.yB sh x)=some S'):cC P E o S S' a w:=by
 simp only[VO.run]at hrun;split at hrun
 next v hv=>
  split at hrun
  next cs hg=>
   cases hrun;obtain⟨e1,e2⟩:=JW hg;obtain⟨hl,hx⟩:=GN (di hR hp hv) (aac hg)
   let c:Array Value:=(a.eval p).cells
   let g':Gh:={ g with m:=du g.m w.heap.size 0,γ:=du g.γ S.aC.length w.heap.size,ow:=du g.ow w.heap.size (.aC S.aC.length) }
   have hw:(w.alloc (.cells c t)).heap=w.heap.push (.cells c t (0,0)):=rfl;have t':Touch E g S w g' S.bo (S.aC.length+1) (w.alloc (.cells c t)) w.heap.size none none:=JE hR hw rfl rfl rfl (λb hb=>g9 _ _ hb) (λb hb=>g9 _ _ hb)
    (λi _=>rfl) (λi _=>rfl) (λi _=>rfl) (λi _=>rfl) (λi hi=>g9 _ _ (by omega)) (by omega) (λi h1 h2=>by
     have:i=S.aC.length:=by omega
     subst this;show _<=du g.γ _ _ _;rw[ea];exact hR.same.size) (λi e=>by
     have e:du g.ow w.heap.size (.aC S.aC.length) w.heap.size=.aC i:=e;rw[ea]at e;cases e;exact⟨ea _ _ _,Jr _⟩)
   have nx:∀i,ke (S.cx g w) ⟨(w.alloc (.cells c t)).heap,g',S.aC.length+1,S.bo⟩ i:=λi=>t'.keeps hR (λe=>by cases e) (λe=>by cases e) (λh=>absurd h (iX _))
   have pG:Le ⟨w.heap,g,S.aC.length,[]⟩ ⟨(w.alloc (.cells c t)).heap,g',S.aC.length+1,[]⟩:=⟨t'.le.size,t'.le.cells,t'.le.m,t'.le.eZ,t'.le.γ⟩;have hγ:g'.γ S.aC.length=w.heap.size:=ea _ _ _;have r1:R E g' { S with aC:=S.aC++[.cells cs] } a (w.alloc (.cells c t)):=R.qk t' hR rfl (by simp) (λi=>.inl (nx i)) (λs v hs=>.inl hs)
    (λid ei hi=>.inl ⟨hi,(λe=>by cases e),λh=>absurd h (iX _)⟩) (λf k b hf hb=>.inl ⟨(λe=>by cases e),λh=>absurd h (iX _)⟩) (λk o gi=>by
     simp only[rP]at gi;split at gi
     .exact .inl ⟨gi,λh=>absurd h (iX _)⟩
     next hk=>
      have:k=S.aC.length:=by
       rcases nV (k-S.aC.length) with h|h
       .omega
       .rw[kW (by simp;omega)]at gi;cases gi
      subst this;simp at gi;subst gi;refine .inr ⟨by rw[hγ];exact ea _ _ _,⟨by rw[hγ];exact ea _ _ _,c,t,by rw[hγ];exact JG hw,by(have:v.cells.length=(a.eval p).cells.size:=by simpa using hl);show cs.length<=(a.eval p).cells.size;omega,λj u z hu hz=>?_⟩,λj n es z hu hz=>?_⟩
      .obtain⟨u0,s,uC,sW⟩:=C8 hg _ u hu
       obtain⟨q1,q2,q3,_⟩:=GX sW (hx j u0 z uC (by simpa using hz))
       exact⟨q1,q2,q3.mono pG (λd=>.inr (q2 d))⟩
      .rw[hγ,mn (JG hw)]at hz
       obtain⟨u0,s,uC,sW⟩:=C8 hg _ _ hu;obtain⟨_,_,_,_,q5⟩:=GX sW (hx j u0 z uC (by simpa using hz))
       obtain⟨rfl,hz⟩:=q5 n es rfl;exact SE hz)
   refine cC.value (x:=.pointer (some ⟨w.heap.size,0,none⟩)) (w':=w.alloc (.cells c t)) (g':=g') ?_ (r1.put hd ?_)
   .simp[execOp,ho,Instr.box,newVar,newRow,c]
   .rw[<-hγ];exact .bu _ 0 (by simp[St.cx])
  .cases hrun
 .cases hrun
def am1{m:Nat}(ho:o.op=.buildSlice t 0 #[])(ht:P.underlying t=some (.slice e))(hn:fD P e=some m)
  (hR:R E g S a w) (hd:∀d,o.dst=some d->d<E.nt) (hrun:VO.run C o.dst S (.A7 n)=some S'):cC P E o S S' a w:=by
 simp only[VO.run]at hrun;cases hrun;obtain⟨g',r1,_⟩:=hR.Sy (w':=w.alloc (.cells #[] e)) rfl rfl rfl rfl (n:=n) (ys:=[]) (l:=[]) ⟨by simp,by simp,by simp⟩ (λj y hj=>by simp at hj) (cap:=0) (b8 _)
 refine cC.value (x:=.slice (some ⟨w.heap.size,0,none⟩) 0 0) (g':=g') (w':=w.alloc (.cells #[] e)) ?_ (r1.put hd (.er (.inr ⟨_,rfl⟩)));have hz:∀f:Nat->Value,(Array.range 0).map f = #[]:=λf=>Gi (by simp)
 simp[execOp,ho,Instr.buildSlice,kg ht,qL hn,Instr.fill,newRow,hz]
def am2{op:BinOp}{ty:TypeId}{neg:Bool}(ho:o.op=.binOp op t p q ty)(Bl:op=if neg then .neq else .eql)(ht:P.underlying t=some (.slice e))(hp:cc p x=true)(hq:cc q (.c .cj)=true)
  (hR:R E g S a w) (hd:∀d,o.dst=some d->d<E.nt) (hrun:VO.run C o.dst S (.yI neg x)=some S'):cC P E o S S' a w:=by
 have h0:=qK (di (v:=.cj) hR hq rfl);have go:∀(r:Option Addr) (n c:Nat),a.eval p=.slice r n c->(bif neg then !r.isNone else r.isNone)=(bif neg then !r.isNone else r.isNone)->(execOp a.eval o).run P w=.ok (.value (.bool (bif neg then !r.isNone else r.isNone))) w:=λr n c ev _=>by
  subst Bl;have hg:∀op,(eqGuard op t p q (.slice r n c) (.slice none 0 0)).run P w=.ok () w:=λop=>by
   cases op<;>simp[eqGuard]
  cases neg
  .have h1:=Lib.run_eql_slice_nil (P:=P) w t e r n c 0 0 ht
   simp[execOp,ho,ev,h0,hg,h1]
  .have h1:=run_neq_slice_nil_any (P:=P) w t e r n c 0 0 ht
   simp[execOp,ho,ev,h0,hg,h1]
 simp only[VO.run]at hrun;split at hrun
 next hx=>
  cases hrun;have e:=qK (di hR hp hx);have:=go _ _ _ e rfl;refine cC.put hR hd (x:=.bool !neg) ?_ (bh.bool _);rw[this];cases neg<;>rfl
 next n hx=>
  cases hrun;obtain⟨b,cap,e⟩:=JA (di hR hp hx);have:=go _ _ _ e rfl;refine cC.put hR hd (x:=.bool neg) ?_ (bh.bool _);rw[this];cases neg<;>rfl
 next t' n r rs hx=>
  cases hrun;have hr:=di hR hp hx;obtain⟨b,len,cap,e⟩:∃b len cap,a.eval p=.slice (some b) len cap:=by
   generalize a.eval p=y at hr;cases hr with
   |plain h _=>cases h with
    |slice _ _ _ b off cap=>exact⟨_,_,_,rfl⟩
  have:=go _ _ _ e rfl;refine cC.put hR hd (x:=.bool neg) ?_ (bh.bool _);rw[this];cases neg<;>rfl
 .cases hrun
variable{cD:Nat}
def am3(ho:o.op=.load t p)(hs:ux P t none=true)(hp:cc p x=true)(hn:S.fa cD)
  (hR:R E g S a w) (hd:∀d,o.dst=some d->d<E.nt) (hrun:VO.run C o.dst S (.vt cD x)=some S'):cC P E o S S' a w:=by
 simp only[VO.run]at hrun;split at hrun
 next pv SF=>
  have JY:=di hR hp SF;split at hrun
  next v ts G Ak=>
   cases hrun;unfold St.take at Ak;split at Ak
   next id off=>
    obtain⟨ep,pK⟩:=CZ JY;split at Ak
    next cs fb=>
     by_cases SG:cs=[]
     .subst SG;simp at Ak
     obtain⟨cJ,hm,c,e,hh,dS,hj⟩:=(hR.aC.obj id _ fb).resolve_left (λe=>SG (by cases e;rfl))
     have GZ:∀u,cs[off]?=some u->∃z,(execOp a.eval o).run P w=.ok (.value z) w/\bh (S.cx g w) u z/\c[off]?=some z:=λu hu=>by
      have hc:S.pC (.bu id off)=some (cs,off):=by simp[St.pC,fb]
      obtain⟨b,f,e2,eR⟩:=ZR hR JY hc;rw[e2]at ep;injection ep with ep;injection ep with ep;injection ep with e3 e4 _;have e3:b=g.γ id:=e3;have e4:f=0:=by omega
      obtain⟨z,hz,hr⟩:=Nw (P:=P) (w:=w) (t:=t) (sz:=none) (off:=off) hs eR hu;obtain⟨y,hy,_⟩:=eR off u hu;have hzy:z=y:=by
       have h5:(loadVar t ⟨b,f+off,none⟩).run P w=.ok y w:=by
        simp only[ux,bZ,ec]at hs;simp[loadVar,ED hs.1,cell?_eq,hy]
       rw[h5]at hz;injection hz with hz;exact hz.symm
      rw[hzy]at hz hr;refine⟨y,by simp[execOp,ho,Instr.loadAt,e2,Instr.sureAddr,hz],hr,?_⟩
      rw[e3,mn hh,e4,kX]at hy;exact hy
     split at Ak
     next n es ky=>
      cases Ak;obtain⟨z,hex,hr,hz⟩:=GZ _ ky;have EJ:fK w.heap g.m (.slice none n es) z:=by
       cases hr with
       |plain h _=>cases h
       |eC h=>exact h
      have o0:=fg ky;have C9:=hR.aC.own id _ fb off n es z ky (by rw[mn hh];exact hz)
      let τ':Option Nat:=C7 z
      have hτ':∀q,τ'=some q->g.ow q=.cell (g.γ id) off/\q<w.heap.size:=λq hq=>by
       rcases C9 with⟨_,e⟩ | ⟨q',cap,c2,e2,e,q2,q3,q4,q5,q6⟩
       .rw[show τ'=none from SD e]at hq;cases hq
       .rw[show τ'=some q' by simp only[τ',e];exact JV q6]at hq
        cases hq;refine⟨q2,?_⟩;rcases cS q w.heap.size with h|h
        .exact h
        .simp[ou h]at q4
      let B:Nat:=τ'.getD w.heap.size
      let g':Gh:={ g with τ:=du g.τ cD τ',ow:=du g.ow B (.tok cD) }
      have Db:B<w.heap.size->g.ow B=.cell (g.γ id) off:=λhB=>by
       cases hτ:τ' with
       |none=>simp only[B,hτ,R7]at hB;omega
       |some q=>simp only[B,hτ,Nm];exact(hτ' q hτ).1
      have tt:Touch E g S w g' ((cD,es.length)::S.bo) S.aC.length w B none (some cD) :=
       {os:=rfl,tape:=rfl,output:=rfl,size:=b8 _,heap:=λ_ _ _=>rfl,m:=λ_ _=>rfl,ow:=λb hb=>g9 _ _ hb,κ:=λ_ _=>rfl,cp:=λ_ _=>rfl,
        τ:=λi hi=>g9 _ _ (λe=>hi (by rw[e])),T:=λi hi=>by rw[dO,ax (λe=>hi (by rw[e]))],γ:=λ_ _=>rfl,eZ:=b8 _,
        γnew:=λi a b=>absurd a (by omega)
        fresh:=by
         rcases cS B E.w0.heap.size with h|h
         .exact .inr (.inr (hR.same.jw B _ _ h (Db (jC h hR.same.size))))
         .exact .inl h
        jw:=λp q _ e=>by
         have e:du g.ow B (.tok cD) B=.cell p q:=e;rw[ea]at e;cases e
        lv:=λi e=>by
         have e:du g.ow B (.tok cD) B=.aC i:=e;rw[ea]at e;cases e
        mM:=λ_ _ _ h=>h,sO:=λ_=>b8 _ }
      have nx:∀i,ke (S.cx g w) ⟨w.heap,g',S.aC.length,(cD,es.length)::S.bo⟩ i\/i=cD:=λi=>by
       by_cases hi:cD=i
       .exact .inr hi.symm
       .exact .inl (tt.keeps hR (λe=>by cases e) (λe=>hi (by cases e;rfl)) (λhB e=>by rw[Db hB]at e;cases e))
      have am6:∀k o,S.aC[k]?=some o->o≠.cells []->k≠id->g.γ k≠g.γ id:=λk o hk G5 cy e=>by
       have:=((hR.aC.obj k o hk).resolve_left G5).1;rw[e,cJ]at this;cases this;exact cy rfl
      have r1:R E g' { S with bo:=(cD,es.length)::S.bo,aC:=S.aC.set id (.cells (cs.set off (.slice none n es))) } a w :=
       R.JB (S':={ S with bo:=(cD,es.length)::S.bo,aC:=S.aC.set id (.cells (cs.set off (.slice none n es))) }) tt hR rfl (by simp) (λi=>(nx i).imp (λz=>z) λe=>by rw[e];exact hn) (λs v hs=>.inl hs)
        (λi ei ho=>.inl ⟨ho,(λe=>by cases e),λhB e=>by rw[Db hB]at e;cases e⟩) (λf k b hf hb=>by
         by_cases Am:cD=f
         .subst Am
          have hb:du g.τ cD τ' cD=some b:=hb;rw[ea]at hb;obtain⟨h1,h2⟩:=hτ' b hb;have SH:B=b:=by simp only[B,hb,Nm]
          refine .inr ⟨by show du g.ow B _ b=_;rw[SH,ea],?_,h2⟩
          rcases cS b E.w0.heap.size with h|h
          .exact .inr (hR.same.jw b _ _ h h1)
          .exact .inl h
         .exact .inl ⟨λe=>Am (by cases e;rfl),λhB e=>by rw[Db hB]at e;cases e⟩) (λk o gi G5=>by
         simp only[lM]at gi;by_cases lz:id=k
         .subst lz
          simp[show id<S.aC.length from fg fb]at gi;subst gi;have pG:Le ⟨w.heap,g,S.aC.length,[]⟩ ⟨w.heap,g',S.aC.length,[]⟩:=⟨tt.le.size,tt.le.cells,tt.le.m,tt.le.eZ,tt.le.γ⟩;have hγB:g.γ id≠B:=λe=>by
           have:=Db (e ▸ GY hR fb (λe=>SG (by cases e;rfl)))
           rw[<-e,cJ]at this;cases this
          refine .inr ⟨(tt.ow _ hγB).trans cJ,⟨hm,c,e,hh,by rw[qI];exact dS,λj u y hu hy=>?_⟩,λj n' sf y hu hy=>?_⟩
          .rw[lM]at hu
           by_cases vH:off=j
           .subst vH
            rw[aJ rfl,aJ o0]at hu;cases hu;have hyz:y=z:=by have hy:c[off]?=some y:=hy;rw[hz]at hy;exact(Option.some.inj hy).symm
            rw[hyz];exact⟨rfl,λ_=>rfl,.plain EJ (λ_ _ _ e=>by cases e)⟩
           .rw[ax vH]at hu
            obtain⟨q1,q2,q3⟩:=hj j u y hu hy;exact⟨q1,q2,q3.mono pG (λd=>.inr (q2 d))⟩
          .rw[lM]at hu
           by_cases vH:off=j
           .subst vH
            rw[aJ rfl,aJ o0]at hu;cases hu
           .rw[ax vH]at hu
            rcases hR.aC.own id _ fb j n' sf y hu hy with h | ⟨q,cap,c2,e',q1,q2,q3,q4,q5,q6⟩
            .exact .inl h
            .have SI:q≠B:=λe=>by
              have qi:q<w.heap.size:=by
               rcases cS q w.heap.size with h|h
               .exact h
               .simp[ou h]at q4
              rw[e]at q2 qi;rw[Db qi]at q2;cases q2;exact vH rfl
             exact .inr ⟨q,cap,c2,e',q1,(tt.ow q SI).trans q2,q3,q4,q5,q6⟩
         .rw[ax lz]at gi
          refine .inl ⟨gi,λhB=>⟨λe=>(by rw[Db hB]at e;cases e),λj e=>?_⟩⟩
          rw[Db hB]at e;injection e with e _;exact am6 k o gi G5 (λh=>lz h.symm) e.symm)
      refine cC.value (x:=z) (w':=w) (g':=g') hex (r1.put hd (.plain (aab EJ) (λf n' sf e k hk=>?_)));cases e;have hk:look cD ((cD,es.length)::S.bo)=some k:=hk;rw[dO,aJ rfl]at hk;cases hk;refine⟨b8 _,λ_=>?_⟩;rcases C9 with⟨e1,e2⟩ | ⟨q,cap,c2,e',q1,q2,q3,q4,q5,q6⟩
      .exact .inl ⟨e1,e2⟩
      .refine .inr ⟨q,0,cap,c2,e',?_,q1,by show g.m q=_;omega,q4,by omega,rfl,q6⟩
       show du g.τ cD τ' cD=_;rw[ea];simp only[τ',q1];exact JV q6
     next u _ ky=>
      cases Ak;obtain⟨z,hex,hr,hz⟩:=GZ _ ky;exact cC.put hR hd hex (ZO hr)
     .cases Ak
    .cases Ak
   .cases Ak
  .cases hrun
 .cases hrun
def am9(ho:o.op=.store t p q)(yV:o.dst=none)(hs:fD P t=some 1)(hp:cc p x=true)(hq:cc q y=true)
  (hR:R E g S a w) (hrun:VO.run C o.dst S (.xt cD x y)=some S'):cC P E o S S' a w:=by
 simp only[VO.run]at hrun;split at hrun
 next pv v SF hv=>
  have JY:=di hR hp SF;have EJ:=di hR hq hv;split at hrun
  next ts G Dc=>
   cases hrun;unfold St.Ae at Dc;split at Dc
   next id off f n es=>
    split at Dc
    next cs k fb hk=>
     have sR:f=cD/\look f S.bo=some k:=by
      cases Am:f==cD with
      |false=>rw[Am]at hk;cases hk
      |true =>
       have:=eq_of_beq Am;subst this;rw[Am]at hk;exact⟨rfl,hk⟩
     obtain⟨e,ql⟩:=sR;subst e
     clear hk
     have hk:=ql;cases hc:(k==es.length&&Nat.blt off cs.length) with
     |false=>simp[hc]at Dc
     |true =>
      simp only[hc,bW,Option.some.injEq,Prod.mk.injEq]at Dc;obtain⟨rfl,rfl⟩:=Dc;simp only[bZ,ec]at hc;obtain⟨rfl,bJ⟩:=hc;have o0:off<cs.length:=by simp[Nat.blt]at bJ;omega
      obtain⟨ep,pK⟩:=CZ JY;obtain⟨cJ,hm,c,e,hh,dS,hj⟩:=(hR.aC.obj id _ fb).resolve_left (λe=>by cases e;simp at o0)
      generalize hyv:a.eval q=yv at EJ;obtain⟨JZ,SJ⟩:fK w.heap g.m (.slice (some f) n es) yv/\A9 (S.cx g w) f n es.length yv:=by
       cases EJ with
       |plain h ht=>exact⟨h,(ht f n es rfl _ hk).2 rfl⟩
      have J0:fK w.heap g.m (.slice none n es) yv:=aab JZ;have An:yv.cells = #[yv]:=JZ.cells
      let c':Array Value:=(c.toList.take off++yv.cells.toList++c.toList.drop (off+yv.cells.toList.length)).toArray
      have pL:yv.cells.toList.length=1:=by rw[An];rfl
      have gy:off+yv.cells.toList.length<=c.size:=by omega
      have hrun:=SA (P:=P) (w:=w) (t:=t) (n:=1) hs (v:=yv) (by rw[An];rfl) hh (o:=off) (by omega) (λy hy=>by rw[An]at hy;simp at hy;subst hy;exact JZ.EA)
      rw[<-pL]at hrun;have mq:(w.setRow (g.γ id) c').heap[g.γ id]?=some (.cells c' e (0,0)):=setRow_heap w _ c c' e _ hh;have sX:∀j,c'[j]?=if j=off then some yv else c[j]?:=λj=>by
       rw[show c'[j]?=_ from C5 gy j,pL,An];by_cases h:j=off
       .subst h;simp
       .rw[ax',ax h]
      have Bk:=hR.JX cJ
      let B:Nat:=(C7 yv).getD w.heap.size
      have hB:(es.length=0/\nn yv/\B=w.heap.size)\/∃cap c2 e2,yv=.slice (some ⟨B,0,none⟩) es.length cap/\g.τ f=some B/\g.m B=es.length*n/\w.heap[B]?=some (.cells c2 e2 (0,0))/\cap*n<=c2.size/\0<es.length /\
        g.ow B=.tok f/\(E.w0.heap.size<=B\/E.own B)/\B<w.heap.size:=by
       rcases SJ with⟨h1,h2⟩ | ⟨b,o2,cap,c2,e2,h1,h2,h3,h4,h5,h6,h7⟩
       .exact .inl ⟨h1,h2,by simp only[B,SD h2];rfl⟩
       .subst h6
        have SH:B=b:=by simp only[B,h2];rw[JV h7];rfl
        obtain⟨q1,q2,q3⟩:=hR.bo f _ b hk h1;rw[SH];exact .inr ⟨cap,c2,e2,h2,h1,by have h3:g.m b=0+es.length*n:=h3;omega,h4,by omega,h7,q1,q2,q3⟩
      have EK:B<w.heap.size->g.ow B=.tok f:=λh=>by
       rcases hB with⟨_,_,e⟩ | ⟨_,_,_,_,_,_,_,_,_,h8,_⟩
       .omega
       .exact h8
      have hBγ:∀k o,S.aC[k]?=some o->o≠.cells []->g.γ k≠B:=λk o ql G5 e=>by
       have h1:=((hR.aC.obj k o ql).resolve_left G5).1;have h2:=EK (e ▸ GY hR ql G5);rw[<-e,h1]at h2;cases h2
      let g1:Gh:={ g with τ:=du g.τ f none,ow:=du g.ow B (.cell (g.γ id) off) }
      have t1:Touch E g S w g1 ((f,es.length+1)::S.bo) S.aC.length w B none (some f) :=
       {os:=rfl,tape:=rfl,output:=rfl,size:=b8 _,heap:=λ_ _ _=>rfl,m:=λ_ _=>rfl,ow:=λb hb=>g9 _ _ hb,κ:=λ_ _=>rfl,cp:=λ_ _=>rfl,
        τ:=λi hi=>g9 _ _ (λe=>hi (by rw[e])),T:=λi hi=>by rw[dO,ax (λe=>hi (by rw[e]))],γ:=λ_ _=>rfl,eZ:=b8 _,
        γnew:=λi a b=>absurd a (by omega)
        fresh:=by
         rcases hB with⟨_,_,e⟩ | ⟨_,_,_,_,_,_,_,_,_,_,h9,_⟩
         .exact .inl (by rw[e];exact hR.same.size)
         .exact h9.imp (λz=>z) .inr
        jw:=λp q bJ _=>by
         rcases hB with⟨_,_,e⟩ | ⟨_,_,_,_,_,_,_,_,_,_,h9,_⟩
         .have:=hR.same.size;omega
         .exact h9.resolve_left (by omega)
        lv:=λi e=>by
         have e:du g.ow B (.cell (g.γ id) off) B=.aC i:=e;rw[ea]at e;cases e
        mM:=λ_ _ _ h=>h,sO:=λ_=>b8 _ }
      have k1:∀i,ke (S.cx g w) ⟨w.heap,g1,S.aC.length,(f,es.length+1)::S.bo⟩ i:=λi=>by
       by_cases hi:f=i
       .subst hi
        refine⟨rfl,rfl,λk' lR=>⟨es.length,hk,?_,λe=>?_⟩⟩
        .simp only[dO,if_true,Option.some.injEq]at lR;omega
        .simp only[dO,if_true,Option.some.injEq]at lR;omega
       .exact t1.keeps hR (λe=>by cases e) (λe=>hi (by cases e;rfl)) (λhb e=>hi (by rw[EK hb]at e;cases e;rfl))
      have r1:R E g1 { S with bo:=(f,es.length+1)::S.bo } a w:=R.qk (S':={ S with bo:=(f,es.length+1)::S.bo }) t1 hR rfl rfl (λi=>.inl (k1 i)) (λs v hs=>.inl hs)
       (λi ei ho=>.inl ⟨ho,(λe=>by cases e),λhb e=>by rw[EK hb]at e;cases e⟩) (λf' k' b hf hb=>by
        by_cases Am:f=f'
        .subst Am
         have hb:du g.τ f none f=some b:=hb;rw[ea]at hb;cases hb
        .exact .inl ⟨λe=>Am (by cases e;rfl),λhb e=>by rw[EK hb]at e;cases e;exact Am rfl⟩) (λi o hi=>.inl ⟨hi,λhb=>⟨λe=>(by rw[EK hb]at e;cases e),λ_ e=>(by rw[EK hb]at e;cases e)⟩⟩)
      have EL:g1.ow (g.γ id)=.aC id:=(g9 _ _ (hBγ id _ fb (λe=>by cases e;simp at o0))).trans cJ
      have t2:=GU (g:=g1) (c':=c') (S:={ S with bo:=(f,es.length+1)::S.bo }) (w:=w) (b:=g.γ id) hm Bk (λ_ _ e=>by rw[EL]at e;cases e) r1
      have k2:∀i,ke (({ S with bo:=(f,es.length+1)::S.bo }:St).cx g1 w) ⟨(w.setRow (g.γ id) c').heap,g1,S.aC.length,(f,es.length+1)::S.bo⟩ i:=λi=>t2.keeps r1 (λe=>by cases e) (λe=>by cases e) (λ_ e=>by rw[EL]at e;cases e)
      have pG:Le ⟨w.heap,g,S.aC.length,[]⟩ ⟨(w.setRow (g.γ id) c').heap,g1,S.aC.length,[]⟩:=⟨t2.le.size,t2.le.cells,t2.le.m,t2.le.eZ,t2.le.γ⟩;refine cC.skip (g':=g1) (w':=w.setRow (g.γ id) c') ?_ yV (R.qk (S':={ S with bo:=(f,es.length+1)::S.bo,aC:=S.aC.set id (.cells (cs.set off (.eC n es))) }) t2 r1 rfl (by simp) (λi=>.inl (k2 i)) (λs v hs=>.inl hs)
       (λi ei hi=>.inl ⟨hi,(λe=>by cases e),λ_ e=>by rw[EL]at e;cases e⟩)
       (λf k b hf hb=>.inl ⟨(λe=>by cases e),λ_ e=>by rw[EL]at e;cases e⟩) (λk o gi=>?_))
      .have EB:(storeVar t ⟨(S.cx g w).g.γ id,off,none⟩ yv).run P w=.ok () (w.setRow (g.γ id) c'):=hrun
       simp only[execOp,ho,ep,hyv];simp[Instr.storeAt,Instr.sureAddr,EB]
      .simp only[lM]at gi
       by_cases lz:id=k
       .subst lz
        simp[show id<S.aC.length from fg fb]at gi;subst gi;refine .inr ⟨EL,⟨hm,c',e,mq,by rw[qI];exact iO dS (xr (GS gy).symm),λj u z hu hz=>?_⟩,λj n' sf z hu hz=>?_⟩
        .rw[sX]at hz
         rw[lM]at hu;by_cases vH:off=j
         .subst vH
          rw[aJ rfl,aJ o0]at hu;rw[aJ rfl]at hz;cases hu;cases hz;exact⟨rfl,λ_=>rfl,.eC (J0.mono pG)⟩
         .rw[ax vH]at hu
          rw[ax (λe=>vH e.symm)]at hz;obtain⟨q1,q2,q3⟩:=hj j u z hu hz;exact⟨q1,q2,q3.mono pG (λd=>.inr (q2 d))⟩
        .have hz:cellAt (w.setRow (g.γ id) c').heap (g.γ id) j=some z:=hz
         rw[mn mq,sX]at hz;rw[lM]at hu;by_cases vH:off=j
         .subst vH
          rw[aJ rfl,aJ o0]at hu;rw[aJ rfl]at hz;cases hu;cases hz;rcases hB with⟨h1,h2,_⟩ | ⟨cap,c2,e2,h1,h2,h3,h4,h5,h6,_⟩
          .exact .inl ⟨h1,h2⟩
          .exact .inr ⟨B,cap,c2,e2,h1,ea _ _ _,h3,(JT w _ B c' (λe=>hBγ id _ fb (λe=>by cases e;simp at o0) e.symm)).trans h4,h5,h6⟩
         .rw[ax vH]at hu
          rw[ax (λe=>vH e.symm)]at hz;rcases hR.aC.own id _ fb j n' sf z hu (by rw[mn hh];exact hz) with h | ⟨q,cap,c2,e',q1,q2,q3,q4,q5,q6⟩
          .exact .inl h
          .have qi:q<w.heap.size:=by
            rcases cS q w.heap.size with h|h
            .exact h
            .simp[ou h]at q4
           have SI:q≠B:=λe=>by rw[e]at q2 qi;rw[EK qi]at q2;cases q2
           have cy:q≠g.γ id:=λe=>by rw[e,cJ]at q2;cases q2
           exact .inr ⟨q,cap,c2,e',q1,(g9 _ _ SI).trans q2,q3,(JT w _ q c' cy).trans q4,q5,q6⟩
       .rw[ax lz]at gi
        exact .inl ⟨gi,λ_=>⟨λe=>lz (by rw[EL]at e;cases e;rfl),λ_ e=>(by rw[EL]at e;cases e)⟩⟩
    .cases Dc
   .cases Dc
  .cases hrun
 .cases hrun
variable{sz:Nat}{lo hi:Option Operand}{EM sY:Option bG}
def Dd(ho:o.op=.slice t p lo hi none)(ht:P.underlying t=some (.slice e))(hs:fD P e=some sz)
  (o0:match lo,EM with|none,none=>True|some y,some z=>cc y z=true|_,_=>False) (wJ:match hi,sY with|none,none=>True|some y,some z=>cc y z=true|_,_=>False)
  (hR:R E g S a w) {base:Option Addr} (e1:a.eval p=.slice base n cap) (eM:n<=cap) {k1 k2:IntKind} {l h:Int} (hl:S.lx EM 0=some (.int k1 l)) (hh:S.lx sY n=some (.int k2 h))
  (h0:0<=l) (h1:l<=h) (h2:h<=(n:Int)):(execOp a.eval o).run P w=.ok (.value (.slice (if cap=l.toNat then base else base.map (·.add (l.toNat*sz))) (h.toNat-l.toNat) (cap-l.toNat))) w:=by
 have De:(match lo.map a.eval with|some v=>Instr.sliceBound v h.toNat .sliceB|none=>pure 0).run P w=.ok l.toNat w:=by
  cases lo with
  |none =>
   cases EM with
   |none=>simp[St.lx]at hl;obtain⟨_,rfl⟩:=hl;simp
   |some z=>exact o0.elim
  |some y =>
   cases EM with
   |none=>exact o0.elim
   |some z =>
    have:=oA (di hR o0 hl);simp only[ox,this];exact run_sliceBound w k1 l h.toNat .sliceB h0 (by omega)
 have EN:(match hi.map a.eval with|some v=>Instr.sliceBound v cap .sliceAcap|none=>pure n).run P w=.ok h.toNat w:=by
  cases hi with
  |none =>
   cases sY with
   |none=>simp[St.lx]at hh;obtain⟨_,rfl⟩:=hh;simp
   |some z=>exact wJ.elim
  |some y =>
   cases sY with
   |none=>exact wJ.elim
   |some z =>
    have:=oA (di hR wJ hh);simp only[ox,this];exact run_sliceBound w k2 h cap .sliceAcap (by omega) (by omega)
 have anb:(Instr.sliceBounds true n cap (lo.map a.eval) (hi.map a.eval) none).run P w=.ok (l.toNat,h.toNat,cap) w:=by
  unfold Instr.sliceBounds;cases hi with
  |none =>
   simp only[Nn]at EN;simp only[Sem.run_pure,Result.ok.injEq,and_true]at EN;cases lo with
   |none =>
    simp only[Nn,Sem.run_pure,Result.ok.injEq,and_true]at De;simp[<-EN,<- De]
   |some y =>
    simp only[ox]at De;simp[EN,De]
  |some z =>
   simp only[ox]at EN;cases lo with
   |none =>
    simp only[Nn,Sem.run_pure,Result.ok.injEq,and_true]at De;simp[EN,<- De]
   |some y =>
    simp only[ox]at De;simp[EN,De]
 simp only[execOp,ho,e1,Instr.sliceAt,Instr.slice];simp[kg ht,anb,qL hs]
def ane(ho:o.op=.slice t p lo hi none)(ht:P.underlying t=some (.slice e))(hs:fD P e=some sz)
  (hp:cc p x=true) (o0:match lo,EM with|none,none=>True|some y,some z=>cc y z=true|_,_=>False) (wJ:match hi,sY with|none,none=>True|some y,some z=>cc y z=true|_,_=>False)
  (hR:R E g S a w) (hd:∀d,o.dst=some d->d<E.nt) (hrun:VO.run C o.dst S (.yJ sz x EM sY)=some S'):cC P E o S S' a w:=by
 simp only[VO.run]at hrun;split at hrun
 next tk m es hx=>
  split at hrun
  next k1 l k2 h hl hh=>
   cases hc:(decide (0<=l)&&decide (l<=h)&&decide (h<=(es.length:Int))&&(m==sz)) with
   |false=>simp[hc]at hrun
   |true =>
    simp only[hc,bW]at hrun;cases hrun;simp only[bZ,jD,ec]at hc;obtain⟨⟨⟨h0,h1⟩,h2⟩,rfl⟩:=hc;have hr:=di hR hp hx;obtain⟨base,cap,e1,eM⟩:∃base cap,a.eval p=.slice base es.length cap/\es.length<=cap:=by
     generalize a.eval p=y at hr;cases hr with
     |plain h _=>cases h with
      |nil=>exact⟨none,0,rfl,by simp⟩
      |empty _ _ a cap=>exact⟨some a,cap,rfl,by simp⟩
      |slice _ _ _ b off cap ys hb eM=>exact⟨_,cap,rfl,eM⟩
    have fR:=Dd (w:=w) ho ht hs o0 wJ hR e1 eM hl hh h0 h1 h2;have hlen:((es.take h.toNat).drop l.toNat).length=h.toNat-l.toNat:=by simp;omega
    refine cC.put hR hd fR ?_
    clear fR
    generalize a.eval p=y at hr e1;subst e1;refine .plain ?_ (λ_ _ _ e=>by cases e)
    cases hr with
    |plain hv _ =>
     cases hv with
     |nil =>
      have qQ:l.toNat=0:=by simp at h2;omega
      have Ao:h.toNat=0:=by simp at h2;omega
      simp[qQ,Ao];exact .nil _ _
     |empty _ _ a' uy =>
      have qQ:l.toNat=0:=by simp at h2;omega
      have Ao:h.toNat=0:=by simp at h2;omega
      simp only[qQ,Ao,Ab,R5,tA];split
      .exact .empty _ _ _ _
      .exact .empty _ _ _ _
     |slice _ _ _ b off _ ys hb kz jG hc hv hp hm =>
      rw[<-hlen];by_cases dS:cap=l.toNat
      .rw[aJ dS]
       have h3:(es.take h.toNat).drop l.toNat=[]:=pz.1 (by rw[hlen];omega)
       rw[h3];exact .slice none m [] b off _ ys hb (by simp) (by simp) (by simp) (by simp) (by simp) (by simp;omega)
      .rw[ax dS]
       simp only[ox,lS];have sX:∀(i:Nat) (row:List V),((es.take h.toNat).drop l.toNat)[i]?=some row->es[l.toNat+i]?=some row:=λi row hi=>by
        rw[mJ,jP]at hi;split at hi
        .exact hi
        .cases hi
       refine .slice none m _ b (off+l.toNat*m) _ (λi j=>ys (l.toNat+i) j) hb (by rw[hlen];omega) (λi row hi=>jG _ row (sX i row hi)) (λi row j v hi hj=>?_) (λi row j v hi hj=>hv _ row j v (sX i row hi) hj)
        (λi row j v hi hj=>hp _ row j v (sX i row hi) hj) ?_
       .rw[<-hc _ row j v (sX i row hi) hj]
        congr 1;rw[Aa];omega
       .have:(l.toNat+(h.toNat-l.toNat))*m<=es.length*m:=uk m (by omega)
        rw[Aa]at this;rw[hlen];omega
  .cases hrun
 next hx=>
  split at hrun
  next k1 l k2 h hl hh=>
   cases hc:(decide (l=0)&&decide (h=0)) with
   |false=>simp[hc]at hrun
   |true =>
    simp only[hc,bW]at hrun;cases hrun;simp only[bZ,jD]at hc;obtain⟨rfl,rfl⟩:=hc;have e1:=qK (di hR hp hx);have fR:=Dd (w:=w) (n:=0) ho ht hs o0 wJ hR e1 (b8 _) hl hh (vk _) (vk _) (vk _);exact cC.put hR hd fR (.plain .cj (λ_ _ _ e=>by cases e))
  .cases hrun
 next id s n hx=>
  split at hrun
  next k1 l k2 h hl hh=>
   cases hc:(decide (0<=l)&&decide (l<=h)&&decide (h<=(n:Int))&&(s==sz)) with
   |false=>simp[hc]at hrun
   |true =>
    simp only[hc,bW]at hrun;simp only[bZ,jD,ec]at hc;obtain⟨⟨⟨h0,h1⟩,h2⟩,rfl⟩:=hc;rcases tH (di hR hp hx) with⟨cap,eM,gM,e1⟩ | ⟨rfl,hz,gM⟩
    .have fR:=Dd (w:=w) ho ht hs o0 wJ hR e1 eM hl hh h0 h1 h2
     by_cases qQ:l=0
     .subst qQ
      simp only[decide_true,bW,Option.some.injEq]at hrun;subst hrun;refine cC.put hR hd fR ?_;simp only[Int.toNat_zero,Jt,Ab,ox,lS,yA,ite_self];exact .bY _ _ _ _ (by omega) gM
     .have EO:decide (l=0)=false:=decide_eq_false qQ
      by_cases J1:l<(n:Int)
      .simp only[EO,fJ J1,bW,gL,Option.some.injEq]at hrun
       subst hrun;refine cC.put hR hd fR ?_;rw[ax']
       simp only[ox,lS,kX];rw[show h.toNat-l.toNat=(h-l).toNat from by omega]
       exact .fQ _ _ _ _ _ (by omega)
      .simp only[EO,decide_eq_false J1,gL,Option.some.injEq]at hrun
       subst hrun;refine cC.put hR hd fR ?_;have e0:h.toNat-l.toNat=0:=by omega
       rw[e0];refine .plain ?_ (λ_ _ _ e=>by cases e)
       split
       .exact .empty _ _ _ _
       .exact .empty _ _ _ _
    .have qQ:l=0:=by omega
     have Ao:h=0:=by omega
     subst qQ;subst Ao;simp only[decide_true,bW,Option.some.injEq]at hrun;subst hrun;rcases hz with e1 | ⟨b,e1⟩
     .have fR:=Dd (w:=w) (n:=0) ho ht hs o0 wJ hR e1 (b8 _) hl hh h0 h1 h2
      exact cC.put hR hd fR (.tF _ _ (.inl rfl) gM)
     .have fR:=Dd (w:=w) (n:=0) ho ht hs o0 wJ hR e1 (b8 _) hl hh h0 h1 h2
      exact cC.put hR hd fR (.tF _ _ (.inr ⟨b,rfl⟩) gM)
  .cases hrun
 next id s n hx=>
  split at hrun
  next k1 l k2 h hl hh=>
   cases hc:(decide (0<=l)&&decide (l<=h)&&decide (h<=(n:Int))&&(s==sz)) with
   |false=>simp[hc]at hrun
   |true =>
    simp only[hc,bW]at hrun;simp only[bZ,jD,ec]at hc;obtain⟨⟨⟨h0,h1⟩,h2⟩,rfl⟩:=hc;obtain⟨hi,⟨cap,eM,e1⟩ | ⟨rfl,hz⟩⟩:=GM (di hR hp hx)
    .have fR:=Dd (w:=w) ho ht hs o0 wJ hR e1 eM hl hh h0 h1 h2
     by_cases qQ:l=0
     .subst qQ
      simp only[decide_true,bW,Option.some.injEq]at hrun;subst hrun;refine cC.put hR hd fR ?_;simp only[Int.toNat_zero,Jt,Ab,ox,lS,yA,ite_self];exact .cO _ _ _ _ hi (by omega)
     .have EO:decide (l=0)=false:=decide_eq_false qQ
      by_cases J1:l<(n:Int)
      .simp only[EO,fJ J1,bW,gL,Option.some.injEq]at hrun
       subst hrun;refine cC.put hR hd fR ?_;rw[ax']
       simp only[ox,lS,kX];rw[show h.toNat-l.toNat=(h-l).toNat from by omega]
       exact .jg _ _ _ _ _ hi (by omega)
      .simp[EO,decide_eq_false J1]at hrun
    .have qQ:l=0:=by omega
     have Ao:h=0:=by omega
     subst qQ;subst Ao;simp only[decide_true,bW,Option.some.injEq]at hrun;subst hrun;rcases hz with e1 | ⟨b,e1⟩
     .have fR:=Dd (w:=w) (n:=0) ho ht hs o0 wJ hR e1 (b8 _) hl hh h0 h1 h2
      exact cC.put hR hd fR (.wD _ _ hi (.inl rfl))
     .have fR:=Dd (w:=w) (n:=0) ho ht hs o0 wJ hR e1 (b8 _) hl hh h0 h1 h2
      exact cC.put hR hd fR (.wD _ _ hi (.inr ⟨b,rfl⟩))
  .cases hrun
 .cases hrun
end

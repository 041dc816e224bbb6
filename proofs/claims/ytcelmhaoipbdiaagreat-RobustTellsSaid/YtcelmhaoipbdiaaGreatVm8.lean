/- The value machine, 8: literals, stores, make, blocks that calls share. -/
import Derived.Great.BuildSlice
import Derived.IntWalk
import Derived.Laws.Slices
import Derived.Test.YtcelmhaoipbdiaaGreatVm7
import Derived.WalkSpells
import Derived.Lib.SliceRun
namespace Go.Vm
set_option linter.all false
section
variable {P:Program} {E:Entry} {g g':Gh} {S S':St} {a:Act} {w w':World} {T':List (Nat×Nat)} {N' B:Nat}
theorem PU(off k:Nat):∀(vs:List Value) (i:Nat) (cs:Array Value),((vs.zipIdx i).foldl (fun cs (p:Value×Nat)=>cs.setIfInBounds (off+p.2) p.1) cs)[k]? =
  if off+i≤k∧k<off+i+vs.length∧k<cs.size then vs[k-(off+i)]? else cs[k]?
 |[],i,cs=>by simp;omega
 |v::vs,i,cs=>by
  rw[List.zipIdx_cons,List.foldl_cons,PU off k vs (i+1)];simp only[Array.size_setIfInBounds,tx,OV];by_cases h:off+(i+1)≤k∧k<off+(i+1)+vs.length∧k<cs.size
  ·rw[aK h,aK (by omega),show k-(off+i)=(k-(off+(i+1)))+1 from by omega,Hj]
  ·rw[av h]
   by_cases he:off+i=k
   ·subst he
    by_cases bI:off+i<cs.size
    ·simp[bI]
    ·simp[bI]
   ·rw[av he,av (by omega)]
theorem zW(k:Nat):∀(vs:List V) (off:Nat) (cs:List V),(jn cs off vs)[k]?=if off≤k∧k<off+vs.length∧k<cs.length then vs[k-off]? else cs[k]?
 |[],off,cs=>by simp[jn];omega
 |v::vs,off,cs=>by
  rw[jn,zW k vs (off+1)];simp only[pj,tx,kK];by_cases h:off+1≤k∧k<off+1+vs.length∧k<cs.length
  ·rw[aK h,aK (by omega),show k-off=(k-(off+1))+1 from by omega,Hj]
  ·rw[av h]
   by_cases he:off=k
   ·subst he
    by_cases bI:off<cs.length
    ·simp[bI]
    ·simp[bI]
   ·rw[av he,av (by omega)]
theorem Lm:∀(vs:List V) (off:Nat) (cs:List V),(jn cs off vs).length=cs.length
 |[],off,cs=>rfl
 |v::vs,off,cs=>by rw[jn,Lm vs];simp
theorem PV(off:Nat):∀(vs:List Value) (i:Nat) (cs:Array Value),((vs.zipIdx i).foldl (fun cs (p:Value×Nat)=>cs.setIfInBounds (off+p.2) p.1) cs).size=cs.size
 |[],i,cs=>rfl
 |v::vs,i,cs=>by rw[List.zipIdx_cons,List.foldl_cons,PV off vs];simp
theorem Xi(off:Nat)(vs cs:Array Value):vs.zipIdx.foldl (fun(cs:Array Value) (x:Value×Nat)=>match x with|(c,j)=>cs.setIfInBounds (off+j) c) cs =
  (vs.toList.zipIdx 0).foldl (fun cs (p:Value×Nat)=>cs.setIfInBounds (off+p.2) p.1) cs:=by
 rw[←Array.foldl_toList,Array.toList_zipIdx]
def Db(place:Nat→Option (Nat×Nat)):List (Nat×Operand)→List (Nat×Nat×bA)→Bool
 |[],[]=>true
 |(i,y)::ps,(off,n,x)::qs=>place i==some (off,n)&&bZ y x&&Db place ps qs
 |_,_=>false
theorem Xj(hR:R E g S a w){place:Nat→Option (Nat×Nat)}:∀{ps:List (Nat×Operand)} {qs:List (Nat×Nat×bA)},Db place ps qs=true→∀{cs ei:List V} {xs:Array Value},sN S qs cs=some ei →
  PW (S.cx g w) cs xs.toList→∃qK,Instr.fill place xs (ps.map fun(i,x)=>(i,a.eval x))=some qK∧PW (S.cx g w) ei qK.toList
 |[],[],_,cs,ei,xs,h,hp=>by simp only[sN,Option.some.injEq]at h;subst h;exact⟨xs,rfl,hp⟩
 |[],_::_,h,_,_,_,_,_=>by simp[Db]at h
 |_::_,[],h,_,_,_,_,_=>by simp[Db]at h
 |(i,y)::ps,(off,n,x)::qs,h,cs,ei,xs,hf,hp=>by
  simp only[Db,b8,eg]at h;obtain⟨⟨lj,ho⟩,bz⟩:=h;simp only[sN]at hf;split at hf
  ·rename_i v hv
   cases hc:(v.cells.length==n&&Nat.ble (off+n) cs.length&&v.cells.all V.cQ) with
   |false=>simp[hc]at hf
   |true =>
    simp only[hc,bM]at hf;simp only[b8,eg,iL]at hc;obtain⟨⟨hlen,hle⟩,jT⟩:=hc;have hle:=jk hle;obtain⟨hl,hx⟩:=EX (c9 hR ho hv) jT;have eH:(a.eval y).cells.size=n:=by simpa [hlen] using hl.symm
    have Dc:=hp.len;simp only[xS]at Dc;obtain⟨qK,h1,h2⟩:=Xj hR (ps:=ps) (xs:=((a.eval y).cells.toList.zipIdx 0).foldl (fun cs (p:Value×Nat)=>cs.setIfInBounds (off+p.2) p.1) xs) bz hf (by
     refine⟨by rw[Lm,Dc];exact(PV off _ _ _).symm,fun j u z hu hz=>?_⟩
     rw[zW]at hu;rw[OW,PU]at hz;simp only[xX,xS,eH,hlen,Dc]at hu hz;split at hu
     ·rename_i mA
      rw[aK mA]at hz;exact hx _ u z hu hz
     ·rename_i mA
      rw[av mA]at hz;exact hp.at_ j u z hu (by simpa using hz))
    refine⟨qK,?_,h2⟩;simp only[oH,Instr.fill,lj,eH,EG,ne_eq,not_true_eq_false,decide_false];rw[Xi];rw[av (by simp;omega)]
    exact h1
  ·cases hf
def placeOf(P:Program)(t:TypeId):Option (Nat→Option (Nat×Nat)) :=
 match P.underlying t with
 |some (.array _ e)=>(P.info? e).map fun ie i=>some (i*ie.size,ie.size)
 |some (.struct fields)=>(fields.toList.mapM (fun f=>(P.info? f.type).map fun i=>(f.offset,i.size))).map fun Xk i=>Xk.toArray[i]?
 |_=>none
theorem ai3{t:TypeId}{it:TypeInfo}{z:Value}{place:Nat→Option (Nat×Nat)}(hi:P.info? t=some it)(hz:it.zero=some z)(hp:placeOf P t=some place)(parts:List (Nat×Value)) :
  P.built t parts=Instr.fill place z.cells parts:=by
 unfold placeOf at hp;unfold Program.built;split at hp
 ·rename_i n e hu
  cases HS:P.info? e with
  |none=>simp[HS]at hp
  |some ie=>simp[HS]at hp;subst hp;simp[hi,hu,hz,HS]
 ·rename_i fields hu
  cases hm:fields.toList.mapM (fun f=>(P.info? f.type).map fun i=>(f.offset,i.size)) with
  |none=>simp[hm]at hp
  |some Xk=>simp[hm]at hp;subst hp;simp[hi,hu,hz,hm]
 ·cases hp
theorem ai4{o:Oper}{t:TypeId}{it:TypeInfo}{z:Value}{place:Nat→Option (Nat×Nat)}{ps:Array (Nat×Operand)}{zero:List V}{qs:List (Nat×Nat×bA)}{C:bD}(ho:o.op=.build t ps)
  (hi:P.info? t=some it) (hz:it.zero=some z) (lj:placeOf P t=some place) (hzero:vH z.cells.toList zero=true) (uJ:Db place ps.toList qs=true)
  (hR:R E g S a w) (hd:∀d,o.dst=some d→d<E.nt) (ah:VO.run C o.dst S (.build zero qs)=some S'):ct P E o S S' a w:=by
 simp only[VO.run]at ah;split at ah
 ·rename_i cs hf
  cases ah;obtain⟨hl,hx⟩:=EV (X:=S.cx g w) hzero;obtain⟨xs,h1,h2⟩:=Xj hR uJ (xs:=z.cells) hf ⟨hl,fun i v y hv hy=>(hx i v y hv hy).2.2⟩;refine ct.put hR hd (x:=.agg xs) ?_ (.agg cs xs (by simpa using h2.len) (fun i v y hv hy=>h2.at_ i v y hv (by simpa using hy)))
  have hb:=ai3 hi hz lj ((ps.map fun(i,x)=>(i,a.eval x)).toList);rw[OX,h1]at hb;have:=run_build (P:=P) w t (ps.map fun(i,x)=>(i,a.eval x)) xs (by rw[OX];exact hb)
  simp only[execOp,ho];simp only[Sem.run_bind,this,Result.andThen_ok,Sem.run_pure]
 ·cases ah
theorem R.PX(hR:R E g S a w){c:Array Value}{e:TypeId}(hw:w'.heap=w.heap.push (.cells c e (0,0)))(h1:w'.os=w.os)(h2:w'.tape=w.tape)(h3:w'.output=w.output)
  {n:Nat} {ys:List (List V)} {l:List Value} (hl:kD w.heap g.m n ys l) (hc:∀(j:Nat) (y:Value),l[j]?=some y→c[j]?=some y) {cap:Nat} (eK:ys.length≤cap) :
  ∃g',R E g' S a w'∧bf (S.cx g' w') (.slice none n ys) (.slice (some ⟨w.heap.size,0,none⟩) ys.length cap):=by
 let g':Gh:={ g with m:=df g.m w.heap.size (ys.length*n),ow:=df g.ow w.heap.size .none }
 have t:Touch E g S w g' S.bl S.aD.length w' w.heap.size none none:=HF hR hw h1 h2 h3 (fun b hb=>gC _ _ hb) (fun b hb=>gC _ _ hb)
  (fun i _=>rfl) (fun i _=>rfl) (fun i _=>rfl) (fun i _=>rfl) (fun i _=>rfl) (bY _) (fun i a b=>absurd a (by omega)) (fun i e=>by(have e:df g.ow w.heap.size .none w.heap.size=.aD i:=e);rw[dS]at e;cases e)
 have lR:=HH hw;refine⟨g',R.oQ t hR rfl rfl (fun i=>.inl (t.keeps hR (fun e=>by cases e) (fun e=>by cases e) (fun h=>absurd h (iC _)))) (fun s v hs=>.inl hs)
  (fun i cs ho=>.inl ⟨ho,(fun e=>by cases e),fun h=>absurd h (iC _)⟩) (fun i k b hi hb=>.inl ⟨(fun e=>by cases e),fun h=>absurd h (iC _)⟩)
  (fun i o ho=>.inl ⟨ho,fun h=>absurd h (iC _)⟩),?_⟩
 have hm:g'.m w.heap.size=ys.length*n:=dS _ _ _;refine .plain (C9 (m:=g'.m) (l:=l) (hl.mono t.le) (by show _<w'.heap.size;rw[hw];simp) eK (fun j y hj=>?_) (by omega) _) (fun i n' ql he k hk=>by cases he)
 show cellAt w'.heap _ _=_;rw[lP lR,kz];exact hc j y hj
def PY:Value→Option Nat→V→Bool
 |.int k n,none,.int k' n'=>decide (k=k')&&n==n'
 |.bool b,none,.bool c=>b==c
 |.string s,none,.str l=>s.data.toList==l
 |.slice none 0 0,some n,.slice none m []=>n==m
 |_,_,_=>false
def vM:List Value→Sh→List V→Bool
 |[],[],[]=>true
 |x::xs,h::sh,v::vs=>PY x h v&&vM xs sh vs
 |_,_,_=>false
theorem ai5{h:Array Obj}{m:Nat→Nat}{x:Value}{s:Option Nat}{v:V}(he:PY x s v=true):v.plain=true∧fF h m v x:=by
 unfold PY at he;split at he
 ·simp at he;obtain⟨rfl,rfl⟩:=he;exact⟨rfl,.int _ _⟩
 ·simp at he;subst he;exact⟨rfl,.bool _⟩
 ·simp at he;subst he;exact⟨rfl,.str _⟩
 ·exact⟨rfl,.nil _ _⟩
 ·cases he
theorem Xl{h:Array Obj}{m:Nat→Nat}:∀{xs:List Value} {sh:Sh} {vs:List V},vM xs sh vs=true→vs.length=sh.length∧xs.length=sh.length ∧
  ∀(i:Nat) (v:V),vs[i]?=some v→∃x,xs[i]?=some x∧v.plain=true∧fF h m v x
 |[],[],[],_=>by simp
 |x::xs,s::sh,v::vs,he=>by
  simp only[vM,b8]at he;obtain⟨p,q,r⟩:=Xl (h:=h) (m:=m) he.2;refine⟨by simp[p],by simp[q],fun i u hu=>?_⟩
  cases i with
  |zero=>simp at hu;subst hu;exact⟨x,by simp,ai5 he.1⟩
  |succ i=>obtain⟨y,hy,z⟩:=r i u (by simpa using hu);exact⟨y,by simpa using hy,z⟩
 |[],[],_::_,he=>by simp[vM]at he
 |[],_::_,_,he=>by simp[vM]at he
 |_::_,[],_,he=>by simp[vM]at he
 |_::_,_::_,[],he=>by simp[vM]at he
theorem Xm{h:Array Obj}{m:Nat→Nat}{sh:Sh}{zs:List Value}{zero:List V}(hz:vM zs sh zero=true)(n:Nat) :
  kD h m sh.length (List.replicate n zero) ((List.range (n*sh.length)).map fun k=>zs.getD (k % sh.length) default):=by
 obtain⟨hl,qL,hx⟩:=Xl (h:=h) (m:=m) hz;refine⟨by simp,fun i row hr=>?_,fun i row j v hr hj=>?_⟩
 ·rw[Pe]at hr
  split at hr<;>cases hr;exact hl
 ·rw[Pe]at hr
  split at hr
  ·rename_i hi
   cases hr;obtain⟨u,hu,p,q⟩:=hx j v hj;have rW:j<zs.length:=fa hu;have Ln:j<sh.length:=by omega
   refine⟨p,u,?_,q⟩;have:=PJ hi Ln;simp only[vp,List.getElem?_range this,nd,Option.some.injEq];rw[Pw,Nat.add_mul_mod_self_right,Nat.mod_eq_of_lt Ln];simp[List.getD,hu]
  ·cases hr
def Dd(len:Nat):List (Nat×Operand)→List (Nat×bA)→Bool
 |[],[]=>true
 |(i,y)::ps,(k,x)::qs=>i==k&&bZ y x&&Dd len ps qs
 |_,_=>false
theorem ai6{sh:Sh}{v:V}{r:List V}(h:nH sh v.cells=some r):∀u∈v.cells,u.cQ=true:=fun u hu=>by
 have:∀{sh:Sh} {vs us:List V},nH sh vs=some us→∀u∈vs,u.cQ=true:=by
  intro sh;induction sh with
  |nil=>intro vs us h u hu;cases vs<;>simp_all[nH]
  |cons s sh ih =>
   intro vs us h u hu;cases vs with
   |nil=>simp at hu
   |cons z zs =>
    simp only[nH]at h;split at h
    ·rename_i p q h1 h2
     rcases jQ.1 hu with e|e
     ·subst e
      unfold el at h1;split at h1<;>first|rfl|cases h1
     ·exact ih h2 u e
    ·cases h
 exact this h u hu
theorem Xn(hR:R E g S a w){sh:Sh}:∀{ps:List (Nat×Operand)} {qs:List (Nat×bA)} {len:Nat},Dd len ps qs=true→∀{rs zX:List (List V)} {xs:Array Value},vC S sh qs rs=some zX →
  kD w.heap g.m sh.length rs xs.toList→∃qK,Instr.fill (fun i=>some (i*sh.length,sh.length)) xs (ps.map fun(i,x)=>(i,a.eval x))=some qK∧kD w.heap g.m sh.length zX qK.toList∧zX.length=rs.length
 |[],[],_,_,rs,zX,xs,h,hp=>by simp only[vC,Option.some.injEq]at h;subst h;exact⟨xs,rfl,hp,rfl⟩
 |[],_::_,_,h,_,_,_,_,_=>by simp[Dd]at h
 |_::_,[],_,h,_,_,_,_,_=>by simp[Dd]at h
 |(i,y)::ps,(k,x)::qs,len,h,rs,zX,xs,hf,hp=>by
  simp only[Dd,b8,eg]at h;obtain⟨⟨rfl,ho⟩,bz⟩:=h;simp only[vC]at hf;split at hf
  ·rename_i v hv
   split at hf
   ·rename_i r hr
    cases bI:Nat.blt i rs.length with
    |false=>simp[bI]at hf
    |true =>
     simp only[bI,bM]at hf;have bI:i<rs.length:=jk bI;obtain⟨hl,hx⟩:=EX (c9 hR ho hv) (ai6 hr);obtain⟨e1,e2⟩:=HK hr;have eH:(a.eval y).cells.size=sh.length:=by simp at hl;omega
     have Dc:=hp.len;simp only[xS]at Dc;have fZ:i*sh.length+sh.length≤rs.length*sh.length:=by
      have:=rM sh.length bI;rw[oI]at this;exact this
     obtain⟨qK,h1,h2,h3⟩:=Xn hR (ps:=ps) (xs:=((a.eval y).cells.toList.zipIdx 0).foldl (fun cs (p:Value×Nat)=>cs.setIfInBounds (i*sh.length+p.2) p.1) xs) bz hf (by
      refine⟨?_,fun k row hk=>?_,fun k row j u hk hj=>?_⟩
      ·rw[pj,← Dc];exact PV _ _ _ _
      ·rw[kK]at hk
       split at hk
       ·first
        |(cases hk;exact e1)
        |(split at hk
          ·cases hk;exact e1
          ·cases hk)
       ·exact hp.row k row hk
      ·have Lo:k<rs.length:=by have:=fa hk;simpa using this
       rw[kK]at hk;simp only[OW,PU,xX,xS,eH,Dc];split at hk
       ·rename_i kE
        subst kE;have hk:r=row:=by simpa [bI] using hk
        subst hk;have rW:=fa hj;rw[e1]at rW;obtain⟨z,s,hz,mU⟩:=Lg hr j u hj;have sW:j<(a.eval y).cells.size:=by omega
        obtain⟨p,q⟩:=HJ mU (hx j z (a.eval y).cells[j] hz (by simp[sW]))
        refine⟨p,_,?_,q⟩;rw[aK (by omega),Px]
        simp[sW]
       ·rename_i kE
        obtain⟨p,z,hz,q⟩:=hp.cell k row j u hk hj;have rW:=fa hj;rw[hp.row k row hk]at rW;refine⟨p,z,?_,q⟩;rw[av]
        ·simpa using hz
        ·rintro⟨p1,p2,_⟩
         rcases cM i k with h|h
         ·have:=rM sh.length h
          rw[oI]at this;omega
         ·have h:k<i:=by omega
          have:=rM sh.length h;rw[oI]at this;omega)
     refine⟨qK,?_,h2,by rw[h3];simp⟩
     simp only[oH,Instr.fill,eH,EG,ne_eq,not_true_eq_false,decide_false];rw[Xi];rw[av (by simp;omega)]
     exact h1
   ·cases hf
  ·cases hf
theorem Xo(n m:Nat)(zs:Array Value)(hz:zs.size=m)(hm:0<m):((Array.range (n*m)).map fun i=>zs[i % zs.size]!).toList=(List.range (n*m)).map fun k=>zs.toList.getD (k % m) default:=by
 apply xU;intro j;by_cases hj:j<n*m
 ·have:=KW j hm
  have h2:j % m<zs.size:=by omega
  simp[hj,hz,List.getD];rw[getElem!_pos zs (j % m) h2];simp[h2]
 ·simp[hj]
theorem ai7{o:Oper}{t e:TypeId}{ie:TypeInfo}{z:Value}{tok:Option Nat}{sh:Sh}{zero:List V}{len:Nat}{ps:Array (Nat×Operand)}{qs:List (Nat×bA)}{C:bD}(ho:o.op=.buildSlice t len ps)
  (ht:P.underlying t=some (.slice e)) (hi:P.info? e=some ie) (hz:ie.zero=some z) (eH:ie.size=sh.length) (pE:z.cells.size=sh.length) (gX:0<sh.length) (hlen:0<len) (ai8:len*sh.length≤16777216)
  (wZ:vM z.cells.toList sh zero=true) (uJ:Dd len ps.toList qs=true) (hn:∀f,tok=some f→S.fb f)
  (hR:R E g S a w) (hd:∀d,o.dst=some d→d<E.nt) (ah:VO.run C o.dst S (.lit tok sh zero len qs)=some S'):ct P E o S S' a w:=by
 simp only[VO.run]at ah;split at ah
 ·rename_i rs hf
  have hzero:kD w.heap g.m sh.length (List.replicate len zero) ((Array.range (len*ie.size)).map fun i=>z.cells[i % z.cells.size]!).toList:=by
   rw[eH,Xo len sh.length z.cells pE gX];exact Xm wZ len
  obtain⟨xs,h1,h2,h3⟩:=Xn hR uJ (xs:=(Array.range (len*ie.size)).map fun i=>z.cells[i % z.cells.size]!) hf hzero;have h3:rs.length=len:=by simpa using h3
  have hbs:=run_buildSlice (P:=P) w t e len (ps.map fun(i,x)=>(i,a.eval x)) xs ie z ht hi hz (by rw[eH];omega) (by rw[eH];have:=PB hlen gX;omega) (by rw[OX,eH];rw[eH]at h1;exact h1)
  have fQ:(execOp a.eval o).run P w=.ok (.value (.slice (some ⟨w.heap.size,0,none⟩) len len)) (w.alloc (.cells xs e)):=by
   simp only[execOp,ho];simp only[Sem.run_bind,hbs,Result.andThen_ok,Sem.run_pure]
  have Lp:=h2.len;simp only[xS,h3]at Lp;split at ah
  ·rename_i f
   cases ah;obtain⟨g',r1,r2⟩:=hR.PO (w':=w.alloc (.cells xs e)) (f:=f) rfl rfl rfl rfl (n:=sh.length) (ys:=rs) (l:=xs.toList) (by omega) (.inl (hn f rfl)) h2 (fun j y hj=>by simpa using hj) (cap:=len) (by omega) (by omega)
   rw[h3]at r1 r2;exact .value fQ (r1.put hd r2)
  ·cases ah
   obtain⟨g',r1,r2⟩:=hR.PX (w':=w.alloc (.cells xs e)) rfl rfl rfl rfl (n:=sh.length) (ys:=rs) (l:=xs.toList) h2 (fun j y hj=>by simpa using hj) (cap:=len) (by omega)
   rw[h3]at r2;exact .value fQ (r1.put hd r2)
 ·cases ah
theorem wrap_small{n:Int}(h0:0≤n)(h1:n≤lim):IntKind.i64.wrap n=n:=by
 unfold lim at h1;exact IntWalk.i64_in _ (by omega)
theorem Xp{t e:TypeId}{ie:TypeInfo}{z:Value}{k:IntKind}{n:Int}(ht:P.underlying t=some (.slice e))(hi:P.info? e=some ie)(hz:ie.zero=some z)(gX:0<ie.size)(tI:ie.bytes≤32768)(h0:0≤n)(h1:n≤lim) :
  (Instr.makeSlice t (.int k n) (.int k n)).run P w=.ok (.slice (some ⟨w.heap.size,0,none⟩) n.toNat n.toNat) (w.alloc (.cells ((Array.range (n.toNat*ie.size)).map fun i=>z.cells[i % z.cells.size]!) e)):=by
 have hb:(ie.bytes:Int)*n≤281474976710656:=by
  unfold lim at h1;have a1:(ie.bytes:Int)≤32768:=by omega
  have:=EI a1 h1 h0 (by decide)
  simp at this;omega
 have hw:=wrap_small h0 h1;by_cases hn:n.toNat*ie.size=0
 ·have yr:n.toNat=0:=by
   rcases KY.1 hn with h|h
   ·exact h
   ·omega
  have:n=0:=by omega
  subst this;simp[Instr.makeSlice,jC ht,asInt,asIntOf,typeInfo,hi,hw,sizeOf,newRow,show Array.range 0 = #[] from rfl]
 ·have h3:¬ (n<0):=by omega
  have h4:¬ (281474976710656<(ie.bytes:Int)*n):=by omega
  simp[Instr.makeSlice,jC ht,asInt,asIntOf,typeInfo,hi,hw,sizeOf,newRow,h3,h4,hn,zeroValue,hz]
theorem Xq(zero:List V):∀(n k:Nat),(List.replicate n zero).flatten[k]?=if k<n*zero.length then zero[k % zero.length]? else none
 |0,k=>by simp
 |n+1,k=>by
  have e:(n+1)*zero.length=n*zero.length+zero.length:=oI _ _;rw[Bh,uw,qB,Xq zero n,e];generalize n*zero.length=q;by_cases h:k<zero.length
  ·rw[aK h,aK (by omega),Nat.mod_eq_of_lt h]
  ·rw[av h]
   by_cases h2:k<q+zero.length
   ·rw[aK h2,aK (by omega),Nat.mod_eq_sub_mod (a:=k) (by omega)]
   ·rw[av h2,av (by omega)]
theorem aja{o:Oper}{t e:TypeId}{ie:TypeInfo}{z:Value}{id:Nat}{zero:List V}{p p':Operand}{x:bA}{C:bD}(ho:o.op=.makeSlice t p p')
  (ht:P.underlying t=some (.slice e)) (hi:P.info? e=some ie) (hz:ie.zero=some z) (eH:ie.size=zero.length) (gX:0<ie.size) (tI:ie.bytes≤32768)
  (BB:vH z.cells.toList zero=true) (hp:bZ p x=true) (zY:bZ p' x=true) (hn:S.fb id)
  (hR:R E g S a w) (hd:∀d,o.dst=some d→d<E.nt) (ah:VO.run C o.dst S (.uB id zero x)=some S'):ct P E o S S' a w:=by
 simp only[VO.run]at ah;split at ah
 ·rename_i k n hx
  cases hc:(decide (0≤n)&&decide (n≤(lim:Int))) with
  |false=>simp[hc]at ah
  |true =>
   simp only[hc,bM]at ah;simp only[b8,kA]at hc;cases ah;have e1:=nh (c9 hR hp hx);have qM:=nh (c9 hR zY hx);obtain⟨hl,hv⟩:=EV (X:=S.cx g w) BB;have pE:z.cells.size=ie.size:=by rw[eH];simpa using hl.symm
   have hm:=Xp (P:=P) (w:=w) (k:=k) ht hi hz gX tI hc.1 hc.2;obtain⟨g',r1,r2,r3⟩:=hR.newObj (cpn:=n.toNat*zero.length) (hcpn:=by simp[eH]) (w':=w.alloc (.cells ((Array.range (n.toNat*ie.size)).map fun i=>z.cells[i % z.cells.size]!) e)) hn rfl rfl rfl rfl (cs:=(List.replicate n.toNat zero).flatten) (fun j v hj=>by
    rw[Xq]at hj;split at hj
    ·rename_i bI
     have iX:j % zero.length<z.cells.size:=by rw[pE,eH];exact KW _ (by omega)
     obtain⟨q1,q2,q3⟩:=hv (j % zero.length) v z.cells[j % zero.length] hj (by simp[iX])
     refine⟨q1,q2 _,z.cells[j % zero.length],?_,q3⟩;simp[pE,eH,bI];rw[getElem!_pos z.cells (j % zero.length) iX]
    ·cases hj)
   refine ct.value (x:=.slice (some ⟨w.heap.size,0,none⟩) n.toNat n.toNat) (g':=g') (w':=w.alloc (.cells ((Array.range (n.toNat*ie.size)).map fun i=>z.cells[i % z.cells.size]!) e)) ?_ (r1.put hd ?_)
   ·simp only[execOp,ho,e1,qM]
    simp only[Sem.run_bind,hm,Result.andThen_ok,Sem.run_pure]
   ·rw[←r2];exact .bR id _ _ _ (bY _) r3.symm
 ·cases ah
theorem ajb{o:Oper}{t e:TypeId}{ie:TypeInfo}{z:Value}{sh:Sh}{zero:List V}{len:Nat}{p p':Operand}{C:bD}(ho:o.op=.makeSlice t p p')
  (ht:P.underlying t=some (.slice e)) (hi:P.info? e=some ie) (hz:ie.zero=some z) (eH:ie.size=sh.length) (pE:z.cells.size=sh.length) (tI:ie.bytes≤32768) (gX:0<sh.length) (ai8:len≤65536)
  (wZ:vM z.cells.toList sh zero=true) (hp:bZ p (.c (.int .i64 len))=true) (zY:bZ p' (.c (.int .i64 len))=true)
  (hR:R E g S a w) (hd:∀d,o.dst=some d→d<E.nt) (ah:VO.run C o.dst S (.lit none sh zero len [])=some S'):ct P E o S S' a w:=by
 simp only[VO.run,vC]at ah;cases ah;have hzero:kD w.heap g.m sh.length (List.replicate len zero) ((Array.range (len*ie.size)).map fun i=>z.cells[i % z.cells.size]!).toList:=by
  rw[eH,Xo len sh.length z.cells pE gX];exact Xm wZ len
 have e1:=nh (c9 hR hp rfl);have qM:=nh (c9 hR zY rfl);have hm:=Xp (P:=P) (w:=w) (k:=.i64) (n:=(len:Int)) ht hi hz (by omega) tI (by omega) (by unfold lim;omega)
 simp only[O8]at hm;obtain⟨g',r1,r2⟩:=hR.PX (w':=w.alloc (.cells ((Array.range (len*ie.size)).map fun i=>z.cells[i % z.cells.size]!) e)) rfl rfl rfl rfl (n:=sh.length) (ys:=List.replicate len zero) (l:=((Array.range (len*ie.size)).map fun i=>z.cells[i % z.cells.size]!).toList) hzero (fun j y hj=>by rw[←OW];exact hj) (cap:=len) (by simp)
 rw[Hm]at r2;refine ct.value (x:=.slice (some ⟨w.heap.size,0,none⟩) len len) (g':=g') (w':=w.alloc (.cells ((Array.range (len*ie.size)).map fun i=>z.cells[i % z.cells.size]!) e)) ?_ (r1.put hd r2);simp only[execOp,ho,e1,qM];simp only[Sem.run_bind,hm,Result.andThen_ok,Sem.run_pure]
theorem PZ{t:TypeId}{n:Nat}(hs:fw P t=some n){b o:Nat}{v:Value}(hv:v.cells.size=n){c:Array Value}{e:TypeId}(hb:w.heap[b]?=some (.cells c e (0,0)))(fZ:o+n≤c.size)
  (h1:∀y∈v.cells.toList,y.oneCell'=true):(storeVar t ⟨b,o,none⟩ v).run P w=.ok () (w.setRow b (c.toList.take o++v.cells.toList++c.toList.drop (o+n)).toArray):=by
 have fm:=run_storeCells_at P b o e v.cells.toList 0 c w hb (by simp;omega) h1
 simp only[xX,xS,hv]at fm;simp[storeVar,pC hs,hv,fm]
theorem BC{c:Array Value}{l:List Value}{o:Nat}(fZ:o+l.length≤c.size)(k:Nat):(c.toList.take o++l++c.toList.drop (o+l.length)).toArray[k]?=if o≤k∧k<o+l.length then l[k-o]? else c[k]?:=by
 simp only[EJ,wK];by_cases h:k<o
 ·rw[ux (by simp;omega),av (by omega)]
  simp[h]
 ·rw[wL (by simp;omega)]
  have e:(c.toList.take o).length=o:=by simp;omega
  rw[e];by_cases h2:k-o<l.length
  ·rw[ux h2,aK (by omega)]
  ·rw[wL (by omega),av (by omega),oF]
   simp;congr 1;omega
theorem E1{c:Array Value}{l:List Value}{o:Nat}(fZ:o+l.length≤c.size):(c.toList.take o++l++c.toList.drop (o+l.length)).toArray.size=c.size:=by
 simp;omega
theorem HT(w:World)(b i:Nat)(c:Array Value)(h:i≠b):(w.setRow b c).heap[i]?=w.heap[i]?:=by
 simp only[World.setRow,EE];rw[av (by omega)]
theorem E2{b:Nat}{c':Array Value}(hm:g.m b=0)(zZ:E.w0.heap.size≤b∨∃i,i<E.N0∧E.g0.ow b=.aD i)(HU:∀p q,g.ow b≠.cell p q)(hR:R E g S a w) :
  Touch E g S w g S.bl S.aD.length (w.setRow b c') b none none where
 os:=rfl
 tape:=rfl
 output:=rfl
 size:=by simp
 heap:=fun i hi _=>HT w b i c' hi
 m:=fun _ _=>rfl
 ow:=fun _ _=>rfl
 κ:=fun _ _=>rfl
 cp:=fun _ _=>rfl
 τ:=fun _ _=>rfl
 T:=fun _ _=>rfl
 γ:=fun _ _=>rfl
 eW:=bY _
 γnew:=fun i a b=>absurd a (by omega)
 fresh:=zZ.imp (fun z=>z) .inl
 iW:=fun p q _ e=>absurd e (HU p q)
 lv:=fun i e=>hR.EU e (bY _)
 kN:=fun o y ho _=>absurd ho (by omega)
 qH:=fun _=>bY _
theorem ajc{o:Oper}{t:TypeId}{sh:Sh}{p q:Operand}{x y:bA}{id off:Nat}{cs:List V}{v:V}(ho:o.op=.store t p q)(w8:o.dst=none)(hs:fw P t=some sh.length)(hp:bZ p x=true)(hq:bZ q y=true)
  (hR:R E g S a w) (hx:S.ev x=some (.bj id off)) (hy:S.ev y=some v) (fM:look id S.aZ=some cs) (hl:v.cells.length=sh.length) (hle:off+sh.length≤cs.length) (jT:∀u∈v.cells,u.cQ=true) (gX:0<sh.length) :
  ct P E o S { S with aZ:=(id,jn cs off v.cells)::S.aZ } a w:=by
 rcases hR.aZ id cs fM with⟨h0,w5⟩ | ⟨cB,gN,hm,c,e,hh,fY,hj⟩
 ·subst h0;simp only[uy]at hle;omega
 obtain⟨lj,E3⟩:=EX (c9 hR hq hy) jT;have eH:(a.eval q).cells.size=sh.length:=by simp at lj;omega
 have hc:cs.length≤c.size:=by
  rcases cM c.size cs.length with h|h
  ·obtain⟨_,y,hy,_⟩:=hj c.size cs[c.size] (g8 h)
   simp at hy
  ·exact h
 have h1:∀y∈(a.eval q).cells.toList,y.oneCell'=true:=fun y hy=>by
  obtain⟨k,hk⟩:=sH.1 hy;have Lo:=fa hk;have r0:k<v.cells.length:=by omega
  exact PH (E3 k v.cells[k] y (g8 r0) hk) (jT _ (Pg r0))
 have fZ:off+(a.eval q).cells.toList.length≤c.size:=by simp;omega
 have ah:=PZ (P:=P) (w:=w) hs (v:=a.eval q) eH hh (o:=off) (by omega) h1
 have hlen:(a.eval q).cells.toList.length=sh.length:=by simpa using eH
 rw[←hlen]at ah
 let c':Array Value:=(c.toList.take off++(a.eval q).cells.toList++c.toList.drop (off+(a.eval q).cells.toList.length)).toArray
 have lR:(w.setRow (g.κ id) c').heap[g.κ id]?=some (.cells c' e (0,0)):=setRow_heap w _ c c' e _ hh;have tt:=E2 (c':=c') (S:=S) (w:=w) hm (.inl gN) (fun _ _ e=>by rw[cB]at e;cases e) hR
 have hk:∀i,jB (S.cx g w) ⟨(w.setRow (g.κ id) c').heap,g,S.aD.length,S.bl⟩ i:=fun i=>tt.keeps hR (fun e=>by cases e) (fun e=>by cases e) (fun _ e=>by rw[cB]at e;cases e)
 refine ct.skip (g':=g) (w':=w.setRow (g.κ id) c') ?_ w8 (R.oQ tt hR rfl rfl (fun i=>.inl (hk i)) (fun s v hs=>.inl hs) (fun i ei hi=>?_) (fun f k b hf hb=>.inl ⟨(fun e=>by cases e),fun _ e=>by rw[cB]at e;cases e⟩)
  (fun i o hi=>.inl ⟨hi,fun _=>⟨fun e=>(by rw[cB]at e;cases e),fun _ e=>(by rw[cB]at e;cases e)⟩⟩))
 ·simp only[execOp,ho,Bu (c9 hR hp hx)]
  have C6:(storeVar t ⟨(S.cx g w).g.κ id,off,none⟩ (a.eval q)).run P w=.ok () (w.setRow (g.κ id) c'):=ah;simp[Instr.storeAt,Instr.sureAddr,C6]
 ·rw[dL]at hi
  by_cases ke:id=i
  ·subst ke
   rw[aK rfl]at hi;cases hi;refine .inr ⟨cB,gN,hm,c',e,lR,(by rw[E1 (by omega)];exact fY),fun j u hu=>?_⟩
   rw[zW]at hu;show _∧∃y,c'[j]?=some y∧_;rw[show c'[j]?=_ from BC fZ j];split at hu
   ·rename_i mA
    rw[aK (by omega)]
    have r7:=fa hu;have rW:j-off<(a.eval q).cells.toList.length:=by omega
    exact⟨jT u (g9 hu),_,g8 rW,(E3 (j-off) u _ hu (g8 rW)).mono tt.le (fun i=>.inl (hk i))⟩
   ·rename_i mA
    have BD:=fa hu;rw[av (by omega)]
    obtain⟨q1,z,q2,q3⟩:=hj j u hu;exact⟨q1,z,q2,q3.mono tt.le (fun i=>.inl (hk i))⟩
  ·rw[av ke]at hi
   exact .inl ⟨hi,(fun e=>by cases e),fun _ e=>ke (by rw[cB]at e;cases e;rfl)⟩
theorem E4{X:Cx}{sh:Option Nat}{v u:V}{y:Value}(h:qD sh v=some u)(hr:bf X v y):u.cQ=true∧(∀d,u.cA d=false)∧bf ⟨X.h,X.g,X.N,[]⟩ u y∧v.cQ=true:=by
 have wZ:∀{v u},el sh v=some u→bf X v y→u.cQ=true∧(∀d,u.cA d=false)∧bf ⟨X.h,X.g,X.N,[]⟩ u y∧v.cQ=true:=fun {v u} h hr=>by
  obtain⟨p,q⟩:=HJ h hr;refine⟨by cases u<;>simp_all[V.plain,V.cQ],fun d=>?_,.plain q (uI p),?_⟩
  ·cases u<;>simp_all[V.plain,V.cA,V.dP,V.cI]
   rename_i tok _ _;cases tok<;>simp_all[V.cI]
  ·unfold el at h
   split at h<;>first|rfl|cases h
 unfold qD at h;split at h
 ·cases h;obtain⟨e,hi⟩:=Bw hr;rw[e];exact⟨rfl,fun _=>rfl,.bH _ _ hi,rfl⟩
 ·cases h;cases hr with
  |plain h _=>cases h
  |c6 _ _ _ _ h hl=>exact⟨rfl,fun _=>rfl,.c6 _ _ _ _ h hl,rfl⟩
  |uD _ _ h hz=>exact⟨rfl,fun _=>rfl,.uD _ _ h hz,rfl⟩
 ·cases h;cases hr with
  |plain h _=>cases h
  |gK=>exact⟨rfl,fun _=>rfl,.gK,rfl⟩
 ·cases h;cases hr with
  |plain h _=>cases h
  |fn _ _ xs hl hx=>exact⟨rfl,fun _=>rfl,.fn _ _ xs hl hx,rfl⟩
 ·cases h;cases hr with
  |plain h _=>cases h
  |gL=>exact⟨rfl,fun _=>rfl,.gL,rfl⟩
 ·cases h;cases hr with
  |plain h _=>cases h
  |map _ hi=>exact⟨rfl,fun _=>rfl,.map _ hi,rfl⟩
 ·cases h;cases hr with
  |plain h _=>cases h
  |gM=>exact⟨rfl,fun _=>rfl,.gM,rfl⟩
 ·exact wZ h hr
theorem P2:∀{sh:Sh} {vs us:List V},uC sh vs=some us→us.length=sh.length∧vs.length=sh.length
 |[],[],us,h=>by simp[uC]at h;subst h;simp
 |[],_::_,_,h=>by simp[uC]at h
 |_::_,[],_,h=>by simp[uC]at h
 |s::sh,v::vs,us,h=>by
  simp only[uC]at h;split at h
  ·rename_i u l8 h1 h2
   cases h;obtain⟨a,b⟩:=P2 h2;simp[a,b]
  ·cases h
theorem P3:∀{sh:Sh} {vs us:List V},uC sh vs=some us→∀(j:Nat) (u:V),us[j]?=some u→∃v s,vs[j]?=some v∧qD s v=some u
 |[],[],us,h,j,u,hu=>by simp[uC]at h;subst h;simp at hu
 |[],_::_,_,h,_,_,_=>by simp[uC]at h
 |_::_,[],_,h,_,_,_=>by simp[uC]at h
 |s::sh,v::vs,us,h,j,u,hu=>by
  simp only[uC]at h;split at h
  ·rename_i u' l8 h1 h2
   cases h;cases j with
   |zero=>simp at hu;subst hu;exact⟨v,s,by simp,h1⟩
   |succ j=>obtain⟨z,t,p,q⟩:=P3 h2 j u (by simpa using hu);exact⟨z,t,by simpa using p,q⟩
  ·cases h
theorem ajd{s:Option Nat}{v u:V}(h:qD s v=some u):v.cQ=true:=by
 unfold qD at h;split at h
 all_goals first|rfl|skip
 unfold el at h;split at h<;>first|rfl|cases h
theorem Xr{h:Array Obj}{m:Nat→Nat}{t t':Option Nat}{n:Nat}{es:List (List V)}{x:Value}(hr:fF h m (.slice t n es) x):fF h m (.slice t' n es) x:=by
 cases hr with
 |nil=>exact .nil _ _
 |empty _ _ a cap=>exact .empty _ _ a cap
 |slice _ _ _ b off cap ys hb eK jc hc hv hp hm=>exact .slice t' n es b off cap ys hb eK jc hc hv hp hm
def BE:Value→Option Nat
 |.slice (some a) (_+1) _=>some a.block
 |_=>none
theorem HV{a:Addr}{n c:Nat}(h:0<n):BE (.slice (some a) n c)=some a.block:=by
 cases n with
 |zero=>omega
 |succ n=>rfl
theorem P4{x:Value}(h:mr x):BE x=none:=by
 rcases h with rfl | ⟨a,rfl⟩<;>rfl
theorem E5{X:Cx}{sh:Option Nat}{v u:V}{y:Value}(h:CY sh v=some u)(hr:bf X v y) :
  u.cQ=true∧(∀d,u.cA d=false)∧bf ⟨X.h,X.g,X.N,[]⟩ u y∧v.cQ=true∧∀n es,u=.fE n es→es=[]∧mr y:=by
 have hg:∀{v u},qD sh v=some u→bf X v y→u.cQ=true∧(∀d,u.cA d=false)∧bf ⟨X.h,X.g,X.N,[]⟩ u y∧v.cQ=true∧∀n es,u=.fE n es→es=[]∧mr y:=fun {v u} h hr=>by
  obtain⟨h1,h2,h3,h4⟩:=E4 h hr;refine⟨h1,h2,h3,h4,fun n es e=>?_⟩;subst e;exfalso;unfold qD at h;split at h
  all_goals first|(cases h;done)|skip
  unfold el at h;split at h
  all_goals first|(cases h;done)|skip
  split at h<;>cases h
 unfold CY at h;split at h
 ·split at h
  ·cases h
   have e:=pB hr;subst e;exact⟨rfl,fun _=>rfl,.fE (.nil _ _),rfl,fun n es e=>by cases e;exact⟨rfl,.inl rfl⟩⟩
  ·exact hg h hr
 ·cases h
  have hz:=uH hr;exact⟨rfl,fun _=>rfl,.fE (by rcases hz with rfl | ⟨a,rfl⟩<;>first|exact .nil _ _|exact .empty _ _ a 0),rfl,fun n es e=>by cases e;exact⟨rfl,hz⟩⟩
 ·exact hg h hr
theorem HW:∀{sh:Sh} {vs us:List V},nf sh vs=some us→us.length=sh.length∧vs.length=sh.length
 |[],[],us,h=>by simp[nf]at h;subst h;simp
 |[],_::_,_,h=>by simp[nf]at h
 |_::_,[],_,h=>by simp[nf]at h
 |s::sh,v::vs,us,h=>by
  simp only[nf]at h;split at h
  ·rename_i u l8 h1 h2
   cases h;obtain⟨a,b⟩:=HW h2;simp[a,b]
  ·cases h
theorem BF:∀{sh:Sh} {vs us:List V},nf sh vs=some us→∀(j:Nat) (u:V),us[j]?=some u→∃v s,vs[j]?=some v∧CY s v=some u
 |[],[],us,h,j,u,hu=>by simp[nf]at h;subst h;simp at hu
 |[],_::_,_,h,_,_,_=>by simp[nf]at h
 |_::_,[],_,h,_,_,_=>by simp[nf]at h
 |s::sh,v::vs,us,h,j,u,hu=>by
  simp only[nf]at h;split at h
  ·rename_i u' l8 h1 h2
   cases h;cases j with
   |zero=>simp at hu;subst hu;exact⟨v,s,by simp,h1⟩
   |succ j=>obtain⟨z,t,p,q⟩:=BF h2 j u (by simpa using hu);exact⟨z,t,by simpa using p,q⟩
  ·cases h
theorem aje{s:Option Nat}{v u:V}(h:CY s v=some u):v.cQ=true:=by
 unfold CY at h;split at h
 ·rfl
 ·rfl
 ·exact ajd h
theorem Xs{sh:Sh}{vs us:List V}(h:nf sh vs=some us):∀v∈vs,v.cQ=true:=fun v hv=>by
 obtain⟨j,hj⟩:=sH.1 hv;obtain⟨e1,e2⟩:=HW h;have:=fa hj;obtain⟨z,s,hz,hg⟩:=BF h j us[j] (g8 (by omega))
 rw[hj]at hz;cases hz;exact aje hg
theorem P5{h:Array Obj}{g:Gh}{b j n:Nat}{x:Value}(hz:mr x):End h g b j n 0 x:=.inl ⟨rfl,hz⟩
theorem E6(hR:R E g S a w){i:Nat}{o:aP}(ho:S.aD[i]?=some o)(cq:o≠.cells []):g.γ i<w.heap.size:=by
 obtain⟨_,h2⟩:=(hR.aD.obj i o ho).resolve_left cq;have key:∃ob,w.heap[g.γ i]?=some ob:=by
  cases o with
  |cells cs=>obtain⟨_,c,e,h4,_⟩:=h2;exact⟨_,h4⟩
  |map es=>obtain⟨_,c,e,h4,_⟩:=h2;exact⟨_,h4⟩
 obtain⟨ob,h4⟩:=key;rcases cM (g.γ i) w.heap.size with h|h
 ·exact h
 ·simp[nb h]at h4
theorem R.HX(hR:R E g S a w){b i:Nat}(cB:g.ow b=.aD i):E.w0.heap.size≤b∨∃k,k<E.N0∧E.g0.ow b=.aD k:=by
 rcases cM b E.w0.heap.size with h|h
 ·obtain⟨h1,h2⟩:=hR.same.lv b i cB h
  exact .inr ⟨i,h2,h1⟩
 ·exact .inl h
theorem Xt{cs:List V}{k:Nat}{u:V}(h:cs[k]?=some u):aP.cells cs≠.cells []:=fun e=>by cases e;simp at h
theorem ajf{o:Oper}{t:TypeId}{sh:Sh}{p q:Operand}{x y:bA}{i off:Nat}{cs vs:List V}{v:V}(ho:o.op=.store t p q)(w8:o.dst=none)(hs:fw P t=some sh.length)(hp:bZ p x=true)(hq:bZ q y=true)
  (hR:R E g S a w) (hx:S.ev x=some (.bH i off)) (hy:S.ev y=some v) (fM:S.aD[i]?=some (.cells cs)) (hg:nf sh v.cells=some vs) (hle:off+vs.length≤cs.length) (cq:cs≠[]) :
  ct P E o S { S with aD:=S.aD.set i (.cells (jn cs off vs)) } a w:=by
 obtain⟨cB,hm,c,e,hh,dJ,hj⟩:=(hR.aD.obj i _ fM).resolve_left (fun e=>cq (by cases e;rfl))
 have hi:=fa fM;obtain⟨e1,e2⟩:=HW hg;have jT:=Xs hg;obtain⟨lj,E3⟩:=EX (c9 hR hq hy) jT;have eH:(a.eval q).cells.size=sh.length:=by simp at lj;omega
 have h1:∀y∈(a.eval q).cells.toList,y.oneCell'=true:=fun y hy=>by
  obtain⟨k,hk⟩:=sH.1 hy;have Lo:=fa hk;have r0:k<v.cells.length:=by omega
  exact PH (E3 k v.cells[k] y (g8 r0) hk) (jT _ (Pg r0))
 have hlen:(a.eval q).cells.toList.length=sh.length:=by simpa using eH
 have fZ:off+(a.eval q).cells.toList.length≤c.size:=by omega
 have ah:=PZ (P:=P) (w:=w) hs (v:=a.eval q) eH hh (o:=off) (by omega) h1
 rw[←hlen]at ah
 let c':Array Value:=(c.toList.take off++(a.eval q).cells.toList++c.toList.drop (off+(a.eval q).cells.toList.length)).toArray
 have lR:(w.setRow (g.γ i) c').heap[g.γ i]?=some (.cells c' e (0,0)):=setRow_heap w _ c c' e _ hh;have tt:=E2 (c':=c') (S:=S) (w:=w) hm (hR.HX cB) (fun _ _ e=>by rw[cB]at e;cases e) hR
 have hk:∀k,jB (S.cx g w) ⟨(w.setRow (g.γ i) c').heap,g,S.aD.length,S.bl⟩ k:=fun k=>tt.keeps hR (fun e=>by cases e) (fun e=>by cases e) (fun _ e=>by rw[cB]at e;cases e)
 have oa:Le ⟨w.heap,g,S.aD.length,[]⟩ ⟨(w.setRow (g.γ i) c').heap,g,S.aD.length,[]⟩:=⟨tt.le.size,tt.le.cells,tt.le.m,tt.le.eW,tt.le.γ⟩;refine ct.skip (g':=g) (w':=w.setRow (g.γ i) c') ?_ w8 (R.oQ tt hR rfl (by simp) (fun i=>.inl (hk i)) (fun s v hs=>.inl hs) (fun id ei hi=>.inl ⟨hi,(fun e=>by cases e),fun _ e=>by rw[cB]at e;cases e⟩)
  (fun f k b hf hb=>.inl ⟨(fun e=>by cases e),fun _ e=>by rw[cB]at e;cases e⟩) (fun k o fU=>?_))
 ·obtain⟨ep,_⟩:=Bw (c9 hR hp hx)
  have C6:(storeVar t ⟨(S.cx g w).g.γ i,off,none⟩ (a.eval q)).run P w=.ok () (w.setRow (g.γ i) c'):=ah;simp only[execOp,ho,ep];simp[Instr.storeAt,Instr.sureAddr,C6]
 ·simp only[kK]at fU
  by_cases kE:i=k
  ·subst kE
   simp[hi]at fU;subst fU;refine .inr ⟨cB,⟨hm,c',e,lR,by rw[Lm];exact kL dJ (vq (E1 fZ).symm),fun j u z hu hz=>?_⟩,fun j n es z hu hz=>?_⟩
   ·rw[zW]at hu
    rw[show c'[j]?=_ from BC fZ j]at hz;split at hu
    ·rename_i mA
     rw[aK (by omega)]at hz
     obtain⟨u0,s,sX,qN⟩:=BF hg _ u hu;obtain⟨q1,q2,q3,_⟩:=E5 qN (E3 (j-off) u0 z sX hz);exact⟨q1,q2,q3.mono oa (fun d=>.inr (q2 d))⟩
    ·rename_i mA
     have BD:=fa hu;rw[av (by omega)]at hz
     obtain⟨q1,q2,q3⟩:=hj j u z hu hz;exact⟨q1,q2,q3.mono oa (fun d=>.inr (q2 d))⟩
   ·rw[zW]at hu
    rw[lP lR,show c'[j]?=_ from BC fZ j]at hz;split at hu
    ·rename_i mA
     rw[aK (by omega)]at hz
     obtain⟨u0,s,sX,qN⟩:=BF hg _ _ hu;obtain⟨_,_,_,_,q5⟩:=E5 qN (E3 (j-off) u0 z sX hz);obtain⟨rfl,hz⟩:=q5 n es rfl;exact P5 hz
    ·rename_i mA
     have BD:=fa hu;rw[av (by omega)]at hz
     rcases hR.aD.own i _ fM j n es z hu (by rw[lP hh];exact hz) with h | ⟨q,cap,c2,e',q1,q2,q3,q4,q5,q6⟩
     ·exact .inl h
     ·have cq:q≠g.γ i:=fun e=>by rw[e,cB]at q2;cases q2
      exact .inr ⟨q,cap,c2,e',q1,q2,q3,(HT w _ q c' cq).trans q4,q5,q6⟩
  ·rw[av kE]at fU
   exact .inl ⟨fU,fun _=>⟨fun e=>kE (by rw[cB]at e;cases e;rfl),fun _ e=>(by rw[cB]at e;cases e)⟩⟩
theorem ajg{o:Oper}{t:TypeId}{root:j8}{sh:Sh}{p q:Operand}{x y:bA}{C:bD}(ho:o.op=.store t p q)(w8:o.dst=none)(hs:fw P t=some sh.length)(hp:bZ p x=true)(hq:bZ q y=true)
  (hR:R E g S a w) (ah:VO.run C o.dst S (.store root sh x y)=some S'):ct P E o S S' a w:=by
 simp only[VO.run]at ah;cases fZ:S.fits root x with
 |false=>simp[fZ]at ah
 |true =>
  simp only[fZ,bM]at ah;split at ah
  ·rename_i id off v hx hy
   split at ah
   ·rename_i cs fM
    cases hc:(v.cells.length==sh.length&&Nat.ble (off+sh.length) cs.length&&v.cells.all V.cQ&&Nat.blt 0 sh.length) with
    |false=>simp[hc]at ah
    |true =>
     simp only[hc,bM]at ah;simp only[b8,eg,iL]at hc;cases ah;exact ajc ho w8 hs hp hq hR hx hy fM hc.1.1.1 (jk hc.1.1.2) hc.1.2 (by have:=hc.2;simp[Nat.blt]at this;omega)
   ·cases ah
  ·rename_i i off v hx hy
   split at ah
   ·rename_i cs fM
    split at ah
    ·rename_i vs hg
     cases hc:(Nat.ble (off+vs.length) cs.length&&Nat.blt 0 vs.length) with
     |false=>simp[hc]at ah
     |true =>
      simp only[hc,bM]at ah;cases ah;simp only[b8]at hc;have hle:=jk hc.1;exact ajf ho w8 hs hp hq hR hx hy fM hg hle (fun e=>by have h2:=hc.2;subst e;simp only[Nat.blt,Nat.ble_eq,uy]at hle h2;omega)
    ·cases ah
   ·cases ah
  ·cases ah
theorem ajh{o:Oper}{t:TypeId}{sh:Sh}{p:Operand}{x:bA}{C:bD}(ho:o.op=.box t p)(hp:bZ p x=true)
  (hR:R E g S a w) (hd:∀d,o.dst=some d→d<E.nt) (ah:VO.run C o.dst S (.vr sh x)=some S'):ct P E o S S' a w:=by
 simp only[VO.run]at ah;split at ah
 ·rename_i v hv
  split at ah
  ·rename_i cs hg
   cases ah;obtain⟨e1,e2⟩:=HW hg;obtain⟨hl,hx⟩:=EX (c9 hR hp hv) (Xs hg)
   let c:Array Value:=(a.eval p).cells
   let g':Gh:={ g with m:=df g.m w.heap.size 0,γ:=df g.γ S.aD.length w.heap.size,ow:=df g.ow w.heap.size (.aD S.aD.length) }
   have hw:(w.alloc (.cells c t)).heap=w.heap.push (.cells c t (0,0)):=rfl;have t':Touch E g S w g' S.bl (S.aD.length+1) (w.alloc (.cells c t)) w.heap.size none none:=HF hR hw rfl rfl rfl (fun b hb=>gC _ _ hb) (fun b hb=>gC _ _ hb)
    (fun i _=>rfl) (fun i _=>rfl) (fun i _=>rfl) (fun i _=>rfl) (fun i hi=>gC _ _ (by omega)) (by omega) (fun i h1 h2=>by
     have:i=S.aD.length:=by omega
     subst this;show _≤df g.γ _ _ _;rw[dS];exact hR.same.size) (fun i e=>by
     have e:df g.ow w.heap.size (.aD S.aD.length) w.heap.size=.aD i:=e;rw[dS]at e;cases e;exact⟨dS _ _ _,Hs _⟩)
   have mz:∀i,jB (S.cx g w) ⟨(w.alloc (.cells c t)).heap,g',S.aD.length+1,S.bl⟩ i:=fun i=>t'.keeps hR (fun e=>by cases e) (fun e=>by cases e) (fun h=>absurd h (iC _))
   have oa:Le ⟨w.heap,g,S.aD.length,[]⟩ ⟨(w.alloc (.cells c t)).heap,g',S.aD.length+1,[]⟩:=⟨t'.le.size,t'.le.cells,t'.le.m,t'.le.eW,t'.le.γ⟩;have hγ:g'.γ S.aD.length=w.heap.size:=dS _ _ _;have r1:R E g' { S with aD:=S.aD++[.cells cs] } a (w.alloc (.cells c t)):=R.oQ t' hR rfl (by simp) (fun i=>.inl (mz i)) (fun s v hs=>.inl hs)
    (fun id ei hi=>.inl ⟨hi,(fun e=>by cases e),fun h=>absurd h (iC _)⟩) (fun f k b hf hb=>.inl ⟨(fun e=>by cases e),fun h=>absurd h (iC _)⟩) (fun k o fU=>by
     simp only[qB]at fU;split at fU
     ·exact .inl ⟨fU,fun h=>absurd h (iC _)⟩
     ·rename_i hk
      have:k=S.aD.length:=by
       rcases nG (k-S.aD.length) with h|h
       ·omega
       ·rw[mo (by simp;omega)]at fU;cases fU
      subst this;simp at fU;subst fU;refine .inr ⟨by rw[hγ];exact dS _ _ _,⟨by rw[hγ];exact dS _ _ _,c,t,by rw[hγ];exact HH hw,by(have:v.cells.length=(a.eval p).cells.size:=by simpa using hl);show cs.length≤(a.eval p).cells.size;omega,fun j u z hu hz=>?_⟩,fun j n es z hu hz=>?_⟩
      ·obtain⟨u0,s,sX,qN⟩:=BF hg _ u hu
       obtain⟨q1,q2,q3,_⟩:=E5 qN (hx j u0 z sX (by simpa using hz))
       exact⟨q1,q2,q3.mono oa (fun d=>.inr (q2 d))⟩
      ·rw[hγ,lP (HH hw)]at hz
       obtain⟨u0,s,sX,qN⟩:=BF hg _ _ hu;obtain⟨_,_,_,_,q5⟩:=E5 qN (hx j u0 z sX (by simpa using hz))
       obtain⟨rfl,hz⟩:=q5 n es rfl;exact P5 hz)
   refine ct.value (x:=.pointer (some ⟨w.heap.size,0,none⟩)) (w':=w.alloc (.cells c t)) (g':=g') ?_ (r1.put hd ?_)
   ·simp[execOp,ho,Instr.box,newVar,newRow,c]
   ·rw[←hγ];exact .bH _ 0 (by simp[St.cx])
  ·cases ah
 ·cases ah
theorem aji{o:Oper}{t e:TypeId}{n m:Nat}{C:bD}(ho:o.op=.buildSlice t 0 #[])(ht:P.underlying t=some (.slice e))(hn:fw P e=some m)
  (hR:R E g S a w) (hd:∀d,o.dst=some d→d<E.nt) (ah:VO.run C o.dst S (.zL n)=some S'):ct P E o S S' a w:=by
 simp only[VO.run]at ah;cases ah;obtain⟨g',r1,_⟩:=hR.PX (w':=w.alloc (.cells #[] e)) rfl rfl rfl rfl (n:=n) (ys:=[]) (l:=[]) ⟨by simp,by simp,by simp⟩ (fun j y hj=>by simp at hj) (cap:=0) (bY _)
 refine ct.value (x:=.slice (some ⟨w.heap.size,0,none⟩) 0 0) (g':=g') (w':=w.alloc (.cells #[] e)) ?_ (r1.put hd (.ea (.inr ⟨_,rfl⟩)));have hz:∀f:Nat→Value,(Array.range 0).map f = #[]:=fun f=>ED (by simp)
 simp[execOp,ho,Instr.buildSlice,jC ht,pC hn,Instr.fill,newRow,hz]
theorem ajj{o:Oper}{op:BinOp}{t e ty:TypeId}{neg:Bool}{p q:Operand}{x:bA}{C:bD}(ho:o.op=.binOp op t p q ty)(z6:op=if neg then .neq else .eql)(ht:P.underlying t=some (.slice e))(hp:bZ p x=true)(hq:bZ q (.c .bU)=true)
  (hR:R E g S a w) (hd:∀d,o.dst=some d→d<E.nt) (ah:VO.run C o.dst S (.wO neg x)=some S'):ct P E o S S' a w:=by
 have h0:=pB (c9 (v:=.bU) hR hq rfl);have go:∀(r:Option Addr) (n c:Nat),a.eval p=.slice r n c→(bif neg then !r.isNone else r.isNone)=(bif neg then !r.isNone else r.isNone)→(execOp a.eval o).run P w=.ok (.value (.bool (bif neg then !r.isNone else r.isNone))) w:=fun r n c ev _=>by
  subst z6;have hg:∀op,(eqGuard op t p q (.slice r n c) (.slice none 0 0)).run P w=.ok () w:=fun op=>by
   cases op<;>simp[eqGuard]
  cases neg
  ·have h1:=Lib.run_eql_slice_nil (P:=P) w t e r n c 0 0 ht
   simp[execOp,ho,ev,h0,hg,h1]
  ·have h1:=run_neq_slice_nil_any (P:=P) w t e r n c 0 0 ht
   simp[execOp,ho,ev,h0,hg,h1]
 simp only[VO.run]at ah;split at ah
 ·rename_i hx
  cases ah;have e:=pB (c9 hR hp hx);have:=go _ _ _ e rfl;refine ct.put hR hd (x:=.bool !neg) ?_ (bf.bool _);rw[this];cases neg<;>rfl
 ·rename_i n hx
  cases ah;obtain⟨b,cap,e⟩:=HB (c9 hR hp hx);have:=go _ _ _ e rfl;refine ct.put hR hd (x:=.bool neg) ?_ (bf.bool _);rw[this];cases neg<;>rfl
 ·rename_i t' n r rs hx
  cases ah;have hr:=c9 hR hp hx;obtain⟨b,len,cap,e⟩:∃b len cap,a.eval p=.slice (some b) len cap:=by
   generalize a.eval p=y at hr;cases hr with
   |plain h _=>cases h with
    |slice _ _ _ b off cap=>exact⟨_,_,_,rfl⟩
  have:=go _ _ _ e rfl;refine ct.put hR hd (x:=.bool neg) ?_ (bf.bool _);rw[this];cases neg<;>rfl
 ·cases ah
theorem ajk{o:Oper}{t:TypeId}{cn:Nat}{p:Operand}{x:bA}{C:bD}(ho:o.op=.load t p)(hs:sR P t none=true)(hp:bZ p x=true)(hn:S.fb cn)
  (hR:R E g S a w) (hd:∀d,o.dst=some d→d<E.nt) (ah:VO.run C o.dst S (.tz cn x)=some S'):ct P E o S S' a w:=by
 simp only[VO.run]at ah;split at ah
 ·rename_i pv P6
  have BG:=c9 hR hp P6;split at ah
  ·rename_i v ts G yt
   cases ah;unfold St.take at yt;split at yt
   ·rename_i id off
    obtain⟨ep,oe⟩:=Bw BG;split at yt
    ·rename_i cs fM
     by_cases P7:cs=[]
     ·subst P7;simp at yt
     obtain⟨cB,hm,c,e,hh,dJ,hj⟩:=(hR.aD.obj id _ fM).resolve_left (fun e=>P7 (by cases e;rfl))
     have E7:∀u,cs[off]?=some u→∃z,(execOp a.eval o).run P w=.ok (.value z) w∧bf (S.cx g w) u z∧c[off]?=some z:=fun u hu=>by
      have hc:S.nY (.bH id off)=some (cs,off):=by simp[St.nY,fM]
      obtain⟨b,f,e2,eX⟩:=W6 hR BG hc;rw[e2]at ep;injection ep with ep;injection ep with ep;injection ep with e3 e4 _;have e3:b=g.γ id:=e3;have e4:f=0:=by omega
      obtain⟨z,hz,hr⟩:=Lc (P:=P) (w:=w) (t:=t) (sz:=none) (off:=off) hs eX hu;obtain⟨y,hy,_⟩:=eX off u hu;have hzy:z=y:=by
       have h5:(loadVar t ⟨b,f+off,none⟩).run P w=.ok y w:=by
        simp only[sR,b8,eg]at hs;simp[loadVar,C8 hs.1,cell?_eq,hy]
       rw[h5]at hz;injection hz with hz;exact hz.symm
      rw[hzy]at hz hr;refine⟨y,by simp[execOp,ho,Instr.loadAt,e2,Instr.sureAddr,hz],hr,?_⟩
      rw[e3,lP hh,e4,kz]at hy;exact hy
     split at yt
     ·rename_i n es jT
      cases yt;obtain⟨z,hex,hr,hz⟩:=E7 _ jT;have De:fF w.heap g.m (.slice none n es) z:=by
       cases hr with
       |plain h _=>cases h
       |fE h=>exact h
      have nM:=fa jT;have w9:=hR.aD.own id _ fM off n es z jT (by rw[lP hh];exact hz)
      let τ':Option Nat:=BE z
      have Xu:∀q,τ'=some q→g.ow q=.cell (g.γ id) off∧q<w.heap.size:=fun q hq=>by
       rcases w9 with⟨_,e⟩ | ⟨q',cap,c2,e2,e,q2,q3,q4,q5,q6⟩
       ·rw[show τ'=none from P4 e]at hq;cases hq
       ·rw[show τ'=some q' by simp only[τ',e];exact HV q6]at hq
        cases hq;refine⟨q2,?_⟩;rcases cM q w.heap.size with h|h
        ·exact h
        ·simp[nb h]at q4
      let B:Nat:=τ'.getD w.heap.size
      let g':Gh:={ g with τ:=df g.τ cn τ',ow:=df g.ow B (.tok cn) }
      have BH:B<w.heap.size→g.ow B=.cell (g.γ id) off:=fun hB=>by
       cases hτ:τ' with
       |none=>simp only[B,hτ,PC]at hB;omega
       |some q=>simp only[B,hτ,K1];exact(Xu q hτ).1
      have tt:Touch E g S w g' ((cn,es.length)::S.bl) S.aD.length w B none (some cn) :=
       {os:=rfl,tape:=rfl,output:=rfl,size:=bY _,heap:=fun _ _ _=>rfl,m:=fun _ _=>rfl,ow:=fun b hb=>gC _ _ hb,κ:=fun _ _=>rfl,cp:=fun _ _=>rfl,
        τ:=fun i hi=>gC _ _ (fun e=>hi (by rw[e])),T:=fun i hi=>by rw[dL,av (fun e=>hi (by rw[e]))],γ:=fun _ _=>rfl,eW:=bY _,
        γnew:=fun i a b=>absurd a (by omega)
        fresh:=by
         rcases cM B E.w0.heap.size with h|h
         ·exact .inr (.inr (hR.same.iW B _ _ h (BH (ja h hR.same.size))))
         ·exact .inl h
        iW:=fun p q _ e=>by
         have e:df g.ow B (.tok cn) B=.cell p q:=e;rw[dS]at e;cases e
        lv:=fun i e=>by
         have e:df g.ow B (.tok cn) B=.aD i:=e;rw[dS]at e;cases e
        kN:=fun _ _ _ h=>h,qH:=fun _=>bY _ }
      have mz:∀i,jB (S.cx g w) ⟨w.heap,g',S.aD.length,(cn,es.length)::S.bl⟩ i∨i=cn:=fun i=>by
       by_cases hi:cn=i
       ·exact .inr hi.symm
       ·exact .inl (tt.keeps hR (fun e=>by cases e) (fun e=>hi (by cases e;rfl)) (fun hB e=>by rw[BH hB]at e;cases e))
      have ajn:∀k o,S.aD[k]?=some o→o≠.cells []→k≠id→g.γ k≠g.γ id:=fun k o hk E8 cq e=>by
       have:=((hR.aD.obj k o hk).resolve_left E8).1;rw[e,cB]at this;cases this;exact cq rfl
      have r1:R E g' { S with bl:=(cn,es.length)::S.bl,aD:=S.aD.set id (.cells (cs.set off (.slice none n es))) } a w :=
       R.HC (S':={ S with bl:=(cn,es.length)::S.bl,aD:=S.aD.set id (.cells (cs.set off (.slice none n es))) }) tt hR rfl (by simp) (fun i=>(mz i).imp (fun z=>z) fun e=>by rw[e];exact hn) (fun s v hs=>.inl hs)
        (fun i ei ho=>.inl ⟨ho,(fun e=>by cases e),fun hB e=>by rw[BH hB]at e;cases e⟩) (fun f k b hf hb=>by
         by_cases yx:cn=f
         ·subst yx
          have hb:df g.τ cn τ' cn=some b:=hb;rw[dS]at hb;obtain⟨h1,h2⟩:=Xu b hb;have P8:B=b:=by simp only[B,hb,K1]
          refine .inr ⟨by show df g.ow B _ b=_;rw[P8,dS],?_,h2⟩
          rcases cM b E.w0.heap.size with h|h
          ·exact .inr (hR.same.iW b _ _ h h1)
          ·exact .inl h
         ·exact .inl ⟨fun e=>yx (by cases e;rfl),fun hB e=>by rw[BH hB]at e;cases e⟩) (fun k o fU E8=>by
         simp only[kK]at fU;by_cases kE:id=k
         ·subst kE
          simp[show id<S.aD.length from fa fM]at fU;subst fU;have oa:Le ⟨w.heap,g,S.aD.length,[]⟩ ⟨w.heap,g',S.aD.length,[]⟩:=⟨tt.le.size,tt.le.cells,tt.le.m,tt.le.eW,tt.le.γ⟩;have hγB:g.γ id≠B:=fun e=>by
           have:=BH (e ▸ E6 hR fM (fun e=>P7 (by cases e;rfl)))
           rw[←e,cB]at this;cases this
          refine .inr ⟨(tt.ow _ hγB).trans cB,⟨hm,c,e,hh,by rw[pj];exact dJ,fun j u y hu hy=>?_⟩,fun j n' ql y hu hy=>?_⟩
          ·rw[kK]at hu
           by_cases tK:off=j
           ·subst tK
            rw[aK rfl,aK nM]at hu;cases hu;have hyz:y=z:=by have hy:c[off]?=some y:=hy;rw[hz]at hy;exact(Option.some.inj hy).symm
            rw[hyz];exact⟨rfl,fun _=>rfl,.plain De (fun _ _ _ e=>by cases e)⟩
           ·rw[av tK]at hu
            obtain⟨q1,q2,q3⟩:=hj j u y hu hy;exact⟨q1,q2,q3.mono oa (fun d=>.inr (q2 d))⟩
          ·rw[kK]at hu
           by_cases tK:off=j
           ·subst tK
            rw[aK rfl,aK nM]at hu;cases hu
           ·rw[av tK]at hu
            rcases hR.aD.own id _ fM j n' ql y hu hy with h | ⟨q,cap,c2,e',q1,q2,q3,q4,q5,q6⟩
            ·exact .inl h
            ·have P9:q≠B:=fun e=>by
              have oO:q<w.heap.size:=by
               rcases cM q w.heap.size with h|h
               ·exact h
               ·simp[nb h]at q4
              rw[e]at q2 oO;rw[BH oO]at q2;cases q2;exact tK rfl
             exact .inr ⟨q,cap,c2,e',q1,(tt.ow q P9).trans q2,q3,q4,q5,q6⟩
         ·rw[av kE]at fU
          refine .inl ⟨fU,fun hB=>⟨fun e=>(by rw[BH hB]at e;cases e),fun j e=>?_⟩⟩
          rw[BH hB]at e;injection e with e _;exact ajn k o fU E8 (fun h=>kE h.symm) e.symm)
      refine ct.value (x:=z) (w':=w) (g':=g') hex (r1.put hd (.plain (Xr De) (fun f n' ql e k hk=>?_)));cases e;have hk:look cn ((cn,es.length)::S.bl)=some k:=hk;rw[dL,aK rfl]at hk;cases hk;refine⟨bY _,fun _=>?_⟩;rcases w9 with⟨e1,e2⟩ | ⟨q,cap,c2,e',q1,q2,q3,q4,q5,q6⟩
      ·exact .inl ⟨e1,e2⟩
      ·refine .inr ⟨q,0,cap,c2,e',?_,q1,by show g.m q=_;omega,q4,by omega,rfl,q6⟩
       show df g.τ cn τ' cn=_;rw[dS];simp only[τ',q1];exact HV q6
     ·rename_i u _ jT
      cases yt;obtain⟨z,hex,hr,hz⟩:=E7 _ jT;exact ct.put hR hd hex (W3 hr)
     ·cases yt
    ·cases yt
   ·cases yt
  ·cases ah
 ·cases ah
theorem ajq{o:Oper}{t:TypeId}{cn:Nat}{p q:Operand}{x y:bA}{C:bD}(ho:o.op=.store t p q)(w8:o.dst=none)(hs:fw P t=some 1)(hp:bZ p x=true)(hq:bZ q y=true)
  (hR:R E g S a w) (ah:VO.run C o.dst S (.vy cn x y)=some S'):ct P E o S S' a w:=by
 simp only[VO.run]at ah;split at ah
 ·rename_i pv v P6 hv
  have BG:=c9 hR hp P6;have De:=c9 hR hq hv;split at ah
  ·rename_i ts G BI
   cases ah;unfold St.yd at BI;split at BI
   ·rename_i id off f n es
    split at BI
    ·rename_i cs k fM hk
     have qJ:f=cn∧look f S.bl=some k:=by
      cases yx:f==cn with
      |false=>rw[yx]at hk;cases hk
      |true =>
       have:=eq_of_beq yx;subst this;rw[yx]at hk;exact⟨rfl,hk⟩
     obtain⟨e,oT⟩:=qJ;subst e
     clear hk
     have hk:=oT;cases hc:(k==es.length&&Nat.blt off cs.length) with
     |false=>simp[hc]at BI
     |true =>
      simp only[hc,bM,Option.some.injEq,Prod.mk.injEq]at BI;obtain⟨rfl,rfl⟩:=BI;simp only[b8,eg]at hc;obtain⟨rfl,bI⟩:=hc;have nM:off<cs.length:=by simp[Nat.blt]at bI;omega
      obtain⟨ep,oe⟩:=Bw BG;obtain⟨cB,hm,c,e,hh,dJ,hj⟩:=(hR.aD.obj id _ fM).resolve_left (fun e=>by cases e;simp at nM)
      generalize hyv:a.eval q=yv at De;obtain⟨HY,Qa⟩:fF w.heap g.m (.slice (some f) n es) yv∧zN (S.cx g w) f n es.length yv:=by
       cases De with
       |plain h ht=>exact⟨h,(ht f n es rfl _ hk).2 rfl⟩
      have hvn:fF w.heap g.m (.slice none n es) yv:=Xr HY;have yy:yv.cells = #[yv]:=HY.cells
      let c':Array Value:=(c.toList.take off++yv.cells.toList++c.toList.drop (off+yv.cells.toList.length)).toArray
      have pF:yv.cells.toList.length=1:=by rw[yy];rfl
      have fZ:off+yv.cells.toList.length≤c.size:=by omega
      have ah:=PZ (P:=P) (w:=w) (t:=t) (n:=1) hs (v:=yv) (by rw[yy];rfl) hh (o:=off) (by omega) (fun y hy=>by rw[yy]at hy;simp at hy;subst hy;exact HY.C5)
      rw[←pF]at ah;have lR:(w.setRow (g.γ id) c').heap[g.γ id]?=some (.cells c' e (0,0)):=setRow_heap w _ c c' e _ hh;have qO:∀j,c'[j]?=if j=off then some yv else c[j]?:=fun j=>by
       rw[show c'[j]?=_ from BC fZ j,pF,yy];by_cases h:j=off
       ·subst h;simp
       ·rw[av (by omega),av h]
      have zZ:=hR.HX cB
      let B:Nat:=(BE yv).getD w.heap.size
      have hB:(es.length=0∧mr yv∧B=w.heap.size)∨∃cap c2 e2,yv=.slice (some ⟨B,0,none⟩) es.length cap∧g.τ f=some B∧g.m B=es.length*n∧w.heap[B]?=some (.cells c2 e2 (0,0))∧cap*n≤c2.size∧0<es.length ∧
        g.ow B=.tok f∧(E.w0.heap.size≤B∨E.own B)∧B<w.heap.size:=by
       rcases Qa with⟨h1,h2⟩ | ⟨b,o2,cap,c2,e2,h1,h2,h3,h4,h5,h6,h7⟩
       ·exact .inl ⟨h1,h2,by simp only[B,P4 h2];rfl⟩
       ·subst h6
        have P8:B=b:=by simp only[B,h2];rw[HV h7];rfl
        obtain⟨q1,q2,q3⟩:=hR.bl f _ b hk h1;rw[P8];exact .inr ⟨cap,c2,e2,h2,h1,by have h3:g.m b=0+es.length*n:=h3;omega,h4,by omega,h7,q1,q2,q3⟩
      have Df:B<w.heap.size→g.ow B=.tok f:=fun h=>by
       rcases hB with⟨_,_,e⟩ | ⟨_,_,_,_,_,_,_,_,_,h8,_⟩
       ·omega
       ·exact h8
      have Xv:∀k o,S.aD[k]?=some o→o≠.cells []→g.γ k≠B:=fun k o oT E8 e=>by
       have h1:=((hR.aD.obj k o oT).resolve_left E8).1;have h2:=Df (e ▸ E6 hR oT E8);rw[←e,h1]at h2;cases h2
      let g1:Gh:={ g with τ:=df g.τ f none,ow:=df g.ow B (.cell (g.γ id) off) }
      have t1:Touch E g S w g1 ((f,es.length+1)::S.bl) S.aD.length w B none (some f) :=
       {os:=rfl,tape:=rfl,output:=rfl,size:=bY _,heap:=fun _ _ _=>rfl,m:=fun _ _=>rfl,ow:=fun b hb=>gC _ _ hb,κ:=fun _ _=>rfl,cp:=fun _ _=>rfl,
        τ:=fun i hi=>gC _ _ (fun e=>hi (by rw[e])),T:=fun i hi=>by rw[dL,av (fun e=>hi (by rw[e]))],γ:=fun _ _=>rfl,eW:=bY _,
        γnew:=fun i a b=>absurd a (by omega)
        fresh:=by
         rcases hB with⟨_,_,e⟩ | ⟨_,_,_,_,_,_,_,_,_,_,h9,_⟩
         ·exact .inl (by rw[e];exact hR.same.size)
         ·exact h9.imp (fun z=>z) .inr
        iW:=fun p q bI _=>by
         rcases hB with⟨_,_,e⟩ | ⟨_,_,_,_,_,_,_,_,_,_,h9,_⟩
         ·have:=hR.same.size;omega
         ·exact h9.resolve_left (by omega)
        lv:=fun i e=>by
         have e:df g.ow B (.cell (g.γ id) off) B=.aD i:=e;rw[dS]at e;cases e
        kN:=fun _ _ _ h=>h,qH:=fun _=>bY _ }
      have k1:∀i,jB (S.cx g w) ⟨w.heap,g1,S.aD.length,(f,es.length+1)::S.bl⟩ i:=fun i=>by
       by_cases hi:f=i
       ·subst hi
        refine⟨rfl,rfl,fun k' ld=>⟨es.length,hk,?_,fun e=>?_⟩⟩
        ·simp only[dL,if_true,Option.some.injEq]at ld;omega
        ·simp only[dL,if_true,Option.some.injEq]at ld;omega
       ·exact t1.keeps hR (fun e=>by cases e) (fun e=>hi (by cases e;rfl)) (fun hb e=>hi (by rw[Df hb]at e;cases e;rfl))
      have r1:R E g1 { S with bl:=(f,es.length+1)::S.bl } a w:=R.oQ (S':={ S with bl:=(f,es.length+1)::S.bl }) t1 hR rfl rfl (fun i=>.inl (k1 i)) (fun s v hs=>.inl hs)
       (fun i ei ho=>.inl ⟨ho,(fun e=>by cases e),fun hb e=>by rw[Df hb]at e;cases e⟩) (fun f' k' b hf hb=>by
        by_cases yx:f=f'
        ·subst yx
         have hb:df g.τ f none f=some b:=hb;rw[dS]at hb;cases hb
        ·exact .inl ⟨fun e=>yx (by cases e;rfl),fun hb e=>by rw[Df hb]at e;cases e;exact yx rfl⟩) (fun i o hi=>.inl ⟨hi,fun hb=>⟨fun e=>(by rw[Df hb]at e;cases e),fun _ e=>(by rw[Df hb]at e;cases e)⟩⟩)
      have Dg:g1.ow (g.γ id)=.aD id:=(gC _ _ (Xv id _ fM (fun e=>by cases e;simp at nM))).trans cB
      have t2:=E2 (g:=g1) (c':=c') (S:={ S with bl:=(f,es.length+1)::S.bl }) (w:=w) (b:=g.γ id) hm zZ (fun _ _ e=>by rw[Dg]at e;cases e) r1
      have k2:∀i,jB (({ S with bl:=(f,es.length+1)::S.bl }:St).cx g1 w) ⟨(w.setRow (g.γ id) c').heap,g1,S.aD.length,(f,es.length+1)::S.bl⟩ i:=fun i=>t2.keeps r1 (fun e=>by cases e) (fun e=>by cases e) (fun _ e=>by rw[Dg]at e;cases e)
      have oa:Le ⟨w.heap,g,S.aD.length,[]⟩ ⟨(w.setRow (g.γ id) c').heap,g1,S.aD.length,[]⟩:=⟨t2.le.size,t2.le.cells,t2.le.m,t2.le.eW,t2.le.γ⟩;refine ct.skip (g':=g1) (w':=w.setRow (g.γ id) c') ?_ w8 (R.oQ (S':={ S with bl:=(f,es.length+1)::S.bl,aD:=S.aD.set id (.cells (cs.set off (.fE n es))) }) t2 r1 rfl (by simp) (fun i=>.inl (k2 i)) (fun s v hs=>.inl hs)
       (fun i ei hi=>.inl ⟨hi,(fun e=>by cases e),fun _ e=>by rw[Dg]at e;cases e⟩)
       (fun f k b hf hb=>.inl ⟨(fun e=>by cases e),fun _ e=>by rw[Dg]at e;cases e⟩) (fun k o fU=>?_))
      ·have C6:(storeVar t ⟨(S.cx g w).g.γ id,off,none⟩ yv).run P w=.ok () (w.setRow (g.γ id) c'):=ah
       simp only[execOp,ho,ep,hyv];simp[Instr.storeAt,Instr.sureAddr,C6]
      ·simp only[kK]at fU
       by_cases kE:id=k
       ·subst kE
        simp[show id<S.aD.length from fa fM]at fU;subst fU;refine .inr ⟨Dg,⟨hm,c',e,lR,by rw[pj];exact kL dJ (vq (E1 fZ).symm),fun j u z hu hz=>?_⟩,fun j n' ql z hu hz=>?_⟩
        ·rw[qO]at hz
         rw[kK]at hu;by_cases tK:off=j
         ·subst tK
          rw[aK rfl,aK nM]at hu;rw[aK rfl]at hz;cases hu;cases hz;exact⟨rfl,fun _=>rfl,.fE (hvn.mono oa)⟩
         ·rw[av tK]at hu
          rw[av (fun e=>tK e.symm)]at hz;obtain⟨q1,q2,q3⟩:=hj j u z hu hz;exact⟨q1,q2,q3.mono oa (fun d=>.inr (q2 d))⟩
        ·have hz:cellAt (w.setRow (g.γ id) c').heap (g.γ id) j=some z:=hz
         rw[lP lR,qO]at hz;rw[kK]at hu;by_cases tK:off=j
         ·subst tK
          rw[aK rfl,aK nM]at hu;rw[aK rfl]at hz;cases hu;cases hz;rcases hB with⟨h1,h2,_⟩ | ⟨cap,c2,e2,h1,h2,h3,h4,h5,h6,_⟩
          ·exact .inl ⟨h1,h2⟩
          ·exact .inr ⟨B,cap,c2,e2,h1,dS _ _ _,h3,(HT w _ B c' (fun e=>Xv id _ fM (fun e=>by cases e;simp at nM) e.symm)).trans h4,h5,h6⟩
         ·rw[av tK]at hu
          rw[av (fun e=>tK e.symm)]at hz;rcases hR.aD.own id _ fM j n' ql z hu (by rw[lP hh];exact hz) with h | ⟨q,cap,c2,e',q1,q2,q3,q4,q5,q6⟩
          ·exact .inl h
          ·have oO:q<w.heap.size:=by
            rcases cM q w.heap.size with h|h
            ·exact h
            ·simp[nb h]at q4
           have P9:q≠B:=fun e=>by rw[e]at q2 oO;rw[Df oO]at q2;cases q2
           have cq:q≠g.γ id:=fun e=>by rw[e,cB]at q2;cases q2
           exact .inr ⟨q,cap,c2,e',q1,(gC _ _ P9).trans q2,q3,(HT w _ q c' cq).trans q4,q5,q6⟩
       ·rw[av kE]at fU
        exact .inl ⟨fU,fun _=>⟨fun e=>kE (by rw[Dg]at e;cases e;rfl),fun _ e=>(by rw[Dg]at e;cases e)⟩⟩
    ·cases BI
   ·cases BI
  ·cases ah
 ·cases ah
theorem BJ{o:Oper}{t e:TypeId}{sz:Nat}{p:Operand}{lo hi:Option Operand}{Dh qP:Option bA}(ho:o.op=.slice t p lo hi none)(ht:P.underlying t=some (.slice e))(hs:fw P e=some sz)
  (nM:match lo,Dh with|none,none=>True|some y,some z=>bZ y z=true|_,_=>False) (uK:match hi,qP with|none,none=>True|some y,some z=>bZ y z=true|_,_=>False)
  (hR:R E g S a w) {base:Option Addr} {n cap:Nat} (e1:a.eval p=.slice base n cap) (eK:n≤cap) {k1 k2:IntKind} {l h:Int} (hl:S.kM Dh 0=some (.int k1 l)) (hh:S.kM qP n=some (.int k2 h))
  (h0:0≤l) (h1:l≤h) (h2:h≤(n:Int)):(execOp a.eval o).run P w=.ok (.value (.slice (if cap=l.toNat then base else base.map (·.add (l.toNat*sz))) (h.toNat-l.toNat) (cap-l.toNat))) w:=by
 have BK:(match lo.map a.eval with|some v=>Instr.sliceBound v h.toNat .sliceB|none=>pure 0).run P w=.ok l.toNat w:=by
  cases lo with
  |none =>
   cases Dh with
   |none=>simp[St.kM]at hl;obtain⟨_,rfl⟩:=hl;simp
   |some z=>exact nM.elim
  |some y =>
   cases Dh with
   |none=>exact nM.elim
   |some z =>
    have:=nh (c9 hR nM hl);simp only[nd,this];exact run_sliceBound w k1 l h.toNat .sliceB h0 (by omega)
 have Di:(match hi.map a.eval with|some v=>Instr.sliceBound v cap .sliceAcap|none=>pure n).run P w=.ok h.toNat w:=by
  cases hi with
  |none =>
   cases qP with
   |none=>simp[St.kM]at hh;obtain⟨_,rfl⟩:=hh;simp
   |some z=>exact uK.elim
  |some y =>
   cases qP with
   |none=>exact uK.elim
   |some z =>
    have:=nh (c9 hR uK hh);simp only[nd,this];exact run_sliceBound w k2 h cap .sliceAcap (by omega) (by omega)
 have ajt:(Instr.sliceBounds true n cap (lo.map a.eval) (hi.map a.eval) none).run P w=.ok (l.toNat,h.toNat,cap) w:=by
  unfold Instr.sliceBounds;cases hi with
  |none =>
   simp only[K2]at Di;simp only[Sem.run_pure,Result.ok.injEq,and_true]at Di;cases lo with
   |none =>
    simp only[K2,Sem.run_pure,Result.ok.injEq,and_true]at BK;simp[←Di,← BK]
   |some y =>
    simp only[nd]at BK;simp[Di,BK]
  |some z =>
   simp only[nd]at Di;cases lo with
   |none =>
    simp only[K2,Sem.run_pure,Result.ok.injEq,and_true]at BK;simp[Di,← BK]
   |some y =>
    simp only[nd]at BK;simp[Di,BK]
 simp only[execOp,ho,e1,Instr.sliceAt,Instr.slice];simp[jC ht,ajt,pC hs]
theorem aju{o:Oper}{t e:TypeId}{n sz:Nat}{p:Operand}{x:bA}{C:bD}(ho:o.op=.slice t p none none none)(ht:P.underlying t=some (.array n e))(hs:fw P e=some sz)
  (hp:bZ p x=true) (hR:R E g S a w) (hd:∀d,o.dst=some d→d<E.nt) (ah:VO.run C o.dst S (.arr n sz x)=some S'):ct P E o S S' a w:=by
 simp only[VO.run]at ah;split at ah
 ·rename_i id hx
  cases ah;have hr:=c9 hR hp hx;have e1:a.eval p=.pointer (some ⟨g.κ id,0,none⟩):=by
   generalize a.eval p=y at hr;cases hr with
   |plain h _=>cases h
   |bj=>rfl
  have fQ:(execOp a.eval o).run P w=.ok (.value (.slice (some ⟨g.κ id,0,none⟩) n n)) w:=by
   simp[execOp,ho,e1,Instr.sliceAt,Instr.sureAddr,Instr.sliceBounds,jC ht,pC hs,lg]
  exact ct.put hR hd fQ (by have:=bf.fT (X:=S.cx g w) id sz 0 n n (bY _);rwa [Hw]at this)
 ·cases ah
theorem ajv{o:Oper}{t e:TypeId}{sz:Nat}{p:Operand}{lo hi:Option Operand}{x:bA}{Dh qP:Option bA}{C:bD}(ho:o.op=.slice t p lo hi none)(ht:P.underlying t=some (.slice e))(hs:fw P e=some sz)
  (hp:bZ p x=true) (nM:match lo,Dh with|none,none=>True|some y,some z=>bZ y z=true|_,_=>False) (uK:match hi,qP with|none,none=>True|some y,some z=>bZ y z=true|_,_=>False)
  (hR:R E g S a w) (hd:∀d,o.dst=some d→d<E.nt) (ah:VO.run C o.dst S (.wQ sz x Dh qP)=some S'):ct P E o S S' a w:=by
 simp only[VO.run]at ah;split at ah
 ·rename_i tk m es hx
  split at ah
  ·rename_i k1 l k2 h hl hh
   cases hc:(decide (0≤l)&&decide (l≤h)&&decide (h≤(es.length:Int))&&(m==sz)) with
   |false=>simp[hc]at ah
   |true =>
    simp only[hc,bM]at ah;cases ah;simp only[b8,kA,eg]at hc;obtain⟨⟨⟨h0,h1⟩,h2⟩,rfl⟩:=hc;have hr:=c9 hR hp hx;obtain⟨base,cap,e1,eK⟩:∃base cap,a.eval p=.slice base es.length cap∧es.length≤cap:=by
     generalize a.eval p=y at hr;cases hr with
     |plain h _=>cases h with
      |nil=>exact⟨none,0,rfl,by simp⟩
      |empty _ _ a cap=>exact⟨some a,cap,rfl,by simp⟩
      |slice _ _ _ b off cap ys hb eK=>exact⟨_,cap,rfl,eK⟩
    have fQ:=BJ (w:=w) ho ht hs nM uK hR e1 eK hl hh h0 h1 h2;have hlen:((es.take h.toNat).drop l.toNat).length=h.toNat-l.toNat:=by simp;omega
    refine ct.put hR hd fQ ?_
    clear fQ
    generalize a.eval p=y at hr e1;subst e1;refine .plain ?_ (fun _ _ _ e=>by cases e)
    cases hr with
    |plain hv _ =>
     cases hv with
     |nil =>
      have pG:l.toNat=0:=by simp at h2;omega
      have yA:h.toNat=0:=by simp at h2;omega
      simp[pG,yA];exact .nil _ _
     |empty _ _ a' sU =>
      have pG:l.toNat=0:=by simp at h2;omega
      have yA:h.toNat=0:=by simp at h2;omega
      simp only[pG,yA,xY,List.take_zero,vn];split
      ·exact .empty _ _ _ _
      ·exact .empty _ _ _ _
     |slice _ _ _ b off _ ys hb Dj jc hc hv hp hm =>
      rw[←hlen];by_cases dJ:cap=l.toNat
      ·rw[aK dJ]
       have h3:(es.take h.toNat).drop l.toNat=[]:=a8.1 (by rw[hlen];omega)
       rw[h3];exact .slice none m [] b off _ ys hb (by simp) (by simp) (by simp) (by simp) (by simp) (by simp;omega)
      ·rw[av dJ]
       simp only[nd,lg];have qO:∀(i:Nat) (row:List V),((es.take h.toNat).drop l.toNat)[i]?=some row→es[l.toNat+i]?=some row:=fun i row hi=>by
        rw[oF,lN]at hi;split at hi
        ·exact hi
        ·cases hi
       refine .slice none m _ b (off+l.toNat*m) _ (fun i j=>ys (l.toNat+i) j) hb (by rw[hlen];omega) (fun i row hi=>jc _ row (qO i row hi)) (fun i row j v hi hj=>?_) (fun i row j v hi hj=>hv _ row j v (qO i row hi) hj)
        (fun i row j v hi hj=>hp _ row j v (qO i row hi) hj) ?_
       ·rw[←hc _ row j v (qO i row hi) hj]
        congr 1;rw[qC];omega
       ·have:(l.toNat+(h.toNat-l.toNat))*m≤es.length*m:=rM m (by omega)
        rw[qC]at this;rw[hlen];omega
  ·cases ah
 ·rename_i hx
  split at ah
  ·rename_i k1 l k2 h hl hh
   cases hc:(decide (l=0)&&decide (h=0)) with
   |false=>simp[hc]at ah
   |true =>
    simp only[hc,bM]at ah;cases ah;simp only[b8,kA]at hc;obtain⟨rfl,rfl⟩:=hc;have e1:=pB (c9 hR hp hx);have fQ:=BJ (w:=w) (n:=0) ho ht hs nM uK hR e1 (bY _) hl hh (xT _) (xT _) (xT _);exact ct.put hR hd fQ (.plain .bU (fun _ _ _ e=>by cases e))
  ·cases ah
 ·rename_i id s n hx
  split at ah
  ·rename_i k1 l k2 h hl hh
   cases hc:(decide (0≤l)&&decide (l≤h)&&decide (h≤(n:Int))&&(s==sz)) with
   |false=>simp[hc]at ah
   |true =>
    simp only[hc,bM]at ah;simp only[b8,kA,eg]at hc;obtain⟨⟨⟨h0,h1⟩,h2⟩,rfl⟩:=hc;rcases rT (c9 hR hp hx) with⟨cap,eK,fY,e1⟩ | ⟨rfl,hz,fY⟩
    ·have fQ:=BJ (w:=w) ho ht hs nM uK hR e1 eK hl hh h0 h1 h2
     by_cases pG:l=0
     ·subst pG
      simp only[decide_true,bM,Option.some.injEq]at ah;subst ah;refine ct.put hR hd fQ ?_;simp only[Int.toNat_zero,Hw,xY,nd,lg,xX,ite_self];exact .bR _ _ _ _ (by omega) fY
     ·have Dk:decide (l=0)=false:=decide_eq_false pG
      by_cases tL:l<(n:Int)
      ·simp only[Dk,dD tL,bM,fu,Option.some.injEq]at ah
       subst ah;refine ct.put hR hd fQ ?_;rw[av (by omega)]
       simp only[nd,lg,kz];rw[show h.toNat-l.toNat=(h-l).toNat from by omega]
       exact .fT _ _ _ _ _ (by omega)
      ·simp[Dk,decide_eq_false tL]at ah
    ·have pG:l=0:=by omega
     have yA:h=0:=by omega
     subst pG;subst yA;simp only[decide_true,bM,Option.some.injEq]at ah;subst ah;rcases hz with e1 | ⟨b,e1⟩
     ·have fQ:=BJ (w:=w) (n:=0) ho ht hs nM uK hR e1 (bY _) hl hh h0 h1 h2
      exact ct.put hR hd fQ (.rP _ _ (.inl rfl) fY)
     ·have fQ:=BJ (w:=w) (n:=0) ho ht hs nM uK hR e1 (bY _) hl hh h0 h1 h2
      exact ct.put hR hd fQ (.rP _ _ (.inr ⟨b,rfl⟩) fY)
  ·cases ah
 ·rename_i id s n hx
  split at ah
  ·rename_i k1 l k2 h hl hh
   cases hc:(decide (0≤l)&&decide (l≤h)&&decide (h≤(n:Int))&&(s==sz)) with
   |false=>simp[hc]at ah
   |true =>
    simp only[hc,bM]at ah;simp only[b8,kA,eg]at hc;obtain⟨⟨⟨h0,h1⟩,h2⟩,rfl⟩:=hc;obtain⟨hi,⟨cap,eK,e1⟩ | ⟨rfl,hz⟩⟩:=EW (c9 hR hp hx)
    ·have fQ:=BJ (w:=w) ho ht hs nM uK hR e1 eK hl hh h0 h1 h2
     by_cases pG:l=0
     ·subst pG
      simp only[decide_true,bM,Option.some.injEq]at ah;subst ah;refine ct.put hR hd fQ ?_;simp only[Int.toNat_zero,Hw,xY,nd,lg,xX,ite_self];exact .c6 _ _ _ _ hi (by omega)
     ·have Dk:decide (l=0)=false:=decide_eq_false pG
      by_cases tL:l<(n:Int)
      ·simp only[Dk,dD tL,bM,fu,Option.some.injEq]at ah
       subst ah;refine ct.put hR hd fQ ?_;rw[av (by omega)]
       simp only[nd,lg,kz];rw[show h.toNat-l.toNat=(h-l).toNat from by omega]
       exact .iM _ _ _ _ _ hi (by omega)
      ·simp[Dk,decide_eq_false tL]at ah
    ·have pG:l=0:=by omega
     have yA:h=0:=by omega
     subst pG;subst yA;simp only[decide_true,bM,Option.some.injEq]at ah;subst ah;rcases hz with e1 | ⟨b,e1⟩
     ·have fQ:=BJ (w:=w) (n:=0) ho ht hs nM uK hR e1 (bY _) hl hh h0 h1 h2
      exact ct.put hR hd fQ (.uD _ _ hi (.inl rfl))
     ·have fQ:=BJ (w:=w) (n:=0) ho ht hs nM uK hR e1 (bY _) hl hh h0 h1 h2
      exact ct.put hR hd fQ (.uD _ _ hi (.inr ⟨b,rfl⟩))
  ·cases ah
 ·cases ah
end
end Go.Vm

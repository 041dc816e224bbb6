/- The value machine, 8: literals, stores, make, blocks that calls share. -/
import Derived.Great.BuildSlice
import Derived.IntWalk
import Derived.Laws.Slices
import Derived.Test.YtcelmhaoipbdiaaGreatDoorVm7
import Derived.WalkSpells
import Derived.Lib.SliceRun
namespace Go.Vm
set_option linter.all false
section
variable {P:Program} {E:Entry} {g g':Gh} {S S':St} {a:Act} {w w':World} {T':List (Nat×Nat)} {N' B:Nat}
theorem MO(off k:Nat):∀(vs:List Value) (i:Nat) (cs:Array Value),((vs.zipIdx i).foldl (fun cs (p:Value×Nat)=>cs.setIfInBounds (off+p.2) p.1) cs)[k]? =
  if off+i≤k∧k<off+i+vs.length∧k<cs.size then vs[k-(off+i)]? else cs[k]?
 |[],i,cs=>by simp;omega
 |v::vs,i,cs=>by
  rw[List.zipIdx_cons,List.foldl_cons,MO off k vs (i+1)];simp only[Array.size_setIfInBounds,wB,L3];by_cases h:off+(i+1)≤k∧k<off+(i+1)+vs.length∧k<cs.size
  ·rw[aP h,aP (by omega),show k-(off+i)=(k-(off+(i+1)))+1 from by omega,EP]
  ·rw[aA h]
   by_cases he:off+i=k
   ·subst he
    by_cases bB:off+i<cs.size
    ·simp[bB]
    ·simp[bB]
   ·rw[aA he,aA (by omega)]
theorem zS(k:Nat):∀(vs:List V) (off:Nat) (cs:List V),(iF cs off vs)[k]?=if off≤k∧k<off+vs.length∧k<cs.length then vs[k-off]? else cs[k]?
 |[],off,cs=>by simp[iF];omega
 |v::vs,off,cs=>by
  rw[iF,zS k vs (off+1)];simp only[oJ,wB,km];by_cases h:off+1≤k∧k<off+1+vs.length∧k<cs.length
  ·rw[aP h,aP (by omega),show k-off=(k-(off+1))+1 from by omega,EP]
  ·rw[aA h]
   by_cases he:off=k
   ·subst he
    by_cases bB:off<cs.length
    ·simp[bB]
    ·simp[bB]
   ·rw[aA he,aA (by omega)]
theorem I4:∀(vs:List V) (off:Nat) (cs:List V),(iF cs off vs).length=cs.length
 |[],off,cs=>rfl
 |v::vs,off,cs=>by rw[iF,I4 vs];simp
theorem MP(off:Nat):∀(vs:List Value) (i:Nat) (cs:Array Value),((vs.zipIdx i).foldl (fun cs (p:Value×Nat)=>cs.setIfInBounds (off+p.2) p.1) cs).size=cs.size
 |[],i,cs=>rfl
 |v::vs,i,cs=>by rw[List.zipIdx_cons,List.foldl_cons,MP off vs];simp
theorem To(off:Nat)(vs cs:Array Value):vs.zipIdx.foldl (fun(cs:Array Value) (x:Value×Nat)=>match x with|(c,j)=>cs.setIfInBounds (off+j) c) cs =
  (vs.toList.zipIdx 0).foldl (fun cs (p:Value×Nat)=>cs.setIfInBounds (off+p.2) p.1) cs:=by
 rw[←Array.foldl_toList,Array.toList_zipIdx]
def Bh(place:Nat→Option (Nat×Nat)):List (Nat×Operand)→List (Nat×Nat×bp)→Bool
 |[],[]=>true
 |(i,y)::ps,(off,n,x)::qs=>place i==some (off,n)&&bO y x&&Bh place ps qs
 |_,_=>false
theorem Tp(hR:R E g S a w){place:Nat→Option (Nat×Nat)}:∀{ps:List (Nat×Operand)} {qs:List (Nat×Nat×bp)},Bh place ps qs=true→∀{cs dQ:List V} {xs:Array Value},qI S qs cs=some dQ →
  PW (S.cx g w) cs xs.toList→∃uf,Instr.fill place xs (ps.map fun(i,x)=>(i,a.eval x))=some uf∧PW (S.cx g w) dQ uf.toList
 |[],[],_,cs,dQ,xs,h,hp=>by simp only[qI,Option.some.injEq]at h;subst h;exact⟨xs,rfl,hp⟩
 |[],_::_,h,_,_,_,_,_=>by simp[Bh]at h
 |_::_,[],h,_,_,_,_,_=>by simp[Bh]at h
 |(i,y)::ps,(off,n,x)::qs,h,cs,dQ,xs,hf,hp=>by
  simp only[Bh,bQ,dO]at h;obtain⟨⟨lL,ho⟩,bo⟩:=h;simp only[qI]at hf;split at hf
  ·rename_i v hv
   cases hc:(v.cells.length==n&&Nat.ble (off+n) cs.length&&v.cells.all V.cI) with
   |false=>simp[hc]at hf
   |true =>
    simp only[hc,bC]at hf;simp only[bQ,dO,g9]at hc;obtain⟨⟨hlen,hle⟩,iX⟩:=hc;have hle:=iD hle;obtain⟨hl,hx⟩:=CR (cS hR ho hv) iX;have ec:(a.eval y).cells.size=n:=by simpa [hlen] using hl.symm
    have Bi:=hp.len;simp only[wz]at Bi;obtain⟨uf,h1,h2⟩:=Tp hR (ps:=ps) (xs:=((a.eval y).cells.toList.zipIdx 0).foldl (fun cs (p:Value×Nat)=>cs.setIfInBounds (off+p.2) p.1) xs) bo hf (by
     refine⟨by rw[I4,Bi];exact(MP off _ _ _).symm,fun j u z hu hz=>?_⟩
     rw[zS]at hu;rw[Ii,MO]at hz;simp only[wE,wz,ec,hlen,Bi]at hu hz;split at hu
     ·rename_i ld
      rw[aP ld]at hz;exact hx _ u z hu hz
     ·rename_i ld
      rw[aA ld]at hz;exact hp.at_ j u z hu (by simpa using hz))
    refine⟨uf,?_,h2⟩;simp only[nq,Instr.fill,lL,ec,Bool.false_or,ne_eq,not_true_eq_false,decide_false];rw[To];rw[aA (by simp;omega)]
    exact h1
  ·cases hf
def placeOf(P:Program)(t:TypeId):Option (Nat→Option (Nat×Nat)) :=
 match P.underlying t with
 |some (.array _ e)=>(P.info? e).map fun ie i=>some (i*ie.size,ie.size)
 |some (.struct fields)=>(fields.toList.mapM (fun f=>(P.info? f.type).map fun i=>(f.offset,i.size))).map fun places i=>places.toArray[i]?
 |_=>none
theorem adT{t:TypeId}{it:TypeInfo}{z:Value}{place:Nat→Option (Nat×Nat)}(hi:P.info? t=some it)(hz:it.zero=some z)(hp:placeOf P t=some place)(parts:List (Nat×Value)) :
  P.built t parts=Instr.fill place z.cells parts:=by
 unfold placeOf at hp;unfold Program.built;split at hp
 ·rename_i n e hu
  cases Fy:P.info? e with
  |none=>simp[Fy]at hp
  |some ie=>simp[Fy]at hp;subst hp;simp[hi,hu,hz,Fy]
 ·rename_i fields hu
  cases hm:fields.toList.mapM (fun f=>(P.info? f.type).map fun i=>(f.offset,i.size)) with
  |none=>simp[hm]at hp
  |some places=>simp[hm]at hp;subst hp;simp[hi,hu,hz,hm]
 ·cases hp
theorem adU{o:Oper}{t:TypeId}{it:TypeInfo}{z:Value}{place:Nat→Option (Nat×Nat)}{ps:Array (Nat×Operand)}{zero:List V}{qs:List (Nat×Nat×bp)}{C:br}(ho:o.op=.build t ps)
  (hi:P.info? t=some it) (hz:it.zero=some z) (lL:placeOf P t=some place) (hzero:uc z.cells.toList zero=true) (te:Bh place ps.toList qs=true)
  (hR:R E g S a w) (hd:∀d,o.dst=some d→d<E.nt) (ah:VO.run C o.dst S (.build zero qs)=some S'):cd P E o S S' a w:=by
 simp only[VO.run]at ah;split at ah
 ·rename_i cs hf
  cases ah;obtain⟨hl,hx⟩:=CP (X:=S.cx g w) hzero;obtain⟨xs,h1,h2⟩:=Tp hR te (xs:=z.cells) hf ⟨hl,fun i v y hv hy=>(hx i v y hv hy).2.2⟩;refine cd.put hR hd (x:=.agg xs) ?_ (.agg cs xs (by simpa using h2.len) (fun i v y hv hy=>h2.at_ i v y hv (by simpa using hy)))
  have hb:=adT hi hz lL ((ps.map fun(i,x)=>(i,a.eval x)).toList);rw[L4,h1]at hb;have:=run_build (P:=P) w t (ps.map fun(i,x)=>(i,a.eval x)) xs (by rw[L4];exact hb)
  simp only[execOp,ho];simp only[Sem.run_bind,this,Result.andThen_ok,Sem.run_pure]
 ·cases ah
theorem R.MQ(hR:R E g S a w){c:Array Value}{e:TypeId}(hw:w'.heap=w.heap.push (.cells c e (0,0)))(h1:w'.os=w.os)(h2:w'.tape=w.tape)(h3:w'.output=w.output)
  {n:Nat} {ys:List (List V)} {l:List Value} (hl:jB w.heap g.m n ys l) (hc:∀(j:Nat) (y:Value),l[j]?=some y→c[j]?=some y) {cap:Nat} (en:ys.length≤cap) :
  ∃g',R E g' S a w'∧aZ (S.cx g' w') (.slice none n ys) (.slice (some ⟨w.heap.size,0,none⟩) ys.length cap):=by
 let g':Gh:={ g with m:=cU g.m w.heap.size (ys.length*n),ow:=cU g.ow w.heap.size .none }
 have t:Touch E g S w g' S.bf S.ay.length w' w.heap.size none none:=Fi hR hw h1 h2 h3 (fun b hb=>fN _ _ hb) (fun b hb=>fN _ _ hb)
  (fun i _=>rfl) (fun i _=>rfl) (fun i _=>rfl) (fun i _=>rfl) (fun i _=>rfl) (bR _) (fun i a b=>absurd a (by omega)) (fun i e=>by(have e:cU g.ow w.heap.size .none w.heap.size=.ay i:=e);rw[dF]at e;cases e)
 have ku:=Fk hw;refine⟨g',R.nB t hR rfl rfl (fun i=>.inl (t.keeps hR (fun e=>by cases e) (fun e=>by cases e) (fun h=>absurd h (gO _)))) (fun s v hs=>.inl hs)
  (fun i cs ho=>.inl ⟨ho,(fun e=>by cases e),fun h=>absurd h (gO _)⟩) (fun i k b hi hb=>.inl ⟨(fun e=>by cases e),fun h=>absurd h (gO _)⟩)
  (fun i o ho=>.inl ⟨ho,fun h=>absurd h (gO _)⟩),?_⟩
 have hm:g'.m w.heap.size=ys.length*n:=dF _ _ _;refine .plain (Bf (m:=g'.m) (l:=l) (hl.mono t.le) (by show _<w'.heap.size;rw[hw];simp) en (fun j y hj=>?_) (by omega) _) (fun i n' oT he k hk=>by cases he)
 show cellAt w'.heap _ _=_;rw[kr ku,jz];exact hc j y hj
def MR:Value→Option Nat→V→Bool
 |.int k n,none,.int k' n'=>decide (k=k')&&n==n'
 |.bool b,none,.bool c=>b==c
 |.string s,none,.str l=>s.data.toList==l
 |.slice none 0 0,some n,.slice none m []=>n==m
 |_,_,_=>false
def ug:List Value→Sh→List V→Bool
 |[],[],[]=>true
 |x::xs,h::sh,v::vs=>MR x h v&&ug xs sh vs
 |_,_,_=>false
theorem adV{h:Array Obj}{m:Nat→Nat}{x:Value}{s:Option Nat}{v:V}(he:MR x s v=true):v.plain=true∧fa h m v x:=by
 unfold MR at he;split at he
 ·simp at he;obtain⟨rfl,rfl⟩:=he;exact⟨rfl,.int _ _⟩
 ·simp at he;subst he;exact⟨rfl,.bool _⟩
 ·simp at he;subst he;exact⟨rfl,.str _⟩
 ·exact⟨rfl,.nil _ _⟩
 ·cases he
theorem Ts{h:Array Obj}{m:Nat→Nat}:∀{xs:List Value} {sh:Sh} {vs:List V},ug xs sh vs=true→vs.length=sh.length∧xs.length=sh.length ∧
  ∀(i:Nat) (v:V),vs[i]?=some v→∃x,xs[i]?=some x∧v.plain=true∧fa h m v x
 |[],[],[],_=>by simp
 |x::xs,s::sh,v::vs,he=>by
  simp only[ug,bQ]at he;obtain⟨p,q,r⟩:=Ts (h:=h) (m:=m) he.2;refine⟨by simp[p],by simp[q],fun i u hu=>?_⟩
  cases i with
  |zero=>simp at hu;subst hu;exact⟨x,by simp,adV he.1⟩
  |succ i=>obtain⟨y,hy,z⟩:=r i u (by simpa using hu);exact⟨y,by simpa using hy,z⟩
 |[],[],_::_,he=>by simp[ug]at he
 |[],_::_,_,he=>by simp[ug]at he
 |_::_,[],_,he=>by simp[ug]at he
 |_::_,_::_,[],he=>by simp[ug]at he
theorem Tt{h:Array Obj}{m:Nat→Nat}{sh:Sh}{zs:List Value}{zero:List V}(hz:ug zs sh zero=true)(n:Nat) :
  jB h m sh.length (List.replicate n zero) ((List.range (n*sh.length)).map fun k=>zs.getD (k % sh.length) default):=by
 obtain⟨hl,pF,hx⟩:=Ts (h:=h) (m:=m) hz;refine⟨by simp,fun i row hr=>?_,fun i row j v hr hj=>?_⟩
 ·rw[Mi]at hr
  split at hr<;>cases hr;exact hl
 ·rw[Mi]at hr
  split at hr
  ·rename_i hi
   cases hr;obtain⟨u,hu,p,q⟩:=hx j v hj;have qe:j<zs.length:=eJ hu;have I5:j<sh.length:=by omega
   refine⟨p,u,?_,q⟩;have:=ME hi I5;simp only[tN,List.getElem?_range this,mT,Option.some.injEq];rw[Mt,Nat.add_mul_mod_self_right,Nat.mod_eq_of_lt I5];simp[List.getD,hu]
  ·cases hr
def Bj(len:Nat):List (Nat×Operand)→List (Nat×bp)→Bool
 |[],[]=>true
 |(i,y)::ps,(k,x)::qs=>i==k&&bO y x&&Bj len ps qs
 |_,_=>false
theorem adW{sh:Sh}{v:V}{r:List V}(h:my sh v.cells=some r):∀u∈v.cells,u.cI=true:=fun u hu=>by
 have:∀{sh:Sh} {vs us:List V},my sh vs=some us→∀u∈vs,u.cI=true:=by
  intro sh;induction sh with
  |nil=>intro vs us h u hu;cases vs<;>simp_all[my]
  |cons s sh ih =>
   intro vs us h u hu;cases vs with
   |nil=>simp at hu
   |cons z zs =>
    simp only[my]at h;split at h
    ·rename_i p q h1 h2
     rcases ko.1 hu with e|e
     ·subst e
      unfold el at h1;split at h1<;>first|rfl|cases h1
     ·exact ih h2 u e
    ·cases h
 exact this h u hu
theorem Tu(hR:R E g S a w){sh:Sh}:∀{ps:List (Nat×Operand)} {qs:List (Nat×bp)} {len:Nat},Bj len ps qs=true→∀{rs xH:List (List V)} {xs:Array Value},tZ S sh qs rs=some xH →
  jB w.heap g.m sh.length rs xs.toList→∃uf,Instr.fill (fun i=>some (i*sh.length,sh.length)) xs (ps.map fun(i,x)=>(i,a.eval x))=some uf∧jB w.heap g.m sh.length xH uf.toList∧xH.length=rs.length
 |[],[],_,_,rs,xH,xs,h,hp=>by simp only[tZ,Option.some.injEq]at h;subst h;exact⟨xs,rfl,hp,rfl⟩
 |[],_::_,_,h,_,_,_,_,_=>by simp[Bj]at h
 |_::_,[],_,h,_,_,_,_,_=>by simp[Bj]at h
 |(i,y)::ps,(k,x)::qs,len,h,rs,xH,xs,hf,hp=>by
  simp only[Bj,bQ,dO]at h;obtain⟨⟨rfl,ho⟩,bo⟩:=h;simp only[tZ]at hf;split at hf
  ·rename_i v hv
   split at hf
   ·rename_i r hr
    cases bB:Nat.blt i rs.length with
    |false=>simp[bB]at hf
    |true =>
     simp only[bB,bC]at hf;have bB:i<rs.length:=iD bB;obtain⟨hl,hx⟩:=CR (cS hR ho hv) (adW hr);obtain⟨e1,e2⟩:=Fp hr;have ec:(a.eval y).cells.size=sh.length:=by simp at hl;omega
     have Bi:=hp.len;simp only[wz]at Bi;have fu:i*sh.length+sh.length≤rs.length*sh.length:=by
      have:=rI sh.length bB;rw[nU]at this;exact this
     obtain⟨uf,h1,h2,h3⟩:=Tu hR (ps:=ps) (xs:=((a.eval y).cells.toList.zipIdx 0).foldl (fun cs (p:Value×Nat)=>cs.setIfInBounds (i*sh.length+p.2) p.1) xs) bo hf (by
      refine⟨?_,fun k row hk=>?_,fun k row j u hk hj=>?_⟩
      ·rw[oJ,← Bi];exact MP _ _ _ _
      ·rw[km]at hk
       split at hk
       ·first
        |(cases hk;exact e1)
        |(split at hk
          ·cases hk;exact e1
          ·cases hk)
       ·exact hp.row k row hk
      ·have MS:k<rs.length:=by have:=eJ hk;simpa using this
       rw[km]at hk;simp only[Ii,MO,wE,wz,ec,Bi];split at hk
       ·rename_i jL
        subst jL;have hk:r=row:=by simpa [bB] using hk
        subst hk;have qe:=eJ hj;rw[e1]at qe;obtain⟨z,s,hz,lK⟩:=IZ hr j u hj;have qN:j<(a.eval y).cells.size:=by omega
        obtain⟨p,q⟩:=Fo lK (hx j z (a.eval y).cells[j] hz (by simp[qN]))
        refine⟨p,_,?_,q⟩;rw[aP (by omega),SQ]
        simp[qN]
       ·rename_i jL
        obtain⟨p,z,hz,q⟩:=hp.cell k row j u hk hj;have qe:=eJ hj;rw[hp.row k row hk]at qe;refine⟨p,z,?_,q⟩;rw[aA]
        ·simpa using hz
        ·rintro⟨p1,p2,_⟩
         rcases cF i k with h|h
         ·have:=rI sh.length h
          rw[nU]at this;omega
         ·have h:k<i:=by omega
          have:=rI sh.length h;rw[nU]at this;omega)
     refine⟨uf,?_,h2,by rw[h3];simp⟩
     simp only[nq,Instr.fill,ec,Bool.false_or,ne_eq,not_true_eq_false,decide_false];rw[To];rw[aA (by simp;omega)]
     exact h1
   ·cases hf
  ·cases hf
theorem Tv(n m:Nat)(zs:Array Value)(hz:zs.size=m)(hm:0<m):((Array.range (n*m)).map fun i=>zs[i % zs.size]!).toList=(List.range (n*m)).map fun k=>zs.toList.getD (k % m) default:=by
 apply xq;intro j;by_cases hj:j<n*m
 ·have:=IG j hm
  have h2:j % m<zs.size:=by omega
  simp[hj,hz,List.getD];rw[getElem!_pos zs (j % m) h2];simp[h2]
 ·simp[hj]
theorem adX{o:Oper}{t e:TypeId}{ie:TypeInfo}{z:Value}{tok:Option Nat}{sh:Sh}{zero:List V}{len:Nat}{ps:Array (Nat×Operand)}{qs:List (Nat×bp)}{C:br}(ho:o.op=.buildSlice t len ps)
  (ht:P.underlying t=some (.slice e)) (hi:P.info? e=some ie) (hz:ie.zero=some z) (ec:ie.size=sh.length) (oe:z.cells.size=sh.length) (gR:0<sh.length) (hlen:0<len) (adY:len*sh.length≤16777216)
  (vp:ug z.cells.toList sh zero=true) (te:Bj len ps.toList qs=true) (hn:∀f,tok=some f→S.eM f)
  (hR:R E g S a w) (hd:∀d,o.dst=some d→d<E.nt) (ah:VO.run C o.dst S (.lit tok sh zero len qs)=some S'):cd P E o S S' a w:=by
 simp only[VO.run]at ah;split at ah
 ·rename_i rs hf
  have hzero:jB w.heap g.m sh.length (List.replicate len zero) ((Array.range (len*ie.size)).map fun i=>z.cells[i % z.cells.size]!).toList:=by
   rw[ec,Tv len sh.length z.cells oe gR];exact Tt vp len
  obtain⟨xs,h1,h2,h3⟩:=Tu hR te (xs:=(Array.range (len*ie.size)).map fun i=>z.cells[i % z.cells.size]!) hf hzero;have h3:rs.length=len:=by simpa using h3
  have hbs:=run_buildSlice (P:=P) w t e len (ps.map fun(i,x)=>(i,a.eval x)) xs ie z ht hi hz (by rw[ec];omega) (by rw[ec];have:=Mw hlen gR;omega) (by rw[L4,ec];rw[ec]at h1;exact h1)
  have fh:(execOp a.eval o).run P w=.ok (.value (.slice (some ⟨w.heap.size,0,none⟩) len len)) (w.alloc (.cells xs e)):=by
   simp only[execOp,ho];simp only[Sem.run_bind,hbs,Result.andThen_ok,Sem.run_pure]
  have I6:=h2.len;simp only[wz,h3]at I6;split at ah
  ·rename_i f
   cases ah;obtain⟨g',r1,r2⟩:=hR.MJ (w':=w.alloc (.cells xs e)) (f:=f) rfl rfl rfl rfl (n:=sh.length) (ys:=rs) (l:=xs.toList) (by omega) (.inl (hn f rfl)) h2 (fun j y hj=>by simpa using hj) (cap:=len) (by omega) (by omega)
   rw[h3]at r1 r2;exact .value fh (r1.put hd r2)
  ·cases ah
   obtain⟨g',r1,r2⟩:=hR.MQ (w':=w.alloc (.cells xs e)) rfl rfl rfl rfl (n:=sh.length) (ys:=rs) (l:=xs.toList) h2 (fun j y hj=>by simpa using hj) (cap:=len) (by omega)
   rw[h3]at r2;exact .value fh (r1.put hd r2)
 ·cases ah
theorem wrap_small{n:Int}(h0:0≤n)(h1:n≤lim):IntKind.i64.wrap n=n:=by
 unfold lim at h1;exact IntWalk.i64_in _ (by omega)
theorem Tw{t e:TypeId}{ie:TypeInfo}{z:Value}{k:IntKind}{n:Int}(ht:P.underlying t=some (.slice e))(hi:P.info? e=some ie)(hz:ie.zero=some z)(gR:0<ie.size)(r8:ie.bytes≤32768)(h0:0≤n)(h1:n≤lim) :
  (Instr.makeSlice t (.int k n) (.int k n)).run P w=.ok (.slice (some ⟨w.heap.size,0,none⟩) n.toNat n.toNat) (w.alloc (.cells ((Array.range (n.toNat*ie.size)).map fun i=>z.cells[i % z.cells.size]!) e)):=by
 have hb:(ie.bytes:Int)*n≤281474976710656:=by
  unfold lim at h1;have a1:(ie.bytes:Int)≤32768:=by omega
  have:=EJ a1 h1 h0 (by decide)
  simp at this;omega
 have hw:=wrap_small h0 h1;by_cases hn:n.toNat*ie.size=0
 ·have wM:n.toNat=0:=by
   rcases II.1 hn with h|h
   ·exact h
   ·omega
  have:n=0:=by omega
  subst this;simp[Instr.makeSlice,iN ht,asInt,asIntOf,typeInfo,hi,hw,sizeOf,newRow,show Array.range 0 = #[] from rfl]
 ·have h3:¬ (n<0):=by omega
  have h4:¬ (281474976710656<(ie.bytes:Int)*n):=by omega
  simp[Instr.makeSlice,iN ht,asInt,asIntOf,typeInfo,hi,hw,sizeOf,newRow,h3,h4,hn,zeroValue,hz]
theorem Tx(zero:List V):∀(n k:Nat),(List.replicate n zero).flatten[k]?=if k<n*zero.length then zero[k % zero.length]? else none
 |0,k=>by simp
 |n+1,k=>by
  have e:(n+1)*zero.length=n*zero.length+zero.length:=nU _ _;rw[zC,sV,pj,Tx zero n,e];generalize n*zero.length=q;by_cases h:k<zero.length
  ·rw[aP h,aP (by omega),Nat.mod_eq_of_lt h]
  ·rw[aA h]
   by_cases h2:k<q+zero.length
   ·rw[aP h2,aP (by omega),Nat.mod_eq_sub_mod (a:=k) (by omega)]
   ·rw[aA h2,aA (by omega)]
theorem ad0{o:Oper}{t e:TypeId}{ie:TypeInfo}{z:Value}{id:Nat}{zero:List V}{p p':Operand}{x:bp}{C:br}(ho:o.op=.makeSlice t p p')
  (ht:P.underlying t=some (.slice e)) (hi:P.info? e=some ie) (hz:ie.zero=some z) (ec:ie.size=zero.length) (gR:0<ie.size) (r8:ie.bytes≤32768)
  (zT:uc z.cells.toList zero=true) (hp:bO p x=true) (xI:bO p' x=true) (hn:S.eM id)
  (hR:R E g S a w) (hd:∀d,o.dst=some d→d<E.nt) (ah:VO.run C o.dst S (.s6 id zero x)=some S'):cd P E o S S' a w:=by
 simp only[VO.run]at ah;split at ah
 ·rename_i k n hx
  cases hc:(decide (0≤n)&&decide (n≤(lim:Int))) with
  |false=>simp[hc]at ah
  |true =>
   simp only[hc,bC]at ah;simp only[bQ,jA]at hc;cases ah;have e1:=lX (cS hR hp hx);have MT:=lX (cS hR xI hx);obtain⟨hl,hv⟩:=CP (X:=S.cx g w) zT;have oe:z.cells.size=ie.size:=by rw[ec];simpa using hl.symm
   have hm:=Tw (P:=P) (w:=w) (k:=k) ht hi hz gR r8 hc.1 hc.2;obtain⟨g',r1,r2,r3⟩:=hR.newObj (cpn:=n.toNat*zero.length) (hcpn:=by simp[ec]) (w':=w.alloc (.cells ((Array.range (n.toNat*ie.size)).map fun i=>z.cells[i % z.cells.size]!) e)) hn rfl rfl rfl rfl (cs:=(List.replicate n.toNat zero).flatten) (fun j v hj=>by
    rw[Tx]at hj;split at hj
    ·rename_i bB
     have mE:j % zero.length<z.cells.size:=by rw[oe,ec];exact IG _ (by omega)
     obtain⟨q1,q2,q3⟩:=hv (j % zero.length) v z.cells[j % zero.length] hj (by simp[mE])
     refine⟨q1,q2 _,z.cells[j % zero.length],?_,q3⟩;simp[oe,ec,bB];rw[getElem!_pos z.cells (j % zero.length) mE]
    ·cases hj)
   refine cd.value (x:=.slice (some ⟨w.heap.size,0,none⟩) n.toNat n.toNat) (g':=g') (w':=w.alloc (.cells ((Array.range (n.toNat*ie.size)).map fun i=>z.cells[i % z.cells.size]!) e)) ?_ (r1.put hd ?_)
   ·simp only[execOp,ho,e1,MT]
    simp only[Sem.run_bind,hm,Result.andThen_ok,Sem.run_pure]
   ·rw[←r2];exact .bP id _ _ _ (bR _) r3.symm
 ·cases ah
theorem ad1{o:Oper}{t e:TypeId}{ie:TypeInfo}{z:Value}{sh:Sh}{zero:List V}{len:Nat}{p p':Operand}{C:br}(ho:o.op=.makeSlice t p p')
  (ht:P.underlying t=some (.slice e)) (hi:P.info? e=some ie) (hz:ie.zero=some z) (ec:ie.size=sh.length) (oe:z.cells.size=sh.length) (r8:ie.bytes≤32768) (gR:0<sh.length) (adY:len≤65536)
  (vp:ug z.cells.toList sh zero=true) (hp:bO p (.c (.int .i64 len))=true) (xI:bO p' (.c (.int .i64 len))=true)
  (hR:R E g S a w) (hd:∀d,o.dst=some d→d<E.nt) (ah:VO.run C o.dst S (.lit none sh zero len [])=some S'):cd P E o S S' a w:=by
 simp only[VO.run,tZ]at ah;cases ah;have hzero:jB w.heap g.m sh.length (List.replicate len zero) ((Array.range (len*ie.size)).map fun i=>z.cells[i % z.cells.size]!).toList:=by
  rw[ec,Tv len sh.length z.cells oe gR];exact Tt vp len
 have e1:=lX (cS hR hp rfl);have MT:=lX (cS hR xI rfl);have hm:=Tw (P:=P) (w:=w) (k:=.i64) (n:=(len:Int)) ht hi hz (by omega) r8 (by omega) (by unfold lim;omega)
 simp only[Md]at hm;obtain⟨g',r1,r2⟩:=hR.MQ (w':=w.alloc (.cells ((Array.range (len*ie.size)).map fun i=>z.cells[i % z.cells.size]!) e)) rfl rfl rfl rfl (n:=sh.length) (ys:=List.replicate len zero) (l:=((Array.range (len*ie.size)).map fun i=>z.cells[i % z.cells.size]!).toList) hzero (fun j y hj=>by rw[←Ii];exact hj) (cap:=len) (by simp)
 rw[ET]at r2;refine cd.value (x:=.slice (some ⟨w.heap.size,0,none⟩) len len) (g':=g') (w':=w.alloc (.cells ((Array.range (len*ie.size)).map fun i=>z.cells[i % z.cells.size]!) e)) ?_ (r1.put hd r2);simp only[execOp,ho,e1,MT];simp only[Sem.run_bind,hm,Result.andThen_ok,Sem.run_pure]
theorem MU{t:TypeId}{n:Nat}(hs:eW P t=some n){b o:Nat}{v:Value}(hv:v.cells.size=n){c:Array Value}{e:TypeId}(hb:w.heap[b]?=some (.cells c e (0,0)))(fu:o+n≤c.size)
  (h1:∀y∈v.cells.toList,y.oneCell'=true):(storeVar t ⟨b,o,none⟩ v).run P w=.ok () (w.setRow b (c.toList.take o++v.cells.toList++c.toList.drop (o+n)).toArray):=by
 have hZ:=run_storeCells_at P b o e v.cells.toList 0 c w hb (by simp;omega) h1
 simp only[wE,wz,hv]at hZ;simp[storeVar,nZ hs,hv,hZ]
theorem zU{c:Array Value}{l:List Value}{o:Nat}(fu:o+l.length≤c.size)(k:Nat):(c.toList.take o++l++c.toList.drop (o+l.length)).toArray[k]?=if o≤k∧k<o+l.length then l[k-o]? else c[k]?:=by
 simp only[CG,u4];by_cases h:k<o
 ·rw[sW (by simp;omega),aA (by omega)]
  simp[h]
 ·rw[u5 (by simp;omega)]
  have e:(c.toList.take o).length=o:=by simp;omega
  rw[e];by_cases h2:k-o<l.length
  ·rw[sW h2,aP (by omega)]
  ·rw[u5 (by omega),aA (by omega),nT]
   simp;congr 1;omega
theorem CU{c:Array Value}{l:List Value}{o:Nat}(fu:o+l.length≤c.size):(c.toList.take o++l++c.toList.drop (o+l.length)).toArray.size=c.size:=by
 simp;omega
theorem Fz(w:World)(b i:Nat)(c:Array Value)(h:i≠b):(w.setRow b c).heap[i]?=w.heap[i]?:=by
 simp only[World.setRow,CD];rw[aA (by omega)]
theorem CV{b:Nat}{c':Array Value}(hm:g.m b=0)(xJ:E.w0.heap.size≤b∨∃i,i<E.N0∧E.g0.ow b=.ay i)(FA:∀p q,g.ow b≠.cell p q)(hR:R E g S a w) :
  Touch E g S w g S.bf S.ay.length (w.setRow b c') b none none where
 os:=rfl
 tape:=rfl
 output:=rfl
 size:=by simp
 heap:=fun i hi _=>Fz w b i c' hi
 m:=fun _ _=>rfl
 ow:=fun _ _=>rfl
 κ:=fun _ _=>rfl
 cp:=fun _ _=>rfl
 τ:=fun _ _=>rfl
 T:=fun _ _=>rfl
 γ:=fun _ _=>rfl
 eD:=bR _
 γnew:=fun i a b=>absurd a (by omega)
 fresh:=xJ.imp (fun z=>z) .inl
 hY:=fun p q _ e=>absurd e (FA p q)
 lv:=fun i e=>hR.CO e (bR _)
 jJ:=fun o y ho _=>absurd ho (by omega)
 pC:=fun _=>bR _
theorem ad2{o:Oper}{t:TypeId}{sh:Sh}{p q:Operand}{x y:bp}{id off:Nat}{cs:List V}{v:V}(ho:o.op=.store t p q)(vv:o.dst=none)(hs:eW P t=some sh.length)(hp:bO p x=true)(hq:bO q y=true)
  (hR:R E g S a w) (hx:S.ev x=some (.bG id off)) (hy:S.ev y=some v) (ff:look id S.aW=some cs) (hl:v.cells.length=sh.length) (hle:off+sh.length≤cs.length) (iX:∀u∈v.cells,u.cI=true) (gR:0<sh.length) :
  cd P E o S { S with aW:=(id,iF cs off v.cells)::S.aW } a w:=by
 rcases hR.aW id cs ff with⟨h0,vq⟩ | ⟨cj,fU,hm,c,e,hh,fJ,hj⟩
 ·subst h0;simp only[sX]at hle;omega
 obtain⟨lL,CW⟩:=CR (cS hR hq hy) iX;have ec:(a.eval q).cells.size=sh.length:=by simp at lL;omega
 have hc:cs.length≤c.size:=by
  rcases cF c.size cs.length with h|h
  ·obtain⟨_,y,hy,_⟩:=hj c.size cs[c.size] (gG h)
   simp at hy
  ·exact h
 have h1:∀y∈(a.eval q).cells.toList,y.oneCell'=true:=fun y hy=>by
  obtain⟨k,hk⟩:=qB.1 hy;have MS:=eJ hk;have qO:k<v.cells.length:=by omega
  exact MC (CW k v.cells[k] y (gG qO) hk) (iX _ (Mj qO))
 have fu:off+(a.eval q).cells.toList.length≤c.size:=by simp;omega
 have ah:=MU (P:=P) (w:=w) hs (v:=a.eval q) ec hh (o:=off) (by omega) h1
 have hlen:(a.eval q).cells.toList.length=sh.length:=by simpa using ec
 rw[←hlen]at ah
 let c':Array Value:=(c.toList.take off++(a.eval q).cells.toList++c.toList.drop (off+(a.eval q).cells.toList.length)).toArray
 have ku:(w.setRow (g.κ id) c').heap[g.κ id]?=some (.cells c' e (0,0)):=setRow_heap w _ c c' e _ hh;have tt:=CV (c':=c') (S:=S) (w:=w) hm (.inl fU) (fun _ _ e=>by rw[cj]at e;cases e) hR
 have hk:∀i,iM (S.cx g w) ⟨(w.setRow (g.κ id) c').heap,g,S.ay.length,S.bf⟩ i:=fun i=>tt.keeps hR (fun e=>by cases e) (fun e=>by cases e) (fun _ e=>by rw[cj]at e;cases e)
 refine cd.skip (g':=g) (w':=w.setRow (g.κ id) c') ?_ vv (R.nB tt hR rfl rfl (fun i=>.inl (hk i)) (fun s v hs=>.inl hs) (fun i dQ hi=>?_) (fun f k b hf hb=>.inl ⟨(fun e=>by cases e),fun _ e=>by rw[cj]at e;cases e⟩)
  (fun i o hi=>.inl ⟨hi,fun _=>⟨fun e=>(by rw[cj]at e;cases e),fun _ e=>(by rw[cj]at e;cases e)⟩⟩))
 ·simp only[execOp,ho,zM (cS hR hp hx)]
  have Bb:(storeVar t ⟨(S.cx g w).g.κ id,off,none⟩ (a.eval q)).run P w=.ok () (w.setRow (g.κ id) c'):=ah;simp[Instr.storeAt,Instr.sureAddr,Bb]
 ·rw[dj]at hi
  by_cases jk:id=i
  ·subst jk
   rw[aP rfl]at hi;cases hi;refine .inr ⟨cj,fU,hm,c',e,ku,(by rw[CU (by omega)];exact fJ),fun j u hu=>?_⟩
   rw[zS]at hu;show _∧∃y,c'[j]?=some y∧_;rw[show c'[j]?=_ from zU fu j];split at hu
   ·rename_i ld
    rw[aP (by omega)]
    have qP:=eJ hu;have qe:j-off<(a.eval q).cells.toList.length:=by omega
    exact⟨iX u (gH hu),_,gG qe,(CW (j-off) u _ hu (gG qe)).mono tt.le (fun i=>.inl (hk i))⟩
   ·rename_i ld
    have zV:=eJ hu;rw[aA (by omega)]
    obtain⟨q1,z,q2,q3⟩:=hj j u hu;exact⟨q1,z,q2,q3.mono tt.le (fun i=>.inl (hk i))⟩
  ·rw[aA jk]at hi
   exact .inl ⟨hi,(fun e=>by cases e),fun _ e=>jk (by rw[cj]at e;cases e;rfl)⟩
theorem CX{X:Cx}{sh:Option Nat}{v u:V}{y:Value}(h:py sh v=some u)(hr:aZ X v y):u.cI=true∧(∀d,u.ch d=false)∧aZ ⟨X.h,X.g,X.N,[]⟩ u y∧v.cI=true:=by
 have vp:∀{v u},el sh v=some u→aZ X v y→u.cI=true∧(∀d,u.ch d=false)∧aZ ⟨X.h,X.g,X.N,[]⟩ u y∧v.cI=true:=fun {v u} h hr=>by
  obtain⟨p,q⟩:=Fo h hr;refine⟨by cases u<;>simp_all[V.plain,V.cI],fun d=>?_,.plain q (tc p),?_⟩
  ·cases u<;>simp_all[V.plain,V.ch,V.dv,V.cA]
   rename_i tok _ _;cases tok<;>simp_all[V.cA]
  ·unfold el at h
   split at h<;>first|rfl|cases h
 unfold py at h;split at h
 ·cases h;obtain⟨e,hi⟩:=zN hr;rw[e];exact⟨rfl,fun _=>rfl,.bI _ _ hi,rfl⟩
 ·cases h;cases hr with
  |plain h _=>cases h
  |da _ _ _ _ h hl=>exact⟨rfl,fun _=>rfl,.da _ _ _ _ h hl,rfl⟩
  |s8 _ _ h hz=>exact⟨rfl,fun _=>rfl,.s8 _ _ h hz,rfl⟩
 ·cases h;cases hr with
  |plain h _=>cases h
  |fQ=>exact⟨rfl,fun _=>rfl,.fQ,rfl⟩
 ·cases h;cases hr with
  |plain h _=>cases h
  |fn _ _ xs hl hx=>exact⟨rfl,fun _=>rfl,.fn _ _ xs hl hx,rfl⟩
 ·cases h;cases hr with
  |plain h _=>cases h
  |fR=>exact⟨rfl,fun _=>rfl,.fR,rfl⟩
 ·cases h;cases hr with
  |plain h _=>cases h
  |map _ hi=>exact⟨rfl,fun _=>rfl,.map _ hi,rfl⟩
 ·cases h;cases hr with
  |plain h _=>cases h
  |fS=>exact⟨rfl,fun _=>rfl,.fS,rfl⟩
 ·exact vp h hr
theorem MV:∀{sh:Sh} {vs us:List V},s7 sh vs=some us→us.length=sh.length∧vs.length=sh.length
 |[],[],us,h=>by simp[s7]at h;subst h;simp
 |[],_::_,_,h=>by simp[s7]at h
 |_::_,[],_,h=>by simp[s7]at h
 |s::sh,v::vs,us,h=>by
  simp only[s7]at h;split at h
  ·rename_i u m6 h1 h2
   cases h;obtain⟨a,b⟩:=MV h2;simp[a,b]
  ·cases h
theorem MW:∀{sh:Sh} {vs us:List V},s7 sh vs=some us→∀(j:Nat) (u:V),us[j]?=some u→∃v s,vs[j]?=some v∧py s v=some u
 |[],[],us,h,j,u,hu=>by simp[s7]at h;subst h;simp at hu
 |[],_::_,_,h,_,_,_=>by simp[s7]at h
 |_::_,[],_,h,_,_,_=>by simp[s7]at h
 |s::sh,v::vs,us,h,j,u,hu=>by
  simp only[s7]at h;split at h
  ·rename_i u' m6 h1 h2
   cases h;cases j with
   |zero=>simp at hu;subst hu;exact⟨v,s,by simp,h1⟩
   |succ j=>obtain⟨z,t,p,q⟩:=MW h2 j u (by simpa using hu);exact⟨z,t,by simpa using p,q⟩
  ·cases h
theorem ad3{s:Option Nat}{v u:V}(h:py s v=some u):v.cI=true:=by
 unfold py at h;split at h
 all_goals first|rfl|skip
 unfold el at h;split at h<;>first|rfl|cases h
theorem Ty{h:Array Obj}{m:Nat→Nat}{t t':Option Nat}{n:Nat}{es:List (List V)}{x:Value}(hr:fa h m (.slice t n es) x):fa h m (.slice t' n es) x:=by
 cases hr with
 |nil=>exact .nil _ _
 |empty _ _ a cap=>exact .empty _ _ a cap
 |slice _ _ _ b off cap ys hb en iw hc hv hp hm=>exact .slice t' n es b off cap ys hb en iw hc hv hp hm
def zW:Value→Option Nat
 |.slice (some a) (_+1) _=>some a.block
 |_=>none
theorem FB{a:Addr}{n c:Nat}(h:0<n):zW (.slice (some a) n c)=some a.block:=by
 cases n with
 |zero=>omega
 |succ n=>rfl
theorem MX{x:Value}(h:kX x):zW x=none:=by
 rcases h with rfl | ⟨a,rfl⟩<;>rfl
theorem CY{X:Cx}{sh:Option Nat}{v u:V}{y:Value}(h:A3 sh v=some u)(hr:aZ X v y) :
  u.cI=true∧(∀d,u.ch d=false)∧aZ ⟨X.h,X.g,X.N,[]⟩ u y∧v.cI=true∧∀n es,u=.e9 n es→es=[]∧kX y:=by
 have hg:∀{v u},py sh v=some u→aZ X v y→u.cI=true∧(∀d,u.ch d=false)∧aZ ⟨X.h,X.g,X.N,[]⟩ u y∧v.cI=true∧∀n es,u=.e9 n es→es=[]∧kX y:=fun {v u} h hr=>by
  obtain⟨h1,h2,h3,h4⟩:=CX h hr;refine⟨h1,h2,h3,h4,fun n es e=>?_⟩;subst e;exfalso;unfold py at h;split at h
  all_goals first|(cases h;done)|skip
  unfold el at h;split at h
  all_goals first|(cases h;done)|skip
  split at h<;>cases h
 unfold A3 at h;split at h
 ·split at h
  ·cases h
   have e:=nY hr;subst e;exact⟨rfl,fun _=>rfl,.e9 (.nil _ _),rfl,fun n es e=>by cases e;exact⟨rfl,.inl rfl⟩⟩
  ·exact hg h hr
 ·cases h
  have hz:=ta hr;exact⟨rfl,fun _=>rfl,.e9 (by rcases hz with rfl | ⟨a,rfl⟩<;>first|exact .nil _ _|exact .empty _ _ a 0),rfl,fun n es e=>by cases e;exact⟨rfl,hz⟩⟩
 ·exact hg h hr
theorem FC:∀{sh:Sh} {vs us:List V},lW sh vs=some us→us.length=sh.length∧vs.length=sh.length
 |[],[],us,h=>by simp[lW]at h;subst h;simp
 |[],_::_,_,h=>by simp[lW]at h
 |_::_,[],_,h=>by simp[lW]at h
 |s::sh,v::vs,us,h=>by
  simp only[lW]at h;split at h
  ·rename_i u m6 h1 h2
   cases h;obtain⟨a,b⟩:=FC h2;simp[a,b]
  ·cases h
theorem zX:∀{sh:Sh} {vs us:List V},lW sh vs=some us→∀(j:Nat) (u:V),us[j]?=some u→∃v s,vs[j]?=some v∧A3 s v=some u
 |[],[],us,h,j,u,hu=>by simp[lW]at h;subst h;simp at hu
 |[],_::_,_,h,_,_,_=>by simp[lW]at h
 |_::_,[],_,h,_,_,_=>by simp[lW]at h
 |s::sh,v::vs,us,h,j,u,hu=>by
  simp only[lW]at h;split at h
  ·rename_i u' m6 h1 h2
   cases h;cases j with
   |zero=>simp at hu;subst hu;exact⟨v,s,by simp,h1⟩
   |succ j=>obtain⟨z,t,p,q⟩:=zX h2 j u (by simpa using hu);exact⟨z,t,by simpa using p,q⟩
  ·cases h
theorem ad4{s:Option Nat}{v u:V}(h:A3 s v=some u):v.cI=true:=by
 unfold A3 at h;split at h
 ·rfl
 ·rfl
 ·exact ad3 h
theorem Tz{sh:Sh}{vs us:List V}(h:lW sh vs=some us):∀v∈vs,v.cI=true:=fun v hv=>by
 obtain⟨j,hj⟩:=qB.1 hv;obtain⟨e1,e2⟩:=FC h;have:=eJ hj;obtain⟨z,s,hz,hg⟩:=zX h j us[j] (gG (by omega))
 rw[hj]at hz;cases hz;exact ad4 hg
theorem MY{h:Array Obj}{g:Gh}{b j n:Nat}{x:Value}(hz:kX x):End h g b j n 0 x:=.inl ⟨rfl,hz⟩
theorem CZ(hR:R E g S a w){i:Nat}{o:aT}(ho:S.ay[i]?=some o)(cf:o≠.cells []):g.γ i<w.heap.size:=by
 obtain⟨_,h2⟩:=(hR.ay.obj i o ho).resolve_left cf;have key:∃ob,w.heap[g.γ i]?=some ob:=by
  cases o with
  |cells cs=>obtain⟨_,c,e,h4,_⟩:=h2;exact⟨_,h4⟩
  |map es=>obtain⟨_,c,e,h4,_⟩:=h2;exact⟨_,h4⟩
 obtain⟨ob,h4⟩:=key;rcases cF (g.γ i) w.heap.size with h|h
 ·exact h
 ·simp[lU h]at h4
theorem R.FD(hR:R E g S a w){b i:Nat}(cj:g.ow b=.ay i):E.w0.heap.size≤b∨∃k,k<E.N0∧E.g0.ow b=.ay k:=by
 rcases cF b E.w0.heap.size with h|h
 ·obtain⟨h1,h2⟩:=hR.same.lv b i cj h
  exact .inr ⟨i,h2,h1⟩
 ·exact .inl h
theorem TA{cs:List V}{k:Nat}{u:V}(h:cs[k]?=some u):aT.cells cs≠.cells []:=fun e=>by cases e;simp at h
theorem ad5{o:Oper}{t:TypeId}{sh:Sh}{p q:Operand}{x y:bp}{i off:Nat}{cs vs:List V}{v:V}(ho:o.op=.store t p q)(vv:o.dst=none)(hs:eW P t=some sh.length)(hp:bO p x=true)(hq:bO q y=true)
  (hR:R E g S a w) (hx:S.ev x=some (.bI i off)) (hy:S.ev y=some v) (ff:S.ay[i]?=some (.cells cs)) (hg:lW sh v.cells=some vs) (hle:off+vs.length≤cs.length) (cf:cs≠[]) :
  cd P E o S { S with ay:=S.ay.set i (.cells (iF cs off vs)) } a w:=by
 obtain⟨cj,hm,c,e,hh,dg,hj⟩:=(hR.ay.obj i _ ff).resolve_left (fun e=>cf (by cases e;rfl))
 have hi:=eJ ff;obtain⟨e1,e2⟩:=FC hg;have iX:=Tz hg;obtain⟨lL,CW⟩:=CR (cS hR hq hy) iX;have ec:(a.eval q).cells.size=sh.length:=by simp at lL;omega
 have h1:∀y∈(a.eval q).cells.toList,y.oneCell'=true:=fun y hy=>by
  obtain⟨k,hk⟩:=qB.1 hy;have MS:=eJ hk;have qO:k<v.cells.length:=by omega
  exact MC (CW k v.cells[k] y (gG qO) hk) (iX _ (Mj qO))
 have hlen:(a.eval q).cells.toList.length=sh.length:=by simpa using ec
 have fu:off+(a.eval q).cells.toList.length≤c.size:=by omega
 have ah:=MU (P:=P) (w:=w) hs (v:=a.eval q) ec hh (o:=off) (by omega) h1
 rw[←hlen]at ah
 let c':Array Value:=(c.toList.take off++(a.eval q).cells.toList++c.toList.drop (off+(a.eval q).cells.toList.length)).toArray
 have ku:(w.setRow (g.γ i) c').heap[g.γ i]?=some (.cells c' e (0,0)):=setRow_heap w _ c c' e _ hh;have tt:=CV (c':=c') (S:=S) (w:=w) hm (hR.FD cj) (fun _ _ e=>by rw[cj]at e;cases e) hR
 have hk:∀k,iM (S.cx g w) ⟨(w.setRow (g.γ i) c').heap,g,S.ay.length,S.bf⟩ k:=fun k=>tt.keeps hR (fun e=>by cases e) (fun e=>by cases e) (fun _ e=>by rw[cj]at e;cases e)
 have mX:Le ⟨w.heap,g,S.ay.length,[]⟩ ⟨(w.setRow (g.γ i) c').heap,g,S.ay.length,[]⟩:=⟨tt.le.size,tt.le.cells,tt.le.m,tt.le.eD,tt.le.γ⟩;refine cd.skip (g':=g) (w':=w.setRow (g.γ i) c') ?_ vv (R.nB tt hR rfl (by simp) (fun i=>.inl (hk i)) (fun s v hs=>.inl hs) (fun id dQ hi=>.inl ⟨hi,(fun e=>by cases e),fun _ e=>by rw[cj]at e;cases e⟩)
  (fun f k b hf hb=>.inl ⟨(fun e=>by cases e),fun _ e=>by rw[cj]at e;cases e⟩) (fun k o fp=>?_))
 ·obtain⟨ep,_⟩:=zN (cS hR hp hx)
  have Bb:(storeVar t ⟨(S.cx g w).g.γ i,off,none⟩ (a.eval q)).run P w=.ok () (w.setRow (g.γ i) c'):=ah;simp only[execOp,ho,ep];simp[Instr.storeAt,Instr.sureAddr,Bb]
 ·simp only[km]at fp
  by_cases jL:i=k
  ·subst jL
   simp[hi]at fp;subst fp;refine .inr ⟨cj,⟨hm,c',e,ku,by rw[I4];exact jT dg (tO (CU fu).symm),fun j u z hu hz=>?_⟩,fun j n es z hu hz=>?_⟩
   ·rw[zS]at hu
    rw[show c'[j]?=_ from zU fu j]at hz;split at hu
    ·rename_i ld
     rw[aP (by omega)]at hz
     obtain⟨u0,s,qQ,pG⟩:=zX hg _ u hu;obtain⟨q1,q2,q3,_⟩:=CY pG (CW (j-off) u0 z qQ hz);exact⟨q1,q2,q3.mono mX (fun d=>.inr (q2 d))⟩
    ·rename_i ld
     have zV:=eJ hu;rw[aA (by omega)]at hz
     obtain⟨q1,q2,q3⟩:=hj j u z hu hz;exact⟨q1,q2,q3.mono mX (fun d=>.inr (q2 d))⟩
   ·rw[zS]at hu
    rw[kr ku,show c'[j]?=_ from zU fu j]at hz;split at hu
    ·rename_i ld
     rw[aP (by omega)]at hz
     obtain⟨u0,s,qQ,pG⟩:=zX hg _ _ hu;obtain⟨_,_,_,_,q5⟩:=CY pG (CW (j-off) u0 z qQ hz);obtain⟨rfl,hz⟩:=q5 n es rfl;exact MY hz
    ·rename_i ld
     have zV:=eJ hu;rw[aA (by omega)]at hz
     rcases hR.ay.own i _ ff j n es z hu (by rw[kr hh];exact hz) with h | ⟨q,cap,c2,e',q1,q2,q3,q4,q5,q6⟩
     ·exact .inl h
     ·have cf:q≠g.γ i:=fun e=>by rw[e,cj]at q2;cases q2
      exact .inr ⟨q,cap,c2,e',q1,q2,q3,(Fz w _ q c' cf).trans q4,q5,q6⟩
  ·rw[aA jL]at fp
   exact .inl ⟨fp,fun _=>⟨fun e=>jL (by rw[cj]at e;cases e;rfl),fun _ e=>(by rw[cj]at e;cases e)⟩⟩
theorem ad6{o:Oper}{t:TypeId}{root:jc}{sh:Sh}{p q:Operand}{x y:bp}{C:br}(ho:o.op=.store t p q)(vv:o.dst=none)(hs:eW P t=some sh.length)(hp:bO p x=true)(hq:bO q y=true)
  (hR:R E g S a w) (ah:VO.run C o.dst S (.store root sh x y)=some S'):cd P E o S S' a w:=by
 simp only[VO.run]at ah;cases fu:S.fits root x with
 |false=>simp[fu]at ah
 |true =>
  simp only[fu,bC]at ah;split at ah
  ·rename_i id off v hx hy
   split at ah
   ·rename_i cs ff
    cases hc:(v.cells.length==sh.length&&Nat.ble (off+sh.length) cs.length&&v.cells.all V.cI&&Nat.blt 0 sh.length) with
    |false=>simp[hc]at ah
    |true =>
     simp only[hc,bC]at ah;simp only[bQ,dO,g9]at hc;cases ah;exact ad2 ho vv hs hp hq hR hx hy ff hc.1.1.1 (iD hc.1.1.2) hc.1.2 (by have:=hc.2;simp[Nat.blt]at this;omega)
   ·cases ah
  ·rename_i i off v hx hy
   split at ah
   ·rename_i cs ff
    split at ah
    ·rename_i vs hg
     cases hc:(Nat.ble (off+vs.length) cs.length&&Nat.blt 0 vs.length) with
     |false=>simp[hc]at ah
     |true =>
      simp only[hc,bC]at ah;cases ah;simp only[bQ]at hc;have hle:=iD hc.1;exact ad5 ho vv hs hp hq hR hx hy ff hg hle (fun e=>by have h2:=hc.2;subst e;simp only[Nat.blt,Nat.ble_eq,sX]at hle h2;omega)
    ·cases ah
   ·cases ah
  ·cases ah
theorem ad7{o:Oper}{t:TypeId}{sh:Sh}{p:Operand}{x:bp}{C:br}(ho:o.op=.box t p)(hp:bO p x=true)
  (hR:R E g S a w) (hd:∀d,o.dst=some d→d<E.nt) (ah:VO.run C o.dst S (.tP sh x)=some S'):cd P E o S S' a w:=by
 simp only[VO.run]at ah;split at ah
 ·rename_i v hv
  split at ah
  ·rename_i cs hg
   cases ah;obtain⟨e1,e2⟩:=FC hg;obtain⟨hl,hx⟩:=CR (cS hR hp hv) (Tz hg)
   let c:Array Value:=(a.eval p).cells
   let g':Gh:={ g with m:=cU g.m w.heap.size 0,γ:=cU g.γ S.ay.length w.heap.size,ow:=cU g.ow w.heap.size (.ay S.ay.length) }
   have hw:(w.alloc (.cells c t)).heap=w.heap.push (.cells c t (0,0)):=rfl;have t':Touch E g S w g' S.bf (S.ay.length+1) (w.alloc (.cells c t)) w.heap.size none none:=Fi hR hw rfl rfl rfl (fun b hb=>fN _ _ hb) (fun b hb=>fN _ _ hb)
    (fun i _=>rfl) (fun i _=>rfl) (fun i _=>rfl) (fun i _=>rfl) (fun i hi=>fN _ _ (by omega)) (by omega) (fun i h1 h2=>by
     have:i=S.ay.length:=by omega
     subst this;show _≤cU g.γ _ _ _;rw[dF];exact hR.same.size) (fun i e=>by
     have e:cU g.ow w.heap.size (.ay S.ay.length) w.heap.size=.ay i:=e;rw[dF]at e;cases e;exact⟨dF _ _ _,E0 _⟩)
   have lb:∀i,iM (S.cx g w) ⟨(w.alloc (.cells c t)).heap,g',S.ay.length+1,S.bf⟩ i:=fun i=>t'.keeps hR (fun e=>by cases e) (fun e=>by cases e) (fun h=>absurd h (gO _))
   have mX:Le ⟨w.heap,g,S.ay.length,[]⟩ ⟨(w.alloc (.cells c t)).heap,g',S.ay.length+1,[]⟩:=⟨t'.le.size,t'.le.cells,t'.le.m,t'.le.eD,t'.le.γ⟩;have hγ:g'.γ S.ay.length=w.heap.size:=dF _ _ _;have r1:R E g' { S with ay:=S.ay++[.cells cs] } a (w.alloc (.cells c t)):=R.nB t' hR rfl (by simp) (fun i=>.inl (lb i)) (fun s v hs=>.inl hs)
    (fun id dQ hi=>.inl ⟨hi,(fun e=>by cases e),fun h=>absurd h (gO _)⟩) (fun f k b hf hb=>.inl ⟨(fun e=>by cases e),fun h=>absurd h (gO _)⟩) (fun k o fp=>by
     simp only[pj]at fp;split at fp
     ·exact .inl ⟨fp,fun h=>absurd h (gO _)⟩
     ·rename_i hk
      have:k=S.ay.length:=by
       rcases mw (k-S.ay.length) with h|h
       ·omega
       ·rw[kF (by simp;omega)]at fp;cases fp
      subst this;simp at fp;subst fp;refine .inr ⟨by rw[hγ];exact dF _ _ _,⟨by rw[hγ];exact dF _ _ _,c,t,by rw[hγ];exact Fk hw,by(have:v.cells.length=(a.eval p).cells.size:=by simpa using hl);show cs.length≤(a.eval p).cells.size;omega,fun j u z hu hz=>?_⟩,fun j n es z hu hz=>?_⟩
      ·obtain⟨u0,s,qQ,pG⟩:=zX hg _ u hu
       obtain⟨q1,q2,q3,_⟩:=CY pG (hx j u0 z qQ (by simpa using hz))
       exact⟨q1,q2,q3.mono mX (fun d=>.inr (q2 d))⟩
      ·rw[hγ,kr (Fk hw)]at hz
       obtain⟨u0,s,qQ,pG⟩:=zX hg _ _ hu;obtain⟨_,_,_,_,q5⟩:=CY pG (hx j u0 z qQ (by simpa using hz))
       obtain⟨rfl,hz⟩:=q5 n es rfl;exact MY hz)
   refine cd.value (x:=.pointer (some ⟨w.heap.size,0,none⟩)) (w':=w.alloc (.cells c t)) (g':=g') ?_ (r1.put hd ?_)
   ·simp[execOp,ho,Instr.box,newVar,newRow,c]
   ·rw[←hγ];exact .bI _ 0 (by simp[St.cx])
  ·cases ah
 ·cases ah
theorem ad8{o:Oper}{t e:TypeId}{n m:Nat}{C:br}(ho:o.op=.buildSlice t 0 #[])(ht:P.underlying t=some (.slice e))(hn:eW P e=some m)
  (hR:R E g S a w) (hd:∀d,o.dst=some d→d<E.nt) (ah:VO.run C o.dst S (.xv n)=some S'):cd P E o S S' a w:=by
 simp only[VO.run]at ah;cases ah;obtain⟨g',r1,_⟩:=hR.MQ (w':=w.alloc (.cells #[] e)) rfl rfl rfl rfl (n:=n) (ys:=[]) (l:=[]) ⟨by simp,by simp,by simp⟩ (fun j y hj=>by simp at hj) (cap:=0) (bR _)
 refine cd.value (x:=.slice (some ⟨w.heap.size,0,none⟩) 0 0) (g':=g') (w':=w.alloc (.cells #[] e)) ?_ (r1.put hd (.dX (.inr ⟨_,rfl⟩)));have hz:∀f:Nat→Value,(Array.range 0).map f = #[]:=fun f=>CC (by simp)
 simp[execOp,ho,Instr.buildSlice,iN ht,nZ hn,Instr.fill,newRow,hz]
theorem ad9{o:Oper}{op:BinOp}{t e ty:TypeId}{neg:Bool}{p q:Operand}{x:bp}{C:br}(ho:o.op=.binOp op t p q ty)(xK:op=if neg then .neq else .eql)(ht:P.underlying t=some (.slice e))(hp:bO p x=true)(hq:bO q (.c .b9)=true)
  (hR:R E g S a w) (hd:∀d,o.dst=some d→d<E.nt) (ah:VO.run C o.dst S (.u9 neg x)=some S'):cd P E o S S' a w:=by
 have h0:=nY (cS (v:=.b9) hR hq rfl);have go:∀(r:Option Addr) (n c:Nat),a.eval p=.slice r n c→(bif neg then !r.isNone else r.isNone)=(bif neg then !r.isNone else r.isNone)→(execOp a.eval o).run P w=.ok (.value (.bool (bif neg then !r.isNone else r.isNone))) w:=fun r n c ev _=>by
  subst xK;have hg:∀op,(eqGuard op t p q (.slice r n c) (.slice none 0 0)).run P w=.ok () w:=fun op=>by
   cases op<;>simp[eqGuard]
  cases neg
  ·have h1:=Lib.run_eql_slice_nil (P:=P) w t e r n c 0 0 ht
   simp[execOp,ho,ev,h0,hg,h1]
  ·have h1:=run_neq_slice_nil_any (P:=P) w t e r n c 0 0 ht
   simp[execOp,ho,ev,h0,hg,h1]
 simp only[VO.run]at ah;split at ah
 ·rename_i hx
  cases ah;have e:=nY (cS hR hp hx);have:=go _ _ _ e rfl;refine cd.put hR hd (x:=.bool !neg) ?_ (aZ.bool _);rw[this];cases neg<;>rfl
 ·rename_i n hx
  cases ah;obtain⟨b,cap,e⟩:=Fe (cS hR hp hx);have:=go _ _ _ e rfl;refine cd.put hR hd (x:=.bool neg) ?_ (aZ.bool _);rw[this];cases neg<;>rfl
 ·rename_i t' n r rs hx
  cases ah;have hr:=cS hR hp hx;obtain⟨b,len,cap,e⟩:∃b len cap,a.eval p=.slice (some b) len cap:=by
   generalize a.eval p=y at hr;cases hr with
   |plain h _=>cases h with
    |slice _ _ _ b off cap=>exact⟨_,_,_,rfl⟩
  have:=go _ _ _ e rfl;refine cd.put hR hd (x:=.bool neg) ?_ (aZ.bool _);rw[this];cases neg<;>rfl
 ·cases ah
theorem aea{o:Oper}{t:TypeId}{cb:Nat}{p:Operand}{x:bp}{C:br}(ho:o.op=.load t p)(hs:qL P t none=true)(hp:bO p x=true)(hn:S.eM cb)
  (hR:R E g S a w) (hd:∀d,o.dst=some d→d<E.nt) (ah:VO.run C o.dst S (.rJ cb x)=some S'):cd P E o S S' a w:=by
 simp only[VO.run]at ah;split at ah
 ·rename_i pv MZ
  have FE:=cS hR hp MZ;split at ah
  ·rename_i v ts G wN
   cases ah;unfold St.take at wN;split at wN
   ·rename_i id off
    obtain⟨ep,m7⟩:=zN FE;split at wN
    ·rename_i cs ff
     by_cases M0:cs=[]
     ·subst M0;simp at wN
     obtain⟨cj,hm,c,e,hh,dg,hj⟩:=(hR.ay.obj id _ ff).resolve_left (fun e=>M0 (by cases e;rfl))
     have C0:∀u,cs[off]?=some u→∃z,(execOp a.eval o).run P w=.ok (.value z) w∧aZ (S.cx g w) u z∧c[off]?=some z:=fun u hu=>by
      have hc:S.mU (.bI id off)=some (cs,off):=by simp[St.mU,ff]
      obtain⟨b,f,e2,eB⟩:=Tb hR FE hc;rw[e2]at ep;injection ep with ep;injection ep with ep;injection ep with e3 e4 _;have e3:b=g.γ id:=e3;have e4:f=0:=by omega
      obtain⟨z,hz,hr⟩:=IW (P:=P) (w:=w) (t:=t) (sz:=none) (off:=off) hs eB hu;obtain⟨y,hy,_⟩:=eB off u hu;have hzy:z=y:=by
       have h5:(loadVar t ⟨b,f+off,none⟩).run P w=.ok y w:=by
        simp only[qL,bQ,dO]at hs;simp[loadVar,Be hs.1,cell?_eq,hy]
       rw[h5]at hz;injection hz with hz;exact hz.symm
      rw[hzy]at hz hr;refine⟨y,by simp[execOp,ho,Instr.loadAt,e2,Instr.sureAddr,hz],hr,?_⟩
      rw[e3,kr hh,e4,jz]at hy;exact hy
     split at wN
     ·rename_i n es iX
      cases wN;obtain⟨z,hex,hr,hz⟩:=C0 _ iX;have Bk:fa w.heap g.m (.slice none n es) z:=by
       cases hr with
       |plain h _=>cases h
       |e9 h=>exact h
      have mF:=eJ iX;have zY:=hR.ay.own id _ ff off n es z iX (by rw[kr hh];exact hz)
      let τ':Option Nat:=zW z
      have TB:∀q,τ'=some q→g.ow q=.cell (g.γ id) off∧q<w.heap.size:=fun q hq=>by
       rcases zY with⟨_,e⟩ | ⟨q',cap,c2,e2,e,q2,q3,q4,q5,q6⟩
       ·rw[show τ'=none from MX e]at hq;cases hq
       ·rw[show τ'=some q' by simp only[τ',e];exact FB q6]at hq
        cases hq;refine⟨q2,?_⟩;rcases cF q w.heap.size with h|h
        ·exact h
        ·simp[lU h]at q4
      let B:Nat:=τ'.getD w.heap.size
      let g':Gh:={ g with τ:=cU g.τ cb τ',ow:=cU g.ow B (.tok cb) }
      have zZ:B<w.heap.size→g.ow B=.cell (g.γ id) off:=fun hB=>by
       cases hτ:τ' with
       |none=>simp only[B,hτ,Mx]at hB;omega
       |some q=>simp only[B,hτ,IL];exact(TB q hτ).1
      have tt:Touch E g S w g' ((cb,es.length)::S.bf) S.ay.length w B none (some cb) :=
       {os:=rfl,tape:=rfl,output:=rfl,size:=bR _,heap:=fun _ _ _=>rfl,m:=fun _ _=>rfl,ow:=fun b hb=>fN _ _ hb,κ:=fun _ _=>rfl,cp:=fun _ _=>rfl,
        τ:=fun i hi=>fN _ _ (fun e=>hi (by rw[e])),T:=fun i hi=>by rw[dj,aA (fun e=>hi (by rw[e]))],γ:=fun _ _=>rfl,eD:=bR _,
        γnew:=fun i a b=>absurd a (by omega)
        fresh:=by
         rcases cF B E.w0.heap.size with h|h
         ·exact .inr (.inr (hR.same.hY B _ _ h (zZ (iq h hR.same.size))))
         ·exact .inl h
        hY:=fun p q _ e=>by
         have e:cU g.ow B (.tok cb) B=.cell p q:=e;rw[dF]at e;cases e
        lv:=fun i e=>by
         have e:cU g.ow B (.tok cb) B=.ay i:=e;rw[dF]at e;cases e
        jJ:=fun _ _ _ h=>h,pC:=fun _=>bR _ }
      have lb:∀i,iM (S.cx g w) ⟨w.heap,g',S.ay.length,(cb,es.length)::S.bf⟩ i∨i=cb:=fun i=>by
       by_cases hi:cb=i
       ·exact .inr hi.symm
       ·exact .inl (tt.keeps hR (fun e=>by cases e) (fun e=>hi (by cases e;rfl)) (fun hB e=>by rw[zZ hB]at e;cases e))
      have aed:∀k o,S.ay[k]?=some o→o≠.cells []→k≠id→g.γ k≠g.γ id:=fun k o hk C1 cf e=>by
       have:=((hR.ay.obj k o hk).resolve_left C1).1;rw[e,cj]at this;cases this;exact cf rfl
      have r1:R E g' { S with bf:=(cb,es.length)::S.bf,ay:=S.ay.set id (.cells (cs.set off (.slice none n es))) } a w :=
       R.Ff (S':={ S with bf:=(cb,es.length)::S.bf,ay:=S.ay.set id (.cells (cs.set off (.slice none n es))) }) tt hR rfl (by simp) (fun i=>(lb i).imp (fun z=>z) fun e=>by rw[e];exact hn) (fun s v hs=>.inl hs)
        (fun i dQ ho=>.inl ⟨ho,(fun e=>by cases e),fun hB e=>by rw[zZ hB]at e;cases e⟩) (fun f k b hf hb=>by
         by_cases wP:cb=f
         ·subst wP
          have hb:cU g.τ cb τ' cb=some b:=hb;rw[dF]at hb;obtain⟨h1,h2⟩:=TB b hb;have M1:B=b:=by simp only[B,hb,IL]
          refine .inr ⟨by show cU g.ow B _ b=_;rw[M1,dF],?_,h2⟩
          rcases cF b E.w0.heap.size with h|h
          ·exact .inr (hR.same.hY b _ _ h h1)
          ·exact .inl h
         ·exact .inl ⟨fun e=>wP (by cases e;rfl),fun hB e=>by rw[zZ hB]at e;cases e⟩) (fun k o fp C1=>by
         simp only[km]at fp;by_cases jL:id=k
         ·subst jL
          simp[show id<S.ay.length from eJ ff]at fp;subst fp;have mX:Le ⟨w.heap,g,S.ay.length,[]⟩ ⟨w.heap,g',S.ay.length,[]⟩:=⟨tt.le.size,tt.le.cells,tt.le.m,tt.le.eD,tt.le.γ⟩;have hγB:g.γ id≠B:=fun e=>by
           have:=zZ (e ▸ CZ hR ff (fun e=>M0 (by cases e;rfl)))
           rw[←e,cj]at this;cases this
          refine .inr ⟨(tt.ow _ hγB).trans cj,⟨hm,c,e,hh,by rw[oJ];exact dg,fun j u y hu hy=>?_⟩,fun j n' oT y hu hy=>?_⟩
          ·rw[km]at hu
           by_cases sa:off=j
           ·subst sa
            rw[aP rfl,aP mF]at hu;cases hu;have hyz:y=z:=by have hy:c[off]?=some y:=hy;rw[hz]at hy;exact(Option.some.inj hy).symm
            rw[hyz];exact⟨rfl,fun _=>rfl,.plain Bk (fun _ _ _ e=>by cases e)⟩
           ·rw[aA sa]at hu
            obtain⟨q1,q2,q3⟩:=hj j u y hu hy;exact⟨q1,q2,q3.mono mX (fun d=>.inr (q2 d))⟩
          ·rw[km]at hu
           by_cases sa:off=j
           ·subst sa
            rw[aP rfl,aP mF]at hu;cases hu
           ·rw[aA sa]at hu
            rcases hR.ay.own id _ ff j n' oT y hu hy with h | ⟨q,cap,c2,e',q1,q2,q3,q4,q5,q6⟩
            ·exact .inl h
            ·have M3:q≠B:=fun e=>by
              have oQ:q<w.heap.size:=by
               rcases cF q w.heap.size with h|h
               ·exact h
               ·simp[lU h]at q4
              rw[e]at q2 oQ;rw[zZ oQ]at q2;cases q2;exact sa rfl
             exact .inr ⟨q,cap,c2,e',q1,(tt.ow q M3).trans q2,q3,q4,q5,q6⟩
         ·rw[aA jL]at fp
          refine .inl ⟨fp,fun hB=>⟨fun e=>(by rw[zZ hB]at e;cases e),fun j e=>?_⟩⟩
          rw[zZ hB]at e;injection e with e _;exact aed k o fp C1 (fun h=>jL h.symm) e.symm)
      refine cd.value (x:=z) (w':=w) (g':=g') hex (r1.put hd (.plain (Ty Bk) (fun f n' oT e k hk=>?_)));cases e;have hk:look cb ((cb,es.length)::S.bf)=some k:=hk;rw[dj,aP rfl]at hk;cases hk;refine⟨bR _,fun _=>?_⟩;rcases zY with⟨e1,e2⟩ | ⟨q,cap,c2,e',q1,q2,q3,q4,q5,q6⟩
      ·exact .inl ⟨e1,e2⟩
      ·refine .inr ⟨q,0,cap,c2,e',?_,q1,by show g.m q=_;omega,q4,by omega,rfl,q6⟩
       show cU g.τ cb τ' cb=_;rw[dF];simp only[τ',q1];exact FB q6
     ·rename_i u _ iX
      cases wN;obtain⟨z,hex,hr,hz⟩:=C0 _ iX;exact cd.put hR hd hex (S8 hr)
     ·cases wN
    ·cases wN
   ·cases wN
  ·cases ah
 ·cases ah
theorem aeg{o:Oper}{t:TypeId}{cb:Nat}{p q:Operand}{x y:bp}{C:br}(ho:o.op=.store t p q)(vv:o.dst=none)(hs:eW P t=some 1)(hp:bO p x=true)(hq:bO q y=true)
  (hR:R E g S a w) (ah:VO.run C o.dst S (.tV cb x y)=some S'):cd P E o S S' a w:=by
 simp only[VO.run]at ah;split at ah
 ·rename_i pv v MZ hv
  have FE:=cS hR hp MZ;have Bk:=cS hR hq hv;split at ah
  ·rename_i ts G z6
   cases ah;unfold St.wG at z6;split at z6
   ·rename_i id off f n es
    split at z6
    ·rename_i cs k ff hk
     have pE:f=cb∧look f S.bf=some k:=by
      cases wP:f==cb with
      |false=>rw[wP]at hk;cases hk
      |true =>
       have:=eq_of_beq wP;subst this;rw[wP]at hk;exact⟨rfl,hk⟩
     obtain⟨e,og⟩:=pE;subst e
     clear hk
     have hk:=og;cases hc:(k==es.length&&Nat.blt off cs.length) with
     |false=>simp[hc]at z6
     |true =>
      simp only[hc,bC,Option.some.injEq,Prod.mk.injEq]at z6;obtain⟨rfl,rfl⟩:=z6;simp only[bQ,dO]at hc;obtain⟨rfl,bB⟩:=hc;have mF:off<cs.length:=by simp[Nat.blt]at bB;omega
      obtain⟨ep,m7⟩:=zN FE;obtain⟨cj,hm,c,e,hh,dg,hj⟩:=(hR.ay.obj id _ ff).resolve_left (fun e=>by cases e;simp at mF)
      generalize hyv:a.eval q=yv at Bk;obtain⟨FF,M4⟩:fa w.heap g.m (.slice (some f) n es) yv∧xy (S.cx g w) f n es.length yv:=by
       cases Bk with
       |plain h ht=>exact⟨h,(ht f n es rfl _ hk).2 rfl⟩
      have hvn:fa w.heap g.m (.slice none n es) yv:=Ty FF;have wQ:yv.cells = #[yv]:=FF.cells
      let c':Array Value:=(c.toList.take off++yv.cells.toList++c.toList.drop (off+yv.cells.toList.length)).toArray
      have oh:yv.cells.toList.length=1:=by rw[wQ];rfl
      have fu:off+yv.cells.toList.length≤c.size:=by omega
      have ah:=MU (P:=P) (w:=w) (t:=t) (n:=1) hs (v:=yv) (by rw[wQ];rfl) hh (o:=off) (by omega) (fun y hy=>by rw[wQ]at hy;simp at hy;subst hy;exact FF.Ba)
      rw[←oh]at ah;have ku:(w.setRow (g.γ id) c').heap[g.γ id]?=some (.cells c' e (0,0)):=setRow_heap w _ c c' e _ hh;have pH:∀j,c'[j]?=if j=off then some yv else c[j]?:=fun j=>by
       rw[show c'[j]?=_ from zU fu j,oh,wQ];by_cases h:j=off
       ·subst h;simp
       ·rw[aA (by omega),aA h]
      have xJ:=hR.FD cj
      let B:Nat:=(zW yv).getD w.heap.size
      have hB:(es.length=0∧kX yv∧B=w.heap.size)∨∃cap c2 e2,yv=.slice (some ⟨B,0,none⟩) es.length cap∧g.τ f=some B∧g.m B=es.length*n∧w.heap[B]?=some (.cells c2 e2 (0,0))∧cap*n≤c2.size∧0<es.length ∧
        g.ow B=.tok f∧(E.w0.heap.size≤B∨E.own B)∧B<w.heap.size:=by
       rcases M4 with⟨h1,h2⟩ | ⟨b,o2,cap,c2,e2,h1,h2,h3,h4,h5,h6,h7⟩
       ·exact .inl ⟨h1,h2,by simp only[B,MX h2];rfl⟩
       ·subst h6
        have M1:B=b:=by simp only[B,h2];rw[FB h7];rfl
        obtain⟨q1,q2,q3⟩:=hR.bf f _ b hk h1;rw[M1];exact .inr ⟨cap,c2,e2,h2,h1,by have h3:g.m b=0+es.length*n:=h3;omega,h4,by omega,h7,q1,q2,q3⟩
      have Bl:B<w.heap.size→g.ow B=.tok f:=fun h=>by
       rcases hB with⟨_,_,e⟩ | ⟨_,_,_,_,_,_,_,_,_,h8,_⟩
       ·omega
       ·exact h8
      have TC:∀k o,S.ay[k]?=some o→o≠.cells []→g.γ k≠B:=fun k o og C1 e=>by
       have h1:=((hR.ay.obj k o og).resolve_left C1).1;have h2:=Bl (e ▸ CZ hR og C1);rw[←e,h1]at h2;cases h2
      let g1:Gh:={ g with τ:=cU g.τ f none,ow:=cU g.ow B (.cell (g.γ id) off) }
      have t1:Touch E g S w g1 ((f,es.length+1)::S.bf) S.ay.length w B none (some f) :=
       {os:=rfl,tape:=rfl,output:=rfl,size:=bR _,heap:=fun _ _ _=>rfl,m:=fun _ _=>rfl,ow:=fun b hb=>fN _ _ hb,κ:=fun _ _=>rfl,cp:=fun _ _=>rfl,
        τ:=fun i hi=>fN _ _ (fun e=>hi (by rw[e])),T:=fun i hi=>by rw[dj,aA (fun e=>hi (by rw[e]))],γ:=fun _ _=>rfl,eD:=bR _,
        γnew:=fun i a b=>absurd a (by omega)
        fresh:=by
         rcases hB with⟨_,_,e⟩ | ⟨_,_,_,_,_,_,_,_,_,_,h9,_⟩
         ·exact .inl (by rw[e];exact hR.same.size)
         ·exact h9.imp (fun z=>z) .inr
        hY:=fun p q bB _=>by
         rcases hB with⟨_,_,e⟩ | ⟨_,_,_,_,_,_,_,_,_,_,h9,_⟩
         ·have:=hR.same.size;omega
         ·exact h9.resolve_left (by omega)
        lv:=fun i e=>by
         have e:cU g.ow B (.cell (g.γ id) off) B=.ay i:=e;rw[dF]at e;cases e
        jJ:=fun _ _ _ h=>h,pC:=fun _=>bR _ }
      have k1:∀i,iM (S.cx g w) ⟨w.heap,g1,S.ay.length,(f,es.length+1)::S.bf⟩ i:=fun i=>by
       by_cases hi:f=i
       ·subst hi
        refine⟨rfl,rfl,fun k' jh=>⟨es.length,hk,?_,fun e=>?_⟩⟩
        ·simp only[dj,if_true,Option.some.injEq]at jh;omega
        ·simp only[dj,if_true,Option.some.injEq]at jh;omega
       ·exact t1.keeps hR (fun e=>by cases e) (fun e=>hi (by cases e;rfl)) (fun hb e=>hi (by rw[Bl hb]at e;cases e;rfl))
      have r1:R E g1 { S with bf:=(f,es.length+1)::S.bf } a w:=R.nB (S':={ S with bf:=(f,es.length+1)::S.bf }) t1 hR rfl rfl (fun i=>.inl (k1 i)) (fun s v hs=>.inl hs)
       (fun i dQ ho=>.inl ⟨ho,(fun e=>by cases e),fun hb e=>by rw[Bl hb]at e;cases e⟩) (fun f' k' b hf hb=>by
        by_cases wP:f=f'
        ·subst wP
         have hb:cU g.τ f none f=some b:=hb;rw[dF]at hb;cases hb
        ·exact .inl ⟨fun e=>wP (by cases e;rfl),fun hb e=>by rw[Bl hb]at e;cases e;exact wP rfl⟩) (fun i o hi=>.inl ⟨hi,fun hb=>⟨fun e=>(by rw[Bl hb]at e;cases e),fun _ e=>(by rw[Bl hb]at e;cases e)⟩⟩)
      have Bo:g1.ow (g.γ id)=.ay id:=(fN _ _ (TC id _ ff (fun e=>by cases e;simp at mF))).trans cj
      have t2:=CV (g:=g1) (c':=c') (S:={ S with bf:=(f,es.length+1)::S.bf }) (w:=w) (b:=g.γ id) hm xJ (fun _ _ e=>by rw[Bo]at e;cases e) r1
      have k2:∀i,iM (({ S with bf:=(f,es.length+1)::S.bf }:St).cx g1 w) ⟨(w.setRow (g.γ id) c').heap,g1,S.ay.length,(f,es.length+1)::S.bf⟩ i:=fun i=>t2.keeps r1 (fun e=>by cases e) (fun e=>by cases e) (fun _ e=>by rw[Bo]at e;cases e)
      have mX:Le ⟨w.heap,g,S.ay.length,[]⟩ ⟨(w.setRow (g.γ id) c').heap,g1,S.ay.length,[]⟩:=⟨t2.le.size,t2.le.cells,t2.le.m,t2.le.eD,t2.le.γ⟩;refine cd.skip (g':=g1) (w':=w.setRow (g.γ id) c') ?_ vv (R.nB (S':={ S with bf:=(f,es.length+1)::S.bf,ay:=S.ay.set id (.cells (cs.set off (.e9 n es))) }) t2 r1 rfl (by simp) (fun i=>.inl (k2 i)) (fun s v hs=>.inl hs)
       (fun i dQ hi=>.inl ⟨hi,(fun e=>by cases e),fun _ e=>by rw[Bo]at e;cases e⟩)
       (fun f k b hf hb=>.inl ⟨(fun e=>by cases e),fun _ e=>by rw[Bo]at e;cases e⟩) (fun k o fp=>?_))
      ·have Bb:(storeVar t ⟨(S.cx g w).g.γ id,off,none⟩ yv).run P w=.ok () (w.setRow (g.γ id) c'):=ah
       simp only[execOp,ho,ep,hyv];simp[Instr.storeAt,Instr.sureAddr,Bb]
      ·simp only[km]at fp
       by_cases jL:id=k
       ·subst jL
        simp[show id<S.ay.length from eJ ff]at fp;subst fp;refine .inr ⟨Bo,⟨hm,c',e,ku,by rw[oJ];exact jT dg (tO (CU fu).symm),fun j u z hu hz=>?_⟩,fun j n' oT z hu hz=>?_⟩
        ·rw[pH]at hz
         rw[km]at hu;by_cases sa:off=j
         ·subst sa
          rw[aP rfl,aP mF]at hu;rw[aP rfl]at hz;cases hu;cases hz;exact⟨rfl,fun _=>rfl,.e9 (hvn.mono mX)⟩
         ·rw[aA sa]at hu
          rw[aA (fun e=>sa e.symm)]at hz;obtain⟨q1,q2,q3⟩:=hj j u z hu hz;exact⟨q1,q2,q3.mono mX (fun d=>.inr (q2 d))⟩
        ·have hz:cellAt (w.setRow (g.γ id) c').heap (g.γ id) j=some z:=hz
         rw[kr ku,pH]at hz;rw[km]at hu;by_cases sa:off=j
         ·subst sa
          rw[aP rfl,aP mF]at hu;rw[aP rfl]at hz;cases hu;cases hz;rcases hB with⟨h1,h2,_⟩ | ⟨cap,c2,e2,h1,h2,h3,h4,h5,h6,_⟩
          ·exact .inl ⟨h1,h2⟩
          ·exact .inr ⟨B,cap,c2,e2,h1,dF _ _ _,h3,(Fz w _ B c' (fun e=>TC id _ ff (fun e=>by cases e;simp at mF) e.symm)).trans h4,h5,h6⟩
         ·rw[aA sa]at hu
          rw[aA (fun e=>sa e.symm)]at hz;rcases hR.ay.own id _ ff j n' oT z hu (by rw[kr hh];exact hz) with h | ⟨q,cap,c2,e',q1,q2,q3,q4,q5,q6⟩
          ·exact .inl h
          ·have oQ:q<w.heap.size:=by
            rcases cF q w.heap.size with h|h
            ·exact h
            ·simp[lU h]at q4
           have M3:q≠B:=fun e=>by rw[e]at q2 oQ;rw[Bl oQ]at q2;cases q2
           have cf:q≠g.γ id:=fun e=>by rw[e,cj]at q2;cases q2
           exact .inr ⟨q,cap,c2,e',q1,(fN _ _ M3).trans q2,q3,(Fz w _ q c' cf).trans q4,q5,q6⟩
       ·rw[aA jL]at fp
        exact .inl ⟨fp,fun _=>⟨fun e=>jL (by rw[Bo]at e;cases e;rfl),fun _ e=>(by rw[Bo]at e;cases e)⟩⟩
    ·cases z6
   ·cases z6
  ·cases ah
 ·cases ah
theorem z7{o:Oper}{t e:TypeId}{sz:Nat}{p:Operand}{lo hi:Option Operand}{Bp pI:Option bp}(ho:o.op=.slice t p lo hi none)(ht:P.underlying t=some (.slice e))(hs:eW P e=some sz)
  (mF:match lo,Bp with|none,none=>True|some y,some z=>bO y z=true|_,_=>False) (tf:match hi,pI with|none,none=>True|some y,some z=>bO y z=true|_,_=>False)
  (hR:R E g S a w) {base:Option Addr} {n cap:Nat} (e1:a.eval p=.slice base n cap) (en:n≤cap) {k1 k2:IntKind} {l h:Int} (hl:S.jI Bp 0=some (.int k1 l)) (hh:S.jI pI n=some (.int k2 h))
  (h0:0≤l) (h1:l≤h) (h2:h≤(n:Int)):(execOp a.eval o).run P w=.ok (.value (.slice (if cap=l.toNat then base else base.map (·.add (l.toNat*sz))) (h.toNat-l.toNat) (cap-l.toNat))) w:=by
 have z8:(match lo.map a.eval with|some v=>Instr.sliceBound v h.toNat .sliceB|none=>pure 0).run P w=.ok l.toNat w:=by
  cases lo with
  |none =>
   cases Bp with
   |none=>simp[St.jI]at hl;obtain⟨_,rfl⟩:=hl;simp
   |some z=>exact mF.elim
  |some y =>
   cases Bp with
   |none=>exact mF.elim
   |some z =>
    have:=lX (cS hR mF hl);simp only[mT,this];exact run_sliceBound w k1 l h.toNat .sliceB h0 (by omega)
 have Bq:(match hi.map a.eval with|some v=>Instr.sliceBound v cap .sliceAcap|none=>pure n).run P w=.ok h.toNat w:=by
  cases hi with
  |none =>
   cases pI with
   |none=>simp[St.jI]at hh;obtain⟨_,rfl⟩:=hh;simp
   |some z=>exact tf.elim
  |some y =>
   cases pI with
   |none=>exact tf.elim
   |some z =>
    have:=lX (cS hR tf hh);simp only[mT,this];exact run_sliceBound w k2 h cap .sliceAcap (by omega) (by omega)
 have aej:(Instr.sliceBounds true n cap (lo.map a.eval) (hi.map a.eval) none).run P w=.ok (l.toNat,h.toNat,cap) w:=by
  unfold Instr.sliceBounds;cases hi with
  |none =>
   simp only[IM]at Bq;simp only[Sem.run_pure,Result.ok.injEq,and_true]at Bq;cases lo with
   |none =>
    simp only[IM,Sem.run_pure,Result.ok.injEq,and_true]at z8;simp[←Bq,← z8]
   |some y =>
    simp only[mT]at z8;simp[Bq,z8]
  |some z =>
   simp only[mT]at Bq;cases lo with
   |none =>
    simp only[IM,Sem.run_pure,Result.ok.injEq,and_true]at z8;simp[Bq,← z8]
   |some y =>
    simp only[mT]at z8;simp[Bq,z8]
 simp only[execOp,ho,e1,Instr.sliceAt,Instr.slice];simp[iN ht,aej,nZ hs]
theorem aek{o:Oper}{t e:TypeId}{n sz:Nat}{p:Operand}{x:bp}{C:br}(ho:o.op=.slice t p none none none)(ht:P.underlying t=some (.array n e))(hs:eW P e=some sz)
  (hp:bO p x=true) (hR:R E g S a w) (hd:∀d,o.dst=some d→d<E.nt) (ah:VO.run C o.dst S (.arr n sz x)=some S'):cd P E o S S' a w:=by
 simp only[VO.run]at ah;split at ah
 ·rename_i id hx
  cases ah;have hr:=cS hR hp hx;have e1:a.eval p=.pointer (some ⟨g.κ id,0,none⟩):=by
   generalize a.eval p=y at hr;cases hr with
   |plain h _=>cases h
   |bG=>rfl
  have fh:(execOp a.eval o).run P w=.ok (.value (.slice (some ⟨g.κ id,0,none⟩) n n)) w:=by
   simp[execOp,ho,e1,Instr.sliceAt,Instr.sureAddr,Instr.sliceBounds,iN ht,nZ hs,jX]
  exact cd.put hR hd fh (by have:=aZ.fm (X:=S.cx g w) id sz 0 n n (bR _);rwa [E3]at this)
 ·cases ah
theorem ael{o:Oper}{t e:TypeId}{sz:Nat}{p:Operand}{lo hi:Option Operand}{x:bp}{Bp pI:Option bp}{C:br}(ho:o.op=.slice t p lo hi none)(ht:P.underlying t=some (.slice e))(hs:eW P e=some sz)
  (hp:bO p x=true) (mF:match lo,Bp with|none,none=>True|some y,some z=>bO y z=true|_,_=>False) (tf:match hi,pI with|none,none=>True|some y,some z=>bO y z=true|_,_=>False)
  (hR:R E g S a w) (hd:∀d,o.dst=some d→d<E.nt) (ah:VO.run C o.dst S (.vd sz x Bp pI)=some S'):cd P E o S S' a w:=by
 simp only[VO.run]at ah;split at ah
 ·rename_i tk m es hx
  split at ah
  ·rename_i k1 l k2 h hl hh
   cases hc:(decide (0≤l)&&decide (l≤h)&&decide (h≤(es.length:Int))&&(m==sz)) with
   |false=>simp[hc]at ah
   |true =>
    simp only[hc,bC]at ah;cases ah;simp only[bQ,jA,dO]at hc;obtain⟨⟨⟨h0,h1⟩,h2⟩,rfl⟩:=hc;have hr:=cS hR hp hx;obtain⟨base,cap,e1,en⟩:∃base cap,a.eval p=.slice base es.length cap∧es.length≤cap:=by
     generalize a.eval p=y at hr;cases hr with
     |plain h _=>cases h with
      |nil=>exact⟨none,0,rfl,by simp⟩
      |empty _ _ a cap=>exact⟨some a,cap,rfl,by simp⟩
      |slice _ _ _ b off cap ys hb en=>exact⟨_,cap,rfl,en⟩
    have fh:=z7 (w:=w) ho ht hs mF tf hR e1 en hl hh h0 h1 h2;have hlen:((es.take h.toNat).drop l.toNat).length=h.toNat-l.toNat:=by simp;omega
    refine cd.put hR hd fh ?_
    clear fh
    generalize a.eval p=y at hr e1;subst e1;refine .plain ?_ (fun _ _ _ e=>by cases e)
    cases hr with
    |plain hv _ =>
     cases hv with
     |nil =>
      have oi:l.toNat=0:=by simp at h2;omega
      have wR:h.toNat=0:=by simp at h2;omega
      simp[oi,wR];exact .nil _ _
     |empty _ _ a' qM =>
      have oi:l.toNat=0:=by simp at h2;omega
      have wR:h.toNat=0:=by simp at h2;omega
      simp only[oi,wR,wF,List.take_zero,tM];split
      ·exact .empty _ _ _ _
      ·exact .empty _ _ _ _
     |slice _ _ _ b off _ ys hb FG iw hc hv hp hm =>
      rw[←hlen];by_cases dg:cap=l.toNat
      ·rw[aP dg]
       have h3:(es.take h.toNat).drop l.toNat=[]:=bW.1 (by rw[hlen];omega)
       rw[h3];exact .slice none m [] b off _ ys hb (by simp) (by simp) (by simp) (by simp) (by simp) (by simp;omega)
      ·rw[aA dg]
       simp only[mT,jX];have pH:∀(i:Nat) (row:List V),((es.take h.toNat).drop l.toNat)[i]?=some row→es[l.toNat+i]?=some row:=fun i row hi=>by
        rw[nT,kn]at hi;split at hi
        ·exact hi
        ·cases hi
       refine .slice none m _ b (off+l.toNat*m) _ (fun i j=>ys (l.toNat+i) j) hb (by rw[hlen];omega) (fun i row hi=>iw _ row (pH i row hi)) (fun i row j v hi hj=>?_) (fun i row j v hi hj=>hv _ row j v (pH i row hi) hj)
        (fun i row j v hi hj=>hp _ row j v (pH i row hi) hj) ?_
       ·rw[←hc _ row j v (pH i row hi) hj]
        congr 1;rw[px];omega
       ·have:(l.toNat+(h.toNat-l.toNat))*m≤es.length*m:=rI m (by omega)
        rw[px]at this;rw[hlen];omega
  ·cases ah
 ·rename_i hx
  split at ah
  ·rename_i k1 l k2 h hl hh
   cases hc:(decide (l=0)&&decide (h=0)) with
   |false=>simp[hc]at ah
   |true =>
    simp only[hc,bC]at ah;cases ah;simp only[bQ,jA]at hc;obtain⟨rfl,rfl⟩:=hc;have e1:=nY (cS hR hp hx);have fh:=z7 (w:=w) (n:=0) ho ht hs mF tf hR e1 (bR _) hl hh (wA _) (wA _) (wA _);exact cd.put hR hd fh (.plain .b9 (fun _ _ _ e=>by cases e))
  ·cases ah
 ·rename_i id s n hx
  split at ah
  ·rename_i k1 l k2 h hl hh
   cases hc:(decide (0≤l)&&decide (l≤h)&&decide (h≤(n:Int))&&(s==sz)) with
   |false=>simp[hc]at ah
   |true =>
    simp only[hc,bC]at ah;simp only[bQ,jA,dO]at hc;obtain⟨⟨⟨h0,h1⟩,h2⟩,rfl⟩:=hc;rcases qa (cS hR hp hx) with⟨cap,en,fJ,e1⟩ | ⟨rfl,hz,fJ⟩
    ·have fh:=z7 (w:=w) ho ht hs mF tf hR e1 en hl hh h0 h1 h2
     by_cases oi:l=0
     ·subst oi
      simp only[decide_true,bC,Option.some.injEq]at ah;subst ah;refine cd.put hR hd fh ?_;simp only[Int.toNat_zero,E3,wF,mT,jX,wE,ite_self];exact .bP _ _ _ _ (by omega) fJ
     ·have Br:decide (l=0)=false:=decide_eq_false oi
      by_cases FH:l<(n:Int)
      ·simp only[Br,fL FH,bC,eV,Option.some.injEq]at ah
       subst ah;refine cd.put hR hd fh ?_;rw[aA (by omega)]
       simp only[mT,jX,jz];rw[show h.toNat-l.toNat=(h-l).toNat from by omega]
       exact .fm _ _ _ _ _ (by omega)
      ·simp[Br,decide_eq_false FH]at ah
    ·have oi:l=0:=by omega
     have wR:h=0:=by omega
     subst oi;subst wR;simp only[decide_true,bC,Option.some.injEq]at ah;subst ah;rcases hz with e1 | ⟨b,e1⟩
     ·have fh:=z7 (w:=w) (n:=0) ho ht hs mF tf hR e1 (bR _) hl hh h0 h1 h2
      exact cd.put hR hd fh (.p8 _ _ (.inl rfl) fJ)
     ·have fh:=z7 (w:=w) (n:=0) ho ht hs mF tf hR e1 (bR _) hl hh h0 h1 h2
      exact cd.put hR hd fh (.p8 _ _ (.inr ⟨b,rfl⟩) fJ)
  ·cases ah
 ·rename_i id s n hx
  split at ah
  ·rename_i k1 l k2 h hl hh
   cases hc:(decide (0≤l)&&decide (l≤h)&&decide (h≤(n:Int))&&(s==sz)) with
   |false=>simp[hc]at ah
   |true =>
    simp only[hc,bC]at ah;simp only[bQ,jA,dO]at hc;obtain⟨⟨⟨h0,h1⟩,h2⟩,rfl⟩:=hc;obtain⟨hi,⟨cap,en,e1⟩ | ⟨rfl,hz⟩⟩:=CQ (cS hR hp hx)
    ·have fh:=z7 (w:=w) ho ht hs mF tf hR e1 en hl hh h0 h1 h2
     by_cases oi:l=0
     ·subst oi
      simp only[decide_true,bC,Option.some.injEq]at ah;subst ah;refine cd.put hR hd fh ?_;simp only[Int.toNat_zero,E3,wF,mT,jX,wE,ite_self];exact .da _ _ _ _ hi (by omega)
     ·have Br:decide (l=0)=false:=decide_eq_false oi
      by_cases FH:l<(n:Int)
      ·simp only[Br,fL FH,bC,eV,Option.some.injEq]at ah
       subst ah;refine cd.put hR hd fh ?_;rw[aA (by omega)]
       simp only[mT,jX,jz];rw[show h.toNat-l.toNat=(h-l).toNat from by omega]
       exact .gX _ _ _ _ _ hi (by omega)
      ·simp[Br,decide_eq_false FH]at ah
    ·have oi:l=0:=by omega
     have wR:h=0:=by omega
     subst oi;subst wR;simp only[decide_true,bC,Option.some.injEq]at ah;subst ah;rcases hz with e1 | ⟨b,e1⟩
     ·have fh:=z7 (w:=w) (n:=0) ho ht hs mF tf hR e1 (bR _) hl hh h0 h1 h2
      exact cd.put hR hd fh (.s8 _ _ hi (.inl rfl))
     ·have fh:=z7 (w:=w) (n:=0) ho ht hs mF tf hR e1 (bR _) hl hh h0 h1 h2
      exact cd.put hR hd fh (.s8 _ _ hi (.inr ⟨b,rfl⟩))
  ·cases ah
 ·cases ah
end
end Go.Vm

/- The value machine, 8: literals, stores, make, blocks that calls share. -/
import Derived.Great.BuildSlice
import Derived.IntWalk
import Derived.Laws.Slices
import Derived.Test.YtmppfkgfnnebeaaGreatDoorVm7
import Derived.WalkSpells
import Derived.Lib.SliceRun
namespace Go.Vm
set_option linter.all false
section
variable {P:Program} {E:Entry} {g g':Gh} {S S':St} {a:Act} {w w':World} {T':List (Nat×Nat)} {N' B:Nat}
theorem OZ(off k:Nat):∀(vs:List Value) (i:Nat) (cs:Array Value),((vs.zipIdx i).foldl (fun cs (p:Value×Nat)=>cs.setIfInBounds (off+p.2) p.1) cs)[k]? =
  if off+i≤k∧k<off+i+vs.length∧k<cs.size then vs[k-(off+i)]? else cs[k]?
 |[],i,cs=>by simp;omega
 |v::vs,i,cs=>by
  rw[List.zipIdx_cons,List.foldl_cons,OZ off k vs (i+1)];simp only[Array.size_setIfInBounds,u4,Oe];by_cases h:off+(i+1)≤k∧k<off+(i+1)+vs.length∧k<cs.size
  ·rw[aM h,aM (by omega),show k-(off+i)=(k-(off+(i+1)))+1 from by omega,xV]
  ·rw[ay h]
   by_cases he:off+i=k
   ·subst he
    by_cases bE:off+i<cs.size
    ·simp[bE]
    ·simp[bE]
   ·rw[ay he,ay (by omega)]
theorem Bh(k:Nat):∀(vs:List V) (off:Nat) (cs:List V),(iF cs off vs)[k]?=if off≤k∧k<off+vs.length∧k<cs.length then vs[k-off]? else cs[k]?
 |[],off,cs=>by simp[iF];omega
 |v::vs,off,cs=>by
  rw[iF,Bh k vs (off+1)];simp only[oR,u4,jU];by_cases h:off+1≤k∧k<off+1+vs.length∧k<cs.length
  ·rw[aM h,aM (by omega),show k-off=(k-(off+1))+1 from by omega,xV]
  ·rw[ay h]
   by_cases he:off=k
   ·subst he
    by_cases bE:off<cs.length
    ·simp[bE]
    ·simp[bE]
   ·rw[ay he,ay (by omega)]
theorem KS:∀(vs:List V) (off:Nat) (cs:List V),(iF cs off vs).length=cs.length
 |[],off,cs=>rfl
 |v::vs,off,cs=>by rw[iF,KS vs];simp
theorem O0(off:Nat):∀(vs:List Value) (i:Nat) (cs:Array Value),((vs.zipIdx i).foldl (fun cs (p:Value×Nat)=>cs.setIfInBounds (off+p.2) p.1) cs).size=cs.size
 |[],i,cs=>rfl
 |v::vs,i,cs=>by rw[List.zipIdx_cons,List.foldl_cons,O0 off vs];simp
theorem Wx(off:Nat)(vs cs:Array Value):vs.zipIdx.foldl (fun(cs:Array Value) (x:Value×Nat)=>match x with|(c,j)=>cs.setIfInBounds (off+j) c) cs =
  (vs.toList.zipIdx 0).foldl (fun cs (p:Value×Nat)=>cs.setIfInBounds (off+p.2) p.1) cs:=by
 rw[←Array.foldl_toList,Array.toList_zipIdx]
def CK(place:Nat→Option (Nat×Nat)):List (Nat×Operand)→List (Nat×Nat×bw)→Bool
 |[],[]=>true
 |(i,y)::ps,(off,n,x)::qs=>place i==some (off,n)&&bU y x&&CK place ps qs
 |_,_=>false
theorem Wy(hR:R E g S a w){place:Nat→Option (Nat×Nat)}:∀{ps:List (Nat×Operand)} {qs:List (Nat×Nat×bw)},CK place ps qs=true→∀{cs dS:List V} {xs:Array Value},sn S qs cs=some dS →
  PW (S.cx g w) cs xs.toList→∃vu,Instr.fill place xs (ps.map fun(i,x)=>(i,a.eval x))=some vu∧PW (S.cx g w) dS vu.toList
 |[],[],_,cs,dS,xs,h,hp=>by simp only[sn,Option.some.injEq]at h;subst h;exact⟨xs,rfl,hp⟩
 |[],_::_,h,_,_,_,_,_=>by simp[CK]at h
 |_::_,[],h,_,_,_,_,_=>by simp[CK]at h
 |(i,y)::ps,(off,n,x)::qs,h,cs,dS,xs,hf,hp=>by
  simp only[CK,bS,dO]at h;obtain⟨⟨my,ho⟩,bu⟩:=h;simp only[sn]at hf;split at hf
  ·rename_i v hv
   cases hc:(v.cells.length==n&&Nat.ble (off+n) cs.length&&v.cells.all V.cL) with
   |false=>simp[hc]at hf
   |true =>
    simp only[hc,bG]at hf;simp only[bS,dO,g8]at hc;obtain⟨⟨hlen,hle⟩,jw⟩:=hc;have hle:=il hle;obtain⟨hl,hx⟩:=Eu (cY hR ho hv) jw;have eg:(a.eval y).cells.size=n:=by simpa [hlen] using hl.symm
    have CL:=hp.len;simp only[xS]at CL;obtain⟨vu,h1,h2⟩:=Wy hR (ps:=ps) (xs:=((a.eval y).cells.toList.zipIdx 0).foldl (fun cs (p:Value×Nat)=>cs.setIfInBounds (off+p.2) p.1) xs) bu hf (by
     refine⟨by rw[KS,CL];exact(O0 off _ _ _).symm,fun j u z hu hz=>?_⟩
     rw[Bh]at hu;rw[J6,OZ]at hz;simp only[wH,xS,eg,hlen,CL]at hu hz;split at hu
     ·rename_i lQ
      rw[aM lQ]at hz;exact hx _ u z hu hz
     ·rename_i lQ
      rw[ay lQ]at hz;exact hp.at_ j u z hu (by simpa using hz))
    refine⟨vu,?_,h2⟩;simp only[oq,Instr.fill,my,eg,Oh,ne_eq,not_true_eq_false,decide_false];rw[Wx];rw[ay (by simp;omega)]
    exact h1
  ·cases hf
def placeOf(P:Program)(t:TypeId):Option (Nat→Option (Nat×Nat)) :=
 match P.underlying t with
 |some (.array _ e)=>(P.info? e).map fun ie i=>some (i*ie.size,ie.size)
 |some (.struct fields)=>(fields.toList.mapM (fun f=>(P.info? f.type).map fun i=>(f.offset,i.size))).map fun places i=>places.toArray[i]?
 |_=>none
theorem aik{t:TypeId}{it:TypeInfo}{z:Value}{place:Nat→Option (Nat×Nat)}(hi:P.info? t=some it)(hz:it.zero=some z)(hp:placeOf P t=some place)(parts:List (Nat×Value)) :
  P.built t parts=Instr.fill place z.cells parts:=by
 unfold placeOf at hp;unfold Program.built;split at hp
 ·rename_i n e hu
  cases Hx:P.info? e with
  |none=>simp[Hx]at hp
  |some ie=>simp[Hx]at hp;subst hp;simp[hi,hu,hz,Hx]
 ·rename_i fields hu
  cases hm:fields.toList.mapM (fun f=>(P.info? f.type).map fun i=>(f.offset,i.size)) with
  |none=>simp[hm]at hp
  |some places=>simp[hm]at hp;subst hp;simp[hi,hu,hz,hm]
 ·cases hp
theorem ail{o:Oper}{t:TypeId}{it:TypeInfo}{z:Value}{place:Nat→Option (Nat×Nat)}{ps:Array (Nat×Operand)}{zero:List V}{qs:List (Nat×Nat×bw)}{C:bD}(ho:o.op=.build t ps)
  (hi:P.info? t=some it) (hz:it.zero=some z) (my:placeOf P t=some place) (hzero:vq z.cells.toList zero=true) (uq:CK place ps.toList qs=true)
  (hR:R E g S a w) (hd:∀d,o.dst=some d→d<E.nt) (hrun:VO.run C o.dst S (.build zero qs)=some S'):ch P E o S S' a w:=by
 simp only[VO.run]at hrun;split at hrun
 ·rename_i cs hf
  cases hrun;obtain⟨hl,hx⟩:=Es (X:=S.cx g w) hzero;obtain⟨xs,h1,h2⟩:=Wy hR uq (xs:=z.cells) hf ⟨hl,fun i v y hv hy=>(hx i v y hv hy).2.2⟩;refine ch.put hR hd (x:=.agg xs) ?_ (.agg cs xs (by simpa using h2.len) (fun i v y hv hy=>h2.at_ i v y hv (by simpa using hy)))
  have hb:=aik hi hz my ((ps.map fun(i,x)=>(i,a.eval x)).toList);rw[Of,h1]at hb;have:=run_build (P:=P) w t (ps.map fun(i,x)=>(i,a.eval x)) xs (by rw[Of];exact hb)
  simp only[execOp,ho];simp only[Sem.run_bind,this,Result.andThen_ok,Sem.run_pure]
 ·cases hrun
theorem R.O1(hR:R E g S a w){c:Array Value}{e:TypeId}(hw:w'.heap=w.heap.push (.cells c e (0,0)))(h1:w'.os=w.os)(h2:w'.tape=w.tape)(h3:w'.output=w.output)
  {n:Nat} {ys:List (List V)} {l:List Value} (hl:jX w.heap g.m n ys l) (hc:∀(j:Nat) (y:Value),l[j]?=some y→c[j]?=some y) {cap:Nat} (eo:ys.length≤cap) :
  ∃g',R E g' S a w'∧bb (S.cx g' w') (.slice none n ys) (.slice (some ⟨w.heap.size,0,none⟩) ys.length cap):=by
 let g':Gh:={ g with m:=c6 g.m w.heap.size (ys.length*n),ow:=c6 g.ow w.heap.size .none }
 have t:Touch E g S w g' S.bj S.aA.length w' w.heap.size none none:=Hj hR hw h1 h2 h3 (fun b hb=>fY _ _ hb) (fun b hb=>fY _ _ hb)
  (fun i _=>rfl) (fun i _=>rfl) (fun i _=>rfl) (fun i _=>rfl) (fun i _=>rfl) (bV _) (fun i a b=>absurd a (by omega)) (fun i e=>by(have e:c6 g.ow w.heap.size .none w.heap.size=.aA i:=e);rw[dL]at e;cases e)
 have kT:=Hl hw;refine⟨g',R.oA t hR rfl rfl (fun i=>.inl (t.keeps hR (fun e=>by cases e) (fun e=>by cases e) (fun h=>absurd h (gU _)))) (fun s v hs=>.inl hs)
  (fun i cs ho=>.inl ⟨ho,(fun e=>by cases e),fun h=>absurd h (gU _)⟩) (fun i k b hi hb=>.inl ⟨(fun e=>by cases e),fun h=>absurd h (gU _)⟩)
  (fun i o ho=>.inl ⟨ho,fun h=>absurd h (gU _)⟩),?_⟩
 have hm:g'.m w.heap.size=ys.length*n:=dL _ _ _;refine .plain (CJ (m:=g'.m) (l:=l) (hl.mono t.le) (by show _<w'.heap.size;rw[hw];simp) eo (fun j y hj=>?_) (by omega) _) (fun i n' pS he k hk=>by cases he)
 show cellAt w'.heap _ _=_;rw[kR kT,jV];exact hc j y hj
def O2:Value→Option Nat→V→Bool
 |.int k n,none,.int k' n'=>decide (k=k')&&n==n'
 |.bool b,none,.bool c=>b==c
 |.string s,none,.str l=>s.data.toList==l
 |.slice none 0 0,some n,.slice none m []=>n==m
 |_,_,_=>false
def vv:List Value→Sh→List V→Bool
 |[],[],[]=>true
 |x::xs,h::sh,v::vs=>O2 x h v&&vv xs sh vs
 |_,_,_=>false
theorem aim{h:Array Obj}{m:Nat→Nat}{x:Value}{s:Option Nat}{v:V}(he:O2 x s v=true):v.plain=true∧fg h m v x:=by
 unfold O2 at he;split at he
 ·simp at he;obtain⟨rfl,rfl⟩:=he;exact⟨rfl,.int _ _⟩
 ·simp at he;subst he;exact⟨rfl,.bool _⟩
 ·simp at he;subst he;exact⟨rfl,.str _⟩
 ·exact⟨rfl,.nil _ _⟩
 ·cases he
theorem Wz{h:Array Obj}{m:Nat→Nat}:∀{xs:List Value} {sh:Sh} {vs:List V},vv xs sh vs=true→vs.length=sh.length∧xs.length=sh.length ∧
  ∀(i:Nat) (v:V),vs[i]?=some v→∃x,xs[i]?=some x∧v.plain=true∧fg h m v x
 |[],[],[],_=>by simp
 |x::xs,s::sh,v::vs,he=>by
  simp only[vv,bS]at he;obtain⟨p,q,r⟩:=Wz (h:=h) (m:=m) he.2;refine⟨by simp[p],by simp[q],fun i u hu=>?_⟩
  cases i with
  |zero=>simp at hu;subst hu;exact⟨x,by simp,aim he.1⟩
  |succ i=>obtain⟨y,hy,z⟩:=r i u (by simpa using hu);exact⟨y,by simpa using hy,z⟩
 |[],[],_::_,he=>by simp[vv]at he
 |[],_::_,_,he=>by simp[vv]at he
 |_::_,[],_,he=>by simp[vv]at he
 |_::_,_::_,[],he=>by simp[vv]at he
theorem WA{h:Array Obj}{m:Nat→Nat}{sh:Sh}{zs:List Value}{zero:List V}(hz:vv zs sh zero=true)(n:Nat) :
  jX h m sh.length (List.replicate n zero) ((List.range (n*sh.length)).map fun k=>zs.getD (k % sh.length) default):=by
 obtain⟨hl,qq,hx⟩:=Wz (h:=h) (m:=m) hz;refine⟨by simp,fun i row hr=>?_,fun i row j v hr hj=>?_⟩
 ·rw[OB]at hr
  split at hr<;>cases hr;exact hl
 ·rw[OB]at hr
  split at hr
  ·rename_i hi
   cases hr;obtain⟨u,hu,p,q⟩:=hx j v hj;have qX:j<zs.length:=eQ hu;have KT:j<sh.length:=by omega
   refine⟨p,u,?_,q⟩;have:=OQ hi KT;simp only[vN,Kk this,nI,Option.some.injEq];rw[Kt,Nat.add_mul_mod_self_right,Nat.mod_eq_of_lt KT];simp[List.getD,hu]
  ·cases hr
def CM(len:Nat):List (Nat×Operand)→List (Nat×bw)→Bool
 |[],[]=>true
 |(i,y)::ps,(k,x)::qs=>i==k&&bU y x&&CM len ps qs
 |_,_=>false
theorem ain{sh:Sh}{v:V}{r:List V}(h:nb sh v.cells=some r):∀u∈v.cells,u.cL=true:=fun u hu=>by
 have:∀{sh:Sh} {vs us:List V},nb sh vs=some us→∀u∈vs,u.cL=true:=by
  intro sh;induction sh with
  |nil=>intro vs us h u hu;cases vs<;>simp_all[nb]
  |cons s sh ih =>
   intro vs us h u hu;cases vs with
   |nil=>simp at hu
   |cons z zs =>
    simp only[nb]at h;split at h
    ·rename_i p q h1 h2
     rcases jB.1 hu with e|e
     ·subst e
      unfold el at h1;split at h1<;>first|rfl|cases h1
     ·exact ih h2 u e
    ·cases h
 exact this h u hu
theorem WB(hR:R E g S a w){sh:Sh}:∀{ps:List (Nat×Operand)} {qs:List (Nat×bw)} {len:Nat},CM len ps qs=true→∀{rs zH:List (List V)} {xs:Array Value},vm S sh qs rs=some zH →
  jX w.heap g.m sh.length rs xs.toList→∃vu,Instr.fill (fun i=>some (i*sh.length,sh.length)) xs (ps.map fun(i,x)=>(i,a.eval x))=some vu∧jX w.heap g.m sh.length zH vu.toList∧zH.length=rs.length
 |[],[],_,_,rs,zH,xs,h,hp=>by simp only[vm,Option.some.injEq]at h;subst h;exact⟨xs,rfl,hp,rfl⟩
 |[],_::_,_,h,_,_,_,_,_=>by simp[CM]at h
 |_::_,[],_,h,_,_,_,_,_=>by simp[CM]at h
 |(i,y)::ps,(k,x)::qs,len,h,rs,zH,xs,hf,hp=>by
  simp only[CM,bS,dO]at h;obtain⟨⟨rfl,ho⟩,bu⟩:=h;simp only[vm]at hf;split at hf
  ·rename_i v hv
   split at hf
   ·rename_i r hr
    cases bE:Nat.blt i rs.length with
    |false=>simp[bE]at hf
    |true =>
     simp only[bE,bG]at hf;have bE:i<rs.length:=il bE;obtain⟨hl,hx⟩:=Eu (cY hR ho hv) (ain hr);obtain⟨e1,e2⟩:=Ho hr;have eg:(a.eval y).cells.size=sh.length:=by simp at hl;omega
     have CL:=hp.len;simp only[xS]at CL;have fC:i*sh.length+sh.length≤rs.length*sh.length:=by
      have:=tf sh.length bE;rw[oS]at this;exact this
     obtain⟨vu,h1,h2,h3⟩:=WB hR (ps:=ps) (xs:=((a.eval y).cells.toList.zipIdx 0).foldl (fun cs (p:Value×Nat)=>cs.setIfInBounds (i*sh.length+p.2) p.1) xs) bu hf (by
      refine⟨?_,fun k row hk=>?_,fun k row j u hk hj=>?_⟩
      ·rw[oR,← CL];exact O0 _ _ _ _
      ·rw[jU]at hk
       split at hk
       ·first
        |(cases hk;exact e1)
        |(split at hk
          ·cases hk;exact e1
          ·cases hk)
       ·exact hp.row k row hk
      ·have WC:k<rs.length:=by have:=eQ hk;simpa using this
       rw[jU]at hk;simp only[J6,OZ,wH,xS,eg,CL];split at hk
       ·rename_i kh
        subst kh;have hk:r=row:=by simpa [bE] using hk
        subst hk;have qX:=eQ hj;rw[e1]at qX;obtain⟨z,s,hz,mw⟩:=KN hr j u hj;have sA:j<(a.eval y).cells.size:=by omega
        obtain⟨p,q⟩:=Hn mw (hx j z (a.eval y).cells[j] hz (by simp[sA]))
        refine⟨p,_,?_,q⟩;rw[aM (by omega),V5]
        simp[sA]
       ·rename_i kh
        obtain⟨p,z,hz,q⟩:=hp.cell k row j u hk hj;have qX:=eQ hj;rw[hp.row k row hk]at qX;refine⟨p,z,?_,q⟩;rw[ay]
        ·simpa using hz
        ·rintro⟨p1,p2,_⟩
         rcases cF i k with h|h
         ·have:=tf sh.length h
          rw[oS]at this;omega
         ·have h:k<i:=by omega
          have:=tf sh.length h;rw[oS]at this;omega)
     refine⟨vu,?_,h2,by rw[h3];simp⟩
     simp only[oq,Instr.fill,eg,Oh,ne_eq,not_true_eq_false,decide_false];rw[Wx];rw[ay (by simp;omega)]
     exact h1
   ·cases hf
  ·cases hf
theorem WD(n m:Nat)(zs:Array Value)(hz:zs.size=m)(hm:0<m):((Array.range (n*m)).map fun i=>zs[i % zs.size]!).toList=(List.range (n*m)).map fun k=>zs.toList.getD (k % m) default:=by
 apply wD;intro j;by_cases hj:j<n*m
 ·have:=Kw j hm
  have h2:j % m<zs.size:=by omega
  simp[hj,hz,List.getD];rw[getElem!_pos zs (j % m) h2];simp[h2]
 ·simp[hj]
theorem aio{o:Oper}{t e:TypeId}{ie:TypeInfo}{z:Value}{tok:Option Nat}{sh:Sh}{zero:List V}{len:Nat}{ps:Array (Nat×Operand)}{qs:List (Nat×bw)}{C:bD}(ho:o.op=.buildSlice t len ps)
  (ht:P.underlying t=some (.slice e)) (hi:P.info? e=some ie) (hz:ie.zero=some z) (eg:ie.size=sh.length) (o0:z.cells.size=sh.length) (gy:0<sh.length) (hlen:0<len) (aip:len*sh.length≤16777216)
  (wV:vv z.cells.toList sh zero=true) (uq:CM len ps.toList qs=true) (hn:∀f,tok=some f→S.eN f)
  (hR:R E g S a w) (hd:∀d,o.dst=some d→d<E.nt) (hrun:VO.run C o.dst S (.lit tok sh zero len qs)=some S'):ch P E o S S' a w:=by
 simp only[VO.run]at hrun;split at hrun
 ·rename_i rs hf
  have hzero:jX w.heap g.m sh.length (List.replicate len zero) ((Array.range (len*ie.size)).map fun i=>z.cells[i % z.cells.size]!).toList:=by
   rw[eg,WD len sh.length z.cells o0 gy];exact WA wV len
  obtain⟨xs,h1,h2,h3⟩:=WB hR uq (xs:=(Array.range (len*ie.size)).map fun i=>z.cells[i % z.cells.size]!) hf hzero;have h3:rs.length=len:=by simpa using h3
  have hbs:=run_buildSlice (P:=P) w t e len (ps.map fun(i,x)=>(i,a.eval x)) xs ie z ht hi hz (by rw[eg];omega) (by rw[eg];have:=Kz hlen gy;omega) (by rw[Of,eg];rw[eg]at h1;exact h1)
  have fq:(execOp a.eval o).run P w=.ok (.value (.slice (some ⟨w.heap.size,0,none⟩) len len)) (w.alloc (.cells xs e)):=by
   simp only[execOp,ho];simp only[Sem.run_bind,hbs,Result.andThen_ok,Sem.run_pure]
  have Ey:=h2.len;simp only[xS,h3]at Ey;split at hrun
  ·rename_i f
   cases hrun;obtain⟨g',r1,r2⟩:=hR.OT (w':=w.alloc (.cells xs e)) (f:=f) rfl rfl rfl rfl (n:=sh.length) (ys:=rs) (l:=xs.toList) (by omega) (.inl (hn f rfl)) h2 (fun j y hj=>by simpa using hj) (cap:=len) (by omega) (by omega)
   rw[h3]at r1 r2;exact .value fq (r1.put hd r2)
  ·cases hrun
   obtain⟨g',r1,r2⟩:=hR.O1 (w':=w.alloc (.cells xs e)) rfl rfl rfl rfl (n:=sh.length) (ys:=rs) (l:=xs.toList) h2 (fun j y hj=>by simpa using hj) (cap:=len) (by omega)
   rw[h3]at r2;exact .value fq (r1.put hd r2)
 ·cases hrun
theorem wrap_small{n:Int}(h0:0≤n)(h1:n≤lim):IntKind.i64.wrap n=n:=by
 unfold lim at h1;exact IntWalk.i64_in _ (by omega)
theorem WE{t e:TypeId}{ie:TypeInfo}{z:Value}{k:IntKind}{n:Int}(ht:P.underlying t=some (.slice e))(hi:P.info? e=some ie)(hz:ie.zero=some z)(gy:0<ie.size)(tu:ie.bytes≤32768)(h0:0≤n)(h1:n≤lim) :
  (Instr.makeSlice t (.int k n) (.int k n)).run P w=.ok (.slice (some ⟨w.heap.size,0,none⟩) n.toNat n.toNat) (w.alloc (.cells ((Array.range (n.toNat*ie.size)).map fun i=>z.cells[i % z.cells.size]!) e)):=by
 have hb:(ie.bytes:Int)*n≤281474976710656:=by
  unfold lim at h1;have a1:(ie.bytes:Int)≤32768:=by omega
  have:=GL a1 h1 h0 (by decide)
  simp at this;omega
 have hw:=wrap_small h0 h1;by_cases hn:n.toNat*ie.size=0
 ·have yq:n.toNat=0:=by
   rcases Ky.1 hn with h|h
   ·exact h
   ·omega
  have:n=0:=by omega
  subst this;simp[Instr.makeSlice,ji ht,asInt,asIntOf,typeInfo,hi,hw,sizeOf,newRow,show Array.range 0 = #[] from rfl]
 ·have h3:¬ (n<0):=by omega
  have h4:¬ (281474976710656<(ie.bytes:Int)*n):=by omega
  simp[Instr.makeSlice,ji ht,asInt,asIntOf,typeInfo,hi,hw,sizeOf,newRow,h3,h4,hn,zeroValue,hz]
theorem WG(zero:List V):∀(n k:Nat),(List.replicate n zero).flatten[k]?=if k<n*zero.length then zero[k % zero.length]? else none
 |0,k=>by simp
 |n+1,k=>by
  have e:(n+1)*zero.length=n*zero.length+zero.length:=oS _ _;rw[AY,ue,oQ,WG zero n,e];generalize n*zero.length=q;by_cases h:k<zero.length
  ·rw[aM h,aM (by omega),Nat.mod_eq_of_lt h]
  ·rw[ay h]
   by_cases h2:k<q+zero.length
   ·rw[aM h2,aM (by omega),Nat.mod_eq_sub_mod (a:=k) (by omega)]
   ·rw[ay h2,ay (by omega)]
theorem air{o:Oper}{t e:TypeId}{ie:TypeInfo}{z:Value}{id:Nat}{zero:List V}{p p':Operand}{x:bw}{C:bD}(ho:o.op=.makeSlice t p p')
  (ht:P.underlying t=some (.slice e)) (hi:P.info? e=some ie) (hz:ie.zero=some z) (eg:ie.size=zero.length) (gy:0<ie.size) (tu:ie.bytes≤32768)
  (Bi:vq z.cells.toList zero=true) (hp:bU p x=true) (zI:bU p' x=true) (hn:S.eN id)
  (hR:R E g S a w) (hd:∀d,o.dst=some d→d<E.nt) (hrun:VO.run C o.dst S (.ug id zero x)=some S'):ch P E o S S' a w:=by
 simp only[VO.run]at hrun;split at hrun
 ·rename_i k n hx
  cases hc:(decide (0≤n)&&decide (n≤(lim:Int))) with
  |false=>simp[hc]at hrun
  |true =>
   simp only[hc,bG]at hrun;simp only[bS,iD]at hc;cases hrun;have e1:=mI (cY hR hp hx);have Ez:=mI (cY hR zI hx);obtain⟨hl,hv⟩:=Es (X:=S.cx g w) Bi;have o0:z.cells.size=ie.size:=by rw[eg];simpa using hl.symm
   have hm:=WE (P:=P) (w:=w) (k:=k) ht hi hz gy tu hc.1 hc.2;obtain⟨g',r1,r2,r3⟩:=hR.newObj (cpn:=n.toNat*zero.length) (hcpn:=by simp[eg]) (w':=w.alloc (.cells ((Array.range (n.toNat*ie.size)).map fun i=>z.cells[i % z.cells.size]!) e)) hn rfl rfl rfl rfl (cs:=(List.replicate n.toNat zero).flatten) (fun j v hj=>by
    rw[WG]at hj;split at hj
    ·rename_i bE
     have yr:j % zero.length<z.cells.size:=by rw[o0,eg];exact Kw _ (by omega)
     obtain⟨q1,q2,q3⟩:=hv (j % zero.length) v z.cells[j % zero.length] hj (by simp[yr])
     refine⟨q1,q2 _,z.cells[j % zero.length],?_,q3⟩;simp[o0,eg,bE];rw[getElem!_pos z.cells (j % zero.length) yr]
    ·cases hj)
   refine ch.value (x:=.slice (some ⟨w.heap.size,0,none⟩) n.toNat n.toNat) (g':=g') (w':=w.alloc (.cells ((Array.range (n.toNat*ie.size)).map fun i=>z.cells[i % z.cells.size]!) e)) ?_ (r1.put hd ?_)
   ·simp only[execOp,ho,e1,Ez]
    simp only[Sem.run_bind,hm,Result.andThen_ok,Sem.run_pure]
   ·rw[←r2];exact .bR id _ _ _ (bV _) r3.symm
 ·cases hrun
theorem ais{o:Oper}{t e:TypeId}{ie:TypeInfo}{z:Value}{sh:Sh}{zero:List V}{len:Nat}{p p':Operand}{C:bD}(ho:o.op=.makeSlice t p p')
  (ht:P.underlying t=some (.slice e)) (hi:P.info? e=some ie) (hz:ie.zero=some z) (eg:ie.size=sh.length) (o0:z.cells.size=sh.length) (tu:ie.bytes≤32768) (gy:0<sh.length) (aip:len≤65536)
  (wV:vv z.cells.toList sh zero=true) (hp:bU p (.c (.int .i64 len))=true) (zI:bU p' (.c (.int .i64 len))=true)
  (hR:R E g S a w) (hd:∀d,o.dst=some d→d<E.nt) (hrun:VO.run C o.dst S (.lit none sh zero len [])=some S'):ch P E o S S' a w:=by
 simp only[VO.run,vm]at hrun;cases hrun;have hzero:jX w.heap g.m sh.length (List.replicate len zero) ((Array.range (len*ie.size)).map fun i=>z.cells[i % z.cells.size]!).toList:=by
  rw[eg,WD len sh.length z.cells o0 gy];exact WA wV len
 have e1:=mI (cY hR hp rfl);have Ez:=mI (cY hR zI rfl);have hm:=WE (P:=P) (w:=w) (k:=.i64) (n:=(len:Int)) ht hi hz (by omega) tu (by omega) (by unfold lim;omega)
 simp only[Ov]at hm;obtain⟨g',r1,r2⟩:=hR.O1 (w':=w.alloc (.cells ((Array.range (len*ie.size)).map fun i=>z.cells[i % z.cells.size]!) e)) rfl rfl rfl rfl (n:=sh.length) (ys:=List.replicate len zero) (l:=((Array.range (len*ie.size)).map fun i=>z.cells[i % z.cells.size]!).toList) hzero (fun j y hj=>by rw[←J6];exact hj) (cap:=len) (by simp)
 rw[GU]at r2;refine ch.value (x:=.slice (some ⟨w.heap.size,0,none⟩) len len) (g':=g') (w':=w.alloc (.cells ((Array.range (len*ie.size)).map fun i=>z.cells[i % z.cells.size]!) e)) ?_ (r1.put hd r2);simp only[execOp,ho,e1,Ez];simp only[Sem.run_bind,hm,Result.andThen_ok,Sem.run_pure]
theorem O3{t:TypeId}{n:Nat}(hs:e9 P t=some n){b o:Nat}{v:Value}(hv:v.cells.size=n){c:Array Value}{e:TypeId}(hb:w.heap[b]?=some (.cells c e (0,0)))(fC:o+n≤c.size)
  (h1:∀y∈v.cells.toList,y.oneCell'=true):(storeVar t ⟨b,o,none⟩ v).run P w=.ok () (w.setRow b (c.toList.take o++v.cells.toList++c.toList.drop (o+n)).toArray):=by
 have ez:=run_storeCells_at P b o e v.cells.toList 0 c w hb (by simp;omega) h1
 simp only[wH,xS,hv]at ez;simp[storeVar,oW hs,hv,ez]
theorem Bj{c:Array Value}{l:List Value}{o:Nat}(fC:o+l.length≤c.size)(k:Nat):(c.toList.take o++l++c.toList.drop (o+l.length)).toArray[k]?=if o≤k∧k<o+l.length then l[k-o]? else c[k]?:=by
 simp only[Ed,uW];by_cases h:k<o
 ·rw[nG (by simp;omega),ay (by omega)]
  simp[h]
 ·rw[qg (by simp;omega)]
  have e:(c.toList.take o).length=o:=by simp;omega
  rw[e];by_cases h2:k-o<l.length
  ·rw[nG h2,aM (by omega)]
  ·rw[qg (by omega),ay (by omega),mn]
   simp;congr 1;omega
theorem EA{c:Array Value}{l:List Value}{o:Nat}(fC:o+l.length≤c.size):(c.toList.take o++l++c.toList.drop (o+l.length)).toArray.size=c.size:=by
 simp;omega
theorem Hy(w:World)(b i:Nat)(c:Array Value)(h:i≠b):(w.setRow b c).heap[i]?=w.heap[i]?:=by
 simp only[World.setRow,D8];rw[ay (by omega)]
theorem EB{b:Nat}{c':Array Value}(hm:g.m b=0)(zJ:E.w0.heap.size≤b∨∃i,i<E.N0∧E.g0.ow b=.aA i)(Hz:∀p q,g.ow b≠.cell p q)(hR:R E g S a w) :
  Touch E g S w g S.bj S.aA.length (w.setRow b c') b none none where
 os:=rfl
 tape:=rfl
 output:=rfl
 size:=by simp
 heap:=fun i hi _=>Hy w b i c' hi
 m:=fun _ _=>rfl
 ow:=fun _ _=>rfl
 κ:=fun _ _=>rfl
 cp:=fun _ _=>rfl
 τ:=fun _ _=>rfl
 T:=fun _ _=>rfl
 γ:=fun _ _=>rfl
 eK:=bV _
 γnew:=fun i a b=>absurd a (by omega)
 fresh:=zJ.imp (fun z=>z) .inl
 iq:=fun p q _ e=>absurd e (Hz p q)
 lv:=fun i e=>hR.Er e (bV _)
 kb:=fun o y ho _=>absurd ho (by omega)
 qn:=fun _=>bV _
theorem ait{o:Oper}{t:TypeId}{sh:Sh}{p q:Operand}{x y:bw}{id off:Nat}{cs:List V}{v:V}(ho:o.op=.store t p q)(w5:o.dst=none)(hs:e9 P t=some sh.length)(hp:bU p x=true)(hq:bU q y=true)
  (hR:R E g S a w) (hx:S.ev x=some (.bJ id off)) (hy:S.ev y=some v) (eO:look id S.aW=some cs) (hl:v.cells.length=sh.length) (hle:off+sh.length≤cs.length) (jw:∀u∈v.cells,u.cL=true) (gy:0<sh.length) :
  ch P E o S { S with aW:=(id,iF cs off v.cells)::S.aW } a w:=by
 rcases hR.aW id cs eO with⟨h0,wW⟩ | ⟨cr,fZ,hm,c,e,hh,fU,hj⟩
 ·subst h0;simp only[tc]at hle;omega
 obtain⟨my,EC⟩:=Eu (cY hR hq hy) jw;have eg:(a.eval q).cells.size=sh.length:=by simp at my;omega
 have hc:cs.length≤c.size:=by
  rcases cF c.size cs.length with h|h
  ·obtain⟨_,y,hy,_⟩:=hj c.size cs[c.size] (fN h)
   simp at hy
  ·exact h
 have h1:∀y∈(a.eval q).cells.toList,y.oneCell'=true:=fun y hy=>by
  obtain⟨k,hk⟩:=nH.1 hy;have WC:=eQ hk;have sB:k<v.cells.length:=by omega
  exact OO (EC k v.cells[k] y (fN sB) hk) (jw _ (GS sB))
 have fC:off+(a.eval q).cells.toList.length≤c.size:=by simp;omega
 have hrun:=O3 (P:=P) (w:=w) hs (v:=a.eval q) eg hh (o:=off) (by omega) h1
 have hlen:(a.eval q).cells.toList.length=sh.length:=by simpa using eg
 rw[←hlen]at hrun
 let c':Array Value:=(c.toList.take off++(a.eval q).cells.toList++c.toList.drop (off+(a.eval q).cells.toList.length)).toArray
 have kT:(w.setRow (g.κ id) c').heap[g.κ id]?=some (.cells c' e (0,0)):=setRow_heap w _ c c' e _ hh;have tt:=EB (c':=c') (S:=S) (w:=w) hm (.inl fZ) (fun _ _ e=>by rw[cr]at e;cases e) hR
 have hk:∀i,jg (S.cx g w) ⟨(w.setRow (g.κ id) c').heap,g,S.aA.length,S.bj⟩ i:=fun i=>tt.keeps hR (fun e=>by cases e) (fun e=>by cases e) (fun _ e=>by rw[cr]at e;cases e)
 refine ch.skip (g':=g) (w':=w.setRow (g.κ id) c') ?_ w5 (R.oA tt hR rfl rfl (fun i=>.inl (hk i)) (fun s v hs=>.inl hs) (fun i dS hi=>?_) (fun f k b hf hb=>.inl ⟨(fun e=>by cases e),fun _ e=>by rw[cr]at e;cases e⟩)
  (fun i o hi=>.inl ⟨hi,fun _=>⟨fun e=>(by rw[cr]at e;cases e),fun _ e=>(by rw[cr]at e;cases e)⟩⟩))
 ·simp only[execOp,ho,Ba (cY hR hp hx)]
  have CG:(storeVar t ⟨(S.cx g w).g.κ id,off,none⟩ (a.eval q)).run P w=.ok () (w.setRow (g.κ id) c'):=hrun;simp[Instr.storeAt,Instr.sureAddr,CG]
 ·rw[dz]at hi
  by_cases jH:id=i
  ·subst jH
   rw[aM rfl]at hi;cases hi;refine .inr ⟨cr,fZ,hm,c',e,kT,(by rw[EA (by omega)];exact fU),fun j u hu=>?_⟩
   rw[Bh]at hu;show _∧∃y,c'[j]?=some y∧_;rw[show c'[j]?=_ from Bj fC j];split at hu
   ·rename_i lQ
    rw[aM (by omega)]
    have sC:=eQ hu;have qX:j-off<(a.eval q).cells.toList.length:=by omega
    exact⟨jw u (fW hu),_,fN qX,(EC (j-off) u _ hu (fN qX)).mono tt.le (fun i=>.inl (hk i))⟩
   ·rename_i lQ
    have Bk:=eQ hu;rw[ay (by omega)]
    obtain⟨q1,z,q2,q3⟩:=hj j u hu;exact⟨q1,z,q2,q3.mono tt.le (fun i=>.inl (hk i))⟩
  ·rw[ay jH]at hi
   exact .inl ⟨hi,(fun e=>by cases e),fun _ e=>jH (by rw[cr]at e;cases e;rfl)⟩
theorem ED{X:Cx}{sh:Option Nat}{v u:V}{y:Value}(h:qj sh v=some u)(hr:bb X v y):u.cL=true∧(∀d,u.cq d=false)∧bb ⟨X.h,X.g,X.N,[]⟩ u y∧v.cL=true:=by
 have wV:∀{v u},el sh v=some u→bb X v y→u.cL=true∧(∀d,u.cq d=false)∧bb ⟨X.h,X.g,X.N,[]⟩ u y∧v.cL=true:=fun {v u} h hr=>by
  obtain⟨p,q⟩:=Hn h hr;refine⟨by cases u<;>simp_all[V.plain,V.cL],fun d=>?_,.plain q (um p),?_⟩
  ·cases u<;>simp_all[V.plain,V.cq,V.dF,V.cA]
   rename_i tok _ _;cases tok<;>simp_all[V.cA]
  ·unfold el at h
   split at h<;>first|rfl|cases h
 unfold qj at h;split at h
 ·cases h;obtain⟨e,hi⟩:=Bb hr;rw[e];exact⟨rfl,fun _=>rfl,.bm _ _ hi,rfl⟩
 ·cases h;cases hr with
  |plain h _=>cases h
  |c5 _ _ _ _ h hl=>exact⟨rfl,fun _=>rfl,.c5 _ _ _ _ h hl,rfl⟩
  |ui _ _ h hz=>exact⟨rfl,fun _=>rfl,.ui _ _ h hz,rfl⟩
 ·cases h;cases hr with
  |plain h _=>cases h
  |gq=>exact⟨rfl,fun _=>rfl,.gq,rfl⟩
 ·cases h;cases hr with
  |plain h _=>cases h
  |fn _ _ xs hl hx=>exact⟨rfl,fun _=>rfl,.fn _ _ xs hl hx,rfl⟩
 ·cases h;cases hr with
  |plain h _=>cases h
  |gu=>exact⟨rfl,fun _=>rfl,.gu,rfl⟩
 ·cases h;cases hr with
  |plain h _=>cases h
  |map _ hi=>exact⟨rfl,fun _=>rfl,.map _ hi,rfl⟩
 ·cases h;cases hr with
  |plain h _=>cases h
  |gw=>exact⟨rfl,fun _=>rfl,.gw,rfl⟩
 ·exact wV h hr
theorem O4:∀{sh:Sh} {vs us:List V},uh sh vs=some us→us.length=sh.length∧vs.length=sh.length
 |[],[],us,h=>by simp[uh]at h;subst h;simp
 |[],_::_,_,h=>by simp[uh]at h
 |_::_,[],_,h=>by simp[uh]at h
 |s::sh,v::vs,us,h=>by
  simp only[uh]at h;split at h
  ·rename_i u nP h1 h2
   cases h;obtain⟨a,b⟩:=O4 h2;simp[a,b]
  ·cases h
theorem O5:∀{sh:Sh} {vs us:List V},uh sh vs=some us→∀(j:Nat) (u:V),us[j]?=some u→∃v s,vs[j]?=some v∧qj s v=some u
 |[],[],us,h,j,u,hu=>by simp[uh]at h;subst h;simp at hu
 |[],_::_,_,h,_,_,_=>by simp[uh]at h
 |_::_,[],_,h,_,_,_=>by simp[uh]at h
 |s::sh,v::vs,us,h,j,u,hu=>by
  simp only[uh]at h;split at h
  ·rename_i u' nP h1 h2
   cases h;cases j with
   |zero=>simp at hu;subst hu;exact⟨v,s,by simp,h1⟩
   |succ j=>obtain⟨z,t,p,q⟩:=O5 h2 j u (by simpa using hu);exact⟨z,t,by simpa using p,q⟩
  ·cases h
theorem aiu{s:Option Nat}{v u:V}(h:qj s v=some u):v.cL=true:=by
 unfold qj at h;split at h
 all_goals first|rfl|skip
 unfold el at h;split at h<;>first|rfl|cases h
theorem WH{h:Array Obj}{m:Nat→Nat}{t t':Option Nat}{n:Nat}{es:List (List V)}{x:Value}(hr:fg h m (.slice t n es) x):fg h m (.slice t' n es) x:=by
 cases hr with
 |nil=>exact .nil _ _
 |empty _ _ a cap=>exact .empty _ _ a cap
 |slice _ _ _ b off cap ys hb eo iH hc hv hp hm=>exact .slice t' n es b off cap ys hb eo iH hc hv hp hm
def Bl:Value→Option Nat
 |.slice (some a) (_+1) _=>some a.block
 |_=>none
theorem HA{a:Addr}{n c:Nat}(h:0<n):Bl (.slice (some a) n c)=some a.block:=by
 cases n with
 |zero=>omega
 |succ n=>rfl
theorem O6{x:Value}(h:lL x):Bl x=none:=by
 rcases h with rfl | ⟨a,rfl⟩<;>rfl
theorem EE{X:Cx}{sh:Option Nat}{v u:V}{y:Value}(h:Cy sh v=some u)(hr:bb X v y) :
  u.cL=true∧(∀d,u.cq d=false)∧bb ⟨X.h,X.g,X.N,[]⟩ u y∧v.cL=true∧∀n es,u=.eF n es→es=[]∧lL y:=by
 have hg:∀{v u},qj sh v=some u→bb X v y→u.cL=true∧(∀d,u.cq d=false)∧bb ⟨X.h,X.g,X.N,[]⟩ u y∧v.cL=true∧∀n es,u=.eF n es→es=[]∧lL y:=fun {v u} h hr=>by
  obtain⟨h1,h2,h3,h4⟩:=ED h hr;refine⟨h1,h2,h3,h4,fun n es e=>?_⟩;subst e;exfalso;unfold qj at h;split at h
  all_goals first|(cases h;done)|skip
  unfold el at h;split at h
  all_goals first|(cases h;done)|skip
  split at h<;>cases h
 unfold Cy at h;split at h
 ·split at h
  ·cases h
   have e:=oV hr;subst e;exact⟨rfl,fun _=>rfl,.eF (.nil _ _),rfl,fun n es e=>by cases e;exact⟨rfl,.inl rfl⟩⟩
  ·exact hg h hr
 ·cases h
  have hz:=uk hr;exact⟨rfl,fun _=>rfl,.eF (by rcases hz with rfl | ⟨a,rfl⟩<;>first|exact .nil _ _|exact .empty _ _ a 0),rfl,fun n es e=>by cases e;exact⟨rfl,hz⟩⟩
 ·exact hg h hr
theorem HB:∀{sh:Sh} {vs us:List V},mH sh vs=some us→us.length=sh.length∧vs.length=sh.length
 |[],[],us,h=>by simp[mH]at h;subst h;simp
 |[],_::_,_,h=>by simp[mH]at h
 |_::_,[],_,h=>by simp[mH]at h
 |s::sh,v::vs,us,h=>by
  simp only[mH]at h;split at h
  ·rename_i u nP h1 h2
   cases h;obtain⟨a,b⟩:=HB h2;simp[a,b]
  ·cases h
theorem Bo:∀{sh:Sh} {vs us:List V},mH sh vs=some us→∀(j:Nat) (u:V),us[j]?=some u→∃v s,vs[j]?=some v∧Cy s v=some u
 |[],[],us,h,j,u,hu=>by simp[mH]at h;subst h;simp at hu
 |[],_::_,_,h,_,_,_=>by simp[mH]at h
 |_::_,[],_,h,_,_,_=>by simp[mH]at h
 |s::sh,v::vs,us,h,j,u,hu=>by
  simp only[mH]at h;split at h
  ·rename_i u' nP h1 h2
   cases h;cases j with
   |zero=>simp at hu;subst hu;exact⟨v,s,by simp,h1⟩
   |succ j=>obtain⟨z,t,p,q⟩:=Bo h2 j u (by simpa using hu);exact⟨z,t,by simpa using p,q⟩
  ·cases h
theorem aiv{s:Option Nat}{v u:V}(h:Cy s v=some u):v.cL=true:=by
 unfold Cy at h;split at h
 ·rfl
 ·rfl
 ·exact aiu h
theorem WI{sh:Sh}{vs us:List V}(h:mH sh vs=some us):∀v∈vs,v.cL=true:=fun v hv=>by
 obtain⟨j,hj⟩:=nH.1 hv;obtain⟨e1,e2⟩:=HB h;have:=eQ hj;obtain⟨z,s,hz,hg⟩:=Bo h j us[j] (fN (by omega))
 rw[hj]at hz;cases hz;exact aiv hg
theorem O7{h:Array Obj}{g:Gh}{b j n:Nat}{x:Value}(hz:lL x):End h g b j n 0 x:=.inl ⟨rfl,hz⟩
theorem EF(hR:R E g S a w){i:Nat}{o:aS}(ho:S.aA[i]?=some o)(cf:o≠.cells []):g.γ i<w.heap.size:=by
 obtain⟨_,h2⟩:=(hR.aA.obj i o ho).resolve_left cf;have key:∃ob,w.heap[g.γ i]?=some ob:=by
  cases o with
  |cells cs=>obtain⟨_,c,e,h4,_⟩:=h2;exact⟨_,h4⟩
  |map es=>obtain⟨_,c,e,h4,_⟩:=h2;exact⟨_,h4⟩
 obtain⟨ob,h4⟩:=key;rcases cF (g.γ i) w.heap.size with h|h
 ·exact h
 ·simp[mF h]at h4
theorem R.HC(hR:R E g S a w){b i:Nat}(cr:g.ow b=.aA i):E.w0.heap.size≤b∨∃k,k<E.N0∧E.g0.ow b=.aA k:=by
 rcases cF b E.w0.heap.size with h|h
 ·obtain⟨h1,h2⟩:=hR.same.lv b i cr h
  exact .inr ⟨i,h2,h1⟩
 ·exact .inl h
theorem WJ{cs:List V}{k:Nat}{u:V}(h:cs[k]?=some u):aS.cells cs≠.cells []:=fun e=>by cases e;simp at h
theorem aiw{o:Oper}{t:TypeId}{sh:Sh}{p q:Operand}{x y:bw}{i off:Nat}{cs vs:List V}{v:V}(ho:o.op=.store t p q)(w5:o.dst=none)(hs:e9 P t=some sh.length)(hp:bU p x=true)(hq:bU q y=true)
  (hR:R E g S a w) (hx:S.ev x=some (.bm i off)) (hy:S.ev y=some v) (eO:S.aA[i]?=some (.cells cs)) (hg:mH sh v.cells=some vs) (hle:off+vs.length≤cs.length) (cf:cs≠[]) :
  ch P E o S { S with aA:=S.aA.set i (.cells (iF cs off vs)) } a w:=by
 obtain⟨cr,hm,c,e,hh,dC,hj⟩:=(hR.aA.obj i _ eO).resolve_left (fun e=>cf (by cases e;rfl))
 have hi:=eQ eO;obtain⟨e1,e2⟩:=HB hg;have jw:=WI hg;obtain⟨my,EC⟩:=Eu (cY hR hq hy) jw;have eg:(a.eval q).cells.size=sh.length:=by simp at my;omega
 have h1:∀y∈(a.eval q).cells.toList,y.oneCell'=true:=fun y hy=>by
  obtain⟨k,hk⟩:=nH.1 hy;have WC:=eQ hk;have sB:k<v.cells.length:=by omega
  exact OO (EC k v.cells[k] y (fN sB) hk) (jw _ (GS sB))
 have hlen:(a.eval q).cells.toList.length=sh.length:=by simpa using eg
 have fC:off+(a.eval q).cells.toList.length≤c.size:=by omega
 have hrun:=O3 (P:=P) (w:=w) hs (v:=a.eval q) eg hh (o:=off) (by omega) h1
 rw[←hlen]at hrun
 let c':Array Value:=(c.toList.take off++(a.eval q).cells.toList++c.toList.drop (off+(a.eval q).cells.toList.length)).toArray
 have kT:(w.setRow (g.γ i) c').heap[g.γ i]?=some (.cells c' e (0,0)):=setRow_heap w _ c c' e _ hh;have tt:=EB (c':=c') (S:=S) (w:=w) hm (hR.HC cr) (fun _ _ e=>by rw[cr]at e;cases e) hR
 have hk:∀k,jg (S.cx g w) ⟨(w.setRow (g.γ i) c').heap,g,S.aA.length,S.bj⟩ k:=fun k=>tt.keeps hR (fun e=>by cases e) (fun e=>by cases e) (fun _ e=>by rw[cr]at e;cases e)
 have nM:Le ⟨w.heap,g,S.aA.length,[]⟩ ⟨(w.setRow (g.γ i) c').heap,g,S.aA.length,[]⟩:=⟨tt.le.size,tt.le.cells,tt.le.m,tt.le.eK,tt.le.γ⟩;refine ch.skip (g':=g) (w':=w.setRow (g.γ i) c') ?_ w5 (R.oA tt hR rfl (by simp) (fun i=>.inl (hk i)) (fun s v hs=>.inl hs) (fun id dS hi=>.inl ⟨hi,(fun e=>by cases e),fun _ e=>by rw[cr]at e;cases e⟩)
  (fun f k b hf hb=>.inl ⟨(fun e=>by cases e),fun _ e=>by rw[cr]at e;cases e⟩) (fun k o fx=>?_))
 ·obtain⟨ep,_⟩:=Bb (cY hR hp hx)
  have CG:(storeVar t ⟨(S.cx g w).g.γ i,off,none⟩ (a.eval q)).run P w=.ok () (w.setRow (g.γ i) c'):=hrun;simp only[execOp,ho,ep];simp[Instr.storeAt,Instr.sureAddr,CG]
 ·simp only[jU]at fx
  by_cases kh:i=k
  ·subst kh
   simp[hi]at fx;subst fx;refine .inr ⟨cr,⟨hm,c',e,kT,by rw[KS];exact iQ dC (u6 (EA fC).symm),fun j u z hu hz=>?_⟩,fun j n es z hu hz=>?_⟩
   ·rw[Bh]at hu
    rw[show c'[j]?=_ from Bj fC j]at hz;split at hu
    ·rename_i lQ
     rw[aM (by omega)]at hz
     obtain⟨u0,s,sD,qt⟩:=Bo hg _ u hu;obtain⟨q1,q2,q3,_⟩:=EE qt (EC (j-off) u0 z sD hz);exact⟨q1,q2,q3.mono nM (fun d=>.inr (q2 d))⟩
    ·rename_i lQ
     have Bk:=eQ hu;rw[ay (by omega)]at hz
     obtain⟨q1,q2,q3⟩:=hj j u z hu hz;exact⟨q1,q2,q3.mono nM (fun d=>.inr (q2 d))⟩
   ·rw[Bh]at hu
    rw[kR kT,show c'[j]?=_ from Bj fC j]at hz;split at hu
    ·rename_i lQ
     rw[aM (by omega)]at hz
     obtain⟨u0,s,sD,qt⟩:=Bo hg _ _ hu;obtain⟨_,_,_,_,q5⟩:=EE qt (EC (j-off) u0 z sD hz);obtain⟨rfl,hz⟩:=q5 n es rfl;exact O7 hz
    ·rename_i lQ
     have Bk:=eQ hu;rw[ay (by omega)]at hz
     rcases hR.aA.own i _ eO j n es z hu (by rw[kR hh];exact hz) with h | ⟨q,cap,c2,e',q1,q2,q3,q4,q5,q6⟩
     ·exact .inl h
     ·have cf:q≠g.γ i:=fun e=>by rw[e,cr]at q2;cases q2
      exact .inr ⟨q,cap,c2,e',q1,q2,q3,(Hy w _ q c' cf).trans q4,q5,q6⟩
  ·rw[ay kh]at fx
   exact .inl ⟨fx,fun _=>⟨fun e=>kh (by rw[cr]at e;cases e;rfl),fun _ e=>(by rw[cr]at e;cases e)⟩⟩
theorem aix{o:Oper}{t:TypeId}{root:jC}{sh:Sh}{p q:Operand}{x y:bw}{C:bD}(ho:o.op=.store t p q)(w5:o.dst=none)(hs:e9 P t=some sh.length)(hp:bU p x=true)(hq:bU q y=true)
  (hR:R E g S a w) (hrun:VO.run C o.dst S (.store root sh x y)=some S'):ch P E o S S' a w:=by
 simp only[VO.run]at hrun;cases fC:S.fits root x with
 |false=>simp[fC]at hrun
 |true =>
  simp only[fC,bG]at hrun;split at hrun
  ·rename_i id off v hx hy
   split at hrun
   ·rename_i cs eO
    cases hc:(v.cells.length==sh.length&&Nat.ble (off+sh.length) cs.length&&v.cells.all V.cL&&Nat.blt 0 sh.length) with
    |false=>simp[hc]at hrun
    |true =>
     simp only[hc,bG]at hrun;simp only[bS,dO,g8]at hc;cases hrun;exact ait ho w5 hs hp hq hR hx hy eO hc.1.1.1 (il hc.1.1.2) hc.1.2 (by have:=hc.2;simp[Nat.blt]at this;omega)
   ·cases hrun
  ·rename_i i off v hx hy
   split at hrun
   ·rename_i cs eO
    split at hrun
    ·rename_i vs hg
     cases hc:(Nat.ble (off+vs.length) cs.length&&Nat.blt 0 vs.length) with
     |false=>simp[hc]at hrun
     |true =>
      simp only[hc,bG]at hrun;cases hrun;simp only[bS]at hc;have hle:=il hc.1;exact aiw ho w5 hs hp hq hR hx hy eO hg hle (fun e=>by have h2:=hc.2;subst e;simp only[Nat.blt,Nat.ble_eq,tc]at hle h2;omega)
    ·cases hrun
   ·cases hrun
  ·cases hrun
theorem aiy{o:Oper}{t:TypeId}{sh:Sh}{p:Operand}{x:bw}{C:bD}(ho:o.op=.box t p)(hp:bU p x=true)
  (hR:R E g S a w) (hd:∀d,o.dst=some d→d<E.nt) (hrun:VO.run C o.dst S (.u7 sh x)=some S'):ch P E o S S' a w:=by
 simp only[VO.run]at hrun;split at hrun
 ·rename_i v hv
  split at hrun
  ·rename_i cs hg
   cases hrun;obtain⟨e1,e2⟩:=HB hg;obtain⟨hl,hx⟩:=Eu (cY hR hp hv) (WI hg)
   let c:Array Value:=(a.eval p).cells
   let g':Gh:={ g with m:=c6 g.m w.heap.size 0,γ:=c6 g.γ S.aA.length w.heap.size,ow:=c6 g.ow w.heap.size (.aA S.aA.length) }
   have hw:(w.alloc (.cells c t)).heap=w.heap.push (.cells c t (0,0)):=rfl;have t':Touch E g S w g' S.bj (S.aA.length+1) (w.alloc (.cells c t)) w.heap.size none none:=Hj hR hw rfl rfl rfl (fun b hb=>fY _ _ hb) (fun b hb=>fY _ _ hb)
    (fun i _=>rfl) (fun i _=>rfl) (fun i _=>rfl) (fun i _=>rfl) (fun i hi=>fY _ _ (by omega)) (by omega) (fun i h1 h2=>by
     have:i=S.aA.length:=by omega
     subst this;show _≤c6 g.γ _ _ _;rw[dL];exact hR.same.size) (fun i e=>by
     have e:c6 g.ow w.heap.size (.aA S.aA.length) w.heap.size=.aA i:=e;rw[dL]at e;cases e;exact⟨dL _ _ _,G4 _⟩)
   have lP:∀i,jg (S.cx g w) ⟨(w.alloc (.cells c t)).heap,g',S.aA.length+1,S.bj⟩ i:=fun i=>t'.keeps hR (fun e=>by cases e) (fun e=>by cases e) (fun h=>absurd h (gU _))
   have nM:Le ⟨w.heap,g,S.aA.length,[]⟩ ⟨(w.alloc (.cells c t)).heap,g',S.aA.length+1,[]⟩:=⟨t'.le.size,t'.le.cells,t'.le.m,t'.le.eK,t'.le.γ⟩;have hγ:g'.γ S.aA.length=w.heap.size:=dL _ _ _;have r1:R E g' { S with aA:=S.aA++[.cells cs] } a (w.alloc (.cells c t)):=R.oA t' hR rfl (by simp) (fun i=>.inl (lP i)) (fun s v hs=>.inl hs)
    (fun id dS hi=>.inl ⟨hi,(fun e=>by cases e),fun h=>absurd h (gU _)⟩) (fun f k b hf hb=>.inl ⟨(fun e=>by cases e),fun h=>absurd h (gU _)⟩) (fun k o fx=>by
     simp only[oQ]at fx;split at fx
     ·exact .inl ⟨fx,fun h=>absurd h (gU _)⟩
     ·rename_i hk
      have:k=S.aA.length:=by
       rcases mq (k-S.aA.length) with h|h
       ·omega
       ·rw[jT (by simp;omega)]at fx;cases fx
      subst this;simp at fx;subst fx;refine .inr ⟨by rw[hγ];exact dL _ _ _,⟨by rw[hγ];exact dL _ _ _,c,t,by rw[hγ];exact Hl hw,by(have:v.cells.length=(a.eval p).cells.size:=by simpa using hl);show cs.length≤(a.eval p).cells.size;omega,fun j u z hu hz=>?_⟩,fun j n es z hu hz=>?_⟩
      ·obtain⟨u0,s,sD,qt⟩:=Bo hg _ u hu
       obtain⟨q1,q2,q3,_⟩:=EE qt (hx j u0 z sD (by simpa using hz))
       exact⟨q1,q2,q3.mono nM (fun d=>.inr (q2 d))⟩
      ·rw[hγ,kR (Hl hw)]at hz
       obtain⟨u0,s,sD,qt⟩:=Bo hg _ _ hu;obtain⟨_,_,_,_,q5⟩:=EE qt (hx j u0 z sD (by simpa using hz))
       obtain⟨rfl,hz⟩:=q5 n es rfl;exact O7 hz)
   refine ch.value (x:=.pointer (some ⟨w.heap.size,0,none⟩)) (w':=w.alloc (.cells c t)) (g':=g') ?_ (r1.put hd ?_)
   ·simp[execOp,ho,Instr.box,newVar,newRow,c]
   ·rw[←hγ];exact .bm _ 0 (by simp[St.cx])
  ·cases hrun
 ·cases hrun
theorem aiz{o:Oper}{t e:TypeId}{n m:Nat}{C:bD}(ho:o.op=.buildSlice t 0 #[])(ht:P.underlying t=some (.slice e))(hn:e9 P e=some m)
  (hR:R E g S a w) (hd:∀d,o.dst=some d→d<E.nt) (hrun:VO.run C o.dst S (.y8 n)=some S'):ch P E o S S' a w:=by
 simp only[VO.run]at hrun;cases hrun;obtain⟨g',r1,_⟩:=hR.O1 (w':=w.alloc (.cells #[] e)) rfl rfl rfl rfl (n:=n) (ys:=[]) (l:=[]) ⟨by simp,by simp,by simp⟩ (fun j y hj=>by simp at hj) (cap:=0) (bV _)
 refine ch.value (x:=.slice (some ⟨w.heap.size,0,none⟩) 0 0) (g':=g') (w':=w.alloc (.cells #[] e)) ?_ (r1.put hd (.dY (.inr ⟨_,rfl⟩)));have hz:∀f:Nat→Value,(Array.range 0).map f = #[]:=fun f=>D7 (by simp)
 simp[execOp,ho,Instr.buildSlice,ji ht,oW hn,Instr.fill,newRow,hz]
theorem aiA{o:Oper}{op:BinOp}{t e ty:TypeId}{neg:Bool}{p q:Operand}{x:bw}{C:bD}(ho:o.op=.binOp op t p q ty)(zK:op=if neg then .neq else .eql)(ht:P.underlying t=some (.slice e))(hp:bU p x=true)(hq:bU q (.c .cb)=true)
  (hR:R E g S a w) (hd:∀d,o.dst=some d→d<E.nt) (hrun:VO.run C o.dst S (.wL neg x)=some S'):ch P E o S S' a w:=by
 have h0:=oV (cY (v:=.cb) hR hq rfl);have go:∀(r:Option Addr) (n c:Nat),a.eval p=.slice r n c→(bif neg then !r.isNone else r.isNone)=(bif neg then !r.isNone else r.isNone)→(execOp a.eval o).run P w=.ok (.value (.bool (bif neg then !r.isNone else r.isNone))) w:=fun r n c ev _=>by
  subst zK;have hg:∀op,(eqGuard op t p q (.slice r n c) (.slice none 0 0)).run P w=.ok () w:=fun op=>by
   cases op<;>simp[eqGuard]
  cases neg
  ·have h1:=Lib.run_eql_slice_nil (P:=P) w t e r n c 0 0 ht
   simp[execOp,ho,ev,h0,hg,h1]
  ·have h1:=run_neq_slice_nil_any (P:=P) w t e r n c 0 0 ht
   simp[execOp,ho,ev,h0,hg,h1]
 simp only[VO.run]at hrun;split at hrun
 ·rename_i hx
  cases hrun;have e:=oV (cY hR hp hx);have:=go _ _ _ e rfl;refine ch.put hR hd (x:=.bool !neg) ?_ (bb.bool _);rw[this];cases neg<;>rfl
 ·rename_i n hx
  cases hrun;obtain⟨b,cap,e⟩:=He (cY hR hp hx);have:=go _ _ _ e rfl;refine ch.put hR hd (x:=.bool neg) ?_ (bb.bool _);rw[this];cases neg<;>rfl
 ·rename_i t' n r rs hx
  cases hrun;have hr:=cY hR hp hx;obtain⟨b,len,cap,e⟩:∃b len cap,a.eval p=.slice (some b) len cap:=by
   generalize a.eval p=y at hr;cases hr with
   |plain h _=>cases h with
    |slice _ _ _ b off cap=>exact⟨_,_,_,rfl⟩
  have:=go _ _ _ e rfl;refine ch.put hR hd (x:=.bool neg) ?_ (bb.bool _);rw[this];cases neg<;>rfl
 ·cases hrun
theorem aiB{o:Oper}{t:TypeId}{cj:Nat}{p:Operand}{x:bw}{C:bD}(ho:o.op=.load t p)(hs:sx P t none=true)(hp:bU p x=true)(hn:S.eN cj)
  (hR:R E g S a w) (hd:∀d,o.dst=some d→d<E.nt) (hrun:VO.run C o.dst S (.tg cj x)=some S'):ch P E o S S' a w:=by
 simp only[VO.run]at hrun;split at hrun
 ·rename_i pv O8
  have HD:=cY hR hp O8;split at hrun
  ·rename_i v ts G yu
   cases hrun;unfold St.take at yu;split at yu
   ·rename_i id off
    obtain⟨ep,nQ⟩:=Bb HD;split at yu
    ·rename_i cs eO
     by_cases O9:cs=[]
     ·subst O9;simp at yu
     obtain⟨cr,hm,c,e,hh,dC,hj⟩:=(hR.aA.obj id _ eO).resolve_left (fun e=>O9 (by cases e;rfl))
     have EG:∀u,cs[off]?=some u→∃z,(execOp a.eval o).run P w=.ok (.value z) w∧bb (S.cx g w) u z∧c[off]?=some z:=fun u hu=>by
      have hc:S.nJ (.bm id off)=some (cs,off):=by simp[St.nJ,eO]
      obtain⟨b,f,e2,ew⟩:=Wk hR HD hc;rw[e2]at ep;injection ep with ep;injection ep with ep;injection ep with e3 e4 _;have e3:b=g.γ id:=e3;have e4:f=0:=by omega
      obtain⟨z,hz,hr⟩:=KL (P:=P) (w:=w) (t:=t) (sz:=none) (off:=off) hs ew hu;obtain⟨y,hy,_⟩:=ew off u hu;have hzy:z=y:=by
       have h5:(loadVar t ⟨b,f+off,none⟩).run P w=.ok y w:=by
        simp only[sx,bS,dO]at hs;simp[loadVar,CI hs.1,cell?_eq,hy]
       rw[h5]at hz;injection hz with hz;exact hz.symm
      rw[hzy]at hz hr;refine⟨y,by simp[execOp,ho,Instr.loadAt,e2,Instr.sureAddr,hz],hr,?_⟩
      rw[e3,kR hh,e4,jV]at hy;exact hy
     split at yu
     ·rename_i n es jw
      cases yu;obtain⟨z,hex,hr,hz⟩:=EG _ jw;have CN:fg w.heap g.m (.slice none n es) z:=by
       cases hr with
       |plain h _=>cases h
       |eF h=>exact h
      have nj:=eQ jw;have HE:=hR.aA.own id _ eO off n es z jw (by rw[kR hh];exact hz)
      let τ':Option Nat:=Bl z
      have WK:∀q,τ'=some q→g.ow q=.cell (g.γ id) off∧q<w.heap.size:=fun q hq=>by
       rcases HE with⟨_,e⟩ | ⟨q',cap,c2,e2,e,q2,q3,q4,q5,q6⟩
       ·rw[show τ'=none from O6 e]at hq;cases hq
       ·rw[show τ'=some q' by simp only[τ',e];exact HA q6]at hq
        cases hq;refine⟨q2,?_⟩;rcases cF q w.heap.size with h|h
        ·exact h
        ·simp[mF h]at q4
      let B:Nat:=τ'.getD w.heap.size
      let g':Gh:={ g with τ:=c6 g.τ cj τ',ow:=c6 g.ow B (.tok cj) }
      have Bp:B<w.heap.size→g.ow B=.cell (g.γ id) off:=fun hB=>by
       cases hτ:τ' with
       |none=>simp only[B,hτ,OJ]at hB;omega
       |some q=>simp only[B,hτ,KB];exact(WK q hτ).1
      have tt:Touch E g S w g' ((cj,es.length)::S.bj) S.aA.length w B none (some cj) :=
       {os:=rfl,tape:=rfl,output:=rfl,size:=bV _,heap:=fun _ _ _=>rfl,m:=fun _ _=>rfl,ow:=fun b hb=>fY _ _ hb,κ:=fun _ _=>rfl,cp:=fun _ _=>rfl,
        τ:=fun i hi=>fY _ _ (fun e=>hi (by rw[e])),T:=fun i hi=>by rw[dz,ay (fun e=>hi (by rw[e]))],γ:=fun _ _=>rfl,eK:=bV _,
        γnew:=fun i a b=>absurd a (by omega)
        fresh:=by
         rcases cF B E.w0.heap.size with h|h
         ·exact .inr (.inr (hR.same.iq B _ _ h (Bp (iC h hR.same.size))))
         ·exact .inl h
        iq:=fun p q _ e=>by
         have e:c6 g.ow B (.tok cj) B=.cell p q:=e;rw[dL]at e;cases e
        lv:=fun i e=>by
         have e:c6 g.ow B (.tok cj) B=.aA i:=e;rw[dL]at e;cases e
        kb:=fun _ _ _ h=>h,qn:=fun _=>bV _ }
      have lP:∀i,jg (S.cx g w) ⟨w.heap,g',S.aA.length,(cj,es.length)::S.bj⟩ i∨i=cj:=fun i=>by
       by_cases hi:cj=i
       ·exact .inr hi.symm
       ·exact .inl (tt.keeps hR (fun e=>by cases e) (fun e=>hi (by cases e;rfl)) (fun hB e=>by rw[Bp hB]at e;cases e))
      have aiE:∀k o,S.aA[k]?=some o→o≠.cells []→k≠id→g.γ k≠g.γ id:=fun k o hk EH cf e=>by
       have:=((hR.aA.obj k o hk).resolve_left EH).1;rw[e,cr]at this;cases this;exact cf rfl
      have r1:R E g' { S with bj:=(cj,es.length)::S.bj,aA:=S.aA.set id (.cells (cs.set off (.slice none n es))) } a w :=
       R.Hf (S':={ S with bj:=(cj,es.length)::S.bj,aA:=S.aA.set id (.cells (cs.set off (.slice none n es))) }) tt hR rfl (by simp) (fun i=>(lP i).imp (fun z=>z) fun e=>by rw[e];exact hn) (fun s v hs=>.inl hs)
        (fun i dS ho=>.inl ⟨ho,(fun e=>by cases e),fun hB e=>by rw[Bp hB]at e;cases e⟩) (fun f k b hf hb=>by
         by_cases yy:cj=f
         ·subst yy
          have hb:c6 g.τ cj τ' cj=some b:=hb;rw[dL]at hb;obtain⟨h1,h2⟩:=WK b hb;have Pb:B=b:=by simp only[B,hb,KB]
          refine .inr ⟨by show c6 g.ow B _ b=_;rw[Pb,dL],?_,h2⟩
          rcases cF b E.w0.heap.size with h|h
          ·exact .inr (hR.same.iq b _ _ h h1)
          ·exact .inl h
         ·exact .inl ⟨fun e=>yy (by cases e;rfl),fun hB e=>by rw[Bp hB]at e;cases e⟩) (fun k o fx EH=>by
         simp only[jU]at fx;by_cases kh:id=k
         ·subst kh
          simp[show id<S.aA.length from eQ eO]at fx;subst fx;have nM:Le ⟨w.heap,g,S.aA.length,[]⟩ ⟨w.heap,g',S.aA.length,[]⟩:=⟨tt.le.size,tt.le.cells,tt.le.m,tt.le.eK,tt.le.γ⟩;have hγB:g.γ id≠B:=fun e=>by
           have:=Bp (e ▸ EF hR eO (fun e=>O9 (by cases e;rfl)))
           rw[←e,cr]at this;cases this
          refine .inr ⟨(tt.ow _ hγB).trans cr,⟨hm,c,e,hh,by rw[oR];exact dC,fun j u y hu hy=>?_⟩,fun j n' pS y hu hy=>?_⟩
          ·rw[jU]at hu
           by_cases tw:off=j
           ·subst tw
            rw[aM rfl,aM nj]at hu;cases hu;have hyz:y=z:=by have hy:c[off]?=some y:=hy;rw[hz]at hy;exact(Option.some.inj hy).symm
            rw[hyz];exact⟨rfl,fun _=>rfl,.plain CN (fun _ _ _ e=>by cases e)⟩
           ·rw[ay tw]at hu
            obtain⟨q1,q2,q3⟩:=hj j u y hu hy;exact⟨q1,q2,q3.mono nM (fun d=>.inr (q2 d))⟩
          ·rw[jU]at hu
           by_cases tw:off=j
           ·subst tw
            rw[aM rfl,aM nj]at hu;cases hu
           ·rw[ay tw]at hu
            rcases hR.aA.own id _ eO j n' pS y hu hy with h | ⟨q,cap,c2,e',q1,q2,q3,q4,q5,q6⟩
            ·exact .inl h
            ·have Pc:q≠B:=fun e=>by
              have pP:q<w.heap.size:=by
               rcases cF q w.heap.size with h|h
               ·exact h
               ·simp[mF h]at q4
              rw[e]at q2 pP;rw[Bp pP]at q2;cases q2;exact tw rfl
             exact .inr ⟨q,cap,c2,e',q1,(tt.ow q Pc).trans q2,q3,q4,q5,q6⟩
         ·rw[ay kh]at fx
          refine .inl ⟨fx,fun hB=>⟨fun e=>(by rw[Bp hB]at e;cases e),fun j e=>?_⟩⟩
          rw[Bp hB]at e;injection e with e _;exact aiE k o fx EH (fun h=>kh h.symm) e.symm)
      refine ch.value (x:=z) (w':=w) (g':=g') hex (r1.put hd (.plain (WH CN) (fun f n' pS e k hk=>?_)));cases e;have hk:look cj ((cj,es.length)::S.bj)=some k:=hk;rw[dz,aM rfl]at hk;cases hk;refine⟨bV _,fun _=>?_⟩;rcases HE with⟨e1,e2⟩ | ⟨q,cap,c2,e',q1,q2,q3,q4,q5,q6⟩
      ·exact .inl ⟨e1,e2⟩
      ·refine .inr ⟨q,0,cap,c2,e',?_,q1,by show g.m q=_;omega,q4,by omega,rfl,q6⟩
       show c6 g.τ cj τ' cj=_;rw[dL];simp only[τ',q1];exact HA q6
     ·rename_i u _ jw
      cases yu;obtain⟨z,hex,hr,hz⟩:=EG _ jw;exact ch.put hR hd hex (Wh hr)
     ·cases yu
    ·cases yu
   ·cases yu
  ·cases hrun
 ·cases hrun
theorem aiH{o:Oper}{t:TypeId}{cj:Nat}{p q:Operand}{x y:bw}{C:bD}(ho:o.op=.store t p q)(w5:o.dst=none)(hs:e9 P t=some 1)(hp:bU p x=true)(hq:bU q y=true)
  (hR:R E g S a w) (hrun:VO.run C o.dst S (.vi cj x y)=some S'):ch P E o S S' a w:=by
 simp only[VO.run]at hrun;split at hrun
 ·rename_i pv v O8 hv
  have HD:=cY hR hp O8;have CN:=cY hR hq hv;split at hrun
  ·rename_i ts G Bq
   cases hrun;unfold St.xZ at Bq;split at Bq
   ·rename_i id off f n es
    split at Bq
    ·rename_i cs k eO hk
     have qp:f=cj∧look f S.bj=some k:=by
      cases yy:f==cj with
      |false=>rw[yy]at hk;cases hk
      |true =>
       have:=eq_of_beq yy;subst this;rw[yy]at hk;exact⟨rfl,hk⟩
     obtain⟨e,pd⟩:=qp;subst e
     clear hk
     have hk:=pd;cases hc:(k==es.length&&Nat.blt off cs.length) with
     |false=>simp[hc]at Bq
     |true =>
      simp only[hc,bG,Option.some.injEq,Prod.mk.injEq]at Bq;obtain⟨rfl,rfl⟩:=Bq;simp only[bS,dO]at hc;obtain⟨rfl,bE⟩:=hc;have nj:off<cs.length:=by simp[Nat.blt]at bE;omega
      obtain⟨ep,nQ⟩:=Bb HD;obtain⟨cr,hm,c,e,hh,dC,hj⟩:=(hR.aA.obj id _ eO).resolve_left (fun e=>by cases e;simp at nj)
      generalize hyv:a.eval q=yv at CN;obtain⟨HF,Pd⟩:fg w.heap g.m (.slice (some f) n es) yv∧zA (S.cx g w) f n es.length yv:=by
       cases CN with
       |plain h ht=>exact⟨h,(ht f n es rfl _ hk).2 rfl⟩
      have Pe:fg w.heap g.m (.slice none n es) yv:=WH HF;have yA:yv.cells = #[yv]:=HF.cells
      let c':Array Value:=(c.toList.take off++yv.cells.toList++c.toList.drop (off+yv.cells.toList.length)).toArray
      have pe:yv.cells.toList.length=1:=by rw[yA];rfl
      have fC:off+yv.cells.toList.length≤c.size:=by omega
      have hrun:=O3 (P:=P) (w:=w) (t:=t) (n:=1) hs (v:=yv) (by rw[yA];rfl) hh (o:=off) (by omega) (fun y hy=>by rw[yA]at hy;simp at hy;subst hy;exact HF.CF)
      rw[←pe]at hrun;have kT:(w.setRow (g.γ id) c').heap[g.γ id]?=some (.cells c' e (0,0)):=setRow_heap w _ c c' e _ hh;have qu:∀j,c'[j]?=if j=off then some yv else c[j]?:=fun j=>by
       rw[show c'[j]?=_ from Bj fC j,pe,yA];by_cases h:j=off
       ·subst h;simp
       ·rw[ay (by omega),ay h]
      have zJ:=hR.HC cr
      let B:Nat:=(Bl yv).getD w.heap.size
      have hB:(es.length=0∧lL yv∧B=w.heap.size)∨∃cap c2 e2,yv=.slice (some ⟨B,0,none⟩) es.length cap∧g.τ f=some B∧g.m B=es.length*n∧w.heap[B]?=some (.cells c2 e2 (0,0))∧cap*n≤c2.size∧0<es.length ∧
        g.ow B=.tok f∧(E.w0.heap.size≤B∨E.own B)∧B<w.heap.size:=by
       rcases Pd with⟨h1,h2⟩ | ⟨b,o2,cap,c2,e2,h1,h2,h3,h4,h5,h6,h7⟩
       ·exact .inl ⟨h1,h2,by simp only[B,O6 h2];rfl⟩
       ·subst h6
        have Pb:B=b:=by simp only[B,h2];rw[HA h7];rfl
        obtain⟨q1,q2,q3⟩:=hR.bj f _ b hk h1;rw[Pb];exact .inr ⟨cap,c2,e2,h2,h1,by have h3:g.m b=0+es.length*n:=h3;omega,h4,by omega,h7,q1,q2,q3⟩
      have CO:B<w.heap.size→g.ow B=.tok f:=fun h=>by
       rcases hB with⟨_,_,e⟩ | ⟨_,_,_,_,_,_,_,_,_,h8,_⟩
       ·omega
       ·exact h8
      have WL:∀k o,S.aA[k]?=some o→o≠.cells []→g.γ k≠B:=fun k o pd EH e=>by
       have h1:=((hR.aA.obj k o pd).resolve_left EH).1;have h2:=CO (e ▸ EF hR pd EH);rw[←e,h1]at h2;cases h2
      let g1:Gh:={ g with τ:=c6 g.τ f none,ow:=c6 g.ow B (.cell (g.γ id) off) }
      have t1:Touch E g S w g1 ((f,es.length+1)::S.bj) S.aA.length w B none (some f) :=
       {os:=rfl,tape:=rfl,output:=rfl,size:=bV _,heap:=fun _ _ _=>rfl,m:=fun _ _=>rfl,ow:=fun b hb=>fY _ _ hb,κ:=fun _ _=>rfl,cp:=fun _ _=>rfl,
        τ:=fun i hi=>fY _ _ (fun e=>hi (by rw[e])),T:=fun i hi=>by rw[dz,ay (fun e=>hi (by rw[e]))],γ:=fun _ _=>rfl,eK:=bV _,
        γnew:=fun i a b=>absurd a (by omega)
        fresh:=by
         rcases hB with⟨_,_,e⟩ | ⟨_,_,_,_,_,_,_,_,_,_,h9,_⟩
         ·exact .inl (by rw[e];exact hR.same.size)
         ·exact h9.imp (fun z=>z) .inr
        iq:=fun p q bE _=>by
         rcases hB with⟨_,_,e⟩ | ⟨_,_,_,_,_,_,_,_,_,_,h9,_⟩
         ·have:=hR.same.size;omega
         ·exact h9.resolve_left (by omega)
        lv:=fun i e=>by
         have e:c6 g.ow B (.cell (g.γ id) off) B=.aA i:=e;rw[dL]at e;cases e
        kb:=fun _ _ _ h=>h,qn:=fun _=>bV _ }
      have k1:∀i,jg (S.cx g w) ⟨w.heap,g1,S.aA.length,(f,es.length+1)::S.bj⟩ i:=fun i=>by
       by_cases hi:f=i
       ·subst hi
        refine⟨rfl,rfl,fun k' ke=>⟨es.length,hk,?_,fun e=>?_⟩⟩
        ·simp only[dz,if_true,Option.some.injEq]at ke;omega
        ·simp only[dz,if_true,Option.some.injEq]at ke;omega
       ·exact t1.keeps hR (fun e=>by cases e) (fun e=>hi (by cases e;rfl)) (fun hb e=>hi (by rw[CO hb]at e;cases e;rfl))
      have r1:R E g1 { S with bj:=(f,es.length+1)::S.bj } a w:=R.oA (S':={ S with bj:=(f,es.length+1)::S.bj }) t1 hR rfl rfl (fun i=>.inl (k1 i)) (fun s v hs=>.inl hs)
       (fun i dS ho=>.inl ⟨ho,(fun e=>by cases e),fun hb e=>by rw[CO hb]at e;cases e⟩) (fun f' k' b hf hb=>by
        by_cases yy:f=f'
        ·subst yy
         have hb:c6 g.τ f none f=some b:=hb;rw[dL]at hb;cases hb
        ·exact .inl ⟨fun e=>yy (by cases e;rfl),fun hb e=>by rw[CO hb]at e;cases e;exact yy rfl⟩) (fun i o hi=>.inl ⟨hi,fun hb=>⟨fun e=>(by rw[CO hb]at e;cases e),fun _ e=>(by rw[CO hb]at e;cases e)⟩⟩)
      have CP:g1.ow (g.γ id)=.aA id:=(fY _ _ (WL id _ eO (fun e=>by cases e;simp at nj))).trans cr
      have t2:=EB (g:=g1) (c':=c') (S:={ S with bj:=(f,es.length+1)::S.bj }) (w:=w) (b:=g.γ id) hm zJ (fun _ _ e=>by rw[CP]at e;cases e) r1
      have k2:∀i,jg (({ S with bj:=(f,es.length+1)::S.bj }:St).cx g1 w) ⟨(w.setRow (g.γ id) c').heap,g1,S.aA.length,(f,es.length+1)::S.bj⟩ i:=fun i=>t2.keeps r1 (fun e=>by cases e) (fun e=>by cases e) (fun _ e=>by rw[CP]at e;cases e)
      have nM:Le ⟨w.heap,g,S.aA.length,[]⟩ ⟨(w.setRow (g.γ id) c').heap,g1,S.aA.length,[]⟩:=⟨t2.le.size,t2.le.cells,t2.le.m,t2.le.eK,t2.le.γ⟩;refine ch.skip (g':=g1) (w':=w.setRow (g.γ id) c') ?_ w5 (R.oA (S':={ S with bj:=(f,es.length+1)::S.bj,aA:=S.aA.set id (.cells (cs.set off (.eF n es))) }) t2 r1 rfl (by simp) (fun i=>.inl (k2 i)) (fun s v hs=>.inl hs)
       (fun i dS hi=>.inl ⟨hi,(fun e=>by cases e),fun _ e=>by rw[CP]at e;cases e⟩)
       (fun f k b hf hb=>.inl ⟨(fun e=>by cases e),fun _ e=>by rw[CP]at e;cases e⟩) (fun k o fx=>?_))
      ·have CG:(storeVar t ⟨(S.cx g w).g.γ id,off,none⟩ yv).run P w=.ok () (w.setRow (g.γ id) c'):=hrun
       simp only[execOp,ho,ep,hyv];simp[Instr.storeAt,Instr.sureAddr,CG]
      ·simp only[jU]at fx
       by_cases kh:id=k
       ·subst kh
        simp[show id<S.aA.length from eQ eO]at fx;subst fx;refine .inr ⟨CP,⟨hm,c',e,kT,by rw[oR];exact iQ dC (u6 (EA fC).symm),fun j u z hu hz=>?_⟩,fun j n' pS z hu hz=>?_⟩
        ·rw[qu]at hz
         rw[jU]at hu;by_cases tw:off=j
         ·subst tw
          rw[aM rfl,aM nj]at hu;rw[aM rfl]at hz;cases hu;cases hz;exact⟨rfl,fun _=>rfl,.eF (Pe.mono nM)⟩
         ·rw[ay tw]at hu
          rw[ay (fun e=>tw e.symm)]at hz;obtain⟨q1,q2,q3⟩:=hj j u z hu hz;exact⟨q1,q2,q3.mono nM (fun d=>.inr (q2 d))⟩
        ·have hz:cellAt (w.setRow (g.γ id) c').heap (g.γ id) j=some z:=hz
         rw[kR kT,qu]at hz;rw[jU]at hu;by_cases tw:off=j
         ·subst tw
          rw[aM rfl,aM nj]at hu;rw[aM rfl]at hz;cases hu;cases hz;rcases hB with⟨h1,h2,_⟩ | ⟨cap,c2,e2,h1,h2,h3,h4,h5,h6,_⟩
          ·exact .inl ⟨h1,h2⟩
          ·exact .inr ⟨B,cap,c2,e2,h1,dL _ _ _,h3,(Hy w _ B c' (fun e=>WL id _ eO (fun e=>by cases e;simp at nj) e.symm)).trans h4,h5,h6⟩
         ·rw[ay tw]at hu
          rw[ay (fun e=>tw e.symm)]at hz;rcases hR.aA.own id _ eO j n' pS z hu (by rw[kR hh];exact hz) with h | ⟨q,cap,c2,e',q1,q2,q3,q4,q5,q6⟩
          ·exact .inl h
          ·have pP:q<w.heap.size:=by
            rcases cF q w.heap.size with h|h
            ·exact h
            ·simp[mF h]at q4
           have Pc:q≠B:=fun e=>by rw[e]at q2 pP;rw[CO pP]at q2;cases q2
           have cf:q≠g.γ id:=fun e=>by rw[e,cr]at q2;cases q2
           exact .inr ⟨q,cap,c2,e',q1,(fY _ _ Pc).trans q2,q3,(Hy w _ q c' cf).trans q4,q5,q6⟩
       ·rw[ay kh]at fx
        exact .inl ⟨fx,fun _=>⟨fun e=>kh (by rw[CP]at e;cases e;rfl),fun _ e=>(by rw[CP]at e;cases e)⟩⟩
    ·cases Bq
   ·cases Bq
  ·cases hrun
 ·cases hrun
theorem Br{o:Oper}{t e:TypeId}{sz:Nat}{p:Operand}{lo hi:Option Operand}{CQ pT:Option bw}(ho:o.op=.slice t p lo hi none)(ht:P.underlying t=some (.slice e))(hs:e9 P e=some sz)
  (nj:match lo,CQ with|none,none=>True|some y,some z=>bU y z=true|_,_=>False) (ur:match hi,pT with|none,none=>True|some y,some z=>bU y z=true|_,_=>False)
  (hR:R E g S a w) {base:Option Addr} {n cap:Nat} (e1:a.eval p=.slice base n cap) (eo:n≤cap) {k1 k2:IntKind} {l h:Int} (hl:S.ka CQ 0=some (.int k1 l)) (hh:S.ka pT n=some (.int k2 h))
  (h0:0≤l) (h1:l≤h) (h2:h≤(n:Int)):(execOp a.eval o).run P w=.ok (.value (.slice (if cap=l.toNat then base else base.map (·.add (l.toNat*sz))) (h.toNat-l.toNat) (cap-l.toNat))) w:=by
 have Bs:(match lo.map a.eval with|some v=>Instr.sliceBound v h.toNat .sliceB|none=>pure 0).run P w=.ok l.toNat w:=by
  cases lo with
  |none =>
   cases CQ with
   |none=>simp[St.ka]at hl;obtain⟨_,rfl⟩:=hl;simp
   |some z=>exact nj.elim
  |some y =>
   cases CQ with
   |none=>exact nj.elim
   |some z =>
    have:=mI (cY hR nj hl);simp only[nI,this];exact run_sliceBound w k1 l h.toNat .sliceB h0 (by omega)
 have CR:(match hi.map a.eval with|some v=>Instr.sliceBound v cap .sliceAcap|none=>pure n).run P w=.ok h.toNat w:=by
  cases hi with
  |none =>
   cases pT with
   |none=>simp[St.ka]at hh;obtain⟨_,rfl⟩:=hh;simp
   |some z=>exact ur.elim
  |some y =>
   cases pT with
   |none=>exact ur.elim
   |some z =>
    have:=mI (cY hR ur hh);simp only[nI,this];exact run_sliceBound w k2 h cap .sliceAcap (by omega) (by omega)
 have aiJ:(Instr.sliceBounds true n cap (lo.map a.eval) (hi.map a.eval) none).run P w=.ok (l.toNat,h.toNat,cap) w:=by
  unfold Instr.sliceBounds;cases hi with
  |none =>
   simp only[KC]at CR;simp only[Sem.run_pure,Result.ok.injEq,and_true]at CR;cases lo with
   |none =>
    simp only[KC,Sem.run_pure,Result.ok.injEq,and_true]at Bs;simp[←CR,← Bs]
   |some y =>
    simp only[nI]at Bs;simp[CR,Bs]
  |some z =>
   simp only[nI]at CR;cases lo with
   |none =>
    simp only[KC,Sem.run_pure,Result.ok.injEq,and_true]at Bs;simp[CR,← Bs]
   |some y =>
    simp only[nI]at Bs;simp[CR,Bs]
 simp only[execOp,ho,e1,Instr.sliceAt,Instr.slice];simp[ji ht,aiJ,oW hs]
theorem aiK{o:Oper}{t e:TypeId}{n sz:Nat}{p:Operand}{x:bw}{C:bD}(ho:o.op=.slice t p none none none)(ht:P.underlying t=some (.array n e))(hs:e9 P e=some sz)
  (hp:bU p x=true) (hR:R E g S a w) (hd:∀d,o.dst=some d→d<E.nt) (hrun:VO.run C o.dst S (.arr n sz x)=some S'):ch P E o S S' a w:=by
 simp only[VO.run]at hrun;split at hrun
 ·rename_i id hx
  cases hrun;have hr:=cY hR hp hx;have e1:a.eval p=.pointer (some ⟨g.κ id,0,none⟩):=by
   generalize a.eval p=y at hr;cases hr with
   |plain h _=>cases h
   |bJ=>rfl
  have fq:(execOp a.eval o).run P w=.ok (.value (.slice (some ⟨g.κ id,0,none⟩) n n)) w:=by
   simp[execOp,ho,e1,Instr.sliceAt,Instr.sureAddr,Instr.sliceBounds,ji ht,oW hs,kB]
  exact ch.put hR hd fq (by have:=bb.fp (X:=S.cx g w) id sz 0 n n (bV _);rwa [G6]at this)
 ·cases hrun
theorem aiL{o:Oper}{t e:TypeId}{sz:Nat}{p:Operand}{lo hi:Option Operand}{x:bw}{CQ pT:Option bw}{C:bD}(ho:o.op=.slice t p lo hi none)(ht:P.underlying t=some (.slice e))(hs:e9 P e=some sz)
  (hp:bU p x=true) (nj:match lo,CQ with|none,none=>True|some y,some z=>bU y z=true|_,_=>False) (ur:match hi,pT with|none,none=>True|some y,some z=>bU y z=true|_,_=>False)
  (hR:R E g S a w) (hd:∀d,o.dst=some d→d<E.nt) (hrun:VO.run C o.dst S (.wN sz x CQ pT)=some S'):ch P E o S S' a w:=by
 simp only[VO.run]at hrun;split at hrun
 ·rename_i tk m es hx
  split at hrun
  ·rename_i k1 l k2 h hl hh
   cases hc:(decide (0≤l)&&decide (l≤h)&&decide (h≤(es.length:Int))&&(m==sz)) with
   |false=>simp[hc]at hrun
   |true =>
    simp only[hc,bG]at hrun;cases hrun;simp only[bS,iD,dO]at hc;obtain⟨⟨⟨h0,h1⟩,h2⟩,rfl⟩:=hc;have hr:=cY hR hp hx;obtain⟨base,cap,e1,eo⟩:∃base cap,a.eval p=.slice base es.length cap∧es.length≤cap:=by
     generalize a.eval p=y at hr;cases hr with
     |plain h _=>cases h with
      |nil=>exact⟨none,0,rfl,by simp⟩
      |empty _ _ a cap=>exact⟨some a,cap,rfl,by simp⟩
      |slice _ _ _ b off cap ys hb eo=>exact⟨_,cap,rfl,eo⟩
    have fq:=Br (w:=w) ho ht hs nj ur hR e1 eo hl hh h0 h1 h2;have hlen:((es.take h.toNat).drop l.toNat).length=h.toNat-l.toNat:=by simp;omega
    refine ch.put hR hd fq ?_
    clear fq
    generalize a.eval p=y at hr e1;subst e1;refine .plain ?_ (fun _ _ _ e=>by cases e)
    cases hr with
    |plain hv _ =>
     cases hv with
     |nil =>
      have pf:l.toNat=0:=by simp at h2;omega
      have yB:h.toNat=0:=by simp at h2;omega
      simp[pf,yB];exact .nil _ _
     |empty _ _ a' sy =>
      have pf:l.toNat=0:=by simp at h2;omega
      have yB:h.toNat=0:=by simp at h2;omega
      simp only[pf,yB,xY,Zb,uY];split
      ·exact .empty _ _ _ _
      ·exact .empty _ _ _ _
     |slice _ _ _ b off _ ys hb qv iH hc hv hp hm =>
      rw[←hlen];by_cases dC:cap=l.toNat
      ·rw[aM dC]
       have h3:(es.take h.toNat).drop l.toNat=[]:=oo.1 (by rw[hlen];omega)
       rw[h3];exact .slice none m [] b off _ ys hb (by simp) (by simp) (by simp) (by simp) (by simp) (by simp;omega)
      ·rw[ay dC]
       simp only[nI,kB];have qu:∀(i:Nat) (row:List V),((es.take h.toNat).drop l.toNat)[i]?=some row→es[l.toNat+i]?=some row:=fun i row hi=>by
        rw[mn,iP]at hi;split at hi
        ·exact hi
        ·cases hi
       refine .slice none m _ b (off+l.toNat*m) _ (fun i j=>ys (l.toNat+i) j) hb (by rw[hlen];omega) (fun i row hi=>iH _ row (qu i row hi)) (fun i row j v hi hj=>?_) (fun i row j v hi hj=>hv _ row j v (qu i row hi) hj)
        (fun i row j v hi hj=>hp _ row j v (qu i row hi) hj) ?_
       ·rw[←hc _ row j v (qu i row hi) hj]
        congr 1;rw[qi];omega
       ·have:(l.toNat+(h.toNat-l.toNat))*m≤es.length*m:=tf m (by omega)
        rw[qi]at this;rw[hlen];omega
  ·cases hrun
 ·rename_i hx
  split at hrun
  ·rename_i k1 l k2 h hl hh
   cases hc:(decide (l=0)&&decide (h=0)) with
   |false=>simp[hc]at hrun
   |true =>
    simp only[hc,bG]at hrun;cases hrun;simp only[bS,iD]at hc;obtain⟨rfl,rfl⟩:=hc;have e1:=oV (cY hR hp hx);have fq:=Br (w:=w) (n:=0) ho ht hs nj ur hR e1 (bV _) hl hh (uc _) (uc _) (uc _);exact ch.put hR hd fq (.plain .cb (fun _ _ _ e=>by cases e))
  ·cases hrun
 ·rename_i id s n hx
  split at hrun
  ·rename_i k1 l k2 h hl hh
   cases hc:(decide (0≤l)&&decide (l≤h)&&decide (h≤(n:Int))&&(s==sz)) with
   |false=>simp[hc]at hrun
   |true =>
    simp only[hc,bG]at hrun;simp only[bS,iD,dO]at hc;obtain⟨⟨⟨h0,h1⟩,h2⟩,rfl⟩:=hc;rcases qR (cY hR hp hx) with⟨cap,eo,fU,e1⟩ | ⟨rfl,hz,fU⟩
    ·have fq:=Br (w:=w) ho ht hs nj ur hR e1 eo hl hh h0 h1 h2
     by_cases pf:l=0
     ·subst pf
      simp only[decide_true,bG,Option.some.injEq]at hrun;subst hrun;refine ch.put hR hd fq ?_;simp only[Int.toNat_zero,G6,xY,nI,kB,wH,ite_self];exact .bR _ _ _ _ (by omega) fU
     ·have CS:decide (l=0)=false:=decide_eq_false pf
      by_cases HG:l<(n:Int)
      ·simp only[CS,jf HG,bG,eD,Option.some.injEq]at hrun
       subst hrun;refine ch.put hR hd fq ?_;rw[ay (by omega)]
       simp only[nI,kB,jV];rw[show h.toNat-l.toNat=(h-l).toNat from by omega]
       exact .fp _ _ _ _ _ (by omega)
      ·simp only[CS,decide_eq_false HG,eD,Option.some.injEq]at hrun
       subst hrun;refine ch.put hR hd fq ?_;have e0:h.toNat-l.toNat=0:=by omega
       rw[e0];refine .plain ?_ (fun _ _ _ e=>by cases e)
       split
       ·exact .empty _ _ _ _
       ·exact .empty _ _ _ _
    ·have pf:l=0:=by omega
     have yB:h=0:=by omega
     subst pf;subst yB;simp only[decide_true,bG,Option.some.injEq]at hrun;subst hrun;rcases hz with e1 | ⟨b,e1⟩
     ·have fq:=Br (w:=w) (n:=0) ho ht hs nj ur hR e1 (bV _) hl hh h0 h1 h2
      exact ch.put hR hd fq (.qP _ _ (.inl rfl) fU)
     ·have fq:=Br (w:=w) (n:=0) ho ht hs nj ur hR e1 (bV _) hl hh h0 h1 h2
      exact ch.put hR hd fq (.qP _ _ (.inr ⟨b,rfl⟩) fU)
  ·cases hrun
 ·rename_i id s n hx
  split at hrun
  ·rename_i k1 l k2 h hl hh
   cases hc:(decide (0≤l)&&decide (l≤h)&&decide (h≤(n:Int))&&(s==sz)) with
   |false=>simp[hc]at hrun
   |true =>
    simp only[hc,bG]at hrun;simp only[bS,iD,dO]at hc;obtain⟨⟨⟨h0,h1⟩,h2⟩,rfl⟩:=hc;obtain⟨hi,⟨cap,eo,e1⟩ | ⟨rfl,hz⟩⟩:=Et (cY hR hp hx)
    ·have fq:=Br (w:=w) ho ht hs nj ur hR e1 eo hl hh h0 h1 h2
     by_cases pf:l=0
     ·subst pf
      simp only[decide_true,bG,Option.some.injEq]at hrun;subst hrun;refine ch.put hR hd fq ?_;simp only[Int.toNat_zero,G6,xY,nI,kB,wH,ite_self];exact .c5 _ _ _ _ hi (by omega)
     ·have CS:decide (l=0)=false:=decide_eq_false pf
      by_cases HG:l<(n:Int)
      ·simp only[CS,jf HG,bG,eD,Option.some.injEq]at hrun
       subst hrun;refine ch.put hR hd fq ?_;rw[ay (by omega)]
       simp only[nI,kB,jV];rw[show h.toNat-l.toNat=(h-l).toNat from by omega]
       exact .g9 _ _ _ _ _ hi (by omega)
      ·simp[CS,decide_eq_false HG]at hrun
    ·have pf:l=0:=by omega
     have yB:h=0:=by omega
     subst pf;subst yB;simp only[decide_true,bG,Option.some.injEq]at hrun;subst hrun;rcases hz with e1 | ⟨b,e1⟩
     ·have fq:=Br (w:=w) (n:=0) ho ht hs nj ur hR e1 (bV _) hl hh h0 h1 h2
      exact ch.put hR hd fq (.ui _ _ hi (.inl rfl))
     ·have fq:=Br (w:=w) (n:=0) ho ht hs nj ur hR e1 (bV _) hl hh h0 h1 h2
      exact ch.put hR hd fq (.ui _ _ hi (.inr ⟨b,rfl⟩))
  ·cases hrun
 ·cases hrun
end
end Go.Vm

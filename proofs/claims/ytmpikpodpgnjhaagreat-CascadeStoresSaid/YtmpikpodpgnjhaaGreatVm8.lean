/- The value machine, 8: literals, stores, make, blocks that calls share. -/
import Derived.Great.BuildSlice
import Derived.IntWalk
import Derived.Laws.Slices
import Derived.Test.YtmpikpodpgnjhaaGreatVm7
import Derived.WalkSpells
import Derived.Lib.SliceRun
namespace Go.Vm
set_option linter.all false
section
variable {P:Program} {E:Entry} {g g':Gh} {S S':St} {a:Act} {w w':World} {T':List (Nat×Nat)} {N' B:Nat}
theorem Is(off k:Nat):∀(vs:List Value) (i:Nat) (cs:Array Value),((vs.zipIdx i).foldl (fun cs (p:Value×Nat)=>cs.setIfInBounds (off+p.2) p.1) cs)[k]? =
  if off+i≤k∧k<off+i+vs.length∧k<cs.size then vs[k-(off+i)]? else cs[k]?
 |[],i,cs=>by simp;omega
 |v::vs,i,cs=>by
  rw[List.zipIdx_cons,List.foldl_cons,Is off k vs (i+1)];simp only[Array.size_setIfInBounds,List.length_cons,Array.getElem?_setIfInBounds];by_cases h:off+(i+1)≤k∧k<off+(i+1)+vs.length∧k<cs.size
  ·rw[if_pos h,if_pos (by omega),show k-(off+i)=(k-(off+(i+1)))+1 from by omega,List.getElem?_cons_succ]
  ·rw[if_neg h]
   by_cases he:off+i=k
   ·subst he
    by_cases br:off+i<cs.size
    ·simp[br]
    ·simp[br]
   ·rw[if_neg he,if_neg (by omega)]
theorem Ae(k:Nat):∀(vs:List V) (off:Nat) (cs:List V),(iC cs off vs)[k]?=if off≤k∧k<off+vs.length∧k<cs.length then vs[k-off]? else cs[k]?
 |[],off,cs=>by simp[iC];omega
 |v::vs,off,cs=>by
  rw[iC,Ae k vs (off+1)];simp only[List.length_set,List.length_cons,List.getElem?_set];by_cases h:off+1≤k∧k<off+1+vs.length∧k<cs.length
  ·rw[if_pos h,if_pos (by omega),show k-off=(k-(off+1))+1 from by omega,List.getElem?_cons_succ]
  ·rw[if_neg h]
   by_cases he:off=k
   ·subst he
    by_cases br:off<cs.length
    ·simp[br]
    ·simp[br]
   ·rw[if_neg he,if_neg (by omega)]
theorem It:∀(vs:List V) (off:Nat) (cs:List V),(iC cs off vs).length=cs.length
 |[],off,cs=>rfl
 |v::vs,off,cs=>by rw[iC,It vs];simp
theorem Iu(off:Nat):∀(vs:List Value) (i:Nat) (cs:Array Value),((vs.zipIdx i).foldl (fun cs (p:Value×Nat)=>cs.setIfInBounds (off+p.2) p.1) cs).size=cs.size
 |[],i,cs=>rfl
 |v::vs,i,cs=>by rw[List.zipIdx_cons,List.foldl_cons,Iu off vs];simp
theorem Od(off:Nat)(vs cs:Array Value):vs.zipIdx.foldl (fun(cs:Array Value) (x:Value×Nat)=>match x with|(c,j)=>cs.setIfInBounds (off+j) c) cs =
  (vs.toList.zipIdx 0).foldl (fun cs (p:Value×Nat)=>cs.setIfInBounds (off+p.2) p.1) cs:=by
 rw[←Array.foldl_toList,Array.toList_zipIdx]
def yz(place:Nat→Option (Nat×Nat)):List (Nat×Operand)→List (Nat×Nat×bj)→Bool
 |[],[]=>true
 |(i,y)::ps,(off,n,x)::qs=>place i==some (off,n)&&bJ y x&&yz place ps qs
 |_,_=>false
theorem Oe(hR:R E g S a w){place:Nat→Option (Nat×Nat)}:∀{ps:List (Nat×Operand)} {qs:List (Nat×Nat×bj)},yz place ps qs=true→∀{cs dR:List V} {xs:Array Value},pf S qs cs=some dR →
  PW (S.cx g w) cs xs.toList→∃so,Instr.fill place xs (ps.map fun(i,x)=>(i,a.eval x))=some so∧PW (S.cx g w) dR so.toList
 |[],[],_,cs,dR,xs,h,hp=>by simp only[pf,Option.some.injEq]at h;subst h;exact⟨xs,rfl,hp⟩
 |[],_::_,h,_,_,_,_,_=>by simp[yz]at h
 |_::_,[],h,_,_,_,_,_=>by simp[yz]at h
 |(i,y)::ps,(off,n,x)::qs,h,cs,dR,xs,hf,hp=>by
  simp only[yz,Bool.and_eq_true,beq_iff_eq]at h;obtain⟨⟨kq,ho⟩,bg⟩:=h;simp only[pf]at hf;split at hf
  ·rename_i v hv
   cases hc:(v.cells.length==n&&Nat.ble (off+n) cs.length&&v.cells.all V.cz) with
   |false=>simp[hc]at hf
   |true =>
    simp only[hc,cond_true]at hf;simp only[Bool.and_eq_true,beq_iff_eq,List.all_eq_true]at hc;obtain⟨⟨hlen,hle⟩,im⟩:=hc;have hle:=Nat.le_of_ble_eq_true hle;obtain⟨hl,hx⟩:=Aa (cL hR ho hv) im;have ei:(a.eval y).cells.size=n:=by simpa [hlen] using hl.symm
    have yA:=hp.len;simp only[Array.length_toList]at yA;obtain⟨so,h1,h2⟩:=Oe hR (ps:=ps) (xs:=((a.eval y).cells.toList.zipIdx 0).foldl (fun cs (p:Value×Nat)=>cs.setIfInBounds (off+p.2) p.1) xs) bg hf (by
     refine⟨by rw[It,yA];exact(Iu off _ _ _).symm,fun j u z hu hz=>?_⟩
     rw[Ae]at hu;rw[Array.getElem?_toList,Is]at hz;simp only[Nat.add_zero,Array.length_toList,ei,hlen,yA]at hu hz;split at hu
     ·rename_i mW
      rw[if_pos mW]at hz;exact hx _ u z hu hz
     ·rename_i mW
      rw[if_neg mW]at hz;exact hp.at_ j u z hu (by simpa using hz))
    refine⟨so,?_,h2⟩;simp only[List.map_cons,Instr.fill,kq,ei,Bool.false_or,ne_eq,not_true_eq_false,decide_false];rw[Od];rw[if_neg (by simp;omega)]
    exact h1
  ·cases hf
def placeOf(P:Program)(t:TypeId):Option (Nat→Option (Nat×Nat)) :=
 match P.underlying t with
 |some (.array _ e)=>(P.info? e).map fun ie i=>some (i*ie.size,ie.size)
 |some (.struct fields)=>(fields.toList.mapM (fun f=>(P.info? f.type).map fun i=>(f.offset,i.size))).map fun Of i=>Of.toArray[i]?
 |_=>none
theorem YI{t:TypeId}{it:TypeInfo}{z:Value}{place:Nat→Option (Nat×Nat)}(hi:P.info? t=some it)(hz:it.zero=some z)(hp:placeOf P t=some place)(parts:List (Nat×Value)) :
  P.built t parts=Instr.fill place z.cells parts:=by
 unfold placeOf at hp;unfold Program.built;split at hp
 ·rename_i n e hu
  cases Iv:P.info? e with
  |none=>simp[Iv]at hp
  |some ie=>simp[Iv]at hp;subst hp;simp[hi,hu,hz,Iv]
 ·rename_i fields hu
  cases hm:fields.toList.mapM (fun f=>(P.info? f.type).map fun i=>(f.offset,i.size)) with
  |none=>simp[hm]at hp
  |some Of=>simp[hm]at hp;subst hp;simp[hi,hu,hz,hm]
 ·cases hp
theorem YJ{o:Oper}{t:TypeId}{it:TypeInfo}{z:Value}{place:Nat→Option (Nat×Nat)}{ps:Array (Nat×Operand)}{zero:List V}{qs:List (Nat×Nat×bj)}{C:bm}(ho:o.op=.build t ps)
  (hi:P.info? t=some it) (hz:it.zero=some z) (kq:placeOf P t=some place) (hzero:sj z.cells.toList zero=true) (qS:yz place ps.toList qs=true)
  (hR:R E g S a w) (hd:∀d,o.dst=some d→d<E.nt) (ah:VO.run C o.dst S (.build zero qs)=some S'):b0 P E o S S' a w:=by
 simp only[VO.run]at ah;split at ah
 ·rename_i cs hf
  cases ah;obtain⟨hl,hx⟩:=z8 (X:=S.cx g w) hzero;obtain⟨xs,h1,h2⟩:=Oe hR qS (xs:=z.cells) hf ⟨hl,fun i v y hv hy=>(hx i v y hv hy).2.2⟩;refine b0.put hR hd (x:=.agg xs) ?_ (.agg cs xs (by simpa using h2.len) (fun i v y hv hy=>h2.at_ i v y hv (by simpa using hy)))
  have hb:=YI hi hz kq ((ps.map fun(i,x)=>(i,a.eval x)).toList);rw[Array.toList_map,h1]at hb;have:=run_build (P:=P) w t (ps.map fun(i,x)=>(i,a.eval x)) xs (by rw[Array.toList_map];exact hb)
  simp only[execOp,ho];simp only[Sem.run_bind,this,Result.andThen_ok,Sem.run_pure]
 ·cases ah
theorem R.Iw(hR:R E g S a w){c:Array Value}{e:TypeId}(hw:w'.heap=w.heap.push (.cells c e (0,0)))(h1:w'.os=w.os)(h2:w'.tape=w.tape)(h3:w'.output=w.output)
  {n:Nat} {ys:List (List V)} {l:List Value} (hl:iU w.heap g.m n ys l) (hc:∀(j:Nat) (y:Value),l[j]?=some y→c[j]?=some y) {cap:Nat} (eu:ys.length≤cap) :
  ∃g',R E g' S a w'∧aY (S.cx g' w') (.slice none n ys) (.slice (some ⟨w.heap.size,0,none⟩) ys.length cap):=by
 let g':Gh:={ g with m:=cQ g.m w.heap.size (ys.length*n),ow:=cQ g.ow w.heap.size .none }
 have t:Touch E g S w g' S.a7 S.ay.length w' w.heap.size none none:=BT hR hw h1 h2 h3 (fun b hb=>gd _ _ hb) (fun b hb=>gd _ _ hb)
  (fun i _=>rfl) (fun i _=>rfl) (fun i _=>rfl) (fun i _=>rfl) (fun i _=>rfl) (Nat.le_refl _) (fun i a b=>absurd a (by omega)) (fun i e=>by(have e:cQ g.ow w.heap.size .none w.heap.size=.ay i:=e);rw[dC]at e;cases e)
 have kN:=BV hw;refine⟨g',R.mU t hR rfl rfl (fun i=>.inl (t.keeps hR (fun e=>by cases e) (fun e=>by cases e) (fun h=>absurd h (Nat.lt_irrefl _)))) (fun s v hs=>.inl hs)
  (fun i cs ho=>.inl ⟨ho,(fun e=>by cases e),fun h=>absurd h (Nat.lt_irrefl _)⟩) (fun i k b hi hb=>.inl ⟨(fun e=>by cases e),fun h=>absurd h (Nat.lt_irrefl _)⟩)
  (fun i o ho=>.inl ⟨ho,fun h=>absurd h (Nat.lt_irrefl _)⟩),?_⟩
 have hm:g'.m w.heap.size=ys.length*n:=dC _ _ _;refine .plain (Ac (m:=g'.m) (l:=l) (hl.mono t.le) (by show _<w'.heap.size;rw[hw];simp) eu (fun j y hj=>?_) (by omega) _) (fun i n' nH he k hk=>by cases he)
 show cellAt w'.heap _ _=_;rw[kM kN,Nat.zero_add];exact hc j y hj
def Ix:Value→Option Nat→V→Bool
 |.int k n,none,.int k' n'=>decide (k=k')&&n==n'
 |.bool b,none,.bool c=>b==c
 |.string s,none,.str l=>s.data.toList==l
 |.slice none 0 0,some n,.slice none m []=>n==m
 |_,_,_=>false
def sr:List Value→Sh→List V→Bool
 |[],[],[]=>true
 |x::xs,h::sh,v::vs=>Ix x h v&&sr xs sh vs
 |_,_,_=>false
theorem YK{h:Array Obj}{m:Nat→Nat}{x:Value}{s:Option Nat}{v:V}(he:Ix x s v=true):v.plain=true∧eS h m v x:=by
 unfold Ix at he;split at he
 ·simp at he;obtain⟨rfl,rfl⟩:=he;exact⟨rfl,.int _ _⟩
 ·simp at he;subst he;exact⟨rfl,.bool _⟩
 ·simp at he;subst he;exact⟨rfl,.str _⟩
 ·exact⟨rfl,.nil _ _⟩
 ·cases he
theorem Og{h:Array Obj}{m:Nat→Nat}:∀{xs:List Value} {sh:Sh} {vs:List V},sr xs sh vs=true→vs.length=sh.length∧xs.length=sh.length ∧
  ∀(i:Nat) (v:V),vs[i]?=some v→∃x,xs[i]?=some x∧v.plain=true∧eS h m v x
 |[],[],[],_=>by simp
 |x::xs,s::sh,v::vs,he=>by
  simp only[sr,Bool.and_eq_true]at he;obtain⟨p,q,r⟩:=Og (h:=h) (m:=m) he.2;refine⟨by simp[p],by simp[q],fun i u hu=>?_⟩
  cases i with
  |zero=>simp at hu;subst hu;exact⟨x,by simp,YK he.1⟩
  |succ i=>obtain⟨y,hy,z⟩:=r i u (by simpa using hu);exact⟨y,by simpa using hy,z⟩
 |[],[],_::_,he=>by simp[sr]at he
 |[],_::_,_,he=>by simp[sr]at he
 |_::_,[],_,he=>by simp[sr]at he
 |_::_,_::_,[],he=>by simp[sr]at he
theorem Oh{h:Array Obj}{m:Nat→Nat}{sh:Sh}{zs:List Value}{zero:List V}(hz:sr zs sh zero=true)(n:Nat) :
  iU h m sh.length (List.replicate n zero) ((List.range (n*sh.length)).map fun k=>zs.getD (k % sh.length) default):=by
 obtain⟨hl,lZ,hx⟩:=Og (h:=h) (m:=m) hz;refine⟨by simp,fun i row hr=>?_,fun i row j v hr hj=>?_⟩
 ·rw[List.getElem?_replicate]at hr
  split at hr<;>cases hr;exact hl
 ·rw[List.getElem?_replicate]at hr
  split at hr
  ·rename_i hi
   cases hr;obtain⟨u,hu,p,q⟩:=hx j v hj;have oN:j<zs.length:=eC hu;have EU:j<sh.length:=by omega
   refine⟨p,u,?_,q⟩;have:=Ii hi EU;simp only[List.getElem?_map,List.getElem?_range this,Option.map_some,Option.some.injEq];rw[Nat.add_comm,Nat.add_mul_mod_self_right,Nat.mod_eq_of_lt EU];simp[List.getD,hu]
  ·cases hr
def yB(len:Nat):List (Nat×Operand)→List (Nat×bj)→Bool
 |[],[]=>true
 |(i,y)::ps,(k,x)::qs=>i==k&&bJ y x&&yB len ps qs
 |_,_=>false
theorem YL{sh:Sh}{v:V}{r:List V}(h:lD sh v.cells=some r):∀u∈v.cells,u.cz=true:=fun u hu=>by
 have:∀{sh:Sh} {vs us:List V},lD sh vs=some us→∀u∈vs,u.cz=true:=by
  intro sh;induction sh with
  |nil=>intro vs us h u hu;cases vs<;>simp_all[lD]
  |cons s sh ih =>
   intro vs us h u hu;cases vs with
   |nil=>simp at hu
   |cons z zs =>
    simp only[lD]at h;split at h
    ·rename_i p q h1 h2
     rcases List.mem_cons.1 hu with e|e
     ·subst e
      unfold el at h1;split at h1<;>first|rfl|cases h1
     ·exact ih h2 u e
    ·cases h
 exact this h u hu
theorem Oi(hR:R E g S a w){sh:Sh}:∀{ps:List (Nat×Operand)} {qs:List (Nat×bj)} {len:Nat},yB len ps qs=true→∀{rs vC:List (List V)} {xs:Array Value},sb S sh qs rs=some vC →
  iU w.heap g.m sh.length rs xs.toList→∃so,Instr.fill (fun i=>some (i*sh.length,sh.length)) xs (ps.map fun(i,x)=>(i,a.eval x))=some so∧iU w.heap g.m sh.length vC so.toList∧vC.length=rs.length
 |[],[],_,_,rs,vC,xs,h,hp=>by simp only[sb,Option.some.injEq]at h;subst h;exact⟨xs,rfl,hp,rfl⟩
 |[],_::_,_,h,_,_,_,_,_=>by simp[yB]at h
 |_::_,[],_,h,_,_,_,_,_=>by simp[yB]at h
 |(i,y)::ps,(k,x)::qs,len,h,rs,vC,xs,hf,hp=>by
  simp only[yB,Bool.and_eq_true,beq_iff_eq]at h;obtain⟨⟨rfl,ho⟩,bg⟩:=h;simp only[sb]at hf;split at hf
  ·rename_i v hv
   split at hf
   ·rename_i r hr
    cases br:Nat.blt i rs.length with
    |false=>simp[br]at hf
    |true =>
     simp only[br,cond_true]at hf;have br:i<rs.length:=Nat.le_of_ble_eq_true br;obtain⟨hl,hx⟩:=Aa (cL hR ho hv) (YL hr);obtain⟨e1,e2⟩:=BX hr;have ei:(a.eval y).cells.size=sh.length:=by simp at hl;omega
     have yA:=hp.len;simp only[Array.length_toList]at yA;have fy:i*sh.length+sh.length≤rs.length*sh.length:=by
      have:=Nat.mul_le_mul_right sh.length br;rw[Nat.succ_mul]at this;exact this
     obtain⟨so,h1,h2,h3⟩:=Oi hR (ps:=ps) (xs:=((a.eval y).cells.toList.zipIdx 0).foldl (fun cs (p:Value×Nat)=>cs.setIfInBounds (i*sh.length+p.2) p.1) xs) bg hf (by
      refine⟨?_,fun k row hk=>?_,fun k row j u hk hj=>?_⟩
      ·rw[List.length_set,← yA];exact Iu _ _ _ _
      ·rw[List.getElem?_set]at hk
       split at hk
       ·first
        |(cases hk;exact e1)
        |(split at hk
          ·cases hk;exact e1
          ·cases hk)
       ·exact hp.row k row hk
      ·have Af:k<rs.length:=by have:=eC hk;simpa using this
       rw[List.getElem?_set]at hk;simp only[Array.getElem?_toList,Is,Nat.add_zero,Array.length_toList,ei,yA];split at hk
       ·rename_i kr
        subst kr;have hk:r=row:=by simpa [br] using hk
        subst hk;have oN:=eC hj;rw[e1]at oN;obtain⟨z,s,hz,mF⟩:=EP hr j u hj;have pq:j<(a.eval y).cells.size:=by omega
        obtain⟨p,q⟩:=BW mF (hx j z (a.eval y).cells[j] hz (by simp[pq]))
        refine⟨p,_,?_,q⟩;rw[if_pos (by omega),Nat.add_sub_cancel_left]
        simp[pq]
       ·rename_i kr
        obtain⟨p,z,hz,q⟩:=hp.cell k row j u hk hj;have oN:=eC hj;rw[hp.row k row hk]at oN;refine⟨p,z,?_,q⟩;rw[if_neg]
        ·simpa using hz
        ·rintro⟨p1,p2,_⟩
         rcases Nat.lt_or_ge i k with h|h
         ·have:=Nat.mul_le_mul_right sh.length h
          rw[Nat.succ_mul]at this;omega
         ·have h:k<i:=by omega
          have:=Nat.mul_le_mul_right sh.length h;rw[Nat.succ_mul]at this;omega)
     refine⟨so,?_,h2,by rw[h3];simp⟩
     simp only[List.map_cons,Instr.fill,ei,Bool.false_or,ne_eq,not_true_eq_false,decide_false];rw[Od];rw[if_neg (by simp;omega)]
     exact h1
   ·cases hf
  ·cases hf
theorem Oj(n m:Nat)(zs:Array Value)(hz:zs.size=m)(hm:0<m):((Array.range (n*m)).map fun i=>zs[i % zs.size]!).toList=(List.range (n*m)).map fun k=>zs.toList.getD (k % m) default:=by
 apply List.ext_getElem?;intro j;by_cases hj:j<n*m
 ·have:=Nat.mod_lt j hm
  have h2:j % m<zs.size:=by omega
  simp[hj,hz,List.getD];rw[getElem!_pos zs (j % m) h2];simp[h2]
 ·simp[hj]
theorem YM{o:Oper}{t e:TypeId}{ie:TypeInfo}{z:Value}{tok:Option Nat}{sh:Sh}{zero:List V}{len:Nat}{ps:Array (Nat×Operand)}{qs:List (Nat×bj)}{C:bm}(ho:o.op=.buildSlice t len ps)
  (ht:P.underlying t=some (.slice e)) (hi:P.info? e=some ie) (hz:ie.zero=some z) (ei:ie.size=sh.length) (mV:z.cells.size=sh.length) (gG:0<sh.length) (hlen:0<len) (YN:len*sh.length≤16777216)
  (qR:sr z.cells.toList sh zero=true) (qS:yB len ps.toList qs=true) (hn:∀f,tok=some f→S.ez f)
  (hR:R E g S a w) (hd:∀d,o.dst=some d→d<E.nt) (ah:VO.run C o.dst S (.lit tok sh zero len qs)=some S'):b0 P E o S S' a w:=by
 simp only[VO.run]at ah;split at ah
 ·rename_i rs hf
  have hzero:iU w.heap g.m sh.length (List.replicate len zero) ((Array.range (len*ie.size)).map fun i=>z.cells[i % z.cells.size]!).toList:=by
   rw[ei,Oj len sh.length z.cells mV gG];exact Oh qR len
  obtain⟨xs,h1,h2,h3⟩:=Oi hR qS (xs:=(Array.range (len*ie.size)).map fun i=>z.cells[i % z.cells.size]!) hf hzero;have h3:rs.length=len:=by simpa using h3
  have YO:=run_buildSlice (P:=P) w t e len (ps.map fun(i,x)=>(i,a.eval x)) xs ie z ht hi hz (by rw[ei];omega) (by rw[ei];have:=Nat.mul_pos hlen gG;omega) (by rw[Array.toList_map,ei];rw[ei]at h1;exact h1)
  have fW:(execOp a.eval o).run P w=.ok (.value (.slice (some ⟨w.heap.size,0,none⟩) len len)) (w.alloc (.cells xs e)):=by
   simp only[execOp,ho];simp only[Sem.run_bind,YO,Result.andThen_ok,Sem.run_pure]
  have EV:=h2.len;simp only[Array.length_toList,h3]at EV;split at ah
  ·rename_i f
   cases ah;obtain⟨g',r1,r2⟩:=hR.Im (w':=w.alloc (.cells xs e)) (f:=f) rfl rfl rfl rfl (n:=sh.length) (ys:=rs) (l:=xs.toList) (by omega) (.inl (hn f rfl)) h2 (fun j y hj=>by simpa using hj) (cap:=len) (by omega) (by omega)
   rw[h3]at r1 r2;exact .value fW (r1.put hd r2)
  ·cases ah
   obtain⟨g',r1,r2⟩:=hR.Iw (w':=w.alloc (.cells xs e)) rfl rfl rfl rfl (n:=sh.length) (ys:=rs) (l:=xs.toList) h2 (fun j y hj=>by simpa using hj) (cap:=len) (by omega)
   rw[h3]at r2;exact .value fW (r1.put hd r2)
 ·cases ah
theorem wrap_small{n:Int}(h0:0≤n)(h1:n≤lim):IntKind.i64.wrap n=n:=by
 unfold lim at h1;exact IntWalk.i64_in _ (by omega)
theorem Ol{t e:TypeId}{ie:TypeInfo}{z:Value}{k:IntKind}{n:Int}(ht:P.underlying t=some (.slice e))(hi:P.info? e=some ie)(hz:ie.zero=some z)(gG:0<ie.size)(qf:ie.bytes≤32768)(h0:0≤n)(h1:n≤lim) :
  (Instr.makeSlice t (.int k n) (.int k n)).run P w=.ok (.slice (some ⟨w.heap.size,0,none⟩) n.toNat n.toNat) (w.alloc (.cells ((Array.range (n.toNat*ie.size)).map fun i=>z.cells[i % z.cells.size]!) e)):=by
 have hb:(ie.bytes:Int)*n≤281474976710656:=by
  unfold lim at h1;have a1:(ie.bytes:Int)≤32768:=by omega
  have:=Int.mul_le_mul a1 h1 h0 (by decide)
  simp at this;omega
 have hw:=wrap_small h0 h1;by_cases hn:n.toNat*ie.size=0
 ·have EW:n.toNat=0:=by
   rcases Nat.mul_eq_zero.1 hn with h|h
   ·exact h
   ·omega
  have:n=0:=by omega
  subst this;simp[Instr.makeSlice,iE ht,asInt,asIntOf,typeInfo,hi,hw,sizeOf,newRow,show Array.range 0 = #[] from rfl]
 ·have h3:¬ (n<0):=by omega
  have h4:¬ (281474976710656<(ie.bytes:Int)*n):=by omega
  simp[Instr.makeSlice,iE ht,asInt,asIntOf,typeInfo,hi,hw,sizeOf,newRow,h3,h4,hn,zeroValue,hz]
theorem Om(zero:List V):∀(n k:Nat),(List.replicate n zero).flatten[k]?=if k<n*zero.length then zero[k % zero.length]? else none
 |0,k=>by simp
 |n+1,k=>by
  have e:(n+1)*zero.length=n*zero.length+zero.length:=Nat.succ_mul _ _;rw[List.replicate_succ,List.flatten_cons,List.getElem?_append,Om zero n,e];generalize n*zero.length=q;by_cases h:k<zero.length
  ·rw[if_pos h,if_pos (by omega),Nat.mod_eq_of_lt h]
  ·rw[if_neg h]
   by_cases h2:k<q+zero.length
   ·rw[if_pos h2,if_pos (by omega),Nat.mod_eq_sub_mod (a:=k) (by omega)]
   ·rw[if_neg h2,if_neg (by omega)]
theorem YP{o:Oper}{t e:TypeId}{ie:TypeInfo}{z:Value}{id:Nat}{zero:List V}{p p':Operand}{x:bj}{C:bm}(ho:o.op=.makeSlice t p p')
  (ht:P.underlying t=some (.slice e)) (hi:P.info? e=some ie) (hz:ie.zero=some z) (ei:ie.size=zero.length) (gG:0<ie.size) (qf:ie.bytes≤32768)
  (xa:sj z.cells.toList zero=true) (hp:bJ p x=true) (vF:bJ p' x=true) (hn:S.ez id)
  (hR:R E g S a w) (hd:∀d,o.dst=some d→d<E.nt) (ah:VO.run C o.dst S (.qL id zero x)=some S'):b0 P E o S S' a w:=by
 simp only[VO.run]at ah;split at ah
 ·rename_i k n hx
  cases hc:(decide (0≤n)&&decide (n≤(lim:Int))) with
  |false=>simp[hc]at ah
  |true =>
   simp only[hc,cond_true]at ah;simp only[Bool.and_eq_true,decide_eq_true_eq]at hc;cases ah;have e1:=kX (cL hR hp hx);have Iy:=kX (cL hR vF hx);obtain⟨hl,hv⟩:=z8 (X:=S.cx g w) xa;have mV:z.cells.size=ie.size:=by rw[ei];simpa using hl.symm
   have hm:=Ol (P:=P) (w:=w) (k:=k) ht hi hz gG qf hc.1 hc.2;obtain⟨g',r1,r2,r3⟩:=hR.newObj (cpn:=n.toNat*zero.length) (hcpn:=by simp[ei]) (w':=w.alloc (.cells ((Array.range (n.toNat*ie.size)).map fun i=>z.cells[i % z.cells.size]!) e)) hn rfl rfl rfl rfl (cs:=(List.replicate n.toNat zero).flatten) (fun j v hj=>by
    rw[Om]at hj;split at hj
    ·rename_i br
     have yC:j % zero.length<z.cells.size:=by rw[mV,ei];exact Nat.mod_lt _ (by omega)
     obtain⟨q1,q2,q3⟩:=hv (j % zero.length) v z.cells[j % zero.length] hj (by simp[yC])
     refine⟨q1,q2 _,z.cells[j % zero.length],?_,q3⟩;simp[mV,ei,br];rw[getElem!_pos z.cells (j % zero.length) yC]
    ·cases hj)
   refine b0.value (x:=.slice (some ⟨w.heap.size,0,none⟩) n.toNat n.toNat) (g':=g') (w':=w.alloc (.cells ((Array.range (n.toNat*ie.size)).map fun i=>z.cells[i % z.cells.size]!) e)) ?_ (r1.put hd ?_)
   ·simp only[execOp,ho,e1,Iy]
    simp only[Sem.run_bind,hm,Result.andThen_ok,Sem.run_pure]
   ·rw[←r2];exact .bO id _ _ _ (Nat.le_refl _) r3.symm
 ·cases ah
theorem YQ{o:Oper}{t e:TypeId}{ie:TypeInfo}{z:Value}{sh:Sh}{zero:List V}{len:Nat}{p p':Operand}{C:bm}(ho:o.op=.makeSlice t p p')
  (ht:P.underlying t=some (.slice e)) (hi:P.info? e=some ie) (hz:ie.zero=some z) (ei:ie.size=sh.length) (mV:z.cells.size=sh.length) (qf:ie.bytes≤32768) (gG:0<sh.length) (YN:len≤65536)
  (qR:sr z.cells.toList sh zero=true) (hp:bJ p (.c (.int .i64 len))=true) (vF:bJ p' (.c (.int .i64 len))=true)
  (hR:R E g S a w) (hd:∀d,o.dst=some d→d<E.nt) (ah:VO.run C o.dst S (.lit none sh zero len [])=some S'):b0 P E o S S' a w:=by
 simp only[VO.run,sb]at ah;cases ah;have hzero:iU w.heap g.m sh.length (List.replicate len zero) ((Array.range (len*ie.size)).map fun i=>z.cells[i % z.cells.size]!).toList:=by
  rw[ei,Oj len sh.length z.cells mV gG];exact Oh qR len
 have e1:=kX (cL hR hp rfl);have Iy:=kX (cL hR vF rfl);have hm:=Ol (P:=P) (w:=w) (k:=.i64) (n:=(len:Int)) ht hi hz (by omega) qf (by omega) (by unfold lim;omega)
 simp only[Int.toNat_natCast]at hm;obtain⟨g',r1,r2⟩:=hR.Iw (w':=w.alloc (.cells ((Array.range (len*ie.size)).map fun i=>z.cells[i % z.cells.size]!) e)) rfl rfl rfl rfl (n:=sh.length) (ys:=List.replicate len zero) (l:=((Array.range (len*ie.size)).map fun i=>z.cells[i % z.cells.size]!).toList) hzero (fun j y hj=>by rw[←Array.getElem?_toList];exact hj) (cap:=len) (by simp)
 rw[List.length_replicate]at r2;refine b0.value (x:=.slice (some ⟨w.heap.size,0,none⟩) len len) (g':=g') (w':=w.alloc (.cells ((Array.range (len*ie.size)).map fun i=>z.cells[i % z.cells.size]!) e)) ?_ (r1.put hd r2);simp only[execOp,ho,e1,Iy];simp only[Sem.run_bind,hm,Result.andThen_ok,Sem.run_pure]
theorem Iz{t:TypeId}{n:Nat}(hs:eN P t=some n){b o:Nat}{v:Value}(hv:v.cells.size=n){c:Array Value}{e:TypeId}(hb:w.heap[b]?=some (.cells c e (0,0)))(fy:o+n≤c.size)
  (h1:∀y∈v.cells.toList,y.oneCell'=true):(storeVar t ⟨b,o,none⟩ v).run P w=.ok () (w.setRow b (c.toList.take o++v.cells.toList++c.toList.drop (o+n)).toArray):=by
 have fA:=run_storeCells_at P b o e v.cells.toList 0 c w hb (by simp;omega) h1
 simp only[Nat.add_zero,Array.length_toList,hv]at fA;simp[storeVar,nF hs,hv,fA]
theorem Ag{c:Array Value}{l:List Value}{o:Nat}(fy:o+l.length≤c.size)(k:Nat):(c.toList.take o++l++c.toList.drop (o+l.length)).toArray[k]?=if o≤k∧k<o+l.length then l[k-o]? else c[k]?:=by
 simp only[List.getElem?_toArray,List.append_assoc];by_cases h:k<o
 ·rw[List.getElem?_append_left (by simp;omega),if_neg (by omega)]
  simp[h]
 ·rw[List.getElem?_append_right (by simp;omega)]
  have e:(c.toList.take o).length=o:=by simp;omega
  rw[e];by_cases h2:k-o<l.length
  ·rw[List.getElem?_append_left h2,if_pos (by omega)]
  ·rw[List.getElem?_append_right (by omega),if_neg (by omega),List.getElem?_drop]
   simp;congr 1;omega
theorem B6{c:Array Value}{l:List Value}{o:Nat}(fy:o+l.length≤c.size):(c.toList.take o++l++c.toList.drop (o+l.length)).toArray.size=c.size:=by
 simp;omega
theorem EX(w:World)(b i:Nat)(c:Array Value)(h:i≠b):(w.setRow b c).heap[i]?=w.heap[i]?:=by
 simp only[World.setRow,Array.getElem?_modify];rw[if_neg (by omega)]
theorem B7{b:Nat}{c':Array Value}(hm:g.m b=0)(vG:E.w0.heap.size≤b∨∃i,i<E.N0∧E.g0.ow b=.ay i)(B8:∀p q,g.ow b≠.cell p q)(hR:R E g S a w) :
  Touch E g S w g S.a7 S.ay.length (w.setRow b c') b none none where
 os:=rfl
 tape:=rfl
 output:=rfl
 size:=by simp
 heap:=fun i hi _=>EX w b i c' hi
 m:=fun _ _=>rfl
 ow:=fun _ _=>rfl
 κ:=fun _ _=>rfl
 cp:=fun _ _=>rfl
 τ:=fun _ _=>rfl
 T:=fun _ _=>rfl
 γ:=fun _ _=>rfl
 eG:=Nat.le_refl _
 γnew:=fun i a b=>absurd a (by omega)
 fresh:=vG.imp (fun z=>z) .inl
 gN:=fun p q _ e=>absurd e (B8 p q)
 lv:=fun i e=>hR.z7 e (Nat.le_refl _)
 jQ:=fun o y ho _=>absurd ho (by omega)
 nZ:=fun _=>Nat.le_refl _
theorem YR{o:Oper}{t:TypeId}{sh:Sh}{p q:Operand}{x y:bj}{id off:Nat}{cs:List V}{v:V}(ho:o.op=.store t p q)(tH:o.dst=none)(hs:eN P t=some sh.length)(hp:bJ p x=true)(hq:bJ q y=true)
  (hR:R E g S a w) (hx:S.ev x=some (.bA id off)) (hy:S.ev y=some v) (e9:look id S.aV=some cs) (hl:v.cells.length=sh.length) (hle:off+sh.length≤cs.length) (im:∀u∈v.cells,u.cz=true) (gG:0<sh.length) :
  b0 P E o S { S with aV:=(id,iC cs off v.cells)::S.aV } a w:=by
 rcases hR.aV id cs e9 with⟨h0,uL⟩ | ⟨cn,fU,hm,c,e,hh,eT,hj⟩
 ·subst h0;simp only[List.length_nil]at hle;omega
 obtain⟨kq,Ah⟩:=Aa (cL hR hq hy) im;have ei:(a.eval q).cells.size=sh.length:=by simp at kq;omega
 have hc:cs.length≤c.size:=by
  rcases Nat.lt_or_ge c.size cs.length with h|h
  ·obtain⟨_,y,hy,_⟩:=hj c.size cs[c.size] (List.getElem?_eq_getElem h)
   simp at hy
  ·exact h
 have h1:∀y∈(a.eval q).cells.toList,y.oneCell'=true:=fun y hy=>by
  obtain⟨k,hk⟩:=List.mem_iff_getElem?.1 hy;have Af:=eC hk;have pr:k<v.cells.length:=by omega
  exact Ig (Ah k v.cells[k] y (List.getElem?_eq_getElem pr) hk) (im _ (List.getElem_mem pr))
 have fy:off+(a.eval q).cells.toList.length≤c.size:=by simp;omega
 have ah:=Iz (P:=P) (w:=w) hs (v:=a.eval q) ei hh (o:=off) (by omega) h1
 have hlen:(a.eval q).cells.toList.length=sh.length:=by simpa using ei
 rw[←hlen]at ah
 let c':Array Value:=(c.toList.take off++(a.eval q).cells.toList++c.toList.drop (off+(a.eval q).cells.toList.length)).toArray
 have kN:(w.setRow (g.κ id) c').heap[g.κ id]?=some (.cells c' e (0,0)):=setRow_heap w _ c c' e _ hh;have tt:=B7 (c':=c') (S:=S) (w:=w) hm (.inl fU) (fun _ _ e=>by rw[cn]at e;cases e) hR
 have hk:∀i,il (S.cx g w) ⟨(w.setRow (g.κ id) c').heap,g,S.ay.length,S.a7⟩ i:=fun i=>tt.keeps hR (fun e=>by cases e) (fun e=>by cases e) (fun _ e=>by rw[cn]at e;cases e)
 refine b0.skip (g':=g) (w':=w.setRow (g.κ id) c') ?_ tH (R.mU tt hR rfl rfl (fun i=>.inl (hk i)) (fun s v hs=>.inl hs) (fun i dR hi=>?_) (fun f k b hf hb=>.inl ⟨(fun e=>by cases e),fun _ e=>by rw[cn]at e;cases e⟩)
  (fun i o hi=>.inl ⟨hi,fun _=>⟨fun e=>(by rw[cn]at e;cases e),fun _ e=>(by rw[cn]at e;cases e)⟩⟩))
 ·simp only[execOp,ho,wZ (cL hR hp hx)]
  have yt:(storeVar t ⟨(S.cx g w).g.κ id,off,none⟩ (a.eval q)).run P w=.ok () (w.setRow (g.κ id) c'):=ah;simp[Instr.storeAt,Instr.sureAddr,yt]
 ·rw[dF]at hi
  by_cases jG:id=i
  ·subst jG
   rw[if_pos rfl]at hi;cases hi;refine .inr ⟨cn,fU,hm,c',e,kN,(by rw[B6 (by omega)];exact eT),fun j u hu=>?_⟩
   rw[Ae]at hu;show _∧∃y,c'[j]?=some y∧_;rw[show c'[j]?=_ from Ag fy j];split at hu
   ·rename_i mW
    rw[if_pos (by omega)]
    have pt:=eC hu;have oN:j-off<(a.eval q).cells.toList.length:=by omega
    exact⟨im u (List.mem_of_getElem? hu),_,List.getElem?_eq_getElem oN,(Ah (j-off) u _ hu (List.getElem?_eq_getElem oN)).mono tt.le (fun i=>.inl (hk i))⟩
   ·rename_i mW
    have Ai:=eC hu;rw[if_neg (by omega)]
    obtain⟨q1,z,q2,q3⟩:=hj j u hu;exact⟨q1,z,q2,q3.mono tt.le (fun i=>.inl (hk i))⟩
  ·rw[if_neg jG]at hi
   exact .inl ⟨hi,(fun e=>by cases e),fun _ e=>jG (by rw[cn]at e;cases e;rfl)⟩
theorem Aj{X:Cx}{sh:Option Nat}{v u:V}{y:Value}(h:nU sh v=some u)(hr:aY X v y):u.cz=true∧(∀d,u.ca d=false)∧aY ⟨X.h,X.g,X.N,[]⟩ u y∧v.cz=true:=by
 have qR:∀{v u},el sh v=some u→aY X v y→u.cz=true∧(∀d,u.ca d=false)∧aY ⟨X.h,X.g,X.N,[]⟩ u y∧v.cz=true:=fun {v u} h hr=>by
  obtain⟨p,q⟩:=BW h hr;refine⟨by cases u<;>simp_all[V.plain,V.cz],fun d=>?_,.plain q (sk p),?_⟩
  ·cases u<;>simp_all[V.plain,V.ca,V.dg,V.cj]
   rename_i tok _ _;cases tok<;>simp_all[V.cj]
  ·unfold el at h
   split at h<;>first|rfl|cases h
 unfold nU at h;split at h
 ·cases h;obtain⟨e,hi⟩:=w5 hr;rw[e];exact⟨rfl,fun _=>rfl,.bB _ _ hi,rfl⟩
 ·cases h;cases hr with
  |plain h _=>cases h
  |df _ _ _ _ h hl=>exact⟨rfl,fun _=>rfl,.df _ _ _ _ h hl,rfl⟩
  |tB _ _ h hz=>exact⟨rfl,fun _=>rfl,.tB _ _ h hz,rfl⟩
 ·cases h;cases hr with
  |plain h _=>cases h
  |ft=>exact⟨rfl,fun _=>rfl,.ft,rfl⟩
 ·cases h;cases hr with
  |plain h _=>cases h
  |fn _ _ xs hl hx=>exact⟨rfl,fun _=>rfl,.fn _ _ xs hl hx,rfl⟩
 ·cases h;cases hr with
  |plain h _=>cases h
  |fu=>exact⟨rfl,fun _=>rfl,.fu,rfl⟩
 ·cases h;cases hr with
  |plain h _=>cases h
  |map _ hi=>exact⟨rfl,fun _=>rfl,.map _ hi,rfl⟩
 ·cases h;cases hr with
  |plain h _=>cases h
  |fw=>exact⟨rfl,fun _=>rfl,.fw,rfl⟩
 ·exact qR h hr
theorem IA:∀{sh:Sh} {vs us:List V},qM sh vs=some us→us.length=sh.length∧vs.length=sh.length
 |[],[],us,h=>by simp[qM]at h;subst h;simp
 |[],_::_,_,h=>by simp[qM]at h
 |_::_,[],_,h=>by simp[qM]at h
 |s::sh,v::vs,us,h=>by
  simp only[qM]at h;split at h
  ·rename_i u lX h1 h2
   cases h;obtain⟨a,b⟩:=IA h2;simp[a,b]
  ·cases h
theorem IB:∀{sh:Sh} {vs us:List V},qM sh vs=some us→∀(j:Nat) (u:V),us[j]?=some u→∃v s,vs[j]?=some v∧nU s v=some u
 |[],[],us,h,j,u,hu=>by simp[qM]at h;subst h;simp at hu
 |[],_::_,_,h,_,_,_=>by simp[qM]at h
 |_::_,[],_,h,_,_,_=>by simp[qM]at h
 |s::sh,v::vs,us,h,j,u,hu=>by
  simp only[qM]at h;split at h
  ·rename_i u' lX h1 h2
   cases h;cases j with
   |zero=>simp at hu;subst hu;exact⟨v,s,by simp,h1⟩
   |succ j=>obtain⟨z,t,p,q⟩:=IB h2 j u (by simpa using hu);exact⟨z,t,by simpa using p,q⟩
  ·cases h
theorem YS{s:Option Nat}{v u:V}(h:nU s v=some u):v.cz=true:=by
 unfold nU at h;split at h
 all_goals first|rfl|skip
 unfold el at h;split at h<;>first|rfl|cases h
theorem On{h:Array Obj}{m:Nat→Nat}{t t':Option Nat}{n:Nat}{es:List (List V)}{x:Value}(hr:eS h m (.slice t n es) x):eS h m (.slice t' n es) x:=by
 cases hr with
 |nil=>exact .nil _ _
 |empty _ _ a cap=>exact .empty _ _ a cap
 |slice _ _ _ b off cap ys hb eu ia hc hv hp hm=>exact .slice t' n es b off cap ys hb eu ia hc hv hp hm
def xb:Value→Option Nat
 |.slice (some a) (_+1) _=>some a.block
 |_=>none
theorem B9{a:Addr}{n c:Nat}(h:0<n):xb (.slice (some a) n c)=some a.block:=by
 cases n with
 |zero=>omega
 |succ n=>rfl
theorem IC{x:Value}(h:kj x):xb x=none:=by
 rcases h with rfl | ⟨a,rfl⟩<;>rfl
theorem Ak{X:Cx}{sh:Option Nat}{v u:V}{y:Value}(h:yj sh v=some u)(hr:aY X v y) :
  u.cz=true∧(∀d,u.ca d=false)∧aY ⟨X.h,X.g,X.N,[]⟩ u y∧v.cz=true∧∀n es,u=.eY n es→es=[]∧kj y:=by
 have hg:∀{v u},nU sh v=some u→aY X v y→u.cz=true∧(∀d,u.ca d=false)∧aY ⟨X.h,X.g,X.N,[]⟩ u y∧v.cz=true∧∀n es,u=.eY n es→es=[]∧kj y:=fun {v u} h hr=>by
  obtain⟨h1,h2,h3,h4⟩:=Aj h hr;refine⟨h1,h2,h3,h4,fun n es e=>?_⟩;subst e;exfalso;unfold nU at h;split at h
  all_goals first|(cases h;done)|skip
  unfold el at h;split at h
  all_goals first|(cases h;done)|skip
  split at h<;>cases h
 unfold yj at h;split at h
 ·split at h
  ·cases h
   have e:=nE hr;subst e;exact⟨rfl,fun _=>rfl,.eY (.nil _ _),rfl,fun n es e=>by cases e;exact⟨rfl,.inl rfl⟩⟩
  ·exact hg h hr
 ·cases h
  have hz:=qQ hr;exact⟨rfl,fun _=>rfl,.eY (by rcases hz with rfl | ⟨a,rfl⟩<;>first|exact .nil _ _|exact .empty _ _ a 0),rfl,fun n es e=>by cases e;exact⟨rfl,hz⟩⟩
 ·exact hg h hr
theorem Ca:∀{sh:Sh} {vs us:List V},kU sh vs=some us→us.length=sh.length∧vs.length=sh.length
 |[],[],us,h=>by simp[kU]at h;subst h;simp
 |[],_::_,_,h=>by simp[kU]at h
 |_::_,[],_,h=>by simp[kU]at h
 |s::sh,v::vs,us,h=>by
  simp only[kU]at h;split at h
  ·rename_i u lX h1 h2
   cases h;obtain⟨a,b⟩:=Ca h2;simp[a,b]
  ·cases h
theorem xc:∀{sh:Sh} {vs us:List V},kU sh vs=some us→∀(j:Nat) (u:V),us[j]?=some u→∃v s,vs[j]?=some v∧yj s v=some u
 |[],[],us,h,j,u,hu=>by simp[kU]at h;subst h;simp at hu
 |[],_::_,_,h,_,_,_=>by simp[kU]at h
 |_::_,[],_,h,_,_,_=>by simp[kU]at h
 |s::sh,v::vs,us,h,j,u,hu=>by
  simp only[kU]at h;split at h
  ·rename_i u' lX h1 h2
   cases h;cases j with
   |zero=>simp at hu;subst hu;exact⟨v,s,by simp,h1⟩
   |succ j=>obtain⟨z,t,p,q⟩:=xc h2 j u (by simpa using hu);exact⟨z,t,by simpa using p,q⟩
  ·cases h
theorem YT{s:Option Nat}{v u:V}(h:yj s v=some u):v.cz=true:=by
 unfold yj at h;split at h
 ·rfl
 ·rfl
 ·exact YS h
theorem Oo{sh:Sh}{vs us:List V}(h:kU sh vs=some us):∀v∈vs,v.cz=true:=fun v hv=>by
 obtain⟨j,hj⟩:=List.mem_iff_getElem?.1 hv;obtain⟨e1,e2⟩:=Ca h;have:=eC hj;obtain⟨z,s,hz,hg⟩:=xc h j us[j] (List.getElem?_eq_getElem (by omega))
 rw[hj]at hz;cases hz;exact YT hg
theorem ID{h:Array Obj}{g:Gh}{b j n:Nat}{x:Value}(hz:kj x):End h g b j n 0 x:=.inl ⟨rfl,hz⟩
theorem Al(hR:R E g S a w){i:Nat}{o:aP}(ho:S.ay[i]?=some o)(ch:o≠.cells []):g.γ i<w.heap.size:=by
 obtain⟨_,h2⟩:=(hR.ay.obj i o ho).resolve_left ch;have key:∃ob,w.heap[g.γ i]?=some ob:=by
  cases o with
  |cells cs=>obtain⟨_,c,e,h4,_⟩:=h2;exact⟨_,h4⟩
  |map es=>obtain⟨_,c,e,h4,_⟩:=h2;exact⟨_,h4⟩
 obtain⟨ob,h4⟩:=key;rcases Nat.lt_or_ge (g.γ i) w.heap.size with h|h
 ·exact h
 ·simp[Array.getElem?_eq_none h]at h4
theorem R.EY(hR:R E g S a w){b i:Nat}(cn:g.ow b=.ay i):E.w0.heap.size≤b∨∃k,k<E.N0∧E.g0.ow b=.ay k:=by
 rcases Nat.lt_or_ge b E.w0.heap.size with h|h
 ·obtain⟨h1,h2⟩:=hR.same.lv b i cn h
  exact .inr ⟨i,h2,h1⟩
 ·exact .inl h
theorem Oq{cs:List V}{k:Nat}{u:V}(h:cs[k]?=some u):aP.cells cs≠.cells []:=fun e=>by cases e;simp at h
theorem YU{o:Oper}{t:TypeId}{sh:Sh}{p q:Operand}{x y:bj}{i off:Nat}{cs vs:List V}{v:V}(ho:o.op=.store t p q)(tH:o.dst=none)(hs:eN P t=some sh.length)(hp:bJ p x=true)(hq:bJ q y=true)
  (hR:R E g S a w) (hx:S.ev x=some (.bB i off)) (hy:S.ev y=some v) (e9:S.ay[i]?=some (.cells cs)) (hg:kU sh v.cells=some vs) (hle:off+vs.length≤cs.length) (ch:cs≠[]) :
  b0 P E o S { S with ay:=S.ay.set i (.cells (iC cs off vs)) } a w:=by
 obtain⟨cn,hm,c,e,hh,c9,hj⟩:=(hR.ay.obj i _ e9).resolve_left (fun e=>ch (by cases e;rfl))
 have hi:=eC e9;obtain⟨e1,e2⟩:=Ca hg;have im:=Oo hg;obtain⟨kq,Ah⟩:=Aa (cL hR hq hy) im;have ei:(a.eval q).cells.size=sh.length:=by simp at kq;omega
 have h1:∀y∈(a.eval q).cells.toList,y.oneCell'=true:=fun y hy=>by
  obtain⟨k,hk⟩:=List.mem_iff_getElem?.1 hy;have Af:=eC hk;have pr:k<v.cells.length:=by omega
  exact Ig (Ah k v.cells[k] y (List.getElem?_eq_getElem pr) hk) (im _ (List.getElem_mem pr))
 have hlen:(a.eval q).cells.toList.length=sh.length:=by simpa using ei
 have fy:off+(a.eval q).cells.toList.length≤c.size:=by omega
 have ah:=Iz (P:=P) (w:=w) hs (v:=a.eval q) ei hh (o:=off) (by omega) h1
 rw[←hlen]at ah
 let c':Array Value:=(c.toList.take off++(a.eval q).cells.toList++c.toList.drop (off+(a.eval q).cells.toList.length)).toArray
 have kN:(w.setRow (g.γ i) c').heap[g.γ i]?=some (.cells c' e (0,0)):=setRow_heap w _ c c' e _ hh;have tt:=B7 (c':=c') (S:=S) (w:=w) hm (hR.EY cn) (fun _ _ e=>by rw[cn]at e;cases e) hR
 have hk:∀k,il (S.cx g w) ⟨(w.setRow (g.γ i) c').heap,g,S.ay.length,S.a7⟩ k:=fun k=>tt.keeps hR (fun e=>by cases e) (fun e=>by cases e) (fun _ e=>by rw[cn]at e;cases e)
 have oc:Le ⟨w.heap,g,S.ay.length,[]⟩ ⟨(w.setRow (g.γ i) c').heap,g,S.ay.length,[]⟩:=⟨tt.le.size,tt.le.cells,tt.le.m,tt.le.eG,tt.le.γ⟩;refine b0.skip (g':=g) (w':=w.setRow (g.γ i) c') ?_ tH (R.mU tt hR rfl (by simp) (fun i=>.inl (hk i)) (fun s v hs=>.inl hs) (fun id dR hi=>.inl ⟨hi,(fun e=>by cases e),fun _ e=>by rw[cn]at e;cases e⟩)
  (fun f k b hf hb=>.inl ⟨(fun e=>by cases e),fun _ e=>by rw[cn]at e;cases e⟩) (fun k o fh=>?_))
 ·obtain⟨ep,_⟩:=w5 (cL hR hp hx)
  have yt:(storeVar t ⟨(S.cx g w).g.γ i,off,none⟩ (a.eval q)).run P w=.ok () (w.setRow (g.γ i) c'):=ah;simp only[execOp,ho,ep];simp[Instr.storeAt,Instr.sureAddr,yt]
 ·simp only[List.getElem?_set]at fh
  by_cases kr:i=k
  ·subst kr
   simp[hi]at fh;subst fh;refine .inr ⟨cn,⟨hm,c',e,kN,by rw[It];exact Nat.le_trans c9 (Nat.le_of_eq (B6 fy).symm),fun j u z hu hz=>?_⟩,fun j n es z hu hz=>?_⟩
   ·rw[Ae]at hu
    rw[show c'[j]?=_ from Ag fy j]at hz;split at hu
    ·rename_i mW
     rw[if_pos (by omega)]at hz
     obtain⟨u0,s,px,od⟩:=xc hg _ u hu;obtain⟨q1,q2,q3,_⟩:=Ak od (Ah (j-off) u0 z px hz);exact⟨q1,q2,q3.mono oc (fun d=>.inr (q2 d))⟩
    ·rename_i mW
     have Ai:=eC hu;rw[if_neg (by omega)]at hz
     obtain⟨q1,q2,q3⟩:=hj j u z hu hz;exact⟨q1,q2,q3.mono oc (fun d=>.inr (q2 d))⟩
   ·rw[Ae]at hu
    rw[kM kN,show c'[j]?=_ from Ag fy j]at hz;split at hu
    ·rename_i mW
     rw[if_pos (by omega)]at hz
     obtain⟨u0,s,px,od⟩:=xc hg _ _ hu;obtain⟨_,_,_,_,q5⟩:=Ak od (Ah (j-off) u0 z px hz);obtain⟨rfl,hz⟩:=q5 n es rfl;exact ID hz
    ·rename_i mW
     have Ai:=eC hu;rw[if_neg (by omega)]at hz
     rcases hR.ay.own i _ e9 j n es z hu (by rw[kM hh];exact hz) with h | ⟨q,cap,c2,e',q1,q2,q3,q4,q5,q6⟩
     ·exact .inl h
     ·have ch:q≠g.γ i:=fun e=>by rw[e,cn]at q2;cases q2
      exact .inr ⟨q,cap,c2,e',q1,q2,q3,(EX w _ q c' ch).trans q4,q5,q6⟩
  ·rw[if_neg kr]at fh
   exact .inl ⟨fh,fun _=>⟨fun e=>kr (by rw[cn]at e;cases e;rfl),fun _ e=>(by rw[cn]at e;cases e)⟩⟩
theorem YV{o:Oper}{t:TypeId}{root:iQ}{sh:Sh}{p q:Operand}{x y:bj}{C:bm}(ho:o.op=.store t p q)(tH:o.dst=none)(hs:eN P t=some sh.length)(hp:bJ p x=true)(hq:bJ q y=true)
  (hR:R E g S a w) (ah:VO.run C o.dst S (.store root sh x y)=some S'):b0 P E o S S' a w:=by
 simp only[VO.run]at ah;cases fy:S.fits root x with
 |false=>simp[fy]at ah
 |true =>
  simp only[fy,cond_true]at ah;split at ah
  ·rename_i id off v hx hy
   split at ah
   ·rename_i cs e9
    cases hc:(v.cells.length==sh.length&&Nat.ble (off+sh.length) cs.length&&v.cells.all V.cz&&Nat.blt 0 sh.length) with
    |false=>simp[hc]at ah
    |true =>
     simp only[hc,cond_true]at ah;simp only[Bool.and_eq_true,beq_iff_eq,List.all_eq_true]at hc;cases ah;exact YR ho tH hs hp hq hR hx hy e9 hc.1.1.1 (Nat.le_of_ble_eq_true hc.1.1.2) hc.1.2 (by have:=hc.2;simp[Nat.blt]at this;omega)
   ·cases ah
  ·rename_i i off v hx hy
   split at ah
   ·rename_i cs e9
    split at ah
    ·rename_i vs hg
     cases hc:(Nat.ble (off+vs.length) cs.length&&Nat.blt 0 vs.length) with
     |false=>simp[hc]at ah
     |true =>
      simp only[hc,cond_true]at ah;cases ah;simp only[Bool.and_eq_true]at hc;have hle:=Nat.le_of_ble_eq_true hc.1;exact YU ho tH hs hp hq hR hx hy e9 hg hle (fun e=>by have h2:=hc.2;subst e;simp only[Nat.blt,Nat.ble_eq,List.length_nil]at hle h2;omega)
    ·cases ah
   ·cases ah
  ·cases ah
theorem YW{o:Oper}{t:TypeId}{sh:Sh}{p:Operand}{x:bj}{C:bm}(ho:o.op=.box t p)(hp:bJ p x=true)
  (hR:R E g S a w) (hd:∀d,o.dst=some d→d<E.nt) (ah:VO.run C o.dst S (.rM sh x)=some S'):b0 P E o S S' a w:=by
 simp only[VO.run]at ah;split at ah
 ·rename_i v hv
  split at ah
  ·rename_i cs hg
   cases ah;obtain⟨e1,e2⟩:=Ca hg;obtain⟨hl,hx⟩:=Aa (cL hR hp hv) (Oo hg)
   let c:Array Value:=(a.eval p).cells
   let g':Gh:={ g with m:=cQ g.m w.heap.size 0,γ:=cQ g.γ S.ay.length w.heap.size,ow:=cQ g.ow w.heap.size (.ay S.ay.length) }
   have hw:(w.alloc (.cells c t)).heap=w.heap.push (.cells c t (0,0)):=rfl;have t':Touch E g S w g' S.a7 (S.ay.length+1) (w.alloc (.cells c t)) w.heap.size none none:=BT hR hw rfl rfl rfl (fun b hb=>gd _ _ hb) (fun b hb=>gd _ _ hb)
    (fun i _=>rfl) (fun i _=>rfl) (fun i _=>rfl) (fun i _=>rfl) (fun i hi=>gd _ _ (by omega)) (by omega) (fun i h1 h2=>by
     have:i=S.ay.length:=by omega
     subst this;show _≤cQ g.γ _ _ _;rw[dC];exact hR.same.size) (fun i e=>by
     have e:cQ g.ow w.heap.size (.ay S.ay.length) w.heap.size=.ay i:=e;rw[dC]at e;cases e;exact⟨dC _ _ _,Nat.lt_succ_self _⟩)
   have kn:∀i,il (S.cx g w) ⟨(w.alloc (.cells c t)).heap,g',S.ay.length+1,S.a7⟩ i:=fun i=>t'.keeps hR (fun e=>by cases e) (fun e=>by cases e) (fun h=>absurd h (Nat.lt_irrefl _))
   have oc:Le ⟨w.heap,g,S.ay.length,[]⟩ ⟨(w.alloc (.cells c t)).heap,g',S.ay.length+1,[]⟩:=⟨t'.le.size,t'.le.cells,t'.le.m,t'.le.eG,t'.le.γ⟩;have hγ:g'.γ S.ay.length=w.heap.size:=dC _ _ _;have r1:R E g' { S with ay:=S.ay++[.cells cs] } a (w.alloc (.cells c t)):=R.mU t' hR rfl (by simp) (fun i=>.inl (kn i)) (fun s v hs=>.inl hs)
    (fun id dR hi=>.inl ⟨hi,(fun e=>by cases e),fun h=>absurd h (Nat.lt_irrefl _)⟩) (fun f k b hf hb=>.inl ⟨(fun e=>by cases e),fun h=>absurd h (Nat.lt_irrefl _)⟩) (fun k o fh=>by
     simp only[List.getElem?_append]at fh;split at fh
     ·exact .inl ⟨fh,fun h=>absurd h (Nat.lt_irrefl _)⟩
     ·rename_i hk
      have:k=S.ay.length:=by
       rcases Nat.eq_zero_or_pos (k-S.ay.length) with h|h
       ·omega
       ·rw[List.getElem?_eq_none (by simp;omega)]at fh;cases fh
      subst this;simp at fh;subst fh;refine .inr ⟨by rw[hγ];exact dC _ _ _,⟨by rw[hγ];exact dC _ _ _,c,t,by rw[hγ];exact BV hw,by(have:v.cells.length=(a.eval p).cells.size:=by simpa using hl);show cs.length≤(a.eval p).cells.size;omega,fun j u z hu hz=>?_⟩,fun j n es z hu hz=>?_⟩
      ·obtain⟨u0,s,px,od⟩:=xc hg _ u hu
       obtain⟨q1,q2,q3,_⟩:=Ak od (hx j u0 z px (by simpa using hz))
       exact⟨q1,q2,q3.mono oc (fun d=>.inr (q2 d))⟩
      ·rw[hγ,kM (BV hw)]at hz
       obtain⟨u0,s,px,od⟩:=xc hg _ _ hu;obtain⟨_,_,_,_,q5⟩:=Ak od (hx j u0 z px (by simpa using hz))
       obtain⟨rfl,hz⟩:=q5 n es rfl;exact ID hz)
   refine b0.value (x:=.pointer (some ⟨w.heap.size,0,none⟩)) (w':=w.alloc (.cells c t)) (g':=g') ?_ (r1.put hd ?_)
   ·simp[execOp,ho,Instr.box,newVar,newRow,c]
   ·rw[←hγ];exact .bB _ 0 (by simp[St.cx])
  ·cases ah
 ·cases ah
theorem YX{o:Oper}{t e:TypeId}{n m:Nat}{C:bm}(ho:o.op=.buildSlice t 0 #[])(ht:P.underlying t=some (.slice e))(hn:eN P e=some m)
  (hR:R E g S a w) (hd:∀d,o.dst=some d→d<E.nt) (ah:VO.run C o.dst S (.vt n)=some S'):b0 P E o S S' a w:=by
 simp only[VO.run]at ah;cases ah;obtain⟨g',r1,_⟩:=hR.Iw (w':=w.alloc (.cells #[] e)) rfl rfl rfl rfl (n:=n) (ys:=[]) (l:=[]) ⟨by simp,by simp,by simp⟩ (fun j y hj=>by simp at hj) (cap:=0) (Nat.le_refl _)
 refine b0.value (x:=.slice (some ⟨w.heap.size,0,none⟩) 0 0) (g':=g') (w':=w.alloc (.cells #[] e)) ?_ (r1.put hd (.dH (.inr ⟨_,rfl⟩)));have hz:∀f:Nat→Value,(Array.range 0).map f = #[]:=fun f=>Array.eq_empty_of_size_eq_zero (by simp)
 simp[execOp,ho,Instr.buildSlice,iE ht,nF hn,Instr.fill,newRow,hz]
theorem YY{o:Oper}{op:BinOp}{t e ty:TypeId}{neg:Bool}{p q:Operand}{x:bj}{C:bm}(ho:o.op=.binOp op t p q ty)(vH:op=if neg then .neq else .eql)(ht:P.underlying t=some (.slice e))(hp:bJ p x=true)(hq:bJ q (.c .bW)=true)
  (hR:R E g S a w) (hd:∀d,o.dst=some d→d<E.nt) (ah:VO.run C o.dst S (.tr neg x)=some S'):b0 P E o S S' a w:=by
 have h0:=nE (cL (v:=.bW) hR hq rfl);have go:∀(r:Option Addr) (n c:Nat),a.eval p=.slice r n c→(bif neg then !r.isNone else r.isNone)=(bif neg then !r.isNone else r.isNone)→(execOp a.eval o).run P w=.ok (.value (.bool (bif neg then !r.isNone else r.isNone))) w:=fun r n c ev _=>by
  subst vH;have hg:∀op,(eqGuard op t p q (.slice r n c) (.slice none 0 0)).run P w=.ok () w:=fun op=>by
   cases op<;>simp[eqGuard]
  cases neg
  ·have h1:=Lib.run_eql_slice_nil (P:=P) w t e r n c 0 0 ht
   simp[execOp,ho,ev,h0,hg,h1]
  ·have h1:=run_neq_slice_nil_any (P:=P) w t e r n c 0 0 ht
   simp[execOp,ho,ev,h0,hg,h1]
 simp only[VO.run]at ah;split at ah
 ·rename_i hx
  cases ah;have e:=nE (cL hR hp hx);have:=go _ _ _ e rfl;refine b0.put hR hd (x:=.bool !neg) ?_ (aY.bool _);rw[this];cases neg<;>rfl
 ·rename_i n hx
  cases ah;obtain⟨b,cap,e⟩:=BP (cL hR hp hx);have:=go _ _ _ e rfl;refine b0.put hR hd (x:=.bool neg) ?_ (aY.bool _);rw[this];cases neg<;>rfl
 ·rename_i t' n r rs hx
  cases ah;have hr:=cL hR hp hx;obtain⟨b,len,cap,e⟩:∃b len cap,a.eval p=.slice (some b) len cap:=by
   generalize a.eval p=y at hr;cases hr with
   |plain h _=>cases h with
    |slice _ _ _ b off cap=>exact⟨_,_,_,rfl⟩
  have:=go _ _ _ e rfl;refine b0.put hR hd (x:=.bool neg) ?_ (aY.bool _);rw[this];cases neg<;>rfl
 ·cases ah
theorem YZ{o:Oper}{t:TypeId}{bT:Nat}{p:Operand}{x:bj}{C:bm}(ho:o.op=.load t p)(hs:pj P t none=true)(hp:bJ p x=true)(hn:S.ez bT)
  (hR:R E g S a w) (hd:∀d,o.dst=some d→d<E.nt) (ah:VO.run C o.dst S (.qJ bT x)=some S'):b0 P E o S S' a w:=by
 simp only[VO.run]at ah;split at ah
 ·rename_i pv IE
  have Cb:=cL hR hp IE;split at ah
  ·rename_i v ts G uN
   cases ah;unfold St.take at uN;split at uN
   ·rename_i id off
    obtain⟨ep,l7⟩:=w5 Cb;split at uN
    ·rename_i cs e9
     by_cases IF:cs=[]
     ·subst IF;simp at uN
     obtain⟨cn,hm,c,e,hh,c9,hj⟩:=(hR.ay.obj id _ e9).resolve_left (fun e=>IF (by cases e;rfl))
     have Am:∀u,cs[off]?=some u→∃z,(execOp a.eval o).run P w=.ok (.value z) w∧aY (S.cx g w) u z∧c[off]?=some z:=fun u hu=>by
      have hc:S.mR (.bB id off)=some (cs,off):=by simp[St.mR,e9]
      obtain⟨b,f,e2,eW⟩:=NX hR Cb hc;rw[e2]at ep;injection ep with ep;injection ep with ep;injection ep with e3 e4 _;have e3:b=g.γ id:=e3;have e4:f=0:=by omega
      obtain⟨z,hz,hr⟩:=EL (P:=P) (w:=w) (t:=t) (sz:=none) (off:=off) hs eW hu;obtain⟨y,hy,_⟩:=eW off u hu;have Y1:z=y:=by
       have h5:(loadVar t ⟨b,f+off,none⟩).run P w=.ok y w:=by
        simp only[pj,Bool.and_eq_true,beq_iff_eq]at hs;simp[loadVar,yx hs.1,cell?_eq,hy]
       rw[h5]at hz;injection hz with hz;exact hz.symm
      rw[Y1]at hz hr;refine⟨y,by simp[execOp,ho,Instr.loadAt,e2,Instr.sureAddr,hz],hr,?_⟩
      rw[e3,kM hh,e4,Nat.zero_add]at hy;exact hy
     split at uN
     ·rename_i n es im
      cases uN;obtain⟨z,hex,hr,hz⟩:=Am _ im;have yD:eS w.heap g.m (.slice none n es) z:=by
       cases hr with
       |plain h _=>cases h
       |eY h=>exact h
      have mY:=eC im;have sw:=hR.ay.own id _ e9 off n es z im (by rw[kM hh];exact hz)
      let τ':Option Nat:=xb z
      have Ot:∀q,τ'=some q→g.ow q=.cell (g.γ id) off∧q<w.heap.size:=fun q hq=>by
       rcases sw with⟨_,e⟩ | ⟨q',cap,c2,e2,e,q2,q3,q4,q5,q6⟩
       ·rw[show τ'=none from IC e]at hq;cases hq
       ·rw[show τ'=some q' by simp only[τ',e];exact B9 q6]at hq
        cases hq;refine⟨q2,?_⟩;rcases Nat.lt_or_ge q w.heap.size with h|h
        ·exact h
        ·simp[Array.getElem?_eq_none h]at q4
      let B:Nat:=τ'.getD w.heap.size
      let g':Gh:={ g with τ:=cQ g.τ bT τ',ow:=cQ g.ow B (.tok bT) }
      have xd:B<w.heap.size→g.ow B=.cell (g.γ id) off:=fun hB=>by
       cases hτ:τ' with
       |none=>simp only[B,hτ,Option.getD_none]at hB;omega
       |some q=>simp only[B,hτ,Option.getD_some];exact(Ot q hτ).1
      have tt:Touch E g S w g' ((bT,es.length)::S.a7) S.ay.length w B none (some bT) :=
       {os:=rfl,tape:=rfl,output:=rfl,size:=Nat.le_refl _,heap:=fun _ _ _=>rfl,m:=fun _ _=>rfl,ow:=fun b hb=>gd _ _ hb,κ:=fun _ _=>rfl,cp:=fun _ _=>rfl,
        τ:=fun i hi=>gd _ _ (fun e=>hi (by rw[e])),T:=fun i hi=>by rw[dF,if_neg (fun e=>hi (by rw[e]))],γ:=fun _ _=>rfl,eG:=Nat.le_refl _,
        γnew:=fun i a b=>absurd a (by omega)
        fresh:=by
         rcases Nat.lt_or_ge B E.w0.heap.size with h|h
         ·exact .inr (.inr (hR.same.gN B _ _ h (xd (Nat.lt_of_lt_of_le h hR.same.size))))
         ·exact .inl h
        gN:=fun p q _ e=>by
         have e:cQ g.ow B (.tok bT) B=.cell p q:=e;rw[dC]at e;cases e
        lv:=fun i e=>by
         have e:cQ g.ow B (.tok bT) B=.ay i:=e;rw[dC]at e;cases e
        jQ:=fun _ _ _ h=>h,nZ:=fun _=>Nat.le_refl _ }
      have kn:∀i,il (S.cx g w) ⟨w.heap,g',S.ay.length,(bT,es.length)::S.a7⟩ i∨i=bT:=fun i=>by
       by_cases hi:bT=i
       ·exact .inr hi.symm
       ·exact .inl (tt.keeps hR (fun e=>by cases e) (fun e=>hi (by cases e;rfl)) (fun hB e=>by rw[xd hB]at e;cases e))
      have Y2:∀k o,S.ay[k]?=some o→o≠.cells []→k≠id→g.γ k≠g.γ id:=fun k o hk An ch e=>by
       have:=((hR.ay.obj k o hk).resolve_left An).1;rw[e,cn]at this;cases this;exact ch rfl
      have r1:R E g' { S with a7:=(bT,es.length)::S.a7,ay:=S.ay.set id (.cells (cs.set off (.slice none n es))) } a w :=
       R.BQ (S':={ S with a7:=(bT,es.length)::S.a7,ay:=S.ay.set id (.cells (cs.set off (.slice none n es))) }) tt hR rfl (by simp) (fun i=>(kn i).imp (fun z=>z) fun e=>by rw[e];exact hn) (fun s v hs=>.inl hs)
        (fun i dR ho=>.inl ⟨ho,(fun e=>by cases e),fun hB e=>by rw[xd hB]at e;cases e⟩) (fun f k b hf hb=>by
         by_cases uP:bT=f
         ·subst uP
          have hb:cQ g.τ bT τ' bT=some b:=hb;rw[dC]at hb;obtain⟨h1,h2⟩:=Ot b hb;have IG:B=b:=by simp only[B,hb,Option.getD_some]
          refine .inr ⟨by show cQ g.ow B _ b=_;rw[IG,dC],?_,h2⟩
          rcases Nat.lt_or_ge b E.w0.heap.size with h|h
          ·exact .inr (hR.same.gN b _ _ h h1)
          ·exact .inl h
         ·exact .inl ⟨fun e=>uP (by cases e;rfl),fun hB e=>by rw[xd hB]at e;cases e⟩) (fun k o fh An=>by
         simp only[List.getElem?_set]at fh;by_cases kr:id=k
         ·subst kr
          simp[show id<S.ay.length from eC e9]at fh;subst fh;have oc:Le ⟨w.heap,g,S.ay.length,[]⟩ ⟨w.heap,g',S.ay.length,[]⟩:=⟨tt.le.size,tt.le.cells,tt.le.m,tt.le.eG,tt.le.γ⟩;have Y3:g.γ id≠B:=fun e=>by
           have:=xd (e ▸ Al hR e9 (fun e=>IF (by cases e;rfl)))
           rw[←e,cn]at this;cases this
          refine .inr ⟨(tt.ow _ Y3).trans cn,⟨hm,c,e,hh,by rw[List.length_set];exact c9,fun j u y hu hy=>?_⟩,fun j n' nH y hu hy=>?_⟩
          ·rw[List.getElem?_set]at hu
           by_cases qg:off=j
           ·subst qg
            rw[if_pos rfl,if_pos mY]at hu;cases hu;have Y4:y=z:=by have hy:c[off]?=some y:=hy;rw[hz]at hy;exact(Option.some.inj hy).symm
            rw[Y4];exact⟨rfl,fun _=>rfl,.plain yD (fun _ _ _ e=>by cases e)⟩
           ·rw[if_neg qg]at hu
            obtain⟨q1,q2,q3⟩:=hj j u y hu hy;exact⟨q1,q2,q3.mono oc (fun d=>.inr (q2 d))⟩
          ·rw[List.getElem?_set]at hu
           by_cases qg:off=j
           ·subst qg
            rw[if_pos rfl,if_pos mY]at hu;cases hu
           ·rw[if_neg qg]at hu
            rcases hR.ay.own id _ e9 j n' nH y hu hy with h | ⟨q,cap,c2,e',q1,q2,q3,q4,q5,q6⟩
            ·exact .inl h
            ·have IH:q≠B:=fun e=>by
              have oK:q<w.heap.size:=by
               rcases Nat.lt_or_ge q w.heap.size with h|h
               ·exact h
               ·simp[Array.getElem?_eq_none h]at q4
              rw[e]at q2 oK;rw[xd oK]at q2;cases q2;exact qg rfl
             exact .inr ⟨q,cap,c2,e',q1,(tt.ow q IH).trans q2,q3,q4,q5,q6⟩
         ·rw[if_neg kr]at fh
          refine .inl ⟨fh,fun hB=>⟨fun e=>(by rw[xd hB]at e;cases e),fun j e=>?_⟩⟩
          rw[xd hB]at e;injection e with e _;exact Y2 k o fh An (fun h=>kr h.symm) e.symm)
      refine b0.value (x:=z) (w':=w) (g':=g') hex (r1.put hd (.plain (On yD) (fun f n' nH e k hk=>?_)));cases e;have hk:look bT ((bT,es.length)::S.a7)=some k:=hk;rw[dF,if_pos rfl]at hk;cases hk;refine⟨Nat.le_refl _,fun _=>?_⟩;rcases sw with⟨e1,e2⟩ | ⟨q,cap,c2,e',q1,q2,q3,q4,q5,q6⟩
      ·exact .inl ⟨e1,e2⟩
      ·refine .inr ⟨q,0,cap,c2,e',?_,q1,by show g.m q=_;omega,q4,by omega,rfl,q6⟩
       show cQ g.τ bT τ' bT=_;rw[dC];simp only[τ',q1];exact B9 q6
     ·rename_i u _ im
      cases uN;obtain⟨z,hex,hr,hz⟩:=Am _ im;exact b0.put hR hd hex (NU hr)
     ·cases uN
    ·cases uN
   ·cases uN
  ·cases ah
 ·cases ah
theorem Y5{o:Oper}{t:TypeId}{bT:Nat}{p q:Operand}{x y:bj}{C:bm}(ho:o.op=.store t p q)(tH:o.dst=none)(hs:eN P t=some 1)(hp:bJ p x=true)(hq:bJ q y=true)
  (hR:R E g S a w) (ah:VO.run C o.dst S (.rW bT x y)=some S'):b0 P E o S S' a w:=by
 simp only[VO.run]at ah;split at ah
 ·rename_i pv v IE hv
  have Cb:=cL hR hp IE;have yD:=cL hR hq hv;split at ah
  ·rename_i ts G xe
   cases ah;unfold St.uD at xe;split at xe
   ·rename_i id off f n es
    split at xe
    ·rename_i cs k e9 hk
     have pk:f=bT∧look f S.a7=some k:=by
      cases uP:f==bT with
      |false=>rw[uP]at hk;cases hk
      |true =>
       have:=eq_of_beq uP;subst this;rw[uP]at hk;exact⟨rfl,hk⟩
     obtain⟨e,mZ⟩:=pk;subst e
     clear hk
     have hk:=mZ;cases hc:(k==es.length&&Nat.blt off cs.length) with
     |false=>simp[hc]at xe
     |true =>
      simp only[hc,cond_true,Option.some.injEq,Prod.mk.injEq]at xe;obtain⟨rfl,rfl⟩:=xe;simp only[Bool.and_eq_true,beq_iff_eq]at hc;obtain⟨rfl,br⟩:=hc;have mY:off<cs.length:=by simp[Nat.blt]at br;omega
      obtain⟨ep,l7⟩:=w5 Cb;obtain⟨cn,hm,c,e,hh,c9,hj⟩:=(hR.ay.obj id _ e9).resolve_left (fun e=>by cases e;simp at mY)
      generalize Y6:a.eval q=yv at yD;obtain⟨Cc,II⟩:eS w.heap g.m (.slice (some f) n es) yv∧vv (S.cx g w) f n es.length yv:=by
       cases yD with
       |plain h ht=>exact⟨h,(ht f n es rfl _ hk).2 rfl⟩
      have Y7:eS w.heap g.m (.slice none n es) yv:=On Cc;have uQ:yv.cells = #[yv]:=Cc.cells
      let c':Array Value:=(c.toList.take off++yv.cells.toList++c.toList.drop (off+yv.cells.toList.length)).toArray
      have kZ:yv.cells.toList.length=1:=by rw[uQ];rfl
      have fy:off+yv.cells.toList.length≤c.size:=by omega
      have ah:=Iz (P:=P) (w:=w) (t:=t) (n:=1) hs (v:=yv) (by rw[uQ];rfl) hh (o:=off) (by omega) (fun y hy=>by rw[uQ]at hy;simp at hy;subst hy;exact Cc.yr)
      rw[←kZ]at ah;have kN:(w.setRow (g.γ id) c').heap[g.γ id]?=some (.cells c' e (0,0)):=setRow_heap w _ c c' e _ hh;have oe:∀j,c'[j]?=if j=off then some yv else c[j]?:=fun j=>by
       rw[show c'[j]?=_ from Ag fy j,kZ,uQ];by_cases h:j=off
       ·subst h;simp
       ·rw[if_neg (by omega),if_neg h]
      have vG:=hR.EY cn
      let B:Nat:=(xb yv).getD w.heap.size
      have hB:(es.length=0∧kj yv∧B=w.heap.size)∨∃cap c2 e2,yv=.slice (some ⟨B,0,none⟩) es.length cap∧g.τ f=some B∧g.m B=es.length*n∧w.heap[B]?=some (.cells c2 e2 (0,0))∧cap*n≤c2.size∧0<es.length ∧
        g.ow B=.tok f∧(E.w0.heap.size≤B∨E.own B)∧B<w.heap.size:=by
       rcases II with⟨h1,h2⟩ | ⟨b,o2,cap,c2,e2,h1,h2,h3,h4,h5,h6,h7⟩
       ·exact .inl ⟨h1,h2,by simp only[B,IC h2];rfl⟩
       ·subst h6
        have IG:B=b:=by simp only[B,h2];rw[B9 h7];rfl
        obtain⟨q1,q2,q3⟩:=hR.a7 f _ b hk h1;rw[IG];exact .inr ⟨cap,c2,e2,h2,h1,by have h3:g.m b=0+es.length*n:=h3;omega,h4,by omega,h7,q1,q2,q3⟩
      have yE:B<w.heap.size→g.ow B=.tok f:=fun h=>by
       rcases hB with⟨_,_,e⟩ | ⟨_,_,_,_,_,_,_,_,_,h8,_⟩
       ·omega
       ·exact h8
      have Ou:∀k o,S.ay[k]?=some o→o≠.cells []→g.γ k≠B:=fun k o mZ An e=>by
       have h1:=((hR.ay.obj k o mZ).resolve_left An).1;have h2:=yE (e ▸ Al hR mZ An);rw[←e,h1]at h2;cases h2
      let g1:Gh:={ g with τ:=cQ g.τ f none,ow:=cQ g.ow B (.cell (g.γ id) off) }
      have t1:Touch E g S w g1 ((f,es.length+1)::S.a7) S.ay.length w B none (some f) :=
       {os:=rfl,tape:=rfl,output:=rfl,size:=Nat.le_refl _,heap:=fun _ _ _=>rfl,m:=fun _ _=>rfl,ow:=fun b hb=>gd _ _ hb,κ:=fun _ _=>rfl,cp:=fun _ _=>rfl,
        τ:=fun i hi=>gd _ _ (fun e=>hi (by rw[e])),T:=fun i hi=>by rw[dF,if_neg (fun e=>hi (by rw[e]))],γ:=fun _ _=>rfl,eG:=Nat.le_refl _,
        γnew:=fun i a b=>absurd a (by omega)
        fresh:=by
         rcases hB with⟨_,_,e⟩ | ⟨_,_,_,_,_,_,_,_,_,_,h9,_⟩
         ·exact .inl (by rw[e];exact hR.same.size)
         ·exact h9.imp (fun z=>z) .inr
        gN:=fun p q br _=>by
         rcases hB with⟨_,_,e⟩ | ⟨_,_,_,_,_,_,_,_,_,_,h9,_⟩
         ·have:=hR.same.size;omega
         ·exact h9.resolve_left (by omega)
        lv:=fun i e=>by
         have e:cQ g.ow B (.cell (g.γ id) off) B=.ay i:=e;rw[dC]at e;cases e
        jQ:=fun _ _ _ h=>h,nZ:=fun _=>Nat.le_refl _ }
      have k1:∀i,il (S.cx g w) ⟨w.heap,g1,S.ay.length,(f,es.length+1)::S.a7⟩ i:=fun i=>by
       by_cases hi:f=i
       ·subst hi
        refine⟨rfl,rfl,fun k' jq=>⟨es.length,hk,?_,fun e=>?_⟩⟩
        ·simp only[dF,if_true,Option.some.injEq]at jq;omega
        ·simp only[dF,if_true,Option.some.injEq]at jq;omega
       ·exact t1.keeps hR (fun e=>by cases e) (fun e=>hi (by cases e;rfl)) (fun hb e=>hi (by rw[yE hb]at e;cases e;rfl))
      have r1:R E g1 { S with a7:=(f,es.length+1)::S.a7 } a w:=R.mU (S':={ S with a7:=(f,es.length+1)::S.a7 }) t1 hR rfl rfl (fun i=>.inl (k1 i)) (fun s v hs=>.inl hs)
       (fun i dR ho=>.inl ⟨ho,(fun e=>by cases e),fun hb e=>by rw[yE hb]at e;cases e⟩) (fun f' k' b hf hb=>by
        by_cases uP:f=f'
        ·subst uP
         have hb:cQ g.τ f none f=some b:=hb;rw[dC]at hb;cases hb
        ·exact .inl ⟨fun e=>uP (by cases e;rfl),fun hb e=>by rw[yE hb]at e;cases e;exact uP rfl⟩) (fun i o hi=>.inl ⟨hi,fun hb=>⟨fun e=>(by rw[yE hb]at e;cases e),fun _ e=>(by rw[yE hb]at e;cases e)⟩⟩)
      have yF:g1.ow (g.γ id)=.ay id:=(gd _ _ (Ou id _ e9 (fun e=>by cases e;simp at mY))).trans cn
      have t2:=B7 (g:=g1) (c':=c') (S:={ S with a7:=(f,es.length+1)::S.a7 }) (w:=w) (b:=g.γ id) hm vG (fun _ _ e=>by rw[yF]at e;cases e) r1
      have k2:∀i,il (({ S with a7:=(f,es.length+1)::S.a7 }:St).cx g1 w) ⟨(w.setRow (g.γ id) c').heap,g1,S.ay.length,(f,es.length+1)::S.a7⟩ i:=fun i=>t2.keeps r1 (fun e=>by cases e) (fun e=>by cases e) (fun _ e=>by rw[yF]at e;cases e)
      have oc:Le ⟨w.heap,g,S.ay.length,[]⟩ ⟨(w.setRow (g.γ id) c').heap,g1,S.ay.length,[]⟩:=⟨t2.le.size,t2.le.cells,t2.le.m,t2.le.eG,t2.le.γ⟩;refine b0.skip (g':=g1) (w':=w.setRow (g.γ id) c') ?_ tH (R.mU (S':={ S with a7:=(f,es.length+1)::S.a7,ay:=S.ay.set id (.cells (cs.set off (.eY n es))) }) t2 r1 rfl (by simp) (fun i=>.inl (k2 i)) (fun s v hs=>.inl hs)
       (fun i dR hi=>.inl ⟨hi,(fun e=>by cases e),fun _ e=>by rw[yF]at e;cases e⟩)
       (fun f k b hf hb=>.inl ⟨(fun e=>by cases e),fun _ e=>by rw[yF]at e;cases e⟩) (fun k o fh=>?_))
      ·have yt:(storeVar t ⟨(S.cx g w).g.γ id,off,none⟩ yv).run P w=.ok () (w.setRow (g.γ id) c'):=ah
       simp only[execOp,ho,ep,Y6];simp[Instr.storeAt,Instr.sureAddr,yt]
      ·simp only[List.getElem?_set]at fh
       by_cases kr:id=k
       ·subst kr
        simp[show id<S.ay.length from eC e9]at fh;subst fh;refine .inr ⟨yF,⟨hm,c',e,kN,by rw[List.length_set];exact Nat.le_trans c9 (Nat.le_of_eq (B6 fy).symm),fun j u z hu hz=>?_⟩,fun j n' nH z hu hz=>?_⟩
        ·rw[oe]at hz
         rw[List.getElem?_set]at hu;by_cases qg:off=j
         ·subst qg
          rw[if_pos rfl,if_pos mY]at hu;rw[if_pos rfl]at hz;cases hu;cases hz;exact⟨rfl,fun _=>rfl,.eY (Y7.mono oc)⟩
         ·rw[if_neg qg]at hu
          rw[if_neg (fun e=>qg e.symm)]at hz;obtain⟨q1,q2,q3⟩:=hj j u z hu hz;exact⟨q1,q2,q3.mono oc (fun d=>.inr (q2 d))⟩
        ·have hz:cellAt (w.setRow (g.γ id) c').heap (g.γ id) j=some z:=hz
         rw[kM kN,oe]at hz;rw[List.getElem?_set]at hu;by_cases qg:off=j
         ·subst qg
          rw[if_pos rfl,if_pos mY]at hu;rw[if_pos rfl]at hz;cases hu;cases hz;rcases hB with⟨h1,h2,_⟩ | ⟨cap,c2,e2,h1,h2,h3,h4,h5,h6,_⟩
          ·exact .inl ⟨h1,h2⟩
          ·exact .inr ⟨B,cap,c2,e2,h1,dC _ _ _,h3,(EX w _ B c' (fun e=>Ou id _ e9 (fun e=>by cases e;simp at mY) e.symm)).trans h4,h5,h6⟩
         ·rw[if_neg qg]at hu
          rw[if_neg (fun e=>qg e.symm)]at hz;rcases hR.ay.own id _ e9 j n' nH z hu (by rw[kM hh];exact hz) with h | ⟨q,cap,c2,e',q1,q2,q3,q4,q5,q6⟩
          ·exact .inl h
          ·have oK:q<w.heap.size:=by
            rcases Nat.lt_or_ge q w.heap.size with h|h
            ·exact h
            ·simp[Array.getElem?_eq_none h]at q4
           have IH:q≠B:=fun e=>by rw[e]at q2 oK;rw[yE oK]at q2;cases q2
           have ch:q≠g.γ id:=fun e=>by rw[e,cn]at q2;cases q2
           exact .inr ⟨q,cap,c2,e',q1,(gd _ _ IH).trans q2,q3,(EX w _ q c' ch).trans q4,q5,q6⟩
       ·rw[if_neg kr]at fh
        exact .inl ⟨fh,fun _=>⟨fun e=>kr (by rw[yF]at e;cases e;rfl),fun _ e=>(by rw[yF]at e;cases e)⟩⟩
    ·cases xe
   ·cases xe
  ·cases ah
 ·cases ah
theorem Cd{o:Oper}{t e:TypeId}{sz:Nat}{p:Operand}{lo hi:Option Operand}{yG py:Option bj}(ho:o.op=.slice t p lo hi none)(ht:P.underlying t=some (.slice e))(hs:eN P e=some sz)
  (mY:match lo,yG with|none,none=>True|some y,some z=>bJ y z=true|_,_=>False) (uR:match hi,py with|none,none=>True|some y,some z=>bJ y z=true|_,_=>False)
  (hR:R E g S a w) {base:Option Addr} {n cap:Nat} (e1:a.eval p=.slice base n cap) (eu:n≤cap) {k1 k2:IntKind} {l h:Int} (hl:S.kg yG 0=some (.int k1 l)) (hh:S.kg py n=some (.int k2 h))
  (h0:0≤l) (h1:l≤h) (h2:h≤(n:Int)):(execOp a.eval o).run P w=.ok (.value (.slice (if cap=l.toNat then base else base.map (·.add (l.toNat*sz))) (h.toNat-l.toNat) (cap-l.toNat))) w:=by
 have xf:(match lo.map a.eval with|some v=>Instr.sliceBound v h.toNat .sliceB|none=>pure 0).run P w=.ok l.toNat w:=by
  cases lo with
  |none =>
   cases yG with
   |none=>simp[St.kg]at hl;obtain⟨_,rfl⟩:=hl;simp
   |some z=>exact mY.elim
  |some y =>
   cases yG with
   |none=>exact mY.elim
   |some z =>
    have:=kX (cL hR mY hl);simp only[Option.map_some,this];exact run_sliceBound w k1 l h.toNat .sliceB h0 (by omega)
 have yH:(match hi.map a.eval with|some v=>Instr.sliceBound v cap .sliceAcap|none=>pure n).run P w=.ok h.toNat w:=by
  cases hi with
  |none =>
   cases py with
   |none=>simp[St.kg]at hh;obtain⟨_,rfl⟩:=hh;simp
   |some z=>exact uR.elim
  |some y =>
   cases py with
   |none=>exact uR.elim
   |some z =>
    have:=kX (cL hR uR hh);simp only[Option.map_some,this];exact run_sliceBound w k2 h cap .sliceAcap (by omega) (by omega)
 have Y8:(Instr.sliceBounds true n cap (lo.map a.eval) (hi.map a.eval) none).run P w=.ok (l.toNat,h.toNat,cap) w:=by
  unfold Instr.sliceBounds;cases hi with
  |none =>
   simp only[Option.map_none]at yH;simp only[Sem.run_pure,Result.ok.injEq,and_true]at yH;cases lo with
   |none =>
    simp only[Option.map_none,Sem.run_pure,Result.ok.injEq,and_true]at xf;simp[←yH,← xf]
   |some y =>
    simp only[Option.map_some]at xf;simp[yH,xf]
  |some z =>
   simp only[Option.map_some]at yH;cases lo with
   |none =>
    simp only[Option.map_none,Sem.run_pure,Result.ok.injEq,and_true]at xf;simp[yH,← xf]
   |some y =>
    simp only[Option.map_some]at xf;simp[yH,xf]
 simp only[execOp,ho,e1,Instr.sliceAt,Instr.slice];simp[iE ht,Y8,nF hs]
theorem Y9{o:Oper}{t e:TypeId}{sz:Nat}{p:Operand}{lo hi:Option Operand}{x:bj}{yG py:Option bj}{C:bm}(ho:o.op=.slice t p lo hi none)(ht:P.underlying t=some (.slice e))(hs:eN P e=some sz)
  (hp:bJ p x=true) (mY:match lo,yG with|none,none=>True|some y,some z=>bJ y z=true|_,_=>False) (uR:match hi,py with|none,none=>True|some y,some z=>bJ y z=true|_,_=>False)
  (hR:R E g S a w) (hd:∀d,o.dst=some d→d<E.nt) (ah:VO.run C o.dst S (.tv sz x yG py)=some S'):b0 P E o S S' a w:=by
 simp only[VO.run]at ah;split at ah
 ·rename_i tk m es hx
  split at ah
  ·rename_i k1 l k2 h hl hh
   cases hc:(decide (0≤l)&&decide (l≤h)&&decide (h≤(es.length:Int))&&(m==sz)) with
   |false=>simp[hc]at ah
   |true =>
    simp only[hc,cond_true]at ah;cases ah;simp only[Bool.and_eq_true,decide_eq_true_eq,beq_iff_eq]at hc;obtain⟨⟨⟨h0,h1⟩,h2⟩,rfl⟩:=hc;have hr:=cL hR hp hx;obtain⟨base,cap,e1,eu⟩:∃base cap,a.eval p=.slice base es.length cap∧es.length≤cap:=by
     generalize a.eval p=y at hr;cases hr with
     |plain h _=>cases h with
      |nil=>exact⟨none,0,rfl,by simp⟩
      |empty _ _ a cap=>exact⟨some a,cap,rfl,by simp⟩
      |slice _ _ _ b off cap ys hb eu=>exact⟨_,cap,rfl,eu⟩
    have fW:=Cd (w:=w) ho ht hs mY uR hR e1 eu hl hh h0 h1 h2;have hlen:((es.take h.toNat).drop l.toNat).length=h.toNat-l.toNat:=by simp;omega
    refine b0.put hR hd fW ?_
    clear fW
    generalize a.eval p=y at hr e1;subst e1;refine .plain ?_ (fun _ _ _ e=>by cases e)
    cases hr with
    |plain hv _ =>
     cases hv with
     |nil =>
      have qh:l.toNat=0:=by simp at h2;omega
      have xg:h.toNat=0:=by simp at h2;omega
      simp[qh,xg];exact .nil _ _
     |empty _ _ a' nI =>
      have qh:l.toNat=0:=by simp at h2;omega
      have xg:h.toNat=0:=by simp at h2;omega
      simp only[qh,xg,Nat.sub_zero,List.take_zero,List.drop_zero];split
      ·exact .empty _ _ _ _
      ·exact .empty _ _ _ _
     |slice _ _ _ b off _ ys hb Ce ia hc hv hp hm =>
      rw[←hlen];by_cases c9:cap=l.toNat
      ·rw[if_pos c9]
       have h3:(es.take h.toNat).drop l.toNat=[]:=List.length_eq_zero_iff.1 (by rw[hlen];omega)
       rw[h3];exact .slice none m [] b off _ ys hb (by simp) (by simp) (by simp) (by simp) (by simp) (by simp;omega)
      ·rw[if_neg c9]
       simp only[Option.map_some,km];have oe:∀(i:Nat) (row:List V),((es.take h.toNat).drop l.toNat)[i]?=some row→es[l.toNat+i]?=some row:=fun i row hi=>by
        rw[List.getElem?_drop,List.getElem?_take]at hi;split at hi
        ·exact hi
        ·cases hi
       refine .slice none m _ b (off+l.toNat*m) _ (fun i j=>ys (l.toNat+i) j) hb (by rw[hlen];omega) (fun i row hi=>ia _ row (oe i row hi)) (fun i row j v hi hj=>?_) (fun i row j v hi hj=>hv _ row j v (oe i row hi) hj)
        (fun i row j v hi hj=>hp _ row j v (oe i row hi) hj) ?_
       ·rw[←hc _ row j v (oe i row hi) hj]
        congr 1;rw[Nat.add_mul];omega
       ·have:(l.toNat+(h.toNat-l.toNat))*m≤es.length*m:=Nat.mul_le_mul_right m (by omega)
        rw[Nat.add_mul]at this;rw[hlen];omega
  ·cases ah
 ·rename_i hx
  split at ah
  ·rename_i k1 l k2 h hl hh
   cases hc:(decide (l=0)&&decide (h=0)) with
   |false=>simp[hc]at ah
   |true =>
    simp only[hc,cond_true]at ah;cases ah;simp only[Bool.and_eq_true,decide_eq_true_eq]at hc;obtain⟨rfl,rfl⟩:=hc;have e1:=nE (cL hR hp hx);have fW:=Cd (w:=w) (n:=0) ho ht hs mY uR hR e1 (Nat.le_refl _) hl hh (Int.le_refl _) (Int.le_refl _) (Int.le_refl _);exact b0.put hR hd fW (.plain .bW (fun _ _ _ e=>by cases e))
  ·cases ah
 ·rename_i id s n hx
  split at ah
  ·rename_i k1 l k2 h hl hh
   cases hc:(decide (0≤l)&&decide (l≤h)&&decide (h≤(n:Int))&&(s==sz)) with
   |false=>simp[hc]at ah
   |true =>
    simp only[hc,cond_true]at ah;simp only[Bool.and_eq_true,decide_eq_true_eq,beq_iff_eq]at hc;obtain⟨⟨⟨h0,h1⟩,h2⟩,rfl⟩:=hc;rcases pg (cL hR hp hx) with⟨cap,eu,eT,e1⟩ | ⟨rfl,hz,eT⟩
    ·have fW:=Cd (w:=w) ho ht hs mY uR hR e1 eu hl hh h0 h1 h2
     by_cases qh:l=0
     ·subst qh
      simp only[decide_true,cond_true,Option.some.injEq]at ah;subst ah;refine b0.put hR hd fW ?_;simp only[Int.toNat_zero,Nat.zero_mul,Nat.sub_zero,Option.map_some,km,Nat.add_zero,ite_self];exact .bO _ _ _ _ (by omega) eT
     ·have EZ:decide (l=0)=false:=decide_eq_false qh
      by_cases Ov:l<(n:Int)
      ·simp only[EZ,decide_eq_true Ov,cond_true,cond_false,Option.some.injEq]at ah
       subst ah;refine b0.put hR hd fW ?_;rw[if_neg (by omega)]
       simp only[Option.map_some,km,Nat.zero_add];rw[show h.toNat-l.toNat=(h-l).toNat from by omega]
       exact .fH _ _ _ _ _ (by omega)
      ·simp[EZ,decide_eq_false Ov]at ah
    ·have qh:l=0:=by omega
     have xg:h=0:=by omega
     subst qh;subst xg;simp only[decide_true,cond_true,Option.some.injEq]at ah;subst ah;rcases hz with e1 | ⟨b,e1⟩
     ·have fW:=Cd (w:=w) (n:=0) ho ht hs mY uR hR e1 (Nat.le_refl _) hl hh h0 h1 h2
      exact b0.put hR hd fW (.qb _ _ (.inl rfl) eT)
     ·have fW:=Cd (w:=w) (n:=0) ho ht hs mY uR hR e1 (Nat.le_refl _) hl hh h0 h1 h2
      exact b0.put hR hd fW (.qb _ _ (.inr ⟨b,rfl⟩) eT)
  ·cases ah
 ·cases ah
end
end Go.Vm

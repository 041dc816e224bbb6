/- The value machine, 8: literals, stores, make, blocks that calls share. -/
import Derived.Great.BuildSlice
import Derived.IntWalk
import Derived.Laws.Slices
import Derived.Test.YtmpikpodpgnjhaaGreatVm7
import Derived.WalkSpells
import Derived.Lib.SliceRun
namespace Go.Vm
set_option linter.all false
section
variable {P:Program} {E:Entry} {g g':Gh} {S S':St} {a:Act} {w w':World} {T':List (Nat×Nat)} {N' B:Nat}
theorem Iy(off k:Nat):∀(vs:List Value) (i:Nat) (cs:Array Value),((vs.zipIdx i).foldl (fun cs (p:Value×Nat)=>cs.setIfInBounds (off+p.2) p.1) cs)[k]? =
  if off+i≤k∧k<off+i+vs.length∧k<cs.size then vs[k-(off+i)]? else cs[k]?
 |[],i,cs=>by simp;omega
 |v::vs,i,cs=>by
  rw[List.zipIdx_cons,List.foldl_cons,Iy off k vs (i+1)];simp only[Array.size_setIfInBounds,List.length_cons,Array.getElem?_setIfInBounds];by_cases h:off+(i+1)≤k∧k<off+(i+1)+vs.length∧k<cs.size
  ·rw[if_pos h,if_pos (by omega),show k-(off+i)=(k-(off+(i+1)))+1 from by omega,List.getElem?_cons_succ]
  ·rw[if_neg h]
   by_cases he:off+i=k
   ·subst he
    by_cases bG:off+i<cs.size
    ·simp[bG]
    ·simp[bG]
   ·rw[if_neg he,if_neg (by omega)]
theorem Af(k:Nat):∀(vs:List V) (off:Nat) (cs:List V),(iZ cs off vs)[k]?=if off≤k∧k<off+vs.length∧k<cs.length then vs[k-off]? else cs[k]?
 |[],off,cs=>by simp[iZ];omega
 |v::vs,off,cs=>by
  rw[iZ,Af k vs (off+1)];simp only[List.length_set,List.length_cons,List.getElem?_set];by_cases h:off+1≤k∧k<off+1+vs.length∧k<cs.length
  ·rw[if_pos h,if_pos (by omega),show k-off=(k-(off+1))+1 from by omega,List.getElem?_cons_succ]
  ·rw[if_neg h]
   by_cases he:off=k
   ·subst he
    by_cases bG:off<cs.length
    ·simp[bG]
    ·simp[bG]
   ·rw[if_neg he,if_neg (by omega)]
theorem Iz:∀(vs:List V) (off:Nat) (cs:List V),(iZ cs off vs).length=cs.length
 |[],off,cs=>rfl
 |v::vs,off,cs=>by rw[iZ,Iz vs];simp
theorem IA(off:Nat):∀(vs:List Value) (i:Nat) (cs:Array Value),((vs.zipIdx i).foldl (fun cs (p:Value×Nat)=>cs.setIfInBounds (off+p.2) p.1) cs).size=cs.size
 |[],i,cs=>rfl
 |v::vs,i,cs=>by rw[List.zipIdx_cons,List.foldl_cons,IA off vs];simp
theorem Oi(off:Nat)(vs cs:Array Value):vs.zipIdx.foldl (fun(cs:Array Value) (x:Value×Nat)=>match x with|(c,j)=>cs.setIfInBounds (off+j) c) cs =
  (vs.toList.zipIdx 0).foldl (fun cs (p:Value×Nat)=>cs.setIfInBounds (off+p.2) p.1) cs:=by
 rw[←Array.foldl_toList,Array.toList_zipIdx]
def xS(place:Nat→Option (Nat×Nat)):List (Nat×Operand)→List (Nat×Nat×bB)→Bool
 |[],[]=>true
 |(i,y)::ps,(off,n,x)::qs=>place i==some (off,n)&&bX y x&&xS place ps qs
 |_,_=>false
theorem Oj(hR:R E g S a w){place:Nat→Option (Nat×Nat)}:∀{ps:List (Nat×Operand)} {qs:List (Nat×Nat×bB)},xS place ps qs=true→∀{cs ek:List V} {xs:Array Value},pI S qs cs=some ek →
  PW (S.cx g w) cs xs.toList→∃vX,Instr.fill place xs (ps.map fun(i,x)=>(i,a.eval x))=some vX∧PW (S.cx g w) ek vX.toList
 |[],[],_,cs,ek,xs,h,hp=>by simp only[pI,Option.some.injEq]at h;subst h;exact⟨xs,rfl,hp⟩
 |[],_::_,h,_,_,_,_,_=>by simp[xS]at h
 |_::_,[],h,_,_,_,_,_=>by simp[xS]at h
 |(i,y)::ps,(off,n,x)::qs,h,cs,ek,xs,hf,hp=>by
  simp only[xS,Bool.and_eq_true,beq_iff_eq]at h;obtain⟨⟨mn,ho⟩,bz⟩:=h;simp only[pI]at hf;split at hf
  ·rename_i v hv
   cases hc:(v.cells.length==n&&Nat.ble (off+n) cs.length&&v.cells.all V.cM) with
   |false=>simp[hc]at hf
   |true =>
    simp only[hc,cond_true]at hf;simp only[Bool.and_eq_true,beq_iff_eq,List.all_eq_true]at hc;obtain⟨⟨hlen,hle⟩,iQ⟩:=hc;have hle:=Nat.le_of_ble_eq_true hle;obtain⟨hl,hx⟩:=Ab (cZ hR ho hv) iQ;have eH:(a.eval y).cells.size=n:=by simpa [hlen] using hl.symm
    have xT:=hp.len;simp only[Array.length_toList]at xT;obtain⟨vX,h1,h2⟩:=Oj hR (ps:=ps) (xs:=((a.eval y).cells.toList.zipIdx 0).foldl (fun cs (p:Value×Nat)=>cs.setIfInBounds (off+p.2) p.1) xs) bz hf (by
     refine⟨by rw[Iz,xT];exact(IA off _ _ _).symm,fun j u z hu hz=>?_⟩
     rw[Af]at hu;rw[Array.getElem?_toList,Iy]at hz;simp only[Nat.add_zero,Array.length_toList,eH,hlen,xT]at hu hz;split at hu
     ·rename_i lW
      rw[if_pos lW]at hz;exact hx _ u z hu hz
     ·rename_i lW
      rw[if_neg lW]at hz;exact hp.at_ j u z hu (by simpa using hz))
    refine⟨vX,?_,h2⟩;simp only[List.map_cons,Instr.fill,mn,eH,Bool.false_or,ne_eq,not_true_eq_false,decide_false];rw[Oi];rw[if_neg (by simp;omega)]
    exact h1
  ·cases hf
def placeOf(P:Program)(t:TypeId):Option (Nat→Option (Nat×Nat)) :=
 match P.underlying t with
 |some (.array _ e)=>(P.info? e).map fun ie i=>some (i*ie.size,ie.size)
 |some (.struct fields)=>(fields.toList.mapM (fun f=>(P.info? f.type).map fun i=>(f.offset,i.size))).map fun Ol i=>Ol.toArray[i]?
 |_=>none
theorem W1{t:TypeId}{it:TypeInfo}{z:Value}{place:Nat→Option (Nat×Nat)}(hi:P.info? t=some it)(hz:it.zero=some z)(hp:placeOf P t=some place)(parts:List (Nat×Value)) :
  P.built t parts=Instr.fill place z.cells parts:=by
 unfold placeOf at hp;unfold Program.built;split at hp
 ·rename_i n e hu
  cases IB:P.info? e with
  |none=>simp[IB]at hp
  |some ie=>simp[IB]at hp;subst hp;simp[hi,hu,hz,IB]
 ·rename_i fields hu
  cases hm:fields.toList.mapM (fun f=>(P.info? f.type).map fun i=>(f.offset,i.size)) with
  |none=>simp[hm]at hp
  |some Ol=>simp[hm]at hp;subst hp;simp[hi,hu,hz,hm]
 ·cases hp
theorem W2{o:Oper}{t:TypeId}{it:TypeInfo}{z:Value}{place:Nat→Option (Nat×Nat)}{ps:Array (Nat×Operand)}{zero:List V}{qs:List (Nat×Nat×bB)}{C:bC}(ho:o.op=.build t ps)
  (hi:P.info? t=some it) (hz:it.zero=some z) (mn:placeOf P t=some place) (hzero:rX z.cells.toList zero=true) (ri:xS place ps.toList qs=true)
  (hR:R E g S a w) (hd:∀d,o.dst=some d→d<E.nt) (aj:VO.run C o.dst S (.build zero qs)=some S'):ct P E o S S' a w:=by
 simp only[VO.run]at aj;split at aj
 ·rename_i cs hf
  cases aj;obtain⟨hl,hx⟩:=Aa (X:=S.cx g w) hzero;obtain⟨xs,h1,h2⟩:=Oj hR ri (xs:=z.cells) hf ⟨hl,fun i v y hv hy=>(hx i v y hv hy).2.2⟩;refine ct.put hR hd (x:=.agg xs) ?_ (.agg cs xs (by simpa using h2.len) (fun i v y hv hy=>h2.at_ i v y hv (by simpa using hy)))
  have hb:=W1 hi hz mn ((ps.map fun(i,x)=>(i,a.eval x)).toList);rw[Array.toList_map,h1]at hb;have:=run_build (P:=P) w t (ps.map fun(i,x)=>(i,a.eval x)) xs (by rw[Array.toList_map];exact hb)
  simp only[execOp,ho];simp only[Sem.run_bind,this,Result.andThen_ok,Sem.run_pure]
 ·cases aj
theorem R.IC(hR:R E g S a w){c:Array Value}{e:TypeId}(hw:w'.heap=w.heap.push (.cells c e (0,0)))(h1:w'.os=w.os)(h2:w'.tape=w.tape)(h3:w'.output=w.output)
  {n:Nat} {ys:List (List V)} {l:List Value} (hl:jm w.heap g.m n ys l) (hc:∀(j:Nat) (y:Value),l[j]?=some y→c[j]?=some y) {cap:Nat} (eP:ys.length≤cap) :
  ∃g',R E g' S a w'∧bj (S.cx g' w') (.slice none n ys) (.slice (some ⟨w.heap.size,0,none⟩) ys.length cap):=by
 let g':Gh:={ g with m:=c7 g.m w.heap.size (ys.length*n),ow:=c7 g.ow w.heap.size .none }
 have t:Touch E g S w g' S.bm S.az.length w' w.heap.size none none:=B4 hR hw h1 h2 h3 (fun b hb=>gP _ _ hb) (fun b hb=>gP _ _ hb)
  (fun i _=>rfl) (fun i _=>rfl) (fun i _=>rfl) (fun i _=>rfl) (fun i _=>rfl) (Nat.le_refl _) (fun i a b=>absurd a (by omega)) (fun i e=>by(have e:c7 g.ow w.heap.size .none w.heap.size=.az i:=e);rw[dP]at e;cases e)
 have lj:=B6 hw;refine⟨g',R.nf t hR rfl rfl (fun i=>.inl (t.keeps hR (fun e=>by cases e) (fun e=>by cases e) (fun h=>absurd h (Nat.lt_irrefl _)))) (fun s v hs=>.inl hs)
  (fun i cs ho=>.inl ⟨ho,(fun e=>by cases e),fun h=>absurd h (Nat.lt_irrefl _)⟩) (fun i k b hi hb=>.inl ⟨(fun e=>by cases e),fun h=>absurd h (Nat.lt_irrefl _)⟩)
  (fun i o ho=>.inl ⟨ho,fun h=>absurd h (Nat.lt_irrefl _)⟩),?_⟩
 have hm:g'.m w.heap.size=ys.length*n:=dP _ _ _;refine .plain (Ad (m:=g'.m) (l:=l) (hl.mono t.le) (by show _<w'.heap.size;rw[hw];simp) eP (fun j y hj=>?_) (by omega) _) (fun i n' nY he k hk=>by cases he)
 show cellAt w'.heap _ _=_;rw[lg lj,Nat.zero_add];exact hc j y hj
def ID:Value→Option Nat→V→Bool
 |.int k n,none,.int k' n'=>decide (k=k')&&n==n'
 |.bool b,none,.bool c=>b==c
 |.string s,none,.str l=>s.data.toList==l
 |.slice none 0 0,some n,.slice none m []=>n==m
 |_,_,_=>false
def r7:List Value→Sh→List V→Bool
 |[],[],[]=>true
 |x::xs,h::sh,v::vs=>ID x h v&&r7 xs sh vs
 |_,_,_=>false
theorem W3{h:Array Obj}{m:Nat→Nat}{x:Value}{s:Option Nat}{v:V}(he:ID x s v=true):v.plain=true∧fp h m v x:=by
 unfold ID at he;split at he
 ·simp at he;obtain⟨rfl,rfl⟩:=he;exact⟨rfl,.int _ _⟩
 ·simp at he;subst he;exact⟨rfl,.bool _⟩
 ·simp at he;subst he;exact⟨rfl,.str _⟩
 ·exact⟨rfl,.nil _ _⟩
 ·cases he
theorem Om{h:Array Obj}{m:Nat→Nat}:∀{xs:List Value} {sh:Sh} {vs:List V},r7 xs sh vs=true→vs.length=sh.length∧xs.length=sh.length ∧
  ∀(i:Nat) (v:V),vs[i]?=some v→∃x,xs[i]?=some x∧v.plain=true∧fp h m v x
 |[],[],[],_=>by simp
 |x::xs,s::sh,v::vs,he=>by
  simp only[r7,Bool.and_eq_true]at he;obtain⟨p,q,r⟩:=Om (h:=h) (m:=m) he.2;refine⟨by simp[p],by simp[q],fun i u hu=>?_⟩
  cases i with
  |zero=>simp at hu;subst hu;exact⟨x,by simp,W3 he.1⟩
  |succ i=>obtain⟨y,hy,z⟩:=r i u (by simpa using hu);exact⟨y,by simpa using hy,z⟩
 |[],[],_::_,he=>by simp[r7]at he
 |[],_::_,_,he=>by simp[r7]at he
 |_::_,[],_,he=>by simp[r7]at he
 |_::_,_::_,[],he=>by simp[r7]at he
theorem On{h:Array Obj}{m:Nat→Nat}{sh:Sh}{zs:List Value}{zero:List V}(hz:r7 zs sh zero=true)(n:Nat) :
  jm h m sh.length (List.replicate n zero) ((List.range (n*sh.length)).map fun k=>zs.getD (k % sh.length) default):=by
 obtain⟨hl,oG,hx⟩:=Om (h:=h) (m:=m) hz;refine⟨by simp,fun i row hr=>?_,fun i row j v hr hj=>?_⟩
 ·rw[List.getElem?_replicate]at hr
  split at hr<;>cases hr;exact hl
 ·rw[List.getElem?_replicate]at hr
  split at hr
  ·rename_i hi
   cases hr;obtain⟨u,hu,p,q⟩:=hx j v hj;have pn:j<zs.length:=eZ hu;have EW:j<sh.length:=by omega
   refine⟨p,u,?_,q⟩;have:=Io hi EW;simp only[List.getElem?_map,List.getElem?_range this,Option.map_some,Option.some.injEq];rw[Nat.add_comm,Nat.add_mul_mod_self_right,Nat.mod_eq_of_lt EW];simp[List.getD,hu]
  ·cases hr
def xU(len:Nat):List (Nat×Operand)→List (Nat×bB)→Bool
 |[],[]=>true
 |(i,y)::ps,(k,x)::qs=>i==k&&bX y x&&xU len ps qs
 |_,_=>false
theorem W4{sh:Sh}{v:V}{r:List V}(h:lP sh v.cells=some r):∀u∈v.cells,u.cM=true:=fun u hu=>by
 have:∀{sh:Sh} {vs us:List V},lP sh vs=some us→∀u∈vs,u.cM=true:=by
  intro sh;induction sh with
  |nil=>intro vs us h u hu;cases vs<;>simp_all[lP]
  |cons s sh ih =>
   intro vs us h u hu;cases vs with
   |nil=>simp at hu
   |cons z zs =>
    simp only[lP]at h;split at h
    ·rename_i p q h1 h2
     rcases List.mem_cons.1 hu with e|e
     ·subst e
      unfold el at h1;split at h1<;>first|rfl|cases h1
     ·exact ih h2 u e
    ·cases h
 exact this h u hu
theorem Oo(hR:R E g S a w){sh:Sh}:∀{ps:List (Nat×Operand)} {qs:List (Nat×bB)} {len:Nat},xU len ps qs=true→∀{rs vb:List (List V)} {xs:Array Value},rT S sh qs rs=some vb →
  jm w.heap g.m sh.length rs xs.toList→∃vX,Instr.fill (fun i=>some (i*sh.length,sh.length)) xs (ps.map fun(i,x)=>(i,a.eval x))=some vX∧jm w.heap g.m sh.length vb vX.toList∧vb.length=rs.length
 |[],[],_,_,rs,vb,xs,h,hp=>by simp only[rT,Option.some.injEq]at h;subst h;exact⟨xs,rfl,hp,rfl⟩
 |[],_::_,_,h,_,_,_,_,_=>by simp[xU]at h
 |_::_,[],_,h,_,_,_,_,_=>by simp[xU]at h
 |(i,y)::ps,(k,x)::qs,len,h,rs,vb,xs,hf,hp=>by
  simp only[xU,Bool.and_eq_true,beq_iff_eq]at h;obtain⟨⟨rfl,ho⟩,bz⟩:=h;simp only[rT]at hf;split at hf
  ·rename_i v hv
   split at hf
   ·rename_i r hr
    cases bG:Nat.blt i rs.length with
    |false=>simp[bG]at hf
    |true =>
     simp only[bG,cond_true]at hf;have bG:i<rs.length:=Nat.le_of_ble_eq_true bG;obtain⟨hl,hx⟩:=Ab (cZ hR ho hv) (W4 hr);obtain⟨e1,e2⟩:=B8 hr;have eH:(a.eval y).cells.size=sh.length:=by simp at hl;omega
     have xT:=hp.len;simp only[Array.length_toList]at xT;have fX:i*sh.length+sh.length≤rs.length*sh.length:=by
      have:=Nat.mul_le_mul_right sh.length bG;rw[Nat.succ_mul]at this;exact this
     obtain⟨vX,h1,h2,h3⟩:=Oo hR (ps:=ps) (xs:=((a.eval y).cells.toList.zipIdx 0).foldl (fun cs (p:Value×Nat)=>cs.setIfInBounds (i*sh.length+p.2) p.1) xs) bz hf (by
      refine⟨?_,fun k row hk=>?_,fun k row j u hk hj=>?_⟩
      ·rw[List.length_set,← xT];exact IA _ _ _ _
      ·rw[List.getElem?_set]at hk
       split at hk
       ·first
        |(cases hk;exact e1)
        |(split at hk
          ·cases hk;exact e1
          ·cases hk)
       ·exact hp.row k row hk
      ·have IE:k<rs.length:=by have:=eZ hk;simpa using this
       rw[List.getElem?_set]at hk;simp only[Array.getElem?_toList,Iy,Nat.add_zero,Array.length_toList,eH,xT];split at hk
       ·rename_i kL
        subst kL;have hk:r=row:=by simpa [bG] using hk
        subst hk;have pn:=eZ hj;rw[e1]at pn;obtain⟨z,s,hz,mL⟩:=ES hr j u hj;have pO:j<(a.eval y).cells.size:=by omega
        obtain⟨p,q⟩:=B7 mL (hx j z (a.eval y).cells[j] hz (by simp[pO]))
        refine⟨p,_,?_,q⟩;rw[if_pos (by omega),Nat.add_sub_cancel_left]
        simp[pO]
       ·rename_i kL
        obtain⟨p,z,hz,q⟩:=hp.cell k row j u hk hj;have pn:=eZ hj;rw[hp.row k row hk]at pn;refine⟨p,z,?_,q⟩;rw[if_neg]
        ·simpa using hz
        ·rintro⟨p1,p2,_⟩
         rcases Nat.lt_or_ge i k with h|h
         ·have:=Nat.mul_le_mul_right sh.length h
          rw[Nat.succ_mul]at this;omega
         ·have h:k<i:=by omega
          have:=Nat.mul_le_mul_right sh.length h;rw[Nat.succ_mul]at this;omega)
     refine⟨vX,?_,h2,by rw[h3];simp⟩
     simp only[List.map_cons,Instr.fill,eH,Bool.false_or,ne_eq,not_true_eq_false,decide_false];rw[Oi];rw[if_neg (by simp;omega)]
     exact h1
   ·cases hf
  ·cases hf
theorem Oq(n m:Nat)(zs:Array Value)(hz:zs.size=m)(hm:0<m):((Array.range (n*m)).map fun i=>zs[i % zs.size]!).toList=(List.range (n*m)).map fun k=>zs.toList.getD (k % m) default:=by
 apply List.ext_getElem?;intro j;by_cases hj:j<n*m
 ·have:=Nat.mod_lt j hm
  have h2:j % m<zs.size:=by omega
  simp[hj,hz,List.getD];rw[getElem!_pos zs (j % m) h2];simp[h2]
 ·simp[hj]
theorem W5{o:Oper}{t e:TypeId}{ie:TypeInfo}{z:Value}{tok:Option Nat}{sh:Sh}{zero:List V}{len:Nat}{ps:Array (Nat×Operand)}{qs:List (Nat×bB)}{C:bC}(ho:o.op=.buildSlice t len ps)
  (ht:P.underlying t=some (.slice e)) (hi:P.info? e=some ie) (hz:ie.zero=some z) (eH:ie.size=sh.length) (nh:z.cells.size=sh.length) (hH:0<sh.length) (hlen:0<len) (W6:len*sh.length≤16777216)
  (tg:r7 z.cells.toList sh zero=true) (ri:xU len ps.toList qs=true) (hn:∀f,tok=some f→S.eR f)
  (hR:R E g S a w) (hd:∀d,o.dst=some d→d<E.nt) (aj:VO.run C o.dst S (.lit tok sh zero len qs)=some S'):ct P E o S S' a w:=by
 simp only[VO.run]at aj;split at aj
 ·rename_i rs hf
  have hzero:jm w.heap g.m sh.length (List.replicate len zero) ((Array.range (len*ie.size)).map fun i=>z.cells[i % z.cells.size]!).toList:=by
   rw[eH,Oq len sh.length z.cells nh hH];exact On tg len
  obtain⟨xs,h1,h2,h3⟩:=Oo hR ri (xs:=(Array.range (len*ie.size)).map fun i=>z.cells[i % z.cells.size]!) hf hzero;have h3:rs.length=len:=by simpa using h3
  have W7:=run_buildSlice (P:=P) w t e len (ps.map fun(i,x)=>(i,a.eval x)) xs ie z ht hi hz (by rw[eH];omega) (by rw[eH];have:=Nat.mul_pos hlen hH;omega) (by rw[Array.toList_map,eH];rw[eH]at h1;exact h1)
  have gI:(execOp a.eval o).run P w=.ok (.value (.slice (some ⟨w.heap.size,0,none⟩) len len)) (w.alloc (.cells xs e)):=by
   simp only[execOp,ho];simp only[Sem.run_bind,W7,Result.andThen_ok,Sem.run_pure]
  have EX:=h2.len;simp only[Array.length_toList,h3]at EX;split at aj
  ·rename_i f
   cases aj;obtain⟨g',r1,r2⟩:=hR.Is (w':=w.alloc (.cells xs e)) (f:=f) rfl rfl rfl rfl (n:=sh.length) (ys:=rs) (l:=xs.toList) (by omega) (.inl (hn f rfl)) h2 (fun j y hj=>by simpa using hj) (cap:=len) (by omega) (by omega)
   rw[h3]at r1 r2;exact .value gI (r1.put hd r2)
  ·cases aj
   obtain⟨g',r1,r2⟩:=hR.IC (w':=w.alloc (.cells xs e)) rfl rfl rfl rfl (n:=sh.length) (ys:=rs) (l:=xs.toList) h2 (fun j y hj=>by simpa using hj) (cap:=len) (by omega)
   rw[h3]at r2;exact .value gI (r1.put hd r2)
 ·cases aj
theorem wrap_small{n:Int}(h0:0≤n)(h1:n≤lim):IntKind.i64.wrap n=n:=by
 unfold lim at h1;exact IntWalk.i64_in _ (by omega)
theorem Ot{t e:TypeId}{ie:TypeInfo}{z:Value}{k:IntKind}{n:Int}(ht:P.underlying t=some (.slice e))(hi:P.info? e=some ie)(hz:ie.zero=some z)(hH:0<ie.size)(qu:ie.bytes≤32768)(h0:0≤n)(h1:n≤lim) :
  (Instr.makeSlice t (.int k n) (.int k n)).run P w=.ok (.slice (some ⟨w.heap.size,0,none⟩) n.toNat n.toNat) (w.alloc (.cells ((Array.range (n.toNat*ie.size)).map fun i=>z.cells[i % z.cells.size]!) e)):=by
 have hb:(ie.bytes:Int)*n≤281474976710656:=by
  unfold lim at h1;have a1:(ie.bytes:Int)≤32768:=by omega
  have:=Int.mul_le_mul a1 h1 h0 (by decide)
  simp at this;omega
 have hw:=wrap_small h0 h1;by_cases hn:n.toNat*ie.size=0
 ·have EY:n.toNat=0:=by
   rcases Nat.mul_eq_zero.1 hn with h|h
   ·exact h
   ·omega
  have:n=0:=by omega
  subst this;simp[Instr.makeSlice,ja ht,asInt,asIntOf,typeInfo,hi,hw,sizeOf,newRow,show Array.range 0 = #[] from rfl]
 ·have h3:¬ (n<0):=by omega
  have h4:¬ (281474976710656<(ie.bytes:Int)*n):=by omega
  simp[Instr.makeSlice,ja ht,asInt,asIntOf,typeInfo,hi,hw,sizeOf,newRow,h3,h4,hn,zeroValue,hz]
theorem Ou(zero:List V):∀(n k:Nat),(List.replicate n zero).flatten[k]?=if k<n*zero.length then zero[k % zero.length]? else none
 |0,k=>by simp
 |n+1,k=>by
  have e:(n+1)*zero.length=n*zero.length+zero.length:=Nat.succ_mul _ _;rw[List.replicate_succ,List.flatten_cons,List.getElem?_append,Ou zero n,e];generalize n*zero.length=q;by_cases h:k<zero.length
  ·rw[if_pos h,if_pos (by omega),Nat.mod_eq_of_lt h]
  ·rw[if_neg h]
   by_cases h2:k<q+zero.length
   ·rw[if_pos h2,if_pos (by omega),Nat.mod_eq_sub_mod (a:=k) (by omega)]
   ·rw[if_neg h2,if_neg (by omega)]
theorem W8{o:Oper}{t e:TypeId}{ie:TypeInfo}{z:Value}{id:Nat}{zero:List V}{p p':Operand}{x:bB}{C:bC}(ho:o.op=.makeSlice t p p')
  (ht:P.underlying t=some (.slice e)) (hi:P.info? e=some ie) (hz:ie.zero=some z) (eH:ie.size=zero.length) (hH:0<ie.size) (qu:ie.bytes≤32768)
  (wM:rX z.cells.toList zero=true) (hp:bX p x=true) (vd:bX p' x=true) (hn:S.eR id)
  (hR:R E g S a w) (hd:∀d,o.dst=some d→d<E.nt) (aj:VO.run C o.dst S (.mf id zero x)=some S'):ct P E o S S' a w:=by
 simp only[VO.run]at aj;split at aj
 ·rename_i k n hx
  cases hc:(decide (0≤n)&&decide (n≤(lim:Int))) with
  |false=>simp[hc]at aj
  |true =>
   simp only[hc,cond_true]at aj;simp only[Bool.and_eq_true,decide_eq_true_eq]at hc;cases aj;have e1:=lA (cZ hR hp hx);have IF:=lA (cZ hR vd hx);obtain⟨hl,hv⟩:=Aa (X:=S.cx g w) wM;have nh:z.cells.size=ie.size:=by rw[eH];simpa using hl.symm
   have hm:=Ot (P:=P) (w:=w) (k:=k) ht hi hz hH qu hc.1 hc.2;obtain⟨g',r1,r2,r3⟩:=hR.newObj (cpn:=n.toNat*zero.length) (hcpn:=by simp[eH]) (w':=w.alloc (.cells ((Array.range (n.toNat*ie.size)).map fun i=>z.cells[i % z.cells.size]!) e)) hn rfl rfl rfl rfl (cs:=(List.replicate n.toNat zero).flatten) (fun j v hj=>by
    rw[Ou]at hj;split at hj
    ·rename_i bG
     have EZ:j % zero.length<z.cells.size:=by rw[nh,eH];exact Nat.mod_lt _ (by omega)
     obtain⟨q1,q2,q3⟩:=hv (j % zero.length) v z.cells[j % zero.length] hj (by simp[EZ])
     refine⟨q1,q2 _,z.cells[j % zero.length],?_,q3⟩;simp[nh,eH,bG];rw[getElem!_pos z.cells (j % zero.length) EZ]
    ·cases hj)
   refine ct.value (x:=.slice (some ⟨w.heap.size,0,none⟩) n.toNat n.toNat) (g':=g') (w':=w.alloc (.cells ((Array.range (n.toNat*ie.size)).map fun i=>z.cells[i % z.cells.size]!) e)) ?_ (r1.put hd ?_)
   ·simp only[execOp,ho,e1,IF]
    simp only[Sem.run_bind,hm,Result.andThen_ok,Sem.run_pure]
   ·rw[←r2];exact .cb id _ _ _ (Nat.le_refl _) r3.symm
 ·cases aj
theorem W9{o:Oper}{t e:TypeId}{ie:TypeInfo}{z:Value}{sh:Sh}{zero:List V}{len:Nat}{p p':Operand}{C:bC}(ho:o.op=.makeSlice t p p')
  (ht:P.underlying t=some (.slice e)) (hi:P.info? e=some ie) (hz:ie.zero=some z) (eH:ie.size=sh.length) (nh:z.cells.size=sh.length) (qu:ie.bytes≤32768) (hH:0<sh.length) (W6:len≤65536)
  (tg:r7 z.cells.toList sh zero=true) (hp:bX p (.c (.int .i64 len))=true) (vd:bX p' (.c (.int .i64 len))=true)
  (hR:R E g S a w) (hd:∀d,o.dst=some d→d<E.nt) (aj:VO.run C o.dst S (.lit none sh zero len [])=some S'):ct P E o S S' a w:=by
 simp only[VO.run,rT]at aj;cases aj;have hzero:jm w.heap g.m sh.length (List.replicate len zero) ((Array.range (len*ie.size)).map fun i=>z.cells[i % z.cells.size]!).toList:=by
  rw[eH,Oq len sh.length z.cells nh hH];exact On tg len
 have e1:=lA (cZ hR hp rfl);have IF:=lA (cZ hR vd rfl);have hm:=Ot (P:=P) (w:=w) (k:=.i64) (n:=(len:Int)) ht hi hz (by omega) qu (by omega) (by unfold lim;omega)
 simp only[Int.toNat_natCast]at hm;obtain⟨g',r1,r2⟩:=hR.IC (w':=w.alloc (.cells ((Array.range (len*ie.size)).map fun i=>z.cells[i % z.cells.size]!) e)) rfl rfl rfl rfl (n:=sh.length) (ys:=List.replicate len zero) (l:=((Array.range (len*ie.size)).map fun i=>z.cells[i % z.cells.size]!).toList) hzero (fun j y hj=>by rw[←Array.getElem?_toList];exact hj) (cap:=len) (by simp)
 rw[List.length_replicate]at r2;refine ct.value (x:=.slice (some ⟨w.heap.size,0,none⟩) len len) (g':=g') (w':=w.alloc (.cells ((Array.range (len*ie.size)).map fun i=>z.cells[i % z.cells.size]!) e)) ?_ (r1.put hd r2);simp only[execOp,ho,e1,IF];simp only[Sem.run_bind,hm,Result.andThen_ok,Sem.run_pure]
theorem IG{t:TypeId}{n:Nat}(hs:fh P t=some n){b o:Nat}{v:Value}(hv:v.cells.size=n){c:Array Value}{e:TypeId}(hb:w.heap[b]?=some (.cells c e (0,0)))(fX:o+n≤c.size)
  (h1:∀y∈v.cells.toList,y.oneCell'=true):(storeVar t ⟨b,o,none⟩ v).run P w=.ok () (w.setRow b (c.toList.take o++v.cells.toList++c.toList.drop (o+n)).toArray):=by
 have j8:=run_storeCells_at P b o e v.cells.toList 0 c w hb (by simp;omega) h1
 simp only[Nat.add_zero,Array.length_toList,hv]at j8;simp[storeVar,nW hs,hv,j8]
theorem Ag{c:Array Value}{l:List Value}{o:Nat}(fX:o+l.length≤c.size)(k:Nat):(c.toList.take o++l++c.toList.drop (o+l.length)).toArray[k]?=if o≤k∧k<o+l.length then l[k-o]? else c[k]?:=by
 simp only[List.getElem?_toArray,List.append_assoc];by_cases h:k<o
 ·rw[List.getElem?_append_left (by simp;omega),if_neg (by omega)]
  simp[h]
 ·rw[List.getElem?_append_right (by simp;omega)]
  have e:(c.toList.take o).length=o:=by simp;omega
  rw[e];by_cases h2:k-o<l.length
  ·rw[List.getElem?_append_left h2,if_pos (by omega)]
  ·rw[List.getElem?_append_right (by omega),if_neg (by omega),List.getElem?_drop]
   simp;congr 1;omega
theorem Ci{c:Array Value}{l:List Value}{o:Nat}(fX:o+l.length≤c.size):(c.toList.take o++l++c.toList.drop (o+l.length)).toArray.size=c.size:=by
 simp;omega
theorem E0(w:World)(b i:Nat)(c:Array Value)(h:i≠b):(w.setRow b c).heap[i]?=w.heap[i]?:=by
 simp only[World.setRow,Array.getElem?_modify];rw[if_neg (by omega)]
theorem Cj{b:Nat}{c':Array Value}(hm:g.m b=0)(vg:E.w0.heap.size≤b∨∃i,i<E.N0∧E.g0.ow b=.az i)(Ck:∀p q,g.ow b≠.cell p q)(hR:R E g S a w) :
  Touch E g S w g S.bm S.az.length (w.setRow b c') b none none where
 os:=rfl
 tape:=rfl
 output:=rfl
 size:=by simp
 heap:=fun i hi _=>E0 w b i c' hi
 m:=fun _ _=>rfl
 ow:=fun _ _=>rfl
 κ:=fun _ _=>rfl
 cp:=fun _ _=>rfl
 τ:=fun _ _=>rfl
 T:=fun _ _=>rfl
 γ:=fun _ _=>rfl
 fb:=Nat.le_refl _
 γnew:=fun i a b=>absurd a (by omega)
 fresh:=vg.imp (fun z=>z) .inl
 ig:=fun p q _ e=>absurd e (Ck p q)
 lv:=fun i e=>hR.z8 e (Nat.le_refl _)
 jk:=fun o y ho _=>absurd ho (by omega)
 oC:=fun _=>Nat.le_refl _
theorem Xa{o:Oper}{t:TypeId}{sh:Sh}{p q:Operand}{x y:bB}{id off:Nat}{cs:List V}{v:V}(ho:o.op=.store t p q)(tj:o.dst=none)(hs:fh P t=some sh.length)(hp:bX p x=true)(hq:bX q y=true)
  (hR:R E g S a w) (hx:S.ev x=some (.bK id off)) (hy:S.ev y=some v) (fE:look id S.bb=some cs) (hl:v.cells.length=sh.length) (hle:off+sh.length≤cs.length) (iQ:∀u∈v.cells,u.cM=true) (hH:0<sh.length) :
  ct P E o S { S with bb:=(id,iZ cs off v.cells)::S.bb } a w:=by
 rcases hR.bb id cs fE with⟨h0,um⟩ | ⟨cJ,gG,hm,c,e,hh,fH,hj⟩
 ·subst h0;simp only[List.length_nil]at hle;omega
 obtain⟨mn,Ah⟩:=Ab (cZ hR hq hy) iQ;have eH:(a.eval q).cells.size=sh.length:=by simp at mn;omega
 have hc:cs.length≤c.size:=by
  rcases Nat.lt_or_ge c.size cs.length with h|h
  ·obtain⟨_,y,hy,_⟩:=hj c.size cs[c.size] (List.getElem?_eq_getElem h)
   simp at hy
  ·exact h
 have h1:∀y∈(a.eval q).cells.toList,y.oneCell'=true:=fun y hy=>by
  obtain⟨k,hk⟩:=List.mem_iff_getElem?.1 hy;have IE:=eZ hk;have pP:k<v.cells.length:=by omega
  exact Il (Ah k v.cells[k] y (List.getElem?_eq_getElem pP) hk) (iQ _ (List.getElem_mem pP))
 have fX:off+(a.eval q).cells.toList.length≤c.size:=by simp;omega
 have aj:=IG (P:=P) (w:=w) hs (v:=a.eval q) eH hh (o:=off) (by omega) h1
 have hlen:(a.eval q).cells.toList.length=sh.length:=by simpa using eH
 rw[←hlen]at aj
 let c':Array Value:=(c.toList.take off++(a.eval q).cells.toList++c.toList.drop (off+(a.eval q).cells.toList.length)).toArray
 have lj:(w.setRow (g.κ id) c').heap[g.κ id]?=some (.cells c' e (0,0)):=setRow_heap w _ c c' e _ hh;have tt:=Cj (c':=c') (S:=S) (w:=w) hm (.inl gG) (fun _ _ e=>by rw[cJ]at e;cases e) hR
 have hk:∀i,iP (S.cx g w) ⟨(w.setRow (g.κ id) c').heap,g,S.az.length,S.bm⟩ i:=fun i=>tt.keeps hR (fun e=>by cases e) (fun e=>by cases e) (fun _ e=>by rw[cJ]at e;cases e)
 refine ct.skip (g':=g) (w':=w.setRow (g.κ id) c') ?_ tj (R.nf tt hR rfl rfl (fun i=>.inl (hk i)) (fun s v hs=>.inl hs) (fun i ek hi=>?_) (fun f k b hf hb=>.inl ⟨(fun e=>by cases e),fun _ e=>by rw[cJ]at e;cases e⟩)
  (fun i o hi=>.inl ⟨hi,fun _=>⟨fun e=>(by rw[cJ]at e;cases e),fun _ e=>(by rw[cJ]at e;cases e)⟩⟩))
 ·simp only[execOp,ho,wG (cZ hR hp hx)]
  have xN:(storeVar t ⟨(S.cx g w).g.κ id,off,none⟩ (a.eval q)).run P w=.ok () (w.setRow (g.κ id) c'):=aj;simp[Instr.storeAt,Instr.sureAddr,xN]
 ·rw[dQ]at hi
  by_cases j9:id=i
  ·subst j9
   rw[if_pos rfl]at hi;cases hi;refine .inr ⟨cJ,gG,hm,c',e,lj,(by rw[Ci (by omega)];exact fH),fun j u hu=>?_⟩
   rw[Af]at hu;show _∧∃y,c'[j]?=some y∧_;rw[show c'[j]?=_ from Ag fX j];split at hu
   ·rename_i lW
    rw[if_pos (by omega)]
    have pQ:=eZ hu;have pn:j-off<(a.eval q).cells.toList.length:=by omega
    exact⟨iQ u (List.mem_of_getElem? hu),_,List.getElem?_eq_getElem pn,(Ah (j-off) u _ hu (List.getElem?_eq_getElem pn)).mono tt.le (fun i=>.inl (hk i))⟩
   ·rename_i lW
    have Ai:=eZ hu;rw[if_neg (by omega)]
    obtain⟨q1,z,q2,q3⟩:=hj j u hu;exact⟨q1,z,q2,q3.mono tt.le (fun i=>.inl (hk i))⟩
  ·rw[if_neg j9]at hi
   exact .inl ⟨hi,(fun e=>by cases e),fun _ e=>j9 (by rw[cJ]at e;cases e;rfl)⟩
theorem Aj{X:Cx}{sh:Option Nat}{v u:V}{y:Value}(h:ox sh v=some u)(hr:bj X v y):u.cM=true∧(∀d,u.cu d=false)∧bj ⟨X.h,X.g,X.N,[]⟩ u y∧v.cM=true:=by
 have tg:∀{v u},el sh v=some u→bj X v y→u.cM=true∧(∀d,u.cu d=false)∧bj ⟨X.h,X.g,X.N,[]⟩ u y∧v.cM=true:=fun {v u} h hr=>by
  obtain⟨p,q⟩:=B7 h hr;refine⟨by cases u<;>simp_all[V.plain,V.cM],fun d=>?_,.plain q (rY p),?_⟩
  ·cases u<;>simp_all[V.plain,V.cu,V.dC,V.cI]
   rename_i tok _ _;cases tok<;>simp_all[V.cI]
  ·unfold el at h
   split at h<;>first|rfl|cases h
 unfold ox at h;split at h
 ·cases h;obtain⟨e,hi⟩:=wH hr;rw[e];exact⟨rfl,fun _=>rfl,.bO _ _ hi,rfl⟩
 ·cases h;cases hr with
  |plain h _=>cases h
  |dB _ _ _ _ h hl=>exact⟨rfl,fun _=>rfl,.dB _ _ _ _ h hl,rfl⟩
  |ta _ _ h hz=>exact⟨rfl,fun _=>rfl,.ta _ _ h hz,rfl⟩
 ·cases h;cases hr with
  |plain h _=>cases h
  |fU=>exact⟨rfl,fun _=>rfl,.fU,rfl⟩
 ·cases h;cases hr with
  |plain h _=>cases h
  |fn _ _ xs hl hx=>exact⟨rfl,fun _=>rfl,.fn _ _ xs hl hx,rfl⟩
 ·cases h;cases hr with
  |plain h _=>cases h
  |fP=>exact⟨rfl,fun _=>rfl,.fP,rfl⟩
 ·cases h;cases hr with
  |plain h _=>cases h
  |map _ hi=>exact⟨rfl,fun _=>rfl,.map _ hi,rfl⟩
 ·cases h;cases hr with
  |plain h _=>cases h
  |fV=>exact⟨rfl,fun _=>rfl,.fV,rfl⟩
 ·exact tg h hr
theorem IH:∀{sh:Sh} {vs us:List V},qY sh vs=some us→us.length=sh.length∧vs.length=sh.length
 |[],[],us,h=>by simp[qY]at h;subst h;simp
 |[],_::_,_,h=>by simp[qY]at h
 |_::_,[],_,h=>by simp[qY]at h
 |s::sh,v::vs,us,h=>by
  simp only[qY]at h;split at h
  ·rename_i u ml h1 h2
   cases h;obtain⟨a,b⟩:=IH h2;simp[a,b]
  ·cases h
theorem II:∀{sh:Sh} {vs us:List V},qY sh vs=some us→∀(j:Nat) (u:V),us[j]?=some u→∃v s,vs[j]?=some v∧ox s v=some u
 |[],[],us,h,j,u,hu=>by simp[qY]at h;subst h;simp at hu
 |[],_::_,_,h,_,_,_=>by simp[qY]at h
 |_::_,[],_,h,_,_,_=>by simp[qY]at h
 |s::sh,v::vs,us,h,j,u,hu=>by
  simp only[qY]at h;split at h
  ·rename_i u' ml h1 h2
   cases h;cases j with
   |zero=>simp at hu;subst hu;exact⟨v,s,by simp,h1⟩
   |succ j=>obtain⟨z,t,p,q⟩:=II h2 j u (by simpa using hu);exact⟨z,t,by simpa using p,q⟩
  ·cases h
theorem Xb{s:Option Nat}{v u:V}(h:ox s v=some u):v.cM=true:=by
 unfold ox at h;split at h
 all_goals first|rfl|skip
 unfold el at h;split at h<;>first|rfl|cases h
theorem Ov{h:Array Obj}{m:Nat→Nat}{t t':Option Nat}{n:Nat}{es:List (List V)}{x:Value}(hr:fp h m (.slice t n es) x):fp h m (.slice t' n es) x:=by
 cases hr with
 |nil=>exact .nil _ _
 |empty _ _ a cap=>exact .empty _ _ a cap
 |slice _ _ _ b off cap ys hb eP iI hc hv hp hm=>exact .slice t' n es b off cap ys hb eP iI hc hv hp hm
def wN:Value→Option Nat
 |.slice (some a) (_+1) _=>some a.block
 |_=>none
theorem Cl{a:Addr}{n c:Nat}(h:0<n):wN (.slice (some a) n c)=some a.block:=by
 cases n with
 |zero=>omega
 |succ n=>rfl
theorem IJ{x:Value}(h:kG x):wN x=none:=by
 rcases h with rfl | ⟨a,rfl⟩<;>rfl
theorem Ak{X:Cx}{sh:Option Nat}{v u:V}{y:Value}(h:xE sh v=some u)(hr:bj X v y) :
  u.cM=true∧(∀d,u.cu d=false)∧bj ⟨X.h,X.g,X.N,[]⟩ u y∧v.cM=true∧∀n es,u=.fC n es→es=[]∧kG y:=by
 have hg:∀{v u},ox sh v=some u→bj X v y→u.cM=true∧(∀d,u.cu d=false)∧bj ⟨X.h,X.g,X.N,[]⟩ u y∧v.cM=true∧∀n es,u=.fC n es→es=[]∧kG y:=fun {v u} h hr=>by
  obtain⟨h1,h2,h3,h4⟩:=Aj h hr;refine⟨h1,h2,h3,h4,fun n es e=>?_⟩;subst e;exfalso;unfold ox at h;split at h
  all_goals first|(cases h;done)|skip
  unfold el at h;split at h
  all_goals first|(cases h;done)|skip
  split at h<;>cases h
 unfold xE at h;split at h
 ·split at h
  ·cases h
   have e:=nV hr;subst e;exact⟨rfl,fun _=>rfl,.fC (.nil _ _),rfl,fun n es e=>by cases e;exact⟨rfl,.inl rfl⟩⟩
  ·exact hg h hr
 ·cases h
  have hz:=rh hr;exact⟨rfl,fun _=>rfl,.fC (by rcases hz with rfl | ⟨a,rfl⟩<;>first|exact .nil _ _|exact .empty _ _ a 0),rfl,fun n es e=>by cases e;exact⟨rfl,hz⟩⟩
 ·exact hg h hr
theorem Cn:∀{sh:Sh} {vs us:List V},lx sh vs=some us→us.length=sh.length∧vs.length=sh.length
 |[],[],us,h=>by simp[lx]at h;subst h;simp
 |[],_::_,_,h=>by simp[lx]at h
 |_::_,[],_,h=>by simp[lx]at h
 |s::sh,v::vs,us,h=>by
  simp only[lx]at h;split at h
  ·rename_i u ml h1 h2
   cases h;obtain⟨a,b⟩:=Cn h2;simp[a,b]
  ·cases h
theorem wO:∀{sh:Sh} {vs us:List V},lx sh vs=some us→∀(j:Nat) (u:V),us[j]?=some u→∃v s,vs[j]?=some v∧xE s v=some u
 |[],[],us,h,j,u,hu=>by simp[lx]at h;subst h;simp at hu
 |[],_::_,_,h,_,_,_=>by simp[lx]at h
 |_::_,[],_,h,_,_,_=>by simp[lx]at h
 |s::sh,v::vs,us,h,j,u,hu=>by
  simp only[lx]at h;split at h
  ·rename_i u' ml h1 h2
   cases h;cases j with
   |zero=>simp at hu;subst hu;exact⟨v,s,by simp,h1⟩
   |succ j=>obtain⟨z,t,p,q⟩:=wO h2 j u (by simpa using hu);exact⟨z,t,by simpa using p,q⟩
  ·cases h
theorem Xc{s:Option Nat}{v u:V}(h:xE s v=some u):v.cM=true:=by
 unfold xE at h;split at h
 ·rfl
 ·rfl
 ·exact Xb h
theorem Ox{sh:Sh}{vs us:List V}(h:lx sh vs=some us):∀v∈vs,v.cM=true:=fun v hv=>by
 obtain⟨j,hj⟩:=List.mem_iff_getElem?.1 hv;obtain⟨e1,e2⟩:=Cn h;have:=eZ hj;obtain⟨z,s,hz,hg⟩:=wO h j us[j] (List.getElem?_eq_getElem (by omega))
 rw[hj]at hz;cases hz;exact Xc hg
theorem IK{h:Array Obj}{g:Gh}{b j n:Nat}{x:Value}(hz:kG x):End h g b j n 0 x:=.inl ⟨rfl,hz⟩
theorem Al(hR:R E g S a w){i:Nat}{o:aW}(ho:S.az[i]?=some o)(cF:o≠.cells []):g.γ i<w.heap.size:=by
 obtain⟨_,h2⟩:=(hR.az.obj i o ho).resolve_left cF;have key:∃ob,w.heap[g.γ i]?=some ob:=by
  cases o with
  |cells cs=>obtain⟨_,c,e,h4,_⟩:=h2;exact⟨_,h4⟩
  |map es=>obtain⟨_,c,e,h4,_⟩:=h2;exact⟨_,h4⟩
 obtain⟨ob,h4⟩:=key;rcases Nat.lt_or_ge (g.γ i) w.heap.size with h|h
 ·exact h
 ·simp[Array.getElem?_eq_none h]at h4
theorem R.ahl(hR:R E g S a w){b i:Nat}(cJ:g.ow b=.az i):E.w0.heap.size≤b∨∃k,k<E.N0∧E.g0.ow b=.az k:=by
 rcases Nat.lt_or_ge b E.w0.heap.size with h|h
 ·obtain⟨h1,h2⟩:=hR.same.lv b i cJ h
  exact .inr ⟨i,h2,h1⟩
 ·exact .inl h
theorem Oy{cs:List V}{k:Nat}{u:V}(h:cs[k]?=some u):aW.cells cs≠.cells []:=fun e=>by cases e;simp at h
theorem Xd{o:Oper}{t:TypeId}{sh:Sh}{p q:Operand}{x y:bB}{i off:Nat}{cs vs:List V}{v:V}(ho:o.op=.store t p q)(tj:o.dst=none)(hs:fh P t=some sh.length)(hp:bX p x=true)(hq:bX q y=true)
  (hR:R E g S a w) (hx:S.ev x=some (.bO i off)) (hy:S.ev y=some v) (fE:S.az[i]?=some (.cells cs)) (hg:lx sh v.cells=some vs) (hle:off+vs.length≤cs.length) (cF:cs≠[]) :
  ct P E o S { S with az:=S.az.set i (.cells (iZ cs off vs)) } a w:=by
 obtain⟨cJ,hm,c,e,hh,dD,hj⟩:=(hR.az.obj i _ fE).resolve_left (fun e=>cF (by cases e;rfl))
 have hi:=eZ fE;obtain⟨e1,e2⟩:=Cn hg;have iQ:=Ox hg;obtain⟨mn,Ah⟩:=Ab (cZ hR hq hy) iQ;have eH:(a.eval q).cells.size=sh.length:=by simp at mn;omega
 have h1:∀y∈(a.eval q).cells.toList,y.oneCell'=true:=fun y hy=>by
  obtain⟨k,hk⟩:=List.mem_iff_getElem?.1 hy;have IE:=eZ hk;have pP:k<v.cells.length:=by omega
  exact Il (Ah k v.cells[k] y (List.getElem?_eq_getElem pP) hk) (iQ _ (List.getElem_mem pP))
 have hlen:(a.eval q).cells.toList.length=sh.length:=by simpa using eH
 have fX:off+(a.eval q).cells.toList.length≤c.size:=by omega
 have aj:=IG (P:=P) (w:=w) hs (v:=a.eval q) eH hh (o:=off) (by omega) h1
 rw[←hlen]at aj
 let c':Array Value:=(c.toList.take off++(a.eval q).cells.toList++c.toList.drop (off+(a.eval q).cells.toList.length)).toArray
 have lj:(w.setRow (g.γ i) c').heap[g.γ i]?=some (.cells c' e (0,0)):=setRow_heap w _ c c' e _ hh;have tt:=Cj (c':=c') (S:=S) (w:=w) hm (hR.ahl cJ) (fun _ _ e=>by rw[cJ]at e;cases e) hR
 have hk:∀k,iP (S.cx g w) ⟨(w.setRow (g.γ i) c').heap,g,S.az.length,S.bm⟩ k:=fun k=>tt.keeps hR (fun e=>by cases e) (fun e=>by cases e) (fun _ e=>by rw[cJ]at e;cases e)
 have oH:Le ⟨w.heap,g,S.az.length,[]⟩ ⟨(w.setRow (g.γ i) c').heap,g,S.az.length,[]⟩:=⟨tt.le.size,tt.le.cells,tt.le.m,tt.le.fb,tt.le.γ⟩;refine ct.skip (g':=g) (w':=w.setRow (g.γ i) c') ?_ tj (R.nf tt hR rfl (by simp) (fun i=>.inl (hk i)) (fun s v hs=>.inl hs) (fun id ek hi=>.inl ⟨hi,(fun e=>by cases e),fun _ e=>by rw[cJ]at e;cases e⟩)
  (fun f k b hf hb=>.inl ⟨(fun e=>by cases e),fun _ e=>by rw[cJ]at e;cases e⟩) (fun k o fQ=>?_))
 ·obtain⟨ep,_⟩:=wH (cZ hR hp hx)
  have xN:(storeVar t ⟨(S.cx g w).g.γ i,off,none⟩ (a.eval q)).run P w=.ok () (w.setRow (g.γ i) c'):=aj;simp only[execOp,ho,ep];simp[Instr.storeAt,Instr.sureAddr,xN]
 ·simp only[List.getElem?_set]at fQ
  by_cases kL:i=k
  ·subst kL
   simp[hi]at fQ;subst fQ;refine .inr ⟨cJ,⟨hm,c',e,lj,by rw[Iz];exact Nat.le_trans dD (Nat.le_of_eq (Ci fX).symm),fun j u z hu hz=>?_⟩,fun j n es z hu hz=>?_⟩
   ·rw[Af]at hu
    rw[show c'[j]?=_ from Ag fX j]at hz;split at hu
    ·rename_i lW
     rw[if_pos (by omega)]at hz
     obtain⟨u0,s,pR,oI⟩:=wO hg _ u hu;obtain⟨q1,q2,q3,_⟩:=Ak oI (Ah (j-off) u0 z pR hz);exact⟨q1,q2,q3.mono oH (fun d=>.inr (q2 d))⟩
    ·rename_i lW
     have Ai:=eZ hu;rw[if_neg (by omega)]at hz
     obtain⟨q1,q2,q3⟩:=hj j u z hu hz;exact⟨q1,q2,q3.mono oH (fun d=>.inr (q2 d))⟩
   ·rw[Af]at hu
    rw[lg lj,show c'[j]?=_ from Ag fX j]at hz;split at hu
    ·rename_i lW
     rw[if_pos (by omega)]at hz
     obtain⟨u0,s,pR,oI⟩:=wO hg _ _ hu;obtain⟨_,_,_,_,q5⟩:=Ak oI (Ah (j-off) u0 z pR hz);obtain⟨rfl,hz⟩:=q5 n es rfl;exact IK hz
    ·rename_i lW
     have Ai:=eZ hu;rw[if_neg (by omega)]at hz
     rcases hR.az.own i _ fE j n es z hu (by rw[lg hh];exact hz) with h | ⟨q,cap,c2,e',q1,q2,q3,q4,q5,q6⟩
     ·exact .inl h
     ·have cF:q≠g.γ i:=fun e=>by rw[e,cJ]at q2;cases q2
      exact .inr ⟨q,cap,c2,e',q1,q2,q3,(E0 w _ q c' cF).trans q4,q5,q6⟩
  ·rw[if_neg kL]at fQ
   exact .inl ⟨fQ,fun _=>⟨fun e=>kL (by rw[cJ]at e;cases e;rfl),fun _ e=>(by rw[cJ]at e;cases e)⟩⟩
theorem Xe{o:Oper}{t:TypeId}{root:jx}{sh:Sh}{p q:Operand}{x y:bB}{C:bC}(ho:o.op=.store t p q)(tj:o.dst=none)(hs:fh P t=some sh.length)(hp:bX p x=true)(hq:bX q y=true)
  (hR:R E g S a w) (aj:VO.run C o.dst S (.store root sh x y)=some S'):ct P E o S S' a w:=by
 simp only[VO.run]at aj;cases fX:S.fits root x with
 |false=>simp[fX]at aj
 |true =>
  simp only[fX,cond_true]at aj;split at aj
  ·rename_i id off v hx hy
   split at aj
   ·rename_i cs fE
    cases hc:(v.cells.length==sh.length&&Nat.ble (off+sh.length) cs.length&&v.cells.all V.cM&&Nat.blt 0 sh.length) with
    |false=>simp[hc]at aj
    |true =>
     simp only[hc,cond_true]at aj;simp only[Bool.and_eq_true,beq_iff_eq,List.all_eq_true]at hc;cases aj;exact Xa ho tj hs hp hq hR hx hy fE hc.1.1.1 (Nat.le_of_ble_eq_true hc.1.1.2) hc.1.2 (by have:=hc.2;simp[Nat.blt]at this;omega)
   ·cases aj
  ·rename_i i off v hx hy
   split at aj
   ·rename_i cs fE
    split at aj
    ·rename_i vs hg
     cases hc:(Nat.ble (off+vs.length) cs.length&&Nat.blt 0 vs.length) with
     |false=>simp[hc]at aj
     |true =>
      simp only[hc,cond_true]at aj;cases aj;simp only[Bool.and_eq_true]at hc;have hle:=Nat.le_of_ble_eq_true hc.1;exact Xd ho tj hs hp hq hR hx hy fE hg hle (fun e=>by have h2:=hc.2;subst e;simp only[Nat.blt,Nat.ble_eq,List.length_nil]at hle h2;omega)
    ·cases aj
   ·cases aj
  ·cases aj
theorem Xf{o:Oper}{t:TypeId}{sh:Sh}{p:Operand}{x:bB}{C:bC}(ho:o.op=.box t p)(hp:bX p x=true)
  (hR:R E g S a w) (hd:∀d,o.dst=some d→d<E.nt) (aj:VO.run C o.dst S (.ou sh x)=some S'):ct P E o S S' a w:=by
 simp only[VO.run]at aj;split at aj
 ·rename_i v hv
  split at aj
  ·rename_i cs hg
   cases aj;obtain⟨e1,e2⟩:=Cn hg;obtain⟨hl,hx⟩:=Ab (cZ hR hp hv) (Ox hg)
   let c:Array Value:=(a.eval p).cells
   let g':Gh:={ g with m:=c7 g.m w.heap.size 0,γ:=c7 g.γ S.az.length w.heap.size,ow:=c7 g.ow w.heap.size (.az S.az.length) }
   have hw:(w.alloc (.cells c t)).heap=w.heap.push (.cells c t (0,0)):=rfl;have t':Touch E g S w g' S.bm (S.az.length+1) (w.alloc (.cells c t)) w.heap.size none none:=B4 hR hw rfl rfl rfl (fun b hb=>gP _ _ hb) (fun b hb=>gP _ _ hb)
    (fun i _=>rfl) (fun i _=>rfl) (fun i _=>rfl) (fun i _=>rfl) (fun i hi=>gP _ _ (by omega)) (by omega) (fun i h1 h2=>by
     have:i=S.az.length:=by omega
     subst this;show _≤c7 g.γ _ _ _;rw[dP];exact hR.same.size) (fun i e=>by
     have e:c7 g.ow w.heap.size (.az S.az.length) w.heap.size=.az i:=e;rw[dP]at e;cases e;exact⟨dP _ _ _,Nat.lt_succ_self _⟩)
   have kJ:∀i,iP (S.cx g w) ⟨(w.alloc (.cells c t)).heap,g',S.az.length+1,S.bm⟩ i:=fun i=>t'.keeps hR (fun e=>by cases e) (fun e=>by cases e) (fun h=>absurd h (Nat.lt_irrefl _))
   have oH:Le ⟨w.heap,g,S.az.length,[]⟩ ⟨(w.alloc (.cells c t)).heap,g',S.az.length+1,[]⟩:=⟨t'.le.size,t'.le.cells,t'.le.m,t'.le.fb,t'.le.γ⟩;have hγ:g'.γ S.az.length=w.heap.size:=dP _ _ _;have r1:R E g' { S with az:=S.az++[.cells cs] } a (w.alloc (.cells c t)):=R.nf t' hR rfl (by simp) (fun i=>.inl (kJ i)) (fun s v hs=>.inl hs)
    (fun id ek hi=>.inl ⟨hi,(fun e=>by cases e),fun h=>absurd h (Nat.lt_irrefl _)⟩) (fun f k b hf hb=>.inl ⟨(fun e=>by cases e),fun h=>absurd h (Nat.lt_irrefl _)⟩) (fun k o fQ=>by
     simp only[List.getElem?_append]at fQ;split at fQ
     ·exact .inl ⟨fQ,fun h=>absurd h (Nat.lt_irrefl _)⟩
     ·rename_i hk
      have:k=S.az.length:=by
       rcases Nat.eq_zero_or_pos (k-S.az.length) with h|h
       ·omega
       ·rw[List.getElem?_eq_none (by simp;omega)]at fQ;cases fQ
      subst this;simp at fQ;subst fQ;refine .inr ⟨by rw[hγ];exact dP _ _ _,⟨by rw[hγ];exact dP _ _ _,c,t,by rw[hγ];exact B6 hw,by(have:v.cells.length=(a.eval p).cells.size:=by simpa using hl);show cs.length≤(a.eval p).cells.size;omega,fun j u z hu hz=>?_⟩,fun j n es z hu hz=>?_⟩
      ·obtain⟨u0,s,pR,oI⟩:=wO hg _ u hu
       obtain⟨q1,q2,q3,_⟩:=Ak oI (hx j u0 z pR (by simpa using hz))
       exact⟨q1,q2,q3.mono oH (fun d=>.inr (q2 d))⟩
      ·rw[hγ,lg (B6 hw)]at hz
       obtain⟨u0,s,pR,oI⟩:=wO hg _ _ hu;obtain⟨_,_,_,_,q5⟩:=Ak oI (hx j u0 z pR (by simpa using hz))
       obtain⟨rfl,hz⟩:=q5 n es rfl;exact IK hz)
   refine ct.value (x:=.pointer (some ⟨w.heap.size,0,none⟩)) (w':=w.alloc (.cells c t)) (g':=g') ?_ (r1.put hd ?_)
   ·simp[execOp,ho,Instr.box,newVar,newRow,c]
   ·rw[←hγ];exact .bO _ 0 (by simp[St.cx])
  ·cases aj
 ·cases aj
theorem Xg{o:Oper}{t e:TypeId}{n m:Nat}{C:bC}(ho:o.op=.buildSlice t 0 #[])(ht:P.underlying t=some (.slice e))(hn:fh P e=some m)
  (hR:R E g S a w) (hd:∀d,o.dst=some d→d<E.nt) (aj:VO.run C o.dst S (.sZ n)=some S'):ct P E o S S' a w:=by
 simp only[VO.run]at aj;cases aj;obtain⟨g',r1,_⟩:=hR.IC (w':=w.alloc (.cells #[] e)) rfl rfl rfl rfl (n:=n) (ys:=[]) (l:=[]) ⟨by simp,by simp,by simp⟩ (fun j y hj=>by simp at hj) (cap:=0) (Nat.le_refl _)
 refine ct.value (x:=.slice (some ⟨w.heap.size,0,none⟩) 0 0) (g':=g') (w':=w.alloc (.cells #[] e)) ?_ (r1.put hd (.dW (.inr ⟨_,rfl⟩)));have hz:∀f:Nat→Value,(Array.range 0).map f = #[]:=fun f=>Array.eq_empty_of_size_eq_zero (by simp)
 simp[execOp,ho,Instr.buildSlice,ja ht,nW hn,Instr.fill,newRow,hz]
theorem Xh{o:Oper}{op:BinOp}{t e ty:TypeId}{neg:Bool}{p q:Operand}{x:bB}{C:bC}(ho:o.op=.binOp op t p q ty)(vh:op=if neg then .neq else .eql)(ht:P.underlying t=some (.slice e))(hp:bX p x=true)(hq:bX q (.c .aK)=true)
  (hR:R E g S a w) (hd:∀d,o.dst=some d→d<E.nt) (aj:VO.run C o.dst S (.qV neg x)=some S'):ct P E o S S' a w:=by
 have h0:=nV (cZ (v:=.aK) hR hq rfl);have go:∀(r:Option Addr) (n c:Nat),a.eval p=.slice r n c→(bif neg then !r.isNone else r.isNone)=(bif neg then !r.isNone else r.isNone)→(execOp a.eval o).run P w=.ok (.value (.bool (bif neg then !r.isNone else r.isNone))) w:=fun r n c ev _=>by
  subst vh;have hg:∀op,(eqGuard op t p q (.slice r n c) (.slice none 0 0)).run P w=.ok () w:=fun op=>by
   cases op<;>simp[eqGuard]
  cases neg
  ·have h1:=Lib.run_eql_slice_nil (P:=P) w t e r n c 0 0 ht
   simp[execOp,ho,ev,h0,hg,h1]
  ·have h1:=run_neq_slice_nil_any (P:=P) w t e r n c 0 0 ht
   simp[execOp,ho,ev,h0,hg,h1]
 simp only[VO.run]at aj;split at aj
 ·rename_i hx
  cases aj;have e:=nV (cZ hR hp hx);have:=go _ _ _ e rfl;refine ct.put hR hd (x:=.bool !neg) ?_ (bj.bool _);rw[this];cases neg<;>rfl
 ·rename_i n hx
  cases aj;obtain⟨b,cap,e⟩:=B0 (cZ hR hp hx);have:=go _ _ _ e rfl;refine ct.put hR hd (x:=.bool neg) ?_ (bj.bool _);rw[this];cases neg<;>rfl
 ·rename_i t' n r rs hx
  cases aj;have hr:=cZ hR hp hx;obtain⟨b,len,cap,e⟩:∃b len cap,a.eval p=.slice (some b) len cap:=by
   generalize a.eval p=y at hr;cases hr with
   |plain h _=>cases h with
    |slice _ _ _ b off cap=>exact⟨_,_,_,rfl⟩
  have:=go _ _ _ e rfl;refine ct.put hR hd (x:=.bool neg) ?_ (bj.bool _);rw[this];cases neg<;>rfl
 ·cases aj
theorem Xi{o:Oper}{t:TypeId}{cf:Nat}{p:Operand}{x:bB}{C:bC}(ho:o.op=.load t p)(hs:pL P t none=true)(hp:bX p x=true)(hn:S.eR cf)
  (hR:R E g S a w) (hd:∀d,o.dst=some d→d<E.nt) (aj:VO.run C o.dst S (.pd cf x)=some S'):ct P E o S S' a w:=by
 simp only[VO.run]at aj;split at aj
 ·rename_i pv IL
  have Cp:=cZ hR hp IL;split at aj
  ·rename_i v ts G uq
   cases aj;unfold St.take at uq;split at uq
   ·rename_i id off
    obtain⟨ep,mo⟩:=wH Cp;split at uq
    ·rename_i cs fE
     by_cases IM:cs=[]
     ·subst IM;simp at uq
     obtain⟨cJ,hm,c,e,hh,dD,hj⟩:=(hR.az.obj id _ fE).resolve_left (fun e=>IM (by cases e;rfl))
     have Am:∀u,cs[off]?=some u→∃z,(execOp a.eval o).run P w=.ok (.value z) w∧bj (S.cx g w) u z∧c[off]?=some z:=fun u hu=>by
      have hc:S.na (.bO id off)=some (cs,off):=by simp[St.na,fE]
      obtain⟨b,f,e2,fx⟩:=N5 hR Cp hc;rw[e2]at ep;injection ep with ep;injection ep with ep;injection ep with e3 e4 _;have e3:b=g.γ id:=e3;have e4:f=0:=by omega
      obtain⟨z,hz,hr⟩:=EN (P:=P) (w:=w) (t:=t) (sz:=none) (off:=off) hs fx hu;obtain⟨y,hy,_⟩:=fx off u hu;have Xk:z=y:=by
       have h5:(loadVar t ⟨b,f+off,none⟩).run P w=.ok y w:=by
        simp only[pL,Bool.and_eq_true,beq_iff_eq]at hs;simp[loadVar,xQ hs.1,cell?_eq,hy]
       rw[h5]at hz;injection hz with hz;exact hz.symm
      rw[Xk]at hz hr;refine⟨y,by simp[execOp,ho,Instr.loadAt,e2,Instr.sureAddr,hz],hr,?_⟩
      rw[e3,lg hh,e4,Nat.zero_add]at hy;exact hy
     split at uq
     ·rename_i n es iQ
      cases uq;obtain⟨z,hex,hr,hz⟩:=Am _ iQ;have wP:fp w.heap g.m (.slice none n es) z:=by
       cases hr with
       |plain h _=>cases h
       |fC h=>exact h
      have nj:=eZ iQ;have wQ:=hR.az.own id _ fE off n es z iQ (by rw[lg hh];exact hz)
      let τ':Option Nat:=wN z
      have Oz:∀q,τ'=some q→g.ow q=.cell (g.γ id) off∧q<w.heap.size:=fun q hq=>by
       rcases wQ with⟨_,e⟩ | ⟨q',cap,c2,e2,e,q2,q3,q4,q5,q6⟩
       ·rw[show τ'=none from IJ e]at hq;cases hq
       ·rw[show τ'=some q' by simp only[τ',e];exact Cl q6]at hq
        cases hq;refine⟨q2,?_⟩;rcases Nat.lt_or_ge q w.heap.size with h|h
        ·exact h
        ·simp[Array.getElem?_eq_none h]at q4
      let B:Nat:=τ'.getD w.heap.size
      let g':Gh:={ g with τ:=c7 g.τ cf τ',ow:=c7 g.ow B (.tok cf) }
      have wR:B<w.heap.size→g.ow B=.cell (g.γ id) off:=fun hB=>by
       cases hτ:τ' with
       |none=>simp only[B,hτ,Option.getD_none]at hB;omega
       |some q=>simp only[B,hτ,Option.getD_some];exact(Oz q hτ).1
      have tt:Touch E g S w g' ((cf,es.length)::S.bm) S.az.length w B none (some cf) :=
       {os:=rfl,tape:=rfl,output:=rfl,size:=Nat.le_refl _,heap:=fun _ _ _=>rfl,m:=fun _ _=>rfl,ow:=fun b hb=>gP _ _ hb,κ:=fun _ _=>rfl,cp:=fun _ _=>rfl,
        τ:=fun i hi=>gP _ _ (fun e=>hi (by rw[e])),T:=fun i hi=>by rw[dQ,if_neg (fun e=>hi (by rw[e]))],γ:=fun _ _=>rfl,fb:=Nat.le_refl _,
        γnew:=fun i a b=>absurd a (by omega)
        fresh:=by
         rcases Nat.lt_or_ge B E.w0.heap.size with h|h
         ·exact .inr (.inr (hR.same.ig B _ _ h (wR (Nat.lt_of_lt_of_le h hR.same.size))))
         ·exact .inl h
        ig:=fun p q _ e=>by
         have e:c7 g.ow B (.tok cf) B=.cell p q:=e;rw[dP]at e;cases e
        lv:=fun i e=>by
         have e:c7 g.ow B (.tok cf) B=.az i:=e;rw[dP]at e;cases e
        jk:=fun _ _ _ h=>h,oC:=fun _=>Nat.le_refl _ }
      have kJ:∀i,iP (S.cx g w) ⟨w.heap,g',S.az.length,(cf,es.length)::S.bm⟩ i∨i=cf:=fun i=>by
       by_cases hi:cf=i
       ·exact .inr hi.symm
       ·exact .inl (tt.keeps hR (fun e=>by cases e) (fun e=>hi (by cases e;rfl)) (fun hB e=>by rw[wR hB]at e;cases e))
      have Xl:∀k o,S.az[k]?=some o→o≠.cells []→k≠id→g.γ k≠g.γ id:=fun k o hk An cF e=>by
       have:=((hR.az.obj k o hk).resolve_left An).1;rw[e,cJ]at this;cases this;exact cF rfl
      have r1:R E g' { S with bm:=(cf,es.length)::S.bm,az:=S.az.set id (.cells (cs.set off (.slice none n es))) } a w :=
       R.B1 (S':={ S with bm:=(cf,es.length)::S.bm,az:=S.az.set id (.cells (cs.set off (.slice none n es))) }) tt hR rfl (by simp) (fun i=>(kJ i).imp (fun z=>z) fun e=>by rw[e];exact hn) (fun s v hs=>.inl hs)
        (fun i ek ho=>.inl ⟨ho,(fun e=>by cases e),fun hB e=>by rw[wR hB]at e;cases e⟩) (fun f k b hf hb=>by
         by_cases Bu:cf=f
         ·subst Bu
          have hb:c7 g.τ cf τ' cf=some b:=hb;rw[dP]at hb;obtain⟨h1,h2⟩:=Oz b hb;have IN:B=b:=by simp only[B,hb,Option.getD_some]
          refine .inr ⟨by show c7 g.ow B _ b=_;rw[IN,dP],?_,h2⟩
          rcases Nat.lt_or_ge b E.w0.heap.size with h|h
          ·exact .inr (hR.same.ig b _ _ h h1)
          ·exact .inl h
         ·exact .inl ⟨fun e=>Bu (by cases e;rfl),fun hB e=>by rw[wR hB]at e;cases e⟩) (fun k o fQ An=>by
         simp only[List.getElem?_set]at fQ;by_cases kL:id=k
         ·subst kL
          simp[show id<S.az.length from eZ fE]at fQ;subst fQ;have oH:Le ⟨w.heap,g,S.az.length,[]⟩ ⟨w.heap,g',S.az.length,[]⟩:=⟨tt.le.size,tt.le.cells,tt.le.m,tt.le.fb,tt.le.γ⟩;have Xm:g.γ id≠B:=fun e=>by
           have:=wR (e ▸ Al hR fE (fun e=>IM (by cases e;rfl)))
           rw[←e,cJ]at this;cases this
          refine .inr ⟨(tt.ow _ Xm).trans cJ,⟨hm,c,e,hh,by rw[List.length_set];exact dD,fun j u y hu hy=>?_⟩,fun j n' nY y hu hy=>?_⟩
          ·rw[List.getElem?_set]at hu
           by_cases qw:off=j
           ·subst qw
            rw[if_pos rfl,if_pos nj]at hu;cases hu;have Xn:y=z:=by have hy:c[off]?=some y:=hy;rw[hz]at hy;exact(Option.some.inj hy).symm
            rw[Xn];exact⟨rfl,fun _=>rfl,.plain wP (fun _ _ _ e=>by cases e)⟩
           ·rw[if_neg qw]at hu
            obtain⟨q1,q2,q3⟩:=hj j u y hu hy;exact⟨q1,q2,q3.mono oH (fun d=>.inr (q2 d))⟩
          ·rw[List.getElem?_set]at hu
           by_cases qw:off=j
           ·subst qw
            rw[if_pos rfl,if_pos nj]at hu;cases hu
           ·rw[if_neg qw]at hu
            rcases hR.az.own id _ fE j n' nY y hu hy with h | ⟨q,cap,c2,e',q1,q2,q3,q4,q5,q6⟩
            ·exact .inl h
            ·have IP:q≠B:=fun e=>by
              have ph:q<w.heap.size:=by
               rcases Nat.lt_or_ge q w.heap.size with h|h
               ·exact h
               ·simp[Array.getElem?_eq_none h]at q4
              rw[e]at q2 ph;rw[wR ph]at q2;cases q2;exact qw rfl
             exact .inr ⟨q,cap,c2,e',q1,(tt.ow q IP).trans q2,q3,q4,q5,q6⟩
         ·rw[if_neg kL]at fQ
          refine .inl ⟨fQ,fun hB=>⟨fun e=>(by rw[wR hB]at e;cases e),fun j e=>?_⟩⟩
          rw[wR hB]at e;injection e with e _;exact Xl k o fQ An (fun h=>kL h.symm) e.symm)
      refine ct.value (x:=z) (w':=w) (g':=g') hex (r1.put hd (.plain (Ov wP) (fun f n' nY e k hk=>?_)));cases e;have hk:look cf ((cf,es.length)::S.bm)=some k:=hk;rw[dQ,if_pos rfl]at hk;cases hk;refine⟨Nat.le_refl _,fun _=>?_⟩;rcases wQ with⟨e1,e2⟩ | ⟨q,cap,c2,e',q1,q2,q3,q4,q5,q6⟩
      ·exact .inl ⟨e1,e2⟩
      ·refine .inr ⟨q,0,cap,c2,e',?_,q1,by show g.m q=_;omega,q4,by omega,rfl,q6⟩
       show c7 g.τ cf τ' cf=_;rw[dP];simp only[τ',q1];exact Cl q6
     ·rename_i u _ iQ
      cases uq;obtain⟨z,hex,hr,hz⟩:=Am _ iQ;exact ct.put hR hd hex (NZ hr)
     ·cases uq
    ·cases uq
   ·cases uq
  ·cases aj
 ·cases aj
theorem Xo{o:Oper}{t:TypeId}{cf:Nat}{p q:Operand}{x y:bB}{C:bC}(ho:o.op=.store t p q)(tj:o.dst=none)(hs:fh P t=some 1)(hp:bX p x=true)(hq:bX q y=true)
  (hR:R E g S a w) (aj:VO.run C o.dst S (.pF cf x y)=some S'):ct P E o S S' a w:=by
 simp only[VO.run]at aj;split at aj
 ·rename_i pv v IL hv
  have Cp:=cZ hR hp IL;have wP:=cZ hR hq hv;split at aj
  ·rename_i ts G wS
   cases aj;unfold St.uf at wS;split at wS
   ·rename_i id off f n es
    split at wS
    ·rename_i cs k fE hk
     have pM:f=cf∧look f S.bm=some k:=by
      cases Bu:f==cf with
      |false=>rw[Bu]at hk;cases hk
      |true =>
       have:=eq_of_beq Bu;subst this;rw[Bu]at hk;exact⟨rfl,hk⟩
     obtain⟨e,lC⟩:=pM;subst e
     clear hk
     have hk:=lC;cases hc:(k==es.length&&Nat.blt off cs.length) with
     |false=>simp[hc]at wS
     |true =>
      simp only[hc,cond_true,Option.some.injEq,Prod.mk.injEq]at wS;obtain⟨rfl,rfl⟩:=wS;simp only[Bool.and_eq_true,beq_iff_eq]at hc;obtain⟨rfl,bG⟩:=hc;have nj:off<cs.length:=by simp[Nat.blt]at bG;omega
      obtain⟨ep,mo⟩:=wH Cp;obtain⟨cJ,hm,c,e,hh,dD,hj⟩:=(hR.az.obj id _ fE).resolve_left (fun e=>by cases e;simp at nj)
      generalize Xp:a.eval q=yv at wP;obtain⟨Cq,IQ⟩:fp w.heap g.m (.slice (some f) n es) yv∧uZ (S.cx g w) f n es.length yv:=by
       cases wP with
       |plain h ht=>exact⟨h,(ht f n es rfl _ hk).2 rfl⟩
      have Xq:fp w.heap g.m (.slice none n es) yv:=Ov Cq;have uw:yv.cells = #[yv]:=Cq.cells
      let c':Array Value:=(c.toList.take off++yv.cells.toList++c.toList.drop (off+yv.cells.toList.length)).toArray
      have nk:yv.cells.toList.length=1:=by rw[uw];rfl
      have fX:off+yv.cells.toList.length≤c.size:=by omega
      have aj:=IG (P:=P) (w:=w) (t:=t) (n:=1) hs (v:=yv) (by rw[uw];rfl) hh (o:=off) (by omega) (fun y hy=>by rw[uw]at hy;simp at hy;subst hy;exact Cq.xM)
      rw[←nk]at aj;have lj:(w.setRow (g.γ id) c').heap[g.γ id]?=some (.cells c' e (0,0)):=setRow_heap w _ c c' e _ hh;have oJ:∀j,c'[j]?=if j=off then some yv else c[j]?:=fun j=>by
       rw[show c'[j]?=_ from Ag fX j,nk,uw];by_cases h:j=off
       ·subst h;simp
       ·rw[if_neg (by omega),if_neg h]
      have vg:=hR.ahl cJ
      let B:Nat:=(wN yv).getD w.heap.size
      have hB:(es.length=0∧kG yv∧B=w.heap.size)∨∃cap c2 e2,yv=.slice (some ⟨B,0,none⟩) es.length cap∧g.τ f=some B∧g.m B=es.length*n∧w.heap[B]?=some (.cells c2 e2 (0,0))∧cap*n≤c2.size∧0<es.length ∧
        g.ow B=.tok f∧(E.w0.heap.size≤B∨E.own B)∧B<w.heap.size:=by
       rcases IQ with⟨h1,h2⟩ | ⟨b,o2,cap,c2,e2,h1,h2,h3,h4,h5,h6,h7⟩
       ·exact .inl ⟨h1,h2,by simp only[B,IJ h2];rfl⟩
       ·subst h6
        have IN:B=b:=by simp only[B,h2];rw[Cl h7];rfl
        obtain⟨q1,q2,q3⟩:=hR.bm f _ b hk h1;rw[IN];exact .inr ⟨cap,c2,e2,h2,h1,by have h3:g.m b=0+es.length*n:=h3;omega,h4,by omega,h7,q1,q2,q3⟩
      have xV:B<w.heap.size→g.ow B=.tok f:=fun h=>by
       rcases hB with⟨_,_,e⟩ | ⟨_,_,_,_,_,_,_,_,_,h8,_⟩
       ·omega
       ·exact h8
      have OA:∀k o,S.az[k]?=some o→o≠.cells []→g.γ k≠B:=fun k o lC An e=>by
       have h1:=((hR.az.obj k o lC).resolve_left An).1;have h2:=xV (e ▸ Al hR lC An);rw[←e,h1]at h2;cases h2
      let g1:Gh:={ g with τ:=c7 g.τ f none,ow:=c7 g.ow B (.cell (g.γ id) off) }
      have t1:Touch E g S w g1 ((f,es.length+1)::S.bm) S.az.length w B none (some f) :=
       {os:=rfl,tape:=rfl,output:=rfl,size:=Nat.le_refl _,heap:=fun _ _ _=>rfl,m:=fun _ _=>rfl,ow:=fun b hb=>gP _ _ hb,κ:=fun _ _=>rfl,cp:=fun _ _=>rfl,
        τ:=fun i hi=>gP _ _ (fun e=>hi (by rw[e])),T:=fun i hi=>by rw[dQ,if_neg (fun e=>hi (by rw[e]))],γ:=fun _ _=>rfl,fb:=Nat.le_refl _,
        γnew:=fun i a b=>absurd a (by omega)
        fresh:=by
         rcases hB with⟨_,_,e⟩ | ⟨_,_,_,_,_,_,_,_,_,_,h9,_⟩
         ·exact .inl (by rw[e];exact hR.same.size)
         ·exact h9.imp (fun z=>z) .inr
        ig:=fun p q bG _=>by
         rcases hB with⟨_,_,e⟩ | ⟨_,_,_,_,_,_,_,_,_,_,h9,_⟩
         ·have:=hR.same.size;omega
         ·exact h9.resolve_left (by omega)
        lv:=fun i e=>by
         have e:c7 g.ow B (.cell (g.γ id) off) B=.az i:=e;rw[dP]at e;cases e
        jk:=fun _ _ _ h=>h,oC:=fun _=>Nat.le_refl _ }
      have k1:∀i,iP (S.cx g w) ⟨w.heap,g1,S.az.length,(f,es.length+1)::S.bm⟩ i:=fun i=>by
       by_cases hi:f=i
       ·subst hi
        refine⟨rfl,rfl,fun k' jO=>⟨es.length,hk,?_,fun e=>?_⟩⟩
        ·simp only[dQ,if_true,Option.some.injEq]at jO;omega
        ·simp only[dQ,if_true,Option.some.injEq]at jO;omega
       ·exact t1.keeps hR (fun e=>by cases e) (fun e=>hi (by cases e;rfl)) (fun hb e=>hi (by rw[xV hb]at e;cases e;rfl))
      have r1:R E g1 { S with bm:=(f,es.length+1)::S.bm } a w:=R.nf (S':={ S with bm:=(f,es.length+1)::S.bm }) t1 hR rfl rfl (fun i=>.inl (k1 i)) (fun s v hs=>.inl hs)
       (fun i ek ho=>.inl ⟨ho,(fun e=>by cases e),fun hb e=>by rw[xV hb]at e;cases e⟩) (fun f' k' b hf hb=>by
        by_cases Bu:f=f'
        ·subst Bu
         have hb:c7 g.τ f none f=some b:=hb;rw[dP]at hb;cases hb
        ·exact .inl ⟨fun e=>Bu (by cases e;rfl),fun hb e=>by rw[xV hb]at e;cases e;exact Bu rfl⟩) (fun i o hi=>.inl ⟨hi,fun hb=>⟨fun e=>(by rw[xV hb]at e;cases e),fun _ e=>(by rw[xV hb]at e;cases e)⟩⟩)
      have xW:g1.ow (g.γ id)=.az id:=(gP _ _ (OA id _ fE (fun e=>by cases e;simp at nj))).trans cJ
      have t2:=Cj (g:=g1) (c':=c') (S:={ S with bm:=(f,es.length+1)::S.bm }) (w:=w) (b:=g.γ id) hm vg (fun _ _ e=>by rw[xW]at e;cases e) r1
      have k2:∀i,iP (({ S with bm:=(f,es.length+1)::S.bm }:St).cx g1 w) ⟨(w.setRow (g.γ id) c').heap,g1,S.az.length,(f,es.length+1)::S.bm⟩ i:=fun i=>t2.keeps r1 (fun e=>by cases e) (fun e=>by cases e) (fun _ e=>by rw[xW]at e;cases e)
      have oH:Le ⟨w.heap,g,S.az.length,[]⟩ ⟨(w.setRow (g.γ id) c').heap,g1,S.az.length,[]⟩:=⟨t2.le.size,t2.le.cells,t2.le.m,t2.le.fb,t2.le.γ⟩;refine ct.skip (g':=g1) (w':=w.setRow (g.γ id) c') ?_ tj (R.nf (S':={ S with bm:=(f,es.length+1)::S.bm,az:=S.az.set id (.cells (cs.set off (.fC n es))) }) t2 r1 rfl (by simp) (fun i=>.inl (k2 i)) (fun s v hs=>.inl hs)
       (fun i ek hi=>.inl ⟨hi,(fun e=>by cases e),fun _ e=>by rw[xW]at e;cases e⟩)
       (fun f k b hf hb=>.inl ⟨(fun e=>by cases e),fun _ e=>by rw[xW]at e;cases e⟩) (fun k o fQ=>?_))
      ·have xN:(storeVar t ⟨(S.cx g w).g.γ id,off,none⟩ yv).run P w=.ok () (w.setRow (g.γ id) c'):=aj
       simp only[execOp,ho,ep,Xp];simp[Instr.storeAt,Instr.sureAddr,xN]
      ·simp only[List.getElem?_set]at fQ
       by_cases kL:id=k
       ·subst kL
        simp[show id<S.az.length from eZ fE]at fQ;subst fQ;refine .inr ⟨xW,⟨hm,c',e,lj,by rw[List.length_set];exact Nat.le_trans dD (Nat.le_of_eq (Ci fX).symm),fun j u z hu hz=>?_⟩,fun j n' nY z hu hz=>?_⟩
        ·rw[oJ]at hz
         rw[List.getElem?_set]at hu;by_cases qw:off=j
         ·subst qw
          rw[if_pos rfl,if_pos nj]at hu;rw[if_pos rfl]at hz;cases hu;cases hz;exact⟨rfl,fun _=>rfl,.fC (Xq.mono oH)⟩
         ·rw[if_neg qw]at hu
          rw[if_neg (fun e=>qw e.symm)]at hz;obtain⟨q1,q2,q3⟩:=hj j u z hu hz;exact⟨q1,q2,q3.mono oH (fun d=>.inr (q2 d))⟩
        ·have hz:cellAt (w.setRow (g.γ id) c').heap (g.γ id) j=some z:=hz
         rw[lg lj,oJ]at hz;rw[List.getElem?_set]at hu;by_cases qw:off=j
         ·subst qw
          rw[if_pos rfl,if_pos nj]at hu;rw[if_pos rfl]at hz;cases hu;cases hz;rcases hB with⟨h1,h2,_⟩ | ⟨cap,c2,e2,h1,h2,h3,h4,h5,h6,_⟩
          ·exact .inl ⟨h1,h2⟩
          ·exact .inr ⟨B,cap,c2,e2,h1,dP _ _ _,h3,(E0 w _ B c' (fun e=>OA id _ fE (fun e=>by cases e;simp at nj) e.symm)).trans h4,h5,h6⟩
         ·rw[if_neg qw]at hu
          rw[if_neg (fun e=>qw e.symm)]at hz;rcases hR.az.own id _ fE j n' nY z hu (by rw[lg hh];exact hz) with h | ⟨q,cap,c2,e',q1,q2,q3,q4,q5,q6⟩
          ·exact .inl h
          ·have ph:q<w.heap.size:=by
            rcases Nat.lt_or_ge q w.heap.size with h|h
            ·exact h
            ·simp[Array.getElem?_eq_none h]at q4
           have IP:q≠B:=fun e=>by rw[e]at q2 ph;rw[xV ph]at q2;cases q2
           have cF:q≠g.γ id:=fun e=>by rw[e,cJ]at q2;cases q2
           exact .inr ⟨q,cap,c2,e',q1,(gP _ _ IP).trans q2,q3,(E0 w _ q c' cF).trans q4,q5,q6⟩
       ·rw[if_neg kL]at fQ
        exact .inl ⟨fQ,fun _=>⟨fun e=>kL (by rw[xW]at e;cases e;rfl),fun _ e=>(by rw[xW]at e;cases e)⟩⟩
    ·cases wS
   ·cases wS
  ·cases aj
 ·cases aj
theorem Cr{o:Oper}{t e:TypeId}{sz:Nat}{p:Operand}{lo hi:Option Operand}{xX pS:Option bB}(ho:o.op=.slice t p lo hi none)(ht:P.underlying t=some (.slice e))(hs:fh P e=some sz)
  (nj:match lo,xX with|none,none=>True|some y,some z=>bX y z=true|_,_=>False) (ux:match hi,pS with|none,none=>True|some y,some z=>bX y z=true|_,_=>False)
  (hR:R E g S a w) {base:Option Addr} {n cap:Nat} (e1:a.eval p=.slice base n cap) (eP:n≤cap) {k1 k2:IntKind} {l h:Int} (hl:S.kD xX 0=some (.int k1 l)) (hh:S.kD pS n=some (.int k2 h))
  (h0:0≤l) (h1:l≤h) (h2:h≤(n:Int)):(execOp a.eval o).run P w=.ok (.value (.slice (if cap=l.toNat then base else base.map (·.add (l.toNat*sz))) (h.toNat-l.toNat) (cap-l.toNat))) w:=by
 have wT:(match lo.map a.eval with|some v=>Instr.sliceBound v h.toNat .sliceB|none=>pure 0).run P w=.ok l.toNat w:=by
  cases lo with
  |none =>
   cases xX with
   |none=>simp[St.kD]at hl;obtain⟨_,rfl⟩:=hl;simp
   |some z=>exact nj.elim
  |some y =>
   cases xX with
   |none=>exact nj.elim
   |some z =>
    have:=lA (cZ hR nj hl);simp only[Option.map_some,this];exact run_sliceBound w k1 l h.toNat .sliceB h0 (by omega)
 have xY:(match hi.map a.eval with|some v=>Instr.sliceBound v cap .sliceAcap|none=>pure n).run P w=.ok h.toNat w:=by
  cases hi with
  |none =>
   cases pS with
   |none=>simp[St.kD]at hh;obtain⟨_,rfl⟩:=hh;simp
   |some z=>exact ux.elim
  |some y =>
   cases pS with
   |none=>exact ux.elim
   |some z =>
    have:=lA (cZ hR ux hh);simp only[Option.map_some,this];exact run_sliceBound w k2 h cap .sliceAcap (by omega) (by omega)
 have Xr:(Instr.sliceBounds true n cap (lo.map a.eval) (hi.map a.eval) none).run P w=.ok (l.toNat,h.toNat,cap) w:=by
  unfold Instr.sliceBounds;cases hi with
  |none =>
   simp only[Option.map_none]at xY;simp only[Sem.run_pure,Result.ok.injEq,and_true]at xY;cases lo with
   |none =>
    simp only[Option.map_none,Sem.run_pure,Result.ok.injEq,and_true]at wT;simp[←xY,← wT]
   |some y =>
    simp only[Option.map_some]at wT;simp[xY,wT]
  |some z =>
   simp only[Option.map_some]at xY;cases lo with
   |none =>
    simp only[Option.map_none,Sem.run_pure,Result.ok.injEq,and_true]at wT;simp[xY,← wT]
   |some y =>
    simp only[Option.map_some]at wT;simp[xY,wT]
 simp only[execOp,ho,e1,Instr.sliceAt,Instr.slice];simp[ja ht,Xr,nW hs]
theorem Xs{o:Oper}{t e:TypeId}{sz:Nat}{p:Operand}{lo hi:Option Operand}{x:bB}{xX pS:Option bB}{C:bC}(ho:o.op=.slice t p lo hi none)(ht:P.underlying t=some (.slice e))(hs:fh P e=some sz)
  (hp:bX p x=true) (nj:match lo,xX with|none,none=>True|some y,some z=>bX y z=true|_,_=>False) (ux:match hi,pS with|none,none=>True|some y,some z=>bX y z=true|_,_=>False)
  (hR:R E g S a w) (hd:∀d,o.dst=some d→d<E.nt) (aj:VO.run C o.dst S (.pf sz x xX pS)=some S'):ct P E o S S' a w:=by
 simp only[VO.run]at aj;split at aj
 ·rename_i tk m es hx
  split at aj
  ·rename_i k1 l k2 h hl hh
   cases hc:(decide (0≤l)&&decide (l≤h)&&decide (h≤(es.length:Int))&&(m==sz)) with
   |false=>simp[hc]at aj
   |true =>
    simp only[hc,cond_true]at aj;cases aj;simp only[Bool.and_eq_true,decide_eq_true_eq,beq_iff_eq]at hc;obtain⟨⟨⟨h0,h1⟩,h2⟩,rfl⟩:=hc;have hr:=cZ hR hp hx;obtain⟨base,cap,e1,eP⟩:∃base cap,a.eval p=.slice base es.length cap∧es.length≤cap:=by
     generalize a.eval p=y at hr;cases hr with
     |plain h _=>cases h with
      |nil=>exact⟨none,0,rfl,by simp⟩
      |empty _ _ a cap=>exact⟨some a,cap,rfl,by simp⟩
      |slice _ _ _ b off cap ys hb eP=>exact⟨_,cap,rfl,eP⟩
    have gI:=Cr (w:=w) ho ht hs nj ux hR e1 eP hl hh h0 h1 h2;have hlen:((es.take h.toNat).drop l.toNat).length=h.toNat-l.toNat:=by simp;omega
    refine ct.put hR hd gI ?_
    clear gI
    generalize a.eval p=y at hr e1;subst e1;refine .plain ?_ (fun _ _ _ e=>by cases e)
    cases hr with
    |plain hv _ =>
     cases hv with
     |nil =>
      have qx:l.toNat=0:=by simp at h2;omega
      have wU:h.toNat=0:=by simp at h2;omega
      simp[qx,wU];exact .nil _ _
     |empty _ _ a' nZ =>
      have qx:l.toNat=0:=by simp at h2;omega
      have wU:h.toNat=0:=by simp at h2;omega
      simp only[qx,wU,Nat.sub_zero,List.take_zero,List.drop_zero];split
      ·exact .empty _ _ _ _
      ·exact .empty _ _ _ _
     |slice _ _ _ b off _ ys hb Ct iI hc hv hp hm =>
      rw[←hlen];by_cases dD:cap=l.toNat
      ·rw[if_pos dD]
       have h3:(es.take h.toNat).drop l.toNat=[]:=List.length_eq_zero_iff.1 (by rw[hlen];omega)
       rw[h3];exact .slice none m [] b off _ ys hb (by simp) (by simp) (by simp) (by simp) (by simp) (by simp;omega)
      ·rw[if_neg dD]
       simp only[Option.map_some,kI];have oJ:∀(i:Nat) (row:List V),((es.take h.toNat).drop l.toNat)[i]?=some row→es[l.toNat+i]?=some row:=fun i row hi=>by
        rw[List.getElem?_drop,List.getElem?_take]at hi;split at hi
        ·exact hi
        ·cases hi
       refine .slice none m _ b (off+l.toNat*m) _ (fun i j=>ys (l.toNat+i) j) hb (by rw[hlen];omega) (fun i row hi=>iI _ row (oJ i row hi)) (fun i row j v hi hj=>?_) (fun i row j v hi hj=>hv _ row j v (oJ i row hi) hj)
        (fun i row j v hi hj=>hp _ row j v (oJ i row hi) hj) ?_
       ·rw[←hc _ row j v (oJ i row hi) hj]
        congr 1;rw[Nat.add_mul];omega
       ·have:(l.toNat+(h.toNat-l.toNat))*m≤es.length*m:=Nat.mul_le_mul_right m (by omega)
        rw[Nat.add_mul]at this;rw[hlen];omega
  ·cases aj
 ·rename_i hx
  split at aj
  ·rename_i k1 l k2 h hl hh
   cases hc:(decide (l=0)&&decide (h=0)) with
   |false=>simp[hc]at aj
   |true =>
    simp only[hc,cond_true]at aj;cases aj;simp only[Bool.and_eq_true,decide_eq_true_eq]at hc;obtain⟨rfl,rfl⟩:=hc;have e1:=nV (cZ hR hp hx);have gI:=Cr (w:=w) (n:=0) ho ht hs nj ux hR e1 (Nat.le_refl _) hl hh (Int.le_refl _) (Int.le_refl _) (Int.le_refl _);exact ct.put hR hd gI (.plain .aK (fun _ _ _ e=>by cases e))
  ·cases aj
 ·rename_i id s n hx
  split at aj
  ·rename_i k1 l k2 h hl hh
   cases hc:(decide (0≤l)&&decide (l≤h)&&decide (h≤(n:Int))&&(s==sz)) with
   |false=>simp[hc]at aj
   |true =>
    simp only[hc,cond_true]at aj;simp only[Bool.and_eq_true,decide_eq_true_eq,beq_iff_eq]at hc;obtain⟨⟨⟨h0,h1⟩,h2⟩,rfl⟩:=hc;rcases pJ (cZ hR hp hx) with⟨cap,eP,fH,e1⟩ | ⟨rfl,hz,fH⟩
    ·have gI:=Cr (w:=w) ho ht hs nj ux hR e1 eP hl hh h0 h1 h2
     by_cases qx:l=0
     ·subst qx
      simp only[decide_true,cond_true,Option.some.injEq]at aj;subst aj;refine ct.put hR hd gI ?_;simp only[Int.toNat_zero,Nat.zero_mul,Nat.sub_zero,Option.map_some,kI,Nat.add_zero,ite_self];exact .cb _ _ _ _ (by omega) fH
     ·have ahs:decide (l=0)=false:=decide_eq_false qx
      by_cases OB:l<(n:Int)
      ·simp only[ahs,decide_eq_true OB,cond_true,cond_false,Option.some.injEq]at aj
       subst aj;refine ct.put hR hd gI ?_;rw[if_neg (by omega)]
       simp only[Option.map_some,kI,Nat.zero_add];rw[show h.toNat-l.toNat=(h-l).toNat from by omega]
       exact .gj _ _ _ _ _ (by omega)
      ·simp[ahs,decide_eq_false OB]at aj
    ·have qx:l=0:=by omega
     have wU:h=0:=by omega
     subst qx;subst wU;simp only[decide_true,cond_true,Option.some.injEq]at aj;subst aj;rcases hz with e1 | ⟨b,e1⟩
     ·have gI:=Cr (w:=w) (n:=0) ho ht hs nj ux hR e1 (Nat.le_refl _) hl hh h0 h1 h2
      exact ct.put hR hd gI (.qo _ _ (.inl rfl) fH)
     ·have gI:=Cr (w:=w) (n:=0) ho ht hs nj ux hR e1 (Nat.le_refl _) hl hh h0 h1 h2
      exact ct.put hR hd gI (.qo _ _ (.inr ⟨b,rfl⟩) fH)
  ·cases aj
 ·cases aj
end
end Go.Vm

/- The value machine, 8: literals, stores, make, blocks that calls share. -/
import Derived.Great.BuildSlice
import Derived.IntWalk
import Derived.Laws.Slices
import Derived.Test.YtocclbnghhaejaaGreatVm7
import Derived.WalkSpells
import Derived.Lib.SliceRun
namespace Go.Vm
set_option linter.all false
section
variable {P:Program} {E:Entry} {g g':Gh} {S S':St} {a:Act} {w w':World} {T':List (Nat×Nat)} {N' B:Nat}
theorem K2(off k:Nat):∀(vs:List Value) (i:Nat) (cs:Array Value),((vs.zipIdx i).foldl (fun cs (p:Value×Nat)=>cs.setIfInBounds (off+p.2) p.1) cs)[k]? =
  if off+i≤k∧k<off+i+vs.length∧k<cs.size then vs[k-(off+i)]? else cs[k]?
 |[],i,cs=>by simp;omega
 |v::vs,i,cs=>by
  rw[List.zipIdx_cons,List.foldl_cons,K2 off k vs (i+1)];simp only[Array.size_setIfInBounds,List.length_cons,Array.getElem?_setIfInBounds];by_cases h:off+(i+1)≤k∧k<off+(i+1)+vs.length∧k<cs.size
  ·rw[if_pos h,if_pos (by omega),show k-(off+i)=(k-(off+(i+1)))+1 from by omega,List.getElem?_cons_succ]
  ·rw[if_neg h]
   by_cases he:off+i=k
   ·subst he
    by_cases bA:off+i<cs.size
    ·simp[bA]
    ·simp[bA]
   ·rw[if_neg he,if_neg (by omega)]
theorem AH(k:Nat):∀(vs:List V) (off:Nat) (cs:List V),(jg cs off vs)[k]?=if off≤k∧k<off+vs.length∧k<cs.length then vs[k-off]? else cs[k]?
 |[],off,cs=>by simp[jg];omega
 |v::vs,off,cs=>by
  rw[jg,AH k vs (off+1)];simp only[List.length_set,List.length_cons,List.getElem?_set];by_cases h:off+1≤k∧k<off+1+vs.length∧k<cs.length
  ·rw[if_pos h,if_pos (by omega),show k-off=(k-(off+1))+1 from by omega,List.getElem?_cons_succ]
  ·rw[if_neg h]
   by_cases he:off=k
   ·subst he
    by_cases bA:off<cs.length
    ·simp[bA]
    ·simp[bA]
   ·rw[if_neg he,if_neg (by omega)]
theorem K3:∀(vs:List V) (off:Nat) (cs:List V),(jg cs off vs).length=cs.length
 |[],off,cs=>rfl
 |v::vs,off,cs=>by rw[jg,K3 vs];simp
theorem K4(off:Nat):∀(vs:List Value) (i:Nat) (cs:Array Value),((vs.zipIdx i).foldl (fun cs (p:Value×Nat)=>cs.setIfInBounds (off+p.2) p.1) cs).size=cs.size
 |[],i,cs=>rfl
 |v::vs,i,cs=>by rw[List.zipIdx_cons,List.foldl_cons,K4 off vs];simp
theorem Rj(off:Nat)(vs cs:Array Value):vs.zipIdx.foldl (fun(cs:Array Value) (x:Value×Nat)=>match x with|(c,j)=>cs.setIfInBounds (off+j) c) cs =
  (vs.toList.zipIdx 0).foldl (fun cs (p:Value×Nat)=>cs.setIfInBounds (off+p.2) p.1) cs:=by
 rw[←Array.foldl_toList,Array.toList_zipIdx]
def AI(place:Nat→Option (Nat×Nat)):List (Nat×Operand)→List (Nat×Nat×bq)→Bool
 |[],[]=>true
 |(i,y)::ps,(off,n,x)::qs=>place i==some (off,n)&&bO y x&&AI place ps qs
 |_,_=>false
theorem Rk(hR:R E g S a w){place:Nat→Option (Nat×Nat)}:∀{ps:List (Nat×Operand)} {qs:List (Nat×Nat×bq)},AI place ps qs=true→∀{cs dQ:List V} {xs:Array Value},qn S qs cs=some dQ →
  PW (S.cx g w) cs xs.toList→∃o0,Instr.fill place xs (ps.map fun(i,x)=>(i,a.eval x))=some o0∧PW (S.cx g w) dQ o0.toList
 |[],[],_,cs,dQ,xs,h,hp=>by simp only[qn,Option.some.injEq]at h;subst h;exact⟨xs,rfl,hp⟩
 |[],_::_,h,_,_,_,_,_=>by simp[AI]at h
 |_::_,[],h,_,_,_,_,_=>by simp[AI]at h
 |(i,y)::ps,(off,n,x)::qs,h,cs,dQ,xs,hf,hp=>by
  simp only[AI,Bool.and_eq_true,beq_iff_eq]at h;obtain⟨⟨lM,ho⟩,bn⟩:=h;simp only[qn]at hf;split at hf
  ·rename_i v hv
   cases hc:(v.cells.length==n&&Nat.ble (off+n) cs.length&&v.cells.all V.cI) with
   |false=>simp[hc]at hf
   |true =>
    simp only[hc,cond_true]at hf;simp only[Bool.and_eq_true,beq_iff_eq,List.all_eq_true]at hc;obtain⟨⟨hlen,hle⟩,iX⟩:=hc;have hle:=Nat.le_of_ble_eq_true hle;obtain⟨hl,hx⟩:=Cf (cQ hR ho hv) iX;have eb:(a.eval y).cells.size=n:=by simpa [hlen] using hl.symm
    have AJ:=hp.len;simp only[Array.length_toList]at AJ;obtain⟨o0,h1,h2⟩:=Rk hR (ps:=ps) (xs:=((a.eval y).cells.toList.zipIdx 0).foldl (fun cs (p:Value×Nat)=>cs.setIfInBounds (off+p.2) p.1) xs) bn hf (by
     refine⟨by rw[K3,AJ];exact(K4 off _ _ _).symm,fun j u z hu hz=>?_⟩
     rw[AH]at hu;rw[Array.getElem?_toList,K2]at hz;simp only[Nat.add_zero,Array.length_toList,eb,hlen,AJ]at hu hz;split at hu
     ·rename_i nN
      rw[if_pos nN]at hz;exact hx _ u z hu hz
     ·rename_i nN
      rw[if_neg nN]at hz;exact hp.at_ j u z hu (by simpa using hz))
    refine⟨o0,?_,h2⟩;simp only[List.map_cons,Instr.fill,lM,eb,Bool.false_or,ne_eq,not_true_eq_false,decide_false];rw[Rj];rw[if_neg (by simp;omega)]
    exact h1
  ·cases hf
def placeOf(P:Program)(t:TypeId):Option (Nat→Option (Nat×Nat)) :=
 match P.underlying t with
 |some (.array _ e)=>(P.info? e).map fun ie i=>some (i*ie.size,ie.size)
 |some (.struct fields)=>(fields.toList.mapM (fun f=>(P.info? f.type).map fun i=>(f.offset,i.size))).map fun Rl i=>Rl.toArray[i]?
 |_=>none
theorem acO{t:TypeId}{it:TypeInfo}{z:Value}{place:Nat→Option (Nat×Nat)}(hi:P.info? t=some it)(hz:it.zero=some z)(hp:placeOf P t=some place)(parts:List (Nat×Value)) :
  P.built t parts=Instr.fill place z.cells parts:=by
 unfold placeOf at hp;unfold Program.built;split at hp
 ·rename_i n e hu
  cases K5:P.info? e with
  |none=>simp[K5]at hp
  |some ie=>simp[K5]at hp;subst hp;simp[hi,hu,hz,K5]
 ·rename_i fields hu
  cases hm:fields.toList.mapM (fun f=>(P.info? f.type).map fun i=>(f.offset,i.size)) with
  |none=>simp[hm]at hp
  |some Rl=>simp[hm]at hp;subst hp;simp[hi,hu,hz,hm]
 ·cases hp
theorem acP{o:Oper}{t:TypeId}{it:TypeInfo}{z:Value}{place:Nat→Option (Nat×Nat)}{ps:Array (Nat×Operand)}{zero:List V}{qs:List (Nat×Nat×bq)}{C:bw}(ho:o.op=.build t ps)
  (hi:P.info? t=some it) (hz:it.zero=some z) (lM:placeOf P t=some place) (hzero:tF z.cells.toList zero=true) (sK:AI place ps.toList qs=true)
  (hR:R E g S a w) (hd:∀d,o.dst=some d→d<E.nt) (ah:VO.run C o.dst S (.build zero qs)=some S'):cb P E o S S' a w:=by
 simp only[VO.run]at ah;split at ah
 ·rename_i cs hf
  cases ah;obtain⟨hl,hx⟩:=Ce (X:=S.cx g w) hzero;obtain⟨xs,h1,h2⟩:=Rk hR sK (xs:=z.cells) hf ⟨hl,fun i v y hv hy=>(hx i v y hv hy).2.2⟩;refine cb.put hR hd (x:=.agg xs) ?_ (.agg cs xs (by simpa using h2.len) (fun i v y hv hy=>h2.at_ i v y hv (by simpa using hy)))
  have hb:=acO hi hz lM ((ps.map fun(i,x)=>(i,a.eval x)).toList);rw[Array.toList_map,h1]at hb;have:=run_build (P:=P) w t (ps.map fun(i,x)=>(i,a.eval x)) xs (by rw[Array.toList_map];exact hb)
  simp only[execOp,ho];simp only[Sem.run_bind,this,Result.andThen_ok,Sem.run_pure]
 ·cases ah
theorem R.K6(hR:R E g S a w){c:Array Value}{e:TypeId}(hw:w'.heap=w.heap.push (.cells c e (0,0)))(h1:w'.os=w.os)(h2:w'.tape=w.tape)(h3:w'.output=w.output)
  {n:Nat} {ys:List (List V)} {l:List Value} (hl:jz w.heap g.m n ys l) (hc:∀(j:Nat) (y:Value),l[j]?=some y→c[j]?=some y) {cap:Nat} (eA:ys.length≤cap) :
  ∃g',R E g' S a w'∧aZ (S.cx g' w') (.slice none n ys) (.slice (some ⟨w.heap.size,0,none⟩) ys.length cap):=by
 let g':Gh:={ g with m:=cS g.m w.heap.size (ys.length*n),ow:=cS g.ow w.heap.size .none }
 have t:Touch E g S w g' S.bg S.aF.length w' w.heap.size none none:=Ek hR hw h1 h2 h3 (fun b hb=>fR _ _ hb) (fun b hb=>fR _ _ hb)
  (fun i _=>rfl) (fun i _=>rfl) (fun i _=>rfl) (fun i _=>rfl) (fun i _=>rfl) (Nat.le_refl _) (fun i a b=>absurd a (by omega)) (fun i e=>by(have e:cS g.ow w.heap.size .none w.heap.size=.aF i:=e);rw[dG]at e;cases e)
 have lK:=Em hw;refine⟨g',R.nK t hR rfl rfl (fun i=>.inl (t.keeps hR (fun e=>by cases e) (fun e=>by cases e) (fun h=>absurd h (Nat.lt_irrefl _)))) (fun s v hs=>.inl hs)
  (fun i cs ho=>.inl ⟨ho,(fun e=>by cases e),fun h=>absurd h (Nat.lt_irrefl _)⟩) (fun i k b hi hb=>.inl ⟨(fun e=>by cases e),fun h=>absurd h (Nat.lt_irrefl _)⟩)
  (fun i o ho=>.inl ⟨ho,fun h=>absurd h (Nat.lt_irrefl _)⟩),?_⟩
 have hm:g'.m w.heap.size=ys.length*n:=dG _ _ _;refine .plain (AG (m:=g'.m) (l:=l) (hl.mono t.le) (by show _<w'.heap.size;rw[hw];simp) eA (fun j y hj=>?_) (by omega) _) (fun i n' oB he k hk=>by cases he)
 show cellAt w'.heap _ _=_;rw[kZ lK,Nat.zero_add];exact hc j y hj
def K7:Value→Option Nat→V→Bool
 |.int k n,none,.int k' n'=>decide (k=k')&&n==n'
 |.bool b,none,.bool c=>b==c
 |.string s,none,.str l=>s.data.toList==l
 |.slice none 0 0,some n,.slice none m []=>n==m
 |_,_,_=>false
def tJ:List Value→Sh→List V→Bool
 |[],[],[]=>true
 |x::xs,h::sh,v::vs=>K7 x h v&&tJ xs sh vs
 |_,_,_=>false
theorem acQ{h:Array Obj}{m:Nat→Nat}{x:Value}{s:Option Nat}{v:V}(he:K7 x s v=true):v.plain=true∧fg h m v x:=by
 unfold K7 at he;split at he
 ·simp at he;obtain⟨rfl,rfl⟩:=he;exact⟨rfl,.int _ _⟩
 ·simp at he;subst he;exact⟨rfl,.bool _⟩
 ·simp at he;subst he;exact⟨rfl,.str _⟩
 ·exact⟨rfl,.nil _ _⟩
 ·cases he
theorem Rn{h:Array Obj}{m:Nat→Nat}:∀{xs:List Value} {sh:Sh} {vs:List V},tJ xs sh vs=true→vs.length=sh.length∧xs.length=sh.length ∧
  ∀(i:Nat) (v:V),vs[i]?=some v→∃x,xs[i]?=some x∧v.plain=true∧fg h m v x
 |[],[],[],_=>by simp
 |x::xs,s::sh,v::vs,he=>by
  simp only[tJ,Bool.and_eq_true]at he;obtain⟨p,q,r⟩:=Rn (h:=h) (m:=m) he.2;refine⟨by simp[p],by simp[q],fun i u hu=>?_⟩
  cases i with
  |zero=>simp at hu;subst hu;exact⟨x,by simp,acQ he.1⟩
  |succ i=>obtain⟨y,hy,z⟩:=r i u (by simpa using hu);exact⟨y,by simpa using hy,z⟩
 |[],[],_::_,he=>by simp[tJ]at he
 |[],_::_,_,he=>by simp[tJ]at he
 |_::_,[],_,he=>by simp[tJ]at he
 |_::_,_::_,[],he=>by simp[tJ]at he
theorem Ro{h:Array Obj}{m:Nat→Nat}{sh:Sh}{zs:List Value}{zero:List V}(hz:tJ zs sh zero=true)(n:Nat) :
  jz h m sh.length (List.replicate n zero) ((List.range (n*sh.length)).map fun k=>zs.getD (k % sh.length) default):=by
 obtain⟨hl,rH,hx⟩:=Rn (h:=h) (m:=m) hz;refine⟨by simp,fun i row hr=>?_,fun i row j v hr hj=>?_⟩
 ·rw[List.getElem?_replicate]at hr
  split at hr<;>cases hr;exact hl
 ·rw[List.getElem?_replicate]at hr
  split at hr
  ·rename_i hi
   cases hr;obtain⟨u,hu,p,q⟩:=hx j v hj;have pQ:j<zs.length:=eK hu;have HB:j<sh.length:=by omega
   refine⟨p,u,?_,q⟩;have:=KS hi HB;simp only[List.getElem?_map,List.getElem?_range this,Option.map_some,Option.some.injEq];rw[Nat.add_comm,Nat.add_mul_mod_self_right,Nat.mod_eq_of_lt HB];simp[List.getD,hu]
  ·cases hr
def AK(len:Nat):List (Nat×Operand)→List (Nat×bq)→Bool
 |[],[]=>true
 |(i,y)::ps,(k,x)::qs=>i==k&&bO y x&&AK len ps qs
 |_,_=>false
theorem acR{sh:Sh}{v:V}{r:List V}(h:mn sh v.cells=some r):∀u∈v.cells,u.cI=true:=fun u hu=>by
 have:∀{sh:Sh} {vs us:List V},mn sh vs=some us→∀u∈vs,u.cI=true:=by
  intro sh;induction sh with
  |nil=>intro vs us h u hu;cases vs<;>simp_all[mn]
  |cons s sh ih =>
   intro vs us h u hu;cases vs with
   |nil=>simp at hu
   |cons z zs =>
    simp only[mn]at h;split at h
    ·rename_i p q h1 h2
     rcases List.mem_cons.1 hu with e|e
     ·subst e
      unfold el at h1;split at h1<;>first|rfl|cases h1
     ·exact ih h2 u e
    ·cases h
 exact this h u hu
theorem Rp(hR:R E g S a w){sh:Sh}:∀{ps:List (Nat×Operand)} {qs:List (Nat×bq)} {len:Nat},AK len ps qs=true→∀{rs xc:List (List V)} {xs:Array Value},tB S sh qs rs=some xc →
  jz w.heap g.m sh.length rs xs.toList→∃o0,Instr.fill (fun i=>some (i*sh.length,sh.length)) xs (ps.map fun(i,x)=>(i,a.eval x))=some o0∧jz w.heap g.m sh.length xc o0.toList∧xc.length=rs.length
 |[],[],_,_,rs,xc,xs,h,hp=>by simp only[tB,Option.some.injEq]at h;subst h;exact⟨xs,rfl,hp,rfl⟩
 |[],_::_,_,h,_,_,_,_,_=>by simp[AK]at h
 |_::_,[],_,h,_,_,_,_,_=>by simp[AK]at h
 |(i,y)::ps,(k,x)::qs,len,h,rs,xc,xs,hf,hp=>by
  simp only[AK,Bool.and_eq_true,beq_iff_eq]at h;obtain⟨⟨rfl,ho⟩,bn⟩:=h;simp only[tB]at hf;split at hf
  ·rename_i v hv
   split at hf
   ·rename_i r hr
    cases bA:Nat.blt i rs.length with
    |false=>simp[bA]at hf
    |true =>
     simp only[bA,cond_true]at hf;have bA:i<rs.length:=Nat.le_of_ble_eq_true bA;obtain⟨hl,hx⟩:=Cf (cQ hR ho hv) (acR hr);obtain⟨e1,e2⟩:=Eo hr;have eb:(a.eval y).cells.size=sh.length:=by simp at hl;omega
     have AJ:=hp.len;simp only[Array.length_toList]at AJ;have fQ:i*sh.length+sh.length≤rs.length*sh.length:=by
      have:=Nat.mul_le_mul_right sh.length bA;rw[Nat.succ_mul]at this;exact this
     obtain⟨o0,h1,h2,h3⟩:=Rp hR (ps:=ps) (xs:=((a.eval y).cells.toList.zipIdx 0).foldl (fun cs (p:Value×Nat)=>cs.setIfInBounds (i*sh.length+p.2) p.1) xs) bn hf (by
      refine⟨?_,fun k row hk=>?_,fun k row j u hk hj=>?_⟩
      ·rw[List.length_set,← AJ];exact K4 _ _ _ _
      ·rw[List.getElem?_set]at hk
       split at hk
       ·first
        |(cases hk;exact e1)
        |(split at hk
          ·cases hk;exact e1
          ·cases hk)
       ·exact hp.row k row hk
      ·have HC:k<rs.length:=by have:=eK hk;simpa using this
       rw[List.getElem?_set]at hk;simp only[Array.getElem?_toList,K2,Nat.add_zero,Array.length_toList,eb,AJ];split at hk
       ·rename_i kK
        subst kK;have hk:r=row:=by simpa [bA] using hk
        subst hk;have pQ:=eK hj;rw[e1]at pQ;obtain⟨z,s,hz,lL⟩:=Hw hr j u hj;have qw:j<(a.eval y).cells.size:=by omega
        obtain⟨p,q⟩:=En lL (hx j z (a.eval y).cells[j] hz (by simp[qw]))
        refine⟨p,_,?_,q⟩;rw[if_pos (by omega),Nat.add_sub_cancel_left]
        simp[qw]
       ·rename_i kK
        obtain⟨p,z,hz,q⟩:=hp.cell k row j u hk hj;have pQ:=eK hj;rw[hp.row k row hk]at pQ;refine⟨p,z,?_,q⟩;rw[if_neg]
        ·simpa using hz
        ·rintro⟨p1,p2,_⟩
         rcases Nat.lt_or_ge i k with h|h
         ·have:=Nat.mul_le_mul_right sh.length h
          rw[Nat.succ_mul]at this;omega
         ·have h:k<i:=by omega
          have:=Nat.mul_le_mul_right sh.length h;rw[Nat.succ_mul]at this;omega)
     refine⟨o0,?_,h2,by rw[h3];simp⟩
     simp only[List.map_cons,Instr.fill,eb,Bool.false_or,ne_eq,not_true_eq_false,decide_false];rw[Rj];rw[if_neg (by simp;omega)]
     exact h1
   ·cases hf
  ·cases hf
theorem Rq(n m:Nat)(zs:Array Value)(hz:zs.size=m)(hm:0<m):((Array.range (n*m)).map fun i=>zs[i % zs.size]!).toList=(List.range (n*m)).map fun k=>zs.toList.getD (k % m) default:=by
 apply List.ext_getElem?;intro j;by_cases hj:j<n*m
 ·have:=Nat.mod_lt j hm
  have h2:j % m<zs.size:=by omega
  simp[hj,hz,List.getD];rw[getElem!_pos zs (j % m) h2];simp[h2]
 ·simp[hj]
theorem acS{o:Oper}{t e:TypeId}{ie:TypeInfo}{z:Value}{tok:Option Nat}{sh:Sh}{zero:List V}{len:Nat}{ps:Array (Nat×Operand)}{qs:List (Nat×bq)}{C:bw}(ho:o.op=.buildSlice t len ps)
  (ht:P.underlying t=some (.slice e)) (hi:P.info? e=some ie) (hz:ie.zero=some z) (eb:ie.size=sh.length) (nM:z.cells.size=sh.length) (gM:0<sh.length) (hlen:0<len) (acT:len*sh.length≤16777216)
  (uR:tJ z.cells.toList sh zero=true) (sK:AK len ps.toList qs=true) (hn:∀f,tok=some f→S.eG f)
  (hR:R E g S a w) (hd:∀d,o.dst=some d→d<E.nt) (ah:VO.run C o.dst S (.lit tok sh zero len qs)=some S'):cb P E o S S' a w:=by
 simp only[VO.run]at ah;split at ah
 ·rename_i rs hf
  have hzero:jz w.heap g.m sh.length (List.replicate len zero) ((Array.range (len*ie.size)).map fun i=>z.cells[i % z.cells.size]!).toList:=by
   rw[eb,Rq len sh.length z.cells nM gM];exact Ro uR len
  obtain⟨xs,h1,h2,h3⟩:=Rp hR sK (xs:=(Array.range (len*ie.size)).map fun i=>z.cells[i % z.cells.size]!) hf hzero;have h3:rs.length=len:=by simpa using h3
  have hbs:=run_buildSlice (P:=P) w t e len (ps.map fun(i,x)=>(i,a.eval x)) xs ie z ht hi hz (by rw[eb];omega) (by rw[eb];have:=Nat.mul_pos hlen gM;omega) (by rw[Array.toList_map,eb];rw[eb]at h1;exact h1)
  have gp:(execOp a.eval o).run P w=.ok (.value (.slice (some ⟨w.heap.size,0,none⟩) len len)) (w.alloc (.cells xs e)):=by
   simp only[execOp,ho];simp only[Sem.run_bind,hbs,Result.andThen_ok,Sem.run_pure]
  have Cj:=h2.len;simp only[Array.length_toList,h3]at Cj;split at ah
  ·rename_i f
   cases ah;obtain⟨g',r1,r2⟩:=hR.KW (w':=w.alloc (.cells xs e)) (f:=f) rfl rfl rfl rfl (n:=sh.length) (ys:=rs) (l:=xs.toList) (by omega) (.inl (hn f rfl)) h2 (fun j y hj=>by simpa using hj) (cap:=len) (by omega) (by omega)
   rw[h3]at r1 r2;exact .value gp (r1.put hd r2)
  ·cases ah
   obtain⟨g',r1,r2⟩:=hR.K6 (w':=w.alloc (.cells xs e)) rfl rfl rfl rfl (n:=sh.length) (ys:=rs) (l:=xs.toList) h2 (fun j y hj=>by simpa using hj) (cap:=len) (by omega)
   rw[h3]at r2;exact .value gp (r1.put hd r2)
 ·cases ah
theorem wrap_small{n:Int}(h0:0≤n)(h1:n≤lim):IntKind.i64.wrap n=n:=by
 unfold lim at h1;exact IntWalk.i64_in _ (by omega)
theorem Ru{t e:TypeId}{ie:TypeInfo}{z:Value}{k:IntKind}{n:Int}(ht:P.underlying t=some (.slice e))(hi:P.info? e=some ie)(hz:ie.zero=some z)(gM:0<ie.size)(oZ:ie.bytes≤32768)(h0:0≤n)(h1:n≤lim) :
  (Instr.makeSlice t (.int k n) (.int k n)).run P w=.ok (.slice (some ⟨w.heap.size,0,none⟩) n.toNat n.toNat) (w.alloc (.cells ((Array.range (n.toNat*ie.size)).map fun i=>z.cells[i % z.cells.size]!) e)):=by
 have hb:(ie.bytes:Int)*n≤281474976710656:=by
  unfold lim at h1;have a1:(ie.bytes:Int)≤32768:=by omega
  have:=Int.mul_le_mul a1 h1 h0 (by decide)
  simp at this;omega
 have hw:=wrap_small h0 h1;by_cases hn:n.toNat*ie.size=0
 ·have vW:n.toNat=0:=by
   rcases Nat.mul_eq_zero.1 hn with h|h
   ·exact h
   ·omega
  have:n=0:=by omega
  subst this;simp[Instr.makeSlice,iV ht,asInt,asIntOf,typeInfo,hi,hw,sizeOf,newRow,show Array.range 0 = #[] from rfl]
 ·have h3:¬ (n<0):=by omega
  have h4:¬ (281474976710656<(ie.bytes:Int)*n):=by omega
  simp[Instr.makeSlice,iV ht,asInt,asIntOf,typeInfo,hi,hw,sizeOf,newRow,h3,h4,hn,zeroValue,hz]
theorem Rw(zero:List V):∀(n k:Nat),(List.replicate n zero).flatten[k]?=if k<n*zero.length then zero[k % zero.length]? else none
 |0,k=>by simp
 |n+1,k=>by
  have e:(n+1)*zero.length=n*zero.length+zero.length:=Nat.succ_mul _ _;rw[List.replicate_succ,List.flatten_cons,List.getElem?_append,Rw zero n,e];generalize n*zero.length=q;by_cases h:k<zero.length
  ·rw[if_pos h,if_pos (by omega),Nat.mod_eq_of_lt h]
  ·rw[if_neg h]
   by_cases h2:k<q+zero.length
   ·rw[if_pos h2,if_pos (by omega),Nat.mod_eq_sub_mod (a:=k) (by omega)]
   ·rw[if_neg h2,if_neg (by omega)]
theorem acV{o:Oper}{t e:TypeId}{ie:TypeInfo}{z:Value}{id:Nat}{zero:List V}{p p':Operand}{x:bq}{C:bw}(ho:o.op=.makeSlice t p p')
  (ht:P.underlying t=some (.slice e)) (hi:P.info? e=some ie) (hz:ie.zero=some z) (eb:ie.size=zero.length) (gM:0<ie.size) (oZ:ie.bytes≤32768)
  (tK:tF z.cells.toList zero=true) (hp:bO p x=true) (xd:bO p' x=true) (hn:S.eG id)
  (hR:R E g S a w) (hd:∀d,o.dst=some d→d<E.nt) (ah:VO.run C o.dst S (.sE id zero x)=some S'):cb P E o S S' a w:=by
 simp only[VO.run]at ah;split at ah
 ·rename_i k n hx
  cases hc:(decide (0≤n)&&decide (n≤(lim:Int))) with
  |false=>simp[hc]at ah
  |true =>
   simp only[hc,cond_true]at ah;simp only[Bool.and_eq_true,decide_eq_true_eq]at hc;cases ah;have e1:=lY (cQ hR hp hx);have K8:=lY (cQ hR xd hx);obtain⟨hl,hv⟩:=Ce (X:=S.cx g w) tK;have nM:z.cells.size=ie.size:=by rw[eb];simpa using hl.symm
   have hm:=Ru (P:=P) (w:=w) (k:=k) ht hi hz gM oZ hc.1 hc.2;obtain⟨g',r1,r2,r3⟩:=hR.newObj (cpn:=n.toNat*zero.length) (hcpn:=by simp[eb]) (w':=w.alloc (.cells ((Array.range (n.toNat*ie.size)).map fun i=>z.cells[i % z.cells.size]!) e)) hn rfl rfl rfl rfl (cs:=(List.replicate n.toNat zero).flatten) (fun j v hj=>by
    rw[Rw]at hj;split at hj
    ·rename_i bA
     have nO:j % zero.length<z.cells.size:=by rw[nM,eb];exact Nat.mod_lt _ (by omega)
     obtain⟨q1,q2,q3⟩:=hv (j % zero.length) v z.cells[j % zero.length] hj (by simp[nO])
     refine⟨q1,q2 _,z.cells[j % zero.length],?_,q3⟩;simp[nM,eb,bA];rw[getElem!_pos z.cells (j % zero.length) nO]
    ·cases hj)
   refine cb.value (x:=.slice (some ⟨w.heap.size,0,none⟩) n.toNat n.toNat) (g':=g') (w':=w.alloc (.cells ((Array.range (n.toNat*ie.size)).map fun i=>z.cells[i % z.cells.size]!) e)) ?_ (r1.put hd ?_)
   ·simp only[execOp,ho,e1,K8]
    simp only[Sem.run_bind,hm,Result.andThen_ok,Sem.run_pure]
   ·rw[←r2];exact .bQ id _ _ _ (Nat.le_refl _) r3.symm
 ·cases ah
theorem acW{o:Oper}{t e:TypeId}{ie:TypeInfo}{z:Value}{sh:Sh}{zero:List V}{len:Nat}{p p':Operand}{C:bw}(ho:o.op=.makeSlice t p p')
  (ht:P.underlying t=some (.slice e)) (hi:P.info? e=some ie) (hz:ie.zero=some z) (eb:ie.size=sh.length) (nM:z.cells.size=sh.length) (oZ:ie.bytes≤32768) (gM:0<sh.length) (acT:len≤65536)
  (uR:tJ z.cells.toList sh zero=true) (hp:bO p (.c (.int .i64 len))=true) (xd:bO p' (.c (.int .i64 len))=true)
  (hR:R E g S a w) (hd:∀d,o.dst=some d→d<E.nt) (ah:VO.run C o.dst S (.lit none sh zero len [])=some S'):cb P E o S S' a w:=by
 simp only[VO.run,tB]at ah;cases ah;have hzero:jz w.heap g.m sh.length (List.replicate len zero) ((Array.range (len*ie.size)).map fun i=>z.cells[i % z.cells.size]!).toList:=by
  rw[eb,Rq len sh.length z.cells nM gM];exact Ro uR len
 have e1:=lY (cQ hR hp rfl);have K8:=lY (cQ hR xd rfl);have hm:=Ru (P:=P) (w:=w) (k:=.i64) (n:=(len:Int)) ht hi hz (by omega) oZ (by omega) (by unfold lim;omega)
 simp only[Int.toNat_natCast]at hm;obtain⟨g',r1,r2⟩:=hR.K6 (w':=w.alloc (.cells ((Array.range (len*ie.size)).map fun i=>z.cells[i % z.cells.size]!) e)) rfl rfl rfl rfl (n:=sh.length) (ys:=List.replicate len zero) (l:=((Array.range (len*ie.size)).map fun i=>z.cells[i % z.cells.size]!).toList) hzero (fun j y hj=>by rw[←Array.getElem?_toList];exact hj) (cap:=len) (by simp)
 rw[List.length_replicate]at r2;refine cb.value (x:=.slice (some ⟨w.heap.size,0,none⟩) len len) (g':=g') (w':=w.alloc (.cells ((Array.range (len*ie.size)).map fun i=>z.cells[i % z.cells.size]!) e)) ?_ (r1.put hd r2);simp only[execOp,ho,e1,K8];simp only[Sem.run_bind,hm,Result.andThen_ok,Sem.run_pure]
theorem K9{t:TypeId}{n:Nat}(hs:eO P t=some n){b o:Nat}{v:Value}(hv:v.cells.size=n){c:Array Value}{e:TypeId}(hb:w.heap[b]?=some (.cells c e (0,0)))(fQ:o+n≤c.size)
  (h1:∀y∈v.cells.toList,y.oneCell'=true):(storeVar t ⟨b,o,none⟩ v).run P w=.ok () (w.setRow b (c.toList.take o++v.cells.toList++c.toList.drop (o+n)).toArray):=by
 have gN:=run_storeCells_at P b o e v.cells.toList 0 c w hb (by simp;omega) h1
 simp only[Nat.add_zero,Array.length_toList,hv]at gN;simp[storeVar,nH hs,hv,gN]
theorem Ck{c:Array Value}{l:List Value}{o:Nat}(fQ:o+l.length≤c.size)(k:Nat):(c.toList.take o++l++c.toList.drop (o+l.length)).toArray[k]?=if o≤k∧k<o+l.length then l[k-o]? else c[k]?:=by
 simp only[List.getElem?_toArray,List.append_assoc];by_cases h:k<o
 ·rw[List.getElem?_append_left (by simp;omega),if_neg (by omega)]
  simp[h]
 ·rw[List.getElem?_append_right (by simp;omega)]
  have e:(c.toList.take o).length=o:=by simp;omega
  rw[e];by_cases h2:k-o<l.length
  ·rw[List.getElem?_append_left h2,if_pos (by omega)]
  ·rw[List.getElem?_append_right (by omega),if_neg (by omega),List.getElem?_drop]
   simp;congr 1;omega
theorem Ex{c:Array Value}{l:List Value}{o:Nat}(fQ:o+l.length≤c.size):(c.toList.take o++l++c.toList.drop (o+l.length)).toArray.size=c.size:=by
 simp;omega
theorem HD(w:World)(b i:Nat)(c:Array Value)(h:i≠b):(w.setRow b c).heap[i]?=w.heap[i]?:=by
 simp only[World.setRow,Array.getElem?_modify];rw[if_neg (by omega)]
theorem Ey{b:Nat}{c':Array Value}(hm:g.m b=0)(xe:E.w0.heap.size≤b∨∃i,i<E.N0∧E.g0.ow b=.aF i)(Ez:∀p q,g.ow b≠.cell p q)(hR:R E g S a w) :
  Touch E g S w g S.bg S.aF.length (w.setRow b c') b none none where
 os:=rfl
 tape:=rfl
 output:=rfl
 size:=by simp
 heap:=fun i hi _=>HD w b i c' hi
 m:=fun _ _=>rfl
 ow:=fun _ _=>rfl
 κ:=fun _ _=>rfl
 cp:=fun _ _=>rfl
 τ:=fun _ _=>rfl
 T:=fun _ _=>rfl
 γ:=fun _ _=>rfl
 eN:=Nat.le_refl _
 γnew:=fun i a b=>absurd a (by omega)
 fresh:=xe.imp (fun z=>z) .inl
 ib:=fun p q _ e=>absurd e (Ez p q)
 lv:=fun i e=>hR.Cd e (Nat.le_refl _)
 jK:=fun o y ho _=>absurd ho (by omega)
 oV:=fun _=>Nat.le_refl _
theorem acX{o:Oper}{t:TypeId}{sh:Sh}{p q:Operand}{x y:bq}{id off:Nat}{cs:List V}{v:V}(ho:o.op=.store t p q)(uV:o.dst=none)(hs:eO P t=some sh.length)(hp:bO p x=true)(hq:bO q y=true)
  (hR:R E g S a w) (hx:S.ev x=some (.bf id off)) (hy:S.ev y=some v) (fw:look id S.aU=some cs) (hl:v.cells.length=sh.length) (hle:off+sh.length≤cs.length) (iX:∀u∈v.cells,u.cI=true) (gM:0<sh.length) :
  cb P E o S { S with aU:=(id,jg cs off v.cells)::S.aU } a w:=by
 rcases hR.aU id cs fw with⟨h0,uS⟩ | ⟨cA,gf,hm,c,e,hh,fC,hj⟩
 ·subst h0;simp only[List.length_nil]at hle;omega
 obtain⟨lM,Cl⟩:=Cf (cQ hR hq hy) iX;have eb:(a.eval q).cells.size=sh.length:=by simp at lM;omega
 have hc:cs.length≤c.size:=by
  rcases Nat.lt_or_ge c.size cs.length with h|h
  ·obtain⟨_,y,hy,_⟩:=hj c.size cs[c.size] (List.getElem?_eq_getElem h)
   simp at hy
  ·exact h
 have h1:∀y∈(a.eval q).cells.toList,y.oneCell'=true:=fun y hy=>by
  obtain⟨k,hk⟩:=List.mem_iff_getElem?.1 hy;have HC:=eK hk;have qx:k<v.cells.length:=by omega
  exact KQ (Cl k v.cells[k] y (List.getElem?_eq_getElem qx) hk) (iX _ (List.getElem_mem qx))
 have fQ:off+(a.eval q).cells.toList.length≤c.size:=by simp;omega
 have ah:=K9 (P:=P) (w:=w) hs (v:=a.eval q) eb hh (o:=off) (by omega) h1
 have hlen:(a.eval q).cells.toList.length=sh.length:=by simpa using eb
 rw[←hlen]at ah
 let c':Array Value:=(c.toList.take off++(a.eval q).cells.toList++c.toList.drop (off+(a.eval q).cells.toList.length)).toArray
 have lK:(w.setRow (g.κ id) c').heap[g.κ id]?=some (.cells c' e (0,0)):=setRow_heap w _ c c' e _ hh;have tt:=Ey (c':=c') (S:=S) (w:=w) hm (.inl gf) (fun _ _ e=>by rw[cA]at e;cases e) hR
 have hk:∀i,iU (S.cx g w) ⟨(w.setRow (g.κ id) c').heap,g,S.aF.length,S.bg⟩ i:=fun i=>tt.keeps hR (fun e=>by cases e) (fun e=>by cases e) (fun _ e=>by rw[cA]at e;cases e)
 refine cb.skip (g':=g) (w':=w.setRow (g.κ id) c') ?_ uV (R.nK tt hR rfl rfl (fun i=>.inl (hk i)) (fun s v hs=>.inl hs) (fun i dQ hi=>?_) (fun f k b hf hb=>.inl ⟨(fun e=>by cases e),fun _ e=>by rw[cA]at e;cases e⟩)
  (fun i o hi=>.inl ⟨hi,fun _=>⟨fun e=>(by rw[cA]at e;cases e),fun _ e=>(by rw[cA]at e;cases e)⟩⟩))
 ·simp only[execOp,ho,yT (cQ hR hp hx)]
  have AE:(storeVar t ⟨(S.cx g w).g.κ id,off,none⟩ (a.eval q)).run P w=.ok () (w.setRow (g.κ id) c'):=ah;simp[Instr.storeAt,Instr.sureAddr,AE]
 ·rw[dA]at hi
  by_cases jk:id=i
  ·subst jk
   rw[if_pos rfl]at hi;cases hi;refine .inr ⟨cA,gf,hm,c',e,lK,(by rw[Ex (by omega)];exact fC),fun j u hu=>?_⟩
   rw[AH]at hu;show _∧∃y,c'[j]?=some y∧_;rw[show c'[j]?=_ from Ck fQ j];split at hu
   ·rename_i nN
    rw[if_pos (by omega)]
    have qy:=eK hu;have pQ:j-off<(a.eval q).cells.toList.length:=by omega
    exact⟨iX u (List.mem_of_getElem? hu),_,List.getElem?_eq_getElem pQ,(Cl (j-off) u _ hu (List.getElem?_eq_getElem pQ)).mono tt.le (fun i=>.inl (hk i))⟩
   ·rename_i nN
    have Cn:=eK hu;rw[if_neg (by omega)]
    obtain⟨q1,z,q2,q3⟩:=hj j u hu;exact⟨q1,z,q2,q3.mono tt.le (fun i=>.inl (hk i))⟩
  ·rw[if_neg jk]at hi
   exact .inl ⟨hi,(fun e=>by cases e),fun _ e=>jk (by rw[cA]at e;cases e;rfl)⟩
theorem Cp{X:Cx}{sh:Option Nat}{v u:V}{y:Value}(h:oR sh v=some u)(hr:aZ X v y):u.cI=true∧(∀d,u.cj d=false)∧aZ ⟨X.h,X.g,X.N,[]⟩ u y∧v.cI=true:=by
 have uR:∀{v u},el sh v=some u→aZ X v y→u.cI=true∧(∀d,u.cj d=false)∧aZ ⟨X.h,X.g,X.N,[]⟩ u y∧v.cI=true:=fun {v u} h hr=>by
  obtain⟨p,q⟩:=En h hr;refine⟨by cases u<;>simp_all[V.plain,V.cI],fun d=>?_,.plain q (tH p),?_⟩
  ·cases u<;>simp_all[V.plain,V.cj,V.dz,V.cD]
   rename_i tok _ _;cases tok<;>simp_all[V.cD]
  ·unfold el at h
   split at h<;>first|rfl|cases h
 unfold oR at h;split at h
 ·cases h;obtain⟨e,hi⟩:=yU hr;rw[e];exact⟨rfl,fun _=>rfl,.bG _ _ hi,rfl⟩
 ·cases h;cases hr with
  |plain h _=>cases h
  |dh _ _ _ _ h hl=>exact⟨rfl,fun _=>rfl,.dh _ _ _ _ h hl,rfl⟩
  |uN _ _ h hz=>exact⟨rfl,fun _=>rfl,.uN _ _ h hz,rfl⟩
 ·cases h;cases hr with
  |plain h _=>cases h
  |fY=>exact⟨rfl,fun _=>rfl,.fY,rfl⟩
 ·cases h;cases hr with
  |plain h _=>cases h
  |fn _ _ xs hl hx=>exact⟨rfl,fun _=>rfl,.fn _ _ xs hl hx,rfl⟩
 ·cases h;cases hr with
  |plain h _=>cases h
  |fZ=>exact⟨rfl,fun _=>rfl,.fZ,rfl⟩
 ·cases h;cases hr with
  |plain h _=>cases h
  |map _ hi=>exact⟨rfl,fun _=>rfl,.map _ hi,rfl⟩
 ·cases h;cases hr with
  |plain h _=>cases h
  |gd=>exact⟨rfl,fun _=>rfl,.gd,rfl⟩
 ·exact uR h hr
theorem La:∀{sh:Sh} {vs us:List V},sG sh vs=some us→us.length=sh.length∧vs.length=sh.length
 |[],[],us,h=>by simp[sG]at h;subst h;simp
 |[],_::_,_,h=>by simp[sG]at h
 |_::_,[],_,h=>by simp[sG]at h
 |s::sh,v::vs,us,h=>by
  simp only[sG]at h;split at h
  ·rename_i u kH h1 h2
   cases h;obtain⟨a,b⟩:=La h2;simp[a,b]
  ·cases h
theorem Lc:∀{sh:Sh} {vs us:List V},sG sh vs=some us→∀(j:Nat) (u:V),us[j]?=some u→∃v s,vs[j]?=some v∧oR s v=some u
 |[],[],us,h,j,u,hu=>by simp[sG]at h;subst h;simp at hu
 |[],_::_,_,h,_,_,_=>by simp[sG]at h
 |_::_,[],_,h,_,_,_=>by simp[sG]at h
 |s::sh,v::vs,us,h,j,u,hu=>by
  simp only[sG]at h;split at h
  ·rename_i u' kH h1 h2
   cases h;cases j with
   |zero=>simp at hu;subst hu;exact⟨v,s,by simp,h1⟩
   |succ j=>obtain⟨z,t,p,q⟩:=Lc h2 j u (by simpa using hu);exact⟨z,t,by simpa using p,q⟩
  ·cases h
theorem acY{s:Option Nat}{v u:V}(h:oR s v=some u):v.cI=true:=by
 unfold oR at h;split at h
 all_goals first|rfl|skip
 unfold el at h;split at h<;>first|rfl|cases h
theorem Rx{h:Array Obj}{m:Nat→Nat}{t t':Option Nat}{n:Nat}{es:List (List V)}{x:Value}(hr:fg h m (.slice t n es) x):fg h m (.slice t' n es) x:=by
 cases hr with
 |nil=>exact .nil _ _
 |empty _ _ a cap=>exact .empty _ _ a cap
 |slice _ _ _ b off cap ys hb eA iM hc hv hp hm=>exact .slice t' n es b off cap ys hb eA iM hc hv hp hm
def yZ:Value→Option Nat
 |.slice (some a) (_+1) _=>some a.block
 |_=>none
theorem EA{a:Addr}{n c:Nat}(h:0<n):yZ (.slice (some a) n c)=some a.block:=by
 cases n with
 |zero=>omega
 |succ n=>rfl
theorem Ld{x:Value}(h:la x):yZ x=none:=by
 rcases h with rfl | ⟨a,rfl⟩<;>rfl
theorem Cq{X:Cx}{sh:Option Nat}{v u:V}{y:Value}(h:Au sh v=some u)(hr:aZ X v y) :
  u.cI=true∧(∀d,u.cj d=false)∧aZ ⟨X.h,X.g,X.N,[]⟩ u y∧v.cI=true∧∀n es,u=.fm n es→es=[]∧la y:=by
 have hg:∀{v u},oR sh v=some u→aZ X v y→u.cI=true∧(∀d,u.cj d=false)∧aZ ⟨X.h,X.g,X.N,[]⟩ u y∧v.cI=true∧∀n es,u=.fm n es→es=[]∧la y:=fun {v u} h hr=>by
  obtain⟨h1,h2,h3,h4⟩:=Cp h hr;refine⟨h1,h2,h3,h4,fun n es e=>?_⟩;subst e;exfalso;unfold oR at h;split at h
  all_goals first|(cases h;done)|skip
  unfold el at h;split at h
  all_goals first|(cases h;done)|skip
  split at h<;>cases h
 unfold Au at h;split at h
 ·split at h
  ·cases h
   have e:=nG hr;subst e;exact⟨rfl,fun _=>rfl,.fm (.nil _ _),rfl,fun n es e=>by cases e;exact⟨rfl,.inl rfl⟩⟩
  ·exact hg h hr
 ·cases h
  have hz:=sJ hr;exact⟨rfl,fun _=>rfl,.fm (by rcases hz with rfl | ⟨a,rfl⟩<;>first|exact .nil _ _|exact .empty _ _ a 0),rfl,fun n es e=>by cases e;exact⟨rfl,hz⟩⟩
 ·exact hg h hr
theorem EB:∀{sh:Sh} {vs us:List V},lX sh vs=some us→us.length=sh.length∧vs.length=sh.length
 |[],[],us,h=>by simp[lX]at h;subst h;simp
 |[],_::_,_,h=>by simp[lX]at h
 |_::_,[],_,h=>by simp[lX]at h
 |s::sh,v::vs,us,h=>by
  simp only[lX]at h;split at h
  ·rename_i u kH h1 h2
   cases h;obtain⟨a,b⟩:=EB h2;simp[a,b]
  ·cases h
theorem y3:∀{sh:Sh} {vs us:List V},lX sh vs=some us→∀(j:Nat) (u:V),us[j]?=some u→∃v s,vs[j]?=some v∧Au s v=some u
 |[],[],us,h,j,u,hu=>by simp[lX]at h;subst h;simp at hu
 |[],_::_,_,h,_,_,_=>by simp[lX]at h
 |_::_,[],_,h,_,_,_=>by simp[lX]at h
 |s::sh,v::vs,us,h,j,u,hu=>by
  simp only[lX]at h;split at h
  ·rename_i u' kH h1 h2
   cases h;cases j with
   |zero=>simp at hu;subst hu;exact⟨v,s,by simp,h1⟩
   |succ j=>obtain⟨z,t,p,q⟩:=y3 h2 j u (by simpa using hu);exact⟨z,t,by simpa using p,q⟩
  ·cases h
theorem acZ{s:Option Nat}{v u:V}(h:Au s v=some u):v.cI=true:=by
 unfold Au at h;split at h
 ·rfl
 ·rfl
 ·exact acY h
theorem Ry{sh:Sh}{vs us:List V}(h:lX sh vs=some us):∀v∈vs,v.cI=true:=fun v hv=>by
 obtain⟨j,hj⟩:=List.mem_iff_getElem?.1 hv;obtain⟨e1,e2⟩:=EB h;have:=eK hj;obtain⟨z,s,hz,hg⟩:=y3 h j us[j] (List.getElem?_eq_getElem (by omega))
 rw[hj]at hz;cases hz;exact acZ hg
theorem Lf{h:Array Obj}{g:Gh}{b j n:Nat}{x:Value}(hz:la x):End h g b j n 0 x:=.inl ⟨rfl,hz⟩
theorem Cr(hR:R E g S a w){i:Nat}{o:aP}(ho:S.aF[i]?=some o)(cg:o≠.cells []):g.γ i<w.heap.size:=by
 obtain⟨_,h2⟩:=(hR.aF.obj i o ho).resolve_left cg;have key:∃ob,w.heap[g.γ i]?=some ob:=by
  cases o with
  |cells cs=>obtain⟨_,c,e,h4,_⟩:=h2;exact⟨_,h4⟩
  |map es=>obtain⟨_,c,e,h4,_⟩:=h2;exact⟨_,h4⟩
 obtain⟨ob,h4⟩:=key;rcases Nat.lt_or_ge (g.γ i) w.heap.size with h|h
 ·exact h
 ·simp[Array.getElem?_eq_none h]at h4
theorem R.HE(hR:R E g S a w){b i:Nat}(cA:g.ow b=.aF i):E.w0.heap.size≤b∨∃k,k<E.N0∧E.g0.ow b=.aF k:=by
 rcases Nat.lt_or_ge b E.w0.heap.size with h|h
 ·obtain⟨h1,h2⟩:=hR.same.lv b i cA h
  exact .inr ⟨i,h2,h1⟩
 ·exact .inl h
theorem Rz{cs:List V}{k:Nat}{u:V}(h:cs[k]?=some u):aP.cells cs≠.cells []:=fun e=>by cases e;simp at h
theorem ac0{o:Oper}{t:TypeId}{sh:Sh}{p q:Operand}{x y:bq}{i off:Nat}{cs vs:List V}{v:V}(ho:o.op=.store t p q)(uV:o.dst=none)(hs:eO P t=some sh.length)(hp:bO p x=true)(hq:bO q y=true)
  (hR:R E g S a w) (hx:S.ev x=some (.bG i off)) (hy:S.ev y=some v) (fw:S.aF[i]?=some (.cells cs)) (hg:lX sh v.cells=some vs) (hle:off+vs.length≤cs.length) (cg:cs≠[]) :
  cb P E o S { S with aF:=S.aF.set i (.cells (jg cs off vs)) } a w:=by
 obtain⟨cA,hm,c,e,hh,dw,hj⟩:=(hR.aF.obj i _ fw).resolve_left (fun e=>cg (by cases e;rfl))
 have hi:=eK fw;obtain⟨e1,e2⟩:=EB hg;have iX:=Ry hg;obtain⟨lM,Cl⟩:=Cf (cQ hR hq hy) iX;have eb:(a.eval q).cells.size=sh.length:=by simp at lM;omega
 have h1:∀y∈(a.eval q).cells.toList,y.oneCell'=true:=fun y hy=>by
  obtain⟨k,hk⟩:=List.mem_iff_getElem?.1 hy;have HC:=eK hk;have qx:k<v.cells.length:=by omega
  exact KQ (Cl k v.cells[k] y (List.getElem?_eq_getElem qx) hk) (iX _ (List.getElem_mem qx))
 have hlen:(a.eval q).cells.toList.length=sh.length:=by simpa using eb
 have fQ:off+(a.eval q).cells.toList.length≤c.size:=by omega
 have ah:=K9 (P:=P) (w:=w) hs (v:=a.eval q) eb hh (o:=off) (by omega) h1
 rw[←hlen]at ah
 let c':Array Value:=(c.toList.take off++(a.eval q).cells.toList++c.toList.drop (off+(a.eval q).cells.toList.length)).toArray
 have lK:(w.setRow (g.γ i) c').heap[g.γ i]?=some (.cells c' e (0,0)):=setRow_heap w _ c c' e _ hh;have tt:=Ey (c':=c') (S:=S) (w:=w) hm (hR.HE cA) (fun _ _ e=>by rw[cA]at e;cases e) hR
 have hk:∀k,iU (S.cx g w) ⟨(w.setRow (g.γ i) c').heap,g,S.aF.length,S.bg⟩ k:=fun k=>tt.keeps hR (fun e=>by cases e) (fun e=>by cases e) (fun _ e=>by rw[cA]at e;cases e)
 have pd:Le ⟨w.heap,g,S.aF.length,[]⟩ ⟨(w.setRow (g.γ i) c').heap,g,S.aF.length,[]⟩:=⟨tt.le.size,tt.le.cells,tt.le.m,tt.le.eN,tt.le.γ⟩;refine cb.skip (g':=g) (w':=w.setRow (g.γ i) c') ?_ uV (R.nK tt hR rfl (by simp) (fun i=>.inl (hk i)) (fun s v hs=>.inl hs) (fun id dQ hi=>.inl ⟨hi,(fun e=>by cases e),fun _ e=>by rw[cA]at e;cases e⟩)
  (fun f k b hf hb=>.inl ⟨(fun e=>by cases e),fun _ e=>by rw[cA]at e;cases e⟩) (fun k o fS=>?_))
 ·obtain⟨ep,_⟩:=yU (cQ hR hp hx)
  have AE:(storeVar t ⟨(S.cx g w).g.γ i,off,none⟩ (a.eval q)).run P w=.ok () (w.setRow (g.γ i) c'):=ah;simp only[execOp,ho,ep];simp[Instr.storeAt,Instr.sureAddr,AE]
 ·simp only[List.getElem?_set]at fS
  by_cases kK:i=k
  ·subst kK
   simp[hi]at fS;subst fS;refine .inr ⟨cA,⟨hm,c',e,lK,by rw[K3];exact Nat.le_trans dw (Nat.le_of_eq (Ex fQ).symm),fun j u z hu hz=>?_⟩,fun j n es z hu hz=>?_⟩
   ·rw[AH]at hu
    rw[show c'[j]?=_ from Ck fQ j]at hz;split at hu
    ·rename_i nN
     rw[if_pos (by omega)]at hz
     obtain⟨u0,s,qz,pe⟩:=y3 hg _ u hu;obtain⟨q1,q2,q3,_⟩:=Cq pe (Cl (j-off) u0 z qz hz);exact⟨q1,q2,q3.mono pd (fun d=>.inr (q2 d))⟩
    ·rename_i nN
     have Cn:=eK hu;rw[if_neg (by omega)]at hz
     obtain⟨q1,q2,q3⟩:=hj j u z hu hz;exact⟨q1,q2,q3.mono pd (fun d=>.inr (q2 d))⟩
   ·rw[AH]at hu
    rw[kZ lK,show c'[j]?=_ from Ck fQ j]at hz;split at hu
    ·rename_i nN
     rw[if_pos (by omega)]at hz
     obtain⟨u0,s,qz,pe⟩:=y3 hg _ _ hu;obtain⟨_,_,_,_,q5⟩:=Cq pe (Cl (j-off) u0 z qz hz);obtain⟨rfl,hz⟩:=q5 n es rfl;exact Lf hz
    ·rename_i nN
     have Cn:=eK hu;rw[if_neg (by omega)]at hz
     rcases hR.aF.own i _ fw j n es z hu (by rw[kZ hh];exact hz) with h | ⟨q,cap,c2,e',q1,q2,q3,q4,q5,q6⟩
     ·exact .inl h
     ·have cg:q≠g.γ i:=fun e=>by rw[e,cA]at q2;cases q2
      exact .inr ⟨q,cap,c2,e',q1,q2,q3,(HD w _ q c' cg).trans q4,q5,q6⟩
  ·rw[if_neg kK]at fS
   exact .inl ⟨fS,fun _=>⟨fun e=>kK (by rw[cA]at e;cases e;rfl),fun _ e=>(by rw[cA]at e;cases e)⟩⟩
theorem ac1{o:Oper}{t:TypeId}{root:jx}{sh:Sh}{p q:Operand}{x y:bq}{C:bw}(ho:o.op=.store t p q)(uV:o.dst=none)(hs:eO P t=some sh.length)(hp:bO p x=true)(hq:bO q y=true)
  (hR:R E g S a w) (ah:VO.run C o.dst S (.store root sh x y)=some S'):cb P E o S S' a w:=by
 simp only[VO.run]at ah;cases fQ:S.fits root x with
 |false=>simp[fQ]at ah
 |true =>
  simp only[fQ,cond_true]at ah;split at ah
  ·rename_i id off v hx hy
   split at ah
   ·rename_i cs fw
    cases hc:(v.cells.length==sh.length&&Nat.ble (off+sh.length) cs.length&&v.cells.all V.cI&&Nat.blt 0 sh.length) with
    |false=>simp[hc]at ah
    |true =>
     simp only[hc,cond_true]at ah;simp only[Bool.and_eq_true,beq_iff_eq,List.all_eq_true]at hc;cases ah;exact acX ho uV hs hp hq hR hx hy fw hc.1.1.1 (Nat.le_of_ble_eq_true hc.1.1.2) hc.1.2 (by have:=hc.2;simp[Nat.blt]at this;omega)
   ·cases ah
  ·rename_i i off v hx hy
   split at ah
   ·rename_i cs fw
    split at ah
    ·rename_i vs hg
     cases hc:(Nat.ble (off+vs.length) cs.length&&Nat.blt 0 vs.length) with
     |false=>simp[hc]at ah
     |true =>
      simp only[hc,cond_true]at ah;cases ah;simp only[Bool.and_eq_true]at hc;have hle:=Nat.le_of_ble_eq_true hc.1;exact ac0 ho uV hs hp hq hR hx hy fw hg hle (fun e=>by have h2:=hc.2;subst e;simp only[Nat.blt,Nat.ble_eq,List.length_nil]at hle h2;omega)
    ·cases ah
   ·cases ah
  ·cases ah
theorem ac2{o:Oper}{t:TypeId}{sh:Sh}{p:Operand}{x:bq}{C:bw}(ho:o.op=.box t p)(hp:bO p x=true)
  (hR:R E g S a w) (hd:∀d,o.dst=some d→d<E.nt) (ah:VO.run C o.dst S (.tp sh x)=some S'):cb P E o S S' a w:=by
 simp only[VO.run]at ah;split at ah
 ·rename_i v hv
  split at ah
  ·rename_i cs hg
   cases ah;obtain⟨e1,e2⟩:=EB hg;obtain⟨hl,hx⟩:=Cf (cQ hR hp hv) (Ry hg)
   let c:Array Value:=(a.eval p).cells
   let g':Gh:={ g with m:=cS g.m w.heap.size 0,γ:=cS g.γ S.aF.length w.heap.size,ow:=cS g.ow w.heap.size (.aF S.aF.length) }
   have hw:(w.alloc (.cells c t)).heap=w.heap.push (.cells c t (0,0)):=rfl;have t':Touch E g S w g' S.bg (S.aF.length+1) (w.alloc (.cells c t)) w.heap.size none none:=Ek hR hw rfl rfl rfl (fun b hb=>fR _ _ hb) (fun b hb=>fR _ _ hb)
    (fun i _=>rfl) (fun i _=>rfl) (fun i _=>rfl) (fun i _=>rfl) (fun i hi=>fR _ _ (by omega)) (by omega) (fun i h1 h2=>by
     have:i=S.aF.length:=by omega
     subst this;show _≤cS g.γ _ _ _;rw[dG];exact hR.same.size) (fun i e=>by
     have e:cS g.ow w.heap.size (.aF S.aF.length) w.heap.size=.aF i:=e;rw[dG]at e;cases e;exact⟨dG _ _ _,Nat.lt_succ_self _⟩)
   have lg:∀i,iU (S.cx g w) ⟨(w.alloc (.cells c t)).heap,g',S.aF.length+1,S.bg⟩ i:=fun i=>t'.keeps hR (fun e=>by cases e) (fun e=>by cases e) (fun h=>absurd h (Nat.lt_irrefl _))
   have pd:Le ⟨w.heap,g,S.aF.length,[]⟩ ⟨(w.alloc (.cells c t)).heap,g',S.aF.length+1,[]⟩:=⟨t'.le.size,t'.le.cells,t'.le.m,t'.le.eN,t'.le.γ⟩;have hγ:g'.γ S.aF.length=w.heap.size:=dG _ _ _;have r1:R E g' { S with aF:=S.aF++[.cells cs] } a (w.alloc (.cells c t)):=R.nK t' hR rfl (by simp) (fun i=>.inl (lg i)) (fun s v hs=>.inl hs)
    (fun id dQ hi=>.inl ⟨hi,(fun e=>by cases e),fun h=>absurd h (Nat.lt_irrefl _)⟩) (fun f k b hf hb=>.inl ⟨(fun e=>by cases e),fun h=>absurd h (Nat.lt_irrefl _)⟩) (fun k o fS=>by
     simp only[List.getElem?_append]at fS;split at fS
     ·exact .inl ⟨fS,fun h=>absurd h (Nat.lt_irrefl _)⟩
     ·rename_i hk
      have:k=S.aF.length:=by
       rcases Nat.eq_zero_or_pos (k-S.aF.length) with h|h
       ·omega
       ·rw[List.getElem?_eq_none (by simp;omega)]at fS;cases fS
      subst this;simp at fS;subst fS;refine .inr ⟨by rw[hγ];exact dG _ _ _,⟨by rw[hγ];exact dG _ _ _,c,t,by rw[hγ];exact Em hw,by(have:v.cells.length=(a.eval p).cells.size:=by simpa using hl);show cs.length≤(a.eval p).cells.size;omega,fun j u z hu hz=>?_⟩,fun j n es z hu hz=>?_⟩
      ·obtain⟨u0,s,qz,pe⟩:=y3 hg _ u hu
       obtain⟨q1,q2,q3,_⟩:=Cq pe (hx j u0 z qz (by simpa using hz))
       exact⟨q1,q2,q3.mono pd (fun d=>.inr (q2 d))⟩
      ·rw[hγ,kZ (Em hw)]at hz
       obtain⟨u0,s,qz,pe⟩:=y3 hg _ _ hu;obtain⟨_,_,_,_,q5⟩:=Cq pe (hx j u0 z qz (by simpa using hz))
       obtain⟨rfl,hz⟩:=q5 n es rfl;exact Lf hz)
   refine cb.value (x:=.pointer (some ⟨w.heap.size,0,none⟩)) (w':=w.alloc (.cells c t)) (g':=g') ?_ (r1.put hd ?_)
   ·simp[execOp,ho,Instr.box,newVar,newRow,c]
   ·rw[←hγ];exact .bG _ 0 (by simp[St.cx])
  ·cases ah
 ·cases ah
theorem ac3{o:Oper}{t e:TypeId}{n m:Nat}{C:bw}(ho:o.op=.buildSlice t 0 #[])(ht:P.underlying t=some (.slice e))(hn:eO P e=some m)
  (hR:R E g S a w) (hd:∀d,o.dst=some d→d<E.nt) (ah:VO.run C o.dst S (.wV n)=some S'):cb P E o S S' a w:=by
 simp only[VO.run]at ah;cases ah;obtain⟨g',r1,_⟩:=hR.K6 (w':=w.alloc (.cells #[] e)) rfl rfl rfl rfl (n:=n) (ys:=[]) (l:=[]) ⟨by simp,by simp,by simp⟩ (fun j y hj=>by simp at hj) (cap:=0) (Nat.le_refl _)
 refine cb.value (x:=.slice (some ⟨w.heap.size,0,none⟩) 0 0) (g':=g') (w':=w.alloc (.cells #[] e)) ?_ (r1.put hd (.dR (.inr ⟨_,rfl⟩)));have hz:∀f:Nat→Value,(Array.range 0).map f = #[]:=fun f=>Array.eq_empty_of_size_eq_zero (by simp)
 simp[execOp,ho,Instr.buildSlice,iV ht,nH hn,Instr.fill,newRow,hz]
theorem ac4{o:Oper}{op:BinOp}{t e ty:TypeId}{neg:Bool}{p q:Operand}{x:bq}{C:bw}(ho:o.op=.binOp op t p q ty)(xf:op=if neg then .neq else .eql)(ht:P.underlying t=some (.slice e))(hp:bO p x=true)(hq:bO q (.c .bV)=true)
  (hR:R E g S a w) (hd:∀d,o.dst=some d→d<E.nt) (ah:VO.run C o.dst S (.uG neg x)=some S'):cb P E o S S' a w:=by
 have h0:=nG (cQ (v:=.bV) hR hq rfl);have go:∀(r:Option Addr) (n c:Nat),a.eval p=.slice r n c→(bif neg then !r.isNone else r.isNone)=(bif neg then !r.isNone else r.isNone)→(execOp a.eval o).run P w=.ok (.value (.bool (bif neg then !r.isNone else r.isNone))) w:=fun r n c ev _=>by
  subst xf;have hg:∀op,(eqGuard op t p q (.slice r n c) (.slice none 0 0)).run P w=.ok () w:=fun op=>by
   cases op<;>simp[eqGuard]
  cases neg
  ·have h1:=Lib.run_eql_slice_nil (P:=P) w t e r n c 0 0 ht
   simp[execOp,ho,ev,h0,hg,h1]
  ·have h1:=run_neq_slice_nil_any (P:=P) w t e r n c 0 0 ht
   simp[execOp,ho,ev,h0,hg,h1]
 simp only[VO.run]at ah;split at ah
 ·rename_i hx
  cases ah;have e:=nG (cQ hR hp hx);have:=go _ _ _ e rfl;refine cb.put hR hd (x:=.bool !neg) ?_ (aZ.bool _);rw[this];cases neg<;>rfl
 ·rename_i n hx
  cases ah;obtain⟨b,cap,e⟩:=Eg (cQ hR hp hx);have:=go _ _ _ e rfl;refine cb.put hR hd (x:=.bool neg) ?_ (aZ.bool _);rw[this];cases neg<;>rfl
 ·rename_i t' n r rs hx
  cases ah;have hr:=cQ hR hp hx;obtain⟨b,len,cap,e⟩:∃b len cap,a.eval p=.slice (some b) len cap:=by
   generalize a.eval p=y at hr;cases hr with
   |plain h _=>cases h with
    |slice _ _ _ b off cap=>exact⟨_,_,_,rfl⟩
  have:=go _ _ _ e rfl;refine cb.put hR hd (x:=.bool neg) ?_ (aZ.bool _);rw[this];cases neg<;>rfl
 ·cases ah
theorem ac5{o:Oper}{t:TypeId}{bZ:Nat}{p:Operand}{x:bq}{C:bw}(ho:o.op=.load t p)(hs:qt P t none=true)(hp:bO p x=true)(hn:S.eG bZ)
  (hR:R E g S a w) (hd:∀d,o.dst=some d→d<E.nt) (ah:VO.run C o.dst S (.sB bZ x)=some S'):cb P E o S S' a w:=by
 simp only[VO.run]at ah;split at ah
 ·rename_i pv Lg
  have uW:=cQ hR hp Lg;split at ah
  ·rename_i v ts G vY
   cases ah;unfold St.take at vY;split at vY
   ·rename_i id off
    obtain⟨ep,mO⟩:=yU uW;split at vY
    ·rename_i cs fw
     by_cases Lh:cs=[]
     ·subst Lh;simp at vY
     obtain⟨cA,hm,c,e,hh,dw,hj⟩:=(hR.aF.obj id _ fw).resolve_left (fun e=>Lh (by cases e;rfl))
     have Ct:∀u,cs[off]?=some u→∃z,(execOp a.eval o).run P w=.ok (.value z) w∧aZ (S.cx g w) u z∧c[off]?=some z:=fun u hu=>by
      have hc:S.nF (.bG id off)=some (cs,off):=by simp[St.nF,fw]
      obtain⟨b,f,e2,ei⟩:=Q4 hR uW hc;rw[e2]at ep;injection ep with ep;injection ep with ep;injection ep with e3 e4 _;have e3:b=g.γ id:=e3;have e4:f=0:=by omega
      obtain⟨z,hz,hr⟩:=Hs (P:=P) (w:=w) (t:=t) (sz:=none) (off:=off) hs ei hu;obtain⟨y,hy,_⟩:=ei off u hu;have hzy:z=y:=by
       have h5:(loadVar t ⟨b,f+off,none⟩).run P w=.ok y w:=by
        simp only[qt,Bool.and_eq_true,beq_iff_eq]at hs;simp[loadVar,AF hs.1,cell?_eq,hy]
       rw[h5]at hz;injection hz with hz;exact hz.symm
      rw[hzy]at hz hr;refine⟨y,by simp[execOp,ho,Instr.loadAt,e2,Instr.sureAddr,hz],hr,?_⟩
      rw[e3,kZ hh,e4,Nat.zero_add]at hy;exact hy
     split at vY
     ·rename_i n es iX
      cases vY;obtain⟨z,hex,hr,hz⟩:=Ct _ iX;have AL:fg w.heap g.m (.slice none n es) z:=by
       cases hr with
       |plain h _=>cases h
       |fm h=>exact h
      have nQ:=eK iX;have EC:=hR.aF.own id _ fw off n es z iX (by rw[kZ hh];exact hz)
      let τ':Option Nat:=yZ z
      have RA:∀q,τ'=some q→g.ow q=.cell (g.γ id) off∧q<w.heap.size:=fun q hq=>by
       rcases EC with⟨_,e⟩ | ⟨q',cap,c2,e2,e,q2,q3,q4,q5,q6⟩
       ·rw[show τ'=none from Ld e]at hq;cases hq
       ·rw[show τ'=some q' by simp only[τ',e];exact EA q6]at hq
        cases hq;refine⟨q2,?_⟩;rcases Nat.lt_or_ge q w.heap.size with h|h
        ·exact h
        ·simp[Array.getElem?_eq_none h]at q4
      let B:Nat:=τ'.getD w.heap.size
      let g':Gh:={ g with τ:=cS g.τ bZ τ',ow:=cS g.ow B (.tok bZ) }
      have y4:B<w.heap.size→g.ow B=.cell (g.γ id) off:=fun hB=>by
       cases hτ:τ' with
       |none=>simp only[B,hτ,Option.getD_none]at hB;omega
       |some q=>simp only[B,hτ,Option.getD_some];exact(RA q hτ).1
      have tt:Touch E g S w g' ((bZ,es.length)::S.bg) S.aF.length w B none (some bZ) :=
       {os:=rfl,tape:=rfl,output:=rfl,size:=Nat.le_refl _,heap:=fun _ _ _=>rfl,m:=fun _ _=>rfl,ow:=fun b hb=>fR _ _ hb,κ:=fun _ _=>rfl,cp:=fun _ _=>rfl,
        τ:=fun i hi=>fR _ _ (fun e=>hi (by rw[e])),T:=fun i hi=>by rw[dA,if_neg (fun e=>hi (by rw[e]))],γ:=fun _ _=>rfl,eN:=Nat.le_refl _,
        γnew:=fun i a b=>absurd a (by omega)
        fresh:=by
         rcases Nat.lt_or_ge B E.w0.heap.size with h|h
         ·exact .inr (.inr (hR.same.ib B _ _ h (y4 (Nat.lt_of_lt_of_le h hR.same.size))))
         ·exact .inl h
        ib:=fun p q _ e=>by
         have e:cS g.ow B (.tok bZ) B=.cell p q:=e;rw[dG]at e;cases e
        lv:=fun i e=>by
         have e:cS g.ow B (.tok bZ) B=.aF i:=e;rw[dG]at e;cases e
        jK:=fun _ _ _ h=>h,oV:=fun _=>Nat.le_refl _ }
      have lg:∀i,iU (S.cx g w) ⟨w.heap,g',S.aF.length,(bZ,es.length)::S.bg⟩ i∨i=bZ:=fun i=>by
       by_cases hi:bZ=i
       ·exact .inr hi.symm
       ·exact .inl (tt.keeps hR (fun e=>by cases e) (fun e=>hi (by cases e;rfl)) (fun hB e=>by rw[y4 hB]at e;cases e))
      have ac8:∀k o,S.aF[k]?=some o→o≠.cells []→k≠id→g.γ k≠g.γ id:=fun k o hk Cu cg e=>by
       have:=((hR.aF.obj k o hk).resolve_left Cu).1;rw[e,cA]at this;cases this;exact cg rfl
      have r1:R E g' { S with bg:=(bZ,es.length)::S.bg,aF:=S.aF.set id (.cells (cs.set off (.slice none n es))) } a w :=
       R.Eh (S':={ S with bg:=(bZ,es.length)::S.bg,aF:=S.aF.set id (.cells (cs.set off (.slice none n es))) }) tt hR rfl (by simp) (fun i=>(lg i).imp (fun z=>z) fun e=>by rw[e];exact hn) (fun s v hs=>.inl hs)
        (fun i dQ ho=>.inl ⟨ho,(fun e=>by cases e),fun hB e=>by rw[y4 hB]at e;cases e⟩) (fun f k b hf hb=>by
         by_cases v7:bZ=f
         ·subst v7
          have hb:cS g.τ bZ τ' bZ=some b:=hb;rw[dG]at hb;obtain⟨h1,h2⟩:=RA b hb;have Lj:B=b:=by simp only[B,hb,Option.getD_some]
          refine .inr ⟨by show cS g.ow B _ b=_;rw[Lj,dG],?_,h2⟩
          rcases Nat.lt_or_ge b E.w0.heap.size with h|h
          ·exact .inr (hR.same.ib b _ _ h h1)
          ·exact .inl h
         ·exact .inl ⟨fun e=>v7 (by cases e;rfl),fun hB e=>by rw[y4 hB]at e;cases e⟩) (fun k o fS Cu=>by
         simp only[List.getElem?_set]at fS;by_cases kK:id=k
         ·subst kK
          simp[show id<S.aF.length from eK fw]at fS;subst fS;have pd:Le ⟨w.heap,g,S.aF.length,[]⟩ ⟨w.heap,g',S.aF.length,[]⟩:=⟨tt.le.size,tt.le.cells,tt.le.m,tt.le.eN,tt.le.γ⟩;have hγB:g.γ id≠B:=fun e=>by
           have:=y4 (e ▸ Cr hR fw (fun e=>Lh (by cases e;rfl)))
           rw[←e,cA]at this;cases this
          refine .inr ⟨(tt.ow _ hγB).trans cA,⟨hm,c,e,hh,by rw[List.length_set];exact dw,fun j u y hu hy=>?_⟩,fun j n' oB y hu hy=>?_⟩
          ·rw[List.getElem?_set]at hu
           by_cases rz:off=j
           ·subst rz
            rw[if_pos rfl,if_pos nQ]at hu;cases hu;have hyz:y=z:=by have hy:c[off]?=some y:=hy;rw[hz]at hy;exact(Option.some.inj hy).symm
            rw[hyz];exact⟨rfl,fun _=>rfl,.plain AL (fun _ _ _ e=>by cases e)⟩
           ·rw[if_neg rz]at hu
            obtain⟨q1,q2,q3⟩:=hj j u y hu hy;exact⟨q1,q2,q3.mono pd (fun d=>.inr (q2 d))⟩
          ·rw[List.getElem?_set]at hu
           by_cases rz:off=j
           ·subst rz
            rw[if_pos rfl,if_pos nQ]at hu;cases hu
           ·rw[if_neg rz]at hu
            rcases hR.aF.own id _ fw j n' oB y hu hy with h | ⟨q,cap,c2,e',q1,q2,q3,q4,q5,q6⟩
            ·exact .inl h
            ·have Ll:q≠B:=fun e=>by
              have mz:q<w.heap.size:=by
               rcases Nat.lt_or_ge q w.heap.size with h|h
               ·exact h
               ·simp[Array.getElem?_eq_none h]at q4
              rw[e]at q2 mz;rw[y4 mz]at q2;cases q2;exact rz rfl
             exact .inr ⟨q,cap,c2,e',q1,(tt.ow q Ll).trans q2,q3,q4,q5,q6⟩
         ·rw[if_neg kK]at fS
          refine .inl ⟨fS,fun hB=>⟨fun e=>(by rw[y4 hB]at e;cases e),fun j e=>?_⟩⟩
          rw[y4 hB]at e;injection e with e _;exact ac8 k o fS Cu (fun h=>kK h.symm) e.symm)
      refine cb.value (x:=z) (w':=w) (g':=g') hex (r1.put hd (.plain (Rx AL) (fun f n' oB e k hk=>?_)));cases e;have hk:look bZ ((bZ,es.length)::S.bg)=some k:=hk;rw[dA,if_pos rfl]at hk;cases hk;refine⟨Nat.le_refl _,fun _=>?_⟩;rcases EC with⟨e1,e2⟩ | ⟨q,cap,c2,e',q1,q2,q3,q4,q5,q6⟩
      ·exact .inl ⟨e1,e2⟩
      ·refine .inr ⟨q,0,cap,c2,e',?_,q1,by show g.m q=_;omega,q4,by omega,rfl,q6⟩
       show cS g.τ bZ τ' bZ=_;rw[dG];simp only[τ',q1];exact EA q6
     ·rename_i u _ iX
      cases vY;obtain⟨z,hex,hr,hz⟩:=Ct _ iX;exact cb.put hR hd hex (Q1 hr)
     ·cases vY
    ·cases vY
   ·cases vY
  ·cases ah
 ·cases ah
theorem adb{o:Oper}{t:TypeId}{bZ:Nat}{p q:Operand}{x y:bq}{C:bw}(ho:o.op=.store t p q)(uV:o.dst=none)(hs:eO P t=some 1)(hp:bO p x=true)(hq:bO q y=true)
  (hR:R E g S a w) (ah:VO.run C o.dst S (.tw bZ x y)=some S'):cb P E o S S' a w:=by
 simp only[VO.run]at ah;split at ah
 ·rename_i pv v Lg hv
  have uW:=cQ hR hp Lg;have AL:=cQ hR hq hv;split at ah
  ·rename_i ts G y5
   cases ah;unfold St.vN at y5;split at y5
   ·rename_i id off f n es
    split at y5
    ·rename_i cs k fw hk
     have oY:f=bZ∧look f S.bg=some k:=by
      cases v7:f==bZ with
      |false=>rw[v7]at hk;cases hk
      |true =>
       have:=eq_of_beq v7;subst this;rw[v7]at hk;exact⟨rfl,hk⟩
     obtain⟨e,mP⟩:=oY;subst e
     clear hk
     have hk:=mP;cases hc:(k==es.length&&Nat.blt off cs.length) with
     |false=>simp[hc]at y5
     |true =>
      simp only[hc,cond_true,Option.some.injEq,Prod.mk.injEq]at y5;obtain⟨rfl,rfl⟩:=y5;simp only[Bool.and_eq_true,beq_iff_eq]at hc;obtain⟨rfl,bA⟩:=hc;have nQ:off<cs.length:=by simp[Nat.blt]at bA;omega
      obtain⟨ep,mO⟩:=yU uW;obtain⟨cA,hm,c,e,hh,dw,hj⟩:=(hR.aF.obj id _ fw).resolve_left (fun e=>by cases e;simp at nQ)
      generalize hyv:a.eval q=yv at AL;obtain⟨ED,Lm⟩:fg w.heap g.m (.slice (some f) n es) yv∧wX (S.cx g w) f n es.length yv:=by
       cases AL with
       |plain h ht=>exact⟨h,(ht f n es rfl _ hk).2 rfl⟩
      have hvn:fg w.heap g.m (.slice none n es) yv:=Rx ED;have v8:yv.cells = #[yv]:=ED.cells
      let c':Array Value:=(c.toList.take off++yv.cells.toList++c.toList.drop (off+yv.cells.toList.length)).toArray
      have nR:yv.cells.toList.length=1:=by rw[v8];rfl
      have fQ:off+yv.cells.toList.length≤c.size:=by omega
      have ah:=K9 (P:=P) (w:=w) (t:=t) (n:=1) hs (v:=yv) (by rw[v8];rfl) hh (o:=off) (by omega) (fun y hy=>by rw[v8]at hy;simp at hy;subst hy;exact ED.AD)
      rw[←nR]at ah;have lK:(w.setRow (g.γ id) c').heap[g.γ id]?=some (.cells c' e (0,0)):=setRow_heap w _ c c' e _ hh;have pf:∀j,c'[j]?=if j=off then some yv else c[j]?:=fun j=>by
       rw[show c'[j]?=_ from Ck fQ j,nR,v8];by_cases h:j=off
       ·subst h;simp
       ·rw[if_neg (by omega),if_neg h]
      have xe:=hR.HE cA
      let B:Nat:=(yZ yv).getD w.heap.size
      have hB:(es.length=0∧la yv∧B=w.heap.size)∨∃cap c2 e2,yv=.slice (some ⟨B,0,none⟩) es.length cap∧g.τ f=some B∧g.m B=es.length*n∧w.heap[B]?=some (.cells c2 e2 (0,0))∧cap*n≤c2.size∧0<es.length ∧
        g.ow B=.tok f∧(E.w0.heap.size≤B∨E.own B)∧B<w.heap.size:=by
       rcases Lm with⟨h1,h2⟩ | ⟨b,o2,cap,c2,e2,h1,h2,h3,h4,h5,h6,h7⟩
       ·exact .inl ⟨h1,h2,by simp only[B,Ld h2];rfl⟩
       ·subst h6
        have Lj:B=b:=by simp only[B,h2];rw[EA h7];rfl
        obtain⟨q1,q2,q3⟩:=hR.bg f _ b hk h1;rw[Lj];exact .inr ⟨cap,c2,e2,h2,h1,by have h3:g.m b=0+es.length*n:=h3;omega,h4,by omega,h7,q1,q2,q3⟩
      have AM:B<w.heap.size→g.ow B=.tok f:=fun h=>by
       rcases hB with⟨_,_,e⟩ | ⟨_,_,_,_,_,_,_,_,_,h8,_⟩
       ·omega
       ·exact h8
      have RB:∀k o,S.aF[k]?=some o→o≠.cells []→g.γ k≠B:=fun k o mP Cu e=>by
       have h1:=((hR.aF.obj k o mP).resolve_left Cu).1;have h2:=AM (e ▸ Cr hR mP Cu);rw[←e,h1]at h2;cases h2
      let g1:Gh:={ g with τ:=cS g.τ f none,ow:=cS g.ow B (.cell (g.γ id) off) }
      have t1:Touch E g S w g1 ((f,es.length+1)::S.bg) S.aF.length w B none (some f) :=
       {os:=rfl,tape:=rfl,output:=rfl,size:=Nat.le_refl _,heap:=fun _ _ _=>rfl,m:=fun _ _=>rfl,ow:=fun b hb=>fR _ _ hb,κ:=fun _ _=>rfl,cp:=fun _ _=>rfl,
        τ:=fun i hi=>fR _ _ (fun e=>hi (by rw[e])),T:=fun i hi=>by rw[dA,if_neg (fun e=>hi (by rw[e]))],γ:=fun _ _=>rfl,eN:=Nat.le_refl _,
        γnew:=fun i a b=>absurd a (by omega)
        fresh:=by
         rcases hB with⟨_,_,e⟩ | ⟨_,_,_,_,_,_,_,_,_,_,h9,_⟩
         ·exact .inl (by rw[e];exact hR.same.size)
         ·exact h9.imp (fun z=>z) .inr
        ib:=fun p q bA _=>by
         rcases hB with⟨_,_,e⟩ | ⟨_,_,_,_,_,_,_,_,_,_,h9,_⟩
         ·have:=hR.same.size;omega
         ·exact h9.resolve_left (by omega)
        lv:=fun i e=>by
         have e:cS g.ow B (.cell (g.γ id) off) B=.aF i:=e;rw[dG]at e;cases e
        jK:=fun _ _ _ h=>h,oV:=fun _=>Nat.le_refl _ }
      have k1:∀i,iU (S.cx g w) ⟨w.heap,g1,S.aF.length,(f,es.length+1)::S.bg⟩ i:=fun i=>by
       by_cases hi:f=i
       ·subst hi
        refine⟨rfl,rfl,fun k' j9=>⟨es.length,hk,?_,fun e=>?_⟩⟩
        ·simp only[dA,if_true,Option.some.injEq]at j9;omega
        ·simp only[dA,if_true,Option.some.injEq]at j9;omega
       ·exact t1.keeps hR (fun e=>by cases e) (fun e=>hi (by cases e;rfl)) (fun hb e=>hi (by rw[AM hb]at e;cases e;rfl))
      have r1:R E g1 { S with bg:=(f,es.length+1)::S.bg } a w:=R.nK (S':={ S with bg:=(f,es.length+1)::S.bg }) t1 hR rfl rfl (fun i=>.inl (k1 i)) (fun s v hs=>.inl hs)
       (fun i dQ ho=>.inl ⟨ho,(fun e=>by cases e),fun hb e=>by rw[AM hb]at e;cases e⟩) (fun f' k' b hf hb=>by
        by_cases v7:f=f'
        ·subst v7
         have hb:cS g.τ f none f=some b:=hb;rw[dG]at hb;cases hb
        ·exact .inl ⟨fun e=>v7 (by cases e;rfl),fun hb e=>by rw[AM hb]at e;cases e;exact v7 rfl⟩) (fun i o hi=>.inl ⟨hi,fun hb=>⟨fun e=>(by rw[AM hb]at e;cases e),fun _ e=>(by rw[AM hb]at e;cases e)⟩⟩)
      have AN:g1.ow (g.γ id)=.aF id:=(fR _ _ (RB id _ fw (fun e=>by cases e;simp at nQ))).trans cA
      have t2:=Ey (g:=g1) (c':=c') (S:={ S with bg:=(f,es.length+1)::S.bg }) (w:=w) (b:=g.γ id) hm xe (fun _ _ e=>by rw[AN]at e;cases e) r1
      have k2:∀i,iU (({ S with bg:=(f,es.length+1)::S.bg }:St).cx g1 w) ⟨(w.setRow (g.γ id) c').heap,g1,S.aF.length,(f,es.length+1)::S.bg⟩ i:=fun i=>t2.keeps r1 (fun e=>by cases e) (fun e=>by cases e) (fun _ e=>by rw[AN]at e;cases e)
      have pd:Le ⟨w.heap,g,S.aF.length,[]⟩ ⟨(w.setRow (g.γ id) c').heap,g1,S.aF.length,[]⟩:=⟨t2.le.size,t2.le.cells,t2.le.m,t2.le.eN,t2.le.γ⟩;refine cb.skip (g':=g1) (w':=w.setRow (g.γ id) c') ?_ uV (R.nK (S':={ S with bg:=(f,es.length+1)::S.bg,aF:=S.aF.set id (.cells (cs.set off (.fm n es))) }) t2 r1 rfl (by simp) (fun i=>.inl (k2 i)) (fun s v hs=>.inl hs)
       (fun i dQ hi=>.inl ⟨hi,(fun e=>by cases e),fun _ e=>by rw[AN]at e;cases e⟩)
       (fun f k b hf hb=>.inl ⟨(fun e=>by cases e),fun _ e=>by rw[AN]at e;cases e⟩) (fun k o fS=>?_))
      ·have AE:(storeVar t ⟨(S.cx g w).g.γ id,off,none⟩ yv).run P w=.ok () (w.setRow (g.γ id) c'):=ah
       simp only[execOp,ho,ep,hyv];simp[Instr.storeAt,Instr.sureAddr,AE]
      ·simp only[List.getElem?_set]at fS
       by_cases kK:id=k
       ·subst kK
        simp[show id<S.aF.length from eK fw]at fS;subst fS;refine .inr ⟨AN,⟨hm,c',e,lK,by rw[List.length_set];exact Nat.le_trans dw (Nat.le_of_eq (Ex fQ).symm),fun j u z hu hz=>?_⟩,fun j n' oB z hu hz=>?_⟩
        ·rw[pf]at hz
         rw[List.getElem?_set]at hu;by_cases rz:off=j
         ·subst rz
          rw[if_pos rfl,if_pos nQ]at hu;rw[if_pos rfl]at hz;cases hu;cases hz;exact⟨rfl,fun _=>rfl,.fm (hvn.mono pd)⟩
         ·rw[if_neg rz]at hu
          rw[if_neg (fun e=>rz e.symm)]at hz;obtain⟨q1,q2,q3⟩:=hj j u z hu hz;exact⟨q1,q2,q3.mono pd (fun d=>.inr (q2 d))⟩
        ·have hz:cellAt (w.setRow (g.γ id) c').heap (g.γ id) j=some z:=hz
         rw[kZ lK,pf]at hz;rw[List.getElem?_set]at hu;by_cases rz:off=j
         ·subst rz
          rw[if_pos rfl,if_pos nQ]at hu;rw[if_pos rfl]at hz;cases hu;cases hz;rcases hB with⟨h1,h2,_⟩ | ⟨cap,c2,e2,h1,h2,h3,h4,h5,h6,_⟩
          ·exact .inl ⟨h1,h2⟩
          ·exact .inr ⟨B,cap,c2,e2,h1,dG _ _ _,h3,(HD w _ B c' (fun e=>RB id _ fw (fun e=>by cases e;simp at nQ) e.symm)).trans h4,h5,h6⟩
         ·rw[if_neg rz]at hu
          rw[if_neg (fun e=>rz e.symm)]at hz;rcases hR.aF.own id _ fw j n' oB z hu (by rw[kZ hh];exact hz) with h | ⟨q,cap,c2,e',q1,q2,q3,q4,q5,q6⟩
          ·exact .inl h
          ·have mz:q<w.heap.size:=by
            rcases Nat.lt_or_ge q w.heap.size with h|h
            ·exact h
            ·simp[Array.getElem?_eq_none h]at q4
           have Ll:q≠B:=fun e=>by rw[e]at q2 mz;rw[AM mz]at q2;cases q2
           have cg:q≠g.γ id:=fun e=>by rw[e,cA]at q2;cases q2
           exact .inr ⟨q,cap,c2,e',q1,(fR _ _ Ll).trans q2,q3,(HD w _ q c' cg).trans q4,q5,q6⟩
       ·rw[if_neg kK]at fS
        exact .inl ⟨fS,fun _=>⟨fun e=>kK (by rw[AN]at e;cases e;rfl),fun _ e=>(by rw[AN]at e;cases e)⟩⟩
    ·cases y5
   ·cases y5
  ·cases ah
 ·cases ah
theorem EE{o:Oper}{t e:TypeId}{sz:Nat}{p:Operand}{lo hi:Option Operand}{AO qA:Option bq}(ho:o.op=.slice t p lo hi none)(ht:P.underlying t=some (.slice e))(hs:eO P e=some sz)
  (nQ:match lo,AO with|none,none=>True|some y,some z=>bO y z=true|_,_=>False) (Cz:match hi,qA with|none,none=>True|some y,some z=>bO y z=true|_,_=>False)
  (hR:R E g S a w) {base:Option Addr} {n cap:Nat} (e1:a.eval p=.slice base n cap) (eA:n≤cap) {k1 k2:IntKind} {l h:Int} (hl:S.kW AO 0=some (.int k1 l)) (hh:S.kW qA n=some (.int k2 h))
  (h0:0≤l) (h1:l≤h) (h2:h≤(n:Int)):(execOp a.eval o).run P w=.ok (.value (.slice (if cap=l.toNat then base else base.map (·.add (l.toNat*sz))) (h.toNat-l.toNat) (cap-l.toNat))) w:=by
 have y6:(match lo.map a.eval with|some v=>Instr.sliceBound v h.toNat .sliceB|none=>pure 0).run P w=.ok l.toNat w:=by
  cases lo with
  |none =>
   cases AO with
   |none=>simp[St.kW]at hl;obtain⟨_,rfl⟩:=hl;simp
   |some z=>exact nQ.elim
  |some y =>
   cases AO with
   |none=>exact nQ.elim
   |some z =>
    have:=lY (cQ hR nQ hl);simp only[Option.map_some,this];exact run_sliceBound w k1 l h.toNat .sliceB h0 (by omega)
 have AP:(match hi.map a.eval with|some v=>Instr.sliceBound v cap .sliceAcap|none=>pure n).run P w=.ok h.toNat w:=by
  cases hi with
  |none =>
   cases qA with
   |none=>simp[St.kW]at hh;obtain⟨_,rfl⟩:=hh;simp
   |some z=>exact Cz.elim
  |some y =>
   cases qA with
   |none=>exact Cz.elim
   |some z =>
    have:=lY (cQ hR Cz hh);simp only[Option.map_some,this];exact run_sliceBound w k2 h cap .sliceAcap (by omega) (by omega)
 have adg:(Instr.sliceBounds true n cap (lo.map a.eval) (hi.map a.eval) none).run P w=.ok (l.toNat,h.toNat,cap) w:=by
  unfold Instr.sliceBounds;cases hi with
  |none =>
   simp only[Option.map_none]at AP;simp only[Sem.run_pure,Result.ok.injEq,and_true]at AP;cases lo with
   |none =>
    simp only[Option.map_none,Sem.run_pure,Result.ok.injEq,and_true]at y6;simp[←AP,← y6]
   |some y =>
    simp only[Option.map_some]at y6;simp[AP,y6]
  |some z =>
   simp only[Option.map_some]at AP;cases lo with
   |none =>
    simp only[Option.map_none,Sem.run_pure,Result.ok.injEq,and_true]at y6;simp[AP,← y6]
   |some y =>
    simp only[Option.map_some]at y6;simp[AP,y6]
 simp only[execOp,ho,e1,Instr.sliceAt,Instr.slice];simp[iV ht,adg,nH hs]
theorem adh{o:Oper}{t e:TypeId}{n sz:Nat}{p:Operand}{x:bq}{C:bw}(ho:o.op=.slice t p none none none)(ht:P.underlying t=some (.array n e))(hs:eO P e=some sz)
  (hp:bO p x=true) (hR:R E g S a w) (hd:∀d,o.dst=some d→d<E.nt) (ah:VO.run C o.dst S (.arr n sz x)=some S'):cb P E o S S' a w:=by
 simp only[VO.run]at ah;split at ah
 ·rename_i id hx
  cases ah;have hr:=cQ hR hp hx;have e1:a.eval p=.pointer (some ⟨g.κ id,0,none⟩):=by
   generalize a.eval p=y at hr;cases hr with
   |plain h _=>cases h
   |bf=>rfl
  have gp:(execOp a.eval o).run P w=.ok (.value (.slice (some ⟨g.κ id,0,none⟩) n n)) w:=by
   simp[execOp,ho,e1,Instr.sliceAt,Instr.sureAddr,Instr.sliceBounds,iV ht,nH hs,kG]
  exact cb.put hR hd gp (by have:=aZ.fh (X:=S.cx g w) id sz 0 n n (Nat.le_refl _);rwa [Nat.zero_mul]at this)
 ·cases ah
theorem adi{o:Oper}{t e:TypeId}{sz:Nat}{p:Operand}{lo hi:Option Operand}{x:bq}{AO qA:Option bq}{C:bw}(ho:o.op=.slice t p lo hi none)(ht:P.underlying t=some (.slice e))(hs:eO P e=some sz)
  (hp:bO p x=true) (nQ:match lo,AO with|none,none=>True|some y,some z=>bO y z=true|_,_=>False) (Cz:match hi,qA with|none,none=>True|some y,some z=>bO y z=true|_,_=>False)
  (hR:R E g S a w) (hd:∀d,o.dst=some d→d<E.nt) (ah:VO.run C o.dst S (.uI sz x AO qA)=some S'):cb P E o S S' a w:=by
 simp only[VO.run]at ah;split at ah
 ·rename_i tk m es hx
  split at ah
  ·rename_i k1 l k2 h hl hh
   cases hc:(decide (0≤l)&&decide (l≤h)&&decide (h≤(es.length:Int))&&(m==sz)) with
   |false=>simp[hc]at ah
   |true =>
    simp only[hc,cond_true]at ah;cases ah;simp only[Bool.and_eq_true,decide_eq_true_eq,beq_iff_eq]at hc;obtain⟨⟨⟨h0,h1⟩,h2⟩,rfl⟩:=hc;have hr:=cQ hR hp hx;obtain⟨base,cap,e1,eA⟩:∃base cap,a.eval p=.slice base es.length cap∧es.length≤cap:=by
     generalize a.eval p=y at hr;cases hr with
     |plain h _=>cases h with
      |nil=>exact⟨none,0,rfl,by simp⟩
      |empty _ _ a cap=>exact⟨some a,cap,rfl,by simp⟩
      |slice _ _ _ b off cap ys hb eA=>exact⟨_,cap,rfl,eA⟩
    have gp:=EE (w:=w) ho ht hs nQ Cz hR e1 eA hl hh h0 h1 h2;have hlen:((es.take h.toNat).drop l.toNat).length=h.toNat-l.toNat:=by simp;omega
    refine cb.put hR hd gp ?_
    clear gp
    generalize a.eval p=y at hr e1;subst e1;refine .plain ?_ (fun _ _ _ e=>by cases e)
    cases hr with
    |plain hv _ =>
     cases hv with
     |nil =>
      have mB:l.toNat=0:=by simp at h2;omega
      have y7:h.toNat=0:=by simp at h2;omega
      simp[mB,y7];exact .nil _ _
     |empty _ _ a' qu =>
      have mB:l.toNat=0:=by simp at h2;omega
      have y7:h.toNat=0:=by simp at h2;omega
      simp only[mB,y7,Nat.sub_zero,List.take_zero,List.drop_zero];split
      ·exact .empty _ _ _ _
      ·exact .empty _ _ _ _
     |slice _ _ _ b off _ ys hb EF iM hc hv hp hm =>
      rw[←hlen];by_cases dw:cap=l.toNat
      ·rw[if_pos dw]
       have h3:(es.take h.toNat).drop l.toNat=[]:=List.length_eq_zero_iff.1 (by rw[hlen];omega)
       rw[h3];exact .slice none m [] b off _ ys hb (by simp) (by simp) (by simp) (by simp) (by simp) (by simp;omega)
      ·rw[if_neg dw]
       simp only[Option.map_some,kG];have pf:∀(i:Nat) (row:List V),((es.take h.toNat).drop l.toNat)[i]?=some row→es[l.toNat+i]?=some row:=fun i row hi=>by
        rw[List.getElem?_drop,List.getElem?_take]at hi;split at hi
        ·exact hi
        ·cases hi
       refine .slice none m _ b (off+l.toNat*m) _ (fun i j=>ys (l.toNat+i) j) hb (by rw[hlen];omega) (fun i row hi=>iM _ row (pf i row hi)) (fun i row j v hi hj=>?_) (fun i row j v hi hj=>hv _ row j v (pf i row hi) hj)
        (fun i row j v hi hj=>hp _ row j v (pf i row hi) hj) ?_
       ·rw[←hc _ row j v (pf i row hi) hj]
        congr 1;rw[Nat.add_mul];omega
       ·have:(l.toNat+(h.toNat-l.toNat))*m≤es.length*m:=Nat.mul_le_mul_right m (by omega)
        rw[Nat.add_mul]at this;rw[hlen];omega
  ·cases ah
 ·rename_i hx
  split at ah
  ·rename_i k1 l k2 h hl hh
   cases hc:(decide (l=0)&&decide (h=0)) with
   |false=>simp[hc]at ah
   |true =>
    simp only[hc,cond_true]at ah;cases ah;simp only[Bool.and_eq_true,decide_eq_true_eq]at hc;obtain⟨rfl,rfl⟩:=hc;have e1:=nG (cQ hR hp hx);have gp:=EE (w:=w) (n:=0) ho ht hs nQ Cz hR e1 (Nat.le_refl _) hl hh (Int.le_refl _) (Int.le_refl _) (Int.le_refl _);exact cb.put hR hd gp (.plain .bV (fun _ _ _ e=>by cases e))
  ·cases ah
 ·rename_i id s n hx
  split at ah
  ·rename_i k1 l k2 h hl hh
   cases hc:(decide (0≤l)&&decide (l≤h)&&decide (h≤(n:Int))&&(s==sz)) with
   |false=>simp[hc]at ah
   |true =>
    simp only[hc,cond_true]at ah;simp only[Bool.and_eq_true,decide_eq_true_eq,beq_iff_eq]at hc;obtain⟨⟨⟨h0,h1⟩,h2⟩,rfl⟩:=hc;rcases pO (cQ hR hp hx) with⟨cap,eA,fC,e1⟩ | ⟨rfl,hz,fC⟩
    ·have gp:=EE (w:=w) ho ht hs nQ Cz hR e1 eA hl hh h0 h1 h2
     by_cases mB:l=0
     ·subst mB
      simp only[decide_true,cond_true,Option.some.injEq]at ah;subst ah;refine cb.put hR hd gp ?_;simp only[Int.toNat_zero,Nat.zero_mul,Nat.sub_zero,Option.map_some,kG,Nat.add_zero,ite_self];exact .bQ _ _ _ _ (by omega) fC
     ·have HF:decide (l=0)=false:=decide_eq_false mB
      by_cases RC:l<(n:Int)
      ·simp only[HF,decide_eq_true RC,cond_true,cond_false,Option.some.injEq]at ah
       subst ah;refine cb.put hR hd gp ?_;rw[if_neg (by omega)]
       simp only[Option.map_some,kG,Nat.zero_add];rw[show h.toNat-l.toNat=(h-l).toNat from by omega]
       exact .fh _ _ _ _ _ (by omega)
      ·simp[HF,decide_eq_false RC]at ah
    ·have mB:l=0:=by omega
     have y7:h=0:=by omega
     subst mB;subst y7;simp only[decide_true,cond_true,Option.some.injEq]at ah;subst ah;rcases hz with e1 | ⟨b,e1⟩
     ·have gp:=EE (w:=w) (n:=0) ho ht hs nQ Cz hR e1 (Nat.le_refl _) hl hh h0 h1 h2
      exact cb.put hR hd gp (.pM _ _ (.inl rfl) fC)
     ·have gp:=EE (w:=w) (n:=0) ho ht hs nQ Cz hR e1 (Nat.le_refl _) hl hh h0 h1 h2
      exact cb.put hR hd gp (.pM _ _ (.inr ⟨b,rfl⟩) fC)
  ·cases ah
 ·cases ah
end
end Go.Vm

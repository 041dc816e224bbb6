/- The value machine: blocks that calls share, and maps. -/
import Derived.MapKept
import Derived.WideKeyRuns
import Derived.Test.YtmpikpodpgnjhaaGreatVm9
import Derived.Test.YtmpikpodpgnjhaaGreatVmP
namespace Go.Vm
set_option linter.all false
section
variable {P:Program} {E:Entry} {g g':Gh} {S S':St} {a:Act} {w w':World}
theorem R.Qy(hR:R E g S a w){ob:Obj}(hw:w'.heap=w.heap.push ob)(h1:w'.os=w.os)(h2:w'.tape=w.tape)(h3:w'.output=w.output){o:aW}
  (ho:∀g':Gh,g'.m w.heap.size=0→Le ⟨w.heap,g,S.az.length,[]⟩ ⟨w'.heap,g',S.az.length+1,[]⟩→BZ w'.heap g' (S.az.length+1) w.heap.size o∧xK w'.heap g' w.heap.size o) :
  ∃g',R E g' { S with az:=S.az++[o] } a w'∧g'.γ S.az.length=w.heap.size:=by
 let g':Gh:={ g with m:=c7 g.m w.heap.size 0,γ:=c7 g.γ S.az.length w.heap.size,ow:=c7 g.ow w.heap.size (.az S.az.length) }
 have t':Touch E g S w g' S.bm (S.az.length+1) w' w.heap.size none none:=B4 hR hw h1 h2 h3 (fun b hb=>gP _ _ hb) (fun b hb=>gP _ _ hb)
  (fun i _=>rfl) (fun i _=>rfl) (fun i _=>rfl) (fun i _=>rfl) (fun i hi=>gP _ _ (by omega)) (by omega) (fun i h1 h2=>by
   have:i=S.az.length:=by omega
   subst this;show _≤c7 g.γ _ _ _;rw[dP];exact hR.same.size) (fun i e=>by
   have e:c7 g.ow w.heap.size (.az S.az.length) w.heap.size=.az i:=e;rw[dP]at e;cases e;exact⟨dP _ _ _,Nat.lt_succ_self _⟩)
 have kJ:∀i,iP (S.cx g w) ⟨w'.heap,g',S.az.length+1,S.bm⟩ i:=fun i=>t'.keeps hR (fun e=>by cases e) (fun e=>by cases e) (fun h=>absurd h (Nat.lt_irrefl _))
 have oH:Le ⟨w.heap,g,S.az.length,[]⟩ ⟨w'.heap,g',S.az.length+1,[]⟩:=⟨t'.le.size,t'.le.cells,t'.le.m,t'.le.fb,t'.le.γ⟩;have hγ:g'.γ S.az.length=w.heap.size:=dP _ _ _;refine⟨g',R.nf t' hR rfl (by simp) (fun i=>.inl (kJ i)) (fun s v hs=>.inl hs)
  (fun id ek hi=>.inl ⟨hi,(fun e=>by cases e),fun h=>absurd h (Nat.lt_irrefl _)⟩) (fun f k b hf hb=>.inl ⟨(fun e=>by cases e),fun h=>absurd h (Nat.lt_irrefl _)⟩) (fun k o' fQ=>?_),hγ⟩
 simp only[List.getElem?_append]at fQ;split at fQ
 ·exact .inl ⟨fQ,fun h=>absurd h (Nat.lt_irrefl _)⟩
 ·rename_i hk
  have:k=S.az.length:=by
   rcases Nat.eq_zero_or_pos (k-S.az.length) with h|h
   ·omega
   ·rw[List.getElem?_eq_none (by simp;omega)]at fQ;cases fQ
  subst this;simp at fQ;subst fQ;exact .inr ⟨by rw[hγ];exact dP _ _ _,by rw[hγ];exact(ho g' (dP _ _ _) oH).1,by rw[hγ];exact(ho g' (dP _ _ _) oH).2⟩
theorem Kh{ob:Obj}(hw:w'.heap=w.heap.push ob):w'.heap[w.heap.size]?=some ob:=by
 rw[hw];simp
theorem XG{o:Oper}{t:TypeId}{i:TypeInfo}{z:Value}{sh:Sh}{zero:List V}{C:bC}(ho:o.op=.alloc t)(hi:P.info? t=some i)(hz:i.zero=some z)(hc:rX z.cells.toList zero=true)
  (hR:R E g S a w) (hd:∀d,o.dst=some d→d<E.nt) (aj:VO.run C o.dst S (.pc sh zero)=some S'):ct P E o S S' a w:=by
 simp only[VO.run]at aj;split at aj
 ·rename_i cs hg
  cases aj;obtain⟨e1,e2⟩:=Cn hg;obtain⟨hl,hx⟩:=Aa (X:=S.cx g w) hc;have hw:(w.alloc (.cells z.cells t)).heap=w.heap.push (.cells z.cells t (0,0)):=rfl;obtain⟨g',jb,hγ⟩:=hR.Qy (w':=w.alloc (.cells z.cells t)) (o:=.cells cs) hw rfl rfl rfl (fun g' hm le=>by
   refine⟨⟨hm,z.cells,t,Kh hw,by simp at hl;omega,fun j u y hu hy=>?_⟩,fun j n es y hu hy=>?_⟩
   ·obtain⟨u0,s,pR,oI⟩:=wO hg _ u hu
    obtain⟨_,_,kj⟩:=hx j u0 y pR (by simpa using hy)
    obtain⟨q1,q2,q3,_⟩:=Ak oI kj;exact⟨q1,q2,q3.mono le (fun d=>.inr (q2 d))⟩
   ·rw[lg (Kh hw)]at hy
    obtain⟨u0,s,pR,oI⟩:=wO hg _ _ hu;obtain⟨_,_,kj⟩:=hx j u0 y pR (by simpa using hy)
    obtain⟨_,_,_,_,q5⟩:=Ak oI kj;obtain⟨rfl,hz⟩:=q5 n es rfl;exact IK hz)
  refine ct.value (x:=.pointer (some ⟨w.heap.size,0,none⟩)) (w':=w.alloc (.cells z.cells t)) (g':=g') ?_ (jb.put hd ?_)
  ·simp[execOp,ho,Instr.alloc,zeroValue,typeInfo,hi,hz,newVar,newRow]
  ·rw[←hγ];exact .bO _ 0 (by simp[St.cx])
 ·cases aj
theorem XH{o:Oper}{t:TypeId}{C:bC}(ho:o.op=.makeMap t none)
  (hR:R E g S a w) (hd:∀d,o.dst=some d→d<E.nt) (aj:VO.run C o.dst S .rO=some S'):ct P E o S S' a w:=by
 simp only[VO.run]at aj;cases aj;have hw:(w.alloc (.map #[] 0)).heap=w.heap.push (.map #[] 0):=rfl;obtain⟨g',jb,hγ⟩:=hR.Qy (w':=w.alloc (.map #[] 0)) (o:=.map []) hw rfl rfl rfl (fun g' hm le=>⟨⟨hm,#[],0,Kh hw,rfl,fun j u y hu _=>by simp at hu⟩,trivial⟩)
 refine ct.value (x:=.map (some w.heap.size)) (w':=w.alloc (.map #[] 0)) (g':=g') ?_ (jb.put hd ?_)
 ·simp[execOp,ho,Instr.makeMap,newObj]
  rfl
 ·rw[←hγ];exact .map _ (by simp[St.cx])
structure uB(P:Program)(t:TypeId)(ag:Bool)(ks:List Nat):Prop where
 oL:oL P 100 t=some ks
 agg:kl P t=some ag
 size:fh P t=some ks.length
theorem uB.one{t:TypeId}{k:Nat}(h:uB P t false [k]):(k=0∧∃q,P.underlying t=some (.int q))∨(k=1∧P.underlying t=some .bool)∨(k=2∧P.underlying t=some .string):=by
 have h1:=h.oL;have h2:=h.agg;rw[show(100:Nat)=99+1 from rfl,Go.Vm.oL]at h1;unfold kl at h2;split at h1
 ·rename_i q hu;cases hc:fh P t==some 1<;>simp[hc]at h1;exact .inl ⟨h1.symm,q,hu⟩
 ·rename_i hu;cases hc:fh P t==some 1<;>simp[hc]at h1;exact .inr (.inl ⟨h1.symm,hu⟩)
 ·rename_i hu;cases hc:fh P t==some 1<;>simp[hc]at h1;exact .inr (.inr ⟨h1.symm,hu⟩)
 ·rename_i fs hu;simp[hu]at h2
 ·rename_i n e hu;simp[hu]at h2
 ·cases h1
theorem Qz{X:Cx}{k:Nat}{u v:V}{x y:Value}(hx:bj X u x)(hy:bj X v y)(h:jM k u v=some true):x=y:=by
 unfold jM at h;split at h
 ·rename_i q1 c q2 d
  cases hk:decide (q1=q2) with
  |false=>simp[hk]at h
  |true =>
   have:=of_decide_eq_true hk;subst this;simp at h;subst h;rw[hx.yD,hy.yD]
 ·rename_i c d
  simp at h;subst h;rw[hx.yE,hy.yE]
 ·simp at h
  subst h;obtain⟨p,rfl,e1⟩:=hx.xc;obtain⟨q,rfl,e2⟩:=hy.xc;have:p.data.toList=q.data.toList:=e1.trans e2.symm;obtain⟨⟨p⟩⟩:=p;obtain⟨⟨q⟩⟩:=q;simp at this;rw[this]
 ·cases h
theorem QA{X:Cx}:∀{ks:List Nat} {cs ds:List V} {xs ys:List Value},eJ ks cs ds=some true→cs.length=ks.length→ds.length=ks.length→xs.length=ks.length→ys.length=ks.length →
  (∀(j:Nat) (v:V) (y:Value),cs[j]?=some v→xs[j]?=some y→bj X v y)→(∀(j:Nat) (v:V) (y:Value),ds[j]?=some v→ys[j]?=some y→bj X v y)→xs=ys
 |[],cs,ds,xs,ys,_,_,_,h1,h2,_,_=>by
  exact(List.length_eq_zero_iff.1 h1).trans (List.length_eq_zero_iff.1 h2).symm
 |k::ks,[],_,_,_,_,h,_,_,_,_,_=>by simp at h
 |k::ks,_::_,[],_,_,_,_,h,_,_,_,_=>by simp at h
 |k::ks,_::_,_::_,[],_,_,_,_,h,_,_,_=>by simp at h
 |k::ks,_::_,_::_,_::_,[],_,_,_,_,h,_,_=>by simp at h
 |k::ks,c::cs,d::ds,x::xs,y::ys,h,h1,h2,h3,h4,r1,r2=>by
  simp only[eJ]at h;split at h
  ·rename_i p q hp hq
   simp only[Option.some.injEq,Bool.and_eq_true]at h;obtain⟨rfl,rfl⟩:=h;have e1:x=y:=Qz (r1 0 c x rfl rfl) (r2 0 d y rfl rfl) hp;have e2:xs=ys:=QA hq (by simpa using h1) (by simpa using h2) (by simpa using h3) (by simpa using h4)
    (fun j v y a b=>r1 (j+1) v y (by simpa using a) (by simpa using b)) (fun j v y a b=>r2 (j+1) v y (by simpa using a) (by simpa using b))
   rw[e1,e2]
  ·cases h
theorem Ki{t:TypeId}{ag:Bool}{ks:List Nat}(hk:uB P t ag ks){X:Cx}{u v:V}{x y:Value}(hx:bj X u x)(hy:bj X v y){b:Bool}(h:V.lQ ag ks u v=some b) :
  (Op.equal t x y).run P w=.ok b w∧(b=true→x=y):=by
 unfold V.lQ at h;split at h
 ·split at h
  ·rename_i cs ds
   cases hl:(cs.length==ks.length&&ds.length==ks.length) with
   |false=>simp[hl]at h
   |true =>
    simp only[hl,cond_true]at h;simp only[Bool.and_eq_true,beq_iff_eq]at hl;obtain⟨xs,e1,l1,r1⟩:=pj hx;obtain⟨ys,e2,l2,r2⟩:=pj hy;obtain⟨u,v,q1,q2,q3⟩:=Kf 100 t ks hk.oL w X 9900 cs ds xs ys 0 b ⟨l1,r1⟩ ⟨l2,r2⟩ (by simpa using h)
    rw[AW hk.agg hk.size]at q1 q2;cases q1;cases q2;have ex:xs.extract 0 (0+ks.length)=xs:=by simp[←hl.1,l1]
    have ey:ys.extract 0 (0+ks.length)=ys:=by simp[←hl.2,l2]
    rw[ex,ey]at q3;rw[e1,e2];refine⟨q3,fun hb=>?_⟩;subst hb;congr 1;apply Array.ext';exact QA h hl.1 hl.2 (by simp;omega) (by simp;omega) (fun j v y a b=>r1 j v y a (by simpa using b)) (fun j v y a b=>r2 j v y a (by simpa using b))
  ·cases h
 ·split at h
  ·rename_i k
   refine⟨?_,fun hb=>?_⟩
   ·show(Op.equalIn (9999+1) t x y).run P w=_
    exact Qv hk.one hx hy h
   ·subst hb;exact Qz hx hy h
  ·cases h
theorem QB{X:Cx}{k:Nat}{u v:V}{x:Value}(hx:bj X u x){b:Bool}(h:jM k u v=some b)(n:Nat):Instr.sameBits n x x=true:=by
 unfold jM at h;split at h
 ·rw[hx.yD];simp[Instr.sameBits]
 ·rw[hx.yE];simp[Instr.sameBits]
 ·obtain⟨p,rfl,_⟩:=hx.xc;simp only[Instr.sameBits];exact(Go.MapKept.bytes_beq p p).2 rfl
 ·cases h
theorem QC{X:Cx}(n:Nat):∀{ks:List Nat} {cs ds:List V} {xs:List Value} {b:Bool},eJ ks cs ds=some b→xs.length=ks.length →
  (∀(j:Nat) (v:V) (y:Value),cs[j]?=some v→xs[j]?=some y→bj X v y)→((xs.zip xs).all fun(x,y)=>Instr.sameBits n x y)=true
 |[],_,_,xs,_,_,h1,_=>by rw[List.length_eq_zero_iff.1 h1];rfl
 |k::ks,[],_,_,_,h,_,_=>by simp[eJ]at h
 |k::ks,_::_,[],_,_,h,_,_=>by simp[eJ]at h
 |k::ks,_::_,_::_,[],_,_,h,_=>by simp at h
 |k::ks,c::cs,d::ds,x::xs,b,h,h1,r=>by
  simp only[eJ]at h;split at h
  ·rename_i p q hp hq
   simp only[List.zip_cons_cons,List.all_cons,Bool.and_eq_true];exact⟨QB (r 0 c x rfl rfl) hp n,QC n hq (by simpa using h1) (fun j v y a b=>r (j+1) v y (by simpa using a) (by simpa using b))⟩
  ·cases h
theorem ZD{ag:Bool}{ks:List Nat}{X:Cx}{u:V}{x:Value}(hx:bj X u x){b:Bool}(h:V.lQ ag ks u u=some b):(Instr.keyThatStays x x).run P w=.ok x w:=by
 have hs:Instr.sameBits 10000 x x=true:=by
  unfold V.lQ at h;split at h
  ·split at h
   ·rename_i ds
    cases hl:(ds.length==ks.length) with
    |false=>simp[hl]at h
    |true =>
     simp only[hl,Bool.and_self,cond_true]at h;simp only[beq_iff_eq]at hl;obtain⟨xs,rfl,l1,r1⟩:=pj hx;have:=QC 9999 (xs:=xs.toList) h (by simp;omega) (fun j v y a b=>r1 j v y a (by simpa using b))
     simp only[Instr.sameBits,beq_self_eq_true,Bool.true_and];exact this
   ·cases h
  ·split at h
   ·exact QB hx h _
   ·cases h
 simp[Instr.keyThatStays,hs]
def QD(P:Program)(em:Bool)(m:Nat)(t:TypeId)(ks:List Nat):Prop :=
 ∀(w:World) (X:Cx) (d:Nat) (cs:List V) (xs:Array Value) (o:Nat) (b:Bool),nA X cs xs→eJ ks (cs.drop o) (cs.drop o)=some b →
  ∃x,(part t xs o).run P w=.ok x w∧(Instr.checkKey em (m+d) t x).run P w=.ok () w
theorem QE{rec:TypeId→Option (List Nat)}{em:Bool}{m:Nat}(ih:∀t ks,rec t=some ks→QD P em m t ks)(w:World)(X:Cx)(d:Nat)(cs:List V)(xs:Array Value)
  (hx:nA X cs xs):∀(fs:List Field) (off:Nat) (ks:List Nat) (b:Bool),yC rec off fs=some ks→eJ ks (cs.drop off) (cs.drop off)=some b →
  ((forIn fs PUnit.unit fun f _=>do
    if f.name≠ "_" then Instr.checkKey em (m+d) f.type (←part f.type xs f.offset)
    pure (ForInStep.yield PUnit.unit):Sem PUnit)).run P w=.ok PUnit.unit w
 |[],off,ks,b,h,he=>by simp
 |f::fs,off,ks,b,h,he=>by
  simp only[yC]at h;cases hc:((f.name != "_")&&f.offset==off) with
  |false=>simp[hc]at h
  |true =>
   simp only[hc,cond_true]at h;simp only[Bool.and_eq_true,bne_iff_ne,ne_eq,beq_iff_eq]at hc;split at h
   ·rename_i k1 h1
    split at h
    ·rename_i r h2
     simp only[Option.some.injEq]at h;subst h;obtain⟨b1,b2,e1,e2,rfl⟩:=C6 he;rw[List.drop_drop]at e2;obtain⟨x,p1,p2⟩:=ih f.type k1 h1 w X d cs xs off b1 hx e1;have sf:=QE ih w X d cs xs hx fs (off+k1.length) r b2 h2 e2;simp only[List.forIn_cons,Sem.run_bind,ne_eq,hc.1,not_false_eq_true,if_true,hc.2,p1,p2,Result.andThen_ok,Sem.run_pure];exact sf
    ·cases h
   ·cases h
theorem QF(em:Bool):∀(m:Nat) (t:TypeId) (ks:List Nat),oL P m t=some ks→QD P em m t ks
 |0,t,ks,h=>by simp[oL]at h
 |m+1,t,ks,h=>by
  intro w X d cs xs o b hx he;have ih:=QF em m;have one:∀k,ks=[k]→kl P t=some false→(∃td,P.underlying t=some td∧((∃q,td=.int q)∨td=.bool∨td=.string)) →
    ∃x,(part t xs o).run P w=.ok x w∧(Instr.checkKey em (m+1+d) t x).run P w=.ok () w:=by
   intro k hk ha ⟨td,hu,vA⟩;subst hk;cases fx:cs.drop o with
   |nil=>rw[fx]at he;simp[eJ]at he
   |cons u us =>
    obtain⟨x,h1,h2⟩:=Ke (w:=w) ha hx (o:=o) (v:=u) (by rw[fx];rfl)
    refine⟨x,h1,?_⟩;rw[show m+1+d=(m+d)+1 from by omega,Instr.checkKey]
    simp only[Sem.run_bind,run_underlying hu,Result.andThen_ok];rcases vA with⟨q,rfl⟩ | rfl|rfl<;>rfl
  have agg:∀n,kl P t=some true→fh P t=some n→n=ks.length→(∀xs,nA X ((cs.drop o).take n) xs →
    eJ ks ((cs.drop o).take n) ((cs.drop o).take n)=some b→(Instr.checkKey em (m+1+d) t (.agg xs)).run P w=.ok () w) →
    ∃x,(part t xs o).run P w=.ok x w∧(Instr.checkKey em (m+1+d) t x).run P w=.ok () w:=by
   intro n ha hs hn hk;obtain⟨l1,l2⟩:=Kd he;simp only[List.length_drop]at l1 l2;refine⟨_,AW ha hs,?_⟩;rcases Nat.eq_zero_or_pos n with h0|h0
   ·have e1:nA X ((cs.drop o).take n) (xs.extract o (o+n)):=⟨by subst h0;simp;omega,by subst h0;simp⟩
    exact hk _ e1 (C7 (by omega) he)
   ·exact hk _ (hx.sub o n (by omega)) (C7 (by omega) he)
  simp only[oL]at h;split at h
  ·rename_i q hu
   cases hc:fh P t==some 1<;>simp[hc]at h;exact one 0 h.symm (by simp[kl,hu]) ⟨_,hu,.inl ⟨q,rfl⟩⟩
  ·rename_i hu
   cases hc:fh P t==some 1<;>simp[hc]at h;exact one 1 h.symm (by simp[kl,hu]) ⟨_,hu,.inr (.inl rfl)⟩
  ·rename_i hu
   cases hc:fh P t==some 1<;>simp[hc]at h;exact one 2 h.symm (by simp[kl,hu]) ⟨_,hu,.inr (.inr rfl)⟩
  ·rename_i fs hu
   cases j8:P.stoodInHeld t with
   |true=>simp[j8]at h
   |false =>
    simp only[j8,cond_false]at h;split at h
    ·rename_i k1 h1
     cases hc:fh P t==some k1.length with
     |false=>simp[hc]at h
     |true =>
      simp only[hc,cond_true,Option.some.injEq]at h;subst h;refine agg _ (by simp[kl,hu]) (by simpa using hc) rfl fun xs r1 he=>?_
      rw[show m+1+d=(m+d)+1 from by omega,Instr.checkKey]
      simp only[Sem.run_bind,run_underlying hu,Result.andThen_ok];rw[←Array.forIn_toList];have:=QE ih w X d _ xs r1 _ 0 k1 b h1 he;simp at this ⊢;rw[this];rfl
    ·cases h
  ·rename_i n e hu
   split at h
   ·rename_i k1 h1
    cases hc:((fh P e==some k1.length)&&(fh P t==some (n*k1.length))) with
    |false=>simp[hc]at h
    |true =>
     simp only[hc,cond_true,Option.some.injEq]at h;simp only[Bool.and_eq_true,beq_iff_eq]at hc;subst h;refine agg _ (by simp[kl,hu]) hc.2 (Qt _ _).symm fun xs r1 he=>?_
     have eH:=hc.1;have Kj:=eH;simp only[fh,Option.map_eq_some_iff]at Kj;obtain⟨i,hi,Kj⟩:=Kj;rw[show m+1+d=(m+d)+1 from by omega,Instr.checkKey]
     simp only[Sem.run_bind,run_underlying hu,Result.andThen_ok];simp only[Std.Legacy.Range.forIn_eq_forIn_range',Std.Legacy.Range.size,Nat.sub_zero,Nat.add_one_sub_one,Nat.div_one]
     suffices hgo:∀(n i:Nat) (b:Bool),eJ (sB n k1) (((cs.drop o).take (sB n k1).length).drop 0) []=none∨True→True by
      have ZE:∀(n i:Nat) (b:Bool) (c:List V),nA X c xs→eJ (sB n k1) (c.drop (i*k1.length)) (c.drop (i*k1.length))=some b →
        ((forIn (List.range' i n) PUnit.unit fun j _=>do
          let z ← sizeOf e
          Instr.checkKey em (m+d) e (←part e xs (j*z))
          pure (ForInStep.yield PUnit.unit):Sem PUnit)).run P w=.ok PUnit.unit w:=by
       intro n;induction n with
       |zero=>intro i b c _ _;simp
       |succ n ZF =>
        intro i b c hc he;simp only[sB]at he;obtain⟨b1,b2,e1,e2,rfl⟩:=C6 he;rw[List.drop_drop,show i*k1.length+k1.length=(i+1)*k1.length from by rw[Nat.succ_mul]]at e2
        obtain⟨x,p1,p2⟩:=ih e k1 h1 w X d c xs _ b1 hc e1;rw[List.range'_succ];simp only[List.forIn_cons,Sem.run_bind,nW eH,Result.andThen_ok,p1,p2,Sem.run_pure];have:=ZF (i+1) b2 c hc e2;simpa using this
      have:=ZE n 0 b _ r1 (by simpa using he)
      simp at this ⊢;rw[this];rfl
     intros;trivial
   ·cases h
  ·cases h
theorem QG{t:TypeId}{ag:Bool}{ks:List Nat}(hk:uB P t ag ks){X:Cx}{u:V}{x:Value}(hx:bj X u x){b:Bool}(h:V.lQ ag ks u u=some b)(em:Bool) :
  (Instr.checkKey em 10000 t x).run P w=.ok () w:=by
 unfold V.lQ at h;split at h
 ·split at h
  ·rename_i ds
   cases hl:(ds.length==ks.length) with
   |false=>simp[hl]at h
   |true =>
    simp only[hl,Bool.and_self,cond_true]at h;simp only[beq_iff_eq]at hl;obtain⟨xs,e1,l1,r1⟩:=pj hx;obtain⟨u,q1,q3⟩:=QF em 100 t ks hk.oL w X 9900 ds xs 0 b ⟨l1,r1⟩ (by simpa using h)
    rw[AW hk.agg hk.size]at q1;cases q1;have ex:xs.extract 0 (0+ks.length)=xs:=by simp[←hl,l1]
    rw[ex]at q3;rw[e1];exact q3
  ·cases h
 ·split at h
  ·show(Instr.checkKey em (9999+1) t x).run P w=_
   rw[Instr.checkKey];rcases hk.one with⟨_,q,hu⟩ | ⟨_,hu⟩ | ⟨_,hu⟩<;>simp only[Sem.run_bind,run_underlying hu,Result.andThen_ok]<;>rfl
  ·cases h
def tB(X:Cx)(es:List (V×V))(l:List MapEntry):Prop :=
 es.length=l.length∧∀(j:Nat) (p:V×V) (y:MapEntry),es[j]?=some p→l[j]?=some y→bj X p.1 y.key
theorem tB.tail{X:Cx}{p:V×V}{es:List (V×V)}{y:MapEntry}{l:List MapEntry}(h:tB X (p::es) (y::l)):tB X es l :=
 ⟨by simpa using h.1,fun j p y a b=>h.2 (j+1) p y (by simpa using a) (by simpa using b)⟩
def Found(k:V)(kx:Value)(es:List (V×V))(l:List MapEntry)(i:Nat):Option (Nat×V)→Option (Nat×Value)→Prop
 |none,r=>r=none
 |some (j,v),r=>i≤j∧∃q e,es[j-i]?=some (q,v)∧l[j-i]?=some e∧e.key=kx∧r=some (j,e.val)
theorem Found.up{k:V}{kx:Value}{p:V×V}{es:List (V×V)}{y:MapEntry}{l:List MapEntry}{i:Nat}{r:Option (Nat×V)}{z:Option (Nat×Value)}(h:Found k kx es l (i+1) r z) :
  Found k kx (p::es) (y::l) i r z:=by
 cases r with
 |none=>exact h
 |some jv =>
  obtain⟨j,v⟩:=jv;obtain⟨h1,q,e,h2,h3,h4,h5⟩:=h;refine⟨by omega,q,e,?_,?_,h4,h5⟩
  ·rw[show j-i=(j-(i+1))+1 from by omega];simpa using h2
  ·rw[show j-i=(j-(i+1))+1 from by omega];simpa using h3
theorem QH{t:TypeId}{ag:Bool}{ks:List Nat}(hk:uB P t ag ks){X:Cx}{k:V}{kx:Value}(hx:bj X k kx):∀(es:List (V×V)) (l:List MapEntry) (i:Nat) (r:Option (Nat×V)),tB X es l →
  lR ag ks k es i=some r→∃z,(Instr.findAsking t kx l i).run P w=.ok z w∧Found k kx es l i r z
 |[],[],i,r,_,h=>by simp[lR]at h;subst h;exact⟨none,by simp[Instr.findAsking],rfl⟩
 |[],_::_,_,_,hr,_=>by simp[tB]at hr
 |_::_,[],_,_,hr,_=>by simp[tB]at hr
 |(q,v)::es,y::l,i,r,hr,h=>by
  simp only[lR]at h;have h0:=hr.2 0 (q,v) y rfl rfl;split at h
  ·rename_i hq
   cases h;obtain⟨q1,q2⟩:=Ki (w:=w) hk hx h0 hq;exact⟨some (i,y.val),by simp[Instr.findAsking,q1],Nat.le_refl _,q,y,by simp,by simp,(q2 rfl).symm,rfl⟩
  ·rename_i hq
   obtain⟨q1,_⟩:=Ki (w:=w) hk hx h0 hq;obtain⟨z,h1,h2⟩:=QH hk hx es l (i+1) r hr.tail h;exact⟨z,by simp[Instr.findAsking,q1,h1],h2.up⟩
  ·cases h
theorem QI{t:TypeId}{k0:Nat}{td:TypeDesc}(hk:uB P t false [k0])(vA:P.underlying t=some td){X:Cx}{k:V}{kx:Value}(hx:bj X k kx):∀(es:List (V×V)) (l:List MapEntry) (i:Nat) (r:Option (Nat×V)),tB X es l →
  lR false [k0] k es i=some r→∃z,Instr.findNow td kx l i=some z∧Found k kx es l i r z
 |[],[],i,r,_,h=>by simp[lR]at h;subst h;exact⟨none,by simp[Instr.findNow],rfl⟩
 |[],_::_,_,_,hr,_=>by simp[tB]at hr
 |_::_,[],_,_,hr,_=>by simp[tB]at hr
 |(q,v)::es,y::l,i,r,hr,h=>by
  simp only[lR]at h;have h0:=hr.2 0 (q,v) y rfl rfl;have QJ:∀b,V.lQ false [k0] k q=some b→Instr.sameNow td kx y.key=some b∧(b=true→kx=y.key):=fun b hb=>by
   refine⟨?_,(Ki (w:=default) hk hx h0 hb).2⟩;simp only[V.lQ]at hb;unfold jM at hb;split at hb
   ·rename_i q1 c q2 d
    rcases hk.one with⟨_,q',hu⟩ | ⟨h',_⟩ | ⟨h',_⟩<;>first|omega|skip
    rw[vA]at hu;cases hu;cases pM:decide (q1=q2) with
    |false=>simp[pM]at hb
    |true =>
     have:=of_decide_eq_true pM;subst this;simp at hb;rw[hx.yD,bj.yD h0];simp[Instr.sameNow,hb]
   ·rcases hk.one with⟨h',_⟩ | ⟨_,hu⟩ | ⟨h',_⟩<;>first|omega|skip
    rw[vA]at hu;cases hu;rw[hx.yE,bj.yE h0];simpa [Instr.sameNow] using hb
   ·rcases hk.one with⟨h',_⟩ | ⟨h',_⟩ | ⟨_,hu⟩<;>first|omega|skip
    rw[vA]at hu;cases hu;obtain⟨c,rfl,rfl⟩:=hx.xc;obtain⟨d,hd,ik⟩:=bj.xc h0;subst ik;rw[hd];simp only[Instr.sameNow,Option.some.injEq];rw[beq_toListBytes,Qu];simpa using hb
   ·cases hb
  split at h
  ·rename_i hq
   cases h;obtain⟨q1,q2⟩:=QJ _ hq;exact⟨some (i,y.val),by simp[Instr.findNow,q1],Nat.le_refl _,q,y,by simp,by simp,(q2 rfl).symm,rfl⟩
  ·rename_i hq
   obtain⟨q1,_⟩:=QJ _ hq;obtain⟨z,h1,h2⟩:=QI hk vA hx es l (i+1) r hr.tail h;exact⟨z,by simp[Instr.findNow,q1,h1],h2.up⟩
  ·cases h
theorem FU{t:TypeId}{ag:Bool}{ks:List Nat}(hk:uB P t ag ks){X:Cx}{k:V}{kx:Value}(hx:bj X k kx){b:Bool}(pM:V.lQ ag ks k k=some b){es:List (V×V)}{l:List MapEntry}{r:Option (Nat×V)}(hr:tB X es l)
  (h:lR ag ks k es 0=some r):∃z,(Instr.findKey t kx l).run P w=.ok z w∧Found k kx es l 0 r z:=by
 cases ag with
 |true =>
  have ha:=hk.agg;unfold kl at ha;rw[run_findKey_eq w (by split at ha<;>simp_all) kx l]
  exact QH hk hx es l 0 r hr h
 |false =>
  have:∃k0,ks=[k0]:=by
   simp only[V.lQ]at pM;split at pM
   ·exact⟨_,rfl⟩
   ·cases pM
  obtain⟨k0,rfl⟩:=this;have:∃td,P.underlying t=some td:=by
   rcases hk.one with⟨_,q,hu⟩ | ⟨_,hu⟩ | ⟨_,hu⟩<;>exact⟨_,hu⟩
  obtain⟨td,vA⟩:=this;obtain⟨z,h1,h2⟩:=QI hk vA hx es l 0 r hr h;exact⟨z,by simp[Instr.findKey,run_underlying vA,h1],h2⟩
theorem QK{X:Cx}{i:Nat}{x:Value}(h:bj X (.map i) x):x=.map (some (X.g.γ i))∧i<X.N:=by
 cases h with
 |plain h _=>cases h
 |map _ h=>exact⟨rfl,h⟩
theorem bj.down{h:Array Obj}{g:Gh}{N:Nat}{T:List (Nat×Nat)}{v:V}{x:Value}(hx:bj ⟨h,g,N,[]⟩ v x)(hm:∀d,v.cu d=false):bj ⟨h,g,N,T⟩ v x :=
 bj.mono (X:=⟨h,g,N,[]⟩) (X':=⟨h,g,N,T⟩) ⟨Nat.le_refl _,fun _ _ _ _ h=>h,fun _ _=>Nat.le_refl _,Nat.le_refl _,fun _ _=>rfl⟩ hx fun d=>.inr (hm d)
theorem ZH{ag:Bool}{ks:List Nat}{u:V}{b:Bool}(h:V.lQ ag ks u u=some b)(d:Nat):u.cu d=false:=by
 have cell:∀{k:Nat} {u v:V} {b:Bool},jM k u v=some b→u.cI d=false∧u.cu d=false:=fun {k u v b} h=>by
  unfold jM at h;split at h<;>first|exact⟨rfl,rfl⟩ | cases h
 unfold V.lQ at h;split at h
 ·split at h
  ·rename_i ds
   cases hl:(ds.length==ks.length) with
   |false=>simp[hl]at h
   |true =>
    simp only[hl,Bool.and_self,cond_true]at h;simp only[beq_iff_eq]at hl;simp only[V.cu,V.dC,List.any_eq_false];intro v hv;obtain⟨j,hj⟩:=List.mem_iff_getElem?.1 hv;have go:∀(ks:List Nat) (cs:List V) (b:Bool) (j:Nat),cs.length=ks.length→eJ ks cs cs=some b→cs[j]?=some v→v.cI d=false:=by
     intro ks;induction ks with
     |nil=>intro cs b j h1 _ h3;rw[List.length_eq_zero_iff.1 h1]at h3;simp at h3
     |cons k ks ih =>
      intro cs b j h1 h2 h3;cases cs with
      |nil=>simp at h1
      |cons c cs =>
       simp only[eJ]at h2;split at h2
       ·rename_i p q hp hq
        cases j with
        |zero=>simp at h3;subst h3;exact(cell hp).1
        |succ j=>exact ih cs q j (by simpa using h1) hq (by simpa using h3)
       ·cases h2
    simp[go ks ds b j hl h hj]
  ·cases h
 ·split at h
  ·exact(cell h).2
  ·cases h
theorem Fc(hR:R E g S a w){i:Nat}{es:List (V×V)}(h:S.az[i]?=some (.map es)):g.ow (g.γ i)=.az i∧g.m (g.γ i)=0∧∃c k,w.heap[g.γ i]?=some (.map c k)∧es.length=c.size ∧
  tB (S.cx g w) es c.toList∧∀(j:Nat) (p:V×V) (y:MapEntry),es[j]?=some p→c[j]?=some y→(∀d,p.1.cu d=false)∧(∀d,p.2.dC d=false)∧bj ⟨w.heap,g,S.az.length,[]⟩ p.1 y.key∧bj ⟨w.heap,g,S.az.length,[]⟩ p.2 y.val:=by
 obtain⟨cJ,hm,c,k,hh,hl,hj⟩:=(hR.az.obj i _ h).resolve_left (fun e=>by cases e)
 refine⟨cJ,hm,c,k,hh,hl,⟨by simpa using hl,fun j p y a b=>?_⟩,hj⟩
 obtain⟨q1,_,q3,_⟩:=hj j p y a (by simpa using b)
 exact q3.down q1
def I5(P:Program)(t:TypeId)(zero:V):Bool :=
 match (P.info? t).bind (·.zero) with
 |some z=>EL z zero
 |none=>false
theorem XI{o:Oper}{t kt et:TypeId}{ag ok:Bool}{ks:List Nat}{zero:V}{p q:Operand}{x k:bB}{C:bC}(ho:o.op=.lookup t p q ok)(ht:P.underlying t=some (.map kt et))(hk:uB P kt ag ks)(hz:I5 P et zero=true)
  (hp:bX p x=true) (hq:bX q k=true) (hR:R E g S a w) (hd:∀d,o.dst=some d→d<E.nt) (aj:VO.run C o.dst S (.sY ag ks zero ok x k)=some S'):ct P E o S S' a w:=by
 simp only[VO.run]at aj;split at aj
 ·rename_i i kv hx pP
  split at aj
  ·rename_i es b mL hb
   obtain⟨ex,hi⟩:=QK (cZ hR hp hx);have vB:=cZ hR hq pP;obtain⟨cJ,hm,c,ck,hh,hl,C8,hj⟩:=Fc hR mL;have C9:=QG (w:=w) hk vB hb c.isEmpty;have oJ:=MapKept.run_getObj_map (P:=P) hh;have Db:(getObj ((S.cx g w).g.γ i)).run P w=.ok (.map c ck) w:=oJ;split at aj
   ·rename_i j v hf
    cases aj;obtain⟨z,vC,_,q,e,Kk,Kl,QL,rfl⟩:=FU (w:=w) hk vB hb C8 hf;have QM:=hj j (q,v) e (by simpa using Kk) (by simpa using Kl)
    have hv:bj (S.cx g w) v e.val:=QM.2.2.2.down fun d=>tc (QM.2.1 d);refine ct.put hR hd (x:=if ok then .tuple #[e.val,.bool true] else e.val) ?_ ?_
    ·simp only[execOp,ho,ex]
     simp[Instr.lookup,ja ht,Db,C9,vC]
    ·cases ok
     ·exact hv
     ·refine .tuple _ _ (by simp) fun m u y hu hy=>?_
      match m with
      |0=>simp at hu hy;subst hu;subst hy;exact hv
      |1=>simp at hu hy;subst hu;subst hy;exact bj.bool _
      |m+2=>simp at hu
   ·rename_i hf
    cases aj;obtain⟨z,vC,rfl⟩:=FU (w:=w) hk vB hb C8 hf;unfold I5 at hz;split at hz
    ·rename_i zv Km
     cases lW:P.info? et with
     |none=>simp[lW]at Km
     |some inf =>
      simp only[lW,Option.bind_some]at Km;have hv:bj (S.cx g w) zero zv:=NY hz;refine ct.put hR hd (x:=if ok then .tuple #[zv,.bool false] else zv) ?_ ?_
      ·simp only[execOp,ho,ex]
       simp[Instr.lookup,ja ht,Db,C9,vC,zeroValue,typeInfo,lW,Km]
      ·cases ok
       ·exact hv
       ·refine .tuple _ _ (by simp) fun m u y hu hy=>?_
        match m with
        |0=>simp at hu hy;subst hu;subst hy;exact hv
        |1=>simp at hu hy;subst hu;subst hy;exact bj.bool _
        |m+2=>simp at hu
    ·cases hz
   ·cases aj
  ·cases aj
 ·cases aj
theorem ZI{b:Nat}{o':Obj}(hm:g.m b=0)(vg:E.w0.heap.size≤b∨∃i,i<E.N0∧E.g0.ow b=.az i)(Ck:∀p q,g.ow b≠.cell p q)(hR:R E g S a w) :
  Touch E g S w g S.bm S.az.length { w with heap:=w.heap.setIfInBounds b o' } b none none where
 os:=rfl
 tape:=rfl
 output:=rfl
 size:=by simp
 heap:=fun i hi _=>by simp[Ne.symm hi]
 m:=fun _ _=>rfl
 ow:=fun _ _=>rfl
 κ:=fun _ _=>rfl
 cp:=fun _ _=>rfl
 τ:=fun _ _=>rfl
 T:=fun _ _=>rfl
 γ:=fun _ _=>rfl
 fb:=Nat.le_refl _
 γnew:=fun i a b=>absurd a (by omega)
 fresh:=vg.imp (fun z=>z) .inl
 ig:=fun p q _ e=>absurd e (Ck p q)
 lv:=fun i e=>hR.z8 e (Nat.le_refl _)
 jk:=fun o y ho _=>absurd ho (by omega)
 oC:=fun _=>Nat.le_refl _
theorem R.QN(hR:R E g S a w){i:Nat}{es nY:List (V×V)}(mL:S.az[i]?=some (.map es)){c':Array MapEntry}{vF:Nat}(hl:nY.length=c'.size)
  (hj:∀(j:Nat) (p:V×V) (y:MapEntry),nY[j]?=some p→c'[j]?=some y→(∀d,p.1.cu d=false)∧(∀d,p.2.dC d=false)∧bj ⟨w.heap,g,S.az.length,[]⟩ p.1 y.key∧bj ⟨w.heap,g,S.az.length,[]⟩ p.2 y.val) :
  R E g { S with az:=S.az.set i (.map nY) } a { w with heap:=w.heap.setIfInBounds (g.γ i) (.map c' vF) }:=by
 obtain⟨cJ,hm,c,ck,hh,_,_,_⟩:=Fc hR mL;have hi:=eZ mL;have vg:=hR.E1 cJ;have hb:g.γ i<w.heap.size:=by
  rcases Nat.lt_or_ge (g.γ i) w.heap.size with h|h
  ·exact h
  ·simp[Array.getElem?_eq_none h]at hh
 have lj:({ w with heap:=w.heap.setIfInBounds (g.γ i) (.map c' vF) }:World).heap[g.γ i]?=some (.map c' vF):=by simp[hb]
 have tt:=ZI (S:=S) (w:=w) (o':=.map c' vF) hm vg (fun _ _ e=>by rw[cJ]at e;cases e) hR
 have hk:∀k,iP (S.cx g w) ⟨w.heap.setIfInBounds (g.γ i) (.map c' vF),g,S.az.length,S.bm⟩ k:=fun k=>tt.keeps hR (fun e=>by cases e) (fun e=>by cases e) (fun _ e=>by rw[cJ]at e;cases e)
 have oH:Le ⟨w.heap,g,S.az.length,[]⟩ ⟨w.heap.setIfInBounds (g.γ i) (.map c' vF),g,S.az.length,[]⟩:=⟨tt.le.size,tt.le.cells,tt.le.m,tt.le.fb,tt.le.γ⟩;refine R.nf tt hR rfl (by simp) (fun i=>.inl (hk i)) (fun s v hs=>.inl hs) (fun id ek hi=>.inl ⟨hi,(fun e=>by cases e),fun _ e=>by rw[cJ]at e;cases e⟩)
  (fun f k b hf hb=>.inl ⟨(fun e=>by cases e),fun _ e=>by rw[cJ]at e;cases e⟩) (fun k o fQ=>?_)
 simp only[List.getElem?_set]at fQ;split at fQ
 ·rename_i kL
  subst kL
  first|(rw[if_pos hi]at fQ;cases fQ)|cases fQ
  refine .inr ⟨cJ,⟨hm,c',vF,lj,hl,fun j p y hp hy=>?_⟩,trivial⟩;obtain⟨q1,q2,q3,q4⟩:=hj j p y hp hy;exact⟨q1,q2,q3.mono oH fun d=>.inr (q1 d),q4.mono oH fun d=>.inr (tc (q2 d))⟩
 ·rename_i kL
  exact .inl ⟨fQ,fun _=>⟨fun e=>(by rw[cJ]at e;cases e;exact kL rfl),fun _ e=>(by rw[cJ]at e;cases e)⟩⟩
theorem ZJ{X:Cx}{sh:Sh}{v u:V}{y:Value}(h:wB sh v=some u)(hr:bj X v y)(d:Nat):u.dC d=false:=by
 unfold wB at h;split at h
 ·split at h
  ·rename_i cs us hg
   cases h;obtain⟨xs,e,hl,hx⟩:=pj hr;obtain⟨l1,l2⟩:=IH hg;simp only[V.dC,List.any_eq_false];intro u hu;obtain⟨j,hj⟩:=List.mem_iff_getElem?.1 hu;obtain⟨v0,s,QO,oI⟩:=II hg j u hj;have bG:=eZ QO;obtain⟨q1,q2,_,_⟩:=Aj oI (hx j v0 xs[j] QO (by simp[hl]at bG;simp[bG]))
   have:=q2 d;cases u<;>simp_all[V.cu,V.dC,V.cI,V.cM]
  ·cases h
 ·split at h
  ·obtain⟨q1,q2,_,_⟩:=Aj h hr
   have:=q2 d;cases u<;>simp_all[V.cu,V.cM]
  ·cases h
theorem XJ{o:Oper}{t kt et:TypeId}{ag:Bool}{ks:List Nat}{sh:Sh}{p q r:Operand}{x k y:bB}{C:bC}(ho:o.op=.mapUpdate t p q r)(tj:o.dst=none)(ht:P.underlying t=some (.map kt et))(hk:uB P kt ag ks)
  (hp:bX p x=true) (hq:bX q k=true) (hr:bX r y=true) (hR:R E g S a w) (aj:VO.run C o.dst S (.rP ag ks sh x k y)=some S'):ct P E o S S' a w:=by
 simp only[VO.run]at aj;split at aj
 ·rename_i i kv v hx pP hy
  split at aj
  ·rename_i es b u mL hb hu
   obtain⟨ex,hi⟩:=QK (cZ hR hp hx);have vB:=cZ hR hq pP;have QP:=cZ hR hr hy;have QQ:=OD hu QP;have QR:=ZJ hu QP;have Ko:=ZH hb;have FV:bj ⟨w.heap,g,S.az.length,[]⟩ kv (a.eval q):=bj.mono (X:=S.cx g w) (X':=⟨w.heap,g,S.az.length,[]⟩) ⟨Nat.le_refl _,fun _ _ _ _ h=>h,fun _ _=>Nat.le_refl _,Nat.le_refl _,fun _ _=>rfl⟩ vB fun d=>.inr (Ko d);obtain⟨cJ,hm,c,ck,hh,hl,C8,hj⟩:=Fc hR mL;have C9:=QG (w:=w) hk vB hb false;have oJ:=MapKept.run_getObj_map (P:=P) hh;have Db:(getObj ((S.cx g w).g.γ i)).run P w=.ok (.map c ck) w:=oJ;split at aj
   ·rename_i j v hf
    cases aj;obtain⟨z,vC,_,q0,e,Kk,Kl,QL,rfl⟩:=FU (w:=w) hk vB hb C8 hf;have ZK:=ZD (P:=P) (w:=w) vB hb
    let c':=c.modify j fun e=>{ e with key:=a.eval q,val:=a.eval r }
    have jb:=hR.QN (c':=c') (vF:=ck) (nY:=es.set j (kv,u)) mL (by simp[c',hl]) (fun n p y hn hy=>by
     simp only[List.getElem?_set]at hn;split at hn
     ·rename_i AX
      subst AX;split at hn
      ·cases hn
       have pn:j<c.size:=by omega
       simp only[c',Array.getElem?_modify,if_true]at hy;simp[pn]at hy;subst hy;exact⟨Ko,QR,FV,QQ⟩
      ·cases hn
     ·rename_i AX
      simp only[c',Array.getElem?_modify]at hy;rw[if_neg AX]at hy;exact hj n p y hn hy)
    refine ct.skip (g':=g) ?_ tj jb;have uD:=MapKept.run_setObj_map (P:=P) (.map c' ck) hh;have Kp:(setObj ((S.cx g w).g.γ i) (.map c' ck)).run P w=.ok () { w with heap:=w.heap.setIfInBounds (g.γ i) (.map c' ck) }:=uD;have he:((c[j]?).map (·.key)).getD (a.eval q)=a.eval q:=by
     have:c[j]?=some e:=by simpa using Kl
     rw[this];exact QL
    simp only[execOp,ho,ex];simp[Instr.mapUpdate,ja ht,Db,C9,vC,he,ZK,c',Kp]
   ·rename_i hf
    cases aj;obtain⟨z,vC,rfl⟩:=FU (w:=w) hk vB hb C8 hf
    let c':=c.push { key:=a.eval q,val:=a.eval r,born:=ck }
    have jb:=hR.QN (c':=c') (vF:=ck+1) (nY:=es++[(kv,u)]) mL (by simp[c',hl]) (fun n p y hn hy=>by
     simp only[c',Array.getElem?_push]at hy;by_cases vp:n=c.size
     ·rw[if_pos vp]at hy
      rw[List.getElem?_append_right (by omega),vp,hl]at hn
      simp at hn;cases hy;subst hn;exact⟨Ko,QR,FV,QQ⟩
     ·rw[if_neg vp]at hy
      have bG:=(Array.getElem?_eq_some_iff.1 hy).1;rw[List.getElem?_append_left (by omega)]at hn
      exact hj n p y hn hy)
    refine ct.skip (g':=g) ?_ tj jb;have uD:=MapKept.run_setObj_map (P:=P) (.map c' (ck+1)) hh;have Kp:(setObj ((S.cx g w).g.γ i) (.map c' (ck+1))).run P w=.ok () { w with heap:=w.heap.setIfInBounds (g.γ i) (.map c' (ck+1)) }:=uD;simp only[execOp,ho,ex];simp[Instr.mapUpdate,ja ht,Db,C9,vC,c',Kp]
   ·cases aj
  ·cases aj
 ·cases aj
end
end Go.Vm

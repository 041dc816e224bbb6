/- The value machine: blocks that calls share, and maps. -/
import Derived.MapKept
import Derived.WideKeyRuns
import Derived.Test.YtocclbnghhaejaaGreatVm9
import Derived.Test.YtocclbnghhaejaaGreatVmP
namespace Go.Vm
set_option linter.all false
section
variable {P:Program} {E:Entry} {g g':Gh} {S S':St} {a:Act} {w w':World}
theorem R.TJ(hR:R E g S a w){ob:Obj}(hw:w'.heap=w.heap.push ob)(h1:w'.os=w.os)(h2:w'.tape=w.tape)(h3:w'.output=w.output){o:aP}
  (ho:∀g':Gh,g'.m w.heap.size=0→Le ⟨w.heap,g,S.aF.length,[]⟩ ⟨w'.heap,g',S.aF.length+1,[]⟩→Ef w'.heap g' (S.aF.length+1) w.heap.size o∧AA w'.heap g' w.heap.size o) :
  ∃g',R E g' { S with aF:=S.aF++[o] } a w'∧g'.γ S.aF.length=w.heap.size:=by
 let g':Gh:={ g with m:=cS g.m w.heap.size 0,γ:=cS g.γ S.aF.length w.heap.size,ow:=cS g.ow w.heap.size (.aF S.aF.length) }
 have t':Touch E g S w g' S.bg (S.aF.length+1) w' w.heap.size none none:=Ek hR hw h1 h2 h3 (fun b hb=>fR _ _ hb) (fun b hb=>fR _ _ hb)
  (fun i _=>rfl) (fun i _=>rfl) (fun i _=>rfl) (fun i _=>rfl) (fun i hi=>fR _ _ (by omega)) (by omega) (fun i h1 h2=>by
   have:i=S.aF.length:=by omega
   subst this;show _≤cS g.γ _ _ _;rw[dG];exact hR.same.size) (fun i e=>by
   have e:cS g.ow w.heap.size (.aF S.aF.length) w.heap.size=.aF i:=e;rw[dG]at e;cases e;exact⟨dG _ _ _,Nat.lt_succ_self _⟩)
 have lg:∀i,iU (S.cx g w) ⟨w'.heap,g',S.aF.length+1,S.bg⟩ i:=fun i=>t'.keeps hR (fun e=>by cases e) (fun e=>by cases e) (fun h=>absurd h (Nat.lt_irrefl _))
 have pd:Le ⟨w.heap,g,S.aF.length,[]⟩ ⟨w'.heap,g',S.aF.length+1,[]⟩:=⟨t'.le.size,t'.le.cells,t'.le.m,t'.le.eN,t'.le.γ⟩;have hγ:g'.γ S.aF.length=w.heap.size:=dG _ _ _;refine⟨g',R.nK t' hR rfl (by simp) (fun i=>.inl (lg i)) (fun s v hs=>.inl hs)
  (fun id dQ hi=>.inl ⟨hi,(fun e=>by cases e),fun h=>absurd h (Nat.lt_irrefl _)⟩) (fun f k b hf hb=>.inl ⟨(fun e=>by cases e),fun h=>absurd h (Nat.lt_irrefl _)⟩) (fun k o' fS=>?_),hγ⟩
 simp only[List.getElem?_append]at fS;split at fS
 ·exact .inl ⟨fS,fun h=>absurd h (Nat.lt_irrefl _)⟩
 ·rename_i hk
  have:k=S.aF.length:=by
   rcases Nat.eq_zero_or_pos (k-S.aF.length) with h|h
   ·omega
   ·rw[List.getElem?_eq_none (by simp;omega)]at fS;cases fS
  subst this;simp at fS;subst fS;exact .inr ⟨by rw[hγ];exact dG _ _ _,by rw[hγ];exact(ho g' (dG _ _ _) pd).1,by rw[hγ];exact(ho g' (dG _ _ _) pd).2⟩
theorem MQ{ob:Obj}(hw:w'.heap=w.heap.push ob):w'.heap[w.heap.size]?=some ob:=by
 rw[hw];simp
theorem adw{o:Oper}{t:TypeId}{i:TypeInfo}{z:Value}{sh:Sh}{zero:List V}{C:bw}(ho:o.op=.alloc t)(hi:P.info? t=some i)(hz:i.zero=some z)(hc:tF z.cells.toList zero=true)
  (hR:R E g S a w) (hd:∀d,o.dst=some d→d<E.nt) (ah:VO.run C o.dst S (.tq sh zero)=some S'):cb P E o S S' a w:=by
 simp only[VO.run]at ah;split at ah
 ·rename_i cs hg
  cases ah;obtain⟨e1,e2⟩:=EB hg;obtain⟨hl,hx⟩:=Ce (X:=S.cx g w) hc;have hw:(w.alloc (.cells z.cells t)).heap=w.heap.push (.cells z.cells t (0,0)):=rfl;obtain⟨g',jj,hγ⟩:=hR.TJ (w':=w.alloc (.cells z.cells t)) (o:=.cells cs) hw rfl rfl rfl (fun g' hm le=>by
   refine⟨⟨hm,z.cells,t,MQ hw,by simp at hl;omega,fun j u y hu hy=>?_⟩,fun j n es y hu hy=>?_⟩
   ·obtain⟨u0,s,qz,pe⟩:=y3 hg _ u hu
    obtain⟨_,_,lJ⟩:=hx j u0 y qz (by simpa using hy)
    obtain⟨q1,q2,q3,_⟩:=Cq pe lJ;exact⟨q1,q2,q3.mono le (fun d=>.inr (q2 d))⟩
   ·rw[kZ (MQ hw)]at hy
    obtain⟨u0,s,qz,pe⟩:=y3 hg _ _ hu;obtain⟨_,_,lJ⟩:=hx j u0 y qz (by simpa using hy)
    obtain⟨_,_,_,_,q5⟩:=Cq pe lJ;obtain⟨rfl,hz⟩:=q5 n es rfl;exact Lf hz)
  refine cb.value (x:=.pointer (some ⟨w.heap.size,0,none⟩)) (w':=w.alloc (.cells z.cells t)) (g':=g') ?_ (jj.put hd ?_)
  ·simp[execOp,ho,Instr.alloc,zeroValue,typeInfo,hi,hz,newVar,newRow]
  ·rw[←hγ];exact .bG _ 0 (by simp[St.cx])
 ·cases ah
theorem adx{o:Oper}{t:TypeId}{C:bw}(ho:o.op=.makeMap t none)
  (hR:R E g S a w) (hd:∀d,o.dst=some d→d<E.nt) (ah:VO.run C o.dst S .tr=some S'):cb P E o S S' a w:=by
 simp only[VO.run]at ah;cases ah;have hw:(w.alloc (.map #[] 0)).heap=w.heap.push (.map #[] 0):=rfl;obtain⟨g',jj,hγ⟩:=hR.TJ (w':=w.alloc (.map #[] 0)) (o:=.map []) hw rfl rfl rfl (fun g' hm le=>⟨⟨hm,#[],0,MQ hw,rfl,fun j u y hu _=>by simp at hu⟩,trivial⟩)
 refine cb.value (x:=.map (some w.heap.size)) (w':=w.alloc (.map #[] 0)) (g':=g') ?_ (jj.put hd ?_)
 ·simp[execOp,ho,Instr.makeMap,newObj]
  rfl
 ·rw[←hγ];exact .map _ (by simp[St.cx])
structure we(P:Program)(t:TypeId)(ag:Bool)(ks:List Nat):Prop where
 ph:ph P 100 t=some ks
 agg:kI P t=some ag
 size:eO P t=some ks.length
theorem we.one{t:TypeId}{k:Nat}(h:we P t false [k]):(k=0∧∃q,P.underlying t=some (.int q))∨(k=1∧P.underlying t=some .bool)∨(k=2∧P.underlying t=some .string):=by
 have h1:=h.ph;have h2:=h.agg;rw[show(100:Nat)=99+1 from rfl,Go.Vm.ph]at h1;unfold kI at h2;split at h1
 ·rename_i q hu;cases hc:eO P t==some 1<;>simp[hc]at h1;exact .inl ⟨h1.symm,q,hu⟩
 ·rename_i hu;cases hc:eO P t==some 1<;>simp[hc]at h1;exact .inr (.inl ⟨h1.symm,hu⟩)
 ·rename_i hu;cases hc:eO P t==some 1<;>simp[hc]at h1;exact .inr (.inr ⟨h1.symm,hu⟩)
 ·rename_i fs hu;simp[hu]at h2
 ·rename_i n e hu;simp[hu]at h2
 ·cases h1
theorem TK{X:Cx}{k:Nat}{u v:V}{x y:Value}(hx:aZ X u x)(hy:aZ X v y)(h:kq k u v=some true):x=y:=by
 unfold kq at h;split at h
 ·rename_i q1 c q2 d
  cases hk:decide (q1=q2) with
  |false=>simp[hk]at h
  |true =>
   have:=of_decide_eq_true hk;subst this;simp at h;subst h;rw[hx.A7,hy.A7]
 ·rename_i c d
  simp at h;subst h;rw[hx.A8,hy.A8]
 ·simp at h
  subst h;obtain⟨p,rfl,e1⟩:=hx.zM;obtain⟨q,rfl,e2⟩:=hy.zM;have:p.data.toList=q.data.toList:=e1.trans e2.symm;obtain⟨⟨p⟩⟩:=p;obtain⟨⟨q⟩⟩:=q;simp at this;rw[this]
 ·cases h
theorem TL{X:Cx}:∀{ks:List Nat} {cs ds:List V} {xs ys:List Value},eu ks cs ds=some true→cs.length=ks.length→ds.length=ks.length→xs.length=ks.length→ys.length=ks.length →
  (∀(j:Nat) (v:V) (y:Value),cs[j]?=some v→xs[j]?=some y→aZ X v y)→(∀(j:Nat) (v:V) (y:Value),ds[j]?=some v→ys[j]?=some y→aZ X v y)→xs=ys
 |[],cs,ds,xs,ys,_,_,_,h1,h2,_,_=>by
  exact(List.length_eq_zero_iff.1 h1).trans (List.length_eq_zero_iff.1 h2).symm
 |k::ks,[],_,_,_,_,h,_,_,_,_,_=>by simp at h
 |k::ks,_::_,[],_,_,_,_,h,_,_,_,_=>by simp at h
 |k::ks,_::_,_::_,[],_,_,_,_,h,_,_,_=>by simp at h
 |k::ks,_::_,_::_,_::_,[],_,_,_,_,h,_,_=>by simp at h
 |k::ks,c::cs,d::ds,x::xs,y::ys,h,h1,h2,h3,h4,r1,r2=>by
  simp only[eu]at h;split at h
  ·rename_i p q hp hq
   simp only[Option.some.injEq,Bool.and_eq_true]at h;obtain⟨rfl,rfl⟩:=h;have e1:x=y:=TK (r1 0 c x rfl rfl) (r2 0 d y rfl rfl) hp;have e2:xs=ys:=TL hq (by simpa using h1) (by simpa using h2) (by simpa using h3) (by simpa using h4)
    (fun j v y a b=>r1 (j+1) v y (by simpa using a) (by simpa using b)) (fun j v y a b=>r2 (j+1) v y (by simpa using a) (by simpa using b))
   rw[e1,e2]
  ·cases h
theorem MR{t:TypeId}{ag:Bool}{ks:List Nat}(hk:we P t ag ks){X:Cx}{u v:V}{x y:Value}(hx:aZ X u x)(hy:aZ X v y){b:Bool}(h:V.mo ag ks u v=some b) :
  (Op.equal t x y).run P w=.ok b w∧(b=true→x=y):=by
 unfold V.mo at h;split at h
 ·split at h
  ·rename_i cs ds
   cases hl:(cs.length==ks.length&&ds.length==ks.length) with
   |false=>simp[hl]at h
   |true =>
    simp only[hl,cond_true]at h;simp only[Bool.and_eq_true,beq_iff_eq]at hl;obtain⟨xs,e1,l1,r1⟩:=pP hx;obtain⟨ys,e2,l2,r2⟩:=pP hy;obtain⟨u,v,q1,q2,q3⟩:=MO 100 t ks hk.ph w X 9900 cs ds xs ys 0 b ⟨l1,r1⟩ ⟨l2,r2⟩ (by simpa using h)
    rw[C8 hk.agg hk.size]at q1 q2;cases q1;cases q2;have ex:xs.extract 0 (0+ks.length)=xs:=by simp[←hl.1,l1]
    have ey:ys.extract 0 (0+ks.length)=ys:=by simp[←hl.2,l2]
    rw[ex,ey]at q3;rw[e1,e2];refine⟨q3,fun hb=>?_⟩;subst hb;congr 1;apply Array.ext';exact TL h hl.1 hl.2 (by simp;omega) (by simp;omega) (fun j v y a b=>r1 j v y a (by simpa using b)) (fun j v y a b=>r2 j v y a (by simpa using b))
  ·cases h
 ·split at h
  ·rename_i k
   refine⟨?_,fun hb=>?_⟩
   ·show(Op.equalIn (9999+1) t x y).run P w=_
    exact TG hk.one hx hy h
   ·subst hb;exact TK hx hy h
  ·cases h
theorem TM{X:Cx}{k:Nat}{u v:V}{x:Value}(hx:aZ X u x){b:Bool}(h:kq k u v=some b)(n:Nat):Instr.sameBits n x x=true:=by
 unfold kq at h;split at h
 ·rw[hx.A7];simp[Instr.sameBits]
 ·rw[hx.A8];simp[Instr.sameBits]
 ·obtain⟨p,rfl,_⟩:=hx.zM;simp only[Instr.sameBits];exact(Go.MapKept.bytes_beq p p).2 rfl
 ·cases h
theorem TN{X:Cx}(n:Nat):∀{ks:List Nat} {cs ds:List V} {xs:List Value} {b:Bool},eu ks cs ds=some b→xs.length=ks.length →
  (∀(j:Nat) (v:V) (y:Value),cs[j]?=some v→xs[j]?=some y→aZ X v y)→((xs.zip xs).all fun(x,y)=>Instr.sameBits n x y)=true
 |[],_,_,xs,_,_,h1,_=>by rw[List.length_eq_zero_iff.1 h1];rfl
 |k::ks,[],_,_,_,h,_,_=>by simp[eu]at h
 |k::ks,_::_,[],_,_,h,_,_=>by simp[eu]at h
 |k::ks,_::_,_::_,[],_,_,h,_=>by simp at h
 |k::ks,c::cs,d::ds,x::xs,b,h,h1,r=>by
  simp only[eu]at h;split at h
  ·rename_i p q hp hq
   simp only[List.zip_cons_cons,List.all_cons,Bool.and_eq_true];exact⟨TM (r 0 c x rfl rfl) hp n,TN n hq (by simpa using h1) (fun j v y a b=>r (j+1) v y (by simpa using a) (by simpa using b))⟩
  ·cases h
theorem afr{ag:Bool}{ks:List Nat}{X:Cx}{u:V}{x:Value}(hx:aZ X u x){b:Bool}(h:V.mo ag ks u u=some b):(Instr.keyThatStays x x).run P w=.ok x w:=by
 have hs:Instr.sameBits 10000 x x=true:=by
  unfold V.mo at h;split at h
  ·split at h
   ·rename_i ds
    cases hl:(ds.length==ks.length) with
    |false=>simp[hl]at h
    |true =>
     simp only[hl,Bool.and_self,cond_true]at h;simp only[beq_iff_eq]at hl;obtain⟨xs,rfl,l1,r1⟩:=pP hx;have:=TN 9999 (xs:=xs.toList) h (by simp;omega) (fun j v y a b=>r1 j v y a (by simpa using b))
     simp only[Instr.sameBits,beq_self_eq_true,Bool.true_and];exact this
   ·cases h
  ·split at h
   ·exact TM hx h _
   ·cases h
 simp[Instr.keyThatStays,hs]
def TO(P:Program)(em:Bool)(m:Nat)(t:TypeId)(ks:List Nat):Prop :=
 ∀(w:World) (X:Cx) (d:Nat) (cs:List V) (xs:Array Value) (o:Nat) (b:Bool),nZ X cs xs→eu ks (cs.drop o) (cs.drop o)=some b →
  ∃x,(part t xs o).run P w=.ok x w∧(Instr.checkKey em (m+d) t x).run P w=.ok () w
theorem TP{rec:TypeId→Option (List Nat)}{em:Bool}{m:Nat}(ih:∀t ks,rec t=some ks→TO P em m t ks)(w:World)(X:Cx)(d:Nat)(cs:List V)(xs:Array Value)
  (hx:nZ X cs xs):∀(fs:List Field) (off:Nat) (ks:List Nat) (b:Bool),A6 rec off fs=some ks→eu ks (cs.drop off) (cs.drop off)=some b →
  ((forIn fs PUnit.unit fun f _=>do
    if f.name≠ "_" then Instr.checkKey em (m+d) f.type (←part f.type xs f.offset)
    pure (ForInStep.yield PUnit.unit):Sem PUnit)).run P w=.ok PUnit.unit w
 |[],off,ks,b,h,he=>by simp
 |f::fs,off,ks,b,h,he=>by
  simp only[A6]at h;cases hc:((f.name != "_")&&f.offset==off) with
  |false=>simp[hc]at h
  |true =>
   simp only[hc,cond_true]at h;simp only[Bool.and_eq_true,bne_iff_ne,ne_eq,beq_iff_eq]at hc;split at h
   ·rename_i k1 h1
    split at h
    ·rename_i r h2
     simp only[Option.some.injEq]at h;subst h;obtain⟨b1,b2,e1,e2,rfl⟩:=Fj he;rw[List.drop_drop]at e2;obtain⟨x,p1,p2⟩:=ih f.type k1 h1 w X d cs xs off b1 hx e1;have tR:=TP ih w X d cs xs hx fs (off+k1.length) r b2 h2 e2;simp only[List.forIn_cons,Sem.run_bind,ne_eq,hc.1,not_false_eq_true,if_true,hc.2,p1,p2,Result.andThen_ok,Sem.run_pure];exact tR
    ·cases h
   ·cases h
theorem TQ(em:Bool):∀(m:Nat) (t:TypeId) (ks:List Nat),ph P m t=some ks→TO P em m t ks
 |0,t,ks,h=>by simp[ph]at h
 |m+1,t,ks,h=>by
  intro w X d cs xs o b hx he;have ih:=TQ em m;have one:∀k,ks=[k]→kI P t=some false→(∃td,P.underlying t=some td∧((∃q,td=.int q)∨td=.bool∨td=.string)) →
    ∃x,(part t xs o).run P w=.ok x w∧(Instr.checkKey em (m+1+d) t x).run P w=.ok () w:=by
   intro k hk ha ⟨td,hu,xB⟩;subst hk;cases ei:cs.drop o with
   |nil=>rw[ei]at he;simp[eu]at he
   |cons u us =>
    obtain⟨x,h1,h2⟩:=MN (w:=w) ha hx (o:=o) (v:=u) (by rw[ei];rfl)
    refine⟨x,h1,?_⟩;rw[show m+1+d=(m+d)+1 from by omega,Instr.checkKey]
    simp only[Sem.run_bind,run_underlying hu,Result.andThen_ok];rcases xB with⟨q,rfl⟩ | rfl|rfl<;>rfl
  have agg:∀n,kI P t=some true→eO P t=some n→n=ks.length→(∀xs,nZ X ((cs.drop o).take n) xs →
    eu ks ((cs.drop o).take n) ((cs.drop o).take n)=some b→(Instr.checkKey em (m+1+d) t (.agg xs)).run P w=.ok () w) →
    ∃x,(part t xs o).run P w=.ok x w∧(Instr.checkKey em (m+1+d) t x).run P w=.ok () w:=by
   intro n ha hs hn hk;obtain⟨l1,l2⟩:=MM he;simp only[List.length_drop]at l1 l2;refine⟨_,C8 ha hs,?_⟩;rcases Nat.eq_zero_or_pos n with h0|h0
   ·have e1:nZ X ((cs.drop o).take n) (xs.extract o (o+n)):=⟨by subst h0;simp;omega,by subst h0;simp⟩
    exact hk _ e1 (Fk (by omega) he)
   ·exact hk _ (hx.sub o n (by omega)) (Fk (by omega) he)
  simp only[ph]at h;split at h
  ·rename_i q hu
   cases hc:eO P t==some 1<;>simp[hc]at h;exact one 0 h.symm (by simp[kI,hu]) ⟨_,hu,.inl ⟨q,rfl⟩⟩
  ·rename_i hu
   cases hc:eO P t==some 1<;>simp[hc]at h;exact one 1 h.symm (by simp[kI,hu]) ⟨_,hu,.inr (.inl rfl)⟩
  ·rename_i hu
   cases hc:eO P t==some 1<;>simp[hc]at h;exact one 2 h.symm (by simp[kI,hu]) ⟨_,hu,.inr (.inr rfl)⟩
  ·rename_i fs hu
   cases gN:P.stoodInHeld t with
   |true=>simp[gN]at h
   |false =>
    simp only[gN,cond_false]at h;split at h
    ·rename_i k1 h1
     cases hc:eO P t==some k1.length with
     |false=>simp[hc]at h
     |true =>
      simp only[hc,cond_true,Option.some.injEq]at h;subst h;refine agg _ (by simp[kI,hu]) (by simpa using hc) rfl fun xs r1 he=>?_
      rw[show m+1+d=(m+d)+1 from by omega,Instr.checkKey]
      simp only[Sem.run_bind,run_underlying hu,Result.andThen_ok];rw[←Array.forIn_toList];have:=TP ih w X d _ xs r1 _ 0 k1 b h1 he;simp at this ⊢;rw[this];rfl
    ·cases h
  ·rename_i n e hu
   split at h
   ·rename_i k1 h1
    cases hc:((eO P e==some k1.length)&&(eO P t==some (n*k1.length))) with
    |false=>simp[hc]at h
    |true =>
     simp only[hc,cond_true,Option.some.injEq]at h;simp only[Bool.and_eq_true,beq_iff_eq]at hc;subst h;refine agg _ (by simp[kI,hu]) hc.2 (TE _ _).symm fun xs r1 he=>?_
     have eb:=hc.1;have MS:=eb;simp only[eO,Option.map_eq_some_iff]at MS;obtain⟨i,hi,MS⟩:=MS;rw[show m+1+d=(m+d)+1 from by omega,Instr.checkKey]
     simp only[Sem.run_bind,run_underlying hu,Result.andThen_ok];simp only[Std.Legacy.Range.forIn_eq_forIn_range',Std.Legacy.Range.size,Nat.sub_zero,Nat.add_one_sub_one,Nat.div_one]
     suffices Fm:∀(n i:Nat) (b:Bool),eu (tZ n k1) (((cs.drop o).take (tZ n k1).length).drop 0) []=none∨True→True by
      have afs:∀(n i:Nat) (b:Bool) (c:List V),nZ X c xs→eu (tZ n k1) (c.drop (i*k1.length)) (c.drop (i*k1.length))=some b →
        ((forIn (List.range' i n) PUnit.unit fun j _=>do
          let z ← sizeOf e
          Instr.checkKey em (m+d) e (←part e xs (j*z))
          pure (ForInStep.yield PUnit.unit):Sem PUnit)).run P w=.ok PUnit.unit w:=by
       intro n;induction n with
       |zero=>intro i b c _ _;simp
       |succ n ihn =>
        intro i b c hc he;simp only[tZ]at he;obtain⟨b1,b2,e1,e2,rfl⟩:=Fj he;rw[List.drop_drop,show i*k1.length+k1.length=(i+1)*k1.length from by rw[Nat.succ_mul]]at e2
        obtain⟨x,p1,p2⟩:=ih e k1 h1 w X d c xs _ b1 hc e1;rw[List.range'_succ];simp only[List.forIn_cons,Sem.run_bind,nH eb,Result.andThen_ok,p1,p2,Sem.run_pure];have:=ihn (i+1) b2 c hc e2;simpa using this
      have:=afs n 0 b _ r1 (by simpa using he)
      simp at this ⊢;rw[this];rfl
     intros;trivial
   ·cases h
  ·cases h
theorem TR{t:TypeId}{ag:Bool}{ks:List Nat}(hk:we P t ag ks){X:Cx}{u:V}{x:Value}(hx:aZ X u x){b:Bool}(h:V.mo ag ks u u=some b)(em:Bool) :
  (Instr.checkKey em 10000 t x).run P w=.ok () w:=by
 unfold V.mo at h;split at h
 ·split at h
  ·rename_i ds
   cases hl:(ds.length==ks.length) with
   |false=>simp[hl]at h
   |true =>
    simp only[hl,Bool.and_self,cond_true]at h;simp only[beq_iff_eq]at hl;obtain⟨xs,e1,l1,r1⟩:=pP hx;obtain⟨u,q1,q3⟩:=TQ em 100 t ks hk.ph w X 9900 ds xs 0 b ⟨l1,r1⟩ (by simpa using h)
    rw[C8 hk.agg hk.size]at q1;cases q1;have ex:xs.extract 0 (0+ks.length)=xs:=by simp[←hl,l1]
    rw[ex]at q3;rw[e1];exact q3
  ·cases h
 ·split at h
  ·show(Instr.checkKey em (9999+1) t x).run P w=_
   rw[Instr.checkKey];rcases hk.one with⟨_,q,hu⟩ | ⟨_,hu⟩ | ⟨_,hu⟩<;>simp only[Sem.run_bind,run_underlying hu,Result.andThen_ok]<;>rfl
  ·cases h
def vm(X:Cx)(es:List (V×V))(l:List MapEntry):Prop :=
 es.length=l.length∧∀(j:Nat) (p:V×V) (y:MapEntry),es[j]?=some p→l[j]?=some y→aZ X p.1 y.key
theorem vm.tail{X:Cx}{p:V×V}{es:List (V×V)}{y:MapEntry}{l:List MapEntry}(h:vm X (p::es) (y::l)):vm X es l :=
 ⟨by simpa using h.1,fun j p y a b=>h.2 (j+1) p y (by simpa using a) (by simpa using b)⟩
def Found(k:V)(kx:Value)(es:List (V×V))(l:List MapEntry)(i:Nat):Option (Nat×V)→Option (Nat×Value)→Prop
 |none,r=>r=none
 |some (j,v),r=>i≤j∧∃q e,es[j-i]?=some (q,v)∧l[j-i]?=some e∧e.key=kx∧r=some (j,e.val)
theorem Found.up{k:V}{kx:Value}{p:V×V}{es:List (V×V)}{y:MapEntry}{l:List MapEntry}{i:Nat}{r:Option (Nat×V)}{z:Option (Nat×Value)}(h:Found k kx es l (i+1) r z) :
  Found k kx (p::es) (y::l) i r z:=by
 cases r with
 |none=>exact h
 |some jv =>
  obtain⟨j,v⟩:=jv;obtain⟨h1,q,e,h2,h3,h4,h5⟩:=h;refine⟨by omega,q,e,?_,?_,h4,h5⟩
  ·rw[show j-i=(j-(i+1))+1 from by omega];simpa using h2
  ·rw[show j-i=(j-(i+1))+1 from by omega];simpa using h3
theorem TS{t:TypeId}{ag:Bool}{ks:List Nat}(hk:we P t ag ks){X:Cx}{k:V}{kx:Value}(hx:aZ X k kx):∀(es:List (V×V)) (l:List MapEntry) (i:Nat) (r:Option (Nat×V)),vm X es l →
  mq ag ks k es i=some r→∃z,(Instr.findAsking t kx l i).run P w=.ok z w∧Found k kx es l i r z
 |[],[],i,r,_,h=>by simp[mq]at h;subst h;exact⟨none,by simp[Instr.findAsking],rfl⟩
 |[],_::_,_,_,hr,_=>by simp[vm]at hr
 |_::_,[],_,_,hr,_=>by simp[vm]at hr
 |(q,v)::es,y::l,i,r,hr,h=>by
  simp only[mq]at h;have h0:=hr.2 0 (q,v) y rfl rfl;split at h
  ·rename_i hq
   cases h;obtain⟨q1,q2⟩:=MR (w:=w) hk hx h0 hq;exact⟨some (i,y.val),by simp[Instr.findAsking,q1],Nat.le_refl _,q,y,by simp,by simp,(q2 rfl).symm,rfl⟩
  ·rename_i hq
   obtain⟨q1,_⟩:=MR (w:=w) hk hx h0 hq;obtain⟨z,h1,h2⟩:=TS hk hx es l (i+1) r hr.tail h;exact⟨z,by simp[Instr.findAsking,q1,h1],h2.up⟩
  ·cases h
theorem TT{t:TypeId}{k0:Nat}{td:TypeDesc}(hk:we P t false [k0])(xB:P.underlying t=some td){X:Cx}{k:V}{kx:Value}(hx:aZ X k kx):∀(es:List (V×V)) (l:List MapEntry) (i:Nat) (r:Option (Nat×V)),vm X es l →
  mq false [k0] k es i=some r→∃z,Instr.findNow td kx l i=some z∧Found k kx es l i r z
 |[],[],i,r,_,h=>by simp[mq]at h;subst h;exact⟨none,by simp[Instr.findNow],rfl⟩
 |[],_::_,_,_,hr,_=>by simp[vm]at hr
 |_::_,[],_,_,hr,_=>by simp[vm]at hr
 |(q,v)::es,y::l,i,r,hr,h=>by
  simp only[mq]at h;have h0:=hr.2 0 (q,v) y rfl rfl;have TU:∀b,V.mo false [k0] k q=some b→Instr.sameNow td kx y.key=some b∧(b=true→kx=y.key):=fun b hb=>by
   refine⟨?_,(MR (w:=default) hk hx h0 hb).2⟩;simp only[V.mo]at hb;unfold kq at hb;split at hb
   ·rename_i q1 c q2 d
    rcases hk.one with⟨_,q',hu⟩ | ⟨h',_⟩ | ⟨h',_⟩<;>first|omega|skip
    rw[xB]at hu;cases hu;cases oY:decide (q1=q2) with
    |false=>simp[oY]at hb
    |true =>
     have:=of_decide_eq_true oY;subst this;simp at hb;rw[hx.A7,aZ.A7 h0];simp[Instr.sameNow,hb]
   ·rcases hk.one with⟨h',_⟩ | ⟨_,hu⟩ | ⟨h',_⟩<;>first|omega|skip
    rw[xB]at hu;cases hu;rw[hx.A8,aZ.A8 h0];simpa [Instr.sameNow] using hb
   ·rcases hk.one with⟨h',_⟩ | ⟨h',_⟩ | ⟨_,hu⟩<;>first|omega|skip
    rw[xB]at hu;cases hu;obtain⟨c,rfl,rfl⟩:=hx.zM;obtain⟨d,hd,eX⟩:=aZ.zM h0;subst eX;rw[hd];simp only[Instr.sameNow,Option.some.injEq];rw[beq_toListBytes,TF];simpa using hb
   ·cases hb
  split at h
  ·rename_i hq
   cases h;obtain⟨q1,q2⟩:=TU _ hq;exact⟨some (i,y.val),by simp[Instr.findNow,q1],Nat.le_refl _,q,y,by simp,by simp,(q2 rfl).symm,rfl⟩
  ·rename_i hq
   obtain⟨q1,_⟩:=TU _ hq;obtain⟨z,h1,h2⟩:=TT hk xB hx es l (i+1) r hr.tail h;exact⟨z,by simp[Instr.findNow,q1,h1],h2.up⟩
  ·cases h
theorem IB{t:TypeId}{ag:Bool}{ks:List Nat}(hk:we P t ag ks){X:Cx}{k:V}{kx:Value}(hx:aZ X k kx){b:Bool}(oY:V.mo ag ks k k=some b){es:List (V×V)}{l:List MapEntry}{r:Option (Nat×V)}(hr:vm X es l)
  (h:mq ag ks k es 0=some r):∃z,(Instr.findKey t kx l).run P w=.ok z w∧Found k kx es l 0 r z:=by
 cases ag with
 |true =>
  have ha:=hk.agg;unfold kI at ha;rw[run_findKey_eq w (by split at ha<;>simp_all) kx l]
  exact TS hk hx es l 0 r hr h
 |false =>
  have:∃k0,ks=[k0]:=by
   simp only[V.mo]at oY;split at oY
   ·exact⟨_,rfl⟩
   ·cases oY
  obtain⟨k0,rfl⟩:=this;have:∃td,P.underlying t=some td:=by
   rcases hk.one with⟨_,q,hu⟩ | ⟨_,hu⟩ | ⟨_,hu⟩<;>exact⟨_,hu⟩
  obtain⟨td,xB⟩:=this;obtain⟨z,h1,h2⟩:=TT hk xB hx es l 0 r hr h;exact⟨z,by simp[Instr.findKey,run_underlying xB,h1],h2⟩
theorem TV{X:Cx}{i:Nat}{x:Value}(h:aZ X (.map i) x):x=.map (some (X.g.γ i))∧i<X.N:=by
 cases h with
 |plain h _=>cases h
 |map _ h=>exact⟨rfl,h⟩
theorem aZ.down{h:Array Obj}{g:Gh}{N:Nat}{T:List (Nat×Nat)}{v:V}{x:Value}(hx:aZ ⟨h,g,N,[]⟩ v x)(hm:∀d,v.cj d=false):aZ ⟨h,g,N,T⟩ v x :=
 aZ.mono (X:=⟨h,g,N,[]⟩) (X':=⟨h,g,N,T⟩) ⟨Nat.le_refl _,fun _ _ _ _ h=>h,fun _ _=>Nat.le_refl _,Nat.le_refl _,fun _ _=>rfl⟩ hx fun d=>.inr (hm d)
theorem afv{ag:Bool}{ks:List Nat}{u:V}{b:Bool}(h:V.mo ag ks u u=some b)(d:Nat):u.cj d=false:=by
 have cell:∀{k:Nat} {u v:V} {b:Bool},kq k u v=some b→u.cD d=false∧u.cj d=false:=fun {k u v b} h=>by
  unfold kq at h;split at h<;>first|exact⟨rfl,rfl⟩ | cases h
 unfold V.mo at h;split at h
 ·split at h
  ·rename_i ds
   cases hl:(ds.length==ks.length) with
   |false=>simp[hl]at h
   |true =>
    simp only[hl,Bool.and_self,cond_true]at h;simp only[beq_iff_eq]at hl;simp only[V.cj,V.dz,List.any_eq_false];intro v hv;obtain⟨j,hj⟩:=List.mem_iff_getElem?.1 hv;have go:∀(ks:List Nat) (cs:List V) (b:Bool) (j:Nat),cs.length=ks.length→eu ks cs cs=some b→cs[j]?=some v→v.cD d=false:=by
     intro ks;induction ks with
     |nil=>intro cs b j h1 _ h3;rw[List.length_eq_zero_iff.1 h1]at h3;simp at h3
     |cons k ks ih =>
      intro cs b j h1 h2 h3;cases cs with
      |nil=>simp at h1
      |cons c cs =>
       simp only[eu]at h2;split at h2
       ·rename_i p q hp hq
        cases j with
        |zero=>simp at h3;subst h3;exact(cell hp).1
        |succ j=>exact ih cs q j (by simpa using h1) hq (by simpa using h3)
       ·cases h2
    simp[go ks ds b j hl h hj]
  ·cases h
 ·split at h
  ·exact(cell h).2
  ·cases h
theorem HO(hR:R E g S a w){i:Nat}{es:List (V×V)}(h:S.aF[i]?=some (.map es)):g.ow (g.γ i)=.aF i∧g.m (g.γ i)=0∧∃c k,w.heap[g.γ i]?=some (.map c k)∧es.length=c.size ∧
  vm (S.cx g w) es c.toList∧∀(j:Nat) (p:V×V) (y:MapEntry),es[j]?=some p→c[j]?=some y→(∀d,p.1.cj d=false)∧(∀d,p.2.dz d=false)∧aZ ⟨w.heap,g,S.aF.length,[]⟩ p.1 y.key∧aZ ⟨w.heap,g,S.aF.length,[]⟩ p.2 y.val:=by
 obtain⟨cA,hm,c,k,hh,hl,hj⟩:=(hR.aF.obj i _ h).resolve_left (fun e=>by cases e)
 refine⟨cA,hm,c,k,hh,hl,⟨by simpa using hl,fun j p y a b=>?_⟩,hj⟩
 obtain⟨q1,_,q3,_⟩:=hj j p y a (by simpa using b)
 exact q3.down q1
def LA(P:Program)(t:TypeId)(zero:V):Bool :=
 match (P.info? t).bind (·.zero) with
 |some z=>Hq z zero
 |none=>false
theorem ady{o:Oper}{t kt et:TypeId}{ag ok:Bool}{ks:List Nat}{zero:V}{p q:Operand}{x k:bq}{C:bw}(ho:o.op=.lookup t p q ok)(ht:P.underlying t=some (.map kt et))(hk:we P kt ag ks)(hz:LA P et zero=true)
  (hp:bO p x=true) (hq:bO q k=true) (hR:R E g S a w) (hd:∀d,o.dst=some d→d<E.nt) (ah:VO.run C o.dst S (.uD ag ks zero ok x k)=some S'):cb P E o S S' a w:=by
 simp only[VO.run]at ah;split at ah
 ·rename_i i kv hx qx
  split at ah
  ·rename_i es b lL hb
   obtain⟨ex,hi⟩:=TV (cQ hR hp hx);have xC:=cQ hR hq qx;obtain⟨cA,hm,c,ck,hh,hl,Fo,hj⟩:=HO hR lL;have Fp:=TR (w:=w) hk xC hb c.isEmpty;have pf:=MapKept.run_getObj_map (P:=P) hh;have Fq:(getObj ((S.cx g w).g.γ i)).run P w=.ok (.map c ck) w:=pf;split at ah
   ·rename_i j v hf
    cases ah;obtain⟨z,xD,_,q,e,MT,MU,TW,rfl⟩:=IB (w:=w) hk xC hb Fo hf;have TX:=hj j (q,v) e (by simpa using MT) (by simpa using MU)
    have hv:aZ (S.cx g w) v e.val:=TX.2.2.2.down fun d=>uO (TX.2.1 d);refine cb.put hR hd (x:=if ok then .tuple #[e.val,.bool true] else e.val) ?_ ?_
    ·simp only[execOp,ho,ex]
     simp[Instr.lookup,iV ht,Fq,Fp,xD]
    ·cases ok
     ·exact hv
     ·refine .tuple _ _ (by simp) fun m u y hu hy=>?_
      match m with
      |0=>simp at hu hy;subst hu;subst hy;exact hv
      |1=>simp at hu hy;subst hu;subst hy;exact aZ.bool _
      |m+2=>simp at hu
   ·rename_i hf
    cases ah;obtain⟨z,xD,rfl⟩:=IB (w:=w) hk xC hb Fo hf;unfold LA at hz;split at hz
    ·rename_i zv MV
     cases nN:P.info? et with
     |none=>simp[nN]at MV
     |some inf =>
      simp only[nN,Option.bind_some]at MV;have hv:aZ (S.cx g w) zero zv:=Q0 hz;refine cb.put hR hd (x:=if ok then .tuple #[zv,.bool false] else zv) ?_ ?_
      ·simp only[execOp,ho,ex]
       simp[Instr.lookup,iV ht,Fq,Fp,xD,zeroValue,typeInfo,nN,MV]
      ·cases ok
       ·exact hv
       ·refine .tuple _ _ (by simp) fun m u y hu hy=>?_
        match m with
        |0=>simp at hu hy;subst hu;subst hy;exact hv
        |1=>simp at hu hy;subst hu;subst hy;exact aZ.bool _
        |m+2=>simp at hu
    ·cases hz
   ·cases ah
  ·cases ah
 ·cases ah
theorem afw{b:Nat}{o':Obj}(hm:g.m b=0)(xe:E.w0.heap.size≤b∨∃i,i<E.N0∧E.g0.ow b=.aF i)(Ez:∀p q,g.ow b≠.cell p q)(hR:R E g S a w) :
  Touch E g S w g S.bg S.aF.length { w with heap:=w.heap.setIfInBounds b o' } b none none where
 os:=rfl
 tape:=rfl
 output:=rfl
 size:=by simp
 heap:=fun i hi _=>by simp[Ne.symm hi]
 m:=fun _ _=>rfl
 ow:=fun _ _=>rfl
 κ:=fun _ _=>rfl
 cp:=fun _ _=>rfl
 τ:=fun _ _=>rfl
 T:=fun _ _=>rfl
 γ:=fun _ _=>rfl
 eN:=Nat.le_refl _
 γnew:=fun i a b=>absurd a (by omega)
 fresh:=xe.imp (fun z=>z) .inl
 ib:=fun p q _ e=>absurd e (Ez p q)
 lv:=fun i e=>hR.Cd e (Nat.le_refl _)
 jK:=fun o y ho _=>absurd ho (by omega)
 oV:=fun _=>Nat.le_refl _
theorem R.TY(hR:R E g S a w){i:Nat}{es oB:List (V×V)}(lL:S.aF[i]?=some (.map es)){c':Array MapEntry}{xE:Nat}(hl:oB.length=c'.size)
  (hj:∀(j:Nat) (p:V×V) (y:MapEntry),oB[j]?=some p→c'[j]?=some y→(∀d,p.1.cj d=false)∧(∀d,p.2.dz d=false)∧aZ ⟨w.heap,g,S.aF.length,[]⟩ p.1 y.key∧aZ ⟨w.heap,g,S.aF.length,[]⟩ p.2 y.val) :
  R E g { S with aF:=S.aF.set i (.map oB) } a { w with heap:=w.heap.setIfInBounds (g.γ i) (.map c' xE) }:=by
 obtain⟨cA,hm,c,ck,hh,_,_,_⟩:=HO hR lL;have hi:=eK lL;have xe:=hR.HE cA;have hb:g.γ i<w.heap.size:=by
  rcases Nat.lt_or_ge (g.γ i) w.heap.size with h|h
  ·exact h
  ·simp[Array.getElem?_eq_none h]at hh
 have lK:({ w with heap:=w.heap.setIfInBounds (g.γ i) (.map c' xE) }:World).heap[g.γ i]?=some (.map c' xE):=by simp[hb]
 have tt:=afw (S:=S) (w:=w) (o':=.map c' xE) hm xe (fun _ _ e=>by rw[cA]at e;cases e) hR
 have hk:∀k,iU (S.cx g w) ⟨w.heap.setIfInBounds (g.γ i) (.map c' xE),g,S.aF.length,S.bg⟩ k:=fun k=>tt.keeps hR (fun e=>by cases e) (fun e=>by cases e) (fun _ e=>by rw[cA]at e;cases e)
 have pd:Le ⟨w.heap,g,S.aF.length,[]⟩ ⟨w.heap.setIfInBounds (g.γ i) (.map c' xE),g,S.aF.length,[]⟩:=⟨tt.le.size,tt.le.cells,tt.le.m,tt.le.eN,tt.le.γ⟩;refine R.nK tt hR rfl (by simp) (fun i=>.inl (hk i)) (fun s v hs=>.inl hs) (fun id dQ hi=>.inl ⟨hi,(fun e=>by cases e),fun _ e=>by rw[cA]at e;cases e⟩)
  (fun f k b hf hb=>.inl ⟨(fun e=>by cases e),fun _ e=>by rw[cA]at e;cases e⟩) (fun k o fS=>?_)
 simp only[List.getElem?_set]at fS;split at fS
 ·rename_i kK
  subst kK
  first|(rw[if_pos hi]at fS;cases fS)|cases fS
  refine .inr ⟨cA,⟨hm,c',xE,lK,hl,fun j p y hp hy=>?_⟩,trivial⟩;obtain⟨q1,q2,q3,q4⟩:=hj j p y hp hy;exact⟨q1,q2,q3.mono pd fun d=>.inr (q1 d),q4.mono pd fun d=>.inr (uO (q2 d))⟩
 ·rename_i kK
  exact .inl ⟨fS,fun _=>⟨fun e=>(by rw[cA]at e;cases e;exact kK rfl),fun _ e=>(by rw[cA]at e;cases e)⟩⟩
theorem afx{X:Cx}{sh:Sh}{v u:V}{y:Value}(h:yN sh v=some u)(hr:aZ X v y)(d:Nat):u.dz d=false:=by
 unfold yN at h;split at h
 ·split at h
  ·rename_i cs us hg
   cases h;obtain⟨xs,e,hl,hx⟩:=pP hr;obtain⟨l1,l2⟩:=La hg;simp only[V.dz,List.any_eq_false];intro u hu;obtain⟨j,hj⟩:=List.mem_iff_getElem?.1 hu;obtain⟨v0,s,TZ,pe⟩:=Lc hg j u hj;have bA:=eK TZ;obtain⟨q1,q2,_,_⟩:=Cp pe (hx j v0 xs[j] TZ (by simp[hl]at bA;simp[bA]))
   have:=q2 d;cases u<;>simp_all[V.cj,V.dz,V.cD,V.cI]
  ·cases h
 ·split at h
  ·obtain⟨q1,q2,_,_⟩:=Cp h hr
   have:=q2 d;cases u<;>simp_all[V.cj,V.cI]
  ·cases h
theorem adz{o:Oper}{t kt et:TypeId}{ag:Bool}{ks:List Nat}{sh:Sh}{p q r:Operand}{x k y:bq}{C:bw}(ho:o.op=.mapUpdate t p q r)(uV:o.dst=none)(ht:P.underlying t=some (.map kt et))(hk:we P kt ag ks)
  (hp:bO p x=true) (hq:bO q k=true) (hr:bO r y=true) (hR:R E g S a w) (ah:VO.run C o.dst S (.tu ag ks sh x k y)=some S'):cb P E o S S' a w:=by
 simp only[VO.run]at ah;split at ah
 ·rename_i i kv v hx qx hy
  split at ah
  ·rename_i es b u lL hb hu
   obtain⟨ex,hi⟩:=TV (cQ hR hp hx);have xC:=cQ hR hq qx;have T3:=cQ hR hr hy;have T4:=RE hu T3;have T5:=afx hu T3;have MW:=afv hb;have ID:aZ ⟨w.heap,g,S.aF.length,[]⟩ kv (a.eval q):=aZ.mono (X:=S.cx g w) (X':=⟨w.heap,g,S.aF.length,[]⟩) ⟨Nat.le_refl _,fun _ _ _ _ h=>h,fun _ _=>Nat.le_refl _,Nat.le_refl _,fun _ _=>rfl⟩ xC fun d=>.inr (MW d);obtain⟨cA,hm,c,ck,hh,hl,Fo,hj⟩:=HO hR lL;have Fp:=TR (w:=w) hk xC hb false;have pf:=MapKept.run_getObj_map (P:=P) hh;have Fq:(getObj ((S.cx g w).g.γ i)).run P w=.ok (.map c ck) w:=pf;split at ah
   ·rename_i j v hf
    cases ah;obtain⟨z,xD,_,q0,e,MT,MU,TW,rfl⟩:=IB (w:=w) hk xC hb Fo hf;have afy:=afr (P:=P) (w:=w) xC hb
    let c':=c.modify j fun e=>{ e with key:=a.eval q,val:=a.eval r }
    have jj:=hR.TY (c':=c') (xE:=ck) (oB:=es.set j (kv,u)) lL (by simp[c',hl]) (fun n p y hn hy=>by
     simp only[List.getElem?_set]at hn;split at hn
     ·rename_i C9
      subst C9;split at hn
      ·cases hn
       have pQ:j<c.size:=by omega
       simp only[c',Array.getElem?_modify,if_true]at hy;simp[pQ]at hy;subst hy;exact⟨MW,T5,ID,T4⟩
      ·cases hn
     ·rename_i C9
      simp only[c',Array.getElem?_modify]at hy;rw[if_neg C9]at hy;exact hj n p y hn hy)
    refine cb.skip (g':=g) ?_ uV jj;have wh:=MapKept.run_setObj_map (P:=P) (.map c' ck) hh;have MX:(setObj ((S.cx g w).g.γ i) (.map c' ck)).run P w=.ok () { w with heap:=w.heap.setIfInBounds (g.γ i) (.map c' ck) }:=wh;have he:((c[j]?).map (·.key)).getD (a.eval q)=a.eval q:=by
     have:c[j]?=some e:=by simpa using MU
     rw[this];exact TW
    simp only[execOp,ho,ex];simp[Instr.mapUpdate,iV ht,Fq,Fp,xD,he,afy,c',MX]
   ·rename_i hf
    cases ah;obtain⟨z,xD,rfl⟩:=IB (w:=w) hk xC hb Fo hf
    let c':=c.push { key:=a.eval q,val:=a.eval r,born:=ck }
    have jj:=hR.TY (c':=c') (xE:=ck+1) (oB:=es++[(kv,u)]) lL (by simp[c',hl]) (fun n p y hn hy=>by
     simp only[c',Array.getElem?_push]at hy;by_cases xm:n=c.size
     ·rw[if_pos xm]at hy
      rw[List.getElem?_append_right (by omega),xm,hl]at hn
      simp at hn;cases hy;subst hn;exact⟨MW,T5,ID,T4⟩
     ·rw[if_neg xm]at hy
      have bA:=(Array.getElem?_eq_some_iff.1 hy).1;rw[List.getElem?_append_left (by omega)]at hn
      exact hj n p y hn hy)
    refine cb.skip (g':=g) ?_ uV jj;have wh:=MapKept.run_setObj_map (P:=P) (.map c' (ck+1)) hh;have MX:(setObj ((S.cx g w).g.γ i) (.map c' (ck+1))).run P w=.ok () { w with heap:=w.heap.setIfInBounds (g.γ i) (.map c' (ck+1)) }:=wh;simp only[execOp,ho,ex];simp[Instr.mapUpdate,iV ht,Fq,Fp,xD,c',MX]
   ·cases ah
  ·cases ah
 ·cases ah
end
end Go.Vm

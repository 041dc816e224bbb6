/- The value machine: blocks that calls share, and maps. -/
import Derived.MapKept
import Derived.WideKeyRuns
import Derived.Test.YtmppfkgfnnebeaaGreatDoorVm9
import Derived.Test.YtmppfkgfnnebeaaGreatDoorVmP
namespace Go.Vm
set_option linter.all false
section
variable {P:Program} {E:Entry} {g g':Gh} {S S':St} {a:Act} {w w':World}
theorem R.Yy(hR:R E g S a w){ob:Obj}(hw:w'.heap=w.heap.push ob)(h1:w'.os=w.os)(h2:w'.tape=w.tape)(h3:w'.output=w.output){o:aS}
  (ho:∀g':Gh,g'.m w.heap.size=0→Le ⟨w.heap,g,S.aA.length,[]⟩ ⟨w'.heap,g',S.aA.length+1,[]⟩→Hd w'.heap g' (S.aA.length+1) w.heap.size o∧CD w'.heap g' w.heap.size o) :
  ∃g',R E g' { S with aA:=S.aA++[o] } a w'∧g'.γ S.aA.length=w.heap.size:=by
 let g':Gh:={ g with m:=c6 g.m w.heap.size 0,γ:=c6 g.γ S.aA.length w.heap.size,ow:=c6 g.ow w.heap.size (.aA S.aA.length) }
 have t':Touch E g S w g' S.bj (S.aA.length+1) w' w.heap.size none none:=Hj hR hw h1 h2 h3 (fun b hb=>fY _ _ hb) (fun b hb=>fY _ _ hb)
  (fun i _=>rfl) (fun i _=>rfl) (fun i _=>rfl) (fun i _=>rfl) (fun i hi=>fY _ _ (by omega)) (by omega) (fun i h1 h2=>by
   have:i=S.aA.length:=by omega
   subst this;show _≤c6 g.γ _ _ _;rw[dL];exact hR.same.size) (fun i e=>by
   have e:c6 g.ow w.heap.size (.aA S.aA.length) w.heap.size=.aA i:=e;rw[dL]at e;cases e;exact⟨dL _ _ _,G4 _⟩)
 have lP:∀i,jg (S.cx g w) ⟨w'.heap,g',S.aA.length+1,S.bj⟩ i:=fun i=>t'.keeps hR (fun e=>by cases e) (fun e=>by cases e) (fun h=>absurd h (gU _))
 have nM:Le ⟨w.heap,g,S.aA.length,[]⟩ ⟨w'.heap,g',S.aA.length+1,[]⟩:=⟨t'.le.size,t'.le.cells,t'.le.m,t'.le.eK,t'.le.γ⟩;have hγ:g'.γ S.aA.length=w.heap.size:=dL _ _ _;refine⟨g',R.oA t' hR rfl (by simp) (fun i=>.inl (lP i)) (fun s v hs=>.inl hs)
  (fun id dS hi=>.inl ⟨hi,(fun e=>by cases e),fun h=>absurd h (gU _)⟩) (fun f k b hf hb=>.inl ⟨(fun e=>by cases e),fun h=>absurd h (gU _)⟩) (fun k o' fx=>?_),hγ⟩
 simp only[oQ]at fx;split at fx
 ·exact .inl ⟨fx,fun h=>absurd h (gU _)⟩
 ·rename_i hk
  have:k=S.aA.length:=by
   rcases mq (k-S.aA.length) with h|h
   ·omega
   ·rw[jT (by simp;omega)]at fx;cases fx
  subst this;simp at fx;subst fx;exact .inr ⟨by rw[hγ];exact dL _ _ _,by rw[hγ];exact(ho g' (dL _ _ _) nM).1,by rw[hγ];exact(ho g' (dL _ _ _) nM).2⟩
theorem QO{ob:Obj}(hw:w'.heap=w.heap.push ob):w'.heap[w.heap.size]?=some ob:=by
 rw[hw];simp
theorem aiX{o:Oper}{t:TypeId}{i:TypeInfo}{z:Value}{sh:Sh}{zero:List V}{C:bD}(ho:o.op=.alloc t)(hi:P.info? t=some i)(hz:i.zero=some z)(hc:vq z.cells.toList zero=true)
  (hR:R E g S a w) (hd:∀d,o.dst=some d→d<E.nt) (hrun:VO.run C o.dst S (.u9 sh zero)=some S'):ch P E o S S' a w:=by
 simp only[VO.run]at hrun;split at hrun
 ·rename_i cs hg
  cases hrun;obtain⟨e1,e2⟩:=HB hg;obtain⟨hl,hx⟩:=Es (X:=S.cx g w) hc;have hw:(w.alloc (.cells z.cells t)).heap=w.heap.push (.cells z.cells t (0,0)):=rfl;obtain⟨g',jG,hγ⟩:=hR.Yy (w':=w.alloc (.cells z.cells t)) (o:=.cells cs) hw rfl rfl rfl (fun g' hm le=>by
   refine⟨⟨hm,z.cells,t,QO hw,by simp at hl;omega,fun j u y hu hy=>?_⟩,fun j n es y hu hy=>?_⟩
   ·obtain⟨u0,s,sD,qt⟩:=Bo hg _ u hu
    obtain⟨_,_,mr⟩:=hx j u0 y sD (by simpa using hy)
    obtain⟨q1,q2,q3,_⟩:=EE qt mr;exact⟨q1,q2,q3.mono le (fun d=>.inr (q2 d))⟩
   ·rw[kR (QO hw)]at hy
    obtain⟨u0,s,sD,qt⟩:=Bo hg _ _ hu;obtain⟨_,_,mr⟩:=hx j u0 y sD (by simpa using hy)
    obtain⟨_,_,_,_,q5⟩:=EE qt mr;obtain⟨rfl,hz⟩:=q5 n es rfl;exact O7 hz)
  refine ch.value (x:=.pointer (some ⟨w.heap.size,0,none⟩)) (w':=w.alloc (.cells z.cells t)) (g':=g') ?_ (jG.put hd ?_)
  ·simp[execOp,ho,Instr.alloc,zeroValue,typeInfo,hi,hz,newVar,newRow]
  ·rw[←hγ];exact .bm _ 0 (by simp[St.cx])
 ·cases hrun
theorem aiY{o:Oper}{t:TypeId}{C:bD}(ho:o.op=.makeMap t none)
  (hR:R E g S a w) (hd:∀d,o.dst=some d→d<E.nt) (hrun:VO.run C o.dst S .vb=some S'):ch P E o S S' a w:=by
 simp only[VO.run]at hrun;cases hrun;have hw:(w.alloc (.map #[] 0)).heap=w.heap.push (.map #[] 0):=rfl;obtain⟨g',jG,hγ⟩:=hR.Yy (w':=w.alloc (.map #[] 0)) (o:=.map []) hw rfl rfl rfl (fun g' hm le=>⟨⟨hm,#[],0,QO hw,rfl,fun j u y hu _=>by simp at hu⟩,trivial⟩)
 refine ch.value (x:=.map (some w.heap.size)) (w':=w.alloc (.map #[] 0)) (g':=g') ?_ (jG.put hd ?_)
 ·simp[execOp,ho,Instr.makeMap,newObj]
  rfl
 ·rw[←hγ];exact .map _ (by simp[St.cx])
structure yF(P:Program)(t:TypeId)(ag:Bool)(ks:List Nat):Prop where
 qy:qy P 100 t=some ks
 agg:lp P t=some ag
 size:e9 P t=some ks.length
theorem yF.one{t:TypeId}{k:Nat}(h:yF P t false [k]):(k=0∧∃q,P.underlying t=some (.int q))∨(k=1∧P.underlying t=some .bool)∨(k=2∧P.underlying t=some .string):=by
 have h1:=h.qy;have h2:=h.agg;rw[show(100:Nat)=99+1 from rfl,Go.Vm.qy]at h1;unfold lp at h2;split at h1
 ·rename_i q hu;cases hc:e9 P t==some 1<;>simp[hc]at h1;exact .inl ⟨h1.symm,q,hu⟩
 ·rename_i hu;cases hc:e9 P t==some 1<;>simp[hc]at h1;exact .inr (.inl ⟨h1.symm,hu⟩)
 ·rename_i hu;cases hc:e9 P t==some 1<;>simp[hc]at h1;exact .inr (.inr ⟨h1.symm,hu⟩)
 ·rename_i fs hu;simp[hu]at h2
 ·rename_i n e hu;simp[hu]at h2
 ·cases h1
theorem Yz{X:Cx}{k:Nat}{u v:V}{x y:Value}(hx:bb X u x)(hy:bb X v y)(h:jW k u v=some true):x=y:=by
 unfold jW at h;split at h
 ·rename_i q1 c q2 d
  cases hk:decide (q1=q2) with
  |false=>simp[hk]at h
  |true =>
   have:=G8 hk;subst this;simp at h;subst h;rw[hx.C6,hy.C6]
 ·rename_i c d
  simp at h;subst h;rw[hx.C7,hy.C7]
 ·simp at h
  subst h;obtain⟨p,rfl,e1⟩:=hx.BG;obtain⟨q,rfl,e2⟩:=hy.BG;have:p.data.toList=q.data.toList:=e1.trans e2.symm;obtain⟨⟨p⟩⟩:=p;obtain⟨⟨q⟩⟩:=q;simp at this;rw[this]
 ·cases h
theorem YA{X:Cx}:∀{ks:List Nat} {cs ds:List V} {xs ys:List Value},eC ks cs ds=some true→cs.length=ks.length→ds.length=ks.length→xs.length=ks.length→ys.length=ks.length →
  (∀(j:Nat) (v:V) (y:Value),cs[j]?=some v→xs[j]?=some y→bb X v y)→(∀(j:Nat) (v:V) (y:Value),ds[j]?=some v→ys[j]?=some y→bb X v y)→xs=ys
 |[],cs,ds,xs,ys,_,_,_,h1,h2,_,_=>by
  exact(oo.1 h1).trans (oo.1 h2).symm
 |k::ks,[],_,_,_,_,h,_,_,_,_,_=>by simp at h
 |k::ks,_::_,[],_,_,_,_,h,_,_,_,_=>by simp at h
 |k::ks,_::_,_::_,[],_,_,_,_,h,_,_,_=>by simp at h
 |k::ks,_::_,_::_,_::_,[],_,_,_,_,h,_,_=>by simp at h
 |k::ks,c::cs,d::ds,x::xs,y::ys,h,h1,h2,h3,h4,r1,r2=>by
  simp only[eC]at h;split at h
  ·rename_i p q hp hq
   simp only[Option.some.injEq,bS]at h;obtain⟨rfl,rfl⟩:=h;have e1:x=y:=Yz (r1 0 c x rfl rfl) (r2 0 d y rfl rfl) hp;have e2:xs=ys:=YA hq (by simpa using h1) (by simpa using h2) (by simpa using h3) (by simpa using h4)
    (fun j v y a b=>r1 (j+1) v y (by simpa using a) (by simpa using b)) (fun j v y a b=>r2 (j+1) v y (by simpa using a) (by simpa using b))
   rw[e1,e2]
  ·cases h
theorem QP{t:TypeId}{ag:Bool}{ks:List Nat}(hk:yF P t ag ks){X:Cx}{u v:V}{x y:Value}(hx:bb X u x)(hy:bb X v y){b:Bool}(h:V.nd ag ks u v=some b) :
  (Op.equal t x y).run P w=.ok b w∧(b=true→x=y):=by
 unfold V.nd at h;split at h
 ·split at h
  ·rename_i cs ds
   cases hl:(cs.length==ks.length&&ds.length==ks.length) with
   |false=>simp[hl]at h
   |true =>
    simp only[hl,bG]at h;simp only[bS,dO]at hl;obtain⟨xs,e1,l1,r1⟩:=qS hx;obtain⟨ys,e2,l2,r2⟩:=qS hy;obtain⟨u,v,q1,q2,q3⟩:=QM 100 t ks hk.qy w X 9900 cs ds xs ys 0 b ⟨l1,r1⟩ ⟨l2,r2⟩ (by simpa using h)
    rw[Fh hk.agg hk.size]at q1 q2;cases q1;cases q2;have ex:xs.extract 0 (0+ks.length)=xs:=by simp[←hl.1,l1]
    have ey:ys.extract 0 (0+ks.length)=ys:=by simp[←hl.2,l2]
    rw[ex,ey]at q3;rw[e1,e2];refine⟨q3,fun hb=>?_⟩;subst hb;congr 1;apply m8;exact YA h hl.1 hl.2 (by simp;omega) (by simp;omega) (fun j v y a b=>r1 j v y a (by simpa using b)) (fun j v y a b=>r2 j v y a (by simpa using b))
  ·cases h
 ·split at h
  ·rename_i k
   refine⟨?_,fun hb=>?_⟩
   ·show(Op.equalIn (9999+1) t x y).run P w=_
    exact Yv hk.one hx hy h
   ·subst hb;exact Yz hx hy h
  ·cases h
theorem YB{X:Cx}{k:Nat}{u v:V}{x:Value}(hx:bb X u x){b:Bool}(h:jW k u v=some b)(n:Nat):Instr.sameBits n x x=true:=by
 unfold jW at h;split at h
 ·rw[hx.C6];simp[Instr.sameBits]
 ·rw[hx.C7];simp[Instr.sameBits]
 ·obtain⟨p,rfl,_⟩:=hx.BG;simp only[Instr.sameBits];exact(Go.MapKept.bytes_beq p p).2 rfl
 ·cases h
theorem YC{X:Cx}(n:Nat):∀{ks:List Nat} {cs ds:List V} {xs:List Value} {b:Bool},eC ks cs ds=some b→xs.length=ks.length →
  (∀(j:Nat) (v:V) (y:Value),cs[j]?=some v→xs[j]?=some y→bb X v y)→((xs.zip xs).all fun(x,y)=>Instr.sameBits n x y)=true
 |[],_,_,xs,_,_,h1,_=>by rw[oo.1 h1];rfl
 |k::ks,[],_,_,_,h,_,_=>by simp[eC]at h
 |k::ks,_::_,[],_,_,h,_,_=>by simp[eC]at h
 |k::ks,_::_,_::_,[],_,_,h,_=>by simp at h
 |k::ks,c::cs,d::ds,x::xs,b,h,h1,r=>by
  simp only[eC]at h;split at h
  ·rename_i p q hp hq
   simp only[List.zip_cons_cons,GM,bS];exact⟨YB (r 0 c x rfl rfl) hp n,YC n hq (by simpa using h1) (fun j v y a b=>r (j+1) v y (by simpa using a) (by simpa using b))⟩
  ·cases h
theorem ak2{ag:Bool}{ks:List Nat}{X:Cx}{u:V}{x:Value}(hx:bb X u x){b:Bool}(h:V.nd ag ks u u=some b):(Instr.keyThatStays x x).run P w=.ok x w:=by
 have hs:Instr.sameBits 10000 x x=true:=by
  unfold V.nd at h;split at h
  ·split at h
   ·rename_i ds
    cases hl:(ds.length==ks.length) with
    |false=>simp[hl]at h
    |true =>
     simp only[hl,Ce,bG]at h;simp only[dO]at hl;obtain⟨xs,rfl,l1,r1⟩:=qS hx;have:=YC 9999 (xs:=xs.toList) h (by simp;omega) (fun j v y a b=>r1 j v y a (by simpa using b))
     simp only[Instr.sameBits,beq_self_eq_true,Bool.true_and];exact this
   ·cases h
  ·split at h
   ·exact YB hx h _
   ·cases h
 simp[Instr.keyThatStays,hs]
def YD(P:Program)(em:Bool)(m:Nat)(t:TypeId)(ks:List Nat):Prop :=
 ∀(w:World) (X:Cx) (d:Nat) (cs:List V) (xs:Array Value) (o:Nat) (b:Bool),pt X cs xs→eC ks (cs.drop o) (cs.drop o)=some b →
  ∃x,(part t xs o).run P w=.ok x w∧(Instr.checkKey em (m+d) t x).run P w=.ok () w
theorem YE{rec:TypeId→Option (List Nat)}{em:Bool}{m:Nat}(ih:∀t ks,rec t=some ks→YD P em m t ks)(w:World)(X:Cx)(d:Nat)(cs:List V)(xs:Array Value)
  (hx:pt X cs xs):∀(fs:List Field) (off:Nat) (ks:List Nat) (b:Bool),C5 rec off fs=some ks→eC ks (cs.drop off) (cs.drop off)=some b →
  ((forIn fs PUnit.unit fun f _=>do
    if f.name≠ "_" then Instr.checkKey em (m+d) f.type (←part f.type xs f.offset)
    pure (ForInStep.yield PUnit.unit):Sem PUnit)).run P w=.ok PUnit.unit w
 |[],off,ks,b,h,he=>by simp
 |f::fs,off,ks,b,h,he=>by
  simp only[C5]at h;cases hc:((f.name != "_")&&f.offset==off) with
  |false=>simp[hc]at h
  |true =>
   simp only[hc,bG]at h;simp only[bS,bne_iff_ne,ne_eq,dO]at hc;split at h
   ·rename_i k1 h1
    split at h
    ·rename_i r h2
     simp only[Option.some.injEq]at h;subst h;obtain⟨b1,b2,e1,e2,rfl⟩:=Io he;rw[uX]at e2;obtain⟨x,p1,p2⟩:=ih f.type k1 h1 w X d cs xs off b1 hx e1;have vH:=YE ih w X d cs xs hx fs (off+k1.length) r b2 h2 e2;simp only[List.forIn_cons,Sem.run_bind,ne_eq,hc.1,not_false_eq_true,if_true,hc.2,p1,p2,Result.andThen_ok,Sem.run_pure];exact vH
    ·cases h
   ·cases h
theorem YF(em:Bool):∀(m:Nat) (t:TypeId) (ks:List Nat),qy P m t=some ks→YD P em m t ks
 |0,t,ks,h=>by simp[qy]at h
 |m+1,t,ks,h=>by
  intro w X d cs xs o b hx he;have ih:=YF em m;have one:∀k,ks=[k]→lp P t=some false→(∃td,P.underlying t=some td∧((∃q,td=.int q)∨td=.bool∨td=.string)) →
    ∃x,(part t xs o).run P w=.ok x w∧(Instr.checkKey em (m+1+d) t x).run P w=.ok () w:=by
   intro k hk ha ⟨td,hu,z8⟩;subst hk;cases ew:cs.drop o with
   |nil=>rw[ew]at he;simp[eC]at he
   |cons u us =>
    obtain⟨x,h1,h2⟩:=QL (w:=w) ha hx (o:=o) (v:=u) (by rw[ew];rfl)
    refine⟨x,h1,?_⟩;rw[show m+1+d=(m+d)+1 from by omega,Instr.checkKey]
    simp only[Sem.run_bind,run_underlying hu,Result.andThen_ok];rcases z8 with⟨q,rfl⟩ | rfl|rfl<;>rfl
  have agg:∀n,lp P t=some true→e9 P t=some n→n=ks.length→(∀xs,pt X ((cs.drop o).take n) xs →
    eC ks ((cs.drop o).take n) ((cs.drop o).take n)=some b→(Instr.checkKey em (m+1+d) t (.agg xs)).run P w=.ok () w) →
    ∃x,(part t xs o).run P w=.ok x w∧(Instr.checkKey em (m+1+d) t x).run P w=.ok () w:=by
   intro n ha hs hn hk;obtain⟨l1,l2⟩:=QK he;simp only[OC]at l1 l2;refine⟨_,Fh ha hs,?_⟩;rcases mq n with h0|h0
   ·have e1:pt X ((cs.drop o).take n) (xs.extract o (o+n)):=⟨by subst h0;simp;omega,by subst h0;simp⟩
    exact hk _ e1 (Ip (by omega) he)
   ·exact hk _ (hx.sub o n (by omega)) (Ip (by omega) he)
  simp only[qy]at h;split at h
  ·rename_i q hu
   cases hc:e9 P t==some 1<;>simp[hc]at h;exact one 0 h.symm (by simp[lp,hu]) ⟨_,hu,.inl ⟨q,rfl⟩⟩
  ·rename_i hu
   cases hc:e9 P t==some 1<;>simp[hc]at h;exact one 1 h.symm (by simp[lp,hu]) ⟨_,hu,.inr (.inl rfl)⟩
  ·rename_i hu
   cases hc:e9 P t==some 1<;>simp[hc]at h;exact one 2 h.symm (by simp[lp,hu]) ⟨_,hu,.inr (.inr rfl)⟩
  ·rename_i fs hu
   cases ez:P.stoodInHeld t with
   |true=>simp[ez]at h
   |false =>
    simp only[ez,eD]at h;split at h
    ·rename_i k1 h1
     cases hc:e9 P t==some k1.length with
     |false=>simp[hc]at h
     |true =>
      simp only[hc,bG,Option.some.injEq]at h;subst h;refine agg _ (by simp[lp,hu]) (by simpa using hc) rfl fun xs r1 he=>?_
      rw[show m+1+d=(m+d)+1 from by omega,Instr.checkKey]
      simp only[Sem.run_bind,run_underlying hu,Result.andThen_ok];rw[←Array.forIn_toList];have:=YE ih w X d _ xs r1 _ 0 k1 b h1 he;simp at this ⊢;rw[this];rfl
    ·cases h
  ·rename_i n e hu
   split at h
   ·rename_i k1 h1
    cases hc:((e9 P e==some k1.length)&&(e9 P t==some (n*k1.length))) with
    |false=>simp[hc]at h
    |true =>
     simp only[hc,bG,Option.some.injEq]at h;simp only[bS,dO]at hc;subst h;refine agg _ (by simp[lp,hu]) hc.2 (Yt _ _).symm fun xs r1 he=>?_
     have eg:=hc.1;have QQ:=eg;simp only[e9,En]at QQ;obtain⟨i,hi,QQ⟩:=QQ;rw[show m+1+d=(m+d)+1 from by omega,Instr.checkKey]
     simp only[Sem.run_bind,run_underlying hu,Result.andThen_ok];simp only[Std.Legacy.Range.forIn_eq_forIn_range',Std.Legacy.Range.size,xY,Nat.add_one_sub_one,Nat.div_one]
     suffices hgo:∀(n i:Nat) (b:Bool),eC (vU n k1) (((cs.drop o).take (vU n k1).length).drop 0) []=none∨True→True by
      have ak3:∀(n i:Nat) (b:Bool) (c:List V),pt X c xs→eC (vU n k1) (c.drop (i*k1.length)) (c.drop (i*k1.length))=some b →
        ((forIn (List.range' i n) PUnit.unit fun j _=>do
          let z ← sizeOf e
          Instr.checkKey em (m+d) e (←part e xs (j*z))
          pure (ForInStep.yield PUnit.unit):Sem PUnit)).run P w=.ok PUnit.unit w:=by
       intro n;induction n with
       |zero=>intro i b c _ _;simp
       |succ n ihn =>
        intro i b c hc he;simp only[vU]at he;obtain⟨b1,b2,e1,e2,rfl⟩:=Io he;rw[uX,show i*k1.length+k1.length=(i+1)*k1.length from by rw[oS]]at e2
        obtain⟨x,p1,p2⟩:=ih e k1 h1 w X d c xs _ b1 hc e1;rw[Eh];simp only[List.forIn_cons,Sem.run_bind,oW eg,Result.andThen_ok,p1,p2,Sem.run_pure];have:=ihn (i+1) b2 c hc e2;simpa using this
      have:=ak3 n 0 b _ r1 (by simpa using he)
      simp at this ⊢;rw[this];rfl
     intros;trivial
   ·cases h
  ·cases h
theorem YG{t:TypeId}{ag:Bool}{ks:List Nat}(hk:yF P t ag ks){X:Cx}{u:V}{x:Value}(hx:bb X u x){b:Bool}(h:V.nd ag ks u u=some b)(em:Bool) :
  (Instr.checkKey em 10000 t x).run P w=.ok () w:=by
 unfold V.nd at h;split at h
 ·split at h
  ·rename_i ds
   cases hl:(ds.length==ks.length) with
   |false=>simp[hl]at h
   |true =>
    simp only[hl,Ce,bG]at h;simp only[dO]at hl;obtain⟨xs,e1,l1,r1⟩:=qS hx;obtain⟨u,q1,q3⟩:=YF em 100 t ks hk.qy w X 9900 ds xs 0 b ⟨l1,r1⟩ (by simpa using h)
    rw[Fh hk.agg hk.size]at q1;cases q1;have ex:xs.extract 0 (0+ks.length)=xs:=by simp[←hl,l1]
    rw[ex]at q3;rw[e1];exact q3
  ·cases h
 ·split at h
  ·show(Instr.checkKey em (9999+1) t x).run P w=_
   rw[Instr.checkKey];rcases hk.one with⟨_,q,hu⟩ | ⟨_,hu⟩ | ⟨_,hu⟩<;>simp only[Sem.run_bind,run_underlying hu,Result.andThen_ok]<;>rfl
  ·cases h
def xp(X:Cx)(es:List (V×V))(l:List MapEntry):Prop :=
 es.length=l.length∧∀(j:Nat) (p:V×V) (y:MapEntry),es[j]?=some p→l[j]?=some y→bb X p.1 y.key
theorem xp.tail{X:Cx}{p:V×V}{es:List (V×V)}{y:MapEntry}{l:List MapEntry}(h:xp X (p::es) (y::l)):xp X es l :=
 ⟨by simpa using h.1,fun j p y a b=>h.2 (j+1) p y (by simpa using a) (by simpa using b)⟩
def Found(k:V)(kx:Value)(es:List (V×V))(l:List MapEntry)(i:Nat):Option (Nat×V)→Option (Nat×Value)→Prop
 |none,r=>r=none
 |some (j,v),r=>i≤j∧∃q e,es[j-i]?=some (q,v)∧l[j-i]?=some e∧e.key=kx∧r=some (j,e.val)
theorem Found.up{k:V}{kx:Value}{p:V×V}{es:List (V×V)}{y:MapEntry}{l:List MapEntry}{i:Nat}{r:Option (Nat×V)}{z:Option (Nat×Value)}(h:Found k kx es l (i+1) r z) :
  Found k kx (p::es) (y::l) i r z:=by
 cases r with
 |none=>exact h
 |some jv =>
  obtain⟨j,v⟩:=jv;obtain⟨h1,q,e,h2,h3,h4,h5⟩:=h;refine⟨by omega,q,e,?_,?_,h4,h5⟩
  ·rw[show j-i=(j-(i+1))+1 from by omega];simpa using h2
  ·rw[show j-i=(j-(i+1))+1 from by omega];simpa using h3
theorem YH{t:TypeId}{ag:Bool}{ks:List Nat}(hk:yF P t ag ks){X:Cx}{k:V}{kx:Value}(hx:bb X k kx):∀(es:List (V×V)) (l:List MapEntry) (i:Nat) (r:Option (Nat×V)),xp X es l →
  nf ag ks k es i=some r→∃z,(Instr.findAsking t kx l i).run P w=.ok z w∧Found k kx es l i r z
 |[],[],i,r,_,h=>by simp[nf]at h;subst h;exact⟨none,by simp[Instr.findAsking],rfl⟩
 |[],_::_,_,_,hr,_=>by simp[xp]at hr
 |_::_,[],_,_,hr,_=>by simp[xp]at hr
 |(q,v)::es,y::l,i,r,hr,h=>by
  simp only[nf]at h;have h0:=hr.2 0 (q,v) y rfl rfl;split at h
  ·rename_i hq
   cases h;obtain⟨q1,q2⟩:=QP (w:=w) hk hx h0 hq;exact⟨some (i,y.val),by simp[Instr.findAsking,q1],bV _,q,y,by simp,by simp,(q2 rfl).symm,rfl⟩
  ·rename_i hq
   obtain⟨q1,_⟩:=QP (w:=w) hk hx h0 hq;obtain⟨z,h1,h2⟩:=YH hk hx es l (i+1) r hr.tail h;exact⟨z,by simp[Instr.findAsking,q1,h1],h2.up⟩
  ·cases h
theorem YI{t:TypeId}{k0:Nat}{td:TypeDesc}(hk:yF P t false [k0])(z8:P.underlying t=some td){X:Cx}{k:V}{kx:Value}(hx:bb X k kx):∀(es:List (V×V)) (l:List MapEntry) (i:Nat) (r:Option (Nat×V)),xp X es l →
  nf false [k0] k es i=some r→∃z,Instr.findNow td kx l i=some z∧Found k kx es l i r z
 |[],[],i,r,_,h=>by simp[nf]at h;subst h;exact⟨none,by simp[Instr.findNow],rfl⟩
 |[],_::_,_,_,hr,_=>by simp[xp]at hr
 |_::_,[],_,_,hr,_=>by simp[xp]at hr
 |(q,v)::es,y::l,i,r,hr,h=>by
  simp only[nf]at h;have h0:=hr.2 0 (q,v) y rfl rfl;have YJ:∀b,V.nd false [k0] k q=some b→Instr.sameNow td kx y.key=some b∧(b=true→kx=y.key):=fun b hb=>by
   refine⟨?_,(QP (w:=default) hk hx h0 hb).2⟩;simp only[V.nd]at hb;unfold jW at hb;split at hb
   ·rename_i q1 c q2 d
    rcases hk.one with⟨_,q',hu⟩ | ⟨h',_⟩ | ⟨h',_⟩<;>first|omega|skip
    rw[z8]at hu;cases hu;cases qp:decide (q1=q2) with
    |false=>simp[qp]at hb
    |true =>
     have:=G8 qp;subst this;simp at hb;rw[hx.C6,bb.C6 h0];simp[Instr.sameNow,hb]
   ·rcases hk.one with⟨h',_⟩ | ⟨_,hu⟩ | ⟨h',_⟩<;>first|omega|skip
    rw[z8]at hu;cases hu;rw[hx.C7,bb.C7 h0];simpa [Instr.sameNow] using hb
   ·rcases hk.one with⟨h',_⟩ | ⟨h',_⟩ | ⟨_,hu⟩<;>first|omega|skip
    rw[z8]at hu;cases hu;obtain⟨c,rfl,rfl⟩:=hx.BG;obtain⟨d,hd,eZ⟩:=bb.BG h0;subst eZ;rw[hd];simp only[Instr.sameNow,Option.some.injEq];rw[beq_toListBytes,Yu];simpa using hb
   ·cases hb
  split at h
  ·rename_i hq
   cases h;obtain⟨q1,q2⟩:=YJ _ hq;exact⟨some (i,y.val),by simp[Instr.findNow,q1],bV _,q,y,by simp,by simp,(q2 rfl).symm,rfl⟩
  ·rename_i hq
   obtain⟨q1,_⟩:=YJ _ hq;obtain⟨z,h1,h2⟩:=YI hk z8 hx es l (i+1) r hr.tail h;exact⟨z,by simp[Instr.findNow,q1,h1],h2.up⟩
  ·cases h
theorem LU{t:TypeId}{ag:Bool}{ks:List Nat}(hk:yF P t ag ks){X:Cx}{k:V}{kx:Value}(hx:bb X k kx){b:Bool}(qp:V.nd ag ks k k=some b){es:List (V×V)}{l:List MapEntry}{r:Option (Nat×V)}(hr:xp X es l)
  (h:nf ag ks k es 0=some r):∃z,(Instr.findKey t kx l).run P w=.ok z w∧Found k kx es l 0 r z:=by
 cases ag with
 |true =>
  have ha:=hk.agg;unfold lp at ha;rw[run_findKey_eq w (by split at ha<;>simp_all) kx l]
  exact YH hk hx es l 0 r hr h
 |false =>
  have:∃k0,ks=[k0]:=by
   simp only[V.nd]at qp;split at qp
   ·exact⟨_,rfl⟩
   ·cases qp
  obtain⟨k0,rfl⟩:=this;have:∃td,P.underlying t=some td:=by
   rcases hk.one with⟨_,q,hu⟩ | ⟨_,hu⟩ | ⟨_,hu⟩<;>exact⟨_,hu⟩
  obtain⟨td,z8⟩:=this;obtain⟨z,h1,h2⟩:=YI hk z8 hx es l 0 r hr h;exact⟨z,by simp[Instr.findKey,run_underlying z8,h1],h2⟩
theorem YK{X:Cx}{i:Nat}{x:Value}(h:bb X (.map i) x):x=.map (some (X.g.γ i))∧i<X.N:=by
 cases h with
 |plain h _=>cases h
 |map _ h=>exact⟨rfl,h⟩
theorem bb.down{h:Array Obj}{g:Gh}{N:Nat}{T:List (Nat×Nat)}{v:V}{x:Value}(hx:bb ⟨h,g,N,[]⟩ v x)(hm:∀d,v.cq d=false):bb ⟨h,g,N,T⟩ v x :=
 bb.mono (X:=⟨h,g,N,[]⟩) (X':=⟨h,g,N,T⟩) ⟨bV _,fun _ _ _ _ h=>h,fun _ _=>bV _,bV _,fun _ _=>rfl⟩ hx fun d=>.inr (hm d)
theorem ak6{ag:Bool}{ks:List Nat}{u:V}{b:Bool}(h:V.nd ag ks u u=some b)(d:Nat):u.cq d=false:=by
 have cell:∀{k:Nat} {u v:V} {b:Bool},jW k u v=some b→u.cA d=false∧u.cq d=false:=fun {k u v b} h=>by
  unfold jW at h;split at h<;>first|exact⟨rfl,rfl⟩ | cases h
 unfold V.nd at h;split at h
 ·split at h
  ·rename_i ds
   cases hl:(ds.length==ks.length) with
   |false=>simp[hl]at h
   |true =>
    simp only[hl,Ce,bG]at h;simp only[dO]at hl;simp only[V.cq,V.dF,nF];intro v hv;obtain⟨j,hj⟩:=nH.1 hv;have go:∀(ks:List Nat) (cs:List V) (b:Bool) (j:Nat),cs.length=ks.length→eC ks cs cs=some b→cs[j]?=some v→v.cA d=false:=by
     intro ks;induction ks with
     |nil=>intro cs b j h1 _ h3;rw[oo.1 h1]at h3;simp at h3
     |cons k ks ih =>
      intro cs b j h1 h2 h3;cases cs with
      |nil=>simp at h1
      |cons c cs =>
       simp only[eC]at h2;split at h2
       ·rename_i p q hp hq
        cases j with
        |zero=>simp at h3;subst h3;exact(cell hp).1
        |succ j=>exact ih cs q j (by simpa using h1) hq (by simpa using h3)
       ·cases h2
    simp[go ks ds b j hl h hj]
  ·cases h
 ·split at h
  ·exact(cell h).2
  ·cases h
theorem K1(hR:R E g S a w){i:Nat}{es:List (V×V)}(h:S.aA[i]?=some (.map es)):g.ow (g.γ i)=.aA i∧g.m (g.γ i)=0∧∃c k,w.heap[g.γ i]?=some (.map c k)∧es.length=c.size ∧
  xp (S.cx g w) es c.toList∧∀(j:Nat) (p:V×V) (y:MapEntry),es[j]?=some p→c[j]?=some y→(∀d,p.1.cq d=false)∧(∀d,p.2.dF d=false)∧bb ⟨w.heap,g,S.aA.length,[]⟩ p.1 y.key∧bb ⟨w.heap,g,S.aA.length,[]⟩ p.2 y.val:=by
 obtain⟨cr,hm,c,k,hh,hl,hj⟩:=(hR.aA.obj i _ h).resolve_left (fun e=>by cases e)
 refine⟨cr,hm,c,k,hh,hl,⟨by simpa using hl,fun j p y a b=>?_⟩,hj⟩
 obtain⟨q1,_,q3,_⟩:=hj j p y a (by simpa using b)
 exact q3.down q1
def Px(P:Program)(t:TypeId)(zero:V):Bool :=
 match (P.info? t).bind (·.zero) with
 |some z=>KJ z zero
 |none=>false
theorem aiZ{o:Oper}{t kt et:TypeId}{ag ok:Bool}{ks:List Nat}{zero:V}{p q:Operand}{x k:bw}{C:bD}(ho:o.op=.lookup t p q ok)(ht:P.underlying t=some (.map kt et))(hk:yF P kt ag ks)(hz:Px P et zero=true)
  (hp:bU p x=true) (hq:bU q k=true) (hR:R E g S a w) (hd:∀d,o.dst=some d→d<E.nt) (hrun:VO.run C o.dst S (.wJ ag ks zero ok x k)=some S'):ch P E o S S' a w:=by
 simp only[VO.run]at hrun;split at hrun
 ·rename_i i kv hx sB
  split at hrun
  ·rename_i es b mw hb
   obtain⟨ex,hi⟩:=YK (cY hR hp hx);have Aa:=cY hR hq sB;obtain⟨cr,hm,c,ck,hh,hl,Iq,hj⟩:=K1 hR mw;have Ir:=YG (w:=w) hk Aa hb c.isEmpty;have qu:=MapKept.run_getObj_map (P:=P) hh;have Is:(getObj ((S.cx g w).g.γ i)).run P w=.ok (.map c ck) w:=qu;split at hrun
   ·rename_i j v hf
    cases hrun;obtain⟨z,Ab,_,q,e,QR,QS,YL,rfl⟩:=LU (w:=w) hk Aa hb Iq hf;have YM:=hj j (q,v) e (by simpa using QR) (by simpa using QS)
    have hv:bb (S.cx g w) v e.val:=YM.2.2.2.down fun d=>wT (YM.2.1 d);refine ch.put hR hd (x:=if ok then .tuple #[e.val,.bool true] else e.val) ?_ ?_
    ·simp only[execOp,ho,ex]
     simp[Instr.lookup,ji ht,Is,Ir,Ab]
    ·cases ok
     ·exact hv
     ·refine .tuple _ _ (by simp) fun m u y hu hy=>?_
      match m with
      |0=>simp at hu hy;subst hu;subst hy;exact hv
      |1=>simp at hu hy;subst hu;subst hy;exact bb.bool _
      |m+2=>simp at hu
   ·rename_i hf
    cases hrun;obtain⟨z,Ab,rfl⟩:=LU (w:=w) hk Aa hb Iq hf;unfold Px at hz;split at hz
    ·rename_i zv QT
     cases lQ:P.info? et with
     |none=>simp[lQ]at QT
     |some inf =>
      simp only[lQ,G7]at QT;have hv:bb (S.cx g w) zero zv:=We hz;refine ch.put hR hd (x:=if ok then .tuple #[zv,.bool false] else zv) ?_ ?_
      ·simp only[execOp,ho,ex]
       simp[Instr.lookup,ji ht,Is,Ir,Ab,zeroValue,typeInfo,lQ,QT]
      ·cases ok
       ·exact hv
       ·refine .tuple _ _ (by simp) fun m u y hu hy=>?_
        match m with
        |0=>simp at hu hy;subst hu;subst hy;exact hv
        |1=>simp at hu hy;subst hu;subst hy;exact bb.bool _
        |m+2=>simp at hu
    ·cases hz
   ·cases hrun
  ·cases hrun
 ·cases hrun
theorem ak7{b:Nat}{o':Obj}(hm:g.m b=0)(zJ:E.w0.heap.size≤b∨∃i,i<E.N0∧E.g0.ow b=.aA i)(Hz:∀p q,g.ow b≠.cell p q)(hR:R E g S a w) :
  Touch E g S w g S.bj S.aA.length { w with heap:=w.heap.setIfInBounds b o' } b none none where
 os:=rfl
 tape:=rfl
 output:=rfl
 size:=by simp
 heap:=fun i hi _=>by simp[Ne.symm hi]
 m:=fun _ _=>rfl
 ow:=fun _ _=>rfl
 κ:=fun _ _=>rfl
 cp:=fun _ _=>rfl
 τ:=fun _ _=>rfl
 T:=fun _ _=>rfl
 γ:=fun _ _=>rfl
 eK:=bV _
 γnew:=fun i a b=>absurd a (by omega)
 fresh:=zJ.imp (fun z=>z) .inl
 iq:=fun p q _ e=>absurd e (Hz p q)
 lv:=fun i e=>hR.Er e (bV _)
 kb:=fun o y ho _=>absurd ho (by omega)
 qn:=fun _=>bV _
theorem R.YN(hR:R E g S a w){i:Nat}{es pS:List (V×V)}(mw:S.aA[i]?=some (.map es)){c':Array MapEntry}{Ac:Nat}(hl:pS.length=c'.size)
  (hj:∀(j:Nat) (p:V×V) (y:MapEntry),pS[j]?=some p→c'[j]?=some y→(∀d,p.1.cq d=false)∧(∀d,p.2.dF d=false)∧bb ⟨w.heap,g,S.aA.length,[]⟩ p.1 y.key∧bb ⟨w.heap,g,S.aA.length,[]⟩ p.2 y.val) :
  R E g { S with aA:=S.aA.set i (.map pS) } a { w with heap:=w.heap.setIfInBounds (g.γ i) (.map c' Ac) }:=by
 obtain⟨cr,hm,c,ck,hh,_,_,_⟩:=K1 hR mw;have hi:=eQ mw;have zJ:=hR.HC cr;have hb:g.γ i<w.heap.size:=by
  rcases cF (g.γ i) w.heap.size with h|h
  ·exact h
  ·simp[mF h]at hh
 have kT:({ w with heap:=w.heap.setIfInBounds (g.γ i) (.map c' Ac) }:World).heap[g.γ i]?=some (.map c' Ac):=by simp[hb]
 have tt:=ak7 (S:=S) (w:=w) (o':=.map c' Ac) hm zJ (fun _ _ e=>by rw[cr]at e;cases e) hR
 have hk:∀k,jg (S.cx g w) ⟨w.heap.setIfInBounds (g.γ i) (.map c' Ac),g,S.aA.length,S.bj⟩ k:=fun k=>tt.keeps hR (fun e=>by cases e) (fun e=>by cases e) (fun _ e=>by rw[cr]at e;cases e)
 have nM:Le ⟨w.heap,g,S.aA.length,[]⟩ ⟨w.heap.setIfInBounds (g.γ i) (.map c' Ac),g,S.aA.length,[]⟩:=⟨tt.le.size,tt.le.cells,tt.le.m,tt.le.eK,tt.le.γ⟩;refine R.oA tt hR rfl (by simp) (fun i=>.inl (hk i)) (fun s v hs=>.inl hs) (fun id dS hi=>.inl ⟨hi,(fun e=>by cases e),fun _ e=>by rw[cr]at e;cases e⟩)
  (fun f k b hf hb=>.inl ⟨(fun e=>by cases e),fun _ e=>by rw[cr]at e;cases e⟩) (fun k o fx=>?_)
 simp only[jU]at fx;split at fx
 ·rename_i kh
  subst kh
  first|(rw[aM hi]at fx;cases fx)|cases fx
  refine .inr ⟨cr,⟨hm,c',Ac,kT,hl,fun j p y hp hy=>?_⟩,trivial⟩;obtain⟨q1,q2,q3,q4⟩:=hj j p y hp hy;exact⟨q1,q2,q3.mono nM fun d=>.inr (q1 d),q4.mono nM fun d=>.inr (wT (q2 d))⟩
 ·rename_i kh
  exact .inl ⟨fx,fun _=>⟨fun e=>(by rw[cr]at e;cases e;exact kh rfl),fun _ e=>(by rw[cr]at e;cases e)⟩⟩
theorem ak8{X:Cx}{sh:Sh}{v u:V}{y:Value}(h:A3 sh v=some u)(hr:bb X v y)(d:Nat):u.dF d=false:=by
 unfold A3 at h;split at h
 ·split at h
  ·rename_i cs us hg
   cases h;obtain⟨xs,e,hl,hx⟩:=qS hr;obtain⟨l1,l2⟩:=O4 hg;simp only[V.dF,nF];intro u hu;obtain⟨j,hj⟩:=nH.1 hu;obtain⟨v0,s,YO,qt⟩:=O5 hg j u hj;have bE:=eQ YO;obtain⟨q1,q2,_,_⟩:=ED qt (hx j v0 xs[j] YO (by simp[hl]at bE;simp[bE]))
   have:=q2 d;cases u<;>simp_all[V.cq,V.dF,V.cA,V.cL]
  ·cases h
 ·split at h
  ·obtain⟨q1,q2,_,_⟩:=ED h hr
   have:=q2 d;cases u<;>simp_all[V.cq,V.cL]
  ·cases h
theorem ai0{o:Oper}{t kt et:TypeId}{ag:Bool}{ks:List Nat}{sh:Sh}{p q r:Operand}{x k y:bw}{C:bD}(ho:o.op=.mapUpdate t p q r)(w5:o.dst=none)(ht:P.underlying t=some (.map kt et))(hk:yF P kt ag ks)
  (hp:bU p x=true) (hq:bU q k=true) (hr:bU r y=true) (hR:R E g S a w) (hrun:VO.run C o.dst S (.vd ag ks sh x k y)=some S'):ch P E o S S' a w:=by
 simp only[VO.run]at hrun;split at hrun
 ·rename_i i kv v hx sB hy
  split at hrun
  ·rename_i es b u mw hb hu
   obtain⟨ex,hi⟩:=YK (cY hR hp hx);have Aa:=cY hR hq sB;have YP:=cY hR hr hy;have YQ:=WN hu YP;have YR:=ak8 hu YP;have QU:=ak6 hb;have z7:bb ⟨w.heap,g,S.aA.length,[]⟩ kv (a.eval q):=bb.mono (X:=S.cx g w) (X':=⟨w.heap,g,S.aA.length,[]⟩) ⟨bV _,fun _ _ _ _ h=>h,fun _ _=>bV _,bV _,fun _ _=>rfl⟩ Aa fun d=>.inr (QU d);obtain⟨cr,hm,c,ck,hh,hl,Iq,hj⟩:=K1 hR mw;have Ir:=YG (w:=w) hk Aa hb false;have qu:=MapKept.run_getObj_map (P:=P) hh;have Is:(getObj ((S.cx g w).g.γ i)).run P w=.ok (.map c ck) w:=qu;split at hrun
   ·rename_i j v hf
    cases hrun;obtain⟨z,Ab,_,q0,e,QR,QS,YL,rfl⟩:=LU (w:=w) hk Aa hb Iq hf;have ak9:=ak2 (P:=P) (w:=w) Aa hb
    let c':=c.modify j fun e=>{ e with key:=a.eval q,val:=a.eval r }
    have jG:=hR.YN (c':=c') (Ac:=ck) (pS:=es.set j (kv,u)) mw (by simp[c',hl]) (fun n p y hn hy=>by
     simp only[jU]at hn;split at hn
     ·rename_i Ad
      subst Ad;split at hn
      ·cases hn
       have qX:j<c.size:=by omega
       simp only[c',D8,if_true]at hy;simp[qX]at hy;subst hy;exact⟨QU,YR,z7,YQ⟩
      ·cases hn
     ·rename_i Ad
      simp only[c',D8]at hy;rw[ay Ad]at hy;exact hj n p y hn hy)
    refine ch.skip (g':=g) ?_ w5 jG;have yG:=MapKept.run_setObj_map (P:=P) (.map c' ck) hh;have QV:(setObj ((S.cx g w).g.γ i) (.map c' ck)).run P w=.ok () { w with heap:=w.heap.setIfInBounds (g.γ i) (.map c' ck) }:=yG;have he:((c[j]?).map (·.key)).getD (a.eval q)=a.eval q:=by
     have:c[j]?=some e:=by simpa using QS
     rw[this];exact YL
    simp only[execOp,ho,ex];simp[Instr.mapUpdate,ji ht,Is,Ir,Ab,he,ak9,c',QV]
   ·rename_i hf
    cases hrun;obtain⟨z,Ab,rfl⟩:=LU (w:=w) hk Aa hb Iq hf
    let c':=c.push { key:=a.eval q,val:=a.eval r,born:=ck }
    have jG:=hR.YN (c':=c') (Ac:=ck+1) (pS:=es++[(kv,u)]) mw (by simp[c',hl]) (fun n p y hn hy=>by
     simp only[c',VE]at hy;by_cases zP:n=c.size
     ·rw[aM zP]at hy
      rw[qg (by omega),zP,hl]at hn
      simp at hn;cases hy;subst hn;exact⟨QU,YR,z7,YQ⟩
     ·rw[ay zP]at hy
      have bE:=(xR.1 hy).1;rw[nG (by omega)]at hn
      exact hj n p y hn hy)
    refine ch.skip (g':=g) ?_ w5 jG;have yG:=MapKept.run_setObj_map (P:=P) (.map c' (ck+1)) hh;have QV:(setObj ((S.cx g w).g.γ i) (.map c' (ck+1))).run P w=.ok () { w with heap:=w.heap.setIfInBounds (g.γ i) (.map c' (ck+1)) }:=yG;simp only[execOp,ho,ex];simp[Instr.mapUpdate,ji ht,Is,Ir,Ab,c',QV]
   ·cases hrun
  ·cases hrun
 ·cases hrun
end
end Go.Vm

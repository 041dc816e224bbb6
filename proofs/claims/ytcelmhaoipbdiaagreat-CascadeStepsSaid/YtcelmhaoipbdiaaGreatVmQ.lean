/- The value machine: blocks that calls share, and maps. -/
import Derived.MapKept
import Derived.WideKeyRuns
import Derived.Test.YtcelmhaoipbdiaaGreatVm9
import Derived.Test.YtcelmhaoipbdiaaGreatVmP
namespace Go.Vm
set_option linter.all false
section
variable {P:Program} {E:Entry} {g g':Gh} {S S':St} {a:Act} {w w':World}
theorem R.Zo(hR:R E g S a w){ob:Obj}(hw:w'.heap=w.heap.push ob)(h1:w'.os=w.os)(h2:w'.tape=w.tape)(h3:w'.output=w.output){o:aP}
  (ho:∀g':Gh,g'.m w.heap.size=0→Le ⟨w.heap,g,S.aD.length,[]⟩ ⟨w'.heap,g',S.aD.length+1,[]⟩→HA w'.heap g' (S.aD.length+1) w.heap.size o∧C3 w'.heap g' w.heap.size o) :
  ∃g',R E g' { S with aD:=S.aD++[o] } a w'∧g'.γ S.aD.length=w.heap.size:=by
 let g':Gh:={ g with m:=df g.m w.heap.size 0,γ:=df g.γ S.aD.length w.heap.size,ow:=df g.ow w.heap.size (.aD S.aD.length) }
 have t':Touch E g S w g' S.bl (S.aD.length+1) w' w.heap.size none none:=HF hR hw h1 h2 h3 (fun b hb=>gC _ _ hb) (fun b hb=>gC _ _ hb)
  (fun i _=>rfl) (fun i _=>rfl) (fun i _=>rfl) (fun i _=>rfl) (fun i hi=>gC _ _ (by omega)) (by omega) (fun i h1 h2=>by
   have:i=S.aD.length:=by omega
   subst this;show _≤df g.γ _ _ _;rw[dS];exact hR.same.size) (fun i e=>by
   have e:df g.ow w.heap.size (.aD S.aD.length) w.heap.size=.aD i:=e;rw[dS]at e;cases e;exact⟨dS _ _ _,Hs _⟩)
 have mz:∀i,jB (S.cx g w) ⟨w'.heap,g',S.aD.length+1,S.bl⟩ i:=fun i=>t'.keeps hR (fun e=>by cases e) (fun e=>by cases e) (fun h=>absurd h (iC _))
 have oa:Le ⟨w.heap,g,S.aD.length,[]⟩ ⟨w'.heap,g',S.aD.length+1,[]⟩:=⟨t'.le.size,t'.le.cells,t'.le.m,t'.le.eW,t'.le.γ⟩;have hγ:g'.γ S.aD.length=w.heap.size:=dS _ _ _;refine⟨g',R.oQ t' hR rfl (by simp) (fun i=>.inl (mz i)) (fun s v hs=>.inl hs)
  (fun id ei hi=>.inl ⟨hi,(fun e=>by cases e),fun h=>absurd h (iC _)⟩) (fun f k b hf hb=>.inl ⟨(fun e=>by cases e),fun h=>absurd h (iC _)⟩) (fun k o' fU=>?_),hγ⟩
 simp only[qB]at fU;split at fU
 ·exact .inl ⟨fU,fun h=>absurd h (iC _)⟩
 ·rename_i hk
  have:k=S.aD.length:=by
   rcases nG (k-S.aD.length) with h|h
   ·omega
   ·rw[mo (by simp;omega)]at fU;cases fU
  subst this;simp at fU;subst fU;exact .inr ⟨by rw[hγ];exact dS _ _ _,by rw[hγ];exact(ho g' (dS _ _ _) oa).1,by rw[hγ];exact(ho g' (dS _ _ _) oa).2⟩
theorem RJ{ob:Obj}(hw:w'.heap=w.heap.push ob):w'.heap[w.heap.size]?=some ob:=by
 rw[hw];simp
theorem ajH{o:Oper}{t:TypeId}{i:TypeInfo}{z:Value}{sh:Sh}{zero:List V}{C:bD}(ho:o.op=.alloc t)(hi:P.info? t=some i)(hz:i.zero=some z)(hc:vH z.cells.toList zero=true)
  (hR:R E g S a w) (hd:∀d,o.dst=some d→d<E.nt) (ah:VO.run C o.dst S (.vt sh zero)=some S'):ct P E o S S' a w:=by
 simp only[VO.run]at ah;split at ah
 ·rename_i cs hg
  cases ah;obtain⟨e1,e2⟩:=HW hg;obtain⟨hl,hx⟩:=EV (X:=S.cx g w) hc;have hw:(w.alloc (.cells z.cells t)).heap=w.heap.push (.cells z.cells t (0,0)):=rfl;obtain⟨g',kd,hγ⟩:=hR.Zo (w':=w.alloc (.cells z.cells t)) (o:=.cells cs) hw rfl rfl rfl (fun g' hm le=>by
   refine⟨⟨hm,z.cells,t,RJ hw,by simp at hl;omega,fun j u y hu hy=>?_⟩,fun j n es y hu hy=>?_⟩
   ·obtain⟨u0,s,sX,qN⟩:=BF hg _ u hu
    obtain⟨_,_,mT⟩:=hx j u0 y sX (by simpa using hy)
    obtain⟨q1,q2,q3,_⟩:=E5 qN mT;exact⟨q1,q2,q3.mono le (fun d=>.inr (q2 d))⟩
   ·rw[lP (RJ hw)]at hy
    obtain⟨u0,s,sX,qN⟩:=BF hg _ _ hu;obtain⟨_,_,mT⟩:=hx j u0 y sX (by simpa using hy)
    obtain⟨_,_,_,_,q5⟩:=E5 qN mT;obtain⟨rfl,hz⟩:=q5 n es rfl;exact P5 hz)
  refine ct.value (x:=.pointer (some ⟨w.heap.size,0,none⟩)) (w':=w.alloc (.cells z.cells t)) (g':=g') ?_ (kd.put hd ?_)
  ·simp[execOp,ho,Instr.alloc,zeroValue,typeInfo,hi,hz,newVar,newRow]
  ·rw[←hγ];exact .bH _ 0 (by simp[St.cx])
 ·cases ah
theorem ajI{o:Oper}{t:TypeId}{C:bD}(ho:o.op=.makeMap t none)
  (hR:R E g S a w) (hd:∀d,o.dst=some d→d<E.nt) (ah:VO.run C o.dst S .vu=some S'):ct P E o S S' a w:=by
 simp only[VO.run]at ah;cases ah;have hw:(w.alloc (.map #[] 0)).heap=w.heap.push (.map #[] 0):=rfl;obtain⟨g',kd,hγ⟩:=hR.Zo (w':=w.alloc (.map #[] 0)) (o:=.map []) hw rfl rfl rfl (fun g' hm le=>⟨⟨hm,#[],0,RJ hw,rfl,fun j u y hu _=>by simp at hu⟩,trivial⟩)
 refine ct.value (x:=.map (some w.heap.size)) (w':=w.alloc (.map #[] 0)) (g':=g') ?_ (kd.put hd ?_)
 ·simp[execOp,ho,Instr.makeMap,newObj]
  rfl
 ·rw[←hγ];exact .map _ (by simp[St.cx])
structure yE(P:Program)(t:TypeId)(ag:Bool)(ks:List Nat):Prop where
 qR:qR P 100 t=some ks
 agg:l9 P t=some ag
 size:fw P t=some ks.length
theorem yE.one{t:TypeId}{k:Nat}(h:yE P t false [k]):(k=0∧∃q,P.underlying t=some (.int q))∨(k=1∧P.underlying t=some .bool)∨(k=2∧P.underlying t=some .string):=by
 have h1:=h.qR;have h2:=h.agg;rw[show(100:Nat)=99+1 from rfl,Go.Vm.qR]at h1;unfold l9 at h2;split at h1
 ·rename_i q hu;cases hc:fw P t==some 1<;>simp[hc]at h1;exact .inl ⟨h1.symm,q,hu⟩
 ·rename_i hu;cases hc:fw P t==some 1<;>simp[hc]at h1;exact .inr (.inl ⟨h1.symm,hu⟩)
 ·rename_i hu;cases hc:fw P t==some 1<;>simp[hc]at h1;exact .inr (.inr ⟨h1.symm,hu⟩)
 ·rename_i fs hu;simp[hu]at h2
 ·rename_i n e hu;simp[hu]at h2
 ·cases h1
theorem Zp{X:Cx}{k:Nat}{u v:V}{x y:Value}(hx:bf X u x)(hy:bf X v y)(h:kO k u v=some true):x=y:=by
 unfold kO at h;split at h
 ·rename_i q1 c q2 d
  cases hk:decide (q1=q2) with
  |false=>simp[hk]at h
  |true =>
   have:=ER hk;subst this;simp at h;subst h;rw[hx.DG,hy.DG]
 ·rename_i c d
  simp at h;subst h;rw[hx.DH,hy.DH]
 ·simp at h
  subst h;obtain⟨p,rfl,e1⟩:=hx.B0;obtain⟨q,rfl,e2⟩:=hy.B0;have:p.data.toList=q.data.toList:=e1.trans e2.symm;obtain⟨⟨p⟩⟩:=p;obtain⟨⟨q⟩⟩:=q;simp at this;rw[this]
 ·cases h
theorem Zq{X:Cx}:∀{ks:List Nat} {cs ds:List V} {xs ys:List Value},eJ ks cs ds=some true→cs.length=ks.length→ds.length=ks.length→xs.length=ks.length→ys.length=ks.length →
  (∀(j:Nat) (v:V) (y:Value),cs[j]?=some v→xs[j]?=some y→bf X v y)→(∀(j:Nat) (v:V) (y:Value),ds[j]?=some v→ys[j]?=some y→bf X v y)→xs=ys
 |[],cs,ds,xs,ys,_,_,_,h1,h2,_,_=>by
  exact(a8.1 h1).trans (a8.1 h2).symm
 |k::ks,[],_,_,_,_,h,_,_,_,_,_=>by simp at h
 |k::ks,_::_,[],_,_,_,_,h,_,_,_,_=>by simp at h
 |k::ks,_::_,_::_,[],_,_,_,_,h,_,_,_=>by simp at h
 |k::ks,_::_,_::_,_::_,[],_,_,_,_,h,_,_=>by simp at h
 |k::ks,c::cs,d::ds,x::xs,y::ys,h,h1,h2,h3,h4,r1,r2=>by
  simp only[eJ]at h;split at h
  ·rename_i p q hp hq
   simp only[Option.some.injEq,b8]at h;obtain⟨rfl,rfl⟩:=h;have e1:x=y:=Zp (r1 0 c x rfl rfl) (r2 0 d y rfl rfl) hp;have e2:xs=ys:=Zq hq (by simpa using h1) (by simpa using h2) (by simpa using h3) (by simpa using h4)
    (fun j v y a b=>r1 (j+1) v y (by simpa using a) (by simpa using b)) (fun j v y a b=>r2 (j+1) v y (by simpa using a) (by simpa using b))
   rw[e1,e2]
  ·cases h
theorem RK{t:TypeId}{ag:Bool}{ks:List Nat}(hk:yE P t ag ks){X:Cx}{u v:V}{x y:Value}(hx:bf X u x)(hy:bf X v y){b:Bool}(h:V.nI ag ks u v=some b) :
  (Op.equal t x y).run P w=.ok b w∧(b=true→x=y):=by
 unfold V.nI at h;split at h
 ·split at h
  ·rename_i cs ds
   cases hl:(cs.length==ks.length&&ds.length==ks.length) with
   |false=>simp[hl]at h
   |true =>
    simp only[hl,bM]at h;simp only[b8,eg]at hl;obtain⟨xs,e1,l1,r1⟩:=rU hx;obtain⟨ys,e2,l2,r2⟩:=rU hy;obtain⟨u,v,q1,q2,q3⟩:=RH 100 t ks hk.qR w X 9900 cs ds xs ys 0 b ⟨l1,r1⟩ ⟨l2,r2⟩ (by simpa using h)
    rw[FK hk.agg hk.size]at q1 q2;cases q1;cases q2;have ex:xs.extract 0 (0+ks.length)=xs:=by simp[←hl.1,l1]
    have ey:ys.extract 0 (0+ks.length)=ys:=by simp[←hl.2,l2]
    rw[ex,ey]at q3;rw[e1,e2];refine⟨q3,fun hb=>?_⟩;subst hb;congr 1;apply nF;exact Zq h hl.1 hl.2 (by simp;omega) (by simp;omega) (fun j v y a b=>r1 j v y a (by simpa using b)) (fun j v y a b=>r2 j v y a (by simpa using b))
  ·cases h
 ·split at h
  ·rename_i k
   refine⟨?_,fun hb=>?_⟩
   ·show(Op.equalIn (9999+1) t x y).run P w=_
    exact Zl hk.one hx hy h
   ·subst hb;exact Zp hx hy h
  ·cases h
theorem Zr{X:Cx}{k:Nat}{u v:V}{x:Value}(hx:bf X u x){b:Bool}(h:kO k u v=some b)(n:Nat):Instr.sameBits n x x=true:=by
 unfold kO at h;split at h
 ·rw[hx.DG];simp[Instr.sameBits]
 ·rw[hx.DH];simp[Instr.sameBits]
 ·obtain⟨p,rfl,_⟩:=hx.B0;simp only[Instr.sameBits];exact(Go.MapKept.bytes_beq p p).2 rfl
 ·cases h
theorem Zs{X:Cx}(n:Nat):∀{ks:List Nat} {cs ds:List V} {xs:List Value} {b:Bool},eJ ks cs ds=some b→xs.length=ks.length →
  (∀(j:Nat) (v:V) (y:Value),cs[j]?=some v→xs[j]?=some y→bf X v y)→((xs.zip xs).all fun(x,y)=>Instr.sameBits n x y)=true
 |[],_,_,xs,_,_,h1,_=>by rw[a8.1 h1];rfl
 |k::ks,[],_,_,_,h,_,_=>by simp[eJ]at h
 |k::ks,_::_,[],_,_,h,_,_=>by simp[eJ]at h
 |k::ks,_::_,_::_,[],_,_,h,_=>by simp at h
 |k::ks,c::cs,d::ds,x::xs,b,h,h1,r=>by
  simp only[eJ]at h;split at h
  ·rename_i p q hp hq
   simp only[Pv,Hg,b8];exact⟨Zr (r 0 c x rfl rfl) hp n,Zs n hq (by simpa using h1) (fun j v y a b=>r (j+1) v y (by simpa using a) (by simpa using b))⟩
  ·cases h
theorem alP{ag:Bool}{ks:List Nat}{X:Cx}{u:V}{x:Value}(hx:bf X u x){b:Bool}(h:V.nI ag ks u u=some b):(Instr.keyThatStays x x).run P w=.ok x w:=by
 have hs:Instr.sameBits 10000 x x=true:=by
  unfold V.nI at h;split at h
  ·split at h
   ·rename_i ds
    cases hl:(ds.length==ks.length) with
    |false=>simp[hl]at h
    |true =>
     simp only[hl,EF,bM]at h;simp only[eg]at hl;obtain⟨xs,rfl,l1,r1⟩:=rU hx;have:=Zs 9999 (xs:=xs.toList) h (by simp;omega) (fun j v y a b=>r1 j v y a (by simpa using b))
     simp only[Instr.sameBits,beq_self_eq_true,Bool.true_and];exact this
   ·cases h
  ·split at h
   ·exact Zr hx h _
   ·cases h
 simp[Instr.keyThatStays,hs]
def Zt(P:Program)(em:Bool)(m:Nat)(t:TypeId)(ks:List Nat):Prop :=
 ∀(w:World) (X:Cx) (d:Nat) (cs:List V) (xs:Array Value) (o:Nat) (b:Bool),pL X cs xs→eJ ks (cs.drop o) (cs.drop o)=some b →
  ∃x,(part t xs o).run P w=.ok x w∧(Instr.checkKey em (m+d) t x).run P w=.ok () w
theorem Zu{rec:TypeId→Option (List Nat)}{em:Bool}{m:Nat}(ih:∀t ks,rec t=some ks→Zt P em m t ks)(w:World)(X:Cx)(d:Nat)(cs:List V)(xs:Array Value)
  (hx:pL X cs xs):∀(fs:List Field) (off:Nat) (ks:List Nat) (b:Bool),DF rec off fs=some ks→eJ ks (cs.drop off) (cs.drop off)=some b →
  ((forIn fs PUnit.unit fun f _=>do
    if f.name≠ "_" then Instr.checkKey em (m+d) f.type (←part f.type xs f.offset)
    pure (ForInStep.yield PUnit.unit):Sem PUnit)).run P w=.ok PUnit.unit w
 |[],off,ks,b,h,he=>by simp
 |f::fs,off,ks,b,h,he=>by
  simp only[DF]at h;cases hc:((f.name != "_")&&f.offset==off) with
  |false=>simp[hc]at h
  |true =>
   simp only[hc,bM]at h;simp only[b8,bne_iff_ne,ne_eq,eg]at hc;split at h
   ·rename_i k1 h1
    split at h
    ·rename_i r h2
     simp only[Option.some.injEq]at h;subst h;obtain⟨b1,b2,e1,e2,rfl⟩:=IG he;rw[zI]at e2;obtain⟨x,p1,p2⟩:=ih f.type k1 h1 w X d cs xs off b1 hx e1;have vV:=Zu ih w X d cs xs hx fs (off+k1.length) r b2 h2 e2;simp only[List.forIn_cons,Sem.run_bind,ne_eq,hc.1,not_false_eq_true,if_true,hc.2,p1,p2,Result.andThen_ok,Sem.run_pure];exact vV
    ·cases h
   ·cases h
theorem Zv(em:Bool):∀(m:Nat) (t:TypeId) (ks:List Nat),qR P m t=some ks→Zt P em m t ks
 |0,t,ks,h=>by simp[qR]at h
 |m+1,t,ks,h=>by
  intro w X d cs xs o b hx he;have ih:=Zv em m;have one:∀k,ks=[k]→l9 P t=some false→(∃td,P.underlying t=some td∧((∃q,td=.int q)∨td=.bool∨td=.string)) →
    ∃x,(part t xs o).run P w=.ok x w∧(Instr.checkKey em (m+1+d) t x).run P w=.ok () w:=by
   intro k hk ha ⟨td,hu,Au⟩;subst hk;cases eX:cs.drop o with
   |nil=>rw[eX]at he;simp[eJ]at he
   |cons u us =>
    obtain⟨x,h1,h2⟩:=RG (w:=w) ha hx (o:=o) (v:=u) (by rw[eX];rfl)
    refine⟨x,h1,?_⟩;rw[show m+1+d=(m+d)+1 from by omega,Instr.checkKey]
    simp only[Sem.run_bind,run_underlying hu,Result.andThen_ok];rcases Au with⟨q,rfl⟩ | rfl|rfl<;>rfl
  have agg:∀n,l9 P t=some true→fw P t=some n→n=ks.length→(∀xs,pL X ((cs.drop o).take n) xs →
    eJ ks ((cs.drop o).take n) ((cs.drop o).take n)=some b→(Instr.checkKey em (m+1+d) t (.agg xs)).run P w=.ok () w) →
    ∃x,(part t xs o).run P w=.ok x w∧(Instr.checkKey em (m+1+d) t x).run P w=.ok () w:=by
   intro n ha hs hn hk;obtain⟨l1,l2⟩:=RF he;simp only[Ph]at l1 l2;refine⟨_,FK ha hs,?_⟩;rcases nG n with h0|h0
   ·have e1:pL X ((cs.drop o).take n) (xs.extract o (o+n)):=⟨by subst h0;simp;omega,by subst h0;simp⟩
    exact hk _ e1 (IH (by omega) he)
   ·exact hk _ (hx.sub o n (by omega)) (IH (by omega) he)
  simp only[qR]at h;split at h
  ·rename_i q hu
   cases hc:fw P t==some 1<;>simp[hc]at h;exact one 0 h.symm (by simp[l9,hu]) ⟨_,hu,.inl ⟨q,rfl⟩⟩
  ·rename_i hu
   cases hc:fw P t==some 1<;>simp[hc]at h;exact one 1 h.symm (by simp[l9,hu]) ⟨_,hu,.inr (.inl rfl)⟩
  ·rename_i hu
   cases hc:fw P t==some 1<;>simp[hc]at h;exact one 2 h.symm (by simp[l9,hu]) ⟨_,hu,.inr (.inr rfl)⟩
  ·rename_i fs hu
   cases fm:P.stoodInHeld t with
   |true=>simp[fm]at h
   |false =>
    simp only[fm,fu]at h;split at h
    ·rename_i k1 h1
     cases hc:fw P t==some k1.length with
     |false=>simp[hc]at h
     |true =>
      simp only[hc,bM,Option.some.injEq]at h;subst h;refine agg _ (by simp[l9,hu]) (by simpa using hc) rfl fun xs r1 he=>?_
      rw[show m+1+d=(m+d)+1 from by omega,Instr.checkKey]
      simp only[Sem.run_bind,run_underlying hu,Result.andThen_ok];rw[←Array.forIn_toList];have:=Zu ih w X d _ xs r1 _ 0 k1 b h1 he;simp at this ⊢;rw[this];rfl
    ·cases h
  ·rename_i n e hu
   split at h
   ·rename_i k1 h1
    cases hc:((fw P e==some k1.length)&&(fw P t==some (n*k1.length))) with
    |false=>simp[hc]at h
    |true =>
     simp only[hc,bM,Option.some.injEq]at h;simp only[b8,eg]at hc;subst h;refine agg _ (by simp[l9,hu]) hc.2 (Zj _ _).symm fun xs r1 he=>?_
     have eH:=hc.1;have RL:=eH;simp only[fw,EP]at RL;obtain⟨i,hi,RL⟩:=RL;rw[show m+1+d=(m+d)+1 from by omega,Instr.checkKey]
     simp only[Sem.run_bind,run_underlying hu,Result.andThen_ok];simp only[Std.Legacy.Range.forIn_eq_forIn_range',Std.Legacy.Range.size,xY,Nat.add_one_sub_one,Nat.div_one]
     suffices hgo:∀(n i:Nat) (b:Bool),eJ (wa n k1) (((cs.drop o).take (wa n k1).length).drop 0) []=none∨True→True by
      have alQ:∀(n i:Nat) (b:Bool) (c:List V),pL X c xs→eJ (wa n k1) (c.drop (i*k1.length)) (c.drop (i*k1.length))=some b →
        ((forIn (List.range' i n) PUnit.unit fun j _=>do
          let z ← sizeOf e
          Instr.checkKey em (m+d) e (←part e xs (j*z))
          pure (ForInStep.yield PUnit.unit):Sem PUnit)).run P w=.ok PUnit.unit w:=by
       intro n;induction n with
       |zero=>intro i b c _ _;simp
       |succ n ihn =>
        intro i b c hc he;simp only[wa]at he;obtain⟨b1,b2,e1,e2,rfl⟩:=IG he;rw[zI,show i*k1.length+k1.length=(i+1)*k1.length from by rw[oI]]at e2
        obtain⟨x,p1,p2⟩:=ih e k1 h1 w X d c xs _ b1 hc e1;rw[Hq];simp only[List.forIn_cons,Sem.run_bind,pC eH,Result.andThen_ok,p1,p2,Sem.run_pure];have:=ihn (i+1) b2 c hc e2;simpa using this
      have:=alQ n 0 b _ r1 (by simpa using he)
      simp at this ⊢;rw[this];rfl
     intros;trivial
   ·cases h
  ·cases h
theorem Zw{t:TypeId}{ag:Bool}{ks:List Nat}(hk:yE P t ag ks){X:Cx}{u:V}{x:Value}(hx:bf X u x){b:Bool}(h:V.nI ag ks u u=some b)(em:Bool) :
  (Instr.checkKey em 10000 t x).run P w=.ok () w:=by
 unfold V.nI at h;split at h
 ·split at h
  ·rename_i ds
   cases hl:(ds.length==ks.length) with
   |false=>simp[hl]at h
   |true =>
    simp only[hl,EF,bM]at h;simp only[eg]at hl;obtain⟨xs,e1,l1,r1⟩:=rU hx;obtain⟨u,q1,q3⟩:=Zv em 100 t ks hk.qR w X 9900 ds xs 0 b ⟨l1,r1⟩ (by simpa using h)
    rw[FK hk.agg hk.size]at q1;cases q1;have ex:xs.extract 0 (0+ks.length)=xs:=by simp[←hl,l1]
    rw[ex]at q3;rw[e1];exact q3
  ·cases h
 ·split at h
  ·show(Instr.checkKey em (9999+1) t x).run P w=_
   rw[Instr.checkKey];rcases hk.one with⟨_,q,hu⟩ | ⟨_,hu⟩ | ⟨_,hu⟩<;>simp only[Sem.run_bind,run_underlying hu,Result.andThen_ok]<;>rfl
  ·cases h
def xv(X:Cx)(es:List (V×V))(l:List MapEntry):Prop :=
 es.length=l.length∧∀(j:Nat) (p:V×V) (y:MapEntry),es[j]?=some p→l[j]?=some y→bf X p.1 y.key
theorem xv.tail{X:Cx}{p:V×V}{es:List (V×V)}{y:MapEntry}{l:List MapEntry}(h:xv X (p::es) (y::l)):xv X es l :=
 ⟨by simpa using h.1,fun j p y a b=>h.2 (j+1) p y (by simpa using a) (by simpa using b)⟩
def Found(k:V)(kx:Value)(es:List (V×V))(l:List MapEntry)(i:Nat):Option (Nat×V)→Option (Nat×Value)→Prop
 |none,r=>r=none
 |some (j,v),r=>i≤j∧∃q e,es[j-i]?=some (q,v)∧l[j-i]?=some e∧e.key=kx∧r=some (j,e.val)
theorem Found.up{k:V}{kx:Value}{p:V×V}{es:List (V×V)}{y:MapEntry}{l:List MapEntry}{i:Nat}{r:Option (Nat×V)}{z:Option (Nat×Value)}(h:Found k kx es l (i+1) r z) :
  Found k kx (p::es) (y::l) i r z:=by
 cases r with
 |none=>exact h
 |some jv =>
  obtain⟨j,v⟩:=jv;obtain⟨h1,q,e,h2,h3,h4,h5⟩:=h;refine⟨by omega,q,e,?_,?_,h4,h5⟩
  ·rw[show j-i=(j-(i+1))+1 from by omega];simpa using h2
  ·rw[show j-i=(j-(i+1))+1 from by omega];simpa using h3
theorem Zx{t:TypeId}{ag:Bool}{ks:List Nat}(hk:yE P t ag ks){X:Cx}{k:V}{kx:Value}(hx:bf X k kx):∀(es:List (V×V)) (l:List MapEntry) (i:Nat) (r:Option (Nat×V)),xv X es l →
  nJ ag ks k es i=some r→∃z,(Instr.findAsking t kx l i).run P w=.ok z w∧Found k kx es l i r z
 |[],[],i,r,_,h=>by simp[nJ]at h;subst h;exact⟨none,by simp[Instr.findAsking],rfl⟩
 |[],_::_,_,_,hr,_=>by simp[xv]at hr
 |_::_,[],_,_,hr,_=>by simp[xv]at hr
 |(q,v)::es,y::l,i,r,hr,h=>by
  simp only[nJ]at h;have h0:=hr.2 0 (q,v) y rfl rfl;split at h
  ·rename_i hq
   cases h;obtain⟨q1,q2⟩:=RK (w:=w) hk hx h0 hq;exact⟨some (i,y.val),by simp[Instr.findAsking,q1],bY _,q,y,by simp,by simp,(q2 rfl).symm,rfl⟩
  ·rename_i hq
   obtain⟨q1,_⟩:=RK (w:=w) hk hx h0 hq;obtain⟨z,h1,h2⟩:=Zx hk hx es l (i+1) r hr.tail h;exact⟨z,by simp[Instr.findAsking,q1,h1],h2.up⟩
  ·cases h
theorem Zy{t:TypeId}{k0:Nat}{td:TypeDesc}(hk:yE P t false [k0])(Au:P.underlying t=some td){X:Cx}{k:V}{kx:Value}(hx:bf X k kx):∀(es:List (V×V)) (l:List MapEntry) (i:Nat) (r:Option (Nat×V)),xv X es l →
  nJ false [k0] k es i=some r→∃z,Instr.findNow td kx l i=some z∧Found k kx es l i r z
 |[],[],i,r,_,h=>by simp[nJ]at h;subst h;exact⟨none,by simp[Instr.findNow],rfl⟩
 |[],_::_,_,_,hr,_=>by simp[xv]at hr
 |_::_,[],_,_,hr,_=>by simp[xv]at hr
 |(q,v)::es,y::l,i,r,hr,h=>by
  simp only[nJ]at h;have h0:=hr.2 0 (q,v) y rfl rfl;have Zz:∀b,V.nI false [k0] k q=some b→Instr.sameNow td kx y.key=some b∧(b=true→kx=y.key):=fun b hb=>by
   refine⟨?_,(RK (w:=default) hk hx h0 hb).2⟩;simp only[V.nI]at hb;unfold kO at hb;split at hb
   ·rename_i q1 c q2 d
    rcases hk.one with⟨_,q',hu⟩ | ⟨h',_⟩ | ⟨h',_⟩<;>first|omega|skip
    rw[Au]at hu;cases hu;cases qJ:decide (q1=q2) with
    |false=>simp[qJ]at hb
    |true =>
     have:=ER qJ;subst this;simp at hb;rw[hx.DG,bf.DG h0];simp[Instr.sameNow,hb]
   ·rcases hk.one with⟨h',_⟩ | ⟨_,hu⟩ | ⟨h',_⟩<;>first|omega|skip
    rw[Au]at hu;cases hu;rw[hx.DH,bf.DH h0];simpa [Instr.sameNow] using hb
   ·rcases hk.one with⟨h',_⟩ | ⟨h',_⟩ | ⟨_,hu⟩<;>first|omega|skip
    rw[Au]at hu;cases hu;obtain⟨c,rfl,rfl⟩:=hx.B0;obtain⟨d,hd,fp⟩:=bf.B0 h0;subst fp;rw[hd];simp only[Instr.sameNow,Option.some.injEq];rw[beq_toListBytes,Zk];simpa using hb
   ·cases hb
  split at h
  ·rename_i hq
   cases h;obtain⟨q1,q2⟩:=Zz _ hq;exact⟨some (i,y.val),by simp[Instr.findNow,q1],bY _,q,y,by simp,by simp,(q2 rfl).symm,rfl⟩
  ·rename_i hq
   obtain⟨q1,_⟩:=Zz _ hq;obtain⟨z,h1,h2⟩:=Zy hk Au hx es l (i+1) r hr.tail h;exact⟨z,by simp[Instr.findNow,q1,h1],h2.up⟩
  ·cases h
theorem Mm{t:TypeId}{ag:Bool}{ks:List Nat}(hk:yE P t ag ks){X:Cx}{k:V}{kx:Value}(hx:bf X k kx){b:Bool}(qJ:V.nI ag ks k k=some b){es:List (V×V)}{l:List MapEntry}{r:Option (Nat×V)}(hr:xv X es l)
  (h:nJ ag ks k es 0=some r):∃z,(Instr.findKey t kx l).run P w=.ok z w∧Found k kx es l 0 r z:=by
 cases ag with
 |true =>
  have ha:=hk.agg;unfold l9 at ha;rw[run_findKey_eq w (by split at ha<;>simp_all) kx l]
  exact Zx hk hx es l 0 r hr h
 |false =>
  have:∃k0,ks=[k0]:=by
   simp only[V.nI]at qJ;split at qJ
   ·exact⟨_,rfl⟩
   ·cases qJ
  obtain⟨k0,rfl⟩:=this;have:∃td,P.underlying t=some td:=by
   rcases hk.one with⟨_,q,hu⟩ | ⟨_,hu⟩ | ⟨_,hu⟩<;>exact⟨_,hu⟩
  obtain⟨td,Au⟩:=this;obtain⟨z,h1,h2⟩:=Zy hk Au hx es l 0 r hr h;exact⟨z,by simp[Instr.findKey,run_underlying Au,h1],h2⟩
theorem ZA{X:Cx}{i:Nat}{x:Value}(h:bf X (.map i) x):x=.map (some (X.g.γ i))∧i<X.N:=by
 cases h with
 |plain h _=>cases h
 |map _ h=>exact⟨rfl,h⟩
theorem bf.down{h:Array Obj}{g:Gh}{N:Nat}{T:List (Nat×Nat)}{v:V}{x:Value}(hx:bf ⟨h,g,N,[]⟩ v x)(hm:∀d,v.cA d=false):bf ⟨h,g,N,T⟩ v x :=
 bf.mono (X:=⟨h,g,N,[]⟩) (X':=⟨h,g,N,T⟩) ⟨bY _,fun _ _ _ _ h=>h,fun _ _=>bY _,bY _,fun _ _=>rfl⟩ hx fun d=>.inr (hm d)
theorem alT{ag:Bool}{ks:List Nat}{u:V}{b:Bool}(h:V.nI ag ks u u=some b)(d:Nat):u.cA d=false:=by
 have cell:∀{k:Nat} {u v:V} {b:Bool},kO k u v=some b→u.cI d=false∧u.cA d=false:=fun {k u v b} h=>by
  unfold kO at h;split at h<;>first|exact⟨rfl,rfl⟩ | cases h
 unfold V.nI at h;split at h
 ·split at h
  ·rename_i ds
   cases hl:(ds.length==ks.length) with
   |false=>simp[hl]at h
   |true =>
    simp only[hl,EF,bM]at h;simp only[eg]at hl;simp only[V.cA,V.dP,mR];intro v hv;obtain⟨j,hj⟩:=sH.1 hv;have go:∀(ks:List Nat) (cs:List V) (b:Bool) (j:Nat),cs.length=ks.length→eJ ks cs cs=some b→cs[j]?=some v→v.cI d=false:=by
     intro ks;induction ks with
     |nil=>intro cs b j h1 _ h3;rw[a8.1 h1]at h3;simp at h3
     |cons k ks ih =>
      intro cs b j h1 h2 h3;cases cs with
      |nil=>simp at h1
      |cons c cs =>
       simp only[eJ]at h2;split at h2
       ·rename_i p q hp hq
        cases j with
        |zero=>simp at h3;subst h3;exact(cell hp).1
        |succ j=>exact ih cs q j (by simpa using h1) hq (by simpa using h3)
       ·cases h2
    simp[go ks ds b j hl h hj]
  ·cases h
 ·split at h
  ·exact(cell h).2
  ·cases h
theorem Ly(hR:R E g S a w){i:Nat}{es:List (V×V)}(h:S.aD[i]?=some (.map es)):g.ow (g.γ i)=.aD i∧g.m (g.γ i)=0∧∃c k,w.heap[g.γ i]?=some (.map c k)∧es.length=c.size ∧
  xv (S.cx g w) es c.toList∧∀(j:Nat) (p:V×V) (y:MapEntry),es[j]?=some p→c[j]?=some y→(∀d,p.1.cA d=false)∧(∀d,p.2.dP d=false)∧bf ⟨w.heap,g,S.aD.length,[]⟩ p.1 y.key∧bf ⟨w.heap,g,S.aD.length,[]⟩ p.2 y.val:=by
 obtain⟨cB,hm,c,k,hh,hl,hj⟩:=(hR.aD.obj i _ h).resolve_left (fun e=>by cases e)
 refine⟨cB,hm,c,k,hh,hl,⟨by simpa using hl,fun j p y a b=>?_⟩,hj⟩
 obtain⟨q1,_,q3,_⟩:=hj j p y a (by simpa using b)
 exact q3.down q1
def Qn(P:Program)(t:TypeId)(zero:V):Bool :=
 match (P.info? t).bind (·.zero) with
 |some z=>K9 z zero
 |none=>false
theorem ajJ{o:Oper}{t kt et:TypeId}{ag ok:Bool}{ks:List Nat}{zero:V}{p q:Operand}{x k:bA}{C:bD}(ho:o.op=.lookup t p q ok)(ht:P.underlying t=some (.map kt et))(hk:yE P kt ag ks)(hz:Qn P et zero=true)
  (hp:bZ p x=true) (hq:bZ q k=true) (hR:R E g S a w) (hd:∀d,o.dst=some d→d<E.nt) (ah:VO.run C o.dst S (.wM ag ks zero ok x k)=some S'):ct P E o S S' a w:=by
 simp only[VO.run]at ah;split at ah
 ·rename_i i kv hx r0
  split at ah
  ·rename_i es b mU hb
   obtain⟨ex,hi⟩:=ZA (c9 hR hp hx);have Av:=c9 hR hq r0;obtain⟨cB,hm,c,ck,hh,hl,II,hj⟩:=Ly hR mU;have IJ:=Zw (w:=w) hk Av hb c.isEmpty;have qO:=MapKept.run_getObj_map (P:=P) hh;have IK:(getObj ((S.cx g w).g.γ i)).run P w=.ok (.map c ck) w:=qO;split at ah
   ·rename_i j v hf
    cases ah;obtain⟨z,Aw,_,q,e,RM,RN,ZB,rfl⟩:=Mm (w:=w) hk Av hb II hf;have ZC:=hj j (q,v) e (by simpa using RM) (by simpa using RN)
    have hv:bf (S.cx g w) v e.val:=ZC.2.2.2.down fun d=>wW (ZC.2.1 d);refine ct.put hR hd (x:=if ok then .tuple #[e.val,.bool true] else e.val) ?_ ?_
    ·simp only[execOp,ho,ex]
     simp[Instr.lookup,jC ht,IK,IJ,Aw]
    ·cases ok
     ·exact hv
     ·refine .tuple _ _ (by simp) fun m u y hu hy=>?_
      match m with
      |0=>simp at hu hy;subst hu;subst hy;exact hv
      |1=>simp at hu hy;subst hu;subst hy;exact bf.bool _
      |m+2=>simp at hu
   ·rename_i hf
    cases ah;obtain⟨z,Aw,rfl⟩:=Mm (w:=w) hk Av hb II hf;unfold Qn at hz;split at hz
    ·rename_i zv RO
     cases mA:P.info? et with
     |none=>simp[mA]at RO
     |some inf =>
      simp only[mA,K0]at RO;have hv:bf (S.cx g w) zero zv:=W0 hz;refine ct.put hR hd (x:=if ok then .tuple #[zv,.bool false] else zv) ?_ ?_
      ·simp only[execOp,ho,ex]
       simp[Instr.lookup,jC ht,IK,IJ,Aw,zeroValue,typeInfo,mA,RO]
      ·cases ok
       ·exact hv
       ·refine .tuple _ _ (by simp) fun m u y hu hy=>?_
        match m with
        |0=>simp at hu hy;subst hu;subst hy;exact hv
        |1=>simp at hu hy;subst hu;subst hy;exact bf.bool _
        |m+2=>simp at hu
    ·cases hz
   ·cases ah
  ·cases ah
 ·cases ah
theorem alU{b:Nat}{o':Obj}(hm:g.m b=0)(zZ:E.w0.heap.size≤b∨∃i,i<E.N0∧E.g0.ow b=.aD i)(HU:∀p q,g.ow b≠.cell p q)(hR:R E g S a w) :
  Touch E g S w g S.bl S.aD.length { w with heap:=w.heap.setIfInBounds b o' } b none none where
 os:=rfl
 tape:=rfl
 output:=rfl
 size:=by simp
 heap:=fun i hi _=>by simp[Ne.symm hi]
 m:=fun _ _=>rfl
 ow:=fun _ _=>rfl
 κ:=fun _ _=>rfl
 cp:=fun _ _=>rfl
 τ:=fun _ _=>rfl
 T:=fun _ _=>rfl
 γ:=fun _ _=>rfl
 eW:=bY _
 γnew:=fun i a b=>absurd a (by omega)
 fresh:=zZ.imp (fun z=>z) .inl
 iW:=fun p q _ e=>absurd e (HU p q)
 lv:=fun i e=>hR.EU e (bY _)
 kN:=fun o y ho _=>absurd ho (by omega)
 qH:=fun _=>bY _
theorem R.ZD(hR:R E g S a w){i:Nat}{es ql:List (V×V)}(mU:S.aD[i]?=some (.map es)){c':Array MapEntry}{Ax:Nat}(hl:ql.length=c'.size)
  (hj:∀(j:Nat) (p:V×V) (y:MapEntry),ql[j]?=some p→c'[j]?=some y→(∀d,p.1.cA d=false)∧(∀d,p.2.dP d=false)∧bf ⟨w.heap,g,S.aD.length,[]⟩ p.1 y.key∧bf ⟨w.heap,g,S.aD.length,[]⟩ p.2 y.val) :
  R E g { S with aD:=S.aD.set i (.map ql) } a { w with heap:=w.heap.setIfInBounds (g.γ i) (.map c' Ax) }:=by
 obtain⟨cB,hm,c,ck,hh,_,_,_⟩:=Ly hR mU;have hi:=fa mU;have zZ:=hR.HX cB;have hb:g.γ i<w.heap.size:=by
  rcases cM (g.γ i) w.heap.size with h|h
  ·exact h
  ·simp[nb h]at hh
 have lR:({ w with heap:=w.heap.setIfInBounds (g.γ i) (.map c' Ax) }:World).heap[g.γ i]?=some (.map c' Ax):=by simp[hb]
 have tt:=alU (S:=S) (w:=w) (o':=.map c' Ax) hm zZ (fun _ _ e=>by rw[cB]at e;cases e) hR
 have hk:∀k,jB (S.cx g w) ⟨w.heap.setIfInBounds (g.γ i) (.map c' Ax),g,S.aD.length,S.bl⟩ k:=fun k=>tt.keeps hR (fun e=>by cases e) (fun e=>by cases e) (fun _ e=>by rw[cB]at e;cases e)
 have oa:Le ⟨w.heap,g,S.aD.length,[]⟩ ⟨w.heap.setIfInBounds (g.γ i) (.map c' Ax),g,S.aD.length,[]⟩:=⟨tt.le.size,tt.le.cells,tt.le.m,tt.le.eW,tt.le.γ⟩;refine R.oQ tt hR rfl (by simp) (fun i=>.inl (hk i)) (fun s v hs=>.inl hs) (fun id ei hi=>.inl ⟨hi,(fun e=>by cases e),fun _ e=>by rw[cB]at e;cases e⟩)
  (fun f k b hf hb=>.inl ⟨(fun e=>by cases e),fun _ e=>by rw[cB]at e;cases e⟩) (fun k o fU=>?_)
 simp only[kK]at fU;split at fU
 ·rename_i kE
  subst kE
  first|(rw[aK hi]at fU;cases fU)|cases fU
  refine .inr ⟨cB,⟨hm,c',Ax,lR,hl,fun j p y hp hy=>?_⟩,trivial⟩;obtain⟨q1,q2,q3,q4⟩:=hj j p y hp hy;exact⟨q1,q2,q3.mono oa fun d=>.inr (q1 d),q4.mono oa fun d=>.inr (wW (q2 d))⟩
 ·rename_i kE
  exact .inl ⟨fU,fun _=>⟨fun e=>(by rw[cB]at e;cases e;exact kE rfl),fun _ e=>(by rw[cB]at e;cases e)⟩⟩
theorem alV{X:Cx}{sh:Sh}{v u:V}{y:Value}(h:Bl sh v=some u)(hr:bf X v y)(d:Nat):u.dP d=false:=by
 unfold Bl at h;split at h
 ·split at h
  ·rename_i cs us hg
   cases h;obtain⟨xs,e,hl,hx⟩:=rU hr;obtain⟨l1,l2⟩:=P2 hg;simp only[V.dP,mR];intro u hu;obtain⟨j,hj⟩:=sH.1 hu;obtain⟨v0,s,IL,qN⟩:=P3 hg j u hj;have bI:=fa IL;obtain⟨q1,q2,_,_⟩:=E4 qN (hx j v0 xs[j] IL (by simp[hl]at bI;simp[bI]))
   have:=q2 d;cases u<;>simp_all[V.cA,V.dP,V.cI,V.cQ]
  ·cases h
 ·split at h
  ·obtain⟨q1,q2,_,_⟩:=E4 h hr
   have:=q2 d;cases u<;>simp_all[V.cA,V.cQ]
  ·cases h
theorem ajK{o:Oper}{t kt et:TypeId}{ag:Bool}{ks:List Nat}{sh:Sh}{p q r:Operand}{x k y:bA}{C:bD}(ho:o.op=.mapUpdate t p q r)(w8:o.dst=none)(ht:P.underlying t=some (.map kt et))(hk:yE P kt ag ks)
  (hp:bZ p x=true) (hq:bZ q k=true) (hr:bZ r y=true) (hR:R E g S a w) (ah:VO.run C o.dst S (.vv ag ks sh x k y)=some S'):ct P E o S S' a w:=by
 simp only[VO.run]at ah;split at ah
 ·rename_i i kv v hx r0 hy
  split at ah
  ·rename_i es b u mU hb hu
   obtain⟨ex,hi⟩:=ZA (c9 hR hp hx);have Av:=c9 hR hq r0;have ZE:=c9 hR hr hy;have ZF:=Xx hu ZE;have ZG:=alV hu ZE;have RP:=alT hb;have Mo:bf ⟨w.heap,g,S.aD.length,[]⟩ kv (a.eval q):=bf.mono (X:=S.cx g w) (X':=⟨w.heap,g,S.aD.length,[]⟩) ⟨bY _,fun _ _ _ _ h=>h,fun _ _=>bY _,bY _,fun _ _=>rfl⟩ Av fun d=>.inr (RP d);obtain⟨cB,hm,c,ck,hh,hl,II,hj⟩:=Ly hR mU;have IJ:=Zw (w:=w) hk Av hb false;have qO:=MapKept.run_getObj_map (P:=P) hh;have IK:(getObj ((S.cx g w).g.γ i)).run P w=.ok (.map c ck) w:=qO;split at ah
   ·rename_i j v hf
    cases ah;obtain⟨z,Aw,_,q0,e,RM,RN,ZB,rfl⟩:=Mm (w:=w) hk Av hb II hf;have alW:=alP (P:=P) (w:=w) Av hb
    let c':=c.modify j fun e=>{ e with key:=a.eval q,val:=a.eval r }
    have kd:=hR.ZD (c':=c') (Ax:=ck) (ql:=es.set j (kv,u)) mU (by simp[c',hl]) (fun n p y hn hy=>by
     simp only[kK]at hn;split at hn
     ·rename_i FL
      subst FL;split at hn
      ·cases hn
       have rW:j<c.size:=by omega
       simp only[c',EE,if_true]at hy;simp[rW]at hy;subst hy;exact⟨RP,ZG,Mo,ZF⟩
      ·cases hn
     ·rename_i FL
      simp only[c',EE]at hy;rw[av FL]at hy;exact hj n p y hn hy)
    refine ct.skip (g':=g) ?_ w8 kd;have yG:=MapKept.run_setObj_map (P:=P) (.map c' ck) hh;have RQ:(setObj ((S.cx g w).g.γ i) (.map c' ck)).run P w=.ok () { w with heap:=w.heap.setIfInBounds (g.γ i) (.map c' ck) }:=yG;have he:((c[j]?).map (·.key)).getD (a.eval q)=a.eval q:=by
     have:c[j]?=some e:=by simpa using RN
     rw[this];exact ZB
    simp only[execOp,ho,ex];simp[Instr.mapUpdate,jC ht,IK,IJ,Aw,he,alW,c',RQ]
   ·rename_i hf
    cases ah;obtain⟨z,Aw,rfl⟩:=Mm (w:=w) hk Av hb II hf
    let c':=c.push { key:=a.eval q,val:=a.eval r,born:=ck }
    have kd:=hR.ZD (c':=c') (Ax:=ck+1) (ql:=es++[(kv,u)]) mU (by simp[c',hl]) (fun n p y hn hy=>by
     simp only[c',Ww]at hy;by_cases Ad:n=c.size
     ·rw[aK Ad]at hy
      rw[wL (by omega),Ad,hl]at hn
      simp at hn;cases hy;subst hn;exact⟨RP,ZG,Mo,ZF⟩
     ·rw[av Ad]at hy
      have bI:=(wJ.1 hy).1;rw[ux (by omega)]at hn
      exact hj n p y hn hy)
    refine ct.skip (g':=g) ?_ w8 kd;have yG:=MapKept.run_setObj_map (P:=P) (.map c' (ck+1)) hh;have RQ:(setObj ((S.cx g w).g.γ i) (.map c' (ck+1))).run P w=.ok () { w with heap:=w.heap.setIfInBounds (g.γ i) (.map c' (ck+1)) }:=yG;simp only[execOp,ho,ex];simp[Instr.mapUpdate,jC ht,IK,IJ,Aw,c',RQ]
   ·cases ah
  ·cases ah
 ·cases ah
end
end Go.Vm

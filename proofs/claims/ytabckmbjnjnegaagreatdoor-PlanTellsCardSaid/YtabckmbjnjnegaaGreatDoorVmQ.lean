/- - -/
import Derived.MapKept
import Derived.WideKeyRuns
import Derived.Test.YtabckmbjnjnegaaGreatDoorVm9
import Derived.Test.YtabckmbjnjnegaaGreatDoorVmP
namespace Go.Vm
set_option linter.all false
section
variable {P:Program} {E:Entry} {g g':Gh} {S S':St} {a:Act} {w w':World}
def R.ab3(hR:R E g S a w){ob:Obj}(hw:w'.heap=w.heap.push ob)(h1:w'.os=w.os)(h2:w'.tape=w.tape)(h3:w'.output=w.output){o:aM}
  (ho:∀g':Gh,g'.m w.heap.size=0->Le ⟨w.heap,g,S.aC.length,[]⟩ ⟨w'.heap,g',S.aC.length+1,[]⟩->Jz w'.heap g' (S.aC.length+1) w.heap.size o/\Ey w'.heap g' w.heap.size o) :
  ∃g',R E g' { S with aC:=S.aC++[o] } a w'/\g'.γ S.aC.length=w.heap.size:=by
 let g':Gh:={ g with m:=du g.m w.heap.size 0,γ:=du g.γ S.aC.length w.heap.size,ow:=du g.ow w.heap.size (.aC S.aC.length) }
 have t':Touch E g S w g' S.bo (S.aC.length+1) w' w.heap.size none none:=JE hR hw h1 h2 h3 (λb hb=>g9 _ _ hb) (λb hb=>g9 _ _ hb)
  (λi _=>rfl) (λi _=>rfl) (λi _=>rfl) (λi _=>rfl) (λi hi=>g9 _ _ (by omega)) (by omega) (λi h1 h2=>by
   have:i=S.aC.length:=by omega
   subst this;show _<=du g.γ _ _ _;rw[ea];exact hR.same.size) (λi e=>by
   have e:du g.ow w.heap.size (.aC S.aC.length) w.heap.size=.aC i:=e;rw[ea]at e;cases e;exact⟨ea _ _ _,Jr _⟩)
 have nx:∀i,ke (S.cx g w) ⟨w'.heap,g',S.aC.length+1,S.bo⟩ i:=λi=>t'.keeps hR (λe=>by cases e) (λe=>by cases e) (λh=>absurd h (iX _))
 have pG:Le ⟨w.heap,g,S.aC.length,[]⟩ ⟨w'.heap,g',S.aC.length+1,[]⟩:=⟨t'.le.size,t'.le.cells,t'.le.m,t'.le.eZ,t'.le.γ⟩;have hγ:g'.γ S.aC.length=w.heap.size:=ea _ _ _;refine⟨g',R.qk t' hR rfl (by simp) (λi=>.inl (nx i)) (λs v hs=>.inl hs)
  (λid ei hi=>.inl ⟨hi,(λe=>by cases e),λh=>absurd h (iX _)⟩) (λf k b hf hb=>.inl ⟨(λe=>by cases e),λh=>absurd h (iX _)⟩) (λk o' gi=>?_),hγ⟩
 simp only[rP]at gi;split at gi
 .exact .inl ⟨gi,λh=>absurd h (iX _)⟩
 next hk=>
  have:k=S.aC.length:=by
   rcases nV (k-S.aC.length) with h|h
   .omega
   .rw[kW (by simp;omega)]at gi;cases gi
  subst this;simp at gi;subst gi;exact .inr ⟨by rw[hγ];exact ea _ _ _,by rw[hγ];exact(ho g' (ea _ _ _) pG).1,by rw[hγ];exact(ho g' (ea _ _ _) pG).2⟩
def Uj{ob:Obj}(hw:w'.heap=w.heap.push ob):w'.heap[w.heap.size]?=some ob:=by
 rw[hw];simp
variable{o:Oper}{t:TypeId}{sh:Sh}{C:bI}
def anq{i:TypeInfo}{z:Value}{zero:List V}(ho:o.op=.alloc t)(hi:P.info? t=some i)(hz:i.zero=some z)(hc:xE z.cells.toList zero=true)
  (hR:R E g S a w) (hd:∀d,o.dst=some d->d<E.nt) (hrun:VO.run C o.dst S (.yC sh zero)=some S'):cC P E o S S' a w:=by
 simp only[VO.run]at hrun;split at hrun
 next cs hg=>
  cases hrun;obtain⟨e1,e2⟩:=JW hg;obtain⟨hl,hx⟩:=GL (X:=S.cx g w) hc;have hw:(w.alloc (.cells z.cells t)).heap=w.heap.push (.cells z.cells t (0,0)):=rfl;obtain⟨g',kJ,hγ⟩:=hR.ab3 (w':=w.alloc (.cells z.cells t)) (o:=.cells cs) hw rfl rfl rfl (λg' hm le=>by
   refine⟨⟨hm,z.cells,t,Uj hw,by simp at hl;omega,λj u y hu hy=>?_⟩,λj n es y hu hy=>?_⟩
   .obtain⟨u0,s,uC,sW⟩:=C8 hg _ u hu
    obtain⟨_,_,nW⟩:=hx j u0 y uC (by simpa using hy)
    obtain⟨q1,q2,q3,_⟩:=GX sW nW;exact⟨q1,q2,q3.mono le (λd=>.inr (q2 d))⟩
   .rw[mn (Uj hw)]at hy
    obtain⟨u0,s,uC,sW⟩:=C8 hg _ _ hu;obtain⟨_,_,nW⟩:=hx j u0 y uC (by simpa using hy)
    obtain⟨_,_,_,_,q5⟩:=GX sW nW;obtain⟨rfl,hz⟩:=q5 n es rfl;exact SE hz)
  refine cC.value (x:=.pointer (some ⟨w.heap.size,0,none⟩)) (w':=w.alloc (.cells z.cells t)) (g':=g') ?_ (kJ.put hd ?_)
  .simp[execOp,ho,Instr.alloc,zeroValue,typeInfo,hi,hz,newVar,newRow]
  .rw[<-hγ];exact .bu _ 0 (by simp[St.cx])
 .cases hrun
def anr(ho:o.op=.makeMap t none)
  (hR:R E g S a w) (hd:∀d,o.dst=some d->d<E.nt) (hrun:VO.run C o.dst S .yD=some S'):cC P E o S S' a w:=by
 simp only[VO.run]at hrun;cases hrun;have hw:(w.alloc (.map #[] 0)).heap=w.heap.push (.map #[] 0):=rfl;obtain⟨g',kJ,hγ⟩:=hR.ab3 (w':=w.alloc (.map #[] 0)) (o:=.map []) hw rfl rfl rfl (λg' hm le=>⟨⟨hm,#[],0,Uj hw,rfl,λj u y hu _=>by simp at hu⟩,trivial⟩)
 refine cC.value (x:=.map (some w.heap.size)) (w':=w.alloc (.map #[] 0)) (g':=g') ?_ (kJ.put hd ?_)
 .simp[execOp,ho,Instr.makeMap,newObj]
  rfl
 .rw[<-hγ];exact .map _ (by simp[St.cx])
structure Au(P:Program)(t:TypeId)(ag:Bool)(ks:List Nat):Prop where
 s9:s9 P 100 t=some ks
 agg:mO P t=some ag
 size:fD P t=some ks.length
variable{k:Nat}
def Au.one(h:Au P t false [k]):(k=0/\∃q,P.underlying t=some (.int q))\/(k=1/\P.underlying t=some .bool)\/(k=2/\P.underlying t=some .string):=by
 have h1:=h.s9;have h2:=h.agg;rw[show(100:Nat)=99+1 from rfl,Go.Vm.s9]at h1;unfold mO at h2;split at h1
 next q hu=>cases hc:fD P t==some 1<;>simp[hc]at h1;exact .inl ⟨h1.symm,q,hu⟩
 next hu=>cases hc:fD P t==some 1<;>simp[hc]at h1;exact .inr (.inl ⟨h1.symm,hu⟩)
 next hu=>cases hc:fD P t==some 1<;>simp[hc]at h1;exact .inr (.inr ⟨h1.symm,hu⟩)
 next fs hu=>simp[hu]at h2
 next n e hu=>simp[hu]at h2
 .cases h1
variable{X:Cx}{u v:V}{x y:Value}
def ab4(hx:bh X u x)(hy:bh X v y)(h:kc k u v=some true):x=y:=by
 unfold kc at h;split at h
 next q1 c q2 d=>
  cases hk:decide (q1=q2) with
  |false=>simp[hk]at h
  |true =>
   have:=Jv hk;subst this;simp at h;subst h;rw[hx.E4,hy.E4]
 next c d=>
  simp at h;subst h;rw[hx.E5,hy.E5]
 .simp at h
  subst h;obtain⟨p,rfl,e1⟩:=hx.DC;obtain⟨q,rfl,e2⟩:=hy.DC;have:p.data.toList=q.data.toList:=e1.trans e2.symm;obtain⟨⟨p⟩⟩:=p;obtain⟨⟨q⟩⟩:=q;simp at this;rw[this]
 .cases h
def ab5{X:Cx}:∀{ks:List Nat} {cs ds:List V} {xs ys:List Value},eD ks cs ds=some true->cs.length=ks.length->ds.length=ks.length->xs.length=ks.length->ys.length=ks.length ->
  (∀(j:Nat) (v:V) (y:Value),cs[j]?=some v->xs[j]?=some y->bh X v y)->(∀(j:Nat) (v:V) (y:Value),ds[j]?=some v->ys[j]?=some y->bh X v y)->xs=ys
 |[],cs,ds,xs,ys,_,_,_,h1,h2,_,_=>by
  exact(pz.1 h1).trans (pz.1 h2).symm
 |k::ks,[],_,_,_,_,h,_,_,_,_,_=>by simp at h
 |k::ks,_::_,[],_,_,_,_,h,_,_,_,_=>by simp at h
 |k::ks,_::_,_::_,[],_,_,_,_,h,_,_,_=>by simp at h
 |k::ks,_::_,_::_,_::_,[],_,_,_,_,h,_,_=>by simp at h
 |k::ks,c::cs,d::ds,x::xs,y::ys,h,h1,h2,h3,h4,r1,r2=>by
  simp only[eD]at h;split at h
  next p q hp hq=>
   simp only[Option.some.injEq,bZ]at h;obtain⟨rfl,rfl⟩:=h;have e1:x=y:=ab4 (r1 0 c x rfl rfl) (r2 0 d y rfl rfl) hp;have e2:xs=ys:=ab5 hq (by simpa using h1) (by simpa using h2) (by simpa using h3) (by simpa using h4)
    (λj v y a b=>r1 (j+1) v y (by simpa using a) (by simpa using b)) (λj v y a b=>r2 (j+1) v y (by simpa using a) (by simpa using b))
   rw[e1,e2]
  .cases h
variable{ag b:Bool}{ks:List Nat}
def Uk(hk:Au P t ag ks)(hx:bh X u x)(hy:bh X v y)(h:V.oW ag ks u v=some b) :
  (Op.equal t x y).run P w=.ok b w/\(b=true->x=y):=by
 unfold V.oW at h;split at h
 .split at h
  next cs ds=>
   cases hl:(cs.length==ks.length&&ds.length==ks.length) with
   |false=>simp[hl]at h
   |true =>
    simp only[hl,bW]at h;simp only[bZ,ec]at hl;obtain⟨xs,e1,l1,r1⟩:=tI hx;obtain⟨ys,e2,l2,r2⟩:=tI hy;obtain⟨u,v,q1,q2,q3⟩:=Uh 100 t ks hk.s9 w X 9900 cs ds xs ys 0 b ⟨l1,r1⟩ ⟨l2,r2⟩ (by simpa using h)
    rw[HD hk.agg hk.size]at q1 q2;cases q1;cases q2;have ex:xs.extract 0 (0+ks.length)=xs:=by simp[<-hl.1,l1]
    have ey:ys.extract 0 (0+ks.length)=ys:=by simp[<-hl.2,l2]
    rw[ex,ey]at q3;rw[e1,e2];refine⟨q3,λhb=>?_⟩;subst hb;congr 1;apply oU;exact ab5 h hl.1 hl.2 (by simp;omega) (by simp;omega) (λj v y a b=>r1 j v y a (by simpa using b)) (λj v y a b=>r2 j v y a (by simpa using b))
  .cases h
 .split at h
  next k=>
   refine⟨?_,λhb=>?_⟩
   .show(Op.equalIn (9999+1) t x y).run P w=_
    exact ab0 hk.one hx hy h
   .subst hb;exact ab4 hx hy h
  .cases h
def ab6(hx:bh X u x)(h:kc k u v=some b)(n:Nat):Instr.sameBits n x x=true:=by
 unfold kc at h;split at h
 .rw[hx.E4];simp[Instr.sameBits]
 .rw[hx.E5];simp[Instr.sameBits]
 .obtain⟨p,rfl,_⟩:=hx.DC;simp only[Instr.sameBits];exact(Go.MapKept.bytes_beq p p).2 rfl
 .cases h
def ab7{X:Cx}(n:Nat):∀{ks:List Nat} {cs ds:List V} {xs:List Value} {b:Bool},eD ks cs ds=some b->xs.length=ks.length ->
  (∀(j:Nat) (v:V) (y:Value),cs[j]?=some v->xs[j]?=some y->bh X v y)->((xs.zip xs).all fun(x,y)=>Instr.sameBits n x y)=true
 |[],_,_,xs,_,_,h1,_=>by rw[pz.1 h1];rfl
 |k::ks,[],_,_,_,h,_,_=>by simp[eD]at h
 |k::ks,_::_,[],_,_,h,_,_=>by simp[eD]at h
 |k::ks,_::_,_::_,[],_,_,h,_=>by simp at h
 |k::ks,c::cs,d::ds,x::xs,b,h,h1,r=>by
  simp only[eD]at h;split at h
  next p q hp hq=>
   simp only[List.zip_cons_cons,Jf,bZ];exact⟨ab6 (r 0 c x rfl rfl) hp n,ab7 n hq (by simpa using h1) (λj v y a b=>r (j+1) v y (by simpa using a) (by simpa using b))⟩
  .cases h
def apC(hx:bh X u x)(h:V.oW ag ks u u=some b):(Instr.keyThatStays x x).run P w=.ok x w:=by
 have hs:Instr.sameBits 10000 x x=true:=by
  unfold V.oW at h;split at h
  .split at h
   next ds=>
    cases hl:(ds.length==ks.length) with
    |false=>simp[hl]at h
    |true =>
     simp only[hl,Ee,bW]at h;simp only[ec]at hl;obtain⟨xs,rfl,l1,r1⟩:=tI hx;have:=ab7 9999 (xs:=xs.toList) h (by simp;omega) (λj v y a b=>r1 j v y a (by simpa using b))
     simp only[Instr.sameBits,beq_self_eq_true,Bool.true_and];exact this
   .cases h
  .split at h
   .exact ab6 hx h _
   .cases h
 simp[Instr.keyThatStays,hs]
def ab8(P:Program)(em:Bool)(m:Nat)(t:TypeId)(ks:List Nat):Prop :=
 ∀(w:World) (X:Cx) (d:Nat) (cs:List V) (xs:Array Value) (o:Nat) (b:Bool),qV X cs xs->eD ks (cs.drop o) (cs.drop o)=some b ->
  ∃x,(part t xs o).run P w=.ok x w/\(Instr.checkKey em (m+d) t x).run P w=.ok () w
def ab9{rec:TypeId->Option (List Nat)}{em:Bool}{m:Nat}(ih:∀t ks,rec t=some ks->ab8 P em m t ks)(w:World)(X:Cx)(d:Nat)(cs:List V)(xs:Array Value)
  (hx:qV X cs xs):∀(fs:List Field) (off:Nat) (ks:List Nat) (b:Bool),E3 rec off fs=some ks->eD ks (cs.drop off) (cs.drop off)=some b ->
  ((forIn fs PUnit.unit λf _=>do
    if f.name≠ "_" then Instr.checkKey em (m+d) f.type (<-part f.type xs f.offset)
    pure (ForInStep.yield PUnit.unit):Sem PUnit)).run P w=.ok PUnit.unit w
 |[],off,ks,b,h,he=>by simp
 |f::fs,off,ks,b,h,he=>by
  simp only[E3]at h;cases hc:((f.name != "_")&&f.offset==off) with
  |false=>simp[hc]at h
  |true =>
   simp only[hc,bW]at h;simp only[bZ,bne_iff_ne,ne_eq,ec]at hc;split at h
   next k1 h1=>
    split at h
    next r h2=>
     simp only[Option.some.injEq]at h;subst h;obtain⟨b1,b2,e1,e2,rfl⟩:=KF he;rw[CF]at e2;obtain⟨x,p1,p2⟩:=ih f.type k1 h1 w X d cs xs off b1 hx e1;have xQ:=ab9 ih w X d cs xs hx fs (off+k1.length) r b2 h2 e2;simp only[List.forIn_cons,Sem.run_bind,ne_eq,hc.1,not_false_eq_true,if_true,hc.2,p1,p2,Result.andThen_ok,Sem.run_pure];exact xQ
    .cases h
   .cases h
def aca(em:Bool):∀(m:Nat) (t:TypeId) (ks:List Nat),s9 P m t=some ks->ab8 P em m t ks
 |0,t,ks,h=>by simp[s9]at h
 |m+1,t,ks,h=>by
  intro w X d cs xs o b hx he;have ih:=aca em m;have one:∀k,ks=[k]->mO P t=some false->(∃td,P.underlying t=some td/\((∃q,td=.int q)\/td=.bool\/td=.string)) ->
    ∃x,(part t xs o).run P w=.ok x w/\(Instr.checkKey em (m+1+d) t x).run P w=.ok () w:=by
   intro k hk ha ⟨td,hu,BC⟩;subst hk;cases eR:cs.drop o with
   |nil=>rw[eR]at he;simp[eD]at he
   |cons u us =>
    obtain⟨x,h1,h2⟩:=Ug (w:=w) ha hx (o:=o) (v:=u) (by rw[eR];rfl)
    refine⟨x,h1,?_⟩;rw[show m+1+d=(m+d)+1 from by omega,Instr.checkKey]
    simp only[Sem.run_bind,run_underlying hu,Result.andThen_ok];rcases BC with⟨q,rfl⟩ | rfl|rfl<;>rfl
  have agg:∀n,mO P t=some true->fD P t=some n->n=ks.length->(∀xs,qV X ((cs.drop o).take n) xs ->
    eD ks ((cs.drop o).take n) ((cs.drop o).take n)=some b->(Instr.checkKey em (m+1+d) t (.agg xs)).run P w=.ok () w) ->
    ∃x,(part t xs o).run P w=.ok x w/\(Instr.checkKey em (m+1+d) t x).run P w=.ok () w:=by
   intro n ha hs hn hk;obtain⟨l1,l2⟩:=Uf he;simp only[RV]at l1 l2;refine⟨_,HD ha hs,?_⟩;rcases nV n with h0|h0
   .have e1:qV X ((cs.drop o).take n) (xs.extract o (o+n)):=⟨by subst h0;simp;omega,by subst h0;simp⟩
    exact hk _ e1 (KG (by omega) he)
   .exact hk _ (hx.sub o n (by omega)) (KG (by omega) he)
  simp only[s9]at h;split at h
  next q hu=>
   cases hc:fD P t==some 1<;>simp[hc]at h;exact one 0 h.symm (by simp[mO,hu]) ⟨_,hu,.inl ⟨q,rfl⟩⟩
  next hu=>
   cases hc:fD P t==some 1<;>simp[hc]at h;exact one 1 h.symm (by simp[mO,hu]) ⟨_,hu,.inr (.inl rfl)⟩
  next hu=>
   cases hc:fD P t==some 1<;>simp[hc]at h;exact one 2 h.symm (by simp[mO,hu]) ⟨_,hu,.inr (.inr rfl)⟩
  next fs hu=>
   cases eI:P.stoodInHeld t with
   |true=>simp[eI]at h
   |false =>
    simp only[eI,gL]at h;split at h
    next k1 h1=>
     cases hc:fD P t==some k1.length with
     |false=>simp[hc]at h
     |true =>
      simp only[hc,bW,Option.some.injEq]at h;subst h;refine agg _ (by simp[mO,hu]) (by simpa using hc) rfl λxs r1 he=>?_
      rw[show m+1+d=(m+d)+1 from by omega,Instr.checkKey]
      simp only[Sem.run_bind,run_underlying hu,Result.andThen_ok];rw[<-Array.forIn_toList];have:=ab9 ih w X d _ xs r1 _ 0 k1 b h1 he;simp at this ⊢;rw[this];rfl
    .cases h
  next n e hu=>
   split at h
   next k1 h1=>
    cases hc:((fD P e==some k1.length)&&(fD P t==some (n*k1.length))) with
    |false=>simp[hc]at h
    |true =>
     simp only[hc,bW,Option.some.injEq]at h;simp only[bZ,ec]at hc;subst h;refine agg _ (by simp[mO,hu]) hc.2 (abY _ _).symm λxs r1 he=>?_
     have eF:=hc.1;have Ul:=eF;simp only[fD,GG]at Ul;obtain⟨i,hi,Ul⟩:=Ul;rw[show m+1+d=(m+d)+1 from by omega,Instr.checkKey]
     simp only[Sem.run_bind,run_underlying hu,Result.andThen_ok];simp only[Std.Legacy.Range.forIn_eq_forIn_range',Std.Legacy.Range.size,Ab,Nat.add_one_sub_one,Nat.div_one]
     suffices hgo:∀(n i:Nat) (b:Bool),eD (xY n k1) (((cs.drop o).take (xY n k1).length).drop 0) []=none\/True->True by
      have apD:∀(n i:Nat) (b:Bool) (c:List V),qV X c xs->eD (xY n k1) (c.drop (i*k1.length)) (c.drop (i*k1.length))=some b ->
        ((forIn (List.range' i n) PUnit.unit λj _=>do
          let z <- sizeOf e
          Instr.checkKey em (m+d) e (<-part e xs (j*z))
          pure (ForInStep.yield PUnit.unit):Sem PUnit)).run P w=.ok PUnit.unit w:=by
       intro n;induction n with
       |zero=>intro i b c _ _;simp
       |succ n ihn =>
        intro i b c hc he;simp only[xY]at he;obtain⟨b1,b2,e1,e2,rfl⟩:=KF he;rw[CF,show i*k1.length+k1.length=(i+1)*k1.length from by rw[rY]]at e2
        obtain⟨x,p1,p2⟩:=ih e k1 h1 w X d c xs _ b1 hc e1;rw[El];simp only[List.forIn_cons,Sem.run_bind,qL eF,Result.andThen_ok,p1,p2,Sem.run_pure];have:=ihn (i+1) b2 c hc e2;simpa using this
      have:=apD n 0 b _ r1 (by simpa using he)
      simp at this ⊢;rw[this];rfl
     intros;trivial
   .cases h
  .cases h
def acb(hk:Au P t ag ks)(hx:bh X u x)(h:V.oW ag ks u u=some b)(em:Bool) :
  (Instr.checkKey em 10000 t x).run P w=.ok () w:=by
 unfold V.oW at h;split at h
 .split at h
  next ds=>
   cases hl:(ds.length==ks.length) with
   |false=>simp[hl]at h
   |true =>
    simp only[hl,Ee,bW]at h;simp only[ec]at hl;obtain⟨xs,e1,l1,r1⟩:=tI hx;obtain⟨u,q1,q3⟩:=aca em 100 t ks hk.s9 w X 9900 ds xs 0 b ⟨l1,r1⟩ (by simpa using h)
    rw[HD hk.agg hk.size]at q1;cases q1;have ex:xs.extract 0 (0+ks.length)=xs:=by simp[<-hl,l1]
    rw[ex]at q3;rw[e1];exact q3
  .cases h
 .split at h
  .show(Instr.checkKey em (9999+1) t x).run P w=_
   rw[Instr.checkKey];rcases hk.one with⟨_,q,hu⟩ | ⟨_,hu⟩ | ⟨_,hu⟩<;>simp only[Sem.run_bind,run_underlying hu,Result.andThen_ok]<;>rfl
  .cases h
def zl(X:Cx)(es:List (V×V))(l:List MapEntry):Prop :=
 es.length=l.length/\∀(j:Nat) (p:V×V) (y:MapEntry),es[j]?=some p->l[j]?=some y->bh X p.1 y.key
variable{p:V×V}{es:List (V×V)}{l:List MapEntry}
def zl.tail{y:MapEntry}(h:zl X (p::es) (y::l)):zl X es l :=
 ⟨by simpa using h.1,λj p y a b=>h.2 (j+1) p y (by simpa using a) (by simpa using b)⟩
def Found(k:V)(kx:Value)(es:List (V×V))(l:List MapEntry)(i:Nat):Option (Nat×V)->Option (Nat×Value)->Prop
 |none,r=>r=none
 |some (j,v),r=>i<=j/\∃q e,es[j-i]?=some (q,v)/\l[j-i]?=some e/\e.key=kx/\r=some (j,e.val)
variable{kx:Value}{i:Nat}{r:Option (Nat×V)}
def Found.up{k:V}{y:MapEntry}{z:Option (Nat×Value)}(h:Found k kx es l (i+1) r z) :
  Found k kx (p::es) (y::l) i r z:=by
 cases r with
 |none=>exact h
 |some jv =>
  obtain⟨j,v⟩:=jv;obtain⟨h1,q,e,h2,h3,h4,h5⟩:=h;refine⟨by omega,q,e,?_,?_,h4,h5⟩
  .rw[show j-i=(j-(i+1))+1 from by omega];simpa using h2
  .rw[show j-i=(j-(i+1))+1 from by omega];simpa using h3
def acd{t:TypeId}{ag:Bool}{ks:List Nat}(hk:Au P t ag ks){X:Cx}{k:V}{kx:Value}(hx:bh X k kx):∀(es:List (V×V)) (l:List MapEntry) (i:Nat) (r:Option (Nat×V)),zl X es l ->
  oX ag ks k es i=some r->∃z,(Instr.findAsking t kx l i).run P w=.ok z w/\Found k kx es l i r z
 |[],[],i,r,_,h=>by simp[oX]at h;subst h;exact⟨none,by simp[Instr.findAsking],rfl⟩
 |[],_::_,_,_,hr,_=>by simp[zl]at hr
 |_::_,[],_,_,hr,_=>by simp[zl]at hr
 |(q,v)::es,y::l,i,r,hr,h=>by
  simp only[oX]at h;have h0:=hr.2 0 (q,v) y rfl rfl;split at h
  next hq=>
   cases h;obtain⟨q1,q2⟩:=Uk (w:=w) hk hx h0 hq;exact⟨some (i,y.val),by simp[Instr.findAsking,q1],b8 _,q,y,by simp,by simp,(q2 rfl).symm,rfl⟩
  next hq=>
   obtain⟨q1,_⟩:=Uk (w:=w) hk hx h0 hq;obtain⟨z,h1,h2⟩:=acd hk hx es l (i+1) r hr.tail h;exact⟨z,by simp[Instr.findAsking,q1,h1],h2.up⟩
  .cases h
def ace{t:TypeId}{k0:Nat}{td:TypeDesc}(hk:Au P t false [k0])(BC:P.underlying t=some td){X:Cx}{k:V}{kx:Value}(hx:bh X k kx):∀(es:List (V×V)) (l:List MapEntry) (i:Nat) (r:Option (Nat×V)),zl X es l ->
  oX false [k0] k es i=some r->∃z,Instr.findNow td kx l i=some z/\Found k kx es l i r z
 |[],[],i,r,_,h=>by simp[oX]at h;subst h;exact⟨none,by simp[Instr.findNow],rfl⟩
 |[],_::_,_,_,hr,_=>by simp[zl]at hr
 |_::_,[],_,_,hr,_=>by simp[zl]at hr
 |(q,v)::es,y::l,i,r,hr,h=>by
  simp only[oX]at h;have h0:=hr.2 0 (q,v) y rfl rfl;have acf:∀b,V.oW false [k0] k q=some b->Instr.sameNow td kx y.key=some b/\(b=true->kx=y.key):=λb hb=>by
   refine⟨?_,(Uk (w:=default) hk hx h0 hb).2⟩;simp only[V.oW]at hb;unfold kc at hb;split at hb
   next q1 c q2 d=>
    rcases hk.one with⟨_,q',hu⟩ | ⟨h',_⟩ | ⟨h',_⟩<;>first|omega|skip
    rw[BC]at hu;cases hu;cases sR:decide (q1=q2) with
    |false=>simp[sR]at hb
    |true =>
     have:=Jv sR;subst this;simp at hb;rw[hx.E4,bh.E4 h0];simp[Instr.sameNow,hb]
   .rcases hk.one with⟨h',_⟩ | ⟨_,hu⟩ | ⟨h',_⟩<;>first|omega|skip
    rw[BC]at hu;cases hu;rw[hx.E5,bh.E5 h0];simpa [Instr.sameNow] using hb
   .rcases hk.one with⟨h',_⟩ | ⟨h',_⟩ | ⟨_,hu⟩<;>first|omega|skip
    rw[BC]at hu;cases hu;obtain⟨c,rfl,rfl⟩:=hx.DC;obtain⟨d,hd,fu⟩:=bh.DC h0;subst fu;rw[hd];simp only[Instr.sameNow,Option.some.injEq];rw[beq_toListBytes,abZ];simpa using hb
   .cases hb
  split at h
  next hq=>
   cases h;obtain⟨q1,q2⟩:=acf _ hq;exact⟨some (i,y.val),by simp[Instr.findNow,q1],b8 _,q,y,by simp,by simp,(q2 rfl).symm,rfl⟩
  next hq=>
   obtain⟨q1,_⟩:=acf _ hq;obtain⟨z,h1,h2⟩:=ace hk BC hx es l (i+1) r hr.tail h;exact⟨z,by simp[Instr.findNow,q1,h1],h2.up⟩
  .cases h
def OL(hk:Au P t ag ks){k:V}(hx:bh X k kx)(sR:V.oW ag ks k k=some b)(hr:zl X es l)
  (h:oX ag ks k es 0=some r):∃z,(Instr.findKey t kx l).run P w=.ok z w/\Found k kx es l 0 r z:=by
 cases ag with
 |true =>
  have ha:=hk.agg;unfold mO at ha;rw[run_findKey_eq w (by split at ha<;>simp_all) kx l]
  exact acd hk hx es l 0 r hr h
 |false =>
  have:∃k0,ks=[k0]:=by
   simp only[V.oW]at sR;split at sR
   .exact⟨_,rfl⟩
   .cases sR
  obtain⟨k0,rfl⟩:=this;have:∃td,P.underlying t=some td:=by
   rcases hk.one with⟨_,q,hu⟩ | ⟨_,hu⟩ | ⟨_,hu⟩<;>exact⟨_,hu⟩
  obtain⟨td,BC⟩:=this;obtain⟨z,h1,h2⟩:=ace hk BC hx es l 0 r hr h;exact⟨z,by simp[Instr.findKey,run_underlying BC,h1],h2⟩
def acg(h:bh X (.map i) x):x=.map (some (X.g.γ i))/\i<X.N:=by
 cases h with
 |plain h _=>cases h
 |map _ h=>exact⟨rfl,h⟩
def bh.down{h:Array Obj}{g:Gh}{N:Nat}{T:List (Nat×Nat)}(hx:bh ⟨h,g,N,[]⟩ v x)(hm:∀d,v.cI d=false):bh ⟨h,g,N,T⟩ v x :=
 bh.mono (X:=⟨h,g,N,[]⟩) (X':=⟨h,g,N,T⟩) ⟨b8 _,λ_ _ _ _ h=>h,λ_ _=>b8 _,b8 _,λ_ _=>rfl⟩ hx λd=>.inr (hm d)
def apH(h:V.oW ag ks u u=some b)(d:Nat):u.cI d=false:=by
 have cell:∀{k:Nat} {u v:V} {b:Bool},kc k u v=some b->u.cQ d=false/\u.cI d=false:=λ{k u v b} h=>by
  unfold kc at h;split at h<;>first|exact⟨rfl,rfl⟩ | cases h
 unfold V.oW at h;split at h
 .split at h
  next ds=>
   cases hl:(ds.length==ks.length) with
   |false=>simp[hl]at h
   |true =>
    simp only[hl,Ee,bW]at h;simp only[ec]at hl;simp only[V.cI,V.dW,py];intro v hv;obtain⟨j,hj⟩:=lN.1 hv;have go:∀(ks:List Nat) (cs:List V) (b:Bool) (j:Nat),cs.length=ks.length->eD ks cs cs=some b->cs[j]?=some v->v.cQ d=false:=by
     intro ks;induction ks with
     |nil=>intro cs b j h1 _ h3;rw[pz.1 h1]at h3;simp at h3
     |cons k ks ih =>
      intro cs b j h1 h2 h3;cases cs with
      |nil=>simp at h1
      |cons c cs =>
       simp only[eD]at h2;split at h2
       next p q hp hq=>
        cases j with
        |zero=>simp at h3;subst h3;exact(cell hp).1
        |succ j=>exact ih cs q j (by simpa using h1) hq (by simpa using h3)
       .cases h2
    simp[go ks ds b j hl h hj]
  .cases h
 .split at h
  .exact(cell h).2
  .cases h
def NQ(hR:R E g S a w)(h:S.aC[i]?=some (.map es)):g.ow (g.γ i)=.aC i/\g.m (g.γ i)=0/\∃c k,w.heap[g.γ i]?=some (.map c k)/\es.length=c.size /\
  zl (S.cx g w) es c.toList/\∀(j:Nat) (p:V×V) (y:MapEntry),es[j]?=some p->c[j]?=some y->(∀d,p.1.cI d=false)/\(∀d,p.2.dW d=false)/\bh ⟨w.heap,g,S.aC.length,[]⟩ p.1 y.key/\bh ⟨w.heap,g,S.aC.length,[]⟩ p.2 y.val:=by
 obtain⟨cJ,hm,c,k,hh,hl,hj⟩:=(hR.aC.obj i _ h).resolve_left (λe=>by cases e)
 refine⟨cJ,hm,c,k,hh,hl,⟨by simpa using hl,λj p y a b=>?_⟩,hj⟩
 obtain⟨q1,_,q3,_⟩:=hj j p y a (by simpa using b)
 exact q3.down q1
def SY(P:Program)(t:TypeId)(zero:V):Bool :=
 match (P.info? t).bind (·.zero) with
 |some z=>Nu z zero
 |none=>false
variable{kt et:TypeId}{q:Operand}
def ant{ok:Bool}{zero:V}{p:Operand}{x k:bG}(ho:o.op=.lookup t p q ok)(ht:P.underlying t=some (.map kt et))(hk:Au P kt ag ks)(hz:SY P et zero=true)
  (hp:cc p x=true) (hq:cc q k=true) (hR:R E g S a w) (hd:∀d,o.dst=some d->d<E.nt) (hrun:VO.run C o.dst S (.Ac ag ks zero ok x k)=some S'):cC P E o S S' a w:=by
 simp only[VO.run]at hrun;split at hrun
 next i kv hx uA=>
  split at hrun
  next es b nY hb=>
   obtain⟨ex,hi⟩:=acg (di hR hp hx);have BD:=di hR hq uA;obtain⟨cJ,hm,c,ck,hh,hl,KH,hj⟩:=NQ hR nY;have KI:=acb (w:=w) hk BD hb c.isEmpty;have sX:=MapKept.run_getObj_map (P:=P) hh;have KJ:(getObj ((S.cx g w).g.γ i)).run P w=.ok (.map c ck) w:=sX;split at hrun
   next j v hf=>
    cases hrun;obtain⟨z,BE,_,q,e,Um,Uo,hq3,rfl⟩:=OL (w:=w) hk BD hb KH hf;have hjj:=hj j (q,v) e (by simpa using Um) (by simpa using Uo)
    have hv:bh (S.cx g w) v e.val:=hjj.2.2.2.down λd=>yP (hjj.2.1 d);refine cC.put hR hd (x:=if ok then .tuple #[e.val,.bool true] else e.val) ?_ ?_
    .simp only[execOp,ho,ex]
     simp[Instr.lookup,kg ht,KJ,KI,BE]
    .cases ok
     .exact hv
     .refine .tuple _ _ (by simp) λm u y hu hy=>?_
      match m with
      |0=>simp at hu hy;subst hu;subst hy;exact hv
      |1=>simp at hu hy;subst hu;subst hy;exact bh.bool _
      |m+2=>simp at hu
   next hf=>
    cases hrun;obtain⟨z,BE,rfl⟩:=OL (w:=w) hk BD hb KH hf;unfold SY at hz;split at hz
    next zv Up=>
     cases ny:P.info? et with
     |none=>simp[ny]at Up
     |some inf =>
      simp only[ny,Ju]at Up;have hv:bh (S.cx g w) zero zv:=ZL hz;refine cC.put hR hd (x:=if ok then .tuple #[zv,.bool false] else zv) ?_ ?_
      .simp only[execOp,ho,ex]
       simp[Instr.lookup,kg ht,KJ,KI,BE,zeroValue,typeInfo,ny,Up]
      .cases ok
       .exact hv
       .refine .tuple _ _ (by simp) λm u y hu hy=>?_
        match m with
        |0=>simp at hu hy;subst hu;subst hy;exact hv
        |1=>simp at hu hy;subst hu;subst hy;exact bh.bool _
        |m+2=>simp at hu
    .cases hz
   .cases hrun
  .cases hrun
 .cases hrun
def apI{b:Nat}{o':Obj}(hm:g.m b=0)(Bk:E.w0.heap.size<=b\/∃i,i<E.N0/\E.g0.ow b=.aC i)(JU:∀p q,g.ow b≠.cell p q)(hR:R E g S a w) :
  Touch E g S w g S.bo S.aC.length { w with heap:=w.heap.setIfInBounds b o' } b none none where
 os:=rfl
 tape:=rfl
 output:=rfl
 size:=by simp
 heap:=λi hi _=>by simp[Ne.symm hi]
 m:=λ_ _=>rfl
 ow:=λ_ _=>rfl
 κ:=λ_ _=>rfl
 cp:=λ_ _=>rfl
 τ:=λ_ _=>rfl
 T:=λ_ _=>rfl
 γ:=λ_ _=>rfl
 eZ:=b8 _
 γnew:=λi a b=>absurd a (by omega)
 fresh:=Bk.imp (λz=>z) .inl
 jw:=λp q _ e=>absurd e (JU p q)
 lv:=λi e=>hR.GK e (b8 _)
 mM:=λo y ho _=>absurd ho (by omega)
 sO:=λ_=>b8 _
def R.acj(hR:R E g S a w){sf:List (V×V)}(nY:S.aC[i]?=some (.map es)){c':Array MapEntry}{BF:Nat}(hl:sf.length=c'.size)
  (hj:∀(j:Nat) (p:V×V) (y:MapEntry),sf[j]?=some p->c'[j]?=some y->(∀d,p.1.cI d=false)/\(∀d,p.2.dW d=false)/\bh ⟨w.heap,g,S.aC.length,[]⟩ p.1 y.key/\bh ⟨w.heap,g,S.aC.length,[]⟩ p.2 y.val) :
  R E g { S with aC:=S.aC.set i (.map sf) } a { w with heap:=w.heap.setIfInBounds (g.γ i) (.map c' BF) }:=by
 obtain⟨cJ,hm,c,ck,hh,_,_,_⟩:=NQ hR nY;have hi:=fg nY;have Bk:=hR.JX cJ;have hb:g.γ i<w.heap.size:=by
  rcases cS (g.γ i) w.heap.size with h|h
  .exact h
  .simp[ou h]at hh
 have mq:({ w with heap:=w.heap.setIfInBounds (g.γ i) (.map c' BF) }:World).heap[g.γ i]?=some (.map c' BF):=by simp[hb]
 have tt:=apI (S:=S) (w:=w) (o':=.map c' BF) hm Bk (λ_ _ e=>by rw[cJ]at e;cases e) hR
 have hk:∀k,ke (S.cx g w) ⟨w.heap.setIfInBounds (g.γ i) (.map c' BF),g,S.aC.length,S.bo⟩ k:=λk=>tt.keeps hR (λe=>by cases e) (λe=>by cases e) (λ_ e=>by rw[cJ]at e;cases e)
 have pG:Le ⟨w.heap,g,S.aC.length,[]⟩ ⟨w.heap.setIfInBounds (g.γ i) (.map c' BF),g,S.aC.length,[]⟩:=⟨tt.le.size,tt.le.cells,tt.le.m,tt.le.eZ,tt.le.γ⟩;refine R.qk tt hR rfl (by simp) (λi=>.inl (hk i)) (λs v hs=>.inl hs) (λid ei hi=>.inl ⟨hi,(λe=>by cases e),λ_ e=>by rw[cJ]at e;cases e⟩)
  (λf k b hf hb=>.inl ⟨(λe=>by cases e),λ_ e=>by rw[cJ]at e;cases e⟩) (λk o gi=>?_)
 simp only[lM]at gi;split at gi
 next lz=>
  subst lz
  first|(rw[aJ hi]at gi;cases gi)|cases gi
  refine .inr ⟨cJ,⟨hm,c',BF,mq,hl,λj p y hp hy=>?_⟩,trivial⟩;obtain⟨q1,q2,q3,q4⟩:=hj j p y hp hy;exact⟨q1,q2,q3.mono pG λd=>.inr (q1 d),q4.mono pG λd=>.inr (yP (q2 d))⟩
 next lz=>
  exact .inl ⟨gi,λ_=>⟨λe=>(by rw[cJ]at e;cases e;exact lz rfl),λ_ e=>(by rw[cJ]at e;cases e)⟩⟩
def apJ(h:CR sh v=some u)(hr:bh X v y)(d:Nat):u.dW d=false:=by
 unfold CR at h;split at h
 .split at h
  next cs us hg=>
   cases h;obtain⟨xs,e,hl,hx⟩:=tI hr;obtain⟨l1,l2⟩:=SB hg;simp only[V.dW,py];intro u hu;obtain⟨j,hj⟩:=lN.1 hu;obtain⟨v0,s,hv0,sW⟩:=SC hg j u hj;have bJ:=fg hv0;obtain⟨q1,q2,_,_⟩:=GW sW (hx j v0 xs[j] hv0 (by simp[hl]at bJ;simp[bJ]))
   have:=q2 d;cases u<;>simp_all[V.cI,V.dW,V.cQ,V.c5]
  .cases h
 .split at h
  .obtain⟨q1,q2,_,_⟩:=GW h hr
   have:=q2 d;cases u<;>simp_all[V.cI,V.c5]
  .cases h
def anu{p r:Operand}{x k y:bG}(ho:o.op=.mapUpdate t p q r)(yV:o.dst=none)(ht:P.underlying t=some (.map kt et))(hk:Au P kt ag ks)
  (hp:cc p x=true) (hq:cc q k=true) (hr:cc r y=true) (hR:R E g S a w) (hrun:VO.run C o.dst S (.yE ag ks sh x k y)=some S'):cC P E o S S' a w:=by
 simp only[VO.run]at hrun;split at hrun
 next i kv v hx uA hy=>
  split at hrun
  next es b u nY hb hu=>
   obtain⟨ex,hi⟩:=acg (di hR hp hx);have BD:=di hR hq uA;have hyr:=di hR hr hy;have hur:=aah hu hyr;have hum:=apJ hu hyr;have Uq:=apH hb;have wV:bh ⟨w.heap,g,S.aC.length,[]⟩ kv (a.eval q):=bh.mono (X:=S.cx g w) (X':=⟨w.heap,g,S.aC.length,[]⟩) ⟨b8 _,λ_ _ _ _ h=>h,λ_ _=>b8 _,b8 _,λ_ _=>rfl⟩ BD λd=>.inr (Uq d);obtain⟨cJ,hm,c,ck,hh,hl,KH,hj⟩:=NQ hR nY;have KI:=acb (w:=w) hk BD hb false;have sX:=MapKept.run_getObj_map (P:=P) hh;have KJ:(getObj ((S.cx g w).g.γ i)).run P w=.ok (.map c ck) w:=sX;split at hrun
   next j v hf=>
    cases hrun;obtain⟨z,BE,_,q0,e,Um,Uo,hq3,rfl⟩:=OL (w:=w) hk BD hb KH hf;have apK:=apC (P:=P) (w:=w) BD hb
    let c':=c.modify j λe=>{ e with key:=a.eval q,val:=a.eval r }
    have kJ:=hR.acj (c':=c') (BF:=ck) (sf:=es.set j (kv,u)) nY (by simp[c',hl]) (λn p y hn hy=>by
     simp only[lM]at hn;split at hn
     next BG=>
      subst BG;split at hn
      .cases hn
       have tL:j<c.size:=by omega
       simp only[c',Gj,if_true]at hy;simp[tL]at hy;subst hy;exact⟨Uq,hum,wV,hur⟩
      .cases hn
     next BG=>
      simp only[c',Gj]at hy;rw[ax BG]at hy;exact hj n p y hn hy)
    refine cC.skip (g':=g) ?_ yV kJ;have Aw:=MapKept.run_setObj_map (P:=P) (.map c' ck) hh;have Ur:(setObj ((S.cx g w).g.γ i) (.map c' ck)).run P w=.ok () { w with heap:=w.heap.setIfInBounds (g.γ i) (.map c' ck) }:=Aw;have he:((c[j]?).map (·.key)).getD (a.eval q)=a.eval q:=by
     have:c[j]?=some e:=by simpa using Uo
     rw[this];exact hq3
    simp only[execOp,ho,ex];simp[Instr.mapUpdate,kg ht,KJ,KI,BE,he,apK,c',Ur]
   next hf=>
    cases hrun;obtain⟨z,BE,rfl⟩:=OL (w:=w) hk BD hb KH hf
    let c':=c.push { key:=a.eval q,val:=a.eval r,born:=ck }
    have kJ:=hR.acj (c':=c') (BF:=ck+1) (sf:=es++[(kv,u)]) nY (by simp[c',hl]) (λn p y hn hy=>by
     simp only[c',Zc]at hy;by_cases Bt:n=c.size
     .rw[aJ Bt]at hy
      rw[wy (by omega),Bt,hl]at hn
      simp at hn;cases hy;subst hn;exact⟨Uq,hum,wV,hur⟩
     .rw[ax Bt]at hy
      have bJ:=(xn.1 hy).1;rw[nR (by omega)]at hn
      exact hj n p y hn hy)
    refine cC.skip (g':=g) ?_ yV kJ;have Aw:=MapKept.run_setObj_map (P:=P) (.map c' (ck+1)) hh;have Ur:(setObj ((S.cx g w).g.γ i) (.map c' (ck+1))).run P w=.ok () { w with heap:=w.heap.setIfInBounds (g.γ i) (.map c' (ck+1)) }:=Aw;simp only[execOp,ho,ex];simp[Instr.mapUpdate,kg ht,KJ,KI,BE,c',Ur]
   .cases hrun
  .cases hrun
 .cases hrun
end

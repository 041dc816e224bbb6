/- The value machine: blocks that calls share, and maps. -/
import Derived.MapKept
import Derived.WideKeyRuns
import Derived.Test.YtcelmhaoipbdiaaGreatDoorVm9
import Derived.Test.YtcelmhaoipbdiaaGreatDoorVmP
namespace Go.Vm
set_option linter.all false
section
variable {P:Program} {E:Entry} {g g':Gh} {S S':St} {a:Act} {w w':World}
theorem R.VG(hR:R E g S a w){ob:Obj}(hw:w'.heap=w.heap.push ob)(h1:w'.os=w.os)(h2:w'.tape=w.tape)(h3:w'.output=w.output){o:aT}
  (ho:∀g':Gh,g'.m w.heap.size=0→Le ⟨w.heap,g,S.ay.length,[]⟩ ⟨w'.heap,g',S.ay.length+1,[]⟩→Fc w'.heap g' (S.ay.length+1) w.heap.size o∧A8 w'.heap g' w.heap.size o) :
  ∃g',R E g' { S with ay:=S.ay++[o] } a w'∧g'.γ S.ay.length=w.heap.size:=by
 let g':Gh:={ g with m:=cU g.m w.heap.size 0,γ:=cU g.γ S.ay.length w.heap.size,ow:=cU g.ow w.heap.size (.ay S.ay.length) }
 have t':Touch E g S w g' S.bf (S.ay.length+1) w' w.heap.size none none:=Fi hR hw h1 h2 h3 (fun b hb=>fN _ _ hb) (fun b hb=>fN _ _ hb)
  (fun i _=>rfl) (fun i _=>rfl) (fun i _=>rfl) (fun i _=>rfl) (fun i hi=>fN _ _ (by omega)) (by omega) (fun i h1 h2=>by
   have:i=S.ay.length:=by omega
   subst this;show _≤cU g.γ _ _ _;rw[dF];exact hR.same.size) (fun i e=>by
   have e:cU g.ow w.heap.size (.ay S.ay.length) w.heap.size=.ay i:=e;rw[dF]at e;cases e;exact⟨dF _ _ _,E0 _⟩)
 have lb:∀i,iM (S.cx g w) ⟨w'.heap,g',S.ay.length+1,S.bf⟩ i:=fun i=>t'.keeps hR (fun e=>by cases e) (fun e=>by cases e) (fun h=>absurd h (gO _))
 have mX:Le ⟨w.heap,g,S.ay.length,[]⟩ ⟨w'.heap,g',S.ay.length+1,[]⟩:=⟨t'.le.size,t'.le.cells,t'.le.m,t'.le.eD,t'.le.γ⟩;have hγ:g'.γ S.ay.length=w.heap.size:=dF _ _ _;refine⟨g',R.nB t' hR rfl (by simp) (fun i=>.inl (lb i)) (fun s v hs=>.inl hs)
  (fun id dQ hi=>.inl ⟨hi,(fun e=>by cases e),fun h=>absurd h (gO _)⟩) (fun f k b hf hb=>.inl ⟨(fun e=>by cases e),fun h=>absurd h (gO _)⟩) (fun k o' fp=>?_),hγ⟩
 simp only[pj]at fp;split at fp
 ·exact .inl ⟨fp,fun h=>absurd h (gO _)⟩
 ·rename_i hk
  have:k=S.ay.length:=by
   rcases mw (k-S.ay.length) with h|h
   ·omega
   ·rw[kF (by simp;omega)]at fp;cases fp
  subst this;simp at fp;subst fp;exact .inr ⟨by rw[hγ];exact dF _ _ _,by rw[hγ];exact(ho g' (dF _ _ _) mX).1,by rw[hγ];exact(ho g' (dF _ _ _) mX).2⟩
theorem OD{ob:Obj}(hw:w'.heap=w.heap.push ob):w'.heap[w.heap.size]?=some ob:=by
 rw[hw];simp
theorem aez{o:Oper}{t:TypeId}{i:TypeInfo}{z:Value}{sh:Sh}{zero:List V}{C:br}(ho:o.op=.alloc t)(hi:P.info? t=some i)(hz:i.zero=some z)(hc:uc z.cells.toList zero=true)
  (hR:R E g S a w) (hd:∀d,o.dst=some d→d<E.nt) (ah:VO.run C o.dst S (.tQ sh zero)=some S'):cd P E o S S' a w:=by
 simp only[VO.run]at ah;split at ah
 ·rename_i cs hg
  cases ah;obtain⟨e1,e2⟩:=FC hg;obtain⟨hl,hx⟩:=CP (X:=S.cx g w) hc;have hw:(w.alloc (.cells z.cells t)).heap=w.heap.push (.cells z.cells t (0,0)):=rfl;obtain⟨g',jj,hγ⟩:=hR.VG (w':=w.alloc (.cells z.cells t)) (o:=.cells cs) hw rfl rfl rfl (fun g' hm le=>by
   refine⟨⟨hm,z.cells,t,OD hw,by simp at hl;omega,fun j u y hu hy=>?_⟩,fun j n es y hu hy=>?_⟩
   ·obtain⟨u0,s,qQ,pG⟩:=zX hg _ u hu
    obtain⟨_,_,lJ⟩:=hx j u0 y qQ (by simpa using hy)
    obtain⟨q1,q2,q3,_⟩:=CY pG lJ;exact⟨q1,q2,q3.mono le (fun d=>.inr (q2 d))⟩
   ·rw[kr (OD hw)]at hy
    obtain⟨u0,s,qQ,pG⟩:=zX hg _ _ hu;obtain⟨_,_,lJ⟩:=hx j u0 y qQ (by simpa using hy)
    obtain⟨_,_,_,_,q5⟩:=CY pG lJ;obtain⟨rfl,hz⟩:=q5 n es rfl;exact MY hz)
  refine cd.value (x:=.pointer (some ⟨w.heap.size,0,none⟩)) (w':=w.alloc (.cells z.cells t)) (g':=g') ?_ (jj.put hd ?_)
  ·simp[execOp,ho,Instr.alloc,zeroValue,typeInfo,hi,hz,newVar,newRow]
  ·rw[←hγ];exact .bI _ 0 (by simp[St.cx])
 ·cases ah
theorem aeA{o:Oper}{t:TypeId}{C:br}(ho:o.op=.makeMap t none)
  (hR:R E g S a w) (hd:∀d,o.dst=some d→d<E.nt) (ah:VO.run C o.dst S .tR=some S'):cd P E o S S' a w:=by
 simp only[VO.run]at ah;cases ah;have hw:(w.alloc (.map #[] 0)).heap=w.heap.push (.map #[] 0):=rfl;obtain⟨g',jj,hγ⟩:=hR.VG (w':=w.alloc (.map #[] 0)) (o:=.map []) hw rfl rfl rfl (fun g' hm le=>⟨⟨hm,#[],0,OD hw,rfl,fun j u y hu _=>by simp at hu⟩,trivial⟩)
 refine cd.value (x:=.map (some w.heap.size)) (w':=w.alloc (.map #[] 0)) (g':=g') ?_ (jj.put hd ?_)
 ·simp[execOp,ho,Instr.makeMap,newObj]
  rfl
 ·rw[←hγ];exact .map _ (by simp[St.cx])
structure wV(P:Program)(t:TypeId)(ag:Bool)(ks:List Nat):Prop where
 pL:pL P 100 t=some ks
 agg:kJ P t=some ag
 size:eW P t=some ks.length
theorem wV.one{t:TypeId}{k:Nat}(h:wV P t false [k]):(k=0∧∃q,P.underlying t=some (.int q))∨(k=1∧P.underlying t=some .bool)∨(k=2∧P.underlying t=some .string):=by
 have h1:=h.pL;have h2:=h.agg;rw[show(100:Nat)=99+1 from rfl,Go.Vm.pL]at h1;unfold kJ at h2;split at h1
 ·rename_i q hu;cases hc:eW P t==some 1<;>simp[hc]at h1;exact .inl ⟨h1.symm,q,hu⟩
 ·rename_i hu;cases hc:eW P t==some 1<;>simp[hc]at h1;exact .inr (.inl ⟨h1.symm,hu⟩)
 ·rename_i hu;cases hc:eW P t==some 1<;>simp[hc]at h1;exact .inr (.inr ⟨h1.symm,hu⟩)
 ·rename_i fs hu;simp[hu]at h2
 ·rename_i n e hu;simp[hu]at h2
 ·cases h1
theorem VH{X:Cx}{k:Nat}{u v:V}{x y:Value}(hx:aZ X u x)(hy:aZ X v y)(h:jU k u v=some true):x=y:=by
 unfold jU at h;split at h
 ·rename_i q1 c q2 d
  cases hk:decide (q1=q2) with
  |false=>simp[hk]at h
  |true =>
   have:=E7 hk;subst this;simp at h;subst h;rw[hx.BG,hy.BG]
 ·rename_i c d
  simp at h;subst h;rw[hx.BH,hy.BH]
 ·simp at h
  subst h;obtain⟨p,rfl,e1⟩:=hx.Al;obtain⟨q,rfl,e2⟩:=hy.Al;have:p.data.toList=q.data.toList:=e1.trans e2.symm;obtain⟨⟨p⟩⟩:=p;obtain⟨⟨q⟩⟩:=q;simp at this;rw[this]
 ·cases h
theorem VI{X:Cx}:∀{ks:List Nat} {cs ds:List V} {xs ys:List Value},eA ks cs ds=some true→cs.length=ks.length→ds.length=ks.length→xs.length=ks.length→ys.length=ks.length →
  (∀(j:Nat) (v:V) (y:Value),cs[j]?=some v→xs[j]?=some y→aZ X v y)→(∀(j:Nat) (v:V) (y:Value),ds[j]?=some v→ys[j]?=some y→aZ X v y)→xs=ys
 |[],cs,ds,xs,ys,_,_,_,h1,h2,_,_=>by
  exact(bW.1 h1).trans (bW.1 h2).symm
 |k::ks,[],_,_,_,_,h,_,_,_,_,_=>by simp at h
 |k::ks,_::_,[],_,_,_,_,h,_,_,_,_=>by simp at h
 |k::ks,_::_,_::_,[],_,_,_,_,h,_,_,_=>by simp at h
 |k::ks,_::_,_::_,_::_,[],_,_,_,_,h,_,_=>by simp at h
 |k::ks,c::cs,d::ds,x::xs,y::ys,h,h1,h2,h3,h4,r1,r2=>by
  simp only[eA]at h;split at h
  ·rename_i p q hp hq
   simp only[Option.some.injEq,bQ]at h;obtain⟨rfl,rfl⟩:=h;have e1:x=y:=VH (r1 0 c x rfl rfl) (r2 0 d y rfl rfl) hp;have e2:xs=ys:=VI hq (by simpa using h1) (by simpa using h2) (by simpa using h3) (by simpa using h4)
    (fun j v y a b=>r1 (j+1) v y (by simpa using a) (by simpa using b)) (fun j v y a b=>r2 (j+1) v y (by simpa using a) (by simpa using b))
   rw[e1,e2]
  ·cases h
theorem OE{t:TypeId}{ag:Bool}{ks:List Nat}(hk:wV P t ag ks){X:Cx}{u v:V}{x y:Value}(hx:aZ X u x)(hy:aZ X v y){b:Bool}(h:V.mz ag ks u v=some b) :
  (Op.equal t x y).run P w=.ok b w∧(b=true→x=y):=by
 unfold V.mz at h;split at h
 ·split at h
  ·rename_i cs ds
   cases hl:(cs.length==ks.length&&ds.length==ks.length) with
   |false=>simp[hl]at h
   |true =>
    simp only[hl,bC]at h;simp only[bQ,dO]at hl;obtain⟨xs,e1,l1,r1⟩:=qb hx;obtain⟨ys,e2,l2,r2⟩:=qb hy;obtain⟨u,v,q1,q2,q3⟩:=OB 100 t ks hk.pL w X 9900 cs ds xs ys 0 b ⟨l1,r1⟩ ⟨l2,r2⟩ (by simpa using h)
    rw[DF hk.agg hk.size]at q1 q2;cases q1;cases q2;have ex:xs.extract 0 (0+ks.length)=xs:=by simp[←hl.1,l1]
    have ey:ys.extract 0 (0+ks.length)=ys:=by simp[←hl.2,l2]
    rw[ex,ey]at q3;rw[e1,e2];refine⟨q3,fun hb=>?_⟩;subst hb;congr 1;apply mr;exact VI h hl.1 hl.2 (by simp;omega) (by simp;omega) (fun j v y a b=>r1 j v y a (by simpa using b)) (fun j v y a b=>r2 j v y a (by simpa using b))
  ·cases h
 ·split at h
  ·rename_i k
   refine⟨?_,fun hb=>?_⟩
   ·show(Op.equalIn (9999+1) t x y).run P w=_
    exact VD hk.one hx hy h
   ·subst hb;exact VH hx hy h
  ·cases h
theorem VJ{X:Cx}{k:Nat}{u v:V}{x:Value}(hx:aZ X u x){b:Bool}(h:jU k u v=some b)(n:Nat):Instr.sameBits n x x=true:=by
 unfold jU at h;split at h
 ·rw[hx.BG];simp[Instr.sameBits]
 ·rw[hx.BH];simp[Instr.sameBits]
 ·obtain⟨p,rfl,_⟩:=hx.Al;simp only[Instr.sameBits];exact(Go.MapKept.bytes_beq p p).2 rfl
 ·cases h
theorem VK{X:Cx}(n:Nat):∀{ks:List Nat} {cs ds:List V} {xs:List Value} {b:Bool},eA ks cs ds=some b→xs.length=ks.length →
  (∀(j:Nat) (v:V) (y:Value),cs[j]?=some v→xs[j]?=some y→aZ X v y)→((xs.zip xs).all fun(x,y)=>Instr.sameBits n x y)=true
 |[],_,_,xs,_,_,h1,_=>by rw[bW.1 h1];rfl
 |k::ks,[],_,_,_,h,_,_=>by simp[eA]at h
 |k::ks,_::_,[],_,_,h,_,_=>by simp[eA]at h
 |k::ks,_::_,_::_,[],_,_,h,_=>by simp at h
 |k::ks,c::cs,d::ds,x::xs,b,h,h1,r=>by
  simp only[eA]at h;split at h
  ·rename_i p q hp hq
   simp only[List.zip_cons_cons,EK,bQ];exact⟨VJ (r 0 c x rfl rfl) hp n,VK n hq (by simpa using h1) (fun j v y a b=>r (j+1) v y (by simpa using a) (by simpa using b))⟩
  ·cases h
theorem agD{ag:Bool}{ks:List Nat}{X:Cx}{u:V}{x:Value}(hx:aZ X u x){b:Bool}(h:V.mz ag ks u u=some b):(Instr.keyThatStays x x).run P w=.ok x w:=by
 have hs:Instr.sameBits 10000 x x=true:=by
  unfold V.mz at h;split at h
  ·split at h
   ·rename_i ds
    cases hl:(ds.length==ks.length) with
    |false=>simp[hl]at h
    |true =>
     simp only[hl,CE,bC]at h;simp only[dO]at hl;obtain⟨xs,rfl,l1,r1⟩:=qb hx;have:=VK 9999 (xs:=xs.toList) h (by simp;omega) (fun j v y a b=>r1 j v y a (by simpa using b))
     simp only[Instr.sameBits,beq_self_eq_true,Bool.true_and];exact this
   ·cases h
  ·split at h
   ·exact VJ hx h _
   ·cases h
 simp[Instr.keyThatStays,hs]
def VL(P:Program)(em:Bool)(m:Nat)(t:TypeId)(ks:List Nat):Prop :=
 ∀(w:World) (X:Cx) (d:Nat) (cs:List V) (xs:Array Value) (o:Nat) (b:Bool),ou X cs xs→eA ks (cs.drop o) (cs.drop o)=some b →
  ∃x,(part t xs o).run P w=.ok x w∧(Instr.checkKey em (m+d) t x).run P w=.ok () w
theorem VM{rec:TypeId→Option (List Nat)}{em:Bool}{m:Nat}(ih:∀t ks,rec t=some ks→VL P em m t ks)(w:World)(X:Cx)(d:Nat)(cs:List V)(xs:Array Value)
  (hx:ou X cs xs):∀(fs:List Field) (off:Nat) (ks:List Nat) (b:Bool),BF rec off fs=some ks→eA ks (cs.drop off) (cs.drop off)=some b →
  ((forIn fs PUnit.unit fun f _=>do
    if f.name≠ "_" then Instr.checkKey em (m+d) f.type (←part f.type xs f.offset)
    pure (ForInStep.yield PUnit.unit):Sem PUnit)).run P w=.ok PUnit.unit w
 |[],off,ks,b,h,he=>by simp
 |f::fs,off,ks,b,h,he=>by
  simp only[BF]at h;cases hc:((f.name != "_")&&f.offset==off) with
  |false=>simp[hc]at h
  |true =>
   simp only[hc,bC]at h;simp only[bQ,bne_iff_ne,ne_eq,dO]at hc;split at h
   ·rename_i k1 h1
    split at h
    ·rename_i r h2
     simp only[Option.some.injEq]at h;subst h;obtain⟨b1,b2,e1,e2,rfl⟩:=Gx he;rw[xp]at e2;obtain⟨x,p1,p2⟩:=ih f.type k1 h1 w X d cs xs off b1 hx e1;have uo:=VM ih w X d cs xs hx fs (off+k1.length) r b2 h2 e2;simp only[List.forIn_cons,Sem.run_bind,ne_eq,hc.1,not_false_eq_true,if_true,hc.2,p1,p2,Result.andThen_ok,Sem.run_pure];exact uo
    ·cases h
   ·cases h
theorem VN(em:Bool):∀(m:Nat) (t:TypeId) (ks:List Nat),pL P m t=some ks→VL P em m t ks
 |0,t,ks,h=>by simp[pL]at h
 |m+1,t,ks,h=>by
  intro w X d cs xs o b hx he;have ih:=VN em m;have one:∀k,ks=[k]→kJ P t=some false→(∃td,P.underlying t=some td∧((∃q,td=.int q)∨td=.bool∨td=.string)) →
    ∃x,(part t xs o).run P w=.ok x w∧(Instr.checkKey em (m+1+d) t x).run P w=.ok () w:=by
   intro k hk ha ⟨td,hu,yn⟩;subst hk;cases eB:cs.drop o with
   |nil=>rw[eB]at he;simp[eA]at he
   |cons u us =>
    obtain⟨x,h1,h2⟩:=OA (w:=w) ha hx (o:=o) (v:=u) (by rw[eB];rfl)
    refine⟨x,h1,?_⟩;rw[show m+1+d=(m+d)+1 from by omega,Instr.checkKey]
    simp only[Sem.run_bind,run_underlying hu,Result.andThen_ok];rcases yn with⟨q,rfl⟩ | rfl|rfl<;>rfl
  have agg:∀n,kJ P t=some true→eW P t=some n→n=ks.length→(∀xs,ou X ((cs.drop o).take n) xs →
    eA ks ((cs.drop o).take n) ((cs.drop o).take n)=some b→(Instr.checkKey em (m+1+d) t (.agg xs)).run P w=.ok () w) →
    ∃x,(part t xs o).run P w=.ok x w∧(Instr.checkKey em (m+1+d) t x).run P w=.ok () w:=by
   intro n ha hs hn hk;obtain⟨l1,l2⟩:=Oz he;simp only[ES]at l1 l2;refine⟨_,DF ha hs,?_⟩;rcases mw n with h0|h0
   ·have e1:ou X ((cs.drop o).take n) (xs.extract o (o+n)):=⟨by subst h0;simp;omega,by subst h0;simp⟩
    exact hk _ e1 (Gy (by omega) he)
   ·exact hk _ (hx.sub o n (by omega)) (Gy (by omega) he)
  simp only[pL]at h;split at h
  ·rename_i q hu
   cases hc:eW P t==some 1<;>simp[hc]at h;exact one 0 h.symm (by simp[kJ,hu]) ⟨_,hu,.inl ⟨q,rfl⟩⟩
  ·rename_i hu
   cases hc:eW P t==some 1<;>simp[hc]at h;exact one 1 h.symm (by simp[kJ,hu]) ⟨_,hu,.inr (.inl rfl)⟩
  ·rename_i hu
   cases hc:eW P t==some 1<;>simp[hc]at h;exact one 2 h.symm (by simp[kJ,hu]) ⟨_,hu,.inr (.inr rfl)⟩
  ·rename_i fs hu
   cases hZ:P.stoodInHeld t with
   |true=>simp[hZ]at h
   |false =>
    simp only[hZ,eV]at h;split at h
    ·rename_i k1 h1
     cases hc:eW P t==some k1.length with
     |false=>simp[hc]at h
     |true =>
      simp only[hc,bC,Option.some.injEq]at h;subst h;refine agg _ (by simp[kJ,hu]) (by simpa using hc) rfl fun xs r1 he=>?_
      rw[show m+1+d=(m+d)+1 from by omega,Instr.checkKey]
      simp only[Sem.run_bind,run_underlying hu,Result.andThen_ok];rw[←Array.forIn_toList];have:=VM ih w X d _ xs r1 _ 0 k1 b h1 he;simp at this ⊢;rw[this];rfl
    ·cases h
  ·rename_i n e hu
   split at h
   ·rename_i k1 h1
    cases hc:((eW P e==some k1.length)&&(eW P t==some (n*k1.length))) with
    |false=>simp[hc]at h
    |true =>
     simp only[hc,bC,Option.some.injEq]at h;simp only[bQ,dO]at hc;subst h;refine agg _ (by simp[kJ,hu]) hc.2 (VA _ _).symm fun xs r1 he=>?_
     have ec:=hc.1;have OF:=ec;simp only[eW,CL]at OF;obtain⟨i,hi,OF⟩:=OF;rw[show m+1+d=(m+d)+1 from by omega,Instr.checkKey]
     simp only[Sem.run_bind,run_underlying hu,Result.andThen_ok];simp only[Std.Legacy.Range.forIn_eq_forIn_range',Std.Legacy.Range.size,wF,Nat.add_one_sub_one,Nat.div_one]
     suffices hgo:∀(n i:Nat) (b:Bool),eA (uC n k1) (((cs.drop o).take (uC n k1).length).drop 0) []=none∨True→True by
      have agE:∀(n i:Nat) (b:Bool) (c:List V),ou X c xs→eA (uC n k1) (c.drop (i*k1.length)) (c.drop (i*k1.length))=some b →
        ((forIn (List.range' i n) PUnit.unit fun j _=>do
          let z ← sizeOf e
          Instr.checkKey em (m+d) e (←part e xs (j*z))
          pure (ForInStep.yield PUnit.unit):Sem PUnit)).run P w=.ok PUnit.unit w:=by
       intro n;induction n with
       |zero=>intro i b c _ _;simp
       |succ n ihn =>
        intro i b c hc he;simp only[uC]at he;obtain⟨b1,b2,e1,e2,rfl⟩:=Gx he;rw[xp,show i*k1.length+k1.length=(i+1)*k1.length from by rw[nU]]at e2
        obtain⟨x,p1,p2⟩:=ih e k1 h1 w X d c xs _ b1 hc e1;rw[EY];simp only[List.forIn_cons,Sem.run_bind,nZ ec,Result.andThen_ok,p1,p2,Sem.run_pure];have:=ihn (i+1) b2 c hc e2;simpa using this
      have:=agE n 0 b _ r1 (by simpa using he)
      simp at this ⊢;rw[this];rfl
     intros;trivial
   ·cases h
  ·cases h
theorem VP{t:TypeId}{ag:Bool}{ks:List Nat}(hk:wV P t ag ks){X:Cx}{u:V}{x:Value}(hx:aZ X u x){b:Bool}(h:V.mz ag ks u u=some b)(em:Bool) :
  (Instr.checkKey em 10000 t x).run P w=.ok () w:=by
 unfold V.mz at h;split at h
 ·split at h
  ·rename_i ds
   cases hl:(ds.length==ks.length) with
   |false=>simp[hl]at h
   |true =>
    simp only[hl,CE,bC]at h;simp only[dO]at hl;obtain⟨xs,e1,l1,r1⟩:=qb hx;obtain⟨u,q1,q3⟩:=VN em 100 t ks hk.pL w X 9900 ds xs 0 b ⟨l1,r1⟩ (by simpa using h)
    rw[DF hk.agg hk.size]at q1;cases q1;have ex:xs.extract 0 (0+ks.length)=xs:=by simp[←hl,l1]
    rw[ex]at q3;rw[e1];exact q3
  ·cases h
 ·split at h
  ·show(Instr.checkKey em (9999+1) t x).run P w=_
   rw[Instr.checkKey];rcases hk.one with⟨_,q,hu⟩ | ⟨_,hu⟩ | ⟨_,hu⟩<;>simp only[Sem.run_bind,run_underlying hu,Result.andThen_ok]<;>rfl
  ·cases h
def vV(X:Cx)(es:List (V×V))(l:List MapEntry):Prop :=
 es.length=l.length∧∀(j:Nat) (p:V×V) (y:MapEntry),es[j]?=some p→l[j]?=some y→aZ X p.1 y.key
theorem vV.tail{X:Cx}{p:V×V}{es:List (V×V)}{y:MapEntry}{l:List MapEntry}(h:vV X (p::es) (y::l)):vV X es l :=
 ⟨by simpa using h.1,fun j p y a b=>h.2 (j+1) p y (by simpa using a) (by simpa using b)⟩
def Found(k:V)(kx:Value)(es:List (V×V))(l:List MapEntry)(i:Nat):Option (Nat×V)→Option (Nat×Value)→Prop
 |none,r=>r=none
 |some (j,v),r=>i≤j∧∃q e,es[j-i]?=some (q,v)∧l[j-i]?=some e∧e.key=kx∧r=some (j,e.val)
theorem Found.up{k:V}{kx:Value}{p:V×V}{es:List (V×V)}{y:MapEntry}{l:List MapEntry}{i:Nat}{r:Option (Nat×V)}{z:Option (Nat×Value)}(h:Found k kx es l (i+1) r z) :
  Found k kx (p::es) (y::l) i r z:=by
 cases r with
 |none=>exact h
 |some jv =>
  obtain⟨j,v⟩:=jv;obtain⟨h1,q,e,h2,h3,h4,h5⟩:=h;refine⟨by omega,q,e,?_,?_,h4,h5⟩
  ·rw[show j-i=(j-(i+1))+1 from by omega];simpa using h2
  ·rw[show j-i=(j-(i+1))+1 from by omega];simpa using h3
theorem VQ{t:TypeId}{ag:Bool}{ks:List Nat}(hk:wV P t ag ks){X:Cx}{k:V}{kx:Value}(hx:aZ X k kx):∀(es:List (V×V)) (l:List MapEntry) (i:Nat) (r:Option (Nat×V)),vV X es l →
  mA ag ks k es i=some r→∃z,(Instr.findAsking t kx l i).run P w=.ok z w∧Found k kx es l i r z
 |[],[],i,r,_,h=>by simp[mA]at h;subst h;exact⟨none,by simp[Instr.findAsking],rfl⟩
 |[],_::_,_,_,hr,_=>by simp[vV]at hr
 |_::_,[],_,_,hr,_=>by simp[vV]at hr
 |(q,v)::es,y::l,i,r,hr,h=>by
  simp only[mA]at h;have h0:=hr.2 0 (q,v) y rfl rfl;split at h
  ·rename_i hq
   cases h;obtain⟨q1,q2⟩:=OE (w:=w) hk hx h0 hq;exact⟨some (i,y.val),by simp[Instr.findAsking,q1],bR _,q,y,by simp,by simp,(q2 rfl).symm,rfl⟩
  ·rename_i hq
   obtain⟨q1,_⟩:=OE (w:=w) hk hx h0 hq;obtain⟨z,h1,h2⟩:=VQ hk hx es l (i+1) r hr.tail h;exact⟨z,by simp[Instr.findAsking,q1,h1],h2.up⟩
  ·cases h
theorem VR{t:TypeId}{k0:Nat}{td:TypeDesc}(hk:wV P t false [k0])(yn:P.underlying t=some td){X:Cx}{k:V}{kx:Value}(hx:aZ X k kx):∀(es:List (V×V)) (l:List MapEntry) (i:Nat) (r:Option (Nat×V)),vV X es l →
  mA false [k0] k es i=some r→∃z,Instr.findNow td kx l i=some z∧Found k kx es l i r z
 |[],[],i,r,_,h=>by simp[mA]at h;subst h;exact⟨none,by simp[Instr.findNow],rfl⟩
 |[],_::_,_,_,hr,_=>by simp[vV]at hr
 |_::_,[],_,_,hr,_=>by simp[vV]at hr
 |(q,v)::es,y::l,i,r,hr,h=>by
  simp only[mA]at h;have h0:=hr.2 0 (q,v) y rfl rfl;have VS:∀b,V.mz false [k0] k q=some b→Instr.sameNow td kx y.key=some b∧(b=true→kx=y.key):=fun b hb=>by
   refine⟨?_,(OE (w:=default) hk hx h0 hb).2⟩;simp only[V.mz]at hb;unfold jU at hb;split at hb
   ·rename_i q1 c q2 d
    rcases hk.one with⟨_,q',hu⟩ | ⟨h',_⟩ | ⟨h',_⟩<;>first|omega|skip
    rw[yn]at hu;cases hu;cases pE:decide (q1=q2) with
    |false=>simp[pE]at hb
    |true =>
     have:=E7 pE;subst this;simp at hb;rw[hx.BG,aZ.BG h0];simp[Instr.sameNow,hb]
   ·rcases hk.one with⟨h',_⟩ | ⟨_,hu⟩ | ⟨h',_⟩<;>first|omega|skip
    rw[yn]at hu;cases hu;rw[hx.BH,aZ.BH h0];simpa [Instr.sameNow] using hb
   ·rcases hk.one with⟨h',_⟩ | ⟨h',_⟩ | ⟨_,hu⟩<;>first|omega|skip
    rw[yn]at hu;cases hu;obtain⟨c,rfl,rfl⟩:=hx.Al;obtain⟨d,hd,fG⟩:=aZ.Al h0;subst fG;rw[hd];simp only[Instr.sameNow,Option.some.injEq];rw[beq_toListBytes,VB];simpa using hb
   ·cases hb
  split at h
  ·rename_i hq
   cases h;obtain⟨q1,q2⟩:=VS _ hq;exact⟨some (i,y.val),by simp[Instr.findNow,q1],bR _,q,y,by simp,by simp,(q2 rfl).symm,rfl⟩
  ·rename_i hq
   obtain⟨q1,_⟩:=VS _ hq;obtain⟨z,h1,h2⟩:=VR hk yn hx es l (i+1) r hr.tail h;exact⟨z,by simp[Instr.findNow,q1,h1],h2.up⟩
  ·cases h
theorem JX{t:TypeId}{ag:Bool}{ks:List Nat}(hk:wV P t ag ks){X:Cx}{k:V}{kx:Value}(hx:aZ X k kx){b:Bool}(pE:V.mz ag ks k k=some b){es:List (V×V)}{l:List MapEntry}{r:Option (Nat×V)}(hr:vV X es l)
  (h:mA ag ks k es 0=some r):∃z,(Instr.findKey t kx l).run P w=.ok z w∧Found k kx es l 0 r z:=by
 cases ag with
 |true =>
  have ha:=hk.agg;unfold kJ at ha;rw[run_findKey_eq w (by split at ha<;>simp_all) kx l]
  exact VQ hk hx es l 0 r hr h
 |false =>
  have:∃k0,ks=[k0]:=by
   simp only[V.mz]at pE;split at pE
   ·exact⟨_,rfl⟩
   ·cases pE
  obtain⟨k0,rfl⟩:=this;have:∃td,P.underlying t=some td:=by
   rcases hk.one with⟨_,q,hu⟩ | ⟨_,hu⟩ | ⟨_,hu⟩<;>exact⟨_,hu⟩
  obtain⟨td,yn⟩:=this;obtain⟨z,h1,h2⟩:=VR hk yn hx es l 0 r hr h;exact⟨z,by simp[Instr.findKey,run_underlying yn,h1],h2⟩
theorem VT{X:Cx}{i:Nat}{x:Value}(h:aZ X (.map i) x):x=.map (some (X.g.γ i))∧i<X.N:=by
 cases h with
 |plain h _=>cases h
 |map _ h=>exact⟨rfl,h⟩
theorem aZ.down{h:Array Obj}{g:Gh}{N:Nat}{T:List (Nat×Nat)}{v:V}{x:Value}(hx:aZ ⟨h,g,N,[]⟩ v x)(hm:∀d,v.ch d=false):aZ ⟨h,g,N,T⟩ v x :=
 aZ.mono (X:=⟨h,g,N,[]⟩) (X':=⟨h,g,N,T⟩) ⟨bR _,fun _ _ _ _ h=>h,fun _ _=>bR _,bR _,fun _ _=>rfl⟩ hx fun d=>.inr (hm d)
theorem agH{ag:Bool}{ks:List Nat}{u:V}{b:Bool}(h:V.mz ag ks u u=some b)(d:Nat):u.ch d=false:=by
 have cell:∀{k:Nat} {u v:V} {b:Bool},jU k u v=some b→u.cA d=false∧u.ch d=false:=fun {k u v b} h=>by
  unfold jU at h;split at h<;>first|exact⟨rfl,rfl⟩ | cases h
 unfold V.mz at h;split at h
 ·split at h
  ·rename_i ds
   cases hl:(ds.length==ks.length) with
   |false=>simp[hl]at h
   |true =>
    simp only[hl,CE,bC]at h;simp only[dO]at hl;simp only[V.ch,V.dv,mS];intro v hv;obtain⟨j,hj⟩:=qB.1 hv;have go:∀(ks:List Nat) (cs:List V) (b:Bool) (j:Nat),cs.length=ks.length→eA ks cs cs=some b→cs[j]?=some v→v.cA d=false:=by
     intro ks;induction ks with
     |nil=>intro cs b j h1 _ h3;rw[bW.1 h1]at h3;simp at h3
     |cons k ks ih =>
      intro cs b j h1 h2 h3;cases cs with
      |nil=>simp at h1
      |cons c cs =>
       simp only[eA]at h2;split at h2
       ·rename_i p q hp hq
        cases j with
        |zero=>simp at h3;subst h3;exact(cell hp).1
        |succ j=>exact ih cs q j (by simpa using h1) hq (by simpa using h3)
       ·cases h2
    simp[go ks ds b j hl h hj]
  ·cases h
 ·split at h
  ·exact(cell h).2
  ·cases h
theorem Je(hR:R E g S a w){i:Nat}{es:List (V×V)}(h:S.ay[i]?=some (.map es)):g.ow (g.γ i)=.ay i∧g.m (g.γ i)=0∧∃c k,w.heap[g.γ i]?=some (.map c k)∧es.length=c.size ∧
  vV (S.cx g w) es c.toList∧∀(j:Nat) (p:V×V) (y:MapEntry),es[j]?=some p→c[j]?=some y→(∀d,p.1.ch d=false)∧(∀d,p.2.dv d=false)∧aZ ⟨w.heap,g,S.ay.length,[]⟩ p.1 y.key∧aZ ⟨w.heap,g,S.ay.length,[]⟩ p.2 y.val:=by
 obtain⟨cj,hm,c,k,hh,hl,hj⟩:=(hR.ay.obj i _ h).resolve_left (fun e=>by cases e)
 refine⟨cj,hm,c,k,hh,hl,⟨by simpa using hl,fun j p y a b=>?_⟩,hj⟩
 obtain⟨q1,_,q3,_⟩:=hj j p y a (by simpa using b)
 exact q3.down q1
def Ni(P:Program)(t:TypeId)(zero:V):Bool :=
 match (P.info? t).bind (·.zero) with
 |some z=>IU z zero
 |none=>false
theorem aeB{o:Oper}{t kt et:TypeId}{ag ok:Bool}{ks:List Nat}{zero:V}{p q:Operand}{x k:bp}{C:br}(ho:o.op=.lookup t p q ok)(ht:P.underlying t=some (.map kt et))(hk:wV P kt ag ks)(hz:Ni P et zero=true)
  (hp:bO p x=true) (hq:bO q k=true) (hR:R E g S a w) (hd:∀d,o.dst=some d→d<E.nt) (ah:VO.run C o.dst S (.u6 ag ks zero ok x k)=some S'):cd P E o S S' a w:=by
 simp only[VO.run]at ah;split at ah
 ·rename_i i kv hx qO
  split at ah
  ·rename_i es b lK hb
   obtain⟨ex,hi⟩:=VT (cS hR hp hx);have yo:=cS hR hq qO;obtain⟨cj,hm,c,ck,hh,hl,Gz,hj⟩:=Je hR lK;have GA:=VP (w:=w) hk yo hb c.isEmpty;have pH:=MapKept.run_getObj_map (P:=P) hh;have GB:(getObj ((S.cx g w).g.γ i)).run P w=.ok (.map c ck) w:=pH;split at ah
   ·rename_i j v hf
    cases ah;obtain⟨z,yq,_,q,e,DG,OG,VU,rfl⟩:=JX (w:=w) hk yo hb Gz hf;have VV:=hj j (q,v) e (by simpa using DG) (by simpa using OG)
    have hv:aZ (S.cx g w) v e.val:=VV.2.2.2.down fun d=>vl (VV.2.1 d);refine cd.put hR hd (x:=if ok then .tuple #[e.val,.bool true] else e.val) ?_ ?_
    ·simp only[execOp,ho,ex]
     simp[Instr.lookup,iN ht,GB,GA,yq]
    ·cases ok
     ·exact hv
     ·refine .tuple _ _ (by simp) fun m u y hu hy=>?_
      match m with
      |0=>simp at hu hy;subst hu;subst hy;exact hv
      |1=>simp at hu hy;subst hu;subst hy;exact aZ.bool _
      |m+2=>simp at hu
   ·rename_i hf
    cases ah;obtain⟨z,yq,rfl⟩:=JX (w:=w) hk yo hb Gz hf;unfold Ni at hz;split at hz
    ·rename_i zv OH
     cases ld:P.info? et with
     |none=>simp[ld]at OH
     |some inf =>
      simp only[ld,E4]at OH;have hv:aZ (S.cx g w) zero zv:=S5 hz;refine cd.put hR hd (x:=if ok then .tuple #[zv,.bool false] else zv) ?_ ?_
      ·simp only[execOp,ho,ex]
       simp[Instr.lookup,iN ht,GB,GA,yq,zeroValue,typeInfo,ld,OH]
      ·cases ok
       ·exact hv
       ·refine .tuple _ _ (by simp) fun m u y hu hy=>?_
        match m with
        |0=>simp at hu hy;subst hu;subst hy;exact hv
        |1=>simp at hu hy;subst hu;subst hy;exact aZ.bool _
        |m+2=>simp at hu
    ·cases hz
   ·cases ah
  ·cases ah
 ·cases ah
theorem agI{b:Nat}{o':Obj}(hm:g.m b=0)(xJ:E.w0.heap.size≤b∨∃i,i<E.N0∧E.g0.ow b=.ay i)(FA:∀p q,g.ow b≠.cell p q)(hR:R E g S a w) :
  Touch E g S w g S.bf S.ay.length { w with heap:=w.heap.setIfInBounds b o' } b none none where
 os:=rfl
 tape:=rfl
 output:=rfl
 size:=by simp
 heap:=fun i hi _=>by simp[Ne.symm hi]
 m:=fun _ _=>rfl
 ow:=fun _ _=>rfl
 κ:=fun _ _=>rfl
 cp:=fun _ _=>rfl
 τ:=fun _ _=>rfl
 T:=fun _ _=>rfl
 γ:=fun _ _=>rfl
 eD:=bR _
 γnew:=fun i a b=>absurd a (by omega)
 fresh:=xJ.imp (fun z=>z) .inl
 hY:=fun p q _ e=>absurd e (FA p q)
 lv:=fun i e=>hR.CO e (bR _)
 jJ:=fun o y ho _=>absurd ho (by omega)
 pC:=fun _=>bR _
theorem R.VW(hR:R E g S a w){i:Nat}{es oT:List (V×V)}(lK:S.ay[i]?=some (.map es)){c':Array MapEntry}{yr:Nat}(hl:oT.length=c'.size)
  (hj:∀(j:Nat) (p:V×V) (y:MapEntry),oT[j]?=some p→c'[j]?=some y→(∀d,p.1.ch d=false)∧(∀d,p.2.dv d=false)∧aZ ⟨w.heap,g,S.ay.length,[]⟩ p.1 y.key∧aZ ⟨w.heap,g,S.ay.length,[]⟩ p.2 y.val) :
  R E g { S with ay:=S.ay.set i (.map oT) } a { w with heap:=w.heap.setIfInBounds (g.γ i) (.map c' yr) }:=by
 obtain⟨cj,hm,c,ck,hh,_,_,_⟩:=Je hR lK;have hi:=eJ lK;have xJ:=hR.FD cj;have hb:g.γ i<w.heap.size:=by
  rcases cF (g.γ i) w.heap.size with h|h
  ·exact h
  ·simp[lU h]at hh
 have ku:({ w with heap:=w.heap.setIfInBounds (g.γ i) (.map c' yr) }:World).heap[g.γ i]?=some (.map c' yr):=by simp[hb]
 have tt:=agI (S:=S) (w:=w) (o':=.map c' yr) hm xJ (fun _ _ e=>by rw[cj]at e;cases e) hR
 have hk:∀k,iM (S.cx g w) ⟨w.heap.setIfInBounds (g.γ i) (.map c' yr),g,S.ay.length,S.bf⟩ k:=fun k=>tt.keeps hR (fun e=>by cases e) (fun e=>by cases e) (fun _ e=>by rw[cj]at e;cases e)
 have mX:Le ⟨w.heap,g,S.ay.length,[]⟩ ⟨w.heap.setIfInBounds (g.γ i) (.map c' yr),g,S.ay.length,[]⟩:=⟨tt.le.size,tt.le.cells,tt.le.m,tt.le.eD,tt.le.γ⟩;refine R.nB tt hR rfl (by simp) (fun i=>.inl (hk i)) (fun s v hs=>.inl hs) (fun id dQ hi=>.inl ⟨hi,(fun e=>by cases e),fun _ e=>by rw[cj]at e;cases e⟩)
  (fun f k b hf hb=>.inl ⟨(fun e=>by cases e),fun _ e=>by rw[cj]at e;cases e⟩) (fun k o fp=>?_)
 simp only[km]at fp;split at fp
 ·rename_i jL
  subst jL
  first|(rw[aP hi]at fp;cases fp)|cases fp
  refine .inr ⟨cj,⟨hm,c',yr,ku,hl,fun j p y hp hy=>?_⟩,trivial⟩;obtain⟨q1,q2,q3,q4⟩:=hj j p y hp hy;exact⟨q1,q2,q3.mono mX fun d=>.inr (q1 d),q4.mono mX fun d=>.inr (vl (q2 d))⟩
 ·rename_i jL
  exact .inl ⟨fp,fun _=>⟨fun e=>(by rw[cj]at e;cases e;exact jL rfl),fun _ e=>(by rw[cj]at e;cases e)⟩⟩
theorem agJ{X:Cx}{sh:Sh}{v u:V}{y:Value}(h:zF sh v=some u)(hr:aZ X v y)(d:Nat):u.dv d=false:=by
 unfold zF at h;split at h
 ·split at h
  ·rename_i cs us hg
   cases h;obtain⟨xs,e,hl,hx⟩:=qb hr;obtain⟨l1,l2⟩:=MV hg;simp only[V.dv,mS];intro u hu;obtain⟨j,hj⟩:=qB.1 hu;obtain⟨v0,s,VX,pG⟩:=MW hg j u hj;have bB:=eJ VX;obtain⟨q1,q2,_,_⟩:=CX pG (hx j v0 xs[j] VX (by simp[hl]at bB;simp[bB]))
   have:=q2 d;cases u<;>simp_all[V.ch,V.dv,V.cA,V.cI]
  ·cases h
 ·split at h
  ·obtain⟨q1,q2,_,_⟩:=CX h hr
   have:=q2 d;cases u<;>simp_all[V.ch,V.cI]
  ·cases h
theorem aeC{o:Oper}{t kt et:TypeId}{ag:Bool}{ks:List Nat}{sh:Sh}{p q r:Operand}{x k y:bp}{C:br}(ho:o.op=.mapUpdate t p q r)(vv:o.dst=none)(ht:P.underlying t=some (.map kt et))(hk:wV P kt ag ks)
  (hp:bO p x=true) (hq:bO q k=true) (hr:bO r y=true) (hR:R E g S a w) (ah:VO.run C o.dst S (.tS ag ks sh x k y)=some S'):cd P E o S S' a w:=by
 simp only[VO.run]at ah;split at ah
 ·rename_i i kv v hx qO hy
  split at ah
  ·rename_i es b u lK hb hu
   obtain⟨ex,hi⟩:=VT (cS hR hp hx);have yo:=cS hR hq qO;have VY:=cS hR hr hy;have VZ:=TE hu VY;have V0:=agJ hu VY;have OI:=agH hb;have JZ:aZ ⟨w.heap,g,S.ay.length,[]⟩ kv (a.eval q):=aZ.mono (X:=S.cx g w) (X':=⟨w.heap,g,S.ay.length,[]⟩) ⟨bR _,fun _ _ _ _ h=>h,fun _ _=>bR _,bR _,fun _ _=>rfl⟩ yo fun d=>.inr (OI d);obtain⟨cj,hm,c,ck,hh,hl,Gz,hj⟩:=Je hR lK;have GA:=VP (w:=w) hk yo hb false;have pH:=MapKept.run_getObj_map (P:=P) hh;have GB:(getObj ((S.cx g w).g.γ i)).run P w=.ok (.map c ck) w:=pH;split at ah
   ·rename_i j v hf
    cases ah;obtain⟨z,yq,_,q0,e,DG,OG,VU,rfl⟩:=JX (w:=w) hk yo hb Gz hf;have agK:=agD (P:=P) (w:=w) yo hb
    let c':=c.modify j fun e=>{ e with key:=a.eval q,val:=a.eval r }
    have jj:=hR.VW (c':=c') (yr:=ck) (oT:=es.set j (kv,u)) lK (by simp[c',hl]) (fun n p y hn hy=>by
     simp only[km]at hn;split at hn
     ·rename_i DH
      subst DH;split at hn
      ·cases hn
       have qe:j<c.size:=by omega
       simp only[c',CD,if_true]at hy;simp[qe]at hy;subst hy;exact⟨OI,V0,JZ,VZ⟩
      ·cases hn
     ·rename_i DH
      simp only[c',CD]at hy;rw[aA DH]at hy;exact hj n p y hn hy)
    refine cd.skip (g':=g) ?_ vv jj;have wW:=MapKept.run_setObj_map (P:=P) (.map c' ck) hh;have OJ:(setObj ((S.cx g w).g.γ i) (.map c' ck)).run P w=.ok () { w with heap:=w.heap.setIfInBounds (g.γ i) (.map c' ck) }:=wW;have he:((c[j]?).map (·.key)).getD (a.eval q)=a.eval q:=by
     have:c[j]?=some e:=by simpa using OG
     rw[this];exact VU
    simp only[execOp,ho,ex];simp[Instr.mapUpdate,iN ht,GB,GA,yq,he,agK,c',OJ]
   ·rename_i hf
    cases ah;obtain⟨z,yq,rfl⟩:=JX (w:=w) hk yo hb Gz hf
    let c':=c.push { key:=a.eval q,val:=a.eval r,born:=ck }
    have jj:=hR.VW (c':=c') (yr:=ck+1) (oT:=es++[(kv,u)]) lK (by simp[c',hl]) (fun n p y hn hy=>by
     simp only[c',Sr]at hy;by_cases xQ:n=c.size
     ·rw[aP xQ]at hy
      rw[u5 (by omega),xQ,hl]at hn
      simp at hn;cases hy;subst hn;exact⟨OI,V0,JZ,VZ⟩
     ·rw[aA xQ]at hy
      have bB:=(wy.1 hy).1;rw[sW (by omega)]at hn
      exact hj n p y hn hy)
    refine cd.skip (g':=g) ?_ vv jj;have wW:=MapKept.run_setObj_map (P:=P) (.map c' (ck+1)) hh;have OJ:(setObj ((S.cx g w).g.γ i) (.map c' (ck+1))).run P w=.ok () { w with heap:=w.heap.setIfInBounds (g.γ i) (.map c' (ck+1)) }:=wW;simp only[execOp,ho,ex];simp[Instr.mapUpdate,iN ht,GB,GA,yq,c',OJ]
   ·cases ah
  ·cases ah
 ·cases ah
end
end Go.Vm

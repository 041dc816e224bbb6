/- The value machine: blocks that calls share, and maps. -/
import Derived.MapKept
import Derived.WideKeyRuns
import Derived.Test.YtmpikpodpgnjhaaGreatVm9
import Derived.Test.YtmpikpodpgnjhaaGreatVmP
namespace Go.Vm
set_option linter.all false
section
variable {P:Program} {E:Entry} {g g':Gh} {S S':St} {a:Act} {w w':World}
theorem R.Qs(hR:R E g S a w){ob:Obj}(hw:w'.heap=w.heap.push ob)(h1:w'.os=w.os)(h2:w'.tape=w.tape)(h3:w'.output=w.output){o:aP}
  (ho:∀g':Gh,g'.m w.heap.size=0→Le ⟨w.heap,g,S.ay.length,[]⟩ ⟨w'.heap,g',S.ay.length+1,[]⟩→BO w'.heap g' (S.ay.length+1) w.heap.size o∧yp w'.heap g' w.heap.size o) :
  ∃g',R E g' { S with ay:=S.ay++[o] } a w'∧g'.γ S.ay.length=w.heap.size:=by
 let g':Gh:={ g with m:=cQ g.m w.heap.size 0,γ:=cQ g.γ S.ay.length w.heap.size,ow:=cQ g.ow w.heap.size (.ay S.ay.length) }
 have t':Touch E g S w g' S.a7 (S.ay.length+1) w' w.heap.size none none:=BT hR hw h1 h2 h3 (fun b hb=>gd _ _ hb) (fun b hb=>gd _ _ hb)
  (fun i _=>rfl) (fun i _=>rfl) (fun i _=>rfl) (fun i _=>rfl) (fun i hi=>gd _ _ (by omega)) (by omega) (fun i h1 h2=>by
   have:i=S.ay.length:=by omega
   subst this;show _≤cQ g.γ _ _ _;rw[dC];exact hR.same.size) (fun i e=>by
   have e:cQ g.ow w.heap.size (.ay S.ay.length) w.heap.size=.ay i:=e;rw[dC]at e;cases e;exact⟨dC _ _ _,Nat.lt_succ_self _⟩)
 have kn:∀i,il (S.cx g w) ⟨w'.heap,g',S.ay.length+1,S.a7⟩ i:=fun i=>t'.keeps hR (fun e=>by cases e) (fun e=>by cases e) (fun h=>absurd h (Nat.lt_irrefl _))
 have oc:Le ⟨w.heap,g,S.ay.length,[]⟩ ⟨w'.heap,g',S.ay.length+1,[]⟩:=⟨t'.le.size,t'.le.cells,t'.le.m,t'.le.eG,t'.le.γ⟩;have hγ:g'.γ S.ay.length=w.heap.size:=dC _ _ _;refine⟨g',R.mU t' hR rfl (by simp) (fun i=>.inl (kn i)) (fun s v hs=>.inl hs)
  (fun id dR hi=>.inl ⟨hi,(fun e=>by cases e),fun h=>absurd h (Nat.lt_irrefl _)⟩) (fun f k b hf hb=>.inl ⟨(fun e=>by cases e),fun h=>absurd h (Nat.lt_irrefl _)⟩) (fun k o' fh=>?_),hγ⟩
 simp only[List.getElem?_append]at fh;split at fh
 ·exact .inl ⟨fh,fun h=>absurd h (Nat.lt_irrefl _)⟩
 ·rename_i hk
  have:k=S.ay.length:=by
   rcases Nat.eq_zero_or_pos (k-S.ay.length) with h|h
   ·omega
   ·rw[List.getElem?_eq_none (by simp;omega)]at fh;cases fh
  subst this;simp at fh;subst fh;exact .inr ⟨by rw[hγ];exact dC _ _ _,by rw[hγ];exact(ho g' (dC _ _ _) oc).1,by rw[hγ];exact(ho g' (dC _ _ _) oc).2⟩
theorem J8{ob:Obj}(hw:w'.heap=w.heap.push ob):w'.heap[w.heap.size]?=some ob:=by
 rw[hw];simp
theorem Zn{o:Oper}{t:TypeId}{i:TypeInfo}{z:Value}{sh:Sh}{zero:List V}{C:bm}(ho:o.op=.alloc t)(hi:P.info? t=some i)(hz:i.zero=some z)(hc:sj z.cells.toList zero=true)
  (hR:R E g S a w) (hd:∀d,o.dst=some d→d<E.nt) (ah:VO.run C o.dst S (.rP sh zero)=some S'):b0 P E o S S' a w:=by
 simp only[VO.run]at ah;split at ah
 ·rename_i cs hg
  cases ah;obtain⟨e1,e2⟩:=Ca hg;obtain⟨hl,hx⟩:=z8 (X:=S.cx g w) hc;have hw:(w.alloc (.cells z.cells t)).heap=w.heap.push (.cells z.cells t (0,0)):=rfl;obtain⟨g',iF,hγ⟩:=hR.Qs (w':=w.alloc (.cells z.cells t)) (o:=.cells cs) hw rfl rfl rfl (fun g' hm le=>by
   refine⟨⟨hm,z.cells,t,J8 hw,by simp at hl;omega,fun j u y hu hy=>?_⟩,fun j n es y hu hy=>?_⟩
   ·obtain⟨u0,s,px,od⟩:=xc hg _ u hu
    obtain⟨_,_,jT⟩:=hx j u0 y px (by simpa using hy)
    obtain⟨q1,q2,q3,_⟩:=Ak od jT;exact⟨q1,q2,q3.mono le (fun d=>.inr (q2 d))⟩
   ·rw[kM (J8 hw)]at hy
    obtain⟨u0,s,px,od⟩:=xc hg _ _ hu;obtain⟨_,_,jT⟩:=hx j u0 y px (by simpa using hy)
    obtain⟨_,_,_,_,q5⟩:=Ak od jT;obtain⟨rfl,hz⟩:=q5 n es rfl;exact ID hz)
  refine b0.value (x:=.pointer (some ⟨w.heap.size,0,none⟩)) (w':=w.alloc (.cells z.cells t)) (g':=g') ?_ (iF.put hd ?_)
  ·simp[execOp,ho,Instr.alloc,zeroValue,typeInfo,hi,hz,newVar,newRow]
  ·rw[←hγ];exact .bB _ 0 (by simp[St.cx])
 ·cases ah
theorem Zo{o:Oper}{t:TypeId}{C:bm}(ho:o.op=.makeMap t none)
  (hR:R E g S a w) (hd:∀d,o.dst=some d→d<E.nt) (ah:VO.run C o.dst S .rQ=some S'):b0 P E o S S' a w:=by
 simp only[VO.run]at ah;cases ah;have hw:(w.alloc (.map #[] 0)).heap=w.heap.push (.map #[] 0):=rfl;obtain⟨g',iF,hγ⟩:=hR.Qs (w':=w.alloc (.map #[] 0)) (o:=.map []) hw rfl rfl rfl (fun g' hm le=>⟨⟨hm,#[],0,J8 hw,rfl,fun j u y hu _=>by simp at hu⟩,trivial⟩)
 refine b0.value (x:=.map (some w.heap.size)) (w':=w.alloc (.map #[] 0)) (g':=g') ?_ (iF.put hd ?_)
 ·simp[execOp,ho,Instr.makeMap,newObj]
  rfl
 ·rw[←hγ];exact .map _ (by simp[St.cx])
structure uV(P:Program)(t:TypeId)(ag:Bool)(ks:List Nat):Prop where
 oh:oh P 100 t=some ks
 agg:jU P t=some ag
 size:eN P t=some ks.length
theorem uV.one{t:TypeId}{k:Nat}(h:uV P t false [k]):(k=0∧∃q,P.underlying t=some (.int q))∨(k=1∧P.underlying t=some .bool)∨(k=2∧P.underlying t=some .string):=by
 have h1:=h.oh;have h2:=h.agg;rw[show(100:Nat)=99+1 from rfl,Go.Vm.oh]at h1;unfold jU at h2;split at h1
 ·rename_i q hu;cases hc:eN P t==some 1<;>simp[hc]at h1;exact .inl ⟨h1.symm,q,hu⟩
 ·rename_i hu;cases hc:eN P t==some 1<;>simp[hc]at h1;exact .inr (.inl ⟨h1.symm,hu⟩)
 ·rename_i hu;cases hc:eN P t==some 1<;>simp[hc]at h1;exact .inr (.inr ⟨h1.symm,hu⟩)
 ·rename_i fs hu;simp[hu]at h2
 ·rename_i n e hu;simp[hu]at h2
 ·cases h1
theorem Qt{X:Cx}{k:Nat}{u v:V}{x y:Value}(hx:aY X u x)(hy:aY X v y)(h:ki k u v=some true):x=y:=by
 unfold ki at h;split at h
 ·rename_i q1 c q2 d
  cases hk:decide (q1=q2) with
  |false=>simp[hk]at h
  |true =>
   have:=of_decide_eq_true hk;subst this;simp at h;subst h;rw[hx.yZ,hy.yZ]
 ·rename_i c d
  simp at h;subst h;rw[hx.y3,hy.y3]
 ·simp at h
  subst h;obtain⟨p,rfl,e1⟩:=hx.xv;obtain⟨q,rfl,e2⟩:=hy.xv;have:p.data.toList=q.data.toList:=e1.trans e2.symm;obtain⟨⟨p⟩⟩:=p;obtain⟨⟨q⟩⟩:=q;simp at this;rw[this]
 ·cases h
theorem Qu{X:Cx}:∀{ks:List Nat} {cs ds:List V} {xs ys:List Value},er ks cs ds=some true→cs.length=ks.length→ds.length=ks.length→xs.length=ks.length→ys.length=ks.length →
  (∀(j:Nat) (v:V) (y:Value),cs[j]?=some v→xs[j]?=some y→aY X v y)→(∀(j:Nat) (v:V) (y:Value),ds[j]?=some v→ys[j]?=some y→aY X v y)→xs=ys
 |[],cs,ds,xs,ys,_,_,_,h1,h2,_,_=>by
  exact(List.length_eq_zero_iff.1 h1).trans (List.length_eq_zero_iff.1 h2).symm
 |k::ks,[],_,_,_,_,h,_,_,_,_,_=>by simp at h
 |k::ks,_::_,[],_,_,_,_,h,_,_,_,_=>by simp at h
 |k::ks,_::_,_::_,[],_,_,_,_,h,_,_,_=>by simp at h
 |k::ks,_::_,_::_,_::_,[],_,_,_,_,h,_,_=>by simp at h
 |k::ks,c::cs,d::ds,x::xs,y::ys,h,h1,h2,h3,h4,r1,r2=>by
  simp only[er]at h;split at h
  ·rename_i p q hp hq
   simp only[Option.some.injEq,Bool.and_eq_true]at h;obtain⟨rfl,rfl⟩:=h;have e1:x=y:=Qt (r1 0 c x rfl rfl) (r2 0 d y rfl rfl) hp;have e2:xs=ys:=Qu hq (by simpa using h1) (by simpa using h2) (by simpa using h3) (by simpa using h4)
    (fun j v y a b=>r1 (j+1) v y (by simpa using a) (by simpa using b)) (fun j v y a b=>r2 (j+1) v y (by simpa using a) (by simpa using b))
   rw[e1,e2]
  ·cases h
theorem J9{t:TypeId}{ag:Bool}{ks:List Nat}(hk:uV P t ag ks){X:Cx}{u v:V}{x y:Value}(hx:aY X u x)(hy:aY X v y){b:Bool}(h:V.lF ag ks u v=some b) :
  (Op.equal t x y).run P w=.ok b w∧(b=true→x=y):=by
 unfold V.lF at h;split at h
 ·split at h
  ·rename_i cs ds
   cases hl:(cs.length==ks.length&&ds.length==ks.length) with
   |false=>simp[hl]at h
   |true =>
    simp only[hl,cond_true]at h;simp only[Bool.and_eq_true,beq_iff_eq]at hl;obtain⟨xs,e1,l1,r1⟩:=oL hx;obtain⟨ys,e2,l2,r2⟩:=oL hy;obtain⟨u,v,q1,q2,q3⟩:=J6 100 t ks hk.oh w X 9900 cs ds xs ys 0 b ⟨l1,r1⟩ ⟨l2,r2⟩ (by simpa using h)
    rw[AX hk.agg hk.size]at q1 q2;cases q1;cases q2;have ex:xs.extract 0 (0+ks.length)=xs:=by simp[←hl.1,l1]
    have ey:ys.extract 0 (0+ks.length)=ys:=by simp[←hl.2,l2]
    rw[ex,ey]at q3;rw[e1,e2];refine⟨q3,fun hb=>?_⟩;subst hb;congr 1;apply Array.ext';exact Qu h hl.1 hl.2 (by simp;omega) (by simp;omega) (fun j v y a b=>r1 j v y a (by simpa using b)) (fun j v y a b=>r2 j v y a (by simpa using b))
  ·cases h
 ·split at h
  ·rename_i k
   refine⟨?_,fun hb=>?_⟩
   ·show(Op.equalIn (9999+1) t x y).run P w=_
    exact Qp hk.one hx hy h
   ·subst hb;exact Qt hx hy h
  ·cases h
theorem Qv{X:Cx}{k:Nat}{u v:V}{x:Value}(hx:aY X u x){b:Bool}(h:ki k u v=some b)(n:Nat):Instr.sameBits n x x=true:=by
 unfold ki at h;split at h
 ·rw[hx.yZ];simp[Instr.sameBits]
 ·rw[hx.y3];simp[Instr.sameBits]
 ·obtain⟨p,rfl,_⟩:=hx.xv;simp only[Instr.sameBits];exact(Go.MapKept.bytes_beq p p).2 rfl
 ·cases h
theorem Qw{X:Cx}(n:Nat):∀{ks:List Nat} {cs ds:List V} {xs:List Value} {b:Bool},er ks cs ds=some b→xs.length=ks.length →
  (∀(j:Nat) (v:V) (y:Value),cs[j]?=some v→xs[j]?=some y→aY X v y)→((xs.zip xs).all fun(x,y)=>Instr.sameBits n x y)=true
 |[],_,_,xs,_,_,h1,_=>by rw[List.length_eq_zero_iff.1 h1];rfl
 |k::ks,[],_,_,_,h,_,_=>by simp[er]at h
 |k::ks,_::_,[],_,_,h,_,_=>by simp[er]at h
 |k::ks,_::_,_::_,[],_,_,h,_=>by simp at h
 |k::ks,c::cs,d::ds,x::xs,b,h,h1,r=>by
  simp only[er]at h;split at h
  ·rename_i p q hp hq
   simp only[List.zip_cons_cons,List.all_cons,Bool.and_eq_true];exact⟨Qv (r 0 c x rfl rfl) hp n,Qw n hq (by simpa using h1) (fun j v y a b=>r (j+1) v y (by simpa using a) (by simpa using b))⟩
  ·cases h
theorem abj{ag:Bool}{ks:List Nat}{X:Cx}{u:V}{x:Value}(hx:aY X u x){b:Bool}(h:V.lF ag ks u u=some b):(Instr.keyThatStays x x).run P w=.ok x w:=by
 have hs:Instr.sameBits 10000 x x=true:=by
  unfold V.lF at h;split at h
  ·split at h
   ·rename_i ds
    cases hl:(ds.length==ks.length) with
    |false=>simp[hl]at h
    |true =>
     simp only[hl,Bool.and_self,cond_true]at h;simp only[beq_iff_eq]at hl;obtain⟨xs,rfl,l1,r1⟩:=oL hx;have:=Qw 9999 (xs:=xs.toList) h (by simp;omega) (fun j v y a b=>r1 j v y a (by simpa using b))
     simp only[Instr.sameBits,beq_self_eq_true,Bool.true_and];exact this
   ·cases h
  ·split at h
   ·exact Qv hx h _
   ·cases h
 simp[Instr.keyThatStays,hs]
def Qx(P:Program)(em:Bool)(m:Nat)(t:TypeId)(ks:List Nat):Prop :=
 ∀(w:World) (X:Cx) (d:Nat) (cs:List V) (xs:Array Value) (o:Nat) (b:Bool),nc X cs xs→er ks (cs.drop o) (cs.drop o)=some b →
  ∃x,(part t xs o).run P w=.ok x w∧(Instr.checkKey em (m+d) t x).run P w=.ok () w
theorem Qy{rec:TypeId→Option (List Nat)}{em:Bool}{m:Nat}(ih:∀t ks,rec t=some ks→Qx P em m t ks)(w:World)(X:Cx)(d:Nat)(cs:List V)(xs:Array Value)
  (hx:nc X cs xs):∀(fs:List Field) (off:Nat) (ks:List Nat) (b:Bool),yY rec off fs=some ks→er ks (cs.drop off) (cs.drop off)=some b →
  ((forIn fs PUnit.unit fun f _=>do
    if f.name≠ "_" then Instr.checkKey em (m+d) f.type (←part f.type xs f.offset)
    pure (ForInStep.yield PUnit.unit):Sem PUnit)).run P w=.ok PUnit.unit w
 |[],off,ks,b,h,he=>by simp
 |f::fs,off,ks,b,h,he=>by
  simp only[yY]at h;cases hc:((f.name != "_")&&f.offset==off) with
  |false=>simp[hc]at h
  |true =>
   simp only[hc,cond_true]at h;simp only[Bool.and_eq_true,bne_iff_ne,ne_eq,beq_iff_eq]at hc;split at h
   ·rename_i k1 h1
    split at h
    ·rename_i r h2
     simp only[Option.some.injEq]at h;subst h;obtain⟨b1,b2,e1,e2,rfl⟩:=CS he;rw[List.drop_drop]at e2;obtain⟨x,p1,p2⟩:=ih f.type k1 h1 w X d cs xs off b1 hx e1;have sG:=Qy ih w X d cs xs hx fs (off+k1.length) r b2 h2 e2;simp only[List.forIn_cons,Sem.run_bind,ne_eq,hc.1,not_false_eq_true,if_true,hc.2,p1,p2,Result.andThen_ok,Sem.run_pure];exact sG
    ·cases h
   ·cases h
theorem Qz(em:Bool):∀(m:Nat) (t:TypeId) (ks:List Nat),oh P m t=some ks→Qx P em m t ks
 |0,t,ks,h=>by simp[oh]at h
 |m+1,t,ks,h=>by
  intro w X d cs xs o b hx he;have ih:=Qz em m;have one:∀k,ks=[k]→jU P t=some false→(∃td,P.underlying t=some td∧((∃q,td=.int q)∨td=.bool∨td=.string)) →
    ∃x,(part t xs o).run P w=.ok x w∧(Instr.checkKey em (m+1+d) t x).run P w=.ok () w:=by
   intro k hk ha ⟨td,hu,wb⟩;subst hk;cases eW:cs.drop o with
   |nil=>rw[eW]at he;simp[er]at he
   |cons u us =>
    obtain⟨x,h1,h2⟩:=J5 (w:=w) ha hx (o:=o) (v:=u) (by rw[eW];rfl)
    refine⟨x,h1,?_⟩;rw[show m+1+d=(m+d)+1 from by omega,Instr.checkKey]
    simp only[Sem.run_bind,run_underlying hu,Result.andThen_ok];rcases wb with⟨q,rfl⟩ | rfl|rfl<;>rfl
  have agg:∀n,jU P t=some true→eN P t=some n→n=ks.length→(∀xs,nc X ((cs.drop o).take n) xs →
    er ks ((cs.drop o).take n) ((cs.drop o).take n)=some b→(Instr.checkKey em (m+1+d) t (.agg xs)).run P w=.ok () w) →
    ∃x,(part t xs o).run P w=.ok x w∧(Instr.checkKey em (m+1+d) t x).run P w=.ok () w:=by
   intro n ha hs hn hk;obtain⟨l1,l2⟩:=J4 he;simp only[List.length_drop]at l1 l2;refine⟨_,AX ha hs,?_⟩;rcases Nat.eq_zero_or_pos n with h0|h0
   ·have e1:nc X ((cs.drop o).take n) (xs.extract o (o+n)):=⟨by subst h0;simp;omega,by subst h0;simp⟩
    exact hk _ e1 (CT (by omega) he)
   ·exact hk _ (hx.sub o n (by omega)) (CT (by omega) he)
  simp only[oh]at h;split at h
  ·rename_i q hu
   cases hc:eN P t==some 1<;>simp[hc]at h;exact one 0 h.symm (by simp[jU,hu]) ⟨_,hu,.inl ⟨q,rfl⟩⟩
  ·rename_i hu
   cases hc:eN P t==some 1<;>simp[hc]at h;exact one 1 h.symm (by simp[jU,hu]) ⟨_,hu,.inr (.inl rfl)⟩
  ·rename_i hu
   cases hc:eN P t==some 1<;>simp[hc]at h;exact one 2 h.symm (by simp[jU,hu]) ⟨_,hu,.inr (.inr rfl)⟩
  ·rename_i fs hu
   cases fA:P.stoodInHeld t with
   |true=>simp[fA]at h
   |false =>
    simp only[fA,cond_false]at h;split at h
    ·rename_i k1 h1
     cases hc:eN P t==some k1.length with
     |false=>simp[hc]at h
     |true =>
      simp only[hc,cond_true,Option.some.injEq]at h;subst h;refine agg _ (by simp[jU,hu]) (by simpa using hc) rfl fun xs r1 he=>?_
      rw[show m+1+d=(m+d)+1 from by omega,Instr.checkKey]
      simp only[Sem.run_bind,run_underlying hu,Result.andThen_ok];rw[←Array.forIn_toList];have:=Qy ih w X d _ xs r1 _ 0 k1 b h1 he;simp at this ⊢;rw[this];rfl
    ·cases h
  ·rename_i n e hu
   split at h
   ·rename_i k1 h1
    cases hc:((eN P e==some k1.length)&&(eN P t==some (n*k1.length))) with
    |false=>simp[hc]at h
    |true =>
     simp only[hc,cond_true,Option.some.injEq]at h;simp only[Bool.and_eq_true,beq_iff_eq]at hc;subst h;refine agg _ (by simp[jU,hu]) hc.2 (Qn _ _).symm fun xs r1 he=>?_
     have ei:=hc.1;have Ka:=ei;simp only[eN,Option.map_eq_some_iff]at Ka;obtain⟨i,hi,Ka⟩:=Ka;rw[show m+1+d=(m+d)+1 from by omega,Instr.checkKey]
     simp only[Sem.run_bind,run_underlying hu,Result.andThen_ok];simp only[Std.Legacy.Range.forIn_eq_forIn_range',Std.Legacy.Range.size,Nat.sub_zero,Nat.add_one_sub_one,Nat.div_one]
     suffices FP:∀(n i:Nat) (b:Bool),er (sQ n k1) (((cs.drop o).take (sQ n k1).length).drop 0) []=none∨True→True by
      have abk:∀(n i:Nat) (b:Bool) (c:List V),nc X c xs→er (sQ n k1) (c.drop (i*k1.length)) (c.drop (i*k1.length))=some b →
        ((forIn (List.range' i n) PUnit.unit fun j _=>do
          let z ← sizeOf e
          Instr.checkKey em (m+d) e (←part e xs (j*z))
          pure (ForInStep.yield PUnit.unit):Sem PUnit)).run P w=.ok PUnit.unit w:=by
       intro n;induction n with
       |zero=>intro i b c _ _;simp
       |succ n ihn =>
        intro i b c hc he;simp only[sQ]at he;obtain⟨b1,b2,e1,e2,rfl⟩:=CS he;rw[List.drop_drop,show i*k1.length+k1.length=(i+1)*k1.length from by rw[Nat.succ_mul]]at e2
        obtain⟨x,p1,p2⟩:=ih e k1 h1 w X d c xs _ b1 hc e1;rw[List.range'_succ];simp only[List.forIn_cons,Sem.run_bind,nF ei,Result.andThen_ok,p1,p2,Sem.run_pure];have:=ihn (i+1) b2 c hc e2;simpa using this
      have:=abk n 0 b _ r1 (by simpa using he)
      simp at this ⊢;rw[this];rfl
     intros;trivial
   ·cases h
  ·cases h
theorem QA{t:TypeId}{ag:Bool}{ks:List Nat}(hk:uV P t ag ks){X:Cx}{u:V}{x:Value}(hx:aY X u x){b:Bool}(h:V.lF ag ks u u=some b)(em:Bool) :
  (Instr.checkKey em 10000 t x).run P w=.ok () w:=by
 unfold V.lF at h;split at h
 ·split at h
  ·rename_i ds
   cases hl:(ds.length==ks.length) with
   |false=>simp[hl]at h
   |true =>
    simp only[hl,Bool.and_self,cond_true]at h;simp only[beq_iff_eq]at hl;obtain⟨xs,e1,l1,r1⟩:=oL hx;obtain⟨u,q1,q3⟩:=Qz em 100 t ks hk.oh w X 9900 ds xs 0 b ⟨l1,r1⟩ (by simpa using h)
    rw[AX hk.agg hk.size]at q1;cases q1;have ex:xs.extract 0 (0+ks.length)=xs:=by simp[←hl,l1]
    rw[ex]at q3;rw[e1];exact q3
  ·cases h
 ·split at h
  ·show(Instr.checkKey em (9999+1) t x).run P w=_
   rw[Instr.checkKey];rcases hk.one with⟨_,q,hu⟩ | ⟨_,hu⟩ | ⟨_,hu⟩<;>simp only[Sem.run_bind,run_underlying hu,Result.andThen_ok]<;>rfl
  ·cases h
def tV(X:Cx)(es:List (V×V))(l:List MapEntry):Prop :=
 es.length=l.length∧∀(j:Nat) (p:V×V) (y:MapEntry),es[j]?=some p→l[j]?=some y→aY X p.1 y.key
theorem tV.tail{X:Cx}{p:V×V}{es:List (V×V)}{y:MapEntry}{l:List MapEntry}(h:tV X (p::es) (y::l)):tV X es l :=
 ⟨by simpa using h.1,fun j p y a b=>h.2 (j+1) p y (by simpa using a) (by simpa using b)⟩
def Found(k:V)(kx:Value)(es:List (V×V))(l:List MapEntry)(i:Nat):Option (Nat×V)→Option (Nat×Value)→Prop
 |none,r=>r=none
 |some (j,v),r=>i≤j∧∃q e,es[j-i]?=some (q,v)∧l[j-i]?=some e∧e.key=kx∧r=some (j,e.val)
theorem Found.up{k:V}{kx:Value}{p:V×V}{es:List (V×V)}{y:MapEntry}{l:List MapEntry}{i:Nat}{r:Option (Nat×V)}{z:Option (Nat×Value)}(h:Found k kx es l (i+1) r z) :
  Found k kx (p::es) (y::l) i r z:=by
 cases r with
 |none=>exact h
 |some jv =>
  obtain⟨j,v⟩:=jv;obtain⟨h1,q,e,h2,h3,h4,h5⟩:=h;refine⟨by omega,q,e,?_,?_,h4,h5⟩
  ·rw[show j-i=(j-(i+1))+1 from by omega];simpa using h2
  ·rw[show j-i=(j-(i+1))+1 from by omega];simpa using h3
theorem QB{t:TypeId}{ag:Bool}{ks:List Nat}(hk:uV P t ag ks){X:Cx}{k:V}{kx:Value}(hx:aY X k kx):∀(es:List (V×V)) (l:List MapEntry) (i:Nat) (r:Option (Nat×V)),tV X es l →
  lG ag ks k es i=some r→∃z,(Instr.findAsking t kx l i).run P w=.ok z w∧Found k kx es l i r z
 |[],[],i,r,_,h=>by simp[lG]at h;subst h;exact⟨none,by simp[Instr.findAsking],rfl⟩
 |[],_::_,_,_,hr,_=>by simp[tV]at hr
 |_::_,[],_,_,hr,_=>by simp[tV]at hr
 |(q,v)::es,y::l,i,r,hr,h=>by
  simp only[lG]at h;have h0:=hr.2 0 (q,v) y rfl rfl;split at h
  ·rename_i hq
   cases h;obtain⟨q1,q2⟩:=J9 (w:=w) hk hx h0 hq;exact⟨some (i,y.val),by simp[Instr.findAsking,q1],Nat.le_refl _,q,y,by simp,by simp,(q2 rfl).symm,rfl⟩
  ·rename_i hq
   obtain⟨q1,_⟩:=J9 (w:=w) hk hx h0 hq;obtain⟨z,h1,h2⟩:=QB hk hx es l (i+1) r hr.tail h;exact⟨z,by simp[Instr.findAsking,q1,h1],h2.up⟩
  ·cases h
theorem QC{t:TypeId}{k0:Nat}{td:TypeDesc}(hk:uV P t false [k0])(wb:P.underlying t=some td){X:Cx}{k:V}{kx:Value}(hx:aY X k kx):∀(es:List (V×V)) (l:List MapEntry) (i:Nat) (r:Option (Nat×V)),tV X es l →
  lG false [k0] k es i=some r→∃z,Instr.findNow td kx l i=some z∧Found k kx es l i r z
 |[],[],i,r,_,h=>by simp[lG]at h;subst h;exact⟨none,by simp[Instr.findNow],rfl⟩
 |[],_::_,_,_,hr,_=>by simp[tV]at hr
 |_::_,[],_,_,hr,_=>by simp[tV]at hr
 |(q,v)::es,y::l,i,r,hr,h=>by
  simp only[lG]at h;have h0:=hr.2 0 (q,v) y rfl rfl;have QD:∀b,V.lF false [k0] k q=some b→Instr.sameNow td kx y.key=some b∧(b=true→kx=y.key):=fun b hb=>by
   refine⟨?_,(J9 (w:=default) hk hx h0 hb).2⟩;simp only[V.lF]at hb;unfold ki at hb;split at hb
   ·rename_i q1 c q2 d
    rcases hk.one with⟨_,q',hu⟩ | ⟨h',_⟩ | ⟨h',_⟩<;>first|omega|skip
    rw[wb]at hu;cases hu;cases pk:decide (q1=q2) with
    |false=>simp[pk]at hb
    |true =>
     have:=of_decide_eq_true pk;subst this;simp at hb;rw[hx.yZ,aY.yZ h0];simp[Instr.sameNow,hb]
   ·rcases hk.one with⟨h',_⟩ | ⟨_,hu⟩ | ⟨h',_⟩<;>first|omega|skip
    rw[wb]at hu;cases hu;rw[hx.y3,aY.y3 h0];simpa [Instr.sameNow] using hb
   ·rcases hk.one with⟨h',_⟩ | ⟨h',_⟩ | ⟨_,hu⟩<;>first|omega|skip
    rw[wb]at hu;cases hu;obtain⟨c,rfl,rfl⟩:=hx.xv;obtain⟨d,hd,fm⟩:=aY.xv h0;subst fm;rw[hd];simp only[Instr.sameNow,Option.some.injEq];rw[beq_toListBytes,Qo];simpa using hb
   ·cases hb
  split at h
  ·rename_i hq
   cases h;obtain⟨q1,q2⟩:=QD _ hq;exact⟨some (i,y.val),by simp[Instr.findNow,q1],Nat.le_refl _,q,y,by simp,by simp,(q2 rfl).symm,rfl⟩
  ·rename_i hq
   obtain⟨q1,_⟩:=QD _ hq;obtain⟨z,h1,h2⟩:=QC hk wb hx es l (i+1) r hr.tail h;exact⟨z,by simp[Instr.findNow,q1,h1],h2.up⟩
  ·cases h
theorem FQ{t:TypeId}{ag:Bool}{ks:List Nat}(hk:uV P t ag ks){X:Cx}{k:V}{kx:Value}(hx:aY X k kx){b:Bool}(pk:V.lF ag ks k k=some b){es:List (V×V)}{l:List MapEntry}{r:Option (Nat×V)}(hr:tV X es l)
  (h:lG ag ks k es 0=some r):∃z,(Instr.findKey t kx l).run P w=.ok z w∧Found k kx es l 0 r z:=by
 cases ag with
 |true =>
  have ha:=hk.agg;unfold jU at ha;rw[run_findKey_eq w (by split at ha<;>simp_all) kx l]
  exact QB hk hx es l 0 r hr h
 |false =>
  have:∃k0,ks=[k0]:=by
   simp only[V.lF]at pk;split at pk
   ·exact⟨_,rfl⟩
   ·cases pk
  obtain⟨k0,rfl⟩:=this;have:∃td,P.underlying t=some td:=by
   rcases hk.one with⟨_,q,hu⟩ | ⟨_,hu⟩ | ⟨_,hu⟩<;>exact⟨_,hu⟩
  obtain⟨td,wb⟩:=this;obtain⟨z,h1,h2⟩:=QC hk wb hx es l 0 r hr h;exact⟨z,by simp[Instr.findKey,run_underlying wb,h1],h2⟩
theorem QE{X:Cx}{i:Nat}{x:Value}(h:aY X (.map i) x):x=.map (some (X.g.γ i))∧i<X.N:=by
 cases h with
 |plain h _=>cases h
 |map _ h=>exact⟨rfl,h⟩
theorem aY.down{h:Array Obj}{g:Gh}{N:Nat}{T:List (Nat×Nat)}{v:V}{x:Value}(hx:aY ⟨h,g,N,[]⟩ v x)(hm:∀d,v.ca d=false):aY ⟨h,g,N,T⟩ v x :=
 aY.mono (X:=⟨h,g,N,[]⟩) (X':=⟨h,g,N,T⟩) ⟨Nat.le_refl _,fun _ _ _ _ h=>h,fun _ _=>Nat.le_refl _,Nat.le_refl _,fun _ _=>rfl⟩ hx fun d=>.inr (hm d)
theorem abn{ag:Bool}{ks:List Nat}{u:V}{b:Bool}(h:V.lF ag ks u u=some b)(d:Nat):u.ca d=false:=by
 have cell:∀{k:Nat} {u v:V} {b:Bool},ki k u v=some b→u.cj d=false∧u.ca d=false:=fun {k u v b} h=>by
  unfold ki at h;split at h<;>first|exact⟨rfl,rfl⟩ | cases h
 unfold V.lF at h;split at h
 ·split at h
  ·rename_i ds
   cases hl:(ds.length==ks.length) with
   |false=>simp[hl]at h
   |true =>
    simp only[hl,Bool.and_self,cond_true]at h;simp only[beq_iff_eq]at hl;simp only[V.ca,V.dg,List.any_eq_false];intro v hv;obtain⟨j,hj⟩:=List.mem_iff_getElem?.1 hv;have go:∀(ks:List Nat) (cs:List V) (b:Bool) (j:Nat),cs.length=ks.length→er ks cs cs=some b→cs[j]?=some v→v.cj d=false:=by
     intro ks;induction ks with
     |nil=>intro cs b j h1 _ h3;rw[List.length_eq_zero_iff.1 h1]at h3;simp at h3
     |cons k ks ih =>
      intro cs b j h1 h2 h3;cases cs with
      |nil=>simp at h1
      |cons c cs =>
       simp only[er]at h2;split at h2
       ·rename_i p q hp hq
        cases j with
        |zero=>simp at h3;subst h3;exact(cell hp).1
        |succ j=>exact ih cs q j (by simpa using h1) hq (by simpa using h3)
       ·cases h2
    simp[go ks ds b j hl h hj]
  ·cases h
 ·split at h
  ·exact(cell h).2
  ·cases h
theorem E8(hR:R E g S a w){i:Nat}{es:List (V×V)}(h:S.ay[i]?=some (.map es)):g.ow (g.γ i)=.ay i∧g.m (g.γ i)=0∧∃c k,w.heap[g.γ i]?=some (.map c k)∧es.length=c.size ∧
  tV (S.cx g w) es c.toList∧∀(j:Nat) (p:V×V) (y:MapEntry),es[j]?=some p→c[j]?=some y→(∀d,p.1.ca d=false)∧(∀d,p.2.dg d=false)∧aY ⟨w.heap,g,S.ay.length,[]⟩ p.1 y.key∧aY ⟨w.heap,g,S.ay.length,[]⟩ p.2 y.val:=by
 obtain⟨cn,hm,c,k,hh,hl,hj⟩:=(hR.ay.obj i _ h).resolve_left (fun e=>by cases e)
 refine⟨cn,hm,c,k,hh,hl,⟨by simpa using hl,fun j p y a b=>?_⟩,hj⟩
 obtain⟨q1,_,q3,_⟩:=hj j p y a (by simpa using b)
 exact q3.down q1
def IY(P:Program)(t:TypeId)(zero:V):Bool :=
 match (P.info? t).bind (·.zero) with
 |some z=>EJ z zero
 |none=>false
theorem Zp{o:Oper}{t kt et:TypeId}{ag ok:Bool}{ks:List Nat}{zero:V}{p q:Operand}{x k:bj}{C:bm}(ho:o.op=.lookup t p q ok)(ht:P.underlying t=some (.map kt et))(hk:uV P kt ag ks)(hz:IY P et zero=true)
  (hp:bJ p x=true) (hq:bJ q k=true) (hR:R E g S a w) (hd:∀d,o.dst=some d→d<E.nt) (ah:VO.run C o.dst S (.tp ag ks zero ok x k)=some S'):b0 P E o S S' a w:=by
 simp only[VO.run]at ah;split at ah
 ·rename_i i kv hx pr
  split at ah
  ·rename_i es b mF hb
   obtain⟨ex,hi⟩:=QE (cL hR hp hx);have wc:=cL hR hq pr;obtain⟨cn,hm,c,ck,hh,hl,CU,hj⟩:=E8 hR mF;have CV:=QA (w:=w) hk wc hb c.isEmpty;have oe:=MapKept.run_getObj_map (P:=P) hh;have CW:(getObj ((S.cx g w).g.γ i)).run P w=.ok (.map c ck) w:=oe;split at ah
   ·rename_i j v hf
    cases ah;obtain⟨z,we,_,q,e,Kb,Kc,QF,rfl⟩:=FQ (w:=w) hk wc hb CU hf;have QG:=hj j (q,v) e (by simpa using Kb) (by simpa using Kc)
    have hv:aY (S.cx g w) v e.val:=QG.2.2.2.down fun d=>tC (QG.2.1 d);refine b0.put hR hd (x:=if ok then .tuple #[e.val,.bool true] else e.val) ?_ ?_
    ·simp only[execOp,ho,ex]
     simp[Instr.lookup,iE ht,CW,CV,we]
    ·cases ok
     ·exact hv
     ·refine .tuple _ _ (by simp) fun m u y hu hy=>?_
      match m with
      |0=>simp at hu hy;subst hu;subst hy;exact hv
      |1=>simp at hu hy;subst hu;subst hy;exact aY.bool _
      |m+2=>simp at hu
   ·rename_i hf
    cases ah;obtain⟨z,we,rfl⟩:=FQ (w:=w) hk wc hb CU hf;unfold IY at hz;split at hz
    ·rename_i zv Kd
     cases mW:P.info? et with
     |none=>simp[mW]at Kd
     |some inf =>
      simp only[mW,Option.bind_some]at Kd;have hv:aY (S.cx g w) zero zv:=NT hz;refine b0.put hR hd (x:=if ok then .tuple #[zv,.bool false] else zv) ?_ ?_
      ·simp only[execOp,ho,ex]
       simp[Instr.lookup,iE ht,CW,CV,we,zeroValue,typeInfo,mW,Kd]
      ·cases ok
       ·exact hv
       ·refine .tuple _ _ (by simp) fun m u y hu hy=>?_
        match m with
        |0=>simp at hu hy;subst hu;subst hy;exact hv
        |1=>simp at hu hy;subst hu;subst hy;exact aY.bool _
        |m+2=>simp at hu
    ·cases hz
   ·cases ah
  ·cases ah
 ·cases ah
theorem abo{b:Nat}{o':Obj}(hm:g.m b=0)(vG:E.w0.heap.size≤b∨∃i,i<E.N0∧E.g0.ow b=.ay i)(B8:∀p q,g.ow b≠.cell p q)(hR:R E g S a w) :
  Touch E g S w g S.a7 S.ay.length { w with heap:=w.heap.setIfInBounds b o' } b none none where
 os:=rfl
 tape:=rfl
 output:=rfl
 size:=by simp
 heap:=fun i hi _=>by simp[Ne.symm hi]
 m:=fun _ _=>rfl
 ow:=fun _ _=>rfl
 κ:=fun _ _=>rfl
 cp:=fun _ _=>rfl
 τ:=fun _ _=>rfl
 T:=fun _ _=>rfl
 γ:=fun _ _=>rfl
 eG:=Nat.le_refl _
 γnew:=fun i a b=>absurd a (by omega)
 fresh:=vG.imp (fun z=>z) .inl
 gN:=fun p q _ e=>absurd e (B8 p q)
 lv:=fun i e=>hR.z7 e (Nat.le_refl _)
 jQ:=fun o y ho _=>absurd ho (by omega)
 nZ:=fun _=>Nat.le_refl _
theorem R.QH(hR:R E g S a w){i:Nat}{es nH:List (V×V)}(mF:S.ay[i]?=some (.map es)){c':Array MapEntry}{wg:Nat}(hl:nH.length=c'.size)
  (hj:∀(j:Nat) (p:V×V) (y:MapEntry),nH[j]?=some p→c'[j]?=some y→(∀d,p.1.ca d=false)∧(∀d,p.2.dg d=false)∧aY ⟨w.heap,g,S.ay.length,[]⟩ p.1 y.key∧aY ⟨w.heap,g,S.ay.length,[]⟩ p.2 y.val) :
  R E g { S with ay:=S.ay.set i (.map nH) } a { w with heap:=w.heap.setIfInBounds (g.γ i) (.map c' wg) }:=by
 obtain⟨cn,hm,c,ck,hh,_,_,_⟩:=E8 hR mF;have hi:=eC mF;have vG:=hR.EY cn;have hb:g.γ i<w.heap.size:=by
  rcases Nat.lt_or_ge (g.γ i) w.heap.size with h|h
  ·exact h
  ·simp[Array.getElem?_eq_none h]at hh
 have kN:({ w with heap:=w.heap.setIfInBounds (g.γ i) (.map c' wg) }:World).heap[g.γ i]?=some (.map c' wg):=by simp[hb]
 have tt:=abo (S:=S) (w:=w) (o':=.map c' wg) hm vG (fun _ _ e=>by rw[cn]at e;cases e) hR
 have hk:∀k,il (S.cx g w) ⟨w.heap.setIfInBounds (g.γ i) (.map c' wg),g,S.ay.length,S.a7⟩ k:=fun k=>tt.keeps hR (fun e=>by cases e) (fun e=>by cases e) (fun _ e=>by rw[cn]at e;cases e)
 have oc:Le ⟨w.heap,g,S.ay.length,[]⟩ ⟨w.heap.setIfInBounds (g.γ i) (.map c' wg),g,S.ay.length,[]⟩:=⟨tt.le.size,tt.le.cells,tt.le.m,tt.le.eG,tt.le.γ⟩;refine R.mU tt hR rfl (by simp) (fun i=>.inl (hk i)) (fun s v hs=>.inl hs) (fun id dR hi=>.inl ⟨hi,(fun e=>by cases e),fun _ e=>by rw[cn]at e;cases e⟩)
  (fun f k b hf hb=>.inl ⟨(fun e=>by cases e),fun _ e=>by rw[cn]at e;cases e⟩) (fun k o fh=>?_)
 simp only[List.getElem?_set]at fh;split at fh
 ·rename_i kr
  subst kr
  first|(rw[if_pos hi]at fh;cases fh)|cases fh
  refine .inr ⟨cn,⟨hm,c',wg,kN,hl,fun j p y hp hy=>?_⟩,trivial⟩;obtain⟨q1,q2,q3,q4⟩:=hj j p y hp hy;exact⟨q1,q2,q3.mono oc fun d=>.inr (q1 d),q4.mono oc fun d=>.inr (tC (q2 d))⟩
 ·rename_i kr
  exact .inl ⟨fh,fun _=>⟨fun e=>(by rw[cn]at e;cases e;exact kr rfl),fun _ e=>(by rw[cn]at e;cases e)⟩⟩
theorem abp{X:Cx}{sh:Sh}{v u:V}{y:Value}(h:wU sh v=some u)(hr:aY X v y)(d:Nat):u.dg d=false:=by
 unfold wU at h;split at h
 ·split at h
  ·rename_i cs us hg
   cases h;obtain⟨xs,e,hl,hx⟩:=oL hr;obtain⟨l1,l2⟩:=IA hg;simp only[V.dg,List.any_eq_false];intro u hu;obtain⟨j,hj⟩:=List.mem_iff_getElem?.1 hu;obtain⟨v0,s,QI,od⟩:=IB hg j u hj;have br:=eC QI;obtain⟨q1,q2,_,_⟩:=Aj od (hx j v0 xs[j] QI (by simp[hl]at br;simp[br]))
   have:=q2 d;cases u<;>simp_all[V.ca,V.dg,V.cj,V.cz]
  ·cases h
 ·split at h
  ·obtain⟨q1,q2,_,_⟩:=Aj h hr
   have:=q2 d;cases u<;>simp_all[V.ca,V.cz]
  ·cases h
theorem Zq{o:Oper}{t kt et:TypeId}{ag:Bool}{ks:List Nat}{sh:Sh}{p q r:Operand}{x k y:bj}{C:bm}(ho:o.op=.mapUpdate t p q r)(tH:o.dst=none)(ht:P.underlying t=some (.map kt et))(hk:uV P kt ag ks)
  (hp:bJ p x=true) (hq:bJ q k=true) (hr:bJ r y=true) (hR:R E g S a w) (ah:VO.run C o.dst S (.rT ag ks sh x k y)=some S'):b0 P E o S S' a w:=by
 simp only[VO.run]at ah;split at ah
 ·rename_i i kv v hx pr hy
  split at ah
  ·rename_i es b u mF hb hu
   obtain⟨ex,hi⟩:=QE (cL hR hp hx);have wc:=cL hR hq pr;have QJ:=cL hR hr hy;have QK:=Oy hu QJ;have QL:=abp hu QJ;have Ke:=abn hb;have FT:aY ⟨w.heap,g,S.ay.length,[]⟩ kv (a.eval q):=aY.mono (X:=S.cx g w) (X':=⟨w.heap,g,S.ay.length,[]⟩) ⟨Nat.le_refl _,fun _ _ _ _ h=>h,fun _ _=>Nat.le_refl _,Nat.le_refl _,fun _ _=>rfl⟩ wc fun d=>.inr (Ke d);obtain⟨cn,hm,c,ck,hh,hl,CU,hj⟩:=E8 hR mF;have CV:=QA (w:=w) hk wc hb false;have oe:=MapKept.run_getObj_map (P:=P) hh;have CW:(getObj ((S.cx g w).g.γ i)).run P w=.ok (.map c ck) w:=oe;split at ah
   ·rename_i j v hf
    cases ah;obtain⟨z,we,_,q0,e,Kb,Kc,QF,rfl⟩:=FQ (w:=w) hk wc hb CU hf;have abq:=abj (P:=P) (w:=w) wc hb
    let c':=c.modify j fun e=>{ e with key:=a.eval q,val:=a.eval r }
    have iF:=hR.QH (c':=c') (wg:=ck) (nH:=es.set j (kv,u)) mF (by simp[c',hl]) (fun n p y hn hy=>by
     simp only[List.getElem?_set]at hn;split at hn
     ·rename_i AY
      subst AY;split at hn
      ·cases hn
       have oN:j<c.size:=by omega
       simp only[c',Array.getElem?_modify,if_true]at hy;simp[oN]at hy;subst hy;exact⟨Ke,QL,FT,QK⟩
      ·cases hn
     ·rename_i AY
      simp only[c',Array.getElem?_modify]at hy;rw[if_neg AY]at hy;exact hj n p y hn hy)
    refine b0.skip (g':=g) ?_ tH iF;have uX:=MapKept.run_setObj_map (P:=P) (.map c' ck) hh;have Kf:(setObj ((S.cx g w).g.γ i) (.map c' ck)).run P w=.ok () { w with heap:=w.heap.setIfInBounds (g.γ i) (.map c' ck) }:=uX;have he:((c[j]?).map (·.key)).getD (a.eval q)=a.eval q:=by
     have:c[j]?=some e:=by simpa using Kc
     rw[this];exact QF
    simp only[execOp,ho,ex];simp[Instr.mapUpdate,iE ht,CW,CV,we,he,abq,c',Kf]
   ·rename_i hf
    cases ah;obtain⟨z,we,rfl⟩:=FQ (w:=w) hk wc hb CU hf
    let c':=c.push { key:=a.eval q,val:=a.eval r,born:=ck }
    have iF:=hR.QH (c':=c') (wg:=ck+1) (nH:=es++[(kv,u)]) mF (by simp[c',hl]) (fun n p y hn hy=>by
     simp only[c',Array.getElem?_push]at hy;by_cases vP:n=c.size
     ·rw[if_pos vP]at hy
      rw[List.getElem?_append_right (by omega),vP,hl]at hn
      simp at hn;cases hy;subst hn;exact⟨Ke,QL,FT,QK⟩
     ·rw[if_neg vP]at hy
      have br:=(Array.getElem?_eq_some_iff.1 hy).1;rw[List.getElem?_append_left (by omega)]at hn
      exact hj n p y hn hy)
    refine b0.skip (g':=g) ?_ tH iF;have uX:=MapKept.run_setObj_map (P:=P) (.map c' (ck+1)) hh;have Kf:(setObj ((S.cx g w).g.γ i) (.map c' (ck+1))).run P w=.ok () { w with heap:=w.heap.setIfInBounds (g.γ i) (.map c' (ck+1)) }:=uX;simp only[execOp,ho,ex];simp[Instr.mapUpdate,iE ht,CW,CV,we,c',Kf]
   ·cases ah
  ·cases ah
 ·cases ah
end
end Go.Vm

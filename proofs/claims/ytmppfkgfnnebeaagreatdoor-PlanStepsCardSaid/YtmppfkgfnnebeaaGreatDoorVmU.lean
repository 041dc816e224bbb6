/- The value machine: copy. -/
import Derived.Test.YtmppfkgfnnebeaaGreatDoorVmO
namespace Go.Vm
set_option linter.all false
section
variable {P:Program} {E:Entry} {g g':Gh} {S S':St} {a:Act} {w w':World}
theorem Lt{cs:List V}{c:Array Value}{X:Cx}(hj:∀(j:Nat) (v:V),cs[j]?=some v→v.cL=true∧∃y,c[j]?=some y∧bb X v y):cs.length≤c.size:=by
 rcases cF c.size cs.length with h|h
 ·obtain⟨_,y,hy,_⟩:=hj c.size cs[c.size] (fN h)
  simp at hy
 ·exact h
theorem alp(hR:R E g S a w){src:Option Nat}{b:V}{y:Value}{us:List V}(hr:bb (S.cx g w) b y)(h:S.y9 src b=some us):∃base cap,y=.slice base us.length cap ∧
  (us≠[]→∃(ad:Addr) (l:List Value),base=some ad∧l.length=us.length∧(∀(j:Nat) (z:Value),l[j]?=some z→w.cell? (ad.add j)=some z)∧∀(j:Nat) (u:V) (z:Value),us[j]?=some u→l[j]?=some z→bb (S.cx g w) u z):=by
 unfold St.y9 at h;split at h
 ·cases h;exact⟨none,0,oV hr,fun h=>absurd rfl h⟩
 ·cases h
  rcases uk hr with e | ⟨ad,e⟩
  ·exact⟨none,0,e,fun h=>absurd rfl h⟩
  ·exact⟨some ad,0,e,fun h=>absurd rfl h⟩
 ·cases h
  obtain⟨ad,cap,e⟩:=He hr;exact⟨some ad,cap,e,fun h=>absurd rfl h⟩
 ·rename_i tk n es
  cases hn:n==1 with
  |false=>simp[hn]at h
  |true =>
   simp only[hn,bG,Option.some.injEq]at h;have:=eq_of_beq hn;subst this;subst h;cases hr with
   |plain hv _ =>
    rcases KM hv with⟨rfl,e⟩ | ⟨rfl,ad,cap,e⟩ | ⟨q,off,cap,l,e,_,hc,hl⟩
    ·exact⟨none,0,e,fun h=>absurd rfl h⟩
    ·exact⟨some ad,cap,e,fun h=>absurd rfl h⟩
    ·obtain⟨f1,f2⟩:=zQ hl
     have lq:=hl.len;refine⟨_,cap,by rw[f1,lq,El];exact e,fun _=>⟨_,l,rfl,f1.symm,fun j z hj=>?_,fun j u z hu hz=>?_⟩⟩
     ·rw[kB,cell?_eq];exact hc j z hj
     ·obtain⟨q1,z',q2,q3⟩:=f2 j u hu
      rw[hz]at q2;cases q2;exact .plain q3 (um q1)
 ·rename_i id s n
  split at h
  ·rename_i cs ho
   cases hc:(src==some id&&(s==1)&&Nat.ble n cs.length) with
   |false=>simp[hc]at h
   |true =>
    simp only[hc,bG,Option.some.injEq]at h;simp only[bS,dO]at hc;obtain⟨⟨rfl,rfl⟩,hle⟩:=hc;simp only at ho;have hle:=il hle;subst h;have hlen:(cs.take n).length=n:=by simp;omega
    rcases qR hr with⟨cap,eo,fU,e⟩ | ⟨rfl,hz,_⟩
    ·refine⟨_,cap,by rw[hlen];exact e,fun cf=>?_⟩
     rcases hR.aW id cs ho with⟨h0,_⟩ | ⟨_,_,_,c,et,hh,_,hj⟩
     ·subst h0;simp at cf
     have ew:=Lt hj;refine⟨_,c.toList.take n,rfl,by simp;omega,fun j z yI=>?_,fun j u z hu hz=>?_⟩
     ·rw[kB,cell?_eq]
      show cellAt w.heap (g.κ id) _=_;rw[kR hh];rw[iP]at yI;split at yI
      ·simpa using yI
      ·cases yI
     ·rw[iP]at hu hz
      split at hu
      ·rename_i bE
       rw[aM bE]at hz;obtain⟨_,z',q2,q3⟩:=hj j u hu;have hz:c[j]?=some z:=by simpa using hz
       rw[hz]at q2;cases q2;exact q3
      ·cases hu
    ·rcases hz with e | ⟨ad,e⟩
     ·exact⟨none,0,by simpa using e,fun h=>absurd (by simp) h⟩
     ·exact⟨some ad,0,by simpa using e,fun h=>absurd (by simp) h⟩
  ·cases h
 ·rename_i id s off n
  split at h
  ·rename_i cs ho
   cases hc:(src==some id&&(s==1)&&Nat.ble (off+n) cs.length) with
   |false=>simp[hc]at h
   |true =>
    simp only[hc,bG,Option.some.injEq]at h;simp only[bS,dO]at hc;obtain⟨⟨rfl,rfl⟩,hle⟩:=hc;simp only at ho;have hle:=il hle;subst h;have hlen:((cs.drop off).take n).length=n:=by simp;omega
    obtain⟨cap,eo,e⟩:=ahE hr;refine⟨_,cap,by rw[hlen];exact e,fun cf=>?_⟩
    rcases hR.aW id cs ho with⟨h0,_⟩ | ⟨_,_,_,c,et,hh,_,hj⟩
    ·subst h0;simp at cf
    have ew:=Lt hj;refine⟨_,(c.toList.drop off).take n,rfl,by simp;omega,fun j z yI=>?_,fun j u z hu hz=>?_⟩
    ·rw[kB,cell?_eq]
     show cellAt w.heap (g.κ id) _=_;rw[kR hh];rw[iP]at yI;split at yI
     ·rw[mn]at yI
      simpa using yI
     ·cases yI
    ·rw[iP]at hu hz
     split at hu
     ·rename_i bE
      rw[aM bE]at hz;rw[mn]at hu hz;obtain⟨_,z',q2,q3⟩:=hj _ u hu;have hz:c[off+j]?=some z:=by simpa using hz
      rw[hz]at q2;cases q2;exact q3
     ·cases hu
  ·cases h
 ·cases h
theorem alq{dT sT ty e:TypeId}(ht:P.underlying dT=some (.slice e))(hs:e9 P e=some 1)(base:Option Addr)(dl dc:Nat)(Hs:Option Addr)(sl sc:Nat)(h:Nat.min sl dl=0) :
  (Builtin.copy_ #[dT,sT] ty #[.slice base dl dc,.slice Hs sl sc]).run P w=.ok (goInt 0) w:=by
 have hu:=ji (P:=P) (w:=w) ht;have hz:=oW (P:=P) (w:=w) hs;cases Hs<;>cases base<;>simp[Builtin.copy_,hu,hz,Builtin.lenOf,h,Builtin.firstCells,loadCells,loadCellsFrom,storeCells]
theorem ai4{o:Oper}{t t2 e:TypeId}{p q:Operand}{K2:Nat}{src:Option Nat}{x y:bw}{C:bD}(ho:o.op=.call ⟨.builtin .copy,#[p,q],#[t,t2]⟩)(ht:P.underlying t=some (.slice e))(hs:e9 P e=some 1)
  (hp:bU p x=true) (hq:bU q y=true) (hR:R E g S a w) (hd:∀d,o.dst=some d→d<E.nt) (hrun:VO.run C o.dst S (.vg K2 src x y)=some S'):ch P E o S S' a w:=by
 have fq:∀w,(execOp a.eval o).run P w=((Builtin.copy_ #[t,t2] o.type #[a.eval p,a.eval q]).run P w).andThen fun v w=>.ok (.value v) w:=fun w=>by
  simp[execOp,ho,resolve,invoke,builtin]
 simp only[VO.run]at hrun;split at hrun
 ·rename_i id s n b hx hy
  split at hrun
  ·rename_i cs us Lj oX
   cases hc:(id==K2&&(s==1)&&Nat.ble n cs.length&&us.all V.sc) with
   |false=>simp[hc]at hrun
   |true =>
    simp only[hc,bG]at hrun;cases hrun;simp only[bS,dO,g8]at hc;obtain⟨⟨⟨rfl,rfl⟩,hle⟩,C8⟩:=hc;have jw:∀u∈us,u.cL=true:=fun u hu=>by have:=C8 u hu;cases u<;>simp_all[V.sc,V.cL]
    have hle:=il hle;obtain⟨base,als,e2,KQ⟩:=alp hR (cY hR hq hy) oX;have hk:(us.take n).length=Nat.min us.length n:=by simp[Nat.min_comm]
    by_cases h0:Nat.min us.length n=0
    ·have ht0:us.take n=[]:=oo.1 (hk.trans h0)
     rw[ht0];simp only[tc,uY,Eg];obtain⟨Y7,dl,dc,e1,LI⟩:∃Y7 dl dc,a.eval p=.slice Y7 dl dc∧dl=n:=by
      rcases qR (cY hR hp hx) with⟨cap,_,_,e1⟩ | ⟨rfl,e1 | ⟨ad,e1⟩,_⟩
      ·exact⟨_,_,_,e1,rfl⟩
      ·exact⟨_,_,_,e1,rfl⟩
      ·exact⟨_,_,_,e1,rfl⟩
     subst LI;have qW:R E g { S with aW:=(id,cs)::S.aW } a w:=⟨hR.env,fun i dS hi=>by
      have hi:look i ((id,cs)::S.aW)=some dS:=hi;rw[dz]at hi;by_cases jH:id=i
      ·subst jH
       rw[aM rfl]at hi;cases hi;exact hR.aW id cs Lj
      ·rw[ay jH]at hi
       exact hR.aW i dS hi,hR.bj,hR.aA,hR.defers,hR.js,hR.same⟩
     refine ch.value (x:=goInt 0) (w':=w) (g':=g) ?_ (qW.put hd (bb.int _ _));rw[fq,e1,e2,alq ht hs _ _ _ _ _ _ h0];rfl
    ·have cf:us≠[]:=fun e=>h0 (by subst e;simp)
     obtain⟨ad,l,rfl,lq,pe,qq⟩:=KQ cf;have yq:n≠0:=fun e=>h0 (by subst e;simp)
     obtain⟨cap,eo,fU,e1⟩:=(qR (cY hR hp hx)).resolve_right (fun h=>yq h.1);obtain⟨cr,fZ,hm,c,et,hh,alv,hj⟩:=(hR.aW id cs Lj).resolve_left (fun h=>by have:=h.1;subst this;simp at hle;exact yq hle)
     have ew:=Lt hj;have Fp:(l.take n).length=Nat.min us.length n:=by simp[lq,Nat.min_comm]
     have fC:0+(l.take n).length≤c.size:=by rw[Fp];have h3:Nat.min us.length n≤n:=Nat.min_le_right _ _;omega
     have h1:∀z∈l.take n,z.oneCell'=true:=fun z hz=>by
      obtain⟨j,np⟩:=nH.1 (Cp hz);have qX:=eQ np;have Y8:j<us.length:=by omega
      exact OO (qq j us[j] z (fN Y8) np) (jw _ (GS Y8))
     have hrun:=run_copy_row (P:=P) w t t2 o.type e (g.κ id) 0 n cap ad us.length als c et (l.take n) ht hs hh Fp (fun j v np=>pe j v (by
      rw[iP]at np;split at np
      ·exact np
      ·cases np)) fC h1
     let c':Array Value:=(c.toList.take 0++l.take n++c.toList.drop (0+(l.take n).length)).toArray
     have kT:(w.setRow (g.κ id) c').heap[g.κ id]?=some (.cells c' et (0,0)):=setRow_heap w _ c c' et _ hh;have tt:=EB (c':=c') (S:=S) (w:=w) hm (.inl fZ) (fun _ _ e=>by rw[cr]at e;cases e) hR
     have zX:∀i,jg (S.cx g w) ⟨(w.setRow (g.κ id) c').heap,g,S.aA.length,S.bj⟩ i:=fun i=>tt.keeps hR (fun e=>by cases e) (fun e=>by cases e) (fun _ e=>by rw[cr]at e;cases e)
     have qW:R E g { S with aW:=(id,us.take n++cs.drop (us.take n).length)::S.aW } a (w.setRow (g.κ id) c'):=R.oA (S':={ S with aW:=(id,us.take n++cs.drop (us.take n).length)::S.aW }) tt hR rfl rfl (fun i=>.inl (zX i)) (fun s v hs=>.inl hs) (fun i dS hi=>by
       have hi:look i ((id,us.take n++cs.drop (us.take n).length)::S.aW)=some dS:=hi;rw[dz]at hi;by_cases jH:id=i
       ·subst jH
        rw[aM rfl]at hi;cases hi;refine .inr ⟨cr,fZ,hm,c',et,kT,(by rw[show c'.size=c.size from EA fC];exact alv),fun j u hu=>?_⟩
        show _∧∃y,c'[j]?=some y∧_;rw[show c'[j]?=_ from Bj fC j];rw[oQ]at hu;split at hu
        ·rename_i bE
         have Y9:j<(l.take n).length:=by omega
         rw[aM (by omega)]
         simp only[xY];have L3:us[j]?=some u:=by
          rw[iP]at hu;split at hu
          ·exact hu
          ·cases hu
         have CH:l[j]?=some (l.take n)[j]:=by
          have:=fN Y9;rw[iP]at this;split at this
          ·exact this
          ·cases this
         exact⟨jw u (fW L3),_,fN Y9,(qq j u _ L3 CH).mono tt.le (fun i=>.inl (zX i))⟩
        ·rename_i bE
         rw[ay (by omega)]
         rw[mn,show(us.take n).length+(j-(us.take n).length)=j from by omega]at hu
         obtain⟨q1,y,q2,q3⟩:=hj j u hu;exact⟨q1,y,q2,q3.mono tt.le (fun i=>.inl (zX i))⟩
       ·rw[ay jH]at hi
        exact .inl ⟨hi,(fun e=>by cases e),fun _ e=>jH (by rw[cr]at e;cases e;rfl)⟩)
      (fun f k b hf hb=>.inl ⟨(fun e=>by cases e),fun _ e=>by rw[cr]at e;cases e⟩)
      (fun i o hi=>.inl ⟨hi,fun _=>⟨fun e=>(by rw[cr]at e;cases e),fun _ e=>(by rw[cr]at e;cases e)⟩⟩)
     refine ch.value (x:=goInt (l.take n).length) (w':=w.setRow (g.κ id) c') (g':=g) ?_ (qW.put hd (by rw[hk,Fp];exact bb.int _ _))
     have e1:a.eval p=.slice (some ⟨g.κ id,0,none⟩) n cap:=e1;rw[fq,e1,e2,hrun];rfl
  ·cases hrun
 ·cases hrun
theorem alw{t e ty:TypeId}{ie:TypeInfo}(ht:P.underlying t=some (.slice e))(hi:P.info? e=some ie)(hz:ie.zero=some (.int .i64 0)){b o n cap:Nat}{c:Array Value}{et:TypeId}(hb:w.heap[b]?=some (.cells c et (0,0)))
  (hn:0<n) (fC:o+n≤c.size) :
  (Builtin.clear_ #[t] ty #[.slice (some ⟨b,o,none⟩) n cap]).run P w=.ok (.tuple #[]) (w.setRow b (c.toList.take o++List.replicate n (Value.int .i64 0)++c.toList.drop (o+n)).toArray):=by
 have hzc:(Builtin.zeroCells (Value.int .i64 0).cells n).toList=List.replicate n (.int .i64 0):=by
  simp[Builtin.zeroCells,Value.cells];refine Oz (by simp) fun i h1 h2=>?_
  simp[Nat.mod_one]
 have ez:=run_storeCells_at P b o et (List.replicate n (Value.int .i64 0)) 0 c w hb (by simp;omega) (fun y hy=>by rw[(VZ.1 hy).2];rfl)
 simp only[wH,GU]at ez;obtain⟨m,rfl⟩:∃m,n=m+1:=⟨n-1,by omega⟩
 simp[Builtin.clear_,ji ht,zeroValue,typeInfo,hi,hz,hzc,ez]
theorem aly{X:Cx}{v:V}{x:Value}{i off n:Nat}(h:bb X v x)(hp:v.part=some (i,off,n))(hn:0<n):i<X.N∧∃cap,n≤cap∧x=.slice (some ⟨X.g.γ i,off,none⟩) n cap:=by
 unfold V.part at hp;split at hp
 ·cases hp
  obtain⟨h1,⟨cap,h2,h3⟩ | ⟨h0,_⟩⟩:=Et h
  ·exact⟨h1,cap,h2,h3⟩
  ·omega
 ·cases hp
  obtain⟨h1,cap,h2,h3⟩:=ahD h;exact⟨h1,cap,h2,by simpa using h3⟩
 ·cases hp
theorem ai5{o:Oper}{t e:TypeId}{ie:TypeInfo}{p:Operand}{x:bw}{C:bD}(ho:o.op=.call ⟨.builtin .clear,#[p],#[t]⟩)(ht:P.underlying t=some (.slice e))(hi:P.info? e=some ie)(hz:ie.zero=some (.int .i64 0))
  (hp:bU p x=true) (hR:R E g S a w) (hd:∀d,o.dst=some d→d<E.nt) (hrun:VO.run C o.dst S (.vh x)=some S'):ch P E o S S' a w:=by
 have fq:(execOp a.eval o).run P w=((Builtin.clear_ #[t] o.type #[a.eval p]).run P w).andThen fun v w=>.ok (.value v) w:=by
  simp[execOp,ho,resolve,invoke,builtin]
 simp only[VO.run]at hrun;split at hrun
 ·rename_i v hx
  split at hrun
  ·rename_i G hG
   cases hrun;cases Q6:v.part with
   |none=>rw[Q6]at hG;cases hG
   |some q =>
    obtain⟨i,off,n⟩:=q;rw[Q6]at hG;simp only[Hb]at hG;split at hG
    ·rename_i cs eO
     cases hc:(Nat.ble (off+n) cs.length&&Nat.blt 0 n) with
     |false=>simp[hc]at hG
     |true =>
      simp only[hc,bG,Option.some.injEq]at hG;subst hG;simp only[bS]at hc;have hle:=il hc.1;have hn:0<n:=by simpa [AZ] using hc.2
      obtain⟨_,cap,eo,ep⟩:=aly (cY hR hp hx) Q6 hn;have ep:a.eval p=.slice (some ⟨g.γ i,off,none⟩) n cap:=ep;have cf:cs≠[]:=fun e=>by subst e;simp at hle;omega
      obtain⟨cr,hm,c,et,hh,dC,hj⟩:=(hR.aA.obj i _ eO).resolve_left (fun e=>cf (by cases e;rfl))
      have pT:=eQ eO;have fC:off+(List.replicate n (Value.int .i64 0)).length≤c.size:=by simp;omega
      have hrun:=alw (P:=P) (w:=w) (ty:=o.type) (cap:=cap) ht hi hz hh hn (by omega:off+n≤c.size)
      let c':Array Value:=(c.toList.take off++List.replicate n (Value.int .i64 0)++c.toList.drop (off+(List.replicate n (Value.int .i64 0)).length)).toArray
      have hrun:(Builtin.clear_ #[t] o.type #[.slice (some ⟨g.γ i,off,none⟩) n cap]).run P w=.ok (.tuple #[]) (w.setRow (g.γ i) c'):=by
       rw[hrun];simp[c']
      have kT:(w.setRow (g.γ i) c').heap[g.γ i]?=some (.cells c' et (0,0)):=setRow_heap w _ c c' et _ hh;have tt:=EB (c':=c') (S:=S) (w:=w) hm (hR.HC cr) (fun _ _ e=>by rw[cr]at e;cases e) hR
      have hk:∀k,jg (S.cx g w) ⟨(w.setRow (g.γ i) c').heap,g,S.aA.length,S.bj⟩ k:=fun k=>tt.keeps hR (fun e=>by cases e) (fun e=>by cases e) (fun _ e=>by rw[cr]at e;cases e)
      have nM:Le ⟨w.heap,g,S.aA.length,[]⟩ ⟨(w.setRow (g.γ i) c').heap,g,S.aA.length,[]⟩:=⟨tt.le.size,tt.le.cells,tt.le.m,tt.le.eK,tt.le.γ⟩;have r1:R E g { S with aA:=S.aA.set i (.cells (iF cs off (List.replicate n (.int .i64 0)))) } a (w.setRow (g.γ i) c'):=by
       refine R.oA tt hR rfl (by simp) (fun i=>.inl (hk i)) (fun s v hs=>.inl hs) (fun id dS hi=>.inl ⟨hi,(fun e=>by cases e),fun _ e=>by rw[cr]at e;cases e⟩)
        (fun f k b hf hb=>.inl ⟨(fun e=>by cases e),fun _ e=>by rw[cr]at e;cases e⟩) (fun k o fx=>?_)
       simp only[jU]at fx;by_cases kh:i=k
       ·subst kh
        simp[pT]at fx;subst fx;refine .inr ⟨cr,⟨hm,c',et,kT,by rw[KS];exact iQ dC (u6 (EA fC).symm),fun j u z hu hz=>?_⟩,fun j n' es z hu hz=>?_⟩
        ·rw[Bh]at hu
         rw[show c'[j]?=_ from Bj fC j]at hz;split at hu
         ·rename_i lQ
          rw[aM (by simp only[GU]at lQ ⊢;omega)]at hz
          have HM:=Oy (fW hu);have Db:=Oy (fW hz);subst HM;subst Db;exact⟨rfl,fun _=>rfl,.plain (.int _ _) (um rfl)⟩
         ·rename_i lQ
          have Bk:=eQ hu;rw[ay (by intro q;simp only[GU]at q lQ;omega)]at hz
          obtain⟨q1,q2,q3⟩:=hj j u z hu hz;exact⟨q1,q2,q3.mono nM (fun d=>.inr (q2 d))⟩
        ·rw[Bh]at hu
         rw[kR kT,show c'[j]?=_ from Bj fC j]at hz;split at hu
         ·have HM:=Oy (fW hu)
          cases HM
         ·rename_i lQ
          have Bk:=eQ hu;rw[ay (by intro q;simp only[GU]at q lQ;omega)]at hz
          rcases hR.aA.own i _ eO j n' es z hu (by rw[kR hh];exact hz) with h | ⟨q,cap,c2,e',q1,q2,q3,q4,q5,q6⟩
          ·exact .inl h
          ·have cf:q≠g.γ i:=fun e=>by rw[e,cr]at q2;cases q2
           exact .inr ⟨q,cap,c2,e',q1,q2,q3,(Hy w _ q c' cf).trans q4,q5,q6⟩
       ·rw[ay kh]at fx
        exact .inl ⟨fx,fun _=>⟨fun e=>kh (by rw[cr]at e;cases e;rfl),fun _ e=>(by rw[cr]at e;cases e)⟩⟩
      refine ch.value (x:=.tuple #[]) (g':=g) (w':=w.setRow (g.γ i) c') ?_ (r1.put hd (.tuple _ _ rfl (fun i v x hv _=>by simp at hv)))
      rw[fq,ep,hrun];rfl
    ·cases hG
  ·cases hrun
 ·cases hrun
end
end Go.Vm

/- The value machine: copy. -/
import Derived.Test.YtcelmhaoipbdiaaGreatVmO
namespace Go.Vm
set_option linter.all false
section
variable {P:Program} {E:Entry} {g g':Gh} {S S':St} {a:Act} {w w':World}
theorem LX{cs:List V}{c:Array Value}{X:Cx}(hj:∀(j:Nat) (v:V),cs[j]?=some v→v.cQ=true∧∃y,c[j]?=some y∧bf X v y):cs.length≤c.size:=by
 rcases cM c.size cs.length with h|h
 ·obtain⟨_,y,hy,_⟩:=hj c.size cs[c.size] (g8 h)
  simp at hy
 ·exact h
theorem ama(hR:R E g S a w){src:Option Nat}{b:V}{y:Value}{us:List V}(hr:bf (S.cx g w) b y)(h:S.zM src b=some us):∃base cap,y=.slice base us.length cap ∧
  (us≠[]→∃(ad:Addr) (l:List Value),base=some ad∧l.length=us.length∧(∀(j:Nat) (z:Value),l[j]?=some z→w.cell? (ad.add j)=some z)∧∀(j:Nat) (u:V) (z:Value),us[j]?=some u→l[j]?=some z→bf (S.cx g w) u z):=by
 unfold St.zM at h;split at h
 ·cases h;exact⟨none,0,pB hr,fun h=>absurd rfl h⟩
 ·cases h
  rcases uH hr with e | ⟨ad,e⟩
  ·exact⟨none,0,e,fun h=>absurd rfl h⟩
  ·exact⟨some ad,0,e,fun h=>absurd rfl h⟩
 ·cases h
  obtain⟨ad,cap,e⟩:=HB hr;exact⟨some ad,cap,e,fun h=>absurd rfl h⟩
 ·rename_i tk n es
  cases hn:n==1 with
  |false=>simp[hn]at h
  |true =>
   simp only[hn,bM,Option.some.injEq]at h;have:=eq_of_beq hn;subst this;subst h;cases hr with
   |plain hv _ =>
    rcases Lf hv with⟨rfl,e⟩ | ⟨rfl,ad,cap,e⟩ | ⟨q,off,cap,l,e,_,hc,hl⟩
    ·exact⟨none,0,e,fun h=>absurd rfl h⟩
    ·exact⟨some ad,cap,e,fun h=>absurd rfl h⟩
    ·obtain⟨f1,f2⟩:=Ae hl
     have mb:=hl.len;refine⟨_,cap,by rw[f1,mb,Hv];exact e,fun _=>⟨_,l,rfl,f1.symm,fun j z hj=>?_,fun j u z hu hz=>?_⟩⟩
     ·rw[lg,cell?_eq];exact hc j z hj
     ·obtain⟨q1,z',q2,q3⟩:=f2 j u hu
      rw[hz]at q2;cases q2;exact .plain q3 (uI q1)
 ·rename_i id s n
  split at h
  ·rename_i cs ho
   cases hc:(src==some id&&(s==1)&&Nat.ble n cs.length) with
   |false=>simp[hc]at h
   |true =>
    simp only[hc,bM,Option.some.injEq]at h;simp only[b8,eg]at hc;obtain⟨⟨rfl,rfl⟩,hle⟩:=hc;simp only at ho;have hle:=jk hle;subst h;have hlen:(cs.take n).length=n:=by simp;omega
    rcases rT hr with⟨cap,eK,fY,e⟩ | ⟨rfl,hz,_⟩
    ·refine⟨_,cap,by rw[hlen];exact e,fun cq=>?_⟩
     rcases hR.aZ id cs ho with⟨h0,_⟩ | ⟨_,_,_,c,et,hh,_,hj⟩
     ·subst h0;simp at cq
     have eX:=LX hj;refine⟨_,c.toList.take n,rfl,by simp;omega,fun j z yK=>?_,fun j u z hu hz=>?_⟩
     ·rw[lg,cell?_eq]
      show cellAt w.heap (g.κ id) _=_;rw[lP hh];rw[lN]at yK;split at yK
      ·simpa using yK
      ·cases yK
     ·rw[lN]at hu hz
      split at hu
      ·rename_i bI
       rw[aK bI]at hz;obtain⟨_,z',q2,q3⟩:=hj j u hu;have hz:c[j]?=some z:=by simpa using hz
       rw[hz]at q2;cases q2;exact q3
      ·cases hu
    ·rcases hz with e | ⟨ad,e⟩
     ·exact⟨none,0,by simpa using e,fun h=>absurd (by simp) h⟩
     ·exact⟨some ad,0,by simpa using e,fun h=>absurd (by simp) h⟩
  ·cases h
 ·rename_i id s off n
  split at h
  ·rename_i cs ho
   cases hc:(src==some id&&(s==1)&&Nat.ble (off+n) cs.length) with
   |false=>simp[hc]at h
   |true =>
    simp only[hc,bM,Option.some.injEq]at h;simp only[b8,eg]at hc;obtain⟨⟨rfl,rfl⟩,hle⟩:=hc;simp only at ho;have hle:=jk hle;subst h;have hlen:((cs.drop off).take n).length=n:=by simp;omega
    obtain⟨cap,eK,e⟩:=aip hr;refine⟨_,cap,by rw[hlen];exact e,fun cq=>?_⟩
    rcases hR.aZ id cs ho with⟨h0,_⟩ | ⟨_,_,_,c,et,hh,_,hj⟩
    ·subst h0;simp at cq
    have eX:=LX hj;refine⟨_,(c.toList.drop off).take n,rfl,by simp;omega,fun j z yK=>?_,fun j u z hu hz=>?_⟩
    ·rw[lg,cell?_eq]
     show cellAt w.heap (g.κ id) _=_;rw[lP hh];rw[lN]at yK;split at yK
     ·rw[oF]at yK
      simpa using yK
     ·cases yK
    ·rw[lN]at hu hz
     split at hu
     ·rename_i bI
      rw[aK bI]at hz;rw[oF]at hu hz;obtain⟨_,z',q2,q3⟩:=hj _ u hu;have hz:c[off+j]?=some z:=by simpa using hz
      rw[hz]at q2;cases q2;exact q3
     ·cases hu
  ·cases h
 ·cases h
theorem amb{dT sT ty e:TypeId}(ht:P.underlying dT=some (.slice e))(hs:fw P e=some 1)(base:Option Addr)(dl dc:Nat)(HN:Option Addr)(sl sc:Nat)(h:Nat.min sl dl=0) :
  (Builtin.copy_ #[dT,sT] ty #[.slice base dl dc,.slice HN sl sc]).run P w=.ok (goInt 0) w:=by
 have hu:=jC (P:=P) (w:=w) ht;have hz:=pC (P:=P) (w:=w) hs;cases HN<;>cases base<;>simp[Builtin.copy_,hu,hz,Builtin.lenOf,h,Builtin.firstCells,loadCells,loadCellsFrom,storeCells]
theorem ajO{o:Oper}{t t2 e:TypeId}{p q:Operand}{Lz:Nat}{src:Option Nat}{x y:bA}{C:bD}(ho:o.op=.call ⟨.builtin .copy,#[p,q],#[t,t2]⟩)(ht:P.underlying t=some (.slice e))(hs:fw P e=some 1)
  (hp:bZ p x=true) (hq:bZ q y=true) (hR:R E g S a w) (hd:∀d,o.dst=some d→d<E.nt) (ah:VO.run C o.dst S (.vw Lz src x y)=some S'):ct P E o S S' a w:=by
 have fQ:∀w,(execOp a.eval o).run P w=((Builtin.copy_ #[t,t2] o.type #[a.eval p,a.eval q]).run P w).andThen fun v w=>.ok (.value v) w:=fun w=>by
  simp[execOp,ho,resolve,invoke,builtin]
 simp only[VO.run]at ah;split at ah
 ·rename_i id s n b hx hy
  split at ah
  ·rename_i cs us LO pD
   cases hc:(id==Lz&&(s==1)&&Nat.ble n cs.length&&us.all V.sc) with
   |false=>simp[hc]at ah
   |true =>
    simp only[hc,bM]at ah;cases ah;simp only[b8,eg,iL]at hc;obtain⟨⟨⟨rfl,rfl⟩,hle⟩,DI⟩:=hc;have jT:∀u∈us,u.cQ=true:=fun u hu=>by have:=DI u hu;cases u<;>simp_all[V.sc,V.cQ]
    have hle:=jk hle;obtain⟨base,amd,e2,Ll⟩:=ama hR (c9 hR hq hy) pD;have hk:(us.take n).length=Nat.min us.length n:=by simp[Nat.min_comm]
    by_cases h0:Nat.min us.length n=0
    ·have ht0:us.take n=[]:=a8.1 (hk.trans h0)
     rw[ht0];simp only[uy,vn,EM];obtain⟨ZV,dl,dc,e1,DC⟩:∃ZV dl dc,a.eval p=.slice ZV dl dc∧dl=n:=by
      rcases rT (c9 hR hp hx) with⟨cap,_,_,e1⟩ | ⟨rfl,e1 | ⟨ad,e1⟩,_⟩
      ·exact⟨_,_,_,e1,rfl⟩
      ·exact⟨_,_,_,e1,rfl⟩
      ·exact⟨_,_,_,e1,rfl⟩
     subst DC;have qj:R E g { S with aZ:=(id,cs)::S.aZ } a w:=⟨hR.env,fun i ei hi=>by
      have hi:look i ((id,cs)::S.aZ)=some ei:=hi;rw[dL]at hi;by_cases ke:id=i
      ·subst ke
       rw[aK rfl]at hi;cases hi;exact hR.aZ id cs LO
      ·rw[av ke]at hi
       exact hR.aZ i ei hi,hR.bl,hR.aD,hR.defers,hR.kb,hR.same⟩
     refine ct.value (x:=goInt 0) (w':=w) (g':=g) ?_ (qj.put hd (bf.int _ _));rw[fQ,e1,e2,amb ht hs _ _ _ _ _ _ h0];rfl
    ·have cq:us≠[]:=fun e=>h0 (by subst e;simp)
     obtain⟨ad,l,rfl,mb,pF,qL⟩:=Ll cq;have yr:n≠0:=fun e=>h0 (by subst e;simp)
     obtain⟨cap,eK,fY,e1⟩:=(rT (c9 hR hp hx)).resolve_right (fun h=>yr h.1);obtain⟨cB,gN,hm,c,et,hh,amf,hj⟩:=(hR.aZ id cs LO).resolve_left (fun h=>by have:=h.1;subst this;simp at hle;exact yr hle)
     have eX:=LX hj;have FR:(l.take n).length=Nat.min us.length n:=by simp[mb,Nat.min_comm]
     have fZ:0+(l.take n).length≤c.size:=by rw[FR];have h3:Nat.min us.length n≤n:=Nat.min_le_right _ _;omega
     have h1:∀z∈l.take n,z.oneCell'=true:=fun z hz=>by
      obtain⟨j,pN⟩:=sH.1 (KR hz);have rW:=fa pN;have ZW:j<us.length:=by omega
      exact PH (qL j us[j] z (g8 ZW) pN) (jT _ (Pg ZW))
     have ah:=run_copy_row (P:=P) w t t2 o.type e (g.κ id) 0 n cap ad us.length amd c et (l.take n) ht hs hh FR (fun j v pN=>pF j v (by
      rw[lN]at pN;split at pN
      ·exact pN
      ·cases pN)) fZ h1
     let c':Array Value:=(c.toList.take 0++l.take n++c.toList.drop (0+(l.take n).length)).toArray
     have lR:(w.setRow (g.κ id) c').heap[g.κ id]?=some (.cells c' et (0,0)):=setRow_heap w _ c c' et _ hh;have tt:=E2 (c':=c') (S:=S) (w:=w) hm (.inl gN) (fun _ _ e=>by rw[cB]at e;cases e) hR
     have Am:∀i,jB (S.cx g w) ⟨(w.setRow (g.κ id) c').heap,g,S.aD.length,S.bl⟩ i:=fun i=>tt.keeps hR (fun e=>by cases e) (fun e=>by cases e) (fun _ e=>by rw[cB]at e;cases e)
     have qj:R E g { S with aZ:=(id,us.take n++cs.drop (us.take n).length)::S.aZ } a (w.setRow (g.κ id) c'):=R.oQ (S':={ S with aZ:=(id,us.take n++cs.drop (us.take n).length)::S.aZ }) tt hR rfl rfl (fun i=>.inl (Am i)) (fun s v hs=>.inl hs) (fun i ei hi=>by
       have hi:look i ((id,us.take n++cs.drop (us.take n).length)::S.aZ)=some ei:=hi;rw[dL]at hi;by_cases ke:id=i
       ·subst ke
        rw[aK rfl]at hi;cases hi;refine .inr ⟨cB,gN,hm,c',et,lR,(by rw[show c'.size=c.size from E1 fZ];exact amf),fun j u hu=>?_⟩
        show _∧∃y,c'[j]?=some y∧_;rw[show c'[j]?=_ from BC fZ j];rw[qB]at hu;split at hu
        ·rename_i bI
         have ZX:j<(l.take n).length:=by omega
         rw[aK (by omega)]
         simp only[xY];have Mw:us[j]?=some u:=by
          rw[lN]at hu;split at hu
          ·exact hu
          ·cases hu
         have C7:l[j]?=some (l.take n)[j]:=by
          have:=g8 ZX;rw[lN]at this;split at this
          ·exact this
          ·cases this
         exact⟨jT u (g9 Mw),_,g8 ZX,(qL j u _ Mw C7).mono tt.le (fun i=>.inl (Am i))⟩
        ·rename_i bI
         rw[av (by omega)]
         rw[oF,show(us.take n).length+(j-(us.take n).length)=j from by omega]at hu
         obtain⟨q1,y,q2,q3⟩:=hj j u hu;exact⟨q1,y,q2,q3.mono tt.le (fun i=>.inl (Am i))⟩
       ·rw[av ke]at hi
        exact .inl ⟨hi,(fun e=>by cases e),fun _ e=>ke (by rw[cB]at e;cases e;rfl)⟩)
      (fun f k b hf hb=>.inl ⟨(fun e=>by cases e),fun _ e=>by rw[cB]at e;cases e⟩)
      (fun i o hi=>.inl ⟨hi,fun _=>⟨fun e=>(by rw[cB]at e;cases e),fun _ e=>(by rw[cB]at e;cases e)⟩⟩)
     refine ct.value (x:=goInt (l.take n).length) (w':=w.setRow (g.κ id) c') (g':=g) ?_ (qj.put hd (by rw[hk,FR];exact bf.int _ _))
     have e1:a.eval p=.slice (some ⟨g.κ id,0,none⟩) n cap:=e1;rw[fQ,e1,e2,ah];rfl
  ·cases ah
 ·cases ah
theorem amg{t e ty:TypeId}{ie:TypeInfo}(ht:P.underlying t=some (.slice e))(hi:P.info? e=some ie)(hz:ie.zero=some (.int .i64 0)){b o n cap:Nat}{c:Array Value}{et:TypeId}(hb:w.heap[b]?=some (.cells c et (0,0)))
  (hn:0<n) (fZ:o+n≤c.size) :
  (Builtin.clear_ #[t] ty #[.slice (some ⟨b,o,none⟩) n cap]).run P w=.ok (.tuple #[]) (w.setRow b (c.toList.take o++List.replicate n (Value.int .i64 0)++c.toList.drop (o+n)).toArray):=by
 have hzc:(Builtin.zeroCells (Value.int .i64 0).cells n).toList=List.replicate n (.int .i64 0):=by
  simp[Builtin.zeroCells,Value.cells];refine Pc (by simp) fun i h1 h2=>?_
  simp[Nat.mod_one]
 have fm:=run_storeCells_at P b o et (List.replicate n (Value.int .i64 0)) 0 c w hb (by simp;omega) (fun y hy=>by rw[(WM.1 hy).2];rfl)
 simp only[xX,Hm]at fm;obtain⟨m,rfl⟩:∃m,n=m+1:=⟨n-1,by omega⟩
 simp[Builtin.clear_,jC ht,zeroValue,typeInfo,hi,hz,hzc,fm]
theorem ami{X:Cx}{v:V}{x:Value}{i off n:Nat}(h:bf X v x)(hp:v.part=some (i,off,n))(hn:0<n):i<X.N∧∃cap,n≤cap∧x=.slice (some ⟨X.g.γ i,off,none⟩) n cap:=by
 unfold V.part at hp;split at hp
 ·cases hp
  obtain⟨h1,⟨cap,h2,h3⟩ | ⟨h0,_⟩⟩:=EW h
  ·exact⟨h1,cap,h2,h3⟩
  ·omega
 ·cases hp
  obtain⟨h1,cap,h2,h3⟩:=aio h;exact⟨h1,cap,h2,by simpa using h3⟩
 ·cases hp
theorem ajP{o:Oper}{t e:TypeId}{ie:TypeInfo}{p:Operand}{x:bA}{C:bD}(ho:o.op=.call ⟨.builtin .clear,#[p],#[t]⟩)(ht:P.underlying t=some (.slice e))(hi:P.info? e=some ie)(hz:ie.zero=some (.int .i64 0))
  (hp:bZ p x=true) (hR:R E g S a w) (hd:∀d,o.dst=some d→d<E.nt) (ah:VO.run C o.dst S (.vx x)=some S'):ct P E o S S' a w:=by
 have fQ:(execOp a.eval o).run P w=((Builtin.clear_ #[t] o.type #[a.eval p]).run P w).andThen fun v w=>.ok (.value v) w:=by
  simp[execOp,ho,resolve,invoke,builtin]
 simp only[VO.run]at ah;split at ah
 ·rename_i v hx
  split at ah
  ·rename_i G hG
   cases ah;cases R1:v.part with
   |none=>rw[R1]at hG;cases hG
   |some q =>
    obtain⟨i,off,n⟩:=q;rw[R1]at hG;simp only[Hz]at hG;split at hG
    ·rename_i cs fM
     cases hc:(Nat.ble (off+n) cs.length&&Nat.blt 0 n) with
     |false=>simp[hc]at hG
     |true =>
      simp only[hc,bM,Option.some.injEq]at hG;subst hG;simp only[b8]at hc;have hle:=jk hc.1;have hn:0<n:=by simpa [CU] using hc.2
      obtain⟨_,cap,eK,ep⟩:=ami (c9 hR hp hx) R1 hn;have ep:a.eval p=.slice (some ⟨g.γ i,off,none⟩) n cap:=ep;have cq:cs≠[]:=fun e=>by subst e;simp at hle;omega
      obtain⟨cB,hm,c,et,hh,dJ,hj⟩:=(hR.aD.obj i _ fM).resolve_left (fun e=>cq (by cases e;rfl))
      have qP:=fa fM;have fZ:off+(List.replicate n (Value.int .i64 0)).length≤c.size:=by simp;omega
      have ah:=amg (P:=P) (w:=w) (ty:=o.type) (cap:=cap) ht hi hz hh hn (by omega:off+n≤c.size)
      let c':Array Value:=(c.toList.take off++List.replicate n (Value.int .i64 0)++c.toList.drop (off+(List.replicate n (Value.int .i64 0)).length)).toArray
      have ah:(Builtin.clear_ #[t] o.type #[.slice (some ⟨g.γ i,off,none⟩) n cap]).run P w=.ok (.tuple #[]) (w.setRow (g.γ i) c'):=by
       rw[ah];simp[c']
      have lR:(w.setRow (g.γ i) c').heap[g.γ i]?=some (.cells c' et (0,0)):=setRow_heap w _ c c' et _ hh;have tt:=E2 (c':=c') (S:=S) (w:=w) hm (hR.HX cB) (fun _ _ e=>by rw[cB]at e;cases e) hR
      have hk:∀k,jB (S.cx g w) ⟨(w.setRow (g.γ i) c').heap,g,S.aD.length,S.bl⟩ k:=fun k=>tt.keeps hR (fun e=>by cases e) (fun e=>by cases e) (fun _ e=>by rw[cB]at e;cases e)
      have oa:Le ⟨w.heap,g,S.aD.length,[]⟩ ⟨(w.setRow (g.γ i) c').heap,g,S.aD.length,[]⟩:=⟨tt.le.size,tt.le.cells,tt.le.m,tt.le.eW,tt.le.γ⟩;have r1:R E g { S with aD:=S.aD.set i (.cells (jn cs off (List.replicate n (.int .i64 0)))) } a (w.setRow (g.γ i) c'):=by
       refine R.oQ tt hR rfl (by simp) (fun i=>.inl (hk i)) (fun s v hs=>.inl hs) (fun id ei hi=>.inl ⟨hi,(fun e=>by cases e),fun _ e=>by rw[cB]at e;cases e⟩)
        (fun f k b hf hb=>.inl ⟨(fun e=>by cases e),fun _ e=>by rw[cB]at e;cases e⟩) (fun k o fU=>?_)
       simp only[kK]at fU;by_cases kE:i=k
       ·subst kE
        simp[qP]at fU;subst fU;refine .inr ⟨cB,⟨hm,c',et,lR,by rw[Lm];exact kL dJ (vq (E1 fZ).symm),fun j u z hu hz=>?_⟩,fun j n' es z hu hz=>?_⟩
        ·rw[zW]at hu
         rw[show c'[j]?=_ from BC fZ j]at hz;split at hu
         ·rename_i mA
          rw[aK (by simp only[Hm]at mA ⊢;omega)]at hz
          have H5:=Pb (g9 hu);have IP:=Pb (g9 hz);subst H5;subst IP;exact⟨rfl,fun _=>rfl,.plain (.int _ _) (uI rfl)⟩
         ·rename_i mA
          have BD:=fa hu;rw[av (by intro q;simp only[Hm]at q mA;omega)]at hz
          obtain⟨q1,q2,q3⟩:=hj j u z hu hz;exact⟨q1,q2,q3.mono oa (fun d=>.inr (q2 d))⟩
        ·rw[zW]at hu
         rw[lP lR,show c'[j]?=_ from BC fZ j]at hz;split at hu
         ·have H5:=Pb (g9 hu)
          cases H5
         ·rename_i mA
          have BD:=fa hu;rw[av (by intro q;simp only[Hm]at q mA;omega)]at hz
          rcases hR.aD.own i _ fM j n' es z hu (by rw[lP hh];exact hz) with h | ⟨q,cap,c2,e',q1,q2,q3,q4,q5,q6⟩
          ·exact .inl h
          ·have cq:q≠g.γ i:=fun e=>by rw[e,cB]at q2;cases q2
           exact .inr ⟨q,cap,c2,e',q1,q2,q3,(HT w _ q c' cq).trans q4,q5,q6⟩
       ·rw[av kE]at fU
        exact .inl ⟨fU,fun _=>⟨fun e=>kE (by rw[cB]at e;cases e;rfl),fun _ e=>(by rw[cB]at e;cases e)⟩⟩
      refine ct.value (x:=.tuple #[]) (g':=g) (w':=w.setRow (g.γ i) c') ?_ (r1.put hd (.tuple _ _ rfl (fun i v x hv _=>by simp at hv)))
      rw[fQ,ep,ah];rfl
    ·cases hG
  ·cases ah
 ·cases ah
end
end Go.Vm

/- The value machine: copy. -/
import Derived.Test.YtcelmhaoipbdiaaGreatDoorVmO
namespace Go.Vm
set_option linter.all false
section
variable {P:Program} {E:Entry} {g g':Gh} {S S':St} {a:Act} {w w':World}
theorem JB{cs:List V}{c:Array Value}{X:Cx}(hj:∀(j:Nat) (v:V),cs[j]?=some v→v.cI=true∧∃y,c[j]?=some y∧aZ X v y):cs.length≤c.size:=by
 rcases cF c.size cs.length with h|h
 ·obtain⟨_,y,hy,_⟩:=hj c.size cs[c.size] (gG h)
  simp at hy
 ·exact h
theorem agY(hR:R E g S a w){src:Option Nat}{b:V}{y:Value}{us:List V}(hr:aZ (S.cx g w) b y)(h:S.xw src b=some us):∃base cap,y=.slice base us.length cap ∧
  (us≠[]→∃(ad:Addr) (l:List Value),base=some ad∧l.length=us.length∧(∀(j:Nat) (z:Value),l[j]?=some z→w.cell? (ad.add j)=some z)∧∀(j:Nat) (u:V) (z:Value),us[j]?=some u→l[j]?=some z→aZ (S.cx g w) u z):=by
 unfold St.xw at h;split at h
 ·cases h;exact⟨none,0,nY hr,fun h=>absurd rfl h⟩
 ·cases h
  rcases ta hr with e | ⟨ad,e⟩
  ·exact⟨none,0,e,fun h=>absurd rfl h⟩
  ·exact⟨some ad,0,e,fun h=>absurd rfl h⟩
 ·cases h
  obtain⟨ad,cap,e⟩:=Fe hr;exact⟨some ad,cap,e,fun h=>absurd rfl h⟩
 ·rename_i tk n es
  cases hn:n==1 with
  |false=>simp[hn]at h
  |true =>
   simp only[hn,bC,Option.some.injEq]at h;have:=eq_of_beq hn;subst this;subst h;cases hr with
   |plain hv _ =>
    rcases IY hv with⟨rfl,e⟩ | ⟨rfl,ad,cap,e⟩ | ⟨q,off,cap,l,e,_,hc,hl⟩
    ·exact⟨none,0,e,fun h=>absurd rfl h⟩
    ·exact⟨some ad,cap,e,fun h=>absurd rfl h⟩
    ·obtain⟨f1,f2⟩:=xR hl
     have kK:=hl.len;refine⟨_,cap,by rw[f1,kK,IJ];exact e,fun _=>⟨_,l,rfl,f1.symm,fun j z hj=>?_,fun j u z hu hz=>?_⟩⟩
     ·rw[jX,cell?_eq];exact hc j z hj
     ·obtain⟨q1,z',q2,q3⟩:=f2 j u hu
      rw[hz]at q2;cases q2;exact .plain q3 (tc q1)
 ·rename_i id s n
  split at h
  ·rename_i cs ho
   cases hc:(src==some id&&(s==1)&&Nat.ble n cs.length) with
   |false=>simp[hc]at h
   |true =>
    simp only[hc,bC,Option.some.injEq]at h;simp only[bQ,dO]at hc;obtain⟨⟨rfl,rfl⟩,hle⟩:=hc;simp only at ho;have hle:=iD hle;subst h;have hlen:(cs.take n).length=n:=by simp;omega
    rcases qa hr with⟨cap,en,fJ,e⟩ | ⟨rfl,hz,_⟩
    ·refine⟨_,cap,by rw[hlen];exact e,fun cf=>?_⟩
     rcases hR.aW id cs ho with⟨h0,_⟩ | ⟨_,_,_,c,et,hh,_,hj⟩
     ·subst h0;simp at cf
     have eB:=JB hj;refine⟨_,c.toList.take n,rfl,by simp;omega,fun j z w5=>?_,fun j u z hu hz=>?_⟩
     ·rw[jX,cell?_eq]
      show cellAt w.heap (g.κ id) _=_;rw[kr hh];rw[kn]at w5;split at w5
      ·simpa using w5
      ·cases w5
     ·rw[kn]at hu hz
      split at hu
      ·rename_i bB
       rw[aP bB]at hz;obtain⟨_,z',q2,q3⟩:=hj j u hu;have hz:c[j]?=some z:=by simpa using hz
       rw[hz]at q2;cases q2;exact q3
      ·cases hu
    ·rcases hz with e | ⟨ad,e⟩
     ·exact⟨none,0,by simpa using e,fun h=>absurd (by simp) h⟩
     ·exact⟨some ad,0,by simpa using e,fun h=>absurd (by simp) h⟩
  ·cases h
 ·rename_i id s off n
  split at h
  ·rename_i cs ho
   cases hc:(src==some id&&(s==1)&&Nat.ble (off+n) cs.length) with
   |false=>simp[hc]at h
   |true =>
    simp only[hc,bC,Option.some.injEq]at h;simp only[bQ,dO]at hc;obtain⟨⟨rfl,rfl⟩,hle⟩:=hc;simp only at ho;have hle:=iD hle;subst h;have hlen:((cs.drop off).take n).length=n:=by simp;omega
    obtain⟨cap,en,e⟩:=adf hr;refine⟨_,cap,by rw[hlen];exact e,fun cf=>?_⟩
    rcases hR.aW id cs ho with⟨h0,_⟩ | ⟨_,_,_,c,et,hh,_,hj⟩
    ·subst h0;simp at cf
    have eB:=JB hj;refine⟨_,(c.toList.drop off).take n,rfl,by simp;omega,fun j z w5=>?_,fun j u z hu hz=>?_⟩
    ·rw[jX,cell?_eq]
     show cellAt w.heap (g.κ id) _=_;rw[kr hh];rw[kn]at w5;split at w5
     ·rw[nT]at w5
      simpa using w5
     ·cases w5
    ·rw[kn]at hu hz
     split at hu
     ·rename_i bB
      rw[aP bB]at hz;rw[nT]at hu hz;obtain⟨_,z',q2,q3⟩:=hj _ u hu;have hz:c[off+j]?=some z:=by simpa using hz
      rw[hz]at q2;cases q2;exact q3
     ·cases hu
  ·cases h
 ·cases h
theorem agZ{dT sT ty e:TypeId}(ht:P.underlying dT=some (.slice e))(hs:eW P e=some 1)(base:Option Addr)(dl dc:Nat)(Ft:Option Addr)(sl sc:Nat)(h:Nat.min sl dl=0) :
  (Builtin.copy_ #[dT,sT] ty #[.slice base dl dc,.slice Ft sl sc]).run P w=.ok (goInt 0) w:=by
 have hu:=iN (P:=P) (w:=w) ht;have hz:=nZ (P:=P) (w:=w) hs;cases Ft<;>cases base<;>simp[Builtin.copy_,hu,hz,Builtin.lenOf,h,Builtin.firstCells,loadCells,loadCellsFrom,storeCells]
theorem aeG{o:Oper}{t t2 e:TypeId}{p q:Operand}{Jf:Nat}{src:Option Nat}{x y:bp}{C:br}(ho:o.op=.call ⟨.builtin .copy,#[p,q],#[t,t2]⟩)(ht:P.underlying t=some (.slice e))(hs:eW P e=some 1)
  (hp:bO p x=true) (hq:bO q y=true) (hR:R E g S a w) (hd:∀d,o.dst=some d→d<E.nt) (ah:VO.run C o.dst S (.tT Jf src x y)=some S'):cd P E o S S' a w:=by
 have fh:∀w,(execOp a.eval o).run P w=((Builtin.copy_ #[t,t2] o.type #[a.eval p,a.eval q]).run P w).andThen fun v w=>.ok (.value v) w:=fun w=>by
  simp[execOp,ho,resolve,invoke,builtin]
 simp only[VO.run]at ah;split at ah
 ·rename_i id s n b hx hy
  split at ah
  ·rename_i cs us Jt oa
   cases hc:(id==Jf&&(s==1)&&Nat.ble n cs.length&&us.all V.sc) with
   |false=>simp[hc]at ah
   |true =>
    simp only[hc,bC]at ah;cases ah;simp only[bQ,dO,g9]at hc;obtain⟨⟨⟨rfl,rfl⟩,hle⟩,BI⟩:=hc;have iX:∀u∈us,u.cI=true:=fun u hu=>by have:=BI u hu;cases u<;>simp_all[V.sc,V.cI]
    have hle:=iD hle;obtain⟨base,ag1,e2,I2⟩:=agY hR (cS hR hq hy) oa;have hk:(us.take n).length=Nat.min us.length n:=by simp[Nat.min_comm]
    by_cases h0:Nat.min us.length n=0
    ·have ht0:us.take n=[]:=bW.1 (hk.trans h0)
     rw[ht0];simp only[sX,tM,CI];obtain⟨We,dl,dc,e1,Gm⟩:∃We dl dc,a.eval p=.slice We dl dc∧dl=n:=by
      rcases qa (cS hR hp hx) with⟨cap,_,_,e1⟩ | ⟨rfl,e1 | ⟨ad,e1⟩,_⟩
      ·exact⟨_,_,_,e1,rfl⟩
      ·exact⟨_,_,_,e1,rfl⟩
      ·exact⟨_,_,_,e1,rfl⟩
     subst Gm;have qc:R E g { S with aW:=(id,cs)::S.aW } a w:=⟨hR.env,fun i dQ hi=>by
      have hi:look i ((id,cs)::S.aW)=some dQ:=hi;rw[dj]at hi;by_cases jk:id=i
      ·subst jk
       rw[aP rfl]at hi;cases hi;exact hR.aW id cs Jt
      ·rw[aA jk]at hi
       exact hR.aW i dQ hi,hR.bf,hR.ay,hR.defers,hR.jg,hR.same⟩
     refine cd.value (x:=goInt 0) (w':=w) (g':=g) ?_ (qc.put hd (aZ.int _ _));rw[fh,e1,e2,agZ ht hs _ _ _ _ _ _ h0];rfl
    ·have cf:us≠[]:=fun e=>h0 (by subst e;simp)
     obtain⟨ad,l,rfl,kK,oh,pF⟩:=I2 cf;have wM:n≠0:=fun e=>h0 (by subst e;simp)
     obtain⟨cap,en,fJ,e1⟩:=(qa (cS hR hp hx)).resolve_right (fun h=>wM h.1);obtain⟨cj,fU,hm,c,et,hh,ag3,hj⟩:=(hR.aW id cs Jt).resolve_left (fun h=>by have:=h.1;subst this;simp at hle;exact wM hle)
     have eB:=JB hj;have DN:(l.take n).length=Nat.min us.length n:=by simp[kK,Nat.min_comm]
     have fu:0+(l.take n).length≤c.size:=by rw[DN];have h3:Nat.min us.length n≤n:=Nat.min_le_right _ _;omega
     have h1:∀z∈l.take n,z.oneCell'=true:=fun z hz=>by
      obtain⟨j,ox⟩:=qB.1 (IC hz);have qe:=eJ ox;have Wf:j<us.length:=by omega
      exact MC (pF j us[j] z (gG Wf) ox) (iX _ (Mj Wf))
     have ah:=run_copy_row (P:=P) w t t2 o.type e (g.κ id) 0 n cap ad us.length ag1 c et (l.take n) ht hs hh DN (fun j v ox=>oh j v (by
      rw[kn]at ox;split at ox
      ·exact ox
      ·cases ox)) fu h1
     let c':Array Value:=(c.toList.take 0++l.take n++c.toList.drop (0+(l.take n).length)).toArray
     have ku:(w.setRow (g.κ id) c').heap[g.κ id]?=some (.cells c' et (0,0)):=setRow_heap w _ c c' et _ hh;have tt:=CV (c':=c') (S:=S) (w:=w) hm (.inl fU) (fun _ _ e=>by rw[cj]at e;cases e) hR
     have xZ:∀i,iM (S.cx g w) ⟨(w.setRow (g.κ id) c').heap,g,S.ay.length,S.bf⟩ i:=fun i=>tt.keeps hR (fun e=>by cases e) (fun e=>by cases e) (fun _ e=>by rw[cj]at e;cases e)
     have qc:R E g { S with aW:=(id,us.take n++cs.drop (us.take n).length)::S.aW } a (w.setRow (g.κ id) c'):=R.nB (S':={ S with aW:=(id,us.take n++cs.drop (us.take n).length)::S.aW }) tt hR rfl rfl (fun i=>.inl (xZ i)) (fun s v hs=>.inl hs) (fun i dQ hi=>by
       have hi:look i ((id,us.take n++cs.drop (us.take n).length)::S.aW)=some dQ:=hi;rw[dj]at hi;by_cases jk:id=i
       ·subst jk
        rw[aP rfl]at hi;cases hi;refine .inr ⟨cj,fU,hm,c',et,ku,(by rw[show c'.size=c.size from CU fu];exact ag3),fun j u hu=>?_⟩
        show _∧∃y,c'[j]?=some y∧_;rw[show c'[j]?=_ from zU fu j];rw[pj]at hu;split at hu
        ·rename_i bB
         have Wg:j<(l.take n).length:=by omega
         rw[aP (by omega)]
         simp only[wF];have J8:us[j]?=some u:=by
          rw[kn]at hu;split at hu
          ·exact hu
          ·cases hu
         have Bc:l[j]?=some (l.take n)[j]:=by
          have:=gG Wg;rw[kn]at this;split at this
          ·exact this
          ·cases this
         exact⟨iX u (gH J8),_,gG Wg,(pF j u _ J8 Bc).mono tt.le (fun i=>.inl (xZ i))⟩
        ·rename_i bB
         rw[aA (by omega)]
         rw[nT,show(us.take n).length+(j-(us.take n).length)=j from by omega]at hu
         obtain⟨q1,y,q2,q3⟩:=hj j u hu;exact⟨q1,y,q2,q3.mono tt.le (fun i=>.inl (xZ i))⟩
       ·rw[aA jk]at hi
        exact .inl ⟨hi,(fun e=>by cases e),fun _ e=>jk (by rw[cj]at e;cases e;rfl)⟩)
      (fun f k b hf hb=>.inl ⟨(fun e=>by cases e),fun _ e=>by rw[cj]at e;cases e⟩)
      (fun i o hi=>.inl ⟨hi,fun _=>⟨fun e=>(by rw[cj]at e;cases e),fun _ e=>(by rw[cj]at e;cases e)⟩⟩)
     refine cd.value (x:=goInt (l.take n).length) (w':=w.setRow (g.κ id) c') (g':=g) ?_ (qc.put hd (by rw[hk,DN];exact aZ.int _ _))
     have e1:a.eval p=.slice (some ⟨g.κ id,0,none⟩) n cap:=e1;rw[fh,e1,e2,ah];rfl
  ·cases ah
 ·cases ah
theorem ag4{t e ty:TypeId}{ie:TypeInfo}(ht:P.underlying t=some (.slice e))(hi:P.info? e=some ie)(hz:ie.zero=some (.int .i64 0)){b o n cap:Nat}{c:Array Value}{et:TypeId}(hb:w.heap[b]?=some (.cells c et (0,0)))
  (hn:0<n) (fu:o+n≤c.size) :
  (Builtin.clear_ #[t] ty #[.slice (some ⟨b,o,none⟩) n cap]).run P w=.ok (.tuple #[]) (w.setRow b (c.toList.take o++List.replicate n (Value.int .i64 0)++c.toList.drop (o+n)).toArray):=by
 have hzc:(Builtin.zeroCells (Value.int .i64 0).cells n).toList=List.replicate n (.int .i64 0):=by
  simp[Builtin.zeroCells,Value.cells];refine Mg (by simp) fun i h1 h2=>?_
  simp[Nat.mod_one]
 have hZ:=run_storeCells_at P b o et (List.replicate n (Value.int .i64 0)) 0 c w hb (by simp;omega) (fun y hy=>by rw[(SM.1 hy).2];rfl)
 simp only[wE,ET]at hZ;obtain⟨m,rfl⟩:∃m,n=m+1:=⟨n-1,by omega⟩
 simp[Builtin.clear_,iN ht,zeroValue,typeInfo,hi,hz,hzc,hZ]
theorem ag6{X:Cx}{v:V}{x:Value}{i off n:Nat}(h:aZ X v x)(hp:v.part=some (i,off,n))(hn:0<n):i<X.N∧∃cap,n≤cap∧x=.slice (some ⟨X.g.γ i,off,none⟩) n cap:=by
 unfold V.part at hp;split at hp
 ·cases hp
  obtain⟨h1,⟨cap,h2,h3⟩ | ⟨h0,_⟩⟩:=CQ h
  ·exact⟨h1,cap,h2,h3⟩
  ·omega
 ·cases hp
  obtain⟨h1,cap,h2,h3⟩:=ade h;exact⟨h1,cap,h2,by simpa using h3⟩
 ·cases hp
theorem aeH{o:Oper}{t e:TypeId}{ie:TypeInfo}{p:Operand}{x:bp}{C:br}(ho:o.op=.call ⟨.builtin .clear,#[p],#[t]⟩)(ht:P.underlying t=some (.slice e))(hi:P.info? e=some ie)(hz:ie.zero=some (.int .i64 0))
  (hp:bO p x=true) (hR:R E g S a w) (hd:∀d,o.dst=some d→d<E.nt) (ah:VO.run C o.dst S (.tU x)=some S'):cd P E o S S' a w:=by
 have fh:(execOp a.eval o).run P w=((Builtin.clear_ #[t] o.type #[a.eval p]).run P w).andThen fun v w=>.ok (.value v) w:=by
  simp[execOp,ho,resolve,invoke,builtin]
 simp only[VO.run]at ah;split at ah
 ·rename_i v hx
  split at ah
  ·rename_i G hG
   cases ah;cases OU:v.part with
   |none=>rw[OU]at hG;cases hG
   |some q =>
    obtain⟨i,off,n⟩:=q;rw[OU]at hG;simp only[Fa]at hG;split at hG
    ·rename_i cs ff
     cases hc:(Nat.ble (off+n) cs.length&&Nat.blt 0 n) with
     |false=>simp[hc]at hG
     |true =>
      simp only[hc,bC,Option.some.injEq]at hG;subst hG;simp only[bQ]at hc;have hle:=iD hc.1;have hn:0<n:=by simpa [A0] using hc.2
      obtain⟨_,cap,en,ep⟩:=ag6 (cS hR hp hx) OU hn;have ep:a.eval p=.slice (some ⟨g.γ i,off,none⟩) n cap:=ep;have cf:cs≠[]:=fun e=>by subst e;simp at hle;omega
      obtain⟨cj,hm,c,et,hh,dg,hj⟩:=(hR.ay.obj i _ ff).resolve_left (fun e=>cf (by cases e;rfl))
      have pI:=eJ ff;have fu:off+(List.replicate n (Value.int .i64 0)).length≤c.size:=by simp;omega
      have ah:=ag4 (P:=P) (w:=w) (ty:=o.type) (cap:=cap) ht hi hz hh hn (by omega:off+n≤c.size)
      let c':Array Value:=(c.toList.take off++List.replicate n (Value.int .i64 0)++c.toList.drop (off+(List.replicate n (Value.int .i64 0)).length)).toArray
      have ah:(Builtin.clear_ #[t] o.type #[.slice (some ⟨g.γ i,off,none⟩) n cap]).run P w=.ok (.tuple #[]) (w.setRow (g.γ i) c'):=by
       rw[ah];simp[c']
      have ku:(w.setRow (g.γ i) c').heap[g.γ i]?=some (.cells c' et (0,0)):=setRow_heap w _ c c' et _ hh;have tt:=CV (c':=c') (S:=S) (w:=w) hm (hR.FD cj) (fun _ _ e=>by rw[cj]at e;cases e) hR
      have hk:∀k,iM (S.cx g w) ⟨(w.setRow (g.γ i) c').heap,g,S.ay.length,S.bf⟩ k:=fun k=>tt.keeps hR (fun e=>by cases e) (fun e=>by cases e) (fun _ e=>by rw[cj]at e;cases e)
      have mX:Le ⟨w.heap,g,S.ay.length,[]⟩ ⟨(w.setRow (g.γ i) c').heap,g,S.ay.length,[]⟩:=⟨tt.le.size,tt.le.cells,tt.le.m,tt.le.eD,tt.le.γ⟩;have r1:R E g { S with ay:=S.ay.set i (.cells (iF cs off (List.replicate n (.int .i64 0)))) } a (w.setRow (g.γ i) c'):=by
       refine R.nB tt hR rfl (by simp) (fun i=>.inl (hk i)) (fun s v hs=>.inl hs) (fun id dQ hi=>.inl ⟨hi,(fun e=>by cases e),fun _ e=>by rw[cj]at e;cases e⟩)
        (fun f k b hf hb=>.inl ⟨(fun e=>by cases e),fun _ e=>by rw[cj]at e;cases e⟩) (fun k o fp=>?_)
       simp only[km]at fp;by_cases jL:i=k
       ·subst jL
        simp[pI]at fp;subst fp;refine .inr ⟨cj,⟨hm,c',et,ku,by rw[I4];exact jT dg (tO (CU fu).symm),fun j u z hu hz=>?_⟩,fun j n' es z hu hz=>?_⟩
        ·rw[zS]at hu
         rw[show c'[j]?=_ from zU fu j]at hz;split at hu
         ·rename_i ld
          rw[aP (by simp only[ET]at ld ⊢;omega)]at hz
          have FN:=Mf (gH hu);have GH:=Mf (gH hz);subst FN;subst GH;exact⟨rfl,fun _=>rfl,.plain (.int _ _) (tc rfl)⟩
         ·rename_i ld
          have zV:=eJ hu;rw[aA (by intro q;simp only[ET]at q ld;omega)]at hz
          obtain⟨q1,q2,q3⟩:=hj j u z hu hz;exact⟨q1,q2,q3.mono mX (fun d=>.inr (q2 d))⟩
        ·rw[zS]at hu
         rw[kr ku,show c'[j]?=_ from zU fu j]at hz;split at hu
         ·have FN:=Mf (gH hu)
          cases FN
         ·rename_i ld
          have zV:=eJ hu;rw[aA (by intro q;simp only[ET]at q ld;omega)]at hz
          rcases hR.ay.own i _ ff j n' es z hu (by rw[kr hh];exact hz) with h | ⟨q,cap,c2,e',q1,q2,q3,q4,q5,q6⟩
          ·exact .inl h
          ·have cf:q≠g.γ i:=fun e=>by rw[e,cj]at q2;cases q2
           exact .inr ⟨q,cap,c2,e',q1,q2,q3,(Fz w _ q c' cf).trans q4,q5,q6⟩
       ·rw[aA jL]at fp
        exact .inl ⟨fp,fun _=>⟨fun e=>jL (by rw[cj]at e;cases e;rfl),fun _ e=>(by rw[cj]at e;cases e)⟩⟩
      refine cd.value (x:=.tuple #[]) (g':=g) (w':=w.setRow (g.γ i) c') ?_ (r1.put hd (.tuple _ _ rfl (fun i v x hv _=>by simp at hv)))
      rw[fh,ep,ah];rfl
    ·cases hG
  ·cases ah
 ·cases ah
end
end Go.Vm

/- The value machine: copy. -/
import Derived.Test.YtmpikpodpgnjhaaGreatVmO
namespace Go.Vm
set_option linter.all false
section
variable {P:Program} {E:Entry} {g g':Gh} {S S':St} {a:Act} {w w':World}
theorem Fy{cs:List V}{c:Array Value}{X:Cx}(hj:∀(j:Nat) (v:V),cs[j]?=some v→v.cM=true∧∃y,c[j]?=some y∧bj X v y):cs.length≤c.size:=by
 rcases Nat.lt_or_ge c.size cs.length with h|h
 ·obtain⟨_,y,hy,_⟩:=hj c.size cs[c.size] (List.getElem?_eq_getElem h)
  simp at hy
 ·exact h
theorem ZV(hR:R E g S a w){src:Option Nat}{b:V}{y:Value}{us:List V}(hr:bj (S.cx g w) b y)(h:S.uY src b=some us):∃base cap,y=.slice base us.length cap ∧
  (us≠[]→∃(ad:Addr) (l:List Value),base=some ad∧l.length=us.length∧(∀(j:Nat) (z:Value),l[j]?=some z→w.cell? (ad.add j)=some z)∧∀(j:Nat) (u:V) (z:Value),us[j]?=some u→l[j]?=some z→bj (S.cx g w) u z):=by
 unfold St.uY at h;split at h
 ·cases h;exact⟨none,0,nV hr,fun h=>absurd rfl h⟩
 ·cases h
  rcases rh hr with e | ⟨ad,e⟩
  ·exact⟨none,0,e,fun h=>absurd rfl h⟩
  ·exact⟨some ad,0,e,fun h=>absurd rfl h⟩
 ·cases h
  obtain⟨ad,cap,e⟩:=B0 hr;exact⟨some ad,cap,e,fun h=>absurd rfl h⟩
 ·rename_i tk n es
  cases hn:n==1 with
  |false=>simp[hn]at h
  |true =>
   simp only[hn,cond_true,Option.some.injEq]at h;have:=eq_of_beq hn;subst this;subst h;cases hr with
   |plain hv _ =>
    rcases ER hv with⟨rfl,e⟩ | ⟨rfl,ad,cap,e⟩ | ⟨q,off,cap,l,e,_,hc,hl⟩
    ·exact⟨none,0,e,fun h=>absurd rfl h⟩
    ·exact⟨some ad,cap,e,fun h=>absurd rfl h⟩
    ·obtain⟨f1,f2⟩:=wX hl
     have km:=hl.len;refine⟨_,cap,by rw[f1,km,Nat.mul_one];exact e,fun _=>⟨_,l,rfl,f1.symm,fun j z hj=>?_,fun j u z hu hz=>?_⟩⟩
     ·rw[kI,cell?_eq];exact hc j z hj
     ·obtain⟨q1,z',q2,q3⟩:=f2 j u hu
      rw[hz]at q2;cases q2;exact .plain q3 (rY q1)
 ·rename_i id s n
  split at h
  ·rename_i cs ho
   cases hc:(src==some id&&(s==1)&&Nat.ble n cs.length) with
   |false=>simp[hc]at h
   |true =>
    simp only[hc,cond_true,Option.some.injEq]at h;simp only[Bool.and_eq_true,beq_iff_eq]at hc;obtain⟨⟨rfl,rfl⟩,hle⟩:=hc;simp only at ho;have hle:=Nat.le_of_ble_eq_true hle;subst h;have hlen:(cs.take n).length=n:=by simp;omega
    rcases pJ hr with⟨cap,eP,fH,e⟩ | ⟨rfl,hz,_⟩
    ·refine⟨_,cap,by rw[hlen];exact e,fun cF=>?_⟩
     rcases hR.bb id cs ho with⟨h0,_⟩ | ⟨_,_,_,c,et,hh,_,hj⟩
     ·subst h0;simp at cF
     have fx:=Fy hj;refine⟨_,c.toList.take n,rfl,by simp;omega,fun j z uI=>?_,fun j u z hu hz=>?_⟩
     ·rw[kI,cell?_eq]
      show cellAt w.heap (g.κ id) _=_;rw[lg hh];rw[List.getElem?_take]at uI;split at uI
      ·simpa using uI
      ·cases uI
     ·rw[List.getElem?_take]at hu hz
      split at hu
      ·rename_i bG
       rw[if_pos bG]at hz;obtain⟨_,z',q2,q3⟩:=hj j u hu;have hz:c[j]?=some z:=by simpa using hz
       rw[hz]at q2;cases q2;exact q3
      ·cases hu
    ·rcases hz with e | ⟨ad,e⟩
     ·exact⟨none,0,by simpa using e,fun h=>absurd (by simp) h⟩
     ·exact⟨some ad,0,by simpa using e,fun h=>absurd (by simp) h⟩
  ·cases h
 ·rename_i id s off n
  split at h
  ·rename_i cs ho
   cases hc:(src==some id&&(s==1)&&Nat.ble (off+n) cs.length) with
   |false=>simp[hc]at h
   |true =>
    simp only[hc,cond_true,Option.some.injEq]at h;simp only[Bool.and_eq_true,beq_iff_eq]at hc;obtain⟨⟨rfl,rfl⟩,hle⟩:=hc;simp only at ho;have hle:=Nat.le_of_ble_eq_true hle;subst h;have hlen:((cs.drop off).take n).length=n:=by simp;omega
    obtain⟨cap,eP,e⟩:=Wm hr;refine⟨_,cap,by rw[hlen];exact e,fun cF=>?_⟩
    rcases hR.bb id cs ho with⟨h0,_⟩ | ⟨_,_,_,c,et,hh,_,hj⟩
    ·subst h0;simp at cF
    have fx:=Fy hj;refine⟨_,(c.toList.drop off).take n,rfl,by simp;omega,fun j z uI=>?_,fun j u z hu hz=>?_⟩
    ·rw[kI,cell?_eq]
     show cellAt w.heap (g.κ id) _=_;rw[lg hh];rw[List.getElem?_take]at uI;split at uI
     ·rw[List.getElem?_drop]at uI
      simpa using uI
     ·cases uI
    ·rw[List.getElem?_take]at hu hz
     split at hu
     ·rename_i bG
      rw[if_pos bG]at hz;rw[List.getElem?_drop]at hu hz;obtain⟨_,z',q2,q3⟩:=hj _ u hu;have hz:c[off+j]?=some z:=by simpa using hz
      rw[hz]at q2;cases q2;exact q3
     ·cases hu
  ·cases h
 ·cases h
theorem ZW{dT sT ty e:TypeId}(ht:P.underlying dT=some (.slice e))(hs:fh P e=some 1)(base:Option Addr)(dl dc:Nat)(Cc:Option Addr)(sl sc:Nat)(h:Nat.min sl dl=0) :
  (Builtin.copy_ #[dT,sT] ty #[.slice base dl dc,.slice Cc sl sc]).run P w=.ok (goInt 0) w:=by
 have hu:=ja (P:=P) (w:=w) ht;have hz:=nW (P:=P) (w:=w) hs;cases Cc<;>cases base<;>simp[Builtin.copy_,hu,hz,Builtin.lenOf,h,Builtin.firstCells,loadCells,loadCellsFrom,storeCells]
theorem XN{o:Oper}{t t2 e:TypeId}{p q:Operand}{Fe:Nat}{src:Option Nat}{x y:bB}{C:bC}(ho:o.op=.call ⟨.builtin .copy,#[p,q],#[t,t2]⟩)(ht:P.underlying t=some (.slice e))(hs:fh P e=some 1)
  (hp:bX p x=true) (hq:bX q y=true) (hR:R E g S a w) (hd:∀d,o.dst=some d→d<E.nt) (aj:VO.run C o.dst S (.qm Fe src x y)=some S'):ct P E o S S' a w:=by
 have gI:∀w,(execOp a.eval o).run P w=((Builtin.copy_ #[t,t2] o.type #[a.eval p,a.eval q]).run P w).andThen fun v w=>.ok (.value v) w:=fun w=>by
  simp[execOp,ho,resolve,invoke,builtin]
 simp only[VO.run]at aj;split at aj
 ·rename_i id s n b hx hy
  split at aj
  ·rename_i cs us Q6 nc
   cases hc:(id==Fe&&(s==1)&&Nat.ble n cs.length&&us.all V.sc) with
   |false=>simp[hc]at aj
   |true =>
    simp only[hc,cond_true]at aj;cases aj;simp only[Bool.and_eq_true,beq_iff_eq,List.all_eq_true]at hc;obtain⟨⟨⟨rfl,rfl⟩,hle⟩,yF⟩:=hc;have iQ:∀u∈us,u.cM=true:=fun u hu=>by have:=yF u hu;cases u<;>simp_all[V.sc,V.cM]
    have hle:=Nat.le_of_ble_eq_true hle;obtain⟨base,ZY,e2,EU⟩:=ZV hR (cZ hR hq hy) nc;have hk:(us.take n).length=Nat.min us.length n:=by simp[Nat.min_comm]
    by_cases h0:Nat.min us.length n=0
    ·have ZZ:us.take n=[]:=List.length_eq_zero_iff.1 (hk.trans h0)
     rw[ZZ];simp only[List.length_nil,List.drop_zero,List.nil_append];obtain⟨Q7,dl,dc,e1,C1⟩:∃Q7 dl dc,a.eval p=.slice Q7 dl dc∧dl=n:=by
      rcases pJ (cZ hR hp hx) with⟨cap,_,_,e1⟩ | ⟨rfl,e1 | ⟨ad,e1⟩,_⟩
      ·exact⟨_,_,_,e1,rfl⟩
      ·exact⟨_,_,_,e1,rfl⟩
      ·exact⟨_,_,_,e1,rfl⟩
     subst C1;have rA:R E g { S with bb:=(id,cs)::S.bb } a w:=⟨hR.env,fun i ek hi=>by
      have hi:look i ((id,cs)::S.bb)=some ek:=hi;rw[dQ]at hi;by_cases j9:id=i
      ·subst j9
       rw[if_pos rfl]at hi;cases hi;exact hR.bb id cs Q6
      ·rw[if_neg j9]at hi
       exact hR.bb i ek hi,hR.bm,hR.az,hR.defers,hR.jy,hR.same⟩
     refine ct.value (x:=goInt 0) (w':=w) (g':=g) ?_ (rA.put hd (bj.int _ _));rw[gI,e1,e2,ZW ht hs _ _ _ _ _ _ h0];rfl
    ·have cF:us≠[]:=fun e=>h0 (by subst e;simp)
     obtain⟨ad,l,rfl,km,nk,oG⟩:=EU cF;have EY:n≠0:=fun e=>h0 (by subst e;simp)
     obtain⟨cap,eP,fH,e1⟩:=(pJ (cZ hR hp hx)).resolve_right (fun h=>EY h.1);obtain⟨cJ,gG,hm,c,et,hh,Z0,hj⟩:=(hR.bb id cs Q6).resolve_left (fun h=>by have:=h.1;subst this;simp at hle;exact EY hle)
     have fx:=Fy hj;have A3:(l.take n).length=Nat.min us.length n:=by simp[km,Nat.min_comm]
     have fX:0+(l.take n).length≤c.size:=by rw[A3];have h3:Nat.min us.length n≤n:=Nat.min_le_right _ _;omega
     have h1:∀z∈l.take n,z.oneCell'=true:=fun z hz=>by
      obtain⟨j,nD⟩:=List.mem_iff_getElem?.1 (List.mem_of_mem_take hz);have pn:=eZ nD;have Q8:j<us.length:=by omega
      exact Il (oG j us[j] z (List.getElem?_eq_getElem Q8) nD) (iQ _ (List.getElem_mem Q8))
     have aj:=run_copy_row (P:=P) w t t2 o.type e (g.κ id) 0 n cap ad us.length ZY c et (l.take n) ht hs hh A3 (fun j v nD=>nk j v (by
      rw[List.getElem?_take]at nD;split at nD
      ·exact nD
      ·cases nD)) fX h1
     let c':Array Value:=(c.toList.take 0++l.take n++c.toList.drop (0+(l.take n).length)).toArray
     have lj:(w.setRow (g.κ id) c').heap[g.κ id]?=some (.cells c' et (0,0)):=setRow_heap w _ c c' et _ hh;have tt:=Cj (c':=c') (S:=S) (w:=w) hm (.inl gG) (fun _ _ e=>by rw[cJ]at e;cases e) hR
     have w6:∀i,iP (S.cx g w) ⟨(w.setRow (g.κ id) c').heap,g,S.az.length,S.bm⟩ i:=fun i=>tt.keeps hR (fun e=>by cases e) (fun e=>by cases e) (fun _ e=>by rw[cJ]at e;cases e)
     have rA:R E g { S with bb:=(id,us.take n++cs.drop (us.take n).length)::S.bb } a (w.setRow (g.κ id) c'):=R.nf (S':={ S with bb:=(id,us.take n++cs.drop (us.take n).length)::S.bb }) tt hR rfl rfl (fun i=>.inl (w6 i)) (fun s v hs=>.inl hs) (fun i ek hi=>by
       have hi:look i ((id,us.take n++cs.drop (us.take n).length)::S.bb)=some ek:=hi;rw[dQ]at hi;by_cases j9:id=i
       ·subst j9
        rw[if_pos rfl]at hi;cases hi;refine .inr ⟨cJ,gG,hm,c',et,lj,(by rw[show c'.size=c.size from Ci fX];exact Z0),fun j u hu=>?_⟩
        show _∧∃y,c'[j]?=some y∧_;rw[show c'[j]?=_ from Ag fX j];rw[List.getElem?_append]at hu;split at hu
        ·rename_i bG
         have Q9:j<(l.take n).length:=by omega
         rw[if_pos (by omega)]
         simp only[Nat.sub_zero];have F5:us[j]?=some u:=by
          rw[List.getElem?_take]at hu;split at hu
          ·exact hu
          ·cases hu
         have xO:l[j]?=some (l.take n)[j]:=by
          have:=List.getElem?_eq_getElem Q9;rw[List.getElem?_take]at this;split at this
          ·exact this
          ·cases this
         exact⟨iQ u (List.mem_of_getElem? F5),_,List.getElem?_eq_getElem Q9,(oG j u _ F5 xO).mono tt.le (fun i=>.inl (w6 i))⟩
        ·rename_i bG
         rw[if_neg (by omega)]
         rw[List.getElem?_drop,show(us.take n).length+(j-(us.take n).length)=j from by omega]at hu
         obtain⟨q1,y,q2,q3⟩:=hj j u hu;exact⟨q1,y,q2,q3.mono tt.le (fun i=>.inl (w6 i))⟩
       ·rw[if_neg j9]at hi
        exact .inl ⟨hi,(fun e=>by cases e),fun _ e=>j9 (by rw[cJ]at e;cases e;rfl)⟩)
      (fun f k b hf hb=>.inl ⟨(fun e=>by cases e),fun _ e=>by rw[cJ]at e;cases e⟩)
      (fun i o hi=>.inl ⟨hi,fun _=>⟨fun e=>(by rw[cJ]at e;cases e),fun _ e=>(by rw[cJ]at e;cases e)⟩⟩)
     refine ct.value (x:=goInt (l.take n).length) (w':=w.setRow (g.κ id) c') (g':=g) ?_ (rA.put hd (by rw[hk,A3];exact bj.int _ _))
     have e1:a.eval p=.slice (some ⟨g.κ id,0,none⟩) n cap:=e1;rw[gI,e1,e2,aj];rfl
  ·cases aj
 ·cases aj
end
end Go.Vm

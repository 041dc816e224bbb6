/- The value machine: copy. -/
import Derived.Test.YtocclbnghhaejaaGreatVmO
namespace Go.Vm
set_option linter.all false
section
variable {P:Program} {E:Entry} {g g':Gh} {S S':St} {a:Act} {w w':World}
theorem H8{cs:List V}{c:Array Value}{X:Cx}(hj:∀(j:Nat) (v:V),cs[j]?=some v→v.cI=true∧∃y,c[j]?=some y∧aZ X v y):cs.length≤c.size:=by
 rcases Nat.lt_or_ge c.size cs.length with h|h
 ·obtain⟨_,y,hy,_⟩:=hj c.size cs[c.size] (List.getElem?_eq_getElem h)
  simp at hy
 ·exact h
theorem afM(hR:R E g S a w){src:Option Nat}{b:V}{y:Value}{us:List V}(hr:aZ (S.cx g w) b y)(h:S.wW src b=some us):∃base cap,y=.slice base us.length cap ∧
  (us≠[]→∃(ad:Addr) (l:List Value),base=some ad∧l.length=us.length∧(∀(j:Nat) (z:Value),l[j]?=some z→w.cell? (ad.add j)=some z)∧∀(j:Nat) (u:V) (z:Value),us[j]?=some u→l[j]?=some z→aZ (S.cx g w) u z):=by
 unfold St.wW at h;split at h
 ·cases h;exact⟨none,0,nG hr,fun h=>absurd rfl h⟩
 ·cases h
  rcases sJ hr with e | ⟨ad,e⟩
  ·exact⟨none,0,e,fun h=>absurd rfl h⟩
  ·exact⟨some ad,0,e,fun h=>absurd rfl h⟩
 ·cases h
  obtain⟨ad,cap,e⟩:=Eg hr;exact⟨some ad,cap,e,fun h=>absurd rfl h⟩
 ·rename_i tk n es
  cases hn:n==1 with
  |false=>simp[hn]at h
  |true =>
   simp only[hn,cond_true,Option.some.injEq]at h;have:=eq_of_beq hn;subst this;subst h;cases hr with
   |plain hv _ =>
    rcases Hv hv with⟨rfl,e⟩ | ⟨rfl,ad,cap,e⟩ | ⟨q,off,cap,l,e,_,hc,hl⟩
    ·exact⟨none,0,e,fun h=>absurd rfl h⟩
    ·exact⟨some ad,cap,e,fun h=>absurd rfl h⟩
    ·obtain⟨f1,f2⟩:=xn hl
     have ky:=hl.len;refine⟨_,cap,by rw[f1,ky,Nat.mul_one];exact e,fun _=>⟨_,l,rfl,f1.symm,fun j z hj=>?_,fun j u z hu hz=>?_⟩⟩
     ·rw[kG,cell?_eq];exact hc j z hj
     ·obtain⟨q1,z',q2,q3⟩:=f2 j u hu
      rw[hz]at q2;cases q2;exact .plain q3 (tH q1)
 ·rename_i id s n
  split at h
  ·rename_i cs ho
   cases hc:(src==some id&&(s==1)&&Nat.ble n cs.length) with
   |false=>simp[hc]at h
   |true =>
    simp only[hc,cond_true,Option.some.injEq]at h;simp only[Bool.and_eq_true,beq_iff_eq]at hc;obtain⟨⟨rfl,rfl⟩,hle⟩:=hc;simp only at ho;have hle:=Nat.le_of_ble_eq_true hle;subst h;have hlen:(cs.take n).length=n:=by simp;omega
    rcases pO hr with⟨cap,eA,fC,e⟩ | ⟨rfl,hz,_⟩
    ·refine⟨_,cap,by rw[hlen];exact e,fun cg=>?_⟩
     rcases hR.aU id cs ho with⟨h0,_⟩ | ⟨_,_,_,c,et,hh,_,hj⟩
     ·subst h0;simp at cg
     have ei:=H8 hj;refine⟨_,c.toList.take n,rfl,by simp;omega,fun j z wu=>?_,fun j u z hu hz=>?_⟩
     ·rw[kG,cell?_eq]
      show cellAt w.heap (g.κ id) _=_;rw[kZ hh];rw[List.getElem?_take]at wu;split at wu
      ·simpa using wu
      ·cases wu
     ·rw[List.getElem?_take]at hu hz
      split at hu
      ·rename_i bA
       rw[if_pos bA]at hz;obtain⟨_,z',q2,q3⟩:=hj j u hu;have hz:c[j]?=some z:=by simpa using hz
       rw[hz]at q2;cases q2;exact q3
      ·cases hu
    ·rcases hz with e | ⟨ad,e⟩
     ·exact⟨none,0,by simpa using e,fun h=>absurd (by simp) h⟩
     ·exact⟨some ad,0,by simpa using e,fun h=>absurd (by simp) h⟩
  ·cases h
 ·rename_i id s off n
  split at h
  ·rename_i cs ho
   cases hc:(src==some id&&(s==1)&&Nat.ble (off+n) cs.length) with
   |false=>simp[hc]at h
   |true =>
    simp only[hc,cond_true,Option.some.injEq]at h;simp only[Bool.and_eq_true,beq_iff_eq]at hc;obtain⟨⟨rfl,rfl⟩,hle⟩:=hc;simp only at ho;have hle:=Nat.le_of_ble_eq_true hle;subst h;have hlen:((cs.drop off).take n).length=n:=by simp;omega
    obtain⟨cap,eA,e⟩:=ab8 hr;refine⟨_,cap,by rw[hlen];exact e,fun cg=>?_⟩
    rcases hR.aU id cs ho with⟨h0,_⟩ | ⟨_,_,_,c,et,hh,_,hj⟩
    ·subst h0;simp at cg
    have ei:=H8 hj;refine⟨_,(c.toList.drop off).take n,rfl,by simp;omega,fun j z wu=>?_,fun j u z hu hz=>?_⟩
    ·rw[kG,cell?_eq]
     show cellAt w.heap (g.κ id) _=_;rw[kZ hh];rw[List.getElem?_take]at wu;split at wu
     ·rw[List.getElem?_drop]at wu
      simpa using wu
     ·cases wu
    ·rw[List.getElem?_take]at hu hz
     split at hu
     ·rename_i bA
      rw[if_pos bA]at hz;rw[List.getElem?_drop]at hu hz;obtain⟨_,z',q2,q3⟩:=hj _ u hu;have hz:c[off+j]?=some z:=by simpa using hz
      rw[hz]at q2;cases q2;exact q3
     ·cases hu
  ·cases h
 ·cases h
theorem afN{dT sT ty e:TypeId}(ht:P.underlying dT=some (.slice e))(hs:eO P e=some 1)(base:Option Addr)(dl dc:Nat)(Es:Option Addr)(sl sc:Nat)(h:Nat.min sl dl=0) :
  (Builtin.copy_ #[dT,sT] ty #[.slice base dl dc,.slice Es sl sc]).run P w=.ok (goInt 0) w:=by
 have hu:=iV (P:=P) (w:=w) ht;have hz:=nH (P:=P) (w:=w) hs;cases Es<;>cases base<;>simp[Builtin.copy_,hu,hz,Builtin.lenOf,h,Builtin.firstCells,loadCells,loadCellsFrom,storeCells]
theorem adD{o:Oper}{t t2 e:TypeId}{p q:Operand}{HP:Nat}{src:Option Nat}{x y:bq}{C:bw}(ho:o.op=.call ⟨.builtin .copy,#[p,q],#[t,t2]⟩)(ht:P.underlying t=some (.slice e))(hs:eO P e=some 1)
  (hp:bO p x=true) (hq:bO q y=true) (hR:R E g S a w) (hd:∀d,o.dst=some d→d<E.nt) (ah:VO.run C o.dst S (.tv HP src x y)=some S'):cb P E o S S' a w:=by
 have gp:∀w,(execOp a.eval o).run P w=((Builtin.copy_ #[t,t2] o.type #[a.eval p,a.eval q]).run P w).andThen fun v w=>.ok (.value v) w:=fun w=>by
  simp[execOp,ho,resolve,invoke,builtin]
 simp only[VO.run]at ah;split at ah
 ·rename_i id s n b hx hy
  split at ah
  ·rename_i cs us Uk nI
   cases hc:(id==HP&&(s==1)&&Nat.ble n cs.length&&us.all V.sc) with
   |false=>simp[hc]at ah
   |true =>
    simp only[hc,cond_true]at ah;cases ah;simp only[Bool.and_eq_true,beq_iff_eq,List.all_eq_true]at hc;obtain⟨⟨⟨rfl,rfl⟩,hle⟩,A9⟩:=hc;have iX:∀u∈us,u.cI=true:=fun u hu=>by have:=A9 u hu;cases u<;>simp_all[V.sc,V.cI]
    have hle:=Nat.le_of_ble_eq_true hle;obtain⟨base,afP,e2,Hz⟩:=afM hR (cQ hR hq hy) nI;have hk:(us.take n).length=Nat.min us.length n:=by simp[Nat.min_comm]
    by_cases h0:Nat.min us.length n=0
    ·have ht0:us.take n=[]:=List.length_eq_zero_iff.1 (hk.trans h0)
     rw[ht0];simp only[List.length_nil,List.drop_zero,List.nil_append];obtain⟨Ul,dl,dc,e1,A3⟩:∃Ul dl dc,a.eval p=.slice Ul dl dc∧dl=n:=by
      rcases pO (cQ hR hp hx) with⟨cap,_,_,e1⟩ | ⟨rfl,e1 | ⟨ad,e1⟩,_⟩
      ·exact⟨_,_,_,e1,rfl⟩
      ·exact⟨_,_,_,e1,rfl⟩
      ·exact⟨_,_,_,e1,rfl⟩
     subst A3;have uf:R E g { S with aU:=(id,cs)::S.aU } a w:=⟨hR.env,fun i dQ hi=>by
      have hi:look i ((id,cs)::S.aU)=some dQ:=hi;rw[dA]at hi;by_cases jk:id=i
      ·subst jk
       rw[if_pos rfl]at hi;cases hi;exact hR.aU id cs Uk
      ·rw[if_neg jk]at hi
       exact hR.aU i dQ hi,hR.bg,hR.aF,hR.defers,hR.jh,hR.same⟩
     refine cb.value (x:=goInt 0) (w':=w) (g':=g) ?_ (uf.put hd (aZ.int _ _));rw[gp,e1,e2,afN ht hs _ _ _ _ _ _ h0];rfl
    ·have cg:us≠[]:=fun e=>h0 (by subst e;simp)
     obtain⟨ad,l,rfl,ky,nR,rH⟩:=Hz cg;have vW:n≠0:=fun e=>h0 (by subst e;simp)
     obtain⟨cap,eA,fC,e1⟩:=(pO (cQ hR hp hx)).resolve_right (fun h=>vW h.1);obtain⟨cA,gf,hm,c,et,hh,afR,hj⟩:=(hR.aU id cs Uk).resolve_left (fun h=>by have:=h.1;subst this;simp at hle;exact vW hle)
     have ei:=H8 hj;have Dg:(l.take n).length=Nat.min us.length n:=by simp[ky,Nat.min_comm]
     have fQ:0+(l.take n).length≤c.size:=by rw[Dg];have h3:Nat.min us.length n≤n:=Nat.min_le_right _ _;omega
     have h1:∀z∈l.take n,z.oneCell'=true:=fun z hz=>by
      obtain⟨j,oc⟩:=List.mem_iff_getElem?.1 (List.mem_of_mem_take hz);have pQ:=eK oc;have Um:j<us.length:=by omega
      exact KQ (rH j us[j] z (List.getElem?_eq_getElem Um) oc) (iX _ (List.getElem_mem Um))
     have ah:=run_copy_row (P:=P) w t t2 o.type e (g.κ id) 0 n cap ad us.length afP c et (l.take n) ht hs hh Dg (fun j v oc=>nR j v (by
      rw[List.getElem?_take]at oc;split at oc
      ·exact oc
      ·cases oc)) fQ h1
     let c':Array Value:=(c.toList.take 0++l.take n++c.toList.drop (0+(l.take n).length)).toArray
     have lK:(w.setRow (g.κ id) c').heap[g.κ id]?=some (.cells c' et (0,0)):=setRow_heap w _ c c' et _ hh;have tt:=Ey (c':=c') (S:=S) (w:=w) hm (.inl gf) (fun _ _ e=>by rw[cA]at e;cases e) hR
     have xw:∀i,iU (S.cx g w) ⟨(w.setRow (g.κ id) c').heap,g,S.aF.length,S.bg⟩ i:=fun i=>tt.keeps hR (fun e=>by cases e) (fun e=>by cases e) (fun _ e=>by rw[cA]at e;cases e)
     have uf:R E g { S with aU:=(id,us.take n++cs.drop (us.take n).length)::S.aU } a (w.setRow (g.κ id) c'):=R.nK (S':={ S with aU:=(id,us.take n++cs.drop (us.take n).length)::S.aU }) tt hR rfl rfl (fun i=>.inl (xw i)) (fun s v hs=>.inl hs) (fun i dQ hi=>by
       have hi:look i ((id,us.take n++cs.drop (us.take n).length)::S.aU)=some dQ:=hi;rw[dA]at hi;by_cases jk:id=i
       ·subst jk
        rw[if_pos rfl]at hi;cases hi;refine .inr ⟨cA,gf,hm,c',et,lK,(by rw[show c'.size=c.size from Ex fQ];exact afR),fun j u hu=>?_⟩
        show _∧∃y,c'[j]?=some y∧_;rw[show c'[j]?=_ from Ck fQ j];rw[List.getElem?_append]at hu;split at hu
        ·rename_i bA
         have Uo:j<(l.take n).length:=by omega
         rw[if_pos (by omega)]
         simp only[Nat.sub_zero];have IL:us[j]?=some u:=by
          rw[List.getElem?_take]at hu;split at hu
          ·exact hu
          ·cases hu
         have wZ:l[j]?=some (l.take n)[j]:=by
          have:=List.getElem?_eq_getElem Uo;rw[List.getElem?_take]at this;split at this
          ·exact this
          ·cases this
         exact⟨iX u (List.mem_of_getElem? IL),_,List.getElem?_eq_getElem Uo,(rH j u _ IL wZ).mono tt.le (fun i=>.inl (xw i))⟩
        ·rename_i bA
         rw[if_neg (by omega)]
         rw[List.getElem?_drop,show(us.take n).length+(j-(us.take n).length)=j from by omega]at hu
         obtain⟨q1,y,q2,q3⟩:=hj j u hu;exact⟨q1,y,q2,q3.mono tt.le (fun i=>.inl (xw i))⟩
       ·rw[if_neg jk]at hi
        exact .inl ⟨hi,(fun e=>by cases e),fun _ e=>jk (by rw[cA]at e;cases e;rfl)⟩)
      (fun f k b hf hb=>.inl ⟨(fun e=>by cases e),fun _ e=>by rw[cA]at e;cases e⟩)
      (fun i o hi=>.inl ⟨hi,fun _=>⟨fun e=>(by rw[cA]at e;cases e),fun _ e=>(by rw[cA]at e;cases e)⟩⟩)
     refine cb.value (x:=goInt (l.take n).length) (w':=w.setRow (g.κ id) c') (g':=g) ?_ (uf.put hd (by rw[hk,Dg];exact aZ.int _ _))
     have e1:a.eval p=.slice (some ⟨g.κ id,0,none⟩) n cap:=e1;rw[gp,e1,e2,ah];rfl
  ·cases ah
 ·cases ah
end
end Go.Vm

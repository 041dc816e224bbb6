/- The value machine: copy. -/
import Derived.Test.YtmpikpodpgnjhaaGreatVmO
namespace Go.Vm
set_option linter.all false
section
variable {P:Program} {E:Entry} {g g':Gh} {S S':St} {a:Act} {w w':World}
theorem Fu{cs:List V}{c:Array Value}{X:Cx}(hj:∀(j:Nat) (v:V),cs[j]?=some v→v.cz=true∧∃y,c[j]?=some y∧aY X v y):cs.length≤c.size:=by
 rcases Nat.lt_or_ge c.size cs.length with h|h
 ·obtain⟨_,y,hy,_⟩:=hj c.size cs[c.size] (List.getElem?_eq_getElem h)
  simp at hy
 ·exact h
theorem abC(hR:R E g S a w){src:Option Nat}{b:V}{y:Value}{us:List V}(hr:aY (S.cx g w) b y)(h:S.vu src b=some us):∃base cap,y=.slice base us.length cap ∧
  (us≠[]→∃(ad:Addr) (l:List Value),base=some ad∧l.length=us.length∧(∀(j:Nat) (z:Value),l[j]?=some z→w.cell? (ad.add j)=some z)∧∀(j:Nat) (u:V) (z:Value),us[j]?=some u→l[j]?=some z→aY (S.cx g w) u z):=by
 unfold St.vu at h;split at h
 ·cases h;exact⟨none,0,nE hr,fun h=>absurd rfl h⟩
 ·cases h
  rcases qQ hr with e | ⟨ad,e⟩
  ·exact⟨none,0,e,fun h=>absurd rfl h⟩
  ·exact⟨some ad,0,e,fun h=>absurd rfl h⟩
 ·cases h
  obtain⟨ad,cap,e⟩:=BP hr;exact⟨some ad,cap,e,fun h=>absurd rfl h⟩
 ·rename_i tk n es
  cases hn:n==1 with
  |false=>simp[hn]at h
  |true =>
   simp only[hn,cond_true,Option.some.injEq]at h;have:=eq_of_beq hn;subst this;subst h;cases hr with
   |plain hv _ =>
    rcases EO hv with⟨rfl,e⟩ | ⟨rfl,ad,cap,e⟩ | ⟨q,off,cap,l,e,_,hc,hl⟩
    ·exact⟨none,0,e,fun h=>absurd rfl h⟩
    ·exact⟨some ad,cap,e,fun h=>absurd rfl h⟩
    ·obtain⟨f1,f2⟩:=xj hl
     have jV:=hl.len;refine⟨_,cap,by rw[f1,jV,Nat.mul_one];exact e,fun _=>⟨_,l,rfl,f1.symm,fun j z hj=>?_,fun j u z hu hz=>?_⟩⟩
     ·rw[km,cell?_eq];exact hc j z hj
     ·obtain⟨q1,z',q2,q3⟩:=f2 j u hu
      rw[hz]at q2;cases q2;exact .plain q3 (sk q1)
 ·rename_i id s n
  split at h
  ·rename_i cs ho
   cases hc:(src==some id&&(s==1)&&Nat.ble n cs.length) with
   |false=>simp[hc]at h
   |true =>
    simp only[hc,cond_true,Option.some.injEq]at h;simp only[Bool.and_eq_true,beq_iff_eq]at hc;obtain⟨⟨rfl,rfl⟩,hle⟩:=hc;simp only at ho;have hle:=Nat.le_of_ble_eq_true hle;subst h;have hlen:(cs.take n).length=n:=by simp;omega
    rcases pg hr with⟨cap,eu,eT,e⟩ | ⟨rfl,hz,_⟩
    ·refine⟨_,cap,by rw[hlen];exact e,fun ch=>?_⟩
     rcases hR.aV id cs ho with⟨h0,_⟩ | ⟨_,_,_,c,et,hh,_,hj⟩
     ·subst h0;simp at ch
     have eW:=Fu hj;refine⟨_,c.toList.take n,rfl,by simp;omega,fun j z u4=>?_,fun j u z hu hz=>?_⟩
     ·rw[km,cell?_eq]
      show cellAt w.heap (g.κ id) _=_;rw[kM hh];rw[List.getElem?_take]at u4;split at u4
      ·simpa using u4
      ·cases u4
     ·rw[List.getElem?_take]at hu hz
      split at hu
      ·rename_i br
       rw[if_pos br]at hz;obtain⟨_,z',q2,q3⟩:=hj j u hu;have hz:c[j]?=some z:=by simpa using hz
       rw[hz]at q2;cases q2;exact q3
      ·cases hu
    ·rcases hz with e | ⟨ad,e⟩
     ·exact⟨none,0,by simpa using e,fun h=>absurd (by simp) h⟩
     ·exact⟨some ad,0,by simpa using e,fun h=>absurd (by simp) h⟩
  ·cases h
 ·rename_i id s off n
  split at h
  ·rename_i cs ho
   cases hc:(src==some id&&(s==1)&&Nat.ble (off+n) cs.length) with
   |false=>simp[hc]at h
   |true =>
    simp only[hc,cond_true,Option.some.injEq]at h;simp only[Bool.and_eq_true,beq_iff_eq]at hc;obtain⟨⟨rfl,rfl⟩,hle⟩:=hc;simp only at ho;have hle:=Nat.le_of_ble_eq_true hle;subst h;have hlen:((cs.drop off).take n).length=n:=by simp;omega
    obtain⟨cap,eu,e⟩:=X5 hr;refine⟨_,cap,by rw[hlen];exact e,fun ch=>?_⟩
    rcases hR.aV id cs ho with⟨h0,_⟩ | ⟨_,_,_,c,et,hh,_,hj⟩
    ·subst h0;simp at ch
    have eW:=Fu hj;refine⟨_,(c.toList.drop off).take n,rfl,by simp;omega,fun j z u4=>?_,fun j u z hu hz=>?_⟩
    ·rw[km,cell?_eq]
     show cellAt w.heap (g.κ id) _=_;rw[kM hh];rw[List.getElem?_take]at u4;split at u4
     ·rw[List.getElem?_drop]at u4
      simpa using u4
     ·cases u4
    ·rw[List.getElem?_take]at hu hz
     split at hu
     ·rename_i br
      rw[if_pos br]at hz;rw[List.getElem?_drop]at hu hz;obtain⟨_,z',q2,q3⟩:=hj _ u hu;have hz:c[off+j]?=some z:=by simpa using hz
      rw[hz]at q2;cases q2;exact q3
     ·cases hu
  ·cases h
 ·cases h
theorem abD{dT sT ty e:TypeId}(ht:P.underlying dT=some (.slice e))(hs:eN P e=some 1)(base:Option Addr)(dl dc:Nat)(B1:Option Addr)(sl sc:Nat)(h:Nat.min sl dl=0) :
  (Builtin.copy_ #[dT,sT] ty #[.slice base dl dc,.slice B1 sl sc]).run P w=.ok (goInt 0) w:=by
 have hu:=iE (P:=P) (w:=w) ht;have hz:=nF (P:=P) (w:=w) hs;cases B1<;>cases base<;>simp[Builtin.copy_,hu,hz,Builtin.lenOf,h,Builtin.firstCells,loadCells,loadCellsFrom,storeCells]
theorem Zu{o:Oper}{t t2 e:TypeId}{p q:Operand}{E9:Nat}{src:Option Nat}{x y:bj}{C:bm}(ho:o.op=.call ⟨.builtin .copy,#[p,q],#[t,t2]⟩)(ht:P.underlying t=some (.slice e))(hs:eN P e=some 1)
  (hp:bJ p x=true) (hq:bJ q y=true) (hR:R E g S a w) (hd:∀d,o.dst=some d→d<E.nt) (ah:VO.run C o.dst S (.rU E9 src x y)=some S'):b0 P E o S S' a w:=by
 have fW:∀w,(execOp a.eval o).run P w=((Builtin.copy_ #[t,t2] o.type #[a.eval p,a.eval q]).run P w).andThen fun v w=>.ok (.value v) w:=fun w=>by
  simp[execOp,ho,resolve,invoke,builtin]
 simp only[VO.run]at ah;split at ah
 ·rename_i id s n b hx hy
  split at ah
  ·rename_i cs us QY mT
   cases hc:(id==E9&&(s==1)&&Nat.ble n cs.length&&us.all V.sc) with
   |false=>simp[hc]at ah
   |true =>
    simp only[hc,cond_true]at ah;cases ah;simp only[Bool.and_eq_true,beq_iff_eq,List.all_eq_true]at hc;obtain⟨⟨⟨rfl,rfl⟩,hle⟩,y4⟩:=hc;have im:∀u∈us,u.cz=true:=fun u hu=>by have:=y4 u hu;cases u<;>simp_all[V.sc,V.cz]
    have hle:=Nat.le_of_ble_eq_true hle;obtain⟨base,abF,e2,ES⟩:=abC hR (cL hR hq hy) mT;have hk:(us.take n).length=Nat.min us.length n:=by simp[Nat.min_comm]
    by_cases h0:Nat.min us.length n=0
    ·have ht0:us.take n=[]:=List.length_eq_zero_iff.1 (hk.trans h0)
     rw[ht0];simp only[List.length_nil,List.drop_zero,List.nil_append];obtain⟨QZ,dl,dc,e1,yV⟩:∃QZ dl dc,a.eval p=.slice QZ dl dc∧dl=n:=by
      rcases pg (cL hR hp hx) with⟨cap,_,_,e1⟩ | ⟨rfl,e1 | ⟨ad,e1⟩,_⟩
      ·exact⟨_,_,_,e1,rfl⟩
      ·exact⟨_,_,_,e1,rfl⟩
      ·exact⟨_,_,_,e1,rfl⟩
     subst yV;have oM:R E g { S with aV:=(id,cs)::S.aV } a w:=⟨hR.env,fun i dR hi=>by
      have hi:look i ((id,cs)::S.aV)=some dR:=hi;rw[dF]at hi;by_cases jG:id=i
      ·subst jG
       rw[if_pos rfl]at hi;cases hi;exact hR.aV id cs QY
      ·rw[if_neg jG]at hi
       exact hR.aV i dR hi,hR.a7,hR.ay,hR.defers,hR.jb,hR.same⟩
     refine b0.value (x:=goInt 0) (w':=w) (g':=g) ?_ (oM.put hd (aY.int _ _));rw[fW,e1,e2,abD ht hs _ _ _ _ _ _ h0];rfl
    ·have ch:us≠[]:=fun e=>h0 (by subst e;simp)
     obtain⟨ad,l,rfl,jV,kZ,lZ⟩:=ES ch;have EW:n≠0:=fun e=>h0 (by subst e;simp)
     obtain⟨cap,eu,eT,e1⟩:=(pg (cL hR hp hx)).resolve_right (fun h=>EW h.1);obtain⟨cn,fU,hm,c,et,hh,abH,hj⟩:=(hR.aV id cs QY).resolve_left (fun h=>by have:=h.1;subst this;simp at hle;exact EW hle)
     have eW:=Fu hj;have u5:(l.take n).length=Nat.min us.length n:=by simp[jV,Nat.min_comm]
     have fy:0+(l.take n).length≤c.size:=by rw[u5];have h3:Nat.min us.length n≤n:=Nat.min_le_right _ _;omega
     have h1:∀z∈l.take n,z.oneCell'=true:=fun z hz=>by
      obtain⟨j,nf⟩:=List.mem_iff_getElem?.1 (List.mem_of_mem_take hz);have oN:=eC nf;have Q0:j<us.length:=by omega
      exact Ig (lZ j us[j] z (List.getElem?_eq_getElem Q0) nf) (im _ (List.getElem_mem Q0))
     have ah:=run_copy_row (P:=P) w t t2 o.type e (g.κ id) 0 n cap ad us.length abF c et (l.take n) ht hs hh u5 (fun j v nf=>kZ j v (by
      rw[List.getElem?_take]at nf;split at nf
      ·exact nf
      ·cases nf)) fy h1
     let c':Array Value:=(c.toList.take 0++l.take n++c.toList.drop (0+(l.take n).length)).toArray
     have kN:(w.setRow (g.κ id) c').heap[g.κ id]?=some (.cells c' et (0,0)):=setRow_heap w _ c c' et _ hh;have tt:=B7 (c':=c') (S:=S) (w:=w) hm (.inl fU) (fun _ _ e=>by rw[cn]at e;cases e) hR
     have xn:∀i,il (S.cx g w) ⟨(w.setRow (g.κ id) c').heap,g,S.ay.length,S.a7⟩ i:=fun i=>tt.keeps hR (fun e=>by cases e) (fun e=>by cases e) (fun _ e=>by rw[cn]at e;cases e)
     have oM:R E g { S with aV:=(id,us.take n++cs.drop (us.take n).length)::S.aV } a (w.setRow (g.κ id) c'):=R.mU (S':={ S with aV:=(id,us.take n++cs.drop (us.take n).length)::S.aV }) tt hR rfl rfl (fun i=>.inl (xn i)) (fun s v hs=>.inl hs) (fun i dR hi=>by
       have hi:look i ((id,us.take n++cs.drop (us.take n).length)::S.aV)=some dR:=hi;rw[dF]at hi;by_cases jG:id=i
       ·subst jG
        rw[if_pos rfl]at hi;cases hi;refine .inr ⟨cn,fU,hm,c',et,kN,(by rw[show c'.size=c.size from B6 fy];exact abH),fun j u hu=>?_⟩
        show _∧∃y,c'[j]?=some y∧_;rw[show c'[j]?=_ from Ag fy j];rw[List.getElem?_append]at hu;split at hu
        ·rename_i br
         have Q1:j<(l.take n).length:=by omega
         rw[if_pos (by omega)]
         simp only[Nat.sub_zero];have F3:us[j]?=some u:=by
          rw[List.getElem?_take]at hu;split at hu
          ·exact hu
          ·cases hu
         have yu:l[j]?=some (l.take n)[j]:=by
          have:=List.getElem?_eq_getElem Q1;rw[List.getElem?_take]at this;split at this
          ·exact this
          ·cases this
         exact⟨im u (List.mem_of_getElem? F3),_,List.getElem?_eq_getElem Q1,(lZ j u _ F3 yu).mono tt.le (fun i=>.inl (xn i))⟩
        ·rename_i br
         rw[if_neg (by omega)]
         rw[List.getElem?_drop,show(us.take n).length+(j-(us.take n).length)=j from by omega]at hu
         obtain⟨q1,y,q2,q3⟩:=hj j u hu;exact⟨q1,y,q2,q3.mono tt.le (fun i=>.inl (xn i))⟩
       ·rw[if_neg jG]at hi
        exact .inl ⟨hi,(fun e=>by cases e),fun _ e=>jG (by rw[cn]at e;cases e;rfl)⟩)
      (fun f k b hf hb=>.inl ⟨(fun e=>by cases e),fun _ e=>by rw[cn]at e;cases e⟩)
      (fun i o hi=>.inl ⟨hi,fun _=>⟨fun e=>(by rw[cn]at e;cases e),fun _ e=>(by rw[cn]at e;cases e)⟩⟩)
     refine b0.value (x:=goInt (l.take n).length) (w':=w.setRow (g.κ id) c') (g':=g) ?_ (oM.put hd (by rw[hk,u5];exact aY.int _ _))
     have e1:a.eval p=.slice (some ⟨g.κ id,0,none⟩) n cap:=e1;rw[fW,e1,e2,ah];rfl
  ·cases ah
 ·cases ah
end
end Go.Vm

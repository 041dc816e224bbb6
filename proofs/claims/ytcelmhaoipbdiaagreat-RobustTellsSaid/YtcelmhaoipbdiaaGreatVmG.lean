/- The value machine, 16: code. -/
import Derived.LoopN
import Derived.WalkMore
import Derived.Test.YtcelmhaoipbdiaaGreatVmF
namespace Go.Vm
set_option linter.all false
def lu(P:Program)(ps:Ps)(nt:Nat):Code→VC→Bool
 |_,.dead=>true
 |.skip,.skip=>true
 |.region _ ops draw,.region _ ids xl _=>Ag P ps nt ops ops.toList xl&&Ic xl ids&&(!draw || LQ ops xl)
 |.seq a b,.seq a' b'=>lu P ps nt a a'&&lu P ps nt b b'
 |.cond c a b,.cond c' a' b'=>bZ c c'&&lu P ps nt a a'&&lu P ps nt b b'
 |.block id a,.block nj a'=>id==nj&&lu P ps nt a a'
 |.loop a,.loop _ _ a'=>lu P ps nt a a'
 |.exit id,.exit nj=>id==nj
 |.ret,.ret=>true
 |.ret,.CX _=>true
 |.label _,.skip=>true
 |.scope a,a'=>lu P ps nt a a'
 |_,_=>false
def akF:qh→Exit
 |.normal=>.normal
 |.exit id=>.exit id
 |.ret=>.ret
section
variable {P:Program} {E:Entry} {g g':Gh} {S S':St} {a:Act} {w w':World} {C:bD}
theorem Yp{vs:List bK}:∀(n k:Nat),k+n=vs.length→vT vs (List.range' k n)=vs.drop k
 |0,k,h=>by rw[WB (by omega)];rfl
 |n+1,k,h=>by
  have hk:k<vs.length:=by omega
  have ih:=Yp (vs:=vs) n (k+1) (by omega)
  unfold vT at ih ⊢;rw[Hq,WD,g8 hk,KM hk];simp only[ih]
def Il(E:Entry)(e:qh)(S:St):Exit→Act→World→Prop:=fun x a w=>x=akF e∧∃g,R E g S a w
theorem R.drew(hR:R E g S a w):R E g S a { w with drawn:=w.drawn+1 } :=
 ⟨hR.env,hR.aZ,hR.bl,hR.aD,hR.defers,hR.kb,⟨hR.same.os,hR.same.tape,hR.same.output,hR.same.size,hR.same.eW,hR.same.γ,hR.same.γnew,hR.same.l7,hR.same.grow,hR.same.iW,hR.same.lv⟩⟩
theorem LY:∀{gs:List iv} {S S':St} {g:Gh},R E g S a w→oM gs S=some S'→∃g',R E g' S' a w
 |[],S,S',g,hR,h=>by simp only[oM,Option.some.injEq]at h;subst h;exact⟨g,hR⟩
 |x::gs,S,S',g,hR,h=>by
  simp only[oM]at h;split at h
  ·rename_i S1 h1
   have:∃g',R E g' S1 a w:=by
    cases x with
    |norm s f n=>exact akl hR h1
    |px i o f n=>exact akn hR h1
    |K3 i o f n=>exact akq hR h1
    |jR i b=>exact akr hR h1
    |K4 i o s=>exact akt hR h1
    |freeze s sh=>exact aks hR h1
    |tB s i n=>exact aku hR h1
    |share s sh=>exact akv hR h1
    |K5 s j9=>exact akD hR h1
    |CW i j9=>exact akE hR h1
    |wS i o k s=>exact akw hR h1
    |Bj i b k o=>exact akx hR h1
    |Bk i o s=>exact aky hR h1
   obtain⟨g1,fy⟩:=this;exact LY fy h
  ·cases h
theorem akG{ps:Ps}(iF:xc P E.T ps)(hm:P.follows .mixedOrders=true)(hC:qm P E.T C){id:Nat}{ops:Array Oper}{draw:Bool}{gh:List iv}{ids:List Nat}{xl:List bK}{keep:dj}{n:Nat}{ve:qh}
  (bz:lu P ps E.nt (.region id ops draw) (.region gh ids xl keep)=true) (hR:R E g S a w) (ah:VC.run C n (.region gh ids xl keep) S=some (ve,S')) :
  (Code.region id ops draw).wp P (Il E ve S') a w:=by
 simp only[lu,b8,CI,vm]at bz;obtain⟨⟨h1,h2⟩,h3⟩:=bz;simp only[VC.run]at ah;split at ah
 ·rename_i S1 hg
  split at ah
  ·rename_i S2 hc
   split at ah
   ·rename_i S3 hr
    cases ah;obtain⟨g1,fy⟩:=LY hR hg;obtain⟨hl,hn⟩:=xj hc;have Fw:=fy.less hl;have hQ:∀g a w,R E g S3 a w→Il E .normal (S3.keep keep) .normal a w:=fun g a w h=>⟨rfl,g,h.keep keep⟩;cases draw with
    |false =>
     refine wp_region ?_;rw[Hr];exact XZ iF h1 h2 hC hQ ops.size 0 S2 a w (by omega) ⟨⟨g1,Fw⟩,fun d hd _=>hn d hd⟩ (by simpa using hr)
    |true =>
     have h3:LQ ops xl=true:=by simpa using h3
     have hlen:=(Fq h1).1;simp only[xS]at hlen;refine wp_region_any hm ?_;have xi:mC ops.size (Array.replicate ops.size false)=List.range ops.size:=by
      unfold mC;apply KN.2;intro j hj;have:=EL.1 hj;simp[this]
     have QQ:vT xl (List.range ops.size)=xl:=by
      rw[←hlen,Hr];exact Yp xl.length 0 (by omega)
     exact akg iF h1 h2 h3 hC hQ ops.size (Array.replicate ops.size false) [] S2 S3 a _ (by simp) (by rw[xi];simp)
      (fun j o ho hl=>by
       have hj:j<ops.size:=(wJ.1 ho).1;simp[hj]at hl)
      (fun j hj=>by cases hj) ⟨⟨g1,Fw.drew⟩,fun d hd _=>hn d hd⟩ (by rw[xi,QQ];exact hr) (fun k=>X1 _ k)
   ·cases ah
  ·cases ah
 ·cases ah
theorem Yq{c:Code}{body:St→Option (qh×St)}(hb:∀S g a w ve S1,R E g S a w→body S=some (ve,S1)→c.wp P (Il E ve S1) a w) :
  ∀(n:Nat) {S S':St} {g:Gh} {a:Act} {w:World} {ve:qh},R E g S a w→iter body n S=some (ve,S')→Code.rounds P c (Il E ve S') n a w
 |0,S,S',g,a,w,ve,_,h=>by simp[iter]at h
 |n+1,S,S',g,a,w,ve,hR,h=>by
  rw[rounds_succ];simp only[iter]at h;split at h
  ·rename_i S1 h1
   refine wp_mono (hb S g a w _ _ hR h1) fun e a' w' he=>?_;obtain⟨rfl,g1,fy⟩:=he;exact Yq hb n fy h
  ·rename_i i S1 h1
   cases h;refine wp_mono (hb S g a w _ _ hR h1) fun e a' w' he=>?_;obtain⟨rfl,g1,fy⟩:=he;exact⟨rfl,g1,fy⟩
  ·rename_i S1 h1
   cases h;refine wp_mono (hb S g a w _ _ hR h1) fun e a' w' he=>?_;obtain⟨rfl,g1,fy⟩:=he;exact⟨rfl,g1,fy⟩
  ·cases h
theorem akH{ps:Ps}(iF:xc P E.T ps)(hm:P.follows .mixedOrders=true)(hC:qm P E.T C)(n:Nat):∀{c:Code} {vc:VC} {S S':St} {g:Gh} {a:Act} {w:World} {ve:qh},lu P ps E.nt c vc=true→R E g S a w →
  VC.run C n vc S=some (ve,S')→c.wp P (Il E ve S') a w:=by
 intro c;induction c with
 |skip =>
  intro vc S S' g a w ve bz hR ah;cases vc<;>simp[lu]at bz<;>simp only[VC.run]at ah<;>cases ah;exact wp_skip ⟨rfl,g,hR⟩
 |region id ops draw =>
  intro vc S S' g a w ve bz hR ah;cases vc with
  |region gh ids xl keep=>exact akG iF hm hC bz hR ah
  |dead=>simp[VC.run]at ah
  |_=>simp[lu]at bz
 |seq x y Im QW =>
  intro vc S S' g a w ve bz hR ah;cases vc with
  |seq x' y' =>
   simp only[lu,b8]at bz;simp only[VC.run]at ah;refine wp_seq ?_;split at ah
   ·rename_i S1 h1
    refine wp_mono (Im bz.1 hR h1) fun e a' w' he=>?_;obtain⟨rfl,g1,fy⟩:=he;exact QW bz.2 fy ah
   ·rename_i i S1 h1
    cases ah;refine wp_mono (Im bz.1 hR h1) fun e a' w' he=>?_;obtain⟨rfl,g1,fy⟩:=he;exact⟨rfl,g1,fy⟩
   ·rename_i S1 h1
    cases ah;refine wp_mono (Im bz.1 hR h1) fun e a' w' he=>?_;obtain⟨rfl,g1,fy⟩:=he;exact⟨rfl,g1,fy⟩
   ·cases ah
  |dead=>simp[VC.run]at ah
  |_=>simp[lu]at bz
 |cond c x y Im QW =>
  intro vc S S' g a w ve bz hR ah;cases vc with
  |cond c' x' y' =>
   simp only[lu,b8]at bz;simp only[VC.run]at ah;split at ah
   ·rename_i t ht
    have:=Bt (c9 hR bz.1.1 ht);refine wp_cond this ?_;cases t
    ·exact QW bz.2 hR ah
    ·exact Im bz.1.2 hR ah
   ·cases ah
  |dead=>simp[VC.run]at ah
  |_=>simp[lu]at bz
 |block id x ih =>
  intro vc S S' g a w ve bz hR ah;cases vc with
  |block nj x' =>
   simp only[lu,b8,eg]at bz;obtain⟨rfl,bz⟩:=bz;simp only[VC.run]at ah;refine wp_block ?_;split at ah
   ·rename_i S1 h1
    cases ah;refine wp_mono (ih bz hR h1) fun e a' w' he=>?_;obtain⟨rfl,g1,fy⟩:=he;exact⟨rfl,g1,fy⟩
   ·rename_i i S1 h1
    refine wp_mono (ih bz hR h1) fun e a' w' he=>?_;obtain⟨rfl,g1,fy⟩:=he;show if i=id then _ else _
    by_cases hi:i=id
    ·subst hi
     simp at ah;obtain⟨rfl,rfl⟩:=ah;rw[aK rfl];exact⟨rfl,g1,fy⟩
    ·have:(i==id)=false:=Bi.2 hi
     rw[this]at ah;cases ah;rw[av hi];exact⟨rfl,g1,fy⟩
   ·rename_i S1 h1
    cases ah;refine wp_mono (ih bz hR h1) fun e a' w' he=>?_;obtain⟨rfl,g1,fy⟩:=he;exact⟨rfl,g1,fy⟩
   ·cases ah
  |dead=>simp[VC.run]at ah
  |_=>simp[lu]at bz
 |loop x ih =>
  intro vc S S' g a w ve bz hR ah;cases vc with
  |loop gh keep x' =>
   simp only[lu]at bz;simp only[VC.run]at ah;split at ah
   ·rename_i S1 hg
    obtain⟨g1,fy⟩:=LY hR hg;refine wp_loop_rounds n (Yq (fun S g a w ve S1 hR h1=>?_) n fy ah);exact ih bz (hR.keep keep) h1
   ·cases ah
  |dead=>simp[VC.run]at ah
  |_=>simp[lu]at bz
 |exit id =>
  intro vc S S' g a w ve bz hR ah;cases vc with
  |exit nj =>
   simp only[lu,eg]at bz;subst bz;simp only[VC.run]at ah;cases ah;exact wp_exit ⟨rfl,g,hR⟩
  |dead=>simp[VC.run]at ah
  |_=>simp[lu]at bz
 |ret =>
  intro vc S S' g a w ve bz hR ah;cases vc with
  |ret =>
   simp only[VC.run]at ah;cases ah;exact wp_ret ⟨rfl,g,hR⟩
  |CX gh =>
   simp only[VC.run]at ah;split at ah
   ·rename_i S1 hg
    cases ah;obtain⟨g1,fy⟩:=LY hR hg;exact wp_ret ⟨rfl,g1,fy⟩
   ·cases ah
  |dead=>simp[VC.run]at ah
  |_=>simp[lu]at bz
 |label l =>
  intro vc S S' g a w ve bz hR ah;cases vc<;>simp[lu]at bz<;>simp only[VC.run]at ah<;>cases ah;exact wp_label ⟨rfl,g,hR⟩
 |scope x ih =>
  intro vc S S' g a w ve bz hR ah;by_cases Yr:vc=.dead
  ·subst Yr;simp[VC.run]at ah
  have bz:lu P ps E.nt x vc=true:=by cases vc<;>first|exact absurd rfl Yr|exact bz
  refine wp_scope_straight (wp_mono (ih bz hR ah) fun e a' w' he=>?_);obtain⟨rfl,g1,fy⟩:=he;cases ve<;>exact⟨rfl,g1,fy⟩
 |_ =>
  intro vc S S' g a w ve bz hR ah;cases vc<;>simp[lu]at bz<;>simp[VC.run]at ah
end
end Go.Vm

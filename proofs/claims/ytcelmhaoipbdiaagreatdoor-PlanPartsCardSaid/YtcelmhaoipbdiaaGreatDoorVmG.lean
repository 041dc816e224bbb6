/- The value machine, 16: code. -/
import Derived.LoopN
import Derived.WalkMore
import Derived.Test.YtcelmhaoipbdiaaGreatDoorVmF
namespace Go.Vm
set_option linter.all false
def j9(P:Program)(ps:Ps)(nt:Nat):Code→VC→Bool
 |_,.dead=>true
 |.skip,.skip=>true
 |.region _ ops draw,.region _ ids vK _=>xT P ps nt ops ops.toList vK&&FV vK ids&&(!draw || Jv ops vK)
 |.seq a b,.seq a' b'=>j9 P ps nt a a'&&j9 P ps nt b b'
 |.cond c a b,.cond c' a' b'=>bO c c'&&j9 P ps nt a a'&&j9 P ps nt b b'
 |.block id a,.block l7 a'=>id==l7&&j9 P ps nt a a'
 |.loop a,.loop _ _ a'=>j9 P ps nt a a'
 |.exit id,.exit l7=>id==l7
 |.ret,.ret=>true
 |.ret,.A2 _=>true
 |.label _,.skip=>true
 |.scope a,a'=>j9 P ps nt a a'
 |_,_=>false
def afx:oO→Exit
 |.normal=>.normal
 |.exit id=>.exit id
 |.ret=>.ret
section
variable {P:Program} {E:Entry} {g g':Gh} {S S':St} {a:Act} {w w':World} {C:br}
theorem UC{vs:List bA}:∀(n k:Nat),k+n=vs.length→um vs (List.range' k n)=vs.drop k
 |0,k,h=>by rw[SA (by omega)];rfl
 |n+1,k,h=>by
  have hk:k<vs.length:=by omega
  have ih:=UC (vs:=vs) n (k+1) (by omega)
  unfold um at ih ⊢;rw[EY,SC,gG hk,Iv hk];simp only[ih]
def F4(E:Entry)(e:oO)(S:St):Exit→Act→World→Prop:=fun x a w=>x=afx e∧∃g,R E g S a w
theorem R.drew(hR:R E g S a w):R E g S a { w with drawn:=w.drawn+1 } :=
 ⟨hR.env,hR.aW,hR.bf,hR.ay,hR.defers,hR.jg,⟨hR.same.os,hR.same.tape,hR.same.output,hR.same.size,hR.same.eD,hR.same.γ,hR.same.γnew,hR.same.kI,hR.same.grow,hR.same.hY,hR.same.lv⟩⟩
theorem JC:∀{gs:List gI} {S S':St} {g:Gh},R E g S a w→nA gs S=some S'→∃g',R E g' S' a w
 |[],S,S',g,hR,h=>by simp only[nA,Option.some.injEq]at h;subst h;exact⟨g,hR⟩
 |x::gs,S,S',g,hR,h=>by
  simp only[nA]at h;split at h
  ·rename_i S1 h1
   have:∃g',R E g' S1 a w:=by
    cases x with
    |norm s f n=>exact afd hR h1
    |nV i o f n=>exact aff hR h1
    |IN i o f n=>exact afi hR h1
    |jd i b=>exact afj hR h1
    |IP i o s=>exact afl hR h1
    |freeze s sh=>exact afk hR h1
    |rP s i n=>exact afm hR h1
    |share s sh=>exact afn hR h1
    |IQ s je=>exact afv hR h1
    |E8 i je=>exact afw hR h1
    |vh i o k s=>exact afo hR h1
    |zD i b k o=>exact afp hR h1
    |zE i o s=>exact afq hR h1
   obtain⟨g1,eZ⟩:=this;exact JC eZ h
  ·cases h
theorem afy{ps:Ps}(iP:vy P E.T ps)(hm:P.follows .mixedOrders=true)(hC:pN P E.T C){id:Nat}{ops:Array Oper}{draw:Bool}{gh:List gI}{ids:List Nat}{vK:List bA}{keep:cX}{n:Nat}{ve:oO}
  (bo:j9 P ps E.nt (.region id ops draw) (.region gh ids vK keep)=true) (hR:R E g S a w) (ah:VC.run C n (.region gh ids vK keep) S=some (ve,S')) :
  (Code.region id ops draw).wp P (F4 E ve S') a w:=by
 simp only[j9,bQ,AP,tK]at bo;obtain⟨⟨h1,h2⟩,h3⟩:=bo;simp only[VC.run]at ah;split at ah
 ·rename_i S1 hg
  split at ah
  ·rename_i S2 hc
   split at ah
   ·rename_i S3 hr
    cases ah;obtain⟨g1,eZ⟩:=JC hR hg;obtain⟨hl,hn⟩:=vH hc;have wX:=eZ.less hl;have hQ:∀g a w,R E g S3 a w→F4 E .normal (S3.keep keep) .normal a w:=fun g a w h=>⟨rfl,g,h.keep keep⟩;cases draw with
    |false =>
     refine wp_region ?_;rw[EZ];exact T9 iP h1 h2 hC hQ ops.size 0 S2 a w (by omega) ⟨⟨g1,wX⟩,fun d hd _=>hn d hd⟩ (by simpa using hr)
    |true =>
     have h3:Jv ops vK=true:=by simpa using h3
     have hlen:=(Dh h1).1;simp only[wz]at hlen;refine wp_region_any hm ?_;have vG:lh ops.size (Array.replicate ops.size false)=List.range ops.size:=by
      unfold lh;apply Iw.2;intro j hj;have:=AX.1 hj;simp[this]
     have NM:um vK (List.range ops.size)=vK:=by
      rw[←hlen,EZ];exact UC vK.length 0 (by omega)
     exact ae8 iP h1 h2 h3 hC hQ ops.size (Array.replicate ops.size false) [] S2 S3 a _ (by simp) (by rw[vG];simp)
      (fun j o ho hl=>by
       have hj:j<ops.size:=(wy.1 ho).1;simp[hj]at hl)
      (fun j hj=>by cases hj) ⟨⟨g1,wX.drew⟩,fun d hd _=>hn d hd⟩ (by rw[vG,NM];exact hr) (fun k=>Ua _ k)
   ·cases ah
  ·cases ah
 ·cases ah
theorem UD{c:Code}{body:St→Option (oO×St)}(hb:∀S g a w ve S1,R E g S a w→body S=some (ve,S1)→c.wp P (F4 E ve S1) a w) :
  ∀(n:Nat) {S S':St} {g:Gh} {a:Act} {w:World} {ve:oO},R E g S a w→iter body n S=some (ve,S')→Code.rounds P c (F4 E ve S') n a w
 |0,S,S',g,a,w,ve,_,h=>by simp[iter]at h
 |n+1,S,S',g,a,w,ve,hR,h=>by
  rw[rounds_succ];simp only[iter]at h;split at h
  ·rename_i S1 h1
   refine wp_mono (hb S g a w _ _ hR h1) fun e a' w' he=>?_;obtain⟨rfl,g1,eZ⟩:=he;exact UD hb n eZ h
  ·rename_i i S1 h1
   cases h;refine wp_mono (hb S g a w _ _ hR h1) fun e a' w' he=>?_;obtain⟨rfl,g1,eZ⟩:=he;exact⟨rfl,g1,eZ⟩
  ·rename_i S1 h1
   cases h;refine wp_mono (hb S g a w _ _ hR h1) fun e a' w' he=>?_;obtain⟨rfl,g1,eZ⟩:=he;exact⟨rfl,g1,eZ⟩
  ·cases h
theorem afz{ps:Ps}(iP:vy P E.T ps)(hm:P.follows .mixedOrders=true)(hC:pN P E.T C)(n:Nat):∀{c:Code} {vc:VC} {S S':St} {g:Gh} {a:Act} {w:World} {ve:oO},j9 P ps E.nt c vc=true→R E g S a w →
  VC.run C n vc S=some (ve,S')→c.wp P (F4 E ve S') a w:=by
 intro c;induction c with
 |skip =>
  intro vc S S' g a w ve bo hR ah;cases vc<;>simp[j9]at bo<;>simp only[VC.run]at ah<;>cases ah;exact wp_skip ⟨rfl,g,hR⟩
 |region id ops draw =>
  intro vc S S' g a w ve bo hR ah;cases vc with
  |region gh ids vK keep=>exact afy iP hm hC bo hR ah
  |dead=>simp[VC.run]at ah
  |_=>simp[j9]at bo
 |seq x y F5 NS =>
  intro vc S S' g a w ve bo hR ah;cases vc with
  |seq x' y' =>
   simp only[j9,bQ]at bo;simp only[VC.run]at ah;refine wp_seq ?_;split at ah
   ·rename_i S1 h1
    refine wp_mono (F5 bo.1 hR h1) fun e a' w' he=>?_;obtain⟨rfl,g1,eZ⟩:=he;exact NS bo.2 eZ ah
   ·rename_i i S1 h1
    cases ah;refine wp_mono (F5 bo.1 hR h1) fun e a' w' he=>?_;obtain⟨rfl,g1,eZ⟩:=he;exact⟨rfl,g1,eZ⟩
   ·rename_i S1 h1
    cases ah;refine wp_mono (F5 bo.1 hR h1) fun e a' w' he=>?_;obtain⟨rfl,g1,eZ⟩:=he;exact⟨rfl,g1,eZ⟩
   ·cases ah
  |dead=>simp[VC.run]at ah
  |_=>simp[j9]at bo
 |cond c x y F5 NS =>
  intro vc S S' g a w ve bo hR ah;cases vc with
  |cond c' x' y' =>
   simp only[j9,bQ]at bo;simp only[VC.run]at ah;split at ah
   ·rename_i t ht
    have:=zL (cS hR bo.1.1 ht);refine wp_cond this ?_;cases t
    ·exact NS bo.2 hR ah
    ·exact F5 bo.1.2 hR ah
   ·cases ah
  |dead=>simp[VC.run]at ah
  |_=>simp[j9]at bo
 |block id x ih =>
  intro vc S S' g a w ve bo hR ah;cases vc with
  |block l7 x' =>
   simp only[j9,bQ,dO]at bo;obtain⟨rfl,bo⟩:=bo;simp only[VC.run]at ah;refine wp_block ?_;split at ah
   ·rename_i S1 h1
    cases ah;refine wp_mono (ih bo hR h1) fun e a' w' he=>?_;obtain⟨rfl,g1,eZ⟩:=he;exact⟨rfl,g1,eZ⟩
   ·rename_i i S1 h1
    refine wp_mono (ih bo hR h1) fun e a' w' he=>?_;obtain⟨rfl,g1,eZ⟩:=he;show if i=id then _ else _
    by_cases hi:i=id
    ·subst hi
     simp at ah;obtain⟨rfl,rfl⟩:=ah;rw[aP rfl];exact⟨rfl,g1,eZ⟩
    ·have:(i==id)=false:=E6.2 hi
     rw[this]at ah;cases ah;rw[aA hi];exact⟨rfl,g1,eZ⟩
   ·rename_i S1 h1
    cases ah;refine wp_mono (ih bo hR h1) fun e a' w' he=>?_;obtain⟨rfl,g1,eZ⟩:=he;exact⟨rfl,g1,eZ⟩
   ·cases ah
  |dead=>simp[VC.run]at ah
  |_=>simp[j9]at bo
 |loop x ih =>
  intro vc S S' g a w ve bo hR ah;cases vc with
  |loop gh keep x' =>
   simp only[j9]at bo;simp only[VC.run]at ah;split at ah
   ·rename_i S1 hg
    obtain⟨g1,eZ⟩:=JC hR hg;refine wp_loop_rounds n (UD (fun S g a w ve S1 hR h1=>?_) n eZ ah);exact ih bo (hR.keep keep) h1
   ·cases ah
  |dead=>simp[VC.run]at ah
  |_=>simp[j9]at bo
 |exit id =>
  intro vc S S' g a w ve bo hR ah;cases vc with
  |exit l7 =>
   simp only[j9,dO]at bo;subst bo;simp only[VC.run]at ah;cases ah;exact wp_exit ⟨rfl,g,hR⟩
  |dead=>simp[VC.run]at ah
  |_=>simp[j9]at bo
 |ret =>
  intro vc S S' g a w ve bo hR ah;cases vc with
  |ret =>
   simp only[VC.run]at ah;cases ah;exact wp_ret ⟨rfl,g,hR⟩
  |A2 gh =>
   simp only[VC.run]at ah;split at ah
   ·rename_i S1 hg
    cases ah;obtain⟨g1,eZ⟩:=JC hR hg;exact wp_ret ⟨rfl,g1,eZ⟩
   ·cases ah
  |dead=>simp[VC.run]at ah
  |_=>simp[j9]at bo
 |label l =>
  intro vc S S' g a w ve bo hR ah;cases vc<;>simp[j9]at bo<;>simp only[VC.run]at ah<;>cases ah;exact wp_label ⟨rfl,g,hR⟩
 |scope x ih =>
  intro vc S S' g a w ve bo hR ah;by_cases UE:vc=.dead
  ·subst UE;simp[VC.run]at ah
  have bo:j9 P ps E.nt x vc=true:=by cases vc<;>first|exact absurd rfl UE|exact bo
  refine wp_scope_straight (wp_mono (ih bo hR ah) fun e a' w' he=>?_);obtain⟨rfl,g1,eZ⟩:=he;cases ve<;>exact⟨rfl,g1,eZ⟩
 |_ =>
  intro vc S S' g a w ve bo hR ah;cases vc<;>simp[j9]at bo<;>simp[VC.run]at ah
end
end Go.Vm

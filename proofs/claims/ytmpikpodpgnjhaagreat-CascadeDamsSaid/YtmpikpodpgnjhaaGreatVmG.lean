/- The value machine, 16: code. -/
import Derived.LoopN
import Derived.WalkMore
import Derived.Test.YtmpikpodpgnjhaaGreatVmF
namespace Go.Vm
set_option linter.all false
def jN(P:Program)(ps:List (Nat×Nat))(nt:Nat):Code→VC→Bool
 |_,.dead=>true
 |.skip,.skip=>true
 |.region _ ops draw,.region _ ids tu _=>vt P ps nt ops ops.toList tu&&CC tu ids&&(!draw || Fo ops tu)
 |.seq a b,.seq a' b'=>jN P ps nt a a'&&jN P ps nt b b'
 |.cond c a b,.cond c' a' b'=>bX c c'&&jN P ps nt a a'&&jN P ps nt b b'
 |.block id a,.block lV a'=>id==lV&&jN P ps nt a a'
 |.loop a,.loop _ _ a'=>jN P ps nt a a'
 |.exit id,.exit lV=>id==lV
 |.ret,.ret=>true
 |.ret,.uf _=>true
 |.label _,.skip=>true
 |.scope a,a'=>jN P ps nt a a'
 |_,_=>false
def Yn:nR→Exit
 |.normal=>.normal
 |.exit id=>.exit id
 |.ret=>.ret
section
variable {P:Program} {E:Entry} {g g':Gh} {S S':St} {a:Act} {w w':World} {C:bH}
theorem PB{vs:List bP}:∀(n k:Nat),k+n=vs.length→se vs (List.range' k n)=vs.drop k
 |0,k,h=>by rw[List.drop_eq_nil_of_le (by omega)];rfl
 |n+1,k,h=>by
  have hk:k<vs.length:=by omega
  have ih:=PB (vs:=vs) n (k+1) (by omega)
  unfold se at ih ⊢;rw[List.range'_succ,List.filterMap_cons,List.getElem?_eq_getElem hk,List.drop_eq_getElem_cons hk];simp only[ih]
def CI(E:Entry)(e:nR)(S:St):Exit→Act→World→Prop:=fun x a w=>x=Yn e∧∃g,R E g S a w
theorem R.drew(hR:R E g S a w):R E g S a { w with drawn:=w.drawn+1 } :=
 ⟨hR.env,hR.bb,hR.bl,hR.az,hR.defers,hR.js,⟨hR.same.os,hR.same.tape,hR.same.output,hR.same.size,hR.same.fa,hR.same.γ,hR.same.γnew,hR.same.lp,hR.same.grow,hR.same.ia,hR.same.lv⟩⟩
theorem Fv:∀{gs:List iL} {S S':St} {g:Gh},R E g S a w→mG gs S=some S'→∃g',R E g' S' a w
 |[],S,S',g,hR,h=>by simp only[mG,Option.some.injEq]at h;subst h;exact⟨g,hR⟩
 |x::gs,S,S',g,hR,h=>by
  simp only[mG]at h;split at h
  ·rename_i S1 h1
   have:∃g',R E g' S1 a w:=by
    cases x with
    |norm s f n=>exact X7 hR h1
    |kr i o f n=>exact X9 hR h1
    |Ic i o f n=>exact Yc hR h1
    |jH i b=>exact Yd hR h1
    |zU i o s=>exact Yf hR h1
    |freeze s sh=>exact Ye hR h1
    |ov s i n=>exact Yg hR h1
    |share s sh=>exact Yh hR h1
    |Ie s iV=>exact Yl hR h1
    |wB i iV=>exact Ym hR h1
   obtain⟨g1,fj⟩:=this;exact Fv fj h
  ·cases h
theorem Yo{ps:List (Nat×Nat)}(iO:∀f k,look f ps=some k→pS P k f)(hm:P.follows .mixedOrders=true)(hC:oO P C){id:Nat}{ops:Array Oper}{draw:Bool}{gh:List iL}{ids:List Nat}{tu:List bP}{keep:dA}{n:Nat}{ve:nR}
  (bz:jN P ps E.nt (.region id ops draw) (.region gh ids tu keep)=true) (hR:R E g S a w) (aj:VC.run C n (.region gh ids tu keep) S=some (ve,S')) :
  (Code.region id ops draw).wp P (CI E ve S') a w:=by
 simp only[jN,Bool.and_eq_true,Bool.or_eq_true,Bool.not_eq_true']at bz;obtain⟨⟨h1,h2⟩,h3⟩:=bz;simp only[VC.run]at aj;split at aj
 ·rename_i S1 hg
  split at aj
  ·rename_i S2 hc
   split at aj
   ·rename_i S3 hr
    cases aj;obtain⟨g1,fj⟩:=Fv hR hg;obtain⟨hl,hn⟩:=w5 hc;have AF:=fj.less hl;have hQ:∀g a w,R E g S3 a w→CI E .normal (S3.keep keep) .normal a w:=fun g a w h=>⟨rfl,g,h.keep keep⟩;cases draw with
    |false =>
     refine wp_region ?_;rw[List.range_eq_range'];exact O5 iO h1 h2 hC hQ ops.size 0 S2 a w (by omega) ⟨⟨g1,AF⟩,fun d hd _=>hn d hd⟩ (by simpa using hr)
    |true =>
     have h3:Fo ops tu=true:=by simpa using h3
     have hlen:=(Az h1).1;simp only[Array.length_toList]at hlen;refine wp_region_any hm ?_;have tq:kI ops.size (Array.replicate ops.size false)=List.range ops.size:=by
      unfold kI;apply List.filter_eq_self.2;intro j hj;have:=List.mem_range.1 hj;simp[this]
     have Ju:se tu (List.range ops.size)=tu:=by
      rw[←hlen,List.range_eq_range'];exact PB tu.length 0 (by omega)
     exact X2 iO h1 h2 h3 hC hQ ops.size (Array.replicate ops.size false) [] S2 S3 a _ (by simp) (by rw[tq];simp)
      (fun j o ho hl=>by
       have hj:j<ops.size:=(Array.getElem?_eq_some_iff.1 ho).1;simp[hj]at hl)
      (fun j hj=>by cases hj) ⟨⟨g1,AF.drew⟩,fun d hd _=>hn d hd⟩ (by rw[tq,Ju];exact hr) (fun k=>O6 _ k)
   ·cases aj
  ·cases aj
 ·cases aj
theorem PC{c:Code}{body:St→Option (nR×St)}(hb:∀S g a w ve S1,R E g S a w→body S=some (ve,S1)→c.wp P (CI E ve S1) a w) :
  ∀(n:Nat) {S S':St} {g:Gh} {a:Act} {w:World} {ve:nR},R E g S a w→iter body n S=some (ve,S')→Code.rounds P c (CI E ve S') n a w
 |0,S,S',g,a,w,ve,_,h=>by simp[iter]at h
 |n+1,S,S',g,a,w,ve,hR,h=>by
  rw[rounds_succ];simp only[iter]at h;split at h
  ·rename_i S1 h1
   refine wp_mono (hb S g a w _ _ hR h1) fun e a' w' he=>?_;obtain⟨rfl,g1,fj⟩:=he;exact PC hb n fj h
  ·rename_i i S1 h1
   cases h;refine wp_mono (hb S g a w _ _ hR h1) fun e a' w' he=>?_;obtain⟨rfl,g1,fj⟩:=he;exact⟨rfl,g1,fj⟩
  ·rename_i S1 h1
   cases h;refine wp_mono (hb S g a w _ _ hR h1) fun e a' w' he=>?_;obtain⟨rfl,g1,fj⟩:=he;exact⟨rfl,g1,fj⟩
  ·cases h
theorem Yp{ps:List (Nat×Nat)}(iO:∀f k,look f ps=some k→pS P k f)(hm:P.follows .mixedOrders=true)(hC:oO P C)(n:Nat):∀{c:Code} {vc:VC} {S S':St} {g:Gh} {a:Act} {w:World} {ve:nR},jN P ps E.nt c vc=true→R E g S a w →
  VC.run C n vc S=some (ve,S')→c.wp P (CI E ve S') a w:=by
 intro c;induction c with
 |skip =>
  intro vc S S' g a w ve bz hR aj;cases vc<;>simp[jN]at bz<;>simp only[VC.run]at aj<;>cases aj;exact wp_skip ⟨rfl,g,hR⟩
 |region id ops draw =>
  intro vc S S' g a w ve bz hR aj;cases vc with
  |region gh ids tu keep=>exact Yo iO hm hC bz hR aj
  |dead=>simp[VC.run]at aj
  |_=>simp[jN]at bz
 |seq x y CJ JA =>
  intro vc S S' g a w ve bz hR aj;cases vc with
  |seq x' y' =>
   simp only[jN,Bool.and_eq_true]at bz;simp only[VC.run]at aj;refine wp_seq ?_;split at aj
   ·rename_i S1 h1
    refine wp_mono (CJ bz.1 hR h1) fun e a' w' he=>?_;obtain⟨rfl,g1,fj⟩:=he;exact JA bz.2 fj aj
   ·rename_i i S1 h1
    cases aj;refine wp_mono (CJ bz.1 hR h1) fun e a' w' he=>?_;obtain⟨rfl,g1,fj⟩:=he;exact⟨rfl,g1,fj⟩
   ·rename_i S1 h1
    cases aj;refine wp_mono (CJ bz.1 hR h1) fun e a' w' he=>?_;obtain⟨rfl,g1,fj⟩:=he;exact⟨rfl,g1,fj⟩
   ·cases aj
  |dead=>simp[VC.run]at aj
  |_=>simp[jN]at bz
 |cond c x y CJ JA =>
  intro vc S S' g a w ve bz hR aj;cases vc with
  |cond c' x' y' =>
   simp only[jN,Bool.and_eq_true]at bz;simp only[VC.run]at aj;split at aj
   ·rename_i t ht
    have:=wF (cX hR bz.1.1 ht);refine wp_cond this ?_;cases t
    ·exact JA bz.2 hR aj
    ·exact CJ bz.1.2 hR aj
   ·cases aj
  |dead=>simp[VC.run]at aj
  |_=>simp[jN]at bz
 |block id x ih =>
  intro vc S S' g a w ve bz hR aj;cases vc with
  |block lV x' =>
   simp only[jN,Bool.and_eq_true,beq_iff_eq]at bz;obtain⟨rfl,bz⟩:=bz;simp only[VC.run]at aj;refine wp_block ?_;split at aj
   ·rename_i S1 h1
    cases aj;refine wp_mono (ih bz hR h1) fun e a' w' he=>?_;obtain⟨rfl,g1,fj⟩:=he;exact⟨rfl,g1,fj⟩
   ·rename_i i S1 h1
    refine wp_mono (ih bz hR h1) fun e a' w' he=>?_;obtain⟨rfl,g1,fj⟩:=he;show if i=id then _ else _
    by_cases hi:i=id
    ·subst hi
     simp at aj;obtain⟨rfl,rfl⟩:=aj;rw[if_pos rfl];exact⟨rfl,g1,fj⟩
    ·have:(i==id)=false:=beq_eq_false_iff_ne.2 hi
     rw[this]at aj;cases aj;rw[if_neg hi];exact⟨rfl,g1,fj⟩
   ·rename_i S1 h1
    cases aj;refine wp_mono (ih bz hR h1) fun e a' w' he=>?_;obtain⟨rfl,g1,fj⟩:=he;exact⟨rfl,g1,fj⟩
   ·cases aj
  |dead=>simp[VC.run]at aj
  |_=>simp[jN]at bz
 |loop x ih =>
  intro vc S S' g a w ve bz hR aj;cases vc with
  |loop gh keep x' =>
   simp only[jN]at bz;simp only[VC.run]at aj;split at aj
   ·rename_i S1 hg
    obtain⟨g1,fj⟩:=Fv hR hg;refine wp_loop_rounds n (PC (fun S g a w ve S1 hR h1=>?_) n fj aj);exact ih bz (hR.keep keep) h1
   ·cases aj
  |dead=>simp[VC.run]at aj
  |_=>simp[jN]at bz
 |exit id =>
  intro vc S S' g a w ve bz hR aj;cases vc with
  |exit lV =>
   simp only[jN,beq_iff_eq]at bz;subst bz;simp only[VC.run]at aj;cases aj;exact wp_exit ⟨rfl,g,hR⟩
  |dead=>simp[VC.run]at aj
  |_=>simp[jN]at bz
 |ret =>
  intro vc S S' g a w ve bz hR aj;cases vc with
  |ret =>
   simp only[VC.run]at aj;cases aj;exact wp_ret ⟨rfl,g,hR⟩
  |uf gh =>
   simp only[VC.run]at aj;split at aj
   ·rename_i S1 hg
    cases aj;obtain⟨g1,fj⟩:=Fv hR hg;exact wp_ret ⟨rfl,g1,fj⟩
   ·cases aj
  |dead=>simp[VC.run]at aj
  |_=>simp[jN]at bz
 |label l =>
  intro vc S S' g a w ve bz hR aj;cases vc<;>simp[jN]at bz<;>simp only[VC.run]at aj<;>cases aj;exact wp_label ⟨rfl,g,hR⟩
 |scope x ih =>
  intro vc S S' g a w ve bz hR aj;by_cases PD:vc=.dead
  ·subst PD;simp[VC.run]at aj
  have bz:jN P ps E.nt x vc=true:=by cases vc<;>first|exact absurd rfl PD|exact bz
  refine wp_scope_straight (wp_mono (ih bz hR aj) fun e a' w' he=>?_);obtain⟨rfl,g1,fj⟩:=he;cases ve<;>exact⟨rfl,g1,fj⟩
 |_ =>
  intro vc S S' g a w ve bz hR aj;cases vc<;>simp[jN]at bz<;>simp[VC.run]at aj
end
end Go.Vm

/- The value machine, 16: code. -/
import Derived.LoopN
import Derived.WalkMore
import Derived.Test.YtocclbnghhaejaaGreatVmF
namespace Go.Vm
set_option linter.all false
def kb(P:Program)(ps:List (Nat×Nat))(nt:Nat):Code→VC→Bool
 |_,.dead=>true
 |.skip,.skip=>true
 |.region _ ops draw,.region _ ids u9 _=>xp P ps nt ops ops.toList u9&&EP u9 ids&&(!draw || H2 ops u9)
 |.seq a b,.seq a' b'=>kb P ps nt a a'&&kb P ps nt b b'
 |.cond c a b,.cond c' a' b'=>bO c c'&&kb P ps nt a a'&&kb P ps nt b b'
 |.block id a,.block l7 a'=>id==l7&&kb P ps nt a a'
 |.loop a,.loop _ _ a'=>kb P ps nt a a'
 |.exit id,.exit l7=>id==l7
 |.ret,.ret=>true
 |.ret,.As _=>true
 |.label _,.skip=>true
 |.scope a,a'=>kb P ps nt a a'
 |_,_=>false
def aen:oz→Exit
 |.normal=>.normal
 |.exit id=>.exit id
 |.ret=>.ret
section
variable {P:Program} {E:Entry} {g g':Gh} {S S':St} {a:Act} {w w':World} {C:bw}
theorem SG{vs:List bH}:∀(n k:Nat),k+n=vs.length→tQ vs (List.range' k n)=vs.drop k
 |0,k,h=>by rw[List.drop_eq_nil_of_le (by omega)];rfl
 |n+1,k,h=>by
  have hk:k<vs.length:=by omega
  have ih:=SG (vs:=vs) n (k+1) (by omega)
  unfold tQ at ih ⊢;rw[List.range'_succ,List.filterMap_cons,List.getElem?_eq_getElem hk,List.drop_eq_getElem_cons hk];simp only[ih]
def EX(E:Entry)(e:oz)(S:St):Exit→Act→World→Prop:=fun x a w=>x=aen e∧∃g,R E g S a w
theorem R.drew(hR:R E g S a w):R E g S a { w with drawn:=w.drawn+1 } :=
 ⟨hR.env,hR.aU,hR.bg,hR.aF,hR.defers,hR.jh,⟨hR.same.os,hR.same.tape,hR.same.output,hR.same.size,hR.same.eN,hR.same.γ,hR.same.γnew,hR.same.my,hR.same.grow,hR.same.ib,hR.same.lv⟩⟩
theorem H9:∀{gs:List gG} {S S':St} {g:Gh},R E g S a w→nc gs S=some S'→∃g',R E g' S' a w
 |[],S,S',g,hR,h=>by simp only[nc,Option.some.injEq]at h;subst h;exact⟨g,hR⟩
 |x::gs,S,S',g,hR,h=>by
  simp only[nc]at h;split at h
  ·rename_i S1 h1
   have:∃g',R E g' S1 a w:=by
    cases x with
    |norm s f n=>exact ad3 hR h1
    |mJ i o f n=>exact ad5 hR h1
    |Hk i o f n=>exact ad8 hR h1
    |iT i b=>exact ad9 hR h1
    |Hl i o s=>exact aeb hR h1
    |freeze s sh=>exact aea hR h1
    |rj s i n=>exact aec hR h1
    |share s sh=>exact aed hR h1
    |Hm s jf=>exact ael hR h1
    |Aq i jf=>exact aem hR h1
    |yK i o k s=>exact aee hR h1
    |yL i b k o=>exact aef hR h1
    |yM i o s=>exact aeg hR h1
   obtain⟨g1,eT⟩:=this;exact H9 eT h
  ·cases h
theorem aeo{ps:List (Nat×Nat)}(iY:∀f k,look f ps=some k→qD P k f)(hm:P.follows .mixedOrders=true)(hC:oD P C){id:Nat}{ops:Array Oper}{draw:Bool}{gh:List gG}{ids:List Nat}{u9:List bH}{keep:cY}{n:Nat}{ve:oz}
  (bn:kb P ps E.nt (.region id ops draw) (.region gh ids u9 keep)=true) (hR:R E g S a w) (ah:VC.run C n (.region gh ids u9 keep) S=some (ve,S')) :
  (Code.region id ops draw).wp P (EX E ve S') a w:=by
 simp only[kb,Bool.and_eq_true,Bool.or_eq_true,Bool.not_eq_true']at bn;obtain⟨⟨h1,h2⟩,h3⟩:=bn;simp only[VC.run]at ah;split at ah
 ·rename_i S1 hg
  split at ah
  ·rename_i S2 hc
   split at ah
   ·rename_i S3 hr
    cases ah;obtain⟨g1,eT⟩:=H9 hR hg;obtain⟨hl,hn⟩:=u6 hc;have CQ:=eT.less hl;have hQ:∀g a w,R E g S3 a w→EX E .normal (S3.keep keep) .normal a w:=fun g a w h=>⟨rfl,g,h.keep keep⟩;cases draw with
    |false =>
     refine wp_region ?_;rw[List.range_eq_range'];exact R6 iY h1 h2 hC hQ ops.size 0 S2 a w (by omega) ⟨⟨g1,CQ⟩,fun d hd _=>hn d hd⟩ (by simpa using hr)
    |true =>
     have h3:H2 ops u9=true:=by simpa using h3
     have hlen:=(CL h1).1;simp only[Array.length_toList]at hlen;refine wp_region_any hm ?_;have u5:lj ops.size (Array.replicate ops.size false)=List.range ops.size:=by
      unfold lj;apply List.filter_eq_self.2;intro j hj;have:=List.mem_range.1 hj;simp[this]
     have L4:tQ u9 (List.range ops.size)=u9:=by
      rw[←hlen,List.range_eq_range'];exact SG u9.length 0 (by omega)
     exact adY iY h1 h2 h3 hC hQ ops.size (Array.replicate ops.size false) [] S2 S3 a _ (by simp) (by rw[u5];simp)
      (fun j o ho hl=>by
       have hj:j<ops.size:=(Array.getElem?_eq_some_iff.1 ho).1;simp[hj]at hl)
      (fun j hj=>by cases hj) ⟨⟨g1,CQ.drew⟩,fun d hd _=>hn d hd⟩ (by rw[u5,L4];exact hr) (fun k=>R7 _ k)
   ·cases ah
  ·cases ah
 ·cases ah
theorem SH{c:Code}{body:St→Option (oz×St)}(hb:∀S g a w ve S1,R E g S a w→body S=some (ve,S1)→c.wp P (EX E ve S1) a w) :
  ∀(n:Nat) {S S':St} {g:Gh} {a:Act} {w:World} {ve:oz},R E g S a w→iter body n S=some (ve,S')→Code.rounds P c (EX E ve S') n a w
 |0,S,S',g,a,w,ve,_,h=>by simp[iter]at h
 |n+1,S,S',g,a,w,ve,hR,h=>by
  rw[rounds_succ];simp only[iter]at h;split at h
  ·rename_i S1 h1
   refine wp_mono (hb S g a w _ _ hR h1) fun e a' w' he=>?_;obtain⟨rfl,g1,eT⟩:=he;exact SH hb n eT h
  ·rename_i i S1 h1
   cases h;refine wp_mono (hb S g a w _ _ hR h1) fun e a' w' he=>?_;obtain⟨rfl,g1,eT⟩:=he;exact⟨rfl,g1,eT⟩
  ·rename_i S1 h1
   cases h;refine wp_mono (hb S g a w _ _ hR h1) fun e a' w' he=>?_;obtain⟨rfl,g1,eT⟩:=he;exact⟨rfl,g1,eT⟩
  ·cases h
theorem aep{ps:List (Nat×Nat)}(iY:∀f k,look f ps=some k→qD P k f)(hm:P.follows .mixedOrders=true)(hC:oD P C)(n:Nat):∀{c:Code} {vc:VC} {S S':St} {g:Gh} {a:Act} {w:World} {ve:oz},kb P ps E.nt c vc=true→R E g S a w →
  VC.run C n vc S=some (ve,S')→c.wp P (EX E ve S') a w:=by
 intro c;induction c with
 |skip =>
  intro vc S S' g a w ve bn hR ah;cases vc<;>simp[kb]at bn<;>simp only[VC.run]at ah<;>cases ah;exact wp_skip ⟨rfl,g,hR⟩
 |region id ops draw =>
  intro vc S S' g a w ve bn hR ah;cases vc with
  |region gh ids u9 keep=>exact aeo iY hm hC bn hR ah
  |dead=>simp[VC.run]at ah
  |_=>simp[kb]at bn
 |seq x y EY Ma =>
  intro vc S S' g a w ve bn hR ah;cases vc with
  |seq x' y' =>
   simp only[kb,Bool.and_eq_true]at bn;simp only[VC.run]at ah;refine wp_seq ?_;split at ah
   ·rename_i S1 h1
    refine wp_mono (EY bn.1 hR h1) fun e a' w' he=>?_;obtain⟨rfl,g1,eT⟩:=he;exact Ma bn.2 eT ah
   ·rename_i i S1 h1
    cases ah;refine wp_mono (EY bn.1 hR h1) fun e a' w' he=>?_;obtain⟨rfl,g1,eT⟩:=he;exact⟨rfl,g1,eT⟩
   ·rename_i S1 h1
    cases ah;refine wp_mono (EY bn.1 hR h1) fun e a' w' he=>?_;obtain⟨rfl,g1,eT⟩:=he;exact⟨rfl,g1,eT⟩
   ·cases ah
  |dead=>simp[VC.run]at ah
  |_=>simp[kb]at bn
 |cond c x y EY Ma =>
  intro vc S S' g a w ve bn hR ah;cases vc with
  |cond c' x' y' =>
   simp only[kb,Bool.and_eq_true]at bn;simp only[VC.run]at ah;split at ah
   ·rename_i t ht
    have:=yS (cQ hR bn.1.1 ht);refine wp_cond this ?_;cases t
    ·exact Ma bn.2 hR ah
    ·exact EY bn.1.2 hR ah
   ·cases ah
  |dead=>simp[VC.run]at ah
  |_=>simp[kb]at bn
 |block id x ih =>
  intro vc S S' g a w ve bn hR ah;cases vc with
  |block l7 x' =>
   simp only[kb,Bool.and_eq_true,beq_iff_eq]at bn;obtain⟨rfl,bn⟩:=bn;simp only[VC.run]at ah;refine wp_block ?_;split at ah
   ·rename_i S1 h1
    cases ah;refine wp_mono (ih bn hR h1) fun e a' w' he=>?_;obtain⟨rfl,g1,eT⟩:=he;exact⟨rfl,g1,eT⟩
   ·rename_i i S1 h1
    refine wp_mono (ih bn hR h1) fun e a' w' he=>?_;obtain⟨rfl,g1,eT⟩:=he;show if i=id then _ else _
    by_cases hi:i=id
    ·subst hi
     simp at ah;obtain⟨rfl,rfl⟩:=ah;rw[if_pos rfl];exact⟨rfl,g1,eT⟩
    ·have:(i==id)=false:=beq_eq_false_iff_ne.2 hi
     rw[this]at ah;cases ah;rw[if_neg hi];exact⟨rfl,g1,eT⟩
   ·rename_i S1 h1
    cases ah;refine wp_mono (ih bn hR h1) fun e a' w' he=>?_;obtain⟨rfl,g1,eT⟩:=he;exact⟨rfl,g1,eT⟩
   ·cases ah
  |dead=>simp[VC.run]at ah
  |_=>simp[kb]at bn
 |loop x ih =>
  intro vc S S' g a w ve bn hR ah;cases vc with
  |loop gh keep x' =>
   simp only[kb]at bn;simp only[VC.run]at ah;split at ah
   ·rename_i S1 hg
    obtain⟨g1,eT⟩:=H9 hR hg;refine wp_loop_rounds n (SH (fun S g a w ve S1 hR h1=>?_) n eT ah);exact ih bn (hR.keep keep) h1
   ·cases ah
  |dead=>simp[VC.run]at ah
  |_=>simp[kb]at bn
 |exit id =>
  intro vc S S' g a w ve bn hR ah;cases vc with
  |exit l7 =>
   simp only[kb,beq_iff_eq]at bn;subst bn;simp only[VC.run]at ah;cases ah;exact wp_exit ⟨rfl,g,hR⟩
  |dead=>simp[VC.run]at ah
  |_=>simp[kb]at bn
 |ret =>
  intro vc S S' g a w ve bn hR ah;cases vc with
  |ret =>
   simp only[VC.run]at ah;cases ah;exact wp_ret ⟨rfl,g,hR⟩
  |As gh =>
   simp only[VC.run]at ah;split at ah
   ·rename_i S1 hg
    cases ah;obtain⟨g1,eT⟩:=H9 hR hg;exact wp_ret ⟨rfl,g1,eT⟩
   ·cases ah
  |dead=>simp[VC.run]at ah
  |_=>simp[kb]at bn
 |label l =>
  intro vc S S' g a w ve bn hR ah;cases vc<;>simp[kb]at bn<;>simp only[VC.run]at ah<;>cases ah;exact wp_label ⟨rfl,g,hR⟩
 |scope x ih =>
  intro vc S S' g a w ve bn hR ah;by_cases SI:vc=.dead
  ·subst SI;simp[VC.run]at ah
  have bn:kb P ps E.nt x vc=true:=by cases vc<;>first|exact absurd rfl SI|exact bn
  refine wp_scope_straight (wp_mono (ih bn hR ah) fun e a' w' he=>?_);obtain⟨rfl,g1,eT⟩:=he;cases ve<;>exact⟨rfl,g1,eT⟩
 |_ =>
  intro vc S S' g a w ve bn hR ah;cases vc<;>simp[kb]at bn<;>simp[VC.run]at ah
end
end Go.Vm

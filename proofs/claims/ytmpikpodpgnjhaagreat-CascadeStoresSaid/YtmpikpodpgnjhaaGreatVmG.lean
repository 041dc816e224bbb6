/- The value machine, 16: code. -/
import Derived.LoopN
import Derived.WalkMore
import Derived.Test.YtmpikpodpgnjhaaGreatVmF
namespace Go.Vm
set_option linter.all false
def ju(P:Program)(ps:List (Nat×Nat))(nt:Nat):Code→VC→Bool
 |_,.dead=>true
 |.skip,.skip=>true
 |.region _ ops draw,.region _ ids tQ _=>vT P ps nt ops ops.toList tQ&&Cq tQ ids&&(!draw || Fo ops tQ)
 |.seq a b,.seq a' b'=>ju P ps nt a a'&&ju P ps nt b b'
 |.cond c a b,.cond c' a' b'=>bJ c c'&&ju P ps nt a a'&&ju P ps nt b b'
 |.block id a,.block lK a'=>id==lK&&ju P ps nt a a'
 |.loop a,.loop _ _ a'=>ju P ps nt a a'
 |.exit id,.exit lK=>id==lK
 |.ret,.ret=>true
 |.ret,.yi _=>true
 |.label _,.skip=>true
 |.scope a,a'=>ju P ps nt a a'
 |_,_=>false
def aaa:nD→Exit
 |.normal=>.normal
 |.exit id=>.exit id
 |.ret=>.ret
section
variable {P:Program} {E:Entry} {g g':Gh} {S S':St} {a:Act} {w w':World} {C:bm}
theorem Pv{vs:List bN}:∀(n k:Nat),k+n=vs.length→sE vs (List.range' k n)=vs.drop k
 |0,k,h=>by rw[List.drop_eq_nil_of_le (by omega)];rfl
 |n+1,k,h=>by
  have hk:k<vs.length:=by omega
  have ih:=Pv (vs:=vs) n (k+1) (by omega)
  unfold sE at ih ⊢;rw[List.range'_succ,List.filterMap_cons,List.getElem?_eq_getElem hk,List.drop_eq_getElem_cons hk];simp only[ih]
def CB(E:Entry)(e:nD)(S:St):Exit→Act→World→Prop:=fun x a w=>x=aaa e∧∃g,R E g S a w
theorem R.drew(hR:R E g S a w):R E g S a { w with drawn:=w.drawn+1 } :=
 ⟨hR.env,hR.aV,hR.a7,hR.ay,hR.defers,hR.jb,⟨hR.same.os,hR.same.tape,hR.same.output,hR.same.size,hR.same.eG,hR.same.γ,hR.same.γnew,hR.same.kW,hR.same.grow,hR.same.gN,hR.same.lv⟩⟩
theorem Fv:∀{gs:List hY} {S S':St} {g:Gh},R E g S a w→mB gs S=some S'→∃g',R E g' S' a w
 |[],S,S',g,hR,h=>by simp only[mB,Option.some.injEq]at h;subst h;exact⟨g,hR⟩
 |x::gs,S,S',g,hR,h=>by
  simp only[mB]at h;split at h
  ·rename_i S1 h1
   have:∃g',R E g' S1 a w:=by
    cases x with
    |norm s f n=>exact ZU hR h1
    |nB i o f n=>exact ZW hR h1
    |EE i o f n=>exact ZZ hR h1
    |iS i b=>exact Z0 hR h1
    |EF i o s=>exact Z2 hR h1
    |freeze s sh=>exact Z1 hR h1
    |p9 s i n=>exact Z3 hR h1
    |share s sh=>exact Z4 hR h1
    |EG s iB=>exact Z8 hR h1
    |BM i iB=>exact Z9 hR h1
   obtain⟨g1,eQ⟩:=this;exact Fv eQ h
  ·cases h
theorem aab{ps:List (Nat×Nat)}(iq:∀f k,look f ps=some k→pB P k f)(hm:P.follows .mixedOrders=true)(hC:oj P C){id:Nat}{ops:Array Oper}{draw:Bool}{gh:List hY}{ids:List Nat}{tQ:List bN}{keep:cR}{n:Nat}{ve:nD}
  (bg:ju P ps E.nt (.region id ops draw) (.region gh ids tQ keep)=true) (hR:R E g S a w) (ah:VC.run C n (.region gh ids tQ keep) S=some (ve,S')) :
  (Code.region id ops draw).wp P (CB E ve S') a w:=by
 simp only[ju,Bool.and_eq_true,Bool.or_eq_true,Bool.not_eq_true']at bg;obtain⟨⟨h1,h2⟩,h3⟩:=bg;simp only[VC.run]at ah;split at ah
 ·rename_i S1 hg
  split at ah
  ·rename_i S2 hc
   split at ah
   ·rename_i S3 hr
    cases ah;obtain⟨g1,eQ⟩:=Fv hR hg;obtain⟨hl,hn⟩:=xm hc;have AK:=eQ.less hl;have hQ:∀g a w,R E g S3 a w→CB E .normal (S3.keep keep) .normal a w:=fun g a w h=>⟨rfl,g,h.keep keep⟩;cases draw with
    |false =>
     refine wp_region ?_;rw[List.range_eq_range'];exact OZ iq h1 h2 hC hQ ops.size 0 S2 a w (by omega) ⟨⟨g1,AK⟩,fun d hd _=>hn d hd⟩ (by simpa using hr)
    |true =>
     have h3:Fo ops tQ=true:=by simpa using h3
     have hlen:=(AF h1).1;simp only[Array.length_toList]at hlen;refine wp_region_any hm ?_;have tP:kz ops.size (Array.replicate ops.size false)=List.range ops.size:=by
      unfold kz;apply List.filter_eq_self.2;intro j hj;have:=List.mem_range.1 hj;simp[this]
     have Jp:sE tQ (List.range ops.size)=tQ:=by
      rw[←hlen,List.range_eq_range'];exact Pv tQ.length 0 (by omega)
     exact ZP iq h1 h2 h3 hC hQ ops.size (Array.replicate ops.size false) [] S2 S3 a _ (by simp) (by rw[tP];simp)
      (fun j o ho hl=>by
       have hj:j<ops.size:=(Array.getElem?_eq_some_iff.1 ho).1;simp[hj]at hl)
      (fun j hj=>by cases hj) ⟨⟨g1,AK.drew⟩,fun d hd _=>hn d hd⟩ (by rw[tP,Jp];exact hr) (fun k=>O0 _ k)
   ·cases ah
  ·cases ah
 ·cases ah
theorem Pw{c:Code}{body:St→Option (nD×St)}(hb:∀S g a w ve S1,R E g S a w→body S=some (ve,S1)→c.wp P (CB E ve S1) a w) :
  ∀(n:Nat) {S S':St} {g:Gh} {a:Act} {w:World} {ve:nD},R E g S a w→iter body n S=some (ve,S')→Code.rounds P c (CB E ve S') n a w
 |0,S,S',g,a,w,ve,_,h=>by simp[iter]at h
 |n+1,S,S',g,a,w,ve,hR,h=>by
  rw[rounds_succ];simp only[iter]at h;split at h
  ·rename_i S1 h1
   refine wp_mono (hb S g a w _ _ hR h1) fun e a' w' he=>?_;obtain⟨rfl,g1,eQ⟩:=he;exact Pw hb n eQ h
  ·rename_i i S1 h1
   cases h;refine wp_mono (hb S g a w _ _ hR h1) fun e a' w' he=>?_;obtain⟨rfl,g1,eQ⟩:=he;exact⟨rfl,g1,eQ⟩
  ·rename_i S1 h1
   cases h;refine wp_mono (hb S g a w _ _ hR h1) fun e a' w' he=>?_;obtain⟨rfl,g1,eQ⟩:=he;exact⟨rfl,g1,eQ⟩
  ·cases h
theorem aac{ps:List (Nat×Nat)}(iq:∀f k,look f ps=some k→pB P k f)(hm:P.follows .mixedOrders=true)(hC:oj P C)(n:Nat):∀{c:Code} {vc:VC} {S S':St} {g:Gh} {a:Act} {w:World} {ve:nD},ju P ps E.nt c vc=true→R E g S a w →
  VC.run C n vc S=some (ve,S')→c.wp P (CB E ve S') a w:=by
 intro c;induction c with
 |skip =>
  intro vc S S' g a w ve bg hR ah;cases vc<;>simp[ju]at bg<;>simp only[VC.run]at ah<;>cases ah;exact wp_skip ⟨rfl,g,hR⟩
 |region id ops draw =>
  intro vc S S' g a w ve bg hR ah;cases vc with
  |region gh ids tQ keep=>exact aab iq hm hC bg hR ah
  |dead=>simp[VC.run]at ah
  |_=>simp[ju]at bg
 |seq x y CC Jv =>
  intro vc S S' g a w ve bg hR ah;cases vc with
  |seq x' y' =>
   simp only[ju,Bool.and_eq_true]at bg;simp only[VC.run]at ah;refine wp_seq ?_;split at ah
   ·rename_i S1 h1
    refine wp_mono (CC bg.1 hR h1) fun e a' w' he=>?_;obtain⟨rfl,g1,eQ⟩:=he;exact Jv bg.2 eQ ah
   ·rename_i i S1 h1
    cases ah;refine wp_mono (CC bg.1 hR h1) fun e a' w' he=>?_;obtain⟨rfl,g1,eQ⟩:=he;exact⟨rfl,g1,eQ⟩
   ·rename_i S1 h1
    cases ah;refine wp_mono (CC bg.1 hR h1) fun e a' w' he=>?_;obtain⟨rfl,g1,eQ⟩:=he;exact⟨rfl,g1,eQ⟩
   ·cases ah
  |dead=>simp[VC.run]at ah
  |_=>simp[ju]at bg
 |cond c x y CC Jv =>
  intro vc S S' g a w ve bg hR ah;cases vc with
  |cond c' x' y' =>
   simp only[ju,Bool.and_eq_true]at bg;simp only[VC.run]at ah;split at ah
   ·rename_i t ht
    have:=wY (cL hR bg.1.1 ht);refine wp_cond this ?_;cases t
    ·exact Jv bg.2 hR ah
    ·exact CC bg.1.2 hR ah
   ·cases ah
  |dead=>simp[VC.run]at ah
  |_=>simp[ju]at bg
 |block id x ih =>
  intro vc S S' g a w ve bg hR ah;cases vc with
  |block lK x' =>
   simp only[ju,Bool.and_eq_true,beq_iff_eq]at bg;obtain⟨rfl,bg⟩:=bg;simp only[VC.run]at ah;refine wp_block ?_;split at ah
   ·rename_i S1 h1
    cases ah;refine wp_mono (ih bg hR h1) fun e a' w' he=>?_;obtain⟨rfl,g1,eQ⟩:=he;exact⟨rfl,g1,eQ⟩
   ·rename_i i S1 h1
    refine wp_mono (ih bg hR h1) fun e a' w' he=>?_;obtain⟨rfl,g1,eQ⟩:=he;show if i=id then _ else _
    by_cases hi:i=id
    ·subst hi
     simp at ah;obtain⟨rfl,rfl⟩:=ah;rw[if_pos rfl];exact⟨rfl,g1,eQ⟩
    ·have:(i==id)=false:=beq_eq_false_iff_ne.2 hi
     rw[this]at ah;cases ah;rw[if_neg hi];exact⟨rfl,g1,eQ⟩
   ·rename_i S1 h1
    cases ah;refine wp_mono (ih bg hR h1) fun e a' w' he=>?_;obtain⟨rfl,g1,eQ⟩:=he;exact⟨rfl,g1,eQ⟩
   ·cases ah
  |dead=>simp[VC.run]at ah
  |_=>simp[ju]at bg
 |loop x ih =>
  intro vc S S' g a w ve bg hR ah;cases vc with
  |loop gh keep x' =>
   simp only[ju]at bg;simp only[VC.run]at ah;split at ah
   ·rename_i S1 hg
    obtain⟨g1,eQ⟩:=Fv hR hg;refine wp_loop_rounds n (Pw (fun S g a w ve S1 hR h1=>?_) n eQ ah);exact ih bg (hR.keep keep) h1
   ·cases ah
  |dead=>simp[VC.run]at ah
  |_=>simp[ju]at bg
 |exit id =>
  intro vc S S' g a w ve bg hR ah;cases vc with
  |exit lK =>
   simp only[ju,beq_iff_eq]at bg;subst bg;simp only[VC.run]at ah;cases ah;exact wp_exit ⟨rfl,g,hR⟩
  |dead=>simp[VC.run]at ah
  |_=>simp[ju]at bg
 |ret =>
  intro vc S S' g a w ve bg hR ah;cases vc with
  |ret =>
   simp only[VC.run]at ah;cases ah;exact wp_ret ⟨rfl,g,hR⟩
  |yi gh =>
   simp only[VC.run]at ah;split at ah
   ·rename_i S1 hg
    cases ah;obtain⟨g1,eQ⟩:=Fv hR hg;exact wp_ret ⟨rfl,g1,eQ⟩
   ·cases ah
  |dead=>simp[VC.run]at ah
  |_=>simp[ju]at bg
 |label l =>
  intro vc S S' g a w ve bg hR ah;cases vc<;>simp[ju]at bg<;>simp only[VC.run]at ah<;>cases ah;exact wp_label ⟨rfl,g,hR⟩
 |scope x ih =>
  intro vc S S' g a w ve bg hR ah;by_cases Px:vc=.dead
  ·subst Px;simp[VC.run]at ah
  have bg:ju P ps E.nt x vc=true:=by cases vc<;>first|exact absurd rfl Px|exact bg
  refine wp_scope_straight (wp_mono (ih bg hR ah) fun e a' w' he=>?_);obtain⟨rfl,g1,eQ⟩:=he;cases ve<;>exact⟨rfl,g1,eQ⟩
 |_ =>
  intro vc S S' g a w ve bg hR ah;cases vc<;>simp[ju]at bg<;>simp[VC.run]at ah
end
end Go.Vm

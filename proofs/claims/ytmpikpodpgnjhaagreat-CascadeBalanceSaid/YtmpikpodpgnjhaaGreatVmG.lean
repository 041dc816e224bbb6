/- The value machine, 16: code. -/
import Derived.LoopN
import Derived.WalkMore
import Derived.Test.YtmpikpodpgnjhaaGreatVmF
namespace Go.Vm
set_option linter.all false
def jS(P:Program)(ps:List (Nat×Nat))(nt:Nat):Code→VC→Bool
 |_,.dead=>true
 |.skip,.skip=>true
 |.region _ ops draw,.region _ ids tv _=>vr P ps nt ops ops.toList tv&&CH tv ids&&(!draw || Ft ops tv)
 |.seq a b,.seq a' b'=>jS P ps nt a a'&&jS P ps nt b b'
 |.cond c a b,.cond c' a' b'=>bX c c'&&jS P ps nt a a'&&jS P ps nt b b'
 |.block id a,.block lX a'=>id==lX&&jS P ps nt a a'
 |.loop a,.loop _ _ a'=>jS P ps nt a a'
 |.exit id,.exit lX=>id==lX
 |.ret,.ret=>true
 |.ret,.ue _=>true
 |.label _,.skip=>true
 |.scope a,a'=>jS P ps nt a a'
 |_,_=>false
def Yt:nU→Exit
 |.normal=>.normal
 |.exit id=>.exit id
 |.ret=>.ret
section
variable {P:Program} {E:Entry} {g g':Gh} {S S':St} {a:Act} {w w':World} {C:bC}
theorem PB{vs:List bI}:∀(n k:Nat),k+n=vs.length→se vs (List.range' k n)=vs.drop k
 |0,k,h=>by rw[List.drop_eq_nil_of_le (by omega)];rfl
 |n+1,k,h=>by
  have hk:k<vs.length:=by omega
  have ih:=PB (vs:=vs) n (k+1) (by omega)
  unfold se at ih ⊢;rw[List.range'_succ,List.filterMap_cons,List.getElem?_eq_getElem hk,List.drop_eq_getElem_cons hk];simp only[ih]
def CN(E:Entry)(e:nU)(S:St):Exit→Act→World→Prop:=fun x a w=>x=Yt e∧∃g,R E g S a w
theorem R.drew(hR:R E g S a w):R E g S a { w with drawn:=w.drawn+1 } :=
 ⟨hR.env,hR.bb,hR.bm,hR.az,hR.defers,hR.jy,⟨hR.same.os,hR.same.tape,hR.same.output,hR.same.size,hR.same.fb,hR.same.γ,hR.same.γnew,hR.same.lz,hR.same.grow,hR.same.ig,hR.same.lv⟩⟩
theorem Fz:∀{gs:List iO} {S S':St} {g:Gh},R E g S a w→mI gs S=some S'→∃g',R E g' S' a w
 |[],S,S',g,hR,h=>by simp only[mI,Option.some.injEq]at h;subst h;exact⟨g,hR⟩
 |x::gs,S,S',g,hR,h=>by
  simp only[mI]at h;split at h
  ·rename_i S1 h1
   have:∃g',R E g' S1 a w:=by
    cases x with
    |norm s f n=>exact Yd hR h1
    |kE i o f n=>exact Yf hR h1
    |Ih i o f n=>exact Yi hR h1
    |ic i b=>exact Yj hR h1
    |zX i o s=>exact Yl hR h1
    |freeze s sh=>exact Yk hR h1
    |ov s i n=>exact Ym hR h1
    |share s sh=>exact Yn hR h1
    |Ii s iY=>exact Yr hR h1
    |wA i iY=>exact Ys hR h1
   obtain⟨g1,fm⟩:=this;exact Fz fm h
  ·cases h
theorem Yu{ps:List (Nat×Nat)}(iR:∀f k,look f ps=some k→pU P k f)(hm:P.follows .mixedOrders=true)(hC:oN P C){id:Nat}{ops:Array Oper}{draw:Bool}{gh:List iO}{ids:List Nat}{tv:List bI}{keep:c9}{n:Nat}{ve:nU}
  (bz:jS P ps E.nt (.region id ops draw) (.region gh ids tv keep)=true) (hR:R E g S a w) (aj:VC.run C n (.region gh ids tv keep) S=some (ve,S')) :
  (Code.region id ops draw).wp P (CN E ve S') a w:=by
 simp only[jS,Bool.and_eq_true,Bool.or_eq_true,Bool.not_eq_true']at bz;obtain⟨⟨h1,h2⟩,h3⟩:=bz;simp only[VC.run]at aj;split at aj
 ·rename_i S1 hg
  split at aj
  ·rename_i S2 hc
   split at aj
   ·rename_i S3 hr
    cases aj;obtain⟨g1,fm⟩:=Fz hR hg;obtain⟨hl,hn⟩:=w5 hc;have AH:=fm.less hl;have hQ:∀g a w,R E g S3 a w→CN E .normal (S3.keep keep) .normal a w:=fun g a w h=>⟨rfl,g,h.keep keep⟩;cases draw with
    |false =>
     refine wp_region ?_;rw[List.range_eq_range'];exact O5 iR h1 h2 hC hQ ops.size 0 S2 a w (by omega) ⟨⟨g1,AH⟩,fun d hd _=>hn d hd⟩ (by simpa using hr)
    |true =>
     have h3:Ft ops tv=true:=by simpa using h3
     have hlen:=(AB h1).1;simp only[Array.length_toList]at hlen;refine wp_region_any hm ?_;have tu:kP ops.size (Array.replicate ops.size false)=List.range ops.size:=by
      unfold kP;apply List.filter_eq_self.2;intro j hj;have:=List.mem_range.1 hj;simp[this]
     have Jx:se tv (List.range ops.size)=tv:=by
      rw[←hlen,List.range_eq_range'];exact PB tv.length 0 (by omega)
     exact X8 iR h1 h2 h3 hC hQ ops.size (Array.replicate ops.size false) [] S2 S3 a _ (by simp) (by rw[tu];simp)
      (fun j o ho hl=>by
       have hj:j<ops.size:=(Array.getElem?_eq_some_iff.1 ho).1;simp[hj]at hl)
      (fun j hj=>by cases hj) ⟨⟨g1,AH.drew⟩,fun d hd _=>hn d hd⟩ (by rw[tu,Jx];exact hr) (fun k=>O6 _ k)
   ·cases aj
  ·cases aj
 ·cases aj
theorem PC{c:Code}{body:St→Option (nU×St)}(hb:∀S g a w ve S1,R E g S a w→body S=some (ve,S1)→c.wp P (CN E ve S1) a w) :
  ∀(n:Nat) {S S':St} {g:Gh} {a:Act} {w:World} {ve:nU},R E g S a w→iter body n S=some (ve,S')→Code.rounds P c (CN E ve S') n a w
 |0,S,S',g,a,w,ve,_,h=>by simp[iter]at h
 |n+1,S,S',g,a,w,ve,hR,h=>by
  rw[rounds_succ];simp only[iter]at h;split at h
  ·rename_i S1 h1
   refine wp_mono (hb S g a w _ _ hR h1) fun e a' w' he=>?_;obtain⟨rfl,g1,fm⟩:=he;exact PC hb n fm h
  ·rename_i i S1 h1
   cases h;refine wp_mono (hb S g a w _ _ hR h1) fun e a' w' he=>?_;obtain⟨rfl,g1,fm⟩:=he;exact⟨rfl,g1,fm⟩
  ·rename_i S1 h1
   cases h;refine wp_mono (hb S g a w _ _ hR h1) fun e a' w' he=>?_;obtain⟨rfl,g1,fm⟩:=he;exact⟨rfl,g1,fm⟩
  ·cases h
theorem Yv{ps:List (Nat×Nat)}(iR:∀f k,look f ps=some k→pU P k f)(hm:P.follows .mixedOrders=true)(hC:oN P C)(n:Nat):∀{c:Code} {vc:VC} {S S':St} {g:Gh} {a:Act} {w:World} {ve:nU},jS P ps E.nt c vc=true→R E g S a w →
  VC.run C n vc S=some (ve,S')→c.wp P (CN E ve S') a w:=by
 intro c;induction c with
 |skip =>
  intro vc S S' g a w ve bz hR aj;cases vc<;>simp[jS]at bz<;>simp only[VC.run]at aj<;>cases aj;exact wp_skip ⟨rfl,g,hR⟩
 |region id ops draw =>
  intro vc S S' g a w ve bz hR aj;cases vc with
  |region gh ids tv keep=>exact Yu iR hm hC bz hR aj
  |dead=>simp[VC.run]at aj
  |_=>simp[jS]at bz
 |seq x y CO JD =>
  intro vc S S' g a w ve bz hR aj;cases vc with
  |seq x' y' =>
   simp only[jS,Bool.and_eq_true]at bz;simp only[VC.run]at aj;refine wp_seq ?_;split at aj
   ·rename_i S1 h1
    refine wp_mono (CO bz.1 hR h1) fun e a' w' he=>?_;obtain⟨rfl,g1,fm⟩:=he;exact JD bz.2 fm aj
   ·rename_i i S1 h1
    cases aj;refine wp_mono (CO bz.1 hR h1) fun e a' w' he=>?_;obtain⟨rfl,g1,fm⟩:=he;exact⟨rfl,g1,fm⟩
   ·rename_i S1 h1
    cases aj;refine wp_mono (CO bz.1 hR h1) fun e a' w' he=>?_;obtain⟨rfl,g1,fm⟩:=he;exact⟨rfl,g1,fm⟩
   ·cases aj
  |dead=>simp[VC.run]at aj
  |_=>simp[jS]at bz
 |cond c x y CO JD =>
  intro vc S S' g a w ve bz hR aj;cases vc with
  |cond c' x' y' =>
   simp only[jS,Bool.and_eq_true]at bz;simp only[VC.run]at aj;split at aj
   ·rename_i t ht
    have:=wF (cZ hR bz.1.1 ht);refine wp_cond this ?_;cases t
    ·exact JD bz.2 hR aj
    ·exact CO bz.1.2 hR aj
   ·cases aj
  |dead=>simp[VC.run]at aj
  |_=>simp[jS]at bz
 |block id x ih =>
  intro vc S S' g a w ve bz hR aj;cases vc with
  |block lX x' =>
   simp only[jS,Bool.and_eq_true,beq_iff_eq]at bz;obtain⟨rfl,bz⟩:=bz;simp only[VC.run]at aj;refine wp_block ?_;split at aj
   ·rename_i S1 h1
    cases aj;refine wp_mono (ih bz hR h1) fun e a' w' he=>?_;obtain⟨rfl,g1,fm⟩:=he;exact⟨rfl,g1,fm⟩
   ·rename_i i S1 h1
    refine wp_mono (ih bz hR h1) fun e a' w' he=>?_;obtain⟨rfl,g1,fm⟩:=he;show if i=id then _ else _
    by_cases hi:i=id
    ·subst hi
     simp at aj;obtain⟨rfl,rfl⟩:=aj;rw[if_pos rfl];exact⟨rfl,g1,fm⟩
    ·have:(i==id)=false:=beq_eq_false_iff_ne.2 hi
     rw[this]at aj;cases aj;rw[if_neg hi];exact⟨rfl,g1,fm⟩
   ·rename_i S1 h1
    cases aj;refine wp_mono (ih bz hR h1) fun e a' w' he=>?_;obtain⟨rfl,g1,fm⟩:=he;exact⟨rfl,g1,fm⟩
   ·cases aj
  |dead=>simp[VC.run]at aj
  |_=>simp[jS]at bz
 |loop x ih =>
  intro vc S S' g a w ve bz hR aj;cases vc with
  |loop gh keep x' =>
   simp only[jS]at bz;simp only[VC.run]at aj;split at aj
   ·rename_i S1 hg
    obtain⟨g1,fm⟩:=Fz hR hg;refine wp_loop_rounds n (PC (fun S g a w ve S1 hR h1=>?_) n fm aj);exact ih bz (hR.keep keep) h1
   ·cases aj
  |dead=>simp[VC.run]at aj
  |_=>simp[jS]at bz
 |exit id =>
  intro vc S S' g a w ve bz hR aj;cases vc with
  |exit lX =>
   simp only[jS,beq_iff_eq]at bz;subst bz;simp only[VC.run]at aj;cases aj;exact wp_exit ⟨rfl,g,hR⟩
  |dead=>simp[VC.run]at aj
  |_=>simp[jS]at bz
 |ret =>
  intro vc S S' g a w ve bz hR aj;cases vc with
  |ret =>
   simp only[VC.run]at aj;cases aj;exact wp_ret ⟨rfl,g,hR⟩
  |ue gh =>
   simp only[VC.run]at aj;split at aj
   ·rename_i S1 hg
    cases aj;obtain⟨g1,fm⟩:=Fz hR hg;exact wp_ret ⟨rfl,g1,fm⟩
   ·cases aj
  |dead=>simp[VC.run]at aj
  |_=>simp[jS]at bz
 |label l =>
  intro vc S S' g a w ve bz hR aj;cases vc<;>simp[jS]at bz<;>simp only[VC.run]at aj<;>cases aj;exact wp_label ⟨rfl,g,hR⟩
 |scope x ih =>
  intro vc S S' g a w ve bz hR aj;by_cases PD:vc=.dead
  ·subst PD;simp[VC.run]at aj
  have bz:jS P ps E.nt x vc=true:=by cases vc<;>first|exact absurd rfl PD|exact bz
  refine wp_scope_straight (wp_mono (ih bz hR aj) fun e a' w' he=>?_);obtain⟨rfl,g1,fm⟩:=he;cases ve<;>exact⟨rfl,g1,fm⟩
 |_ =>
  intro vc S S' g a w ve bz hR aj;cases vc<;>simp[jS]at bz<;>simp[VC.run]at aj
end
end Go.Vm

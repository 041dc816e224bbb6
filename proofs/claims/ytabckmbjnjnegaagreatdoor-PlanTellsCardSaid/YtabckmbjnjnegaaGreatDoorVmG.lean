/- - -/
import Derived.LoopN
import Derived.WalkMore
import Derived.Test.YtabckmbjnjnegaaGreatDoorVmF
namespace Go.Vm
set_option linter.all false
def lV(P:Program)(ps:Ps)(nt:Nat):Code->VC->Bool
 |_,.dead=>true
 |.skip,.skip=>true
 |.region _ ops draw,.region _ ids zc _=>Bw P ps nt ops ops.toList zc&&Ke zc ids&&(!draw || Ob ops zc)
 |.seq a b,.seq a' b'=>lV P ps nt a a'&&lV P ps nt b b'
 |.cond c a b,.cond c' a' b'=>cc c c'&&lV P ps nt a a'&&lV P ps nt b b'
 |.block id a,.block nC a'=>id==nC&&lV P ps nt a a'
 |.loop a,.loop _ _ a'=>lV P ps nt a a'
 |.exit id,.exit nC=>id==nC
 |.ret,.ret=>true
 |.ret,.Es _=>true
 |.label _,.skip=>true
 |.scope a,a'=>lV P ps nt a a'
 |_,_=>false
def aoo:sa->Exit
 |.normal=>.normal
 |.exit id=>.exit id
 |.ret=>.ret
section
variable {P:Program} {E:Entry} {g g':Gh} {S S':St} {a:Act} {w w':World} {C:bI}
def aa6{vs:List cf}:∀(n k:Nat),k+n=vs.length->xP vs (List.range' k n)=vs.drop k
 |0,k,h=>by rw[Jj (by omega)];rfl
 |n+1,k,h=>by
  have hk:k<vs.length:=by omega
  have ih:=aa6 (vs:=vs) n (k+1) (by omega)
  unfold xP at ih ⊢;rw[El,Zm,eV hk,CG hk];simp only[ih]
def Kl(E:Entry)(e:sa)(S:St):Exit->Act->World->Prop:=λx a w=>x=aoo e/\∃g,R E g S a w
def R.drew(hR:R E g S a w):R E g S a { w with drawn:=w.drawn+1 } :=
 ⟨hR.env,hR.aY,hR.bo,hR.aC,hR.defers,hR.kr,⟨hR.same.os,hR.same.tape,hR.same.output,hR.same.size,hR.same.eZ,hR.same.γ,hR.same.γnew,hR.same.lQ,hR.same.grow,hR.same.jw,hR.same.lv⟩⟩
def Oi:∀{gs:List iP} {S S':St} {g:Gh},R E g S a w->qh gs S=some S'->∃g',R E g' S' a w
 |[],S,S',g,hR,h=>by simp only[qh,Option.some.injEq]at h;subst h;exact⟨g,hR⟩
 |x::gs,S,S',g,hR,h=>by
  simp only[qh]at h;split at h
  next S1 h1=>
   have:∃g',R E g' S1 a w:=by
    cases x with
    |norm s f n=>exact an5 hR h1
    |pB i o f n=>exact an7 hR h1
    |kF i b=>exact aob hR h1
    |Np i o s=>exact aod hR h1
    |freeze s sh=>exact aoc hR h1
    |tD s i n=>exact aoe hR h1
    |share s sh=>exact aof hR h1
    |GH i kG=>exact aon hR h1
    |yL i o k s=>exact aog hR h1
    |CP i b k o=>exact aoh hR h1
    |CQ i o s=>exact aoi hR h1
   obtain⟨g1,eW⟩:=this;exact Oi eW h
  .cases h
def aop{ps:Ps}(jH:yZ P E.T ps)(hm:P.follows .mixedOrders=true)(hC:sj P E.T C){id:Nat}{ops:Array Oper}{draw:Bool}{gh:List iP}{ids:List Nat}{zc:List cf}{keep:dG}{n:Nat}{ve:sa}
  (bE:lV P ps E.nt (.region id ops draw) (.region gh ids zc keep)=true) (hR:R E g S a w) (hrun:VC.run C n (.region gh ids zc keep) S=some (ve,S')) :
  (Code.region id ops draw).wp P (Kl E ve S') a w:=by
 simp only[lV,bZ,Ef,xo]at bE;obtain⟨⟨h1,h2⟩,h3⟩:=bE;simp only[VC.run]at hrun;split at hrun
 next S1 hg=>
  split at hrun
  next S2 hc=>
   split at hrun
   next S3 hr=>
    cases hrun;obtain⟨g1,eW⟩:=Oi hR hg;obtain⟨hl,hn⟩:=y9 hc;have pe:=eW.less hl;have hQ:∀g a w,R E g S3 a w->Kl E .normal (S3.keep keep) .normal a w:=λg a w h=>⟨rfl,g,h.keep keep⟩;cases draw with
    |false =>
     refine wp_region ?_;rw[Em];exact aaG jH h1 h2 hC hQ ops.size 0 S2 a w (by omega) ⟨⟨g1,pe⟩,λd hd _=>hn d hd⟩ (by simpa using hr)
    |true =>
     have h3:Ob ops zc=true:=by simpa using h3
     have hlen:=(Hj h1).1;simp only[zZ]at hlen;refine wp_region_any hm ?_;have y8:nB ops.size (Array.replicate ops.size false)=List.range ops.size:=by
      unfold nB;apply Gm.2;intro j hj;have:=Gr.1 hj;simp[this]
     have Tv:xP zc (List.range ops.size)=zc:=by
      rw[<-hlen,Em];exact aa6 zc.length 0 (by omega)
     exact an0 jH h1 h2 h3 hC hQ ops.size (Array.replicate ops.size false) [] S2 S3 a _ (by simp) (by rw[y8];simp)
      (λj o ho hl=>by
       have hj:j<ops.size:=(xn.1 ho).1;simp[hj]at hl)
      (λj hj=>by cases hj) ⟨⟨g1,pe.drew⟩,λd hd _=>hn d hd⟩ (by rw[y8,Tv];exact hr) (λk=>aaH _ k)
   .cases hrun
  .cases hrun
 .cases hrun
def aa7{c:Code}{body:St->Option (sa×St)}(hb:∀S g a w ve S1,R E g S a w->body S=some (ve,S1)->c.wp P (Kl E ve S1) a w) :
  ∀(n:Nat) {S S':St} {g:Gh} {a:Act} {w:World} {ve:sa},R E g S a w->iter body n S=some (ve,S')->Code.rounds P c (Kl E ve S') n a w
 |0,S,S',g,a,w,ve,_,h=>by simp[iter]at h
 |n+1,S,S',g,a,w,ve,hR,h=>by
  rw[rounds_succ];simp only[iter]at h;split at h
  next S1 h1=>
   refine wp_mono (hb S g a w _ _ hR h1) λe a' w' he=>?_;obtain⟨rfl,g1,eW⟩:=he;exact aa7 hb n eW h
  next i S1 h1=>
   cases h;refine wp_mono (hb S g a w _ _ hR h1) λe a' w' he=>?_;obtain⟨rfl,g1,eW⟩:=he;exact⟨rfl,g1,eW⟩
  next S1 h1=>
   cases h;refine wp_mono (hb S g a w _ _ hR h1) λe a' w' he=>?_;obtain⟨rfl,g1,eW⟩:=he;exact⟨rfl,g1,eW⟩
  .cases h
def aoq{ps:Ps}(jH:yZ P E.T ps)(hm:P.follows .mixedOrders=true)(hC:sj P E.T C)(n:Nat):∀{c:Code} {vc:VC} {S S':St} {g:Gh} {a:Act} {w:World} {ve:sa},lV P ps E.nt c vc=true->R E g S a w ->
  VC.run C n vc S=some (ve,S')->c.wp P (Kl E ve S') a w:=by
 intro c;induction c with
 |skip =>
  intro vc S S' g a w ve bE hR hrun;cases vc<;>simp[lV]at bE<;>simp only[VC.run]at hrun<;>cases hrun;exact wp_skip ⟨rfl,g,hR⟩
 |region id ops draw =>
  intro vc S S' g a w ve bE hR hrun;cases vc with
  |region gh ids zc keep=>exact aop jH hm hC bE hR hrun
  |dead=>simp[VC.run]at hrun
  |_=>simp[lV]at bE
 |seq x y Km TB =>
  intro vc S S' g a w ve bE hR hrun;cases vc with
  |seq x' y' =>
   simp only[lV,bZ]at bE;simp only[VC.run]at hrun;refine wp_seq ?_;split at hrun
   next S1 h1=>
    refine wp_mono (Km bE.1 hR h1) λe a' w' he=>?_;obtain⟨rfl,g1,eW⟩:=he;exact TB bE.2 eW hrun
   next i S1 h1=>
    cases hrun;refine wp_mono (Km bE.1 hR h1) λe a' w' he=>?_;obtain⟨rfl,g1,eW⟩:=he;exact⟨rfl,g1,eW⟩
   next S1 h1=>
    cases hrun;refine wp_mono (Km bE.1 hR h1) λe a' w' he=>?_;obtain⟨rfl,g1,eW⟩:=he;exact⟨rfl,g1,eW⟩
   .cases hrun
  |dead=>simp[VC.run]at hrun
  |_=>simp[lV]at bE
 |cond c x y Km TB =>
  intro vc S S' g a w ve bE hR hrun;cases vc with
  |cond c' x' y' =>
   simp only[lV,bZ]at bE;simp only[VC.run]at hrun;split at hrun
   next t ht=>
    have:=CX (di hR bE.1.1 ht);refine wp_cond this ?_;cases t
    .exact TB bE.2 hR hrun
    .exact Km bE.1.2 hR hrun
   .cases hrun
  |dead=>simp[VC.run]at hrun
  |_=>simp[lV]at bE
 |block id x ih =>
  intro vc S S' g a w ve bE hR hrun;cases vc with
  |block nC x' =>
   simp only[lV,bZ,ec]at bE;obtain⟨rfl,bE⟩:=bE;simp only[VC.run]at hrun;refine wp_block ?_;split at hrun
   next S1 h1=>
    cases hrun;refine wp_mono (ih bE hR h1) λe a' w' he=>?_;obtain⟨rfl,g1,eW⟩:=he;exact⟨rfl,g1,eW⟩
   next i S1 h1=>
    refine wp_mono (ih bE hR h1) λe a' w' he=>?_;obtain⟨rfl,g1,eW⟩:=he;show if i=id then _ else _
    by_cases hi:i=id
    .subst hi
     simp at hrun;obtain⟨rfl,rfl⟩:=hrun;rw[aJ rfl];exact⟨rfl,g1,eW⟩
    .have:(i==id)=false:=tC.2 hi
     rw[this]at hrun;cases hrun;rw[ax hi];exact⟨rfl,g1,eW⟩
   next S1 h1=>
    cases hrun;refine wp_mono (ih bE hR h1) λe a' w' he=>?_;obtain⟨rfl,g1,eW⟩:=he;exact⟨rfl,g1,eW⟩
   .cases hrun
  |dead=>simp[VC.run]at hrun
  |_=>simp[lV]at bE
 |loop x ih =>
  intro vc S S' g a w ve bE hR hrun;cases vc with
  |loop gh keep x' =>
   simp only[lV]at bE;simp only[VC.run]at hrun;split at hrun
   next S1 hg=>
    obtain⟨g1,eW⟩:=Oi hR hg;refine wp_loop_rounds n (aa7 (λS g a w ve S1 hR h1=>?_) n eW hrun);exact ih bE (hR.keep keep) h1
   .cases hrun
  |dead=>simp[VC.run]at hrun
  |_=>simp[lV]at bE
 |exit id =>
  intro vc S S' g a w ve bE hR hrun;cases vc with
  |exit nC =>
   simp only[lV,ec]at bE;subst bE;simp only[VC.run]at hrun;cases hrun;exact wp_exit ⟨rfl,g,hR⟩
  |dead=>simp[VC.run]at hrun
  |_=>simp[lV]at bE
 |ret =>
  intro vc S S' g a w ve bE hR hrun;cases vc with
  |ret =>
   simp only[VC.run]at hrun;cases hrun;exact wp_ret ⟨rfl,g,hR⟩
  |Es gh =>
   simp only[VC.run]at hrun;split at hrun
   next S1 hg=>
    cases hrun;obtain⟨g1,eW⟩:=Oi hR hg;exact wp_ret ⟨rfl,g1,eW⟩
   .cases hrun
  |dead=>simp[VC.run]at hrun
  |_=>simp[lV]at bE
 |label l =>
  intro vc S S' g a w ve bE hR hrun;cases vc<;>simp[lV]at bE<;>simp only[VC.run]at hrun<;>cases hrun;exact wp_label ⟨rfl,g,hR⟩
 |scope x ih =>
  intro vc S S' g a w ve bE hR hrun;by_cases aa8:vc=.dead
  .subst aa8;simp[VC.run]at hrun
  have bE:lV P ps E.nt x vc=true:=by cases vc<;>first|exact absurd rfl aa8|exact bE
  refine wp_scope_straight (wp_mono (ih bE hR hrun) λe a' w' he=>?_);obtain⟨rfl,g1,eW⟩:=he;cases ve<;>exact⟨rfl,g1,eW⟩
 |_ =>
  intro vc S S' g a w ve bE hR hrun;cases vc<;>simp[lV]at bE<;>simp[VC.run]at hrun
end

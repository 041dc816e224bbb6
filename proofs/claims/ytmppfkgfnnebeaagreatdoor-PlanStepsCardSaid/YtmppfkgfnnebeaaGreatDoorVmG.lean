/- The value machine, 16: code. -/
import Derived.LoopN
import Derived.WalkMore
import Derived.Test.YtmppfkgfnnebeaaGreatDoorVmF
namespace Go.Vm
set_option linter.all false
def kE(P:Program)(ps:Ps)(nt:Nat):Code→VC→Bool
 |_,.dead=>true
 |.skip,.skip=>true
 |.region _ ops draw,.region _ ids xh _=>zS P ps nt ops ops.toList xh&&HT xh ids&&(!draw || Lm ops xh)
 |.seq a b,.seq a' b'=>kE P ps nt a a'&&kE P ps nt b b'
 |.cond c a b,.cond c' a' b'=>bU c c'&&kE P ps nt a a'&&kE P ps nt b b'
 |.block id a,.block lU a'=>id==lU&&kE P ps nt a a'
 |.loop a,.loop _ _ a'=>kE P ps nt a a'
 |.exit id,.exit lU=>id==lU
 |.ret,.ret=>true
 |.ret,.Cu _=>true
 |.label _,.skip=>true
 |.scope a,a'=>kE P ps nt a a'
 |_,_=>false
def ajT:pN→Exit
 |.normal=>.normal
 |.exit id=>.exit id
 |.ret=>.ret
section
variable {P:Program} {E:Entry} {g g':Gh} {S S':St} {a:Act} {w w':World} {C:bD}
theorem XF{vs:List bH}:∀(n k:Nat),k+n=vs.length→vF vs (List.range' k n)=vs.drop k
 |0,k,h=>by rw[VK (by omega)];rfl
 |n+1,k,h=>by
  have hk:k<vs.length:=by omega
  have ih:=XF (vs:=vs) n (k+1) (by omega)
  unfold vF at ih ⊢;rw[Eh,VN,fN hk,Ki hk];simp only[ih]
def HZ(E:Entry)(e:pN)(S:St):Exit→Act→World→Prop:=fun x a w=>x=ajT e∧∃g,R E g S a w
theorem R.drew(hR:R E g S a w):R E g S a { w with drawn:=w.drawn+1 } :=
 ⟨hR.env,hR.aW,hR.bj,hR.aA,hR.defers,hR.js,⟨hR.same.os,hR.same.tape,hR.same.output,hR.same.size,hR.same.eK,hR.same.γ,hR.same.γnew,hR.same.kA,hR.same.grow,hR.same.iq,hR.same.lv⟩⟩
theorem Lu:∀{gs:List gP} {S S':St} {g:Gh},R E g S a w→oz gs S=some S'→∃g',R E g' S' a w
 |[],S,S',g,hR,h=>by simp only[oz,Option.some.injEq]at h;subst h;exact⟨g,hR⟩
 |x::gs,S,S',g,hR,h=>by
  simp only[oz]at h;split at h
  ·rename_i S1 h1
   have:∃g',R E g' S1 a w:=by
    cases x with
    |norm s f n=>exact ajA hR h1
    |oT i o f n=>exact ajC hR h1
    |KD i o f n=>exact ajF hR h1
    |jD i b=>exact ajG hR h1
    |KE i o s=>exact ajI hR h1
    |freeze s sh=>exact ajH hR h1
    |sj s i n=>exact ajJ hR h1
    |share s sh=>exact ajK hR h1
    |KF s jE=>exact ajR hR h1
    |G9 i jE=>exact ajS hR h1
    |wP i o k s=>exact ajL hR h1
    |A1 i b k o=>exact ajM hR h1
    |A2 i o s=>exact ajN hR h1
   obtain⟨g1,fb⟩:=this;exact Lu fb h
  ·cases h
theorem ajU{ps:Ps}(jj:w8 P E.T ps)(hm:P.follows .mixedOrders=true)(hC:qA P E.T C){id:Nat}{ops:Array Oper}{draw:Bool}{gh:List gP}{ids:List Nat}{xh:List bH}{keep:df}{n:Nat}{ve:pN}
  (bu:kE P ps E.nt (.region id ops draw) (.region gh ids xh keep)=true) (hR:R E g S a w) (hrun:VC.run C n (.region gh ids xh keep) S=some (ve,S')) :
  (Code.region id ops draw).wp P (HZ E ve S') a w:=by
 simp only[kE,bS,Cf,uV]at bu;obtain⟨⟨h1,h2⟩,h3⟩:=bu;simp only[VC.run]at hrun;split at hrun
 ·rename_i S1 hg
  split at hrun
  ·rename_i S2 hc
   split at hrun
   ·rename_i S3 hr
    cases hrun;obtain⟨g1,fb⟩:=Lu hR hg;obtain⟨hl,hn⟩:=xf hc;have uA:=fb.less hl;have hQ:∀g a w,R E g S3 a w→HZ E .normal (S3.keep keep) .normal a w:=fun g a w h=>⟨rfl,g,h.keep keep⟩;cases draw with
    |false =>
     refine wp_region ?_;rw[GZ];exact Xf jj h1 h2 hC hQ ops.size 0 S2 a w (by omega) ⟨⟨g1,uA⟩,fun d hd _=>hn d hd⟩ (by simpa using hr)
    |true =>
     have h3:Lm ops xh=true:=by simpa using h3
     have hlen:=(EW h1).1;simp only[xS]at hlen;refine wp_region_any hm ?_;have xe:lT ops.size (Array.replicate ops.size false)=List.range ops.size:=by
      unfold lT;apply Ec.2;intro j hj;have:=Ef.1 hj;simp[this]
     have P3:vF xh (List.range ops.size)=xh:=by
      rw[←hlen,GZ];exact XF xh.length 0 (by omega)
     exact ajv jj h1 h2 h3 hC hQ ops.size (Array.replicate ops.size false) [] S2 S3 a _ (by simp) (by rw[xe];simp)
      (fun j o ho hl=>by
       have hj:j<ops.size:=(xR.1 ho).1;simp[hj]at hl)
      (fun j hj=>by cases hj) ⟨⟨g1,uA.drew⟩,fun d hd _=>hn d hd⟩ (by rw[xe,P3];exact hr) (fun k=>Xg _ k)
   ·cases hrun
  ·cases hrun
 ·cases hrun
theorem XG{c:Code}{body:St→Option (pN×St)}(hb:∀S g a w ve S1,R E g S a w→body S=some (ve,S1)→c.wp P (HZ E ve S1) a w) :
  ∀(n:Nat) {S S':St} {g:Gh} {a:Act} {w:World} {ve:pN},R E g S a w→iter body n S=some (ve,S')→Code.rounds P c (HZ E ve S') n a w
 |0,S,S',g,a,w,ve,_,h=>by simp[iter]at h
 |n+1,S,S',g,a,w,ve,hR,h=>by
  rw[rounds_succ];simp only[iter]at h;split at h
  ·rename_i S1 h1
   refine wp_mono (hb S g a w _ _ hR h1) fun e a' w' he=>?_;obtain⟨rfl,g1,fb⟩:=he;exact XG hb n fb h
  ·rename_i i S1 h1
   cases h;refine wp_mono (hb S g a w _ _ hR h1) fun e a' w' he=>?_;obtain⟨rfl,g1,fb⟩:=he;exact⟨rfl,g1,fb⟩
  ·rename_i S1 h1
   cases h;refine wp_mono (hb S g a w _ _ hR h1) fun e a' w' he=>?_;obtain⟨rfl,g1,fb⟩:=he;exact⟨rfl,g1,fb⟩
  ·cases h
theorem ajV{ps:Ps}(jj:w8 P E.T ps)(hm:P.follows .mixedOrders=true)(hC:qA P E.T C)(n:Nat):∀{c:Code} {vc:VC} {S S':St} {g:Gh} {a:Act} {w:World} {ve:pN},kE P ps E.nt c vc=true→R E g S a w →
  VC.run C n vc S=some (ve,S')→c.wp P (HZ E ve S') a w:=by
 intro c;induction c with
 |skip =>
  intro vc S S' g a w ve bu hR hrun;cases vc<;>simp[kE]at bu<;>simp only[VC.run]at hrun<;>cases hrun;exact wp_skip ⟨rfl,g,hR⟩
 |region id ops draw =>
  intro vc S S' g a w ve bu hR hrun;cases vc with
  |region gh ids xh keep=>exact ajU jj hm hC bu hR hrun
  |dead=>simp[VC.run]at hrun
  |_=>simp[kE]at bu
 |seq x y H0 Qa =>
  intro vc S S' g a w ve bu hR hrun;cases vc with
  |seq x' y' =>
   simp only[kE,bS]at bu;simp only[VC.run]at hrun;refine wp_seq ?_;split at hrun
   ·rename_i S1 h1
    refine wp_mono (H0 bu.1 hR h1) fun e a' w' he=>?_;obtain⟨rfl,g1,fb⟩:=he;exact Qa bu.2 fb hrun
   ·rename_i i S1 h1
    cases hrun;refine wp_mono (H0 bu.1 hR h1) fun e a' w' he=>?_;obtain⟨rfl,g1,fb⟩:=he;exact⟨rfl,g1,fb⟩
   ·rename_i S1 h1
    cases hrun;refine wp_mono (H0 bu.1 hR h1) fun e a' w' he=>?_;obtain⟨rfl,g1,fb⟩:=he;exact⟨rfl,g1,fb⟩
   ·cases hrun
  |dead=>simp[VC.run]at hrun
  |_=>simp[kE]at bu
 |cond c x y H0 Qa =>
  intro vc S S' g a w ve bu hR hrun;cases vc with
  |cond c' x' y' =>
   simp only[kE,bS]at bu;simp only[VC.run]at hrun;split at hrun
   ·rename_i t ht
    have:=A9 (cY hR bu.1.1 ht);refine wp_cond this ?_;cases t
    ·exact Qa bu.2 hR hrun
    ·exact H0 bu.1.2 hR hrun
   ·cases hrun
  |dead=>simp[VC.run]at hrun
  |_=>simp[kE]at bu
 |block id x ih =>
  intro vc S S' g a w ve bu hR hrun;cases vc with
  |block lU x' =>
   simp only[kE,bS,dO]at bu;obtain⟨rfl,bu⟩:=bu;simp only[VC.run]at hrun;refine wp_block ?_;split at hrun
   ·rename_i S1 h1
    cases hrun;refine wp_mono (ih bu hR h1) fun e a' w' he=>?_;obtain⟨rfl,g1,fb⟩:=he;exact⟨rfl,g1,fb⟩
   ·rename_i i S1 h1
    refine wp_mono (ih bu hR h1) fun e a' w' he=>?_;obtain⟨rfl,g1,fb⟩:=he;show if i=id then _ else _
    by_cases hi:i=id
    ·subst hi
     simp at hrun;obtain⟨rfl,rfl⟩:=hrun;rw[aM rfl];exact⟨rfl,g1,fb⟩
    ·have:(i==id)=false:=A0.2 hi
     rw[this]at hrun;cases hrun;rw[ay hi];exact⟨rfl,g1,fb⟩
   ·rename_i S1 h1
    cases hrun;refine wp_mono (ih bu hR h1) fun e a' w' he=>?_;obtain⟨rfl,g1,fb⟩:=he;exact⟨rfl,g1,fb⟩
   ·cases hrun
  |dead=>simp[VC.run]at hrun
  |_=>simp[kE]at bu
 |loop x ih =>
  intro vc S S' g a w ve bu hR hrun;cases vc with
  |loop gh keep x' =>
   simp only[kE]at bu;simp only[VC.run]at hrun;split at hrun
   ·rename_i S1 hg
    obtain⟨g1,fb⟩:=Lu hR hg;refine wp_loop_rounds n (XG (fun S g a w ve S1 hR h1=>?_) n fb hrun);exact ih bu (hR.keep keep) h1
   ·cases hrun
  |dead=>simp[VC.run]at hrun
  |_=>simp[kE]at bu
 |exit id =>
  intro vc S S' g a w ve bu hR hrun;cases vc with
  |exit lU =>
   simp only[kE,dO]at bu;subst bu;simp only[VC.run]at hrun;cases hrun;exact wp_exit ⟨rfl,g,hR⟩
  |dead=>simp[VC.run]at hrun
  |_=>simp[kE]at bu
 |ret =>
  intro vc S S' g a w ve bu hR hrun;cases vc with
  |ret =>
   simp only[VC.run]at hrun;cases hrun;exact wp_ret ⟨rfl,g,hR⟩
  |Cu gh =>
   simp only[VC.run]at hrun;split at hrun
   ·rename_i S1 hg
    cases hrun;obtain⟨g1,fb⟩:=Lu hR hg;exact wp_ret ⟨rfl,g1,fb⟩
   ·cases hrun
  |dead=>simp[VC.run]at hrun
  |_=>simp[kE]at bu
 |label l =>
  intro vc S S' g a w ve bu hR hrun;cases vc<;>simp[kE]at bu<;>simp only[VC.run]at hrun<;>cases hrun;exact wp_label ⟨rfl,g,hR⟩
 |scope x ih =>
  intro vc S S' g a w ve bu hR hrun;by_cases XH:vc=.dead
  ·subst XH;simp[VC.run]at hrun
  have bu:kE P ps E.nt x vc=true:=by cases vc<;>first|exact absurd rfl XH|exact bu
  refine wp_scope_straight (wp_mono (ih bu hR hrun) fun e a' w' he=>?_);obtain⟨rfl,g1,fb⟩:=he;cases ve<;>exact⟨rfl,g1,fb⟩
 |_ =>
  intro vc S S' g a w ve bu hR hrun;cases vc<;>simp[kE]at bu<;>simp[VC.run]at hrun
end
end Go.Vm

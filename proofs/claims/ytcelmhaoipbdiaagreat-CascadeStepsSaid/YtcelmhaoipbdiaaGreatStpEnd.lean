/- CascadeSteps returns true, for every input. Its condition: none. -/
import Derived.SizedLaws
import Derived.Test.YtcelmhaoipbdiaaGreatEb
import Derived.Test.YtcelmhaoipbdiaaGreatDz
namespace Go.Proofs.YtcelmhaoipbdiaaGreat
set_option linter.all false
open Go.Vm
open Go.ChangeShapes Go.WideShapes Go.ChangeAt Go.RowKit
set_option maxRecDepth 100000 in
theorem axQ(H:Type)(us:List V)(ds:List (DataW H))(h:BY Tryz.prog 12 Tryz.f3.params.toList us ds):∃G',aX F 3 us []=some (.bool true,G'):=by
 have h:BY Tryz.prog 12 [22,24] us ds:=h;obtain⟨va,_,us,ds,rfl,rfl,ha,h⟩:=IE h;obtain⟨vb,_,us,ds,rfl,rfl,hb,h⟩:=IE h;obtain rfl:=Zf h;rw[alJ (t:=24) (n:=3) (by kernel_rfl)]
 obtain⟨t,rfl,_,hl⟩:=Za (e:=3) (by kernel_rfl) (by kernel_rfl) (by kernel_rfl) ha.1
 obtain⟨p,rfl,hp⟩:=awW hb;exact awT hl p hp
set_option maxRecDepth 100000 in
theorem axT(os:Os)(started:os.Started)(H:Type)(enc:TypeId×Value→H) :
  ReturnsInHanded {} Tryz.checked os 3 .any (Rows.cascadeStepsSpec.pre6 enc Tryz.prog Tryz.f3 Rows.cascadeStepsRow.domain false) (Rows.cascadeStepsSpec.post enc Tryz.prog Tryz.f3 false true false false):=by
 refine returnsInHanded_of_change_sized (C:=Tryz.checked) Tryz.own started (by kernel_rfl) Tryz.func3
  (ChangeSpec.witness6 (enc:=enc) (C:=Tryz.checked) false ⟨#[],#[.slice none 0 0,.agg #[.slice none 0 0,.slice none 0 0,.slice none 0 0]],[]⟩ 8 (by kernel_rfl) (by kernel_rfl) (by kernel_rfl) (by kernel_rfl)) ?_
 intro W base args ds gs before nQ hW _ hq _;exact Zh (d:=12) ahd Tryz.laidOut (Zb (by kernel_rfl)) rfl Tryz.underlying4 rfl
  (fun ds h=>by
   match ds,h with
   |[d1,d2],_=>exact⟨rfl,rfl,rfl⟩) (axQ H · ds) nQ hW hq
set_option maxHeartbeats 8000000 in
theorem stp_holds:Rows.CascadeStepsSaid :=
 OpenClaim.holds_of_wide 3 Tryz.f3 rfl rfl rfl rfl rfl rfl rfl ⟨rfl,rfl,rfl,rfl,rfl⟩ rfl rfl rfl rfl rfl (by as_aux_lemma=>kernel_rfl) Tryz.func3 (by unfold joinedFacts;simp only[b8];(repeat' apply And.intro)<;>as_aux_lemma=>kernel_rfl)
  (ER (by as_aux_lemma=>kernel_rfl)) (by unfold Func.isWrapper;first|(rw[aK (by decide +kernel)];kernel_rfl)|(rw[av (by decide +kernel)];exact⟨rfl,rfl⟩))
  (fun os started H enc _=>axT os started H enc)
end Go.Proofs.YtcelmhaoipbdiaaGreat
#print axioms Go.Proofs.YtcelmhaoipbdiaaGreat.stp_holds

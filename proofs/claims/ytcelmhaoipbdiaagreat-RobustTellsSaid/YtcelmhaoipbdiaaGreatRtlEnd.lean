/- RobustTells returns true, for every input. Its condition: none. -/
import Derived.SizedLaws
import Derived.Test.YtcelmhaoipbdiaaGreatFb
import Derived.Test.YtcelmhaoipbdiaaGreatDz
namespace Go.Proofs.YtcelmhaoipbdiaaGreat
set_option linter.all false
open Go.Vm
open Go.ChangeShapes Go.WideShapes Go.ChangeAt Go.RowKit
set_option maxRecDepth 100000 in
theorem axU(H:Type)(us:List V)(ds:List (DataW H))(h:BY Tryz.prog 12 Tryz.f4.params.toList us ds):∃G',aX F 4 us []=some (.bool true,G'):=by
 have h:BY Tryz.prog 12 [22,62,3] us ds:=h;obtain⟨va,_,us,ds,rfl,rfl,ha,h⟩:=IE h;obtain⟨vb,_,us,ds,rfl,rfl,hb,h⟩:=IE h;obtain⟨vc,_,us,ds,rfl,rfl,hc,h⟩:=IE h;obtain rfl:=Zf h;obtain⟨t,rfl,_,hl⟩:=Za (e:=3) (by kernel_rfl) (by kernel_rfl) (by kernel_rfl) ha.1
 obtain⟨w,rfl,hw,GU⟩:=axP hb;obtain⟨n,rfl,_⟩:=Mi (k:=.i64) (by kernel_rfl) hc.1
 exact axH hl w GU (fun x hx=>(hw x hx).1) (fun x hx=>(hw x hx).2) n
set_option maxRecDepth 100000 in
theorem axV(os:Os)(started:os.Started)(H:Type)(enc:TypeId×Value→H) :
  ReturnsInHanded {} Tryz.checked os 4 .any (Rows.robustTellsSpec.pre6 enc Tryz.prog Tryz.f4 Rows.robustTellsRow.domain false) (Rows.robustTellsSpec.post enc Tryz.prog Tryz.f4 false true false false):=by
 refine returnsInHanded_of_change_sized (C:=Tryz.checked) Tryz.own started (by kernel_rfl) Tryz.func4
  (ChangeSpec.witness6 (enc:=enc) (C:=Tryz.checked) false ⟨#[],#[.slice none 0 0,.slice none 0 0,.int .i64 0],[]⟩ 8 (by kernel_rfl) (by kernel_rfl) (by kernel_rfl) (by kernel_rfl)) ?_
 intro W base args ds gs before nQ hW _ hq _;exact Zh (d:=12) ahd Tryz.laidOut (Zb (by kernel_rfl)) rfl Tryz.underlying4 rfl
  (fun ds h=>by
   match ds,h with
   |[d1,d2,d3],_=>exact⟨rfl,rfl,rfl⟩) (axU H · ds) nQ hW hq
set_option maxHeartbeats 8000000 in
theorem rtl_holds:Rows.RobustTellsSaid :=
 OpenClaim.holds_of_wide 4 Tryz.f4 rfl rfl rfl rfl rfl rfl rfl ⟨rfl,rfl,rfl,rfl,rfl⟩ rfl rfl rfl rfl rfl (by as_aux_lemma=>kernel_rfl) Tryz.func4 (by unfold joinedFacts;simp only[b8];(repeat' apply And.intro)<;>as_aux_lemma=>kernel_rfl)
  (ER (by as_aux_lemma=>kernel_rfl)) (by unfold Func.isWrapper;first|(rw[aK (by decide +kernel)];kernel_rfl)|(rw[av (by decide +kernel)];exact⟨rfl,rfl⟩))
  (fun os started H enc _=>axV os started H enc)
end Go.Proofs.YtcelmhaoipbdiaaGreat
#print axioms Go.Proofs.YtcelmhaoipbdiaaGreat.rtl_holds

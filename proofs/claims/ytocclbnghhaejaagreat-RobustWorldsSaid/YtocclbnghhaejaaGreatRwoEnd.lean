/- RobustWorlds returns true, for every input. Its condition: none. -/
import Derived.Test.YtocclbnghhaejaaGreatDj
import Derived.Test.YtocclbnghhaejaaGreatDh
namespace Go.Proofs.YtocclbnghhaejaaGreat
set_option linter.all false
open Go.Vm
open Go.ChangeShapes Go.WideShapes Go.ChangeAt Go.RowKit
set_option maxRecDepth 100000 in
theorem aBP(H:Type)(us:List V)(ds:List (DataW H))(h:tX Tryz.prog 6 Tryz.f7.params.toList us ds):∃G',aX F 7 us []=some (.bool true,G'):=by
 have h:tX Tryz.prog 6 [22] us ds:=h;obtain⟨va,_,us,ds,rfl,rfl,ha,h⟩:=Iz h;obtain rfl:=MH h;obtain⟨t,rfl,_,hl⟩:=Fg (e:=3) (by kernel_rfl) (by kernel_rfl) (by kernel_rfl) ha
 exact aBa hl
set_option maxRecDepth 100000 in
theorem aBQ(os:Os)(started:os.Started)(H:Type)(enc:TypeId×Value→H) :
  ReturnsInHanded {} Tryz.checked os 7 .any (Rows.robustWorldsSpec.pre6 enc Tryz.prog Tryz.f7 Rows.robustWorldsRow.domain false) (Rows.robustWorldsSpec.post enc Tryz.prog Tryz.f7 false true false false):=by
 refine returnsInHanded_of_change (C:=Tryz.checked) Tryz.own started (by kernel_rfl) Tryz.func7
  (ChangeSpec.witness6 (enc:=enc) (C:=Tryz.checked) false ⟨#[],#[.slice none 0 0],[]⟩ 8 (by kernel_rfl) (by kernel_rfl) (by kernel_rfl) (by kernel_rfl)) ?_
 intro W base args ds gs before lO hW _ _;exact Mq (d:=6) QE Tryz.laidOut (MI (by kernel_rfl)) rfl Tryz.underlying4 rfl
  (fun ds h=>by
   match ds,h with
   |[d1],_=>exact⟨rfl,rfl,rfl⟩) (aBP H · ds) lO hW
set_option maxHeartbeats 8000000 in
theorem rwo_holds:Rows.RobustWorldsSaid :=
 OpenClaim.holds_of_wide 7 Tryz.f7 rfl rfl rfl rfl rfl rfl rfl ⟨rfl,rfl,rfl,rfl,rfl⟩ rfl rfl rfl rfl rfl (by as_aux_lemma=>kernel_rfl) Tryz.func7 (by unfold joinedFacts;simp only[Bool.and_eq_true];(repeat' apply And.intro)<;>as_aux_lemma=>kernel_rfl)
  (of_decide_eq_true (by as_aux_lemma=>kernel_rfl)) (by unfold Func.isWrapper;first|(rw[if_pos (by decide +kernel)];kernel_rfl)|(rw[if_neg (by decide +kernel)];exact⟨rfl,rfl⟩))
  (fun os started H enc _=>aBQ os started H enc)
end Go.Proofs.YtocclbnghhaejaaGreat
#print axioms Go.Proofs.YtocclbnghhaejaaGreat.rwo_holds

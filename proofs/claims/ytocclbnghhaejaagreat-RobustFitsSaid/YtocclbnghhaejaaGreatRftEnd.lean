/- RobustFits returns true, for every input. Its condition: none. -/
import Derived.Test.YtocclbnghhaejaaGreatDl
import Derived.Test.YtocclbnghhaejaaGreatDh
namespace Go.Proofs.YtocclbnghhaejaaGreat
set_option linter.all false
open Go.Vm
open Go.ChangeShapes Go.WideShapes Go.ChangeAt Go.RowKit
theorem aij{n:Int}(h:(Lit.int .u8 n).wf=true):0≤n∧n≤255:=by
 simpa [Lit.wf,IntKind.min,IntKind.max,IntKind.signed,IntKind.bits] using h
set_option maxRecDepth 100000 in
theorem aBR(H:Type)(us:List V)(ds:List (DataW H))(h:tX Tryz.prog 6 Tryz.f10.params.toList us ds):∃G',aX F 10 us []=some (.bool true,G'):=by
 have h:tX Tryz.prog 6 [22,5] us ds:=h;obtain⟨va,_,us,ds,rfl,rfl,ha,h⟩:=Iz h;obtain⟨v0,_,us,ds,rfl,rfl,h0,h⟩:=Iz h;obtain rfl:=MH h;obtain⟨t,rfl,_,hl⟩:=Fg (e:=3) (by kernel_rfl) (by kernel_rfl) (by kernel_rfl) ha
 obtain⟨n0,rfl,w0⟩:=Ff (k:=.u8) (by kernel_rfl) h0
 exact aBt hl (aij w0)
set_option maxRecDepth 100000 in
theorem aBS(os:Os)(started:os.Started)(H:Type)(enc:TypeId×Value→H) :
  ReturnsInHanded {} Tryz.checked os 10 .any (Rows.robustFitsSpec.pre6 enc Tryz.prog Tryz.f10 Rows.robustFitsRow.domain false) (Rows.robustFitsSpec.post enc Tryz.prog Tryz.f10 false true false false):=by
 refine returnsInHanded_of_change (C:=Tryz.checked) Tryz.own started (by kernel_rfl) Tryz.func10
  (ChangeSpec.witness6 (enc:=enc) (C:=Tryz.checked) false ⟨#[],#[.slice none 0 0,.int .u8 0],[]⟩ 8 (by kernel_rfl) (by kernel_rfl) (by kernel_rfl) (by kernel_rfl)) ?_
 intro W base args ds gs before lO hW _ _;exact Mq (d:=6) QE Tryz.laidOut (MI (by kernel_rfl)) rfl Tryz.underlying4 rfl
  (fun ds h=>by
   match ds,h with
   |[d1,d2],_=>exact⟨rfl,rfl,rfl⟩) (aBR H · ds) lO hW
set_option maxHeartbeats 8000000 in
theorem rft_holds:Rows.RobustFitsSaid :=
 OpenClaim.holds_of_wide 10 Tryz.f10 rfl rfl rfl rfl rfl rfl rfl ⟨rfl,rfl,rfl,rfl,rfl⟩ rfl rfl rfl rfl rfl (by as_aux_lemma=>kernel_rfl) Tryz.func10 (by unfold joinedFacts;simp only[Bool.and_eq_true];(repeat' apply And.intro)<;>as_aux_lemma=>kernel_rfl)
  (of_decide_eq_true (by as_aux_lemma=>kernel_rfl)) (by unfold Func.isWrapper;first|(rw[if_pos (by decide +kernel)];kernel_rfl)|(rw[if_neg (by decide +kernel)];exact⟨rfl,rfl⟩))
  (fun os started H enc _=>aBS os started H enc)
end Go.Proofs.YtocclbnghhaejaaGreat
#print axioms Go.Proofs.YtocclbnghhaejaaGreat.rft_holds

/- CascadeDams returns true, for every input. Its condition: none. -/
import Derived.Test.YtmpikpodpgnjhaaGreatDg
namespace Go.Proofs.YtmpikpodpgnjhaaGreat
set_option linter.all false
open Go.Vm
open Go.ChangeShapes Go.WideShapes Go.ChangeAt Go.RowKit
set_option maxRecDepth 100000 in
theorem akI(H:Type)(us:List V)(ds:List (DataW H))(h:xa Tryz.prog 6 Tryz.f4.params.toList us ds):∃G',bn F 4 us []=some (.bool true,G'):=by
 have h:xa Tryz.prog 6 [22] us ds:=h;obtain⟨va,_,us,ds,rfl,rfl,ha,h⟩:=Zx h;obtain rfl:=Zy h;obtain⟨t,rfl,_,hl⟩:=Zw (e:=3) (by kernel_rfl) (by kernel_rfl) (by kernel_rfl) ha
 exact akE hl
set_option maxRecDepth 100000 in
theorem akJ(os:Os)(started:os.Started)(H:Type)(enc:TypeId×Value→H) :
  ReturnsInHanded {} Tryz.checked os 4 .any (Rows.cascadeDamsSpec.pre6 enc Tryz.prog Tryz.f4 Rows.cascadeDamsRow.domain false) (Rows.cascadeDamsSpec.post enc Tryz.prog Tryz.f4 false true false false):=by
 refine returnsInHanded_of_change (C:=Tryz.checked) Tryz.own started (by kernel_rfl) Tryz.func4
  (ChangeSpec.witness6 (enc:=enc) (C:=Tryz.checked) false ⟨#[],#[.slice none 0 0],[]⟩ 8 (by kernel_rfl) (by kernel_rfl) (by kernel_rfl) (by kernel_rfl)) ?_
 intro W base args ds gs before oa hW _ _;exact Y4 (d:=6) aiM Tryz.laidOut (Zz (by kernel_rfl)) rfl Tryz.underlying4 rfl
  (fun ds h=>by
   match ds,h with
   |[d1],_=>exact⟨rfl,rfl,rfl⟩) (akI H · ds) oa hW
set_option maxHeartbeats 8000000 in
theorem cdams_holds:Rows.CascadeDamsSaid :=
 OpenClaim.holds_of_wide 4 Tryz.f4 rfl rfl rfl rfl rfl rfl rfl ⟨rfl,rfl,rfl,rfl,rfl⟩ rfl rfl rfl rfl rfl (by as_aux_lemma=>kernel_rfl) Tryz.func4 (by unfold joinedFacts;simp only[Bool.and_eq_true];(repeat' apply And.intro)<;>as_aux_lemma=>kernel_rfl)
  (of_decide_eq_true (by as_aux_lemma=>kernel_rfl)) (by unfold Func.isWrapper;first|(rw[if_pos (by decide +kernel)];kernel_rfl)|(rw[if_neg (by decide +kernel)];exact⟨rfl,rfl⟩))
  (fun os started H enc _=>akJ os started H enc)
end Go.Proofs.YtmpikpodpgnjhaaGreat
#print axioms Go.Proofs.YtmpikpodpgnjhaaGreat.cdams_holds

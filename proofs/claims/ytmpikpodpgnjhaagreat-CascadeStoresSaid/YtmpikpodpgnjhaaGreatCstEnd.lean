/- CascadeStores returns true, for every input. Its condition: none. -/
import Derived.Test.YtmpikpodpgnjhaaGreatDh
namespace Go.Proofs.YtmpikpodpgnjhaaGreat
set_option linter.all false
open Go.Vm
open Go.ChangeShapes Go.WideShapes Go.ChangeAt Go.RowKit
set_option maxRecDepth 100000 in
theorem akm(H:Type)(us:List V)(ds:List (DataW H))(h:xr Tryz.prog 6 Tryz.f6.params.toList us ds):∃G',a8 F 6 us []=some (.bool true,G'):=by
 have h:xr Tryz.prog 6 [22] us ds:=h;obtain⟨va,_,us,ds,rfl,rfl,ha,h⟩:=abd h;obtain rfl:=abe h;obtain⟨t,rfl,_,hl⟩:=abc (e:=3) (by kernel_rfl) (by kernel_rfl) (by kernel_rfl) ha
 exact akc hl
set_option maxRecDepth 100000 in
theorem akn(os:Os)(started:os.Started)(H:Type)(enc:TypeId×Value→H) :
  ReturnsInHanded {} Tryz.checked os 6 .any (Rows.cascadeStoresSpec.pre6 enc Tryz.prog Tryz.f6 Rows.cascadeStoresRow.domain false) (Rows.cascadeStoresSpec.post enc Tryz.prog Tryz.f6 false true false false):=by
 refine returnsInHanded_of_change (C:=Tryz.checked) Tryz.own started (by kernel_rfl) Tryz.func6
  (ChangeSpec.witness6 (enc:=enc) (C:=Tryz.checked) false ⟨#[],#[.slice none 0 0],[]⟩ 8 (by kernel_rfl) (by kernel_rfl) (by kernel_rfl) (by kernel_rfl)) ?_
 intro W base args ds gs before nK hW _ _;exact aaK (d:=6) akl Tryz.laidOut (tys (by kernel_rfl)) rfl Tryz.underlying4 rfl
  (fun ds h=>by
   match ds,h with
   |[d1],_=>exact⟨rfl,rfl,rfl⟩) (akm H · ds) nK hW
set_option maxHeartbeats 8000000 in
theorem cst_holds:Rows.CascadeStoresSaid :=
 OpenClaim.holds_of_wide 6 Tryz.f6 rfl rfl rfl rfl rfl rfl rfl ⟨rfl,rfl,rfl,rfl,rfl⟩ rfl rfl rfl rfl rfl (by as_aux_lemma=>kernel_rfl) Tryz.func6 (by unfold joinedFacts;simp only[Bool.and_eq_true];(repeat' apply And.intro)<;>as_aux_lemma=>kernel_rfl)
  (of_decide_eq_true (by as_aux_lemma=>kernel_rfl)) (by unfold Func.isWrapper;first|(rw[if_pos (by decide +kernel)];kernel_rfl)|(rw[if_neg (by decide +kernel)];exact⟨rfl,rfl⟩))
  (fun os started H enc _=>akn os started H enc)
end Go.Proofs.YtmpikpodpgnjhaaGreat
#print axioms Go.Proofs.YtmpikpodpgnjhaaGreat.cst_holds

/- PlanSteps returns true, for every input, where the listed package variable is laid as the program's text lays it. Its condition: that alone. -/
import Derived.Test.YtmppfkgfnnebeaaGreatDoorDa
import Derived.Test.YtmppfkgfnnebeaaGreatDoorDj
import Derived.Test.YtmppfkgfnnebeaaGreatDoorTie
import Derived.Test.YtmppfkgfnnebeaaGreatDoorCards
namespace Go.Proofs.YtmppfkgfnnebeaaGreatDoor
set_option linter.all false
open Go.Vm
open Go.ChangeShapes Go.WideShapes Go.ChangeAt Go.RowKit
set_option maxRecDepth 100000 in
theorem aDn(H:Type)(us:List V)(ds:List (DataW H))(h:BE Tryz.prog 6 Tryz.f3.params.toList us ds):∃G',aZ F 3 us []=some (.bool true,G'):=by
 have h:BE Tryz.prog 6 [22] us ds:=h;obtain⟨va,_,us,ds,rfl,rfl,ha,h⟩:=akV h;obtain rfl:=akW h;obtain⟨t,rfl,_,hl⟩:=akU (e:=3) (by kernel_rfl) (by kernel_rfl) (by kernel_rfl) ha
 exact aC9 hl
set_option maxRecDepth 100000 in
theorem aDo(os:Os)(started:os.Started)(H:Type)(enc:TypeId×Value→H) :
  ReturnsInHanded {} Tryz.checked os 3 .any (fun w args=>(Rows.planStepsSpec.pre enc Tryz.prog Tryz.f3 [] false w args∧laidMetH Tryz.prog Dx w)∧sizedMet enc Tryz.prog Tryz.f3 (OpenSpec.ofChange Rows.planStepsSpec) false w args) (Rows.planStepsSpec.post enc Tryz.prog Tryz.f3 false true false false):=by
 refine returnsInHanded_of_change_and (C:=Tryz.checked) (X:=fun w _=>laidMetH Tryz.prog Dx w) (fun _ _ _ hh h=>h.of_heap hh) Tryz.own started (by kernel_rfl) Tryz.func3
  (ChangeSpec.witness_at (enc:=enc) (C:=Tryz.checked) (os:=os) (X:=fun w _=>laidMetH Tryz.prog Dx w) false (adA os) #[.slice none 0 0] 8 rfl (by kernel_rfl) (by kernel_rfl) (by kernel_rfl) (by kernel_rfl) (by kernel_rfl) (aqZ os _)) ?_
 intro W base args ds gs before pX hW _ _ hL _;exact akt (d:=6) aqT Tryz.laidOut (tys (by kernel_rfl)) rfl Tryz.underlying4 rfl
  (fun ds h=>by
   match ds,h with
   |[d1],_=>exact⟨rfl,rfl,rfl⟩) (aDn H · ds) pX hW rfl (aqY hL)
set_option maxHeartbeats 8000000 in
theorem aDr:Rows.PlanStepsSaid :=
 OpenClaim.holds_of_wide 3 Tryz.f3 rfl rfl rfl rfl rfl rfl rfl ⟨rfl,rfl,rfl,rfl,rfl⟩ rfl rfl rfl rfl rfl (by as_aux_lemma=>kernel_rfl) Tryz.func3 (by unfold joinedFacts;simp only[bS];(repeat' apply And.intro)<;>as_aux_lemma=>kernel_rfl)
  (G8 (by as_aux_lemma=>kernel_rfl)) (by unfold Func.isWrapper;first|(rw[aM (by decide +kernel)];kernel_rfl)|(rw[ay (by decide +kernel)];exact⟨rfl,rfl⟩))
  (fun os started H enc _=>aDo os started H enc)
set_option maxHeartbeats 8000000 in
theorem pls_holds:Rows.PlanStepsCardSaid :=
 Claim7.holds_tied_plain_at .later [] [.data] true (true, "59da29f2c6ffbca29241aa5ef2adf240c4e91539583afcd3fb608bd5f01a99f9") false
  aDr (fun _ h=>by cases h) (by as_aux_lemma=>kernel_rfl) (fun _ h=>by cases h) planSteps_row_tie rfl ⟨rfl,rfl⟩ (by as_aux_lemma=>kernel_rfl) rfl
  (fun f fn hf qw=>by
   obtain rfl:f=3:=Option.some.inj ((show Tryz.prog.funcNamed "hydrocascade/hydrocascadelaw39.PlanSteps"=some 3 by as_aux_lemma=>kernel_rfl).symm.trans hf) |>.symm
   obtain rfl:fn=Tryz.f3:=(Option.some.inj (Tryz.func3.symm.trans qw)).symm;exact⟨by as_aux_lemma=>kernel_rfl,fun j t ht=>by
    have ht:([22]:List TypeId)[j]?=some t:=by simpa [Tryz.params3] using ht
    rcases j with _|j
    ·cases ht;exact(show Tryz.prog.wantsStandIn 22=false by as_aux_lemma=>kernel_rfl)
    ·cases ht⟩)
  (by as_aux_lemma=>kernel_rfl)
end Go.Proofs.YtmppfkgfnnebeaaGreatDoor
#print axioms Go.Proofs.YtmppfkgfnnebeaaGreatDoor.pls_holds

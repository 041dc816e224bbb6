/- PlanParts returns true, for every input, where the listed package variable is laid as the program's text lays it. Its condition: that alone. -/
import Derived.Test.YtcelmhaoipbdiaaGreatDoorDz
import Derived.Test.YtcelmhaoipbdiaaGreatDoorDh
import Derived.Test.YtcelmhaoipbdiaaGreatDoorTie
import Derived.Test.YtcelmhaoipbdiaaGreatDoorCards
namespace Go.Proofs.YtcelmhaoipbdiaaGreatDoor
set_option linter.all false
open Go.Vm
open Go.ChangeShapes Go.WideShapes Go.ChangeAt Go.RowKit
theorem aqL{n:Int}(h:(Lit.int .u8 n).wf=true):0≤n∧n≤255:=by
 simpa [Lit.wf,IntKind.min,IntKind.max,IntKind.signed,IntKind.bits] using h
set_option maxRecDepth 100000 in
theorem aqM(H:Type)(us:List V)(ds:List (DataW H))(h:Aj Tryz.prog 6 Tryz.f4.params.toList us ds):∃G',bd F 4 us []=some (.bool true,G'):=by
 have h:Aj Tryz.prog 6 [22,5] us ds:=h;obtain⟨va,_,us,ds,rfl,rfl,ha,h⟩:=Vy h;obtain⟨v0,_,us,ds,rfl,rfl,h0,h⟩:=Vy h;obtain rfl:=agA h;obtain⟨t,rfl,_,hl⟩:=agz (e:=3) (by kernel_rfl) (by kernel_rfl) (by kernel_rfl) ha
 obtain⟨n0,rfl,w0⟩:=Vw (k:=.u8) (by kernel_rfl) h0
 exact aqq hl (aqL w0)
set_option maxRecDepth 100000 in
theorem aqN(os:Os)(started:os.Started)(H:Type)(enc:TypeId×Value→H) :
  ReturnsInHanded {} Tryz.checked os 4 .any (fun w args=>(Rows.planPartsSpec.pre enc Tryz.prog Tryz.f4 [] false w args∧laidMetH Tryz.prog CB w)∧sizedMet enc Tryz.prog Tryz.f4 (OpenSpec.ofChange Rows.planPartsSpec) false w args) (Rows.planPartsSpec.post enc Tryz.prog Tryz.f4 false true false false):=by
 refine returnsInHanded_of_change_and (C:=Tryz.checked) (X:=fun w _=>laidMetH Tryz.prog CB w) (fun _ _ _ hh h=>h.of_heap hh) Tryz.own started (by kernel_rfl) Tryz.func4
  (ChangeSpec.witness_at (enc:=enc) (C:=Tryz.checked) (os:=os) (X:=fun w _=>laidMetH Tryz.prog CB w) false (ac6 os) #[.slice none 0 0,.int .u8 0] 8 rfl (by kernel_rfl) (by kernel_rfl) (by kernel_rfl) (by kernel_rfl) (by kernel_rfl) (aqK os _)) ?_
 intro W base args ds gs before oW hW _ _ hL _;exact af7 (d:=6) aqE Tryz.laidOut (tys (by kernel_rfl)) rfl Tryz.underlying4 rfl
  (fun ds h=>by
   match ds,h with
   |[d1,d2],_=>exact⟨rfl,rfl,rfl⟩) (aqM H · ds) oW hW rfl (aqJ hL)
set_option maxHeartbeats 8000000 in
theorem aqO:Rows.PlanPartsSaid :=
 OpenClaim.holds_of_wide 4 Tryz.f4 rfl rfl rfl rfl rfl rfl rfl ⟨rfl,rfl,rfl,rfl,rfl⟩ rfl rfl rfl rfl rfl (by as_aux_lemma=>kernel_rfl) Tryz.func4 (by unfold joinedFacts;simp only[bQ];(repeat' apply And.intro)<;>as_aux_lemma=>kernel_rfl)
  (E7 (by as_aux_lemma=>kernel_rfl)) (by unfold Func.isWrapper;first|(rw[aP (by decide +kernel)];kernel_rfl)|(rw[aA (by decide +kernel)];exact⟨rfl,rfl⟩))
  (fun os started H enc _=>aqN os started H enc)
set_option maxHeartbeats 8000000 in
theorem ppt_holds:Rows.PlanPartsCardSaid :=
 Claim7.holds_tied_plain_at .later [] [.data] true (true, "aac54ed3626d4438fb400f6698357e206dbab74543ddd931852aaeb7a194d6d8") false
  aqO (fun _ h=>by cases h) (by as_aux_lemma=>kernel_rfl) (fun _ h=>by cases h) planParts_row_tie rfl ⟨rfl,rfl⟩ (by as_aux_lemma=>kernel_rfl) rfl
  (fun f fn hf pJ=>by
   obtain rfl:f=4:=Option.some.inj ((show Tryz.prog.funcNamed "hydrocascade/hydrocascadelaw39.PlanParts"=some 4 by as_aux_lemma=>kernel_rfl).symm.trans hf) |>.symm
   obtain rfl:fn=Tryz.f4:=(Option.some.inj (Tryz.func4.symm.trans pJ)).symm;exact⟨by as_aux_lemma=>kernel_rfl,fun j t ht=>by
    have ht:([22,5]:List TypeId)[j]?=some t:=by simpa [Tryz.params4] using ht
    rcases j with _|_|j
    ·cases ht;exact(show Tryz.prog.wantsStandIn 22=false by as_aux_lemma=>kernel_rfl)
    ·cases ht;exact(show Tryz.prog.wantsStandIn 5=false by as_aux_lemma=>kernel_rfl)
    ·cases ht⟩)
  (by as_aux_lemma=>kernel_rfl)
end Go.Proofs.YtcelmhaoipbdiaaGreatDoor
#print axioms Go.Proofs.YtcelmhaoipbdiaaGreatDoor.ppt_holds

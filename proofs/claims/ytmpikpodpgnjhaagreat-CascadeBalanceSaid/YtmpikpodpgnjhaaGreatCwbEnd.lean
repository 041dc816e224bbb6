/- CascadeBalance returns true, for every input. Its condition: none. -/
import Derived.Test.YtmpikpodpgnjhaaGreatDg
namespace Go.Proofs.YtmpikpodpgnjhaaGreat
set_option linter.all false
open Go.Vm
open Go.ChangeShapes Go.WideShapes Go.ChangeAt Go.RowKit
theorem agW{n:Int}(h:(Lit.int .u8 n).wf=true):0≤n∧n≤255:=by
 simpa [Lit.wf,IntKind.min,IntKind.max,IntKind.signed,IntKind.bits] using h
set_option maxRecDepth 100000 in
theorem asC(H:Type)(us:List V)(ds:List (DataW H))(h:xa Tryz.prog 6 Tryz.f8.params.toList us ds):∃G',bt F 8 us []=some (.bool true,G'):=by
 have h:xa Tryz.prog 6 [22,5,5,3] us ds:=h;obtain⟨va,_,us,ds,rfl,rfl,ha,h⟩:=Zx h;obtain⟨v0,_,us,ds,rfl,rfl,h0,h⟩:=Zx h;obtain⟨v1,_,us,ds,rfl,rfl,h1,h⟩:=Zx h;obtain⟨v2,_,us,ds,rfl,rfl,h2,h⟩:=Zx h;obtain rfl:=Zy h;obtain⟨t,rfl,_,hl⟩:=Zw (e:=3) (by kernel_rfl) (by kernel_rfl) (by kernel_rfl) ha
 obtain⟨n0,rfl,w0⟩:=Zt (k:=.u8) (by kernel_rfl) h0
 obtain⟨n1,rfl,w1⟩:=Zt (k:=.u8) (by kernel_rfl) h1
 obtain⟨n2,rfl,w2⟩:=Zt (k:=.i64) (by kernel_rfl) h2
 exact asz hl (agW w0) (agW w1) n2
set_option maxRecDepth 100000 in
theorem asD(os:Os)(started:os.Started)(H:Type)(enc:TypeId×Value→H) :
  ReturnsInHanded {} Tryz.checked os 8 .any (Rows.cascadeBalanceSpec.pre6 enc Tryz.prog Tryz.f8 Rows.cascadeBalanceRow.domain false) (Rows.cascadeBalanceSpec.post enc Tryz.prog Tryz.f8 false true false false):=by
 refine returnsInHanded_of_change (C:=Tryz.checked) Tryz.own started (by kernel_rfl) Tryz.func8
  (ChangeSpec.witness6 (enc:=enc) (C:=Tryz.checked) false ⟨#[],#[.slice none 0 0,.int .u8 0,.int .u8 0,.int .i64 0],[]⟩ 8 (by kernel_rfl) (by kernel_rfl) (by kernel_rfl) (by kernel_rfl)) ?_
 intro W base args ds gs before bfX hW _ _;exact blD (d:=6) aiM Tryz.laidOut (Zz (by kernel_rfl)) rfl Tryz.underlying4 rfl
  (fun ds h=>by
   match ds,h with
   |[d1,d2,d3,d4],_=>exact⟨rfl,rfl,rfl⟩) (asC H · ds) bfX hW
set_option maxHeartbeats 8000000 in
theorem cwb_holds:Rows.CascadeBalanceSaid :=
 OpenClaim.holds_of_wide 8 Tryz.f8 rfl rfl rfl rfl rfl rfl rfl ⟨rfl,rfl,rfl,rfl,rfl⟩ rfl rfl rfl rfl rfl (by as_aux_lemma=>kernel_rfl) Tryz.func8 (by unfold joinedFacts;simp only[Bool.and_eq_true];(repeat' apply And.intro)<;>as_aux_lemma=>kernel_rfl)
  (of_decide_eq_true (by as_aux_lemma=>kernel_rfl)) (by unfold Func.isWrapper;first|(rw[if_pos (by decide +kernel)];kernel_rfl)|(rw[if_neg (by decide +kernel)];exact⟨rfl,rfl⟩))
  (fun os started H enc _=>asD os started H enc)
end Go.Proofs.YtmpikpodpgnjhaaGreat
#print axioms Go.Proofs.YtmpikpodpgnjhaaGreat.cwb_holds

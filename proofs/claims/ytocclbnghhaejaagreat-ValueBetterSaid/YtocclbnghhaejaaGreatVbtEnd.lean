/- ValueBetter returns true, for every input. Its condition: none. -/
import Derived.Test.YtocclbnghhaejaaGreatDk
import Derived.Test.YtocclbnghhaejaaGreatDg
namespace Go.Proofs.YtocclbnghhaejaaGreat
set_option linter.all false
open Go.Vm
open Go.ChangeShapes Go.WideShapes Go.ChangeAt Go.RowKit
set_option maxRecDepth 100000 in
theorem aql(H:Type)(us:List V)(ds:List (DataW H))(h:tX Tryz.prog 6 Tryz.f4.params.toList us ds):∃G',aX F 4 us []=some (.bool true,G'):=by
 have h:tX Tryz.prog 6 [22,63] us ds:=h;obtain⟨va,_,us,ds,rfl,rfl,ha,h⟩:=Iz h;obtain⟨vb,_,us,ds,rfl,rfl,hb,h⟩:=Iz h;obtain rfl:=MH h;obtain⟨t,rfl,_,hl⟩:=Fg (e:=3) (by kernel_rfl) (by kernel_rfl) (by kernel_rfl) ha
 have DS:=oG (n:=2) (by kernel_rfl) hb
 obtain⟨_,_,zB⟩:=sW (i:=0) (off:=0) (n:=1) (ty:=22) (by kernel_rfl) hb
 obtain⟨_,_,Jx⟩:=sW (i:=1) (off:=1) (n:=1) (ty:=22) (by kernel_rfl) hb
 obtain⟨rs,h0,_⟩:=Fg (e:=3) (by kernel_rfl) (by kernel_rfl) (by kernel_rfl) zB
 obtain⟨rp,h1,_⟩:=Fg (e:=3) (by kernel_rfl) (by kernel_rfl) (by kernel_rfl) Jx
 rw[MG (t:=63) (n:=2) (by kernel_rfl)]
 match vb,DS with
 |[b0,b1],_ =>
  simp at h0 h1;subst h0;subst h1;exact aqf t rs rp hl
set_option maxRecDepth 100000 in
theorem aqm(os:Os)(started:os.Started)(H:Type)(enc:TypeId×Value→H) :
  ReturnsInHanded {} Tryz.checked os 4 .any (Rows.valueBetterSpec.pre6 enc Tryz.prog Tryz.f4 Rows.valueBetterRow.domain false) (Rows.valueBetterSpec.post enc Tryz.prog Tryz.f4 false true false false):=by
 refine returnsInHanded_of_change (C:=Tryz.checked) Tryz.own started (by kernel_rfl) Tryz.func4
  (ChangeSpec.witness6 (enc:=enc) (C:=Tryz.checked) false ⟨#[],#[.slice none 0 0,.agg #[.slice none 0 0,.slice none 0 0]],[]⟩ 8 (by kernel_rfl) (by kernel_rfl) (by kernel_rfl) (by kernel_rfl)) ?_
 intro W base args ds gs before lO hW _ _;exact Mq (d:=6) QE Tryz.laidOut (MI (by kernel_rfl)) rfl Tryz.underlying4 rfl
  (fun ds h=>by
   match ds,h with
   |[d1,d2],_=>exact⟨rfl,rfl,rfl⟩) (aql H · ds) lO hW
set_option maxHeartbeats 8000000 in
theorem vbt_holds:Rows.ValueBetterSaid :=
 OpenClaim.holds_of_wide 4 Tryz.f4 rfl rfl rfl rfl rfl rfl rfl ⟨rfl,rfl,rfl,rfl,rfl⟩ rfl rfl rfl rfl rfl (by as_aux_lemma=>kernel_rfl) Tryz.func4 (by unfold joinedFacts;simp only[Bool.and_eq_true];(repeat' apply And.intro)<;>as_aux_lemma=>kernel_rfl)
  (of_decide_eq_true (by as_aux_lemma=>kernel_rfl)) (by unfold Func.isWrapper;first|(rw[if_pos (by decide +kernel)];kernel_rfl)|(rw[if_neg (by decide +kernel)];exact⟨rfl,rfl⟩))
  (fun os started H enc _=>aqm os started H enc)
end Go.Proofs.YtocclbnghhaejaaGreat
#print axioms Go.Proofs.YtocclbnghhaejaaGreat.vbt_holds

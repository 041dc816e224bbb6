/- RobustOf returns true, for every input. Its condition: none. -/
import Derived.SizedLaws
import Derived.Test.YtocclbnghhaejaaGreatDm
import Derived.Test.YtocclbnghhaejaaGreatDh
namespace Go.Proofs.YtocclbnghhaejaaGreat
set_option linter.all false
open Go.Vm
open Go.ChangeShapes Go.WideShapes Go.ChangeAt Go.RowKit
set_option maxRecDepth 100000 in
theorem aBT(H:Type)(us:List V)(ds:List (DataW H))(h:C6 Tryz.prog 12 Tryz.f9.params.toList us ds):∃G',aX F 9 us []=some (.bool true,G'):=by
 have h:C6 Tryz.prog 12 [22,114,3,68] us ds:=h;obtain⟨va,_,us,ds,rfl,rfl,ha,h⟩:=Fh h;obtain⟨vb,_,us,ds,rfl,rfl,hb,h⟩:=Fh h;obtain⟨vc,_,us,ds,rfl,rfl,hc,h⟩:=Fh h;obtain⟨vd,_,us,ds,rfl,rfl,hd,h⟩:=Fh h;obtain rfl:=afo h;rw[MG (t:=114) (n:=3) (by kernel_rfl)]
 obtain⟨t,rfl,_,hl⟩:=Fg (e:=3) (by kernel_rfl) (by kernel_rfl) (by kernel_rfl) ha.1
 obtain⟨b,rfl,hbs⟩:=aBL hb;obtain⟨n,rfl,_⟩:=Ff (k:=.i64) (by kernel_rfl) hc.1
 obtain⟨q,rfl,hq,mz⟩:=aBJ hd;exact aBF hl b n q hbs mz hq
set_option maxRecDepth 100000 in
theorem aBU(os:Os)(started:os.Started)(H:Type)(enc:TypeId×Value→H) :
  ReturnsInHanded {} Tryz.checked os 9 .any (Rows.robustOfSpec.pre6 enc Tryz.prog Tryz.f9 Rows.robustOfRow.domain false) (Rows.robustOfSpec.post enc Tryz.prog Tryz.f9 false true false false):=by
 refine returnsInHanded_of_change_sized (C:=Tryz.checked) Tryz.own started (by kernel_rfl) Tryz.func9
  (ChangeSpec.witness6 (enc:=enc) (C:=Tryz.checked) false ⟨#[],#[.slice none 0 0,.agg #[.int .i64 0,.slice none 0 0,.bool false],.int .i64 0,.slice none 0 0],[]⟩ 8 (by kernel_rfl) (by kernel_rfl) (by kernel_rfl) (by kernel_rfl)) ?_
 intro W base args ds gs before lO hW _ hq _;exact afp (d:=12) QE Tryz.laidOut (MI (by kernel_rfl)) rfl Tryz.underlying4 rfl
  (fun ds h=>by
   match ds,h with
   |[d1,d2,d3,d4],_=>exact⟨rfl,rfl,rfl⟩) (aBT H · ds) lO hW hq
set_option maxHeartbeats 8000000 in
theorem rof_holds:Rows.RobustOfSaid :=
 OpenClaim.holds_of_wide 9 Tryz.f9 rfl rfl rfl rfl rfl rfl rfl ⟨rfl,rfl,rfl,rfl,rfl⟩ rfl rfl rfl rfl rfl (by as_aux_lemma=>kernel_rfl) Tryz.func9 (by unfold joinedFacts;simp only[Bool.and_eq_true];(repeat' apply And.intro)<;>as_aux_lemma=>kernel_rfl)
  (of_decide_eq_true (by as_aux_lemma=>kernel_rfl)) (by unfold Func.isWrapper;first|(rw[if_pos (by decide +kernel)];kernel_rfl)|(rw[if_neg (by decide +kernel)];exact⟨rfl,rfl⟩))
  (fun os started H enc _=>aBU os started H enc)
end Go.Proofs.YtocclbnghhaejaaGreat
#print axioms Go.Proofs.YtocclbnghhaejaaGreat.rof_holds

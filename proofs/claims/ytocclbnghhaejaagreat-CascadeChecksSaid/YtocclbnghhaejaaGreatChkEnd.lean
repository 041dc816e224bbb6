/- CascadeChecks returns true, for every input. Its condition: none. -/
import Derived.SizedLaws
import Derived.Test.YtocclbnghhaejaaGreatDi
import Derived.Test.YtocclbnghhaejaaGreatDg
namespace Go.Proofs.YtocclbnghhaejaaGreat
set_option linter.all false
open Go.Vm
open Go.ChangeShapes Go.WideShapes Go.ChangeAt Go.RowKit
set_option maxRecDepth 100000 in
theorem aqg(H:Type)(us:List V)(ds:List (DataW H))(h:C6 Tryz.prog 12 Tryz.f3.params.toList us ds):∃G',aX F 3 us []=some (.bool true,G'):=by
 have h:C6 Tryz.prog 12 [22,28,32,3,3] us ds:=h;obtain⟨va,_,us,ds,rfl,rfl,ha,h⟩:=Fh h;obtain⟨vb,_,us,ds,rfl,rfl,hb,h⟩:=Fh h;obtain⟨vc,_,us,ds,rfl,rfl,hc,h⟩:=Fh h;obtain⟨vd,_,us,ds,rfl,rfl,hd,h⟩:=Fh h;obtain⟨ve,_,us,ds,rfl,rfl,he,h⟩:=Fh h;obtain rfl:=afo h;rw[MG (t:=28) (n:=3) (by kernel_rfl),MG (t:=32) (n:=3) (by kernel_rfl)]
 obtain⟨t,rfl,_,hl⟩:=Fg (e:=3) (by kernel_rfl) (by kernel_rfl) (by kernel_rfl) ha.1
 obtain⟨c,rfl,ei⟩:=apT hb;obtain⟨s,rfl,hs,QB⟩:=apV hc;obtain⟨n0,rfl,_⟩:=Ff (k:=.i64) (by kernel_rfl) hd.1
 obtain⟨n1,rfl,_⟩:=Ff (k:=.i64) (by kernel_rfl) he.1
 exact apx hl c ei s hs QB n0 n1
set_option maxRecDepth 100000 in
theorem aqi(os:Os)(started:os.Started)(H:Type)(enc:TypeId×Value→H) :
  ReturnsInHanded {} Tryz.checked os 3 .any (Rows.cascadeChecksSpec.pre6 enc Tryz.prog Tryz.f3 Rows.cascadeChecksRow.domain false) (Rows.cascadeChecksSpec.post enc Tryz.prog Tryz.f3 false true false false):=by
 refine returnsInHanded_of_change_sized (C:=Tryz.checked) Tryz.own started (by kernel_rfl) Tryz.func3
  (ChangeSpec.witness6 (enc:=enc) (C:=Tryz.checked) false ⟨#[],#[.slice none 0 0,.agg #[.int .i64 0,.slice none 0 0,.slice none 0 0],.agg #[.int .i64 0,.slice none 0 0,.slice none 0 0],.int .i64 0,.int .i64 0],[]⟩ 8 (by kernel_rfl) (by kernel_rfl) (by kernel_rfl) (by kernel_rfl)) ?_
 intro W base args ds gs before lO hW _ hq _;exact afp (d:=12) QE Tryz.laidOut (MI (by kernel_rfl)) rfl Tryz.underlying4 rfl
  (fun ds h=>by
   match ds,h with
   |[d1,d2,d3,d4,d5],_=>exact⟨rfl,rfl,rfl⟩) (aqg H · ds) lO hW hq
set_option maxHeartbeats 8000000 in
theorem chk_holds:Rows.CascadeChecksSaid :=
 OpenClaim.holds_of_wide 3 Tryz.f3 rfl rfl rfl rfl rfl rfl rfl ⟨rfl,rfl,rfl,rfl,rfl⟩ rfl rfl rfl rfl rfl (by as_aux_lemma=>kernel_rfl) Tryz.func3 (by unfold joinedFacts;simp only[Bool.and_eq_true];(repeat' apply And.intro)<;>as_aux_lemma=>kernel_rfl)
  (of_decide_eq_true (by as_aux_lemma=>kernel_rfl)) (by unfold Func.isWrapper;first|(rw[if_pos (by decide +kernel)];kernel_rfl)|(rw[if_neg (by decide +kernel)];exact⟨rfl,rfl⟩))
  (fun os started H enc _=>aqi os started H enc)
end Go.Proofs.YtocclbnghhaejaaGreat
#print axioms Go.Proofs.YtocclbnghhaejaaGreat.chk_holds

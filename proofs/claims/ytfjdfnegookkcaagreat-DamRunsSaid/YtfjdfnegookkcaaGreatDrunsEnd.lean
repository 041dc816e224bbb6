/- DamRuns returns true, for every input. Its condition: none. -/
import Derived.SizedLaws
import Derived.Test.YtfjdfnegookkcaaGreatDg
namespace Go.Proofs.YtfjdfnegookkcaaGreat
set_option linter.all false
open Go.Vm
open Go.ChangeShapes Go.WideShapes Go.ChangeAt Go.RowKit
set_option maxRecDepth 100000 in
theorem druns_law (H:Type) (us:List V) (ds:List (DataW H)) (h:ArgsW Tryz.prog 10 Tryz.f6.params.toList us ds):∃ G',Lim F 6 us [] = some (.bool true,G'):=by
 have h:ArgsW Tryz.prog 10 [43,35,35,22,22] us ds:=h
 obtain ⟨va,_,us,ds,rfl,rfl,ha,h⟩:=argsW_cons h
 obtain ⟨vb,_,us,ds,rfl,rfl,hb,h⟩:=argsW_cons h
 obtain ⟨vc,_,us,ds,rfl,rfl,hc,h⟩:=argsW_cons h
 obtain ⟨vd,_,us,ds,rfl,rfl,hd,h⟩:=argsW_cons h
 obtain ⟨ve,_,us,ds,rfl,rfl,he,h⟩:=argsW_cons h
 obtain rfl:=argsW_nil h
 rw [argOf_struct (t:=43) (n:=7) (by kernel_rfl),argOf_struct (t:=35) (n:=4) (by kernel_rfl),argOf_struct (t:=35) (n:=4) (by kernel_rfl)]
 obtain ⟨rr,rfl,_⟩:=dr_row ha
 obtain ⟨rs,rfl,hu,hg⟩:=dsw_row hb
 obtain ⟨rt,rfl,_,_⟩:=dsw_row hc
 obtain ⟨t,rfl,_,hl⟩:=tyv_ints (e:=3) (by kernel_rfl) (by kernel_rfl) (by kernel_rfl) hd.1
 obtain ⟨rl,rfl,_,_⟩:=tyv_ints (e:=3) (by kernel_rfl) (by kernel_rfl) (by kernel_rfl) he.1
 exact druns_walk hl rr rs rt hu hg rl
set_option maxRecDepth 100000 in
theorem druns_lifted (os:Os) (started:os.Started) (H:Type) (enc:TypeId × Value → H) :
  ReturnsInHanded {} Tryz.checked os 6 .any (Rows.damRunsSpec.pre6 enc Tryz.prog Tryz.f6 Rows.damRunsRow.domain false) (Rows.damRunsSpec.post enc Tryz.prog Tryz.f6 false true false false):=by
 refine returnsInHanded_of_change_sized (C:=Tryz.checked) Tryz.own started (by kernel_rfl) Tryz.func6
  (ChangeSpec.witness6 (enc:=enc) (C:=Tryz.checked) false ⟨#[],#[.agg #[.int .i64 0,.int .i64 0,.int .i64 0,.int .i64 0,.int .i64 0,.int .i64 0,.int .i64 0],.agg #[.int .i64 0,.int .i64 0,.slice none 0 0,.slice none 0 0],.agg #[.int .i64 0,.int .i64 0,.slice none 0 0,.slice none 0 0],.slice none 0 0,.slice none 0 0],[]⟩ 8 (by kernel_rfl) (by kernel_rfl) (by kernel_rfl) (by kernel_rfl)) ?_
 intro W base args ds gs before hval hW _ hq _
 exact law_contract_w (d:=10) all_callee Tryz.laidOut (tys (by kernel_rfl)) rfl Tryz.underlying4 rfl
  (fun ds h => by
   match ds,h with
   | [d1,d2,d3,d4,d5],_ => exact ⟨rfl,rfl,rfl⟩) (druns_law H · ds) hval hW hq
theorem druns_holds:Rows.DamRunsSaid :=
 OpenClaim.holds_of_wide 6 Tryz.f6 rfl rfl rfl rfl rfl rfl rfl ⟨rfl,rfl,rfl,rfl,rfl⟩ rfl rfl rfl rfl rfl (by kernel_rfl) Tryz.func6 (by kernel_rfl)
  (of_decide_eq_true (by kernel_rfl)) (by unfold Func.isWrapper;first | (rw [if_pos (by decide +kernel)];kernel_rfl) | (rw [if_neg (by decide +kernel)];exact ⟨rfl,rfl⟩))
  (fun os started H enc _ => druns_lifted os started H enc)
end Go.Proofs.YtfjdfnegookkcaaGreat
#print axioms Go.Proofs.YtfjdfnegookkcaaGreat.druns_holds

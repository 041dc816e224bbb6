/- DamSteps returns true, for every input. Its condition: none. -/
import Derived.Test.YtfjdfnegookkcaaGreatDg
namespace Go.Proofs.YtfjdfnegookkcaaGreat
set_option linter.all false
open Go.Vm
open Go.ChangeShapes Go.WideShapes Go.ChangeAt Go.RowKit
set_option maxRecDepth 100000 in
theorem dsteps_law (H:Type) (us:List V) (ds:List (DataW H)) (h:ArgsV Tryz.prog 10 Tryz.f4.params.toList us ds):∃ G',Lim F 4 us [] = some (.bool true,G'):=by
 have h:ArgsV Tryz.prog 10 [31,35,22,3,3,3] us ds:=h
 obtain ⟨va,_,us,ds,rfl,rfl,ha,h⟩:=argsV_cons h
 obtain ⟨vb,_,us,ds,rfl,rfl,hb,h⟩:=argsV_cons h
 obtain ⟨vc,_,us,ds,rfl,rfl,hc,h⟩:=argsV_cons h
 obtain ⟨vd,_,us,ds,rfl,rfl,hd,h⟩:=argsV_cons h
 obtain ⟨ve,_,us,ds,rfl,rfl,he,h⟩:=argsV_cons h
 obtain ⟨vf,_,us,ds,rfl,rfl,hf,h⟩:=argsV_cons h
 obtain rfl:=argsV_nil h
 rw [argOf_struct (t:=31) (n:=9) (by kernel_rfl),argOf_struct (t:=35) (n:=4) (by kernel_rfl)]
 obtain ⟨raw,rfl,_⟩:=dm_row ha
 obtain ⟨rs,rfl,_⟩:=ds_row hb
 obtain ⟨t,rfl,_,hl⟩:=tyv_ints (e:=3) (by kernel_rfl) (by kernel_rfl) (by kernel_rfl) hc
 obtain ⟨n1,rfl,_⟩:=tyv_int (k:=.i64) (by kernel_rfl) hd
 obtain ⟨n2,rfl,_⟩:=tyv_int (k:=.i64) (by kernel_rfl) he
 obtain ⟨n3,rfl,_⟩:=tyv_int (k:=.i64) (by kernel_rfl) hf
 exact dsteps_walk hl raw rs n1 n2 n3
set_option maxRecDepth 100000 in
theorem dsteps_lifted (os:Os) (started:os.Started) (H:Type) (enc:TypeId × Value → H) :
  ReturnsInHanded {} Tryz.checked os 4 .any (Rows.damStepsSpec.pre6 enc Tryz.prog Tryz.f4 Rows.damStepsRow.domain false) (Rows.damStepsSpec.post enc Tryz.prog Tryz.f4 false true false false):=by
 refine returnsInHanded_of_change (C:=Tryz.checked) Tryz.own started (by kernel_rfl) Tryz.func4
  (ChangeSpec.witness6 (enc:=enc) (C:=Tryz.checked) false ⟨#[],#[.agg #[.slice none 0 0,.int .i64 0,.int .i64 0,.int .i64 0,.int .i64 0,.int .i64 0,.slice none 0 0,.slice none 0 0,.int .i64 0],.agg #[.int .i64 0,.int .i64 0,.slice none 0 0,.slice none 0 0],.slice none 0 0,.int .i64 0,.int .i64 0,.int .i64 0],[]⟩ 8 (by kernel_rfl) (by kernel_rfl) (by kernel_rfl) (by kernel_rfl)) ?_
 intro W base args ds gs before hval hW _ _
 exact law_contract (d:=10) all_callee Tryz.laidOut (tys (by kernel_rfl)) rfl Tryz.underlying4 rfl
  (fun ds h => by
   match ds,h with
   | [d1,d2,d3,d4,d5,d6],_ => exact ⟨rfl,rfl,rfl⟩) (dsteps_law H · ds) hval hW
theorem dsteps_holds:Rows.DamStepsSaid :=
 OpenClaim.holds_of_wide 4 Tryz.f4 rfl rfl rfl rfl rfl rfl rfl ⟨rfl,rfl,rfl,rfl,rfl⟩ rfl rfl rfl rfl rfl (by kernel_rfl) Tryz.func4 (by kernel_rfl)
  (of_decide_eq_true (by kernel_rfl)) (by unfold Func.isWrapper;first | (rw [if_pos (by decide +kernel)];kernel_rfl) | (rw [if_neg (by decide +kernel)];exact ⟨rfl,rfl⟩))
  (fun os started H enc _ => dsteps_lifted os started H enc)
end Go.Proofs.YtfjdfnegookkcaaGreat
#print axioms Go.Proofs.YtfjdfnegookkcaaGreat.dsteps_holds

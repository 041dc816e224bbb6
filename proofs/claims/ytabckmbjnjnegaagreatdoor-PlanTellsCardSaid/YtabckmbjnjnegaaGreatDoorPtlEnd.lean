/- - -/
import Derived.Test.YtabckmbjnjnegaaGreatDoorDa
import Derived.Test.YtabckmbjnjnegaaGreatDoorDk
import Derived.Test.YtabckmbjnjnegaaGreatDoorTie
import Derived.Test.YtabckmbjnjnegaaGreatDoorCards
namespace Go.Proofs.YtabckmbjnjnegaaGreatDoor
set_option linter.all false
set_option maxRecDepth 100000
open Go.Vm
open Go.ChangeShapes Go.WideShapes Go.ChangeAt Go.RowKit
variable{H:Type}{d:Nat}{vs:List V}
def aDf{x:DataW H}(h:AA Tryz.prog d 22 vs x):∃l:List Int,vs=[ints l]/\l.length<=17592186044416:=by
 obtain⟨l,h2,_,w2⟩:=Ub (e:=3) (λn:Int=>[i64 n]) (λ_=>True) (by kernel_rfl) (λd vs x h=>by
  obtain⟨n,e,_⟩:=OG (k:=.i64) (by kernel_rfl) h.1
  exact⟨n,e,trivial⟩) h
 have c2:Tryz.prog.cellsOf 3=1:=by kernel_rfl
 have b2:Tryz.prog.bytesOf 3=8:=by kernel_rfl
 rw[b2]at w2;unfold reachBytes at w2;rw[c2]at h2;exact⟨l,h2,by omega⟩
def aDg{x:DataW H}(h:AA Tryz.prog d 25 vs x):∃p:Pn,vs=p.row/\p.l.length<=17592186044416/\∀j,j<p.l.length->(nth p.l j).length<=17592186044416:=by
 have hl:=abR (n:=2) (by kernel_rfl) h.1
 obtain⟨a0,h0,_⟩:=DB (i:=0) (off:=0) (ty:=3) (k:=.i64) (by kernel_rfl) (by kernel_rfl) h.1
 obtain⟨_,_,g1⟩:=apv (i:=1) (off:=1) (n:=1) (ty:=23) (by kernel_rfl) h
 obtain⟨w,h1,i1,w1⟩:=Ub (e:=22) (λp:List Int=>[ints p]) (λp=>p.length<=17592186044416) (by kernel_rfl) (λd vs x h=>aDf h) g1
 have c1:Tryz.prog.cellsOf 22=1:=by kernel_rfl
 have b1:Tryz.prog.bytesOf 22=24:=by kernel_rfl
 rw[b1]at w1;unfold reachBytes at w1;rw[c1]at h1
 match vs,hl with
 |[x0,x1],_ =>
  simp at h0 h1;subst h0;subst h1;exact⟨⟨a0,w⟩,rfl,by simp only;omega,λj hj=>i1 _ (tY hj)⟩
def aDh{x:DataW H}(h:AA Tryz.prog d 141 vs x):∃c:Cd,vs=c.row/\True:=by
 have h:=h.1;have hl:=abR (n:=7) (by kernel_rfl) h
 obtain⟨a0,h0,_⟩:=DB (i:=0) (off:=0) (ty:=3) (k:=.i64) (by kernel_rfl) (by kernel_rfl) h
 obtain⟨a1,h1,_⟩:=DB (i:=1) (off:=1) (ty:=3) (k:=.i64) (by kernel_rfl) (by kernel_rfl) h
 obtain⟨a2,h2,_⟩:=DB (i:=2) (off:=2) (ty:=3) (k:=.i64) (by kernel_rfl) (by kernel_rfl) h
 obtain⟨_,_,g⟩:=abQ (i:=3) (off:=3) (n:=2) (ty:=139) (by kernel_rfl) h
 obtain⟨b0,k0,_⟩:=DB (i:=0) (off:=0) (ty:=3) (k:=.i64) (by kernel_rfl) (by kernel_rfl) g
 obtain⟨b1,k1,_⟩:=DB (i:=1) (off:=1) (ty:=3) (k:=.i64) (by kernel_rfl) (by kernel_rfl) g
 obtain⟨a5,h5,_⟩:=DB (i:=4) (off:=5) (ty:=3) (k:=.i64) (by kernel_rfl) (by kernel_rfl) h
 obtain⟨a6,h6,_⟩:=DB (i:=5) (off:=6) (ty:=3) (k:=.i64) (by kernel_rfl) (by kernel_rfl) h
 match vs,hl with
 |[x0,x1,x2,x3,x4,x5,x6],_ =>
  simp at h0 h1 h2 k0 k1 h5 h6;subst h0;subst h1;subst h2;subst k0;subst k1;subst h5;subst h6;exact⟨⟨a0,a1,a2,b0,b1,a5,a6⟩,rfl,trivial⟩
def aDi(H:Type)(us:List V)(ds:List (DataW H))(h:HA Tryz.prog 12 Tryz.f3.params.toList us ds):∃G',aX F 3 us []=some (.bool true,G'):=by
 have h:HA Tryz.prog 12 [22,25,3,26] us ds:=h;obtain⟨va,_,us,ds,rfl,rfl,ha,h⟩:=OJ h;obtain⟨vb,_,us,ds,rfl,rfl,hb,h⟩:=OJ h;obtain⟨vc,_,us,ds,rfl,rfl,hc,h⟩:=OJ h;obtain⟨vd,_,us,ds,rfl,rfl,hd,h⟩:=OJ h;obtain rfl:=apw h;rw[apq (t:=25) (n:=2) (by kernel_rfl)]
 obtain⟨t,rfl,_,hl⟩:=apo (e:=3) (by kernel_rfl) (by kernel_rfl) (by kernel_rfl) ha.1
 obtain⟨p,rfl,hp⟩:=aDg hb;obtain⟨n,rfl,_⟩:=OG (k:=.i64) (by kernel_rfl) hc.1
 obtain⟨m,h1,_,w1⟩:=Ub (e:=141) Cd.row (λ_=>True) (by kernel_rfl) (λd vs x h=>aDh h) hd
 have c1:Tryz.prog.cellsOf 141=7:=by kernel_rfl
 have b1:Tryz.prog.bytesOf 141=56:=by kernel_rfl
 rw[b1]at w1;unfold reachBytes at w1;rw[c1]at h1;subst h1;exact aC5 hl p hp n m (by omega)
def aDj(os:Os)(started:os.Started)(H:Type)(enc:TypeId×Value->H) :
  ReturnsInHanded {} Tryz.checked os 3 .any (λw args=>(Rows.planTellsSpec.pre enc Tryz.prog Tryz.f3 [] false w args/\laidMetH Tryz.prog Fm w)/\sizedMet enc Tryz.prog Tryz.f3 (OpenSpec.ofChange Rows.planTellsSpec) false w args) (Rows.planTellsSpec.post enc Tryz.prog Tryz.f3 false true false false):=by
 refine returnsInHanded_of_change_and (C:=Tryz.checked) (X:=λw _=>laidMetH Tryz.prog Fm w) (λ_ _ _ hh h=>h.of_heap hh) Tryz.own started (by kernel_rfl) Tryz.func3
  (ChangeSpec.witness_at (enc:=enc) (C:=Tryz.checked) (os:=os) (X:=λw _=>laidMetH Tryz.prog Fm w) false (ahx os) #[.slice none 0 0,.agg #[.int .i64 0,.slice none 0 0],.int .i64 0,.slice none 0 0] 8 rfl (by kernel_rfl) (by kernel_rfl) (by kernel_rfl) (by kernel_rfl) (by kernel_rfl) (awO os _)) ?_
 intro W base args ds gs before qt hW _ hq hL _;exact apx (d:=12) awI Tryz.laidOut (tys (by kernel_rfl)) rfl Tryz.underlying4 rfl
  (λds h=>by
   match ds,h with
   |[d1,d2,d3,d4],_=>exact⟨rfl,rfl,rfl⟩) (aDi H · ds) qt hW hq rfl (awN hL)
set_option maxHeartbeats 8000000 in
def aDk:Rows.PlanTellsSaid :=
 OpenClaim.holds_of_wide 3 Tryz.f3 rfl rfl rfl rfl rfl rfl rfl ⟨rfl,rfl,rfl,rfl,rfl⟩ rfl rfl rfl rfl rfl (by as_aux_lemma=>kernel_rfl) Tryz.func3 (by unfold joinedFacts;simp only[bZ];(repeat' apply And.intro)<;>as_aux_lemma=>kernel_rfl)
  (Jv (by as_aux_lemma=>kernel_rfl)) (by unfold Func.isWrapper;first|(rw[aJ (by decide +kernel)];kernel_rfl)|(rw[ax (by decide +kernel)];exact⟨rfl,rfl⟩))
  (λos started H enc _=>aDj os started H enc)
set_option maxHeartbeats 8000000 in
theorem ptl_holds:Rows.PlanTellsCardSaid :=
 Claim7.holds_tied_plain_at .later [] [.data] true (true, "dd6b12b2ee8fd643259cec5877569752bc769669536f23a7e93f03e29399c94d") false
  aDk (λ_ h=>by cases h) (by as_aux_lemma=>kernel_rfl) (λ_ h=>by cases h) planTells_row_tie rfl ⟨rfl,rfl⟩ (by as_aux_lemma=>kernel_rfl) rfl
  (λf fn hf s7=>by
   obtain rfl:f=3:=Option.some.inj ((show Tryz.prog.funcNamed "hydrocascade/hydrocascadelaw39.PlanTells"=some 3 by as_aux_lemma=>kernel_rfl).symm.trans hf) |>.symm
   obtain rfl:fn=Tryz.f3:=(Option.some.inj (Tryz.func3.symm.trans s7)).symm;exact⟨by as_aux_lemma=>kernel_rfl,λj t ht=>by
    have ht:([22,25,3,26]:List TypeId)[j]?=some t:=by simpa [Tryz.params3] using ht
    rcases j with _|_|_|_|j
    .cases ht;exact(show Tryz.prog.wantsStandIn 22=false by as_aux_lemma=>kernel_rfl)
    .cases ht;exact(show Tryz.prog.wantsStandIn 25=false by as_aux_lemma=>kernel_rfl)
    .cases ht;exact(show Tryz.prog.wantsStandIn 3=false by as_aux_lemma=>kernel_rfl)
    .cases ht;exact(show Tryz.prog.wantsStandIn 26=false by as_aux_lemma=>kernel_rfl)
    .cases ht⟩)
  (by as_aux_lemma=>kernel_rfl)
#print axioms Go.Proofs.YtabckmbjnjnegaaGreatDoor.ptl_holds

/- - -/
import Derived.Test.YtabckmbjnjnegaaGreatDoorDe
import Derived.Test.YtabckmbjnjnegaaGreatDoorDa
import Derived.Test.YtabckmbjnjnegaaGreatDoorDd
attribute [local simp] Go.Vm.wrap64
namespace Go.Proofs.YtabckmbjnjnegaaGreatDoor
set_option linter.all false
set_option maxRecDepth 100000
set_option maxHeartbeats 400000
open Go.Vm
section
attribute [local simp] mX mY lX mW
instance:Inhabited Dm:=⟨⟨⟨[],0,0,0,0,0⟩,[],[],0⟩⟩
structure Si where
 n:Int
 d:Dm
 deriving Inhabited
abbrev Si.row(x:Si):List V:=i64 x.n::x.d.row
abbrev ru(l:List Si):V:=.slice none 10 (l.map Si.row)
structure Cs where
 r:Rr
 s:List Si
abbrev Cs.row(c:Cs):List V:=[i64 c.r.n,pW c.r.l,ru c.s]
abbrev cs(c:Cs):V:=.agg c.row
def B8(c:Cs)(i:Nat):Int :=
 let x:=nth c.s i
 if 0<=x.n/\x.n<c.r.n then (if 0<i/\x.n<=(nth c.s (i-1)).n then 4 else gD x.d) else 41
noncomputable def fm(c:Cs):Int:=if kT c.r≠0 then kT c.r else if 12<c.r.n then 41 else if 6<c.s.length then 10 else dH (B8 c) c.s.length 0
structure Fl where
 t:Int
 d:List Ds
 w:List (List Int)
abbrev zM(l:List Ds):V:=.slice none 4 (l.map Ds.row)
abbrev og(l:List (List Int)):V:=.slice none 1 (l.map λp=>[ints p])
abbrev Fl.row(f:Fl):List V:=[i64 f.t,zM f.d,og f.w]
abbrev fl(f:Fl):V:=.agg f.row
def mf(f:Fl):Prop:=∀i,(nth f.w i).length<=17592186044416
def qD(c:Cs)(l:List Ds):Prop:=l.length=c.s.length/\∀i,i<c.s.length->gD (nth c.s i).d=0/\jq (nth c.s i).d (nth l i)
noncomputable instance {c:Cs} {l:List Ds}:Decidable (qD c l):=Classical.propDecidable _
def FM(c:Cs)(l:List (List Int)):Prop:=l.length=c.r.l.length/\∀i,i<c.r.l.length->fy (nth c.r.l i).r=0/\jA (nth c.r.l i).r (nth l i)
noncomputable instance {c:Cs} {l:List (List Int)}:Decidable (FM c l):=Classical.propDecidable _
def e8(c:Cs)(f:Fl):Prop:=(0<=f.t/\f.t<=16777216)/\qD c f.d/\FM c f.w
noncomputable instance {c:Cs} {f:Fl}:Decidable (e8 c f):=Classical.propDecidable _
def XP(c:Cs)(hr:jO c.r)(G:List aM):aX F 33 [cs c] G=some (i64 (fm c),G) :=
 bD rfl rfl (by
  obtain⟨⟨n,l⟩,s⟩:=c;generalize hW:fm ⟨⟨n,l⟩,s⟩=W;unfold fm at hW;simp only at hW hr;have hk:=XN ⟨n,l⟩ hr;have lR:=XO ⟨n,l⟩ hr;by_cases h1:kT ⟨n,l⟩=0
  case neg =>
   rw[aJ h1]at hW;simp (disch:=omega) [-getElem?_pos,K0,hk,lR,h1];exact hW
  rw[ax']at hW
  by_cases h2:12<n
  .rw[aJ h2]at hW
   simp (disch:=omega) [-getElem?_pos,K0,hk,lR,h1,h2];exact hW
  rw[ax h2]at hW;by_cases h3:6<s.length
  .rw[aJ h3]at hW
   have jd:(6:Int)<s.length:=by omega
   simp (disch:=omega) [-getElem?_pos,K0,hk,lR,h1,h2,jd];exact hW
  rw[ax h3]at hW;have jd:¬ (6:Int)<s.length:=by omega
  simp (disch:=omega) [-getElem?_pos,K0,hk,lR,h1,h2,jd];refine go_loop (λi:Nat=>art (ru s) s.length i (Cs.row ⟨⟨n,l⟩,s⟩) G) (λi=>i<=s.length/\dH (B8 ⟨⟨n,l⟩,s⟩) (s.length-i) i=W) (λi=>s.length-i) 0 rfl (by simp) ⟨by omega,hW⟩ ?_
  rintro i ⟨hi,hq⟩;simp (disch:=omega) [-getElem?_pos,adA];refine bO (λh5=>?_) (λh5=>?_)
  .have h5:i<s.length:=by omega
   rw[kl h5]at hq;have hE:B8 ⟨⟨n,l⟩,s⟩ i=if 0<=(nth s i).n/\(nth s i).n<n then (if 0<i/\(nth s i).n<=(nth s (i-1)).n then 4 else gD (nth s i).d) else 41:=rfl
   by_cases a1:(nth s i).n<0
   .rw[ax']at hE
    rw[hE,ax (by decide)]at hq
    simp (disch:=omega) [-getElem?_pos,bc (l:=s),a1];exact hq
   by_cases a2:n<=(nth s i).n
   .rw[ax']at hE
    rw[hE,ax (by decide)]at hq
    simp (disch:=omega) [-getElem?_pos,bc (l:=s),a1,a2];exact hq
   rw[aJ']at hE
   by_cases a4:0<i/\(nth s i).n<=(nth s (i-1)).n
   .rw[aJ a4]at hE
    rw[hE,ax (by decide)]at hq
    simp (disch:=omega) [-getElem?_pos,bc (l:=s),a1,a2,a4.1,a4.2];exact hq
   rw[ax a4]at hE;have done:gD (nth s i).d=0->dH (B8 ⟨⟨n,l⟩,s⟩) (s.length-(i+1)) (i+1)=W:=λh=>by rwa [hE,h,aJ rfl]at hq
   have stop:gD (nth s i).d≠0->gD (nth s i).d=W:=λh=>by rwa [hE,ax h]at hq
   have hd:=FE (nth s i).d;have y7:=FF (nth s i).d;rcases (by omega:¬ 0<i\/(0<i/\¬ (nth s i).n<=(nth s (i-1)).n)) with a5 | ⟨a5,a6⟩
   .by_cases hz:gD (nth s i).d=0
    .simp (disch:=omega) [-getElem?_pos,bc (l:=s),a1,a2,a5,hd,y7,hz]
     exact bB' (i+1) ⟨by omega,done hz⟩
    .simp (disch:=omega) [-getElem?_pos,bc (l:=s),a1,a2,a5,hd,y7,hz]
     exact stop hz
   .by_cases hz:gD (nth s i).d=0
    .simp (disch:=omega) [-getElem?_pos,bc (l:=s),a1,a2,a5,a6,hd,y7,hz]
     exact bB' (i+1) ⟨by omega,done hz⟩
    .simp (disch:=omega) [-getElem?_pos,bc (l:=s),a1,a2,a5,a6,hd,y7,hz]
     exact stop hz
  .obtain rfl:i=s.length:=by omega
   rw[l7]at hq;exact hq)
def Qs(c:Cs)(hr:jO c.r)(G:List aM):aX F 36 [cs c] G=some (i64 (fm c),G) :=
 bD rfl rfl (by
  obtain⟨⟨n,l⟩,s⟩:=c;generalize hW:fm ⟨⟨n,l⟩,s⟩=W;unfold fm at hW;simp only at hW hr;have hk:=XN ⟨n,l⟩ hr;have lR:=XO ⟨n,l⟩ hr;by_cases h1:kT ⟨n,l⟩=0
  case neg =>
   rw[aJ h1]at hW;simp (disch:=omega) [-getElem?_pos,K1,hk,lR,h1];exact hW
  rw[ax']at hW
  by_cases h2:12<n
  .rw[aJ h2]at hW
   simp (disch:=omega) [-getElem?_pos,K1,hk,lR,h1,h2];exact hW
  rw[ax h2]at hW;by_cases h3:6<s.length
  .rw[aJ h3]at hW
   have jd:(6:Int)<s.length:=by omega
   simp (disch:=omega) [-getElem?_pos,K1,hk,lR,h1,h2,jd];exact hW
  rw[ax h3]at hW;have jd:¬ (6:Int)<s.length:=by omega
  simp (disch:=omega) [-getElem?_pos,K1,hk,lR,h1,h2,jd];refine go_loop (λi:Nat=>arv (ru s) s.length i (Cs.row ⟨⟨n,l⟩,s⟩) G) (λi=>i<=s.length/\dH (B8 ⟨⟨n,l⟩,s⟩) (s.length-i) i=W) (λi=>s.length-i) 0 rfl (by simp) ⟨by omega,hW⟩ ?_
  rintro i ⟨hi,hq⟩;simp (disch:=omega) [-getElem?_pos,adD];refine bO (λh5=>?_) (λh5=>?_)
  .have h5:i<s.length:=by omega
   rw[kl h5]at hq;have hE:B8 ⟨⟨n,l⟩,s⟩ i=if 0<=(nth s i).n/\(nth s i).n<n then (if 0<i/\(nth s i).n<=(nth s (i-1)).n then 4 else gD (nth s i).d) else 41:=rfl
   by_cases a1:(nth s i).n<0
   .rw[ax']at hE
    rw[hE,ax (by decide)]at hq
    simp (disch:=omega) [-getElem?_pos,bc (l:=s),a1];exact hq
   by_cases a2:n<=(nth s i).n
   .rw[ax']at hE
    rw[hE,ax (by decide)]at hq
    simp (disch:=omega) [-getElem?_pos,bc (l:=s),a1,a2];exact hq
   rw[aJ']at hE
   by_cases a4:0<i/\(nth s i).n<=(nth s (i-1)).n
   .rw[aJ a4]at hE
    rw[hE,ax (by decide)]at hq
    simp (disch:=omega) [-getElem?_pos,bc (l:=s),a1,a2,a4.1,a4.2];exact hq
   rw[ax a4]at hE;have done:gD (nth s i).d=0->dH (B8 ⟨⟨n,l⟩,s⟩) (s.length-(i+1)) (i+1)=W:=λh=>by rwa [hE,h,aJ rfl]at hq
   have stop:gD (nth s i).d≠0->gD (nth s i).d=W:=λh=>by rwa [hE,ax h]at hq
   have hd:=FE (nth s i).d;have y7:=FF (nth s i).d;rcases (by omega:¬ 0<i\/(0<i/\¬ (nth s i).n<=(nth s (i-1)).n)) with a5 | ⟨a5,a6⟩
   .by_cases hz:gD (nth s i).d=0
    .simp (disch:=omega) [-getElem?_pos,bc (l:=s),a1,a2,a5,hd,y7,hz]
     exact bB' (i+1) ⟨by omega,done hz⟩
    .simp (disch:=omega) [-getElem?_pos,bc (l:=s),a1,a2,a5,hd,y7,hz]
     exact stop hz
   .by_cases hz:gD (nth s i).d=0
    .simp (disch:=omega) [-getElem?_pos,bc (l:=s),a1,a2,a5,a6,hd,y7,hz]
     exact bB' (i+1) ⟨by omega,done hz⟩
    .simp (disch:=omega) [-getElem?_pos,bc (l:=s),a1,a2,a5,a6,hd,y7,hz]
     exact stop hz
  .obtain rfl:i=s.length:=by omega
   rw[l7]at hq;exact hq)
structure AS(c:Cs):Prop where
 k:kT c.r=0
 n:c.r.n<=12
 s:c.s.length<=6
 site:∀i,i<c.s.length->B8 c i=0
def oh{c:Cs}(h:fm c=0):AS c:=by
 unfold fm at h;split at h
 next h1=>exact absurd h h1
 split at h
 .cases h
 split at h
 .cases h
 rename_i h1 h2 h3;exact⟨jf h1,by omega,by omega,λi hi=>tT h i (by omega) (by omega)⟩
def azb(c:Cs)(hs:c.s.length<=1000)(l:List Ds)(G:List aM):aX F 150 [cs c,zM l] G=some (.bool (decide (qD c l)),G) :=
 bD rfl rfl (by
  obtain⟨r,s⟩:=c;simp only at hs;generalize hW:decide (qD ⟨r,s⟩ l)=W;have no:¬ qD ⟨r,s⟩ l->W=false:=λh=>by rw[<-hW];simp[h]
  have yes:qD ⟨r,s⟩ l->W=true:=λh=>by rw[<-hW];simp[h]
  unfold qD at no yes;simp only at no yes;by_cases h1:l.length=s.length
  case neg =>
   have fA:¬ (l.length:Int)=s.length:=by omega
   simp (disch:=omega) [-getElem?_pos,VY,fA];exact no (λg=>h1 g.1)
  have fA:(l.length:Int)=s.length:=by omega
  simp (disch:=omega) [-getElem?_pos,VY,fA];refine go_loop (λi:Nat=>auu (zM l) (ru s) s.length i G) (λi=>i<=s.length/\∀j,j<i->gD (nth s j).d=0/\jq (nth s j).d (nth l j)) (λi=>s.length-i) 0 rfl (by simp) (by simp) ?_
  rintro i ⟨hi,hj⟩;simp (disch:=omega) [-getElem?_pos,afH];refine bO (λh5=>?_) (λh5=>?_)
  .have h5:i<s.length:=by omega
   have h6:i<l.length:=by omega
   by_cases h7:gD (nth s i).d=0/\jq (nth s i).d (nth l i)
   .simp (disch:=omega) [-getElem?_pos,bc (l:=s),bc (l:=l),aiL,h7.1,h7.2]
    refine bB' (i+1) ⟨by omega,λj h8=>?_⟩
    rcases cS j i with h9|h9
    .exact hj j h9
    .rwa [show j=i by omega]
   .have Mg:decide (gD (nth s i).d=0/\jq (nth s i).d (nth l i))=false:=by simp only[h7,decide_false]
    have hv:=aiL (nth s i).d (nth l i);rw[Mg]at hv;simp (disch:=omega) [-getElem?_pos,bc (l:=s),bc (l:=l),hv];exact no (λg=>h7 (g.2 i h5))
  .obtain rfl:i=s.length:=by omega
   exact yes ⟨h1,hj⟩)
def ajf(c:Cs)(hs:c.s.length<=1000)(hr:jO c.r)(f:Fl)(hf:mf f)(G:List aM):aX F 111 [cs c,fl f] G=some (.bool (decide (e8 c f)),G) :=
 bD rfl rfl (by
  have eI:=azb c hs f.d;obtain⟨⟨n,l⟩,s⟩:=c;obtain⟨t,d,w⟩:=f;generalize hW:decide (e8 ⟨⟨n,l⟩,s⟩ ⟨t,d,w⟩)=W;have no:¬ e8 ⟨⟨n,l⟩,s⟩ ⟨t,d,w⟩->W=false:=λh=>by rw[<-hW];simp[h]
  have yes:e8 ⟨⟨n,l⟩,s⟩ ⟨t,d,w⟩->W=true:=λh=>by rw[<-hW];simp[h]
  unfold e8 FM at no yes;simp only at no yes eI;unfold mf at hf;obtain⟨sd,pJ⟩:=hr;simp only at hf sd pJ;by_cases a1:t<0
  .simp (disch:=omega) [-getElem?_pos,HV,a1]
   exact no (by omega)
  by_cases a2:16777216<t
  .simp (disch:=omega) [-getElem?_pos,HV,a1,a2]
   exact no (by omega)
  by_cases a3:qD ⟨⟨n,l⟩,s⟩ d
  case neg =>
   simp (disch:=omega) [-getElem?_pos,HV,a1,a2,eI,a3];exact no (λg=>a3 g.2.1)
  by_cases a4:w.length=l.length
  case neg =>
   have FN:¬ (w.length:Int)=l.length:=by omega
   simp (disch:=omega) [-getElem?_pos,HV,a1,a2,eI,a3,FN];exact no (λg=>a4 g.2.2.1)
  have FN:(w.length:Int)=l.length:=by omega
  simp (disch:=omega) [-getElem?_pos,HV,a1,a2,eI,a3,FN];refine go_loop (λi:Nat=>att (pW l) l.length i (Fl.row ⟨t,d,w⟩) G) (λi=>i<=l.length/\∀j,j<i->fy (nth l j).r=0/\jA (nth l j).r (nth w j)) (λi=>l.length-i) 0 rfl (by simp) (by simp) ?_
  rintro i ⟨hi,hj⟩;simp (disch:=omega) [-getElem?_pos,ae3];refine bO (λh5=>?_) (λh5=>?_)
  .have h5:i<l.length:=by omega
   have h6:i<w.length:=by omega
   have hv:=ayZ (nth l i).r (pJ i h5) (nth w i) (hf i);by_cases h7:fy (nth l i).r=0/\jA (nth l i).r (nth w i)
   .rw[fJ h7]at hv
    simp (disch:=omega) [-getElem?_pos,bc (l:=l),bc (l:=w),hv];refine bB' (i+1) ⟨by omega,λj h8=>?_⟩
    rcases cS j i with h9|h9
    .exact hj j h9
    .rwa [show j=i by omega]
   .rw[decide_eq_false h7]at hv
    simp (disch:=omega) [-getElem?_pos,bc (l:=l),bc (l:=w),hv];exact no (λg=>h7 (g.2.2.2 i h5))
  .obtain rfl:i=l.length:=by omega
   exact yes ⟨by omega,a3,a4,hj⟩)
def azc(c:Cs)(hr:jO c.r)(f:Fl)(hf:mf f)(G:List aM):aX F 68 [cs c,fl f] G=some (.bool (decide (fm c=0/\e8 c f)),G) :=
 bD rfl rfl (by
  have h1:=XP c hr;by_cases hz:fm c=0
  .have h2:=ajf c (by have:=(oh hz).s;omega) hr f hf
   simp[Vq,h1,h2,hz]
  .simp[Vq,h1,hz])
noncomputable def lu(c:Cs)(f:Fl):Int:=if fm c≠0 then fm c else if e8 c f then 0 else 50
def ajg(c:Cs)(hr:jO c.r)(f:Fl)(hf:mf f)(G:List aM):aX F 112 [cs c,fl f] G=some (i64 (lu c f),G) :=
 bD rfl rfl (by
  have h1:=XP c hr;unfold lu;by_cases hz:fm c=0
  .have h2:=ajf c (by have:=(oh hz).s;omega) hr f hf
   by_cases hf:e8 c f
   .simp[O8,h1,h2,hz,hf]
   .simp[O8,h1,h2,hz,hf]
  .simp[O8,h1,hz])
def IC(x m:Int)(G:List aM):aX F 116 [i64 x,i64 m] G=some (.bool (decide (0<=x)&&decide (x<=m)),G) :=
 bD rfl rfl (by simp +contextual [ae9])
def XQ(c:Cs)(hr:jO c.r)(f:Fl)(hf:mf f)(G:List aM):aX F 71 [cs c,fl f] G=some (.bool (decide (fm c=0/\e8 c f)),G) :=
 bD rfl rfl (by
  have hc:=Qs c hr;obtain⟨⟨n,l⟩,s⟩:=c;obtain⟨t,d,w⟩:=f;generalize hW:decide (fm ⟨⟨n,l⟩,s⟩=0/\e8 ⟨⟨n,l⟩,s⟩ ⟨t,d,w⟩)=W;have no:¬ (fm ⟨⟨n,l⟩,s⟩=0/\e8 ⟨⟨n,l⟩,s⟩ ⟨t,d,w⟩)->W=false:=λh=>by rw[<-hW];simp[h]
  have yes:(fm ⟨⟨n,l⟩,s⟩=0/\e8 ⟨⟨n,l⟩,s⟩ ⟨t,d,w⟩)->W=true:=λh=>by rw[<-hW];simp[h]
  unfold e8 FM qD at no yes;simp only at no yes;unfold mf at hf;obtain⟨sd,pJ⟩:=hr;simp only at hf sd pJ;by_cases a0:fm ⟨⟨n,l⟩,s⟩=0
  case neg =>
   simp (disch:=omega) [-getElem?_pos,IL,hc,a0];exact no (λg=>a0 g.1)
  have Mh:=(oh a0).s;simp only at Mh;by_cases a1:0<=t/\t<=16777216
  case neg =>
   have nP:(decide (0<=t)&&decide (t<=16777216))=false:=by simp;omega
   simp (disch:=omega) [-getElem?_pos,IL,hc,a0,IC,nP];exact no (λg=>a1 g.2.1)
  have nP:(decide (0<=t)&&decide (t<=16777216))=true:=by simp;exact a1
  by_cases a3:d.length=s.length
  case neg =>
   have Qt:¬ (d.length:Int)=s.length:=by omega
   simp (disch:=omega) [-getElem?_pos,IL,hc,a0,IC,nP,Qt];exact no (λg=>a3 g.2.2.1.1)
  have Qt:(d.length:Int)=s.length:=by omega
  by_cases a4:w.length=l.length
  case neg =>
   have FN:¬ (w.length:Int)=l.length:=by omega
   simp (disch:=omega) [-getElem?_pos,IL,hc,a0,IC,nP,Qt,FN];exact no (λg=>a4 g.2.2.2.1)
  have FN:(w.length:Int)=l.length:=by omega
  simp (disch:=omega) [-getElem?_pos,IL,hc,a0,IC,nP,Qt,FN];refine go_loop (λi:Nat=>ast (ru s) s.length i (Cs.row ⟨⟨n,l⟩,s⟩) (Fl.row ⟨t,d,w⟩) G) (λi=>i<=s.length/\∀j,j<i->gD (nth s j).d=0/\jq (nth s j).d (nth d j)) (λi=>s.length-i) 0 rfl (by simp) (by simp) ?_
  rintro i ⟨hi,hj⟩;simp (disch:=omega) [-getElem?_pos,aeg];refine bO (λh5=>?_) (λh5=>?_)
  .have h5:i<s.length:=by omega
   have h6:i<d.length:=by omega
   have hv:=Xu (nth s i).d (nth d i);by_cases h7:gD (nth s i).d=0/\jq (nth s i).d (nth d i)
   .rw[fJ h7]at hv
    simp (disch:=omega) [-getElem?_pos,bc (l:=s),bc (l:=d),hv];refine bB' (i+1) ⟨by omega,λj h8=>?_⟩
    rcases cS j i with h9|h9
    .exact hj j h9
    .rwa [show j=i by omega]
   .rw[decide_eq_false h7]at hv
    simp (disch:=omega) [-getElem?_pos,bc (l:=s),bc (l:=d),hv];exact no (λg=>h7 (g.2.2.1.2 i h5))
  .obtain rfl:i=s.length:=by omega
   have so:=hj;refine go_loop (λi:Nat=>asv (pW l) l.length i (Fl.row ⟨t,d,w⟩) G) (λi=>i<=l.length/\∀j,j<i->fy (nth l j).r=0/\jA (nth l j).r (nth w j)) (λi=>l.length-i) 0 rfl (by simp) (by simp) ?_
   rintro i ⟨hi,hj⟩;simp (disch:=omega) [-getElem?_pos,aeh];refine bO (λh5=>?_) (λh5=>?_)
   .have h5:i<l.length:=by omega
    have h6:i<w.length:=by omega
    have hv:=ai8 (nth l i).r (pJ i h5) (nth w i) (hf i);by_cases h7:fy (nth l i).r=0/\jA (nth l i).r (nth w i)
    .rw[fJ h7]at hv
     simp (disch:=omega) [-getElem?_pos,bc (l:=l),bc (l:=w),hv];refine bB' (i+1) ⟨by omega,λj h8=>?_⟩
     rcases cS j i with h9|h9
     .exact hj j h9
     .rwa [show j=i by omega]
    .rw[decide_eq_false h7]at hv
     simp (disch:=omega) [-getElem?_pos,bc (l:=l),bc (l:=w),hv];exact no (λg=>h7 (g.2.2.2.2 i h5))
   .obtain rfl:i=l.length:=by omega
    exact yes ⟨a0,a1,⟨a3,so⟩,a4,hj⟩)
end
def Qu{α:Type}{row:α->List V}{k:Nat}(hk:∀a,(row a).length=k):∀l:List α,(l.map row).flatten.length=l.length*k
 |[]=>by simp
 |a::l=>by
  rw[nT,vn,jQ,hk,Qu hk l,vp,Aa,Nl,Nf]
def XR{α:Type}[Inhabited α]{row:α->List V}{k:Nat}(hk:∀a,(row a).length=k):∀{l:List α} {i:Nat},i<l.length->((l.map row).flatten.drop (i*k)).take k=row (nth l i)
 |[],i,h=>by simp at h
 |a::l,0,_=>by
  rw[Jt,tA,nT,vn,List.take_append_of_le_length (by rw[hk];exact b8 _),kD (by rw[hk];exact b8 _)]
  rfl
 |a::l,i+1,h=>by
  have ih:=XR hk (l:=l) (i:=i) (by simpa using h)
  rw[nT,vn,show(i+1)*k=k+i*k by rw[Aa,Nl,Nf],<- List.drop_drop,List.drop_left' (hk a),ih]
  rfl
def XS{x:V}:∀{vs cs:List V} {off:Nat},jE (x::cs) (off+1) vs=x::jE cs off vs
 |[],_,_=>rfl
 |v::vs,cs,off=>by
  simp only[jE,List.set_cons_succ];exact XS
def ajh:∀{p:List V} {cs vs:List V} {off:Nat},jE (p++cs) (p.length+off) vs=p++jE cs off vs
 |[],cs,vs,off=>by simp
 |a::p,cs,vs,off=>by
  rw[vm,vp,show p.length+1+off=(p.length+off)+1 by omega,XS,ajh,vm]
def aji:∀{vs p cs:List V},p.length=vs.length->jE (p++cs) 0 vs=vs++cs
 |[],p,cs,h=>by
  have:p=[]:=pz.1 (by simpa using h)
  subst this;rfl
 |v::vs,[],cs,h=>by simp at h
 |v::vs,a::p,cs,h=>by
  simp only[jE,vm,En];rw[XS,aji (by simpa using h)]
def Qv{α:Type}{row:α->List V}{k:Nat}(hk:∀a,(row a).length=k){x:α}:∀{l:List α} {i:Nat},i<l.length->jE (l.map row).flatten (i*k) (row x)=((l.set i x).map row).flatten
 |[],i,h=>by simp at h
 |a::l,0,_=>by
  rw[Jt,nT,vn,aji (by rw[hk,hk])]
  rfl
 |a::l,i+1,h=>by
  have ih:=Qv hk (x:=x) (l:=l) (i:=i) (by simpa using h)
  rw[nT,vn,show(i+1)*k=(row a).length+i*k by rw[hk,Aa,Nl,Nf],ajh,ih]
  rfl
def xd{α:Type}[Inhabited α]{l:List α}{i j:Nat}{x:α}(h:i<l.length):nth (l.set i x) j=if j=i then x else nth l j:=by
 unfold nth;rw[Zq,Zq,lM];by_cases hj:j=i
 .subst hj;simp[h]
 .rw[ax hj,ax (λe=>hj e.symm)]
section
attribute [local simp] mX mY lX mW
def Qw{α:Type}{row:α->List V}{k:Nat}(hk:∀a,(row a).length=k):∀{l:List α} {cs:List V} {off:Nat},cs.drop off=(l.map row).flatten->chunks k cs off l.length=l.map row
 |[],cs,off,h=>by simp[chunks]
 |a::l,cs,off,h=>by
  rw[nT,vn]at h;have h2:cs.drop (off+k)=(l.map row).flatten:=by
   rw[<-List.drop_drop,h,List.drop_left' (hk a)]
  rw[vp,chunks,Qw hk h2,h,List.take_left' (hk a),nT]
def Qx{α:Type}{row:α->List V}{sh:Sh}(h:∀a,oV sh (row a)=some (row a)):∀l:List α,ju sh (l.map row)=some (l.map row)
 |[]=>rfl
 |a::l=>by simp[ju,h,Qx h l]
def kU(l:List Ds):List V:=(l.map Ds.row).flatten
def ajj(l:List Ds):(l.map Ds.row).flatten=kU l:=rfl
@[simp] theorem aIf{l:List Ds}:(kU l).length=l.length*4:=Qu (row:=Ds.row) (λ_=>rfl) l
def B9{l:List Ds}{n:Nat}(h:n=l.length):ju [none,none,some 3,some 2] (chunks 4 (kU l) 0 n)=some (l.map Ds.row):=by
 subst h;rw[Qw (row:=Ds.row) (λ_=>rfl) rfl];exact Qx (λa=>by simp) l
def ajk{l:List Ds}{a:Ds}:kU l++a.row=kU (l++[a]):=by simp[kU]
def nh(l:List (List Int)):List V:=(l.map λp=>[ints p]).flatten
def ajl(l:List (List Int)):(l.map λp=>[ints p]).flatten=nh l:=rfl
@[simp] theorem aIg{l:List (List Int)}:(nh l).length=l.length:=by
 have:=Qu (row:=λp=>[ints p]) (k:=1) (λ_=>rfl) l
 rwa [Gz]at this
def FO{l:List (List Int)}{n:Nat}(h:n=l.length):ju [some 1] (chunks 1 (nh l) 0 n)=some (l.map λp=>[ints p]):=by
 subst h;rw[Qw (row:=λp=>[ints p]) (λ_=>rfl) rfl];exact Qx (λa=>by simp) l
def ajm{l:List (List Int)}{a:List Int}:nh l++[ints a]=nh (l++[a]):=by simp[nh]
def Qy{α:Type}{row:α->List V}{p:V->Bool}(h:∀a,(row a).all p=true):∀l:List α,(l.map row).flatten.all p=true
 |[]=>rfl
 |a::l=>by rw[nT,vn,List.all_append,h,Qy h l];rfl
def Mi{α:Type}{row:α->List V}{f:V->V}(h:∀a,(row a).map f=row a):∀l:List α,(l.map row).flatten.map f=(l.map row).flatten
 |[]=>rfl
 |a::l=>by rw[nT,vn,Jp,h,Mi h l]
@[simp] theorem aIh{l:List Ds}{d:Nat}:((kU l).all λv => !V.cQ d v)=true:=Qy (row:=Ds.row) (λa=>by simp) l
@[simp] theorem aIi{l:List (List Int)}{d:Nat}:((nh l).all λv => !V.cQ d v)=true:=Qy (row:=λp=>[ints p]) (λa=>by simp) l
variable{b:Nat}
@[simp] theorem aIj{l:List Ds}{a:Nat}:(kU l).map (V.kF a b)=kU l:=Mi (row:=Ds.row) (λa=>by simp) l
@[simp] theorem aIk{l:List (List Int)}{a:Nat}:(nh l).map (V.kF a b)=nh l:=Mi (row:=λp=>[ints p]) (λa=>by simp) l
@[simp] theorem aIl{l:List Ds}:(kU l).map V.kq=kU l:=Mi (row:=Ds.row) (λa=>by simp) l
@[simp] theorem aIm{l:List (List Int)}:(nh l).map V.kq=nh l:=Mi (row:=λp=>[ints p]) (λa=>by simp) l
def Mj(l:List Ds):Prop:=l.length<=1000/\∀i,i<l.length->(nth l i).u.length<=1000/\(nth l i).g.length<=1000
def XT(l:List (List Int)):Prop:=l.length<=1000/\∀i,i<l.length->(nth l i).length<=17592186044416
def ajn(l:List Ds)(h:Mj l)(G:List aM):aX F 113 [zM l] G=some (.cO G.length 4 l.length,G++[.cells (kU l)]) :=
 bD rfl rfl (by
  obtain⟨hl,hs⟩:=h;simp (disch:=omega) [-getElem?_pos,ae5];refine go_loop (λi:Nat=>atv i (zM l) l.length i (kU (l.take i)) G) (λi=>i<=l.length) (λi=>l.length-i) 0 rfl (by simp[kU]) (by simp) ?_
  rintro i hi;simp (disch:=omega) [-getElem?_pos,ae4];refine bO (λh5=>?_) (λh5=>?_)
  .have h5:i<l.length:=by omega
   have hu:=ayU (nth l i).u (hs i h5).1;have hg:=ayV (nth l i).g (hs i h5).2;have hm:Nat.min i l.length=i:=CO hi;simp (disch:=omega) [-getElem?_pos,bc (l:=l),hu,hg];exact bB (i+1) (by simp[jV h5,<- ajk]) (by omega) (by omega)
  .obtain rfl:i=l.length:=by omega
   simp (disch:=omega) [-getElem?_pos,B9,ajj,mL])
def Qz(l:List Int)(hl:l.length<=17592186044416)(G:List aM):aX F 39 [ints l] G=some (.slice (some 0) 1 (l.map λn=>[i64 n]),G):=by
 cases l with
 |nil =>
  refine TS (p:=0) (m:=1) rfl rfl rfl rfl ?_ ?_
  .simp (disch:=omega) [OZ]
  .simp (disch:=omega) [OZ]
 |cons a l =>
  have hl:l.length+1<=17592186044416:=by simpa using hl
  show aX F 39 [.slice none 1 ([i64 a]::l.map λn=>[i64 n])] G=some (.slice (some 0) 1 ([i64 a]::l.map λn=>[i64 n]),G);refine TT (p:=0) rfl rfl rfl (λm=>by simp) ?_
  simp (disch:=omega) [OZ]
def ajo(l:List (List Int))(h:XT l)(G:List aM):aX F 114 [og l] G=some (.cO G.length 1 l.length,G++[.cells (nh l)]) :=
 bD rfl rfl (by
  obtain⟨hl,hs⟩:=h;simp (disch:=omega) [-getElem?_pos,ae7];refine go_loop (λi:Nat=>atx i (og l) l.length i (nh (l.take i)) G) (λi=>i<=l.length) (λi=>l.length-i) 0 rfl (by simp[nh]) (by simp) ?_
  rintro i hi;simp (disch:=omega) [-getElem?_pos,ae6];refine bO (λh5=>?_) (λh5=>?_)
  .have h5:i<l.length:=by omega
   have hu:=Qz (nth l i) (hs i h5);have hm:Nat.min i l.length=i:=CO hi;simp (disch:=omega) [-getElem?_pos,bc (l:=l),hu];exact bB (i+1) (by simp[jV h5,<- ajm]) (by omega) (by omega)
  .obtain rfl:i=l.length:=by omega
   simp (disch:=omega) [-getElem?_pos,FO,ajl,mL])
def ajp(l:List Ds)(h:Mj l)(G:List aM):aX F 72 [zM l] G=some (.cO G.length 4 l.length,G++[.cells (kU l)]) :=
 bD rfl rfl (by
  obtain⟨hl,hs⟩:=h;simp (disch:=omega) [-getElem?_pos,aej];refine go_loop (λi:Nat=>asx i (zM l) l.length i (kU (l.take i)) G) (λi=>i<=l.length) (λi=>l.length-i) 0 rfl (by simp[kU]) (by simp) ?_
  rintro i hi;simp (disch:=omega) [-getElem?_pos,aei];refine bO (λh5=>?_) (λh5=>?_)
  .have h5:i<l.length:=by omega
   have hu:=(hs i h5).1;have hg:=(hs i h5).2;have hm:Nat.min i l.length=i:=CO hi;simp (disch:=omega) [-getElem?_pos,bc (l:=l)];exact bB (i+1) (by simp[jV h5,<- ajk]) (by omega) (by omega)
  .obtain rfl:i=l.length:=by omega
   simp (disch:=omega) [-getElem?_pos,B9,ajj,mL])
def ajq(f:Fl)(h:Mj f.d)(hw:XT f.w)(G:List aM):aX F 44 [fl f] G=some (.agg [i64 f.t,.cO G.length 4 f.d.length,.cO (G.length+1) 1 f.w.length],G++[.cells (kU f.d),.cells (nh f.w)]) :=
 bD rfl rfl (by
  obtain⟨t,d,l⟩:=f;simp only at h hw;have hd:=ajp d h;obtain⟨hl,hs⟩:=hw;simp (disch:=omega) [-getElem?_pos,adJ,hd];refine go_loop (λi:Nat=>arD i (og l) l.length i [i64 t,.cO G.length 4 d.length,og l] [i64 0,.cj,.cj] (nh (l.take i)) (G++[.cells (kU d)])) (λi=>i<=l.length) (λi=>l.length-i) 0 rfl (by simp[nh]) (by simp) ?_
  rintro i hi;simp (disch:=omega) [-getElem?_pos,adI];refine bO (λh5=>?_) (λh5=>?_)
  .have h5:i<l.length:=by omega
   have hu:=hs i h5;have hm:Nat.min i l.length=i:=CO hi;simp (disch:=omega) [-getElem?_pos,bc (l:=l)];exact bB (i+1) (by simp[jV h5,<- ajm]) (by omega) (by omega)
  .obtain rfl:i=l.length:=by omega
   simp (disch:=omega) [-getElem?_pos,FO,ajl,mL])
def fd(p:Nat->Bool):Nat->Nat->Option Nat
 |0,_=>none
 |m+1,i=>if p i then some i else fd p m (i+1)
variable{p:Nat->Bool}
def ajr{i n:Nat}(h:i<n):fd p (n-i) i=if p i then some i else fd p (n-(i+1)) (i+1):=by
 obtain⟨m,hm⟩:∃m,n-i=m+1:=⟨n-i-1,by omega⟩
 rw[hm,fd,show n-(i+1)=m by omega]
def ajs{n:Nat}:fd p (n-n) n=none:=by rw[pA];rfl
def Ca{p:Nat->Bool}:∀{m i k:Nat},fd p m i=some k->(i<=k/\k<i+m)/\p k=true/\∀j,i<=j->j<k->p j=false
 |0,i,k,h=>by simp[fd]at h
 |m+1,i,k,h=>by
  unfold fd at h;split at h
  next h1=>cases h;exact⟨by omega,h1,λj a b=>by omega⟩
  next h1=>
   have:=Ca h;refine⟨by omega,this.2.1,λj a b=>?_⟩
   by_cases hj:j=i
   .subst hj;simpa using h1
   .exact this.2.2 j (by omega) b
def XU{p:Nat->Bool}:∀{m i:Nat},fd p m i=none->∀j,i<=j->j<i+m->p j=false
 |0,i,_,j,a,b=>by omega
 |m+1,i,h,j,a,b=>by
  unfold fd at h;split at h
  .cases h
  next h1=>
   by_cases hj:j=i
   .subst hj;simpa using h1
   .exact XU h j (by omega) (by omega)
def xe:Option Nat->Int
 |some k=>k
 |none => -1
def ni(s:List Si)(n:Int):Option Nat:=fd (λi=>decide ((nth s i).n=n)) s.length 0
def oi(l:List Lk)(n:Int):Option Nat:=fd (λi=>decide ((nth l i).f=n)) l.length 0
variable{k:Nat}{G:List aM}
def azd(s:List Si)(hs:s.length<=1000)(n:Int)(hG:G[k]?=some (.cells [i64 n])) :
  aX F 188 [ru s,.fn 189 [.bu k 0]] G=some (i64 (xe (ni s n)),G) :=
 bD rfl rfl (by
  generalize hW:xe (ni s n)=W;have hp:∀x:Si,aX F 189 [.agg x.row,.bu k 0] G=some (.bool (decide (x.n=n)),G):=λx=>bD rfl rfl (by
   simp (disch:=omega) [-getElem?_pos,agh,hG])
  simp (disch:=omega) [-getElem?_pos,agf];refine go_loop (λi:Nat=>auX (ru s) (.fn 189 [.bu k 0]) s.length i G) (λi=>i<=s.length/\xe (fd (λi=>decide ((nth s i).n=n)) (s.length-i) i)=W) (λi=>s.length-i) 0 rfl (by simp) ⟨by omega,hW⟩ ?_
  rintro i ⟨hi,hq⟩;simp (disch:=omega) [-getElem?_pos,age];refine bO (λh5=>?_) (λh5=>?_)
  .have h5:i<s.length:=by omega
   rw[ajr h5]at hq;simp (disch:=omega) [-getElem?_pos,bc (l:=s),hp];refine bO (λh6=>?_) (λh6=>?_)
   .rw[aJ (fJ h6)]at hq
    exact hq
   .rw[ax (by simp[h6])]at hq
    exact bB' (i+1) ⟨by omega,hq⟩
  .obtain rfl:i=s.length:=by omega
   rw[ajs]at hq;exact hq)
def aze(s:List Lk)(hs:s.length<=1000)(n:Int)(hG:G[k]?=some (.cells [i64 n])) :
  aX F 192 [pW s,.fn 193 [.bu k 0]] G=some (i64 (xe (oi s n)),G) :=
 bD rfl rfl (by
  generalize hW:xe (oi s n)=W;have hp:∀x:Lk,aX F 193 [.agg x.row,.bu k 0] G=some (.bool (decide (x.f=n)),G):=λx=>bD rfl rfl (by
   simp (disch:=omega) [-getElem?_pos,agl,hG])
  simp (disch:=omega) [-getElem?_pos,agk];refine go_loop (λi:Nat=>auZ (pW s) (.fn 193 [.bu k 0]) s.length i G) (λi=>i<=s.length/\xe (fd (λi=>decide ((nth s i).f=n)) (s.length-i) i)=W) (λi=>s.length-i) 0 rfl (by simp) ⟨by omega,hW⟩ ?_
  rintro i ⟨hi,hq⟩;simp (disch:=omega) [-getElem?_pos,agj];refine bO (λh5=>?_) (λh5=>?_)
  .have h5:i<s.length:=by omega
   rw[ajr h5]at hq;simp (disch:=omega) [-getElem?_pos,bc (l:=s),hp];refine bO (λh6=>?_) (λh6=>?_)
   .rw[aJ (fJ h6)]at hq
    exact hq
   .rw[ax (by simp[h6])]at hq
    exact bB' (i+1) ⟨by omega,hq⟩
  .obtain rfl:i=s.length:=by omega
   rw[ajs]at hq;exact hq)
def azf(x:Int)(G:List aM):aX F 156 [i64 x] G=some (.bool (!decide (0<=x/\x<=1073741824)),G) :=
 bD rfl rfl (by
  by_cases h1:x<0
  .rw[decide_eq_false (by omega)]
   simp[Ph,h1]
  .by_cases h2:1073741824<x
   .rw[decide_eq_false (by omega)]
    simp[Ph,h1,h2]
   .rw[fJ (by omega)]
    simp[Ph,h1,h2])
def azg(a b c:List Int)(h:a.length+b.length+c.length<=1000)(G:List aM):aX F 155 [.slice none 1 [[ints a],[ints b],[ints c]]] G=some (ints (a++b++c),G) :=
 bD rfl rfl (by
  simp (disch:=omega) [afM,afJ,afI,afL,afK,AB];refine bO (λg=>absurd g (by omega)) (λ_=>bO (λg=>absurd g (by omega)) (λ_=>bO (λg=>absurd g (by omega)) (λ_=>?_)))
  simp (disch:=omega) [OF (l:=a++(b++c)) (n:=a.length+b.length+c.length) (by simp;omega)])
structure Sp where
 a:List Int
 b:List Int
 c:List Int
abbrev Sp.row(p:Sp):List V:=[ints p.a,ints p.b,ints p.c]
abbrev sv(p:Sp):V:=.agg p.row
def pX(c:Cs)(p:Sp):Prop:=(p.a.length:Int)=c.r.n/\p.b.length=c.s.length/\p.c.length=c.s.length
instance {c:Cs} {p:Sp}:Decidable (pX c p):=inferInstanceAs (Decidable (_/\_/\_))
def azh(c:Cs)(p:Sp)(G:List aM):aX F 154 [cs c,sv p] G=some (.bool (decide (pX c p)),G) :=
 bD rfl rfl (by
  obtain⟨⟨n,l⟩,s⟩:=c;obtain⟨a,b,c⟩:=p;generalize hW:decide (pX ⟨⟨n,l⟩,s⟩ ⟨a,b,c⟩)=W;have no:¬ pX ⟨⟨n,l⟩,s⟩ ⟨a,b,c⟩->W=false:=λh=>by rw[<-hW];simp[h]
  have yes:pX ⟨⟨n,l⟩,s⟩ ⟨a,b,c⟩->W=true:=λh=>by rw[<-hW];simp[h]
  unfold pX at no yes;simp only at no yes;by_cases h1:(a.length:Int)=n
  .by_cases h2:(b.length:Int)=s.length
   .by_cases h3:(c.length:Int)=s.length
    .simp[Lo,h1,h2,h3]
     exact yes (by omega)
    .simp[Lo,h1,h2,h3]
     exact no (by omega)
   .simp[Lo,h1,h2]
    exact no (by omega)
  .simp[Lo,h1]
   exact no (by omega))
def XV(l:List Int)(hl:l.length<=1000)(m:Int)(G:List aM):aX F 73 [ints l,i64 m] G=some (.bool (decide (fx l m)),G) :=
 bD rfl rfl (by
  generalize hW:decide (fx l m)=W;simp (disch:=omega) [-getElem?_pos,ael];refine go_loop (λi:Nat=>asz m (ints l) l.length i G) (λi=>i<=l.length/\∀j,j<i->0<=nth l j/\nth l j<=m) (λi=>l.length-i) 0 rfl (by simp) (by simp) ?_
  rintro i ⟨hi,hj⟩;simp (disch:=omega) [-getElem?_pos,aek];refine bO (λh5=>?_) (λh5=>?_)
  .have h5:i<l.length:=by omega
   by_cases h6:0<=nth l i/\nth l i<=m
   .have je:(decide (0<=nth l i)&&decide (nth l i<=m))=true:=by simp;exact h6
    simp (disch:=omega) [-getElem?_pos,dQ (l:=l),IC,je];refine bB' (i+1) ⟨by omega,λj h7=>?_⟩
    rcases cS j i with h8|h8
    .exact hj j h8
    .rwa [show j=i by omega]
   .have je:(decide (0<=nth l i)&&decide (nth l i<=m))=false:=by simp;omega
    simp (disch:=omega) [-getElem?_pos,dQ (l:=l),IC,je];rw[<-hW,decide_eq_false (λg:fx l m=>h6 (g i h5))]
  .obtain rfl:i=l.length:=by omega
   rw[<-hW,fJ (show fx l m from hj)])
structure Kv(r:Rr):Prop where
 n:1<=r.n/\r.n<=40
 e:∀i,i<r.l.length->lE r i=0
variable{r:Rr}
def oj(h:kT r=0):Kv r:=by
 unfold kT at h;split at h
 .cases h
 .exact⟨by omega,λi hi=>tT h i (by omega) (by omega)⟩
def Kv.link(h:Kv r){i:Nat}(hi:i<r.l.length):(0<=(nth r.l i).f/\(nth r.l i).f<(nth r.l i).t/\(nth r.l i).t<=r.n-1)/\(0<i->(nth r.l (i-1)).f<(nth r.l i).f)/\fy (nth r.l i).r=0:=by
 have he:=h.e i hi;unfold lE at he;simp only at he;split at he
 .split at he
  .cases he
  .split at he
   .cases he
   .exact⟨by omega,λh0=>by omega,he⟩
 .cases he
def Kv.up(h:Kv r):∀{i:Nat},i<r.l.length->(i:Int)<=(nth r.l i).f
 |0,hi=>by have:=(h.link hi).1;omega
 |i+1,hi=>by
  have:=h.up (i:=i) (by omega)
  have:=(h.link hi).2.1 (by omega)
  simp only[rW]at this;omega
def Kv.len(h:Kv r):r.l.length<=39:=by
 have h1:=h.n;by_cases h0:r.l.length=0
 .omega
 .have h2:=h.up (i:=r.l.length-1) (by omega)
  have h3:=(h.link (i:=r.l.length-1) (by omega)).1
  omega
def ajt:∀n:Nat,ju [some 1] (List.replicate n [V.cj])=some (List.replicate n [ints []])
 |0=>rfl
 |n+1=>by rw[CM,ju,ajt n];rfl
def azi{n:Nat}:ju [some 1] (chunks 1 (List.replicate n V.cj) 0 n)=some (List.replicate n [ints []]):=by
 rw[E1 _ _ _ rfl (by simp),tA,kD (by simp),M9]
 exact ajt n
def aju:∀n:Nat,(List.replicate n [V.cj]).flatten=List.replicate n V.cj
 |0=>rfl
 |n+1=>by rw[CM,vn,aju n];rfl
def azj(r:Rr)(hr:jO r)(G:List aM):aX F 100 [rr r] G=some (.tuple (if kT r=0 then [og (List.replicate r.l.length []),i64 0] else [.slice (some 0) 1 [],i64 (kT r)]),G) :=
 bD rfl rfl (by
  have h1:=XN r hr;have h2:=XO r hr;obtain⟨n,l⟩:=r;by_cases hz:kT ⟨n,l⟩=0
  .have hl:=(oj hz).len
   simp only at hl;rw[aJ hz];simp (disch:=omega) [VE,h1,h2,hz,aju,azi]
  .rw[ax hz]
   simp (disch:=omega) [VE,h1,h2,hz])
noncomputable def AT(c:Cs)(l:List Ds):Int:=if fm c≠0 then fm c else if qD c l then 0 else 3
def pY(c:Cs)(l:List Ds):Fl:=⟨0,l,List.replicate c.r.l.length []⟩
noncomputable def Cb(c:Cs)(l:List Ds):V:=.tuple (if AT c l=0 then [fl (pY c l),i64 0] else [.agg [i64 0,.slice (some 0) 4 [],.slice (some 0) 1 []],i64 (AT c l)])
variable{c:Cs}
def IE(h:fm c=0){l:List Ds}(hl:qD c l):Mj l:=by
 have h6:=(oh h).s;have h7:=hl.1;refine⟨by omega,λi hi=>?_⟩
 have h8:=hl.2 i (by omega)
 have h9:=B5 h8.1;have a:=h9.u;have b:=h9.g;have c:=h8.2.2.2.1;have d:=h8.2.2.2.2.1;omega
def XW(h:fm c=0){l:List Ds}:e8 c (pY c l)<->qD c l:=by
 refine⟨λg=>g.2.1,λg=>⟨by simp[pY],g,by simp[pY],λi hi=>?_⟩⟩
 have hk:=(oj (oh h).k).link hi;refine⟨hk.2.2,?_⟩;have e:nth (pY c l).w i=[]:=by simp[pY,nth,hi]
 rw[e];exact⟨by simp,by simp,λj hj=>by simp at hj⟩
def azk(c:Cs)(l:List Ds):mf (pY c l):=λi=>by
 rcases cS i c.r.l.length with h|h
 .simp[pY,nth,h]
 .have e:nth (pY c l).w i=[]:=by
   simp[pY,nth,kW (show(List.replicate c.r.l.length ([]:List Int)).length<=i by simpa using h)]
   rfl
  rw[e];simp
def azl(c:Cs)(hr:jO c.r)(l:List Ds)(Mc:Mj l):∃G',aX F 61 [cs c,zM l] []=some (Cb c l,G'):=by
 have h1:=Qs c hr;by_cases hz:fm c=0
 .have h3:=azj c.r hr
  rw[aJ (oh hz).k]at h3;have h4:=ajp l Mc;have h5:=XQ c hr (pY c l) (azk c l);by_cases hs:qD c l
  .rw[fJ ⟨hz,(XW hz).2 hs⟩]at h5
   rw[show Cb c l=.tuple [fl (pY c l),i64 0] by unfold Cb;rw[show AT c l=0 by unfold AT;rw[ax',aJ hs]];rfl]
   refine⟨[.cells []],bD rfl rfl ?_⟩;simp only[fl,Fl.row,pY,og,M9]at h5;simp[O1,h1,hz,h3,h4,h5,B9,pY]
  .rw[decide_eq_false (λg=>hs ((XW hz).1 g.2))]at h5
   rw[show Cb c l=.tuple [.agg [i64 0,.slice (some 0) 4 [],.slice (some 0) 1 []],i64 3] by unfold Cb;rw[show AT c l=3 by unfold AT;rw[ax',ax hs]];rfl]
   refine⟨[.cells []],bD rfl rfl ?_⟩;simp only[fl,Fl.row,pY,og,M9]at h5;simp[O1,h1,hz,h3,h4,h5,B9]
 .rw[show Cb c l=.tuple [.agg [i64 0,.slice (some 0) 4 [],.slice (some 0) 1 []],i64 (fm c)] by unfold Cb;rw[show AT c l=fm c by unfold AT;rw[aJ hz]];rw[ax hz]]
  refine⟨[],bD rfl rfl ?_⟩;simp[O1,h1,hz]
def ajv{l:List Int}{a:Int}:∀{i:Nat},i<=l.length->sm (l++[a]) i=sm l i
 |0,_=>rfl
 |i+1,h=>by
  simp only[sm];rw[ajv (by omega),tW (by omega)]
variable{a:Int}
def azm{l:List Int}:sm (l++[a]) (l.length+1)=sm l l.length+a:=by
 simp only[sm];rw[ajv (b8 _),jM,ax',aJ rfl]
abbrev zN(l:List Int):V:=.slice (some 0) 1 (l.map λn=>[i64 n])
abbrev XX(r:Rc):V:=.agg [zN r.w,i64 r.den]
def azn{l:List Int}(hd:dz l k):∃r k',aX F 95 [.bu 0 0] [dk l k]=some (XX r,[dk l k'])/\dz l k'/\fy r=0/\r.w.length<=5:=by
 suffices h:∀Q:V->List aM->Prop,(∀r k',dz l k'->fy r=0->r.w.length<=5->Q (XX r) [dk l k'])->gz (aX F) 95 [.bu 0 0] [dk l k] Q by
  obtain⟨_,_,h,r,k',rfl,rfl,h1⟩:=h (λv G=>∃r k',v=XX r/\G=[dk l k']/\dz l k'/\fy r=0/\r.w.length<=5) λr k' a b c=>⟨r,k',rfl,rfl,a,b,c⟩;exact⟨r,k',h,h1⟩
 intro Q hQ;refine gN rfl rfl ?_;obtain⟨m,k1,n1,iD,hm⟩:=fG hd 5 (by omega)
 simp (disch:=omega) [aeH,n1];refine go_loop (λs:List Int×Int×Int×Nat=>asX (.bu 0 0) s.2.2.1 [.cj,i64 0] [.slice (some 1022) 1 (s.1.map λn=>[i64 n]),i64 s.2.1] s.1.length [dk l s.2.2.2])
  (λs=>s.2.1=sm s.1 s.1.length/\(∀i,i<s.1.length->0<=nth s.1 i/\nth s.1 i<=4)/\(s.1.length:Int)+s.2.2.1+1<=5 /\ -1<=s.2.2.1/\(s.2.2.1 = -1->0<s.1.length/\1<=nth s.1 (s.1.length-1))/\dz l s.2.2.2) (λs=>(s.2.2.1+1).toNat)
  ([],0,m,k1) rfl (by simp) ⟨rfl,by simp,by simp;omega,by simp only;omega,by simp only;omega,iD⟩ ?_
 rintro⟨w,den,x,k⟩ ⟨h1,h2,h3,h4,h5,hd⟩;simp only at h1 h2 h3 h4 h5 hd;have Ml:=FK (l:=w) (b:=4) (i:=w.length) h2;obtain⟨a,k2,n2,fu,ha⟩:=fG hd 4 (by omega)
 simp (disch:=omega) [aeG];refine bO (λh6=>?_) (λh6=>?_)
 .have key:∀b:Int,(0<=b/\b<=4)->(x=0->1<=b)->((den+b=sm (w++[b]) (w++[b]).length)/\(∀i,i<(w++[b]).length->0<=nth (w++[b]) i/\nth (w++[b]) i<=4)/\((w++[b]).length:Int)+(x-1)+1<=5 /\ -1<=x-1/\(x-1 = -1->0<(w++[b]).length/\1<=nth (w++[b]) ((w++[b]).length-1))/\dz l k2):=λb hb Hg=>by
   refine⟨by rw[jQ,rQ,azm,h1],λi hi=>?_,by simp;omega,by omega,λg=>⟨by simp,?_⟩,fu⟩
   .rw[jM]
    simp at hi;split
    .exact h2 i (by assumption)
    .rw[aJ'];exact hb
   .rw[jQ,rQ,rW,jM,ax',aJ rfl]
    exact Hg (by omega)
  by_cases h7:x=0
  .subst h7
   simp (disch:=omega) [n2];exact bB (w++[a+1],den+(a+1),-1,k2) (by simp) (key (a+1) (by omega) (λ_=>by omega)) (by simp)
  .simp (disch:=omega) [n2,h7]
   exact bB (w++[a],den+a,x-1,k2) (by simp) (key a (by omega) (λg=>absurd g h7)) (by simp only;omega)
 .have hx:x = -1:=by omega
  obtain⟨h8,h9⟩:=h5 hx;refine hQ ⟨w,den⟩ k hd ?_ (by simp only;omega)
  unfold fy;simp only;rw[ax',ax',aJ (show fx w 10000 from λi hi=>by have:=h2 i hi;omega),aJ h1.symm]
structure Rm(m:Int)(l:List Lk)(n:Int):Prop where
 link:∀i,i<l.length->0<=(nth l i).f/\(nth l i).f<(nth l i).t/\(nth l i).t<=m-1/\(nth l i).f<n/\fy (nth l i).r=0/\(nth l i).r.w.length<=5
 up:∀i,0<i->i<l.length->(nth l (i-1)).f<(nth l i).f
 len:(l.length:Int)<=n
variable{m n:Int}
def Rm.snoc{l:List Lk}(h:Rm m l n)(hn:0<=n){x:Lk}(h1:x.f=n)(h2:n<x.t)(h3:x.t<=m-1)(h4:fy x.r=0)(h5:x.r.w.length<=5):Rm m (l++[x]) (n+1):=by
 refine⟨λi hi=>?_,λi h0 hi=>?_,by have:=h.len;simp;omega⟩
 .simp at hi
  rw[jM];split
  .have:=h.link i (by assumption);omega
  .rw[aJ'];omega
 .simp at hi
  rw[jM,jM,aJ']
  split
  .exact h.up i h0 (by assumption)
  .rw[aJ',h1]
   exact(h.link (i-1) (by omega)).2.2.2.1
def Rm.skip{l:List Lk}(h:Rm m l n):Rm m l (n+1) :=
 ⟨λi hi=>by have:=h.link i hi;omega,h.up,by have:=h.len;omega⟩
def Rm.nI{l:List Lk}(h:Rm m l n)(hm:1<=m/\m<=40):kT ⟨m,l⟩=0:=by
 unfold kT;rw[ax (by simp only;omega)]
 refine vU λi _ hi=>?_;have hi:i<l.length:=by simp only at hi;omega
 have a:=h.link i hi;show(if (0<=(nth l i).f/\(nth l i).f<=m-1)/\(0<=(nth l i).t/\(nth l i).t<=m-1) then (if (nth l i).t<=(nth l i).f then 12 else if 0<i/\(nth l i).f<=(nth l (i-1)).f then 4 else fy (nth l i).r) else 11)=0
 rw[aJ',ax',ax (λg=>by have:=h.up i g.1 hi;omega)]
 exact a.2.2.2.2.1
abbrev XY(l:List Lk):V:=.slice (some 0) 4 (l.map Lk.row)
def azo{l:List Int}(hd:dz l k):∃r k',aX F 59 [.bu 0 0] [dk l k]=some (.agg [i64 r.n,XY r.l],[dk l k'])/\dz l k'/\kT r=0/\r.n<=6/\∀i,i<r.l.length->(nth r.l i).r.w.length<=5:=by
 suffices h:∀Q:V->List aM->Prop,(∀r k',dz l k'->kT r=0->r.n<=6->(∀i,i<r.l.length->(nth r.l i).r.w.length<=5)->Q (.agg [i64 r.n,XY r.l]) [dk l k'])->gz (aX F) 59 [.bu 0 0] [dk l k] Q by
  obtain⟨_,_,h,r,k',rfl,rfl,h1⟩:=h (λv G=>∃r k',v=.agg [i64 r.n,XY r.l]/\G=[dk l k']/\dz l k'/\kT r=0/\r.n<=6/\∀i,i<r.l.length->(nth r.l i).r.w.length<=5) λr k' a b c d=>⟨r,k',rfl,rfl,a,b,c,d⟩;exact⟨r,k',h,h1⟩
 intro Q hQ;refine gN rfl rfl ?_;obtain⟨a,k1,n1,iD,ha⟩:=fG hd 6 (by omega)
 obtain⟨m,hm⟩:∃m:Int,1+a=m:=⟨_,rfl⟩;simp (disch:=omega) [ad5,n1,hm];refine go_loop (λs:List Lk×Int×Nat=>ar7 (.bu 0 0) s.2.1 [i64 0,.cj] [i64 m,.slice (some 1036) 4 (s.1.map Lk.row)] s.1.length [dk l s.2.2])
  (λs=>Rm m s.1 s.2.1/\(0<=s.2.1/\s.2.1<m)/\dz l s.2.2) (λs=>(m-s.2.1).toNat) ([],0,k1) rfl (by simp) ⟨⟨by simp,by simp,by simp⟩,by simp only;omega,iD⟩ ?_
 rintro⟨ls,n,k⟩ ⟨h1,h2,hd⟩;simp only at h1 h2 hd;have la:=h1.len;obtain⟨b,k2,n2,fu,hb⟩:=fG hd 6 (by omega)
 simp (disch:=omega) [ad4];refine bO (λh6=>?_) (λh6=>?_)
 .by_cases h7:0<b
  .obtain⟨e,k3,n3,l9,he⟩:=fG fu (m-n-1) (by omega)
   obtain⟨r,k4,n4,tl,sd,pJ⟩:=azn l9;simp (disch:=omega) [n2,h7,n3,n4];exact bB (ls++[⟨n,n+1+e,r⟩],n+1,k4) (by simp) ⟨h1.snoc h2.1 rfl (by simp only;omega) (by simp only;omega) sd pJ,by simp only;omega,tl⟩ (by simp only;omega)
  .simp (disch:=omega) [n2,h7]
   exact bB (ls,n+1,k2) (by simp) ⟨h1.skip,by simp only;omega,fu⟩ (by simp only;omega)
 .refine hQ ⟨m,ls⟩ k hd (h1.nI (by omega)) (by simp only;omega) λi hi=>(h1.link i hi).2.2.2.2.2
structure Cm(c:Cs):Prop where
 nI:fm c=0
 n:c.r.n<=6
 s:c.s.length<=3
 w:∀i,i<c.r.l.length->(nth c.r.l i).r.w.length<=5
def Cm.small(h:Cm c):jO c.r:=by
 have:=(oj (oh h.nI).k).len;exact⟨by omega,λi hi=>by have:=h.w i hi;omega⟩
structure Sm(m:Int)(s:List Si)(l:List Ds)(n:Int):Prop where
 len:l.length=s.length
 three:s.length<=3
 site:∀i,i<s.length->(0<=(nth s i).n/\(nth s i).n<m/\(nth s i).n<n)/\gD (nth s i).d=0/\jq (nth s i).d (nth l i)
 up:∀i,0<i->i<s.length->(nth s (i-1)).n<(nth s i).n
abbrev QA(l:List Si):V:=.slice (some 0) 10 (l.map Si.row)
abbrev QB(l:List Ds):V:=.slice (some 0) 4 (l.map Ds.row)
variable{d:Dm}
def Sm.snoc{s:List Si}{l:List Ds}(h:Sm m s l n)(h3:s.length<3)(hn:0<=n/\n<m){x:Ds}(h1:gD d=0)(h2:jq d x):Sm m (s++[⟨n,d⟩]) (l++[x]) (n+1):=by
 refine⟨by simp[h.len],by simp;omega,λi hi=>?_,λi h0 hi=>?_⟩
 .simp at hi
  rw[jM,jM,h.len];split
  .have:=h.site i (by assumption)
   exact⟨by omega,this.2⟩
  .rw[aJ',aJ'];exact⟨by simp only;omega,h1,h2⟩
 .simp at hi
  rw[jM,jM,aJ']
  split
  .exact h.up i h0 (by assumption)
  .rw[aJ']
   exact(h.site (i-1) (by omega)).1.2.2
def Sm.skip{s:List Si}{l:List Ds}(h:Sm m s l n):Sm m s l (n+1) :=
 ⟨h.len,h.three,λi hi=>⟨by have:=h.site i hi;omega,(h.site i hi).2⟩,h.up⟩
def Sm.nI{s:List Si}{l:List Ds}(h:Sm r.n s l n)(hk:kT r=0)(h6:r.n<=6):fm ⟨r,s⟩=0:=by
 unfold fm;simp only;have h3:=h.three;rw[ax',ax',ax']
 refine vU λi _ hi=>?_;have hi:i<s.length:=by omega
 have a:=h.site i hi;show(if 0<=(nth s i).n/\(nth s i).n<r.n then (if 0<i/\(nth s i).n<=(nth s (i-1)).n then 4 else gD (nth s i).d) else 41)=0
 rw[aJ',ax (λg=>by have:=h.up i g.1 hi;omega)]
 exact a.2.1
def azp{l:List Int}(hd:dz l k):∃c s k',aX F 29 [.bu 0 0] [dk l k]=some (.tuple [.agg [i64 c.r.n,pW c.r.l,QA c.s],QB s],[dk l k'])/\dz l k'/\Cm c/\qD c s:=by
 suffices h:∀Q:V->List aM->Prop,(∀c s k',dz l k'->Cm c->qD c s->Q (.tuple [.agg [i64 c.r.n,pW c.r.l,QA c.s],QB s]) [dk l k'])->gz (aX F) 29 [.bu 0 0] [dk l k] Q by
  obtain⟨_,_,h,c,s,k',rfl,rfl,h1⟩:=h (λv G=>∃c s k',v=.tuple [.agg [i64 c.r.n,pW c.r.l,QA c.s],QB s]/\G=[dk l k']/\dz l k'/\Cm c/\qD c s) λc s k' a b d=>⟨c,s,k',rfl,rfl,a,b,d⟩;exact⟨c,s,k',h,h1⟩
 intro Q hQ;refine gN rfl rfl ?_;obtain⟨r,k1,n1,iD,hk,hn,hw⟩:=azo hd;have kS:=(oj hk).n;simp (disch:=omega) [ads,n1];refine go_loop (λs:List Si×List Ds×Int×Nat=>ari (.bu 0 0) (.slice (some 1043) 4 (s.2.1.map Ds.row)) s.2.2.1 [i64 0,.cj,.cj] [i64 r.n,pW r.l,.slice (some 1039) 10 (s.1.map Si.row)] s.1.length s.2.1.length [dk l s.2.2.2])
  (λs=>Sm r.n s.1 s.2.1 s.2.2.1/\(0<=s.2.2.1/\s.2.2.1<=r.n)/\dz l s.2.2.2) (λs=>(r.n-s.2.2.1).toNat) ([],[],0,k1) rfl (by simp) ⟨⟨rfl,by simp,by simp,by simp⟩,by simp only;omega,iD⟩ ?_
 rintro⟨s,d,n,k⟩ ⟨h1,h2,hd⟩;simp only at h1 h2 hd;have h3:=h1.three;have hl:=h1.len;have fin:Q (.tuple [.agg [i64 r.n,pW r.l,QA s],QB d]) [dk l k]:=hQ ⟨r,s⟩ d k hd ⟨h1.nI hk hn,hn,h3,hw⟩ ⟨hl,λi hi=>(h1.site i hi).2⟩;by_cases h4:n<r.n
 .by_cases h5:s.length<3
  .have tr:(s.length:Int)<3:=by omega
   obtain⟨b,k2,n2,fu,hb⟩:=fG hd 2 (by omega)
   by_cases h6:b=0
   .obtain⟨dd,x,k3,n3,l9,zL⟩:=ayB fu
    simp (disch:=omega) [KZ,h4,tr,n2,h6,n3];exact bB (s++[⟨n,dd⟩],d++[x],n+1,k3) (by simp[hl]) ⟨h1.snoc h5 (by omega) zL.nI zL.fit,by simp only;omega,l9⟩ (by simp only;omega)
   .simp (disch:=omega) [KZ,h4,tr,n2,h6]
    exact bB (s,d,n+1,k2) (by simp) ⟨h1.skip,by simp only;omega,fu⟩ (by simp only;omega)
  .have tr:¬ (s.length:Int)<3:=by omega
   simp (disch:=omega) [KZ,h4,tr];exact fin
 .simp (disch:=omega) [KZ,h4]
  exact fin
def XZ{l:List Int}(hd:dz l k)(hn:1<=c.r.n/\c.r.n<=40)(hs:c.s.length<=10) :
  ∃p k',aX F 31 [.bu 0 0,cs c] [dk l k]=some (.agg [zN p.a,zN p.b,zN p.c],[dk l k'])/\dz l k'/\pX c p/\fx p.a 30/\fx p.b 30/\fx p.c 30:=by
 suffices h:∀Q:V->List aM->Prop,(∀p k',dz l k'->pX c p->fx p.a 30->fx p.b 30->fx p.c 30->Q (.agg [zN p.a,zN p.b,zN p.c]) [dk l k'])->gz (aX F) 31 [.bu 0 0,cs c] [dk l k] Q by
  obtain⟨_,_,h,p,k',rfl,rfl,h1⟩:=h (λv G=>∃p k',v=.agg [zN p.a,zN p.b,zN p.c]/\G=[dk l k']/\dz l k'/\pX c p/\fx p.a 30/\fx p.b 30/\fx p.c 30) λp k' a b d e g=>⟨p,k',rfl,rfl,a,b,d,e,g⟩;exact⟨p,k',h,h1⟩
 intro Q hQ;refine gN rfl rfl ?_;obtain⟨⟨n,r⟩,s⟩:=c;simp only at hn hs;have snoc:∀{a:List Int} {x:Int},fx a 30->(0<=x/\x<=30)->fx (a++[x]) 30:=λh hx i hi=>by
  simp at hi;rw[jM];split
  .exact h i (by assumption)
  .rw[aJ'];exact hx
 simp (disch:=omega) [adx];refine go_loop (λy:List Int×Nat=>⟨[(0,.bu 0 0),(3,.bn 3 0),(4,.bn 4 0),(5,.bn 5 0),(8,i64 n),(9,i64 y.1.length)],[(3,[i64 n,pW r,ru s]),(4,[.cj,.cj,.cj]),(5,[.slice (some 1016) 1 (y.1.map λn=>[i64 n]),.cj,.cj])],[(1016,y.1.length)],[dk l y.2]⟩)
  (λy=>(y.1.length:Int)<=n/\fx y.1 30/\dz l y.2) (λy=>(n-y.1.length).toNat) ([],k) rfl (by simp) ⟨by simp;omega,λi hi=>by simp at hi,hd⟩ ?_
 rintro⟨a,k⟩ ⟨h1,h2,hd⟩;simp only at h1 h2 hd;obtain⟨x,k1,n1,iD,hx⟩:=fG hd 14 (by omega)
 simp (disch:=omega) [adv];refine bO (λh3=>?_) (λh3=>?_)
 .simp (disch:=omega) [n1]
  exact bB (a++[x],k1) (by simp) ⟨by simp;omega,snoc h2 (by omega),iD⟩ (by simp;omega)
 .refine go_loop (λy:List Int×List Int×Nat=>⟨[(0,.bu 0 0),(4,.bn 4 0),(5,.bn 5 0),(21,i64 s.length),(22,i64 y.1.length)],[(4,[.cj,.cj,.cj]),(5,[.slice (some 1016) 1 (a.map λn=>[i64 n]),.slice (some 1029) 1 (y.1.map λn=>[i64 n]),.slice (some 1035) 1 (y.2.1.map λn=>[i64 n])])],[(1016,a.length),(1029,y.1.length),(1035,y.2.1.length)],[dk l y.2.2]⟩)
   (λy=>y.1.length<=s.length/\y.2.1.length=y.1.length/\fx y.1 30/\fx y.2.1 30/\dz l y.2.2) (λy=>s.length-y.1.length) ([],[],k) rfl (by simp) ⟨by simp,rfl,λi hi=>by simp at hi,λi hi=>by simp at hi,hd⟩ ?_
  rintro⟨b,d,k⟩ ⟨g1,g2,g3,g4,hd⟩;simp only at g1 g2 g3 g4 hd;obtain⟨x,k1,n1,iD,hx⟩:=fG hd 3 (by omega)
  obtain⟨y,k2,n2,fu,hy⟩:=fG iD 30 (by omega)
  simp (disch:=omega) [adw];refine bO (λh4=>?_) (λh4=>?_)
  .simp (disch:=omega) [n1,n2,g2]
   exact bB (b++[x],d++[y],k2) (by simp[g2]) ⟨by simp;omega,by simp[g2],snoc g3 (by omega),snoc g4 (by omega),fu⟩ (by simp;omega)
  .refine hQ ⟨a,b,d⟩ k hd ⟨by simp only;omega,by simp only;omega,by simp only;omega⟩ h2 g3 g4
structure Co where
 arr:List Int
 d:List Ds
 w:List (List Int)
 re:List Dr
 lf:List Int
 cm:List Int
def sG(r:Dr):Int:=r.tur+r.spi+r.ovr
noncomputable def oN(c:Cs)(p:Sp)(v:Co)(k:Nat):Int:=match ni c.s k with
 |none=>0
 |some i=>qC (nth c.s i).d (nth v.d i) (nth v.arr k) (nth p.b i) (nth p.c i)
noncomputable def vR(c:Cs)(p:Sp)(v:Co)(k i:Nat):Dr:=nN (nth c.s i).d (nth v.d i) (nth v.arr k) (nth p.b i) (nth p.c i)
noncomputable def fX(c:Cs)(p:Sp)(v:Co)(k:Nat):Int:=match ni c.s k with
 |none=>nth v.arr k
 |some i=>sG (vR c p v k i)
noncomputable def vD(c:Cs)(p:Sp)(v:Co)(k:Nat):Co:=match ni c.s k with
 |none=>{ v with lf:=v.lf++[fX c p v k] }
 |some i=>{ v with d:=v.d.set i (oe (nth c.s i).d (nth v.d i) (nth v.arr k) (nth p.b i) (nth p.c i)),re:=v.re++[vR c p v k i],lf:=v.lf++[fX c p v k] }
noncomputable def ry(c:Cs)(v:Co)(x:Int)(k:Nat):Int:=match oi c.r.l k with
 |none=>0
 |some j=>iG (nth c.r.l j).r (nth v.w j) x
noncomputable def vL(c:Cs)(v:Co)(x:Int)(k:Nat):Co:=match oi c.r.l k with
 |none=>v
 |some j=>{ v with w:=v.w.set j (me (nth c.r.l j).r (nth v.w j) x),cm:=v.cm++[nO (nth c.r.l j).r (nth v.w j) x],arr:=v.arr.set (nth c.r.l j).t.toNat (nth v.arr (nth c.r.l j).t.toNat+nO (nth c.r.l j).r (nth v.w j) x) }
noncomputable def vE(c:Cs)(p:Sp)(v:Co)(k:Nat):Int:=if oN c p v k≠0 then oN c p v k else ry c v (fX c p v k) k
noncomputable def vS(c:Cs)(p:Sp)(v:Co)(k:Nat):Co:=vL c (vD c p v k) (fX c p v k) k
structure Vc(c:Cs)(p:Sp)(v:Co)(k:Nat):Prop where
 c0:fm c=0
 p:pX c p
 FQ:(v.arr.length:Int)=c.r.n
 arr:∀j,j<v.arr.length->0<=nth v.arr j/\nth v.arr j<=1073741824+1125899906842624*k
 d:qD c v.d
 w:FM c v.w
 rl:v.re.length<=k
 ll:v.lf.length=k
 cl:v.cm.length<=k
abbrev crs(c:Cs)(p:Sp)(t:Int)(v:Co):List V:=[i64 t,.cO 0 4 v.d.length,.cO 1 1 v.w.length,i64 c.r.n,pW c.r.l,ru c.s,ints p.a,ints p.b,ints p.c,.cO 2 1 v.arr.length,
 .eC 7 (v.re.map Dr.row),.eC 1 (v.lf.map λn=>[i64 n]),.eC 1 (v.cm.map λn=>[i64 n])]
abbrev Gc(c:Cs)(p:Sp)(t:Int)(v:Co)(J:List aM):List aM:=.cells (kU v.d)::.cells (nh v.w)::.cells (dM v.arr)::.cells (crs c p t v)::J
def QC{l:List Ds}{i:Nat}(h:i<l.length):((kU l).drop (i*4)).take 4=(nth l i).row:=XR (row:=Ds.row) (λ_=>rfl) h
def ajx{l:List Ds}{i:Nat}(h:i<l.length)(x:Ds):jE (kU l) (i*4) x.row=kU (l.set i x):=Qv (row:=Ds.row) (λ_=>rfl) h
def QD{l:List (List Int)}{i:Nat}(h:i<l.length):((nh l).drop i).take 1=[ints (nth l i)]:=by
 have:=XR (row:=λp=>[ints p]) (k:=1) (λ_=>rfl) h
 rwa [Gz]at this
def azr{l:List (List Int)}{i:Nat}(h:i<l.length)(x:List Int):jE (nh l) i [ints x]=nh (l.set i x):=by
 have:=Qv (row:=λp=>[ints p]) (k:=1) (λ_=>rfl) (x:=x) h
 rwa [Gz]at this
def wj{s:Ds}{b c:Int}(h:qC d s a b c=0):gD d=0/\jq d s/\(0<=a/\a<=1073741824)/\(0<=b/\b<=1073741824)/\(0<=c/\c<=1073741824):=by
 unfold qC at h;split at h
 next h1=>exact absurd h h1
 next h1=>
  split at h
  .cases h
  next h2=>
   have h1:dE d s=0:=jf h1;have hd:gD d=0:=by
    unfold dE at h1;split at h1
    next h3=>exact absurd h1 h3
    next h3=>exact jf h3
   simp only[Jg,Ji,AP,Ja,Ef,xo,decide_eq_false_iff_not,not_or,Classical.not_not]at h2;exact⟨hd,(Ix h1).2,h2.1,h2.2.1,h2.2.2⟩
def ajy{s:Ds}{b c:Int}(h:qC d s a b c=0):((0<=(nN d s a b c).tur/\(nN d s a b c).tur<=1073741824)/\(0<=(nN d s a b c).spi/\(nN d s a b c).spi<=17179869184)/\(0<=(nN d s a b c).ovr/\(nN d s a b c).ovr<=1073741824)) /\
  (0<=(nN d s a b c).los/\(nN d s a b c).los<=1073741824)/\(oe d s a b c).v=s.v+a-(nN d s a b c).los-sG (nN d s a b c):=by
 obtain⟨hd,hf,ha,hb,hc⟩:=wj h;have ub:=B5 hd;have p:=XC ub hf ha hb hc;have hv:=hf.1;have hL:eT s a b=s.v+a-min b (s.v+a):=rfl;have hO:wg d s a b c=max (eT s a b-(ic d s a b c+nM d s a b c)-mD d) 0:=rfl;have SP:=p.T0;have hTr:=p.Tr;have hP0:=p.P0;have hP1:=p.P1;have e1:(nN d s a b c).los=min b (s.v+a):=rfl;have e2:(nN d s a b c).tur=ic d s a b c:=rfl;have e3:(nN d s a b c).spi=nM d s a b c:=rfl;have e4:(nN d s a b c).ovr=wg d s a b c:=rfl;have e5:(oe d s a b c).v=eT s a b-(ic d s a b c+nM d s a b c)-wg d s a b c:=rfl;unfold sG;rw[e1,e2,e3,e4,e5];omega
variable{x:Int}
def IG{r:Rc}{p:List Int}(h:iG r p x=0):fy r=0/\jA r p/\(0<=x/\x<=1073741824)/\yn r p x:=by
 unfold iG at h;split at h
 next h1=>exact absurd h h1
 next h1=>
  split at h
  next h2=>
   split at h
   next h3=>exact⟨jf h1,h2,h3⟩
   .cases h
  .cases h
def IH{r:Rc}{p:List Int}(h:iG r p x=0):0<=nO r p x/\nO r p x<=1125899906842624:=by
 obtain⟨h1,h2,h3,h4⟩:=IG h;have hv:=xb h1;have q:=B6 hv h2 h3 0;have:=h4 0 (by have:=hv.pos;omega)
 have a:=Jb q.1 (show 0<=r.den by have:=hv.den;omega)
 have b:=MW r.den q.1;unfold nO;omega
def X0{l:List (List Int)}{i:Nat}(x:List Int):(nh l).set i (.slice none 1 (x.map λn=>[i64 n]))=nh (l.set i x):=by
 rcases cS i l.length with h|h
 .rw[<-azr h];rfl
 .rw[Gx (by simpa using h),Gx h]
set_option maxHeartbeats 4000000 in
def azs(hr:jO c.r){p:Sp}{v:Co}(h:Vc c p v k)(hk:k<v.arr.length)(t:Int)(J:List aM) :
  ∃G',aX F 157 [.bu 3 0,i64 k] (Gc c p t v J)=some (i64 (vE c p v k),G')/\(vE c p v k=0->G'=Gc c p t (vS c p v k) (J++[.cells [i64 k]])):=by
 suffices hh:∀Q:V->List aM->Prop,(∀G',(vE c p v k=0->G'=Gc c p t (vS c p v k) (J++[.cells [i64 k]]))->Q (i64 (vE c p v k)) G')->gz (aX F) 157 [.bu 3 0,i64 k] (Gc c p t v J) Q by
  obtain⟨_,G',h,rfl,h1⟩:=hh (λx G'=>x=i64 (vE c p v k)/\(vE c p v k=0->G'=Gc c p t (vS c p v k) (J++[.cells [i64 k]]))) λG' g=>⟨rfl,g⟩;exact⟨G',h,h1⟩
 intro Q hQ;refine gN rfl rfl ?_;have cv:=oh h.c0;generalize DZ:J++[aM.cells [i64 k]]=J' at hQ;have hJ:J'[J.length]?=some (.cells [i64 k]):=by rw[<-DZ];exact List.getElem?_concat_length
 have u9:∀G0 G1 G2 G3,aX F 188 [ru c.s,.fn 189 [.bu (J.length+1+1+1+1) 0]] (G0::G1::G2::G3::J')=some (i64 (xe (ni c.s k)),G0::G1::G2::G3::J') :=
  λG0 G1 G2 G3=>azd c.s (by have:=cv.s;omega) k (G:=G0::G1::G2::G3::J') hJ
 have vh:∀G0 G1 G2 G3,aX F 192 [pW c.r.l,.fn 193 [.bu (J.length+1+1+1+1) 0]] (G0::G1::G2::G3::J')=some (i64 (xe (oi c.r.l k)),G0::G1::G2::G3::J') :=
  λG0 G1 G2 G3=>aze c.r.l (by have:=(oj cv.k).len;omega) k (G:=G0::G1::G2::G3::J') hJ
 have X3:k<v.arr.length:=hk;have la:=h.ll;have aIn:k<=12:=by have:=h.FQ;have:=cv.n;omega
 have sZ:=h.rl;have dS:=h.cl;have HJ:∀j,oi c.r.l k=some j->j<c.r.l.length/\j<v.w.length/\(nth c.r.l j).t.toNat<v.arr.length/\0<=(nth c.r.l j).t:=λj hl=>by
  have hj:=(Ca hl).1;have qY:j<c.r.l.length:=by omega
  have:=(oj cv.k).link qY;have:=h.FQ;have:=h.w.1;omega
 cases hs:ni c.s k with
 |none =>
  have e0:oN c p v k=0:=by simp only[oN,hs]
  have e1:fX c p v k=nth v.arr k:=by simp only[fX,hs]
  have eE:vE c p v k=ry c v (nth v.arr k) k:=by rw[vE,e0,e1];rfl
  have e2:vS c p v k=vL c { v with lf:=v.lf++[nth v.arr k] } (nth v.arr k) k:=by rw[vS,vD,e1,hs]
  rw[hs]at u9;cases hl:oi c.r.l k with
  |none =>
   rw[hl]at vh;simp only[xe]at u9 vh;have e3:vE c p v k=0:=by rw[eE,ry,hl]
   rw[e3]at hQ;simp (disch:=omega) [-getElem?_pos,DG,u9,DZ,hJ,nG,vh];refine hQ _ λ_=>?_;rw[e2,vL,hl];simp
  |some j =>
   rw[hl]at vh;simp only[xe]at u9 vh;obtain⟨qY,nz,X4,hj4⟩:=HJ j hl;have hR:=aje (nth c.r.l j).r (hr.2 j qY) (nth v.w j) (by have:=(h.w.2 j qY).2.1;have:=(xb (h.w.2 j qY).1).len;omega) (nth v.arr k)
   have e3:vE c p v k=iG (nth c.r.l j).r (nth v.w j) (nth v.arr k):=by rw[eE,ry,hl]
   rw[e3]at hQ;by_cases hz:iG (nth c.r.l j).r (nth v.w j) (nth v.arr k)=0
   .have ho:=IH hz
    have ha:=h.arr (nth c.r.l j).t.toNat X4;rw[Mf hz]at hR;rw[hz]at hQ;simp (disch:=omega) [-getElem?_pos,DG,u9,DZ,hJ,nG,vh,bc (l:=c.r.l),QD,X0,hR];refine hQ _ λ_=>?_;rw[e2,vL,hl];simp
   .rw[FL rfl hz]at hR
    simp (disch:=omega) [-getElem?_pos,DG,u9,DZ,hJ,nG,vh,bc (l:=c.r.l),QD,hR,hz];exact hQ _ λg=>absurd g hz
 |some i =>
  rw[hs]at u9;have hi:=(Ca hs).1;have X5:i<c.s.length:=by omega
  have pK:i<v.d.length:=by have:=h.d.1;omega
  have hpb:i<p.b.length:=by have:=h.p;unfold pX at this;omega
  have hpc:i<p.c.length:=by have:=h.p;unfold pX at this;omega
  obtain⟨Ga,hS⟩:=ayr (nth c.s i).d (nth v.d i) (nth v.arr k) (nth p.b i) (nth p.c i);by_cases he:qC (nth c.s i).d (nth v.d i) (nth v.arr k) (nth p.b i) (nth p.c i)=0
  .have X6:=(ajy he).1
   have e0:oN c p v k=0:=by simp only[oN,hs,he]
   have e1:fX c p v k=sG (vR c p v k i):=by simp only[fX,hs]
   have eE:vE c p v k=ry c v (sG (vR c p v k i)) k:=by rw[vE,e0,e1];rfl
   have e2:vS c p v k=vL c { v with d:=v.d.set i (oe (nth c.s i).d (nth v.d i) (nth v.arr k) (nth p.b i) (nth p.c i)),re:=v.re++[vR c p v k i],lf:=v.lf++[sG (vR c p v k i)] } (sG (vR c p v k i)) k:=by rw[vS,vD,e1,hs]
   rw[wh,aJ he]at hS;unfold vR at eE e2;generalize oe (nth c.s i).d (nth v.d i) (nth v.arr k) (nth p.b i) (nth p.c i)=S' at hS e2;generalize nN (nth c.s i).d (nth v.d i) (nth v.arr k) (nth p.b i) (nth p.c i)=R' at hS X6 eE e2;have hF:=ayv R' (by omega) (by omega) (by omega)
   rw[show R'.tur+R'.spi+R'.ovr=sG R' from rfl]at hF;have eI:((((kU v.d).set (i*4) (i64 S'.v)).set (i*4+1) (i64 S'.rel)).set (i*4+1+1) (lF S'.u)).set (i*4+1+1+1) (lq S'.g)=kU (v.d.set i S'):=ajx pK S';cases hl:oi c.r.l k with
   |none =>
    rw[hl]at vh;simp only[xe]at u9 vh;have e3:vE c p v k=0:=by rw[eE,ry,hl]
    rw[e3]at hQ;simp (disch:=omega) [-getElem?_pos,DG,u9,DZ,hJ,nG,vh,bc (l:=c.s),dQ (l:=p.b),dQ (l:=p.c),QC,hS,hF,eI];refine hQ _ λ_=>?_;rw[e2,vL,hl];simp
   |some j =>
    rw[hl]at vh;simp only[xe]at u9 vh;obtain⟨qY,nz,X4,hj4⟩:=HJ j hl;have hR:=aje (nth c.r.l j).r (hr.2 j qY) (nth v.w j) (by have:=(h.w.2 j qY).2.1;have:=(xb (h.w.2 j qY).1).len;omega) (sG R')
    have e3:vE c p v k=iG (nth c.r.l j).r (nth v.w j) (sG R'):=by rw[eE,ry,hl]
    rw[e3]at hQ;by_cases hz:iG (nth c.r.l j).r (nth v.w j) (sG R')=0
    .have ho:=IH hz
     have ha:=h.arr (nth c.r.l j).t.toNat X4;rw[Mf hz]at hR;rw[hz]at hQ;simp (config:={ maxSteps:=2000000 }) +contextual (disch:=omega) [-getElem?_pos,-List.length_eq_zero_iff,-Int.natCast_eq_zero,wrap64,DG,u9,DZ,hJ,nG,vh,bc (l:=c.r.l),QD,X0,hR,bc (l:=c.s),dQ (l:=p.b),dQ (l:=p.c),QC,hS,hF,eI];refine hQ _ λ_=>?_;rw[e2,vL,hl];simp
    .rw[FL rfl hz]at hR
     simp (config:={ maxSteps:=2000000 }) +contextual (disch:=omega) [-getElem?_pos,-List.length_eq_zero_iff,-Int.natCast_eq_zero,wrap64,DG,u9,DZ,hJ,nG,vh,bc (l:=c.r.l),QD,hR,hz,bc (l:=c.s),dQ (l:=p.b),dQ (l:=p.c),QC,hS,hF,eI];exact hQ _ λg=>absurd g hz
  .rw[wh,ax he]at hS
   simp only[xe]at u9;have e3:vE c p v k=qC (nth c.s i).d (nth v.d i) (nth v.arr k) (nth p.b i) (nth p.c i):=by
    have:oN c p v k=qC (nth c.s i).d (nth v.d i) (nth v.arr k) (nth p.b i) (nth p.c i):=by simp only[oN,hs]
    rw[vE,this,aJ he]
   rw[e3]at hQ;have he':=decide_eq_false he;simp (disch:=omega) [-getElem?_pos,DG,u9,DZ,hJ,nG,vh,bc (l:=c.s),dQ (l:=p.b),dQ (l:=p.c),QC,hS,he'];exact hQ _ λg=>absurd g he
end
def ajA{f:Nat->Int}:∀n,oM f n<=n
 |0=>b8 _
 |n+1=>by
  unfold oM;split
  .exact Nat.le_succ_of_le (ajA n)
  .exact b8 _
def ajB{f:Nat->Int}:∀n,0<oM f n->f (oM f n-1)≠0
 |0,h=>by simp[oM]at h
 |n+1,h=>by
  unfold oM at h ⊢;split
  next h1=>rw[aJ h1]at h;exact ajB n h
  next h1=>exact h1
variable{i:Nat}
def ajC{f:Nat->Int}{n:Nat}(h:i<n):nth ((List.range n).map f) i=f i:=by
 simp[nth,h]
def ajD{r:Rc}{p:List Int}{x:Int}(h:iG r p x=0):jA r (me r p x):=by
 obtain⟨h1,h2,h3,h4⟩:=IG h;have hv:=xb h1;have hl:(me r p x).length=oM (rN r p x) r.w.length:=by simp[me]
 have hle:=ajA (f:=rN r p x) r.w.length;have hn:∀i,i<oM (rN r p x) r.w.length->nth (me r p x) i=rN r p x i:=λi hi=>ajC hi;refine⟨by omega,λh0=>?_,λi hi=>?_⟩
 .rw[hl]at h0 ⊢
  rw[hn _ (by omega)]
  exact ajB _ h0
 .rw[hn i (by omega)]
  have hd:=hv.den;have q0:=B6 hv h2 h3 0;have hb:∀k,k<=r.w.length->0<=rq r p x k/\rq r p x k<=1125899906842624:=λk hk=>by
   rcases cS k r.w.length with g|g
   .exact⟨(B6 hv h2 h3 k).1,h4 k g⟩
   .have e:rq r p x k=0:=by unfold rq;rw[yo g,yo (by have:=h2.1;omega)];simp
    rw[e];omega
  unfold rN;split
  .have:=hb 1 hv.pos
   have:=RJ (rq r p x 0) (show r.den≠0 by omega)
   have:=RI (rq r p x 0) (show 0<r.den by omega)
   omega
  .have:=hb (i+1) (by omega)
   omega
def QE{α:Type}[Inhabited α]{l:List α}{j:Nat}{x:α}(h:i<l.length):nth (l.set i x) j=if j=i then x else nth l j:=xd h
variable{c:Cs}{p:Sp}{v:Co}{k:Nat}
def ajE(he:vE c p v k=0):oN c p v k=0/\ry c v (fX c p v k) k=0:=by
 unfold vE at he;split at he
 next h1=>exact absurd he h1
 next h1=>exact⟨jf h1,he⟩
def Mn:(vD c p v k).arr=v.arr/\(vD c p v k).w=v.w/\(vD c p v k).cm=v.cm/\(vD c p v k).lf=v.lf++[fX c p v k]:=by
 unfold vD;cases ni c.s k<;>exact⟨rfl,rfl,rfl,rfl⟩
def azw(h:qD c v.d)(h0:oN c p v k=0):qD c (vD c p v k).d:=by
 unfold vD;unfold oN at h0;cases hs:ni c.s k with
 |none=>exact h
 |some i =>
  rw[hs]at h0;have hi:=(Ca hs).1;have pK:i<v.d.length:=by have:=h.1;omega
  obtain⟨g1,g2,ga,gb,gc⟩:=wj h0;refine⟨by simp only[qI];exact h.1,λj hj=>?_⟩
  rw[QE pK];by_cases e:j=i
  .rw[aJ e,e]
   exact⟨g1,ayH (B5 g1) g2 ga gb gc⟩
  .rw[ax e]
   exact h.2 j hj
def Vc.next(h:Vc c p v k)(he:vE c p v k=0):Vc c p (vS c p v k) (k+1):=by
 have cv:=oh h.c0;obtain⟨h0,hL⟩:=ajE he;obtain⟨s1,s2,s3,s4⟩:=Mn (c:=c) (p:=p) (v:=v) (k:=k);have hd:=azw h.d h0;have II:(vD c p v k).re.length<=k+1:=by
  have:=h.rl;unfold vD;cases ni c.s k<;>simp<;>omega
 have la:=h.ll;have dS:=h.cl;unfold vS vL;unfold ry at hL;cases hl:oi c.r.l k with
 |none =>
  refine⟨h.c0,h.p,by rw[s1];exact h.FQ,λj hj=>?_,hd,by rw[s2];exact h.w,II,by rw[s4];simp;omega,by rw[s3];omega⟩
  rw[s1]at hj ⊢;have:=h.arr j hj;omega
 |some j =>
  rw[hl]at hL;have hj:=(Ca hl).1;have hjw:j<v.w.length:=by have:=h.w.1;omega
  have ho:=IH hL;have hf:=ajD hL;have hc:=(IG hL).1;simp only[s1,s2,s3,s4];refine⟨h.c0,h.p,by simp only[qI];exact h.FQ,λi hi=>?_,hd,⟨by simp only[qI];exact h.w.1,λi hi=>?_⟩,II,by simp;omega,by simp;omega⟩
  .simp only[qI]at hi
   have IJ:=h.arr i hi;by_cases e:i=(nth c.r.l j).t.toNat
   .subst e
    rw[QE hi,aJ rfl];exact⟨Int.add_nonneg IJ.1 ho.1,CE (Int.add_le_add IJ.2 ho.2) (by omega)⟩
   .rcases cS (nth c.r.l j).t.toNat v.arr.length with g|g
    .rw[QE g,ax e];exact⟨IJ.1,CE IJ.2 (by omega)⟩
    .rw[Gx g];exact⟨IJ.1,CE IJ.2 (by omega)⟩
  .rw[QE hjw]
   by_cases e:i=j
   .rw[aJ e,e]
    exact⟨hc,hf⟩
   .rw[ax e]
    exact h.w.2 i hi
noncomputable def cR(c:Cs)(p:Sp)(f:Fl):Nat->Co
 |0=>⟨p.a,f.d,f.w,[],[],[]⟩
 |k+1=>vS c p (cR c p f k) k
noncomputable def fB(c:Cs)(f:Fl)(p:Sp):Int :=
 if pX c p then (if fx (p.a++p.b++p.c) 1073741824 then (if f.t=16777216 then 6 else dH (λk=>vE c p (cR c p f k) k) c.r.n.toNat 0) else 1) else 3
structure Ps where
 re:List Dr
 lf:List Int
 cm:List Int
abbrev Ps.row(x:Ps):List V:=[.slice none 7 (x.re.map Dr.row),ints x.lf,ints x.cm]
abbrev ps(x:Ps):V:=.agg x.row
noncomputable def ue(c:Cs)(f:Fl)(p:Sp):Fl:=⟨f.t+1,(cR c p f c.r.n.toNat).d,(cR c p f c.r.n.toNat).w⟩
noncomputable def Cg(c:Cs)(f:Fl)(p:Sp):Ps:=⟨(cR c p f c.r.n.toNat).re,(cR c p f c.r.n.toNat).lf,(cR c p f c.r.n.toNat).cm⟩
abbrev paX(e:Int):V:=.tuple [.agg [i64 0,.slice (some 0) 4 [],.slice (some 0) 1 []],.agg [.slice (some 0) 7 [],.slice (some 0) 1 [],.slice (some 0) 1 []],i64 e]
noncomputable def D0(c:Cs)(f:Fl)(p:Sp)(e:Int):V:=if e=0 then .tuple [fl (ue c f p),ps (Cg c f p),i64 0] else paX e
def ajF{l:List Int}:(l.any λx => !decide (0<=x/\x<=1073741824)) = !decide (fx l 1073741824):=by
 by_cases h:fx l 1073741824
 .rw[fJ h]
  refine py.2 λx hx=>?_;obtain⟨i,hi,rfl⟩:=Zw.1 hx;have:=h i hi;rw[show nth l i=l[i] by simp[nth,hi]]at this
  simp;exact this
 .rw[decide_eq_false h]
  cases hb:l.any λx => !decide (0<=x/\x<=1073741824) with
  |true=>rfl
  |false =>
   refine absurd (λi hi=>?_) h;have:=py.1 hb (nth l i) (tY hi);simpa using this
def vc0{f:Fl}(hc:fm c=0)(hf:e8 c f)(hp:pX c p)(ha:fx (p.a++p.b++p.c) 1073741824):Vc c p (cR c p f 0) 0:=by
 refine⟨hc,hp,hp.1,λj hj=>?_,hf.2.1,hf.2.2,by simp[cR],by simp[cR],by simp[cR]⟩
 have hj:j<p.a.length:=hj;have:=ha j (by simp;omega)
 rw[tW (by simp;omega),tW hj]at this
 show 0<=nth p.a j/\nth p.a j<=_;omega
def vcs{c:Cs}{f:Fl}{p:Sp}(hc:fm c=0)(hf:e8 c f)(hp:pX c p)(ha:fx (p.a++p.b++p.c) 1073741824):∀{k:Nat},(∀j,j<k->vE c p (cR c p f j) j=0)->Vc c p (cR c p f k) k
 |0,_=>vc0 hc hf hp ha
 |k+1,h=>(vcs hc hf hp ha λj hj=>h j (by omega)).next (h k (by omega))
section
attribute [local simp] mX mY lX mW
def QF{c:Cs}{l:List (List Int)}(hk:kT c.r=0)(h:FM c l):XT l:=by
 have hl:=(oj hk).len;refine⟨by have:=h.1;omega,λi hi=>?_⟩
 have sY:i<c.r.l.length:=by have:=h.1;omega
 have:=(h.2 i sY).2.1;have:=(xb (h.2 i sY).1).len;omega
def azC{id t:Nat}{l:List Int}(hl:l≠[]):lP id 0 (.slice (some t) 1 (l.map λn=>[V.int .i64 n]))=some (.bY id 1 l.length,some (dM l)):=by
 have h:=acB (id:=id) (t:=t) (l:=l) (vs:=[]) rfl hl;simp[lP,h]
def azD{p:List Int}:(dM p).all V.sc=true:=by simp[dM,V.sc]
variable{f:Fl}
set_option maxHeartbeats 2000000 in
def ajG{c:Cs}(hr:jO c.r)(hc:fm c=0)(hf:e8 c f)(p:Sp):∃G',aX F 115 [cs c,fl f,sv p] []=some (D0 c f p (fB c f p),G'):=by
 suffices h:∀Q:V->Prop,Q (D0 c f p (fB c f p))->gz (aX F) 115 [cs c,fl f,sv p] [] λv _=>Q v by
  obtain⟨_,G',h,rfl⟩:=h (λv=>v=D0 c f p (fB c f p)) rfl;exact⟨G',h⟩
 intro Q hQ;refine gN rfl rfl ?_;have cv:=oh hc;have kv:=oj cv.k;have vg:=azh c p;by_cases h1:pX c p
 case neg =>
  rw[show fB c f p=3 by unfold fB;rw[ax h1]]at hQ
  simp (disch:=omega) [Lf,vg,h1];exact hQ
 have uG:p.a.length<=12:=by have:=h1.1;have:=cv.n;omega
 have xa:p.b.length<=6:=by have:=h1.2.1;have:=cv.s;omega
 have dS:p.c.length<=6:=by have:=h1.2.2;have:=cv.s;omega
 have h2:=azg p.a p.b p.c (by omega)
 have h3:=Qn (p.a++p.b++p.c) (by simp;omega) (λx => !decide (0<=x/\x<=1073741824)) 156 [] (λn=>azf n [])
 rw[ajF]at h3;by_cases h4:fx (p.a++p.b++p.c) 1073741824
 case neg =>
  rw[show fB c f p=1 by unfold fB;rw[aJ h1,ax h4]]at hQ
  rw[decide_eq_false h4]at h3;generalize p.a++p.b++p.c=L at h2 h3;simp (disch:=omega) [Lf,vg,h1,h2,h3];exact hQ
 rw[fJ h4]at h3;have e4:=h4;generalize p.a++p.b++p.c=L at h2 h3;by_cases h5:f.t=16777216
 .rw[show fB c f p=6 by unfold fB;rw[aJ h1,aJ e4,aJ h5]]at hQ
  simp (disch:=omega) [Lf,vg,h1,h2,h3,h5];exact hQ
 have h6:fB c f p=dH (λk=>vE c p (cR c p f k) k) c.r.n.toNat 0:=by unfold fB;rw[aJ h1,aJ e4,ax h5]
 have h7:=ajn f.d (IE hc hf.2.1) [];have h8:=ajo f.w (QF cv.k hf.2.2) [.cells (kU f.d)];have h9:=Qz p.a (by omega)
 have azE:=hf.1;have azF:p.a≠[]:=λg=>by have:=h1.1;rw[g]at this;have:=kv.n;simp at *;omega
 have QG:0<p.a.length:=by have:=h1.1;have:=kv.n;omega
 simp (disch:=omega) [Lf,vg,h1,h2,h3,h5,h7,h8,h9,azC azF,azD,QG];have Aj:=kv.n;refine go_loop (λx:Nat×List aM=>atA (.bu 3 0) c.r.n x.1 [z0,.cj,.cj] [.cj,.cj,.cj] (Gc c p (f.t+1) (cR c p f x.1) x.2))
  (λx=>x.1<=c.r.n.toNat/\(∀j,j<x.1->vE c p (cR c p f j) j=0)/\dH (λk=>vE c p (cR c p f k) k) (c.r.n.toNat-x.1) x.1=fB c f p) (λx=>c.r.n.toNat-x.1) (0,[]) rfl (by simp[cR]) ⟨by omega,by simp,h6.symm⟩ ?_
 rintro⟨k,J⟩ ⟨hk,hz,hq⟩;simp only at hk hz hq;have IK:=vcs hc hf h1 e4 hz;simp (disch:=omega) [ae8];refine bO (λil=>?_) (λil=>?_)
 .have kS:k<c.r.n.toNat:=by omega
  have X3:k<(cR c p f k).arr.length:=by have:=IK.FQ;omega
  obtain⟨G',hv,X7⟩:=azs hr IK X3 (f.t+1) J;rw[kl kS]at hq;by_cases C4:vE c p (cR c p f k) k=0
  .obtain rfl:=X7 C4
   rw[aJ C4]at hq;rw[C4]at hv;simp (disch:=omega) [hv];refine bB (k+1,J++[.cells [i64 k]]) (by simp[cR]) ⟨by simp only;omega,λj hj=>?_,hq⟩ (by simp only;omega)
   rcases cS j k with g|g
   .exact hz j g
   .rwa [show j=k by simp only at hj;omega]
  .rw[ax C4]at hq
   rw[<-hq,D0,ax C4]at hQ;simp (disch:=omega) [hv,C4];exact hQ
 .obtain rfl:k=c.r.n.toNat:=by omega
  rw[l7]at hq;rw[<-hq,D0,aJ rfl]at hQ;simp (disch:=omega) [B9,FO];exact hQ
abbrev ajH(t:Option Nat)(e:Int):V:=.tuple [.agg [i64 0,.slice t 4 [],.slice t 1 []],.agg [.slice t 7 [],.slice t 1 [],.slice t 1 []],i64 e]
noncomputable def qE(c:Cs)(f:Fl)(p:Sp):Int:=if lu c f≠0 then lu c f else fB c f p
noncomputable def wm(t:Option Nat)(c:Cs)(f:Fl)(p:Sp):V:=if qE c f p=0 then .tuple [fl (ue c f p),ps (Cg c f p),i64 0] else ajH t (qE c f p)
def E9{c:Cs}(h:lu c f=0):fm c=0/\e8 c f:=by
 unfold lu at h;split at h
 next h1=>exact absurd h h1
 next h1=>
  split at h
  .exact⟨jf h1,by assumption⟩
  .cases h
def azG{c:Cs}(hr:jO c.r)(hf:mf f)(p:Sp):∃t G',aX F 70 [cs c,fl f,sv p] []=some (wm t c f p,G'):=by
 have hd:=ajg c hr f hf;by_cases hz:lu c f=0
 .obtain⟨h1,h2⟩:=E9 hz
  obtain⟨Ga,hp⟩:=ajG hr h1 h2 p;have e:qE c f p=fB c f p:=by unfold qE;rw[ax']
  refine⟨none,[],?_⟩;unfold wm;rw[e];unfold D0 at hp;by_cases h3:fB c f p=0
  .rw[aJ h3]at hp ⊢
   refine bD rfl rfl ?_;simp[O5,hd,hz,hp]
  .rw[ax h3]at hp ⊢
   refine bD rfl rfl ?_;simp[O5,hd,hz,hp]
 .have e:qE c f p=lu c f:=by unfold qE;rw[aJ hz]
  refine⟨some 0,[],?_⟩;unfold wm;rw[e,ax hz];refine bD rfl rfl ?_;simp[O5,hd,hz]
def Ci(g:Nat->Int)(n:Nat)(m:Nat)(k:Int):Prop:=m<=n/\(∀j,j<m->g j<k)/\∀j,m<=j->j<n->k<=g j
variable{g:Nat->Int}{n m i:Nat}
def AU{k:Int}(h:Ci g n m k)(P2:∀j,0<j->j<n->g (j-1)<g j)(hi:i<n)(hg:g i=k):i=m/\Ci g n (m+1) (k+1):=by
 have ajI:∀a d,a+d+1<n->g a<g (a+d+1):=λa d=>by
  induction d with
  |zero=>intro hd;have:=P2 (a+0+1) (by omega) hd;simpa using this
  |succ d ih =>
   intro hd;have h1:=ih (by omega)
   have h2:=P2 (a+(d+1)+1) (by omega) hd
   rw[show a+(d+1)+1-1=a+d+1 by omega]at h2
   omega
 have hmi:m<=i:=by
  rcases cS i m with g1|g1
  .have:=h.2.1 i g1;omega
  .exact g1
 have him:i=m:=by
  rcases cS m i with g1|g1
  .have h1:=ajI m (i-m-1) (by omega)
   rw[show m+(i-m-1)+1=i by omega]at h1
   have:=h.2.2 m (b8 _) (by omega)
   omega
  .omega
 subst him;refine⟨rfl,by omega,λj hj=>?_,λj hj hn=>?_⟩
 .rcases cS j i with g1|g1
  .have:=h.2.1 j g1;omega
  .rw[show j=i by omega];omega
 .have h1:=ajI i (j-i-1) (by omega)
  rw[show i+(j-i-1)+1=j by omega]at h1
  omega
def ajJ{k:Int}(h:Ci g n m k)(hg:∀i,i<n->g i≠k):Ci g n m (k+1) :=
 ⟨h.1,λj hj=>by have:=h.2.1 j hj;omega,λj hj hn=>by have:=h.2.2 j hj hn;have:=hg j hn;omega⟩
def ajK(h:∀j,j<n->0<=g j):Ci g n 0 0:=⟨by omega,by omega,λj _ hj=>h j hj⟩
def ajL{k:Int}(h:Ci g n m k)(hk:∀j,j<n->g j<k):m=n:=by
 have h1:=h.1;rcases cS m n with g1|g1
 .have:=h.2.2 m (b8 _) g1
  have:=hk m g1;omega
 .omega
abbrev wo(c:Cs):Nat->Int:=λi=>(nth c.s i).n
abbrev Cj(c:Cs):Nat->Int:=λi=>(nth c.r.l i).f
def AV{c:Cs}(h:AS c)(hi:i<c.s.length):(0<=wo c i/\wo c i<c.r.n)/\(0<i->wo c (i-1)<wo c i)/\gD (nth c.s i).d=0:=by
 have he:=h.site i hi;unfold B8 at he;simp only at he;split at he
 .split at he
  .cases he
  next h1 h2=>
   refine⟨h1,λh0=>?_,he⟩;show(nth c.s (i-1)).n<(nth c.s i).n;omega
 .cases he
structure Vo(c:Cs)(v:Co)(k:Nat):Prop where
 s:Ci (wo c) c.s.length v.re.length k
 l:Ci (Cj c) c.r.l.length v.cm.length k
variable{k:Nat}
def QH{c:Cs}(h:ni c.s k=none):∀i,i<c.s.length->wo c i≠k:=λi hi=>by
 have:=XU h i (by omega) (by omega)
 simpa using this
def AW{c:Cs}(h:ni c.s k=some i):i<c.s.length/\wo c i=k:=by
 have:=Ca h;exact⟨by omega,by simpa using this.2.1⟩
def ajM{c:Cs}(h:oi c.r.l k=none):∀i,i<c.r.l.length->Cj c i≠k:=λi hi=>by
 have:=XU h i (by omega) (by omega)
 simpa using this
def D1{c:Cs}(h:oi c.r.l k=some i):i<c.r.l.length/\Cj c i=k:=by
 have:=Ca h;exact⟨by omega,by simpa using this.2.1⟩
def vo0{c:Cs}(h:AS c)(p:Sp)(f:Fl):Vo c (cR c p f 0) 0 :=
 ⟨ajK λj hj=>(AV h hj).1.1,ajK λj hj=>((oj h.k).link hj).1.1⟩
def Vo.next{c:Cs}(hc:AS c){p:Sp}{v:Co}(h:Vo c v k):Vo c (vS c p v k) (k+1):=by
 obtain⟨s1,s2,s3,s4⟩:=Mn (c:=c) (p:=p) (v:=v) (k:=k);have hs:Ci (wo c) c.s.length (vD c p v k).re.length (k+1:Int):=by
  unfold vD;cases hs:ni c.s k with
  |none=>exact ajJ h.s (QH hs)
  |some i =>
   obtain⟨a,b⟩:=AW hs;simp only[jQ,rQ];exact(AU h.s (λj h0 hj=>(AV hc hj).2.1 h0) a b).2
 unfold vS vL;cases hl:oi c.r.l k with
 |none =>
  refine⟨hs,?_⟩;rw[s3];exact ajJ h.l (ajM hl)
 |some j =>
  obtain⟨a,b⟩:=D1 hl;refine⟨hs,?_⟩;simp only[s3,jQ,rQ];exact(AU h.l (λj h0 hj=>((oj hc.k).link hj).2.1 h0) a b).2
def Mo{c:Cs}(hc:AS c)(p:Sp)(f:Fl):∀k,Vo c (cR c p f k) k
 |0=>vo0 hc p f
 |k+1=>(Mo hc p f k).next hc
def X8{c:Cs}(hc:AS c)(p:Sp)(f:Fl):(cR c p f c.r.n.toNat).re.length=c.s.length/\(cR c p f c.r.n.toNat).cm.length=c.r.l.length:=by
 have h:=Mo hc p f c.r.n.toNat;have hn:=(oj hc.k).n;exact⟨ajL h.s λj hj=>by have:=(AV hc hj).1;omega,ajL h.l λj hj=>by have:=((oj hc.k).link hj).1;show(nth c.r.l j).f<_;omega⟩
end
def pad{α:Type}(d:α)(l:List α)(n:Nat):List α:=l++List.replicate (n-l.length) d
variable{α:Type}{n:Nat}
def QI{d:α}{l:List α}(h:l.length<=n):(pad d l n).length=n:=by simp[pad];omega
def X9{d:α}{l:List α}(h:l.length=n):pad d l n=l:=by simp[pad,h]
variable{i:Nat}
def Ya{d x:α}{l:List α}(hi:i=l.length)(h:l.length<n):(pad d l n).set i x=pad d (l++[x]) n:=by
 subst hi;unfold pad;obtain⟨m,hm⟩:∃m,n-l.length=m+1:=⟨n-l.length-1,by omega⟩
 rw[hm,CM,wz _ _ (b8 _),pA,En,jQ,rQ,show n-(l.length+1)=m by omega,ov,ZB]
def D2:Dr:=⟨0,0,0,0,0,0,0⟩
def yr(l:List Dr):List V:=(l.map Dr.row).flatten
variable{l:List Dr}
@[simp] theorem aIq:(yr l).length=l.length*7:=Qu (row:=Dr.row) (λ_=>rfl) l
@[simp] theorem aIr{d:Nat}:((yr l).all λv => !V.cQ d v)=true:=Qy (row:=Dr.row) (λa=>by simp) l
def azJ:(List.replicate n [V.int .i64 0,V.int .i64 0,V.int .i64 0,V.int .i64 0,V.int .i64 0,V.int .i64 0,V.int .i64 0]).flatten=yr (pad D2 [] n):=by
 simp[yr,pad,M9,D2]
def azK(h:n=l.length):ju [none,none,none,none,none,none,none] (chunks 7 (yr l) 0 n)=some (l.map Dr.row):=by
 subst h;rw[Qw (row:=Dr.row) (λ_=>rfl) rfl];exact Qx (λa=>by simp) l
def azL:List.replicate n z0=dM (pad 0 [] n):=by simp[pad,dM]
variable{c:Cs}{x:Int}{k:Nat}
def ajN{u:Co}:(vL c u x k).re=u.re/\(vL c u x k).lf=u.lf/\(vL c u x k).d=u.d:=by
 unfold vL;cases oi c.r.l k<;>exact⟨rfl,rfl,rfl⟩
def ajO{u v:Co}(h1:u.arr=v.arr)(h2:u.w=v.w)(h3:u.cm=v.cm):(vL c u x k).arr=(vL c v x k).arr/\(vL c u x k).w=(vL c v x k).w/\(vL c u x k).cm=(vL c v x k).cm:=by
 unfold vL;cases oi c.r.l k
 .exact⟨h1,h2,h3⟩
 .simp only[h1,h2,h3,and_self]
variable{m:Int}
def azM{l:List Int}:fx l m<->∀x∈l,0<=x/\x<=m:=by
 refine⟨λh x hx=>?_,λh i hi=>h _ (tY hi)⟩;obtain⟨i,hi,rfl⟩:=Zw.1 hx;have:=h i hi
 rwa [show nth l i=l[i] by simp[nth,hi]]at this
def ajP{a b:List Int}:fx (a++b) m<->fx a m/\fx b m:=by
 simp only[azM,ka];exact⟨λh=>⟨λx hx=>h x (.inl hx),λx hx=>h x (.inr hx)⟩,λh x hx=>hx.elim (h.1 x) (h.2 x)⟩
def azN(h:i<l.length)(x:Dr):jE (yr l) (i*7) x.row=yr (l.set i x):=Qv (row:=Dr.row) (λ_=>rfl) h
structure Vf(f:Fl)(v:Co):Prop where
 d:v.d.length=f.d.length/\∀i,v.re.length<=i->nth v.d i=nth f.d i
 w:v.w.length=f.w.length/\∀i,v.cm.length<=i->nth v.w i=nth f.w i
def Vf.next(hc:AS c){p:Sp}{f:Fl}{v:Co}(h:Vf f v)(ho:Vo c v k):Vf f (vS c p v k):=by
 obtain⟨s1,s2,s3,s4⟩:=Mn (c:=c) (p:=p) (v:=v) (k:=k);have hd:(vD c p v k).d.length=f.d.length/\∀i,(vD c p v k).re.length<=i->nth (vD c p v k).d i=nth f.d i:=by
  unfold vD;cases hs:ni c.s k with
  |none=>exact h.d
  |some i =>
   obtain⟨a,b⟩:=AW hs;have e:=(AU ho.s (λj h0 hj=>(AV hc hj).2.1 h0) a b).1;refine⟨by simp only[qI];exact h.d.1,λj hj=>?_⟩
   simp only[jQ,rQ]at hj;show nth (v.d.set i _) j=nth f.d j;rcases cS i v.d.length with g|g
   .rw[xd g,ax']
    exact h.d.2 j (by omega)
   .rw[Gx g]
    exact h.d.2 j (by omega)
 unfold vS vL;cases hl:oi c.r.l k with
 |none=>exact⟨hd,by rw[s2,s3];exact h.w⟩
 |some j =>
  obtain⟨a,b⟩:=D1 hl;have e:=(AU ho.l (λj h0 hj=>((oj hc.k).link hj).2.1 h0) a b).1;refine⟨hd,?_⟩;simp only[s2,s3];refine⟨by simp only[qI];exact h.w.1,λi hi=>?_⟩
  simp only[jQ,rQ]at hi;rcases cS j v.w.length with g|g
  .rw[xd g,ax']
   exact h.w.2 i (by omega)
  .rw[Gx g]
   exact h.w.2 i (by omega)
def Yb{c:Cs}(hc:AS c)(p:Sp)(f:Fl):∀k,Vf f (cR c p f k)
 |0=>⟨⟨rfl,λ_ _=>rfl⟩,⟨rfl,λ_ _=>rfl⟩⟩
 |k+1=>(Yb hc p f k).next hc (Mo hc p f k)
def azO(h:∀j,j<i->wo c j≠k)(hi:i<c.s.length)(hk:wo c i=k):ni c.s k=some i:=by
 cases hs:ni c.s k with
 |none=>exact absurd hk (QH hs i hi)
 |some j =>
  have h1:=Ca hs;obtain⟨a,b⟩:=AW hs;rcases Js j i with g|g|g
  .exact absurd b (h j g)
  .rw[g]
  .have:=h1.2.2 i (by omega) g
   have hk:(nth c.s i).n=k:=hk;simp[hk]at this
def azP(h:∀j,j<i->Cj c j≠k)(hi:i<c.r.l.length)(hk:Cj c i=k):oi c.r.l k=some i:=by
 cases hs:oi c.r.l k with
 |none=>exact absurd hk (ajM hs i hi)
 |some j =>
  have h1:=Ca hs;obtain⟨a,b⟩:=D1 hs;rcases Js j i with g|g|g
  .exact absurd b (h j g)
  .rw[g]
  .have:=h1.2.2 i (by omega) g
   have hk:(nth c.r.l i).f=k:=hk;simp[hk]at this
def azQ(h:∀j,j<c.s.length->wo c j≠k):ni c.s k=none:=by
 cases hs:ni c.s k with
 |none=>rfl
 |some j=>exact absurd (AW hs).2 (h j (AW hs).1)
def azR(h:∀j,j<c.r.l.length->Cj c j≠k):oi c.r.l k=none:=by
 cases hs:oi c.r.l k with
 |none=>rfl
 |some j=>exact absurd (D1 hs).2 (h j (D1 hs).1)

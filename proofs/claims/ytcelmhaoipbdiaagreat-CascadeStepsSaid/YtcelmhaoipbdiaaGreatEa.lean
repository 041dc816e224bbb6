/- Parts of the proof, joined: Sne1, Cdm1, Blc1, Sam1, Blc2, Blc3, Cbl1, Str1, Pth1, Drv1, Drv2, Drv3, Sam2. -/
import Derived.Test.YtcelmhaoipbdiaaGreatDf
import Derived.Test.YtcelmhaoipbdiaaGreatDg
namespace Go.Proofs.YtcelmhaoipbdiaaGreat
set_option linter.all false
open Go.Vm
attribute [local simp] ly lz kF lx
abbrev Kk:Rc:=⟨[0,1],1⟩
abbrev ig:Cs:=⟨⟨2,[⟨0,1,Kk⟩]⟩,[]⟩
theorem Kl:ft Kk=0:=by
 unfold ft;rw[av (by decide),av (by decide),aK,aK (by decide)]
 intro i hi;have:i=0∨i=1:=by simp at hi;omega
 rcases this with rfl|rfl<;>decide
theorem awl:jy ig.r=0:=by
 unfold jy;rw[av (by decide)]
 show(if lE ig.r 0=0 then (0:Int) else lE ig.r 0)=0
 have:lE ig.r 0=0:=by
  unfold lE;simp only;rw[aK (by decide),av (by decide),av (by decide)]
  exact Kl
 rw[aK this]
theorem Ov:eQ ig=0:=by
 unfold eQ;rw[av (fun g=>g awl),av (by decide),av (by decide)]
 rfl
theorem Ox:im ig.r:=⟨by decide,fun i hi=>by
 have:i=0:=by simp at hi;omega
 subst this
 decide⟩
theorem VQ{t:Int}{p:List Int}(h:p.length≤10):kq ⟨t,[],[p]⟩:=fun i=>by
 cases i with
 |zero=>show p.length≤_;omega
 |succ i=>exact xZ _
theorem Oy:∀p:List Int,p=[]∨p=[7]→iZ Kk p:=fun p h=>by
 rcases h with rfl|rfl
 ·exact⟨by decide,by decide,fun i hi=>by simp at hi⟩
 ·refine⟨by decide,by decide,fun i hi=>?_⟩
  have:i=0:=by simp at hi;omega
  subst this;decide
theorem awm:g6 Kk [] 7=0:=by
 unfold g6;rw[av (fun g=>g Kl),aK (Oy _ (.inl rfl)),aK];refine⟨by decide,fun i hi=>?_⟩
 have:i=0∨i=1:=by simp at hi;omega
 rcases this with rfl|rfl<;>decide
theorem awn:g6 Kk [7] 0=0:=by
 unfold g6;rw[av (fun g=>g Kl),aK (Oy _ (.inr rfl)),aK];refine⟨by decide,fun i hi=>?_⟩
 have:i=0∨i=1:=by simp at hi;omega
 rcases this with rfl|rfl<;>decide
abbrev A4:Sp:=⟨[7,0],[],[]⟩
abbrev A5:Sp:=⟨[0,0],[],[]⟩
abbrev y9:Fl:=⟨0,[],[[]]⟩
abbrev xO:Fl:=⟨1,[],[[7]]⟩
theorem awo:fP ig y9:=⟨by decide,⟨rfl,by simp⟩,rfl,fun i hi=>by
 have:i=0:=by simp at hi;omega
 subst this;exact⟨Kl,Oy _ (.inl rfl)⟩⟩
theorem ahe:fP ig xO:=⟨by decide,⟨rfl,by simp⟩,rfl,fun i hi=>by
 have:i=0:=by simp at hi;omega
 subst this;exact⟨Kl,Oy _ (.inr rfl)⟩⟩
theorem Cz(k:Int):lM ig.s k=none:=rfl
theorem Oz:ml ig.r.l ((0:Nat):Int)=some 0:=rfl
theorem OA:ml ig.r.l ((1:Nat):Int)=none:=rfl
theorem ahf:cE ig A4 y9 1=⟨[7,0],[],[[7]],[],[7],[0]⟩:=by
 show vS ig A4 ⟨[7,0],[],[[]],[],[],[]⟩ 0=_;unfold vS vL vD fL;rw[Cz,Oz];rfl
theorem ahg:cE ig A4 y9 2=⟨[7,0],[],[[7]],[],[7,0],[0]⟩:=by
 show vS ig A4 (cE ig A4 y9 1) 1=_;rw[ahf];unfold vS vL vD fL;rw[Cz,OA];rfl
theorem ahh:cE ig A5 xO 1=⟨[0,7],[],[[]],[],[0],[7]⟩:=by
 show vS ig A5 ⟨[0,0],[],[[7]],[],[],[]⟩ 0=_;unfold vS vL vD fL;rw[Cz,Oz];rfl
theorem ahi:cE ig A5 xO 2=⟨[0,7],[],[[]],[],[0,7],[7]⟩:=by
 show vS ig A5 (cE ig A5 xO 1) 1=_;rw[ahh];unfold vS vL vD fL;rw[Cz,OA];rfl
theorem ahj{l:List Int}(h:∀x∈l,x=0∨x=7):dF l 1073741824:=fun i hi=>by
 have:=h _ (oo hi);omega
theorem awp:nW ig y9 A4=0:=by
 unfold nW;have hr:gq ig y9=0:=by unfold gq;rw[av (fun g=>g Ov),aK awo]
 rw[av (fun g=>g hr)];unfold fS;rw[aK (by decide),aK (ahj (by simp)),av (by decide)]
 refine pS fun k _ hk=>?_;have:k=0∨k=1:=by have:ig.r.n.toNat=2:=rfl;omega
 rcases this with rfl|rfl
 ·unfold vE na pg fL
  rw[Cz,Oz];exact awm
 ·unfold vE na pg fL
  rw[ahf,Cz,OA];rfl
theorem awq:nW ig xO A5=0:=by
 unfold nW;have hr:gq ig xO=0:=by unfold gq;rw[av (fun g=>g Ov),aK ahe]
 rw[av (fun g=>g hr)];unfold fS;rw[aK (by decide),aK (ahj (by simp)),av (by decide)]
 refine pS fun k _ hk=>?_;have:k=0∨k=1:=by have:ig.r.n.toNat=2:=rfl;omega
 rcases this with rfl|rfl
 ·unfold vE na pg fL
  rw[Cz,Oz];exact awn
 ·unfold vE na pg fL
  rw[ahh,Cz,OA];rfl
abbrev cw:V:=.agg [i64 2,.slice none 4 [[i64 0,i64 1,.slice none 1 [[i64 0],[i64 1]],i64 1]],.slice none 10 []]
theorem OB(G:List aP):aX F 5 [] G=some (.bool true,G) :=
 bL rfl rfl (by
  obtain⟨G1,h1⟩:=avl ig Ox [];obtain⟨t2,G2,h2⟩:=Of Ox (f:=y9) (VQ (by decide)) A4
  obtain⟨t3,G3,h3⟩:=Of Ox (f:=xO) (VQ (by decide)) A5
  have h4:=agc ig Ox xO (VQ (by decide))
  rw[dD ⟨Ov,ahe⟩]at h4;rw[show qw ig []=.tuple [fl y9,i64 0] by unfold qw;rw[show qv ig []=0 by unfold qv;rw[av (fun g=>g Ov),aK ⟨rfl,by simp⟩]];rfl]at h1
  rw[ry,aK awp,show qb ig y9 A4=xO by unfold qb;rw[show ig.r.n.toNat=2 from rfl,ahg];rfl,show la ig y9 A4=⟨[],[7,0],[0]⟩ by unfold la;rw[show ig.r.n.toNat=2 from rfl,ahg]]at h2
  rw[ry,aK awq,show qb ig xO A5=⟨2,[],[[]]⟩ by unfold qb;rw[show ig.r.n.toNat=2 from rfl,ahi];rfl,show la ig xO A5=⟨[],[0,7],[7]⟩ by unfold la;rw[show ig.r.n.toNat=2 from rfl,ahi]]at h3
  replace h1:aX F 37 [cw,.slice none 4 []] []=some (.tuple [.agg [i64 0,.slice none 4 [],.slice none 1 [[.slice none 1 []]]],i64 0],G1):=h1;replace h2:aX F 11 [cw,.agg [i64 0,.slice none 4 [],.slice none 1 [[.slice none 1 []]]],.agg [.slice none 1 [[i64 7],[i64 0]],.slice none 1 [],.slice none 1 []]] [] =
   some (.tuple [.agg [i64 1,.slice none 4 [],.slice none 1 [[.slice none 1 [[i64 7]]]]],.agg [.slice none 7 [],.slice none 1 [[i64 7],[i64 0]],.slice none 1 [[i64 0]]],i64 0],G2):=h2
  replace h3:aX F 11 [cw,.agg [i64 1,.slice none 4 [],.slice none 1 [[.slice none 1 [[i64 7]]]]],.agg [.slice none 1 [[i64 0],[i64 0]],.slice none 1 [],.slice none 1 []]] [] =
   some (.tuple [.agg [i64 2,.slice none 4 [],.slice none 1 [[.slice none 1 []]]],.agg [.slice none 7 [],.slice none 1 [[i64 0],[i64 7]],.slice none 1 [[i64 7]]],i64 0],G3):=h3
  replace h4:∀G,aX F 38 [cw,.agg [i64 1,.slice none 4 [],.slice none 1 [[.slice none 1 [[i64 7]]]]]] G=some (.bool true,G):=h4;simp[wrap64,aaj,h1,h2,h3,h4])
end Go.Proofs.YtcelmhaoipbdiaaGreat
namespace Go.Proofs.YtcelmhaoipbdiaaGreat
set_option linter.all false
open Go.Vm
noncomputable abbrev fin(c:Cs)(p:Sp)(f:Fl):Co:=cE c p f c.r.n.toNat
theorem ahk{c:Cs}{l:List Int}{j:Int}:∀{m:Nat},(∀i,i<m→0≤nth l i∧nth l i≤1125899906842624)→0≤ph c l j m∧ph c l j m≤1125899906842624*m
 |0,_=>by simp[ph]
 |m+1,h=>by
  have:=ahk (c:=c) (j:=j) fun i hi=>h i (WT hi);have:=h m (by omega)
  simp only[ph];split<;>omega
end Go.Proofs.YtcelmhaoipbdiaaGreat
namespace Go.Proofs.YtcelmhaoipbdiaaGreat
set_option linter.all false
open Go.Vm
attribute [local simp] ly lz kF lx
theorem OC{a b:List Int}(h:a.length=b.length)(e:∀i,i<a.length→nth a i=nth b i):a=b:=by
 refine Pc h fun i h1 h2=>?_;have:=e i h1;simpa [nth,h1,h2] using this
theorem Km(a b:List Int)(ha:a.length≤17592186044416)(G:List aP):aX F 55 [ints a,ints b] G=some (.bool (decide (a=b)),G) :=
 bL rfl rfl (by
  generalize hW:decide (a=b)=W;by_cases h1:a.length=b.length
  case neg =>
   have ed:¬ (a.length:Int)=b.length:=by omega
   simp (disch:=omega) [-getElem?_pos,wrap64,SL,ed];rw[←hW,decide_eq_false fun h=>h1 (by rw[h])]
  have ed:(a.length:Int)=b.length:=by omega
  simp (disch:=omega) [-getElem?_pos,wrap64,SL,ed];refine go_loop (fun i:Nat=>aoA (ints a) (ints b) b.length i G) (fun i=>i≤a.length∧∀j,j<i→nth a j=nth b j) (fun i=>a.length-i) 0 rfl (by simp) (by simp) ?_
  rintro i ⟨hi,hj⟩;simp (disch:=omega) [-getElem?_pos,wrap64,aba];refine bB (fun h5=>?_) (fun h5=>?_)
  ·have h5:i<b.length:=by omega
   have h6:i<a.length:=by omega
   by_cases h7:nth a i=nth b i
   ·simp (disch:=omega) [-getElem?_pos,wrap64,dA (l:=a),dA (l:=b),h7]
    exact bu (i+1) (by simp) ⟨by omega,fun j iX=>by
     by_cases g:j=i
     ·rw[g];exact h7
     ·exact hj j (by omega)⟩ (by omega)
   ·simp (disch:=omega) [-getElem?_pos,wrap64,dA (l:=a),dA (l:=b),h7]
    rw[←hW,decide_eq_false fun h=>h7 (by rw[h])]
  ·rw[←hW,dD (OC h1 fun j iX=>hj j (by omega))])
theorem awr(a b:List Int)(ha:a.length≤17592186044416)(G:List aP):aX F 23 [ints a,ints b] G=some (.bool (decide (a=b)),G) :=
 bL rfl rfl (by
  generalize hW:decide (a=b)=W;by_cases h1:a.length=b.length
  case neg =>
   have ed:¬ (a.length:Int)=b.length:=by omega
   simp (disch:=omega) [-getElem?_pos,wrap64,Sq,ed];rw[←hW,decide_eq_false fun h=>h1 (by rw[h])]
  have ed:(a.length:Int)=b.length:=by omega
  simp (disch:=omega) [-getElem?_pos,wrap64,Sq,ed];refine go_loop (fun i:Nat=>anH (ints a) (ints b) b.length i G) (fun i=>i≤a.length∧∀j,j<i→nth a j=nth b j) (fun i=>a.length-i) 0 rfl (by simp) (by simp) ?_
  rintro i ⟨hi,hj⟩;simp (disch:=omega) [-getElem?_pos,wrap64,aaD];refine bB (fun h5=>?_) (fun h5=>?_)
  ·have h5:i<b.length:=by omega
   have h6:i<a.length:=by omega
   by_cases h7:nth a i=nth b i
   ·simp (disch:=omega) [-getElem?_pos,wrap64,dA (l:=a),dA (l:=b),h7]
    exact bu (i+1) (by simp) ⟨by omega,fun j iX=>by
     by_cases g:j=i
     ·rw[g];exact h7
     ·exact hj j (by omega)⟩ (by omega)
   ·simp (disch:=omega) [-getElem?_pos,wrap64,dA (l:=a),dA (l:=b),h7]
    rw[←hW,decide_eq_false fun h=>h7 (by rw[h])]
  ·rw[←hW,dD (OC h1 fun j iX=>hj j (by omega))])
theorem GZ(a b:List Int)(ha:a.length≤17592186044416)(G:List aP):aX F 53 [ints a,ints b] G=some (.bool (decide (a=b)),G) :=
 bL rfl rfl (by
  generalize hW:decide (a=b)=W;by_cases h1:a.length=b.length
  case neg =>
   have ed:¬ (a.length:Int)=b.length:=by omega
   simp (disch:=omega) [-getElem?_pos,wrap64,SJ,ed];rw[←hW,decide_eq_false fun h=>h1 (by rw[h])]
  have ed:(a.length:Int)=b.length:=by omega
  simp (disch:=omega) [-getElem?_pos,wrap64,SJ,ed];refine go_loop (fun i:Nat=>aow (ints a) (ints b) b.length i G) (fun i=>i≤a.length∧∀j,j<i→nth a j=nth b j) (fun i=>a.length-i) 0 rfl (by simp) (by simp) ?_
  rintro i ⟨hi,hj⟩;simp (disch:=omega) [-getElem?_pos,wrap64,aa8];refine bB (fun h5=>?_) (fun h5=>?_)
  ·have h5:i<b.length:=by omega
   have h6:i<a.length:=by omega
   by_cases h7:nth a i=nth b i
   ·simp (disch:=omega) [-getElem?_pos,wrap64,dA (l:=a),dA (l:=b),h7]
    exact bu (i+1) (by simp) ⟨by omega,fun j iX=>by
     by_cases g:j=i
     ·rw[g];exact h7
     ·exact hj j (by omega)⟩ (by omega)
   ·simp (disch:=omega) [-getElem?_pos,wrap64,dA (l:=a),dA (l:=b),h7]
    rw[←hW,decide_eq_false fun h=>h7 (by rw[h])]
  ·rw[←hW,dD (OC h1 fun j iX=>hj j (by omega))])
def OD(c:Cs)(p:Sp)(x:Ps)(j:Nat):Int:=nth p.a j+ph c x.cm j c.r.l.length
def lkP(c:Cs)(f g:Fl)(x:Ps)(i:Nat):Prop :=
 sm (nth g.w i) (nth g.w i).length-sm (nth f.w i) (nth f.w i).length=(nth c.r.l i).r.den*(nth x.lf (nth c.r.l i).f.toNat-nth x.cm i)
noncomputable def siQ(c:Cs)(f g:Fl)(p:Sp)(x:Ps)(i:Nat):Prop:=afP (nth f.d i) (nth g.d i) (nth x.re i)∧(nth x.re i).inf=OD c p x (nth c.s i).n.toNat
noncomputable def Ko(c:Cs)(p:Sp)(x:Ps)(j:Nat):Int:=match lM c.s j with
 |none=>OD c p x j
 |some i=>qx (nth x.re i)
structure blL(c:Cs)(f g:Fl)(p:Sp)(x:Ps):Prop where
 c0:eQ c=0
 f0:fP c f
 g0:fP c g
 p0:j7 c p
 re:x.re.length=c.s.length
 lf:(x.lf.length:Int)=c.r.n
 cm:x.cm.length=c.r.l.length
structure blP(c:Cs)(f g:Fl)(p:Sp)(x:Ps):Prop where
 l:blL c f g p x
 all:dF (p.a++x.lf++x.cm) 274877906944
 lk:∀i,i<c.r.l.length→lkP c f g x i
 si:∀i,i<c.s.length→siQ c f g p x i
 le:∀j,j<c.r.n.toNat→nth x.lf j=Ko c p x j
noncomputable instance {c:Cs} {f g:Fl} {p:Sp} {x:Ps}:Decidable (blP c f g p x):=Classical.propDecidable _
structure Bn(p:Sp)(x:Ps):Prop where
 a:∀j,j<p.a.length→0≤nth p.a j∧nth p.a j≤274877906944
 lf:∀j,j<x.lf.length→0≤nth x.lf j∧nth x.lf j≤274877906944
 cm:∀j,j<x.cm.length→0≤nth x.cm j∧nth x.cm j≤274877906944
theorem Bn.ts{c:Cs}{p:Sp}{x:Ps}(h:Bn p x){j:Int}{m:Nat}(hm:m≤x.cm.length):0≤ph c x.cm j m∧ph c x.cm j m≤1125899906842624*m :=
 ahk fun i hi=>by have:=h.cm i (by omega);omega
theorem VR{c:Cs}{l:List (List Int)}(h:El c l){i:Nat}(hi:i<c.r.l.length):(nth l i).length≤40∧dF (nth l i) 2251799813685248:=by
 have a:=h.2 i hi;have:=(vg a.1).len;exact⟨by have:=a.2.1;omega,a.2.2.2⟩
theorem zA{α:Type}[Inhabited α]{a b:List α}(h:a.length=b.length)(e:∀i,i<a.length→nth a i=nth b i):a=b:=by
 refine Pc h fun i h1 h2=>?_;have:=e i h1;simpa [nth,h1,h2] using this
theorem ahn(a b:Us):eJ [0,0,1] a.row b.row=some (decide (a=b)):=by
 obtain⟨x,y,z⟩:=a;obtain⟨u,v,w⟩:=b;simp[eJ,kO,Us.mk.injEq,vl,kF];cases z<;>cases w<;>simp
theorem aho(a b:Gs):eJ [0,1] a.row b.row=some (decide (a=b)):=by
 obtain⟨x,y⟩:=a;obtain⟨u,v⟩:=b;simp[eJ,kO,Gs.mk.injEq,vl,kF];cases y<;>cases v<;>simp
theorem awv(a b:List Us)(ha:a.length≤5864062014805)(G:List aP):aX F 106 [jJ a,jJ b] G=some (.bool (decide (a=b)),G) :=
 bL rfl rfl (by
  generalize hW:decide (a=b)=W;by_cases h1:a.length=b.length
  case neg =>
   have ed:¬ (a.length:Int)=b.length:=by omega
   simp (disch:=omega) [-getElem?_pos,wrap64,Tg,ed];rw[←hW,decide_eq_false fun h=>h1 (by rw[h])]
  have ed:(a.length:Int)=b.length:=by omega
  simp (disch:=omega) [-getElem?_pos,wrap64,Tg,ed];refine go_loop (fun i:Nat=>ap0 (jJ a) (jJ b) b.length i G) (fun i=>i≤a.length∧∀j,j<i→nth a j=nth b j) (fun i=>a.length-i) 0 rfl (by simp) (by simp) ?_
  rintro i ⟨hi,hj⟩;simp (disch:=omega) [-getElem?_pos,wrap64,ab6];refine bB (fun h5=>?_) (fun h5=>?_)
  ·have h5:i<b.length:=by omega
   have h6:i<a.length:=by omega
   have he:=ahn (nth a i) (nth b i);simp only[Us.row]at he;by_cases h7:nth a i=nth b i
   ·rw[dD h7]at he
    simp (disch:=omega) [-getElem?_pos,wrap64,aY (l:=a),aY (l:=b),V.gA,he];exact bu (i+1) (by simp) ⟨by omega,fun j iX=>by
     by_cases g:j=i
     ·rw[g];exact h7
     ·exact hj j (by omega)⟩ (by omega)
   ·rw[decide_eq_false h7]at he
    simp (disch:=omega) [-getElem?_pos,wrap64,aY (l:=a),aY (l:=b),V.gA,he];rw[←hW,decide_eq_false fun h=>h7 (by rw[h])]
  ·rw[←hW,dD (zA h1 fun j iX=>hj j (by omega))])
theorem aww(a b:List Gs)(ha:a.length≤8796093022208)(G:List aP):aX F 107 [jw a,jw b] G=some (.bool (decide (a=b)),G) :=
 bL rfl rfl (by
  generalize hW:decide (a=b)=W;by_cases h1:a.length=b.length
  case neg =>
   have ed:¬ (a.length:Int)=b.length:=by omega
   simp (disch:=omega) [-getElem?_pos,wrap64,Th,ed];rw[←hW,decide_eq_false fun h=>h1 (by rw[h])]
  have ed:(a.length:Int)=b.length:=by omega
  simp (disch:=omega) [-getElem?_pos,wrap64,Th,ed];refine go_loop (fun i:Nat=>ap2 (jw a) (jw b) b.length i G) (fun i=>i≤a.length∧∀j,j<i→nth a j=nth b j) (fun i=>a.length-i) 0 rfl (by simp) (by simp) ?_
  rintro i ⟨hi,hj⟩;simp (disch:=omega) [-getElem?_pos,wrap64,ab7];refine bB (fun h5=>?_) (fun h5=>?_)
  ·have h5:i<b.length:=by omega
   have h6:i<a.length:=by omega
   have he:=aho (nth a i) (nth b i);simp only[Gs.row]at he;by_cases h7:nth a i=nth b i
   ·rw[dD h7]at he
    simp (disch:=omega) [-getElem?_pos,wrap64,aY (l:=a),aY (l:=b),V.gA,he];exact bu (i+1) (by simp) ⟨by omega,fun j iX=>by
     by_cases g:j=i
     ·rw[g];exact h7
     ·exact hj j (by omega)⟩ (by omega)
   ·rw[decide_eq_false h7]at he
    simp (disch:=omega) [-getElem?_pos,wrap64,aY (l:=a),aY (l:=b),V.gA,he];rw[←hW,decide_eq_false fun h=>h7 (by rw[h])]
  ·rw[←hW,dD (zA h1 fun j iX=>hj j (by omega))])
noncomputable instance:DecidableEq Ds:=fun _ _=>Classical.propDecidable _
noncomputable instance:DecidableEq Fl:=fun _ _=>Classical.propDecidable _
def OE(s:Ds):Prop:=s.u.length≤5864062014805∧s.g.length≤8796093022208
theorem awx(a b:Ds)(h:OE a)(G:List aP):aX F 62 [dst a,dst b] G=some (.bool (decide (a=b)),G) :=
 bL rfl rfl (by
  obtain⟨v,r,u,g⟩:=a;obtain⟨v2,r2,u2,g2⟩:=b;have e1:=awv u u2 h.1;have e2:=aww g g2 h.2;rw[show decide ((⟨v,r,u,g⟩:Ds)=⟨v2,r2,u2,g2⟩)=(decide (v=v2)&&decide (r=r2)&&decide (u=u2)&&decide (g=g2)) by
   rw[←vl,← vl,← vl];congr 1;simp[Ds.mk.injEq,and_assoc]]
  by_cases h1:v=v2
  ·by_cases h2:r=r2
   ·by_cases h3:u=u2
    ·rw[dD h3]at e1
     rw[dD h1,dD h2,dD h3];simp[wrap64,Jc,h1,h2,e1,e2]
    ·rw[decide_eq_false h3]at e1
     rw[dD h1,dD h2,decide_eq_false h3];simp[wrap64,Jc,h1,h2,e1]
   ·rw[dD h1,decide_eq_false h2]
    simp[wrap64,Jc,h1,h2]
  ·rw[decide_eq_false h1]
   simp[wrap64,Jc,h1])
theorem awy(a b:List Int)(h:a.length≤17592186044416)(G:List aP):aX F 64 [wv a,wv b] G=some (.bool (decide (a=b)),G) :=
 bL rfl rfl (by
  have e1:=Km a b h;simp[wrap64,abm,e1])
theorem awz(a b:List Ds)(ha:a.length≤1000000000)(h:∀i,i<a.length→OE (nth a i))(G:List aP):aX F 61 [ox a,ox b,.fn 62 []] G=some (.bool (decide (a=b)),G) :=
 bL rfl rfl (by
  generalize hW:decide (a=b)=W;by_cases h1:a.length=b.length
  case neg =>
   have ed:¬ (a.length:Int)=b.length:=by omega
   simp (disch:=omega) [-getElem?_pos,wrap64,SM,ed];rw[←hW,decide_eq_false fun h=>h1 (by rw[h])]
  have ed:(a.length:Int)=b.length:=by omega
  simp (disch:=omega) [-getElem?_pos,wrap64,SM,ed];refine go_loop (fun i:Nat=>aoL (ox b) (.fn 62 []) (ox a) b.length i G) (fun i=>i≤a.length∧∀j,j<i→nth a j=nth b j) (fun i=>a.length-i) 0 rfl (by simp) (by simp) ?_
  rintro i ⟨hi,hj⟩;simp (disch:=omega) [-getElem?_pos,wrap64,abk];refine bB (fun h5=>?_) (fun h5=>?_)
  ·have h5:i<b.length:=by omega
   have h6:i<a.length:=by omega
   have he:=awx (nth a i) (nth b i) (h i h6);by_cases h7:nth a i=nth b i
   ·rw[dD h7]at he
    simp (disch:=omega) [-getElem?_pos,wrap64,aY (l:=a),aY (l:=b),he];exact bu (i+1) (by simp) ⟨by omega,fun j iX=>by
     by_cases g:j=i
     ·rw[g];exact h7
     ·exact hj j (by omega)⟩ (by omega)
   ·rw[decide_eq_false h7]at he
    simp (disch:=omega) [-getElem?_pos,wrap64,aY (l:=a),aY (l:=b),he];rw[←hW,decide_eq_false fun h=>h7 (by rw[h])]
  ·rw[←hW,dD (zA h1 fun j iX=>hj j (by omega))])
theorem awA(a b:List (List Int))(ha:a.length≤1000000000)(h:∀i,i<a.length→(nth a i).length≤17592186044416)(G:List aP):aX F 63 [j0 a,j0 b,.fn 64 []] G=some (.bool (decide (a=b)),G) :=
 bL rfl rfl (by
  generalize hW:decide (a=b)=W;by_cases h1:a.length=b.length
  case neg =>
   have ed:¬ (a.length:Int)=b.length:=by omega
   simp (disch:=omega) [-getElem?_pos,wrap64,SN,ed];rw[←hW,decide_eq_false fun h=>h1 (by rw[h])]
  have ed:(a.length:Int)=b.length:=by omega
  simp (disch:=omega) [-getElem?_pos,wrap64,SN,ed];refine go_loop (fun i:Nat=>aoN (j0 b) (.fn 64 []) (j0 a) b.length i G) (fun i=>i≤a.length∧∀j,j<i→nth a j=nth b j) (fun i=>a.length-i) 0 rfl (by simp) (by simp) ?_
  rintro i ⟨hi,hj⟩;simp (disch:=omega) [-getElem?_pos,wrap64,abl];refine bB (fun h5=>?_) (fun h5=>?_)
  ·have h5:i<b.length:=by omega
   have h6:i<a.length:=by omega
   have he:=awy (nth a i) (nth b i) (h i h6);by_cases h7:nth a i=nth b i
   ·rw[dD h7]at he
    simp (disch:=omega) [-getElem?_pos,wrap64,aY (l:=a),aY (l:=b),he];exact bu (i+1) (by simp) ⟨by omega,fun j iX=>by
     by_cases g:j=i
     ·rw[g];exact h7
     ·exact hj j (by omega)⟩ (by omega)
   ·rw[decide_eq_false h7]at he
    simp (disch:=omega) [-getElem?_pos,wrap64,aY (l:=a),aY (l:=b),he];rw[←hW,decide_eq_false fun h=>h7 (by rw[h])]
  ·rw[←hW,dD (zA h1 fun j iX=>hj j (by omega))])
def OF(f:Fl):Prop:=(f.d.length≤1000000000∧∀i,i<f.d.length→OE (nth f.d i))∧f.w.length≤1000000000∧∀i,i<f.w.length→(nth f.w i).length≤17592186044416
theorem OG(a b:Fl)(h:OF a)(G:List aP):aX F 24 [fl a,fl b] G=some (.bool (decide (a=b)),G) :=
 bL rfl rfl (by
  obtain⟨t,d,w⟩:=a;obtain⟨t2,d2,w2⟩:=b;have e1:=awz d d2 h.1.1 h.1.2;have e2:=awA w w2 h.2.1 h.2.2;rw[show decide ((⟨t,d,w⟩:Fl)=⟨t2,d2,w2⟩)=(decide (t=t2)&&decide (d=d2)&&decide (w=w2)) by
   rw[←vl,← vl];congr 1;simp[Fl.mk.injEq,and_assoc]]
  by_cases h1:t=t2
  ·by_cases h2:d=d2
   ·rw[dD h2]at e1
    rw[dD h1,dD h2];simp[wrap64,ME,h1,e1,e2]
   ·rw[decide_eq_false h2]at e1
    rw[dD h1,decide_eq_false h2];simp[wrap64,ME,h1,e1]
  ·rw[decide_eq_false h1]
   simp[wrap64,ME,h1])
end Go.Proofs.YtcelmhaoipbdiaaGreat
namespace Go.Proofs.YtcelmhaoipbdiaaGreat
set_option linter.all false
open Go.Vm
structure Ar(c:Cs)(p:Sp)(x:Ps)(A:List Int)(m:Nat):Prop where
 le:m≤c.r.l.length
 len:A.length=p.a.length
 at_:∀j,j<A.length→nth A j=nth p.a j+ph c x.cm j m
theorem Ar.zero{c:Cs}{p:Sp}{x:Ps}:Ar c p x p.a 0:=⟨by omega,rfl,fun j _=>by simp[ph]⟩
theorem Ar.next{c:Cs}{p:Sp}{x:Ps}{A:List Int}{m:Nat}(h:Ar c p x A m)(hm:m<c.r.l.length){t:Nat}(ht:(nth c.r.l m).t=t):Ar c p x (A.set t (nth A t+nth x.cm m)) (m+1) :=
 ⟨by omega,by simp[h.len],fun j hj=>by
  simp only[pj]at hj;simp only[ph];by_cases g:j=t
  ·subst g
   rw[ui hj,aK rfl,aK ht,h.at_ j hj,Int.add_assoc]
  ·rw[av (by omega),KG,← h.at_ j hj]
   rcases cM t A.length with q|q
   ·rw[ui q,av g]
   ·rw[EN q]⟩
structure Lv(c:Cs)(p:Sp)(x:Ps)(L:List Int)(i:Nat):Prop where
 le:i≤c.s.length
 len:(L.length:Int)=c.r.n
 OH:∀k,k<i→nth L (nth c.s k).n.toNat=qx (nth x.re k)
 no:∀j,j<L.length→(∀k,k<i→(nth c.s k).n≠j)→nth L j=OD c p x j
theorem Lv.next{c:Cs}(cv:yZ c){p:Sp}{x:Ps}{L:List Int}{i:Nat}(h:Lv c p x L i)(hi:i<c.s.length){t:Nat}(ht:(nth c.s i).n=t):Lv c p x (L.set t (qx (nth x.re i))) (i+1):=by
 have hs:=(xN cv hi).1;have hs:0≤(nth c.s i).n∧(nth c.s i).n<c.r.n:=hs;have Kh:t<L.length:=by have:=h.len;omega
 have up:∀k,k<i→(nth c.s k).n<(nth c.s i).n:=fun k hk=>by
  have:∀m,k<m→m<c.s.length→(nth c.s k).n<(nth c.s m).n:=by
   intro m;induction m with
   |zero=>intro a;omega
   |succ m ih =>
    intro a b;have s:=(xN cv b).2.1 (by omega)
    have s:(nth c.s m).n<(nth c.s (m+1)).n:=s;by_cases g:k=m
    ·subst g;exact s
    ·have:=ih (by omega) (by omega);omega
  exact this i hk hi
 refine⟨by omega,by simp[h.len],fun k hk=>?_,fun j hj kc=>?_⟩
 ·by_cases g:k=i
  ·subst g
   rw[ht,O8,ui Kh,aK rfl]
  ·have:=up k (by omega)
   have:=(xN cv (i:=k) (by omega)).1
   have:0≤(nth c.s k).n∧(nth c.s k).n<c.r.n:=this;rw[ui Kh,av (by omega)]
   exact h.OH k (by omega)
 ·simp only[pj]at hj
  have:=kc i (by omega)
  rw[ui Kh,av (by omega)]
  exact h.no j hj fun k hk=>kc k (by omega)
theorem Lv.all{c:Cs}(cv:yZ c){p:Sp}{x:Ps}{L:List Int}(h:Lv c p x L c.s.length){j:Nat}(hj:j<L.length):nth L j=Ko c p x j:=by
 unfold Ko;cases hs:lM c.s j with
 |none =>
  exact h.no j hj fun k hk=>by
   have:=Og hs k hk;exact this
 |some i =>
  obtain⟨a,b⟩:=y5 hs;have b:(nth c.s i).n=j:=b;have:=h.OH i a;rw[b,O8]at this;exact this
end Go.Proofs.YtcelmhaoipbdiaaGreat
namespace Go.Proofs.YtcelmhaoipbdiaaGreat
set_option linter.all false
open Go.Vm
attribute [local simp] ly lz kF lx
theorem aDX(r:Dr):∃v,(∀G,aX F 48 [dr r] G=some (i64 v,G))∧(((0≤r.tur∧r.tur≤274877906944)∧(0≤r.spi∧r.spi≤274877906944)∧0≤r.ovr∧r.ovr≤274877906944)→v=qx r):=by
 refine⟨IntKind.i64.wrap (IntKind.i64.wrap (r.tur+r.spi)+r.ovr),fun G=>bL rfl rfl (by simp[wrap64,SH]),fun h=>?_⟩
 rw[wrap64 (n:=r.tur+r.spi) (by omega) (by omega),wrap64 (by omega) (by omega)]
 rfl
structure Wn(c:Cs)(f g:Fl)(p:Sp)(x:Ps)(k:Nat)(w:Int)(i:Nat):Prop where
 le:i≤c.s.length
 OH:∀m,m<i→(nth c.s m).n=k→siQ c f g p x m∧w=qx (nth x.re m)
 no:(∀m,m<i→(nth c.s m).n≠k)→w=OD c p x k
theorem Wn.all{c:Cs}{f g:Fl}{p:Sp}{x:Ps}{k:Nat}{w:Int}(h:Wn c f g p x k w c.s.length):w=Ko c p x k:=by
 unfold Ko;cases hs:lM c.s k with
 |none=>exact h.no fun m hm=>Og hs m hm
 |some i =>
  obtain⟨a,b⟩:=y5 hs;exact(h.OH i a b).2
end Go.Proofs.YtcelmhaoipbdiaaGreat
namespace Go.Proofs.YtcelmhaoipbdiaaGreat
set_option linter.all false
open Go.Vm
end Go.Proofs.YtcelmhaoipbdiaaGreat
namespace Go.Proofs.YtcelmhaoipbdiaaGreat
set_option linter.all false
open Go.Vm
attribute [local simp] ly lz kF lx
noncomputable def rC(f:Fl)(n:Nat):Int:=dv (fun i=>(nth f.d i).v) n
def OI(f:Fl)(i:Nat):Int:=sm (nth f.w i) (nth f.w i).length
def sC(f:Fl)(n:Nat):List Int:=(List.range n).map (OI f)
theorem ahq{f:Fl}{n:Nat}:sC f (n+1)=sC f n++[OI f n]:=by simp[sC,KS]
@[simp] theorem aDY{f:Fl}{n:Nat}:(sC f n).length=n:=by simp[sC]
theorem Kr{c:Cs}{f:Fl}(h:fP c f):∀n:Nat,n≤c.s.length→0≤rC f n∧rC f n≤274877906944*n
 |0,_=>by simp[rC,dv]
 |n+1,hn=>by
  have ih:=Kr h n (by omega)
  have a:=h.2.1.2 n (by omega)
  have b:=a.2.1;have d:=afT (yT a.1).r;unfold rC at ih ⊢;simp only[dv];omega
noncomputable def Es(t:Option Nat)(c:Cs)(f:Fl):V:=.tuple (if gq c f=0 then [i64 (rC f f.d.length),.slice t 1 ((sC f f.w.length).map fun n=>[i64 n]),i64 0] else [i64 0,.slice t 1 [],i64 (gq c f)])
theorem awB{c:Cs}(hr:im c.r){f:Fl}(hf:kq f)(G:List aP):aX F 20 [cs c,fl f] G=some (Es (some 0) c f,G) :=
 bL rfl rfl (by
  have hd:=Vs c hr f hf;generalize hW:Es (some 0) c f=W;unfold Es at hW;by_cases hz:gq c f=0
  case neg =>
   rw[av hz]at hW;simp +contextual (disch:=omega) [-getElem?_pos,-List.length_eq_zero_iff,-Int.natCast_eq_zero,wrap64,Sl,hd,hz];exact hW
  rw[aK hz]at hW;obtain⟨z1,z2⟩:=yL hz;have cv:=jM z1;have kv:=kr cv.k;have GI:=cv.s;have Lo:=kv.len;have DC:=z2.2.1.1;have GU:=z2.2.2.1;simp +contextual (disch:=omega) [-getElem?_pos,-List.length_eq_zero_iff,-Int.natCast_eq_zero,wrap64,Sl,hd,hz];refine go_loop (fun i:Nat=>anv (rC f i) (ox f.d) f.d.length i f.row G) (fun i=>i≤f.d.length) (fun i=>f.d.length-i) 0 rfl (by simp[rC,dv]) (by simp) ?_
  rintro i hi;have h1:=Kr z2 i (by omega)
  simp +contextual (disch:=omega) [-getElem?_pos,-List.length_eq_zero_iff,-Int.natCast_eq_zero,wrap64,aax];refine bB (fun h5=>?_) (fun h5=>?_)
  ·have h5:i<f.d.length:=by omega
   have h2:=Kr z2 (i+1) (by omega)
   have e:rC f (i+1)=rC f i+(nth f.d i).v:=rfl;rw[e]at h2;simp +contextual (disch:=omega) [-getElem?_pos,-List.length_eq_zero_iff,-Int.natCast_eq_zero,wrap64,aY (l:=f.d)];exact bu (i+1) (by simp[e]) (by omega) (by omega)
  obtain rfl:i=f.d.length:=by omega
  refine go_loop (fun k:Nat=>anx (rC f f.d.length) (.slice (some 1043) 1 ((sC f k).map fun n=>[i64 n])) (j0 f.w) f.w.length k k G) (fun k=>k≤f.w.length) (fun k=>f.w.length-k) 0 rfl (by simp[sC]) (by simp) ?_
  rintro k hk;simp +contextual (disch:=omega) [-getElem?_pos,-List.length_eq_zero_iff,-Int.natCast_eq_zero,wrap64,aay];refine bB (fun h5=>?_) (fun h5=>?_)
  ·have h5:k<f.w.length:=by omega
   have w1:=VR z2.2.2 (i:=k) (by omega)
   have e1:=auZ (nth f.w k) w1.1 w1.2;simp +contextual (disch:=omega) [-getElem?_pos,-List.length_eq_zero_iff,-Int.natCast_eq_zero,wrap64,aY (l:=f.w),e1];exact bu (k+1) (by simp[ahq,OI]) (by omega) (by omega)
  obtain rfl:k=f.w.length:=by omega
  exact hW)
end Go.Proofs.YtcelmhaoipbdiaaGreat
namespace Go.Proofs.YtcelmhaoipbdiaaGreat
set_option linter.all false
open Go.Vm
theorem Kv.VS{r:Rr}(h:Kv r):∀{j i:Nat},i<j→j<r.l.length→(nth r.l i).f<(nth r.l j).f
 |j+1,i,hi,hj=>by
  have a:=(h.link hj).2.1 (by omega)
  rw[sI]at a;rcases cM i j with g|g
  ·exact Int.lt_trans (Kv.VS h g (by omega)) a
  ·obtain rfl:i=j:=by omega
   exact a
theorem Kv.inj{r:Rr}(h:Kv r){i j:Nat}(hi:i<r.l.length)(hj:j<r.l.length)(e:(nth r.l i).f=(nth r.l j).f):i=j:=by
 rcases Ht i j with g|g|g
 ·have:=h.VS g hj;omega
 ·exact g
 ·have:=h.VS g hi;omega
structure Pa0(l:List Lk)(n m:Int)(L:List Int):Prop where
 one:n∈L
 last:m∈L
 clo:∀a∈L,a≠m→∀i,i<l.length→(nth l i).f=a→(nth l i).t∈L
 le:(L.length:Int)≤m+1
end Go.Proofs.YtcelmhaoipbdiaaGreat
namespace Go.Proofs.YtcelmhaoipbdiaaGreat
set_option linter.all false
open Go.Vm
abbrev Et(r:Rr):Cs:=⟨r,[]⟩
abbrev VT(a:List Int):Sp:=⟨a,[],[]⟩
theorem aD1(r:Rr)(k:Int):lM (Et r).s k=none:=rfl
theorem aD2{r:Rr}{p:Sp}{v:Co}{k:Nat}:fL (Et r) p v k=nth v.arr k:=rfl
structure Drw(r:Rr)(a:List Int)(w:List (List Int))(k:Nat):Prop where
 v:∀j,j<k→vE (Et r) (VT a) (cE (Et r) (VT a) ⟨0,[],w⟩ j) j=0
 arr:∀j,j<a.length→nth (cE (Et r) (VT a) ⟨0,[],w⟩ k).arr j≤30*(2:Int) ^ k
end Go.Proofs.YtcelmhaoipbdiaaGreat
namespace Go.Proofs.YtcelmhaoipbdiaaGreat
set_option linter.all false
open Go.Vm
def VU:Option (List Int)→V
 |none=>.bU
 |some p=>.slice none 1 (p.map fun n=>[i64 n])
def xP(W:List (Option (List Int))):List V:=W.map VU
@[simp] theorem aD4{W:List (Option (List Int))}:(xP W).length=W.length:=by simp[xP]
@[simp] theorem aD5{W:List (Option (List Int))}{i:Nat}{p:List Int}:(xP W).set i (.slice none 1 (p.map fun n=>[i64 n]))=xP (W.set i (some p)):=by simp[xP,VU]
theorem awC:∀{W:List (Option (List Int))} {cs:List V} {off:Nat},cs.drop off=xP W→chunks 1 cs off W.length=W.map fun o=>[VU o]
 |[],cs,off,h=>by simp[chunks]
 |o::W,cs,off,h=>by
  have h2:cs.drop (off+1)=xP W:=by rw[←zI,h];simp[xP]
  rw[tx,chunks,awC h2,h];simp[xP]
@[simp] theorem aD6{W:List (Option (List Int))}{d:Nat}:((xP W).all fun v => !V.cI d v)=true:=by
 simp only[xP,List.all_map,iL,Function.comp];intro o _;cases o<;>rfl
end Go.Proofs.YtcelmhaoipbdiaaGreat
namespace Go.Proofs.YtcelmhaoipbdiaaGreat
set_option linter.all false
open Go.Vm
attribute [local simp] ly lz kF lx
theorem aD7(r:Rr):nA (Et r) []=⟨0,[],List.replicate r.l.length []⟩:=rfl
theorem aD8{r:Rr}(hk:jy r=0)(hn:r.n≤6):eQ (Et r)=0:=by
 unfold eQ;rw[av (by omega:¬ (jy r≠0)),av (by omega:¬ (12<r.n)),av (by simp)]
 rfl
theorem awD(x:Ps)(hr:x.re.length≤5000)(hl:x.lf.length≤1000)(hc:x.cm.length≤1000)(G:List aP):aX F 14 [ps x,ps x] G=some (.bool true,G) :=
 bL rfl rfl (by
  have e1:=auV x.re hr;have e2:=GZ x.lf x.lf (by omega)
  have e3:=GZ x.cm x.cm (by omega)
  rw[dD rfl]at e2 e3;simp +contextual (disch:=omega) [-getElem?_pos,-List.length_eq_zero_iff,-Int.natCast_eq_zero,wrap64,I5,e1,e2,e3])
def VV(x:Ps):Prop:=x.re.length≤5000∧x.lf.length≤1000∧x.cm.length≤1000
theorem ahr(l:List Ps)(h:l.length≤1000000)(hp:∀i,i<l.length→VV (nth l i))(G:List aP):aX F 22 [.slice none 3 (l.map Ps.row),.slice none 3 (l.map Ps.row)] G=some (.bool true,G) :=
 bL rfl rfl (by
  simp +contextual (disch:=omega) [-getElem?_pos,-List.length_eq_zero_iff,-Int.natCast_eq_zero,wrap64,aaC];refine go_loop (fun i:Nat=>anF (.slice none 3 (l.map Ps.row)) (.slice none 3 (l.map Ps.row)) l.length i G) (fun i=>i≤l.length) (fun i=>l.length-i) 0 rfl (by simp) (by simp) ?_
  intro i hi;simp +contextual (disch:=omega) [-getElem?_pos,-List.length_eq_zero_iff,-Int.natCast_eq_zero,wrap64,aaB];refine bB (fun h5=>?_) (fun h5=>?_)
  ·have h5:i<l.length:=by omega
   obtain⟨p1,p2,p3⟩:=hp i h5;have e:=awD (nth l i) p1 p2 p3;simp +contextual (disch:=omega) [-getElem?_pos,-List.length_eq_zero_iff,-Int.natCast_eq_zero,wrap64,aY (l:=l),e];exact bu (i+1) (by simp) (by omega) (by omega)
  ·trivial)
theorem awE{c:Cs}{f:Fl}{l:List Sp}(h:Ra c f l){k:Nat}(hk:k<l.length):VV (uk c f l k):=by
 have hp:=h.pa hk;have cv:=jM h.c0;have kv:=kr cv.k;have hv:=hp.vc (bY _);have w9:=GS cv (nth l k) (ew c f l k);have e1:(uk c f l k).re.length=c.s.length:=w9.1;have e2:(uk c f l k).lf.length=c.r.n.toNat:=hv.ll;have e3:(uk c f l k).cm.length=c.r.l.length:=w9.2;have:=cv.s;have:=cv.n;have:=kv.len;exact⟨by omega,by omega,by omega⟩
theorem VW{c:Cs}{f:Fl}(hc:eQ c=0)(h:fP c f):OF f:=by
 have cv:=jM hc;have kv:=kr cv.k;have hs:=cv.s;have hl:=kv.len;have h1:=h.2.1;have h2:=h.2.2;have h3:=AX hc h1;refine⟨⟨by have:=h1.1;omega,fun i hi=>?_⟩,by have:=h2.1;omega,fun i hi=>?_⟩
 ·have:=h3.2 i hi
  exact⟨by omega,by omega⟩
 ·have:=(VR h2 (i:=i) (by have:=h2.1;omega)).1
  omega
theorem awF(a b:List Int)(ha:a.length≤17592186044416)(G:List aP):aX F 103 [ints a,ints b] G=some (.bool (decide (a=b)),G) :=
 bL rfl rfl (by
  generalize hW:decide (a=b)=W;by_cases h1:a.length=b.length
  case neg =>
   have ed:¬ (a.length:Int)=b.length:=by omega
   simp +contextual (disch:=omega) [-getElem?_pos,-List.length_eq_zero_iff,-Int.natCast_eq_zero,wrap64,Te,ed];rw[←hW,decide_eq_false fun h=>h1 (by rw[h])]
  have ed:(a.length:Int)=b.length:=by omega
  simp +contextual (disch:=omega) [-getElem?_pos,-List.length_eq_zero_iff,-Int.natCast_eq_zero,wrap64,Te,ed];refine go_loop (fun i:Nat=>apY (ints a) (ints b) b.length i G) (fun i=>i≤a.length∧∀j,j<i→nth a j=nth b j) (fun i=>a.length-i) 0 rfl (by simp) (by simp) ?_
  rintro i ⟨hi,hj⟩;simp +contextual (disch:=omega) [-getElem?_pos,-List.length_eq_zero_iff,-Int.natCast_eq_zero,wrap64,ab5];refine bB (fun h5=>?_) (fun h5=>?_)
  ·have h5:i<b.length:=by omega
   have h6:i<a.length:=by omega
   by_cases h7:nth a i=nth b i
   ·simp +contextual (disch:=omega) [-getElem?_pos,-List.length_eq_zero_iff,-Int.natCast_eq_zero,wrap64,dA (l:=a),dA (l:=b),h7]
    exact bu (i+1) (by simp) ⟨by omega,fun j iX=>by
     by_cases g:j=i
     ·rw[g];exact h7
     ·exact hj j (by omega)⟩ (by omega)
   ·simp +contextual (disch:=omega) [-getElem?_pos,-List.length_eq_zero_iff,-Int.natCast_eq_zero,wrap64,dA (l:=a),dA (l:=b),h7]
    rw[←hW,decide_eq_false fun h=>h7 (by rw[h])]
  ·rw[←hW,dD (OC h1 fun j iX=>hj j (by omega))])
theorem awG(a b:List Gs)(ha:a.length≤8796093022208)(G:List aP):aX F 102 [jw a,jw b] G=some (.bool (decide (a=b)),G) :=
 bL rfl rfl (by
  generalize hW:decide (a=b)=W;by_cases h1:a.length=b.length
  case neg =>
   have ed:¬ (a.length:Int)=b.length:=by omega
   simp +contextual (disch:=omega) [-getElem?_pos,-List.length_eq_zero_iff,-Int.natCast_eq_zero,wrap64,Td,ed];rw[←hW,decide_eq_false fun h=>h1 (by rw[h])]
  have ed:(a.length:Int)=b.length:=by omega
  simp +contextual (disch:=omega) [-getElem?_pos,-List.length_eq_zero_iff,-Int.natCast_eq_zero,wrap64,Td,ed];refine go_loop (fun i:Nat=>apW (jw a) (jw b) b.length i G) (fun i=>i≤a.length∧∀j,j<i→nth a j=nth b j) (fun i=>a.length-i) 0 rfl (by simp) (by simp) ?_
  rintro i ⟨hi,hj⟩;simp +contextual (disch:=omega) [-getElem?_pos,-List.length_eq_zero_iff,-Int.natCast_eq_zero,wrap64,ab4];refine bB (fun h5=>?_) (fun h5=>?_)
  ·have h5:i<b.length:=by omega
   have h6:i<a.length:=by omega
   have he:=aho (nth a i) (nth b i);simp only[Gs.row]at he;by_cases h7:nth a i=nth b i
   ·rw[dD h7]at he
    simp +contextual (disch:=omega) [-getElem?_pos,-List.length_eq_zero_iff,-Int.natCast_eq_zero,wrap64,aY (l:=a),aY (l:=b),V.gA,he];exact bu (i+1) (by simp) ⟨by omega,fun j iX=>by
     by_cases g:j=i
     ·rw[g];exact h7
     ·exact hj j (by omega)⟩ (by omega)
   ·rw[decide_eq_false h7]at he
    simp +contextual (disch:=omega) [-getElem?_pos,-List.length_eq_zero_iff,-Int.natCast_eq_zero,wrap64,aY (l:=a),aY (l:=b),V.gA,he];rw[←hW,decide_eq_false fun h=>h7 (by rw[h])]
  ·rw[←hW,dD (zA h1 fun j iX=>hj j (by omega))])
theorem awH(a b:Dr):a=b↔a.inf=b.inf∧a.los=b.los∧a.tur=b.tur∧a.spi=b.spi∧a.ovr=b.ovr∧a.pow=b.pow∧a.jL=b.jL:=by
 obtain⟨a1,a2,a3,a4,a5,a6,a7⟩:=a;obtain⟨b1,b2,b3,b4,b5,b6,b7⟩:=b;simp[Dr.mk.injEq]
noncomputable instance:DecidableEq Dr:=fun _ _=>Classical.propDecidable _
noncomputable instance:DecidableEq Ps:=fun _ _=>Classical.propDecidable _
theorem ahs(a b:Dr):eJ [0,0,0,0,0,0,0] a.row b.row=some (decide (a=b)):=by
 rw[show decide (a=b)=decide (a.inf=b.inf∧a.los=b.los∧a.tur=b.tur∧a.spi=b.spi∧a.ovr=b.ovr∧a.pow=b.pow∧a.jL=b.jL) from decide_eq_decide.2 (awH a b)];simp[eJ,kO,vl]
abbrev CA(l:List Dr):V:=.slice none 7 (l.map Dr.row)
theorem aht(a b:List Dr)(ha:a.length≤2513169434916)(G:List aP):aX F 54 [CA a,CA b] G=some (.bool (decide (a=b)),G) :=
 bL rfl rfl (by
  generalize hW:decide (a=b)=W;by_cases h1:a.length=b.length
  case neg =>
   have ed:¬ (a.length:Int)=b.length:=by omega
   simp +contextual (disch:=omega) [-getElem?_pos,-List.length_eq_zero_iff,-Int.natCast_eq_zero,wrap64,SK,ed];rw[←hW,decide_eq_false fun h=>h1 (by rw[h])]
  have ed:(a.length:Int)=b.length:=by omega
  simp +contextual (disch:=omega) [-getElem?_pos,-List.length_eq_zero_iff,-Int.natCast_eq_zero,wrap64,SK,ed];refine go_loop (fun i:Nat=>aoy (CA a) (CA b) b.length i G) (fun i=>i≤a.length∧∀j,j<i→nth a j=nth b j) (fun i=>a.length-i) 0 rfl (by simp) (by simp) ?_
  rintro i ⟨hi,hj⟩;simp +contextual (disch:=omega) [-getElem?_pos,-List.length_eq_zero_iff,-Int.natCast_eq_zero,wrap64,aa9];refine bB (fun h5=>?_) (fun h5=>?_)
  ·have h5:i<b.length:=by omega
   have h6:i<a.length:=by omega
   have he:=ahs (nth a i) (nth b i);simp only[Dr.row]at he;by_cases h7:nth a i=nth b i
   ·rw[dD h7]at he
    simp +contextual (disch:=omega) [-getElem?_pos,-List.length_eq_zero_iff,-Int.natCast_eq_zero,wrap64,aY (l:=a),aY (l:=b),V.gA,he];exact bu (i+1) (by simp) ⟨by omega,fun j iX=>by
     by_cases g:j=i
     ·rw[g];exact h7
     ·exact hj j (by omega)⟩ (by omega)
   ·rw[decide_eq_false h7]at he
    simp +contextual (disch:=omega) [-getElem?_pos,-List.length_eq_zero_iff,-Int.natCast_eq_zero,wrap64,aY (l:=a),aY (l:=b),V.gA,he];rw[←hW,decide_eq_false fun h=>h7 (by rw[h])]
  ·rw[←hW,dD (zA h1 fun j iX=>hj j (by omega))])
theorem ahu(a b:List Dr)(ha:a.length≤2513169434916)(G:List aP):aX F 52 [CA a,CA b] G=some (.bool (decide (a=b)),G) :=
 bL rfl rfl (by
  generalize hW:decide (a=b)=W;by_cases h1:a.length=b.length
  case neg =>
   have ed:¬ (a.length:Int)=b.length:=by omega
   simp +contextual (disch:=omega) [-getElem?_pos,-List.length_eq_zero_iff,-Int.natCast_eq_zero,wrap64,MN,ed];rw[←hW,decide_eq_false fun h=>h1 (by rw[h])]
  have ed:(a.length:Int)=b.length:=by omega
  simp +contextual (disch:=omega) [-getElem?_pos,-List.length_eq_zero_iff,-Int.natCast_eq_zero,wrap64,MN,ed];refine go_loop (fun i:Nat=>aa7 (CA a) (CA b) b.length i G) (fun i=>i≤a.length∧∀j,j<i→nth a j=nth b j) (fun i=>a.length-i) 0 rfl (by simp) (by simp) ?_
  rintro i ⟨hi,hj⟩;simp +contextual (disch:=omega) [-getElem?_pos,-List.length_eq_zero_iff,-Int.natCast_eq_zero,wrap64,SI];refine bB (fun h5=>?_) (fun h5=>?_)
  ·have h5:i<b.length:=by omega
   have h6:i<a.length:=by omega
   have he:=ahs (nth a i) (nth b i);simp only[Dr.row]at he;by_cases h7:nth a i=nth b i
   ·rw[dD h7]at he
    simp +contextual (disch:=omega) [-getElem?_pos,-List.length_eq_zero_iff,-Int.natCast_eq_zero,wrap64,aY (l:=a),aY (l:=b),V.gA,he];exact bu (i+1) (by simp) ⟨by omega,fun j iX=>by
     by_cases g:j=i
     ·rw[g];exact h7
     ·exact hj j (by omega)⟩ (by omega)
   ·rw[decide_eq_false h7]at he
    simp +contextual (disch:=omega) [-getElem?_pos,-List.length_eq_zero_iff,-Int.natCast_eq_zero,wrap64,aY (l:=a),aY (l:=b),V.gA,he];rw[←hW,decide_eq_false fun h=>h7 (by rw[h])]
  ·rw[←hW,dD (zA h1 fun j iX=>hj j (by omega))])
theorem awI(a b:Ds)(h:OE a)(G:List aP):aX F 50 [dst a,dst b] G=some (.bool (decide (a=b)),G) :=
 bL rfl rfl (by
  generalize hW:decide (a=b)=W;have no:a≠b→W=false:=fun h=>by rw[←hW,decide_eq_false h]
  by_cases h1:a.v=b.v
  case neg =>
   simp +contextual (disch:=omega) [-getElem?_pos,-List.length_eq_zero_iff,-Int.natCast_eq_zero,wrap64,FW,h1];exact no fun e=>h1 (by rw[e])
  by_cases h2:a.rel=b.rel
  case neg =>
   simp +contextual (disch:=omega) [-getElem?_pos,-List.length_eq_zero_iff,-Int.natCast_eq_zero,wrap64,FW,h1,h2];exact no fun e=>h2 (by rw[e])
  by_cases h3:(a.u.length:Int)=b.u.length
  case neg =>
   simp +contextual (disch:=omega) [-getElem?_pos,-List.length_eq_zero_iff,-Int.natCast_eq_zero,wrap64,FW,h1,h2,h3];exact no fun e=>h3 (by rw[e])
  have e:=awG a.g b.g h.2;by_cases h4:a.g=b.g
  case neg =>
   rw[decide_eq_false h4]at e;simp +contextual (disch:=omega) [-getElem?_pos,-List.length_eq_zero_iff,-Int.natCast_eq_zero,wrap64,FW,h1,h2,h3,e];exact no fun e=>h4 (by rw[e])
  rw[dD h4]at e;have Aa:=h.1;simp +contextual (disch:=omega) [-getElem?_pos,-List.length_eq_zero_iff,-Int.natCast_eq_zero,wrap64,FW,h1,h2,h3,e];refine go_loop (fun i:Nat=>aot b.u.length i a.row b.row G) (fun i=>i≤a.u.length∧∀j,j<i→nth a.u j=nth b.u j) (fun i=>a.u.length-i) 0 rfl (by simp) (by simp) ?_
  rintro i ⟨hi,hj⟩;simp +contextual (disch:=omega) [-getElem?_pos,-List.length_eq_zero_iff,-Int.natCast_eq_zero,wrap64,aa5];refine bB (fun h5=>?_) (fun h5=>?_)
  ·have h5:i<b.u.length:=by omega
   have h6:i<a.u.length:=by omega
   have he:=ahn (nth a.u i) (nth b.u i);simp only[Us.row]at he;by_cases h7:nth a.u i=nth b.u i
   ·rw[dD h7]at he
    simp +contextual (disch:=omega) [-getElem?_pos,-List.length_eq_zero_iff,-Int.natCast_eq_zero,wrap64,aY (l:=a.u),aY (l:=b.u),V.gA,he];exact bu (i+1) (by simp) ⟨by omega,fun j iX=>by
     by_cases g:j=i
     ·rw[g];exact h7
     ·exact hj j (by omega)⟩ (by omega)
   ·rw[decide_eq_false h7]at he
    simp +contextual (disch:=omega) [-getElem?_pos,-List.length_eq_zero_iff,-Int.natCast_eq_zero,wrap64,aY (l:=a.u),aY (l:=b.u),V.gA,he];exact no fun h=>h7 (by rw[h])
  ·have h8:a.u=b.u:=zA (by omega) fun j iX=>hj j (by omega)
   rw[←hW,dD];obtain⟨v,r,u,g⟩:=a;obtain⟨v2,r2,u2,g2⟩:=b;simp only at h1 h2 h4 h8;subst h1 h2 h4 h8;rfl)
theorem awJ(a b:List Int)(h:a.length≤17592186044416)(G:List aP):aX F 51 [wv a,wv b] G=some (.bool (decide (a=b)),G) :=
 bL rfl rfl (by
  have e1:=awF a b h;simp +contextual (disch:=omega) [-getElem?_pos,-List.length_eq_zero_iff,-Int.natCast_eq_zero,wrap64,aa6,e1])
theorem Eu(a b:Fl)(h:OF a)(G:List aP):aX F 13 [fl a,fl b] G=some (.bool (decide (a=b)),G) :=
 bL rfl rfl (by
  generalize hW:decide (a=b)=W;have no:a≠b→W=false:=fun h=>by rw[←hW,decide_eq_false h]
  by_cases h1:a.t=b.t
  case neg =>
   simp +contextual (disch:=omega) [-getElem?_pos,-List.length_eq_zero_iff,-Int.natCast_eq_zero,wrap64,I4,h1];exact no fun e=>h1 (by rw[e])
  by_cases h2:(a.d.length:Int)=b.d.length
  case neg =>
   simp +contextual (disch:=omega) [-getElem?_pos,-List.length_eq_zero_iff,-Int.natCast_eq_zero,wrap64,I4,h1,h2];exact no fun e=>h2 (by rw[e])
  by_cases h3:(a.w.length:Int)=b.w.length
  case neg =>
   simp +contextual (disch:=omega) [-getElem?_pos,-List.length_eq_zero_iff,-Int.natCast_eq_zero,wrap64,I4,h1,h2,h3];exact no fun e=>h3 (by rw[e])
  have DC:=h.1.1;have GU:=h.2.1;simp +contextual (disch:=omega) [-getElem?_pos,-List.length_eq_zero_iff,-Int.natCast_eq_zero,wrap64,I4,h1,h2,h3];refine go_loop (fun i:Nat=>ani b.d.length i a.row b.row G) (fun i=>i≤a.d.length∧∀j,j<i→nth a.d j=nth b.d j) (fun i=>a.d.length-i) 0 rfl (by simp) (by simp) ?_
  rintro i ⟨hi,hj⟩;simp +contextual (disch:=omega) [-getElem?_pos,-List.length_eq_zero_iff,-Int.natCast_eq_zero,wrap64,aas];refine bB (fun h5=>?_) (fun h5=>?_)
  ·have h5:i<b.d.length:=by omega
   have h6:i<a.d.length:=by omega
   have he:=awI (nth a.d i) (nth b.d i) (h.1.2 i h6);by_cases h7:nth a.d i=nth b.d i
   ·rw[dD h7]at he
    simp +contextual (disch:=omega) [-getElem?_pos,-List.length_eq_zero_iff,-Int.natCast_eq_zero,wrap64,aY (l:=a.d),aY (l:=b.d),he];exact bu (i+1) (by simp) ⟨by omega,fun j iX=>by
     by_cases g:j=i
     ·rw[g];exact h7
     ·exact hj j (by omega)⟩ (by omega)
   ·rw[decide_eq_false h7]at he
    simp +contextual (disch:=omega) [-getElem?_pos,-List.length_eq_zero_iff,-Int.natCast_eq_zero,wrap64,aY (l:=a.d),aY (l:=b.d),he];exact no fun h=>h7 (by rw[h])
  have h8:a.d=b.d:=zA (by omega) fun j iX=>hj j (by omega)
  simp +contextual (disch:=omega) [-getElem?_pos,-List.length_eq_zero_iff,-Int.natCast_eq_zero,wrap64,h3];refine go_loop (fun i:Nat=>ank b.w.length i a.row b.row G) (fun i=>i≤a.w.length∧∀j,j<i→nth a.w j=nth b.w j) (fun i=>a.w.length-i) 0 rfl (by simp) (by simp) ?_
  rintro i ⟨hi,hj⟩;simp +contextual (disch:=omega) [-getElem?_pos,-List.length_eq_zero_iff,-Int.natCast_eq_zero,wrap64,aat];refine bB (fun h5=>?_) (fun h5=>?_)
  ·have h5:i<b.w.length:=by omega
   have h6:i<a.w.length:=by omega
   have he:=awJ (nth a.w i) (nth b.w i) (h.2.2 i h6);by_cases h7:nth a.w i=nth b.w i
   ·rw[dD h7]at he
    simp +contextual (disch:=omega) [-getElem?_pos,-List.length_eq_zero_iff,-Int.natCast_eq_zero,wrap64,aY (l:=a.w),aY (l:=b.w),he];exact bu (i+1) (by simp) ⟨by omega,fun j iX=>by
     by_cases g:j=i
     ·rw[g];exact h7
     ·exact hj j (by omega)⟩ (by omega)
   ·rw[decide_eq_false h7]at he
    simp +contextual (disch:=omega) [-getElem?_pos,-List.length_eq_zero_iff,-Int.natCast_eq_zero,wrap64,aY (l:=a.w),aY (l:=b.w),he];exact no fun h=>h7 (by rw[h])
  have h9:a.w=b.w:=zA (by omega) fun j iX=>hj j (by omega)
  rw[←hW,dD];obtain⟨t,d,w⟩:=a;obtain⟨t2,d2,w2⟩:=b;simp only at h1 h8 h9;subst h1 h8 h9;rfl)
end Go.Proofs.YtcelmhaoipbdiaaGreat

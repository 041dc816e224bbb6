/- Parts of the proof, joined: Sne1, Cdm1, Blc1, Blc2, Blc3, Cbl1, Rwo1. -/
import Derived.Test.YtocclbnghhaejaaGreatDf
import Derived.Test.YtocclbnghhaejaaGreatDg
import Derived.Test.YtocclbnghhaejaaGreatDh
namespace Go.Proofs.YtocclbnghhaejaaGreat
set_option linter.all false
open Go.Vm
abbrev G9:Rc:=⟨[0,1],1⟩
abbrev gz:Cs:=⟨⟨2,[⟨0,1,G9⟩]⟩,[]⟩
theorem Ha:eM G9=0:=by
 unfold eM;rw[if_neg (by decide),if_neg (by decide),if_pos,if_pos (by decide)]
 intro i hi;have:i=0∨i=1:=by simp at hi;omega
 rcases this with rfl|rfl<;>decide
theorem aoZ:jd gz.r=0:=by
 unfold jd;rw[if_neg (by decide)]
 show(if lE gz.r 0=0 then (0:Int) else lE gz.r 0)=0
 have:lE gz.r 0=0:=by
  unfold lE;simp only;rw[if_pos (by decide),if_neg (by decide),if_neg (by decide)]
  exact Ha
 rw[if_pos this]
theorem Kp:ew gz=0:=by
 unfold ew;rw[if_neg (fun g=>g aoZ),if_neg (by decide),if_neg (by decide)]
 rfl
theorem Kr:∀p:List Int,p=[]∨p=[7]→im G9 p:=fun p h=>by
 rcases h with rfl|rfl
 ·exact⟨by decide,by decide,fun i hi=>by simp at hi⟩
 ·refine⟨by decide,by decide,fun i hi=>?_⟩
  have:i=0:=by simp at hi;omega
  subst this;decide
theorem ao0:gw G9 [] 7=0:=by
 unfold gw;rw[if_neg (fun g=>g Ha),if_pos (Kr _ (.inl rfl)),if_pos];refine⟨by decide,fun i hi=>?_⟩
 have:i=0∨i=1:=by simp at hi;omega
 rcases this with rfl|rfl<;>decide
theorem ao1:gw G9 [7] 0=0:=by
 unfold gw;rw[if_neg (fun g=>g Ha),if_pos (Kr _ (.inr rfl)),if_pos];refine⟨by decide,fun i hi=>?_⟩
 have:i=0∨i=1:=by simp at hi;omega
 rcases this with rfl|rfl<;>decide
abbrev yG:Sp:=⟨[7,0],[],[]⟩
abbrev yH:Sp:=⟨[0,0],[],[]⟩
abbrev wS:Fl:=⟨0,[],[[]]⟩
abbrev vH:Fl:=⟨1,[],[[7]]⟩
theorem ao2:ft gz wS:=⟨by decide,⟨rfl,by simp⟩,rfl,fun i hi=>by
 have:i=0:=by simp at hi;omega
 subst this;exact⟨Ha,Kr _ (.inl rfl)⟩⟩
theorem abd:ft gz vH:=⟨by decide,⟨rfl,by simp⟩,rfl,fun i hi=>by
 have:i=0:=by simp at hi;omega
 subst this;exact⟨Ha,Kr _ (.inr rfl)⟩⟩
theorem An(k:Int):kU gz.s k=none:=rfl
theorem Ks:lV gz.r.l ((0:Nat):Int)=some 0:=rfl
theorem Kt:lV gz.r.l ((1:Nat):Int)=none:=rfl
theorem abe:cy gz yG wS 1=⟨[7,0],[],[[7]],[],[7],[0]⟩:=by
 show vS gz yG ⟨[7,0],[],[[]],[],[],[]⟩ 0=_;unfold vS vL vD ff;rw[An,Ks];rfl
theorem abf:cy gz yG wS 2=⟨[7,0],[],[[7]],[],[7,0],[0]⟩:=by
 show vS gz yG (cy gz yG wS 1) 1=_;rw[abe];unfold vS vL vD ff;rw[An,Kt];rfl
theorem abg:cy gz yH vH 1=⟨[0,7],[],[[]],[],[0],[7]⟩:=by
 show vS gz yH ⟨[0,0],[],[[7]],[],[],[]⟩ 0=_;unfold vS vL vD ff;rw[An,Ks];rfl
theorem abh:cy gz yH vH 2=⟨[0,7],[],[[]],[],[0,7],[7]⟩:=by
 show vS gz yH (cy gz yH vH 1) 1=_;rw[abg];unfold vS vL vD ff;rw[An,Kt];rfl
theorem abi{l:List Int}(h:∀x∈l,x=0∨x=7):eJ l 1073741824:=fun i hi=>by
 have:=h _ (oK hi);omega
theorem ao3:m8 gz wS yG=0:=by
 unfold m8;have hr:iq gz wS=0:=by unfold iq;rw[if_neg (fun g=>g Kp),if_pos ao2]
 rw[if_neg (fun g=>g hr)];unfold fP;rw[if_pos (by decide),if_pos (abi (by simp)),if_neg (by decide)]
 refine rW fun k _ hk=>?_;have:k=0∨k=1:=by have:gz.r.n.toNat=2:=rfl;omega
 rcases this with rfl|rfl
 ·unfold vE ml oq ff
  rw[An,Ks];exact ao0
 ·unfold vE ml oq ff
  rw[abe,An,Kt];rfl
theorem ao4:m8 gz vH yH=0:=by
 unfold m8;have hr:iq gz vH=0:=by unfold iq;rw[if_neg (fun g=>g Kp),if_pos abd]
 rw[if_neg (fun g=>g hr)];unfold fP;rw[if_pos (by decide),if_pos (abi (by simp)),if_neg (by decide)]
 refine rW fun k _ hk=>?_;have:k=0∨k=1:=by have:gz.r.n.toNat=2:=rfl;omega
 rcases this with rfl|rfl
 ·unfold vE ml oq ff
  rw[An,Ks];exact ao1
 ·unfold vE ml oq ff
  rw[abg,An,Kt];rfl
abbrev cw:V:=.agg [i64 2,.slice none 4 [[i64 0,i64 1,.slice none 1 [[i64 0],[i64 1]],i64 1]],.slice none 10 []]
end Go.Proofs.YtocclbnghhaejaaGreat
namespace Go.Proofs.YtocclbnghhaejaaGreat
set_option linter.all false
open Go.Vm
noncomputable abbrev fin(c:Cs)(p:Sp)(f:Fl):Co:=cy c p f c.r.n.toNat
theorem abj{c:Cs}{l:List Int}{j:Int}:∀{m:Nat},(∀i,i<m→0≤nth l i∧nth l i≤1125899906842624)→0≤nD c l j m∧nD c l j m≤1125899906842624*m
 |0,_=>by simp[nD]
 |m+1,h=>by
  have:=abj (c:=c) (j:=j) fun i hi=>h i (Nat.lt_succ_of_lt hi);have:=h m (by omega)
  simp only[nD];split<;>omega
end Go.Proofs.YtocclbnghhaejaaGreat
namespace Go.Proofs.YtocclbnghhaejaaGreat
set_option linter.all false
open Go.Vm
def Ku(c:Cs)(p:Sp)(x:Ps)(j:Nat):Int:=nth p.a j+nD c x.cm j c.r.l.length
def lkP(c:Cs)(f g:Fl)(x:Ps)(i:Nat):Prop :=
 sm (nth g.w i) (nth g.w i).length-sm (nth f.w i) (nth f.w i).length=(nth c.r.l i).r.den*(nth x.lf (nth c.r.l i).f.toNat-nth x.cm i)
noncomputable def siQ(c:Cs)(f g:Fl)(p:Sp)(x:Ps)(i:Nat):Prop:=Z6 (nth f.d i) (nth g.d i) (nth x.re i)∧(nth x.re i).inf=Ku c p x (nth c.s i).n.toNat
noncomputable def Hb(c:Cs)(p:Sp)(x:Ps)(j:Nat):Int:=match kU c.s j with
 |none=>Ku c p x j
 |some i=>oM (nth x.re i)
structure blL(c:Cs)(f g:Fl)(p:Sp)(x:Ps):Prop where
 c0:ew c=0
 f0:ft c f
 g0:ft c g
 p0:mj c p
 re:x.re.length=c.s.length
 lf:(x.lf.length:Int)=c.r.n
 cm:x.cm.length=c.r.l.length
structure blP(c:Cs)(f g:Fl)(p:Sp)(x:Ps):Prop where
 l:blL c f g p x
 all:eJ (p.a++x.lf++x.cm) 274877906944
 lk:∀i,i<c.r.l.length→lkP c f g x i
 si:∀i,i<c.s.length→siQ c f g p x i
 le:∀j,j<c.r.n.toNat→nth x.lf j=Hb c p x j
noncomputable instance {c:Cs} {f g:Fl} {p:Sp} {x:Ps}:Decidable (blP c f g p x):=Classical.propDecidable _
structure Bn(p:Sp)(x:Ps):Prop where
 a:∀j,j<p.a.length→0≤nth p.a j∧nth p.a j≤274877906944
 lf:∀j,j<x.lf.length→0≤nth x.lf j∧nth x.lf j≤274877906944
 cm:∀j,j<x.cm.length→0≤nth x.cm j∧nth x.cm j≤274877906944
theorem Bn.ts{c:Cs}{p:Sp}{x:Ps}(h:Bn p x){j:Int}{m:Nat}(hm:m≤x.cm.length):0≤nD c x.cm j m∧nD c x.cm j m≤1125899906842624*m :=
 abj fun i hi=>by have:=h.cm i (by omega);omega
end Go.Proofs.YtocclbnghhaejaaGreat
namespace Go.Proofs.YtocclbnghhaejaaGreat
set_option linter.all false
open Go.Vm
structure Ar(c:Cs)(p:Sp)(x:Ps)(A:List Int)(m:Nat):Prop where
 le:m≤c.r.l.length
 len:A.length=p.a.length
 at_:∀j,j<A.length→nth A j=nth p.a j+nD c x.cm j m
theorem Ar.zero{c:Cs}{p:Sp}{x:Ps}:Ar c p x p.a 0:=⟨by omega,rfl,fun j _=>by simp[nD]⟩
theorem Ar.next{c:Cs}{p:Sp}{x:Ps}{A:List Int}{m:Nat}(h:Ar c p x A m)(hm:m<c.r.l.length){t:Nat}(ht:(nth c.r.l m).t=t):Ar c p x (A.set t (nth A t+nth x.cm m)) (m+1) :=
 ⟨by omega,by simp[h.len],fun j hj=>by
  simp only[List.length_set]at hj;simp only[nD];by_cases g:j=t
  ·subst g
   rw[tg hj,if_pos rfl,if_pos ht,h.at_ j hj,Int.add_assoc]
  ·rw[if_neg (by omega),Int.add_zero,← h.at_ j hj]
   rcases Nat.lt_or_ge t A.length with q|q
   ·rw[tg q,if_neg g]
   ·rw[List.set_eq_of_length_le q]⟩
structure Lv(c:Cs)(p:Sp)(x:Ps)(L:List Int)(i:Nat):Prop where
 le:i≤c.s.length
 len:(L.length:Int)=c.r.n
 Ky:∀k,k<i→nth L (nth c.s k).n.toNat=oM (nth x.re k)
 no:∀j,j<L.length→(∀k,k<i→(nth c.s k).n≠j)→nth L j=Ku c p x j
theorem Lv.next{c:Cs}(cv:wK c){p:Sp}{x:Ps}{L:List Int}{i:Nat}(h:Lv c p x L i)(hi:i<c.s.length){t:Nat}(ht:(nth c.s i).n=t):Lv c p x (L.set t (oM (nth x.re i))) (i+1):=by
 have hs:=(wQ cv hi).1;have hs:0≤(nth c.s i).n∧(nth c.s i).n<c.r.n:=hs;have D7:t<L.length:=by have:=h.len;omega
 have up:∀k,k<i→(nth c.s k).n<(nth c.s i).n:=fun k hk=>by
  have:∀m,k<m→m<c.s.length→(nth c.s k).n<(nth c.s m).n:=by
   intro m;induction m with
   |zero=>intro a;omega
   |succ m ih =>
    intro a b;have s:=(wQ cv b).2.1 (by omega)
    have s:(nth c.s m).n<(nth c.s (m+1)).n:=s;by_cases g:k=m
    ·subst g;exact s
    ·have:=ih (by omega) (by omega);omega
  exact this i hk hi
 refine⟨by omega,by simp[h.len],fun k hk=>?_,fun j hj ji=>?_⟩
 ·by_cases g:k=i
  ·subst g
   rw[ht,Int.toNat_natCast,tg D7,if_pos rfl]
  ·have:=up k (by omega)
   have:=(wQ cv (i:=k) (by omega)).1
   have:0≤(nth c.s k).n∧(nth c.s k).n<c.r.n:=this;rw[tg D7,if_neg (by omega)]
   exact h.Ky k (by omega)
 ·simp only[List.length_set]at hj
  have:=ji i (by omega)
  rw[tg D7,if_neg (by omega)]
  exact h.no j hj fun k hk=>ji k (by omega)
theorem Lv.all{c:Cs}(cv:wK c){p:Sp}{x:Ps}{L:List Int}(h:Lv c p x L c.s.length){j:Nat}(hj:j<L.length):nth L j=Hb c p x j:=by
 unfold Hb;cases hs:kU c.s j with
 |none =>
  exact h.no j hj fun k hk=>by
   have:=Kf hs k hk;exact this
 |some i =>
  obtain⟨a,b⟩:=wR hs;have b:(nth c.s i).n=j:=b;have:=h.Ky i a;rw[b,Int.toNat_natCast]at this;exact this
end Go.Proofs.YtocclbnghhaejaaGreat
namespace Go.Proofs.YtocclbnghhaejaaGreat
set_option linter.all false
open Go.Vm
attribute [local simp] lQ lR kP lP
theorem awg(r:Dr):∃v,(∀G,aX F 86 [dr r] G=some (i64 v,G))∧(((0≤r.tur∧r.tur≤274877906944)∧(0≤r.spi∧r.spi≤274877906944)∧0≤r.ovr∧r.ovr≤274877906944)→v=oM r):=by
 refine⟨IntKind.i64.wrap (IntKind.i64.wrap (r.tur+r.spi)+r.ovr),fun G=>bM rfl rfl (by simp[wrap64,NK]),fun h=>?_⟩
 rw[wrap64 (n:=r.tur+r.spi) (by omega) (by omega),wrap64 (by omega) (by omega)]
 rfl
structure Wn(c:Cs)(f g:Fl)(p:Sp)(x:Ps)(k:Nat)(w:Int)(i:Nat):Prop where
 le:i≤c.s.length
 Ky:∀m,m<i→(nth c.s m).n=k→siQ c f g p x m∧w=oM (nth x.re m)
 no:(∀m,m<i→(nth c.s m).n≠k)→w=Ku c p x k
theorem Wn.all{c:Cs}{f g:Fl}{p:Sp}{x:Ps}{k:Nat}{w:Int}(h:Wn c f g p x k w c.s.length):w=Hb c p x k:=by
 unfold Hb;cases hs:kU c.s k with
 |none=>exact h.no fun m hm=>Kf hs m hm
 |some i =>
  obtain⟨a,b⟩:=wR hs;exact(h.Ky i a b).2
end Go.Proofs.YtocclbnghhaejaaGreat
namespace Go.Proofs.YtocclbnghhaejaaGreat
set_option linter.all false
open Go.Vm
theorem aA3{d:Dm}{s:Ds}{a b c:Int}(h:nB d s a b c=0):Z6 s (lU d s a b c) (lD d s a b c):=by
 obtain⟨hd,hf,ha,hb,hc⟩:=st0 h;have hv:=yn hd;have h1:=aaa hv.r;have h2:=hf.1;have h3:=(anu hv hf ha hb hc).1;obtain⟨⟨r1,r2,r3⟩,r4,r5⟩:=aaJ h;have hi:(lD d s a b c).inf=a:=rfl;unfold oM at r5;refine⟨fun i hi=>?_,by omega⟩
 have:i=0∨i=1∨i=2∨i=3∨i=4∨i=5∨i=6:=by omega
 rcases this with rfl|rfl|rfl|rfl|rfl|rfl|rfl
 ·show 0≤s.v∧s.v≤274877906944
  omega
 ·show 0≤(lU d s a b c).v∧(lU d s a b c).v≤274877906944
  omega
 ·show 0≤a∧a≤274877906944
  omega
 ·show 0≤(lD d s a b c).los∧(lD d s a b c).los≤274877906944
  omega
 ·show 0≤(lD d s a b c).tur∧(lD d s a b c).tur≤274877906944
  omega
 ·show 0≤(lD d s a b c).spi∧(lD d s a b c).spi≤274877906944
  omega
 ·show 0≤(lD d s a b c).ovr∧(lD d s a b c).ovr≤274877906944
  omega
end Go.Proofs.YtocclbnghhaejaaGreat
namespace Go.Proofs.YtocclbnghhaejaaGreat
set_option linter.all false
open Go.Vm
attribute [local simp] lQ lR kP lP
theorem aA4{α:Type}[Inhabited α]{l m:List α}(h:l.length=m.length)(hn:∀i,i<l.length→nth l i=nth m i):l=m:=by
 refine List.ext_getElem h fun i h1 h2=>?_;have:=hn i h1;simpa [nth,List.getD,h1,h2] using this
theorem aA5{a b:Ds}{r:Dr}(h:Z6 a b r):wsV r a.v=b.v:=by
 obtain⟨h1,h2⟩:=h;have g0:Z5 a.v:=h1 0 (by omega)
 have g1:Z5 b.v:=h1 1 (by omega)
 have g2:Z5 r.inf:=h1 2 (by omega)
 have g3:Z5 r.los:=h1 3 (by omega)
 have g4:Z5 r.tur:=h1 4 (by omega)
 have g5:Z5 r.spi:=h1 5 (by omega)
 have g6:Z5 r.ovr:=h1 6 (by omega)
 unfold Z5 at *;unfold wsV;simp (disch:=omega) only[wrap64];omega
theorem aA6{c:Cs}{f:Fl}{p:Sp}(h:Pa c f p){i:Nat}(hi:i<c.s.length):Z6 (nth f.d i) (nth (oN c f p).d i) (nth (sw c f p).re i):=by
 have hl:=(aaY (jZ h.c0) p f).1;obtain⟨k',_,_,h3⟩:=(Qh h (Nat.le_refl _)).site i (by omega)
 have h4:=aA3 h3.e;rw[←h3.r,← h3.d]at h4;exact h4
structure Wz(c:Cs)(f:Fl)(p:Pn)(q:List Sp):Prop where
 b:Bg c f p q.length
 at_:∀k,k≤q.length→ft c (eo c f (eQ p q) k)
 v:∀k,k<q.length→m8 c (eo c f (eQ p q) k) (nth (eQ p q) k)=0
 bal:∀k,k<q.length→∀j,j<c.s.length→Z6 (nth (eo c f (eQ p q) k).d j) (nth (eo c f (eQ p q) (k+1)).d j) (nth (D8 c f (eQ p q) k).re j)
 re:∀k,k<q.length→(D8 c f (eQ p q) k).re.length=c.s.length
 x:∀k,k<q.length→nth (gF c f p q) k=D8 c f (eQ p q) k
theorem aA9{c:Cs}{f:Fl}{p:Pn}{q:List Sp}(h1:ot c f p q=0):Wz c f p q:=by
 have pz:=JC h1;unfold ot at h1;split at h1
 ·rename_i h;exact absurd h1 h
 ·rename_i h
  have hb:=QG (Decidable.of_not_not h);have ra:=apa h1;have hx:∀k,k<q.length→nth (gF c f p q) k=D8 c f (eQ p q) k:=fun k hk=>by simp[gF,kn,nth,List.getD,hk]
  refine⟨hb,fun k hk=>ra.at_ (by rw[B8];exact hk),fun k hk=>?_,fun k hk j hj=>aA6 (ra.pa (by rw[B8];exact hk)) hj,fun k hk=>?_,hx⟩
  ·rw[Hc hb.c0 (ra.at_ (by rw[B8];omega))]
   exact ra.v k (by rw[B8];exact hk)
  ·rw[←hx k hk]
   exact pz.re k (by rw[pz.len];exact hk)
set_option maxRecDepth 100000 in
set_option maxHeartbeats 8000000 in
theorem aBa{t:List Int}(hl:t.length≤9223372036854775807):∃G',aX F 7 [ints t] []=some (.bool true,G'):=by
 suffices h:gy (aX F) 7 [ints t] [] fun v _=>v=.bool true by
  obtain⟨_,G,h,rfl⟩:=h;exact⟨G,h⟩
 refine gS rfl rfl ?_;by_cases h1:t.length≤500
 case neg=>simp +contextual (disch:=omega) [-getElem?_pos,-List.length_eq_zero_iff,-Int.natCast_eq_zero,wrap64,afF,CW,s8,h1]
 obtain⟨c,f,k1,n1,gB,sy,iP,_⟩:=Qq (l:=t) (k:=0) ⟨by omega,hl⟩
 have hz:=sy.eH;have cv:=jZ hz;have kv:=j0 cv.k;have qU:=sy.small;have Qp:=sy.n;have hs3:=sy.s;have jc:=kv.n;have H0:=yF cv.k iP;obtain⟨m,k2,n2,eX,Ba,hm⟩:=fK gB 6 (by omega)
 obtain⟨m,rfl⟩:∃k:Nat,m=k:=⟨m.toNat,by omega⟩
 obtain⟨pl,k3,n3,lT,hp⟩:=Hh eX (c:=c) (by omega) (by omega) f.t (n:=m) (by omega)
 obtain⟨ws,k4,n4,pE,vC,hwm⟩:=awC lT (c:=c) (by omega) (by omega) (n:=m) (by omega)
 have r1:=ac9 qU H0 ⟨f.t,pl⟩ ws [];by_cases h6:kz c f ⟨f.t,pl⟩ ws=0
 case neg =>
  rw[avS h6]at r1;simp +contextual (disch:=omega) [-getElem?_pos,-List.length_eq_zero_iff,-Int.natCast_eq_zero,wrap64,afF,CW,s8,h1,F6,n1,n2,n3,n4,r1,h6]
 rw[ac7 h6]at r1;have hlen:=aga (c:=c) (f:=f) (p:=⟨f.t,pl⟩) (l:=ws);obtain⟨_,_,bn⟩:=ada h6;have A3:f.d.length=c.s.length:=iP.2.1.1;simp +contextual (disch:=omega) [-getElem?_pos,-List.length_eq_zero_iff,-Int.natCast_eq_zero,wrap64,afF,CW,s8,h1,F6,n1,n2,n3,n4,r1,hlen];refine go_loop (fun i:Nat=>axZ (.slice none 4 ((jB c f ⟨f.t,pl⟩ ws).map Ws.row)) (jP ws) ws.length i c.row f.row [i64 f.t,je pl] [dk t k4]) (fun i=>i≤ws.length) (fun i=>ws.length-i) 0 rfl (by simp) (by omega) ?_
 intro i hi;simp +contextual (disch:=omega) [-getElem?_pos,-List.length_eq_zero_iff,-Int.natCast_eq_zero,wrap64,aqs];refine bE (fun h=>?_) (fun h=>?_)
 case refine_2=>trivial
 have h:i<ws.length:=by omega
 have RC:=adf (c:=c) (f:=f) (p:=⟨f.t,pl⟩) (l:=ws) h;have Kl:=(bn i h).2;have wz:=aA9 Kl;have AS:=av8 Kl;have hwm:=hwm i h;have bA:i<(jB c f ⟨f.t,pl⟩ ws).length:=by omega
 simp +contextual (disch:=omega) [-getElem?_pos,-List.length_eq_zero_iff,-Int.natCast_eq_zero,wrap64,aW (l:=ws)];have wO:jt c f ⟨f.t,pl⟩ (nth ws i)=po (gF c f ⟨f.t,pl⟩ (nth ws i).s) (wN f):=rfl;have hpz:=(JC Kl).len;obtain⟨w,hw⟩:∃w,nth ws i=w:=⟨_,rfl⟩;rw[hw]at RC Kl wz AS hwm wO hpz ⊢;refine go_loop (fun j:Nat=>axT (.slice none 4 ((jB c f ⟨f.t,pl⟩ ws).map Ws.row)) i j (jP ws) ws.length i (m7 f.d) f.d.length j c.row f.row [i64 f.t,je pl] w.row f.row (dM ((f.d.map Ds.v).take j)) [dk t k4]) (fun j=>j≤f.d.length) (fun j=>f.d.length-j) 0 rfl (by simp[dM]) (by omega) ?_
 intro j hj;simp +contextual (disch:=omega) [-getElem?_pos,-List.length_eq_zero_iff,-Int.natCast_eq_zero,wrap64,aqe];refine bE (fun h2=>?_) (fun h2=>?_)
 ·have h2:j<f.d.length:=by omega
  have h3:((f.d.map Ds.v).take j).length=j:=by simp;omega
  have h4:(f.d.map Ds.v).take (j+1)=(f.d.map Ds.v).take j++[(nth f.d j).v]:=by rw[jI (by simpa using h2),wF h2]
  simp +contextual (disch:=omega) [-getElem?_pos,-List.length_eq_zero_iff,-Int.natCast_eq_zero,wrap64,aW (l:=f.d),h3];exact bF (j+1) (by simp[h4]) (by omega) (by omega)
 obtain rfl:j=f.d.length:=by omega
 have h3:(f.d.map Ds.v).take f.d.length=f.d.map Ds.v:=List.take_of_length_le (by simp)
 simp +contextual (disch:=omega) [-getElem?_pos,-List.length_eq_zero_iff,-Int.natCast_eq_zero,wrap64,h3];obtain⟨q,hq⟩:∃q,w.s=q:=⟨_,rfl⟩;rw[hq]at Kl wz hpz wO ⊢;have MU:q.length=m:=by rw[←hq];exact hwm.2.1
 have TW:∀k,k<q.length→(nth q k).a.length≤1000∧(nth q k).b.length≤1000:=fun k hk=>by
  have:=(hwm.2.2 k (by omega)).1
  rw[hq]at this;unfold mj at this;omega
 generalize hX:gF c f ⟨f.t,pl⟩ q=X at *;refine go_loop (fun x:Nat×Ws=>axX (.slice none 4 ((jB c f ⟨f.t,pl⟩ ws).map Ws.row)) i (.bQ 20084 1 f.d.length) x.2.o x.2.p x.2.t (jP ws) ws.length i q.length x.1 c.row f.row [i64 f.t,je pl] [i64 w.w,lW q] (eo c f (eQ ⟨f.t,pl⟩ q) x.1).row (dM x.2.h) [dk t k4])
  (fun x=>x.1≤q.length∧po (X.drop x.1) x.2=po X (wN f)∧x.2.v=(eo c f (eQ ⟨f.t,pl⟩ q) x.1).d.map Ds.v∧x.2.h.length=f.d.length) (fun x=>q.length-x.1) (0,wN f) rfl (by simp[wN,eo,hq]) ⟨by omega,rfl,rfl,by simp[wN]⟩ ?_
 rintro⟨n,u⟩ ⟨hn,hu,huv,huh⟩;simp only at hn hu huv huh;simp +contextual (disch:=omega) [-getElem?_pos,-List.length_eq_zero_iff,-Int.natCast_eq_zero,wrap64,aqo];refine bE (fun h5=>?_) (fun h5=>?_)
 ·have h5:n<q.length:=by omega
  have hx:nth (eQ ⟨f.t,pl⟩ q) n=⟨(nth q n).a,(nth q n).b,nth pl n⟩:=KE h5;have wZ:=TW n h5;have QR:=(wz.b.e n h5).1;have hpn:n<pl.length:=by omega
  obtain⟨G1,hP⟩:=Ki (p:=nth (eQ ⟨f.t,pl⟩ q) n) qU (yF cv.k (wz.at_ n (by omega))) (by rw[hx];simp only at QR ⊢;omega)
  rw[qf,if_pos (wz.v n h5),show oN c (eo c f (eQ ⟨f.t,pl⟩ q) n) (nth (eQ ⟨f.t,pl⟩ q) n)=eo c f (eQ ⟨f.t,pl⟩ q) (n+1) from rfl,show sw c (eo c f (eQ ⟨f.t,pl⟩ q) n) (nth (eQ ⟨f.t,pl⟩ q) n)=D8 c f (eQ ⟨f.t,pl⟩ q) n from rfl,hx]at hP;have hXn:nth X n=D8 c f (eQ ⟨f.t,pl⟩ q) n:=by rw[←hX];exact wz.x n h5
  rw[avN (by omega),hXn]at hu
  have awO:=wz.bal n h5;have hrn:=wz.re n h5;have gB:(eo c f (eQ ⟨f.t,pl⟩ q) n).d.length=c.s.length:=(wz.at_ n (by omega)).2.1.1
  have eX:(eo c f (eQ ⟨f.t,pl⟩ q) (n+1)).d.length=c.s.length:=(wz.at_ (n+1) (by omega)).2.1.1
  simp +contextual (disch:=omega) [-getElem?_pos,-List.length_eq_zero_iff,-Int.natCast_eq_zero,wrap64,aW (l:=q),aW (l:=pl),hP];generalize D8 c f (eQ ⟨f.t,pl⟩ q) n=Y at *;obtain⟨fb,hfb⟩:∃fb,eo c f (eQ ⟨f.t,pl⟩ q) (n+1)=fb:=⟨_,rfl⟩;rw[hfb]at awO eX ⊢;have aBc:∀k,k<c.s.length→nth u.v k=(nth (eo c f (eQ ⟨f.t,pl⟩ q) n).d k).v:=fun k hk=>by rw[huv,wF (by omega)]
  have aBd:u.v.length=c.s.length:=by rw[huv];simpa using gB
  refine go_loop (fun x:Nat×Ws=>axV (.slice none 4 ((jB c f ⟨f.t,pl⟩ ws).map Ws.row)) i (.bQ 20084 1 f.d.length) x.2.o x.2.p x.2.t (jP ws) ws.length i q.length n (Ec Y.re) Y.re.length x.1 c.row f.row [i64 f.t,je pl] [i64 w.w,lW q] fb.row (dM x.2.h) [dk t k4])
   (fun x=>x.1≤Y.re.length∧nW x.1 (Y.re.drop x.1) x.2=nW 0 Y.re u∧(x.2.v.length=c.s.length∧x.2.h.length=f.d.length)∧(∀k,k<x.1→nth x.2.v k=(nth fb.d k).v)∧∀k,x.1≤k→k<c.s.length→nth x.2.v k=nth u.v k) (fun x=>Y.re.length-x.1) (0,u) rfl (by simp) ⟨by omega,rfl,⟨aBd,huh⟩,by omega,fun k _ _=>rfl⟩ ?_
  rintro⟨j,z⟩ ⟨hj,hzq,⟨xD,hz4⟩,hz5,hz6⟩;simp only at hj hzq xD hz4 hz5 hz6;simp +contextual (disch:=omega) [-getElem?_pos,-List.length_eq_zero_iff,-Int.natCast_eq_zero,wrap64,aqh];refine bE (fun h7=>?_) (fun h7=>?_)
  ·have h7:j<Y.re.length:=by omega
   rw[avM h7]at hzq;have HB:j<c.s.length:=by omega
   have hjh:j<z.h.length:=by omega
   have hjd:j<fb.d.length:=by omega
   have hv:=aA5 (awO j HB);rw[←aBc j HB,← hz6 j (Nat.le_refl _) HB]at hv;simp +contextual (disch:=omega) [-getElem?_pos,-List.length_eq_zero_iff,-Int.natCast_eq_zero,wrap64,aW (l:=Y.re),lx,aW (l:=fb.d)];refine bF (j+1,tG j (nth Y.re j) z) (by simp[tG,hv]) ⟨by omega,hzq,⟨by simp[tG];omega,by simp[tG];omega⟩,fun k hk=>?_,fun k K0 mP=>?_⟩ (by simp;omega)
   ·show nth (z.v.set j _) k=_
    rw[tg (by omega),hv]
    by_cases e:k=j
    ·rw[if_pos e,e]
    ·rw[if_neg e];exact hz5 k (by simp only at hk;omega)
   ·show nth (z.v.set j _) k=_
    simp only at K0;rw[tg (by omega),if_neg (by omega)]
    exact hz6 k (by omega) mP
  ·obtain rfl:j=Y.re.length:=by omega
   simp only[List.drop_length,nW]at hzq;rw[←hzq]at hu;refine bF (n+1,z) (by simp[hfb]) ⟨by omega,hu,?_,hz4⟩ (by simp;omega)
   rw[hfb];show z.v=fb.d.map Ds.v;refine aA4 (by simp;omega) fun k hk=>?_
   rw[wF (by omega)]
   exact hz5 k (by omega)
 obtain rfl:n=q.length:=by omega
 rw[List.drop_of_length_le (by omega)]at hu
 simp only[po]at hu;have hI:=af5 u.h (by omega) []
 rw[wO,← hu]at RC;simp +contextual (disch:=omega) [-getElem?_pos,-List.length_eq_zero_iff,-Int.natCast_eq_zero,wrap64,aW (l:=jB c f ⟨f.t,pl⟩ ws),RC,huh,hI];exact bF (i+1) (by simp) (by omega) (by omega)
end Go.Proofs.YtocclbnghhaejaaGreat

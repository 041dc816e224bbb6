/- Parts of the proof, joined: Sne1, Cdm1, Blc1, Sam1, Blc2, Blc3, Cbl1, Str1, Pth1, Drv1, Drv2, Drv3, Sam2, Sam3, Chk1, Cwb1, Chk2, Raw1, Raw2, Raw3. -/
import Derived.Test.YtocclbnghhaejaaGreatDf
import Derived.Test.YtocclbnghhaejaaGreatDg
import Derived.Test.YtocclbnghhaejaaGreatDe
namespace Go.Proofs.YtocclbnghhaejaaGreat
set_option linter.all false
open Go.Vm
attribute [local simp] lQ lR kP lP
abbrev G9:Rc:=⟨[0,1],1⟩
abbrev gz:Cs:=⟨⟨2,[⟨0,1,G9⟩]⟩,[]⟩
theorem Ha:eM G9=0:=by
 unfold eM;rw[if_neg (by decide),if_neg (by decide),if_pos,if_pos (by decide)]
 intro i hi;have:i=0∨i=1:=by simp at hi;omega
 rcases this with rfl|rfl<;>decide
theorem aoZ:jd gz.r=0:=by
 unfold jd;rw[if_neg (by decide)]
 show(if lE gz.r 0=0 then (0:Int) else lE gz.r 0)=0
 have:lE gz.r 0=0:=by
  unfold lE;simp only;rw[if_pos (by decide),if_neg (by decide),if_neg (by decide)]
  exact Ha
 rw[if_pos this]
theorem Kp:ew gz=0:=by
 unfold ew;rw[if_neg (fun g=>g aoZ),if_neg (by decide),if_neg (by decide)]
 rfl
theorem Kq:gW gz.r:=⟨by decide,fun i hi=>by
 have:i=0:=by simp at hi;omega
 subst this
 decide⟩
theorem Qr{t:Int}{p:List Int}(h:p.length≤10):jY ⟨t,[],[p]⟩:=fun i=>by
 cases i with
 |zero=>show p.length≤_;omega
 |succ i=>exact Nat.zero_le _
theorem Kr:∀p:List Int,p=[]∨p=[7]→im G9 p:=fun p h=>by
 rcases h with rfl|rfl
 ·exact⟨by decide,by decide,fun i hi=>by simp at hi⟩
 ·refine⟨by decide,by decide,fun i hi=>?_⟩
  have:i=0:=by simp at hi;omega
  subst this;decide
theorem ao0:gw G9 [] 7=0:=by
 unfold gw;rw[if_neg (fun g=>g Ha),if_pos (Kr _ (.inl rfl)),if_pos];refine⟨by decide,fun i hi=>?_⟩
 have:i=0∨i=1:=by simp at hi;omega
 rcases this with rfl|rfl<;>decide
theorem ao1:gw G9 [7] 0=0:=by
 unfold gw;rw[if_neg (fun g=>g Ha),if_pos (Kr _ (.inr rfl)),if_pos];refine⟨by decide,fun i hi=>?_⟩
 have:i=0∨i=1:=by simp at hi;omega
 rcases this with rfl|rfl<;>decide
abbrev yG:Sp:=⟨[7,0],[],[]⟩
abbrev yH:Sp:=⟨[0,0],[],[]⟩
abbrev wS:Fl:=⟨0,[],[[]]⟩
abbrev vH:Fl:=⟨1,[],[[7]]⟩
theorem ao2:ft gz wS:=⟨by decide,⟨rfl,by simp⟩,rfl,fun i hi=>by
 have:i=0:=by simp at hi;omega
 subst this;exact⟨Ha,Kr _ (.inl rfl)⟩⟩
theorem abd:ft gz vH:=⟨by decide,⟨rfl,by simp⟩,rfl,fun i hi=>by
 have:i=0:=by simp at hi;omega
 subst this;exact⟨Ha,Kr _ (.inr rfl)⟩⟩
theorem An(k:Int):kU gz.s k=none:=rfl
theorem Ks:lV gz.r.l ((0:Nat):Int)=some 0:=rfl
theorem Kt:lV gz.r.l ((1:Nat):Int)=none:=rfl
theorem abe:cy gz yG wS 1=⟨[7,0],[],[[7]],[],[7],[0]⟩:=by
 show vS gz yG ⟨[7,0],[],[[]],[],[],[]⟩ 0=_;unfold vS vL vD ff;rw[An,Ks];rfl
theorem abf:cy gz yG wS 2=⟨[7,0],[],[[7]],[],[7,0],[0]⟩:=by
 show vS gz yG (cy gz yG wS 1) 1=_;rw[abe];unfold vS vL vD ff;rw[An,Kt];rfl
theorem abg:cy gz yH vH 1=⟨[0,7],[],[[]],[],[0],[7]⟩:=by
 show vS gz yH ⟨[0,0],[],[[7]],[],[],[]⟩ 0=_;unfold vS vL vD ff;rw[An,Ks];rfl
theorem abh:cy gz yH vH 2=⟨[0,7],[],[[]],[],[0,7],[7]⟩:=by
 show vS gz yH (cy gz yH vH 1) 1=_;rw[abg];unfold vS vL vD ff;rw[An,Kt];rfl
theorem abi{l:List Int}(h:∀x∈l,x=0∨x=7):eJ l 1073741824:=fun i hi=>by
 have:=h _ (oK hi);omega
theorem ao3:m8 gz wS yG=0:=by
 unfold m8;have hr:iq gz wS=0:=by unfold iq;rw[if_neg (fun g=>g Kp),if_pos ao2]
 rw[if_neg (fun g=>g hr)];unfold fP;rw[if_pos (by decide),if_pos (abi (by simp)),if_neg (by decide)]
 refine rW fun k _ hk=>?_;have:k=0∨k=1:=by have:gz.r.n.toNat=2:=rfl;omega
 rcases this with rfl|rfl
 ·unfold vE ml oq ff
  rw[An,Ks];exact ao0
 ·unfold vE ml oq ff
  rw[abe,An,Kt];rfl
theorem ao4:m8 gz vH yH=0:=by
 unfold m8;have hr:iq gz vH=0:=by unfold iq;rw[if_neg (fun g=>g Kp),if_pos abd]
 rw[if_neg (fun g=>g hr)];unfold fP;rw[if_pos (by decide),if_pos (abi (by simp)),if_neg (by decide)]
 refine rW fun k _ hk=>?_;have:k=0∨k=1:=by have:gz.r.n.toNat=2:=rfl;omega
 rcases this with rfl|rfl
 ·unfold vE ml oq ff
  rw[An,Ks];exact ao1
 ·unfold vE ml oq ff
  rw[abg,An,Kt];rfl
abbrev cw:V:=.agg [i64 2,.slice none 4 [[i64 0,i64 1,.slice none 1 [[i64 0],[i64 1]],i64 1]],.slice none 10 []]
theorem B4(G:List aP):aX F 11 [] G=some (.bool true,G) :=
 bM rfl rfl (by
  obtain⟨G1,h1⟩:=aaE gz Kq [];obtain⟨t2,G2,h2⟩:=Qj Kq (f:=wS) (Qr (by decide)) yG
  obtain⟨t3,G3,h3⟩:=Qj Kq (f:=vH) (Qr (by decide)) yH
  have h4:=PY gz Kq vH (Qr (by decide))
  rw[decide_eq_true ⟨Kp,abd⟩]at h4;rw[show kE gz []=.tuple [fl wS,i64 0] by unfold kE;rw[show kV gz []=0 by unfold kV;rw[if_neg (fun g=>g Kp),if_pos ⟨rfl,by simp⟩]];rfl]at h1
  rw[qf,if_pos ao3,show oN gz wS yG=vH by unfold oN;rw[show gz.r.n.toNat=2 from rfl,abf];rfl,show sw gz wS yG=⟨[],[7,0],[0]⟩ by unfold sw;rw[show gz.r.n.toNat=2 from rfl,abf]]at h2
  rw[qf,if_pos ao4,show oN gz vH yH=⟨2,[],[[]]⟩ by unfold oN;rw[show gz.r.n.toNat=2 from rfl,abh];rfl,show sw gz vH yH=⟨[],[0,7],[7]⟩ by unfold sw;rw[show gz.r.n.toNat=2 from rfl,abh]]at h3
  replace h1:aX F 24 [cw,.slice none 4 []] []=some (.tuple [.agg [i64 0,.slice none 4 [],.slice none 1 [[.slice none 1 []]]],i64 0],G1):=h1;replace h2:aX F 53 [cw,.agg [i64 0,.slice none 4 [],.slice none 1 [[.slice none 1 []]]],.agg [.slice none 1 [[i64 7],[i64 0]],.slice none 1 [],.slice none 1 []]] [] =
   some (.tuple [.agg [i64 1,.slice none 4 [],.slice none 1 [[.slice none 1 [[i64 7]]]]],.agg [.slice none 7 [],.slice none 1 [[i64 7],[i64 0]],.slice none 1 [[i64 0]]],i64 0],G2):=h2
  replace h3:aX F 53 [cw,.agg [i64 1,.slice none 4 [],.slice none 1 [[.slice none 1 [[i64 7]]]]],.agg [.slice none 1 [[i64 0],[i64 0]],.slice none 1 [],.slice none 1 []]] [] =
   some (.tuple [.agg [i64 2,.slice none 4 [],.slice none 1 [[.slice none 1 []]]],.agg [.slice none 7 [],.slice none 1 [[i64 0],[i64 7]],.slice none 1 [[i64 7]]],i64 0],G3):=h3
  replace h4:∀G,aX F 21 [cw,.agg [i64 1,.slice none 4 [],.slice none 1 [[.slice none 1 [[i64 7]]]]]] G=some (.bool true,G):=h4;simp[wrap64,UK,h1,h2,h3,h4])
end Go.Proofs.YtocclbnghhaejaaGreat
namespace Go.Proofs.YtocclbnghhaejaaGreat
set_option linter.all false
open Go.Vm
noncomputable abbrev fin(c:Cs)(p:Sp)(f:Fl):Co:=cy c p f c.r.n.toNat
theorem abj{c:Cs}{l:List Int}{j:Int}:∀{m:Nat},(∀i,i<m→0≤nth l i∧nth l i≤1125899906842624)→0≤nD c l j m∧nD c l j m≤1125899906842624*m
 |0,_=>by simp[nD]
 |m+1,h=>by
  have:=abj (c:=c) (j:=j) fun i hi=>h i (Nat.lt_succ_of_lt hi);have:=h m (by omega)
  simp only[nD];split<;>omega
end Go.Proofs.YtocclbnghhaejaaGreat
namespace Go.Proofs.YtocclbnghhaejaaGreat
set_option linter.all false
open Go.Vm
attribute [local simp] lQ lR kP lP
theorem abk{a b:List Int}(h:a.length=b.length)(e:∀i,i<a.length→nth a i=nth b i):a=b:=by
 refine List.ext_getElem h fun i h1 h2=>?_;have:=e i h1;simpa [nth,h1,h2] using this
theorem abl(a b:List Int)(ha:a.length≤17592186044416)(G:List aP):aX F 23 [ints a,ints b] G=some (.bool (decide (a=b)),G) :=
 bM rfl rfl (by
  generalize hW:decide (a=b)=W;by_cases h1:a.length=b.length
  case neg =>
   have ju:¬ (a.length:Int)=b.length:=by omega
   simp (disch:=omega) [-getElem?_pos,wrap64,Nr,ju];rw[←hW,decide_eq_false fun h=>h1 (by rw[h])]
  have ju:(a.length:Int)=b.length:=by omega
  simp (disch:=omega) [-getElem?_pos,wrap64,Nr,ju];refine go_loop (fun i:Nat=>agP (ints a) (ints b) b.length i G) (fun i=>i≤a.length∧∀j,j<i→nth a j=nth b j) (fun i=>a.length-i) 0 rfl (by simp) (by simp) ?_
  rintro i ⟨hi,hj⟩;simp (disch:=omega) [-getElem?_pos,wrap64,UZ];refine bE (fun h5=>?_) (fun h5=>?_)
  ·have h5:i<b.length:=by omega
   have h6:i<a.length:=by omega
   by_cases h7:nth a i=nth b i
   ·simp (disch:=omega) [-getElem?_pos,wrap64,dj (l:=a),dj (l:=b),h7]
    exact bF (i+1) (by simp) ⟨by omega,fun j nO=>by
     by_cases g:j=i
     ·rw[g];exact h7
     ·exact hj j (by omega)⟩ (by omega)
   ·simp (disch:=omega) [-getElem?_pos,wrap64,dj (l:=a),dj (l:=b),h7]
    rw[←hW,decide_eq_false fun h=>h7 (by rw[h])]
  ·rw[←hW,decide_eq_true (abk h1 fun j nO=>hj j (by omega))])
def Ku(c:Cs)(p:Sp)(x:Ps)(j:Nat):Int:=nth p.a j+nD c x.cm j c.r.l.length
def lkP(c:Cs)(f g:Fl)(x:Ps)(i:Nat):Prop :=
 sm (nth g.w i) (nth g.w i).length-sm (nth f.w i) (nth f.w i).length=(nth c.r.l i).r.den*(nth x.lf (nth c.r.l i).f.toNat-nth x.cm i)
noncomputable def siQ(c:Cs)(f g:Fl)(p:Sp)(x:Ps)(i:Nat):Prop:=Z6 (nth f.d i) (nth g.d i) (nth x.re i)∧(nth x.re i).inf=Ku c p x (nth c.s i).n.toNat
noncomputable def Hb(c:Cs)(p:Sp)(x:Ps)(j:Nat):Int:=match kU c.s j with
 |none=>Ku c p x j
 |some i=>oM (nth x.re i)
structure blL(c:Cs)(f g:Fl)(p:Sp)(x:Ps):Prop where
 c0:ew c=0
 f0:ft c f
 g0:ft c g
 p0:mj c p
 re:x.re.length=c.s.length
 lf:(x.lf.length:Int)=c.r.n
 cm:x.cm.length=c.r.l.length
structure blP(c:Cs)(f g:Fl)(p:Sp)(x:Ps):Prop where
 l:blL c f g p x
 all:eJ (p.a++x.lf++x.cm) 274877906944
 lk:∀i,i<c.r.l.length→lkP c f g x i
 si:∀i,i<c.s.length→siQ c f g p x i
 le:∀j,j<c.r.n.toNat→nth x.lf j=Hb c p x j
noncomputable instance {c:Cs} {f g:Fl} {p:Sp} {x:Ps}:Decidable (blP c f g p x):=Classical.propDecidable _
structure Bn(p:Sp)(x:Ps):Prop where
 a:∀j,j<p.a.length→0≤nth p.a j∧nth p.a j≤274877906944
 lf:∀j,j<x.lf.length→0≤nth x.lf j∧nth x.lf j≤274877906944
 cm:∀j,j<x.cm.length→0≤nth x.cm j∧nth x.cm j≤274877906944
theorem Bn.ts{c:Cs}{p:Sp}{x:Ps}(h:Bn p x){j:Int}{m:Nat}(hm:m≤x.cm.length):0≤nD c x.cm j m∧nD c x.cm j m≤1125899906842624*m :=
 abj fun i hi=>by have:=h.cm i (by omega);omega
theorem Qs{c:Cs}{l:List (List Int)}(h:BW c l){i:Nat}(hi:i<c.r.l.length):(nth l i).length≤40∧eJ (nth l i) 2251799813685248:=by
 have a:=h.2 i hi;have:=(te a.1).len;exact⟨by have:=a.2.1;omega,a.2.2.2⟩
end Go.Proofs.YtocclbnghhaejaaGreat
namespace Go.Proofs.YtocclbnghhaejaaGreat
set_option linter.all false
open Go.Vm
theorem Kx{α:Type}[Inhabited α]{a b:List α}(h:a.length=b.length)(e:∀i,i<a.length→nth a i=nth b i):a=b:=by
 refine List.ext_getElem h fun i h1 h2=>?_;have:=e i h1;simpa [nth,h1,h2] using this
theorem apc(a b:Us):eu [0,0,1] a.row b.row=some (decide (a=b)):=by
 obtain⟨x,y,z⟩:=a;obtain⟨u,v,w⟩:=b;simp[eu,kq,Us.mk.injEq,Bool.decide_and,kP];cases z<;>cases w<;>simp
theorem apd(a b:Gs):eu [0,1] a.row b.row=some (decide (a=b)):=by
 obtain⟨x,y⟩:=a;obtain⟨u,v⟩:=b;simp[eu,kq,Gs.mk.injEq,Bool.decide_and,kP];cases y<;>cases v<;>simp
noncomputable instance:DecidableEq Ds:=fun _ _=>Classical.propDecidable _
noncomputable instance:DecidableEq Fl:=fun _ _=>Classical.propDecidable _
def dsL(s:Ds):Prop:=s.u.length≤5864062014805∧s.g.length≤8796093022208
def flL(f:Fl):Prop:=(f.d.length≤1000000000∧∀i,i<f.d.length→dsL (nth f.d i))∧f.w.length≤1000000000∧∀i,i<f.w.length→(nth f.w i).length≤17592186044416
end Go.Proofs.YtocclbnghhaejaaGreat
namespace Go.Proofs.YtocclbnghhaejaaGreat
set_option linter.all false
open Go.Vm
structure Ar(c:Cs)(p:Sp)(x:Ps)(A:List Int)(m:Nat):Prop where
 le:m≤c.r.l.length
 len:A.length=p.a.length
 at_:∀j,j<A.length→nth A j=nth p.a j+nD c x.cm j m
theorem Ar.zero{c:Cs}{p:Sp}{x:Ps}:Ar c p x p.a 0:=⟨by omega,rfl,fun j _=>by simp[nD]⟩
theorem Ar.next{c:Cs}{p:Sp}{x:Ps}{A:List Int}{m:Nat}(h:Ar c p x A m)(hm:m<c.r.l.length){t:Nat}(ht:(nth c.r.l m).t=t):Ar c p x (A.set t (nth A t+nth x.cm m)) (m+1) :=
 ⟨by omega,by simp[h.len],fun j hj=>by
  simp only[List.length_set]at hj;simp only[nD];by_cases g:j=t
  ·subst g
   rw[tg hj,if_pos rfl,if_pos ht,h.at_ j hj,Int.add_assoc]
  ·rw[if_neg (by omega),Int.add_zero,← h.at_ j hj]
   rcases Nat.lt_or_ge t A.length with q|q
   ·rw[tg q,if_neg g]
   ·rw[List.set_eq_of_length_le q]⟩
structure Lv(c:Cs)(p:Sp)(x:Ps)(L:List Int)(i:Nat):Prop where
 le:i≤c.s.length
 len:(L.length:Int)=c.r.n
 Ky:∀k,k<i→nth L (nth c.s k).n.toNat=oM (nth x.re k)
 no:∀j,j<L.length→(∀k,k<i→(nth c.s k).n≠j)→nth L j=Ku c p x j
theorem Lv.next{c:Cs}(cv:wK c){p:Sp}{x:Ps}{L:List Int}{i:Nat}(h:Lv c p x L i)(hi:i<c.s.length){t:Nat}(ht:(nth c.s i).n=t):Lv c p x (L.set t (oM (nth x.re i))) (i+1):=by
 have hs:=(wQ cv hi).1;have hs:0≤(nth c.s i).n∧(nth c.s i).n<c.r.n:=hs;have D7:t<L.length:=by have:=h.len;omega
 have up:∀k,k<i→(nth c.s k).n<(nth c.s i).n:=fun k hk=>by
  have:∀m,k<m→m<c.s.length→(nth c.s k).n<(nth c.s m).n:=by
   intro m;induction m with
   |zero=>intro a;omega
   |succ m ih =>
    intro a b;have s:=(wQ cv b).2.1 (by omega)
    have s:(nth c.s m).n<(nth c.s (m+1)).n:=s;by_cases g:k=m
    ·subst g;exact s
    ·have:=ih (by omega) (by omega);omega
  exact this i hk hi
 refine⟨by omega,by simp[h.len],fun k hk=>?_,fun j hj ji=>?_⟩
 ·by_cases g:k=i
  ·subst g
   rw[ht,Int.toNat_natCast,tg D7,if_pos rfl]
  ·have:=up k (by omega)
   have:=(wQ cv (i:=k) (by omega)).1
   have:0≤(nth c.s k).n∧(nth c.s k).n<c.r.n:=this;rw[tg D7,if_neg (by omega)]
   exact h.Ky k (by omega)
 ·simp only[List.length_set]at hj
  have:=ji i (by omega)
  rw[tg D7,if_neg (by omega)]
  exact h.no j hj fun k hk=>ji k (by omega)
theorem Lv.all{c:Cs}(cv:wK c){p:Sp}{x:Ps}{L:List Int}(h:Lv c p x L c.s.length){j:Nat}(hj:j<L.length):nth L j=Hb c p x j:=by
 unfold Hb;cases hs:kU c.s j with
 |none =>
  exact h.no j hj fun k hk=>by
   have:=Kf hs k hk;exact this
 |some i =>
  obtain⟨a,b⟩:=wR hs;have b:(nth c.s i).n=j:=b;have:=h.Ky i a;rw[b,Int.toNat_natCast]at this;exact this
end Go.Proofs.YtocclbnghhaejaaGreat
namespace Go.Proofs.YtocclbnghhaejaaGreat
set_option linter.all false
open Go.Vm
attribute [local simp] lQ lR kP lP
theorem awg(r:Dr):∃v,(∀G,aX F 86 [dr r] G=some (i64 v,G))∧(((0≤r.tur∧r.tur≤274877906944)∧(0≤r.spi∧r.spi≤274877906944)∧0≤r.ovr∧r.ovr≤274877906944)→v=oM r):=by
 refine⟨IntKind.i64.wrap (IntKind.i64.wrap (r.tur+r.spi)+r.ovr),fun G=>bM rfl rfl (by simp[wrap64,NK]),fun h=>?_⟩
 rw[wrap64 (n:=r.tur+r.spi) (by omega) (by omega),wrap64 (by omega) (by omega)]
 rfl
structure Wn(c:Cs)(f g:Fl)(p:Sp)(x:Ps)(k:Nat)(w:Int)(i:Nat):Prop where
 le:i≤c.s.length
 Ky:∀m,m<i→(nth c.s m).n=k→siQ c f g p x m∧w=oM (nth x.re m)
 no:(∀m,m<i→(nth c.s m).n≠k)→w=Ku c p x k
theorem Wn.all{c:Cs}{f g:Fl}{p:Sp}{x:Ps}{k:Nat}{w:Int}(h:Wn c f g p x k w c.s.length):w=Hb c p x k:=by
 unfold Hb;cases hs:kU c.s k with
 |none=>exact h.no fun m hm=>Kf hs m hm
 |some i =>
  obtain⟨a,b⟩:=wR hs;exact(h.Ky i a b).2
end Go.Proofs.YtocclbnghhaejaaGreat
namespace Go.Proofs.YtocclbnghhaejaaGreat
set_option linter.all false
open Go.Vm
end Go.Proofs.YtocclbnghhaejaaGreat
namespace Go.Proofs.YtocclbnghhaejaaGreat
set_option linter.all false
open Go.Vm
attribute [local simp] lQ lR kP lP
noncomputable def qX(f:Fl)(n:Nat):Int:=dN (fun i=>(nth f.d i).v) n
def Kz(f:Fl)(i:Nat):Int:=sm (nth f.w i) (nth f.w i).length
def uz(f:Fl)(n:Nat):List Int:=(List.range n).map (Kz f)
theorem abw{f:Fl}{n:Nat}:uz f (n+1)=uz f n++[Kz f n]:=by simp[uz,List.range_succ]
@[simp] theorem awh{f:Fl}{n:Nat}:(uz f n).length=n:=by simp[uz]
theorem Hg{c:Cs}{f:Fl}(h:ft c f):∀n:Nat,n≤c.s.length→0≤qX f n∧qX f n≤274877906944*n
 |0,_=>by simp[qX,dN]
 |n+1,hn=>by
  have ih:=Hg h n (by omega)
  have a:=h.2.1.2 n (by omega)
  have b:=a.2.1;have d:=aaa (yn a.1).r;unfold qX at ih ⊢;simp only[dN];omega
noncomputable def Ao(t:Option Nat)(c:Cs)(f:Fl):V:=.tuple (if iq c f=0 then [i64 (qX f f.d.length),.slice t 1 ((uz f f.w.length).map fun n=>[i64 n]),i64 0] else [i64 0,.slice t 1 [],i64 (iq c f)])
theorem ape{c:Cs}(hr:gW c.r){f:Fl}(hf:jY f)(G:List aP):aX F 17 [cs c,fl f] G=some (Ao (some 0) c f,G) :=
 bM rfl rfl (by
  have hd:=PZ c hr f hf;generalize hW:Ao (some 0) c f=W;unfold Ao at hW;by_cases hz:iq c f=0
  case neg =>
   rw[if_neg hz]at hW;simp +contextual (disch:=omega) [-getElem?_pos,-List.length_eq_zero_iff,-Int.natCast_eq_zero,wrap64,No,hd,hz];exact hW
  rw[if_pos hz]at hW;obtain⟨z1,z2⟩:=wx hz;have cv:=jZ z1;have kv:=j0 cv.k;have GW:=cv.s;have HC:=kv.len;have A3:=z2.2.1.1;have Qn:=z2.2.2.1;simp +contextual (disch:=omega) [-getElem?_pos,-List.length_eq_zero_iff,-Int.natCast_eq_zero,wrap64,No,hd,hz];refine go_loop (fun i:Nat=>agy (qX f i) (m7 f.d) f.d.length i f.row G) (fun i=>i≤f.d.length) (fun i=>f.d.length-i) 0 rfl (by simp[qX,dN]) (by simp) ?_
  rintro i hi;have h1:=Hg z2 i (by omega)
  simp +contextual (disch:=omega) [-getElem?_pos,-List.length_eq_zero_iff,-Int.natCast_eq_zero,wrap64,UQ];refine bE (fun h5=>?_) (fun h5=>?_)
  ·have h5:i<f.d.length:=by omega
   have h2:=Hg z2 (i+1) (by omega)
   have e:qX f (i+1)=qX f i+(nth f.d i).v:=rfl;rw[e]at h2;simp +contextual (disch:=omega) [-getElem?_pos,-List.length_eq_zero_iff,-Int.natCast_eq_zero,wrap64,a8 (l:=f.d)];exact bF (i+1) (by simp[e]) (by omega) (by omega)
  obtain rfl:i=f.d.length:=by omega
  refine go_loop (fun k:Nat=>agA (qX f f.d.length) (.slice (some 1043) 1 ((uz f k).map fun n=>[i64 n])) (je f.w) f.w.length k k G) (fun k=>k≤f.w.length) (fun k=>f.w.length-k) 0 rfl (by simp[uz]) (by simp) ?_
  rintro k hk;simp +contextual (disch:=omega) [-getElem?_pos,-List.length_eq_zero_iff,-Int.natCast_eq_zero,wrap64,UR];refine bE (fun h5=>?_) (fun h5=>?_)
  ·have h5:k<f.w.length:=by omega
   have w1:=Qs z2.2.2 (i:=k) (by omega)
   have e1:=anN (nth f.w k) w1.1 w1.2;simp +contextual (disch:=omega) [-getElem?_pos,-List.length_eq_zero_iff,-Int.natCast_eq_zero,wrap64,a8 (l:=f.w),e1];exact bF (k+1) (by simp[abw,Kz]) (by omega) (by omega)
  obtain rfl:k=f.w.length:=by omega
  exact hW)
end Go.Proofs.YtocclbnghhaejaaGreat
namespace Go.Proofs.YtocclbnghhaejaaGreat
set_option linter.all false
open Go.Vm
theorem Kv.Qx{r:Rr}(h:Kv r):∀{j i:Nat},i<j→j<r.l.length→(nth r.l i).f<(nth r.l j).f
 |j+1,i,hi,hj=>by
  have a:=(h.link hj).2.1 (by omega)
  rw[Nat.add_sub_cancel]at a;rcases Nat.lt_or_ge i j with g|g
  ·exact Int.lt_trans (Kv.Qx h g (by omega)) a
  ·obtain rfl:i=j:=by omega
   exact a
theorem Kv.inj{r:Rr}(h:Kv r){i j:Nat}(hi:i<r.l.length)(hj:j<r.l.length)(e:(nth r.l i).f=(nth r.l j).f):i=j:=by
 rcases Nat.lt_trichotomy i j with g|g|g
 ·have:=h.Qx g hj;omega
 ·exact g
 ·have:=h.Qx g hi;omega
structure Pa0(l:List Lk)(n m:Int)(L:List Int):Prop where
 one:n∈L
 last:m∈L
 clo:∀a∈L,a≠m→∀i,i<l.length→(nth l i).f=a→(nth l i).t∈L
 le:(L.length:Int)≤m+1
end Go.Proofs.YtocclbnghhaejaaGreat
namespace Go.Proofs.YtocclbnghhaejaaGreat
set_option linter.all false
open Go.Vm
abbrev B6(r:Rr):Cs:=⟨r,[]⟩
abbrev Qy(a:List Int):Sp:=⟨a,[],[]⟩
theorem awk(r:Rr)(k:Int):kU (B6 r).s k=none:=rfl
theorem awl{r:Rr}{p:Sp}{v:Co}{k:Nat}:ff (B6 r) p v k=nth v.arr k:=rfl
structure Drw(r:Rr)(a:List Int)(w:List (List Int))(k:Nat):Prop where
 v:∀j,j<k→vE (B6 r) (Qy a) (cy (B6 r) (Qy a) ⟨0,[],w⟩ j) j=0
 arr:∀j,j<a.length→nth (cy (B6 r) (Qy a) ⟨0,[],w⟩ k).arr j≤30*(2:Int) ^ k
end Go.Proofs.YtocclbnghhaejaaGreat
namespace Go.Proofs.YtocclbnghhaejaaGreat
set_option linter.all false
open Go.Vm
def Qz:Option (List Int)→V
 |none=>.bV
 |some p=>.slice none 1 (p.map fun n=>[i64 n])
def vI(W:List (Option (List Int))):List V:=W.map Qz
@[simp] theorem awn{W:List (Option (List Int))}:(vI W).length=W.length:=by simp[vI]
@[simp] theorem awo{W:List (Option (List Int))}{i:Nat}{p:List Int}:(vI W).set i (.slice none 1 (p.map fun n=>[i64 n]))=vI (W.set i (some p)):=by simp[vI,Qz]
theorem apf:∀{W:List (Option (List Int))} {cs:List V} {off:Nat},cs.drop off=vI W→chunks 1 cs off W.length=W.map fun o=>[Qz o]
 |[],cs,off,h=>by simp[chunks]
 |o::W,cs,off,h=>by
  have h2:cs.drop (off+1)=vI W:=by rw[←List.drop_drop,h];simp[vI]
  rw[List.length_cons,chunks,apf h2,h];simp[vI]
@[simp] theorem awp{W:List (Option (List Int))}{d:Nat}:((vI W).all fun v => !V.cD d v)=true:=by
 simp only[vI,List.all_map,List.all_eq_true,Function.comp];intro o _;cases o<;>rfl
end Go.Proofs.YtocclbnghhaejaaGreat
namespace Go.Proofs.YtocclbnghhaejaaGreat
set_option linter.all false
open Go.Vm
theorem awq(r:Rr):jw (B6 r) []=⟨0,[],List.replicate r.l.length []⟩:=rfl
theorem awr{r:Rr}(hk:jd r=0)(hn:r.n≤6):ew (B6 r)=0:=by
 unfold ew;rw[if_neg (by omega:¬ (jd r≠0)),if_neg (by omega:¬ (12<r.n)),if_neg (by simp)]
 rfl
instance:Inhabited Ps:=⟨⟨[],[],[]⟩⟩
theorem apg{c:Cs}{f:Fl}(hc:ew c=0)(h:ft c f):flL f:=by
 have cv:=jZ hc;have kv:=j0 cv.k;have hs:=cv.s;have hl:=kv.len;have h1:=h.2.1;have h2:=h.2.2;have h3:=Ai hc h1;refine⟨⟨by have:=h1.1;omega,fun i hi=>?_⟩,by have:=h2.1;omega,fun i hi=>?_⟩
 ·have:=h3.2 i hi
  exact⟨by omega,by omega⟩
 ·have:=(Qs h2 (i:=i) (by have:=h2.1;omega)).1
  omega
end Go.Proofs.YtocclbnghhaejaaGreat
namespace Go.Proofs.YtocclbnghhaejaaGreat
set_option linter.all false
open Go.Vm
attribute [local simp] lQ lR kP lP
theorem aph(a b:List Int)(ha:a.length≤17592186044416)(G:List aP):aX F 127 [ints a,ints b] G=some (.bool (decide (a=b)),G) :=
 bM rfl rfl (by
  generalize hW:decide (a=b)=W;by_cases h1:a.length=b.length
  case neg =>
   have ju:¬ (a.length:Int)=b.length:=by omega
   simp +contextual (disch:=omega) [-getElem?_pos,-List.length_eq_zero_iff,-Int.natCast_eq_zero,wrap64,NW,ju];rw[←hW,decide_eq_false fun h=>h1 (by rw[h])]
  have ju:(a.length:Int)=b.length:=by omega
  simp +contextual (disch:=omega) [-getElem?_pos,-List.length_eq_zero_iff,-Int.natCast_eq_zero,wrap64,NW,ju];refine go_loop (fun i:Nat=>aja (ints a) (ints b) b.length i G) (fun i=>i≤a.length∧∀j,j<i→nth a j=nth b j) (fun i=>a.length-i) 0 rfl (by simp) (by simp) ?_
  rintro i ⟨hi,hj⟩;simp +contextual (disch:=omega) [-getElem?_pos,-List.length_eq_zero_iff,-Int.natCast_eq_zero,wrap64,WA];refine bE (fun h5=>?_) (fun h5=>?_)
  ·have h5:i<b.length:=by omega
   have h6:i<a.length:=by omega
   by_cases h7:nth a i=nth b i
   ·simp +contextual (disch:=omega) [-getElem?_pos,-List.length_eq_zero_iff,-Int.natCast_eq_zero,wrap64,dj (l:=a),dj (l:=b),h7]
    exact bF (i+1) (by simp) ⟨by omega,fun j nO=>by
     by_cases g:j=i
     ·rw[g];exact h7
     ·exact hj j (by omega)⟩ (by omega)
   ·simp +contextual (disch:=omega) [-getElem?_pos,-List.length_eq_zero_iff,-Int.natCast_eq_zero,wrap64,dj (l:=a),dj (l:=b),h7]
    rw[←hW,decide_eq_false fun h=>h7 (by rw[h])]
  ·rw[←hW,decide_eq_true (abk h1 fun j nO=>hj j (by omega))])
theorem api(a b:List Gs)(ha:a.length≤8796093022208)(G:List aP):aX F 126 [jJ a,jJ b] G=some (.bool (decide (a=b)),G) :=
 bM rfl rfl (by
  generalize hW:decide (a=b)=W;by_cases h1:a.length=b.length
  case neg =>
   have ju:¬ (a.length:Int)=b.length:=by omega
   simp +contextual (disch:=omega) [-getElem?_pos,-List.length_eq_zero_iff,-Int.natCast_eq_zero,wrap64,NV,ju];rw[←hW,decide_eq_false fun h=>h1 (by rw[h])]
  have ju:(a.length:Int)=b.length:=by omega
  simp +contextual (disch:=omega) [-getElem?_pos,-List.length_eq_zero_iff,-Int.natCast_eq_zero,wrap64,NV,ju];refine go_loop (fun i:Nat=>ai8 (jJ a) (jJ b) b.length i G) (fun i=>i≤a.length∧∀j,j<i→nth a j=nth b j) (fun i=>a.length-i) 0 rfl (by simp) (by simp) ?_
  rintro i ⟨hi,hj⟩;simp +contextual (disch:=omega) [-getElem?_pos,-List.length_eq_zero_iff,-Int.natCast_eq_zero,wrap64,Wz];refine bE (fun h5=>?_) (fun h5=>?_)
  ·have h5:i<b.length:=by omega
   have h6:i<a.length:=by omega
   have he:=apd (nth a i) (nth b i);simp only[Gs.row]at he;by_cases h7:nth a i=nth b i
   ·rw[decide_eq_true h7]at he
    simp +contextual (disch:=omega) [-getElem?_pos,-List.length_eq_zero_iff,-Int.natCast_eq_zero,wrap64,a8 (l:=a),a8 (l:=b),V.iy,he];exact bF (i+1) (by simp) ⟨by omega,fun j nO=>by
     by_cases g:j=i
     ·rw[g];exact h7
     ·exact hj j (by omega)⟩ (by omega)
   ·rw[decide_eq_false h7]at he
    simp +contextual (disch:=omega) [-getElem?_pos,-List.length_eq_zero_iff,-Int.natCast_eq_zero,wrap64,a8 (l:=a),a8 (l:=b),V.iy,he];rw[←hW,decide_eq_false fun h=>h7 (by rw[h])]
  ·rw[←hW,decide_eq_true (Kx h1 fun j nO=>hj j (by omega))])
noncomputable instance:DecidableEq Dr:=fun _ _=>Classical.propDecidable _
noncomputable instance:DecidableEq Ps:=fun _ _=>Classical.propDecidable _
theorem apj(a b:Ds)(h:dsL a)(G:List aP):aX F 72 [dst a,dst b] G=some (.bool (decide (a=b)),G) :=
 bM rfl rfl (by
  generalize hW:decide (a=b)=W;have no:a≠b→W=false:=fun h=>by rw[←hW,decide_eq_false h]
  by_cases h1:a.v=b.v
  case neg =>
   simp +contextual (disch:=omega) [-getElem?_pos,-List.length_eq_zero_iff,-Int.natCast_eq_zero,wrap64,Dl,h1];exact no fun e=>h1 (by rw[e])
  by_cases h2:a.rel=b.rel
  case neg =>
   simp +contextual (disch:=omega) [-getElem?_pos,-List.length_eq_zero_iff,-Int.natCast_eq_zero,wrap64,Dl,h1,h2];exact no fun e=>h2 (by rw[e])
  by_cases h3:(a.u.length:Int)=b.u.length
  case neg =>
   simp +contextual (disch:=omega) [-getElem?_pos,-List.length_eq_zero_iff,-Int.natCast_eq_zero,wrap64,Dl,h1,h2,h3];exact no fun e=>h3 (by rw[e])
  have e:=api a.g b.g h.2;by_cases h4:a.g=b.g
  case neg =>
   rw[decide_eq_false h4]at e;simp +contextual (disch:=omega) [-getElem?_pos,-List.length_eq_zero_iff,-Int.natCast_eq_zero,wrap64,Dl,h1,h2,h3,e];exact no fun e=>h4 (by rw[e])
  rw[decide_eq_true h4]at e;have xi:=h.1;simp +contextual (disch:=omega) [-getElem?_pos,-List.length_eq_zero_iff,-Int.natCast_eq_zero,wrap64,Dl,h1,h2,h3,e];refine go_loop (fun i:Nat=>ahO b.u.length i a.row b.row G) (fun i=>i≤a.u.length∧∀j,j<i→nth a.u j=nth b.u j) (fun i=>a.u.length-i) 0 rfl (by simp) (by simp) ?_
  rintro i ⟨hi,hj⟩;simp +contextual (disch:=omega) [-getElem?_pos,-List.length_eq_zero_iff,-Int.natCast_eq_zero,wrap64,VG];refine bE (fun h5=>?_) (fun h5=>?_)
  ·have h5:i<b.u.length:=by omega
   have h6:i<a.u.length:=by omega
   have he:=apc (nth a.u i) (nth b.u i);simp only[Us.row]at he;by_cases h7:nth a.u i=nth b.u i
   ·rw[decide_eq_true h7]at he
    simp +contextual (disch:=omega) [-getElem?_pos,-List.length_eq_zero_iff,-Int.natCast_eq_zero,wrap64,a8 (l:=a.u),a8 (l:=b.u),V.iy,he];exact bF (i+1) (by simp) ⟨by omega,fun j nO=>by
     by_cases g:j=i
     ·rw[g];exact h7
     ·exact hj j (by omega)⟩ (by omega)
   ·rw[decide_eq_false h7]at he
    simp +contextual (disch:=omega) [-getElem?_pos,-List.length_eq_zero_iff,-Int.natCast_eq_zero,wrap64,a8 (l:=a.u),a8 (l:=b.u),V.iy,he];exact no fun h=>h7 (by rw[h])
  ·have h8:a.u=b.u:=Kx (by omega) fun j nO=>hj j (by omega)
   rw[←hW,decide_eq_true];obtain⟨v,r,u,g⟩:=a;obtain⟨v2,r2,u2,g2⟩:=b;simp only at h1 h2 h4 h8;subst h1 h2 h4 h8;rfl)
theorem apk(a b:List Int)(h:a.length≤17592186044416)(G:List aP):aX F 73 [wv a,wv b] G=some (.bool (decide (a=b)),G) :=
 bM rfl rfl (by
  have e1:=aph a b h;simp +contextual (disch:=omega) [-getElem?_pos,-List.length_eq_zero_iff,-Int.natCast_eq_zero,wrap64,VH,e1])
theorem abx(a b:Fl)(h:flL a)(G:List aP):aX F 26 [fl a,fl b] G=some (.bool (decide (a=b)),G) :=
 bM rfl rfl (by
  generalize hW:decide (a=b)=W;have no:a≠b→W=false:=fun h=>by rw[←hW,decide_eq_false h]
  by_cases h1:a.t=b.t
  case neg =>
   simp +contextual (disch:=omega) [-getElem?_pos,-List.length_eq_zero_iff,-Int.natCast_eq_zero,wrap64,FD,h1];exact no fun e=>h1 (by rw[e])
  by_cases h2:(a.d.length:Int)=b.d.length
  case neg =>
   simp +contextual (disch:=omega) [-getElem?_pos,-List.length_eq_zero_iff,-Int.natCast_eq_zero,wrap64,FD,h1,h2];exact no fun e=>h2 (by rw[e])
  by_cases h3:(a.w.length:Int)=b.w.length
  case neg =>
   simp +contextual (disch:=omega) [-getElem?_pos,-List.length_eq_zero_iff,-Int.natCast_eq_zero,wrap64,FD,h1,h2,h3];exact no fun e=>h3 (by rw[e])
  have A3:=h.1.1;have Qn:=h.2.1;simp +contextual (disch:=omega) [-getElem?_pos,-List.length_eq_zero_iff,-Int.natCast_eq_zero,wrap64,FD,h1,h2,h3];refine go_loop (fun i:Nat=>agR b.d.length i a.row b.row G) (fun i=>i≤a.d.length∧∀j,j<i→nth a.d j=nth b.d j) (fun i=>a.d.length-i) 0 rfl (by simp) (by simp) ?_
  rintro i ⟨hi,hj⟩;simp +contextual (disch:=omega) [-getElem?_pos,-List.length_eq_zero_iff,-Int.natCast_eq_zero,wrap64,U0];refine bE (fun h5=>?_) (fun h5=>?_)
  ·have h5:i<b.d.length:=by omega
   have h6:i<a.d.length:=by omega
   have he:=apj (nth a.d i) (nth b.d i) (h.1.2 i h6);by_cases h7:nth a.d i=nth b.d i
   ·rw[decide_eq_true h7]at he
    simp +contextual (disch:=omega) [-getElem?_pos,-List.length_eq_zero_iff,-Int.natCast_eq_zero,wrap64,a8 (l:=a.d),a8 (l:=b.d),he];exact bF (i+1) (by simp) ⟨by omega,fun j nO=>by
     by_cases g:j=i
     ·rw[g];exact h7
     ·exact hj j (by omega)⟩ (by omega)
   ·rw[decide_eq_false h7]at he
    simp +contextual (disch:=omega) [-getElem?_pos,-List.length_eq_zero_iff,-Int.natCast_eq_zero,wrap64,a8 (l:=a.d),a8 (l:=b.d),he];exact no fun h=>h7 (by rw[h])
  have h8:a.d=b.d:=Kx (by omega) fun j nO=>hj j (by omega)
  simp +contextual (disch:=omega) [-getElem?_pos,-List.length_eq_zero_iff,-Int.natCast_eq_zero,wrap64,h3];refine go_loop (fun i:Nat=>agT b.w.length i a.row b.row G) (fun i=>i≤a.w.length∧∀j,j<i→nth a.w j=nth b.w j) (fun i=>a.w.length-i) 0 rfl (by simp) (by simp) ?_
  rintro i ⟨hi,hj⟩;simp +contextual (disch:=omega) [-getElem?_pos,-List.length_eq_zero_iff,-Int.natCast_eq_zero,wrap64,U3];refine bE (fun h5=>?_) (fun h5=>?_)
  ·have h5:i<b.w.length:=by omega
   have h6:i<a.w.length:=by omega
   have he:=apk (nth a.w i) (nth b.w i) (h.2.2 i h6);by_cases h7:nth a.w i=nth b.w i
   ·rw[decide_eq_true h7]at he
    simp +contextual (disch:=omega) [-getElem?_pos,-List.length_eq_zero_iff,-Int.natCast_eq_zero,wrap64,a8 (l:=a.w),a8 (l:=b.w),he];exact bF (i+1) (by simp) ⟨by omega,fun j nO=>by
     by_cases g:j=i
     ·rw[g];exact h7
     ·exact hj j (by omega)⟩ (by omega)
   ·rw[decide_eq_false h7]at he
    simp +contextual (disch:=omega) [-getElem?_pos,-List.length_eq_zero_iff,-Int.natCast_eq_zero,wrap64,a8 (l:=a.w),a8 (l:=b.w),he];exact no fun h=>h7 (by rw[h])
  have h9:a.w=b.w:=Kx (by omega) fun j nO=>hj j (by omega)
  rw[←hW,decide_eq_true];obtain⟨t,d,w⟩:=a;obtain⟨t2,d2,w2⟩:=b;simp only at h1 h8 h9;subst h1 h8 h9;rfl)
theorem apl{c:Cs}(hr:gW c.r){f:Fl}(hf:jY f)(G:List aP):aX F 18 [cs c,fl f] G=some (Ao (some 0) c f,G) :=
 bM rfl rfl (by
  have hC:=BX c hr;have hV:=DY c hr f hf;generalize hW:Ao (some 0) c f=W;unfold Ao at hW;by_cases hz:iq c f=0
  case neg =>
   rw[if_neg hz]at hW;by_cases hc:ew c=0
   ·have hn:¬ ft c f:=fun h=>hz (by unfold iq;rw[if_neg (by omega),if_pos h])
    have e:iq c f=50:=by unfold iq;rw[if_neg (by omega),if_neg hn]
    rw[decide_eq_false (fun h=>hn h.2)]at hV;rw[e]at hW;simp +contextual (disch:=omega) [-getElem?_pos,-List.length_eq_zero_iff,-Int.natCast_eq_zero,wrap64,IS,hC,hc,hV];exact hW
   ·have e:iq c f=ew c:=by unfold iq;rw[if_pos hc]
    rw[e]at hW;simp +contextual (disch:=omega) [-getElem?_pos,-List.length_eq_zero_iff,-Int.natCast_eq_zero,wrap64,IS,hC,hc];exact hW
  rw[if_pos hz]at hW;obtain⟨z1,z2⟩:=wx hz;have cv:=jZ z1;have kv:=j0 cv.k;have GW:=cv.s;have HC:=kv.len;have A3:=z2.2.1.1;have Qn:=z2.2.2.1;rw[decide_eq_true ⟨z1,z2⟩]at hV;simp +contextual (disch:=omega) [-getElem?_pos,-List.length_eq_zero_iff,-Int.natCast_eq_zero,wrap64,IS,hC,z1,hV];refine go_loop (fun i:Nat=>agC (qX f i) (m7 f.d) f.d.length i f.row G) (fun i=>i≤f.d.length) (fun i=>f.d.length-i) 0 rfl (by simp[qX,dN]) (by simp) ?_
  rintro i hi;have h1:=Hg z2 i (by omega)
  simp +contextual (disch:=omega) [-getElem?_pos,-List.length_eq_zero_iff,-Int.natCast_eq_zero,wrap64,US];refine bE (fun h5=>?_) (fun h5=>?_)
  ·have h5:i<f.d.length:=by omega
   have h2:=Hg z2 (i+1) (by omega)
   have e:qX f (i+1)=qX f i+(nth f.d i).v:=rfl;rw[e]at h2;simp +contextual (disch:=omega) [-getElem?_pos,-List.length_eq_zero_iff,-Int.natCast_eq_zero,wrap64,a8 (l:=f.d)];exact bF (i+1) (by simp[e]) (by omega) (by omega)
  obtain rfl:i=f.d.length:=by omega
  refine go_loop (fun k:Nat=>agE (qX f f.d.length) (.slice (some 1046) 1 ((uz f k).map fun n=>[i64 n])) (je f.w) f.w.length k k G) (fun k=>k≤f.w.length) (fun k=>f.w.length-k) 0 rfl (by simp[uz]) (by simp) ?_
  rintro k hk;simp +contextual (disch:=omega) [-getElem?_pos,-List.length_eq_zero_iff,-Int.natCast_eq_zero,wrap64,UT];refine bE (fun h5=>?_) (fun h5=>?_)
  ·have h5:k<f.w.length:=by omega
   have w1:=Qs z2.2.2 (i:=k) (by omega)
   have e1:=anO (nth f.w k) w1.1 w1.2;simp +contextual (disch:=omega) [-getElem?_pos,-List.length_eq_zero_iff,-Int.natCast_eq_zero,wrap64,a8 (l:=f.w),e1];exact bF (k+1) (by simp[abw,Kz]) (by omega) (by omega)
  obtain rfl:k=f.w.length:=by omega
  exact hW)
def KA(l:List Ds):Prop:=l.length≤1000∧∀i,i<l.length→(nth l i).u.length≤5864062014805∧(nth l i).g.length≤8796093022208
theorem apm(l:List Ds)(h:KA l)(G:List aP):aX F 56 [m7 l] G=some (.dh G.length 4 l.length,G++[.cells (gX l)]) :=
 bM rfl rfl (by
  obtain⟨hl,hs⟩:=h;simp +contextual (disch:=omega) [-getElem?_pos,-List.length_eq_zero_iff,-Int.natCast_eq_zero,wrap64,Ny];refine go_loop (fun i:Nat=>Vk i (m7 l) l.length i (gX (l.take i)) G) (fun i=>i≤l.length) (fun i=>l.length-i) 0 rfl (by simp[gX]) (by simp) ?_
  rintro i hi;simp +contextual (disch:=omega) [-getElem?_pos,-List.length_eq_zero_iff,-Int.natCast_eq_zero,wrap64,Nx];refine bE (fun h5=>?_) (fun h5=>?_)
  ·have h5:i<l.length:=by omega
   have hu:=(hs i h5).1;have hg:=(hs i h5).2;have hm:Nat.min i l.length=i:=Nat.min_eq_left hi;simp +contextual (disch:=omega) [-getElem?_pos,-List.length_eq_zero_iff,-Int.natCast_eq_zero,wrap64,a8 (l:=l)];exact bF (i+1) (by simp[jI h5,← P4]) (by omega) (by omega)
  ·obtain rfl:i=l.length:=by omega
   simp +contextual (disch:=omega) [-getElem?_pos,-List.length_eq_zero_iff,-Int.natCast_eq_zero,wrap64,sr,P3,List.take_length])
theorem apn(c:Cs)(hr:gW c.r)(l:List Ds)(BS:KA l):∃G',aX F 25 [cs c,m7 l] []=some (kE c l,G'):=by
 have h1:=BX c hr;by_cases hz:ew c=0
 ·have h3:=aaC c.r hr
  rw[if_pos (jZ hz).k]at h3;have h4:=apm l BS;have h5:=DY c hr (jw c l) (aaD c l);by_cases hs:mi c l
  ·rw[decide_eq_true ⟨hz,(D0 hz).2 hs⟩]at h5
   rw[show kE c l=.tuple [fl (jw c l),i64 0] by unfold kE;rw[show kV c l=0 by unfold kV;rw[if_neg (by omega),if_pos hs]];rfl]
   refine⟨[.cells []],bM rfl rfl ?_⟩;simp only[fl,Fl.row,jw,je,List.map_replicate]at h5;simp +contextual (disch:=omega) [-getElem?_pos,-List.length_eq_zero_iff,-Int.natCast_eq_zero,wrap64,Br,h1,hz,h3,h4,h5,sr,jw]
  ·rw[decide_eq_false (fun g=>hs ((D0 hz).1 g.2))]at h5
   rw[show kE c l=.tuple [.agg [i64 0,.slice (some 0) 4 [],.slice (some 0) 1 []],i64 3] by unfold kE;rw[show kV c l=3 by unfold kV;rw[if_neg (by omega),if_neg hs]];rfl]
   refine⟨[.cells []],bM rfl rfl ?_⟩;simp only[fl,Fl.row,jw,je,List.map_replicate]at h5;simp +contextual (disch:=omega) [-getElem?_pos,-List.length_eq_zero_iff,-Int.natCast_eq_zero,wrap64,Br,h1,hz,h3,h4,h5,sr]
 ·rw[show kE c l=.tuple [.agg [i64 0,.slice (some 0) 4 [],.slice (some 0) 1 []],i64 (ew c)] by unfold kE;rw[show kV c l=ew c by unfold kV;rw[if_pos hz]];rw[if_neg hz]]
  refine⟨[],bM rfl rfl ?_⟩;simp +contextual (disch:=omega) [-getElem?_pos,-List.length_eq_zero_iff,-Int.natCast_eq_zero,wrap64,Br,h1,hz]
end Go.Proofs.YtocclbnghhaejaaGreat
namespace Go.Proofs.YtocclbnghhaejaaGreat
set_option linter.all false
open Go.Vm
theorem flat_get{α:Type}[Inhabited α]{row:α→List V}{k:Nat}(hk:∀a,(row a).length=k){l:List α}{i j:Nat}(hi:i<l.length)(hj:j<k):((l.map row).flatten)[i*k+j]?=(row (nth l i))[j]?:=by
 rw[←J8 hk hi,List.getElem?_take_of_lt hj,List.getElem?_drop]
theorem QA{α:Type}[Inhabited α]{row:α→List V}{k:Nat}(hk:∀a,(row a).length=k){l:List α}{i j:Nat}(hi:i<l.length)(hj:j<k){x:α}{v:V}(hx:row x=(row (nth l i)).set j v) :
  ((l.map row).flatten).set (i*k+j) v=((l.set i x).map row).flatten:=by
 rw[←GX hk hi];refine List.ext_getElem? fun m=>?_;have hl:=DZ hk l;have kK:i*k+k≤l.length*k:=by rw[←Nat.succ_mul];exact Nat.mul_le_mul_right k hi
 rw[AH,hk,hl,List.getElem?_set,hl];by_cases g:i*k≤m∧m<i*k+k∧m<l.length*k
 ·obtain⟨d,rfl⟩:∃d,m=i*k+d:=⟨m-i*k,by omega⟩
  rw[if_pos g,Nat.add_sub_cancel_left,hx,List.getElem?_set,hk];by_cases e:j=d
  ·subst e;rw[if_pos rfl,if_pos rfl,if_pos (by omega),if_pos (by omega)]
  ·rw[if_neg (by omega),if_neg e,flat_get hk hi (by omega)]
 ·rw[if_neg g,if_neg (by omega)]
def spU(r:Dr)(v:Int):Dr:=⟨r.inf,r.los,r.tur,v,r.ovr,r.pow,r.jW⟩
def vU(s:Ds)(v:Int):Ds:=⟨v,s.rel,s.u,s.g⟩
theorem aws{l:List Dr}{i:Nat}(h:i<l.length){v:Int}:(pK l).set (i*7+3) (i64 v)=pK (l.set i (spU (nth l i) v)):=QA (row:=Dr.row) (fun _=>rfl) h (by omega) rfl
theorem awt{l:List Ds}{i:Nat}(h:i<l.length){v:Int}:(gX l).set (i*4) (i64 v)=gX (l.set i (vU (nth l i) v)):=QA (row:=Ds.row) (k:=4) (j:=0) (fun _=>rfl) h (by omega) rfl
theorem awu(l:List Dr):(l.map Dr.row).flatten=pK l:=rfl
@[simp] theorem awv{l:List Dr}{a b:Nat}:(pK l).map (V.iT a b)=pK l:=BZ (row:=Dr.row) (fun a=>by simp) l
end Go.Proofs.YtocclbnghhaejaaGreat
namespace Go.Proofs.YtocclbnghhaejaaGreat
set_option linter.all false
open Go.Vm
attribute [local simp] lQ lR kP lP
theorem apr{J:List aP}{n:Int}{l:List Int}{k:Nat}(h:n<1∨l.length≤k):aX F 16 [.bG 0 0,i64 n] (dk l k::J)=some (i64 0,(dk l k::J)) :=
 bM rfl rfl (by
  by_cases h1:n<1
  ·simp[Bk,h1]
  ·have h2:l.length≤k:=h.resolve_left h1
   simp[Bk,h1,h2])
theorem aps{J:List aP}{n:Int}{l:List Int}{k:Nat}{v:Int}(h1:1≤n)(h2:l[k]?=some v)(hk:k<9223372036854775807):aX F 16 [.bG 0 0,i64 n] (dk l k::J)=some (i64 (By v n),(dk l (k+1)::J)) :=
 bM rfl rfl (by
  have hn:¬ n<1:=by omega
  have hl:¬ l.length≤k:=by have:=(List.getElem?_eq_some_iff.1 h2).1;omega
  simp (disch:=omega) [-getElem?_pos,wrap64,Bk,hn,hl,h2,YE])
theorem apt{l:List Int}{k:Nat}(hd:db l k)(n:Int)(hn:n≤4611686018427387904)(J:List aP) :
  ∃v k',aX F 16 [.bG 0 0,i64 n] (dk l k::J)=some (i64 v,dk l k'::J)∧db l k'∧0≤v∧(v<n∨v=0):=by
 by_cases h:n<1∨l.length≤k
 ·exact⟨0,k,apr h,hd,by omega,.inr rfl⟩
 ·obtain⟨h1,h2⟩:=hd
  have h3:k<l.length:=by omega
  have h4:=aps (J:=J) (n:=n) (l:=l) (k:=k) (v:=nth l k) (by omega) (dj h3) (by omega)
  have h5:=YF (v:=nth l k) (n:=n) (by omega) hn
  exact⟨_,_,h4,⟨by omega,h2⟩,h5.1,.inl h5.2⟩
def Ap(l:List Si):List V:=(l.map Si.row).flatten
theorem apu(l:List Si):(l.map Si.row).flatten=Ap l:=rfl
@[simp] theorem aww{l:List Si}:(Ap l).length=l.length*10:=DZ (row:=Si.row) (fun _=>rfl) l
@[simp] theorem awx{l:List Si}{d:Nat}:((Ap l).all fun v => !V.cD d v)=true:=G4 (row:=Si.row) (fun a=>by simp) l
@[simp] theorem awy{l:List Si}{a b:Nat}:(Ap l).map (V.iT a b)=Ap l:=BZ (row:=Si.row) (fun a=>by simp) l
theorem apv{l:List Si}{n:Nat}(h:n=l.length):kr [none,some 2,none,none,none,none,none,some 6,some 3,none] (chunks 10 (Ap l) 0 n)=some (l.map Si.row):=by
 subst h;rw[GY (row:=Si.row) (fun _=>rfl) rfl];exact GZ (fun a=>by simp) l
theorem apw{l:List Si}{i:Nat}(h:i<l.length){v:Int}:(Ap l).set (i*10) (i64 v)=Ap (l.set i ⟨v,(nth l i).d⟩):=QA (row:=Si.row) (k:=10) (j:=0) (x:=⟨v,(nth l i).d⟩) (fun _=>rfl) h (by omega) rfl
instance:Inhabited Cs:=⟨⟨⟨0,[]⟩,[]⟩⟩
instance:Inhabited Fl:=⟨⟨0,[],[]⟩⟩
set_option maxRecDepth 100000 in
set_option maxHeartbeats 8000000 in
theorem aby{c x z:Cs}(hc:gW c.r)(hx:gW x.r)(hz:gW z.r){s y:Fl}(hs:jY s)(hy:jY y){time:Int}(hb:jY ⟨time,y.d,y.w⟩)(gN:KA s.d){J0:aP}{k:cz}
  (hk:∀a,k (.exit 0) ⟨[(7,.bf 7 0),(13,.bf 13 0),(14,.bf 14 0),(93,.slice none 3 [c.row,x.row,z.row]),(94,i64 3),(95,i64 3),(96,.bool a)],[(7,s.row),(13,y.row),(14,[i64 time,m7 y.d,je y.w])],[],[J0,.cells [],.cells []]⟩) :
  go (aX F) UE (UF (.slice none 3 [c.row,x.row,z.row]) 3 0 s.row y.row [i64 time,.dh 1 4 y.d.length,.dh 2 1 y.w.length] [J0,.cells (gX y.d),.cells (km y.w)]) k:=by
 obtain⟨b,hbb⟩:∃b:Fl,b=⟨time,y.d,y.w⟩:=⟨_,rfl⟩;obtain⟨J,hJ⟩:∃J:List aP,J=[J0,.cells [],.cells []]:=⟨_,rfl⟩;rw[←hbb]at hb;rw[←hJ]at hk;have hbr:b.row=[i64 time,m7 y.d,je y.w]:=by rw[hbb]
 rw[←hbr]at hk;refine go_loop (fun i:Nat=>UF (.slice none 3 [c.row,x.row,z.row]) 3 i s.row y.row b.row J) (fun i=>i≤3) (fun i=>3-i) 0 rfl (by rw[hbr,hJ];simp +contextual (disch:=omega) [-getElem?_pos,-List.length_eq_zero_iff,-Int.natCast_eq_zero,wrap64,sr,Ag]) (by simp) ?_
 rintro i hi;simp +contextual (disch:=omega) [-getElem?_pos,-List.length_eq_zero_iff,-Int.natCast_eq_zero,wrap64,UD];refine bE (fun h5=>?_) (fun h5=>?_)
 case refine_2 =>
  obtain rfl:i=3:=by omega
  exact hk _
 obtain⟨u,hu,hru⟩:∃u:Cs,([c.row,x.row,z.row]:List (List V))[i]?=some u.row∧gW u.r:=by
  have:i=0∨i=1∨i=2:=by omega
  rcases this with rfl|rfl|rfl
  ·exact⟨c,rfl,hc⟩
  ·exact⟨x,rfl,hx⟩
  ·exact⟨z,rfl,hz⟩
 simp +contextual (disch:=omega) [-getElem?_pos,-List.length_eq_zero_iff,-Int.natCast_eq_zero,wrap64,hu];have hC1:=GV u hru;have hC2:=BX u hru;refine go_loop (fun j:Nat=>agd (.slice none 3 [c.row,x.row,z.row]) 3 i (.slice none 3 [s.row,y.row,b.row]) 3 j s.row y.row b.row u.row J) (fun j=>j≤3) (fun j=>3-j) 0 rfl (by simp) (by simp) ?_
 rintro j hj;simp +contextual (disch:=omega) [-getElem?_pos,-List.length_eq_zero_iff,-Int.natCast_eq_zero,wrap64,UC];refine bE (fun h6=>?_) (fun h6=>?_)
 ·obtain⟨v,hv,qB⟩:∃v:Fl,([s.row,y.row,b.row]:List (List V))[j]?=some v.row∧jY v:=by
   have:j=0∨j=1∨j=2:=by omega
   rcases this with rfl|rfl|rfl
   ·exact⟨s,rfl,hs⟩
   ·exact⟨y,rfl,hy⟩
   ·exact⟨b,rfl,hb⟩
  have GP:=PY u hru v qB;have GQ:=DY u hru v qB;have KB:=ape hru qB;have KC:=apl hru qB;by_cases tK:iq u v=0
  ·rw[Ao,if_pos tK]at KB KC
   obtain⟨z1,z2⟩:=wx tK;have hI:=abl (uz v v.w.length) (uz v v.w.length) (by
    have:=z2.2.2.1;have:=(j0 (jZ z1).k).len;simp;omega)
   rw[decide_eq_true rfl]at hI;simp +contextual (disch:=omega) [-getElem?_pos,-List.length_eq_zero_iff,-Int.natCast_eq_zero,wrap64,hv,KB,KC,hC1,hC2,GP,GQ,hI];exact bF (j+1) (by simp) (by omega) (by omega)
  ·rw[Ao,if_neg tK]at KB KC
   have hI:=abl [] [] (by simp)
   rw[decide_eq_true rfl]at hI;simp only[ints,List.map_nil]at hI;simp +contextual (disch:=omega) [-getElem?_pos,-List.length_eq_zero_iff,-Int.natCast_eq_zero,wrap64,hv,KB,KC,hC1,hC2,GP,GQ,hI];exact bF (j+1) (by simp) (by omega) (by omega)
 obtain⟨G1,hA⟩:=aaE u hru s.d;obtain⟨G2,hB⟩:=apn u hru s.d gN;by_cases B7:kV u s.d=0
 ·rw[kE,if_pos B7]at hA hB
  have ei:ew u=0∧mi u s.d:=by
   unfold kV at B7;split at B7
   ·rename_i g;exact absurd B7 g
   ·rename_i g
    split at B7
    ·exact⟨Decidable.of_not_not g,by assumption⟩
    ·cases B7
  have D9:=abx (jw u s.d) (jw u s.d) (apg ei.1 ((D0 ei.1).2 ei.2));rw[decide_eq_true rfl]at D9;generalize jw u s.d=e at *;simp +contextual (disch:=omega) [-getElem?_pos,-List.length_eq_zero_iff,-Int.natCast_eq_zero,wrap64,hA,hB,D9];exact bF (i+1) (by simp) (by omega) (by omega)
 ·rw[kE,if_neg B7]at hA hB
  have D9:=abx ⟨0,[],[]⟩ ⟨0,[],[]⟩ ⟨⟨by simp,fun i hi=>absurd hi (by simp)⟩,by simp,fun i hi=>absurd hi (by simp)⟩
  rw[decide_eq_true rfl]at D9;simp only[fl,Fl.row,m7,je,List.map_nil]at D9;simp +contextual (disch:=omega) [-getElem?_pos,-List.length_eq_zero_iff,-Int.natCast_eq_zero,wrap64,hA,hB,D9];exact bF (i+1) (by simp) (by omega) (by omega)
set_option maxRecDepth 100000 in
set_option maxHeartbeats 8000000 in
theorem apx{l:List Int}(hl:l.length≤9223372036854775807)(c:Cs)(hc:gW c.r)(s:Fl)(hs:jY s)(QB:∀x∈s.d,x.u.length≤5864062014805∧x.g.length≤8796093022208)(node time:Int) :
  ∃G',aX F 3 [ints l,cs c,fl s,i64 node,i64 time] []=some (.bool true,G'):=by
 suffices h:gy (aX F) 3 [ints l,cs c,fl s,i64 node,i64 time] [] fun v _=>v=.bool true by
  obtain⟨_,G,h,rfl⟩:=h;exact⟨G,h⟩
 refine gS rfl rfl ?_;by_cases h1:l.length≤500
 case neg=>simp +contextual (disch:=omega) [-getElem?_pos,-List.length_eq_zero_iff,-Int.natCast_eq_zero,wrap64,zP,B4,s8,h1]
 by_cases h2:(20:Int)<c.s.length
 case pos=>simp +contextual (disch:=omega) [-getElem?_pos,-List.length_eq_zero_iff,-Int.natCast_eq_zero,wrap64,zP,B4,s8,h1,h2]
 by_cases h3:(60:Int)<c.r.l.length
 case pos=>simp +contextual (disch:=omega) [-getElem?_pos,-List.length_eq_zero_iff,-Int.natCast_eq_zero,wrap64,zP,B4,s8,h1,h2,h3]
 by_cases h4:(20:Int)<s.d.length
 case pos=>simp +contextual (disch:=omega) [-getElem?_pos,-List.length_eq_zero_iff,-Int.natCast_eq_zero,wrap64,zP,B4,s8,h1,h2,h3,h4]
 by_cases h5:(60:Int)<s.w.length
 case pos=>simp +contextual (disch:=omega) [-getElem?_pos,-List.length_eq_zero_iff,-Int.natCast_eq_zero,wrap64,zP,B4,s8,h1,h2,h3,h4,h5]
 obtain⟨x,y,k1,n1,gB,sy,iP,_⟩:=Qq (l:=l) (k:=0) ⟨by omega,hl⟩
 have hz:=sy.eH;have cv:=jZ hz;have kv:=j0 cv.k;have qU:=sy.small;have Qp:=sy.n;have hs3:=sy.s;have hCp:=P7 y (Ai hz iP.2.1) (G7 cv.k iP.2.2);have hy:jY y:=yF cv.k iP;have oZ:jY ⟨time,y.d,y.w⟩:=fun i=>hy i;have gN:KA s.d:=⟨by omega,fun i hi=>QB _ (oK hi)⟩
 by_cases hx:x.s=[]
 ·have Ft:x.s.isEmpty=true:=by rw[hx];rfl
  have hx0:¬ (0<x.s.length):=by rw[hx];simp
  have Fm:=fun(K:cz)=>aby (c:=c) (x:=x) (z:=x) hc qU qU hs hy oZ gN (J0:=dk l k1) (k:=K);have e0:x.s.map Si.row=[]:=by rw[hx];rfl
  simp only[Cs.row,qe,e0]at Fm;simp (config:={ maxSteps:=2000000 }) +contextual (disch:=omega) [-getElem?_pos,-List.length_eq_zero_iff,-Int.natCast_eq_zero,wrap64,zP,B4,s8,h1,h2,h3,h4,h5,F6,n1,hCp,Ft,hx0,e0];refine Fm _ fun a=>?_;simp +contextual (disch:=omega) [-getElem?_pos,-List.length_eq_zero_iff,-Int.natCast_eq_zero,wrap64,h1]
 have Ft:x.s.isEmpty=false:=by cases e:x.s with|nil=>exact absurd e hx|cons=>rfl
 have Cj:0<x.s.length:=by cases e:x.s with|nil=>exact absurd e hx|cons=>simp
 obtain⟨i,k2,n2,eX,hi⟩:=apt gB x.s.length (by omega) [aP.cells (gX y.d),aP.cells (km y.w)]
 obtain⟨i,rfl⟩:∃n:Nat,i=n:=⟨i.toNat,by omega⟩
 have HS:i<x.s.length:=by omega
 obtain⟨qs,Ea⟩:∃qs,x.s.set i ⟨node,(nth x.s i).d⟩=qs:=⟨_,rfl⟩;have mz:qs.length=x.s.length:=by rw[←Ea];simp
 have Fm:=fun(K:cz)=>aby (c:=c) (x:=x) (z:=⟨x.r,qs⟩) hc qU qU hs hy oZ gN (J0:=dk l k2) (k:=K);simp (config:={ maxSteps:=2000000 }) +contextual (disch:=omega) [-getElem?_pos,-List.length_eq_zero_iff,-Int.natCast_eq_zero,wrap64,zP,B4,s8,h1,h2,h3,h4,h5,F6,n1,hCp,Ft,Cj,n2,apu,apw,Ea,mz,apv];refine Fm _ fun a=>?_;simp +contextual (disch:=omega) [-getElem?_pos,-List.length_eq_zero_iff,-Int.natCast_eq_zero,wrap64,h1]
end Go.Proofs.YtocclbnghhaejaaGreat
namespace Go.Proofs.YtocclbnghhaejaaGreat
set_option linter.all false
open Go.Vm
open Go.ChangeShapes Go.WideShapes Go.ChangeAt Go.RowKit
theorem QF{H:Type}{d:Nat}{vs:List V}{x:DataW H}(h:iC Tryz.prog d 247 vs x):∃p:Pt,vs=p.row∧True:=by
 have hl:=oG (n:=2) (by kernel_rfl) h
 obtain⟨a0,h0,_⟩:=kd (i:=0) (off:=0) (ty:=3) (k:=.i64) (by kernel_rfl) (by kernel_rfl) h
 obtain⟨a1,h1,_⟩:=kd (i:=1) (off:=1) (ty:=3) (k:=.i64) (by kernel_rfl) (by kernel_rfl) h
 match vs,hl with
 |[b0,b1],_ =>
  simp at h0 h1;subst h0;subst h1;exact⟨⟨a0,a1⟩,rfl,trivial⟩
theorem apG{H:Type}{d:Nat}{vs:List V}{x:DataW H}(h:iC Tryz.prog d 250 vs x):∃p:Bd,vs=p.row∧True:=by
 have hl:=oG (n:=2) (by kernel_rfl) h
 obtain⟨a0,h0,_⟩:=kd (i:=0) (off:=0) (ty:=3) (k:=.i64) (by kernel_rfl) (by kernel_rfl) h
 obtain⟨a1,h1,_⟩:=kd (i:=1) (off:=1) (ty:=3) (k:=.i64) (by kernel_rfl) (by kernel_rfl) h
 match vs,hl with
 |[b0,b1],_ =>
  simp at h0 h1;subst h0;subst h1;exact⟨⟨a0,a1⟩,rfl,trivial⟩
theorem apH{H:Type}{d:Nat}{vs:List V}{x:DataW H}(h:iC Tryz.prog d 195 vs x):∃u:Un,vs=u.row∧True:=by
 have hl:=oG (n:=6) (by kernel_rfl) h
 obtain⟨_,_,g0⟩:=sW (i:=0) (off:=0) (n:=1) (ty:=40) (by kernel_rfl) h
 obtain⟨a1,h1,_⟩:=kd (i:=1) (off:=1) (ty:=3) (k:=.i64) (by kernel_rfl) (by kernel_rfl) h
 obtain⟨a2,h2,_⟩:=kd (i:=2) (off:=2) (ty:=3) (k:=.i64) (by kernel_rfl) (by kernel_rfl) h
 obtain⟨_,_,g3⟩:=sW (i:=3) (off:=3) (n:=1) (ty:=193) (by kernel_rfl) h
 obtain⟨a4,h4,_⟩:=kd (i:=4) (off:=4) (ty:=3) (k:=.i64) (by kernel_rfl) (by kernel_rfl) h
 obtain⟨a5,h5,_⟩:=kd (i:=5) (off:=5) (ty:=3) (k:=.i64) (by kernel_rfl) (by kernel_rfl) h
 obtain⟨t,h0,_⟩:=zL (e:=247) Pt.row (fun _=>True) (by kernel_rfl) (fun d vs x h=>QF h) g0
 obtain⟨z,h3,_⟩:=zL (e:=250) Bd.row (fun _=>True) (by kernel_rfl) (fun d vs x h=>apG h) g3
 have c0:Tryz.prog.cellsOf 247=2:=by kernel_rfl
 have c3:Tryz.prog.cellsOf 250=2:=by kernel_rfl
 rw[c0]at h0;rw[c3]at h3
 match vs,hl with
 |[b0,b1,b2,b3,b4,b5],_ =>
  simp at h0 h1 h2 h3 h4 h5;subst h0;subst h1;subst h2;subst h3;subst h4;subst h5;exact⟨⟨t,a1,a2,z,a4,a5⟩,rfl,trivial⟩
theorem apI{H:Type}{d:Nat}{vs:List V}{x:DataW H}(h:iC Tryz.prog d 252 vs x):∃u:Rt,vs=u.row∧True:=by
 have hl:=oG (n:=2) (by kernel_rfl) h
 obtain⟨a0,h0,_⟩:=kd (i:=0) (off:=0) (ty:=3) (k:=.i64) (by kernel_rfl) (by kernel_rfl) h
 obtain⟨_,_,g1⟩:=sW (i:=1) (off:=1) (n:=1) (ty:=40) (by kernel_rfl) h
 obtain⟨t,h1,_⟩:=zL (e:=247) Pt.row (fun _=>True) (by kernel_rfl) (fun d vs x h=>QF h) g1
 have c0:Tryz.prog.cellsOf 247=2:=by kernel_rfl
 rw[c0]at h1
 match vs,hl with
 |[b0,b1],_ =>
  simp at h0 h1;subst h0;subst h1;exact⟨⟨a0,t⟩,rfl,trivial⟩
theorem apJ{H:Type}{d:Nat}{vs:List V}{x:DataW H}(h:iC Tryz.prog d 199 vs x):∃u:Gt,vs=u.row∧True:=by
 have hl:=oG (n:=3) (by kernel_rfl) h
 obtain⟨_,_,g0⟩:=sW (i:=0) (off:=0) (n:=1) (ty:=197) (by kernel_rfl) h
 obtain⟨a1,h1,_⟩:=kd (i:=1) (off:=1) (ty:=3) (k:=.i64) (by kernel_rfl) (by kernel_rfl) h
 obtain⟨a2,h2,_⟩:=kd (i:=2) (off:=2) (ty:=3) (k:=.i64) (by kernel_rfl) (by kernel_rfl) h
 obtain⟨t,h0,_⟩:=zL (e:=252) Rt.row (fun _=>True) (by kernel_rfl) (fun d vs x h=>apI h) g0
 have c0:Tryz.prog.cellsOf 252=2:=by kernel_rfl
 rw[c0]at h0
 match vs,hl with
 |[b0,b1,b2],_ =>
  simp at h0 h1 h2;subst h0;subst h1;subst h2;exact⟨⟨t,a1,a2⟩,rfl,trivial⟩
theorem apK{H:Type}{d:Nat}{vs:List V}{x:DataW H}(h:iC Tryz.prog d 42 vs x):∃u:Rs,vs=u.cells∧True:=by
 have hl:=oG (n:=6) (by kernel_rfl) h
 obtain⟨_,_,g0⟩:=sW (i:=0) (off:=0) (n:=1) (ty:=40) (by kernel_rfl) h
 obtain⟨a1,h1,_⟩:=kd (i:=1) (off:=1) (ty:=3) (k:=.i64) (by kernel_rfl) (by kernel_rfl) h
 obtain⟨a2,h2,_⟩:=kd (i:=2) (off:=2) (ty:=3) (k:=.i64) (by kernel_rfl) (by kernel_rfl) h
 obtain⟨a3,h3,_⟩:=kd (i:=3) (off:=3) (ty:=3) (k:=.i64) (by kernel_rfl) (by kernel_rfl) h
 obtain⟨a4,h4,_⟩:=kd (i:=4) (off:=4) (ty:=3) (k:=.i64) (by kernel_rfl) (by kernel_rfl) h
 obtain⟨a5,h5,_⟩:=kd (i:=5) (off:=5) (ty:=3) (k:=.i64) (by kernel_rfl) (by kernel_rfl) h
 obtain⟨t,h0,_⟩:=zL (e:=247) Pt.row (fun _=>True) (by kernel_rfl) (fun d vs x h=>QF h) g0
 have c0:Tryz.prog.cellsOf 247=2:=by kernel_rfl
 rw[c0]at h0
 match vs,hl with
 |[b0,b1,b2,b3,b4,b5],_ =>
  simp at h0 h1 h2 h3 h4 h5;subst h0;subst h1;subst h2;subst h3;subst h4;subst h5;exact⟨⟨t,a1,a2,a3,a4,a5⟩,rfl,trivial⟩
theorem apL{H:Type}{d:Nat}{vs:List V}{x:DataW H}(h:iC Tryz.prog d 46 vs x):∃u:Dm,vs=u.row∧True:=by
 have hl:=oG (n:=9) (by kernel_rfl) h
 obtain⟨_,_,g0⟩:=sW (i:=0) (off:=0) (n:=6) (ty:=42) (by kernel_rfl) h
 obtain⟨_,_,g1⟩:=sW (i:=1) (off:=6) (n:=1) (ty:=43) (by kernel_rfl) h
 obtain⟨_,_,g2⟩:=sW (i:=2) (off:=7) (n:=1) (ty:=44) (by kernel_rfl) h
 obtain⟨a3,h3,_⟩:=kd (i:=3) (off:=8) (ty:=3) (k:=.i64) (by kernel_rfl) (by kernel_rfl) h
 obtain⟨r,h0,_⟩:=apK g0;obtain⟨u,h1,_⟩:=zL (e:=195) Un.row (fun _=>True) (by kernel_rfl) (fun d vs x h=>apH h) g1
 obtain⟨g,h2,_⟩:=zL (e:=199) Gt.row (fun _=>True) (by kernel_rfl) (fun d vs x h=>apJ h) g2
 have c1:Tryz.prog.cellsOf 195=6:=by kernel_rfl
 have c2:Tryz.prog.cellsOf 199=3:=by kernel_rfl
 rw[c1]at h1;rw[c2]at h2
 match vs,hl with
 |[b0,b1,b2,b3,b4,b5,b6,b7,b8],_ =>
  simp at h0 h1 h2 h3;obtain⟨rfl,rfl,rfl,rfl,rfl,rfl⟩:=h0;subst h1;subst h2;subst h3;exact⟨⟨r,u,g,a3⟩,rfl,trivial⟩
end Go.Proofs.YtocclbnghhaejaaGreat
namespace Go.Proofs.YtocclbnghhaejaaGreat
set_option linter.all false
open Go.Vm
open Go.ChangeShapes Go.WideShapes Go.ChangeAt Go.RowKit
theorem apM{H:Type}{d:Nat}{vs:List V}{x:DataW H}(h:oH Tryz.prog d 204 vs x):∃s:Us,vs=s.row∧True:=by
 have h:=h.1;have hl:=oG (n:=3) (by kernel_rfl) h
 obtain⟨a0,h0,_⟩:=kd (i:=0) (off:=0) (ty:=3) (k:=.i64) (by kernel_rfl) (by kernel_rfl) h
 obtain⟨a1,h1,_⟩:=kd (i:=1) (off:=1) (ty:=3) (k:=.i64) (by kernel_rfl) (by kernel_rfl) h
 obtain⟨_,_,g2⟩:=sW (i:=2) (off:=2) (n:=1) (ty:=4) (by kernel_rfl) h
 obtain⟨a2,h2⟩:=Ty (by kernel_rfl) g2
 match vs,hl with
 |[b0,b1,b2],_ =>
  simp at h0 h1 h2;subst h0;subst h1;subst h2;exact⟨⟨a0,a1,a2⟩,rfl,trivial⟩
theorem apN{H:Type}{d:Nat}{vs:List V}{x:DataW H}(h:oH Tryz.prog d 207 vs x):∃s:Gs,vs=s.row∧True:=by
 have h:=h.1;have hl:=oG (n:=2) (by kernel_rfl) h
 obtain⟨a0,h0,_⟩:=kd (i:=0) (off:=0) (ty:=3) (k:=.i64) (by kernel_rfl) (by kernel_rfl) h
 obtain⟨_,_,g2⟩:=sW (i:=1) (off:=1) (n:=1) (ty:=4) (by kernel_rfl) h
 obtain⟨a2,h2⟩:=Ty (by kernel_rfl) g2
 match vs,hl with
 |[b0,b1],_ =>
  simp at h0 h2;subst h0;subst h2;exact⟨⟨a0,a2⟩,rfl,trivial⟩
theorem apO{H:Type}{d:Nat}{vs:List V}{x:DataW H}(h:oH Tryz.prog d 108 vs x):∃u:Ds,vs=u.row∧u.u.length≤5864062014805∧u.g.length≤8796093022208:=by
 have hl:=oG (n:=4) (by kernel_rfl) h.1
 obtain⟨a0,h0,_⟩:=kd (i:=0) (off:=0) (ty:=3) (k:=.i64) (by kernel_rfl) (by kernel_rfl) h.1
 obtain⟨a1,h1,_⟩:=kd (i:=1) (off:=1) (ty:=3) (k:=.i64) (by kernel_rfl) (by kernel_rfl) h.1
 obtain⟨_,_,g2⟩:=vl (i:=2) (off:=2) (n:=1) (ty:=105) (by kernel_rfl) h
 obtain⟨_,_,g3⟩:=vl (i:=3) (off:=3) (n:=1) (ty:=106) (by kernel_rfl) h
 obtain⟨u,h2,_,w2⟩:=A5 (e:=204) Us.row (fun _=>True) (by kernel_rfl) (fun d vs x h=>apM h) g2
 obtain⟨g,h3,_,w3⟩:=A5 (e:=207) Gs.row (fun _=>True) (by kernel_rfl) (fun d vs x h=>apN h) g3
 have c2:Tryz.prog.cellsOf 204=3:=by kernel_rfl
 have c3:Tryz.prog.cellsOf 207=2:=by kernel_rfl
 have b2:Tryz.prog.bytesOf 204=24:=by kernel_rfl
 have b3:Tryz.prog.bytesOf 207=16:=by kernel_rfl
 rw[b2]at w2;rw[b3]at w3;unfold reachBytes at w2 w3;rw[c2]at h2;rw[c3]at h3
 match vs,hl with
 |[b0,b1,b2,b3],_ =>
  simp at h0 h1 h2 h3;subst h0;subst h1;subst h2;subst h3;exact⟨⟨a0,a1,u,g⟩,rfl,by simp only;omega,by simp only;omega⟩
end Go.Proofs.YtocclbnghhaejaaGreat
namespace Go.Proofs.YtocclbnghhaejaaGreat
set_option linter.all false
open Go.Vm
theorem abH{H:Type}{d:Nat}{vs:List V}{x:DataW H}(h:oH Tryz.prog d 22 vs x):∃l:List Int,vs=[ints l]∧l.length≤17592186044416:=by
 obtain⟨l,h2,_,w2⟩:=A5 (e:=3) (fun n:Int=>[i64 n]) (fun _=>True) (by kernel_rfl) (fun d vs x h=>by
  obtain⟨n,e,_⟩:=Ff (k:=.i64) (by kernel_rfl) h.1
  exact⟨n,e,trivial⟩) h
 have c2:Tryz.prog.cellsOf 3=1:=by kernel_rfl
 have b2:Tryz.prog.bytesOf 3=8:=by kernel_rfl
 rw[b2]at w2;unfold reachBytes at w2;rw[c2]at h2;exact⟨l,h2,by omega⟩
theorem apP{H:Type}{d:Nat}{vs:List V}{x:DataW H}(h:oH Tryz.prog d 128 vs x):∃r:Rc,vs=r.row∧r.w.length≤17592186044416:=by
 have hl:=oG (n:=2) (by kernel_rfl) h.1
 obtain⟨_,_,g0⟩:=vl (i:=0) (off:=0) (n:=1) (ty:=22) (by kernel_rfl) h
 obtain⟨a1,h1,_⟩:=kd (i:=1) (off:=1) (ty:=3) (k:=.i64) (by kernel_rfl) (by kernel_rfl) h.1
 obtain⟨w,h0,w0⟩:=abH g0
 match vs,hl with
 |[b0,b1],_ =>
  simp at h0 h1;subst h0;subst h1;exact⟨⟨w,a1⟩,rfl,w0⟩
theorem apQ{H:Type}{d:Nat}{vs:List V}{x:DataW H}(h:oH Tryz.prog d 130 vs x):∃r:Lk,vs=r.row∧r.r.w.length≤17592186044416:=by
 have hl:=oG (n:=4) (by kernel_rfl) h.1
 obtain⟨a0,h0,_⟩:=kd (i:=0) (off:=0) (ty:=3) (k:=.i64) (by kernel_rfl) (by kernel_rfl) h.1
 obtain⟨a1,h1,_⟩:=kd (i:=1) (off:=1) (ty:=3) (k:=.i64) (by kernel_rfl) (by kernel_rfl) h.1
 obtain⟨_,_,g2⟩:=vl (i:=2) (off:=2) (n:=2) (ty:=128) (by kernel_rfl) h
 obtain⟨r,h2,w2⟩:=apP g2
 match vs,hl with
 |[b0,b1,b2,b3],_ =>
  simp at h0 h1 h2;obtain⟨e1,e2⟩:=h2;subst h0;subst h1;subst e1;subst e2;exact⟨⟨a0,a1,r⟩,rfl,w2⟩
theorem apR{H:Type}{d:Nat}{vs:List V}{x:DataW H}(h:oH Tryz.prog d 25 vs x):∃r:Rr,vs=r.row∧gW r:=by
 have hl:=oG (n:=2) (by kernel_rfl) h.1
 obtain⟨a0,h0,_⟩:=kd (i:=0) (off:=0) (ty:=3) (k:=.i64) (by kernel_rfl) (by kernel_rfl) h.1
 obtain⟨_,_,g1⟩:=vl (i:=1) (off:=1) (n:=1) (ty:=23) (by kernel_rfl) h
 obtain⟨l,h1,i1,w1⟩:=A5 (e:=130) Lk.row (fun r=>r.r.w.length≤17592186044416) (by kernel_rfl) (fun d vs x h=>apQ h) g1
 have c1:Tryz.prog.cellsOf 130=4:=by kernel_rfl
 have b1:Tryz.prog.bytesOf 130=48:=by kernel_rfl
 rw[b1]at w1;unfold reachBytes at w1;rw[c1]at h1
 match vs,hl with
 |[x0,x1],_ =>
  simp at h0 h1;subst h0;subst h1;exact⟨⟨a0,l⟩,rfl,by simp only;omega,fun i hi=>i1 _ (oK hi)⟩
theorem apS{H:Type}{d:Nat}{vs:List V}{x:DataW H}(h:oH Tryz.prog d 48 vs x):∃s:Si,vs=s.row∧True:=by
 have hl:=oG (n:=10) (by kernel_rfl) h.1
 obtain⟨a0,h0,_⟩:=kd (i:=0) (off:=0) (ty:=3) (k:=.i64) (by kernel_rfl) (by kernel_rfl) h.1
 obtain⟨_,_,g1⟩:=vl (i:=1) (off:=1) (n:=9) (ty:=46) (by kernel_rfl) h
 obtain⟨u,h1,_⟩:=apL g1.1
 match vs,hl with
 |b0::bs,hl =>
  simp at h0 hl;have h2:bs=u.row:=by
   have:=h1;simp only[List.drop_succ_cons,List.drop_zero]at this
   rwa [List.take_of_length_le (by omega)]at this
  subst h0;subst h2;exact⟨⟨a0,u⟩,rfl,trivial⟩
theorem apT{H:Type}{d:Nat}{vs:List V}{x:DataW H}(h:oH Tryz.prog d 28 vs x):∃c:Cs,vs=c.row∧gW c.r:=by
 have hl:=oG (n:=3) (by kernel_rfl) h.1
 obtain⟨_,_,g0⟩:=vl (i:=0) (off:=0) (n:=2) (ty:=25) (by kernel_rfl) h
 obtain⟨_,_,g1⟩:=vl (i:=1) (off:=2) (n:=1) (ty:=26) (by kernel_rfl) h
 obtain⟨r,h0,w0⟩:=apR g0;obtain⟨s,h1,_,_⟩:=A5 (e:=48) Si.row (fun _=>True) (by kernel_rfl) (fun d vs x h=>apS h) g1
 have c1:Tryz.prog.cellsOf 48=10:=by kernel_rfl
 rw[c1]at h1
 match vs,hl with
 |[b0,b1,b2],_ =>
  simp at h0 h1;obtain⟨e1,e2⟩:=h0;subst e1;subst e2;subst h1;exact⟨⟨r,s⟩,rfl,w0⟩
theorem apU{H:Type}{d:Nat}{vs:List V}{x:DataW H}(h:oH Tryz.prog d 138 vs x):∃p:List Int,vs=[ints p]∧p.length≤17592186044416:=by
 have hl:=oG (n:=1) (by kernel_rfl) h.1
 obtain⟨_,_,g0⟩:=vl (i:=0) (off:=0) (n:=1) (ty:=22) (by kernel_rfl) h
 obtain⟨p,h0,w0⟩:=abH g0
 match vs,hl with
 |[b0],_ =>
  simp at h0;subst h0;exact⟨p,rfl,w0⟩
theorem apV{H:Type}{d:Nat}{vs:List V}{x:DataW H}(h:oH Tryz.prog d 32 vs x) :
  ∃f:Fl,vs=f.row∧jY f∧∀s∈f.d,s.u.length≤5864062014805∧s.g.length≤8796093022208:=by
 have hl:=oG (n:=3) (by kernel_rfl) h.1
 obtain⟨a0,h0,_⟩:=kd (i:=0) (off:=0) (ty:=3) (k:=.i64) (by kernel_rfl) (by kernel_rfl) h.1
 obtain⟨_,_,g1⟩:=vl (i:=1) (off:=1) (n:=1) (ty:=29) (by kernel_rfl) h
 obtain⟨_,_,g2⟩:=vl (i:=2) (off:=2) (n:=1) (ty:=30) (by kernel_rfl) h
 obtain⟨s,h1,i1,_⟩:=A5 (e:=108) Ds.row (fun s=>s.u.length≤5864062014805∧s.g.length≤8796093022208) (by kernel_rfl) (fun d vs x h=>apO h) g1
 obtain⟨w,h2,i2,_⟩:=A5 (e:=138) (fun p:List Int=>[ints p]) (fun p=>p.length≤17592186044416) (by kernel_rfl) (fun d vs x h=>apU h) g2
 have c1:Tryz.prog.cellsOf 108=4:=by kernel_rfl
 have c2:Tryz.prog.cellsOf 138=1:=by kernel_rfl
 rw[c1]at h1;rw[c2]at h2
 match vs,hl with
 |[b0,b1,b2],_ =>
  simp at h0 h1 h2;subst h0;subst h1;subst h2;refine⟨⟨a0,s,w⟩,rfl,fun i=>?_,i1⟩;rcases Nat.lt_or_ge i w.length with g|g
  ·exact i2 _ (oK g)
  ·have e:nth w i=[]:=by simp[nth,List.getD,List.getElem?_eq_none g];rfl
   show(nth w i).length≤_;rw[e];simp
end Go.Proofs.YtocclbnghhaejaaGreat

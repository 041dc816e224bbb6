/- Parts of the proof. -/
import Derived.Test.YtmppfkgfnnebeaaGreatDoorDg
import Derived.Test.YtmppfkgfnnebeaaGreatDoorDh
namespace Go.Proofs.YtmppfkgfnnebeaaGreatDoor
set_option linter.all false
open Go.Vm
noncomputable abbrev fin(c:Cs)(p:Sp)(f:Fl):Co:=cC c p f c.r.n.toNat
theorem ag6{c:Cs}{l:List Int}{j:Int}:∀{m:Nat},(∀i,i<m→0≤nth l i∧nth l i≤1125899906842624)→0≤oP c l j m∧oP c l j m≤1125899906842624*m
 |0,_=>by simp[oP]
 |m+1,h=>by
  have:=ag6 (c:=c) (j:=j) fun i hi=>h i (V7 hi);have:=h m (by omega)
  simp only[oP];split<;>omega
end Go.Proofs.YtmppfkgfnnebeaaGreatDoor
namespace Go.Proofs.YtmppfkgfnnebeaaGreatDoor
set_option linter.all false
open Go.Vm
attribute [local simp] lZ l7 lX lY
theorem av7{a b:List Int}(h:a.length=b.length)(e:∀i,i<a.length→nth a i=nth b i):a=b:=by
 refine Oz h fun i h1 h2=>?_;have:=e i h1;simpa [nth,h1,h2] using this
theorem av8(a b:List Int)(ha:a.length≤17592186044416)(G:List aS):aZ F 66 [ints a,ints b] G=some (.bool (decide (a=b)),G) :=
 bM rfl rfl (by
  generalize hW:decide (a=b)=W;by_cases h1:a.length=b.length
  case neg =>
   have jm:¬ (a.length:Int)=b.length:=by omega
   simp (disch:=omega) [-getElem?_pos,wrap64,RB,jm];rw[←hW,decide_eq_false fun h=>h1 (by rw[h])]
  have jm:(a.length:Int)=b.length:=by omega
  simp (disch:=omega) [-getElem?_pos,wrap64,RB,jm];refine go_loop (fun i:Nat=>amM (ints a) (ints b) b.length i G) (fun i=>i≤a.length∧∀j,j<i→nth a j=nth b j) (fun i=>a.length-i) 0 rfl (by simp) (by simp) ?_
  rintro i ⟨hi,hj⟩;simp (disch:=omega) [-getElem?_pos,wrap64,aak];refine bT (fun h5=>?_) (fun h5=>?_)
  ·have h5:i<b.length:=by omega
   have h6:i<a.length:=by omega
   by_cases h7:nth a i=nth b i
   ·simp (disch:=omega) [-getElem?_pos,wrap64,ei (l:=a),ei (l:=b),h7]
    exact bP (i+1) (by simp) ⟨by omega,fun j yr=>by
     by_cases g:j=i
     ·rw[g];exact h7
     ·exact hj j (by omega)⟩ (by omega)
   ·simp (disch:=omega) [-getElem?_pos,wrap64,ei (l:=a),ei (l:=b),h7]
    rw[←hW,decide_eq_false fun h=>h7 (by rw[h])]
  ·rw[←hW,jf (av7 h1 fun j yr=>hj j (by omega))])
def N8(c:Cs)(p:Sp)(x:Ps)(j:Nat):Int:=nth p.a j+oP c x.cm j c.r.l.length
def lkP(c:Cs)(f g:Fl)(x:Ps)(i:Nat):Prop :=
 sm (nth g.w i) (nth g.w i).length-sm (nth f.w i) (nth f.w i).length=(nth c.r.l i).r.den*(nth x.lf (nth c.r.l i).f.toNat-nth x.cm i)
noncomputable def siQ(c:Cs)(f g:Fl)(p:Sp)(x:Ps)(i:Nat):Prop:=afu (nth f.d i) (nth g.d i) (nth x.re i)∧(nth x.re i).inf=N8 c p x (nth c.s i).n.toNat
noncomputable def J2(c:Cs)(p:Sp)(x:Ps)(j:Nat):Int:=match lJ c.s j with
 |none=>N8 c p x j
 |some i=>qf (nth x.re i)
structure blL(c:Cs)(f g:Fl)(p:Sp)(x:Ps):Prop where
 c0:e8 c=0
 f0:eR c f
 g0:eR c g
 p0:og c p
 re:x.re.length=c.s.length
 lf:(x.lf.length:Int)=c.r.n
 cm:x.cm.length=c.r.l.length
structure blP(c:Cs)(f g:Fl)(p:Sp)(x:Ps):Prop where
 l:blL c f g p x
 all:fa (p.a++x.lf++x.cm) 274877906944
 lk:∀i,i<c.r.l.length→lkP c f g x i
 si:∀i,i<c.s.length→siQ c f g p x i
 le:∀j,j<c.r.n.toNat→nth x.lf j=J2 c p x j
noncomputable instance {c:Cs} {f g:Fl} {p:Sp} {x:Ps}:Decidable (blP c f g p x):=Classical.propDecidable _
structure Bn(p:Sp)(x:Ps):Prop where
 a:∀j,j<p.a.length→0≤nth p.a j∧nth p.a j≤274877906944
 lf:∀j,j<x.lf.length→0≤nth x.lf j∧nth x.lf j≤274877906944
 cm:∀j,j<x.cm.length→0≤nth x.cm j∧nth x.cm j≤274877906944
theorem Bn.ts{c:Cs}{p:Sp}{x:Ps}(h:Bn p x){j:Int}{m:Nat}(hm:m≤x.cm.length):0≤oP c x.cm j m∧oP c x.cm j m≤1125899906842624*m :=
 ag6 fun i hi=>by have:=h.cm i (by omega);omega
end Go.Proofs.YtmppfkgfnnebeaaGreatDoor
namespace Go.Proofs.YtmppfkgfnnebeaaGreatDoor
set_option linter.all false
open Go.Vm
theorem awc{α:Type}[Inhabited α]{a b:List α}(h:a.length=b.length)(e:∀i,i<a.length→nth a i=nth b i):a=b:=by
 refine Oz h fun i h1 h2=>?_;have:=e i h1;simpa [nth,h1,h2] using this
noncomputable instance:DecidableEq Ds:=fun _ _=>Classical.propDecidable _
noncomputable instance:DecidableEq Fl:=fun _ _=>Classical.propDecidable _
end Go.Proofs.YtmppfkgfnnebeaaGreatDoor
namespace Go.Proofs.YtmppfkgfnnebeaaGreatDoor
set_option linter.all false
open Go.Vm
structure Ar(c:Cs)(p:Sp)(x:Ps)(A:List Int)(m:Nat):Prop where
 le:m≤c.r.l.length
 len:A.length=p.a.length
 at_:∀j,j<A.length→nth A j=nth p.a j+oP c x.cm j m
theorem Ar.zero{c:Cs}{p:Sp}{x:Ps}:Ar c p x p.a 0:=⟨by omega,rfl,fun j _=>by simp[oP]⟩
theorem Ar.next{c:Cs}{p:Sp}{x:Ps}{A:List Int}{m:Nat}(h:Ar c p x A m)(hm:m<c.r.l.length){t:Nat}(ht:(nth c.r.l m).t=t):Ar c p x (A.set t (nth A t+nth x.cm m)) (m+1) :=
 ⟨by omega,by simp[h.len],fun j hj=>by
  simp only[oR]at hj;simp only[oP];by_cases g:j=t
  ·subst g
   rw[uR hj,aM rfl,aM ht,h.at_ j hj,Int.add_assoc]
  ·rw[ay (by omega),J9,← h.at_ j hj]
   rcases cF t A.length with q|q
   ·rw[uR q,ay g]
   ·rw[Ei q]⟩
structure Lv(c:Cs)(p:Sp)(x:Ps)(L:List Int)(i:Nat):Prop where
 le:i≤c.s.length
 len:(L.length:Int)=c.r.n
 N9:∀k,k<i→nth L (nth c.s k).n.toNat=qf (nth x.re k)
 no:∀j,j<L.length→(∀k,k<i→(nth c.s k).n≠j)→nth L j=N8 c p x j
theorem Lv.next{c:Cs}(cv:yW c){p:Sp}{x:Ps}{L:List Int}{i:Nat}(h:Lv c p x L i)(hi:i<c.s.length){t:Nat}(ht:(nth c.s i).n=t):Lv c p x (L.set t (qf (nth x.re i))) (i+1):=by
 have hs:=(yZ cv hi).1;have hs:0≤(nth c.s i).n∧(nth c.s i).n<c.r.n:=hs;have JW:t<L.length:=by have:=h.len;omega
 have up:∀k,k<i→(nth c.s k).n<(nth c.s i).n:=fun k hk=>by
  have:∀m,k<m→m<c.s.length→(nth c.s k).n<(nth c.s m).n:=by
   intro m;induction m with
   |zero=>intro a;omega
   |succ m ih =>
    intro a b;have s:=(yZ cv b).2.1 (by omega)
    have s:(nth c.s m).n<(nth c.s (m+1)).n:=s;by_cases g:k=m
    ·subst g;exact s
    ·have:=ih (by omega) (by omega);omega
  exact this i hk hi
 refine⟨by omega,by simp[h.len],fun k hk=>?_,fun j hj jh=>?_⟩
 ·by_cases g:k=i
  ·subst g
   rw[ht,Ov,uR JW,aM rfl]
  ·have:=up k (by omega)
   have:=(yZ cv (i:=k) (by omega)).1
   have:0≤(nth c.s k).n∧(nth c.s k).n<c.r.n:=this;rw[uR JW,ay (by omega)]
   exact h.N9 k (by omega)
 ·simp only[oR]at hj
  have:=jh i (by omega)
  rw[uR JW,ay (by omega)]
  exact h.no j hj fun k hk=>jh k (by omega)
theorem Lv.all{c:Cs}(cv:yW c){p:Sp}{x:Ps}{L:List Int}(h:Lv c p x L c.s.length){j:Nat}(hj:j<L.length):nth L j=J2 c p x j:=by
 unfold J2;cases hs:lJ c.s j with
 |none =>
  exact h.no j hj fun k hk=>by
   have:=NM hs k hk;exact this
 |some i =>
  obtain⟨a,b⟩:=y5 hs;have b:(nth c.s i).n=j:=b;have:=h.N9 i a;rw[b,Ov]at this;exact this
end Go.Proofs.YtmppfkgfnnebeaaGreatDoor
namespace Go.Proofs.YtmppfkgfnnebeaaGreatDoor
set_option linter.all false
open Go.Vm
attribute [local simp] lZ l7 lX lY
theorem aDl(r:Dr):∃v,(∀G,aZ F 60 [dr r] G=some (i64 v,G))∧(((0≤r.tur∧r.tur≤274877906944)∧(0≤r.spi∧r.spi≤274877906944)∧0≤r.ovr∧r.ovr≤274877906944)→v=qf r):=by
 refine⟨IntKind.i64.wrap (IntKind.i64.wrap (r.tur+r.spi)+r.ovr),fun G=>bM rfl rfl (by simp[wrap64,Rz]),fun h=>?_⟩
 rw[wrap64 (n:=r.tur+r.spi) (by omega) (by omega),wrap64 (by omega) (by omega)]
 rfl
structure Wn(c:Cs)(f g:Fl)(p:Sp)(x:Ps)(k:Nat)(w:Int)(i:Nat):Prop where
 le:i≤c.s.length
 N9:∀m,m<i→(nth c.s m).n=k→siQ c f g p x m∧w=qf (nth x.re m)
 no:(∀m,m<i→(nth c.s m).n≠k)→w=N8 c p x k
theorem Wn.all{c:Cs}{f g:Fl}{p:Sp}{x:Ps}{k:Nat}{w:Int}(h:Wn c f g p x k w c.s.length):w=J2 c p x k:=by
 unfold J2;cases hs:lJ c.s k with
 |none=>exact h.no fun m hm=>NM hs m hm
 |some i =>
  obtain⟨a,b⟩:=y5 hs;exact(h.N9 i a b).2
end Go.Proofs.YtmppfkgfnnebeaaGreatDoor
namespace Go.Proofs.YtmppfkgfnnebeaaGreatDoor
set_option linter.all false
open Go.Vm
end Go.Proofs.YtmppfkgfnnebeaaGreatDoor
namespace Go.Proofs.YtmppfkgfnnebeaaGreatDoor
set_option linter.all false
open Go.Vm
noncomputable def Oa(f:Fl)(n:Nat):Int:=dX (fun i=>(nth f.d i).v) n
def hld(f:Fl)(i:Nat):Int:=sm (nth f.w i) (nth f.w i).length
def aha(f:Fl)(n:Nat):List Int:=(List.range n).map (hld f)
@[simp] theorem aDm{f:Fl}{n:Nat}:(aha f n).length=n:=by simp[aha]
theorem awe{c:Cs}{f:Fl}(h:eR c f):∀n:Nat,n≤c.s.length→0≤Oa f n∧Oa f n≤274877906944*n
 |0,_=>by simp[Oa,dX]
 |n+1,hn=>by
  have ih:=awe h n (by omega)
  have a:=h.2.1.2 n (by omega)
  have b:=a.2.1;have d:=afy (AB a.1).r;unfold Oa at ih ⊢;simp only[dX];omega
end Go.Proofs.YtmppfkgfnnebeaaGreatDoor
namespace Go.Proofs.YtmppfkgfnnebeaaGreatDoor
set_option linter.all false
open Go.Vm
theorem Kv.Vk{r:Rr}(h:Kv r):∀{j i:Nat},i<j→j<r.l.length→(nth r.l i).f<(nth r.l j).f
 |j+1,i,hi,hj=>by
  have a:=(h.link hj).2.1 (by omega)
  rw[sa]at a;rcases cF i j with g|g
  ·exact Int.lt_trans (Kv.Vk h g (by omega)) a
  ·obtain rfl:i=j:=by omega
   exact a
theorem Kv.inj{r:Rr}(h:Kv r){i j:Nat}(hi:i<r.l.length)(hj:j<r.l.length)(e:(nth r.l i).f=(nth r.l j).f):i=j:=by
 rcases G5 i j with g|g|g
 ·have:=h.Vk g hj;omega
 ·exact g
 ·have:=h.Vk g hi;omega
structure Pa0(l:List Lk)(n m:Int)(L:List Int):Prop where
 one:n∈L
 last:m∈L
 clo:∀a∈L,a≠m→∀i,i<l.length→(nth l i).f=a→(nth l i).t∈L
 le:(L.length:Int)≤m+1
end Go.Proofs.YtmppfkgfnnebeaaGreatDoor
namespace Go.Proofs.YtmppfkgfnnebeaaGreatDoor
set_option linter.all false
open Go.Vm
abbrev D5(r:Rr):Cs:=⟨r,[]⟩
abbrev Vl(a:List Int):Sp:=⟨a,[],[]⟩
theorem aDp(r:Rr)(k:Int):lJ (D5 r).s k=none:=rfl
theorem aDq{r:Rr}{p:Sp}{v:Co}{k:Nat}:fw (D5 r) p v k=nth v.arr k:=rfl
structure Drw(r:Rr)(a:List Int)(w:List (List Int))(k:Nat):Prop where
 v:∀j,j<k→vE (D5 r) (Vl a) (cC (D5 r) (Vl a) ⟨0,[],w⟩ j) j=0
 arr:∀j,j<a.length→nth (cC (D5 r) (Vl a) ⟨0,[],w⟩ k).arr j≤30*(2:Int) ^ k
end Go.Proofs.YtmppfkgfnnebeaaGreatDoor
namespace Go.Proofs.YtmppfkgfnnebeaaGreatDoor
set_option linter.all false
open Go.Vm
def Vn:Option (List Int)→V
 |none=>.cb
 |some p=>.slice none 1 (p.map fun n=>[i64 n])
def xO(W:List (Option (List Int))):List V:=W.map Vn
@[simp] theorem aDs{W:List (Option (List Int))}:(xO W).length=W.length:=by simp[xO]
@[simp] theorem aDt{W:List (Option (List Int))}{i:Nat}{p:List Int}:(xO W).set i (.slice none 1 (p.map fun n=>[i64 n]))=xO (W.set i (some p)):=by simp[xO,Vn]
theorem awf:∀{W:List (Option (List Int))} {cs:List V} {off:Nat},cs.drop off=xO W→chunks 1 cs off W.length=W.map fun o=>[Vn o]
 |[],cs,off,h=>by simp[chunks]
 |o::W,cs,off,h=>by
  have h2:cs.drop (off+1)=xO W:=by rw[←uX,h];simp[xO]
  rw[u4,chunks,awf h2,h];simp[xO]
@[simp] theorem aDu{W:List (Option (List Int))}{d:Nat}:((xO W).all fun v => !V.cA d v)=true:=by
 simp only[xO,List.all_map,g8,Function.comp];intro o _;cases o<;>rfl
end Go.Proofs.YtmppfkgfnnebeaaGreatDoor
namespace Go.Proofs.YtmppfkgfnnebeaaGreatDoor
set_option linter.all false
open Go.Vm
theorem aDv(r:Rr):oi (D5 r) []=⟨0,[],List.replicate r.l.length []⟩:=rfl
theorem aDw{r:Rr}(hk:jR r=0)(hn:r.n≤6):e8 (D5 r)=0:=by
 unfold e8;rw[ay (by omega:¬ (jR r≠0)),ay (by omega:¬ (12<r.n)),ay (by simp)]
 rfl
end Go.Proofs.YtmppfkgfnnebeaaGreatDoor
namespace Go.Proofs.YtmppfkgfnnebeaaGreatDoor
set_option linter.all false
open Go.Vm
noncomputable instance:DecidableEq Dr:=fun _ _=>Classical.propDecidable _
noncomputable instance:DecidableEq Ps:=fun _ _=>Classical.propDecidable _
end Go.Proofs.YtmppfkgfnnebeaaGreatDoor
namespace Go.Proofs.YtmppfkgfnnebeaaGreatDoor
set_option linter.all false
open Go.Vm
end Go.Proofs.YtmppfkgfnnebeaaGreatDoor

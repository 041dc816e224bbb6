/- Parts of the proof, joined: Flo3, Run1, Run2, Pln1, Pln2, Val1, Val2, Wor1, Tar1, Vbt1, Rob1, Rob2, Rob3, Rob5. -/
import Derived.Test.YtocclbnghhaejaaGreatDf
import Derived.Test.YtocclbnghhaejaaGreatDa
namespace Go.Proofs.YtocclbnghhaejaaGreat
set_option linter.all false
open Go.Vm
attribute [local simp] lQ lR kP lP
theorem aoY{l:List Int}{k:Nat}(hd:db l k){c:Cs}(hc:Cm c){s:List Ds}(hs:mi c s):∃f k',aX F 55 [.bG 0 0,cs c,m7 s] [dk l k]=some (fl f,[dk l k'])∧db l k'∧ft c f∧hB c f 10:=by
 suffices h:∀Q:V→List aP→Prop,(∀f k',db l k'→ft c f→hB c f 10→Q (fl f) [dk l k'])→gy (aX F) 55 [.bG 0 0,cs c,m7 s] [dk l k] Q by
  obtain⟨_,_,h,f,k',rfl,rfl,h1⟩:=h (fun v G=>∃f k',v=fl f∧G=[dk l k']∧db l k'∧ft c f∧hB c f 10) fun f k' a b d=>⟨f,k',rfl,rfl,a,b,d⟩;exact⟨f,k',h,h1⟩
 intro Q hQ;refine gS rfl rfl ?_;have cv:=jZ hc.eH;have kv:=j0 cv.k;have qU:=hc.small;have Qp:=hc.n;obtain⟨G1,gN⟩:=an7 c qU s (Ai hc.eH hs);have h0:kE c s=.tuple [fl (jw c s),i64 0]:=by unfold kE;rw[show kV c s=0 by unfold kV;rw[if_neg (by have:=hc.eH;omega),if_pos hs]];rfl
 rw[h0]at gN;obtain⟨m,k1,n1,gB,hm⟩:=fK hd 6 (by omega)
 have PR:=(D0 hc.eH).2 hs;have zB:=aoX (c:=c) (s:=s);generalize jw c s=f0 at gN PR zB;simp (disch:=omega) [wrap64,Vj,gN,n1];refine go_loop (fun y:Fl×Int×Nat=>ahj (.bG 0 0) y.2.1 c.row [i64 0,.bV,.bV] y.1.row [dk l y.2.2])
  (fun y=>ft c y.1∧(0≤y.2.1∧y.2.1≤10)∧db l y.2.2∧hB c y.1 (10-y.2.1)) (fun y=>y.2.1.toNat) (f0,m,k1) rfl (by simp) ⟨PR,by simp only;omega,gB,Ko cv.k zB (by simp only;omega)⟩ ?_
 rintro⟨f,x,k⟩ ⟨h1,h2,hd,hh⟩;simp only at h1 h2 hd hh;simp (disch:=omega) [wrap64,Vi];refine bE (fun h3=>?_) (fun h3=>?_)
 ·obtain⟨p,k2,n2,eX,hp,ha,hb,u7⟩:=Qd hd (c:=c) (by have:=kv.n;omega) (by have:=cv.s;omega)
  have GW:=cv.s;have lM:p.a.length≤1000∧p.b.length≤1000∧p.c.length≤1000:=by have:=hp;unfold mj at this;omega
  obtain⟨G2,hS⟩:=Ki qU (yF cv.k h1) lM;by_cases he:m8 c f p=0
  ·rw[qf,if_pos he]at hS
   have vg:=(Kk he).fl;have wq:=Ko cv.k (abc (Kk he) (by omega) hh).1 (show 10-x+1≤10-(x-1) by omega)
   generalize oN c f p=f2 at hS vg wq;generalize sw c f p=pp at hS;simp (disch:=omega) [wrap64,n2,hS];exact bF (f2,x-1,k2) (by simp) ⟨vg,by simp only;omega,eX,wq⟩ (by simp only;omega)
  ·rw[qf,if_neg he]at hS
   simp (disch:=omega) [wrap64,n2,hS,decide_eq_false he];exact bF (f,x-1,k2) (by simp) ⟨h1,by simp only;omega,eX,Ko cv.k hh (by simp only;omega)⟩ (by simp only;omega)
 ·exact hQ f k hd h1 (Ko cv.k hh (by omega))
theorem Qq{l:List Int}{k:Nat}(hd:db l k):∃c f k',aX F 14 [.bG 0 0] [dk l k]=some (.tuple [cs c,fl f],[dk l k'])∧db l k'∧Cm c∧ft c f∧hB c f 10:=by
 suffices h:∀Q:V→List aP→Prop,(∀c f k',db l k'→Cm c→ft c f→hB c f 10→Q (.tuple [cs c,fl f]) [dk l k'])→gy (aX F) 14 [.bG 0 0] [dk l k] Q by
  obtain⟨_,_,h,c,f,k',rfl,rfl,h1⟩:=h (fun v G=>∃c f k',v=.tuple [cs c,fl f]∧G=[dk l k']∧db l k'∧Cm c∧ft c f∧hB c f 10) fun c f k' a b d e=>⟨c,f,k',rfl,rfl,a,b,d,e⟩;exact⟨c,f,k',h,h1⟩
 intro Q hQ;refine gS rfl rfl ?_;obtain⟨c,s,k1,n1,gB,hc,hs⟩:=aob hd;obtain⟨f,k2,n2,eX,hf,hb⟩:=aoY gB hc hs;simp[wrap64,UN,n1,n2];exact hQ c f k2 eX hc hf hb
instance:Inhabited Sp:=⟨⟨[],[],[]⟩⟩
abbrev lW(l:List Sp):V:=.slice none 3 (l.map Sp.row)
noncomputable def eo(c:Cs)(f:Fl)(l:List Sp):Nat→Fl
 |0=>f
 |k+1=>oN c (eo c f l k) (nth l k)
noncomputable def D8(c:Cs)(f:Fl)(l:List Sp)(k:Nat):Ps:=sw c (eo c f l k) (nth l k)
noncomputable def kn(c:Cs)(f:Fl)(l:List Sp)(k:Nat):List Ps:=(List.range k).map (D8 c f l)
theorem Qt{c:Cs}{f:Fl}{l:List Sp}{k:Nat}:kn c f l (k+1)=kn c f l k++[D8 c f l k]:=by simp[kn,List.range_succ]
@[simp] theorem awf{c:Cs}{f:Fl}{l:List Sp}{k:Nat}:(kn c f l k).length=k:=by simp[kn]
noncomputable def lI(c:Cs)(f:Fl)(l:List Sp):Int:=if iq c f≠0 then iq c f else if 400<l.length then 10 else dB (fun k=>fP c (eo c f l k) (nth l k)) l.length 0
abbrev Qu(t:Option Nat)(e:Int):V:=.tuple [.agg [i64 0,.slice t 4 [],.slice t 1 []],.slice t 3 [],i64 e]
noncomputable def nE(t:Option Nat)(c:Cs)(f:Fl)(l:List Sp):V:=if lI c f l=0 then .tuple [fl (eo c f l l.length),.slice t 3 ((kn c f l l.length).map Ps.row),i64 0] else Qu t (lI c f l)
theorem Hc{c:Cs}{f:Fl}{p:Sp}(hc:ew c=0)(hf:ft c f):m8 c f p=fP c f p:=by
 unfold m8 iq;rw[if_neg (by omega:¬ (ew c≠0)),if_pos hf]
 rfl
theorem Hd{c:Cs}{f:Fl}{l:List Sp}(hc:ew c=0)(hf:ft c f):∀k,(∀j,j<k→fP c (eo c f l j) (nth l j)=0)→ft c (eo c f l k)
 |0,_=>hf
 |k+1,h=>by
  have ih:=Hd hc hf k fun j hj=>h j (by omega)
  exact(Kk (by rw[Hc hc ih];exact h k (by omega))).fl
set_option maxRecDepth 100000 in
set_option maxHeartbeats 1000000 in
theorem ao8{c:Cs}(hr:gW c.r){f:Fl}(hf:jY f)(l:List Sp)(hl:l.length≤1000):∃G',aX F 167 [cs c,fl f,lW l] []=some (nE (some 0) c f l,G'):=by
 suffices h:∀Q:V→Prop,Q (nE (some 0) c f l)→gy (aX F) 167 [cs c,fl f,lW l] [] fun v _=>Q v by
  obtain⟨_,G',h,rfl⟩:=h (fun v=>v=nE (some 0) c f l) rfl;exact⟨G',h⟩
 intro Q hQ;refine gS rfl rfl ?_;have hd:=PZ c hr f hf;by_cases hz:iq c f=0
 case neg =>
  rw[nE,if_neg (by unfold lI;rw[if_pos hz];exact hz),show lI c f l=iq c f by unfold lI;rw[if_pos hz]]at hQ
  simp (disch:=omega) [-getElem?_pos,wrap64,I9,hd,hz];exact hQ
 obtain⟨z1,z2⟩:=wx hz;have cv:=jZ z1;have kv:=j0 cv.k;by_cases h4:400<l.length
 case pos =>
  have e:lI c f l=10:=by unfold lI;rw[if_neg (by omega),if_pos h4]
  have Qv:(400:Int)<l.length:=by omega
  rw[nE,if_neg (by omega),e]at hQ
  simp (disch:=omega) [-getElem?_pos,wrap64,I9,hd,hz,Qv];exact hQ
 have Qv:¬ (400:Int)<l.length:=by omega
 have gN:=P6 f.d (Ai z1 z2.2.1);have hwv:=aaw f.w (G7 cv.k z2.2.2);have e:lI c f l=dB (fun k=>fP c (eo c f l k) (nth l k)) l.length 0:=by unfold lI;rw[if_neg (by omega),if_neg h4]
 simp (disch:=omega) [-getElem?_pos,wrap64,I9,hd,hz,Qv,gN,hwv,sr,Ag];refine go_loop (fun k:Nat=>ajQ (.slice (some 1058) 3 ((kn c f l k).map Ps.row)) (lW l) l.length k c.row (eo c f l k).row [z0,.bV,.bV] k [.cells [],.cells []])
  (fun k=>k≤l.length∧dB (fun k=>fP c (eo c f l k) (nth l k)) (l.length-k) k=lI c f l∧∀j,j<k→fP c (eo c f l j) (nth l j)=0) (fun k=>l.length-k) 0 rfl (by simp (disch:=omega) [sr,Ag,eo,kn]) ⟨by omega,e.symm,by omega⟩ ?_
 rintro k ⟨hk,hE,hj⟩;have B5:=Hd z1 z2 k hj;simp (disch:=omega) [-getElem?_pos,wrap64,Xd];refine bE (fun h5=>?_) (fun h5=>?_)
 ·have h5:k<l.length:=by omega
  rw[kB h5]at hE;obtain⟨G1,hP⟩:=aaR hr z1 B5 (nth l k);by_cases h6:fP c (eo c f l k) (nth l k)=0
  ·rw[Ak,if_pos h6]at hP
   simp only[if_pos h6]at hE;simp (disch:=omega) [-getElem?_pos,wrap64,aW (l:=l),hP];refine bF (k+1) (by simp[Qt,eo,D8]) ⟨by omega,hE,fun j nO=>?_⟩ (by omega)
   by_cases g:j=k
   ·rw[g];exact h6
   ·exact hj j (by omega)
  ·rw[Ak,if_neg h6]at hP
   simp only[if_neg h6]at hE;rw[nE,if_neg (by omega),← hE]at hQ
   simp (disch:=omega) [-getElem?_pos,wrap64,aW (l:=l),hP,h6];exact hQ
 ·obtain rfl:k=l.length:=by omega
  rw[Nat.sub_self]at hE;have hE:0=lI c f l:=hE;rw[nE,if_pos hE.symm]at hQ;exact hQ
theorem abo{α:Type}[Inhabited α]{l:List α}{k i:Nat}:nth (l.drop k) i=nth l (k+i):=by
 simp[nth,List.getD]
theorem abp{c:Cs}{f:Fl}{l:List Sp}{k:Nat}:∀{i:Nat},i≤k→eo c f (l.take k) i=eo c f l i
 |0,_=>rfl
 |i+1,h=>by simp only[eo];rw[abp (by omega),Ab (by omega)]
theorem abq{c:Cs}{f:Fl}{l:List Sp}{k:Nat}:∀i:Nat,eo c (eo c f l k) (l.drop k) i=eo c f l (k+i)
 |0=>rfl
 |i+1=>by
  show oN c (eo c (eo c f l k) (l.drop k) i) (nth (l.drop k) i)=oN c (eo c f l (k+i)) (nth l (k+i));rw[abq i,abo]
structure Ra(c:Cs)(f:Fl)(l:List Sp):Prop where
 c0:ew c=0
 f0:ft c f
 len:l.length≤400
 v:∀k,k<l.length→fP c (eo c f l k) (nth l k)=0
theorem apa{c:Cs}{f:Fl}{l:List Sp}(h:lI c f l=0):Ra c f l:=by
 unfold lI at h;split at h
 ·rename_i h1;exact absurd h h1
 ·rename_i h1
  obtain⟨a,b⟩:=wx (Decidable.of_not_not h1);split at h
  ·cases h
  ·exact⟨a,b,by omega,fun k hk=>rU h k (by omega) (by omega)⟩
theorem Ra.e{c:Cs}{f:Fl}{l:List Sp}(h:Ra c f l):lI c f l=0:=by
 have hr:iq c f=0:=by unfold iq;rw[if_neg (by have:=h.c0;omega),if_pos h.f0]
 have:=h.len;unfold lI;rw[if_neg (by omega),if_neg (by omega)]
 exact rW fun j _ hj=>h.v j (by omega)
theorem Ra.at_{c:Cs}{f:Fl}{l:List Sp}(h:Ra c f l){k:Nat}(hk:k≤l.length):ft c (eo c f l k):=Hd h.c0 h.f0 k fun j hj=>h.v j (by omega)
theorem Ra.pa{c:Cs}{f:Fl}{l:List Sp}(h:Ra c f l){k:Nat}(hk:k<l.length):Pa c (eo c f l k) (nth l k):=Kk (by rw[Hc h.c0 (h.at_ (by omega))];exact h.v k hk)
theorem Ra.take{c:Cs}{f:Fl}{l:List Sp}(h:Ra c f l){k:Nat}(hk:k≤l.length):Ra c f (l.take k) :=
 ⟨h.c0,h.f0,by have:=h.len;simp;omega,fun j hj=>by
  simp at hj;rw[abp (by omega),Ab (by omega)]
  exact h.v j (by omega)⟩
theorem Ra.drop{c:Cs}{f:Fl}{l:List Sp}(h:Ra c f l){k:Nat}(hk:k≤l.length):Ra c (eo c f l k) (l.drop k) :=
 ⟨h.c0,h.at_ hk,by have:=h.len;simp;omega,fun j hj=>by
  simp at hj;rw[abq,abo];exact h.v (k+j) (by omega)⟩
theorem Ra.hB{c:Cs}{f:Fl}{l:List Sp}(h:Ra c f l){M:Int}(hM:0≤M)(hb:hB c f M):∀{k:Nat},k≤l.length→hB c (eo c f l k) (M+k)
 |0,_=>by simpa [eo] using hb
 |k+1,hk=>by
  have:=(abc (h.pa (k:=k) (by omega)) (by omega) (h.hB hM hb (k:=k) (by omega))).1
  rw[show M+((k+1:Nat):Int)=M+k+1 by omega]
  exact this
def Sw(c:Cs)(p:Sp):Prop:=mj c p∧eJ p.a 30∧eJ p.b 30∧eJ p.c 30
abbrev Qw(l:List Sp):V:=.slice (some 0) 3 (l.map Sp.row)
theorem abr{l:List Int}{k:Nat}(hd:db l k){c:Cs}(hn:1≤c.r.n∧c.r.n≤40)(hs:c.s.length≤10){n:Nat}(hm:n≤1000) :
  ∃q k',aX F 29 [.bG 0 0,cs c,i64 n] [dk l k]=some (Qw q,[dk l k'])∧db l k'∧q.length=n∧∀i,i<n→Sw c (nth q i):=by
 suffices h:∀Q:V→List aP→Prop,(∀q k',db l k'→q.length=n→(∀i,i<n→Sw c (nth q i))→Q (Qw q) [dk l k'])→gy (aX F) 29 [.bG 0 0,cs c,i64 n] [dk l k] Q by
  obtain⟨_,_,h,q,k',rfl,rfl,h1⟩:=h (fun v G=>∃q k',v=Qw q∧G=[dk l k']∧db l k'∧q.length=n∧∀i,i<n→Sw c (nth q i)) fun q k' a b d=>⟨q,k',rfl,rfl,a,b,d⟩;exact⟨q,k',h,h1⟩
 intro Q hQ;refine gS rfl rfl ?_;simp (disch:=omega) [wrap64,U7];refine go_loop (fun y:List Sp×Nat=>agY (.bG 0 0) (.slice (some 1016) 3 (y.1.map Sp.row)) n y.1.length c.row y.1.length [dk l y.2]) (fun y=>y.1.length≤n∧db l y.2∧∀i,i<y.1.length→Sw c (nth y.1 i)) (fun y=>n-y.1.length) ([],k) rfl (by simp) ⟨by simp,hd,fun i hi=>absurd hi (by simp)⟩ ?_
 rintro⟨q,k⟩ ⟨h1,hd,hq⟩;simp only at h1 hd hq;simp (disch:=omega) [wrap64,U6];refine bE (fun h5=>?_) (fun h5=>?_)
 ·obtain⟨p,k2,n2,eX,hp⟩:=Qd hd (c:=c) hn hs
  simp (disch:=omega) [wrap64,n2];refine bF (q++[p],k2) (by simp) ⟨by simp;omega,eX,fun i hi=>?_⟩ (by simp;omega)
  simp only[List.length_append,List.length_singleton]at hi;rw[iF];by_cases g:i<q.length
  ·rw[if_pos g];exact hq i g
  ·rw[if_neg g,if_pos (by omega)];exact hp
 ·obtain e:q.length=n:=by omega
  exact hQ q k hd e (fun i hi=>hq i (by omega))
structure Pn where
 f:Int
 l:List (List Int)
abbrev Pn.row(p:Pn):List V:=[i64 p.f,je p.l]
abbrev pn(p:Pn):V:=.agg p.row
noncomputable def Eb(c:Cs)(l:List (List Int))(i:Nat):Int:=if (nth l i).length=c.s.length then (if eJ (nth l i) 1073741824 then 0 else 1) else 51
noncomputable def tl(c:Cs)(p:Pn):Int:=if ew c≠0 then ew c else if 0≤p.f∧p.f≤16777216 then (if 96<p.l.length then 10 else dB (Eb c p.l) p.l.length 0) else 6
theorem apW(n:Int)(G:List aP):aX F 139 [i64 n] G=some (.bool (!decide (0≤n∧n≤1073741824)),G) :=
 bM rfl rfl (by
  simp[wrap64,WN];by_cases h1:n<0
  ·simp[wrap64,h1,show ¬ 0≤n by omega]
  ·simp[wrap64,h1,show 0≤n by omega]
   by_cases h2:n≤1073741824
   ·simp[wrap64,h2,show ¬ 1073741824<n by omega]
   ·simp[wrap64,h2,show 1073741824<n by omega])
theorem apX(c:Cs)(hr:gW c.r)(p:Pn)(G:List aP):aX F 89 [cs c,pn p] G=some (i64 (tl c p),G) :=
 bM rfl rfl (by
  obtain⟨t,l⟩:=p;generalize hW:tl c ⟨t,l⟩=W;unfold tl at hW;simp only at hW;have h0:=GV c hr;by_cases h1:ew c=0
  case neg =>
   rw[if_pos h1]at hW;simp (disch:=omega) [-getElem?_pos,wrap64,Dp,h0,h1];exact hW
  rw[if_neg (by omega)]at hW
  have hs:=(jZ h1).s;by_cases h2:0≤t∧t≤16777216
  case neg =>
   rw[if_neg h2]at hW;rcases (by omega:t<0∨(¬t<0∧16777216<t)) with a | ⟨a,b⟩
   ·simp (disch:=omega) [-getElem?_pos,wrap64,Dp,h0,h1,a]
    exact hW
   ·simp (disch:=omega) [-getElem?_pos,wrap64,Dp,h0,h1,a,b]
    exact hW
  rw[if_pos h2]at hW;have a:¬ t<0:=by omega
  have b:¬ 16777216<t:=by omega
  by_cases h3:96<l.length
  ·rw[if_pos h3]at hW
   have gU:(96:Int)<l.length:=by omega
   simp (disch:=omega) [-getElem?_pos,wrap64,Dp,h0,h1,a,b,gU];exact hW
  rw[if_neg h3]at hW;have gU:¬ (96:Int)<l.length:=by omega
  simp (disch:=omega) [-getElem?_pos,wrap64,Dp,h0,h1,a,b,gU];refine go_loop (fun i:Nat=>aix (je l) l.length i c.row G) (fun i=>i≤l.length∧dB (Eb c l) (l.length-i) i=W) (fun i=>l.length-i) 0 rfl (by simp) ⟨by omega,hW⟩ ?_
  rintro i ⟨hi,hq⟩;simp (disch:=omega) [-getElem?_pos,wrap64,V8];refine bE (fun h5=>?_) (fun h5=>?_)
  ·have h5:i<l.length:=by omega
   rw[kB h5]at hq;unfold Eb at hq;by_cases h6:(nth l i).length=c.s.length
   ·rw[if_pos h6]at hq
    have hc:=PF (nth l i) (by omega) (fun n => !decide (0≤n∧n≤1073741824)) 139 G (fun n=>apW n G)
    rw[aaQ]at hc;by_cases h7:eJ (nth l i) 1073741824
    ·rw[if_pos h7]at hq
     simp (disch:=omega) [-getElem?_pos,wrap64,aW (l:=l),h6,hc,h7];exact bF (i+1) (by simp) ⟨by omega,hq⟩ (by omega)
    ·rw[if_neg h7]at hq
     simp (disch:=omega) [-getElem?_pos,wrap64,aW (l:=l),h6,hc,h7];exact hq
   ·rw[if_neg h6]at hq
    have gV:¬ ((nth l i).length:Int)=c.s.length:=by omega
    simp (disch:=omega) [-getElem?_pos,wrap64,aW (l:=l),gV];exact hq
  ·obtain rfl:i=l.length:=by omega
   rw[mE]at hq;exact hq)
noncomputable def tm(c:Cs)(f:Fl)(p:Pn)(n:Nat):Int:=if tl c p≠0 then tl c p else if ft c f then (if p.f=f.t then (if n=p.l.length then 0 else 3) else 6) else 50
def eQ(p:Pn)(l:List Sp):List Sp:=(List.range l.length).map fun i=>⟨(nth l i).a,(nth l i).b,nth p.l i⟩
theorem B8{p:Pn}{l:List Sp}:(eQ p l).length=l.length:=by simp[eQ]
theorem KE{p:Pn}{l:List Sp}{i:Nat}(h:i<l.length):nth (eQ p l) i=⟨(nth l i).a,(nth l i).b,nth p.l i⟩:=by
 simp[nth,eQ,List.getD,h]
noncomputable def ot(c:Cs)(f:Fl)(p:Pn)(l:List Sp):Int:=if tm c f p l.length≠0 then tm c f p l.length else lI c f (eQ p l)
noncomputable def vJ(t:Option Nat)(c:Cs)(f:Fl)(p:Pn)(l:List Sp):V:=if tm c f p l.length=0 then nE t c f (eQ p l) else Qu t (tm c f p l.length)
structure Bg(c:Cs)(f:Fl)(p:Pn)(n:Nat):Prop where
 c0:ew c=0
 f0:ft c f
 t:p.f=f.t
 len:n=p.l.length
 c9:n≤96
 e:∀i,i<n→(nth p.l i).length=c.s.length∧eJ (nth p.l i) 1073741824
theorem QG{c:Cs}{f:Fl}{p:Pn}{n:Nat}(h:tm c f p n=0):Bg c f p n:=by
 unfold tm at h;split at h
 ·rename_i h1;exact absurd h h1
 ·rename_i h1
  have h1:=Decidable.of_not_not h1;unfold tl at h1;split at h1
  ·rename_i h2;exact absurd h1 h2
  ·rename_i h2
   split at h1
   ·split at h1
    ·cases h1
    ·split at h
     ·split at h
      ·split at h
       ·rename_i h3 h4 h5 h6
        refine⟨Decidable.of_not_not h2,h4,h5,h6,by omega,fun i hi=>?_⟩
        have h7:=rU h1 i (by omega) (by omega)
        unfold Eb at h7;split at h7
        ·split at h7
         ·exact⟨by assumption,by assumption⟩
         ·cases h7
        ·cases h7
       ·cases h
      ·cases h
     ·cases h
   ·cases h1
theorem Bg.rd{c:Cs}{f:Fl}{p:Pn}{n:Nat}(h:Bg c f p n):iq c f=0:=by
 unfold iq;rw[if_neg (by have:=h.c0;omega),if_pos h.f0]
theorem Bg.cr{c:Cs}{f:Fl}{p:Pn}{l:List Sp}(h:Bg c f p l.length):lI c f (eQ p l)=dB (fun k=>fP c (eo c f (eQ p l) k) (nth (eQ p l) k)) l.length 0:=by
 have:=h.c9;unfold lI;rw[if_neg (by have:=h.rd;omega),B8,if_neg (by omega)]
abbrev QH(c:Cs)(p:Pn)(g:V):V:=.agg [i64 c.r.n,nC c.r.l,qe c.s,i64 p.f,je p.l,g]
theorem ap0(f:Fl)(l:List Int)(G:List aP):aX F 128 [fl f,ints l] G=some (ints l,G) :=
 bM rfl rfl (by simp[wrap64,WB])
theorem ap1(c:Cs)(hr:gW c.r){f:Fl}(hf:jY f)(p:Pn)(q:FuncId)(cap:List V)(l:List Sp)(G:List aP):aX F 129 [QH c p (.fn q cap),fl f,lW l] G=some (i64 (tm c f p l.length),G) :=
 bM rfl rfl (by
  have h0:=apX c hr p;have h1:=PY c hr f hf;unfold tm;by_cases a:tl c p=0
  case neg=>simp (disch:=omega) [-getElem?_pos,wrap64,Du,h0,a]
  have hc:ew c=0:=by
   unfold tl at a;split at a
   ·rename_i h;exact absurd a h
   ·rename_i h;exact Decidable.of_not_not h
  by_cases b:ft c f
  case neg=>simp (disch:=omega) [-getElem?_pos,wrap64,Du,h0,a,h1,b]
  by_cases d:p.f=f.t
  case neg=>simp (disch:=omega) [-getElem?_pos,wrap64,Du,h0,a,h1,hc,b,d]
  obtain⟨t,pl⟩:=p;obtain rfl:t=f.t:=d;by_cases e:l.length=pl.length
  ·simp (disch:=omega) [-getElem?_pos,wrap64,Du,h0,a,h1,hc,b,e]
  ·have e':¬ (l.length:Int)=pl.length:=by omega
   simp (disch:=omega) [-getElem?_pos,wrap64,Du,h0,a,h1,hc,b,e,e'])
set_option maxRecDepth 100000 in
set_option maxHeartbeats 1000000 in
theorem ap2{c:Cs}(hr:gW c.r){f:Fl}(hf:jY f){p:Pn}{l:List Sp}(hb:Bg c f p l.length)(G:List aP) :
  aX F 130 [QH c p (.fn 128 []),fl f,lW l] G=some (nE (some 0) c f (eQ p l),G):=by
 suffices h:∀Q:V→List aP→Prop,Q (nE (some 0) c f (eQ p l)) G→gy (aX F) 130 [QH c p (.fn 128 []),fl f,lW l] G Q by
  obtain⟨_,G',h,rfl,rfl⟩:=h (fun v G'=>v=nE (some 0) c f (eQ p l)∧G'=G) ⟨rfl,rfl⟩;exact h
 intro Q hQ;refine gS rfl rfl ?_;have z1:=hb.c0;have z2:=hb.f0;have cv:=jZ z1;have kv:=j0 cv.k;have hn:=hb.len;have hm:=hb.c9;obtain⟨G0,vV⟩:=ao8 hr hf [] (by simp)
 rw[nE,if_pos (by unfold lI;rw[if_neg (by have:=hb.rd;omega)];rfl)]at vV
 simp only[eo,List.length_nil,kn,List.range_zero,List.map_nil]at vV;rw[show lW []=.slice none 3 [] from rfl]at vV;have e:=hb.cr;generalize hq:eQ p l=q at e hQ;have mz:q.length=l.length:=by rw[←hq,B8]
 simp (disch:=omega) [-getElem?_pos,wrap64,WD,vV];refine go_loop (fun k:Nat=>ajc (lW l) (.slice (some 1070) 3 ((kn c f q k).map Ps.row)) (je p.l) p.l.length k [i64 c.r.n,nC c.r.l,qe c.s,i64 p.f,je p.l,.fn 128 []] (eo c f q k).row [z0,.bV,.bV] k G)
  (fun k=>k≤l.length∧dB (fun k=>fP c (eo c f q k) (nth q k)) (l.length-k) k=lI c f q∧∀j,j<k→fP c (eo c f q j) (nth q j)=0) (fun k=>l.length-k) 0 rfl (by simp[eo,kn]) ⟨by omega,e.symm,by omega⟩ ?_
 rintro k ⟨hk,hE,hj⟩;have B5:=Hd z1 z2 k hj;simp (disch:=omega) [-getElem?_pos,wrap64,WC];refine bE (fun h5=>?_) (fun h5=>?_)
 ·have h5:k<l.length:=by omega
  rw[kB h5]at hE;have qh:nth q k=⟨(nth l k).a,(nth l k).b,nth p.l k⟩:=by rw[←hq,KE h5]
  obtain⟨t1,G1,hP⟩:=Qj hr (yF cv.k B5) (nth q k);rw[qf,Hc z1 B5]at hP;have hs:=ap0 (eo c f q k) (nth p.l k) G;rw[qh]at hP;by_cases h6:fP c (eo c f q k) (nth q k)=0
  ·rw[←qh,if_pos h6,qh]at hP
   simp only[if_pos h6]at hE;simp (disch:=omega) [-getElem?_pos,wrap64,aW (l:=l),aW (l:=p.l),hs,hP];refine bF (k+1) (by simp[Qt,eo,D8,qh]) ⟨by omega,hE,fun j nO=>?_⟩ (by omega)
   by_cases g:j=k
   ·rw[g];exact h6
   ·exact hj j (by omega)
  ·rw[←qh,if_neg h6,qh]at hP
   simp only[if_neg h6]at hE;rw[nE,if_neg (by omega),← hE]at hQ
   rw[qh]at h6 hQ;simp (disch:=omega) [-getElem?_pos,wrap64,aW (l:=l),aW (l:=p.l),hs,hP,h6];exact hQ
 ·obtain rfl:k=l.length:=by omega
  rw[Nat.sub_self]at hE;have hE:0=lI c f q:=hE;rw[nE,if_pos hE.symm,mz]at hQ;exact hQ
theorem abJ{c:Cs}(hr:gW c.r){f:Fl}(hf:jY f)(p:Pn)(l:List Sp)(G:List aP):∃t,aX F 78 [cs c,fl f,pn p,lW l] G=some (vJ t c f p l,G):=by
 have h0:=ap1 c hr hf p 128 [] l;unfold vJ;by_cases hz:tm c f p l.length=0
 ·have h1:=ap2 hr hf (QG hz)
  refine⟨none,?_⟩;rw[if_pos hz];by_cases hy:lI c f (eQ p l)=0
  ·simp only[nE,if_pos hy]at h1 ⊢
   exact bM rfl rfl (by simp[wrap64,IY,h0,hz,h1])
  ·simp only[nE,if_neg hy]at h1 ⊢
   exact bM rfl rfl (by simp[wrap64,IY,h0,hz,h1])
 ·refine⟨some 0,?_⟩
  rw[if_neg hz];exact bM rfl rfl (by simp[wrap64,IY,h0,hz])
end Go.Proofs.YtocclbnghhaejaaGreat
namespace Go.Proofs.YtocclbnghhaejaaGreat
set_option linter.all false
open Go.Vm
def qi(s p:List Int)(i:Nat):Int :=
 if (i=0∧nth s i≠0)∨(0<i∧nth s i≤nth s (i-1)) then 4
 else if 95<nth s i∨nth p i<0∨10000<nth p i then 1 else 0
def qY(s p:List Int):Nat→Nat→Int
 |0,_=>0
 |m+1,i=>if qi s p i=0 then qY s p m (i+1) else qi s p i
def eH(s p:List Int):Int :=
 if s.length=0∨s.length≠p.length then 3 else if 96<s.length then 10 else qY s p s.length 0
end Go.Proofs.YtocclbnghhaejaaGreat
namespace Go.Proofs.YtocclbnghhaejaaGreat
set_option linter.all false
open Go.Vm
def li(s:List Int)(k:Int):Nat→Nat
 |0=>0
 |m+1=>if nth s m≤k then m else li s k m
def pr(s p:List Int)(t:Int):Int:=nth p (li s (t.tmod 96) s.length)
structure Valid(s p:List Int):Prop where
 pos:0<s.length
 len:s.length=p.length
 jo:s.length≤96
 zero:nth s 0=0
 up:∀i,i+1<s.length→nth s i<nth s (i+1)
 top:∀i,i<s.length→0≤nth s i∧nth s i≤95
 awA:∀i,i<s.length→0≤nth p i∧nth p i≤10000
theorem abP{s:List Int}{k:Int}{m:Nat}:li s k (m+1)=if nth s m≤k then m else li s k m:=rfl
end Go.Proofs.YtocclbnghhaejaaGreat
namespace Go.Proofs.YtocclbnghhaejaaGreat
set_option linter.all false
open Go.Vm
instance:Inhabited Ps:=⟨⟨[],[],[]⟩⟩
abbrev Ec(l:List Dr):V:=.slice none 7 (l.map Dr.row)
abbrev qj(l:List Ps):V:=.slice none 3 (l.map Ps.row)
def rf(q:Int):List Dr→Int→Option Int
 |[],n=>some n
 |r::rs,n=>if r.pow<0∨8589934592<r.pow then none else rf q rs (IntKind.i64.wrap (n+IntKind.i64.wrap (r.pow*q)))
def oO(s p:List Int)(t:Int):List Ps→Int→Option Int
 |[],n=>some n
 |x::l,n=>match rf (pr s p t) x.re n with
  |none=>none
  |some n=>oO s p (t+1) l n
def oP(l:List Ps):Bool:=l.any fun x=>decide (6<x.re.length)
theorem QK{l:List Ps}{i:Nat}(h:i<l.length):oP (l.drop i)=(decide (6<(nth l i).re.length) || oP (l.drop (i+1))):=by
 rw[mc h];rfl
theorem KG{s p:List Int}{t n:Int}{l:List Ps}{i:Nat}(h:i<l.length):oO s p t (l.drop i) n=match rf (pr s p t) (nth l i).re n with
  |none=>none
  |some n=>oO s p (t+1) (l.drop (i+1)) n:=by
 rw[mc h];rfl
theorem KH{q n:Int}{l:List Dr}{i:Nat}(h:i<l.length):rf q (l.drop i) n=if (nth l i).pow<0∨8589934592<(nth l i).pow then none else rf q (l.drop (i+1)) (IntKind.i64.wrap (n+IntKind.i64.wrap ((nth l i).pow*q))):=by
 rw[mc h];rfl
end Go.Proofs.YtocclbnghhaejaaGreat
namespace Go.Proofs.YtocclbnghhaejaaGreat
set_option linter.all false
open Go.Vm
end Go.Proofs.YtocclbnghhaejaaGreat
namespace Go.Proofs.YtocclbnghhaejaaGreat
set_option linter.all false
open Go.Vm
attribute [local simp] lQ lR kP lP
abbrev QN(l:List (List Int)):V:=.slice (some 0) 1 (l.map fun p=>[ints p])
theorem Hh{l:List Int}{k:Nat}(hd:db l k){c:Cs}(hn:1≤c.r.n∧c.r.n≤40)(hs:c.s.length≤10)(t:Int){n:Nat}(hm:n≤1000) :
  ∃p k',aX F 28 [.bG 0 0,cs c,i64 t,i64 n] [dk l k]=some (.agg [i64 t,QN p],[dk l k'])∧db l k'∧p.length=n:=by
 suffices h:∀Q:V→List aP→Prop,(∀p k',db l k'→p.length=n→Q (.agg [i64 t,QN p]) [dk l k'])→gy (aX F) 28 [.bG 0 0,cs c,i64 t,i64 n] [dk l k] Q by
  obtain⟨_,_,h,q,k',rfl,rfl,h1⟩:=h (fun v G=>∃p k',v=.agg [i64 t,QN p]∧G=[dk l k']∧db l k'∧p.length=n) fun p k' a b=>⟨p,k',rfl,rfl,a,b⟩;exact⟨q,k',h,h1⟩
 intro Q hQ;refine gS rfl rfl ?_;simp (disch:=omega) [wrap64,U5];refine go_loop (fun y:List (List Int)×Nat=>agW (.bG 0 0) n y.1.length c.row [z0,.bV] [i64 t,.slice (some 1022) 1 (y.1.map fun p=>[ints p])] y.1.length [dk l y.2]) (fun y=>y.1.length≤n∧db l y.2) (fun y=>n-y.1.length) ([],k) rfl (by simp) ⟨by simp,hd⟩ ?_
 rintro⟨p,k⟩ ⟨h1,hd⟩;simp only at h1 hd;simp (disch:=omega) [wrap64,U4];refine bE (fun h5=>?_) (fun h5=>?_)
 ·obtain⟨q,k2,n2,eX,hp⟩:=Qd hd (c:=c) hn hs
  simp (disch:=omega) [wrap64,n2];exact bF (p++[q.c],k2) (by simp) ⟨by simp;omega,eX⟩ (by simp;omega)
 ·obtain e:p.length=n:=by omega
  exact hQ p k hd e
theorem KI{t:Option Nat}{c:Cs}{f:Fl}{p:Pn}{l:List Sp}(h:ot c f p l=0) :
  vJ t c f p l=.tuple [fl (eo c f (eQ p l) l.length),.slice t 3 ((kn c f (eQ p l) l.length).map Ps.row),i64 0]:=by
 unfold ot at h;split at h
 ·rename_i h1;exact absurd h h1
 ·rename_i h1
  unfold vJ nE;rw[if_pos (Decidable.of_not_not h1),if_pos h,B8]
theorem KJ{t:Option Nat}{c:Cs}{f:Fl}{p:Pn}{l:List Sp}(h:ot c f p l≠0):vJ t c f p l=Qu t (ot c f p l):=by
 by_cases h1:tm c f p l.length=0
 ·have e:ot c f p l=lI c f (eQ p l):=by unfold ot;rw[if_neg (fun g=>g h1)]
  rw[e]at h ⊢;unfold vJ nE;rw[if_pos h1,if_neg h]
 ·unfold vJ ot
  rw[if_neg h1,if_pos h1]
noncomputable def gF(c:Cs)(f:Fl)(p:Pn)(l:List Sp):List Ps:=kn c f (eQ p l) l.length
structure Wd where
 w:Int
 s:List Sp
abbrev Wd.row(x:Wd):List V:=[i64 x.w,lW x.s]
abbrev jP(l:List Wd):V:=.slice none 2 (l.map Wd.row)
instance:Inhabited Wd:=⟨⟨0,[]⟩⟩
def wdE(x:Wd)(n:Int):Int:=if 1≤x.w∧x.w≤10000 then (if (x.s.length:Int)=n then 0 else 3) else 1
def zT(l:List Wd)(n:Int):Int:=if l.length=0 then 9 else if 50<l.length then 10 else dB (fun i=>wdE (nth l i) n) l.length 0
theorem avK(c:Cs)(l:List Wd)(n:Int)(G:List aP):aX F 37 [cs c,jP l,i64 n] G=some (i64 (zT l n),G) :=
 bM rfl rfl (by
  generalize hW:zT l n=W;unfold zT at hW;by_cases h1:l.length=0
  ·rw[if_pos h1]at hW
   simp +contextual (disch:=omega) [-getElem?_pos,-List.length_eq_zero_iff,-Int.natCast_eq_zero,wrap64,afJ,h1];exact hW
  rw[if_neg h1]at hW;have ju:¬ (l.length:Int)=0:=by omega
  by_cases h2:50<l.length
  ·rw[if_pos h2]at hW
   have mg:(50:Int)<l.length:=by omega
   simp +contextual (disch:=omega) [-getElem?_pos,-List.length_eq_zero_iff,-Int.natCast_eq_zero,wrap64,afJ,ju,mg];exact hW
  rw[if_neg h2]at hW;have mg:¬ (50:Int)<l.length:=by omega
  simp +contextual (disch:=omega) [-getElem?_pos,-List.length_eq_zero_iff,-Int.natCast_eq_zero,wrap64,afJ,ju,mg];refine go_loop (fun i:Nat=>ayy n (jP l) l.length i G) (fun i=>i≤l.length∧dB (fun i=>wdE (nth l i) n) (l.length-i) i=W) (fun i=>l.length-i) 0 rfl (by simp) ⟨by omega,hW⟩ ?_
  rintro i ⟨hi,hq⟩;simp +contextual (disch:=omega) [-getElem?_pos,-List.length_eq_zero_iff,-Int.natCast_eq_zero,wrap64,atP];refine bE (fun h3=>?_) (fun h3=>?_)
  ·have h3:i<l.length:=by omega
   rw[kB h3]at hq;unfold wdE at hq;by_cases h4:1≤(nth l i).w∧(nth l i).w≤10000
   ·rw[if_pos h4]at hq
    have a:¬ (nth l i).w<1:=by omega
    have b:¬ 10000<(nth l i).w:=by omega
    by_cases h5:((nth l i).s.length:Int)=n
    ·rw[if_pos h5,if_pos rfl]at hq
     simp +contextual (disch:=omega) [-getElem?_pos,-List.length_eq_zero_iff,-Int.natCast_eq_zero,wrap64,aW (l:=l),a,b,h5];exact bF (i+1) (by simp) ⟨by omega,hq⟩ (by omega)
    ·rw[if_neg h5,if_neg (by omega)]at hq
     simp +contextual (disch:=omega) [-getElem?_pos,-List.length_eq_zero_iff,-Int.natCast_eq_zero,wrap64,aW (l:=l),a,b,h5];exact hq
   ·rw[if_neg h4,if_neg (by omega)]at hq
    rcases (by omega:(nth l i).w<1∨(¬(nth l i).w<1∧10000<(nth l i).w)) with a | ⟨a,b⟩
    ·simp +contextual (disch:=omega) [-getElem?_pos,-List.length_eq_zero_iff,-Int.natCast_eq_zero,wrap64,aW (l:=l),a]
     exact hq
    ·simp +contextual (disch:=omega) [-getElem?_pos,-List.length_eq_zero_iff,-Int.natCast_eq_zero,wrap64,aW (l:=l),a,b]
     exact hq
  ·obtain rfl:i=l.length:=by omega
   rw[mE]at hq;exact hq)
theorem an0{l:List Wd}{n:Int}(h:zT l n=0):(0<l.length∧l.length≤50)∧∀i,i<l.length→(1≤(nth l i).w∧(nth l i).w≤10000)∧((nth l i).s.length:Int)=n:=by
 unfold zT at h;split at h
 ·cases h
 ·split at h
  ·cases h
  ·refine⟨by omega,fun i hi=>?_⟩
   have:=rU h i (by omega) (by omega)
   unfold wdE at this;split at this
   ·split at this
    ·exact⟨by assumption,by assumption⟩
    ·cases this
   ·cases this
def vol(r:Rs)(l:Int):Int:=if r8 r l=0 then ik r.c l else 0
theorem avL(r:Rs)(l:Int)(G:List aP):aX F 178 [.agg r.cells,i64 0,i64 l] G=some (i64 (r8 r l),G) :=
 bM rfl rfl (by
  by_cases h:il r=0
  ·by_cases h1:0≤l
   ·by_cases h2:l≤16777216
    ·simp +contextual (disch:=omega) [-getElem?_pos,-List.length_eq_zero_iff,-Int.natCast_eq_zero,wrap64,abI,YJ,h,dC,h1,h2,r8]
    ·simp +contextual (disch:=omega) [-getElem?_pos,-List.length_eq_zero_iff,-Int.natCast_eq_zero,wrap64,abI,YJ,h,dC,h1,h2,r8]
   ·simp +contextual (disch:=omega) [-getElem?_pos,-List.length_eq_zero_iff,-Int.natCast_eq_zero,wrap64,abI,YJ,h,dC,h1,r8]
  ·simp +contextual (disch:=omega) [-getElem?_pos,-List.length_eq_zero_iff,-Int.natCast_eq_zero,wrap64,abI,YJ,h,r8])
theorem aAm(r:Rs)(l:Int)(G:List aP):aX F 145 [.agg r.cells,i64 l] G=some (.tuple [i64 (vol r l),i64 (r8 r l)],G) :=
 bM rfl rfl (by
  by_cases h:r8 r l=0
  ·simp +contextual (disch:=omega) [-getElem?_pos,-List.length_eq_zero_iff,-Int.natCast_eq_zero,wrap64,am5,avL,h,Jq (mb (r7 (alz h))),vol]
  ·simp +contextual (disch:=omega) [-getElem?_pos,-List.length_eq_zero_iff,-Int.natCast_eq_zero,wrap64,am5,avL,h,vol])
theorem af5(l:List Int)(hl:l.length≤17592186044416)(G:List aP):aX F 46 [ints l,ints l] G=some (.bool true,G) :=
 bM rfl rfl (by
  simp +contextual (disch:=omega) [-getElem?_pos,-List.length_eq_zero_iff,-Int.natCast_eq_zero,wrap64,atV];refine go_loop (fun k:Nat=>ayH (ints l) (ints l) l.length k G) (fun k=>k≤l.length) (fun k=>l.length-k) 0 rfl (by simp) (by omega) ?_
  intro k hk;simp +contextual (disch:=omega) [-getElem?_pos,-List.length_eq_zero_iff,-Int.natCast_eq_zero,wrap64,atU];refine bE (fun h=>?_) (fun h=>?_)
  ·have h:k<l.length:=by omega
   simp +contextual (disch:=omega) [-getElem?_pos,-List.length_eq_zero_iff,-Int.natCast_eq_zero,wrap64,dj (l:=l)];exact bF (k+1) (by simp) (by omega) (by omega)
  ·trivial)
structure Ws where
 v:List Int
 h:List Int
 o:Int
 p:Int
 t:Int
abbrev Ws.aoc(x:Ws)(t:Option Nat):List V:=[.slice t 1 (x.h.map fun n=>[i64 n]),i64 x.o,i64 x.p,i64 x.t]
abbrev Ws.row(x:Ws):List V:=x.aoc none
instance:Inhabited Ws:=⟨⟨[],[],0,0,0⟩⟩
def wsV(r:Dr)(v:Int):Int:=IntKind.i64.wrap (v+IntKind.i64.wrap (IntKind.i64.wrap (IntKind.i64.wrap (IntKind.i64.wrap (r.inf-r.los)-r.tur)-r.spi)-r.ovr))
def tG(i:Nat)(r:Dr)(w:Ws):Ws :=
 ⟨w.v.set i (wsV r (nth w.v i)),w.h.set i (max (nth w.h i) (wsV r (nth w.v i))),IntKind.i64.wrap (w.o+r.ovr),IntKind.i64.wrap (w.p+r.pow),IntKind.i64.wrap (w.t+r.jW)⟩
def nW:Nat→List Dr→Ws→Ws
 |_,[],w=>w
 |i,r::rs,w=>nW (i+1) rs (tG i r w)
def po:List Ps→Ws→Ws
 |[],w=>w
 |x::l,w=>po l (nW 0 x.re w)
def wN(f:Fl):Ws:=⟨f.d.map Ds.v,f.d.map Ds.v,0,0,0⟩
def GJ(f:Fl)(l:List Ps):Ws:=po l (wN f)
theorem avM{l:List Dr}{i:Nat}{w:Ws}(h:i<l.length):nW i (l.drop i) w=nW (i+1) (l.drop (i+1)) (tG i (nth l i) w):=by
 rw[mc h];rfl
theorem avN{l:List Ps}{i:Nat}{w:Ws}(h:i<l.length):po (l.drop i) w=po (l.drop (i+1)) (nW 0 (nth l i).re w):=by
 rw[mc h];rfl
theorem avO:∀{l:List Dr} {i:Nat} {w:Ws},(nW i l w).v.length=w.v.length∧(nW i l w).h.length=w.h.length
 |[],_,_=>⟨rfl,rfl⟩
 |r::l,i,w=>by
  have:=avO (l:=l) (i:=i+1) (w:=tG i r w);simpa [nW,tG] using this
theorem avP:∀{l:List Ps} {w:Ws},(po l w).v.length=w.v.length∧(po l w).h.length=w.h.length
 |[],_=>⟨rfl,rfl⟩
 |x::l,w=>by
  have h1:=avO (l:=x.re) (i:=0) (w:=w);have h2:=avP (l:=l) (w:=nW 0 x.re w);exact⟨h2.1.trans h1.1,h2.2.trans h1.2⟩
theorem aAn(n:Int)(s:Ds)(G:List aP):aX F 144 [i64 n,dst s] G=some (i64 s.v,G) :=
 bM rfl rfl (by simp +contextual (disch:=omega) [-getElem?_pos,-List.length_eq_zero_iff,-Int.natCast_eq_zero,wrap64,au7])
theorem avR(l:List Ds)(hl:l.length≤1000)(G:List aP):aX F 143 [m7 l,.fn 144 []] G=some (own (l.map Ds.v),G) :=
 bM rfl rfl (by
  simp +contextual (disch:=omega) [-getElem?_pos,-List.length_eq_zero_iff,-Int.natCast_eq_zero,wrap64,au6];refine go_loop (fun i:Nat=>azm (.fn 144 []) (.slice (some 1021) 1 ((l.take i).map fun s=>[i64 s.v])) (m7 l) l.length i i G) (fun i=>i≤l.length) (fun i=>l.length-i) 0 rfl (by simp) (by omega) ?_
  intro i hi;simp +contextual (disch:=omega) [-getElem?_pos,-List.length_eq_zero_iff,-Int.natCast_eq_zero,wrap64,au5];refine bE (fun h=>?_) (fun h=>?_)
  ·have h:i<l.length:=by omega
   simp +contextual (disch:=omega) [-getElem?_pos,-List.length_eq_zero_iff,-Int.natCast_eq_zero,wrap64,aW (l:=l),aAn];exact bF (i+1) (by simp[jI (l:=l.map fun s=>[i64 s.v]) (i:=i) (by simpa using h),wF h]) (by omega) (by omega)
  ·obtain rfl:i=l.length:=by omega
   rw[List.take_of_length_le (by simp)]
   simp)
theorem aAo{id t:Nat}{l:List Int}(hl:l≠[]):j8 id 0 (.slice (some t) 1 (l.map fun n=>[V.int .i64 n]))=some (.bQ id 1 l.length,some (dM l)):=aon hl
theorem aAp{id t n:Nat}:j8 id 0 (.slice (some t) n [])=some (.dR n,none):=rfl
theorem aAq{l:List Int}{j:Nat}{x:Int}(h:j<l.length):(dM (l.set j x))[j]?=some (.int .i64 x):=by
 rw[lx (by simpa using h),tg h,if_pos rfl]
theorem aof:∀{l:List Ps} {w:Ws},(∀i,i<l.length→(nth l i).re=[])→po l w=w
 |[],_,_=>rfl
 |x::l,w,h=>by
  have h0:x.re=[]:=h 0 (by simp)
  have:=aof (l:=l) (w:=w) fun i hi=>h (i+1) (by simp;omega)
  simpa [po,h0,nW] using this
theorem aAr{f:Fl}{l:List Ps}(hd:f.d.length≤1000)(hl:l.length≤1000)(hr:∀i,i<l.length→(nth l i).re.length≤f.d.length)(G:List aP) :
  ∃t,aX F 92 [fl f,qj l] G=some (.agg ((GJ f l).aoc t),G):=by
 by_cases hz:f.d=[]
 ·refine⟨some 0,bM rfl rfl ?_⟩
  have wO:∀i,i<l.length→(nth l i).re=[]:=fun i hi=>by
   have:=hr i hi;rw[hz]at this;exact List.length_eq_zero_iff.1 (by simpa using this)
  have hW:GJ f l=⟨[],[],0,0,0⟩:=by
   unfold GJ;rw[aof wO,wN,hz];rfl
  rw[hW];have hm:=avR f.d hd [];have hc:=aav [] (by simp) []
  simp only[hz,m7,ints,own,List.map_nil]at hm hc;simp +contextual (disch:=omega) [-getElem?_pos,-List.length_eq_zero_iff,-Int.natCast_eq_zero,wrap64,amZ,hz,hm,aAp,hc];refine go_loop (fun i:Nat=>⟨[(4,.bf 4 0),(5,.dR 1),(6,.bf 6 0),(17,qj l),(18,i64 l.length),(19,i64 i)],[(4,[.bV,z0,z0,z0]),(6,[.dR 1,z0,z0,z0])],[],G⟩) (fun i=>i≤l.length) (fun i=>l.length-i) 0 rfl (by simp) (by omega) ?_
  intro i hi;simp +contextual (disch:=omega) [-getElem?_pos,-List.length_eq_zero_iff,-Int.natCast_eq_zero,wrap64,amX];refine bE (fun h=>?_) (fun h=>?_)
  ·have h:i<l.length:=by omega
   have h0:=wO i h;simp +contextual (disch:=omega) [-getElem?_pos,-List.length_eq_zero_iff,-Int.natCast_eq_zero,wrap64,aW (l:=l),h0];rw[auL,Bc];simp +contextual (disch:=omega) [-getElem?_pos,-List.length_eq_zero_iff,-Int.natCast_eq_zero,wrap64,amU];exact bF (i+1) (by simp) (by omega) (by omega)
  ·simp
 ·refine⟨none,bM rfl rfl ?_⟩
  generalize hW:GJ f l=W;unfold GJ wN at hW;have hm:=avR f.d hd [];have cg:f.d.map Ds.v≠[]:=by simpa using hz
  have gM:0<f.d.length:=by cases e:f.d with|nil=>exact absurd e hz|cons=>simp
  obtain⟨v0,TZ⟩:∃v0,f.d.map Ds.v=v0:=⟨_,rfl⟩;have YV:v0.length=f.d.length:=by rw[←TZ];simp
  rw[TZ]at hW hm cg;have hc:=aav v0 (by omega) []
  simp +contextual (disch:=omega) [-getElem?_pos,-List.length_eq_zero_iff,-Int.natCast_eq_zero,wrap64,amZ,hm,aAo cg,hc,YV,gM];refine go_loop (fun x:Nat×Ws=>ay5 f.d.length (qj l) l.length x.1 [.bV,z0,z0,z0] [.bQ 20015 1 f.d.length,i64 x.2.o,i64 x.2.p,i64 x.2.t] (dM x.2.v) (dM x.2.h) G)
   (fun x=>x.1≤l.length∧po (l.drop x.1) x.2=W∧x.2.v.length=f.d.length∧x.2.h.length=f.d.length) (fun x=>l.length-x.1) (0,⟨v0,v0,0,0,0⟩) rfl (by simp[YV]) ⟨by omega,by simpa using hW,YV,YV⟩ ?_
  rintro⟨i,w⟩ ⟨hi,hq,hv,hh⟩;simp only at hi hq hv hh;simp +contextual (disch:=omega) [-getElem?_pos,-List.length_eq_zero_iff,-Int.natCast_eq_zero,wrap64,amX];refine bE (fun h=>?_) (fun h=>?_)
  ·have h:i<l.length:=by omega
   have hb:=hr i h;rw[avN h]at hq;simp +contextual (disch:=omega) [-getElem?_pos,-List.length_eq_zero_iff,-Int.natCast_eq_zero,wrap64,aW (l:=l)];refine go_loop (fun x:Nat×Ws=>ay3 f.d.length (qj l) l.length i (Ec (nth l i).re) (nth l i).re.length x.1 [.bV,z0,z0,z0] [.bQ 20015 1 f.d.length,i64 x.2.o,i64 x.2.p,i64 x.2.t] (dM x.2.v) (dM x.2.h) G)
    (fun x=>x.1≤(nth l i).re.length∧nW x.1 ((nth l i).re.drop x.1) x.2=nW 0 (nth l i).re w∧x.2.v.length=f.d.length∧x.2.h.length=f.d.length) (fun x=>(nth l i).re.length-x.1) (0,w) rfl (by simp) ⟨by omega,by simp,hv,hh⟩ ?_
   rintro⟨j,u⟩ ⟨hj,nL,hv2,hh2⟩;simp only at hj nL hv2 hh2;simp +contextual (disch:=omega) [-getElem?_pos,-List.length_eq_zero_iff,-Int.natCast_eq_zero,wrap64,amU];refine bE (fun h2=>?_) (fun h2=>?_)
   ·have h2:j<(nth l i).re.length:=by omega
    rw[avM h2]at nL;have qy:j<u.v.length:=by omega
    have hjh:j<u.h.length:=by omega
    simp +contextual (disch:=omega) [-getElem?_pos,-List.length_eq_zero_iff,-Int.natCast_eq_zero,wrap64,aW (l:=(nth l i).re),aAq,lx];exact bF (j+1,tG j (nth (nth l i).re j) u) (by simp[tG,wsV]) ⟨by omega,nL,by simp[tG];omega,by simp[tG];omega⟩ (by simp;omega)
   ·obtain rfl:j=(nth l i).re.length:=by omega
    simp only[List.drop_length,nW]at nL;rw[←nL]at hq;exact bF (i+1,u) (by simp) ⟨by omega,hq,hv2,hh2⟩ (by simp;omega)
  ·obtain rfl:i=l.length:=by omega
   simp only[List.drop_length,po]at hq;subst hq;simp[hh]
theorem aAt(l:List Dr)(hl:l.length≤1000)(p:Dr→Bool)(f:FuncId)(G:List aP)(h:∀i,i<l.length→aX F f [.agg (nth l i).row] G=some (.bool (p (nth l i)),G)) :
  ∃k:Int,(decide (0≤k)=l.any p)∧aX F 177 [.slice none 7 (l.map Dr.row),.fn f []] G=some (i64 k,G):=by
 suffices hh:∀Q:V→List aP→Prop,(∀k:Int,decide (0≤k)=l.any p→Q (i64 k) G)→gy (aX F) 177 [.slice none 7 (l.map Dr.row),.fn f []] G Q by
  obtain⟨_,G',h,k,h1,rfl,rfl⟩:=hh (fun v G'=>∃k:Int,decide (0≤k)=l.any p∧v=i64 k∧G'=G) fun k hk=>⟨k,hk,rfl,rfl⟩;exact⟨k,h1,h⟩
 intro Q hQ;refine gS rfl rfl ?_;simp (disch:=omega) [-getElem?_pos,wrap64,avb];refine go_loop (fun i:Nat=>azt (.slice none 7 (l.map Dr.row)) (.fn f []) l.length i G) (fun i=>i≤l.length∧∀x∈l.take i,p x=false) (fun i=>l.length-i) 0 rfl (by simp) ⟨by omega,by simp⟩ ?_
 rintro i ⟨hi,hp⟩;simp (disch:=omega) [-getElem?_pos,wrap64,ava];refine bE (fun h5=>?_) (fun h5=>?_)
 ·have h5:i<l.length:=by omega
  have hf:=h i h5;simp only[Dr.row]at hf;simp (disch:=omega) [-getElem?_pos,wrap64,aW (l:=l),hf];refine fe (fun h6=>?_) (fun h6=>?_)
  ·refine hQ _ ?_
   rw[decide_eq_true (by omega)]
   exact(List.any_eq_true.2 ⟨_,oK h5,h6⟩).symm
  ·refine bF (i+1) (by simp) ⟨by omega,?_⟩ (by omega)
   intro x hx;rw[jI h5]at hx;rcases List.mem_append.1 hx with hx|hx
   ·exact hp x hx
   ·rw[List.mem_singleton.1 hx];exact h6
 ·obtain rfl:i=l.length:=by omega
  refine hQ _ ?_;rw[List.take_length]at hp;rw[show l.any p=false from List.any_eq_false.2 fun x hx=>by rw[hp x hx];simp]
  rfl
theorem aAu(l:List Dr)(hl:l.length≤1000)(p:Dr→Bool)(f:FuncId)(G:List aP)(h:∀i,i<l.length→aX F f [.agg (nth l i).row] G=some (.bool (p (nth l i)),G)) :
  aX F 141 [.slice none 7 (l.map Dr.row),.fn f []] G=some (.bool (l.any p),G) :=
 bM rfl rfl (by
  obtain⟨k,h1,h2⟩:=aAt l hl p f G h;simp[wrap64,au3,h2];exact h1)
theorem aAv(l:List Ps)(hl:l.length≤1000)(p:Ps→Bool)(f:FuncId)(G:List aP)(h:∀i,i<l.length→aX F f [.agg (nth l i).row] G=some (.bool (p (nth l i)),G)) :
  ∃k:Int,(decide (0≤k)=l.any p)∧aX F 140 [.slice none 3 (l.map Ps.row),.fn f []] G=some (i64 k,G):=by
 suffices hh:∀Q:V→List aP→Prop,(∀k:Int,decide (0≤k)=l.any p→Q (i64 k) G)→gy (aX F) 140 [.slice none 3 (l.map Ps.row),.fn f []] G Q by
  obtain⟨_,G',h,k,h1,rfl,rfl⟩:=hh (fun v G'=>∃k:Int,decide (0≤k)=l.any p∧v=i64 k∧G'=G) fun k hk=>⟨k,hk,rfl,rfl⟩;exact⟨k,h1,h⟩
 intro Q hQ;refine gS rfl rfl ?_;simp (disch:=omega) [-getElem?_pos,wrap64,au2];refine go_loop (fun i:Nat=>azk (.slice none 3 (l.map Ps.row)) (.fn f []) l.length i G) (fun i=>i≤l.length∧∀x∈l.take i,p x=false) (fun i=>l.length-i) 0 rfl (by simp) ⟨by omega,by simp⟩ ?_
 rintro i ⟨hi,hp⟩;simp (disch:=omega) [-getElem?_pos,wrap64,au1];refine bE (fun h5=>?_) (fun h5=>?_)
 ·have h5:i<l.length:=by omega
  have hf:=h i h5;simp only[Ps.row]at hf;simp (disch:=omega) [-getElem?_pos,wrap64,aW (l:=l),hf];refine fe (fun h6=>?_) (fun h6=>?_)
  ·refine hQ _ ?_
   rw[decide_eq_true (by omega)]
   exact(List.any_eq_true.2 ⟨_,oK h5,h6⟩).symm
  ·refine bF (i+1) (by simp) ⟨by omega,?_⟩ (by omega)
   intro x hx;rw[jI h5]at hx;rcases List.mem_append.1 hx with hx|hx
   ·exact hp x hx
   ·rw[List.mem_singleton.1 hx];exact h6
 ·obtain rfl:i=l.length:=by omega
  refine hQ _ ?_;rw[List.take_length]at hp;rw[show l.any p=false from List.any_eq_false.2 fun x hx=>by rw[hp x hx];simp]
  rfl
theorem aAw(l:List Ps)(hl:l.length≤1000)(p:Ps→Bool)(f:FuncId)(G:List aP)(h:∀i,i<l.length→aX F f [.agg (nth l i).row] G=some (.bool (p (nth l i)),G)) :
  aX F 90 [.slice none 3 (l.map Ps.row),.fn f []] G=some (.bool (l.any p),G) :=
 bM rfl rfl (by
  obtain⟨k,h1,h2⟩:=aAv l hl p f G h;simp[wrap64,auJ,h2];exact h1)
def stD(r:Dr):Bool:=decide (8589934592<r.pow)
def QQ(x:Ps):Bool:=x.re.any stD
theorem aAx(r:Dr)(G:List aP):aX F 142 [dr r] G=some (.bool (stD r),G) :=
 bM rfl rfl (by simp +contextual (disch:=omega) [-getElem?_pos,-List.length_eq_zero_iff,-Int.natCast_eq_zero,wrap64,au4,stD])
theorem aAy(x:Ps)(h:x.re.length≤1000)(G:List aP):aX F 91 [ps x] G=some (.bool (QQ x),G) :=
 bM rfl rfl (by
  have h0:=aAu x.re h stD 142 G fun i _=>aAx _ G;simp +contextual (disch:=omega) [-getElem?_pos,-List.length_eq_zero_iff,-Int.natCast_eq_zero,wrap64,auK,h0,QQ])
noncomputable def BK(c:Cs)(f:Fl)(p:Pn)(x:Wd):Int:=if ot c f p x.s≠0 then ot c f p x.s else if (gF c f p x.s).any QQ=true then 1 else 0
noncomputable def kz(c:Cs)(f:Fl)(p:Pn)(l:List Wd):Int :=
 if tl c p≠0 then tl c p else if zT l p.l.length≠0 then zT l p.l.length else dB (fun i=>BK c f p (nth l i)) l.length 0
noncomputable def jt(c:Cs)(f:Fl)(p:Pn)(x:Wd):Ws:=GJ f (gF c f p x.s)
noncomputable def jB(c:Cs)(f:Fl)(p:Pn)(l:List Wd):List Ws:=l.map (jt c f p)
noncomputable def S7(t:Option Nat)(c:Cs)(f:Fl)(p:Pn)(l:List Wd):V:=.tuple (if kz c f p l=0 then [.slice t 4 ((jB c f p l).map Ws.row),i64 0] else [.slice t 4 [],i64 (kz c f p l)])
theorem ac7{t:Option Nat}{c:Cs}{f:Fl}{p:Pn}{l:List Wd}(h:kz c f p l=0):S7 t c f p l=.tuple [.slice t 4 ((jB c f p l).map Ws.row),i64 0]:=by rw[S7,if_pos h]
theorem avS{t:Option Nat}{c:Cs}{f:Fl}{p:Pn}{l:List Wd}(h:kz c f p l≠0):S7 t c f p l=.tuple [.slice t 4 [],i64 (kz c f p l)]:=by rw[S7,if_neg h]
theorem aAz{c:Cs}{f:Fl}{p:Pn}{l:List Wd}{i:Nat}(h:i<l.length):jB c f p (l.take (i+1))=jB c f p (l.take i)++[jt c f p (nth l i)]:=by
 rw[jB,jI h,List.map_append];rfl
structure Pz(c:Cs)(f:Fl)(p:Pn)(l:List Sp):Prop where
 len:(gF c f p l).length=l.length
 jo:l.length≤96
 re:∀i,i<(gF c f p l).length→(nth (gF c f p l) i).re.length=c.s.length
 d:f.d.length=c.s.length
 s:c.s.length≤6
 c0:ew c=0
theorem JC{c:Cs}{f:Fl}{p:Pn}{l:List Sp}(h:ot c f p l=0):Pz c f p l:=by
 unfold ot at h;split at h
 ·rename_i h1;exact absurd h h1
 ·rename_i h1
  have b:=QG (Decidable.of_not_not h1);have cv:=jZ b.c0;have e:(gF c f p l).length=l.length:=by simp[gF,kn]
  refine⟨e,b.c9,fun i hi=>?_,b.f0.2.1.1,cv.s,b.c0⟩;rw[e]at hi;have:nth (gF c f p l) i=D8 c f (eQ p l) i:=by simp[gF,kn,nth,List.getD,hi]
  rw[this];exact(aaY cv _ _).1
theorem ac9{c:Cs}(hr:gW c.r){f:Fl}(hf:jY f)(p:Pn)(l:List Wd)(G:List aP):aX F 39 [cs c,fl f,pn p,jP l] G=some (S7 (some 0) c f p l,G) :=
 bM rfl rfl (by
  generalize hW:S7 (some 0) c f p l=W;unfold S7 kz at hW;have h0:=fun G=>apX c hr p G;by_cases h1:tl c p=0
  case neg =>
   simp only[if_pos h1,if_neg h1]at hW;simp +contextual (disch:=omega) [-getElem?_pos,-List.length_eq_zero_iff,-Int.natCast_eq_zero,wrap64,afO,h0,h1];exact hW
  simp only[if_neg (show ¬ tl c p≠0 from fun g=>g h1)]at hW;have h2:=fun G=>avK c l p.l.length G;by_cases h3:zT l p.l.length=0
  case neg =>
   simp only[if_pos h3,if_neg h3]at hW;simp +contextual (disch:=omega) [-getElem?_pos,-List.length_eq_zero_iff,-Int.natCast_eq_zero,wrap64,afO,h0,h1,h2,h3];exact hW
  simp only[if_neg (show ¬ zT l p.l.length≠0 from fun g=>g h3)]at hW;have hb:=an0 h3;simp +contextual (disch:=omega) [-getElem?_pos,-List.length_eq_zero_iff,-Int.natCast_eq_zero,wrap64,afO,h0,h1,h2,h3];refine go_loop (fun i:Nat=>ayA (.slice (some 1059) 4 ((jB c f p (l.take i)).map Ws.row)) (jP l) l.length i c.row f.row [i64 p.f,je p.l] i G)
   (fun i=>i≤l.length∧(.tuple (if dB (fun i=>BK c f p (nth l i)) (l.length-i) i=0 then [.slice (some 0) 4 ((jB c f p l).map Ws.row),i64 0] else [.slice (some 0) 4 [],i64 (dB (fun i=>BK c f p (nth l i)) (l.length-i) i)]):V)=W) (fun i=>l.length-i) 0 rfl (by simp[jB]) ⟨by omega,hW⟩ ?_
  rintro i ⟨hi,hq⟩;simp +contextual (disch:=omega) [-getElem?_pos,-List.length_eq_zero_iff,-Int.natCast_eq_zero,wrap64,atQ];refine bE (fun h5=>?_) (fun h5=>?_)
  ·have h5:i<l.length:=by omega
   rw[kB h5]at hq;obtain⟨t,hp⟩:=abJ hr hf p (nth l i).s [];by_cases h6:ot c f p (nth l i).s=0
   case neg =>
    have e:BK c f p (nth l i)=ot c f p (nth l i).s:=by rw[BK,if_pos h6]
    rw[KJ h6]at hp;simp only[e,if_neg h6]at hq;simp +contextual (disch:=omega) [-getElem?_pos,-List.length_eq_zero_iff,-Int.natCast_eq_zero,wrap64,aW (l:=l),hp,h6];exact hq
   have pz:=JC h6;rw[KI h6]at hp;have TD:(gF c f p (nth l i).s).length≤1000:=by have:=pz.len;have:=pz.jo;omega
   have wO:∀k,k<(gF c f p (nth l i).s).length→(nth (gF c f p (nth l i).s) k).re.length≤f.d.length:=fun k hk=>by
    have:=pz.re k hk;have:=pz.d;omega
   have hd:f.d.length≤1000:=by have:=pz.d;have:=pz.s;omega
   have BT:=aAw (gF c f p (nth l i).s) TD QQ 91 G fun k hk=>aAy _ (by have:=wO k hk;omega) G
   obtain⟨t2,hw⟩:=aAr hd TD wO [];change aX F _ _ _=some (.tuple [_,.slice t 3 ((gF c f p (nth l i).s).map Ps.row),_],_)at hp;have e0:BK c f p (nth l i)=if (gF c f p (nth l i).s).any QQ=true then 1 else 0:=by rw[BK,if_neg (fun g=>g h6)]
   have e1:jt c f p (nth l i)=GJ f (gF c f p (nth l i).s):=rfl;have e2:=aAz (c:=c) (f:=f) (p:=p) h5;rw[e1]at e2;generalize gF c f p (nth l i).s=X at *;cases h7:X.any QQ with
   |true =>
    rw[h7,if_pos rfl]at e0;rw[h7]at BT;simp only[e0,if_neg (show ¬ (1:Int)=0 by omega)]at hq
    simp +contextual (disch:=omega) [-getElem?_pos,-List.length_eq_zero_iff,-Int.natCast_eq_zero,wrap64,aW (l:=l),hp,BT];exact hq
   |false =>
    rw[h7,if_neg (by simp)]at e0
    rw[h7]at BT;simp only[e0,if_true]at hq;have hlr:(jB c f p (l.take i)).length=i:=by simp[jB];omega
    simp +contextual (disch:=omega) [-getElem?_pos,-List.length_eq_zero_iff,-Int.natCast_eq_zero,wrap64,aW (l:=l),hp,BT,hw,hlr];exact bF (i+1) (by simp[e2]) ⟨by omega,hq⟩ (by omega)
  ·obtain rfl:i=l.length:=by omega
   rw[mE]at hq;simp only[if_true]at hq;have hlr:(jB c f p l).length=l.length:=by simp[jB]
   simpa [hlr] using hq)
end Go.Proofs.YtocclbnghhaejaaGreat
namespace Go.Proofs.YtocclbnghhaejaaGreat
set_option linter.all false
open Go.Vm
theorem avU{f:Nat→Int}:∀{n:Nat},(∀i,i<n→0≤f i∧f i≤1)→0≤dN f n∧dN f n≤n
 |0,_=>by simp[dN]
 |n+1,h=>by
  have h1:=avU (n:=n) fun i hi=>h i (by omega)
  have h2:=h n (by omega)
  simp only[dN];omega
def Uc(r:Dr):Prop:=(0≤r.pow∧r.pow≤6442450944)∧0≤r.jW∧r.jW≤6
theorem aAB{d:Dm}(hd:fq d=0)(s:Ds)(a b q:Int):Uc (lD d s a b q):=by
 have hv:=yn hd;have hu:=hv.u;have h1:=JW (f:=qb d s (kT d q (eh s a b))) (n:=d.u.length) (fun i _=>JA) d.u.length (Nat.le_refl _);have h2:=avU (f:=jW d s (kT d q (eh s a b))) (n:=d.u.length) fun i _=>OZ;refine⟨?_,?_⟩
 ·show 0≤dN _ _∧dN _ _≤_
  omega
 ·show 0≤dN _ _∧dN _ _≤_
  omega
theorem aAC{c:Cs}{f:Fl}{p:Sp}(h:Pa c f p):∀i,i<(sw c f p).re.length→Uc (nth (sw c f p).re i):=fun i hi=>by
 obtain⟨k',_,h2,h3⟩:=(Qh h (Nat.le_refl _)).site i hi;have hc:=jZ h.c0;have hl:=(aaY hc p f).1;have h4:=(wQ hc (i:=i) (by simp only[sw]at hi;omega)).2.2
 have h5:nth (sw c f p).re i=_:=h3.r;rw[h5];exact aAB h4 _ _ _ _
theorem aAD{c:Cs}{f:Fl}{p:Pn}{l:List Sp}(h:ot c f p l=0):∀i,i<(gF c f p l).length→∀k,k<(nth (gF c f p l) i).re.length→Uc (nth (nth (gF c f p l) i).re k):=by
 have e:(gF c f p l).length=l.length:=by simp[gF,kn]
 unfold ot at h;split at h
 ·rename_i h1;exact absurd h h1
 have ra:=apa h;intro i hi;rw[e]at hi;have h3:nth (gF c f p l) i=D8 c f (eQ p l) i:=by simp[gF,kn,nth,List.getD,hi]
 rw[h3];exact aAC (ra.pa (by rw[B8];exact hi))
theorem avV:∀{re:List Dr} {i:Nat} {w:Ws},(∀k,k<re.length→Uc (nth re k))→(0≤w.p∧w.p+6442450944*re.length≤4611686018427387904)→(0≤w.t∧w.t+6*re.length≤4611686018427387904) →
  (0≤(nW i re w).p∧(nW i re w).p≤w.p+6442450944*re.length)∧0≤(nW i re w).t∧(nW i re w).t≤w.t+6*re.length
 |[],i,w,_,h1,h2=>by simp[nW];omega
 |r::re,i,w,h,h1,h2=>by
  have h0:Uc r:=h 0 (by simp)
  obtain⟨a,b⟩:=h0;simp only[List.length_cons]at h1 h2 ⊢;have e1:(tG i r w).p=w.p+r.pow:=by simp only[tG];rw[wrap64 (by omega) (by omega)]
  have e2:(tG i r w).t=w.t+r.jW:=by simp only[tG];rw[wrap64 (by omega) (by omega)]
  have:=avV (re:=re) (i:=i+1) (w:=tG i r w) (fun k hk=>h (k+1) (by simp;omega)) (by omega) (by omega)
  simp only[nW];omega
theorem av6:∀{l:List Ps} {w:Ws} {m:Nat},m≤1000→(∀i,i<l.length→(nth l i).re.length≤m∧∀k,k<(nth l i).re.length→Uc (nth (nth l i).re k))→(0≤w.p∧w.p+6442450944*(m*l.length:Nat)≤4611686018427387904) →
  (0≤w.t∧w.t+6*(m*l.length:Nat)≤4611686018427387904) →
  (0≤(po l w).p∧(po l w).p≤w.p+6442450944*(m*l.length:Nat))∧0≤(po l w).t∧(po l w).t≤w.t+6*(m*l.length:Nat)
 |[],w,m,_,_,h1,h2=>by simp[po];omega
 |x::l,w,m,hm,h,h1,h2=>by
  have h0:=h 0 (by simp)
  change x.re.length≤m∧∀k,k<x.re.length→Uc (nth x.re k)at h0;have e:m*(x::l).length=m*l.length+m:=by rw[List.length_cons,Nat.mul_add,Nat.mul_one]
  rw[e]at h1 h2 ⊢;have a:=avV (re:=x.re) (i:=0) (w:=w) h0.2 (by omega) (by omega)
  have b:=av6 (l:=l) (w:=nW 0 x.re w) (m:=m) hm (fun i hi=>h (i+1) (by simp;omega)) (by omega) (by omega)
  simp only[po];omega
theorem af7{c:Cs}{f:Fl}{p:Pn}{x:Wd}(h:ot c f p x.s=0):(0≤(jt c f p x).p∧(jt c f p x).p≤3710851743744)∧0≤(jt c f p x).t∧(jt c f p x).t≤3456:=by
 have pz:=JC h;have hl:=pz.len;have hf:=pz.jo;have hc:=pz.s;have:=av6 (l:=gF c f p x.s) (w:=wN f) (m:=6) (by omega) (fun i hi=>⟨by have:=pz.re i hi;omega,aAD h i hi⟩) (by simp[wN];omega) (by simp[wN];omega)
 simp only[wN]at this;unfold jt GJ wN;omega
theorem ada{c:Cs}{f:Fl}{p:Pn}{l:List Wd}(h:kz c f p l=0):ew c=0∧(0<l.length∧l.length≤50)∧∀i,i<l.length→(1≤(nth l i).w∧(nth l i).w≤10000)∧ot c f p (nth l i).s=0:=by
 unfold kz at h;split at h
 ·rename_i h1;exact absurd h h1
 split at h
 ·rename_i h1;exact absurd h h1
 rename_i h1 h2;have hb:=an0 (Decidable.of_not_not h2);have h4:∀i,i<l.length→ot c f p (nth l i).s=0:=fun i hi=>by
  have h3:=rU h i (by omega) (by omega)
  unfold BK at h3;split at h3
  ·rename_i h4;exact absurd h3 h4
  ·rename_i h4;exact Decidable.of_not_not h4
 exact⟨(JC (h4 0 hb.1.1)).c0,hb.1,fun i hi=>⟨(hb.2 i hi).1,h4 i hi⟩⟩
def bd(c:Cs)(w:Ws):Bool:=(c.s.zip w.h).any (fun x=>decide (vol x.1.d.r x.1.d.r.s<x.2)) || decide (0<w.o)
noncomputable def zX(l:List Wd)(i:Nat):Int:=dN (fun i=>(nth l i).w) i
noncomputable def lz(c:Cs)(f:Fl)(p:Pn)(l:List Wd)(i:Nat):Int:=dN (fun i=>if bd c (jt c f p (nth l i))=true then (nth l i).w else 0) i
noncomputable def lF(c:Cs)(f:Fl)(p:Pn)(l:List Wd)(i:Nat):Int:=dN (fun i=>(nth l i).w*(jt c f p (nth l i)).p) i
noncomputable def Ac(c:Cs)(f:Fl)(p:Pn)(l:List Wd)(i:Nat):Int:=dN (fun i=>(nth l i).w*(jt c f p (nth l i)).t) i
theorem ade{f:Nat→Int}{b:Int}:∀{n:Nat},(∀i,i<n→0≤f i∧f i≤b)→0≤dN f n∧dN f n≤b*n
 |0,_=>by simp[dN]
 |n+1,h=>by
  have h1:=ade (n:=n) fun i hi=>h i (by omega)
  have h2:=h n (by omega)
  have:b*((n+1:Nat):Int)=b*n+b:=by rw[Int.natCast_add,Int.mul_add];simp
  simp only[dN];omega
theorem af8{a b A B:Int}(h1:0≤a∧a≤A)(h2:0≤b∧b≤B):0≤a*b∧a*b≤A*B :=
 ⟨Int.mul_nonneg h1.1 h2.1,Int.mul_le_mul h1.2 h2.2 h2.1 (by omega)⟩
theorem J0{c:Cs}{f:Fl}{p:Pn}{l:List Wd}(h:kz c f p l=0){i:Nat}(hi:i≤l.length) :
  (0≤zX l i∧zX l i≤500000)∧(0≤lz c f p l i∧lz c f p l i≤500000)∧(0≤lF c f p l i∧lF c f p l i≤1855425871872000000)∧0≤Ac c f p l i∧Ac c f p l i≤1728000000:=by
 obtain⟨_,h2,h3⟩:=ada h;have a:=ade (f:=fun i=>(nth l i).w) (b:=10000) (n:=i) fun j hj=>by have:=(h3 j (by omega)).1;show 0≤(nth l j).w∧_;omega
 have b:=ade (f:=fun i=>if bd c (jt c f p (nth l i))=true then (nth l i).w else 0) (b:=10000) (n:=i) fun j hj=>by
  have:=(h3 j (by omega)).1
  split<;>omega
 have d:=ade (f:=fun i=>(nth l i).w*(jt c f p (nth l i)).p) (b:=10000*3710851743744) (n:=i) fun j hj=>by
  obtain⟨g1,g2⟩:=h3 j (by omega)
  exact af8 (by omega) (af7 g2).1
 have e:=ade (f:=fun i=>(nth l i).w*(jt c f p (nth l i)).t) (b:=10000*3456) (n:=i) fun j hj=>by
  obtain⟨g1,g2⟩:=h3 j (by omega)
  exact af8 (by omega) (af7 g2).2
 unfold zX lz lF Ac;omega
theorem af9{c:Cs}{f:Fl}{p:Pn}{l:List Wd}(h:kz c f p l=0){i:Nat}(hi:i<l.length) :
  (1≤(nth l i).w∧(nth l i).w≤10000)∧(0≤(nth l i).w*(jt c f p (nth l i)).p∧(nth l i).w*(jt c f p (nth l i)).p≤37108517437440000)∧0≤(nth l i).w*(jt c f p (nth l i)).t∧(nth l i).w*(jt c f p (nth l i)).t≤34560000:=by
 obtain⟨_,h2,h3⟩:=ada h;obtain⟨g1,g2⟩:=h3 i hi;have a:=af8 (a:=(nth l i).w) (A:=10000) (by omega) (af7 g2).1
 have b:=af8 (a:=(nth l i).w) (A:=10000) (by omega) (af7 g2).2
 omega
end Go.Proofs.YtocclbnghhaejaaGreat

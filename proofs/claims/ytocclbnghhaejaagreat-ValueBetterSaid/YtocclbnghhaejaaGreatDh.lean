/- Parts of the proof, joined: Pln1, Pln2, Val1, Val2, Wor1, Tar1, Vbt1. -/
import Derived.Test.YtocclbnghhaejaaGreatDg
import Derived.Test.YtocclbnghhaejaaGreatDa
import Derived.Test.YtocclbnghhaejaaGreatDf
namespace Go.Proofs.YtocclbnghhaejaaGreat
set_option linter.all false
open Go.Vm
attribute [local simp] lQ lR kP lP
structure Pn where
 f:Int
 l:List (List Int)
abbrev Pn.row(p:Pn):List V:=[i64 p.f,je p.l]
abbrev pn(p:Pn):V:=.agg p.row
noncomputable def Eb(c:Cs)(l:List (List Int))(i:Nat):Int:=if (nth l i).length=c.s.length then (if eJ (nth l i) 1073741824 then 0 else 1) else 51
noncomputable def tl(c:Cs)(p:Pn):Int:=if ew c≠0 then ew c else if 0≤p.f∧p.f≤16777216 then (if 96<p.l.length then 10 else dB (Eb c p.l) p.l.length 0) else 6
theorem apW(n:Int)(G:List aP):aX F 139 [i64 n] G=some (.bool (!decide (0≤n∧n≤1073741824)),G) :=
 bM rfl rfl (by
  simp[wrap64,WN];by_cases h1:n<0
  ·simp[wrap64,h1,show ¬ 0≤n by omega]
  ·simp[wrap64,h1,show 0≤n by omega]
   by_cases h2:n≤1073741824
   ·simp[wrap64,h2,show ¬ 1073741824<n by omega]
   ·simp[wrap64,h2,show 1073741824<n by omega])
theorem apX(c:Cs)(hr:gW c.r)(p:Pn)(G:List aP):aX F 89 [cs c,pn p] G=some (i64 (tl c p),G) :=
 bM rfl rfl (by
  obtain⟨t,l⟩:=p;generalize hW:tl c ⟨t,l⟩=W;unfold tl at hW;simp only at hW;have h0:=GV c hr;by_cases h1:ew c=0
  case neg =>
   rw[if_pos h1]at hW;simp (disch:=omega) [-getElem?_pos,wrap64,Dp,h0,h1];exact hW
  rw[if_neg (by omega)]at hW
  have hs:=(jZ h1).s;by_cases h2:0≤t∧t≤16777216
  case neg =>
   rw[if_neg h2]at hW;rcases (by omega:t<0∨(¬t<0∧16777216<t)) with a | ⟨a,b⟩
   ·simp (disch:=omega) [-getElem?_pos,wrap64,Dp,h0,h1,a]
    exact hW
   ·simp (disch:=omega) [-getElem?_pos,wrap64,Dp,h0,h1,a,b]
    exact hW
  rw[if_pos h2]at hW;have a:¬ t<0:=by omega
  have b:¬ 16777216<t:=by omega
  by_cases h3:96<l.length
  ·rw[if_pos h3]at hW
   have gU:(96:Int)<l.length:=by omega
   simp (disch:=omega) [-getElem?_pos,wrap64,Dp,h0,h1,a,b,gU];exact hW
  rw[if_neg h3]at hW;have gU:¬ (96:Int)<l.length:=by omega
  simp (disch:=omega) [-getElem?_pos,wrap64,Dp,h0,h1,a,b,gU];refine go_loop (fun i:Nat=>aix (je l) l.length i c.row G) (fun i=>i≤l.length∧dB (Eb c l) (l.length-i) i=W) (fun i=>l.length-i) 0 rfl (by simp) ⟨by omega,hW⟩ ?_
  rintro i ⟨hi,hq⟩;simp (disch:=omega) [-getElem?_pos,wrap64,V8];refine bE (fun h5=>?_) (fun h5=>?_)
  ·have h5:i<l.length:=by omega
   rw[kB h5]at hq;unfold Eb at hq;by_cases h6:(nth l i).length=c.s.length
   ·rw[if_pos h6]at hq
    have hc:=PF (nth l i) (by omega) (fun n => !decide (0≤n∧n≤1073741824)) 139 G (fun n=>apW n G)
    rw[aaQ]at hc;by_cases h7:eJ (nth l i) 1073741824
    ·rw[if_pos h7]at hq
     simp (disch:=omega) [-getElem?_pos,wrap64,a8 (l:=l),h6,hc,h7];exact bF (i+1) (by simp) ⟨by omega,hq⟩ (by omega)
    ·rw[if_neg h7]at hq
     simp (disch:=omega) [-getElem?_pos,wrap64,a8 (l:=l),h6,hc,h7];exact hq
   ·rw[if_neg h6]at hq
    have gV:¬ ((nth l i).length:Int)=c.s.length:=by omega
    simp (disch:=omega) [-getElem?_pos,wrap64,a8 (l:=l),gV];exact hq
  ·obtain rfl:i=l.length:=by omega
   rw[mE]at hq;exact hq)
theorem apY(c:Cs)(hr:gW c.r)(p:Pn)(G:List aP):aX F 93 [cs c,pn p] G=some (i64 (tl c p),G) :=
 bM rfl rfl (by
  obtain⟨t,l⟩:=p;generalize hW:tl c ⟨t,l⟩=W;unfold tl at hW;simp only at hW;have h0:=BX c hr;by_cases h1:ew c=0
  case neg =>
   rw[if_pos h1]at hW;simp (disch:=omega) [-getElem?_pos,wrap64,Dq,h0,h1];exact hW
  rw[if_neg (by omega)]at hW
  have hs:=(jZ h1).s;by_cases h2:0≤t∧t≤16777216
  case neg =>
   rw[if_neg h2]at hW;rcases (by omega:t<0∨(¬t<0∧16777216<t)) with a | ⟨a,b⟩
   ·simp (disch:=omega) [-getElem?_pos,wrap64,Dq,h0,h1,a]
    exact hW
   ·simp (disch:=omega) [-getElem?_pos,wrap64,Dq,h0,h1,a,b]
    exact hW
  rw[if_pos h2]at hW;have a:¬ t<0:=by omega
  have b:¬ 16777216<t:=by omega
  by_cases h3:96<l.length
  ·rw[if_pos h3]at hW
   have gU:(96:Int)<l.length:=by omega
   simp (disch:=omega) [-getElem?_pos,wrap64,Dq,h0,h1,a,b,gU];exact hW
  rw[if_neg h3]at hW;have gU:¬ (96:Int)<l.length:=by omega
  simp (disch:=omega) [-getElem?_pos,wrap64,Dq,h0,h1,a,b,gU];refine go_loop (fun i:Nat=>aiB (je l) l.length i c.row G) (fun i=>i≤l.length∧dB (Eb c l) (l.length-i) i=W) (fun i=>l.length-i) 0 rfl (by simp) ⟨by omega,hW⟩ ?_
  rintro i ⟨hi,hq⟩;simp (disch:=omega) [-getElem?_pos,wrap64,Wa];refine bE (fun h5=>?_) (fun h5=>?_)
  ·have h5:i<l.length:=by omega
   rw[kB h5]at hq;unfold Eb at hq;by_cases h6:(nth l i).length=c.s.length
   ·rw[if_pos h6]at hq
    simp (disch:=omega) [-getElem?_pos,wrap64,a8 (l:=l),h6];refine go_loop (fun j:Nat=>aiz (je l) l.length i (ints (nth l i)) (nth l i).length j c.row G) (fun j=>j≤(nth l i).length∧∀k,k<j→0≤nth (nth l i) k∧nth (nth l i) k≤1073741824) (fun j=>(nth l i).length-j) 0 rfl (by simp[h6]) ⟨by omega,by omega⟩ ?_
    rintro j ⟨hj,hk⟩;simp (disch:=omega) [-getElem?_pos,wrap64,V9];refine bE (fun h7=>?_) (fun h7=>?_)
    ·have h7:j<(nth l i).length:=by omega
     by_cases g:0≤nth (nth l i) j∧nth (nth l i) j≤1073741824
     ·simp (disch:=omega) [-getElem?_pos,wrap64,dj (l:=nth l i),show ¬ nth (nth l i) j<0 by omega,show ¬ 1073741824<nth (nth l i) j by omega]
      refine bF (j+1) (by simp) ⟨by omega,fun k mP=>?_⟩ (by omega)
      rcases (by omega:k<j∨k=j) with h|rfl
      ·exact hk k h
      ·exact g
     ·rw[if_neg (fun q:eJ (nth l i) 1073741824=>g (q j h7))]at hq
      rcases (by omega:nth (nth l i) j<0∨(¬nth (nth l i) j<0∧1073741824<nth (nth l i) j)) with a | ⟨a,b⟩
      ·simp (disch:=omega) [-getElem?_pos,wrap64,dj (l:=nth l i),a]
       exact hq
      ·simp (disch:=omega) [-getElem?_pos,wrap64,dj (l:=nth l i),a,b]
       exact hq
    ·obtain rfl:j=(nth l i).length:=by omega
     rw[if_pos (show eJ (nth l i) 1073741824 from hk)]at hq;exact bF (i+1) (by simp) ⟨by omega,hq⟩ (by omega)
   ·rw[if_neg h6]at hq
    have gV:¬ ((nth l i).length:Int)=c.s.length:=by omega
    simp (disch:=omega) [-getElem?_pos,wrap64,a8 (l:=l),gV];exact hq
  ·obtain rfl:i=l.length:=by omega
   rw[mE]at hq;exact hq)
noncomputable def tm(c:Cs)(f:Fl)(p:Pn)(n:Nat):Int:=if tl c p≠0 then tl c p else if ft c f then (if p.f=f.t then (if n=p.l.length then 0 else 3) else 6) else 50
theorem apZ(c:Cs)(hr:gW c.r){f:Fl}(hf:jY f)(p:Pn)(l:List Sp)(G:List aP):aX F 131 [cs c,fl f,pn p,lW l] G=some (i64 (tm c f p l.length),G) :=
 bM rfl rfl (by
  have h0:=apY c hr p;have h1:=DY c hr f hf;unfold tm;by_cases a:tl c p=0
  case neg=>simp (disch:=omega) [-getElem?_pos,wrap64,Dx,h0,a]
  have hc:ew c=0:=by
   unfold tl at a;split at a
   ·rename_i h;exact absurd a h
   ·rename_i h;exact Decidable.of_not_not h
  by_cases b:ft c f
  case neg=>simp (disch:=omega) [-getElem?_pos,wrap64,Dx,h0,a,h1,b]
  by_cases d:p.f=f.t
  case neg=>simp (disch:=omega) [-getElem?_pos,wrap64,Dx,h0,a,h1,hc,b,d]
  obtain⟨t,pl⟩:=p;obtain rfl:t=f.t:=d;by_cases e:l.length=pl.length
  ·simp (disch:=omega) [-getElem?_pos,wrap64,Dx,h0,a,h1,hc,b,e]
  ·have e':¬ (l.length:Int)=pl.length:=by omega
   simp (disch:=omega) [-getElem?_pos,wrap64,Dx,h0,a,h1,hc,b,e,e'])
def eQ(p:Pn)(l:List Sp):List Sp:=(List.range l.length).map fun i=>⟨(nth l i).a,(nth l i).b,nth p.l i⟩
theorem B8{p:Pn}{l:List Sp}:(eQ p l).length=l.length:=by simp[eQ]
theorem KE{p:Pn}{l:List Sp}{i:Nat}(h:i<l.length):nth (eQ p l) i=⟨(nth l i).a,(nth l i).b,nth p.l i⟩:=by
 simp[nth,eQ,List.getD,h]
noncomputable def ot(c:Cs)(f:Fl)(p:Pn)(l:List Sp):Int:=if tm c f p l.length≠0 then tm c f p l.length else lI c f (eQ p l)
noncomputable def vJ(t:Option Nat)(c:Cs)(f:Fl)(p:Pn)(l:List Sp):V:=if tm c f p l.length=0 then nE t c f (eQ p l) else Qu t (tm c f p l.length)
structure Bg(c:Cs)(f:Fl)(p:Pn)(n:Nat):Prop where
 c0:ew c=0
 f0:ft c f
 t:p.f=f.t
 len:n=p.l.length
 c9:n≤96
 e:∀i,i<n→(nth p.l i).length=c.s.length∧eJ (nth p.l i) 1073741824
theorem QG{c:Cs}{f:Fl}{p:Pn}{n:Nat}(h:tm c f p n=0):Bg c f p n:=by
 unfold tm at h;split at h
 ·rename_i h1;exact absurd h h1
 ·rename_i h1
  have h1:=Decidable.of_not_not h1;unfold tl at h1;split at h1
  ·rename_i h2;exact absurd h1 h2
  ·rename_i h2
   split at h1
   ·split at h1
    ·cases h1
    ·split at h
     ·split at h
      ·split at h
       ·rename_i h3 h4 h5 h6
        refine⟨Decidable.of_not_not h2,h4,h5,h6,by omega,fun i hi=>?_⟩
        have h7:=rU h1 i (by omega) (by omega)
        unfold Eb at h7;split at h7
        ·split at h7
         ·exact⟨by assumption,by assumption⟩
         ·cases h7
        ·cases h7
       ·cases h
      ·cases h
     ·cases h
   ·cases h1
theorem Bg.rd{c:Cs}{f:Fl}{p:Pn}{n:Nat}(h:Bg c f p n):iq c f=0:=by
 unfold iq;rw[if_neg (by have:=h.c0;omega),if_pos h.f0]
theorem Bg.cr{c:Cs}{f:Fl}{p:Pn}{l:List Sp}(h:Bg c f p l.length):lI c f (eQ p l)=dB (fun k=>fP c (eo c f (eQ p l) k) (nth (eQ p l) k)) l.length 0:=by
 have:=h.c9;unfold lI;rw[if_neg (by have:=h.rd;omega),B8,if_neg (by omega)]
abbrev QH(c:Cs)(p:Pn)(g:V):V:=.agg [i64 c.r.n,nC c.r.l,qe c.s,i64 p.f,je p.l,g]
theorem ap0(f:Fl)(l:List Int)(G:List aP):aX F 128 [fl f,ints l] G=some (ints l,G) :=
 bM rfl rfl (by simp[wrap64,WB])
theorem ap1(c:Cs)(hr:gW c.r){f:Fl}(hf:jY f)(p:Pn)(q:FuncId)(cap:List V)(l:List Sp)(G:List aP):aX F 129 [QH c p (.fn q cap),fl f,lW l] G=some (i64 (tm c f p l.length),G) :=
 bM rfl rfl (by
  have h0:=apX c hr p;have h1:=PY c hr f hf;unfold tm;by_cases a:tl c p=0
  case neg=>simp (disch:=omega) [-getElem?_pos,wrap64,Du,h0,a]
  have hc:ew c=0:=by
   unfold tl at a;split at a
   ·rename_i h;exact absurd a h
   ·rename_i h;exact Decidable.of_not_not h
  by_cases b:ft c f
  case neg=>simp (disch:=omega) [-getElem?_pos,wrap64,Du,h0,a,h1,b]
  by_cases d:p.f=f.t
  case neg=>simp (disch:=omega) [-getElem?_pos,wrap64,Du,h0,a,h1,hc,b,d]
  obtain⟨t,pl⟩:=p;obtain rfl:t=f.t:=d;by_cases e:l.length=pl.length
  ·simp (disch:=omega) [-getElem?_pos,wrap64,Du,h0,a,h1,hc,b,e]
  ·have e':¬ (l.length:Int)=pl.length:=by omega
   simp (disch:=omega) [-getElem?_pos,wrap64,Du,h0,a,h1,hc,b,e,e'])
set_option maxRecDepth 100000 in
set_option maxHeartbeats 1000000 in
theorem ap2{c:Cs}(hr:gW c.r){f:Fl}(hf:jY f){p:Pn}{l:List Sp}(hb:Bg c f p l.length)(G:List aP) :
  aX F 130 [QH c p (.fn 128 []),fl f,lW l] G=some (nE (some 0) c f (eQ p l),G):=by
 suffices h:∀Q:V→List aP→Prop,Q (nE (some 0) c f (eQ p l)) G→gy (aX F) 130 [QH c p (.fn 128 []),fl f,lW l] G Q by
  obtain⟨_,G',h,rfl,rfl⟩:=h (fun v G'=>v=nE (some 0) c f (eQ p l)∧G'=G) ⟨rfl,rfl⟩;exact h
 intro Q hQ;refine gS rfl rfl ?_;have z1:=hb.c0;have z2:=hb.f0;have cv:=jZ z1;have kv:=j0 cv.k;have hn:=hb.len;have hm:=hb.c9;obtain⟨G0,vV⟩:=ao8 hr hf [] (by simp)
 rw[nE,if_pos (by unfold lI;rw[if_neg (by have:=hb.rd;omega)];rfl)]at vV
 simp only[eo,List.length_nil,kn,List.range_zero,List.map_nil]at vV;rw[show lW []=.slice none 3 [] from rfl]at vV;have e:=hb.cr;generalize hq:eQ p l=q at e hQ;have mz:q.length=l.length:=by rw[←hq,B8]
 simp (disch:=omega) [-getElem?_pos,wrap64,WD,vV];refine go_loop (fun k:Nat=>ajc (lW l) (.slice (some 1070) 3 ((kn c f q k).map Ps.row)) (je p.l) p.l.length k [i64 c.r.n,nC c.r.l,qe c.s,i64 p.f,je p.l,.fn 128 []] (eo c f q k).row [z0,.bV,.bV] k G)
  (fun k=>k≤l.length∧dB (fun k=>fP c (eo c f q k) (nth q k)) (l.length-k) k=lI c f q∧∀j,j<k→fP c (eo c f q j) (nth q j)=0) (fun k=>l.length-k) 0 rfl (by simp[eo,kn]) ⟨by omega,e.symm,by omega⟩ ?_
 rintro k ⟨hk,hE,hj⟩;have B5:=Hd z1 z2 k hj;simp (disch:=omega) [-getElem?_pos,wrap64,WC];refine bE (fun h5=>?_) (fun h5=>?_)
 ·have h5:k<l.length:=by omega
  rw[kB h5]at hE;have qh:nth q k=⟨(nth l k).a,(nth l k).b,nth p.l k⟩:=by rw[←hq,KE h5]
  obtain⟨t1,G1,hP⟩:=Qj hr (yF cv.k B5) (nth q k);rw[qf,Hc z1 B5]at hP;have hs:=ap0 (eo c f q k) (nth p.l k) G;rw[qh]at hP;by_cases h6:fP c (eo c f q k) (nth q k)=0
  ·rw[←qh,if_pos h6,qh]at hP
   simp only[if_pos h6]at hE;simp (disch:=omega) [-getElem?_pos,wrap64,a8 (l:=l),a8 (l:=p.l),hs,hP];refine bF (k+1) (by simp[Qt,eo,D8,qh]) ⟨by omega,hE,fun j nO=>?_⟩ (by omega)
   by_cases g:j=k
   ·rw[g];exact h6
   ·exact hj j (by omega)
  ·rw[←qh,if_neg h6,qh]at hP
   simp only[if_neg h6]at hE;rw[nE,if_neg (by omega),← hE]at hQ
   rw[qh]at h6 hQ;simp (disch:=omega) [-getElem?_pos,wrap64,a8 (l:=l),a8 (l:=p.l),hs,hP,h6];exact hQ
 ·obtain rfl:k=l.length:=by omega
  rw[Nat.sub_self]at hE;have hE:0=lI c f q:=hE;rw[nE,if_pos hE.symm,mz]at hQ;exact hQ
theorem abJ{c:Cs}(hr:gW c.r){f:Fl}(hf:jY f)(p:Pn)(l:List Sp)(G:List aP):∃t,aX F 78 [cs c,fl f,pn p,lW l] G=some (vJ t c f p l,G):=by
 have h0:=ap1 c hr hf p 128 [] l;unfold vJ;by_cases hz:tm c f p l.length=0
 ·have h1:=ap2 hr hf (QG hz)
  refine⟨none,?_⟩;rw[if_pos hz];by_cases hy:lI c f (eQ p l)=0
  ·simp only[nE,if_pos hy]at h1 ⊢
   exact bM rfl rfl (by simp[wrap64,IY,h0,hz,h1])
  ·simp only[nE,if_neg hy]at h1 ⊢
   exact bM rfl rfl (by simp[wrap64,IY,h0,hz,h1])
 ·refine⟨some 0,?_⟩
  rw[if_neg hz];exact bM rfl rfl (by simp[wrap64,IY,h0,hz])
set_option maxRecDepth 100000 in
set_option maxHeartbeats 1000000 in
theorem abK{c:Cs}(hr:gW c.r){f:Fl}(hf:jY f)(p:Pn)(l:List Sp)(hp:∀i,i<l.length→(nth l i).a.length≤1000∧(nth l i).b.length≤1000) :
  ∃G',aX F 81 [cs c,fl f,pn p,lW l] []=some (vJ (some 0) c f p l,G'):=by
 suffices h:∀Q:V→Prop,Q (vJ (some 0) c f p l)→gy (aX F) 81 [cs c,fl f,pn p,lW l] [] fun v _=>Q v by
  obtain⟨_,G',h,rfl⟩:=h (fun v=>v=vJ (some 0) c f p l) rfl;exact⟨G',h⟩
 intro Q hQ;refine gS rfl rfl ?_;have h0:=apZ c hr hf p l;unfold vJ at hQ;by_cases hz:tm c f p l.length=0
 case neg =>
  rw[if_neg hz]at hQ;simp (disch:=omega) [-getElem?_pos,wrap64,NI,h0,hz];exact hQ
 rw[if_pos hz]at hQ;have hb:=QG hz;have z1:=hb.c0;have z2:=hb.f0;have cv:=jZ z1;have kv:=j0 cv.k;have hn:=hb.len;have hm:=hb.c9;have GW:=cv.s;have fC:=P7 f (Ai z1 z2.2.1) (G7 cv.k z2.2.2);have e:=hb.cr;generalize hq:eQ p l=q at e hQ;have mz:q.length=l.length:=by rw[←hq,B8]
 simp (disch:=omega) [-getElem?_pos,wrap64,NI,h0,hz,fC];refine go_loop (fun k:Nat=>aic (.slice (some 1061) 3 ((kn c f q k).map Ps.row)) (lW l) l.length k c.row (eo c f q k).row p.row [z0,.bV,.bV] k [.cells [],.cells []])
  (fun k=>k≤l.length∧dB (fun k=>fP c (eo c f q k) (nth q k)) (l.length-k) k=lI c f q∧∀j,j<k→fP c (eo c f q j) (nth q j)=0) (fun k=>l.length-k) 0 rfl (by simp (disch:=omega) [sr,Ag,eo,kn]) ⟨by omega,e.symm,by omega⟩ ?_
 rintro k ⟨hk,hE,hj⟩;have B5:=Hd z1 z2 k hj;simp (disch:=omega) [-getElem?_pos,wrap64,VW];refine bE (fun h5=>?_) (fun h5=>?_)
 ·have h5:k<l.length:=by omega
  rw[kB h5]at hE;have qh:nth q k=⟨(nth l k).a,(nth l k).b,nth p.l k⟩:=by rw[←hq,KE h5]
  obtain⟨G1,hP⟩:=Ki (p:=nth q k) hr (yF cv.k B5) (by rw[qh];have:=hp k h5;have:=(hb.e k h5).1;simp only;omega)
  rw[qf,Hc z1 B5]at hP;rw[qh]at hP;by_cases h6:fP c (eo c f q k) (nth q k)=0
  ·rw[←qh,if_pos h6,qh]at hP
   simp only[if_pos h6]at hE;simp (disch:=omega) [-getElem?_pos,wrap64,a8 (l:=l),a8 (l:=p.l),hP];refine bF (k+1) (by simp[Qt,eo,D8,qh]) ⟨by omega,hE,fun j nO=>?_⟩ (by omega)
   by_cases g:j=k
   ·rw[g];exact h6
   ·exact hj j (by omega)
  ·rw[←qh,if_neg h6,qh]at hP
   simp only[if_neg h6]at hE;rw[nE,if_neg (by omega),← hE]at hQ
   rw[qh]at h6 hQ;simp (disch:=omega) [-getElem?_pos,wrap64,a8 (l:=l),a8 (l:=p.l),hP,h6];exact hQ
 ·obtain rfl:k=l.length:=by omega
  rw[Nat.sub_self]at hE;have hE:0=lI c f q:=hE;rw[nE,if_pos hE.symm,mz]at hQ;exact hQ
abbrev tn(s p:List Int):V:=.agg [ints s,ints p]
def qi(s p:List Int)(i:Nat):Int :=
 if (i=0∧nth s i≠0)∨(0<i∧nth s i≤nth s (i-1)) then 4
 else if 95<nth s i∨nth p i<0∨10000<nth p i then 1 else 0
def qY(s p:List Int):Nat→Nat→Int
 |0,_=>0
 |m+1,i=>if qi s p i=0 then qY s p m (i+1) else qi s p i
def eH(s p:List Int):Int :=
 if s.length=0∨s.length≠p.length then 3 else if 96<s.length then 10 else qY s p s.length 0
theorem abL{s p:List Int}{i n:Nat}(h:i<n):qY s p (n-i) i=if qi s p i=0 then qY s p (n-(i+1)) (i+1) else qi s p i:=by
 obtain⟨m,hm⟩:∃m,n-i=m+1:=⟨n-i-1,by omega⟩
 rw[hm,qY,show n-(i+1)=m by omega]
theorem uA(s p:List Int)(G:List aP):aX F 76 [tn s p] G=some (i64 (eH s p),G) :=
 bM rfl rfl (by
  simp +contextual (disch:=omega) [-getElem?_pos,-List.length_eq_zero_iff,-Int.natCast_eq_zero,wrap64,VM];refine fe (fun h=>?_) (fun h=>bE (fun h'=>?_) (fun h'=>?_))
  ·simp[-List.length_eq_zero_iff,-Int.natCast_eq_zero]at h
   simp only[eH];rw[if_pos (by omega)]
  ·simp[-List.length_eq_zero_iff,-Int.natCast_eq_zero]at h
   simp only[eH];rw[if_neg (by omega),if_pos (by omega)]
  ·have hc:eH s p=qY s p s.length 0:=by
    simp[-List.length_eq_zero_iff,-Int.natCast_eq_zero]at h;simp only[eH];rw[if_neg (by omega),if_neg (by omega)]
   rw[hc];have hl:s.length=p.length:=by simp[-List.length_eq_zero_iff,-Int.natCast_eq_zero]at h;omega
   refine go_loop (fun i:Nat=>ah2 (ints s) s.length i [ints s,ints p] G) (fun i=>i≤s.length∧qY s p (s.length-i) i=qY s p s.length 0) (fun i=>s.length-i) 0 rfl (by simp) (by simp) ?_
   rintro i ⟨hi,hq⟩;rw[←hq];simp +contextual (disch:=omega) [-getElem?_pos,-List.length_eq_zero_iff,-Int.natCast_eq_zero,wrap64,VL];refine bE (fun h1=>?_) (fun h1=>?_)
   ·have h1:i<s.length:=by omega
    rw[abL h1]at hq ⊢;simp +contextual (disch:=omega) [-getElem?_pos,-List.length_eq_zero_iff,-Int.natCast_eq_zero,wrap64,dj];refine fe (fun h=>?_) (fun h=>fe (fun h2=>?_) (fun h2=>?_))
    ·simp[-List.length_eq_zero_iff,-Int.natCast_eq_zero]at h
     rw[if_neg]<;>simp only[qi]<;>rw[if_pos (by omega)]
     decide
    ·simp[-List.length_eq_zero_iff,-Int.natCast_eq_zero]at h
     simp[-List.length_eq_zero_iff,-Int.natCast_eq_zero]at h2;have:qi s p i=1:=by
      simp only[qi];rw[if_neg (by omega),if_pos (by omega)]
     simp[this]
    ·simp[-List.length_eq_zero_iff,-Int.natCast_eq_zero]at h
     simp[-List.length_eq_zero_iff,-Int.natCast_eq_zero]at h2;have h0:qi s p i=0:=by
      simp only[qi];rw[if_neg (by omega),if_neg (by omega)]
     rw[if_pos h0]at hq ⊢;exact bF (i+1) (by simp) ⟨by omega,rfl⟩ (by omega)
   ·obtain rfl:i=s.length:=by omega
    simp[qY])
theorem uB(s p:List Int)(G:List aP):aX F 80 [tn s p] G=some (i64 (eH s p),G) :=
 bM rfl rfl (by
  simp +contextual (disch:=omega) [-getElem?_pos,-List.length_eq_zero_iff,-Int.natCast_eq_zero,wrap64,VV];refine fe (fun h=>?_) (fun h=>bE (fun h'=>?_) (fun h'=>?_))
  ·simp[-List.length_eq_zero_iff,-Int.natCast_eq_zero]at h
   simp only[eH];rw[if_pos (by omega)]
  ·simp[-List.length_eq_zero_iff,-Int.natCast_eq_zero]at h
   simp only[eH];rw[if_neg (by omega),if_pos (by omega)]
  ·have hc:eH s p=qY s p s.length 0:=by
    simp[-List.length_eq_zero_iff,-Int.natCast_eq_zero]at h;simp only[eH];rw[if_neg (by omega),if_neg (by omega)]
   rw[hc];have hl:s.length=p.length:=by simp[-List.length_eq_zero_iff,-Int.natCast_eq_zero]at h;omega
   refine go_loop (fun i:Nat=>aia (ints s) s.length i [ints s,ints p] G) (fun i=>i≤s.length∧qY s p (s.length-i) i=qY s p s.length 0) (fun i=>s.length-i) 0 rfl (by simp) (by simp) ?_
   rintro i ⟨hi,hq⟩;rw[←hq];simp +contextual (disch:=omega) [-getElem?_pos,-List.length_eq_zero_iff,-Int.natCast_eq_zero,wrap64,VU];refine bE (fun h1=>?_) (fun h1=>?_)
   ·have h1:i<s.length:=by omega
    rw[abL h1]at hq ⊢;simp +contextual (disch:=omega) [-getElem?_pos,-List.length_eq_zero_iff,-Int.natCast_eq_zero,wrap64,dj];refine fe (fun h=>?_) (fun h=>fe (fun h2=>?_) (fun h2=>?_))
    ·simp[-List.length_eq_zero_iff,-Int.natCast_eq_zero]at h
     rw[if_neg]<;>simp only[qi]<;>rw[if_pos (by omega)]
     decide
    ·simp[-List.length_eq_zero_iff,-Int.natCast_eq_zero]at h
     simp[-List.length_eq_zero_iff,-Int.natCast_eq_zero]at h2;have:qi s p i=1:=by
      simp only[qi];rw[if_neg (by omega),if_pos (by omega)]
     simp[this]
    ·simp[-List.length_eq_zero_iff,-Int.natCast_eq_zero]at h
     simp[-List.length_eq_zero_iff,-Int.natCast_eq_zero]at h2;have h0:qi s p i=0:=by
      simp only[qi];rw[if_neg (by omega),if_neg (by omega)]
     rw[if_pos h0]at hq ⊢;exact bF (i+1) (by simp) ⟨by omega,rfl⟩ (by omega)
   ·obtain rfl:i=s.length:=by omega
    simp[qY])
def li(s:List Int)(k:Int):Nat→Nat
 |0=>0
 |m+1=>if nth s m≤k then m else li s k m
theorem QI{s:List Int}{k:Int}:∀{m:Nat},0<m→li s k m<m
 |m+1,_=>by
  unfold li;split
  ·omega
  ·rcases Nat.eq_zero_or_pos m with h|h
   ·subst h;simp[li]
   ·have:=QI (s:=s) (k:=k) h;omega
def day(s:List Int)(j:Nat):Int:=li s j s.length
theorem abM{s p:List Int}(h:∀i,i<s.length→0≤nth s i∧nth s i≤95)(hl:s.length≤96)(G:List aP):aX F 88 [tn s p] G=some (.agg (ek 96 (day s)),G) :=
 bM rfl rfl (by
  simp +contextual (disch:=omega) [-getElem?_pos,-List.length_eq_zero_iff,-Int.natCast_eq_zero,wrap64,V7];refine go_loop (fun i:Nat=>aiv (ints s) s.length i (ek 96 fun _=>0) (ek 96 fun j=>li s j i) G) (fun i=>i≤s.length) (fun i=>s.length-i) 0 rfl (by simp[li]) (by omega) ?_
  intro i hi;simp +contextual (disch:=omega) [-getElem?_pos,-List.length_eq_zero_iff,-Int.natCast_eq_zero,wrap64,V6,dj];refine bE (fun h1=>?_) (fun h1=>?_)
  ·have h1:i<s.length:=by omega
   simp +contextual (disch:=omega) [-getElem?_pos,-List.length_eq_zero_iff,-Int.natCast_eq_zero,wrap64,dj];obtain⟨h2,h3⟩:=h i h1;refine go_loop (fun k:Nat=>ait i k (ints s) s.length i (ek 96 fun _=>0) (ek 96 fun j=>if nth s i≤j∧j<k then i else li s j i) G) (fun k=>nth s i≤k∧k≤96) (fun k=>96-k) (nth s i).toNat rfl ?_ (by omega) ?_
   ·simp[Int.toNat_of_nonneg h2]
    apply C3;intro j _;rw[if_neg (by omega)]
   ·rintro k ⟨K0,mP⟩
    simp +contextual (disch:=omega) [-getElem?_pos,-List.length_eq_zero_iff,-Int.natCast_eq_zero,wrap64,V5];refine bE (fun h4=>?_) (fun h4=>?_)
    ·simp +contextual (disch:=omega) [-getElem?_pos,-List.length_eq_zero_iff,-Int.natCast_eq_zero,wrap64,wrap64]
     refine bF (k+1) ?_ (by omega) (by omega)
     simp;apply C3;intro j hj;by_cases Pu:j=k
     ·subst Pu;simp[K0]
     ·simp only[Pu,if_false]
      congr 1;simp;omega
    ·obtain rfl:k=96:=by omega
     refine bF (i+1) ?_ (by omega) (by omega)
     simp;apply C3;intro j hj;simp[li,hj];split<;>rfl
  ·obtain rfl:i=s.length:=by omega
   rfl)
def pr(s p:List Int)(t:Int):Int:=nth p (li s (t.tmod 96) s.length)
structure Valid(s p:List Int):Prop where
 pos:0<s.length
 len:s.length=p.length
 jo:s.length≤96
 zero:nth s 0=0
 up:∀i,i+1<s.length→nth s i<nth s (i+1)
 top:∀i,i<s.length→0≤nth s i∧nth s i≤95
 awA:∀i,i<s.length→0≤nth p i∧nth p i≤10000
theorem abN{s p:List Int}:∀{m i:Nat},qY s p m i=0→∀j,j<m→qi s p (i+j)=0
 |m+1,i,h,j,hj=>by
  unfold qY at h;split at h
  ·rename_i h0
   cases j with
   |zero=>exact h0
   |succ j=>rw[show i+(j+1)=(i+1)+j by omega];exact abN h j (by omega)
  ·rename_i h0;exact absurd h h0
theorem KF{s p:List Int}(h:eH s p=0):Valid s p:=by
 unfold eH at h;split at h
 ·simp at h
 ·split at h
  ·simp at h
  ·rename_i h1 h2
   have h3:=fun j hj=>abN h j hj;simp only[Nat.zero_add]at h3;have h4:∀j,j<s.length→¬((j=0∧nth s j≠0)∨(0<j∧nth s j≤nth s (j-1)))∧¬(95<nth s j∨nth p j<0∨10000<nth p j):=fun j hj=>by
    have:=h3 j hj;unfold qi at this;split at this
    ·simp at this
    ·split at this
     ·simp at this
     ·exact⟨by assumption,by assumption⟩
   have h5:nth s 0=0:=by have:=h4 0 (by omega);omega
   have h6:∀i,i+1<s.length→nth s i<nth s (i+1):=fun i hi=>by have:=h4 (i+1) hi;simp at this;omega
   have h7:∀i,i<s.length→0≤nth s i:=fun i=>by
    induction i with
    |zero=>omega
    |succ i ih=>intro hi;have:=ih (by omega);have:=h6 i hi;omega
   exact⟨by omega,by omega,by omega,h5,h6,fun i hi=>⟨h7 i hi,by have:=h4 i hi;omega⟩,fun i hi=>by have:=h4 i hi;omega⟩
def vK(s p:List Int)(t:Int):V :=
 if eH s p≠0 then .tuple [i64 0,i64 (eH s p)] else if t<0∨16777216<t then .tuple [i64 0,i64 6] else .tuple [i64 (pr s p t),i64 0]
theorem QJ{t n:Int}(h:0≤t)(hn:0<n):0≤t.tmod n∧t.tmod n<n :=
 ⟨Int.tmod_nonneg _ h,Int.tmod_lt_of_pos _ hn⟩
theorem abO(s p:List Int)(t:Int)(G:List aP):aX F 34 [tn s p,i64 t] G=some (vK s p t,G) :=
 bM rfl rfl (by
  by_cases hc:eH s p=0
  ·have hv:=KF hc
   have hd:=abM (p:=p) hv.top hv.jo [];simp +contextual (disch:=omega) [-getElem?_pos,-List.length_eq_zero_iff,-Int.natCast_eq_zero,wrap64,Nv,uA,hc,hd];refine fe (fun h=>?_) (fun h=>?_)
   ·simp at h
    simp[vK,hc,h]
   ·simp at h
    obtain⟨h1,h2⟩:=QJ (t:=t) (n:=96) (by omega) (by omega)
    have h3:(t.tmod 96).toNat<96:=by omega
    have h4:=QI (s:=s) (k:=t.tmod 96) hv.pos;have h5:li s (t.tmod 96) s.length<p.length:=by rw[←hv.len];exact h4
    have h6:((t.tmod 96).toNat:Int)=t.tmod 96:=by omega
    have h7:¬ (t<0∨16777216<t):=by omega
    simp[-getElem?_pos,h1,h2,h3,nk,day,h6,dj,h5];simp[vK,hc,h7,pr]
  ·simp +contextual (disch:=omega) [-getElem?_pos,-List.length_eq_zero_iff,-Int.natCast_eq_zero,wrap64,Nv,uA,hc]
   simp[vK,hc])
theorem abP{s:List Int}{k:Int}{m:Nat}:li s k (m+1)=if nth s m≤k then m else li s k m:=rfl
theorem ap3(s p:List Int)(t:Int)(G:List aP):aX F 132 [tn s p,i64 t] G=some (vK s p t,G) :=
 bM rfl rfl (by
  by_cases hc:eH s p=0
  ·have hv:=KF hc
   simp +contextual (disch:=omega) [-getElem?_pos,-List.length_eq_zero_iff,-Int.natCast_eq_zero,wrap64,NX,uB,hc];refine fe (fun h=>?_) (fun h=>?_)
   ·simp at h
    simp[vK,hc,h]
   ·simp at h
    obtain⟨h1,h2⟩:=QJ (t:=t) (n:=96) (by omega) (by omega)
    have h7:¬ (t<0∨16777216<t):=by omega
    refine go_loop (fun i:Nat=>ajf t (if i=0 then 0 else nth p (li s (t.tmod 96) i)) (ints s) s.length i [ints s,ints p] G) (fun i=>i≤s.length) (fun i=>s.length-i) 0 rfl (by simp) (by omega) ?_
    intro i hi;have hl:=hv.jo;have lM:=hv.len;simp +contextual (disch:=omega) [-getElem?_pos,-List.length_eq_zero_iff,-Int.natCast_eq_zero,wrap64,WE];refine bE (fun h1=>?_) (fun h1=>?_)
    ·have h1:i<s.length:=by omega
     simp +contextual (disch:=omega) [-getElem?_pos,-List.length_eq_zero_iff,-Int.natCast_eq_zero,wrap64,dj];refine bE (fun h1=>?_) (fun h1=>?_)
     ·refine bF (i+1) ?_ (by omega) (by omega)
      simp[abP,h1]
     ·refine bF (i+1) ?_ (by omega) (by omega)
      simp[abP,h1];intro h0;subst h0;have:=hv.zero;omega
    ·obtain rfl:i=s.length:=by omega
     have h8:s≠[]:=fun e=>by have:=hv.pos;simp[e]at this
     simp[vK,hc,h7,pr,h8]
  ·simp +contextual (disch:=omega) [-getElem?_pos,-List.length_eq_zero_iff,-Int.natCast_eq_zero,wrap64,NX,uB,hc]
   simp[vK,hc])
instance:Inhabited Ps:=⟨⟨[],[],[]⟩⟩
abbrev Ec(l:List Dr):V:=.slice none 7 (l.map Dr.row)
abbrev qj(l:List Ps):V:=.slice none 3 (l.map Ps.row)
def rf(q:Int):List Dr→Int→Option Int
 |[],n=>some n
 |r::rs,n=>if r.pow<0∨8589934592<r.pow then none else rf q rs (IntKind.i64.wrap (n+IntKind.i64.wrap (r.pow*q)))
def oO(s p:List Int)(t:Int):List Ps→Int→Option Int
 |[],n=>some n
 |x::l,n=>match rf (pr s p t) x.re n with
  |none=>none
  |some n=>oO s p (t+1) l n
def oP(l:List Ps):Bool:=l.any fun x=>decide (6<x.re.length)
def wU(s p:List Int)(t:Int)(l:List Ps):V :=
 if eH s p≠0 then .tuple [i64 0,i64 (eH s p)]
 else if 400<l.length then .tuple [i64 0,i64 10]
 else if oP l=true then .tuple [i64 0,i64 10]
 else if t<0∨(0<l.length∧16777216-(l.length:Int)+1<t) then .tuple [i64 0,i64 6]
 else match oO s p t l 0 with
  |none=>.tuple [i64 0,i64 1]
  |some n=>.tuple [i64 n,i64 0]
theorem QK{l:List Ps}{i:Nat}(h:i<l.length):oP (l.drop i)=(decide (6<(nth l i).re.length) || oP (l.drop (i+1))):=by
 rw[mc h];rfl
theorem KG{s p:List Int}{t n:Int}{l:List Ps}{i:Nat}(h:i<l.length):oO s p t (l.drop i) n=match rf (pr s p t) (nth l i).re n with
  |none=>none
  |some n=>oO s p (t+1) (l.drop (i+1)) n:=by
 rw[mc h];rfl
theorem KH{q n:Int}{l:List Dr}{i:Nat}(h:i<l.length):rf q (l.drop i) n=if (nth l i).pow<0∨8589934592<(nth l i).pow then none else rf q (l.drop (i+1)) (IntKind.i64.wrap (n+IntKind.i64.wrap ((nth l i).pow*q))):=by
 rw[mc h];rfl
theorem QL{l:List Ps}(h:¬ oP l=true){i:Nat}(hi:i<l.length):(nth l i).re.length≤6:=by
 have h1:oP (l.drop i)=true→oP l=true:=fun h1=>by
  simp only[oP,List.any_eq_true]at h1 ⊢;obtain⟨x,hx,h2⟩:=h1;exact⟨x,List.mem_of_mem_drop hx,h2⟩
 rw[QK hi]at h1;by_cases h2:6<(nth l i).re.length
 ·exact absurd (h1 (by simp[h2])) h
 ·omega
theorem abQ(s p:List Int)(t:Int)(l:List Ps)(G:List aP):aX F 75 [tn s p,i64 t,qj l] G=some (wU s p t l,G) :=
 bM rfl rfl (by
  generalize hW:wU s p t l=W;by_cases hc:eH s p=0
  ·have hv:=KF hc
   have hd:=abM (p:=p) hv.top hv.jo [];have hl:=hv.len;simp only[wU]at hW;rw[if_neg (by simpa using hc)]at hW
   simp +contextual (disch:=omega) [-getElem?_pos,-List.length_eq_zero_iff,-Int.natCast_eq_zero,wrap64,NG,uA,hc];refine bE (fun h=>?_) (fun h=>?_)
   ·rw[if_pos (by omega)]at hW
    exact hW
   ·rw[if_neg (by omega)]at hW
    refine go_loop (fun i:Nat=>ahT t (qj l) (qj l) l.length i [ints s,ints p] G) (fun i=>i≤l.length∧oP (l.drop i)=oP l) (fun i=>l.length-i) 0 rfl (by simp) (by simp) ?_
    rintro i ⟨hi,hb⟩;simp +contextual (disch:=omega) [-getElem?_pos,-List.length_eq_zero_iff,-Int.natCast_eq_zero,wrap64,VI];refine bE (fun h1=>?_) (fun h1=>?_)
    ·have h1:i<l.length:=by omega
     rw[QK h1]at hb;simp +contextual (disch:=omega) [-getElem?_pos,-List.length_eq_zero_iff,-Int.natCast_eq_zero,wrap64,a8 (l:=l)];refine bE (fun h2=>?_) (fun h2=>?_)
     ·have hb:oP l=true:=by rw[←hb];simp;left;omega
      rw[if_pos hb]at hW;exact hW
     ·refine bF (i+1) (by simp) ⟨by omega,?_⟩ (by omega)
      rw[←hb];have:¬ (6<(nth l i).re.length):=by omega
      simp[this]
    ·obtain rfl:i=l.length:=by omega
     have hb:¬ (oP l=true):=by rw[←hb];simp[oP]
     rw[if_neg hb]at hW;simp +contextual (disch:=omega) [-getElem?_pos,-List.length_eq_zero_iff,-Int.natCast_eq_zero,wrap64,hd];refine fe (fun h2=>?_) (fun h2=>?_)
     ·simp[-List.length_eq_zero_iff,-Int.natCast_eq_zero]at h2
      rw[if_pos (by omega)]at hW
      exact hW
     ·simp[-List.length_eq_zero_iff,-Int.natCast_eq_zero]at h2
      rw[if_neg (by omega)]at hW
      refine go_loop (fun x:Nat×Int=>ah0 t x.2 (qj l) l.length x.1 [ints s,ints p] (ek 96 (day s)) G) (fun x=>x.1≤l.length∧oO s p (t+x.1) (l.drop x.1) x.2=oO s p t l 0) (fun x=>l.length-x.1) (0,0) rfl (by simp) (by simp) ?_
      rintro⟨i,n⟩ ⟨hi,hw⟩;simp only at hi hw;simp +contextual (disch:=omega) [-getElem?_pos,-List.length_eq_zero_iff,-Int.natCast_eq_zero,wrap64,VK];refine bE (fun h3=>?_) (fun h3=>?_)
      ·have h3:i<l.length:=by omega
       rw[KG h3]at hw;obtain⟨h5,h6⟩:=QJ (t:=t+i) (n:=96) (by omega) (by omega)
       have h7:((t+i).tmod 96).toNat<96:=by omega
       have h8:li s ((t+i).tmod 96) s.length<p.length:=by rw[←hl];exact QI hv.pos
       have h9:(((t+i).tmod 96).toNat:Int)=(t+i).tmod 96:=by omega
       have fO:=QL hb h3;simp +contextual (disch:=omega) [-getElem?_pos,-List.length_eq_zero_iff,-Int.natCast_eq_zero,wrap64,a8 (l:=l)];refine go_loop (fun x:Nat×Int=>ahV t x.2 i (qj l) l.length i (Ec (nth l i).re) (nth l i).re.length x.1 [ints s,ints p] (ek 96 (day s)) G)
        (fun x=>x.1≤(nth l i).re.length∧rf (pr s p (t+i)) ((nth l i).re.drop x.1) x.2=rf (pr s p (t+i)) (nth l i).re n) (fun x=>(nth l i).re.length-x.1) (0,n) rfl (by simp) (by simp) ?_
       rintro⟨j,m⟩ ⟨hj,hr⟩;simp only at hj hr;simp +contextual (disch:=omega) [-getElem?_pos,-List.length_eq_zero_iff,-Int.natCast_eq_zero,wrap64,VJ];refine bE (fun h4=>?_) (fun h4=>?_)
       ·have h4:j<(nth l i).re.length:=by omega
        rw[KH h4]at hr;simp +contextual (disch:=omega) [-getElem?_pos,-List.length_eq_zero_iff,-Int.natCast_eq_zero,wrap64,a8 (l:=(nth l i).re)];refine fe (fun iA=>?_) (fun iA=>?_)
        ·simp[-List.length_eq_zero_iff,-Int.natCast_eq_zero]at iA
         rw[if_pos (by omega)]at hr
         rw[←hr]at hw;rw[←hw]at hW;exact hW
        ·simp[-List.length_eq_zero_iff,-Int.natCast_eq_zero]at iA
         rw[if_neg (by omega)]at hr
         simp +contextual (disch:=omega) [-getElem?_pos,-List.length_eq_zero_iff,-Int.natCast_eq_zero,wrap64,h5,h6,h7,h9,nk,day,dj];exact bF (j+1,_) (by simp[pr];rfl) ⟨by omega,hr⟩ (by simp;omega)
       ·obtain rfl:j=(nth l i).re.length:=by omega
        simp only[List.drop_length,rf]at hr;rw[←hr]at hw;refine bF (i+1,m) (by simp) ⟨by omega,?_⟩ (by simp;omega)
        simp only at hw ⊢;rw[←hw];congr 1;simp;omega
      ·obtain rfl:i=l.length:=by omega
       simp only[List.drop_length,oO]at hw;rw[←hw]at hW;exact hW
  ·simp +contextual (disch:=omega) [-getElem?_pos,-List.length_eq_zero_iff,-Int.natCast_eq_zero,wrap64,NG,uA,hc]
   simp[wU,hc]at hW;exact hW)
theorem abR(s p:List Int)(t:Int)(l:List Ps)(G:List aP):aX F 82 [tn s p,i64 t,qj l] G=some (wU s p t l,G) :=
 bM rfl rfl (by
  generalize hW:wU s p t l=W;by_cases hc:eH s p=0
  ·have hv:=KF hc
   have hd:=fun u=>ap3 s p u [];have hl:=hv.len;simp only[wU]at hW;rw[if_neg (by simpa using hc)]at hW
   simp +contextual (disch:=omega) [-getElem?_pos,-List.length_eq_zero_iff,-Int.natCast_eq_zero,wrap64,NJ,uB,hc];refine bE (fun h=>?_) (fun h=>?_)
   ·rw[if_pos (by omega)]at hW
    exact hW
   ·rw[if_neg (by omega)]at hW
    refine go_loop (fun i:Nat=>aie t (qj l) (qj l) l.length i [ints s,ints p] G) (fun i=>i≤l.length∧oP (l.drop i)=oP l) (fun i=>l.length-i) 0 rfl (by simp) (by simp) ?_
    rintro i ⟨hi,hb⟩;simp +contextual (disch:=omega) [-getElem?_pos,-List.length_eq_zero_iff,-Int.natCast_eq_zero,wrap64,VX];refine bE (fun h1=>?_) (fun h1=>?_)
    ·have h1:i<l.length:=by omega
     rw[QK h1]at hb;simp +contextual (disch:=omega) [-getElem?_pos,-List.length_eq_zero_iff,-Int.natCast_eq_zero,wrap64,a8 (l:=l)];refine bE (fun h2=>?_) (fun h2=>?_)
     ·have hb:oP l=true:=by rw[←hb];simp;left;omega
      rw[if_pos hb]at hW;exact hW
     ·refine bF (i+1) (by simp) ⟨by omega,?_⟩ (by omega)
      rw[←hb];have:¬ (6<(nth l i).re.length):=by omega
      simp[this]
    ·obtain rfl:i=l.length:=by omega
     have hb:¬ (oP l=true):=by rw[←hb];simp[oP]
     rw[if_neg hb]at hW;refine fe (fun h2=>?_) (fun h2=>?_)
     ·simp[-List.length_eq_zero_iff,-Int.natCast_eq_zero]at h2
      rw[if_pos (by omega)]at hW
      exact hW
     ·simp[-List.length_eq_zero_iff,-Int.natCast_eq_zero]at h2
      rw[if_neg (by omega)]at hW
      refine go_loop (fun x:Nat×Int=>ail t x.2 (qj l) l.length x.1 [ints s,ints p] G) (fun x=>x.1≤l.length∧oO s p (t+x.1) (l.drop x.1) x.2=oO s p t l 0) (fun x=>l.length-x.1) (0,0) rfl (by simp) (by simp) ?_
      rintro⟨i,n⟩ ⟨hi,hw⟩;simp only at hi hw;simp +contextual (disch:=omega) [-getElem?_pos,-List.length_eq_zero_iff,-Int.natCast_eq_zero,wrap64,VZ];refine bE (fun h3=>?_) (fun h3=>?_)
      ·have h3:i<l.length:=by omega
       rw[KG h3]at hw;have h5:¬(t+i<0∨16777216<t+i):=by omega
       have fO:=QL hb h3;simp +contextual (disch:=omega) [-getElem?_pos,-List.length_eq_zero_iff,-Int.natCast_eq_zero,wrap64,a8 (l:=l),hd,vK,hc,h5];refine go_loop (fun x:Nat×Int=>aih t x.2 (pr s p (t+i)) (qj l) l.length i (Ec (nth l i).re) (nth l i).re.length x.1 [ints s,ints p] G)
        (fun x=>x.1≤(nth l i).re.length∧rf (pr s p (t+i)) ((nth l i).re.drop x.1) x.2=rf (pr s p (t+i)) (nth l i).re n) (fun x=>(nth l i).re.length-x.1) (0,n) rfl (by simp) (by simp) ?_
       rintro⟨j,m⟩ ⟨hj,hr⟩;simp only at hj hr;simp +contextual (disch:=omega) [-getElem?_pos,-List.length_eq_zero_iff,-Int.natCast_eq_zero,wrap64,VY];refine bE (fun h4=>?_) (fun h4=>?_)
       ·have h4:j<(nth l i).re.length:=by omega
        rw[KH h4]at hr;simp +contextual (disch:=omega) [-getElem?_pos,-List.length_eq_zero_iff,-Int.natCast_eq_zero,wrap64,a8 (l:=(nth l i).re)];refine fe (fun iA=>?_) (fun iA=>?_)
        ·simp[-List.length_eq_zero_iff,-Int.natCast_eq_zero]at iA
         rw[if_pos (by omega)]at hr
         rw[←hr]at hw;rw[←hw]at hW;exact hW
        ·simp[-List.length_eq_zero_iff,-Int.natCast_eq_zero]at iA
         rw[if_neg (by omega)]at hr
         exact bF (j+1,_) (by simp[Int.mul_comm];rfl) ⟨by omega,hr⟩ (by simp;omega)
       ·obtain rfl:j=(nth l i).re.length:=by omega
        simp only[List.drop_length,rf]at hr;rw[←hr]at hw;refine bF (i+1,m) (by simp) ⟨by omega,?_⟩ (by simp;omega)
        simp only at hw ⊢;rw[←hw];congr 1;simp;omega
      ·obtain rfl:i=l.length:=by omega
       simp only[List.drop_length,oO]at hw;rw[←hw]at hW;exact hW
  ·simp +contextual (disch:=omega) [-getElem?_pos,-List.length_eq_zero_iff,-Int.natCast_eq_zero,wrap64,NJ,uB,hc]
   simp[wU,hc]at hW;exact hW)
abbrev QM(s p:List Int):V:=.agg [.slice (some 0) 1 (s.map fun n=>[i64 n]),.slice (some 0) 1 (p.map fun n=>[i64 n])]
theorem abS{l:List Int}{k:Nat}(hd:db l k):∃s p k',aX F 30 [.bG 0 0] [dk l k]=some (QM s p,[dk l k'])∧db l k':=by
 suffices h:∀Q:V→List aP→Prop,(∀s p k',db l k'→Q (QM s p) [dk l k'])→gy (aX F) 30 [.bG 0 0] [dk l k] Q by
  obtain⟨_,_,h,s,p,k',rfl,rfl,h1⟩:=h (fun v G=>∃s p k',v=QM s p∧G=[dk l k']∧db l k') fun s p k' a=>⟨s,p,k',rfl,rfl,a⟩;exact⟨s,p,k',h,h1⟩
 intro Q hQ;refine gS rfl rfl ?_;obtain⟨a,k1,h1,gB,ha⟩:=fK hd 20 (by omega)
 obtain⟨b,k2,h2,eX,hb⟩:=fK gB 4 (by omega)
 simp +contextual (disch:=omega) [-getElem?_pos,-List.length_eq_zero_iff,-Int.natCast_eq_zero,wrap64,U9,h1,h2];refine go_loop (fun x:List Int×List Int×Int×Nat=>ag1 (.bG 0 0) x.2.2.1 [.bV,.bV] [.slice (some 1006) 1 (x.1.map fun n=>[i64 n]),.slice (some 1009) 1 (x.2.1.map fun n=>[i64 n])] x.1.length x.2.1.length [dk l x.2.2.2])
  (fun x=>(∀i,i<x.1.length→0≤nth x.1 i∧nth x.1 i≤95)∧0<x.1.length∧x.1.length=x.2.1.length∧(x.1.length:Int)+x.2.2.1≤5∧0≤x.2.2.1∧db l x.2.2.2) (fun x=>x.2.2.1.toNat) ([0],[a],b,k2) rfl (by simp) ⟨fun i hi=>by simp at hi;subst hi;simp[nth],by simp,rfl,by simp;omega,by simp;omega,eX⟩ ?_
 rintro⟨s,p,b,k⟩ ⟨hv,hp,hl,Jx,wq,hd⟩;simp only at hv hp hl Jx wq hd;simp +contextual (disch:=omega) [-getElem?_pos,-List.length_eq_zero_iff,-Int.natCast_eq_zero,wrap64,U8];refine bE (fun h=>?_) (fun h=>?_)
 ·obtain⟨c,k1,h1,gB,hc⟩:=fK hd 30 (by omega)
  have ht:=hv (s.length-1) (by omega)
  simp +contextual (disch:=omega) [-getElem?_pos,-List.length_eq_zero_iff,-Int.natCast_eq_zero,wrap64,h1,dj];refine bE (fun h3=>?_) (fun h3=>?_)
  ·obtain⟨q,k2,h4,eX,hq⟩:=fK gB 20 (by omega)
   simp +contextual (disch:=omega) [-getElem?_pos,-List.length_eq_zero_iff,-Int.natCast_eq_zero,wrap64,h4];exact bF (s++[nth s (s.length-1)+1+c],p++[q],b-1,k2) (by simp) ⟨fun i hi=>by
    simp at hi;rw[iF];split
    ·exact hv i (by assumption)
    ·rw[if_pos (by omega)];omega,by simp,by simp[hl],by simp;omega,by simp;omega,eX⟩ (by simp;omega)
  ·exact bF (s,p,b-1,k1) (by simp) ⟨hv,hp,hl,by simp;omega,by simp;omega,gB⟩ (by simp;omega)
 ·exact hQ s p k hd
abbrev QN(l:List (List Int)):V:=.slice (some 0) 1 (l.map fun p=>[ints p])
theorem Hh{l:List Int}{k:Nat}(hd:db l k){c:Cs}(hn:1≤c.r.n∧c.r.n≤40)(hs:c.s.length≤10)(t:Int){n:Nat}(hm:n≤1000) :
  ∃p k',aX F 28 [.bG 0 0,cs c,i64 t,i64 n] [dk l k]=some (.agg [i64 t,QN p],[dk l k'])∧db l k'∧p.length=n:=by
 suffices h:∀Q:V→List aP→Prop,(∀p k',db l k'→p.length=n→Q (.agg [i64 t,QN p]) [dk l k'])→gy (aX F) 28 [.bG 0 0,cs c,i64 t,i64 n] [dk l k] Q by
  obtain⟨_,_,h,q,k',rfl,rfl,h1⟩:=h (fun v G=>∃p k',v=.agg [i64 t,QN p]∧G=[dk l k']∧db l k'∧p.length=n) fun p k' a b=>⟨p,k',rfl,rfl,a,b⟩;exact⟨q,k',h,h1⟩
 intro Q hQ;refine gS rfl rfl ?_;simp (disch:=omega) [wrap64,U5];refine go_loop (fun y:List (List Int)×Nat=>agW (.bG 0 0) n y.1.length c.row [z0,.bV] [i64 t,.slice (some 1022) 1 (y.1.map fun p=>[ints p])] y.1.length [dk l y.2]) (fun y=>y.1.length≤n∧db l y.2) (fun y=>n-y.1.length) ([],k) rfl (by simp) ⟨by simp,hd⟩ ?_
 rintro⟨p,k⟩ ⟨h1,hd⟩;simp only at h1 hd;simp (disch:=omega) [wrap64,U4];refine bE (fun h5=>?_) (fun h5=>?_)
 ·obtain⟨q,k2,n2,eX,hp⟩:=Qd hd (c:=c) hn hs
  simp (disch:=omega) [wrap64,n2];exact bF (p++[q.c],k2) (by simp) ⟨by simp;omega,eX⟩ (by simp;omega)
 ·obtain e:p.length=n:=by omega
  exact hQ p k hd e
def oQ:List Dr→Int→Int
 |[],n=>n
 |r::rs,n=>oQ rs (IntKind.i64.wrap (n+r.jW))
def m9:List Ps→Int→Int
 |[],n=>n
 |x::l,n=>m9 l (oQ x.re n)
theorem abT{l:List Ps}(hl:l.length≤1000)(hb:∀i,i<l.length→(nth l i).re.length≤1000)(G:List aP):aX F 79 [qj l] G=some (i64 (m9 l 0),G) :=
 bM rfl rfl (by
  generalize hW:m9 l 0=W;simp +contextual (disch:=omega) [-getElem?_pos,-List.length_eq_zero_iff,-Int.natCast_eq_zero,wrap64,VT];refine go_loop (fun x:Nat×Int=>ah8 x.2 (qj l) l.length x.1 G) (fun x=>x.1≤l.length∧m9 (l.drop x.1) x.2=W) (fun x=>l.length-x.1) (0,0) rfl (by simp) (by simp[hW]) ?_
  rintro⟨i,n⟩ ⟨hi,hw⟩;simp only at hi hw;simp +contextual (disch:=omega) [-getElem?_pos,-List.length_eq_zero_iff,-Int.natCast_eq_zero,wrap64,VS];refine bE (fun h3=>?_) (fun h3=>?_)
  ·have h3:i<l.length:=by omega
   rw[mc h3]at hw;simp only[m9]at hw;have hb:=hb i h3;simp +contextual (disch:=omega) [-getElem?_pos,-List.length_eq_zero_iff,-Int.natCast_eq_zero,wrap64,a8 (l:=l)];refine go_loop (fun x:Nat×Int=>ah6 x.2 (qj l) l.length i (Ec (nth l i).re) (nth l i).re.length x.1 G) (fun x=>x.1≤(nth l i).re.length∧oQ ((nth l i).re.drop x.1) x.2=oQ (nth l i).re n) (fun x=>(nth l i).re.length-x.1) (0,n) rfl (by simp) (by simp) ?_
   rintro⟨j,m⟩ ⟨hj,hr⟩;simp only at hj hr;simp +contextual (disch:=omega) [-getElem?_pos,-List.length_eq_zero_iff,-Int.natCast_eq_zero,wrap64,VR];refine bE (fun h4=>?_) (fun h4=>?_)
   ·have h4:j<(nth l i).re.length:=by omega
    rw[mc h4]at hr;simp only[oQ]at hr;simp +contextual (disch:=omega) [-getElem?_pos,-List.length_eq_zero_iff,-Int.natCast_eq_zero,wrap64,a8 (l:=(nth l i).re)];exact bF (j+1,IntKind.i64.wrap (m+(nth (nth l i).re j).jW)) (by simp (disch:=omega) [wrap64]) ⟨by omega,hr⟩ (by simp;omega)
   ·obtain rfl:j=(nth l i).re.length:=by omega
    simp only[List.drop_length,oQ]at hr;rw[←hr]at hw;exact bF (i+1,m) (by simp (disch:=omega) [wrap64]) ⟨by omega,hw⟩ (by simp;omega)
  ·obtain rfl:i=l.length:=by omega
   simpa [m9] using hw)
theorem abU{l:List Ps}(hl:l.length≤1000)(hb:∀i,i<l.length→(nth l i).re.length≤1000)(G:List aP):aX F 83 [qj l] G=some (i64 (m9 l 0),G) :=
 bM rfl rfl (by
  generalize hW:m9 l 0=W;simp +contextual (disch:=omega) [-getElem?_pos,-List.length_eq_zero_iff,-Int.natCast_eq_zero,wrap64,V2];refine go_loop (fun x:Nat×Int=>aip x.2 (qj l) l.length x.1 G) (fun x=>x.1≤l.length∧m9 (l.drop x.1) x.2=W) (fun x=>l.length-x.1) (0,0) rfl (by simp) (by simp[hW]) ?_
  rintro⟨i,n⟩ ⟨hi,hw⟩;simp only at hi hw;simp +contextual (disch:=omega) [-getElem?_pos,-List.length_eq_zero_iff,-Int.natCast_eq_zero,wrap64,V1];refine bE (fun h3=>?_) (fun h3=>?_)
  ·have h3:i<l.length:=by omega
   rw[mc h3]at hw;simp only[m9]at hw;have hb:=hb i h3;simp +contextual (disch:=omega) [-getElem?_pos,-List.length_eq_zero_iff,-Int.natCast_eq_zero,wrap64,a8 (l:=l)];refine go_loop (fun x:Nat×Int=>ain x.2 (qj l) l.length i (Ec (nth l i).re) (nth l i).re.length x.1 G) (fun x=>x.1≤(nth l i).re.length∧oQ ((nth l i).re.drop x.1) x.2=oQ (nth l i).re n) (fun x=>(nth l i).re.length-x.1) (0,n) rfl (by simp) (by simp) ?_
   rintro⟨j,m⟩ ⟨hj,hr⟩;simp only at hj hr;simp +contextual (disch:=omega) [-getElem?_pos,-List.length_eq_zero_iff,-Int.natCast_eq_zero,wrap64,V0];refine bE (fun h4=>?_) (fun h4=>?_)
   ·have h4:j<(nth l i).re.length:=by omega
    rw[mc h4]at hr;simp only[oQ]at hr;simp +contextual (disch:=omega) [-getElem?_pos,-List.length_eq_zero_iff,-Int.natCast_eq_zero,wrap64,a8 (l:=(nth l i).re)];exact bF (j+1,IntKind.i64.wrap (m+(nth (nth l i).re j).jW)) (by simp (disch:=omega) [wrap64]) ⟨by omega,hr⟩ (by simp;omega)
   ·obtain rfl:j=(nth l i).re.length:=by omega
    simp only[List.drop_length,oQ]at hr;rw[←hr]at hw;exact bF (i+1,m) (by simp (disch:=omega) [wrap64]) ⟨by omega,hw⟩ (by simp;omega)
  ·obtain rfl:i=l.length:=by omega
   simpa [m9] using hw)
def wE(s p:List Int)(t:Int)(l:List Ps):Int :=
 if eH s p≠0 then eH s p else if 400<l.length then 10 else if oP l=true then 10 else if t<0∨(0<l.length∧16777216-(l.length:Int)+1<t) then 6
 else match oO s p t l 0 with
  |none=>1
  |some _=>0
def wN(s p:List Int)(t:Int)(l:List Ps):Int:=if wE s p t l=0 then (oO s p t l 0).getD 0 else 0
theorem abV{s p:List Int}{t:Int}{l:List Ps}:wU s p t l=.tuple [i64 (wN s p t l),i64 (wE s p t l)]:=by
 unfold wU wN wE
 repeat' split
 all_goals simp_all
theorem KI{t:Option Nat}{c:Cs}{f:Fl}{p:Pn}{l:List Sp}(h:ot c f p l=0) :
  vJ t c f p l=.tuple [fl (eo c f (eQ p l) l.length),.slice t 3 ((kn c f (eQ p l) l.length).map Ps.row),i64 0]:=by
 unfold ot at h;split at h
 ·rename_i h1;exact absurd h h1
 ·rename_i h1
  unfold vJ nE;rw[if_pos (Decidable.of_not_not h1),if_pos h,B8]
theorem KJ{t:Option Nat}{c:Cs}{f:Fl}{p:Pn}{l:List Sp}(h:ot c f p l≠0):vJ t c f p l=Qu t (ot c f p l):=by
 by_cases h1:tm c f p l.length=0
 ·have e:ot c f p l=lI c f (eQ p l):=by unfold ot;rw[if_neg (fun g=>g h1)]
  rw[e]at h ⊢;unfold vJ nE;rw[if_pos h1,if_neg h]
 ·unfold vJ ot
  rw[if_neg h1,if_pos h1]
theorem Hj{s p:List Int}{t:Int}{l:List Ps}(h:wE s p t l=0):l.length≤1000∧∀i,i<l.length→(nth l i).re.length≤1000:=by
 unfold wE at h;split at h
 ·rename_i h1;exact absurd h h1
 ·split at h
  ·cases h
  ·split at h
   ·cases h
   ·rename_i h2
    exact⟨by omega,fun i hi=>by have:=QL h2 hi;omega⟩
noncomputable def gF(c:Cs)(f:Fl)(p:Pn)(l:List Sp):List Ps:=kn c f (eQ p l) l.length
noncomputable def rh(s p:List Int)(c:Cs)(f:Fl)(a b:Pn)(l:List Sp):Int :=
 if eH s p≠0 then eH s p else if ot c f a l≠0 then ot c f a l else if ot c f b l≠0 then ot c f b l
 else if wE s p a.f (gF c f a l)≠0 then wE s p a.f (gF c f a l) else wE s p b.f (gF c f b l)
noncomputable def uC(s p:List Int)(c:Cs)(f:Fl)(a b:Pn)(l:List Sp):Bool :=
 decide (wN s p b.f (gF c f b l)<wN s p a.f (gF c f a l)) || (decide (wN s p a.f (gF c f a l)=wN s p b.f (gF c f b l))&&decide (m9 (gF c f a l) 0<m9 (gF c f b l) 0))
noncomputable def yJ(s p:List Int)(c:Cs)(f:Fl)(a b:Pn)(l:List Sp):V:=.tuple [.bool (decide (rh s p c f a b l=0)&&uC s p c f a b l),i64 (rh s p c f a b l)]
theorem abW(s p:List Int){c:Cs}(hr:gW c.r){f:Fl}(hf:jY f)(a b:Pn)(l:List Sp)(G:List aP):aX F 31 [tn s p,cs c,fl f,pn a,pn b,lW l] G=some (yJ s p c f a b l,G) :=
 bM rfl rfl (by
  generalize hW:yJ s p c f a b l=W;unfold yJ rh uC at hW;by_cases h0:eH s p=0
  case neg =>
   simp only[if_pos h0]at hW;simp (disch:=omega) [-getElem?_pos,wrap64,xO,uA,h0];simpa [h0] using hW
  obtain⟨t1,r1⟩:=abJ hr hf a l [];obtain⟨t2,r2⟩:=abJ hr hf b l [];by_cases h1:ot c f a l=0
  case neg =>
   rw[KJ h1]at r1;simp (disch:=omega) [-getElem?_pos,wrap64,xO,uA,h0,r1,h1];simpa [h0,h1] using hW
  rw[KI h1]at r1;by_cases h2:ot c f b l=0
  case neg =>
   rw[KJ h2]at r2;simp (disch:=omega) [-getElem?_pos,wrap64,xO,uA,h0,r1,r2,h2];simpa [h0,h1,h2] using hW
  rw[KI h2]at r2;have q1:=abQ s p a.f (gF c f a l) [];have q2:=abQ s p b.f (gF c f b l) [];rw[abV]at q1 q2;unfold gF at *;by_cases h3:wE s p a.f (kn c f (eQ a l) l.length)=0
  case neg =>
   simp (disch:=omega) [-getElem?_pos,wrap64,xO,uA,h0,r1,r2,q1,h3];simpa [h0,h1,h2,h3] using hW
  by_cases h4:wE s p b.f (kn c f (eQ b l) l.length)=0
  case neg =>
   simp (disch:=omega) [-getElem?_pos,wrap64,xO,uA,h0,r1,r2,q1,h3,q2,h4];simpa [h0,h1,h2,h3,h4] using hW
  obtain⟨z1,z2⟩:=Hj h3;obtain⟨z3,z4⟩:=Hj h4;have s1:=abT z1 z2 [];have s2:=abT z3 z4 [];by_cases g1:wN s p b.f (kn c f (eQ b l) l.length)<wN s p a.f (kn c f (eQ a l) l.length)
  ·simp (disch:=omega) [-getElem?_pos,wrap64,xO,uA,h0,r1,r2,q1,h3,q2,h4,s1,s2,g1]
   simpa [h0,h1,h2,h3,h4,g1] using hW
  by_cases g2:wN s p a.f (kn c f (eQ a l) l.length)=wN s p b.f (kn c f (eQ b l) l.length)
  ·simp (disch:=omega) [-getElem?_pos,wrap64,xO,uA,h0,r1,r2,q1,h3,q2,h4,s1,s2,g1,g2]
   simpa [h0,h1,h2,h3,h4,g1,g2] using hW
  ·simp (disch:=omega) [-getElem?_pos,wrap64,xO,uA,h0,r1,r2,q1,h3,q2,h4,s1,s2,g1,g2]
   simpa [h0,h1,h2,h3,h4,g1,g2] using hW)
theorem ap4(s p:List Int){c:Cs}(hr:gW c.r){f:Fl}(hf:jY f)(a b:Pn)(l:List Sp)(hp:∀i,i<l.length→(nth l i).a.length≤1000∧(nth l i).b.length≤1000)(G:List aP):aX F 32 [tn s p,cs c,fl f,pn a,pn b,lW l] G=some (yJ s p c f a b l,G) :=
 bM rfl rfl (by
  generalize hW:yJ s p c f a b l=W;unfold yJ rh uC at hW;by_cases h0:eH s p=0
  case neg =>
   simp only[if_pos h0]at hW;simp (disch:=omega) [-getElem?_pos,wrap64,xP,uB,h0];simpa [h0] using hW
  obtain⟨g1,r1⟩:=abK hr hf a l hp;obtain⟨g2,r2⟩:=abK hr hf b l hp;by_cases h1:ot c f a l=0
  case neg =>
   rw[KJ h1]at r1;simp (disch:=omega) [-getElem?_pos,wrap64,xP,uB,h0,r1,h1];simpa [h0,h1] using hW
  rw[KI h1]at r1;by_cases h2:ot c f b l=0
  case neg =>
   rw[KJ h2]at r2;simp (disch:=omega) [-getElem?_pos,wrap64,xP,uB,h0,r1,r2,h2];simpa [h0,h1,h2] using hW
  rw[KI h2]at r2;have q1:=abR s p a.f (gF c f a l) [];have q2:=abR s p b.f (gF c f b l) [];rw[abV]at q1 q2;unfold gF at *;by_cases h3:wE s p a.f (kn c f (eQ a l) l.length)=0
  case neg =>
   simp (disch:=omega) [-getElem?_pos,wrap64,xP,uB,h0,r1,r2,q1,h3];simpa [h0,h1,h2,h3] using hW
  by_cases h4:wE s p b.f (kn c f (eQ b l) l.length)=0
  case neg =>
   simp (disch:=omega) [-getElem?_pos,wrap64,xP,uB,h0,r1,r2,q1,h3,q2,h4];simpa [h0,h1,h2,h3,h4] using hW
  obtain⟨z1,z2⟩:=Hj h3;obtain⟨z3,z4⟩:=Hj h4;have s1:=abU z1 z2 [];have s2:=abU z3 z4 [];by_cases g1:wN s p b.f (kn c f (eQ b l) l.length)<wN s p a.f (kn c f (eQ a l) l.length)
  ·simp (disch:=omega) [-getElem?_pos,wrap64,xP,uB,h0,r1,r2,q1,h3,q2,h4,s1,s2,g1]
   simpa [h0,h1,h2,h3,h4,g1] using hW
  by_cases g2:wN s p a.f (kn c f (eQ a l) l.length)=wN s p b.f (kn c f (eQ b l) l.length)
  ·simp (disch:=omega) [-getElem?_pos,wrap64,xP,uB,h0,r1,r2,q1,h3,q2,h4,s1,s2,g1,g2]
   simpa [h0,h1,h2,h3,h4,g1,g2] using hW
  ·simp (disch:=omega) [-getElem?_pos,wrap64,xP,uB,h0,r1,r2,q1,h3,q2,h4,s1,s2,g1,g2]
   simpa [h0,h1,h2,h3,h4,g1,g2] using hW)
end Go.Proofs.YtocclbnghhaejaaGreat
